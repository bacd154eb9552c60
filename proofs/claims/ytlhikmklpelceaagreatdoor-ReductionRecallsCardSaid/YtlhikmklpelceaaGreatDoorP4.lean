/- A part of the proof: plain laws of what the functions compute. No condition. -/
import Derived.Test.YtlhikmklpelceaaGreatDoorP3
namespace Go.Proofs.YtlhikmklpelceaaGreatDoor.J13
open Go Go.TA
open Go.IntKind (i64)
def PGood (p:TPo):Prop:=good p.D=true/\True
variable {l:List TPo} {c:Y8} {y:Int}
theorem has_iff:hasP l c y=true↔∃ x∈l,x.D=c/\x.E=y:=by
 unfold hasP
 rw[y4h]
 exact⟨fun⟨x,h1,h2⟩=>⟨x,h1,zew.1 h2⟩,fun⟨x,h1,h2⟩=>⟨x,h1,zew.2 h2⟩⟩
def Srt (l:List TPo):Prop:=∀ i,i<l.length->i=0\/cmpP (l.getD (i-1) dF) (l.getD i dF)<0
variable {a b:TPo}
theorem zbz (h:good a.D=true\/good b.D=true):cmpP a b<0↔lexC (parts a.D) (parts b.D)<0\/(lexC (parts a.D) (parts b.D)=0/\a.E<b.E):=by
 unfold cmpP
 rw[z2u h]
 generalize lexC (parts a.D) (parts b.D)=c
 by_cases hc:c=0
 ·rw[y5 (by simpa using hc)]
  unfold cmpI
  by_cases h1:a.E<b.E
  ·rw[y6 h1]; simp[hc,h1]
  ·rw[y5 h1]
   split <;> simp[hc,h1]
 ·rw[y6 hc]; simp[hc]
theorem cmpP_eq (ha:good a.D=true) (hb:good b.D=true):cmpP a b=0↔a.D=b.D/\a.E=b.E:=by
 unfold cmpP
 rw[z2u (.inl ha)]
 by_cases hc:lexC (parts a.D) (parts b.D)=0
 ·rw[y5 (by simpa using hc)]
  have e:=z7z ha hb (z34 hc)
  unfold cmpI
  by_cases h1:a.E<b.E
  ·rw[y6 h1]; simp; omega
  ·rw[y5 h1]
   by_cases h2:a.E>b.E
   ·rw[y6 h2]; simp; omega
   ·rw[y5 h2]; simp[e]; omega
 ·rw[y6 hc]
  constructor
  ·intro h; exact absurd h hc
  ·rintro⟨h1,_⟩
   exact absurd (by rw[h1]; exact zay _) hc
theorem zdy {c:TPo} (ha:good a.D=true) (hb:good b.D=true) (h:cmpP a b<0) (h':cmpP b c<0):cmpP a c<0:=by
 rw[zbz (.inl ha)] at h |-
 rw[zbz (.inl hb)] at h'
 rcases h with h | ⟨h,h2⟩
 ·rcases h' with h' | ⟨h',_⟩
  ·exact .inl (z9q h h')
  ·rw[<- z34 h']; exact .inl h
 ·rcases h' with h' | ⟨h',h3⟩
  ·rw[z34 h]; exact .inl h'
  ·rw[z34 h]; exact .inr ⟨h',om⟩
theorem zo9 (ha:good a.D=true):cmpP b a=-cmpP a b:=by
 unfold cmpP
 rw[z2u (.inl ha),z2u (.inr ha),zaz (parts a.D) (parts b.D)]
 by_cases h:lexC (parts a.D) (parts b.D)=0
 ·rw[y5 om,y5 om]
  unfold cmpI
  by_cases h1:a.E<b.E
  ·rw[y5 om,y6 om,y6 h1]; rfl
  ·by_cases h2:b.E<a.E
   ·rw[y6 h2,y5 h1,y6 om]
   ·rw[y5 h2,y5 om,y5 h1,y5 om]; rfl
 ·rw[y6 om,y6 h]
theorem Srt.lt (h:Srt l) (hg:∀ r∈l,PGood r):∀ {i j:Nat},i<j->j<l.length->cmpP (l.getD i dF) (l.getD j dF)<0:=by
 intro i j hij
 induction j with
 | zero=>omega
 | succ j ih =>
  intro hj
  have h1:=(h (j+1) hj).resolve_left om
  rw[show j+1-1=j from om] at h1
  by_cases e:i=j
  ·subst e; exact h1
  ·exact zdy (hg _ (zb om)).1 (hg _ (zb om)).1 (ih om om) h1
def posP (l:List TPo) (r:TPo):Nat:=l.findIdx (fun x=>decide (0<=cmpP x r))
variable {i:Nat} {α:Type}
theorem z17 [Inhabited α] {l:List α} (hi:i<l.length):l.getD i dF=l[i]:=by simp[List.getD_eq_getElem?_getD,List.getElem?_eq_getElem hi]
theorem posP_le (l:List TPo) (r:TPo):posP l r<=l.length:=List.findIdx_le_length
variable {r:TPo}
theorem zc0 (hi:i<posP l r):cmpP (l.getD i dF) r<0:=by
 have hl:i<l.length:=y1a hi (posP_le l r)
 have:=List.not_of_lt_findIdx hi
 rw[z17 hl]
 simpa using this
theorem zc1 (hi:posP l r<l.length):0<=cmpP (l.getD (posP l r) dF) r:=by
 have:=y3w (xs:=l) (p:=fun x=>decide (0<=cmpP x r)) (w:=hi)
 rw[z17 hi]
 exact y1z this
theorem zsf (hS:Srt l) (hg:∀ x∈l,PGood x) (hi:i<l.length) (hp:posP l r<=i):0<=cmpP (l.getD i dF) r:=by
 have h0:=zc1 (l:=l) (r:=r) om
 by_cases e:posP l r=i
 ·rwa [e] at h0
 ·have h1:=hS.lt hg (show posP l r<i from om) hi
  by_cases h:cmpP (l.getD i dF) r<0
  ·have:=zdy (hg _ (zb om)).1 (hg _ (zb hi)).1 h1 h
   omega
  ·omega
variable {j:Nat}
theorem zeq (h:i+j<4611686018427387904):i64.wrap ((IntKind.u64.wrap (i64.wrap ((i:Int)+(j:Int)))).fdiv (2 ^ (min (1:Int).toNat IntKind.u64.bits)))=(((i+j) / 2:Nat):Int):=by
 rw[wrapId (n:=(i:Int)+(j:Int)) om om]
 have e:IntKind.u64.wrap ((i:Int)+(j:Int))=(i:Int)+(j:Int):=by
  simp only[IntKind.wrap,IntKind.bits,IntKind.signed]
  simp
  omega
 rw[e]
 have e2:(2:Int) ^ (min (1:Int).toNat IntKind.u64.bits)=2:=dk
 rw[e2,Int.fdiv_eq_ediv_of_nonneg _ om,wrapId om om]
 omega
theorem PGood.len (h:PGood r):r.D.length<=1000000:=by have:=z2m h.1; omega
theorem zd5 (hg:∀ x∈l,PGood x) (k:Nat):(l.getD k dF).D.length<=1000000:=by
 by_cases h:k<l.length
 ·exact (hg _ (zb h)).len
 ·rw[y8,yj om]; exact y17 _
theorem z9t (hl:l.length<=1000000) (hS:Srt l) (hg:∀ x∈l,PGood x) (hr:PGood r) :
  F_q2d r l=some ((posP l r:Int),decide (posP l r<l.length)&&(cmpP (l.getD (posP l r) dF) r==0)):=by
 have hc:∀ k,F_q34 (l.getD k dF) r=some (cmpP (l.getD k dF) r):=fun k=>zdw (zd5 hg k) hr.len
 have hp:=posP_le l r
 simp only[F_q2d,S_q2d,Scr.den]
 obtain⟨s,e,hJ⟩:=z1p (step:=fun s=>(S_q2d_b1 r l s).den) (fun s=>(s.2-s.1).toNat) (fun s=>∃ i j:Nat,s=((i:Int),(j:Int))/\i<=posP l r/\posP l r<=j/\j<=l.length) (fun s=>s.1=(posP l r:Int)) (fun s hI=>by
  obtain⟨i,j,rfl,h1,h2,h3⟩:=hI
  simp only[S_q2d_b1,Scr.den,zeq (show i+j<4611686018427387904 from om),hc,obind,ye]
  by_cases hij:i<j
  ·left
   rw[y6 (by simpa using hij),za ⟨om,om,om,trivial⟩,yo]
   by_cases hlt:cmpP (l.getD ((i+j) / 2) dF) r<0
   ·rw[y6 (by simpa using hlt),wrapId om om]
    have:(i+j) / 2<posP l r:=by
     by_cases h:(i+j) / 2<posP l r
     ·exact h
     ·have:=zsf (r:=r) hS hg (show (i+j) / 2<l.length from om) om
      omega
    exact⟨_,rfl,⟨(i+j) / 2+1,j,sj,om,h2,h3⟩,by simp only; omega⟩
   ·rw[y5 (by simpa using hlt)]
    have:posP l r<=(i+j) / 2:=by
     by_cases h:posP l r<=(i+j) / 2
     ·exact h
     ·have:=zc0 (show (i+j) / 2<posP l r from om)
      omega
    exact⟨_,rfl,⟨i,(i+j) / 2,rfl,h1,this,om⟩,by simp only; omega⟩
  ·right
   rw[y5 (by simpa using hij)]
   exact⟨_,rfl,by simp only; omega⟩) _ (0,(l.length:Int)) (y2j _) ⟨0,l.length,rfl,om,hp,om⟩
 rw[e]
 simp only[outM,hJ,ye,hc,zg,yo]
 by_cases h:posP l r<l.length
 ·rw[zk (by exact⟨sk,trivial⟩),obind,za ⟨fun _=>om,fun _=>h,fun _=>h,trivial⟩]
  simp[h]
 ·rw[zp (by simp[AllP]; omega),obind,za ⟨fun _=>om,fun h'=>absurd h (by simp[AllP] at h'; omega),fun h'=>absurd h (by simp[AllP] at h'; omega),trivial⟩]
  simp[h]
theorem zer (hS:Srt l) (hg:∀ x∈l,PGood x) (hr:PGood r) :
  (decide (posP l r<l.length)&&(cmpP (l.getD (posP l r) dF) r==0))=hasP l r.D r.E/\(hasP l r.D r.E=true->pix l r.D r.E=posP l r):=by
 have key:hasP l r.D r.E=true->pix l r.D r.E=posP l r:=fun h=>by
  obtain⟨h1,h2,h3⟩:=pix_lt h
  have h4:=hg _ (zb h1)
  have h5:cmpP (l.getD (pix l r.D r.E) dF) r=0:=(cmpP_eq h4.1 hr.1).2 ⟨h2,h3⟩
  rcases y3s (pix l r.D r.E) (posP l r) with h | h | h
  ·have:=zc0 h; omega
  ·exact h
  ·have h6:=hS.lt hg h h1
   have h7:=zc1 (l:=l) (r:=r) om
   have h8:=hg _ (zb (show posP l r<l.length from om))
   have:cmpP (l.getD (posP l r) dF) r<0:=by
    rw[zbz (.inl h8.1)] at h6 |-
    rw[h2,h3] at h6
    exact h6
   omega
 refine⟨?_,key⟩
 rw[y1l]
 simp only[yl,y7,y12]
 constructor
 ·rintro⟨h1,h2⟩
  obtain⟨h3,h4⟩:=(cmpP_eq (hg _ (zb h1)).1 hr.1).1 h2
  exact has_iff.2 ⟨_,zb h1,h3,h4⟩
 ·intro h
  obtain⟨h1,h2,h3⟩:=pix_lt h
  rw[key h] at h1 h2 h3
  exact⟨h1,(cmpP_eq (hg _ (zb h1)).1 hr.1).2 ⟨h2,h3⟩⟩
theorem zd6 (l:List TPo) (p:Nat) (hp:p<=l.length) (z r:TPo) :
  (copyL (l++[z]) (0+(p+1)) (min ((l++[z]).length-p) ((l++[z]).length-(p+1))) (fun i=>(l++[z]).getD ((0+p)+i) dF)).set (0+p) r=insL l p r:=by
 refine y33 (by simp[copyL,insL]; omega) fun i h1 h2=>?_
 have hi:i<l.length+1:=by rw[zr] at h2; exact h2
 rw[<- z17 h2,z1o hp,y3z]
 by_cases e:i<p
 ·rw[y5 om,y6 e]
  simp only[copyL,y34,y3e]
  rw[y5 om,y8,y8,ym om]
 ·by_cases e2:i=p
  ·rw[y6 om,y5 e,y6 e2]
  ·rw[y5 om,y5 e,y5 e2]
   simp only[copyL,y34,y3e,yu,y23]
   rw[y6 om,show 0+p+(i-(0+(p+1)))=i-1 from om,y8,y8,ym om]
def withT (p:TPo) (x:Int):TPo:=⟨p.D,p.E,x,p.A,p.L,p.K,p.P⟩
def zeros (n:Int):List Int:=List.replicate n.toNat (0:Int)
def newP (n:Int) (c:Y8) (y x:Int):TPo:=⟨c,y,x,zeros n,zeros n,zeros n,zeros n⟩
def setM (t:TTr) (c:Y8) (y x:Int):TTr×Int :=
 if ¬ TOk t then (zT,1) else if ¬ good c=true then (zT,5) else if ¬ ((0<=y/\y<=99)/\-1000000000000000<=x/\x<=1000000000000000) then (zT,2) else
  if hasP t.B c y=true then (putP t c y (withT (potAt t c y) x),0) else if t.B.length=60 then (zT,3)
  else (⟨t.N,insL t.B (posP t.B (newP t.N c y x)) (newP t.N c y x)⟩,0)
variable {p:Nat} {z:TPo}
theorem insL_at (hp:p<=l.length):(insL l p z).getD p dF=z:=by
 rw[z1o hp,y5 (y4z p),y6 rfl]
theorem zq7 (hp:p<=l.length):(insL l p z).set p r=insL l p r:=by
 refine y33 (by simp[zr]) fun i h1 h2=>?_
 have hi:i<l.length+1:=by rw[zr] at h2; exact h2
 rw[y3z]
 by_cases e:p=i
 ·subst e; rw[y6 rfl,<- z17 h2,insL_at hp]
 ·rw[y5 e,<- z17 h2,<- z17 (by rw[zr]; omega),z1o hp,z1o hp]
  split
  ·rfl
  ·rw[y5 fun h=>e h.symm,y5 fun h=>e h.symm]
variable {t:TTr}
theorem TOk.srt (h:TOk t):Srt t.B:=fun i hi=>by
 rcases y3n i with h0 | h0
 ·exact .inl h0
 ·exact .inr ((h.2.2 i hi).2 h0)
theorem TOk.good (h:TOk t):∀ p∈t.B,PGood p:=fun p hp=>by
 obtain⟨i,hi,rfl⟩:=z19 hp
 exact⟨(h.2.2 i hi).1.1,trivial⟩
theorem Set_eq (hs:Small t) (hc:c.length<=1000000) (y x:Int):F_q4k t c y x=some (setM t c y x):=by
 simp only[F_q4k,S_q4k,Scr.den,Valid_eq hs,z2y (l:=c) om,zi4 hc,zx,obind,zd]
 unfold setM
 by_cases h1:TOk t
 ·rw[y5 (show ¬ (!decide (TOk t))=true by rw[yd h1]; simp),y5 (show ¬ ¬ TOk t from fun h=>h h1)]
  have hg:=z2t c
  by_cases h2:good c=true
  ·rw[h2,y7] at hg
   rw[y5 (show ¬ (((parts c).length:Int)==0)=true by simp only[y12]; omega),y5 (show ¬ ¬ good c=true from fun h=>h h2)]
   by_cases h3:0<=y/\y<=99
   ·rw[h2,yd h3,zk (by exact⟨rfl,trivial⟩)]
    simp only[obind]
    by_cases h4:-1000000000000000<=x/\x<=1000000000000000
    ·rw[y5 (by rw[yd h4]; simp),y5 (show ¬ ¬ ((0<=y/\y<=99)/\-1000000000000000<=x/\x<=1000000000000000) from fun h=>h ⟨h3,h4⟩)]
     have l0:=h1.2.1
     have e0:=h1.1
     have hr:PGood (⟨c,y,0,[],[],[],[]⟩:TPo):=⟨h2,trivial⟩
     obtain⟨k1,k2⟩:=zer h1.srt h1.good hr
     have hp:=posP_le t.B (⟨c,y,0,[],[],[],[]⟩:TPo)
     rw[zll h1.small]
     simp only[obind,z9t (show t.B.length<=1000000 from om) h1.srt h1.good hr,k1,ye,yo]
     by_cases h5:hasP t.B c y=true
     ·have hlt:=(pix_lt h5).1
      have e:=k2 h5
      rw[y5 (show ¬ (!hasP t.B c y)=true by rw[h5]; simp),y6 (show hasP t.B c y=true from h5)]
      simp only[outM]
      rw[<- e,za (by simp only[AllP,yn]; exact⟨om,hlt,hlt⟩),za (by simp only[AllP,yn,ya]; omega)]
      rfl
     ·rw[y6 (show (!hasP t.B c y)=true by simpa using h5),y5 (show ¬ hasP t.B c y=true from h5)]
      by_cases h6:t.B.length=60
      ·rw[y6 (show ((t.B.length:Int)==60)=true from sk),y6 h6]
       rfl
      ·rw[y5 (show ¬ ((t.B.length:Int)==60)=true from sk),y5 h6]
       have hz:PSmall (newP t.N c y 0):=by
        have:(zeros t.N).length<=1000000:=by simp[zeros]; omega
        exact⟨this,this,this,this⟩
       rw[za (by simp only[AllP,yn]; omega),za (by simp only[AllP,yn,y1x]; omega)]
       show outM ((F_q3f (newP t.N c y 0)).bind _) _ _=_
       rw[z25 hz]
       simp only[obind,F_q7c,ye]
       rw[za ⟨om,hp,om⟩]
       simp only[obind,outM]
       rw[za (by simp only[AllP,yn,zr]; omega),za (by simp only[AllP,yn,ya,zr]; omega),insL_at hp,zq7 hp]
       rfl
    ·rw[y6 (by rw[yh h4]; simp),y6 (show ¬ ((0<=y/\y<=99)/\-1000000000000000<=x/\x<=1000000000000000) from fun h=>h4 h.2)]
   ·rw[h2,yh h3,zp (by simp[AllP])]
    simp only[obind]
    rw[y6 (by rfl),y6 (show ¬ ((0<=y/\y<=99)/\-1000000000000000<=x/\x<=1000000000000000) from fun h=>h3 h.1)]
  ·rw[y53] at h2
   rw[h2,y9] at hg
   rw[y6 (show (((parts c).length:Int)==0)=true by simp only[y12]; omega),y6 (show ¬ good c=true by simp[h2])]
 ·rw[y6 (show (!decide (TOk t))=true by rw[yh h1]; simp),y6 (show ¬ TOk t from h1)]
theorem ztu (c y y':Int):((decide (c>0)||(c==0&&decide (y>y')))=true)↔¬ (c<0\/(c=0/\y<=y')):=by
 simp only[yc,yl,y7,y12]; omega
variable {x:Int}
theorem zoa (h1:TOk t) (hc:good c=true) (hn:¬ hasP t.B c y=true) :
  iterM (fun s=>(S_q1j_b1 c y (t.N,t.B) s).den) 0=some (.next (posP t.B (newP t.N c y x):Int)):=by
 have hl:=h1.2.1
 have hp:=posP_le t.B (newP t.N c y x)
 obtain⟨s,e,hJ⟩:=z1p (step:=fun s=>(S_q1j_b1 c y (t.N,t.B) s).den) (fun s=>(61-s).toNat) (fun s=>0<=s/\s<=(posP t.B (newP t.N c y x):Int)) (fun s=>s=(posP t.B (newP t.N c y x):Int)) (fun s hI=>by
  obtain⟨i,rfl⟩:=Int.eq_ofNat_of_zero_le hI.1
  have hi:i<=posP t.B (newP t.N c y x):=om
  simp only[S_q1j_b1,Scr.den,ye,yo,zd,zg]
  by_cases h:i<t.B.length
  ·have hg:=(h1.good _ (zb h)).1
   rw[y6 sk,z4f hg hc,obind,za ⟨om,h,h,trivial⟩,za ⟨fun _=>om,fun _=>h,fun _=>h,trivial⟩]
   have hcm:cmpP (t.B.getD i dF) (newP t.N c y x)<0↔lexC (parts (t.B.getD i dF).D) (parts c)<0\/(lexC (parts (t.B.getD i dF).D) (parts c)=0/\(t.B.getD i dF).E<y):=zbz (a:=t.B.getD i dF) (b:=newP t.N c y x) (.inl hg)
   have hne:¬ (lexC (parts (t.B.getD i dF).D) (parts c)=0/\(t.B.getD i dF).E=y):=fun k =>
    hn (has_iff.2 ⟨_,zb h,z7z hg hc (z34 k.1),k.2⟩)
   by_cases hip:i<posP t.B (newP t.N c y x)
   ·left
    have hlt:=hcm.1 (zc0 hip)
    rw[y5 fun k=>(ztu _ _ _).1 k (hlt.imp id fun k=>⟨k.1,Int.le_of_lt k.2⟩),wrapId om om]
    exact⟨_,rfl,⟨om,om⟩,om⟩
   ·right
    have hge:¬ cmpP (t.B.getD i dF) (newP t.N c y x)<0:=by
     have:i=posP t.B (newP t.N c y x):=om
     subst this; exact y37.2 (zc1 h)
    rw[y6 ((ztu _ _ _).2 fun k=>hge (hcm.2 (k.imp id fun k=>⟨k.1,Int.lt_iff_le_and_ne.2 ⟨k.2,fun e=>hne ⟨k.1,e⟩⟩⟩)))]
    exact⟨_,rfl,om⟩
  ·right
   rw[y5 (by simpa using h)]
   exact⟨_,rfl,om⟩) _ 0 (y2j _) ⟨om,om⟩
 rw[e,hJ]
theorem r13_Set_eq (hs:Small t) (hc:c.length<=1000000) (y x:Int):F_q1j t c y x=some (setM t c y x):=by
 simp only[F_q1j,S_q1j,Scr.den,r13_Valid_eq hs,z2x (l:=c) om,at_eq,obind,zd]
 unfold setM
 by_cases h1:TOk t
 ·rw[y5 (show ¬ (!decide (TOk t))=true by rw[yd h1]; simp),y5 (show ¬ ¬ TOk t from fun h=>h h1)]
  by_cases h2:good c=true
  ·rw[y5 (show ¬ (!good c)=true by rw[h2]; simp),y5 (show ¬ ¬ good c=true from fun h=>h h2)]
   by_cases h3:(0<=y/\y<=99)/\-1000000000000000<=x/\x<=1000000000000000
   ·have hb:(decide (y<0)||decide (y>99)||decide (x < -1000000000000000)||decide (x>1000000000000000))=false:=by
     simp only[y36,y9]; omega
    rw[y5 (by rw[hb]; simp),y5 (show ¬ ¬ ((0<=y/\y<=99)/\-1000000000000000<=x/\x<=1000000000000000) from fun h=>h h3),zdx h1.small]
    simp only[obind]
    have l0:=h1.2.1
    have e0:=h1.1
    by_cases h5:hasP t.B c y=true
    ·have hlt:=(pix_lt h5).1
     simp only[h5,y18,ye,yo]
     rw[y6 (yd (y1w _)),za (by simp only[AllP,yn]; exact⟨om,hlt,hlt⟩),za (by simp only[AllP,yn,ya]; omega)]
     rfl
    ·simp only[h5,yx,yv]
     rw[y5 dk]
     by_cases h6:t.B.length=60
     ·rw[y6 (show ((t.B.length:Int)==60)=true from sk),y6 h6]
     ·rw[y5 (show ¬ ((t.B.length:Int)==60)=true from sk),y5 h6,za (by simp only[AllP,yn]; omega),zoa (x:=x) h1 h2 h5]
      have hp:=posP_le t.B (newP t.N c y x)
      simp only[outM,ye]
      have hw:i64.wrap ((posP t.B (newP t.N c y x):Int)+1)=((posP t.B (newP t.N c y x)+1:Nat):Int):=by rw[wrapId om om]; rfl
      rw[hw]
      simp only[ye]
      rw[za (by simp only[AllP,yn]; omega),za (by simp only[AllP,yn,yu,y23]; omega),za (by simp only[AllP,yn,zq,yu,y23]; omega),
       za (by simp only[AllP,yn,ya,zq,yu,y23]; omega)]
      show some ((⟨t.N,(copyL (t.B++[_]) _ _ _).set _ (newP t.N c y x)⟩:TTr),(0:Int))=_
      rw[zd6 t.B _ hp _ (newP t.N c y x)]
   ·have hb:(decide (y<0)||decide (y>99)||decide (x < -1000000000000000)||decide (x>1000000000000000))=true:=by
     simp only[yc,y7]; omega
    rw[y6 hb,y6 (show ¬ ((0<=y/\y<=99)/\-1000000000000000<=x/\x<=1000000000000000) from h3)]
  ·rw[y6 (show (!good c)=true by simpa using h2),y6 (show ¬ good c=true from h2)]
 ·rw[y6 (show (!decide (TOk t))=true by rw[yh h1]; simp),y6 (show ¬ TOk t from h1)]
theorem zfw {x:TPo} (hj:j<l.length):(l.set i x).getD j dF=if j=i then x else l.getD j dF:=by
 rw[y8,y4d]
 by_cases h:i=j
 ·subst h; simp[hj]
 ·rw[y5 h,y5 fun e=>h e.symm,y8]
theorem zob {a' b':TPo} (h1:a.D=a'.D) (h2:a.E=a'.E) (h3:b.D=b'.D) (h4:b.E=b'.E):cmpP a b=cmpP a' b':=by
 simp only[cmpP,h1,h2,h3,h4]
theorem z6j (h:TOk t) (hp:hasP t.B c y=true) {p:TPo} (hk:PotOk t.N p) (hc:p.D=c) (hy:p.E=y):TOk (putP t c y p):=by
 obtain⟨k1,k2,k3⟩:=pix_lt hp
 refine⟨h.1,by simpa [putP] using h.2.1,fun i hi=>?_⟩
 have hi':i<t.B.length:=by simpa [putP] using hi
 have same:∀ j,j<t.B.length->((t.B.set (pix t.B c y) p).getD j dF).D=(t.B.getD j dF).D/\((t.B.set (pix t.B c y) p).getD j dF).E=(t.B.getD j dF).E:=fun j hj=>by
  rw[zfw hj]
  by_cases e:j=pix t.B c y
  ·subst e; rw[y6 rfl]; exact⟨hc.trans k2.symm,hy.trans k3.symm⟩
  ·rw[y5 e]; exact⟨rfl,rfl⟩
 constructor
 ·show PotOk t.N ((t.B.set (pix t.B c y) p).getD i dF)
  rw[zfw hi']
  split
  ·exact hk
  ·exact (h.2.2 i hi').1
 ·intro h0
  show cmpP ((t.B.set (pix t.B c y) p).getD (i-1) dF) ((t.B.set (pix t.B c y) p).getD i dF)<0
  rw[zob (same (i-1) om).1 (same (i-1) om).2 (same i hi').1 (same i hi').2]
  exact (h.2.2 i hi').2 h0
theorem potAt_cy (hp:hasP t.B c y=true):(potAt t c y).D=c/\(potAt t c y).E=y:=(pix_lt hp).2
theorem zq8:tot 0:=⟨om,om⟩
variable {n:Int}
theorem zoc (h:0<=n):rowOk n (zeros n):=⟨by simp[zeros]; omega,fun x hx=>by rw[List.eq_of_mem_replicate hx]; exact zq8⟩
variable {k:Int}
theorem zex {l:List Int} (h:rowOk n l) (hx:tot x):rowOk n (upd l k x) :=
 ⟨by rw[upd_length]; exact h.1,fun z hz=>by
  rcases y2k hz with h1 | h1
  ·exact h.2 z h1
  ·subst h1; exact hx⟩
theorem upd_get {l:List Int} (hj:j<l.length):(upd l k x).getD j dF=if j=(k-1).toNat then x else l.getD j dF:=getD_set_int hj
theorem ask_ok (h:(askM t k c y x).2=0):TOk t/\TOk (askM t k c y x).1:=by
 unfold askM at h |-
 by_cases h1:TOk t
 ·simp only[show ¬ ¬ TOk t from fun h=>h h1,yx] at h |-
  by_cases h2:hasP t.B c y=true
  ·simp only[show ¬ ¬ hasP t.B c y=true from fun h=>h h2,yx] at h |-
   by_cases h3:1<=k/\k<=t.N
   ·simp only[show ¬ ¬ (1<=k/\k<=t.N) from fun h=>h h3,yx] at h |-
    by_cases h4:1<=x/\x<=1000000000000000
    ·simp only[show ¬ ¬ (1<=x/\x<=1000000000000000) from fun h=>h h4,yx] at h |-
     by_cases h5:nth (potAt t c y).A k<nth (potAt t c y).K k+x
     ·rw[y6 h5] at h; cases h
     ·rw[y5 h5]
      have hp:=h1.potAt h2
      have hcy:=potAt_cy h2
      obtain⟨g1,g2,g3,⟨r1,r2,r3,r4⟩,⟨o1,o2⟩,g6⟩:=hp
      have a1:=nth_tot r3 h3
      have a2:=nth_tot r1 h3
      unfold tot at a1 a2
      refine⟨h1,z6j h1 h2 (p:=withA (potAt t c y) (upd (potAt t c y).K k (nth (potAt t c y).K k+x))) ⟨g1,g2,g3,⟨r1,r2,zex r3 ⟨om,om⟩,r4⟩,⟨o1,fun i hi=>?_⟩,g6⟩ hcy.1 hcy.2⟩
      have hi':i<(potAt t c y).K.length:=by have:=r1.1; have:=r3.1; have:i<(potAt t c y).A.length:=hi; omega
      show (upd (potAt t c y).K k (nth (potAt t c y).K k+x)).getD i dF<=(potAt t c y).A.getD i dF
      rw[upd_get hi']
      split
      ·rename_i e
       subst e
       exact y37.1 h5
      ·exact o2 i hi
    ·simp only[h4,yk,y18] at h; cases h
   ·simp only[h3,yk,y18] at h; cases h
  ·simp only[h2,yk,y18,yv] at h; cases h
 ·simp only[h1,yk,y18] at h; cases h
theorem hear_ok {m:TMe} (h:(hearM t m).2=0):TOk t/\TOk (hearM t m).1:=by
 unfold hearM at h |-
 by_cases h0:m.To=0
 ·simp only[show ¬ m.To≠0 from fun h=>h h0,yx] at h |-
  by_cases h1:TOk t
  ·simp only[show ¬ ¬ TOk t from fun h=>h h1,yx] at h |-
   by_cases h2:hasP t.B m.D m.E=true
   ·simp only[show ¬ ¬ hasP t.B m.D m.E=true from fun h=>h h2,yx] at h |-
    by_cases h3:1<=m.Aa/\m.Aa<=t.N
    ·simp only[show ¬ ¬ (1<=m.Aa/\m.Aa<=t.N) from fun h=>h h3,yx] at h |-
     by_cases h4:(0<=m.M/\m.M<=nth (potAt t m.D m.E).A m.Aa)/\tot m.P
     ·simp only[show ¬ ¬ ((0<=m.M/\m.M<=nth (potAt t m.D m.E).A m.Aa)/\tot m.P) from fun h=>h h4,yx] at h |-
      have hp:=h1.potAt h2
      have hcy:=potAt_cy h2
      obtain⟨g1,g2,g3,⟨r1,r2,r3,r4⟩,⟨o1,o2⟩,g6⟩:=hp
      have a1:=nth_tot r2 h3
      have a2:=nth_tot r1 h3
      have l1:=r1.1
      have l2:=r2.1
      unfold tot at a1 a2
      have hle:nth (potAt t m.D m.E).L m.Aa<=nth (potAt t m.D m.E).A m.Aa:=o1 _ om
      refine⟨h1,z6j h1 h2 (p:=withH (potAt t m.D m.E) (upd (potAt t m.D m.E).L m.Aa (max (nth (potAt t m.D m.E).L m.Aa) m.M)) (upd (potAt t m.D m.E).P m.Aa m.P))
       ⟨g1,g2,g3,⟨r1,zex r2 ⟨om,om⟩,r3,zex r4 h4.2⟩,⟨fun i hi=>?_,o2⟩,g6⟩ hcy.1 hcy.2⟩
      have hi':i<(potAt t m.D m.E).L.length:=by have:i<(potAt t m.D m.E).A.length:=hi; omega
      show (upd (potAt t m.D m.E).L m.Aa _).getD i dF<=(potAt t m.D m.E).A.getD i dF
      rw[upd_get hi']
      split
      ·rename_i e
       subst e
       show max (nth (potAt t m.D m.E).L m.Aa) m.M<=nth (potAt t m.D m.E).A m.Aa
       omega
      ·exact o1 i hi
     ·simp only[h4,yk,y18] at h; cases h
    ·simp only[h3,yk,y18] at h; cases h
   ·simp only[h2,yk,y18,yv] at h; cases h
  ·simp only[h1,yk,y18] at h; cases h
 ·rw[y6 (show m.To≠0 from h0)] at h; cases h
theorem ins_ok (h:TOk t) (hr:PotOk t.N r) (hn:¬ hasP t.B r.D r.E=true) (hl:t.B.length≠60):TOk ⟨t.N,insL t.B (posP t.B r) r⟩:=by
 have hp:=posP_le t.B r
 have l0:=h.2.1
 refine⟨h.1,by show (insL t.B (posP t.B r) r).length<=60; rw[zr]; omega,fun i hi=>?_⟩
 have hi':i<t.B.length+1:=by have:i<(insL t.B (posP t.B r) r).length:=hi; rwa [zr] at this
 show PotOk t.N ((insL t.B (posP t.B r) r).getD i dF)/\(0<i->cmpP ((insL t.B (posP t.B r) r).getD (i-1) dF) ((insL t.B (posP t.B r) r).getD i dF)<0)
 rw[z1o hp,z1o hp]
 by_cases c1:i<posP t.B r
 ·rw[y6 c1,y6 (show i-1<posP t.B r from om)]
  exact h.2.2 i om
 ·by_cases c2:i=posP t.B r
  ·rw[y5 c1,y6 c2]
   refine⟨hr,fun h0=>?_⟩
   rw[y6 (show i-1<posP t.B r from om)]
   exact zc0 om
  ·rw[y5 c1,y5 c2]
   have hi2:i-1<t.B.length:=om
   refine⟨(h.2.2 (i-1) hi2).1,fun h0=>?_⟩
   by_cases c3:i-1=posP t.B r
   ·rw[y5 (show ¬ i-1<posP t.B r from om),y6 c3]
    have hg:=(h.good _ (zb hi2)).1
    have h1:0<=cmpP (t.B.getD (i-1) dF) r:=by rw[c3]; exact zc1 om
    have h2:cmpP (t.B.getD (i-1) dF) r≠0:=fun e=>hn (has_iff.2 ⟨_,zb hi2,(cmpP_eq hg hr.1).1 e⟩)
    rw[zo9 hg]
    omega
   ·rw[y5 (show ¬ i-1<posP t.B r from om),y5 c3]
    exact (h.2.2 (i-1) hi2).2 om
theorem zsg (hn:1<=n) (hc:good c=true) (hy:0<=y/\y<=99) (hx:-1000000000000000<=x/\x<=1000000000000000):PotOk n (newP n c y x):=by
 have hz:=zoc (n:=n) om
 refine⟨hc,hy,hx,⟨hz,hz,hz,hz⟩,⟨fun i _=>y1d _,fun i _=>y1d _⟩,?_⟩
 have:=z56 (l:=zeros n) hz.2
 have e:(zeros n).sum=0:=by simp[zeros]
 show (zeros n).sum<=_
 omega
theorem set_ok (h:(setM t c y x).2=0):TOk t/\TOk (setM t c y x).1:=by
 unfold setM at h |-
 by_cases h1:TOk t
 ·simp only[show ¬ ¬ TOk t from fun h=>h h1,yx] at h |-
  by_cases h2:good c=true
  ·simp only[show ¬ ¬ good c=true from fun h=>h h2,yx] at h |-
   by_cases h3:(0<=y/\y<=99)/\-1000000000000000<=x/\x<=1000000000000000
   ·simp only[show ¬ ¬ ((0<=y/\y<=99)/\-1000000000000000<=x/\x<=1000000000000000) from fun h=>h h3,yx] at h |-
    by_cases h5:hasP t.B c y=true
    ·rw[y6 h5]
     have hcy:=potAt_cy h5
     obtain⟨g1,g2,g3,g4,g5,g6⟩:=h1.potAt h5
     exact⟨h1,z6j h1 h5 (p:=withT (potAt t c y) x) ⟨g1,g2,h3.2,g4,g5,g6⟩ hcy.1 hcy.2⟩
    ·rw[y5 h5] at h |-
     by_cases h6:t.B.length=60
     ·rw[y6 h6] at h; cases h
     ·rw[y5 h6]
      exact⟨h1,ins_ok h1 (zsg h1.1.1 h2 h3.1 h3.2) h5 h6⟩
   ·rw[y6 h3] at h; cases h
  ·rw[y6 (show ¬ good c=true from h2)] at h; cases h
 ·rw[y6 h1] at h; cases h
theorem zq9 {G a:List Int} (hl:a.length=G.length):(addN G a a.length).sum=G.sum+a.sum:=by
 have e:addN G a a.length=List.zipWith (· + ·) G a:=za1 (by simp[addN_length]; omega) fun j hj=>by
  have hj':j<G.length:=by simpa [addN_length] using hj
  rw[addN_get hj',y6 om,z29 (show j<(List.zipWith (· + ·) G a).length by rw[List.length_zipWith]; omega),List.getElem_zipWith,z29 hj',z29 om]
 rw[e]
 clear e
 induction G generalizing a with
 | nil=>cases a with | nil=>rfl | cons _ _=>simp at hl
 | cons x G ih=>cases a with
  | nil=>simp at hl
  | cons z a =>
   simp only[List.zipWith_cons_cons,y25]
   rw[ih (by simpa using hl)]
   omega
theorem zlm {l:List Int} (h:∀ x∈l,0<=x):∀ x∈l,x<=l.sum:=by
 induction l with
 | nil=>simp
 | cons z l ih =>
  have h0:0<=l.sum:=by
   clear ih
   induction l with
   | nil=>simp
   | cons w l ih2 =>
    have:=h w sj
    have:=ih2 fun x hx=>h x (by rcases y15.1 hx with e | e <;> simp[e])
    simp only[y25]; omega
  intro x hx
  have hz:=h z sj
  simp only[y25]
  rcases y15.1 hx with rfl | hx
  ·omega
  ·have:=ih (fun y hy=>h y (by simp[hy])) x hx
   omega
theorem give_ok {p:TPo} (h:PotOk n p) {a:List Int} (ha:∀ x∈a,tot x) (hl:a.length=p.A.length) (h0:(giveV p.W p a).1=0) :
  (giveV p.W p a).2=addN p.A a a.length/\PotOk n (withG p (giveV p.W p a).2)/\a.sum<=p.W-outV p:=by
 unfold giveV at h0 |-
 by_cases c1:p.W-outV p<a.sum
 ·rw[y6 c1] at h0; cases h0
 ·rw[y5 c1] at h0 |-
  by_cases c2:1000000000000000<p.A.sum+a.sum
  ·rw[y6 c2] at h0; cases h0
  ·rw[y5 c2]
   obtain⟨g1,g2,g3,⟨r1,r2,r3,r4⟩,⟨o1,o2⟩,g6⟩:=h
   have hs:=zq9 (G:=p.A) hl
   have hge:∀ j,j<p.A.length->p.A.getD j dF<=(addN p.A a a.length).getD j dF/\0<=(addN p.A a a.length).getD j dF:=fun j hj=>by
    have t1:=r1.2 _ (zb hj)
    have t2:=ha _ (zb (show j<a.length from om))
    unfold tot at t1 t2
    rw[addN_get hj,y6 om]
    omega
   have hpos:∀ x∈addN p.A a a.length,0<=x:=fun x hx=>by
    obtain⟨j,hj,rfl⟩:=z19 hx
    exact (hge j (by rwa [addN_length] at hj)).2
   refine⟨rfl,⟨g1,g2,g3,⟨⟨by show ((addN p.A a a.length).length:Int)=n; rw[addN_length]; exact r1.1,fun x hx=>⟨hpos x hx,?_⟩⟩,r2,r3,r4⟩,⟨fun i hi=>?_,fun i hi=>?_⟩,?_⟩,om⟩
   ·have:=zlm hpos x hx
    omega
   ·have hi':i<p.A.length:=by have:i<(addN p.A a a.length).length:=hi; rwa [addN_length] at this
    exact y2o (o1 i hi') (hge i hi').1
   ·have hi':i<p.A.length:=by have:i<(addN p.A a a.length).length:=hi; rwa [addN_length] at this
    exact y2o (o2 i hi') (hge i hi').1
   ·show (addN p.A a a.length).sum<=_
    omega
theorem grant_ok (h:(grantM t k c y x).2=0):TOk t/\TOk (grantM t k c y x).1:=by
 unfold grantM at h |-
 by_cases h1:TOk t
 ·simp only[show ¬ ¬ TOk t from fun h=>h h1,yx] at h |-
  by_cases h2:hasP t.B c y=true
  ·simp only[show ¬ ¬ hasP t.B c y=true from fun h=>h h2,yx] at h |-
   by_cases h3:1<=k/\k<=t.N
   ·simp only[show ¬ ¬ (1<=k/\k<=t.N) from fun h=>h h3,yx] at h |-
    by_cases h4:1<=x/\x<=1000000000000000
    ·simp only[show ¬ ¬ (1<=x/\x<=1000000000000000) from fun h=>h h4,yx] at h |-
     by_cases h5:(giveV (potAt t c y).W (potAt t c y) (oneHot (potAt t c y).A.length (k-1).toNat x)).1=0
     ·rw[y5 (show ¬ _≠_ from fun h=>h h5)]
      have hcy:=potAt_cy h2
      exact⟨h1,z6j h1 h2 (give_ok (h1.potAt h2) (oneHot_tot h4) oneHot_length h5).2.1 hcy.1 hcy.2⟩
     ·rw[y6 h5] at h; exact absurd h h5
    ·simp only[h4,yk,y18] at h; cases h
   ·simp only[h3,yk,y18] at h; cases h
  ·simp only[h2,yk,y18,yv] at h; cases h
 ·simp only[h1,yk,y18] at h; cases h
theorem zw (gs:List Prop) (x d:α) [Decidable (AllP gs)]:optD gs (some x) d=some (if AllP gs then x else d):=by
 unfold optD
 by_cases h:AllP gs
 ·rw[y6 h,y6 h]
 ·rw[y5 h,y5 h]
theorem z81 {gs:List Prop} {x:Option α} {y d:α} [Decidable (AllP gs)] (h:AllP gs->x=some y):optD gs x d=some (if AllP gs then y else d):=by
 by_cases hg:AllP gs
 ·rw[y6 hg,zk hg,h hg]
 ·rw[y5 hg,zp hg]
theorem z1e (a x d:Bool) [Decidable (AllP [a=false])]:(a||!(if AllP [a=false] then x else d))=(a||!x):=by
 cases a <;> simp[AllP]
theorem zhk (a:Bool) (x d y:Int) [Decidable (AllP [a=false])]:(a||((if AllP [a=false] then x else d) != y))=(a||(x != y)):=by
 cases a <;> simp[AllP]
theorem z3s (a x d:Bool) [Decidable (AllP [a=true])]:(a&&(if AllP [a=true] then x else d))=(a&&x):=by
 cases a <;> simp[AllP]
theorem zem (a:Bool) (x d y:Int) [Decidable (AllP [a=true])]:(a&&((if AllP [a=true] then x else d)==y))=(a&&(x==y)):=by
 cases a <;> simp[AllP]
theorem st {c:Bool} {P:Prop} {_:Decidable P} {x y:Option α} {a b:α} (h:c=true↔P) (hx:P->x=some a) (hy:¬ P->y=some b):(if c=true then x else y)=some (if P then a else b):=by
 by_cases hp:P
 ·rw[y6 (h.mpr hp),y6 hp,hx hp]
 ·rw[y5 (fun hc=>hp (h.mp hc)),y5 hp,hy hp]
def RtOk (r:TRi):Prop:=good r.D=true/\(0<=r.E/\r.E<=99)/\(0<=r.A/\r.A<=1000000000000000)/\(0<=r.K/\r.K<=1000000000000000)/\(0<=r.M/\r.M<=r.A)
instance (r:TRi):Decidable (RtOk r):=inferInstanceAs (Decidable (_/\_))
theorem z1i {r:TRi} (h:r.D.length<=1000000):F_q27 r=some (decide (RtOk r)):=by
 open Classical in simp only[F_q27,S_q27,F_q25,S_q25,Scr.den,z2y (show r.D.length<=1099511627776 from om),zx,z3o,zw,obind,zg,z3s]
 refine yi some ?_
 have e:decide (((parts r.D).length:Int)>0)=good r.D:=by rw[<- z2t]; rw[y1l]; simp
 rw[e,y1l]
 simp only[RtOk,yl,y7,and_assoc]
def noR:TRi:=⟨[],0,0,0,0⟩
def learnS (r:TRi) (m:TMe):TRi×Int :=
 if ¬ (RtOk r/\m.Aa=0/\m.D=r.D/\m.E=r.E) then (noR,1) else
 if ¬ (tot m.A/\tot m.K) then (noR,2) else
 (⟨r.D,r.E,if m.A>r.A then m.A else r.A,if m.K>r.K then m.K else r.K,r.M⟩,0)
def returnS (r:TRi) (u n:Int):TRi×Int :=
 if ¬ (RtOk r/\(0<=u/\u<=i64.wrap (r.A-r.M))) then (noR,1) else
 if ¬ (1<=n/\n<=1000000000000000) then (noR,2) else
 if n>i64.wrap (i64.wrap (r.A-r.M)-u) then (noR,15) else
 (⟨r.D,r.E,r.A,r.K,i64.wrap (r.M+n)⟩,0)
theorem z4w (n:Int):F_q13 n=some (decide (tot n)):=z8i n
theorem z84 {r:TRi} (h:r.D.length<=1000000) (m:TMe):F_q36 r m=some (learnS r m):=by
 open Classical in simp only[F_q36,S_q36,Scr.den,z1i h,z4w,zw,obind,zd,z1e]
 unfold learnS
 refine st (by by_cases hR:RtOk r <;> by_cases h2:m.Aa=0 <;> by_cases h3:m.D=r.D <;> by_cases h4:m.E=r.E <;> simp[hR,h2,h3,h4]) (fun _=>rfl) fun _=>?_
 refine st (by by_cases h2:tot m.A <;> by_cases h3:tot m.K <;> simp[h2,h3]) (fun _=>rfl) fun _=>rfl
theorem z7k {r:TRi} (h:r.D.length<=1000000) (u n:Int):F_q38 r u n=some (returnS r u n):=by
 open Classical in simp only[F_q38,S_q38,Scr.den,z1i h,zx,zw,obind,zd,z1e]
 unfold returnS
 refine st (by by_cases h2:RtOk r <;> by_cases h3:0<=u/\u<=i64.wrap (r.A-r.M) <;> simp[h2,h3]) (fun _=>rfl) fun _=>?_
 refine st (by simp only[yg,y9]) (fun _=>rfl) fun _=>?_
 refine st (by simp only[y7]) (fun _=>rfl) fun _=>rfl
def wantedS (r:TRi) (u:Int):Int :=
 if RtOk r/\(0<=u/\u<=r.A-r.M) then (if r.A-u<r.K then (if r.A-u-r.M>0 then r.A-u-r.M else 0) else (if r.K-r.M>0 then r.K-r.M else 0)) else 0
theorem wn1:(if 0>x then 0 else x)=(if x>0 then x else 0):=by split <;> split <;> omega
theorem wn2 (h:x=y):(if x>0 then x else 0)=(if y>0 then y else 0):=by rw[h]
theorem z7n {r:TRi} (h:r.D.length<=1000000) {u:Int}:F_q3i r u=some (wantedS r u):=by
 open Classical in simp only[F_q3i,S_q3i,Scr.den,z1i h,zx,zw,obind,zd,z1e]
 unfold wantedS
 by_cases hR:RtOk r
 ·have hR':=hR
  unfold RtOk at hR'
  have w1:i64.wrap (r.A-r.M)=r.A-r.M:=wrapId om om
  rw[w1]
  by_cases hu:0<=u/\u<=r.A-r.M
  ·rw[y6 (show RtOk r/\(0<=u/\u<=r.A-r.M) from ⟨hR,hu⟩),y5 (by simp[hR,hu]),wrapId (n:=r.A-u) om om]
   refine yi some ?_
   by_cases k:r.A-u<r.K
   ·simp only[y6 k]
    rw[wrapId om om]
    exact wn1
   ·simp only[y5 k]
    rw[wrapId om om]
    exact wn1
  ·rw[y6 (by simp[hR]; omega),y5 (fun k=>hu k.2)]
 ·rw[y6 (by simp[hR]),y5 (fun k=>hR k.1)]
def TapeOk (s:TTape):Prop:=0<=s.at_/\s.l.length<=500/\s.at_<=s.l.length
theorem zhr (t:List Int):∃ s,F_q2y t=some s/\TapeOk s:=by
 simp only[F_q2y,S_q2y,Scr.den]
 refine⟨_,zaq ⟨?_,?_,trivial⟩ rfl,sj,?_,sj⟩
 ·split <;> omega
 ·split <;> omega
 ·simp only[y1g]
  split <;> omega
variable {s:TTape}
theorem z2e (hs:TapeOk s) (h1:1<=n) (hn:n<=4611686018427387904):∃ v s',F_q4 n s=some (v,s')/\TapeOk s'/\0<=v/\v<n:=by
 obtain⟨a1,a2,a3⟩:=hs
 simp only[F_q4,S_q4,Scr.den]
 by_cases hc:s.at_>=(s.l.length:Int)
 ·rw[y6 (by simp[hc])]
  exact⟨0,s,rfl,⟨a1,a2,a3⟩,om,om⟩
 ·rw[y5 sk]
  have e1:i64.wrap (s.at_+1)=s.at_+1:=wrapId om om
  rw[e1,za ⟨om,om,om,trivial⟩]
  generalize s.l.getD s.at_.toNat dF=x
  have t1:x.tmod n<n:=Int.tmod_lt_of_pos x om
  have t2:-n<x.tmod n:=Int.lt_tmod_of_pos x om
  have e3:i64.wrap (x.tmod n+n)=x.tmod n+n:=wrapId om om
  rw[e3]
  have ht:TapeOk ⟨s.l,s.at_+1⟩:=⟨by simp only; omega,a2,by simp only; omega⟩
  split
  ·rename_i h
   simp only[y7] at h
   exact⟨_,_,rfl,ht,om,om⟩
  ·rename_i h
   simp only[y7] at h
   exact⟨_,_,rfl,ht,om,om⟩
theorem z2g {lo hi:Int} (hs:TapeOk s) (h0:-1000000000000000<=lo) (h1:lo<=hi) (h2:hi<=1000000000000000):∃ v s',F_qr lo hi s=some (v,s')/\TapeOk s'/\lo<=v/\v<=hi:=by
 simp only[F_qr,S_qr,Scr.den]
 rw[wrapId (n:=hi-lo) om om,wrapId (n:=hi-lo+1) om om]
 obtain⟨v,s',h3,h4,h5,h6⟩:=z2e (n:=hi-lo+1) hs om om
 refine⟨lo+v,s',?_,h4,om,om⟩
 rw[h3,obind]
 simp only
 rw[wrapId (n:=lo+v) om om]
theorem z3b {l:List Int} (hs:TapeOk s) (h0:1<=l.length) (h1:l.length<=100):∃ v s',F_qu l s=some (v,s')/\TapeOk s'/\v∈l:=by
 simp only[F_qu,S_qu,Scr.den]
 obtain⟨v,s',h3,h4,h5,h6⟩:=z2e (n:=(l.length:Int)) hs om om
 refine⟨_,s',?_,h4,zb (show v.toNat<l.length from om)⟩
 rw[h3,obind,za ⟨by simpa using h5,by simp only; omega,trivial⟩]
theorem zb2 (hs:TapeOk s):∃ c s',F_q30 s=some (c,s')/\TapeOk s'/\c.length<=60/\good c=true:=by
 simp only[F_q30,S_q30,Scr.den]
 obtain⟨v,s',h3,h4,h5,h6⟩:=z2e (n:=3) hs om om
 have h:∀ c∈([[49],[49,46,50],[50]]:List Y8),c.length<=60/\good c=true:=dk
 refine⟨_,s',?_,h4,h _ (zb (show v.toNat<3 from om))⟩
 rw[h3,obind,za ⟨by simpa using h5,by simp only; omega,trivial⟩]
end Go.Proofs.YtlhikmklpelceaaGreatDoor.J13
namespace Go.Proofs.YtlhikmklpelceaaGreatDoor
open Go Go.TA
open Go.IntKind (i64)
def jAt (w:TWo) (k:Nat):TJo:=w.H.getD k dF
def nthN (l:List Int) (k:Nat):Int:=l.getD k dF
def KnownJ (t:TTr) (a b:TOf) (k:Nat):Prop :=
 (∀ r∈a.J,J13.hasP t.B r.D r.E=true/\r.A<=nthN (J13.potAt t r.D r.E).A k/\r.K<=nthN (J13.potAt t r.D r.E).K k) /\
 ∀ p∈t.B,nthN p.L k<=(rightV b.J p.D p.E).M
def ToOk (t:TTr) (m:TMe):Prop:=(1<=m.To/\m.To<=t.N)/\(0<=m.A/\m.A<=nthN (J13.potAt t m.D m.E).A (m.To-1).toNat)/\(0<=m.K/\m.K<=nthN (J13.potAt t m.D m.E).K (m.To-1).toNat)/\m.M=0/\m.P=0
def FromOk (t:TTr) (st:Nat->TOf) (m:TMe):Prop:=(1<=m.Aa/\m.Aa<=t.N)/\m.To=0/\(0<=m.M/\m.M<=(rightV (st (m.Aa-1).toNat).J m.D m.E).M)/\(0<=m.P/\m.P<=1000000000000000)/\m.A=0/\m.K=0
def MsgOk (t:TTr) (st:Nat->TOf) (m:TMe):Prop:=J13.hasP t.B m.D m.E=true/\((m.Aa=0/\ToOk t m)\/(m.Aa≠0/\FromOk t st m))
noncomputable def stW (w:TWo) (k:Nat):TOf:=stbJ (jAt w k)
noncomputable def noW (w:TWo) (k:Nat):TOf:=nowJ (jAt w k)
def VW (w:TWo):Prop:=J13.TOk w.F/\(w.H.length:Int)=w.F.N/\w.V.length<=200 /\
 (∀ k,k<w.H.length->VJ (jAt w k)/\(jAt w k).Y=(k:Int)+1/\KnownJ w.F (noW w k) (stW w k) k)/\∀ m∈w.V,MsgOk w.F (stW w) m
theorem zey:∀ {l:List TOp} {o:TOf},Runs o l->(runO o l).O=o.O
 | [],_,_=>rfl
 | p :: l,o,h=>by
  show (runO (doS o p).1 l).O=_
  rw[zey h.2,(ztt h.1.2)]
variable {t:TTr}
theorem z89 (h:J13.TOk t):J13.Small t:=fun p hp=>by
 have:=J13.PGood.len (h.good p hp)
 exact this
variable {w:TWo}
theorem VW.small (h:VW w):J13.Small w.F:=z89 h.1
theorem VW.len (h:VW w):1<=w.H.length/\w.H.length<=6:=by
 have h1:=h.1.1
 have h2:=h.2.1
 omega
variable {j:TJo}
theorem zsh (h:VJ j):(nowJ j).O=j.Y:=zey h.2.2.2
theorem zkb (h:VJ j):(stbJ j).O=j.Y:=zey (z3y h.2.2.2 _)
variable {α:Type}
def ups (n:Nat) (f:Nat->α):List α:=(List.range n).map f
variable {f:Nat->α}
theorem z1b {n:Nat}:(ups n f).length=n:=by simp[ups]
variable {i:Nat}
theorem z64 [Inhabited α] {n:Nat} (h:i<n):(ups n f).getD i dF=f i:=by simp[ups,List.getD_eq_getElem?_getD,h]
theorem za2 {n:Nat}:ups (n+1) f=ups n f++[f n]:=by simp[ups,List.range_succ]
theorem zfx (h:VW w):F_q17 w=some (ups w.H.length (noW w),ups w.H.length (stW w),true):=by
 have hl:=h.len
 simp only[F_q17,S_q17,Scr.den]
 obtain⟨s,e,hs⟩:=zm (body:=fun i s=>(S_q17_b1 w i s).den) (n:=w.H.length) (fun i s=>s=(ups i (noW w),ups i (stW w))) (s0:=(([]:List TOf),([]:List TOf))) rfl (fun i s hi hI=>by
  subst hI
  obtain⟨h1,h2,_⟩:=h.2.2.2.1 i hi
  simp only[S_q17_b1,Scr.den]
  rw[show w.H.getD i dF=jAt w i from rfl,z6u h1]
  simp only[obind]
  rw[zco h1]
  simp only[obind,zd]
  rw[h2,wrapId (n:=(i:Int)+1) om om,y5 sj,za ⟨by rw[z1b]; omega,by rw[z1b]; omega,trivial⟩]
  exact⟨_,rfl,by rw[za2,za2]; rfl⟩)
 rw[e,hs]
 simp only[zo]
 rw[za ⟨by rw[z1b]; omega,trivial⟩,za ⟨by rw[z1b]; omega,trivial⟩]
variable {c:Y8} {y:Int}
theorem z43 (h:J13.hasP t.B c y=true):J13.potM t c y=(J13.potAt t c y,true):=y6 h
variable {k:Nat} {a b:TOf}
theorem zqa (ht:J13.TOk t) (hk:(k:Int)<t.N) (hn:a.O=(k:Int)+1) (h:KnownJ t a b k):F_qp t a b=some true:=by
 have h6:=ht.1
 have ew:i64.wrap (a.O-1)=(k:Int):=by rw[hn,wrapId om om]; omega
 simp only[F_qp,S_qp,Scr.den]
 obtain⟨u,e,_⟩:=zm (body:=fun i s=>(S_qp_b1 t a i s).den) (n:=a.J.length) (fun _ _=>True) (s0:=()) trivial (fun i u hi _=>by
  obtain⟨h1,h2,h3⟩:=h.1 _ (zb hi)
  have hp:=ht.potAt h1
  have hg:=hp.2.2.2.1.1.1
  have ha:=hp.2.2.2.1.2.2.1.1
  simp only[S_qp_b1,Scr.den,J13.Pot_eq ht.small,z43 h1,obind,zd,ew,ye]
  unfold nthN at h2 h3
  rw[za ⟨fun _=>om,fun _=>om,fun _=>om,fun _=>om,trivial⟩,y5 (by simp only[y2t,yc,yv,false_or,y7]; omega)]
  exact⟨(),rfl,trivial⟩)
 rw[e]
 simp only[zo]
 obtain⟨u,e,_⟩:=zm (body:=fun i s=>(S_qp_b2 t a b i s).den) (n:=t.B.length) (fun _ _=>True) (s0:=()) trivial (fun i u hi _=>by
  have h1:=h.2 _ (zb hi)
  have hp:=(ht.2.2 i hi).1
  have hh:=hp.2.2.2.1.2.1.1
  simp only[S_qp_b2,Scr.den,z3v,obind,ew,ye]
  unfold nthN at h1
  rw[za ⟨om,om,trivial⟩,y5 (by simp only[y7]; omega)]
  exact⟨(),rfl,trivial⟩)
 rw[e]
 rfl
theorem zbb (n a b:Int):F_q1v n a b=some (decide (a<=n/\n<=b)):=by
 simp only[F_q1v,S_q1v,Scr.den,zg]
 congr 1
 rw[y1l]; simp
variable {m:TMe}
theorem zln (ht:J13.TOk t) {n:Nat} {f:Nat->TOf} (hn:(n:Int)=t.N) (h:MsgOk t f m):F_q5y t (ups n f) m=some true:=by
 have h6:=ht.1
 obtain⟨h1,h2⟩:=h
 have hp:=ht.potAt h1
 have hg:=hp.2.2.2.1.1.1
 have ha:=hp.2.2.2.1.2.2.1.1
 simp only[F_q5y,S_q5y,Scr.den,J13.Pot_eq ht.small,z43 h1,obind,zbb,zg]
 rw[y5 dk]
 rcases h2 with ⟨h0,q1,q2,q3,q4,q5⟩ | ⟨h0,q1,q2,q3,q4,q5,q6⟩
 ·unfold nthN at q2 q3
  have ew:i64.wrap (m.To-1)=m.To-1:=wrapId om om
  rw[y6 (by simp[h0]),ew,yd q1,zk (by simp[AllP]),yd q2]
  simp only[obind]
  rw[zk (by simp[AllP]),yd q3]
  simp only[obind]
  rw[za ⟨fun _=>om,fun _=>om,fun _=>om,fun _=>om,trivial⟩,q4,q5]
  rfl
 ·have ew:i64.wrap (m.Aa-1)=m.Aa-1:=wrapId om om
  rw[y5 (by simpa using h0),ew,yd q1,q2,z64 (show (m.Aa-1).toNat<n from om),z3v,zk (by simp[AllP])]
  simp only[obind]
  rw[zk (by simp[AllP]),yd q3]
  simp only[obind]
  rw[zk (by simp[AllP]),yd q4]
  simp only[obind]
  rw[za ⟨fun _=>om,fun _=>by rw[z1b]; omega,trivial⟩,q5,q6]
  rfl
theorem z6m (h:VW w):F_q18 w=some true:=by
 have hl:=h.len
 have hst:=zfx h
 have hw:=h
 obtain⟨h1,h2,h3,h4,h5⟩:=h
 simp only[F_q18,S_q18,Scr.den,J13.Valid_eq hw.small,obind,zd]
 rw[yd h1,y5 (by simp[h2]; omega),hst]
 simp only[obind]
 rw[y5 dk]
 obtain⟨u,e,_⟩:=zm (body:=fun i s=>(S_q18_b1 w (ups w.H.length (noW w),ups w.H.length (stW w),true) i s).den) (n:=(ups w.H.length (noW w)).length) (fun _ _=>True) (s0:=()) trivial (fun i u hi _=>by
  rw[z1b] at hi
  obtain⟨q1,q2,q3⟩:=h4 i hi
  simp only[S_q18_b1,Scr.den]
  rw[z64 hi,z64 hi,zqa h1 om (show (noW w i).O=_ from (zsh q1).trans q2) q3]
  simp only[obind]
  rw[za ⟨by rw[z1b]; exact hi,trivial⟩,y5 dk]
  exact⟨(),rfl,trivial⟩)
 rw[e]
 simp only[zo]
 have hx:F_q2c w.V w (ups w.H.length (stW w))=some (-1):=by
  simp only[F_q2c,S_q2c,Scr.den]
  obtain⟨u,e,_⟩:=zm (body:=fun i s=>(S_q2c_b1 w.V w (ups w.H.length (stW w)) i s).den) (n:=w.V.length) (fun _ _=>True) (s0:=()) trivial (fun i u hi _=>by
   simp only[S_q2c_b1,F_q73,S_q73,Scr.den]
   rw[zln h1 h2 (h5 _ (zb hi))]
   simp only[obind]
   rw[y5 dk]
   exact⟨(),rfl,trivial⟩)
  rw[e]
  rfl
 simp only[F_q74,S_q74,Scr.den,hx,obind]
 rfl
theorem zc2 (h:VJ j):F_qt j=some (nowJ j,stbJ j,true):=by
 obtain⟨h1,h2,h3,h4⟩:=h
 have hn:F_q3j j.Y=some (newO j.Y,0):=by
  rw[zle,y5 om]
  rfl
 simp only[F_qt,S_qt,Scr.den,hn,obind,zd]
 rw[y5 sk]
 obtain⟨s,e,hs⟩:=zm (body:=fun i s=>(S_qt_b1 j i s).den) (n:=j.Ab.length) (fun i s=>s=(runO (newO j.Y) (j.Ab.take i),runO (newO j.Y) (j.Ab.take (min i j.Ag.toNat)),(0:Int))) (s0:=(newO j.Y,newO j.Y,(0:Int))) (by simp; rfl) (fun i s hi hI=>by
  subst hI
  obtain⟨q1,q2⟩:=zk8 h4 hi
  have hv:=z8w (zby h1) (z3y h4 i)
  have hl:=q1.len
  simp only[S_qt_b1,Scr.den,zd]
  rw[zk (by simp[AllP]),zb7 om,@decide_eq_true _ (_) q1]
  simp only[obind]
  rw[y5 sj,zfr hv.smO om]
  simp only[obind]
  have e1:runO (newO j.Y) (j.Ab.take (i+1))=(doS (runO (newO j.Y) (j.Ab.take i)) (j.Ab.getD i dF)).1:=by rw[zft hi,zb8]
  by_cases c:(i:Int)<j.Ag
  ·rw[y6 (by simpa using c)]
   refine⟨_,rfl,?_⟩
   rw[show min (i+1) j.Ag.toNat=i+1 from om,e1,q2]
  ·rw[y5 (by simpa using c)]
   refine⟨_,rfl,?_⟩
   rw[show min (i+1) j.Ag.toNat=min i j.Ag.toNat from om,e1,q2])
 rw[e,hs]
 simp only[zo]
 rw[y1y (yf _),show min j.Ab.length j.Ag.toNat=j.Ag.toNat from om]
 rfl
theorem z7o (h:VJ j):F_q3o j=some (nowJ j,0):=by
 simp only[F_q3o,S_q3o,Scr.den,zc2 h,obind]
 rfl
theorem zgi (h:VJ j):F_q5b j=some (stbJ j,0):=by
 simp only[F_q5b,S_q5b,Scr.den,zc2 h,obind]
 rfl
theorem zbc (h:VJ j):F_q46 j=some true:=by
 simp only[F_q46,S_q46,Scr.den,zc2 h,obind]
theorem zi9 (h:VJ j):F_q59 j=some (flushJ j):=by
 simp only[F_q59,S_q59,Scr.den,zbc h,obind,y18,zo]
 rfl
theorem zia (h:VJ j):F_q5a j=some (crashJ j):=by
 have hl:=h.2.1
 have hf:=h.2.2.1
 simp only[F_q5a,S_q5a,Scr.den,zbc h,obind,y18]
 rw[za ⟨hf.1,om,by rw[y1g]; omega,trivial⟩]
 rfl
variable {p:TOp}
theorem zac (h:VJ j) (hc:p.D.length<=1000000):F_q47 j p=some (appendS j p):=by
 have hv:=h.now
 simp only[F_q47,S_q47,Scr.den,z7o h,obind]
 rw[zk (by simp[AllP]),zb7 hc]
 simp only[obind,zd]
 by_cases hp:POp p
 ·rw[@decide_eq_true _ (_) hp,y5 sj,zfr hv.smO hc]
  simp only[obind]
  by_cases h0:(doS (nowJ j) p).2=0
  ·rw[y5 (by simp[h0])]
   by_cases hl:j.Ab.length=400
   ·rw[y6 (by simp[hl]),z3z hp h0 hl]
    rfl
   ·rw[y5 sk,z2v hp h0 hl]
    have:=h.2.1
    rw[za ⟨om,om,trivial⟩,za ⟨by rw[yu]; simp; omega,trivial⟩]
  ·rw[y6 (by simpa using h0),z4n hp h0]
   rfl
 ·rw[@decide_eq_false _ (_) hp,y6 sj,z4m hp]
  rfl
theorem z6x (t:TTr) (c:Y8) (y:Int):F_q3m t c y=some (J13.potM t c y):=by
 simp only[F_q3m,S_q3m,Scr.den,J13.at_eq,obind]
 unfold J13.potM
 by_cases h:J13.hasP t.B c y=true
 ·have hlt:=(J13.pix_lt h).1
  rw[y6 h,y6 h,y6 sj,ye,za ⟨om,hlt,trivial⟩]
  rfl
 ·rw[y5 h,y5 h,y5 dk]
theorem zez (ht:J13.TOk w.F) {n:Nat} {f:Nat->TOf} (hn:(n:Int)=w.F.N) (h:MsgOk w.F f m):F_q52 w m (ups n f)=some true:=by
 have h6:=ht.1
 obtain⟨h1,h2⟩:=h
 have hp:=ht.potAt h1
 have hg:=hp.2.2.2.1.1.1
 have ha:=hp.2.2.2.1.2.2.1.1
 simp only[F_q52,S_q52,Scr.den,z6x,z43 h1,obind,zg,zd]
 rw[y5 dk]
 rcases h2 with ⟨h0,q1,q2,q3,q4,q5⟩ | ⟨h0,q1,q2,q3,q4,q5,q6⟩
 ·unfold nthN at q2 q3
  have ew:i64.wrap (m.To-1)=m.To-1:=wrapId om om
  rw[y6 (by simp[h0]),ew,y5 (by simp[q4,q5,z1b]; omega),za ⟨fun _=>om,fun _=>om,fun _=>om,fun _=>om,trivial⟩]
  rw[yd q2.1,yd q2.2,yd q3.1,yd q3.2]
  rfl
 ·have ew:i64.wrap (m.Aa-1)=m.Aa-1:=wrapId om om
  rw[y5 (by simpa using h0),y5 (by simp[q2,q5,q6,z1b]; omega),ew,yo,z64 (show (m.Aa-1).toNat<n from om),z2n,zk (by simp[AllP]; omega)]
  simp only[obind]
  rw[za ⟨fun _=>om,fun _=>by rw[z1b]; omega,fun _=>by rw[z1b]; omega,trivial⟩,yd q3.1,yd q3.2]
  rfl
theorem z44 (h:VW w):F_q1 w=some true:=by
 have hl:=h.len
 have hw:=h
 obtain⟨h1,h2,h3,h4,h5⟩:=h
 have h6:=h1.1
 simp only[F_q1,S_q1,Scr.den,J13.r13_Valid_eq hw.small,obind,zd]
 rw[yd h1,y5 (by simp[h2]; omega)]
 obtain⟨s,e,hs⟩:=zm (body:=fun i s=>(S_q1_b3 w i s).den) (n:=w.H.length) (fun i s=>s=ups i (stW w)) (s0:=([]:List TOf)) rfl (fun i s hi hI=>by
  subst hI
  obtain⟨q1,q2,q3⟩:=h4 i hi
  simp only[S_q1_b3,Scr.den]
  rw[show w.H.getD i dF=jAt w i from rfl,q2,wrapId (n:=(i:Int)+1) om om,y5 sj,zc2 q1]
  simp only[obind]
  rw[y5 dk,za ⟨by rw[z1b]; omega,trivial⟩]
  obtain⟨u,e,_⟩:=zm (body:=fun k s=>(S_q1_b1 w i (nowJ (jAt w i),stbJ (jAt w i),true) k s).den) (n:=(nowJ (jAt w i)).J.length) (fun _ _=>True) (s0:=()) trivial (fun k u hk _=>by
   obtain⟨z1,z2,z3⟩:=q3.1 _ (zb hk)
   have hp:=h1.potAt z1
   have hg:=hp.2.2.2.1.1.1
   have ha:=hp.2.2.2.1.2.2.1.1
   simp only[S_q1_b1,Scr.den,z6x]
   unfold nthN at z2 z3
   rw[show (nowJ (jAt w i)).J=(noW w i).J from rfl,z43 z1]
   simp only[obind,zd]
   rw[za ⟨fun _=>om,fun _=>om,trivial⟩,y5 (by simp only[y2t,yc,yv,false_or,y7]; omega)]
   exact⟨(),rfl,trivial⟩)
  rw[e]
  simp only[zo]
  obtain⟨u,e,_⟩:=zm (body:=fun k s=>(S_q1_b2 w i (nowJ (jAt w i),stbJ (jAt w i),true) k s).den) (n:=w.F.B.length) (fun _ _=>True) (s0:=()) trivial (fun k u hk _=>by
   have z1:=q3.2 _ (zb hk)
   have hp:=(h1.2.2 k hk).1
   have hh:=hp.2.2.2.1.2.1.1
   simp only[S_q1_b2,Scr.den,z2n,obind]
   unfold nthN at z1
   rw[za ⟨om,trivial⟩,y5 (by simp only[y7]; exact y37.2 z1)]
   exact⟨(),rfl,trivial⟩)
  rw[e]
  exact⟨_,rfl,by rw[za2]; rfl⟩)
 rw[e,hs]
 simp only[zo]
 obtain⟨u,e,_⟩:=zm (body:=fun i s=>(S_q1_b4 w (ups w.H.length (stW w)) i s).den) (n:=w.V.length) (fun _ _=>True) (s0:=()) trivial (fun i u hi _=>by
  simp only[S_q1_b4,Scr.den]
  rw[zez h1 h2 (h5 _ (zb hi))]
  simp only[obind]
  rw[y5 dk]
  exact⟨(),rfl,trivial⟩)
 rw[e]
 rfl
def zWd:TWo:=⟨⟨0,[]⟩,[],[]⟩
def sendS (w:TWo) (m:TMe) (e:Int):TWo×Int:=if e≠0 then (zWd,e) else if w.V.length=200 then (zWd,3) else (⟨w.F,w.H,w.V++[m]⟩,0)
def keepS (w:TWo) (k:Nat) (j:TJo) (e:Int):TWo×Int:=if e≠0 then (zWd,e) else (⟨w.F,w.H.set k j,w.V⟩,0)
def tresS (w:TWo) (r:TTr×Int):TWo×Int:=if r.2≠0 then (zWd,r.2) else (⟨r.1,w.H,w.V⟩,0)
def loseW (w:TWo) (i:Nat):TWo:=⟨w.F,w.H,w.V.eraseIdx i⟩
def hearOp (m:TMe):TOp:=⟨8,m.D,m.E,0,0,0,0,0,m.A,m.K⟩
noncomputable def actS (w:TWo) (s:TSt):TWo×Int :=
 if ¬ (1<=s.Y/\s.Y<=w.H.length) then (zWd,6) else
 if s.Q=5 then (if s.Op.Q=8 then (zWd,9) else keepS w (s.Y-1).toNat (appendS (jAt w (s.Y-1).toNat) s.Op).1 (appendS (jAt w (s.Y-1).toNat) s.Op).2) else
 if s.Q=6 then keepS w (s.Y-1).toNat (flushJ (jAt w (s.Y-1).toNat)) 0 else
 if s.Q=7 then keepS w (s.Y-1).toNat (crashJ (jAt w (s.Y-1).toNat)) 0 else
 sendS w (reportS (stW w (s.Y-1).toNat) s.D s.E).1 (reportS (stW w (s.Y-1).toNat) s.D s.E).2
def mAt (w:TWo) (i:Nat):TMe:=w.V.getD i dF
noncomputable def delivS (w:TWo) (i:Nat):TWo×Int :=
 if (mAt w i).To=0 then (if (J13.hearM w.F (mAt w i)).2≠0 then (zWd,(J13.hearM w.F (mAt w i)).2) else (⟨(J13.hearM w.F (mAt w i)).1,w.H,w.V.eraseIdx i⟩,0)) else
 keepS (loseW w i) ((mAt w i).To-1).toNat (appendS (jAt w ((mAt w i).To-1).toNat) (hearOp (mAt w i))).1 (appendS (jAt w ((mAt w i).To-1).toNat) (hearOp (mAt w i))).2
noncomputable def mailS (w:TWo) (s:TSt):TWo×Int :=
 if ¬ (0<=s.Ai/\s.Ai<w.V.length) then (zWd,6) else if s.Q=9 then delivS w s.Ai.toNat else if s.Q=11 then sendS w (mAt w s.Ai.toNat) 0 else (loseW w s.Ai.toNat,0)
noncomputable def stepW (w:TWo) (s:TSt):TWo×Int :=
 if s.Q=1 then tresS w (J13.setM w.F s.D s.E s.S) else
 if s.Q=2 then tresS w (J13.grantM w.F s.Y s.D s.E s.S) else
 if s.Q=3 then tresS w (J13.askM w.F s.Y s.D s.E s.S) else
 if s.Q=4 then sendS w (J13.tellM w.F s.Y s.D s.E).1 (J13.tellM w.F s.Y s.D s.E).2 else
 if 5<=s.Q/\s.Q<=8 then actS w s else if 9<=s.Q/\s.Q<=11 then mailS w s else (zWd,1)
variable {e:Int}
theorem z57 (h:e≠0):sendS w m e=(zWd,e):=y6 h
theorem z5n (h:w.V.length=200):sendS w m 0=(zWd,3):=(y5 fun k=>k rfl).trans (y6 h)
theorem z4x (h:w.V.length≠200):sendS w m 0=(⟨w.F,w.H,w.V++[m]⟩,0):=(y5 fun k=>k rfl).trans (y5 h)
theorem z3c (h:e≠0):keepS w k j e=(zWd,e):=y6 h
theorem z1s:keepS w k j 0=(⟨w.F,w.H.set k j,w.V⟩,0):=y5 fun k=>k rfl
theorem zf0 (hl:w.V.length<=200) (m:TMe) (e:Int):F_q3z w m e=some (sendS w m e):=by
 simp only[F_q3z,S_q3z,Scr.den]
 by_cases h0:e=0
 ·subst h0
  rw[y5 sj]
  by_cases h2:w.V.length=200
  ·rw[y6 (by simp[h2]),z5n h2]
   rfl
  ·have e1:i64.wrap ((w.V.length:Int)+1)=((w.V.length+1:Nat):Int):=wrapId om om
   have e2:min w.V.length (List.replicate (w.V.length+1) ((⟨0,0,[],0,0,0,0,0⟩:TMe):TMe)).length=w.V.length:=by rw[y1x]; omega
   rw[y5 sk,z4x h2,e1,ye,e2,za ⟨om,om,trivial⟩,za ⟨by rw[y1x]; omega,by rw[zq,y1x]; omega,trivial⟩,za ⟨by rw[ya,zq,y1x]; omega,trivial⟩]
   congr 3
   refine y33 (by rw[ya,zq,y1x,yu]; rfl) fun i h1 h3=>?_
   rw[ya,zq,y1x] at h1
   rw[y3z]
   by_cases hi:i=w.V.length
   ·rw[y6 om]
    subst hi
    simp
   ·rw[y5 om,List.getElem_append_left om]
    simp only[copyL,y34,y3e]
    rw[y6 om,Nat.sub_zero,z17 om]
 ·rw[y6 (by simpa using h0),z57 h0]
  rfl
theorem zod {l:List TJo} (hl:l.length<=1000000):F_q64 l=some l:=by
 simp only[F_q64,S_q64,Scr.den]
 rw[za ⟨om,trivial⟩]
theorem zc3 (hl:w.H.length<=6) (hk:k<w.H.length) (hj:e=0->j.Y=(k:Int)+1):F_q3h w j e=some (keepS w k j e):=by
 simp only[F_q3h,S_q3h,Scr.den]
 by_cases h0:e=0
 ·have ew:i64.wrap (j.Y-1)=(k:Int):=by rw[hj h0,wrapId om om]; omega
  subst h0
  rw[y5 sj,z1s,zod om]
  simp only[obind,ew,ye,yo]
  rw[za ⟨om,hk,hk,trivial⟩,za ⟨by rw[ya]; omega,trivial⟩]
 ·rw[y6 (by simpa using h0),z3c h0]
  rfl
variable {l:List TMe}
theorem zoe (hl:l.length<=1000000):F_q6a l=some l:=by
 simp only[F_q6a,S_q6a,Scr.den]
 rw[za ⟨om,trivial⟩]
theorem cloneM (hl:l.length<=1000000):F_q6g l=some l:=by
 simp only[F_q6g,S_q6g,Scr.den]
 rw[za ⟨om,trivial⟩]
theorem zlo (hi:i<l.length) (hl:l.length<=1000000):F_q6b (i:Int) ((i:Int)+1) l=some (l.eraseIdx i):=by
 simp only[F_q6b,S_q6b,Scr.den]
 have e1:((i:Int)+1).toNat=i+1:=om
 simp only[e1,ye,Nat.sub_zero,yo]
 rw[za ⟨om,om,om,om,trivial⟩,y5 sk,za ⟨om,om,trivial⟩,za ⟨om,by rw[zq]; exact yf _,trivial⟩,
  za ⟨by rw[z1n,zq]; omega,trivial⟩,za ⟨by rw[z1n,zq]; omega,trivial⟩]
 congr 1
 refine y33 ?_ fun j h1 h2=>?_
 ·rw[y1g,z1n,zq,y5e,y6 hi]
  omega
 ·rw[y1g,z1n,zq] at h1
  rw[List.getElem_take,List.getElem_eraseIdx]
  simp only[clearL,List.getElem_mapIdx,copyL,y34,y3e]
  rw[y5 om]
  by_cases c:j<i
  ·rw[y5 om,y4e c,z17 om]
  ·rw[y6 om,dif_neg c,z17 om]
   congr 1
   omega
theorem zf1 (hl:w.V.length<=200) (hi:i<w.V.length):F_q41 w (i:Int)=some (loseW w i):=by
 simp only[F_q41,S_q41,Scr.den,zoe (show w.V.length<=1000000 from om),obind]
 rw[wrapId (n:=(i:Int)+1) om om,zlo hi om]
 rfl
theorem z6y (h0:(appendS j p).2=0):(appendS j p).1.Y=j.Y:=by
 by_cases hp:POp p
 ·by_cases h1:(doS (nowJ j) p).2=0
  ·by_cases hl:j.Ab.length=400
   ·rw[z3z hp h1 hl] at h0; cases h0
   ·rw[z2v hp h1 hl]
  ·rw[z4n hp h1] at h0
   exact absurd h0 h1
 ·rw[z4m hp] at h0; cases h0
theorem VW.msgLen (h:VW w) (hm:m∈w.V):m.D.length<=1000000:=by
 have h1:=(h.2.2.2.2 m hm).1
 have h2:=h.1.potAt h1
 have h3:=z2m h2.1
 have h4:=(J13.potAt_cy h1).1
 rw[h4] at h3
 omega
theorem zlp (h:VW w) (hi:i<w.V.length):F_q6c w (i:Int)=some (delivS w i):=by
 have hl:=h.len
 have hm:=h.2.2.1
 have hml:=h.msgLen (zb hi)
 have hmo:=(h.2.2.2.2 _ (zb hi)).2
 have h2:=h.2.1
 simp only[F_q6c,S_q6c,Scr.den,ye]
 rw[za ⟨om,hi,trivial⟩]
 unfold delivS mAt
 generalize w.V.getD i dF=m at hml hmo
 by_cases h0:m.To=0
 ·refine y1k ?_ (yi some (y6 h0).symm)
  rw[y6 (by simp[h0]),J13.Hear_eq h.small]
  simp only[obind]
  by_cases h1:(J13.hearM w.F m).2=0
  ·refine y1k ?_ (yi some (y5 (fun k=>k h1)).symm)
   rw[y5 (by simp[h1]),zf1 (w:=⟨(J13.hearM w.F m).1,w.H,w.V⟩) hm hi]
   rfl
  ·refine y1k ?_ (yi some (y6 h1).symm)
   rw[y6 (by simpa using h1)]
   rfl
 ·have hto:1<=m.To/\m.To<=w.F.N:=by
   rcases hmo with ⟨_,q,_⟩ | ⟨_,_,q,_⟩
   ·exact q
   ·exact absurd q h0
  have hk:(m.To-1).toNat<w.H.length:=om
  obtain⟨q1,q2,_⟩:=h.2.2.2.1 _ hk
  have ew:i64.wrap (m.To-1)=m.To-1:=wrapId om om
  refine y1k ?_ (yi some (y5 h0).symm)
  rw[y5 (by simpa using h0),ew]
  simp only[show w.H.getD (m.To-1).toNat dF=jAt w (m.To-1).toNat from rfl]
  rw[show (⟨8,m.D,m.E,0,0,0,0,0,m.A,m.K⟩:TOp)=hearOp m from rfl,zcp q1 (p:=hearOp m) hml]
  simp only[obind]
  rw[za ⟨om,hk,trivial⟩,zf1 hm hi]
  simp only[obind]
  rw[zc3 (w:=loseW w i) (k:=(m.To-1).toNat) hl.2 hk fun e0=>by rw[z6y e0,q2]]
  rfl
variable {ρ:Type}
theorem ztv (k a b c d:Int) (K:Bool->Option α) (R:ρ->Option α):outM (if (k==a)=true then some (Out.next (k==a)) else if (k==b)=true then some (Out.next (k==b)) else if (k==c)=true then some (Out.next (k==c)) else some (Out.next (k==d))) K R=K (decide (k=a\/k=b\/k=c\/k=d)):=by
 by_cases h1:k=a
 ·rw[y6 (by simpa using h1)]; simp[outM,h1]
 rw[y5 (by simpa using h1)]
 by_cases h2:k=b
 ·rw[y6 (by simpa using h2)]; simp[outM,h2]
 rw[y5 (by simpa using h2)]
 by_cases h3:k=c
 ·rw[y6 (by simpa using h3)]; simp[outM,h3]
 rw[y5 (by simpa using h3)]
 simp only[outM,h1,h2,h3,false_or]
 rfl
theorem ztw (k a b c:Int) (K:Bool->Option α) (R:ρ->Option α):outM (if (k==a)=true then some (Out.next (k==a)) else if (k==b)=true then some (Out.next (k==b)) else some (Out.next (k==c))) K R=K (decide (k=a\/k=b\/k=c)):=by
 by_cases h1:k=a
 ·rw[y6 (by simpa using h1)]; simp[outM,h1]
 rw[y5 (by simpa using h1)]
 by_cases h2:k=b
 ·rw[y6 (by simpa using h2)]; simp[outM,h2]
 rw[y5 (by simpa using h2)]
 simp only[outM,h1,h2,false_or]
 rfl
variable {s:TSt}
theorem z8y (h:s.Q=1):stepW w s=tresS w (J13.setM w.F s.D s.E s.S):=y6 h
theorem z8z (h:s.Q=2):stepW w s=tresS w (J13.grantM w.F s.Y s.D s.E s.S):=(y5 om).trans (y6 h)
theorem z90 (h:s.Q=3):stepW w s=tresS w (J13.askM w.F s.Y s.D s.E s.S):=(y5 om).trans ((y5 om).trans (y6 h))
theorem z65 (h:s.Q=4):stepW w s=sendS w (J13.tellM w.F s.Y s.D s.E).1 (J13.tellM w.F s.Y s.D s.E).2:=(y5 om).trans ((y5 om).trans ((y5 om).trans (y6 h)))
theorem z58 (h:5<=s.Q/\s.Q<=8):stepW w s=actS w s:=(y5 om).trans ((y5 om).trans ((y5 om).trans ((y5 om).trans (y6 h))))
theorem z59 (h:9<=s.Q/\s.Q<=11):stepW w s=mailS w s:=(y5 om).trans ((y5 om).trans ((y5 om).trans ((y5 om).trans ((y5 om).trans (y6 h)))))
theorem z91 (h:¬ (1<=s.Q/\s.Q<=11)):stepW w s=(zWd,1):=(y5 om).trans ((y5 om).trans ((y5 om).trans ((y5 om).trans ((y5 om).trans (y5 om)))))
theorem z66 (w:TWo) (r:TTr×Int):(if (r.2 != 0)=true then some (zWd,r.2) else some ((⟨r.1,w.H,w.V⟩:TWo),(0:Int)))=some (tresS w r):=by
 unfold tresS
 by_cases h:r.2=0
 ·rw[y5 (by simp[h]),y5 (by simp[h])]
 ·rw[y6 (by simpa using h),y6 h]
theorem zja (h:VW w) (hc:s.D.length<=1000000) (hk:1<=s.Q/\s.Q<=4):F_q62 w s=some (stepW w s):=by
 have hs:=h.small
 simp only[F_q62,S_q62,Scr.den]
 have hk:s.Q=1\/s.Q=2\/s.Q=3\/s.Q=4:=om
 rcases hk with k | k | k | k
 ·rw[z8y k,<- z66,y6 (by simp[k]),J13.Set_eq hs hc]
  rfl
 ·rw[z8z k,<- z66,y5 (by simp[k]),y6 (by simp[k]),J13.Grant_eq hs]
  rfl
 ·rw[z90 k,<- z66,y5 (by simp[k]),y5 (by simp[k]),y6 (by simp[k]),J13.Ask_eq hs]
  rfl
 ·rw[z65 k,y5 (by simp[k]),y5 (by simp[k]),y5 (by simp[k]),J13.Tell_eq hs]
  simp only[obind]
  rw[zf0 h.2.2.1]
  rfl
theorem ztx (h:VW w) (ho:s.Op.D.length<=1000000) (_hk:5<=s.Q/\s.Q<=8):F_q68 w s=some (actS w s):=by
 have hl:=h.len
 simp only[F_q68,S_q68,Scr.den,zbb,obind]
 by_cases h1:1<=s.Y/\s.Y<=w.H.length
 ·have ew:i64.wrap (s.Y-1)=s.Y-1:=wrapId om om
  have hlt:(s.Y-1).toNat<w.H.length:=om
  obtain⟨q1,q2,_⟩:=h.2.2.2.1 _ hlt
  rw[yd h1,y5 sj,ew,za ⟨om,om,trivial⟩]
  simp only[show w.H.getD (s.Y-1).toNat dF=jAt w (s.Y-1).toNat from rfl]
  refine y1k ?_ (yi some (y5 fun g=>g h1).symm)
  by_cases c5:s.Q=5
  ·refine y1k ?_ (yi some (y6 c5).symm)
   rw[y6 (by simp[c5])]
   by_cases c8:s.Op.Q=8
   ·refine y1k ?_ (yi some (y6 c8).symm)
    rw[y6 (by simp[c8])]
    rfl
   ·refine y1k ?_ (yi some (y5 c8).symm)
    rw[y5 (by simpa using c8),zcp q1 ho]
    simp only[obind]
    rw[zc3 hl.2 hlt fun e0=>by rw[z6y e0,q2]]
    rfl
  refine y1k ?_ (yi some (y5 c5).symm)
  rw[y5 (by simpa using c5)]
  by_cases c6:s.Q=6
  ·refine y1k ?_ (yi some (y6 c6).symm)
   rw[y6 (by simp[c6]),zli q1]
   simp only[obind]
   rw[zc3 (j:=flushJ (jAt w (s.Y-1).toNat)) hl.2 hlt fun _=>q2]
   rfl
  refine y1k ?_ (yi some (y5 c6).symm)
  rw[y5 (by simpa using c6)]
  by_cases c7:s.Q=7
  ·refine y1k ?_ (yi some (y6 c7).symm)
   rw[y6 (by simp[c7]),zlj q1]
   simp only[obind]
   rw[zc3 (j:=crashJ (jAt w (s.Y-1).toNat)) hl.2 hlt fun _=>q2]
   rfl
  refine y1k ?_ (yi some (y5 c7).symm)
  rw[y5 (by simpa using c7),zco q1]
  simp only[obind]
  rw[znx q1.stb.smO]
  simp only[obind]
  rw[zf0 h.2.2.1]
  rfl
 ·rw[yh h1,y6 (by rfl)]
  exact yi some (y6 h1).symm
theorem zsi (h:VW w) (_hk:9<=s.Q/\s.Q<=11):F_q6d w s=some (mailS w s):=by
 have hm:=h.2.2.1
 have ew:i64.wrap ((w.V.length:Int)-1)=(w.V.length:Int)-1:=wrapId om om
 simp only[F_q6d,S_q6d,Scr.den,zbb,obind,ew]
 by_cases h1:0<=s.Ai/\s.Ai<w.V.length
 ·have hlt:s.Ai.toNat<w.V.length:=om
  have ei:s.Ai=(s.Ai.toNat:Int):=om
  rw[yd (show 0<=s.Ai/\s.Ai<=(w.V.length:Int)-1 from om),y5 sj]
  refine y1k ?_ (yi some (y5 fun g=>g h1).symm)
  by_cases c9:s.Q=9
  ·refine y1k ?_ (yi some (y6 c9).symm)
   rw[y6 (by simp[c9])]
   conv=>lhs; rw[ei]
   rw[zlp h hlt]
   rfl
  refine y1k ?_ (yi some (y5 c9).symm)
  rw[y5 (by simpa using c9)]
  by_cases c11:s.Q=11
  ·refine y1k ?_ (yi some (y6 c11).symm)
   rw[y6 (by simp[c11]),zf0 hm]
   simp only[obind]
   rw[za ⟨h1.1,hlt,trivial⟩]
   rfl
  refine y1k ?_ (yi some (y5 c11).symm)
  rw[y5 (by simpa using c11)]
  conv=>lhs; rw[ei]
  rw[zf1 hm hlt]
  rfl
 ·rw[yh (show ¬ (0<=s.Ai/\s.Ai<=(w.V.length:Int)-1) from om),y6 (by rfl)]
  exact yi some (y6 h1).symm
theorem zof (h:VW w) (hc:s.D.length<=1000000) (ho:s.Op.D.length<=1000000):F_q6e w s=some (stepW w s):=by
 simp only[F_q6e,S_q6e,Scr.den,ztv,ztw]
 by_cases k1:1<=s.Q/\s.Q<=4
 ·rw[y6 (by rw[y7]; omega),zja h hc k1]
  rfl
 rw[y5 (by rw[y7]; omega)]
 by_cases k2:5<=s.Q/\s.Q<=8
 ·rw[y6 (by rw[y7]; omega),ztx h ho k2,z58 k2]
  rfl
 rw[y5 (by rw[y7]; omega)]
 by_cases k3:9<=s.Q/\s.Q<=11
 ·rw[y6 (by rw[y7]; omega),zsi h k3,z59 k3]
  rfl
 rw[y5 (by rw[y7]; omega),z91 om]
 rfl
theorem zjb (hs:J13.Small t) (k:Int) (c:Y8) (y:Int):F_q58 t k c y=some (J13.tellM t k c y):=by
 simp only[F_q58,S_q58,Scr.den,J13.r13_find_eq hs,obind]
 unfold J13.tellM J13.findM
 by_cases h1:J13.TOk t
 ·simp only[show ¬ ¬ J13.TOk t from fun h=>h h1,yx]
  by_cases h2:J13.hasP t.B c y=true/\1<=k/\k<=t.N
  ·have hlt:=(J13.pix_lt h2.1).1
   have hp:=h1.potAt h2.1
   have l1:=hp.2.2.2.1.1.1
   have l3:=hp.2.2.2.1.2.2.1.1
   have e0:=h1.1
   have h3:=h2.2
   simp only[show ¬ ¬ (J13.hasP t.B c y=true/\1<=k/\k<=t.N) from fun h=>h h2,yx]
   rw[y5 (show ¬ ((0:Int) != 0)=true from sj),wrapId (n:=k-1) om om,ye,show t.B.getD (J13.pix t.B c y) dF=J13.potAt t c y from rfl,za ⟨om,hlt,om,om,om,trivial⟩]
   rfl
  ·simp only[h2,yk,y18]; rfl
 ·simp only[h1,yk,y18]; rfl
theorem z8j (hl:w.V.length<=200) (m:TMe):F_q3q w m=some (sendS w m 0):=by
 simp only[F_q3q,S_q3q,Scr.den]
 by_cases h2:w.V.length=200
 ·rw[y6 (by simp[h2]),z5n h2]
  rfl
 ·rw[y5 sk,z4x h2,za ⟨om,om,trivial⟩,za ⟨by rw[yu]; simp; omega,trivial⟩]
theorem z6b (hl:w.H.length<=6) (hk:k<w.H.length) (hj:j.Y=(k:Int)+1):F_q33 w j=some (keepS w k j 0).1:=by
 have ew:i64.wrap (j.Y-1)=(k:Int):=by rw[hj,wrapId om om]; omega
 simp only[F_q33,S_q33,Scr.den,ew,ye,yo]
 rw[z1s,za ⟨om,trivial⟩,za ⟨om,hk,hk,trivial⟩,za ⟨by rw[ya]; omega,trivial⟩]
theorem z4h (hl:w.V.length<=200) (hi:i<w.V.length):F_q3r w (i:Int)=some (loseW w i):=by
 simp only[F_q3r,S_q3r,Scr.den]
 have e1:i64.wrap ((i:Int)+1)=((i+1:Nat):Int):=wrapId om om
 have e2:w.V.take i++w.V.drop (i+1)=w.V.eraseIdx i:=(List.eraseIdx_eq_take_drop_succ ..).symm
 have l1:(w.V.take i).length<=200:=by rw[y1g]; omega
 have l2:(w.V.drop (i+1)).length<=200:=by rw[y3d]; omega
 have l3:(w.V.eraseIdx i).length<=200:=y26 (y3j ..) hl
 rw[e1]
 simp only[ye,e2]
 rw[za ⟨om,om,om,om,om,om,trivial⟩,za ⟨om,trivial⟩]
 rfl
theorem zjc (h:VW w) (ho:s.Op.D.length<=1000000) (_hk:5<=s.Q/\s.Q<=8):F_q5d w s=some (actS w s):=by
 have hl:=h.len
 simp only[F_q5d,S_q5d,Scr.den,F_q3n,S_q3n,zg,obind]
 by_cases h1:1<=s.Y/\s.Y<=w.H.length
 ·have ew:i64.wrap (s.Y-1)=s.Y-1:=wrapId om om
  have hlt:(s.Y-1).toNat<w.H.length:=om
  obtain⟨q1,q2,_⟩:=h.2.2.2.1 _ hlt
  rw[y5 sk,ew,za ⟨om,om,trivial⟩]
  simp only[show w.H.getD (s.Y-1).toNat dF=jAt w (s.Y-1).toNat from rfl]
  refine y1k ?_ (yi some (y5 fun g=>g h1).symm)
  by_cases c5:s.Q=5
  ·refine y1k ?_ (yi some (y6 c5).symm)
   rw[y5 (by simp[c5]),y5 (by simp[c5]),y6 (by simp[c5])]
   by_cases c8:s.Op.Q=8
   ·refine y1k ?_ (yi some (y6 c8).symm)
    rw[y6 (by simp[c8])]
    rfl
   ·refine y1k ?_ (yi some (y5 c8).symm)
    rw[y5 (by simpa using c8),zac q1 ho]
    simp only[obind]
    by_cases e0:(appendS (jAt w (s.Y-1).toNat) s.Op).2=0
    ·rw[y5 (by rw[e0]; decide),z6b hl.2 hlt (by rw[z6y e0,q2]),e0]
     rfl
    ·rw[y6 (by simpa using e0),z3c e0]
     rfl
  refine y1k ?_ (yi some (y5 c5).symm)
  by_cases c6:s.Q=6
  ·refine y1k ?_ (yi some (y6 c6).symm)
   rw[y6 (by simp[c6]),zi9 q1]
   simp only[obind]
   rw[z6b (j:=flushJ (jAt w (s.Y-1).toNat)) hl.2 hlt q2]
   rfl
  refine y1k ?_ (yi some (y5 c6).symm)
  rw[y5 (by simpa using c6)]
  by_cases c7:s.Q=7
  ·refine y1k ?_ (yi some (y6 c7).symm)
   rw[y6 (by simp[c7]),zia q1]
   simp only[obind]
   rw[z6b (j:=crashJ (jAt w (s.Y-1).toNat)) hl.2 hlt q2]
   rfl
  refine y1k ?_ (yi some (y5 c7).symm)
  rw[y5 (by simpa using c7),y5 (by simpa using c5),zgi q1]
  simp only[obind]
  rw[zgg q1.stb.smO]
  simp only[obind]
  by_cases e0:(reportS (stbJ (jAt w (s.Y-1).toNat)) s.D s.E).2=0
  ·rw[y5 (by rw[e0]; decide),z8j h.2.2.1]
   unfold stW
   rw[e0]
   rfl
  ·rw[y6 (by simpa using e0)]
   unfold stW
   rw[z57 e0]
   rfl
 ·rw[y6 sk]
  exact yi some (y6 h1).symm
theorem zf2 (h:VW w) (hi:i<w.V.length):F_q5f w (i:Int)=some (delivS w i):=by
 have hl:=h.len
 have hm:=h.2.2.1
 have hml:=h.msgLen (zb hi)
 have hmo:=(h.2.2.2.2 _ (zb hi)).2
 have h2:=h.2.1
 simp only[F_q5f,S_q5f,Scr.den,ye]
 rw[za ⟨om,hi,trivial⟩]
 unfold delivS mAt
 generalize w.V.getD i dF=m at hml hmo
 by_cases h0:m.To=0
 ·refine y1k ?_ (yi some (y6 h0).symm)
  rw[y6 (by simp[h0]),J13.r13_Hear_eq h.small]
  simp only[obind]
  by_cases h1:(J13.hearM w.F m).2=0
  ·refine y1k ?_ (yi some (y5 (fun k=>k h1)).symm)
   rw[y5 (by simp[h1])]
   simp only[zo]
   rw[z4h (w:=⟨(J13.hearM w.F m).1,w.H,w.V⟩) hm hi]
   rfl
  ·refine y1k ?_ (yi some (y6 h1).symm)
   rw[y6 (by simpa using h1)]
   rfl
 ·have hto:1<=m.To/\m.To<=w.F.N:=by
   rcases hmo with ⟨_,q,_⟩ | ⟨_,_,q,_⟩
   ·exact q
   ·exact absurd q h0
  have hk:(m.To-1).toNat<w.H.length:=om
  obtain⟨q1,q2,_⟩:=h.2.2.2.1 _ hk
  have ew:i64.wrap (m.To-1)=m.To-1:=wrapId om om
  refine y1k ?_ (yi some (y5 h0).symm)
  rw[y5 (by simpa using h0),ew]
  simp only[show w.H.getD (m.To-1).toNat dF=jAt w (m.To-1).toNat from rfl]
  rw[show (⟨8,m.D,m.E,0,0,0,0,0,m.A,m.K⟩:TOp)=hearOp m from rfl,zac q1 (p:=hearOp m) hml]
  simp only[obind]
  rw[za ⟨om,hk,trivial⟩]
  by_cases e0:(appendS (jAt w (m.To-1).toNat) (hearOp m)).2=0
  ·rw[y5 (by rw[e0]; decide),z6b hl.2 hk (by rw[z6y e0,q2]),e0]
   simp only[obind,zo]
   rw[z4h (w:=(keepS w (m.To-1).toNat (appendS (jAt w (m.To-1).toNat) (hearOp m)).1 0).1) (by rw[z1s]; exact hm) (by rw[z1s]; exact hi),z1s,z1s]
   rfl
  ·rw[y6 (by simpa using e0),z3c e0]
   rfl
theorem zjd (h:VW w) (_hk:9<=s.Q/\s.Q<=11):F_q5g w s=some (mailS w s):=by
 have hm:=h.2.2.1
 simp only[F_q5g,S_q5g,Scr.den,zd]
 by_cases h1:0<=s.Ai/\s.Ai<w.V.length
 ·have hlt:s.Ai.toNat<w.V.length:=om
  have ei:s.Ai=(s.Ai.toNat:Int):=om
  rw[y5 sk]
  refine y1k ?_ (yi some (y5 fun g=>g h1).symm)
  by_cases c9:s.Q=9
  ·refine y1k ?_ (yi some (y6 c9).symm)
   rw[y6 (by simp[c9])]
   conv=>lhs; rw[ei]
   rw[zf2 h hlt]
   rfl
  refine y1k ?_ (yi some (y5 c9).symm)
  rw[y5 (by simpa using c9)]
  by_cases c11:s.Q=11
  ·refine y1k ?_ (yi some (y6 c11).symm)
   rw[y6 (by simp[c11]),z8j hm]
   simp only[obind]
   rw[za ⟨h1.1,hlt,trivial⟩]
   rfl
  refine y1k ?_ (yi some (y5 c11).symm)
  rw[y5 (by simpa using c11)]
  conv=>lhs; rw[ei]
  rw[z4h hm hlt]
  rfl
 ·rw[y6 sk]
  exact yi some (y6 h1).symm
theorem z6k (h:VW w) (hc:s.D.length<=1000000) (ho:s.Op.D.length<=1000000):F_q2r w s=some (stepW w s):=by
 have hs:=h.small
 simp only[F_q2r,S_q2r,Scr.den,ztv,ztw,z44 h,obind]
 rw[y5 dk]
 by_cases k:s.Q=1
 ·rw[z8y k,<- z66,y6 (by simp[k]),J13.r13_Set_eq hs hc]
  rfl
 rw[y5 (by simp[k])]
 by_cases k:s.Q=2
 ·rw[z8z k,<- z66,y6 (by simp[k]),J13.r13_Grant_eq hs]
  rfl
 rw[y5 (by simp[k])]
 by_cases k:s.Q=3
 ·rw[z90 k,<- z66,y6 (by simp[k]),J13.r13_Ask_eq hs]
  rfl
 rw[y5 (by simp[k])]
 by_cases k:s.Q=4
 ·rw[z65 k,y6 (by simp[k]),zjb hs]
  simp only[obind]
  by_cases e0:(J13.tellM w.F s.Y s.D s.E).2=0
  ·rw[y5 (by rw[e0]; decide),z8j h.2.2.1,e0]
   rfl
  ·rw[y6 (by simpa using e0),z57 e0]
   rfl
 rw[y5 (by simp[k])]
 by_cases k2:5<=s.Q/\s.Q<=8
 ·rw[y6 (by rw[y7]; omega),zjc h ho k2,z58 k2]
  rfl
 rw[y5 (by rw[y7]; omega)]
 by_cases k3:9<=s.Q/\s.Q<=11
 ·rw[y6 (by rw[y7]; omega),zjd h k3,z59 k3]
  rfl
 rw[y5 (by rw[y7]; omega),z91 om]
 rfl
theorem z5a {l:List Int} (h:l.length<=k):l.getD k dF=dF:=by simp[List.getD_eq_getElem?_getD,List.getElem?_eq_none h]
theorem z45 (h:J13.TOk t) {p:TPo} (hp:p∈t.B):J13.hasP t.B p.D p.E=true/\J13.potAt t p.D p.E=p:=by
 have hh:J13.hasP t.B p.D p.E=true:=J13.has_iff.2 ⟨p,hp,rfl,rfl⟩
 refine⟨hh,?_⟩
 obtain⟨k1,k2,k3⟩:=J13.pix_lt hh
 obtain⟨i,hi,e⟩:=z19 hp
 have g1:=h.good _ (zb k1)
 have g2:=h.good _ hp
 have e0:J13.cmpP (t.B.getD (J13.pix t.B p.D p.E) dF) p=0:=(J13.cmpP_eq g1.1 g2.1).2 ⟨k2,k3⟩
 have e0':J13.cmpP p (t.B.getD (J13.pix t.B p.D p.E) dF)=0:=(J13.cmpP_eq g2.1 g1.1).2 ⟨k2.symm,k3.symm⟩
 rcases y3s (J13.pix t.B p.D p.E) i with hlt | heq | hgt
 ·have:=h.srt.lt h.good hlt hi
  rw[e,e0] at this
  omega
 ·show t.B.getD (J13.pix t.B p.D p.E) dF=p
  rw[heq,e]
 ·have:=h.srt.lt h.good hgt k1
  rw[e,e0'] at this
  omega
theorem z5b (hp:J13.hasP t.B c y=true) {p:TPo} (hc:p.D=c) (hy:p.E=y) (hk:J13.TOk (J13.putP t c y p)) :
  J13.potAt (J13.putP t c y p) c y=p/\∀ c' y',(J13.hasP (J13.putP t c y p).B c' y'=J13.hasP t.B c' y')/\(J13.hasP t.B c' y'=true->¬ (c'=c/\y'=y)->J13.potAt (J13.putP t c y p) c' y'=J13.potAt t c' y'):=by
 obtain⟨k1,k2,k3⟩:=J13.pix_lt hp
 have hm:p∈(J13.putP t c y p).B:=List.mem_set k1 p
 have h1:=z45 hk hm
 rw[hc,hy] at h1
 have hold:∀ c' y',J13.hasP t.B c' y'=true->¬ (c'=c/\y'=y)->J13.potAt t c' y'∈(J13.putP t c y p).B:=fun c' y' h hn=>by
  obtain⟨q1,q2,q3⟩:=J13.pix_lt h
  have hne:J13.pix t.B c y≠J13.pix t.B c' y':=fun e=>by
   rw[<- e] at q2 q3
   exact hn ⟨q2.symm.trans k2,q3.symm.trans k3⟩
  show t.B.getD (J13.pix t.B c' y') dF∈t.B.set (J13.pix t.B c y) p
  rw[z17 q1,List.mem_iff_getElem]
  exact⟨J13.pix t.B c' y',by rw[ya]; exact q1,by rw[List.getElem_set_ne hne]⟩
 refine⟨h1.2,fun c' y'=>⟨?_,fun h hn=>?_⟩⟩
 ·rw[y1l]
  by_cases e:c'=c/\y'=y
  ·obtain⟨rfl,rfl⟩:=e
   exact⟨fun _=>hp,fun _=>h1.1⟩
  constructor
  ·intro h
   obtain⟨x,hx,e1,e2⟩:=J13.has_iff.1 h
   rcases y2k hx with h3 | h3
   ·exact J13.has_iff.2 ⟨x,h3,e1,e2⟩
   ·subst h3
    exact absurd ⟨e1.symm.trans hc,e2.symm.trans hy⟩ e
  ·intro h
   have:=J13.potAt_cy h
   exact J13.has_iff.2 ⟨_,hold c' y' h e,this.1,this.2⟩
 ·have h2:=z45 hk (hold c' y' h hn)
  have:=J13.potAt_cy h
  rw[this.1,this.2] at h2
  exact h2.2
theorem zfy {r:TPo} (hi:i<=t.B.length) (hk:J13.TOk ⟨t.N,insL t.B i r⟩) :
  (J13.hasP (insL t.B i r) r.D r.E=true/\J13.potAt ⟨t.N,insL t.B i r⟩ r.D r.E=r)/\∀ c y,(J13.hasP (insL t.B i r) c y=true->J13.hasP t.B c y=true\/(c=r.D/\y=r.E))/\(J13.hasP t.B c y=true->J13.hasP (insL t.B i r) c y=true/\J13.potAt ⟨t.N,insL t.B i r⟩ c y=J13.potAt t c y):=by
 have hr:r∈insL t.B i r:=by
  have:=zb (l:=insL t.B i r) (i:=i) (by rw[zr]; omega)
  rwa [J13.insL_at hi] at this
 have hold:∀ x∈t.B,x∈insL t.B i r:=fun x hx=>by
  obtain⟨j,hj,rfl⟩:=z19 hx
  by_cases c:j<i
  ·have:=zb (l:=insL t.B i r) (i:=j) (by rw[zr]; omega)
   rwa [z1o hi,y6 c] at this
  ·have:=zb (l:=insL t.B i r) (i:=j+1) (by rw[zr]; omega)
   rwa [z1o hi,y5 om,y5 om] at this
 have hnew:∀ x∈insL t.B i r,x∈t.B\/x=r:=fun x hx=>by
  obtain⟨j,hj,rfl⟩:=z19 hx
  rw[zr] at hj
  rw[z1o hi]
  by_cases c:j<i
  ·rw[y6 c]; exact .inl (zb om)
  ·rw[y5 c]
   by_cases c2:j=i
   ·rw[y6 c2]; exact .inr rfl
   ·rw[y5 c2]; exact .inl (zb om)
 have h1:=z45 hk (p:=r) hr
 refine⟨h1,fun c y=>⟨fun h=>?_,fun h=>?_⟩⟩
 ·obtain⟨x,hx,e1,e2⟩:=J13.has_iff.1 h
  rcases hnew x hx with h3 | rfl
  ·exact .inl (J13.has_iff.2 ⟨x,h3,e1,e2⟩)
  ·exact .inr ⟨e1.symm,e2.symm⟩
 ·have hx:J13.potAt t c y∈t.B:=zb (J13.pix_lt h).1
  have h2:=z45 hk (p:=J13.potAt t c y) (hold _ hx)
  have:=J13.potAt_cy h
  rwa [this.1,this.2] at h2
def LeP (p q:TPo):Prop:=∀ k,nthN p.A k<=nthN q.A k/\nthN p.K k<=nthN q.K k
theorem LeP.refl (p:TPo):LeP p p:=fun _=>⟨y1d _,y1d _⟩
def GT (t t':TTr):Prop:=J13.TOk t'/\t'.N=t.N/\∀ c y,J13.hasP t.B c y=true->J13.hasP t'.B c y=true/\LeP (J13.potAt t c y) (J13.potAt t' c y)
def HE (t t':TTr):Prop:=∀ c y k,J13.hasP t'.B c y=true->(J13.hasP t.B c y=true/\nthN (J13.potAt t' c y).L k=nthN (J13.potAt t c y).L k)\/nthN (J13.potAt t' c y).L k=0
theorem zdz (hp:J13.hasP t.B c y=true) {p:TPo} (hc:p.D=c) (hy:p.E=y) (hk:J13.TOk (J13.putP t c y p)) (hl:LeP (J13.potAt t c y) p):GT t (J13.putP t c y p):=by
 obtain⟨h1,h2⟩:=z5b hp hc hy hk
 refine⟨hk,rfl,fun c' y' h=>⟨((h2 c' y').1).trans h,?_⟩⟩
 by_cases e:c'=c/\y'=y
 ·obtain⟨rfl,rfl⟩:=e
  rw[h1]
  exact hl
 ·rw[(h2 c' y').2 h e]
  exact LeP.refl _
theorem zib (hp:J13.hasP t.B c y=true) {p:TPo} (hc:p.D=c) (hy:p.E=y) (hk:J13.TOk (J13.putP t c y p)) (hl:p.L=(J13.potAt t c y).L):HE t (J13.putP t c y p):=by
 obtain⟨h1,h2⟩:=z5b hp hc hy hk
 intro c' y' k h
 rw[(h2 c' y').1] at h
 refine .inl ⟨h,?_⟩
 by_cases e:c'=c/\y'=y
 ·obtain⟨rfl,rfl⟩:=e
  rw[h1,hl]
 ·rw[(h2 c' y').2 h e]
theorem zfz (n:Int) (k:Nat):nthN (J13.zeros n) k=0:=by
 unfold nthN J13.zeros
 rw[y8,List.getElem?_replicate]
 split <;> rfl
variable {x:Int}
theorem zog (h:(J13.setM t c y x).2=0):GT t (J13.setM t c y x).1/\HE t (J13.setM t c y x).1:=by
 have hk:=(J13.set_ok h).2
 unfold J13.setM at h hk |-
 by_cases h1:J13.TOk t
 ·simp only[show ¬ ¬ J13.TOk t from fun h=>h h1,yx] at h hk |-
  by_cases h2:good c=true
  ·simp only[show ¬ ¬ good c=true from fun h=>h h2,yx] at h hk |-
   by_cases h3:(0<=y/\y<=99)/\-1000000000000000<=x/\x<=1000000000000000
   ·simp only[show ¬ ¬ ((0<=y/\y<=99)/\-1000000000000000<=x/\x<=1000000000000000) from fun h=>h h3,yx] at h hk |-
    by_cases h5:J13.hasP t.B c y=true
    ·rw[y6 h5] at hk |-
     have hcy:=J13.potAt_cy h5
     exact⟨zdz h5 (p:=J13.withT (J13.potAt t c y) x) hcy.1 hcy.2 hk fun _=>⟨y1d _,y1d _⟩,zib h5 (p:=J13.withT (J13.potAt t c y) x) hcy.1 hcy.2 hk rfl⟩
    ·rw[y5 h5] at h hk |-
     by_cases h6:t.B.length=60
     ·rw[y6 h6] at h; cases h
     ·rw[y5 h6] at hk |-
      obtain⟨g1,g2⟩:=zfy (r:=J13.newP t.N c y x) (J13.posP_le _ _) hk
      refine⟨⟨hk,rfl,fun c' y' h=>?_⟩,fun c' y' k h=>?_⟩
      ·obtain⟨q1,q2⟩:=(g2 c' y').2 h
       refine⟨q1,?_⟩
       rw[q2]
       exact LeP.refl _
      ·rcases (g2 c' y').1 h with h7 | ⟨h7,h8⟩
       ·refine .inl ⟨h7,?_⟩
        rw[((g2 c' y').2 h7).2]
       ·refine .inr ?_
        rw[h7,h8,g1.2]
        exact zfz _ _
   ·rw[y6 h3] at h; cases h
  ·rw[y6 (show ¬ good c=true from h2)] at h; cases h
 ·rw[y6 h1] at h; cases h
theorem zsj {G a:List Int} (hl:a.length=G.length) (ha:∀ x∈a,J13.tot x) (k:Nat):nthN G k<=nthN (J13.addN G a a.length) k:=by
 unfold nthN
 by_cases hk:k<G.length
 ·have:=ha _ (zb (show k<a.length from om))
  unfold J13.tot at this
  rw[J13.addN_get hk,y6 om]
  omega
 ·rw[z5a om,z5a (by rw[J13.addN_length]; omega)]
  exact y1d _
theorem zqb {k:Int} (h:(J13.grantM t k c y x).2=0):GT t (J13.grantM t k c y x).1/\HE t (J13.grantM t k c y x).1:=by
 have hk:=(J13.grant_ok h).2
 unfold J13.grantM at h hk |-
 by_cases h1:J13.TOk t
 ·simp only[show ¬ ¬ J13.TOk t from fun h=>h h1,yx] at h hk |-
  by_cases h2:J13.hasP t.B c y=true
  ·simp only[show ¬ ¬ J13.hasP t.B c y=true from fun h=>h h2,yx] at h hk |-
   by_cases h3:1<=k/\k<=t.N
   ·simp only[show ¬ ¬ (1<=k/\k<=t.N) from fun h=>h h3,yx] at h hk |-
    by_cases h4:1<=x/\x<=1000000000000000
    ·simp only[show ¬ ¬ (1<=x/\x<=1000000000000000) from fun h=>h h4,yx] at h hk |-
     by_cases h5:(J13.giveV (J13.potAt t c y).W (J13.potAt t c y) (J13.oneHot (J13.potAt t c y).A.length (k-1).toNat x)).1=0
     ·rw[y5 (show ¬ _≠_ from fun h=>h h5)] at hk |-
      have hcy:=J13.potAt_cy h2
      have hg:=(J13.give_ok (h1.potAt h2) (J13.oneHot_tot h4) J13.oneHot_length h5).1
      refine⟨zdz h2 (p:=J13.withG _ _) hcy.1 hcy.2 hk fun j=>⟨?_,y1d _⟩,zib h2 (p:=J13.withG _ _) hcy.1 hcy.2 hk rfl⟩
      rw[hg]
      exact zsj J13.oneHot_length (J13.oneHot_tot h4) j
     ·rw[y6 h5] at h; exact absurd h h5
    ·simp only[h4,yk,y18] at h; cases h
   ·simp only[h3,yk,y18] at h; cases h
  ·simp only[h2,yk,y18,yv] at h; cases h
 ·simp only[h1,yk,y18] at h; cases h
theorem zty {l:List Int} {k:Int} (hx:J13.nth l k<=x) (j:Nat):nthN l j<=nthN (J13.upd l k x) j:=by
 unfold nthN
 by_cases hj:j<l.length
 ·rw[J13.upd_get hj]
  split
  ·rename_i e
   subst e
   exact hx
  ·exact y1d _
 ·rw[z5a om,z5a (by rw[J13.upd_length]; omega)]
  exact y1d _
theorem zoh {k:Int} (h:(J13.askM t k c y x).2=0):GT t (J13.askM t k c y x).1/\HE t (J13.askM t k c y x).1:=by
 have hk:=(J13.ask_ok h).2
 unfold J13.askM at h hk |-
 by_cases h1:J13.TOk t
 ·simp only[show ¬ ¬ J13.TOk t from fun h=>h h1,yx] at h hk |-
  by_cases h2:J13.hasP t.B c y=true
  ·simp only[show ¬ ¬ J13.hasP t.B c y=true from fun h=>h h2,yx] at h hk |-
   by_cases h3:1<=k/\k<=t.N
   ·simp only[show ¬ ¬ (1<=k/\k<=t.N) from fun h=>h h3,yx] at h hk |-
    by_cases h4:1<=x/\x<=1000000000000000
    ·simp only[show ¬ ¬ (1<=x/\x<=1000000000000000) from fun h=>h h4,yx] at h hk |-
     by_cases h5:J13.nth (J13.potAt t c y).A k<J13.nth (J13.potAt t c y).K k+x
     ·rw[y6 h5] at h; cases h
     ·rw[y5 h5] at hk |-
      have hcy:=J13.potAt_cy h2
      refine⟨zdz h2 (p:=J13.withA _ _) hcy.1 hcy.2 hk fun j=>⟨y1d _,?_⟩,zib h2 (p:=J13.withA _ _) hcy.1 hcy.2 hk rfl⟩
      exact zty om j
    ·simp only[h4,yk,y18] at h; cases h
   ·simp only[h3,yk,y18] at h; cases h
  ·simp only[h2,yk,y18,yv] at h; cases h
 ·simp only[h1,yk,y18] at h; cases h
theorem zkc (h:(J13.hearM t m).2=0):GT t (J13.hearM t m).1/\(1<=m.Aa/\m.Aa<=t.N)/\∀ c y k,J13.hasP (J13.hearM t m).1.B c y=true->J13.hasP t.B c y=true /\
  (nthN (J13.potAt (J13.hearM t m).1 c y).L k=nthN (J13.potAt t c y).L k\/(c=m.D/\y=m.E/\k=(m.Aa-1).toNat/\nthN (J13.potAt (J13.hearM t m).1 c y).L k=max (nthN (J13.potAt t c y).L k) m.M)):=by
 have hk:=(J13.hear_ok h).2
 unfold J13.hearM at h hk |-
 by_cases h0:m.To=0
 ·simp only[show ¬ m.To≠0 from fun h=>h h0,yx] at h hk |-
  by_cases h1:J13.TOk t
  ·simp only[show ¬ ¬ J13.TOk t from fun h=>h h1,yx] at h hk |-
   by_cases h2:J13.hasP t.B m.D m.E=true
   ·simp only[show ¬ ¬ J13.hasP t.B m.D m.E=true from fun h=>h h2,yx] at h hk |-
    by_cases h3:1<=m.Aa/\m.Aa<=t.N
    ·simp only[show ¬ ¬ (1<=m.Aa/\m.Aa<=t.N) from fun h=>h h3,yx] at h hk |-
     by_cases h4:(0<=m.M/\m.M<=J13.nth (J13.potAt t m.D m.E).A m.Aa)/\J13.tot m.P
     ·simp only[show ¬ ¬ ((0<=m.M/\m.M<=J13.nth (J13.potAt t m.D m.E).A m.Aa)/\J13.tot m.P) from fun h=>h h4,yx] at h hk |-
      have hcy:=J13.potAt_cy h2
      have hg:=zdz h2 (p:=J13.withH (J13.potAt t m.D m.E) (J13.upd (J13.potAt t m.D m.E).L m.Aa (max (J13.nth (J13.potAt t m.D m.E).L m.Aa) m.M)) (J13.upd (J13.potAt t m.D m.E).P m.Aa m.P)) hcy.1 hcy.2 hk fun j=>⟨y1d _,y1d _⟩
      obtain⟨p1,p2⟩:=z5b h2 (p:=J13.withH (J13.potAt t m.D m.E) (J13.upd (J13.potAt t m.D m.E).L m.Aa (max (J13.nth (J13.potAt t m.D m.E).L m.Aa) m.M)) (J13.upd (J13.potAt t m.D m.E).P m.Aa m.P)) hcy.1 hcy.2 hk
      refine⟨hg,h3,fun c y k h=>?_⟩
      rw[(p2 c y).1] at h
      refine⟨h,?_⟩
      by_cases e:c=m.D/\y=m.E
      ·obtain⟨rfl,rfl⟩:=e
       rw[p1]
       show nthN (J13.upd (J13.potAt t m.D m.E).L m.Aa _) k=_\/(_/\_/\_/\nthN (J13.upd (J13.potAt t m.D m.E).L m.Aa _) k=_)
       unfold nthN
       by_cases hj:k<(J13.potAt t m.D m.E).L.length
       ·rw[J13.upd_get hj]
        by_cases e:k=(m.Aa-1).toNat
        ·rw[y6 e]
         refine .inr ⟨rfl,rfl,e,?_⟩
         rw[e]
         rfl
        ·rw[y5 e]
         exact .inl rfl
       ·rw[z5a (l:=J13.upd _ _ _) (by rw[J13.upd_length]; omega),z5a om]
        exact .inl rfl
      ·rw[(p2 c y).2 h e]
       exact .inl rfl
     ·simp only[h4,yk,y18] at h; cases h
    ·simp only[h3,yk,y18] at h; cases h
   ·simp only[h2,yk,y18,yv] at h; cases h
  ·simp only[h1,yk,y18] at h; cases h
 ·rw[y6 (show m.To≠0 from h0)] at h; cases h
theorem z2d (_ha:VO a) (h:KnownJ t a b k) (hr:hasR a.J c y=true):J13.hasP t.B c y=true/\(rightV a.J c y).A<=nthN (J13.potAt t c y).A k/\(rightV a.J c y).K<=nthN (J13.potAt t c y).K k:=by
 obtain⟨h1,h2,h3⟩:=z23 hr
 have:=h.1 _ h1
 rwa [h2,h3] at this
theorem za3 (ha:VO a) (ht:J13.TOk t) (h:∀ c y,hasR a.J c y=true->J13.hasP t.B c y=true/\(rightV a.J c y).A<=nthN (J13.potAt t c y).A k/\(rightV a.J c y).K<=nthN (J13.potAt t c y).K k) (h':∀ c y,J13.hasP t.B c y=true->nthN (J13.potAt t c y).L k<=(rightV b.J c y).M):KnownJ t a b k:=by
 refine⟨fun r hr=>?_,fun p hp=>?_⟩
 ·have:=h r.D r.E (has_iff.2 ⟨r,hr,rfl,rfl⟩)
  rwa [zb5 ha.srt ha.ok hr] at this
 ·obtain⟨h1,h2⟩:=z45 ht hp
  have:=h' _ _ h1
  rwa [h2] at this
theorem z4y (h:KnownJ t a b k) (hp:J13.hasP t.B c y=true):nthN (J13.potAt t c y).L k<=(rightV b.J c y).M:=by
 have h1:=J13.potAt_cy hp
 have:=h.2 _ (zb (J13.pix_lt hp).1)
 rw[show t.B.getD (J13.pix t.B c y) dF=J13.potAt t c y from rfl,h1.1,h1.2] at this
 exact this
theorem ztz {t':TTr} (g:GT t t') {f:Nat->TOf} (h:MsgOk t f m):MsgOk t' f m:=by
 obtain⟨h1,h2⟩:=h
 obtain⟨g1,g2⟩:=g.2.2 _ _ h1
 refine⟨g1,?_⟩
 rcases h2 with ⟨h0,q1,q2,q3,q4⟩ | ⟨h0,q1,q2⟩
 ·have:=g2 (m.To-1).toNat
  exact .inl ⟨h0,by rw[g.2.1]; exact q1,⟨q2.1,om⟩,⟨q3.1,om⟩,q4⟩
 ·exact .inr ⟨h0,by rw[g.2.1]; exact q1,q2⟩
theorem zcq (h:VW w) (g:GT w.F t) (hh:∀ c y k,J13.hasP t.B c y=true->k<w.H.length->nthN (J13.potAt t c y).L k<=(rightV (stW w k).J c y).M):VW ⟨t,w.H,w.V⟩:=by
 obtain⟨h1,h2,h3,h4,h5⟩:=h
 refine⟨g.1,by show (w.H.length:Int)=t.N; rw[g.2.1]; exact h2,h3,fun k hk=>?_,fun m hm=>ztz g (h5 m hm)⟩
 obtain⟨q1,q2,q3⟩:=h4 k hk
 refine⟨q1,q2,za3 q1.now g.1 (fun c y hr=>?_) fun c y hp=>hh c y k hp hk⟩
 obtain⟨z1,z2,z3⟩:=z2d q1.now q3 hr
 obtain⟨g1,g2⟩:=g.2.2 _ _ z1
 have:=g2 k
 have z2':(rightV (noW w k).J c y).A<=_:=z2
 have z3':(rightV (noW w k).J c y).K<=_:=z3
 exact⟨g1,y2o z2 this.1,y2o z3 this.2⟩
theorem zuv (h:VW w) (g:GT w.F t) (e:HE w.F t):VW ⟨t,w.H,w.V⟩:=zcq h g fun c y k hp hk=>by
 obtain⟨q1,q2,q3⟩:=h.2.2.2.1 k hk
 rcases e c y k hp with ⟨h1,h2⟩ | h2
 ·rw[h2]
  exact z4y q3 h1
 ·rw[h2]
  exact (z2i q1.stb.ok c y).1
theorem zkd (h:VW w) (hl:l.length<=200) (hm:∀ m∈l,MsgOk w.F (stW w) m):VW ⟨w.F,w.H,l⟩:=⟨h.1,h.2.1,hl,h.2.2.2.1,hm⟩
theorem z92 (h:VW w) (i:Nat):VW (loseW w i):=zkd h (y26 (y3j ..) h.2.2.1) fun m hm=>h.2.2.2.2 m (List.mem_of_mem_eraseIdx hm)
theorem zsk (h:VW w) (hm:MsgOk w.F (stW w) m) (hl:w.V.length≠200):VW ⟨w.F,w.H,w.V++[m]⟩:=zkd h (by have:=h.2.2.1; rw[yu]; simp; omega) fun x hx=>by
 rcases y1o.1 hx with hx | hx
 ·exact h.2.2.2.2 x hx
 ·rw[y31.1 hx]; exact hm
theorem z3l (hi:i<w.H.length):(w.H.set k j).getD i dF=if i=k then j else jAt w i:=by
 rw[y8,y4d]
 by_cases h:k=i
 ·subst h; simp[hi]
 ·rw[y5 h,y5 fun e=>h e.symm]
  exact (y8 ..).symm
theorem za4 (h:VW w) (hk:k<w.H.length) (hj:VJ j) (ho:j.Y=(k:Int)+1) (hn:KnownJ w.F (nowJ j) (stbJ j) k) (hl:LeO (stW w k) (stbJ j)):VW ⟨w.F,w.H.set k j,w.V⟩:=by
 obtain⟨h1,h2,h3,h4,h5⟩:=h
 refine⟨h1,by show ((w.H.set k j).length:Int)=_; rw[ya]; exact h2,h3,fun i hi=>?_,fun m hm=>?_⟩
 ·have hi:i<(w.H.set k j).length:=hi
  rw[ya] at hi
  show VJ ((w.H.set k j).getD i dF)/\((w.H.set k j).getD i dF).Y=_/\KnownJ w.F (nowJ ((w.H.set k j).getD i dF)) (stbJ ((w.H.set k j).getD i dF)) i
  rw[z3l hi]
  by_cases e:i=k
  ·subst e
   rw[y6 rfl]
   exact⟨hj,ho,hn⟩
  ·rw[y5 e]
   exact h4 i hi
 ·obtain⟨q1,q2⟩:=h5 m hm
  refine⟨q1,q2.imp_right fun⟨q3,q4,q5,q6,q7⟩=>⟨q3,q4,q5,⟨q6.1,?_⟩,q7⟩⟩
  have hi:(m.Aa-1).toNat<w.H.length:=om
  show m.M<=(rightV (stbJ ((w.H.set k j).getD (m.Aa-1).toNat dF)).J m.D m.E).M
  rw[z3l hi]
  by_cases e:(m.Aa-1).toNat=k
  ·rw[y6 e]
   have:=(hl m.D m.E).2.2.2
   have q6':=q6.2
   rw[e] at q6'
   omega
  ·rw[y5 e]
   exact q6.2
theorem zqc (h:VW w) (hk:k<w.H.length):VW ⟨w.F,w.H.set k (flushJ (jAt w k)),w.V⟩:=by
 obtain⟨q1,q2,q3⟩:=h.2.2.2.1 k hk
 have hle:=z8x q1
 refine za4 h hk (zq1 q1) q2 ?_ (by rw[z86]; exact hle)
 rw[z41,z86]
 refine za3 q1.now h.1 (fun c y hr=>z2d q1.now q3 hr) fun c y hp=>?_
 exact y2o (z4y q3 hp) (hle c y).2.2.2
theorem zqd (h:VW w) (hk:k<w.H.length):VW ⟨w.F,w.H.set k (crashJ (jAt w k)),w.V⟩:=by
 obtain⟨q1,q2,q3⟩:=h.2.2.2.1 k hk
 have hle:=z8x q1
 refine za4 h hk (zq2 q1) q2 ?_ (by rw[zfv]; exact LeO.refl _)
 rw[zo2,zfv]
 refine za3 q1.stb h.1 (fun c y hr=>?_) fun c y hp=>z4y q3 hp
 obtain⟨l1,l2,l3,_⟩:=hle c y
 obtain⟨z1,z2,z3⟩:=z2d q1.now q3 (l1 hr)
 exact⟨z1,y2o l2 z2,y2o l3 z3⟩
theorem zg0 (h:VW w) (hk:k<w.H.length) (h0:(appendS (jAt w k) p).2=0) (h8:p.Q=8->J13.hasP w.F.B p.D p.E=true/\p.A<=nthN (J13.potAt w.F p.D p.E).A k/\p.Af<=nthN (J13.potAt w.F p.D p.E).K k) :
  VW ⟨w.F,w.H.set k (appendS (jAt w k) p).1,w.V⟩:=by
 obtain⟨q1,q2,q3⟩:=h.2.2.2.1 k hk
 obtain⟨a1,a2,a3,a4⟩:=zb9 q1 h0
 rw[a2] at a1 |-
 refine za4 h hk a1 q2 ?_ (by rw[z6v q1]; exact LeO.refl _)
 rw[z5l,z6v q1]
 have hk6:=h.len
 have ho:=h.2.1
 refine za3 (zbw a4) h.1 (fun c y hr=>?_) fun c y hp=>z4y q3 hp
 obtain⟨d1,d2,d3,d4,d5⟩:=(z42 a4).2 c y
 rw[d2,d3]
 have hr:=d1.1 hr
 by_cases e:p.Q=8/\p.D=c/\p.E=y
 ·obtain⟨e8,rfl,rfl⟩:=e
  obtain⟨z1,z2,z3⟩:=h8 e8
  rw[y6 ⟨e8,rfl,rfl⟩,y6 ⟨e8,rfl,rfl⟩]
  have hp:=h.1.potAt z1
  have hg:=hp.2.2.2.1.1
  have ha:=hp.2.2.2.1.2.2.1
  have t1:=hg.2 _ (zb (show k<_ by have:=hg.1; omega))
  have t2:=ha.2 _ (zb (show k<_ by have:=ha.1; omega))
  unfold J13.tot at t1 t2
  unfold nthN at z2 z3 |-
  by_cases hold:hasR (nowJ (jAt w k)).J p.D p.E=true
  ·obtain⟨o1,o2,o3⟩:=z2d q1.now q3 hold
   unfold nthN at o2 o3
   have o2':(rightV (nowJ (jAt w k)).J p.D p.E).A<=_:=o2
   have o3':(rightV (nowJ (jAt w k)).J p.D p.E).K<=_:=o3
   exact⟨z1,om,om⟩
  ·have e0:rightV (nowJ (jAt w k)).J p.D p.E=⟨p.D,p.E,0,0,0⟩:=y5 hold
   rw[e0]
   exact⟨z1,by show max (0:Int) _<=_; omega,by show max (0:Int) _<=_; omega⟩
 ·rw[y5 e,y5 e]
  exact z2d q1.now q3 (hr.resolve_right e)
def zbd (r:TWo×Int):Prop:=(r.2=0/\VW r.1)\/(r.2≠0/\r.1=zWd)
theorem z5o (h:e≠0):zbd (zWd,e):=.inr ⟨h,rfl⟩
theorem zf3 (h:VW w) (hm:e=0->MsgOk w.F (stW w) m):zbd (sendS w m e):=by
 by_cases h0:e=0
 ·subst h0
  by_cases hl:w.V.length=200
  ·rw[z5n hl]; exact z5o dk
  ·rw[z4x hl]; exact .inl ⟨rfl,zsk h (hm rfl) hl⟩
 ·rw[z57 h0]; exact z5o h0
variable {r:TTr×Int}
theorem z93 (h:VW w) (hr:r.2=0->GT w.F r.1/\HE w.F r.1):zbd (tresS w r):=by
 unfold tresS
 by_cases h0:r.2=0
 ·rw[y5 (by simp[h0])]
  obtain⟨g,e⟩:=hr h0
  exact .inl ⟨rfl,zuv h g e⟩
 ·rw[y6 h0]; exact z5o h0
theorem zqe (_h:VW w) {k:Int} (h0:(J13.tellM w.F k c y).2=0):MsgOk w.F (stW w) (J13.tellM w.F k c y).1:=by
 unfold J13.tellM at h0 |-
 by_cases h1:J13.TOk w.F
 ·simp only[show ¬ ¬ J13.TOk w.F from fun h=>h h1,yx] at h0 |-
  by_cases h2:J13.hasP w.F.B c y=true/\1<=k/\k<=w.F.N
  ·simp only[show ¬ ¬ (J13.hasP w.F.B c y=true/\1<=k/\k<=w.F.N) from fun h=>h h2,yx]
   have hp:=h1.potAt h2.1
   have t1:=J13.nth_tot hp.2.2.2.1.1 h2.2
   have t2:=J13.nth_tot hp.2.2.2.1.2.2.1 h2.2
   unfold J13.tot at t1 t2
   exact⟨h2.1,.inl ⟨rfl,h2.2,⟨t1.1,y1d _⟩,⟨t2.1,y1d _⟩,rfl,rfl⟩⟩
  ·simp only[h2,yk,y18] at h0; cases h0
 ·simp only[h1,yk,y18] at h0; cases h0
theorem zlq (h:VW w) (hk:k<w.H.length) (h0:(reportS (stW w k) c y).2=0):MsgOk w.F (stW w) (reportS (stW w k) c y).1:=by
 obtain⟨q1,q2,q3⟩:=h.2.2.2.1 k hk
 have hv:=q1.stb
 have hn:=(zkb q1).trans q2
 have h2:=h.2.1
 unfold reportS at h0 |-
 rw[y5 (fun g=>g hv)] at h0 |-
 by_cases h1:hasR (stW w k).J c y=true
 ·rw[y5 (fun g=>g h1)]
  have hle:=z8x q1 c y
  have hp:=(z2d q1.now q3 (hle.1 h1)).1
  have hb:=z2i hv.ok c y
  have hu:=z1g hv.val c y
  have e1:((stW w k).O-1).toNat=k:=by
   have:(stW w k).O=(k:Int)+1:=hn
   omega
  refine⟨hp,.inr ⟨?_,?_,rfl,⟨hb.1,?_⟩,⟨?_,?_⟩,rfl,rfl⟩⟩
  ·show (stW w k).O≠0
   have:(stW w k).O=(k:Int)+1:=hn
   omega
  ·show 1<=(stW w k).O/\(stW w k).O<=_
   have:(stW w k).O=(k:Int)+1:=hn
   omega
  ·show (rightV (stW w k).J c y).M<=(rightV (stW w ((stW w k).O-1).toNat).J c y).M
   rw[e1]
   exact y1d _
  ·show 0<=usedV (stW w k).Ae c y
   rw[show usedV (stW w k).Ae c y=_ from hu.1]; exact hu.2.1
  ·show usedV (stW w k).Ae c y<=_
   rw[show usedV (stW w k).Ae c y=_ from hu.1]
   have:=hu.2.2
   exact y2o this dk
 ·rw[y6 h1] at h0; cases h0
theorem zc4 (h:e=0->VW ⟨w.F,w.H.set k j,w.V⟩):zbd (keepS w k j e):=by
 by_cases h0:e=0
 ·subst h0
  rw[z1s]
  exact .inl ⟨rfl,h rfl⟩
 ·rw[z3c h0]; exact z5o h0
theorem zu0 (h:VW w) (s:TSt):zbd (actS w s):=by
 unfold actS
 by_cases h1:1<=s.Y/\s.Y<=w.H.length
 ·have hlt:(s.Y-1).toNat<w.H.length:=om
  rw[y5 (fun g=>g h1)]
  by_cases c5:s.Q=5
  ·rw[y6 c5]
   by_cases c8:s.Op.Q=8
   ·rw[y6 c8]; exact z5o dk
   ·rw[y5 c8]
    exact zc4 fun e=>zg0 h hlt e fun k=>absurd k c8
  rw[y5 c5]
  by_cases c6:s.Q=6
  ·rw[y6 c6]
   exact zc4 fun _=>zqc h hlt
  rw[y5 c6]
  by_cases c7:s.Q=7
  ·rw[y6 c7]
   exact zc4 fun _=>zqd h hlt
  rw[y5 c7]
  exact zf3 h fun e=>zlq h hlt e
 ·rw[y6 h1]; exact z5o dk
theorem zqf (h:VW w) (hi:i<w.V.length):zbd (delivS w i):=by
 have hm:=h.2.2.2.2 _ (zb hi)
 have h2:=h.2.1
 unfold delivS
 obtain⟨m,em⟩:∃ m,m=mAt w i:=⟨_,rfl⟩
 rw[<- em]
 rw[show w.V.getD i dF=m from em.symm] at hm
 by_cases h0:m.To=0
 ·rw[y6 h0]
  by_cases h1:(J13.hearM w.F m).2=0
  ·rw[y5 (fun k=>k h1)]
   obtain⟨g1,g2,g3⟩:=zkc h1
   refine .inl ⟨rfl,?_⟩
   refine z92 (w:=⟨(J13.hearM w.F m).1,w.H,w.V⟩) (zcq h g1 fun c y k hp hk=>?_) i
   obtain⟨z1,z2⟩:=g3 c y k hp
   have hh:=z4y (h.2.2.2.1 k hk).2.2 z1
   rcases z2 with z2 | ⟨rfl,rfl,rfl,z2⟩
   ·rw[z2]; exact hh
   ·rw[z2]
    rcases hm.2 with ⟨f0,_⟩ | ⟨_,_,_,f1,_⟩
    ·omega
    ·exact Int.max_le.2 ⟨hh,f1.2⟩
  ·rw[y6 h1]; exact z5o h1
 ·rw[y5 h0]
  rcases hm.2 with ⟨f0,q1,q2,q3,q4,q5⟩ | ⟨_,_,f1,_⟩
  ·have hk:(m.To-1).toNat<w.H.length:=om
   refine zc4 fun e=>?_
   exact zg0 (w:=loseW w i) (z92 h i) hk e fun _=>⟨hm.1,q2.2,q3.2⟩
  ·exact absurd f1 h0
theorem zsl (h:VW w) (s:TSt):zbd (mailS w s):=by
 unfold mailS
 by_cases h1:0<=s.Ai/\s.Ai<w.V.length
 ·have hlt:s.Ai.toNat<w.V.length:=om
  rw[y5 (fun g=>g h1)]
  by_cases c9:s.Q=9
  ·rw[y6 c9]; exact zqf h hlt
  rw[y5 c9]
  by_cases c11:s.Q=11
  ·rw[y6 c11]
   exact zf3 h fun _=>h.2.2.2.2 _ (zb hlt)
  rw[y5 c11]
  exact .inl ⟨rfl,z92 h _⟩
 ·rw[y6 h1]; exact z5o dk
theorem zsm (h:VW w) (s:TSt):zbd (stepW w s):=by
 by_cases k:s.Q=1
 ·rw[z8y k]; exact z93 h zog
 by_cases k2:s.Q=2
 ·rw[z8z k2]; exact z93 h zqb
 by_cases k3:s.Q=3
 ·rw[z90 k3]; exact z93 h zoh
 by_cases k4:s.Q=4
 ·rw[z65 k4]; exact zf3 h (zqe h)
 by_cases ka:5<=s.Q/\s.Q<=8
 ·rw[z58 ka]; exact zu0 h s
 by_cases km:9<=s.Q/\s.Q<=11
 ·rw[z59 km]; exact zsl h s
 ·rw[z91 om]; exact z5o dk
theorem zg1 [Inhabited α] {l:List α} (hi:i<l.length):l.take (i+1)=l.take i++[l.getD i dF]:=by
 rw[y3a,yb hi,z17 hi]
 rfl
def zu1 (w:TWo):Prop:=J13.TSmall w.F/\w.H.length<=1000000/\(∀ j∈w.H,j.Ab.length<=1000000)/\w.V.length<=1000000
theorem VW.fr (h:VW w):zu1 w:=⟨h.1.small,by have:=h.len; omega,fun j hj=>by
 obtain⟨i,hi,rfl⟩:=z19 hj
 have:(jAt w i).Ab.length<=400:=(h.2.2.2.1 i hi).1.2.1
 show (jAt w i).Ab.length<=_
 omega,by have:=h.2.2.1; omega⟩
theorem zqg (h:zu1 w):F_qq w=some w:=by
 obtain⟨h1,h2,h3,h4⟩:=h
 simp only[F_qq,S_qq,Scr.den]
 have l0:=h1.1
 obtain⟨s,e,hs⟩:=zm (body:=fun i s=>(S_qq_b1 w i s).den) (n:=w.F.B.length) (fun i s=>s=(w.F.N,w.H,w.V,w.F.B.take i)) (s0:=(w.F.N,w.H,w.V,([]:List TPo))) rfl (fun i s hi hI=>by
  subst hI
  obtain⟨q1,q2,q3,q4⟩:=h1.2 i hi
  simp only[S_qq_b1,Scr.den,J13.clone_eq q1,J13.clone_eq q2,J13.clone_eq q3,J13.clone_eq q4,obind]
  rw[za ⟨by rw[y1g]; omega,trivial⟩]
  exact⟨_,rfl,by rw[zg1 hi]⟩)
 rw[e,hs]
 simp only[zo]
 obtain⟨s,e,hs⟩:=zm (body:=fun i s=>(S_qq_b2 (w.F.N,w.H,w.V,w.F.B.take w.F.B.length) i s).den) (n:=w.H.length) (fun i s=>s=(w.F.N,w.V,w.H.take i)) (s0:=(w.F.N,w.V,([]:List TJo))) rfl (fun i s hi hI=>by
  subst hI
  simp only[S_qq_b2,Scr.den,cloneOp (h3 _ (zb hi)),obind]
  rw[za ⟨by rw[y1g]; omega,trivial⟩]
  exact⟨_,rfl,by rw[zg1 hi]⟩)
 rw[e,hs]
 simp only[zo,cloneM h4,obind]
 rw[y41,y41,za ⟨om,trivial⟩,za ⟨om,trivial⟩]
def SOk (s:TSt):Prop:=s.D.length<=1000000/\s.Op.D.length<=1000000
def newW (n:Int):TWo:=⟨⟨n,[]⟩,ups n.toNat (fun i=>⟨(i:Int)+1,[],0⟩),[]⟩
variable {n:Int}
theorem zoi (h:1<=n/\n<=6):VW (newW n):=by
 refine⟨⟨h,y17 _,fun i hi=>absurd hi (by show ¬ i<0; omega)⟩,by show ((ups _ _).length:Int)=n; rw[z1b]; omega,y17 _,fun k hk=>?_,fun m hm=>(by cases hm)⟩
 have hk:k<(ups n.toNat (fun i=>(⟨(i:Int)+1,[],0⟩:TJo))).length:=hk
 rw[z1b] at hk
 have e:jAt (newW n) k=⟨(k:Int)+1,[],0⟩:=z64 hk
 unfold noW stW
 rw[e]
 refine⟨⟨by show 1<=(k:Int)+1/\(k:Int)+1<=6; omega,y17 _,⟨y1d _,y1d _⟩,trivial⟩,rfl,fun r hr=>(by cases hr),fun p hp=>(by cases hp)⟩
theorem ze0 (h:1<=n/\n<=6):F_q1a n=some (newW n,0):=by
 simp only[F_q1a,S_q1a,Scr.den,zd]
 rw[y5 sk]
 obtain⟨s,e,hs⟩:=z1p (step:=fun s=>(S_q1a_b1 n s).den) (fun s=>(n+1-s.2.2.2).toNat) (fun s=>1<=s.2.2.2/\s.2.2.2<=n+1/\s=((⟨n,[]⟩:TTr),([]:List TMe),ups (s.2.2.2-1).toNat (fun i=>(⟨(i:Int)+1,[],0⟩:TJo)),s.2.2.2)) (fun s=>s.1=(⟨n,[]⟩:TTr)/\s.2.1=([]:List TMe)/\s.2.2.1=ups n.toNat (fun i=>(⟨(i:Int)+1,[],0⟩:TJo))) (fun s hI=>by
  obtain⟨h1,h2,h3⟩:=hI
  obtain⟨t,m,j,i⟩:=s
  simp only[y2l,yn] at h3
  obtain⟨rfl,rfl,rfl⟩:=h3
  simp only[S_q1a_b1,Scr.den] at h1 h2 |-
  by_cases c:i<=n
  ·rw[y6 (by simpa using c),za ⟨by rw[z1b]; omega,trivial⟩]
   have e1:i64.wrap (i+1)=i+1:=wrapId om om
   refine .inl ⟨_,rfl,⟨?_,?_,?_⟩,?_⟩
   ·simp only[e1]; omega
   ·simp only[e1]; omega
   ·simp only[e1]
    have e2:(i+1-1).toNat=(i-1).toNat+1:=om
    have e3:(((i-1).toNat:Nat):Int)+1=i:=om
    rw[e2,za2,e3]
   ·simp only[e1]; omega
  ·rw[y5 (by simpa using c)]
   refine .inr ⟨_,rfl,rfl,rfl,?_⟩
   have:i=n+1:=om
   subst this
   rw[show (n+1-1).toNat=n.toNat from om]) 10 ((⟨n,[]⟩:TTr),([]:List TMe),([]:List TJo),1) (by simp only; omega) ⟨by simp only; omega,by simp only; omega,rfl⟩
 obtain⟨h1,h2,h3⟩:=hs
 rw[e]
 simp only[zo,h1,h2,h3]
 rw[za ⟨by rw[z1b]; omega,trivial⟩]
 rfl
def sumTo (f:Nat->Int) (n:Nat):Int:=((List.range n).map f).sum
theorem z12 (f:Nat->Int) (n:Nat):sumTo f (n+1)=sumTo f n+f n:=by simp[sumTo,List.range_succ,List.sum_append]
theorem zlr (f:Nat->Int):sumTo f 0=0:=rfl
theorem z2z {f g:Nat->Int} {n:Nat} (h:∀ k,k<n->f k<=g k):sumTo f n<=sumTo g n:=by
 induction n with
 | zero=>exact y1d _
 | succ n ih =>
  rw[z12,z12]
  have:=ih fun k hk=>h k om
  have:=h n om
  omega
theorem za5 {f:Nat->Int} {n:Nat} {B:Int} (h:∀ k,k<n->0<=f k/\f k<=B):0<=sumTo f n/\sumTo f n<=n * B:=by
 induction n with
 | zero=>simp[zlr]
 | succ n ih =>
  rw[z12]
  have:=ih fun k hk=>h k om
  have:=h n om
  have e:((n+1:Nat):Int) * B=(n:Int) * B+B:=by rw[Int.natCast_add,Int.add_mul]; simp
  omega
theorem zg2 (l:List Int):l.sum=sumTo (fun k=>l.getD k dF) l.length:=by
 unfold sumTo
 congr 1
 refine y33 sj fun i h1 h2=>?_
 rw[y34,y3e,z17 h1]
noncomputable def heldK (w:TWo) (c:Y8) (y:Int) (k:Nat):Int:=(rightV (noW w k).J c y).A-(rightV (noW w k).J c y).M
noncomputable def usedK (w:TWo) (c:Y8) (y:Int) (k:Nat):Int:=usedE (noW w k).Ae c y
noncomputable def heldW (w:TWo) (c:Y8) (y:Int):Int:=sumTo (heldK w c y) w.H.length
noncomputable def usedW (w:TWo) (c:Y8) (y:Int):Int:=sumTo (usedK w c y) w.H.length
theorem z4i (h:VW w) (c:Y8) (y:Int) (hk:k<w.H.length):0<=heldK w c y k/\heldK w c y k<=1000000000000000/\0<=usedK w c y k/\usedK w c y k<=heldK w c y k:=by
 obtain⟨q1,q2,q3⟩:=h.2.2.2.1 k hk
 have hv:VO (noW w k):=q1.now
 have h1:=z2i hv.ok c y
 have h2:=z1g hv.val c y
 have h3:=hv.unused_nn c y
 rw[hv.unused c y] at h3
 unfold heldK usedK
 omega
theorem zd7 {p:TPo} (hp:J13.PotOk n p):J13.outV p=sumTo (fun k=>nthN p.A k-nthN p.L k) n.toNat:=by
 have l1:=hp.2.2.2.1.1.1
 have l2:=hp.2.2.2.1.2.1.1
 unfold J13.outV
 rw[show min p.A.length p.L.length=p.A.length from om,y41,show p.A.length=p.L.length from om,y41,zg2,zg2,show p.A.length=p.L.length from om,show p.L.length=n.toNat from om]
 have:∀ (f g:Nat->Int) (m:Nat),sumTo f m-sumTo g m=sumTo (fun k=>f k-g k) m:=fun f g m=>by
  induction m with
  | zero=>rfl
  | succ m ih=>rw[z12,z12,z12,<- ih]; omega
 exact this _ _ _
theorem zu2 (h:VW w) (hp:J13.hasP w.F.B c y=true):0<=usedW w c y/\usedW w c y<=heldW w c y/\heldW w c y<=J13.outV (J13.potAt w.F c y)/\J13.outV (J13.potAt w.F c y)<=6000000000000000:=by
 have hk:=h.1.potAt hp
 have h2:=h.2.1
 have hl:=h.len
 have e:w.F.N.toNat=w.H.length:=om
 rw[zd7 hk,e]
 have b1:=za5 (f:=usedK w c y) (n:=w.H.length) (B:=1000000000000000) fun k hk=>by have:=z4i h c y hk; omega
 have hpk:∀ k,k<w.H.length->heldK w c y k<=nthN (J13.potAt w.F c y).A k-nthN (J13.potAt w.F c y).L k/\nthN (J13.potAt w.F c y).A k-nthN (J13.potAt w.F c y).L k<=1000000000000000:=fun k hkl=>by
  obtain⟨q1,q2,q3⟩:=h.2.2.2.1 k hkl
  have hv:VO (noW w k):=q1.now
  have lg:=hk.2.2.2.1.1
  have lh:=hk.2.2.2.1.2.1
  have t1:=lg.2 _ (zb (show k<_ by have:=lg.1; omega))
  have t2:=lh.2 _ (zb (show k<_ by have:=lh.1; omega))
  have t3:=hk.2.2.2.2.1.1 k (by have:=lg.1; omega)
  have hh:=z4y q3 hp
  have hle:=(z8x q1 c y).2.2.2
  have hr:=z2i hv.ok c y
  unfold J13.tot at t1 t2
  unfold heldK nthN at *
  refine⟨?_,om⟩
  by_cases hold:hasR (noW w k).J c y=true
  ·obtain⟨o1,o2,o3⟩:=z2d hv q3 hold
   unfold nthN at o2
   have hle':(rightV (stW w k).J c y).M<=(rightV (noW w k).J c y).M:=hle
   omega
  ·have e0:rightV (noW w k).J c y=⟨c,y,0,0,0⟩:=y5 hold
   rw[e0]
   show (0:Int)-0<=_
   omega
 refine⟨b1.1,z2z fun k hk=>(z4i h c y hk).2.2.2,z2z fun k hk=>(hpk k hk).1,?_⟩
 have b2:=z2z (f:=fun k=>nthN (J13.potAt w.F c y).A k-nthN (J13.potAt w.F c y).L k) (g:=fun _=>1000000000000000) (n:=w.H.length) fun k hk=>(hpk k hk).2
 have b3:=za5 (f:=fun _=>(1000000000000000:Int)) (n:=w.H.length) (B:=1000000000000000) fun k hk=>om
 omega
noncomputable def shW (p:TPo):Int:=max (J13.outV p-p.W) 0
theorem z5c (h:VW w) {p:TPo} (hp:p∈w.F.B) :
  (J13.hasP w.F.B p.D p.E=true/\J13.potAt w.F p.D p.E=p)/\(F_q2v p=some (J13.outV p)/\F_ql p=some (J13.outV p)/\F_q2w p=some (shW p)/\F_q4t p=some (shW p)) /\
  (0<=usedW w p.D p.E/\usedW w p.D p.E<=heldW w p.D p.E/\heldW w p.D p.E<=J13.outV p/\J13.outV p<=6000000000000000)/\(-1000000000000000<=p.W/\p.W<=1000000000000000):=by
 have h1:=z45 h.1 hp
 have h2:=zu2 h h1.1
 have h3:=h.1.potAt h1.1
 have h6:=h.1.1
 rw[h1.2] at h2 h3
 have l1:=h3.2.2.2.1.1.1
 have ht:=h3.2.2.1
 have e1:F_q2v p=some (J13.outV p):=by rw[J13.Out_eq,wrapId om om]
 have e2:F_ql p=some (J13.outV p):=by rw[J13.r13_Out_eq om,wrapId om om]
 have e3:F_q2w p=some (shW p):=by
  rw[J13.Shortfall_eq,wrapId om om]
  rfl
 have e4:F_q4t p=some (shW p):=by
  simp only[F_q4t,S_q4t,Scr.den,e2,obind]
  rw[wrapId (n:=J13.outV p-p.W) om om]
  have key:∀ n:Int,(if n>0 then n else 0)=max n 0:=fun n=>by split <;> omega
  exact yi some (key _)
 exact⟨h1,⟨e1,e2,e3,e4⟩,h2,ht⟩
theorem zf4 (h:VW w) (c:Y8) (y:Int) (hi:i<=w.H.length):0<=sumTo (heldK w c y) i/\sumTo (heldK w c y) i<=6000000000000000/\0<=sumTo (usedK w c y) i/\sumTo (usedK w c y) i<=6000000000000000:=by
 have hl:=h.len
 have b1:=za5 (f:=heldK w c y) (n:=i) (B:=1000000000000000) fun k hk=>by have:=z4i h c y (show k<w.H.length from om); omega
 have b2:=za5 (f:=usedK w c y) (n:=i) (B:=1000000000000000) fun k hk=>by have:=z4i h c y (show k<w.H.length from om); omega
 omega
theorem zsn (h:VW w) {p:TPo} (hp:p∈w.F.B):F_q2i (ups w.H.length (noW w)) p=some (p.W,J13.outV p,heldW w p.D p.E,usedW w p.D p.E):=by
 simp only[F_q2i,S_q2i,Scr.den,(z5c h hp).2.1.1,obind]
 obtain⟨s,e,hs⟩:=zm (body:=fun i s=>(S_q2i_b1 (ups w.H.length (noW w)) p i s).den) (n:=(ups w.H.length (noW w)).length) (fun i s=>s=(sumTo (heldK w p.D p.E) i,sumTo (usedK w p.D p.E) i)) (s0:=((0:Int),(0:Int))) rfl (fun i s hi hI=>by
  subst hI
  rw[z1b] at hi
  obtain⟨q1,q2,q3⟩:=h.2.2.2.1 i hi
  have hv:VO (noW w i):=q1.now
  have hb:=z4i h p.D p.E hi
  have p1:=zf4 h p.D p.E (show i<=w.H.length from om)
  have p2:=zf4 h p.D p.E (show i+1<=w.H.length from om)
  rw[z12,z12] at p2
  simp only[S_q2i_b1,Scr.den]
  rw[z64 hi,z3v,zb3]
  simp only[obind]
  rw[hv.unused,show (rightV (noW w i).J p.D p.E).A-(rightV (noW w i).J p.D p.E).M=heldK w p.D p.E i from rfl,show usedE (noW w i).Ae p.D p.E=usedK w p.D p.E i from rfl,wrapId (n:=heldK w p.D p.E i) om om,show heldK w p.D p.E i-(heldK w p.D p.E i-usedK w p.D p.E i)=usedK w p.D p.E i from om,wrapId (n:=usedK w p.D p.E i) om om,wrapId om om,wrapId om om]
  exact⟨_,rfl,by rw[z12,z12]⟩)
 rw[e,hs,z1b]
 rfl
theorem zso (h:VW w) (hp:J13.hasP w.F.B c y=true):F_q6k w c y=some ((J13.potAt w.F c y).W,J13.outV (J13.potAt w.F c y),heldW w c y,usedW w c y):=by
 have hcy:=J13.potAt_cy hp
 have hm:J13.potAt w.F c y∈w.F.B:=zb (J13.pix_lt hp).1
 have hs:=zsn h hm
 rw[hcy.1,hcy.2] at hs
 simp only[F_q6k,S_q6k,Scr.den,J13.Pot_eq h.1.small,z43 hp,obind,z6m h,zd,zfx h]
 rw[zk (by simp[AllP])]
 simp only[obind]
 rw[y5 dk,hs]
 rfl
theorem zu3 {u h o t s:Int} (h1:0<=u) (h2:u<=h) (h3:h<=o) (hs:s=max (o-t) 0) (h4:o<=6000000000000000) (h5:-1000000000000000<=t/\t<=1000000000000000):¬ (decide (u>h)||decide (h>o))=true/\¬ ((decide (u>h)||decide (h>o))||decide (o>i64.wrap (t+s)))=true:=by
 rw[wrapId (n:=t+s) om om]
 simp only[yc,y7]
 omega
theorem zcr (h:VW w) {p:TPo} (hp:p∈w.F.B):F_q1x w p=some (p.W,J13.outV p,heldW w p.D p.E,usedW w p.D p.E):=by
 simp only[F_q1x,S_q1x,Scr.den,(z5c h hp).2.1.2.1,obind]
 obtain⟨s,e,hs⟩:=zm (body:=fun i s=>(S_q1x_b1 w p i s).den) (n:=w.H.length) (fun i s=>s=(sumTo (heldK w p.D p.E) i,sumTo (usedK w p.D p.E) i)) (s0:=((0:Int),(0:Int))) rfl (fun i s hi hI=>by
  subst hI
  obtain⟨q1,q2,q3⟩:=h.2.2.2.1 i hi
  have hv:VO (noW w i):=q1.now
  have hb:=z4i h p.D p.E hi
  have p2:=zf4 h p.D p.E (show i+1<=w.H.length from om)
  rw[z12,z12] at p2
  simp only[S_q1x_b1,Scr.den]
  rw[show w.H.getD i dF=jAt w i from rfl,z7o q1]
  simp only[obind]
  rw[z2n,z4l,(z1g (b:=(nowJ (jAt w i)).Ae) q1.now.val p.D p.E).1]
  simp only[obind]
  rw[show (rightV (nowJ (jAt w i)).J p.D p.E).A-(rightV (nowJ (jAt w i)).J p.D p.E).M=heldK w p.D p.E i from rfl,show usedE (nowJ (jAt w i)).Ae p.D p.E=usedK w p.D p.E i from rfl,wrapId (n:=heldK w p.D p.E i) om om,wrapId om om,wrapId om om]
  exact⟨_,rfl,by rw[z12,z12]⟩)
 rw[e,hs]
 rfl
theorem zje (h:VW w):F_q2h w=some true:=by
 simp only[F_q2h,S_q2h,Scr.den,z44 h,obind]
 rw[y5 dk]
 obtain⟨s,e,hs⟩:=zm (body:=fun i s=>(S_q2h_b1 w i s).den) (n:=w.F.B.length) (fun _ _=>True) (s0:=()) trivial (fun i s hi _=>by
  obtain⟨p,ep⟩:∃ p,p=w.F.B.getD i dF:=⟨_,rfl⟩
  have hm:p∈w.F.B:=by rw[ep]; exact zb hi
  obtain⟨f1,f2,f3,f4⟩:=z5c h hm
  obtain⟨s1,s2⟩:=zu3 f3.1 f3.2.1 f3.2.2.1 (s:=shW p) rfl f3.2.2.2 f4
  simp only[S_q2h_b1,Scr.den]
  rw[<- ep,zcr h hm,f2.2.2.2]
  simp only[obind,zd]
  rw[zk (gs:=[(decide (usedW w p.D p.E>heldW w p.D p.E)||decide (heldW w p.D p.E>J13.outV p))=false]) ⟨y4c.2 s1,trivial⟩]
  simp only[obind]
  rw[y5 s2]
  exact⟨(),rfl,trivial⟩)
 rw[e]
 rfl
theorem zv2 (k a b:Int) (K:Bool->Option α) (R:ρ->Option α):outM (if (k==a)=true then some (Out.next (k==a)) else some (Out.next (k==b))) K R=K (decide (k=a\/k=b)):=by
 by_cases h1:k=a
 ·rw[y6 (by simpa using h1)]; simp[outM,h1]
 rw[y5 (by simpa using h1)]
 simp only[outM,h1,false_or]
 rfl
variable {o:TOf}
theorem zic (hv:VO o) {s:TTape} (hs:TapeOk s) (day:Int):∃ p s',F_q53 o day s=some (p,s')/\TapeOk s'/\p.D.length<=60:=by
 obtain⟨p,s1,e1,t1,hc,_⟩:=zpy hv hs day
 have h0:([]:Y8).length<=60:=dk
 simp only[F_q53,S_q53,Scr.den,e1,obind,zv2]
 by_cases k:p.Q=1
 ·rw[y6 (by simp[k])]; exact⟨_,_,rfl,t1,hc⟩
 rw[y5 (by simp[k])]
 by_cases k:p.Q=2
 ·rw[y6 (by simp[k])]; exact⟨_,_,rfl,t1,h0⟩
 rw[y5 (by simp[k])]
 by_cases k:p.Q=3
 ·rw[y6 (by simp[k])]; exact⟨_,_,rfl,t1,h0⟩
 rw[y5 (by simp[k])]
 by_cases k:p.Q=4
 ·rw[y6 (by simp[k])]; exact⟨_,_,rfl,t1,h0⟩
 rw[y5 (by simp[k])]
 by_cases k:p.Q=5\/p.Q=6
 ·rw[y6 (by simpa using k)]; exact⟨_,_,rfl,t1,h0⟩
 rw[y5 (by simpa using k)]
 by_cases k:p.Q=7
 ·rw[y6 (by simp[k])]; exact⟨_,_,rfl,t1,hc⟩
 rw[y5 (by simp[k])]
 by_cases k:p.Q=8
 ·rw[y6 (by simp[k])]; exact⟨_,_,rfl,t1,hc⟩
 rw[y5 (by simp[k])]
 exact⟨_,_,rfl,t1,h0⟩
theorem z6n (h:VW w) (hn:1<=n/\n<=w.H.length):F_q3p w n=some (noW w (n-1).toNat,0):=by
 have hl:=h.len
 have hlt:(n-1).toNat<w.H.length:=om
 simp only[F_q3p,S_q3p,Scr.den,z44 h,F_q3n,S_q3n,zg,obind]
 rw[y5 dk,y5 sk,wrapId (n:=n-1) om om,show w.H.getD (n-1).toNat dF=jAt w (n-1).toNat from rfl,z7o (h.2.2.2.1 _ hlt).1]
 simp only[obind]
 rw[za ⟨om,hlt,trivial⟩]
 rfl
theorem zls (h:c.length<=60):(answerS o c y).1.D.length<=60:=by
 unfold answerS
 by_cases h1:VO o
 ·rw[y5 (fun k=>k h1)]
  by_cases h2:wantedS (rightV o.J c y) (usedV o.Ae c y)=0
  ·rw[y6 h2]; exact y17 _
  ·rw[y5 h2]; exact h
 ·rw[y6 h1]; exact y17 _
def GS (n:Nat) (s:TSt):Prop:=(1<=s.Y/\s.Y<=n)/\s.D.length<=60/\s.Op.D.length<=60
def GA (s:TSt):Prop:=s.Q=1->0<=s.S/\s.S<=900
theorem zoj:(([[49],[50]]:List Y8).getD i dF).length<=60:=by
 match i with
 | 0=>decide
 | 1=>decide
 | _+2=>exact y17 _
theorem zok (h:VW w) {i day:Int} (hn:(w.H.length:Int)=n) (hi:0<=i) {s:TTape} (hs:TapeOk s):∃ p s',F_q32 w n i day s=some (p,s')/\TapeOk s'/\GS w.H.length p/\GA p:=by
 have hl:=h.len
 have hml:=h.2.2.1
 obtain⟨k,s1,e1,t1,k1⟩:=z3b (l:=[1,2,2,4,4,5,5,5,5,6,7,8,8,9,9,9,9,10,11,3]) hs dk dk
 obtain⟨o,s2,e2,t2,o1⟩:=z2g (lo:=1) (hi:=n) t1 om om om
 obtain⟨c,s3,e3,t3,c1⟩:=z2e (n:=2) t2 om om
 obtain⟨a,s4,e4,t4,a1⟩:=z2g (lo:=1) (hi:=200) t3 om om om
 have lm:(1:Int)<=(if (w.V.length:Int)>1 then (w.V.length:Int) else 1)/\(if (w.V.length:Int)>1 then (w.V.length:Int) else 1)<=1000000:=by split <;> omega
 obtain⟨x,s5,e5,t5,x1⟩:=z2e (n:=(if (w.V.length:Int)>1 then (w.V.length:Int) else 1)) t4 lm.1 om
 simp only[F_q32,S_q32,Scr.den,e1,e2,e3,e4,e5,obind]
 rw[za ⟨om,om,trivial⟩]
 have q6:∃ v:TSt,(if decide (i<3)=true then guardP (AllP [(0:Int)<=i,(i).toNat<3]) (some (Out.next (⟨(([1,2,4]:List Int).getD ((i).toNat) dF),1,(⟨0,[],0,0,0,0,0,0,0,0⟩:TOp),[49],12,a,x⟩:TSt)))
   else some (Out.next (⟨k,o,(⟨0,[],0,0,0,0,0,0,0,0⟩:TOp),(([[49],[50]]:List Y8).getD ((c).toNat) dF),12,a,x⟩:TSt)):Option (Out TSt R_q32))=some (Out.next v)/\GS w.H.length v:=by
  by_cases ci:i<3
  ·rw[y6 (by simpa using ci),za ⟨hi,om,trivial⟩]
   exact⟨_,rfl,⟨y1d _,by show (1:Int)<=_; omega⟩,by show ([49]:Y8).length<=60; decide,y17 _⟩
  ·rw[y5 (by simpa using ci)]
   exact⟨_,rfl,⟨o1.1,by show o<=_; omega⟩,zoj,y17 _⟩
 obtain⟨v6,q6,g6⟩:=q6
 rw[q6]
 simp only[zo]
 have q7:∃ v:TSt,(if (i==3)=true then some (Out.next (⟨9,v6.Y,v6.Op,v6.D,v6.E,v6.S,0⟩:TSt)) else some (Out.next v6):Option (Out TSt R_q32))=some (Out.next v)/\GS w.H.length v:=by
  by_cases ci:i=3
  ·rw[y6 (by simpa using ci)]; exact⟨_,rfl,g6⟩
  ·rw[y5 (by simpa using ci)]; exact⟨_,rfl,g6⟩
 obtain⟨v7,q7,g7⟩:=q7
 rw[q7]
 simp only[zo]
 have q8:∃ v:TTape×TSt,(if (v7.Q==1)=true then (F_q4 900 s5).bind fun rv9=>(F_qu ([300,rv9.1,50]:List Int) rv9.2).bind fun rv10=>some (Out.next (rv10.2,(⟨v7.Q,v7.Y,v7.Op,v7.D,v7.E,rv10.1,v7.Ai⟩:TSt)))
   else some (Out.next (s5,v7)):Option (Out (TTape×TSt) R_q32))=some (Out.next v)/\TapeOk v.1/\GS w.H.length v.2/\GA v.2:=by
  by_cases ck:v7.Q=1
  ·rw[y6 (by simpa using ck)]
   obtain⟨z1,s6,q1,t6,y1⟩:=z2e (n:=900) t5 om om
   obtain⟨z2,s7,q2,t7,y2⟩:=z3b (l:=[300,z1,50]) t6 sj sj
   simp only[q1,q2,obind]
   refine⟨_,rfl,t7,g7,fun _=>?_⟩
   simp at y2
   show 0<=z2/\z2<=900
   omega
  ·rw[y5 (by simpa using ck)]
   exact⟨_,rfl,t5,g7,fun k=>absurd k ck⟩
 obtain⟨v8,q8,t8,g8,a8⟩:=q8
 rw[q8]
 simp only[zo]
 by_cases c5:v8.2.Q=5
 ·rw[y6 (by simpa using c5),z6n h g8.1]
  simp only[obind]
  rw[y5 dk]
  simp only[zo]
  have hlt:(v8.2.Y-1).toNat<w.H.length:=by have:=g8.1; omega
  have hv:VO (noW w (v8.2.Y-1).toNat):=(h.2.2.2.1 _ hlt).1.now
  obtain⟨p,s9,e9,t9,pc⟩:=zic hv t8 day
  rw[e9]
  simp only[obind]
  rw[zab hv.smO (by have:=g8.2.1; omega)]
  simp only[obind]
  have na:∀ {q:TOp},GA (⟨v8.2.Q,v8.2.Y,q,v8.2.D,v8.2.E,v8.2.S,v8.2.Ai⟩:TSt):=fun {q} k=>absurd (show v8.2.Q=1 from k) om
  by_cases ca:(answerS (noW w (v8.2.Y-1).toNat) v8.2.D v8.2.E).2=true
  ·rw[zk (gs:=[(answerS (noW w (v8.2.Y-1).toNat) v8.2.D v8.2.E).2=true]) ⟨ca,trivial⟩]
   obtain⟨z3,s10,e10,t10,_⟩:=z2e (n:=3) t9 om om
   rw[e10]
   simp only[obind,zg]
   by_cases cz:z3=0
   ·rw[ca,y44,y6 (by simpa using cz)]
    exact⟨_,_,rfl,t10,⟨g8.1,g8.2.1,zls g8.2.1⟩,na⟩
   ·rw[ca,y44,y5 (by simpa using cz)]
    exact⟨_,_,rfl,t10,⟨g8.1,g8.2.1,pc⟩,na⟩
  ·rw[show ∀ {α:Type} (x:Option α) (d:α),optD [(answerS (noW w (v8.2.Y-1).toNat) v8.2.D v8.2.E).2=true] x d=some d from fun _ _=>y5 fun h=>ca h.1]
   simp only[obind,zg]
   rw[y4c.2 ca,Bool.false_and,y5 dk]
   exact⟨_,_,rfl,t9,⟨g8.1,g8.2.1,pc⟩,na⟩
 ·rw[y5 (by simpa using c5)]
  exact⟨_,_,rfl,t8,g8,a8⟩
theorem GS.ok {n:Nat} (h:GS n s):SOk s:=⟨by have:=h.2.1; omega,by have:=h.2.2; omega⟩
theorem z47 (h:VW w) (h0:(stepW w s).2=0):(stepW w s).1.H.length=w.H.length/\VW (stepW w s).1:=by
 have hk:=zsm h s
 have hv:VW (stepW w s).1:=by
  rcases hk with ⟨_,hk⟩ | ⟨hk,_⟩
  ·exact hk
  ·exact absurd h0 hk
 refine⟨?_,hv⟩
 have send:∀ {m:TMe} {e:Int},(sendS w m e).2=0->(sendS w m e).1.H.length=w.H.length:=fun {m e} h0=>by
  by_cases c:e=0
  ·subst c
   by_cases hl:w.V.length=200
   ·rw[z5n hl] at h0; cases h0
   ·rw[z4x hl]
  ·rw[z57 c] at h0; exact absurd h0 c
 have tres:∀ {r:TTr×Int},(tresS w r).2=0->(tresS w r).1.H.length=w.H.length:=fun {r} h0=>by
  unfold tresS at h0 |-
  by_cases c:r.2=0
  ·rw[y5 (by simp[c])]
  ·rw[y6 c] at h0; exact absurd h0 c
 have keep:∀ {w':TWo} {k:Nat} {j:TJo} {e:Int},(keepS w' k j e).2=0->(keepS w' k j e).1.H.length=w'.H.length:=fun {w' k j e} h0=>by
  by_cases c:e=0
  ·subst c
   rw[z1s]
   exact ya
  ·rw[z3c c] at h0; exact absurd h0 c
 by_cases k:s.Q=1
 ·rw[z8y k] at h0 |-; exact tres h0
 by_cases k2:s.Q=2
 ·rw[z8z k2] at h0 |-; exact tres h0
 by_cases k3:s.Q=3
 ·rw[z90 k3] at h0 |-; exact tres h0
 by_cases k4:s.Q=4
 ·rw[z65 k4] at h0 |-; exact send h0
 by_cases ka:5<=s.Q/\s.Q<=8
 ·rw[z58 ka] at h0 |-
  unfold actS at h0 |-
  by_cases h1:1<=s.Y/\s.Y<=w.H.length
  ·rw[y5 (fun g=>g h1)] at h0 |-
   by_cases c5:s.Q=5
   ·rw[y6 c5] at h0 |-
    by_cases c8:s.Op.Q=8
    ·rw[y6 c8] at h0; cases h0
    ·rw[y5 c8] at h0 |-; exact keep h0
   rw[y5 c5] at h0 |-
   by_cases c6:s.Q=6
   ·rw[y6 c6] at h0 |-; exact keep h0
   rw[y5 c6] at h0 |-
   by_cases c7:s.Q=7
   ·rw[y6 c7] at h0 |-; exact keep h0
   rw[y5 c7] at h0 |-
   exact send h0
  ·rw[y6 h1] at h0; cases h0
 by_cases km:9<=s.Q/\s.Q<=11
 ·rw[z59 km] at h0 |-
  unfold mailS at h0 |-
  by_cases h1:0<=s.Ai/\s.Ai<w.V.length
  ·rw[y5 (fun g=>g h1)] at h0 |-
   by_cases c9:s.Q=9
   ·rw[y6 c9] at h0 |-
    unfold delivS at h0 |-
    by_cases c0:(mAt w s.Ai.toNat).To=0
    ·rw[y6 c0] at h0 |-
     by_cases c1:(J13.hearM w.F (mAt w s.Ai.toNat)).2=0
     ·rw[y5 (fun k=>k c1)]
     ·rw[y6 c1] at h0; exact absurd h0 c1
    ·rw[y5 c0] at h0 |-; exact keep h0
   rw[y5 c9] at h0 |-
   by_cases c11:s.Q=11
   ·rw[y6 c11] at h0 |-; exact send h0
   rw[y5 c11]
   rfl
  ·rw[y6 h1] at h0; cases h0
 ·rw[z91 om] at h0; cases h0
theorem zid (h:0<=n):((newW n).H.length:Int)=n:=by
 show ((ups _ _).length:Int)=n
 rw[z1b]; omega
theorem zlt {m:Int} (hn:1<=n/\n<=6) (hm:0<=m/\m<=1000) {s:TTape} (hs:TapeOk s):∃ l s',F_q1k n m s=some (l,s')/\TapeOk s'/\(l.length:Int)<=m/\∀ x∈l,GS n.toNat x/\GA x:=by
 simp only[F_q1k,S_q1k,Scr.den,ze0 hn,obind]
 obtain⟨v,e,hv⟩:=z1p (step:=fun s=>(S_q1k_b1 n m s).den) (fun s=>(m-s.2.2.2.2).toNat) (fun s=>TapeOk s.1/\VW s.2.1/\(s.2.1.H.length:Int)=n/\(0<=s.2.2.2.2/\s.2.2.2.2<=m/\(s.2.2.1.length:Int)=s.2.2.2.2)/\∀ x∈s.2.2.1,GS n.toNat x/\GA x)
  (fun s=>TapeOk s.1/\(s.2.2.1.length:Int)<=m/\∀ x∈s.2.2.1,GS n.toNat x/\GA x) (fun s hI=>by
   obtain⟨i1,i2,i3,i4,i5⟩:=hI
   obtain⟨t,w,l,d,i⟩:=s
   simp only at i1 i2 i3 i4 i5
   simp only[S_q1k_b1,Scr.den]
   by_cases c:i<m
   ·rw[y6 (by simpa using c)]
    obtain⟨z1,s6,q1,t6,y1⟩:=z2e (n:=9) i1 om om
    obtain⟨z2,s7,q2,t7,y2⟩:=z3b (l:=[0,1,z1]) t6 sj sj
    obtain⟨p,s8,q3,t8,g1,g2⟩:=zok i2 (day:=i64.wrap (d+z2)) i3 i4.1 t7
    rw[q1]
    simp only[obind]
    rw[q2]
    simp only[obind]
    rw[q3]
    simp only[obind]
    rw[z6k i2 g1.ok.1 g1.ok.2]
    simp only[obind]
    have ei:i64.wrap (i+1)=i+1:=wrapId om om
    have hg:GS n.toNat p:=by rw[show n.toNat=w.H.length from om]; exact g1
    have hall:∀ x∈l++[p],GS n.toNat x/\GA x:=fun x hx=>by
     rcases y1o.1 hx with hx | hx
     ·exact i5 x hx
     ·rw[y31.1 hx]; exact⟨hg,g2⟩
    have hlen:((l++[p]).length:Int)=i+1:=by rw[yu]; simp; omega
    by_cases c0:(stepW w p).2=0
    ·rw[y6 (by simpa using c0)]
     simp only[zo]
     rw[za ⟨om,trivial⟩,ei]
     obtain⟨w1,w2⟩:=z47 i2 c0
     exact .inl ⟨_,rfl,⟨t8,w2,by show ((stepW w p).1.H.length:Int)=n; omega,⟨by show 0<=i+1; omega,by show i+1<=m; omega,hlen⟩,hall⟩,by show (m-(i+1)).toNat<(m-i).toNat; omega⟩
    ·rw[y5 (by simpa using c0)]
     simp only[zo]
     rw[za ⟨om,trivial⟩,ei]
     exact .inl ⟨_,rfl,⟨t8,i2,i3,⟨by show 0<=i+1; omega,by show i+1<=m; omega,hlen⟩,hall⟩,by show (m-(i+1)).toNat<(m-i).toNat; omega⟩
   ·rw[y5 (by simpa using c)]
    exact .inr ⟨_,rfl,i1,by show (l.length:Int)<=m; omega,i5⟩) 1001 (s,newW n,[],4320,0) (by show (m-0).toNat<1001; omega) ⟨hs,zoi hn,zid om,⟨y1d _,hm.1,rfl⟩,fun x hx=>(by cases hx)⟩
 obtain⟨h1,h2,h3⟩:=hv
 rw[e]
 simp only[zo]
 rw[za ⟨om,trivial⟩]
 exact⟨_,_,rfl,h1,h2,h3⟩
def mA:TMe:=⟨0,1,[49],12,100,0,0,0⟩
abbrev LA:List TSt:=[(⟨1,0,(⟨0,[],0,0,0,0,0,0,0,0⟩:TOp),[49],12,100,0⟩:TSt),(⟨2,1,(⟨0,[],0,0,0,0,0,0,0,0⟩:TOp),[49],12,100,0⟩:TSt),(⟨4,1,(⟨0,[],0,0,0,0,0,0,0,0⟩:TOp),[49],12,0,0⟩:TSt),(⟨11,0,(⟨0,[],0,0,0,0,0,0,0,0⟩:TOp),[],0,0,0⟩:TSt),(⟨9,0,(⟨0,[],0,0,0,0,0,0,0,0⟩:TOp),[],0,0,0⟩:TSt),(⟨9,0,(⟨0,[],0,0,0,0,0,0,0,0⟩:TOp),[],0,0,0⟩:TSt)]
theorem zu4:good [49]=true:=dk
theorem zke {w':TWo} (h:VW w) (e:stepW w s=(w',0)):VW w':=by
 have:=(z47 h (s:=s) (by rw[e])).2
 rwa [e] at this
theorem zkf (h8:p.Q=8) (h0:(doS o p).2=0):(doS o p).1.Ae=o.Ae:=by
 obtain⟨hv,_,e⟩:=zbv h0
 rw[e] at h0 |-
 have e8:stepS o p=hearS o p:=by unfold stepS; rw[y6 h8]
 rw[e8] at h0 |-
 obtain⟨r,e1,hr,h1,h2,h3,_⟩:=zev hv h0
 rw[e1]
def wA (t:TTr) (r:List TOp) (m:List TMe):TWo:=⟨t,[⟨1,r,0⟩],m⟩
theorem zie (t:TTr) (c:Y8) (y x:Int):(J13.setM t c y x).1.B.length<=t.B.length+1:=by
 unfold J13.setM
 repeat' split
 all_goals first | exact y17 _ | (show (t.B.set _ _).length<=_; rw[ya]; exact y3m _) | (show (insL _ _ _).length<=_; rw[zr]; exact yf _)
theorem zlu (t:TTr) (k:Int) (c:Y8) (y x:Int):(J13.grantM t k c y x).1.B.length<=t.B.length+1:=by
 unfold J13.grantM
 repeat' split
 all_goals first | exact y17 _ | (show (t.B.set _ _).length<=_; rw[ya]; exact y3m _)
theorem zqh (t:TTr) (k:Int) (c:Y8) (y x:Int):(J13.askM t k c y x).1.B.length<=t.B.length+1:=by
 unfold J13.askM
 repeat' split
 all_goals first | exact y17 _ | (show (t.B.set _ _).length<=_; rw[ya]; exact y3m _)
theorem zol (t:TTr) (m:TMe):(J13.hearM t m).1.B.length<=t.B.length+1:=by
 unfold J13.hearM
 repeat' split
 all_goals first | exact y17 _ | (show (t.B.set _ _).length<=_; rw[ya]; exact y3m _)
def zlv (w w':TWo):Prop:=(w'.V.length<=w.V.length+1/\w'.F.B.length<=w.F.B.length+1)/\(w'.H=w.H\/∃ k j,w'.H=w.H.set k j/\j.Ab.length<=(jAt w k).Ab.length+1)
theorem zf5 (h:(sendS w m e).2=0):zlv w (sendS w m e).1:=by
 by_cases c:e=0
 ·subst c
  by_cases hl:w.V.length=200
  ·rw[z5n hl] at h; cases h
  ·rw[z4x hl]
   exact⟨⟨by show (w.V++[m]).length<=_; simp,y3m _⟩,.inl rfl⟩
 ·rw[z57 c] at h; exact absurd h c
theorem zc5 {w0:TWo} (hm:w0.V.length<=w.V.length) (hj:w0.H=w.H) (ht:w0.F=w.F) (h:(keepS w0 k j e).2=0) (hr:e=0->j.Ab.length<=(jAt w k).Ab.length+1):zlv w (keepS w0 k j e).1:=by
 by_cases c:e=0
 ·subst c
  rw[z1s]
  exact⟨⟨y5s hm,by show w0.F.B.length<=_; rw[ht]; exact y3m _⟩,.inr ⟨k,j,by show w0.H.set k j=_; rw[hj],hr rfl⟩⟩
 ·rw[z3c c] at h; exact absurd h c
theorem zf6 (h:(tresS w r).2=0) (hr:r.1.B.length<=w.F.B.length+1):zlv w (tresS w r).1:=by
 unfold tresS at h |-
 by_cases c:r.2=0
 ·rw[y5 (by simp[c])]
  exact⟨⟨y3m _,hr⟩,.inl rfl⟩
 ·rw[y6 c] at h; exact absurd h c
theorem zkg (h0:(appendS j p).2=0):(appendS j p).1.Ab.length<=j.Ab.length+1:=by
 by_cases hp:POp p
 ·by_cases h1:(doS (nowJ j) p).2=0
  ·by_cases hl:j.Ab.length=400
   ·rw[z3z hp h1 hl] at h0; cases h0
   ·rw[z2v hp h1 hl]; simp
  ·rw[z4n hp h1] at h0
   exact absurd h0 h1
 ·rw[z4m hp] at h0; cases h0
theorem zsp (h0:(stepW w s).2=0):zlv w (stepW w s).1:=by
 by_cases k:s.Q=1
 ·rw[z8y k] at h0 |-; exact zf6 h0 (zie ..)
 by_cases k2:s.Q=2
 ·rw[z8z k2] at h0 |-; exact zf6 h0 (zlu ..)
 by_cases k3:s.Q=3
 ·rw[z90 k3] at h0 |-; exact zf6 h0 (zqh ..)
 by_cases k4:s.Q=4
 ·rw[z65 k4] at h0 |-; exact zf5 h0
 by_cases ka:5<=s.Q/\s.Q<=8
 ·rw[z58 ka] at h0 |-
  unfold actS at h0 |-
  by_cases h1:1<=s.Y/\s.Y<=w.H.length
  ·rw[y5 (fun g=>g h1)] at h0 |-
   by_cases c5:s.Q=5
   ·rw[y6 c5] at h0 |-
    by_cases c8:s.Op.Q=8
    ·rw[y6 c8] at h0; cases h0
    ·rw[y5 c8] at h0 |-; exact zc5 (yf _) rfl rfl h0 zkg
   rw[y5 c5] at h0 |-
   by_cases c6:s.Q=6
   ·rw[y6 c6] at h0 |-; exact zc5 (yf _) rfl rfl h0 fun _=>y3m _
   rw[y5 c6] at h0 |-
   by_cases c7:s.Q=7
   ·rw[y6 c7] at h0 |-; exact zc5 (yf _) rfl rfl h0 fun _=>by
     show (List.take _ _).length<=_
     rw[y1g]; omega
   rw[y5 c7] at h0 |-
   exact zf5 h0
  ·rw[y6 h1] at h0; cases h0
 by_cases km:9<=s.Q/\s.Q<=11
 ·rw[z59 km] at h0 |-
  unfold mailS at h0 |-
  by_cases h1:0<=s.Ai/\s.Ai<w.V.length
  ·rw[y5 (fun g=>g h1)] at h0 |-
   by_cases c9:s.Q=9
   ·rw[y6 c9] at h0 |-
    unfold delivS at h0 |-
    by_cases c0:(mAt w s.Ai.toNat).To=0
    ·rw[y6 c0] at h0 |-
     by_cases c1:(J13.hearM w.F (mAt w s.Ai.toNat)).2=0
     ·rw[y5 (fun k=>k c1)]; exact⟨⟨y5s (y3j ..),zol ..⟩,.inl rfl⟩
     ·rw[y6 c1] at h0; exact absurd h0 c1
    ·rw[y5 c0] at h0 |-; exact zc5 (w:=w) (w0:=loseW w s.Ai.toNat) (y3j ..) rfl rfl h0 zkg
   rw[y5 c9] at h0 |-
   by_cases c11:s.Q=11
   ·rw[y6 c11] at h0 |-; exact zf5 h0
   rw[y5 c11]
   exact⟨⟨y5s (y3j ..),y3m _⟩,.inl rfl⟩
  ·rw[y6 h1] at h0; cases h0
 ·rw[z91 om] at h0; cases h0
def Bd (k:Nat) (w:TWo):Prop:=(w.V.length<=k/\w.F.B.length<=k)/\∀ i,i<w.H.length->(jAt w i).Ab.length<=k
theorem zkh (h:Bd k w) (h0:(stepW w s).2=0):Bd (k+1) (stepW w s).1:=by
 obtain⟨h1,h2⟩:=zsp h0
 refine⟨by have:=h.1; omega,fun i hi=>?_⟩
 rcases h2 with h2 | ⟨q,j,h2,h3⟩
 ·have e:jAt (stepW w s).1 i=jAt w i:=by unfold jAt; rw[h2]
  rw[h2] at hi
  have:=h.2 i hi
  rw[e]; omega
 ·have e:jAt (stepW w s).1 i=(w.H.set q j).getD i dF:=by unfold jAt; rw[h2]
  rw[h2,ya] at hi
  have:=h.2 i hi
  rw[e,z3l hi]
  split
  ·rename_i e; subst e; omega
  ·omega
theorem zu5:Bd 0 (newW n):=by
 refine⟨⟨yf _,yf _⟩,fun i hi=>?_⟩
 have hi:i<(ups n.toNat (fun i=>(⟨(i:Int)+1,[],0⟩:TJo))).length:=hi
 rw[z1b] at hi
 have e:jAt (newW n) i=⟨(i:Int)+1,[],0⟩:=z64 hi
 rw[e]
 exact yf _
theorem Bd.mono {a b:Nat} (h:Bd a w) (hab:a<=b):Bd b w:=⟨by have:=h.1; omega,fun i hi=>by have:=h.2 i hi; omega⟩
theorem zqi {m:Int} (hn:1<=n/\n<=6) (hm:0<=m/\m<=1000) {s:TTape} (hs:TapeOk s):∃ w s',F_q24 n m s=some (w,s')/\TapeOk s'/\VW w/\(w.H.length:Int)=n/\Bd m.toNat w:=by
 obtain⟨l,s1,e1,t1,l1,hl⟩:=zlt hn hm hs
 simp only[F_q24,S_q24,Scr.den,ze0 hn,e1,obind]
 obtain⟨w,e,hw⟩:=zm (body:=fun i s=>(S_q24_b1 (l,s1) i s).den) (n:=l.length) (fun i w=>VW w/\(w.H.length:Int)=n/\Bd i w) (s0:=newW n) ⟨zoi hn,zid om,zu5⟩ (fun i w hi hI=>by
  have hg:=(hl _ (zb hi)).1.ok
  simp only[S_q24_b1,Scr.den]
  rw[z6k hI.1 hg.1 hg.2]
  simp only[obind]
  by_cases c0:(stepW w (l.getD i dF)).2=0
  ·rw[y6 (by simpa using c0)]
   obtain⟨w1,w2⟩:=z47 hI.1 c0
   exact⟨_,rfl,w2,by rw[w1]; exact hI.2.1,zkh hI.2.2 c0⟩
  ·rw[y5 (by simpa using c0)]
   exact⟨_,rfl,hI.1,hI.2.1,hI.2.2.mono (y3m _)⟩)
 rw[e]
 exact⟨_,_,rfl,t1,hw.1,hw.2.1,hw.2.2.mono om⟩
theorem z5u [Inhabited α] {l:List α} (hi:i<l.length):l.set i (l.getD i dF)=l:=by
 refine y33 (by rw[ya]) fun j h1 h2=>?_
 rw[y3z]
 by_cases e:i=j
 ·subst e
  rw[y6 rfl,z17 hi]
 ·rw[y5 e]
theorem zqj {k:Int} (h:k=9\/k=10\/k=11):9<=k/\k<=11:=om
theorem zsq (hi:i<w.V.length):stepW w ⟨10,0,p,[],0,0,(i:Int)⟩=(loseW w i,0):=by
 have hI:0<=(i:Int)/\(i:Int)<w.V.length:=om
 rw[z59 (zqj sj)]
 exact (y5 fun k=>k hI).trans ((y5 (show ¬ (10:Int)=9 from dk)).trans (y5 (show ¬ (10:Int)=11 from dk)))
theorem zbe (hi:i<w.V.length):stepW w ⟨9,0,p,[],0,0,(i:Int)⟩=delivS w i:=by
 have hI:0<=(i:Int)/\(i:Int)<w.V.length:=om
 rw[z59 (zqj sj)]
 exact (y5 fun k=>k hI).trans (y6 rfl)
noncomputable def doW (w:TWo) (s:TSt):TWo:=if (stepW w s).2=0 then (stepW w s).1 else w
theorem z4o (h:(stepW w s).2=0):doW w s=(stepW w s).1:=y6 h
theorem ze1 (h:(stepW w s).2≠0):doW w s=w:=y5 h
theorem ze2 (h:VW w) (s:TSt):VW (doW w s)/\(doW w s).H.length=w.H.length:=by
 by_cases c:(stepW w s).2=0
 ·rw[z4o c]
  have:=z47 h c
  exact⟨this.2,this.1⟩
 ·rw[ze1 c]; exact⟨h,rfl⟩
theorem z94 (h:VW w) (hs:SOk s):F_q2e s ⟨w⟩=some ((stepW w s).2,⟨doW w s⟩):=by
 simp only[F_q2e,S_q2e,Scr.den]
 rw[zof h hs.1 hs.2]
 simp only[obind]
 by_cases c:(stepW w s).2=0
 ·rw[y6 (by simpa using c),z4o c]
 ·rw[y5 (by simpa using c),ze1 c]
noncomputable def lastS (w:TWo):TSt:=⟨9,0,⟨0,[],0,0,0,0,0,0,0,0⟩,[],0,0,i64.wrap ((w.V.length:Int)-1)⟩
noncomputable def exW (w:TWo) (s:TSt):TWo:=if (stepW w s).2=0 then doW (doW w s) (lastS (doW w s)) else w
theorem zr0 (h:VW w) (hs:SOk s):F_q4s s ⟨w⟩=some ⟨exW w s⟩:=by
 simp only[F_q4s,S_q4s,Scr.den]
 rw[z94 h hs]
 simp only[obind]
 unfold exW
 by_cases c:(stepW w s).2=0
 ·rw[y6 (by simpa using c),y6 c,z94 (ze2 h s).1 ⟨y17 _,y17 _⟩]
  rfl
 ·rw[y5 (by simpa using c),y5 c,ze1 c]
def SameB (w w':TWo):Prop:=w'.H.length=w.H.length/\∀ q,q<w.H.length->(noW w' q).Ae=(noW w q).Ae
theorem SameB.refl (w:TWo):SameB w w:=⟨rfl,fun _ _=>rfl⟩
theorem SameB.trans {a b c:TWo} (h:SameB a b) (h':SameB b c):SameB a c:=⟨h'.1.trans h.1,fun q hq=>(h'.2 q (by rw[h.1]; exact hq)).trans (h.2 q hq)⟩
def SameP (w w':TWo):Prop:=∀ c y,J13.hasP w.F.B c y=true->J13.hasP w'.F.B c y=true
theorem za6 (h:VW w) (h0:(delivS w i).2=0):SameB w (delivS w i).1/\(delivS w i).1.V=w.V.eraseIdx i/\SameP w (delivS w i).1:=by
 unfold delivS at h0 |-
 by_cases c0:(mAt w i).To=0
 ·rw[y6 c0] at h0 |-
  by_cases c1:(J13.hearM w.F (mAt w i)).2=0
  ·rw[y5 (fun k=>k c1)]; exact⟨SameB.refl _,rfl,fun c y hp=>((zkc c1).1.2.2 c y hp).1⟩
  ·rw[y6 c1] at h0; exact absurd h0 c1
 ·rw[y5 c0] at h0 |-
  obtain⟨k,ek⟩:∃ k,k=((mAt w i).To-1).toNat:=⟨_,rfl⟩
  rw[<- ek] at h0 |-
  have a0:(appendS (jAt w k) (hearOp (mAt w i))).2=0:=by
   by_cases c:(appendS (jAt w k) (hearOp (mAt w i))).2=0
   ·exact c
   ·rw[z3c c] at h0; exact h0
  rw[a0,z1s]
  refine⟨⟨ya,fun q hq=>?_⟩,rfl,fun _ _ hp=>hp⟩
  show (nowJ ((w.H.set k _).getD q dF)).Ae=_
  rw[z3l hq]
  by_cases e:q=k
  ·subst e
   rw[y6 rfl]
   obtain⟨_,a2,_,a4⟩:=zb9 (h.2.2.2.1 q hq).1 a0
   rw[a2]
   show (nowJ ⟨(jAt w q).Y,(jAt w q).Ab++[hearOp (mAt w i)],(jAt w q).Ag⟩).Ae=_
   rw[z5l]
   exact zkf rfl a4
  ·rw[y5 e]
   rfl
theorem zlw (h:VW w) {b:Nat} (hb:Bd b w):∃ w',iterM (fun s=>(S_qc_b1 s).den) (⟨w⟩:TCa)=some (.next ⟨w'⟩)/\VW w'/\w'.V=[]/\SameB w w'/\Bd (b+w.V.length) w'/\SameP w w'/\(w.V=[]->w'=w):=by
 obtain⟨s,e,hs⟩:=z1p (step:=fun s=>(S_qc_b1 s).den) (fun s=>s.w.V.length) (fun s=>VW s.w/\SameB w s.w/\s.w.V.length<=w.V.length/\Bd (b+(w.V.length-s.w.V.length)) s.w/\SameP w s.w/\(w.V=[]->s.w=w)) (fun s=>VW s.w/\s.w.V=[]/\SameB w s.w/\Bd (b+w.V.length) s.w/\SameP w s.w/\(w.V=[]->s.w=w)) (fun s hI=>by
  obtain⟨v⟩:=s
  obtain⟨i1,i2,i3,i4,i5,i6⟩:=hI
  simp only at i1 i2 i3 i4 i5 i6
  simp only[S_qc_b1,Scr.den]
  by_cases c:0<v.V.length
  ·have ne:∀ u:TWo,w.V=[]->u=w:=fun u g=>by
    rw[i6 g,g] at c
    exact absurd c (y2i _)
   rw[y6 (by simp only[y7]; omega)]
   have e9:=zbe (p:=⟨0,[],0,0,0,0,0,0,0,0⟩) c
   have e10:=zsq (p:=⟨0,[],0,0,0,0,0,0,0,0⟩) c
   have z:((0:Nat):Int)=0:=rfl
   rw[z] at e9 e10
   rw[z94 i1 ⟨y17 _,y17 _⟩]
   simp only[obind]
   have el:(v.V.eraseIdx 0).length=v.V.length-1:=by rw[y5e,y6 c]
   by_cases c0:(delivS v 0).2=0
   ·rw[e9,y5 (by simpa using c0)]
    obtain⟨d1,d2,d3⟩:=za6 i1 c0
    have hst:(stepW v ⟨9,0,⟨0,[],0,0,0,0,0,0,0,0⟩,[],0,0,0⟩).2=0:=by rw[e9]; exact c0
    have hv:=ze2 i1 ⟨9,0,⟨0,[],0,0,0,0,0,0,0,0⟩,[],0,0,0⟩
    have hbd:=zkh i4 hst
    rw[z4o hst,e9] at hv |-
    rw[e9] at hbd
    refine .inl ⟨_,rfl,⟨hv.1,i2.trans d1,?_,?_,fun c y hp=>d3 c y (i5 c y hp),ne _⟩,?_⟩
    ·show (delivS v 0).1.V.length<=_; rw[d2,el]; omega
    ·show Bd (b+(w.V.length-(delivS v 0).1.V.length)) (delivS v 0).1
     rw[d2,el]
     exact hbd.mono om
    ·show (delivS v 0).1.V.length<v.V.length; rw[d2,el]; omega
   ·rw[e9,y6 (by simpa using c0),ze1 (by rw[e9]; exact c0),z94 i1 ⟨y17 _,y17 _⟩]
    simp only[obind]
    have hst:(stepW v ⟨10,0,⟨0,[],0,0,0,0,0,0,0,0⟩,[],0,0,0⟩).2=0:=by rw[e10]
    rw[z4o hst,e10]
    refine .inl ⟨_,rfl,⟨z92 i1 0,i2.trans ⟨rfl,fun _ _=>rfl⟩,?_,?_,i5,ne _⟩,?_⟩
    ·show (v.V.eraseIdx 0).length<=_; rw[el]; omega
    ·refine⟨?_,fun i hi=>?_⟩
     ·show (v.V.eraseIdx 0).length<=b+(w.V.length-(v.V.eraseIdx 0).length)/\v.F.B.length<=b+(w.V.length-(v.V.eraseIdx 0).length)
      have:=i4.1
      rw[el]; omega
     ·have:=i4.2 i hi
      show (jAt v i).Ab.length<=b+(w.V.length-(v.V.eraseIdx 0).length)
      rw[el]; omega
    ·show (v.V.eraseIdx 0).length<v.V.length; rw[el]; omega
  ·rw[y5 (by simp only[y7]; omega)]
   refine .inr ⟨_,rfl,i1,(show v.V=[] from y38.1 om),i2,i4.mono om,i5,i6⟩) (w.V.length+1) ⟨w⟩ (y2j _) ⟨h,SameB.refl _,yf _,by rw[y4s]; exact hb,fun _ _ hp=>hp,fun _=>rfl⟩
 obtain⟨w'⟩:=s
 exact⟨w',e,hs⟩
theorem zqk (hg:good m.D=true) (hy:0<=m.E/\m.E<=99) (h1:J13.tot m.A) (h2:J13.tot m.K):POp (hearOp m):=by
 unfold J13.tot at h1 h2
 refine⟨⟨by show (1:Int)<=8; decide,by show (8:Int)<=9; decide⟩,fun k hk=>?_,rfl⟩
 have hk:k=8\/k=0\/k=6\/k=7:=by
  have:k∈[8,0,6,7]:=hk
  simpa using this
 rcases hk with rfl | rfl | rfl | rfl
 ·exact (zbx _).2 hg
 ·exact (condN dk).2 hy
 ·exact (condN dk).2 h1
 ·exact (condN dk).2 h2
def z1c (t:TTr) (k:Nat) (c:Y8) (y:Int):TMe:=⟨0,(k:Int)+1,c,y,nthN (J13.potAt t c y).A k,nthN (J13.potAt t c y).K k,0,0⟩
theorem zom (ht:J13.TOk t) (hk:(k:Int)<t.N) (hp:J13.hasP t.B c y=true):J13.tellM t ((k:Int)+1) c y=(z1c t k c y,0):=by
 unfold J13.tellM
 rw[y5 (fun g=>g ht),y5 (fun g=>g ⟨hp,om,om⟩)]
 have e:((k:Int)+1-1).toNat=k:=om
 unfold J13.nth z1c nthN
 rw[e]
theorem zki (h:VW w) (hk:k<w.H.length) (hrec:(jAt w k).Ab.length≠400) (hR:hasR (noW w k).J c y=true\/((noW w k).J.length:Int)≠60) (hp:J13.hasP w.F.B c y=true) :
  POp (hearOp (z1c w.F k c y))/\(doS (noW w k) (hearOp (z1c w.F k c y))).2=0/\(appendS (jAt w k) (hearOp (z1c w.F k c y))).2=0:=by
 have h2:=h.2.1
 have hpk:=h.1.potAt hp
 have hcy:=J13.potAt_cy hp
 have hg:good c=true:=by have:=hpk.1; rwa [hcy.1] at this
 have hy:0<=y/\y<=99:=by have:=hpk.2.1; rwa [hcy.2] at this
 have t1:J13.tot (nthN (J13.potAt w.F c y).A k):=hpk.2.2.2.1.1.2 _ (zb (show k<_ by have:=hpk.2.2.2.1.1.1; omega))
 have t2:J13.tot (nthN (J13.potAt w.F c y).K k):=hpk.2.2.2.1.2.2.1.2 _ (zb (show k<_ by have:=hpk.2.2.2.1.2.2.1.1; omega))
 obtain⟨q1,q2,q3⟩:=h.2.2.2.1 k hk
 have hv:VO (noW w k):=q1.now
 have hpop:=zqk (m:=z1c w.F k c y) hg hy t1 t2
 have h0:(doS (noW w k) (hearOp (z1c w.F k c y))).2=0:=by
  rw[z8v hv hpop.1]
  have e8:stepS (noW w k) (hearOp (z1c w.F k c y))=hearS (noW w k) (hearOp (z1c w.F k c y)):=y6 rfl
  rw[e8]
  exact znu hv (p:=hearOp (z1c w.F k c y)) hg hy hR t1 t2
 refine⟨hpop,h0,?_⟩
 rw[z2v hpop h0 hrec]
theorem zr1 {α:Type} [DecidableEq α]:∀ {l m:List α},l.Nodup->(∀ x∈l,x∈m)->l.length<=m.length
 | [],_,_,_=>y17 _
 | x :: l,m,h,hs=>by
  have h1:=List.nodup_cons.1 h
  have hx:=hs x (y1t ..)
  have h2:=zr1 (l:=l) (m:=m.erase x) h1.2 (fun y hy=>(List.mem_erase_of_ne (fun e:y=x=>h1.1 (by rw[<- e]; exact hy))).2 (hs y (y1c _ hy)))
  rw[List.length_erase_of_mem hx] at h2
  have h3:0<m.length:=y4b hx
  rw[yw]
  omega
theorem zsr (hv:VO o):(o.J.map fun r=>(r.D,r.E)).Nodup:=by
 refine List.pairwise_iff_getElem.2 fun i j hi hj hij=>?_
 rw[y47] at hi hj
 rw[y34,y34,<- z17 hi,<- z17 hj]
 have h1:=hv.srt.lt hv.ok hij hj
 intro e
 obtain⟨e1,e2⟩:=Prod.mk.inj e
 have h2:=(z55 (hv.ok _ (zb hi)).1 (hv.ok _ (zb hj)).1).2 ⟨e1,e2⟩
 omega
theorem zjf (h:VW w) (hk:k<w.H.length):(noW w k).J.length<=w.F.B.length:=by
 obtain⟨q1,q2,q3⟩:=h.2.2.2.1 k hk
 have hv:VO (noW w k):=q1.now
 have:=zr1 (m:=w.F.B.map fun p=>(p.D,p.E)) (zsr hv) (fun x hx=>by
  obtain⟨r,hr,rfl⟩:=y1s.1 hx
  obtain⟨p,hp,e1,e2⟩:=J13.has_iff.1 (q3.1 r hr).1
  exact y1s.2 ⟨p,hp,by rw[e1,e2]⟩)
 rwa [y47,y47] at this
def z5p:TOp:=⟨0,[],0,0,0,0,0,0,0,0⟩
theorem zss (h:VW w) (hm:w.V=[]) (hk:k<w.H.length) (hrec:(jAt w k).Ab.length≠400) (hR:hasR (noW w k).J c y=true\/((noW w k).J.length:Int)≠60) (hp:J13.hasP w.F.B c y=true) :
  exW w ⟨4,(k:Int)+1,z5p,c,y,0,0⟩=⟨w.F,w.H.set k ⟨(jAt w k).Y,(jAt w k).Ab++[hearOp (z1c w.F k c y)],(jAt w k).Ag⟩,[]⟩:=by
 have h2:=h.2.1
 obtain⟨g1,g2,g3⟩:=zki h hk hrec hR hp
 have e4:stepW w ⟨4,(k:Int)+1,z5p,c,y,0,0⟩=(⟨w.F,w.H,[z1c w.F k c y]⟩,0):=by
  rw[z65 rfl]
  show sendS w (J13.tellM w.F ((k:Int)+1) c y).1 (J13.tellM w.F ((k:Int)+1) c y).2=_
  rw[zom h.1 om hp,z4x (by rw[hm]; decide),hm]
  rfl
 have hd:doW w ⟨4,(k:Int)+1,z5p,c,y,0,0⟩=⟨w.F,w.H,[z1c w.F k c y]⟩:=by
  rw[z4o (by rw[e4]),e4]
 have hl:lastS ⟨w.F,w.H,[z1c w.F k c y]⟩=⟨9,0,z5p,[],0,0,((0:Nat):Int)⟩:=rfl
 have e9:stepW ⟨w.F,w.H,[z1c w.F k c y]⟩ ⟨9,0,z5p,[],0,0,((0:Nat):Int)⟩=(⟨w.F,w.H.set k ⟨(jAt w k).Y,(jAt w k).Ab++[hearOp (z1c w.F k c y)],(jAt w k).Ag⟩,[]⟩,0):=by
  rw[zbe (by show 0<1; decide)]
  have ek:(((k:Int)+1)-1).toNat=k:=om
  have hne:¬ (mAt ⟨w.F,w.H,[z1c w.F k c y]⟩ 0).To=0:=by
   show ¬ (k:Int)+1=0
   omega
  unfold delivS
  rw[y5 hne]
  show keepS _ (((k:Int)+1)-1).toNat (appendS (jAt w (((k:Int)+1)-1).toNat) (hearOp (z1c w.F k c y))).1 (appendS (jAt w (((k:Int)+1)-1).toNat) (hearOp (z1c w.F k c y))).2=_
  rw[ek,z2v g1 g2 hrec,z1s]
  rfl
 unfold exW
 rw[y6 (by rw[e4]),hd,hl,z4o (by rw[e9]),e9]
theorem zon (h:VW w) (hm:w.V=[]) (hk:k<w.H.length) (hR:hasR (stW w k).J c y=true) :
  exW w ⟨8,(k:Int)+1,z5p,c,y,0,0⟩=⟨J13.putP w.F c y (J13.withH (J13.potAt w.F c y) (J13.upd (J13.potAt w.F c y).L ((k:Int)+1) (rightV (stW w k).J c y).M) (J13.upd (J13.potAt w.F c y).P ((k:Int)+1) (usedV (stW w k).Ae c y))),w.H,[]⟩:=by
 have h2:=h.2.1
 have hl:=h.len
 obtain⟨q1,q2,q3⟩:=h.2.2.2.1 k hk
 have hv:VO (stW w k):=q1.stb
 have hn:(stW w k).O=(k:Int)+1:=(zkb q1).trans q2
 have hle:=z8x q1 c y
 obtain⟨z1,z2,_⟩:=z2d q1.now q3 (hle.1 hR)
 have hb:=z2i hv.ok c y
 have hu:=z1g hv.val c y
 have hh:=z4y q3 z1
 have hG:(rightV (stW w k).J c y).A<=nthN (J13.potAt w.F c y).A k:=y2o hle.2.1 z2
 obtain⟨m,em⟩:∃ m:TMe,m=⟨(k:Int)+1,0,c,y,0,0,(rightV (stW w k).J c y).M,usedV (stW w k).Ae c y⟩:=⟨_,rfl⟩
 have er:reportS (stW w k) c y=(m,0):=by
  unfold reportS
  rw[y5 (fun g=>g hv),y5 (fun g=>g hR),hn,em]
 have ek:(((k:Int)+1)-1).toNat=k:=om
 have e8:stepW w ⟨8,(k:Int)+1,z5p,c,y,0,0⟩=(⟨w.F,w.H,[m]⟩,0):=by
  rw[z58 (show 5<=(8:Int)/\(8:Int)<=8 from dk)]
  have hI:1<=(k:Int)+1/\(k:Int)+1<=(w.H.length:Int):=om
  refine (y5 fun g=>g hI).trans ((y5 (show ¬ (8:Int)=5 from dk)).trans ((y5 (show ¬ (8:Int)=6 from dk)).trans ((y5 (show ¬ (8:Int)=7 from dk)).trans ?_)))
  show sendS w (reportS (stW w (((k:Int)+1)-1).toNat) c y).1 (reportS (stW w (((k:Int)+1)-1).toNat) c y).2=_
  rw[ek,er,z4x (by rw[hm]; decide),hm]
  rfl
 have hd:doW w ⟨8,(k:Int)+1,z5p,c,y,0,0⟩=⟨w.F,w.H,[m]⟩:=by
  rw[z4o (by rw[e8]),e8]
 have hls:lastS ⟨w.F,w.H,[m]⟩=⟨9,0,z5p,[],0,0,((0:Nat):Int)⟩:=rfl
 have en:∀ l:List Int,J13.nth l ((k:Int)+1)=nthN l k:=fun l=>by
  unfold J13.nth nthN
  rw[ek]
 have eh:J13.hearM w.F m=(J13.putP w.F c y (J13.withH (J13.potAt w.F c y) (J13.upd (J13.potAt w.F c y).L ((k:Int)+1) (rightV (stW w k).J c y).M) (J13.upd (J13.potAt w.F c y).P ((k:Int)+1) (usedV (stW w k).Ae c y))),0):=by
  have hh':nthN (J13.potAt w.F c y).L k<=(rightV (stW w k).J c y).M:=hh
  rw[em]
  unfold J13.hearM
  rw[y5 (fun g=>g rfl),y5 (fun g=>g h.1),y5 (fun g=>g z1),y5 (fun g=>g ⟨by show 1<=(k:Int)+1; omega,by show (k:Int)+1<=_; omega⟩),y5 (fun g=>g ⟨⟨hb.1,by show _<=J13.nth _ ((k:Int)+1); rw[en]; exact y2o hb.2.1 hG⟩,by rw[show usedV (stW w k).Ae c y=_ from hu.1]; exact⟨hu.2.1,y2o hu.2.2 dk⟩⟩)]
  show (J13.putP w.F c y (J13.withH _ (J13.upd _ ((k:Int)+1) (max (J13.nth _ ((k:Int)+1)) (rightV (stW w k).J c y).M)) _),(0:Int))=_
  rw[en,show max (nthN (J13.potAt w.F c y).L k) (rightV (stW w k).J c y).M=(rightV (stW w k).J c y).M from om]
 have e9:stepW ⟨w.F,w.H,[m]⟩ ⟨9,0,z5p,[],0,0,((0:Nat):Int)⟩=(⟨(J13.hearM w.F m).1,w.H,[]⟩,0):=by
  rw[zbe (by show 0<1; decide)]
  have h0:(mAt ⟨w.F,w.H,[m]⟩ 0).To=0:=by
   show m.To=0
   rw[em]
  unfold delivS
  rw[y6 h0]
  show (if (J13.hearM w.F m).2≠0 then _ else _)=_
  rw[y5 (by rw[eh]; exact fun g=>g rfl)]
  rfl
 unfold exW
 rw[y6 (by rw[e8]),hd,hls,z4o (by rw[e9]),e9,eh]
theorem zoo (hv:VO o) (hr:hasR o.J p.D p.E=true) (h1:1<=p.S) (h2:p.S<=unusedV o p.D p.E):(giveS o p).2=0:=by
 have hu:=z1g hv.val p.D p.E
 rw[hv.unused] at h2
 have hR:=hv.ok _ (z23 hr).1
 have hb:=z2i hv.ok p.D p.E
 have e1:i64.wrap ((rightV o.J p.D p.E).A-(rightV o.J p.D p.E).M)=(rightV o.J p.D p.E).A-(rightV o.J p.D p.E).M:=wrapId om om
 have e2:(returnS (rightV o.J p.D p.E) (usedV o.Ae p.D p.E) p.S).2=0:=by
  unfold returnS
  rw[e1,hu.1,y5 (fun g=>g ⟨hR,hu.2.1,om⟩),y5 (fun g=>g ⟨h1,om⟩),wrapId om om,y5 om]
 unfold giveS
 rw[y5 (fun g=>g hr),y5 (fun g=>g e2)]
def giveOp (c:Y8) (y n:Int):TOp:=⟨7,c,y,0,0,n,0,0,0,0⟩
theorem zql (hg:good c=true) (hy:0<=y/\y<=99) (hn:0<=n/\n<=1000000000000000):POp (giveOp c y n):=by
 refine⟨⟨by show (1:Int)<=7; decide,by show (7:Int)<=9; decide⟩,fun k hk=>?_,rfl⟩
 have hk:k=8\/k=0\/k=2:=by
  have:k∈[8,0,2]:=hk
  simpa using this
 rcases hk with rfl | rfl | rfl
 ·exact (zbx _).2 hg
 ·exact (condN dk).2 hy
 ·exact (condN dk).2 hn
noncomputable def askW (o:TOf) (c:Y8) (y:Int):Int:=wantedS (rightV o.J c y) (usedV o.Ae c y)
theorem z5q (hv:VO o) (hr:hasR o.J c y=true):0<=askW o c y/\askW o c y<=unusedV o c y/\askW o c y=max (min ((rightV o.J c y).A-usedE o.Ae c y) (rightV o.J c y).K-(rightV o.J c y).M) 0:=by
 have hu:=z1g hv.val c y
 have hR:=hv.ok _ (z23 hr).1
 have hb:=z2i hv.ok c y
 have hn:=hv.unused_nn c y
 rw[hv.unused] at hn |-
 unfold askW wantedS
 rw[hu.1,y6 ⟨hR,hu.2.1,om⟩]
 have key:∀ G U A R:Int,(if G-U<A then (if G-U-R>0 then G-U-R else 0) else (if A-R>0 then A-R else 0))=max (min (G-U) A-R) 0:=fun G U A R=>by
  split <;> split <;> omega
 rw[key]
 refine⟨om,om,rfl⟩
theorem zop (hv:VO o) (c:Y8) (y:Int):answerS o c y=if askW o c y=0 then (noP,false) else (giveOp c y (askW o c y),true):=y5 fun g=>g hv
theorem zst (hv:VO o) (hr:hasR o.J c y=true) (h0:askW o c y≠0):(doS o (giveOp c y (askW o c y))).2=0/\(doS o (giveOp c y (askW o c y))).1.Ae=o.Ae/\askW (doS o (giveOp c y (askW o c y))).1 c y=0:=by
 obtain⟨b1,b2,b3⟩:=z5q hv hr
 have hs:stepS o (giveOp c y (askW o c y))=giveS o (giveOp c y (askW o c y)):=(y5 (show ¬ (7:Int)=8 from dk)).trans (y6 rfl)
 have g0:(giveS o (giveOp c y (askW o c y))).2=0:=zoo hv hr (by show 1<=askW o c y; omega) b2
 have e:doS o (giveOp c y (askW o c y))=giveS o (giveOp c y (askW o c y)):=by
  rw[z8v hv ⟨by show (1:Int)<=7; decide,by show (7:Int)<=9; decide⟩,hs]
 obtain⟨_,_,_,r,e1,hrt,h3,hvo⟩:=zbu hv g0
 have h0d:(doS o (giveOp c y (askW o c y))).2=0:=by rw[e]; exact g0
 have hbk:(doS o (giveOp c y (askW o c y))).1.Ae=o.Ae:=by rw[e,e1]
 refine⟨h0d,hbk,?_⟩
 obtain⟨d1,d2,d3,d4,d5⟩:=(z42 h0d).2 c y
 have hv2:=zbw h0d
 rw[y5 (fun g=>absurd g.1 (show ¬ (7:Int)=8 from dk))] at d2 d3
 rw[y6 ⟨rfl,rfl,rfl⟩] at d4
 have hr2:=d1.2 (.inl hr)
 have:=(z5q hv2 hr2).2.2
 rw[d2,d3,d4,hbk] at this
 rw[this]
 show max (min ((rightV o.J c y).A-usedE o.Ae c y) (rightV o.J c y).K-((rightV o.J c y).M+askW o c y)) 0=0
 omega
theorem zoq (h:VW w) (s:TSt):VW (exW w s)/\(exW w s).H.length=w.H.length:=by
 unfold exW
 by_cases c:(stepW w s).2=0
 ·rw[y6 c]
  obtain⟨h1,h2⟩:=ze2 h s
  obtain⟨h3,h4⟩:=ze2 h1 (lastS (doW w s))
  exact⟨h3,h4.trans h2⟩
 ·rw[y5 c]; exact⟨h,rfl⟩
theorem zif (hk:k<w.H.length) (hn:5<=n/\n<=8):stepW w ⟨n,(k:Int)+1,p,[],0,0,0⟩ =
  if n=5 then (if p.Q=8 then (zWd,9) else keepS w k (appendS (jAt w k) p).1 (appendS (jAt w k) p).2) else if n=6 then keepS w k (flushJ (jAt w k)) 0 else if n=7 then keepS w k (crashJ (jAt w k)) 0 else sendS w (reportS (stW w k) [] 0).1 (reportS (stW w k) [] 0).2:=by
 rw[z58 hn]
 have hI:1<=(k:Int)+1/\(k:Int)+1<=(w.H.length:Int):=om
 have ek:(((k:Int)+1)-1).toNat=k:=om
 refine (y5 fun g=>g hI).trans ?_
 show (if n=5 then (if p.Q=8 then (zWd,9) else keepS w (((k:Int)+1)-1).toNat (appendS (jAt w (((k:Int)+1)-1).toNat) p).1 (appendS (jAt w (((k:Int)+1)-1).toNat) p).2) else if n=6 then keepS w (((k:Int)+1)-1).toNat (flushJ (jAt w (((k:Int)+1)-1).toNat)) 0 else if n=7 then keepS w (((k:Int)+1)-1).toNat (crashJ (jAt w (((k:Int)+1)-1).toNat)) 0 else sendS w (reportS (stW w (((k:Int)+1)-1).toNat) [] 0).1 (reportS (stW w (((k:Int)+1)-1).toNat) [] 0).2)=_
 rw[ek]
theorem zu6 (hk:k<w.H.length) (h8:p.Q≠8) (hp:POp p) (h0:(doS (noW w k) p).2=0) (hrec:(jAt w k).Ab.length≠400):stepW w ⟨5,(k:Int)+1,p,[],0,0,0⟩=(⟨w.F,w.H.set k ⟨(jAt w k).Y,(jAt w k).Ab++[p],(jAt w k).Ag⟩,w.V⟩,0):=by
 rw[zif hk ⟨dk,dk⟩,y6 rfl,y5 h8,z2v hp h0 hrec,z1s]
theorem zor (hk:k<w.H.length):stepW w ⟨6,(k:Int)+1,p,[],0,0,0⟩=(⟨w.F,w.H.set k (flushJ (jAt w k)),w.V⟩,0):=by
 rw[zif hk ⟨dk,dk⟩,y5 dk,y6 rfl,z1s]
end Go.Proofs.YtlhikmklpelceaaGreatDoor
