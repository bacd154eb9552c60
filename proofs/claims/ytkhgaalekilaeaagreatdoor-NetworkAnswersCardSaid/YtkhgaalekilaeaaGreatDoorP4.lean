/- A part of the proof: plain laws of what the functions compute. No condition. -/
import Derived.Test.YtkhgaalekilaeaaGreatDoorP3
namespace Go.Proofs.YtkhgaalekilaeaaGreatDoor.J13
open Go Go.TA
open Go.IntKind (i64)
def PGood (p:TPo):Prop:=good p.B=true/\True
variable {l:List TPo} {c:Y8} {y:Int}
theorem has_iff:hasP l c y=true↔∃ x∈l,x.B=c/\x.D=y:=by
 unfold hasP
 rw[y52]
 exact⟨fun⟨x,h1,h2⟩=>⟨x,h1,zfw.1 h2⟩,fun⟨x,h1,h2⟩=>⟨x,h1,zfw.2 h2⟩⟩
def Srt (l:List TPo):Prop:=∀ i,i<l.length->i=0\/cmpP (l.getD (i-1) dF) (l.getD i dF)<0
variable {a b:TPo}
theorem zc0 (h:good a.B=true\/good b.B=true):cmpP a b<0↔lexC (parts a.B) (parts b.B)<0\/(lexC (parts a.B) (parts b.B)=0/\a.D<b.D):=by
 unfold cmpP
 rw[z30 h]
 generalize lexC (parts a.B) (parts b.B)=c
 by_cases hc:c=0
 ·rw[y7 (by simpa using hc)]
  unfold cmpI
  by_cases h1:a.D<b.D
  ·rw[y8 h1]; simp[hc,h1]
  ·rw[y7 h1]
   split <;> simp[hc,h1]
 ·rw[y8 hc]; simp[hc]
theorem cmpP_eq (ha:good a.B=true) (hb:good b.B=true):cmpP a b=0↔a.B=b.B/\a.D=b.D:=by
 unfold cmpP
 rw[z30 (.inl ha)]
 by_cases hc:lexC (parts a.B) (parts b.B)=0
 ·rw[y7 (by simpa using hc)]
  have e:=z81 ha hb (z36 hc)
  unfold cmpI
  by_cases h1:a.D<b.D
  ·rw[y8 h1]; simp; omega
  ·rw[y7 h1]
   by_cases h2:a.D>b.D
   ·rw[y8 h2]; simp; omega
   ·rw[y7 h2]; simp[e]; omega
 ·rw[y8 hc]
  constructor
  ·intro h; exact absurd h hc
  ·rintro⟨h1,_⟩
   exact absurd (by rw[h1]; exact zb2 _) hc
theorem zen {c:TPo} (ha:good a.B=true) (hb:good b.B=true) (h:cmpP a b<0) (h':cmpP b c<0):cmpP a c<0:=by
 rw[zc0 (.inl ha)] at h |-
 rw[zc0 (.inl hb)] at h'
 rcases h with h | ⟨h,h2⟩
 ·rcases h' with h' | ⟨h',_⟩
  ·exact .inl (z9l h h')
  ·rw[<- z36 h']; exact .inl h
 ·rcases h' with h' | ⟨h',h3⟩
  ·rw[z36 h]; exact .inl h'
  ·rw[z36 h]; exact .inr ⟨h',om⟩
theorem zq8 (ha:good a.B=true):cmpP b a=-cmpP a b:=by
 unfold cmpP
 rw[z30 (.inl ha),z30 (.inr ha),zb3 (parts a.B) (parts b.B)]
 by_cases h:lexC (parts a.B) (parts b.B)=0
 ·rw[y7 om,y7 om]
  unfold cmpI
  by_cases h1:a.D<b.D
  ·rw[y7 om,y8 om,y8 h1]; rfl
  ·by_cases h2:b.D<a.D
   ·rw[y8 h2,y7 h1,y8 om]
   ·rw[y7 h2,y7 om,y7 h1,y7 om]; rfl
 ·rw[y8 om,y8 h]
theorem Srt.lt (h:Srt l) (hg:∀ r∈l,PGood r):∀ {i j:Nat},i<j->j<l.length->cmpP (l.getD i dF) (l.getD j dF)<0:=by
 intro i j hij
 induction j with
 | zero=>omega
 | succ j ih =>
  intro hj
  have h1:=(h (j+1) hj).resolve_left om
  rw[show j+1-1=j from om] at h1
  by_cases e:i=j
  ·subst e; exact h1
  ·exact zen (hg _ (z8 om)).1 (hg _ (z8 om)).1 (ih om om) h1
def posP (l:List TPo) (r:TPo):Nat:=l.findIdx (fun x=>decide (0<=cmpP x r))
variable {i:Nat}
theorem z18 {α:Type} [Inhabited α] {l:List α} (hi:i<l.length):l.getD i dF=l[i]:=by simp[List.getD_eq_getElem?_getD,List.getElem?_eq_getElem hi]
theorem posP_le (l:List TPo) (r:TPo):posP l r<=l.length:=List.findIdx_le_length
variable {r:TPo}
theorem zc1 (hi:i<posP l r):cmpP (l.getD i dF) r<0:=by
 have hl:i<l.length:=y1a hi (posP_le l r)
 have:=List.not_of_lt_findIdx hi
 rw[z18 hl]
 simpa using this
theorem zc2 (hi:posP l r<l.length):0<=cmpP (l.getD (posP l r) dF) r:=by
 have:=y4c (xs:=l) (p:=fun x=>decide (0<=cmpP x r)) (w:=hi)
 rw[z18 hi]
 exact y24 this
theorem zui (hS:Srt l) (hg:∀ x∈l,PGood x) (hi:i<l.length) (hp:posP l r<=i):0<=cmpP (l.getD i dF) r:=by
 have h0:=zc2 (l:=l) (r:=r) om
 by_cases e:posP l r=i
 ·rwa [e] at h0
 ·have h1:=hS.lt hg (show posP l r<i from om) hi
  by_cases h:cmpP (l.getD i dF) r<0
  ·have:=zen (hg _ (z8 om)).1 (hg _ (z8 hi)).1 h1 h
   omega
  ·omega
variable {j:Nat}
theorem zfp (h:i+j<4611686018427387904):i64.wrap ((IntKind.u64.wrap (i64.wrap ((i:Int)+(j:Int)))).fdiv (2 ^ (min (1:Int).toNat IntKind.u64.bits)))=(((i+j) / 2:Nat):Int):=by
 rw[wrapId (n:=(i:Int)+(j:Int)) om om]
 have e:IntKind.u64.wrap ((i:Int)+(j:Int))=(i:Int)+(j:Int):=by
  simp only[IntKind.wrap,IntKind.bits,IntKind.signed]
  simp
  omega
 rw[e]
 have e2:(2:Int) ^ (min (1:Int).toNat IntKind.u64.bits)=2:=dk
 rw[e2,Int.fdiv_eq_ediv_of_nonneg _ om,wrapId om om]
 omega
theorem PGood.len (h:PGood r):r.B.length<=1000000:=by have:=z3u h.1; omega
theorem zdi (hg:∀ x∈l,PGood x) (k:Nat):(l.getD k dF).B.length<=1000000:=by
 by_cases h:k<l.length
 ·exact (hg _ (z8 h)).len
 ·rw[ya,yk om]; exact y1g _
theorem z9o (hl:l.length<=1000000) (hS:Srt l) (hg:∀ x∈l,PGood x) (hr:PGood r) :
  F_q2n r l=some ((posP l r:Int),decide (posP l r<l.length)&&(cmpP (l.getD (posP l r) dF) r==0)):=by
 have hc:∀ k,F_q3i (l.getD k dF) r=some (cmpP (l.getD k dF) r):=fun k=>zel (zdi hg k) hr.len
 have hp:=posP_le l r
 simp only[F_q2n,S_q2n,Scr.den]
 obtain⟨s,e,hJ⟩:=z2i (step:=fun s=>(S_q2n_b1 r l s).den) (fun s=>(s.2-s.1).toNat) (fun s=>∃ i j:Nat,s=((i:Int),(j:Int))/\i<=posP l r/\posP l r<=j/\j<=l.length) (fun s=>s.1=(posP l r:Int)) (fun s hI=>by
  obtain⟨i,j,rfl,h1,h2,h3⟩:=hI
  simp only[S_q2n_b1,Scr.den,zfp (show i+j<4611686018427387904 from om),hc,obind,yg]
  by_cases hij:i<j
  ·left
   rw[y8 (by simpa using hij),Gc,yo]
   by_cases hlt:cmpP (l.getD ((i+j) / 2) dF) r<0
   ·rw[y8 (by simpa using hlt),wrapId om om]
    have:(i+j) / 2<posP l r:=by
     by_cases h:(i+j) / 2<posP l r
     ·exact h
     ·have:=zui (r:=r) hS hg (show (i+j) / 2<l.length from om) om
      omega
    exact⟨_,rfl,⟨(i+j) / 2+1,j,sj,om,h2,h3⟩,by simp only; omega⟩
   ·rw[y7 (by simpa using hlt)]
    have:posP l r<=(i+j) / 2:=by
     by_cases h:posP l r<=(i+j) / 2
     ·exact h
     ·have:=zc1 (show (i+j) / 2<posP l r from om)
      omega
    exact⟨_,rfl,⟨i,(i+j) / 2,rfl,h1,this,om⟩,by simp only; omega⟩
  ·right
   rw[y7 (by simpa using hij)]
   exact⟨_,rfl,by simp only; omega⟩) _ (0,(l.length:Int)) (y4b _) ⟨0,l.length,rfl,om,hp,om⟩
 rw[e]
 simp only[outM,hJ,yg,hc,zd,yo]
 by_cases h:posP l r<l.length
 ·rw[ze (by exact⟨sk,trivial⟩),obind,z7 ⟨fun _=>om,fun _=>h,fun _=>h,trivial⟩]
  simp[h]
 ·rw[zj (by simp[AllP]; omega),obind,z7 ⟨fun _=>om,fun h'=>absurd h (by simp[AllP] at h'; omega),fun h'=>absurd h (by simp[AllP] at h'; omega),trivial⟩]
  simp[h]
theorem zfq (hS:Srt l) (hg:∀ x∈l,PGood x) (hr:PGood r) :
  (decide (posP l r<l.length)&&(cmpP (l.getD (posP l r) dF) r==0))=hasP l r.B r.D/\(hasP l r.B r.D=true->pix l r.B r.D=posP l r):=by
 have key:hasP l r.B r.D=true->pix l r.B r.D=posP l r:=fun h=>by
  obtain⟨h1,h2,h3⟩:=pix_lt h
  have h4:=hg _ (z8 h1)
  have h5:cmpP (l.getD (pix l r.B r.D) dF) r=0:=(cmpP_eq h4.1 hr.1).2 ⟨h2,h3⟩
  rcases y3v (pix l r.B r.D) (posP l r) with h | h | h
  ·have:=zc1 h; omega
  ·exact h
  ·have h6:=hS.lt hg h h1
   have h7:=zc2 (l:=l) (r:=r) om
   have h8:=hg _ (z8 (show posP l r<l.length from om))
   have:cmpP (l.getD (posP l r) dF) r<0:=by
    rw[zc0 (.inl h8.1)] at h6 |-
    rw[h2,h3] at h6
    exact h6
   omega
 refine⟨?_,key⟩
 rw[y1q]
 simp only[yj,y9,y15]
 constructor
 ·rintro⟨h1,h2⟩
  obtain⟨h3,h4⟩:=(cmpP_eq (hg _ (z8 h1)).1 hr.1).1 h2
  exact has_iff.2 ⟨_,z8 h1,h3,h4⟩
 ·intro h
  obtain⟨h1,h2,h3⟩:=pix_lt h
  rw[key h] at h1 h2 h3
  exact⟨h1,(cmpP_eq (hg _ (z8 h1)).1 hr.1).2 ⟨h2,h3⟩⟩
theorem zdj (l:List TPo) (p:Nat) (hp:p<=l.length) (z r:TPo) :
  (copyL (l++[z]) (0+(p+1)) (min ((l++[z]).length-p) ((l++[z]).length-(p+1))) (fun i=>(l++[z]).getD ((0+p)+i) dF)).set (0+p) r=insL l p r:=by
 refine y34 (by simp[copyL,insL]; omega) fun i h1 h2=>?_
 have hi:i<l.length+1:=by rw[zu] at h2; exact h2
 rw[<- z18 h2,z1s hp,y4e]
 by_cases e:i<p
 ·rw[y7 om,y8 e]
  simp only[copyL,y3q,y3i]
  rw[y7 om,ya,ya,yn om]
 ·by_cases e2:i=p
  ·rw[y8 om,y7 e,y8 e2]
  ·rw[y7 om,y7 e,y7 e2]
   simp only[copyL,y3q,y3i,yp,y1w]
   rw[y8 om,show 0+p+(i-(0+(p+1)))=i-1 from om,ya,ya,yn om]
def withT (p:TPo) (x:Int):TPo:=⟨p.B,p.D,x,p.A,p.H,p.G,p.P⟩
def zeros (n:Int):List Int:=List.replicate n.toNat (0:Int)
def newP (n:Int) (c:Y8) (y x:Int):TPo:=⟨c,y,x,zeros n,zeros n,zeros n,zeros n⟩
def setM (t:TTr) (c:Y8) (y x:Int):TTr×Int :=
 if ¬ TOk t then (zT,1) else if ¬ good c=true then (zT,5) else if ¬ ((0<=y/\y<=99)/\-1000000000000000<=x/\x<=1000000000000000) then (zT,2) else
  if hasP t.E c y=true then (putP t c y (withT (potAt t c y) x),0) else if t.E.length=60 then (zT,3)
  else (⟨t.O,insL t.E (posP t.E (newP t.O c y x)) (newP t.O c y x)⟩,0)
variable {p:Nat} {z:TPo}
theorem insL_at (hp:p<=l.length):(insL l p z).getD p dF=z:=by
 rw[z1s hp,y7 (y5s p),y8 rfl]
theorem zsd (hp:p<=l.length):(insL l p z).set p r=insL l p r:=by
 refine y34 (by simp[zu]) fun i h1 h2=>?_
 have hi:i<l.length+1:=by rw[zu] at h2; exact h2
 rw[y4e]
 by_cases e:p=i
 ·subst e; rw[y8 rfl,<- z18 h2,insL_at hp]
 ·rw[y7 e,<- z18 h2,<- z18 (by rw[zu]; omega),z1s hp,z1s hp]
  split
  ·rfl
  ·rw[y7 fun h=>e h.symm,y7 fun h=>e h.symm]
variable {t:TTr}
theorem TOk.srt (h:TOk t):Srt t.E:=fun i hi=>by
 rcases y3h i with h0 | h0
 ·exact .inl h0
 ·exact .inr ((h.2.2 i hi).2 h0)
theorem TOk.good (h:TOk t):∀ p∈t.E,PGood p:=fun p hp=>by
 obtain⟨i,hi,rfl⟩:=z13 hp
 exact⟨(h.2.2 i hi).1.1,trivial⟩
theorem Set_eq (hs:Small t) (hc:c.length<=1000000) (y x:Int):F_q5d t c y x=some (setM t c y x):=by
 simp only[F_q5d,S_q5d,Scr.den,Valid_eq hs,z3h (l:=c) om,zjo hc,z16,obind,z9]
 unfold setM
 by_cases h1:TOk t
 ·rw[y7 (show ¬ (!decide (TOk t))=true by rw[yb h1]; simp),y7 (show ¬ ¬ TOk t from fun h=>h h1)]
  have hg:=z3g c
  by_cases h2:good c=true
  ·rw[h2,y9] at hg
   rw[y7 (show ¬ (((parts c).length:Int)==0)=true by simp only[y15]; omega),y7 (show ¬ ¬ good c=true from fun h=>h h2)]
   by_cases h3:0<=y/\y<=99
   ·rw[h2,yb h3,ze (by exact⟨rfl,trivial⟩)]
    simp only[obind]
    by_cases h4:-1000000000000000<=x/\x<=1000000000000000
    ·rw[y7 (by rw[yb h4]; simp),y7 (show ¬ ¬ ((0<=y/\y<=99)/\-1000000000000000<=x/\x<=1000000000000000) from fun h=>h ⟨h3,h4⟩)]
     have l0:=h1.2.1
     have e0:=h1.1
     have hr:PGood (⟨c,y,0,[],[],[],[]⟩:TPo):=⟨h2,trivial⟩
     obtain⟨k1,k2⟩:=zfq h1.srt h1.good hr
     have hp:=posP_le t.E (⟨c,y,0,[],[],[],[]⟩:TPo)
     rw[znj h1.small]
     simp only[obind,z9o (show t.E.length<=1000000 from om) h1.srt h1.good hr,k1,yg,yo]
     by_cases h5:hasP t.E c y=true
     ·have hlt:=(pix_lt h5).1
      have e:=k2 h5
      rw[y7 (show ¬ (!hasP t.E c y)=true by rw[h5]; simp),y8 (show hasP t.E c y=true from h5)]
      simp only[outM]
      rw[<- e,z7 (by simp only[AllP,y1b]; exact⟨om,hlt,hlt⟩),Gf]
      rfl
     ·rw[y8 (show (!hasP t.E c y)=true by simpa using h5),y7 (show ¬ hasP t.E c y=true from h5)]
      by_cases h6:t.E.length=60
      ·rw[y8 (show ((t.E.length:Int)==60)=true from sk),y8 h6]
       rfl
      ·rw[y7 (show ¬ ((t.E.length:Int)==60)=true from sk),y7 h6]
       have hz:PSmall (newP t.O c y 0):=by
        have:(zeros t.O).length<=1000000:=by simp[zeros]; omega
        exact⟨this,this,this,this⟩
       rw[Ge,z7 (by simp only[AllP,y1b,y22]; omega)]
       show outM ((F_q3j (newP t.O c y 0)).bind _) _ _=_
       rw[z2a hz]
       simp only[obind,F_q7u,yg]
       rw[z7 ⟨om,hp,om⟩]
       simp only[obind,outM]
       rw[z7 (by simp only[AllP,y1b,zu]; omega),z7 (by simp only[AllP,y1b,yl,zu]; omega),insL_at hp,zsd hp]
       rfl
    ·rw[y8 (by rw[yc h4]; simp),y8 (show ¬ ((0<=y/\y<=99)/\-1000000000000000<=x/\x<=1000000000000000) from fun h=>h4 h.2)]
   ·rw[h2,yc h3,Gh]
    simp only[obind]
    rw[y8 (by rfl),y8 (show ¬ ((0<=y/\y<=99)/\-1000000000000000<=x/\x<=1000000000000000) from fun h=>h3 h.1)]
  ·rw[y55] at h2
   rw[h2,yh] at hg
   rw[y8 (show (((parts c).length:Int)==0)=true by simp only[y15]; omega),y8 (show ¬ good c=true by simp[h2])]
 ·rw[y8 (show (!decide (TOk t))=true by rw[yc h1]; simp),y8 (show ¬ TOk t from h1)]
theorem zvq (c y y':Int):((decide (c>0)||(c==0&&decide (y>y')))=true)↔¬ (c<0\/(c=0/\y<=y')):=by
 simp only[ye,yj,y9,y15]; omega
variable {x:Int}
theorem zq9 (h1:TOk t) (hc:good c=true) (hn:¬ hasP t.E c y=true) :
  iterM (fun s=>(S_q2i_b1 c y (t.O,t.E) s).den) 0=some (.next (posP t.E (newP t.O c y x):Int)):=by
 have hl:=h1.2.1
 have hp:=posP_le t.E (newP t.O c y x)
 obtain⟨s,e,hJ⟩:=z2i (step:=fun s=>(S_q2i_b1 c y (t.O,t.E) s).den) (fun s=>(61-s).toNat) (fun s=>0<=s/\s<=(posP t.E (newP t.O c y x):Int)) (fun s=>s=(posP t.E (newP t.O c y x):Int)) (fun s hI=>by
  obtain⟨i,rfl⟩:=Int.eq_ofNat_of_zero_le hI.1
  have hi:i<=posP t.E (newP t.O c y x):=om
  simp only[S_q2i_b1,Scr.den,yg,yo,z9,zd]
  by_cases h:i<t.E.length
  ·have hg:=(h1.good _ (z8 h)).1
   rw[y8 sk,z4b hg hc,obind,z7 ⟨om,h,h,trivial⟩,z7 ⟨fun _=>om,fun _=>h,fun _=>h,trivial⟩]
   have hcm:cmpP (t.E.getD i dF) (newP t.O c y x)<0↔lexC (parts (t.E.getD i dF).B) (parts c)<0\/(lexC (parts (t.E.getD i dF).B) (parts c)=0/\(t.E.getD i dF).D<y):=zc0 (a:=t.E.getD i dF) (b:=newP t.O c y x) (.inl hg)
   have hne:¬ (lexC (parts (t.E.getD i dF).B) (parts c)=0/\(t.E.getD i dF).D=y):=fun k =>
    hn (has_iff.2 ⟨_,z8 h,z81 hg hc (z36 k.1),k.2⟩)
   by_cases hip:i<posP t.E (newP t.O c y x)
   ·left
    have hlt:=hcm.1 (zc1 hip)
    rw[y7 fun k=>(zvq _ _ _).1 k (hlt.imp id fun k=>⟨k.1,Int.le_of_lt k.2⟩),wrapId om om]
    exact⟨_,rfl,⟨om,om⟩,om⟩
   ·right
    have hge:¬ cmpP (t.E.getD i dF) (newP t.O c y x)<0:=by
     have:i=posP t.E (newP t.O c y x):=om
     subst this; exact y2w.2 (zc2 h)
    rw[y8 ((zvq _ _ _).2 fun k=>hge (hcm.2 (k.imp id fun k=>⟨k.1,Int.lt_iff_le_and_ne.2 ⟨k.2,fun e=>hne ⟨k.1,e⟩⟩⟩)))]
    exact⟨_,rfl,om⟩
  ·right
   rw[y7 (by simpa using h)]
   exact⟨_,rfl,om⟩) _ 0 (y4b _) ⟨om,om⟩
 rw[e,hJ]
theorem r13_Set_eq (hs:Small t) (hc:c.length<=1000000) (y x:Int):F_q2i t c y x=some (setM t c y x):=by
 simp only[F_q2i,S_q2i,Scr.den,r13_Valid_eq hs,z33 (l:=c) om,at_eq,obind,z9]
 unfold setM
 by_cases h1:TOk t
 ·rw[y7 (show ¬ (!decide (TOk t))=true by rw[yb h1]; simp),y7 (show ¬ ¬ TOk t from fun h=>h h1)]
  by_cases h2:good c=true
  ·rw[y7 (show ¬ (!good c)=true by rw[h2]; simp),y7 (show ¬ ¬ good c=true from fun h=>h h2)]
   by_cases h3:(0<=y/\y<=99)/\-1000000000000000<=x/\x<=1000000000000000
   ·have hb:(decide (y<0)||decide (y>99)||decide (x < -1000000000000000)||decide (x>1000000000000000))=false:=by
     simp only[y37,yh]; omega
    rw[y7 (by rw[hb]; simp),y7 (show ¬ ¬ ((0<=y/\y<=99)/\-1000000000000000<=x/\x<=1000000000000000) from fun h=>h h3),zem h1.small]
    simp only[obind]
    have l0:=h1.2.1
    have e0:=h1.1
    by_cases h5:hasP t.E c y=true
    ·have hlt:=(pix_lt h5).1
     simp only[h5,y17,yg,yo]
     rw[y8 (yb (y21 _)),z7 (by simp only[AllP,y1b]; exact⟨om,hlt,hlt⟩),Gf]
     rfl
    ·simp only[h5,y10,yu]
     rw[y7 dk]
     by_cases h6:t.E.length=60
     ·rw[y8 (show ((t.E.length:Int)==60)=true from sk),y8 h6]
     ·rw[y7 (show ¬ ((t.E.length:Int)==60)=true from sk),y7 h6,Ge,zq9 (x:=x) h1 h2 h5]
      have hp:=posP_le t.E (newP t.O c y x)
      simp only[outM,yg]
      have hw:i64.wrap ((posP t.E (newP t.O c y x):Int)+1)=((posP t.E (newP t.O c y x)+1:Nat):Int):=by rw[wrapId om om]; rfl
      rw[hw]
      simp only[yg]
      rw[Ge,z7 (by simp only[AllP,y1b,yp,y1w]; omega),z7 (by simp only[AllP,y1b,zt,yp,y1w]; omega),
       z7 (by simp only[AllP,y1b,yl,zt,yp,y1w]; omega)]
      show some ((⟨t.O,(copyL (t.E++[_]) _ _ _).set _ (newP t.O c y x)⟩:TTr),(0:Int))=_
      rw[zdj t.E _ hp _ (newP t.O c y x)]
   ·have hb:(decide (y<0)||decide (y>99)||decide (x < -1000000000000000)||decide (x>1000000000000000))=true:=by
     simp only[ye,y9]; omega
    rw[y8 hb,y8 (show ¬ ((0<=y/\y<=99)/\-1000000000000000<=x/\x<=1000000000000000) from h3)]
  ·rw[y8 (show (!good c)=true by simpa using h2),y8 (show ¬ good c=true from h2)]
 ·rw[y8 (show (!decide (TOk t))=true by rw[yc h1]; simp),y8 (show ¬ TOk t from h1)]
theorem zh5 {x:TPo} (hj:j<l.length):(l.set i x).getD j dF=if j=i then x else l.getD j dF:=by
 rw[ya,y4v]
 by_cases h:i=j
 ·subst h; simp[hj]
 ·rw[y7 h,y7 fun e=>h e.symm,ya]
theorem zqa {a' b':TPo} (h1:a.B=a'.B) (h2:a.D=a'.D) (h3:b.B=b'.B) (h4:b.D=b'.D):cmpP a b=cmpP a' b':=by
 simp only[cmpP,h1,h2,h3,h4]
theorem z6k (h:TOk t) (hp:hasP t.E c y=true) {p:TPo} (hk:PotOk t.O p) (hc:p.B=c) (hy:p.D=y):TOk (putP t c y p):=by
 obtain⟨k1,k2,k3⟩:=pix_lt hp
 refine⟨h.1,by simpa [putP] using h.2.1,fun i hi=>?_⟩
 have hi':i<t.E.length:=by simpa [putP] using hi
 have same:∀ j,j<t.E.length->((t.E.set (pix t.E c y) p).getD j dF).B=(t.E.getD j dF).B/\((t.E.set (pix t.E c y) p).getD j dF).D=(t.E.getD j dF).D:=fun j hj=>by
  rw[zh5 hj]
  by_cases e:j=pix t.E c y
  ·subst e; rw[y8 rfl]; exact⟨hc.trans k2.symm,hy.trans k3.symm⟩
  ·rw[y7 e]; exact⟨rfl,rfl⟩
 constructor
 ·show PotOk t.O ((t.E.set (pix t.E c y) p).getD i dF)
  rw[zh5 hi']
  split
  ·exact hk
  ·exact (h.2.2 i hi').1
 ·intro h0
  show cmpP ((t.E.set (pix t.E c y) p).getD (i-1) dF) ((t.E.set (pix t.E c y) p).getD i dF)<0
  rw[zqa (same (i-1) om).1 (same (i-1) om).2 (same i hi').1 (same i hi').2]
  exact (h.2.2 i hi').2 h0
theorem potAt_cy (hp:hasP t.E c y=true):(potAt t c y).B=c/\(potAt t c y).D=y:=(pix_lt hp).2
theorem zse:tot 0:=⟨om,om⟩
variable {n:Int}
theorem zqb (h:0<=n):rowOk n (zeros n):=⟨by simp[zeros]; omega,fun x hx=>by rw[List.eq_of_mem_replicate hx]; exact zse⟩
variable {k:Int}
theorem zfx {l:List Int} (h:rowOk n l) (hx:tot x):rowOk n (upd l k x) :=
 ⟨by rw[upd_length]; exact h.1,fun z hz=>by
  rcases y1v hz with h1 | h1
  ·exact h.2 z h1
  ·subst h1; exact hx⟩
theorem upd_get {l:List Int} (hj:j<l.length):(upd l k x).getD j dF=if j=(k-1).toNat then x else l.getD j dF:=zbe hj
theorem ask_ok (h:(askM t k c y x).2=0):TOk t/\TOk (askM t k c y x).1:=by
 unfold askM at h |-
 by_cases h1:TOk t
 ·simp only[show ¬ ¬ TOk t from fun h=>h h1,y10] at h |-
  by_cases h2:hasP t.E c y=true
  ·simp only[show ¬ ¬ hasP t.E c y=true from fun h=>h h2,y10] at h |-
   by_cases h3:1<=k/\k<=t.O
   ·simp only[show ¬ ¬ (1<=k/\k<=t.O) from fun h=>h h3,y10] at h |-
    by_cases h4:1<=x/\x<=1000000000000000
    ·simp only[show ¬ ¬ (1<=x/\x<=1000000000000000) from fun h=>h h4,y10] at h |-
     by_cases h5:nth (potAt t c y).A k<nth (potAt t c y).G k+x
     ·rw[y8 h5] at h; cases h
     ·rw[y7 h5]
      have hp:=h1.potAt h2
      have hcy:=potAt_cy h2
      obtain⟨g1,g2,g3,⟨r1,r2,r3,r4⟩,⟨o1,o2⟩,g6⟩:=hp
      have a1:=nth_tot r3 h3
      have a2:=nth_tot r1 h3
      unfold tot at a1 a2
      refine⟨h1,z6k h1 h2 (p:=withA (potAt t c y) (upd (potAt t c y).G k (nth (potAt t c y).G k+x))) ⟨g1,g2,g3,⟨r1,r2,zfx r3 ⟨om,om⟩,r4⟩,⟨o1,fun i hi=>?_⟩,g6⟩ hcy.1 hcy.2⟩
      have hi':i<(potAt t c y).G.length:=by have:=r1.1; have:=r3.1; have:i<(potAt t c y).A.length:=hi; omega
      show (upd (potAt t c y).G k (nth (potAt t c y).G k+x)).getD i dF<=(potAt t c y).A.getD i dF
      rw[upd_get hi']
      split
      ·rename_i e
       subst e
       exact y2w.1 h5
      ·exact o2 i hi
    ·simp only[h4,ym,y17] at h; cases h
   ·simp only[h3,ym,y17] at h; cases h
  ·simp only[h2,ym,y17,yu] at h; cases h
 ·simp only[h1,ym,y17] at h; cases h
theorem hear_ok {m:TMe} (h:(hearM t m).2=0):TOk t/\TOk (hearM t m).1:=by
 unfold hearM at h |-
 by_cases h0:m.To=0
 ·simp only[show ¬ m.To≠0 from fun h=>h h0,y10] at h |-
  by_cases h1:TOk t
  ·simp only[show ¬ ¬ TOk t from fun h=>h h1,y10] at h |-
   by_cases h2:hasP t.E m.B m.D=true
   ·simp only[show ¬ ¬ hasP t.E m.B m.D=true from fun h=>h h2,y10] at h |-
    by_cases h3:1<=m.Aa/\m.Aa<=t.O
    ·simp only[show ¬ ¬ (1<=m.Aa/\m.Aa<=t.O) from fun h=>h h3,y10] at h |-
     by_cases h4:(0<=m.S/\m.S<=nth (potAt t m.B m.D).A m.Aa)/\tot m.P
     ·simp only[show ¬ ¬ ((0<=m.S/\m.S<=nth (potAt t m.B m.D).A m.Aa)/\tot m.P) from fun h=>h h4,y10] at h |-
      have hp:=h1.potAt h2
      have hcy:=potAt_cy h2
      obtain⟨g1,g2,g3,⟨r1,r2,r3,r4⟩,⟨o1,o2⟩,g6⟩:=hp
      have a1:=nth_tot r2 h3
      have a2:=nth_tot r1 h3
      have l1:=r1.1
      have l2:=r2.1
      unfold tot at a1 a2
      have hle:nth (potAt t m.B m.D).H m.Aa<=nth (potAt t m.B m.D).A m.Aa:=o1 _ om
      refine⟨h1,z6k h1 h2 (p:=withH (potAt t m.B m.D) (upd (potAt t m.B m.D).H m.Aa (max (nth (potAt t m.B m.D).H m.Aa) m.S)) (upd (potAt t m.B m.D).P m.Aa m.P))
       ⟨g1,g2,g3,⟨r1,zfx r2 ⟨om,om⟩,r3,zfx r4 h4.2⟩,⟨fun i hi=>?_,o2⟩,g6⟩ hcy.1 hcy.2⟩
      have hi':i<(potAt t m.B m.D).H.length:=by have:i<(potAt t m.B m.D).A.length:=hi; omega
      show (upd (potAt t m.B m.D).H m.Aa _).getD i dF<=(potAt t m.B m.D).A.getD i dF
      rw[upd_get hi']
      split
      ·rename_i e
       subst e
       show max (nth (potAt t m.B m.D).H m.Aa) m.S<=nth (potAt t m.B m.D).A m.Aa
       omega
      ·exact o1 i hi
     ·simp only[h4,ym,y17] at h; cases h
    ·simp only[h3,ym,y17] at h; cases h
   ·simp only[h2,ym,y17,yu] at h; cases h
  ·simp only[h1,ym,y17] at h; cases h
 ·rw[y8 (show m.To≠0 from h0)] at h; cases h
theorem ins_ok (h:TOk t) (hr:PotOk t.O r) (hn:¬ hasP t.E r.B r.D=true) (hl:t.E.length≠60):TOk ⟨t.O,insL t.E (posP t.E r) r⟩:=by
 have hp:=posP_le t.E r
 have l0:=h.2.1
 refine⟨h.1,by show (insL t.E (posP t.E r) r).length<=60; rw[zu]; omega,fun i hi=>?_⟩
 have hi':i<t.E.length+1:=by have:i<(insL t.E (posP t.E r) r).length:=hi; rwa [zu] at this
 show PotOk t.O ((insL t.E (posP t.E r) r).getD i dF)/\(0<i->cmpP ((insL t.E (posP t.E r) r).getD (i-1) dF) ((insL t.E (posP t.E r) r).getD i dF)<0)
 rw[z1s hp,z1s hp]
 by_cases c1:i<posP t.E r
 ·rw[y8 c1,y8 (show i-1<posP t.E r from om)]
  exact h.2.2 i om
 ·by_cases c2:i=posP t.E r
  ·rw[y7 c1,y8 c2]
   refine⟨hr,fun h0=>?_⟩
   rw[y8 (show i-1<posP t.E r from om)]
   exact zc1 om
  ·rw[y7 c1,y7 c2]
   have hi2:i-1<t.E.length:=om
   refine⟨(h.2.2 (i-1) hi2).1,fun h0=>?_⟩
   by_cases c3:i-1=posP t.E r
   ·rw[y7 (show ¬ i-1<posP t.E r from om),y8 c3]
    have hg:=(h.good _ (z8 hi2)).1
    have h1:0<=cmpP (t.E.getD (i-1) dF) r:=by rw[c3]; exact zc2 om
    have h2:cmpP (t.E.getD (i-1) dF) r≠0:=fun e=>hn (has_iff.2 ⟨_,z8 hi2,(cmpP_eq hg hr.1).1 e⟩)
    rw[zq8 hg]
    omega
   ·rw[y7 (show ¬ i-1<posP t.E r from om),y7 c3]
    exact (h.2.2 (i-1) hi2).2 om
theorem zuj (hn:1<=n) (hc:good c=true) (hy:0<=y/\y<=99) (hx:-1000000000000000<=x/\x<=1000000000000000):PotOk n (newP n c y x):=by
 have hz:=zqb (n:=n) om
 refine⟨hc,hy,hx,⟨hz,hz,hz,hz⟩,⟨fun i _=>y1h _,fun i _=>y1h _⟩,?_⟩
 have:=z54 (l:=zeros n) hz.2
 have e:(zeros n).sum=0:=by simp[zeros]
 show (zeros n).sum<=_
 omega
theorem set_ok (h:(setM t c y x).2=0):TOk t/\TOk (setM t c y x).1:=by
 unfold setM at h |-
 by_cases h1:TOk t
 ·simp only[show ¬ ¬ TOk t from fun h=>h h1,y10] at h |-
  by_cases h2:good c=true
  ·simp only[show ¬ ¬ good c=true from fun h=>h h2,y10] at h |-
   by_cases h3:(0<=y/\y<=99)/\-1000000000000000<=x/\x<=1000000000000000
   ·simp only[show ¬ ¬ ((0<=y/\y<=99)/\-1000000000000000<=x/\x<=1000000000000000) from fun h=>h h3,y10] at h |-
    by_cases h5:hasP t.E c y=true
    ·rw[y8 h5]
     have hcy:=potAt_cy h5
     obtain⟨g1,g2,g3,g4,g5,g6⟩:=h1.potAt h5
     exact⟨h1,z6k h1 h5 (p:=withT (potAt t c y) x) ⟨g1,g2,h3.2,g4,g5,g6⟩ hcy.1 hcy.2⟩
    ·rw[y7 h5] at h |-
     by_cases h6:t.E.length=60
     ·rw[y8 h6] at h; cases h
     ·rw[y7 h6]
      exact⟨h1,ins_ok h1 (zuj h1.1.1 h2 h3.1 h3.2) h5 h6⟩
   ·rw[y8 h3] at h; cases h
  ·rw[y8 (show ¬ good c=true from h2)] at h; cases h
 ·rw[y8 h1] at h; cases h
theorem zsf {G a:List Int} (hl:a.length=G.length):(addN G a a.length).sum=G.sum+a.sum:=by
 have e:addN G a a.length=List.zipWith (· + ·) G a:=zdm (by simp[addN_length]; omega) fun j hj=>by
  have hj':j<G.length:=by simpa [addN_length] using hj
  rw[addN_get hj',y8 om,z2m (show j<(List.zipWith (· + ·) G a).length by rw[List.length_zipWith]; omega),List.getElem_zipWith,z2m hj',z2m om]
 rw[e]
 clear e
 induction G generalizing a with
 | nil=>cases a with | nil=>rfl | cons _ _=>simp at hl
 | cons x G ih=>cases a with
  | nil=>simp at hl
  | cons z a =>
   simp only[List.zipWith_cons_cons,y3e]
   rw[ih (by simpa using hl)]
   omega
theorem znk {l:List Int} (h:∀ x∈l,0<=x):∀ x∈l,x<=l.sum:=by
 induction l with
 | nil=>simp
 | cons z l ih =>
  have h0:0<=l.sum:=by
   clear ih
   induction l with
   | nil=>simp
   | cons w l ih2 =>
    have:=h w sj
    have:=ih2 fun x hx=>h x (by rcases y16.1 hx with e | e <;> simp[e])
    simp only[y3e]; omega
  intro x hx
  have hz:=h z sj
  simp only[y3e]
  rcases y16.1 hx with rfl | hx
  ·omega
  ·have:=ih (fun y hy=>h y (by simp[hy])) x hx
   omega
theorem give_ok {p:TPo} (h:PotOk n p) {a:List Int} (ha:∀ x∈a,tot x) (hl:a.length=p.A.length) (h0:(giveV p.T p a).1=0) :
  (giveV p.T p a).2=addN p.A a a.length/\PotOk n (withG p (giveV p.T p a).2)/\a.sum<=p.T-outV p:=by
 unfold giveV at h0 |-
 by_cases c1:p.T-outV p<a.sum
 ·rw[y8 c1] at h0; cases h0
 ·rw[y7 c1] at h0 |-
  by_cases c2:1000000000000000<p.A.sum+a.sum
  ·rw[y8 c2] at h0; cases h0
  ·rw[y7 c2]
   obtain⟨g1,g2,g3,⟨r1,r2,r3,r4⟩,⟨o1,o2⟩,g6⟩:=h
   have hs:=zsf (G:=p.A) hl
   have hge:∀ j,j<p.A.length->p.A.getD j dF<=(addN p.A a a.length).getD j dF/\0<=(addN p.A a a.length).getD j dF:=fun j hj=>by
    have t1:=r1.2 _ (z8 hj)
    have t2:=ha _ (z8 (show j<a.length from om))
    unfold tot at t1 t2
    rw[addN_get hj,y8 om]
    omega
   have hpos:∀ x∈addN p.A a a.length,0<=x:=fun x hx=>by
    obtain⟨j,hj,rfl⟩:=z13 hx
    exact (hge j (by rwa [addN_length] at hj)).2
   refine⟨rfl,⟨g1,g2,g3,⟨⟨by show ((addN p.A a a.length).length:Int)=n; rw[addN_length]; exact r1.1,fun x hx=>⟨hpos x hx,?_⟩⟩,r2,r3,r4⟩,⟨fun i hi=>?_,fun i hi=>?_⟩,?_⟩,om⟩
   ·have:=znk hpos x hx
    omega
   ·have hi':i<p.A.length:=by have:i<(addN p.A a a.length).length:=hi; rwa [addN_length] at this
    exact y3c (o1 i hi') (hge i hi').1
   ·have hi':i<p.A.length:=by have:i<(addN p.A a a.length).length:=hi; rwa [addN_length] at this
    exact y3c (o2 i hi') (hge i hi').1
   ·show (addN p.A a a.length).sum<=_
    omega
theorem grant_ok (h:(grantM t k c y x).2=0):TOk t/\TOk (grantM t k c y x).1:=by
 unfold grantM at h |-
 by_cases h1:TOk t
 ·simp only[show ¬ ¬ TOk t from fun h=>h h1,y10] at h |-
  by_cases h2:hasP t.E c y=true
  ·simp only[show ¬ ¬ hasP t.E c y=true from fun h=>h h2,y10] at h |-
   by_cases h3:1<=k/\k<=t.O
   ·simp only[show ¬ ¬ (1<=k/\k<=t.O) from fun h=>h h3,y10] at h |-
    by_cases h4:1<=x/\x<=1000000000000000
    ·simp only[show ¬ ¬ (1<=x/\x<=1000000000000000) from fun h=>h h4,y10] at h |-
     by_cases h5:(giveV (potAt t c y).T (potAt t c y) (oneHot (potAt t c y).A.length (k-1).toNat x)).1=0
     ·rw[y7 (show ¬ _≠_ from fun h=>h h5)]
      have hcy:=potAt_cy h2
      exact⟨h1,z6k h1 h2 (give_ok (h1.potAt h2) (oneHot_tot h4) oneHot_length h5).2.1 hcy.1 hcy.2⟩
     ·rw[y8 h5] at h; exact absurd h h5
    ·simp only[h4,ym,y17] at h; cases h
   ·simp only[h3,ym,y17] at h; cases h
  ·simp only[h2,ym,y17,yu] at h; cases h
 ·simp only[h1,ym,y17] at h; cases h
instance (r:TRi):Decidable (RtOk r):=inferInstanceAs (Decidable (_/\_))
def TapeOk (s:TTape):Prop:=0<=s.at_/\s.l.length<=500/\s.at_<=s.l.length
variable {s:TTape}
theorem z1d (hs:TapeOk s) (h1:1<=n) (hn:n<=4611686018427387904):∃ v s',F_q2 n s=some (v,s')/\TapeOk s'/\0<=v/\v<n:=by
 obtain⟨a1,a2,a3⟩:=hs
 simp only[F_q2,S_q2,Scr.den]
 by_cases hc:s.at_>=(s.l.length:Int)
 ·rw[y8 (by simp[hc])]
  exact⟨0,s,rfl,⟨a1,a2,a3⟩,om,om⟩
 ·rw[y7 sk]
  have e1:i64.wrap (s.at_+1)=s.at_+1:=wrapId om om
  rw[e1,Gc]
  generalize s.l.getD s.at_.toNat dF=x
  have t1:x.tmod n<n:=Int.tmod_lt_of_pos x om
  have t2:-n<x.tmod n:=Int.lt_tmod_of_pos x om
  have e3:i64.wrap (x.tmod n+n)=x.tmod n+n:=wrapId om om
  rw[e3]
  have ht:TapeOk ⟨s.l,s.at_+1⟩:=⟨by simp only; omega,a2,by simp only; omega⟩
  split
  ·rename_i h
   simp only[y9] at h
   exact⟨_,_,rfl,ht,om,om⟩
  ·rename_i h
   simp only[y9] at h
   exact⟨_,_,rfl,ht,om,om⟩
theorem z10 {l:List Int} (hs:TapeOk s) (h0:1<=l.length) (h1:l.length<=100):∃ v s',F_q6 l s=some (v,s')/\TapeOk s'/\v∈l:=by
 simp only[F_q6,S_q6,Scr.den]
 obtain⟨v,s',h3,h4,h5,h6⟩:=z1d (n:=(l.length:Int)) hs om om
 refine⟨_,s',?_,h4,z8 (show v.toNat<l.length from om)⟩
 rw[h3,obind,z7 ⟨by simpa using h5,by simp only; omega,trivial⟩]
end Go.Proofs.YtkhgaalekilaeaaGreatDoor.J13
namespace Go.Proofs.YtkhgaalekilaeaaGreatDoor
open Go Go.TA
open Go.IntKind (i64)
def jAt (w:TWo) (k:Nat):TJo:=w.J.getD k dF
def nthN (l:List Int) (k:Nat):Int:=l.getD k dF
def KnownJ (t:TTr) (a b:TOf) (k:Nat):Prop :=
 (∀ r∈a.L,J13.hasP t.E r.B r.D=true/\r.A<=nthN (J13.potAt t r.B r.D).A k/\r.G<=nthN (J13.potAt t r.B r.D).G k) /\
 ∀ p∈t.E,nthN p.H k<=(rightV b.L p.B p.D).S
def ToOk (t:TTr) (m:TMe):Prop:=(1<=m.To/\m.To<=t.O)/\(0<=m.A/\m.A<=nthN (J13.potAt t m.B m.D).A (m.To-1).toNat)/\(0<=m.G/\m.G<=nthN (J13.potAt t m.B m.D).G (m.To-1).toNat)/\m.S=0/\m.P=0
def FromOk (t:TTr) (st:Nat->TOf) (m:TMe):Prop:=(1<=m.Aa/\m.Aa<=t.O)/\m.To=0/\(0<=m.S/\m.S<=(rightV (st (m.Aa-1).toNat).L m.B m.D).S)/\(0<=m.P/\m.P<=1000000000000000)/\m.A=0/\m.G=0
def MsgOk (t:TTr) (st:Nat->TOf) (m:TMe):Prop:=J13.hasP t.E m.B m.D=true/\((m.Aa=0/\ToOk t m)\/(m.Aa≠0/\FromOk t st m))
noncomputable def stW (w:TWo) (k:Nat):TOf:=stbJ (jAt w k)
noncomputable def noW (w:TWo) (k:Nat):TOf:=nowJ (jAt w k)
def VW (w:TWo):Prop:=J13.TOk w.K/\(w.J.length:Int)=w.K.O/\w.N.length<=200 /\
 (∀ k,k<w.J.length->VJ (jAt w k)/\(jAt w k).Z=(k:Int)+1/\KnownJ w.K (noW w k) (stW w k) k)/\∀ m∈w.N,MsgOk w.K (stW w) m
theorem zfy:∀ {l:List TOp} {o:TOf},Runs o l->(runO o l).Q=o.Q
 | [],_,_=>rfl
 | p :: l,o,h=>by
  show (runO (doS o p).1 l).Q=_
  rw[zfy h.2,(zvp h.1.2)]
variable {t:TTr}
theorem zqc (h:J13.TOk t):J13.Small t:=fun p hp=>by
 have:=J13.PGood.len (h.good p hp)
 exact this
variable {w:TWo}
theorem VW.small (h:VW w):J13.Small w.K:=zqc h.1
theorem VW.len (h:VW w):1<=w.J.length/\w.J.length<=6:=by
 have h1:=h.1.1
 have h2:=h.2.1
 omega
variable {j:TJo}
theorem zfz (h:VJ j):(nowJ j).Q=j.Z:=zfy h.2.2.2
theorem zuk (h:VJ j):(stbJ j).Q=j.Z:=zfy (z3b h.2.2.2 _)
variable {α:Type}
def ups (n:Nat) (f:Nat->α):List α:=(List.range n).map f
variable {n:Nat} {f:Nat->α}
theorem zr:(ups n f).length=n:=by simp[ups]
variable {i:Nat}
theorem z2n [Inhabited α] (h:i<n):(ups n f).getD i dF=f i:=by simp[ups,List.getD_eq_getElem?_getD,h]
theorem z40:ups (n+1) f=ups n f++[f n]:=by simp[ups,List.range_succ]
theorem zbf (h:VW w):F_qb w=some (ups w.J.length (noW w),ups w.J.length (stW w),true):=by
 have hl:=h.len
 simp only[F_qb,S_qb,Scr.den]
 obtain⟨s,e,hs⟩:=zq (body:=fun i s=>(S_qb_b1 w i s).den) (n:=w.J.length) (fun i s=>s=(ups i (noW w),ups i (stW w))) (s0:=(([]:List TOf),([]:List TOf))) rfl (fun i s hi hI=>by
  subst hI
  obtain⟨h1,h2,_⟩:=h.2.2.2.1 i hi
  simp only[S_qb_b1,Scr.den]
  rw[show w.J.getD i dF=jAt w i from rfl,z4d h1]
  simp only[obind]
  rw[z8j h1]
  simp only[obind,z9]
  rw[h2,wrapId (n:=(i:Int)+1) om om,y7 sj,z7 ⟨by rw[zr]; omega,by rw[zr]; omega,trivial⟩]
  exact⟨_,rfl,by rw[z40,z40]; rfl⟩)
 rw[e,hs]
 simp only[zb]
 rw[z7 ⟨by rw[zr]; omega,trivial⟩,z7 ⟨by rw[zr]; omega,trivial⟩]
variable {c:Y8} {y:Int}
theorem z1t (h:J13.hasP t.E c y=true):J13.potM t c y=(J13.potAt t c y,true):=y8 h
variable {k:Nat} {a b:TOf}
theorem zsg (ht:J13.TOk t) (hk:(k:Int)<t.O) (hn:a.Q=(k:Int)+1) (h:KnownJ t a b k):F_q9 t a b=some true:=by
 have h6:=ht.1
 have ew:i64.wrap (a.Q-1)=(k:Int):=by rw[hn,wrapId om om]; omega
 simp only[F_q9,S_q9,Scr.den]
 obtain⟨u,e,_⟩:=zq (body:=fun i s=>(S_q9_b1 t a i s).den) (n:=a.L.length) (fun _ _=>True) (s0:=()) trivial (fun i u hi _=>by
  obtain⟨h1,h2,h3⟩:=h.1 _ (z8 hi)
  have hp:=ht.potAt h1
  have hg:=hp.2.2.2.1.1.1
  have ha:=hp.2.2.2.1.2.2.1.1
  simp only[S_q9_b1,Scr.den,J13.Pot_eq ht.small,z1t h1,obind,z9,ew,yg]
  unfold nthN at h2 h3
  rw[z7 ⟨fun _=>om,fun _=>om,fun _=>om,fun _=>om,trivial⟩,y7 (by simp only[y29,ye,yu,y46,y9]; omega)]
  exact⟨(),rfl,trivial⟩)
 rw[e]
 simp only[zb]
 obtain⟨u,e,_⟩:=zq (body:=fun i s=>(S_q9_b2 t a b i s).den) (n:=t.E.length) (fun _ _=>True) (s0:=()) trivial (fun i u hi _=>by
  have h1:=h.2 _ (z8 hi)
  have hp:=(ht.2.2 i hi).1
  have hh:=hp.2.2.2.1.2.1.1
  simp only[S_q9_b2,Scr.den,z2r,obind,ew,yg]
  unfold nthN at h1
  rw[Gb,y7 (by simp only[y9]; omega)]
  exact⟨(),rfl,trivial⟩)
 rw[e]
 rfl
theorem z41 (n a b:Int):F_q1d n a b=some (decide (a<=n/\n<=b)):=by
 simp only[F_q1d,S_q1d,Scr.den,zd]
 congr 1
 rw[y1q]; simp
variable {m:TMe}
theorem zeo (ht:J13.TOk t) {f:Nat->TOf} (hn:(n:Int)=t.O) (h:MsgOk t f m):F_q39 t (ups n f) m=some true:=by
 have h6:=ht.1
 obtain⟨h1,h2⟩:=h
 have hp:=ht.potAt h1
 have hg:=hp.2.2.2.1.1.1
 have ha:=hp.2.2.2.1.2.2.1.1
 simp only[F_q39,S_q39,Scr.den,J13.Pot_eq ht.small,z1t h1,obind,z41,zd]
 rw[y7 dk]
 rcases h2 with ⟨h0,q1,q2,q3,q4,q5⟩ | ⟨h0,q1,q2,q3,q4,q5,q6⟩
 ·unfold nthN at q2 q3
  have ew:i64.wrap (m.To-1)=m.To-1:=wrapId om om
  rw[y8 (by simp[h0]),ew,yb q1,Gg,yb q2]
  simp only[obind]
  rw[Gg,yb q3]
  simp only[obind]
  rw[z7 ⟨fun _=>om,fun _=>om,fun _=>om,fun _=>om,trivial⟩,q4,q5]
  rfl
 ·have ew:i64.wrap (m.Aa-1)=m.Aa-1:=wrapId om om
  rw[y7 (by simpa using h0),ew,yb q1,q2,z2n (show (m.Aa-1).toNat<n from om),z2r,Gg]
  simp only[obind]
  rw[Gg,yb q3]
  simp only[obind]
  rw[Gg,yb q4]
  simp only[obind]
  rw[z7 ⟨fun _=>om,fun _=>by rw[zr]; omega,trivial⟩,q5,q6]
  rfl
theorem z2w (h:VW w):F_qd w=some true:=by
 have hl:=h.len
 have hst:=zbf h
 have hw:=h
 obtain⟨h1,h2,h3,h4,h5⟩:=h
 simp only[F_qd,S_qd,Scr.den,J13.Valid_eq hw.small,obind,z9]
 rw[yb h1,y7 (by simp[h2]; omega),hst]
 simp only[obind]
 rw[y7 dk]
 obtain⟨u,e,_⟩:=zq (body:=fun i s=>(S_qd_b1 w (ups w.J.length (noW w),ups w.J.length (stW w),true) i s).den) (n:=(ups w.J.length (noW w)).length) (fun _ _=>True) (s0:=()) trivial (fun i u hi _=>by
  rw[zr] at hi
  obtain⟨q1,q2,q3⟩:=h4 i hi
  simp only[S_qd_b1,Scr.den]
  rw[z2n hi,z2n hi,zsg h1 om (show (noW w i).Q=_ from (zfz q1).trans q2) q3]
  simp only[obind]
  rw[z7 ⟨by rw[zr]; exact hi,trivial⟩,y7 dk]
  exact⟨(),rfl,trivial⟩)
 rw[e]
 simp only[zb]
 have hx:F_qy w.N w (ups w.J.length (stW w))=some (-1):=by
  simp only[F_qy,S_qy,Scr.den]
  obtain⟨u,e,_⟩:=zq (body:=fun i s=>(S_qy_b1 w.N w (ups w.J.length (stW w)) i s).den) (n:=w.N.length) (fun _ _=>True) (s0:=()) trivial (fun i u hi _=>by
   simp only[S_qy_b1,F_q3w,S_q3w,Scr.den]
   rw[zeo h1 h2 (h5 _ (z8 hi))]
   simp only[obind]
   rw[y7 dk]
   exact⟨(),rfl,trivial⟩)
  rw[e]
  rfl
 simp only[F_q51,S_q51,Scr.den,hx,obind]
 rfl
theorem z72 (h:VJ j):F_q7 j=some (nowJ j,stbJ j,true):=by
 obtain⟨h1,h2,h3,h4⟩:=h
 have hn:F_q4e j.Z=some (newO j.Z,0):=by
  rw[zed,y7 om]
  rfl
 simp only[F_q7,S_q7,Scr.den,hn,obind,z9]
 rw[y7 sk]
 obtain⟨s,e,hs⟩:=zq (body:=fun i s=>(S_q7_b1 j i s).den) (n:=j.M.length) (fun i s=>s=(runO (newO j.Z) (j.M.take i),runO (newO j.Z) (j.M.take (min i j.Af.toNat)),(0:Int))) (s0:=(newO j.Z,newO j.Z,(0:Int))) (by simp; rfl) (fun i s hi hI=>by
  subst hI
  obtain⟨q1,q2⟩:=zm4 h4 hi
  have hv:=z8t (z52 h1) (z3b h4 i)
  have hl:=q1.len
  simp only[S_q7_b1,Scr.den,z9]
  rw[Gg,z5g om,@decide_eq_true _ (_) q1]
  simp only[obind]
  rw[y7 sj,zb9 hv.smO om]
  simp only[obind]
  have e1:runO (newO j.Z) (j.M.take (i+1))=(doS (runO (newO j.Z) (j.M.take i)) (j.M.getD i dF)).1:=by rw[zgz hi,zbd]
  by_cases c:(i:Int)<j.Af
  ·rw[y8 (by simpa using c)]
   refine⟨_,rfl,?_⟩
   rw[show min (i+1) j.Af.toNat=i+1 from om,e1,q2]
  ·rw[y7 (by simpa using c)]
   refine⟨_,rfl,?_⟩
   rw[show min (i+1) j.Af.toNat=min i j.Af.toNat from om,e1,q2])
 rw[e,hs]
 simp only[zb]
 rw[y23 (yf _),show min j.M.length j.Af.toNat=j.Af.toNat from om]
 rfl
theorem z42 (h:VJ j):F_q4h j=some (nowJ j,0):=by
 simp only[F_q4h,S_q4h,Scr.den,z72 h,obind]
 rfl
theorem zhx (h:VJ j):F_q6u j=some (stbJ j,0):=by
 simp only[F_q6u,S_q6u,Scr.den,z72 h,obind]
 rfl
theorem zbg (h:VJ j):F_q55 j=some true:=by
 simp only[F_q55,S_q55,Scr.den,z72 h,obind]
theorem zjt (h:VJ j):F_q6s j=some (flushJ j):=by
 simp only[F_q6s,S_q6s,Scr.den,zbg h,obind,y17,zb]
 rfl
theorem zju (h:VJ j):F_q6t j=some (crashJ j):=by
 have hl:=h.2.1
 have hf:=h.2.2.1
 simp only[F_q6t,S_q6t,Scr.den,zbg h,obind,y17]
 rw[z7 ⟨hf.1,om,by rw[y1k]; omega,trivial⟩]
 rfl
theorem zaa (h:VJ j) {p:TOp} (hc:p.B.length<=1000000):F_q56 j p=some (appendS j p):=by
 have hv:=h.now
 simp only[F_q56,S_q56,Scr.den,z42 h,obind]
 rw[Gg,z5g hc]
 simp only[obind,z9]
 by_cases hp:POp p
 ·rw[@decide_eq_true _ (_) hp,y7 sj,zb9 hv.smO hc]
  simp only[obind]
  by_cases h0:(doS (nowJ j) p).2=0
  ·rw[y7 (by simp[h0])]
   by_cases hl:j.M.length=400
   ·rw[y8 (by simp[hl]),z3z hp h0 hl]
    rfl
   ·rw[y7 sk,z4e hp h0 hl]
    have:=h.2.1
    rw[Gb,z7 ⟨by rw[yp]; simp; omega,trivial⟩]
  ·rw[y8 (by simpa using h0),z4m hp h0]
   rfl
 ·rw[@decide_eq_false _ (_) hp,y8 sj,z4l hp]
  rfl
theorem z20 (t:TTr) (c:Y8) (y:Int):F_q4g t c y=some (J13.potM t c y):=by
 simp only[F_q4g,S_q4g,Scr.den,J13.at_eq,obind]
 unfold J13.potM
 by_cases h:J13.hasP t.E c y=true
 ·have hlt:=(J13.pix_lt h).1
  rw[y8 h,y8 h,y8 sj,yg,z7 ⟨om,hlt,trivial⟩]
  rfl
 ·rw[y7 h,y7 h,y7 dk]
theorem z8u (ht:J13.TOk w.K) {f:Nat->TOf} (hn:(n:Int)=w.K.O) (h:MsgOk w.K f m):F_q3a w m (ups n f)=some true:=by
 have h6:=ht.1
 obtain⟨h1,h2⟩:=h
 have hp:=ht.potAt h1
 have hg:=hp.2.2.2.1.1.1
 have ha:=hp.2.2.2.1.2.2.1.1
 simp only[F_q3a,S_q3a,Scr.den,z20,z1t h1,obind,zd,z9]
 rw[y7 dk]
 rcases h2 with ⟨h0,q1,q2,q3,q4,q5⟩ | ⟨h0,q1,q2,q3,q4,q5,q6⟩
 ·unfold nthN at q2 q3
  have ew:i64.wrap (m.To-1)=m.To-1:=wrapId om om
  rw[y8 (by simp[h0]),ew,y7 (by simp[q4,q5,zr]; omega),z7 ⟨fun _=>om,fun _=>om,fun _=>om,fun _=>om,trivial⟩]
  rw[yb q2.1,yb q2.2,yb q3.1,yb q3.2]
  rfl
 ·have ew:i64.wrap (m.Aa-1)=m.Aa-1:=wrapId om om
  rw[y7 (by simpa using h0),y7 (by simp[q2,q5,q6,zr]; omega),ew,yo,z2n (show (m.Aa-1).toNat<n from om),z1i,ze (by simp[AllP]; omega)]
  simp only[obind]
  rw[z7 ⟨fun _=>om,fun _=>by rw[zr]; omega,fun _=>by rw[zr]; omega,trivial⟩,yb q3.1,yb q3.2]
  rfl
theorem z2c (h:VW w):F_q0 w=some true:=by
 have hl:=h.len
 have hw:=h
 obtain⟨h1,h2,h3,h4,h5⟩:=h
 have h6:=h1.1
 simp only[F_q0,S_q0,Scr.den,J13.r13_Valid_eq hw.small,obind,z9]
 rw[yb h1,y7 (by simp[h2]; omega)]
 obtain⟨s,e,hs⟩:=zq (body:=fun i s=>(S_q0_b3 w i s).den) (n:=w.J.length) (fun i s=>s=ups i (stW w)) (s0:=([]:List TOf)) rfl (fun i s hi hI=>by
  subst hI
  obtain⟨q1,q2,q3⟩:=h4 i hi
  simp only[S_q0_b3,Scr.den]
  rw[show w.J.getD i dF=jAt w i from rfl,q2,wrapId (n:=(i:Int)+1) om om,y7 sj,z72 q1]
  simp only[obind]
  rw[y7 dk,z7 ⟨by rw[zr]; omega,trivial⟩]
  obtain⟨u,e,_⟩:=zq (body:=fun k s=>(S_q0_b1 w i (nowJ (jAt w i),stbJ (jAt w i),true) k s).den) (n:=(nowJ (jAt w i)).L.length) (fun _ _=>True) (s0:=()) trivial (fun k u hk _=>by
   obtain⟨z1,z2,z3⟩:=q3.1 _ (z8 hk)
   have hp:=h1.potAt z1
   have hg:=hp.2.2.2.1.1.1
   have ha:=hp.2.2.2.1.2.2.1.1
   simp only[S_q0_b1,Scr.den,z20]
   unfold nthN at z2 z3
   rw[show (nowJ (jAt w i)).L=(noW w i).L from rfl,z1t z1]
   simp only[obind,z9]
   rw[z7 ⟨fun _=>om,fun _=>om,trivial⟩,y7 (by simp only[y29,ye,yu,y46,y9]; omega)]
   exact⟨(),rfl,trivial⟩)
  rw[e]
  simp only[zb]
  obtain⟨u,e,_⟩:=zq (body:=fun k s=>(S_q0_b2 w i (nowJ (jAt w i),stbJ (jAt w i),true) k s).den) (n:=w.K.E.length) (fun _ _=>True) (s0:=()) trivial (fun k u hk _=>by
   have z1:=q3.2 _ (z8 hk)
   have hp:=(h1.2.2 k hk).1
   have hh:=hp.2.2.2.1.2.1.1
   simp only[S_q0_b2,Scr.den,z1i,obind]
   unfold nthN at z1
   rw[Ga,y7 (by simp only[y9]; exact y2w.2 z1)]
   exact⟨(),rfl,trivial⟩)
  rw[e]
  exact⟨_,rfl,by rw[z40]; rfl⟩)
 rw[e,hs]
 simp only[zb]
 obtain⟨u,e,_⟩:=zq (body:=fun i s=>(S_q0_b4 w (ups w.J.length (stW w)) i s).den) (n:=w.N.length) (fun _ _=>True) (s0:=()) trivial (fun i u hi _=>by
  simp only[S_q0_b4,Scr.den]
  rw[z8u h1 h2 (h5 _ (z8 hi))]
  simp only[obind]
  rw[y7 dk]
  exact⟨(),rfl,trivial⟩)
 rw[e]
 rfl
def zWd:TWo:=⟨⟨0,[]⟩,[],[]⟩
def sendS (w:TWo) (m:TMe) (e:Int):TWo×Int:=if e≠0 then (zWd,e) else if w.N.length=200 then (zWd,3) else (⟨w.K,w.J,w.N++[m]⟩,0)
def keepS (w:TWo) (k:Nat) (j:TJo) (e:Int):TWo×Int:=if e≠0 then (zWd,e) else (⟨w.K,w.J.set k j,w.N⟩,0)
def tresS (w:TWo) (r:TTr×Int):TWo×Int:=if r.2≠0 then (zWd,r.2) else (⟨r.1,w.J,w.N⟩,0)
def loseW (w:TWo) (i:Nat):TWo:=⟨w.K,w.J,w.N.eraseIdx i⟩
def hearOp (m:TMe):TOp:=⟨8,m.B,m.D,0,0,0,0,0,m.A,m.G⟩
noncomputable def actS (w:TWo) (s:TSt):TWo×Int :=
 if ¬ (1<=s.Z/\s.Z<=w.J.length) then (zWd,6) else
 if s.U=5 then (if s.Op.U=8 then (zWd,9) else keepS w (s.Z-1).toNat (appendS (jAt w (s.Z-1).toNat) s.Op).1 (appendS (jAt w (s.Z-1).toNat) s.Op).2) else
 if s.U=6 then keepS w (s.Z-1).toNat (flushJ (jAt w (s.Z-1).toNat)) 0 else
 if s.U=7 then keepS w (s.Z-1).toNat (crashJ (jAt w (s.Z-1).toNat)) 0 else
 sendS w (reportS (stW w (s.Z-1).toNat) s.B s.D).1 (reportS (stW w (s.Z-1).toNat) s.B s.D).2
def mAt (w:TWo) (i:Nat):TMe:=w.N.getD i dF
noncomputable def delivS (w:TWo) (i:Nat):TWo×Int :=
 if (mAt w i).To=0 then (if (J13.hearM w.K (mAt w i)).2≠0 then (zWd,(J13.hearM w.K (mAt w i)).2) else (⟨(J13.hearM w.K (mAt w i)).1,w.J,w.N.eraseIdx i⟩,0)) else
 keepS (loseW w i) ((mAt w i).To-1).toNat (appendS (jAt w ((mAt w i).To-1).toNat) (hearOp (mAt w i))).1 (appendS (jAt w ((mAt w i).To-1).toNat) (hearOp (mAt w i))).2
noncomputable def mailS (w:TWo) (s:TSt):TWo×Int :=
 if ¬ (0<=s.Ai/\s.Ai<w.N.length) then (zWd,6) else if s.U=9 then delivS w s.Ai.toNat else if s.U=11 then sendS w (mAt w s.Ai.toNat) 0 else (loseW w s.Ai.toNat,0)
noncomputable def stepW (w:TWo) (s:TSt):TWo×Int :=
 if s.U=1 then tresS w (J13.setM w.K s.B s.D s.V) else
 if s.U=2 then tresS w (J13.grantM w.K s.Z s.B s.D s.V) else
 if s.U=3 then tresS w (J13.askM w.K s.Z s.B s.D s.V) else
 if s.U=4 then sendS w (J13.tellM w.K s.Z s.B s.D).1 (J13.tellM w.K s.Z s.B s.D).2 else
 if 5<=s.U/\s.U<=8 then actS w s else if 9<=s.U/\s.U<=11 then mailS w s else (zWd,1)
variable {e:Int}
theorem z55 (h:e≠0):sendS w m e=(zWd,e):=y8 h
theorem z5j (h:w.N.length=200):sendS w m 0=(zWd,3):=(y7 fun k=>k rfl).trans (y8 h)
theorem z4u (h:w.N.length≠200):sendS w m 0=(⟨w.K,w.J,w.N++[m]⟩,0):=(y7 fun k=>k rfl).trans (y7 h)
theorem z43 (h:e≠0):keepS w k j e=(zWd,e):=y8 h
theorem z2s:keepS w k j 0=(⟨w.K,w.J.set k j,w.N⟩,0):=y7 fun k=>k rfl
theorem zg0 (hl:w.N.length<=200) (m:TMe) (e:Int):F_q44 w m e=some (sendS w m e):=by
 simp only[F_q44,S_q44,Scr.den]
 by_cases h0:e=0
 ·subst h0
  rw[y7 sj]
  by_cases h2:w.N.length=200
  ·rw[y8 (by simp[h2]),z5j h2]
   rfl
  ·have e1:i64.wrap ((w.N.length:Int)+1)=((w.N.length+1:Nat):Int):=wrapId om om
   have e2:min w.N.length (List.replicate (w.N.length+1) ((⟨0,0,[],0,0,0,0,0⟩:TMe):TMe)).length=w.N.length:=by rw[y22]; omega
   rw[y7 sk,z4u h2,e1,yg,e2,Gb,z7 ⟨by rw[y22]; omega,by rw[zt,y22]; omega,trivial⟩,z7 ⟨by rw[yl,zt,y22]; omega,trivial⟩]
   congr 3
   refine y34 (by rw[yl,zt,y22,yp]; rfl) fun i h1 h3=>?_
   rw[yl,zt,y22] at h1
   rw[y4e]
   by_cases hi:i=w.N.length
   ·rw[y8 om]
    subst hi
    simp
   ·rw[y7 om,List.getElem_append_left om]
    simp only[copyL,y3q,y3i]
    rw[y8 om,Nat.sub_zero,z18 om]
 ·rw[y8 (by simpa using h0),z55 h0]
  rfl
theorem zqd {l:List TJo} (hl:l.length<=1000000):F_q61 l=some l:=by
 simp only[F_q61,S_q61,Scr.den]
 rw[Ga]
theorem zc3 (hl:w.J.length<=6) (hk:k<w.J.length) (hj:e=0->j.Z=(k:Int)+1):F_q3v w j e=some (keepS w k j e):=by
 simp only[F_q3v,S_q3v,Scr.den]
 by_cases h0:e=0
 ·have ew:i64.wrap (j.Z-1)=(k:Int):=by rw[hj h0,wrapId om om]; omega
  subst h0
  rw[y7 sj,z2s,zqd om]
  simp only[obind,ew,yg,yo]
  rw[z7 ⟨om,hk,hk,trivial⟩,z7 ⟨by rw[yl]; omega,trivial⟩]
 ·rw[y8 (by simpa using h0),z43 h0]
  rfl
variable {l:List TMe}
theorem zqe (hl:l.length<=1000000):F_q67 l=some l:=by
 simp only[F_q67,S_q67,Scr.den]
 rw[Ga]
theorem cloneM (hl:l.length<=1000000):F_q6b l=some l:=by
 simp only[F_q6b,S_q6b,Scr.den]
 rw[Ga]
theorem znl (hi:i<l.length) (hl:l.length<=1000000):F_q68 (i:Int) ((i:Int)+1) l=some (l.eraseIdx i):=by
 simp only[F_q68,S_q68,Scr.den]
 have e1:((i:Int)+1).toNat=i+1:=om
 simp only[e1,yg,Nat.sub_zero,yo]
 rw[z7 ⟨om,om,om,om,trivial⟩,y7 sk,Gb,z7 ⟨om,by rw[zt]; exact yf _,trivial⟩,
  z7 ⟨by rw[z1r,zt]; omega,trivial⟩,z7 ⟨by rw[z1r,zt]; omega,trivial⟩]
 congr 1
 refine y34 ?_ fun j h1 h2=>?_
 ·rw[y1k,z1r,zt,List.length_eraseIdx,y8 hi]
  omega
 ·rw[y1k,z1r,zt] at h1
  rw[List.getElem_take,List.getElem_eraseIdx]
  simp only[clearL,List.getElem_mapIdx,copyL,y3q,y3i]
  rw[y7 om]
  by_cases c:j<i
  ·rw[y7 om,y47 c,z18 om]
  ·rw[y8 om,dif_neg c,z18 om]
   congr 1
   omega
theorem zg1 (hl:w.N.length<=200) (hi:i<w.N.length):F_q4b w (i:Int)=some (loseW w i):=by
 simp only[F_q4b,S_q4b,Scr.den,zqe (show w.N.length<=1000000 from om),obind]
 rw[wrapId (n:=(i:Int)+1) om om,znl hi om]
 rfl
theorem z6t {p:TOp} (h0:(appendS j p).2=0):(appendS j p).1.Z=j.Z:=by
 by_cases hp:POp p
 ·by_cases h1:(doS (nowJ j) p).2=0
  ·by_cases hl:j.M.length=400
   ·rw[z3z hp h1 hl] at h0; cases h0
   ·rw[z4e hp h1 hl]
  ·rw[z4m hp h1] at h0
   exact absurd h0 h1
 ·rw[z4l hp] at h0; cases h0
theorem VW.msgLen (h:VW w) (hm:m∈w.N):m.B.length<=1000000:=by
 have h1:=(h.2.2.2.2 m hm).1
 have h2:=h.1.potAt h1
 have h3:=z3u h2.1
 have h4:=(J13.potAt_cy h1).1
 rw[h4] at h3
 omega
theorem znm (h:VW w) (hi:i<w.N.length):F_q69 w (i:Int)=some (delivS w i):=by
 have hl:=h.len
 have hm:=h.2.2.1
 have hml:=h.msgLen (z8 hi)
 have hmo:=(h.2.2.2.2 _ (z8 hi)).2
 have h2:=h.2.1
 simp only[F_q69,S_q69,Scr.den,yg]
 rw[z7 ⟨om,hi,trivial⟩]
 unfold delivS mAt
 generalize w.N.getD i dF=m at hml hmo
 by_cases h0:m.To=0
 ·refine y1s ?_ (y18 some (y8 h0).symm)
  rw[y8 (by simp[h0]),J13.Hear_eq h.small]
  simp only[obind]
  by_cases h1:(J13.hearM w.K m).2=0
  ·refine y1s ?_ (y18 some (y7 (fun k=>k h1)).symm)
   rw[y7 (by simp[h1]),zg1 (w:=⟨(J13.hearM w.K m).1,w.J,w.N⟩) hm hi]
   rfl
  ·refine y1s ?_ (y18 some (y8 h1).symm)
   rw[y8 (by simpa using h1)]
   rfl
 ·have hto:1<=m.To/\m.To<=w.K.O:=by
   rcases hmo with ⟨_,q,_⟩ | ⟨_,_,q,_⟩
   ·exact q
   ·exact absurd q h0
  have hk:(m.To-1).toNat<w.J.length:=om
  obtain⟨q1,q2,_⟩:=h.2.2.2.1 _ hk
  have ew:i64.wrap (m.To-1)=m.To-1:=wrapId om om
  refine y1s ?_ (y18 some (y7 h0).symm)
  rw[y7 (by simpa using h0),ew]
  simp only[show w.J.getD (m.To-1).toNat dF=jAt w (m.To-1).toNat from rfl]
  rw[show (⟨8,m.B,m.D,0,0,0,0,0,m.A,m.G⟩:TOp)=hearOp m from rfl,zcr q1 (p:=hearOp m) hml]
  simp only[obind]
  rw[z7 ⟨om,hk,trivial⟩,zg1 hm hi]
  simp only[obind]
  rw[zc3 (w:=loseW w i) (k:=(m.To-1).toNat) hl.2 hk fun e0=>by rw[z6t e0,q2]]
  rfl
variable {ρ:Type}
theorem zvr (k a b c d:Int) (K:Bool->Option α) (R:ρ->Option α):outM (if (k==a)=true then some (Out.next (k==a)) else if (k==b)=true then some (Out.next (k==b)) else if (k==c)=true then some (Out.next (k==c)) else some (Out.next (k==d))) K R=K (decide (k=a\/k=b\/k=c\/k=d)):=by
 by_cases h1:k=a
 ·rw[y8 (by simpa using h1)]; simp[outM,h1]
 rw[y7 (by simpa using h1)]
 by_cases h2:k=b
 ·rw[y8 (by simpa using h2)]; simp[outM,h2]
 rw[y7 (by simpa using h2)]
 by_cases h3:k=c
 ·rw[y8 (by simpa using h3)]; simp[outM,h3]
 rw[y7 (by simpa using h3)]
 simp only[outM,h1,h2,h3,y46]
 rfl
theorem zvs (k a b c:Int) (K:Bool->Option α) (R:ρ->Option α):outM (if (k==a)=true then some (Out.next (k==a)) else if (k==b)=true then some (Out.next (k==b)) else some (Out.next (k==c))) K R=K (decide (k=a\/k=b\/k=c)):=by
 by_cases h1:k=a
 ·rw[y8 (by simpa using h1)]; simp[outM,h1]
 rw[y7 (by simpa using h1)]
 by_cases h2:k=b
 ·rw[y8 (by simpa using h2)]; simp[outM,h2]
 rw[y7 (by simpa using h2)]
 simp only[outM,h1,h2,y46]
 rfl
variable {s:TSt}
theorem z73 (h:s.U=1):stepW w s=tresS w (J13.setM w.K s.B s.D s.V):=y8 h
theorem z74 (h:s.U=2):stepW w s=tresS w (J13.grantM w.K s.Z s.B s.D s.V):=(y7 om).trans (y8 h)
theorem z8v (h:s.U=3):stepW w s=tresS w (J13.askM w.K s.Z s.B s.D s.V):=(y7 om).trans ((y7 om).trans (y8 h))
theorem z75 (h:s.U=4):stepW w s=sendS w (J13.tellM w.K s.Z s.B s.D).1 (J13.tellM w.K s.Z s.B s.D).2:=(y7 om).trans ((y7 om).trans ((y7 om).trans (y8 h)))
theorem z8w (h:5<=s.U/\s.U<=8):stepW w s=actS w s:=(y7 om).trans ((y7 om).trans ((y7 om).trans ((y7 om).trans (y8 h))))
theorem z4f (h:9<=s.U/\s.U<=11):stepW w s=mailS w s:=(y7 om).trans ((y7 om).trans ((y7 om).trans ((y7 om).trans ((y7 om).trans (y8 h)))))
theorem z8x (h:¬ (1<=s.U/\s.U<=11)):stepW w s=(zWd,1):=(y7 om).trans ((y7 om).trans ((y7 om).trans ((y7 om).trans ((y7 om).trans (y7 om)))))
theorem z5y (w:TWo) (r:TTr×Int):(if (r.2 != 0)=true then some (zWd,r.2) else some ((⟨r.1,w.J,w.N⟩:TWo),(0:Int)))=some (tresS w r):=by
 unfold tresS
 by_cases h:r.2=0
 ·rw[y7 (by simp[h]),y7 (by simp[h])]
 ·rw[y8 (by simpa using h),y8 h]
theorem zl4 (h:VW w) (hc:s.B.length<=1000000) (hk:1<=s.U/\s.U<=4):F_q5j w s=some (stepW w s):=by
 have hs:=h.small
 simp only[F_q5j,S_q5j,Scr.den]
 have hk:s.U=1\/s.U=2\/s.U=3\/s.U=4:=om
 rcases hk with k | k | k | k
 ·rw[z73 k,<- z5y,y8 (by simp[k]),J13.Set_eq hs hc]
  rfl
 ·rw[z74 k,<- z5y,y7 (by simp[k]),y8 (by simp[k]),J13.Grant_eq hs]
  rfl
 ·rw[z8v k,<- z5y,y7 (by simp[k]),y7 (by simp[k]),y8 (by simp[k]),J13.Ask_eq hs]
  rfl
 ·rw[z75 k,y7 (by simp[k]),y7 (by simp[k]),y7 (by simp[k]),J13.Tell_eq hs]
  simp only[obind]
  rw[zg0 h.2.2.1]
  rfl
theorem zvt (h:VW w) (ho:s.Op.B.length<=1000000) (_hk:5<=s.U/\s.U<=8):F_q65 w s=some (actS w s):=by
 have hl:=h.len
 simp only[F_q65,S_q65,Scr.den,z41,obind]
 by_cases h1:1<=s.Z/\s.Z<=w.J.length
 ·have ew:i64.wrap (s.Z-1)=s.Z-1:=wrapId om om
  have hlt:(s.Z-1).toNat<w.J.length:=om
  obtain⟨q1,q2,_⟩:=h.2.2.2.1 _ hlt
  rw[yb h1,y7 sj,ew,Gb]
  simp only[show w.J.getD (s.Z-1).toNat dF=jAt w (s.Z-1).toNat from rfl]
  refine y1s ?_ (y18 some (y7 fun g=>g h1).symm)
  by_cases c5:s.U=5
  ·refine y1s ?_ (y18 some (y8 c5).symm)
   rw[y8 (by simp[c5])]
   by_cases c8:s.Op.U=8
   ·refine y1s ?_ (y18 some (y8 c8).symm)
    rw[y8 (by simp[c8])]
    rfl
   ·refine y1s ?_ (y18 some (y7 c8).symm)
    rw[y7 (by simpa using c8),zcr q1 ho]
    simp only[obind]
    rw[zc3 hl.2 hlt fun e0=>by rw[z6t e0,q2]]
    rfl
  refine y1s ?_ (y18 some (y7 c5).symm)
  rw[y7 (by simpa using c5)]
  by_cases c6:s.U=6
  ·refine y1s ?_ (y18 some (y8 c6).symm)
   rw[y8 (by simp[c6]),zng q1]
   simp only[obind]
   rw[zc3 (j:=flushJ (jAt w (s.Z-1).toNat)) hl.2 hlt fun _=>q2]
   rfl
  refine y1s ?_ (y18 some (y7 c6).symm)
  rw[y7 (by simpa using c6)]
  by_cases c7:s.U=7
  ·refine y1s ?_ (y18 some (y8 c7).symm)
   rw[y8 (by simp[c7]),znh q1]
   simp only[obind]
   rw[zc3 (j:=crashJ (jAt w (s.Z-1).toNat)) hl.2 hlt fun _=>q2]
   rfl
  refine y1s ?_ (y18 some (y7 c7).symm)
  rw[y7 (by simpa using c7),z8j q1]
  simp only[obind]
  rw[zpv q1.stb.smO]
  simp only[obind]
  rw[zg0 h.2.2.1]
  rfl
 ·rw[yc h1,y8 (by rfl)]
  exact y18 some (y8 h1).symm
theorem zul (h:VW w) (_hk:9<=s.U/\s.U<=11):F_q6a w s=some (mailS w s):=by
 have hm:=h.2.2.1
 have ew:i64.wrap ((w.N.length:Int)-1)=(w.N.length:Int)-1:=wrapId om om
 simp only[F_q6a,S_q6a,Scr.den,z41,obind,ew]
 by_cases h1:0<=s.Ai/\s.Ai<w.N.length
 ·have hlt:s.Ai.toNat<w.N.length:=om
  have ei:s.Ai=(s.Ai.toNat:Int):=om
  rw[yb (show 0<=s.Ai/\s.Ai<=(w.N.length:Int)-1 from om),y7 sj]
  refine y1s ?_ (y18 some (y7 fun g=>g h1).symm)
  by_cases c9:s.U=9
  ·refine y1s ?_ (y18 some (y8 c9).symm)
   rw[y8 (by simp[c9])]
   conv=>lhs; rw[ei]
   rw[znm h hlt]
   rfl
  refine y1s ?_ (y18 some (y7 c9).symm)
  rw[y7 (by simpa using c9)]
  by_cases c11:s.U=11
  ·refine y1s ?_ (y18 some (y8 c11).symm)
   rw[y8 (by simp[c11]),zg0 hm]
   simp only[obind]
   rw[z7 ⟨h1.1,hlt,trivial⟩]
   rfl
  refine y1s ?_ (y18 some (y7 c11).symm)
  rw[y7 (by simpa using c11)]
  conv=>lhs; rw[ei]
  rw[zg1 hm hlt]
  rfl
 ·rw[yc (show ¬ (0<=s.Ai/\s.Ai<=(w.N.length:Int)-1) from om),y8 (by rfl)]
  exact y18 some (y8 h1).symm
theorem z85 (h:VW w) (hc:s.B.length<=1000000) (ho:s.Op.B.length<=1000000):F_q4c w s=some (stepW w s):=by
 simp only[F_q4c,S_q4c,Scr.den,zvr,zvs]
 by_cases k1:1<=s.U/\s.U<=4
 ·rw[y8 (by rw[y9]; omega),zl4 h hc k1]
  rfl
 rw[y7 (by rw[y9]; omega)]
 by_cases k2:5<=s.U/\s.U<=8
 ·rw[y8 (by rw[y9]; omega),zvt h ho k2,z8w k2]
  rfl
 rw[y7 (by rw[y9]; omega)]
 by_cases k3:9<=s.U/\s.U<=11
 ·rw[y8 (by rw[y9]; omega),zul h k3,z4f k3]
  rfl
 rw[y7 (by rw[y9]; omega),z8x om]
 rfl
theorem zl5 (hs:J13.Small t) (k:Int) (c:Y8) (y:Int):F_q6r t k c y=some (J13.tellM t k c y):=by
 simp only[F_q6r,S_q6r,Scr.den,J13.r13_find_eq hs,obind]
 unfold J13.tellM J13.findM
 by_cases h1:J13.TOk t
 ·simp only[show ¬ ¬ J13.TOk t from fun h=>h h1,y10]
  by_cases h2:J13.hasP t.E c y=true/\1<=k/\k<=t.O
  ·have hlt:=(J13.pix_lt h2.1).1
   have hp:=h1.potAt h2.1
   have l1:=hp.2.2.2.1.1.1
   have l3:=hp.2.2.2.1.2.2.1.1
   have e0:=h1.1
   have h3:=h2.2
   simp only[show ¬ ¬ (J13.hasP t.E c y=true/\1<=k/\k<=t.O) from fun h=>h h2,y10]
   rw[y7 (show ¬ ((0:Int) != 0)=true from sj),wrapId (n:=k-1) om om,yg,show t.E.getD (J13.pix t.E c y) dF=J13.potAt t c y from rfl,z7 ⟨om,hlt,om,om,om,trivial⟩]
   rfl
  ·simp only[h2,ym,y17]; rfl
 ·simp only[h1,ym,y17]; rfl
theorem z8k (hl:w.N.length<=200) (m:TMe):F_q4i w m=some (sendS w m 0):=by
 simp only[F_q4i,S_q4i,Scr.den]
 by_cases h2:w.N.length=200
 ·rw[y8 (by simp[h2]),z5j h2]
  rfl
 ·rw[y7 sk,z4u h2,Gb,z7 ⟨by rw[yp]; simp; omega,trivial⟩]
theorem z6a (hl:w.J.length<=6) (hk:k<w.J.length) (hj:j.Z=(k:Int)+1):F_q40 w j=some (keepS w k j 0).1:=by
 have ew:i64.wrap (j.Z-1)=(k:Int):=by rw[hj,wrapId om om]; omega
 simp only[F_q40,S_q40,Scr.den,ew,yg,yo]
 rw[z2s,Ga,z7 ⟨om,hk,hk,trivial⟩,z7 ⟨by rw[yl]; omega,trivial⟩]
theorem z4g (hl:w.N.length<=200) (hi:i<w.N.length):F_q4j w (i:Int)=some (loseW w i):=by
 simp only[F_q4j,S_q4j,Scr.den]
 have e1:i64.wrap ((i:Int)+1)=((i+1:Nat):Int):=wrapId om om
 have e2:w.N.take i++w.N.drop (i+1)=w.N.eraseIdx i:=(List.eraseIdx_eq_take_drop_succ ..).symm
 have l1:(w.N.take i).length<=200:=by rw[y1k]; omega
 have l2:(w.N.drop (i+1)).length<=200:=by rw[y2v]; omega
 have l3:(w.N.eraseIdx i).length<=200:=y2a (y3n ..) hl
 rw[e1]
 simp only[yg,e2]
 rw[z7 ⟨om,om,om,om,om,om,trivial⟩,Ga]
 rfl
theorem zl6 (h:VW w) (ho:s.Op.B.length<=1000000) (_hk:5<=s.U/\s.U<=8):F_q6w w s=some (actS w s):=by
 have hl:=h.len
 simp only[F_q6w,S_q6w,Scr.den,F_q2w,S_q2w,zd,obind]
 by_cases h1:1<=s.Z/\s.Z<=w.J.length
 ·have ew:i64.wrap (s.Z-1)=s.Z-1:=wrapId om om
  have hlt:(s.Z-1).toNat<w.J.length:=om
  obtain⟨q1,q2,_⟩:=h.2.2.2.1 _ hlt
  rw[y7 sk,ew,Gb]
  simp only[show w.J.getD (s.Z-1).toNat dF=jAt w (s.Z-1).toNat from rfl]
  refine y1s ?_ (y18 some (y7 fun g=>g h1).symm)
  by_cases c5:s.U=5
  ·refine y1s ?_ (y18 some (y8 c5).symm)
   rw[y7 (by simp[c5]),y7 (by simp[c5]),y8 (by simp[c5])]
   by_cases c8:s.Op.U=8
   ·refine y1s ?_ (y18 some (y8 c8).symm)
    rw[y8 (by simp[c8])]
    rfl
   ·refine y1s ?_ (y18 some (y7 c8).symm)
    rw[y7 (by simpa using c8),zaa q1 ho]
    simp only[obind]
    by_cases e0:(appendS (jAt w (s.Z-1).toNat) s.Op).2=0
    ·rw[y7 (by rw[e0]; decide),z6a hl.2 hlt (by rw[z6t e0,q2]),e0]
     rfl
    ·rw[y8 (by simpa using e0),z43 e0]
     rfl
  refine y1s ?_ (y18 some (y7 c5).symm)
  by_cases c6:s.U=6
  ·refine y1s ?_ (y18 some (y8 c6).symm)
   rw[y8 (by simp[c6]),zjt q1]
   simp only[obind]
   rw[z6a (j:=flushJ (jAt w (s.Z-1).toNat)) hl.2 hlt q2]
   rfl
  refine y1s ?_ (y18 some (y7 c6).symm)
  rw[y7 (by simpa using c6)]
  by_cases c7:s.U=7
  ·refine y1s ?_ (y18 some (y8 c7).symm)
   rw[y8 (by simp[c7]),zju q1]
   simp only[obind]
   rw[z6a (j:=crashJ (jAt w (s.Z-1).toNat)) hl.2 hlt q2]
   rfl
  refine y1s ?_ (y18 some (y7 c7).symm)
  rw[y7 (by simpa using c7),y7 (by simpa using c5),zhx q1]
  simp only[obind]
  rw[zhv q1.stb.smO]
  simp only[obind]
  by_cases e0:(reportS (stbJ (jAt w (s.Z-1).toNat)) s.B s.D).2=0
  ·rw[y7 (by rw[e0]; decide),z8k h.2.2.1]
   unfold stW
   rw[e0]
   rfl
  ·rw[y8 (by simpa using e0)]
   unfold stW
   rw[z55 e0]
   rfl
 ·rw[y8 sk]
  exact y18 some (y8 h1).symm
theorem zg2 (h:VW w) (hi:i<w.N.length):F_q6y w (i:Int)=some (delivS w i):=by
 have hl:=h.len
 have hm:=h.2.2.1
 have hml:=h.msgLen (z8 hi)
 have hmo:=(h.2.2.2.2 _ (z8 hi)).2
 have h2:=h.2.1
 simp only[F_q6y,S_q6y,Scr.den,yg]
 rw[z7 ⟨om,hi,trivial⟩]
 unfold delivS mAt
 generalize w.N.getD i dF=m at hml hmo
 by_cases h0:m.To=0
 ·refine y1s ?_ (y18 some (y8 h0).symm)
  rw[y8 (by simp[h0]),J13.r13_Hear_eq h.small]
  simp only[obind]
  by_cases h1:(J13.hearM w.K m).2=0
  ·refine y1s ?_ (y18 some (y7 (fun k=>k h1)).symm)
   rw[y7 (by simp[h1])]
   simp only[zb]
   rw[z4g (w:=⟨(J13.hearM w.K m).1,w.J,w.N⟩) hm hi]
   rfl
  ·refine y1s ?_ (y18 some (y8 h1).symm)
   rw[y8 (by simpa using h1)]
   rfl
 ·have hto:1<=m.To/\m.To<=w.K.O:=by
   rcases hmo with ⟨_,q,_⟩ | ⟨_,_,q,_⟩
   ·exact q
   ·exact absurd q h0
  have hk:(m.To-1).toNat<w.J.length:=om
  obtain⟨q1,q2,_⟩:=h.2.2.2.1 _ hk
  have ew:i64.wrap (m.To-1)=m.To-1:=wrapId om om
  refine y1s ?_ (y18 some (y7 h0).symm)
  rw[y7 (by simpa using h0),ew]
  simp only[show w.J.getD (m.To-1).toNat dF=jAt w (m.To-1).toNat from rfl]
  rw[show (⟨8,m.B,m.D,0,0,0,0,0,m.A,m.G⟩:TOp)=hearOp m from rfl,zaa q1 (p:=hearOp m) hml]
  simp only[obind]
  rw[z7 ⟨om,hk,trivial⟩]
  by_cases e0:(appendS (jAt w (m.To-1).toNat) (hearOp m)).2=0
  ·rw[y7 (by rw[e0]; decide),z6a hl.2 hk (by rw[z6t e0,q2]),e0]
   simp only[obind,zb]
   rw[z4g (w:=(keepS w (m.To-1).toNat (appendS (jAt w (m.To-1).toNat) (hearOp m)).1 0).1) (by rw[z2s]; exact hm) (by rw[z2s]; exact hi),z2s,z2s]
   rfl
  ·rw[y8 (by simpa using e0),z43 e0]
   rfl
theorem zl7 (h:VW w) (_hk:9<=s.U/\s.U<=11):F_q6z w s=some (mailS w s):=by
 have hm:=h.2.2.1
 simp only[F_q6z,S_q6z,Scr.den,z9]
 by_cases h1:0<=s.Ai/\s.Ai<w.N.length
 ·have hlt:s.Ai.toNat<w.N.length:=om
  have ei:s.Ai=(s.Ai.toNat:Int):=om
  rw[y7 sk]
  refine y1s ?_ (y18 some (y7 fun g=>g h1).symm)
  by_cases c9:s.U=9
  ·refine y1s ?_ (y18 some (y8 c9).symm)
   rw[y8 (by simp[c9])]
   conv=>lhs; rw[ei]
   rw[zg2 h hlt]
   rfl
  refine y1s ?_ (y18 some (y7 c9).symm)
  rw[y7 (by simpa using c9)]
  by_cases c11:s.U=11
  ·refine y1s ?_ (y18 some (y8 c11).symm)
   rw[y8 (by simp[c11]),z8k hm]
   simp only[obind]
   rw[z7 ⟨h1.1,hlt,trivial⟩]
   rfl
  refine y1s ?_ (y18 some (y7 c11).symm)
  rw[y7 (by simpa using c11)]
  conv=>lhs; rw[ei]
  rw[z4g hm hlt]
  rfl
 ·rw[y8 sk]
  exact y18 some (y8 h1).symm
theorem z44 (h:VW w) (hc:s.B.length<=1000000) (ho:s.Op.B.length<=1000000):F_q1s w s=some (stepW w s):=by
 have hs:=h.small
 simp only[F_q1s,S_q1s,Scr.den,zvr,zvs,z2c h,obind]
 rw[y7 dk]
 by_cases k:s.U=1
 ·rw[z73 k,<- z5y,y8 (by simp[k]),J13.r13_Set_eq hs hc]
  rfl
 rw[y7 (by simp[k])]
 by_cases k:s.U=2
 ·rw[z74 k,<- z5y,y8 (by simp[k]),J13.r13_Grant_eq hs]
  rfl
 rw[y7 (by simp[k])]
 by_cases k:s.U=3
 ·rw[z8v k,<- z5y,y8 (by simp[k]),J13.r13_Ask_eq hs]
  rfl
 rw[y7 (by simp[k])]
 by_cases k:s.U=4
 ·rw[z75 k,y8 (by simp[k]),zl5 hs]
  simp only[obind]
  by_cases e0:(J13.tellM w.K s.Z s.B s.D).2=0
  ·rw[y7 (by rw[e0]; decide),z8k h.2.2.1,e0]
   rfl
  ·rw[y8 (by simpa using e0),z55 e0]
   rfl
 rw[y7 (by simp[k])]
 by_cases k2:5<=s.U/\s.U<=8
 ·rw[y8 (by rw[y9]; omega),zl6 h ho k2,z8w k2]
  rfl
 rw[y7 (by rw[y9]; omega)]
 by_cases k3:9<=s.U/\s.U<=11
 ·rw[y8 (by rw[y9]; omega),zl7 h k3,z4f k3]
  rfl
 rw[y7 (by rw[y9]; omega),z8x om]
 rfl
theorem z76 {l:List Int} (h:l.length<=k):l.getD k dF=dF:=by simp[List.getD_eq_getElem?_getD,List.getElem?_eq_none h]
variable {p:TPo}
theorem z8y (h:J13.TOk t) (hp:p∈t.E):J13.hasP t.E p.B p.D=true/\J13.potAt t p.B p.D=p:=by
 have hh:J13.hasP t.E p.B p.D=true:=J13.has_iff.2 ⟨p,hp,rfl,rfl⟩
 refine⟨hh,?_⟩
 obtain⟨k1,k2,k3⟩:=J13.pix_lt hh
 obtain⟨i,hi,e⟩:=z13 hp
 have g1:=h.good _ (z8 k1)
 have g2:=h.good _ hp
 have e0:J13.cmpP (t.E.getD (J13.pix t.E p.B p.D) dF) p=0:=(J13.cmpP_eq g1.1 g2.1).2 ⟨k2,k3⟩
 have e0':J13.cmpP p (t.E.getD (J13.pix t.E p.B p.D) dF)=0:=(J13.cmpP_eq g2.1 g1.1).2 ⟨k2.symm,k3.symm⟩
 rcases y3v (J13.pix t.E p.B p.D) i with hlt | heq | hgt
 ·have:=h.srt.lt h.good hlt hi
  rw[e,e0] at this
  omega
 ·show t.E.getD (J13.pix t.E p.B p.D) dF=p
  rw[heq,e]
 ·have:=h.srt.lt h.good hgt k1
  rw[e,e0'] at this
  omega
theorem zbh (hp:J13.hasP t.E c y=true) (hc:p.B=c) (hy:p.D=y) (hk:J13.TOk (J13.putP t c y p)) :
  J13.potAt (J13.putP t c y p) c y=p/\∀ c' y',(J13.hasP (J13.putP t c y p).E c' y'=J13.hasP t.E c' y')/\(J13.hasP t.E c' y'=true->¬ (c'=c/\y'=y)->J13.potAt (J13.putP t c y p) c' y'=J13.potAt t c' y'):=by
 obtain⟨k1,k2,k3⟩:=J13.pix_lt hp
 have hm:p∈(J13.putP t c y p).E:=List.mem_set k1 p
 have h1:=z8y hk hm
 rw[hc,hy] at h1
 have hold:∀ c' y',J13.hasP t.E c' y'=true->¬ (c'=c/\y'=y)->J13.potAt t c' y'∈(J13.putP t c y p).E:=fun c' y' h hn=>by
  obtain⟨q1,q2,q3⟩:=J13.pix_lt h
  have hne:J13.pix t.E c y≠J13.pix t.E c' y':=fun e=>by
   rw[<- e] at q2 q3
   exact hn ⟨q2.symm.trans k2,q3.symm.trans k3⟩
  show t.E.getD (J13.pix t.E c' y') dF∈t.E.set (J13.pix t.E c y) p
  rw[z18 q1,List.mem_iff_getElem]
  exact⟨J13.pix t.E c' y',by rw[yl]; exact q1,by rw[List.getElem_set_ne hne]⟩
 refine⟨h1.2,fun c' y'=>⟨?_,fun h hn=>?_⟩⟩
 ·rw[y1q]
  by_cases e:c'=c/\y'=y
  ·obtain⟨rfl,rfl⟩:=e
   exact⟨fun _=>hp,fun _=>h1.1⟩
  constructor
  ·intro h
   obtain⟨x,hx,e1,e2⟩:=J13.has_iff.1 h
   rcases y1v hx with h3 | h3
   ·exact J13.has_iff.2 ⟨x,h3,e1,e2⟩
   ·subst h3
    exact absurd ⟨e1.symm.trans hc,e2.symm.trans hy⟩ e
  ·intro h
   have:=J13.potAt_cy h
   exact J13.has_iff.2 ⟨_,hold c' y' h e,this.1,this.2⟩
 ·have h2:=z8y hk (hold c' y' h hn)
  have:=J13.potAt_cy h
  rw[this.1,this.2] at h2
  exact h2.2
theorem zqf {r:TPo} (hi:i<=t.E.length) (hk:J13.TOk ⟨t.O,insL t.E i r⟩) :
  (J13.hasP (insL t.E i r) r.B r.D=true/\J13.potAt ⟨t.O,insL t.E i r⟩ r.B r.D=r)/\∀ c y,(J13.hasP (insL t.E i r) c y=true->J13.hasP t.E c y=true\/(c=r.B/\y=r.D))/\(J13.hasP t.E c y=true->J13.hasP (insL t.E i r) c y=true/\J13.potAt ⟨t.O,insL t.E i r⟩ c y=J13.potAt t c y):=by
 have hr:r∈insL t.E i r:=by
  have:=z8 (l:=insL t.E i r) (i:=i) (by rw[zu]; omega)
  rwa [J13.insL_at hi] at this
 have hold:∀ x∈t.E,x∈insL t.E i r:=fun x hx=>by
  obtain⟨j,hj,rfl⟩:=z13 hx
  by_cases c:j<i
  ·have:=z8 (l:=insL t.E i r) (i:=j) (by rw[zu]; omega)
   rwa [z1s hi,y8 c] at this
  ·have:=z8 (l:=insL t.E i r) (i:=j+1) (by rw[zu]; omega)
   rwa [z1s hi,y7 om,y7 om] at this
 have hnew:∀ x∈insL t.E i r,x∈t.E\/x=r:=fun x hx=>by
  obtain⟨j,hj,rfl⟩:=z13 hx
  rw[zu] at hj
  rw[z1s hi]
  by_cases c:j<i
  ·rw[y8 c]; exact .inl (z8 om)
  ·rw[y7 c]
   by_cases c2:j=i
   ·rw[y8 c2]; exact .inr rfl
   ·rw[y7 c2]; exact .inl (z8 om)
 have h1:=z8y hk (p:=r) hr
 refine⟨h1,fun c y=>⟨fun h=>?_,fun h=>?_⟩⟩
 ·obtain⟨x,hx,e1,e2⟩:=J13.has_iff.1 h
  rcases hnew x hx with h3 | rfl
  ·exact .inl (J13.has_iff.2 ⟨x,h3,e1,e2⟩)
  ·exact .inr ⟨e1.symm,e2.symm⟩
 ·have hx:J13.potAt t c y∈t.E:=z8 (J13.pix_lt h).1
  have h2:=z8y hk (p:=J13.potAt t c y) (hold _ hx)
  have:=J13.potAt_cy h
  rwa [this.1,this.2] at h2
def LeP (p q:TPo):Prop:=∀ k,nthN p.A k<=nthN q.A k/\nthN p.G k<=nthN q.G k
theorem LeP.refl (p:TPo):LeP p p:=fun _=>⟨y1h _,y1h _⟩
def GT (t t':TTr):Prop:=J13.TOk t'/\t'.O=t.O/\∀ c y,J13.hasP t.E c y=true->J13.hasP t'.E c y=true/\LeP (J13.potAt t c y) (J13.potAt t' c y)
def HE (t t':TTr):Prop:=∀ c y k,J13.hasP t'.E c y=true->(J13.hasP t.E c y=true/\nthN (J13.potAt t' c y).H k=nthN (J13.potAt t c y).H k)\/nthN (J13.potAt t' c y).H k=0
theorem zep (hp:J13.hasP t.E c y=true) (hc:p.B=c) (hy:p.D=y) (hk:J13.TOk (J13.putP t c y p)) (hl:LeP (J13.potAt t c y) p):GT t (J13.putP t c y p):=by
 obtain⟨h1,h2⟩:=zbh hp hc hy hk
 refine⟨hk,rfl,fun c' y' h=>⟨((h2 c' y').1).trans h,?_⟩⟩
 by_cases e:c'=c/\y'=y
 ·obtain⟨rfl,rfl⟩:=e
  rw[h1]
  exact hl
 ·rw[(h2 c' y').2 h e]
  exact LeP.refl _
theorem zjv (hp:J13.hasP t.E c y=true) (hc:p.B=c) (hy:p.D=y) (hk:J13.TOk (J13.putP t c y p)) (hl:p.H=(J13.potAt t c y).H):HE t (J13.putP t c y p):=by
 obtain⟨h1,h2⟩:=zbh hp hc hy hk
 intro c' y' k h
 rw[(h2 c' y').1] at h
 refine .inl ⟨h,?_⟩
 by_cases e:c'=c/\y'=y
 ·obtain⟨rfl,rfl⟩:=e
  rw[h1,hl]
 ·rw[(h2 c' y').2 h e]
theorem zqg (n:Int) (k:Nat):nthN (J13.zeros n) k=0:=by
 unfold nthN J13.zeros
 rw[ya,List.getElem?_replicate]
 split <;> rfl
variable {x:Int}
theorem zvu (h:(J13.setM t c y x).2=0):GT t (J13.setM t c y x).1/\HE t (J13.setM t c y x).1:=by
 have hk:=(J13.set_ok h).2
 unfold J13.setM at h hk |-
 by_cases h1:J13.TOk t
 ·simp only[show ¬ ¬ J13.TOk t from fun h=>h h1,y10] at h hk |-
  by_cases h2:good c=true
  ·simp only[show ¬ ¬ good c=true from fun h=>h h2,y10] at h hk |-
   by_cases h3:(0<=y/\y<=99)/\-1000000000000000<=x/\x<=1000000000000000
   ·simp only[show ¬ ¬ ((0<=y/\y<=99)/\-1000000000000000<=x/\x<=1000000000000000) from fun h=>h h3,y10] at h hk |-
    by_cases h5:J13.hasP t.E c y=true
    ·rw[y8 h5] at hk |-
     have hcy:=J13.potAt_cy h5
     exact⟨zep h5 (p:=J13.withT (J13.potAt t c y) x) hcy.1 hcy.2 hk fun _=>⟨y1h _,y1h _⟩,zjv h5 (p:=J13.withT (J13.potAt t c y) x) hcy.1 hcy.2 hk rfl⟩
    ·rw[y7 h5] at h hk |-
     by_cases h6:t.E.length=60
     ·rw[y8 h6] at h; cases h
     ·rw[y7 h6] at hk |-
      obtain⟨g1,g2⟩:=zqf (r:=J13.newP t.O c y x) (J13.posP_le _ _) hk
      refine⟨⟨hk,rfl,fun c' y' h=>?_⟩,fun c' y' k h=>?_⟩
      ·obtain⟨q1,q2⟩:=(g2 c' y').2 h
       refine⟨q1,?_⟩
       rw[q2]
       exact LeP.refl _
      ·rcases (g2 c' y').1 h with h7 | ⟨h7,h8⟩
       ·refine .inl ⟨h7,?_⟩
        rw[((g2 c' y').2 h7).2]
       ·refine .inr ?_
        rw[h7,h8,g1.2]
        exact zqg _ _
   ·rw[y8 h3] at h; cases h
  ·rw[y8 (show ¬ good c=true from h2)] at h; cases h
 ·rw[y8 h1] at h; cases h
theorem zum {G a:List Int} (hl:a.length=G.length) (ha:∀ x∈a,J13.tot x) (k:Nat):nthN G k<=nthN (J13.addN G a a.length) k:=by
 unfold nthN
 by_cases hk:k<G.length
 ·have:=ha _ (z8 (show k<a.length from om))
  unfold J13.tot at this
  rw[J13.addN_get hk,y8 om]
  omega
 ·rw[z76 om,z76 (by rw[J13.addN_length]; omega)]
  exact y1h _
theorem zsh {k:Int} (h:(J13.grantM t k c y x).2=0):GT t (J13.grantM t k c y x).1/\HE t (J13.grantM t k c y x).1:=by
 have hk:=(J13.grant_ok h).2
 unfold J13.grantM at h hk |-
 by_cases h1:J13.TOk t
 ·simp only[show ¬ ¬ J13.TOk t from fun h=>h h1,y10] at h hk |-
  by_cases h2:J13.hasP t.E c y=true
  ·simp only[show ¬ ¬ J13.hasP t.E c y=true from fun h=>h h2,y10] at h hk |-
   by_cases h3:1<=k/\k<=t.O
   ·simp only[show ¬ ¬ (1<=k/\k<=t.O) from fun h=>h h3,y10] at h hk |-
    by_cases h4:1<=x/\x<=1000000000000000
    ·simp only[show ¬ ¬ (1<=x/\x<=1000000000000000) from fun h=>h h4,y10] at h hk |-
     by_cases h5:(J13.giveV (J13.potAt t c y).T (J13.potAt t c y) (J13.oneHot (J13.potAt t c y).A.length (k-1).toNat x)).1=0
     ·rw[y7 (show ¬ _≠_ from fun h=>h h5)] at hk |-
      have hcy:=J13.potAt_cy h2
      have hg:=(J13.give_ok (h1.potAt h2) (J13.oneHot_tot h4) J13.oneHot_length h5).1
      refine⟨zep h2 (p:=J13.withG _ _) hcy.1 hcy.2 hk fun j=>⟨?_,y1h _⟩,zjv h2 (p:=J13.withG _ _) hcy.1 hcy.2 hk rfl⟩
      rw[hg]
      exact zum J13.oneHot_length (J13.oneHot_tot h4) j
     ·rw[y8 h5] at h; exact absurd h h5
    ·simp only[h4,ym,y17] at h; cases h
   ·simp only[h3,ym,y17] at h; cases h
  ·simp only[h2,ym,y17,yu] at h; cases h
 ·simp only[h1,ym,y17] at h; cases h
theorem zvv {l:List Int} {k:Int} (hx:J13.nth l k<=x) (j:Nat):nthN l j<=nthN (J13.upd l k x) j:=by
 unfold nthN
 by_cases hj:j<l.length
 ·rw[J13.upd_get hj]
  split
  ·rename_i e
   subst e
   exact hx
  ·exact y1h _
 ·rw[z76 om,z76 (by rw[J13.upd_length]; omega)]
  exact y1h _
theorem zvw {k:Int} (h:(J13.askM t k c y x).2=0):GT t (J13.askM t k c y x).1/\HE t (J13.askM t k c y x).1:=by
 have hk:=(J13.ask_ok h).2
 unfold J13.askM at h hk |-
 by_cases h1:J13.TOk t
 ·simp only[show ¬ ¬ J13.TOk t from fun h=>h h1,y10] at h hk |-
  by_cases h2:J13.hasP t.E c y=true
  ·simp only[show ¬ ¬ J13.hasP t.E c y=true from fun h=>h h2,y10] at h hk |-
   by_cases h3:1<=k/\k<=t.O
   ·simp only[show ¬ ¬ (1<=k/\k<=t.O) from fun h=>h h3,y10] at h hk |-
    by_cases h4:1<=x/\x<=1000000000000000
    ·simp only[show ¬ ¬ (1<=x/\x<=1000000000000000) from fun h=>h h4,y10] at h hk |-
     by_cases h5:J13.nth (J13.potAt t c y).A k<J13.nth (J13.potAt t c y).G k+x
     ·rw[y8 h5] at h; cases h
     ·rw[y7 h5] at hk |-
      have hcy:=J13.potAt_cy h2
      refine⟨zep h2 (p:=J13.withA _ _) hcy.1 hcy.2 hk fun j=>⟨y1h _,?_⟩,zjv h2 (p:=J13.withA _ _) hcy.1 hcy.2 hk rfl⟩
      exact zvv om j
    ·simp only[h4,ym,y17] at h; cases h
   ·simp only[h3,ym,y17] at h; cases h
  ·simp only[h2,ym,y17,yu] at h; cases h
 ·simp only[h1,ym,y17] at h; cases h
theorem zm7 (h:(J13.hearM t m).2=0):GT t (J13.hearM t m).1/\(1<=m.Aa/\m.Aa<=t.O)/\∀ c y k,J13.hasP (J13.hearM t m).1.E c y=true->J13.hasP t.E c y=true /\
  (nthN (J13.potAt (J13.hearM t m).1 c y).H k=nthN (J13.potAt t c y).H k\/(c=m.B/\y=m.D/\k=(m.Aa-1).toNat/\nthN (J13.potAt (J13.hearM t m).1 c y).H k=max (nthN (J13.potAt t c y).H k) m.S)):=by
 have hk:=(J13.hear_ok h).2
 unfold J13.hearM at h hk |-
 by_cases h0:m.To=0
 ·simp only[show ¬ m.To≠0 from fun h=>h h0,y10] at h hk |-
  by_cases h1:J13.TOk t
  ·simp only[show ¬ ¬ J13.TOk t from fun h=>h h1,y10] at h hk |-
   by_cases h2:J13.hasP t.E m.B m.D=true
   ·simp only[show ¬ ¬ J13.hasP t.E m.B m.D=true from fun h=>h h2,y10] at h hk |-
    by_cases h3:1<=m.Aa/\m.Aa<=t.O
    ·simp only[show ¬ ¬ (1<=m.Aa/\m.Aa<=t.O) from fun h=>h h3,y10] at h hk |-
     by_cases h4:(0<=m.S/\m.S<=J13.nth (J13.potAt t m.B m.D).A m.Aa)/\J13.tot m.P
     ·simp only[show ¬ ¬ ((0<=m.S/\m.S<=J13.nth (J13.potAt t m.B m.D).A m.Aa)/\J13.tot m.P) from fun h=>h h4,y10] at h hk |-
      have hcy:=J13.potAt_cy h2
      have hg:=zep h2 (p:=J13.withH (J13.potAt t m.B m.D) (J13.upd (J13.potAt t m.B m.D).H m.Aa (max (J13.nth (J13.potAt t m.B m.D).H m.Aa) m.S)) (J13.upd (J13.potAt t m.B m.D).P m.Aa m.P)) hcy.1 hcy.2 hk fun j=>⟨y1h _,y1h _⟩
      obtain⟨p1,p2⟩:=zbh h2 (p:=J13.withH (J13.potAt t m.B m.D) (J13.upd (J13.potAt t m.B m.D).H m.Aa (max (J13.nth (J13.potAt t m.B m.D).H m.Aa) m.S)) (J13.upd (J13.potAt t m.B m.D).P m.Aa m.P)) hcy.1 hcy.2 hk
      refine⟨hg,h3,fun c y k h=>?_⟩
      rw[(p2 c y).1] at h
      refine⟨h,?_⟩
      by_cases e:c=m.B/\y=m.D
      ·obtain⟨rfl,rfl⟩:=e
       rw[p1]
       show nthN (J13.upd (J13.potAt t m.B m.D).H m.Aa _) k=_\/(_/\_/\_/\nthN (J13.upd (J13.potAt t m.B m.D).H m.Aa _) k=_)
       unfold nthN
       by_cases hj:k<(J13.potAt t m.B m.D).H.length
       ·rw[J13.upd_get hj]
        by_cases e:k=(m.Aa-1).toNat
        ·rw[y8 e]
         refine .inr ⟨rfl,rfl,e,?_⟩
         rw[e]
         rfl
        ·rw[y7 e]
         exact .inl rfl
       ·rw[z76 (l:=J13.upd _ _ _) (by rw[J13.upd_length]; omega),z76 om]
        exact .inl rfl
      ·rw[(p2 c y).2 h e]
       exact .inl rfl
     ·simp only[h4,ym,y17] at h; cases h
    ·simp only[h3,ym,y17] at h; cases h
   ·simp only[h2,ym,y17,yu] at h; cases h
  ·simp only[h1,ym,y17] at h; cases h
 ·rw[y8 (show m.To≠0 from h0)] at h; cases h
theorem z4v (_ha:VO a) (h:KnownJ t a b k) (hr:hasR a.L c y=true):J13.hasP t.E c y=true/\(rightV a.L c y).A<=nthN (J13.potAt t c y).A k/\(rightV a.L c y).G<=nthN (J13.potAt t c y).G k:=by
 obtain⟨h1,h2,h3⟩:=z31 hr
 have:=h.1 _ h1
 rwa [h2,h3] at this
theorem z9y (ha:VO a) (ht:J13.TOk t) (h:∀ c y,hasR a.L c y=true->J13.hasP t.E c y=true/\(rightV a.L c y).A<=nthN (J13.potAt t c y).A k/\(rightV a.L c y).G<=nthN (J13.potAt t c y).G k) (h':∀ c y,J13.hasP t.E c y=true->nthN (J13.potAt t c y).H k<=(rightV b.L c y).S):KnownJ t a b k:=by
 refine⟨fun r hr=>?_,fun p hp=>?_⟩
 ·have:=h r.B r.D (has_iff.2 ⟨r,hr,rfl,rfl⟩)
  rwa [zba ha.srt ha.ok hr] at this
 ·obtain⟨h1,h2⟩:=z8y ht hp
  have:=h' _ _ h1
  rwa [h2] at this
theorem z5z (h:KnownJ t a b k) (hp:J13.hasP t.E c y=true):nthN (J13.potAt t c y).H k<=(rightV b.L c y).S:=by
 have h1:=J13.potAt_cy hp
 have:=h.2 _ (z8 (J13.pix_lt hp).1)
 rw[show t.E.getD (J13.pix t.E c y) dF=J13.potAt t c y from rfl,h1.1,h1.2] at this
 exact this
theorem zvx {t':TTr} (g:GT t t') {f:Nat->TOf} (h:MsgOk t f m):MsgOk t' f m:=by
 obtain⟨h1,h2⟩:=h
 obtain⟨g1,g2⟩:=g.2.2 _ _ h1
 refine⟨g1,?_⟩
 rcases h2 with ⟨h0,q1,q2,q3,q4⟩ | ⟨h0,q1,q2⟩
 ·have:=g2 (m.To-1).toNat
  exact .inl ⟨h0,by rw[g.2.1]; exact q1,⟨q2.1,om⟩,⟨q3.1,om⟩,q4⟩
 ·exact .inr ⟨h0,by rw[g.2.1]; exact q1,q2⟩
theorem zct (h:VW w) (g:GT w.K t) (hh:∀ c y k,J13.hasP t.E c y=true->k<w.J.length->nthN (J13.potAt t c y).H k<=(rightV (stW w k).L c y).S):VW ⟨t,w.J,w.N⟩:=by
 obtain⟨h1,h2,h3,h4,h5⟩:=h
 refine⟨g.1,by show (w.J.length:Int)=t.O; rw[g.2.1]; exact h2,h3,fun k hk=>?_,fun m hm=>zvx g (h5 m hm)⟩
 obtain⟨q1,q2,q3⟩:=h4 k hk
 refine⟨q1,q2,z9y q1.now g.1 (fun c y hr=>?_) fun c y hp=>hh c y k hp hk⟩
 obtain⟨z1,z2,z3⟩:=z4v q1.now q3 hr
 obtain⟨g1,g2⟩:=g.2.2 _ _ z1
 have:=g2 k
 have z2':(rightV (noW w k).L c y).A<=_:=z2
 have z3':(rightV (noW w k).L c y).G<=_:=z3
 exact⟨g1,y3c z2 this.1,y3c z3 this.2⟩
theorem zwn (h:VW w) (g:GT w.K t) (e:HE w.K t):VW ⟨t,w.J,w.N⟩:=zct h g fun c y k hp hk=>by
 obtain⟨q1,q2,q3⟩:=h.2.2.2.1 k hk
 rcases e c y k hp with ⟨h1,h2⟩ | h2
 ·rw[h2]
  exact z5z q3 h1
 ·rw[h2]
  exact (z51 q1.stb.ok c y).1
theorem zm8 (h:VW w) (hl:l.length<=200) (hm:∀ m∈l,MsgOk w.K (stW w) m):VW ⟨w.K,w.J,l⟩:=⟨h.1,h.2.1,hl,h.2.2.2.1,hm⟩
theorem zc4 (h:VW w) (i:Nat):VW (loseW w i):=zm8 h (y2a (y3n ..) h.2.2.1) fun m hm=>h.2.2.2.2 m (List.mem_of_mem_eraseIdx hm)
theorem zun (h:VW w) (hm:MsgOk w.K (stW w) m) (hl:w.N.length≠200):VW ⟨w.K,w.J,w.N++[m]⟩:=zm8 h (by have:=h.2.2.1; rw[yp]; simp; omega) fun x hx=>by
 rcases y1p.1 hx with hx | hx
 ·exact h.2.2.2.2 x hx
 ·rw[y2b.1 hx]; exact hm
theorem zc5 (hi:i<w.J.length):(w.J.set k j).getD i dF=if i=k then j else jAt w i:=by
 rw[ya,y4v]
 by_cases h:k=i
 ·subst h; simp[hi]
 ·rw[y7 h,y7 fun e=>h e.symm]
  exact (ya ..).symm
theorem z9z (h:VW w) (hk:k<w.J.length) (hj:VJ j) (ho:j.Z=(k:Int)+1) (hn:KnownJ w.K (nowJ j) (stbJ j) k) (hl:LeO (stW w k) (stbJ j)):VW ⟨w.K,w.J.set k j,w.N⟩:=by
 obtain⟨h1,h2,h3,h4,h5⟩:=h
 refine⟨h1,by show ((w.J.set k j).length:Int)=_; rw[yl]; exact h2,h3,fun i hi=>?_,fun m hm=>?_⟩
 ·have hi:i<(w.J.set k j).length:=hi
  rw[yl] at hi
  show VJ ((w.J.set k j).getD i dF)/\((w.J.set k j).getD i dF).Z=_/\KnownJ w.K (nowJ ((w.J.set k j).getD i dF)) (stbJ ((w.J.set k j).getD i dF)) i
  rw[zc5 hi]
  by_cases e:i=k
  ·subst e
   rw[y8 rfl]
   exact⟨hj,ho,hn⟩
  ·rw[y7 e]
   exact h4 i hi
 ·obtain⟨q1,q2⟩:=h5 m hm
  refine⟨q1,q2.imp_right fun⟨q3,q4,q5,q6,q7⟩=>⟨q3,q4,q5,⟨q6.1,?_⟩,q7⟩⟩
  have hi:(m.Aa-1).toNat<w.J.length:=om
  show m.S<=(rightV (stbJ ((w.J.set k j).getD (m.Aa-1).toNat dF)).L m.B m.D).S
  rw[zc5 hi]
  by_cases e:(m.Aa-1).toNat=k
  ·rw[y8 e]
   have:=(hl m.B m.D).2.2.2
   have q6':=q6.2
   rw[e] at q6'
   omega
  ·rw[y7 e]
   exact q6.2
theorem zsi (h:VW w) (hk:k<w.J.length):VW ⟨w.K,w.J.set k (flushJ (jAt w k)),w.N⟩:=by
 obtain⟨q1,q2,q3⟩:=h.2.2.2.1 k hk
 have hle:=zei q1
 refine z9z h hk (zs7 q1) q2 ?_ (by rw[zh2]; exact hle)
 rw[zq0,zh2]
 refine z9y q1.now h.1 (fun c y hr=>z4v q1.now q3 hr) fun c y hp=>?_
 exact y3c (z5z q3 hp) (hle c y).2.2.2
theorem zsj (h:VW w) (hk:k<w.J.length):VW ⟨w.K,w.J.set k (crashJ (jAt w k)),w.N⟩:=by
 obtain⟨q1,q2,q3⟩:=h.2.2.2.1 k hk
 have hle:=zei q1
 refine z9z h hk (zs8 q1) q2 ?_ (by rw[zh3]; exact LeO.refl _)
 rw[zq1,zh3]
 refine z9y q1.stb h.1 (fun c y hr=>?_) fun c y hp=>z5z q3 hp
 obtain⟨l1,l2,l3,_⟩:=hle c y
 obtain⟨z1,z2,z3⟩:=z4v q1.now q3 (l1 hr)
 exact⟨z1,y3c l2 z2,y3c l3 z3⟩
theorem zh6 (h:VW w) (hk:k<w.J.length) {p:TOp} (h0:(appendS (jAt w k) p).2=0) (h8:p.U=8->J13.hasP w.K.E p.B p.D=true/\p.A<=nthN (J13.potAt w.K p.B p.D).A k/\p.Ae<=nthN (J13.potAt w.K p.B p.D).G k) :
  VW ⟨w.K,w.J.set k (appendS (jAt w k) p).1,w.N⟩:=by
 obtain⟨q1,q2,q3⟩:=h.2.2.2.1 k hk
 obtain⟨a1,a2,a3,a4⟩:=zh1 q1 h0
 rw[a2] at a1 |-
 refine z9z h hk a1 q2 ?_ (by rw[zeh q1]; exact LeO.refl _)
 rw[zeg,zeh q1]
 have hk6:=h.len
 have ho:=h.2.1
 refine z9y (z9t a4) h.1 (fun c y hr=>?_) fun c y hp=>z5z q3 hp
 obtain⟨d1,d2,d3,d4,d5⟩:=(z53 a4).2 c y
 rw[d2,d3]
 have hr:=d1.1 hr
 by_cases e:p.U=8/\p.B=c/\p.D=y
 ·obtain⟨e8,rfl,rfl⟩:=e
  obtain⟨z1,z2,z3⟩:=h8 e8
  rw[y8 ⟨e8,rfl,rfl⟩,y8 ⟨e8,rfl,rfl⟩]
  have hp:=h.1.potAt z1
  have hg:=hp.2.2.2.1.1
  have ha:=hp.2.2.2.1.2.2.1
  have t1:=hg.2 _ (z8 (show k<_ by have:=hg.1; omega))
  have t2:=ha.2 _ (z8 (show k<_ by have:=ha.1; omega))
  unfold J13.tot at t1 t2
  unfold nthN at z2 z3 |-
  by_cases hold:hasR (nowJ (jAt w k)).L p.B p.D=true
  ·obtain⟨o1,o2,o3⟩:=z4v q1.now q3 hold
   unfold nthN at o2 o3
   have o2':(rightV (nowJ (jAt w k)).L p.B p.D).A<=_:=o2
   have o3':(rightV (nowJ (jAt w k)).L p.B p.D).G<=_:=o3
   exact⟨z1,om,om⟩
  ·have e0:rightV (nowJ (jAt w k)).L p.B p.D=⟨p.B,p.D,0,0,0⟩:=y7 hold
   rw[e0]
   exact⟨z1,by show max (0:Int) _<=_; omega,by show max (0:Int) _<=_; omega⟩
 ·rw[y7 e,y7 e]
  exact z4v q1.now q3 (hr.resolve_right e)
def z60 (r:TWo×Int):Prop:=(r.2=0/\VW r.1)\/(r.2≠0/\r.1=zWd)
theorem z5k (h:e≠0):z60 (zWd,e):=.inr ⟨h,rfl⟩
theorem zg3 (h:VW w) (hm:e=0->MsgOk w.K (stW w) m):z60 (sendS w m e):=by
 by_cases h0:e=0
 ·subst h0
  by_cases hl:w.N.length=200
  ·rw[z5j hl]; exact z5k dk
  ·rw[z4u hl]; exact .inl ⟨rfl,zun h (hm rfl) hl⟩
 ·rw[z55 h0]; exact z5k h0
theorem zg4 (h:VW w) {r:TTr×Int} (hr:r.2=0->GT w.K r.1/\HE w.K r.1):z60 (tresS w r):=by
 unfold tresS
 by_cases h0:r.2=0
 ·rw[y7 (by simp[h0])]
  obtain⟨g,e⟩:=hr h0
  exact .inl ⟨rfl,zwn h g e⟩
 ·rw[y8 h0]; exact z5k h0
theorem zsk (_h:VW w) {k:Int} (h0:(J13.tellM w.K k c y).2=0):MsgOk w.K (stW w) (J13.tellM w.K k c y).1:=by
 unfold J13.tellM at h0 |-
 by_cases h1:J13.TOk w.K
 ·simp only[show ¬ ¬ J13.TOk w.K from fun h=>h h1,y10] at h0 |-
  by_cases h2:J13.hasP w.K.E c y=true/\1<=k/\k<=w.K.O
  ·simp only[show ¬ ¬ (J13.hasP w.K.E c y=true/\1<=k/\k<=w.K.O) from fun h=>h h2,y10]
   have hp:=h1.potAt h2.1
   have t1:=J13.nth_tot hp.2.2.2.1.1 h2.2
   have t2:=J13.nth_tot hp.2.2.2.1.2.2.1 h2.2
   unfold J13.tot at t1 t2
   exact⟨h2.1,.inl ⟨rfl,h2.2,⟨t1.1,y1h _⟩,⟨t2.1,y1h _⟩,rfl,rfl⟩⟩
  ·simp only[h2,ym,y17] at h0; cases h0
 ·simp only[h1,ym,y17] at h0; cases h0
theorem znn (h:VW w) (hk:k<w.J.length) (h0:(reportS (stW w k) c y).2=0):MsgOk w.K (stW w) (reportS (stW w k) c y).1:=by
 obtain⟨q1,q2,q3⟩:=h.2.2.2.1 k hk
 have hv:=q1.stb
 have hn:=(zuk q1).trans q2
 have h2:=h.2.1
 unfold reportS at h0 |-
 rw[y7 (fun g=>g hv)] at h0 |-
 by_cases h1:hasR (stW w k).L c y=true
 ·rw[y7 (fun g=>g h1)]
  have hle:=zei q1 c y
  have hp:=(z4v q1.now q3 (hle.1 h1)).1
  have hb:=z51 hv.ok c y
  have hu:=z2v hv.val c y
  have e1:((stW w k).Q-1).toNat=k:=by
   have:(stW w k).Q=(k:Int)+1:=hn
   omega
  refine⟨hp,.inr ⟨?_,?_,rfl,⟨hb.1,?_⟩,⟨?_,?_⟩,rfl,rfl⟩⟩
  ·show (stW w k).Q≠0
   have:(stW w k).Q=(k:Int)+1:=hn
   omega
  ·show 1<=(stW w k).Q/\(stW w k).Q<=_
   have:(stW w k).Q=(k:Int)+1:=hn
   omega
  ·show (rightV (stW w k).L c y).S<=(rightV (stW w ((stW w k).Q-1).toNat).L c y).S
   rw[e1]
   exact y1h _
  ·show 0<=usedV (stW w k).Ag c y
   rw[show usedV (stW w k).Ag c y=_ from hu.1]; exact hu.2.1
  ·show usedV (stW w k).Ag c y<=_
   rw[show usedV (stW w k).Ag c y=_ from hu.1]
   have:=hu.2.2
   exact y3c this dk
 ·rw[y8 h1] at h0; cases h0
theorem zc6 (h:e=0->VW ⟨w.K,w.J.set k j,w.N⟩):z60 (keepS w k j e):=by
 by_cases h0:e=0
 ·subst h0
  rw[z2s]
  exact .inl ⟨rfl,h rfl⟩
 ·rw[z43 h0]; exact z5k h0
theorem zvy (h:VW w) (s:TSt):z60 (actS w s):=by
 unfold actS
 by_cases h1:1<=s.Z/\s.Z<=w.J.length
 ·have hlt:(s.Z-1).toNat<w.J.length:=om
  rw[y7 (fun g=>g h1)]
  by_cases c5:s.U=5
  ·rw[y8 c5]
   by_cases c8:s.Op.U=8
   ·rw[y8 c8]; exact z5k dk
   ·rw[y7 c8]
    exact zc6 fun e=>zh6 h hlt e fun k=>absurd k c8
  rw[y7 c5]
  by_cases c6:s.U=6
  ·rw[y8 c6]
   exact zc6 fun _=>zsi h hlt
  rw[y7 c6]
  by_cases c7:s.U=7
  ·rw[y8 c7]
   exact zc6 fun _=>zsj h hlt
  rw[y7 c7]
  exact zg3 h fun e=>znn h hlt e
 ·rw[y8 h1]; exact z5k dk
theorem zjw (h:VW w) (hi:i<w.N.length):z60 (delivS w i):=by
 have hm:=h.2.2.2.2 _ (z8 hi)
 have h2:=h.2.1
 unfold delivS
 obtain⟨m,em⟩:∃ m,m=mAt w i:=⟨_,rfl⟩
 rw[<- em]
 rw[show w.N.getD i dF=m from em.symm] at hm
 by_cases h0:m.To=0
 ·rw[y8 h0]
  by_cases h1:(J13.hearM w.K m).2=0
  ·rw[y7 (fun k=>k h1)]
   obtain⟨g1,g2,g3⟩:=zm7 h1
   refine .inl ⟨rfl,?_⟩
   refine zc4 (w:=⟨(J13.hearM w.K m).1,w.J,w.N⟩) (zct h g1 fun c y k hp hk=>?_) i
   obtain⟨z1,z2⟩:=g3 c y k hp
   have hh:=z5z (h.2.2.2.1 k hk).2.2 z1
   rcases z2 with z2 | ⟨rfl,rfl,rfl,z2⟩
   ·rw[z2]; exact hh
   ·rw[z2]
    rcases hm.2 with ⟨f0,_⟩ | ⟨_,_,_,f1,_⟩
    ·omega
    ·exact Int.max_le.2 ⟨hh,f1.2⟩
  ·rw[y8 h1]; exact z5k h1
 ·rw[y7 h0]
  rcases hm.2 with ⟨f0,q1,q2,q3,q4,q5⟩ | ⟨_,_,f1,_⟩
  ·have hk:(m.To-1).toNat<w.J.length:=om
   refine zc6 fun e=>?_
   exact zh6 (w:=loseW w i) (zc4 h i) hk e fun _=>⟨hm.1,q2.2,q3.2⟩
  ·exact absurd f1 h0
theorem zuo (h:VW w) (s:TSt):z60 (mailS w s):=by
 unfold mailS
 by_cases h1:0<=s.Ai/\s.Ai<w.N.length
 ·have hlt:s.Ai.toNat<w.N.length:=om
  rw[y7 (fun g=>g h1)]
  by_cases c9:s.U=9
  ·rw[y8 c9]; exact zjw h hlt
  rw[y7 c9]
  by_cases c11:s.U=11
  ·rw[y8 c11]
   exact zg3 h fun _=>h.2.2.2.2 _ (z8 hlt)
  rw[y7 c11]
  exact .inl ⟨rfl,zc4 h _⟩
 ·rw[y8 h1]; exact z5k dk
theorem zg5 (h:VW w) (s:TSt):z60 (stepW w s):=by
 by_cases k:s.U=1
 ·rw[z73 k]; exact zg4 h zvu
 by_cases k2:s.U=2
 ·rw[z74 k2]; exact zg4 h zsh
 by_cases k3:s.U=3
 ·rw[z8v k3]; exact zg4 h zvw
 by_cases k4:s.U=4
 ·rw[z75 k4]; exact zg3 h (zsk h)
 by_cases ka:5<=s.U/\s.U<=8
 ·rw[z8w ka]; exact zvy h s
 by_cases km:9<=s.U/\s.U<=11
 ·rw[z4f km]; exact zuo h s
 ·rw[z8x om]; exact z5k dk
theorem zbi [Inhabited α] {l:List α} (hi:i<l.length):l.take (i+1)=l.take i++[l.getD i dF]:=by
 rw[y39,yd hi,z18 hi]
 rfl
def zg6 (w:TWo):Prop:=J13.TSmall w.K/\w.J.length<=1000000/\(∀ j∈w.J,j.M.length<=1000000)/\w.N.length<=1000000
theorem VW.fr (h:VW w):zg6 w:=⟨h.1.small,by have:=h.len; omega,fun j hj=>by
 obtain⟨i,hi,rfl⟩:=z13 hj
 have:(jAt w i).M.length<=400:=(h.2.2.2.1 i hi).1.2.1
 show (jAt w i).M.length<=_
 omega,by have:=h.2.2.1; omega⟩
theorem zvz:zg6 zWd:=⟨⟨dk,fun i hi=>absurd hi (by show ¬ i<0; omega)⟩,dk,fun j hj=>(by cases hj),dk⟩
theorem za0 (h:zg6 w):F_qp w=some w:=by
 obtain⟨h1,h2,h3,h4⟩:=h
 simp only[F_qp,S_qp,Scr.den]
 have l0:=h1.1
 obtain⟨s,e,hs⟩:=zq (body:=fun i s=>(S_qp_b1 w i s).den) (n:=w.K.E.length) (fun i s=>s=(w.K.O,w.J,w.N,w.K.E.take i)) (s0:=(w.K.O,w.J,w.N,([]:List TPo))) rfl (fun i s hi hI=>by
  subst hI
  obtain⟨q1,q2,q3,q4⟩:=h1.2 i hi
  simp only[S_qp_b1,Scr.den,J13.clone_eq q1,J13.clone_eq q2,J13.clone_eq q3,J13.clone_eq q4,obind]
  rw[z7 ⟨by rw[y1k]; omega,trivial⟩]
  exact⟨_,rfl,by rw[zbi hi]⟩)
 rw[e,hs]
 simp only[zb]
 obtain⟨s,e,hs⟩:=zq (body:=fun i s=>(S_qp_b2 (w.K.O,w.J,w.N,w.K.E.take w.K.E.length) i s).den) (n:=w.J.length) (fun i s=>s=(w.K.O,w.N,w.J.take i)) (s0:=(w.K.O,w.N,([]:List TJo))) rfl (fun i s hi hI=>by
  subst hI
  simp only[S_qp_b2,Scr.den,cloneOp (h3 _ (z8 hi)),obind]
  rw[z7 ⟨by rw[y1k]; omega,trivial⟩]
  exact⟨_,rfl,by rw[zbi hi]⟩)
 rw[e,hs]
 simp only[zb,cloneM h4,obind]
 rw[y4f,y4f,Ga,Ga]
theorem z60.fr {r:TWo×Int} (h:z60 r):zg6 r.1:=by
 rcases h with ⟨_,h⟩ | ⟨_,h⟩
 ·exact h.fr
 ·rw[h]; exact zvz
def SOk (s:TSt):Prop:=s.B.length<=1000000/\s.Op.B.length<=1000000
theorem zup (h:VW w) (hs:SOk s):F_q41 w s=some (stepW w s):=by
 simp only[F_q41,S_q41,Scr.den,z2w h,z85 h hs.1 hs.2,obind]
 rw[y7 dk,za0 (zg5 h s).fr]
 rfl
def newW (n:Int):TWo:=⟨⟨n,[]⟩,ups n.toNat (fun i=>⟨(i:Int)+1,[],0⟩),[]⟩
theorem zjx {n:Int} (h:1<=n/\n<=6):VW (newW n):=by
 refine⟨⟨h,y1g _,fun i hi=>absurd hi (by show ¬ i<0; omega)⟩,by show ((ups _ _).length:Int)=n; rw[zr]; omega,y1g _,fun k hk=>?_,fun m hm=>(by cases hm)⟩
 have hk:k<(ups n.toNat (fun i=>(⟨(i:Int)+1,[],0⟩:TJo))).length:=hk
 rw[zr] at hk
 have e:jAt (newW n) k=⟨(k:Int)+1,[],0⟩:=z2n hk
 unfold noW stW
 rw[e]
 refine⟨⟨by show 1<=(k:Int)+1/\(k:Int)+1<=6; omega,y1g _,⟨y1h _,y1h _⟩,trivial⟩,rfl,fun r hr=>(by cases hr),fun p hp=>(by cases hp)⟩
theorem zjy {n:Int} (h:1<=n/\n<=6):F_q13 n=some (newW n,0):=by
 simp only[F_q13,S_q13,Scr.den,z41,obind]
 rw[yb h,y7 dk,Ga]
 obtain⟨s,e,hs⟩:=zq (body:=fun i s=>(S_q13_b1 i s).den) (n:=n.toNat) (fun i s=>s=((⟨n,[]⟩:TTr),([]:List TMe),ups i (fun i=>(⟨(i:Int)+1,[],0⟩:TJo)))) (s0:=((⟨n,[]⟩:TTr),([]:List TMe),([]:List TJo))) rfl (fun i s hi hI=>by
  subst hI
  simp only[S_q13_b1,Scr.den,F_q77,S_q77,z9]
  rw[wrapId (n:=(i:Int)+1) om om,y7 sk]
  simp only[obind]
  rw[z7 ⟨by rw[zr]; omega,trivial⟩]
  exact⟨_,rfl,by rw[z40]⟩)
 rw[e,hs]
 simp only[zb]
 rw[z7 ⟨by rw[zr]; omega,trivial⟩]
 rfl
theorem zeq {n:Int} (h:1<=n/\n<=6):F_q11 n=some (newW n,0):=by
 simp only[F_q11,S_q11,Scr.den,z9]
 rw[y7 sk]
 obtain⟨s,e,hs⟩:=z2i (step:=fun s=>(S_q11_b1 n s).den) (fun s=>(n+1-s.2.2.2).toNat) (fun s=>1<=s.2.2.2/\s.2.2.2<=n+1/\s=((⟨n,[]⟩:TTr),([]:List TMe),ups (s.2.2.2-1).toNat (fun i=>(⟨(i:Int)+1,[],0⟩:TJo)),s.2.2.2)) (fun s=>s.1=(⟨n,[]⟩:TTr)/\s.2.1=([]:List TMe)/\s.2.2.1=ups n.toNat (fun i=>(⟨(i:Int)+1,[],0⟩:TJo))) (fun s hI=>by
  obtain⟨h1,h2,h3⟩:=hI
  obtain⟨t,m,j,i⟩:=s
  simp only[y2o,y1b] at h3
  obtain⟨rfl,rfl,rfl⟩:=h3
  simp only[S_q11_b1,Scr.den] at h1 h2 |-
  by_cases c:i<=n
  ·rw[y8 (by simpa using c),z7 ⟨by rw[zr]; omega,trivial⟩]
   have e1:i64.wrap (i+1)=i+1:=wrapId om om
   refine .inl ⟨_,rfl,⟨?_,?_,?_⟩,?_⟩
   ·simp only[e1]; omega
   ·simp only[e1]; omega
   ·simp only[e1]
    have e2:(i+1-1).toNat=(i-1).toNat+1:=om
    have e3:(((i-1).toNat:Nat):Int)+1=i:=om
    rw[e2,z40,e3]
   ·simp only[e1]; omega
  ·rw[y7 (by simpa using c)]
   refine .inr ⟨_,rfl,rfl,rfl,?_⟩
   have:i=n+1:=om
   subst this
   rw[show (n+1-1).toNat=n.toNat from om]) 10 ((⟨n,[]⟩:TTr),([]:List TMe),([]:List TJo),1) (by simp only; omega) ⟨by simp only; omega,by simp only; omega,rfl⟩
 obtain⟨h1,h2,h3⟩:=hs
 rw[e]
 simp only[zb,h1,h2,h3]
 rw[z7 ⟨by rw[zr]; omega,trivial⟩]
 rfl
def sumTo (f:Nat->Int) (n:Nat):Int:=((List.range n).map f).sum
theorem z1e (f:Nat->Int) (n:Nat):sumTo f (n+1)=sumTo f n+f n:=by simp[sumTo,List.range_succ,List.sum_append]
theorem za1 (f:Nat->Int):sumTo f 0=0:=rfl
theorem zdn {f g:Nat->Int} (h:∀ k,k<n->f k<=g k):sumTo f n<=sumTo g n:=by
 induction n with
 | zero=>exact y1h _
 | succ n ih =>
  rw[z1e,z1e]
  have:=ih fun k hk=>h k om
  have:=h n om
  omega
theorem za2 {f:Nat->Int} {B:Int} (h:∀ k,k<n->0<=f k/\f k<=B):0<=sumTo f n/\sumTo f n<=n * B:=by
 induction n with
 | zero=>simp[za1]
 | succ n ih =>
  rw[z1e]
  have:=ih fun k hk=>h k om
  have:=h n om
  have e:((n+1:Nat):Int) * B=(n:Int) * B+B:=by rw[Int.natCast_add,Int.add_mul]; simp
  omega
theorem zh7 (l:List Int):l.sum=sumTo (fun k=>l.getD k dF) l.length:=by
 unfold sumTo
 congr 1
 refine y34 sj fun i h1 h2=>?_
 rw[y3q,y3i,z18 h1]
noncomputable def heldK (w:TWo) (c:Y8) (y:Int) (k:Nat):Int:=(rightV (noW w k).L c y).A-(rightV (noW w k).L c y).S
noncomputable def usedK (w:TWo) (c:Y8) (y:Int) (k:Nat):Int:=usedE (noW w k).Ag c y
noncomputable def heldW (w:TWo) (c:Y8) (y:Int):Int:=sumTo (heldK w c y) w.J.length
noncomputable def usedW (w:TWo) (c:Y8) (y:Int):Int:=sumTo (usedK w c y) w.J.length
theorem z77 (h:VW w) (c:Y8) (y:Int) (hk:k<w.J.length):0<=heldK w c y k/\heldK w c y k<=1000000000000000/\0<=usedK w c y k/\usedK w c y k<=heldK w c y k:=by
 obtain⟨q1,q2,q3⟩:=h.2.2.2.1 k hk
 have hv:VO (noW w k):=q1.now
 have h1:=z51 hv.ok c y
 have h2:=z2v hv.val c y
 have h3:=hv.unused_nn c y
 rw[hv.unused c y] at h3
 unfold heldK usedK
 omega
theorem zsl {n:Int} (hp:J13.PotOk n p):J13.outV p=sumTo (fun k=>nthN p.A k-nthN p.H k) n.toNat:=by
 have l1:=hp.2.2.2.1.1.1
 have l2:=hp.2.2.2.1.2.1.1
 unfold J13.outV
 rw[show min p.A.length p.H.length=p.A.length from om,y4f,show p.A.length=p.H.length from om,y4f,zh7,zh7,show p.A.length=p.H.length from om,show p.H.length=n.toNat from om]
 have:∀ (f g:Nat->Int) (m:Nat),sumTo f m-sumTo g m=sumTo (fun k=>f k-g k) m:=fun f g m=>by
  induction m with
  | zero=>rfl
  | succ m ih=>rw[z1e,z1e,z1e,<- ih]; omega
 exact this _ _ _
theorem zw0 (h:VW w) (hp:J13.hasP w.K.E c y=true):0<=usedW w c y/\usedW w c y<=heldW w c y/\heldW w c y<=J13.outV (J13.potAt w.K c y)/\J13.outV (J13.potAt w.K c y)<=6000000000000000:=by
 have hk:=h.1.potAt hp
 have h2:=h.2.1
 have hl:=h.len
 have e:w.K.O.toNat=w.J.length:=om
 rw[zsl hk,e]
 have b1:=za2 (f:=usedK w c y) (n:=w.J.length) (B:=1000000000000000) fun k hk=>by have:=z77 h c y hk; omega
 have hpk:∀ k,k<w.J.length->heldK w c y k<=nthN (J13.potAt w.K c y).A k-nthN (J13.potAt w.K c y).H k/\nthN (J13.potAt w.K c y).A k-nthN (J13.potAt w.K c y).H k<=1000000000000000:=fun k hkl=>by
  obtain⟨q1,q2,q3⟩:=h.2.2.2.1 k hkl
  have hv:VO (noW w k):=q1.now
  have lg:=hk.2.2.2.1.1
  have lh:=hk.2.2.2.1.2.1
  have t1:=lg.2 _ (z8 (show k<_ by have:=lg.1; omega))
  have t2:=lh.2 _ (z8 (show k<_ by have:=lh.1; omega))
  have t3:=hk.2.2.2.2.1.1 k (by have:=lg.1; omega)
  have hh:=z5z q3 hp
  have hle:=(zei q1 c y).2.2.2
  have hr:=z51 hv.ok c y
  unfold J13.tot at t1 t2
  unfold heldK nthN at *
  refine⟨?_,om⟩
  by_cases hold:hasR (noW w k).L c y=true
  ·obtain⟨o1,o2,o3⟩:=z4v hv q3 hold
   unfold nthN at o2
   have hle':(rightV (stW w k).L c y).S<=(rightV (noW w k).L c y).S:=hle
   omega
  ·have e0:rightV (noW w k).L c y=⟨c,y,0,0,0⟩:=y7 hold
   rw[e0]
   show (0:Int)-0<=_
   omega
 refine⟨b1.1,zdn fun k hk=>(z77 h c y hk).2.2.2,zdn fun k hk=>(hpk k hk).1,?_⟩
 have b2:=zdn (f:=fun k=>nthN (J13.potAt w.K c y).A k-nthN (J13.potAt w.K c y).H k) (g:=fun _=>1000000000000000) (n:=w.J.length) fun k hk=>(hpk k hk).2
 have b3:=za2 (f:=fun _=>(1000000000000000:Int)) (n:=w.J.length) (B:=1000000000000000) fun k hk=>om
 omega
noncomputable def shW (p:TPo):Int:=max (J13.outV p-p.T) 0
theorem z86 (h:VW w) (hp:p∈w.K.E) :
  (J13.hasP w.K.E p.B p.D=true/\J13.potAt w.K p.B p.D=p)/\(F_q3d p=some (J13.outV p)/\F_qv p=some (J13.outV p)/\F_q4d p=some (shW p)/\F_q58 p=some (shW p)) /\
  (0<=usedW w p.B p.D/\usedW w p.B p.D<=heldW w p.B p.D/\heldW w p.B p.D<=J13.outV p/\J13.outV p<=6000000000000000)/\(-1000000000000000<=p.T/\p.T<=1000000000000000):=by
 have h1:=z8y h.1 hp
 have h2:=zw0 h h1.1
 have h3:=h.1.potAt h1.1
 have h6:=h.1.1
 rw[h1.2] at h2 h3
 have l1:=h3.2.2.2.1.1.1
 have ht:=h3.2.2.1
 have e1:F_q3d p=some (J13.outV p):=by rw[J13.Out_eq,wrapId om om]
 have e2:F_qv p=some (J13.outV p):=by rw[J13.r13_Out_eq om,wrapId om om]
 have e3:F_q4d p=some (shW p):=by
  rw[J13.Shortfall_eq,wrapId om om]
  rfl
 have e4:F_q58 p=some (shW p):=by
  simp only[F_q58,S_q58,Scr.den,e2,obind]
  rw[wrapId (n:=J13.outV p-p.T) om om]
  have key:∀ n:Int,(if n>0 then n else 0)=max n 0:=fun n=>by split <;> omega
  exact y18 some (key _)
 exact⟨h1,⟨e1,e2,e3,e4⟩,h2,ht⟩
theorem zg7 (h:VW w) (c:Y8) (y:Int) (hi:i<=w.J.length):0<=sumTo (heldK w c y) i/\sumTo (heldK w c y) i<=6000000000000000/\0<=sumTo (usedK w c y) i/\sumTo (usedK w c y) i<=6000000000000000:=by
 have hl:=h.len
 have b1:=za2 (f:=heldK w c y) (n:=i) (B:=1000000000000000) fun k hk=>by have:=z77 h c y (show k<w.J.length from om); omega
 have b2:=za2 (f:=usedK w c y) (n:=i) (B:=1000000000000000) fun k hk=>by have:=z77 h c y (show k<w.J.length from om); omega
 omega
theorem zm9 (h:VW w) (hp:p∈w.K.E):F_q29 (ups w.J.length (noW w)) p=some (p.T,J13.outV p,heldW w p.B p.D,usedW w p.B p.D):=by
 simp only[F_q29,S_q29,Scr.den,(z86 h hp).2.1.1,obind]
 obtain⟨s,e,hs⟩:=zq (body:=fun i s=>(S_q29_b1 (ups w.J.length (noW w)) p i s).den) (n:=(ups w.J.length (noW w)).length) (fun i s=>s=(sumTo (heldK w p.B p.D) i,sumTo (usedK w p.B p.D) i)) (s0:=((0:Int),(0:Int))) rfl (fun i s hi hI=>by
  subst hI
  rw[zr] at hi
  obtain⟨q1,q2,q3⟩:=h.2.2.2.1 i hi
  have hv:VO (noW w i):=q1.now
  have hb:=z77 h p.B p.D hi
  have p1:=zg7 h p.B p.D (show i<=w.J.length from om)
  have p2:=zg7 h p.B p.D (show i+1<=w.J.length from om)
  rw[z1e,z1e] at p2
  simp only[S_q29_b1,Scr.den]
  rw[z2n hi,z2r,zb7]
  simp only[obind]
  rw[hv.unused,show (rightV (noW w i).L p.B p.D).A-(rightV (noW w i).L p.B p.D).S=heldK w p.B p.D i from rfl,show usedE (noW w i).Ag p.B p.D=usedK w p.B p.D i from rfl,wrapId (n:=heldK w p.B p.D i) om om,show heldK w p.B p.D i-(heldK w p.B p.D i-usedK w p.B p.D i)=usedK w p.B p.D i from om,wrapId (n:=usedK w p.B p.D i) om om,wrapId om om,wrapId om om]
  exact⟨_,rfl,by rw[z1e,z1e]⟩)
 rw[e,hs,zr]
 rfl
theorem zma (h:VW w) (hp:J13.hasP w.K.E c y=true):F_q2r w c y=some ((J13.potAt w.K c y).T,J13.outV (J13.potAt w.K c y),heldW w c y,usedW w c y):=by
 have hcy:=J13.potAt_cy hp
 have hm:J13.potAt w.K c y∈w.K.E:=z8 (J13.pix_lt hp).1
 have hs:=zm9 h hm
 rw[hcy.1,hcy.2] at hs
 simp only[F_q2r,S_q2r,Scr.den,J13.Pot_eq h.1.small,z1t hp,obind,z2w h,z9,zbf h]
 rw[Gg]
 simp only[obind]
 rw[y7 dk,hs]
 rfl
theorem zqh {u h o t s:Int} (h1:0<=u) (h2:u<=h) (h3:h<=o) (hs:s=max (o-t) 0) (h4:o<=6000000000000000) (h5:-1000000000000000<=t/\t<=1000000000000000):¬ (decide (u>h)||decide (h>o))=true/\¬ ((decide (u>h)||decide (h>o))||decide (o>i64.wrap (t+s)))=true:=by
 rw[wrapId (n:=t+s) om om]
 simp only[ye,y9]
 omega
theorem z8z (h:VW w):F_q15 w=some true:=by
 simp only[F_q15,S_q15,Scr.den,z2w h,zbf h,obind]
 rw[y7 dk]
 obtain⟨s,e,hs⟩:=zq (body:=fun i s=>(S_q15_b1 w (ups w.J.length (noW w),ups w.J.length (stW w),true) i s).den) (n:=w.K.E.length) (fun _ _=>True) (s0:=()) trivial (fun i s hi _=>by
  obtain⟨p,ep⟩:∃ p,p=w.K.E.getD i dF:=⟨_,rfl⟩
  have hm:p∈w.K.E:=by rw[ep]; exact z8 hi
  obtain⟨f1,f2,f3,f4⟩:=z86 h hm
  obtain⟨s1,s2⟩:=zqh f3.1 f3.2.1 f3.2.2.1 (s:=shW p) rfl f3.2.2.2 f4
  simp only[S_q15_b1,Scr.den]
  rw[<- ep,zm9 h hm,f2.2.2.1]
  simp only[obind,z9]
  rw[ze (gs:=[(decide (usedW w p.B p.D>heldW w p.B p.D)||decide (heldW w p.B p.D>J13.outV p))=false]) ⟨y1x.2 s1,trivial⟩]
  simp only[obind]
  rw[y7 s2]
  exact⟨(),rfl,trivial⟩)
 rw[e]
 rfl
theorem zcu (h:VW w) (hp:p∈w.K.E):F_q2k w p=some (p.T,J13.outV p,heldW w p.B p.D,usedW w p.B p.D):=by
 simp only[F_q2k,S_q2k,Scr.den,(z86 h hp).2.1.2.1,obind]
 obtain⟨s,e,hs⟩:=zq (body:=fun i s=>(S_q2k_b1 w p i s).den) (n:=w.J.length) (fun i s=>s=(sumTo (heldK w p.B p.D) i,sumTo (usedK w p.B p.D) i)) (s0:=((0:Int),(0:Int))) rfl (fun i s hi hI=>by
  subst hI
  obtain⟨q1,q2,q3⟩:=h.2.2.2.1 i hi
  have hv:VO (noW w i):=q1.now
  have hb:=z77 h p.B p.D hi
  have p2:=zg7 h p.B p.D (show i+1<=w.J.length from om)
  rw[z1e,z1e] at p2
  simp only[S_q2k_b1,Scr.den]
  rw[show w.J.getD i dF=jAt w i from rfl,z42 q1]
  simp only[obind]
  rw[z1i,z4k,(z2v (b:=(nowJ (jAt w i)).Ag) q1.now.val p.B p.D).1]
  simp only[obind]
  rw[show (rightV (nowJ (jAt w i)).L p.B p.D).A-(rightV (nowJ (jAt w i)).L p.B p.D).S=heldK w p.B p.D i from rfl,show usedE (nowJ (jAt w i)).Ag p.B p.D=usedK w p.B p.D i from rfl,wrapId (n:=heldK w p.B p.D i) om om,wrapId om om,wrapId om om]
  exact⟨_,rfl,by rw[z1e,z1e]⟩)
 rw[e,hs]
 rfl
theorem zl8 (h:VW w):F_q1k w=some true:=by
 simp only[F_q1k,S_q1k,Scr.den,z2c h,obind]
 rw[y7 dk]
 obtain⟨s,e,hs⟩:=zq (body:=fun i s=>(S_q1k_b1 w i s).den) (n:=w.K.E.length) (fun _ _=>True) (s0:=()) trivial (fun i s hi _=>by
  obtain⟨p,ep⟩:∃ p,p=w.K.E.getD i dF:=⟨_,rfl⟩
  have hm:p∈w.K.E:=by rw[ep]; exact z8 hi
  obtain⟨f1,f2,f3,f4⟩:=z86 h hm
  obtain⟨s1,s2⟩:=zqh f3.1 f3.2.1 f3.2.2.1 (s:=shW p) rfl f3.2.2.2 f4
  simp only[S_q1k_b1,Scr.den]
  rw[<- ep,zcu h hm,f2.2.2.2]
  simp only[obind,z9]
  rw[ze (gs:=[(decide (usedW w p.B p.D>heldW w p.B p.D)||decide (heldW w p.B p.D>J13.outV p))=false]) ⟨y1x.2 s1,trivial⟩]
  simp only[obind]
  rw[y7 s2]
  exact⟨(),rfl,trivial⟩)
 rw[e]
 rfl
theorem zwt (k a b:Int) (K:Bool->Option α) (R:ρ->Option α):outM (if (k==a)=true then some (Out.next (k==a)) else some (Out.next (k==b))) K R=K (decide (k=a\/k=b)):=by
 by_cases h1:k=a
 ·rw[y8 (by simpa using h1)]; simp[outM,h1]
 rw[y7 (by simpa using h1)]
 simp only[outM,h1,y46]
 rfl
variable {o:TOf}
theorem zjz (hv:VO o) {s:TTape} (hs:TapeOk s) (day:Int):∃ p s',F_q6m o day s=some (p,s')/\TapeOk s'/\p.B.length<=60:=by
 obtain⟨p,s1,e1,t1,hc,_⟩:=zs4 hv hs day
 have h0:([]:Y8).length<=60:=dk
 simp only[F_q6m,S_q6m,Scr.den,e1,obind,zwt]
 by_cases k:p.U=1
 ·rw[y8 (by simp[k])]; exact⟨_,_,rfl,t1,hc⟩
 rw[y7 (by simp[k])]
 by_cases k:p.U=2
 ·rw[y8 (by simp[k])]; exact⟨_,_,rfl,t1,h0⟩
 rw[y7 (by simp[k])]
 by_cases k:p.U=3
 ·rw[y8 (by simp[k])]; exact⟨_,_,rfl,t1,h0⟩
 rw[y7 (by simp[k])]
 by_cases k:p.U=4
 ·rw[y8 (by simp[k])]; exact⟨_,_,rfl,t1,h0⟩
 rw[y7 (by simp[k])]
 by_cases k:p.U=5\/p.U=6
 ·rw[y8 (by simpa using k)]; exact⟨_,_,rfl,t1,h0⟩
 rw[y7 (by simpa using k)]
 by_cases k:p.U=7
 ·rw[y8 (by simp[k])]; exact⟨_,_,rfl,t1,hc⟩
 rw[y7 (by simp[k])]
 by_cases k:p.U=8
 ·rw[y8 (by simp[k])]; exact⟨_,_,rfl,t1,hc⟩
 rw[y7 (by simp[k])]
 exact⟨_,_,rfl,t1,h0⟩
theorem zhy (h:VW w) {n:Int} (hn:1<=n/\n<=w.J.length):F_q19 w n=some (noW w (n-1).toNat,0):=by
 have hl:=h.len
 have hlt:(n-1).toNat<w.J.length:=om
 simp only[F_q19,S_q19,Scr.den,z2c h,F_q2w,S_q2w,zd,obind]
 rw[y7 dk,y7 sk,wrapId (n:=n-1) om om,show w.J.getD (n-1).toNat dF=jAt w (n-1).toNat from rfl,z42 (h.2.2.2.1 _ hlt).1]
 simp only[obind]
 rw[z7 ⟨om,hlt,trivial⟩]
 rfl
theorem zno (h:c.length<=60):(answerS o c y).1.B.length<=60:=by
 unfold answerS
 by_cases h1:VO o
 ·rw[y7 (fun k=>k h1)]
  by_cases h2:wantedS (rightV o.L c y) (usedV o.Ag c y)=0
  ·rw[y8 h2]; exact y1g _
  ·rw[y7 h2]; exact h
 ·rw[y8 h1]; exact y1g _
def GS (n:Nat) (s:TSt):Prop:=(1<=s.Z/\s.Z<=n)/\s.B.length<=60/\s.Op.B.length<=60
def GA (s:TSt):Prop:=s.U=1->0<=s.V/\s.V<=900
theorem zqi:(([[49],[50]]:List Y8).getD i dF).length<=60:=by
 match i with
 | 0=>decide
 | 1=>decide
 | _+2=>exact y1g _
theorem zqj (h:VW w) {n i day:Int} (hn:(w.J.length:Int)=n) (hi:0<=i) {s:TTape} (hs:TapeOk s):∃ p s',F_q3z w n i day s=some (p,s')/\TapeOk s'/\GS w.J.length p/\GA p:=by
 have hl:=h.len
 have hml:=h.2.2.1
 obtain⟨k,s1,e1,t1,k1⟩:=z10 (l:=[1,2,2,4,4,5,5,5,5,6,7,8,8,9,9,9,9,10,11,3]) hs dk dk
 obtain⟨o,s2,e2,t2,o1⟩:=z29 (lo:=1) (hi:=n) t1 om om om
 obtain⟨c,s3,e3,t3,c1⟩:=z1d (n:=2) t2 om om
 obtain⟨a,s4,e4,t4,a1⟩:=z29 (lo:=1) (hi:=200) t3 om om om
 have lm:(1:Int)<=(if (w.N.length:Int)>1 then (w.N.length:Int) else 1)/\(if (w.N.length:Int)>1 then (w.N.length:Int) else 1)<=1000000:=by split <;> omega
 obtain⟨x,s5,e5,t5,x1⟩:=z1d (n:=(if (w.N.length:Int)>1 then (w.N.length:Int) else 1)) t4 lm.1 om
 simp only[F_q3z,S_q3z,Scr.den,e1,e2,e3,e4,e5,obind]
 rw[Gb]
 have q6:∃ v:TSt,(if decide (i<3)=true then guardP (AllP [(0:Int)<=i,(i).toNat<3]) (some (Out.next (⟨(([1,2,4]:List Int).getD ((i).toNat) dF),1,(⟨0,[],0,0,0,0,0,0,0,0⟩:TOp),[49],12,a,x⟩:TSt)))
   else some (Out.next (⟨k,o,(⟨0,[],0,0,0,0,0,0,0,0⟩:TOp),(([[49],[50]]:List Y8).getD ((c).toNat) dF),12,a,x⟩:TSt)):Option (Out TSt R_q3z))=some (Out.next v)/\GS w.J.length v:=by
  by_cases ci:i<3
  ·rw[y8 (by simpa using ci),z7 ⟨hi,om,trivial⟩]
   exact⟨_,rfl,⟨y1h _,by show (1:Int)<=_; omega⟩,by show ([49]:Y8).length<=60; decide,y1g _⟩
  ·rw[y7 (by simpa using ci)]
   exact⟨_,rfl,⟨o1.1,by show o<=_; omega⟩,zqi,y1g _⟩
 obtain⟨v6,q6,g6⟩:=q6
 rw[q6]
 simp only[zb]
 have q7:∃ v:TSt,(if (i==3)=true then some (Out.next (⟨9,v6.Z,v6.Op,v6.B,v6.D,v6.V,0⟩:TSt)) else some (Out.next v6):Option (Out TSt R_q3z))=some (Out.next v)/\GS w.J.length v:=by
  by_cases ci:i=3
  ·rw[y8 (by simpa using ci)]; exact⟨_,rfl,g6⟩
  ·rw[y7 (by simpa using ci)]; exact⟨_,rfl,g6⟩
 obtain⟨v7,q7,g7⟩:=q7
 rw[q7]
 simp only[zb]
 have q8:∃ v:TTape×TSt,(if (v7.U==1)=true then (F_q2 900 s5).bind fun rv9=>(F_q6 ([300,rv9.1,50]:List Int) rv9.2).bind fun rv10=>some (Out.next (rv10.2,(⟨v7.U,v7.Z,v7.Op,v7.B,v7.D,rv10.1,v7.Ai⟩:TSt)))
   else some (Out.next (s5,v7)):Option (Out (TTape×TSt) R_q3z))=some (Out.next v)/\TapeOk v.1/\GS w.J.length v.2/\GA v.2:=by
  by_cases ck:v7.U=1
  ·rw[y8 (by simpa using ck)]
   obtain⟨z1,s6,q1,t6,y1⟩:=z1d (n:=900) t5 om om
   obtain⟨z2,s7,q2,t7,y2⟩:=z10 (l:=[300,z1,50]) t6 sj sj
   simp only[q1,q2,obind]
   refine⟨_,rfl,t7,g7,fun _=>?_⟩
   simp at y2
   show 0<=z2/\z2<=900
   omega
  ·rw[y7 (by simpa using ck)]
   exact⟨_,rfl,t5,g7,fun k=>absurd k ck⟩
 obtain⟨v8,q8,t8,g8,a8⟩:=q8
 rw[q8]
 simp only[zb]
 by_cases c5:v8.2.U=5
 ·rw[y8 (by simpa using c5),zhy h g8.1]
  simp only[obind]
  rw[y7 dk]
  simp only[zb]
  have hlt:(v8.2.Z-1).toNat<w.J.length:=by have:=g8.1; omega
  have hv:VO (noW w (v8.2.Z-1).toNat):=(h.2.2.2.1 _ hlt).1.now
  obtain⟨p,s9,e9,t9,pc⟩:=zjz hv t8 day
  rw[e9]
  simp only[obind]
  rw[za9 hv.smO (by have:=g8.2.1; omega)]
  simp only[obind]
  have na:∀ {q:TOp},GA (⟨v8.2.U,v8.2.Z,q,v8.2.B,v8.2.D,v8.2.V,v8.2.Ai⟩:TSt):=fun {q} k=>absurd (show v8.2.U=1 from k) om
  by_cases ca:(answerS (noW w (v8.2.Z-1).toNat) v8.2.B v8.2.D).2=true
  ·rw[ze (gs:=[(answerS (noW w (v8.2.Z-1).toNat) v8.2.B v8.2.D).2=true]) ⟨ca,trivial⟩]
   obtain⟨z3,s10,e10,t10,_⟩:=z1d (n:=3) t9 om om
   rw[e10]
   simp only[obind,zd]
   by_cases cz:z3=0
   ·rw[ca,y42,y8 (by simpa using cz)]
    exact⟨_,_,rfl,t10,⟨g8.1,g8.2.1,zno g8.2.1⟩,na⟩
   ·rw[ca,y42,y7 (by simpa using cz)]
    exact⟨_,_,rfl,t10,⟨g8.1,g8.2.1,pc⟩,na⟩
  ·rw[show ∀ {α:Type} (x:Option α) (d:α),optD [(answerS (noW w (v8.2.Z-1).toNat) v8.2.B v8.2.D).2=true] x d=some d from fun _ _=>y7 fun h=>ca h.1]
   simp only[obind,zd]
   rw[y1x.2 ca,Bool.false_and,y7 dk]
   exact⟨_,_,rfl,t9,⟨g8.1,g8.2.1,pc⟩,na⟩
 ·rw[y7 (by simpa using c5)]
  exact⟨_,_,rfl,t8,g8,a8⟩
theorem GS.ok (h:GS n s):SOk s:=⟨by have:=h.2.1; omega,by have:=h.2.2; omega⟩
theorem z87 (h:VW w) (h0:(stepW w s).2=0):(stepW w s).1.J.length=w.J.length/\VW (stepW w s).1:=by
 have hk:=zg5 h s
 have hv:VW (stepW w s).1:=by
  rcases hk with ⟨_,hk⟩ | ⟨hk,_⟩
  ·exact hk
  ·exact absurd h0 hk
 refine⟨?_,hv⟩
 have send:∀ {m:TMe} {e:Int},(sendS w m e).2=0->(sendS w m e).1.J.length=w.J.length:=fun {m e} h0=>by
  by_cases c:e=0
  ·subst c
   by_cases hl:w.N.length=200
   ·rw[z5j hl] at h0; cases h0
   ·rw[z4u hl]
  ·rw[z55 c] at h0; exact absurd h0 c
 have tres:∀ {r:TTr×Int},(tresS w r).2=0->(tresS w r).1.J.length=w.J.length:=fun {r} h0=>by
  unfold tresS at h0 |-
  by_cases c:r.2=0
  ·rw[y7 (by simp[c])]
  ·rw[y8 c] at h0; exact absurd h0 c
 have keep:∀ {w':TWo} {k:Nat} {j:TJo} {e:Int},(keepS w' k j e).2=0->(keepS w' k j e).1.J.length=w'.J.length:=fun {w' k j e} h0=>by
  by_cases c:e=0
  ·subst c
   rw[z2s]
   exact yl
  ·rw[z43 c] at h0; exact absurd h0 c
 by_cases k:s.U=1
 ·rw[z73 k] at h0 |-; exact tres h0
 by_cases k2:s.U=2
 ·rw[z74 k2] at h0 |-; exact tres h0
 by_cases k3:s.U=3
 ·rw[z8v k3] at h0 |-; exact tres h0
 by_cases k4:s.U=4
 ·rw[z75 k4] at h0 |-; exact send h0
 by_cases ka:5<=s.U/\s.U<=8
 ·rw[z8w ka] at h0 |-
  unfold actS at h0 |-
  by_cases h1:1<=s.Z/\s.Z<=w.J.length
  ·rw[y7 (fun g=>g h1)] at h0 |-
   by_cases c5:s.U=5
   ·rw[y8 c5] at h0 |-
    by_cases c8:s.Op.U=8
    ·rw[y8 c8] at h0; cases h0
    ·rw[y7 c8] at h0 |-; exact keep h0
   rw[y7 c5] at h0 |-
   by_cases c6:s.U=6
   ·rw[y8 c6] at h0 |-; exact keep h0
   rw[y7 c6] at h0 |-
   by_cases c7:s.U=7
   ·rw[y8 c7] at h0 |-; exact keep h0
   rw[y7 c7] at h0 |-
   exact send h0
  ·rw[y8 h1] at h0; cases h0
 by_cases km:9<=s.U/\s.U<=11
 ·rw[z4f km] at h0 |-
  unfold mailS at h0 |-
  by_cases h1:0<=s.Ai/\s.Ai<w.N.length
  ·rw[y7 (fun g=>g h1)] at h0 |-
   by_cases c9:s.U=9
   ·rw[y8 c9] at h0 |-
    unfold delivS at h0 |-
    by_cases c0:(mAt w s.Ai.toNat).To=0
    ·rw[y8 c0] at h0 |-
     by_cases c1:(J13.hearM w.K (mAt w s.Ai.toNat)).2=0
     ·rw[y7 (fun k=>k c1)]
     ·rw[y8 c1] at h0; exact absurd h0 c1
    ·rw[y7 c0] at h0 |-; exact keep h0
   rw[y7 c9] at h0 |-
   by_cases c11:s.U=11
   ·rw[y8 c11] at h0 |-; exact send h0
   rw[y7 c11]
   rfl
  ·rw[y8 h1] at h0; cases h0
 ·rw[z8x om] at h0; cases h0
theorem zk0 {n:Int} (h:0<=n):((newW n).J.length:Int)=n:=by
 show ((ups _ _).length:Int)=n
 rw[zr]; omega
def mA:TMe:=⟨0,1,[49],12,100,0,0,0⟩
def pA:TOp:=hearOp mA
def tA:TTr:=⟨1,[⟨[49],12,100,[100],[0],[0],[0]⟩]⟩
def tB:TTr:=⟨1,[⟨[49],12,100,[0],[0],[0],[0]⟩]⟩
def zS:TOp:=⟨0,[],0,0,0,0,0,0,0,0⟩
abbrev LA:List TSt:=[(⟨1,0,(⟨0,[],0,0,0,0,0,0,0,0⟩:TOp),[49],12,100,0⟩:TSt),(⟨2,1,(⟨0,[],0,0,0,0,0,0,0,0⟩:TOp),[49],12,100,0⟩:TSt),(⟨4,1,(⟨0,[],0,0,0,0,0,0,0,0⟩:TOp),[49],12,0,0⟩:TSt),(⟨11,0,(⟨0,[],0,0,0,0,0,0,0,0⟩:TOp),[],0,0,0⟩:TSt),(⟨9,0,(⟨0,[],0,0,0,0,0,0,0,0⟩:TOp),[],0,0,0⟩:TSt),(⟨9,0,(⟨0,[],0,0,0,0,0,0,0,0⟩:TOp),[],0,0,0⟩:TSt)]
theorem zk1:good [49]=true:=dk
variable {w':TWo}
theorem z78 (h:VW w) (e:stepW w s=(w',0)):VW w':=by
 have:=(z87 h (s:=s) (by rw[e])).2
 rwa [e] at this
theorem zw1:POp pA:=by
 refine⟨dk,fun k hk=>?_,rfl⟩
 have hk:k=8\/k=0\/k=6\/k=7:=by
  have:k∈[8,0,6,7]:=hk
  simpa using this
 rcases hk with rfl | rfl | rfl | rfl
 ·exact (zee _).2 zk1
 ·exact (condN dk).2 dk
 ·exact (condN dk).2 dk
 ·exact (condN dk).2 dk
theorem znp (hv:VO o) (hl:hasR o.L [49] 12=true\/(o.L.length:Int)≠60):(doS o pA).2=0:=by
 rw[zbb hv dk]
 have e8:stepS o pA=hearS o pA:=y8 rfl
 rw[e8]
 exact zps hv (p:=pA) zk1 ⟨dk,dk⟩ hl ⟨dk,dk⟩ ⟨dk,dk⟩
theorem zg8 {p:TOp} (h8:p.U=8) (h0:(doS o p).2=0):(doS o p).1.Ag=o.Ag:=by
 obtain⟨hv,_,e⟩:=zfv h0
 rw[e] at h0 |-
 have e8:stepS o p=hearS o p:=by unfold stepS; rw[y8 h8]
 rw[e8] at h0 |-
 obtain⟨r,e1,hr,h1,h2,h3,_⟩:=zfu hv h0
 rw[e1]
def wA (t:TTr) (r:List TOp) (m:List TMe):TWo:=⟨t,[⟨1,r,0⟩],m⟩
theorem vw0:VW (wA ⟨1,[]⟩ [] []):=zjx (n:=1) dk
theorem zqk:stepW (wA ⟨1,[]⟩ [] []) ⟨1,0,zS,[49],12,100,0⟩=(wA tB [] [],0):=by
 have h0:J13.TOk ⟨1,[]⟩:=vw0.1
 have e:J13.setM ⟨1,[]⟩ [49] 12 100=(tB,0):=by
  unfold J13.setM
  rw[y7 (fun k=>k h0),y7 (fun k=>k zk1),y7 (fun k=>k ⟨dk,dk⟩),y7 dk,y7 dk]
  rfl
 rw[z73 rfl]
 show tresS _ (J13.setM ⟨1,[]⟩ [49] 12 100)=_
 rw[e]
 rfl
theorem vw1:VW (wA tB [] []):=z78 vw0 zqk
theorem zql:stepW (wA tB [] []) ⟨2,1,zS,[49],12,100,0⟩=(wA tA [] [],0):=by
 have h0:J13.TOk tB:=vw1.1
 have e:J13.grantM tB 1 [49] 12 100=(tA,0):=by
  unfold J13.grantM
  rw[y7 (fun k=>k h0),y7 dk,y7 dk,y7 dk,y7 dk]
  rfl
 rw[z74 rfl]
 show tresS _ (J13.grantM tB 1 [49] 12 100)=_
 rw[e]
 rfl
theorem vw2:VW (wA tA [] []):=z78 vw1 zql
theorem zqm:stepW (wA tA [] []) ⟨4,1,zS,[49],12,0,0⟩=(wA tA [] [mA],0):=by
 have h0:J13.TOk tA:=vw2.1
 have e:J13.tellM tA 1 [49] 12=(mA,0):=by
  unfold J13.tellM
  rw[y7 (fun k=>k h0),y7 dk]
  rfl
 rw[z75 rfl]
 show sendS _ (J13.tellM tA 1 [49] 12).1 (J13.tellM tA 1 [49] 12).2=_
 rw[e]
 exact z4u dk
theorem vw3:VW (wA tA [] [mA]):=z78 vw2 zqm
theorem zqn:stepW (wA tA [] [mA]) ⟨11,0,zS,[],0,0,0⟩=(wA tA [] [mA,mA],0):=by
 rw[z4f dk]
 unfold mailS
 rw[y7 (fun k=>k dk),y7 dk,y8 rfl]
 exact z4u dk
theorem vw4:VW (wA tA [] [mA,mA]):=z78 vw3 zqn
theorem zmb {r:List TOp} {m:List TMe} (h:(doS (runO (newO 1) r) pA).2=0) (hl:r.length≠400):stepW (wA tA r (mA :: m)) ⟨9,0,zS,[],0,0,0⟩=(wA tA (r++[pA]) m,0):=by
 rw[z4f dk]
 unfold mailS
 rw[y7 (fun k=>k ⟨dk,by show (0:Int)<((mA :: m).length:Int); simp⟩),y8 rfl]
 have e:appendS ⟨1,r,0⟩ pA=(⟨1,r++[pA],0⟩,0):=z4e zw1 h hl
 have hne:¬ (mAt (wA tA r (mA :: m)) 0).To=0:=(by decide:¬ (1:Int)=0)
 refine (y7 hne).trans ?_
 show keepS (loseW (wA tA r (mA :: m)) 0) 0 (appendS ⟨1,r,0⟩ pA).1 (appendS ⟨1,r,0⟩ pA).2=_
 rw[e]
 exact z2s
theorem zqo:stepW (wA tA [] [mA,mA]) ⟨9,0,zS,[],0,0,0⟩=(wA tA [pA] [mA],0):=zmb (znp (z52 dk) (.inr dk)) dk
theorem vw5:VW (wA tA [pA] [mA]):=z78 vw4 zqo
theorem do1:(doS (newO 1) pA).2=0:=znp (z52 dk) (.inr dk)
theorem zwu:hasR (doS (newO 1) pA).1.L [49] 12=true:=((z53 do1).2 [49] 12).1.2 (.inr ⟨rfl,rfl,rfl⟩)
theorem do2:(doS (doS (newO 1) pA).1 pA).2=0:=znp (z9t do1) (.inl zwu)
theorem zqp:stepW (wA tA [pA] [mA]) ⟨9,0,zS,[],0,0,0⟩=(wA tA [pA,pA] [],0):=zmb (r:=[pA]) do2 dk
theorem vw6:VW (wA tA [pA,pA] []):=z78 vw5 zqp
theorem z61 {L:List TSt} {l:List Int} (h:VW w) (hs:SOk (L.getD i dF)) (hl:l.length<=1000) (e:stepW w (L.getD i dF)=(w',0)):(S_qi_b1 L i (w,l)).den=some (.cont (w',l++[0])):=by
 simp only[S_qi_b1,Scr.den]
 rw[z85 h hs.1 hs.2,e]
 simp only[obind]
 rw[y8 dk]
 simp only[zb]
 rw[Ga]
theorem zw2:F_qi 1 LA=some (wA tA [pA,pA] [],[0,0,0,0,0,0],0):=by
 simp only[F_qi,S_qi,Scr.den,zjy (n:=1) dk,obind]
 rw[y7 dk,y7 dk]
 have h0:=z61 (L:=LA) (i:=0) (l:=[]) vw0 ⟨dk,dk⟩ dk zqk
 have h1:=z61 (L:=LA) (i:=1) (l:=[0]) vw1 ⟨dk,dk⟩ dk zql
 have h2:=z61 (L:=LA) (i:=2) (l:=[0,0]) vw2 ⟨dk,dk⟩ dk zqm
 have h3:=z61 (L:=LA) (i:=3) (l:=[0,0,0]) vw3 ⟨dk,dk⟩ dk zqn
 have h4:=z61 (L:=LA) (i:=4) (l:=[0,0,0,0]) vw4 ⟨dk,dk⟩ dk zqo
 have h5:=z61 (L:=LA) (i:=5) (l:=[0,0,0,0,0]) vw5 ⟨dk,dk⟩ dk zqp
 have e:rangeM (fun i s=>(S_qi_b1 LA i s).den) LA.length 0 (newW 1,[])=some (.next (wA tA [pA,pA] [],[0,0,0,0,0,0])):=by
  show rangeM (fun i s=>(S_qi_b1 LA i s).den) 6 0 (wA ⟨1,[]⟩ [] [],[])=_
  simp only[rangeM,h0,y2i,y3g,h1,h2,h3,h4,h5,yo,Nat.reduceAdd]
 rw[e]
 simp only[zb]
 rw[za0 vw6.fr]
 simp only[obind]
 rw[Gd]
theorem rightsA:(rightV (noW (wA tA [pA,pA] []) 0).L [49] 12).A=100/\(rightV (noW (wA tA [pA,pA] []) 0).L [49] 12).S=0/\(noW (wA tA [pA,pA] []) 0).Ag=nb:=by
 show (rightV (doS (doS (newO 1) pA).1 pA).1.L [49] 12).A=100/\(rightV (doS (doS (newO 1) pA).1 pA).1.L [49] 12).S=0/\(doS (doS (newO 1) pA).1 pA).1.Ag=nb
 obtain⟨_,a2,_,a4,_⟩:=(z53 do1).2 [49] 12
 obtain⟨_,b2,_,b4,_⟩:=(z53 do2).2 [49] 12
 rw[b2,b4,a2,a4,zg8 rfl do2,zg8 rfl do1]
 exact⟨rfl,rfl,rfl⟩
theorem zsm:F_q1f=some true:=by
 have hv:=vw6
 have hp:J13.hasP (wA tA [pA,pA] []).K.E [49] 12=true:=dk
 have hs:=zma hv hp
 have e1:heldW (wA tA [pA,pA] []) [49] 12=100:=by
  show sumTo _ 1=100
  rw[z1e,za1]
  unfold heldK
  rw[rightsA.1,rightsA.2.1]
  rfl
 have e2:usedW (wA tA [pA,pA] []) [49] 12=0:=by
  show sumTo _ 1=0
  rw[z1e,za1]
  unfold usedK
  rw[rightsA.2.2]
  rfl
 have e3:J13.potAt (wA tA [pA,pA] []).K [49] 12=⟨[49],12,100,[100],[0],[0],[0]⟩:=rfl
 have e4:J13.outV ⟨[49],12,100,[100],[0],[0],[0]⟩=100:=dk
 rw[e1,e2,e3,e4] at hs
 simp only[F_q1f,S_q1f,Scr.den]
 rw[zw2]
 simp only[obind,z9,zd]
 rw[y7 dk]
 have ra:=zi (ρ:=Bool) (n:=6) (c:=false) (body:=fun i s=>(S_q1f_b1 (wA tA [pA,pA] [],[0,0,0,0,0,0],0) i s).den) (fun _=>True) (fun i hi _=>by
  simp only[S_q1f_b1,Scr.den]
  have:i=0\/i=1\/i=2\/i=3\/i=4\/i=5:=om
  rcases this with rfl | rfl | rfl | rfl | rfl | rfl <;> rfl) (fun i hi h=>absurd trivial h)
 have ra1:rangeM (fun i s=>(S_q1f_b1 (wA tA [pA,pA] [],[0,0,0,0,0,0],0) i s).den) ([0,0,0,0,0,0]:List Int).length 0 ()=some (.next ()):=ra.1 fun _ _=>trivial
 rw[ra1]
 simp only[zb]
 rw[hs]
 simp only[obind]
 rw[z8z hv,ze (gs:=[((((100:Int)==100&&(100:Int)==100)&&(100:Int)==100)&&(0:Int)==0)=true]) ⟨dk,trivial⟩]
 rfl
theorem zdo:∀ {l:List TOp} {o:TOf},Runs o l->∀ p∈l,POp p
 | [],_,_,p,hp=>nomatch hp
 | q :: l,o,h,p,hp=>by
  rcases y16.1 hp with rfl | hp
  ·exact h.1.1
  ·exact zdo h.2 p hp
open Classical in
noncomputable def codeR:TOf->List TOp->Int
 | _,[]=>0
 | o,p :: l=>if POp p then (if (doS o p).2=0 then codeR (doS o p).1 l else 9) else 4
open Classical in
theorem z6u:∀ {l:List TOp} {o:TOf},codeR o l=0↔Runs o l
 | [],_=>⟨fun _=>trivial,fun _=>rfl⟩
 | p :: l,o=>by
  show (if POp p then (if (doS o p).2=0 then codeR (doS o p).1 l else 9) else 4)=0↔((POp p/\(doS o p).2=0)/\Runs (doS o p).1 l)
  by_cases h1:POp p
  ·rw[y8 h1]
   by_cases h2:(doS o p).2=0
   ·rw[y8 h2,z6u]
    exact⟨fun h=>⟨⟨h1,h2⟩,h⟩,fun h=>h.2⟩
   ·rw[y7 h2]
    exact⟨fun h=>absurd h dk,fun h=>absurd h.1.2 h2⟩
  ·rw[y7 h1]
   exact⟨fun h=>absurd h dk,fun h=>absurd h.1.1 h1⟩
def ShR (l:List TOp):Prop:=l.length<=1000000/\∀ p∈l,p.B.length<=1000000
open Classical in
theorem zer {body:Nat->TOf->Option (Step TOf (TOf×Int×Int))} {a:List TOp}
  (hb:∀ i o,i<a.length->VO o->body i o=some (if POp (a.getD i dF) then (if (doS o (a.getD i dF)).2=0 then .cont (doS o (a.getD i dF)).1 else .ret (noO,(i:Int),9)) else .ret (noO,(i:Int),4))) :
  ∀ (l:List TOp) (i:Nat) (o:TOf),a.drop i=l->VO o->(codeR o l=0->rangeM body l.length i o=some (.next (runO o l)))/\(codeR o l≠0->∃ j:Int,rangeM body l.length i o=some (.ret (noO,j,codeR o l)))
 | [],i,o,_,_=>⟨fun _=>rfl,fun h=>absurd rfl h⟩
 | p :: l,i,o,h,hv=>by
  have hi:i<a.length:=Nat.not_le.1 fun k=>by rw[y1l k] at h; cases h
  have hg:a.getD i dF=p:=by
   rw[y1i hi] at h
   injection h with h
   rw[z18 hi,h]
  have hd:a.drop (i+1)=l:=by
   rw[y1i hi] at h
   injection h
  have hs:=hb i o hi hv
  rw[hg] at hs
  simp only[yq,rangeM,hs]
  have ec:codeR o (p :: l)=if POp p then (if (doS o p).2=0 then codeR (doS o p).1 l else 9) else 4:=rfl
  rw[ec]
  by_cases h1:POp p
  ·by_cases h2:(doS o p).2=0
   ·simp only[y8 h1,y8 h2]
    exact zer hb l (i+1) (doS o p).1 hd (z9t h2)
   ·simp only[y8 h1,y7 h2]
    exact⟨fun h=>absurd h dk,fun _=>⟨_,rfl⟩⟩
  ·simp only[y7 h1]
   exact⟨fun h=>absurd h dk,fun _=>⟨_,rfl⟩⟩
open Classical in
theorem zl9 {p:TOp} (hv:VO o) (hc:p.B.length<=1000000) :
  (((F_q45 p).bind fun r=>if (!r)=true then some (Step.ret (noO,(i:Int),(4:Int))) else (F_q3u o p).bind fun r=>if (r.2 != 0)=true then some (Step.ret (noO,(i:Int),(9:Int))) else some (Step.cont r.1)):Option (Step TOf (TOf×Int×Int))) =
  some (if POp p then (if (doS o p).2=0 then .cont (doS o p).1 else .ret (noO,(i:Int),9)) else .ret (noO,(i:Int),4)):=by
 rw[z9u hc]
 simp only[obind]
 by_cases h1:POp p
 ·rw[yb h1,y7 dk,zdl hv h1.1 hc,y8 h1]
  simp only[obind]
  by_cases h2:(doS o p).2=0
  ·rw[y7 (by simp[h2]),y8 h2]
  ·rw[y8 (by simpa using h2),y7 h2]
 ·rw[yc h1,y8 dk,y7 h1]
theorem zes {n:Int} (hn:1<=n/\n<=6) {l:List TOp} (hl:ShR l):∃ o j,F_qs n l=some (o,j,codeR (newO n) l)/\(codeR (newO n) l=0->o=runO (newO n) l):=by
 obtain⟨g1,g2⟩:=zer (body:=fun i s=>(S_qs_b1 l i s).den) (a:=l) (fun i o hi hv=>by
  simp only[S_qs_b1,Scr.den]
  exact zl9 hv (hl.2 _ (z8 hi))) l 0 (newO n) rfl (z52 hn)
 simp only[F_qs,S_qs,Scr.den]
 by_cases h:codeR (newO n) l=0
 ·have g:=g1 h
  rw[show (⟨n,[],(⟨[],[],[],[]⟩:TBo)⟩:TOf)=newO n from rfl,g,h]
  exact⟨_,_,rfl,fun _=>rfl⟩
 ·obtain⟨j,g⟩:=g2 h
  rw[show (⟨n,[],(⟨[],[],[],[]⟩:TBo)⟩:TOf)=newO n from rfl,g]
  exact⟨_,_,rfl,fun k=>absurd k h⟩
theorem VJ.shr (h:VJ j):ShR j.M:=⟨by have:=h.2.1; omega,fun p hp=>by have:=(zdo h.2.2.2 p hp).len; omega⟩
open Classical in
noncomputable def stateS (j:TJo):TOf×Int:=if VJ j then (nowJ j,0) else (noO,1)
open Classical in
noncomputable def stableS (j:TJo):TOf×Int:=if VJ j then (stbJ j,0) else (noO,1)
theorem zet (h:VJ j):stateS j=(nowJ j,0):=y8 h
theorem z6v (h:¬ VJ j):stateS j=(noO,1):=y7 h
theorem zla (h:VJ j):stableS j=(stbJ j,0):=y8 h
theorem zlb (h:¬ VJ j):stableS j=(noO,1):=y7 h
theorem zh8 (hs:ShR j.M):F_q28 j=some (stateS j):=by
 have h6:=hs.1
 simp only[F_q28,S_q28,Scr.den,F_q4o,S_q4o,zd,obind]
 by_cases hb:(1<=j.Z/\j.Z<=6)/\j.M.length<=400/\(0<=j.Af/\j.Af<=j.M.length)
 ·obtain⟨o,k,e,ho⟩:=zes hb.1 hs
  rw[y7 sk,e]
  simp only[obind]
  by_cases h:codeR (newO j.Z) j.M=0
  ·rw[y7 (by simp[h]),ho h,zet ⟨hb.1,hb.2.1,hb.2.2,z6u.1 h⟩]
   rfl
  ·rw[y8 (by simpa using h),z6v (fun k=>h (z6u.2 k.2.2.2))]
   rfl
 ·rw[y8 sk,z6v (fun k=>hb ⟨k.1,k.2.1,k.2.2.1⟩)]
  rfl
open Classical in
theorem znq (hs:ShR j.M):F_q38 j=some (decide (VJ j)):=by
 simp only[F_q38,S_q38,Scr.den,zh8 hs,obind]
 by_cases h:VJ j
 ·rw[zet h,yb h]; rfl
 ·rw[z6v h,yc h]; rfl
theorem zsn {l:List TOp} (h:ShR l) (n:Nat):ShR (l.take n):=⟨by have:=h.1; rw[y1k]; omega,fun p hp=>h.2 p (y35 hp)⟩
theorem znr (hs:ShR j.M):F_q3f j=some (stableS j):=by
 simp only[F_q3f,S_q3f,Scr.den,znq hs,obind]
 by_cases h:VJ j
 ·have hr:=z3b h.2.2.2 j.Af.toNat
  obtain⟨o,k,e,ho⟩:=zes h.1 (zsn hs j.Af.toNat)
  have h0:=z6u.2 hr
  rw[@decide_eq_true _ (_) h,y7 dk,e,zla h,h0,ho h0]
  simp only[obind]
  rw[z7 ⟨h.2.2.1.1,by have:=h.2.2.1.2; omega,trivial⟩]
  rfl
 ·rw[@decide_eq_false _ (_) h,y8 dk,zlb h]
  rfl
def badB (x:Option (Out (TOf×TOf×Int) R_q7)):Prop:=(∃ a b,x=some (.ret (a,b,false)))\/∃ a b e,x=some (.next (a,b,e))/\e≠0
theorem zk2 {st:TOf} (he:e≠0):∀ n i,badB (rangeM (fun i s=>(S_q7_b1 j i s).den) n i (o,st,e))
 | 0,i=>.inr ⟨o,st,e,rfl,he⟩
 | n+1,i=>by
  have hs:(S_q7_b1 j i (o,st,e)).den=some (.ret (noO,noO,false)):=by
   simp only[S_q7_b1,Scr.den,z9]
   rw[zj (by simp[AllP,he])]
   simp only[obind]
   rw[y8 sj]
   rfl
  simp only[rangeM,hs]
  exact .inl ⟨_,_,rfl⟩
theorem zk3 {j:TJo} (hs:ShR j.M):∀ (l:List TOp) (i:Nat) (o st:TOf),j.M.drop i=l->VO o->¬ Runs o l->badB (rangeM (fun i s=>(S_q7_b1 j i s).den) l.length i (o,st,(0:Int)))
 | [],i,o,st,_,_,h=>absurd trivial h
 | p :: l,i,o,st,h,hv,hr=>by
  have hi:i<j.M.length:=Nat.not_le.1 fun k=>by rw[y1l k] at h; cases h
  have hg:j.M.getD i dF=p:=by
   rw[y1i hi] at h
   injection h with h
   rw[z18 hi,h]
  have hd:j.M.drop (i+1)=l:=by
   rw[y1i hi] at h
   injection h
  have hc:p.B.length<=1000000:=hs.2 p (by rw[<- hg]; exact z8 hi)
  by_cases hp:POp p
  ·have h1:(S_q7_b1 j i (o,st,(0:Int))).den=some (.cont ((doS o p).1,if (i:Int)<j.Af then (doS o p).1 else st,(doS o p).2)):=by
    simp only[S_q7_b1,Scr.den,z9]
    rw[Gg,hg,z5g hc,@decide_eq_true _ (_) hp]
    simp only[obind]
    rw[y7 sj,zb9 hv.smO hc]
    simp only[obind]
    by_cases c:(i:Int)<j.Af
    ·rw[y8 (by simpa using c),y8 c]
    ·rw[y7 (by simpa using c),y7 c]
   simp only[yq,rangeM,h1]
   by_cases h0:(doS o p).2=0
   ·rw[h0]
    exact zk3 hs l (i+1) (doS o p).1 _ hd (z9t h0) fun k=>hr ⟨⟨hp,h0⟩,k⟩
   ·exact zk2 h0 _ _
  ·have h1:(S_q7_b1 j i (o,st,(0:Int))).den=some (.ret (noO,noO,false)):=by
    simp only[S_q7_b1,Scr.den,z9]
    rw[Gg,hg,z5g hc,@decide_eq_false _ (_) hp]
    rfl
   simp only[yq,rangeM,h1]
   exact .inl ⟨_,_,rfl⟩
theorem zso (hs:ShR j.M) (h:¬ VJ j):∃ a b,F_q7 j=some (a,b,false):=by
 have fin:∀ x:Option (Out (TOf×TOf×Int) R_q7),badB x->∃ a b,outM x (fun s=>some (s.1,s.2.1,(s.2.2==0))) (fun x=>some (id x))=some (a,b,false):=by
  rintro x (⟨a,b,rfl⟩ | ⟨a,b,e,rfl,he⟩)
  ·exact⟨a,b,rfl⟩
  ·refine⟨a,b,?_⟩
   rw[zb,y3b.2 he]
 simp only[F_q7,S_q7,Scr.den,z9]
 by_cases hb:j.M.length<=400/\(0<=j.Af/\j.Af<=j.M.length)
 ·rw[y7 sk,zed]
  simp only[obind]
  refine fin _ ?_
  by_cases hn:1<=j.Z/\j.Z<=6
  ·rw[y7 om]
   exact zk3 hs j.M 0 (newO j.Z) _ rfl (z52 hn) fun k=>h ⟨hn,hb.1,hb.2,k⟩
  ·rw[y8 om]
   exact zk2 dk _ _
 ·rw[y8 sk]
  exact⟨_,_,rfl⟩
theorem zmc {a b:List TOp} (h:a.length=b.length) (he:∀ i,i<a.length->a.getD i dF=b.getD i dF):a=b:=by
 refine y34 h fun i h1 h2=>?_
 have:=he i h1
 rwa [z18 h1,z18 h2] at this
open Classical in
theorem zcv {a b:TJo} (hl:a.M.length<=1000000):F_q1u a b=some (decide (a=b)):=by
 obtain⟨n,l,f⟩:=a
 obtain⟨m,k,g⟩:=b
 simp only at hl
 simp only[F_q1u,S_q1u,Scr.den,z9]
 by_cases h:n=m/\f=g/\l.length=k.length
 ·obtain⟨rfl,rfl,h3⟩:=h
  rw[y7 (by simp[h3]),Ga]
  obtain⟨g1,g2⟩:=zi (ρ:=Bool) (n:=l.length) (c:=false) (body:=fun i s=>(S_q1u_b1 ⟨n,l,f⟩ ⟨n,k,f⟩ i s).den) (fun i=>l.getD i dF=k.getD i dF) (fun i hi h=>by
   simp only[S_q1u_b1,Scr.den]
   rw[Ga,y7 (by
    intro z
    rw[yi] at z
    exact y44 (z.symm.trans ((z5x _ _).2 h)))]) (fun i hi h=>by
   simp only[S_q1u_b1,Scr.den]
   rw[Ga,y8 (by
    rw[yi]
    exact y1x.2 fun z=>h ((z5x _ _).1 z))])
  by_cases hk:∀ i,i<l.length->l.getD i dF=k.getD i dF
  ·rw[g1 hk,zmc h3 hk]
   simp[outM]
  ·rw[g2 hk,yc (fun z=>hk fun i hi=>by injection z with _ z; rw[z])]
   rfl
 ·rw[y8 (by
   simp only[ye,y1j]
   by_cases h1:n=m
   ·by_cases h2:f=g
    ·exact .inr fun z=>h ⟨h1,h2,om⟩
    ·exact .inl (.inr h2)
   ·exact .inl (.inl h1)),yc (fun z=>h (by injection z with z1 z2 z3; exact⟨z1,z3,by rw[z2]⟩))]
open Classical in
theorem zk4 {a b:TJo}:F_q74 a b=some (decide (a=b)):=by
 obtain⟨n,l,f⟩:=a
 obtain⟨m,k,g⟩:=b
 simp only[F_q74,S_q74,Scr.den,zd]
 by_cases h:n=m/\f=g
 ·obtain⟨rfl,rfl⟩:=h
  rw[Gg]
  have e:F_q1v l k=some (decide (l=k)):=by
   simp only[F_q1v,S_q1v,Scr.den]
   by_cases h3:l.length=k.length
   ·rw[y7 (by simp[h3])]
    obtain⟨g1,g2⟩:=zi (ρ:=Bool) (n:=l.length) (c:=false) (body:=fun i s=>(S_q1v_b1 l k i s).den) (fun i=>l.getD i dF=k.getD i dF) (fun i hi h=>by
     simp only[S_q1v_b1,Scr.den]
     rw[Ga,y7 (by
      intro z
      rw[yi] at z
      exact y44 (z.symm.trans ((z5x _ _).2 h)))]) (fun i hi h=>by
     simp only[S_q1v_b1,Scr.den]
     rw[Ga,y8 (by
      rw[yi]
      exact y1x.2 fun z=>h ((z5x _ _).1 z))])
    by_cases hk:∀ i,i<l.length->l.getD i dF=k.getD i dF
    ·rw[g1 hk,zmc h3 hk]
     simp[outM]
    ·rw[g2 hk,yc (fun z=>hk fun i hi=>by rw[z])]
     rfl
   ·rw[y8 (by simp only[y1j]; exact fun z=>h3 om),yc (fun z=>h3 (by rw[z]))]
  rw[e]
  simp
 ·rw[zj (by simp only[AllP]; rintro⟨z,_⟩; exact h (by simpa using z))]
  simp only[obind]
  rw[yc (fun z=>h (by injection z with z1 z2 z3; exact⟨z1,z3⟩))]
  congr 1
  rw[show ((n==m)&&(f==g))=false from y1x.2 fun z=>h (by simpa using z)]
  rfl
def SR (l:List TOp):Prop:=l.length<=100/\∀ p∈l,p.B.length<=60
theorem SR.shr {l:List TOp} (h:SR l):ShR l:=⟨by have:=h.1; omega,fun p hp=>by have:=h.2 p hp; omega⟩
theorem VJ.sr (h:VJ j) (hl:j.M.length<=100):SR j.M:=⟨hl,fun p hp=>(zdo h.2.2.2 p hp).len⟩
theorem zk5 {l:List TOp} (h:SR l) {p:TOp} (hp:p.B.length<=60):SR (l.set i p):=⟨by rw[yl]; exact h.1,fun q hq=>by
 rcases y1v hq with hq | rfl
 ·exact h.2 q hq
 ·exact hp⟩
theorem zeu (j:TJo):F_qc j=some true->SR j.M:=by
 intro h
 simp only[F_qc,S_qc,Scr.den] at h
 obtain⟨g1,g2⟩:=zi (ρ:=Bool) (n:=j.M.length) (c:=false) (body:=fun i s=>(S_qc_b1 j i s).den) (fun i=>(j.M.getD i dF).B.length<=60) (fun i hi h=>by
  simp only[S_qc_b1,Scr.den]
  rw[y7 (by simp only[y9]; omega)]) (fun i hi h=>by
  simp only[S_qc_b1,Scr.den]
  rw[y8 (by simp only[y9]; omega)])
 by_cases hk:∀ i,i<j.M.length->(j.M.getD i dF).B.length<=60
 ·rw[g1 hk] at h
  simp only[zb,y14,y9] at h
  refine⟨om,fun p hp=>?_⟩
  obtain⟨i,hi,rfl⟩:=z13 hp
  exact hk i hi
 ·rw[g2 hk] at h
  simp[outM] at h
theorem zdp (j:TJo):∃ b,F_qc j=some b:=by
 simp only[F_qc,S_qc,Scr.den]
 obtain⟨g1,g2⟩:=zi (ρ:=Bool) (n:=j.M.length) (c:=false) (body:=fun i s=>(S_qc_b1 j i s).den) (fun i=>(j.M.getD i dF).B.length<=60) (fun i hi h=>by
  simp only[S_qc_b1,Scr.den]
  rw[y7 (by simp only[y9]; omega)]) (fun i hi h=>by
  simp only[S_qc_b1,Scr.den]
  rw[y8 (by simp only[y9]; omega)])
 by_cases hk:∀ i,i<j.M.length->(j.M.getD i dF).B.length<=60
 ·rw[g1 hk]; exact⟨_,rfl⟩
 ·rw[g2 hk]; exact⟨_,rfl⟩
theorem zdq (hj:SR j.M) (hl:j.M.length<=50) {s:TTape} (hs:TapeOk s):∃ j' s',F_q72 j s=some (j',s')/\TapeOk s'/\SR j'.M:=by
 obtain⟨n,l,f⟩:=j
 simp only at hj hl
 simp only[F_q72,S_q72,Scr.den]
 rw[Ga]
 obtain⟨k,s1,e1,q1,k0,k1⟩:=z1d (n:=6) hs om om
 simp only[e1,obind]
 by_cases h:(k==0)=true
 ·rw[y8 h]
  obtain⟨v,s2,e2,q2,_⟩:=z10 (l:=[0,1,6,7]) q1 dk dk
  simp only[e2,obind]
  rw[Ga]
  exact⟨_,_,rfl,q2,hj⟩
 rw[y7 h]
 by_cases h:(k==1)=true
 ·rw[y8 h]
  obtain⟨v,s2,e2,q2,_⟩:=z10 (l:=[(-1),0,(l.length:Int),(i64.wrap ((l.length:Int)+1))]) q1 sj sj
  simp only[e2,obind]
  rw[Ga]
  exact⟨_,_,rfl,q2,hj⟩
 rw[y7 h]
 by_cases h:(k==2)=true
 ·rw[y8 h]
  by_cases hc:0<l.length
  ·rw[y8 sk]
   obtain⟨i,s2,e2,q2,i0,i1⟩:=z1d (n:=(l.length:Int)) q1 om om
   obtain⟨v,s3,e3,q3,_⟩:=z10 (l:=[(-1),0,5,100000]) q2 dk dk
   simp only[e2,e3,obind]
   rw[z7 ⟨i0,om,om,trivial⟩]
   simp only[zb]
   rw[z7 ⟨by rw[yl]; omega,trivial⟩]
   exact⟨_,_,rfl,q3,zk5 hj (hj.2 (l.getD (0+i.toNat) dF) (z8 om))⟩
  ·rw[y7 (by simp only[y9]; omega)]
   simp only[zb]
   rw[Ga]
   exact⟨_,_,rfl,q1,hj⟩
 rw[y7 h]
 by_cases h:(k==3)=true
 ·rw[y8 h]
  by_cases hc:0<l.length
  ·rw[y8 sk,Ga,Ga]
   exact⟨_,_,rfl,q1,by show (l.drop 1).length<=100; rw[y2v]; omega,fun p hp=>hj.2 p (y36 hp)⟩
  ·rw[y7 (by simp only[y9]; omega),Ga]
   exact⟨_,_,rfl,q1,hj⟩
 rw[y7 h]
 by_cases h:(k==4)=true
 ·rw[y8 h]
  obtain⟨u,s2,e2,q2,u0,u1⟩:=z29 (lo:=0) (hi:=10) q1 om om om
  obtain⟨v,s3,e3,q3,v0,v1⟩:=z1d (n:=4) q2 om om
  simp only[e2,e3,obind]
  rw[Ga]
  simp only[zb]
  rw[z7 ⟨by rw[yp]; simp; omega,trivial⟩]
  refine⟨_,_,rfl,q3,by show (l++_).length<=100; rw[yp]; simp; omega,fun p hp=>?_⟩
  rcases y1p.1 hp with hp | hp
  ·exact hj.2 p hp
  ·rw[y2b.1 hp]; exact y1g _
 ·rw[y7 h]
  by_cases hc:1<l.length
  ·rw[y8 sk,z7 ⟨om,om,om,om,by rw[yl]; omega,trivial⟩]
   simp only[zb]
   rw[z7 ⟨by rw[yl,yl]; omega,trivial⟩]
   exact⟨_,_,rfl,q1,zk5 (zk5 hj (hj.2 _ (z8 om))) (hj.2 _ (z8 om))⟩
  ·rw[y7 (by simp only[y9]; omega)]
   simp only[zb]
   rw[Ga]
   exact⟨_,_,rfl,q1,hj⟩
end Go.Proofs.YtkhgaalekilaeaaGreatDoor
namespace Go.Proofs.YtkhgaalekilaeaaGreatDoor.J13
open Go Go.TA
open Go.IntKind (i64)
def BSm (y:TTr):Prop:=y.E.length<=100/\∀ p∈y.E,p.B.length<=1000/\PSmall p
variable {y:TTr}
theorem BSm.small (h:BSm y):Small y:=fun p hp=>by have:=(h.2 p hp).1; omega
theorem BSm.tsmall (h:BSm y):TSmall y:=⟨by have:=h.1; omega,fun i hi=>(h.2 _ (z8 hi)).2⟩
theorem TOk.bsm {t:TTr} (h:TOk t):BSm t:=⟨by have:=h.2.1; omega,fun p hp=>by
 obtain⟨i,hi,rfl⟩:=z13 hp
 have hp':=(h.2.2 i hi).1
 exact⟨by have:=z3u hp'.1; omega,hp'.small h.1.2⟩⟩
theorem z62 {l:List TPo} (h:l.length<=100/\∀ p∈l,p.B.length<=1000/\PSmall p) {i:Nat} {p:TPo} (h1:p.B.length<=1000) (h2:PSmall p):(l.set i p).length<=100/\∀ q∈l.set i p,q.B.length<=1000/\PSmall q :=
 ⟨by rw[yl]; exact h.1,fun q hq=>by
  rcases y1v hq with hq | rfl
  ·exact h.2 q hq
  ·exact⟨h1,h2⟩⟩
variable {s:TTape}
theorem BadCode_spec (hs:TapeOk s):∃ c s',F_q57 s=some (c,s')/\TapeOk s'/\c.length<=1000:=by
 simp only[F_q57,S_q57,Scr.den]
 obtain⟨v,s',h3,h4,h5,h6⟩:=z1d (n:=12) hs om om
 have h:∀ c∈([[],[48],[48,49],[49,46],[46,49],[49,46,46,50],[49,48,48],[49,46,50,46,51,46,52,46,53],[120],[49,32],[57,57,46,57,57,46,57,57,46,57,57],[52]]:List Y8),c.length<=1000:=dk
 refine⟨_,s',?_,h4,h _ (z8 (show v.toNat<12 from om))⟩
 rw[h3,obind,z7 ⟨by simpa using h5,by simp only; omega,trivial⟩]
theorem Bent_spec {x:TTr} (hx:TOk x) (hs:TapeOk s):∃ o s' l,F_q80 x s=some (o,s',l)/\TapeOk s'/\BSm ⟨o,l⟩:=by
 have hb:=hx.bsm
 have h60:=hx.2.1
 have hrow:∀ i,i<x.E.length->((x.E.getD i dF).A.length:Int)=x.O/\((x.E.getD i dF).H.length:Int)=x.O/\((x.E.getD i dF).G.length:Int)=x.O/\((x.E.getD i dF).P.length:Int)=x.O:=fun i hi=>by
  have hp:=(hx.2.2 i hi).1
  exact⟨hp.2.2.2.1.1.1,hp.2.2.2.1.2.1.1,hp.2.2.2.1.2.2.1.1,hp.2.2.2.1.2.2.2.1⟩
 have h6:=hx.1
 have hloop:∀ i0,rangeM (fun i s'=>(S_q1j_b1 i0 x s i s').den) x.E.length 0 (x.O,([]:List TPo))=some (.next (x.O,x.E)):=fun i0=>z6l (fun i l hi hl=>by
  obtain⟨q1,q2,q3,q4⟩:=hrow i hi
  simp only[S_q1j_b1,Scr.den]
  iterate 5 rw[Ge]
  rw[z7 (by
   simp only[AllP,y1b]
   exact⟨fun _=>⟨om,om,om,om⟩,om,om,om,om⟩)])
 simp only[F_q80,F_q1j,S_q1j,Scr.den,hloop,outM,z9]
 by_cases h0:x.E.length=0
 ·have hg:ghostB x s=0:=y8 h0
  rw[hg,zj (by simp[AllP,h0])]
  simp only[obind]
  rw[y8 (by simp[h0]),Ge]
  obtain⟨v,s1,e1,q1,_⟩:=z10 (l:=[0,1,6,7]) hs dk dk
  simp only[e1,obind]
  exact⟨_,_,_,rfl,q1,hb⟩
 obtain⟨v,s1,e1,q1,v0,v1⟩:=z1d (n:=6) hs om om
 rw[ze (by simp only[AllP,y1b]; rw[y3b]; omega),e1]
 simp only[obind]
 by_cases h5:v=5
 ·have hg:ghostB x s=x.E.length:=by
   unfold ghostB
   rw[y7 h0,e1]
   exact y8 h5
  rw[hg,y8 (by simp[h5]),Ge]
  obtain⟨v,s2,e2,q2,_⟩:=z10 (l:=[0,1,6,7]) q1 dk dk
  simp only[e2,obind]
  exact⟨_,_,_,rfl,q2,hb⟩
 obtain⟨k,s2,e2,q2,k0,k1⟩:=z1d (n:=(x.E.length:Int)) q1 om om
 have hg:ghostB x s=k.toNat:=by
  unfold ghostB
  rw[y7 h0,e1]
  simp only[y7 h5,e2]
 obtain⟨i,hi⟩:∃ i,i=k.toNat:=⟨_,rfl⟩
 have hil:i<x.E.length:=om
 rw[hg,<- hi,y7 (by
  rw[ye,y15,y15]
  exact fun z=>z.elim (fun z=>om) h5),Ge,e2]
 simp only[obind]
 rw[<- hi,Ge,z7 (by simp only[AllP,y1b])]
 obtain⟨r1,r2,r3,r4⟩:=hrow i hil
 have hbp:=hb.2 _ (z8 hil)
 have hbl:x.E.length<=100/\∀ p∈x.E,p.B.length<=1000/\PSmall p:=hb
 generalize x.E.getD i dF=p at r1 r2 r3 r4 hbp |-
 obtain⟨hc,hs1,hs2,hs3,hs4⟩:=hbp
 obtain⟨j,s3,e3,q3,j0,j1⟩:=z1d (n:=(p.A.length:Int)) q2 om om
 obtain⟨m,s4,e4,q4,m0,m1⟩:=z1d (n:=7) q3 om om
 simp only[e3,e4,obind]
 have G1:∀ {α:Type} (K:Option α),guardP (AllP [p.A.length<2 ^ 63/\p.H.length<2 ^ 63/\p.G.length<2 ^ 63/\p.P.length<2 ^ 63]) K=K:=fun K=>Ge
 by_cases c0:(m==0)=true
 ·rw[y8 c0]
  obtain⟨c,s5,e5,q5,hcl⟩:=BadCode_spec q4
  simp only[e5,obind,G1]
  exact⟨_,_,_,rfl,q5,z62 hbl hcl ⟨hs1,hs2,hs3,hs4⟩⟩
 rw[y7 c0]
 by_cases c0:(m==1)=true
 ·rw[y8 c0]
  obtain⟨c,s5,e5,q5,_⟩:=z10 (l:=[(-1),99,100]) q4 dk dk
  simp only[e5,obind,G1]
  exact⟨_,_,_,rfl,q5,z62 hbl hc ⟨hs1,hs2,hs3,hs4⟩⟩
 rw[y7 c0]
 by_cases c0:(m==2)=true
 ·rw[y8 c0]
  obtain⟨c,s5,e5,q5,_⟩:=z10 (l:=[(-1000000000000001),1000000000000000,1000000000000001]) q4 dk dk
  simp only[e5,obind,G1]
  exact⟨_,_,_,rfl,q5,z62 hbl hc ⟨hs1,hs2,hs3,hs4⟩⟩
 rw[y7 c0]
 by_cases c0:(m==3)=true
 ·rw[y8 c0]
  obtain⟨c,s5,e5,q5,_⟩:=z10 (l:=[(-1),0,1000000000000000,1000000000000001]) q4 dk dk
  simp only[e5,obind]
  rw[Ge,z7 (by simp only[AllP,y1b,yl]),Gf]
  exact⟨_,_,_,rfl,q5,z62 hbl hc ⟨by rw[yl]; exact hs1,hs2,hs3,hs4⟩⟩
 rw[y7 c0]
 by_cases c0:(m==4)=true
 ·rw[y8 c0]
  obtain⟨c,s5,e5,q5,_⟩:=z1d (n:=2) q4 om om
  simp only[e5,obind]
  rw[Ge,z7 (by simp only[AllP,y1b,yl]),Gf]
  exact⟨_,_,_,rfl,q5,z62 hbl hc ⟨hs1,by rw[yl]; exact hs2,hs3,hs4⟩⟩
 rw[y7 c0]
 by_cases c0:(m==5)=true
 ·rw[y8 c0]
  have ew:i64.wrap ((p.P.length:Int)-1)=(p.P.length:Int)-1:=wrapId om om
  simp only[G1]
  rw[z7 (by simp only[AllP,y1b,ew]; omega)]
  exact⟨_,_,_,rfl,q4,z62 hbl hc ⟨hs1,hs2,hs3,by rw[y1k]; omega⟩⟩
 rw[y7 c0]
 simp only[G1]
 rw[z7 (by simp only[AllP,y1b,yl,yq,y1m]; omega)]
 have hbs:=z62 (i:=i) hbl hc ⟨hs1,hs2,hs3,hs4⟩
 refine⟨_,_,_,rfl,q4,?_,fun q hq=>?_⟩
 ·simp only[yp,yl,yq,y1m]; omega
 ·rcases y1p.1 hq with hq | hq
  ·exact hbs.2 q hq
  ·rw[y2b.1 hq]
   exact hbs.2 _ (z8 (by rw[yl]; omega))
theorem SmallTreasury_spec (t:TTr):∃ b,F_q1m t=some b/\(b=true->BSm t):=by
 simp only[F_q1m,S_q1m,Scr.den]
 obtain⟨g1,g2⟩:=zi (ρ:=Bool) (n:=t.E.length) (c:=false) (body:=fun i s=>(S_q1m_b1 t i s).den)
  (fun i=>((((t.E.getD i dF).B.length<=60/\(t.E.getD i dF).A.length<=12)/\(t.E.getD i dF).H.length<=12)/\(t.E.getD i dF).G.length<=12)/\(t.E.getD i dF).P.length<=12) (fun i hi h=>by
  simp only[S_q1m_b1,Scr.den,z9]
  rw[y7 (by simp only[ye,y9]; omega)]) (fun i hi h=>by
  simp only[S_q1m_b1,Scr.den,z9]
  rw[y8 (by simp only[ye,y9]; omega)])
 by_cases hk:∀ i,i<t.E.length->((((t.E.getD i dF).B.length<=60/\(t.E.getD i dF).A.length<=12)/\(t.E.getD i dF).H.length<=12)/\(t.E.getD i dF).G.length<=12)/\(t.E.getD i dF).P.length<=12
 ·rw[g1 hk]
  refine⟨_,rfl,fun h=>?_⟩
  have h:=y24 h
  refine⟨om,fun p hp=>?_⟩
  obtain⟨i,hi,rfl⟩:=z13 hp
  have:=hk i hi
  exact⟨om,om,om,om,om⟩
 ·rw[g2 hk]
  exact⟨_,rfl,fun h=>by cases h⟩
end Go.Proofs.YtkhgaalekilaeaaGreatDoor.J13
