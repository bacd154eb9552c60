/- A part of the proof: plain laws of what the functions compute. No condition. -/
import Derived.Test.YtdmddkbngmhepaaGreatDoorP3
namespace Go.Proofs.YtdmddkbngmhepaaGreatDoor.J13
open Go Go.TA
open Go.IntKind (i64)
def PGood (p:TPo):Prop:=good p.D=true/\True
variable {l:List TPo} {c:List UInt8} {y:Int}
theorem has_iff:hasP l c y=true↔∃ x∈l,x.D=c/\x.E=y:=by
 unfold hasP
 rw[y4w]
 exact⟨fun⟨x,h1,h2⟩=>⟨x,h1,zen.1 h2⟩,fun⟨x,h1,h2⟩=>⟨x,h1,zen.2 h2⟩⟩
def Srt (l:List TPo):Prop:=∀ i,i<l.length->i=0\/cmpP (l.getD (i-1) default) (l.getD i default)<0
variable {a b:TPo}
theorem zbg (h:good a.D=true\/good b.D=true):cmpP a b<0↔lexC (parts a.D) (parts b.D)<0\/(lexC (parts a.D) (parts b.D)=0/\a.E<b.E):=by
 unfold cmpP
 rw[z2w h]
 generalize lexC (parts a.D) (parts b.D)=c
 by_cases hc:c=0
 ·rw[y5 (by simpa using hc)]
  unfold cmpI
  by_cases h1:a.E<b.E
  ·rw[y6 h1]; simp[hc,h1]
  ·rw[y5 h1]
   split <;> simp[hc,h1]
 ·rw[y6 hc]; simp[hc]
theorem cmpP_eq (ha:good a.D=true) (hb:good b.D=true):cmpP a b=0↔a.D=b.D/\a.E=b.E:=by
 unfold cmpP
 rw[z2w (.inl ha)]
 by_cases hc:lexC (parts a.D) (parts b.D)=0
 ·rw[y5 (by simpa using hc)]
  have e:=z7y ha hb (z33 hc)
  unfold cmpI
  by_cases h1:a.E<b.E
  ·rw[y6 h1]; simp; omega
  ·rw[y5 h1]
   by_cases h2:a.E>b.E
   ·rw[y6 h2]; simp; omega
   ·rw[y5 h2]; simp[e]; omega
 ·rw[y6 hc]
  constructor
  ·intro h; exact absurd h hc
  ·rintro⟨h1,_⟩
   exact absurd (by rw[h1]; exact zao _) hc
theorem zdn {c:TPo} (ha:good a.D=true) (hb:good b.D=true) (h:cmpP a b<0) (h':cmpP b c<0):cmpP a c<0:=by
 rw[zbg (.inl ha)] at h |-
 rw[zbg (.inl hb)] at h'
 rcases h with h | ⟨h,h2⟩
 ·rcases h' with h' | ⟨h',_⟩
  ·exact .inl (z9f h h')
  ·rw[<- z33 h']; exact .inl h
 ·rcases h' with h' | ⟨h',h3⟩
  ·rw[z33 h]; exact .inl h'
  ·rw[z33 h]; exact .inr ⟨h',om⟩
theorem znw (ha:good a.D=true):cmpP b a=-cmpP a b:=by
 unfold cmpP
 rw[z2w (.inl ha),z2w (.inr ha),zap (parts a.D) (parts b.D)]
 by_cases h:lexC (parts a.D) (parts b.D)=0
 ·rw[y5 om,y5 om]
  unfold cmpI
  by_cases h1:a.E<b.E
  ·rw[y5 om,y6 om,y6 h1]; rfl
  ·by_cases h2:b.E<a.E
   ·rw[y6 h2,y5 h1,y6 om]
   ·rw[y5 h2,y5 om,y5 h1,y5 om]; rfl
 ·rw[y6 om,y6 h]
theorem Srt.lt (h:Srt l) (hg:∀ r∈l,PGood r):∀ {i j:Nat},i<j->j<l.length->cmpP (l.getD i default) (l.getD j default)<0:=by
 intro i j hij
 induction j with
 | zero=>omega
 | succ j ih =>
  intro hj
  have h1:=(h (j+1) hj).resolve_left om
  rw[show j+1-1=j from om] at h1
  by_cases e:i=j
  ·subst e; exact h1
  ·exact zdn (hg _ (zb om)).1 (hg _ (zb om)).1 (ih om om) h1
def posP (l:List TPo) (r:TPo):Nat:=l.findIdx (fun x=>decide (0<=cmpP x r))
variable {i:Nat} {α:Type}
theorem z17 [Inhabited α] {l:List α} (hi:i<l.length):l.getD i default=l[i]:=by simp[List.getD_eq_getElem?_getD,List.getElem?_eq_getElem hi]
theorem posP_le (l:List TPo) (r:TPo):posP l r<=l.length:=List.findIdx_le_length
variable {r:TPo}
theorem zbh (hi:i<posP l r):cmpP (l.getD i default) r<0:=by
 have hl:i<l.length:=y19 hi (posP_le l r)
 have:=List.not_of_lt_findIdx hi
 rw[z17 hl]
 simpa using this
theorem zbi (hi:posP l r<l.length):0<=cmpP (l.getD (posP l r) default) r:=by
 have:=y4c (xs:=l) (p:=fun x=>decide (0<=cmpP x r)) (w:=hi)
 rw[z17 hi]
 exact y2d this
theorem zs0 (hS:Srt l) (hg:∀ x∈l,PGood x) (hi:i<l.length) (hp:posP l r<=i):0<=cmpP (l.getD i default) r:=by
 have h0:=zbi (l:=l) (r:=r) om
 by_cases e:posP l r=i
 ·rwa [e] at h0
 ·have h1:=hS.lt hg (show posP l r<i from om) hi
  by_cases h:cmpP (l.getD i default) r<0
  ·have:=zdn (hg _ (zb om)).1 (hg _ (zb hi)).1 h1 h
   omega
  ·omega
variable {j:Nat}
theorem zef (h:i+j<4611686018427387904):i64.wrap ((IntKind.u64.wrap (i64.wrap ((i:Int)+(j:Int)))).fdiv (2 ^ (min (1:Int).toNat IntKind.u64.bits)))=(((i+j) / 2:Nat):Int):=by
 rw[wrapId (n:=(i:Int)+(j:Int)) om om]
 have e:IntKind.u64.wrap ((i:Int)+(j:Int))=(i:Int)+(j:Int):=by
  simp only[IntKind.wrap,IntKind.bits,IntKind.signed]
  simp
  omega
 rw[e]
 have e2:(2:Int) ^ (min (1:Int).toNat IntKind.u64.bits)=2:=dk
 rw[e2,Int.fdiv_eq_ediv_of_nonneg _ om,wrapId om om]
 omega
theorem PGood.len (h:PGood r):r.D.length<=1000000:=by have:=z3e h.1; omega
theorem zcq (hg:∀ x∈l,PGood x) (k:Nat):(l.getD k default).D.length<=1000000:=by
 by_cases h:k<l.length
 ·exact (hg _ (zb h)).len
 ·rw[y8,yj om]; exact y1f _
theorem z9j (hl:l.length<=1000000) (hS:Srt l) (hg:∀ x∈l,PGood x) (hr:PGood r) :
  F_q2j r l=some ((posP l r:Int),decide (posP l r<l.length)&&(cmpP (l.getD (posP l r) default) r==0)):=by
 have hc:∀ k,F_q34 (l.getD k default) r=some (cmpP (l.getD k default) r):=fun k=>zdl (zcq hg k) hr.len
 have hp:=posP_le l r
 simp only[F_q2j,S_q2j,Scr.den]
 obtain⟨s,e,hJ⟩:=z2f (step:=fun s=>(S_q2j_b1 r l s).den) (fun s=>(s.2-s.1).toNat) (fun s=>∃ i j:Nat,s=((i:Int),(j:Int))/\i<=posP l r/\posP l r<=j/\j<=l.length) (fun s=>s.1=(posP l r:Int)) (fun s hI=>by
  obtain⟨i,j,rfl,h1,h2,h3⟩:=hI
  simp only[S_q2j_b1,Scr.den,zef (show i+j<4611686018427387904 from om),hc,obind,yg]
  by_cases hij:i<j
  ·left
   rw[y6 (by simpa using hij),za ⟨om,om,om,trivial⟩,yo]
   by_cases hlt:cmpP (l.getD ((i+j) / 2) default) r<0
   ·rw[y6 (by simpa using hlt),wrapId om om]
    have:(i+j) / 2<posP l r:=by
     by_cases h:(i+j) / 2<posP l r
     ·exact h
     ·have:=zs0 (r:=r) hS hg (show (i+j) / 2<l.length from om) om
      omega
    exact⟨_,rfl,⟨(i+j) / 2+1,j,sj,om,h2,h3⟩,by simp only; omega⟩
   ·rw[y5 (by simpa using hlt)]
    have:posP l r<=(i+j) / 2:=by
     by_cases h:posP l r<=(i+j) / 2
     ·exact h
     ·have:=zbh (show (i+j) / 2<posP l r from om)
      omega
    exact⟨_,rfl,⟨i,(i+j) / 2,rfl,h1,this,om⟩,by simp only; omega⟩
  ·right
   rw[y5 (by simpa using hij)]
   exact⟨_,rfl,by simp only; omega⟩) _ (0,(l.length:Int)) (y3w _) ⟨0,l.length,rfl,om,hp,om⟩
 rw[e]
 simp only[outM,hJ,yg,hc,zf,yo]
 by_cases h:posP l r<l.length
 ·rw[zi (by exact⟨sk,trivial⟩),obind,za ⟨fun _=>om,fun _=>h,fun _=>h,trivial⟩]
  simp[h]
 ·rw[zu (by simp[AllP]; omega),obind,za ⟨fun _=>om,fun h'=>absurd h (by simp[AllP] at h'; omega),fun h'=>absurd h (by simp[AllP] at h'; omega),trivial⟩]
  simp[h]
theorem zeg (hS:Srt l) (hg:∀ x∈l,PGood x) (hr:PGood r) :
  (decide (posP l r<l.length)&&(cmpP (l.getD (posP l r) default) r==0))=hasP l r.D r.E/\(hasP l r.D r.E=true->pix l r.D r.E=posP l r):=by
 have key:hasP l r.D r.E=true->pix l r.D r.E=posP l r:=fun h=>by
  obtain⟨h1,h2,h3⟩:=pix_lt h
  have h4:=hg _ (zb h1)
  have h5:cmpP (l.getD (pix l r.D r.E) default) r=0:=(cmpP_eq h4.1 hr.1).2 ⟨h2,h3⟩
  rcases y3q (pix l r.D r.E) (posP l r) with h | h | h
  ·have:=zbh h; omega
  ·exact h
  ·have h6:=hS.lt hg h h1
   have h7:=zbi (l:=l) (r:=r) om
   have h8:=hg _ (zb (show posP l r<l.length from om))
   have:cmpP (l.getD (posP l r) default) r<0:=by
    rw[zbg (.inl h8.1)] at h6 |-
    rw[h2,h3] at h6
    exact h6
   omega
 refine⟨?_,key⟩
 rw[y1k]
 simp only[ym,y7,y13]
 constructor
 ·rintro⟨h1,h2⟩
  obtain⟨h3,h4⟩:=(cmpP_eq (hg _ (zb h1)).1 hr.1).1 h2
  exact has_iff.2 ⟨_,zb h1,h3,h4⟩
 ·intro h
  obtain⟨h1,h2,h3⟩:=pix_lt h
  rw[key h] at h1 h2 h3
  exact⟨h1,(cmpP_eq (hg _ (zb h1)).1 hr.1).2 ⟨h2,h3⟩⟩
theorem zcr (l:List TPo) (p:Nat) (hp:p<=l.length) (z r:TPo) :
  (copyL (l++[z]) (0+(p+1)) (min ((l++[z]).length-p) ((l++[z]).length-(p+1))) (fun i=>(l++[z]).getD ((0+p)+i) default)).set (0+p) r=insL l p r:=by
 refine y2s (by simp[copyL,insL]; omega) fun i h1 h2=>?_
 have hi:i<l.length+1:=by rw[zr] at h2; exact h2
 rw[<- z17 h2,z1m hp,y3x]
 by_cases e:i<p
 ·rw[y5 om,y6 e]
  simp only[copyL,y33,y3e]
  rw[y5 om,y8,y8,yl om]
 ·by_cases e2:i=p
  ·rw[y6 om,y5 e,y6 e2]
  ·rw[y5 om,y5 e,y5 e2]
   simp only[copyL,y33,y3e,yu,y21]
   rw[y6 om,show 0+p+(i-(0+(p+1)))=i-1 from om,y8,y8,yl om]
def withT (p:TPo) (x:Int):TPo:=⟨p.D,p.E,x,p.A,p.L,p.K,p.S⟩
def zeros (n:Int):List Int:=List.replicate n.toNat (0:Int)
def newP (n:Int) (c:List UInt8) (y x:Int):TPo:=⟨c,y,x,zeros n,zeros n,zeros n,zeros n⟩
def setM (t:TTr) (c:List UInt8) (y x:Int):TTr×Int :=
 if ¬ TOk t then (zT,1) else if ¬ good c=true then (zT,5) else if ¬ ((0<=y/\y<=99)/\-1000000000000000<=x/\x<=1000000000000000) then (zT,2) else
  if hasP t.C c y=true then (putP t c y (withT (potAt t c y) x),0) else if t.C.length=60 then (zT,3)
  else (⟨t.O,insL t.C (posP t.C (newP t.O c y x)) (newP t.O c y x)⟩,0)
variable {p:Nat} {z:TPo}
theorem insL_at (hp:p<=l.length):(insL l p z).getD p default=z:=by
 rw[z1m hp,y5 (y5m p),y6 rfl]
theorem zpz (hp:p<=l.length):(insL l p z).set p r=insL l p r:=by
 refine y2s (by simp[zr]) fun i h1 h2=>?_
 have hi:i<l.length+1:=by rw[zr] at h2; exact h2
 rw[y3x]
 by_cases e:p=i
 ·subst e; rw[y6 rfl,<- z17 h2,insL_at hp]
 ·rw[y5 e,<- z17 h2,<- z17 (by rw[zr]; omega),z1m hp,z1m hp]
  split
  ·rfl
  ·rw[y5 fun h=>e h.symm,y5 fun h=>e h.symm]
variable {t:TTr}
theorem TOk.srt (h:TOk t):Srt t.C:=fun i hi=>by
 rcases y3l i with h0 | h0
 ·exact .inl h0
 ·exact .inr ((h.2.2 i hi).2 h0)
theorem TOk.good (h:TOk t):∀ p∈t.C,PGood p:=fun p hp=>by
 obtain⟨i,hi,rfl⟩:=z1b hp
 exact⟨(h.2.2 i hi).1.1,trivial⟩
theorem Set_eq (hs:Small t) (hc:c.length<=1000000) (y x:Int):F_q5y t c y x=some (setM t c y x):=by
 simp only[F_q5y,S_q5y,Scr.den,Valid_eq hs,z2z (l:=c) om,zhv hc,zy,obind,zd]
 unfold setM
 by_cases h1:TOk t
 ·rw[y5 (show ¬ (!decide (TOk t))=true by rw[yd h1]; simp),y5 (show ¬ ¬ TOk t from fun h=>h h1)]
  have hg:=z2v c
  by_cases h2:good c=true
  ·rw[h2,y7] at hg
   rw[y5 (show ¬ (((parts c).length:Int)==0)=true by simp only[y13]; omega),y5 (show ¬ ¬ good c=true from fun h=>h h2)]
   by_cases h3:0<=y/\y<=99
   ·rw[h2,yd h3,zi (by exact⟨rfl,trivial⟩)]
    simp only[obind]
    by_cases h4:-1000000000000000<=x/\x<=1000000000000000
    ·rw[y5 (by rw[yd h4]; simp),y5 (show ¬ ¬ ((0<=y/\y<=99)/\-1000000000000000<=x/\x<=1000000000000000) from fun h=>h ⟨h3,h4⟩)]
     have l0:=h1.2.1
     have e0:=h1.1
     have hr:PGood (⟨c,y,0,[],[],[],[]⟩:TPo):=⟨h2,trivial⟩
     obtain⟨k1,k2⟩:=zeg h1.srt h1.good hr
     have hp:=posP_le t.C (⟨c,y,0,[],[],[],[]⟩:TPo)
     rw[zlc h1.small]
     simp only[obind,z9j (show t.C.length<=1000000 from om) h1.srt h1.good hr,k1,yg,yo]
     by_cases h5:hasP t.C c y=true
     ·have hlt:=(pix_lt h5).1
      have e:=k2 h5
      rw[y5 (show ¬ (!hasP t.C c y)=true by rw[h5]; simp),y6 (show hasP t.C c y=true from h5)]
      simp only[outM]
      rw[<- e,za (by simp only[AllP,yq]; exact⟨om,hlt,hlt⟩),za (by simp only[AllP,yq,yb]; omega)]
      rfl
     ·rw[y6 (show (!hasP t.C c y)=true by simpa using h5),y5 (show ¬ hasP t.C c y=true from h5)]
      by_cases h6:t.C.length=60
      ·rw[y6 (show ((t.C.length:Int)==60)=true from sk),y6 h6]
       rfl
      ·rw[y5 (show ¬ ((t.C.length:Int)==60)=true from sk),y5 h6]
       have hz:PSmall (newP t.O c y 0):=by
        have:(zeros t.O).length<=1000000:=by simp[zeros]; omega
        exact⟨this,this,this,this⟩
       rw[za (by simp only[AllP,yq]; omega),za (by simp only[AllP,yq,y1x]; omega)]
       show outM ((F_q3e (newP t.O c y 0)).bind _) _ _=_
       rw[z26 hz]
       simp only[obind,F_q79,yg]
       rw[za ⟨om,hp,om⟩]
       simp only[obind,outM]
       rw[za (by simp only[AllP,yq,zr]; omega),za (by simp only[AllP,yq,yb,zr]; omega),insL_at hp,zpz hp]
       rfl
    ·rw[y6 (by rw[yh h4]; simp),y6 (show ¬ ((0<=y/\y<=99)/\-1000000000000000<=x/\x<=1000000000000000) from fun h=>h4 h.2)]
   ·rw[h2,yh h3,zu (by simp[AllP])]
    simp only[obind]
    rw[y6 (by rfl),y6 (show ¬ ((0<=y/\y<=99)/\-1000000000000000<=x/\x<=1000000000000000) from fun h=>h3 h.1)]
  ·rw[y4z] at h2
   rw[h2,y9] at hg
   rw[y6 (show (((parts c).length:Int)==0)=true by simp only[y13]; omega),y6 (show ¬ good c=true by simp[h2])]
 ·rw[y6 (show (!decide (TOk t))=true by rw[yh h1]; simp),y6 (show ¬ TOk t from h1)]
theorem zta (c y y':Int):((decide (c>0)||(c==0&&decide (y>y')))=true)↔¬ (c<0\/(c=0/\y<=y')):=by
 simp only[yc,ym,y7,y13]; omega
variable {x:Int}
theorem znx (h1:TOk t) (hc:good c=true) (hn:¬ hasP t.C c y=true) :
  iterM (fun s=>(S_q1u_b1 c y (t.O,t.C) s).den) 0=some (.next (posP t.C (newP t.O c y x):Int)):=by
 have hl:=h1.2.1
 have hp:=posP_le t.C (newP t.O c y x)
 obtain⟨s,e,hJ⟩:=z2f (step:=fun s=>(S_q1u_b1 c y (t.O,t.C) s).den) (fun s=>(61-s).toNat) (fun s=>0<=s/\s<=(posP t.C (newP t.O c y x):Int)) (fun s=>s=(posP t.C (newP t.O c y x):Int)) (fun s hI=>by
  obtain⟨i,rfl⟩:=Int.eq_ofNat_of_zero_le hI.1
  have hi:i<=posP t.C (newP t.O c y x):=om
  simp only[S_q1u_b1,Scr.den,yg,yo,zd,zf]
  by_cases h:i<t.C.length
  ·have hg:=(h1.good _ (zb h)).1
   rw[y6 sk,z4d hg hc,obind,za ⟨om,h,h,trivial⟩,za ⟨fun _=>om,fun _=>h,fun _=>h,trivial⟩]
   have hcm:cmpP (t.C.getD i default) (newP t.O c y x)<0↔lexC (parts (t.C.getD i default).D) (parts c)<0\/(lexC (parts (t.C.getD i default).D) (parts c)=0/\(t.C.getD i default).E<y):=zbg (a:=t.C.getD i default) (b:=newP t.O c y x) (.inl hg)
   have hne:¬ (lexC (parts (t.C.getD i default).D) (parts c)=0/\(t.C.getD i default).E=y):=fun k =>
    hn (has_iff.2 ⟨_,zb h,z7y hg hc (z33 k.1),k.2⟩)
   by_cases hip:i<posP t.C (newP t.O c y x)
   ·left
    have hlt:=hcm.1 (zbh hip)
    rw[y5 fun k=>(zta _ _ _).1 k (hlt.imp id fun k=>⟨k.1,Int.le_of_lt k.2⟩),wrapId om om]
    exact⟨_,rfl,⟨om,om⟩,om⟩
   ·right
    have hge:¬ cmpP (t.C.getD i default) (newP t.O c y x)<0:=by
     have:i=posP t.C (newP t.O c y x):=om
     subst this; exact y35.2 (zbi h)
    rw[y6 ((zta _ _ _).2 fun k=>hge (hcm.2 (k.imp id fun k=>⟨k.1,Int.lt_iff_le_and_ne.2 ⟨k.2,fun e=>hne ⟨k.1,e⟩⟩⟩)))]
    exact⟨_,rfl,om⟩
  ·right
   rw[y5 (by simpa using h)]
   exact⟨_,rfl,om⟩) _ 0 (y3w _) ⟨om,om⟩
 rw[e,hJ]
theorem r13_Set_eq (hs:Small t) (hc:c.length<=1000000) (y x:Int):F_q1u t c y x=some (setM t c y x):=by
 simp only[F_q1u,S_q1u,Scr.den,r13_Valid_eq hs,z2y (l:=c) om,at_eq,obind,zd]
 unfold setM
 by_cases h1:TOk t
 ·rw[y5 (show ¬ (!decide (TOk t))=true by rw[yd h1]; simp),y5 (show ¬ ¬ TOk t from fun h=>h h1)]
  by_cases h2:good c=true
  ·rw[y5 (show ¬ (!good c)=true by rw[h2]; simp),y5 (show ¬ ¬ good c=true from fun h=>h h2)]
   by_cases h3:(0<=y/\y<=99)/\-1000000000000000<=x/\x<=1000000000000000
   ·have hb:(decide (y<0)||decide (y>99)||decide (x < -1000000000000000)||decide (x>1000000000000000))=false:=by
     simp only[y2p,y9]; omega
    rw[y5 (by rw[hb]; simp),y5 (show ¬ ¬ ((0<=y/\y<=99)/\-1000000000000000<=x/\x<=1000000000000000) from fun h=>h h3),zdm h1.small]
    simp only[obind]
    have l0:=h1.2.1
    have e0:=h1.1
    by_cases h5:hasP t.C c y=true
    ·have hlt:=(pix_lt h5).1
     simp only[h5,y17,yg,yo]
     rw[y6 (yd (y1n _)),za (by simp only[AllP,yq]; exact⟨om,hlt,hlt⟩),za (by simp only[AllP,yq,yb]; omega)]
     rfl
    ·simp only[h5,yx,yv]
     rw[y5 dk]
     by_cases h6:t.C.length=60
     ·rw[y6 (show ((t.C.length:Int)==60)=true from sk),y6 h6]
     ·rw[y5 (show ¬ ((t.C.length:Int)==60)=true from sk),y5 h6,za (by simp only[AllP,yq]; omega),znx (x:=x) h1 h2 h5]
      have hp:=posP_le t.C (newP t.O c y x)
      simp only[outM,yg]
      have hw:i64.wrap ((posP t.C (newP t.O c y x):Int)+1)=((posP t.C (newP t.O c y x)+1:Nat):Int):=by rw[wrapId om om]; rfl
      rw[hw]
      simp only[yg]
      rw[za (by simp only[AllP,yq]; omega),za (by simp only[AllP,yq,yu,y21]; omega),za (by simp only[AllP,yq,zq,yu,y21]; omega),
       za (by simp only[AllP,yq,yb,zq,yu,y21]; omega)]
      show some ((⟨t.O,(copyL (t.C++[_]) _ _ _).set _ (newP t.O c y x)⟩:TTr),(0:Int))=_
      rw[zcr t.C _ hp _ (newP t.O c y x)]
   ·have hb:(decide (y<0)||decide (y>99)||decide (x < -1000000000000000)||decide (x>1000000000000000))=true:=by
     simp only[yc,y7]; omega
    rw[y6 hb,y6 (show ¬ ((0<=y/\y<=99)/\-1000000000000000<=x/\x<=1000000000000000) from h3)]
  ·rw[y6 (show (!good c)=true by simpa using h2),y6 (show ¬ good c=true from h2)]
 ·rw[y6 (show (!decide (TOk t))=true by rw[yh h1]; simp),y6 (show ¬ TOk t from h1)]
theorem zfq {x:TPo} (hj:j<l.length):(l.set i x).getD j default=if j=i then x else l.getD j default:=by
 rw[y8,y47]
 by_cases h:i=j
 ·subst h; simp[hj]
 ·rw[y5 h,y5 fun e=>h e.symm,y8]
theorem zny {a' b':TPo} (h1:a.D=a'.D) (h2:a.E=a'.E) (h3:b.D=b'.D) (h4:b.E=b'.E):cmpP a b=cmpP a' b':=by
 simp only[cmpP,h1,h2,h3,h4]
theorem z6c (h:TOk t) (hp:hasP t.C c y=true) {p:TPo} (hk:PotOk t.O p) (hc:p.D=c) (hy:p.E=y):TOk (putP t c y p):=by
 obtain⟨k1,k2,k3⟩:=pix_lt hp
 refine⟨h.1,by simpa [putP] using h.2.1,fun i hi=>?_⟩
 have hi':i<t.C.length:=by simpa [putP] using hi
 have same:∀ j,j<t.C.length->((t.C.set (pix t.C c y) p).getD j default).D=(t.C.getD j default).D/\((t.C.set (pix t.C c y) p).getD j default).E=(t.C.getD j default).E:=fun j hj=>by
  rw[zfq hj]
  by_cases e:j=pix t.C c y
  ·subst e; rw[y6 rfl]; exact⟨hc.trans k2.symm,hy.trans k3.symm⟩
  ·rw[y5 e]; exact⟨rfl,rfl⟩
 constructor
 ·show PotOk t.O ((t.C.set (pix t.C c y) p).getD i default)
  rw[zfq hi']
  split
  ·exact hk
  ·exact (h.2.2 i hi').1
 ·intro h0
  show cmpP ((t.C.set (pix t.C c y) p).getD (i-1) default) ((t.C.set (pix t.C c y) p).getD i default)<0
  rw[zny (same (i-1) om).1 (same (i-1) om).2 (same i hi').1 (same i hi').2]
  exact (h.2.2 i hi').2 h0
theorem potAt_cy (hp:hasP t.C c y=true):(potAt t c y).D=c/\(potAt t c y).E=y:=(pix_lt hp).2
theorem zq0:tot 0:=⟨om,om⟩
variable {n:Int}
theorem znz (h:0<=n):rowOk n (zeros n):=⟨by simp[zeros]; omega,fun x hx=>by rw[List.eq_of_mem_replicate hx]; exact zq0⟩
variable {k:Int}
theorem zeo {l:List Int} (h:rowOk n l) (hx:tot x):rowOk n (upd l k x) :=
 ⟨by rw[upd_length]; exact h.1,fun z hz=>by
  rcases y2h hz with h1 | h1
  ·exact h.2 z h1
  ·subst h1; exact hx⟩
theorem upd_get {l:List Int} (hj:j<l.length):(upd l k x).getD j default=if j=(k-1).toNat then x else l.getD j default:=getD_set_int hj
theorem ask_ok (h:(askM t k c y x).2=0):TOk t/\TOk (askM t k c y x).1:=by
 unfold askM at h |-
 by_cases h1:TOk t
 ·simp only[show ¬ ¬ TOk t from fun h=>h h1,yx] at h |-
  by_cases h2:hasP t.C c y=true
  ·simp only[show ¬ ¬ hasP t.C c y=true from fun h=>h h2,yx] at h |-
   by_cases h3:1<=k/\k<=t.O
   ·simp only[show ¬ ¬ (1<=k/\k<=t.O) from fun h=>h h3,yx] at h |-
    by_cases h4:1<=x/\x<=1000000000000000
    ·simp only[show ¬ ¬ (1<=x/\x<=1000000000000000) from fun h=>h h4,yx] at h |-
     by_cases h5:nth (potAt t c y).A k<nth (potAt t c y).K k+x
     ·rw[y6 h5] at h; cases h
     ·rw[y5 h5]
      have hp:=h1.potAt h2
      have hcy:=potAt_cy h2
      obtain⟨g1,g2,g3,⟨r1,r2,r3,r4⟩,⟨o1,o2⟩,g6⟩:=hp
      have a1:=nth_tot r3 h3
      have a2:=nth_tot r1 h3
      unfold tot at a1 a2
      refine⟨h1,z6c h1 h2 (p:=withA (potAt t c y) (upd (potAt t c y).K k (nth (potAt t c y).K k+x))) ⟨g1,g2,g3,⟨r1,r2,zeo r3 ⟨om,om⟩,r4⟩,⟨o1,fun i hi=>?_⟩,g6⟩ hcy.1 hcy.2⟩
      have hi':i<(potAt t c y).K.length:=by have:=r1.1; have:=r3.1; have:i<(potAt t c y).A.length:=hi; omega
      show (upd (potAt t c y).K k (nth (potAt t c y).K k+x)).getD i default<=(potAt t c y).A.getD i default
      rw[upd_get hi']
      split
      ·rename_i e
       subst e
       exact y35.1 h5
      ·exact o2 i hi
    ·simp only[h4,yk,y17] at h; cases h
   ·simp only[h3,yk,y17] at h; cases h
  ·simp only[h2,yk,y17,yv] at h; cases h
 ·simp only[h1,yk,y17] at h; cases h
theorem hear_ok {m:TMe} (h:(hearM t m).2=0):TOk t/\TOk (hearM t m).1:=by
 unfold hearM at h |-
 by_cases h0:m.To=0
 ·simp only[show ¬ m.To≠0 from fun h=>h h0,yx] at h |-
  by_cases h1:TOk t
  ·simp only[show ¬ ¬ TOk t from fun h=>h h1,yx] at h |-
   by_cases h2:hasP t.C m.D m.E=true
   ·simp only[show ¬ ¬ hasP t.C m.D m.E=true from fun h=>h h2,yx] at h |-
    by_cases h3:1<=m.Aa/\m.Aa<=t.O
    ·simp only[show ¬ ¬ (1<=m.Aa/\m.Aa<=t.O) from fun h=>h h3,yx] at h |-
     by_cases h4:(0<=m.M/\m.M<=nth (potAt t m.D m.E).A m.Aa)/\tot m.S
     ·simp only[show ¬ ¬ ((0<=m.M/\m.M<=nth (potAt t m.D m.E).A m.Aa)/\tot m.S) from fun h=>h h4,yx] at h |-
      have hp:=h1.potAt h2
      have hcy:=potAt_cy h2
      obtain⟨g1,g2,g3,⟨r1,r2,r3,r4⟩,⟨o1,o2⟩,g6⟩:=hp
      have a1:=nth_tot r2 h3
      have a2:=nth_tot r1 h3
      have l1:=r1.1
      have l2:=r2.1
      unfold tot at a1 a2
      have hle:nth (potAt t m.D m.E).L m.Aa<=nth (potAt t m.D m.E).A m.Aa:=o1 _ om
      refine⟨h1,z6c h1 h2 (p:=withH (potAt t m.D m.E) (upd (potAt t m.D m.E).L m.Aa (max (nth (potAt t m.D m.E).L m.Aa) m.M)) (upd (potAt t m.D m.E).S m.Aa m.S))
       ⟨g1,g2,g3,⟨r1,zeo r2 ⟨om,om⟩,r3,zeo r4 h4.2⟩,⟨fun i hi=>?_,o2⟩,g6⟩ hcy.1 hcy.2⟩
      have hi':i<(potAt t m.D m.E).L.length:=by have:i<(potAt t m.D m.E).A.length:=hi; omega
      show (upd (potAt t m.D m.E).L m.Aa _).getD i default<=(potAt t m.D m.E).A.getD i default
      rw[upd_get hi']
      split
      ·rename_i e
       subst e
       show max (nth (potAt t m.D m.E).L m.Aa) m.M<=nth (potAt t m.D m.E).A m.Aa
       omega
      ·exact o1 i hi
     ·simp only[h4,yk,y17] at h; cases h
    ·simp only[h3,yk,y17] at h; cases h
   ·simp only[h2,yk,y17,yv] at h; cases h
  ·simp only[h1,yk,y17] at h; cases h
 ·rw[y6 (show m.To≠0 from h0)] at h; cases h
theorem ins_ok (h:TOk t) (hr:PotOk t.O r) (hn:¬ hasP t.C r.D r.E=true) (hl:t.C.length≠60):TOk ⟨t.O,insL t.C (posP t.C r) r⟩:=by
 have hp:=posP_le t.C r
 have l0:=h.2.1
 refine⟨h.1,by show (insL t.C (posP t.C r) r).length<=60; rw[zr]; omega,fun i hi=>?_⟩
 have hi':i<t.C.length+1:=by have:i<(insL t.C (posP t.C r) r).length:=hi; rwa [zr] at this
 show PotOk t.O ((insL t.C (posP t.C r) r).getD i default)/\(0<i->cmpP ((insL t.C (posP t.C r) r).getD (i-1) default) ((insL t.C (posP t.C r) r).getD i default)<0)
 rw[z1m hp,z1m hp]
 by_cases c1:i<posP t.C r
 ·rw[y6 c1,y6 (show i-1<posP t.C r from om)]
  exact h.2.2 i om
 ·by_cases c2:i=posP t.C r
  ·rw[y5 c1,y6 c2]
   refine⟨hr,fun h0=>?_⟩
   rw[y6 (show i-1<posP t.C r from om)]
   exact zbh om
  ·rw[y5 c1,y5 c2]
   have hi2:i-1<t.C.length:=om
   refine⟨(h.2.2 (i-1) hi2).1,fun h0=>?_⟩
   by_cases c3:i-1=posP t.C r
   ·rw[y5 (show ¬ i-1<posP t.C r from om),y6 c3]
    have hg:=(h.good _ (zb hi2)).1
    have h1:0<=cmpP (t.C.getD (i-1) default) r:=by rw[c3]; exact zbi om
    have h2:cmpP (t.C.getD (i-1) default) r≠0:=fun e=>hn (has_iff.2 ⟨_,zb hi2,(cmpP_eq hg hr.1).1 e⟩)
    rw[znw hg]
    omega
   ·rw[y5 (show ¬ i-1<posP t.C r from om),y5 c3]
    exact (h.2.2 (i-1) hi2).2 om
theorem zs1 (hn:1<=n) (hc:good c=true) (hy:0<=y/\y<=99) (hx:-1000000000000000<=x/\x<=1000000000000000):PotOk n (newP n c y x):=by
 have hz:=znz (n:=n) om
 refine⟨hc,hy,hx,⟨hz,hz,hz,hz⟩,⟨fun i _=>y1e _,fun i _=>y1e _⟩,?_⟩
 have:=z52 (l:=zeros n) hz.2
 have e:(zeros n).sum=0:=by simp[zeros]
 show (zeros n).sum<=_
 omega
theorem set_ok (h:(setM t c y x).2=0):TOk t/\TOk (setM t c y x).1:=by
 unfold setM at h |-
 by_cases h1:TOk t
 ·simp only[show ¬ ¬ TOk t from fun h=>h h1,yx] at h |-
  by_cases h2:good c=true
  ·simp only[show ¬ ¬ good c=true from fun h=>h h2,yx] at h |-
   by_cases h3:(0<=y/\y<=99)/\-1000000000000000<=x/\x<=1000000000000000
   ·simp only[show ¬ ¬ ((0<=y/\y<=99)/\-1000000000000000<=x/\x<=1000000000000000) from fun h=>h h3,yx] at h |-
    by_cases h5:hasP t.C c y=true
    ·rw[y6 h5]
     have hcy:=potAt_cy h5
     obtain⟨g1,g2,g3,g4,g5,g6⟩:=h1.potAt h5
     exact⟨h1,z6c h1 h5 (p:=withT (potAt t c y) x) ⟨g1,g2,h3.2,g4,g5,g6⟩ hcy.1 hcy.2⟩
    ·rw[y5 h5] at h |-
     by_cases h6:t.C.length=60
     ·rw[y6 h6] at h; cases h
     ·rw[y5 h6]
      exact⟨h1,ins_ok h1 (zs1 h1.1.1 h2 h3.1 h3.2) h5 h6⟩
   ·rw[y6 h3] at h; cases h
  ·rw[y6 (show ¬ good c=true from h2)] at h; cases h
 ·rw[y6 h1] at h; cases h
theorem zq1 {G a:List Int} (hl:a.length=G.length):(addN G a a.length).sum=G.sum+a.sum:=by
 have e:addN G a a.length=List.zipWith (· + ·) G a:=zcs (by simp[addN_length]; omega) fun j hj=>by
  have hj':j<G.length:=by simpa [addN_length] using hj
  rw[addN_get hj',y6 om,z2k (show j<(List.zipWith (· + ·) G a).length by rw[List.length_zipWith]; omega),List.getElem_zipWith,z2k hj',z2k om]
 rw[e]
 clear e
 induction G generalizing a with
 | nil=>cases a with | nil=>rfl | cons _ _=>simp at hl
 | cons x G ih=>cases a with
  | nil=>simp at hl
  | cons z a =>
   simp only[List.zipWith_cons_cons,y3a]
   rw[ih (by simpa using hl)]
   omega
theorem zld {l:List Int} (h:∀ x∈l,0<=x):∀ x∈l,x<=l.sum:=by
 induction l with
 | nil=>simp
 | cons z l ih =>
  have h0:0<=l.sum:=by
   clear ih
   induction l with
   | nil=>simp
   | cons w l ih2 =>
    have:=h w sj
    have:=ih2 fun x hx=>h x (by rcases y16.1 hx with e | e <;> simp[e])
    simp only[y3a]; omega
  intro x hx
  have hz:=h z sj
  simp only[y3a]
  rcases y16.1 hx with rfl | hx
  ·omega
  ·have:=ih (fun y hy=>h y (by simp[hy])) x hx
   omega
theorem give_ok {p:TPo} (h:PotOk n p) {a:List Int} (ha:∀ x∈a,tot x) (hl:a.length=p.A.length) (h0:(giveV p.W p a).1=0) :
  (giveV p.W p a).2=addN p.A a a.length/\PotOk n (withG p (giveV p.W p a).2)/\a.sum<=p.W-outV p:=by
 unfold giveV at h0 |-
 by_cases c1:p.W-outV p<a.sum
 ·rw[y6 c1] at h0; cases h0
 ·rw[y5 c1] at h0 |-
  by_cases c2:1000000000000000<p.A.sum+a.sum
  ·rw[y6 c2] at h0; cases h0
  ·rw[y5 c2]
   obtain⟨g1,g2,g3,⟨r1,r2,r3,r4⟩,⟨o1,o2⟩,g6⟩:=h
   have hs:=zq1 (G:=p.A) hl
   have hge:∀ j,j<p.A.length->p.A.getD j default<=(addN p.A a a.length).getD j default/\0<=(addN p.A a a.length).getD j default:=fun j hj=>by
    have t1:=r1.2 _ (zb hj)
    have t2:=ha _ (zb (show j<a.length from om))
    unfold tot at t1 t2
    rw[addN_get hj,y6 om]
    omega
   have hpos:∀ x∈addN p.A a a.length,0<=x:=fun x hx=>by
    obtain⟨j,hj,rfl⟩:=z1b hx
    exact (hge j (by rwa [addN_length] at hj)).2
   refine⟨rfl,⟨g1,g2,g3,⟨⟨by show ((addN p.A a a.length).length:Int)=n; rw[addN_length]; exact r1.1,fun x hx=>⟨hpos x hx,?_⟩⟩,r2,r3,r4⟩,⟨fun i hi=>?_,fun i hi=>?_⟩,?_⟩,om⟩
   ·have:=zld hpos x hx
    omega
   ·have hi':i<p.A.length:=by have:i<(addN p.A a a.length).length:=hi; rwa [addN_length] at this
    exact y2l (o1 i hi') (hge i hi').1
   ·have hi':i<p.A.length:=by have:i<(addN p.A a a.length).length:=hi; rwa [addN_length] at this
    exact y2l (o2 i hi') (hge i hi').1
   ·show (addN p.A a a.length).sum<=_
    omega
theorem grant_ok (h:(grantM t k c y x).2=0):TOk t/\TOk (grantM t k c y x).1:=by
 unfold grantM at h |-
 by_cases h1:TOk t
 ·simp only[show ¬ ¬ TOk t from fun h=>h h1,yx] at h |-
  by_cases h2:hasP t.C c y=true
  ·simp only[show ¬ ¬ hasP t.C c y=true from fun h=>h h2,yx] at h |-
   by_cases h3:1<=k/\k<=t.O
   ·simp only[show ¬ ¬ (1<=k/\k<=t.O) from fun h=>h h3,yx] at h |-
    by_cases h4:1<=x/\x<=1000000000000000
    ·simp only[show ¬ ¬ (1<=x/\x<=1000000000000000) from fun h=>h h4,yx] at h |-
     by_cases h5:(giveV (potAt t c y).W (potAt t c y) (oneHot (potAt t c y).A.length (k-1).toNat x)).1=0
     ·rw[y5 (show ¬ _≠_ from fun h=>h h5)]
      have hcy:=potAt_cy h2
      exact⟨h1,z6c h1 h2 (give_ok (h1.potAt h2) (oneHot_tot h4) oneHot_length h5).2.1 hcy.1 hcy.2⟩
     ·rw[y6 h5] at h; exact absurd h h5
    ·simp only[h4,yk,y17] at h; cases h
   ·simp only[h3,yk,y17] at h; cases h
  ·simp only[h2,yk,y17,yv] at h; cases h
 ·simp only[h1,yk,y17] at h; cases h
theorem zx (gs:List Prop) (x d:α) [Decidable (AllP gs)]:optD gs (some x) d=some (if AllP gs then x else d):=by
 unfold optD
 by_cases h:AllP gs
 ·rw[y6 h,y6 h]
 ·rw[y5 h,y5 h]
theorem z7z {gs:List Prop} {x:Option α} {y d:α} [Decidable (AllP gs)] (h:AllP gs->x=some y):optD gs x d=some (if AllP gs then y else d):=by
 by_cases hg:AllP gs
 ·rw[y6 hg,zi hg,h hg]
 ·rw[y5 hg,zu hg]
theorem z1e (a x d:Bool) [Decidable (AllP [a=false])]:(a||!(if AllP [a=false] then x else d))=(a||!x):=by
 cases a <;> simp[AllP]
theorem zhc (a:Bool) (x d y:Int) [Decidable (AllP [a=false])]:(a||((if AllP [a=false] then x else d) != y))=(a||(x != y)):=by
 cases a <;> simp[AllP]
theorem z3u (a x d:Bool) [Decidable (AllP [a=true])]:(a&&(if AllP [a=true] then x else d))=(a&&x):=by
 cases a <;> simp[AllP]
theorem zeb (a:Bool) (x d y:Int) [Decidable (AllP [a=true])]:(a&&((if AllP [a=true] then x else d)==y))=(a&&(x==y)):=by
 cases a <;> simp[AllP]
theorem st {c:Bool} {P:Prop} {_:Decidable P} {x y:Option α} {a b:α} (h:c=true↔P) (hx:P->x=some a) (hy:¬ P->y=some b):(if c=true then x else y)=some (if P then a else b):=by
 by_cases hp:P
 ·rw[y6 (h.mpr hp),y6 hp,hx hp]
 ·rw[y5 (fun hc=>hp (h.mp hc)),y5 hp,hy hp]
def RtOk (r:TRi):Prop:=good r.D=true/\(0<=r.E/\r.E<=99)/\(0<=r.A/\r.A<=1000000000000000)/\(0<=r.K/\r.K<=1000000000000000)/\(0<=r.M/\r.M<=r.A)
instance (r:TRi):Decidable (RtOk r):=inferInstanceAs (Decidable (_/\_))
theorem z1h {r:TRi} (h:r.D.length<=1000000):F_q2e r=some (decide (RtOk r)):=by
 open Classical in simp only[F_q2e,S_q2e,F_q2c,S_q2c,Scr.den,z2z (show r.D.length<=1099511627776 from om),zy,z3q,zx,obind,zf,z3u]
 refine yi some ?_
 have e:decide (((parts r.D).length:Int)>0)=good r.D:=by rw[<- z2v]; rw[y1k]; simp
 rw[e,y1k]
 simp only[RtOk,ym,y7,and_assoc]
def noR:TRi:=⟨[],0,0,0,0⟩
def learnS (r:TRi) (m:TMe):TRi×Int :=
 if ¬ (RtOk r/\m.Aa=0/\m.D=r.D/\m.E=r.E) then (noR,1) else
 if ¬ (tot m.A/\tot m.K) then (noR,2) else
 (⟨r.D,r.E,if m.A>r.A then m.A else r.A,if m.K>r.K then m.K else r.K,r.M⟩,0)
def returnS (r:TRi) (u n:Int):TRi×Int :=
 if ¬ (RtOk r/\(0<=u/\u<=i64.wrap (r.A-r.M))) then (noR,1) else
 if ¬ (1<=n/\n<=1000000000000000) then (noR,2) else
 if n>i64.wrap (i64.wrap (r.A-r.M)-u) then (noR,15) else
 (⟨r.D,r.E,r.A,r.K,i64.wrap (r.M+n)⟩,0)
theorem z4t (n:Int):F_q1f n=some (decide (tot n)):=z8h n
theorem z83 {r:TRi} (h:r.D.length<=1000000) (m:TMe):F_q36 r m=some (learnS r m):=by
 open Classical in simp only[F_q36,S_q36,Scr.den,z1h h,z4t,zx,obind,zd,z1e]
 unfold learnS
 refine st (by by_cases hR:RtOk r <;> by_cases h2:m.Aa=0 <;> by_cases h3:m.D=r.D <;> by_cases h4:m.E=r.E <;> simp[hR,h2,h3,h4]) (fun _=>rfl) fun _=>?_
 refine st (by by_cases h2:tot m.A <;> by_cases h3:tot m.K <;> simp[h2,h3]) (fun _=>rfl) fun _=>rfl
theorem z7e {r:TRi} (h:r.D.length<=1000000) (u n:Int):F_q38 r u n=some (returnS r u n):=by
 open Classical in simp only[F_q38,S_q38,Scr.den,z1h h,zy,zx,obind,zd,z1e]
 unfold returnS
 refine st (by by_cases h2:RtOk r <;> by_cases h3:0<=u/\u<=i64.wrap (r.A-r.M) <;> simp[h2,h3]) (fun _=>rfl) fun _=>?_
 refine st (by simp only[yf,y9]) (fun _=>rfl) fun _=>?_
 refine st (by simp only[y7]) (fun _=>rfl) fun _=>rfl
def wantedS (r:TRi) (u:Int):Int :=
 if RtOk r/\(0<=u/\u<=r.A-r.M) then (if r.A-u<r.K then (if r.A-u-r.M>0 then r.A-u-r.M else 0) else (if r.K-r.M>0 then r.K-r.M else 0)) else 0
theorem wn1:(if 0>x then 0 else x)=(if x>0 then x else 0):=by split <;> split <;> omega
theorem wn2 (h:x=y):(if x>0 then x else 0)=(if y>0 then y else 0):=by rw[h]
theorem z7i {r:TRi} (h:r.D.length<=1000000) {u:Int}:F_q3i r u=some (wantedS r u):=by
 open Classical in simp only[F_q3i,S_q3i,Scr.den,z1h h,zy,zx,obind,zd,z1e]
 unfold wantedS
 by_cases hR:RtOk r
 ·have hR':=hR
  unfold RtOk at hR'
  have w1:i64.wrap (r.A-r.M)=r.A-r.M:=wrapId om om
  rw[w1]
  by_cases hu:0<=u/\u<=r.A-r.M
  ·rw[y6 (show RtOk r/\(0<=u/\u<=r.A-r.M) from ⟨hR,hu⟩),y5 (by simp[hR,hu]),wrapId (n:=r.A-u) om om]
   refine yi some ?_
   by_cases k:r.A-u<r.K
   ·simp only[y6 k]
    rw[wrapId om om]
    exact wn1
   ·simp only[y5 k]
    rw[wrapId om om]
    exact wn1
  ·rw[y6 (by simp[hR]; omega),y5 (fun k=>hu k.2)]
 ·rw[y6 (by simp[hR]),y5 (fun k=>hR k.1)]
def TapeOk (s:TTape):Prop:=0<=s.at_/\s.l.length<=500/\s.at_<=s.l.length
theorem z9i (t:List Int):∃ s,F_q2n t=some s/\TapeOk s:=by
 simp only[F_q2n,S_q2n,Scr.den]
 refine⟨_,zag ⟨?_,?_,trivial⟩ rfl,sj,?_,sj⟩
 ·split <;> omega
 ·split <;> omega
 ·simp only[y1g]
  split <;> omega
variable {s:TTape}
theorem z2n (hs:TapeOk s) (h1:1<=n) (hn:n<=4611686018427387904):∃ v s',F_q6 n s=some (v,s')/\TapeOk s'/\0<=v/\v<n:=by
 obtain⟨a1,a2,a3⟩:=hs
 simp only[F_q6,S_q6,Scr.den]
 by_cases hc:s.at_>=(s.l.length:Int)
 ·rw[y6 (by simp[hc])]
  exact⟨0,s,rfl,⟨a1,a2,a3⟩,om,om⟩
 ·rw[y5 sk]
  have e1:i64.wrap (s.at_+1)=s.at_+1:=wrapId om om
  rw[e1,za ⟨om,om,om,trivial⟩]
  generalize s.l.getD s.at_.toNat default=x
  have t1:x.tmod n<n:=Int.tmod_lt_of_pos x om
  have t2:-n<x.tmod n:=Int.lt_tmod_of_pos x om
  have e3:i64.wrap (x.tmod n+n)=x.tmod n+n:=wrapId om om
  rw[e3]
  have ht:TapeOk ⟨s.l,s.at_+1⟩:=⟨by simp only; omega,a2,by simp only; omega⟩
  split
  ·rename_i h
   simp only[y7] at h
   exact⟨_,_,rfl,ht,om,om⟩
  ·rename_i h
   simp only[y7] at h
   exact⟨_,_,rfl,ht,om,om⟩
theorem z1s {lo hi:Int} (hs:TapeOk s) (h0:-1000000000000000<=lo) (h1:lo<=hi) (h2:hi<=1000000000000000):∃ v s',F_qd lo hi s=some (v,s')/\TapeOk s'/\lo<=v/\v<=hi:=by
 simp only[F_qd,S_qd,Scr.den]
 rw[wrapId (n:=hi-lo) om om,wrapId (n:=hi-lo+1) om om]
 obtain⟨v,s',h3,h4,h5,h6⟩:=z2n (n:=hi-lo+1) hs om om
 refine⟨lo+v,s',?_,h4,om,om⟩
 rw[h3,obind]
 simp only
 rw[wrapId (n:=lo+v) om om]
theorem z3a {l:List Int} (hs:TapeOk s) (h0:1<=l.length) (h1:l.length<=100):∃ v s',F_qw l s=some (v,s')/\TapeOk s'/\v∈l:=by
 simp only[F_qw,S_qw,Scr.den]
 obtain⟨v,s',h3,h4,h5,h6⟩:=z2n (n:=(l.length:Int)) hs om om
 refine⟨_,s',?_,h4,zb (show v.toNat<l.length from om)⟩
 rw[h3,obind,za ⟨by simpa using h5,by simp only; omega,trivial⟩]
theorem zas (hs:TapeOk s):∃ c s',F_q30 s=some (c,s')/\TapeOk s'/\c.length<=60/\good c=true:=by
 simp only[F_q30,S_q30,Scr.den]
 obtain⟨v,s',h3,h4,h5,h6⟩:=z2n (n:=3) hs om om
 have h:∀ c∈([[49],[49,46,50],[50]]:List (List UInt8)),c.length<=60/\good c=true:=dk
 refine⟨_,s',?_,h4,h _ (zb (show v.toNat<3 from om))⟩
 rw[h3,obind,za ⟨by simpa using h5,by simp only; omega,trivial⟩]
end Go.Proofs.YtdmddkbngmhepaaGreatDoor.J13
namespace Go.Proofs.YtdmddkbngmhepaaGreatDoor
open Go Go.TA
open Go.IntKind (i64)
def jAt (w:TWo) (k:Nat):TJo:=w.J.getD k default
def nthN (l:List Int) (k:Nat):Int:=l.getD k default
def KnownJ (t:TTr) (a b:TOf) (k:Nat):Prop :=
 (∀ r∈a.I,J13.hasP t.C r.D r.E=true/\r.A<=nthN (J13.potAt t r.D r.E).A k/\r.K<=nthN (J13.potAt t r.D r.E).K k) /\
 ∀ p∈t.C,nthN p.L k<=(rightV b.I p.D p.E).M
def ToOk (t:TTr) (m:TMe):Prop:=(1<=m.To/\m.To<=t.O)/\(0<=m.A/\m.A<=nthN (J13.potAt t m.D m.E).A (m.To-1).toNat)/\(0<=m.K/\m.K<=nthN (J13.potAt t m.D m.E).K (m.To-1).toNat)/\m.M=0/\m.S=0
def FromOk (t:TTr) (st:Nat->TOf) (m:TMe):Prop:=(1<=m.Aa/\m.Aa<=t.O)/\m.To=0/\(0<=m.M/\m.M<=(rightV (st (m.Aa-1).toNat).I m.D m.E).M)/\(0<=m.S/\m.S<=1000000000000000)/\m.A=0/\m.K=0
def MsgOk (t:TTr) (st:Nat->TOf) (m:TMe):Prop:=J13.hasP t.C m.D m.E=true/\((m.Aa=0/\ToOk t m)\/(m.Aa≠0/\FromOk t st m))
noncomputable def stW (w:TWo) (k:Nat):TOf:=stbJ (jAt w k)
noncomputable def noW (w:TWo) (k:Nat):TOf:=nowJ (jAt w k)
def VW (w:TWo):Prop:=J13.TOk w.F/\(w.J.length:Int)=w.F.O/\w.V.length<=200 /\
 (∀ k,k<w.J.length->VJ (jAt w k)/\(jAt w k).Y=(k:Int)+1/\KnownJ w.F (noW w k) (stW w k) k)/\∀ m∈w.V,MsgOk w.F (stW w) m
theorem zep:∀ {l:List TOp} {o:TOf},Runs o l->(runO o l).N=o.N
 | [],_,_=>rfl
 | p :: l,o,h=>by
  show (runO (doS o p).1 l).N=_
  rw[zep h.2,(zt9 h.1.2)]
variable {t:TTr}
theorem zo0 (h:J13.TOk t):J13.Small t:=fun p hp=>by
 have:=J13.PGood.len (h.good p hp)
 exact this
variable {w:TWo}
theorem VW.small (h:VW w):J13.Small w.F:=zo0 h.1
theorem VW.len (h:VW w):1<=w.J.length/\w.J.length<=6:=by
 have h1:=h.1.1
 have h2:=h.2.1
 omega
variable {j:TJo}
theorem zs2 (h:VJ j):(nowJ j).N=j.Y:=zep h.2.2.2
theorem zk2 (h:VJ j):(stbJ j).N=j.Y:=zep (z41 h.2.2.2 _)
variable {α:Type}
def ups (n:Nat) (f:Nat->α):List α:=(List.range n).map f
variable {n:Nat} {f:Nat->α}
theorem z1a:(ups n f).length=n:=by simp[ups]
variable {i:Nat}
theorem z5u [Inhabited α] (h:i<n):(ups n f).getD i default=f i:=by simp[ups,List.getD_eq_getElem?_getD,h]
theorem z7k:ups (n+1) f=ups n f++[f n]:=by simp[ups,List.range_succ]
theorem zaz (h:VW w):F_q10 w=some (ups w.J.length (noW w),ups w.J.length (stW w),true):=by
 have hl:=h.len
 simp only[F_q10,S_q10,Scr.den]
 obtain⟨s,e,hs⟩:=zp (body:=fun i s=>(S_q10_b1 w i s).den) (n:=w.J.length) (fun i s=>s=(ups i (noW w),ups i (stW w))) (s0:=(([]:List TOf),([]:List TOf))) rfl (fun i s hi hI=>by
  subst hI
  obtain⟨h1,h2,_⟩:=h.2.2.2.1 i hi
  simp only[S_q10_b1,Scr.den]
  rw[show w.J.getD i default=jAt w i from rfl,z5d h1]
  simp only[obind]
  rw[zca h1]
  simp only[obind,zd]
  rw[h2,wrapId (n:=(i:Int)+1) om om,y5 sj,za ⟨by rw[z1a]; omega,by rw[z1a]; omega,trivial⟩]
  exact⟨_,rfl,by rw[z7k,z7k]; rfl⟩)
 rw[e,hs]
 simp only[zl]
 rw[za ⟨by rw[z1a]; omega,trivial⟩,za ⟨by rw[z1a]; omega,trivial⟩]
variable {c:List UInt8} {y:Int}
theorem z7l (h:J13.hasP t.C c y=true):J13.potM t c y=(J13.potAt t c y,true):=y6 h
variable {k:Nat} {a b:TOf}
theorem zq2 (ht:J13.TOk t) (hk:(k:Int)<t.O) (hn:a.N=(k:Int)+1) (h:KnownJ t a b k):F_qr t a b=some true:=by
 have h6:=ht.1
 have ew:i64.wrap (a.N-1)=(k:Int):=by rw[hn,wrapId om om]; omega
 simp only[F_qr,S_qr,Scr.den]
 obtain⟨u,e,_⟩:=zp (body:=fun i s=>(S_qr_b1 t a i s).den) (n:=a.I.length) (fun _ _=>True) (s0:=()) trivial (fun i u hi _=>by
  obtain⟨h1,h2,h3⟩:=h.1 _ (zb hi)
  have hp:=ht.potAt h1
  have hg:=hp.2.2.2.1.1.1
  have ha:=hp.2.2.2.1.2.2.1.1
  simp only[S_qr_b1,Scr.den,J13.Pot_eq ht.small,z7l h1,obind,zd,ew,yg]
  unfold nthN at h2 h3
  rw[za ⟨fun _=>om,fun _=>om,fun _=>om,fun _=>om,trivial⟩,y5 (by simp only[y2t,yc,yv,false_or,y7]; omega)]
  exact⟨(),rfl,trivial⟩)
 rw[e]
 simp only[zl]
 obtain⟨u,e,_⟩:=zp (body:=fun i s=>(S_qr_b2 t a b i s).den) (n:=t.C.length) (fun _ _=>True) (s0:=()) trivial (fun i u hi _=>by
  have h1:=h.2 _ (zb hi)
  have hp:=(ht.2.2 i hi).1
  have hh:=hp.2.2.2.1.2.1.1
  simp only[S_qr_b2,Scr.den,z3x,obind,ew,yg]
  unfold nthN at h1
  rw[za ⟨om,om,trivial⟩,y5 (by simp only[y7]; omega)]
  exact⟨(),rfl,trivial⟩)
 rw[e]
 rfl
theorem z6d (n a b:Int):F_q14 n a b=some (decide (a<=n/\n<=b)):=by
 simp only[F_q14,S_q14,Scr.den,zf]
 congr 1
 rw[y1k]; simp
variable {m:TMe}
theorem zle (ht:J13.TOk t) {f:Nat->TOf} (hn:(n:Int)=t.O) (h:MsgOk t f m):F_q5x t (ups n f) m=some true:=by
 have h6:=ht.1
 obtain⟨h1,h2⟩:=h
 have hp:=ht.potAt h1
 have hg:=hp.2.2.2.1.1.1
 have ha:=hp.2.2.2.1.2.2.1.1
 simp only[F_q5x,S_q5x,Scr.den,J13.Pot_eq ht.small,z7l h1,obind,z6d,zf]
 rw[y5 dk]
 rcases h2 with ⟨h0,q1,q2,q3,q4,q5⟩ | ⟨h0,q1,q2,q3,q4,q5,q6⟩
 ·unfold nthN at q2 q3
  have ew:i64.wrap (m.To-1)=m.To-1:=wrapId om om
  rw[y6 (by simp[h0]),ew,yd q1,zi (by simp[AllP]),yd q2]
  simp only[obind]
  rw[zi (by simp[AllP]),yd q3]
  simp only[obind]
  rw[za ⟨fun _=>om,fun _=>om,fun _=>om,fun _=>om,trivial⟩,q4,q5]
  rfl
 ·have ew:i64.wrap (m.Aa-1)=m.Aa-1:=wrapId om om
  rw[y5 (by simpa using h0),ew,yd q1,q2,z5u (show (m.Aa-1).toNat<n from om),z3x,zi (by simp[AllP])]
  simp only[obind]
  rw[zi (by simp[AllP]),yd q3]
  simp only[obind]
  rw[zi (by simp[AllP]),yd q4]
  simp only[obind]
  rw[za ⟨fun _=>om,fun _=>by rw[z1a]; omega,trivial⟩,q5,q6]
  rfl
theorem z3i (h:VW w):F_q11 w=some true:=by
 have hl:=h.len
 have hst:=zaz h
 have hw:=h
 obtain⟨h1,h2,h3,h4,h5⟩:=h
 simp only[F_q11,S_q11,Scr.den,J13.Valid_eq hw.small,obind,zd]
 rw[yd h1,y5 (by simp[h2]; omega),hst]
 simp only[obind]
 rw[y5 dk]
 obtain⟨u,e,_⟩:=zp (body:=fun i s=>(S_q11_b1 w (ups w.J.length (noW w),ups w.J.length (stW w),true) i s).den) (n:=(ups w.J.length (noW w)).length) (fun _ _=>True) (s0:=()) trivial (fun i u hi _=>by
  rw[z1a] at hi
  obtain⟨q1,q2,q3⟩:=h4 i hi
  simp only[S_q11_b1,Scr.den]
  rw[z5u hi,z5u hi,zq2 h1 om (show (noW w i).N=_ from (zs2 q1).trans q2) q3]
  simp only[obind]
  rw[za ⟨by rw[z1a]; exact hi,trivial⟩,y5 dk]
  exact⟨(),rfl,trivial⟩)
 rw[e]
 simp only[zl]
 have hx:F_q2i w.V w (ups w.J.length (stW w))=some (-1):=by
  simp only[F_q2i,S_q2i,Scr.den]
  obtain⟨u,e,_⟩:=zp (body:=fun i s=>(S_q2i_b1 w.V w (ups w.J.length (stW w)) i s).den) (n:=w.V.length) (fun _ _=>True) (s0:=()) trivial (fun i u hi _=>by
   simp only[S_q2i_b1,F_q70,S_q70,Scr.den]
   rw[zle h1 h2 (h5 _ (zb hi))]
   simp only[obind]
   rw[y5 dk]
   exact⟨(),rfl,trivial⟩)
  rw[e]
  rfl
 simp only[F_q71,S_q71,Scr.den,hx,obind]
 rfl
theorem zbj (h:VJ j):F_qt j=some (nowJ j,stbJ j,true):=by
 obtain⟨h1,h2,h3,h4⟩:=h
 have hn:F_q3j j.Y=some (newO j.Y,0):=by
  rw[zl5,y5 om]
  rfl
 simp only[F_qt,S_qt,Scr.den,hn,obind,zd]
 rw[y5 sk]
 obtain⟨s,e,hs⟩:=zp (body:=fun i s=>(S_qt_b1 j i s).den) (n:=j.Ab.length) (fun i s=>s=(runO (newO j.Y) (j.Ab.take i),runO (newO j.Y) (j.Ab.take (min i j.Ag.toNat)),(0:Int))) (s0:=(newO j.Y,newO j.Y,(0:Int))) (by simp; rfl) (fun i s hi hI=>by
  subst hI
  obtain⟨q1,q2⟩:=zjz h4 hi
  have hv:=z8r (z6v h1) (z41 h4 i)
  have hl:=q1.len
  simp only[S_qt_b1,Scr.den,zd]
  rw[zi (by simp[AllP]),zax om,@decide_eq_true _ (_) q1]
  simp only[obind]
  rw[y5 sj,zfi hv.smO om]
  simp only[obind]
  have e1:runO (newO j.Y) (j.Ab.take (i+1))=(doS (runO (newO j.Y) (j.Ab.take i)) (j.Ab.getD i default)).1:=by rw[zfl hi,zay]
  by_cases c:(i:Int)<j.Ag
  ·rw[y6 (by simpa using c)]
   refine⟨_,rfl,?_⟩
   rw[show min (i+1) j.Ag.toNat=i+1 from om,e1,q2]
  ·rw[y5 (by simpa using c)]
   refine⟨_,rfl,?_⟩
   rw[show min (i+1) j.Ag.toNat=min i j.Ag.toNat from om,e1,q2])
 rw[e,hs]
 simp only[zl]
 rw[y23 (ye _),show min j.Ab.length j.Ag.toNat=j.Ag.toNat from om]
 rfl
theorem z7m (h:VJ j):F_q3m j=some (nowJ j,0):=by
 simp only[F_q3m,S_q3m,Scr.den,zbj h,obind]
 rfl
theorem zga (h:VJ j):F_q5a j=some (stbJ j,0):=by
 simp only[F_q5a,S_q5a,Scr.den,zbj h,obind]
 rfl
theorem zb0 (h:VJ j):F_q44 j=some true:=by
 simp only[F_q44,S_q44,Scr.den,zbj h,obind]
theorem zi0 (h:VJ j):F_q58 j=some (flushJ j):=by
 simp only[F_q58,S_q58,Scr.den,zb0 h,obind,y17,zl]
 rfl
theorem zi1 (h:VJ j):F_q59 j=some (crashJ j):=by
 have hl:=h.2.1
 have hf:=h.2.2.1
 simp only[F_q59,S_q59,Scr.den,zb0 h,obind,y17]
 rw[za ⟨hf.1,om,by rw[y1g]; omega,trivial⟩]
 rfl
theorem za2 (h:VJ j) {p:TOp} (hc:p.D.length<=1000000):F_q45 j p=some (appendS j p):=by
 have hv:=h.now
 simp only[F_q45,S_q45,Scr.den,z7m h,obind]
 rw[zi (by simp[AllP]),zax hc]
 simp only[obind,zd]
 by_cases hp:POp p
 ·rw[@decide_eq_true _ (_) hp,y5 sj,zfi hv.smO hc]
  simp only[obind]
  by_cases h0:(doS (nowJ j) p).2=0
  ·rw[y5 (by simp[h0])]
   by_cases hl:j.Ab.length=400
   ·rw[y6 (by simp[hl]),z42 hp h0 hl]
    rfl
   ·rw[y5 sk,z2e hp h0 hl]
    have:=h.2.1
    rw[za ⟨om,om,trivial⟩,za ⟨by rw[yu]; simp; omega,trivial⟩]
  ·rw[y6 (by simpa using h0),z4l hp h0]
   rfl
 ·rw[@decide_eq_false _ (_) hp,y6 sj,z4k hp]
  rfl
theorem zdo (t:TTr) (c:List UInt8) (y:Int):F_q43 t c y=some (J13.potM t c y):=by
 simp only[F_q43,S_q43,Scr.den,J13.at_eq,obind]
 unfold J13.potM
 by_cases h:J13.hasP t.C c y=true
 ·have hlt:=(J13.pix_lt h).1
  rw[y6 h,y6 h,y6 sj,yg,za ⟨om,hlt,trivial⟩]
  rfl
 ·rw[y5 h,y5 h,y5 dk]
theorem zeq (ht:J13.TOk w.F) {f:Nat->TOf} (hn:(n:Int)=w.F.O) (h:MsgOk w.F f m):F_q4z w m (ups n f)=some true:=by
 have h6:=ht.1
 obtain⟨h1,h2⟩:=h
 have hp:=ht.potAt h1
 have hg:=hp.2.2.2.1.1.1
 have ha:=hp.2.2.2.1.2.2.1.1
 simp only[F_q4z,S_q4z,Scr.den,zdo,z7l h1,obind,zf,zd]
 rw[y5 dk]
 rcases h2 with ⟨h0,q1,q2,q3,q4,q5⟩ | ⟨h0,q1,q2,q3,q4,q5,q6⟩
 ·unfold nthN at q2 q3
  have ew:i64.wrap (m.To-1)=m.To-1:=wrapId om om
  rw[y6 (by simp[h0]),ew,y5 (by simp[q4,q5,z1a]; omega),za ⟨fun _=>om,fun _=>om,fun _=>om,fun _=>om,trivial⟩]
  rw[yd q2.1,yd q2.2,yd q3.1,yd q3.2]
  rfl
 ·have ew:i64.wrap (m.Aa-1)=m.Aa-1:=wrapId om om
  rw[y5 (by simpa using h0),y5 (by simp[q2,q5,q6,z1a]; omega),ew,yo,z5u (show (m.Aa-1).toNat<n from om),z28,zi (by simp[AllP]; omega)]
  simp only[obind]
  rw[za ⟨fun _=>om,fun _=>by rw[z1a]; omega,fun _=>by rw[z1a]; omega,trivial⟩,yd q3.1,yd q3.2]
  rfl
theorem z43 (h:VW w):F_q1 w=some true:=by
 have hl:=h.len
 have hw:=h
 obtain⟨h1,h2,h3,h4,h5⟩:=h
 have h6:=h1.1
 simp only[F_q1,S_q1,Scr.den,J13.r13_Valid_eq hw.small,obind,zd]
 rw[yd h1,y5 (by simp[h2]; omega)]
 obtain⟨s,e,hs⟩:=zp (body:=fun i s=>(S_q1_b3 w i s).den) (n:=w.J.length) (fun i s=>s=ups i (stW w)) (s0:=([]:List TOf)) rfl (fun i s hi hI=>by
  subst hI
  obtain⟨q1,q2,q3⟩:=h4 i hi
  simp only[S_q1_b3,Scr.den]
  rw[show w.J.getD i default=jAt w i from rfl,q2,wrapId (n:=(i:Int)+1) om om,y5 sj,zbj q1]
  simp only[obind]
  rw[y5 dk,za ⟨by rw[z1a]; omega,trivial⟩]
  obtain⟨u,e,_⟩:=zp (body:=fun k s=>(S_q1_b1 w i (nowJ (jAt w i),stbJ (jAt w i),true) k s).den) (n:=(nowJ (jAt w i)).I.length) (fun _ _=>True) (s0:=()) trivial (fun k u hk _=>by
   obtain⟨z1,z2,z3⟩:=q3.1 _ (zb hk)
   have hp:=h1.potAt z1
   have hg:=hp.2.2.2.1.1.1
   have ha:=hp.2.2.2.1.2.2.1.1
   simp only[S_q1_b1,Scr.den,zdo]
   unfold nthN at z2 z3
   rw[show (nowJ (jAt w i)).I=(noW w i).I from rfl,z7l z1]
   simp only[obind,zd]
   rw[za ⟨fun _=>om,fun _=>om,trivial⟩,y5 (by simp only[y2t,yc,yv,false_or,y7]; omega)]
   exact⟨(),rfl,trivial⟩)
  rw[e]
  simp only[zl]
  obtain⟨u,e,_⟩:=zp (body:=fun k s=>(S_q1_b2 w i (nowJ (jAt w i),stbJ (jAt w i),true) k s).den) (n:=w.F.C.length) (fun _ _=>True) (s0:=()) trivial (fun k u hk _=>by
   have z1:=q3.2 _ (zb hk)
   have hp:=(h1.2.2 k hk).1
   have hh:=hp.2.2.2.1.2.1.1
   simp only[S_q1_b2,Scr.den,z28,obind]
   unfold nthN at z1
   rw[za ⟨om,trivial⟩,y5 (by simp only[y7]; exact y35.2 z1)]
   exact⟨(),rfl,trivial⟩)
  rw[e]
  exact⟨_,rfl,by rw[z7k]; rfl⟩)
 rw[e,hs]
 simp only[zl]
 obtain⟨u,e,_⟩:=zp (body:=fun i s=>(S_q1_b4 w (ups w.J.length (stW w)) i s).den) (n:=w.V.length) (fun _ _=>True) (s0:=()) trivial (fun i u hi _=>by
  simp only[S_q1_b4,Scr.den]
  rw[zeq h1 h2 (h5 _ (zb hi))]
  simp only[obind]
  rw[y5 dk]
  exact⟨(),rfl,trivial⟩)
 rw[e]
 rfl
def zWd:TWo:=⟨⟨0,[]⟩,[],[]⟩
def sendS (w:TWo) (m:TMe) (e:Int):TWo×Int:=if e≠0 then (zWd,e) else if w.V.length=200 then (zWd,3) else (⟨w.F,w.J,w.V++[m]⟩,0)
def keepS (w:TWo) (k:Nat) (j:TJo) (e:Int):TWo×Int:=if e≠0 then (zWd,e) else (⟨w.F,w.J.set k j,w.V⟩,0)
def tresS (w:TWo) (r:TTr×Int):TWo×Int:=if r.2≠0 then (zWd,r.2) else (⟨r.1,w.J,w.V⟩,0)
def loseW (w:TWo) (i:Nat):TWo:=⟨w.F,w.J,w.V.eraseIdx i⟩
def hearOp (m:TMe):TOp:=⟨8,m.D,m.E,0,0,0,0,0,m.A,m.K⟩
noncomputable def actS (w:TWo) (s:TSt):TWo×Int :=
 if ¬ (1<=s.Y/\s.Y<=w.J.length) then (zWd,6) else
 if s.Q=5 then (if s.Op.Q=8 then (zWd,9) else keepS w (s.Y-1).toNat (appendS (jAt w (s.Y-1).toNat) s.Op).1 (appendS (jAt w (s.Y-1).toNat) s.Op).2) else
 if s.Q=6 then keepS w (s.Y-1).toNat (flushJ (jAt w (s.Y-1).toNat)) 0 else
 if s.Q=7 then keepS w (s.Y-1).toNat (crashJ (jAt w (s.Y-1).toNat)) 0 else
 sendS w (reportS (stW w (s.Y-1).toNat) s.D s.E).1 (reportS (stW w (s.Y-1).toNat) s.D s.E).2
def mAt (w:TWo) (i:Nat):TMe:=w.V.getD i default
noncomputable def delivS (w:TWo) (i:Nat):TWo×Int :=
 if (mAt w i).To=0 then (if (J13.hearM w.F (mAt w i)).2≠0 then (zWd,(J13.hearM w.F (mAt w i)).2) else (⟨(J13.hearM w.F (mAt w i)).1,w.J,w.V.eraseIdx i⟩,0)) else
 keepS (loseW w i) ((mAt w i).To-1).toNat (appendS (jAt w ((mAt w i).To-1).toNat) (hearOp (mAt w i))).1 (appendS (jAt w ((mAt w i).To-1).toNat) (hearOp (mAt w i))).2
noncomputable def mailS (w:TWo) (s:TSt):TWo×Int :=
 if ¬ (0<=s.Ai/\s.Ai<w.V.length) then (zWd,6) else if s.Q=9 then delivS w s.Ai.toNat else if s.Q=11 then sendS w (mAt w s.Ai.toNat) 0 else (loseW w s.Ai.toNat,0)
noncomputable def stepW (w:TWo) (s:TSt):TWo×Int :=
 if s.Q=1 then tresS w (J13.setM w.F s.D s.E s.T) else
 if s.Q=2 then tresS w (J13.grantM w.F s.Y s.D s.E s.T) else
 if s.Q=3 then tresS w (J13.askM w.F s.Y s.D s.E s.T) else
 if s.Q=4 then sendS w (J13.tellM w.F s.Y s.D s.E).1 (J13.tellM w.F s.Y s.D s.E).2 else
 if 5<=s.Q/\s.Q<=8 then actS w s else if 9<=s.Q/\s.Q<=11 then mailS w s else (zWd,1)
variable {e:Int}
theorem z54 (h:e≠0):sendS w m e=(zWd,e):=y6 h
theorem z5g (h:w.V.length=200):sendS w m 0=(zWd,3):=(y5 fun k=>k rfl).trans (y6 h)
theorem z3g (h:w.V.length≠200):sendS w m 0=(⟨w.F,w.J,w.V++[m]⟩,0):=(y5 fun k=>k rfl).trans (y5 h)
theorem z44 (h:e≠0):keepS w k j e=(zWd,e):=y6 h
theorem z1o:keepS w k j 0=(⟨w.F,w.J.set k j,w.V⟩,0):=y5 fun k=>k rfl
theorem zer (hl:w.V.length<=200) (m:TMe) (e:Int):F_q3v w m e=some (sendS w m e):=by
 simp only[F_q3v,S_q3v,Scr.den]
 by_cases h0:e=0
 ·subst h0
  rw[y5 sj]
  by_cases h2:w.V.length=200
  ·rw[y6 (by simp[h2]),z5g h2]
   rfl
  ·have e1:i64.wrap ((w.V.length:Int)+1)=((w.V.length+1:Nat):Int):=wrapId om om
   have e2:min w.V.length (List.replicate (w.V.length+1) ((⟨0,0,[],0,0,0,0,0⟩:TMe):TMe)).length=w.V.length:=by rw[y1x]; omega
   rw[y5 sk,z3g h2,e1,yg,e2,za ⟨om,om,trivial⟩,za ⟨by rw[y1x]; omega,by rw[zq,y1x]; omega,trivial⟩,za ⟨by rw[yb,zq,y1x]; omega,trivial⟩]
   congr 3
   refine y2s (by rw[yb,zq,y1x,yu]; rfl) fun i h1 h3=>?_
   rw[yb,zq,y1x] at h1
   rw[y3x]
   by_cases hi:i=w.V.length
   ·rw[y6 om]
    subst hi
    simp
   ·rw[y5 om,List.getElem_append_left om]
    simp only[copyL,y33,y3e]
    rw[y6 om,Nat.sub_zero,z17 om]
 ·rw[y6 (by simpa using h0),z54 h0]
  rfl
theorem zo1 {l:List TJo} (hl:l.length<=1000000):F_q66 l=some l:=by
 simp only[F_q66,S_q66,Scr.den]
 rw[za ⟨om,trivial⟩]
theorem zbk (hl:w.J.length<=6) (hk:k<w.J.length) (hj:e=0->j.Y=(k:Int)+1):F_q3h w j e=some (keepS w k j e):=by
 simp only[F_q3h,S_q3h,Scr.den]
 by_cases h0:e=0
 ·have ew:i64.wrap (j.Y-1)=(k:Int):=by rw[hj h0,wrapId om om]; omega
  subst h0
  rw[y5 sj,z1o,zo1 om]
  simp only[obind,ew,yg,yo]
  rw[za ⟨om,hk,hk,trivial⟩,za ⟨by rw[yb]; omega,trivial⟩]
 ·rw[y6 (by simpa using h0),z44 h0]
  rfl
variable {l:List TMe}
theorem zo2 (hl:l.length<=1000000):F_q6c l=some l:=by
 simp only[F_q6c,S_q6c,Scr.den]
 rw[za ⟨om,trivial⟩]
theorem cloneM (hl:l.length<=1000000):F_q6g l=some l:=by
 simp only[F_q6g,S_q6g,Scr.den]
 rw[za ⟨om,trivial⟩]
theorem zlf (hi:i<l.length) (hl:l.length<=1000000):F_q6d (i:Int) ((i:Int)+1) l=some (l.eraseIdx i):=by
 simp only[F_q6d,S_q6d,Scr.den]
 have e1:((i:Int)+1).toNat=i+1:=om
 simp only[e1,yg,Nat.sub_zero,yo]
 rw[za ⟨om,om,om,om,trivial⟩,y5 sk,za ⟨om,om,trivial⟩,za ⟨om,by rw[zq]; exact ye _,trivial⟩,
  za ⟨by rw[z1l,zq]; omega,trivial⟩,za ⟨by rw[z1l,zq]; omega,trivial⟩]
 congr 1
 refine y2s ?_ fun j h1 h2=>?_
 ·rw[y1g,z1l,zq,List.length_eraseIdx,y6 hi]
  omega
 ·rw[y1g,z1l,zq] at h1
  rw[List.getElem_take,List.getElem_eraseIdx]
  simp only[clearL,List.getElem_mapIdx,copyL,y33,y3e]
  rw[y5 om]
  by_cases c:j<i
  ·rw[y5 om,y48 c,z17 om]
  ·rw[y6 om,dif_neg c,z17 om]
   congr 1
   omega
theorem zes (hl:w.V.length<=200) (hi:i<w.V.length):F_q3x w (i:Int)=some (loseW w i):=by
 simp only[F_q3x,S_q3x,Scr.den,zo2 (show w.V.length<=1000000 from om),obind]
 rw[wrapId (n:=(i:Int)+1) om om,zlf hi om]
 rfl
theorem z6o {p:TOp} (h0:(appendS j p).2=0):(appendS j p).1.Y=j.Y:=by
 by_cases hp:POp p
 ·by_cases h1:(doS (nowJ j) p).2=0
  ·by_cases hl:j.Ab.length=400
   ·rw[z42 hp h1 hl] at h0; cases h0
   ·rw[z2e hp h1 hl]
  ·rw[z4l hp h1] at h0
   exact absurd h0 h1
 ·rw[z4k hp] at h0; cases h0
theorem VW.msgLen (h:VW w) (hm:m∈w.V):m.D.length<=1000000:=by
 have h1:=(h.2.2.2.2 m hm).1
 have h2:=h.1.potAt h1
 have h3:=z3e h2.1
 have h4:=(J13.potAt_cy h1).1
 rw[h4] at h3
 omega
theorem zlg (h:VW w) (hi:i<w.V.length):F_q6e w (i:Int)=some (delivS w i):=by
 have hl:=h.len
 have hm:=h.2.2.1
 have hml:=h.msgLen (zb hi)
 have hmo:=(h.2.2.2.2 _ (zb hi)).2
 have h2:=h.2.1
 simp only[F_q6e,S_q6e,Scr.den,yg]
 rw[za ⟨om,hi,trivial⟩]
 unfold delivS mAt
 generalize w.V.getD i default=m at hml hmo
 by_cases h0:m.To=0
 ·refine y1o ?_ (yi some (y6 h0).symm)
  rw[y6 (by simp[h0]),J13.Hear_eq h.small]
  simp only[obind]
  by_cases h1:(J13.hearM w.F m).2=0
  ·refine y1o ?_ (yi some (y5 (fun k=>k h1)).symm)
   rw[y5 (by simp[h1]),zes (w:=⟨(J13.hearM w.F m).1,w.J,w.V⟩) hm hi]
   rfl
  ·refine y1o ?_ (yi some (y6 h1).symm)
   rw[y6 (by simpa using h1)]
   rfl
 ·have hto:1<=m.To/\m.To<=w.F.O:=by
   rcases hmo with ⟨_,q,_⟩ | ⟨_,_,q,_⟩
   ·exact q
   ·exact absurd q h0
  have hk:(m.To-1).toNat<w.J.length:=om
  obtain⟨q1,q2,_⟩:=h.2.2.2.1 _ hk
  have ew:i64.wrap (m.To-1)=m.To-1:=wrapId om om
  refine y1o ?_ (yi some (y5 h0).symm)
  rw[y5 (by simpa using h0),ew]
  simp only[show w.J.getD (m.To-1).toNat default=jAt w (m.To-1).toNat from rfl]
  rw[show (⟨8,m.D,m.E,0,0,0,0,0,m.A,m.K⟩:TOp)=hearOp m from rfl,zcb q1 (p:=hearOp m) hml]
  simp only[obind]
  rw[za ⟨om,hk,trivial⟩,zes hm hi]
  simp only[obind]
  rw[zbk (w:=loseW w i) (k:=(m.To-1).toNat) hl.2 hk fun e0=>by rw[z6o e0,q2]]
  rfl
variable {ρ:Type}
theorem ztb (k a b c d:Int) (K:Bool->Option α) (R:ρ->Option α):outM (if (k==a)=true then some (Out.next (k==a)) else if (k==b)=true then some (Out.next (k==b)) else if (k==c)=true then some (Out.next (k==c)) else some (Out.next (k==d))) K R=K (decide (k=a\/k=b\/k=c\/k=d)):=by
 by_cases h1:k=a
 ·rw[y6 (by simpa using h1)]; simp[outM,h1]
 rw[y5 (by simpa using h1)]
 by_cases h2:k=b
 ·rw[y6 (by simpa using h2)]; simp[outM,h2]
 rw[y5 (by simpa using h2)]
 by_cases h3:k=c
 ·rw[y6 (by simpa using h3)]; simp[outM,h3]
 rw[y5 (by simpa using h3)]
 simp only[outM,h1,h2,h3,false_or]
 rfl
theorem ztc (k a b c:Int) (K:Bool->Option α) (R:ρ->Option α):outM (if (k==a)=true then some (Out.next (k==a)) else if (k==b)=true then some (Out.next (k==b)) else some (Out.next (k==c))) K R=K (decide (k=a\/k=b\/k=c)):=by
 by_cases h1:k=a
 ·rw[y6 (by simpa using h1)]; simp[outM,h1]
 rw[y5 (by simpa using h1)]
 by_cases h2:k=b
 ·rw[y6 (by simpa using h2)]; simp[outM,h2]
 rw[y5 (by simpa using h2)]
 simp only[outM,h1,h2,false_or]
 rfl
variable {s:TSt}
theorem z6w (h:s.Q=1):stepW w s=tresS w (J13.setM w.F s.D s.E s.T):=y6 h
theorem z6x (h:s.Q=2):stepW w s=tresS w (J13.grantM w.F s.Y s.D s.E s.T):=(y5 om).trans (y6 h)
theorem z8t (h:s.Q=3):stepW w s=tresS w (J13.askM w.F s.Y s.D s.E s.T):=(y5 om).trans ((y5 om).trans (y6 h))
theorem z5v (h:s.Q=4):stepW w s=sendS w (J13.tellM w.F s.Y s.D s.E).1 (J13.tellM w.F s.Y s.D s.E).2:=(y5 om).trans ((y5 om).trans ((y5 om).trans (y6 h)))
theorem z5w (h:5<=s.Q/\s.Q<=8):stepW w s=actS w s:=(y5 om).trans ((y5 om).trans ((y5 om).trans ((y5 om).trans (y6 h))))
theorem z4f (h:9<=s.Q/\s.Q<=11):stepW w s=mailS w s:=(y5 om).trans ((y5 om).trans ((y5 om).trans ((y5 om).trans ((y5 om).trans (y6 h)))))
theorem z8u (h:¬ (1<=s.Q/\s.Q<=11)):stepW w s=(zWd,1):=(y5 om).trans ((y5 om).trans ((y5 om).trans ((y5 om).trans ((y5 om).trans (y5 om)))))
theorem z5x (w:TWo) (r:TTr×Int):(if (r.2 != 0)=true then some (zWd,r.2) else some ((⟨r.1,w.J,w.V⟩:TWo),(0:Int)))=some (tresS w r):=by
 unfold tresS
 by_cases h:r.2=0
 ·rw[y5 (by simp[h]),y5 (by simp[h])]
 ·rw[y6 (by simpa using h),y6 h]
theorem zj4 (h:VW w) (hc:s.D.length<=1000000) (hk:1<=s.Q/\s.Q<=4):F_q64 w s=some (stepW w s):=by
 have hs:=h.small
 simp only[F_q64,S_q64,Scr.den]
 have hk:s.Q=1\/s.Q=2\/s.Q=3\/s.Q=4:=om
 rcases hk with k | k | k | k
 ·rw[z6w k,<- z5x,y6 (by simp[k]),J13.Set_eq hs hc]
  rfl
 ·rw[z6x k,<- z5x,y5 (by simp[k]),y6 (by simp[k]),J13.Grant_eq hs]
  rfl
 ·rw[z8t k,<- z5x,y5 (by simp[k]),y5 (by simp[k]),y6 (by simp[k]),J13.Ask_eq hs]
  rfl
 ·rw[z5v k,y5 (by simp[k]),y5 (by simp[k]),y5 (by simp[k]),J13.Tell_eq hs]
  simp only[obind]
  rw[zer h.2.2.1]
  rfl
theorem ztd (h:VW w) (ho:s.Op.D.length<=1000000) (_hk:5<=s.Q/\s.Q<=8):F_q6a w s=some (actS w s):=by
 have hl:=h.len
 simp only[F_q6a,S_q6a,Scr.den,z6d,obind]
 by_cases h1:1<=s.Y/\s.Y<=w.J.length
 ·have ew:i64.wrap (s.Y-1)=s.Y-1:=wrapId om om
  have hlt:(s.Y-1).toNat<w.J.length:=om
  obtain⟨q1,q2,_⟩:=h.2.2.2.1 _ hlt
  rw[yd h1,y5 sj,ew,za ⟨om,om,trivial⟩]
  simp only[show w.J.getD (s.Y-1).toNat default=jAt w (s.Y-1).toNat from rfl]
  refine y1o ?_ (yi some (y5 fun g=>g h1).symm)
  by_cases c5:s.Q=5
  ·refine y1o ?_ (yi some (y6 c5).symm)
   rw[y6 (by simp[c5])]
   by_cases c8:s.Op.Q=8
   ·refine y1o ?_ (yi some (y6 c8).symm)
    rw[y6 (by simp[c8])]
    rfl
   ·refine y1o ?_ (yi some (y5 c8).symm)
    rw[y5 (by simpa using c8),zcb q1 ho]
    simp only[obind]
    rw[zbk hl.2 hlt fun e0=>by rw[z6o e0,q2]]
    rfl
  refine y1o ?_ (yi some (y5 c5).symm)
  rw[y5 (by simpa using c5)]
  by_cases c6:s.Q=6
  ·refine y1o ?_ (yi some (y6 c6).symm)
   rw[y6 (by simp[c6]),zl9 q1]
   simp only[obind]
   rw[zbk (j:=flushJ (jAt w (s.Y-1).toNat)) hl.2 hlt fun _=>q2]
   rfl
  refine y1o ?_ (yi some (y5 c6).symm)
  rw[y5 (by simpa using c6)]
  by_cases c7:s.Q=7
  ·refine y1o ?_ (yi some (y6 c7).symm)
   rw[y6 (by simp[c7]),zla q1]
   simp only[obind]
   rw[zbk (j:=crashJ (jAt w (s.Y-1).toNat)) hl.2 hlt fun _=>q2]
   rfl
  refine y1o ?_ (yi some (y5 c7).symm)
  rw[y5 (by simpa using c7),zca q1]
  simp only[obind]
  rw[znk q1.stb.smO]
  simp only[obind]
  rw[zer h.2.2.1]
  rfl
 ·rw[yh h1,y6 (by rfl)]
  exact yi some (y6 h1).symm
theorem zs3 (h:VW w) (_hk:9<=s.Q/\s.Q<=11):F_q6f w s=some (mailS w s):=by
 have hm:=h.2.2.1
 have ew:i64.wrap ((w.V.length:Int)-1)=(w.V.length:Int)-1:=wrapId om om
 simp only[F_q6f,S_q6f,Scr.den,z6d,obind,ew]
 by_cases h1:0<=s.Ai/\s.Ai<w.V.length
 ·have hlt:s.Ai.toNat<w.V.length:=om
  have ei:s.Ai=(s.Ai.toNat:Int):=om
  rw[yd (show 0<=s.Ai/\s.Ai<=(w.V.length:Int)-1 from om),y5 sj]
  refine y1o ?_ (yi some (y5 fun g=>g h1).symm)
  by_cases c9:s.Q=9
  ·refine y1o ?_ (yi some (y6 c9).symm)
   rw[y6 (by simp[c9])]
   conv=>lhs; rw[ei]
   rw[zlg h hlt]
   rfl
  refine y1o ?_ (yi some (y5 c9).symm)
  rw[y5 (by simpa using c9)]
  by_cases c11:s.Q=11
  ·refine y1o ?_ (yi some (y6 c11).symm)
   rw[y6 (by simp[c11]),zer hm]
   simp only[obind]
   rw[za ⟨h1.1,hlt,trivial⟩]
   rfl
  refine y1o ?_ (yi some (y5 c11).symm)
  rw[y5 (by simpa using c11)]
  conv=>lhs; rw[ei]
  rw[zes hm hlt]
  rfl
 ·rw[yh (show ¬ (0<=s.Ai/\s.Ai<=(w.V.length:Int)-1) from om),y6 (by rfl)]
  exact yi some (y6 h1).symm
theorem zb1 (h:VW w) (hc:s.D.length<=1000000) (ho:s.Op.D.length<=1000000):F_q3y w s=some (stepW w s):=by
 simp only[F_q3y,S_q3y,Scr.den,ztb,ztc]
 by_cases k1:1<=s.Q/\s.Q<=4
 ·rw[y6 (by rw[y7]; omega),zj4 h hc k1]
  rfl
 rw[y5 (by rw[y7]; omega)]
 by_cases k2:5<=s.Q/\s.Q<=8
 ·rw[y6 (by rw[y7]; omega),ztd h ho k2,z5w k2]
  rfl
 rw[y5 (by rw[y7]; omega)]
 by_cases k3:9<=s.Q/\s.Q<=11
 ·rw[y6 (by rw[y7]; omega),zs3 h k3,z4f k3]
  rfl
 rw[y5 (by rw[y7]; omega),z8u om]
 rfl
theorem zj5 (hs:J13.Small t) (k:Int) (c:List UInt8) (y:Int):F_q57 t k c y=some (J13.tellM t k c y):=by
 simp only[F_q57,S_q57,Scr.den,J13.r13_find_eq hs,obind]
 unfold J13.tellM J13.findM
 by_cases h1:J13.TOk t
 ·simp only[show ¬ ¬ J13.TOk t from fun h=>h h1,yx]
  by_cases h2:J13.hasP t.C c y=true/\1<=k/\k<=t.O
  ·have hlt:=(J13.pix_lt h2.1).1
   have hp:=h1.potAt h2.1
   have l1:=hp.2.2.2.1.1.1
   have l3:=hp.2.2.2.1.2.2.1.1
   have e0:=h1.1
   have h3:=h2.2
   simp only[show ¬ ¬ (J13.hasP t.C c y=true/\1<=k/\k<=t.O) from fun h=>h h2,yx]
   rw[y5 (show ¬ ((0:Int) != 0)=true from sj),wrapId (n:=k-1) om om,yg,show t.C.getD (J13.pix t.C c y) default=J13.potAt t c y from rfl,za ⟨om,hlt,om,om,om,trivial⟩]
   rfl
  ·simp only[h2,yk,y17]; rfl
 ·simp only[h1,yk,y17]; rfl
theorem z8i (hl:w.V.length<=200) (m:TMe):F_q3n w m=some (sendS w m 0):=by
 simp only[F_q3n,S_q3n,Scr.den]
 by_cases h2:w.V.length=200
 ·rw[y6 (by simp[h2]),z5g h2]
  rfl
 ·rw[y5 sk,z3g h2,za ⟨om,om,trivial⟩,za ⟨by rw[yu]; simp; omega,trivial⟩]
theorem z64 (hl:w.J.length<=6) (hk:k<w.J.length) (hj:j.Y=(k:Int)+1):F_q33 w j=some (keepS w k j 0).1:=by
 have ew:i64.wrap (j.Y-1)=(k:Int):=by rw[hj,wrapId om om]; omega
 simp only[F_q33,S_q33,Scr.den,ew,yg,yo]
 rw[z1o,za ⟨om,trivial⟩,za ⟨om,hk,hk,trivial⟩,za ⟨by rw[yb]; omega,trivial⟩]
theorem z5y (hl:w.V.length<=200) (hi:i<w.V.length):F_q46 w (i:Int)=some (loseW w i):=by
 simp only[F_q46,S_q46,Scr.den]
 have e1:i64.wrap ((i:Int)+1)=((i+1:Nat):Int):=wrapId om om
 have e2:w.V.take i++w.V.drop (i+1)=w.V.eraseIdx i:=(List.eraseIdx_eq_take_drop_succ ..).symm
 have l1:(w.V.take i).length<=200:=by rw[y1g]; omega
 have l2:(w.V.drop (i+1)).length<=200:=by rw[y3d]; omega
 have l3:(w.V.eraseIdx i).length<=200:=y24 (List.length_eraseIdx_le ..) hl
 rw[e1]
 simp only[yg,e2]
 rw[za ⟨om,om,om,om,om,om,trivial⟩,za ⟨om,trivial⟩]
 rfl
theorem zj6 (h:VW w) (ho:s.Op.D.length<=1000000) (_hk:5<=s.Q/\s.Q<=8):F_q5c w s=some (actS w s):=by
 have hl:=h.len
 simp only[F_q5c,S_q5c,Scr.den,F_q3l,S_q3l,zf,obind]
 by_cases h1:1<=s.Y/\s.Y<=w.J.length
 ·have ew:i64.wrap (s.Y-1)=s.Y-1:=wrapId om om
  have hlt:(s.Y-1).toNat<w.J.length:=om
  obtain⟨q1,q2,_⟩:=h.2.2.2.1 _ hlt
  rw[y5 sk,ew,za ⟨om,om,trivial⟩]
  simp only[show w.J.getD (s.Y-1).toNat default=jAt w (s.Y-1).toNat from rfl]
  refine y1o ?_ (yi some (y5 fun g=>g h1).symm)
  by_cases c5:s.Q=5
  ·refine y1o ?_ (yi some (y6 c5).symm)
   rw[y5 (by simp[c5]),y5 (by simp[c5]),y6 (by simp[c5])]
   by_cases c8:s.Op.Q=8
   ·refine y1o ?_ (yi some (y6 c8).symm)
    rw[y6 (by simp[c8])]
    rfl
   ·refine y1o ?_ (yi some (y5 c8).symm)
    rw[y5 (by simpa using c8),za2 q1 ho]
    simp only[obind]
    by_cases e0:(appendS (jAt w (s.Y-1).toNat) s.Op).2=0
    ·rw[y5 (by rw[e0]; decide),z64 hl.2 hlt (by rw[z6o e0,q2]),e0]
     rfl
    ·rw[y6 (by simpa using e0),z44 e0]
     rfl
  refine y1o ?_ (yi some (y5 c5).symm)
  by_cases c6:s.Q=6
  ·refine y1o ?_ (yi some (y6 c6).symm)
   rw[y6 (by simp[c6]),zi0 q1]
   simp only[obind]
   rw[z64 (j:=flushJ (jAt w (s.Y-1).toNat)) hl.2 hlt q2]
   rfl
  refine y1o ?_ (yi some (y5 c6).symm)
  rw[y5 (by simpa using c6)]
  by_cases c7:s.Q=7
  ·refine y1o ?_ (yi some (y6 c7).symm)
   rw[y6 (by simp[c7]),zi1 q1]
   simp only[obind]
   rw[z64 (j:=crashJ (jAt w (s.Y-1).toNat)) hl.2 hlt q2]
   rfl
  refine y1o ?_ (yi some (y5 c7).symm)
  rw[y5 (by simpa using c7),y5 (by simpa using c5),zga q1]
  simp only[obind]
  rw[zg8 q1.stb.smO]
  simp only[obind]
  by_cases e0:(reportS (stbJ (jAt w (s.Y-1).toNat)) s.D s.E).2=0
  ·rw[y5 (by rw[e0]; decide),z8i h.2.2.1]
   unfold stW
   rw[e0]
   rfl
  ·rw[y6 (by simpa using e0)]
   unfold stW
   rw[z54 e0]
   rfl
 ·rw[y6 sk]
  exact yi some (y6 h1).symm
theorem zet (h:VW w) (hi:i<w.V.length):F_q5e w (i:Int)=some (delivS w i):=by
 have hl:=h.len
 have hm:=h.2.2.1
 have hml:=h.msgLen (zb hi)
 have hmo:=(h.2.2.2.2 _ (zb hi)).2
 have h2:=h.2.1
 simp only[F_q5e,S_q5e,Scr.den,yg]
 rw[za ⟨om,hi,trivial⟩]
 unfold delivS mAt
 generalize w.V.getD i default=m at hml hmo
 by_cases h0:m.To=0
 ·refine y1o ?_ (yi some (y6 h0).symm)
  rw[y6 (by simp[h0]),J13.r13_Hear_eq h.small]
  simp only[obind]
  by_cases h1:(J13.hearM w.F m).2=0
  ·refine y1o ?_ (yi some (y5 (fun k=>k h1)).symm)
   rw[y5 (by simp[h1])]
   simp only[zl]
   rw[z5y (w:=⟨(J13.hearM w.F m).1,w.J,w.V⟩) hm hi]
   rfl
  ·refine y1o ?_ (yi some (y6 h1).symm)
   rw[y6 (by simpa using h1)]
   rfl
 ·have hto:1<=m.To/\m.To<=w.F.O:=by
   rcases hmo with ⟨_,q,_⟩ | ⟨_,_,q,_⟩
   ·exact q
   ·exact absurd q h0
  have hk:(m.To-1).toNat<w.J.length:=om
  obtain⟨q1,q2,_⟩:=h.2.2.2.1 _ hk
  have ew:i64.wrap (m.To-1)=m.To-1:=wrapId om om
  refine y1o ?_ (yi some (y5 h0).symm)
  rw[y5 (by simpa using h0),ew]
  simp only[show w.J.getD (m.To-1).toNat default=jAt w (m.To-1).toNat from rfl]
  rw[show (⟨8,m.D,m.E,0,0,0,0,0,m.A,m.K⟩:TOp)=hearOp m from rfl,za2 q1 (p:=hearOp m) hml]
  simp only[obind]
  rw[za ⟨om,hk,trivial⟩]
  by_cases e0:(appendS (jAt w (m.To-1).toNat) (hearOp m)).2=0
  ·rw[y5 (by rw[e0]; decide),z64 hl.2 hk (by rw[z6o e0,q2]),e0]
   simp only[obind,zl]
   rw[z5y (w:=(keepS w (m.To-1).toNat (appendS (jAt w (m.To-1).toNat) (hearOp m)).1 0).1) (by rw[z1o]; exact hm) (by rw[z1o]; exact hi),z1o,z1o]
   rfl
  ·rw[y6 (by simpa using e0),z44 e0]
   rfl
theorem zj7 (h:VW w) (_hk:9<=s.Q/\s.Q<=11):F_q5f w s=some (mailS w s):=by
 have hm:=h.2.2.1
 simp only[F_q5f,S_q5f,Scr.den,zd]
 by_cases h1:0<=s.Ai/\s.Ai<w.V.length
 ·have hlt:s.Ai.toNat<w.V.length:=om
  have ei:s.Ai=(s.Ai.toNat:Int):=om
  rw[y5 sk]
  refine y1o ?_ (yi some (y5 fun g=>g h1).symm)
  by_cases c9:s.Q=9
  ·refine y1o ?_ (yi some (y6 c9).symm)
   rw[y6 (by simp[c9])]
   conv=>lhs; rw[ei]
   rw[zet h hlt]
   rfl
  refine y1o ?_ (yi some (y5 c9).symm)
  rw[y5 (by simpa using c9)]
  by_cases c11:s.Q=11
  ·refine y1o ?_ (yi some (y6 c11).symm)
   rw[y6 (by simp[c11]),z8i hm]
   simp only[obind]
   rw[za ⟨h1.1,hlt,trivial⟩]
   rfl
  refine y1o ?_ (yi some (y5 c11).symm)
  rw[y5 (by simpa using c11)]
  conv=>lhs; rw[ei]
  rw[z5y hm hlt]
  rfl
 ·rw[y6 sk]
  exact yi some (y6 h1).symm
theorem zfr (h:VW w) (hc:s.D.length<=1000000) (ho:s.Op.D.length<=1000000):F_q47 w s=some (stepW w s):=by
 have hs:=h.small
 simp only[F_q47,S_q47,Scr.den,ztb,ztc,z43 h,obind]
 rw[y5 dk]
 by_cases k:s.Q=1
 ·rw[z6w k,<- z5x,y6 (by simp[k]),J13.r13_Set_eq hs hc]
  rfl
 rw[y5 (by simp[k])]
 by_cases k:s.Q=2
 ·rw[z6x k,<- z5x,y6 (by simp[k]),J13.r13_Grant_eq hs]
  rfl
 rw[y5 (by simp[k])]
 by_cases k:s.Q=3
 ·rw[z8t k,<- z5x,y6 (by simp[k]),J13.r13_Ask_eq hs]
  rfl
 rw[y5 (by simp[k])]
 by_cases k:s.Q=4
 ·rw[z5v k,y6 (by simp[k]),zj5 hs]
  simp only[obind]
  by_cases e0:(J13.tellM w.F s.Y s.D s.E).2=0
  ·rw[y5 (by rw[e0]; decide),z8i h.2.2.1,e0]
   rfl
  ·rw[y6 (by simpa using e0),z54 e0]
   rfl
 rw[y5 (by simp[k])]
 by_cases k2:5<=s.Q/\s.Q<=8
 ·rw[y6 (by rw[y7]; omega),zj6 h ho k2,z5w k2]
  rfl
 rw[y5 (by rw[y7]; omega)]
 by_cases k3:9<=s.Q/\s.Q<=11
 ·rw[y6 (by rw[y7]; omega),zj7 h k3,z4f k3]
  rfl
 rw[y5 (by rw[y7]; omega),z8u om]
 rfl
theorem z55 {l:List Int} (h:l.length<=k):l.getD k default=default:=by simp[List.getD_eq_getElem?_getD,List.getElem?_eq_none h]
variable {p:TPo}
theorem z3j (h:J13.TOk t) (hp:p∈t.C):J13.hasP t.C p.D p.E=true/\J13.potAt t p.D p.E=p:=by
 have hh:J13.hasP t.C p.D p.E=true:=J13.has_iff.2 ⟨p,hp,rfl,rfl⟩
 refine⟨hh,?_⟩
 obtain⟨k1,k2,k3⟩:=J13.pix_lt hh
 obtain⟨i,hi,e⟩:=z1b hp
 have g1:=h.good _ (zb k1)
 have g2:=h.good _ hp
 have e0:J13.cmpP (t.C.getD (J13.pix t.C p.D p.E) default) p=0:=(J13.cmpP_eq g1.1 g2.1).2 ⟨k2,k3⟩
 have e0':J13.cmpP p (t.C.getD (J13.pix t.C p.D p.E) default)=0:=(J13.cmpP_eq g2.1 g1.1).2 ⟨k2.symm,k3.symm⟩
 rcases y3q (J13.pix t.C p.D p.E) i with hlt | heq | hgt
 ·have:=h.srt.lt h.good hlt hi
  rw[e,e0] at this
  omega
 ·show t.C.getD (J13.pix t.C p.D p.E) default=p
  rw[heq,e]
 ·have:=h.srt.lt h.good hgt k1
  rw[e,e0'] at this
  omega
theorem z88 (hp:J13.hasP t.C c y=true) (hc:p.D=c) (hy:p.E=y) (hk:J13.TOk (J13.putP t c y p)) :
  J13.potAt (J13.putP t c y p) c y=p/\∀ c' y',(J13.hasP (J13.putP t c y p).C c' y'=J13.hasP t.C c' y')/\(J13.hasP t.C c' y'=true->¬ (c'=c/\y'=y)->J13.potAt (J13.putP t c y p) c' y'=J13.potAt t c' y'):=by
 obtain⟨k1,k2,k3⟩:=J13.pix_lt hp
 have hm:p∈(J13.putP t c y p).C:=List.mem_set k1 p
 have h1:=z3j hk hm
 rw[hc,hy] at h1
 have hold:∀ c' y',J13.hasP t.C c' y'=true->¬ (c'=c/\y'=y)->J13.potAt t c' y'∈(J13.putP t c y p).C:=fun c' y' h hn=>by
  obtain⟨q1,q2,q3⟩:=J13.pix_lt h
  have hne:J13.pix t.C c y≠J13.pix t.C c' y':=fun e=>by
   rw[<- e] at q2 q3
   exact hn ⟨q2.symm.trans k2,q3.symm.trans k3⟩
  show t.C.getD (J13.pix t.C c' y') default∈t.C.set (J13.pix t.C c y) p
  rw[z17 q1,List.mem_iff_getElem]
  exact⟨J13.pix t.C c' y',by rw[yb]; exact q1,by rw[List.getElem_set_ne hne]⟩
 refine⟨h1.2,fun c' y'=>⟨?_,fun h hn=>?_⟩⟩
 ·rw[y1k]
  by_cases e:c'=c/\y'=y
  ·obtain⟨rfl,rfl⟩:=e
   exact⟨fun _=>hp,fun _=>h1.1⟩
  constructor
  ·intro h
   obtain⟨x,hx,e1,e2⟩:=J13.has_iff.1 h
   rcases y2h hx with h3 | h3
   ·exact J13.has_iff.2 ⟨x,h3,e1,e2⟩
   ·subst h3
    exact absurd ⟨e1.symm.trans hc,e2.symm.trans hy⟩ e
  ·intro h
   have:=J13.potAt_cy h
   exact J13.has_iff.2 ⟨_,hold c' y' h e,this.1,this.2⟩
 ·have h2:=z3j hk (hold c' y' h hn)
  have:=J13.potAt_cy h
  rw[this.1,this.2] at h2
  exact h2.2
theorem zo3 {r:TPo} (hi:i<=t.C.length) (hk:J13.TOk ⟨t.O,insL t.C i r⟩) :
  (J13.hasP (insL t.C i r) r.D r.E=true/\J13.potAt ⟨t.O,insL t.C i r⟩ r.D r.E=r)/\∀ c y,(J13.hasP (insL t.C i r) c y=true->J13.hasP t.C c y=true\/(c=r.D/\y=r.E))/\(J13.hasP t.C c y=true->J13.hasP (insL t.C i r) c y=true/\J13.potAt ⟨t.O,insL t.C i r⟩ c y=J13.potAt t c y):=by
 have hr:r∈insL t.C i r:=by
  have:=zb (l:=insL t.C i r) (i:=i) (by rw[zr]; omega)
  rwa [J13.insL_at hi] at this
 have hold:∀ x∈t.C,x∈insL t.C i r:=fun x hx=>by
  obtain⟨j,hj,rfl⟩:=z1b hx
  by_cases c:j<i
  ·have:=zb (l:=insL t.C i r) (i:=j) (by rw[zr]; omega)
   rwa [z1m hi,y6 c] at this
  ·have:=zb (l:=insL t.C i r) (i:=j+1) (by rw[zr]; omega)
   rwa [z1m hi,y5 om,y5 om] at this
 have hnew:∀ x∈insL t.C i r,x∈t.C\/x=r:=fun x hx=>by
  obtain⟨j,hj,rfl⟩:=z1b hx
  rw[zr] at hj
  rw[z1m hi]
  by_cases c:j<i
  ·rw[y6 c]; exact .inl (zb om)
  ·rw[y5 c]
   by_cases c2:j=i
   ·rw[y6 c2]; exact .inr rfl
   ·rw[y5 c2]; exact .inl (zb om)
 have h1:=z3j hk (p:=r) hr
 refine⟨h1,fun c y=>⟨fun h=>?_,fun h=>?_⟩⟩
 ·obtain⟨x,hx,e1,e2⟩:=J13.has_iff.1 h
  rcases hnew x hx with h3 | rfl
  ·exact .inl (J13.has_iff.2 ⟨x,h3,e1,e2⟩)
  ·exact .inr ⟨e1.symm,e2.symm⟩
 ·have hx:J13.potAt t c y∈t.C:=zb (J13.pix_lt h).1
  have h2:=z3j hk (p:=J13.potAt t c y) (hold _ hx)
  have:=J13.potAt_cy h
  rwa [this.1,this.2] at h2
def LeP (p q:TPo):Prop:=∀ k,nthN p.A k<=nthN q.A k/\nthN p.K k<=nthN q.K k
theorem LeP.refl (p:TPo):LeP p p:=fun _=>⟨y1e _,y1e _⟩
def GT (t t':TTr):Prop:=J13.TOk t'/\t'.O=t.O/\∀ c y,J13.hasP t.C c y=true->J13.hasP t'.C c y=true/\LeP (J13.potAt t c y) (J13.potAt t' c y)
def HE (t t':TTr):Prop:=∀ c y k,J13.hasP t'.C c y=true->(J13.hasP t.C c y=true/\nthN (J13.potAt t' c y).L k=nthN (J13.potAt t c y).L k)\/nthN (J13.potAt t' c y).L k=0
theorem zdp (hp:J13.hasP t.C c y=true) (hc:p.D=c) (hy:p.E=y) (hk:J13.TOk (J13.putP t c y p)) (hl:LeP (J13.potAt t c y) p):GT t (J13.putP t c y p):=by
 obtain⟨h1,h2⟩:=z88 hp hc hy hk
 refine⟨hk,rfl,fun c' y' h=>⟨((h2 c' y').1).trans h,?_⟩⟩
 by_cases e:c'=c/\y'=y
 ·obtain⟨rfl,rfl⟩:=e
  rw[h1]
  exact hl
 ·rw[(h2 c' y').2 h e]
  exact LeP.refl _
theorem zi2 (hp:J13.hasP t.C c y=true) (hc:p.D=c) (hy:p.E=y) (hk:J13.TOk (J13.putP t c y p)) (hl:p.L=(J13.potAt t c y).L):HE t (J13.putP t c y p):=by
 obtain⟨h1,h2⟩:=z88 hp hc hy hk
 intro c' y' k h
 rw[(h2 c' y').1] at h
 refine .inl ⟨h,?_⟩
 by_cases e:c'=c/\y'=y
 ·obtain⟨rfl,rfl⟩:=e
  rw[h1,hl]
 ·rw[(h2 c' y').2 h e]
theorem zo4 (n:Int) (k:Nat):nthN (J13.zeros n) k=0:=by
 unfold nthN J13.zeros
 rw[y8,List.getElem?_replicate]
 split <;> rfl
variable {x:Int}
theorem zte (h:(J13.setM t c y x).2=0):GT t (J13.setM t c y x).1/\HE t (J13.setM t c y x).1:=by
 have hk:=(J13.set_ok h).2
 unfold J13.setM at h hk |-
 by_cases h1:J13.TOk t
 ·simp only[show ¬ ¬ J13.TOk t from fun h=>h h1,yx] at h hk |-
  by_cases h2:good c=true
  ·simp only[show ¬ ¬ good c=true from fun h=>h h2,yx] at h hk |-
   by_cases h3:(0<=y/\y<=99)/\-1000000000000000<=x/\x<=1000000000000000
   ·simp only[show ¬ ¬ ((0<=y/\y<=99)/\-1000000000000000<=x/\x<=1000000000000000) from fun h=>h h3,yx] at h hk |-
    by_cases h5:J13.hasP t.C c y=true
    ·rw[y6 h5] at hk |-
     have hcy:=J13.potAt_cy h5
     exact⟨zdp h5 (p:=J13.withT (J13.potAt t c y) x) hcy.1 hcy.2 hk fun _=>⟨y1e _,y1e _⟩,zi2 h5 (p:=J13.withT (J13.potAt t c y) x) hcy.1 hcy.2 hk rfl⟩
    ·rw[y5 h5] at h hk |-
     by_cases h6:t.C.length=60
     ·rw[y6 h6] at h; cases h
     ·rw[y5 h6] at hk |-
      obtain⟨g1,g2⟩:=zo3 (r:=J13.newP t.O c y x) (J13.posP_le _ _) hk
      refine⟨⟨hk,rfl,fun c' y' h=>?_⟩,fun c' y' k h=>?_⟩
      ·obtain⟨q1,q2⟩:=(g2 c' y').2 h
       refine⟨q1,?_⟩
       rw[q2]
       exact LeP.refl _
      ·rcases (g2 c' y').1 h with h7 | ⟨h7,h8⟩
       ·refine .inl ⟨h7,?_⟩
        rw[((g2 c' y').2 h7).2]
       ·refine .inr ?_
        rw[h7,h8,g1.2]
        exact zo4 _ _
   ·rw[y6 h3] at h; cases h
  ·rw[y6 (show ¬ good c=true from h2)] at h; cases h
 ·rw[y6 h1] at h; cases h
theorem zs4 {G a:List Int} (hl:a.length=G.length) (ha:∀ x∈a,J13.tot x) (k:Nat):nthN G k<=nthN (J13.addN G a a.length) k:=by
 unfold nthN
 by_cases hk:k<G.length
 ·have:=ha _ (zb (show k<a.length from om))
  unfold J13.tot at this
  rw[J13.addN_get hk,y6 om]
  omega
 ·rw[z55 om,z55 (by rw[J13.addN_length]; omega)]
  exact y1e _
theorem zq3 {k:Int} (h:(J13.grantM t k c y x).2=0):GT t (J13.grantM t k c y x).1/\HE t (J13.grantM t k c y x).1:=by
 have hk:=(J13.grant_ok h).2
 unfold J13.grantM at h hk |-
 by_cases h1:J13.TOk t
 ·simp only[show ¬ ¬ J13.TOk t from fun h=>h h1,yx] at h hk |-
  by_cases h2:J13.hasP t.C c y=true
  ·simp only[show ¬ ¬ J13.hasP t.C c y=true from fun h=>h h2,yx] at h hk |-
   by_cases h3:1<=k/\k<=t.O
   ·simp only[show ¬ ¬ (1<=k/\k<=t.O) from fun h=>h h3,yx] at h hk |-
    by_cases h4:1<=x/\x<=1000000000000000
    ·simp only[show ¬ ¬ (1<=x/\x<=1000000000000000) from fun h=>h h4,yx] at h hk |-
     by_cases h5:(J13.giveV (J13.potAt t c y).W (J13.potAt t c y) (J13.oneHot (J13.potAt t c y).A.length (k-1).toNat x)).1=0
     ·rw[y5 (show ¬ _≠_ from fun h=>h h5)] at hk |-
      have hcy:=J13.potAt_cy h2
      have hg:=(J13.give_ok (h1.potAt h2) (J13.oneHot_tot h4) J13.oneHot_length h5).1
      refine⟨zdp h2 (p:=J13.withG _ _) hcy.1 hcy.2 hk fun j=>⟨?_,y1e _⟩,zi2 h2 (p:=J13.withG _ _) hcy.1 hcy.2 hk rfl⟩
      rw[hg]
      exact zs4 J13.oneHot_length (J13.oneHot_tot h4) j
     ·rw[y6 h5] at h; exact absurd h h5
    ·simp only[h4,yk,y17] at h; cases h
   ·simp only[h3,yk,y17] at h; cases h
  ·simp only[h2,yk,y17,yv] at h; cases h
 ·simp only[h1,yk,y17] at h; cases h
theorem ztf {l:List Int} {k:Int} (hx:J13.nth l k<=x) (j:Nat):nthN l j<=nthN (J13.upd l k x) j:=by
 unfold nthN
 by_cases hj:j<l.length
 ·rw[J13.upd_get hj]
  split
  ·rename_i e
   subst e
   exact hx
  ·exact y1e _
 ·rw[z55 om,z55 (by rw[J13.upd_length]; omega)]
  exact y1e _
theorem ztg {k:Int} (h:(J13.askM t k c y x).2=0):GT t (J13.askM t k c y x).1/\HE t (J13.askM t k c y x).1:=by
 have hk:=(J13.ask_ok h).2
 unfold J13.askM at h hk |-
 by_cases h1:J13.TOk t
 ·simp only[show ¬ ¬ J13.TOk t from fun h=>h h1,yx] at h hk |-
  by_cases h2:J13.hasP t.C c y=true
  ·simp only[show ¬ ¬ J13.hasP t.C c y=true from fun h=>h h2,yx] at h hk |-
   by_cases h3:1<=k/\k<=t.O
   ·simp only[show ¬ ¬ (1<=k/\k<=t.O) from fun h=>h h3,yx] at h hk |-
    by_cases h4:1<=x/\x<=1000000000000000
    ·simp only[show ¬ ¬ (1<=x/\x<=1000000000000000) from fun h=>h h4,yx] at h hk |-
     by_cases h5:J13.nth (J13.potAt t c y).A k<J13.nth (J13.potAt t c y).K k+x
     ·rw[y6 h5] at h; cases h
     ·rw[y5 h5] at hk |-
      have hcy:=J13.potAt_cy h2
      refine⟨zdp h2 (p:=J13.withA _ _) hcy.1 hcy.2 hk fun j=>⟨y1e _,?_⟩,zi2 h2 (p:=J13.withA _ _) hcy.1 hcy.2 hk rfl⟩
      exact ztf om j
    ·simp only[h4,yk,y17] at h; cases h
   ·simp only[h3,yk,y17] at h; cases h
  ·simp only[h2,yk,y17,yv] at h; cases h
 ·simp only[h1,yk,y17] at h; cases h
theorem zk3 (h:(J13.hearM t m).2=0):GT t (J13.hearM t m).1/\(1<=m.Aa/\m.Aa<=t.O)/\∀ c y k,J13.hasP (J13.hearM t m).1.C c y=true->J13.hasP t.C c y=true /\
  (nthN (J13.potAt (J13.hearM t m).1 c y).L k=nthN (J13.potAt t c y).L k\/(c=m.D/\y=m.E/\k=(m.Aa-1).toNat/\nthN (J13.potAt (J13.hearM t m).1 c y).L k=max (nthN (J13.potAt t c y).L k) m.M)):=by
 have hk:=(J13.hear_ok h).2
 unfold J13.hearM at h hk |-
 by_cases h0:m.To=0
 ·simp only[show ¬ m.To≠0 from fun h=>h h0,yx] at h hk |-
  by_cases h1:J13.TOk t
  ·simp only[show ¬ ¬ J13.TOk t from fun h=>h h1,yx] at h hk |-
   by_cases h2:J13.hasP t.C m.D m.E=true
   ·simp only[show ¬ ¬ J13.hasP t.C m.D m.E=true from fun h=>h h2,yx] at h hk |-
    by_cases h3:1<=m.Aa/\m.Aa<=t.O
    ·simp only[show ¬ ¬ (1<=m.Aa/\m.Aa<=t.O) from fun h=>h h3,yx] at h hk |-
     by_cases h4:(0<=m.M/\m.M<=J13.nth (J13.potAt t m.D m.E).A m.Aa)/\J13.tot m.S
     ·simp only[show ¬ ¬ ((0<=m.M/\m.M<=J13.nth (J13.potAt t m.D m.E).A m.Aa)/\J13.tot m.S) from fun h=>h h4,yx] at h hk |-
      have hcy:=J13.potAt_cy h2
      have hg:=zdp h2 (p:=J13.withH (J13.potAt t m.D m.E) (J13.upd (J13.potAt t m.D m.E).L m.Aa (max (J13.nth (J13.potAt t m.D m.E).L m.Aa) m.M)) (J13.upd (J13.potAt t m.D m.E).S m.Aa m.S)) hcy.1 hcy.2 hk fun j=>⟨y1e _,y1e _⟩
      obtain⟨p1,p2⟩:=z88 h2 (p:=J13.withH (J13.potAt t m.D m.E) (J13.upd (J13.potAt t m.D m.E).L m.Aa (max (J13.nth (J13.potAt t m.D m.E).L m.Aa) m.M)) (J13.upd (J13.potAt t m.D m.E).S m.Aa m.S)) hcy.1 hcy.2 hk
      refine⟨hg,h3,fun c y k h=>?_⟩
      rw[(p2 c y).1] at h
      refine⟨h,?_⟩
      by_cases e:c=m.D/\y=m.E
      ·obtain⟨rfl,rfl⟩:=e
       rw[p1]
       show nthN (J13.upd (J13.potAt t m.D m.E).L m.Aa _) k=_\/(_/\_/\_/\nthN (J13.upd (J13.potAt t m.D m.E).L m.Aa _) k=_)
       unfold nthN
       by_cases hj:k<(J13.potAt t m.D m.E).L.length
       ·rw[J13.upd_get hj]
        by_cases e:k=(m.Aa-1).toNat
        ·rw[y6 e]
         refine .inr ⟨rfl,rfl,e,?_⟩
         rw[e]
         rfl
        ·rw[y5 e]
         exact .inl rfl
       ·rw[z55 (l:=J13.upd _ _ _) (by rw[J13.upd_length]; omega),z55 om]
        exact .inl rfl
      ·rw[(p2 c y).2 h e]
       exact .inl rfl
     ·simp only[h4,yk,y17] at h; cases h
    ·simp only[h3,yk,y17] at h; cases h
   ·simp only[h2,yk,y17,yv] at h; cases h
  ·simp only[h1,yk,y17] at h; cases h
 ·rw[y6 (show m.To≠0 from h0)] at h; cases h
theorem z2o (_ha:VO a) (h:KnownJ t a b k) (hr:hasR a.I c y=true):J13.hasP t.C c y=true/\(rightV a.I c y).A<=nthN (J13.potAt t c y).A k/\(rightV a.I c y).K<=nthN (J13.potAt t c y).K k:=by
 obtain⟨h1,h2,h3⟩:=z24 hr
 have:=h.1 _ h1
 rwa [h2,h3] at this
theorem z9t (ha:VO a) (ht:J13.TOk t) (h:∀ c y,hasR a.I c y=true->J13.hasP t.C c y=true/\(rightV a.I c y).A<=nthN (J13.potAt t c y).A k/\(rightV a.I c y).K<=nthN (J13.potAt t c y).K k) (h':∀ c y,J13.hasP t.C c y=true->nthN (J13.potAt t c y).L k<=(rightV b.I c y).M):KnownJ t a b k:=by
 refine⟨fun r hr=>?_,fun p hp=>?_⟩
 ·have:=h r.D r.E (has_iff.2 ⟨r,hr,rfl,rfl⟩)
  rwa [zav ha.srt ha.ok hr] at this
 ·obtain⟨h1,h2⟩:=z3j ht hp
  have:=h' _ _ h1
  rwa [h2] at this
theorem z4u (h:KnownJ t a b k) (hp:J13.hasP t.C c y=true):nthN (J13.potAt t c y).L k<=(rightV b.I c y).M:=by
 have h1:=J13.potAt_cy hp
 have:=h.2 _ (zb (J13.pix_lt hp).1)
 rw[show t.C.getD (J13.pix t.C c y) default=J13.potAt t c y from rfl,h1.1,h1.2] at this
 exact this
theorem zth {t':TTr} (g:GT t t') {f:Nat->TOf} (h:MsgOk t f m):MsgOk t' f m:=by
 obtain⟨h1,h2⟩:=h
 obtain⟨g1,g2⟩:=g.2.2 _ _ h1
 refine⟨g1,?_⟩
 rcases h2 with ⟨h0,q1,q2,q3,q4⟩ | ⟨h0,q1,q2⟩
 ·have:=g2 (m.To-1).toNat
  exact .inl ⟨h0,by rw[g.2.1]; exact q1,⟨q2.1,om⟩,⟨q3.1,om⟩,q4⟩
 ·exact .inr ⟨h0,by rw[g.2.1]; exact q1,q2⟩
theorem zcc (h:VW w) (g:GT w.F t) (hh:∀ c y k,J13.hasP t.C c y=true->k<w.J.length->nthN (J13.potAt t c y).L k<=(rightV (stW w k).I c y).M):VW ⟨t,w.J,w.V⟩:=by
 obtain⟨h1,h2,h3,h4,h5⟩:=h
 refine⟨g.1,by show (w.J.length:Int)=t.O; rw[g.2.1]; exact h2,h3,fun k hk=>?_,fun m hm=>zth g (h5 m hm)⟩
 obtain⟨q1,q2,q3⟩:=h4 k hk
 refine⟨q1,q2,z9t q1.now g.1 (fun c y hr=>?_) fun c y hp=>hh c y k hp hk⟩
 obtain⟨z1,z2,z3⟩:=z2o q1.now q3 hr
 obtain⟨g1,g2⟩:=g.2.2 _ _ z1
 have:=g2 k
 have z2':(rightV (noW w k).I c y).A<=_:=z2
 have z3':(rightV (noW w k).I c y).K<=_:=z3
 exact⟨g1,y2l z2 this.1,y2l z3 this.2⟩
theorem zu2 (h:VW w) (g:GT w.F t) (e:HE w.F t):VW ⟨t,w.J,w.V⟩:=zcc h g fun c y k hp hk=>by
 obtain⟨q1,q2,q3⟩:=h.2.2.2.1 k hk
 rcases e c y k hp with ⟨h1,h2⟩ | h2
 ·rw[h2]
  exact z4u q3 h1
 ·rw[h2]
  exact (z2h q1.stb.ok c y).1
theorem zk4 (h:VW w) (hl:l.length<=200) (hm:∀ m∈l,MsgOk w.F (stW w) m):VW ⟨w.F,w.J,l⟩:=⟨h.1,h.2.1,hl,h.2.2.2.1,hm⟩
theorem zbl (h:VW w) (i:Nat):VW (loseW w i):=zk4 h (y24 (List.length_eraseIdx_le ..) h.2.2.1) fun m hm=>h.2.2.2.2 m (List.mem_of_mem_eraseIdx hm)
theorem zs5 (h:VW w) (hm:MsgOk w.F (stW w) m) (hl:w.V.length≠200):VW ⟨w.F,w.J,w.V++[m]⟩:=zk4 h (by have:=h.2.2.1; rw[yu]; simp; omega) fun x hx=>by
 rcases y1p.1 hx with hx | hx
 ·exact h.2.2.2.2 x hx
 ·rw[y31.1 hx]; exact hm
theorem z3o (hi:i<w.J.length):(w.J.set k j).getD i default=if i=k then j else jAt w i:=by
 rw[y8,y47]
 by_cases h:k=i
 ·subst h; simp[hi]
 ·rw[y5 h,y5 fun e=>h e.symm]
  exact (y8 ..).symm
theorem z9u (h:VW w) (hk:k<w.J.length) (hj:VJ j) (ho:j.Y=(k:Int)+1) (hn:KnownJ w.F (nowJ j) (stbJ j) k) (hl:LeO (stW w k) (stbJ j)):VW ⟨w.F,w.J.set k j,w.V⟩:=by
 obtain⟨h1,h2,h3,h4,h5⟩:=h
 refine⟨h1,by show ((w.J.set k j).length:Int)=_; rw[yb]; exact h2,h3,fun i hi=>?_,fun m hm=>?_⟩
 ·have hi:i<(w.J.set k j).length:=hi
  rw[yb] at hi
  show VJ ((w.J.set k j).getD i default)/\((w.J.set k j).getD i default).Y=_/\KnownJ w.F (nowJ ((w.J.set k j).getD i default)) (stbJ ((w.J.set k j).getD i default)) i
  rw[z3o hi]
  by_cases e:i=k
  ·subst e
   rw[y6 rfl]
   exact⟨hj,ho,hn⟩
  ·rw[y5 e]
   exact h4 i hi
 ·obtain⟨q1,q2⟩:=h5 m hm
  refine⟨q1,q2.imp_right fun⟨q3,q4,q5,q6,q7⟩=>⟨q3,q4,q5,⟨q6.1,?_⟩,q7⟩⟩
  have hi:(m.Aa-1).toNat<w.J.length:=om
  show m.M<=(rightV (stbJ ((w.J.set k j).getD (m.Aa-1).toNat default)).I m.D m.E).M
  rw[z3o hi]
  by_cases e:(m.Aa-1).toNat=k
  ·rw[y6 e]
   have:=(hl m.D m.E).2.2.2
   have q6':=q6.2
   rw[e] at q6'
   omega
  ·rw[y5 e]
   exact q6.2
theorem zq4 (h:VW w) (hk:k<w.J.length):VW ⟨w.F,w.J.set k (flushJ (jAt w k)),w.V⟩:=by
 obtain⟨q1,q2,q3⟩:=h.2.2.2.1 k hk
 have hle:=z8s q1
 refine z9u h hk (zpt q1) q2 ?_ (by rw[z84]; exact hle)
 rw[z50,z84]
 refine z9t q1.now h.1 (fun c y hr=>z2o q1.now q3 hr) fun c y hp=>?_
 exact y2l (z4u q3 hp) (hle c y).2.2.2
theorem zq5 (h:VW w) (hk:k<w.J.length):VW ⟨w.F,w.J.set k (crashJ (jAt w k)),w.V⟩:=by
 obtain⟨q1,q2,q3⟩:=h.2.2.2.1 k hk
 have hle:=z8s q1
 refine z9u h hk (zpu q1) q2 ?_ (by rw[zfo]; exact LeO.refl _)
 rw[znp,zfo]
 refine z9t q1.stb h.1 (fun c y hr=>?_) fun c y hp=>z4u q3 hp
 obtain⟨l1,l2,l3,_⟩:=hle c y
 obtain⟨z1,z2,z3⟩:=z2o q1.now q3 (l1 hr)
 exact⟨z1,y2l l2 z2,y2l l3 z3⟩
theorem zfs (h:VW w) (hk:k<w.J.length) {p:TOp} (h0:(appendS (jAt w k) p).2=0) (h8:p.Q=8->J13.hasP w.F.C p.D p.E=true/\p.A<=nthN (J13.potAt w.F p.D p.E).A k/\p.Af<=nthN (J13.potAt w.F p.D p.E).K k) :
  VW ⟨w.F,w.J.set k (appendS (jAt w k) p).1,w.V⟩:=by
 obtain⟨q1,q2,q3⟩:=h.2.2.2.1 k hk
 obtain⟨a1,a2,a3,a4⟩:=zfn q1 h0
 rw[a2] at a1 |-
 refine z9u h hk a1 q2 ?_ (by rw[z6m q1]; exact LeO.refl _)
 rw[z6l,z6m q1]
 have hk6:=h.len
 have ho:=h.2.1
 refine z9t (z9o a4) h.1 (fun c y hr=>?_) fun c y hp=>z4u q3 hp
 obtain⟨d1,d2,d3,d4,d5⟩:=(z2i a4).2 c y
 rw[d2,d3]
 have hr:=d1.1 hr
 by_cases e:p.Q=8/\p.D=c/\p.E=y
 ·obtain⟨e8,rfl,rfl⟩:=e
  obtain⟨z1,z2,z3⟩:=h8 e8
  rw[y6 ⟨e8,rfl,rfl⟩,y6 ⟨e8,rfl,rfl⟩]
  have hp:=h.1.potAt z1
  have hg:=hp.2.2.2.1.1
  have ha:=hp.2.2.2.1.2.2.1
  have t1:=hg.2 _ (zb (show k<_ by have:=hg.1; omega))
  have t2:=ha.2 _ (zb (show k<_ by have:=ha.1; omega))
  unfold J13.tot at t1 t2
  unfold nthN at z2 z3 |-
  by_cases hold:hasR (nowJ (jAt w k)).I p.D p.E=true
  ·obtain⟨o1,o2,o3⟩:=z2o q1.now q3 hold
   unfold nthN at o2 o3
   have o2':(rightV (nowJ (jAt w k)).I p.D p.E).A<=_:=o2
   have o3':(rightV (nowJ (jAt w k)).I p.D p.E).K<=_:=o3
   exact⟨z1,om,om⟩
  ·have e0:rightV (nowJ (jAt w k)).I p.D p.E=⟨p.D,p.E,0,0,0⟩:=y5 hold
   rw[e0]
   exact⟨z1,by show max (0:Int) _<=_; omega,by show max (0:Int) _<=_; omega⟩
 ·rw[y5 e,y5 e]
  exact z2o q1.now q3 (hr.resolve_right e)
def z8j (r:TWo×Int):Prop:=(r.2=0/\VW r.1)\/(r.2≠0/\r.1=zWd)
theorem z5h (h:e≠0):z8j (zWd,e):=.inr ⟨h,rfl⟩
theorem zeu (h:VW w) (hm:e=0->MsgOk w.F (stW w) m):z8j (sendS w m e):=by
 by_cases h0:e=0
 ·subst h0
  by_cases hl:w.V.length=200
  ·rw[z5g hl]; exact z5h dk
  ·rw[z3g hl]; exact .inl ⟨rfl,zs5 h (hm rfl) hl⟩
 ·rw[z54 h0]; exact z5h h0
theorem zev (h:VW w) {r:TTr×Int} (hr:r.2=0->GT w.F r.1/\HE w.F r.1):z8j (tresS w r):=by
 unfold tresS
 by_cases h0:r.2=0
 ·rw[y5 (by simp[h0])]
  obtain⟨g,e⟩:=hr h0
  exact .inl ⟨rfl,zu2 h g e⟩
 ·rw[y6 h0]; exact z5h h0
theorem zq6 (_h:VW w) {k:Int} (h0:(J13.tellM w.F k c y).2=0):MsgOk w.F (stW w) (J13.tellM w.F k c y).1:=by
 unfold J13.tellM at h0 |-
 by_cases h1:J13.TOk w.F
 ·simp only[show ¬ ¬ J13.TOk w.F from fun h=>h h1,yx] at h0 |-
  by_cases h2:J13.hasP w.F.C c y=true/\1<=k/\k<=w.F.O
  ·simp only[show ¬ ¬ (J13.hasP w.F.C c y=true/\1<=k/\k<=w.F.O) from fun h=>h h2,yx]
   have hp:=h1.potAt h2.1
   have t1:=J13.nth_tot hp.2.2.2.1.1 h2.2
   have t2:=J13.nth_tot hp.2.2.2.1.2.2.1 h2.2
   unfold J13.tot at t1 t2
   exact⟨h2.1,.inl ⟨rfl,h2.2,⟨t1.1,y1e _⟩,⟨t2.1,y1e _⟩,rfl,rfl⟩⟩
  ·simp only[h2,yk,y17] at h0; cases h0
 ·simp only[h1,yk,y17] at h0; cases h0
theorem zlh (h:VW w) (hk:k<w.J.length) (h0:(reportS (stW w k) c y).2=0):MsgOk w.F (stW w) (reportS (stW w k) c y).1:=by
 obtain⟨q1,q2,q3⟩:=h.2.2.2.1 k hk
 have hv:=q1.stb
 have hn:=(zk2 q1).trans q2
 have h2:=h.2.1
 unfold reportS at h0 |-
 rw[y5 (fun g=>g hv)] at h0 |-
 by_cases h1:hasR (stW w k).I c y=true
 ·rw[y5 (fun g=>g h1)]
  have hle:=z8s q1 c y
  have hp:=(z2o q1.now q3 (hle.1 h1)).1
  have hb:=z2h hv.ok c y
  have hu:=z1p hv.val c y
  have e1:((stW w k).N-1).toNat=k:=by
   have:(stW w k).N=(k:Int)+1:=hn
   omega
  refine⟨hp,.inr ⟨?_,?_,rfl,⟨hb.1,?_⟩,⟨?_,?_⟩,rfl,rfl⟩⟩
  ·show (stW w k).N≠0
   have:(stW w k).N=(k:Int)+1:=hn
   omega
  ·show 1<=(stW w k).N/\(stW w k).N<=_
   have:(stW w k).N=(k:Int)+1:=hn
   omega
  ·show (rightV (stW w k).I c y).M<=(rightV (stW w ((stW w k).N-1).toNat).I c y).M
   rw[e1]
   exact y1e _
  ·show 0<=usedV (stW w k).Ae c y
   rw[show usedV (stW w k).Ae c y=_ from hu.1]; exact hu.2.1
  ·show usedV (stW w k).Ae c y<=_
   rw[show usedV (stW w k).Ae c y=_ from hu.1]
   have:=hu.2.2
   exact y2l this dk
 ·rw[y6 h1] at h0; cases h0
theorem zbm (h:e=0->VW ⟨w.F,w.J.set k j,w.V⟩):z8j (keepS w k j e):=by
 by_cases h0:e=0
 ·subst h0
  rw[z1o]
  exact .inl ⟨rfl,h rfl⟩
 ·rw[z44 h0]; exact z5h h0
theorem zti (h:VW w) (s:TSt):z8j (actS w s):=by
 unfold actS
 by_cases h1:1<=s.Y/\s.Y<=w.J.length
 ·have hlt:(s.Y-1).toNat<w.J.length:=om
  rw[y5 (fun g=>g h1)]
  by_cases c5:s.Q=5
  ·rw[y6 c5]
   by_cases c8:s.Op.Q=8
   ·rw[y6 c8]; exact z5h dk
   ·rw[y5 c8]
    exact zbm fun e=>zfs h hlt e fun k=>absurd k c8
  rw[y5 c5]
  by_cases c6:s.Q=6
  ·rw[y6 c6]
   exact zbm fun _=>zq4 h hlt
  rw[y5 c6]
  by_cases c7:s.Q=7
  ·rw[y6 c7]
   exact zbm fun _=>zq5 h hlt
  rw[y5 c7]
  exact zeu h fun e=>zlh h hlt e
 ·rw[y6 h1]; exact z5h dk
theorem zq7 (h:VW w) (hi:i<w.V.length):z8j (delivS w i):=by
 have hm:=h.2.2.2.2 _ (zb hi)
 have h2:=h.2.1
 unfold delivS
 obtain⟨m,em⟩:∃ m,m=mAt w i:=⟨_,rfl⟩
 rw[<- em]
 rw[show w.V.getD i default=m from em.symm] at hm
 by_cases h0:m.To=0
 ·rw[y6 h0]
  by_cases h1:(J13.hearM w.F m).2=0
  ·rw[y5 (fun k=>k h1)]
   obtain⟨g1,g2,g3⟩:=zk3 h1
   refine .inl ⟨rfl,?_⟩
   refine zbl (w:=⟨(J13.hearM w.F m).1,w.J,w.V⟩) (zcc h g1 fun c y k hp hk=>?_) i
   obtain⟨z1,z2⟩:=g3 c y k hp
   have hh:=z4u (h.2.2.2.1 k hk).2.2 z1
   rcases z2 with z2 | ⟨rfl,rfl,rfl,z2⟩
   ·rw[z2]; exact hh
   ·rw[z2]
    rcases hm.2 with ⟨f0,_⟩ | ⟨_,_,_,f1,_⟩
    ·omega
    ·exact Int.max_le.2 ⟨hh,f1.2⟩
  ·rw[y6 h1]; exact z5h h1
 ·rw[y5 h0]
  rcases hm.2 with ⟨f0,q1,q2,q3,q4,q5⟩ | ⟨_,_,f1,_⟩
  ·have hk:(m.To-1).toNat<w.J.length:=om
   refine zbm fun e=>?_
   exact zfs (w:=loseW w i) (zbl h i) hk e fun _=>⟨hm.1,q2.2,q3.2⟩
  ·exact absurd f1 h0
theorem zs6 (h:VW w) (s:TSt):z8j (mailS w s):=by
 unfold mailS
 by_cases h1:0<=s.Ai/\s.Ai<w.V.length
 ·have hlt:s.Ai.toNat<w.V.length:=om
  rw[y5 (fun g=>g h1)]
  by_cases c9:s.Q=9
  ·rw[y6 c9]; exact zq7 h hlt
  rw[y5 c9]
  by_cases c11:s.Q=11
  ·rw[y6 c11]
   exact zeu h fun _=>h.2.2.2.2 _ (zb hlt)
  rw[y5 c11]
  exact .inl ⟨rfl,zbl h _⟩
 ·rw[y6 h1]; exact z5h dk
theorem zk5 (h:VW w) (s:TSt):z8j (stepW w s):=by
 by_cases k:s.Q=1
 ·rw[z6w k]; exact zev h zte
 by_cases k2:s.Q=2
 ·rw[z6x k2]; exact zev h zq3
 by_cases k3:s.Q=3
 ·rw[z8t k3]; exact zev h ztg
 by_cases k4:s.Q=4
 ·rw[z5v k4]; exact zeu h (zq6 h)
 by_cases ka:5<=s.Q/\s.Q<=8
 ·rw[z5w ka]; exact zti h s
 by_cases km:9<=s.Q/\s.Q<=11
 ·rw[z4f km]; exact zs6 h s
 ·rw[z8u om]; exact z5h dk
theorem zft [Inhabited α] {l:List α} (hi:i<l.length):l.take (i+1)=l.take i++[l.getD i default]:=by
 rw[y38,ya hi,z17 hi]
 rfl
def zli (w:TWo):Prop:=J13.TSmall w.F/\w.J.length<=1000000/\(∀ j∈w.J,j.Ab.length<=1000000)/\w.V.length<=1000000
theorem VW.fr (h:VW w):zli w:=⟨h.1.small,by have:=h.len; omega,fun j hj=>by
 obtain⟨i,hi,rfl⟩:=z1b hj
 have:(jAt w i).Ab.length<=400:=(h.2.2.2.1 i hi).1.2.1
 show (jAt w i).Ab.length<=_
 omega,by have:=h.2.2.1; omega⟩
theorem zub:zli zWd:=⟨⟨dk,fun i hi=>absurd hi (by show ¬ i<0; omega)⟩,dk,fun j hj=>(by cases hj),dk⟩
theorem zct (h:zli w):F_qh w=some w:=by
 obtain⟨h1,h2,h3,h4⟩:=h
 simp only[F_qh,S_qh,Scr.den]
 have l0:=h1.1
 obtain⟨s,e,hs⟩:=zp (body:=fun i s=>(S_qh_b1 w i s).den) (n:=w.F.C.length) (fun i s=>s=(w.F.O,w.J,w.V,w.F.C.take i)) (s0:=(w.F.O,w.J,w.V,([]:List TPo))) rfl (fun i s hi hI=>by
  subst hI
  obtain⟨q1,q2,q3,q4⟩:=h1.2 i hi
  simp only[S_qh_b1,Scr.den,J13.clone_eq q1,J13.clone_eq q2,J13.clone_eq q3,J13.clone_eq q4,obind]
  rw[za ⟨by rw[y1g]; omega,trivial⟩]
  exact⟨_,rfl,by rw[zft hi]⟩)
 rw[e,hs]
 simp only[zl]
 obtain⟨s,e,hs⟩:=zp (body:=fun i s=>(S_qh_b2 (w.F.O,w.J,w.V,w.F.C.take w.F.C.length) i s).den) (n:=w.J.length) (fun i s=>s=(w.F.O,w.V,w.J.take i)) (s0:=(w.F.O,w.V,([]:List TJo))) rfl (fun i s hi hI=>by
  subst hI
  simp only[S_qh_b2,Scr.den,cloneOp (h3 _ (zb hi)),obind]
  rw[za ⟨by rw[y1g]; omega,trivial⟩]
  exact⟨_,rfl,by rw[zft hi]⟩)
 rw[e,hs]
 simp only[zl,cloneM h4,obind]
 rw[y4d,y4d,za ⟨om,trivial⟩,za ⟨om,trivial⟩]
theorem z8j.fr {r:TWo×Int} (h:z8j r):zli r.1:=by
 rcases h with ⟨_,h⟩ | ⟨_,h⟩
 ·exact h.fr
 ·rw[h]; exact zub
def SOk (s:TSt):Prop:=s.D.length<=1000000/\s.Op.D.length<=1000000
theorem zk6 (h:VW w) (hs:SOk s):F_q19 w s=some (stepW w s):=by
 simp only[F_q19,S_q19,Scr.den,z3i h,zb1 h hs.1 hs.2,obind]
 rw[y5 dk,zct (zk5 h s).fr]
 rfl
def newW (n:Int):TWo:=⟨⟨n,[]⟩,ups n.toNat (fun i=>⟨(i:Int)+1,[],0⟩),[]⟩
theorem zdq {n:Int} (h:1<=n/\n<=6):VW (newW n):=by
 refine⟨⟨h,y1f _,fun i hi=>absurd hi (by show ¬ i<0; omega)⟩,by show ((ups _ _).length:Int)=n; rw[z1a]; omega,y1f _,fun k hk=>?_,fun m hm=>(by cases hm)⟩
 have hk:k<(ups n.toNat (fun i=>(⟨(i:Int)+1,[],0⟩:TJo))).length:=hk
 rw[z1a] at hk
 have e:jAt (newW n) k=⟨(k:Int)+1,[],0⟩:=z5u hk
 unfold noW stW
 rw[e]
 refine⟨⟨by show 1<=(k:Int)+1/\(k:Int)+1<=6; omega,y1f _,⟨y1e _,y1e _⟩,trivial⟩,rfl,fun r hr=>(by cases hr),fun p hp=>(by cases hp)⟩
theorem zi3 {n:Int} (h:1<=n/\n<=6):F_q1k n=some (newW n,0):=by
 simp only[F_q1k,S_q1k,Scr.den,z6d,obind]
 rw[yd h,y5 dk,za ⟨om,trivial⟩]
 obtain⟨s,e,hs⟩:=zp (body:=fun i s=>(S_q1k_b1 i s).den) (n:=n.toNat) (fun i s=>s=((⟨n,[]⟩:TTr),([]:List TMe),ups i (fun i=>(⟨(i:Int)+1,[],0⟩:TJo)))) (s0:=((⟨n,[]⟩:TTr),([]:List TMe),([]:List TJo))) rfl (fun i s hi hI=>by
  subst hI
  simp only[S_q1k_b1,Scr.den,F_q6j,S_q6j,zd]
  rw[wrapId (n:=(i:Int)+1) om om,y5 sk]
  simp only[obind]
  rw[za ⟨by rw[z1a]; omega,trivial⟩]
  exact⟨_,rfl,by rw[z7k]⟩)
 rw[e,hs]
 simp only[zl]
 rw[za ⟨by rw[z1a]; omega,trivial⟩]
 rfl
theorem zdr {n:Int} (h:1<=n/\n<=6):F_q1l n=some (newW n,0):=by
 simp only[F_q1l,S_q1l,Scr.den,zd]
 rw[y5 sk]
 obtain⟨s,e,hs⟩:=z2f (step:=fun s=>(S_q1l_b1 n s).den) (fun s=>(n+1-s.2.2.2).toNat) (fun s=>1<=s.2.2.2/\s.2.2.2<=n+1/\s=((⟨n,[]⟩:TTr),([]:List TMe),ups (s.2.2.2-1).toNat (fun i=>(⟨(i:Int)+1,[],0⟩:TJo)),s.2.2.2)) (fun s=>s.1=(⟨n,[]⟩:TTr)/\s.2.1=([]:List TMe)/\s.2.2.1=ups n.toNat (fun i=>(⟨(i:Int)+1,[],0⟩:TJo))) (fun s hI=>by
  obtain⟨h1,h2,h3⟩:=hI
  obtain⟨t,m,j,i⟩:=s
  simp only[y2i,yq] at h3
  obtain⟨rfl,rfl,rfl⟩:=h3
  simp only[S_q1l_b1,Scr.den] at h1 h2 |-
  by_cases c:i<=n
  ·rw[y6 (by simpa using c),za ⟨by rw[z1a]; omega,trivial⟩]
   have e1:i64.wrap (i+1)=i+1:=wrapId om om
   refine .inl ⟨_,rfl,⟨?_,?_,?_⟩,?_⟩
   ·simp only[e1]; omega
   ·simp only[e1]; omega
   ·simp only[e1]
    have e2:(i+1-1).toNat=(i-1).toNat+1:=om
    have e3:(((i-1).toNat:Nat):Int)+1=i:=om
    rw[e2,z7k,e3]
   ·simp only[e1]; omega
  ·rw[y5 (by simpa using c)]
   refine .inr ⟨_,rfl,rfl,rfl,?_⟩
   have:i=n+1:=om
   subst this
   rw[show (n+1-1).toNat=n.toNat from om]) 10 ((⟨n,[]⟩:TTr),([]:List TMe),([]:List TJo),1) (by simp only; omega) ⟨by simp only; omega,by simp only; omega,rfl⟩
 obtain⟨h1,h2,h3⟩:=hs
 rw[e]
 simp only[zl,h1,h2,h3]
 rw[za ⟨by rw[z1a]; omega,trivial⟩]
 rfl
def sumTo (f:Nat->Int) (n:Nat):Int:=((List.range n).map f).sum
theorem z13 (f:Nat->Int) (n:Nat):sumTo f (n+1)=sumTo f n+f n:=by simp[sumTo,List.range_succ,List.sum_append]
theorem z9v (f:Nat->Int):sumTo f 0=0:=rfl
theorem z7n {f g:Nat->Int} (h:∀ k,k<n->f k<=g k):sumTo f n<=sumTo g n:=by
 induction n with
 | zero=>exact y1e _
 | succ n ih =>
  rw[z13,z13]
  have:=ih fun k hk=>h k om
  have:=h n om
  omega
theorem z9w {f:Nat->Int} {B:Int} (h:∀ k,k<n->0<=f k/\f k<=B):0<=sumTo f n/\sumTo f n<=n * B:=by
 induction n with
 | zero=>simp[z9v]
 | succ n ih =>
  rw[z13]
  have:=ih fun k hk=>h k om
  have:=h n om
  have e:((n+1:Nat):Int) * B=(n:Int) * B+B:=by rw[Int.natCast_add,Int.add_mul]; simp
  omega
theorem zfu (l:List Int):l.sum=sumTo (fun k=>l.getD k default) l.length:=by
 unfold sumTo
 congr 1
 refine y2s sj fun i h1 h2=>?_
 rw[y33,y3e,z17 h1]
noncomputable def heldK (w:TWo) (c:List UInt8) (y:Int) (k:Nat):Int:=(rightV (noW w k).I c y).A-(rightV (noW w k).I c y).M
noncomputable def usedK (w:TWo) (c:List UInt8) (y:Int) (k:Nat):Int:=usedE (noW w k).Ae c y
noncomputable def heldW (w:TWo) (c:List UInt8) (y:Int):Int:=sumTo (heldK w c y) w.J.length
noncomputable def usedW (w:TWo) (c:List UInt8) (y:Int):Int:=sumTo (usedK w c y) w.J.length
theorem z6y (h:VW w) (c:List UInt8) (y:Int) (hk:k<w.J.length):0<=heldK w c y k/\heldK w c y k<=1000000000000000/\0<=usedK w c y k/\usedK w c y k<=heldK w c y k:=by
 obtain⟨q1,q2,q3⟩:=h.2.2.2.1 k hk
 have hv:VO (noW w k):=q1.now
 have h1:=z2h hv.ok c y
 have h2:=z1p hv.val c y
 have h3:=hv.unused_nn c y
 rw[hv.unused c y] at h3
 unfold heldK usedK
 omega
theorem zi4 {n:Int} (hp:J13.PotOk n p):J13.outV p=sumTo (fun k=>nthN p.A k-nthN p.L k) n.toNat:=by
 have l1:=hp.2.2.2.1.1.1
 have l2:=hp.2.2.2.1.2.1.1
 unfold J13.outV
 rw[show min p.A.length p.L.length=p.A.length from om,y4d,show p.A.length=p.L.length from om,y4d,zfu,zfu,show p.A.length=p.L.length from om,show p.L.length=n.toNat from om]
 have:∀ (f g:Nat->Int) (m:Nat),sumTo f m-sumTo g m=sumTo (fun k=>f k-g k) m:=fun f g m=>by
  induction m with
  | zero=>rfl
  | succ m ih=>rw[z13,z13,z13,<- ih]; omega
 exact this _ _ _
theorem ztj (h:VW w) (hp:J13.hasP w.F.C c y=true):0<=usedW w c y/\usedW w c y<=heldW w c y/\heldW w c y<=J13.outV (J13.potAt w.F c y)/\J13.outV (J13.potAt w.F c y)<=6000000000000000:=by
 have hk:=h.1.potAt hp
 have h2:=h.2.1
 have hl:=h.len
 have e:w.F.O.toNat=w.J.length:=om
 rw[zi4 hk,e]
 have b1:=z9w (f:=usedK w c y) (n:=w.J.length) (B:=1000000000000000) fun k hk=>by have:=z6y h c y hk; omega
 have hpk:∀ k,k<w.J.length->heldK w c y k<=nthN (J13.potAt w.F c y).A k-nthN (J13.potAt w.F c y).L k/\nthN (J13.potAt w.F c y).A k-nthN (J13.potAt w.F c y).L k<=1000000000000000:=fun k hkl=>by
  obtain⟨q1,q2,q3⟩:=h.2.2.2.1 k hkl
  have hv:VO (noW w k):=q1.now
  have lg:=hk.2.2.2.1.1
  have lh:=hk.2.2.2.1.2.1
  have t1:=lg.2 _ (zb (show k<_ by have:=lg.1; omega))
  have t2:=lh.2 _ (zb (show k<_ by have:=lh.1; omega))
  have t3:=hk.2.2.2.2.1.1 k (by have:=lg.1; omega)
  have hh:=z4u q3 hp
  have hle:=(z8s q1 c y).2.2.2
  have hr:=z2h hv.ok c y
  unfold J13.tot at t1 t2
  unfold heldK nthN at *
  refine⟨?_,om⟩
  by_cases hold:hasR (noW w k).I c y=true
  ·obtain⟨o1,o2,o3⟩:=z2o hv q3 hold
   unfold nthN at o2
   have hle':(rightV (stW w k).I c y).M<=(rightV (noW w k).I c y).M:=hle
   omega
  ·have e0:rightV (noW w k).I c y=⟨c,y,0,0,0⟩:=y5 hold
   rw[e0]
   show (0:Int)-0<=_
   omega
 refine⟨b1.1,z7n fun k hk=>(z6y h c y hk).2.2.2,z7n fun k hk=>(hpk k hk).1,?_⟩
 have b2:=z7n (f:=fun k=>nthN (J13.potAt w.F c y).A k-nthN (J13.potAt w.F c y).L k) (g:=fun _=>1000000000000000) (n:=w.J.length) fun k hk=>(hpk k hk).2
 have b3:=z9w (f:=fun _=>(1000000000000000:Int)) (n:=w.J.length) (B:=1000000000000000) fun k hk=>om
 omega
noncomputable def shW (p:TPo):Int:=max (J13.outV p-p.W) 0
theorem z45 (h:VW w) (hp:p∈w.F.C) :
  (J13.hasP w.F.C p.D p.E=true/\J13.potAt w.F p.D p.E=p)/\(F_q2y p=some (J13.outV p)/\F_qf p=some (J13.outV p)/\F_q40 p=some (shW p)/\F_q3z p=some (shW p)) /\
  (0<=usedW w p.D p.E/\usedW w p.D p.E<=heldW w p.D p.E/\heldW w p.D p.E<=J13.outV p/\J13.outV p<=6000000000000000)/\(-1000000000000000<=p.W/\p.W<=1000000000000000):=by
 have h1:=z3j h.1 hp
 have h2:=ztj h h1.1
 have h3:=h.1.potAt h1.1
 have h6:=h.1.1
 rw[h1.2] at h2 h3
 have l1:=h3.2.2.2.1.1.1
 have ht:=h3.2.2.1
 have e1:F_q2y p=some (J13.outV p):=by rw[J13.Out_eq,wrapId om om]
 have e2:F_qf p=some (J13.outV p):=by rw[J13.r13_Out_eq om,wrapId om om]
 have e3:F_q40 p=some (shW p):=by
  rw[J13.Shortfall_eq,wrapId om om]
  rfl
 have e4:F_q3z p=some (shW p):=by
  simp only[F_q3z,S_q3z,Scr.den,e2,obind]
  rw[wrapId (n:=J13.outV p-p.W) om om]
  have key:∀ n:Int,(if n>0 then n else 0)=max n 0:=fun n=>by split <;> omega
  exact yi some (key _)
 exact⟨h1,⟨e1,e2,e3,e4⟩,h2,ht⟩
theorem z8v (h:VW w) (c:List UInt8) (y:Int) (hi:i<=w.J.length):0<=sumTo (heldK w c y) i/\sumTo (heldK w c y) i<=6000000000000000/\0<=sumTo (usedK w c y) i/\sumTo (usedK w c y) i<=6000000000000000:=by
 have hl:=h.len
 have b1:=z9w (f:=heldK w c y) (n:=i) (B:=1000000000000000) fun k hk=>by have:=z6y h c y (show k<w.J.length from om); omega
 have b2:=z9w (f:=usedK w c y) (n:=i) (B:=1000000000000000) fun k hk=>by have:=z6y h c y (show k<w.J.length from om); omega
 omega
theorem zk7 (h:VW w) (hp:p∈w.F.C):F_q26 (ups w.J.length (noW w)) p=some (p.W,J13.outV p,heldW w p.D p.E,usedW w p.D p.E):=by
 simp only[F_q26,S_q26,Scr.den,(z45 h hp).2.1.1,obind]
 obtain⟨s,e,hs⟩:=zp (body:=fun i s=>(S_q26_b1 (ups w.J.length (noW w)) p i s).den) (n:=(ups w.J.length (noW w)).length) (fun i s=>s=(sumTo (heldK w p.D p.E) i,sumTo (usedK w p.D p.E) i)) (s0:=((0:Int),(0:Int))) rfl (fun i s hi hI=>by
  subst hI
  rw[z1a] at hi
  obtain⟨q1,q2,q3⟩:=h.2.2.2.1 i hi
  have hv:VO (noW w i):=q1.now
  have hb:=z6y h p.D p.E hi
  have p1:=z8v h p.D p.E (show i<=w.J.length from om)
  have p2:=z8v h p.D p.E (show i+1<=w.J.length from om)
  rw[z13,z13] at p2
  simp only[S_q26_b1,Scr.den]
  rw[z5u hi,z3x,zat]
  simp only[obind]
  rw[hv.unused,show (rightV (noW w i).I p.D p.E).A-(rightV (noW w i).I p.D p.E).M=heldK w p.D p.E i from rfl,show usedE (noW w i).Ae p.D p.E=usedK w p.D p.E i from rfl,wrapId (n:=heldK w p.D p.E i) om om,show heldK w p.D p.E i-(heldK w p.D p.E i-usedK w p.D p.E i)=usedK w p.D p.E i from om,wrapId (n:=usedK w p.D p.E i) om om,wrapId om om,wrapId om om]
  exact⟨_,rfl,by rw[z13,z13]⟩)
 rw[e,hs,z1a]
 rfl
theorem z6z (h:VW w) (hp:J13.hasP w.F.C c y=true):F_q2t w c y=some ((J13.potAt w.F c y).W,J13.outV (J13.potAt w.F c y),heldW w c y,usedW w c y):=by
 have hcy:=J13.potAt_cy hp
 have hm:J13.potAt w.F c y∈w.F.C:=zb (J13.pix_lt hp).1
 have hs:=zk7 h hm
 rw[hcy.1,hcy.2] at hs
 simp only[F_q2t,S_q2t,Scr.den,J13.Pot_eq h.1.small,z7l hp,obind,z3i h,zd,zaz h]
 rw[zi (by simp[AllP])]
 simp only[obind]
 rw[y5 dk,hs]
 rfl
variable {u h:Int}
theorem zo5 {o t s:Int} (h1:0<=u) (h2:u<=h) (h3:h<=o) (hs:s=max (o-t) 0) (h4:o<=6000000000000000) (h5:-1000000000000000<=t/\t<=1000000000000000):¬ (decide (u>h)||decide (h>o))=true/\¬ ((decide (u>h)||decide (h>o))||decide (o>i64.wrap (t+s)))=true:=by
 rw[wrapId (n:=t+s) om om]
 simp only[yc,y7]
 omega
theorem z4g (h:VW w):F_q1a w=some true:=by
 simp only[F_q1a,S_q1a,Scr.den,z3i h,zaz h,obind]
 rw[y5 dk]
 obtain⟨s,e,hs⟩:=zp (body:=fun i s=>(S_q1a_b1 w (ups w.J.length (noW w),ups w.J.length (stW w),true) i s).den) (n:=w.F.C.length) (fun _ _=>True) (s0:=()) trivial (fun i s hi _=>by
  obtain⟨p,ep⟩:∃ p,p=w.F.C.getD i default:=⟨_,rfl⟩
  have hm:p∈w.F.C:=by rw[ep]; exact zb hi
  obtain⟨f1,f2,f3,f4⟩:=z45 h hm
  obtain⟨s1,s2⟩:=zo5 f3.1 f3.2.1 f3.2.2.1 (s:=shW p) rfl f3.2.2.2 f4
  simp only[S_q1a_b1,Scr.den]
  rw[<- ep,zk7 h hm,f2.2.2.1]
  simp only[obind,zd]
  rw[zi (gs:=[(decide (usedW w p.D p.E>heldW w p.D p.E)||decide (heldW w p.D p.E>J13.outV p))=false]) ⟨y3p.2 s1,trivial⟩]
  simp only[obind]
  rw[y5 s2]
  exact⟨(),rfl,trivial⟩)
 rw[e]
 rfl
theorem zj8 (h:VW w) (hp:p∈w.F.C):F_q2k w p=some (p.W,J13.outV p,heldW w p.D p.E,usedW w p.D p.E):=by
 simp only[F_q2k,S_q2k,Scr.den,(z45 h hp).2.1.2.1,obind]
 obtain⟨s,e,hs⟩:=zp (body:=fun i s=>(S_q2k_b1 w p i s).den) (n:=w.J.length) (fun i s=>s=(sumTo (heldK w p.D p.E) i,sumTo (usedK w p.D p.E) i)) (s0:=((0:Int),(0:Int))) rfl (fun i s hi hI=>by
  subst hI
  obtain⟨q1,q2,q3⟩:=h.2.2.2.1 i hi
  have hv:VO (noW w i):=q1.now
  have hb:=z6y h p.D p.E hi
  have p2:=z8v h p.D p.E (show i+1<=w.J.length from om)
  rw[z13,z13] at p2
  simp only[S_q2k_b1,Scr.den]
  rw[show w.J.getD i default=jAt w i from rfl,z7m q1]
  simp only[obind]
  rw[z28,z3m,(z1p (b:=(nowJ (jAt w i)).Ae) q1.now.val p.D p.E).1]
  simp only[obind]
  rw[show (rightV (nowJ (jAt w i)).I p.D p.E).A-(rightV (nowJ (jAt w i)).I p.D p.E).M=heldK w p.D p.E i from rfl,show usedE (nowJ (jAt w i)).Ae p.D p.E=usedK w p.D p.E i from rfl,wrapId (n:=heldK w p.D p.E i) om om,wrapId om om,wrapId om om]
  exact⟨_,rfl,by rw[z13,z13]⟩)
 rw[e,hs]
 rfl
theorem zj9 (h:VW w):F_q2l w=some true:=by
 simp only[F_q2l,S_q2l,Scr.den,z43 h,obind]
 rw[y5 dk]
 obtain⟨s,e,hs⟩:=zp (body:=fun i s=>(S_q2l_b1 w i s).den) (n:=w.F.C.length) (fun _ _=>True) (s0:=()) trivial (fun i s hi _=>by
  obtain⟨p,ep⟩:∃ p,p=w.F.C.getD i default:=⟨_,rfl⟩
  have hm:p∈w.F.C:=by rw[ep]; exact zb hi
  obtain⟨f1,f2,f3,f4⟩:=z45 h hm
  obtain⟨s1,s2⟩:=zo5 f3.1 f3.2.1 f3.2.2.1 (s:=shW p) rfl f3.2.2.2 f4
  simp only[S_q2l_b1,Scr.den]
  rw[<- ep,zj8 h hm,f2.2.2.2]
  simp only[obind,zd]
  rw[zi (gs:=[(decide (usedW w p.D p.E>heldW w p.D p.E)||decide (heldW w p.D p.E>J13.outV p))=false]) ⟨y3p.2 s1,trivial⟩]
  simp only[obind]
  rw[y5 s2]
  exact⟨(),rfl,trivial⟩)
 rw[e]
 rfl
theorem zo6 (l:List Int):F_q13 l l=some true:=by
 simp only[F_q13,S_q13,Scr.den]
 rw[y5 sj]
 have ra:=z12 (ρ:=Bool) (n:=l.length) (c:=false) (body:=fun i s=>(S_q13_b1 l l i s).den) (fun _=>True) (fun i hi _=>by
  simp only[S_q13_b1,Scr.den]
  rw[za (by simp only[AllP,yq]; exact hi),y5 sj]) (fun i hi h=>absurd trivial h)
 rw[ra.1 fun _ _=>trivial]
 rfl
theorem zi5 (p:TPo):F_q6h p p=some true:=by
 simp only[F_q6h,S_q6h,Scr.den,zo6,beq_self_eq_true,zf,y42]
 rw[zi (by exact⟨trivial,trivial⟩)]
 simp only[obind,y42]
 rw[zi (by exact⟨trivial,trivial⟩)]
 simp only[obind,y42]
 rw[zi (by exact⟨trivial,trivial⟩)]
 simp only[obind,y42]
 rw[zi (by exact⟨trivial,trivial⟩)]
 simp only[obind,y42]
theorem zo7 (h:t.C.length<=1000000):F_qv t t=some true:=by
 simp only[F_qv,S_qv,Scr.den,zd]
 rw[y5 sj,za (by simp only[AllP,yq]; omega)]
 have ra:=z12 (ρ:=Bool) (n:=t.C.length) (c:=false) (body:=fun i s=>(S_qv_b1 t t i s).den) (fun _=>True) (fun i hi _=>by
  simp only[S_qv_b1,Scr.den,zi5,obind]
  rw[za (by simp only[AllP,yq]; exact hi),y5 sj]) (fun i hi h=>absurd trivial h)
 rw[ra.1 fun _ _=>trivial]
 rfl
theorem VW.same (h:VW w):F_qv w.F w.F=some true:=zo7 (by have:=h.1.2.1; omega)
theorem zuc (k a b:Int) (K:Bool->Option α) (R:ρ->Option α):outM (if (k==a)=true then some (Out.next (k==a)) else some (Out.next (k==b))) K R=K (decide (k=a\/k=b)):=by
 by_cases h1:k=a
 ·rw[y6 (by simpa using h1)]; simp[outM,h1]
 rw[y5 (by simpa using h1)]
 simp only[outM,h1,false_or]
 rfl
variable {o:TOf}
theorem zi6 (hv:VO o) {s:TTape} (hs:TapeOk s) (day:Int):∃ p s',F_q51 o day s=some (p,s')/\TapeOk s'/\p.D.length<=60:=by
 obtain⟨p,s1,e1,t1,hc,_⟩:=zpq hv hs day
 have h0:([]:List UInt8).length<=60:=dk
 simp only[F_q51,S_q51,Scr.den,e1,obind,zuc]
 by_cases k:p.Q=1
 ·rw[y6 (by simp[k])]; exact⟨_,_,rfl,t1,hc⟩
 rw[y5 (by simp[k])]
 by_cases k:p.Q=2
 ·rw[y6 (by simp[k])]; exact⟨_,_,rfl,t1,h0⟩
 rw[y5 (by simp[k])]
 by_cases k:p.Q=3
 ·rw[y6 (by simp[k])]; exact⟨_,_,rfl,t1,h0⟩
 rw[y5 (by simp[k])]
 by_cases k:p.Q=4
 ·rw[y6 (by simp[k])]; exact⟨_,_,rfl,t1,h0⟩
 rw[y5 (by simp[k])]
 by_cases k:p.Q=5\/p.Q=6
 ·rw[y6 (by simpa using k)]; exact⟨_,_,rfl,t1,h0⟩
 rw[y5 (by simpa using k)]
 by_cases k:p.Q=7
 ·rw[y6 (by simp[k])]; exact⟨_,_,rfl,t1,hc⟩
 rw[y5 (by simp[k])]
 by_cases k:p.Q=8
 ·rw[y6 (by simp[k])]; exact⟨_,_,rfl,t1,hc⟩
 rw[y5 (by simp[k])]
 exact⟨_,_,rfl,t1,h0⟩
theorem zgb (h:VW w) {n:Int} (hn:1<=n/\n<=w.J.length):F_q50 w n=some (noW w (n-1).toNat,0):=by
 have hl:=h.len
 have hlt:(n-1).toNat<w.J.length:=om
 simp only[F_q50,S_q50,Scr.den,z43 h,F_q3l,S_q3l,zf,obind]
 rw[y5 dk,y5 sk,wrapId (n:=n-1) om om,show w.J.getD (n-1).toNat default=jAt w (n-1).toNat from rfl,z7m (h.2.2.2.1 _ hlt).1]
 simp only[obind]
 rw[za ⟨om,hlt,trivial⟩]
 rfl
theorem zlj (h:c.length<=60):(answerS o c y).1.D.length<=60:=by
 unfold answerS
 by_cases h1:VO o
 ·rw[y5 (fun k=>k h1)]
  by_cases h2:wantedS (rightV o.I c y) (usedV o.Ae c y)=0
  ·rw[y6 h2]; exact y1f _
  ·rw[y5 h2]; exact h
 ·rw[y6 h1]; exact y1f _
def GS (n:Nat) (s:TSt):Prop:=(1<=s.Y/\s.Y<=n)/\s.D.length<=60/\s.Op.D.length<=60
def GA (s:TSt):Prop:=s.Q=1->0<=s.T/\s.T<=900
theorem zo8:(([[49],[50]]:List (List UInt8)).getD i default).length<=60:=by
 match i with
 | 0=>decide
 | 1=>decide
 | _+2=>exact y1f _
theorem zo9 (h:VW w) {n i day:Int} (hn:(w.J.length:Int)=n) (hi:0<=i) {s:TTape} (hs:TapeOk s):∃ p s',F_q32 w n i day s=some (p,s')/\TapeOk s'/\GS w.J.length p/\GA p:=by
 have hl:=h.len
 have hml:=h.2.2.1
 obtain⟨k,s1,e1,t1,k1⟩:=z3a (l:=[1,2,2,4,4,5,5,5,5,6,7,8,8,9,9,9,9,10,11,3]) hs dk dk
 obtain⟨o,s2,e2,t2,o1⟩:=z1s (lo:=1) (hi:=n) t1 om om om
 obtain⟨c,s3,e3,t3,c1⟩:=z2n (n:=2) t2 om om
 obtain⟨a,s4,e4,t4,a1⟩:=z1s (lo:=1) (hi:=200) t3 om om om
 have lm:(1:Int)<=(if (w.V.length:Int)>1 then (w.V.length:Int) else 1)/\(if (w.V.length:Int)>1 then (w.V.length:Int) else 1)<=1000000:=by split <;> omega
 obtain⟨x,s5,e5,t5,x1⟩:=z2n (n:=(if (w.V.length:Int)>1 then (w.V.length:Int) else 1)) t4 lm.1 om
 simp only[F_q32,S_q32,Scr.den,e1,e2,e3,e4,e5,obind]
 rw[za ⟨om,om,trivial⟩]
 have q6:∃ v:TSt,(if decide (i<3)=true then guardP (AllP [(0:Int)<=i,(i).toNat<3]) (some (Out.next (⟨(([1,2,4]:List Int).getD ((i).toNat) default),1,(⟨0,[],0,0,0,0,0,0,0,0⟩:TOp),[49],12,a,x⟩:TSt)))
   else some (Out.next (⟨k,o,(⟨0,[],0,0,0,0,0,0,0,0⟩:TOp),(([[49],[50]]:List (List UInt8)).getD ((c).toNat) default),12,a,x⟩:TSt)):Option (Out TSt R_q32))=some (Out.next v)/\GS w.J.length v:=by
  by_cases ci:i<3
  ·rw[y6 (by simpa using ci),za ⟨hi,om,trivial⟩]
   exact⟨_,rfl,⟨y1e _,by show (1:Int)<=_; omega⟩,by show ([49]:List UInt8).length<=60; decide,y1f _⟩
  ·rw[y5 (by simpa using ci)]
   exact⟨_,rfl,⟨o1.1,by show o<=_; omega⟩,zo8,y1f _⟩
 obtain⟨v6,q6,g6⟩:=q6
 rw[q6]
 simp only[zl]
 have q7:∃ v:TSt,(if (i==3)=true then some (Out.next (⟨9,v6.Y,v6.Op,v6.D,v6.E,v6.T,0⟩:TSt)) else some (Out.next v6):Option (Out TSt R_q32))=some (Out.next v)/\GS w.J.length v:=by
  by_cases ci:i=3
  ·rw[y6 (by simpa using ci)]; exact⟨_,rfl,g6⟩
  ·rw[y5 (by simpa using ci)]; exact⟨_,rfl,g6⟩
 obtain⟨v7,q7,g7⟩:=q7
 rw[q7]
 simp only[zl]
 have q8:∃ v:TTape×TSt,(if (v7.Q==1)=true then (F_q6 900 s5).bind fun rv9=>(F_qw ([300,rv9.1,50]:List Int) rv9.2).bind fun rv10=>some (Out.next (rv10.2,(⟨v7.Q,v7.Y,v7.Op,v7.D,v7.E,rv10.1,v7.Ai⟩:TSt)))
   else some (Out.next (s5,v7)):Option (Out (TTape×TSt) R_q32))=some (Out.next v)/\TapeOk v.1/\GS w.J.length v.2/\GA v.2:=by
  by_cases ck:v7.Q=1
  ·rw[y6 (by simpa using ck)]
   obtain⟨z1,s6,q1,t6,y1⟩:=z2n (n:=900) t5 om om
   obtain⟨z2,s7,q2,t7,y2⟩:=z3a (l:=[300,z1,50]) t6 sj sj
   simp only[q1,q2,obind]
   refine⟨_,rfl,t7,g7,fun _=>?_⟩
   simp at y2
   show 0<=z2/\z2<=900
   omega
  ·rw[y5 (by simpa using ck)]
   exact⟨_,rfl,t5,g7,fun k=>absurd k ck⟩
 obtain⟨v8,q8,t8,g8,a8⟩:=q8
 rw[q8]
 simp only[zl]
 by_cases c5:v8.2.Q=5
 ·rw[y6 (by simpa using c5),zgb h g8.1]
  simp only[obind]
  rw[y5 dk]
  simp only[zl]
  have hlt:(v8.2.Y-1).toNat<w.J.length:=by have:=g8.1; omega
  have hv:VO (noW w (v8.2.Y-1).toNat):=(h.2.2.2.1 _ hlt).1.now
  obtain⟨p,s9,e9,t9,pc⟩:=zi6 hv t8 day
  rw[e9]
  simp only[obind]
  rw[zg7 hv.smO (by have:=g8.2.1; omega)]
  simp only[obind]
  have na:∀ {q:TOp},GA (⟨v8.2.Q,v8.2.Y,q,v8.2.D,v8.2.E,v8.2.T,v8.2.Ai⟩:TSt):=fun {q} k=>absurd (show v8.2.Q=1 from k) om
  by_cases ca:(answerS (noW w (v8.2.Y-1).toNat) v8.2.D v8.2.E).2=true
  ·rw[zi (gs:=[(answerS (noW w (v8.2.Y-1).toNat) v8.2.D v8.2.E).2=true]) ⟨ca,trivial⟩]
   obtain⟨z3,s10,e10,t10,_⟩:=z2n (n:=3) t9 om om
   rw[e10]
   simp only[obind,zf]
   by_cases cz:z3=0
   ·rw[ca,y41,y6 (by simpa using cz)]
    exact⟨_,_,rfl,t10,⟨g8.1,g8.2.1,zlj g8.2.1⟩,na⟩
   ·rw[ca,y41,y5 (by simpa using cz)]
    exact⟨_,_,rfl,t10,⟨g8.1,g8.2.1,pc⟩,na⟩
  ·rw[show ∀ {α:Type} (x:Option α) (d:α),optD [(answerS (noW w (v8.2.Y-1).toNat) v8.2.D v8.2.E).2=true] x d=some d from fun _ _=>y5 fun h=>ca h.1]
   simp only[obind,zf]
   rw[y3p.2 ca,Bool.false_and,y5 dk]
   exact⟨_,_,rfl,t9,⟨g8.1,g8.2.1,pc⟩,na⟩
 ·rw[y5 (by simpa using c5)]
  exact⟨_,_,rfl,t8,g8,a8⟩
theorem GS.ok (h:GS n s):SOk s:=⟨by have:=h.2.1; omega,by have:=h.2.2; omega⟩
theorem z6e (h:VW w) (h0:(stepW w s).2=0):(stepW w s).1.J.length=w.J.length/\VW (stepW w s).1:=by
 have hk:=zk5 h s
 have hv:VW (stepW w s).1:=by
  rcases hk with ⟨_,hk⟩ | ⟨hk,_⟩
  ·exact hk
  ·exact absurd h0 hk
 refine⟨?_,hv⟩
 have send:∀ {m:TMe} {e:Int},(sendS w m e).2=0->(sendS w m e).1.J.length=w.J.length:=fun {m e} h0=>by
  by_cases c:e=0
  ·subst c
   by_cases hl:w.V.length=200
   ·rw[z5g hl] at h0; cases h0
   ·rw[z3g hl]
  ·rw[z54 c] at h0; exact absurd h0 c
 have tres:∀ {r:TTr×Int},(tresS w r).2=0->(tresS w r).1.J.length=w.J.length:=fun {r} h0=>by
  unfold tresS at h0 |-
  by_cases c:r.2=0
  ·rw[y5 (by simp[c])]
  ·rw[y6 c] at h0; exact absurd h0 c
 have keep:∀ {w':TWo} {k:Nat} {j:TJo} {e:Int},(keepS w' k j e).2=0->(keepS w' k j e).1.J.length=w'.J.length:=fun {w' k j e} h0=>by
  by_cases c:e=0
  ·subst c
   rw[z1o]
   exact yb
  ·rw[z44 c] at h0; exact absurd h0 c
 by_cases k:s.Q=1
 ·rw[z6w k] at h0 |-; exact tres h0
 by_cases k2:s.Q=2
 ·rw[z6x k2] at h0 |-; exact tres h0
 by_cases k3:s.Q=3
 ·rw[z8t k3] at h0 |-; exact tres h0
 by_cases k4:s.Q=4
 ·rw[z5v k4] at h0 |-; exact send h0
 by_cases ka:5<=s.Q/\s.Q<=8
 ·rw[z5w ka] at h0 |-
  unfold actS at h0 |-
  by_cases h1:1<=s.Y/\s.Y<=w.J.length
  ·rw[y5 (fun g=>g h1)] at h0 |-
   by_cases c5:s.Q=5
   ·rw[y6 c5] at h0 |-
    by_cases c8:s.Op.Q=8
    ·rw[y6 c8] at h0; cases h0
    ·rw[y5 c8] at h0 |-; exact keep h0
   rw[y5 c5] at h0 |-
   by_cases c6:s.Q=6
   ·rw[y6 c6] at h0 |-; exact keep h0
   rw[y5 c6] at h0 |-
   by_cases c7:s.Q=7
   ·rw[y6 c7] at h0 |-; exact keep h0
   rw[y5 c7] at h0 |-
   exact send h0
  ·rw[y6 h1] at h0; cases h0
 by_cases km:9<=s.Q/\s.Q<=11
 ·rw[z4f km] at h0 |-
  unfold mailS at h0 |-
  by_cases h1:0<=s.Ai/\s.Ai<w.V.length
  ·rw[y5 (fun g=>g h1)] at h0 |-
   by_cases c9:s.Q=9
   ·rw[y6 c9] at h0 |-
    unfold delivS at h0 |-
    by_cases c0:(mAt w s.Ai.toNat).To=0
    ·rw[y6 c0] at h0 |-
     by_cases c1:(J13.hearM w.F (mAt w s.Ai.toNat)).2=0
     ·rw[y5 (fun k=>k c1)]
     ·rw[y6 c1] at h0; exact absurd h0 c1
    ·rw[y5 c0] at h0 |-; exact keep h0
   rw[y5 c9] at h0 |-
   by_cases c11:s.Q=11
   ·rw[y6 c11] at h0 |-; exact send h0
   rw[y5 c11]
   rfl
  ·rw[y6 h1] at h0; cases h0
 ·rw[z8u om] at h0; cases h0
theorem zi7 {n:Int} (h:0<=n):((newW n).J.length:Int)=n:=by
 show ((ups _ _).length:Int)=n
 rw[z1a]; omega
theorem zds {n m:Int} (hn:1<=n/\n<=6) (hm:0<=m/\m<=1000) {s:TTape} (hs:TapeOk s):∃ l s',F_q17 n m s=some (l,s')/\TapeOk s'/\(l.length:Int)<=m/\∀ x∈l,GS n.toNat x/\GA x:=by
 simp only[F_q17,S_q17,Scr.den,zdr hn,obind]
 obtain⟨v,e,hv⟩:=z2f (step:=fun s=>(S_q17_b1 n m s).den) (fun s=>(m-s.2.2.2.2).toNat) (fun s=>TapeOk s.1/\VW s.2.1/\(s.2.1.J.length:Int)=n/\(0<=s.2.2.2.2/\s.2.2.2.2<=m/\(s.2.2.1.length:Int)=s.2.2.2.2)/\∀ x∈s.2.2.1,GS n.toNat x/\GA x)
  (fun s=>TapeOk s.1/\(s.2.2.1.length:Int)<=m/\∀ x∈s.2.2.1,GS n.toNat x/\GA x) (fun s hI=>by
   obtain⟨i1,i2,i3,i4,i5⟩:=hI
   obtain⟨t,w,l,d,i⟩:=s
   simp only at i1 i2 i3 i4 i5
   simp only[S_q17_b1,Scr.den]
   by_cases c:i<m
   ·rw[y6 (by simpa using c)]
    obtain⟨z1,s6,q1,t6,y1⟩:=z2n (n:=9) i1 om om
    obtain⟨z2,s7,q2,t7,y2⟩:=z3a (l:=[0,1,z1]) t6 sj sj
    obtain⟨p,s8,q3,t8,g1,g2⟩:=zo9 i2 (day:=i64.wrap (d+z2)) i3 i4.1 t7
    rw[q1]
    simp only[obind]
    rw[q2]
    simp only[obind]
    rw[q3]
    simp only[obind]
    rw[zfr i2 g1.ok.1 g1.ok.2]
    simp only[obind]
    have ei:i64.wrap (i+1)=i+1:=wrapId om om
    have hg:GS n.toNat p:=by rw[show n.toNat=w.J.length from om]; exact g1
    have hall:∀ x∈l++[p],GS n.toNat x/\GA x:=fun x hx=>by
     rcases y1p.1 hx with hx | hx
     ·exact i5 x hx
     ·rw[y31.1 hx]; exact⟨hg,g2⟩
    have hlen:((l++[p]).length:Int)=i+1:=by rw[yu]; simp; omega
    by_cases c0:(stepW w p).2=0
    ·rw[y6 (by simpa using c0)]
     simp only[zl]
     rw[za ⟨om,trivial⟩,ei]
     obtain⟨w1,w2⟩:=z6e i2 c0
     exact .inl ⟨_,rfl,⟨t8,w2,by show ((stepW w p).1.J.length:Int)=n; omega,⟨by show 0<=i+1; omega,by show i+1<=m; omega,hlen⟩,hall⟩,by show (m-(i+1)).toNat<(m-i).toNat; omega⟩
    ·rw[y5 (by simpa using c0)]
     simp only[zl]
     rw[za ⟨om,trivial⟩,ei]
     exact .inl ⟨_,rfl,⟨t8,i2,i3,⟨by show 0<=i+1; omega,by show i+1<=m; omega,hlen⟩,hall⟩,by show (m-(i+1)).toNat<(m-i).toNat; omega⟩
   ·rw[y5 (by simpa using c)]
    exact .inr ⟨_,rfl,i1,by show (l.length:Int)<=m; omega,i5⟩) 1001 (s,newW n,[],4320,0) (by show (m-0).toNat<1001; omega) ⟨hs,zdq hn,zi7 om,⟨y1e _,hm.1,rfl⟩,fun x hx=>(by cases hx)⟩
 obtain⟨h1,h2,h3⟩:=hv
 rw[e]
 simp only[zl]
 rw[za ⟨om,trivial⟩]
 exact⟨_,_,rfl,h1,h2,h3⟩
def mA:TMe:=⟨0,1,[49],12,100,0,0,0⟩
def pA:TOp:=hearOp mA
def tA:TTr:=⟨1,[⟨[49],12,100,[100],[0],[0],[0]⟩]⟩
def tB:TTr:=⟨1,[⟨[49],12,100,[0],[0],[0],[0]⟩]⟩
def zS:TOp:=⟨0,[],0,0,0,0,0,0,0,0⟩
abbrev LA:List TSt:=[(⟨1,0,(⟨0,[],0,0,0,0,0,0,0,0⟩:TOp),[49],12,100,0⟩:TSt),(⟨2,1,(⟨0,[],0,0,0,0,0,0,0,0⟩:TOp),[49],12,100,0⟩:TSt),(⟨4,1,(⟨0,[],0,0,0,0,0,0,0,0⟩:TOp),[49],12,0,0⟩:TSt),(⟨11,0,(⟨0,[],0,0,0,0,0,0,0,0⟩:TOp),[],0,0,0⟩:TSt),(⟨9,0,(⟨0,[],0,0,0,0,0,0,0,0⟩:TOp),[],0,0,0⟩:TSt),(⟨9,0,(⟨0,[],0,0,0,0,0,0,0,0⟩:TOp),[],0,0,0⟩:TSt)]
theorem zi8:good [49]=true:=dk
variable {w':TWo}
theorem z4h (h:VW w) (e:stepW w s=(w',0)):VW w':=by
 have:=(z6e h (s:=s) (by rw[e])).2
 rwa [e] at this
theorem ztk:POp pA:=by
 refine⟨dk,fun k hk=>?_,rfl⟩
 have hk:k=8\/k=0\/k=6\/k=7:=by
  have:k∈[8,0,6,7]:=hk
  simpa using this
 rcases hk with rfl | rfl | rfl | rfl
 ·exact (z9p _).2 zi8
 ·exact (condN dk).2 dk
 ·exact (condN dk).2 dk
 ·exact (condN dk).2 dk
theorem zlk (hv:VO o) (hl:hasR o.I [49] 12=true\/(o.I.length:Int)≠60):(doS o pA).2=0:=by
 rw[z7h hv dk]
 have e8:stepS o pA=hearS o pA:=y6 rfl
 rw[e8]
 exact zfj hv (p:=pA) zi8 ⟨dk,dk⟩ hl ⟨dk,dk⟩ ⟨dk,dk⟩
theorem zbn {p:TOp} (h8:p.Q=8) (h0:(doS o p).2=0):(doS o p).1.Ae=o.Ae:=by
 obtain⟨hv,_,e⟩:=zem h0
 rw[e] at h0 |-
 have e8:stepS o p=hearS o p:=by unfold stepS; rw[y6 h8]
 rw[e8] at h0 |-
 obtain⟨r,e1,hr,h1,h2,h3,_⟩:=zek hv h0
 rw[e1]
def wA (t:TTr) (r:List TOp) (m:List TMe):TWo:=⟨t,[⟨1,r,0⟩],m⟩
theorem vw0:VW (wA ⟨1,[]⟩ [] []):=zdq (n:=1) dk
theorem zoa:stepW (wA ⟨1,[]⟩ [] []) ⟨1,0,zS,[49],12,100,0⟩=(wA tB [] [],0):=by
 have h0:J13.TOk ⟨1,[]⟩:=vw0.1
 have e:J13.setM ⟨1,[]⟩ [49] 12 100=(tB,0):=by
  unfold J13.setM
  rw[y5 (fun k=>k h0),y5 (fun k=>k zi8),y5 (fun k=>k ⟨dk,dk⟩),y5 dk,y5 dk]
  rfl
 rw[z6w rfl]
 show tresS _ (J13.setM ⟨1,[]⟩ [49] 12 100)=_
 rw[e]
 rfl
theorem vw1:VW (wA tB [] []):=z4h vw0 zoa
theorem zob:stepW (wA tB [] []) ⟨2,1,zS,[49],12,100,0⟩=(wA tA [] [],0):=by
 have h0:J13.TOk tB:=vw1.1
 have e:J13.grantM tB 1 [49] 12 100=(tA,0):=by
  unfold J13.grantM
  rw[y5 (fun k=>k h0),y5 dk,y5 dk,y5 dk,y5 dk]
  rfl
 rw[z6x rfl]
 show tresS _ (J13.grantM tB 1 [49] 12 100)=_
 rw[e]
 rfl
theorem vw2:VW (wA tA [] []):=z4h vw1 zob
theorem zoc:stepW (wA tA [] []) ⟨4,1,zS,[49],12,0,0⟩=(wA tA [] [mA],0):=by
 have h0:J13.TOk tA:=vw2.1
 have e:J13.tellM tA 1 [49] 12=(mA,0):=by
  unfold J13.tellM
  rw[y5 (fun k=>k h0),y5 dk]
  rfl
 rw[z5v rfl]
 show sendS _ (J13.tellM tA 1 [49] 12).1 (J13.tellM tA 1 [49] 12).2=_
 rw[e]
 exact z3g dk
theorem vw3:VW (wA tA [] [mA]):=z4h vw2 zoc
theorem zod:stepW (wA tA [] [mA]) ⟨11,0,zS,[],0,0,0⟩=(wA tA [] [mA,mA],0):=by
 rw[z4f dk]
 unfold mailS
 rw[y5 (fun k=>k dk),y5 dk,y6 rfl]
 exact z3g dk
theorem vw4:VW (wA tA [] [mA,mA]):=z4h vw3 zod
theorem zk8 {r:List TOp} {m:List TMe} (h:(doS (runO (newO 1) r) pA).2=0) (hl:r.length≠400):stepW (wA tA r (mA :: m)) ⟨9,0,zS,[],0,0,0⟩=(wA tA (r++[pA]) m,0):=by
 rw[z4f dk]
 unfold mailS
 rw[y5 (fun k=>k ⟨dk,by show (0:Int)<((mA :: m).length:Int); simp⟩),y6 rfl]
 have e:appendS ⟨1,r,0⟩ pA=(⟨1,r++[pA],0⟩,0):=z2e ztk h hl
 have hne:¬ (mAt (wA tA r (mA :: m)) 0).To=0:=(by decide:¬ (1:Int)=0)
 refine (y5 hne).trans ?_
 show keepS (loseW (wA tA r (mA :: m)) 0) 0 (appendS ⟨1,r,0⟩ pA).1 (appendS ⟨1,r,0⟩ pA).2=_
 rw[e]
 exact z1o
theorem zoe:stepW (wA tA [] [mA,mA]) ⟨9,0,zS,[],0,0,0⟩=(wA tA [pA] [mA],0):=zk8 (zlk (z6v dk) (.inr dk)) dk
theorem vw5:VW (wA tA [pA] [mA]):=z4h vw4 zoe
theorem do1:(doS (newO 1) pA).2=0:=zlk (z6v dk) (.inr dk)
theorem zud:hasR (doS (newO 1) pA).1.I [49] 12=true:=((z2i do1).2 [49] 12).1.2 (.inr ⟨rfl,rfl,rfl⟩)
theorem do2:(doS (doS (newO 1) pA).1 pA).2=0:=zlk (z9o do1) (.inl zud)
theorem zof:stepW (wA tA [pA] [mA]) ⟨9,0,zS,[],0,0,0⟩=(wA tA [pA,pA] [],0):=zk8 (r:=[pA]) do2 dk
theorem vw6:VW (wA tA [pA,pA] []):=z4h vw5 zof
theorem z5z {L:List TSt} {l:List Int} (h:VW w) (hs:SOk (L.getD i default)) (hl:l.length<=1000) (e:stepW w (L.getD i default)=(w',0)):(S_q1b_b1 L i (w,l)).den=some (.cont (w',l++[0])):=by
 simp only[S_q1b_b1,Scr.den]
 rw[zb1 h hs.1 hs.2,e]
 simp only[obind]
 rw[y6 dk]
 simp only[zl]
 rw[za ⟨om,trivial⟩]
theorem ztl:F_q1b 1 LA=some (wA tA [pA,pA] [],[0,0,0,0,0,0],0):=by
 simp only[F_q1b,S_q1b,Scr.den,zi3 (n:=1) dk,obind]
 rw[y5 dk,y5 dk]
 have h0:=z5z (L:=LA) (i:=0) (l:=[]) vw0 ⟨dk,dk⟩ dk zoa
 have h1:=z5z (L:=LA) (i:=1) (l:=[0]) vw1 ⟨dk,dk⟩ dk zob
 have h2:=z5z (L:=LA) (i:=2) (l:=[0,0]) vw2 ⟨dk,dk⟩ dk zoc
 have h3:=z5z (L:=LA) (i:=3) (l:=[0,0,0]) vw3 ⟨dk,dk⟩ dk zod
 have h4:=z5z (L:=LA) (i:=4) (l:=[0,0,0,0]) vw4 ⟨dk,dk⟩ dk zoe
 have h5:=z5z (L:=LA) (i:=5) (l:=[0,0,0,0,0]) vw5 ⟨dk,dk⟩ dk zof
 have e:rangeM (fun i s=>(S_q1b_b1 LA i s).den) LA.length 0 (newW 1,[])=some (.next (wA tA [pA,pA] [],[0,0,0,0,0,0])):=by
  show rangeM (fun i s=>(S_q1b_b1 LA i s).den) 6 0 (wA ⟨1,[]⟩ [] [],[])=_
  simp only[rangeM,h0,y2b,y3c,h1,h2,h3,h4,h5,yo,Nat.reduceAdd]
 rw[e]
 simp only[zl]
 rw[zct vw6.fr]
 simp only[obind]
 rw[za ⟨dk,trivial⟩]
theorem rightsA:(rightV (noW (wA tA [pA,pA] []) 0).I [49] 12).A=100/\(rightV (noW (wA tA [pA,pA] []) 0).I [49] 12).M=0/\(noW (wA tA [pA,pA] []) 0).Ae=nb:=by
 show (rightV (doS (doS (newO 1) pA).1 pA).1.I [49] 12).A=100/\(rightV (doS (doS (newO 1) pA).1 pA).1.I [49] 12).M=0/\(doS (doS (newO 1) pA).1 pA).1.Ae=nb
 obtain⟨_,a2,_,a4,_⟩:=(z2i do1).2 [49] 12
 obtain⟨_,b2,_,b4,_⟩:=(z2i do2).2 [49] 12
 rw[b2,b4,a2,a4,zbn rfl do2,zbn rfl do1]
 exact⟨rfl,rfl,rfl⟩
theorem zcu:F_qu=some true:=by
 have hv:=vw6
 have hp:J13.hasP (wA tA [pA,pA] []).F.C [49] 12=true:=dk
 have hs:=z6z hv hp
 have e1:heldW (wA tA [pA,pA] []) [49] 12=100:=by
  show sumTo _ 1=100
  rw[z13,z9v]
  unfold heldK
  rw[rightsA.1,rightsA.2.1]
  rfl
 have e2:usedW (wA tA [pA,pA] []) [49] 12=0:=by
  show sumTo _ 1=0
  rw[z13,z9v]
  unfold usedK
  rw[rightsA.2.2]
  rfl
 have e3:J13.potAt (wA tA [pA,pA] []).F [49] 12=⟨[49],12,100,[100],[0],[0],[0]⟩:=rfl
 have e4:J13.outV ⟨[49],12,100,[100],[0],[0],[0]⟩=100:=dk
 rw[e1,e2,e3,e4] at hs
 simp only[F_qu,S_qu,Scr.den]
 rw[ztl]
 simp only[obind,zd,zf]
 rw[y5 dk]
 have ra:=z12 (ρ:=Bool) (n:=6) (c:=false) (body:=fun i s=>(S_qu_b1 (wA tA [pA,pA] [],[0,0,0,0,0,0],0) i s).den) (fun _=>True) (fun i hi _=>by
  simp only[S_qu_b1,Scr.den]
  have:i=0\/i=1\/i=2\/i=3\/i=4\/i=5:=om
  rcases this with rfl | rfl | rfl | rfl | rfl | rfl <;> rfl) (fun i hi h=>absurd trivial h)
 have ra1:rangeM (fun i s=>(S_qu_b1 (wA tA [pA,pA] [],[0,0,0,0,0,0],0) i s).den) ([0,0,0,0,0,0]:List Int).length 0 ()=some (.next ()):=ra.1 fun _ _=>trivial
 rw[ra1]
 simp only[zl]
 rw[hs]
 simp only[obind]
 rw[z4g hv,zi (gs:=[((((100:Int)==100&&(100:Int)==100)&&(100:Int)==100)&&(0:Int)==0)=true]) ⟨dk,trivial⟩]
 rfl
theorem zu3 {o t s:Int} (h1:0<=u) (h2:u<=h) (h3:h<=o) (hs:s=max (o-t) 0) (h4:o<=6000000000000000) (h5:-1000000000000000<=t/\t<=1000000000000000) :
  ((decide (u<0)||decide (u>h))||decide (h>o))=false/\(((decide (u<0)||decide (u>h))||decide (h>o))||decide (o>i64.wrap (t+s)))=false:=by
 rw[wrapId (n:=t+s) om om]
 simp only[y2p,y9]
 omega
theorem zs7 (h:VW w) (hi:i<w.F.C.length):(S_qm_b1 (w,e) i ()).den=some (.cont ()):=by
 obtain⟨p,ep⟩:∃ p,p=w.F.C.getD i default:=⟨_,rfl⟩
 have hm:p∈w.F.C:=by rw[ep]; exact zb hi
 obtain⟨f1,f2,f3,f4⟩:=z45 h hm
 obtain⟨s1,s2⟩:=zu3 f3.1 f3.2.1 f3.2.2.1 (s:=shW p) rfl f3.2.2.2 f4
 have hs:=z6z h f1.1
 rw[f1.2] at hs
 simp only[S_qm_b1,Scr.den]
 rw[<- ep,hs,f2.2.2.2,f2.2.1]
 simp only[obind,zd]
 rw[zi (gs:=[_=false]) ⟨s1,trivial⟩]
 simp only[obind]
 rw[zi (gs:=[_=false]) ⟨s2,trivial⟩]
 simp only[obind]
 rw[s2,y3j,y5 sj]
theorem zs8 (h:VW w) {l:List TSt} {t:TTape} (hs:SOk (l.getD i default)):∃ w',(S_qm_b2 (l,t) i w).den=some (.cont w')/\VW w':=by
 simp only[S_qm_b2,Scr.den]
 rw[zk6 h hs]
 simp only[obind]
 by_cases c0:(stepW w (l.getD i default)).2=0
 ·rw[y5 (by simpa using c0)]
  obtain⟨w1,w2⟩:=z6e h c0
  obtain⟨r,er⟩:∃ r,r=stepW w (l.getD i default):=⟨_,rfl⟩
  rw[<- er] at w2 |-
  obtain⟨w',e'⟩:=r
  obtain⟨u,e,_⟩:=zp (body:=fun i s=>(S_qm_b1 (w',e') i s).den) (n:=w'.F.C.length) (fun _ _=>True) (s0:=()) trivial (fun i u hi _=>⟨(),zs7 w2 hi,trivial⟩)
  simp only
  rw[e]
  exact⟨_,rfl,w2⟩
 ·rw[y6 (by simpa using c0)]
  exact⟨_,rfl,h⟩
theorem zq8 (a:List Int):F_qm a=some true:=by
 obtain⟨s0,e0,t0⟩:=z9i a
 obtain⟨n,s1,e1,t1,hn⟩:=z1s (lo:=1) (hi:=3) t0 om om om
 obtain⟨l,s2,e2,t2,l2,hl⟩:=zds (n:=n) (m:=26) om om t1
 simp only[F_qm,S_qm,Scr.den,e0,e1,zi3 (n:=n) om,obind]
 rw[y5 dk,e2]
 simp only[obind]
 obtain⟨w,e,hw⟩:=zp (body:=fun i s=>(S_qm_b2 (l,s2) i s).den) (n:=l.length) (fun _ w=>VW w) (s0:=newW n) (zdq om) (fun i w hi hI=>zs8 hI (hl _ (zb hi)).1.ok)
 rw[e]
 simp only[zl,zf]
 rw[z4g hw,z43 hw,zj9 hw,zcu]
 simp only[obind]
 rw[zi (gs:=[True]) ⟨trivial,trivial⟩]
 simp only[obind]
 rw[zi (gs:=[(true&&true)=true]) ⟨rfl,trivial⟩]
 simp only[obind]
 rw[zi (gs:=[((true&&true)&&true)=true]) ⟨rfl,trivial⟩]
 rfl
end Go.Proofs.YtdmddkbngmhepaaGreatDoor
