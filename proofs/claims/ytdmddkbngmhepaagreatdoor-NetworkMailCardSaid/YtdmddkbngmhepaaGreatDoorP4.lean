/- A part of the proof: plain laws of what the functions compute. No condition. -/
import Derived.Test.YtdmddkbngmhepaaGreatDoorP3
namespace Go.Proofs.YtdmddkbngmhepaaGreatDoor.J13
open Go Go.TA
open Go.IntKind (i64)
def PGood (p:TPo):Prop:=good p.C=true/\True
variable {l:List TPo} {c:List UInt8} {y:Int}
theorem has_iff:hasP l c y=true↔∃ x∈l,x.C=c/\x.E=y:=by
 unfold hasP
 rw[y4u]
 exact⟨fun⟨x,h1,h2⟩=>⟨x,h1,ze9.1 h2⟩,fun⟨x,h1,h2⟩=>⟨x,h1,ze9.2 h2⟩⟩
def Srt (l:List TPo):Prop:=∀ i,i<l.length->i=0\/cmpP (l.getD (i-1) default) (l.getD i default)<0
variable {a b:TPo}
theorem zb7 (h:good a.C=true\/good b.C=true):cmpP a b<0↔lexC (parts a.C) (parts b.C)<0\/(lexC (parts a.C) (parts b.C)=0/\a.E<b.E):=by
 unfold cmpP
 rw[z2n h]
 generalize lexC (parts a.C) (parts b.C)=c
 by_cases hc:c=0
 ·rw[y5 (by simpa using hc)]
  unfold cmpI
  by_cases h1:a.E<b.E
  ·rw[y6 h1]; simp[hc,h1]
  ·rw[y5 h1]
   split <;> simp[hc,h1]
 ·rw[y6 hc]; simp[hc]
theorem cmpP_eq (ha:good a.C=true) (hb:good b.C=true):cmpP a b=0↔a.C=b.C/\a.E=b.E:=by
 unfold cmpP
 rw[z2n (.inl ha)]
 by_cases hc:lexC (parts a.C) (parts b.C)=0
 ·rw[y5 (by simpa using hc)]
  have e:=z7o ha hb (z2u hc)
  unfold cmpI
  by_cases h1:a.E<b.E
  ·rw[y6 h1]; simp; omega
  ·rw[y5 h1]
   by_cases h2:a.E>b.E
   ·rw[y6 h2]; simp; omega
   ·rw[y5 h2]; simp[e]; omega
 ·rw[y6 hc]
  constructor
  ·intro h; exact absurd h hc
  ·rintro⟨h1,_⟩
   exact absurd (by rw[h1]; exact zae _) hc
theorem zdd {c:TPo} (ha:good a.C=true) (hb:good b.C=true) (h:cmpP a b<0) (h':cmpP b c<0):cmpP a c<0:=by
 rw[zb7 (.inl ha)] at h |-
 rw[zb7 (.inl hb)] at h'
 rcases h with h | ⟨h,h2⟩
 ·rcases h' with h' | ⟨h',_⟩
  ·exact .inl (z93 h h')
  ·rw[<- z2u h']; exact .inl h
 ·rcases h' with h' | ⟨h',h3⟩
  ·rw[z2u h]; exact .inl h'
  ·rw[z2u h]; exact .inr ⟨h',om⟩
theorem znj (ha:good a.C=true):cmpP b a=-cmpP a b:=by
 unfold cmpP
 rw[z2n (.inl ha),z2n (.inr ha),zaf (parts a.C) (parts b.C)]
 by_cases h:lexC (parts a.C) (parts b.C)=0
 ·rw[y5 om,y5 om]
  unfold cmpI
  by_cases h1:a.E<b.E
  ·rw[y5 om,y6 om,y6 h1]; rfl
  ·by_cases h2:b.E<a.E
   ·rw[y6 h2,y5 h1,y6 om]
   ·rw[y5 h2,y5 om,y5 h1,y5 om]; rfl
 ·rw[y6 om,y6 h]
theorem Srt.lt (h:Srt l) (hg:∀ r∈l,PGood r):∀ {i j:Nat},i<j->j<l.length->cmpP (l.getD i default) (l.getD j default)<0:=by
 intro i j hij
 induction j with
 | zero=>omega
 | succ j ih =>
  intro hj
  have h1:=(h (j+1) hj).resolve_left om
  rw[show j+1-1=j from om] at h1
  by_cases e:i=j
  ·subst e; exact h1
  ·exact zdd (hg _ (z7 om)).1 (hg _ (z7 om)).1 (ih om om) h1
def posP (l:List TPo) (r:TPo):Nat:=l.findIdx (fun x=>decide (0<=cmpP x r))
variable {i:Nat} {α:Type}
theorem z13 [Inhabited α] {l:List α} (hi:i<l.length):l.getD i default=l[i]:=by simp[List.getD_eq_getElem?_getD,List.getElem?_eq_getElem hi]
theorem posP_le (l:List TPo) (r:TPo):posP l r<=l.length:=List.findIdx_le_length
variable {r:TPo}
theorem zb8 (hi:i<posP l r):cmpP (l.getD i default) r<0:=by
 have hl:i<l.length:=y19 hi (posP_le l r)
 have:=List.not_of_lt_findIdx hi
 rw[z13 hl]
 simpa using this
theorem zb9 (hi:posP l r<l.length):0<=cmpP (l.getD (posP l r) default) r:=by
 have:=y4a (xs:=l) (p:=fun x=>decide (0<=cmpP x r)) (w:=hi)
 rw[z13 hi]
 exact y2e this
theorem zrg (hS:Srt l) (hg:∀ x∈l,PGood x) (hi:i<l.length) (hp:posP l r<=i):0<=cmpP (l.getD i default) r:=by
 have h0:=zb9 (l:=l) (r:=r) om
 by_cases e:posP l r=i
 ·rwa [e] at h0
 ·have h1:=hS.lt hg (show posP l r<i from om) hi
  by_cases h:cmpP (l.getD i default) r<0
  ·have:=zdd (hg _ (z7 om)).1 (hg _ (z7 hi)).1 h1 h
   omega
  ·omega
variable {j:Nat}
theorem ze4 (h:i+j<4611686018427387904):i64.wrap ((IntKind.u64.wrap (i64.wrap ((i:Int)+(j:Int)))).fdiv (2 ^ (min (1:Int).toNat IntKind.u64.bits)))=(((i+j) / 2:Nat):Int):=by
 rw[wrapId (n:=(i:Int)+(j:Int)) om om]
 have e:IntKind.u64.wrap ((i:Int)+(j:Int))=(i:Int)+(j:Int):=by
  simp only[IntKind.wrap,IntKind.bits,IntKind.signed]
  simp
  omega
 rw[e]
 have e2:(2:Int) ^ (min (1:Int).toNat IntKind.u64.bits)=2:=dk
 rw[e2,Int.fdiv_eq_ediv_of_nonneg _ om,wrapId om om]
 omega
theorem PGood.len (h:PGood r):r.C.length<=1000000:=by have:=z4h h.1; omega
theorem zcd (hg:∀ x∈l,PGood x) (k:Nat):(l.getD k default).C.length<=1000000:=by
 by_cases h:k<l.length
 ·exact (hg _ (z7 h)).len
 ·rw[y8,yj om]; exact y20 _
theorem z97 (hl:l.length<=1000000) (hS:Srt l) (hg:∀ x∈l,PGood x) (hr:PGood r) :
  F_q2h r l=some ((posP l r:Int),decide (posP l r<l.length)&&(cmpP (l.getD (posP l r) default) r==0)):=by
 have hc:∀ k,F_q30 (l.getD k default) r=some (cmpP (l.getD k default) r):=fun k=>zdb (zcd hg k) hr.len
 have hp:=posP_le l r
 simp only[F_q2h,S_q2h,Scr.den]
 obtain⟨s,e,hJ⟩:=z2k (step:=fun s=>(S_q2h_b1 r l s).den) (fun s=>(s.2-s.1).toNat) (fun s=>∃ i j:Nat,s=((i:Int),(j:Int))/\i<=posP l r/\posP l r<=j/\j<=l.length) (fun s=>s.1=(posP l r:Int)) (fun s hI=>by
  obtain⟨i,j,rfl,h1,h2,h3⟩:=hI
  simp only[S_q2h_b1,Scr.den,ze4 (show i+j<4611686018427387904 from om),hc,obind,yh]
  by_cases hij:i<j
  ·left
   rw[y6 (by simpa using hij),z6 ⟨om,om,om,trivial⟩,yu]
   by_cases hlt:cmpP (l.getD ((i+j) / 2) default) r<0
   ·rw[y6 (by simpa using hlt),wrapId om om]
    have:(i+j) / 2<posP l r:=by
     by_cases h:(i+j) / 2<posP l r
     ·exact h
     ·have:=zrg (r:=r) hS hg (show (i+j) / 2<l.length from om) om
      omega
    exact⟨_,rfl,⟨(i+j) / 2+1,j,sj,om,h2,h3⟩,by simp only; omega⟩
   ·rw[y5 (by simpa using hlt)]
    have:posP l r<=(i+j) / 2:=by
     by_cases h:posP l r<=(i+j) / 2
     ·exact h
     ·have:=zb8 (show (i+j) / 2<posP l r from om)
      omega
    exact⟨_,rfl,⟨i,(i+j) / 2,rfl,h1,this,om⟩,by simp only; omega⟩
  ·right
   rw[y5 (by simpa using hij)]
   exact⟨_,rfl,by simp only; omega⟩) _ (0,(l.length:Int)) (y49 _) ⟨0,l.length,rfl,om,hp,om⟩
 rw[e]
 simp only[outM,hJ,yh,hc,zb,yu]
 by_cases h:posP l r<l.length
 ·rw[zf (by exact⟨sk,trivial⟩),obind,z6 ⟨fun _=>om,fun _=>h,fun _=>h,trivial⟩]
  simp[h]
 ·rw[zq (by simp[AllP]; omega),obind,z6 ⟨fun _=>om,fun h'=>absurd h (by simp[AllP] at h'; omega),fun h'=>absurd h (by simp[AllP] at h'; omega),trivial⟩]
  simp[h]
theorem ze5 (hS:Srt l) (hg:∀ x∈l,PGood x) (hr:PGood r) :
  (decide (posP l r<l.length)&&(cmpP (l.getD (posP l r) default) r==0))=hasP l r.C r.E/\(hasP l r.C r.E=true->pix l r.C r.E=posP l r):=by
 have key:hasP l r.C r.E=true->pix l r.C r.E=posP l r:=fun h=>by
  obtain⟨h1,h2,h3⟩:=pix_lt h
  have h4:=hg _ (z7 h1)
  have h5:cmpP (l.getD (pix l r.C r.E) default) r=0:=(cmpP_eq h4.1 hr.1).2 ⟨h2,h3⟩
  rcases y3s (pix l r.C r.E) (posP l r) with h | h | h
  ·have:=zb8 h; omega
  ·exact h
  ·have h6:=hS.lt hg h h1
   have h7:=zb9 (l:=l) (r:=r) om
   have h8:=hg _ (z7 (show posP l r<l.length from om))
   have:cmpP (l.getD (posP l r) default) r<0:=by
    rw[zb7 (.inl h8.1)] at h6 |-
    rw[h2,h3] at h6
    exact h6
   omega
 refine⟨?_,key⟩
 rw[y1k]
 simp only[yl,y7,y13]
 constructor
 ·rintro⟨h1,h2⟩
  obtain⟨h3,h4⟩:=(cmpP_eq (hg _ (z7 h1)).1 hr.1).1 h2
  exact has_iff.2 ⟨_,z7 h1,h3,h4⟩
 ·intro h
  obtain⟨h1,h2,h3⟩:=pix_lt h
  rw[key h] at h1 h2 h3
  exact⟨h1,(cmpP_eq (hg _ (z7 h1)).1 hr.1).2 ⟨h2,h3⟩⟩
theorem zce (l:List TPo) (p:Nat) (hp:p<=l.length) (z r:TPo) :
  (copyL (l++[z]) (0+(p+1)) (min ((l++[z]).length-p) ((l++[z]).length-(p+1))) (fun i=>(l++[z]).getD ((0+p)+i) default)).set (0+p) r=insL l p r:=by
 refine y3b (by simp[copyL,insL]; omega) fun i h1 h2=>?_
 have hi:i<l.length+1:=by rw[zo] at h2; exact h2
 rw[<- z13 h2,z1h hp,y3x]
 by_cases e:i<p
 ·rw[y5 om,y6 e]
  simp only[copyL,y3l,y3d]
  rw[y5 om,y8,y8,ym om]
 ·by_cases e2:i=p
  ·rw[y6 om,y5 e,y6 e2]
  ·rw[y5 om,y5 e,y5 e2]
   simp only[copyL,y3l,y3d,yo,y22]
   rw[y6 om,show 0+p+(i-(0+(p+1)))=i-1 from om,y8,y8,ym om]
def withT (p:TPo) (x:Int):TPo:=⟨p.C,p.E,x,p.A,p.J,p.I,p.T⟩
def zeros (n:Int):List Int:=List.replicate n.toNat (0:Int)
def newP (n:Int) (c:List UInt8) (y x:Int):TPo:=⟨c,y,x,zeros n,zeros n,zeros n,zeros n⟩
def setM (t:TTr) (c:List UInt8) (y x:Int):TTr×Int :=
 if ¬ TOk t then (zT,1) else if ¬ good c=true then (zT,5) else if ¬ ((0<=y/\y<=99)/\-1000000000000000<=x/\x<=1000000000000000) then (zT,2) else
  if hasP t.D c y=true then (putP t c y (withT (potAt t c y) x),0) else if t.D.length=60 then (zT,3)
  else (⟨t.M,insL t.D (posP t.D (newP t.M c y x)) (newP t.M c y x)⟩,0)
variable {p:Nat} {z:TPo}
theorem insL_at (hp:p<=l.length):(insL l p z).getD p default=z:=by
 rw[z1h hp,y5 (y5l p),y6 rfl]
theorem zpb (hp:p<=l.length):(insL l p z).set p r=insL l p r:=by
 refine y3b (by simp[zo]) fun i h1 h2=>?_
 have hi:i<l.length+1:=by rw[zo] at h2; exact h2
 rw[y3x]
 by_cases e:p=i
 ·subst e; rw[y6 rfl,<- z13 h2,insL_at hp]
 ·rw[y5 e,<- z13 h2,<- z13 (by rw[zo]; omega),z1h hp,z1h hp]
  split
  ·rfl
  ·rw[y5 fun h=>e h.symm,y5 fun h=>e h.symm]
variable {t:TTr}
theorem TOk.srt (h:TOk t):Srt t.D:=fun i hi=>by
 rcases y3m i with h0 | h0
 ·exact .inl h0
 ·exact .inr ((h.2.2 i hi).2 h0)
theorem TOk.good (h:TOk t):∀ p∈t.D,PGood p:=fun p hp=>by
 obtain⟨i,hi,rfl⟩:=z18 hp
 exact⟨(h.2.2 i hi).1.1,trivial⟩
theorem Set_eq (hs:Small t) (hc:c.length<=1000000) (y x:Int):F_q5t t c y x=some (setM t c y x):=by
 simp only[F_q5t,S_q5t,Scr.den,Valid_eq hs,z2r (l:=c) om,zhl hc,zy,obind,z8]
 unfold setM
 by_cases h1:TOk t
 ·rw[y5 (show ¬ (!decide (TOk t))=true by rw[ye h1]; simp),y5 (show ¬ ¬ TOk t from fun h=>h h1)]
  have hg:=z2m c
  by_cases h2:good c=true
  ·rw[h2,y7] at hg
   rw[y5 (show ¬ (((parts c).length:Int)==0)=true by simp only[y13]; omega),y5 (show ¬ ¬ good c=true from fun h=>h h2)]
   by_cases h3:0<=y/\y<=99
   ·rw[h2,ye h3,zf (by exact⟨rfl,trivial⟩)]
    simp only[obind]
    by_cases h4:-1000000000000000<=x/\x<=1000000000000000
    ·rw[y5 (by rw[ye h4]; simp),y5 (show ¬ ¬ ((0<=y/\y<=99)/\-1000000000000000<=x/\x<=1000000000000000) from fun h=>h ⟨h3,h4⟩)]
     have l0:=h1.2.1
     have e0:=h1.1
     have hr:PGood (⟨c,y,0,[],[],[],[]⟩:TPo):=⟨h2,trivial⟩
     obtain⟨k1,k2⟩:=ze5 h1.srt h1.good hr
     have hp:=posP_le t.D (⟨c,y,0,[],[],[],[]⟩:TPo)
     rw[zl0 h1.small]
     simp only[obind,z97 (show t.D.length<=1000000 from om) h1.srt h1.good hr,k1,yh,yu]
     by_cases h5:hasP t.D c y=true
     ·have hlt:=(pix_lt h5).1
      have e:=k2 h5
      rw[y5 (show ¬ (!hasP t.D c y)=true by rw[h5]; simp),y6 (show hasP t.D c y=true from h5)]
      simp only[outM]
      rw[<- e,z6 (by simp only[AllP,yw]; exact⟨om,hlt,hlt⟩),z6 (by simp only[AllP,yw,yb]; omega)]
      rfl
     ·rw[y6 (show (!hasP t.D c y)=true by simpa using h5),y5 (show ¬ hasP t.D c y=true from h5)]
      by_cases h6:t.D.length=60
      ·rw[y6 (show ((t.D.length:Int)==60)=true from sk),y6 h6]
       rfl
      ·rw[y5 (show ¬ ((t.D.length:Int)==60)=true from sk),y5 h6]
       have hz:PSmall (newP t.M c y 0):=by
        have:(zeros t.M).length<=1000000:=by simp[zeros]; omega
        exact⟨this,this,this,this⟩
       rw[z6 (by simp only[AllP,yw]; omega),z6 (by simp only[AllP,yw,y1w]; omega)]
       show outM ((F_q3b (newP t.M c y 0)).bind _) _ _=_
       rw[z1x hz]
       simp only[obind,F_q73,yh]
       rw[z6 ⟨om,hp,om⟩]
       simp only[obind,outM]
       rw[z6 (by simp only[AllP,yw,zo]; omega),z6 (by simp only[AllP,yw,yb,zo]; omega),insL_at hp,zpb hp]
       rfl
    ·rw[y6 (by rw[yi h4]; simp),y6 (show ¬ ((0<=y/\y<=99)/\-1000000000000000<=x/\x<=1000000000000000) from fun h=>h4 h.2)]
   ·rw[h2,yi h3,zq (by simp[AllP])]
    simp only[obind]
    rw[y6 (by rfl),y6 (show ¬ ((0<=y/\y<=99)/\-1000000000000000<=x/\x<=1000000000000000) from fun h=>h3 h.1)]
  ·rw[y4x] at h2
   rw[h2,y9] at hg
   rw[y6 (show (((parts c).length:Int)==0)=true by simp only[y13]; omega),y6 (show ¬ good c=true by simp[h2])]
 ·rw[y6 (show (!decide (TOk t))=true by rw[yi h1]; simp),y6 (show ¬ TOk t from h1)]
theorem zso (c y y':Int):((decide (c>0)||(c==0&&decide (y>y')))=true)↔¬ (c<0\/(c=0/\y<=y')):=by
 simp only[yc,yl,y7,y13]; omega
variable {x:Int}
theorem znk (h1:TOk t) (hc:good c=true) (hn:¬ hasP t.D c y=true) :
  iterM (fun s=>(S_q1q_b1 c y (t.M,t.D) s).den) 0=some (.next (posP t.D (newP t.M c y x):Int)):=by
 have hl:=h1.2.1
 have hp:=posP_le t.D (newP t.M c y x)
 obtain⟨s,e,hJ⟩:=z2k (step:=fun s=>(S_q1q_b1 c y (t.M,t.D) s).den) (fun s=>(61-s).toNat) (fun s=>0<=s/\s<=(posP t.D (newP t.M c y x):Int)) (fun s=>s=(posP t.D (newP t.M c y x):Int)) (fun s hI=>by
  obtain⟨i,rfl⟩:=Int.eq_ofNat_of_zero_le hI.1
  have hi:i<=posP t.D (newP t.M c y x):=om
  simp only[S_q1q_b1,Scr.den,yh,yu,z8,zb]
  by_cases h:i<t.D.length
  ·have hg:=(h1.good _ (z7 h)).1
   rw[y6 sk,z3y hg hc,obind,z6 ⟨om,h,h,trivial⟩,z6 ⟨fun _=>om,fun _=>h,fun _=>h,trivial⟩]
   have hcm:cmpP (t.D.getD i default) (newP t.M c y x)<0↔lexC (parts (t.D.getD i default).C) (parts c)<0\/(lexC (parts (t.D.getD i default).C) (parts c)=0/\(t.D.getD i default).E<y):=zb7 (a:=t.D.getD i default) (b:=newP t.M c y x) (.inl hg)
   have hne:¬ (lexC (parts (t.D.getD i default).C) (parts c)=0/\(t.D.getD i default).E=y):=fun k =>
    hn (has_iff.2 ⟨_,z7 h,z7o hg hc (z2u k.1),k.2⟩)
   by_cases hip:i<posP t.D (newP t.M c y x)
   ·left
    have hlt:=hcm.1 (zb8 hip)
    rw[y5 fun k=>(zso _ _ _).1 k (hlt.imp id fun k=>⟨k.1,Int.le_of_lt k.2⟩),wrapId om om]
    exact⟨_,rfl,⟨om,om⟩,om⟩
   ·right
    have hge:¬ cmpP (t.D.getD i default) (newP t.M c y x)<0:=by
     have:i=posP t.D (newP t.M c y x):=om
     subst this; exact y2q.2 (zb9 h)
    rw[y6 ((zso _ _ _).2 fun k=>hge (hcm.2 (k.imp id fun k=>⟨k.1,Int.lt_iff_le_and_ne.2 ⟨k.2,fun e=>hne ⟨k.1,e⟩⟩⟩)))]
    exact⟨_,rfl,om⟩
  ·right
   rw[y5 (by simpa using h)]
   exact⟨_,rfl,om⟩) _ 0 (y49 _) ⟨om,om⟩
 rw[e,hJ]
theorem r13_Set_eq (hs:Small t) (hc:c.length<=1000000) (y x:Int):F_q1q t c y x=some (setM t c y x):=by
 simp only[F_q1q,S_q1q,Scr.den,r13_Valid_eq hs,z2q (l:=c) om,at_eq,obind,z8]
 unfold setM
 by_cases h1:TOk t
 ·rw[y5 (show ¬ (!decide (TOk t))=true by rw[ye h1]; simp),y5 (show ¬ ¬ TOk t from fun h=>h h1)]
  by_cases h2:good c=true
  ·rw[y5 (show ¬ (!good c)=true by rw[h2]; simp),y5 (show ¬ ¬ good c=true from fun h=>h h2)]
   by_cases h3:(0<=y/\y<=99)/\-1000000000000000<=x/\x<=1000000000000000
   ·have hb:(decide (y<0)||decide (y>99)||decide (x < -1000000000000000)||decide (x>1000000000000000))=false:=by
     simp only[y2n,y9]; omega
    rw[y5 (by rw[hb]; simp),y5 (show ¬ ¬ ((0<=y/\y<=99)/\-1000000000000000<=x/\x<=1000000000000000) from fun h=>h h3),zdc h1.small]
    simp only[obind]
    have l0:=h1.2.1
    have e0:=h1.1
    by_cases h5:hasP t.D c y=true
    ·have hlt:=(pix_lt h5).1
     simp only[h5,yz,yh,yu]
     rw[y6 (ye (y1v _)),z6 (by simp only[AllP,yw]; exact⟨om,hlt,hlt⟩),z6 (by simp only[AllP,yw,yb]; omega)]
     rfl
    ·simp only[h5,yn,yp]
     rw[y5 dk]
     by_cases h6:t.D.length=60
     ·rw[y6 (show ((t.D.length:Int)==60)=true from sk),y6 h6]
     ·rw[y5 (show ¬ ((t.D.length:Int)==60)=true from sk),y5 h6,z6 (by simp only[AllP,yw]; omega),znk (x:=x) h1 h2 h5]
      have hp:=posP_le t.D (newP t.M c y x)
      simp only[outM,yh]
      have hw:i64.wrap ((posP t.D (newP t.M c y x):Int)+1)=((posP t.D (newP t.M c y x)+1:Nat):Int):=by rw[wrapId om om]; rfl
      rw[hw]
      simp only[yh]
      rw[z6 (by simp only[AllP,yw]; omega),z6 (by simp only[AllP,yw,yo,y22]; omega),z6 (by simp only[AllP,yw,zm,yo,y22]; omega),
       z6 (by simp only[AllP,yw,yb,zm,yo,y22]; omega)]
      show some ((⟨t.M,(copyL (t.D++[_]) _ _ _).set _ (newP t.M c y x)⟩:TTr),(0:Int))=_
      rw[zce t.D _ hp _ (newP t.M c y x)]
   ·have hb:(decide (y<0)||decide (y>99)||decide (x < -1000000000000000)||decide (x>1000000000000000))=true:=by
     simp only[yc,y7]; omega
    rw[y6 hb,y6 (show ¬ ((0<=y/\y<=99)/\-1000000000000000<=x/\x<=1000000000000000) from h3)]
  ·rw[y6 (show (!good c)=true by simpa using h2),y6 (show ¬ good c=true from h2)]
 ·rw[y6 (show (!decide (TOk t))=true by rw[yi h1]; simp),y6 (show ¬ TOk t from h1)]
theorem zfg {x:TPo} (hj:j<l.length):(l.set i x).getD j default=if j=i then x else l.getD j default:=by
 rw[y8,y4p]
 by_cases h:i=j
 ·subst h; simp[hj]
 ·rw[y5 h,y5 fun e=>h e.symm,y8]
theorem znl {a' b':TPo} (h1:a.C=a'.C) (h2:a.E=a'.E) (h3:b.C=b'.C) (h4:b.E=b'.E):cmpP a b=cmpP a' b':=by
 simp only[cmpP,h1,h2,h3,h4]
theorem z63 (h:TOk t) (hp:hasP t.D c y=true) {p:TPo} (hk:PotOk t.M p) (hc:p.C=c) (hy:p.E=y):TOk (putP t c y p):=by
 obtain⟨k1,k2,k3⟩:=pix_lt hp
 refine⟨h.1,by simpa [putP] using h.2.1,fun i hi=>?_⟩
 have hi':i<t.D.length:=by simpa [putP] using hi
 have same:∀ j,j<t.D.length->((t.D.set (pix t.D c y) p).getD j default).C=(t.D.getD j default).C/\((t.D.set (pix t.D c y) p).getD j default).E=(t.D.getD j default).E:=fun j hj=>by
  rw[zfg hj]
  by_cases e:j=pix t.D c y
  ·subst e; rw[y6 rfl]; exact⟨hc.trans k2.symm,hy.trans k3.symm⟩
  ·rw[y5 e]; exact⟨rfl,rfl⟩
 constructor
 ·show PotOk t.M ((t.D.set (pix t.D c y) p).getD i default)
  rw[zfg hi']
  split
  ·exact hk
  ·exact (h.2.2 i hi').1
 ·intro h0
  show cmpP ((t.D.set (pix t.D c y) p).getD (i-1) default) ((t.D.set (pix t.D c y) p).getD i default)<0
  rw[znl (same (i-1) om).1 (same (i-1) om).2 (same i hi').1 (same i hi').2]
  exact (h.2.2 i hi').2 h0
theorem potAt_cy (hp:hasP t.D c y=true):(potAt t c y).C=c/\(potAt t c y).E=y:=(pix_lt hp).2
theorem zpc:tot 0:=⟨om,om⟩
variable {n:Int}
theorem znm (h:0<=n):rowOk n (zeros n):=⟨by simp[zeros]; omega,fun x hx=>by rw[List.eq_of_mem_replicate hx]; exact zpc⟩
variable {k:Int}
theorem zea {l:List Int} (h:rowOk n l) (hx:tot x):rowOk n (upd l k x) :=
 ⟨by rw[upd_length]; exact h.1,fun z hz=>by
  rcases y29 hz with h1 | h1
  ·exact h.2 z h1
  ·subst h1; exact hx⟩
theorem upd_get {l:List Int} (hj:j<l.length):(upd l k x).getD j default=if j=(k-1).toNat then x else l.getD j default:=zao hj
theorem ask_ok (h:(askM t k c y x).2=0):TOk t/\TOk (askM t k c y x).1:=by
 unfold askM at h |-
 by_cases h1:TOk t
 ·simp only[show ¬ ¬ TOk t from fun h=>h h1,yn] at h |-
  by_cases h2:hasP t.D c y=true
  ·simp only[show ¬ ¬ hasP t.D c y=true from fun h=>h h2,yn] at h |-
   by_cases h3:1<=k/\k<=t.M
   ·simp only[show ¬ ¬ (1<=k/\k<=t.M) from fun h=>h h3,yn] at h |-
    by_cases h4:1<=x/\x<=1000000000000000
    ·simp only[show ¬ ¬ (1<=x/\x<=1000000000000000) from fun h=>h h4,yn] at h |-
     by_cases h5:nth (potAt t c y).A k<nth (potAt t c y).I k+x
     ·rw[y6 h5] at h; cases h
     ·rw[y5 h5]
      have hp:=h1.potAt h2
      have hcy:=potAt_cy h2
      obtain⟨g1,g2,g3,⟨r1,r2,r3,r4⟩,⟨o1,o2⟩,g6⟩:=hp
      have a1:=nth_tot r3 h3
      have a2:=nth_tot r1 h3
      unfold tot at a1 a2
      refine⟨h1,z63 h1 h2 (p:=withA (potAt t c y) (upd (potAt t c y).I k (nth (potAt t c y).I k+x))) ⟨g1,g2,g3,⟨r1,r2,zea r3 ⟨om,om⟩,r4⟩,⟨o1,fun i hi=>?_⟩,g6⟩ hcy.1 hcy.2⟩
      have hi':i<(potAt t c y).I.length:=by have:=r1.1; have:=r3.1; have:i<(potAt t c y).A.length:=hi; omega
      show (upd (potAt t c y).I k (nth (potAt t c y).I k+x)).getD i default<=(potAt t c y).A.getD i default
      rw[upd_get hi']
      split
      ·rename_i e
       subst e
       exact y2q.1 h5
      ·exact o2 i hi
    ·simp only[h4,yd,yz] at h; cases h
   ·simp only[h3,yd,yz] at h; cases h
  ·simp only[h2,yd,yz,yp] at h; cases h
 ·simp only[h1,yd,yz] at h; cases h
theorem hear_ok {m:TMe} (h:(hearM t m).2=0):TOk t/\TOk (hearM t m).1:=by
 unfold hearM at h |-
 by_cases h0:m.To=0
 ·simp only[show ¬ m.To≠0 from fun h=>h h0,yn] at h |-
  by_cases h1:TOk t
  ·simp only[show ¬ ¬ TOk t from fun h=>h h1,yn] at h |-
   by_cases h2:hasP t.D m.C m.E=true
   ·simp only[show ¬ ¬ hasP t.D m.C m.E=true from fun h=>h h2,yn] at h |-
    by_cases h3:1<=m.Y/\m.Y<=t.M
    ·simp only[show ¬ ¬ (1<=m.Y/\m.Y<=t.M) from fun h=>h h3,yn] at h |-
     by_cases h4:(0<=m.N/\m.N<=nth (potAt t m.C m.E).A m.Y)/\tot m.T
     ·simp only[show ¬ ¬ ((0<=m.N/\m.N<=nth (potAt t m.C m.E).A m.Y)/\tot m.T) from fun h=>h h4,yn] at h |-
      have hp:=h1.potAt h2
      have hcy:=potAt_cy h2
      obtain⟨g1,g2,g3,⟨r1,r2,r3,r4⟩,⟨o1,o2⟩,g6⟩:=hp
      have a1:=nth_tot r2 h3
      have a2:=nth_tot r1 h3
      have l1:=r1.1
      have l2:=r2.1
      unfold tot at a1 a2
      have hle:nth (potAt t m.C m.E).J m.Y<=nth (potAt t m.C m.E).A m.Y:=o1 _ om
      refine⟨h1,z63 h1 h2 (p:=withH (potAt t m.C m.E) (upd (potAt t m.C m.E).J m.Y (max (nth (potAt t m.C m.E).J m.Y) m.N)) (upd (potAt t m.C m.E).T m.Y m.T))
       ⟨g1,g2,g3,⟨r1,zea r2 ⟨om,om⟩,r3,zea r4 h4.2⟩,⟨fun i hi=>?_,o2⟩,g6⟩ hcy.1 hcy.2⟩
      have hi':i<(potAt t m.C m.E).J.length:=by have:i<(potAt t m.C m.E).A.length:=hi; omega
      show (upd (potAt t m.C m.E).J m.Y _).getD i default<=(potAt t m.C m.E).A.getD i default
      rw[upd_get hi']
      split
      ·rename_i e
       subst e
       show max (nth (potAt t m.C m.E).J m.Y) m.N<=nth (potAt t m.C m.E).A m.Y
       omega
      ·exact o1 i hi
     ·simp only[h4,yd,yz] at h; cases h
    ·simp only[h3,yd,yz] at h; cases h
   ·simp only[h2,yd,yz,yp] at h; cases h
  ·simp only[h1,yd,yz] at h; cases h
 ·rw[y6 (show m.To≠0 from h0)] at h; cases h
theorem ins_ok (h:TOk t) (hr:PotOk t.M r) (hn:¬ hasP t.D r.C r.E=true) (hl:t.D.length≠60):TOk ⟨t.M,insL t.D (posP t.D r) r⟩:=by
 have hp:=posP_le t.D r
 have l0:=h.2.1
 refine⟨h.1,by show (insL t.D (posP t.D r) r).length<=60; rw[zo]; omega,fun i hi=>?_⟩
 have hi':i<t.D.length+1:=by have:i<(insL t.D (posP t.D r) r).length:=hi; rwa [zo] at this
 show PotOk t.M ((insL t.D (posP t.D r) r).getD i default)/\(0<i->cmpP ((insL t.D (posP t.D r) r).getD (i-1) default) ((insL t.D (posP t.D r) r).getD i default)<0)
 rw[z1h hp,z1h hp]
 by_cases c1:i<posP t.D r
 ·rw[y6 c1,y6 (show i-1<posP t.D r from om)]
  exact h.2.2 i om
 ·by_cases c2:i=posP t.D r
  ·rw[y5 c1,y6 c2]
   refine⟨hr,fun h0=>?_⟩
   rw[y6 (show i-1<posP t.D r from om)]
   exact zb8 om
  ·rw[y5 c1,y5 c2]
   have hi2:i-1<t.D.length:=om
   refine⟨(h.2.2 (i-1) hi2).1,fun h0=>?_⟩
   by_cases c3:i-1=posP t.D r
   ·rw[y5 (show ¬ i-1<posP t.D r from om),y6 c3]
    have hg:=(h.good _ (z7 hi2)).1
    have h1:0<=cmpP (t.D.getD (i-1) default) r:=by rw[c3]; exact zb9 om
    have h2:cmpP (t.D.getD (i-1) default) r≠0:=fun e=>hn (has_iff.2 ⟨_,z7 hi2,(cmpP_eq hg hr.1).1 e⟩)
    rw[znj hg]
    omega
   ·rw[y5 (show ¬ i-1<posP t.D r from om),y5 c3]
    exact (h.2.2 (i-1) hi2).2 om
theorem newP_ok (hn:1<=n) (hc:good c=true) (hy:0<=y/\y<=99) (hx:-1000000000000000<=x/\x<=1000000000000000):PotOk n (newP n c y x):=by
 have hz:=znm (n:=n) om
 refine⟨hc,hy,hx,⟨hz,hz,hz,hz⟩,⟨fun i _=>y1e _,fun i _=>y1e _⟩,?_⟩
 have:=z4q (l:=zeros n) hz.2
 have e:(zeros n).sum=0:=by simp[zeros]
 show (zeros n).sum<=_
 omega
theorem set_ok (h:(setM t c y x).2=0):TOk t/\TOk (setM t c y x).1:=by
 unfold setM at h |-
 by_cases h1:TOk t
 ·simp only[show ¬ ¬ TOk t from fun h=>h h1,yn] at h |-
  by_cases h2:good c=true
  ·simp only[show ¬ ¬ good c=true from fun h=>h h2,yn] at h |-
   by_cases h3:(0<=y/\y<=99)/\-1000000000000000<=x/\x<=1000000000000000
   ·simp only[show ¬ ¬ ((0<=y/\y<=99)/\-1000000000000000<=x/\x<=1000000000000000) from fun h=>h h3,yn] at h |-
    by_cases h5:hasP t.D c y=true
    ·rw[y6 h5]
     have hcy:=potAt_cy h5
     obtain⟨g1,g2,g3,g4,g5,g6⟩:=h1.potAt h5
     exact⟨h1,z63 h1 h5 (p:=withT (potAt t c y) x) ⟨g1,g2,h3.2,g4,g5,g6⟩ hcy.1 hcy.2⟩
    ·rw[y5 h5] at h |-
     by_cases h6:t.D.length=60
     ·rw[y6 h6] at h; cases h
     ·rw[y5 h6]
      exact⟨h1,ins_ok h1 (newP_ok h1.1.1 h2 h3.1 h3.2) h5 h6⟩
   ·rw[y6 h3] at h; cases h
  ·rw[y6 (show ¬ good c=true from h2)] at h; cases h
 ·rw[y6 h1] at h; cases h
theorem sum_addN {G a:List Int} (hl:a.length=G.length):(addN G a a.length).sum=G.sum+a.sum:=by
 have e:addN G a a.length=List.zipWith (· + ·) G a:=zcf (by simp[addN_length]; omega) fun j hj=>by
  have hj':j<G.length:=by simpa [addN_length] using hj
  rw[addN_get hj',y6 om,z2b (show j<(List.zipWith (· + ·) G a).length by rw[List.length_zipWith]; omega),List.getElem_zipWith,z2b hj',z2b om]
 rw[e]
 clear e
 induction G generalizing a with
 | nil=>cases a with | nil=>rfl | cons _ _=>simp at hl
 | cons x G ih=>cases a with
  | nil=>simp at hl
  | cons z a =>
   simp only[List.zipWith_cons_cons,y37]
   rw[ih (by simpa using hl)]
   omega
theorem zl1 {l:List Int} (h:∀ x∈l,0<=x):∀ x∈l,x<=l.sum:=by
 induction l with
 | nil=>simp
 | cons z l ih =>
  have h0:0<=l.sum:=by
   clear ih
   induction l with
   | nil=>simp
   | cons w l ih2 =>
    have:=h w sj
    have:=ih2 fun x hx=>h x (by rcases y16.1 hx with e | e <;> simp[e])
    simp only[y37]; omega
  intro x hx
  have hz:=h z sj
  simp only[y37]
  rcases y16.1 hx with rfl | hx
  ·omega
  ·have:=ih (fun y hy=>h y (by simp[hy])) x hx
   omega
theorem give_ok {p:TPo} (h:PotOk n p) {a:List Int} (ha:∀ x∈a,tot x) (hl:a.length=p.A.length) (h0:(giveV p.V p a).1=0) :
  (giveV p.V p a).2=addN p.A a a.length/\PotOk n (withG p (giveV p.V p a).2)/\a.sum<=p.V-outV p:=by
 unfold giveV at h0 |-
 by_cases c1:p.V-outV p<a.sum
 ·rw[y6 c1] at h0; cases h0
 ·rw[y5 c1] at h0 |-
  by_cases c2:1000000000000000<p.A.sum+a.sum
  ·rw[y6 c2] at h0; cases h0
  ·rw[y5 c2]
   obtain⟨g1,g2,g3,⟨r1,r2,r3,r4⟩,⟨o1,o2⟩,g6⟩:=h
   have hs:=sum_addN (G:=p.A) hl
   have hge:∀ j,j<p.A.length->p.A.getD j default<=(addN p.A a a.length).getD j default/\0<=(addN p.A a a.length).getD j default:=fun j hj=>by
    have t1:=r1.2 _ (z7 hj)
    have t2:=ha _ (z7 (show j<a.length from om))
    unfold tot at t1 t2
    rw[addN_get hj,y6 om]
    omega
   have hpos:∀ x∈addN p.A a a.length,0<=x:=fun x hx=>by
    obtain⟨j,hj,rfl⟩:=z18 hx
    exact (hge j (by rwa [addN_length] at hj)).2
   refine⟨rfl,⟨g1,g2,g3,⟨⟨by show ((addN p.A a a.length).length:Int)=n; rw[addN_length]; exact r1.1,fun x hx=>⟨hpos x hx,?_⟩⟩,r2,r3,r4⟩,⟨fun i hi=>?_,fun i hi=>?_⟩,?_⟩,om⟩
   ·have:=zl1 hpos x hx
    omega
   ·have hi':i<p.A.length:=by have:i<(addN p.A a a.length).length:=hi; rwa [addN_length] at this
    exact y31 (o1 i hi') (hge i hi').1
   ·have hi':i<p.A.length:=by have:i<(addN p.A a a.length).length:=hi; rwa [addN_length] at this
    exact y31 (o2 i hi') (hge i hi').1
   ·show (addN p.A a a.length).sum<=_
    omega
theorem grant_ok (h:(grantM t k c y x).2=0):TOk t/\TOk (grantM t k c y x).1:=by
 unfold grantM at h |-
 by_cases h1:TOk t
 ·simp only[show ¬ ¬ TOk t from fun h=>h h1,yn] at h |-
  by_cases h2:hasP t.D c y=true
  ·simp only[show ¬ ¬ hasP t.D c y=true from fun h=>h h2,yn] at h |-
   by_cases h3:1<=k/\k<=t.M
   ·simp only[show ¬ ¬ (1<=k/\k<=t.M) from fun h=>h h3,yn] at h |-
    by_cases h4:1<=x/\x<=1000000000000000
    ·simp only[show ¬ ¬ (1<=x/\x<=1000000000000000) from fun h=>h h4,yn] at h |-
     by_cases h5:(giveV (potAt t c y).V (potAt t c y) (oneHot (potAt t c y).A.length (k-1).toNat x)).1=0
     ·rw[y5 (show ¬ _≠_ from fun h=>h h5)]
      have hcy:=potAt_cy h2
      exact⟨h1,z63 h1 h2 (give_ok (h1.potAt h2) (oneHot_tot h4) oneHot_length h5).2.1 hcy.1 hcy.2⟩
     ·rw[y6 h5] at h; exact absurd h h5
    ·simp only[h4,yd,yz] at h; cases h
   ·simp only[h3,yd,yz] at h; cases h
  ·simp only[h2,yd,yz,yp] at h; cases h
 ·simp only[h1,yd,yz] at h; cases h
theorem zt (gs:List Prop) (x d:α) [Decidable (AllP gs)]:optD gs (some x) d=some (if AllP gs then x else d):=by
 unfold optD
 by_cases h:AllP gs
 ·rw[y6 h,y6 h]
 ·rw[y5 h,y5 h]
theorem z7p {gs:List Prop} {x:Option α} {y d:α} [Decidable (AllP gs)] (h:AllP gs->x=some y):optD gs x d=some (if AllP gs then y else d):=by
 by_cases hg:AllP gs
 ·rw[y6 hg,zf hg,h hg]
 ·rw[y5 hg,zq hg]
theorem z1c (a x d:Bool) [Decidable (AllP [a=false])]:(a||!(if AllP [a=false] then x else d))=(a||!x):=by
 cases a <;> simp[AllP]
theorem zh2 (a:Bool) (x d y:Int) [Decidable (AllP [a=false])]:(a||((if AllP [a=false] then x else d) != y))=(a||(x != y)):=by
 cases a <;> simp[AllP]
theorem z3l (a x d:Bool) [Decidable (AllP [a=true])]:(a&&(if AllP [a=true] then x else d))=(a&&x):=by
 cases a <;> simp[AllP]
theorem zdz (a:Bool) (x d y:Int) [Decidable (AllP [a=true])]:(a&&((if AllP [a=true] then x else d)==y))=(a&&(x==y)):=by
 cases a <;> simp[AllP]
theorem st {c:Bool} {P:Prop} {_:Decidable P} {x y:Option α} {a b:α} (h:c=true↔P) (hx:P->x=some a) (hy:¬ P->y=some b):(if c=true then x else y)=some (if P then a else b):=by
 by_cases hp:P
 ·rw[y6 (h.mpr hp),y6 hp,hx hp]
 ·rw[y5 (fun hc=>hp (h.mp hc)),y5 hp,hy hp]
def RtOk (r:TRi):Prop:=good r.C=true/\(0<=r.E/\r.E<=99)/\(0<=r.A/\r.A<=1000000000000000)/\(0<=r.I/\r.I<=1000000000000000)/\(0<=r.N/\r.N<=r.A)
instance (r:TRi):Decidable (RtOk r):=inferInstanceAs (Decidable (_/\_))
theorem z25 {r:TRi} (h:r.C.length<=1000000):F_q2m r=some (decide (RtOk r)):=by
 open Classical in simp only[F_q2m,S_q2m,F_q2a,S_q2a,Scr.den,z2r (show r.C.length<=1099511627776 from om),zy,z3h,zt,obind,zb,z3l]
 refine yk some ?_
 have e:decide (((parts r.C).length:Int)>0)=good r.C:=by rw[<- z2m]; rw[y1k]; simp
 rw[e,y1k]
 simp only[RtOk,yl,y7,and_assoc]
def noR:TRi:=⟨[],0,0,0,0⟩
def learnS (r:TRi) (m:TMe):TRi×Int :=
 if ¬ (RtOk r/\m.Y=0/\m.C=r.C/\m.E=r.E) then (noR,1) else
 if ¬ (tot m.A/\tot m.I) then (noR,2) else
 (⟨r.C,r.E,if m.A>r.A then m.A else r.A,if m.I>r.I then m.I else r.I,r.N⟩,0)
def returnS (r:TRi) (u n:Int):TRi×Int :=
 if ¬ (RtOk r/\(0<=u/\u<=i64.wrap (r.A-r.N))) then (noR,1) else
 if ¬ (1<=n/\n<=1000000000000000) then (noR,2) else
 if n>i64.wrap (i64.wrap (r.A-r.N)-u) then (noR,15) else
 (⟨r.C,r.E,r.A,r.I,i64.wrap (r.N+n)⟩,0)
theorem z4j (n:Int):F_q1b n=some (decide (tot n)):=z88 n
theorem z7s {r:TRi} (h:r.C.length<=1000000) (m:TMe):F_q32 r m=some (learnS r m):=by
 open Classical in simp only[F_q32,S_q32,Scr.den,z25 h,z4j,zt,obind,z8,z1c]
 unfold learnS
 refine st (by by_cases hR:RtOk r <;> by_cases h2:m.Y=0 <;> by_cases h3:m.C=r.C <;> by_cases h4:m.E=r.E <;> simp[hR,h2,h3,h4]) (fun _=>rfl) fun _=>?_
 refine st (by by_cases h2:tot m.A <;> by_cases h3:tot m.I <;> simp[h2,h3]) (fun _=>rfl) fun _=>rfl
theorem z78 {r:TRi} (h:r.C.length<=1000000) (u n:Int):F_q34 r u n=some (returnS r u n):=by
 open Classical in simp only[F_q34,S_q34,Scr.den,z25 h,zy,zt,obind,z8,z1c]
 unfold returnS
 refine st (by by_cases h2:RtOk r <;> by_cases h3:0<=u/\u<=i64.wrap (r.A-r.N) <;> simp[h2,h3]) (fun _=>rfl) fun _=>?_
 refine st (by simp only[yg,y9]) (fun _=>rfl) fun _=>?_
 refine st (by simp only[y7]) (fun _=>rfl) fun _=>rfl
def wantedS (r:TRi) (u:Int):Int :=
 if RtOk r/\(0<=u/\u<=r.A-r.N) then (if r.A-u<r.I then (if r.A-u-r.N>0 then r.A-u-r.N else 0) else (if r.I-r.N>0 then r.I-r.N else 0)) else 0
theorem wn2 (h:x=y):(if x>0 then x else 0)=(if y>0 then y else 0):=by rw[h]
def TapeOk (s:TTape):Prop:=0<=s.at_/\s.l.length<=500/\s.at_<=s.l.length
theorem z96 (t:List Int):∃ s,F_q2k t=some s/\TapeOk s:=by
 simp only[F_q2k,S_q2k,Scr.den]
 refine⟨_,za6 ⟨?_,?_,trivial⟩ rfl,sj,?_,sj⟩
 ·split <;> omega
 ·split <;> omega
 ·simp only[y1f]
  split <;> omega
variable {s:TTape}
theorem z28 (hs:TapeOk s) (h1:1<=n) (hn:n<=4611686018427387904):∃ v s',F_q5 n s=some (v,s')/\TapeOk s'/\0<=v/\v<n:=by
 obtain⟨a1,a2,a3⟩:=hs
 simp only[F_q5,S_q5,Scr.den]
 by_cases hc:s.at_>=(s.l.length:Int)
 ·rw[y6 (by simp[hc])]
  exact⟨0,s,rfl,⟨a1,a2,a3⟩,om,om⟩
 ·rw[y5 sk]
  have e1:i64.wrap (s.at_+1)=s.at_+1:=wrapId om om
  rw[e1,z6 ⟨om,om,om,trivial⟩]
  generalize s.l.getD s.at_.toNat default=x
  have t1:x.tmod n<n:=Int.tmod_lt_of_pos x om
  have t2:-n<x.tmod n:=Int.lt_tmod_of_pos x om
  have e3:i64.wrap (x.tmod n+n)=x.tmod n+n:=wrapId om om
  rw[e3]
  have ht:TapeOk ⟨s.l,s.at_+1⟩:=⟨by simp only; omega,a2,by simp only; omega⟩
  split
  ·rename_i h
   simp only[y7] at h
   exact⟨_,_,rfl,ht,om,om⟩
  ·rename_i h
   simp only[y7] at h
   exact⟨_,_,rfl,ht,om,om⟩
theorem z1v {lo hi:Int} (hs:TapeOk s) (h0:-1000000000000000<=lo) (h1:lo<=hi) (h2:hi<=1000000000000000):∃ v s',F_ql lo hi s=some (v,s')/\TapeOk s'/\lo<=v/\v<=hi:=by
 simp only[F_ql,S_ql,Scr.den]
 rw[wrapId (n:=hi-lo) om om,wrapId (n:=hi-lo+1) om om]
 obtain⟨v,s',h3,h4,h5,h6⟩:=z28 (n:=hi-lo+1) hs om om
 refine⟨lo+v,s',?_,h4,om,om⟩
 rw[h3,obind]
 simp only
 rw[wrapId (n:=lo+v) om om]
theorem z32 {l:List Int} (hs:TapeOk s) (h0:1<=l.length) (h1:l.length<=100):∃ v s',F_qu l s=some (v,s')/\TapeOk s'/\v∈l:=by
 simp only[F_qu,S_qu,Scr.den]
 obtain⟨v,s',h3,h4,h5,h6⟩:=z28 (n:=(l.length:Int)) hs om om
 refine⟨_,s',?_,h4,z7 (show v.toNat<l.length from om)⟩
 rw[h3,obind,z6 ⟨by simpa using h5,by simp only; omega,trivial⟩]
theorem zai (hs:TapeOk s):∃ c s',F_q2w s=some (c,s')/\TapeOk s'/\c.length<=60/\good c=true:=by
 simp only[F_q2w,S_q2w,Scr.den]
 obtain⟨v,s',h3,h4,h5,h6⟩:=z28 (n:=3) hs om om
 have h:∀ c∈([[49],[49,46,50],[50]]:List (List UInt8)),c.length<=60/\good c=true:=dk
 refine⟨_,s',?_,h4,h _ (z7 (show v.toNat<3 from om))⟩
 rw[h3,obind,z6 ⟨by simpa using h5,by simp only; omega,trivial⟩]
end Go.Proofs.YtdmddkbngmhepaaGreatDoor.J13
namespace Go.Proofs.YtdmddkbngmhepaaGreatDoor
open Go Go.TA
open Go.IntKind (i64)
def jAt (w:TWo) (k:Nat):TJo:=w.O.getD k default
def nthN (l:List Int) (k:Nat):Int:=l.getD k default
def KnownJ (t:TTr) (a b:TOf) (k:Nat):Prop :=
 (∀ r∈a.H,J13.hasP t.D r.C r.E=true/\r.A<=nthN (J13.potAt t r.C r.E).A k/\r.I<=nthN (J13.potAt t r.C r.E).I k) /\
 ∀ p∈t.D,nthN p.J k<=(rightV b.H p.C p.E).N
def ToOk (t:TTr) (m:TMe):Prop:=(1<=m.To/\m.To<=t.M)/\(0<=m.A/\m.A<=nthN (J13.potAt t m.C m.E).A (m.To-1).toNat)/\(0<=m.I/\m.I<=nthN (J13.potAt t m.C m.E).I (m.To-1).toNat)/\m.N=0/\m.T=0
def FromOk (t:TTr) (st:Nat->TOf) (m:TMe):Prop:=(1<=m.Y/\m.Y<=t.M)/\m.To=0/\(0<=m.N/\m.N<=(rightV (st (m.Y-1).toNat).H m.C m.E).N)/\(0<=m.T/\m.T<=1000000000000000)/\m.A=0/\m.I=0
def MsgOk (t:TTr) (st:Nat->TOf) (m:TMe):Prop:=J13.hasP t.D m.C m.E=true/\((m.Y=0/\ToOk t m)\/(m.Y≠0/\FromOk t st m))
noncomputable def stW (w:TWo) (k:Nat):TOf:=stbJ (jAt w k)
noncomputable def noW (w:TWo) (k:Nat):TOf:=nowJ (jAt w k)
def VW (w:TWo):Prop:=J13.TOk w.K/\(w.O.length:Int)=w.K.M/\w.W.length<=200 /\
 (∀ k,k<w.O.length->VJ (jAt w k)/\(jAt w k).Z=(k:Int)+1/\KnownJ w.K (noW w k) (stW w k) k)/\∀ m∈w.W,MsgOk w.K (stW w) m
theorem zeb:∀ {l:List TOp} {o:TOf},Runs o l->(runO o l).L=o.L
 | [],_,_=>rfl
 | p :: l,o,h=>by
  show (runO (doS o p).1 l).L=_
  rw[zeb h.2,(zsn h.1.2)]
variable {t:TTr}
theorem znn (h:J13.TOk t):J13.Small t:=fun p hp=>by
 have:=J13.PGood.len (h.good p hp)
 exact this
variable {w:TWo}
theorem VW.small (h:VW w):J13.Small w.K:=znn h.1
theorem VW.len (h:VW w):1<=w.O.length/\w.O.length<=6:=by
 have h1:=h.1.1
 have h2:=h.2.1
 omega
variable {j:TJo}
theorem zrh (h:VJ j):(nowJ j).L=j.Z:=zeb h.2.2.2
theorem zri (h:VJ j):(stbJ j).L=j.Z:=zeb (z3p h.2.2.2 _)
variable {α:Type}
def ups (n:Nat) (f:Nat->α):List α:=(List.range n).map f
variable {n:Nat} {f:Nat->α}
theorem z17:(ups n f).length=n:=by simp[ups]
variable {i:Nat}
theorem z5h [Inhabited α] (h:i<n):(ups n f).getD i default=f i:=by simp[ups,List.getD_eq_getElem?_getD,h]
theorem z7c:ups (n+1) f=ups n f++[f n]:=by simp[ups,List.range_succ]
theorem zap (h:VW w):F_qy w=some (ups w.O.length (noW w),ups w.O.length (stW w),true):=by
 have hl:=h.len
 simp only[F_qy,S_qy,Scr.den]
 obtain⟨s,e,hs⟩:=zi (body:=fun i s=>(S_qy_b1 w i s).den) (n:=w.O.length) (fun i s=>s=(ups i (noW w),ups i (stW w))) (s0:=(([]:List TOf),([]:List TOf))) rfl (fun i s hi hI=>by
  subst hI
  obtain⟨h1,h2,_⟩:=h.2.2.2.1 i hi
  simp only[S_qy_b1,Scr.den]
  rw[show w.O.getD i default=jAt w i from rfl,z6d h1]
  simp only[obind]
  rw[zbx h1]
  simp only[obind,z8]
  rw[h2,wrapId (n:=(i:Int)+1) om om,y5 sj,z6 ⟨by rw[z17]; omega,by rw[z17]; omega,trivial⟩]
  exact⟨_,rfl,by rw[z7c,z7c]; rfl⟩)
 rw[e,hs]
 simp only[zl]
 rw[z6 ⟨by rw[z17]; omega,trivial⟩,z6 ⟨by rw[z17]; omega,trivial⟩]
variable {c:List UInt8} {y:Int}
theorem z5i (h:J13.hasP t.D c y=true):J13.potM t c y=(J13.potAt t c y,true):=y6 h
variable {k:Nat} {a b:TOf}
theorem zpd (ht:J13.TOk t) (hk:(k:Int)<t.M) (hn:a.L=(k:Int)+1) (h:KnownJ t a b k):F_qo t a b=some true:=by
 have h6:=ht.1
 have ew:i64.wrap (a.L-1)=(k:Int):=by rw[hn,wrapId om om]; omega
 simp only[F_qo,S_qo,Scr.den]
 obtain⟨u,e,_⟩:=zi (body:=fun i s=>(S_qo_b1 t a i s).den) (n:=a.H.length) (fun _ _=>True) (s0:=()) trivial (fun i u hi _=>by
  obtain⟨h1,h2,h3⟩:=h.1 _ (z7 hi)
  have hp:=ht.potAt h1
  have hg:=hp.2.2.2.1.1.1
  have ha:=hp.2.2.2.1.2.2.1.1
  simp only[S_qo_b1,Scr.den,J13.Pot_eq ht.small,z5i h1,obind,z8,ew,yh]
  unfold nthN at h2 h3
  rw[z6 ⟨fun _=>om,fun _=>om,fun _=>om,fun _=>om,trivial⟩,y5 (by simp only[y2r,yc,yp,false_or,y7]; omega)]
  exact⟨(),rfl,trivial⟩)
 rw[e]
 simp only[zl]
 obtain⟨u,e,_⟩:=zi (body:=fun i s=>(S_qo_b2 t a b i s).den) (n:=t.D.length) (fun _ _=>True) (s0:=()) trivial (fun i u hi _=>by
  have h1:=h.2 _ (z7 hi)
  have hp:=(ht.2.2 i hi).1
  have hh:=hp.2.2.2.1.2.1.1
  simp only[S_qo_b2,Scr.den,z4i,obind,ew,yh]
  unfold nthN at h1
  rw[z6 ⟨om,om,trivial⟩,y5 (by simp only[y7]; omega)]
  exact⟨(),rfl,trivial⟩)
 rw[e]
 rfl
theorem z64 (n a b:Int):F_q11 n a b=some (decide (a<=n/\n<=b)):=by
 simp only[F_q11,S_q11,Scr.den,zb]
 congr 1
 rw[y1k]; simp
variable {m:TMe}
theorem zl2 (ht:J13.TOk t) {f:Nat->TOf} (hn:(n:Int)=t.M) (h:MsgOk t f m):F_q5s t (ups n f) m=some true:=by
 have h6:=ht.1
 obtain⟨h1,h2⟩:=h
 have hp:=ht.potAt h1
 have hg:=hp.2.2.2.1.1.1
 have ha:=hp.2.2.2.1.2.2.1.1
 simp only[F_q5s,S_q5s,Scr.den,J13.Pot_eq ht.small,z5i h1,obind,z64,zb]
 rw[y5 dk]
 rcases h2 with ⟨h0,q1,q2,q3,q4,q5⟩ | ⟨h0,q1,q2,q3,q4,q5,q6⟩
 ·unfold nthN at q2 q3
  have ew:i64.wrap (m.To-1)=m.To-1:=wrapId om om
  rw[y6 (by simp[h0]),ew,ye q1,zf (by simp[AllP]),ye q2]
  simp only[obind]
  rw[zf (by simp[AllP]),ye q3]
  simp only[obind]
  rw[z6 ⟨fun _=>om,fun _=>om,fun _=>om,fun _=>om,trivial⟩,q4,q5]
  rfl
 ·have ew:i64.wrap (m.Y-1)=m.Y-1:=wrapId om om
  rw[y5 (by simpa using h0),ew,ye q1,q2,z5h (show (m.Y-1).toNat<n from om),z4i,zf (by simp[AllP])]
  simp only[obind]
  rw[zf (by simp[AllP]),ye q3]
  simp only[obind]
  rw[zf (by simp[AllP]),ye q4]
  simp only[obind]
  rw[z6 ⟨fun _=>om,fun _=>by rw[z17]; omega,trivial⟩,q5,q6]
  rfl
theorem z4d (h:VW w):F_q15 w=some true:=by
 have hl:=h.len
 have hst:=zap h
 have hw:=h
 obtain⟨h1,h2,h3,h4,h5⟩:=h
 simp only[F_q15,S_q15,Scr.den,J13.Valid_eq hw.small,obind,z8]
 rw[ye h1,y5 (by simp[h2]; omega),hst]
 simp only[obind]
 rw[y5 dk]
 obtain⟨u,e,_⟩:=zi (body:=fun i s=>(S_q15_b1 w (ups w.O.length (noW w),ups w.O.length (stW w),true) i s).den) (n:=(ups w.O.length (noW w)).length) (fun _ _=>True) (s0:=()) trivial (fun i u hi _=>by
  rw[z17] at hi
  obtain⟨q1,q2,q3⟩:=h4 i hi
  simp only[S_q15_b1,Scr.den]
  rw[z5h hi,z5h hi,zpd h1 om (show (noW w i).L=_ from (zrh q1).trans q2) q3]
  simp only[obind]
  rw[z6 ⟨by rw[z17]; exact hi,trivial⟩,y5 dk]
  exact⟨(),rfl,trivial⟩)
 rw[e]
 simp only[zl]
 have hx:F_q2g w.W w (ups w.O.length (stW w))=some (-1):=by
  simp only[F_q2g,S_q2g,Scr.den]
  obtain⟨u,e,_⟩:=zi (body:=fun i s=>(S_q2g_b1 w.W w (ups w.O.length (stW w)) i s).den) (n:=w.W.length) (fun _ _=>True) (s0:=()) trivial (fun i u hi _=>by
   simp only[S_q2g_b1,F_q6u,S_q6u,Scr.den]
   rw[zl2 h1 h2 (h5 _ (z7 hi))]
   simp only[obind]
   rw[y5 dk]
   exact⟨(),rfl,trivial⟩)
  rw[e]
  rfl
 simp only[F_q6v,S_q6v,Scr.den,hx,obind]
 rfl
theorem zba (h:VJ j):F_qr j=some (nowJ j,stbJ j,true):=by
 obtain⟨h1,h2,h3,h4⟩:=h
 have hn:F_q3g j.Z=some (newO j.Z,0):=by
  rw[zkt,y5 om]
  rfl
 simp only[F_qr,S_qr,Scr.den,hn,obind,z8]
 rw[y5 sk]
 obtain⟨s,e,hs⟩:=zi (body:=fun i s=>(S_qr_b1 j i s).den) (n:=j.Ad.length) (fun i s=>s=(runO (newO j.Z) (j.Ad.take i),runO (newO j.Z) (j.Ad.take (min i j.Ag.toNat)),(0:Int))) (s0:=(newO j.Z,newO j.Z,(0:Int))) (by simp; rfl) (fun i s hi hI=>by
  subst hI
  obtain⟨q1,q2⟩:=zjp h4 hi
  have hv:=z8i (z6m h1) (z3p h4 i)
  have hl:=q1.len
  simp only[S_qr_b1,Scr.den,z8]
  rw[zf (by simp[AllP]),zam om,@decide_eq_true _ (_) q1]
  simp only[obind]
  rw[y5 sj,zf7 hv.smO om]
  simp only[obind]
  have e1:runO (newO j.Z) (j.Ad.take (i+1))=(doS (runO (newO j.Z) (j.Ad.take i)) (j.Ad.getD i default)).1:=by rw[zfa hi,zan]
  by_cases c:(i:Int)<j.Ag
  ·rw[y6 (by simpa using c)]
   refine⟨_,rfl,?_⟩
   rw[show min (i+1) j.Ag.toNat=i+1 from om,e1,q2]
  ·rw[y5 (by simpa using c)]
   refine⟨_,rfl,?_⟩
   rw[show min (i+1) j.Ag.toNat=min i j.Ag.toNat from om,e1,q2])
 rw[e,hs]
 simp only[zl]
 rw[y1x (yf _),show min j.Ad.length j.Ag.toNat=j.Ag.toNat from om]
 rfl
theorem z7d (h:VJ j):F_q3k j=some (nowJ j,0):=by
 simp only[F_q3k,S_q3k,Scr.den,zba h,obind]
 rfl
theorem zg0 (h:VJ j):F_q55 j=some (stbJ j,0):=by
 simp only[F_q55,S_q55,Scr.den,zba h,obind]
 rfl
theorem zaq (h:VJ j):F_q40 j=some true:=by
 simp only[F_q40,S_q40,Scr.den,zba h,obind]
theorem zhq (h:VJ j):F_q53 j=some (flushJ j):=by
 simp only[F_q53,S_q53,Scr.den,zaq h,obind,yz,zl]
 rfl
theorem zhr (h:VJ j):F_q54 j=some (crashJ j):=by
 have hl:=h.2.1
 have hf:=h.2.2.1
 simp only[F_q54,S_q54,Scr.den,zaq h,obind,yz]
 rw[z6 ⟨hf.1,om,by rw[y1f]; omega,trivial⟩]
 rfl
theorem z9s (h:VJ j) {p:TOp} (hc:p.C.length<=1000000):F_q41 j p=some (appendS j p):=by
 have hv:=h.now
 simp only[F_q41,S_q41,Scr.den,z7d h,obind]
 rw[zf (by simp[AllP]),zam hc]
 simp only[obind,z8]
 by_cases hp:POp p
 ·rw[@decide_eq_true _ (_) hp,y5 sj,zf7 hv.smO hc]
  simp only[obind]
  by_cases h0:(doS (nowJ j) p).2=0
  ·rw[y5 (by simp[h0])]
   by_cases hl:j.Ad.length=400
   ·rw[y6 (by simp[hl]),z3q hp h0 hl]
    rfl
   ·rw[y5 sk,z39 hp h0 hl]
    have:=h.2.1
    rw[z6 ⟨om,om,trivial⟩,z6 ⟨by rw[yo]; simp; omega,trivial⟩]
  ·rw[y6 (by simpa using h0),z48 hp h0]
   rfl
 ·rw[@decide_eq_false _ (_) hp,y6 sj,z47 hp]
  rfl
theorem z9f (t:TTr) (c:List UInt8) (y:Int):F_q3i t c y=some (J13.potM t c y):=by
 simp only[F_q3i,S_q3i,Scr.den,J13.at_eq,obind]
 unfold J13.potM
 by_cases h:J13.hasP t.D c y=true
 ·have hlt:=(J13.pix_lt h).1
  rw[y6 h,y6 h,y6 sj,yh,z6 ⟨om,hlt,trivial⟩]
  rfl
 ·rw[y5 h,y5 h,y5 dk]
theorem zec (ht:J13.TOk w.K) {f:Nat->TOf} (hn:(n:Int)=w.K.M) (h:MsgOk w.K f m):F_q4u w m (ups n f)=some true:=by
 have h6:=ht.1
 obtain⟨h1,h2⟩:=h
 have hp:=ht.potAt h1
 have hg:=hp.2.2.2.1.1.1
 have ha:=hp.2.2.2.1.2.2.1.1
 simp only[F_q4u,S_q4u,Scr.den,z9f,z5i h1,obind,zb,z8]
 rw[y5 dk]
 rcases h2 with ⟨h0,q1,q2,q3,q4,q5⟩ | ⟨h0,q1,q2,q3,q4,q5,q6⟩
 ·unfold nthN at q2 q3
  have ew:i64.wrap (m.To-1)=m.To-1:=wrapId om om
  rw[y6 (by simp[h0]),ew,y5 (by simp[q4,q5,z17]; omega),z6 ⟨fun _=>om,fun _=>om,fun _=>om,fun _=>om,trivial⟩]
  rw[ye q2.1,ye q2.2,ye q3.1,ye q3.2]
  rfl
 ·have ew:i64.wrap (m.Y-1)=m.Y-1:=wrapId om om
  rw[y5 (by simpa using h0),y5 (by simp[q2,q5,q6,z17]; omega),ew,yu,z5h (show (m.Y-1).toNat<n from om),z1z,zf (by simp[AllP]; omega)]
  simp only[obind]
  rw[z6 ⟨fun _=>om,fun _=>by rw[z17]; omega,fun _=>by rw[z17]; omega,trivial⟩,ye q3.1,ye q3.2]
  rfl
theorem z52 (h:VW w):F_q1 w=some true:=by
 have hl:=h.len
 have hw:=h
 obtain⟨h1,h2,h3,h4,h5⟩:=h
 have h6:=h1.1
 simp only[F_q1,S_q1,Scr.den,J13.r13_Valid_eq hw.small,obind,z8]
 rw[ye h1,y5 (by simp[h2]; omega)]
 obtain⟨s,e,hs⟩:=zi (body:=fun i s=>(S_q1_b3 w i s).den) (n:=w.O.length) (fun i s=>s=ups i (stW w)) (s0:=([]:List TOf)) rfl (fun i s hi hI=>by
  subst hI
  obtain⟨q1,q2,q3⟩:=h4 i hi
  simp only[S_q1_b3,Scr.den]
  rw[show w.O.getD i default=jAt w i from rfl,q2,wrapId (n:=(i:Int)+1) om om,y5 sj,zba q1]
  simp only[obind]
  rw[y5 dk,z6 ⟨by rw[z17]; omega,trivial⟩]
  obtain⟨u,e,_⟩:=zi (body:=fun k s=>(S_q1_b1 w i (nowJ (jAt w i),stbJ (jAt w i),true) k s).den) (n:=(nowJ (jAt w i)).H.length) (fun _ _=>True) (s0:=()) trivial (fun k u hk _=>by
   obtain⟨z1,z2,z3⟩:=q3.1 _ (z7 hk)
   have hp:=h1.potAt z1
   have hg:=hp.2.2.2.1.1.1
   have ha:=hp.2.2.2.1.2.2.1.1
   simp only[S_q1_b1,Scr.den,z9f]
   unfold nthN at z2 z3
   rw[show (nowJ (jAt w i)).H=(noW w i).H from rfl,z5i z1]
   simp only[obind,z8]
   rw[z6 ⟨fun _=>om,fun _=>om,trivial⟩,y5 (by simp only[y2r,yc,yp,false_or,y7]; omega)]
   exact⟨(),rfl,trivial⟩)
  rw[e]
  simp only[zl]
  obtain⟨u,e,_⟩:=zi (body:=fun k s=>(S_q1_b2 w i (nowJ (jAt w i),stbJ (jAt w i),true) k s).den) (n:=w.K.D.length) (fun _ _=>True) (s0:=()) trivial (fun k u hk _=>by
   have z1:=q3.2 _ (z7 hk)
   have hp:=(h1.2.2 k hk).1
   have hh:=hp.2.2.2.1.2.1.1
   simp only[S_q1_b2,Scr.den,z1z,obind]
   unfold nthN at z1
   rw[z6 ⟨om,trivial⟩,y5 (by simp only[y7]; exact y2q.2 z1)]
   exact⟨(),rfl,trivial⟩)
  rw[e]
  exact⟨_,rfl,by rw[z7c]; rfl⟩)
 rw[e,hs]
 simp only[zl]
 obtain⟨u,e,_⟩:=zi (body:=fun i s=>(S_q1_b4 w (ups w.O.length (stW w)) i s).den) (n:=w.W.length) (fun _ _=>True) (s0:=()) trivial (fun i u hi _=>by
  simp only[S_q1_b4,Scr.den]
  rw[zec h1 h2 (h5 _ (z7 hi))]
  simp only[obind]
  rw[y5 dk]
  exact⟨(),rfl,trivial⟩)
 rw[e]
 rfl
def zWd:TWo:=⟨⟨0,[]⟩,[],[]⟩
def sendS (w:TWo) (m:TMe) (e:Int):TWo×Int:=if e≠0 then (zWd,e) else if w.W.length=200 then (zWd,3) else (⟨w.K,w.O,w.W++[m]⟩,0)
def keepS (w:TWo) (k:Nat) (j:TJo) (e:Int):TWo×Int:=if e≠0 then (zWd,e) else (⟨w.K,w.O.set k j,w.W⟩,0)
def tresS (w:TWo) (r:TTr×Int):TWo×Int:=if r.2≠0 then (zWd,r.2) else (⟨r.1,w.O,w.W⟩,0)
def loseW (w:TWo) (i:Nat):TWo:=⟨w.K,w.O,w.W.eraseIdx i⟩
def hearOp (m:TMe):TOp:=⟨8,m.C,m.E,0,0,0,0,0,m.A,m.I⟩
noncomputable def actS (w:TWo) (s:TSt):TWo×Int :=
 if ¬ (1<=s.Z/\s.Z<=w.O.length) then (zWd,6) else
 if s.P=5 then (if s.Op.P=8 then (zWd,9) else keepS w (s.Z-1).toNat (appendS (jAt w (s.Z-1).toNat) s.Op).1 (appendS (jAt w (s.Z-1).toNat) s.Op).2) else
 if s.P=6 then keepS w (s.Z-1).toNat (flushJ (jAt w (s.Z-1).toNat)) 0 else
 if s.P=7 then keepS w (s.Z-1).toNat (crashJ (jAt w (s.Z-1).toNat)) 0 else
 sendS w (reportS (stW w (s.Z-1).toNat) s.C s.E).1 (reportS (stW w (s.Z-1).toNat) s.C s.E).2
def mAt (w:TWo) (i:Nat):TMe:=w.W.getD i default
noncomputable def delivS (w:TWo) (i:Nat):TWo×Int :=
 if (mAt w i).To=0 then (if (J13.hearM w.K (mAt w i)).2≠0 then (zWd,(J13.hearM w.K (mAt w i)).2) else (⟨(J13.hearM w.K (mAt w i)).1,w.O,w.W.eraseIdx i⟩,0)) else
 keepS (loseW w i) ((mAt w i).To-1).toNat (appendS (jAt w ((mAt w i).To-1).toNat) (hearOp (mAt w i))).1 (appendS (jAt w ((mAt w i).To-1).toNat) (hearOp (mAt w i))).2
noncomputable def mailS (w:TWo) (s:TSt):TWo×Int :=
 if ¬ (0<=s.Ai/\s.Ai<w.W.length) then (zWd,6) else if s.P=9 then delivS w s.Ai.toNat else if s.P=11 then sendS w (mAt w s.Ai.toNat) 0 else (loseW w s.Ai.toNat,0)
noncomputable def stepW (w:TWo) (s:TSt):TWo×Int :=
 if s.P=1 then tresS w (J13.setM w.K s.C s.E s.S) else
 if s.P=2 then tresS w (J13.grantM w.K s.Z s.C s.E s.S) else
 if s.P=3 then tresS w (J13.askM w.K s.Z s.C s.E s.S) else
 if s.P=4 then sendS w (J13.tellM w.K s.Z s.C s.E).1 (J13.tellM w.K s.Z s.C s.E).2 else
 if 5<=s.P/\s.P<=8 then actS w s else if 9<=s.P/\s.P<=11 then mailS w s else (zWd,1)
variable {e:Int}
theorem z3s (h:e≠0):sendS w m e=(zWd,e):=y6 h
theorem z41 (h:w.W.length=200):sendS w m 0=(zWd,3):=(y5 fun k=>k rfl).trans (y6 h)
theorem z3a (h:w.W.length≠200):sendS w m 0=(⟨w.K,w.O,w.W++[m]⟩,0):=(y5 fun k=>k rfl).trans (y5 h)
theorem z33 (h:e≠0):keepS w k j e=(zWd,e):=y6 h
theorem z1l:keepS w k j 0=(⟨w.K,w.O.set k j,w.W⟩,0):=y5 fun k=>k rfl
theorem zed (hl:w.W.length<=200) (m:TMe) (e:Int):F_q3t w m e=some (sendS w m e):=by
 simp only[F_q3t,S_q3t,Scr.den]
 by_cases h0:e=0
 ·subst h0
  rw[y5 sj]
  by_cases h2:w.W.length=200
  ·rw[y6 (by simp[h2]),z41 h2]
   rfl
  ·have e1:i64.wrap ((w.W.length:Int)+1)=((w.W.length+1:Nat):Int):=wrapId om om
   have e2:min w.W.length (List.replicate (w.W.length+1) ((⟨0,0,[],0,0,0,0,0⟩:TMe):TMe)).length=w.W.length:=by rw[y1w]; omega
   rw[y5 sk,z3a h2,e1,yh,e2,z6 ⟨om,om,trivial⟩,z6 ⟨by rw[y1w]; omega,by rw[zm,y1w]; omega,trivial⟩,z6 ⟨by rw[yb,zm,y1w]; omega,trivial⟩]
   congr 3
   refine y3b (by rw[yb,zm,y1w,yo]; rfl) fun i h1 h3=>?_
   rw[yb,zm,y1w] at h1
   rw[y3x]
   by_cases hi:i=w.W.length
   ·rw[y6 om]
    subst hi
    simp
   ·rw[y5 om,List.getElem_append_left om]
    simp only[copyL,y3l,y3d]
    rw[y6 om,Nat.sub_zero,z13 om]
 ·rw[y6 (by simpa using h0),z3s h0]
  rfl
theorem zno {l:List TJo} (hl:l.length<=1000000):F_q61 l=some l:=by
 simp only[F_q61,S_q61,Scr.den]
 rw[z6 ⟨om,trivial⟩]
theorem zbb (hl:w.O.length<=6) (hk:k<w.O.length) (hj:e=0->j.Z=(k:Int)+1):F_q3e w j e=some (keepS w k j e):=by
 simp only[F_q3e,S_q3e,Scr.den]
 by_cases h0:e=0
 ·have ew:i64.wrap (j.Z-1)=(k:Int):=by rw[hj h0,wrapId om om]; omega
  subst h0
  rw[y5 sj,z1l,zno om]
  simp only[obind,ew,yh,yu]
  rw[z6 ⟨om,hk,hk,trivial⟩,z6 ⟨by rw[yb]; omega,trivial⟩]
 ·rw[y6 (by simpa using h0),z33 h0]
  rfl
variable {l:List TMe}
theorem znp (hl:l.length<=1000000):F_q67 l=some l:=by
 simp only[F_q67,S_q67,Scr.den]
 rw[z6 ⟨om,trivial⟩]
theorem cloneM (hl:l.length<=1000000):F_q6b l=some l:=by
 simp only[F_q6b,S_q6b,Scr.den]
 rw[z6 ⟨om,trivial⟩]
theorem zl3 (hi:i<l.length) (hl:l.length<=1000000):F_q68 (i:Int) ((i:Int)+1) l=some (l.eraseIdx i):=by
 simp only[F_q68,S_q68,Scr.den]
 have e1:((i:Int)+1).toNat=i+1:=om
 simp only[e1,yh,Nat.sub_zero,yu]
 rw[z6 ⟨om,om,om,om,trivial⟩,y5 sk,z6 ⟨om,om,trivial⟩,z6 ⟨om,by rw[zm]; exact yf _,trivial⟩,
  z6 ⟨by rw[z1g,zm]; omega,trivial⟩,z6 ⟨by rw[z1g,zm]; omega,trivial⟩]
 congr 1
 refine y3b ?_ fun j h1 h2=>?_
 ·rw[y1f,z1g,zm,List.length_eraseIdx,y6 hi]
  omega
 ·rw[y1f,z1g,zm] at h1
  rw[List.getElem_take,List.getElem_eraseIdx]
  simp only[clearL,List.getElem_mapIdx,copyL,y3l,y3d]
  rw[y5 om]
  by_cases c:j<i
  ·rw[y5 om,y45 c,z13 om]
  ·rw[y6 om,dif_neg c,z13 om]
   congr 1
   omega
theorem zee (hl:w.W.length<=200) (hi:i<w.W.length):F_q3v w (i:Int)=some (loseW w i):=by
 simp only[F_q3v,S_q3v,Scr.den,znp (show w.W.length<=1000000 from om),obind]
 rw[wrapId (n:=(i:Int)+1) om om,zl3 hi om]
 rfl
theorem z6f {p:TOp} (h0:(appendS j p).2=0):(appendS j p).1.Z=j.Z:=by
 by_cases hp:POp p
 ·by_cases h1:(doS (nowJ j) p).2=0
  ·by_cases hl:j.Ad.length=400
   ·rw[z3q hp h1 hl] at h0; cases h0
   ·rw[z39 hp h1 hl]
  ·rw[z48 hp h1] at h0
   exact absurd h0 h1
 ·rw[z47 hp] at h0; cases h0
theorem VW.msgLen (h:VW w) (hm:m∈w.W):m.C.length<=1000000:=by
 have h1:=(h.2.2.2.2 m hm).1
 have h2:=h.1.potAt h1
 have h3:=z4h h2.1
 have h4:=(J13.potAt_cy h1).1
 rw[h4] at h3
 omega
theorem zl4 (h:VW w) (hi:i<w.W.length):F_q69 w (i:Int)=some (delivS w i):=by
 have hl:=h.len
 have hm:=h.2.2.1
 have hml:=h.msgLen (z7 hi)
 have hmo:=(h.2.2.2.2 _ (z7 hi)).2
 have h2:=h.2.1
 simp only[F_q69,S_q69,Scr.den,yh]
 rw[z6 ⟨om,hi,trivial⟩]
 unfold delivS mAt
 generalize w.W.getD i default=m at hml hmo
 by_cases h0:m.To=0
 ·refine y1m ?_ (yk some (y6 h0).symm)
  rw[y6 (by simp[h0]),J13.Hear_eq h.small]
  simp only[obind]
  by_cases h1:(J13.hearM w.K m).2=0
  ·refine y1m ?_ (yk some (y5 (fun k=>k h1)).symm)
   rw[y5 (by simp[h1]),zee (w:=⟨(J13.hearM w.K m).1,w.O,w.W⟩) hm hi]
   rfl
  ·refine y1m ?_ (yk some (y6 h1).symm)
   rw[y6 (by simpa using h1)]
   rfl
 ·have hto:1<=m.To/\m.To<=w.K.M:=by
   rcases hmo with ⟨_,q,_⟩ | ⟨_,_,q,_⟩
   ·exact q
   ·exact absurd q h0
  have hk:(m.To-1).toNat<w.O.length:=om
  obtain⟨q1,q2,_⟩:=h.2.2.2.1 _ hk
  have ew:i64.wrap (m.To-1)=m.To-1:=wrapId om om
  refine y1m ?_ (yk some (y5 h0).symm)
  rw[y5 (by simpa using h0),ew]
  simp only[show w.O.getD (m.To-1).toNat default=jAt w (m.To-1).toNat from rfl]
  rw[show (⟨8,m.C,m.E,0,0,0,0,0,m.A,m.I⟩:TOp)=hearOp m from rfl,zby q1 (p:=hearOp m) hml]
  simp only[obind]
  rw[z6 ⟨om,hk,trivial⟩,zee hm hi]
  simp only[obind]
  rw[zbb (w:=loseW w i) (k:=(m.To-1).toNat) hl.2 hk fun e0=>by rw[z6f e0,q2]]
  rfl
variable {ρ:Type}
theorem zsp (k a b c d:Int) (K:Bool->Option α) (R:ρ->Option α):outM (if (k==a)=true then some (Out.next (k==a)) else if (k==b)=true then some (Out.next (k==b)) else if (k==c)=true then some (Out.next (k==c)) else some (Out.next (k==d))) K R=K (decide (k=a\/k=b\/k=c\/k=d)):=by
 by_cases h1:k=a
 ·rw[y6 (by simpa using h1)]; simp[outM,h1]
 rw[y5 (by simpa using h1)]
 by_cases h2:k=b
 ·rw[y6 (by simpa using h2)]; simp[outM,h2]
 rw[y5 (by simpa using h2)]
 by_cases h3:k=c
 ·rw[y6 (by simpa using h3)]; simp[outM,h3]
 rw[y5 (by simpa using h3)]
 simp only[outM,h1,h2,h3,false_or]
 rfl
theorem zsq (k a b c:Int) (K:Bool->Option α) (R:ρ->Option α):outM (if (k==a)=true then some (Out.next (k==a)) else if (k==b)=true then some (Out.next (k==b)) else some (Out.next (k==c))) K R=K (decide (k=a\/k=b\/k=c)):=by
 by_cases h1:k=a
 ·rw[y6 (by simpa using h1)]; simp[outM,h1]
 rw[y5 (by simpa using h1)]
 by_cases h2:k=b
 ·rw[y6 (by simpa using h2)]; simp[outM,h2]
 rw[y5 (by simpa using h2)]
 simp only[outM,h1,h2,false_or]
 rfl
variable {s:TSt}
theorem z5j (h:s.P=1):stepW w s=tresS w (J13.setM w.K s.C s.E s.S):=y6 h
theorem z5k (h:s.P=2):stepW w s=tresS w (J13.grantM w.K s.Z s.C s.E s.S):=(y5 om).trans (y6 h)
theorem z6n (h:s.P=3):stepW w s=tresS w (J13.askM w.K s.Z s.C s.E s.S):=(y5 om).trans ((y5 om).trans (y6 h))
theorem z5l (h:s.P=4):stepW w s=sendS w (J13.tellM w.K s.Z s.C s.E).1 (J13.tellM w.K s.Z s.C s.E).2:=(y5 om).trans ((y5 om).trans ((y5 om).trans (y6 h)))
theorem z6o (h:5<=s.P/\s.P<=8):stepW w s=actS w s:=(y5 om).trans ((y5 om).trans ((y5 om).trans ((y5 om).trans (y6 h))))
theorem z2v (h:9<=s.P/\s.P<=11):stepW w s=mailS w s:=(y5 om).trans ((y5 om).trans ((y5 om).trans ((y5 om).trans ((y5 om).trans (y6 h)))))
theorem z6p (h:¬ (1<=s.P/\s.P<=11)):stepW w s=(zWd,1):=(y5 om).trans ((y5 om).trans ((y5 om).trans ((y5 om).trans ((y5 om).trans (y5 om)))))
theorem z5m (w:TWo) (r:TTr×Int):(if (r.2 != 0)=true then some (zWd,r.2) else some ((⟨r.1,w.O,w.W⟩:TWo),(0:Int)))=some (tresS w r):=by
 unfold tresS
 by_cases h:r.2=0
 ·rw[y5 (by simp[h]),y5 (by simp[h])]
 ·rw[y6 (by simpa using h),y6 h]
theorem zis (h:VW w) (hc:s.C.length<=1000000) (hk:1<=s.P/\s.P<=4):F_q5z w s=some (stepW w s):=by
 have hs:=h.small
 simp only[F_q5z,S_q5z,Scr.den]
 have hk:s.P=1\/s.P=2\/s.P=3\/s.P=4:=om
 rcases hk with k | k | k | k
 ·rw[z5j k,<- z5m,y6 (by simp[k]),J13.Set_eq hs hc]
  rfl
 ·rw[z5k k,<- z5m,y5 (by simp[k]),y6 (by simp[k]),J13.Grant_eq hs]
  rfl
 ·rw[z6n k,<- z5m,y5 (by simp[k]),y5 (by simp[k]),y6 (by simp[k]),J13.Ask_eq hs]
  rfl
 ·rw[z5l k,y5 (by simp[k]),y5 (by simp[k]),y5 (by simp[k]),J13.Tell_eq hs]
  simp only[obind]
  rw[zed h.2.2.1]
  rfl
theorem zsr (h:VW w) (ho:s.Op.C.length<=1000000) (_hk:5<=s.P/\s.P<=8):F_q65 w s=some (actS w s):=by
 have hl:=h.len
 simp only[F_q65,S_q65,Scr.den,z64,obind]
 by_cases h1:1<=s.Z/\s.Z<=w.O.length
 ·have ew:i64.wrap (s.Z-1)=s.Z-1:=wrapId om om
  have hlt:(s.Z-1).toNat<w.O.length:=om
  obtain⟨q1,q2,_⟩:=h.2.2.2.1 _ hlt
  rw[ye h1,y5 sj,ew,z6 ⟨om,om,trivial⟩]
  simp only[show w.O.getD (s.Z-1).toNat default=jAt w (s.Z-1).toNat from rfl]
  refine y1m ?_ (yk some (y5 fun g=>g h1).symm)
  by_cases c5:s.P=5
  ·refine y1m ?_ (yk some (y6 c5).symm)
   rw[y6 (by simp[c5])]
   by_cases c8:s.Op.P=8
   ·refine y1m ?_ (yk some (y6 c8).symm)
    rw[y6 (by simp[c8])]
    rfl
   ·refine y1m ?_ (yk some (y5 c8).symm)
    rw[y5 (by simpa using c8),zby q1 ho]
    simp only[obind]
    rw[zbb hl.2 hlt fun e0=>by rw[z6f e0,q2]]
    rfl
  refine y1m ?_ (yk some (y5 c5).symm)
  rw[y5 (by simpa using c5)]
  by_cases c6:s.P=6
  ·refine y1m ?_ (yk some (y6 c6).symm)
   rw[y6 (by simp[c6]),zkx q1]
   simp only[obind]
   rw[zbb (j:=flushJ (jAt w (s.Z-1).toNat)) hl.2 hlt fun _=>q2]
   rfl
  refine y1m ?_ (yk some (y5 c6).symm)
  rw[y5 (by simpa using c6)]
  by_cases c7:s.P=7
  ·refine y1m ?_ (yk some (y6 c7).symm)
   rw[y6 (by simp[c7]),zky q1]
   simp only[obind]
   rw[zbb (j:=crashJ (jAt w (s.Z-1).toNat)) hl.2 hlt fun _=>q2]
   rfl
  refine y1m ?_ (yk some (y5 c7).symm)
  rw[y5 (by simpa using c7),zbx q1]
  simp only[obind]
  rw[zn6 q1.stb.smO]
  simp only[obind]
  rw[zed h.2.2.1]
  rfl
 ·rw[yi h1,y6 (by rfl)]
  exact yk some (y6 h1).symm
theorem zrj (h:VW w) (_hk:9<=s.P/\s.P<=11):F_q6a w s=some (mailS w s):=by
 have hm:=h.2.2.1
 have ew:i64.wrap ((w.W.length:Int)-1)=(w.W.length:Int)-1:=wrapId om om
 simp only[F_q6a,S_q6a,Scr.den,z64,obind,ew]
 by_cases h1:0<=s.Ai/\s.Ai<w.W.length
 ·have hlt:s.Ai.toNat<w.W.length:=om
  have ei:s.Ai=(s.Ai.toNat:Int):=om
  rw[ye (show 0<=s.Ai/\s.Ai<=(w.W.length:Int)-1 from om),y5 sj]
  refine y1m ?_ (yk some (y5 fun g=>g h1).symm)
  by_cases c9:s.P=9
  ·refine y1m ?_ (yk some (y6 c9).symm)
   rw[y6 (by simp[c9])]
   conv=>lhs; rw[ei]
   rw[zl4 h hlt]
   rfl
  refine y1m ?_ (yk some (y5 c9).symm)
  rw[y5 (by simpa using c9)]
  by_cases c11:s.P=11
  ·refine y1m ?_ (yk some (y6 c11).symm)
   rw[y6 (by simp[c11]),zed hm]
   simp only[obind]
   rw[z6 ⟨h1.1,hlt,trivial⟩]
   rfl
  refine y1m ?_ (yk some (y5 c11).symm)
  rw[y5 (by simpa using c11)]
  conv=>lhs; rw[ei]
  rw[zee hm hlt]
  rfl
 ·rw[yi (show ¬ (0<=s.Ai/\s.Ai<=(w.W.length:Int)-1) from om),y6 (by rfl)]
  exact yk some (y6 h1).symm
theorem zfh (h:VW w) (hc:s.C.length<=1000000) (ho:s.Op.C.length<=1000000):F_q4l w s=some (stepW w s):=by
 simp only[F_q4l,S_q4l,Scr.den,zsp,zsq]
 by_cases k1:1<=s.P/\s.P<=4
 ·rw[y6 (by rw[y7]; omega),zis h hc k1]
  rfl
 rw[y5 (by rw[y7]; omega)]
 by_cases k2:5<=s.P/\s.P<=8
 ·rw[y6 (by rw[y7]; omega),zsr h ho k2,z6o k2]
  rfl
 rw[y5 (by rw[y7]; omega)]
 by_cases k3:9<=s.P/\s.P<=11
 ·rw[y6 (by rw[y7]; omega),zrj h k3,z2v k3]
  rfl
 rw[y5 (by rw[y7]; omega),z6p om]
 rfl
theorem zit (hs:J13.Small t) (k:Int) (c:List UInt8) (y:Int):F_q52 t k c y=some (J13.tellM t k c y):=by
 simp only[F_q52,S_q52,Scr.den,J13.r13_find_eq hs,obind]
 unfold J13.tellM J13.findM
 by_cases h1:J13.TOk t
 ·simp only[show ¬ ¬ J13.TOk t from fun h=>h h1,yn]
  by_cases h2:J13.hasP t.D c y=true/\1<=k/\k<=t.M
  ·have hlt:=(J13.pix_lt h2.1).1
   have hp:=h1.potAt h2.1
   have l1:=hp.2.2.2.1.1.1
   have l3:=hp.2.2.2.1.2.2.1.1
   have e0:=h1.1
   have h3:=h2.2
   simp only[show ¬ ¬ (J13.hasP t.D c y=true/\1<=k/\k<=t.M) from fun h=>h h2,yn]
   rw[y5 (show ¬ ((0:Int) != 0)=true from sj),wrapId (n:=k-1) om om,yh,show t.D.getD (J13.pix t.D c y) default=J13.potAt t c y from rfl,z6 ⟨om,hlt,om,om,om,trivial⟩]
   rfl
  ·simp only[h2,yd,yz]; rfl
 ·simp only[h1,yd,yz]; rfl
theorem z89 (hl:w.W.length<=200) (m:TMe):F_q3l w m=some (sendS w m 0):=by
 simp only[F_q3l,S_q3l,Scr.den]
 by_cases h2:w.W.length=200
 ·rw[y6 (by simp[h2]),z41 h2]
  rfl
 ·rw[y5 sk,z3a h2,z6 ⟨om,om,trivial⟩,z6 ⟨by rw[yo]; simp; omega,trivial⟩]
theorem z5v (hl:w.O.length<=6) (hk:k<w.O.length) (hj:j.Z=(k:Int)+1):F_q2z w j=some (keepS w k j 0).1:=by
 have ew:i64.wrap (j.Z-1)=(k:Int):=by rw[hj,wrapId om om]; omega
 simp only[F_q2z,S_q2z,Scr.den,ew,yh,yu]
 rw[z1l,z6 ⟨om,trivial⟩,z6 ⟨om,hk,hk,trivial⟩,z6 ⟨by rw[yb]; omega,trivial⟩]
theorem z5n (hl:w.W.length<=200) (hi:i<w.W.length):F_q42 w (i:Int)=some (loseW w i):=by
 simp only[F_q42,S_q42,Scr.den]
 have e1:i64.wrap ((i:Int)+1)=((i+1:Nat):Int):=wrapId om om
 have e2:w.W.take i++w.W.drop (i+1)=w.W.eraseIdx i:=(List.eraseIdx_eq_take_drop_succ ..).symm
 have l1:(w.W.take i).length<=200:=by rw[y1f]; omega
 have l2:(w.W.drop (i+1)).length<=200:=by rw[y3a]; omega
 have l3:(w.W.eraseIdx i).length<=200:=y24 (List.length_eraseIdx_le ..) hl
 rw[e1]
 simp only[yh,e2]
 rw[z6 ⟨om,om,om,om,om,om,trivial⟩,z6 ⟨om,trivial⟩]
 rfl
theorem ziu (h:VW w) (ho:s.Op.C.length<=1000000) (_hk:5<=s.P/\s.P<=8):F_q57 w s=some (actS w s):=by
 have hl:=h.len
 simp only[F_q57,S_q57,Scr.den,F_q3j,S_q3j,zb,obind]
 by_cases h1:1<=s.Z/\s.Z<=w.O.length
 ·have ew:i64.wrap (s.Z-1)=s.Z-1:=wrapId om om
  have hlt:(s.Z-1).toNat<w.O.length:=om
  obtain⟨q1,q2,_⟩:=h.2.2.2.1 _ hlt
  rw[y5 sk,ew,z6 ⟨om,om,trivial⟩]
  simp only[show w.O.getD (s.Z-1).toNat default=jAt w (s.Z-1).toNat from rfl]
  refine y1m ?_ (yk some (y5 fun g=>g h1).symm)
  by_cases c5:s.P=5
  ·refine y1m ?_ (yk some (y6 c5).symm)
   rw[y5 (by simp[c5]),y5 (by simp[c5]),y6 (by simp[c5])]
   by_cases c8:s.Op.P=8
   ·refine y1m ?_ (yk some (y6 c8).symm)
    rw[y6 (by simp[c8])]
    rfl
   ·refine y1m ?_ (yk some (y5 c8).symm)
    rw[y5 (by simpa using c8),z9s q1 ho]
    simp only[obind]
    by_cases e0:(appendS (jAt w (s.Z-1).toNat) s.Op).2=0
    ·rw[y5 (by rw[e0]; decide),z5v hl.2 hlt (by rw[z6f e0,q2]),e0]
     rfl
    ·rw[y6 (by simpa using e0),z33 e0]
     rfl
  refine y1m ?_ (yk some (y5 c5).symm)
  by_cases c6:s.P=6
  ·refine y1m ?_ (yk some (y6 c6).symm)
   rw[y6 (by simp[c6]),zhq q1]
   simp only[obind]
   rw[z5v (j:=flushJ (jAt w (s.Z-1).toNat)) hl.2 hlt q2]
   rfl
  refine y1m ?_ (yk some (y5 c6).symm)
  rw[y5 (by simpa using c6)]
  by_cases c7:s.P=7
  ·refine y1m ?_ (yk some (y6 c7).symm)
   rw[y6 (by simp[c7]),zhr q1]
   simp only[obind]
   rw[z5v (j:=crashJ (jAt w (s.Z-1).toNat)) hl.2 hlt q2]
   rfl
  refine y1m ?_ (yk some (y5 c7).symm)
  rw[y5 (by simpa using c7),y5 (by simpa using c5),zg0 q1]
  simp only[obind]
  rw[zfy q1.stb.smO]
  simp only[obind]
  by_cases e0:(reportS (stbJ (jAt w (s.Z-1).toNat)) s.C s.E).2=0
  ·rw[y5 (by rw[e0]; decide),z89 h.2.2.1]
   unfold stW
   rw[e0]
   rfl
  ·rw[y6 (by simpa using e0)]
   unfold stW
   rw[z3s e0]
   rfl
 ·rw[y6 sk]
  exact yk some (y6 h1).symm
theorem zef (h:VW w) (hi:i<w.W.length):F_q59 w (i:Int)=some (delivS w i):=by
 have hl:=h.len
 have hm:=h.2.2.1
 have hml:=h.msgLen (z7 hi)
 have hmo:=(h.2.2.2.2 _ (z7 hi)).2
 have h2:=h.2.1
 simp only[F_q59,S_q59,Scr.den,yh]
 rw[z6 ⟨om,hi,trivial⟩]
 unfold delivS mAt
 generalize w.W.getD i default=m at hml hmo
 by_cases h0:m.To=0
 ·refine y1m ?_ (yk some (y6 h0).symm)
  rw[y6 (by simp[h0]),J13.r13_Hear_eq h.small]
  simp only[obind]
  by_cases h1:(J13.hearM w.K m).2=0
  ·refine y1m ?_ (yk some (y5 (fun k=>k h1)).symm)
   rw[y5 (by simp[h1])]
   simp only[zl]
   rw[z5n (w:=⟨(J13.hearM w.K m).1,w.O,w.W⟩) hm hi]
   rfl
  ·refine y1m ?_ (yk some (y6 h1).symm)
   rw[y6 (by simpa using h1)]
   rfl
 ·have hto:1<=m.To/\m.To<=w.K.M:=by
   rcases hmo with ⟨_,q,_⟩ | ⟨_,_,q,_⟩
   ·exact q
   ·exact absurd q h0
  have hk:(m.To-1).toNat<w.O.length:=om
  obtain⟨q1,q2,_⟩:=h.2.2.2.1 _ hk
  have ew:i64.wrap (m.To-1)=m.To-1:=wrapId om om
  refine y1m ?_ (yk some (y5 h0).symm)
  rw[y5 (by simpa using h0),ew]
  simp only[show w.O.getD (m.To-1).toNat default=jAt w (m.To-1).toNat from rfl]
  rw[show (⟨8,m.C,m.E,0,0,0,0,0,m.A,m.I⟩:TOp)=hearOp m from rfl,z9s q1 (p:=hearOp m) hml]
  simp only[obind]
  rw[z6 ⟨om,hk,trivial⟩]
  by_cases e0:(appendS (jAt w (m.To-1).toNat) (hearOp m)).2=0
  ·rw[y5 (by rw[e0]; decide),z5v hl.2 hk (by rw[z6f e0,q2]),e0]
   simp only[obind,zl]
   rw[z5n (w:=(keepS w (m.To-1).toNat (appendS (jAt w (m.To-1).toNat) (hearOp m)).1 0).1) (by rw[z1l]; exact hm) (by rw[z1l]; exact hi),z1l,z1l]
   rfl
  ·rw[y6 (by simpa using e0),z33 e0]
   rfl
theorem ziv (h:VW w) (_hk:9<=s.P/\s.P<=11):F_q5a w s=some (mailS w s):=by
 have hm:=h.2.2.1
 simp only[F_q5a,S_q5a,Scr.den,z8]
 by_cases h1:0<=s.Ai/\s.Ai<w.W.length
 ·have hlt:s.Ai.toNat<w.W.length:=om
  have ei:s.Ai=(s.Ai.toNat:Int):=om
  rw[y5 sk]
  refine y1m ?_ (yk some (y5 fun g=>g h1).symm)
  by_cases c9:s.P=9
  ·refine y1m ?_ (yk some (y6 c9).symm)
   rw[y6 (by simp[c9])]
   conv=>lhs; rw[ei]
   rw[zef h hlt]
   rfl
  refine y1m ?_ (yk some (y5 c9).symm)
  rw[y5 (by simpa using c9)]
  by_cases c11:s.P=11
  ·refine y1m ?_ (yk some (y6 c11).symm)
   rw[y6 (by simp[c11]),z89 hm]
   simp only[obind]
   rw[z6 ⟨h1.1,hlt,trivial⟩]
   rfl
  refine y1m ?_ (yk some (y5 c11).symm)
  rw[y5 (by simpa using c11)]
  conv=>lhs; rw[ei]
  rw[z5n hm hlt]
  rfl
 ·rw[y6 sk]
  exact yk some (y6 h1).symm
theorem zfi (h:VW w) (hc:s.C.length<=1000000) (ho:s.Op.C.length<=1000000):F_q43 w s=some (stepW w s):=by
 have hs:=h.small
 simp only[F_q43,S_q43,Scr.den,zsp,zsq,z52 h,obind]
 rw[y5 dk]
 by_cases k:s.P=1
 ·rw[z5j k,<- z5m,y6 (by simp[k]),J13.r13_Set_eq hs hc]
  rfl
 rw[y5 (by simp[k])]
 by_cases k:s.P=2
 ·rw[z5k k,<- z5m,y6 (by simp[k]),J13.r13_Grant_eq hs]
  rfl
 rw[y5 (by simp[k])]
 by_cases k:s.P=3
 ·rw[z6n k,<- z5m,y6 (by simp[k]),J13.r13_Ask_eq hs]
  rfl
 rw[y5 (by simp[k])]
 by_cases k:s.P=4
 ·rw[z5l k,y6 (by simp[k]),zit hs]
  simp only[obind]
  by_cases e0:(J13.tellM w.K s.Z s.C s.E).2=0
  ·rw[y5 (by rw[e0]; decide),z89 h.2.2.1,e0]
   rfl
  ·rw[y6 (by simpa using e0),z3s e0]
   rfl
 rw[y5 (by simp[k])]
 by_cases k2:5<=s.P/\s.P<=8
 ·rw[y6 (by rw[y7]; omega),ziu h ho k2,z6o k2]
  rfl
 rw[y5 (by rw[y7]; omega)]
 by_cases k3:9<=s.P/\s.P<=11
 ·rw[y6 (by rw[y7]; omega),ziv h k3,z2v k3]
  rfl
 rw[y5 (by rw[y7]; omega),z6p om]
 rfl
theorem z6q {l:List Int} (h:l.length<=k):l.getD k default=default:=by simp[List.getD_eq_getElem?_getD,List.getElem?_eq_none h]
variable {p:TPo}
theorem z8j (h:J13.TOk t) (hp:p∈t.D):J13.hasP t.D p.C p.E=true/\J13.potAt t p.C p.E=p:=by
 have hh:J13.hasP t.D p.C p.E=true:=J13.has_iff.2 ⟨p,hp,rfl,rfl⟩
 refine⟨hh,?_⟩
 obtain⟨k1,k2,k3⟩:=J13.pix_lt hh
 obtain⟨i,hi,e⟩:=z18 hp
 have g1:=h.good _ (z7 k1)
 have g2:=h.good _ hp
 have e0:J13.cmpP (t.D.getD (J13.pix t.D p.C p.E) default) p=0:=(J13.cmpP_eq g1.1 g2.1).2 ⟨k2,k3⟩
 have e0':J13.cmpP p (t.D.getD (J13.pix t.D p.C p.E) default)=0:=(J13.cmpP_eq g2.1 g1.1).2 ⟨k2.symm,k3.symm⟩
 rcases y3s (J13.pix t.D p.C p.E) i with hlt | heq | hgt
 ·have:=h.srt.lt h.good hlt hi
  rw[e,e0] at this
  omega
 ·show t.D.getD (J13.pix t.D p.C p.E) default=p
  rw[heq,e]
 ·have:=h.srt.lt h.good hgt k1
  rw[e,e0'] at this
  omega
theorem z7w (hp:J13.hasP t.D c y=true) (hc:p.C=c) (hy:p.E=y) (hk:J13.TOk (J13.putP t c y p)) :
  J13.potAt (J13.putP t c y p) c y=p/\∀ c' y',(J13.hasP (J13.putP t c y p).D c' y'=J13.hasP t.D c' y')/\(J13.hasP t.D c' y'=true->¬ (c'=c/\y'=y)->J13.potAt (J13.putP t c y p) c' y'=J13.potAt t c' y'):=by
 obtain⟨k1,k2,k3⟩:=J13.pix_lt hp
 have hm:p∈(J13.putP t c y p).D:=List.mem_set k1 p
 have h1:=z8j hk hm
 rw[hc,hy] at h1
 have hold:∀ c' y',J13.hasP t.D c' y'=true->¬ (c'=c/\y'=y)->J13.potAt t c' y'∈(J13.putP t c y p).D:=fun c' y' h hn=>by
  obtain⟨q1,q2,q3⟩:=J13.pix_lt h
  have hne:J13.pix t.D c y≠J13.pix t.D c' y':=fun e=>by
   rw[<- e] at q2 q3
   exact hn ⟨q2.symm.trans k2,q3.symm.trans k3⟩
  show t.D.getD (J13.pix t.D c' y') default∈t.D.set (J13.pix t.D c y) p
  rw[z13 q1,List.mem_iff_getElem]
  exact⟨J13.pix t.D c' y',by rw[yb]; exact q1,by rw[List.getElem_set_ne hne]⟩
 refine⟨h1.2,fun c' y'=>⟨?_,fun h hn=>?_⟩⟩
 ·rw[y1k]
  by_cases e:c'=c/\y'=y
  ·obtain⟨rfl,rfl⟩:=e
   exact⟨fun _=>hp,fun _=>h1.1⟩
  constructor
  ·intro h
   obtain⟨x,hx,e1,e2⟩:=J13.has_iff.1 h
   rcases y29 hx with h3 | h3
   ·exact J13.has_iff.2 ⟨x,h3,e1,e2⟩
   ·subst h3
    exact absurd ⟨e1.symm.trans hc,e2.symm.trans hy⟩ e
  ·intro h
   have:=J13.potAt_cy h
   exact J13.has_iff.2 ⟨_,hold c' y' h e,this.1,this.2⟩
 ·have h2:=z8j hk (hold c' y' h hn)
  have:=J13.potAt_cy h
  rw[this.1,this.2] at h2
  exact h2.2
theorem znq {r:TPo} (hi:i<=t.D.length) (hk:J13.TOk ⟨t.M,insL t.D i r⟩) :
  (J13.hasP (insL t.D i r) r.C r.E=true/\J13.potAt ⟨t.M,insL t.D i r⟩ r.C r.E=r)/\∀ c y,(J13.hasP (insL t.D i r) c y=true->J13.hasP t.D c y=true\/(c=r.C/\y=r.E))/\(J13.hasP t.D c y=true->J13.hasP (insL t.D i r) c y=true/\J13.potAt ⟨t.M,insL t.D i r⟩ c y=J13.potAt t c y):=by
 have hr:r∈insL t.D i r:=by
  have:=z7 (l:=insL t.D i r) (i:=i) (by rw[zo]; omega)
  rwa [J13.insL_at hi] at this
 have hold:∀ x∈t.D,x∈insL t.D i r:=fun x hx=>by
  obtain⟨j,hj,rfl⟩:=z18 hx
  by_cases c:j<i
  ·have:=z7 (l:=insL t.D i r) (i:=j) (by rw[zo]; omega)
   rwa [z1h hi,y6 c] at this
  ·have:=z7 (l:=insL t.D i r) (i:=j+1) (by rw[zo]; omega)
   rwa [z1h hi,y5 om,y5 om] at this
 have hnew:∀ x∈insL t.D i r,x∈t.D\/x=r:=fun x hx=>by
  obtain⟨j,hj,rfl⟩:=z18 hx
  rw[zo] at hj
  rw[z1h hi]
  by_cases c:j<i
  ·rw[y6 c]; exact .inl (z7 om)
  ·rw[y5 c]
   by_cases c2:j=i
   ·rw[y6 c2]; exact .inr rfl
   ·rw[y5 c2]; exact .inl (z7 om)
 have h1:=z8j hk (p:=r) hr
 refine⟨h1,fun c y=>⟨fun h=>?_,fun h=>?_⟩⟩
 ·obtain⟨x,hx,e1,e2⟩:=J13.has_iff.1 h
  rcases hnew x hx with h3 | rfl
  ·exact .inl (J13.has_iff.2 ⟨x,h3,e1,e2⟩)
  ·exact .inr ⟨e1.symm,e2.symm⟩
 ·have hx:J13.potAt t c y∈t.D:=z7 (J13.pix_lt h).1
  have h2:=z8j hk (p:=J13.potAt t c y) (hold _ hx)
  have:=J13.potAt_cy h
  rwa [this.1,this.2] at h2
def LeP (p q:TPo):Prop:=∀ k,nthN p.A k<=nthN q.A k/\nthN p.I k<=nthN q.I k
theorem LeP.refl (p:TPo):LeP p p:=fun _=>⟨y1e _,y1e _⟩
def GT (t t':TTr):Prop:=J13.TOk t'/\t'.M=t.M/\∀ c y,J13.hasP t.D c y=true->J13.hasP t'.D c y=true/\LeP (J13.potAt t c y) (J13.potAt t' c y)
def HE (t t':TTr):Prop:=∀ c y k,J13.hasP t'.D c y=true->(J13.hasP t.D c y=true/\nthN (J13.potAt t' c y).J k=nthN (J13.potAt t c y).J k)\/nthN (J13.potAt t' c y).J k=0
theorem zde (hp:J13.hasP t.D c y=true) (hc:p.C=c) (hy:p.E=y) (hk:J13.TOk (J13.putP t c y p)) (hl:LeP (J13.potAt t c y) p):GT t (J13.putP t c y p):=by
 obtain⟨h1,h2⟩:=z7w hp hc hy hk
 refine⟨hk,rfl,fun c' y' h=>⟨((h2 c' y').1).trans h,?_⟩⟩
 by_cases e:c'=c/\y'=y
 ·obtain⟨rfl,rfl⟩:=e
  rw[h1]
  exact hl
 ·rw[(h2 c' y').2 h e]
  exact LeP.refl _
theorem zhs (hp:J13.hasP t.D c y=true) (hc:p.C=c) (hy:p.E=y) (hk:J13.TOk (J13.putP t c y p)) (hl:p.J=(J13.potAt t c y).J):HE t (J13.putP t c y p):=by
 obtain⟨h1,h2⟩:=z7w hp hc hy hk
 intro c' y' k h
 rw[(h2 c' y').1] at h
 refine .inl ⟨h,?_⟩
 by_cases e:c'=c/\y'=y
 ·obtain⟨rfl,rfl⟩:=e
  rw[h1,hl]
 ·rw[(h2 c' y').2 h e]
theorem znr (n:Int) (k:Nat):nthN (J13.zeros n) k=0:=by
 unfold nthN J13.zeros
 rw[y8,List.getElem?_replicate]
 split <;> rfl
variable {x:Int}
theorem zss (h:(J13.setM t c y x).2=0):GT t (J13.setM t c y x).1/\HE t (J13.setM t c y x).1:=by
 have hk:=(J13.set_ok h).2
 unfold J13.setM at h hk |-
 by_cases h1:J13.TOk t
 ·simp only[show ¬ ¬ J13.TOk t from fun h=>h h1,yn] at h hk |-
  by_cases h2:good c=true
  ·simp only[show ¬ ¬ good c=true from fun h=>h h2,yn] at h hk |-
   by_cases h3:(0<=y/\y<=99)/\-1000000000000000<=x/\x<=1000000000000000
   ·simp only[show ¬ ¬ ((0<=y/\y<=99)/\-1000000000000000<=x/\x<=1000000000000000) from fun h=>h h3,yn] at h hk |-
    by_cases h5:J13.hasP t.D c y=true
    ·rw[y6 h5] at hk |-
     have hcy:=J13.potAt_cy h5
     exact⟨zde h5 (p:=J13.withT (J13.potAt t c y) x) hcy.1 hcy.2 hk fun _=>⟨y1e _,y1e _⟩,zhs h5 (p:=J13.withT (J13.potAt t c y) x) hcy.1 hcy.2 hk rfl⟩
    ·rw[y5 h5] at h hk |-
     by_cases h6:t.D.length=60
     ·rw[y6 h6] at h; cases h
     ·rw[y5 h6] at hk |-
      obtain⟨g1,g2⟩:=znq (r:=J13.newP t.M c y x) (J13.posP_le _ _) hk
      refine⟨⟨hk,rfl,fun c' y' h=>?_⟩,fun c' y' k h=>?_⟩
      ·obtain⟨q1,q2⟩:=(g2 c' y').2 h
       refine⟨q1,?_⟩
       rw[q2]
       exact LeP.refl _
      ·rcases (g2 c' y').1 h with h7 | ⟨h7,h8⟩
       ·refine .inl ⟨h7,?_⟩
        rw[((g2 c' y').2 h7).2]
       ·refine .inr ?_
        rw[h7,h8,g1.2]
        exact znr _ _
   ·rw[y6 h3] at h; cases h
  ·rw[y6 (show ¬ good c=true from h2)] at h; cases h
 ·rw[y6 h1] at h; cases h
theorem zrk {G a:List Int} (hl:a.length=G.length) (ha:∀ x∈a,J13.tot x) (k:Nat):nthN G k<=nthN (J13.addN G a a.length) k:=by
 unfold nthN
 by_cases hk:k<G.length
 ·have:=ha _ (z7 (show k<a.length from om))
  unfold J13.tot at this
  rw[J13.addN_get hk,y6 om]
  omega
 ·rw[z6q om,z6q (by rw[J13.addN_length]; omega)]
  exact y1e _
theorem zpe {k:Int} (h:(J13.grantM t k c y x).2=0):GT t (J13.grantM t k c y x).1/\HE t (J13.grantM t k c y x).1:=by
 have hk:=(J13.grant_ok h).2
 unfold J13.grantM at h hk |-
 by_cases h1:J13.TOk t
 ·simp only[show ¬ ¬ J13.TOk t from fun h=>h h1,yn] at h hk |-
  by_cases h2:J13.hasP t.D c y=true
  ·simp only[show ¬ ¬ J13.hasP t.D c y=true from fun h=>h h2,yn] at h hk |-
   by_cases h3:1<=k/\k<=t.M
   ·simp only[show ¬ ¬ (1<=k/\k<=t.M) from fun h=>h h3,yn] at h hk |-
    by_cases h4:1<=x/\x<=1000000000000000
    ·simp only[show ¬ ¬ (1<=x/\x<=1000000000000000) from fun h=>h h4,yn] at h hk |-
     by_cases h5:(J13.giveV (J13.potAt t c y).V (J13.potAt t c y) (J13.oneHot (J13.potAt t c y).A.length (k-1).toNat x)).1=0
     ·rw[y5 (show ¬ _≠_ from fun h=>h h5)] at hk |-
      have hcy:=J13.potAt_cy h2
      have hg:=(J13.give_ok (h1.potAt h2) (J13.oneHot_tot h4) J13.oneHot_length h5).1
      refine⟨zde h2 (p:=J13.withG _ _) hcy.1 hcy.2 hk fun j=>⟨?_,y1e _⟩,zhs h2 (p:=J13.withG _ _) hcy.1 hcy.2 hk rfl⟩
      rw[hg]
      exact zrk J13.oneHot_length (J13.oneHot_tot h4) j
     ·rw[y6 h5] at h; exact absurd h h5
    ·simp only[h4,yd,yz] at h; cases h
   ·simp only[h3,yd,yz] at h; cases h
  ·simp only[h2,yd,yz,yp] at h; cases h
 ·simp only[h1,yd,yz] at h; cases h
theorem zns {l:List Int} {k:Int} (hx:J13.nth l k<=x) (j:Nat):nthN l j<=nthN (J13.upd l k x) j:=by
 unfold nthN
 by_cases hj:j<l.length
 ·rw[J13.upd_get hj]
  split
  ·rename_i e
   subst e
   exact hx
  ·exact y1e _
 ·rw[z6q om,z6q (by rw[J13.upd_length]; omega)]
  exact y1e _
theorem zst {k:Int} (h:(J13.askM t k c y x).2=0):GT t (J13.askM t k c y x).1/\HE t (J13.askM t k c y x).1:=by
 have hk:=(J13.ask_ok h).2
 unfold J13.askM at h hk |-
 by_cases h1:J13.TOk t
 ·simp only[show ¬ ¬ J13.TOk t from fun h=>h h1,yn] at h hk |-
  by_cases h2:J13.hasP t.D c y=true
  ·simp only[show ¬ ¬ J13.hasP t.D c y=true from fun h=>h h2,yn] at h hk |-
   by_cases h3:1<=k/\k<=t.M
   ·simp only[show ¬ ¬ (1<=k/\k<=t.M) from fun h=>h h3,yn] at h hk |-
    by_cases h4:1<=x/\x<=1000000000000000
    ·simp only[show ¬ ¬ (1<=x/\x<=1000000000000000) from fun h=>h h4,yn] at h hk |-
     by_cases h5:J13.nth (J13.potAt t c y).A k<J13.nth (J13.potAt t c y).I k+x
     ·rw[y6 h5] at h; cases h
     ·rw[y5 h5] at hk |-
      have hcy:=J13.potAt_cy h2
      refine⟨zde h2 (p:=J13.withA _ _) hcy.1 hcy.2 hk fun j=>⟨y1e _,?_⟩,zhs h2 (p:=J13.withA _ _) hcy.1 hcy.2 hk rfl⟩
      exact zns om j
    ·simp only[h4,yd,yz] at h; cases h
   ·simp only[h3,yd,yz] at h; cases h
  ·simp only[h2,yd,yz,yp] at h; cases h
 ·simp only[h1,yd,yz] at h; cases h
theorem zrl (h:(J13.hearM t m).2=0):GT t (J13.hearM t m).1/\(1<=m.Y/\m.Y<=t.M)/\∀ c y k,J13.hasP (J13.hearM t m).1.D c y=true->J13.hasP t.D c y=true /\
  (nthN (J13.potAt (J13.hearM t m).1 c y).J k=nthN (J13.potAt t c y).J k\/(c=m.C/\y=m.E/\k=(m.Y-1).toNat/\nthN (J13.potAt (J13.hearM t m).1 c y).J k=max (nthN (J13.potAt t c y).J k) m.N)):=by
 have hk:=(J13.hear_ok h).2
 unfold J13.hearM at h hk |-
 by_cases h0:m.To=0
 ·simp only[show ¬ m.To≠0 from fun h=>h h0,yn] at h hk |-
  by_cases h1:J13.TOk t
  ·simp only[show ¬ ¬ J13.TOk t from fun h=>h h1,yn] at h hk |-
   by_cases h2:J13.hasP t.D m.C m.E=true
   ·simp only[show ¬ ¬ J13.hasP t.D m.C m.E=true from fun h=>h h2,yn] at h hk |-
    by_cases h3:1<=m.Y/\m.Y<=t.M
    ·simp only[show ¬ ¬ (1<=m.Y/\m.Y<=t.M) from fun h=>h h3,yn] at h hk |-
     by_cases h4:(0<=m.N/\m.N<=J13.nth (J13.potAt t m.C m.E).A m.Y)/\J13.tot m.T
     ·simp only[show ¬ ¬ ((0<=m.N/\m.N<=J13.nth (J13.potAt t m.C m.E).A m.Y)/\J13.tot m.T) from fun h=>h h4,yn] at h hk |-
      have hcy:=J13.potAt_cy h2
      have hg:=zde h2 (p:=J13.withH (J13.potAt t m.C m.E) (J13.upd (J13.potAt t m.C m.E).J m.Y (max (J13.nth (J13.potAt t m.C m.E).J m.Y) m.N)) (J13.upd (J13.potAt t m.C m.E).T m.Y m.T)) hcy.1 hcy.2 hk fun j=>⟨y1e _,y1e _⟩
      obtain⟨p1,p2⟩:=z7w h2 (p:=J13.withH (J13.potAt t m.C m.E) (J13.upd (J13.potAt t m.C m.E).J m.Y (max (J13.nth (J13.potAt t m.C m.E).J m.Y) m.N)) (J13.upd (J13.potAt t m.C m.E).T m.Y m.T)) hcy.1 hcy.2 hk
      refine⟨hg,h3,fun c y k h=>?_⟩
      rw[(p2 c y).1] at h
      refine⟨h,?_⟩
      by_cases e:c=m.C/\y=m.E
      ·obtain⟨rfl,rfl⟩:=e
       rw[p1]
       show nthN (J13.upd (J13.potAt t m.C m.E).J m.Y _) k=_\/(_/\_/\_/\nthN (J13.upd (J13.potAt t m.C m.E).J m.Y _) k=_)
       unfold nthN
       by_cases hj:k<(J13.potAt t m.C m.E).J.length
       ·rw[J13.upd_get hj]
        by_cases e:k=(m.Y-1).toNat
        ·rw[y6 e]
         refine .inr ⟨rfl,rfl,e,?_⟩
         rw[e]
         rfl
        ·rw[y5 e]
         exact .inl rfl
       ·rw[z6q (l:=J13.upd _ _ _) (by rw[J13.upd_length]; omega),z6q om]
        exact .inl rfl
      ·rw[(p2 c y).2 h e]
       exact .inl rfl
     ·simp only[h4,yd,yz] at h; cases h
    ·simp only[h3,yd,yz] at h; cases h
   ·simp only[h2,yd,yz,yp] at h; cases h
  ·simp only[h1,yd,yz] at h; cases h
 ·rw[y6 (show m.To≠0 from h0)] at h; cases h
theorem z4k (_ha:VO a) (h:KnownJ t a b k) (hr:hasR a.H c y=true):J13.hasP t.D c y=true/\(rightV a.H c y).A<=nthN (J13.potAt t c y).A k/\(rightV a.H c y).I<=nthN (J13.potAt t c y).I k:=by
 obtain⟨h1,h2,h3⟩:=z2o hr
 have:=h.1 _ h1
 rwa [h2,h3] at this
theorem z9g (ha:VO a) (ht:J13.TOk t) (h:∀ c y,hasR a.H c y=true->J13.hasP t.D c y=true/\(rightV a.H c y).A<=nthN (J13.potAt t c y).A k/\(rightV a.H c y).I<=nthN (J13.potAt t c y).I k) (h':∀ c y,J13.hasP t.D c y=true->nthN (J13.potAt t c y).J k<=(rightV b.H c y).N):KnownJ t a b k:=by
 refine⟨fun r hr=>?_,fun p hp=>?_⟩
 ·have:=h r.C r.E (has_iff.2 ⟨r,hr,rfl,rfl⟩)
  rwa [z7t ha.srt ha.ok hr] at this
 ·obtain⟨h1,h2⟩:=z8j ht hp
  have:=h' _ _ h1
  rwa [h2] at this
theorem z5o (h:KnownJ t a b k) (hp:J13.hasP t.D c y=true):nthN (J13.potAt t c y).J k<=(rightV b.H c y).N:=by
 have h1:=J13.potAt_cy hp
 have:=h.2 _ (z7 (J13.pix_lt hp).1)
 rw[show t.D.getD (J13.pix t.D c y) default=J13.potAt t c y from rfl,h1.1,h1.2] at this
 exact this
theorem zsu {t':TTr} (g:GT t t') {f:Nat->TOf} (h:MsgOk t f m):MsgOk t' f m:=by
 obtain⟨h1,h2⟩:=h
 obtain⟨g1,g2⟩:=g.2.2 _ _ h1
 refine⟨g1,?_⟩
 rcases h2 with ⟨h0,q1,q2,q3,q4⟩ | ⟨h0,q1,q2⟩
 ·have:=g2 (m.To-1).toNat
  exact .inl ⟨h0,by rw[g.2.1]; exact q1,⟨q2.1,om⟩,⟨q3.1,om⟩,q4⟩
 ·exact .inr ⟨h0,by rw[g.2.1]; exact q1,q2⟩
theorem zbz (h:VW w) (g:GT w.K t) (hh:∀ c y k,J13.hasP t.D c y=true->k<w.O.length->nthN (J13.potAt t c y).J k<=(rightV (stW w k).H c y).N):VW ⟨t,w.O,w.W⟩:=by
 obtain⟨h1,h2,h3,h4,h5⟩:=h
 refine⟨g.1,by show (w.O.length:Int)=t.M; rw[g.2.1]; exact h2,h3,fun k hk=>?_,fun m hm=>zsu g (h5 m hm)⟩
 obtain⟨q1,q2,q3⟩:=h4 k hk
 refine⟨q1,q2,z9g q1.now g.1 (fun c y hr=>?_) fun c y hp=>hh c y k hp hk⟩
 obtain⟨z1,z2,z3⟩:=z4k q1.now q3 hr
 obtain⟨g1,g2⟩:=g.2.2 _ _ z1
 have:=g2 k
 have z2':(rightV (noW w k).H c y).A<=_:=z2
 have z3':(rightV (noW w k).H c y).I<=_:=z3
 exact⟨g1,y31 z2 this.1,y31 z3 this.2⟩
theorem zte (h:VW w) (g:GT w.K t) (e:HE w.K t):VW ⟨t,w.O,w.W⟩:=zbz h g fun c y k hp hk=>by
 obtain⟨q1,q2,q3⟩:=h.2.2.2.1 k hk
 rcases e c y k hp with ⟨h1,h2⟩ | h2
 ·rw[h2]
  exact z5o q3 h1
 ·rw[h2]
  exact (z4p q1.stb.ok c y).1
theorem zjs (h:VW w) (hl:l.length<=200) (hm:∀ m∈l,MsgOk w.K (stW w) m):VW ⟨w.K,w.O,l⟩:=⟨h.1,h.2.1,hl,h.2.2.2.1,hm⟩
theorem zeg (h:VW w) (i:Nat):VW (loseW w i):=zjs h (y24 (List.length_eraseIdx_le ..) h.2.2.1) fun m hm=>h.2.2.2.2 m (List.mem_of_mem_eraseIdx hm)
theorem zjt (h:VW w) (hm:MsgOk w.K (stW w) m) (hl:w.W.length≠200):VW ⟨w.K,w.O,w.W++[m]⟩:=zjs h (by have:=h.2.2.1; rw[yo]; simp; omega) fun x hx=>by
 rcases y1j.1 hx with hx | hx
 ·exact h.2.2.2.2 x hx
 ·rw[y2z.1 hx]; exact hm
theorem z6r (hi:i<w.O.length):(w.O.set k j).getD i default=if i=k then j else jAt w i:=by
 rw[y8,y4p]
 by_cases h:k=i
 ·subst h; simp[hi]
 ·rw[y5 h,y5 fun e=>h e.symm]
  exact (y8 ..).symm
theorem z9h (h:VW w) (hk:k<w.O.length) (hj:VJ j) (ho:j.Z=(k:Int)+1) (hn:KnownJ w.K (nowJ j) (stbJ j) k) (hl:LeO (stW w k) (stbJ j)):VW ⟨w.K,w.O.set k j,w.W⟩:=by
 obtain⟨h1,h2,h3,h4,h5⟩:=h
 refine⟨h1,by show ((w.O.set k j).length:Int)=_; rw[yb]; exact h2,h3,fun i hi=>?_,fun m hm=>?_⟩
 ·have hi:i<(w.O.set k j).length:=hi
  rw[yb] at hi
  show VJ ((w.O.set k j).getD i default)/\((w.O.set k j).getD i default).Z=_/\KnownJ w.K (nowJ ((w.O.set k j).getD i default)) (stbJ ((w.O.set k j).getD i default)) i
  rw[z6r hi]
  by_cases e:i=k
  ·subst e
   rw[y6 rfl]
   exact⟨hj,ho,hn⟩
  ·rw[y5 e]
   exact h4 i hi
 ·obtain⟨q1,q2⟩:=h5 m hm
  refine⟨q1,q2.imp_right fun⟨q3,q4,q5,q6,q7⟩=>⟨q3,q4,q5,⟨q6.1,?_⟩,q7⟩⟩
  have hi:(m.Y-1).toNat<w.O.length:=om
  show m.N<=(rightV (stbJ ((w.O.set k j).getD (m.Y-1).toNat default)).H m.C m.E).N
  rw[z6r hi]
  by_cases e:(m.Y-1).toNat=k
  ·rw[y6 e]
   have:=(hl m.C m.E).2.2.2
   have q6':=q6.2
   rw[e] at q6'
   omega
  ·rw[y5 e]
   exact q6.2
theorem zpf (h:VW w) (hk:k<w.O.length):VW ⟨w.K,w.O.set k (flushJ (jAt w k)),w.W⟩:=by
 obtain⟨q1,q2,q3⟩:=h.2.2.2.1 k hk
 have hle:=zd8 q1
 refine z9h h hk (zp5 q1) q2 ?_ (by rw[zfd]; exact hle)
 rw[znb,zfd]
 refine z9g q1.now h.1 (fun c y hr=>z4k q1.now q3 hr) fun c y hp=>?_
 exact y31 (z5o q3 hp) (hle c y).2.2.2
theorem zpg (h:VW w) (hk:k<w.O.length):VW ⟨w.K,w.O.set k (crashJ (jAt w k)),w.W⟩:=by
 obtain⟨q1,q2,q3⟩:=h.2.2.2.1 k hk
 have hle:=zd8 q1
 refine z9h h hk (zp6 q1) q2 ?_ (by rw[zfe]; exact LeO.refl _)
 rw[znc,zfe]
 refine z9g q1.stb h.1 (fun c y hr=>?_) fun c y hp=>z5o q3 hp
 obtain⟨l1,l2,l3,_⟩:=hle c y
 obtain⟨z1,z2,z3⟩:=z4k q1.now q3 (l1 hr)
 exact⟨z1,y31 l2 z2,y31 l3 z3⟩
theorem zfj (h:VW w) (hk:k<w.O.length) {p:TOp} (h0:(appendS (jAt w k) p).2=0) (h8:p.P=8->J13.hasP w.K.D p.C p.E=true/\p.A<=nthN (J13.potAt w.K p.C p.E).A k/\p.Ae<=nthN (J13.potAt w.K p.C p.E).I k) :
  VW ⟨w.K,w.O.set k (appendS (jAt w k) p).1,w.W⟩:=by
 obtain⟨q1,q2,q3⟩:=h.2.2.2.1 k hk
 obtain⟨a1,a2,a3,a4⟩:=zfc q1 h0
 rw[a2] at a1 |-
 refine z9h h hk a1 q2 ?_ (by rw[zd7 q1]; exact LeO.refl _)
 rw[z9c,zd7 q1]
 have hk6:=h.len
 have ho:=h.2.1
 refine z9g (zb6 a4) h.1 (fun c y hr=>?_) fun c y hp=>z5o q3 hp
 obtain⟨d1,d2,d3,d4,d5⟩:=(z3r a4).2 c y
 rw[d2,d3]
 have hr:=d1.1 hr
 by_cases e:p.P=8/\p.C=c/\p.E=y
 ·obtain⟨e8,rfl,rfl⟩:=e
  obtain⟨z1,z2,z3⟩:=h8 e8
  rw[y6 ⟨e8,rfl,rfl⟩,y6 ⟨e8,rfl,rfl⟩]
  have hp:=h.1.potAt z1
  have hg:=hp.2.2.2.1.1
  have ha:=hp.2.2.2.1.2.2.1
  have t1:=hg.2 _ (z7 (show k<_ by have:=hg.1; omega))
  have t2:=ha.2 _ (z7 (show k<_ by have:=ha.1; omega))
  unfold J13.tot at t1 t2
  unfold nthN at z2 z3 |-
  by_cases hold:hasR (nowJ (jAt w k)).H p.C p.E=true
  ·obtain⟨o1,o2,o3⟩:=z4k q1.now q3 hold
   unfold nthN at o2 o3
   have o2':(rightV (nowJ (jAt w k)).H p.C p.E).A<=_:=o2
   have o3':(rightV (nowJ (jAt w k)).H p.C p.E).I<=_:=o3
   exact⟨z1,om,om⟩
  ·have e0:rightV (nowJ (jAt w k)).H p.C p.E=⟨p.C,p.E,0,0,0⟩:=y5 hold
   rw[e0]
   exact⟨z1,by show max (0:Int) _<=_; omega,by show max (0:Int) _<=_; omega⟩
 ·rw[y5 e,y5 e]
  exact z4k q1.now q3 (hr.resolve_right e)
def z7e (r:TWo×Int):Prop:=(r.2=0/\VW r.1)\/(r.2≠0/\r.1=zWd)
theorem z54 (h:e≠0):z7e (zWd,e):=.inr ⟨h,rfl⟩
theorem zeh (h:VW w) (hm:e=0->MsgOk w.K (stW w) m):z7e (sendS w m e):=by
 by_cases h0:e=0
 ·subst h0
  by_cases hl:w.W.length=200
  ·rw[z41 hl]; exact z54 dk
  ·rw[z3a hl]; exact .inl ⟨rfl,zjt h (hm rfl) hl⟩
 ·rw[z3s h0]; exact z54 h0
theorem zei (h:VW w) {r:TTr×Int} (hr:r.2=0->GT w.K r.1/\HE w.K r.1):z7e (tresS w r):=by
 unfold tresS
 by_cases h0:r.2=0
 ·rw[y5 (by simp[h0])]
  obtain⟨g,e⟩:=hr h0
  exact .inl ⟨rfl,zte h g e⟩
 ·rw[y6 h0]; exact z54 h0
theorem zph (_h:VW w) {k:Int} (h0:(J13.tellM w.K k c y).2=0):MsgOk w.K (stW w) (J13.tellM w.K k c y).1:=by
 unfold J13.tellM at h0 |-
 by_cases h1:J13.TOk w.K
 ·simp only[show ¬ ¬ J13.TOk w.K from fun h=>h h1,yn] at h0 |-
  by_cases h2:J13.hasP w.K.D c y=true/\1<=k/\k<=w.K.M
  ·simp only[show ¬ ¬ (J13.hasP w.K.D c y=true/\1<=k/\k<=w.K.M) from fun h=>h h2,yn]
   have hp:=h1.potAt h2.1
   have t1:=J13.nth_tot hp.2.2.2.1.1 h2.2
   have t2:=J13.nth_tot hp.2.2.2.1.2.2.1 h2.2
   unfold J13.tot at t1 t2
   exact⟨h2.1,.inl ⟨rfl,h2.2,⟨t1.1,y1e _⟩,⟨t2.1,y1e _⟩,rfl,rfl⟩⟩
  ·simp only[h2,yd,yz] at h0; cases h0
 ·simp only[h1,yd,yz] at h0; cases h0
theorem zl5 (h:VW w) (hk:k<w.O.length) (h0:(reportS (stW w k) c y).2=0):MsgOk w.K (stW w) (reportS (stW w k) c y).1:=by
 obtain⟨q1,q2,q3⟩:=h.2.2.2.1 k hk
 have hv:=q1.stb
 have hn:=(zri q1).trans q2
 have h2:=h.2.1
 unfold reportS at h0 |-
 rw[y5 (fun g=>g hv)] at h0 |-
 by_cases h1:hasR (stW w k).H c y=true
 ·rw[y5 (fun g=>g h1)]
  have hle:=zd8 q1 c y
  have hp:=(z4k q1.now q3 (hle.1 h1)).1
  have hb:=z4p hv.ok c y
  have hu:=z2h hv.val c y
  have e1:((stW w k).L-1).toNat=k:=by
   have:(stW w k).L=(k:Int)+1:=hn
   omega
  refine⟨hp,.inr ⟨?_,?_,rfl,⟨hb.1,?_⟩,⟨?_,?_⟩,rfl,rfl⟩⟩
  ·show (stW w k).L≠0
   have:(stW w k).L=(k:Int)+1:=hn
   omega
  ·show 1<=(stW w k).L/\(stW w k).L<=_
   have:(stW w k).L=(k:Int)+1:=hn
   omega
  ·show (rightV (stW w k).H c y).N<=(rightV (stW w ((stW w k).L-1).toNat).H c y).N
   rw[e1]
   exact y1e _
  ·show 0<=usedV (stW w k).Af c y
   rw[show usedV (stW w k).Af c y=_ from hu.1]; exact hu.2.1
  ·show usedV (stW w k).Af c y<=_
   rw[show usedV (stW w k).Af c y=_ from hu.1]
   have:=hu.2.2
   exact y31 this dk
 ·rw[y6 h1] at h0; cases h0
theorem zbc (h:e=0->VW ⟨w.K,w.O.set k j,w.W⟩):z7e (keepS w k j e):=by
 by_cases h0:e=0
 ·subst h0
  rw[z1l]
  exact .inl ⟨rfl,h rfl⟩
 ·rw[z33 h0]; exact z54 h0
theorem zsv (h:VW w) (s:TSt):z7e (actS w s):=by
 unfold actS
 by_cases h1:1<=s.Z/\s.Z<=w.O.length
 ·have hlt:(s.Z-1).toNat<w.O.length:=om
  rw[y5 (fun g=>g h1)]
  by_cases c5:s.P=5
  ·rw[y6 c5]
   by_cases c8:s.Op.P=8
   ·rw[y6 c8]; exact z54 dk
   ·rw[y5 c8]
    exact zbc fun e=>zfj h hlt e fun k=>absurd k c8
  rw[y5 c5]
  by_cases c6:s.P=6
  ·rw[y6 c6]
   exact zbc fun _=>zpf h hlt
  rw[y5 c6]
  by_cases c7:s.P=7
  ·rw[y6 c7]
   exact zbc fun _=>zpg h hlt
  rw[y5 c7]
  exact zeh h fun e=>zl5 h hlt e
 ·rw[y6 h1]; exact z54 dk
theorem z9i (h:VW w) (hi:i<w.W.length):z7e (delivS w i):=by
 have hm:=h.2.2.2.2 _ (z7 hi)
 have h2:=h.2.1
 unfold delivS
 obtain⟨m,em⟩:∃ m,m=mAt w i:=⟨_,rfl⟩
 rw[<- em]
 rw[show w.W.getD i default=m from em.symm] at hm
 by_cases h0:m.To=0
 ·rw[y6 h0]
  by_cases h1:(J13.hearM w.K m).2=0
  ·rw[y5 (fun k=>k h1)]
   obtain⟨g1,g2,g3⟩:=zrl h1
   refine .inl ⟨rfl,?_⟩
   refine zeg (w:=⟨(J13.hearM w.K m).1,w.O,w.W⟩) (zbz h g1 fun c y k hp hk=>?_) i
   obtain⟨z1,z2⟩:=g3 c y k hp
   have hh:=z5o (h.2.2.2.1 k hk).2.2 z1
   rcases z2 with z2 | ⟨rfl,rfl,rfl,z2⟩
   ·rw[z2]; exact hh
   ·rw[z2]
    rcases hm.2 with ⟨f0,_⟩ | ⟨_,_,_,f1,_⟩
    ·omega
    ·exact Int.max_le.2 ⟨hh,f1.2⟩
  ·rw[y6 h1]; exact z54 h1
 ·rw[y5 h0]
  rcases hm.2 with ⟨f0,q1,q2,q3,q4,q5⟩ | ⟨_,_,f1,_⟩
  ·have hk:(m.To-1).toNat<w.O.length:=om
   refine zbc fun e=>?_
   exact zfj (w:=loseW w i) (zeg h i) hk e fun _=>⟨hm.1,q2.2,q3.2⟩
  ·exact absurd f1 h0
theorem zrm (h:VW w) (s:TSt):z7e (mailS w s):=by
 unfold mailS
 by_cases h1:0<=s.Ai/\s.Ai<w.W.length
 ·have hlt:s.Ai.toNat<w.W.length:=om
  rw[y5 (fun g=>g h1)]
  by_cases c9:s.P=9
  ·rw[y6 c9]; exact z9i h hlt
  rw[y5 c9]
  by_cases c11:s.P=11
  ·rw[y6 c11]
   exact zeh h fun _=>h.2.2.2.2 _ (z7 hlt)
  rw[y5 c11]
  exact .inl ⟨rfl,zeg h _⟩
 ·rw[y6 h1]; exact z54 dk
theorem zju (h:VW w) (s:TSt):z7e (stepW w s):=by
 by_cases k:s.P=1
 ·rw[z5j k]; exact zei h zss
 by_cases k2:s.P=2
 ·rw[z5k k2]; exact zei h zpe
 by_cases k3:s.P=3
 ·rw[z6n k3]; exact zei h zst
 by_cases k4:s.P=4
 ·rw[z5l k4]; exact zeh h (zph h)
 by_cases ka:5<=s.P/\s.P<=8
 ·rw[z6o ka]; exact zsv h s
 by_cases km:9<=s.P/\s.P<=11
 ·rw[z2v km]; exact zrm h s
 ·rw[z6p om]; exact z54 dk
theorem zfk [Inhabited α] {l:List α} (hi:i<l.length):l.take (i+1)=l.take i++[l.getD i default]:=by
 rw[y35,ya hi,z13 hi]
 rfl
def zl6 (w:TWo):Prop:=J13.TSmall w.K/\w.O.length<=1000000/\(∀ j∈w.O,j.Ad.length<=1000000)/\w.W.length<=1000000
theorem VW.fr (h:VW w):zl6 w:=⟨h.1.small,by have:=h.len; omega,fun j hj=>by
 obtain⟨i,hi,rfl⟩:=z18 hj
 have:(jAt w i).Ad.length<=400:=(h.2.2.2.1 i hi).1.2.1
 show (jAt w i).Ad.length<=_
 omega,by have:=h.2.2.1; omega⟩
theorem zto:zl6 zWd:=⟨⟨dk,fun i hi=>absurd hi (by show ¬ i<0; omega)⟩,dk,fun j hj=>(by cases hj),dk⟩
theorem zht (h:zl6 w):F_qk w=some w:=by
 obtain⟨h1,h2,h3,h4⟩:=h
 simp only[F_qk,S_qk,Scr.den]
 have l0:=h1.1
 obtain⟨s,e,hs⟩:=zi (body:=fun i s=>(S_qk_b1 w i s).den) (n:=w.K.D.length) (fun i s=>s=(w.K.M,w.O,w.W,w.K.D.take i)) (s0:=(w.K.M,w.O,w.W,([]:List TPo))) rfl (fun i s hi hI=>by
  subst hI
  obtain⟨q1,q2,q3,q4⟩:=h1.2 i hi
  simp only[S_qk_b1,Scr.den,J13.clone_eq q1,J13.clone_eq q2,J13.clone_eq q3,J13.clone_eq q4,obind]
  rw[z6 ⟨by rw[y1f]; omega,trivial⟩]
  exact⟨_,rfl,by rw[zfk hi]⟩)
 rw[e,hs]
 simp only[zl]
 obtain⟨s,e,hs⟩:=zi (body:=fun i s=>(S_qk_b2 (w.K.M,w.O,w.W,w.K.D.take w.K.D.length) i s).den) (n:=w.O.length) (fun i s=>s=(w.K.M,w.W,w.O.take i)) (s0:=(w.K.M,w.W,([]:List TJo))) rfl (fun i s hi hI=>by
  subst hI
  simp only[S_qk_b2,Scr.den,cloneOp (h3 _ (z7 hi)),obind]
  rw[z6 ⟨by rw[y1f]; omega,trivial⟩]
  exact⟨_,rfl,by rw[zfk hi]⟩)
 rw[e,hs]
 simp only[zl,cloneM h4,obind]
 rw[y3c,y3c,z6 ⟨om,trivial⟩,z6 ⟨om,trivial⟩]
theorem z7e.fr {r:TWo×Int} (h:z7e r):zl6 r.1:=by
 rcases h with ⟨_,h⟩ | ⟨_,h⟩
 ·exact h.fr
 ·rw[h]; exact zto
def SOk (s:TSt):Prop:=s.C.length<=1000000/\s.Op.C.length<=1000000
theorem z5p (h:VW w) (hs:SOk s):F_qz w s=some (stepW w s):=by
 simp only[F_qz,S_qz,Scr.den,z4d h,zfh h hs.1 hs.2,obind]
 rw[y5 dk,zht (zju h s).fr]
 rfl
def newW (n:Int):TWo:=⟨⟨n,[]⟩,ups n.toNat (fun i=>⟨(i:Int)+1,[],0⟩),[]⟩
theorem zar {n:Int} (h:1<=n/\n<=6):VW (newW n):=by
 refine⟨⟨h,y20 _,fun i hi=>absurd hi (by show ¬ i<0; omega)⟩,by show ((ups _ _).length:Int)=n; rw[z17]; omega,y20 _,fun k hk=>?_,fun m hm=>(by cases hm)⟩
 have hk:k<(ups n.toNat (fun i=>(⟨(i:Int)+1,[],0⟩:TJo))).length:=hk
 rw[z17] at hk
 have e:jAt (newW n) k=⟨(k:Int)+1,[],0⟩:=z5h hk
 unfold noW stW
 rw[e]
 refine⟨⟨by show 1<=(k:Int)+1/\(k:Int)+1<=6; omega,y20 _,⟨y1e _,y1e _⟩,trivial⟩,rfl,fun r hr=>(by cases hr),fun p hp=>(by cases hp)⟩
theorem zcg {n:Int} (h:1<=n/\n<=6):F_q18 n=some (newW n,0):=by
 simp only[F_q18,S_q18,Scr.den,z64,obind]
 rw[ye h,y5 dk,z6 ⟨om,trivial⟩]
 obtain⟨s,e,hs⟩:=zi (body:=fun i s=>(S_q18_b1 i s).den) (n:=n.toNat) (fun i s=>s=((⟨n,[]⟩:TTr),([]:List TMe),ups i (fun i=>(⟨(i:Int)+1,[],0⟩:TJo)))) (s0:=((⟨n,[]⟩:TTr),([]:List TMe),([]:List TJo))) rfl (fun i s hi hI=>by
  subst hI
  simp only[S_q18_b1,Scr.den,F_q6d,S_q6d,z8]
  rw[wrapId (n:=(i:Int)+1) om om,y5 sk]
  simp only[obind]
  rw[z6 ⟨by rw[z17]; omega,trivial⟩]
  exact⟨_,rfl,by rw[z7c]⟩)
 rw[e,hs]
 simp only[zl]
 rw[z6 ⟨by rw[z17]; omega,trivial⟩]
 rfl
theorem zdf {n:Int} (h:1<=n/\n<=6):F_q1g n=some (newW n,0):=by
 simp only[F_q1g,S_q1g,Scr.den,z8]
 rw[y5 sk]
 obtain⟨s,e,hs⟩:=z2k (step:=fun s=>(S_q1g_b1 n s).den) (fun s=>(n+1-s.2.2.2).toNat) (fun s=>1<=s.2.2.2/\s.2.2.2<=n+1/\s=((⟨n,[]⟩:TTr),([]:List TMe),ups (s.2.2.2-1).toNat (fun i=>(⟨(i:Int)+1,[],0⟩:TJo)),s.2.2.2)) (fun s=>s.1=(⟨n,[]⟩:TTr)/\s.2.1=([]:List TMe)/\s.2.2.1=ups n.toNat (fun i=>(⟨(i:Int)+1,[],0⟩:TJo))) (fun s hI=>by
  obtain⟨h1,h2,h3⟩:=hI
  obtain⟨t,m,j,i⟩:=s
  simp only[y2i,yw] at h3
  obtain⟨rfl,rfl,rfl⟩:=h3
  simp only[S_q1g_b1,Scr.den] at h1 h2 |-
  by_cases c:i<=n
  ·rw[y6 (by simpa using c),z6 ⟨by rw[z17]; omega,trivial⟩]
   have e1:i64.wrap (i+1)=i+1:=wrapId om om
   refine .inl ⟨_,rfl,⟨?_,?_,?_⟩,?_⟩
   ·simp only[e1]; omega
   ·simp only[e1]; omega
   ·simp only[e1]
    have e2:(i+1-1).toNat=(i-1).toNat+1:=om
    have e3:(((i-1).toNat:Nat):Int)+1=i:=om
    rw[e2,z7c,e3]
   ·simp only[e1]; omega
  ·rw[y5 (by simpa using c)]
   refine .inr ⟨_,rfl,rfl,rfl,?_⟩
   have:i=n+1:=om
   subst this
   rw[show (n+1-1).toNat=n.toNat from om]) 10 ((⟨n,[]⟩:TTr),([]:List TMe),([]:List TJo),1) (by simp only; omega) ⟨by simp only; omega,by simp only; omega,rfl⟩
 obtain⟨h1,h2,h3⟩:=hs
 rw[e]
 simp only[zl,h1,h2,h3]
 rw[z6 ⟨by rw[z17]; omega,trivial⟩]
 rfl
def sumTo (f:Nat->Int) (n:Nat):Int:=((List.range n).map f).sum
theorem z14 (f:Nat->Int) (n:Nat):sumTo f (n+1)=sumTo f n+f n:=by simp[sumTo,List.range_succ,List.sum_append]
theorem z9j (f:Nat->Int):sumTo f 0=0:=rfl
theorem z9k {f g:Nat->Int} (h:∀ k,k<n->f k<=g k):sumTo f n<=sumTo g n:=by
 induction n with
 | zero=>exact y1e _
 | succ n ih =>
  rw[z14,z14]
  have:=ih fun k hk=>h k om
  have:=h n om
  omega
theorem z9l {f:Nat->Int} {B:Int} (h:∀ k,k<n->0<=f k/\f k<=B):0<=sumTo f n/\sumTo f n<=n * B:=by
 induction n with
 | zero=>simp[z9j]
 | succ n ih =>
  rw[z14]
  have:=ih fun k hk=>h k om
  have:=h n om
  have e:((n+1:Nat):Int) * B=(n:Int) * B+B:=by rw[Int.natCast_add,Int.add_mul]; simp
  omega
theorem z7x (l:List Int):l.sum=sumTo (fun k=>l.getD k default) l.length:=by
 unfold sumTo
 congr 1
 refine y3b sj fun i h1 h2=>?_
 rw[y3l,y3d,z13 h1]
noncomputable def heldK (w:TWo) (c:List UInt8) (y:Int) (k:Nat):Int:=(rightV (noW w k).H c y).A-(rightV (noW w k).H c y).N
noncomputable def usedK (w:TWo) (c:List UInt8) (y:Int) (k:Nat):Int:=usedE (noW w k).Af c y
noncomputable def heldW (w:TWo) (c:List UInt8) (y:Int):Int:=sumTo (heldK w c y) w.O.length
noncomputable def usedW (w:TWo) (c:List UInt8) (y:Int):Int:=sumTo (usedK w c y) w.O.length
theorem z6s (h:VW w) (c:List UInt8) (y:Int) (hk:k<w.O.length):0<=heldK w c y k/\heldK w c y k<=1000000000000000/\0<=usedK w c y k/\usedK w c y k<=heldK w c y k:=by
 obtain⟨q1,q2,q3⟩:=h.2.2.2.1 k hk
 have hv:VO (noW w k):=q1.now
 have h1:=z4p hv.ok c y
 have h2:=z2h hv.val c y
 have h3:=hv.unused_nn c y
 rw[hv.unused c y] at h3
 unfold heldK usedK
 omega
theorem zpi {n:Int} (hp:J13.PotOk n p):J13.outV p=sumTo (fun k=>nthN p.A k-nthN p.J k) n.toNat:=by
 have l1:=hp.2.2.2.1.1.1
 have l2:=hp.2.2.2.1.2.1.1
 unfold J13.outV
 rw[show min p.A.length p.J.length=p.A.length from om,y3c,show p.A.length=p.J.length from om,y3c,z7x,z7x,show p.A.length=p.J.length from om,show p.J.length=n.toNat from om]
 have:∀ (f g:Nat->Int) (m:Nat),sumTo f m-sumTo g m=sumTo (fun k=>f k-g k) m:=fun f g m=>by
  induction m with
  | zero=>rfl
  | succ m ih=>rw[z14,z14,z14,<- ih]; omega
 exact this _ _ _
theorem zsw (h:VW w) (hp:J13.hasP w.K.D c y=true):0<=usedW w c y/\usedW w c y<=heldW w c y/\heldW w c y<=J13.outV (J13.potAt w.K c y)/\J13.outV (J13.potAt w.K c y)<=6000000000000000:=by
 have hk:=h.1.potAt hp
 have h2:=h.2.1
 have hl:=h.len
 have e:w.K.M.toNat=w.O.length:=om
 rw[zpi hk,e]
 have b1:=z9l (f:=usedK w c y) (n:=w.O.length) (B:=1000000000000000) fun k hk=>by have:=z6s h c y hk; omega
 have hpk:∀ k,k<w.O.length->heldK w c y k<=nthN (J13.potAt w.K c y).A k-nthN (J13.potAt w.K c y).J k/\nthN (J13.potAt w.K c y).A k-nthN (J13.potAt w.K c y).J k<=1000000000000000:=fun k hkl=>by
  obtain⟨q1,q2,q3⟩:=h.2.2.2.1 k hkl
  have hv:VO (noW w k):=q1.now
  have lg:=hk.2.2.2.1.1
  have lh:=hk.2.2.2.1.2.1
  have t1:=lg.2 _ (z7 (show k<_ by have:=lg.1; omega))
  have t2:=lh.2 _ (z7 (show k<_ by have:=lh.1; omega))
  have t3:=hk.2.2.2.2.1.1 k (by have:=lg.1; omega)
  have hh:=z5o q3 hp
  have hle:=(zd8 q1 c y).2.2.2
  have hr:=z4p hv.ok c y
  unfold J13.tot at t1 t2
  unfold heldK nthN at *
  refine⟨?_,om⟩
  by_cases hold:hasR (noW w k).H c y=true
  ·obtain⟨o1,o2,o3⟩:=z4k hv q3 hold
   unfold nthN at o2
   have hle':(rightV (stW w k).H c y).N<=(rightV (noW w k).H c y).N:=hle
   omega
  ·have e0:rightV (noW w k).H c y=⟨c,y,0,0,0⟩:=y5 hold
   rw[e0]
   show (0:Int)-0<=_
   omega
 refine⟨b1.1,z9k fun k hk=>(z6s h c y hk).2.2.2,z9k fun k hk=>(hpk k hk).1,?_⟩
 have b2:=z9k (f:=fun k=>nthN (J13.potAt w.K c y).A k-nthN (J13.potAt w.K c y).J k) (g:=fun _=>1000000000000000) (n:=w.O.length) fun k hk=>(hpk k hk).2
 have b3:=z9l (f:=fun _=>(1000000000000000:Int)) (n:=w.O.length) (B:=1000000000000000) fun k hk=>om
 omega
noncomputable def shW (p:TPo):Int:=max (J13.outV p-p.V) 0
theorem z4r (h:VW w) (hp:p∈w.K.D) :
  (J13.hasP w.K.D p.C p.E=true/\J13.potAt w.K p.C p.E=p)/\(F_q2t p=some (J13.outV p)/\F_qe p=some (J13.outV p)/\F_q3x p=some (shW p)/\F_q3f p=some (shW p)) /\
  (0<=usedW w p.C p.E/\usedW w p.C p.E<=heldW w p.C p.E/\heldW w p.C p.E<=J13.outV p/\J13.outV p<=6000000000000000)/\(-1000000000000000<=p.V/\p.V<=1000000000000000):=by
 have h1:=z8j h.1 hp
 have h2:=zsw h h1.1
 have h3:=h.1.potAt h1.1
 have h6:=h.1.1
 rw[h1.2] at h2 h3
 have l1:=h3.2.2.2.1.1.1
 have ht:=h3.2.2.1
 have e1:F_q2t p=some (J13.outV p):=by rw[J13.Out_eq,wrapId om om]
 have e2:F_qe p=some (J13.outV p):=by rw[J13.r13_Out_eq om,wrapId om om]
 have e3:F_q3x p=some (shW p):=by
  rw[J13.Shortfall_eq,wrapId om om]
  rfl
 have e4:F_q3f p=some (shW p):=by
  simp only[F_q3f,S_q3f,Scr.den,e2,obind]
  rw[wrapId (n:=J13.outV p-p.V) om om]
  have key:∀ n:Int,(if n>0 then n else 0)=max n 0:=fun n=>by split <;> omega
  exact yk some (key _)
 exact⟨h1,⟨e1,e2,e3,e4⟩,h2,ht⟩
theorem zej (h:VW w) (c:List UInt8) (y:Int) (hi:i<=w.O.length):0<=sumTo (heldK w c y) i/\sumTo (heldK w c y) i<=6000000000000000/\0<=sumTo (usedK w c y) i/\sumTo (usedK w c y) i<=6000000000000000:=by
 have hl:=h.len
 have b1:=z9l (f:=heldK w c y) (n:=i) (B:=1000000000000000) fun k hk=>by have:=z6s h c y (show k<w.O.length from om); omega
 have b2:=z9l (f:=usedK w c y) (n:=i) (B:=1000000000000000) fun k hk=>by have:=z6s h c y (show k<w.O.length from om); omega
 omega
theorem zjv (h:VW w) (hp:p∈w.K.D):F_q22 (ups w.O.length (noW w)) p=some (p.V,J13.outV p,heldW w p.C p.E,usedW w p.C p.E):=by
 simp only[F_q22,S_q22,Scr.den,(z4r h hp).2.1.1,obind]
 obtain⟨s,e,hs⟩:=zi (body:=fun i s=>(S_q22_b1 (ups w.O.length (noW w)) p i s).den) (n:=(ups w.O.length (noW w)).length) (fun i s=>s=(sumTo (heldK w p.C p.E) i,sumTo (usedK w p.C p.E) i)) (s0:=((0:Int),(0:Int))) rfl (fun i s hi hI=>by
  subst hI
  rw[z17] at hi
  obtain⟨q1,q2,q3⟩:=h.2.2.2.1 i hi
  have hv:VO (noW w i):=q1.now
  have hb:=z6s h p.C p.E hi
  have p1:=zej h p.C p.E (show i<=w.O.length from om)
  have p2:=zej h p.C p.E (show i+1<=w.O.length from om)
  rw[z14,z14] at p2
  simp only[S_q22_b1,Scr.den]
  rw[z5h hi,z4i,zaj]
  simp only[obind]
  rw[hv.unused,show (rightV (noW w i).H p.C p.E).A-(rightV (noW w i).H p.C p.E).N=heldK w p.C p.E i from rfl,show usedE (noW w i).Af p.C p.E=usedK w p.C p.E i from rfl,wrapId (n:=heldK w p.C p.E i) om om,show heldK w p.C p.E i-(heldK w p.C p.E i-usedK w p.C p.E i)=usedK w p.C p.E i from om,wrapId (n:=usedK w p.C p.E i) om om,wrapId om om,wrapId om om]
  exact⟨_,rfl,by rw[z14,z14]⟩)
 rw[e,hs,z17]
 rfl
theorem zek (h:VW w) (hp:J13.hasP w.K.D c y=true):F_q3w w c y=some ((J13.potAt w.K c y).V,J13.outV (J13.potAt w.K c y),heldW w c y,usedW w c y):=by
 have hcy:=J13.potAt_cy hp
 have hm:J13.potAt w.K c y∈w.K.D:=z7 (J13.pix_lt hp).1
 have hs:=zjv h hm
 rw[hcy.1,hcy.2] at hs
 simp only[F_q3w,S_q3w,Scr.den,J13.Pot_eq h.1.small,z5i hp,obind,z4d h,z8,zap h]
 rw[zf (by simp[AllP])]
 simp only[obind]
 rw[y5 dk,hs]
 rfl
variable {u h:Int}
theorem znt {o t s:Int} (h1:0<=u) (h2:u<=h) (h3:h<=o) (hs:s=max (o-t) 0) (h4:o<=6000000000000000) (h5:-1000000000000000<=t/\t<=1000000000000000):¬ (decide (u>h)||decide (h>o))=true/\¬ ((decide (u>h)||decide (h>o))||decide (o>i64.wrap (t+s)))=true:=by
 rw[wrapId (n:=t+s) om om]
 simp only[yc,y7]
 omega
theorem z8k (h:VW w):F_q23 w=some true:=by
 simp only[F_q23,S_q23,Scr.den,z4d h,zap h,obind]
 rw[y5 dk]
 obtain⟨s,e,hs⟩:=zi (body:=fun i s=>(S_q23_b1 w (ups w.O.length (noW w),ups w.O.length (stW w),true) i s).den) (n:=w.K.D.length) (fun _ _=>True) (s0:=()) trivial (fun i s hi _=>by
  obtain⟨p,ep⟩:∃ p,p=w.K.D.getD i default:=⟨_,rfl⟩
  have hm:p∈w.K.D:=by rw[ep]; exact z7 hi
  obtain⟨f1,f2,f3,f4⟩:=z4r h hm
  obtain⟨s1,s2⟩:=znt f3.1 f3.2.1 f3.2.2.1 (s:=shW p) rfl f3.2.2.2 f4
  simp only[S_q23_b1,Scr.den]
  rw[<- ep,zjv h hm,f2.2.2.1]
  simp only[obind,z8]
  rw[zf (gs:=[(decide (usedW w p.C p.E>heldW w p.C p.E)||decide (heldW w p.C p.E>J13.outV p))=false]) ⟨y3r.2 s1,trivial⟩]
  simp only[obind]
  rw[y5 s2]
  exact⟨(),rfl,trivial⟩)
 rw[e]
 rfl
theorem ziw (h:VW w) (hp:p∈w.K.D):F_q2i w p=some (p.V,J13.outV p,heldW w p.C p.E,usedW w p.C p.E):=by
 simp only[F_q2i,S_q2i,Scr.den,(z4r h hp).2.1.2.1,obind]
 obtain⟨s,e,hs⟩:=zi (body:=fun i s=>(S_q2i_b1 w p i s).den) (n:=w.O.length) (fun i s=>s=(sumTo (heldK w p.C p.E) i,sumTo (usedK w p.C p.E) i)) (s0:=((0:Int),(0:Int))) rfl (fun i s hi hI=>by
  subst hI
  obtain⟨q1,q2,q3⟩:=h.2.2.2.1 i hi
  have hv:VO (noW w i):=q1.now
  have hb:=z6s h p.C p.E hi
  have p2:=zej h p.C p.E (show i+1<=w.O.length from om)
  rw[z14,z14] at p2
  simp only[S_q2i_b1,Scr.den]
  rw[show w.O.getD i default=jAt w i from rfl,z7d q1]
  simp only[obind]
  rw[z1z,z45,(z2h (b:=(nowJ (jAt w i)).Af) q1.now.val p.C p.E).1]
  simp only[obind]
  rw[show (rightV (nowJ (jAt w i)).H p.C p.E).A-(rightV (nowJ (jAt w i)).H p.C p.E).N=heldK w p.C p.E i from rfl,show usedE (nowJ (jAt w i)).Af p.C p.E=usedK w p.C p.E i from rfl,wrapId (n:=heldK w p.C p.E i) om om,wrapId om om,wrapId om om]
  exact⟨_,rfl,by rw[z14,z14]⟩)
 rw[e,hs]
 rfl
theorem zix (h:VW w):F_q2j w=some true:=by
 simp only[F_q2j,S_q2j,Scr.den,z52 h,obind]
 rw[y5 dk]
 obtain⟨s,e,hs⟩:=zi (body:=fun i s=>(S_q2j_b1 w i s).den) (n:=w.K.D.length) (fun _ _=>True) (s0:=()) trivial (fun i s hi _=>by
  obtain⟨p,ep⟩:∃ p,p=w.K.D.getD i default:=⟨_,rfl⟩
  have hm:p∈w.K.D:=by rw[ep]; exact z7 hi
  obtain⟨f1,f2,f3,f4⟩:=z4r h hm
  obtain⟨s1,s2⟩:=znt f3.1 f3.2.1 f3.2.2.1 (s:=shW p) rfl f3.2.2.2 f4
  simp only[S_q2j_b1,Scr.den]
  rw[<- ep,ziw h hm,f2.2.2.2]
  simp only[obind,z8]
  rw[zf (gs:=[(decide (usedW w p.C p.E>heldW w p.C p.E)||decide (heldW w p.C p.E>J13.outV p))=false]) ⟨y3r.2 s1,trivial⟩]
  simp only[obind]
  rw[y5 s2]
  exact⟨(),rfl,trivial⟩)
 rw[e]
 rfl
theorem znu (l:List Int):F_q10 l l=some true:=by
 simp only[F_q10,S_q10,Scr.den]
 rw[y5 sj]
 have ra:=zx (ρ:=Bool) (n:=l.length) (c:=false) (body:=fun i s=>(S_q10_b1 l l i s).den) (fun _=>True) (fun i hi _=>by
  simp only[S_q10_b1,Scr.den]
  rw[z6 (by simp only[AllP,yw]; exact hi),y5 sj]) (fun i hi h=>absurd trivial h)
 rw[ra.1 fun _ _=>trivial]
 rfl
theorem zhu (p:TPo):F_q6c p p=some true:=by
 simp only[F_q6c,S_q6c,Scr.den,znu,beq_self_eq_true,zb,y42]
 rw[zf (by exact⟨trivial,trivial⟩)]
 simp only[obind,y42]
 rw[zf (by exact⟨trivial,trivial⟩)]
 simp only[obind,y42]
 rw[zf (by exact⟨trivial,trivial⟩)]
 simp only[obind,y42]
 rw[zf (by exact⟨trivial,trivial⟩)]
 simp only[obind,y42]
theorem znv (h:t.D.length<=1000000):F_q17 t t=some true:=by
 simp only[F_q17,S_q17,Scr.den,z8]
 rw[y5 sj,z6 (by simp only[AllP,yw]; omega)]
 have ra:=zx (ρ:=Bool) (n:=t.D.length) (c:=false) (body:=fun i s=>(S_q17_b1 t t i s).den) (fun _=>True) (fun i hi _=>by
  simp only[S_q17_b1,Scr.den,zhu,obind]
  rw[z6 (by simp only[AllP,yw]; exact hi),y5 sj]) (fun i hi h=>absurd trivial h)
 rw[ra.1 fun _ _=>trivial]
 rfl
theorem VW.same (h:VW w):F_q17 w.K w.K=some true:=znv (by have:=h.1.2.1; omega)
theorem ztp (k a b:Int) (K:Bool->Option α) (R:ρ->Option α):outM (if (k==a)=true then some (Out.next (k==a)) else some (Out.next (k==b))) K R=K (decide (k=a\/k=b)):=by
 by_cases h1:k=a
 ·rw[y6 (by simpa using h1)]; simp[outM,h1]
 rw[y5 (by simpa using h1)]
 simp only[outM,h1,false_or]
 rfl
variable {o:TOf}
theorem zhv (hv:VO o) {s:TTape} (hs:TapeOk s) (day:Int):∃ p s',F_q4w o day s=some (p,s')/\TapeOk s'/\p.C.length<=60:=by
 obtain⟨p,s1,e1,t1,hc,_⟩:=zp2 hv hs day
 have h0:([]:List UInt8).length<=60:=dk
 simp only[F_q4w,S_q4w,Scr.den,e1,obind,ztp]
 by_cases k:p.P=1
 ·rw[y6 (by simp[k])]; exact⟨_,_,rfl,t1,hc⟩
 rw[y5 (by simp[k])]
 by_cases k:p.P=2
 ·rw[y6 (by simp[k])]; exact⟨_,_,rfl,t1,h0⟩
 rw[y5 (by simp[k])]
 by_cases k:p.P=3
 ·rw[y6 (by simp[k])]; exact⟨_,_,rfl,t1,h0⟩
 rw[y5 (by simp[k])]
 by_cases k:p.P=4
 ·rw[y6 (by simp[k])]; exact⟨_,_,rfl,t1,h0⟩
 rw[y5 (by simp[k])]
 by_cases k:p.P=5\/p.P=6
 ·rw[y6 (by simpa using k)]; exact⟨_,_,rfl,t1,h0⟩
 rw[y5 (by simpa using k)]
 by_cases k:p.P=7
 ·rw[y6 (by simp[k])]; exact⟨_,_,rfl,t1,hc⟩
 rw[y5 (by simp[k])]
 by_cases k:p.P=8
 ·rw[y6 (by simp[k])]; exact⟨_,_,rfl,t1,hc⟩
 rw[y5 (by simp[k])]
 exact⟨_,_,rfl,t1,h0⟩
theorem zg1 (h:VW w) {n:Int} (hn:1<=n/\n<=w.O.length):F_q4v w n=some (noW w (n-1).toNat,0):=by
 have hl:=h.len
 have hlt:(n-1).toNat<w.O.length:=om
 simp only[F_q4v,S_q4v,Scr.den,z52 h,F_q3j,S_q3j,zb,obind]
 rw[y5 dk,y5 sk,wrapId (n:=n-1) om om,show w.O.getD (n-1).toNat default=jAt w (n-1).toNat from rfl,z7d (h.2.2.2.1 _ hlt).1]
 simp only[obind]
 rw[z6 ⟨om,hlt,trivial⟩]
 rfl
theorem zl7 (h:c.length<=60):(answerS o c y).1.C.length<=60:=by
 unfold answerS
 by_cases h1:VO o
 ·rw[y5 (fun k=>k h1)]
  by_cases h2:wantedS (rightV o.H c y) (usedV o.Af c y)=0
  ·rw[y6 h2]; exact y20 _
  ·rw[y5 h2]; exact h
 ·rw[y6 h1]; exact y20 _
def GS (n:Nat) (s:TSt):Prop:=(1<=s.Z/\s.Z<=n)/\s.C.length<=60/\s.Op.C.length<=60
def GA (s:TSt):Prop:=s.P=1->0<=s.S/\s.S<=900
theorem znw:(([[49],[50]]:List (List UInt8)).getD i default).length<=60:=by
 match i with
 | 0=>decide
 | 1=>decide
 | _+2=>exact y20 _
theorem znx (h:VW w) {n i day:Int} (hn:(w.O.length:Int)=n) (hi:0<=i) {s:TTape} (hs:TapeOk s):∃ p s',F_q2y w n i day s=some (p,s')/\TapeOk s'/\GS w.O.length p/\GA p:=by
 have hl:=h.len
 have hml:=h.2.2.1
 obtain⟨k,s1,e1,t1,k1⟩:=z32 (l:=[1,2,2,4,4,5,5,5,5,6,7,8,8,9,9,9,9,10,11,3]) hs dk dk
 obtain⟨o,s2,e2,t2,o1⟩:=z1v (lo:=1) (hi:=n) t1 om om om
 obtain⟨c,s3,e3,t3,c1⟩:=z28 (n:=2) t2 om om
 obtain⟨a,s4,e4,t4,a1⟩:=z1v (lo:=1) (hi:=200) t3 om om om
 have lm:(1:Int)<=(if (w.W.length:Int)>1 then (w.W.length:Int) else 1)/\(if (w.W.length:Int)>1 then (w.W.length:Int) else 1)<=1000000:=by split <;> omega
 obtain⟨x,s5,e5,t5,x1⟩:=z28 (n:=(if (w.W.length:Int)>1 then (w.W.length:Int) else 1)) t4 lm.1 om
 simp only[F_q2y,S_q2y,Scr.den,e1,e2,e3,e4,e5,obind]
 rw[z6 ⟨om,om,trivial⟩]
 have q6:∃ v:TSt,(if decide (i<3)=true then guardP (AllP [(0:Int)<=i,(i).toNat<3]) (some (Out.next (⟨(([1,2,4]:List Int).getD ((i).toNat) default),1,(⟨0,[],0,0,0,0,0,0,0,0⟩:TOp),[49],12,a,x⟩:TSt)))
   else some (Out.next (⟨k,o,(⟨0,[],0,0,0,0,0,0,0,0⟩:TOp),(([[49],[50]]:List (List UInt8)).getD ((c).toNat) default),12,a,x⟩:TSt)):Option (Out TSt R_q2y))=some (Out.next v)/\GS w.O.length v:=by
  by_cases ci:i<3
  ·rw[y6 (by simpa using ci),z6 ⟨hi,om,trivial⟩]
   exact⟨_,rfl,⟨y1e _,by show (1:Int)<=_; omega⟩,by show ([49]:List UInt8).length<=60; decide,y20 _⟩
  ·rw[y5 (by simpa using ci)]
   exact⟨_,rfl,⟨o1.1,by show o<=_; omega⟩,znw,y20 _⟩
 obtain⟨v6,q6,g6⟩:=q6
 rw[q6]
 simp only[zl]
 have q7:∃ v:TSt,(if (i==3)=true then some (Out.next (⟨9,v6.Z,v6.Op,v6.C,v6.E,v6.S,0⟩:TSt)) else some (Out.next v6):Option (Out TSt R_q2y))=some (Out.next v)/\GS w.O.length v:=by
  by_cases ci:i=3
  ·rw[y6 (by simpa using ci)]; exact⟨_,rfl,g6⟩
  ·rw[y5 (by simpa using ci)]; exact⟨_,rfl,g6⟩
 obtain⟨v7,q7,g7⟩:=q7
 rw[q7]
 simp only[zl]
 have q8:∃ v:TTape×TSt,(if (v7.P==1)=true then (F_q5 900 s5).bind fun rv9=>(F_qu ([300,rv9.1,50]:List Int) rv9.2).bind fun rv10=>some (Out.next (rv10.2,(⟨v7.P,v7.Z,v7.Op,v7.C,v7.E,rv10.1,v7.Ai⟩:TSt)))
   else some (Out.next (s5,v7)):Option (Out (TTape×TSt) R_q2y))=some (Out.next v)/\TapeOk v.1/\GS w.O.length v.2/\GA v.2:=by
  by_cases ck:v7.P=1
  ·rw[y6 (by simpa using ck)]
   obtain⟨z1,s6,q1,t6,y1⟩:=z28 (n:=900) t5 om om
   obtain⟨z2,s7,q2,t7,y2⟩:=z32 (l:=[300,z1,50]) t6 sj sj
   simp only[q1,q2,obind]
   refine⟨_,rfl,t7,g7,fun _=>?_⟩
   simp at y2
   show 0<=z2/\z2<=900
   omega
  ·rw[y5 (by simpa using ck)]
   exact⟨_,rfl,t5,g7,fun k=>absurd k ck⟩
 obtain⟨v8,q8,t8,g8,a8⟩:=q8
 rw[q8]
 simp only[zl]
 by_cases c5:v8.2.P=5
 ·rw[y6 (by simpa using c5),zg1 h g8.1]
  simp only[obind]
  rw[y5 dk]
  simp only[zl]
  have hlt:(v8.2.Z-1).toNat<w.O.length:=by have:=g8.1; omega
  have hv:VO (noW w (v8.2.Z-1).toNat):=(h.2.2.2.1 _ hlt).1.now
  obtain⟨p,s9,e9,t9,pc⟩:=zhv hv t8 day
  rw[e9]
  simp only[obind]
  rw[zfx hv.smO (by have:=g8.2.1; omega)]
  simp only[obind]
  have na:∀ {q:TOp},GA (⟨v8.2.P,v8.2.Z,q,v8.2.C,v8.2.E,v8.2.S,v8.2.Ai⟩:TSt):=fun {q} k=>absurd (show v8.2.P=1 from k) om
  by_cases ca:(answerS (noW w (v8.2.Z-1).toNat) v8.2.C v8.2.E).2=true
  ·rw[zf (gs:=[(answerS (noW w (v8.2.Z-1).toNat) v8.2.C v8.2.E).2=true]) ⟨ca,trivial⟩]
   obtain⟨z3,s10,e10,t10,_⟩:=z28 (n:=3) t9 om om
   rw[e10]
   simp only[obind,zb]
   by_cases cz:z3=0
   ·rw[ca,y41,y6 (by simpa using cz)]
    exact⟨_,_,rfl,t10,⟨g8.1,g8.2.1,zl7 g8.2.1⟩,na⟩
   ·rw[ca,y41,y5 (by simpa using cz)]
    exact⟨_,_,rfl,t10,⟨g8.1,g8.2.1,pc⟩,na⟩
  ·rw[show ∀ {α:Type} (x:Option α) (d:α),optD [(answerS (noW w (v8.2.Z-1).toNat) v8.2.C v8.2.E).2=true] x d=some d from fun _ _=>y5 fun h=>ca h.1]
   simp only[obind,zb]
   rw[y3r.2 ca,Bool.false_and,y5 dk]
   exact⟨_,_,rfl,t9,⟨g8.1,g8.2.1,pc⟩,na⟩
 ·rw[y5 (by simpa using c5)]
  exact⟨_,_,rfl,t8,g8,a8⟩
theorem GS.ok (h:GS n s):SOk s:=⟨by have:=h.2.1; omega,by have:=h.2.2; omega⟩
theorem z65 (h:VW w) (h0:(stepW w s).2=0):(stepW w s).1.O.length=w.O.length/\VW (stepW w s).1:=by
 have hk:=zju h s
 have hv:VW (stepW w s).1:=by
  rcases hk with ⟨_,hk⟩ | ⟨hk,_⟩
  ·exact hk
  ·exact absurd h0 hk
 refine⟨?_,hv⟩
 have send:∀ {m:TMe} {e:Int},(sendS w m e).2=0->(sendS w m e).1.O.length=w.O.length:=fun {m e} h0=>by
  by_cases c:e=0
  ·subst c
   by_cases hl:w.W.length=200
   ·rw[z41 hl] at h0; cases h0
   ·rw[z3a hl]
  ·rw[z3s c] at h0; exact absurd h0 c
 have tres:∀ {r:TTr×Int},(tresS w r).2=0->(tresS w r).1.O.length=w.O.length:=fun {r} h0=>by
  unfold tresS at h0 |-
  by_cases c:r.2=0
  ·rw[y5 (by simp[c])]
  ·rw[y6 c] at h0; exact absurd h0 c
 have keep:∀ {w':TWo} {k:Nat} {j:TJo} {e:Int},(keepS w' k j e).2=0->(keepS w' k j e).1.O.length=w'.O.length:=fun {w' k j e} h0=>by
  by_cases c:e=0
  ·subst c
   rw[z1l]
   exact yb
  ·rw[z33 c] at h0; exact absurd h0 c
 by_cases k:s.P=1
 ·rw[z5j k] at h0 |-; exact tres h0
 by_cases k2:s.P=2
 ·rw[z5k k2] at h0 |-; exact tres h0
 by_cases k3:s.P=3
 ·rw[z6n k3] at h0 |-; exact tres h0
 by_cases k4:s.P=4
 ·rw[z5l k4] at h0 |-; exact send h0
 by_cases ka:5<=s.P/\s.P<=8
 ·rw[z6o ka] at h0 |-
  unfold actS at h0 |-
  by_cases h1:1<=s.Z/\s.Z<=w.O.length
  ·rw[y5 (fun g=>g h1)] at h0 |-
   by_cases c5:s.P=5
   ·rw[y6 c5] at h0 |-
    by_cases c8:s.Op.P=8
    ·rw[y6 c8] at h0; cases h0
    ·rw[y5 c8] at h0 |-; exact keep h0
   rw[y5 c5] at h0 |-
   by_cases c6:s.P=6
   ·rw[y6 c6] at h0 |-; exact keep h0
   rw[y5 c6] at h0 |-
   by_cases c7:s.P=7
   ·rw[y6 c7] at h0 |-; exact keep h0
   rw[y5 c7] at h0 |-
   exact send h0
  ·rw[y6 h1] at h0; cases h0
 by_cases km:9<=s.P/\s.P<=11
 ·rw[z2v km] at h0 |-
  unfold mailS at h0 |-
  by_cases h1:0<=s.Ai/\s.Ai<w.W.length
  ·rw[y5 (fun g=>g h1)] at h0 |-
   by_cases c9:s.P=9
   ·rw[y6 c9] at h0 |-
    unfold delivS at h0 |-
    by_cases c0:(mAt w s.Ai.toNat).To=0
    ·rw[y6 c0] at h0 |-
     by_cases c1:(J13.hearM w.K (mAt w s.Ai.toNat)).2=0
     ·rw[y5 (fun k=>k c1)]
     ·rw[y6 c1] at h0; exact absurd h0 c1
    ·rw[y5 c0] at h0 |-; exact keep h0
   rw[y5 c9] at h0 |-
   by_cases c11:s.P=11
   ·rw[y6 c11] at h0 |-; exact send h0
   rw[y5 c11]
   rfl
  ·rw[y6 h1] at h0; cases h0
 ·rw[z6p om] at h0; cases h0
theorem zhw {n:Int} (h:0<=n):((newW n).O.length:Int)=n:=by
 show ((ups _ _).length:Int)=n
 rw[z17]; omega
theorem z9m {n m:Int} (hn:1<=n/\n<=6) (hm:0<=m/\m<=1000) {s:TTape} (hs:TapeOk s):∃ l s',F_qs n m s=some (l,s')/\TapeOk s'/\(l.length:Int)<=m/\∀ x∈l,GS n.toNat x/\GA x:=by
 simp only[F_qs,S_qs,Scr.den,zdf hn,obind]
 obtain⟨v,e,hv⟩:=z2k (step:=fun s=>(S_qs_b1 n m s).den) (fun s=>(m-s.2.2.2.2).toNat) (fun s=>TapeOk s.1/\VW s.2.1/\(s.2.1.O.length:Int)=n/\(0<=s.2.2.2.2/\s.2.2.2.2<=m/\(s.2.2.1.length:Int)=s.2.2.2.2)/\∀ x∈s.2.2.1,GS n.toNat x/\GA x)
  (fun s=>TapeOk s.1/\(s.2.2.1.length:Int)<=m/\∀ x∈s.2.2.1,GS n.toNat x/\GA x) (fun s hI=>by
   obtain⟨i1,i2,i3,i4,i5⟩:=hI
   obtain⟨t,w,l,d,i⟩:=s
   simp only at i1 i2 i3 i4 i5
   simp only[S_qs_b1,Scr.den]
   by_cases c:i<m
   ·rw[y6 (by simpa using c)]
    obtain⟨z1,s6,q1,t6,y1⟩:=z28 (n:=9) i1 om om
    obtain⟨z2,s7,q2,t7,y2⟩:=z32 (l:=[0,1,z1]) t6 sj sj
    obtain⟨p,s8,q3,t8,g1,g2⟩:=znx i2 (day:=i64.wrap (d+z2)) i3 i4.1 t7
    rw[q1]
    simp only[obind]
    rw[q2]
    simp only[obind]
    rw[q3]
    simp only[obind]
    rw[zfi i2 g1.ok.1 g1.ok.2]
    simp only[obind]
    have ei:i64.wrap (i+1)=i+1:=wrapId om om
    have hg:GS n.toNat p:=by rw[show n.toNat=w.O.length from om]; exact g1
    have hall:∀ x∈l++[p],GS n.toNat x/\GA x:=fun x hx=>by
     rcases y1j.1 hx with hx | hx
     ·exact i5 x hx
     ·rw[y2z.1 hx]; exact⟨hg,g2⟩
    have hlen:((l++[p]).length:Int)=i+1:=by rw[yo]; simp; omega
    by_cases c0:(stepW w p).2=0
    ·rw[y6 (by simpa using c0)]
     simp only[zl]
     rw[z6 ⟨om,trivial⟩,ei]
     obtain⟨w1,w2⟩:=z65 i2 c0
     exact .inl ⟨_,rfl,⟨t8,w2,by show ((stepW w p).1.O.length:Int)=n; omega,⟨by show 0<=i+1; omega,by show i+1<=m; omega,hlen⟩,hall⟩,by show (m-(i+1)).toNat<(m-i).toNat; omega⟩
    ·rw[y5 (by simpa using c0)]
     simp only[zl]
     rw[z6 ⟨om,trivial⟩,ei]
     exact .inl ⟨_,rfl,⟨t8,i2,i3,⟨by show 0<=i+1; omega,by show i+1<=m; omega,hlen⟩,hall⟩,by show (m-(i+1)).toNat<(m-i).toNat; omega⟩
   ·rw[y5 (by simpa using c)]
    exact .inr ⟨_,rfl,i1,by show (l.length:Int)<=m; omega,i5⟩) 1001 (s,newW n,[],4320,0) (by show (m-0).toNat<1001; omega) ⟨hs,zar hn,zhw om,⟨y1e _,hm.1,rfl⟩,fun x hx=>(by cases hx)⟩
 obtain⟨h1,h2,h3⟩:=hv
 rw[e]
 simp only[zl]
 rw[z6 ⟨om,trivial⟩]
 exact⟨_,_,rfl,h1,h2,h3⟩
def mA:TMe:=⟨0,1,[49],12,100,0,0,0⟩
def pA:TOp:=hearOp mA
def tA:TTr:=⟨1,[⟨[49],12,100,[100],[0],[0],[0]⟩]⟩
def tB:TTr:=⟨1,[⟨[49],12,100,[0],[0],[0],[0]⟩]⟩
def zS:TOp:=⟨0,[],0,0,0,0,0,0,0,0⟩
abbrev LA:List TSt:=[(⟨1,0,(⟨0,[],0,0,0,0,0,0,0,0⟩:TOp),[49],12,100,0⟩:TSt),(⟨2,1,(⟨0,[],0,0,0,0,0,0,0,0⟩:TOp),[49],12,100,0⟩:TSt),(⟨4,1,(⟨0,[],0,0,0,0,0,0,0,0⟩:TOp),[49],12,0,0⟩:TSt),(⟨11,0,(⟨0,[],0,0,0,0,0,0,0,0⟩:TOp),[],0,0,0⟩:TSt),(⟨9,0,(⟨0,[],0,0,0,0,0,0,0,0⟩:TOp),[],0,0,0⟩:TSt),(⟨9,0,(⟨0,[],0,0,0,0,0,0,0,0⟩:TOp),[],0,0,0⟩:TSt)]
theorem zhx:good [49]=true:=dk
variable {w':TWo}
theorem z6t (h:VW w) (e:stepW w s=(w',0)):VW w':=by
 have:=(z65 h (s:=s) (by rw[e])).2
 rwa [e] at this
theorem zsx:POp pA:=by
 refine⟨dk,fun k hk=>?_,rfl⟩
 have hk:k=8\/k=0\/k=6\/k=7:=by
  have:k∈[8,0,6,7]:=hk
  simpa using this
 rcases hk with rfl | rfl | rfl | rfl
 ·exact (zd4 _).2 zhx
 ·exact (condN dk).2 dk
 ·exact (condN dk).2 dk
 ·exact (condN dk).2 dk
theorem zl8 (hv:VO o) (hl:hasR o.H [49] 12=true\/(o.H.length:Int)≠60):(doS o pA).2=0:=by
 rw[z8h hv dk]
 have e8:stepS o pA=hearS o pA:=y6 rfl
 rw[e8]
 exact zf8 hv (p:=pA) zhx ⟨dk,dk⟩ hl ⟨dk,dk⟩ ⟨dk,dk⟩
theorem zjw {p:TOp} (h8:p.P=8) (h0:(doS o p).2=0):(doS o p).1.Af=o.Af:=by
 obtain⟨hv,_,e⟩:=zb5 h0
 rw[e] at h0 |-
 have e8:stepS o p=hearS o p:=by unfold stepS; rw[y6 h8]
 rw[e8] at h0 |-
 obtain⟨r,e1,hr,h1,h2,h3,_⟩:=z8g hv h0
 rw[e1]
def wA (t:TTr) (r:List TOp) (m:List TMe):TWo:=⟨t,[⟨1,r,0⟩],m⟩
theorem vw0:VW (wA ⟨1,[]⟩ [] []):=zar (n:=1) dk
theorem zny:stepW (wA ⟨1,[]⟩ [] []) ⟨1,0,zS,[49],12,100,0⟩=(wA tB [] [],0):=by
 have h0:J13.TOk ⟨1,[]⟩:=vw0.1
 have e:J13.setM ⟨1,[]⟩ [49] 12 100=(tB,0):=by
  unfold J13.setM
  rw[y5 (fun k=>k h0),y5 (fun k=>k zhx),y5 (fun k=>k ⟨dk,dk⟩),y5 dk,y5 dk]
  rfl
 rw[z5j rfl]
 show tresS _ (J13.setM ⟨1,[]⟩ [49] 12 100)=_
 rw[e]
 rfl
theorem vw1:VW (wA tB [] []):=z6t vw0 zny
theorem znz:stepW (wA tB [] []) ⟨2,1,zS,[49],12,100,0⟩=(wA tA [] [],0):=by
 have h0:J13.TOk tB:=vw1.1
 have e:J13.grantM tB 1 [49] 12 100=(tA,0):=by
  unfold J13.grantM
  rw[y5 (fun k=>k h0),y5 dk,y5 dk,y5 dk,y5 dk]
  rfl
 rw[z5k rfl]
 show tresS _ (J13.grantM tB 1 [49] 12 100)=_
 rw[e]
 rfl
theorem vw2:VW (wA tA [] []):=z6t vw1 znz
theorem zo0:stepW (wA tA [] []) ⟨4,1,zS,[49],12,0,0⟩=(wA tA [] [mA],0):=by
 have h0:J13.TOk tA:=vw2.1
 have e:J13.tellM tA 1 [49] 12=(mA,0):=by
  unfold J13.tellM
  rw[y5 (fun k=>k h0),y5 dk]
  rfl
 rw[z5l rfl]
 show sendS _ (J13.tellM tA 1 [49] 12).1 (J13.tellM tA 1 [49] 12).2=_
 rw[e]
 exact z3a dk
theorem vw3:VW (wA tA [] [mA]):=z6t vw2 zo0
theorem zo1:stepW (wA tA [] [mA]) ⟨11,0,zS,[],0,0,0⟩=(wA tA [] [mA,mA],0):=by
 rw[z2v dk]
 unfold mailS
 rw[y5 (fun k=>k dk),y5 dk,y6 rfl]
 exact z3a dk
theorem vw4:VW (wA tA [] [mA,mA]):=z6t vw3 zo1
theorem zjx {r:List TOp} {m:List TMe} (h:(doS (runO (newO 1) r) pA).2=0) (hl:r.length≠400):stepW (wA tA r (mA :: m)) ⟨9,0,zS,[],0,0,0⟩=(wA tA (r++[pA]) m,0):=by
 rw[z2v dk]
 unfold mailS
 rw[y5 (fun k=>k ⟨dk,by show (0:Int)<((mA :: m).length:Int); simp⟩),y6 rfl]
 have e:appendS ⟨1,r,0⟩ pA=(⟨1,r++[pA],0⟩,0):=z39 zsx h hl
 have hne:¬ (mAt (wA tA r (mA :: m)) 0).To=0:=(by decide:¬ (1:Int)=0)
 refine (y5 hne).trans ?_
 show keepS (loseW (wA tA r (mA :: m)) 0) 0 (appendS ⟨1,r,0⟩ pA).1 (appendS ⟨1,r,0⟩ pA).2=_
 rw[e]
 exact z1l
theorem zo2:stepW (wA tA [] [mA,mA]) ⟨9,0,zS,[],0,0,0⟩=(wA tA [pA] [mA],0):=zjx (zl8 (z6m dk) (.inr dk)) dk
theorem vw5:VW (wA tA [pA] [mA]):=z6t vw4 zo2
theorem do1:(doS (newO 1) pA).2=0:=zl8 (z6m dk) (.inr dk)
theorem ztq:hasR (doS (newO 1) pA).1.H [49] 12=true:=((z3r do1).2 [49] 12).1.2 (.inr ⟨rfl,rfl,rfl⟩)
theorem do2:(doS (doS (newO 1) pA).1 pA).2=0:=zl8 (zb6 do1) (.inl ztq)
theorem zo3:stepW (wA tA [pA] [mA]) ⟨9,0,zS,[],0,0,0⟩=(wA tA [pA,pA] [],0):=zjx (r:=[pA]) do2 dk
theorem vw6:VW (wA tA [pA,pA] []):=z6t vw5 zo3
theorem z5q {L:List TSt} {l:List Int} (h:VW w) (hs:SOk (L.getD i default)) (hl:l.length<=1000) (e:stepW w (L.getD i default)=(w',0)):(S_q16_b1 L i (w,l)).den=some (.cont (w',l++[0])):=by
 simp only[S_q16_b1,Scr.den]
 rw[zfh h hs.1 hs.2,e]
 simp only[obind]
 rw[y6 dk]
 simp only[zl]
 rw[z6 ⟨om,trivial⟩]
theorem zsy:F_q16 1 LA=some (wA tA [pA,pA] [],[0,0,0,0,0,0],0):=by
 simp only[F_q16,S_q16,Scr.den,zcg (n:=1) dk,obind]
 rw[y5 dk,y5 dk]
 have h0:=z5q (L:=LA) (i:=0) (l:=[]) vw0 ⟨dk,dk⟩ dk zny
 have h1:=z5q (L:=LA) (i:=1) (l:=[0]) vw1 ⟨dk,dk⟩ dk znz
 have h2:=z5q (L:=LA) (i:=2) (l:=[0,0]) vw2 ⟨dk,dk⟩ dk zo0
 have h3:=z5q (L:=LA) (i:=3) (l:=[0,0,0]) vw3 ⟨dk,dk⟩ dk zo1
 have h4:=z5q (L:=LA) (i:=4) (l:=[0,0,0,0]) vw4 ⟨dk,dk⟩ dk zo2
 have h5:=z5q (L:=LA) (i:=5) (l:=[0,0,0,0,0]) vw5 ⟨dk,dk⟩ dk zo3
 have e:rangeM (fun i s=>(S_q16_b1 LA i s).den) LA.length 0 (newW 1,[])=some (.next (wA tA [pA,pA] [],[0,0,0,0,0,0])):=by
  show rangeM (fun i s=>(S_q16_b1 LA i s).den) 6 0 (wA ⟨1,[]⟩ [] [],[])=_
  simp only[rangeM,h0,y2c,y39,h1,h2,h3,h4,h5,yu,Nat.reduceAdd]
 rw[e]
 simp only[zl]
 rw[zht vw6.fr]
 simp only[obind]
 rw[z6 ⟨dk,trivial⟩]
theorem rightsA:(rightV (noW (wA tA [pA,pA] []) 0).H [49] 12).A=100/\(rightV (noW (wA tA [pA,pA] []) 0).H [49] 12).N=0/\(noW (wA tA [pA,pA] []) 0).Af=nb:=by
 show (rightV (doS (doS (newO 1) pA).1 pA).1.H [49] 12).A=100/\(rightV (doS (doS (newO 1) pA).1 pA).1.H [49] 12).N=0/\(doS (doS (newO 1) pA).1 pA).1.Af=nb
 obtain⟨_,a2,_,a4,_⟩:=(z3r do1).2 [49] 12
 obtain⟨_,b2,_,b4,_⟩:=(z3r do2).2 [49] 12
 rw[b2,b4,a2,a4,zjw rfl do2,zjw rfl do1]
 exact⟨rfl,rfl,rfl⟩
theorem zch:F_qt=some true:=by
 have hv:=vw6
 have hp:J13.hasP (wA tA [pA,pA] []).K.D [49] 12=true:=dk
 have hs:=zek hv hp
 have e1:heldW (wA tA [pA,pA] []) [49] 12=100:=by
  show sumTo _ 1=100
  rw[z14,z9j]
  unfold heldK
  rw[rightsA.1,rightsA.2.1]
  rfl
 have e2:usedW (wA tA [pA,pA] []) [49] 12=0:=by
  show sumTo _ 1=0
  rw[z14,z9j]
  unfold usedK
  rw[rightsA.2.2]
  rfl
 have e3:J13.potAt (wA tA [pA,pA] []).K [49] 12=⟨[49],12,100,[100],[0],[0],[0]⟩:=rfl
 have e4:J13.outV ⟨[49],12,100,[100],[0],[0],[0]⟩=100:=dk
 rw[e1,e2,e3,e4] at hs
 simp only[F_qt,S_qt,Scr.den]
 rw[zsy]
 simp only[obind,z8,zb]
 rw[y5 dk]
 have ra:=zx (ρ:=Bool) (n:=6) (c:=false) (body:=fun i s=>(S_qt_b1 (wA tA [pA,pA] [],[0,0,0,0,0,0],0) i s).den) (fun _=>True) (fun i hi _=>by
  simp only[S_qt_b1,Scr.den]
  have:i=0\/i=1\/i=2\/i=3\/i=4\/i=5:=om
  rcases this with rfl | rfl | rfl | rfl | rfl | rfl <;> rfl) (fun i hi h=>absurd trivial h)
 have ra1:rangeM (fun i s=>(S_qt_b1 (wA tA [pA,pA] [],[0,0,0,0,0,0],0) i s).den) ([0,0,0,0,0,0]:List Int).length 0 ()=some (.next ()):=ra.1 fun _ _=>trivial
 rw[ra1]
 simp only[zl]
 rw[hs]
 simp only[obind]
 rw[z8k hv,zf (gs:=[((((100:Int)==100&&(100:Int)==100)&&(100:Int)==100)&&(0:Int)==0)=true]) ⟨dk,trivial⟩]
 rfl
theorem ztf {o t s:Int} (h1:0<=u) (h2:u<=h) (h3:h<=o) (hs:s=max (o-t) 0) (h4:o<=6000000000000000) (h5:-1000000000000000<=t/\t<=1000000000000000) :
  ((decide (u<0)||decide (u>h))||decide (h>o))=false/\(((decide (u<0)||decide (u>h))||decide (h>o))||decide (o>i64.wrap (t+s)))=false:=by
 rw[wrapId (n:=t+s) om om]
 simp only[y2n,y9]
 omega
theorem zrn (h:VW w) (hi:i<w.K.D.length):(S_qh_b1 (w,e) i ()).den=some (.cont ()):=by
 obtain⟨p,ep⟩:∃ p,p=w.K.D.getD i default:=⟨_,rfl⟩
 have hm:p∈w.K.D:=by rw[ep]; exact z7 hi
 obtain⟨f1,f2,f3,f4⟩:=z4r h hm
 obtain⟨s1,s2⟩:=ztf f3.1 f3.2.1 f3.2.2.1 (s:=shW p) rfl f3.2.2.2 f4
 have hs:=zek h f1.1
 rw[f1.2] at hs
 simp only[S_qh_b1,Scr.den]
 rw[<- ep,hs,f2.2.2.2,f2.2.1]
 simp only[obind,z8]
 rw[zf (gs:=[_=false]) ⟨s1,trivial⟩]
 simp only[obind]
 rw[zf (gs:=[_=false]) ⟨s2,trivial⟩]
 simp only[obind]
 rw[s2,y3i,y5 sj]
theorem zro (h:VW w) {l:List TSt} {t:TTape} (hs:SOk (l.getD i default)):∃ w',(S_qh_b2 (l,t) i w).den=some (.cont w')/\VW w':=by
 simp only[S_qh_b2,Scr.den]
 rw[z5p h hs]
 simp only[obind]
 by_cases c0:(stepW w (l.getD i default)).2=0
 ·rw[y5 (by simpa using c0)]
  obtain⟨w1,w2⟩:=z65 h c0
  obtain⟨r,er⟩:∃ r,r=stepW w (l.getD i default):=⟨_,rfl⟩
  rw[<- er] at w2 |-
  obtain⟨w',e'⟩:=r
  obtain⟨u,e,_⟩:=zi (body:=fun i s=>(S_qh_b1 (w',e') i s).den) (n:=w'.K.D.length) (fun _ _=>True) (s0:=()) trivial (fun i u hi _=>⟨(),zrn w2 hi,trivial⟩)
  simp only
  rw[e]
  exact⟨_,rfl,w2⟩
 ·rw[y6 (by simpa using c0)]
  exact⟨_,rfl,h⟩
theorem zci (a:List Int):F_qh a=some true:=by
 obtain⟨s0,e0,t0⟩:=z96 a
 obtain⟨n,s1,e1,t1,hn⟩:=z1v (lo:=1) (hi:=3) t0 om om om
 obtain⟨l,s2,e2,t2,l2,hl⟩:=z9m (n:=n) (m:=26) om om t1
 simp only[F_qh,S_qh,Scr.den,e0,e1,zcg (n:=n) om,obind]
 rw[y5 dk,e2]
 simp only[obind]
 obtain⟨w,e,hw⟩:=zi (body:=fun i s=>(S_qh_b2 (l,s2) i s).den) (n:=l.length) (fun _ w=>VW w) (s0:=newW n) (zar om) (fun i w hi hI=>zro hI (hl _ (z7 hi)).1.ok)
 rw[e]
 simp only[zl,zb]
 rw[z8k hw,z52 hw,zix hw,zch]
 simp only[obind]
 rw[zf (gs:=[True]) ⟨trivial,trivial⟩]
 simp only[obind]
 rw[zf (gs:=[(true&&true)=true]) ⟨rfl,trivial⟩]
 simp only[obind]
 rw[zf (gs:=[((true&&true)&&true)=true]) ⟨rfl,trivial⟩]
 rfl
end Go.Proofs.YtdmddkbngmhepaaGreatDoor
