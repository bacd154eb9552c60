/- A part of the proof: plain laws of what the functions compute. No condition. -/
import Derived.Test.YtdmddkbngmhepaaGreatDoorP4
namespace Go.Proofs.YtdmddkbngmhepaaGreatDoor
open Go Go.TA
def NoT (t:TTr):Prop:=∀ p∈t.D,J13.outV p<=p.V
variable {t:TTr} {c:List UInt8} {y:Int}
theorem zhy (h:NoT t) (hp:J13.hasP t.D c y=true):J13.outV (J13.potAt t c y)<=(J13.potAt t c y).V:=h _ (z7 (J13.pix_lt hp).1)
variable {p:TPo}
theorem zbd (h:NoT t) (hp:J13.outV p<=p.V):NoT (J13.putP t c y p):=fun q hq=>by
 rcases y29 hq with h1 | h1
 ·exact h q h1
 ·rw[h1]; exact hp
theorem zdg {n:Int} (hp:J13.PotOk n p):J13.outV p=p.A.sum-p.J.sum:=by
 have l1:=hp.2.2.2.1.1.1
 have l2:=hp.2.2.2.1.2.1.1
 unfold J13.outV
 rw[show min p.A.length p.J.length=p.A.length from om,y3c,show p.A.length=p.J.length from om,y3c]
variable {x:Int}
theorem zsz (hn:NoT t) (h:(J13.setM t c y x).2=0) (h1:J13.hasP t.D c y=true->(J13.potAt t c y).V<=x) (h2:¬ J13.hasP t.D c y=true->0<=x):NoT (J13.setM t c y x).1:=by
 unfold J13.setM at h |-
 by_cases c1:J13.TOk t
 ·simp only[show ¬ ¬ J13.TOk t from fun h=>h c1,yn] at h |-
  by_cases c2:good c=true
  ·simp only[show ¬ ¬ good c=true from fun h=>h c2,yn] at h |-
   by_cases c3:(0<=y/\y<=99)/\-1000000000000000<=x/\x<=1000000000000000
   ·simp only[show ¬ ¬ ((0<=y/\y<=99)/\-1000000000000000<=x/\x<=1000000000000000) from fun h=>h c3,yn] at h |-
    by_cases h5:J13.hasP t.D c y=true
    ·rw[y6 h5]
     exact zbd hn (y31 (zhy hn h5) (h1 h5))
    ·rw[y5 h5] at h |-
     by_cases h6:t.D.length=60
     ·rw[y6 h6] at h; cases h
     ·rw[y5 h6]
      intro q hq
      have hq:q∈t.D.take (J13.posP t.D (J13.newP t.M c y x))++J13.newP t.M c y x :: t.D.drop (J13.posP t.D (J13.newP t.M c y x)):=hq
      rcases y1j.1 hq with hq | hq
      ·exact hn q (y33 hq)
      ·rcases y16.1 hq with rfl | hq
       ·have hk:=J13.newP_ok (x:=x) c1.1.1 c2 c3.1 c3.2
        rw[zdg hk]
        show (J13.zeros t.M).sum-(J13.zeros t.M).sum<=x
        have:=h2 h5
        omega
       ·exact hn q (y3f hq)
   ·rw[y6 c3] at h; cases h
  ·rw[y6 (show ¬ good c=true from c2)] at h; cases h
 ·rw[y6 c1] at h; cases h
variable {k:Int}
theorem zpm (hn:NoT t) (h:(J13.grantM t k c y x).2=0):NoT (J13.grantM t k c y x).1:=by
 unfold J13.grantM at h |-
 by_cases h1:J13.TOk t
 ·simp only[show ¬ ¬ J13.TOk t from fun h=>h h1,yn] at h |-
  by_cases h2:J13.hasP t.D c y=true
  ·simp only[show ¬ ¬ J13.hasP t.D c y=true from fun h=>h h2,yn] at h |-
   by_cases h3:1<=k/\k<=t.M
   ·simp only[show ¬ ¬ (1<=k/\k<=t.M) from fun h=>h h3,yn] at h |-
    by_cases h4:1<=x/\x<=1000000000000000
    ·simp only[show ¬ ¬ (1<=x/\x<=1000000000000000) from fun h=>h h4,yn] at h |-
     by_cases h5:(J13.giveV (J13.potAt t c y).V (J13.potAt t c y) (J13.oneHot (J13.potAt t c y).A.length (k-1).toNat x)).1=0
     ·rw[y5 (show ¬ _≠_ from fun h=>h h5)]
      obtain⟨g1,g2,g3⟩:=J13.give_ok (h1.potAt h2) (J13.oneHot_tot h4) J13.oneHot_length h5
      refine zbd hn ?_
      rw[zdg g2]
      show (J13.giveV (J13.potAt t c y).V (J13.potAt t c y) (J13.oneHot (J13.potAt t c y).A.length (k-1).toNat x)).2.sum-(J13.potAt t c y).J.sum<=(J13.potAt t c y).V
      rw[g1,J13.sum_addN J13.oneHot_length]
      rw[zdg (h1.potAt h2)] at g3
      omega
     ·rw[y6 h5] at h; exact absurd h h5
    ·simp only[h4,yd,yz] at h; cases h
   ·simp only[h3,yd,yz] at h; cases h
  ·simp only[h2,yd,yz,yp] at h; cases h
 ·simp only[h1,yd,yz] at h; cases h
theorem zt0 (hn:NoT t) (h:(J13.askM t k c y x).2=0):NoT (J13.askM t k c y x).1:=by
 unfold J13.askM at h |-
 by_cases h1:J13.TOk t
 ·simp only[show ¬ ¬ J13.TOk t from fun h=>h h1,yn] at h |-
  by_cases h2:J13.hasP t.D c y=true
  ·simp only[show ¬ ¬ J13.hasP t.D c y=true from fun h=>h h2,yn] at h |-
   by_cases h3:1<=k/\k<=t.M
   ·simp only[show ¬ ¬ (1<=k/\k<=t.M) from fun h=>h h3,yn] at h |-
    by_cases h4:1<=x/\x<=1000000000000000
    ·simp only[show ¬ ¬ (1<=x/\x<=1000000000000000) from fun h=>h h4,yn] at h |-
     by_cases h5:J13.nth (J13.potAt t c y).A k<J13.nth (J13.potAt t c y).I k+x
     ·rw[y6 h5] at h; cases h
     ·rw[y5 h5]
      exact zbd hn (zhy hn h2)
    ·simp only[h4,yd,yz] at h; cases h
   ·simp only[h3,yd,yz] at h; cases h
  ·simp only[h2,yd,yz,yp] at h; cases h
 ·simp only[h1,yd,yz] at h; cases h
theorem zrq {l:List Int} (hx:J13.nth l k<=x):l.sum<=(J13.upd l k x).sum:=by
 rw[z7x,z7x,J13.upd_length]
 exact z9k fun j _=>zns hx j
variable {m:TMe}
theorem zrr (hn:NoT t) (h:(J13.hearM t m).2=0):NoT (J13.hearM t m).1:=by
 unfold J13.hearM at h |-
 by_cases h0:m.To=0
 ·simp only[show ¬ m.To≠0 from fun h=>h h0,yn] at h |-
  by_cases h1:J13.TOk t
  ·simp only[show ¬ ¬ J13.TOk t from fun h=>h h1,yn] at h |-
   by_cases h2:J13.hasP t.D m.C m.E=true
   ·simp only[show ¬ ¬ J13.hasP t.D m.C m.E=true from fun h=>h h2,yn] at h |-
    by_cases h3:1<=m.Y/\m.Y<=t.M
    ·simp only[show ¬ ¬ (1<=m.Y/\m.Y<=t.M) from fun h=>h h3,yn] at h |-
     by_cases h4:(0<=m.N/\m.N<=J13.nth (J13.potAt t m.C m.E).A m.Y)/\J13.tot m.T
     ·simp only[show ¬ ¬ ((0<=m.N/\m.N<=J13.nth (J13.potAt t m.C m.E).A m.Y)/\J13.tot m.T) from fun h=>h h4,yn]
      refine zbd hn ?_
      have hp:=h1.potAt h2
      have o1:=zhy hn h2
      rw[zdg hp] at o1
      have l1:=hp.2.2.2.1.1.1
      have l2:=hp.2.2.2.1.2.1.1
      have hs:=zrq (l:=(J13.potAt t m.C m.E).J) (k:=m.Y) (x:=max (J13.nth (J13.potAt t m.C m.E).J m.Y) m.N) om
      generalize hu:J13.upd (J13.potAt t m.C m.E).J m.Y (max (J13.nth (J13.potAt t m.C m.E).J m.Y) m.N)=H' at hs |-
      have l3:H'.length=(J13.potAt t m.C m.E).J.length:=by rw[<- hu,J13.upd_length]
      have e:J13.outV (J13.withH (J13.potAt t m.C m.E) H' (J13.upd (J13.potAt t m.C m.E).T m.Y m.T))=(J13.potAt t m.C m.E).A.sum-H'.sum:=by
       show ((J13.potAt t m.C m.E).A.take (min (J13.potAt t m.C m.E).A.length H'.length)).sum-(H'.take (min (J13.potAt t m.C m.E).A.length H'.length)).sum=_
       rw[show min (J13.potAt t m.C m.E).A.length H'.length=(J13.potAt t m.C m.E).A.length from om,y3c,y1x om]
      rw[e]
      show _<=(J13.potAt t m.C m.E).V
      omega
     ·simp only[h4,yd,yz] at h; cases h
    ·simp only[h3,yd,yz] at h; cases h
   ·simp only[h2,yd,yz,yp] at h; cases h
  ·simp only[h1,yd,yz] at h; cases h
 ·rw[y6 (show m.To≠0 from h0)] at h; cases h
variable {w:TWo} {e:Int}
theorem zhz (h:(sendS w m e).2=0):(sendS w m e).1.K=w.K:=by
 by_cases c:e=0
 ·subst c
  by_cases hl:w.W.length=200
  ·rw[z41 hl] at h; cases h
  ·rw[z3a hl]
 ·rw[z3s c] at h; exact absurd h c
theorem zdh {k:Nat} {j:TJo} (h:(keepS w k j e).2=0):(keepS w k j e).1.K=w.K:=by
 by_cases c:e=0
 ·subst c
  rw[z1l]
 ·rw[z33 c] at h; exact absurd h c
theorem zel {r:TTr×Int} (h:(tresS w r).2=0) (hr:r.2=0->NoT r.1):NoT (tresS w r).1.K:=by
 unfold tresS at h |-
 by_cases c:r.2=0
 ·rw[y5 (by simp[c])]; exact hr c
 ·rw[y6 c] at h; exact absurd h c
theorem zrs (hn:NoT w.K) {s:TSt} (h0:(stepW w s).2=0) (h1:s.P=1->(J13.hasP w.K.D s.C s.E=true->(J13.potAt w.K s.C s.E).V<=s.S)/\(¬ J13.hasP w.K.D s.C s.E=true->0<=s.S)):NoT (stepW w s).1.K:=by
 by_cases k:s.P=1
 ·rw[z5j k] at h0 |-; exact zel h0 fun e=>zsz hn e (h1 k).1 (h1 k).2
 by_cases k2:s.P=2
 ·rw[z5k k2] at h0 |-; exact zel h0 fun e=>zpm hn e
 by_cases k3:s.P=3
 ·rw[z6n k3] at h0 |-; exact zel h0 fun e=>zt0 hn e
 by_cases k4:s.P=4
 ·rw[z5l k4] at h0 |-; rw[zhz h0]; exact hn
 by_cases ka:5<=s.P/\s.P<=8
 ·rw[z6o ka] at h0 |-
  unfold actS at h0 |-
  by_cases h1:1<=s.Z/\s.Z<=w.O.length
  ·rw[y5 (fun g=>g h1)] at h0 |-
   by_cases c5:s.P=5
   ·rw[y6 c5] at h0 |-
    by_cases c8:s.Op.P=8
    ·rw[y6 c8] at h0; cases h0
    ·rw[y5 c8] at h0 |-; rw[zdh h0]; exact hn
   rw[y5 c5] at h0 |-
   by_cases c6:s.P=6
   ·rw[y6 c6] at h0 |-; rw[zdh h0]; exact hn
   rw[y5 c6] at h0 |-
   by_cases c7:s.P=7
   ·rw[y6 c7] at h0 |-; rw[zdh h0]; exact hn
   rw[y5 c7] at h0 |-
   rw[zhz h0]; exact hn
  ·rw[y6 h1] at h0; cases h0
 by_cases km:9<=s.P/\s.P<=11
 ·rw[z2v km] at h0 |-
  unfold mailS at h0 |-
  by_cases h1:0<=s.Ai/\s.Ai<w.W.length
  ·rw[y5 (fun g=>g h1)] at h0 |-
   by_cases c9:s.P=9
   ·rw[y6 c9] at h0 |-
    unfold delivS at h0 |-
    by_cases c0:(mAt w s.Ai.toNat).To=0
    ·rw[y6 c0] at h0 |-
     by_cases c1:(J13.hearM w.K (mAt w s.Ai.toNat)).2=0
     ·rw[y5 (fun k=>k c1)]; exact zrr hn c1
     ·rw[y6 c1] at h0; exact absurd h0 c1
    ·rw[y5 c0] at h0 |-; rw[zdh h0]; exact hn
   rw[y5 c9] at h0 |-
   by_cases c11:s.P=11
   ·rw[y6 c11] at h0 |-; rw[zhz h0]; exact hn
   rw[y5 c11]
   exact hn
  ·rw[y6 h1] at h0; cases h0
 ·rw[z6p om] at h0; cases h0
variable {i:Nat}
theorem zpn (h:VW w) (hn:NoT w.K) (hi:i<w.K.D.length):(S_qi_b1 (w,e) i ()).den=some (.cont ()):=by
 obtain⟨p,ep⟩:∃ p,p=w.K.D.getD i default:=⟨_,rfl⟩
 have hm:p∈w.K.D:=by rw[ep]; exact z7 hi
 obtain⟨f1,f2,f3,f4⟩:=z4r h hm
 have ho:=hn p hm
 have hs:=zek h f1.1
 rw[f1.2] at hs
 have hsh:shW p=0:=by
  unfold shW
  omega
 simp only[S_qi_b1,Scr.den]
 rw[<- ep,hs,f2.2.2.2,hsh]
 simp only[obind,z8]
 rw[y5 sk]
theorem zpo (h:VW w) (hn:NoT w.K) {l:List TSt} {t0 t:TTape} (ht:TapeOk t) (hs:SOk (l.getD i default)) (ha:GA (l.getD i default)):∃ r,(S_qi_b2 (l,t0) i (t,w)).den=some (.cont r)/\TapeOk r.1/\VW r.2/\NoT r.2.K:=by
 obtain⟨s,es⟩:∃ s,s=l.getD i default:=⟨_,rfl⟩
 simp only[S_qi_b2,Scr.den]
 rw[<- es] at hs ha |-
 rw[z9f]
 simp only[obind,zb]
 have key:∃ v:TTape×TSt,(if (((s.P==1)&&(J13.potM w.K s.C s.E).2)&&decide (s.S<(J13.potM w.K s.C s.E).1.V))=true then (F_q5 50 t).bind fun rv10=>some (Out.next (rv10.2,(⟨s.P,s.Z,s.Op,s.C,s.E,(IntKind.i64.wrap ((J13.potM w.K s.C s.E).1.V+rv10.1)),s.Ai⟩:TSt)))
   else some (Out.next (t,s)):Option (Out (TTape×TSt) (Step (TTape×TWo) Bool)))=some (Out.next v)/\TapeOk v.1/\SOk v.2/\(v.2.P=1->(J13.hasP w.K.D v.2.C v.2.E=true->(J13.potAt w.K v.2.C v.2.E).V<=v.2.S)/\(¬ J13.hasP w.K.D v.2.C v.2.E=true->0<=v.2.S)):=by
  by_cases hp:J13.hasP w.K.D s.C s.E=true
  ·rw[z5i hp]
   have hT:=(h.1.potAt hp).2.2.1
   by_cases c:s.P=1/\s.S<(J13.potAt w.K s.C s.E).V
   ·rw[y6 (by simp only[yl,y13,y7]; exact⟨⟨c.1,trivial⟩,c.2⟩)]
    obtain⟨z,s6,q1,t6,y1⟩:=z28 (n:=50) ht om om
    simp only[q1,obind]
    refine⟨_,rfl,t6,hs,fun _=>⟨fun _=>?_,fun k=>absurd hp k⟩⟩
    show (J13.potAt w.K s.C s.E).V<=IntKind.i64.wrap ((J13.potAt w.K s.C s.E).V+z)
    rw[wrapId om om]
    omega
   ·rw[y5 (by simp only[yl,y13,y7]; exact fun k=>c ⟨k.1.1,k.2⟩)]
    exact⟨_,rfl,ht,hs,fun k=>⟨fun _=>y2q.1 fun k2=>c ⟨k,k2⟩,fun k2=>absurd hp k2⟩⟩
  ·have e:J13.potM w.K s.C s.E=(⟨[],0,0,[],[],[],[]⟩,false):=y5 hp
   rw[e,y5 sj]
   exact⟨_,rfl,ht,hs,fun k=>⟨fun k2=>absurd k2 hp,fun _=>(ha k).1⟩⟩
 obtain⟨⟨t',s'⟩,e1,t1,g1,g2⟩:=key
 rw[e1]
 simp only[zl]
 rw[z5p h g1]
 simp only[obind]
 by_cases c0:(stepW w s').2=0
 ·rw[y5 (by simpa using c0)]
  obtain⟨w1,w2⟩:=z65 h c0
  have w3:=zrs hn c0 g2
  obtain⟨r,er⟩:∃ r,r=stepW w s':=⟨_,rfl⟩
  rw[<- er] at w2 w3 |-
  obtain⟨w',e'⟩:=r
  obtain⟨u,e,_⟩:=zi (body:=fun i s=>(S_qi_b1 (w',e') i s).den) (n:=w'.K.D.length) (fun _ _=>True) (s0:=()) trivial (fun i u hi _=>⟨(),zpn w2 w3 hi,trivial⟩)
  simp only
  rw[e]
  exact⟨_,rfl,t1,w2,w3⟩
 ·rw[y6 (by simpa using c0)]
  exact⟨_,rfl,t1,h,hn⟩
theorem zjz (a:List Int):F_qi a=some true:=by
 obtain⟨s0,e0,t0⟩:=z96 a
 obtain⟨n,s1,e1,t1,hn⟩:=z1v (lo:=1) (hi:=3) t0 om om om
 obtain⟨l,s2,e2,t2,l2,hl⟩:=z9m (n:=n) (m:=24) om om t1
 simp only[F_qi,S_qi,Scr.den,e0,e1,zcg (n:=n) om,obind]
 rw[y5 dk,e2]
 simp only[obind]
 obtain⟨w,e,hw⟩:=zi (body:=fun i s=>(S_qi_b2 (l,s2) i s).den) (n:=l.length) (fun _ r=>TapeOk r.1/\VW r.2/\NoT r.2.K) (s0:=(s2,newW n)) ⟨t2,zar om,fun p hp=>(by cases hp)⟩ (fun i r hi hI=>zpo hI.2.1 hI.2.2 hI.1 (hl _ (z7 hi)).1.ok (hl _ (z7 hi)).2)
 rw[e]
 simp only[zl]
 rw[zch]
 rfl
end Go.Proofs.YtdmddkbngmhepaaGreatDoor
