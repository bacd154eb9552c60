/- A part of the proof: plain laws of what the functions compute. No condition. -/
import Derived.Test.YtdmddkbngmhepaaGreatDoorP5
namespace Go.Proofs.YtdmddkbngmhepaaGreatDoor
open Go Go.TA
theorem zpq (t:TTr) (c:List UInt8) (y x:Int):(J13.setM t c y x).1.D.length<=t.D.length+1:=by
 unfold J13.setM
 repeat' split
 all_goals first | exact y20 _ | (show (t.D.set _ _).length<=_; rw[yb]; exact Nat.le_succ _) | (show (insL _ _ _).length<=_; rw[zo]; exact yf _)
theorem zl9 (t:TTr) (k:Int) (c:List UInt8) (y x:Int):(J13.grantM t k c y x).1.D.length<=t.D.length+1:=by
 unfold J13.grantM
 repeat' split
 all_goals first | exact y20 _ | (show (t.D.set _ _).length<=_; rw[yb]; exact Nat.le_succ _)
theorem zpr (t:TTr) (k:Int) (c:List UInt8) (y x:Int):(J13.askM t k c y x).1.D.length<=t.D.length+1:=by
 unfold J13.askM
 repeat' split
 all_goals first | exact y20 _ | (show (t.D.set _ _).length<=_; rw[yb]; exact Nat.le_succ _)
theorem zo5 (t:TTr) (m:TMe):(J13.hearM t m).1.D.length<=t.D.length+1:=by
 unfold J13.hearM
 repeat' split
 all_goals first | exact y20 _ | (show (t.D.set _ _).length<=_; rw[yb]; exact Nat.le_succ _)
def zla (w w':TWo):Prop:=(w'.W.length<=w.W.length+1/\w'.K.D.length<=w.K.D.length+1)/\(w'.O=w.O\/∃ k j,w'.O=w.O.set k j/\j.Ad.length<=(jAt w k).Ad.length+1)
variable {w:TWo} {m:TMe} {e:Int}
theorem zem (h:(sendS w m e).2=0):zla w (sendS w m e).1:=by
 by_cases c:e=0
 ·subst c
  by_cases hl:w.W.length=200
  ·rw[z41 hl] at h; cases h
  ·rw[z3a hl]
   exact⟨⟨by show (w.W++[m]).length<=_; simp,Nat.le_succ _⟩,.inl rfl⟩
 ·rw[z3s c] at h; exact absurd h c
variable {k:Nat} {j:TJo}
theorem zbe {w0:TWo} (hm:w0.W.length<=w.W.length) (hj:w0.O=w.O) (ht:w0.K=w.K) (h:(keepS w0 k j e).2=0) (hr:e=0->j.Ad.length<=(jAt w k).Ad.length+1):zla w (keepS w0 k j e).1:=by
 by_cases c:e=0
 ·subst c
  rw[z1l]
  exact⟨⟨Nat.le_succ_of_le hm,by show w0.K.D.length<=_; rw[ht]; exact Nat.le_succ _⟩,.inr ⟨k,j,by show w0.O.set k j=_; rw[hj],hr rfl⟩⟩
 ·rw[z33 c] at h; exact absurd h c
theorem zen {r:TTr×Int} (h:(tresS w r).2=0) (hr:r.1.D.length<=w.K.D.length+1):zla w (tresS w r).1:=by
 unfold tresS at h |-
 by_cases c:r.2=0
 ·rw[y5 (by simp[c])]
  exact⟨⟨Nat.le_succ _,hr⟩,.inl rfl⟩
 ·rw[y6 c] at h; exact absurd h c
variable {p:TOp}
theorem zk0 (h0:(appendS j p).2=0):(appendS j p).1.Ad.length<=j.Ad.length+1:=by
 by_cases hp:POp p
 ·by_cases h1:(doS (nowJ j) p).2=0
  ·by_cases hl:j.Ad.length=400
   ·rw[z3q hp h1 hl] at h0; cases h0
   ·rw[z39 hp h1 hl]; simp
  ·rw[z48 hp h1] at h0
   exact absurd h0 h1
 ·rw[z47 hp] at h0; cases h0
variable {s:TSt}
theorem zrt (h0:(stepW w s).2=0):zla w (stepW w s).1:=by
 by_cases k:s.P=1
 ·rw[z5j k] at h0 |-; exact zen h0 (zpq ..)
 by_cases k2:s.P=2
 ·rw[z5k k2] at h0 |-; exact zen h0 (zl9 ..)
 by_cases k3:s.P=3
 ·rw[z6n k3] at h0 |-; exact zen h0 (zpr ..)
 by_cases k4:s.P=4
 ·rw[z5l k4] at h0 |-; exact zem h0
 by_cases ka:5<=s.P/\s.P<=8
 ·rw[z6o ka] at h0 |-
  unfold actS at h0 |-
  by_cases h1:1<=s.Z/\s.Z<=w.O.length
  ·rw[y5 (fun g=>g h1)] at h0 |-
   by_cases c5:s.P=5
   ·rw[y6 c5] at h0 |-
    by_cases c8:s.Op.P=8
    ·rw[y6 c8] at h0; cases h0
    ·rw[y5 c8] at h0 |-; exact zbe (yf _) rfl rfl h0 zk0
   rw[y5 c5] at h0 |-
   by_cases c6:s.P=6
   ·rw[y6 c6] at h0 |-; exact zbe (yf _) rfl rfl h0 fun _=>Nat.le_succ _
   rw[y5 c6] at h0 |-
   by_cases c7:s.P=7
   ·rw[y6 c7] at h0 |-; exact zbe (yf _) rfl rfl h0 fun _=>by
     show (List.take _ _).length<=_
     rw[y1f]; omega
   rw[y5 c7] at h0 |-
   exact zem h0
  ·rw[y6 h1] at h0; cases h0
 by_cases km:9<=s.P/\s.P<=11
 ·rw[z2v km] at h0 |-
  unfold mailS at h0 |-
  by_cases h1:0<=s.Ai/\s.Ai<w.W.length
  ·rw[y5 (fun g=>g h1)] at h0 |-
   by_cases c9:s.P=9
   ·rw[y6 c9] at h0 |-
    unfold delivS at h0 |-
    by_cases c0:(mAt w s.Ai.toNat).To=0
    ·rw[y6 c0] at h0 |-
     by_cases c1:(J13.hearM w.K (mAt w s.Ai.toNat)).2=0
     ·rw[y5 (fun k=>k c1)]; exact⟨⟨Nat.le_succ_of_le (List.length_eraseIdx_le ..),zo5 ..⟩,.inl rfl⟩
     ·rw[y6 c1] at h0; exact absurd h0 c1
    ·rw[y5 c0] at h0 |-; exact zbe (w:=w) (w0:=loseW w s.Ai.toNat) (List.length_eraseIdx_le ..) rfl rfl h0 zk0
   rw[y5 c9] at h0 |-
   by_cases c11:s.P=11
   ·rw[y6 c11] at h0 |-; exact zem h0
   rw[y5 c11]
   exact⟨⟨Nat.le_succ_of_le (List.length_eraseIdx_le ..),Nat.le_succ _⟩,.inl rfl⟩
  ·rw[y6 h1] at h0; cases h0
 ·rw[z6p om] at h0; cases h0
def Bd (k:Nat) (w:TWo):Prop:=(w.W.length<=k/\w.K.D.length<=k)/\∀ i,i<w.O.length->(jAt w i).Ad.length<=k
theorem zru (h:Bd k w) (h0:(stepW w s).2=0):Bd (k+1) (stepW w s).1:=by
 obtain⟨h1,h2⟩:=zrt h0
 refine⟨by have:=h.1; omega,fun i hi=>?_⟩
 rcases h2 with h2 | ⟨q,j,h2,h3⟩
 ·have e:jAt (stepW w s).1 i=jAt w i:=by unfold jAt; rw[h2]
  rw[h2] at hi
  have:=h.2 i hi
  rw[e]; omega
 ·have e:jAt (stepW w s).1 i=(w.O.set q j).getD i default:=by unfold jAt; rw[h2]
  rw[h2,yb] at hi
  have:=h.2 i hi
  rw[e,z6r hi]
  split
  ·rename_i e; subst e; omega
  ·omega
variable {n:Int}
theorem zt1:Bd 0 (newW n):=by
 refine⟨⟨yf _,yf _⟩,fun i hi=>?_⟩
 have hi:i<(ups n.toNat (fun i=>(⟨(i:Int)+1,[],0⟩:TJo))).length:=hi
 rw[z17] at hi
 have e:jAt (newW n) i=⟨(i:Int)+1,[],0⟩:=z5h hi
 rw[e]
 exact yf _
variable {b:Nat}
theorem Bd.mono {a:Nat} (h:Bd a w) (hab:a<=b):Bd b w:=⟨by have:=h.1; omega,fun i hi=>by have:=h.2 i hi; omega⟩
theorem zps {m:Int} (hn:1<=n/\n<=6) (hm:0<=m/\m<=1000) {s:TTape} (hs:TapeOk s):∃ w s',F_q1f n m s=some (w,s')/\TapeOk s'/\VW w/\(w.O.length:Int)=n/\Bd m.toNat w:=by
 obtain⟨l,s1,e1,t1,l1,hl⟩:=z9m hn hm hs
 simp only[F_q1f,S_q1f,Scr.den,zdf hn,e1,obind]
 obtain⟨w,e,hw⟩:=zi (body:=fun i s=>(S_q1f_b1 (l,s1) i s).den) (n:=l.length) (fun i w=>VW w/\(w.O.length:Int)=n/\Bd i w) (s0:=newW n) ⟨zar hn,zhw om,zt1⟩ (fun i w hi hI=>by
  have hg:=(hl _ (z7 hi)).1.ok
  simp only[S_q1f_b1,Scr.den]
  rw[zfi hI.1 hg.1 hg.2]
  simp only[obind]
  by_cases c0:(stepW w (l.getD i default)).2=0
  ·rw[y6 (by simpa using c0)]
   obtain⟨w1,w2⟩:=z65 hI.1 c0
   exact⟨_,rfl,w2,by rw[w1]; exact hI.2.1,zru hI.2.2 c0⟩
  ·rw[y5 (by simpa using c0)]
   exact⟨_,rfl,hI.1,hI.2.1,hI.2.2.mono (Nat.le_succ _)⟩)
 rw[e]
 exact⟨_,_,rfl,t1,hw.1,hw.2.1,hw.2.2.mono om⟩
variable {i:Nat} {α:Type} {l:List α}
theorem z57 [Inhabited α] (hi:i<l.length):l.set i (l.getD i default)=l:=by
 refine y3b (by rw[yb]) fun j h1 h2=>?_
 rw[y3x]
 by_cases e:i=j
 ·subst e
  rw[y6 rfl,z13 hi]
 ·rw[y5 e]
theorem zlb {t:TTr} (h:(J13.hearM t m).2=0):J13.hearM (J13.hearM t m).1 m=((J13.hearM t m).1,0):=by
 have hk:=J13.hear_ok h
 obtain⟨t1,e1⟩:∃ t1,t1=(J13.hearM t m).1:=⟨_,rfl⟩
 rw[<- e1] at hk |-
 unfold J13.hearM at h e1
 by_cases h0:m.To=0
 ·simp only[show ¬ m.To≠0 from fun h=>h h0,show ¬ ¬ J13.TOk t from fun h=>h hk.1,yn] at h e1
  by_cases h2:J13.hasP t.D m.C m.E=true
  ·simp only[show ¬ ¬ J13.hasP t.D m.C m.E=true from fun h=>h h2,yn] at h e1
   by_cases h3:1<=m.Y/\m.Y<=t.M
   ·simp only[show ¬ ¬ (1<=m.Y/\m.Y<=t.M) from fun h=>h h3,yn] at h e1
    by_cases h4:(0<=m.N/\m.N<=J13.nth (J13.potAt t m.C m.E).A m.Y)/\J13.tot m.T
    ·simp only[show ¬ ¬ ((0<=m.N/\m.N<=J13.nth (J13.potAt t m.C m.E).A m.Y)/\J13.tot m.T) from fun h=>h h4,yn] at e1
     have hcy:=J13.potAt_cy h2
     have hp:=hk.1.potAt h2
     obtain⟨p1,ep⟩:∃ p1,p1=J13.withH (J13.potAt t m.C m.E) (J13.upd (J13.potAt t m.C m.E).J m.Y (max (J13.nth (J13.potAt t m.C m.E).J m.Y) m.N)) (J13.upd (J13.potAt t m.C m.E).T m.Y m.T):=⟨_,rfl⟩
     rw[<- ep] at e1
     have hc:p1.C=m.C:=by rw[ep]; exact hcy.1
     have hy:p1.E=m.E:=by rw[ep]; exact hcy.2
     have hk2:=hk.2
     rw[e1] at hk2
     obtain⟨q1,q2⟩:=z7w h2 hc hy hk2
     rw[<- e1] at q1
     have q3:J13.hasP t1.D m.C m.E=true:=by rw[e1,(q2 _ _).1]; exact h2
     have hG:p1.A=(J13.potAt t m.C m.E).A:=by rw[ep]; rfl
     have hO:t1.M=t.M:=by rw[e1]; rfl
     unfold J13.hearM
     rw[y5 (fun k=>k h0),y5 (fun k=>k hk.2),y5 (fun k=>k q3),y5 (fun k=>k (by rw[hO]; exact h3)),q1,y5 (fun k=>k (by rw[hG]; exact h4))]
     have l2:(m.Y-1).toNat<(J13.potAt t m.C m.E).J.length:=by have:=hp.2.2.2.1.2.1.1; omega
     have eH:J13.nth p1.J m.Y=max (J13.nth (J13.potAt t m.C m.E).J m.Y) m.N:=by
      rw[ep]
      show (J13.upd (J13.potAt t m.C m.E).J m.Y _).getD (m.Y-1).toNat default=_
      rw[J13.upd_get l2,y6 rfl]
     have e2:J13.withH p1 (J13.upd p1.J m.Y (max (J13.nth p1.J m.Y) m.N)) (J13.upd p1.T m.Y m.T)=p1:=by
      rw[eH,show max (max (J13.nth (J13.potAt t m.C m.E).J m.Y) m.N) m.N=max (J13.nth (J13.potAt t m.C m.E).J m.Y) m.N from om]
      have u:∀ (l:List Int) (x:Int),J13.upd (J13.upd l m.Y x) m.Y x=J13.upd l m.Y x:=fun l x=>by
       unfold J13.upd
       rw[List.set_set]
      rw[ep]
      show J13.withH _ (J13.upd (J13.upd _ _ _) _ _) (J13.upd (J13.upd _ _ _) _ _)=_
      rw[u,u]
      rfl
     rw[e2]
     have e3:J13.putP t1 m.C m.E p1=t1:=by
      unfold J13.putP
      rw[<- q1]
      show (⟨t1.M,t1.D.set (J13.pix t1.D m.C m.E) (t1.D.getD (J13.pix t1.D m.C m.E) default)⟩:TTr)=t1
      rw[z57 (J13.pix_lt q3).1]
     rw[e3]
    ·simp only[h4,yd,yz] at h; cases h
   ·simp only[h3,yd,yz] at h; cases h
  ·simp only[h2,yd,yz,yp] at h; cases h
 ·rw[y6 (show m.To≠0 from h0)] at h; cases h
variable {o:TOf}
theorem zpt (h8:p.P=8) (h0:(doS o p).2=0):doS (doS o p).1 p=((doS o p).1,0):=by
 obtain⟨hv,hk,e⟩:=zb5 h0
 have hvo:=zb6 h0
 have hr8:=((z3r h0).2 p.C p.E).1.2 (.inr ⟨h8,rfl,rfl⟩)
 have e8:∀ o,stepS o p=hearS o p:=fun o=>by unfold stepS; rw[y6 h8]
 rw[e,e8] at h0
 rw[e,e8] at hvo hr8 |-
 obtain⟨r,e1,hr,h1,h2,h3,_⟩:=z8g hv h0
 obtain⟨o1,eo⟩:∃ o1,o1=(hearS o p).1:=⟨_,rfl⟩
 rw[<- eo] at hvo hr8 |-
 rw[<- eo] at e1
 rw[z8h hvo hk,e8]
 have hg:good p.C=true/\(0<=p.E/\p.E<=99)/\tot p.A/\tot p.Ae:=by
  unfold hearS at h0
  by_cases c1:good p.C=true
  ·rw[y5 (fun k=>k c1)] at h0
   by_cases c2:p.E<0\/p.E>99
   ·rw[y6 c2] at h0; cases h0
   ·rw[y5 c2] at h0
    by_cases c3:hasR o.H p.C p.E=false/\(o.H.length:Int)=60
    ·rw[y6 c3] at h0; cases h0
    ·rw[y5 c3] at h0
     by_cases c4:(learnS (rightV o.H p.C p.E) (msgOf p)).2=0
     ·unfold learnS at c4
      by_cases c5:tot p.A/\tot p.Ae
      ·exact⟨c1,om,c5⟩
      ·exfalso
       revert c4
       split
       ·exact fun k=>absurd k dk
       ·split
        ·exact fun k=>absurd k dk
        ·rename_i k6
         exact fun _=>k6 c5
     ·rw[y6 c4] at h0; exact absurd h0 c4
  ·rw[y6 c1] at h0; cases h0
 have h5:=zf8 hvo hg.1 hg.2.1 (.inl hr8) hg.2.2.1 hg.2.2.2
 obtain⟨r',e1',hr',_,_,h3',_⟩:=z8g hvo h5
 have er:rightV o1.H p.C p.E=r:=by
  rw[e1]
  show rightV (putL o.H r) p.C p.E=r
  rw[z6c hv.srt hv.ok hr,y6 ⟨h1,h2⟩]
 have err:r'=r:=by
  rw[h3',er,h3]
  simp only
  congr 1
  ·split <;> first | omega | (split <;> omega)
  ·split <;> first | omega | (split <;> omega)
 have e5:putL o1.H r=o1.H:=by
  unfold putL
  rw[h1,h2,y6 hr8]
  have:o1.H.getD (rix o1.H p.C p.E) default=r:=by
   rw[<- er]
   unfold rightV
   rw[y6 hr8]
  rw[<- this,z57 (z3c hr8).1]
 refine Prod.ext ?_ h5
 rw[e1',err,e5]
theorem z43 (h:VW w) (hn:1<=n/\n<=w.O.length):F_q2u w n=some (noW w (n-1).toNat,0):=by
 have hl:=h.len
 have hlt:(n-1).toNat<w.O.length:=om
 simp only[F_q2u,S_q2u,Scr.den,z4d h,z64,obind]
 rw[y5 dk,ye hn,y5 dk,wrapId (n:=n-1) om om,show w.O.getD (n-1).toNat default=jAt w (n-1).toNat from rfl,z6d (h.2.2.2.1 _ hlt).1]
 simp only[obind]
 rw[z6 ⟨om,hlt,trivial⟩]
 rfl
theorem ziz (hv:VO o):F_q24 o o=some true:=by
 have hl:=hv.len
 simp only[F_q24,S_q24,Scr.den,z8]
 rw[zmw ⟨by have:=hv.smO.1.1.1; omega,by have:=hv.smO.1.1.2.1; omega,by have:=hv.smO.1.1.2.2.1; omega,by have:=hv.smO.1.1.2.2.2; omega⟩,zf (gs:=[_=false]) ⟨sj,trivial⟩]
 simp only[obind]
 rw[y5 sj,z6 ⟨om,trivial⟩]
 have ra:=zx (ρ:=Bool) (n:=o.H.length) (c:=false) (body:=fun i s=>(S_q24_b1 o o i s).den) (fun _=>True) (fun i hi _=>by
  simp only[S_q24_b1,Scr.den]
  rw[z6 ⟨hi,trivial⟩,y5 sj]) (fun i hi h=>absurd trivial h)
 rw[ra.1 fun _ _=>trivial]
 rfl
variable {x:α}
theorem zt2 [Inhabited α] (hi:i<l.length):(l++[x]).getD i default=l.getD i default:=by
 rw[z13 (by rw[yo]; simp; omega),z13 hi,List.getElem_append_left hi]
theorem zpu [Inhabited α] (hi:i<l.length):((l++[x]).eraseIdx i).length=l.length/\((l++[x]).eraseIdx i).getD (l.length-1) default=x:=by
 have e:((l++[x]).eraseIdx i).length=l.length:=by rw[List.length_eraseIdx,y6 (by rw[yo]; simp; omega),yo]; simp
 refine⟨e,?_⟩
 rw[z13 om,List.getElem_eraseIdx]
 rw[dif_neg om]
 have h:l.length-1+1=l.length:=om
 simp[h]
variable {w6:TWo}
theorem zpv (h:VW w) (hb:Bd b w) (hb2:b<=100) (hi:i<w.W.length) (h6:delivS w i=(w6,0)):∃ w15 w7,delivS ⟨w.K,w.O,w.W++[mAt w i]⟩ i=(w15,0)/\w15.W.length=w.W.length/\delivS w15 (w.W.length-1)=(w7,0)/\w7.K=w6.K/\w6.O.length=w.O.length/\w7.O.length=w.O.length/\∀ q,q<w.O.length->noW w7 q=noW w6 q/\LeO (noW w q) (noW w6 q):=by
 obtain⟨m,em⟩:∃ m,m=mAt w i:=⟨_,rfl⟩
 have hmo:=h.2.2.2.2 _ (z7 hi)
 rw[show w.W.getD i default=m from em.symm] at hmo
 have eD:mAt ⟨w.K,w.O,w.W++[m]⟩ i=m:=by
  show (w.W++[m]).getD i default=m
  rw[zt2 hi]
  exact em.symm
 obtain⟨l1,l2⟩:=zpu (x:=m) hi
 have h2:=h.2.1
 rw[<- em]
 unfold delivS at h6
 rw[<- em] at h6
 by_cases h0:m.To=0
 ·rw[y6 h0] at h6
  by_cases h1:(J13.hearM w.K m).2=0
  ·rw[y5 (fun k=>k h1)] at h6
   obtain⟨rfl,_⟩:=Prod.mk.inj h6
   refine⟨⟨(J13.hearM w.K m).1,w.O,(w.W++[m]).eraseIdx i⟩,⟨(J13.hearM w.K m).1,w.O,((w.W++[m]).eraseIdx i).eraseIdx (w.W.length-1)⟩,?_,l1,?_,rfl,rfl,rfl,fun q hq=>⟨rfl,LeO.refl _⟩⟩
   ·unfold delivS
    rw[eD,y6 h0,y5 (fun k=>k h1)]
   ·unfold delivS
    rw[show mAt ⟨(J13.hearM w.K m).1,w.O,(w.W++[m]).eraseIdx i⟩ (w.W.length-1)=m from l2,y6 h0]
    show (if (J13.hearM (J13.hearM w.K m).1 m).2≠0 then _ else _)=_
    rw[zlb h1,y5 (fun k=>k rfl)]
  ·rw[y6 h1] at h6
   exact absurd (Prod.mk.inj h6).2 h1
 ·rw[y5 h0] at h6
  have hto:1<=m.To/\m.To<=w.K.M:=by
   rcases hmo.2 with ⟨_,q,_⟩ | ⟨_,_,q,_⟩
   ·exact q
   ·exact absurd q h0
  obtain⟨k,ek⟩:∃ k,k=(m.To-1).toNat:=⟨_,rfl⟩
  have hk:k<w.O.length:=om
  rw[<- ek] at h6
  have a0:(appendS (jAt w k) (hearOp m)).2=0:=by
   by_cases c:(appendS (jAt w k) (hearOp m)).2=0
   ·exact c
   ·rw[z33 c] at h6
    exact (Prod.mk.inj h6).2
  rw[a0,z1l] at h6
  obtain⟨rfl,_⟩:=Prod.mk.inj h6
  have q1:=(h.2.2.2.1 k hk).1
  obtain⟨a1,a2,a3,a4⟩:=zfc q1 a0
  have hj1:(appendS (jAt w k) (hearOp m)).1=⟨(jAt w k).Z,(jAt w k).Ad++[hearOp m],(jAt w k).Ag⟩:=by rw[a2]
  obtain⟨j1,e1⟩:∃ j1,j1=(appendS (jAt w k) (hearOp m)).1:=⟨_,rfl⟩
  rw[<- e1] at a1 hj1 |-
  have n1:nowJ j1=(doS (nowJ (jAt w k)) (hearOp m)).1:=by rw[hj1,z9c]
  have d2:=zpt (p:=hearOp m) rfl a4
  have b1:appendS j1 (hearOp m)=(⟨j1.Z,j1.Ad++[hearOp m],j1.Ag⟩,0):=by
   refine z39 a3 (by rw[n1,d2]) ?_
   have:=hb.2 k hk
   rw[hj1]
   show ((jAt w k).Ad++[hearOp m]).length≠400
   rw[yo]; simp; omega
  have n2:nowJ ⟨j1.Z,j1.Ad++[hearOp m],j1.Ag⟩=nowJ j1:=by rw[z9c,n1,d2]
  have g1:jAt (⟨w.K,w.O.set k j1,(w.W++[m]).eraseIdx i⟩:TWo) k=j1:=by
   show (w.O.set k j1).getD k default=j1
   rw[z6r hk,y6 rfl]
  refine⟨⟨w.K,w.O.set k j1,(w.W++[m]).eraseIdx i⟩,⟨w.K,(w.O.set k j1).set k ⟨j1.Z,j1.Ad++[hearOp m],j1.Ag⟩,((w.W++[m]).eraseIdx i).eraseIdx (w.W.length-1)⟩,?_,l1,?_,rfl,yb,by rw[yb,yb],fun q hq=>?_⟩
  ·unfold delivS
   rw[eD,y5 h0,<- ek]
   show keepS _ k (appendS (jAt w k) (hearOp m)).1 (appendS (jAt w k) (hearOp m)).2=_
   rw[<- e1,a0,z1l]
   rfl
  ·unfold delivS
   rw[show mAt (⟨w.K,w.O.set k j1,(w.W++[m]).eraseIdx i⟩:TWo) (w.W.length-1)=m from l2,y5 h0,<- ek,g1,b1,z1l]
   rfl
  ·have hq1:noW (⟨w.K,w.O.set k j1,w.W.eraseIdx i⟩:TWo) q=nowJ (if q=k then j1 else jAt w q):=by
    show nowJ ((w.O.set k j1).getD q default)=_
    rw[z6r hq]
   have hq2:noW (⟨w.K,(w.O.set k j1).set k ⟨j1.Z,j1.Ad++[hearOp m],j1.Ag⟩,((w.W++[m]).eraseIdx i).eraseIdx (w.W.length-1)⟩:TWo) q=nowJ (if q=k then ⟨j1.Z,j1.Ad++[hearOp m],j1.Ag⟩ else jAt w q):=by
    show nowJ (((w.O.set k j1).set k _).getD q default)=_
    rw[List.set_set,z6r hq]
   refine⟨?_,?_⟩
   ·refine hq2.trans (y1m ?_ hq1.symm)
    by_cases c:q=k
    ·rw[y6 c,y6 c,n2]
    ·rw[y5 c,y5 c]
   ·show LeO (noW w q) (noW (⟨w.K,w.O.set k j1,w.W.eraseIdx i⟩:TWo) q)
    rw[hq1]
    by_cases c:q=k
    ·subst c
     rw[y6 rfl,n1]
     exact zq3 a4
    ·rw[y5 c]
     exact LeO.refl _
theorem zpw {k:Int} (h:k=9\/k=10\/k=11):9<=k/\k<=11:=om
theorem zrv (hi:i<w.W.length):stepW w ⟨10,0,p,[],0,0,(i:Int)⟩=(loseW w i,0):=by
 have hI:0<=(i:Int)/\(i:Int)<w.W.length:=om
 rw[z2v (zpw sj)]
 exact (y5 fun k=>k hI).trans ((y5 (show ¬ (10:Int)=9 from dk)).trans (y5 (show ¬ (10:Int)=11 from dk)))
theorem zi0 (hi:i<w.W.length):stepW w ⟨9,0,p,[],0,0,(i:Int)⟩=delivS w i:=by
 have hI:0<=(i:Int)/\(i:Int)<w.W.length:=om
 rw[z2v (zpw sj)]
 exact (y5 fun k=>k hI).trans (y6 rfl)
theorem zrw (hi:i<w.W.length):stepW w ⟨11,0,p,[],0,0,(i:Int)⟩=sendS w (mAt w i) 0:=by
 have hI:0<=(i:Int)/\(i:Int)<w.W.length:=om
 rw[z2v (zpw sj)]
 exact (y5 fun k=>k hI).trans ((y5 (show ¬ (11:Int)=9 from dk)).trans (y6 rfl))
theorem zlc {r:TWo×Int} {w':TWo} (h:z7e r) (e:r=(w',0)):VW w':=by
 rw[e] at h
 rcases h with ⟨_,h⟩ | ⟨h,_⟩
 ·exact h
 ·exact absurd rfl h
variable {t:TTape}
theorem zrx {w7:TWo} {c6 c7:Int} (h:VW w) (h6:VW w6) (h7:VW w7) (hn:(w.O.length:Int)=2) (n6:w6.O.length=w.O.length) (n7:w7.O.length=w.O.length) (hq:∀ q,q<w.O.length->noW w7 q=noW w6 q/\LeO (noW w q) (noW w6 q)):∃ s',iterM (fun s=>(S_q4_b2 (w,t) (w6,c6) (w7,c7) s).den) 1=some (.next s'):=by
 obtain⟨s',e,_⟩:=z2k (step:=fun s=>(S_q4_b2 (w,t) (w6,c6) (w7,c7) s).den) (fun s=>(3-s).toNat) (fun s=>1<=s/\s<=3) (fun _=>True) (fun s hI=>by
  simp only[S_q4_b2,Scr.den]
  by_cases c:s<=2
  ·rw[y6 (by simpa using c),z43 h6 om,z43 h7 om,z43 h om]
   simp only[obind,z8]
   have hk:(s-1).toNat<w.O.length:=om
   obtain⟨z1,z2⟩:=hq _ hk
   have hv6:VO (noW w6 (s-1).toNat):=(h6.2.2.2.1 _ om).1.now
   have hv:VO (noW w (s-1).toNat):=(h.2.2.2.1 _ hk).1.now
   rw[z1,ziz hv6,zf (gs:=[_=false]) ⟨dk,trivial⟩]
   simp only[obind]
   rw[y5 dk]
   obtain⟨u,e,_⟩:=zi (body:=fun i u=>(S_q4_b1 (noW w6 (s-1).toNat,0) (noW w (s-1).toNat,0) i u).den) (n:=(noW w (s-1).toNat).H.length) (fun _ _=>True) (s0:=()) trivial (fun i u hi _=>by
    have hm:=z7 hi
    have h1:=z7t hv.srt hv.ok hm
    have h2:=(z2 ((noW w (s-1).toNat).H.getD i default).C ((noW w (s-1).toNat).H.getD i default).E).2.1
    rw[h1] at h2
    simp only[S_q4_b1,Scr.den]
    rw[z1z]
    simp only[obind]
    rw[y5 (by simp only[y7]; exact y2q.2 h2)]
    exact⟨(),rfl,trivial⟩)
   rw[e]
   have ew:IntKind.i64.wrap (s+1)=s+1:=wrapId om om
   refine .inl ⟨s+1,?_,om,om⟩
   simp only[zl]
   rw[ew]
  ·rw[y5 (by simpa using c)]
   exact .inr ⟨_,rfl,trivial⟩) 3 1 om om
 exact⟨s',e⟩
theorem zry (h:VW w) (hn:(w.O.length:Int)=2) (hb:Bd 22 w) (hi:i<w.W.length):(S_q4_b3 (w,t) i ()).den=some (.cont ()):=by
 have hm:=hb.1.1
 have hs:∀ {k:Int} {p:TOp} {x:Int},p.C.length<=1000000->SOk ⟨k,0,p,[],0,0,x⟩:=fun hp=>⟨y20 _,hp⟩
 have h0:([]:List UInt8).length<=1000000:=y20 _
 simp only[S_q4_b3,Scr.den]
 rw[z5p h (hs h0),zrv hi]
 simp only[obind,z8]
 have l1:((loseW w i).W.length:Int)=IntKind.i64.wrap ((w.W.length:Int)-1):=by
  show ((w.W.eraseIdx i).length:Int)=_
  rw[List.length_eraseIdx,y6 hi,wrapId om om]
  omega
 rw[show (loseW w i).K=w.K from rfl,h.same,l1,zf (gs:=[_=false]) ⟨sj,trivial⟩]
 simp only[obind]
 rw[y5 sj,z5p h (hs h0),zi0 hi]
 simp only[obind]
 by_cases c6:(delivS w i).2=0
 ·rw[y5 (by simpa using c6)]
  obtain⟨w6,e6⟩:∃ w6,delivS w i=(w6,0):=⟨(delivS w i).1,Prod.ext rfl c6⟩
  have v6:=zlc (z9i h hi) e6
  obtain⟨w15,w7,f1,f2,f3,f4,f5,f6,f7⟩:=zpv h hb dk hi e6
  have hD:VW ⟨w.K,w.O,w.W++[mAt w i]⟩:=zjt h (h.2.2.2.2 _ (z7 hi)) om
  have hiD:i<(⟨w.K,w.O,w.W++[mAt w i]⟩:TWo).W.length:=by
   show i<(w.W++[mAt w i]).length
   rw[yo]; simp; omega
  have v15:=zlc (z9i hD hiD) f1
  have hi15:w.W.length-1<w15.W.length:=om
  have v7:=zlc (z9i v15 hi15) f3
  have ei:IntKind.i64.wrap ((w15.W.length:Int)-1)=((w.W.length-1:Nat):Int):=by rw[f2,wrapId om om]; omega
  rw[z5p h (hs h0),zrw hi,z3a om]
  simp only[obind]
  rw[z5p hD (hs h0),zi0 hiD,f1]
  simp only[obind]
  rw[z5p v15 (hs h0),ei,zi0 hi15,f3,e6]
  simp only[obind]
  rw[y5 sk,f4,v6.same,zf (gs:=[_=false]) ⟨dk,trivial⟩]
  simp only[obind]
  rw[y5 dk]
  obtain⟨s',es⟩:=zrx (t:=t) (c6:=0) (c7:=0) h v6 v7 hn f5 f6 f7
  rw[es]
  rfl
 ·rw[y6 (by simpa using c6)]
theorem zpx (a:List Int):F_q4 a=some true:=by
 obtain⟨s0,e0,t0⟩:=z96 a
 obtain⟨w,s1,e1,t1,hv,hn,hb⟩:=zps (n:=2) (m:=22) om om t0
 simp only[F_q4,S_q4,Scr.den,e0,e1,obind]
 have hm:=hv.2.2.1
 rw[z6 ⟨om,trivial⟩]
 obtain⟨u,e,_⟩:=zi (body:=fun i u=>(S_q4_b3 (w,s1) i u).den) (n:=w.W.length) (fun _ _=>True) (s0:=()) trivial (fun i u hi _=>⟨(),zry hv hn hb hi,trivial⟩)
 rw[e]
 simp only[zl]
 rw[zch]
 rfl
end Go.Proofs.YtdmddkbngmhepaaGreatDoor
