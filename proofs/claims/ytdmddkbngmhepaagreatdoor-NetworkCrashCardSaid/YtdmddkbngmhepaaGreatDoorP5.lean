/- A part of the proof: plain laws of what the functions compute. No condition. -/
import Derived.Test.YtdmddkbngmhepaaGreatDoorP4
namespace Go.Proofs.YtdmddkbngmhepaaGreatDoor
open Go Go.TA
theorem zqc (t:TTr) (c:List UInt8) (y x:Int):(J13.setM t c y x).1.C.length<=t.C.length+1:=by
 unfold J13.setM
 repeat' split
 all_goals first | exact y1f _ | (show (t.C.set _ _).length<=_; rw[yb]; exact Nat.le_succ _) | (show (insL _ _ _).length<=_; rw[zr]; exact ye _)
theorem zll (t:TTr) (k:Int) (c:List UInt8) (y x:Int):(J13.grantM t k c y x).1.C.length<=t.C.length+1:=by
 unfold J13.grantM
 repeat' split
 all_goals first | exact y1f _ | (show (t.C.set _ _).length<=_; rw[yb]; exact Nat.le_succ _)
theorem zqd (t:TTr) (k:Int) (c:List UInt8) (y x:Int):(J13.askM t k c y x).1.C.length<=t.C.length+1:=by
 unfold J13.askM
 repeat' split
 all_goals first | exact y1f _ | (show (t.C.set _ _).length<=_; rw[yb]; exact Nat.le_succ _)
theorem zoh (t:TTr) (m:TMe):(J13.hearM t m).1.C.length<=t.C.length+1:=by
 unfold J13.hearM
 repeat' split
 all_goals first | exact y1f _ | (show (t.C.set _ _).length<=_; rw[yb]; exact Nat.le_succ _)
def zlm (w w':TWo):Prop:=(w'.V.length<=w.V.length+1/\w'.F.C.length<=w.F.C.length+1)/\(w'.J=w.J\/∃ k j,w'.J=w.J.set k j/\j.Ab.length<=(jAt w k).Ab.length+1)
variable {w:TWo} {e:Int} {m:TMe}
theorem zew (h:(sendS w m e).2=0):zlm w (sendS w m e).1:=by
 by_cases c:e=0
 ·subst c
  by_cases hl:w.V.length=200
  ·rw[z5g hl] at h; cases h
  ·rw[z3g hl]
   exact⟨⟨by show (w.V++[m]).length<=_; simp,Nat.le_succ _⟩,.inl rfl⟩
 ·rw[z54 c] at h; exact absurd h c
variable {k:Nat} {j:TJo} {w0:TWo}
theorem zbo (hm:w0.V.length<=w.V.length) (hj:w0.J=w.J) (ht:w0.F=w.F) (h:(keepS w0 k j e).2=0) (hr:e=0->j.Ab.length<=(jAt w k).Ab.length+1):zlm w (keepS w0 k j e).1:=by
 by_cases c:e=0
 ·subst c
  rw[z1o]
  exact⟨⟨Nat.le_succ_of_le hm,by show w0.F.C.length<=_; rw[ht]; exact Nat.le_succ _⟩,.inr ⟨k,j,by show w0.J.set k j=_; rw[hj],hr rfl⟩⟩
 ·rw[z44 c] at h; exact absurd h c
theorem zex {r:TTr×Int} (h:(tresS w r).2=0) (hr:r.1.C.length<=w.F.C.length+1):zlm w (tresS w r).1:=by
 unfold tresS at h |-
 by_cases c:r.2=0
 ·rw[y5 (by simp[c])]
  exact⟨⟨Nat.le_succ _,hr⟩,.inl rfl⟩
 ·rw[y6 c] at h; exact absurd h c
variable {p:TOp}
theorem zk9 (h0:(appendS j p).2=0):(appendS j p).1.Ab.length<=j.Ab.length+1:=by
 by_cases hp:POp p
 ·by_cases h1:(doS (nowJ j) p).2=0
  ·by_cases hl:j.Ab.length=400
   ·rw[z42 hp h1 hl] at h0; cases h0
   ·rw[z2e hp h1 hl]; simp
  ·rw[z4l hp h1] at h0
   exact absurd h0 h1
 ·rw[z4k hp] at h0; cases h0
variable {s:TSt}
theorem zsa (h0:(stepW w s).2=0):zlm w (stepW w s).1:=by
 by_cases k:s.Q=1
 ·rw[z6w k] at h0 |-; exact zex h0 (zqc ..)
 by_cases k2:s.Q=2
 ·rw[z6x k2] at h0 |-; exact zex h0 (zll ..)
 by_cases k3:s.Q=3
 ·rw[z8t k3] at h0 |-; exact zex h0 (zqd ..)
 by_cases k4:s.Q=4
 ·rw[z5v k4] at h0 |-; exact zew h0
 by_cases ka:5<=s.Q/\s.Q<=8
 ·rw[z5w ka] at h0 |-
  unfold actS at h0 |-
  by_cases h1:1<=s.Y/\s.Y<=w.J.length
  ·rw[y5 (fun g=>g h1)] at h0 |-
   by_cases c5:s.Q=5
   ·rw[y6 c5] at h0 |-
    by_cases c8:s.Op.Q=8
    ·rw[y6 c8] at h0; cases h0
    ·rw[y5 c8] at h0 |-; exact zbo (ye _) rfl rfl h0 zk9
   rw[y5 c5] at h0 |-
   by_cases c6:s.Q=6
   ·rw[y6 c6] at h0 |-; exact zbo (ye _) rfl rfl h0 fun _=>Nat.le_succ _
   rw[y5 c6] at h0 |-
   by_cases c7:s.Q=7
   ·rw[y6 c7] at h0 |-; exact zbo (ye _) rfl rfl h0 fun _=>by
     show (List.take _ _).length<=_
     rw[y1g]; omega
   rw[y5 c7] at h0 |-
   exact zew h0
  ·rw[y6 h1] at h0; cases h0
 by_cases km:9<=s.Q/\s.Q<=11
 ·rw[z4f km] at h0 |-
  unfold mailS at h0 |-
  by_cases h1:0<=s.Ai/\s.Ai<w.V.length
  ·rw[y5 (fun g=>g h1)] at h0 |-
   by_cases c9:s.Q=9
   ·rw[y6 c9] at h0 |-
    unfold delivS at h0 |-
    by_cases c0:(mAt w s.Ai.toNat).To=0
    ·rw[y6 c0] at h0 |-
     by_cases c1:(J13.hearM w.F (mAt w s.Ai.toNat)).2=0
     ·rw[y5 (fun k=>k c1)]; exact⟨⟨Nat.le_succ_of_le (List.length_eraseIdx_le ..),zoh ..⟩,.inl rfl⟩
     ·rw[y6 c1] at h0; exact absurd h0 c1
    ·rw[y5 c0] at h0 |-; exact zbo (w:=w) (w0:=loseW w s.Ai.toNat) (List.length_eraseIdx_le ..) rfl rfl h0 zk9
   rw[y5 c9] at h0 |-
   by_cases c11:s.Q=11
   ·rw[y6 c11] at h0 |-; exact zew h0
   rw[y5 c11]
   exact⟨⟨Nat.le_succ_of_le (List.length_eraseIdx_le ..),Nat.le_succ _⟩,.inl rfl⟩
  ·rw[y6 h1] at h0; cases h0
 ·rw[z8u om] at h0; cases h0
def Bd (k:Nat) (w:TWo):Prop:=(w.V.length<=k/\w.F.C.length<=k)/\∀ i,i<w.J.length->(jAt w i).Ab.length<=k
theorem zka (h:Bd k w) (h0:(stepW w s).2=0):Bd (k+1) (stepW w s).1:=by
 obtain⟨h1,h2⟩:=zsa h0
 refine⟨by have:=h.1; omega,fun i hi=>?_⟩
 rcases h2 with h2 | ⟨q,j,h2,h3⟩
 ·have e:jAt (stepW w s).1 i=jAt w i:=by unfold jAt; rw[h2]
  rw[h2] at hi
  have:=h.2 i hi
  rw[e]; omega
 ·have e:jAt (stepW w s).1 i=(w.J.set q j).getD i default:=by unfold jAt; rw[h2]
  rw[h2,yb] at hi
  have:=h.2 i hi
  rw[e,z3o hi]
  split
  ·rename_i e; subst e; omega
  ·omega
variable {n:Int}
theorem ztm:Bd 0 (newW n):=by
 refine⟨⟨ye _,ye _⟩,fun i hi=>?_⟩
 have hi:i<(ups n.toNat (fun i=>(⟨(i:Int)+1,[],0⟩:TJo))).length:=hi
 rw[z1a] at hi
 have e:jAt (newW n) i=⟨(i:Int)+1,[],0⟩:=z5u hi
 rw[e]
 exact ye _
variable {b:Nat}
theorem Bd.mono {a:Nat} (h:Bd a w) (hab:a<=b):Bd b w:=⟨by have:=h.1; omega,fun i hi=>by have:=h.2 i hi; omega⟩
theorem zi9 {m:Int} (hn:1<=n/\n<=6) (hm:0<=m/\m<=1000) {s:TTape} (hs:TapeOk s):∃ w s',F_q12 n m s=some (w,s')/\TapeOk s'/\VW w/\(w.J.length:Int)=n/\Bd m.toNat w:=by
 obtain⟨l,s1,e1,t1,l1,hl⟩:=zds hn hm hs
 simp only[F_q12,S_q12,Scr.den,zdr hn,e1,obind]
 obtain⟨w,e,hw⟩:=zp (body:=fun i s=>(S_q12_b1 (l,s1) i s).den) (n:=l.length) (fun i w=>VW w/\(w.J.length:Int)=n/\Bd i w) (s0:=newW n) ⟨zdq hn,zi7 om,ztm⟩ (fun i w hi hI=>by
  have hg:=(hl _ (zb hi)).1.ok
  simp only[S_q12_b1,Scr.den]
  rw[zfr hI.1 hg.1 hg.2]
  simp only[obind]
  by_cases c0:(stepW w (l.getD i default)).2=0
  ·rw[y6 (by simpa using c0)]
   obtain⟨w1,w2⟩:=z6e hI.1 c0
   exact⟨_,rfl,w2,by rw[w1]; exact hI.2.1,zka hI.2.2 c0⟩
  ·rw[y5 (by simpa using c0)]
   exact⟨_,rfl,hI.1,hI.2.1,hI.2.2.mono (Nat.le_succ _)⟩)
 rw[e]
 exact⟨_,_,rfl,t1,hw.1,hw.2.1,hw.2.2.mono om⟩
variable {i:Nat}
theorem z5l {α:Type} [Inhabited α] {l:List α} (hi:i<l.length):l.set i (l.getD i default)=l:=by
 refine y2s (by rw[yb]) fun j h1 h2=>?_
 rw[y3x]
 by_cases e:i=j
 ·subst e
  rw[y6 rfl,z17 hi]
 ·rw[y5 e]
theorem zbt (h:VW w) (hn:1<=n/\n<=w.J.length):F_q2u w n=some (noW w (n-1).toNat,0):=by
 have hl:=h.len
 have hlt:(n-1).toNat<w.J.length:=om
 simp only[F_q2u,S_q2u,Scr.den,z3i h,z6d,obind]
 rw[y5 dk,yd hn,y5 dk,wrapId (n:=n-1) om om,show w.J.getD (n-1).toNat default=jAt w (n-1).toNat from rfl,z5d (h.2.2.2.1 _ hlt).1]
 simp only[obind]
 rw[za ⟨om,hlt,trivial⟩]
 rfl
theorem ztn {k:Int} (h:k=9\/k=10\/k=11):9<=k/\k<=11:=om
theorem zsb (hi:i<w.V.length):stepW w ⟨10,0,p,[],0,0,(i:Int)⟩=(loseW w i,0):=by
 have hI:0<=(i:Int)/\(i:Int)<w.V.length:=om
 rw[z4f (ztn sj)]
 exact (y5 fun k=>k hI).trans ((y5 (show ¬ (10:Int)=9 from dk)).trans (y5 (show ¬ (10:Int)=11 from dk)))
theorem zia (hi:i<w.V.length):stepW w ⟨9,0,p,[],0,0,(i:Int)⟩=delivS w i:=by
 have hI:0<=(i:Int)/\(i:Int)<w.V.length:=om
 rw[z4f (ztn sj)]
 exact (y5 fun k=>k hI).trans (y6 rfl)
noncomputable def doW (w:TWo) (s:TSt):TWo:=if (stepW w s).2=0 then (stepW w s).1 else w
theorem z4m (h:(stepW w s).2=0):doW w s=(stepW w s).1:=y6 h
theorem zdt (h:(stepW w s).2≠0):doW w s=w:=y5 h
theorem zdu (h:VW w) (s:TSt):VW (doW w s)/\(doW w s).J.length=w.J.length:=by
 by_cases c:(stepW w s).2=0
 ·rw[z4m c]
  have:=z6e h c
  exact⟨this.2,this.1⟩
 ·rw[zdt c]; exact⟨h,rfl⟩
theorem z8w (h:VW w) (hs:SOk s):F_q2m s ⟨w⟩=some ((stepW w s).2,⟨doW w s⟩):=by
 simp only[F_q2m,S_q2m,Scr.den]
 rw[zb1 h hs.1 hs.2]
 simp only[obind]
 by_cases c:(stepW w s).2=0
 ·rw[y6 (by simpa using c),z4m c]
 ·rw[y5 (by simpa using c),zdt c]
noncomputable def lastS (w:TWo):TSt:=⟨9,0,⟨0,[],0,0,0,0,0,0,0,0⟩,[],0,0,IntKind.i64.wrap ((w.V.length:Int)-1)⟩
noncomputable def exW (w:TWo) (s:TSt):TWo:=if (stepW w s).2=0 then doW (doW w s) (lastS (doW w s)) else w
theorem zqm (h:VW w) (hs:SOk s):F_q4q s ⟨w⟩=some ⟨exW w s⟩:=by
 simp only[F_q4q,S_q4q,Scr.den]
 rw[z8w h hs]
 simp only[obind]
 unfold exW
 by_cases c:(stepW w s).2=0
 ·rw[y6 (by simpa using c),y6 c,z8w (zdu h s).1 ⟨y1f _,y1f _⟩]
  rfl
 ·rw[y5 (by simpa using c),y5 c,zdt c]
def SameB (w w':TWo):Prop:=w'.J.length=w.J.length/\∀ q,q<w.J.length->(noW w' q).Ae=(noW w q).Ae
theorem SameB.refl (w:TWo):SameB w w:=⟨rfl,fun _ _=>rfl⟩
theorem SameB.trans {a b c:TWo} (h:SameB a b) (h':SameB b c):SameB a c:=⟨h'.1.trans h.1,fun q hq=>(h'.2 q (by rw[h.1]; exact hq)).trans (h.2 q hq)⟩
def SameP (w w':TWo):Prop:=∀ c y,J13.hasP w.F.C c y=true->J13.hasP w'.F.C c y=true
theorem zln (h:VW w) (h0:(delivS w i).2=0):SameB w (delivS w i).1/\(delivS w i).1.V=w.V.eraseIdx i/\SameP w (delivS w i).1:=by
 unfold delivS at h0 |-
 by_cases c0:(mAt w i).To=0
 ·rw[y6 c0] at h0 |-
  by_cases c1:(J13.hearM w.F (mAt w i)).2=0
  ·rw[y5 (fun k=>k c1)]; exact⟨SameB.refl _,rfl,fun c y hp=>((zk3 c1).1.2.2 c y hp).1⟩
  ·rw[y6 c1] at h0; exact absurd h0 c1
 ·rw[y5 c0] at h0 |-
  obtain⟨k,ek⟩:∃ k,k=((mAt w i).To-1).toNat:=⟨_,rfl⟩
  rw[<- ek] at h0 |-
  have a0:(appendS (jAt w k) (hearOp (mAt w i))).2=0:=by
   by_cases c:(appendS (jAt w k) (hearOp (mAt w i))).2=0
   ·exact c
   ·rw[z44 c] at h0; exact h0
  rw[a0,z1o]
  refine⟨⟨yb,fun q hq=>?_⟩,rfl,fun _ _ hp=>hp⟩
  show (nowJ ((w.J.set k _).getD q default)).Ae=_
  rw[z3o hq]
  by_cases e:q=k
  ·subst e
   rw[y6 rfl]
   obtain⟨_,a2,_,a4⟩:=zfn (h.2.2.2.1 q hq).1 a0
   rw[a2]
   show (nowJ ⟨(jAt w q).Y,(jAt w q).Ab++[hearOp (mAt w i)],(jAt w q).Ag⟩).Ae=_
   rw[z6l]
   exact zbn rfl a4
  ·rw[y5 e]
   rfl
theorem zlo (h:VW w) (hb:Bd b w):∃ w',iterM (fun s=>(S_q3_b1 s).den) (⟨w⟩:TCa)=some (.next ⟨w'⟩)/\VW w'/\w'.V=[]/\SameB w w'/\Bd (b+w.V.length) w'/\SameP w w'/\(w.V=[]->w'=w):=by
 obtain⟨s,e,hs⟩:=z2f (step:=fun s=>(S_q3_b1 s).den) (fun s=>s.w.V.length) (fun s=>VW s.w/\SameB w s.w/\s.w.V.length<=w.V.length/\Bd (b+(w.V.length-s.w.V.length)) s.w/\SameP w s.w/\(w.V=[]->s.w=w)) (fun s=>VW s.w/\s.w.V=[]/\SameB w s.w/\Bd (b+w.V.length) s.w/\SameP w s.w/\(w.V=[]->s.w=w)) (fun s hI=>by
  obtain⟨v⟩:=s
  obtain⟨i1,i2,i3,i4,i5,i6⟩:=hI
  simp only at i1 i2 i3 i4 i5 i6
  simp only[S_q3_b1,Scr.den]
  by_cases c:0<v.V.length
  ·have ne:∀ u:TWo,w.V=[]->u=w:=fun u g=>by
    rw[i6 g,g] at c
    exact absurd c (y2m _)
   rw[y6 (by simp only[y7]; omega)]
   have e9:=zia (p:=⟨0,[],0,0,0,0,0,0,0,0⟩) c
   have e10:=zsb (p:=⟨0,[],0,0,0,0,0,0,0,0⟩) c
   have z:((0:Nat):Int)=0:=rfl
   rw[z] at e9 e10
   rw[z8w i1 ⟨y1f _,y1f _⟩]
   simp only[obind]
   have el:(v.V.eraseIdx 0).length=v.V.length-1:=by rw[List.length_eraseIdx,y6 c]
   by_cases c0:(delivS v 0).2=0
   ·rw[e9,y5 (by simpa using c0)]
    obtain⟨d1,d2,d3⟩:=zln i1 c0
    have hst:(stepW v ⟨9,0,⟨0,[],0,0,0,0,0,0,0,0⟩,[],0,0,0⟩).2=0:=by rw[e9]; exact c0
    have hv:=zdu i1 ⟨9,0,⟨0,[],0,0,0,0,0,0,0,0⟩,[],0,0,0⟩
    have hbd:=zka i4 hst
    rw[z4m hst,e9] at hv |-
    rw[e9] at hbd
    refine .inl ⟨_,rfl,⟨hv.1,i2.trans d1,?_,?_,fun c y hp=>d3 c y (i5 c y hp),ne _⟩,?_⟩
    ·show (delivS v 0).1.V.length<=_; rw[d2,el]; omega
    ·show Bd (b+(w.V.length-(delivS v 0).1.V.length)) (delivS v 0).1
     rw[d2,el]
     exact hbd.mono om
    ·show (delivS v 0).1.V.length<v.V.length; rw[d2,el]; omega
   ·rw[e9,y6 (by simpa using c0),zdt (by rw[e9]; exact c0),z8w i1 ⟨y1f _,y1f _⟩]
    simp only[obind]
    have hst:(stepW v ⟨10,0,⟨0,[],0,0,0,0,0,0,0,0⟩,[],0,0,0⟩).2=0:=by rw[e10]
    rw[z4m hst,e10]
    refine .inl ⟨_,rfl,⟨zbl i1 0,i2.trans ⟨rfl,fun _ _=>rfl⟩,?_,?_,i5,ne _⟩,?_⟩
    ·show (v.V.eraseIdx 0).length<=_; rw[el]; omega
    ·refine⟨?_,fun i hi=>?_⟩
     ·show (v.V.eraseIdx 0).length<=b+(w.V.length-(v.V.eraseIdx 0).length)/\v.F.C.length<=b+(w.V.length-(v.V.eraseIdx 0).length)
      have:=i4.1
      rw[el]; omega
     ·have:=i4.2 i hi
      show (jAt v i).Ab.length<=b+(w.V.length-(v.V.eraseIdx 0).length)
      rw[el]; omega
    ·show (v.V.eraseIdx 0).length<v.V.length; rw[el]; omega
  ·rw[y5 (by simp only[y7]; omega)]
   refine .inr ⟨_,rfl,i1,(show v.V=[] from y36.1 om),i2,i4.mono om,i5,i6⟩) (w.V.length+1) ⟨w⟩ (y3w _) ⟨h,SameB.refl _,ye _,by rw[y4n]; exact hb,fun _ _ hp=>hp,fun _=>rfl⟩
 obtain⟨w'⟩:=s
 exact⟨w',e,hs⟩
theorem zqe (hg:good m.D=true) (hy:0<=m.E/\m.E<=99) (h1:J13.tot m.A) (h2:J13.tot m.K):POp (hearOp m):=by
 unfold J13.tot at h1 h2
 refine⟨⟨by show (1:Int)<=8; decide,by show (8:Int)<=9; decide⟩,fun k hk=>?_,rfl⟩
 have hk:k=8\/k=0\/k=6\/k=7:=by
  have:k∈[8,0,6,7]:=hk
  simpa using this
 rcases hk with rfl | rfl | rfl | rfl
 ·exact (z9p _).2 hg
 ·exact (condN dk).2 hy
 ·exact (condN dk).2 h1
 ·exact (condN dk).2 h2
def z1d (t:TTr) (k:Nat) (c:List UInt8) (y:Int):TMe:=⟨0,(k:Int)+1,c,y,nthN (J13.potAt t c y).A k,nthN (J13.potAt t c y).K k,0,0⟩
variable {c:List UInt8} {y:Int} {t:TTr}
theorem zoi (ht:J13.TOk t) (hk:(k:Int)<t.O) (hp:J13.hasP t.C c y=true):J13.tellM t ((k:Int)+1) c y=(z1d t k c y,0):=by
 unfold J13.tellM
 rw[y5 (fun g=>g ht),y5 (fun g=>g ⟨hp,om,om⟩)]
 have e:((k:Int)+1-1).toNat=k:=om
 unfold J13.nth z1d nthN
 rw[e]
theorem zkb (h:VW w) (hk:k<w.J.length) (hrec:(jAt w k).Ab.length≠400) (hR:hasR (noW w k).I c y=true\/((noW w k).I.length:Int)≠60) (hp:J13.hasP w.F.C c y=true) :
  POp (hearOp (z1d w.F k c y))/\(doS (noW w k) (hearOp (z1d w.F k c y))).2=0/\(appendS (jAt w k) (hearOp (z1d w.F k c y))).2=0:=by
 have h2:=h.2.1
 have hpk:=h.1.potAt hp
 have hcy:=J13.potAt_cy hp
 have hg:good c=true:=by have:=hpk.1; rwa [hcy.1] at this
 have hy:0<=y/\y<=99:=by have:=hpk.2.1; rwa [hcy.2] at this
 have t1:J13.tot (nthN (J13.potAt w.F c y).A k):=hpk.2.2.2.1.1.2 _ (zb (show k<_ by have:=hpk.2.2.2.1.1.1; omega))
 have t2:J13.tot (nthN (J13.potAt w.F c y).K k):=hpk.2.2.2.1.2.2.1.2 _ (zb (show k<_ by have:=hpk.2.2.2.1.2.2.1.1; omega))
 obtain⟨q1,q2,q3⟩:=h.2.2.2.1 k hk
 have hv:VO (noW w k):=q1.now
 have hpop:=zqe (m:=z1d w.F k c y) hg hy t1 t2
 have h0:(doS (noW w k) (hearOp (z1d w.F k c y))).2=0:=by
  rw[z7h hv hpop.1]
  have e8:stepS (noW w k) (hearOp (z1d w.F k c y))=hearS (noW w k) (hearOp (z1d w.F k c y)):=y6 rfl
  rw[e8]
  exact zfj hv (p:=hearOp (z1d w.F k c y)) hg hy hR t1 t2
 refine⟨hpop,h0,?_⟩
 rw[z2e hpop h0 hrec]
theorem zqn {α:Type} [DecidableEq α]:∀ {l m:List α},l.Nodup->(∀ x∈l,x∈m)->l.length<=m.length
 | [],_,_,_=>y1f _
 | x :: l,m,h,hs=>by
  have h1:=List.nodup_cons.1 h
  have hx:=hs x (y1u ..)
  have h2:=zqn (l:=l) (m:=m.erase x) h1.2 (fun y hy=>(List.mem_erase_of_ne (fun e:y=x=>h1.1 (by rw[<- e]; exact hy))).2 (hs y (y1b _ hy)))
  rw[List.length_erase_of_mem hx] at h2
  have h3:0<m.length:=y46 hx
  rw[yw]
  omega
variable {o:TOf}
theorem zsc (hv:VO o):(o.I.map fun r=>(r.D,r.E)).Nodup:=by
 refine List.pairwise_iff_getElem.2 fun i j hi hj hij=>?_
 rw[y43] at hi hj
 rw[y33,y33,<- z17 hi,<- z17 hj]
 have h1:=hv.srt.lt hv.ok hij hj
 intro e
 obtain⟨e1,e2⟩:=Prod.mk.inj e
 have h2:=(z4z (hv.ok _ (zb hi)).1 (hv.ok _ (zb hj)).1).2 ⟨e1,e2⟩
 omega
theorem zja (h:VW w) (hk:k<w.J.length):(noW w k).I.length<=w.F.C.length:=by
 obtain⟨q1,q2,q3⟩:=h.2.2.2.1 k hk
 have hv:VO (noW w k):=q1.now
 have:=zqn (m:=w.F.C.map fun p=>(p.D,p.E)) (zsc hv) (fun x hx=>by
  obtain⟨r,hr,rfl⟩:=y1t.1 hx
  obtain⟨p,hp,e1,e2⟩:=J13.has_iff.1 (q3.1 r hr).1
  exact y1t.2 ⟨p,hp,by rw[e1,e2]⟩)
 rwa [y43,y43] at this
def z5i:TOp:=⟨0,[],0,0,0,0,0,0,0,0⟩
theorem zsd (h:VW w) (hm:w.V=[]) (hk:k<w.J.length) (hrec:(jAt w k).Ab.length≠400) (hR:hasR (noW w k).I c y=true\/((noW w k).I.length:Int)≠60) (hp:J13.hasP w.F.C c y=true) :
  exW w ⟨4,(k:Int)+1,z5i,c,y,0,0⟩=⟨w.F,w.J.set k ⟨(jAt w k).Y,(jAt w k).Ab++[hearOp (z1d w.F k c y)],(jAt w k).Ag⟩,[]⟩:=by
 have h2:=h.2.1
 obtain⟨g1,g2,g3⟩:=zkb h hk hrec hR hp
 have e4:stepW w ⟨4,(k:Int)+1,z5i,c,y,0,0⟩=(⟨w.F,w.J,[z1d w.F k c y]⟩,0):=by
  rw[z5v rfl]
  show sendS w (J13.tellM w.F ((k:Int)+1) c y).1 (J13.tellM w.F ((k:Int)+1) c y).2=_
  rw[zoi h.1 om hp,z3g (by rw[hm]; decide),hm]
  rfl
 have hd:doW w ⟨4,(k:Int)+1,z5i,c,y,0,0⟩=⟨w.F,w.J,[z1d w.F k c y]⟩:=by
  rw[z4m (by rw[e4]),e4]
 have hl:lastS ⟨w.F,w.J,[z1d w.F k c y]⟩=⟨9,0,z5i,[],0,0,((0:Nat):Int)⟩:=rfl
 have e9:stepW ⟨w.F,w.J,[z1d w.F k c y]⟩ ⟨9,0,z5i,[],0,0,((0:Nat):Int)⟩=(⟨w.F,w.J.set k ⟨(jAt w k).Y,(jAt w k).Ab++[hearOp (z1d w.F k c y)],(jAt w k).Ag⟩,[]⟩,0):=by
  rw[zia (by show 0<1; decide)]
  have ek:(((k:Int)+1)-1).toNat=k:=om
  have hne:¬ (mAt ⟨w.F,w.J,[z1d w.F k c y]⟩ 0).To=0:=by
   show ¬ (k:Int)+1=0
   omega
  unfold delivS
  rw[y5 hne]
  show keepS _ (((k:Int)+1)-1).toNat (appendS (jAt w (((k:Int)+1)-1).toNat) (hearOp (z1d w.F k c y))).1 (appendS (jAt w (((k:Int)+1)-1).toNat) (hearOp (z1d w.F k c y))).2=_
  rw[ek,z2e g1 g2 hrec,z1o]
  rfl
 unfold exW
 rw[y6 (by rw[e4]),hd,hl,z4m (by rw[e9]),e9]
theorem zoj (h:VW w) (hm:w.V=[]) (hk:k<w.J.length) (hR:hasR (stW w k).I c y=true) :
  exW w ⟨8,(k:Int)+1,z5i,c,y,0,0⟩=⟨J13.putP w.F c y (J13.withH (J13.potAt w.F c y) (J13.upd (J13.potAt w.F c y).L ((k:Int)+1) (rightV (stW w k).I c y).M) (J13.upd (J13.potAt w.F c y).S ((k:Int)+1) (usedV (stW w k).Ae c y))),w.J,[]⟩:=by
 have h2:=h.2.1
 have hl:=h.len
 obtain⟨q1,q2,q3⟩:=h.2.2.2.1 k hk
 have hv:VO (stW w k):=q1.stb
 have hn:(stW w k).N=(k:Int)+1:=(zk2 q1).trans q2
 have hle:=z8s q1 c y
 obtain⟨z1,z2,_⟩:=z2o q1.now q3 (hle.1 hR)
 have hb:=z2h hv.ok c y
 have hu:=z1p hv.val c y
 have hh:=z4u q3 z1
 have hG:(rightV (stW w k).I c y).A<=nthN (J13.potAt w.F c y).A k:=y2l hle.2.1 z2
 obtain⟨m,em⟩:∃ m:TMe,m=⟨(k:Int)+1,0,c,y,0,0,(rightV (stW w k).I c y).M,usedV (stW w k).Ae c y⟩:=⟨_,rfl⟩
 have er:reportS (stW w k) c y=(m,0):=by
  unfold reportS
  rw[y5 (fun g=>g hv),y5 (fun g=>g hR),hn,em]
 have ek:(((k:Int)+1)-1).toNat=k:=om
 have e8:stepW w ⟨8,(k:Int)+1,z5i,c,y,0,0⟩=(⟨w.F,w.J,[m]⟩,0):=by
  rw[z5w (show 5<=(8:Int)/\(8:Int)<=8 from dk)]
  have hI:1<=(k:Int)+1/\(k:Int)+1<=(w.J.length:Int):=om
  refine (y5 fun g=>g hI).trans ((y5 (show ¬ (8:Int)=5 from dk)).trans ((y5 (show ¬ (8:Int)=6 from dk)).trans ((y5 (show ¬ (8:Int)=7 from dk)).trans ?_)))
  show sendS w (reportS (stW w (((k:Int)+1)-1).toNat) c y).1 (reportS (stW w (((k:Int)+1)-1).toNat) c y).2=_
  rw[ek,er,z3g (by rw[hm]; decide),hm]
  rfl
 have hd:doW w ⟨8,(k:Int)+1,z5i,c,y,0,0⟩=⟨w.F,w.J,[m]⟩:=by
  rw[z4m (by rw[e8]),e8]
 have hls:lastS ⟨w.F,w.J,[m]⟩=⟨9,0,z5i,[],0,0,((0:Nat):Int)⟩:=rfl
 have en:∀ l:List Int,J13.nth l ((k:Int)+1)=nthN l k:=fun l=>by
  unfold J13.nth nthN
  rw[ek]
 have eh:J13.hearM w.F m=(J13.putP w.F c y (J13.withH (J13.potAt w.F c y) (J13.upd (J13.potAt w.F c y).L ((k:Int)+1) (rightV (stW w k).I c y).M) (J13.upd (J13.potAt w.F c y).S ((k:Int)+1) (usedV (stW w k).Ae c y))),0):=by
  have hh':nthN (J13.potAt w.F c y).L k<=(rightV (stW w k).I c y).M:=hh
  rw[em]
  unfold J13.hearM
  rw[y5 (fun g=>g rfl),y5 (fun g=>g h.1),y5 (fun g=>g z1),y5 (fun g=>g ⟨by show 1<=(k:Int)+1; omega,by show (k:Int)+1<=_; omega⟩),y5 (fun g=>g ⟨⟨hb.1,by show _<=J13.nth _ ((k:Int)+1); rw[en]; exact y2l hb.2.1 hG⟩,by rw[show usedV (stW w k).Ae c y=_ from hu.1]; exact⟨hu.2.1,y2l hu.2.2 dk⟩⟩)]
  show (J13.putP w.F c y (J13.withH _ (J13.upd _ ((k:Int)+1) (max (J13.nth _ ((k:Int)+1)) (rightV (stW w k).I c y).M)) _),(0:Int))=_
  rw[en,show max (nthN (J13.potAt w.F c y).L k) (rightV (stW w k).I c y).M=(rightV (stW w k).I c y).M from om]
 have e9:stepW ⟨w.F,w.J,[m]⟩ ⟨9,0,z5i,[],0,0,((0:Nat):Int)⟩=(⟨(J13.hearM w.F m).1,w.J,[]⟩,0):=by
  rw[zia (by show 0<1; decide)]
  have h0:(mAt ⟨w.F,w.J,[m]⟩ 0).To=0:=by
   show m.To=0
   rw[em]
  unfold delivS
  rw[y6 h0]
  show (if (J13.hearM w.F m).2≠0 then _ else _)=_
  rw[y5 (by rw[eh]; exact fun g=>g rfl)]
  rfl
 unfold exW
 rw[y6 (by rw[e8]),hd,hls,z4m (by rw[e9]),e9,eh]
theorem zok (hv:VO o) (hr:hasR o.I p.D p.E=true) (h1:1<=p.T) (h2:p.T<=unusedV o p.D p.E):(giveS o p).2=0:=by
 have hu:=z1p hv.val p.D p.E
 rw[hv.unused] at h2
 have hR:=hv.ok _ (z24 hr).1
 have hb:=z2h hv.ok p.D p.E
 have e1:IntKind.i64.wrap ((rightV o.I p.D p.E).A-(rightV o.I p.D p.E).M)=(rightV o.I p.D p.E).A-(rightV o.I p.D p.E).M:=wrapId om om
 have e2:(returnS (rightV o.I p.D p.E) (usedV o.Ae p.D p.E) p.T).2=0:=by
  unfold returnS
  rw[e1,hu.1,y5 (fun g=>g ⟨hR,hu.2.1,om⟩),y5 (fun g=>g ⟨h1,om⟩),wrapId om om,y5 om]
 unfold giveS
 rw[y5 (fun g=>g hr),y5 (fun g=>g e2)]
def giveOp (c:List UInt8) (y n:Int):TOp:=⟨7,c,y,0,0,n,0,0,0,0⟩
theorem zqf (hg:good c=true) (hy:0<=y/\y<=99) (hn:0<=n/\n<=1000000000000000):POp (giveOp c y n):=by
 refine⟨⟨by show (1:Int)<=7; decide,by show (7:Int)<=9; decide⟩,fun k hk=>?_,rfl⟩
 have hk:k=8\/k=0\/k=2:=by
  have:k∈[8,0,2]:=hk
  simpa using this
 rcases hk with rfl | rfl | rfl
 ·exact (z9p _).2 hg
 ·exact (condN dk).2 hy
 ·exact (condN dk).2 hn
noncomputable def askW (o:TOf) (c:List UInt8) (y:Int):Int:=wantedS (rightV o.I c y) (usedV o.Ae c y)
theorem z7o (hv:VO o) (hr:hasR o.I c y=true):0<=askW o c y/\askW o c y<=unusedV o c y/\askW o c y=max (min ((rightV o.I c y).A-usedE o.Ae c y) (rightV o.I c y).K-(rightV o.I c y).M) 0:=by
 have hu:=z1p hv.val c y
 have hR:=hv.ok _ (z24 hr).1
 have hb:=z2h hv.ok c y
 have hn:=hv.unused_nn c y
 rw[hv.unused] at hn |-
 unfold askW wantedS
 rw[hu.1,y6 ⟨hR,hu.2.1,om⟩]
 have key:∀ G U A R:Int,(if G-U<A then (if G-U-R>0 then G-U-R else 0) else (if A-R>0 then A-R else 0))=max (min (G-U) A-R) 0:=fun G U A R=>by
  split <;> split <;> omega
 rw[key]
 refine⟨om,om,rfl⟩
theorem zol (hv:VO o) (c:List UInt8) (y:Int):answerS o c y=if askW o c y=0 then (noP,false) else (giveOp c y (askW o c y),true):=y5 fun g=>g hv
theorem zse (hv:VO o) (hr:hasR o.I c y=true) (h0:askW o c y≠0):(doS o (giveOp c y (askW o c y))).2=0/\(doS o (giveOp c y (askW o c y))).1.Ae=o.Ae/\askW (doS o (giveOp c y (askW o c y))).1 c y=0:=by
 obtain⟨b1,b2,b3⟩:=z7o hv hr
 have hs:stepS o (giveOp c y (askW o c y))=giveS o (giveOp c y (askW o c y)):=(y5 (show ¬ (7:Int)=8 from dk)).trans (y6 rfl)
 have g0:(giveS o (giveOp c y (askW o c y))).2=0:=zok hv hr (by show 1<=askW o c y; omega) b2
 have e:doS o (giveOp c y (askW o c y))=giveS o (giveOp c y (askW o c y)):=by
  rw[z7h hv ⟨by show (1:Int)<=7; decide,by show (7:Int)<=9; decide⟩,hs]
 obtain⟨_,_,_,r,e1,hrt,h3,hvo⟩:=zel hv g0
 have h0d:(doS o (giveOp c y (askW o c y))).2=0:=by rw[e]; exact g0
 have hbk:(doS o (giveOp c y (askW o c y))).1.Ae=o.Ae:=by rw[e,e1]
 refine⟨h0d,hbk,?_⟩
 obtain⟨d1,d2,d3,d4,d5⟩:=(z2i h0d).2 c y
 have hv2:=z9o h0d
 rw[y5 (fun g=>absurd g.1 (show ¬ (7:Int)=8 from dk))] at d2 d3
 rw[y6 ⟨rfl,rfl,rfl⟩] at d4
 have hr2:=d1.2 (.inl hr)
 have:=(z7o hv2 hr2).2.2
 rw[d2,d3,d4,hbk] at this
 rw[this]
 show max (min ((rightV o.I c y).A-usedE o.Ae c y) (rightV o.I c y).K-((rightV o.I c y).M+askW o c y)) 0=0
 omega
theorem zom (h:VW w) (s:TSt):VW (exW w s)/\(exW w s).J.length=w.J.length:=by
 unfold exW
 by_cases c:(stepW w s).2=0
 ·rw[y6 c]
  obtain⟨h1,h2⟩:=zdu h s
  obtain⟨h3,h4⟩:=zdu h1 (lastS (doW w s))
  exact⟨h3,h4.trans h2⟩
 ·rw[y5 c]; exact⟨h,rfl⟩
theorem zib (hk:k<w.J.length) (hn:5<=n/\n<=8):stepW w ⟨n,(k:Int)+1,p,[],0,0,0⟩ =
  if n=5 then (if p.Q=8 then (zWd,9) else keepS w k (appendS (jAt w k) p).1 (appendS (jAt w k) p).2) else if n=6 then keepS w k (flushJ (jAt w k)) 0 else if n=7 then keepS w k (crashJ (jAt w k)) 0 else sendS w (reportS (stW w k) [] 0).1 (reportS (stW w k) [] 0).2:=by
 rw[z5w hn]
 have hI:1<=(k:Int)+1/\(k:Int)+1<=(w.J.length:Int):=om
 have ek:(((k:Int)+1)-1).toNat=k:=om
 refine (y5 fun g=>g hI).trans ?_
 show (if n=5 then (if p.Q=8 then (zWd,9) else keepS w (((k:Int)+1)-1).toNat (appendS (jAt w (((k:Int)+1)-1).toNat) p).1 (appendS (jAt w (((k:Int)+1)-1).toNat) p).2) else if n=6 then keepS w (((k:Int)+1)-1).toNat (flushJ (jAt w (((k:Int)+1)-1).toNat)) 0 else if n=7 then keepS w (((k:Int)+1)-1).toNat (crashJ (jAt w (((k:Int)+1)-1).toNat)) 0 else sendS w (reportS (stW w (((k:Int)+1)-1).toNat) [] 0).1 (reportS (stW w (((k:Int)+1)-1).toNat) [] 0).2)=_
 rw[ek]
theorem zto (hk:k<w.J.length) (h8:p.Q≠8) (hp:POp p) (h0:(doS (noW w k) p).2=0) (hrec:(jAt w k).Ab.length≠400):stepW w ⟨5,(k:Int)+1,p,[],0,0,0⟩=(⟨w.F,w.J.set k ⟨(jAt w k).Y,(jAt w k).Ab++[p],(jAt w k).Ag⟩,w.V⟩,0):=by
 rw[zib hk ⟨dk,dk⟩,y6 rfl,y5 h8,z2e hp h0 hrec,z1o]
theorem ztp (hk:k<w.J.length):stepW w ⟨6,(k:Int)+1,p,[],0,0,0⟩=(⟨w.F,w.J.set k (flushJ (jAt w k)),w.V⟩,0):=by
 rw[zib hk ⟨dk,dk⟩,y5 dk,y6 rfl,z1o]
theorem zon (hk:k<w.J.length):stepW w ⟨7,(k:Int)+1,p,[],0,0,0⟩=(⟨w.F,w.J.set k (crashJ (jAt w k)),w.V⟩,0):=by
 rw[zib hk ⟨dk,dk⟩,y5 dk,y5 dk,y6 rfl,z1o]
def Tld (t:TTr) (o:TOf) (k:Nat) (c:List UInt8) (y:Int):Prop:=hasR o.I c y=true/\(rightV o.I c y).A=nthN (J13.potAt t c y).A k/\(rightV o.I c y).K=nthN (J13.potAt t c y).K k/\askW o c y=0
theorem zoo (hv:VO o) (h0:(doS o p).2=0) (hb:(doS o p).1.Ae=o.Ae) (hne:¬ (p.D=c/\p.E=y)) (h:Tld t o k c y):Tld t (doS o p).1 k c y/\(rightV (doS o p).1.I c y).M=(rightV o.I c y).M:=by
 obtain⟨h1,h2,h3,h4⟩:=h
 obtain⟨d1,d2,d3,d4,_⟩:=(z2i h0).2 c y
 rw[y5 (fun g=>hne g.2)] at d2 d3 d4
 have hr:=d1.2 (.inl h1)
 refine⟨⟨hr,d2.trans h2,d3.trans h3,?_⟩,d4⟩
 rw[(z7o (z9o h0) hr).2.2,d2,d3,d4,hb,<- (z7o hv h1).2.2]
 exact h4
theorem zsf (h:VW w) (hm:w.V=[]) (hk:k<w.J.length) (hrec:(jAt w k).Ab.length<390) (hR:hasR (noW w k).I c y=true\/((noW w k).I.length:Int)≠60) (hp:J13.hasP w.F.C c y=true) (ec:(w0.F.C.getD i default).D=c) (ey:(w0.F.C.getD i default).E=y) :
  ∃ j,(S_qi_b1 ((k:Int)+1) ⟨w0⟩ i ⟨w⟩).den=some (.cont ⟨⟨w.F,w.J.set k j,[]⟩⟩)/\VW ⟨w.F,w.J.set k j,[]⟩/\stbJ j=stW w k/\j.Ab.length<=(jAt w k).Ab.length+2/\(nowJ j).Ae=(noW w k).Ae/\Tld w.F (nowJ j) k c y/\∀ c' y',Tld w.F (noW w k) k c' y'->Tld w.F (nowJ j) k c' y'/\(rightV (nowJ j).I c' y').M=(rightV (noW w k).I c' y').M:=by
 have hl:=h.len
 have h2:=h.2.1
 obtain⟨q1,q2,q3⟩:=h.2.2.2.1 k hk
 have hv:VO (noW w k):=q1.now
 obtain⟨g1,g2,g3⟩:=zkb h hk om hR hp
 have hcy:=J13.potAt_cy hp
 have hpk:=h.1.potAt hp
 have hg:good c=true:=by have:=hpk.1; rwa [hcy.1] at this
 have hy:0<=y/\y<=99:=by have:=hpk.2.1; rwa [hcy.2] at this
 have hc:=z3e hg
 have ex:=zsd h hm hk om hR hp
 have hx:=zom h ⟨4,(k:Int)+1,z5i,c,y,0,0⟩
 rw[ex] at hx
 obtain⟨v1,_⟩:=hx
 obtain⟨m,em⟩:∃ m,m=hearOp (z1d w.F k c y):=⟨_,rfl⟩
 rw[<- em] at g1 g2 g3 ex v1
 obtain⟨j1,e1⟩:∃ j1:TJo,j1=⟨(jAt w k).Y,(jAt w k).Ab++[m],(jAt w k).Ag⟩:=⟨_,rfl⟩
 rw[<- e1] at ex v1
 have hk1:k<(w.J.set k j1).length:=by rw[yb]; exact hk
 have ej:jAt ⟨w.F,w.J.set k j1,[]⟩ k=j1:=by
  show (w.J.set k j1).getD k default=j1
  rw[z3o hk,y6 rfl]
 have n1:nowJ j1=(doS (noW w k) m).1:=by rw[e1,z6l]; rfl
 obtain⟨r1,r2,r3⟩:=v1.2.2.2.1 k hk1
 have r3:KnownJ w.F (nowJ (jAt ⟨w.F,w.J.set k j1,[]⟩ k)) _ k:=r3
 rw[ej] at r1 r2 r3
 have hv1:VO (nowJ j1):=r1.now
 have hb1:(nowJ j1).Ae=(noW w k).Ae:=by rw[n1]; exact zbn (by rw[em]; rfl) g2
 obtain⟨d1,d2,d3,d4,_⟩:=(z2i g2).2 c y
 have k8:m.Q=8/\m.D=c/\m.E=y:=by rw[em]; exact⟨rfl,rfl,rfl⟩
 rw[y6 k8] at d2 d3
 rw[y5 (fun g=>absurd (k8.1.symm.trans g.1) dk)] at d4
 rw[<- n1] at d1 d2 d3 d4
 have hr1:=d1.2 (.inr k8)
 obtain⟨_,u1,u2⟩:=z2o r1.now r3 hr1
 have mG:m.A=nthN (J13.potAt w.F c y).A k:=by rw[em]; rfl
 have mA:m.Af=nthN (J13.potAt w.F c y).K k:=by rw[em]; rfl
 have G1:(rightV (nowJ j1).I c y).A=nthN (J13.potAt w.F c y).A k:=Int.le_antisymm u1 (by rw[d2,<- mG]; exact Int.le_max_right _ _)
 have A1:(rightV (nowJ j1).I c y).K=nthN (J13.potAt w.F c y).K k:=Int.le_antisymm u2 (by rw[d3,<- mA]; exact Int.le_max_right _ _)
 have ew:IntKind.i64.wrap (((k:Int)+1)-1)=(k:Int):=by rw[wrapId om om]; omega
 have s1:stbJ j1=stW w k:=by rw[e1,z6m q1]; rfl
 have old1:∀ c' y',¬ (c=c'/\y=y')->Tld w.F (noW w k) k c' y'->Tld w.F (nowJ j1) k c' y'/\(rightV (nowJ j1).I c' y').M=(rightV (noW w k).I c' y').M:=fun c' y' hne ht=>by
  rw[n1]
  exact zoo hv g2 (by rw[<- n1]; exact hb1) (by rw[k8.2.1,k8.2.2]; exact hne) ht
 simp only[S_qi_b1,Scr.den]
 rw[ec,ey,show (⟨0,[],0,0,0,0,0,0,0,0⟩:TOp)=z5i from rfl,zqm h ⟨by show c.length<=_; omega,y1f _⟩,ex]
 simp only[obind,ew,yg]
 rw[show (w.J.set k j1).getD k default=j1 from ej,z5d r1]
 simp only[obind]
 rw[za ⟨om,hk1,trivial⟩,znj hv1.smO om,zol hv1]
 simp only[obind]
 by_cases c0:askW (nowJ j1) c y=0
 ·rw[y6 c0,y5 dk]
  refine⟨j1,rfl,v1,s1,?_,hb1,⟨hr1,G1,A1,c0⟩,fun c' y' ht=>?_⟩
  ·rw[e1]; show ((jAt w k).Ab++[m]).length<=_; simp
  ·by_cases e:c=c'/\y=y'
   ·obtain⟨rfl,rfl⟩:=e
    exact⟨⟨hr1,G1,A1,c0⟩,d4⟩
   ·exact old1 c' y' e ht
 ·rw[y5 c0,y6 rfl]
  obtain⟨x1,x2,x3⟩:=zse hv1 hr1 c0
  obtain⟨b1,b2,_⟩:=z7o hv1 hr1
  have hbd:=z2h hv1.ok c y
  have hus:=z1p hv1.val c y
  rw[hv1.unused] at b2
  have hpop:=zqf hg hy (n:=askW (nowJ j1) c y) ⟨b1,om⟩
  have hst:=zto (w:=⟨w.F,w.J.set k j1,[]⟩) hk1 (p:=giveOp c y (askW (nowJ j1) c y)) (by show ¬ (7:Int)=8; decide) hpop (by show (doS (nowJ (jAt _ k)) _).2=0; rw[ej]; exact x1) (by rw[ej,e1]; show ((jAt w k).Ab++[m]).length≠400; rw[yu]; simp; omega)
  rw[ej] at hst
  obtain⟨j2,e2⟩:∃ j2:TJo,j2=⟨j1.Y,j1.Ab++[giveOp c y (askW (nowJ j1) c y)],j1.Ag⟩:=⟨_,rfl⟩
  rw[<- e2] at hst
  have hst:stepW ⟨w.F,w.J.set k j1,[]⟩ ⟨5,(k:Int)+1,giveOp c y (askW (nowJ j1) c y),[],0,0,0⟩=(⟨w.F,w.J.set k j2,[]⟩,0):=by
   rw[hst]
   show ((⟨w.F,(w.J.set k j1).set k j2,[]⟩:TWo),(0:Int))=_
   rw[List.set_set]
  rw[z8w v1 ⟨y1f _,by show c.length<=_; omega⟩,z4m (by rw[hst]),hst]
  have v2:=z4h v1 hst
  have n2:nowJ j2=(doS (nowJ j1) (giveOp c y (askW (nowJ j1) c y))).1:=by rw[e2,z6l]
  obtain⟨y1,y2,y3,_,_⟩:=(z2i x1).2 c y
  rw[y5 (fun g=>absurd g.1 (show ¬ (7:Int)=8 from dk))] at y2 y3
  have T2:Tld w.F (nowJ j2) k c y:=by
   rw[n2]
   exact⟨y1.2 (.inl hr1),y2.trans G1,y3.trans A1,x3⟩
  refine⟨j2,rfl,v2,?_,?_,?_,T2,fun c' y' ht=>?_⟩
  ·rw[e2,z6m r1]; exact s1
  ·rw[e2,e1]; show ((jAt w k).Ab++[m]++[_]).length<=_; simp
  ·rw[n2]; exact x2.trans hb1
  ·by_cases e:c=c'/\y=y'
   ·obtain⟨rfl,rfl⟩:=e
    refine absurd ?_ c0
    rw[(z7o hv1 hr1).2.2,G1,A1,d4,hb1,<- ht.2.1,<- ht.2.2.1,<- (z7o hv ht.1).2.2]
    exact ht.2.2.2
   ·rw[n2]
    obtain⟨t1,t2⟩:=zoo hv1 x1 x2 e (old1 c' y' e ht).1
    exact⟨t1,t2.trans (old1 c' y' e ht).2⟩
def Rep (t:TTr) (o:TOf) (k:Nat) (c:List UInt8) (y:Int):Prop:=nthN (J13.potAt t c y).L k=(rightV o.I c y).M/\nthN (J13.potAt t c y).S k=usedV o.Ae c y
def TS (k:Nat) (t t':TTr):Prop:=(t'.O=t.O/\t'.C.length=t.C.length/\∀ i,(t'.C.getD i default).D=(t.C.getD i default).D/\(t'.C.getD i default).E=(t.C.getD i default).E)/\∀ c y,J13.hasP t'.C c y=J13.hasP t.C c y/\(J13.hasP t.C c y=true->(J13.potAt t' c y).A=(J13.potAt t c y).A/\(J13.potAt t' c y).K=(J13.potAt t c y).K/\(J13.potAt t' c y).W=(J13.potAt t c y).W/\∀ i,i≠k->nthN (J13.potAt t' c y).L i=nthN (J13.potAt t c y).L i/\nthN (J13.potAt t' c y).S i=nthN (J13.potAt t c y).S i)
theorem zbp {l:List Int} {x:Int}:nthN (J13.upd l ((k:Int)+1) x) i=if i=k/\k<l.length then x else nthN l i:=by
 have ek:(((k:Int)+1)-1).toNat=k:=om
 unfold nthN J13.upd
 rw[ek]
 by_cases hi:i<l.length
 ·rw[J13.getD_set_int hi]
  by_cases e:i=k
  ·rw[y6 e,y6 ⟨e,om⟩]
  ·rw[y5 e,y5 fun g=>e g.1]
 ·rw[z55 (l:=l.set k x) (by rw[yb]; omega),y5 om,z55 om]
variable {v:TWo}
theorem zsg (h:VW w) (hm:w.V=[]) (hk:k<w.J.length) (hc:c.length<=1000000) (hR:hasR (stW w k).I c y=true) (ec:(v.F.C.getD i default).D=c) (ey:(v.F.C.getD i default).E=y) :
  ∃ t,(S_qi_b2 ((k:Int)+1) (e,⟨v⟩) i ⟨w⟩).den=some (.cont ⟨⟨t,w.J,[]⟩⟩)/\VW ⟨t,w.J,[]⟩/\TS k w.F t/\Rep t (stW w k) k c y/\∀ c' y',J13.hasP w.F.C c' y'=true->Rep w.F (stW w k) k c' y'->Rep t (stW w k) k c' y':=by
 have h2:=h.2.1
 obtain⟨q1,q2,q3⟩:=h.2.2.2.1 k hk
 have hle:=z8s q1 c y
 have hp:J13.hasP w.F.C c y=true:=(z2o q1.now q3 (hle.1 hR)).1
 have hcy:=J13.potAt_cy hp
 have hpk:=h.1.potAt hp
 have ex:=zoj h hm hk hR
 have hx:=zom h ⟨8,(k:Int)+1,z5i,c,y,0,0⟩
 rw[ex] at hx
 obtain⟨p,ep⟩:∃ p,p=J13.withH (J13.potAt w.F c y) (J13.upd (J13.potAt w.F c y).L ((k:Int)+1) (rightV (stW w k).I c y).M) (J13.upd (J13.potAt w.F c y).S ((k:Int)+1) (usedV (stW w k).Ae c y)):=⟨_,rfl⟩
 rw[<- ep] at hx ex
 obtain⟨u1,u2⟩:=z88 hp (p:=p) (by rw[ep]; exact hcy.1) (by rw[ep]; exact hcy.2) hx.1.1
 have lH:k<(J13.potAt w.F c y).L.length:=by have:=hpk.2.2.2.1.2.1.1; omega
 have lU:k<(J13.potAt w.F c y).S.length:=by have:=hpk.2.2.2.1.2.2.2.1; omega
 have R:Rep (J13.putP w.F c y p) (stW w k) k c y:=by
  unfold Rep
  rw[u1,ep]
  show nthN (J13.upd _ _ _) k=_/\nthN (J13.upd _ _ _) k=_
  rw[zbp,zbp,y6 ⟨rfl,lH⟩,y6 ⟨rfl,lU⟩]
  exact⟨rfl,rfl⟩
 refine⟨J13.putP w.F c y p,?_,hx.1,⟨⟨rfl,yb,fun q=>?_⟩,fun c' y'=>⟨(u2 c' y').1,fun hp'=>?_⟩⟩,R,fun c' y' hp' hr=>?_⟩
 ·simp only[S_qi_b2,Scr.den]
  rw[ec,ey,show (⟨0,[],0,0,0,0,0,0,0,0⟩:TOp)=z5i from rfl,zqm h ⟨hc,y1f _⟩,ex]
  rfl
 ·obtain⟨k1,k2,k3⟩:=J13.pix_lt hp
  show ((w.F.C.set (J13.pix w.F.C c y) p).getD q default).D=_/\((w.F.C.set (J13.pix w.F.C c y) p).getD q default).E=_
  simp only[y8,y47]
  by_cases z:J13.pix w.F.C c y=q
  ·subst z
   rw[y6 rfl,y6 k1,<- y8,k2,k3,ep]
   exact⟨hcy.1,hcy.2⟩
  ·rw[y5 z]; exact⟨rfl,rfl⟩
 ·by_cases q:c'=c/\y'=y
  ·obtain⟨rfl,rfl⟩:=q
   rw[u1,ep]
   refine⟨rfl,rfl,rfl,fun i hi=>?_⟩
   show nthN (J13.upd _ _ _) i=_/\nthN (J13.upd _ _ _) i=_
   rw[zbp,zbp,y5 fun g=>hi g.1,y5 fun g=>hi g.1]
   exact⟨rfl,rfl⟩
  ·rw[(u2 c' y').2 hp' q]
   exact⟨rfl,rfl,rfl,fun _ _=>⟨rfl,rfl⟩⟩
 ·by_cases q:c'=c/\y'=y
  ·obtain⟨rfl,rfl⟩:=q
   exact R
  ·unfold Rep
   rw[(u2 c' y').2 hp' q]
   exact hr
theorem TS.refl (k:Nat) (t:TTr):TS k t t:=⟨⟨rfl,rfl,fun _=>⟨rfl,rfl⟩⟩,fun _ _=>⟨rfl,fun _=>⟨rfl,rfl,rfl,fun _ _=>⟨rfl,rfl⟩⟩⟩⟩
theorem TS.trans {a b c:TTr} (h:TS k a b) (h':TS k b c):TS k a c:=⟨⟨h'.1.1.trans h.1.1,h'.1.2.1.trans h.1.2.1,fun i=>⟨(h'.1.2.2 i).1.trans (h.1.2.2 i).1,(h'.1.2.2 i).2.trans (h.1.2.2 i).2⟩⟩,fun d y=>by
 obtain⟨g1,g2⟩:=h.2 d y
 obtain⟨g3,g4⟩:=h'.2 d y
 refine⟨g3.trans g1,fun hp=>?_⟩
 obtain⟨a1,a2,a3,a4⟩:=g2 hp
 obtain⟨b1,b2,b3,b4⟩:=g4 (g1.trans hp)
 exact⟨b1.trans a1,b2.trans a2,b3.trans a3,fun i hi=>⟨(b4 i hi).1.trans (a4 i hi).1,(b4 i hi).2.trans (a4 i hi).2⟩⟩⟩
theorem zop (h:VW w) (hm:w.V=[]) (hk:k<w.J.length) (hpots:w.F.C.length<60) (hrec:(jAt w k).Ab.length+2 * w.F.C.length<390) :
  ∃ t j,F_qi ((k:Int)+1) ⟨w⟩=some ⟨⟨t,w.J.set k j,[]⟩⟩/\VW ⟨t,w.J.set k j,[]⟩/\TS k w.F t/\stbJ j=nowJ j/\j.Ab.length<=(jAt w k).Ab.length+2 * w.F.C.length/\(nowJ j).Ae=(noW w k).Ae /\
   (∀ c y,J13.hasP w.F.C c y=true->Tld w.F (nowJ j) k c y/\Rep t (nowJ j) k c y)/\∀ c y,Tld w.F (noW w k) k c y->(rightV (nowJ j).I c y).M=(rightV (noW w k).I c y).M:=by
 have hpl:=h.1.2.1
 simp only[F_qi,S_qi,Scr.den]
 obtain⟨s,e,hs⟩:=zp (body:=fun i s=>(S_qi_b1 ((k:Int)+1) ⟨w⟩ i s).den) (n:=w.F.C.length) (fun i s=>∃ j,s=(⟨⟨w.F,w.J.set k j,[]⟩⟩:TCa)/\VW ⟨w.F,w.J.set k j,[]⟩/\j.Ab.length<=(jAt w k).Ab.length+2 * i/\(nowJ j).Ae=(noW w k).Ae /\
   (∀ q,q<i->Tld w.F (nowJ j) k (w.F.C.getD q default).D (w.F.C.getD q default).E)/\∀ c y,Tld w.F (noW w k) k c y->Tld w.F (nowJ j) k c y/\(rightV (nowJ j).I c y).M=(rightV (noW w k).I c y).M) (s0:=(⟨w⟩:TCa)) ⟨jAt w k,by
    have:w.J.set k (jAt w k)=w.J:=z5l hk
    rw[this,<- hm],by
    have:w.J.set k (jAt w k)=w.J:=z5l hk
    rw[this,<- hm]; exact h,om,rfl,fun q hq=>absurd hq (y2m _),fun _ _ ht=>⟨ht,rfl⟩⟩ (fun i s hi hI=>by
  obtain⟨j,rfl,i1,i2,i3,i4,i5⟩:=hI
  have hk1:k<(⟨w.F,w.J.set k j,[]⟩:TWo).J.length:=by show k<(w.J.set k j).length; rw[yb]; exact hk
  have ej:jAt ⟨w.F,w.J.set k j,[]⟩ k=j:=by
   show (w.J.set k j).getD k default=j
   rw[z3o hk,y6 rfl]
  have en:noW ⟨w.F,w.J.set k j,[]⟩ k=nowJ j:=by unfold noW; rw[ej]
  have hrp:=zja i1 hk1
  have hrp:(noW ⟨w.F,w.J.set k j,[]⟩ k).I.length<=w.F.C.length:=hrp
  obtain⟨p1,p2⟩:=z3j h.1 (zb hi)
  obtain⟨j',z1,z2,z3,z4,z5,z6,z7⟩:=zsf (w0:=w) i1 rfl hk1 (by rw[ej]; omega) (.inr om) p1 (i:=i) rfl rfl
  rw[ej] at z4
  rw[en] at z5 z7
  have es:(⟨w.F,(w.J.set k j).set k j',[]⟩:TWo)=⟨w.F,w.J.set k j',[]⟩:=by rw[List.set_set]
  refine⟨_,z1,j',yi TCa.mk es,?_,om,z5.trans i3,fun q hq=>?_,fun c y ht=>?_⟩
  ·rw[<- es]; exact z2
  ·by_cases c:q=i
   ·subst c; exact z6
   ·exact (z7 _ _ (i4 q om)).1
  ·obtain⟨a1,a2⟩:=i5 c y ht
   obtain⟨a3,a4⟩:=z7 c y a1
   exact⟨a3,a4.trans a2⟩)
 obtain⟨j,rfl,i1,i2,i3,i4,i5⟩:=hs
 rw[e]
 simp only[zl]
 have hk1:k<(⟨w.F,w.J.set k j,[]⟩:TWo).J.length:=by show k<(w.J.set k j).length; rw[yb]; exact hk
 have ej:jAt ⟨w.F,w.J.set k j,[]⟩ k=j:=by
  show (w.J.set k j).getD k default=j
  rw[z3o hk,y6 rfl]
 have e6:=ztp hk1 (p:=⟨0,[],0,0,0,0,0,0,0,0⟩)
 rw[ej] at e6
 have e6:stepW ⟨w.F,w.J.set k j,[]⟩ ⟨6,(k:Int)+1,⟨0,[],0,0,0,0,0,0,0,0⟩,[],0,0,0⟩=(⟨w.F,w.J.set k (flushJ j),[]⟩,0):=by
  rw[e6]
  show ((⟨w.F,(w.J.set k j).set k (flushJ j),[]⟩:TWo),(0:Int))=_
  rw[List.set_set]
 rw[z8w i1 ⟨y1f _,y1f _⟩,z4m (by rw[e6]),e6]
 simp only[obind]
 have v2:=z4h i1 e6
 have all:∀ c y,J13.hasP w.F.C c y=true->Tld w.F (nowJ j) k c y:=fun c y hp=>by
  obtain⟨x1,x2,x3⟩:=J13.pix_lt hp
  have:=i4 _ x1
  rwa [x2,x3] at this
 have hf:∀ t,VW ⟨t,w.J.set k (flushJ j),[]⟩->k<(⟨t,w.J.set k (flushJ j),[]⟩:TWo).J.length/\stW ⟨t,w.J.set k (flushJ j),[]⟩ k=nowJ j:=fun t _=>⟨by show k<(w.J.set k (flushJ j)).length; rw[yb]; exact hk,by
  show stbJ ((w.J.set k (flushJ j)).getD k default)=nowJ j
  rw[z3o hk,y6 rfl,z84]⟩
 obtain⟨s,e,hs⟩:=zp (body:=fun i s=>(S_qi_b2 ((k:Int)+1) (0,⟨⟨w.F,w.J.set k (flushJ j),[]⟩⟩) i s).den) (n:=w.F.C.length) (fun i s=>∃ t,s=(⟨⟨t,w.J.set k (flushJ j),[]⟩⟩:TCa)/\VW ⟨t,w.J.set k (flushJ j),[]⟩/\TS k w.F t /\
   ∀ q,q<i->Rep t (nowJ j) k (w.F.C.getD q default).D (w.F.C.getD q default).E) (s0:=(⟨⟨w.F,w.J.set k (flushJ j),[]⟩⟩:TCa)) ⟨w.F,rfl,v2,TS.refl _ _,fun q hq=>absurd hq (y2m _)⟩ (fun i s hi hI=>by
  obtain⟨t,rfl,o1,o2,o3⟩:=hI
  obtain⟨f1,f2⟩:=hf t o1
  obtain⟨p1,p2⟩:=z3j h.1 (zb hi)
  have hgd:=z3e (h.1.good _ (zb hi)).1
  obtain⟨t',z1,z2,z3,z4,z5⟩:=zsg (v:=⟨w.F,w.J.set k (flushJ j),[]⟩) (e:=0) o1 rfl f1 (c:=(w.F.C.getD i default).D) (y:=(w.F.C.getD i default).E) om (by rw[f2]; exact (all _ _ p1).1) (i:=i) rfl rfl
  rw[f2] at z4 z5
  refine⟨_,z1,t',rfl,z2,o2.trans z3,fun q hq=>?_⟩
  by_cases c:q=i
  ·subst c; exact z4
  ·have hq2:q<w.F.C.length:=om
   exact z5 _ _ ((o2.2 _ _).1.trans (z3j h.1 (zb hq2)).1) (o3 q om))
 obtain⟨t,rfl,o1,o2,o3⟩:=hs
 rw[e]
 refine⟨t,flushJ j,rfl,o1,o2,by rw[z84,z50],?_,?_,fun c y hp=>⟨?_,?_⟩,fun c y ht=>?_⟩
 ·show j.Ab.length<=_
  omega
 ·rw[z50]; exact i3
 ·rw[z50]; exact all c y hp
 ·rw[z50]
  obtain⟨x1,x2,x3⟩:=J13.pix_lt hp
  have:=o3 _ x1
  rwa [x2,x3] at this
 ·rw[z50]; exact (i5 c y ht).2
theorem zsh {q:Nat} (hq:q<v.J.length):jAt ⟨t,v.J.set k j,[]⟩ q=if q=k then j else jAt v q:=z3o hq
structure CI (w0 v:TWo) (i:Nat):Prop where
 vw:VW v
 mail:v.V=[]
 same:SameB w0 v
 pots:SameP w0 v
 len:v.F.O=w0.F.O/\v.F.C.length=w0.F.C.length/\∀ q,(v.F.C.getD q default).D=(w0.F.C.getD q default).D/\(v.F.C.getD q default).E=(w0.F.C.getD q default).E
 recs:∀ q,i<=q->q<w0.J.length->jAt v q=jAt w0 q
 keep:∀ c y,J13.hasP v.F.C c y=J13.hasP w0.F.C c y/\(J13.hasP w0.F.C c y=true->(J13.potAt v.F c y).A=(J13.potAt w0.F c y).A/\(J13.potAt v.F c y).K=(J13.potAt w0.F c y).K/\(J13.potAt v.F c y).W=(J13.potAt w0.F c y).W /\
  ∀ q,i<=q->nthN (J13.potAt v.F c y).L q=nthN (J13.potAt w0.F c y).L q/\nthN (J13.potAt v.F c y).S q=nthN (J13.potAt w0.F c y).S q)
 done:∀ q,q<i->stW v q=noW v q/\(∀ c y,J13.hasP v.F.C c y=true->Tld v.F (noW v q) q c y/\Rep v.F (noW v q) q c y)/\(∀ c y,Tld w0.F (noW w0 q) q c y->(rightV (noW v q).I c y).M=(rightV (noW w0 q).I c y).M)/\(jAt v q).Ab.length<=(jAt w0 q).Ab.length+2 * w0.F.C.length
theorem zoq (h:VW w) (hm:w.V=[]) (hpots:w.F.C.length<60) (hrec:∀ k,k<w.J.length->(jAt w k).Ab.length+2 * w.F.C.length<390) :
  ∃ v,rangeM (fun i s=>(S_q3_b2 i s).den) w.J.length 0 (⟨w⟩:TCa)=some (.next ⟨v⟩)/\CI w v w.J.length:=by
 have hlen:=h.len
 obtain⟨s,e,v,rfl,hs⟩:=zp (body:=fun i s=>(S_q3_b2 i s).den) (n:=w.J.length) (fun i s=>∃ v,s=(⟨v⟩:TCa)/\CI w v i) (s0:=(⟨w⟩:TCa))
  ⟨w,rfl,h,hm,SameB.refl _,fun _ _ hp=>hp,⟨rfl,rfl,fun _=>⟨rfl,rfl⟩⟩,fun _ _ _=>rfl,fun _ _=>⟨rfl,fun _=>⟨rfl,rfl,rfl,fun _ _=>⟨rfl,rfl⟩⟩⟩,fun q hq=>absurd hq (y2m _)⟩ (fun i s hi hI=>by
  obtain⟨v,rfl,c1,c2,c3,c4,c5,c6,c7,c8⟩:=hI
  have hi2:i<v.J.length:=by rw[c3.1]; exact hi
  have hj:=c6 i (ye _) hi
  obtain⟨t,j,z1,z2,z3,z4,z5,z6,z7,z8⟩:=zop c1 c2 hi2 (by rw[c5.2.1]; exact hpots) (by rw[hj,c5.2.1]; exact hrec i hi)
  have ew:IntKind.i64.wrap ((i:Int)+1)=(i:Int)+1:=wrapId om om
  have hjq:∀ q,q<w.J.length->jAt ⟨t,v.J.set i j,[]⟩ q=if q=i then j else jAt v q:=fun q hq=>zsh (by rw[c3.1]; exact hq)
  have hn:∀ q,q<w.J.length->noW ⟨t,v.J.set i j,[]⟩ q=if q=i then nowJ j else noW v q:=fun q hq=>by
   unfold noW
   rw[hjq q hq]
   split <;> rfl
  have hst:∀ q,q<w.J.length->stW ⟨t,v.J.set i j,[]⟩ q=if q=i then stbJ j else stW v q:=fun q hq=>by
   unfold stW
   rw[hjq q hq]
   split <;> rfl
  have hni:noW v i=noW w i:=by unfold noW; rw[hj]
  refine⟨⟨⟨t,v.J.set i j,[]⟩⟩,?_,_,rfl,z2,rfl,⟨?_,fun q hq=>?_⟩,fun c y hp=>?_,⟨z3.1.1.trans c5.1,z3.1.2.1.trans c5.2.1,fun q=>⟨(z3.1.2.2 q).1.trans (c5.2.2 q).1,(z3.1.2.2 q).2.trans (c5.2.2 q).2⟩⟩,fun q hq1 hq2=>?_,fun c y=>⟨(z3.2 c y).1.trans (c7 c y).1,fun hp=>?_⟩,fun q hq=>?_⟩
  ·simp only[S_q3_b2,Scr.den,ew,z1,obind]
  ·show (v.J.set i j).length=_
   rw[yb]; exact c3.1
  ·rw[hn q hq]
   by_cases z:q=i
   ·subst z
    rw[y6 rfl]
    exact z6.trans (c3.2 q hq)
   ·rw[y5 z]; exact c3.2 q hq
  ·exact (z3.2 c y).1.trans (c4 c y hp)
  ·rw[hjq q hq2,y5 om]
   exact c6 q om hq2
  ·have hp':=(c7 c y).1.trans hp
   obtain⟨a1,a2,a3,a4⟩:=(c7 c y).2 hp
   obtain⟨b1,b2,b3,b4⟩:=(z3.2 c y).2 hp'
   exact⟨b1.trans a1,b2.trans a2,b3.trans a3,fun q hq=>⟨(b4 q om).1.trans (a4 q om).1,(b4 q om).2.trans (a4 q om).2⟩⟩
  ·have hq':q<w.J.length:=om
   rw[hn q hq',hst q hq',hjq q hq']
   have tl:∀ o c y,J13.hasP v.F.C c y=true->Tld v.F o q c y->Tld t o q c y:=fun o c y hp ht=>by
    obtain⟨b1,b2,_,_⟩:=(z3.2 c y).2 hp
    unfold Tld
    rw[b1,b2]
    exact ht
   by_cases z:q=i
   ·subst z
    simp only[y6]
    refine⟨z4,fun c y hp=>?_,fun c y ht=>?_,by rw[<- hj,<- c5.2.1]; exact z5⟩
    ·have hp':=(z3.2 c y).1.symm.trans hp
     exact⟨tl _ c y hp' (z7 c y hp').1,(z7 c y hp').2⟩
    ·rw[<- hni] at ht |-
     refine z8 c y ?_
     by_cases hp:J13.hasP w.F.C c y=true
     ·obtain⟨a1,a2,_,_⟩:=(c7 c y).2 hp
      unfold Tld
      rw[a1,a2]
      exact ht
     ·exact absurd ((z2o (c1.2.2.2.1 q hi2).1.now (c1.2.2.2.1 q hi2).2.2 (show hasR (nowJ (jAt v q)).I c y=true from ht.1)).1) (by rw[(c7 c y).1]; exact hp)
   ·rw[y5 z,y5 z,y5 z]
    obtain⟨d1,d2,d3⟩:=c8 q om
    refine⟨d1,fun c y hp=>?_,d3⟩
    have hp':=(z3.2 c y).1.symm.trans hp
    obtain⟨b1,b2,_,b4⟩:=(z3.2 c y).2 hp'
    refine⟨tl _ c y hp' (d2 c y hp').1,?_⟩
    unfold Rep
    rw[(b4 q z).1,(b4 q z).2]
    exact (d2 c y hp').2)
 exact⟨v,e,hs⟩
theorem zey (h:VW w) (hb:Bd b w) (hq:∀ w1,Bd (b+w.V.length) w1->(w.V=[]->w1=w)->w1.F.C.length<60/\∀ k,k<w1.J.length->(jAt w1 k).Ab.length+2 * w1.F.C.length<390) :
  ∃ w1 v,(VW w1/\SameB w w1/\SameP w w1/\(w.V=[]->w1=w)/\Bd (b+w.V.length) w1)/\F_q3 w=some (v,0)/\CI w1 v w1.J.length:=by
 obtain⟨w1,e,k1,k2,k3,k4,k5,k6⟩:=zlo h hb
 obtain⟨q1,q2⟩:=hq w1 k4 k6
 obtain⟨v,e2,hc⟩:=zoq k1 k2 q1 q2
 have hl:=h.len
 refine⟨w1,v,⟨k1,k3,k5,k6,k4⟩,?_,hc⟩
 simp only[F_q3,S_q3,Scr.den]
 rw[z3i h]
 simp only[obind]
 rw[y5 dk,e]
 simp only[zl]
 rw[za ⟨om,trivial⟩,<- k3.1,e2]
 simp only[zl]
 rw[zct hc.vw.fr]
 rfl
theorem zic {f g:Nat->Int} {n:Nat} (h:∀ k,k<n->f k=g k):sumTo f n=sumTo g n :=
 Int.le_antisymm (z7n fun k hk=>Int.le_of_eq (h k hk)) (z7n fun k hk=>Int.le_of_eq (h k hk).symm)
variable {w1:TWo}
theorem CI.jl {n:Nat} (hc:CI w1 v n):v.J.length=w1.J.length:=hc.same.1
theorem zid (hc:CI w1 v w1.J.length) {p:TPo} (hp:p∈v.F.C):J13.outV p=heldW v p.D p.E/\p.S.length=v.J.length/\p.A.length=v.J.length /\
  ∀ k,k<v.J.length->nthN p.S k=usedV (noW v k).Ae p.D p.E/\usedV (noW v k).Ae p.D p.E=usedK v p.D p.E k/\(rightV (noW v k).I p.D p.E).A=nthN p.A k:=by
 have hv:=hc.vw
 have h2:=hv.2.1
 obtain⟨p1,p2⟩:=z3j hv.1 hp
 have hpk:=hv.1.potAt p1
 rw[p2] at hpk
 have lG:=hpk.2.2.2.1.1.1
 have lU:=hpk.2.2.2.1.2.2.2.1
 have at_:∀ k,k<v.J.length->Tld v.F (noW v k) k p.D p.E/\Rep v.F (noW v k) k p.D p.E:=fun k hk=>(hc.done k (by rw[<- hc.jl]; exact hk)).2.1 _ _ p1
 refine⟨?_,om,om,fun k hk=>?_⟩
 ·rw[zi4 hpk,show v.F.O.toNat=v.J.length from om]
  refine zic fun k hk=>?_
  obtain⟨a,b⟩:=at_ k hk
  unfold Tld at a
  unfold Rep at b
  rw[p2] at a b
  show _=(rightV (noW v k).I p.D p.E).A-(rightV (noW v k).I p.D p.E).M
  rw[a.2.1,b.1]
 ·obtain⟨a,b⟩:=at_ k hk
  unfold Tld at a
  unfold Rep at b
  rw[p2] at a b
  exact⟨b.2,(z1p (hv.2.2.2.1 k hk).1.now.val p.D p.E).1,a.2.1⟩
theorem zkc {a b:List Int} (hl:a.length=b.length) (h:∀ k,k<a.length->nthN a k=nthN b k):a=b:=y2s hl fun i h1 h2=>by
 have:=h i h1
 unfold nthN at this
 rwa [y8,y8,ya h1,ya h2] at this
theorem zlp {u:TWo} (hc:CI w1 v w1.J.length) (hd:CI v u v.J.length):u.F=v.F:=by
 have hv:=hc.vw
 have hu:=hd.vw
 have h2:=hv.2.1
 obtain⟨l1,l2,l3⟩:=hd.len
 have key:u.F.C=v.F.C:=y2s l2 fun i h1 h2'=>by
  obtain⟨p,ep⟩:∃ p,p=v.F.C.getD i default:=⟨_,rfl⟩
  obtain⟨q,eq⟩:∃ q,q=u.F.C.getD i default:=⟨_,rfl⟩
  have gp:v.F.C[i]=p:=by rw[ep,y8,ya h2']; rfl
  have gq:u.F.C[i]=q:=by rw[eq,y8,ya h1]; rfl
  rw[gp,gq]
  have k3:=l3 i
  rw[<- ep,<- eq] at k3
  obtain⟨p1,p2⟩:=z3j hv.1 (show p∈v.F.C by rw[ep]; exact zb h2')
  obtain⟨q1,q2⟩:=z3j hu.1 (show q∈u.F.C by rw[eq]; exact zb h1)
  have pk:=hv.1.potAt p1
  have qk:=hu.1.potAt q1
  rw[p2] at pk
  rw[q2,l1] at qk
  have aG:=pk.2.2.2.1.1.1
  have aH:=pk.2.2.2.1.2.1.1
  have aU:=pk.2.2.2.1.2.2.2.1
  have bH:=qk.2.2.2.1.2.1.1
  have bU:=qk.2.2.2.1.2.2.2.1
  obtain⟨r1,r2⟩:=hd.keep p.D p.E
  obtain⟨s1,s2,s3,_⟩:=r2 p1
  rw[<- k3.1,<- k3.2] at s1 s2 s3
  rw[q2,k3.1,k3.2,p2] at s1 s2 s3
  have hk:∀ k,k<v.J.length->nthN q.L k=nthN p.L k/\nthN q.S k=nthN p.S k:=fun k hk=>by
   obtain⟨d1,d2,d3,_⟩:=hd.done k hk
   obtain⟨c1,c2,c3,_⟩:=hc.done k (by rw[<- hc.jl]; exact hk)
   obtain⟨t1,t2⟩:=c2 _ _ p1
   obtain⟨_,t3⟩:=d2 _ _ q1
   have t4:=d3 _ _ t1
   unfold Rep at t2 t3
   rw[p2] at t2
   rw[q2,k3.1,k3.2] at t3
   rw[t3.1,t3.2,t2.1,t2.2,t4,hd.same.2 k hk]
   exact⟨rfl,rfl⟩
  have eH:q.L=p.L:=zkc om fun k h=>(hk k om).1
  have eU:q.S=p.S:=zkc om fun k h=>(hk k om).2
  obtain⟨a1,a2,a3,a4,a5,a6,a7⟩:=p
  obtain⟨b1,b2,b3,b4,b5,b6,b7⟩:=q
  simp only at k3 s1 s2 s3 eH eU
  rw[k3.1,k3.2,s1,s2,s3,eH,eU]
 obtain⟨⟨a1,a2⟩,a3,a4⟩:=u
 obtain⟨⟨b1,b2⟩,b3,b4⟩:=v
 simp only at l1 key
 rw[l1,key]
theorem zsi (hc:CI w1 v w1.J.length) (hi:i<v.F.C.length) (hk:k<v.J.length) {s:Int} (hs:s=sumTo (usedK v (v.F.C.getD i default).D (v.F.C.getD i default).E) k) :
  (S_qj_b1 (v,e) i k s).den=some (.cont (sumTo (usedK v (v.F.C.getD i default).D (v.F.C.getD i default).E) (k+1))):=by
 have hv:=hc.vw
 have hl:=hv.len
 obtain⟨p,ep⟩:∃ p,p=v.F.C.getD i default:=⟨_,rfl⟩
 have hm:p∈v.F.C:=by rw[ep]; exact zb hi
 obtain⟨q1,q2,q3,q4⟩:=zid hc hm
 obtain⟨r1,r2,r3⟩:=q4 k hk
 have b1:=z8v hv p.D p.E (show k<=v.J.length from om)
 have b2:=z8v hv p.D p.E (show k+1<=v.J.length from om)
 have ew:IntKind.i64.wrap ((k:Int)+1)=(k:Int)+1:=wrapId om om
 simp only[S_qj_b1,Scr.den]
 rw[<- ep] at hs |-
 rw[ew,zbt hv ⟨om,om⟩,show ((k:Int)+1-1).toNat=k from om]
 simp only[obind,zd]
 have z1:(p.S.getD k default != usedV (noW v k).Ae p.D p.E)=false:=by
  rw[show p.S.getD k default=_ from r1]; simp
 have z2:((rightV (noW v k).I p.D p.E).A != p.A.getD k default)=false:=by
  rw[show p.A.getD k default=_ from r3.symm]; simp
 rw[z3m,zi (gs:=[_=false]) ⟨dk,trivial⟩]
 simp only[obind]
 rw[z1,z28,zi (gs:=[_=false]) ⟨dk,trivial⟩]
 simp only[obind]
 rw[za ⟨fun _=>om,trivial⟩,z2,y5 dk]
 have e1:p.S.getD k default=usedK v p.D p.E k:=r1.trans r2
 rw[e1,hs]
 rw[z13 (heldK v p.D p.E),z13 (usedK v p.D p.E)] at b2
 rw[z13]
 rw[wrapId om om]
theorem zsj (hc:CI w1 v w1.J.length) (hi:i<v.F.C.length):(S_qj_b2 (v,e) i ()).den=some (.cont ()):=by
 have hv:=hc.vw
 have hl:=hv.len
 obtain⟨p,ep⟩:∃ p,p=v.F.C.getD i default:=⟨_,rfl⟩
 have hm:p∈v.F.C:=by rw[ep]; exact zb hi
 obtain⟨f1,f2,f3,f4⟩:=z45 hv hm
 obtain⟨q1,q2,q3,q4⟩:=zid hc hm
 have hs:=z6z hv f1.1
 rw[f1.2] at hs
 obtain⟨s,es,hs2⟩:=zp (body:=fun k s=>(S_qj_b1 (v,e) i k s).den) (n:=p.S.length) (fun k s=>s=sumTo (usedK v p.D p.E) k) (s0:=(0:Int)) rfl (fun k s hk hI=>by
  refine⟨_,zsi hc hi om (by rw[<- ep]; exact hI),by rw[<- ep]⟩)
 simp only[S_qj_b2,Scr.den]
 rw[<- ep,hs]
 simp only[obind]
 rw[za ⟨om,trivial⟩,es]
 simp only[zl]
 rw[hs2,q2,q1]
 show (if (bif (heldW v p.D p.E != heldW v p.D p.E) then true else (usedW v p.D p.E != usedW v p.D p.E))=true then _ else _)=_
 rw[y5 sj]
theorem CI.bd (hc:CI w1 v w1.J.length) (hb:Bd b w1):Bd (3 * b) v:=by
 refine⟨⟨by rw[hc.mail]; exact y1f _,by rw[hc.len.2.1]; have:=hb.1; omega⟩,fun i hi=>?_⟩
 have:=(hc.done i (by rw[<- hc.jl]; exact hi)).2.2.2
 have:=hb.1
 have:=hb.2 i (by rw[<- hc.jl]; exact hi)
 omega
theorem zcw (a:List Int):F_qj a=some true:=by
 obtain⟨s0,e0,t0⟩:=z9i a
 obtain⟨n,s1,e1,t1,hn⟩:=z1s (lo:=1) (hi:=3) t0 om om om
 obtain⟨w,s2,e2,t2,hw,hwn,hb⟩:=zi9 (n:=n) (m:=22) om om t1
 have hb0:Bd 22 w:=hb
 have hml:=hb0.1.1
 obtain⟨w1,v,⟨k1,k2,k3,_,k5⟩,ec,hc⟩:=zey hw hb0 fun w1 h _=>⟨by have:=h.1; omega,fun k hk=>by have:=h.1; have:=h.2 k hk; omega⟩
 have hv:=hc.vw
 have hbv:=hc.bd k5
 have hpl:v.F.C.length<60:=by rw[hc.len.2.1]; have:=k5.1; omega
 obtain⟨v1,u,⟨_,_,_,j4,_⟩,eu,hd⟩:=zey hv hbv fun x _ hx=>by
  rw[hx hc.mail]
  exact⟨hpl,fun k hk=>by have:=hbv.2 k hk; omega⟩
 obtain rfl:=j4 hc.mail
 have hag:=zlp hc hd
 have hjn:(v1.J.length:Int)=n:=by rw[hc.jl,k2.1]; exact hwn
 simp only[F_qj,S_qj,Scr.den,e0,e1,obind]
 rw[e2]
 simp only[obind]
 rw[ec]
 simp only[obind,zd]
 rw[hc.mail,z43 hv,zi (gs:=[_=false]) ⟨dk,trivial⟩]
 simp only[obind]
 rw[hjn,y5 sj]
 obtain⟨x,ex,_⟩:=zp (body:=fun i s=>(S_qj_b2 (v1,0) i s).den) (n:=v1.F.C.length) (fun _ _=>True) (s0:=()) trivial (fun i u hi _=>⟨(),zsj hc hi,trivial⟩)
 rw[ex]
 simp only[zl]
 rw[eu]
 simp only[obind,zf]
 rw[hag,hv.same,zi (gs:=[_=true]) ⟨dk,trivial⟩]
 simp only[obind]
 rw[zcu,zi (gs:=[_=true]) ⟨dk,trivial⟩]
 rfl
end Go.Proofs.YtdmddkbngmhepaaGreatDoor
