/- A part of the proof: what the functions compute, and that their calls return it. No condition. -/
import Derived.Test.YtdmddkbngmhepaaGreatDoorG6
/- What the functions compute, and that their calls return it. No condition. -/
namespace Go.Proofs.YtdmddkbngmhepaaGreatDoor
open Go Go.TA
open Go.IntKind (i64)
noncomputable section
set_option maxRecDepth 100000
def S_q1w_b1 (p0:(List TOr)) (p1:Int) (iv1:Nat) (_:Unit):SC Int (Step (Unit) Int) :=
.call (@F_q3p_ok (p0.getD (0+iv1) default) p1) fun rv2 cv2=>
.guard [(0+iv1)<p0.length]<|
.reg 4 [] [(5,hc cv2 [1] true)] [.e p0.length,.w iv1,.ev 2,.e p0.length,.ev 0,.cl 1 cv2 [1] 2 true]<|
.ite rv2 (
.r (.ret (iv1:Int))) (
.r (.cont ()))
def S_q1w (p0:(List TOr)) (p1:Int):SC Int Int :=
.guard [p0.length<2 ^ 63]<|
.range (p0.length:Int) p0.length rfl (.why (.ev 0)) 8 [0,1,7] (fun (_:Unit)=>[]) (fun _=>[]) () (S_q1w_b1 p0 p1) (fun _ => 
.r (-1)) id
def F_q1w (p0:(List TOr)) (p1:Int):=(S_q1w p0 p1).den
theorem F_q1w_ok {p0:(List TOr)} {p1:Int}:FO (F_q1w p0 p1) 277 [(AV.ref 0 p0.length 0 p0.length),(AV.fn 276 [(vp 1)])] [(eS 5 TOr.e p0),(Ob.box (vi p1))] vi (fun _=>[(eS 5 TOr.e p0),(Ob.box (vi p1))]):=fO (s:=S_q1w p0 p1) Tryz.func277
abbrev R_q1x:=(List TOr)
def S_q1x_b1 (p1:Int) (sv1:(List TOr)×Int×Int):SC R_q1x (Step ((List TOr)×Int×Int) R_q1x) :=
.ite (decide (sv1.2.2<(sv1.1.length:Int))) (
.guard [(0:Int)<=sv1.2.2,(sv1.2.2).toNat<sv1.1.length,(0+(sv1.2.2).toNat)<sv1.1.length]<|
.reg 7 [] [] [.e sv1.1.length,.ev 0,.ev 1,.e sv1.1.length,.ev 2]<|
 let e1_:=(sv1.1.getD (0+(sv1.2.2).toNat) default)
.call (@F_q3p_ok e1_ p1) fun rv2 cv2=>
.k 8 2 cv2 [1] 3 true<|
 let e4_:=(i64.wrap (sv1.2.2+1))
.ite (!rv2) (
 let e3_:=(0+(sv1.2.1).toNat)
.guard [(0:Int)<=sv1.2.1,(sv1.2.1).toNat<sv1.1.length,e3_<sv1.1.length]<|
 let e0_:=(sv1.1.set e3_ e1_)
.reg 9 [] [(4,{ obs:=[(0,(eS 5 TOr.e e0_))] })] [.e sv1.1.length,.ev 0,.ev 1,.e sv1.1.length,.ev 2,.pf (zr (sz:=5) (e:=TOr.e) (l:=sv1.1) (i:=e3_) (x:=e1_) (fun _=>rfl))]<|
 let e2_:=[(eS 5 TOr.e e0_),(Ob.box (vi p1)),(bx (TOr.e e1_))]
.cst (A:=True) (.pf trivial) [(0,(AV.ref 0 sv1.1.length 0 sv1.1.length)),(1,(AV.fn 276 [(vp 1)])),(5,(vi sv1.2.1)),(6,(vi sv1.2.2))] [(0,(AV.ref 0 (e0_.length) 0 (e0_.length))),(1,(AV.fn 276 [(vp 1)])),(5,(vi sv1.2.1)),(6,(vi sv1.2.2))] e2_ e2_ (fun _=>⟨by simp +zetaDelta only[yb],by rfl⟩)<|
.r (.cont (e0_,(i64.wrap (sv1.2.1+1)),e4_))) (
.r (.cont (sv1.1,sv1.2.1,e4_)))) (
.r (.brk (sv1.1,sv1.2.1,sv1.2.2)))
def S_q1x (p0:(List TOr)) (p1:Int):SC R_q1x R_q1x :=
.call (@F_q1w_ok p0 p1) fun rv3 cv3=>
.k 1 2 cv3 [0,1] 2 true<|
.ite (rv3==(-1)) (
.guard [p0.length<2 ^ 63]<|
.reg 3 [] [] []<|
.frz 0 (.ev 0) none [4] []<|
.r p0) (
.iter [1] (fun (sv1:(List TOr)×Int×Int)=>[(0,(AV.ref 0 sv1.1.length 0 sv1.1.length)),(5,(vi sv1.2.1)),(6,(vi sv1.2.2))]) (fun sv1=>[(0,(eS 5 TOr.e sv1.1))]) (p0,rv3,(i64.wrap (rv3+1))) (S_q1x_b1 p1) (fun sv1 =>
.guard [(0:Int)<=sv1.2.1,(sv1.2.1).toNat<=sv1.1.length]<|
 let e0_:=(sv1.1.length-(sv1.2.1).toNat)
 let e1_:=(⟨0,0,0,0,false⟩:TOr)
 let e2_:=(0+(sv1.2.1).toNat)
 let e3_:=(eS 5 TOr.e (clearL sv1.1 e2_ e0_ e1_))
.reg 11 [] [(3,{ obs:=[(0,e3_)] })] [.ev 0,.ev 1,.e sv1.1.length,.e sv1.1.length,.pf (zez (sz:=5) (e:=TOr.e) (l:=sv1.1) (off:=e2_) (n:=e0_) (z:=e1_))]<|
 let e4_:=((clearL sv1.1 e2_ e0_ e1_).length)
.cst (A:=True) (.pf trivial) [(0,(AV.ref 0 sv1.1.length 0 sv1.1.length)),(5,(vi sv1.2.1))] [(0,(AV.ref 0 e4_ 0 e4_)),(5,(vi sv1.2.1))] [e3_,(Ob.box (vi p1))] [e3_,(Ob.box (vi p1))] (fun _=>⟨by simp +zetaDelta only[z1g],by rfl⟩)<|
.guard [(sv1.2.1).toNat<=(clearL sv1.1 e2_ e0_ e1_).length]<|
.reg 12 [] [] [.ev 1,.ev 0,.e e4_]<|
.guard [(clearL sv1.1 e2_ e0_ e1_).length<2 ^ 63]<|
.frz 0 (.ev 0) (some (.der (fun (h:(sv1.2.1).toNat<=(clearL sv1.1 e2_ e0_ e1_).length)=>(y24 (Nat.sub_le _ _) h:((sv1.2.1).toNat-0)<=(clearL sv1.1 e2_ e0_ e1_).length)) 1)) [4] []<|
 let e5_:=((clearL sv1.1 e2_ e0_ e1_).take ((sv1.2.1).toNat))
.lev 4 (AV.d (eL TOr.e e5_)) (.der (fun (h:(sv1.2.1).toNat<=(clearL sv1.1 e2_ e0_ e1_).length)=>lvT TOr.e (clearL sv1.1 e2_ e0_ e1_) h) 1)<|
.r e5_) id)
def F_q1x (p0:(List TOr)) (p1:Int):=(S_q1x p0 p1).den
theorem F_q1x_ok {p0:(List TOr)} {p1:Int}:FO (F_q1x p0 p1) 275 [(AV.ref 0 p0.length 0 p0.length),(AV.fn 276 [(vp 1)])] [(eS 5 TOr.e p0),(Ob.box (vi p1))] (fun x=>(AV.d (eL TOr.e x))) (fun _=>[Ob.dead,(Ob.box (vi p1))]):=fO (s:=S_q1x p0 p1) Tryz.func275
def S_q4d (a0:TBo) (a1:Int):SC (List TOr) (List TOr) :=
.call (@F_q4c_ok a0.Q) fun rv1 cv1=>
.call (@F_q1x_ok rv1 a1) fun rv2 cv2=>
.reg 1 [] [(2,hc cv1 [] false),(4,hc cv2 [2,1] false)] [.cl 1 cv1 [] 2 false,.cl 0 cv2 [2,1] 3 false]<|
.r rv2
def F_q4d (a0:TBo) (a1:Int):=(S_q4d a0 a1).den
theorem F_q4d_ok {a0:TBo} {a1:Int}:FO (F_q4d a0 a1) 250 [(AV.d (TBo.e a0)),(vi a1)] [] (fun x=>(AV.d (eL TOr.e x))) NL:=fO (s:=S_q4d a0 a1) Tryz.func250
def S_q6s (a0:TOr) (p0:TOr):SC Bool Bool :=
.r (bif (!a0.Al) then true else (decide (a0.Aa>p0.Aa)))
def F_q6s (a0:TOr) (p0:TOr):=(S_q6s a0 p0).den
theorem F_q6s_ok {a0:TOr} {p0:TOr}:FO (F_q6s a0 p0) 252 [(AV.d (TOr.e a0)),(vp 0)] [(bx (TOr.e p0))] vb (fun _=>[(bx (TOr.e p0))]):=fO (s:=S_q6s a0 p0) Tryz.func252
def S_q2o_b1 (a0:(List TOr)) (p0:TOr) (iv1:Nat) (_:Unit):SC Int (Step (Unit) Int) :=
.call (@F_q6s_ok (a0.getD iv1 default) p0) fun rv2 cv2=>
.reg 4 [] [(5,hc cv2 [0] true)] [.w iv1,.ev 1,.cl 0 cv2 [0] 1 true]<|
.ite rv2 (
.r (.ret (iv1:Int))) (
.r (.cont ()))
def S_q2o (a0:(List TOr)) (p0:TOr):SC Int Int :=
.range (a0.length:Int) a0.length rfl (.slot 0) 8 [0,1,7] (fun (_:Unit)=>[]) (fun _=>[]) () (S_q2o_b1 a0 p0) (fun _ => 
.r (-1)) id
def F_q2o (a0:(List TOr)) (p0:TOr):=(S_q2o a0 p0).den
theorem F_q2o_ok {a0:(List TOr)} {p0:TOr}:FO (F_q2o a0 p0) 277 [(AV.d (eL TOr.e a0)),(AV.fn 252 [(vp 0)])] [(bx (TOr.e p0))] vi (fun _=>[(bx (TOr.e p0))]):=fO (s:=S_q2o a0 p0) Tryz.func277
def S_q5h (a0:(List TOr)) (p0:TOr):SC Bool Bool :=
.call (@F_q2o_ok a0 p0) fun rv1 cv1=>
.k 1 2 cv1 [0] 1 true<|
.r (decide (rv1>=0))
def F_q5h (a0:(List TOr)) (p0:TOr):=(S_q5h a0 p0).den
theorem F_q5h_ok {a0:(List TOr)} {p0:TOr}:FO (F_q5h a0 p0) 253 [(AV.d (eL TOr.e a0)),(AV.fn 252 [(vp 0)])] [(bx (TOr.e p0))] vb (fun _=>[(bx (TOr.e p0))]):=fO (s:=S_q5h a0 p0) Tryz.func253
def S_q4e (a0:TBo) (a1:Int):SC Bool Bool :=
.guard [(0:Int)<=a1,(a1).toNat<a0.Q.length]<|
.reg 1 [] [] [.ev 0,.ev 1]<|
 let e1_:=(a0.Q.getD ((a1).toNat) default)
 let e6_:=((e1_.L) != (i64.wrap (a1+1)))
.calld [e6_=false] default (@F_q7_ok (e1_.U) 1 (a0.G.length:Int)) fun rv1 cv1 =>
.reg 2 [] [(11,hc cv1 [] true)] [.clg 0 [e6_=false] cv1 [] 2 true]<|
.ite (bif e6_ then true else (!rv1)) (
.r false) (
 let e5_:=(i64.wrap ((e1_.U)-1))
.guard [(0:Int)<=e5_,(e5_).toNat<a0.G.length]<|
.reg 4 [] [] [.ev 0,.ev 1]<|
 let e7_:=(a0.Q.take ((a1).toNat))
 let e4_:=(⟨[],[],[],e7_⟩:TBo)
.call (@F_q4d_ok e4_ (e1_.U)) fun rv2 cv2=>
.guard [(a1).toNat<=a0.Q.length]<|
.reg 5 [] [(3,hv (AV.d (eL TOr.e e7_))),(4,hv (AV.d (TBo.e e4_))),(7,hc cv2 [] true)] [.ev 7,.ev 0,.der (fun (h0:(a1).toNat<=a0.Q.length)=>lvT TOr.e a0.Q h0) 0,.pf (p:=LeV (AV.d (DV.agg [Z0,Z0,Z0,(eL TOr.e e7_)])) (AV.d (TBo.e e4_))) (z23 rfl (DLe.agg (DLeL.cons DLe.sl0 (DLeL.cons DLe.sl0 (DLeL.cons DLe.sl0 (DLeL.cons (DLe.refl _) DLeL.nil)))))),.cl 1 cv2 [] 3 true]<|
.call (@F_q14_ok (e1_.Aa)) fun rv3 cv3=>
 let e8_:=(a0.G.getD ((e5_).toNat) default)
 let e0_:=(bif rv3 then (decide ((e1_.Aa)>=(e8_.Aa))) else false)
.calld [e0_=true] default (@F_q1t_ok (e1_.Aa)) fun rv4 cv4 =>
 let e3_:=(i64.wrap ((e8_.Ab)-1))
.calld [e0_=true] default (@F_q1v_ok a0 (a0.F.getD ((e3_).toNat) default)) fun rv5 cv5 =>
 let e2_:=(bif (bif e0_ then (decide (rv4<=(i64.wrap (rv5+1)))) else false) then ((e1_.Ak)==(i64.wrap ((rv2.length:Int)+1))) else false)
.calld [e2_=true] default (@F_q5h_ok rv2 e1_) fun rv6 cv6 =>
.guard [AllP [e0_=true]->((0:Int)<=e3_),AllP [e0_=true]->((e3_).toNat<a0.F.length)]<|
.reg 7 [] [(2,hc cv3 [] true),(13,hc cv4 [] true),(22,hc cv5 [] true),(37,hc cv6 [1] true)] [.cl 8 cv3 [] 3 true,.clg 6 [e0_=true] cv4 [] 3 true,.ev 0,.ev 1,.clg 4 [e0_=true] cv5 [] 3 true,.clg 2 [e2_=true] cv6 [1] 3 true]<|
.r (bif e2_ then (!rv6) else false))
def F_q4e (a0:TBo) (a1:Int):=(S_q4e a0 a1).den
theorem F_q4e_ok {a0:TBo} {a1:Int}:FO (F_q4e a0 a1) 227 [(AV.d (TBo.e a0)),(vi a1)] [] vb NL:=fO (s:=S_q4e a0 a1) Tryz.func227
def S_q38_b1 (a0:TBo) (iv1:Nat) (_:Unit):SC Bool (Step (Unit) Bool) :=
.a 4 3 1 (@F_q4e_ok a0 (iv1:Int)) fun rv2=>
.ite (!rv2) (
.r (.ret false)) (
.r (.cont ()))
def S_q38 (a0:TBo) (a1:Int):SC Bool Bool :=
.guard [(a1).toNat<2 ^ 63]<|
.range a1 ((a1).toNat) rfl (.why (.ev 0)) 9 [1,2,3,8] (fun (_:Unit)=>[]) (fun _=>[]) () (S_q38_b1 a0) (fun _ => 
.r (decide (a1<=200))) id
def F_q38 (a0:TBo) (a1:Int):=(S_q38 a0 a1).den
theorem F_q38_ok {a0:TBo} {a1:Int}:FO (F_q38 a0 a1) 223 [(AV.d (TBo.e a0)),(vi a1),(AV.fn 227 [])] [] vb NL:=fO (s:=S_q38 a0 a1) Tryz.func223
def S_q1y (a0:TBo):SC Bool Bool :=
.call (@F_q35_ok a0 (a0.B.length:Int)) fun rv1 cv1=>
.calld [rv1=true] default (@F_q36_ok a0 (a0.F.length:Int)) fun rv2 cv2 =>
 let e1_:=(bif rv1 then rv2 else false)
.calld [e1_=true] default (@F_q37_ok a0 (a0.G.length:Int)) fun rv3 cv3 =>
 let e0_:=(bif e1_ then rv3 else false)
.calld [e0_=true] default (@F_q38_ok a0 (a0.Q.length:Int)) fun rv4 cv4 =>
.reg 1 [] [(4,hc cv1 [] true),(10,hc cv2 [] true),(17,hc cv3 [] true),(24,hc cv4 [] true)] [.cl 6 cv1 [] 1 true,.clg 4 [rv1=true] cv2 [] 1 true,.clg 2 [e1_=true] cv3 [] 1 true,.clg 0 [e0_=true] cv4 [] 1 true]<|
.r (bif e0_ then rv4 else false)
def F_q1y (a0:TBo):=(S_q1y a0).den
theorem F_q1y_ok {a0:TBo}:FO (F_q1y a0) 190 [(AV.d (TBo.e a0))] [] vb NL:=fO (s:=S_q1y a0) Tryz.func190
def S_q5i (a0:(List TRe)):SC (List TRe) (List TRe) :=
.reg 0 [] [] []<|
.nils 0 (
.guard [a0.length * (2 * 56)<=2 ^ 48]<|
.reg 1 [] [] []<|
.lev 0 (AV.d (eL TRe.e a0)) (.pf (lvQ true a0.length fun j=>(TRe.e (a0.getD j default))))<|
.br true (.pf (p:=true=true) rfl)<|
.reg 2 [] [] []<|
.bor 6 (fun j=>AV.d (TRe.e (a0.getD j default))) [2]<|
.cst (A:=a0.length=0) (.ev 1) [(2,AV.ref 0 0 0 0)] [(2,(AV.ref 0 a0.length 0 a0.length))] [(Ob.seq 6 0 fun j=>AV.d (TRe.e (a0.getD j default)))] [(eS 6 TRe.e a0)] (fun h=>⟨by rw[h],by unfold eS; rw[h]⟩)<|
.r a0) (
.reg 1 [] [] []<|
.lev 0 (AV.d (eL TRe.e a0)) (.pf (lvQ false a0.length fun j=>(TRe.e (a0.getD j default))))<|
.br false (.pf (p:=false=false) rfl)<|
.guard [a0.length * (2 * 56)<=2 ^ 48]<|
.reg 3 [] [(2,{ h:=.obj })] [.pf (p:=∀ k,k<a0.length->(AV.d (TRe.e (a0.getD k default))).wd=6) (fun _ _=>rfl),.ev 0]<|
.r a0)
def F_q5i (a0:(List TRe)):=(S_q5i a0).den
theorem F_q5i_ok {a0:(List TRe)}:FO (F_q5i a0) 270 [(AV.d (eL TRe.e a0))] [] (fun x=>(AV.ref 0 x.length 0 x.length)) (fun x=>[(eS 6 TRe.e x)]):=fO (s:=S_q5i a0) Tryz.func270
def S_q5j (a0:(List TCo)):SC (List TCo) (List TCo) :=
.reg 0 [] [] []<|
.nils 0 (
.guard [a0.length * (2 * 56)<=2 ^ 48]<|
.reg 1 [] [] []<|
.lev 0 (AV.d (eL TCo.e a0)) (.pf (lvQ true a0.length fun j=>(TCo.e (a0.getD j default))))<|
.br true (.pf (p:=true=true) rfl)<|
.reg 2 [] [] []<|
.bor 7 (fun j=>AV.d (TCo.e (a0.getD j default))) [2]<|
.cst (A:=a0.length=0) (.ev 1) [(2,AV.ref 0 0 0 0)] [(2,(AV.ref 0 a0.length 0 a0.length))] [(Ob.seq 7 0 fun j=>AV.d (TCo.e (a0.getD j default)))] [(eS 7 TCo.e a0)] (fun h=>⟨by rw[h],by unfold eS; rw[h]⟩)<|
.r a0) (
.reg 1 [] [] []<|
.lev 0 (AV.d (eL TCo.e a0)) (.pf (lvQ false a0.length fun j=>(TCo.e (a0.getD j default))))<|
.br false (.pf (p:=false=false) rfl)<|
.guard [a0.length * (2 * 56)<=2 ^ 48]<|
.reg 3 [] [(2,{ h:=.obj })] [.pf (p:=∀ k,k<a0.length->(AV.d (TCo.e (a0.getD k default))).wd=7) (fun _ _=>rfl),.ev 0]<|
.r a0)
def F_q5j (a0:(List TCo)):=(S_q5j a0).den
theorem F_q5j_ok {a0:(List TCo)}:FO (F_q5j a0) 271 [(AV.d (eL TCo.e a0))] [] (fun x=>(AV.ref 0 x.length 0 x.length)) (fun x=>[(eS 7 TCo.e x)]):=fO (s:=S_q5j a0) Tryz.func271
def S_q5k (a0:(List TVe)):SC (List TVe) (List TVe) :=
.reg 0 [] [] []<|
.nils 0 (
.guard [a0.length * (2 * 32)<=2 ^ 48]<|
.reg 1 [] [] []<|
.lev 0 (AV.d (eL TVe.e a0)) (.pf (lvQ true a0.length fun j=>(TVe.e (a0.getD j default))))<|
.br true (.pf (p:=true=true) rfl)<|
.reg 2 [] [] []<|
.bor 4 (fun j=>AV.d (TVe.e (a0.getD j default))) [2]<|
.cst (A:=a0.length=0) (.ev 1) [(2,AV.ref 0 0 0 0)] [(2,(AV.ref 0 a0.length 0 a0.length))] [(Ob.seq 4 0 fun j=>AV.d (TVe.e (a0.getD j default)))] [(eS 4 TVe.e a0)] (fun h=>⟨by rw[h],by unfold eS; rw[h]⟩)<|
.r a0) (
.reg 1 [] [] []<|
.lev 0 (AV.d (eL TVe.e a0)) (.pf (lvQ false a0.length fun j=>(TVe.e (a0.getD j default))))<|
.br false (.pf (p:=false=false) rfl)<|
.guard [a0.length * (2 * 32)<=2 ^ 48]<|
.reg 3 [] [(2,{ h:=.obj })] [.pf (p:=∀ k,k<a0.length->(AV.d (TVe.e (a0.getD k default))).wd=4) (fun _ _=>rfl),.ev 0]<|
.r a0)
def F_q5k (a0:(List TVe)):=(S_q5k a0).den
theorem F_q5k_ok {a0:(List TVe)}:FO (F_q5k a0) 272 [(AV.d (eL TVe.e a0))] [] (fun x=>(AV.ref 0 x.length 0 x.length)) (fun x=>[(eS 4 TVe.e x)]):=fO (s:=S_q5k a0) Tryz.func272
abbrev R_q1z:=(List TRe)×(List TCo)×(List TVe)×(List TOr)
def S_q1z (a0:TBo):SC R_q1z R_q1z :=
.reg 0 [] [(1,{ obs:=[(1,(bx (TBo.e (⟨[],[],[],[]⟩:TBo))))] })] [.pf cz9]<|
.call (@F_q5i_ok a0.B) fun rv1 cv1=>
.call (@F_q5j_ok a0.F) fun rv2 cv2=>
.call (@F_q5k_ok a0.G) fun rv3 cv3=>
.call (@F_q4c_ok a0.Q) fun rv4 cv4=>
.reg 1 [2,5,8,11,13] [(2,hc cv1 [] false),(5,hc cv2 [] false),(8,hc cv3 [] false),(11,hc cv4 [] false)] [.cl 3 cv1 [] 2 false,.cl 2 cv2 [] 3 false,.cl 1 cv3 [] 4 false,.cl 0 cv4 [] 5 false]<|
.kill 0<|
.r (rv1,rv2,rv3,rv4)
def F_q1z (a0:TBo):=(S_q1z a0).den
theorem F_q1z_ok {a0:TBo}:FO (F_q1z a0) 246 [(AV.d (TBo.e a0))] [] (fun x=>(AV.agg [(AV.ref 2 x.1.length 0 x.1.length),(AV.ref 3 x.2.1.length 0 x.2.1.length),(AV.ref 4 x.2.2.1.length 0 x.2.2.1.length),(AV.ref 5 x.2.2.2.length 0 x.2.2.2.length)])) (fun x=>[Ob.dead,(Ob.box (AV.agg [(AV.ref 2 x.1.length 0 x.1.length),(AV.ref 3 x.2.1.length 0 x.2.1.length),(AV.ref 4 x.2.2.1.length 0 x.2.2.1.length),(AV.ref 5 x.2.2.2.length 0 x.2.2.2.length)])),(eS 6 TRe.e x.1),(eS 7 TCo.e x.2.1),(eS 4 TVe.e x.2.2.1),(eS 5 TOr.e x.2.2.2)]):=fO (s:=S_q1z a0) Tryz.func246
def S_q5l (a0:TBo) (a1:List UInt8) (a2:Int) (a3:Int) (a4:Int):SC (TBo×Int) (TBo×Int) :=
 let e1_:=(⟨[],[],[],[]⟩:TBo)
.reg 0 [] [(1,{ obs:=[(1,(bx (TBo.e e1_)))] })] [.pf cz9]<|
.a 1 1 2 (@F_q1y_ok a0) fun rv1=>
 let e2_:=(0,hv (AV.d (TBo.e e1_)))
.ite (!rv1) (
.reg 2 [] [e2_] [.pf zk]<|
.r (e1_,1)) (
.a 3 1 2 (@F_q74_ok a1) fun rv2=>
.ite ((rv2.length:Int)==0) (
.reg 4 [] [e2_] [.pf zk]<|
.r (e1_,5)) (
.call (@F_q7_ok a2 0 99) fun rv3 cv3=>
.calld [(!rv3)=false] default (@F_q14_ok a3) fun rv4 cv4 =>
 let e3_:=(bif (!rv3) then true else (!rv4))
.calld [e3_=false] default (@F_q1u_ok a4) fun rv5 cv5 =>
.reg 5 [] [(1,hc cv3 [] true),(5,hc cv4 [] true),(10,hc cv5 [] true)] [.cl 4 cv3 [] 2 true,.clg 2 [(!rv3)=false] cv4 [] 2 true,.clg 0 [e3_=false] cv5 [] 2 true]<|
.ite (bif e3_ then true else (!rv5)) (
.reg 6 [] [e2_] [.pf zk]<|
.r (e1_,2)) (
.a 7 1 2 (@F_q1t_ok a3) fun rv6=>
.ite (rv6 != a2) (
.reg 8 [] [e2_] [.pf zk]<|
.r (e1_,16)) (
.ite ((a0.B.length:Int)==200) (
.reg 10 [] [e2_] [.pf zk]<|
.r (e1_,3)) (
.call (@F_q1z_ok a0) fun rv7 cv7=>
.k 11 1 cv7 [] 2 false<|
.kill 3<|
.guard [rv7.2.1.length<2 ^ 63]<|
.frz 5 (.ev 0) none [] [0]<|
.guard [rv7.2.2.1.length<2 ^ 63]<|
.frz 6 (.ev 0) none [] [0]<|
.guard [rv7.2.2.2.length<2 ^ 63]<|
.frz 7 (.ev 0) none [] [0]<|
.guard [(rv7.1.length+1) * (2 * 56)<=2 ^ 48]<|
 let e0_:=([(⟨(i64.wrap ((rv7.1.length:Int)+1)),a1,a2,a3,a4,0⟩:TRe)]:List TRe)
.reg 12 [] [(11,hv (AV.d (eL TRe.e e0_))),(12,{ cast:=some (AV.ref 4 ((rv7.1++e0_).length) 0 ((rv7.1++e0_).length)),obs:=[(4,(eS 6 TRe.e (rv7.1++e0_)))] })] [.pf (ze TRe.e e0_),.e rv7.1.length,.e rv7.1.length,.pf (p:=∀ k,k<1->(AV.d (TRe.e (e0_.getD k default))).wd=6) (fun _ _=>rfl),.ev 0,.pf (zw (o:=4) (l:=rv7.1) (x:=e0_)),.pf (z10 (sz:=6) (e:=TRe.e) (l:=rv7.1) (x:=e0_))]<|
.guard [(rv7.1++e0_).length<2 ^ 63]<|
.reg 13 [] [] []<|
.frz 4 (.ev 0) none [] [0,1]<|
.r ((⟨(rv7.1++e0_),rv7.2.1,rv7.2.2.1,rv7.2.2.2⟩:TBo),0))))))
def F_q5l (a0:TBo) (a1:List UInt8) (a2:Int) (a3:Int) (a4:Int):=(S_q5l a0 a1 a2 a3 a4).den
theorem F_q5l_ok {a0:TBo} {a1:List UInt8} {a2:Int} {a3:Int} {a4:Int}:FO (F_q5l a0 a1 a2 a3 a4) 216 [(AV.d (TBo.e a0)),(AV.d (DV.str a1)),(vi a2),(vi a3),(vi a4)] [] (fun x=>(AV.tup [(AV.d (TBo.e x.1)),(vi x.2)])) NL:=fO (s:=S_q5l a0 a1 a2 a3 a4) Tryz.func216
def S_q5m (a0:TBo) (a1:Int) (a2:Int) (a3:Int) (a4:Int) (a5:Int):SC (TBo×Int) (TBo×Int) :=
 let e1_:=(⟨[],[],[],[]⟩:TBo)
.reg 0 [] [(1,{ obs:=[(1,(bx (TBo.e e1_)))] })] [.pf cz9]<|
.a 1 1 2 (@F_q1y_ok a0) fun rv1=>
 let e2_:=(0,hv (AV.d (TBo.e e1_)))
.ite (!rv1) (
.reg 2 [] [e2_] [.pf zk]<|
.r (e1_,1)) (
.a 3 4 2 (@F_q7_ok a1 1 (a0.B.length:Int)) fun rv2=>
.ite (!rv2) (
.reg 4 [] [e2_] [.pf zk]<|
.r (e1_,6)) (
.call (@F_q14_ok a2) fun rv3 cv3=>
.calld [(!rv3)=false] default (@F_q1u_ok a3) fun rv4 cv4 =>
 let e3_:=(bif (!rv3) then true else (!rv4))
.calld [e3_=false] default (@F_q7_ok a4 1 1000000) fun rv5 cv5 =>
 let e5_:=(bif e3_ then true else (!rv5))
.calld [e5_=false] default (@F_q14_ok a5) fun rv6 cv6 =>
.reg 5 [] [(1,hc cv3 [] true),(5,hc cv4 [] true),(10,hc cv5 [] true),(15,hc cv6 [] true)] [.cl 6 cv3 [] 2 true,.clg 4 [(!rv3)=false] cv4 [] 2 true,.clg 2 [e3_=false] cv5 [] 2 true,.clg 0 [e5_=false] cv6 [] 2 true]<|
.ite (bif e5_ then true else (!rv6)) (
.reg 6 [] [e2_] [.pf zk]<|
.r (e1_,2)) (
 let e6_:=(i64.wrap (a1-1))
.guard [(0:Int)<=e6_,(e6_).toNat<a0.B.length]<|
.reg 7 [] [] [.ev 0,.ev 1]<|
.a 8 1 3 (@F_q1t_ok a2) fun rv7=>
 let e4_:=(a0.B.getD ((e6_).toNat) default)
.ite (rv7 != (e4_.E)) (
.reg 9 [] [e2_] [.pf zk]<|
.r (e1_,16)) (
.ite (decide (a2<(e4_.Aa))) (
.reg 11 [] [e2_] [.pf zk]<|
.r (e1_,8)) (
.a 12 3 3 (@F_q3n_ok a0 e4_) fun rv8=>
.ite (decide (a3>rv8)) (
.reg 13 [] [e2_] [.pf zk]<|
.r (e1_,15)) (
.ite ((a0.F.length:Int)==200) (
.reg 15 [] [e2_] [.pf zk]<|
.r (e1_,3)) (
.call (@F_q1z_ok a0) fun rv9 cv9=>
.k 16 1 cv9 [] 3 false<|
.kill 4<|
.guard [rv9.1.length<2 ^ 63]<|
.frz 5 (.ev 0) none [] [0]<|
.guard [rv9.2.2.1.length<2 ^ 63]<|
.frz 7 (.ev 0) none [] [0]<|
.guard [rv9.2.2.2.length<2 ^ 63]<|
.frz 8 (.ev 0) none [] [0]<|
.guard [(rv9.2.1.length+1) * (2 * 56)<=2 ^ 48]<|
 let e0_:=([(⟨(i64.wrap ((rv9.2.1.length:Int)+1)),a1,a2,a3,0,a4,a5⟩:TCo)]:List TCo)
 let e7_:=(rv9.2.1++e0_)
.reg 17 [] [(12,hv (AV.d (eL TCo.e e0_))),(13,{ cast:=some (AV.ref 6 (e7_.length) 0 (e7_.length)),obs:=[(6,(eS 7 TCo.e e7_))] })] [.pf (ze TCo.e e0_),.e rv9.2.1.length,.e rv9.2.1.length,.pf (p:=∀ k,k<1->(AV.d (TCo.e (e0_.getD k default))).wd=7) (fun _ _=>rfl),.ev 0,.pf (zw (o:=6) (l:=rv9.2.1) (x:=e0_)),.pf (z10 (sz:=7) (e:=TCo.e) (l:=rv9.2.1) (x:=e0_))]<|
.guard [e7_.length<2 ^ 63]<|
.reg 18 [] [] []<|
.frz 6 (.ev 0) none [] [0,1]<|
.r ((⟨rv9.1,e7_,rv9.2.2.1,rv9.2.2.2⟩:TBo),0))))))))
def F_q5m (a0:TBo) (a1:Int) (a2:Int) (a3:Int) (a4:Int) (a5:Int):=(S_q5m a0 a1 a2 a3 a4 a5).den
theorem F_q5m_ok {a0:TBo} {a1:Int} {a2:Int} {a3:Int} {a4:Int} {a5:Int}:FO (F_q5m a0 a1 a2 a3 a4 a5) 217 [(AV.d (TBo.e a0)),(vi a1),(vi a2),(vi a3),(vi a4),(vi a5)] [] (fun x=>(AV.tup [(AV.d (TBo.e x.1)),(vi x.2)])) NL:=fO (s:=S_q5m a0 a1 a2 a3 a4 a5) Tryz.func217
def S_q5n (a0:TBo) (a1:Int) (a2:Int) (a3:Int):SC (TBo×Int) (TBo×Int) :=
 let e1_:=(⟨[],[],[],[]⟩:TBo)
.reg 0 [] [(1,{ obs:=[(1,(bx (TBo.e e1_)))] })] [.pf cz9]<|
.a 1 1 2 (@F_q1y_ok a0) fun rv1=>
 let e2_:=(0,hv (AV.d (TBo.e e1_)))
.ite (!rv1) (
.reg 2 [] [e2_] [.pf zk]<|
.r (e1_,1)) (
.a 3 4 2 (@F_q7_ok a1 1 (a0.F.length:Int)) fun rv2=>
.ite (!rv2) (
.reg 4 [] [e2_] [.pf zk]<|
.r (e1_,6)) (
.call (@F_q14_ok a2) fun rv3 cv3=>
.calld [(!rv3)=false] default (@F_q1u_ok a3) fun rv4 cv4 =>
.reg 5 [] [(1,hc cv3 [] true),(5,hc cv4 [] true)] [.cl 2 cv3 [] 2 true,.clg 0 [(!rv3)=false] cv4 [] 2 true]<|
.ite (bif (!rv3) then true else (!rv4)) (
.reg 6 [] [e2_] [.pf zk]<|
.r (e1_,2)) (
 let e5_:=(i64.wrap (a1-1))
.guard [(0:Int)<=e5_,(e5_).toNat<a0.F.length]<|
.reg 7 [] [] [.ev 0,.ev 1]<|
.call (@F_q1t_ok a2) fun rv5 cv5=>
 let e3_:=(a0.F.getD ((e5_).toNat) default)
.call (@F_q1v_ok a0 e3_) fun rv6 cv6=>
.reg 8 [] [(1,hc cv5 [] true),(4,hc cv6 [] true)] [.cl 1 cv5 [] 3 true,.cl 0 cv6 [] 3 true]<|
.ite (decide (rv5>(i64.wrap (rv6+1)))) (
.reg 9 [] [e2_] [.pf zk]<|
.r (e1_,16)) (
.ite (decide (a2<(e3_.Aa))) (
.reg 11 [] [e2_] [.pf zk]<|
.r (e1_,8)) (
.a 12 3 3 (@F_q3o_ok a0 e3_) fun rv7=>
.ite (decide (a3>rv7)) (
.reg 13 [] [e2_] [.pf zk]<|
.r (e1_,15)) (
.ite ((a0.G.length:Int)==200) (
.reg 15 [] [e2_] [.pf zk]<|
.r (e1_,3)) (
.call (@F_q1z_ok a0) fun rv8 cv8=>
.k 16 1 cv8 [] 3 false<|
.kill 4<|
.guard [rv8.1.length<2 ^ 63]<|
.frz 5 (.ev 0) none [] [0]<|
.guard [rv8.2.1.length<2 ^ 63]<|
.frz 6 (.ev 0) none [] [0]<|
.guard [rv8.2.2.2.length<2 ^ 63]<|
.frz 8 (.ev 0) none [] [0]<|
.guard [(rv8.2.2.1.length+1) * (2 * 32)<=2 ^ 48]<|
 let e0_:=([(⟨(i64.wrap ((rv8.2.2.1.length:Int)+1)),a1,a2,a3⟩:TVe)]:List TVe)
 let e4_:=(rv8.2.2.1++e0_)
.reg 17 [] [(10,hv (AV.d (eL TVe.e e0_))),(11,{ cast:=some (AV.ref 7 (e4_.length) 0 (e4_.length)),obs:=[(7,(eS 4 TVe.e e4_))] })] [.pf (ze TVe.e e0_),.e rv8.2.2.1.length,.e rv8.2.2.1.length,.pf (p:=∀ k,k<1->(AV.d (TVe.e (e0_.getD k default))).wd=4) (fun _ _=>rfl),.ev 0,.pf (zw (o:=7) (l:=rv8.2.2.1) (x:=e0_)),.pf (z10 (sz:=4) (e:=TVe.e) (l:=rv8.2.2.1) (x:=e0_))]<|
.guard [e4_.length<2 ^ 63]<|
.reg 18 [] [] []<|
.frz 7 (.ev 0) none [] [0,1]<|
.r ((⟨rv8.1,rv8.2.1,e4_,rv8.2.2.2⟩:TBo),0))))))))
def F_q5n (a0:TBo) (a1:Int) (a2:Int) (a3:Int):=(S_q5n a0 a1 a2 a3).den
theorem F_q5n_ok {a0:TBo} {a1:Int} {a2:Int} {a3:Int}:FO (F_q5n a0 a1 a2 a3) 218 [(AV.d (TBo.e a0)),(vi a1),(vi a2),(vi a3)] [] (fun x=>(AV.tup [(AV.d (TBo.e x.1)),(vi x.2)])) NL:=fO (s:=S_q5n a0 a1 a2 a3) Tryz.func218
end
end Go.Proofs.YtdmddkbngmhepaaGreatDoor
/- What the functions compute,and that their calls return it. No condition. -/
namespace Go.Proofs.YtdmddkbngmhepaaGreatDoor
open Go Go.TA
open Go.IntKind (i64)
noncomputable section
set_option maxRecDepth 100000
def S_q5o (a0:TBo) (a1:Int) (a2:Int):SC (TBo×Int) (TBo×Int) :=
 let e1_:=(⟨[],[],[],[]⟩:TBo)
.reg 0 [] [(1,{ obs:=[(1,(bx (TBo.e e1_)))] })] [.pf cz9]<|
.a 1 1 2 (@F_q1y_ok a0) fun rv1=>
 let e4_:=(0,hv (AV.d (TBo.e e1_)))
.ite (!rv1) (
.reg 2 [] [e4_] [.pf zk]<|
.r (e1_,1)) (
.a 3 4 2 (@F_q7_ok a1 1 (a0.G.length:Int)) fun rv2=>
.ite (!rv2) (
.reg 4 [] [e4_] [.pf zk]<|
.r (e1_,6)) (
.a 5 1 2 (@F_q14_ok a2) fun rv3=>
.ite (!rv3) (
.reg 6 [] [e4_] [.pf zk]<|
.r (e1_,2)) (
 let e8_:=(i64.wrap (a1-1))
.guard [(0:Int)<=e8_,(e8_).toNat<a0.G.length]<|
.reg 7 [] [] [.ev 0,.ev 1]<|
.a 8 2 3 (@F_q4d_ok a0 a1) fun rv4=>
.call (@F_q1t_ok a2) fun rv5 cv5=>
 let e2_:=(a0.G.getD ((e8_).toNat) default)
 let e6_:=(i64.wrap ((e2_.Ab)-1))
.call (@F_q1v_ok a0 (a0.F.getD ((e6_).toNat) default)) fun rv6 cv6=>
.guard [(0:Int)<=e6_,(e6_).toNat<a0.F.length]<|
.reg 10 [] [(1,hc cv5 [] true),(10,hc cv6 [] true)] [.cl 3 cv5 [] 3 true,.ev 0,.ev 1,.cl 2 cv6 [] 3 true]<|
.ite (decide (rv5>(i64.wrap (rv6+1)))) (
.reg 11 [] [e4_] [.pf zk]<|
.r (e1_,16)) (
 let e11_:=(rv4.length:Int)
 let e3_:=(i64.wrap (e11_-1))
 let e5_:=(decide (e11_>0))
 let e12_:=((e3_).toNat<rv4.length)
.guard [AllP [e5_=true]->((0:Int)<=e3_),AllP [e5_=true]->e12_]<|
.reg 12 [] [] [.ev 0,.ev 1]<|
 let e10_:=(rv4.getD ((e3_).toNat) default)
.ite (bif e5_ then (!(e10_.Al)) else false) (
.reg 13 [] [e4_] [.pf zk]<|
.r (e1_,20)) (
 let e9_:=(decide (a2<(e2_.Aa)))
.guard [AllP [e5_=true,e9_=false]->((0:Int)<=e3_),AllP [e5_=true,e9_=false]->e12_]<|
.reg 14 [] [] [.ev 0,.ev 1]<|
.ite (bif e9_ then true else (bif e5_ then (decide (a2<(e10_.Aa))) else false)) (
.reg 15 [] [e4_] [.pf zk]<|
.r (e1_,8)) (
.ite ((a0.Q.length:Int)==200) (
.reg 17 [] [e4_] [.pf zk]<|
.r (e1_,3)) (
.call (@F_q1z_ok a0) fun rv7 cv7=>
.k 18 1 cv7 [] 3 false<|
.kill 4<|
.guard [rv7.1.length<2 ^ 63]<|
.frz 5 (.ev 0) none [] [0]<|
.guard [rv7.2.1.length<2 ^ 63]<|
.frz 6 (.ev 0) none [] [0]<|
.guard [rv7.2.2.1.length<2 ^ 63]<|
.frz 7 (.ev 0) none [] [0]<|
.guard [(rv7.2.2.2.length+1) * (2 * 40)<=2 ^ 48]<|
 let e0_:=([(⟨(i64.wrap ((rv7.2.2.2.length:Int)+1)),a1,(i64.wrap (e11_+1)),a2,false⟩:TOr)]:List TOr)
 let e7_:=(rv7.2.2.2++e0_)
.reg 19 [] [(11,hv (AV.d (eL TOr.e e0_))),(12,{ cast:=some (AV.ref 8 (e7_.length) 0 (e7_.length)),obs:=[(8,(eS 5 TOr.e e7_))] })] [.pf (ze TOr.e e0_),.e rv7.2.2.2.length,.e rv7.2.2.2.length,.pf (p:=∀ k,k<1->(AV.d (TOr.e (e0_.getD k default))).wd=5) (fun _ _=>rfl),.ev 0,.pf (zw (o:=8) (l:=rv7.2.2.2) (x:=e0_)),.pf (z10 (sz:=5) (e:=TOr.e) (l:=rv7.2.2.2) (x:=e0_))]<|
.guard [e7_.length<2 ^ 63]<|
.reg 20 [] [] []<|
.frz 8 (.ev 0) none [] [0,1]<|
.r ((⟨rv7.1,rv7.2.1,rv7.2.2.1,e7_⟩:TBo),0))))))))
def F_q5o (a0:TBo) (a1:Int) (a2:Int):=(S_q5o a0 a1 a2).den
theorem F_q5o_ok {a0:TBo} {a1:Int} {a2:Int}:FO (F_q5o a0 a1 a2) 219 [(AV.d (TBo.e a0)),(vi a1),(vi a2)] [] (fun x=>(AV.tup [(AV.d (TBo.e x.1)),(vi x.2)])) NL:=fO (s:=S_q5o a0 a1 a2) Tryz.func219
def S_q2p_b1 (a0:TBo) (a1:Int) (iv1:Nat) (_:Unit):SC Int (Step (Unit) Int) :=
.reg 3 [] [] [.w iv1,.ev 0]<|
 let e0_:=(a0.B.getD iv1 default)
.ite ((e0_.L)==a1) (
.a 5 2 2 (@F_q3n_ok a0 e0_) fun rv2=>
.r (.ret rv2)) (
.r (.cont ()))
def S_q2p (a0:TBo) (a1:Int):SC Int Int :=
.range (a0.B.length:Int) a0.B.length rfl (.slot 8) 10 [1,2,8,9] (fun (_:Unit)=>[]) (fun _=>[]) () (S_q2p_b1 a0 a1) (fun _ => 
.r 0) id
def F_q2p (a0:TBo) (a1:Int):=(S_q2p a0 a1).den
theorem F_q2p_ok {a0:TBo} {a1:Int}:FO (F_q2p a0 a1) 251 [(AV.d (TBo.e a0)),(vi a1)] [] vi NL:=fO (s:=S_q2p a0 a1) Tryz.func251
def S_q5p (a0:TBo) (a1:Int) (a2:Int):SC (TBo×Int) (TBo×Int) :=
 let e2_:=(⟨[],[],[],[]⟩:TBo)
 let e7_:=(bx (TBo.e e2_))
.reg 0 [] [(1,{ obs:=[(1,e7_)] })] [.pf cz9]<|
.a 1 1 2 (@F_q1y_ok a0) fun rv1=>
 let e5_:=(0,hv (AV.d (TBo.e e2_)))
.ite (!rv1) (
.reg 2 [] [e5_] [.pf zk]<|
.r (e2_,1)) (
.a 3 4 2 (@F_q7_ok a1 1 (a0.B.length:Int)) fun rv2=>
.ite (!rv2) (
.reg 4 [] [e5_] [.pf zk]<|
.r (e2_,6)) (
.a 5 1 2 (@F_q1u_ok a2) fun rv3=>
.ite (!rv3) (
.reg 6 [] [e5_] [.pf zk]<|
.r (e2_,2)) (
.a 7 3 2 (@F_q2p_ok a0 a1) fun rv4=>
.ite (decide (a2>rv4)) (
.reg 8 [] [e5_] [.pf zk]<|
.r (e2_,15)) (
.call (@F_q1z_ok a0) fun rv5 cv5=>
.k 9 1 cv5 [] 2 false<|
.kill 3<|
.guard [rv5.2.1.length<2 ^ 63]<|
.frz 5 (.ev 0) none [] [0]<|
.guard [rv5.2.2.1.length<2 ^ 63]<|
.frz 6 (.ev 0) none [] [0]<|
.guard [rv5.2.2.2.length<2 ^ 63]<|
.frz 7 (.ev 0) none [] [0]<|
 let e6_:=(i64.wrap (a1-1))
 let e1_:=(0+(e6_).toNat)
.guard [(0:Int)<=e6_,(e6_).toNat<rv5.1.length,e1_<rv5.1.length]<|
 let e3_:=(rv5.1.getD e1_ default)
 let e0_:=(⟨e3_.L,e3_.C,e3_.E,e3_.Aa,e3_.S,(i64.wrap ((e3_.Ac)+a2))⟩:TRe)
 let e4_:=(rv5.1.set e1_ e0_)
 let e8_:=(eS 6 TRe.e e4_)
.reg 10 [] [(11,{ obs:=[(4,e8_)] })] [.e rv5.1.length,.ev 0,.ev 1,.e rv5.1.length,.e rv5.1.length,.ev 2,.e rv5.1.length,.ev 0,.ev 1,.e rv5.1.length,.e rv5.1.length,.ev 2,.pf (zr (sz:=6) (e:=TRe.e) (l:=rv5.1) (i:=e1_) (x:=e0_) (fun _=>rfl))]<|
 let e9_:=(AV.d (eL TVe.e rv5.2.2.1))
 let e10_:=(AV.d (eL TOr.e rv5.2.2.2))
 let e11_:=(AV.d (eL TCo.e rv5.2.1))
 let e12_:=[(3,(vp 0)),(6,(vp 1))]
.cst (A:=True) (.pf trivial) e12_ e12_ [(Ob.box (AV.agg [(AV.ref 4 rv5.1.length 0 rv5.1.length),e11_,e9_,e10_])),e7_,Ob.dead,Ob.dead,e8_,Ob.dead,Ob.dead,Ob.dead] [(Ob.box (AV.agg [(AV.ref 4 (e4_.length) 0 (e4_.length)),e11_,e9_,e10_])),e7_,Ob.dead,Ob.dead,e8_,Ob.dead,Ob.dead,Ob.dead] (fun _=>⟨by simp +zetaDelta only,by simp +zetaDelta only[yb]⟩)<|
.guard [e4_.length<2 ^ 63]<|
.reg 11 [] [] []<|
.frz 4 (.ev 0) none [] [0,1]<|
.r ((⟨e4_,rv5.2.1,rv5.2.2.1,rv5.2.2.2⟩:TBo),0)))))
def F_q5p (a0:TBo) (a1:Int) (a2:Int):=(S_q5p a0 a1 a2).den
theorem F_q5p_ok {a0:TBo} {a1:Int} {a2:Int}:FO (F_q5p a0 a1 a2) 220 [(AV.d (TBo.e a0)),(vi a1),(vi a2)] [] (fun x=>(AV.tup [(AV.d (TBo.e x.1)),(vi x.2)])) NL:=fO (s:=S_q5p a0 a1 a2) Tryz.func220
def S_q5q (a0:TBo) (a1:Int) (a2:Int):SC (TBo×Int) (TBo×Int) :=
 let e2_:=(⟨[],[],[],[]⟩:TBo)
 let e7_:=(bx (TBo.e e2_))
.reg 0 [] [(1,{ obs:=[(1,e7_)] })] [.pf cz9]<|
.a 1 1 2 (@F_q1y_ok a0) fun rv1=>
 let e6_:=(0,hv (AV.d (TBo.e e2_)))
.ite (!rv1) (
.reg 2 [] [e6_] [.pf zk]<|
.r (e2_,1)) (
.a 3 4 2 (@F_q7_ok a1 1 (a0.F.length:Int)) fun rv2=>
.ite (!rv2) (
.reg 4 [] [e6_] [.pf zk]<|
.r (e2_,6)) (
.a 5 1 2 (@F_q1u_ok a2) fun rv3=>
.ite (!rv3) (
.reg 6 [] [e6_] [.pf zk]<|
.r (e2_,2)) (
 let e5_:=(i64.wrap (a1-1))
.call (@F_q3o_ok a0 (a0.F.getD ((e5_).toNat) default)) fun rv4 cv4=>
.guard [(0:Int)<=e5_,(e5_).toNat<a0.F.length]<|
.reg 7 [] [(8,hc cv4 [] true)] [.ev 0,.ev 1,.cl 2 cv4 [] 2 true]<|
.ite (decide (a2>rv4)) (
.reg 8 [] [e6_] [.pf zk]<|
.r (e2_,15)) (
.call (@F_q1z_ok a0) fun rv5 cv5=>
.k 9 1 cv5 [] 2 false<|
.kill 3<|
.guard [rv5.1.length<2 ^ 63]<|
.frz 4 (.ev 0) none [] [0]<|
.guard [rv5.2.2.1.length<2 ^ 63]<|
.frz 6 (.ev 0) none [] [0]<|
.guard [rv5.2.2.2.length<2 ^ 63]<|
.frz 7 (.ev 0) none [] [0]<|
 let e1_:=(0+(e5_).toNat)
.guard [(e5_).toNat<rv5.2.1.length,e1_<rv5.2.1.length]<|
 let e3_:=(rv5.2.1.getD e1_ default)
 let e0_:=(⟨e3_.L,e3_.X,e3_.Aa,e3_.S,(i64.wrap ((e3_.Ac)+a2)),e3_.Ah,e3_.Aj⟩:TCo)
 let e4_:=(rv5.2.1.set e1_ e0_)
 let e8_:=(eS 7 TCo.e e4_)
.reg 10 [] [(11,{ obs:=[(5,e8_)] })] [.e rv5.2.1.length,.ev 7,.ev 0,.e rv5.2.1.length,.e rv5.2.1.length,.ev 1,.e rv5.2.1.length,.ev 7,.ev 0,.e rv5.2.1.length,.e rv5.2.1.length,.ev 1,.pf (zr (sz:=7) (e:=TCo.e) (l:=rv5.2.1) (i:=e1_) (x:=e0_) (fun _=>rfl))]<|
 let e9_:=(AV.d (eL TVe.e rv5.2.2.1))
 let e10_:=(AV.d (eL TOr.e rv5.2.2.2))
 let e11_:=[(3,(vp 0)),(6,(vp 1))]
 let e12_:=(AV.d (eL TRe.e rv5.1))
.cst (A:=True) (.pf trivial) e11_ e11_ [(Ob.box (AV.agg [e12_,(AV.ref 5 rv5.2.1.length 0 rv5.2.1.length),e9_,e10_])),e7_,Ob.dead,Ob.dead,Ob.dead,e8_,Ob.dead,Ob.dead] [(Ob.box (AV.agg [e12_,(AV.ref 5 (e4_.length) 0 (e4_.length)),e9_,e10_])),e7_,Ob.dead,Ob.dead,Ob.dead,e8_,Ob.dead,Ob.dead] (fun _=>⟨by simp +zetaDelta only,by simp +zetaDelta only[yb]⟩)<|
.guard [e4_.length<2 ^ 63]<|
.reg 11 [] [] []<|
.frz 5 (.ev 0) none [] [0,1]<|
.r ((⟨rv5.1,e4_,rv5.2.2.1,rv5.2.2.2⟩:TBo),0)))))
def F_q5q (a0:TBo) (a1:Int) (a2:Int):=(S_q5q a0 a1 a2).den
theorem F_q5q_ok {a0:TBo} {a1:Int} {a2:Int}:FO (F_q5q a0 a1 a2) 221 [(AV.d (TBo.e a0)),(vi a1),(vi a2)] [] (fun x=>(AV.tup [(AV.d (TBo.e x.1)),(vi x.2)])) NL:=fO (s:=S_q5q a0 a1 a2) Tryz.func221
def S_q2f_b1 (a1:Int) (rv1:R_q1z) (iv2:Nat) (_:Unit):SC (TBo×Int) (Step (Unit) (TBo×Int)) :=
.reg 9 [] [] [.e rv1.2.2.2.length,.w iv2,.ev 0]<|
 let e1_:=(rv1.2.2.2.getD (0+iv2) default)
 let e5_:=((e1_.U)==a1)
.guard [(0+iv2)<rv1.2.2.2.length,AllP [e5_=true]->((0+iv2)<rv1.2.2.2.length)]<|
 let e4_:=(rv1.2.2.2.length=rv1.2.2.2.length)
.reg 10 [] [] [.e rv1.2.2.2.length,.e rv1.2.2.2.length,.ev 0,.pf (p:=AllP [e5_=true]->e4_) (fun _=>rfl),.pf (p:=AllP [e5_=true]->e4_) (fun _=>rfl),.ev 1]<|
.ite (bif e5_ then (!(e1_.Al)) else false) (
 let e0_:=(⟨e1_.L,e1_.U,e1_.Ak,e1_.Aa,true⟩:TOr)
 let e2_:=(rv1.2.2.2.set (0+iv2) e0_)
 let e6_:=(eS 5 TOr.e e2_)
.reg 11 [] [(3,{ obs:=[(7,e6_)] })] [.e rv1.2.2.2.length,.e rv1.2.2.2.length,.ev 1,.pf (zr (sz:=5) (e:=TOr.e) (l:=rv1.2.2.2) (i:=(0+iv2)) (x:=e0_) (fun _=>rfl))]<|
 let e3_:=(bx (TBo.e (⟨[],[],[],[]⟩:TBo)))
 let e7_:=(AV.d (eL TVe.e rv1.2.2.1))
 let e8_:=(AV.d (eL TCo.e rv1.2.1))
 let e9_:=[(2,(vp 0)),(4,(vp 1))]
 let e10_:=(AV.d (eL TRe.e rv1.1))
.cst (A:=True) (.pf trivial) e9_ e9_ [(Ob.box (AV.agg [e10_,e8_,e7_,(AV.ref 7 rv1.2.2.2.length 0 rv1.2.2.2.length)])),e3_,Ob.dead,Ob.dead,Ob.dead,Ob.dead,Ob.dead,e6_] [(Ob.box (AV.agg [e10_,e8_,e7_,(AV.ref 7 (e2_.length) 0 (e2_.length))])),e3_,Ob.dead,Ob.dead,Ob.dead,Ob.dead,Ob.dead,e6_] (fun _=>⟨by simp +zetaDelta only,by simp +zetaDelta only[yb]⟩)<|
.guard [e2_.length<2 ^ 63]<|
.reg 12 [] [] []<|
.frz 7 (.ev 0) none [] [0,1]<|
.r (.ret ((⟨rv1.1,rv1.2.1,rv1.2.2.1,e2_⟩:TBo),0))) (
.r (.cont ()))
def S_q2f (a0:TBo) (a1:Int):SC (TBo×Int) (TBo×Int) :=
 let e0_:=(⟨[],[],[],[]⟩:TBo)
.reg 0 [] [(1,{ obs:=[(1,(bx (TBo.e e0_)))] })] [.pf cz9]<|
.a 1 1 2 (@F_q1y_ok a0) fun rv3=>
 let e1_:=(0,hv (AV.d (TBo.e e0_)))
.ite (!rv3) (
.reg 2 [] [e1_] [.pf zk]<|
.r (e0_,1)) (
.a 3 4 2 (@F_q7_ok a1 1 (a0.G.length:Int)) fun rv4=>
.ite (!rv4) (
.reg 4 [] [e1_] [.pf zk]<|
.r (e0_,6)) (
.call (@F_q1z_ok a0) fun rv1 cv1=>
.k 5 1 cv1 [] 2 false<|
.kill 3<|
.guard [rv1.1.length<2 ^ 63]<|
.frz 4 (.ev 0) none [] [0]<|
.guard [rv1.2.1.length<2 ^ 63]<|
.frz 5 (.ev 0) none [] [0]<|
.guard [rv1.2.2.1.length<2 ^ 63]<|
.frz 6 (.ev 0) none [] [0]<|
.guard [rv1.2.2.2.length<2 ^ 63]<|
.range (rv1.2.2.2.length:Int) rv1.2.2.2.length rfl (.why (.ev 0)) 26 [1,2,4,25] (fun (_:Unit)=>[]) (fun _=>[]) () (S_q2f_b1 a1 rv1) (fun _ => 
.reg 14 [] [e1_] [.pf zk]<|
.r (e0_,9)) id))
def F_q2f (a0:TBo) (a1:Int):=(S_q2f a0 a1).den
theorem F_q2f_ok {a0:TBo} {a1:Int}:FO (F_q2f a0 a1) 222 [(AV.d (TBo.e a0)),(vi a1)] [] (fun x=>(AV.tup [(AV.d (TBo.e x.1)),(vi x.2)])) NL:=fO (s:=S_q2f a0 a1) Tryz.func222
def S_q5r (a0:TBo) (a1:TOp):SC (TBo×Int) (TBo×Int) :=
.reg 0 [] [(2,{ obs:=[(2,(bx (TBo.e (⟨[],[],[],[]⟩:TBo))))] })] [.pf cz9]<|
.ite (a1.P==1) (
.a 3 9 3 (@F_q5l_ok a0 a1.C a1.E a1.Aa a1.S) fun rv1=>
.r (rv1.1,rv1.2)) (
.ite (a1.P==2) (
.a 5 11 3 (@F_q5m_ok a0 a1.Of a1.Aa a1.S a1.Ah a1.Aj) fun rv2=>
.r (rv2.1,rv2.2)) (
.ite (a1.P==3) (
.a 7 7 3 (@F_q5n_ok a0 a1.Of a1.Aa a1.S) fun rv3=>
.r (rv3.1,rv3.2)) (
.ite (a1.P==4) (
.a 9 5 3 (@F_q5o_ok a0 a1.Of a1.Aa) fun rv4=>
.r (rv4.1,rv4.2)) (
.ite (a1.P==5) (
.a 11 5 3 (@F_q5p_ok a0 a1.Of a1.S) fun rv5=>
.r (rv5.1,rv5.2)) (
.ite (a1.P==6) (
.a 13 5 3 (@F_q5q_ok a0 a1.Of a1.S) fun rv6=>
.r (rv6.1,rv6.2)) (
.a 14 3 3 (@F_q2f_ok a0 a1.Of) fun rv7=>
.r (rv7.1,rv7.2)))))))
def F_q5r (a0:TBo) (a1:TOp):=(S_q5r a0 a1).den
theorem F_q5r_ok {a0:TBo} {a1:TOp}:FO (F_q5r a0 a1) 189 [(AV.d (TBo.e a0)),(AV.d (TOp.e a1))] [] (fun x=>(AV.tup [(AV.d (TBo.e x.1)),(vi x.2)])) NL:=fO (s:=S_q5r a0 a1) Tryz.func189
def S_q3q (a0:TOf) (a1:List UInt8) (a2:Int):SC Int Int :=
.a 1 3 1 (@F_q2c_ok a0 a1 a2) fun rv1=>
.a 2 9 2 (@F_q1s_ok a0.Af a1 a2) fun rv2=>
.r (i64.wrap ((i64.wrap (rv1.A-rv1.N))-rv2))
def F_q3q (a0:TOf) (a1:List UInt8) (a2:Int):=(S_q3q a0 a1 a2).den
theorem F_q3q_ok {a0:TOf} {a1:List UInt8} {a2:Int}:FO (F_q3q a0 a1 a2) 80 [(AV.d (TOf.e a0)),(AV.d (DV.str a1)),(vi a2)] [] vi NL:=fO (s:=S_q3q a0 a1 a2) Tryz.func80
def S_q3r (a0:TOf) (a1:TOp):SC (TOf×Int) (TOf×Int) :=
 let e2_:=(⟨[],[],[],[]⟩:TBo)
 let e0_:=(⟨0,[],e2_⟩:TOf)
.reg 0 [] [(2,{ obs:=[(2,(bx (TOf.e e0_)))] })] [.pf cz7]<|
.ite (a1.P==8) (
.a 3 2 3 (@F_q5f_ok a0 a1) fun rv1=>
.r (rv1.1,rv1.2)) (
.ite (a1.P==7) (
.a 5 2 3 (@F_q5g_ok a0 a1) fun rv2=>
.r (rv2.1,rv2.2)) (
.call (@F_q5r_ok a0.Af a1) fun rv3 cv3=>
.reg 6 [] [(3,hc cv3 [] true),(7,{ obs:=[(3,(bx (TBo.e e2_)))] })] [.cl 0 cv3 [] 3 true,.pf cz9]<|
 let e1_:=(0,hv (AV.d (TOf.e e0_)))
.ite (rv3.2 != 0) (
.reg 8 [] [e1_] [.pf cz8]<|
.r (e0_,rv3.2)) (
.calld [(a1.P==1)=true] default (@F_q3q_ok a0 a1.C a1.E) fun rv4 cv4 =>
.reg 9 [] [(11,hc cv4 [] true)] [.clg 0 [(a1.P==1)=true] cv4 [] 4 true]<|
.ite (bif (a1.P==1) then (decide (a1.S>rv4)) else false) (
.reg 10 [] [e1_] [.pf cz8]<|
.r (e0_,15)) (
.r ((⟨a0.L,a0.H,rv3.1⟩:TOf),0)))))
def F_q3r (a0:TOf) (a1:TOp):=(S_q3r a0 a1).den
theorem F_q3r_ok {a0:TOf} {a1:TOp}:FO (F_q3r a0 a1) 145 [(AV.d (TOf.e a0)),(AV.d (TOp.e a1))] [] (fun x=>(AV.tup [(AV.d (TOf.e x.1)),(vi x.2)])) NL:=fO (s:=S_q3r a0 a1) Tryz.func145
abbrev R_q1d:=TOf×Int×Int
def S_q1d_b1 (a1:(List TOp)) (iv1:Nat) (sv2:TOf):SC R_q1d (Step (TOf) R_q1d) :=
.reg 4 [] [] [.w iv1,.ev 0]<|
.a 5 1 3 (@F_q46_ok (a1.getD iv1 default)) fun rv3=>
 let e0_:=(⟨0,[],(⟨[],[],[],[]⟩:TBo)⟩:TOf)
 let e1_:=(0,hv (AV.d (TOf.e e0_)))
.ite (!rv3) (
.reg 6 [] [e1_] [.pf cz8]<|
.r (.ret (e0_,(iv1:Int),4))) (
.call (@F_q3r_ok sv2 (a1.getD iv1 default)) fun rv4 cv4=>
.reg 7 [] [(2,hc cv4 [] true),(6,{ obs:=[(3,(bx (TOf.e e0_)))] })] [.cl 0 cv4 [] 3 true,.pf cz7]<|
.ite (rv4.2 != 0) (
.reg 9 [] [e1_] [.pf cz8]<|
.r (.ret (e0_,(iv1:Int),9))) (
.c rv4.1))
def S_q1d (a0:Int) (a1:(List TOp)):SC R_q1d R_q1d :=
 let e0_:=(⟨[],[],[],[]⟩:TBo)
 let e2_:=(bx (TOf.e (⟨0,[],e0_⟩:TOf)))
.reg 0 [] [(0,{ obs:=[(0,e2_)] })] [.pf cz7]<|
 let e1_:=(⟨a0,[],e0_⟩:TOf)
.reg 1 [] [(1,hv (AV.d (TOf.e e1_))),(2,{ obs:=[(1,e2_)] })] [.pf (p:=LeV (AV.d (DV.agg [(DV.i .i64 a0),Z0,(DV.agg [Z0,Z0,Z0,Z0])])) (AV.d (TOf.e e1_))) (z23 rfl (DLe.agg (DLeL.cons (DLe.refl _) (DLeL.cons DLe.sl0 (DLeL.cons (DLe.agg (DLeL.cons DLe.sl0 (DLeL.cons DLe.sl0 (DLeL.cons DLe.sl0 (DLeL.cons DLe.sl0 DLeL.nil))))) DLeL.nil))))),.pf cz7]<|
.range (a1.length:Int) a1.length rfl (.slot 1) 16 [1,4,7,14,15] (fun (_:TOf)=>[]) (fun sv2=>[(1,(bx (TOf.e sv2)))]) e1_ (S_q1d_b1 a1) (fun sv2 => 
.r (sv2,(a1.length:Int),0)) id
def F_q1d (a0:Int) (a1:(List TOp)):=(S_q1d a0 a1).den
theorem F_q1d_ok {a0:Int} {a1:(List TOp)}:FO (F_q1d a0 a1) 89 [(vi a0),(AV.d (eL TOp.e a1))] [] (fun x=>(AV.tup [(AV.d (TOf.e x.1)),(vi x.2.1),(vi x.2.2)])) NL:=fO (s:=S_q1d a0 a1) Tryz.func89
def S_q39 (a0:TJo):SC (TOf×Int) (TOf×Int) :=
 let e0_:=(⟨0,[],(⟨[],[],[],[]⟩:TBo)⟩:TOf)
.reg 0 [] [(1,{ obs:=[(1,(bx (TOf.e e0_)))] })] [.pf cz7]<|
.a 1 1 2 (@F_q6h_ok a0) fun rv1=>
 let e1_:=(0,hv (AV.d (TOf.e e0_)))
.ite (!rv1) (
.reg 2 [] [e1_] [.pf cz8]<|
.r (e0_,1)) (
.call (@F_q1d_ok a0.Z a0.Ad) fun rv2 cv2=>
.reg 3 [] [(4,hc cv2 [] true),(9,{ obs:=[(2,(bx (TOf.e e0_)))] })] [.cl 0 cv2 [] 2 true,.pf cz7]<|
.ite (rv2.2.2 != 0) (
.reg 5 [] [e1_] [.pf cz8]<|
.r (e0_,1)) (
.r (rv2.1,0)))
def F_q39 (a0:TJo):=(S_q39 a0).den
theorem F_q39_ok {a0:TJo}:FO (F_q39 a0) 49 [(AV.d (TJo.e a0))] [] (fun x=>(AV.tup [(AV.d (TOf.e x.1)),(vi x.2)])) NL:=fO (s:=S_q39 a0) Tryz.func49
def S_q3s (a0:TJo):SC Bool Bool :=
.call (@F_q39_ok a0) fun rv1 cv1=>
.reg 1 [] [(1,hc cv1 [] true),(5,{ obs:=[(1,(bx (TOf.e (⟨0,[],(⟨[],[],[],[]⟩:TBo)⟩:TOf))))] })] [.cl 0 cv1 [] 1 true,.pf cz7]<|
.r (rv1.2==0)
def F_q3s (a0:TJo):=(S_q3s a0).den
theorem F_q3s_ok {a0:TJo}:FO (F_q3s a0) 126 [(AV.d (TJo.e a0))] [] vb NL:=fO (s:=S_q3s a0) Tryz.func126
def S_q4f (a0:TJo):SC (TOf×Int) (TOf×Int) :=
 let e0_:=(⟨0,[],(⟨[],[],[],[]⟩:TBo)⟩:TOf)
.reg 0 [] [(1,{ obs:=[(1,(bx (TOf.e e0_)))] })] [.pf cz7]<|
.a 1 1 2 (@F_q3s_ok a0) fun rv1=>
.ite (!rv1) (
.reg 2 [] [(0,hv (AV.d (TOf.e e0_)))] [.pf cz8]<|
.r (e0_,1)) (
 let e1_:=(a0.Ad.take ((a0.Ag).toNat))
.call (@F_q1d_ok a0.Z e1_) fun rv2 cv2=>
.guard [(0:Int)<=a0.Ag,(a0.Ag).toNat<=a0.Ad.length]<|
.reg 3 [12,13] [(6,hv (AV.d (eL TOp.e e1_))),(7,hc cv2 [] true),(12,{ obs:=[(2,(bx (TOf.e e0_)))] })] [.ev 0,.ev 1,.der (fun (h0:(a0.Ag).toNat<=a0.Ad.length)=>lvT TOp.e a0.Ad h0) 1,.ev 0,.ev 1,.der (fun (h0:(a0.Ag).toNat<=a0.Ad.length)=>lvT TOp.e a0.Ad h0) 1,.cl 2 cv2 [] 2 true,.cl 2 cv2 [] 3 true,.pf cz7]<|
.r (rv2.1,rv2.2.2))
def F_q4f (a0:TJo):=(S_q4f a0).den
theorem F_q4f_ok {a0:TJo}:FO (F_q4f a0) 78 [(AV.d (TJo.e a0))] [] (fun x=>(AV.tup [(AV.d (TOf.e x.1)),(vi x.2)])) NL:=fO (s:=S_q4f a0) Tryz.func78
end
end Go.Proofs.YtdmddkbngmhepaaGreatDoor
/- What the functions compute,and that their calls return it. No condition. -/
namespace Go.Proofs.YtdmddkbngmhepaaGreatDoor
open Go Go.TA
open Go.IntKind (i64)
noncomputable section
set_option maxRecDepth 100000
theorem ztj:LeV (AV.tup [(AV.full 0 fun _=>DV.b false),(AV.full 0 fun _=>DV.b false),(vb false)]) (AV.tup [(AV.d (eL TOf.e ([]))),(AV.d (eL TOf.e ([]))),(vb false)]):=LeV.tup (LeVs.cons (lvN TOf.e) (LeVs.cons (lvN TOf.e) (LeVs.cons (LeV.refl _) LeVs.nil)))
abbrev R_qy:=(List TOf)×(List TOf)×Bool
def S_qy_b1 (a0:TWo) (iv1:Nat) (sv2:(List TOf)×(List TOf)):SC R_qy (Step ((List TOf)×(List TOf)) R_qy) :=
.reg 3 [] [(3,{ obs:=[(3,(bx (TJo.e (⟨0,[],0⟩:TJo))))] })] [.w iv1,.ev 0,.pf cz1]<|
 let e3_:=(a0.O.getD iv1 default)
.call (@F_q39_ok e3_) fun rv3 cv3=>
 let e2_:=(bx (TOf.e (⟨0,[],(⟨[],[],[],[]⟩:TBo)⟩:TOf)))
.reg 4 [] [(1,hc cv3 [] true),(5,{ obs:=[(4,e2_)] })] [.cl 0 cv3 [] 4 true,.pf cz7]<|
.call (@F_q4f_ok e3_) fun rv4 cv4=>
.reg 5 [] [(1,hc cv4 [] true),(5,{ obs:=[(5,e2_)] })] [.cl 0 cv4 [] 5 true,.pf cz7]<|
.ite (bif (bif ((e3_.Z) != (i64.wrap ((iv1:Int)+1))) then true else (rv3.2 != 0)) then true else (rv4.2 != 0)) (
.ret [.pf ztj] (.ret ([],[],false))) (
.guard [(sv2.1.length+1) * (2 * 128)<=2 ^ 48,(sv2.2.length+1) * (2 * 128)<=2 ^ 48]<|
 let e0_:=([rv4.1]:List TOf)
 let e1_:=([rv3.1]:List TOf)
.reg 8 [3,7] [(2,hv (AV.d (eL TOf.e e1_))),(3,{ h:=.obj,cast:=some (AV.ref 1 ((sv2.1++e1_).length) 0 ((sv2.1++e1_).length)),obs:=[(1,(eS 6 TOf.e (sv2.1++e1_)))] }),(6,hv (AV.d (eL TOf.e e0_))),(7,{ h:=.obj,cast:=some (AV.ref 2 ((sv2.2++e0_).length) 0 ((sv2.2++e0_).length)),obs:=[(2,(eS 6 TOf.e (sv2.2++e0_)))] })] [.pf (ze TOf.e e1_),.e sv2.1.length,.e sv2.1.length,.pf (p:=∀ k,k<1->(AV.d (TOf.e (e1_.getD k default))).wd=6) (fun _ _=>rfl),.ev 0,.pf (zw (o:=1) (l:=sv2.1) (x:=e1_)),.pf (z10 (sz:=6) (e:=TOf.e) (l:=sv2.1) (x:=e1_)),.pf (ze TOf.e e0_),.pf (ze TOf.e e0_),.e sv2.2.length,.e sv2.2.length,.pf (p:=∀ k,k<1->(AV.d (TOf.e (e0_.getD k default))).wd=6) (fun _ _=>rfl),.ev 1,.pf (zw (o:=2) (l:=sv2.2) (x:=e0_)),.pf (z10 (sz:=6) (e:=TOf.e) (l:=sv2.2) (x:=e0_))]<|
.r (.cont ((sv2.1++e1_),(sv2.2++e0_))))
def S_qy (a0:TWo):SC R_qy R_qy :=
.reg 1 [] [] []<|
.bor 6 (fun j=>AV.d (TOf.e (([]:List TOf).getD j default))) [2]<|
.bor 6 (fun j=>AV.d (TOf.e (([]:List TOf).getD j default))) [3]<|
.range (a0.O.length:Int) a0.O.length rfl (.slot 12) 14 [12,13] (fun (sv2:(List TOf)×(List TOf))=>[(2,(AV.ref 1 sv2.1.length 0 sv2.1.length)),(3,(AV.ref 2 sv2.2.length 0 sv2.2.length))]) (fun sv2=>[(1,(eS 6 TOf.e sv2.1)),(2,(eS 6 TOf.e sv2.2))]) (([]:List TOf),([]:List TOf)) (S_qy_b1 a0) (fun sv2 => 
.guard [sv2.1.length<2 ^ 63]<|
.reg 10 [] [] []<|
.frz 1 (.ev 0) none [2] []<|
.guard [sv2.2.length<2 ^ 63]<|
.frz 2 (.ev 0) none [3] []<|
.r (sv2.1,sv2.2,true)) id
def F_qy (a0:TWo):=(S_qy a0).den
theorem F_qy_ok {a0:TWo}:FO (F_qy a0) 39 [(AV.d (TWo.e a0))] [] (fun x=>(AV.tup [(AV.d (eL TOf.e x.1)),(AV.d (eL TOf.e x.2.1)),(vb x.2.2)])) NL:=fO (s:=S_qy a0) Tryz.func39
def S_q6t (a0:TPo) (p0:List UInt8) (p1:Int):SC Bool Bool :=
.r (bif (a0.C==p0) then (a0.E==p1) else false)
def F_q6t (a0:TPo) (p0:List UInt8) (p1:Int):=(S_q6t a0 p0 p1).den
theorem F_q6t_ok {a0:TPo} {p0:List UInt8} {p1:Int}:FO (F_q6t a0 p0 p1) 125 [(AV.d (TPo.e a0)),(vp 0),(vp 1)] [(bx (DV.str p0)),(Ob.box (vi p1))] vb (fun _=>[(bx (DV.str p0)),(Ob.box (vi p1))]):=fO (s:=S_q6t a0 p0 p1) Tryz.func125
def S_q2s_b1 (a0:(List TPo)) (p0:List UInt8) (p1:Int) (iv1:Nat) (_:Unit):SC Int (Step (Unit) Int) :=
.call (@F_q6t_ok (a0.getD iv1 default) p0 p1) fun rv2 cv2=>
.reg 4 [] [(5,hc cv2 [0,1] true)] [.w iv1,.ev 1,.cl 0 cv2 [0,1] 2 true]<|
.ite rv2 (
.r (.ret (iv1:Int))) (
.r (.cont ()))
def S_q2s (a0:(List TPo)) (p0:List UInt8) (p1:Int):SC Int Int :=
.range (a0.length:Int) a0.length rfl (.slot 0) 8 [0,1,7] (fun (_:Unit)=>[]) (fun _=>[]) () (S_q2s_b1 a0 p0 p1) (fun _ => 
.r (-1)) id
def F_q2s (a0:(List TPo)) (p0:List UInt8) (p1:Int):=(S_q2s a0 p0 p1).den
theorem F_q2s_ok {a0:(List TPo)} {p0:List UInt8} {p1:Int}:FO (F_q2s a0 p0 p1) 124 [(AV.d (eL TPo.e a0)),(AV.fn 125 [(vp 0),(vp 1)])] [(bx (DV.str p0)),(Ob.box (vi p1))] vi (fun _=>[(bx (DV.str p0)),(Ob.box (vi p1))]):=fO (s:=S_q2s a0 p0 p1) Tryz.func124
def S_q3a (a0:TTr) (a1:List UInt8) (a2:Int):SC Int Int :=
.call (@F_q2s_ok a0.D a1 a2) fun rv1 cv1=>
.k 1 3 cv1 [1,2] 3 true<|
.r rv1
def F_q3a (a0:TTr) (a1:List UInt8) (a2:Int):=(S_q3a a0 a1 a2).den
theorem F_q3a_ok {a0:TTr} {a1:List UInt8} {a2:Int}:FO (F_q3a a0 a1 a2) 76 [(AV.d (TTr.e a0)),(AV.d (DV.str a1)),(vi a2)] [] vi NL:=fO (s:=S_q3a a0 a1 a2) Tryz.func76
def S_q20 (a0:(List Int)):SC (List Int) (List Int) :=
.reg 0 [] [] []<|
.nils 0 (
.guard [(0+a0.length) * (2 * 8)<=2 ^ 48]<|
.reg 1 [] [] []<|
.lev 0 (vl a0) (.pf (lvQ true a0.length fun j=>(DV.i .i64 (a0.getD j default))))<|
.br true (.pf (p:=true=true) rfl)<|
.reg 2 [] [] []<|
.lev 2 (vl a0) (.der (fun (h:a0.length=0)=>lvZ (DV.i .i64) a0 h) 1)<|
.r a0) (
.reg 1 [] [] []<|
.lev 0 (vl a0) (.pf (lvQ false a0.length fun j=>(DV.i .i64 (a0.getD j default))))<|
.br false (.pf (p:=false=false) rfl)<|
.guard [(0+a0.length) * (2 * 8)<=2 ^ 48]<|
.reg 3 [] [(2,hv (vl a0))] [.pf (p:=∀ k,k<a0.length->AV.d ((DV.i .i64) (a0.getD k default))=AV.d ((DV.i .i64) (a0.getD k default))/\((DV.i .i64) (a0.getD k default)).wd=1) (fun _ _=>⟨rfl,rfl⟩),.pf zgx,.ev 0,.pf (z3j (e:=(DV.i .i64)) (x:=a0))]<|
.r a0)
def F_q20 (a0:(List Int)):=(S_q20 a0).den
theorem F_q20_ok {a0:(List Int)}:FO (F_q20 a0) 73 [(vl a0)] [] vl NL:=fO (s:=S_q20 a0) Tryz.func73
def S_q3b (a0:TPo):SC TPo TPo :=
.reg 0 [] [(1,{ obs:=[(1,(bx (TPo.e (⟨[],0,0,[],[],[],[]⟩:TPo))))] })] [.pf cz6]<|
.call (@F_q20_ok a0.A) fun rv1 cv1=>
.call (@F_q20_ok a0.J) fun rv2 cv2=>
.call (@F_q20_ok a0.I) fun rv3 cv3=>
.call (@F_q20_ok a0.T) fun rv4 cv4=>
.reg 1 [13,15,17,19] [(2,hc cv1 [] true),(5,hc cv2 [] true),(8,hc cv3 [] true),(11,hc cv4 [] true)] [.cl 3 cv1 [] 2 true,.cl 2 cv2 [] 2 true,.cl 1 cv3 [] 2 true,.cl 0 cv4 [] 2 true]<|
.r (⟨a0.C,a0.E,a0.V,rv1,rv2,rv3,rv4⟩:TPo)
def F_q3b (a0:TPo):=(S_q3b a0).den
theorem F_q3b_ok {a0:TPo}:FO (F_q3b a0) 77 [(AV.d (TPo.e a0))] [] (fun x=>(AV.d (TPo.e x))) NL:=fO (s:=S_q3b a0) Tryz.func77
def S_q3c (a0:TTr) (a1:List UInt8) (a2:Int):SC (TPo×Bool) (TPo×Bool) :=
 let e0_:=(⟨[],0,0,[],[],[],[]⟩:TPo)
.reg 0 [] [(1,{ obs:=[(1,(bx (TPo.e e0_)))] })] [.pf cz6]<|
.a 1 3 2 (@F_q3a_ok a0 a1 a2) fun rv1=>
.ite (decide (rv1<0)) (
.reg 3 [] [(0,hv (AV.d (TPo.e e0_)))] [.pf zou]<|
.r (e0_,false)) (
.call (@F_q3b_ok (a0.D.getD ((rv1).toNat) default)) fun rv2 cv2=>
.guard [(0:Int)<=rv1,(rv1).toNat<a0.D.length]<|
.reg 4 [] [(5,hc cv2 [] true)] [.ev 0,.ev 1,.cl 2 cv2 [] 2 true]<|
.r (rv2,true))
def F_q3c (a0:TTr) (a1:List UInt8) (a2:Int):=(S_q3c a0 a1 a2).den
theorem F_q3c_ok {a0:TTr} {a1:List UInt8} {a2:Int}:FO (F_q3c a0 a1 a2) 38 [(AV.d (TTr.e a0)),(AV.d (DV.str a1)),(vi a2)] [] (fun x=>(AV.tup [(AV.d (TPo.e x.1)),(vb x.2)])) NL:=fO (s:=S_q3c a0 a1 a2) Tryz.func38
def S_qo_b1 (a0:TTr) (a1:TOf) (iv1:Nat) (_:Unit):SC Bool (Step (Unit) Bool) :=
.reg 4 [] [] [.w iv1,.ev 0]<|
 let e2_:=(a1.H.getD iv1 default)
.call (@F_q3c_ok a0 (e2_.C) (e2_.E)) fun rv2 cv2=>
.reg 5 [] [(5,hc cv2 [] true),(9,{ obs:=[(4,(bx (TPo.e (⟨[],0,0,[],[],[],[]⟩:TPo))))] })] [.cl 0 cv2 [] 4 true,.pf cz6]<|
 let e1_:=(i64.wrap (a1.L-1))
 let e0_:=(bif (!rv2.2) then true else (decide ((e2_.A)>(rv2.1.A.getD ((e1_).toNat) default))))
.guard [AllP [(!rv2.2)=false]->((0:Int)<=e1_),AllP [(!rv2.2)=false]->((e1_).toNat<rv2.1.A.length),AllP [e0_=false]->((0:Int)<=e1_),AllP [e0_=false]->((e1_).toNat<rv2.1.I.length)]<|
.reg 6 [] [] [.ev 0,.ev 1,.ev 2,.ev 3]<|
.ite (bif e0_ then true else (decide ((e2_.I)>(rv2.1.I.getD ((e1_).toNat) default)))) (
.r (.ret false)) (
.r (.cont ()))
def S_qo_b2 (a0:TTr) (a1:TOf) (a2:TOf) (iv3:Nat) (_:Unit):SC Bool (Step (Unit) Bool) :=
.reg 11 [] [(2,{ obs:=[(3,(bx (TPo.e (⟨[],0,0,[],[],[],[]⟩:TPo))))] })] [.w iv3,.ev 0,.pf cz6]<|
 let e0_:=(a0.D.getD iv3 default)
.call (@F_q2c_ok a2 (e0_.C) (e0_.E)) fun rv4 cv4=>
 let e1_:=(i64.wrap (a1.L-1))
.guard [(0:Int)<=e1_,(e1_).toNat<(e0_.J).length]<|
.reg 12 [] [(10,hc cv4 [] true)] [.ev 0,.ev 1,.cl 2 cv4 [] 4 true]<|
.ite (decide (((e0_.J).getD ((e1_).toNat) default)>rv4.N)) (
.r (.ret false)) (
.r (.cont ()))
def S_qo (a0:TTr) (a1:TOf) (a2:TOf):SC Bool Bool :=
.range (a1.H.length:Int) a1.H.length rfl (.slot 18) 20 [3,5,7,18,19] (fun (_:Unit)=>[]) (fun _=>[]) () (S_qo_b1 a0 a1) (fun _ => 
.range (a0.D.length:Int) a0.D.length rfl (.slot 57) 59 [5,7,57,58] (fun (_:Unit)=>[]) (fun _=>[]) () (S_qo_b2 a0 a1 a2) (fun _ => 
.r true) id) id
def F_qo (a0:TTr) (a1:TOf) (a2:TOf):=(S_qo a0 a1 a2).den
theorem F_qo_ok {a0:TTr} {a1:TOf} {a2:TOf}:FO (F_qo a0 a1 a2) 66 [(AV.d (TTr.e a0)),(AV.d (TOf.e a1)),(AV.d (TOf.e a2))] [] vb NL:=fO (s:=S_qo a0 a1 a2) Tryz.func66
def S_q5s (a0:TTr) (a1:(List TOf)) (a2:TMe):SC Bool Bool :=
.call (@F_q3c_ok a0 a2.C a2.E) fun rv1 cv1=>
.reg 1 [] [(5,hc cv1 [] true),(9,{ obs:=[(2,(bx (TPo.e (⟨[],0,0,[],[],[],[]⟩:TPo))))] })] [.cl 0 cv1 [] 2 true,.pf cz6]<|
.ite (!rv1.2) (
.r false) (
.ite (a2.Y==0) (
.call (@F_q11_ok a2.To 1 a0.M) fun rv2 cv2=>
 let e1_:=(i64.wrap (a2.To-1))
.calld [rv2=true] default (@F_q11_ok a2.A 0 (rv1.1.A.getD ((e1_).toNat) default)) fun rv3 cv3 =>
 let e2_:=(bif rv2 then rv3 else false)
.calld [e2_=true] default (@F_q11_ok a2.I 0 (rv1.1.I.getD ((e1_).toNat) default)) fun rv4 cv4 =>
.guard [AllP [rv2=true]->((0:Int)<=e1_),AllP [rv2=true]->((e1_).toNat<rv1.1.A.length),AllP [e2_=true]->((0:Int)<=e1_),AllP [e2_=true]->((e1_).toNat<rv1.1.I.length)]<|
.reg 5 [] [(4,hc cv2 [] true),(15,hc cv3 [] true),(27,hc cv4 [] true)] [.cl 8 cv2 [] 3 true,.ev 0,.ev 1,.clg 6 [rv2=true] cv3 [] 3 true,.ev 2,.ev 3,.clg 4 [e2_=true] cv4 [] 3 true]<|
.r (bif (bif (bif e2_ then rv4 else false) then (a2.N==0) else false) then (a2.T==0) else false)) (
.call (@F_q11_ok a2.Y 1 a0.M) fun rv5 cv5=>
 let e0_:=(bif rv5 then (a2.To==0) else false)
 let e4_:=(i64.wrap (a2.Y-1))
.calld [e0_=true] default (@F_q2c_ok (a1.getD ((e4_).toNat) default) a2.C a2.E) fun rv6 cv6 =>
.calld [e0_=true] default (@F_q11_ok a2.N 0 rv6.N) fun rv7 cv7 =>
 let e3_:=(bif e0_ then rv7 else false)
.calld [e3_=true] default (@F_q11_ok a2.T 0 1000000000000000) fun rv8 cv8 =>
.guard [AllP [e0_=true]->((0:Int)<=e4_),AllP [e0_=true]->((e4_).toNat<a1.length)]<|
.reg 6 [] [(4,hc cv5 [] true),(23,hc cv6 [] true),(25,hc cv7 [] true),(30,hc cv8 [] true)] [.cl 8 cv5 [] 3 true,.ev 0,.ev 1,.clg 6 [e0_=true] cv6 [] 3 true,.clg 4 [e0_=true] cv7 [] 3 true,.clg 2 [e3_=true] cv8 [] 3 true]<|
.r (bif (bif (bif e3_ then rv8 else false) then (a2.A==0) else false) then (a2.I==0) else false)))
def F_q5s (a0:TTr) (a1:(List TOf)) (a2:TMe):=(S_q5s a0 a1 a2).den
theorem F_q5s_ok {a0:TTr} {a1:(List TOf)} {a2:TMe}:FO (F_q5s a0 a1 a2) 69 [(AV.d (TTr.e a0)),(AV.d (eL TOf.e a1)),(AV.d (TMe.e a2))] [] vb NL:=fO (s:=S_q5s a0 a1 a2) Tryz.func69
def S_q6u (a0:TMe) (p0:TWo) (p1:(List TOf)):SC Bool Bool :=
.a 1 4 3 (@F_q5s_ok p0.K p1 a0) fun rv1=>
.r (!rv1)
def F_q6u (a0:TMe) (p0:TWo) (p1:(List TOf)):=(S_q6u a0 p0 p1).den
theorem F_q6u_ok {a0:TMe} {p0:TWo} {p1:(List TOf)}:FO (F_q6u a0 p0 p1) 68 [(AV.d (TMe.e a0)),(vp 0),(vp 1)] [(bx (TWo.e p0)),(bx (eL TOf.e p1))] vb (fun _=>[(bx (TWo.e p0)),(bx (eL TOf.e p1))]):=fO (s:=S_q6u a0 p0 p1) Tryz.func68
def S_q2g_b1 (a0:(List TMe)) (p0:TWo) (p1:(List TOf)) (iv1:Nat) (_:Unit):SC Int (Step (Unit) Int) :=
.call (@F_q6u_ok (a0.getD iv1 default) p0 p1) fun rv2 cv2=>
.reg 4 [] [(5,hc cv2 [0,1] true)] [.w iv1,.ev 1,.cl 0 cv2 [0,1] 2 true]<|
.ite rv2 (
.r (.ret (iv1:Int))) (
.r (.cont ()))
def S_q2g (a0:(List TMe)) (p0:TWo) (p1:(List TOf)):SC Int Int :=
.range (a0.length:Int) a0.length rfl (.slot 0) 8 [0,1,7] (fun (_:Unit)=>[]) (fun _=>[]) () (S_q2g_b1 a0 p0 p1) (fun _ => 
.r (-1)) id
def F_q2g (a0:(List TMe)) (p0:TWo) (p1:(List TOf)):=(S_q2g a0 p0 p1).den
theorem F_q2g_ok {a0:(List TMe)} {p0:TWo} {p1:(List TOf)}:FO (F_q2g a0 p0 p1) 111 [(AV.d (eL TMe.e a0)),(AV.fn 68 [(vp 0),(vp 1)])] [(bx (TWo.e p0)),(bx (eL TOf.e p1))] vi (fun _=>[(bx (TWo.e p0)),(bx (eL TOf.e p1))]):=fO (s:=S_q2g a0 p0 p1) Tryz.func111
def S_q6v (a0:(List TMe)) (p0:TWo) (p1:(List TOf)):SC Bool Bool :=
.call (@F_q2g_ok a0 p0 p1) fun rv1 cv1=>
.k 1 2 cv1 [0,1] 2 true<|
.r (decide (rv1>=0))
def F_q6v (a0:(List TMe)) (p0:TWo) (p1:(List TOf)):=(S_q6v a0 p0 p1).den
theorem F_q6v_ok {a0:(List TMe)} {p0:TWo} {p1:(List TOf)}:FO (F_q6v a0 p0 p1) 67 [(AV.d (eL TMe.e a0)),(AV.fn 68 [(vp 0),(vp 1)])] [(bx (TWo.e p0)),(bx (eL TOf.e p1))] vb (fun _=>[(bx (TWo.e p0)),(bx (eL TOf.e p1))]):=fO (s:=S_q6v a0 p0 p1) Tryz.func67
theorem ztk:OLe (bx Z0) (bx (eL TOf.e ([]))):=z4m DLe.sl0
def S_q15_b1 (a0:TWo) (rv1:R_qy) (iv2:Nat) (_:Unit):SC Bool (Step (Unit) Bool) :=
.call (@F_qo_ok a0.K (rv1.1.getD iv2 default) (rv1.2.1.getD iv2 default)) fun rv3 cv3=>
.guard [iv2<rv1.2.1.length]<|
.reg 9 [] [(10,hc cv3 [] true)] [.w iv2,.ev 2,.w iv2,.ev 0,.cl 1 cv3 [] 2 true]<|
.ite (!rv3) (
.r (.ret false)) (
.r (.cont ()))
def S_q15 (a0:TWo):SC Bool Bool :=
.a 1 2 1 (@F_qn_ok a0.K) fun rv4=>
.ite (bif (bif (!rv4) then true else ((a0.O.length:Int) != a0.K.M)) then true else (decide ((a0.W.length:Int)>200))) (
.r false) (
.call (@F_qy_ok a0) fun rv1 cv1=>
.reg 3 [] [(1,hc cv1 [] true),(6,{ obs:=[(1,(bx (eL TOf.e ([]))))] })] [.cl 0 cv1 [] 1 true,.pf ztk]<|
.ite (!rv1.2.2) (
.r false) (
.range (rv1.1.length:Int) rv1.1.length rfl (.slot 3) 36 [1,3,4,35] (fun (_:Unit)=>[]) (fun _=>[]) () (S_q15_b1 a0 rv1) (fun _ => 
.call (@F_q6v_ok a0.W a0 rv1.2.1) fun rv5 cv5=>
.k 12 3 cv5 [0,1] 2 true<|
.r (!rv5)) id))
def F_q15 (a0:TWo):=(S_q15 a0).den
theorem F_q15_ok {a0:TWo}:FO (F_q15 a0) 35 [(AV.d (TWo.e a0))] [] vb NL:=fO (s:=S_q15 a0) Tryz.func35
abbrev R_q2q:=Int×(List TPo)
def S_q2q_b1 (a0:TTr) (iv1:Nat) (sv2:Int×(List TPo)):SC R_q2q (Step (Int×(List TPo)) R_q2q) :=
.reg 5 [] [(2,{ obs:=[(3,(bx (TPo.e (⟨[],0,0,[],[],[],[]⟩:TPo))))] })] [.w iv1,.ev 0,.pf cz6]<|
.call (@F_q3b_ok (a0.D.getD iv1 default)) fun rv3 cv3=>
.guard [(sv2.2.length+1) * (2 * 128)<=2 ^ 48]<|
 let e0_:=([rv3]:List TPo)
.reg 6 [5,7] [(3,hc cv3 [] true),(4,hv (AV.d (eL TPo.e e0_))),(5,{ h:=.obj,cast:=some (AV.ref 2 ((sv2.2++e0_).length) 0 ((sv2.2++e0_).length)),obs:=[(2,(eS 7 TPo.e (sv2.2++e0_)))] })] [.cl 1 cv3 [] 4 true,.pf (ze TPo.e e0_),.e sv2.2.length,.e sv2.2.length,.pf (p:=∀ k,k<1->(AV.d (TPo.e (e0_.getD k default))).wd=7) (fun _ _=>rfl),.ev 0,.pf (zw (o:=2) (l:=sv2.2) (x:=e0_)),.pf (z10 (sz:=7) (e:=TPo.e) (l:=sv2.2) (x:=e0_))]<|
.c (sv2.1,(sv2.2++e0_))
def S_q2q (a0:TTr):SC R_q2q R_q2q :=
 let e0_:=(bx (TTr.e (⟨0,[]⟩:TTr)))
.reg 0 [] [(1,{ obs:=[(1,e0_)] })] [.pf z2e]<|
.reg 2 [] [] []<|
 let e1_:=[(1,(vp 0)),(2,(vp 1)),(3,(AV.d (eL TPo.e a0.D)))]
.sh (A:=True) (.pf trivial) e1_ e1_ [(Ob.box (AV.agg [(vi a0.M),(AV.full 0 fun _=>DV.b false)])),e0_] [(Ob.box (AV.agg [(vi a0.M),(AV.ref 2 0 0 0)])),e0_,(eS 7 TPo.e ([]:List TPo))] (fun _=>(z1t (sz:=7) (f:=fun j=>AV.d (TPo.e (([]:List TPo).getD j default))) (.box _ _ _ _ _ (y15 rfl) (TrV.agg (TrL.cons (TrV.keep _) (TrL.cons TrV.born TrL.nil))) (.keep _ _ _ _ (y15 rfl) (.nil _))))) (z16 (k:=0) rfl (TrS.keep _) (z16 (k:=1) rfl (TrS.keep _) (z16 (k:=2) rfl (TrS.keep _) z2g)))<|
.range (a0.D.length:Int) a0.D.length rfl (.slot 9) 11 [1,2,9,10] (fun (_:Int×(List TPo))=>[]) (fun sv2=>[(0,(Ob.box (AV.agg [(vi sv2.1),(AV.ref 2 sv2.2.length 0 sv2.2.length)]))),(2,(eS 7 TPo.e sv2.2))]) (a0.M,([]:List TPo)) (S_q2q_b1 a0) (fun sv2 => 
.reg 8 [] [] []<|
.kill 0<|
.r (sv2.1,sv2.2)) id
def F_q2q (a0:TTr):=(S_q2q a0).den
theorem F_q2q_ok {a0:TTr}:FO (F_q2q a0) 162 [(AV.d (TTr.e a0))] [] (fun x=>(AV.agg [(vi x.1),(AV.ref 2 x.2.length 0 x.2.length)])) (fun x=>[Ob.dead,(Ob.box (AV.agg [(vi x.1),(AV.ref 2 x.2.length 0 x.2.length)])),(eS 7 TPo.e x.2)]):=fO (s:=S_q2q a0) Tryz.func162
abbrev R_q2h:=Int×Bool
def S_q2h_b1 (a1:TPo) (p0:(List TPo)) (sv1:Int×Int):SC R_q2h (Step (Int×Int) R_q2h) :=
.ite (decide (sv1.1<sv1.2)) (
.reg 4 [] [] [.pf (p:=(0:Int)<=1) dk]<|
 let e0_:=(i64.wrap ((IntKind.u64.wrap (i64.wrap (sv1.1+sv1.2))).fdiv (2 ^ (min (1:Int).toNat IntKind.u64.bits))))
.call (@F_q30_ok (p0.getD (0+(e0_).toNat) default) a1) fun rv2 cv2=>
.guard [(0:Int)<=e0_,(e0_).toNat<p0.length,(0+(e0_).toNat)<p0.length]<|
.reg 5 [] [(6,hc cv2 [] true)] [.e p0.length,.ev 0,.ev 1,.e p0.length,.ev 2,.cl 3 cv2 [] 2 true]<|
.ite (decide (rv2<0)) (
.r (.cont ((i64.wrap (e0_+1)),sv1.2))) (
.r (.cont (sv1.1,e0_)))) (
.r (.brk (sv1.1,sv1.2)))
def S_q2h (a1:TPo) (p0:(List TPo)):SC R_q2h R_q2h :=
.iter [0,2,4,8] (fun (sv1:Int×Int)=>[(9,(vi sv1.1)),(10,(vi sv1.2))]) (fun _=>[]) (0,(p0.length:Int)) (S_q2h_b1 a1 p0) (fun sv1 =>
 let e0_:=(decide (sv1.1<(p0.length:Int)))
.calld [e0_=true] default (@F_q30_ok (p0.getD (0+(sv1.1).toNat) default) a1) fun rv3 cv3 =>
.guard [AllP [e0_=true]->((0:Int)<=sv1.1),AllP [e0_=true]->((sv1.1).toNat<p0.length),AllP [e0_=true]->((0+(sv1.1).toNat)<p0.length)]<|
.reg 8 [] [(11,hc cv3 [] true)] [.pf (p:=AllP [e0_=true]->(p0.length=p0.length)) (fun _=>rfl),.ev 0,.ev 1,.pf (p:=AllP [e0_=true]->(p0.length=p0.length)) (fun _=>rfl),.ev 2,.clg 3 [e0_=true] cv3 [] 2 true]<|
.r (sv1.1,(bif e0_ then (rv3==0) else false))) id
def F_q2h (a1:TPo) (p0:(List TPo)):=(S_q2h a1 p0).den
theorem F_q2h_ok {a1:TPo} {p0:(List TPo)}:FO (F_q2h a1 p0) 163 [(AV.ref 0 p0.length 0 p0.length),(AV.d (TPo.e a1)),(AV.fn 110 [])] [(eS 7 TPo.e p0)] (fun x=>(AV.tup [(vi x.1),(vb x.2)])) (fun _=>[(eS 7 TPo.e p0)]):=fO (s:=S_q2h a1 p0) Tryz.func163
def V_q73 (x:(List TPo)):AV:=.ref 0 x.length 0 x.length
def L_q73 (p1:List TPo) (x:(List TPo)):List Ob:=[eS 7 TPo.e x,eS 7 TPo.e p1]
def F_q73 (a1:Int) (p0 p1:List TPo):Option (List TPo):=match p1 with
 | [y]=>guardP (0<=a1/\a1.toNat<=p0.length/\(p0.length+1) * (4 * 128)<=2 ^ 48) (some (insL p0 a1.toNat y))
 | _=>none
theorem F_q73_ok {a1:Int} {p0 p1:List TPo} (r:(List TPo)) (h:F_q73 a1 p0 p1=some r):CallOk Tryz.prog 164 [(AV.ref 0 p0.length 0 p0.length),(AV.d (.i .i64 a1)),(AV.ref 1 p1.length 0 p1.length)] [(eS 7 TPo.e p0),(eS 7 TPo.e p1)] (V_q73 r) (L_q73 p1 r):=by
 unfold F_q73 at h
 split at h
 ·rename_i y
  obtain⟨⟨h1,h2,h3⟩,h⟩:=z1j h
  obtain rfl:=y10 h
  obtain⟨i,rfl⟩:∃ i:Nat,a1=(i:Int):=⟨a1.toNat,(y5b h1).symm⟩
  exact InsG.ins_ok .a (fun _=>rfl) h2 h3
 ·cases h
def S_q5t (a0:TTr) (a1:List UInt8) (a2:Int) (a3:Int):SC (TTr×Int) (TTr×Int) :=
 let e6_:=(bx (TTr.e (⟨0,[]⟩:TTr)))
.reg 0 [] [(1,{ obs:=[(1,e6_)] })] [.pf z2e]<|
.a 1 1 2 (@F_qn_ok a0) fun rv1=>
 let e5_:=(AV.d (TTr.e (⟨0,[]⟩:TTr)))
.ite (!rv1) (
.reg 2 [] [(0,hv e5_)] [.pf z1i]<|
.r ((⟨0,[]⟩:TTr),1)) (
.a 3 1 2 (@F_q74_ok a1) fun rv2=>
.ite ((rv2.length:Int)==0) (
.reg 4 [] [(0,hv e5_)] [.pf z1i]<|
.r ((⟨0,[]⟩:TTr),5)) (
.call (@F_q2a_ok a1 a2) fun rv3 cv3=>
.calld [(!rv3)=false] default (@F_qf_ok a3 (-1000000000000000) 1000000000000000) fun rv4 cv4 =>
.reg 5 [] [(2,hc cv3 [] true),(6,hc cv4 [] true)] [.cl 2 cv3 [] 2 true,.clg 0 [(!rv3)=false] cv4 [] 2 true]<|
.ite (bif (!rv3) then true else (!rv4)) (
.reg 6 [] [(0,hv e5_)] [.pf z1i]<|
.r ((⟨0,[]⟩:TTr),2)) (
.call (@F_q2q_ok a0) fun rv5 cv5=>
.k 7 1 cv5 [] 2 false<|
.kill 3<|
 let e4_:=(⟨a1,a2,0,[],[],[],[]⟩:TPo)
.reg 8 [] [(2,hv (AV.d (TPo.e e4_))),(3,{ obs:=[(5,(bx (TPo.e (⟨[],0,0,[],[],[],[]⟩:TPo))))] })] [.pf (p:=LeV (AV.d (DV.agg [(DV.str a1),(DV.i .i64 a2),(DV.i .i64 0),Z0,Z0,Z0,Z0])) (AV.d (TPo.e e4_))) (z23 rfl (DLe.agg (DLeL.cons (DLe.refl _) (DLeL.cons (DLe.refl _) (DLeL.cons (DLe.refl _) (DLeL.cons DLe.sl0 (DLeL.cons DLe.sl0 (DLeL.cons DLe.sl0 (DLeL.cons DLe.sl0 DLeL.nil))))))))),.pf cz6]<|
.call (@F_q2h_ok e4_ rv5.2) fun rv6 cv6=>
.k 9 3 cv6 [4] 6 true<|
.cut none [3,4,8,11] (fun (_:Int×(List TPo)×TPo)=>[]) (fun sv7=>[(0,(Ob.box (AV.agg [(vi sv7.1),(AV.ref 4 sv7.2.1.length 0 sv7.2.1.length)]))),(4,(eS 7 TPo.e sv7.2.1)),(5,(bx (TPo.e sv7.2.2)))]) (
.ite (!rv6.2) (
.ite ((rv5.2.length:Int)==60) (
.reg 12 [] [(0,hv e5_)] [.pf z1i]<|
.r (.ret ((⟨0,[]⟩:TTr),3))) (
.guard [(0:Int)<=rv5.1,rv5.1 * 8<=2 ^ 47]<|
 let e7_:=((List.replicate rv5.1.toNat (0:Int)).length)
.reg 13 [] [(2,{ cast:=some (AV.ref 6 e7_ 0 e7_),obs:=[(6,(eS 1 (DV.i .i64) (List.replicate rv5.1.toNat (0:Int))))] })] [.ev 0,.pf (p:=rv5.1<=rv5.1) (y1e _),.ev 1,.pf (zay (o:=6) (k:=rv5.1.toNat) (z:=(0:Int))),.pf (zaz (sz:=1) (k:=rv5.1.toNat) (e:=(DV.i .i64)) (z:=(0:Int)))]<|
.guard [(List.replicate rv5.1.toNat (0:Int)).length<2 ^ 63]<|
.frz 6 (.ev 0) none [13] []<|
 let e1_:=(⟨e4_.C,e4_.E,e4_.V,(List.replicate rv5.1.toNat (0:Int)),(List.replicate rv5.1.toNat (0:Int)),(List.replicate rv5.1.toNat (0:Int)),(List.replicate rv5.1.toNat (0:Int))⟩:TPo)
.call (@F_q3b_ok e1_) fun rv8 cv8=>
 let e9_:=([rv8]:List TPo)
.call (@F_q73_ok rv6.1 rv5.2 e9_) fun rv9 cv9=>
.reg 15 [5,6,8] [(4,hc cv8 [] true),(5,{ h:=.obj,obs:=[(7,(eS 7 TPo.e e9_))] }),(6,hc cv9 [4,7] false)] [.cl 1 cv8 [] 7 true,.pf (zj9 (sz:=7) (e:=TPo.e) (l:=e9_)),.cl 0 cv9 [4,7] 8 false]<|
.r (.next (rv5.1,rv9,e1_)))) (
.r (.next (rv5.1,rv5.2,e4_)))) fun sv7=>
 let e8_:=(0+(rv6.1).toNat)
.guard [(0:Int)<=rv6.1,(rv6.1).toNat<sv7.2.1.length,e8_<sv7.2.1.length]<|
 let e3_:=(sv7.2.1.getD e8_ default)
 let e0_:=(⟨e3_.C,e3_.E,a3,e3_.A,e3_.J,e3_.I,e3_.T⟩:TPo)
 let e2_:=(sv7.2.1.set e8_ e0_)
 let e10_:=(eS 7 TPo.e e2_)
.reg 16 [] [(6,{ obs:=[(4,e10_)] })] [.e sv7.2.1.length,.ev 0,.ev 1,.e sv7.2.1.length,.e sv7.2.1.length,.ev 2,.pf (zr (sz:=7) (e:=TPo.e) (l:=sv7.2.1) (i:=e8_) (x:=e0_) (fun _=>rfl))]<|
 let e11_:=[(4,(vp 0)),(8,(vp 1))]
.cst (A:=True) (.pf trivial) e11_ e11_ [(Ob.box (AV.agg [(vi sv7.1),(AV.ref 4 sv7.2.1.length 0 sv7.2.1.length)])),e6_,Ob.dead,Ob.dead,e10_,(bx (TPo.e sv7.2.2))] [(Ob.box (AV.agg [(vi sv7.1),(AV.ref 4 (e2_.length) 0 (e2_.length))])),e6_,Ob.dead,Ob.dead,e10_,(bx (TPo.e sv7.2.2))] (fun _=>⟨by simp +zetaDelta only,by simp +zetaDelta only[yb]⟩)<|
.guard [e2_.length<2 ^ 63]<|
.reg 17 [] [] []<|
.frz 4 (.ev 0) none [] [0,1]<|
.r ((⟨sv7.1,e2_⟩:TTr),0))))
def F_q5t (a0:TTr) (a1:List UInt8) (a2:Int) (a3:Int):=(S_q5t a0 a1 a2 a3).den
theorem F_q5t_ok {a0:TTr} {a1:List UInt8} {a2:Int} {a3:Int}:FO (F_q5t a0 a1 a2 a3) 112 [(AV.d (TTr.e a0)),(AV.d (DV.str a1)),(vi a2),(vi a3)] [] (fun x=>(AV.tup [(AV.d (TTr.e x.1)),(vi x.2)])) NL:=fO (s:=S_q5t a0 a1 a2 a3) Tryz.func112
def S_q3d (a0:(List Int)):SC (List Int) (List Int) :=
.reg 0 [] [] []<|
.nils 0 (
.guard [a0.length * (2 * 8)<=2 ^ 48]<|
.reg 1 [] [] []<|
.lev 0 (vl a0) (.pf (lvQ true a0.length fun j=>(DV.i .i64 (a0.getD j default))))<|
.br true (.pf (p:=true=true) rfl)<|
.reg 2 [] [] []<|
.bor 1 (fun j=>AV.d ((DV.i .i64) (a0.getD j default))) [2]<|
.cst (A:=a0.length=0) (.ev 1) [(2,AV.ref 0 0 0 0)] [(2,(AV.ref 0 a0.length 0 a0.length))] [(Ob.seq 1 0 fun j=>AV.d ((DV.i .i64) (a0.getD j default)))] [(eS 1 (DV.i .i64) a0)] (fun h=>⟨by rw[h],by unfold eS; rw[h]⟩)<|
.r a0) (
.reg 1 [] [] []<|
.lev 0 (vl a0) (.pf (lvQ false a0.length fun j=>(DV.i .i64 (a0.getD j default))))<|
.br false (.pf (p:=false=false) rfl)<|
.guard [a0.length * (2 * 8)<=2 ^ 48]<|
.reg 3 [] [(2,{ h:=.obj })] [.pf (p:=∀ k,k<a0.length->(AV.d ((DV.i .i64) (a0.getD k default))).wd=1) (fun _ _=>rfl),.ev 0]<|
.r a0)
def F_q3d (a0:(List Int)):=(S_q3d a0).den
theorem F_q3d_ok {a0:(List Int)}:FO (F_q3d a0) 73 [(vl a0)] [] (fun x=>(AV.ref 0 x.length 0 x.length)) (fun x=>[(eS 1 (DV.i .i64) x)]):=fO (s:=S_q3d a0) Tryz.func73
abbrev R_q5u:=List UInt8×Int×Int×(List Int)×(List Int)×(List Int)×(List Int)
def S_q5u (a0:TPo):SC R_q5u R_q5u :=
.reg 0 [] [(1,{ obs:=[(1,(bx (TPo.e (⟨[],0,0,[],[],[],[]⟩:TPo))))] })] [.pf cz6]<|
.call (@F_q3d_ok a0.A) fun rv1 cv1=>
.call (@F_q3d_ok a0.J) fun rv2 cv2=>
.call (@F_q3d_ok a0.I) fun rv3 cv3=>
.call (@F_q3d_ok a0.T) fun rv4 cv4=>
.reg 1 [2,5,8,11,13,15,17,19] [(2,hc cv1 [] false),(5,hc cv2 [] false),(8,hc cv3 [] false),(11,hc cv4 [] false)] [.cl 3 cv1 [] 2 false,.cl 2 cv2 [] 3 false,.cl 1 cv3 [] 4 false,.cl 0 cv4 [] 5 false]<|
.reg 2 [] [] []<|
.kill 0<|
.r (a0.C,a0.E,a0.V,rv1,rv2,rv3,rv4)
def F_q5u (a0:TPo):=(S_q5u a0).den
theorem F_q5u_ok {a0:TPo}:FO (F_q5u a0) 77 [(AV.d (TPo.e a0))] [] (fun x=>(AV.agg [(AV.d (DV.str x.1)),(vi x.2.1),(vi x.2.2.1),(AV.ref 2 x.2.2.2.1.length 0 x.2.2.2.1.length),(AV.ref 3 x.2.2.2.2.1.length 0 x.2.2.2.2.1.length),(AV.ref 4 x.2.2.2.2.2.1.length 0 x.2.2.2.2.2.1.length),(AV.ref 5 x.2.2.2.2.2.2.length 0 x.2.2.2.2.2.2.length)])) (fun x=>[Ob.dead,(Ob.box (AV.agg [(AV.d (DV.str x.1)),(vi x.2.1),(vi x.2.2.1),(AV.ref 2 x.2.2.2.1.length 0 x.2.2.2.1.length),(AV.ref 3 x.2.2.2.2.1.length 0 x.2.2.2.2.1.length),(AV.ref 4 x.2.2.2.2.2.1.length 0 x.2.2.2.2.2.1.length),(AV.ref 5 x.2.2.2.2.2.2.length 0 x.2.2.2.2.2.2.length)])),(eS 1 (DV.i .i64) x.2.2.2.1),(eS 1 (DV.i .i64) x.2.2.2.2.1),(eS 1 (DV.i .i64) x.2.2.2.2.2.1),(eS 1 (DV.i .i64) x.2.2.2.2.2.2)]):=fO (s:=S_q5u a0) Tryz.func77
end
end Go.Proofs.YtdmddkbngmhepaaGreatDoor
/- What the functions compute,and that their calls return it. No condition. -/
namespace Go.Proofs.YtdmddkbngmhepaaGreatDoor
open Go Go.TA
open Go.IntKind (i64)
noncomputable section
set_option maxRecDepth 100000
abbrev R_q21:=Int×(List TPo)
def S_q21_b1 (a0:TTr) (i0:Nat) (iv1:Nat) (sv2:Int×(List TPo)):SC R_q21 (Step (Int×(List TPo)) R_q21) :=
.reg 5 [] [(2,{ obs:=[(7,(bx (TPo.e (⟨[],0,0,[],[],[],[]⟩:TPo))))] })] [.w iv1,.ev 0,.pf cz6]<|
.call (@F_q5u_ok (a0.D.getD iv1 default)) fun rv3 cv3=>
.guard [(sv2.2.length+1) * (2 * 128)<=2 ^ 48]<|
.reg 6 [3,4,5,7] [(3,hc cv3 [] false),(4,{ h:=.obj }),(5,{ h:=.obj,cast:=some (AV.ref 2 ((sv2.2++[(⟨rv3.1,rv3.2.1,rv3.2.2.1,rv3.2.2.2.1,rv3.2.2.2.2.1,rv3.2.2.2.2.2.1,rv3.2.2.2.2.2.2⟩:TPo)]).length) 0 ((sv2.2++[(⟨rv3.1,rv3.2.1,rv3.2.2.1,rv3.2.2.2.1,rv3.2.2.2.2.1,rv3.2.2.2.2.2.1,rv3.2.2.2.2.2.2⟩:TPo)]).length)),obs:=[(2,(Ob.seq 7 ((sv2.2++[(⟨rv3.1,rv3.2.1,rv3.2.2.1,rv3.2.2.2.1,rv3.2.2.2.2.1,rv3.2.2.2.2.2.1,rv3.2.2.2.2.2.2⟩:TPo)]).length) (catF sv2.2.length (fun j=>AV.sel (decide (j=i0)) 7 (AV.agg [(AV.d (DV.str (sv2.2.getD i0 default).C)),(vi (sv2.2.getD i0 default).E),(vi (sv2.2.getD i0 default).V),(rr 3 (sv2.2.getD i0 default).A),(rr 4 (sv2.2.getD i0 default).J),(rr 5 (sv2.2.getD i0 default).I),(rr 6 (sv2.2.getD i0 default).T)]) (AV.d (TPo.e (sv2.2.getD j default)))) (listF AV.bot [(AV.agg [(AV.d (DV.str rv3.1)),(vi rv3.2.1),(vi rv3.2.2.1),(rr 10 rv3.2.2.2.1),(rr 11 rv3.2.2.2.2.1),(rr 12 rv3.2.2.2.2.2.1),(rr 13 rv3.2.2.2.2.2.2)])]))))] })] [.cl 1 cv3 [] 8 false,.e 1,.e sv2.2.length,.e sv2.2.length,.pf (p:=∀ k,k<1->(listF AV.bot [(AV.agg [(AV.d (DV.str rv3.1)),(vi rv3.2.1),(vi rv3.2.2.1),(rr 10 rv3.2.2.2.1),(rr 11 rv3.2.2.2.2.1),(rr 12 rv3.2.2.2.2.2.1),(rr 13 rv3.2.2.2.2.2.2)])] k).wd=7) (fun k hk=>by obtain rfl:k=0:=om; rfl),.ev 0,.pf (zw (o:=2) (l:=sv2.2) (x:=[(⟨rv3.1,rv3.2.1,rv3.2.2.1,rv3.2.2.2.1,rv3.2.2.2.2.1,rv3.2.2.2.2.2.1,rv3.2.2.2.2.2.2⟩:TPo)])),.pf (p:=OLe (Ob.seq 7 (sv2.2.length+1) (catF sv2.2.length (fun j=>AV.sel (decide (j=i0)) 7 (AV.agg [(AV.d (DV.str (sv2.2.getD i0 default).C)),(vi (sv2.2.getD i0 default).E),(vi (sv2.2.getD i0 default).V),(rr 3 (sv2.2.getD i0 default).A),(rr 4 (sv2.2.getD i0 default).J),(rr 5 (sv2.2.getD i0 default).I),(rr 6 (sv2.2.getD i0 default).T)]) (AV.d (TPo.e (sv2.2.getD j default)))) (listF AV.bot [(AV.agg [(AV.d (DV.str rv3.1)),(vi rv3.2.1),(vi rv3.2.2.1),(rr 10 rv3.2.2.2.1),(rr 11 rv3.2.2.2.2.1),(rr 12 rv3.2.2.2.2.2.1),(rr 13 rv3.2.2.2.2.2.2)])]))) (Ob.seq 7 ((sv2.2++[(⟨rv3.1,rv3.2.1,rv3.2.2.1,rv3.2.2.2.1,rv3.2.2.2.2.1,rv3.2.2.2.2.2.1,rv3.2.2.2.2.2.2⟩:TPo)]).length) (catF sv2.2.length (fun j=>AV.sel (decide (j=i0)) 7 (AV.agg [(AV.d (DV.str (sv2.2.getD i0 default).C)),(vi (sv2.2.getD i0 default).E),(vi (sv2.2.getD i0 default).V),(rr 3 (sv2.2.getD i0 default).A),(rr 4 (sv2.2.getD i0 default).J),(rr 5 (sv2.2.getD i0 default).I),(rr 6 (sv2.2.getD i0 default).T)]) (AV.d (TPo.e (sv2.2.getD j default)))) (listF AV.bot [(AV.agg [(AV.d (DV.str rv3.1)),(vi rv3.2.1),(vi rv3.2.2.1),(rr 10 rv3.2.2.2.1),(rr 11 rv3.2.2.2.2.1),(rr 12 rv3.2.2.2.2.2.1),(rr 13 rv3.2.2.2.2.2.2)])])))) (zja sj)]<|
 let e0_:=(⟨rv3.1,rv3.2.1,rv3.2.2.1,rv3.2.2.2.1,rv3.2.2.2.2.1,rv3.2.2.2.2.2.1,rv3.2.2.2.2.2.2⟩:TPo)
.guard [((sv2.2.length=i0->0<e0_.A.length/\0<e0_.J.length/\0<e0_.I.length/\0<e0_.T.length)/\(e0_.A.length<2 ^ 63/\e0_.J.length<2 ^ 63/\e0_.I.length<2 ^ 63/\e0_.T.length<2 ^ 63))]<|
.sh (A:=((sv2.2.length=i0->0<(⟨rv3.1,rv3.2.1,rv3.2.2.1,rv3.2.2.2.1,rv3.2.2.2.2.1,rv3.2.2.2.2.2.1,rv3.2.2.2.2.2.2⟩:TPo).A.length/\0<(⟨rv3.1,rv3.2.1,rv3.2.2.1,rv3.2.2.2.1,rv3.2.2.2.2.1,rv3.2.2.2.2.2.1,rv3.2.2.2.2.2.2⟩:TPo).J.length/\0<(⟨rv3.1,rv3.2.1,rv3.2.2.1,rv3.2.2.2.1,rv3.2.2.2.2.1,rv3.2.2.2.2.2.1,rv3.2.2.2.2.2.2⟩:TPo).I.length/\0<(⟨rv3.1,rv3.2.1,rv3.2.2.1,rv3.2.2.2.1,rv3.2.2.2.2.1,rv3.2.2.2.2.2.1,rv3.2.2.2.2.2.2⟩:TPo).T.length)/\((⟨rv3.1,rv3.2.1,rv3.2.2.1,rv3.2.2.2.1,rv3.2.2.2.2.1,rv3.2.2.2.2.2.1,rv3.2.2.2.2.2.2⟩:TPo).A.length<2 ^ 63/\(⟨rv3.1,rv3.2.1,rv3.2.2.1,rv3.2.2.2.1,rv3.2.2.2.2.1,rv3.2.2.2.2.2.1,rv3.2.2.2.2.2.2⟩:TPo).J.length<2 ^ 63/\(⟨rv3.1,rv3.2.1,rv3.2.2.1,rv3.2.2.2.1,rv3.2.2.2.2.1,rv3.2.2.2.2.2.1,rv3.2.2.2.2.2.2⟩:TPo).I.length<2 ^ 63/\(⟨rv3.1,rv3.2.1,rv3.2.2.1,rv3.2.2.2.1,rv3.2.2.2.2.1,rv3.2.2.2.2.2.1,rv3.2.2.2.2.2.2⟩:TPo).T.length<2 ^ 63))) (.ev 0) [(1,(vp 0)),(2,(vp 1)),(9,(AV.d (eL TPo.e a0.D))),(10,(vi (a0.D.length:Int))),(11,(vi (iv1:Int)))] [(1,(vp 0)),(2,(vp 1)),(9,(AV.d (eL TPo.e a0.D))),(10,(vi (a0.D.length:Int))),(11,(vi (iv1:Int)))] [(Ob.box (AV.agg [(vi sv2.1),(AV.ref 2 ((sv2.2++[(⟨rv3.1,rv3.2.1,rv3.2.2.1,rv3.2.2.2.1,rv3.2.2.2.2.1,rv3.2.2.2.2.2.1,rv3.2.2.2.2.2.2⟩:TPo)]).length) 0 ((sv2.2++[(⟨rv3.1,rv3.2.1,rv3.2.2.1,rv3.2.2.2.1,rv3.2.2.2.2.1,rv3.2.2.2.2.2.1,rv3.2.2.2.2.2.2⟩:TPo)]).length))])),(bx (TTr.e (⟨0,[]⟩:TTr))),(Ob.seq 7 (sv2.2++[(⟨rv3.1,rv3.2.1,rv3.2.2.1,rv3.2.2.2.1,rv3.2.2.2.2.1,rv3.2.2.2.2.2.1,rv3.2.2.2.2.2.2⟩:TPo)]).length (catF sv2.2.length (fun j=>AV.sel (decide (j=i0)) 7 (AV.agg [(AV.d (DV.str (sv2.2.getD i0 default).C)),(vi (sv2.2.getD i0 default).E),(vi (sv2.2.getD i0 default).V),(rr 3 (sv2.2.getD i0 default).A),(rr 4 (sv2.2.getD i0 default).J),(rr 5 (sv2.2.getD i0 default).I),(rr 6 (sv2.2.getD i0 default).T)]) (AV.d (TPo.e (sv2.2.getD j default)))) (listF AV.bot [(AV.agg [(AV.d (DV.str rv3.1)),(vi rv3.2.1),(vi rv3.2.2.1),(rr 10 rv3.2.2.2.1),(rr 11 rv3.2.2.2.2.1),(rr 12 rv3.2.2.2.2.2.1),(rr 13 rv3.2.2.2.2.2.2)])]))),(eQ (opQ TPo.A i0 sv2.2)),(eQ (opQ TPo.J i0 sv2.2)),(eQ (opQ TPo.I i0 sv2.2)),(eQ (opQ TPo.T i0 sv2.2)),(bx (TPo.e (a0.D.getD iv1 default))),Ob.dead,(Ob.box (AV.agg [(AV.d (DV.str rv3.1)),(vi rv3.2.1),(vi rv3.2.2.1),(rr 10 rv3.2.2.2.1),(rr 11 rv3.2.2.2.2.1),(rr 12 rv3.2.2.2.2.2.1),(rr 13 rv3.2.2.2.2.2.2)])),(eQ (⟨rv3.1,rv3.2.1,rv3.2.2.1,rv3.2.2.2.1,rv3.2.2.2.2.1,rv3.2.2.2.2.2.1,rv3.2.2.2.2.2.2⟩:TPo).A),(eQ (⟨rv3.1,rv3.2.1,rv3.2.2.1,rv3.2.2.2.1,rv3.2.2.2.2.1,rv3.2.2.2.2.2.1,rv3.2.2.2.2.2.2⟩:TPo).J),(eQ (⟨rv3.1,rv3.2.1,rv3.2.2.1,rv3.2.2.2.1,rv3.2.2.2.2.1,rv3.2.2.2.2.2.1,rv3.2.2.2.2.2.2⟩:TPo).I),(eQ (⟨rv3.1,rv3.2.1,rv3.2.2.1,rv3.2.2.2.1,rv3.2.2.2.2.1,rv3.2.2.2.2.2.1,rv3.2.2.2.2.2.2⟩:TPo).T),(Ob.seq 7 1 (listF AV.bot [(AV.agg [(AV.d (DV.str rv3.1)),(vi rv3.2.1),(vi rv3.2.2.1),(rr 10 rv3.2.2.2.1),(rr 11 rv3.2.2.2.2.1),(rr 12 rv3.2.2.2.2.2.1),(rr 13 rv3.2.2.2.2.2.2)])]))] [(Ob.box (AV.agg [(vi sv2.1),(AV.ref 2 ((sv2.2++[(⟨rv3.1,rv3.2.1,rv3.2.2.1,rv3.2.2.2.1,rv3.2.2.2.2.1,rv3.2.2.2.2.2.1,rv3.2.2.2.2.2.2⟩:TPo)]).length) 0 ((sv2.2++[(⟨rv3.1,rv3.2.1,rv3.2.2.1,rv3.2.2.2.1,rv3.2.2.2.2.1,rv3.2.2.2.2.2.1,rv3.2.2.2.2.2.2⟩:TPo)]).length))])),(bx (TTr.e (⟨0,[]⟩:TTr))),(oTApiPot.R 3 i0 (sv2.2++[(⟨rv3.1,rv3.2.1,rv3.2.2.1,rv3.2.2.2.1,rv3.2.2.2.2.1,rv3.2.2.2.2.2.1,rv3.2.2.2.2.2.2⟩:TPo)])),(eQ (opQ TPo.A i0 (sv2.2++[(⟨rv3.1,rv3.2.1,rv3.2.2.1,rv3.2.2.2.1,rv3.2.2.2.2.1,rv3.2.2.2.2.2.1,rv3.2.2.2.2.2.2⟩:TPo)]))),(eQ (opQ TPo.J i0 (sv2.2++[(⟨rv3.1,rv3.2.1,rv3.2.2.1,rv3.2.2.2.1,rv3.2.2.2.2.1,rv3.2.2.2.2.2.1,rv3.2.2.2.2.2.2⟩:TPo)]))),(eQ (opQ TPo.I i0 (sv2.2++[(⟨rv3.1,rv3.2.1,rv3.2.2.1,rv3.2.2.2.1,rv3.2.2.2.2.1,rv3.2.2.2.2.2.1,rv3.2.2.2.2.2.2⟩:TPo)]))),(eQ (opQ TPo.T i0 (sv2.2++[(⟨rv3.1,rv3.2.1,rv3.2.2.1,rv3.2.2.2.1,rv3.2.2.2.2.1,rv3.2.2.2.2.2.1,rv3.2.2.2.2.2.2⟩:TPo)]))),(bx (TPo.e (a0.D.getD iv1 default))),Ob.dead,(Ob.box (AV.agg [(AV.d (DV.str rv3.1)),(vi rv3.2.1),(vi rv3.2.2.1),(rr 10 rv3.2.2.2.1),(rr 11 rv3.2.2.2.2.1),(rr 12 rv3.2.2.2.2.2.1),(rr 13 rv3.2.2.2.2.2.2)])),Ob.dead,Ob.dead,Ob.dead,Ob.dead,(Ob.seq 7 1 (listF AV.bot [(AV.agg [(AV.d (DV.str rv3.1)),(vi rv3.2.1),(vi rv3.2.2.1),(rr 10 rv3.2.2.2.1),(rr 11 rv3.2.2.2.2.1),(rr 12 rv3.2.2.2.2.2.1),(rr 13 rv3.2.2.2.2.2.2)])]))] (fun h=>za2 oTApiPot (P:=[(Ob.box (AV.agg [(vi sv2.1),(AV.ref 2 ((sv2.2++[(⟨rv3.1,rv3.2.1,rv3.2.2.1,rv3.2.2.2.1,rv3.2.2.2.2.1,rv3.2.2.2.2.2.1,rv3.2.2.2.2.2.2⟩:TPo)]).length) 0 ((sv2.2++[(⟨rv3.1,rv3.2.1,rv3.2.2.1,rv3.2.2.2.1,rv3.2.2.2.2.1,rv3.2.2.2.2.2.1,rv3.2.2.2.2.2.2⟩:TPo)]).length))])),(bx (TTr.e (⟨0,[]⟩:TTr)))]) (D:=[(bx (TPo.e (a0.D.getD iv1 default))),Ob.dead,(Ob.box (AV.agg [(AV.d (DV.str rv3.1)),(vi rv3.2.1),(vi rv3.2.2.1),(rr 10 rv3.2.2.2.1),(rr 11 rv3.2.2.2.2.1),(rr 12 rv3.2.2.2.2.2.1),(rr 13 rv3.2.2.2.2.2.2)]))]) (E:=[(Ob.seq 7 1 (listF AV.bot [(AV.agg [(AV.d (DV.str rv3.1)),(vi rv3.2.1),(vi rv3.2.2.1),(rr 10 rv3.2.2.2.1),(rr 11 rv3.2.2.2.2.1),(rr 12 rv3.2.2.2.2.2.1),(rr 13 rv3.2.2.2.2.2.2)])]))]) (i:=i0) (l:=sv2.2) (x:=(⟨rv3.1,rv3.2.1,rv3.2.2.1,rv3.2.2.2.1,rv3.2.2.2.2.1,rv3.2.2.2.2.2.1,rv3.2.2.2.2.2.2⟩:TPo)) rfl rfl (fun j hj=>z1n hj) (by rw[z1q (yf _),y52]; rfl) h.1 h.2) (z26 _)<|
.c (sv2.1,sv2.2++[e0_])
def S_q21 (a0:TTr) (i0:Nat):SC R_q21 R_q21 :=
 let e2_:=(bx (TTr.e (⟨0,[]⟩:TTr)))
.reg 0 [] [(1,{ obs:=[(1,e2_)] })] [.pf z2e]<|
.reg 2 [] [] []<|
 let e0_:=(([]:List TPo).getD i0 default)
 let e1_:=[(1,(vp 0)),(2,(vp 1)),(3,(AV.d (eL TPo.e a0.D)))]
 let e6_:=(AV.agg [(vi a0.M),(AV.ref 2 0 0 0)])
 let e3_:=[(Ob.box e6_),e2_,(oTApiPot.R 3 i0 [])]
.sh (A:=True) (.pf trivial) e1_ e1_ [(Ob.box (AV.agg [(vi a0.M),(AV.full 0 fun _=>DV.b false)])),e2_] e3_ (fun _=>(z1t (sz:=7) (f:=(fun j=>AV.sel (decide (j=i0)) 7 (AV.agg [(AV.d (DV.str e0_.C)),(vi e0_.E),(vi e0_.V),(rr 3 e0_.A),(rr 4 e0_.J),(rr 5 e0_.I),(rr 6 e0_.T)]) (AV.d (TPo.e (([]:List TPo).getD j default))))) (.box _ _ _ _ _ (y15 rfl) (TrV.agg (TrL.cons (TrV.keep _) (TrL.cons TrV.born TrL.nil))) (.keep _ _ _ _ (y15 rfl) (.nil _))))) (z16 (k:=0) rfl (TrS.keep _) (z16 (k:=1) rfl (TrS.keep _) (z16 (k:=2) rfl (TrS.keep _) z2g)))<|
.sh (A:=True) (.pf trivial) e1_ e1_ e3_ [(Ob.box e6_),e2_,(oTApiPot.R 3 i0 []),(eQ (opQ TPo.A i0 ([]:List TPo))),(eQ (opQ TPo.J i0 ([]:List TPo))),(eQ (opQ TPo.I i0 ([]:List TPo))),(eQ (opQ TPo.T i0 ([]:List TPo)))] (fun _=>zbo) (z26 _)<|
.range (a0.D.length:Int) a0.D.length rfl (.slot 9) 11 [1,2,9,10] (fun (_:Int×(List TPo))=>[]) (fun sv2=>[(0,(Ob.box (AV.agg [(vi sv2.1),(AV.ref 2 sv2.2.length 0 sv2.2.length)]))),(2,(oTApiPot.R 3 i0 sv2.2)),(3,(eQ (opQ TPo.A i0 sv2.2))),(4,(eQ (opQ TPo.J i0 sv2.2))),(5,(eQ (opQ TPo.I i0 sv2.2))),(6,(eQ (opQ TPo.T i0 sv2.2)))]) (a0.M,([]:List TPo)) (S_q21_b1 a0 i0) (fun sv2 => 
.reg 8 [] [] []<|
.kill 0<|
.guard [i0<sv2.2.length]<|
 let e4_:=(AV.agg [(vi sv2.1),(AV.ref 2 sv2.2.length 0 sv2.2.length)])
 let e5_:=(sv2.2.getD i0 default)
.cst (A:=i0<sv2.2.length) (.ev 0) [(2,(vp 1))] [(2,(vp 1))] [Ob.dead,(Ob.box e4_),(oTApiPot.R 3 i0 sv2.2),(eQ (opQ TPo.A i0 sv2.2)),(eQ (opQ TPo.J i0 sv2.2)),(eQ (opQ TPo.I i0 sv2.2)),(eQ (opQ TPo.T i0 sv2.2))] [Ob.dead,(Ob.box e4_),(oTApiPot.R 3 i0 sv2.2),(eQ e5_.A),(eQ e5_.J),(eQ e5_.I),(eQ e5_.T)] (fun h=>⟨rfl,by simp +zetaDelta only[zmd h]⟩)<|
.r (sv2.1,sv2.2)) id
def F_q21 (a0:TTr) (i0:Nat):=(S_q21 a0 i0).den
theorem F_q21_ok {a0:TTr} {i0:Nat}:FO (F_q21 a0 i0) 162 [(AV.d (TTr.e a0))] [] (fun x=>(AV.agg [(vi x.1),(AV.ref 2 x.2.length 0 x.2.length)])) (fun x=>[Ob.dead,(Ob.box (AV.agg [(vi x.1),(AV.ref 2 x.2.length 0 x.2.length)])),(opS 7 TPo.e i0 (AV.agg [(AV.d (DV.str (x.2.getD i0 default).C)),(vi (x.2.getD i0 default).E),(vi (x.2.getD i0 default).V),(rr 3 (x.2.getD i0 default).A),(rr 4 (x.2.getD i0 default).J),(rr 5 (x.2.getD i0 default).I),(rr 6 (x.2.getD i0 default).T)]) x.2),(eQ (x.2.getD i0 default).A),(eQ (x.2.getD i0 default).J),(eQ (x.2.getD i0 default).I),(eQ (x.2.getD i0 default).T)]):=fO (s:=S_q21 a0 i0) Tryz.func162
def S_q2t (a0:TPo):SC Int Int :=
 let e0_:=(if (a0.J.length:Int)<(a0.A.length:Int) then (a0.J.length:Int) else (a0.A.length:Int))
 let e1_:=((e0_).toNat)
.call (@F_qx_ok (a0.A.take e1_)) fun rv1 cv1=>
.call (@F_qx_ok (a0.J.take e1_)) fun rv2 cv2=>
.guard [(0:Int)<=e0_,(e0_).toNat<=a0.A.length,(e0_).toNat<=a0.J.length]<|
.reg 2 [] [(3,hv (vl (a0.A.take e1_))),(4,hc cv1 [] true),(8,hv (vl (a0.J.take e1_))),(9,hc cv2 [] true)] [.ev 0,.ev 1,.der (fun (h0:(e0_).toNat<=a0.A.length)=>lvT (DV.i .i64) a0.A h0) 1,.cl 4 cv1 [] 1 true,.ev 0,.ev 2,.der (fun (h0:(e0_).toNat<=a0.J.length)=>lvT (DV.i .i64) a0.J h0) 2,.cl 3 cv2 [] 1 true]<|
.r (i64.wrap (rv1-rv2))
def F_q2t (a0:TPo):=(S_q2t a0).den
theorem F_q2t_ok {a0:TPo}:FO (F_q2t a0) 81 [(AV.d (TPo.e a0))] [] vi NL:=fO (s:=S_q2t a0) Tryz.func81
def S_q5v (a0:TPo):SC Int Int :=
.a 1 3 1 (@F_q2t_ok a0) fun rv1=>
.r (i64.wrap (a0.V-rv1))
def F_q5v (a0:TPo):=(S_q5v a0).den
theorem F_q5v_ok {a0:TPo}:FO (F_q5v a0) 205 [(AV.d (TPo.e a0))] [] vi NL:=fO (s:=S_q5v a0) Tryz.func205
abbrev R_q1e:=Int×(List Int)
def S_q1e_b1 (a1:(List Int)) (p0_0:Nat) (p0_1:(List TPo)) (p1:(List Int)) (iv1:Nat) (sv2:(List Int)):SC R_q1e (Step ((List Int)) R_q1e) :=
.reg 8 [] [] [.w iv1,.ev 0]<|
.guard [sv2.length=p1.length,iv1<p1.length,(0+iv1)<sv2.length]<|
 let e0_:=(i64.wrap ((sv2.getD (0+iv1) default)+(a1.getD iv1 default)))
.reg 9 [] [(10,{ obs:=[(1,(eS 1 (DV.i .i64) (sv2.set (0+iv1) e0_)))] })] [.e p0_1.length,.e p0_1.length,.ev 8,.pf (p:=decide (p0_0=p0_0)=true) (ye rfl),.ev 0,.w iv1,.ev 1,.ev 0,.ev 2,.ev 0,.w iv1,.ev 1,.ev 0,.ev 2,.pf (zr (sz:=1) (e:=(DV.i .i64)) (l:=sv2) (i:=(0+iv1)) (x:=e0_) (fun _=>rfl))]<|
.c (sv2.set (0+iv1) e0_)
def S_q1e (a1:(List Int)) (p0_0:Nat) (p0_1:(List TPo)) (p0_2:List UInt8) (p0_3:Int) (p0_4:Int) (p1:(List Int)) (p2:(List Int)) (p3:(List Int)) (p4:(List Int)):SC R_q1e R_q1e :=
.a 1 1 5 (@F_qx_ok a1) fun rv3=>
 let e0_:=(AV.ref 0 p1.length 0 p1.length)
.call (lendOk (xs:=[(AV.agg [(AV.d (DV.str p0_2)),(vi p0_3),(vi p0_4),e0_,(AV.ref 1 p2.length 0 p2.length),(AV.ref 2 p3.length 0 p3.length),(AV.ref 3 p4.length 0 p4.length)])]) (L:=[(eS 1 (DV.i .i64) p1),(eS 1 (DV.i .i64) p2),(eS 1 (DV.i .i64) p3),(eS 1 (DV.i .i64) p4)]) (g:=p1.length<2 ^ 63/\p2.length<2 ^ 63/\p3.length<2 ^ 63/\p4.length<2 ^ 63) (@F_q5v_ok (⟨p0_2,p0_3,p0_4,p1,p2,p3,p4⟩:TPo)) (fun _=>rfl) (fun hg=>(LendVs.cons (LendS.agg (ys:=[(DV.str p0_2),(DV.i .i64 p0_3),(DV.i .i64 p0_4),(eL (DV.i .i64) p1),(eL (DV.i .i64) p2),(eL (DV.i .i64) p3),(eL (DV.i .i64) p4)]) (LendL.cons LendV.d (LendL.cons LendV.d (LendL.cons LendV.d (LendL.cons (LendV.ref (sz:=1) (g:=fun j=>(DV.i .i64) (p1.getD j default)) rfl hg.1) (LendL.cons (LendV.ref (sz:=1) (g:=fun j=>(DV.i .i64) (p2.getD j default)) rfl hg.2.1) (LendL.cons (LendV.ref (sz:=1) (g:=fun j=>(DV.i .i64) (p3.getD j default)) rfl hg.2.2.1) (LendL.cons (LendV.ref (sz:=1) (g:=fun j=>(DV.i .i64) (p4.getD j default)) rfl hg.2.2.2) LendL.nil)))))))) LendVs.nil)) (fun _=>FlatV.i)) fun rv4 cv4=>
.guard [p0_0<p0_1.length]<|
.reg 2 [] [(4,hc cv4 [1,2,3,4] true)] [.e p0_1.length,.ev 0,.pf (p:=decide (p0_0=p0_0)=true) (ye rfl),.cl 1 cv4 [1,2,3,4] 5 true]<|
.ite (decide (rv3>rv4)) (
.r (15,p1)) (
.call (lendOk (xs:=[e0_]) (L:=[(eS 1 (DV.i .i64) p1)]) (g:=p1.length<2 ^ 63) (@F_qx_ok p1) (fun _=>rfl) (fun hg=>(LendVs.cons (LendS.one rfl rfl rfl (LendV.ref (sz:=1) (g:=fun j=>(DV.i .i64) (p1.getD j default)) rfl hg)) LendVs.nil)) (fun _=>FlatV.i)) fun rv5 cv5=>
.reg 4 [] [(4,hc cv5 [1] true)] [.e p0_1.length,.e p0_1.length,.ev 2,.pf (p:=decide (p0_0=p0_0)=true) (ye rfl),.cl 0 cv5 [1] 5 true]<|
.ite (decide ((i64.wrap (rv5+rv3))>1000000000000000)) (
.r (3,p1)) (
.range (a1.length:Int) a1.length rfl (.slot 26) 28 [0,26,27] (fun (_:(List Int))=>[]) (fun sv2=>[(1,(eS 1 (DV.i .i64) sv2))]) p1 (S_q1e_b1 a1 p0_0 p0_1 p1) (fun sv2 => 
.r (0,sv2)) id))
def F_q1e (a1:(List Int)) (p0_0:Nat) (p0_1:(List TPo)) (p0_2:List UInt8) (p0_3:Int) (p0_4:Int) (p1:(List Int)) (p2:(List Int)) (p3:(List Int)) (p4:(List Int)):=(S_q1e a1 p0_0 p0_1 p0_2 p0_3 p0_4 p1 p2 p3 p4).den
theorem F_q1e_ok {a1:(List Int)} {p0_0:Nat} {p0_1:(List TPo)} {p0_2:List UInt8} {p0_3:Int} {p0_4:Int} {p1:(List Int)} {p2:(List Int)} {p3:(List Int)} {p4:(List Int)}:FO (F_q1e a1 p0_0 p0_1 p0_2 p0_3 p0_4 p1 p2 p3 p4) 167 [(AV.ptr 0 p0_1.length [.x p0_0 7]),(vl a1)] [(opS 7 TPo.e p0_0 (AV.agg [(AV.d (DV.str p0_2)),(vi p0_3),(vi p0_4),(AV.ref 1 p1.length 0 p1.length),(AV.ref 2 p2.length 0 p2.length),(AV.ref 3 p3.length 0 p3.length),(AV.ref 4 p4.length 0 p4.length)]) p0_1),(eS 1 (DV.i .i64) p1),(eS 1 (DV.i .i64) p2),(eS 1 (DV.i .i64) p3),(eS 1 (DV.i .i64) p4)] (fun x=>(vi x.1)) (fun x=>[(opS 7 TPo.e p0_0 (AV.agg [(AV.d (DV.str p0_2)),(vi p0_3),(vi p0_4),(AV.ref 1 p1.length 0 p1.length),(AV.ref 2 p2.length 0 p2.length),(AV.ref 3 p3.length 0 p3.length),(AV.ref 4 p4.length 0 p4.length)]) p0_1),(eS 1 (DV.i .i64) x.2),(eS 1 (DV.i .i64) p2),(eS 1 (DV.i .i64) p3),(eS 1 (DV.i .i64) p4)]):=fO (s:=S_q1e a1 p0_0 p0_1 p0_2 p0_3 p0_4 p1 p2 p3 p4) Tryz.func167
abbrev R_q4g:=Int×(List Int)
def S_q4g (p0_0:Nat) (p0_1:(List TPo)) (p0_2:List UInt8) (p0_3:Int) (p0_4:Int) (p1:Int) (p2:Int) (p3:(List Int)) (p4:(List Int)) (p5:(List Int)) (p6:(List Int)):SC R_q4g R_q4g :=
 let e3_:=(p3.length:Int)
.call (@F_qf_ok p1 1 e3_) fun rv1 cv1=>
.guard [p0_0<p0_1.length]<|
.reg 1 [] [(6,hc cv1 [] true)] [.e p0_1.length,.e p0_1.length,.ev 0,.pf (p:=decide (p0_0=p0_0)=true) (ye rfl),.cl 1 cv1 [] 7 true]<|
.ite (!rv1) (
.r (6,p3)) (
.a 3 1 7 (@F_qf_ok p2 1 1000000000000000) fun rv2=>
.ite (!rv2) (
.r (2,p3)) (
.guard [e3_ * 8<=2 ^ 47]<|
 let e1_:=((List.replicate (e3_.toNat) (0:Int)).length)
.reg 5 [] [(5,{ cast:=some (AV.ref 7 e1_ 0 e1_),obs:=[(7,(eS 1 (DV.i .i64) (List.replicate (e3_.toNat) (0:Int))))] })] [.e p0_1.length,.e p0_1.length,.ev 4,.pf (p:=decide (p0_0=p0_0)=true) (ye rfl),.pf (nn p3.length),.pf (p:=e3_<=e3_) (y1e _),.ev 0,.pf (zay (o:=7) (k:=e3_.toNat) (z:=(0:Int))),.pf (zaz (sz:=1) (k:=e3_.toNat) (e:=(DV.i .i64)) (z:=(0:Int)))]<|
 let e4_:=(i64.wrap (p1-1))
 let e7_:=(0+(e4_).toNat)
.guard [(0:Int)<=e4_,(e4_).toNat<(List.replicate (e3_.toNat) (0:Int)).length,e7_<(List.replicate (e3_.toNat) (0:Int)).length]<|
 let e0_:=((List.replicate (e3_.toNat) (0:Int)).set e7_ p2)
 let e5_:=(eS 1 (DV.i .i64) e0_)
.reg 6 [] [(5,{ obs:=[(7,e5_)] })] [.e e1_,.ev 0,.ev 1,.e e1_,.ev 2,.pf (zr (sz:=1) (e:=(DV.i .i64)) (l:=(List.replicate (e3_.toNat) (0:Int))) (i:=e7_) (x:=p2) (fun _=>rfl))]<|
 let e2_:=(AV.agg [(AV.d (DV.str p0_2)),(vi p0_3),(vi p0_4),(AV.ref 3 p3.length 0 p3.length),(AV.ref 4 p4.length 0 p4.length),(AV.ref 5 p5.length 0 p5.length),(AV.ref 6 p6.length 0 p6.length)])
 let e6_:=(0,(AV.ptr 0 p0_1.length [.x p0_0 7]))
.cst (A:=True) (.pf trivial) [e6_,(5,(AV.ref 7 e1_ 0 e1_))] [e6_,(5,(AV.ref 7 (e0_.length) 0 (e0_.length)))] [(opS 7 TPo.e p0_0 e2_ p0_1),(Ob.box (vi p1)),(Ob.box (vi p2)),(eS 1 (DV.i .i64) p3),(eS 1 (DV.i .i64) p4),(eS 1 (DV.i .i64) p5),(eS 1 (DV.i .i64) p6),e5_] [(opS 7 TPo.e p0_0 e2_ p0_1),(Ob.box (vi p1)),(Ob.box (vi p2)),(eS 1 (DV.i .i64) p3),(eS 1 (DV.i .i64) p4),(eS 1 (DV.i .i64) p5),(eS 1 (DV.i .i64) p6),e5_] (fun _=>⟨by simp +zetaDelta only[yb],by rfl⟩)<|
.guard [e0_.length<2 ^ 63]<|
.frz 7 (.ev 0) none [5] []<|
.call (@F_q1e_ok e0_ p0_0 p0_1 p0_2 p0_3 p0_4 p3 p4 p5 p6) fun rv3 cv3=>
.k 7 2 cv3 [0,3,4,5,6] 8 false<|
.r (rv3.1,rv3.2)))
def F_q4g (p0_0:Nat) (p0_1:(List TPo)) (p0_2:List UInt8) (p0_3:Int) (p0_4:Int) (p1:Int) (p2:Int) (p3:(List Int)) (p4:(List Int)) (p5:(List Int)) (p6:(List Int)):=(S_q4g p0_0 p0_1 p0_2 p0_3 p0_4 p1 p2 p3 p4 p5 p6).den
theorem F_q4g_ok {p0_0:Nat} {p0_1:(List TPo)} {p0_2:List UInt8} {p0_3:Int} {p0_4:Int} {p1:Int} {p2:Int} {p3:(List Int)} {p4:(List Int)} {p5:(List Int)} {p6:(List Int)}:FO (F_q4g p0_0 p0_1 p0_2 p0_3 p0_4 p1 p2 p3 p4 p5 p6) 166 [(AV.ptr 0 p0_1.length [.x p0_0 7]),(vp 1),(vp 2)] [(opS 7 TPo.e p0_0 (AV.agg [(AV.d (DV.str p0_2)),(vi p0_3),(vi p0_4),(AV.ref 3 p3.length 0 p3.length),(AV.ref 4 p4.length 0 p4.length),(AV.ref 5 p5.length 0 p5.length),(AV.ref 6 p6.length 0 p6.length)]) p0_1),(Ob.box (vi p1)),(Ob.box (vi p2)),(eS 1 (DV.i .i64) p3),(eS 1 (DV.i .i64) p4),(eS 1 (DV.i .i64) p5),(eS 1 (DV.i .i64) p6)] (fun x=>(vi x.1)) (fun x=>[(opS 7 TPo.e p0_0 (AV.agg [(AV.d (DV.str p0_2)),(vi p0_3),(vi p0_4),(AV.ref 3 p3.length 0 p3.length),(AV.ref 4 p4.length 0 p4.length),(AV.ref 5 p5.length 0 p5.length),(AV.ref 6 p6.length 0 p6.length)]) p0_1),(Ob.box (vi p1)),(Ob.box (vi p2)),(eS 1 (DV.i .i64) x.2),(eS 1 (DV.i .i64) p4),(eS 1 (DV.i .i64) p5),(eS 1 (DV.i .i64) p6)]):=fO (s:=S_q4g p0_0 p0_1 p0_2 p0_3 p0_4 p1 p2 p3 p4 p5 p6) Tryz.func166
def S_q6w (a0:TTr) (a1:List UInt8) (a2:Int) (p0:Int) (p1:Int):SC (TTr×Int) (TTr×Int) :=
.reg 0 [] [(1,{ obs:=[(3,(bx (TTr.e (⟨0,[]⟩:TTr))))] })] [.pf z2e]<|
.a 1 1 4 (@F_qn_ok a0) fun rv1=>
 let e7_:=(AV.d (TTr.e (⟨0,[]⟩:TTr)))
.ite (!rv1) (
.reg 2 [] [(0,hv e7_)] [.pf z1i]<|
.r ((⟨0,[]⟩:TTr),1)) (
.a 3 3 4 (@F_q3a_ok a0 a1 a2) fun rv2=>
.ite (decide (rv2<0)) (
.reg 5 [] [(0,hv e7_)] [.pf z1i]<|
.r ((⟨0,[]⟩:TTr),6)) (
 let e4_:=((rv2).toNat)
.call (@F_q21_ok a0 e4_) fun rv3 cv3=>
.k 6 1 cv3 [] 4 false<|
.kill 5<|
 let e0_:=(rv3.2.getD e4_ default)
.call (@F_q4g_ok e4_ rv3.2 (e0_.C) (e0_.E) (e0_.V) p0 p1 (e0_.A) (e0_.J) (e0_.I) (e0_.T)) fun rv4 cv4=>
.guard [(0:Int)<=rv2,(rv2).toNat<rv3.2.length]<|
 let e14_:=(AV.ptr 6 rv3.2.length [.x e4_ 7])
.reg 7 [] [(4,hv e14_),(5,hc cv4 [6,0,1,7,8,9,10] false)] [.e rv3.2.length,.ev 0,.ev 1,.pf (p:=LeV (AV.ptr 6 rv3.2.length [.x (0+e4_) 7]) e14_) (z5y),.cl 2 cv4 [6,0,1,7,8,9,10] 11 false]<|
.ite (rv4.1 != 0) (
.reg 9 [] [(0,hv e7_)] [.pf z1i]<|
.r ((⟨0,[]⟩:TTr),rv4.1)) (
.reg 10 [] [] []<|
.guard [rv4.2.length=(e0_.A).length]<|
 let e9_:=(eS 1 (DV.i .i64) (e0_.J))
 let e10_:=(eS 1 (DV.i .i64) (e0_.I))
 let e11_:=(eS 1 (DV.i .i64) (e0_.T))
 let e12_:=(eS 1 (DV.i .i64) rv4.2)
 let e13_:=(AV.d (DV.str (e0_.C)))
.cst (A:=rv4.2.length=(e0_.A).length) (.ev 0) [(8,(vp 3)),(9,(vi 0))] [(8,(vp 3)),(9,(vi 0))] [(Ob.box (vi p0)),(Ob.box (vi p1)),(Ob.box (AV.agg [(vi rv3.1),(AV.ref 6 rv3.2.length 0 rv3.2.length)])),(Ob.box (AV.agg [(vi rv3.1),(AV.ref 6 rv3.2.length 0 rv3.2.length)])),Ob.dead,Ob.dead,(opS 7 TPo.e e4_ (AV.agg [e13_,(vi (e0_.E)),(vi (e0_.V)),(AV.ref 7 ((e0_.A).length) 0 ((e0_.A).length)),(AV.ref 8 ((e0_.J).length) 0 ((e0_.J).length)),(AV.ref 9 ((e0_.I).length) 0 ((e0_.I).length)),(AV.ref 10 ((e0_.T).length) 0 ((e0_.T).length))]) rv3.2),e12_,e9_,e10_,e11_] [(Ob.box (vi p0)),(Ob.box (vi p1)),(Ob.box (AV.agg [(vi rv3.1),(AV.ref 6 rv3.2.length 0 rv3.2.length)])),(Ob.box (AV.agg [(vi rv3.1),(AV.ref 6 rv3.2.length 0 rv3.2.length)])),Ob.dead,Ob.dead,(opS 7 TPo.e e4_ (AV.agg [e13_,(vi (e0_.E)),(vi (e0_.V)),(AV.ref 7 rv4.2.length 0 rv4.2.length),(AV.ref 8 ((e0_.J).length) 0 ((e0_.J).length)),(AV.ref 9 ((e0_.I).length) 0 ((e0_.I).length)),(AV.ref 10 ((e0_.T).length) 0 ((e0_.T).length))]) rv3.2),e12_,e9_,e10_,e11_] (fun h=>⟨rfl,by rw[h]⟩)<|
.guard [rv4.2.length<2 ^ 63/\(e0_.J).length<2 ^ 63/\(e0_.I).length<2 ^ 63/\(e0_.T).length<2 ^ 63]<|
 let e8_:=(⟨e0_.C,e0_.E,e0_.V,rv4.2,e0_.J,e0_.I,e0_.T⟩:TPo)
 let e1_:=(rv3.2.set e4_ e8_)
 let e2_:=(AV.agg [(vi rv3.1),(AV.ref 6 rv3.2.length 0 rv3.2.length)])
 let e3_:=[(Ob.box (vi p0)),(Ob.box (vi p1)),(Ob.box e2_),(Ob.box e2_),Ob.dead,Ob.dead,(eS 7 TPo.e e1_),Ob.dead,Ob.dead,Ob.dead,Ob.dead]
 let e6_:=[(8,(vp 3)),(9,(vi 0))]
.sh (A:=rv4.2.length<2 ^ 63/\(e0_.J).length<2 ^ 63/\(e0_.I).length<2 ^ 63/\(e0_.T).length<2 ^ 63) (.ev 0) e6_ e6_ [(Ob.box (vi p0)),(Ob.box (vi p1)),(Ob.box e2_),(Ob.box e2_),Ob.dead,Ob.dead,(opS 7 TPo.e e4_ (AV.agg [e13_,(vi (e0_.E)),(vi (e0_.V)),(AV.ref 7 rv4.2.length 0 rv4.2.length),(AV.ref 8 ((e0_.J).length) 0 ((e0_.J).length)),(AV.ref 9 ((e0_.I).length) 0 ((e0_.I).length)),(AV.ref 10 ((e0_.T).length) 0 ((e0_.T).length))]) rv3.2),e12_,e9_,e10_,e11_] e3_ (fun h=>z3e oTApiPot (P:=[(Ob.box (vi p0)),(Ob.box (vi p1)),(Ob.box e2_),(Ob.box e2_),Ob.dead,Ob.dead]) (D:=[]) rfl (⟨e0_.C,e0_.E,e0_.V,[],[],[],[]⟩:TPo) e8_ h rfl) (z26 _)<|
 let e5_:=(AV.agg [(vi rv3.1),(AV.ref 6 (e1_.length) 0 (e1_.length))])
.cst (A:=True) (.pf trivial) e6_ e6_ e3_ [(Ob.box (vi p0)),(Ob.box (vi p1)),(Ob.box e5_),(Ob.box e5_),Ob.dead,Ob.dead,(eS 7 TPo.e e1_),Ob.dead,Ob.dead,Ob.dead,Ob.dead] (fun _=>⟨by simp +zetaDelta only,by simp +zetaDelta only[yb]⟩)<|
.guard [e1_.length<2 ^ 63]<|
.frz 6 (.ev 0) none [] [2,3]<|
.r ((⟨rv3.1,e1_⟩:TTr),0))))
def F_q6w (a0:TTr) (a1:List UInt8) (a2:Int) (p0:Int) (p1:Int):=(S_q6w a0 a1 a2 p0 p1).den
theorem F_q6w_ok {a0:TTr} {a1:List UInt8} {a2:Int} {p0:Int} {p1:Int}:FO (F_q6w a0 a1 a2 p0 p1) 165 [(AV.d (TTr.e a0)),(AV.d (DV.str a1)),(vi a2),(AV.fn 166 [(vp 0),(vp 1)])] [(Ob.box (vi p0)),(Ob.box (vi p1))] (fun x=>(AV.tup [(AV.d (TTr.e x.1)),(vi x.2)])) (fun _=>[(Ob.box (vi p0)),(Ob.box (vi p1))]):=fO (s:=S_q6w a0 a1 a2 p0 p1) Tryz.func165
def S_q5w (a0:TTr) (a1:Int) (a2:List UInt8) (a3:Int) (a4:Int):SC (TTr×Int) (TTr×Int) :=
.reg 0 [] [(3,{ obs:=[(3,(bx (TTr.e (⟨0,[]⟩:TTr))))] })] [.pf z2e]<|
.call (@F_q6w_ok a0 a2 a3 a1 a4) fun rv1 cv1=>
.k 1 4 cv1 [1,2] 4 true<|
.r (rv1.1,rv1.2)
def F_q5w (a0:TTr) (a1:Int) (a2:List UInt8) (a3:Int) (a4:Int):=(S_q5w a0 a1 a2 a3 a4).den
theorem F_q5w_ok {a0:TTr} {a1:Int} {a2:List UInt8} {a3:Int} {a4:Int}:FO (F_q5w a0 a1 a2 a3 a4) 113 [(AV.d (TTr.e a0)),(vi a1),(AV.d (DV.str a2)),(vi a3),(vi a4)] [] (fun x=>(AV.tup [(AV.d (TTr.e x.1)),(vi x.2)])) NL:=fO (s:=S_q5w a0 a1 a2 a3 a4) Tryz.func113
abbrev R_q4h:=Int×(List Int)
def S_q4h (p0_0:Nat) (p0_1:(List TPo)) (_:List UInt8) (_:Int) (_:Int) (p1:Int) (p2:Int) (p3:(List Int)) (_:(List Int)) (p5:(List Int)) (_:(List Int)):SC R_q4h R_q4h :=
.call (@F_qf_ok p1 1 (p5.length:Int)) fun rv1 cv1=>
.guard [p0_0<p0_1.length]<|
.reg 1 [] [(6,hc cv1 [] true)] [.e p0_1.length,.e p0_1.length,.ev 0,.pf (p:=decide (p0_0=p0_0)=true) (ye rfl),.cl 1 cv1 [] 7 true]<|
.ite (!rv1) (
.r (6,p5)) (
.a 3 1 7 (@F_qf_ok p2 1 1000000000000000) fun rv2=>
.ite (!rv2) (
.r (2,p5)) (
 let e2_:=(i64.wrap (p1-1))
 let e0_:=(0+(e2_).toNat)
.guard [(0:Int)<=e2_,(e2_).toNat<p5.length,e0_<p5.length,(e2_).toNat<p3.length,e0_<p3.length]<|
.reg 5 [] [] [.e p0_1.length,.e p0_1.length,.ev 8,.pf (p:=decide (p0_0=p0_0)=true) (ye rfl),.e p5.length,.ev 0,.ev 1,.e p5.length,.ev 2,.e p0_1.length,.e p0_1.length,.ev 8,.pf (p:=decide (p0_0=p0_0)=true) (ye rfl),.e p3.length,.ev 0,.ev 3,.e p3.length,.ev 4]<|
 let e1_:=(i64.wrap ((p5.getD e0_ default)+p2))
.ite (decide (e1_>(p3.getD e0_ default))) (
.r (15,p5)) (
.reg 7 [11] [(11,{ obs:=[(5,(eS 1 (DV.i .i64) (p5.set e0_ e1_)))] })] [.e p0_1.length,.e p0_1.length,.ev 9,.pf (p:=decide (p0_0=p0_0)=true) (ye rfl),.e p5.length,.ev 1,.ev 2,.e p5.length,.ev 3,.e p5.length,.ev 1,.ev 2,.e p5.length,.ev 3,.pf (zr (sz:=1) (e:=(DV.i .i64)) (l:=p5) (i:=e0_) (x:=e1_) (fun _=>rfl))]<|
.r (0,(p5.set e0_ e1_)))))
def F_q4h (p0_0:Nat) (p0_1:(List TPo)) (p0_2:List UInt8) (p0_3:Int) (p0_4:Int) (p1:Int) (p2:Int) (p3:(List Int)) (p4:(List Int)) (p5:(List Int)) (p6:(List Int)):=(S_q4h p0_0 p0_1 p0_2 p0_3 p0_4 p1 p2 p3 p4 p5 p6).den
theorem F_q4h_ok {p0_0:Nat} {p0_1:(List TPo)} {p0_2:List UInt8} {p0_3:Int} {p0_4:Int} {p1:Int} {p2:Int} {p3:(List Int)} {p4:(List Int)} {p5:(List Int)} {p6:(List Int)}:FO (F_q4h p0_0 p0_1 p0_2 p0_3 p0_4 p1 p2 p3 p4 p5 p6) 168 [(AV.ptr 0 p0_1.length [.x p0_0 7]),(vp 1),(vp 2)] [(opS 7 TPo.e p0_0 (AV.agg [(AV.d (DV.str p0_2)),(vi p0_3),(vi p0_4),(AV.ref 3 p3.length 0 p3.length),(AV.ref 4 p4.length 0 p4.length),(AV.ref 5 p5.length 0 p5.length),(AV.ref 6 p6.length 0 p6.length)]) p0_1),(Ob.box (vi p1)),(Ob.box (vi p2)),(eS 1 (DV.i .i64) p3),(eS 1 (DV.i .i64) p4),(eS 1 (DV.i .i64) p5),(eS 1 (DV.i .i64) p6)] (fun x=>(vi x.1)) (fun x=>[(opS 7 TPo.e p0_0 (AV.agg [(AV.d (DV.str p0_2)),(vi p0_3),(vi p0_4),(AV.ref 3 p3.length 0 p3.length),(AV.ref 4 p4.length 0 p4.length),(AV.ref 5 p5.length 0 p5.length),(AV.ref 6 p6.length 0 p6.length)]) p0_1),(Ob.box (vi p1)),(Ob.box (vi p2)),(eS 1 (DV.i .i64) p3),(eS 1 (DV.i .i64) p4),(eS 1 (DV.i .i64) x.2),(eS 1 (DV.i .i64) p6)]):=fO (s:=S_q4h p0_0 p0_1 p0_2 p0_3 p0_4 p1 p2 p3 p4 p5 p6) Tryz.func168
end
end Go.Proofs.YtdmddkbngmhepaaGreatDoor
