/- A part of the proof: what the functions compute, and that their calls return it. No condition. -/
import Derived.Test.YtlhikmklpelceaaGreatDoorG5
/- What the functions compute, and that their calls return it. No condition. -/
namespace Go.Proofs.YtlhikmklpelceaaGreatDoor
open Go Go.TA
open Go.IntKind (i64)
noncomputable section
set_option maxRecDepth 100000
def S_q2s (a0:TWo) (a1:TSt) (a2:Bool):SC TWo TWo :=
 let e0_:=(TWo.b (⟨(⟨0,[]⟩:TTr),[],[]⟩:TWo))
.reg 0 [] [(2,{ obs:=[(2,e0_)] })] [.pf cz1]<|
.call (@F_q2r_ok a0 a1) fun rv1 cv1=>
.reg 1 [] [(2,hc cv1 [] true),(6,{ obs:=[(3,e0_)] })] [.cl 0 cv1 [] 3 true,.pf cz1]<|
.ite (rv1.2 != 0) (
.r a0) (
.ite (!a2) (
.r rv1.1) (
.call (@F_q2r_ok rv1.1 (⟨9,0,(⟨0,[],0,0,0,0,0,0,0,0⟩:TOp),[],0,0,(i64.wrap ((rv1.1.V.length:Int)-1))⟩:TSt)) fun rv2 cv2=>
.reg 6 [] [(6,hc cv2 [] true),(10,{ obs:=[(4,e0_)] })] [.cl 0 cv2 [] 4 true,.pf cz1]<|
.ite (rv2.2 != 0) (
.r rv1.1) (
.r rv2.1)))
def F_q2s (a0:TWo) (a1:TSt) (a2:Bool):=(S_q2s a0 a1 a2).den
theorem F_q2s_ok {a0:TWo} {a1:TSt} {a2:Bool}:FO (F_q2s a0 a1 a2) 21 [(TWo.d a0),(TSt.d a1),(vb a2)] [] (fun x=>(TWo.d x)) NL:=fO (s:=S_q2s a0 a1 a2) Tryz.func21
abbrev R_q2:=TWo×Int
def S_q2_b1 (sv1:TWo):SC R_q2 (Step (TWo) R_q2) :=
.ite (decide ((sv1.V.length:Int)>0)) (
.a 4 1 2 (@F_q6n_ok sv1 0) fun rv2=>
.c rv2) (
.r (.brk sv1))
def S_q2_b2 (sv3:TWo×Int) (iv4:Nat) (sv5:TWo):SC R_q2 (Step (TWo) R_q2) :=
.reg 10 [] [(2,{ obs:=[(2,(TPo.b (⟨[],0,0,[],[],[],[]⟩:TPo)))] })] [.w iv4,.ev 0,.pf cz4]<|
 let e0_:=(sv3.1.F.B.getD iv4 dF)
.a 11 7 3 (@F_q2s_ok sv5 (⟨4,sv3.2,(⟨0,[],0,0,0,0,0,0,0,0⟩:TOp),e0_.D,e0_.E,0,0⟩:TSt) true) fun rv6=>
.call (@F_q3p_ok rv6 sv3.2) fun rv7 cv7=>
.reg 12 [] [(2,hc cv7 [] true),(6,{ obs:=[(3,(TOf.b (⟨0,[],(⟨[],[],[],[]⟩:TBo)⟩:TOf)))] })] [.cl 0 cv7 [] 3 true,.pf cz5]<|
.a 13 5 4 (@F_q45_ok rv7.1 (e0_.D) (e0_.E)) fun rv8=>
.ite rv8.2 (
.a 15 4 5 (@F_q2s_ok rv6 (⟨5,sv3.2,rv8.1,[],0,0,0⟩:TSt) false) fun rv9=>
.c rv9) (
.c rv6)
def S_q2_b3 (sv3:TWo×Int) (rv10:TWo) (iv11:Nat) (sv12:TWo):SC R_q2 (Step (TWo) R_q2) :=
.reg 20 [] [(2,{ obs:=[(2,(TPo.b (⟨[],0,0,[],[],[],[]⟩:TPo)))] })] [.w iv11,.ev 0,.pf cz4]<|
 let e0_:=(rv10.F.B.getD iv11 dF)
.a 21 7 3 (@F_q2s_ok sv12 (⟨8,sv3.2,(⟨0,[],0,0,0,0,0,0,0,0⟩:TOp),e0_.D,e0_.E,0,0⟩:TSt) true) fun rv13=>
.c rv13
def S_q2_b4 (sv3:TWo×Int):SC R_q2 (Step (TWo×Int) R_q2) :=
.ite (decide (sv3.2<=sv3.1.F.N)) (
.range (sv3.1.F.B.length:Int) sv3.1.F.B.length rfl (.slot 32) 34 [1,2,4,32,33] (fun (_:TWo)=>[]) (fun sv5=>[(0,(TWo.b sv5))]) sv3.1 (S_q2_b2 sv3) (fun sv5 => 
.a 17 3 2 (@F_q2s_ok sv5 (⟨6,sv3.2,(⟨0,[],0,0,0,0,0,0,0,0⟩:TOp),[],0,0,0⟩:TSt) false) fun rv10=>
.range (rv10.F.B.length:Int) rv10.F.B.length rfl (.slot 74) 76 [1,2,4,74,75] (fun (_:TWo)=>[]) (fun sv12=>[(0,(TWo.b sv12))]) rv10 (S_q2_b3 sv3 rv10) (fun sv12 => 
.r (.cont (sv12,(i64.wrap (sv3.2+1))))) .ret) .ret) (
.r (.brk (sv3.1,sv3.2)))
def S_q2 (a0:TWo):SC R_q2 R_q2 :=
 let e0_:=(⟨(⟨0,[]⟩:TTr),[],[]⟩:TWo)
.reg 0 [] [(1,{ obs:=[(1,(TWo.b e0_))] })] [.pf cz1]<|
.a 1 1 2 (@F_q1_ok a0) fun rv14=>
.ite (!rv14) (
.reg 2 [] [(0,hv (TWo.d e0_))] [.pf cz2]<|
.r (e0_,1)) (
.iter [1,2] (fun (_:TWo)=>[]) (fun sv1=>[(0,(TWo.b sv1))]) a0 S_q2_b1 (fun sv1 =>
.iter [1,2] (fun (sv3:TWo×Int)=>[(4,(vi sv3.2))]) (fun sv3=>[(0,(TWo.b sv3.1))]) (sv1,1) S_q2_b4 (fun sv3 =>
.r (sv3.1,0)) id) id)
def F_q2 (a0:TWo):=(S_q2 a0).den
theorem F_q2_ok {a0:TWo}:FO (F_q2 a0) 7 [(TWo.d a0)] [] (fun x=>(AV.tup [(TWo.d x.1),(vi x.2)])) NL:=fO (s:=S_q2 a0) Tryz.func7
def S_qb (a0:Int) (a1:Int) (a2:Int):SC Bool Bool :=
.r (bif (decide (a0>=a1)) then (decide (a0<=a2)) else false)
def F_qb (a0:Int) (a1:Int) (a2:Int):=(S_qb a0 a1 a2).den
theorem F_qb_ok {a0:Int} {a1:Int} {a2:Int}:FO (F_qb a0 a1 a2) 100 [(vi a0),(vi a1),(vi a2)] [] vb NL:=fO (s:=S_qb a0 a1 a2) Tryz.func100
def S_q25 (a0:Y8) (a1:Int):SC Bool Bool :=
.call (@F_q7d_ok a0) fun rv1 cv1=>
 let e0_:=(decide ((rv1.length:Int)>0))
.calld [e0_=true] dF (@F_qb_ok a1 0 99) fun rv2 cv2 =>
.reg 1 [] [(1,hc cv1 [] true),(6,hc cv2 [] true)] [.cl 2 cv1 [] 0 true,.clg 0 [e0_=true] cv2 [] 0 true]<|
.r (bif e0_ then rv2 else false)
def F_q25 (a0:Y8) (a1:Int):=(S_q25 a0 a1).den
theorem F_q25_ok {a0:Y8} {a1:Int}:FO (F_q25 a0 a1) 99 [(AV.d (DV.str a0)),(vi a1)] [] vb NL:=fO (s:=S_q25 a0 a1) Tryz.func99
def S_q13 (a0:Int):SC Bool Bool :=
.a 1 1 0 (@F_qb_ok a0 0 1000000000000000) fun rv1=>
.r rv1
def F_q13 (a0:Int):=(S_q13 a0).den
theorem F_q13_ok {a0:Int}:FO (F_q13 a0) 159 [(vi a0)] [] vb NL:=fO (s:=S_q13 a0) Tryz.func159
def S_q6o (a0:Int):SC Bool Bool :=
.a 1 1 0 (@F_q13_ok a0) fun rv1=>
.r (!rv1)
def F_q6o (a0:Int):=(S_q6o a0).den
theorem F_q6o_ok {a0:Int}:FO (F_q6o a0) 158 [(vi a0)] [] vb NL:=fO (s:=S_q6o a0) Tryz.func158
def S_q2k_b1 (a0:(List Int)) (iv1:Nat) (_:Unit):SC Int (Step (Unit) Int) :=
.call (@F_q6o_ok (a0.getD iv1 dF)) fun rv2 cv2=>
.reg 4 [] [(5,hc cv2 [] true)] [.w iv1,.ev 1,.cl 0 cv2 [] 0 true]<|
.ite rv2 (
.r (.ret (iv1:Int))) (
.r (.cont ()))
def S_q2k (a0:(List Int)):SC Int Int :=
.range (a0.length:Int) a0.length rfl (.slot 0) 8 [0,1,7] (fun (_:Unit)=>[]) (fun _=>[]) () (S_q2k_b1 a0) (fun _ => 
.r (-1)) id
def F_q2k (a0:(List Int)):=(S_q2k a0).den
theorem F_q2k_ok {a0:(List Int)}:FO (F_q2k a0) 196 [(vl a0),(AV.fn 158 [])] [] vi NL:=fO (s:=S_q2k a0) Tryz.func196
def S_q5h (a0:(List Int)):SC Bool Bool :=
.a 1 2 0 (@F_q2k_ok a0) fun rv1=>
.r (decide (rv1>=0))
def F_q5h (a0:(List Int)):=(S_q5h a0).den
theorem F_q5h_ok {a0:(List Int)}:FO (F_q5h a0) 157 [(vl a0),(AV.fn 158 [])] [] vb NL:=fO (s:=S_q5h a0) Tryz.func157
def S_qx_b1 (a0:(List Int)) (iv1:Nat) (sv2:Int):SC Int (Step (Int) Int) :=
.reg 4 [] [] [.w iv1,.ev 0]<|
.c (i64.wrap (sv2+(a0.getD iv1 dF)))
def S_qx (a0:(List Int)):SC Int Int :=
.range (a0.length:Int) a0.length rfl (.slot 6) 8 [6,7] (fun (sv2:Int)=>[(3,(vi sv2))]) (fun _=>[]) 0 (S_qx_b1 a0) (fun sv2 => 
.r sv2) id
def F_qx (a0:(List Int)):=(S_qx a0).den
theorem F_qx_ok {a0:(List Int)}:FO (F_qx a0) 119 [(vl a0)] [] vi NL:=fO (s:=S_qx a0) Tryz.func119
def S_qg_b1 (a0:TPo) (a1:Int) (iv1:Nat) (_:Unit):SC Bool (Step (Unit) Bool) :=
.reg 6 [] [] [.w iv1,.ev 0]<|
 let e0_:=(([a0.A,a0.L,a0.K,a0.P]:List (List Int)).getD iv1 dF)
 let e1_:=((e0_.length:Int) != a1)
.calld [e1_=false] dF (@F_q5h_ok e0_) fun rv2 cv2 =>
.reg 7 [] [(7,hc cv2 [] true)] [.clg 0 [e1_=false] cv2 [] 1 true]<|
.ite (cO e1_ rv2) (
.r (.ret false)) (
.r (.cont ()))
def S_qg_b2 (a0:TPo) (iv3:Nat) (_:Unit):SC Bool (Step (Unit) Bool) :=
.reg 12 [] [] [.w iv3,.ev 0]<|
 let e1_:=(a0.A.getD iv3 dF)
 let e0_:=(decide ((a0.L.getD iv3 dF)>e1_))
.guard [iv3<a0.L.length,AllP [e0_=false]->(iv3<a0.K.length)]<|
.reg 13 [] [] [.w iv3,.ev 0,.pf (p:=AllP [e0_=false]->((0:Int)<=(iv3:Int))) (fun _=>(y1w _)),.ev 1]<|
.ite (cO e0_ (decide ((a0.K.getD iv3 dF)>e1_))) (
.r (.ret false)) (
.r (.cont ()))
def S_qg (a0:TPo) (a1:Int):SC Bool Bool :=
.call (@F_q25_ok a0.D a0.E) fun rv4 cv4=>
.calld [(!rv4)=false] dF (@F_qb_ok a0.W (-1000000000000000) 1000000000000000) fun rv5 cv5 =>
.reg 1 [] [(4,hc cv4 [] true),(9,hc cv5 [] true)] [.cl 2 cv4 [] 1 true,.clg 0 [(!rv4)=false] cv5 [] 1 true]<|
.ite (cO (!rv4) (!rv5)) (
.r false) (
 let e0_:=([a0.A,a0.L,a0.K,a0.P]:List (List Int))
.reg 4 [] [(8,hv (AV.d (eL (eL (DV.i .i64)) e0_)))] [.pf (ze (eL (DV.i .i64)) e0_)]<|
.range 4 4 rfl (.why (.pf (p:=4<2 ^ 63) dk)) 32 [1,2,5,30,31] (fun (_:Unit)=>[]) (fun _=>[]) () (S_qg_b1 a0 a1) (fun _ => 
.range (a0.A.length:Int) a0.A.length rfl (.slot 47) 49 [2,47,48] (fun (_:Unit)=>[]) (fun _=>[]) () (S_qg_b2 a0) (fun _ => 
.a 16 2 1 (@F_qx_ok a0.A) fun rv6=>
.r (decide (rv6<=1000000000000000))) id) id)
def F_qg (a0:TPo) (a1:Int):=(S_qg a0 a1).den
theorem F_qg_ok {a0:TPo} {a1:Int}:FO (F_qg a0 a1) 113 [(TPo.d a0),(vi a1)] [] vb NL:=fO (s:=S_qg a0 a1) Tryz.func113
def S_q5i (a0:Y8):SC Bool Bool :=
.r (!(a0==a0))
def F_q5i (a0:Y8):=(S_q5i a0).den
theorem F_q5i_ok {a0:Y8}:FO (F_q5i a0) 224 [(AV.d (DV.str a0))] [] vb NL:=fO (s:=S_q5i a0) Tryz.func224
def S_q6p (a0:Y8) (a1:Y8):SC Int Int :=
.a 1 1 0 (@F_q5i_ok a0) fun rv1=>
.a 2 1 0 (@F_q5i_ok a1) fun rv2=>
.ite rv1 (
.ite rv2 (
.r 0) (
.r (-1))) (
.ite rv2 (
.r 1) (
.ite (Op.bytesLess a0 a1) (
.r (-1)) (
.ite (!(Op.bytesLess a0 a1||a0==a1)) (
.r 1) (
.r 0))))
def F_q6p (a0:Y8) (a1:Y8):=(S_q6p a0 a1).den
theorem F_q6p_ok {a0:Y8} {a1:Y8}:FO (F_q6p a0 a1) 192 [(AV.d (DV.str a0)),(AV.d (DV.str a1))] [] vi NL:=fO (s:=S_q6p a0 a1) Tryz.func192
def S_q5j (a0:Int):SC Bool Bool :=
.r (a0 != a0)
def F_q5j (a0:Int):=(S_q5j a0).den
theorem F_q5j_ok {a0:Int}:FO (F_q5j a0) 194 [(vi a0)] [] vb NL:=fO (s:=S_q5j a0) Tryz.func194
def S_q3s (a0:Int) (a1:Int):SC Int Int :=
.a 1 1 0 (@F_q5j_ok a0) fun rv1=>
.a 2 1 0 (@F_q5j_ok a1) fun rv2=>
.ite rv1 (
.ite rv2 (
.r 0) (
.r (-1))) (
.ite rv2 (
.r 1) (
.ite (decide (a0<a1)) (
.r (-1)) (
.ite (decide (a0>a1)) (
.r 1) (
.r 0))))
def F_q3s (a0:Int) (a1:Int):=(S_q3s a0 a1).den
theorem F_q3s_ok {a0:Int} {a1:Int}:FO (F_q3s a0 a1) 153 [(vi a0),(vi a1)] [] vi NL:=fO (s:=S_q3s a0 a1) Tryz.func153
def S_q26_b1 (a0:(List Int)) (a1:(List Int)) (iv1:Nat) (_:Unit):SC Int (Step (Unit) Int) :=
.reg 3 [] [] [.w iv1,.ev 0]<|
.ite (decide ((iv1:Int)>=(a1.length:Int))) (
.r (.ret 1)) (
.guard [iv1<a1.length]<|
.reg 6 [] [] [.w iv1,.ev 0]<|
.a 7 2 0 (@F_q3s_ok (a0.getD iv1 dF) (a1.getD iv1 dF)) fun rv2=>
.ite (rv2 != 0) (
.r (.ret rv2)) (
.r (.cont ())))
def S_q26 (a0:(List Int)) (a1:(List Int)):SC Int Int :=
.range (a0.length:Int) a0.length rfl (.slot 0) 11 [0,1,9,10] (fun (_:Unit)=>[]) (fun _=>[]) () (S_q26_b1 a0 a1) (fun _ => 
.ite (decide ((a0.length:Int)<(a1.length:Int))) (
.r (-1)) (
.r 0)) id
def F_q26 (a0:(List Int)) (a1:(List Int)):=(S_q26 a0 a1).den
theorem F_q26_ok {a0:(List Int)} {a1:(List Int)}:FO (F_q26 a0 a1) 193 [(vl a0),(vl a1)] [] vi NL:=fO (s:=S_q26 a0 a1) Tryz.func193
def S_q48 (a0:Y8) (a1:Y8):SC Int Int :=
.call (@F_q7d_ok a0) fun rv1 cv1=>
.call (@F_q7d_ok a1) fun rv2 cv2=>
.reg 1 [] [(1,hc cv1 [] true),(3,hc cv2 [] true)] [.cl 1 cv1 [] 0 true,.cl 0 cv2 [] 0 true]<|
.ite (bif ((rv1.length:Int)==0) then ((rv2.length:Int)==0) else false) (
.a 3 2 0 (@F_q6p_ok a0 a1) fun rv3=>
.r rv3) (
.a 4 2 0 (@F_q26_ok rv1 rv2) fun rv4=>
.r rv4)
def F_q48 (a0:Y8) (a1:Y8):=(S_q48 a0 a1).den
theorem F_q48_ok {a0:Y8} {a1:Y8}:FO (F_q48 a0 a1) 152 [(AV.d (DV.str a0)),(AV.d (DV.str a1))] [] vi NL:=fO (s:=S_q48 a0 a1) Tryz.func152
def S_q14_b1 (a0:(List Int)) (iv1:Nat) (_:Unit):SC Int (Step (Unit) Int) :=
.reg 4 [] [] [.w iv1,.ev 0]<|
.ite ((a0.getD iv1 dF) != 0) (
.r (.ret (a0.getD iv1 dF))) (
.r (.cont ()))
def S_q14 (a0:(List Int)):SC Int Int :=
.range (a0.length:Int) a0.length rfl (.slot 6) 8 [3,6,7] (fun (_:Unit)=>[]) (fun _=>[]) () (S_q14_b1 a0) (fun _ => 
.r 0) id
def F_q14 (a0:(List Int)):=(S_q14 a0).den
theorem F_q14_ok {a0:(List Int)}:FO (F_q14 a0) 151 [(vl a0)] [] vi NL:=fO (s:=S_q14 a0) Tryz.func151
def S_q34 (a0:TPo) (a1:TPo):SC Int Int :=
.call (@F_q48_ok a0.D a1.D) fun rv1 cv1=>
.call (@F_q3s_ok a0.E a1.E) fun rv2 cv2=>
 let e0_:=([rv1,rv2]:List Int)
.call (@F_q14_ok e0_) fun rv3 cv3=>
.reg 1 [] [(4,hc cv1 [] true),(9,hc cv2 [] true),(10,hv (vl e0_)),(11,hc cv3 [] true)] [.cl 2 cv1 [] 2 true,.cl 1 cv2 [] 2 true,.pf (ze (DV.i .i64) e0_),.cl 0 cv3 [] 2 true]<|
.r rv3
def F_q34 (a0:TPo) (a1:TPo):=(S_q34 a0 a1).den
theorem F_q34_ok {a0:TPo} {a1:TPo}:FO (F_q34 a0 a1) 103 [(TPo.d a0),(TPo.d a1)] [] vi NL:=fO (s:=S_q34 a0 a1) Tryz.func103
def S_qm_b1 (a0:TTr) (iv1:Nat) (_:Unit):SC Bool (Step (Unit) Bool) :=
.reg 5 [] [(3,{ obs:=[(1,(TPo.b (⟨[],0,0,[],[],[],[]⟩:TPo)))] })] [.w iv1,.ev 0,.pf cz4]<|
 let e2_:=(a0.B.getD iv1 dF)
.call (@F_qg_ok e2_ a0.N) fun rv2 cv2=>
 let e0_:=(decide ((iv1:Int)>0))
 let e1_:=(i64.wrap ((iv1:Int)-1))
.calld [e0_=true,(!rv2)=false] dF (@F_q34_ok (a0.B.getD ((e1_).toNat) dF) e2_) fun rv3 cv3 =>
.guard [AllP [e0_=true,(!rv2)=false]->((0:Int)<=e1_),AllP [e0_=true,(!rv2)=false]->((e1_).toNat<a0.B.length)]<|
.reg 6 [] [(3,hc cv2 [] true),(16,hc cv3 [] true)] [.cl 4 cv2 [] 2 true,.ev 0,.ev 1,.clg 2 [e0_=true,(!rv2)=false] cv3 [] 2 true]<|
.ite (cO (!rv2) (bif e0_ then (decide (rv3>=0)) else false)) (
.r (.ret false)) (
.r (.cont ()))
def S_qm (a0:TTr):SC Bool Bool :=
.a 1 2 1 (@F_qb_ok a0.N 1 6) fun rv4=>
.ite (cO (!rv4) (decide ((a0.B.length:Int)>60))) (
.r false) (
.range (a0.B.length:Int) a0.B.length rfl (.slot 16) 18 [1,16,17] (fun (_:Unit)=>[]) (fun _=>[]) () (S_qm_b1 a0) (fun _ => 
.r true) id)
def F_qm (a0:TTr):=(S_qm a0).den
theorem F_qm_ok {a0:TTr}:FO (F_qm a0) 63 [(TTr.d a0)] [] vb NL:=fO (s:=S_qm a0) Tryz.func63
def S_q6q (a0:TJo):SC Bool Bool :=
.r (bif (bif (bif (bif (decide (a0.Y>=1)) then (decide (a0.Y<=6)) else false) then (decide ((a0.Ab.length:Int)<=400)) else false) then (decide (a0.Ag>=0)) else false) then (decide (a0.Ag<=(a0.Ab.length:Int))) else false)
def F_q6q (a0:TJo):=(S_q6q a0).den
theorem F_q6q_ok {a0:TJo}:FO (F_q6q a0) 143 [(TJo.d a0)] [] vb NL:=fO (s:=S_q6q a0) Tryz.func143
def S_q49 (a0:Int):SC Y8 Y8 :=
.ite (a0==1) (
.r ([114,101,115,101,114,118,101,32,67,79,68,69,32,89,69,65,82,32,68,65,89,32,65,77,79,85,78,84])) (
.ite (a0==2) (
.r ([99,111,109,109,105,116,32,79,70,32,68,65,89,32,65,77,79,85,78,84,32,80,65,89,69,69,32,68,85,69])) (
.ite (a0==3) (
.r ([118,101,114,105,102,121,32,79,70,32,68,65,89,32,65,77,79,85,78,84])) (
.ite (a0==4) (
.r ([111,114,100,101,114,32,79,70,32,68,65,89])) (
.ite (a0==5) (
.r ([114,101,108,101,97,115,101,32,79,70,32,65,77,79,85,78,84])) (
.ite (a0==6) (
.r ([100,114,111,112,32,79,70,32,65,77,79,85,78,84])) (
.ite (a0==7) (
.r ([114,101,116,117,114,110,32,67,79,68,69,32,89,69,65,82,32,65,77,79,85,78,84])) (
.ite (a0==8) (
.r ([104,101,97,114,32,67,79,68,69,32,89,69,65,82,32,71,82,65,78,84,69,68,32,65,83,75,69,68,66,65,67,75])) (
.ite (a0==9) (
.r ([114,101,116,117,114,110,101,100,32,79,70])) (
.r ([]))))))))))
def F_q49 (a0:Int):=(S_q49 a0).den
theorem F_q49_ok {a0:Int}:FO (F_q49 a0) 229 [(vi a0)] [] (fun x=>(AV.d (DV.str x))) NL:=fO (s:=S_q49 a0) Tryz.func229
def S_q6r (a1:Y8) (_:TOp):SC Unit Unit :=
.guard [(a1==([89,69,65,82]))=true]<|
.br true (.ev 0)<|
.r ()
def F_q6r (a1:Y8) (p0:TOp):=(S_q6r a1 p0).den
theorem F_q6r_ok {a1:Y8} {p0:TOp}:FO (F_q6r a1 p0) 230 [(vp 0),(AV.d (DV.str a1))] [(TOp.b p0)] (fun _=>(AV.ptr 0 1 [.f 2 2])) (fun _=>[(TOp.b p0)]):=fO (s:=S_q6r a1 p0) Tryz.func230
def S_q1l (a0:Y8):SC Int Int :=
.ite (a0==([89,69,65,82])) (
.r 99) (
.r 1000000000000000)
def F_q1l (a0:Y8):=(S_q1l a0).den
theorem F_q1l_ok {a0:Y8}:FO (F_q1l a0) 231 [(AV.d (DV.str a0))] [] vi NL:=fO (s:=S_q1l a0) Tryz.func231
def S_q6s (a1:Y8) (_:TOp):SC Unit Unit :=
.guard [(a1==([89,69,65,82]))=false]<|
.br false (.ev 0)<|
.guard [(a1==([68,65,89]))=true]<|
.br true (.ev 0)<|
.r ()
def F_q6s (a1:Y8) (p0:TOp):=(S_q6s a1 p0).den
theorem F_q6s_ok {a1:Y8} {p0:TOp}:FO (F_q6s a1 p0) 230 [(vp 0),(AV.d (DV.str a1))] [(TOp.b p0)] (fun _=>(AV.ptr 0 1 [.f 3 3])) (fun _=>[(TOp.b p0)]):=fO (s:=S_q6s a1 p0) Tryz.func230
def S_q6t (a1:Y8) (_:TOp):SC Unit Unit :=
.guard [(a1==([89,69,65,82]))=false]<|
.br false (.ev 0)<|
.guard [(a1==([68,65,89]))=false]<|
.br false (.ev 0)<|
.guard [(a1==([65,77,79,85,78,84]))=true]<|
.br true (.ev 0)<|
.r ()
def F_q6t (a1:Y8) (p0:TOp):=(S_q6t a1 p0).den
theorem F_q6t_ok {a1:Y8} {p0:TOp}:FO (F_q6t a1 p0) 230 [(vp 0),(AV.d (DV.str a1))] [(TOp.b p0)] (fun _=>(AV.ptr 0 1 [.f 5 5])) (fun _=>[(TOp.b p0)]):=fO (s:=S_q6t a1 p0) Tryz.func230
def S_q6u (a1:Y8) (_:TOp):SC Unit Unit :=
.guard [(a1==([89,69,65,82]))=false]<|
.br false (.ev 0)<|
.guard [(a1==([68,65,89]))=false]<|
.br false (.ev 0)<|
.guard [(a1==([65,77,79,85,78,84]))=false]<|
.br false (.ev 0)<|
.guard [(a1==([79,70]))=true]<|
.br true (.ev 0)<|
.r ()
def F_q6u (a1:Y8) (p0:TOp):=(S_q6u a1 p0).den
theorem F_q6u_ok {a1:Y8} {p0:TOp}:FO (F_q6u a1 p0) 230 [(vp 0),(AV.d (DV.str a1))] [(TOp.b p0)] (fun _=>(AV.ptr 0 1 [.f 4 4])) (fun _=>[(TOp.b p0)]):=fO (s:=S_q6u a1 p0) Tryz.func230
def S_q6v (a1:Y8) (_:TOp):SC Unit Unit :=
.guard [(a1==([89,69,65,82]))=false]<|
.br false (.ev 0)<|
.guard [(a1==([68,65,89]))=false]<|
.br false (.ev 0)<|
.guard [(a1==([65,77,79,85,78,84]))=false]<|
.br false (.ev 0)<|
.guard [(a1==([79,70]))=false]<|
.br false (.ev 0)<|
.guard [(a1==([80,65,89,69,69]))=true]<|
.br true (.ev 0)<|
.r ()
def F_q6v (a1:Y8) (p0:TOp):=(S_q6v a1 p0).den
theorem F_q6v_ok {a1:Y8} {p0:TOp}:FO (F_q6v a1 p0) 230 [(vp 0),(AV.d (DV.str a1))] [(TOp.b p0)] (fun _=>(AV.ptr 0 1 [.f 6 6])) (fun _=>[(TOp.b p0)]):=fO (s:=S_q6v a1 p0) Tryz.func230
def S_q6w (a1:Y8) (_:TOp):SC Unit Unit :=
.guard [(a1==([89,69,65,82]))=false]<|
.br false (.ev 0)<|
.guard [(a1==([68,65,89]))=false]<|
.br false (.ev 0)<|
.guard [(a1==([65,77,79,85,78,84]))=false]<|
.br false (.ev 0)<|
.guard [(a1==([79,70]))=false]<|
.br false (.ev 0)<|
.guard [(a1==([80,65,89,69,69]))=false]<|
.br false (.ev 0)<|
.guard [(a1==([68,85,69]))=true]<|
.br true (.ev 0)<|
.r ()
def F_q6w (a1:Y8) (p0:TOp):=(S_q6w a1 p0).den
theorem F_q6w_ok {a1:Y8} {p0:TOp}:FO (F_q6w a1 p0) 230 [(vp 0),(AV.d (DV.str a1))] [(TOp.b p0)] (fun _=>(AV.ptr 0 1 [.f 7 7])) (fun _=>[(TOp.b p0)]):=fO (s:=S_q6w a1 p0) Tryz.func230
def S_q6x (a1:Y8) (_:TOp):SC Unit Unit :=
.guard [(a1==([89,69,65,82]))=false]<|
.br false (.ev 0)<|
.guard [(a1==([68,65,89]))=false]<|
.br false (.ev 0)<|
.guard [(a1==([65,77,79,85,78,84]))=false]<|
.br false (.ev 0)<|
.guard [(a1==([79,70]))=false]<|
.br false (.ev 0)<|
.guard [(a1==([80,65,89,69,69]))=false]<|
.br false (.ev 0)<|
.guard [(a1==([68,85,69]))=false]<|
.br false (.ev 0)<|
.guard [(a1==([71,82,65,78,84,69,68]))=true]<|
.br true (.ev 0)<|
.r ()
def F_q6x (a1:Y8) (p0:TOp):=(S_q6x a1 p0).den
theorem F_q6x_ok {a1:Y8} {p0:TOp}:FO (F_q6x a1 p0) 230 [(vp 0),(AV.d (DV.str a1))] [(TOp.b p0)] (fun _=>(AV.ptr 0 1 [.f 8 8])) (fun _=>[(TOp.b p0)]):=fO (s:=S_q6x a1 p0) Tryz.func230
def S_q6y (a1:Y8) (_:TOp):SC Unit Unit :=
.guard [(a1==([89,69,65,82]))=false]<|
.br false (.ev 0)<|
.guard [(a1==([68,65,89]))=false]<|
.br false (.ev 0)<|
.guard [(a1==([65,77,79,85,78,84]))=false]<|
.br false (.ev 0)<|
.guard [(a1==([79,70]))=false]<|
.br false (.ev 0)<|
.guard [(a1==([80,65,89,69,69]))=false]<|
.br false (.ev 0)<|
.guard [(a1==([68,85,69]))=false]<|
.br false (.ev 0)<|
.guard [(a1==([71,82,65,78,84,69,68]))=false]<|
.br false (.ev 0)<|
.guard [(a1==([65,83,75,69,68,66,65,67,75]))=true]<|
.br true (.ev 0)<|
.r ()
def F_q6y (a1:Y8) (p0:TOp):=(S_q6y a1 p0).den
theorem F_q6y_ok {a1:Y8} {p0:TOp}:FO (F_q6y a1 p0) 230 [(vp 0),(AV.d (DV.str a1))] [(TOp.b p0)] (fun _=>(AV.ptr 0 1 [.f 9 9])) (fun _=>[(TOp.b p0)]):=fO (s:=S_q6y a1 p0) Tryz.func230
end
end Go.Proofs.YtlhikmklpelceaaGreatDoor
/- What the functions compute,and that their calls return it. No condition. -/
namespace Go.Proofs.YtlhikmklpelceaaGreatDoor
open Go Go.TA
open Go.IntKind (i64)
noncomputable section
set_option maxRecDepth 100000
abbrev R_q5:=Y8
def S_q5_b1 (a0:TOp) (rv1:(List Y8)) (iv2:Nat) (sv3:(List Y8)×TOp):SC R_q5 (Step ((List Y8)×TOp) R_q5) :=
.guard [((0+1)+iv2)<sv3.1.length]<|
.reg 8 [] [] [.e sv3.1.length,.w iv2,.ev 1,.e sv3.1.length,.ev 0]<|
 let e3_:=(i64.wrap ((iv2:Int)+1))
 let e0_:=(0+(e3_).toNat)
 let e24_:=(rv1.length-1)
 let e4_:=(19,(vi ((e24_:Nat):Int)))
 let e14_:=(20,(vi (iv2:Int)))
 let e1_:=[(1,(vp 0)),(3,(AV.ref 1 sv3.1.length 0 sv3.1.length)),(4,(vp 2)),(18,(AV.ref 1 sv3.1.length (0+1) e24_)),e4_,e14_]
 let e2_:=(sv3.1.getD ((0+1)+iv2) dF)
 let e15_:=(DV.i .i64 sv3.2.Q)
 let e16_:=(DV.i .i64 sv3.2.Of)
 let e17_:=(DV.i .i64 sv3.2.Ah)
 let e18_:=(DV.i .i64 sv3.2.Aj)
 let e19_:=(DV.i .i64 sv3.2.Af)
 let e20_:=(DV.i .i64 sv3.2.E)
 let e21_:=(DV.i .i64 sv3.2.Z)
 let e22_:=(DV.i .i64 sv3.2.S)
 let e23_:=(DV.i .i64 sv3.2.A)
 let e25_:=(TOp.b a0)
.ite (e2_==([67,79,68,69])) (
.a 10 2 3 (@F_q7d_ok a0.D) fun rv4=>
.ite ((rv4.length:Int)==0) (
.r (.ret ([]))) (
.guard [(0:Int)<=e3_,(e3_).toNat<sv3.1.length,e0_<sv3.1.length]<|
 let e27_:=(sv3.1.set e0_ a0.D)
.reg 12 [] [(6,{ obs:=[(1,(eS 1 DV.str e27_))] })] [.e sv3.1.length,.ev 0,.ev 1,.e sv3.1.length,.ev 2,.pf (zu (sz:=1) (e:=DV.str) (l:=sv3.1) (i:=e0_) (x:=a0.D) (fun _=>rfl))]<|
 let e5_:=[e25_,(eS 1 DV.str e27_),(bx (DV.agg [e15_,(DV.str ([])),e20_,e21_,e16_,e22_,e17_,e18_,e23_,e19_]))]
.cst (A:=True) (.pf trivial) e1_ [(1,(vp 0)),(3,(AV.ref 1 (e27_.length) 0 (e27_.length))),(4,(vp 2)),(18,(AV.ref 1 (e27_.length) (0+1) e24_)),e4_,e14_] e5_ e5_ (fun _=>⟨by simp +zetaDelta only[ya],by rfl⟩)<|
.r (.cont (e27_,(⟨sv3.2.Q,[],sv3.2.E,sv3.2.Z,sv3.2.Of,sv3.2.S,sv3.2.Ah,sv3.2.Aj,sv3.2.A,sv3.2.Af⟩:TOp))))) (
 let e26_:=(DV.str sv3.2.D)
 let e36_:=(DV.i .i64 0)
.split (e2_==([89,69,65,82])) (
.call (@F_q6r_ok e2_ a0) fun rv5 cv5=>
.k 13 1 cv5 [0] 3 true<|
 let e41_:=(decide (a0.E<0))
.calld [e41_=false] dF (@F_q1l_ok e2_) fun rv6 cv6 =>
.reg 14 [] [(5,hc cv6 [] true)] [.clg 0 [e41_=false] cv6 [] 3 true]<|
.ite (cO e41_ (decide (a0.E>rv6))) (
.r (.ret ([]))) (
.call (@F_q6r_ok e2_ sv3.2) fun rv7 cv7=>
.call (@F_q79_ok a0.E) fun rv8 cv8=>
.guard [(0:Int)<=e3_,(e3_).toNat<sv3.1.length,e0_<sv3.1.length]<|
 let e35_:=(sv3.1.set e0_ rv8)
.reg 16 [] [(4,hc cv7 [2] true),(6,hc cv8 [] true),(8,{ obs:=[(1,(eS 1 DV.str e35_))] })] [.cl 4 cv7 [2] 3 true,.cl 3 cv8 [] 3 true,.e sv3.1.length,.ev 0,.ev 1,.e sv3.1.length,.ev 2,.pf (zu (sz:=1) (e:=DV.str) (l:=sv3.1) (i:=e0_) (x:=rv8) (fun _=>rfl))]<|
 let e9_:=[e25_,(eS 1 DV.str e35_),(bx (DV.agg [e15_,e26_,e36_,e21_,e16_,e22_,e17_,e18_,e23_,e19_]))]
.cst (A:=True) (.pf trivial) e1_ [(1,(vp 0)),(3,(AV.ref 1 (e35_.length) 0 (e35_.length))),(4,(vp 2)),(18,(AV.ref 1 (e35_.length) (0+1) e24_)),e4_,e14_] e9_ e9_ (fun _=>⟨by simp +zetaDelta only[ya],by rfl⟩)<|
.r (.cont (e35_,(⟨sv3.2.Q,sv3.2.D,0,sv3.2.Z,sv3.2.Of,sv3.2.S,sv3.2.Ah,sv3.2.Aj,sv3.2.A,sv3.2.Af⟩:TOp))))) (
.split (e2_==([68,65,89])) (
.call (@F_q6s_ok e2_ a0) fun rv9 cv9=>
.k 13 1 cv9 [0] 3 true<|
 let e42_:=(decide (a0.Z<0))
.calld [e42_=false] dF (@F_q1l_ok e2_) fun rv10 cv10 =>
.reg 14 [] [(5,hc cv10 [] true)] [.clg 0 [e42_=false] cv10 [] 3 true]<|
.ite (cO e42_ (decide (a0.Z>rv10))) (
.r (.ret ([]))) (
.call (@F_q6s_ok e2_ sv3.2) fun rv11 cv11=>
.call (@F_q79_ok a0.Z) fun rv12 cv12=>
.guard [(0:Int)<=e3_,(e3_).toNat<sv3.1.length,e0_<sv3.1.length]<|
 let e28_:=(sv3.1.set e0_ rv12)
.reg 16 [] [(4,hc cv11 [2] true),(6,hc cv12 [] true),(8,{ obs:=[(1,(eS 1 DV.str e28_))] })] [.cl 4 cv11 [2] 3 true,.cl 3 cv12 [] 3 true,.e sv3.1.length,.ev 0,.ev 1,.e sv3.1.length,.ev 2,.pf (zu (sz:=1) (e:=DV.str) (l:=sv3.1) (i:=e0_) (x:=rv12) (fun _=>rfl))]<|
 let e6_:=[e25_,(eS 1 DV.str e28_),(bx (DV.agg [e15_,e26_,e20_,e36_,e16_,e22_,e17_,e18_,e23_,e19_]))]
.cst (A:=True) (.pf trivial) e1_ [(1,(vp 0)),(3,(AV.ref 1 (e28_.length) 0 (e28_.length))),(4,(vp 2)),(18,(AV.ref 1 (e28_.length) (0+1) e24_)),e4_,e14_] e6_ e6_ (fun _=>⟨by simp +zetaDelta only[ya],by rfl⟩)<|
.r (.cont (e28_,(⟨sv3.2.Q,sv3.2.D,sv3.2.E,0,sv3.2.Of,sv3.2.S,sv3.2.Ah,sv3.2.Aj,sv3.2.A,sv3.2.Af⟩:TOp))))) (
.split (e2_==([65,77,79,85,78,84])) (
.call (@F_q6t_ok e2_ a0) fun rv13 cv13=>
.k 13 1 cv13 [0] 3 true<|
 let e43_:=(decide (a0.S<0))
.calld [e43_=false] dF (@F_q1l_ok e2_) fun rv14 cv14 =>
.reg 14 [] [(5,hc cv14 [] true)] [.clg 0 [e43_=false] cv14 [] 3 true]<|
.ite (cO e43_ (decide (a0.S>rv14))) (
.r (.ret ([]))) (
.call (@F_q6t_ok e2_ sv3.2) fun rv15 cv15=>
.call (@F_q79_ok a0.S) fun rv16 cv16=>
.guard [(0:Int)<=e3_,(e3_).toNat<sv3.1.length,e0_<sv3.1.length]<|
 let e29_:=(sv3.1.set e0_ rv16)
.reg 16 [] [(4,hc cv15 [2] true),(6,hc cv16 [] true),(8,{ obs:=[(1,(eS 1 DV.str e29_))] })] [.cl 4 cv15 [2] 3 true,.cl 3 cv16 [] 3 true,.e sv3.1.length,.ev 0,.ev 1,.e sv3.1.length,.ev 2,.pf (zu (sz:=1) (e:=DV.str) (l:=sv3.1) (i:=e0_) (x:=rv16) (fun _=>rfl))]<|
 let e7_:=[e25_,(eS 1 DV.str e29_),(bx (DV.agg [e15_,e26_,e20_,e21_,e16_,e36_,e17_,e18_,e23_,e19_]))]
.cst (A:=True) (.pf trivial) e1_ [(1,(vp 0)),(3,(AV.ref 1 (e29_.length) 0 (e29_.length))),(4,(vp 2)),(18,(AV.ref 1 (e29_.length) (0+1) e24_)),e4_,e14_] e7_ e7_ (fun _=>⟨by simp +zetaDelta only[ya],by rfl⟩)<|
.r (.cont (e29_,(⟨sv3.2.Q,sv3.2.D,sv3.2.E,sv3.2.Z,sv3.2.Of,0,sv3.2.Ah,sv3.2.Aj,sv3.2.A,sv3.2.Af⟩:TOp))))) (
.split (e2_==([79,70])) (
.call (@F_q6u_ok e2_ a0) fun rv17 cv17=>
.k 13 1 cv17 [0] 3 true<|
 let e37_:=(decide (a0.Of<0))
.calld [e37_=false] dF (@F_q1l_ok e2_) fun rv18 cv18 =>
.reg 14 [] [(5,hc cv18 [] true)] [.clg 0 [e37_=false] cv18 [] 3 true]<|
.ite (cO e37_ (decide (a0.Of>rv18))) (
.r (.ret ([]))) (
.call (@F_q6u_ok e2_ sv3.2) fun rv19 cv19=>
.call (@F_q79_ok a0.Of) fun rv20 cv20=>
.guard [(0:Int)<=e3_,(e3_).toNat<sv3.1.length,e0_<sv3.1.length]<|
 let e30_:=(sv3.1.set e0_ rv20)
.reg 16 [] [(4,hc cv19 [2] true),(6,hc cv20 [] true),(8,{ obs:=[(1,(eS 1 DV.str e30_))] })] [.cl 4 cv19 [2] 3 true,.cl 3 cv20 [] 3 true,.e sv3.1.length,.ev 0,.ev 1,.e sv3.1.length,.ev 2,.pf (zu (sz:=1) (e:=DV.str) (l:=sv3.1) (i:=e0_) (x:=rv20) (fun _=>rfl))]<|
 let e10_:=[e25_,(eS 1 DV.str e30_),(bx (DV.agg [e15_,e26_,e20_,e21_,e36_,e22_,e17_,e18_,e23_,e19_]))]
.cst (A:=True) (.pf trivial) e1_ [(1,(vp 0)),(3,(AV.ref 1 (e30_.length) 0 (e30_.length))),(4,(vp 2)),(18,(AV.ref 1 (e30_.length) (0+1) e24_)),e4_,e14_] e10_ e10_ (fun _=>⟨by simp +zetaDelta only[ya],by rfl⟩)<|
.r (.cont (e30_,(⟨sv3.2.Q,sv3.2.D,sv3.2.E,sv3.2.Z,0,sv3.2.S,sv3.2.Ah,sv3.2.Aj,sv3.2.A,sv3.2.Af⟩:TOp))))) (
.split (e2_==([80,65,89,69,69])) (
.call (@F_q6v_ok e2_ a0) fun rv21 cv21=>
.k 13 1 cv21 [0] 3 true<|
 let e38_:=(decide (a0.Ah<0))
.calld [e38_=false] dF (@F_q1l_ok e2_) fun rv22 cv22 =>
.reg 14 [] [(5,hc cv22 [] true)] [.clg 0 [e38_=false] cv22 [] 3 true]<|
.ite (cO e38_ (decide (a0.Ah>rv22))) (
.r (.ret ([]))) (
.call (@F_q6v_ok e2_ sv3.2) fun rv23 cv23=>
.call (@F_q79_ok a0.Ah) fun rv24 cv24=>
.guard [(0:Int)<=e3_,(e3_).toNat<sv3.1.length,e0_<sv3.1.length]<|
 let e31_:=(sv3.1.set e0_ rv24)
.reg 16 [] [(4,hc cv23 [2] true),(6,hc cv24 [] true),(8,{ obs:=[(1,(eS 1 DV.str e31_))] })] [.cl 4 cv23 [2] 3 true,.cl 3 cv24 [] 3 true,.e sv3.1.length,.ev 0,.ev 1,.e sv3.1.length,.ev 2,.pf (zu (sz:=1) (e:=DV.str) (l:=sv3.1) (i:=e0_) (x:=rv24) (fun _=>rfl))]<|
 let e11_:=[e25_,(eS 1 DV.str e31_),(bx (DV.agg [e15_,e26_,e20_,e21_,e16_,e22_,e36_,e18_,e23_,e19_]))]
.cst (A:=True) (.pf trivial) e1_ [(1,(vp 0)),(3,(AV.ref 1 (e31_.length) 0 (e31_.length))),(4,(vp 2)),(18,(AV.ref 1 (e31_.length) (0+1) e24_)),e4_,e14_] e11_ e11_ (fun _=>⟨by simp +zetaDelta only[ya],by rfl⟩)<|
.r (.cont (e31_,(⟨sv3.2.Q,sv3.2.D,sv3.2.E,sv3.2.Z,sv3.2.Of,sv3.2.S,0,sv3.2.Aj,sv3.2.A,sv3.2.Af⟩:TOp))))) (
.split (e2_==([68,85,69])) (
.call (@F_q6w_ok e2_ a0) fun rv25 cv25=>
.k 13 1 cv25 [0] 3 true<|
 let e39_:=(decide (a0.Aj<0))
.calld [e39_=false] dF (@F_q1l_ok e2_) fun rv26 cv26 =>
.reg 14 [] [(5,hc cv26 [] true)] [.clg 0 [e39_=false] cv26 [] 3 true]<|
.ite (cO e39_ (decide (a0.Aj>rv26))) (
.r (.ret ([]))) (
.call (@F_q6w_ok e2_ sv3.2) fun rv27 cv27=>
.call (@F_q79_ok a0.Aj) fun rv28 cv28=>
.guard [(0:Int)<=e3_,(e3_).toNat<sv3.1.length,e0_<sv3.1.length]<|
 let e32_:=(sv3.1.set e0_ rv28)
.reg 16 [] [(4,hc cv27 [2] true),(6,hc cv28 [] true),(8,{ obs:=[(1,(eS 1 DV.str e32_))] })] [.cl 4 cv27 [2] 3 true,.cl 3 cv28 [] 3 true,.e sv3.1.length,.ev 0,.ev 1,.e sv3.1.length,.ev 2,.pf (zu (sz:=1) (e:=DV.str) (l:=sv3.1) (i:=e0_) (x:=rv28) (fun _=>rfl))]<|
 let e12_:=[e25_,(eS 1 DV.str e32_),(bx (DV.agg [e15_,e26_,e20_,e21_,e16_,e22_,e17_,e36_,e23_,e19_]))]
.cst (A:=True) (.pf trivial) e1_ [(1,(vp 0)),(3,(AV.ref 1 (e32_.length) 0 (e32_.length))),(4,(vp 2)),(18,(AV.ref 1 (e32_.length) (0+1) e24_)),e4_,e14_] e12_ e12_ (fun _=>⟨by simp +zetaDelta only[ya],by rfl⟩)<|
.r (.cont (e32_,(⟨sv3.2.Q,sv3.2.D,sv3.2.E,sv3.2.Z,sv3.2.Of,sv3.2.S,sv3.2.Ah,0,sv3.2.A,sv3.2.Af⟩:TOp))))) (
.split (e2_==([71,82,65,78,84,69,68])) (
.call (@F_q6x_ok e2_ a0) fun rv29 cv29=>
.k 13 1 cv29 [0] 3 true<|
 let e44_:=(decide (a0.A<0))
.calld [e44_=false] dF (@F_q1l_ok e2_) fun rv30 cv30 =>
.reg 14 [] [(5,hc cv30 [] true)] [.clg 0 [e44_=false] cv30 [] 3 true]<|
.ite (cO e44_ (decide (a0.A>rv30))) (
.r (.ret ([]))) (
.call (@F_q6x_ok e2_ sv3.2) fun rv31 cv31=>
.call (@F_q79_ok a0.A) fun rv32 cv32=>
.guard [(0:Int)<=e3_,(e3_).toNat<sv3.1.length,e0_<sv3.1.length]<|
 let e33_:=(sv3.1.set e0_ rv32)
.reg 16 [] [(4,hc cv31 [2] true),(6,hc cv32 [] true),(8,{ obs:=[(1,(eS 1 DV.str e33_))] })] [.cl 4 cv31 [2] 3 true,.cl 3 cv32 [] 3 true,.e sv3.1.length,.ev 0,.ev 1,.e sv3.1.length,.ev 2,.pf (zu (sz:=1) (e:=DV.str) (l:=sv3.1) (i:=e0_) (x:=rv32) (fun _=>rfl))]<|
 let e8_:=[e25_,(eS 1 DV.str e33_),(bx (DV.agg [e15_,e26_,e20_,e21_,e16_,e22_,e17_,e18_,e36_,e19_]))]
.cst (A:=True) (.pf trivial) e1_ [(1,(vp 0)),(3,(AV.ref 1 (e33_.length) 0 (e33_.length))),(4,(vp 2)),(18,(AV.ref 1 (e33_.length) (0+1) e24_)),e4_,e14_] e8_ e8_ (fun _=>⟨by simp +zetaDelta only[ya],by rfl⟩)<|
.r (.cont (e33_,(⟨sv3.2.Q,sv3.2.D,sv3.2.E,sv3.2.Z,sv3.2.Of,sv3.2.S,sv3.2.Ah,sv3.2.Aj,0,sv3.2.Af⟩:TOp))))) (
.call (@F_q6y_ok e2_ a0) fun rv33 cv33=>
.k 13 1 cv33 [0] 3 true<|
 let e40_:=(decide (a0.Af<0))
.calld [e40_=false] dF (@F_q1l_ok e2_) fun rv34 cv34 =>
.reg 14 [] [(5,hc cv34 [] true)] [.clg 0 [e40_=false] cv34 [] 3 true]<|
.ite (cO e40_ (decide (a0.Af>rv34))) (
.r (.ret ([]))) (
.call (@F_q6y_ok e2_ sv3.2) fun rv35 cv35=>
.call (@F_q79_ok a0.Af) fun rv36 cv36=>
.guard [(0:Int)<=e3_,(e3_).toNat<sv3.1.length,e0_<sv3.1.length]<|
 let e34_:=(sv3.1.set e0_ rv36)
.reg 16 [] [(4,hc cv35 [2] true),(6,hc cv36 [] true),(8,{ obs:=[(1,(eS 1 DV.str e34_))] })] [.cl 4 cv35 [2] 3 true,.cl 3 cv36 [] 3 true,.e sv3.1.length,.ev 0,.ev 1,.e sv3.1.length,.ev 2,.pf (zu (sz:=1) (e:=DV.str) (l:=sv3.1) (i:=e0_) (x:=rv36) (fun _=>rfl))]<|
 let e13_:=[e25_,(eS 1 DV.str e34_),(bx (DV.agg [e15_,e26_,e20_,e21_,e16_,e22_,e17_,e18_,e23_,e36_]))]
.cst (A:=True) (.pf trivial) e1_ [(1,(vp 0)),(3,(AV.ref 1 (e34_.length) 0 (e34_.length))),(4,(vp 2)),(18,(AV.ref 1 (e34_.length) (0+1) e24_)),e4_,e14_] e13_ e13_ (fun _=>⟨by simp +zetaDelta only[ya],by rfl⟩)<|
.r (.cont (e34_,(⟨sv3.2.Q,sv3.2.D,sv3.2.E,sv3.2.Z,sv3.2.Of,sv3.2.S,sv3.2.Ah,sv3.2.Aj,sv3.2.A,0⟩:TOp))))))))))))
def S_q5 (a0:TOp):SC R_q5 R_q5 :=
.call (@F_q49_ok a0.Q) fun rv37 cv37=>
.call (@F_q7f_ok rv37) fun rv1 cv1=>
.reg 1 [] [(2,hc cv37 [] true),(3,hc cv1 [] false)] [.cl 1 cv37 [] 1 true,.cl 0 cv1 [] 1 false]<|
.ite ((rv1.length:Int)==0) (
.r ([])) (
.guard [1<=rv1.length]<|
.reg 6 [] [] [.pf (p:=(0:Int)<=1) dk,.ev 0,.e rv1.length]<|
.guard [(rv1.length-1)<2 ^ 63]<|
.range (((rv1.length-1):Nat):Int) (rv1.length-1) rfl (.why (.ev 0)) 20 [1,4,19] (fun (sv3:(List Y8)×TOp)=>[(3,(AV.ref 1 sv3.1.length 0 sv3.1.length)),(18,(AV.ref 1 sv3.1.length (0+1) (rv1.length-1)))]) (fun sv3=>[(1,(eS 1 DV.str sv3.1)),(2,(TOp.b sv3.2))]) (rv1,(⟨0,a0.D,a0.E,a0.Z,a0.Of,a0.S,a0.Ah,a0.Aj,a0.A,a0.Af⟩:TOp)) (S_q5_b1 a0 rv1) (fun sv3 => 
.ite (!((sv3.2.Q==0)&&((sv3.2.D==([]))&&((sv3.2.E==0)&&((sv3.2.Z==0)&&((sv3.2.Of==0)&&((sv3.2.S==0)&&((sv3.2.Ah==0)&&((sv3.2.Aj==0)&&((sv3.2.A==0)&&((sv3.2.Af==0)&&true))))))))))) (
.r ([])) (
.guard [sv3.1.length<2 ^ 63]<|
.frz 1 (.ev 0) none [3] []<|
.a 20 1 3 (@F_q7e_ok sv3.1 ([32])) fun rv38=>
.r rv38)) id)
def F_q5 (a0:TOp):=(S_q5 a0).den
theorem F_q5_ok {a0:TOp}:FO (F_q5 a0) 206 [(TOp.d a0)] [] (fun x=>(AV.d (DV.str x))) NL:=fO (s:=S_q5 a0) Tryz.func206
def S_q4a (a0:TOp):SC Bool Bool :=
.a 1 1 1 (@F_q5_ok a0) fun rv1=>
.r (!(rv1==([])))
def F_q4a (a0:TOp):=(S_q4a a0).den
theorem F_q4a_ok {a0:TOp}:FO (F_q4a a0) 181 [(TOp.d a0)] [] vb NL:=fO (s:=S_q4a a0) Tryz.func181
def S_q6z (a0:TRi) (p0:Y8) (p1:Int):SC Bool Bool :=
.r (bif (a0.D==p0) then (a0.E==p1) else false)
def F_q6z (a0:TRi) (p0:Y8) (p1:Int):=(S_q6z a0 p0 p1).den
theorem F_q6z_ok {a0:TRi} {p0:Y8} {p1:Int}:FO (F_q6z a0 p0 p1) 198 [(TRi.d a0),(vp 0),(vp 1)] [(bx (DV.str p0)),(Ob.box (vi p1))] vb (fun _=>[(bx (DV.str p0)),(Ob.box (vi p1))]):=fO (s:=S_q6z a0 p0 p1) Tryz.func198
def S_q2t_b1 (a0:(List TRi)) (p0:Y8) (p1:Int) (iv1:Nat) (_:Unit):SC Int (Step (Unit) Int) :=
.call (@F_q6z_ok (a0.getD iv1 dF) p0 p1) fun rv2 cv2=>
.reg 4 [] [(5,hc cv2 [0,1] true)] [.w iv1,.ev 1,.cl 0 cv2 [0,1] 2 true]<|
.ite rv2 (
.r (.ret (iv1:Int))) (
.r (.cont ()))
def S_q2t (a0:(List TRi)) (p0:Y8) (p1:Int):SC Int Int :=
.range (a0.length:Int) a0.length rfl (.slot 0) 8 [0,1,7] (fun (_:Unit)=>[]) (fun _=>[]) () (S_q2t_b1 a0 p0 p1) (fun _ => 
.r (-1)) id
def F_q2t (a0:(List TRi)) (p0:Y8) (p1:Int):=(S_q2t a0 p0 p1).den
theorem F_q2t_ok {a0:(List TRi)} {p0:Y8} {p1:Int}:FO (F_q2t a0 p0 p1) 197 [(AV.d (eL TRi.e a0)),(AV.fn 198 [(vp 0),(vp 1)])] [(bx (DV.str p0)),(Ob.box (vi p1))] vi (fun _=>[(bx (DV.str p0)),(Ob.box (vi p1))]):=fO (s:=S_q2t a0 p0 p1) Tryz.func197
def S_q4b (a0:TOf) (a1:Y8) (a2:Int):SC Int Int :=
.call (@F_q2t_ok a0.J a1 a2) fun rv1 cv1=>
.k 1 3 cv1 [1,2] 3 true<|
.r rv1
def F_q4b (a0:TOf) (a1:Y8) (a2:Int):=(S_q4b a0 a1 a2).den
theorem F_q4b_ok {a0:TOf} {a1:Y8} {a2:Int}:FO (F_q4b a0 a1 a2) 161 [(TOf.d a0),(AV.d (DV.str a1)),(vi a2)] [] vi NL:=fO (s:=S_q4b a0 a1 a2) Tryz.func161
def S_q35 (a0:TOf) (a1:Y8) (a2:Int):SC Bool Bool :=
.a 1 3 1 (@F_q4b_ok a0 a1 a2) fun rv1=>
.r (decide (rv1>=0))
def F_q35 (a0:TOf) (a1:Y8) (a2:Int):=(S_q35 a0 a1 a2).den
theorem F_q35_ok {a0:TOf} {a1:Y8} {a2:Int}:FO (F_q35 a0 a1 a2) 186 [(TOf.d a0),(AV.d (DV.str a1)),(vi a2)] [] vb NL:=fO (s:=S_q35 a0 a1 a2) Tryz.func186
def S_q1m (a0:TOf) (a1:Y8) (a2:Int):SC TRi TRi :=
.a 1 3 2 (@F_q4b_ok a0 a1 a2) fun rv1=>
.ite (decide (rv1>=0)) (
.guard [(0:Int)<=rv1,(rv1).toNat<a0.J.length]<|
.reg 3 [] [] [.ev 0,.ev 1]<|
.r (a0.J.getD ((rv1).toNat) dF)) (
.r (⟨a1,a2,0,0,0⟩:TRi))
def F_q1m (a0:TOf) (a1:Y8) (a2:Int):=(S_q1m a0 a1 a2).den
theorem F_q1m_ok {a0:TOf} {a1:Y8} {a2:Int}:FO (F_q1m a0 a1 a2) 115 [(TOf.d a0),(AV.d (DV.str a1)),(vi a2)] [] (fun x=>(TRi.d x)) NL:=fO (s:=S_q1m a0 a1 a2) Tryz.func115
def S_q27 (a0:TRi):SC Bool Bool :=
.call (@F_q25_ok a0.D a0.E) fun rv1 cv1=>
.calld [rv1=true] dF (@F_q13_ok a0.A) fun rv2 cv2 =>
 let e1_:=(bif rv1 then rv2 else false)
.calld [e1_=true] dF (@F_q13_ok a0.K) fun rv3 cv3 =>
 let e0_:=(bif e1_ then rv3 else false)
.calld [e0_=true] dF (@F_qb_ok a0.M 0 a0.A) fun rv4 cv4 =>
.reg 1 [] [(4,hc cv1 [] true),(8,hc cv2 [] true),(13,hc cv3 [] true),(20,hc cv4 [] true)] [.cl 6 cv1 [] 1 true,.clg 4 [rv1=true] cv2 [] 1 true,.clg 2 [e1_=true] cv3 [] 1 true,.clg 0 [e0_=true] cv4 [] 1 true]<|
.r (bif e0_ then rv4 else false)
def F_q27 (a0:TRi):=(S_q27 a0).den
theorem F_q27_ok {a0:TRi}:FO (F_q27 a0) 184 [(TRi.d a0)] [] vb NL:=fO (s:=S_q27 a0) Tryz.func184
def S_q36 (a0:TRi) (a1:TMe):SC (TRi×Int) (TRi×Int) :=
.a 1 1 3 (@F_q27_ok a0) fun rv1=>
.ite (cO (cO (cO (!rv1) (a1.Aa != 0)) (!(a1.D==a0.D))) (a1.E != a0.E)) (
.r ((⟨[],0,0,0,0⟩:TRi),1)) (
.call (@F_q13_ok a1.A) fun rv2 cv2=>
.calld [(!rv2)=false] dF (@F_q13_ok a1.K) fun rv3 cv3 =>
.reg 3 [] [(2,hc cv2 [] true),(7,hc cv3 [] true)] [.cl 2 cv2 [] 3 true,.clg 0 [(!rv2)=false] cv3 [] 3 true]<|
.ite (cO (!rv2) (!rv3)) (
.r ((⟨[],0,0,0,0⟩:TRi),2)) (
.reg 5 [11,13] [] []<|
.r ((⟨a0.D,a0.E,(if a1.A>a0.A then a1.A else a0.A),(if a1.K>a0.K then a1.K else a0.K),a0.M⟩:TRi),0)))
def F_q36 (a0:TRi) (a1:TMe):=(S_q36 a0 a1).den
theorem F_q36_ok {a0:TRi} {a1:TMe}:FO (F_q36 a0 a1) 233 [(TRi.d a0),(TMe.d a1)] [] (fun x=>(AV.tup [(TRi.d x.1),(vi x.2)])) NL:=fO (s:=S_q36 a0 a1) Tryz.func233
def S_q5k (a0:(List TRi)):SC (List TRi) (List TRi) :=
.reg 0 [] [] []<|
.nils 0 (
.guard [a0.length * (2 * 48)<=2 ^ 48]<|
.reg 1 [] [] []<|
.lev 0 (AV.d (eL TRi.e a0)) (.pf (lvQ true a0.length fun j=>(TRi.e (a0.getD j dF))))<|
.br true (.pf (p:=true=true) rfl)<|
.reg 2 [] [] []<|
.bor 5 (fun j=>AV.d (TRi.e (a0.getD j dF))) [2]<|
.cst (A:=a0.length=0) (.ev 1) [(2,AV.ref 0 0 0 0)] [(2,(AV.ref 0 a0.length 0 a0.length))] [(Ob.seq 5 0 fun j=>AV.d (TRi.e (a0.getD j dF)))] [(eS 5 TRi.e a0)] (fun h=>⟨by rw[h],by unfold eS; rw[h]⟩)<|
.r a0) (
.reg 1 [] [] []<|
.lev 0 (AV.d (eL TRi.e a0)) (.pf (lvQ false a0.length fun j=>(TRi.e (a0.getD j dF))))<|
.br false (.pf (p:=false=false) rfl)<|
.guard [a0.length * (2 * 48)<=2 ^ 48]<|
.reg 3 [] [(2,{ h:=.obj })] [.pf (p:=∀ k,k<a0.length->(TRi.d (a0.getD k dF)).wd=5) (fun _ _=>rfl),.ev 0]<|
.r a0)
def F_q5k (a0:(List TRi)):=(S_q5k a0).den
theorem F_q5k_ok {a0:(List TRi)}:FO (F_q5k a0) 267 [(AV.d (eL TRi.e a0))] [] (fun x=>(AV.ref 0 x.length 0 x.length)) (fun x=>[(eS 5 TRi.e x)]):=fO (s:=S_q5k a0) Tryz.func267
def S_q37 (a0:TRi) (a1:TRi):SC Int Int :=
.call (@F_q48_ok a0.D a1.D) fun rv1 cv1=>
.call (@F_q3s_ok a0.E a1.E) fun rv2 cv2=>
 let e0_:=([rv1,rv2]:List Int)
.call (@F_q14_ok e0_) fun rv3 cv3=>
.reg 1 [] [(4,hc cv1 [] true),(9,hc cv2 [] true),(10,hv (vl e0_)),(11,hc cv3 [] true)] [.cl 2 cv1 [] 2 true,.cl 1 cv2 [] 2 true,.pf (ze (DV.i .i64) e0_),.cl 0 cv3 [] 2 true]<|
.r rv3
def F_q37 (a0:TRi) (a1:TRi):=(S_q37 a0 a1).den
theorem F_q37_ok {a0:TRi} {a1:TRi}:FO (F_q37 a0 a1) 185 [(TRi.d a0),(TRi.d a1)] [] vi NL:=fO (s:=S_q37 a0 a1) Tryz.func185
abbrev R_q28:=Int×Bool
def S_q28_b1 (a1:TRi) (p0:(List TRi)) (sv1:Int×Int):SC R_q28 (Step (Int×Int) R_q28) :=
.ite (decide (sv1.1<sv1.2)) (
.reg 4 [] [] [.pf (p:=(0:Int)<=1) dk]<|
 let e0_:=(i64.wrap ((IntKind.u64.wrap (i64.wrap (sv1.1+sv1.2))).fdiv (2 ^ (min (1:Int).toNat IntKind.u64.bits))))
.call (@F_q37_ok (p0.getD (0+(e0_).toNat) dF) a1) fun rv2 cv2=>
.guard [(0:Int)<=e0_,(e0_).toNat<p0.length,(0+(e0_).toNat)<p0.length]<|
.reg 5 [] [(6,hc cv2 [] true)] [.e p0.length,.ev 0,.ev 1,.e p0.length,.ev 2,.cl 3 cv2 [] 2 true]<|
.ite (decide (rv2<0)) (
.r (.cont ((i64.wrap (e0_+1)),sv1.2))) (
.r (.cont (sv1.1,e0_)))) (
.r (.brk (sv1.1,sv1.2)))
def S_q28 (a1:TRi) (p0:(List TRi)):SC R_q28 R_q28 :=
.iter [0,2,4,8] (fun (sv1:Int×Int)=>[(9,(vi sv1.1)),(10,(vi sv1.2))]) (fun _=>[]) (0,(p0.length:Int)) (S_q28_b1 a1 p0) (fun sv1 =>
 let e0_:=(decide (sv1.1<(p0.length:Int)))
.calld [e0_=true] dF (@F_q37_ok (p0.getD (0+(sv1.1).toNat) dF) a1) fun rv3 cv3 =>
.guard [AllP [e0_=true]->((0:Int)<=sv1.1),AllP [e0_=true]->((sv1.1).toNat<p0.length),AllP [e0_=true]->((0+(sv1.1).toNat)<p0.length)]<|
.reg 8 [] [(11,hc cv3 [] true)] [.pf (p:=AllP [e0_=true]->(p0.length=p0.length)) (fun _=>rfl),.ev 0,.ev 1,.pf (p:=AllP [e0_=true]->(p0.length=p0.length)) (fun _=>rfl),.ev 2,.clg 3 [e0_=true] cv3 [] 2 true]<|
.r (sv1.1,(bif e0_ then (rv3==0) else false))) id
def F_q28 (a1:TRi) (p0:(List TRi)):=(S_q28 a1 p0).den
theorem F_q28_ok {a1:TRi} {p0:(List TRi)}:FO (F_q28 a1 p0) 268 [(AV.ref 0 p0.length 0 p0.length),(TRi.d a1),(AV.fn 185 [])] [(eS 5 TRi.e p0)] (fun x=>(AV.tup [(vi x.1),(vb x.2)])) (fun _=>[(eS 5 TRi.e p0)]):=fO (s:=S_q28 a1 p0) Tryz.func268
def V_q7b (x:(List TRi)):AV:=.ref 0 x.length 0 x.length
def L_q7b (p1:List TRi) (x:(List TRi)):List Ob:=[eS 5 TRi.e x,eS 5 TRi.e p1]
def F_q7b (a1:Int) (p0 p1:List TRi):Option (List TRi):=match p1 with
 | [y]=>guardP (0<=a1/\a1.toNat<=p0.length/\(p0.length+1) * (4 * 48)<=2 ^ 48) (some (insL p0 a1.toNat y))
 | _=>none
theorem F_q7b_ok {a1:Int} {p0 p1:List TRi} (r:(List TRi)) (h:F_q7b a1 p0 p1=some r):CallOk Tryz.prog 269 [(AV.ref 0 p0.length 0 p0.length),(AV.d (.i .i64 a1)),(AV.ref 1 p1.length 0 p1.length)] [(eS 5 TRi.e p0),(eS 5 TRi.e p1)] (V_q7b r) (L_q7b p1 r):=by
 unfold F_q7b at h
 split at h
 ·rename_i y
  obtain⟨⟨h1,h2,h3⟩,h⟩:=z1q h
  obtain rfl:=yz h
  obtain⟨i,rfl⟩:∃ i:Nat,a1=(i:Int):=⟨a1.toNat,(y5h h1).symm⟩
  exact InsG.ins_ok .b (fun _=>rfl) h2 h3
 ·cases h
def S_q4c (a0:TOf) (a1:TRi):SC TOf TOf :=
 let e1_:=(TOf.b (⟨0,[],(⟨[],[],[],[]⟩:TBo)⟩:TOf))
.reg 0 [] [(2,{ obs:=[(2,e1_)] })] [.pf cz5]<|
.call (@F_q5k_ok a0.J) fun rv1 cv1=>
.k 1 2 cv1 [] 3 false<|
.call (@F_q28_ok a1 rv1) fun rv2 cv2=>
.k 2 3 cv2 [3] 4 true<|
.cut none [2,4] (fun (_:Int×TBo×(List TRi))=>[]) (fun sv3=>[(0,(Ob.box (AV.agg [(vi sv3.1),(AV.ref 3 sv3.2.2.length 0 sv3.2.2.length),(TBo.d sv3.2.1)]))),(3,(eS 5 TRi.e sv3.2.2))]) (
.ite rv2.2 (
 let e2_:=(0+(rv2.1).toNat)
.guard [(0:Int)<=rv2.1,(rv2.1).toNat<rv1.length,e2_<rv1.length]<|
 let e0_:=(rv1.set e2_ a1)
 let e3_:=(eS 5 TRi.e e0_)
.reg 4 [] [(5,{ obs:=[(3,e3_)] })] [.e rv1.length,.ev 0,.ev 1,.e rv1.length,.ev 2,.pf (zu (sz:=5) (e:=TRi.e) (l:=rv1) (i:=e2_) (x:=a1) (fun _=>rfl))]<|
 let e5_:=[(2,(vp 0)),(4,(vp 2))]
.cst (A:=True) (.pf trivial) e5_ e5_ [(Ob.box (AV.agg [(vi a0.O),(AV.ref 3 rv1.length 0 rv1.length),(TBo.d a0.Ae)])),(TRi.b a1),e1_,e3_] [(Ob.box (AV.agg [(vi a0.O),(AV.ref 3 (e0_.length) 0 (e0_.length)),(TBo.d a0.Ae)])),(TRi.b a1),e1_,e3_] (fun _=>⟨by simp +zetaDelta only,by simp +zetaDelta only[ya]⟩)<|
.r (.next (a0.O,a0.Ae,e0_))) (
 let e4_:=([a1]:List TRi)
.call (@F_q7b_ok rv2.1 rv1 e4_) fun rv4 cv4=>
.reg 5 [] [(4,{ h:=.obj,obs:=[(4,(eS 5 TRi.e e4_))] }),(5,hc cv4 [3,4] false)] [.pf (zjt (sz:=5) (e:=TRi.e) (l:=e4_)),.cl 0 cv4 [3,4] 5 false]<|
.r (.next (a0.O,a0.Ae,rv4)))) fun sv3=>
.guard [sv3.2.2.length<2 ^ 63]<|
.reg 6 [] [] []<|
.frz 3 (.ev 0) none [] [0,2]<|
.r (⟨sv3.1,sv3.2.2,sv3.2.1⟩:TOf)
def F_q4c (a0:TOf) (a1:TRi):=(S_q4c a0 a1).den
theorem F_q4c_ok {a0:TOf} {a1:TRi}:FO (F_q4c a0 a1) 234 [(TOf.d a0),(TRi.d a1)] [] (fun x=>(TOf.d x)) NL:=fO (s:=S_q4c a0 a1) Tryz.func234
def S_q5l (a0:TOf) (a1:TOp):SC (TOf×Int) (TOf×Int) :=
 let e0_:=(⟨0,[],(⟨[],[],[],[]⟩:TBo)⟩:TOf)
.reg 0 [] [(2,{ obs:=[(2,(TOf.b e0_))] })] [.pf cz5]<|
.a 1 2 3 (@F_q7d_ok a1.D) fun rv1=>
 let e1_:=(0,hv (TOf.d e0_))
.ite ((rv1.length:Int)==0) (
.reg 2 [] [e1_] [.pf cz6]<|
.r (e0_,5)) (
.ite (cO (decide (a1.E<0)) (decide (a1.E>99))) (
.reg 4 [] [e1_] [.pf cz6]<|
.r (e0_,2)) (
.a 5 5 3 (@F_q35_ok a0 a1.D a1.E) fun rv2=>
.ite (bif (!rv2) then ((a0.J.length:Int)==60) else false) (
.reg 6 [] [e1_] [.pf cz6]<|
.r (e0_,3)) (
.call (@F_q1m_ok a0 a1.D a1.E) fun rv3 cv3=>
.call (@F_q36_ok rv3 (⟨0,0,a1.D,a1.E,a1.A,a1.Af,0,0⟩:TMe)) fun rv4 cv4=>
.reg 7 [19,20] [(5,hc cv3 [] true),(15,hc cv4 [] true)] [.cl 1 cv3 [] 3 true,.cl 1 cv3 [] 4 true,.cl 0 cv4 [] 3 true,.cl 0 cv4 [] 4 true]<|
.ite (rv4.2 != 0) (
.reg 9 [] [e1_] [.pf cz6]<|
.r (e0_,rv4.2)) (
.a 10 2 4 (@F_q4c_ok a0 rv4.1) fun rv5=>
.r (rv5,0)))))
def F_q5l (a0:TOf) (a1:TOp):=(S_q5l a0 a1).den
theorem F_q5l_ok {a0:TOf} {a1:TOp}:FO (F_q5l a0 a1) 207 [(TOf.d a0),(TOp.d a1)] [] (fun x=>(AV.tup [(TOf.d x.1),(vi x.2)])) NL:=fO (s:=S_q5l a0 a1) Tryz.func207
def S_q29_b1 (a0:TBo) (a1:Int) (iv1:Nat) (sv2:Int×Int):SC (Int×Int) (Step (Int×Int) (Int×Int)) :=
.reg 3 [] [] [.w iv1,.ev 0]<|
 let e0_:=(a0.G.getD iv1 dF)
.ite ((e0_.X)==a1) (
.r (.cont ((i64.wrap (sv2.1+(e0_.S))),(i64.wrap (sv2.2+(e0_.Ad)))))) (
.r (.cont (sv2.1,sv2.2)))
def S_q29 (a0:TBo) (a1:Int):SC (Int×Int) (Int×Int) :=
.range (a0.G.length:Int) a0.G.length rfl (.slot 9) 11 [1,9,10] (fun (sv2:Int×Int)=>[(4,(vi sv2.1)),(5,(vi sv2.2))]) (fun _=>[]) (0,0) (S_q29_b1 a0 a1) (fun sv2 => 
.r (sv2.1,sv2.2)) id
def F_q29 (a0:TBo) (a1:Int):=(S_q29 a0 a1).den
theorem F_q29_ok {a0:TBo} {a1:Int}:FO (F_q29 a0 a1) 187 [(TBo.d a0),(vi a1)] [] (fun x=>(AV.tup [(vi x.1),(vi x.2)])) NL:=fO (s:=S_q29 a0 a1) Tryz.func187
def S_q15_b1 (a0:TBo) (a1:Y8) (a2:Int) (iv1:Nat) (sv2:Int):SC Int (Step (Int) Int) :=
.reg 4 [] [] [.w iv1,.ev 0]<|
 let e0_:=(a0.C.getD iv1 dF)
.ite (bif ((e0_.D)==a1) then ((e0_.E)==a2) else false) (
.a 6 3 2 (@F_q29_ok a0 (e0_.O)) fun rv3=>
.r (.cont (i64.wrap (sv2+(i64.wrap ((i64.wrap ((e0_.S)-(e0_.Ad)))-rv3.2)))))) (
.c sv2)
def S_q15 (a0:TBo) (a1:Y8) (a2:Int):SC Int Int :=
.range (a0.C.length:Int) a0.C.length rfl (.slot 13) 15 [1,2,3,13,14] (fun (sv2:Int)=>[(7,(vi sv2))]) (fun _=>[]) 0 (S_q15_b1 a0 a1 a2) (fun sv2 => 
.r sv2) id
def F_q15 (a0:TBo) (a1:Y8) (a2:Int):=(S_q15 a0 a1 a2).den
theorem F_q15_ok {a0:TBo} {a1:Y8} {a2:Int}:FO (F_q15 a0 a1 a2) 147 [(TBo.d a0),(AV.d (DV.str a1)),(vi a2)] [] vi NL:=fO (s:=S_q15 a0 a1 a2) Tryz.func147
def S_q38 (a0:TRi) (a1:Int) (a2:Int):SC (TRi×Int) (TRi×Int) :=
.call (@F_q27_ok a0) fun rv1 cv1=>
 let e1_:=(i64.wrap (a0.A-a0.M))
.calld [(!rv1)=false] dF (@F_qb_ok a1 0 e1_) fun rv2 cv2 =>
.reg 1 [] [(1,hc cv1 [] true),(10,hc cv2 [] true)] [.cl 2 cv1 [] 2 true,.clg 0 [(!rv1)=false] cv2 [] 2 true]<|
 let e0_:=(⟨[],0,0,0,0⟩:TRi)
.ite (cO (!rv1) (!rv2)) (
.r (e0_,1)) (
.a 3 1 2 (@F_qb_ok a2 1 1000000000000000) fun rv3=>
.ite (!rv3) (
.r (e0_,2)) (
.ite (decide (a2>(i64.wrap (e1_-a1)))) (
.r (e0_,15)) (
.r ((⟨a0.D,a0.E,a0.A,a0.K,(i64.wrap (a0.M+a2))⟩:TRi),0))))
def F_q38 (a0:TRi) (a1:Int) (a2:Int):=(S_q38 a0 a1 a2).den
theorem F_q38_ok {a0:TRi} {a1:Int} {a2:Int}:FO (F_q38 a0 a1 a2) 235 [(TRi.d a0),(vi a1),(vi a2)] [] (fun x=>(AV.tup [(TRi.d x.1),(vi x.2)])) NL:=fO (s:=S_q38 a0 a1 a2) Tryz.func235
end
end Go.Proofs.YtlhikmklpelceaaGreatDoor
/- What the functions compute,and that their calls return it. No condition. -/
namespace Go.Proofs.YtlhikmklpelceaaGreatDoor
open Go Go.TA
open Go.IntKind (i64)
noncomputable section
set_option maxRecDepth 100000
def S_q5m (a0:TOf) (a1:TOp):SC (TOf×Int) (TOf×Int) :=
 let e0_:=(⟨0,[],(⟨[],[],[],[]⟩:TBo)⟩:TOf)
.reg 0 [] [(2,{ obs:=[(2,(TOf.b e0_))] })] [.pf cz5]<|
.a 1 5 3 (@F_q35_ok a0 a1.D a1.E) fun rv1=>
 let e1_:=(0,hv (TOf.d e0_))
.ite (!rv1) (
.reg 2 [] [e1_] [.pf cz6]<|
.r (e0_,6)) (
.call (@F_q1m_ok a0 a1.D a1.E) fun rv2 cv2=>
.call (@F_q15_ok a0.Ae a1.D a1.E) fun rv3 cv3=>
.call (@F_q38_ok rv2 rv3 a1.S) fun rv4 cv4=>
.reg 3 [19,20] [(5,hc cv2 [] true),(12,hc cv3 [] true),(15,hc cv4 [] true)] [.cl 2 cv2 [] 3 true,.cl 2 cv2 [] 4 true,.cl 1 cv3 [] 3 true,.cl 1 cv3 [] 4 true,.cl 0 cv4 [] 3 true,.cl 0 cv4 [] 4 true]<|
.ite (rv4.2 != 0) (
.reg 5 [] [e1_] [.pf cz6]<|
.r (e0_,rv4.2)) (
.a 6 2 4 (@F_q4c_ok a0 rv4.1) fun rv5=>
.r (rv5,0)))
def F_q5m (a0:TOf) (a1:TOp):=(S_q5m a0 a1).den
theorem F_q5m_ok {a0:TOf} {a1:TOp}:FO (F_q5m a0 a1) 208 [(TOf.d a0),(TOp.d a1)] [] (fun x=>(AV.tup [(TOf.d x.1),(vi x.2)])) NL:=fO (s:=S_q5m a0 a1) Tryz.func208
def S_q6 (a0:Int) (a1:Int) (a2:Int):SC Bool Bool :=
.r (bif (decide (a0>=a1)) then (decide (a0<=a2)) else false)
def F_q6 (a0:Int) (a1:Int) (a2:Int):=(S_q6 a0 a1 a2).den
theorem F_q6_ok {a0:Int} {a1:Int} {a2:Int}:FO (F_q6 a0 a1 a2) 243 [(vi a0),(vi a1),(vi a2)] [] vb NL:=fO (s:=S_q6 a0 a1 a2) Tryz.func243
def S_q10 (a0:Int):SC Bool Bool :=
.a 1 1 0 (@F_q6_ok a0 0 35990) fun rv1=>
.r rv1
def F_q10 (a0:Int):=(S_q10 a0).den
theorem F_q10_ok {a0:Int}:FO (F_q10 a0) 244 [(vi a0)] [] vb NL:=fO (s:=S_q10 a0) Tryz.func244
def S_q70 (a0:Int):SC Bool Bool :=
.r (bif (decide (a0>=0)) then (decide (a0<=36000)) else false)
def F_q70 (a0:Int):=(S_q70 a0).den
theorem F_q70_ok {a0:Int}:FO (F_q70 a0) 272 [(vi a0)] [] vb NL:=fO (s:=S_q70 a0) Tryz.func272
def S_q1n (a0:Int):SC Int Int :=
.a 1 1 0 (@F_q70_ok a0) fun rv1=>
.ite (!rv1) (
.r (-1)) (
.reg 3 [] [] [.pf (p:=(360:Int)≠0) dk]<|
.r (i64.wrap (a0.tdiv 360)))
def F_q1n (a0:Int):=(S_q1n a0).den
theorem F_q1n_ok {a0:Int}:FO (F_q1n a0) 245 [(vi a0)] [] vi NL:=fO (s:=S_q1n a0) Tryz.func245
def S_q1o (a0:Int):SC Bool Bool :=
.a 1 1 0 (@F_q6_ok a0 1 1000000000000) fun rv1=>
.r rv1
def F_q1o (a0:Int):=(S_q1o a0).den
theorem F_q1o_ok {a0:Int}:FO (F_q1o a0) 246 [(vi a0)] [] vb NL:=fO (s:=S_q1o a0) Tryz.func246
def S_q3t (a0:TBo) (a1:TRe):SC Int Int :=
.a 1 3 2 (@F_q29_ok a0 a1.O) fun rv1=>
.r (i64.wrap ((i64.wrap (a1.S-a1.Ad))-rv1.1))
def F_q3t (a0:TBo) (a1:TRe):=(S_q3t a0 a1).den
theorem F_q3t_ok {a0:TBo} {a1:TRe}:FO (F_q3t a0 a1) 247 [(TBo.d a0),(TRe.d a1)] [] vi NL:=fO (s:=S_q3t a0 a1) Tryz.func247
def S_q4d (a0:TBo) (a1:Int):SC Bool Bool :=
.guard [(0:Int)<=a1,(a1).toNat<a0.C.length]<|
.reg 1 [] [] [.ev 0,.ev 1]<|
 let e2_:=(a0.C.getD ((a1).toNat) dF)
 let e5_:=((e2_.O)==(i64.wrap (a1+1)))
.calld [e5_=true] dF (@F_q7d_ok (e2_.D)) fun rv1 cv1 =>
 let e3_:=(bif e5_ then (decide ((rv1.length:Int)>0)) else false)
.calld [e3_=true] dF (@F_q6_ok (e2_.E) 0 99) fun rv2 cv2 =>
 let e0_:=(bif e3_ then rv2 else false)
.calld [e0_=true] dF (@F_q10_ok (e2_.Z)) fun rv3 cv3 =>
 let e6_:=(bif e0_ then rv3 else false)
.calld [e6_=true] dF (@F_q1n_ok (e2_.Z)) fun rv4 cv4 =>
 let e1_:=(bif e6_ then (rv4==(e2_.E)) else false)
.calld [e1_=true] dF (@F_q1o_ok (e2_.S)) fun rv5 cv5 =>
 let e7_:=(bif e1_ then rv5 else false)
.calld [e7_=true] dF (@F_q6_ok (e2_.Ad) 0 (e2_.S)) fun rv6 cv6 =>
 let e4_:=(bif e7_ then rv6 else false)
.calld [e4_=true] dF (@F_q3t_ok a0 e2_) fun rv7 cv7 =>
.reg 2 [] [(8,hc cv1 [] true),(15,hc cv2 [] true),(20,hc cv3 [] true),(25,hc cv4 [] true),(33,hc cv5 [] true),(40,hc cv6 [] true),(45,hc cv7 [] true)] [.clg 12 [e5_=true] cv1 [] 2 true,.clg 10 [e3_=true] cv2 [] 2 true,.clg 8 [e0_=true] cv3 [] 2 true,.clg 6 [e6_=true] cv4 [] 2 true,.clg 4 [e1_=true] cv5 [] 2 true,.clg 2 [e7_=true] cv6 [] 2 true,.clg 0 [e4_=true] cv7 [] 2 true]<|
.r (bif e4_ then (decide (rv7>=0)) else false)
def F_q4d (a0:TBo) (a1:Int):=(S_q4d a0 a1).den
theorem F_q4d_ok {a0:TBo} {a1:Int}:FO (F_q4d a0 a1) 211 [(TBo.d a0),(vi a1)] [] vb NL:=fO (s:=S_q4d a0 a1) Tryz.func211
def S_q39_b1 (a0:TBo) (iv1:Nat) (_:Unit):SC Bool (Step (Unit) Bool) :=
.a 4 3 1 (@F_q4d_ok a0 (iv1:Int)) fun rv2=>
.ite (!rv2) (
.r (.ret false)) (
.r (.cont ()))
def S_q39 (a0:TBo) (a1:Int):SC Bool Bool :=
.guard [(a1).toNat<2 ^ 63]<|
.range a1 ((a1).toNat) rfl (.why (.ev 0)) 9 [1,2,3,8] (fun (_:Unit)=>[]) (fun _=>[]) () (S_q39_b1 a0) (fun _ => 
.r (decide (a1<=200))) id
def F_q39 (a0:TBo) (a1:Int):=(S_q39 a0 a1).den
theorem F_q39_ok {a0:TBo} {a1:Int}:FO (F_q39 a0 a1) 210 [(TBo.d a0),(vi a1),(AV.fn 211 [])] [] vb NL:=fO (s:=S_q39 a0 a1) Tryz.func210
def S_q2l_b1 (a0:TBo) (a1:Int) (iv1:Nat) (sv2:Int):SC Int (Step (Int) Int) :=
.reg 4 [] [] [.w iv1,.ev 0]<|
 let e0_:=(a0.I.getD iv1 dF)
.ite ((e0_.Ac)==a1) (
.r (.cont (i64.wrap (sv2+(e0_.S))))) (
.c sv2)
def S_q2l (a0:TBo) (a1:Int):SC Int Int :=
.range (a0.I.length:Int) a0.I.length rfl (.slot 9) 11 [1,9,10] (fun (sv2:Int)=>[(5,(vi sv2))]) (fun _=>[]) 0 (S_q2l_b1 a0 a1) (fun sv2 => 
.r sv2) id
def F_q2l (a0:TBo) (a1:Int):=(S_q2l a0 a1).den
theorem F_q2l_ok {a0:TBo} {a1:Int}:FO (F_q2l a0 a1) 273 [(TBo.d a0),(vi a1)] [] vi NL:=fO (s:=S_q2l a0 a1) Tryz.func273
def S_q3u (a0:TBo) (a1:TCo):SC Int Int :=
.a 1 8 2 (@F_q2l_ok a0 a1.O) fun rv1=>
.r (i64.wrap ((i64.wrap (a1.S-a1.Ad))-rv1))
def F_q3u (a0:TBo) (a1:TCo):=(S_q3u a0 a1).den
theorem F_q3u_ok {a0:TBo} {a1:TCo}:FO (F_q3u a0 a1) 248 [(TBo.d a0),(TCo.d a1)] [] vi NL:=fO (s:=S_q3u a0 a1) Tryz.func248
def S_q4e (a0:TBo) (a1:Int):SC Bool Bool :=
.guard [(0:Int)<=a1,(a1).toNat<a0.G.length]<|
.reg 1 [] [] [.ev 0,.ev 1]<|
 let e1_:=(a0.G.getD ((a1).toNat) dF)
 let e6_:=((e1_.O) != (i64.wrap (a1+1)))
.calld [e6_=false] dF (@F_q6_ok (e1_.X) 1 (a0.C.length:Int)) fun rv1 cv1 =>
.reg 2 [] [(11,hc cv1 [] true)] [.clg 0 [e6_=false] cv1 [] 2 true]<|
.ite (cO e6_ (!rv1)) (
.r false) (
 let e5_:=(i64.wrap ((e1_.X)-1))
.guard [(0:Int)<=e5_,(e5_).toNat<a0.C.length]<|
.reg 4 [] [] [.ev 0,.ev 1]<|
.call (@F_q10_ok (e1_.Z)) fun rv2 cv2=>
 let e9_:=(a0.C.getD ((e5_).toNat) dF)
 let e3_:=(bif rv2 then (decide ((e1_.Z)>=(e9_.Z))) else false)
.calld [e3_=true] dF (@F_q1n_ok (e1_.Z)) fun rv3 cv3 =>
 let e0_:=(bif e3_ then (rv3==(e9_.E)) else false)
.calld [e0_=true] dF (@F_q1o_ok (e1_.S)) fun rv4 cv4 =>
 let e7_:=(bif e0_ then rv4 else false)
.calld [e7_=true] dF (@F_q6_ok (e1_.Ad) 0 (e1_.S)) fun rv5 cv5 =>
 let e4_:=(bif e7_ then rv5 else false)
.calld [e4_=true] dF (@F_q6_ok (e1_.Ah) 1 1000000) fun rv6 cv6 =>
 let e2_:=(bif e4_ then rv6 else false)
.calld [e2_=true] dF (@F_q10_ok (e1_.Aj)) fun rv7 cv7 =>
 let e8_:=(bif e2_ then rv7 else false)
.calld [e8_=true] dF (@F_q3u_ok a0 e1_) fun rv8 cv8 =>
.reg 5 [] [(2,hc cv2 [] true),(13,hc cv3 [] true),(21,hc cv4 [] true),(28,hc cv5 [] true),(33,hc cv6 [] true),(38,hc cv7 [] true),(43,hc cv8 [] true)] [.cl 12 cv2 [] 3 true,.clg 10 [e3_=true] cv3 [] 3 true,.clg 8 [e0_=true] cv4 [] 3 true,.clg 6 [e7_=true] cv5 [] 3 true,.clg 4 [e4_=true] cv6 [] 3 true,.clg 2 [e2_=true] cv7 [] 3 true,.clg 0 [e8_=true] cv8 [] 3 true]<|
.r (bif e8_ then (decide (rv8>=0)) else false))
def F_q4e (a0:TBo) (a1:Int):=(S_q4e a0 a1).den
theorem F_q4e_ok {a0:TBo} {a1:Int}:FO (F_q4e a0 a1) 212 [(TBo.d a0),(vi a1)] [] vb NL:=fO (s:=S_q4e a0 a1) Tryz.func212
def S_q3a_b1 (a0:TBo) (iv1:Nat) (_:Unit):SC Bool (Step (Unit) Bool) :=
.a 4 3 1 (@F_q4e_ok a0 (iv1:Int)) fun rv2=>
.ite (!rv2) (
.r (.ret false)) (
.r (.cont ()))
def S_q3a (a0:TBo) (a1:Int):SC Bool Bool :=
.guard [(a1).toNat<2 ^ 63]<|
.range a1 ((a1).toNat) rfl (.why (.ev 0)) 9 [1,2,3,8] (fun (_:Unit)=>[]) (fun _=>[]) () (S_q3a_b1 a0) (fun _ => 
.r (decide (a1<=200))) id
def F_q3a (a0:TBo) (a1:Int):=(S_q3a a0 a1).den
theorem F_q3a_ok {a0:TBo} {a1:Int}:FO (F_q3a a0 a1) 210 [(TBo.d a0),(vi a1),(AV.fn 212 [])] [] vb NL:=fO (s:=S_q3a a0 a1) Tryz.func210
def S_q1p (a0:TBo) (a1:TCo):SC Int Int :=
 let e0_:=(i64.wrap (a1.X-1))
.guard [(0:Int)<=e0_,(e0_).toNat<a0.C.length]<|
.reg 1 [] [] [.ev 0,.ev 1]<|
.r ((a0.C.getD ((e0_).toNat) dF).E)
def F_q1p (a0:TBo) (a1:TCo):=(S_q1p a0 a1).den
theorem F_q1p_ok {a0:TBo} {a1:TCo}:FO (F_q1p a0 a1) 249 [(TBo.d a0),(TCo.d a1)] [] vi NL:=fO (s:=S_q1p a0 a1) Tryz.func249
def S_q4f (a0:TBo) (a1:Int):SC Bool Bool :=
.guard [(0:Int)<=a1,(a1).toNat<a0.I.length]<|
.reg 1 [] [] [.ev 0,.ev 1]<|
 let e1_:=(a0.I.getD ((a1).toNat) dF)
 let e4_:=((e1_.O) != (i64.wrap (a1+1)))
.calld [e4_=false] dF (@F_q6_ok (e1_.Ac) 1 (a0.G.length:Int)) fun rv1 cv1 =>
.reg 2 [] [(11,hc cv1 [] true)] [.clg 0 [e4_=false] cv1 [] 2 true]<|
.ite (cO e4_ (!rv1)) (
.r false) (
 let e3_:=(i64.wrap ((e1_.Ac)-1))
.guard [(0:Int)<=e3_,(e3_).toNat<a0.G.length]<|
.reg 4 [] [] [.ev 0,.ev 1]<|
.call (@F_q10_ok (e1_.Z)) fun rv2 cv2=>
 let e5_:=(a0.G.getD ((e3_).toNat) dF)
 let e0_:=(bif rv2 then (decide ((e1_.Z)>=(e5_.Z))) else false)
.calld [e0_=true] dF (@F_q1n_ok (e1_.Z)) fun rv3 cv3 =>
.calld [e0_=true] dF (@F_q1p_ok a0 e5_) fun rv4 cv4 =>
 let e2_:=(bif e0_ then (decide (rv3<=(i64.wrap (rv4+1)))) else false)
.calld [e2_=true] dF (@F_q1o_ok (e1_.S)) fun rv5 cv5 =>
.reg 5 [] [(2,hc cv2 [] true),(13,hc cv3 [] true),(16,hc cv4 [] true),(23,hc cv5 [] true)] [.cl 6 cv2 [] 3 true,.clg 4 [e0_=true] cv3 [] 3 true,.clg 2 [e0_=true] cv4 [] 3 true,.clg 0 [e2_=true] cv5 [] 3 true]<|
.r (bif e2_ then rv5 else false))
def F_q4f (a0:TBo) (a1:Int):=(S_q4f a0 a1).den
theorem F_q4f_ok {a0:TBo} {a1:Int}:FO (F_q4f a0 a1) 213 [(TBo.d a0),(vi a1)] [] vb NL:=fO (s:=S_q4f a0 a1) Tryz.func213
def S_q3b_b1 (a0:TBo) (iv1:Nat) (_:Unit):SC Bool (Step (Unit) Bool) :=
.a 4 3 1 (@F_q4f_ok a0 (iv1:Int)) fun rv2=>
.ite (!rv2) (
.r (.ret false)) (
.r (.cont ()))
def S_q3b (a0:TBo) (a1:Int):SC Bool Bool :=
.guard [(a1).toNat<2 ^ 63]<|
.range a1 ((a1).toNat) rfl (.why (.ev 0)) 9 [1,2,3,8] (fun (_:Unit)=>[]) (fun _=>[]) () (S_q3b_b1 a0) (fun _ => 
.r (decide (a1<=200))) id
def F_q3b (a0:TBo) (a1:Int):=(S_q3b a0 a1).den
theorem F_q3b_ok {a0:TBo} {a1:Int}:FO (F_q3b a0 a1) 210 [(TBo.d a0),(vi a1),(AV.fn 213 [])] [] vb NL:=fO (s:=S_q3b a0 a1) Tryz.func210
def S_q4g (a0:(List TOr)):SC (List TOr) (List TOr) :=
.reg 0 [] [] []<|
.nils 0 (
.guard [a0.length * (2 * 40)<=2 ^ 48]<|
.reg 1 [] [] []<|
.lev 0 (AV.d (eL TOr.e a0)) (.pf (lvQ true a0.length fun j=>(TOr.e (a0.getD j dF))))<|
.br true (.pf (p:=true=true) rfl)<|
.reg 2 [] [] []<|
.bor 5 (fun j=>AV.d (TOr.e (a0.getD j dF))) [2]<|
.cst (A:=a0.length=0) (.ev 1) [(2,AV.ref 0 0 0 0)] [(2,(AV.ref 0 a0.length 0 a0.length))] [(Ob.seq 5 0 fun j=>AV.d (TOr.e (a0.getD j dF)))] [(eS 5 TOr.e a0)] (fun h=>⟨by rw[h],by unfold eS; rw[h]⟩)<|
.r a0) (
.reg 1 [] [] []<|
.lev 0 (AV.d (eL TOr.e a0)) (.pf (lvQ false a0.length fun j=>(TOr.e (a0.getD j dF))))<|
.br false (.pf (p:=false=false) rfl)<|
.guard [a0.length * (2 * 40)<=2 ^ 48]<|
.reg 3 [] [(2,{ h:=.obj })] [.pf (p:=∀ k,k<a0.length->(TOr.d (a0.getD k dF)).wd=5) (fun _ _=>rfl),.ev 0]<|
.r a0)
def F_q4g (a0:(List TOr)):=(S_q4g a0).den
theorem F_q4g_ok {a0:(List TOr)}:FO (F_q4g a0) 275 [(AV.d (eL TOr.e a0))] [] (fun x=>(AV.ref 0 x.length 0 x.length)) (fun x=>[(eS 5 TOr.e x)]):=fO (s:=S_q4g a0) Tryz.func275
def S_q3v (a0:TOr) (p0:Int):SC Bool Bool :=
.r (a0.U != p0)
def F_q3v (a0:TOr) (p0:Int):=(S_q3v a0 p0).den
theorem F_q3v_ok {a0:TOr} {p0:Int}:FO (F_q3v a0 p0) 276 [(TOr.d a0),(vp 0)] [(Ob.box (vi p0))] vb (fun _=>[(Ob.box (vi p0))]):=fO (s:=S_q3v a0 p0) Tryz.func276
def S_q1q_b1 (p0:(List TOr)) (p1:Int) (iv1:Nat) (_:Unit):SC Int (Step (Unit) Int) :=
.call (@F_q3v_ok (p0.getD (0+iv1) dF) p1) fun rv2 cv2=>
.guard [(0+iv1)<p0.length]<|
.reg 4 [] [(5,hc cv2 [1] true)] [.e p0.length,.w iv1,.ev 2,.e p0.length,.ev 0,.cl 1 cv2 [1] 2 true]<|
.ite rv2 (
.r (.ret (iv1:Int))) (
.r (.cont ()))
def S_q1q (p0:(List TOr)) (p1:Int):SC Int Int :=
.guard [p0.length<2 ^ 63]<|
.range (p0.length:Int) p0.length rfl (.why (.ev 0)) 8 [0,1,7] (fun (_:Unit)=>[]) (fun _=>[]) () (S_q1q_b1 p0 p1) (fun _ => 
.r (-1)) id
def F_q1q (p0:(List TOr)) (p1:Int):=(S_q1q p0 p1).den
theorem F_q1q_ok {p0:(List TOr)} {p1:Int}:FO (F_q1q p0 p1) 277 [(AV.ref 0 p0.length 0 p0.length),(AV.fn 276 [(vp 1)])] [(eS 5 TOr.e p0),(Ob.box (vi p1))] vi (fun _=>[(eS 5 TOr.e p0),(Ob.box (vi p1))]):=fO (s:=S_q1q p0 p1) Tryz.func277
abbrev R_q1r:=(List TOr)
def S_q1r_b1 (p1:Int) (sv1:(List TOr)×Int×Int):SC R_q1r (Step ((List TOr)×Int×Int) R_q1r) :=
.ite (decide (sv1.2.2<(sv1.1.length:Int))) (
.guard [(0:Int)<=sv1.2.2,(sv1.2.2).toNat<sv1.1.length,(0+(sv1.2.2).toNat)<sv1.1.length]<|
.reg 7 [] [] [.e sv1.1.length,.ev 0,.ev 1,.e sv1.1.length,.ev 2]<|
 let e1_:=(sv1.1.getD (0+(sv1.2.2).toNat) dF)
.call (@F_q3v_ok e1_ p1) fun rv2 cv2=>
.k 8 2 cv2 [1] 3 true<|
 let e4_:=(i64.wrap (sv1.2.2+1))
.ite (!rv2) (
 let e3_:=(0+(sv1.2.1).toNat)
.guard [(0:Int)<=sv1.2.1,(sv1.2.1).toNat<sv1.1.length,e3_<sv1.1.length]<|
 let e0_:=(sv1.1.set e3_ e1_)
.reg 9 [] [(4,{ obs:=[(0,(eS 5 TOr.e e0_))] })] [.e sv1.1.length,.ev 0,.ev 1,.e sv1.1.length,.ev 2,.pf (zu (sz:=5) (e:=TOr.e) (l:=sv1.1) (i:=e3_) (x:=e1_) (fun _=>rfl))]<|
 let e2_:=[(eS 5 TOr.e e0_),(Ob.box (vi p1)),(TOr.b e1_)]
.cst (A:=True) (.pf trivial) [(0,(AV.ref 0 sv1.1.length 0 sv1.1.length)),(1,(AV.fn 276 [(vp 1)])),(5,(vi sv1.2.1)),(6,(vi sv1.2.2))] [(0,(AV.ref 0 (e0_.length) 0 (e0_.length))),(1,(AV.fn 276 [(vp 1)])),(5,(vi sv1.2.1)),(6,(vi sv1.2.2))] e2_ e2_ (fun _=>⟨by simp +zetaDelta only[ya],by rfl⟩)<|
.r (.cont (e0_,(i64.wrap (sv1.2.1+1)),e4_))) (
.r (.cont (sv1.1,sv1.2.1,e4_)))) (
.r (.brk (sv1.1,sv1.2.1,sv1.2.2)))
def S_q1r (p0:(List TOr)) (p1:Int):SC R_q1r R_q1r :=
.call (@F_q1q_ok p0 p1) fun rv3 cv3=>
.k 1 2 cv3 [0,1] 2 true<|
.ite (rv3==(-1)) (
.guard [p0.length<2 ^ 63]<|
.reg 3 [] [] []<|
.frz 0 (.ev 0) none [4] []<|
.r p0) (
.iter [1] (fun (sv1:(List TOr)×Int×Int)=>[(0,(AV.ref 0 sv1.1.length 0 sv1.1.length)),(5,(vi sv1.2.1)),(6,(vi sv1.2.2))]) (fun sv1=>[(0,(eS 5 TOr.e sv1.1))]) (p0,rv3,(i64.wrap (rv3+1))) (S_q1r_b1 p1) (fun sv1 =>
.guard [(0:Int)<=sv1.2.1,(sv1.2.1).toNat<=sv1.1.length]<|
 let e0_:=(sv1.1.length-(sv1.2.1).toNat)
 let e1_:=(⟨0,0,0,0,false⟩:TOr)
 let e2_:=(0+(sv1.2.1).toNat)
 let e3_:=(eS 5 TOr.e (clearL sv1.1 e2_ e0_ e1_))
.reg 11 [] [(3,{ obs:=[(0,e3_)] })] [.ev 0,.ev 1,.e sv1.1.length,.e sv1.1.length,.pf (zfj (sz:=5) (e:=TOr.e) (l:=sv1.1) (off:=e2_) (n:=e0_) (z:=e1_))]<|
 let e4_:=((clearL sv1.1 e2_ e0_ e1_).length)
.cst (A:=True) (.pf trivial) [(0,(AV.ref 0 sv1.1.length 0 sv1.1.length)),(5,(vi sv1.2.1))] [(0,(AV.ref 0 e4_ 0 e4_)),(5,(vi sv1.2.1))] [e3_,(Ob.box (vi p1))] [e3_,(Ob.box (vi p1))] (fun _=>⟨by simp +zetaDelta only[z1n],by rfl⟩)<|
.guard [(sv1.2.1).toNat<=(clearL sv1.1 e2_ e0_ e1_).length]<|
.reg 12 [] [] [.ev 1,.ev 0,.e e4_]<|
.guard [(clearL sv1.1 e2_ e0_ e1_).length<2 ^ 63]<|
.frz 0 (.ev 0) (some (.der (fun (h:(sv1.2.1).toNat<=(clearL sv1.1 e2_ e0_ e1_).length)=>(y26 (Nat.sub_le _ _) h:((sv1.2.1).toNat-0)<=(clearL sv1.1 e2_ e0_ e1_).length)) 1)) [4] []<|
 let e5_:=((clearL sv1.1 e2_ e0_ e1_).take ((sv1.2.1).toNat))
.lev 4 (AV.d (eL TOr.e e5_)) (.der (fun (h:(sv1.2.1).toNat<=(clearL sv1.1 e2_ e0_ e1_).length)=>lvT TOr.e (clearL sv1.1 e2_ e0_ e1_) h) 1)<|
.r e5_) id)
def F_q1r (p0:(List TOr)) (p1:Int):=(S_q1r p0 p1).den
theorem F_q1r_ok {p0:(List TOr)} {p1:Int}:FO (F_q1r p0 p1) 274 [(AV.ref 0 p0.length 0 p0.length),(AV.fn 276 [(vp 1)])] [(eS 5 TOr.e p0),(Ob.box (vi p1))] (fun x=>(AV.d (eL TOr.e x))) (fun _=>[Ob.dead,(Ob.box (vi p1))]):=fO (s:=S_q1r p0 p1) Tryz.func274
def S_q4h (a0:TBo) (a1:Int):SC (List TOr) (List TOr) :=
.call (@F_q4g_ok a0.T) fun rv1 cv1=>
.call (@F_q1r_ok rv1 a1) fun rv2 cv2=>
.reg 1 [] [(2,hc cv1 [] false),(4,hc cv2 [2,1] false)] [.cl 1 cv1 [] 2 false,.cl 0 cv2 [2,1] 3 false]<|
.r rv2
def F_q4h (a0:TBo) (a1:Int):=(S_q4h a0 a1).den
theorem F_q4h_ok {a0:TBo} {a1:Int}:FO (F_q4h a0 a1) 250 [(TBo.d a0),(vi a1)] [] (fun x=>(AV.d (eL TOr.e x))) NL:=fO (s:=S_q4h a0 a1) Tryz.func250
def S_q71 (a0:TOr) (p0:TOr):SC Bool Bool :=
.r (cO (!a0.Al) (decide (a0.Z>p0.Z)))
def F_q71 (a0:TOr) (p0:TOr):=(S_q71 a0 p0).den
theorem F_q71_ok {a0:TOr} {p0:TOr}:FO (F_q71 a0 p0) 251 [(TOr.d a0),(vp 0)] [(TOr.b p0)] vb (fun _=>[(TOr.b p0)]):=fO (s:=S_q71 a0 p0) Tryz.func251
def S_q2m_b1 (a0:(List TOr)) (p0:TOr) (iv1:Nat) (_:Unit):SC Int (Step (Unit) Int) :=
.call (@F_q71_ok (a0.getD iv1 dF) p0) fun rv2 cv2=>
.reg 4 [] [(5,hc cv2 [0] true)] [.w iv1,.ev 1,.cl 0 cv2 [0] 1 true]<|
.ite rv2 (
.r (.ret (iv1:Int))) (
.r (.cont ()))
def S_q2m (a0:(List TOr)) (p0:TOr):SC Int Int :=
.range (a0.length:Int) a0.length rfl (.slot 0) 8 [0,1,7] (fun (_:Unit)=>[]) (fun _=>[]) () (S_q2m_b1 a0 p0) (fun _ => 
.r (-1)) id
def F_q2m (a0:(List TOr)) (p0:TOr):=(S_q2m a0 p0).den
theorem F_q2m_ok {a0:(List TOr)} {p0:TOr}:FO (F_q2m a0 p0) 277 [(AV.d (eL TOr.e a0)),(AV.fn 251 [(vp 0)])] [(TOr.b p0)] vi (fun _=>[(TOr.b p0)]):=fO (s:=S_q2m a0 p0) Tryz.func277
def S_q5n (a0:(List TOr)) (p0:TOr):SC Bool Bool :=
.call (@F_q2m_ok a0 p0) fun rv1 cv1=>
.k 1 2 cv1 [0] 1 true<|
.r (decide (rv1>=0))
def F_q5n (a0:(List TOr)) (p0:TOr):=(S_q5n a0 p0).den
theorem F_q5n_ok {a0:(List TOr)} {p0:TOr}:FO (F_q5n a0 p0) 252 [(AV.d (eL TOr.e a0)),(AV.fn 251 [(vp 0)])] [(TOr.b p0)] vb (fun _=>[(TOr.b p0)]):=fO (s:=S_q5n a0 p0) Tryz.func252
def S_q4i (a0:TBo) (a1:Int):SC Bool Bool :=
.guard [(0:Int)<=a1,(a1).toNat<a0.T.length]<|
.reg 1 [] [] [.ev 0,.ev 1]<|
 let e1_:=(a0.T.getD ((a1).toNat) dF)
 let e6_:=((e1_.O) != (i64.wrap (a1+1)))
.calld [e6_=false] dF (@F_q6_ok (e1_.U) 1 (a0.I.length:Int)) fun rv1 cv1 =>
.reg 2 [] [(11,hc cv1 [] true)] [.clg 0 [e6_=false] cv1 [] 2 true]<|
.ite (cO e6_ (!rv1)) (
.r false) (
 let e5_:=(i64.wrap ((e1_.U)-1))
.guard [(0:Int)<=e5_,(e5_).toNat<a0.I.length]<|
.reg 4 [] [] [.ev 0,.ev 1]<|
 let e7_:=(a0.T.take ((a1).toNat))
 let e4_:=(⟨[],[],[],e7_⟩:TBo)
.call (@F_q4h_ok e4_ (e1_.U)) fun rv2 cv2=>
.guard [(a1).toNat<=a0.T.length]<|
.reg 5 [] [(3,hv (AV.d (eL TOr.e e7_))),(4,hv (TBo.d e4_)),(7,hc cv2 [] true)] [.ev 7,.ev 0,.der (fun (h0:(a1).toNat<=a0.T.length)=>lvT TOr.e a0.T h0) 0,.pf (p:=LeV (AV.d (DV.agg [Z0,Z0,Z0,(eL TOr.e e7_)])) (TBo.d e4_)) (z2p rfl (DLe.agg (DLeL.cons DLe.sl0 (DLeL.cons DLe.sl0 (DLeL.cons DLe.sl0 (DLeL.cons (DLe.refl _) DLeL.nil)))))),.cl 1 cv2 [] 3 true]<|
.call (@F_q10_ok (e1_.Z)) fun rv3 cv3=>
 let e8_:=(a0.I.getD ((e5_).toNat) dF)
 let e0_:=(bif rv3 then (decide ((e1_.Z)>=(e8_.Z))) else false)
.calld [e0_=true] dF (@F_q1n_ok (e1_.Z)) fun rv4 cv4 =>
 let e3_:=(i64.wrap ((e8_.Ac)-1))
.calld [e0_=true] dF (@F_q1p_ok a0 (a0.G.getD ((e3_).toNat) dF)) fun rv5 cv5 =>
 let e2_:=(bif (bif e0_ then (decide (rv4<=(i64.wrap (rv5+1)))) else false) then ((e1_.Ak)==(i64.wrap ((rv2.length:Int)+1))) else false)
.calld [e2_=true] dF (@F_q5n_ok rv2 e1_) fun rv6 cv6 =>
.guard [AllP [e0_=true]->((0:Int)<=e3_),AllP [e0_=true]->((e3_).toNat<a0.G.length)]<|
.reg 7 [] [(2,hc cv3 [] true),(13,hc cv4 [] true),(22,hc cv5 [] true),(37,hc cv6 [1] true)] [.cl 8 cv3 [] 3 true,.clg 6 [e0_=true] cv4 [] 3 true,.ev 0,.ev 1,.clg 4 [e0_=true] cv5 [] 3 true,.clg 2 [e2_=true] cv6 [1] 3 true]<|
.r (bif e2_ then (!rv6) else false))
def F_q4i (a0:TBo) (a1:Int):=(S_q4i a0 a1).den
theorem F_q4i_ok {a0:TBo} {a1:Int}:FO (F_q4i a0 a1) 214 [(TBo.d a0),(vi a1)] [] vb NL:=fO (s:=S_q4i a0 a1) Tryz.func214
end
end Go.Proofs.YtlhikmklpelceaaGreatDoor
/- What the functions compute,and that their calls return it. No condition. -/
namespace Go.Proofs.YtlhikmklpelceaaGreatDoor
open Go Go.TA
open Go.IntKind (i64)
noncomputable section
set_option maxRecDepth 100000
def S_q3c_b1 (a0:TBo) (iv1:Nat) (_:Unit):SC Bool (Step (Unit) Bool) :=
.a 4 3 1 (@F_q4i_ok a0 (iv1:Int)) fun rv2=>
.ite (!rv2) (
.r (.ret false)) (
.r (.cont ()))
def S_q3c (a0:TBo) (a1:Int):SC Bool Bool :=
.guard [(a1).toNat<2 ^ 63]<|
.range a1 ((a1).toNat) rfl (.why (.ev 0)) 9 [1,2,3,8] (fun (_:Unit)=>[]) (fun _=>[]) () (S_q3c_b1 a0) (fun _ => 
.r (decide (a1<=200))) id
def F_q3c (a0:TBo) (a1:Int):=(S_q3c a0 a1).den
theorem F_q3c_ok {a0:TBo} {a1:Int}:FO (F_q3c a0 a1) 210 [(TBo.d a0),(vi a1),(AV.fn 214 [])] [] vb NL:=fO (s:=S_q3c a0 a1) Tryz.func210
def S_q1s (a0:TBo):SC Bool Bool :=
.call (@F_q39_ok a0 (a0.C.length:Int)) fun rv1 cv1=>
.calld [rv1=true] dF (@F_q3a_ok a0 (a0.G.length:Int)) fun rv2 cv2 =>
 let e1_:=(bif rv1 then rv2 else false)
.calld [e1_=true] dF (@F_q3b_ok a0 (a0.I.length:Int)) fun rv3 cv3 =>
 let e0_:=(bif e1_ then rv3 else false)
.calld [e0_=true] dF (@F_q3c_ok a0 (a0.T.length:Int)) fun rv4 cv4 =>
.reg 1 [] [(4,hc cv1 [] true),(10,hc cv2 [] true),(17,hc cv3 [] true),(24,hc cv4 [] true)] [.cl 6 cv1 [] 1 true,.clg 4 [rv1=true] cv2 [] 1 true,.clg 2 [e1_=true] cv3 [] 1 true,.clg 0 [e0_=true] cv4 [] 1 true]<|
.r (bif e0_ then rv4 else false)
def F_q1s (a0:TBo):=(S_q1s a0).den
theorem F_q1s_ok {a0:TBo}:FO (F_q1s a0) 183 [(TBo.d a0)] [] vb NL:=fO (s:=S_q1s a0) Tryz.func183
def S_q5o (a0:(List TRe)):SC (List TRe) (List TRe) :=
.reg 0 [] [] []<|
.nils 0 (
.guard [a0.length * (2 * 56)<=2 ^ 48]<|
.reg 1 [] [] []<|
.lev 0 (AV.d (eL TRe.e a0)) (.pf (lvQ true a0.length fun j=>(TRe.e (a0.getD j dF))))<|
.br true (.pf (p:=true=true) rfl)<|
.reg 2 [] [] []<|
.bor 6 (fun j=>AV.d (TRe.e (a0.getD j dF))) [2]<|
.cst (A:=a0.length=0) (.ev 1) [(2,AV.ref 0 0 0 0)] [(2,(AV.ref 0 a0.length 0 a0.length))] [(Ob.seq 6 0 fun j=>AV.d (TRe.e (a0.getD j dF)))] [(eS 6 TRe.e a0)] (fun h=>⟨by rw[h],by unfold eS; rw[h]⟩)<|
.r a0) (
.reg 1 [] [] []<|
.lev 0 (AV.d (eL TRe.e a0)) (.pf (lvQ false a0.length fun j=>(TRe.e (a0.getD j dF))))<|
.br false (.pf (p:=false=false) rfl)<|
.guard [a0.length * (2 * 56)<=2 ^ 48]<|
.reg 3 [] [(2,{ h:=.obj })] [.pf (p:=∀ k,k<a0.length->(TRe.d (a0.getD k dF)).wd=6) (fun _ _=>rfl),.ev 0]<|
.r a0)
def F_q5o (a0:(List TRe)):=(S_q5o a0).den
theorem F_q5o_ok {a0:(List TRe)}:FO (F_q5o a0) 294 [(AV.d (eL TRe.e a0))] [] (fun x=>(AV.ref 0 x.length 0 x.length)) (fun x=>[(eS 6 TRe.e x)]):=fO (s:=S_q5o a0) Tryz.func294
def S_q5p (a0:(List TCo)):SC (List TCo) (List TCo) :=
.reg 0 [] [] []<|
.nils 0 (
.guard [a0.length * (2 * 56)<=2 ^ 48]<|
.reg 1 [] [] []<|
.lev 0 (AV.d (eL TCo.e a0)) (.pf (lvQ true a0.length fun j=>(TCo.e (a0.getD j dF))))<|
.br true (.pf (p:=true=true) rfl)<|
.reg 2 [] [] []<|
.bor 7 (fun j=>AV.d (TCo.e (a0.getD j dF))) [2]<|
.cst (A:=a0.length=0) (.ev 1) [(2,AV.ref 0 0 0 0)] [(2,(AV.ref 0 a0.length 0 a0.length))] [(Ob.seq 7 0 fun j=>AV.d (TCo.e (a0.getD j dF)))] [(eS 7 TCo.e a0)] (fun h=>⟨by rw[h],by unfold eS; rw[h]⟩)<|
.r a0) (
.reg 1 [] [] []<|
.lev 0 (AV.d (eL TCo.e a0)) (.pf (lvQ false a0.length fun j=>(TCo.e (a0.getD j dF))))<|
.br false (.pf (p:=false=false) rfl)<|
.guard [a0.length * (2 * 56)<=2 ^ 48]<|
.reg 3 [] [(2,{ h:=.obj })] [.pf (p:=∀ k,k<a0.length->(TCo.d (a0.getD k dF)).wd=7) (fun _ _=>rfl),.ev 0]<|
.r a0)
def F_q5p (a0:(List TCo)):=(S_q5p a0).den
theorem F_q5p_ok {a0:(List TCo)}:FO (F_q5p a0) 295 [(AV.d (eL TCo.e a0))] [] (fun x=>(AV.ref 0 x.length 0 x.length)) (fun x=>[(eS 7 TCo.e x)]):=fO (s:=S_q5p a0) Tryz.func295
def S_q5q (a0:(List TVe)):SC (List TVe) (List TVe) :=
.reg 0 [] [] []<|
.nils 0 (
.guard [a0.length * (2 * 32)<=2 ^ 48]<|
.reg 1 [] [] []<|
.lev 0 (AV.d (eL TVe.e a0)) (.pf (lvQ true a0.length fun j=>(TVe.e (a0.getD j dF))))<|
.br true (.pf (p:=true=true) rfl)<|
.reg 2 [] [] []<|
.bor 4 (fun j=>AV.d (TVe.e (a0.getD j dF))) [2]<|
.cst (A:=a0.length=0) (.ev 1) [(2,AV.ref 0 0 0 0)] [(2,(AV.ref 0 a0.length 0 a0.length))] [(Ob.seq 4 0 fun j=>AV.d (TVe.e (a0.getD j dF)))] [(eS 4 TVe.e a0)] (fun h=>⟨by rw[h],by unfold eS; rw[h]⟩)<|
.r a0) (
.reg 1 [] [] []<|
.lev 0 (AV.d (eL TVe.e a0)) (.pf (lvQ false a0.length fun j=>(TVe.e (a0.getD j dF))))<|
.br false (.pf (p:=false=false) rfl)<|
.guard [a0.length * (2 * 32)<=2 ^ 48]<|
.reg 3 [] [(2,{ h:=.obj })] [.pf (p:=∀ k,k<a0.length->(TVe.d (a0.getD k dF)).wd=4) (fun _ _=>rfl),.ev 0]<|
.r a0)
def F_q5q (a0:(List TVe)):=(S_q5q a0).den
theorem F_q5q_ok {a0:(List TVe)}:FO (F_q5q a0) 296 [(AV.d (eL TVe.e a0))] [] (fun x=>(AV.ref 0 x.length 0 x.length)) (fun x=>[(eS 4 TVe.e x)]):=fO (s:=S_q5q a0) Tryz.func296
abbrev R_q1t:=(List TRe)×(List TCo)×(List TVe)×(List TOr)
def S_q1t (a0:TBo):SC R_q1t R_q1t :=
.reg 0 [] [(1,{ obs:=[(1,(TBo.b (⟨[],[],[],[]⟩:TBo)))] })] [.pf cz7]<|
.call (@F_q5o_ok a0.C) fun rv1 cv1=>
.call (@F_q5p_ok a0.G) fun rv2 cv2=>
.call (@F_q5q_ok a0.I) fun rv3 cv3=>
.call (@F_q4g_ok a0.T) fun rv4 cv4=>
.reg 1 [2,5,8,11,13] [(2,hc cv1 [] false),(5,hc cv2 [] false),(8,hc cv3 [] false),(11,hc cv4 [] false)] [.cl 3 cv1 [] 2 false,.cl 2 cv2 [] 3 false,.cl 1 cv3 [] 4 false,.cl 0 cv4 [] 5 false]<|
.kill 0<|
.r (rv1,rv2,rv3,rv4)
def F_q1t (a0:TBo):=(S_q1t a0).den
theorem F_q1t_ok {a0:TBo}:FO (F_q1t a0) 270 [(TBo.d a0)] [] (fun x=>(AV.agg [(AV.ref 2 x.1.length 0 x.1.length),(AV.ref 3 x.2.1.length 0 x.2.1.length),(AV.ref 4 x.2.2.1.length 0 x.2.2.1.length),(AV.ref 5 x.2.2.2.length 0 x.2.2.2.length)])) (fun x=>[Ob.dead,(Ob.box (AV.agg [(AV.ref 2 x.1.length 0 x.1.length),(AV.ref 3 x.2.1.length 0 x.2.1.length),(AV.ref 4 x.2.2.1.length 0 x.2.2.1.length),(AV.ref 5 x.2.2.2.length 0 x.2.2.2.length)])),(eS 6 TRe.e x.1),(eS 7 TCo.e x.2.1),(eS 4 TVe.e x.2.2.1),(eS 5 TOr.e x.2.2.2)]):=fO (s:=S_q1t a0) Tryz.func270
def S_q5r (a0:TBo) (a1:Y8) (a2:Int) (a3:Int) (a4:Int):SC (TBo×Int) (TBo×Int) :=
 let e1_:=(⟨[],[],[],[]⟩:TBo)
.reg 0 [] [(1,{ obs:=[(1,(TBo.b e1_))] })] [.pf cz7]<|
.a 1 1 2 (@F_q1s_ok a0) fun rv1=>
 let e2_:=(0,hv (TBo.d e1_))
.ite (!rv1) (
.reg 2 [] [e2_] [.pf zy]<|
.r (e1_,1)) (
.a 3 1 2 (@F_q7d_ok a1) fun rv2=>
.ite ((rv2.length:Int)==0) (
.reg 4 [] [e2_] [.pf zy]<|
.r (e1_,5)) (
.call (@F_q6_ok a2 0 99) fun rv3 cv3=>
.calld [(!rv3)=false] dF (@F_q10_ok a3) fun rv4 cv4 =>
 let e3_:=(cO (!rv3) (!rv4))
.calld [e3_=false] dF (@F_q1o_ok a4) fun rv5 cv5 =>
.reg 5 [] [(1,hc cv3 [] true),(5,hc cv4 [] true),(10,hc cv5 [] true)] [.cl 4 cv3 [] 2 true,.clg 2 [(!rv3)=false] cv4 [] 2 true,.clg 0 [e3_=false] cv5 [] 2 true]<|
.ite (cO e3_ (!rv5)) (
.reg 6 [] [e2_] [.pf zy]<|
.r (e1_,2)) (
.a 7 1 2 (@F_q1n_ok a3) fun rv6=>
.ite (rv6 != a2) (
.reg 8 [] [e2_] [.pf zy]<|
.r (e1_,16)) (
.ite ((a0.C.length:Int)==200) (
.reg 10 [] [e2_] [.pf zy]<|
.r (e1_,3)) (
.call (@F_q1t_ok a0) fun rv7 cv7=>
.k 11 1 cv7 [] 2 false<|
.kill 3<|
.guard [rv7.2.1.length<2 ^ 63]<|
.frz 5 (.ev 0) none [] [0]<|
.guard [rv7.2.2.1.length<2 ^ 63]<|
.frz 6 (.ev 0) none [] [0]<|
.guard [rv7.2.2.2.length<2 ^ 63]<|
.frz 7 (.ev 0) none [] [0]<|
.guard [(rv7.1.length+1) * (2 * 56)<=2 ^ 48]<|
 let e0_:=([(⟨(i64.wrap ((rv7.1.length:Int)+1)),a1,a2,a3,a4,0⟩:TRe)]:List TRe)
.reg 12 [] [(11,hv (AV.d (eL TRe.e e0_))),(12,{ cast:=some (AV.ref 4 ((rv7.1++e0_).length) 0 ((rv7.1++e0_).length)),obs:=[(4,(eS 6 TRe.e (rv7.1++e0_)))] })] [.pf (ze TRe.e e0_),.e rv7.1.length,.e rv7.1.length,.pf (p:=∀ k,k<1->(TRe.d (e0_.getD k dF)).wd=6) (fun _ _=>rfl),.ev 0,.pf (z11 (o:=4) (l:=rv7.1) (x:=e0_)),.pf (z13 (sz:=6) (e:=TRe.e) (l:=rv7.1) (x:=e0_))]<|
.guard [(rv7.1++e0_).length<2 ^ 63]<|
.reg 13 [] [] []<|
.frz 4 (.ev 0) none [] [0,1]<|
.r ((⟨(rv7.1++e0_),rv7.2.1,rv7.2.2.1,rv7.2.2.2⟩:TBo),0))))))
def F_q5r (a0:TBo) (a1:Y8) (a2:Int) (a3:Int) (a4:Int):=(S_q5r a0 a1 a2 a3 a4).den
theorem F_q5r_ok {a0:TBo} {a1:Y8} {a2:Int} {a3:Int} {a4:Int}:FO (F_q5r a0 a1 a2 a3 a4) 236 [(TBo.d a0),(AV.d (DV.str a1)),(vi a2),(vi a3),(vi a4)] [] (fun x=>(AV.tup [(TBo.d x.1),(vi x.2)])) NL:=fO (s:=S_q5r a0 a1 a2 a3 a4) Tryz.func236
def S_q5s (a0:TBo) (a1:Int) (a2:Int) (a3:Int) (a4:Int) (a5:Int):SC (TBo×Int) (TBo×Int) :=
 let e1_:=(⟨[],[],[],[]⟩:TBo)
.reg 0 [] [(1,{ obs:=[(1,(TBo.b e1_))] })] [.pf cz7]<|
.a 1 1 2 (@F_q1s_ok a0) fun rv1=>
 let e2_:=(0,hv (TBo.d e1_))
.ite (!rv1) (
.reg 2 [] [e2_] [.pf zy]<|
.r (e1_,1)) (
.a 3 4 2 (@F_q6_ok a1 1 (a0.C.length:Int)) fun rv2=>
.ite (!rv2) (
.reg 4 [] [e2_] [.pf zy]<|
.r (e1_,6)) (
.call (@F_q10_ok a2) fun rv3 cv3=>
.calld [(!rv3)=false] dF (@F_q1o_ok a3) fun rv4 cv4 =>
 let e3_:=(cO (!rv3) (!rv4))
.calld [e3_=false] dF (@F_q6_ok a4 1 1000000) fun rv5 cv5 =>
 let e5_:=(cO e3_ (!rv5))
.calld [e5_=false] dF (@F_q10_ok a5) fun rv6 cv6 =>
.reg 5 [] [(1,hc cv3 [] true),(5,hc cv4 [] true),(10,hc cv5 [] true),(15,hc cv6 [] true)] [.cl 6 cv3 [] 2 true,.clg 4 [(!rv3)=false] cv4 [] 2 true,.clg 2 [e3_=false] cv5 [] 2 true,.clg 0 [e5_=false] cv6 [] 2 true]<|
.ite (cO e5_ (!rv6)) (
.reg 6 [] [e2_] [.pf zy]<|
.r (e1_,2)) (
 let e6_:=(i64.wrap (a1-1))
.guard [(0:Int)<=e6_,(e6_).toNat<a0.C.length]<|
.reg 7 [] [] [.ev 0,.ev 1]<|
.a 8 1 3 (@F_q1n_ok a2) fun rv7=>
 let e4_:=(a0.C.getD ((e6_).toNat) dF)
.ite (rv7 != (e4_.E)) (
.reg 9 [] [e2_] [.pf zy]<|
.r (e1_,16)) (
.ite (decide (a2<(e4_.Z))) (
.reg 11 [] [e2_] [.pf zy]<|
.r (e1_,8)) (
.a 12 3 3 (@F_q3t_ok a0 e4_) fun rv8=>
.ite (decide (a3>rv8)) (
.reg 13 [] [e2_] [.pf zy]<|
.r (e1_,15)) (
.ite ((a0.G.length:Int)==200) (
.reg 15 [] [e2_] [.pf zy]<|
.r (e1_,3)) (
.call (@F_q1t_ok a0) fun rv9 cv9=>
.k 16 1 cv9 [] 3 false<|
.kill 4<|
.guard [rv9.1.length<2 ^ 63]<|
.frz 5 (.ev 0) none [] [0]<|
.guard [rv9.2.2.1.length<2 ^ 63]<|
.frz 7 (.ev 0) none [] [0]<|
.guard [rv9.2.2.2.length<2 ^ 63]<|
.frz 8 (.ev 0) none [] [0]<|
.guard [(rv9.2.1.length+1) * (2 * 56)<=2 ^ 48]<|
 let e0_:=([(⟨(i64.wrap ((rv9.2.1.length:Int)+1)),a1,a2,a3,0,a4,a5⟩:TCo)]:List TCo)
 let e7_:=(rv9.2.1++e0_)
.reg 17 [] [(12,hv (AV.d (eL TCo.e e0_))),(13,{ cast:=some (AV.ref 6 (e7_.length) 0 (e7_.length)),obs:=[(6,(eS 7 TCo.e e7_))] })] [.pf (ze TCo.e e0_),.e rv9.2.1.length,.e rv9.2.1.length,.pf (p:=∀ k,k<1->(TCo.d (e0_.getD k dF)).wd=7) (fun _ _=>rfl),.ev 0,.pf (z11 (o:=6) (l:=rv9.2.1) (x:=e0_)),.pf (z13 (sz:=7) (e:=TCo.e) (l:=rv9.2.1) (x:=e0_))]<|
.guard [e7_.length<2 ^ 63]<|
.reg 18 [] [] []<|
.frz 6 (.ev 0) none [] [0,1]<|
.r ((⟨rv9.1,e7_,rv9.2.2.1,rv9.2.2.2⟩:TBo),0))))))))
def F_q5s (a0:TBo) (a1:Int) (a2:Int) (a3:Int) (a4:Int) (a5:Int):=(S_q5s a0 a1 a2 a3 a4 a5).den
theorem F_q5s_ok {a0:TBo} {a1:Int} {a2:Int} {a3:Int} {a4:Int} {a5:Int}:FO (F_q5s a0 a1 a2 a3 a4 a5) 237 [(TBo.d a0),(vi a1),(vi a2),(vi a3),(vi a4),(vi a5)] [] (fun x=>(AV.tup [(TBo.d x.1),(vi x.2)])) NL:=fO (s:=S_q5s a0 a1 a2 a3 a4 a5) Tryz.func237
def S_q5t (a0:TBo) (a1:Int) (a2:Int) (a3:Int):SC (TBo×Int) (TBo×Int) :=
 let e1_:=(⟨[],[],[],[]⟩:TBo)
.reg 0 [] [(1,{ obs:=[(1,(TBo.b e1_))] })] [.pf cz7]<|
.a 1 1 2 (@F_q1s_ok a0) fun rv1=>
 let e2_:=(0,hv (TBo.d e1_))
.ite (!rv1) (
.reg 2 [] [e2_] [.pf zy]<|
.r (e1_,1)) (
.a 3 4 2 (@F_q6_ok a1 1 (a0.G.length:Int)) fun rv2=>
.ite (!rv2) (
.reg 4 [] [e2_] [.pf zy]<|
.r (e1_,6)) (
.call (@F_q10_ok a2) fun rv3 cv3=>
.calld [(!rv3)=false] dF (@F_q1o_ok a3) fun rv4 cv4 =>
.reg 5 [] [(1,hc cv3 [] true),(5,hc cv4 [] true)] [.cl 2 cv3 [] 2 true,.clg 0 [(!rv3)=false] cv4 [] 2 true]<|
.ite (cO (!rv3) (!rv4)) (
.reg 6 [] [e2_] [.pf zy]<|
.r (e1_,2)) (
 let e5_:=(i64.wrap (a1-1))
.guard [(0:Int)<=e5_,(e5_).toNat<a0.G.length]<|
.reg 7 [] [] [.ev 0,.ev 1]<|
.call (@F_q1n_ok a2) fun rv5 cv5=>
 let e3_:=(a0.G.getD ((e5_).toNat) dF)
.call (@F_q1p_ok a0 e3_) fun rv6 cv6=>
.reg 8 [] [(1,hc cv5 [] true),(4,hc cv6 [] true)] [.cl 1 cv5 [] 3 true,.cl 0 cv6 [] 3 true]<|
.ite (decide (rv5>(i64.wrap (rv6+1)))) (
.reg 9 [] [e2_] [.pf zy]<|
.r (e1_,16)) (
.ite (decide (a2<(e3_.Z))) (
.reg 11 [] [e2_] [.pf zy]<|
.r (e1_,8)) (
.a 12 3 3 (@F_q3u_ok a0 e3_) fun rv7=>
.ite (decide (a3>rv7)) (
.reg 13 [] [e2_] [.pf zy]<|
.r (e1_,15)) (
.ite ((a0.I.length:Int)==200) (
.reg 15 [] [e2_] [.pf zy]<|
.r (e1_,3)) (
.call (@F_q1t_ok a0) fun rv8 cv8=>
.k 16 1 cv8 [] 3 false<|
.kill 4<|
.guard [rv8.1.length<2 ^ 63]<|
.frz 5 (.ev 0) none [] [0]<|
.guard [rv8.2.1.length<2 ^ 63]<|
.frz 6 (.ev 0) none [] [0]<|
.guard [rv8.2.2.2.length<2 ^ 63]<|
.frz 8 (.ev 0) none [] [0]<|
.guard [(rv8.2.2.1.length+1) * (2 * 32)<=2 ^ 48]<|
 let e0_:=([(⟨(i64.wrap ((rv8.2.2.1.length:Int)+1)),a1,a2,a3⟩:TVe)]:List TVe)
 let e4_:=(rv8.2.2.1++e0_)
.reg 17 [] [(10,hv (AV.d (eL TVe.e e0_))),(11,{ cast:=some (AV.ref 7 (e4_.length) 0 (e4_.length)),obs:=[(7,(eS 4 TVe.e e4_))] })] [.pf (ze TVe.e e0_),.e rv8.2.2.1.length,.e rv8.2.2.1.length,.pf (p:=∀ k,k<1->(TVe.d (e0_.getD k dF)).wd=4) (fun _ _=>rfl),.ev 0,.pf (z11 (o:=7) (l:=rv8.2.2.1) (x:=e0_)),.pf (z13 (sz:=4) (e:=TVe.e) (l:=rv8.2.2.1) (x:=e0_))]<|
.guard [e4_.length<2 ^ 63]<|
.reg 18 [] [] []<|
.frz 7 (.ev 0) none [] [0,1]<|
.r ((⟨rv8.1,rv8.2.1,e4_,rv8.2.2.2⟩:TBo),0))))))))
def F_q5t (a0:TBo) (a1:Int) (a2:Int) (a3:Int):=(S_q5t a0 a1 a2 a3).den
theorem F_q5t_ok {a0:TBo} {a1:Int} {a2:Int} {a3:Int}:FO (F_q5t a0 a1 a2 a3) 238 [(TBo.d a0),(vi a1),(vi a2),(vi a3)] [] (fun x=>(AV.tup [(TBo.d x.1),(vi x.2)])) NL:=fO (s:=S_q5t a0 a1 a2 a3) Tryz.func238
def S_q5u (a0:TBo) (a1:Int) (a2:Int):SC (TBo×Int) (TBo×Int) :=
 let e1_:=(⟨[],[],[],[]⟩:TBo)
.reg 0 [] [(1,{ obs:=[(1,(TBo.b e1_))] })] [.pf cz7]<|
.a 1 1 2 (@F_q1s_ok a0) fun rv1=>
 let e4_:=(0,hv (TBo.d e1_))
.ite (!rv1) (
.reg 2 [] [e4_] [.pf zy]<|
.r (e1_,1)) (
.a 3 4 2 (@F_q6_ok a1 1 (a0.I.length:Int)) fun rv2=>
.ite (!rv2) (
.reg 4 [] [e4_] [.pf zy]<|
.r (e1_,6)) (
.a 5 1 2 (@F_q10_ok a2) fun rv3=>
.ite (!rv3) (
.reg 6 [] [e4_] [.pf zy]<|
.r (e1_,2)) (
 let e8_:=(i64.wrap (a1-1))
.guard [(0:Int)<=e8_,(e8_).toNat<a0.I.length]<|
.reg 7 [] [] [.ev 0,.ev 1]<|
.a 8 2 3 (@F_q4h_ok a0 a1) fun rv4=>
.call (@F_q1n_ok a2) fun rv5 cv5=>
 let e2_:=(a0.I.getD ((e8_).toNat) dF)
 let e6_:=(i64.wrap ((e2_.Ac)-1))
.call (@F_q1p_ok a0 (a0.G.getD ((e6_).toNat) dF)) fun rv6 cv6=>
.guard [(0:Int)<=e6_,(e6_).toNat<a0.G.length]<|
.reg 10 [] [(1,hc cv5 [] true),(10,hc cv6 [] true)] [.cl 3 cv5 [] 3 true,.ev 0,.ev 1,.cl 2 cv6 [] 3 true]<|
.ite (decide (rv5>(i64.wrap (rv6+1)))) (
.reg 11 [] [e4_] [.pf zy]<|
.r (e1_,16)) (
 let e11_:=(rv4.length:Int)
 let e3_:=(i64.wrap (e11_-1))
 let e5_:=(decide (e11_>0))
 let e12_:=((e3_).toNat<rv4.length)
.guard [AllP [e5_=true]->((0:Int)<=e3_),AllP [e5_=true]->e12_]<|
.reg 12 [] [] [.ev 0,.ev 1]<|
 let e10_:=(rv4.getD ((e3_).toNat) dF)
.ite (bif e5_ then (!(e10_.Al)) else false) (
.reg 13 [] [e4_] [.pf zy]<|
.r (e1_,20)) (
 let e9_:=(decide (a2<(e2_.Z)))
.guard [AllP [e5_=true,e9_=false]->((0:Int)<=e3_),AllP [e5_=true,e9_=false]->e12_]<|
.reg 14 [] [] [.ev 0,.ev 1]<|
.ite (cO e9_ (bif e5_ then (decide (a2<(e10_.Z))) else false)) (
.reg 15 [] [e4_] [.pf zy]<|
.r (e1_,8)) (
.ite ((a0.T.length:Int)==200) (
.reg 17 [] [e4_] [.pf zy]<|
.r (e1_,3)) (
.call (@F_q1t_ok a0) fun rv7 cv7=>
.k 18 1 cv7 [] 3 false<|
.kill 4<|
.guard [rv7.1.length<2 ^ 63]<|
.frz 5 (.ev 0) none [] [0]<|
.guard [rv7.2.1.length<2 ^ 63]<|
.frz 6 (.ev 0) none [] [0]<|
.guard [rv7.2.2.1.length<2 ^ 63]<|
.frz 7 (.ev 0) none [] [0]<|
.guard [(rv7.2.2.2.length+1) * (2 * 40)<=2 ^ 48]<|
 let e0_:=([(⟨(i64.wrap ((rv7.2.2.2.length:Int)+1)),a1,(i64.wrap (e11_+1)),a2,false⟩:TOr)]:List TOr)
 let e7_:=(rv7.2.2.2++e0_)
.reg 19 [] [(11,hv (AV.d (eL TOr.e e0_))),(12,{ cast:=some (AV.ref 8 (e7_.length) 0 (e7_.length)),obs:=[(8,(eS 5 TOr.e e7_))] })] [.pf (ze TOr.e e0_),.e rv7.2.2.2.length,.e rv7.2.2.2.length,.pf (p:=∀ k,k<1->(TOr.d (e0_.getD k dF)).wd=5) (fun _ _=>rfl),.ev 0,.pf (z11 (o:=8) (l:=rv7.2.2.2) (x:=e0_)),.pf (z13 (sz:=5) (e:=TOr.e) (l:=rv7.2.2.2) (x:=e0_))]<|
.guard [e7_.length<2 ^ 63]<|
.reg 20 [] [] []<|
.frz 8 (.ev 0) none [] [0,1]<|
.r ((⟨rv7.1,rv7.2.1,rv7.2.2.1,e7_⟩:TBo),0))))))))
def F_q5u (a0:TBo) (a1:Int) (a2:Int):=(S_q5u a0 a1 a2).den
theorem F_q5u_ok {a0:TBo} {a1:Int} {a2:Int}:FO (F_q5u a0 a1 a2) 239 [(TBo.d a0),(vi a1),(vi a2)] [] (fun x=>(AV.tup [(TBo.d x.1),(vi x.2)])) NL:=fO (s:=S_q5u a0 a1 a2) Tryz.func239
def S_q2n_b1 (a0:TBo) (a1:Int) (iv1:Nat) (_:Unit):SC Int (Step (Unit) Int) :=
.reg 3 [] [] [.w iv1,.ev 0]<|
 let e0_:=(a0.C.getD iv1 dF)
.ite ((e0_.O)==a1) (
.a 5 2 2 (@F_q3t_ok a0 e0_) fun rv2=>
.r (.ret rv2)) (
.r (.cont ()))
def S_q2n (a0:TBo) (a1:Int):SC Int Int :=
.range (a0.C.length:Int) a0.C.length rfl (.slot 8) 10 [1,2,8,9] (fun (_:Unit)=>[]) (fun _=>[]) () (S_q2n_b1 a0 a1) (fun _ => 
.r 0) id
def F_q2n (a0:TBo) (a1:Int):=(S_q2n a0 a1).den
theorem F_q2n_ok {a0:TBo} {a1:Int}:FO (F_q2n a0 a1) 271 [(TBo.d a0),(vi a1)] [] vi NL:=fO (s:=S_q2n a0 a1) Tryz.func271
def S_q5v (a0:TBo) (a1:Int) (a2:Int):SC (TBo×Int) (TBo×Int) :=
 let e2_:=(⟨[],[],[],[]⟩:TBo)
 let e7_:=(TBo.b e2_)
.reg 0 [] [(1,{ obs:=[(1,e7_)] })] [.pf cz7]<|
.a 1 1 2 (@F_q1s_ok a0) fun rv1=>
 let e5_:=(0,hv (TBo.d e2_))
.ite (!rv1) (
.reg 2 [] [e5_] [.pf zy]<|
.r (e2_,1)) (
.a 3 4 2 (@F_q6_ok a1 1 (a0.C.length:Int)) fun rv2=>
.ite (!rv2) (
.reg 4 [] [e5_] [.pf zy]<|
.r (e2_,6)) (
.a 5 1 2 (@F_q1o_ok a2) fun rv3=>
.ite (!rv3) (
.reg 6 [] [e5_] [.pf zy]<|
.r (e2_,2)) (
.a 7 3 2 (@F_q2n_ok a0 a1) fun rv4=>
.ite (decide (a2>rv4)) (
.reg 8 [] [e5_] [.pf zy]<|
.r (e2_,15)) (
.call (@F_q1t_ok a0) fun rv5 cv5=>
.k 9 1 cv5 [] 2 false<|
.kill 3<|
.guard [rv5.2.1.length<2 ^ 63]<|
.frz 5 (.ev 0) none [] [0]<|
.guard [rv5.2.2.1.length<2 ^ 63]<|
.frz 6 (.ev 0) none [] [0]<|
.guard [rv5.2.2.2.length<2 ^ 63]<|
.frz 7 (.ev 0) none [] [0]<|
 let e6_:=(i64.wrap (a1-1))
 let e1_:=(0+(e6_).toNat)
.guard [(0:Int)<=e6_,(e6_).toNat<rv5.1.length,e1_<rv5.1.length]<|
 let e3_:=(rv5.1.getD e1_ dF)
 let e0_:=(⟨e3_.O,e3_.D,e3_.E,e3_.Z,e3_.S,(i64.wrap ((e3_.Ad)+a2))⟩:TRe)
 let e4_:=(rv5.1.set e1_ e0_)
 let e8_:=(eS 6 TRe.e e4_)
.reg 10 [] [(11,{ obs:=[(4,e8_)] })] [.e rv5.1.length,.ev 0,.ev 1,.e rv5.1.length,.e rv5.1.length,.ev 2,.e rv5.1.length,.ev 0,.ev 1,.e rv5.1.length,.e rv5.1.length,.ev 2,.pf (zu (sz:=6) (e:=TRe.e) (l:=rv5.1) (i:=e1_) (x:=e0_) (fun _=>rfl))]<|
 let e9_:=(AV.d (eL TVe.e rv5.2.2.1))
 let e10_:=(AV.d (eL TOr.e rv5.2.2.2))
 let e11_:=(AV.d (eL TCo.e rv5.2.1))
 let e12_:=[(3,(vp 0)),(6,(vp 1))]
.cst (A:=True) (.pf trivial) e12_ e12_ [(Ob.box (AV.agg [(AV.ref 4 rv5.1.length 0 rv5.1.length),e11_,e9_,e10_])),e7_,Ob.dead,Ob.dead,e8_,Ob.dead,Ob.dead,Ob.dead] [(Ob.box (AV.agg [(AV.ref 4 (e4_.length) 0 (e4_.length)),e11_,e9_,e10_])),e7_,Ob.dead,Ob.dead,e8_,Ob.dead,Ob.dead,Ob.dead] (fun _=>⟨by simp +zetaDelta only,by simp +zetaDelta only[ya]⟩)<|
.guard [e4_.length<2 ^ 63]<|
.reg 11 [] [] []<|
.frz 4 (.ev 0) none [] [0,1]<|
.r ((⟨e4_,rv5.2.1,rv5.2.2.1,rv5.2.2.2⟩:TBo),0)))))
def F_q5v (a0:TBo) (a1:Int) (a2:Int):=(S_q5v a0 a1 a2).den
theorem F_q5v_ok {a0:TBo} {a1:Int} {a2:Int}:FO (F_q5v a0 a1 a2) 240 [(TBo.d a0),(vi a1),(vi a2)] [] (fun x=>(AV.tup [(TBo.d x.1),(vi x.2)])) NL:=fO (s:=S_q5v a0 a1 a2) Tryz.func240
end
end Go.Proofs.YtlhikmklpelceaaGreatDoor
