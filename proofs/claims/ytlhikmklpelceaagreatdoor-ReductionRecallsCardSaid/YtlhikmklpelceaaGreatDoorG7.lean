/- A part of the proof: what the functions compute, and that their calls return it. No condition. -/
import Derived.Test.YtlhikmklpelceaaGreatDoorG6
/- What the functions compute, and that their calls return it. No condition. -/
namespace Go.Proofs.YtlhikmklpelceaaGreatDoor
open Go Go.TA
open Go.IntKind (i64)
noncomputable section
set_option maxRecDepth 100000
def S_q5w (a0:TBo) (a1:Int) (a2:Int):SC (TBo×Int) (TBo×Int) :=
 let e2_:=(⟨[],[],[],[]⟩:TBo)
 let e7_:=(TBo.b e2_)
.reg 0 [] [(1,{ obs:=[(1,e7_)] })] [.pf cz7]<|
.a 1 1 2 (@F_q1s_ok a0) fun rv1=>
 let e6_:=(0,hv (TBo.d e2_))
.ite (!rv1) (
.reg 2 [] [e6_] [.pf zy]<|
.r (e2_,1)) (
.a 3 4 2 (@F_q6_ok a1 1 (a0.G.length:Int)) fun rv2=>
.ite (!rv2) (
.reg 4 [] [e6_] [.pf zy]<|
.r (e2_,6)) (
.a 5 1 2 (@F_q1o_ok a2) fun rv3=>
.ite (!rv3) (
.reg 6 [] [e6_] [.pf zy]<|
.r (e2_,2)) (
 let e5_:=(i64.wrap (a1-1))
.call (@F_q3u_ok a0 (a0.G.getD ((e5_).toNat) dF)) fun rv4 cv4=>
.guard [(0:Int)<=e5_,(e5_).toNat<a0.G.length]<|
.reg 7 [] [(8,hc cv4 [] true)] [.ev 0,.ev 1,.cl 2 cv4 [] 2 true]<|
.ite (decide (a2>rv4)) (
.reg 8 [] [e6_] [.pf zy]<|
.r (e2_,15)) (
.call (@F_q1t_ok a0) fun rv5 cv5=>
.k 9 1 cv5 [] 2 false<|
.kill 3<|
.guard [rv5.1.length<2 ^ 63]<|
.frz 4 (.ev 0) none [] [0]<|
.guard [rv5.2.2.1.length<2 ^ 63]<|
.frz 6 (.ev 0) none [] [0]<|
.guard [rv5.2.2.2.length<2 ^ 63]<|
.frz 7 (.ev 0) none [] [0]<|
 let e1_:=(0+(e5_).toNat)
.guard [(e5_).toNat<rv5.2.1.length,e1_<rv5.2.1.length]<|
 let e3_:=(rv5.2.1.getD e1_ dF)
 let e0_:=(⟨e3_.O,e3_.X,e3_.Z,e3_.S,(i64.wrap ((e3_.Ad)+a2)),e3_.Ah,e3_.Aj⟩:TCo)
 let e4_:=(rv5.2.1.set e1_ e0_)
 let e8_:=(eS 7 TCo.e e4_)
.reg 10 [] [(11,{ obs:=[(5,e8_)] })] [.e rv5.2.1.length,.ev 7,.ev 0,.e rv5.2.1.length,.e rv5.2.1.length,.ev 1,.e rv5.2.1.length,.ev 7,.ev 0,.e rv5.2.1.length,.e rv5.2.1.length,.ev 1,.pf (zu (sz:=7) (e:=TCo.e) (l:=rv5.2.1) (i:=e1_) (x:=e0_) (fun _=>rfl))]<|
 let e9_:=(AV.d (eL TVe.e rv5.2.2.1))
 let e10_:=(AV.d (eL TOr.e rv5.2.2.2))
 let e11_:=[(3,(vp 0)),(6,(vp 1))]
 let e12_:=(AV.d (eL TRe.e rv5.1))
.cst (A:=True) (.pf trivial) e11_ e11_ [(Ob.box (AV.agg [e12_,(AV.ref 5 rv5.2.1.length 0 rv5.2.1.length),e9_,e10_])),e7_,Ob.dead,Ob.dead,Ob.dead,e8_,Ob.dead,Ob.dead] [(Ob.box (AV.agg [e12_,(AV.ref 5 (e4_.length) 0 (e4_.length)),e9_,e10_])),e7_,Ob.dead,Ob.dead,Ob.dead,e8_,Ob.dead,Ob.dead] (fun _=>⟨by simp +zetaDelta only,by simp +zetaDelta only[ya]⟩)<|
.guard [e4_.length<2 ^ 63]<|
.reg 11 [] [] []<|
.frz 5 (.ev 0) none [] [0,1]<|
.r ((⟨rv5.1,e4_,rv5.2.2.1,rv5.2.2.2⟩:TBo),0)))))
def F_q5w (a0:TBo) (a1:Int) (a2:Int):=(S_q5w a0 a1 a2).den
theorem F_q5w_ok {a0:TBo} {a1:Int} {a2:Int}:FO (F_q5w a0 a1 a2) 241 [(TBo.d a0),(vi a1),(vi a2)] [] (fun x=>(AV.tup [(TBo.d x.1),(vi x.2)])) NL:=fO (s:=S_q5w a0 a1 a2) Tryz.func241
def S_q2a_b1 (a1:Int) (rv1:R_q1t) (iv2:Nat) (_:Unit):SC (TBo×Int) (Step (Unit) (TBo×Int)) :=
.reg 9 [] [] [.e rv1.2.2.2.length,.w iv2,.ev 0]<|
 let e1_:=(rv1.2.2.2.getD (0+iv2) dF)
 let e5_:=((e1_.U)==a1)
.guard [(0+iv2)<rv1.2.2.2.length,AllP [e5_=true]->((0+iv2)<rv1.2.2.2.length)]<|
 let e4_:=(rv1.2.2.2.length=rv1.2.2.2.length)
.reg 10 [] [] [.e rv1.2.2.2.length,.e rv1.2.2.2.length,.ev 0,.pf (p:=AllP [e5_=true]->e4_) (fun _=>rfl),.pf (p:=AllP [e5_=true]->e4_) (fun _=>rfl),.ev 1]<|
.ite (bif e5_ then (!(e1_.Al)) else false) (
 let e0_:=(⟨e1_.O,e1_.U,e1_.Ak,e1_.Z,true⟩:TOr)
 let e2_:=(rv1.2.2.2.set (0+iv2) e0_)
 let e6_:=(eS 5 TOr.e e2_)
.reg 11 [] [(3,{ obs:=[(7,e6_)] })] [.e rv1.2.2.2.length,.e rv1.2.2.2.length,.ev 1,.pf (zu (sz:=5) (e:=TOr.e) (l:=rv1.2.2.2) (i:=(0+iv2)) (x:=e0_) (fun _=>rfl))]<|
 let e3_:=(TBo.b (⟨[],[],[],[]⟩:TBo))
 let e7_:=(AV.d (eL TVe.e rv1.2.2.1))
 let e8_:=(AV.d (eL TCo.e rv1.2.1))
 let e9_:=[(2,(vp 0)),(4,(vp 1))]
 let e10_:=(AV.d (eL TRe.e rv1.1))
.cst (A:=True) (.pf trivial) e9_ e9_ [(Ob.box (AV.agg [e10_,e8_,e7_,(AV.ref 7 rv1.2.2.2.length 0 rv1.2.2.2.length)])),e3_,Ob.dead,Ob.dead,Ob.dead,Ob.dead,Ob.dead,e6_] [(Ob.box (AV.agg [e10_,e8_,e7_,(AV.ref 7 (e2_.length) 0 (e2_.length))])),e3_,Ob.dead,Ob.dead,Ob.dead,Ob.dead,Ob.dead,e6_] (fun _=>⟨by simp +zetaDelta only,by simp +zetaDelta only[ya]⟩)<|
.guard [e2_.length<2 ^ 63]<|
.reg 12 [] [] []<|
.frz 7 (.ev 0) none [] [0,1]<|
.r (.ret ((⟨rv1.1,rv1.2.1,rv1.2.2.1,e2_⟩:TBo),0))) (
.r (.cont ()))
def S_q2a (a0:TBo) (a1:Int):SC (TBo×Int) (TBo×Int) :=
 let e0_:=(⟨[],[],[],[]⟩:TBo)
.reg 0 [] [(1,{ obs:=[(1,(TBo.b e0_))] })] [.pf cz7]<|
.a 1 1 2 (@F_q1s_ok a0) fun rv3=>
 let e1_:=(0,hv (TBo.d e0_))
.ite (!rv3) (
.reg 2 [] [e1_] [.pf zy]<|
.r (e0_,1)) (
.a 3 4 2 (@F_q6_ok a1 1 (a0.I.length:Int)) fun rv4=>
.ite (!rv4) (
.reg 4 [] [e1_] [.pf zy]<|
.r (e0_,6)) (
.call (@F_q1t_ok a0) fun rv1 cv1=>
.k 5 1 cv1 [] 2 false<|
.kill 3<|
.guard [rv1.1.length<2 ^ 63]<|
.frz 4 (.ev 0) none [] [0]<|
.guard [rv1.2.1.length<2 ^ 63]<|
.frz 5 (.ev 0) none [] [0]<|
.guard [rv1.2.2.1.length<2 ^ 63]<|
.frz 6 (.ev 0) none [] [0]<|
.guard [rv1.2.2.2.length<2 ^ 63]<|
.range (rv1.2.2.2.length:Int) rv1.2.2.2.length rfl (.why (.ev 0)) 26 [1,2,4,25] (fun (_:Unit)=>[]) (fun _=>[]) () (S_q2a_b1 a1 rv1) (fun _ => 
.reg 14 [] [e1_] [.pf zy]<|
.r (e0_,9)) id))
def F_q2a (a0:TBo) (a1:Int):=(S_q2a a0 a1).den
theorem F_q2a_ok {a0:TBo} {a1:Int}:FO (F_q2a a0 a1) 242 [(TBo.d a0),(vi a1)] [] (fun x=>(AV.tup [(TBo.d x.1),(vi x.2)])) NL:=fO (s:=S_q2a a0 a1) Tryz.func242
def S_q5x (a0:TBo) (a1:TOp):SC (TBo×Int) (TBo×Int) :=
.reg 0 [] [(2,{ obs:=[(2,(TBo.b (⟨[],[],[],[]⟩:TBo)))] })] [.pf cz7]<|
.ite (a1.Q==1) (
.a 3 9 3 (@F_q5r_ok a0 a1.D a1.E a1.Z a1.S) fun rv1=>
.r (rv1.1,rv1.2)) (
.ite (a1.Q==2) (
.a 5 11 3 (@F_q5s_ok a0 a1.Of a1.Z a1.S a1.Ah a1.Aj) fun rv2=>
.r (rv2.1,rv2.2)) (
.ite (a1.Q==3) (
.a 7 7 3 (@F_q5t_ok a0 a1.Of a1.Z a1.S) fun rv3=>
.r (rv3.1,rv3.2)) (
.ite (a1.Q==4) (
.a 9 5 3 (@F_q5u_ok a0 a1.Of a1.Z) fun rv4=>
.r (rv4.1,rv4.2)) (
.ite (a1.Q==5) (
.a 11 5 3 (@F_q5v_ok a0 a1.Of a1.S) fun rv5=>
.r (rv5.1,rv5.2)) (
.ite (a1.Q==6) (
.a 13 5 3 (@F_q5w_ok a0 a1.Of a1.S) fun rv6=>
.r (rv6.1,rv6.2)) (
.a 14 3 3 (@F_q2a_ok a0 a1.Of) fun rv7=>
.r (rv7.1,rv7.2)))))))
def F_q5x (a0:TBo) (a1:TOp):=(S_q5x a0 a1).den
theorem F_q5x_ok {a0:TBo} {a1:TOp}:FO (F_q5x a0 a1) 209 [(TBo.d a0),(TOp.d a1)] [] (fun x=>(AV.tup [(TBo.d x.1),(vi x.2)])) NL:=fO (s:=S_q5x a0 a1) Tryz.func209
def S_q3w (a0:TOf) (a1:Y8) (a2:Int):SC Int Int :=
.a 1 3 1 (@F_q1m_ok a0 a1 a2) fun rv1=>
.a 2 9 2 (@F_q15_ok a0.Ae a1 a2) fun rv2=>
.r (i64.wrap ((i64.wrap (rv1.A-rv1.M))-rv2))
def F_q3w (a0:TOf) (a1:Y8) (a2:Int):=(S_q3w a0 a1 a2).den
theorem F_q3w_ok {a0:TOf} {a1:Y8} {a2:Int}:FO (F_q3w a0 a1 a2) 118 [(TOf.d a0),(AV.d (DV.str a1)),(vi a2)] [] vi NL:=fO (s:=S_q3w a0 a1 a2) Tryz.func118
def S_q3x (a0:TOf) (a1:TOp):SC (TOf×Int) (TOf×Int) :=
 let e2_:=(⟨[],[],[],[]⟩:TBo)
 let e0_:=(⟨0,[],e2_⟩:TOf)
.reg 0 [] [(2,{ obs:=[(2,(TOf.b e0_))] })] [.pf cz5]<|
.ite (a1.Q==8) (
.a 3 2 3 (@F_q5l_ok a0 a1) fun rv1=>
.r (rv1.1,rv1.2)) (
.ite (a1.Q==7) (
.a 5 2 3 (@F_q5m_ok a0 a1) fun rv2=>
.r (rv2.1,rv2.2)) (
.call (@F_q5x_ok a0.Ae a1) fun rv3 cv3=>
.reg 6 [] [(3,hc cv3 [] true),(7,{ obs:=[(3,(TBo.b e2_))] })] [.cl 0 cv3 [] 3 true,.pf cz7]<|
 let e1_:=(0,hv (TOf.d e0_))
.ite (rv3.2 != 0) (
.reg 8 [] [e1_] [.pf cz6]<|
.r (e0_,rv3.2)) (
.calld [(a1.Q==1)=true] dF (@F_q3w_ok a0 a1.D a1.E) fun rv4 cv4 =>
.reg 9 [] [(11,hc cv4 [] true)] [.clg 0 [(a1.Q==1)=true] cv4 [] 4 true]<|
.ite (bif (a1.Q==1) then (decide (a1.S>rv4)) else false) (
.reg 10 [] [e1_] [.pf cz6]<|
.r (e0_,15)) (
.r ((⟨a0.O,a0.J,rv3.1⟩:TOf),0)))))
def F_q3x (a0:TOf) (a1:TOp):=(S_q3x a0 a1).den
theorem F_q3x_ok {a0:TOf} {a1:TOp}:FO (F_q3x a0 a1) 182 [(TOf.d a0),(TOp.d a1)] [] (fun x=>(AV.tup [(TOf.d x.1),(vi x.2)])) NL:=fO (s:=S_q3x a0 a1) Tryz.func182
abbrev R_q16:=TOf×Int×Int
def S_q16_b1 (a1:(List TOp)) (iv1:Nat) (sv2:TOf):SC R_q16 (Step (TOf) R_q16) :=
.reg 4 [] [] [.w iv1,.ev 0]<|
.a 5 1 3 (@F_q4a_ok (a1.getD iv1 dF)) fun rv3=>
 let e0_:=(⟨0,[],(⟨[],[],[],[]⟩:TBo)⟩:TOf)
 let e1_:=(0,hv (TOf.d e0_))
.ite (!rv3) (
.reg 6 [] [e1_] [.pf cz6]<|
.r (.ret (e0_,(iv1:Int),4))) (
.call (@F_q3x_ok sv2 (a1.getD iv1 dF)) fun rv4 cv4=>
.reg 7 [] [(2,hc cv4 [] true),(6,{ obs:=[(3,(TOf.b e0_))] })] [.cl 0 cv4 [] 3 true,.pf cz5]<|
.ite (rv4.2 != 0) (
.reg 9 [] [e1_] [.pf cz6]<|
.r (.ret (e0_,(iv1:Int),9))) (
.c rv4.1))
def S_q16 (a0:Int) (a1:(List TOp)):SC R_q16 R_q16 :=
 let e0_:=(⟨[],[],[],[]⟩:TBo)
 let e2_:=(TOf.b (⟨0,[],e0_⟩:TOf))
.reg 0 [] [(0,{ obs:=[(0,e2_)] })] [.pf cz5]<|
 let e1_:=(⟨a0,[],e0_⟩:TOf)
.reg 1 [] [(1,hv (TOf.d e1_)),(2,{ obs:=[(1,e2_)] })] [.pf (p:=LeV (AV.d (DV.agg [(DV.i .i64 a0),Z0,(DV.agg [Z0,Z0,Z0,Z0])])) (TOf.d e1_)) (z2p rfl (DLe.agg (DLeL.cons (DLe.refl _) (DLeL.cons DLe.sl0 (DLeL.cons (DLe.agg (DLeL.cons DLe.sl0 (DLeL.cons DLe.sl0 (DLeL.cons DLe.sl0 (DLeL.cons DLe.sl0 DLeL.nil))))) DLeL.nil))))),.pf cz5]<|
.range (a1.length:Int) a1.length rfl (.slot 1) 16 [1,4,7,14,15] (fun (_:TOf)=>[]) (fun sv2=>[(1,(TOf.b sv2))]) e1_ (S_q16_b1 a1) (fun sv2 => 
.r (sv2,(a1.length:Int),0)) id
def F_q16 (a0:Int) (a1:(List TOp)):=(S_q16 a0 a1).den
theorem F_q16_ok {a0:Int} {a1:(List TOp)}:FO (F_q16 a0 a1) 144 [(vi a0),(AV.d (eL TOp.e a1))] [] (fun x=>(AV.tup [(TOf.d x.1),(vi x.2.1),(vi x.2.2)])) NL:=fO (s:=S_q16 a0 a1) Tryz.func144
def S_q3d (a0:TJo):SC (TOf×Int) (TOf×Int) :=
 let e0_:=(⟨0,[],(⟨[],[],[],[]⟩:TBo)⟩:TOf)
.reg 0 [] [(1,{ obs:=[(1,(TOf.b e0_))] })] [.pf cz5]<|
.a 1 1 2 (@F_q6q_ok a0) fun rv1=>
 let e1_:=(0,hv (TOf.d e0_))
.ite (!rv1) (
.reg 2 [] [e1_] [.pf cz6]<|
.r (e0_,1)) (
.call (@F_q16_ok a0.Y a0.Ab) fun rv2 cv2=>
.reg 3 [] [(4,hc cv2 [] true),(9,{ obs:=[(2,(TOf.b e0_))] })] [.cl 0 cv2 [] 2 true,.pf cz5]<|
.ite (rv2.2.2 != 0) (
.reg 5 [] [e1_] [.pf cz6]<|
.r (e0_,1)) (
.r (rv2.1,0)))
def F_q3d (a0:TJo):=(S_q3d a0).den
theorem F_q3d_ok {a0:TJo}:FO (F_q3d a0) 93 [(TJo.d a0)] [] (fun x=>(AV.tup [(TOf.d x.1),(vi x.2)])) NL:=fO (s:=S_q3d a0) Tryz.func93
def S_q3y (a0:TJo):SC Bool Bool :=
.call (@F_q3d_ok a0) fun rv1 cv1=>
.reg 1 [] [(1,hc cv1 [] true),(5,{ obs:=[(1,(TOf.b (⟨0,[],(⟨[],[],[],[]⟩:TBo)⟩:TOf)))] })] [.cl 0 cv1 [] 1 true,.pf cz5]<|
.r (rv1.2==0)
def F_q3y (a0:TJo):=(S_q3y a0).den
theorem F_q3y_ok {a0:TJo}:FO (F_q3y a0) 160 [(TJo.d a0)] [] vb NL:=fO (s:=S_q3y a0) Tryz.func160
def S_q4j (a0:TJo):SC (TOf×Int) (TOf×Int) :=
 let e0_:=(⟨0,[],(⟨[],[],[],[]⟩:TBo)⟩:TOf)
.reg 0 [] [(1,{ obs:=[(1,(TOf.b e0_))] })] [.pf cz5]<|
.a 1 1 2 (@F_q3y_ok a0) fun rv1=>
.ite (!rv1) (
.reg 2 [] [(0,hv (TOf.d e0_))] [.pf cz6]<|
.r (e0_,1)) (
 let e1_:=(a0.Ab.take ((a0.Ag).toNat))
.call (@F_q16_ok a0.Y e1_) fun rv2 cv2=>
.guard [(0:Int)<=a0.Ag,(a0.Ag).toNat<=a0.Ab.length]<|
.reg 3 [12,13] [(6,hv (AV.d (eL TOp.e e1_))),(7,hc cv2 [] true),(12,{ obs:=[(2,(TOf.b e0_))] })] [.ev 0,.ev 1,.der (fun (h0:(a0.Ag).toNat<=a0.Ab.length)=>lvT TOp.e a0.Ab h0) 1,.ev 0,.ev 1,.der (fun (h0:(a0.Ag).toNat<=a0.Ab.length)=>lvT TOp.e a0.Ab h0) 1,.cl 2 cv2 [] 2 true,.cl 2 cv2 [] 3 true,.pf cz5]<|
.r (rv2.1,rv2.2.2))
def F_q4j (a0:TJo):=(S_q4j a0).den
theorem F_q4j_ok {a0:TJo}:FO (F_q4j a0) 114 [(TJo.d a0)] [] (fun x=>(AV.tup [(TOf.d x.1),(vi x.2)])) NL:=fO (s:=S_q4j a0) Tryz.func114
theorem zuy:LeV (AV.tup [(AV.full 0 fun _=>DV.b false),(AV.full 0 fun _=>DV.b false),(vb false)]) (AV.tup [(AV.d (eL TOf.e ([]))),(AV.d (eL TOf.e ([]))),(vb false)]):=LeV.tup (LeVs.cons (lvN TOf.e) (LeVs.cons (lvN TOf.e) (LeVs.cons (LeV.refl _) LeVs.nil)))
abbrev R_q17:=(List TOf)×(List TOf)×Bool
def S_q17_b1 (a0:TWo) (iv1:Nat) (sv2:(List TOf)×(List TOf)):SC R_q17 (Step ((List TOf)×(List TOf)) R_q17) :=
.reg 3 [] [(3,{ obs:=[(3,(TJo.b (⟨0,[],0⟩:TJo)))] })] [.w iv1,.ev 0,.pf z3m]<|
 let e3_:=(a0.H.getD iv1 dF)
.call (@F_q3d_ok e3_) fun rv3 cv3=>
 let e2_:=(TOf.b (⟨0,[],(⟨[],[],[],[]⟩:TBo)⟩:TOf))
.reg 4 [] [(1,hc cv3 [] true),(5,{ obs:=[(4,e2_)] })] [.cl 0 cv3 [] 4 true,.pf cz5]<|
.call (@F_q4j_ok e3_) fun rv4 cv4=>
.reg 5 [] [(1,hc cv4 [] true),(5,{ obs:=[(5,e2_)] })] [.cl 0 cv4 [] 5 true,.pf cz5]<|
.ite (cO (cO ((e3_.Y) != (i64.wrap ((iv1:Int)+1))) (rv3.2 != 0)) (rv4.2 != 0)) (
.ret [.pf zuy] (.ret ([],[],false))) (
.guard [(sv2.1.length+1) * (2 * 128)<=2 ^ 48,(sv2.2.length+1) * (2 * 128)<=2 ^ 48]<|
 let e0_:=([rv4.1]:List TOf)
 let e1_:=([rv3.1]:List TOf)
.reg 8 [3,7] [(2,hv (AV.d (eL TOf.e e1_))),(3,{ h:=.obj,cast:=some (AV.ref 1 ((sv2.1++e1_).length) 0 ((sv2.1++e1_).length)),obs:=[(1,(eS 6 TOf.e (sv2.1++e1_)))] }),(6,hv (AV.d (eL TOf.e e0_))),(7,{ h:=.obj,cast:=some (AV.ref 2 ((sv2.2++e0_).length) 0 ((sv2.2++e0_).length)),obs:=[(2,(eS 6 TOf.e (sv2.2++e0_)))] })] [.pf (ze TOf.e e1_),.e sv2.1.length,.e sv2.1.length,.pf (p:=∀ k,k<1->(TOf.d (e1_.getD k dF)).wd=6) (fun _ _=>rfl),.ev 0,.pf (z11 (o:=1) (l:=sv2.1) (x:=e1_)),.pf (z13 (sz:=6) (e:=TOf.e) (l:=sv2.1) (x:=e1_)),.pf (ze TOf.e e0_),.pf (ze TOf.e e0_),.e sv2.2.length,.e sv2.2.length,.pf (p:=∀ k,k<1->(TOf.d (e0_.getD k dF)).wd=6) (fun _ _=>rfl),.ev 1,.pf (z11 (o:=2) (l:=sv2.2) (x:=e0_)),.pf (z13 (sz:=6) (e:=TOf.e) (l:=sv2.2) (x:=e0_))]<|
.r (.cont ((sv2.1++e1_),(sv2.2++e0_))))
def S_q17 (a0:TWo):SC R_q17 R_q17 :=
.reg 1 [] [] []<|
.bor 6 (fun j=>AV.d (TOf.e (([]:List TOf).getD j dF))) [2]<|
.bor 6 (fun j=>AV.d (TOf.e (([]:List TOf).getD j dF))) [3]<|
.range (a0.H.length:Int) a0.H.length rfl (.slot 12) 14 [12,13] (fun (sv2:(List TOf)×(List TOf))=>[(2,(AV.ref 1 sv2.1.length 0 sv2.1.length)),(3,(AV.ref 2 sv2.2.length 0 sv2.2.length))]) (fun sv2=>[(1,(eS 6 TOf.e sv2.1)),(2,(eS 6 TOf.e sv2.2))]) (([]:List TOf),([]:List TOf)) (S_q17_b1 a0) (fun sv2 => 
.guard [sv2.1.length<2 ^ 63]<|
.reg 10 [] [] []<|
.frz 1 (.ev 0) none [2] []<|
.guard [sv2.2.length<2 ^ 63]<|
.frz 2 (.ev 0) none [3] []<|
.r (sv2.1,sv2.2,true)) id
def F_q17 (a0:TWo):=(S_q17 a0).den
theorem F_q17_ok {a0:TWo}:FO (F_q17 a0) 64 [(TWo.d a0)] [] (fun x=>(AV.tup [(AV.d (eL TOf.e x.1)),(AV.d (eL TOf.e x.2.1)),(vb x.2.2)])) NL:=fO (s:=S_q17 a0) Tryz.func64
def S_q72 (a0:TPo) (p0:Y8) (p1:Int):SC Bool Bool :=
.r (bif (a0.D==p0) then (a0.E==p1) else false)
def F_q72 (a0:TPo) (p0:Y8) (p1:Int):=(S_q72 a0 p0 p1).den
theorem F_q72_ok {a0:TPo} {p0:Y8} {p1:Int}:FO (F_q72 a0 p0 p1) 112 [(TPo.d a0),(vp 0),(vp 1)] [(bx (DV.str p0)),(Ob.box (vi p1))] vb (fun _=>[(bx (DV.str p0)),(Ob.box (vi p1))]):=fO (s:=S_q72 a0 p0 p1) Tryz.func112
def S_q2u_b1 (a0:(List TPo)) (p0:Y8) (p1:Int) (iv1:Nat) (_:Unit):SC Int (Step (Unit) Int) :=
.call (@F_q72_ok (a0.getD iv1 dF) p0 p1) fun rv2 cv2=>
.reg 4 [] [(5,hc cv2 [0,1] true)] [.w iv1,.ev 1,.cl 0 cv2 [0,1] 2 true]<|
.ite rv2 (
.r (.ret (iv1:Int))) (
.r (.cont ()))
def S_q2u (a0:(List TPo)) (p0:Y8) (p1:Int):SC Int Int :=
.range (a0.length:Int) a0.length rfl (.slot 0) 8 [0,1,7] (fun (_:Unit)=>[]) (fun _=>[]) () (S_q2u_b1 a0 p0 p1) (fun _ => 
.r (-1)) id
def F_q2u (a0:(List TPo)) (p0:Y8) (p1:Int):=(S_q2u a0 p0 p1).den
theorem F_q2u_ok {a0:(List TPo)} {p0:Y8} {p1:Int}:FO (F_q2u a0 p0 p1) 111 [(AV.d (eL TPo.e a0)),(AV.fn 112 [(vp 0),(vp 1)])] [(bx (DV.str p0)),(Ob.box (vi p1))] vi (fun _=>[(bx (DV.str p0)),(Ob.box (vi p1))]):=fO (s:=S_q2u a0 p0 p1) Tryz.func111
def S_q3e (a0:TTr) (a1:Y8) (a2:Int):SC Int Int :=
.call (@F_q2u_ok a0.B a1 a2) fun rv1 cv1=>
.k 1 3 cv1 [1,2] 3 true<|
.r rv1
def F_q3e (a0:TTr) (a1:Y8) (a2:Int):=(S_q3e a0 a1 a2).den
theorem F_q3e_ok {a0:TTr} {a1:Y8} {a2:Int}:FO (F_q3e a0 a1 a2) 61 [(TTr.d a0),(AV.d (DV.str a1)),(vi a2)] [] vi NL:=fO (s:=S_q3e a0 a1 a2) Tryz.func61
def S_q1u (a0:(List Int)):SC (List Int) (List Int) :=
.reg 0 [] [] []<|
.nils 0 (
.guard [(0+a0.length) * (2 * 8)<=2 ^ 48]<|
.reg 1 [] [] []<|
.lev 0 (vl a0) (.pf (lvQ true a0.length fun j=>(DV.i .i64 (a0.getD j dF))))<|
.br true (.pf (p:=true=true) rfl)<|
.reg 2 [] [] []<|
.lev 2 (vl a0) (.der (fun (h:a0.length=0)=>lvZ (DV.i .i64) a0 h) 1)<|
.r a0) (
.reg 1 [] [] []<|
.lev 0 (vl a0) (.pf (lvQ false a0.length fun j=>(DV.i .i64 (a0.getD j dF))))<|
.br false (.pf (p:=false=false) rfl)<|
.guard [(0+a0.length) * (2 * 8)<=2 ^ 48]<|
.reg 3 [] [(2,hv (vl a0))] [.pf (p:=∀ k,k<a0.length->AV.d ((DV.i .i64) (a0.getD k dF))=AV.d ((DV.i .i64) (a0.getD k dF))/\((DV.i .i64) (a0.getD k dF)).wd=1) (fun _ _=>⟨rfl,rfl⟩),.pf zhf,.ev 0,.pf (z3q (e:=(DV.i .i64)) (x:=a0))]<|
.r a0)
def F_q1u (a0:(List Int)):=(S_q1u a0).den
theorem F_q1u_ok {a0:(List Int)}:FO (F_q1u a0) 95 [(vl a0)] [] vl NL:=fO (s:=S_q1u a0) Tryz.func95
def S_q3f (a0:TPo):SC TPo TPo :=
.reg 0 [] [(1,{ obs:=[(1,(TPo.b (⟨[],0,0,[],[],[],[]⟩:TPo)))] })] [.pf cz4]<|
.call (@F_q1u_ok a0.A) fun rv1 cv1=>
.call (@F_q1u_ok a0.L) fun rv2 cv2=>
.call (@F_q1u_ok a0.K) fun rv3 cv3=>
.call (@F_q1u_ok a0.P) fun rv4 cv4=>
.reg 1 [13,15,17,19] [(2,hc cv1 [] true),(5,hc cv2 [] true),(8,hc cv3 [] true),(11,hc cv4 [] true)] [.cl 3 cv1 [] 2 true,.cl 2 cv2 [] 2 true,.cl 1 cv3 [] 2 true,.cl 0 cv4 [] 2 true]<|
.r (⟨a0.D,a0.E,a0.W,rv1,rv2,rv3,rv4⟩:TPo)
def F_q3f (a0:TPo):=(S_q3f a0).den
theorem F_q3f_ok {a0:TPo}:FO (F_q3f a0) 62 [(TPo.d a0)] [] (fun x=>(TPo.d x)) NL:=fO (s:=S_q3f a0) Tryz.func62
def S_q2b (a0:TTr) (a1:Y8) (a2:Int):SC (TPo×Bool) (TPo×Bool) :=
 let e0_:=(⟨[],0,0,[],[],[],[]⟩:TPo)
.reg 0 [] [(1,{ obs:=[(1,(TPo.b e0_))] })] [.pf cz4]<|
.a 1 3 2 (@F_q3e_ok a0 a1 a2) fun rv1=>
.ite (decide (rv1<0)) (
.reg 3 [] [(0,hv (TPo.d e0_))] [.pf zpq]<|
.r (e0_,false)) (
.call (@F_q3f_ok (a0.B.getD ((rv1).toNat) dF)) fun rv2 cv2=>
.guard [(0:Int)<=rv1,(rv1).toNat<a0.B.length]<|
.reg 4 [] [(5,hc cv2 [] true)] [.ev 0,.ev 1,.cl 2 cv2 [] 2 true]<|
.r (rv2,true))
def F_q2b (a0:TTr) (a1:Y8) (a2:Int):=(S_q2b a0 a1 a2).den
theorem F_q2b_ok {a0:TTr} {a1:Y8} {a2:Int}:FO (F_q2b a0 a1 a2) 28 [(TTr.d a0),(AV.d (DV.str a1)),(vi a2)] [] (fun x=>(AV.tup [(TPo.d x.1),(vb x.2)])) NL:=fO (s:=S_q2b a0 a1 a2) Tryz.func28
def S_qp_b1 (a0:TTr) (a1:TOf) (iv1:Nat) (_:Unit):SC Bool (Step (Unit) Bool) :=
.reg 4 [] [] [.w iv1,.ev 0]<|
 let e2_:=(a1.J.getD iv1 dF)
.call (@F_q2b_ok a0 (e2_.D) (e2_.E)) fun rv2 cv2=>
.reg 5 [] [(5,hc cv2 [] true),(9,{ obs:=[(4,(TPo.b (⟨[],0,0,[],[],[],[]⟩:TPo)))] })] [.cl 0 cv2 [] 4 true,.pf cz4]<|
 let e1_:=(i64.wrap (a1.O-1))
 let e0_:=(cO (!rv2.2) (decide ((e2_.A)>(rv2.1.A.getD ((e1_).toNat) dF))))
.guard [AllP [(!rv2.2)=false]->((0:Int)<=e1_),AllP [(!rv2.2)=false]->((e1_).toNat<rv2.1.A.length),AllP [e0_=false]->((0:Int)<=e1_),AllP [e0_=false]->((e1_).toNat<rv2.1.K.length)]<|
.reg 6 [] [] [.ev 0,.ev 1,.ev 2,.ev 3]<|
.ite (cO e0_ (decide ((e2_.K)>(rv2.1.K.getD ((e1_).toNat) dF)))) (
.r (.ret false)) (
.r (.cont ()))
def S_qp_b2 (a0:TTr) (a1:TOf) (a2:TOf) (iv3:Nat) (_:Unit):SC Bool (Step (Unit) Bool) :=
.reg 11 [] [(2,{ obs:=[(3,(TPo.b (⟨[],0,0,[],[],[],[]⟩:TPo)))] })] [.w iv3,.ev 0,.pf cz4]<|
 let e0_:=(a0.B.getD iv3 dF)
.call (@F_q1m_ok a2 (e0_.D) (e0_.E)) fun rv4 cv4=>
 let e1_:=(i64.wrap (a1.O-1))
.guard [(0:Int)<=e1_,(e1_).toNat<(e0_.L).length]<|
.reg 12 [] [(10,hc cv4 [] true)] [.ev 0,.ev 1,.cl 2 cv4 [] 4 true]<|
.ite (decide (((e0_.L).getD ((e1_).toNat) dF)>rv4.M)) (
.r (.ret false)) (
.r (.cont ()))
def S_qp (a0:TTr) (a1:TOf) (a2:TOf):SC Bool Bool :=
.range (a1.J.length:Int) a1.J.length rfl (.slot 18) 20 [3,5,7,18,19] (fun (_:Unit)=>[]) (fun _=>[]) () (S_qp_b1 a0 a1) (fun _ => 
.range (a0.B.length:Int) a0.B.length rfl (.slot 57) 59 [5,7,57,58] (fun (_:Unit)=>[]) (fun _=>[]) () (S_qp_b2 a0 a1 a2) (fun _ => 
.r true) id) id
def F_qp (a0:TTr) (a1:TOf) (a2:TOf):=(S_qp a0 a1 a2).den
theorem F_qp_ok {a0:TTr} {a1:TOf} {a2:TOf}:FO (F_qp a0 a1 a2) 65 [(TTr.d a0),(TOf.d a1),(TOf.d a2)] [] vb NL:=fO (s:=S_qp a0 a1 a2) Tryz.func65
def S_q1v (a0:Int) (a1:Int) (a2:Int):SC Bool Bool :=
.r (bif (decide (a0>=a1)) then (decide (a0<=a2)) else false)
def F_q1v (a0:Int) (a1:Int) (a2:Int):=(S_q1v a0 a1 a2).den
theorem F_q1v_ok {a0:Int} {a1:Int} {a2:Int}:FO (F_q1v a0 a1 a2) 117 [(vi a0),(vi a1),(vi a2)] [] vb NL:=fO (s:=S_q1v a0 a1 a2) Tryz.func117
end
end Go.Proofs.YtlhikmklpelceaaGreatDoor
/- What the functions compute,and that their calls return it. No condition. -/
namespace Go.Proofs.YtlhikmklpelceaaGreatDoor
open Go Go.TA
open Go.IntKind (i64)
noncomputable section
set_option maxRecDepth 100000
def S_q5y (a0:TTr) (a1:(List TOf)) (a2:TMe):SC Bool Bool :=
.call (@F_q2b_ok a0 a2.D a2.E) fun rv1 cv1=>
.reg 1 [] [(5,hc cv1 [] true),(9,{ obs:=[(2,(TPo.b (⟨[],0,0,[],[],[],[]⟩:TPo)))] })] [.cl 0 cv1 [] 2 true,.pf cz4]<|
.ite (!rv1.2) (
.r false) (
.ite (a2.Aa==0) (
.call (@F_q1v_ok a2.To 1 a0.N) fun rv2 cv2=>
 let e1_:=(i64.wrap (a2.To-1))
.calld [rv2=true] dF (@F_q1v_ok a2.A 0 (rv1.1.A.getD ((e1_).toNat) dF)) fun rv3 cv3 =>
 let e2_:=(bif rv2 then rv3 else false)
.calld [e2_=true] dF (@F_q1v_ok a2.K 0 (rv1.1.K.getD ((e1_).toNat) dF)) fun rv4 cv4 =>
.guard [AllP [rv2=true]->((0:Int)<=e1_),AllP [rv2=true]->((e1_).toNat<rv1.1.A.length),AllP [e2_=true]->((0:Int)<=e1_),AllP [e2_=true]->((e1_).toNat<rv1.1.K.length)]<|
.reg 5 [] [(4,hc cv2 [] true),(15,hc cv3 [] true),(27,hc cv4 [] true)] [.cl 8 cv2 [] 3 true,.ev 0,.ev 1,.clg 6 [rv2=true] cv3 [] 3 true,.ev 2,.ev 3,.clg 4 [e2_=true] cv4 [] 3 true]<|
.r (bif (bif (bif e2_ then rv4 else false) then (a2.M==0) else false) then (a2.P==0) else false)) (
.call (@F_q1v_ok a2.Aa 1 a0.N) fun rv5 cv5=>
 let e0_:=(bif rv5 then (a2.To==0) else false)
 let e4_:=(i64.wrap (a2.Aa-1))
.calld [e0_=true] dF (@F_q1m_ok (a1.getD ((e4_).toNat) dF) a2.D a2.E) fun rv6 cv6 =>
.calld [e0_=true] dF (@F_q1v_ok a2.M 0 rv6.M) fun rv7 cv7 =>
 let e3_:=(bif e0_ then rv7 else false)
.calld [e3_=true] dF (@F_q1v_ok a2.P 0 1000000000000000) fun rv8 cv8 =>
.guard [AllP [e0_=true]->((0:Int)<=e4_),AllP [e0_=true]->((e4_).toNat<a1.length)]<|
.reg 6 [] [(4,hc cv5 [] true),(23,hc cv6 [] true),(25,hc cv7 [] true),(30,hc cv8 [] true)] [.cl 8 cv5 [] 3 true,.ev 0,.ev 1,.clg 6 [e0_=true] cv6 [] 3 true,.clg 4 [e0_=true] cv7 [] 3 true,.clg 2 [e3_=true] cv8 [] 3 true]<|
.r (bif (bif (bif e3_ then rv8 else false) then (a2.A==0) else false) then (a2.K==0) else false)))
def F_q5y (a0:TTr) (a1:(List TOf)) (a2:TMe):=(S_q5y a0 a1 a2).den
theorem F_q5y_ok {a0:TTr} {a1:(List TOf)} {a2:TMe}:FO (F_q5y a0 a1 a2) 68 [(TTr.d a0),(AV.d (eL TOf.e a1)),(TMe.d a2)] [] vb NL:=fO (s:=S_q5y a0 a1 a2) Tryz.func68
def S_q73 (a0:TMe) (p0:TWo) (p1:(List TOf)):SC Bool Bool :=
.a 1 4 3 (@F_q5y_ok p0.F p1 a0) fun rv1=>
.r (!rv1)
def F_q73 (a0:TMe) (p0:TWo) (p1:(List TOf)):=(S_q73 a0 p0 p1).den
theorem F_q73_ok {a0:TMe} {p0:TWo} {p1:(List TOf)}:FO (F_q73 a0 p0 p1) 67 [(TMe.d a0),(vp 0),(vp 1)] [(TWo.b p0),(bx (eL TOf.e p1))] vb (fun _=>[(TWo.b p0),(bx (eL TOf.e p1))]):=fO (s:=S_q73 a0 p0 p1) Tryz.func67
def S_q2c_b1 (a0:(List TMe)) (p0:TWo) (p1:(List TOf)) (iv1:Nat) (_:Unit):SC Int (Step (Unit) Int) :=
.call (@F_q73_ok (a0.getD iv1 dF) p0 p1) fun rv2 cv2=>
.reg 4 [] [(5,hc cv2 [0,1] true)] [.w iv1,.ev 1,.cl 0 cv2 [0,1] 2 true]<|
.ite rv2 (
.r (.ret (iv1:Int))) (
.r (.cont ()))
def S_q2c (a0:(List TMe)) (p0:TWo) (p1:(List TOf)):SC Int Int :=
.range (a0.length:Int) a0.length rfl (.slot 0) 8 [0,1,7] (fun (_:Unit)=>[]) (fun _=>[]) () (S_q2c_b1 a0 p0 p1) (fun _ => 
.r (-1)) id
def F_q2c (a0:(List TMe)) (p0:TWo) (p1:(List TOf)):=(S_q2c a0 p0 p1).den
theorem F_q2c_ok {a0:(List TMe)} {p0:TWo} {p1:(List TOf)}:FO (F_q2c a0 p0 p1) 116 [(AV.d (eL TMe.e a0)),(AV.fn 67 [(vp 0),(vp 1)])] [(TWo.b p0),(bx (eL TOf.e p1))] vi (fun _=>[(TWo.b p0),(bx (eL TOf.e p1))]):=fO (s:=S_q2c a0 p0 p1) Tryz.func116
def S_q74 (a0:(List TMe)) (p0:TWo) (p1:(List TOf)):SC Bool Bool :=
.call (@F_q2c_ok a0 p0 p1) fun rv1 cv1=>
.k 1 2 cv1 [0,1] 2 true<|
.r (decide (rv1>=0))
def F_q74 (a0:(List TMe)) (p0:TWo) (p1:(List TOf)):=(S_q74 a0 p0 p1).den
theorem F_q74_ok {a0:(List TMe)} {p0:TWo} {p1:(List TOf)}:FO (F_q74 a0 p0 p1) 66 [(AV.d (eL TMe.e a0)),(AV.fn 67 [(vp 0),(vp 1)])] [(TWo.b p0),(bx (eL TOf.e p1))] vb (fun _=>[(TWo.b p0),(bx (eL TOf.e p1))]):=fO (s:=S_q74 a0 p0 p1) Tryz.func66
theorem zuz:OLe (bx Z0) (bx (eL TOf.e ([]))):=z50 DLe.sl0
def S_q18_b1 (a0:TWo) (rv1:R_q17) (iv2:Nat) (_:Unit):SC Bool (Step (Unit) Bool) :=
.call (@F_qp_ok a0.F (rv1.1.getD iv2 dF) (rv1.2.1.getD iv2 dF)) fun rv3 cv3=>
.guard [iv2<rv1.2.1.length]<|
.reg 9 [] [(10,hc cv3 [] true)] [.w iv2,.ev 2,.w iv2,.ev 0,.cl 1 cv3 [] 2 true]<|
.ite (!rv3) (
.r (.ret false)) (
.r (.cont ()))
def S_q18 (a0:TWo):SC Bool Bool :=
.a 1 2 1 (@F_qm_ok a0.F) fun rv4=>
.ite (cO (cO (!rv4) ((a0.H.length:Int) != a0.F.N)) (decide ((a0.V.length:Int)>200))) (
.r false) (
.call (@F_q17_ok a0) fun rv1 cv1=>
.reg 3 [] [(1,hc cv1 [] true),(6,{ obs:=[(1,(bx (eL TOf.e ([]))))] })] [.cl 0 cv1 [] 1 true,.pf zuz]<|
.ite (!rv1.2.2) (
.r false) (
.range (rv1.1.length:Int) rv1.1.length rfl (.slot 3) 36 [1,3,4,35] (fun (_:Unit)=>[]) (fun _=>[]) () (S_q18_b1 a0 rv1) (fun _ => 
.call (@F_q74_ok a0.V a0 rv1.2.1) fun rv5 cv5=>
.k 12 3 cv5 [0,1] 2 true<|
.r (!rv5)) id))
def F_q18 (a0:TWo):=(S_q18 a0).den
theorem F_q18_ok {a0:TWo}:FO (F_q18 a0) 29 [(TWo.d a0)] [] vb NL:=fO (s:=S_q18 a0) Tryz.func29
abbrev R_q2o:=Int×(List TPo)
def S_q2o_b1 (a0:TTr) (iv1:Nat) (sv2:Int×(List TPo)):SC R_q2o (Step (Int×(List TPo)) R_q2o) :=
.reg 5 [] [(2,{ obs:=[(3,(TPo.b (⟨[],0,0,[],[],[],[]⟩:TPo)))] })] [.w iv1,.ev 0,.pf cz4]<|
.call (@F_q3f_ok (a0.B.getD iv1 dF)) fun rv3 cv3=>
.guard [(sv2.2.length+1) * (2 * 128)<=2 ^ 48]<|
 let e0_:=([rv3]:List TPo)
.reg 6 [5,7] [(3,hc cv3 [] true),(4,hv (AV.d (eL TPo.e e0_))),(5,{ h:=.obj,cast:=some (AV.ref 2 ((sv2.2++e0_).length) 0 ((sv2.2++e0_).length)),obs:=[(2,(eS 7 TPo.e (sv2.2++e0_)))] })] [.cl 1 cv3 [] 4 true,.pf (ze TPo.e e0_),.e sv2.2.length,.e sv2.2.length,.pf (p:=∀ k,k<1->(TPo.d (e0_.getD k dF)).wd=7) (fun _ _=>rfl),.ev 0,.pf (z11 (o:=2) (l:=sv2.2) (x:=e0_)),.pf (z13 (sz:=7) (e:=TPo.e) (l:=sv2.2) (x:=e0_))]<|
.c (sv2.1,(sv2.2++e0_))
def S_q2o (a0:TTr):SC R_q2o R_q2o :=
 let e0_:=(TTr.b (⟨0,[]⟩:TTr))
.reg 0 [] [(1,{ obs:=[(1,e0_)] })] [.pf z2b]<|
.reg 2 [] [] []<|
 let e1_:=[(1,(vp 0)),(2,(vp 1)),(3,(AV.d (eL TPo.e a0.B)))]
.sh (A:=True) (.pf trivial) e1_ e1_ [(Ob.box (AV.agg [(vi a0.N),(AV.full 0 fun _=>DV.b false)])),e0_] [(Ob.box (AV.agg [(vi a0.N),(AV.ref 2 0 0 0)])),e0_,(eS 7 TPo.e ([]:List TPo))] (fun _=>(z2f (sz:=7) (f:=fun j=>AV.d (TPo.e (([]:List TPo).getD j dF))) (.box _ _ _ _ _ (y16 rfl) (TrV.agg (TrL.cons (TrV.keep _) (TrL.cons TrV.born TrL.nil))) (.keep _ _ _ _ (y16 rfl) (.nil _))))) (z1d (k:=0) rfl (TrS.keep _) (z1d (k:=1) rfl (TrS.keep _) (z1d (k:=2) rfl (TrS.keep _) z32)))<|
.range (a0.B.length:Int) a0.B.length rfl (.slot 9) 11 [1,2,9,10] (fun (_:Int×(List TPo))=>[]) (fun sv2=>[(0,(Ob.box (AV.agg [(vi sv2.1),(AV.ref 2 sv2.2.length 0 sv2.2.length)]))),(2,(eS 7 TPo.e sv2.2))]) (a0.N,([]:List TPo)) (S_q2o_b1 a0) (fun sv2 => 
.reg 8 [] [] []<|
.kill 0<|
.r (sv2.1,sv2.2)) id
def F_q2o (a0:TTr):=(S_q2o a0).den
theorem F_q2o_ok {a0:TTr}:FO (F_q2o a0) 101 [(TTr.d a0)] [] (fun x=>(AV.agg [(vi x.1),(AV.ref 2 x.2.length 0 x.2.length)])) (fun x=>[Ob.dead,(Ob.box (AV.agg [(vi x.1),(AV.ref 2 x.2.length 0 x.2.length)])),(eS 7 TPo.e x.2)]):=fO (s:=S_q2o a0) Tryz.func101
abbrev R_q2d:=Int×Bool
def S_q2d_b1 (a1:TPo) (p0:(List TPo)) (sv1:Int×Int):SC R_q2d (Step (Int×Int) R_q2d) :=
.ite (decide (sv1.1<sv1.2)) (
.reg 4 [] [] [.pf (p:=(0:Int)<=1) dk]<|
 let e0_:=(i64.wrap ((IntKind.u64.wrap (i64.wrap (sv1.1+sv1.2))).fdiv (2 ^ (min (1:Int).toNat IntKind.u64.bits))))
.call (@F_q34_ok (p0.getD (0+(e0_).toNat) dF) a1) fun rv2 cv2=>
.guard [(0:Int)<=e0_,(e0_).toNat<p0.length,(0+(e0_).toNat)<p0.length]<|
.reg 5 [] [(6,hc cv2 [] true)] [.e p0.length,.ev 0,.ev 1,.e p0.length,.ev 2,.cl 3 cv2 [] 2 true]<|
.ite (decide (rv2<0)) (
.r (.cont ((i64.wrap (e0_+1)),sv1.2))) (
.r (.cont (sv1.1,e0_)))) (
.r (.brk (sv1.1,sv1.2)))
def S_q2d (a1:TPo) (p0:(List TPo)):SC R_q2d R_q2d :=
.iter [0,2,4,8] (fun (sv1:Int×Int)=>[(9,(vi sv1.1)),(10,(vi sv1.2))]) (fun _=>[]) (0,(p0.length:Int)) (S_q2d_b1 a1 p0) (fun sv1 =>
 let e0_:=(decide (sv1.1<(p0.length:Int)))
.calld [e0_=true] dF (@F_q34_ok (p0.getD (0+(sv1.1).toNat) dF) a1) fun rv3 cv3 =>
.guard [AllP [e0_=true]->((0:Int)<=sv1.1),AllP [e0_=true]->((sv1.1).toNat<p0.length),AllP [e0_=true]->((0+(sv1.1).toNat)<p0.length)]<|
.reg 8 [] [(11,hc cv3 [] true)] [.pf (p:=AllP [e0_=true]->(p0.length=p0.length)) (fun _=>rfl),.ev 0,.ev 1,.pf (p:=AllP [e0_=true]->(p0.length=p0.length)) (fun _=>rfl),.ev 2,.clg 3 [e0_=true] cv3 [] 2 true]<|
.r (sv1.1,(bif e0_ then (rv3==0) else false))) id
def F_q2d (a1:TPo) (p0:(List TPo)):=(S_q2d a1 p0).den
theorem F_q2d_ok {a1:TPo} {p0:(List TPo)}:FO (F_q2d a1 p0) 102 [(AV.ref 0 p0.length 0 p0.length),(TPo.d a1),(AV.fn 103 [])] [(eS 7 TPo.e p0)] (fun x=>(AV.tup [(vi x.1),(vb x.2)])) (fun _=>[(eS 7 TPo.e p0)]):=fO (s:=S_q2d a1 p0) Tryz.func102
def V_q7c (x:(List TPo)):AV:=.ref 0 x.length 0 x.length
def L_q7c (p1:List TPo) (x:(List TPo)):List Ob:=[eS 7 TPo.e x,eS 7 TPo.e p1]
def F_q7c (a1:Int) (p0 p1:List TPo):Option (List TPo):=match p1 with
 | [y]=>guardP (0<=a1/\a1.toNat<=p0.length/\(p0.length+1) * (4 * 128)<=2 ^ 48) (some (insL p0 a1.toNat y))
 | _=>none
theorem F_q7c_ok {a1:Int} {p0 p1:List TPo} (r:(List TPo)) (h:F_q7c a1 p0 p1=some r):CallOk Tryz.prog 104 [(AV.ref 0 p0.length 0 p0.length),(AV.d (.i .i64 a1)),(AV.ref 1 p1.length 0 p1.length)] [(eS 7 TPo.e p0),(eS 7 TPo.e p1)] (V_q7c r) (L_q7c p1 r):=by
 unfold F_q7c at h
 split at h
 ·rename_i y
  obtain⟨⟨h1,h2,h3⟩,h⟩:=z1q h
  obtain rfl:=yz h
  obtain⟨i,rfl⟩:∃ i:Nat,a1=(i:Int):=⟨a1.toNat,(y5h h1).symm⟩
  exact InsG.ins_ok .a (fun _=>rfl) h2 h3
 ·cases h
def S_q4k (a0:TTr) (a1:Y8) (a2:Int) (a3:Int):SC (TTr×Int) (TTr×Int) :=
 let e6_:=(TTr.b (⟨0,[]⟩:TTr))
.reg 0 [] [(1,{ obs:=[(1,e6_)] })] [.pf z2b]<|
.a 1 1 2 (@F_qm_ok a0) fun rv1=>
 let e5_:=(TTr.d (⟨0,[]⟩:TTr))
.ite (!rv1) (
.reg 2 [] [(0,hv e5_)] [.pf z1j]<|
.r ((⟨0,[]⟩:TTr),1)) (
.a 3 1 2 (@F_q7d_ok a1) fun rv2=>
.ite ((rv2.length:Int)==0) (
.reg 4 [] [(0,hv e5_)] [.pf z1j]<|
.r ((⟨0,[]⟩:TTr),5)) (
.call (@F_q25_ok a1 a2) fun rv3 cv3=>
.calld [(!rv3)=false] dF (@F_qb_ok a3 (-1000000000000000) 1000000000000000) fun rv4 cv4 =>
.reg 5 [] [(2,hc cv3 [] true),(6,hc cv4 [] true)] [.cl 2 cv3 [] 2 true,.clg 0 [(!rv3)=false] cv4 [] 2 true]<|
.ite (cO (!rv3) (!rv4)) (
.reg 6 [] [(0,hv e5_)] [.pf z1j]<|
.r ((⟨0,[]⟩:TTr),2)) (
.call (@F_q2o_ok a0) fun rv5 cv5=>
.k 7 1 cv5 [] 2 false<|
.kill 3<|
 let e4_:=(⟨a1,a2,0,[],[],[],[]⟩:TPo)
.reg 8 [] [(2,hv (TPo.d e4_)),(3,{ obs:=[(5,(TPo.b (⟨[],0,0,[],[],[],[]⟩:TPo)))] })] [.pf (p:=LeV (AV.d (DV.agg [(DV.str a1),(DV.i .i64 a2),(DV.i .i64 0),Z0,Z0,Z0,Z0])) (TPo.d e4_)) (z2p rfl (DLe.agg (DLeL.cons (DLe.refl _) (DLeL.cons (DLe.refl _) (DLeL.cons (DLe.refl _) (DLeL.cons DLe.sl0 (DLeL.cons DLe.sl0 (DLeL.cons DLe.sl0 (DLeL.cons DLe.sl0 DLeL.nil))))))))),.pf cz4]<|
.call (@F_q2d_ok e4_ rv5.2) fun rv6 cv6=>
.k 9 3 cv6 [4] 6 true<|
.cut none [3,4,8,11] (fun (_:Int×(List TPo)×TPo)=>[]) (fun sv7=>[(0,(Ob.box (AV.agg [(vi sv7.1),(AV.ref 4 sv7.2.1.length 0 sv7.2.1.length)]))),(4,(eS 7 TPo.e sv7.2.1)),(5,(TPo.b sv7.2.2))]) (
.ite (!rv6.2) (
.ite ((rv5.2.length:Int)==60) (
.reg 12 [] [(0,hv e5_)] [.pf z1j]<|
.r (.ret ((⟨0,[]⟩:TTr),3))) (
.guard [(0:Int)<=rv5.1,rv5.1 * 8<=2 ^ 47]<|
 let e7_:=((List.replicate rv5.1.toNat (0:Int)).length)
.reg 13 [] [(2,{ cast:=some (AV.ref 6 e7_ 0 e7_),obs:=[(6,(eS 1 (DV.i .i64) (List.replicate rv5.1.toNat (0:Int))))] })] [.ev 0,.pf (p:=rv5.1<=rv5.1) (y1d _),.ev 1,.pf (z8q (o:=6) (k:=rv5.1.toNat) (z:=(0:Int))),.pf (z8r (sz:=1) (k:=rv5.1.toNat) (e:=(DV.i .i64)) (z:=(0:Int)))]<|
.guard [(List.replicate rv5.1.toNat (0:Int)).length<2 ^ 63]<|
.frz 6 (.ev 0) none [13] []<|
 let e1_:=(⟨e4_.D,e4_.E,e4_.W,(List.replicate rv5.1.toNat (0:Int)),(List.replicate rv5.1.toNat (0:Int)),(List.replicate rv5.1.toNat (0:Int)),(List.replicate rv5.1.toNat (0:Int))⟩:TPo)
.call (@F_q3f_ok e1_) fun rv8 cv8=>
 let e9_:=([rv8]:List TPo)
.call (@F_q7c_ok rv6.1 rv5.2 e9_) fun rv9 cv9=>
.reg 15 [5,6,8] [(4,hc cv8 [] true),(5,{ h:=.obj,obs:=[(7,(eS 7 TPo.e e9_))] }),(6,hc cv9 [4,7] false)] [.cl 1 cv8 [] 7 true,.pf (zjt (sz:=7) (e:=TPo.e) (l:=e9_)),.cl 0 cv9 [4,7] 8 false]<|
.r (.next (rv5.1,rv9,e1_)))) (
.r (.next (rv5.1,rv5.2,e4_)))) fun sv7=>
 let e8_:=(0+(rv6.1).toNat)
.guard [(0:Int)<=rv6.1,(rv6.1).toNat<sv7.2.1.length,e8_<sv7.2.1.length]<|
 let e3_:=(sv7.2.1.getD e8_ dF)
 let e0_:=(⟨e3_.D,e3_.E,a3,e3_.A,e3_.L,e3_.K,e3_.P⟩:TPo)
 let e2_:=(sv7.2.1.set e8_ e0_)
 let e10_:=(eS 7 TPo.e e2_)
.reg 16 [] [(6,{ obs:=[(4,e10_)] })] [.e sv7.2.1.length,.ev 0,.ev 1,.e sv7.2.1.length,.e sv7.2.1.length,.ev 2,.pf (zu (sz:=7) (e:=TPo.e) (l:=sv7.2.1) (i:=e8_) (x:=e0_) (fun _=>rfl))]<|
 let e11_:=[(4,(vp 0)),(8,(vp 1))]
.cst (A:=True) (.pf trivial) e11_ e11_ [(Ob.box (AV.agg [(vi sv7.1),(AV.ref 4 sv7.2.1.length 0 sv7.2.1.length)])),e6_,Ob.dead,Ob.dead,e10_,(TPo.b sv7.2.2)] [(Ob.box (AV.agg [(vi sv7.1),(AV.ref 4 (e2_.length) 0 (e2_.length))])),e6_,Ob.dead,Ob.dead,e10_,(TPo.b sv7.2.2)] (fun _=>⟨by simp +zetaDelta only,by simp +zetaDelta only[ya]⟩)<|
.guard [e2_.length<2 ^ 63]<|
.reg 17 [] [] []<|
.frz 4 (.ev 0) none [] [0,1]<|
.r ((⟨sv7.1,e2_⟩:TTr),0))))
def F_q4k (a0:TTr) (a1:Y8) (a2:Int) (a3:Int):=(S_q4k a0 a1 a2 a3).den
theorem F_q4k_ok {a0:TTr} {a1:Y8} {a2:Int} {a3:Int}:FO (F_q4k a0 a1 a2 a3) 55 [(TTr.d a0),(AV.d (DV.str a1)),(vi a2),(vi a3)] [] (fun x=>(AV.tup [(TTr.d x.1),(vi x.2)])) NL:=fO (s:=S_q4k a0 a1 a2 a3) Tryz.func55
def S_q3g (a0:(List Int)):SC (List Int) (List Int) :=
.reg 0 [] [] []<|
.nils 0 (
.guard [a0.length * (2 * 8)<=2 ^ 48]<|
.reg 1 [] [] []<|
.lev 0 (vl a0) (.pf (lvQ true a0.length fun j=>(DV.i .i64 (a0.getD j dF))))<|
.br true (.pf (p:=true=true) rfl)<|
.reg 2 [] [] []<|
.bor 1 (fun j=>AV.d ((DV.i .i64) (a0.getD j dF))) [2]<|
.cst (A:=a0.length=0) (.ev 1) [(2,AV.ref 0 0 0 0)] [(2,(AV.ref 0 a0.length 0 a0.length))] [(Ob.seq 1 0 fun j=>AV.d ((DV.i .i64) (a0.getD j dF)))] [(eS 1 (DV.i .i64) a0)] (fun h=>⟨by rw[h],by unfold eS; rw[h]⟩)<|
.r a0) (
.reg 1 [] [] []<|
.lev 0 (vl a0) (.pf (lvQ false a0.length fun j=>(DV.i .i64 (a0.getD j dF))))<|
.br false (.pf (p:=false=false) rfl)<|
.guard [a0.length * (2 * 8)<=2 ^ 48]<|
.reg 3 [] [(2,{ h:=.obj })] [.pf (p:=∀ k,k<a0.length->(AV.d ((DV.i .i64) (a0.getD k dF))).wd=1) (fun _ _=>rfl),.ev 0]<|
.r a0)
def F_q3g (a0:(List Int)):=(S_q3g a0).den
theorem F_q3g_ok {a0:(List Int)}:FO (F_q3g a0) 95 [(vl a0)] [] (fun x=>(AV.ref 0 x.length 0 x.length)) (fun x=>[(eS 1 (DV.i .i64) x)]):=fO (s:=S_q3g a0) Tryz.func95
abbrev R_q5z:=Y8×Int×Int×(List Int)×(List Int)×(List Int)×(List Int)
def S_q5z (a0:TPo):SC R_q5z R_q5z :=
.reg 0 [] [(1,{ obs:=[(1,(TPo.b (⟨[],0,0,[],[],[],[]⟩:TPo)))] })] [.pf cz4]<|
.call (@F_q3g_ok a0.A) fun rv1 cv1=>
.call (@F_q3g_ok a0.L) fun rv2 cv2=>
.call (@F_q3g_ok a0.K) fun rv3 cv3=>
.call (@F_q3g_ok a0.P) fun rv4 cv4=>
.reg 1 [2,5,8,11,13,15,17,19] [(2,hc cv1 [] false),(5,hc cv2 [] false),(8,hc cv3 [] false),(11,hc cv4 [] false)] [.cl 3 cv1 [] 2 false,.cl 2 cv2 [] 3 false,.cl 1 cv3 [] 4 false,.cl 0 cv4 [] 5 false]<|
.reg 2 [] [] []<|
.kill 0<|
.r (a0.D,a0.E,a0.W,rv1,rv2,rv3,rv4)
def F_q5z (a0:TPo):=(S_q5z a0).den
theorem F_q5z_ok {a0:TPo}:FO (F_q5z a0) 62 [(TPo.d a0)] [] (fun x=>(AV.agg [(AV.d (DV.str x.1)),(vi x.2.1),(vi x.2.2.1),(AV.ref 2 x.2.2.2.1.length 0 x.2.2.2.1.length),(AV.ref 3 x.2.2.2.2.1.length 0 x.2.2.2.2.1.length),(AV.ref 4 x.2.2.2.2.2.1.length 0 x.2.2.2.2.2.1.length),(AV.ref 5 x.2.2.2.2.2.2.length 0 x.2.2.2.2.2.2.length)])) (fun x=>[Ob.dead,(Ob.box (AV.agg [(AV.d (DV.str x.1)),(vi x.2.1),(vi x.2.2.1),(AV.ref 2 x.2.2.2.1.length 0 x.2.2.2.1.length),(AV.ref 3 x.2.2.2.2.1.length 0 x.2.2.2.2.1.length),(AV.ref 4 x.2.2.2.2.2.1.length 0 x.2.2.2.2.2.1.length),(AV.ref 5 x.2.2.2.2.2.2.length 0 x.2.2.2.2.2.2.length)])),(eS 1 (DV.i .i64) x.2.2.2.1),(eS 1 (DV.i .i64) x.2.2.2.2.1),(eS 1 (DV.i .i64) x.2.2.2.2.2.1),(eS 1 (DV.i .i64) x.2.2.2.2.2.2)]):=fO (s:=S_q5z a0) Tryz.func62
abbrev R_q1w:=Int×(List TPo)
def S_q1w_b1 (a0:TTr) (i0:Nat) (iv1:Nat) (sv2:Int×(List TPo)):SC R_q1w (Step (Int×(List TPo)) R_q1w) :=
.reg 5 [] [(2,{ obs:=[(7,(TPo.b (⟨[],0,0,[],[],[],[]⟩:TPo)))] })] [.w iv1,.ev 0,.pf cz4]<|
.call (@F_q5z_ok (a0.B.getD iv1 dF)) fun rv3 cv3=>
.guard [(sv2.2.length+1) * (2 * 128)<=2 ^ 48]<|
.reg 6 [3,4,5,7] [(3,hc cv3 [] false),(4,{ h:=.obj }),(5,{ h:=.obj,cast:=some (AV.ref 2 ((sv2.2++[(⟨rv3.1,rv3.2.1,rv3.2.2.1,rv3.2.2.2.1,rv3.2.2.2.2.1,rv3.2.2.2.2.2.1,rv3.2.2.2.2.2.2⟩:TPo)]).length) 0 ((sv2.2++[(⟨rv3.1,rv3.2.1,rv3.2.2.1,rv3.2.2.2.1,rv3.2.2.2.2.1,rv3.2.2.2.2.2.1,rv3.2.2.2.2.2.2⟩:TPo)]).length)),obs:=[(2,(Ob.seq 7 ((sv2.2++[(⟨rv3.1,rv3.2.1,rv3.2.2.1,rv3.2.2.2.1,rv3.2.2.2.2.1,rv3.2.2.2.2.2.1,rv3.2.2.2.2.2.2⟩:TPo)]).length) (catF sv2.2.length (fun j=>AV.sel (decide (j=i0)) 7 (AV.agg [(AV.d (DV.str (sv2.2.getD i0 dF).D)),(vi (sv2.2.getD i0 dF).E),(vi (sv2.2.getD i0 dF).W),(rr 3 (sv2.2.getD i0 dF).A),(rr 4 (sv2.2.getD i0 dF).L),(rr 5 (sv2.2.getD i0 dF).K),(rr 6 (sv2.2.getD i0 dF).P)]) (TPo.d (sv2.2.getD j dF))) (listF AV.bot [(AV.agg [(AV.d (DV.str rv3.1)),(vi rv3.2.1),(vi rv3.2.2.1),(rr 10 rv3.2.2.2.1),(rr 11 rv3.2.2.2.2.1),(rr 12 rv3.2.2.2.2.2.1),(rr 13 rv3.2.2.2.2.2.2)])]))))] })] [.cl 1 cv3 [] 8 false,.e 1,.e sv2.2.length,.e sv2.2.length,.pf (p:=∀ k,k<1->(listF AV.bot [(AV.agg [(AV.d (DV.str rv3.1)),(vi rv3.2.1),(vi rv3.2.2.1),(rr 10 rv3.2.2.2.1),(rr 11 rv3.2.2.2.2.1),(rr 12 rv3.2.2.2.2.2.1),(rr 13 rv3.2.2.2.2.2.2)])] k).wd=7) (fun k hk=>by obtain rfl:k=0:=om; rfl),.ev 0,.pf (z11 (o:=2) (l:=sv2.2) (x:=[(⟨rv3.1,rv3.2.1,rv3.2.2.1,rv3.2.2.2.1,rv3.2.2.2.2.1,rv3.2.2.2.2.2.1,rv3.2.2.2.2.2.2⟩:TPo)])),.pf (p:=OLe (Ob.seq 7 (sv2.2.length+1) (catF sv2.2.length (fun j=>AV.sel (decide (j=i0)) 7 (AV.agg [(AV.d (DV.str (sv2.2.getD i0 dF).D)),(vi (sv2.2.getD i0 dF).E),(vi (sv2.2.getD i0 dF).W),(rr 3 (sv2.2.getD i0 dF).A),(rr 4 (sv2.2.getD i0 dF).L),(rr 5 (sv2.2.getD i0 dF).K),(rr 6 (sv2.2.getD i0 dF).P)]) (TPo.d (sv2.2.getD j dF))) (listF AV.bot [(AV.agg [(AV.d (DV.str rv3.1)),(vi rv3.2.1),(vi rv3.2.2.1),(rr 10 rv3.2.2.2.1),(rr 11 rv3.2.2.2.2.1),(rr 12 rv3.2.2.2.2.2.1),(rr 13 rv3.2.2.2.2.2.2)])]))) (Ob.seq 7 ((sv2.2++[(⟨rv3.1,rv3.2.1,rv3.2.2.1,rv3.2.2.2.1,rv3.2.2.2.2.1,rv3.2.2.2.2.2.1,rv3.2.2.2.2.2.2⟩:TPo)]).length) (catF sv2.2.length (fun j=>AV.sel (decide (j=i0)) 7 (AV.agg [(AV.d (DV.str (sv2.2.getD i0 dF).D)),(vi (sv2.2.getD i0 dF).E),(vi (sv2.2.getD i0 dF).W),(rr 3 (sv2.2.getD i0 dF).A),(rr 4 (sv2.2.getD i0 dF).L),(rr 5 (sv2.2.getD i0 dF).K),(rr 6 (sv2.2.getD i0 dF).P)]) (TPo.d (sv2.2.getD j dF))) (listF AV.bot [(AV.agg [(AV.d (DV.str rv3.1)),(vi rv3.2.1),(vi rv3.2.2.1),(rr 10 rv3.2.2.2.1),(rr 11 rv3.2.2.2.2.1),(rr 12 rv3.2.2.2.2.2.1),(rr 13 rv3.2.2.2.2.2.2)])])))) (zju sj)]<|
 let e0_:=(⟨rv3.1,rv3.2.1,rv3.2.2.1,rv3.2.2.2.1,rv3.2.2.2.2.1,rv3.2.2.2.2.2.1,rv3.2.2.2.2.2.2⟩:TPo)
.guard [((sv2.2.length=i0->0<e0_.A.length/\0<e0_.L.length/\0<e0_.K.length/\0<e0_.P.length)/\(e0_.A.length<2 ^ 63/\e0_.L.length<2 ^ 63/\e0_.K.length<2 ^ 63/\e0_.P.length<2 ^ 63))]<|
.sh (A:=((sv2.2.length=i0->0<(⟨rv3.1,rv3.2.1,rv3.2.2.1,rv3.2.2.2.1,rv3.2.2.2.2.1,rv3.2.2.2.2.2.1,rv3.2.2.2.2.2.2⟩:TPo).A.length/\0<(⟨rv3.1,rv3.2.1,rv3.2.2.1,rv3.2.2.2.1,rv3.2.2.2.2.1,rv3.2.2.2.2.2.1,rv3.2.2.2.2.2.2⟩:TPo).L.length/\0<(⟨rv3.1,rv3.2.1,rv3.2.2.1,rv3.2.2.2.1,rv3.2.2.2.2.1,rv3.2.2.2.2.2.1,rv3.2.2.2.2.2.2⟩:TPo).K.length/\0<(⟨rv3.1,rv3.2.1,rv3.2.2.1,rv3.2.2.2.1,rv3.2.2.2.2.1,rv3.2.2.2.2.2.1,rv3.2.2.2.2.2.2⟩:TPo).P.length)/\((⟨rv3.1,rv3.2.1,rv3.2.2.1,rv3.2.2.2.1,rv3.2.2.2.2.1,rv3.2.2.2.2.2.1,rv3.2.2.2.2.2.2⟩:TPo).A.length<2 ^ 63/\(⟨rv3.1,rv3.2.1,rv3.2.2.1,rv3.2.2.2.1,rv3.2.2.2.2.1,rv3.2.2.2.2.2.1,rv3.2.2.2.2.2.2⟩:TPo).L.length<2 ^ 63/\(⟨rv3.1,rv3.2.1,rv3.2.2.1,rv3.2.2.2.1,rv3.2.2.2.2.1,rv3.2.2.2.2.2.1,rv3.2.2.2.2.2.2⟩:TPo).K.length<2 ^ 63/\(⟨rv3.1,rv3.2.1,rv3.2.2.1,rv3.2.2.2.1,rv3.2.2.2.2.1,rv3.2.2.2.2.2.1,rv3.2.2.2.2.2.2⟩:TPo).P.length<2 ^ 63))) (.ev 0) [(1,(vp 0)),(2,(vp 1)),(9,(AV.d (eL TPo.e a0.B))),(10,(vi (a0.B.length:Int))),(11,(vi (iv1:Int)))] [(1,(vp 0)),(2,(vp 1)),(9,(AV.d (eL TPo.e a0.B))),(10,(vi (a0.B.length:Int))),(11,(vi (iv1:Int)))] [(Ob.box (AV.agg [(vi sv2.1),(AV.ref 2 ((sv2.2++[(⟨rv3.1,rv3.2.1,rv3.2.2.1,rv3.2.2.2.1,rv3.2.2.2.2.1,rv3.2.2.2.2.2.1,rv3.2.2.2.2.2.2⟩:TPo)]).length) 0 ((sv2.2++[(⟨rv3.1,rv3.2.1,rv3.2.2.1,rv3.2.2.2.1,rv3.2.2.2.2.1,rv3.2.2.2.2.2.1,rv3.2.2.2.2.2.2⟩:TPo)]).length))])),(TTr.b (⟨0,[]⟩:TTr)),(Ob.seq 7 (sv2.2++[(⟨rv3.1,rv3.2.1,rv3.2.2.1,rv3.2.2.2.1,rv3.2.2.2.2.1,rv3.2.2.2.2.2.1,rv3.2.2.2.2.2.2⟩:TPo)]).length (catF sv2.2.length (fun j=>AV.sel (decide (j=i0)) 7 (AV.agg [(AV.d (DV.str (sv2.2.getD i0 dF).D)),(vi (sv2.2.getD i0 dF).E),(vi (sv2.2.getD i0 dF).W),(rr 3 (sv2.2.getD i0 dF).A),(rr 4 (sv2.2.getD i0 dF).L),(rr 5 (sv2.2.getD i0 dF).K),(rr 6 (sv2.2.getD i0 dF).P)]) (TPo.d (sv2.2.getD j dF))) (listF AV.bot [(AV.agg [(AV.d (DV.str rv3.1)),(vi rv3.2.1),(vi rv3.2.2.1),(rr 10 rv3.2.2.2.1),(rr 11 rv3.2.2.2.2.1),(rr 12 rv3.2.2.2.2.2.1),(rr 13 rv3.2.2.2.2.2.2)])]))),(eQ (opQ TPo.A i0 sv2.2)),(eQ (opQ TPo.L i0 sv2.2)),(eQ (opQ TPo.K i0 sv2.2)),(eQ (opQ TPo.P i0 sv2.2)),(TPo.b (a0.B.getD iv1 dF)),Ob.dead,(Ob.box (AV.agg [(AV.d (DV.str rv3.1)),(vi rv3.2.1),(vi rv3.2.2.1),(rr 10 rv3.2.2.2.1),(rr 11 rv3.2.2.2.2.1),(rr 12 rv3.2.2.2.2.2.1),(rr 13 rv3.2.2.2.2.2.2)])),(eQ (⟨rv3.1,rv3.2.1,rv3.2.2.1,rv3.2.2.2.1,rv3.2.2.2.2.1,rv3.2.2.2.2.2.1,rv3.2.2.2.2.2.2⟩:TPo).A),(eQ (⟨rv3.1,rv3.2.1,rv3.2.2.1,rv3.2.2.2.1,rv3.2.2.2.2.1,rv3.2.2.2.2.2.1,rv3.2.2.2.2.2.2⟩:TPo).L),(eQ (⟨rv3.1,rv3.2.1,rv3.2.2.1,rv3.2.2.2.1,rv3.2.2.2.2.1,rv3.2.2.2.2.2.1,rv3.2.2.2.2.2.2⟩:TPo).K),(eQ (⟨rv3.1,rv3.2.1,rv3.2.2.1,rv3.2.2.2.1,rv3.2.2.2.2.1,rv3.2.2.2.2.2.1,rv3.2.2.2.2.2.2⟩:TPo).P),(Ob.seq 7 1 (listF AV.bot [(AV.agg [(AV.d (DV.str rv3.1)),(vi rv3.2.1),(vi rv3.2.2.1),(rr 10 rv3.2.2.2.1),(rr 11 rv3.2.2.2.2.1),(rr 12 rv3.2.2.2.2.2.1),(rr 13 rv3.2.2.2.2.2.2)])]))] [(Ob.box (AV.agg [(vi sv2.1),(AV.ref 2 ((sv2.2++[(⟨rv3.1,rv3.2.1,rv3.2.2.1,rv3.2.2.2.1,rv3.2.2.2.2.1,rv3.2.2.2.2.2.1,rv3.2.2.2.2.2.2⟩:TPo)]).length) 0 ((sv2.2++[(⟨rv3.1,rv3.2.1,rv3.2.2.1,rv3.2.2.2.1,rv3.2.2.2.2.1,rv3.2.2.2.2.2.1,rv3.2.2.2.2.2.2⟩:TPo)]).length))])),(TTr.b (⟨0,[]⟩:TTr)),(oTApiPot.R 3 i0 (sv2.2++[(⟨rv3.1,rv3.2.1,rv3.2.2.1,rv3.2.2.2.1,rv3.2.2.2.2.1,rv3.2.2.2.2.2.1,rv3.2.2.2.2.2.2⟩:TPo)])),(eQ (opQ TPo.A i0 (sv2.2++[(⟨rv3.1,rv3.2.1,rv3.2.2.1,rv3.2.2.2.1,rv3.2.2.2.2.1,rv3.2.2.2.2.2.1,rv3.2.2.2.2.2.2⟩:TPo)]))),(eQ (opQ TPo.L i0 (sv2.2++[(⟨rv3.1,rv3.2.1,rv3.2.2.1,rv3.2.2.2.1,rv3.2.2.2.2.1,rv3.2.2.2.2.2.1,rv3.2.2.2.2.2.2⟩:TPo)]))),(eQ (opQ TPo.K i0 (sv2.2++[(⟨rv3.1,rv3.2.1,rv3.2.2.1,rv3.2.2.2.1,rv3.2.2.2.2.1,rv3.2.2.2.2.2.1,rv3.2.2.2.2.2.2⟩:TPo)]))),(eQ (opQ TPo.P i0 (sv2.2++[(⟨rv3.1,rv3.2.1,rv3.2.2.1,rv3.2.2.2.1,rv3.2.2.2.2.1,rv3.2.2.2.2.2.1,rv3.2.2.2.2.2.2⟩:TPo)]))),(TPo.b (a0.B.getD iv1 dF)),Ob.dead,(Ob.box (AV.agg [(AV.d (DV.str rv3.1)),(vi rv3.2.1),(vi rv3.2.2.1),(rr 10 rv3.2.2.2.1),(rr 11 rv3.2.2.2.2.1),(rr 12 rv3.2.2.2.2.2.1),(rr 13 rv3.2.2.2.2.2.2)])),Ob.dead,Ob.dead,Ob.dead,Ob.dead,(Ob.seq 7 1 (listF AV.bot [(AV.agg [(AV.d (DV.str rv3.1)),(vi rv3.2.1),(vi rv3.2.2.1),(rr 10 rv3.2.2.2.1),(rr 11 rv3.2.2.2.2.1),(rr 12 rv3.2.2.2.2.2.1),(rr 13 rv3.2.2.2.2.2.2)])]))] (fun h=>zam oTApiPot (P:=[(Ob.box (AV.agg [(vi sv2.1),(AV.ref 2 ((sv2.2++[(⟨rv3.1,rv3.2.1,rv3.2.2.1,rv3.2.2.2.1,rv3.2.2.2.2.1,rv3.2.2.2.2.2.1,rv3.2.2.2.2.2.2⟩:TPo)]).length) 0 ((sv2.2++[(⟨rv3.1,rv3.2.1,rv3.2.2.1,rv3.2.2.2.1,rv3.2.2.2.2.1,rv3.2.2.2.2.2.1,rv3.2.2.2.2.2.2⟩:TPo)]).length))])),(TTr.b (⟨0,[]⟩:TTr))]) (D:=[(TPo.b (a0.B.getD iv1 dF)),Ob.dead,(Ob.box (AV.agg [(AV.d (DV.str rv3.1)),(vi rv3.2.1),(vi rv3.2.2.1),(rr 10 rv3.2.2.2.1),(rr 11 rv3.2.2.2.2.1),(rr 12 rv3.2.2.2.2.2.1),(rr 13 rv3.2.2.2.2.2.2)]))]) (E:=[(Ob.seq 7 1 (listF AV.bot [(AV.agg [(AV.d (DV.str rv3.1)),(vi rv3.2.1),(vi rv3.2.2.1),(rr 10 rv3.2.2.2.1),(rr 11 rv3.2.2.2.2.1),(rr 12 rv3.2.2.2.2.2.1),(rr 13 rv3.2.2.2.2.2.2)])]))]) (i:=i0) (l:=sv2.2) (x:=(⟨rv3.1,rv3.2.1,rv3.2.2.1,rv3.2.2.2.1,rv3.2.2.2.2.1,rv3.2.2.2.2.2.1,rv3.2.2.2.2.2.2⟩:TPo)) rfl rfl (fun j hj=>z1u hj) (by rw[z1x (yf _),y4s]; rfl) h.1 h.2) (z2a _)<|
.c (sv2.1,sv2.2++[e0_])
def S_q1w (a0:TTr) (i0:Nat):SC R_q1w R_q1w :=
 let e2_:=(TTr.b (⟨0,[]⟩:TTr))
.reg 0 [] [(1,{ obs:=[(1,e2_)] })] [.pf z2b]<|
.reg 2 [] [] []<|
 let e0_:=(([]:List TPo).getD i0 dF)
 let e1_:=[(1,(vp 0)),(2,(vp 1)),(3,(AV.d (eL TPo.e a0.B)))]
 let e6_:=(AV.agg [(vi a0.N),(AV.ref 2 0 0 0)])
 let e3_:=[(Ob.box e6_),e2_,(oTApiPot.R 3 i0 [])]
.sh (A:=True) (.pf trivial) e1_ e1_ [(Ob.box (AV.agg [(vi a0.N),(AV.full 0 fun _=>DV.b false)])),e2_] e3_ (fun _=>(z2f (sz:=7) (f:=(fun j=>AV.sel (decide (j=i0)) 7 (AV.agg [(AV.d (DV.str e0_.D)),(vi e0_.E),(vi e0_.W),(rr 3 e0_.A),(rr 4 e0_.L),(rr 5 e0_.K),(rr 6 e0_.P)]) (TPo.d (([]:List TPo).getD j dF)))) (.box _ _ _ _ _ (y16 rfl) (TrV.agg (TrL.cons (TrV.keep _) (TrL.cons TrV.born TrL.nil))) (.keep _ _ _ _ (y16 rfl) (.nil _))))) (z1d (k:=0) rfl (TrS.keep _) (z1d (k:=1) rfl (TrS.keep _) (z1d (k:=2) rfl (TrS.keep _) z32)))<|
.sh (A:=True) (.pf trivial) e1_ e1_ e3_ [(Ob.box e6_),e2_,(oTApiPot.R 3 i0 []),(eQ (opQ TPo.A i0 ([]:List TPo))),(eQ (opQ TPo.L i0 ([]:List TPo))),(eQ (opQ TPo.K i0 ([]:List TPo))),(eQ (opQ TPo.P i0 ([]:List TPo)))] (fun _=>zce) (z2a _)<|
.range (a0.B.length:Int) a0.B.length rfl (.slot 9) 11 [1,2,9,10] (fun (_:Int×(List TPo))=>[]) (fun sv2=>[(0,(Ob.box (AV.agg [(vi sv2.1),(AV.ref 2 sv2.2.length 0 sv2.2.length)]))),(2,(oTApiPot.R 3 i0 sv2.2)),(3,(eQ (opQ TPo.A i0 sv2.2))),(4,(eQ (opQ TPo.L i0 sv2.2))),(5,(eQ (opQ TPo.K i0 sv2.2))),(6,(eQ (opQ TPo.P i0 sv2.2)))]) (a0.N,([]:List TPo)) (S_q1w_b1 a0 i0) (fun sv2 => 
.reg 8 [] [] []<|
.kill 0<|
.guard [i0<sv2.2.length]<|
 let e4_:=(AV.agg [(vi sv2.1),(AV.ref 2 sv2.2.length 0 sv2.2.length)])
 let e5_:=(sv2.2.getD i0 dF)
.cst (A:=i0<sv2.2.length) (.ev 0) [(2,(vp 1))] [(2,(vp 1))] [Ob.dead,(Ob.box e4_),(oTApiPot.R 3 i0 sv2.2),(eQ (opQ TPo.A i0 sv2.2)),(eQ (opQ TPo.L i0 sv2.2)),(eQ (opQ TPo.K i0 sv2.2)),(eQ (opQ TPo.P i0 sv2.2))] [Ob.dead,(Ob.box e4_),(oTApiPot.R 3 i0 sv2.2),(eQ e5_.A),(eQ e5_.L),(eQ e5_.K),(eQ e5_.P)] (fun h=>⟨rfl,by simp +zetaDelta only[zn3 h]⟩)<|
.r (sv2.1,sv2.2)) id
def F_q1w (a0:TTr) (i0:Nat):=(S_q1w a0 i0).den
theorem F_q1w_ok {a0:TTr} {i0:Nat}:FO (F_q1w a0 i0) 101 [(TTr.d a0)] [] (fun x=>(AV.agg [(vi x.1),(AV.ref 2 x.2.length 0 x.2.length)])) (fun x=>[Ob.dead,(Ob.box (AV.agg [(vi x.1),(AV.ref 2 x.2.length 0 x.2.length)])),(opS 7 TPo.e i0 (AV.agg [(AV.d (DV.str (x.2.getD i0 dF).D)),(vi (x.2.getD i0 dF).E),(vi (x.2.getD i0 dF).W),(rr 3 (x.2.getD i0 dF).A),(rr 4 (x.2.getD i0 dF).L),(rr 5 (x.2.getD i0 dF).K),(rr 6 (x.2.getD i0 dF).P)]) x.2),(eQ (x.2.getD i0 dF).A),(eQ (x.2.getD i0 dF).L),(eQ (x.2.getD i0 dF).K),(eQ (x.2.getD i0 dF).P)]):=fO (s:=S_q1w a0 i0) Tryz.func101
def S_q2v (a0:TPo):SC Int Int :=
 let e0_:=(if (a0.L.length:Int)<(a0.A.length:Int) then (a0.L.length:Int) else (a0.A.length:Int))
 let e1_:=((e0_).toNat)
.call (@F_qx_ok (a0.A.take e1_)) fun rv1 cv1=>
.call (@F_qx_ok (a0.L.take e1_)) fun rv2 cv2=>
.guard [(0:Int)<=e0_,(e0_).toNat<=a0.A.length,(e0_).toNat<=a0.L.length]<|
.reg 2 [] [(3,hv (vl (a0.A.take e1_))),(4,hc cv1 [] true),(8,hv (vl (a0.L.take e1_))),(9,hc cv2 [] true)] [.ev 0,.ev 1,.der (fun (h0:(e0_).toNat<=a0.A.length)=>lvT (DV.i .i64) a0.A h0) 1,.cl 4 cv1 [] 1 true,.ev 0,.ev 2,.der (fun (h0:(e0_).toNat<=a0.L.length)=>lvT (DV.i .i64) a0.L h0) 2,.cl 3 cv2 [] 1 true]<|
.r (i64.wrap (rv1-rv2))
def F_q2v (a0:TPo):=(S_q2v a0).den
theorem F_q2v_ok {a0:TPo}:FO (F_q2v a0) 70 [(TPo.d a0)] [] vi NL:=fO (s:=S_q2v a0) Tryz.func70
def S_q60 (a0:TPo):SC Int Int :=
.a 1 3 1 (@F_q2v_ok a0) fun rv1=>
.r (i64.wrap (a0.W-rv1))
def F_q60 (a0:TPo):=(S_q60 a0).den
theorem F_q60_ok {a0:TPo}:FO (F_q60 a0) 226 [(TPo.d a0)] [] vi NL:=fO (s:=S_q60 a0) Tryz.func226
abbrev R_q19:=Int×(List Int)
def S_q19_b1 (a1:(List Int)) (p0_0:Nat) (p0_1:(List TPo)) (p1:(List Int)) (iv1:Nat) (sv2:(List Int)):SC R_q19 (Step ((List Int)) R_q19) :=
.reg 8 [] [] [.w iv1,.ev 0]<|
.guard [sv2.length=p1.length,iv1<p1.length,(0+iv1)<sv2.length]<|
 let e0_:=(i64.wrap ((sv2.getD (0+iv1) dF)+(a1.getD iv1 dF)))
.reg 9 [] [(10,{ obs:=[(1,(eS 1 (DV.i .i64) (sv2.set (0+iv1) e0_)))] })] [.e p0_1.length,.e p0_1.length,.ev 8,.pf (p:=decide (p0_0=p0_0)=true) (yd rfl),.ev 0,.w iv1,.ev 1,.ev 0,.ev 2,.ev 0,.w iv1,.ev 1,.ev 0,.ev 2,.pf (zu (sz:=1) (e:=(DV.i .i64)) (l:=sv2) (i:=(0+iv1)) (x:=e0_) (fun _=>rfl))]<|
.c (sv2.set (0+iv1) e0_)
def S_q19 (a1:(List Int)) (p0_0:Nat) (p0_1:(List TPo)) (p0_2:Y8) (p0_3:Int) (p0_4:Int) (p1:(List Int)) (p2:(List Int)) (p3:(List Int)) (p4:(List Int)):SC R_q19 R_q19 :=
.a 1 1 5 (@F_qx_ok a1) fun rv3=>
 let e0_:=(AV.ref 0 p1.length 0 p1.length)
.call (lendOk (xs:=[(AV.agg [(AV.d (DV.str p0_2)),(vi p0_3),(vi p0_4),e0_,(AV.ref 1 p2.length 0 p2.length),(AV.ref 2 p3.length 0 p3.length),(AV.ref 3 p4.length 0 p4.length)])]) (L:=[(eS 1 (DV.i .i64) p1),(eS 1 (DV.i .i64) p2),(eS 1 (DV.i .i64) p3),(eS 1 (DV.i .i64) p4)]) (g:=p1.length<2 ^ 63/\p2.length<2 ^ 63/\p3.length<2 ^ 63/\p4.length<2 ^ 63) (@F_q60_ok (⟨p0_2,p0_3,p0_4,p1,p2,p3,p4⟩:TPo)) (fun _=>rfl) (fun hg=>(LendVs.cons (LendS.agg (ys:=[(DV.str p0_2),(DV.i .i64 p0_3),(DV.i .i64 p0_4),(eL (DV.i .i64) p1),(eL (DV.i .i64) p2),(eL (DV.i .i64) p3),(eL (DV.i .i64) p4)]) (LendL.cons LendV.d (LendL.cons LendV.d (LendL.cons LendV.d (LendL.cons (LendV.ref (sz:=1) (g:=fun j=>(DV.i .i64) (p1.getD j dF)) rfl hg.1) (LendL.cons (LendV.ref (sz:=1) (g:=fun j=>(DV.i .i64) (p2.getD j dF)) rfl hg.2.1) (LendL.cons (LendV.ref (sz:=1) (g:=fun j=>(DV.i .i64) (p3.getD j dF)) rfl hg.2.2.1) (LendL.cons (LendV.ref (sz:=1) (g:=fun j=>(DV.i .i64) (p4.getD j dF)) rfl hg.2.2.2) LendL.nil)))))))) LendVs.nil)) (fun _=>FlatV.i)) fun rv4 cv4=>
.guard [p0_0<p0_1.length]<|
.reg 2 [] [(4,hc cv4 [1,2,3,4] true)] [.e p0_1.length,.ev 0,.pf (p:=decide (p0_0=p0_0)=true) (yd rfl),.cl 1 cv4 [1,2,3,4] 5 true]<|
.ite (decide (rv3>rv4)) (
.r (15,p1)) (
.call (lendOk (xs:=[e0_]) (L:=[(eS 1 (DV.i .i64) p1)]) (g:=p1.length<2 ^ 63) (@F_qx_ok p1) (fun _=>rfl) (fun hg=>(LendVs.cons (LendS.one rfl rfl rfl (LendV.ref (sz:=1) (g:=fun j=>(DV.i .i64) (p1.getD j dF)) rfl hg)) LendVs.nil)) (fun _=>FlatV.i)) fun rv5 cv5=>
.reg 4 [] [(4,hc cv5 [1] true)] [.e p0_1.length,.e p0_1.length,.ev 2,.pf (p:=decide (p0_0=p0_0)=true) (yd rfl),.cl 0 cv5 [1] 5 true]<|
.ite (decide ((i64.wrap (rv5+rv3))>1000000000000000)) (
.r (3,p1)) (
.range (a1.length:Int) a1.length rfl (.slot 26) 28 [0,26,27] (fun (_:(List Int))=>[]) (fun sv2=>[(1,(eS 1 (DV.i .i64) sv2))]) p1 (S_q19_b1 a1 p0_0 p0_1 p1) (fun sv2 => 
.r (0,sv2)) id))
def F_q19 (a1:(List Int)) (p0_0:Nat) (p0_1:(List TPo)) (p0_2:Y8) (p0_3:Int) (p0_4:Int) (p1:(List Int)) (p2:(List Int)) (p3:(List Int)) (p4:(List Int)):=(S_q19 a1 p0_0 p0_1 p0_2 p0_3 p0_4 p1 p2 p3 p4).den
theorem F_q19_ok {a1:(List Int)} {p0_0:Nat} {p0_1:(List TPo)} {p0_2:Y8} {p0_3:Int} {p0_4:Int} {p1:(List Int)} {p2:(List Int)} {p3:(List Int)} {p4:(List Int)}:FO (F_q19 a1 p0_0 p0_1 p0_2 p0_3 p0_4 p1 p2 p3 p4) 201 [(AV.ptr 0 p0_1.length [.x p0_0 7]),(vl a1)] [(opS 7 TPo.e p0_0 (AV.agg [(AV.d (DV.str p0_2)),(vi p0_3),(vi p0_4),(AV.ref 1 p1.length 0 p1.length),(AV.ref 2 p2.length 0 p2.length),(AV.ref 3 p3.length 0 p3.length),(AV.ref 4 p4.length 0 p4.length)]) p0_1),(eS 1 (DV.i .i64) p1),(eS 1 (DV.i .i64) p2),(eS 1 (DV.i .i64) p3),(eS 1 (DV.i .i64) p4)] (fun x=>(vi x.1)) (fun x=>[(opS 7 TPo.e p0_0 (AV.agg [(AV.d (DV.str p0_2)),(vi p0_3),(vi p0_4),(AV.ref 1 p1.length 0 p1.length),(AV.ref 2 p2.length 0 p2.length),(AV.ref 3 p3.length 0 p3.length),(AV.ref 4 p4.length 0 p4.length)]) p0_1),(eS 1 (DV.i .i64) x.2),(eS 1 (DV.i .i64) p2),(eS 1 (DV.i .i64) p3),(eS 1 (DV.i .i64) p4)]):=fO (s:=S_q19 a1 p0_0 p0_1 p0_2 p0_3 p0_4 p1 p2 p3 p4) Tryz.func201
end
end Go.Proofs.YtlhikmklpelceaaGreatDoor
/- What the functions compute,and that their calls return it. No condition. -/
namespace Go.Proofs.YtlhikmklpelceaaGreatDoor
open Go Go.TA
open Go.IntKind (i64)
noncomputable section
set_option maxRecDepth 100000
abbrev R_q4l:=Int×(List Int)
def S_q4l (p0_0:Nat) (p0_1:(List TPo)) (p0_2:Y8) (p0_3:Int) (p0_4:Int) (p1:Int) (p2:Int) (p3:(List Int)) (p4:(List Int)) (p5:(List Int)) (p6:(List Int)):SC R_q4l R_q4l :=
 let e3_:=(p3.length:Int)
.call (@F_qb_ok p1 1 e3_) fun rv1 cv1=>
.guard [p0_0<p0_1.length]<|
.reg 1 [] [(6,hc cv1 [] true)] [.e p0_1.length,.e p0_1.length,.ev 0,.pf (p:=decide (p0_0=p0_0)=true) (yd rfl),.cl 1 cv1 [] 7 true]<|
.ite (!rv1) (
.r (6,p3)) (
.a 3 1 7 (@F_qb_ok p2 1 1000000000000000) fun rv2=>
.ite (!rv2) (
.r (2,p3)) (
.guard [e3_ * 8<=2 ^ 47]<|
 let e1_:=((List.replicate (e3_.toNat) (0:Int)).length)
.reg 5 [] [(5,{ cast:=some (AV.ref 7 e1_ 0 e1_),obs:=[(7,(eS 1 (DV.i .i64) (List.replicate (e3_.toNat) (0:Int))))] })] [.e p0_1.length,.e p0_1.length,.ev 4,.pf (p:=decide (p0_0=p0_0)=true) (yd rfl),.pf (nn p3.length),.pf (p:=e3_<=e3_) (y1d _),.ev 0,.pf (z8q (o:=7) (k:=e3_.toNat) (z:=(0:Int))),.pf (z8r (sz:=1) (k:=e3_.toNat) (e:=(DV.i .i64)) (z:=(0:Int)))]<|
 let e4_:=(i64.wrap (p1-1))
 let e7_:=(0+(e4_).toNat)
.guard [(0:Int)<=e4_,(e4_).toNat<(List.replicate (e3_.toNat) (0:Int)).length,e7_<(List.replicate (e3_.toNat) (0:Int)).length]<|
 let e0_:=((List.replicate (e3_.toNat) (0:Int)).set e7_ p2)
 let e5_:=(eS 1 (DV.i .i64) e0_)
.reg 6 [] [(5,{ obs:=[(7,e5_)] })] [.e e1_,.ev 0,.ev 1,.e e1_,.ev 2,.pf (zu (sz:=1) (e:=(DV.i .i64)) (l:=(List.replicate (e3_.toNat) (0:Int))) (i:=e7_) (x:=p2) (fun _=>rfl))]<|
 let e2_:=(AV.agg [(AV.d (DV.str p0_2)),(vi p0_3),(vi p0_4),(AV.ref 3 p3.length 0 p3.length),(AV.ref 4 p4.length 0 p4.length),(AV.ref 5 p5.length 0 p5.length),(AV.ref 6 p6.length 0 p6.length)])
 let e6_:=(0,(AV.ptr 0 p0_1.length [.x p0_0 7]))
.cst (A:=True) (.pf trivial) [e6_,(5,(AV.ref 7 e1_ 0 e1_))] [e6_,(5,(AV.ref 7 (e0_.length) 0 (e0_.length)))] [(opS 7 TPo.e p0_0 e2_ p0_1),(Ob.box (vi p1)),(Ob.box (vi p2)),(eS 1 (DV.i .i64) p3),(eS 1 (DV.i .i64) p4),(eS 1 (DV.i .i64) p5),(eS 1 (DV.i .i64) p6),e5_] [(opS 7 TPo.e p0_0 e2_ p0_1),(Ob.box (vi p1)),(Ob.box (vi p2)),(eS 1 (DV.i .i64) p3),(eS 1 (DV.i .i64) p4),(eS 1 (DV.i .i64) p5),(eS 1 (DV.i .i64) p6),e5_] (fun _=>⟨by simp +zetaDelta only[ya],by rfl⟩)<|
.guard [e0_.length<2 ^ 63]<|
.frz 7 (.ev 0) none [5] []<|
.call (@F_q19_ok e0_ p0_0 p0_1 p0_2 p0_3 p0_4 p3 p4 p5 p6) fun rv3 cv3=>
.k 7 2 cv3 [0,3,4,5,6] 8 false<|
.r (rv3.1,rv3.2)))
def F_q4l (p0_0:Nat) (p0_1:(List TPo)) (p0_2:Y8) (p0_3:Int) (p0_4:Int) (p1:Int) (p2:Int) (p3:(List Int)) (p4:(List Int)) (p5:(List Int)) (p6:(List Int)):=(S_q4l p0_0 p0_1 p0_2 p0_3 p0_4 p1 p2 p3 p4 p5 p6).den
theorem F_q4l_ok {p0_0:Nat} {p0_1:(List TPo)} {p0_2:Y8} {p0_3:Int} {p0_4:Int} {p1:Int} {p2:Int} {p3:(List Int)} {p4:(List Int)} {p5:(List Int)} {p6:(List Int)}:FO (F_q4l p0_0 p0_1 p0_2 p0_3 p0_4 p1 p2 p3 p4 p5 p6) 200 [(AV.ptr 0 p0_1.length [.x p0_0 7]),(vp 1),(vp 2)] [(opS 7 TPo.e p0_0 (AV.agg [(AV.d (DV.str p0_2)),(vi p0_3),(vi p0_4),(AV.ref 3 p3.length 0 p3.length),(AV.ref 4 p4.length 0 p4.length),(AV.ref 5 p5.length 0 p5.length),(AV.ref 6 p6.length 0 p6.length)]) p0_1),(Ob.box (vi p1)),(Ob.box (vi p2)),(eS 1 (DV.i .i64) p3),(eS 1 (DV.i .i64) p4),(eS 1 (DV.i .i64) p5),(eS 1 (DV.i .i64) p6)] (fun x=>(vi x.1)) (fun x=>[(opS 7 TPo.e p0_0 (AV.agg [(AV.d (DV.str p0_2)),(vi p0_3),(vi p0_4),(AV.ref 3 p3.length 0 p3.length),(AV.ref 4 p4.length 0 p4.length),(AV.ref 5 p5.length 0 p5.length),(AV.ref 6 p6.length 0 p6.length)]) p0_1),(Ob.box (vi p1)),(Ob.box (vi p2)),(eS 1 (DV.i .i64) x.2),(eS 1 (DV.i .i64) p4),(eS 1 (DV.i .i64) p5),(eS 1 (DV.i .i64) p6)]):=fO (s:=S_q4l p0_0 p0_1 p0_2 p0_3 p0_4 p1 p2 p3 p4 p5 p6) Tryz.func200
def S_q75 (a0:TTr) (a1:Y8) (a2:Int) (p0:Int) (p1:Int):SC (TTr×Int) (TTr×Int) :=
.reg 0 [] [(1,{ obs:=[(3,(TTr.b (⟨0,[]⟩:TTr)))] })] [.pf z2b]<|
.a 1 1 4 (@F_qm_ok a0) fun rv1=>
 let e7_:=(TTr.d (⟨0,[]⟩:TTr))
.ite (!rv1) (
.reg 2 [] [(0,hv e7_)] [.pf z1j]<|
.r ((⟨0,[]⟩:TTr),1)) (
.a 3 3 4 (@F_q3e_ok a0 a1 a2) fun rv2=>
.ite (decide (rv2<0)) (
.reg 5 [] [(0,hv e7_)] [.pf z1j]<|
.r ((⟨0,[]⟩:TTr),6)) (
 let e4_:=((rv2).toNat)
.call (@F_q1w_ok a0 e4_) fun rv3 cv3=>
.k 6 1 cv3 [] 4 false<|
.kill 5<|
 let e0_:=(rv3.2.getD e4_ dF)
.call (@F_q4l_ok e4_ rv3.2 (e0_.D) (e0_.E) (e0_.W) p0 p1 (e0_.A) (e0_.L) (e0_.K) (e0_.P)) fun rv4 cv4=>
.guard [(0:Int)<=rv2,(rv2).toNat<rv3.2.length]<|
 let e14_:=(AV.ptr 6 rv3.2.length [.x e4_ 7])
.reg 7 [] [(4,hv e14_),(5,hc cv4 [6,0,1,7,8,9,10] false)] [.e rv3.2.length,.ev 0,.ev 1,.pf (p:=LeV (AV.ptr 6 rv3.2.length [.x (0+e4_) 7]) e14_) (z6e),.cl 2 cv4 [6,0,1,7,8,9,10] 11 false]<|
.ite (rv4.1 != 0) (
.reg 9 [] [(0,hv e7_)] [.pf z1j]<|
.r ((⟨0,[]⟩:TTr),rv4.1)) (
.reg 10 [] [] []<|
.guard [rv4.2.length=(e0_.A).length]<|
 let e9_:=(eS 1 (DV.i .i64) (e0_.L))
 let e10_:=(eS 1 (DV.i .i64) (e0_.K))
 let e11_:=(eS 1 (DV.i .i64) (e0_.P))
 let e12_:=(eS 1 (DV.i .i64) rv4.2)
 let e13_:=(AV.d (DV.str (e0_.D)))
.cst (A:=rv4.2.length=(e0_.A).length) (.ev 0) [(8,(vp 3)),(9,(vi 0))] [(8,(vp 3)),(9,(vi 0))] [(Ob.box (vi p0)),(Ob.box (vi p1)),(Ob.box (AV.agg [(vi rv3.1),(AV.ref 6 rv3.2.length 0 rv3.2.length)])),(Ob.box (AV.agg [(vi rv3.1),(AV.ref 6 rv3.2.length 0 rv3.2.length)])),Ob.dead,Ob.dead,(opS 7 TPo.e e4_ (AV.agg [e13_,(vi (e0_.E)),(vi (e0_.W)),(AV.ref 7 ((e0_.A).length) 0 ((e0_.A).length)),(AV.ref 8 ((e0_.L).length) 0 ((e0_.L).length)),(AV.ref 9 ((e0_.K).length) 0 ((e0_.K).length)),(AV.ref 10 ((e0_.P).length) 0 ((e0_.P).length))]) rv3.2),e12_,e9_,e10_,e11_] [(Ob.box (vi p0)),(Ob.box (vi p1)),(Ob.box (AV.agg [(vi rv3.1),(AV.ref 6 rv3.2.length 0 rv3.2.length)])),(Ob.box (AV.agg [(vi rv3.1),(AV.ref 6 rv3.2.length 0 rv3.2.length)])),Ob.dead,Ob.dead,(opS 7 TPo.e e4_ (AV.agg [e13_,(vi (e0_.E)),(vi (e0_.W)),(AV.ref 7 rv4.2.length 0 rv4.2.length),(AV.ref 8 ((e0_.L).length) 0 ((e0_.L).length)),(AV.ref 9 ((e0_.K).length) 0 ((e0_.K).length)),(AV.ref 10 ((e0_.P).length) 0 ((e0_.P).length))]) rv3.2),e12_,e9_,e10_,e11_] (fun h=>⟨rfl,by rw[h]⟩)<|
.guard [rv4.2.length<2 ^ 63/\(e0_.L).length<2 ^ 63/\(e0_.K).length<2 ^ 63/\(e0_.P).length<2 ^ 63]<|
 let e8_:=(⟨e0_.D,e0_.E,e0_.W,rv4.2,e0_.L,e0_.K,e0_.P⟩:TPo)
 let e1_:=(rv3.2.set e4_ e8_)
 let e2_:=(AV.agg [(vi rv3.1),(AV.ref 6 rv3.2.length 0 rv3.2.length)])
 let e3_:=[(Ob.box (vi p0)),(Ob.box (vi p1)),(Ob.box e2_),(Ob.box e2_),Ob.dead,Ob.dead,(eS 7 TPo.e e1_),Ob.dead,Ob.dead,Ob.dead,Ob.dead]
 let e6_:=[(8,(vp 3)),(9,(vi 0))]
.sh (A:=rv4.2.length<2 ^ 63/\(e0_.L).length<2 ^ 63/\(e0_.K).length<2 ^ 63/\(e0_.P).length<2 ^ 63) (.ev 0) e6_ e6_ [(Ob.box (vi p0)),(Ob.box (vi p1)),(Ob.box e2_),(Ob.box e2_),Ob.dead,Ob.dead,(opS 7 TPo.e e4_ (AV.agg [e13_,(vi (e0_.E)),(vi (e0_.W)),(AV.ref 7 rv4.2.length 0 rv4.2.length),(AV.ref 8 ((e0_.L).length) 0 ((e0_.L).length)),(AV.ref 9 ((e0_.K).length) 0 ((e0_.K).length)),(AV.ref 10 ((e0_.P).length) 0 ((e0_.P).length))]) rv3.2),e12_,e9_,e10_,e11_] e3_ (fun h=>z3j oTApiPot (P:=[(Ob.box (vi p0)),(Ob.box (vi p1)),(Ob.box e2_),(Ob.box e2_),Ob.dead,Ob.dead]) (D:=[]) rfl (⟨e0_.D,e0_.E,e0_.W,[],[],[],[]⟩:TPo) e8_ h rfl) (z2a _)<|
 let e5_:=(AV.agg [(vi rv3.1),(AV.ref 6 (e1_.length) 0 (e1_.length))])
.cst (A:=True) (.pf trivial) e6_ e6_ e3_ [(Ob.box (vi p0)),(Ob.box (vi p1)),(Ob.box e5_),(Ob.box e5_),Ob.dead,Ob.dead,(eS 7 TPo.e e1_),Ob.dead,Ob.dead,Ob.dead,Ob.dead] (fun _=>⟨by simp +zetaDelta only,by simp +zetaDelta only[ya]⟩)<|
.guard [e1_.length<2 ^ 63]<|
.frz 6 (.ev 0) none [] [2,3]<|
.r ((⟨rv3.1,e1_⟩:TTr),0))))
def F_q75 (a0:TTr) (a1:Y8) (a2:Int) (p0:Int) (p1:Int):=(S_q75 a0 a1 a2 p0 p1).den
theorem F_q75_ok {a0:TTr} {a1:Y8} {a2:Int} {p0:Int} {p1:Int}:FO (F_q75 a0 a1 a2 p0 p1) 109 [(TTr.d a0),(AV.d (DV.str a1)),(vi a2),(AV.fn 200 [(vp 0),(vp 1)])] [(Ob.box (vi p0)),(Ob.box (vi p1))] (fun x=>(AV.tup [(TTr.d x.1),(vi x.2)])) (fun _=>[(Ob.box (vi p0)),(Ob.box (vi p1))]):=fO (s:=S_q75 a0 a1 a2 p0 p1) Tryz.func109
def S_q61 (a0:TTr) (a1:Int) (a2:Y8) (a3:Int) (a4:Int):SC (TTr×Int) (TTr×Int) :=
.reg 0 [] [(3,{ obs:=[(3,(TTr.b (⟨0,[]⟩:TTr)))] })] [.pf z2b]<|
.call (@F_q75_ok a0 a2 a3 a1 a4) fun rv1 cv1=>
.k 1 4 cv1 [1,2] 4 true<|
.r (rv1.1,rv1.2)
def F_q61 (a0:TTr) (a1:Int) (a2:Y8) (a3:Int) (a4:Int):=(S_q61 a0 a1 a2 a3 a4).den
theorem F_q61_ok {a0:TTr} {a1:Int} {a2:Y8} {a3:Int} {a4:Int}:FO (F_q61 a0 a1 a2 a3 a4) 172 [(TTr.d a0),(vi a1),(AV.d (DV.str a2)),(vi a3),(vi a4)] [] (fun x=>(AV.tup [(TTr.d x.1),(vi x.2)])) NL:=fO (s:=S_q61 a0 a1 a2 a3 a4) Tryz.func172
abbrev R_q4m:=Int×(List Int)
def S_q4m (p0_0:Nat) (p0_1:(List TPo)) (_:Y8) (_:Int) (_:Int) (p1:Int) (p2:Int) (p3:(List Int)) (_:(List Int)) (p5:(List Int)) (_:(List Int)):SC R_q4m R_q4m :=
.call (@F_qb_ok p1 1 (p5.length:Int)) fun rv1 cv1=>
.guard [p0_0<p0_1.length]<|
.reg 1 [] [(6,hc cv1 [] true)] [.e p0_1.length,.e p0_1.length,.ev 0,.pf (p:=decide (p0_0=p0_0)=true) (yd rfl),.cl 1 cv1 [] 7 true]<|
.ite (!rv1) (
.r (6,p5)) (
.a 3 1 7 (@F_qb_ok p2 1 1000000000000000) fun rv2=>
.ite (!rv2) (
.r (2,p5)) (
 let e2_:=(i64.wrap (p1-1))
 let e0_:=(0+(e2_).toNat)
.guard [(0:Int)<=e2_,(e2_).toNat<p5.length,e0_<p5.length,(e2_).toNat<p3.length,e0_<p3.length]<|
.reg 5 [] [] [.e p0_1.length,.e p0_1.length,.ev 8,.pf (p:=decide (p0_0=p0_0)=true) (yd rfl),.e p5.length,.ev 0,.ev 1,.e p5.length,.ev 2,.e p0_1.length,.e p0_1.length,.ev 8,.pf (p:=decide (p0_0=p0_0)=true) (yd rfl),.e p3.length,.ev 0,.ev 3,.e p3.length,.ev 4]<|
 let e1_:=(i64.wrap ((p5.getD e0_ dF)+p2))
.ite (decide (e1_>(p3.getD e0_ dF))) (
.r (15,p5)) (
.reg 7 [11] [(11,{ obs:=[(5,(eS 1 (DV.i .i64) (p5.set e0_ e1_)))] })] [.e p0_1.length,.e p0_1.length,.ev 9,.pf (p:=decide (p0_0=p0_0)=true) (yd rfl),.e p5.length,.ev 1,.ev 2,.e p5.length,.ev 3,.e p5.length,.ev 1,.ev 2,.e p5.length,.ev 3,.pf (zu (sz:=1) (e:=(DV.i .i64)) (l:=p5) (i:=e0_) (x:=e1_) (fun _=>rfl))]<|
.r (0,(p5.set e0_ e1_)))))
def F_q4m (p0_0:Nat) (p0_1:(List TPo)) (p0_2:Y8) (p0_3:Int) (p0_4:Int) (p1:Int) (p2:Int) (p3:(List Int)) (p4:(List Int)) (p5:(List Int)) (p6:(List Int)):=(S_q4m p0_0 p0_1 p0_2 p0_3 p0_4 p1 p2 p3 p4 p5 p6).den
theorem F_q4m_ok {p0_0:Nat} {p0_1:(List TPo)} {p0_2:Y8} {p0_3:Int} {p0_4:Int} {p1:Int} {p2:Int} {p3:(List Int)} {p4:(List Int)} {p5:(List Int)} {p6:(List Int)}:FO (F_q4m p0_0 p0_1 p0_2 p0_3 p0_4 p1 p2 p3 p4 p5 p6) 110 [(AV.ptr 0 p0_1.length [.x p0_0 7]),(vp 1),(vp 2)] [(opS 7 TPo.e p0_0 (AV.agg [(AV.d (DV.str p0_2)),(vi p0_3),(vi p0_4),(AV.ref 3 p3.length 0 p3.length),(AV.ref 4 p4.length 0 p4.length),(AV.ref 5 p5.length 0 p5.length),(AV.ref 6 p6.length 0 p6.length)]) p0_1),(Ob.box (vi p1)),(Ob.box (vi p2)),(eS 1 (DV.i .i64) p3),(eS 1 (DV.i .i64) p4),(eS 1 (DV.i .i64) p5),(eS 1 (DV.i .i64) p6)] (fun x=>(vi x.1)) (fun x=>[(opS 7 TPo.e p0_0 (AV.agg [(AV.d (DV.str p0_2)),(vi p0_3),(vi p0_4),(AV.ref 3 p3.length 0 p3.length),(AV.ref 4 p4.length 0 p4.length),(AV.ref 5 p5.length 0 p5.length),(AV.ref 6 p6.length 0 p6.length)]) p0_1),(Ob.box (vi p1)),(Ob.box (vi p2)),(eS 1 (DV.i .i64) p3),(eS 1 (DV.i .i64) p4),(eS 1 (DV.i .i64) x.2),(eS 1 (DV.i .i64) p6)]):=fO (s:=S_q4m p0_0 p0_1 p0_2 p0_3 p0_4 p1 p2 p3 p4 p5 p6) Tryz.func110
def S_q76 (a0:TTr) (a1:Y8) (a2:Int) (p0:Int) (p1:Int):SC (TTr×Int) (TTr×Int) :=
.reg 0 [] [(1,{ obs:=[(3,(TTr.b (⟨0,[]⟩:TTr)))] })] [.pf z2b]<|
.a 1 1 4 (@F_qm_ok a0) fun rv1=>
 let e7_:=(TTr.d (⟨0,[]⟩:TTr))
.ite (!rv1) (
.reg 2 [] [(0,hv e7_)] [.pf z1j]<|
.r ((⟨0,[]⟩:TTr),1)) (
.a 3 3 4 (@F_q3e_ok a0 a1 a2) fun rv2=>
.ite (decide (rv2<0)) (
.reg 5 [] [(0,hv e7_)] [.pf z1j]<|
.r ((⟨0,[]⟩:TTr),6)) (
 let e4_:=((rv2).toNat)
.call (@F_q1w_ok a0 e4_) fun rv3 cv3=>
.k 6 1 cv3 [] 4 false<|
.kill 5<|
 let e0_:=(rv3.2.getD e4_ dF)
.call (@F_q4m_ok e4_ rv3.2 (e0_.D) (e0_.E) (e0_.W) p0 p1 (e0_.A) (e0_.L) (e0_.K) (e0_.P)) fun rv4 cv4=>
.guard [(0:Int)<=rv2,(rv2).toNat<rv3.2.length]<|
 let e14_:=(AV.ptr 6 rv3.2.length [.x e4_ 7])
.reg 7 [] [(4,hv e14_),(5,hc cv4 [6,0,1,7,8,9,10] false)] [.e rv3.2.length,.ev 0,.ev 1,.pf (p:=LeV (AV.ptr 6 rv3.2.length [.x (0+e4_) 7]) e14_) (z6e),.cl 2 cv4 [6,0,1,7,8,9,10] 11 false]<|
.ite (rv4.1 != 0) (
.reg 9 [] [(0,hv e7_)] [.pf z1j]<|
.r ((⟨0,[]⟩:TTr),rv4.1)) (
.reg 10 [] [] []<|
.guard [rv4.2.length=(e0_.K).length]<|
 let e9_:=(eS 1 (DV.i .i64) (e0_.A))
 let e10_:=(eS 1 (DV.i .i64) (e0_.L))
 let e11_:=(eS 1 (DV.i .i64) (e0_.P))
 let e12_:=(eS 1 (DV.i .i64) rv4.2)
 let e13_:=(AV.d (DV.str (e0_.D)))
.cst (A:=rv4.2.length=(e0_.K).length) (.ev 0) [(8,(vp 3)),(9,(vi 0))] [(8,(vp 3)),(9,(vi 0))] [(Ob.box (vi p0)),(Ob.box (vi p1)),(Ob.box (AV.agg [(vi rv3.1),(AV.ref 6 rv3.2.length 0 rv3.2.length)])),(Ob.box (AV.agg [(vi rv3.1),(AV.ref 6 rv3.2.length 0 rv3.2.length)])),Ob.dead,Ob.dead,(opS 7 TPo.e e4_ (AV.agg [e13_,(vi (e0_.E)),(vi (e0_.W)),(AV.ref 7 ((e0_.A).length) 0 ((e0_.A).length)),(AV.ref 8 ((e0_.L).length) 0 ((e0_.L).length)),(AV.ref 9 ((e0_.K).length) 0 ((e0_.K).length)),(AV.ref 10 ((e0_.P).length) 0 ((e0_.P).length))]) rv3.2),e9_,e10_,e12_,e11_] [(Ob.box (vi p0)),(Ob.box (vi p1)),(Ob.box (AV.agg [(vi rv3.1),(AV.ref 6 rv3.2.length 0 rv3.2.length)])),(Ob.box (AV.agg [(vi rv3.1),(AV.ref 6 rv3.2.length 0 rv3.2.length)])),Ob.dead,Ob.dead,(opS 7 TPo.e e4_ (AV.agg [e13_,(vi (e0_.E)),(vi (e0_.W)),(AV.ref 7 ((e0_.A).length) 0 ((e0_.A).length)),(AV.ref 8 ((e0_.L).length) 0 ((e0_.L).length)),(AV.ref 9 rv4.2.length 0 rv4.2.length),(AV.ref 10 ((e0_.P).length) 0 ((e0_.P).length))]) rv3.2),e9_,e10_,e12_,e11_] (fun h=>⟨rfl,by rw[h]⟩)<|
.guard [(e0_.A).length<2 ^ 63/\(e0_.L).length<2 ^ 63/\rv4.2.length<2 ^ 63/\(e0_.P).length<2 ^ 63]<|
 let e8_:=(⟨e0_.D,e0_.E,e0_.W,e0_.A,e0_.L,rv4.2,e0_.P⟩:TPo)
 let e1_:=(rv3.2.set e4_ e8_)
 let e2_:=(AV.agg [(vi rv3.1),(AV.ref 6 rv3.2.length 0 rv3.2.length)])
 let e3_:=[(Ob.box (vi p0)),(Ob.box (vi p1)),(Ob.box e2_),(Ob.box e2_),Ob.dead,Ob.dead,(eS 7 TPo.e e1_),Ob.dead,Ob.dead,Ob.dead,Ob.dead]
 let e6_:=[(8,(vp 3)),(9,(vi 0))]
.sh (A:=(e0_.A).length<2 ^ 63/\(e0_.L).length<2 ^ 63/\rv4.2.length<2 ^ 63/\(e0_.P).length<2 ^ 63) (.ev 0) e6_ e6_ [(Ob.box (vi p0)),(Ob.box (vi p1)),(Ob.box e2_),(Ob.box e2_),Ob.dead,Ob.dead,(opS 7 TPo.e e4_ (AV.agg [e13_,(vi (e0_.E)),(vi (e0_.W)),(AV.ref 7 ((e0_.A).length) 0 ((e0_.A).length)),(AV.ref 8 ((e0_.L).length) 0 ((e0_.L).length)),(AV.ref 9 rv4.2.length 0 rv4.2.length),(AV.ref 10 ((e0_.P).length) 0 ((e0_.P).length))]) rv3.2),e9_,e10_,e12_,e11_] e3_ (fun h=>z3j oTApiPot (P:=[(Ob.box (vi p0)),(Ob.box (vi p1)),(Ob.box e2_),(Ob.box e2_),Ob.dead,Ob.dead]) (D:=[]) rfl (⟨e0_.D,e0_.E,e0_.W,[],[],[],[]⟩:TPo) e8_ h rfl) (z2a _)<|
 let e5_:=(AV.agg [(vi rv3.1),(AV.ref 6 (e1_.length) 0 (e1_.length))])
.cst (A:=True) (.pf trivial) e6_ e6_ e3_ [(Ob.box (vi p0)),(Ob.box (vi p1)),(Ob.box e5_),(Ob.box e5_),Ob.dead,Ob.dead,(eS 7 TPo.e e1_),Ob.dead,Ob.dead,Ob.dead,Ob.dead] (fun _=>⟨by simp +zetaDelta only,by simp +zetaDelta only[ya]⟩)<|
.guard [e1_.length<2 ^ 63]<|
.frz 6 (.ev 0) none [] [2,3]<|
.r ((⟨rv3.1,e1_⟩:TTr),0))))
def F_q76 (a0:TTr) (a1:Y8) (a2:Int) (p0:Int) (p1:Int):=(S_q76 a0 a1 a2 p0 p1).den
theorem F_q76_ok {a0:TTr} {a1:Y8} {a2:Int} {p0:Int} {p1:Int}:FO (F_q76 a0 a1 a2 p0 p1) 109 [(TTr.d a0),(AV.d (DV.str a1)),(vi a2),(AV.fn 110 [(vp 0),(vp 1)])] [(Ob.box (vi p0)),(Ob.box (vi p1))] (fun x=>(AV.tup [(TTr.d x.1),(vi x.2)])) (fun _=>[(Ob.box (vi p0)),(Ob.box (vi p1))]):=fO (s:=S_q76 a0 a1 a2 p0 p1) Tryz.func109
def S_q4n (a0:TTr) (a1:Int) (a2:Y8) (a3:Int) (a4:Int):SC (TTr×Int) (TTr×Int) :=
.reg 0 [] [(3,{ obs:=[(3,(TTr.b (⟨0,[]⟩:TTr)))] })] [.pf z2b]<|
.call (@F_q76_ok a0 a2 a3 a1 a4) fun rv1 cv1=>
.k 1 4 cv1 [1,2] 4 true<|
.r (rv1.1,rv1.2)
def F_q4n (a0:TTr) (a1:Int) (a2:Y8) (a3:Int) (a4:Int):=(S_q4n a0 a1 a2 a3 a4).den
theorem F_q4n_ok {a0:TTr} {a1:Int} {a2:Y8} {a3:Int} {a4:Int}:FO (F_q4n a0 a1 a2 a3 a4) 57 [(TTr.d a0),(vi a1),(AV.d (DV.str a2)),(vi a3),(vi a4)] [] (fun x=>(AV.tup [(TTr.d x.1),(vi x.2)])) NL:=fO (s:=S_q4n a0 a1 a2 a3 a4) Tryz.func57
def S_q4o (a0:TTr) (a1:Int) (a2:Y8) (a3:Int):SC (TMe×Int) (TMe×Int) :=
.a 1 1 2 (@F_qm_ok a0) fun rv1=>
 let e1_:=(⟨0,0,[],0,0,0,0,0⟩:TMe)
.ite (!rv1) (
.r (e1_,1)) (
.call (@F_q2b_ok a0 a2 a3) fun rv2 cv2=>
.reg 3 [] [(3,hc cv2 [] true),(7,{ obs:=[(2,(TPo.b (⟨[],0,0,[],[],[],[]⟩:TPo)))] })] [.cl 0 cv2 [] 2 true,.pf cz4]<|
.calld [(!rv2.2)=false] dF (@F_qb_ok a1 1 a0.N) fun rv3 cv3 =>
.reg 4 [] [(6,hc cv3 [] true)] [.clg 0 [(!rv2.2)=false] cv3 [] 3 true]<|
.ite (cO (!rv2.2) (!rv3)) (
.r (e1_,6)) (
 let e0_:=(i64.wrap (a1-1))
.guard [(0:Int)<=e0_,(e0_).toNat<rv2.1.A.length,(e0_).toNat<rv2.1.K.length]<|
.reg 6 [16] [] [.ev 0,.ev 1,.ev 0,.ev 2]<|
.r ((⟨0,a1,a2,a3,(rv2.1.A.getD ((e0_).toNat) dF),(rv2.1.K.getD ((e0_).toNat) dF),0,0⟩:TMe),0)))
def F_q4o (a0:TTr) (a1:Int) (a2:Y8) (a3:Int):=(S_q4o a0 a1 a2 a3).den
theorem F_q4o_ok {a0:TTr} {a1:Int} {a2:Y8} {a3:Int}:FO (F_q4o a0 a1 a2 a3) 58 [(TTr.d a0),(vi a1),(AV.d (DV.str a2)),(vi a3)] [] (fun x=>(AV.tup [(TMe.d x.1),(vi x.2)])) NL:=fO (s:=S_q4o a0 a1 a2 a3) Tryz.func58
def S_q3z (a0:TWo) (a1:TMe) (a2:Int):SC (TWo×Int) (TWo×Int) :=
 let e3_:=(⟨(⟨0,[]⟩:TTr),[],[]⟩:TWo)
 let e5_:=(TWo.b e3_)
.reg 0 [] [(2,{ obs:=[(2,e5_)] })] [.pf cz1]<|
 let e6_:=(0,hv (TWo.d e3_))
.ite (a2 != 0) (
.reg 2 [] [e6_] [.pf cz2]<|
.r (e3_,a2)) (
.ite ((a0.V.length:Int)==200) (
.reg 4 [] [e6_] [.pf cz2]<|
.r (e3_,3)) (
 let e1_:=(i64.wrap ((a0.V.length:Int)+1))
.guard [(0:Int)<=e1_,e1_ * 72<=2 ^ 47]<|
 let e2_:=(⟨0,0,[],0,0,0,0,0⟩:TMe)
 let e0_:=((List.replicate (e1_.toNat) (e2_:TMe)).length)
.reg 5 [] [(4,{ cast:=some (AV.ref 3 e0_ 0 e0_),obs:=[(3,(eS 8 TMe.e (List.replicate (e1_.toNat) (e2_:TMe))))] })] [.ev 0,.pf (p:=e1_<=e1_) (y1d _),.ev 1,.pf (z8q (o:=3) (k:=e1_.toNat) (z:=(e2_:TMe))),.pf (z8r (sz:=8) (k:=e1_.toNat) (e:=TMe.e) (z:=(e2_:TMe)))]<|
 let e4_:=(0+(min a0.V.length e0_))
.guard [(min a0.V.length e0_)<(List.replicate (e1_.toNat) (e2_:TMe)).length,e4_<(copyL (List.replicate (e1_.toNat) (e2_:TMe)) 0 (min a0.V.length e0_) (fun i=>(a0.V.getD i dF))).length]<|
.reg 6 [4,7] [(4,{ obs:=[(3,(eS 8 TMe.e (copyL (List.replicate ((i64.wrap ((a0.V.length:Int)+1)).toNat) ((⟨0,0,[],0,0,0,0,0⟩:TMe):TMe)) 0 (min a0.V.length ((List.replicate ((i64.wrap ((a0.V.length:Int)+1)).toNat) ((⟨0,0,[],0,0,0,0,0⟩:TMe):TMe)).length)) (fun i=>(a0.V.getD i dF)))))] }),(7,{ obs:=[(3,(eS 8 TMe.e ((copyL (List.replicate ((i64.wrap ((a0.V.length:Int)+1)).toNat) ((⟨0,0,[],0,0,0,0,0⟩:TMe):TMe)) 0 (min a0.V.length ((List.replicate ((i64.wrap ((a0.V.length:Int)+1)).toNat) ((⟨0,0,[],0,0,0,0,0⟩:TMe):TMe)).length)) (fun i=>(a0.V.getD i dF))).set (0+(min a0.V.length ((List.replicate ((i64.wrap ((a0.V.length:Int)+1)).toNat) ((⟨0,0,[],0,0,0,0,0⟩:TMe):TMe)).length))) a1)))] })] [.pf (y2c ((List.replicate ((i64.wrap ((a0.V.length:Int)+1)).toNat) ((⟨0,0,[],0,0,0,0,0⟩:TMe):TMe)).length)),.pf (p:=∀ k,k<a0.V.length->(TMe.d (a0.V.getD k dF)).wd=8) (fun _ _=>rfl),.pf (z9k (sz:=8) (e:=TMe.e) (l:=(List.replicate ((i64.wrap ((a0.V.length:Int)+1)).toNat) ((⟨0,0,[],0,0,0,0,0⟩:TMe):TMe))) (off:=0) (k:=(min a0.V.length ((List.replicate ((i64.wrap ((a0.V.length:Int)+1)).toNat) ((⟨0,0,[],0,0,0,0,0⟩:TMe):TMe)).length))) (s:=(fun i=>(a0.V.getD i dF)))),.pf (p:=(copyL (List.replicate ((i64.wrap ((a0.V.length:Int)+1)).toNat) ((⟨0,0,[],0,0,0,0,0⟩:TMe):TMe)) 0 (min a0.V.length ((List.replicate ((i64.wrap ((a0.V.length:Int)+1)).toNat) ((⟨0,0,[],0,0,0,0,0⟩:TMe):TMe)).length)) (fun i=>(a0.V.getD i dF))).length=(List.replicate ((i64.wrap ((a0.V.length:Int)+1)).toNat) ((⟨0,0,[],0,0,0,0,0⟩:TMe):TMe)).length) (by simp only[zq]),.pf (nn (min a0.V.length ((List.replicate ((i64.wrap ((a0.V.length:Int)+1)).toNat) ((⟨0,0,[],0,0,0,0,0⟩:TMe):TMe)).length))),.ev 0,.pf (p:=(copyL (List.replicate ((i64.wrap ((a0.V.length:Int)+1)).toNat) ((⟨0,0,[],0,0,0,0,0⟩:TMe):TMe)) 0 (min a0.V.length ((List.replicate ((i64.wrap ((a0.V.length:Int)+1)).toNat) ((⟨0,0,[],0,0,0,0,0⟩:TMe):TMe)).length)) (fun i=>(a0.V.getD i dF))).length=(List.replicate ((i64.wrap ((a0.V.length:Int)+1)).toNat) ((⟨0,0,[],0,0,0,0,0⟩:TMe):TMe)).length) (by simp only[zq]),.ev 1,.pf (zu (sz:=8) (e:=TMe.e) (l:=(copyL (List.replicate ((i64.wrap ((a0.V.length:Int)+1)).toNat) ((⟨0,0,[],0,0,0,0,0⟩:TMe):TMe)) 0 (min a0.V.length ((List.replicate ((i64.wrap ((a0.V.length:Int)+1)).toNat) ((⟨0,0,[],0,0,0,0,0⟩:TMe):TMe)).length)) (fun i=>(a0.V.getD i dF)))) (i:=(0+(min a0.V.length ((List.replicate ((i64.wrap ((a0.V.length:Int)+1)).toNat) ((⟨0,0,[],0,0,0,0,0⟩:TMe):TMe)).length)))) (x:=a1) (fun _=>rfl))]<|
.cst (A:=True) (.pf trivial) [(3,(vp 0)),(6,(vp 2)),(8,(AV.ref 3 e0_ 0 e0_))] [(3,(vp 0)),(6,(vp 2)),(8,(AV.ref 3 (((copyL (List.replicate (e1_.toNat) (e2_:TMe)) 0 (min a0.V.length e0_) (fun i=>(a0.V.getD i dF))).set e4_ a1).length) 0 (((copyL (List.replicate (e1_.toNat) (e2_:TMe)) 0 (min a0.V.length e0_) (fun i=>(a0.V.getD i dF))).set e4_ a1).length)))] [(TWo.b a0),(TMe.b a1),e5_,(eS 8 TMe.e ((copyL (List.replicate (e1_.toNat) (e2_:TMe)) 0 (min a0.V.length e0_) (fun i=>(a0.V.getD i dF))).set e4_ a1))] [(TWo.b a0),(TMe.b a1),e5_,(eS 8 TMe.e ((copyL (List.replicate (e1_.toNat) (e2_:TMe)) 0 (min a0.V.length e0_) (fun i=>(a0.V.getD i dF))).set e4_ a1))] (fun _=>⟨by simp +zetaDelta only[ya,zq],by rfl⟩)<|
.guard [((copyL (List.replicate (e1_.toNat) (e2_:TMe)) 0 (min a0.V.length e0_) (fun i=>(a0.V.getD i dF))).set e4_ a1).length<2 ^ 63]<|
.reg 8 [] [] []<|
.frz 3 (.ev 0) none [] [0,2]<|
.r ((⟨a0.F,a0.H,((copyL (List.replicate (e1_.toNat) (e2_:TMe)) 0 (min a0.V.length e0_) (fun i=>(a0.V.getD i dF))).set e4_ a1)⟩:TWo),0)))
def F_q3z (a0:TWo) (a1:TMe) (a2:Int):=(S_q3z a0 a1 a2).den
theorem F_q3z_ok {a0:TWo} {a1:TMe} {a2:Int}:FO (F_q3z a0 a1 a2) 173 [(TWo.d a0),(TMe.d a1),(vi a2)] [] (fun x=>(AV.tup [(TWo.d x.1),(vi x.2)])) NL:=fO (s:=S_q3z a0 a1 a2) Tryz.func173
def S_q62 (a0:TWo) (a1:TSt):SC (TWo×Int) (TWo×Int) :=
 let e0_:=(⟨(⟨0,[]⟩:TTr),[],[]⟩:TWo)
.reg 0 [] [(2,{ obs:=[(2,(TWo.b e0_))] })] [.pf cz1]<|
.cut (some 0) [2,4] (fun (sv1:TWo×Int)=>[(6,(vi sv1.2))]) (fun sv1=>[(0,(TWo.b sv1.1))]) (
.ite (a1.Q==1) (
.a 6 8 3 (@F_q4k_ok a0.F a1.D a1.E a1.S) fun rv2=>
.r (.next ((⟨rv2.1,a0.H,a0.V⟩:TWo),rv2.2))) (
.ite (a1.Q==2) (
.a 8 10 3 (@F_q61_ok a0.F a1.Y a1.D a1.E a1.S) fun rv3=>
.r (.next ((⟨rv3.1,a0.H,a0.V⟩:TWo),rv3.2))) (
.ite (a1.Q==3) (
.a 10 10 3 (@F_q4n_ok a0.F a1.Y a1.D a1.E a1.S) fun rv4=>
.r (.next ((⟨rv4.1,a0.H,a0.V⟩:TWo),rv4.2))) (
.a 3 8 3 (@F_q4o_ok a0.F a1.Y a1.D a1.E) fun rv5=>
.a 4 3 4 (@F_q3z_ok a0 rv5.1 rv5.2) fun rv6=>
.r (.ret (rv6.1,rv6.2)))))) fun sv1=>
.ite (sv1.2 != 0) (
.reg 12 [] [(0,hv (TWo.d e0_))] [.pf cz2]<|
.r (e0_,sv1.2)) (
.r (sv1.1,0))
def F_q62 (a0:TWo) (a1:TSt):=(S_q62 a0 a1).den
theorem F_q62_ok {a0:TWo} {a1:TSt}:FO (F_q62 a0 a1) 140 [(TWo.d a0),(TSt.d a1)] [] (fun x=>(AV.tup [(TWo.d x.1),(vi x.2)])) NL:=fO (s:=S_q62 a0 a1) Tryz.func140
def S_q63 (a0:(List TOp)):SC (List TOp) (List TOp) :=
.reg 0 [] [] []<|
.nils 0 (
.guard [a0.length * (2 * 88)<=2 ^ 48]<|
.reg 1 [] [] []<|
.lev 0 (AV.d (eL TOp.e a0)) (.pf (lvQ true a0.length fun j=>(TOp.e (a0.getD j dF))))<|
.br true (.pf (p:=true=true) rfl)<|
.reg 2 [] [] []<|
.bor 10 (fun j=>AV.d (TOp.e (a0.getD j dF))) [2]<|
.cst (A:=a0.length=0) (.ev 1) [(2,AV.ref 0 0 0 0)] [(2,(AV.ref 0 a0.length 0 a0.length))] [(Ob.seq 10 0 fun j=>AV.d (TOp.e (a0.getD j dF)))] [(eS 10 TOp.e a0)] (fun h=>⟨by rw[h],by unfold eS; rw[h]⟩)<|
.r a0) (
.reg 1 [] [] []<|
.lev 0 (AV.d (eL TOp.e a0)) (.pf (lvQ false a0.length fun j=>(TOp.e (a0.getD j dF))))<|
.br false (.pf (p:=false=false) rfl)<|
.guard [a0.length * (2 * 88)<=2 ^ 48]<|
.reg 3 [] [(2,{ h:=.obj })] [.pf (p:=∀ k,k<a0.length->(TOp.d (a0.getD k dF)).wd=10) (fun _ _=>rfl),.ev 0]<|
.r a0)
def F_q63 (a0:(List TOp)):=(S_q63 a0).den
theorem F_q63_ok {a0:(List TOp)}:FO (F_q63 a0) 96 [(AV.d (eL TOp.e a0))] [] (fun x=>(AV.ref 0 x.length 0 x.length)) (fun x=>[(eS 10 TOp.e x)]):=fO (s:=S_q63 a0) Tryz.func96
abbrev R_q77:=Int×Int×(List TOp)
def S_q77 (a0:TJo):SC R_q77 R_q77 :=
.reg 0 [] [(1,{ obs:=[(1,(TJo.b (⟨0,[],0⟩:TJo)))] })] [.pf z3m]<|
.call (@F_q63_ok a0.Ab) fun rv1 cv1=>
.k 1 2 cv1 [] 2 false<|
.reg 2 [] [] []<|
.kill 0<|
.r (a0.Y,a0.Ag,rv1)
def F_q77 (a0:TJo):=(S_q77 a0).den
theorem F_q77_ok {a0:TJo}:FO (F_q77 a0) 202 [(TJo.d a0)] [] (fun x=>(AV.agg [(vi x.1),(AV.ref 2 x.2.2.length 0 x.2.2.length),(vi x.2.1)])) (fun x=>[Ob.dead,(Ob.box (AV.agg [(vi x.1),(AV.ref 2 x.2.2.length 0 x.2.2.length),(vi x.2.1)])),(eS 10 TOp.e x.2.2)]):=fO (s:=S_q77 a0) Tryz.func202
end
end Go.Proofs.YtlhikmklpelceaaGreatDoor
/- What the functions compute,and that their calls return it. No condition. -/
namespace Go.Proofs.YtlhikmklpelceaaGreatDoor
open Go Go.TA
open Go.IntKind (i64)
noncomputable section
set_option maxRecDepth 100000
def S_q4p (a0:TJo) (a1:TOp):SC (TJo×Int) (TJo×Int) :=
 let e1_:=(⟨0,[],0⟩:TJo)
.reg 0 [] [(2,{ obs:=[(2,(TJo.b e1_))] })] [.pf z3m]<|
.call (@F_q3d_ok a0) fun rv1 cv1=>
 let e2_:=(TOf.b (⟨0,[],(⟨[],[],[],[]⟩:TBo)⟩:TOf))
.reg 1 [] [(1,hc cv1 [] true),(5,{ obs:=[(3,e2_)] })] [.cl 0 cv1 [] 3 true,.pf cz5]<|
.calld [(rv1.2 != 0)=false] dF (@F_q4a_ok a1) fun rv2 cv2 =>
.reg 2 [] [(4,hc cv2 [] true)] [.clg 0 [(rv1.2 != 0)=false] cv2 [] 4 true]<|
 let e3_:=(0,hv (TJo.d e1_))
.ite (cO (rv1.2 != 0) (!rv2)) (
.reg 3 [] [e3_] [.pf zej]<|
.r (e1_,1)) (
.call (@F_q3x_ok rv1.1 a1) fun rv3 cv3=>
.reg 4 [] [(2,hc cv3 [] true),(6,{ obs:=[(4,e2_)] })] [.cl 0 cv3 [] 4 true,.pf cz5]<|
.ite (rv3.2 != 0) (
.reg 6 [] [e3_] [.pf zej]<|
.r (e1_,rv3.2)) (
.ite ((a0.Ab.length:Int)==400) (
.reg 8 [] [e3_] [.pf zej]<|
.r (e1_,3)) (
.call (@F_q77_ok a0) fun rv4 cv4=>
.k 9 1 cv4 [] 5 false<|
.kill 6<|
.guard [(rv4.2.2.length+1) * (2 * 88)<=2 ^ 48]<|
 let e0_:=([a1]:List TOp)
 let e4_:=(rv4.2.2++e0_)
.reg 10 [] [(3,hv (AV.d (eL TOp.e e0_))),(4,{ cast:=some (AV.ref 7 (e4_.length) 0 (e4_.length)),obs:=[(7,(eS 10 TOp.e e4_))] })] [.pf (ze TOp.e e0_),.e rv4.2.2.length,.e rv4.2.2.length,.pf (p:=∀ k,k<1->(TOp.d (e0_.getD k dF)).wd=10) (fun _ _=>rfl),.ev 0,.pf (z11 (o:=7) (l:=rv4.2.2) (x:=e0_)),.pf (z13 (sz:=10) (e:=TOp.e) (l:=rv4.2.2) (x:=e0_))]<|
.guard [e4_.length<2 ^ 63]<|
.reg 11 [] [] []<|
.frz 7 (.ev 0) none [] [0,2]<|
.r ((⟨rv4.1,e4_,rv4.2.1⟩:TJo),0))))
def F_q4p (a0:TJo) (a1:TOp):=(S_q4p a0 a1).den
theorem F_q4p_ok {a0:TJo} {a1:TOp}:FO (F_q4p a0 a1) 174 [(TJo.d a0),(TOp.d a1)] [] (fun x=>(AV.tup [(TJo.d x.1),(vi x.2)])) NL:=fO (s:=S_q4p a0 a1) Tryz.func174
def S_q64 (a0:(List TJo)):SC (List TJo) (List TJo) :=
.reg 0 [] [] []<|
.nils 0 (
.guard [a0.length * (2 * 40)<=2 ^ 48]<|
.reg 1 [] [] []<|
.lev 0 (AV.d (eL TJo.e a0)) (.pf (lvQ true a0.length fun j=>(TJo.e (a0.getD j dF))))<|
.br true (.pf (p:=true=true) rfl)<|
.reg 2 [] [] []<|
.bor 3 (fun j=>AV.d (TJo.e (a0.getD j dF))) [2]<|
.cst (A:=a0.length=0) (.ev 1) [(2,AV.ref 0 0 0 0)] [(2,(AV.ref 0 a0.length 0 a0.length))] [(Ob.seq 3 0 fun j=>AV.d (TJo.e (a0.getD j dF)))] [(eS 3 TJo.e a0)] (fun h=>⟨by rw[h],by unfold eS; rw[h]⟩)<|
.r a0) (
.reg 1 [] [] []<|
.lev 0 (AV.d (eL TJo.e a0)) (.pf (lvQ false a0.length fun j=>(TJo.e (a0.getD j dF))))<|
.br false (.pf (p:=false=false) rfl)<|
.guard [a0.length * (2 * 40)<=2 ^ 48]<|
.reg 3 [] [(2,{ h:=.obj })] [.pf (p:=∀ k,k<a0.length->(TJo.d (a0.getD k dF)).wd=3) (fun _ _=>rfl),.ev 0]<|
.r a0)
def F_q64 (a0:(List TJo)):=(S_q64 a0).den
theorem F_q64_ok {a0:(List TJo)}:FO (F_q64 a0) 203 [(AV.d (eL TJo.e a0))] [] (fun x=>(AV.ref 0 x.length 0 x.length)) (fun x=>[(eS 3 TJo.e x)]):=fO (s:=S_q64 a0) Tryz.func203
def S_q3h (a0:TWo) (a1:TJo) (a2:Int):SC (TWo×Int) (TWo×Int) :=
 let e1_:=(⟨(⟨0,[]⟩:TTr),[],[]⟩:TWo)
 let e3_:=(TWo.b e1_)
.reg 0 [] [(2,{ obs:=[(2,e3_)] })] [.pf cz1]<|
.ite (a2 != 0) (
.reg 2 [] [(0,hv (TWo.d e1_))] [.pf cz2]<|
.r (e1_,a2)) (
.call (@F_q64_ok a0.H) fun rv1 cv1=>
.k 3 2 cv1 [] 3 false<|
 let e2_:=(i64.wrap (a1.Y-1))
 let e5_:=(0+(e2_).toNat)
.guard [(0:Int)<=e2_,(e2_).toNat<rv1.length,e5_<rv1.length]<|
 let e0_:=(rv1.set e5_ a1)
 let e4_:=(eS 3 TJo.e e0_)
.reg 4 [] [(7,{ obs:=[(3,e4_)] })] [.e rv1.length,.ev 0,.ev 1,.e rv1.length,.ev 2,.pf (zu (sz:=3) (e:=TJo.e) (l:=rv1) (i:=e5_) (x:=a1) (fun _=>rfl))]<|
 let e6_:=[(3,(vp 0)),(6,(vp 2))]
.cst (A:=True) (.pf trivial) e6_ e6_ [(Ob.box (AV.agg [(TTr.d a0.F),(AV.ref 3 rv1.length 0 rv1.length),(AV.d (eL TMe.e a0.V))])),(TJo.b a1),e3_,e4_] [(Ob.box (AV.agg [(TTr.d a0.F),(AV.ref 3 (e0_.length) 0 (e0_.length)),(AV.d (eL TMe.e a0.V))])),(TJo.b a1),e3_,e4_] (fun _=>⟨by simp +zetaDelta only,by simp +zetaDelta only[ya]⟩)<|
.guard [e0_.length<2 ^ 63]<|
.reg 5 [] [] []<|
.frz 3 (.ev 0) none [] [0,2]<|
.r ((⟨a0.F,e0_,a0.V⟩:TWo),0))
def F_q3h (a0:TWo) (a1:TJo) (a2:Int):=(S_q3h a0 a1 a2).den
theorem F_q3h_ok {a0:TWo} {a1:TJo} {a2:Int}:FO (F_q3h a0 a1 a2) 175 [(TWo.d a0),(TJo.d a1),(vi a2)] [] (fun x=>(AV.tup [(TWo.d x.1),(vi x.2)])) NL:=fO (s:=S_q3h a0 a1 a2) Tryz.func175
def S_q4q (a0:(List TOp)):SC (List TOp) (List TOp) :=
.reg 0 [] [] []<|
 let e0_:=(AV.d (eL TOp.e a0))
.nils 0 (
.guard [(0+a0.length) * (2 * 88)<=2 ^ 48]<|
.reg 1 [] [] []<|
.lev 0 e0_ (.pf (lvQ true a0.length fun j=>(TOp.e (a0.getD j dF))))<|
.br true (.pf (p:=true=true) rfl)<|
.reg 2 [] [] []<|
.lev 2 e0_ (.der (fun (h:a0.length=0)=>lvZ TOp.e a0 h) 1)<|
.r a0) (
.reg 1 [] [] []<|
.lev 0 e0_ (.pf (lvQ false a0.length fun j=>(TOp.e (a0.getD j dF))))<|
.br false (.pf (p:=false=false) rfl)<|
.guard [(0+a0.length) * (2 * 88)<=2 ^ 48]<|
.reg 3 [] [(2,hv e0_)] [.pf (p:=∀ k,k<a0.length->AV.d (TOp.e (a0.getD k dF))=AV.d (TOp.e (a0.getD k dF))/\(TOp.e (a0.getD k dF)).wd=10) (fun _ _=>⟨rfl,rfl⟩),.pf ztp,.ev 0,.pf (z3q (e:=TOp.e) (x:=a0))]<|
.r a0)
def F_q4q (a0:(List TOp)):=(S_q4q a0).den
theorem F_q4q_ok {a0:(List TOp)}:FO (F_q4q a0) 96 [(AV.d (eL TOp.e a0))] [] (fun x=>(AV.d (eL TOp.e x))) NL:=fO (s:=S_q4q a0) Tryz.func96
def S_q40 (a0:TJo):SC TJo TJo :=
.reg 0 [] [(1,{ obs:=[(1,(TJo.b (⟨0,[],0⟩:TJo)))] })] [.pf z3m]<|
.a 1 2 2 (@F_q4q_ok a0.Ab) fun rv1=>
.r (⟨a0.Y,rv1,a0.Ag⟩:TJo)
def F_q40 (a0:TJo):=(S_q40 a0).den
theorem F_q40_ok {a0:TJo}:FO (F_q40 a0) 202 [(TJo.d a0)] [] (fun x=>(TJo.d x)) NL:=fO (s:=S_q40 a0) Tryz.func202
def S_q65 (a0:TJo):SC TJo TJo :=
.reg 0 [] [(1,{ obs:=[(1,(TJo.b (⟨0,[],0⟩:TJo)))] })] [.pf z3m]<|
.a 1 1 2 (@F_q3y_ok a0) fun rv1=>
.cut none [1,2] (fun (_:TJo)=>[]) (fun sv2=>[(0,(TJo.b sv2))]) (
.ite rv1 (
.r (.next (⟨a0.Y,a0.Ab,(a0.Ab.length:Int)⟩:TJo))) (
.r (.next a0))) fun sv2=>
.a 3 1 2 (@F_q40_ok sv2) fun rv3=>
.r rv3
def F_q65 (a0:TJo):=(S_q65 a0).den
theorem F_q65_ok {a0:TJo}:FO (F_q65 a0) 176 [(TJo.d a0)] [] (fun x=>(TJo.d x)) NL:=fO (s:=S_q65 a0) Tryz.func176
def S_q66 (a0:TJo):SC TJo TJo :=
.reg 0 [] [(1,{ obs:=[(1,(TJo.b (⟨0,[],0⟩:TJo)))] })] [.pf z3m]<|
.a 1 1 2 (@F_q3y_ok a0) fun rv1=>
.cut none [1,2] (fun (_:TJo)=>[]) (fun sv2=>[(0,(TJo.b sv2))]) (
.ite rv1 (
.guard [(0:Int)<=a0.Ag,(a0.Ag).toNat<=a0.Ab.length]<|
 let e0_:=(a0.Ab.take ((a0.Ag).toNat))
.reg 2 [] [(4,hv (AV.d (eL TOp.e e0_)))] [.ev 0,.ev 1,.der (fun (h0:(a0.Ag).toNat<=a0.Ab.length)=>lvT TOp.e a0.Ab h0) 1]<|
.r (.next (⟨a0.Y,e0_,a0.Ag⟩:TJo))) (
.r (.next a0))) fun sv2=>
.a 3 1 2 (@F_q40_ok sv2) fun rv3=>
.r rv3
def F_q66 (a0:TJo):=(S_q66 a0).den
theorem F_q66_ok {a0:TJo}:FO (F_q66 a0) 177 [(TJo.d a0)] [] (fun x=>(TJo.d x)) NL:=fO (s:=S_q66 a0) Tryz.func177
def S_qn_b1 (a0:TOf) (iv1:Nat) (_:Unit):SC Bool (Step (Unit) Bool) :=
.reg 5 [] [] [.w iv1,.ev 0]<|
 let e2_:=(a0.J.getD iv1 dF)
.call (@F_q27_ok e2_) fun rv2 cv2=>
 let e0_:=(decide ((iv1:Int)>0))
 let e1_:=(i64.wrap ((iv1:Int)-1))
.calld [e0_=true,(!rv2)=false] dF (@F_q37_ok (a0.J.getD ((e1_).toNat) dF) e2_) fun rv3 cv3 =>
.guard [AllP [e0_=true,(!rv2)=false]->((0:Int)<=e1_),AllP [e0_=true,(!rv2)=false]->((e1_).toNat<a0.J.length)]<|
.reg 6 [] [(1,hc cv2 [] true),(14,hc cv3 [] true)] [.cl 4 cv2 [] 2 true,.ev 0,.ev 1,.clg 2 [e0_=true,(!rv2)=false] cv3 [] 2 true]<|
.ite (cO (!rv2) (bif e0_ then (decide (rv3>=0)) else false)) (
.r (.ret false)) (
.r (.cont ()))
def S_qn_b2 (a0:TOf) (iv4:Nat) (_:Unit):SC Bool (Step (Unit) Bool) :=
.reg 11 [] [] [.w iv4,.ev 0]<|
 let e0_:=(a0.Ae.C.getD iv4 dF)
.call (@F_q35_ok a0 (e0_.D) (e0_.E)) fun rv5 cv5=>
.calld [(!rv5)=false] dF (@F_q3w_ok a0 (e0_.D) (e0_.E)) fun rv6 cv6 =>
.reg 12 [] [(5,hc cv5 [] true),(13,hc cv6 [] true)] [.cl 2 cv5 [] 2 true,.clg 0 [(!rv5)=false] cv6 [] 2 true]<|
.ite (cO (!rv5) (decide (rv6<0))) (
.r (.ret false)) (
.r (.cont ()))
def S_qn (a0:TOf):SC Bool Bool :=
 let e0_:=(cO (cO (decide (a0.O<1)) (decide (a0.O>6))) (decide ((a0.J.length:Int)>60)))
.calld [e0_=false] dF (@F_q1s_ok a0.Ae) fun rv7 cv7 =>
.reg 1 [] [(17,hc cv7 [] true)] [.clg 0 [e0_=false] cv7 [] 1 true]<|
.ite (cO e0_ (!rv7)) (
.r false) (
.range (a0.J.length:Int) a0.J.length rfl (.slot 28) 30 [1,28,29] (fun (_:Unit)=>[]) (fun _=>[]) () (S_qn_b1 a0) (fun _ => 
.range (a0.Ae.C.length:Int) a0.Ae.C.length rfl (.slot 56) 58 [1,56,57] (fun (_:Unit)=>[]) (fun _=>[]) () (S_qn_b2 a0) (fun _ => 
.r true) id) id)
def F_qn (a0:TOf):=(S_qn a0).den
theorem F_qn_ok {a0:TOf}:FO (F_qn a0) 145 [(TOf.d a0)] [] vb NL:=fO (s:=S_qn a0) Tryz.func145
def S_q67 (a0:TOf) (a1:Y8) (a2:Int):SC (TMe×Int) (TMe×Int) :=
.a 1 1 2 (@F_qn_ok a0) fun rv1=>
 let e0_:=(⟨0,0,[],0,0,0,0,0⟩:TMe)
.ite (!rv1) (
.r (e0_,1)) (
.a 3 3 2 (@F_q35_ok a0 a1 a2) fun rv2=>
.ite (!rv2) (
.r (e0_,6)) (
.call (@F_q1m_ok a0 a1 a2) fun rv3 cv3=>
.call (@F_q15_ok a0.Ae a1 a2) fun rv4 cv4=>
.reg 5 [15] [(7,hc cv3 [] true),(13,hc cv4 [] true)] [.cl 1 cv3 [] 2 true,.cl 0 cv4 [] 2 true]<|
.r ((⟨a0.O,0,a1,a2,0,0,rv3.M,rv4⟩:TMe),0)))
def F_q67 (a0:TOf) (a1:Y8) (a2:Int):=(S_q67 a0 a1 a2).den
theorem F_q67_ok {a0:TOf} {a1:Y8} {a2:Int}:FO (F_q67 a0 a1 a2) 178 [(TOf.d a0),(AV.d (DV.str a1)),(vi a2)] [] (fun x=>(AV.tup [(TMe.d x.1),(vi x.2)])) NL:=fO (s:=S_q67 a0 a1 a2) Tryz.func178
def S_q68 (a0:TWo) (a1:TSt):SC (TWo×Int) (TWo×Int) :=
 let e1_:=(⟨(⟨0,[]⟩:TTr),[],[]⟩:TWo)
.reg 0 [] [(2,{ obs:=[(2,(TWo.b e1_))] })] [.pf cz1]<|
.a 1 5 3 (@F_q1v_ok a1.Y 1 (a0.H.length:Int)) fun rv1=>
 let e4_:=(0,hv (TWo.d e1_))
.ite (!rv1) (
.reg 2 [] [e4_] [.pf cz2]<|
.r (e1_,6)) (
 let e2_:=(i64.wrap (a1.Y-1))
.guard [(0:Int)<=e2_,(e2_).toNat<a0.H.length]<|
 let e3_:=(TJo.b (⟨0,[],0⟩:TJo))
.reg 3 [] [(7,{ obs:=[(3,e3_)] })] [.ev 0,.ev 1,.pf z3m]<|
 let e0_:=(a0.H.getD ((e2_).toNat) dF)
.ite (a1.Q==5) (
.ite (a1.Op.Q==8) (
.reg 7 [] [e4_] [.pf cz2]<|
.r (e1_,9)) (
.call (@F_q4p_ok e0_ a1.Op) fun rv2 cv2=>
.reg 8 [] [(3,hc cv2 [] true),(7,{ obs:=[(4,e3_)] })] [.cl 0 cv2 [] 4 true,.pf z3m]<|
.a 9 3 5 (@F_q3h_ok a0 rv2.1 rv2.2) fun rv3=>
.r (rv3.1,rv3.2))) (
.ite (a1.Q==6) (
.call (@F_q65_ok e0_) fun rv4 cv4=>
.call (@F_q3h_ok a0 rv4 0) fun rv5 cv5=>
.reg 11 [6] [(2,hc cv4 [] true),(3,hc cv5 [] true)] [.cl 1 cv4 [] 4 true,.cl 0 cv5 [] 4 true]<|
.r (rv5.1,rv5.2)) (
.ite (a1.Q==7) (
.call (@F_q66_ok e0_) fun rv6 cv6=>
.call (@F_q3h_ok a0 rv6 0) fun rv7 cv7=>
.reg 13 [6] [(2,hc cv6 [] true),(3,hc cv7 [] true)] [.cl 1 cv6 [] 4 true,.cl 0 cv7 [] 4 true]<|
.r (rv7.1,rv7.2)) (
.call (@F_q4j_ok e0_) fun rv8 cv8=>
.reg 14 [] [(1,hc cv8 [] true),(5,{ obs:=[(4,(TOf.b (⟨0,[],(⟨[],[],[],[]⟩:TBo)⟩:TOf)))] })] [.cl 0 cv8 [] 4 true,.pf cz5]<|
.a 15 5 5 (@F_q67_ok rv8.1 a1.D a1.E) fun rv9=>
.a 16 3 6 (@F_q3z_ok a0 rv9.1 rv9.2) fun rv10=>
.r (rv10.1,rv10.2)))))
def F_q68 (a0:TWo) (a1:TSt):=(S_q68 a0 a1).den
theorem F_q68_ok {a0:TWo} {a1:TSt}:FO (F_q68 a0 a1) 141 [(TWo.d a0),(TSt.d a1)] [] (fun x=>(AV.tup [(TWo.d x.1),(vi x.2)])) NL:=fO (s:=S_q68 a0 a1) Tryz.func141
abbrev R_q4r:=Int×(List Int)×(List Int)
def S_q4r (p0_0:Nat) (p0_1:(List TPo)) (_:Y8) (_:Int) (_:Int) (p1:TMe) (p2:(List Int)) (p3:(List Int)) (_:(List Int)) (p5:(List Int)):SC R_q4r R_q4r :=
.call (@F_qb_ok p1.Aa 1 (p3.length:Int)) fun rv1 cv1=>
.guard [p0_0<p0_1.length]<|
.reg 2 [] [(7,hc cv1 [] true)] [.e p0_1.length,.e p0_1.length,.ev 0,.pf (p:=decide (p0_0=p0_0)=true) (yd rfl),.cl 1 cv1 [] 6 true]<|
.ite (!rv1) (
.r (6,p3,p5)) (
 let e2_:=(i64.wrap (p1.Aa-1))
 let e0_:=(0+(e2_).toNat)
.call (@F_qb_ok p1.M 0 (p2.getD e0_ dF)) fun rv2 cv2=>
.calld [(!rv2)=false] dF (@F_q13_ok p1.P) fun rv3 cv3 =>
.guard [(0:Int)<=e2_,(e2_).toNat<p2.length,e0_<p2.length]<|
.reg 4 [] [(9,hc cv2 [] true),(14,hc cv3 [] true)] [.e p0_1.length,.e p0_1.length,.ev 7,.pf (p:=decide (p0_0=p0_0)=true) (yd rfl),.e p2.length,.ev 0,.ev 1,.e p2.length,.ev 2,.cl 5 cv2 [] 6 true,.clg 3 [(!rv2)=false] cv3 [] 6 true]<|
.ite (cO (!rv2) (!rv3)) (
.r (2,p3,p5)) (
.guard [(e2_).toNat<p3.length,e0_<p3.length,(e2_).toNat<p5.length,e0_<p5.length]<|
 let e1_:=(if p1.M>(p3.getD e0_ dF) then p1.M else (p3.getD e0_ dF))
.reg 6 [23,25] [(23,{ obs:=[(3,(eS 1 (DV.i .i64) (p3.set e0_ e1_)))] }),(25,{ obs:=[(5,(eS 1 (DV.i .i64) (p5.set e0_ p1.P)))] })] [.e p0_1.length,.e p0_1.length,.ev 12,.pf (p:=decide (p0_0=p0_0)=true) (yd rfl),.e p0_1.length,.e p0_1.length,.ev 12,.pf (p:=decide (p0_0=p0_0)=true) (yd rfl),.e p0_1.length,.e p0_1.length,.ev 12,.pf (p:=decide (p0_0=p0_0)=true) (yd rfl),.e p3.length,.ev 5,.ev 0,.e p3.length,.ev 1,.e p3.length,.ev 5,.ev 0,.e p3.length,.ev 1,.pf (zu (sz:=1) (e:=(DV.i .i64)) (l:=p3) (i:=e0_) (x:=e1_) (fun _=>rfl)),.e p5.length,.ev 5,.ev 2,.e p5.length,.ev 3,.pf (zu (sz:=1) (e:=(DV.i .i64)) (l:=p5) (i:=e0_) (x:=p1.P) (fun _=>rfl))]<|
.r (0,(p3.set e0_ e1_),(p5.set e0_ p1.P))))
def F_q4r (p0_0:Nat) (p0_1:(List TPo)) (p0_2:Y8) (p0_3:Int) (p0_4:Int) (p1:TMe) (p2:(List Int)) (p3:(List Int)) (p4:(List Int)) (p5:(List Int)):=(S_q4r p0_0 p0_1 p0_2 p0_3 p0_4 p1 p2 p3 p4 p5).den
theorem F_q4r_ok {p0_0:Nat} {p0_1:(List TPo)} {p0_2:Y8} {p0_3:Int} {p0_4:Int} {p1:TMe} {p2:(List Int)} {p3:(List Int)} {p4:(List Int)} {p5:(List Int)}:FO (F_q4r p0_0 p0_1 p0_2 p0_3 p0_4 p1 p2 p3 p4 p5) 227 [(AV.ptr 0 p0_1.length [.x p0_0 7]),(vp 1)] [(opS 7 TPo.e p0_0 (AV.agg [(AV.d (DV.str p0_2)),(vi p0_3),(vi p0_4),(AV.ref 2 p2.length 0 p2.length),(AV.ref 3 p3.length 0 p3.length),(AV.ref 4 p4.length 0 p4.length),(AV.ref 5 p5.length 0 p5.length)]) p0_1),(TMe.b p1),(eS 1 (DV.i .i64) p2),(eS 1 (DV.i .i64) p3),(eS 1 (DV.i .i64) p4),(eS 1 (DV.i .i64) p5)] (fun x=>(vi x.1)) (fun x=>[(opS 7 TPo.e p0_0 (AV.agg [(AV.d (DV.str p0_2)),(vi p0_3),(vi p0_4),(AV.ref 2 p2.length 0 p2.length),(AV.ref 3 p3.length 0 p3.length),(AV.ref 4 p4.length 0 p4.length),(AV.ref 5 p5.length 0 p5.length)]) p0_1),(TMe.b p1),(eS 1 (DV.i .i64) p2),(eS 1 (DV.i .i64) x.2.1),(eS 1 (DV.i .i64) p4),(eS 1 (DV.i .i64) x.2.2)]):=fO (s:=S_q4r p0_0 p0_1 p0_2 p0_3 p0_4 p1 p2 p3 p4 p5) Tryz.func227
def S_q78 (a0:TTr) (a1:Y8) (a2:Int) (p0:TMe):SC (TTr×Int) (TTr×Int) :=
.reg 0 [] [(1,{ obs:=[(2,(TTr.b (⟨0,[]⟩:TTr)))] })] [.pf z2b]<|
.a 1 1 3 (@F_qm_ok a0) fun rv1=>
 let e7_:=(TTr.d (⟨0,[]⟩:TTr))
.ite (!rv1) (
.reg 2 [] [(0,hv e7_)] [.pf z1j]<|
.r ((⟨0,[]⟩:TTr),1)) (
.a 3 3 3 (@F_q3e_ok a0 a1 a2) fun rv2=>
.ite (decide (rv2<0)) (
.reg 5 [] [(0,hv e7_)] [.pf z1j]<|
.r ((⟨0,[]⟩:TTr),6)) (
 let e4_:=((rv2).toNat)
.call (@F_q1w_ok a0 e4_) fun rv3 cv3=>
.k 6 1 cv3 [] 3 false<|
.kill 4<|
 let e0_:=(rv3.2.getD e4_ dF)
.call (@F_q4r_ok e4_ rv3.2 (e0_.D) (e0_.E) (e0_.W) p0 (e0_.A) (e0_.L) (e0_.K) (e0_.P)) fun rv4 cv4=>
.guard [(0:Int)<=rv2,(rv2).toNat<rv3.2.length]<|
 let e15_:=(AV.ptr 5 rv3.2.length [.x e4_ 7])
.reg 7 [] [(4,hv e15_),(5,hc cv4 [5,0,6,7,8,9] false)] [.e rv3.2.length,.ev 0,.ev 1,.pf (p:=LeV (AV.ptr 5 rv3.2.length [.x (0+e4_) 7]) e15_) (z6e),.cl 2 cv4 [5,0,6,7,8,9] 10 false]<|
.ite (rv4.1 != 0) (
.reg 9 [] [(0,hv e7_)] [.pf z1j]<|
.r ((⟨0,[]⟩:TTr),rv4.1)) (
.reg 10 [] [] []<|
.guard [rv4.2.1.length=(e0_.L).length/\rv4.2.2.length=(e0_.P).length]<|
 let e9_:=(TMe.b p0)
 let e10_:=(eS 1 (DV.i .i64) (e0_.A))
 let e11_:=(eS 1 (DV.i .i64) rv4.2.1)
 let e12_:=(eS 1 (DV.i .i64) (e0_.K))
 let e13_:=(eS 1 (DV.i .i64) rv4.2.2)
 let e14_:=(AV.d (DV.str (e0_.D)))
.cst (A:=rv4.2.1.length=(e0_.L).length/\rv4.2.2.length=(e0_.P).length) (.ev 0) [(8,(vp 2)),(9,(vi 0))] [(8,(vp 2)),(9,(vi 0))] [e9_,(Ob.box (AV.agg [(vi rv3.1),(AV.ref 5 rv3.2.length 0 rv3.2.length)])),(Ob.box (AV.agg [(vi rv3.1),(AV.ref 5 rv3.2.length 0 rv3.2.length)])),Ob.dead,Ob.dead,(opS 7 TPo.e e4_ (AV.agg [e14_,(vi (e0_.E)),(vi (e0_.W)),(AV.ref 6 ((e0_.A).length) 0 ((e0_.A).length)),(AV.ref 7 ((e0_.L).length) 0 ((e0_.L).length)),(AV.ref 8 ((e0_.K).length) 0 ((e0_.K).length)),(AV.ref 9 ((e0_.P).length) 0 ((e0_.P).length))]) rv3.2),e10_,e11_,e12_,e13_] [e9_,(Ob.box (AV.agg [(vi rv3.1),(AV.ref 5 rv3.2.length 0 rv3.2.length)])),(Ob.box (AV.agg [(vi rv3.1),(AV.ref 5 rv3.2.length 0 rv3.2.length)])),Ob.dead,Ob.dead,(opS 7 TPo.e e4_ (AV.agg [e14_,(vi (e0_.E)),(vi (e0_.W)),(AV.ref 6 ((e0_.A).length) 0 ((e0_.A).length)),(AV.ref 7 rv4.2.1.length 0 rv4.2.1.length),(AV.ref 8 ((e0_.K).length) 0 ((e0_.K).length)),(AV.ref 9 rv4.2.2.length 0 rv4.2.2.length)]) rv3.2),e10_,e11_,e12_,e13_] (fun h=>⟨rfl,by rw[h.1,h.2]⟩)<|
.guard [(e0_.A).length<2 ^ 63/\rv4.2.1.length<2 ^ 63/\(e0_.K).length<2 ^ 63/\rv4.2.2.length<2 ^ 63]<|
 let e8_:=(⟨e0_.D,e0_.E,e0_.W,e0_.A,rv4.2.1,e0_.K,rv4.2.2⟩:TPo)
 let e1_:=(rv3.2.set e4_ e8_)
 let e2_:=(AV.agg [(vi rv3.1),(AV.ref 5 rv3.2.length 0 rv3.2.length)])
 let e3_:=[e9_,(Ob.box e2_),(Ob.box e2_),Ob.dead,Ob.dead,(eS 7 TPo.e e1_),Ob.dead,Ob.dead,Ob.dead,Ob.dead]
 let e6_:=[(8,(vp 2)),(9,(vi 0))]
.sh (A:=(e0_.A).length<2 ^ 63/\rv4.2.1.length<2 ^ 63/\(e0_.K).length<2 ^ 63/\rv4.2.2.length<2 ^ 63) (.ev 0) e6_ e6_ [e9_,(Ob.box e2_),(Ob.box e2_),Ob.dead,Ob.dead,(opS 7 TPo.e e4_ (AV.agg [e14_,(vi (e0_.E)),(vi (e0_.W)),(AV.ref 6 ((e0_.A).length) 0 ((e0_.A).length)),(AV.ref 7 rv4.2.1.length 0 rv4.2.1.length),(AV.ref 8 ((e0_.K).length) 0 ((e0_.K).length)),(AV.ref 9 rv4.2.2.length 0 rv4.2.2.length)]) rv3.2),e10_,e11_,e12_,e13_] e3_ (fun h=>z3j oTApiPot (P:=[e9_,(Ob.box e2_),(Ob.box e2_),Ob.dead,Ob.dead]) (D:=[]) rfl (⟨e0_.D,e0_.E,e0_.W,[],[],[],[]⟩:TPo) e8_ h rfl) (z2a _)<|
 let e5_:=(AV.agg [(vi rv3.1),(AV.ref 5 (e1_.length) 0 (e1_.length))])
.cst (A:=True) (.pf trivial) e6_ e6_ e3_ [e9_,(Ob.box e5_),(Ob.box e5_),Ob.dead,Ob.dead,(eS 7 TPo.e e1_),Ob.dead,Ob.dead,Ob.dead,Ob.dead] (fun _=>⟨by simp +zetaDelta only,by simp +zetaDelta only[ya]⟩)<|
.guard [e1_.length<2 ^ 63]<|
.frz 5 (.ev 0) none [] [1,2]<|
.r ((⟨rv3.1,e1_⟩:TTr),0))))
def F_q78 (a0:TTr) (a1:Y8) (a2:Int) (p0:TMe):=(S_q78 a0 a1 a2 p0).den
theorem F_q78_ok {a0:TTr} {a1:Y8} {a2:Int} {p0:TMe}:FO (F_q78 a0 a1 a2 p0) 109 [(TTr.d a0),(AV.d (DV.str a1)),(vi a2),(AV.fn 227 [(vp 0)])] [(TMe.b p0)] (fun x=>(AV.tup [(TTr.d x.1),(vi x.2)])) (fun _=>[(TMe.b p0)]):=fO (s:=S_q78 a0 a1 a2 p0) Tryz.func109
def S_q69 (a0:TTr) (a1:TMe):SC (TTr×Int) (TTr×Int) :=
.reg 0 [] [(2,{ obs:=[(2,(TTr.b (⟨0,[]⟩:TTr)))] })] [.pf z2b]<|
.ite (a1.To != 0) (
.reg 2 [] [(0,hv (TTr.d (⟨0,[]⟩:TTr)))] [.pf z1j]<|
.r ((⟨0,[]⟩:TTr),1)) (
.call (@F_q78_ok a0 a1.D a1.E a1) fun rv1 cv1=>
.k 3 6 cv1 [1] 3 true<|
.r (rv1.1,rv1.2))
def F_q69 (a0:TTr) (a1:TMe):=(S_q69 a0 a1).den
theorem F_q69_ok {a0:TTr} {a1:TMe}:FO (F_q69 a0 a1) 204 [(TTr.d a0),(TMe.d a1)] [] (fun x=>(AV.tup [(TTr.d x.1),(vi x.2)])) NL:=fO (s:=S_q69 a0 a1) Tryz.func204
def S_q6a (a0:(List TMe)):SC (List TMe) (List TMe) :=
.reg 0 [] [] []<|
.nils 0 (
.guard [a0.length * (2 * 72)<=2 ^ 48]<|
.reg 1 [] [] []<|
.lev 0 (AV.d (eL TMe.e a0)) (.pf (lvQ true a0.length fun j=>(TMe.e (a0.getD j dF))))<|
.br true (.pf (p:=true=true) rfl)<|
.reg 2 [] [] []<|
.bor 8 (fun j=>AV.d (TMe.e (a0.getD j dF))) [2]<|
.cst (A:=a0.length=0) (.ev 1) [(2,AV.ref 0 0 0 0)] [(2,(AV.ref 0 a0.length 0 a0.length))] [(Ob.seq 8 0 fun j=>AV.d (TMe.e (a0.getD j dF)))] [(eS 8 TMe.e a0)] (fun h=>⟨by rw[h],by unfold eS; rw[h]⟩)<|
.r a0) (
.reg 1 [] [] []<|
.lev 0 (AV.d (eL TMe.e a0)) (.pf (lvQ false a0.length fun j=>(TMe.e (a0.getD j dF))))<|
.br false (.pf (p:=false=false) rfl)<|
.guard [a0.length * (2 * 72)<=2 ^ 48]<|
.reg 3 [] [(2,{ h:=.obj })] [.pf (p:=∀ k,k<a0.length->(TMe.d (a0.getD k dF)).wd=8) (fun _ _=>rfl),.ev 0]<|
.r a0)
def F_q6a (a0:(List TMe)):=(S_q6a a0).den
theorem F_q6a_ok {a0:(List TMe)}:FO (F_q6a a0) 97 [(AV.d (eL TMe.e a0))] [] (fun x=>(AV.ref 0 x.length 0 x.length)) (fun x=>[(eS 8 TMe.e x)]):=fO (s:=S_q6a a0) Tryz.func97
def S_q6b (a1:Int) (a2:Int) (p0:(List TMe)):SC (List TMe) (List TMe) :=
.guard [(0:Int)<=a1,(0:Int)<=a2,(a1).toNat<=(a2).toNat,(a2).toNat<=p0.length]<|
.reg 1 [] [] [.ev 0,.ev 1,.ev 2,.ev 3,.e p0.length,.pf (nn p0.length),.ev 3,.pf (p:=p0.length<=p0.length) (yf _)]<|
.ite (a1==a2) (
.guard [p0.length<2 ^ 63]<|
.reg 3 [] [] []<|
.frz 0 (.ev 0) none [6] []<|
.r p0) (
 let e1_:=(p0.length-(a2).toNat)
 let e3_:=((a1).toNat-0)
.guard [(a1).toNat<=p0.length,e3_+e1_<=p0.length]<|
 let e4_:=(0+(a2).toNat)
.reg 5 [6] [(6,{ h:=.imm,obs:=[(0,(eS 8 TMe.e (copyL p0 e3_ e1_ (fun i=>(p0.getD (e4_+i) dF)))))] })] [.ev 3,.ev 0,.e p0.length,.ev 4,.ev 6,.e p0.length,.e p0.length,.e p0.length,.ev 1,.pf (p:=∀ k,k<e1_->(TMe.d (p0.getD (e4_+k) dF)).wd=8) (fun _ _=>rfl),.pf (z9k (sz:=8) (e:=TMe.e) (l:=p0) (off:=e3_) (k:=e1_) (s:=(fun i=>(p0.getD (e4_+i) dF))))]<|
 let e0_:=(e3_+e1_)
 let e6_:=(7,(vi (p0.length:Int)))
.cst (A:=True) (.pf trivial) [(0,(AV.ref 0 p0.length 0 e0_)),e6_] [(0,(AV.ref 0 ((copyL p0 e3_ e1_ (fun i=>(p0.getD (e4_+i) dF))).length) 0 e0_)),e6_] [(eS 8 TMe.e (copyL p0 e3_ e1_ (fun i=>(p0.getD (e4_+i) dF))))] [(eS 8 TMe.e (copyL p0 e3_ e1_ (fun i=>(p0.getD (e4_+i) dF))))] (fun _=>⟨by simp +zetaDelta only[zq],by rfl⟩)<|
.guard [e0_<=p0.length,p0.length<=(copyL p0 e3_ e1_ (fun i=>(p0.getD (e4_+i) dF))).length]<|
 let e2_:=(⟨0,0,[],0,0,0,0,0⟩:TMe)
 let e5_:=(p0.length-e0_)
.reg 6 [] [(5,{ obs:=[(0,(eS 8 TMe.e (clearL (copyL p0 e3_ e1_ (fun i=>(p0.getD (e4_+i) dF))) (0+e0_) e5_ e2_)))] })] [.w e0_,.pf (nn p0.length),.ev 0,.ev 1,.pf (y2c ((copyL p0 e3_ e1_ (fun i=>(p0.getD (e4_+i) dF))).length)),.pf (y2c ((copyL p0 e3_ e1_ (fun i=>(p0.getD (e4_+i) dF))).length)),.pf (zfj (sz:=8) (e:=TMe.e) (l:=(copyL p0 e3_ e1_ (fun i=>(p0.getD (e4_+i) dF)))) (off:=(0+e0_)) (n:=e5_) (z:=e2_))]<|
.cst (A:=True) (.pf trivial) [(0,(AV.ref 0 ((copyL p0 e3_ e1_ (fun i=>(p0.getD (e4_+i) dF))).length) 0 e0_))] [(0,(AV.ref 0 ((clearL (copyL p0 e3_ e1_ (fun i=>(p0.getD (e4_+i) dF))) (0+e0_) e5_ e2_).length) 0 e0_))] [(eS 8 TMe.e (clearL (copyL p0 e3_ e1_ (fun i=>(p0.getD (e4_+i) dF))) (0+e0_) e5_ e2_))] [(eS 8 TMe.e (clearL (copyL p0 e3_ e1_ (fun i=>(p0.getD (e4_+i) dF))) (0+e0_) e5_ e2_))] (fun _=>⟨by simp +zetaDelta only[z1n,zq],by rfl⟩)<|
.guard [(clearL (copyL p0 e3_ e1_ (fun i=>(p0.getD (e4_+i) dF))) (0+e0_) e5_ e2_).length<2 ^ 63]<|
.reg 7 [] [] []<|
.guard [e0_<=(clearL (copyL p0 e3_ e1_ (fun i=>(p0.getD (e4_+i) dF))) (0+e0_) e5_ e2_).length]<|
.frz 0 (.ev 1) (some (.der (fun (h:e0_<=(clearL (copyL p0 e3_ e1_ (fun i=>(p0.getD (e4_+i) dF))) (0+e0_) e5_ e2_).length)=>(h:e0_<=(clearL (copyL p0 e3_ e1_ (fun i=>(p0.getD (e4_+i) dF))) (0+e0_) e5_ e2_).length)) 0)) [6] []<|
.lev 6 (AV.d (eL TMe.e ((clearL (copyL p0 e3_ e1_ (fun i=>(p0.getD (e4_+i) dF))) (0+e0_) e5_ e2_).take e0_))) (.der (fun (h:e0_<=(clearL (copyL p0 e3_ e1_ (fun i=>(p0.getD (e4_+i) dF))) (0+e0_) e5_ e2_).length)=>lvT TMe.e (clearL (copyL p0 e3_ e1_ (fun i=>(p0.getD (e4_+i) dF))) (0+e0_) e5_ e2_) h) 0)<|
.r ((clearL (copyL p0 e3_ e1_ (fun i=>(p0.getD (e4_+i) dF))) (0+e0_) e5_ e2_).take e0_))
def F_q6b (a1:Int) (a2:Int) (p0:(List TMe)):=(S_q6b a1 a2 p0).den
theorem F_q6b_ok {a1:Int} {a2:Int} {p0:(List TMe)}:FO (F_q6b a1 a2 p0) 205 [(AV.ref 0 p0.length 0 p0.length),(vi a1),(vi a2)] [(eS 8 TMe.e p0)] (fun x=>(AV.d (eL TMe.e x))) (fun _=>[Ob.dead]):=fO (s:=S_q6b a1 a2 p0) Tryz.func205
def S_q41 (a0:TWo) (a1:Int):SC TWo TWo :=
.reg 0 [] [(1,{ obs:=[(1,(TWo.b (⟨(⟨0,[]⟩:TTr),[],[]⟩:TWo)))] })] [.pf cz1]<|
.call (@F_q6a_ok a0.V) fun rv1 cv1=>
.call (@F_q6b_ok a1 (i64.wrap (a1+1)) rv1) fun rv2 cv2=>
.reg 1 [] [(2,hc cv1 [] false),(6,hc cv2 [2] false)] [.cl 1 cv1 [] 2 false,.cl 0 cv2 [2] 3 false]<|
.r (⟨a0.F,a0.H,rv2⟩:TWo)
def F_q41 (a0:TWo) (a1:Int):=(S_q41 a0 a1).den
theorem F_q41_ok {a0:TWo} {a1:Int}:FO (F_q41 a0 a1) 180 [(TWo.d a0),(vi a1)] [] (fun x=>(TWo.d x)) NL:=fO (s:=S_q41 a0 a1) Tryz.func180
end
end Go.Proofs.YtlhikmklpelceaaGreatDoor
