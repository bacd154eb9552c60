/- A part of the proof: what the functions compute, and that their calls return it. No condition. -/
import Derived.Test.YtlhikmklpelceaaGreatDoorG4
/- What the functions compute, and that their calls return it. No condition. -/
namespace Go.Proofs.YtlhikmklpelceaaGreatDoor
open Go Go.TA
open Go.IntKind (i64)
noncomputable section
set_option maxRecDepth 100000
abbrev R_qt:=TOf×TOf×Bool
def S_qt_b1 (a0:TJo) (iv1:Nat) (sv2:TOf×TOf×Int):SC R_qt (Step (TOf×TOf×Int) R_qt) :=
.reg 7 [] [] [.w iv1,.ev 0]<|
 let e1_:=(a0.Ab.getD iv1 dF)
 let e2_:=(sv2.2.2 != 0)
.calld [e2_=false] dF (@F_q7_ok e1_) fun rv3 cv3 =>
.reg 8 [] [(4,hc cv3 [] true)] [.clg 0 [e2_=false] cv3 [] 6 true]<|
.ite (cO e2_ (!rv3)) (
 let e0_:=(⟨0,[],(⟨[],[],[],[]⟩:TBo)⟩:TOf)
.reg 9 [] [(0,hv (TOf.d e0_)),(1,hv (TOf.d e0_))] [.pf cz6,.pf cz6]<|
.r (.ret (e0_,e0_,false))) (
.a 10 2 6 (@F_q44_ok sv2.1 e1_) fun rv4=>
.ite (decide ((iv1:Int)<a0.Ag)) (
.r (.cont (rv4.1,rv4.1,rv4.2))) (
.r (.cont (rv4.1,sv2.2.1,rv4.2))))
def S_qt (a0:TJo):SC R_qt R_qt :=
 let e0_:=(⟨0,[],(⟨[],[],[],[]⟩:TBo)⟩:TOf)
 let e1_:=(TOf.b e0_)
.reg 0 [] [(1,{ obs:=[(1,e1_)] }),(2,{ obs:=[(2,e1_)] })] [.pf cz5,.pf cz5]<|
.ite (cO (cO (decide ((a0.Ab.length:Int)>400)) (decide (a0.Ag<0))) (decide (a0.Ag>(a0.Ab.length:Int)))) (
.reg 2 [] [(0,hv (TOf.d e0_)),(1,hv (TOf.d e0_))] [.pf cz6,.pf cz6]<|
.r (e0_,e0_,false)) (
.call (@F_q3j_ok a0.Y) fun rv5 cv5=>
.reg 3 [] [(2,hc cv5 [] true),(6,{ obs:=[(3,e1_)] })] [.cl 0 cv5 [] 3 true,.pf cz5]<|
.reg 4 [] [(1,{ obs:=[(4,e1_)] })] [.pf cz5]<|
.range (a0.Ab.length:Int) a0.Ab.length rfl (.slot 37) 39 [1,2,3,5,7,37,38] (fun (sv2:TOf×TOf×Int)=>[(6,(vi sv2.2.2))]) (fun sv2=>[(3,(TOf.b sv2.1)),(4,(TOf.b sv2.2.1))]) (rv5.1,rv5.1,rv5.2) (S_qt_b1 a0) (fun sv2 => 
.reg 14 [4,5] [] []<|
.r (sv2.1,sv2.2.1,(sv2.2.2==0))) id)
def F_qt (a0:TJo):=(S_qt a0).den
theorem F_qt_ok {a0:TJo}:FO (F_qt a0) 47 [(TJo.d a0)] [] (fun x=>(AV.tup [(TOf.d x.1),(TOf.d x.2.1),(vb x.2.2)])) NL:=fO (s:=S_qt a0) Tryz.func47
def S_q1i_b1 (a0:TTr) (a1:Y8) (a2:Int) (iv1:Nat) (_:Unit):SC Int (Step (Unit) Int) :=
.reg 3 [] [(3,{ obs:=[(1,(TPo.b (⟨[],0,0,[],[],[],[]⟩:TPo)))] })] [.w iv1,.ev 0,.pf cz4]<|
 let e0_:=(a0.B.getD iv1 dF)
.ite (bif ((e0_.D)==a1) then ((e0_.E)==a2) else false) (
.r (.ret (iv1:Int))) (
.r (.cont ()))
def S_q1i (a0:TTr) (a1:Y8) (a2:Int):SC Int Int :=
.range (a0.B.length:Int) a0.B.length rfl (.slot 10) 12 [1,2,10,11] (fun (_:Unit)=>[]) (fun _=>[]) () (S_q1i_b1 a0 a1 a2) (fun _ => 
.r (-1)) id
def F_q1i (a0:TTr) (a1:Y8) (a2:Int):=(S_q1i a0 a1 a2).den
theorem F_q1i_ok {a0:TTr} {a1:Y8} {a2:Int}:FO (F_q1i a0 a1 a2) 60 [(TTr.d a0),(AV.d (DV.str a1)),(vi a2)] [] vi NL:=fO (s:=S_q1i a0 a1 a2) Tryz.func60
theorem zpq:LeV (AV.d (DV.agg [(DV.str ([])),(DV.i .i64 0),(DV.i .i64 0),Z0,Z0,Z0,Z0])) (TPo.d (⟨[],0,0,[],[],[],[]⟩:TPo)):=z2p rfl (DLe.agg (DLeL.cons (DLe.refl _) (DLeL.cons (DLe.refl _) (DLeL.cons (DLe.refl _) (DLeL.cons DLe.sl0 (DLeL.cons DLe.sl0 (DLeL.cons DLe.sl0 (DLeL.cons DLe.sl0 DLeL.nil))))))))
def S_q3m (a0:TTr) (a1:Y8) (a2:Int):SC (TPo×Bool) (TPo×Bool) :=
 let e0_:=(⟨[],0,0,[],[],[],[]⟩:TPo)
.reg 0 [] [(1,{ obs:=[(1,(TPo.b e0_))] })] [.pf cz4]<|
.a 1 3 2 (@F_q1i_ok a0 a1 a2) fun rv1=>
.ite (decide (rv1>=0)) (
.guard [(0:Int)<=rv1,(rv1).toNat<a0.B.length]<|
.reg 3 [] [] [.ev 0,.ev 1]<|
.r ((a0.B.getD ((rv1).toNat) dF),true)) (
.reg 4 [] [(0,hv (TPo.d e0_))] [.pf zpq]<|
.r (e0_,false))
def F_q3m (a0:TTr) (a1:Y8) (a2:Int):=(S_q3m a0 a1 a2).den
theorem F_q3m_ok {a0:TTr} {a1:Y8} {a2:Int}:FO (F_q3m a0 a1 a2) 27 [(TTr.d a0),(AV.d (DV.str a1)),(vi a2)] [] (fun x=>(AV.tup [(TPo.d x.1),(vb x.2)])) NL:=fO (s:=S_q3m a0 a1 a2) Tryz.func27
def S_q52 (a0:TWo) (a2:TMe) (p0:(List TOf)):SC Bool Bool :=
.call (@F_q3m_ok a0.F a2.D a2.E) fun rv1 cv1=>
.reg 1 [] [(6,hc cv1 [] true),(10,{ obs:=[(3,(TPo.b (⟨[],0,0,[],[],[],[]⟩:TPo)))] })] [.cl 0 cv1 [] 3 true,.pf cz4]<|
.ite (!rv1.2) (
.r false) (
.ite (a2.Aa==0) (
.ite (cO (cO (cO (decide (a2.To<1)) (decide (a2.To>(p0.length:Int)))) (a2.M != 0)) (a2.P != 0)) (
.r false) (
 let e1_:=(i64.wrap (a2.To-1))
 let e4_:=(decide (a2.A>=0))
 let e0_:=(bif (bif e4_ then (decide (a2.A<=(rv1.1.A.getD ((e1_).toNat) dF))) else false) then (decide (a2.K>=0)) else false)
.guard [AllP [e4_=true]->((0:Int)<=e1_),AllP [e4_=true]->((e1_).toNat<rv1.1.A.length),AllP [e0_=true]->((0:Int)<=e1_),AllP [e0_=true]->((e1_).toNat<rv1.1.K.length)]<|
.reg 7 [] [] [.ev 0,.ev 1,.ev 2,.ev 3]<|
.r (bif e0_ then (decide (a2.K<=(rv1.1.K.getD ((e1_).toNat) dF))) else false))) (
.ite (cO (cO (cO (cO (cO (cO (a2.To != 0) (decide (a2.Aa<1))) (decide (a2.Aa>(p0.length:Int)))) (a2.A != 0)) (a2.K != 0)) (decide (a2.P<0))) (decide (a2.P>1000000000000000))) (
.r false) (
 let e2_:=(decide (a2.M>=0))
 let e3_:=(i64.wrap (a2.Aa-1))
.calld [e2_=true] dF (@F_q1z_ok (p0.getD (0+(e3_).toNat) dF) a2.D a2.E) fun rv2 cv2 =>
.guard [AllP [e2_=true]->((0:Int)<=e3_),AllP [e2_=true]->((e3_).toNat<p0.length),AllP [e2_=true]->((0+(e3_).toNat)<p0.length)]<|
.reg 10 [] [(16,hc cv2 [] true)] [.pf (p:=AllP [e2_=true]->(p0.length=p0.length)) (fun _=>rfl),.ev 0,.ev 1,.pf (p:=AllP [e2_=true]->(p0.length=p0.length)) (fun _=>rfl),.ev 2,.clg 3 [e2_=true] cv2 [] 4 true]<|
.r (bif e2_ then (decide (a2.M<=rv2.M)) else false))))
def F_q52 (a0:TWo) (a2:TMe) (p0:(List TOf)):=(S_q52 a0 a2 p0).den
theorem F_q52_ok {a0:TWo} {a2:TMe} {p0:(List TOf)}:FO (F_q52 a0 a2 p0) 48 [(TWo.d a0),(AV.ref 0 p0.length 0 p0.length),(TMe.d a2)] [(eS 6 TOf.e p0)] vb (fun _=>[(eS 6 TOf.e p0)]):=fO (s:=S_q52 a0 a2 p0) Tryz.func48
theorem z3m:OLe (bx (DV.agg [(DV.i .i64 0),Z0,(DV.i .i64 0)])) (TJo.b (⟨0,[],0⟩:TJo)):=z50 (DLe.agg (DLeL.cons (DLe.refl _) (DLeL.cons DLe.sl0 (DLeL.cons (DLe.refl _) DLeL.nil))))
def S_q1_b1 (a0:TWo) (iv1:Nat) (rv2:R_qt) (iv3:Nat) (_:Unit):SC Bool (Step (Unit) Bool) :=
.reg 15 [] [] [.w iv3,.ev 0]<|
 let e1_:=(rv2.1.J.getD iv3 dF)
.call (@F_q3m_ok a0.F (e1_.D) (e1_.E)) fun rv4 cv4=>
.reg 16 [] [(6,hc cv4 [] true),(10,{ obs:=[(6,(TPo.b (⟨[],0,0,[],[],[],[]⟩:TPo)))] })] [.cl 0 cv4 [] 6 true,.pf cz4]<|
 let e0_:=(cO (!rv4.2) (decide ((e1_.A)>(rv4.1.A.getD iv1 dF))))
.guard [AllP [(!rv4.2)=false]->(iv1<rv4.1.A.length),AllP [e0_=false]->(iv1<rv4.1.K.length)]<|
.reg 17 [] [] [.pf (p:=AllP [(!rv4.2)=false]->((0:Int)<=(iv1:Int))) (fun _=>(y1w _)),.ev 0,.pf (p:=AllP [e0_=false]->((0:Int)<=(iv1:Int))) (fun _=>(y1w _)),.ev 1]<|
.ite (cO e0_ (decide ((e1_.K)>(rv4.1.K.getD iv1 dF)))) (
.r (.ret false)) (
.r (.cont ()))
def S_q1_b2 (a0:TWo) (iv1:Nat) (rv2:R_qt) (iv5:Nat) (_:Unit):SC Bool (Step (Unit) Bool) :=
.reg 22 [] [(2,{ obs:=[(5,(TPo.b (⟨[],0,0,[],[],[],[]⟩:TPo)))] })] [.w iv5,.ev 0,.pf cz4]<|
 let e0_:=(a0.F.B.getD iv5 dF)
.call (@F_q1z_ok rv2.2.1 (e0_.D) (e0_.E)) fun rv6 cv6=>
.guard [iv1<(e0_.L).length]<|
.reg 23 [] [(10,hc cv6 [] true)] [.w iv1,.ev 0,.cl 1 cv6 [] 6 true]<|
.ite (decide (((e0_.L).getD iv1 dF)>rv6.M)) (
.r (.ret false)) (
.r (.cont ()))
def S_q1_b3 (a0:TWo) (iv1:Nat) (sv7:(List TOf)):SC Bool (Step ((List TOf)) Bool) :=
.reg 6 [] [(3,{ obs:=[(2,(TJo.b (⟨0,[],0⟩:TJo)))] })] [.w iv1,.ev 0,.pf z3m]<|
 let e2_:=(a0.H.getD iv1 dF)
.ite ((e2_.Y) != (i64.wrap ((iv1:Int)+1))) (
.r (.ret false)) (
.call (@F_qt_ok e2_) fun rv2 cv2=>
 let e1_:=(TOf.b (⟨0,[],(⟨[],[],[],[]⟩:TBo)⟩:TOf))
.reg 9 [] [(1,hc cv2 [] true),(6,{ obs:=[(3,e1_)] }),(7,{ obs:=[(4,e1_)] })] [.cl 0 cv2 [] 3 true,.pf cz5,.pf cz5]<|
.ite (!rv2.2.2) (
.r (.ret false)) (
.guard [(sv7.length+1) * (2 * 128)<=2 ^ 48]<|
 let e0_:=([rv2.2.1]:List TOf)
.reg 12 [] [(2,hv (AV.d (eL TOf.e e0_))),(3,{ h:=.obj,cast:=some (AV.ref 1 ((sv7++e0_).length) 0 ((sv7++e0_).length)),obs:=[(1,(eS 6 TOf.e (sv7++e0_)))] })] [.pf (ze TOf.e e0_),.e sv7.length,.e sv7.length,.pf (p:=∀ k,k<1->(TOf.d (e0_.getD k dF)).wd=6) (fun _ _=>rfl),.ev 0,.pf (z11 (o:=1) (l:=sv7) (x:=e0_)),.pf (z13 (sz:=6) (e:=TOf.e) (l:=sv7) (x:=e0_))]<|
.range (rv2.1.J.length:Int) rv2.1.J.length rfl (.slot 62) 64 [1,3,4,7,37,38,39,62,63] (fun (_:Unit)=>[]) (fun _=>[]) () (S_q1_b1 a0 iv1 rv2) (fun _ => 
.range (a0.F.B.length:Int) a0.F.B.length rfl (.slot 103) 105 [1,3,4,7,37,38,39,103,104] (fun (_:Unit)=>[]) (fun _=>[]) () (S_q1_b2 a0 iv1 rv2) (fun _ => 
.r (.cont (sv7++e0_))) .ret) .ret))
def S_q1_b4 (a0:TWo) (sv7:(List TOf)) (iv8:Nat) (_:Unit):SC Bool (Step (Unit) Bool) :=
.reg 29 [] [] [.w iv8,.ev 0]<|
.call (@F_q52_ok a0 (a0.V.getD iv8 dF) sv7) fun rv9 cv9=>
.k 30 3 cv9 [1] 3 true<|
.ite (!rv9) (
.r (.ret false)) (
.r (.cont ()))
def S_q1 (a0:TWo):SC Bool Bool :=
.a 1 2 1 (@F_qw_ok a0.F) fun rv10=>
.ite (cO (cO (!rv10) ((a0.H.length:Int) != a0.F.N)) (decide ((a0.V.length:Int)>200))) (
.r false) (
.reg 4 [] [] []<|
.bor 6 (fun j=>AV.d (TOf.e (([]:List TOf).getD j dF))) [3]<|
.range (a0.H.length:Int) a0.H.length rfl (.slot 37) 39 [1,37,38] (fun (sv7:(List TOf))=>[(3,(AV.ref 1 sv7.length 0 sv7.length))]) (fun sv7=>[(1,(eS 6 TOf.e sv7))]) ([]:List TOf) (S_q1_b3 a0) (fun sv7 => 
.range (a0.V.length:Int) a0.V.length rfl (.slot 125) 127 [1,3,125,126] (fun (_:Unit)=>[]) (fun _=>[]) () (S_q1_b4 a0 sv7) (fun _ => 
.r true) id) id)
def F_q1 (a0:TWo):=(S_q1 a0).den
theorem F_q1_ok {a0:TWo}:FO (F_q1 a0) 19 [(TWo.d a0)] [] vb NL:=fO (s:=S_q1 a0) Tryz.func19
def S_q3n (a0:TWo) (a1:Int):SC Bool Bool :=
.r (bif (decide (a1>=1)) then (decide (a1<=(a0.H.length:Int))) else false)
def F_q3n (a0:TWo) (a1:Int):=(S_q3n a0 a1).den
theorem F_q3n_ok {a0:TWo} {a1:Int}:FO (F_q3n a0 a1) 32 [(TWo.d a0),(vi a1)] [] vb NL:=fO (s:=S_q3n a0 a1) Tryz.func32
def S_q3o (a0:TJo):SC (TOf×Int) (TOf×Int) :=
 let e0_:=(⟨0,[],(⟨[],[],[],[]⟩:TBo)⟩:TOf)
 let e1_:=(TOf.b e0_)
.reg 0 [] [(1,{ obs:=[(1,e1_)] })] [.pf cz5]<|
.call (@F_qt_ok a0) fun rv1 cv1=>
.reg 1 [] [(1,hc cv1 [] true),(6,{ obs:=[(2,e1_)] }),(7,{ obs:=[(3,e1_)] })] [.cl 0 cv1 [] 2 true,.pf cz5,.pf cz5]<|
.ite (!rv1.2.2) (
.reg 3 [] [(0,hv (TOf.d e0_))] [.pf cz6]<|
.r (e0_,1)) (
.r (rv1.1,0))
def F_q3o (a0:TJo):=(S_q3o a0).den
theorem F_q3o_ok {a0:TJo}:FO (F_q3o a0) 33 [(TJo.d a0)] [] (fun x=>(AV.tup [(TOf.d x.1),(vi x.2)])) NL:=fO (s:=S_q3o a0) Tryz.func33
def S_q3p (a0:TWo) (a1:Int):SC (TOf×Int) (TOf×Int) :=
 let e0_:=(⟨0,[],(⟨[],[],[],[]⟩:TBo)⟩:TOf)
.reg 0 [] [(1,{ obs:=[(1,(TOf.b e0_))] })] [.pf cz5]<|
.a 1 1 2 (@F_q1_ok a0) fun rv1=>
 let e2_:=(0,hv (TOf.d e0_))
.ite (!rv1) (
.reg 2 [] [e2_] [.pf cz6]<|
.r (e0_,1)) (
.a 3 2 2 (@F_q3n_ok a0 a1) fun rv2=>
.ite (!rv2) (
.reg 4 [] [e2_] [.pf cz6]<|
.r (e0_,6)) (
 let e1_:=(i64.wrap (a1-1))
.call (@F_q3o_ok (a0.H.getD ((e1_).toNat) dF)) fun rv3 cv3=>
.guard [(0:Int)<=e1_,(e1_).toNat<a0.H.length]<|
.reg 5 [] [(6,hc cv3 [] true)] [.ev 0,.ev 1,.cl 2 cv3 [] 2 true]<|
.r (rv3.1,rv3.2)))
def F_q3p (a0:TWo) (a1:Int):=(S_q3p a0 a1).den
theorem F_q3p_ok {a0:TWo} {a1:Int}:FO (F_q3p a0 a1) 13 [(TWo.d a0),(vi a1)] [] (fun x=>(AV.tup [(TOf.d x.1),(vi x.2)])) NL:=fO (s:=S_q3p a0 a1) Tryz.func13
abbrev R_q30:=Y8×TTape
def S_q30 (p0:TTape):SC R_q30 R_q30 :=
.call (@F_q4_ok 3 p0) fun rv1 cv1=>
.guard [(0:Int)<=rv1.1,(rv1.1).toNat<3]<|
.reg 1 [] [(0,hv (AV.d (eL DV.str ([[49],[49,46,50],[50]]:List Y8)))),(2,hc cv1 [0] false)] [.pf (ze DV.str ([[49],[49,46,50],[50]]:List Y8)),.cl 2 cv1 [0] 1 false,.ev 0,.ev 1]<|
.r ((([[49],[49,46,50],[50]]:List Y8).getD ((rv1.1).toNat) dF),rv1.2)
def F_q30 (p0:TTape):=(S_q30 p0).den
theorem F_q30_ok {p0:TTape}:FO (F_q30 p0) 162 [(vp 0)] [(TTape.b p0)] (fun x=>(AV.d (DV.str x.1))) (fun x=>[(TTape.b x.2)]):=fO (s:=S_q30 p0) Tryz.func162
abbrev R_q31:=TOp×TTape
def S_q31 (a1:TOf) (a2:Int) (p0:TTape):SC R_q31 R_q31 :=
.call (@F_qu_ok ([1,1,1,2,2,2,3,3,3,4,4,5,6,7,8,8,9]:List Int) p0) fun rv1 cv1=>
.call (@F_q30_ok rv1.2) fun rv2 cv2=>
.call (@F_qr_ok 1 120 rv2.2) fun rv3 cv3=>
 let e2_:=([10,50,rv3.1]:List Int)
.call (@F_qu_ok e2_ rv3.2) fun rv4 cv4=>
.reg 1 [] [(1,hv (vl ([1,1,1,2,2,2,3,3,3,4,4,5,6,7,8,8,9]:List Int))),(2,hc cv1 [0] false),(4,hc cv2 [0] false),(10,hc cv3 [0] false),(11,hv (vl e2_)),(12,hc cv4 [0] false)] [.pf (ze (DV.i .i64) ([1,1,1,2,2,2,3,3,3,4,4,5,6,7,8,8,9]:List Int)),.cl 3 cv1 [0] 3 false,.cl 2 cv2 [0] 3 false,.pf (p:=(360:Int)≠0) dk,.cl 1 cv3 [0] 3 false,.pf (ze (DV.i .i64) e2_),.cl 0 cv4 [0] 3 false]<|
.cut (some 0) [0,2,6,7] (fun (_:TTape×TOp)=>[]) (fun sv5=>[(0,(TTape.b sv5.1)),(3,(TOp.b sv5.2))]) (
.cut none [0,2,4,6,7,23] (fun (sv6:Bool)=>[(24,(vb sv6))]) (fun _=>[]) (
.ite (rv1.1==2) (
.r (.next (rv1.1==2))) (
.r (.next (rv1.1==5)))) fun sv6=>
 let e0_:=(i64.wrap (a2.tdiv 360))
.ite sv6 (
.call (@F_qr_ok 1 (if (a1.Ae.C.length:Int)>1 then (a1.Ae.C.length:Int) else 1) rv4.2) fun rv7 cv7=>
.k 5 6 cv7 [0] 4 false<|
.r (.next (rv7.2,(⟨rv1.1,rv2.1,e0_,a2,rv7.1,rv4.1,0,0,0,0⟩:TOp)))) (
.cut none [0,2,4,6,7,23] (fun (sv8:Bool)=>[(35,(vb sv8))]) (fun _=>[]) (
.ite (rv1.1==3) (
.r (.next (rv1.1==3))) (
.r (.next (rv1.1==6)))) fun sv8=>
.ite sv8 (
.call (@F_qr_ok 1 (if (a1.Ae.G.length:Int)>1 then (a1.Ae.G.length:Int) else 1) rv4.2) fun rv9 cv9=>
.k 8 6 cv9 [0] 4 false<|
.r (.next (rv9.2,(⟨rv1.1,rv2.1,e0_,a2,rv9.1,rv4.1,0,0,0,0⟩:TOp)))) (
.cut none [0,2,4,6,7,23] (fun (sv10:Bool)=>[(46,(vb sv10))]) (fun _=>[]) (
.ite (rv1.1==4) (
.r (.next (rv1.1==4))) (
.r (.next (rv1.1==9)))) fun sv10=>
.ite sv10 (
.call (@F_qr_ok 1 (if (a1.Ae.I.length:Int)>1 then (a1.Ae.I.length:Int) else 1) rv4.2) fun rv11 cv11=>
.k 11 6 cv11 [0] 4 false<|
.r (.next (rv11.2,(⟨rv1.1,rv2.1,e0_,a2,rv11.1,rv4.1,0,0,0,0⟩:TOp)))) (
.ite (rv1.1==8) (
.call (@F_q4_ok 1000 rv4.2) fun rv12 cv12=>
 let e1_:=([100,400,rv12.1]:List Int)
.call (@F_qu_ok e1_ rv12.2) fun rv13 cv13=>
.call (@F_q4_ok 200 rv13.2) fun rv14 cv14=>
 let e3_:=([0,0,rv14.1]:List Int)
.call (@F_qu_ok e3_ rv14.2) fun rv15 cv15=>
.reg 13 [] [(2,hc cv12 [0] false),(3,hv (vl e1_)),(4,hc cv13 [0] false),(7,hc cv14 [0] false),(8,hv (vl e3_)),(9,hc cv15 [0] false)] [.cl 3 cv12 [0] 4 false,.pf (ze (DV.i .i64) e1_),.cl 2 cv13 [0] 4 false,.cl 1 cv14 [0] 4 false,.pf (ze (DV.i .i64) e3_),.cl 0 cv15 [0] 4 false]<|
.r (.next (rv15.2,(⟨rv1.1,rv2.1,e0_,a2,0,rv4.1,0,0,rv13.1,rv15.1⟩:TOp)))) (
.r (.next (rv4.2,(⟨rv1.1,rv2.1,e0_,a2,0,rv4.1,0,0,0,0⟩:TOp)))))))) fun sv5=>
.cut none [6,7] (fun (_:TTape×TOp)=>[]) (fun sv16=>[(0,(TTape.b sv16.1)),(3,(TOp.b sv16.2))]) (
.ite (sv5.2.Q==2) (
.call (@F_qr_ok 1 4 sv5.1) fun rv17 cv17=>
.call (@F_q4_ok 60 rv17.2) fun rv18 cv18=>
.reg 15 [] [(1,hc cv17 [0] false),(4,hc cv18 [0] false)] [.cl 1 cv17 [0] 4 false,.cl 0 cv18 [0] 4 false]<|
.r (.next (rv18.2,(⟨sv5.2.Q,sv5.2.D,sv5.2.E,sv5.2.Z,sv5.2.Of,sv5.2.S,rv17.1,(i64.wrap (a2+rv18.1)),sv5.2.A,sv5.2.Af⟩:TOp)))) (
.r (.next (sv5.1,sv5.2)))) fun sv16=>
.r (sv16.2,sv16.1)
def F_q31 (a1:TOf) (a2:Int) (p0:TTape):=(S_q31 a1 a2 p0).den
theorem F_q31_ok {a1:TOf} {a2:Int} {p0:TTape}:FO (F_q31 a1 a2 p0) 120 [(vp 0),(TOf.d a1),(vi a2)] [(TTape.b p0)] (fun x=>(TOp.d x.1)) (fun x=>[(TTape.b x.2)]):=fO (s:=S_q31 a1 a2 p0) Tryz.func120
def S_q53 (a1:TOf) (a2:Int) (p0:TTape):SC (TOp×TTape) (TOp×TTape) :=
.call (@F_q31_ok a1 a2 p0) fun rv1 cv1=>
.k 1 3 cv1 [0] 3 false<|
.cut (some 0) [6,8] (fun (_:TOp)=>[]) (fun sv2=>[(4,(TOp.b sv2))]) (
.ite (rv1.1.Q==1) (
.reg 6 [9,11,13,15] [] []<|
.r (.next (⟨rv1.1.Q,rv1.1.D,rv1.1.E,rv1.1.Z,0,rv1.1.S,0,0,0,0⟩:TOp))) (
.ite (rv1.1.Q==2) (
.reg 8 [11,13,15,17,19] [] []<|
.r (.next (⟨rv1.1.Q,[],0,rv1.1.Z,rv1.1.Of,rv1.1.S,rv1.1.Ah,rv1.1.Aj,0,0⟩:TOp))) (
.ite (rv1.1.Q==3) (
.reg 10 [7,9,11] [] []<|
.r (.next (⟨rv1.1.Q,[],0,rv1.1.Z,rv1.1.Of,rv1.1.S,0,0,0,0⟩:TOp))) (
.ite (rv1.1.Q==4) (
.reg 12 [5,7] [] []<|
.r (.next (⟨rv1.1.Q,[],0,rv1.1.Z,rv1.1.Of,0,0,0,0,0⟩:TOp))) (
.cut none [6,7,8,17] (fun (sv3:Bool)=>[(71,(vb sv3))]) (fun _=>[]) (
.ite (rv1.1.Q==5) (
.r (.next (rv1.1.Q==5))) (
.r (.next (rv1.1.Q==6)))) fun sv3=>
.ite sv3 (
.reg 15 [5,7] [] []<|
.r (.next (⟨rv1.1.Q,[],0,0,rv1.1.Of,rv1.1.S,0,0,0,0⟩:TOp))) (
.ite (rv1.1.Q==7) (
.reg 17 [7,9,11] [] []<|
.r (.next (⟨rv1.1.Q,rv1.1.D,rv1.1.E,0,0,rv1.1.S,0,0,0,0⟩:TOp))) (
.ite (rv1.1.Q==8) (
.reg 19 [9,11,13,15] [] []<|
.r (.next (⟨rv1.1.Q,rv1.1.D,rv1.1.E,0,0,0,0,0,rv1.1.A,rv1.1.Af⟩:TOp))) (
.r (.next (⟨rv1.1.Q,[],0,0,rv1.1.Of,0,0,0,0,0⟩:TOp)))))))))) fun sv2=>
.r (sv2,rv1.2)
def F_q53 (a1:TOf) (a2:Int) (p0:TTape):=(S_q53 a1 a2 p0).den
theorem F_q53_ok {a1:TOf} {a2:Int} {p0:TTape}:FO (F_q53 a1 a2 p0) 73 [(vp 0),(TOf.d a1),(vi a2)] [(TTape.b p0)] (fun x=>(TOp.d x.1)) (fun x=>[(TTape.b x.2)]):=fO (s:=S_q53 a1 a2 p0) Tryz.func73
def S_q54 (a0:TRi) (a1:Int):SC Int Int :=
.a 1 1 1 (@F_q2z_ok a0) fun rv1=>
 let e1_:=(i64.wrap (a0.A-a0.M))
.ite (cO (cO (!rv1) (decide (a1<0))) (decide (a1>e1_))) (
.r 0) (
 let e2_:=(i64.wrap (a0.K-a0.M))
 let e3_:=(i64.wrap (e1_-a1))
 let e0_:=(if e3_<e2_ then e3_ else e2_)
.r (if e0_>0 then e0_ else 0))
def F_q54 (a0:TRi) (a1:Int):=(S_q54 a0 a1).den
theorem F_q54_ok {a0:TRi} {a1:Int}:FO (F_q54 a0 a1) 51 [(TRi.d a0),(vi a1)] [] vi NL:=fO (s:=S_q54 a0 a1) Tryz.func51
def S_q45 (a0:TOf) (a1:Y8) (a2:Int):SC (TOp×Bool) (TOp×Bool) :=
.a 1 1 2 (@F_q9_ok a0) fun rv1=>
 let e0_:=(⟨0,[],0,0,0,0,0,0,0,0⟩:TOp)
.ite (!rv1) (
.r (e0_,false)) (
.call (@F_q1z_ok a0 a1 a2) fun rv2 cv2=>
.call (@F_qf_ok a0.Ae a1 a2) fun rv3 cv3=>
.call (@F_q54_ok rv2 rv3) fun rv4 cv4=>
.reg 3 [] [(3,hc cv2 [] true),(8,hc cv3 [] true),(9,hc cv4 [] true)] [.cl 2 cv2 [] 2 true,.cl 1 cv3 [] 2 true,.cl 0 cv4 [] 2 true]<|
.ite (rv4==0) (
.r (e0_,false)) (
.r ((⟨7,a1,a2,0,0,rv4,0,0,0,0⟩:TOp),true)))
def F_q45 (a0:TOf) (a1:Y8) (a2:Int):=(S_q45 a0 a1 a2).den
theorem F_q45_ok {a0:TOf} {a1:Y8} {a2:Int}:FO (F_q45 a0 a1 a2) 22 [(TOf.d a0),(AV.d (DV.str a1)),(vi a2)] [] (fun x=>(AV.tup [(TOp.d x.1),(vb x.2)])) NL:=fO (s:=S_q45 a0 a1 a2) Tryz.func22
abbrev R_q32:=TSt×TTape
def S_q32 (a1:TWo) (a2:Int) (a3:Int) (a4:Int) (p0:TTape):SC R_q32 R_q32 :=
.reg 0 [] [] []<|
 let e3_:=(DV.i .i64 0)
 let e0_:=(bx (DV.agg [e3_,e3_,(DV.agg [e3_,(DV.str ([])),e3_,e3_,e3_,e3_,e3_,e3_,e3_,e3_]),(DV.str ([])),e3_,e3_,e3_]))
 let e4_:=[(0,(vp 0)),(2,(vi a2)),(3,(vi a3)),(4,(vi a4)),(6,(vp 1)),(10,(vp 2))]
 let e7_:=(TWo.b a1)
.sh (H:=NoH) (A:=True) (.pf trivial) e4_ e4_ [(TTape.b p0),e7_,e0_] [(TTape.b p0),e7_,e0_,Ob.unb] (fun _=>zms) (z2a _)<|
.call (@F_qu_ok ([1,2,2,4,4,5,5,5,5,6,7,8,8,9,9,9,9,10,11,3]:List Int) p0) fun rv1 cv1=>
.call (@F_qr_ok 1 a2 rv1.2) fun rv2 cv2=>
.call (@F_q4_ok 2 rv2.2) fun rv3 cv3=>
.call (@F_qr_ok 1 200 rv3.2) fun rv4 cv4=>
.call (@F_q4_ok (if (a1.V.length:Int)>1 then (a1.V.length:Int) else 1) rv4.2) fun rv5 cv5=>
.guard [(0:Int)<=rv3.1,(rv3.1).toNat<2]<|
 let e1_:=(ze DV.str ([[49],[50]]:List Y8))
 let e5_:=(ze (DV.i .i64) ([1,2,2,4,4,5,5,5,5,6,7,8,8,9,9,9,9,10,11,3]:List Int))
.reg 1 [2,5,8,12,18,20,21] [(1,hv (vl ([1,2,2,4,4,5,5,5,5,6,7,8,8,9,9,9,9,10,11,3]:List Int))),(2,hc cv1 [0] false),(5,hc cv2 [0] false),(6,hv (AV.d (eL DV.str ([[49],[50]]:List Y8)))),(8,hc cv3 [0] false),(12,hc cv4 [0] false),(18,hc cv5 [0] false),(20,{ h:=.born 3 false })] [.pf e5_,.pf e5_,.cl 6 cv1 [0] 4 false,.cl 6 cv1 [0] 4 false,.cl 5 cv2 [0] 4 false,.cl 5 cv2 [0] 4 false,.pf e1_,.pf e1_,.pf e1_,.pf e1_,.pf e1_,.pf e1_,.pf e1_,.pf e1_,.pf e1_,.pf e1_,.pf e1_,.pf e1_,.cl 4 cv3 [0] 4 false,.cl 4 cv3 [0] 4 false,.ev 0,.ev 1,.ev 0,.ev 1,.ev 0,.ev 1,.ev 0,.ev 1,.ev 0,.ev 1,.ev 0,.ev 1,.cl 3 cv4 [0] 4 false,.cl 3 cv4 [0] 4 false,.cl 2 cv5 [0] 4 false,.cl 2 cv5 [0] 4 false]<|
.cut none [0,3,4,6,10,11] (fun (_:TSt)=>[]) (fun sv6=>[(3,(TSt.b sv6))]) (
 let e8_:=(⟨0,[],0,0,0,0,0,0,0,0⟩:TOp)
.ite (decide (a3<3)) (
.guard [(0:Int)<=a3,(a3).toNat<3]<|
.reg 3 [] [(0,hv (vl ([1,2,4]:List Int)))] [.pf (ze (DV.i .i64) ([1,2,4]:List Int)),.ev 0,.ev 1]<|
.r (.next (⟨(([1,2,4]:List Int).getD ((a3).toNat) dF),1,e8_,[49],12,rv4.1,rv5.1⟩:TSt))) (
.r (.next (⟨rv1.1,rv2.1,e8_,(([[49],[50]]:List Y8).getD ((rv3.1).toNat) dF),12,rv4.1,rv5.1⟩:TSt)))) fun sv6=>
.cut none [0,4,6,10,11] (fun (_:TSt)=>[]) (fun sv7=>[(3,(TSt.b sv7))]) (
.ite (a3==3) (
.r (.next (⟨9,sv6.Y,sv6.Op,sv6.D,sv6.E,sv6.S,0⟩:TSt))) (
.r (.next sv6))) fun sv7=>
.cut none [0,4,6,10,11] (fun (_:TTape×TSt)=>[]) (fun sv8=>[(0,(TTape.b sv8.1)),(3,(TSt.b sv8.2))]) (
.ite (sv7.Q==1) (
.call (@F_q4_ok 900 rv5.2) fun rv9 cv9=>
 let e6_:=([300,rv9.1,50]:List Int)
.call (@F_qu_ok e6_ rv9.2) fun rv10 cv10=>
.reg 7 [] [(2,hc cv9 [0] false),(3,hv (vl e6_)),(4,hc cv10 [0] false)] [.cl 1 cv9 [0] 4 false,.pf (ze (DV.i .i64) e6_),.cl 0 cv10 [0] 4 false]<|
.r (.next (rv10.2,(⟨sv7.Q,sv7.Y,sv7.Op,sv7.D,sv7.E,rv10.1,sv7.Ai⟩:TSt)))) (
.r (.next (rv5.2,sv7)))) fun sv8=>
.cut none [10,11] (fun (_:TTape×TSt)=>[]) (fun sv11=>[(0,(TTape.b sv11.1)),(3,(TSt.b sv11.2))]) (
.ite (sv8.2.Q==5) (
.call (@F_q3p_ok a1 sv8.2.Y) fun rv12 cv12=>
.reg 9 [] [(3,hc cv12 [] true),(7,{ obs:=[(4,(TOf.b (⟨0,[],(⟨[],[],[],[]⟩:TBo)⟩:TOf)))] })] [.cl 0 cv12 [] 4 true,.pf cz5]<|
.cut none [0,4,10,11,12] (fun (_:TOf)=>[]) (fun sv13=>[(4,(TOf.b sv13))]) (
.ite (rv12.2 != 0) (
.a 11 2 5 (@F_q3j_ok sv8.2.Y) fun rv14=>
.r (.next rv14.1)) (
.r (.next rv12.1))) fun sv13=>
.call (@F_q53_ok sv13 a4 sv8.1) fun rv15 cv15=>
.k 12 3 cv15 [0] 5 false<|
.a 13 5 5 (@F_q45_ok sv13 sv8.2.D sv8.2.E) fun rv16=>
.calld [rv16.2=true] (dF,rv15.2) (@F_q4_ok 3 rv15.2) fun rv17 cv17 =>
 let e2_:=(bx (DV.agg [(DV.i .i64 sv8.2.Q),(DV.i .i64 sv8.2.Y),(TOp.e rv15.1),(DV.str sv8.2.D),(DV.i .i64 sv8.2.E),(DV.i .i64 sv8.2.S),(DV.i .i64 sv8.2.Ai)]))
.reg 14 [] [(3,hc cv17 [0] false)] [.clg 0 [rv16.2=true] cv17 [0] 6 false,.der (fun (h:¬ AllP [rv16.2=true]->(dF,rv15.2)=rv17) (hn:¬ AllP [rv16.2=true])=>(by obtain rfl:=h hn; rfl:[(TTape.b rv15.2),e7_,e0_,e2_,(TOf.b sv13),(TOp.b rv16.1)]=[(TTape.b rv17.2),e7_,e0_,e2_,(TOf.b sv13),(TOp.b rv16.1)])) 1]<|
.ite (bif rv16.2 then (rv17.1==0) else false) (
.r (.next (rv17.2,(⟨sv8.2.Q,sv8.2.Y,rv16.1,sv8.2.D,sv8.2.E,sv8.2.S,sv8.2.Ai⟩:TSt)))) (
.r (.next (rv17.2,(⟨sv8.2.Q,sv8.2.Y,rv15.1,sv8.2.D,sv8.2.E,sv8.2.S,sv8.2.Ai⟩:TSt))))) (
.r (.next (sv8.1,sv8.2)))) fun sv11=>
.r (sv11.2,sv11.1)
def F_q32 (a1:TWo) (a2:Int) (a3:Int) (a4:Int) (p0:TTape):=(S_q32 a1 a2 a3 a4 p0).den
theorem F_q32_ok {a1:TWo} {a2:Int} {a3:Int} {a4:Int} {p0:TTape}:FO (F_q32 a1 a2 a3 a4 p0) 38 [(vp 0),(TWo.d a1),(vi a2),(vi a3),(vi a4)] [(TTape.b p0)] (fun x=>(TSt.d x.1)) (fun x=>[(TTape.b x.2)]):=fO (s:=S_q32 a1 a2 a3 a4 p0) Tryz.func38
theorem zhf:∀ k,k<0->(DV.b false).wd=1:=fun _ h=>absurd h (y2i _)
theorem z2b:OLe (bx (DV.agg [(DV.i .i64 0),Z0])) (TTr.b (⟨0,[]⟩:TTr)):=z50 (DLe.agg (DLeL.cons (DLe.refl _) (DLeL.cons DLe.sl0 DLeL.nil)))
abbrev R_q22:=Int×(List TPo)
def S_q22_b1 (a0:TTr) (iv1:Nat) (sv2:Int×(List TPo)):SC R_q22 (Step (Int×(List TPo)) R_q22) :=
.reg 4 [] [(2,{ obs:=[(4,(TPo.b (⟨[],0,0,[],[],[],[]⟩:TPo)))] })] [.w iv1,.ev 0,.pf cz4]<|
 let e0_:=(a0.B.getD iv1 dF)
.guard [(0+(e0_.A).length) * (2 * 8)<=2 ^ 48]<|
.reg 5 [] [(3,hv (vl (e0_.A)))] [.pf (p:=∀ k,k<(e0_.A).length->AV.d ((DV.i .i64) ((e0_.A).getD k dF))=AV.d ((DV.i .i64) ((e0_.A).getD k dF))/\((DV.i .i64) ((e0_.A).getD k dF)).wd=1) (fun _ _=>⟨rfl,rfl⟩),.pf zhf,.ev 0,.pf (z3q (e:=(DV.i .i64)) (x:=(e0_.A)))]<|
.guard [(0+(e0_.L).length) * (2 * 8)<=2 ^ 48]<|
.reg 6 [] [(3,hv (vl (e0_.L)))] [.pf (p:=∀ k,k<(e0_.L).length->AV.d ((DV.i .i64) ((e0_.L).getD k dF))=AV.d ((DV.i .i64) ((e0_.L).getD k dF))/\((DV.i .i64) ((e0_.L).getD k dF)).wd=1) (fun _ _=>⟨rfl,rfl⟩),.pf zhf,.ev 0,.pf (z3q (e:=(DV.i .i64)) (x:=(e0_.L)))]<|
.guard [(0+(e0_.K).length) * (2 * 8)<=2 ^ 48]<|
.reg 7 [] [(3,hv (vl (e0_.K)))] [.pf (p:=∀ k,k<(e0_.K).length->AV.d ((DV.i .i64) ((e0_.K).getD k dF))=AV.d ((DV.i .i64) ((e0_.K).getD k dF))/\((DV.i .i64) ((e0_.K).getD k dF)).wd=1) (fun _ _=>⟨rfl,rfl⟩),.pf zhf,.ev 0,.pf (z3q (e:=(DV.i .i64)) (x:=(e0_.K)))]<|
.guard [(0+(e0_.P).length) * (2 * 8)<=2 ^ 48]<|
.reg 8 [] [(3,hv (vl (e0_.P)))] [.pf (p:=∀ k,k<(e0_.P).length->AV.d ((DV.i .i64) ((e0_.P).getD k dF))=AV.d ((DV.i .i64) ((e0_.P).getD k dF))/\((DV.i .i64) ((e0_.P).getD k dF)).wd=1) (fun _ _=>⟨rfl,rfl⟩),.pf zhf,.ev 0,.pf (z3q (e:=(DV.i .i64)) (x:=(e0_.P)))]<|
.guard [(sv2.2.length+1) * (2 * 128)<=2 ^ 48]<|
 let e1_:=([(⟨e0_.D,e0_.E,e0_.W,e0_.A,e0_.L,e0_.K,e0_.P⟩:TPo)]:List TPo)
.reg 9 [] [(3,hv (AV.d (eL TPo.e e1_))),(4,{ h:=.obj,cast:=some (AV.ref 3 ((sv2.2++e1_).length) 0 ((sv2.2++e1_).length)),obs:=[(3,(eS 7 TPo.e (sv2.2++e1_)))] })] [.pf (ze TPo.e e1_),.e sv2.2.length,.e sv2.2.length,.pf (p:=∀ k,k<1->(TPo.d (e1_.getD k dF)).wd=7) (fun _ _=>rfl),.ev 0,.pf (z11 (o:=3) (l:=sv2.2) (x:=e1_)),.pf (z13 (sz:=7) (e:=TPo.e) (l:=sv2.2) (x:=e1_))]<|
.c (sv2.1,(sv2.2++e1_))
def S_q22 (a0:TTr):SC R_q22 R_q22 :=
 let e0_:=(TTr.b (⟨0,[]⟩:TTr))
.reg 0 [] [(1,{ obs:=[(1,e0_)] })] [.pf z2b]<|
.reg 1 [] [(2,{ h:=.obj }),(3,{ h:=.obj })] []<|
 let e1_:=[(1,(vp 0)),(2,(vp 1)),(3,(vp 2))]
.sh (A:=True) (.pf trivial) e1_ e1_ [(TTr.b a0),e0_,(Ob.box (AV.agg [(vi a0.N),(AV.full 0 fun _=>DV.b false)]))] [(TTr.b a0),e0_,(Ob.box (AV.agg [(vi a0.N),(AV.ref 3 0 0 0)])),(eS 7 TPo.e ([]:List TPo))] (fun _=>(z2f (sz:=7) (f:=fun j=>AV.d (TPo.e (([]:List TPo).getD j dF))) (.keep _ _ _ _ (y16 rfl) (.keep _ _ _ _ (y16 rfl) (.box _ _ _ _ _ (y16 rfl) (TrV.agg (TrL.cons (TrV.keep _) (TrL.cons TrV.born TrL.nil))) (.nil _)))))) (z1d (k:=0) rfl (TrS.keep _) (z1d (k:=1) rfl (TrS.keep _) (z1d (k:=2) rfl (TrS.keep _) z32)))<|
.range (a0.B.length:Int) a0.B.length rfl (.slot 10) 12 [2,3,10,11] (fun (_:Int×(List TPo))=>[]) (fun sv2=>[(2,(Ob.box (AV.agg [(vi sv2.1),(AV.ref 3 sv2.2.length 0 sv2.2.length)]))),(3,(eS 7 TPo.e sv2.2))]) (a0.N,([]:List TPo)) (S_q22_b1 a0) (fun sv2 => 
.reg 11 [] [] []<|
.kill 0<|
.kill 2<|
.r (sv2.1,sv2.2)) id
def F_q22 (a0:TTr):=(S_q22 a0).den
theorem F_q22_ok {a0:TTr}:FO (F_q22 a0) 75 [(TTr.d a0)] [] (fun x=>(AV.agg [(vi x.1),(AV.ref 3 x.2.length 0 x.2.length)])) (fun x=>[Ob.dead,(Ob.box (AV.agg [(vi x.1),(AV.ref 3 x.2.length 0 x.2.length)])),Ob.dead,(eS 7 TPo.e x.2)]):=fO (s:=S_q22 a0) Tryz.func75
end
end Go.Proofs.YtlhikmklpelceaaGreatDoor
/- What the functions compute,and that their calls return it. No condition. -/
namespace Go.Proofs.YtlhikmklpelceaaGreatDoor
open Go Go.TA
open Go.IntKind (i64)
noncomputable section
set_option maxRecDepth 100000
theorem z1j:LeV (AV.d (DV.agg [(DV.i .i64 0),Z0])) (TTr.d (⟨0,[]⟩:TTr)):=z2p rfl (DLe.agg (DLeL.cons (DLe.refl _) (DLeL.cons DLe.sl0 DLeL.nil)))
theorem zux:∀ k,k<1->(TPo.d (([(⟨[],0,0,[],[],[],[]⟩:TPo)]:List TPo).getD k dF)).wd=7:=fun _ _=>rfl
def S_q1j_b1 (a1:Y8) (a2:Int) (rv1:R_q22) (sv2:Int):SC (TTr×Int) (Step (Int) (TTr×Int)) :=
.ite (decide (sv2<(rv1.2.length:Int))) (
 let e3_:=(0+(sv2).toNat)
 let e2_:=(rv1.2.getD e3_ dF)
.call (@F_qv_ok (e2_.D) a1) fun rv3 cv3=>
.guard [(0:Int)<=sv2,(sv2).toNat<rv1.2.length,e3_<rv1.2.length]<|
.reg 17 [] [(7,hc cv3 [] true)] [.e rv1.2.length,.ev 0,.ev 1,.e rv1.2.length,.e rv1.2.length,.ev 2,.cl 3 cv3 [] 8 true]<|
 let e0_:=(decide (rv3>0))
.guard [AllP [(rv3==0)=true,e0_=false]->((0:Int)<=sv2),AllP [(rv3==0)=true,e0_=false]->((sv2).toNat<rv1.2.length),AllP [(rv3==0)=true,e0_=false]->(e3_<rv1.2.length)]<|
 let e1_:=(rv1.2.length=rv1.2.length)
.reg 18 [] [] [.pf (p:=AllP [(rv3==0)=true,e0_=false]->e1_) (fun _=>rfl),.ev 0,.ev 1,.pf (p:=AllP [(rv3==0)=true,e0_=false]->e1_) (fun _=>rfl),.pf (p:=AllP [(rv3==0)=true,e0_=false]->e1_) (fun _=>rfl),.ev 2]<|
.ite (cO e0_ (bif (rv3==0) then (decide ((e2_.E)>a2)) else false)) (
.r (.brk sv2)) (
.r (.cont (i64.wrap (sv2+1))))) (
.r (.brk sv2))
def S_q1j (a0:TTr) (a1:Y8) (a2:Int) (a3:Int):SC (TTr×Int) (TTr×Int) :=
 let e10_:=(TTr.b (⟨0,[]⟩:TTr))
.reg 0 [] [(1,{ obs:=[(1,e10_)] })] [.pf z2b]<|
.a 1 1 2 (@F_qw_ok a0) fun rv4=>
 let e13_:=(TTr.d (⟨0,[]⟩:TTr))
.ite (!rv4) (
.reg 2 [] [(0,hv e13_)] [.pf z1j]<|
.r ((⟨0,[]⟩:TTr),1)) (
.a 3 1 2 (@F_qk_ok a1) fun rv5=>
.ite (!rv5) (
.reg 4 [] [(0,hv e13_)] [.pf z1j]<|
.r ((⟨0,[]⟩:TTr),5)) (
.ite (cO (cO (cO (decide (a2<0)) (decide (a2>99))) (decide (a3<(-1000000000000000)))) (decide (a3>1000000000000000))) (
.reg 6 [] [(0,hv e13_)] [.pf z1j]<|
.r ((⟨0,[]⟩:TTr),2)) (
.call (@F_q22_ok a0) fun rv1 cv1=>
.reg 7 [] [(1,hc cv1 [] false),(2,{ h:=.obj })] [.cl 0 cv1 [] 2 false]<|
.kill 3<|
.a 8 3 7 (@F_q1i_ok a0 a1 a2) fun rv6=>
 let e14_:=[(8,(vp 1)),(10,(vp 6))]
 let e15_:=(TTr.b a0)
.ite (decide (rv6>=0)) (
 let e19_:=(0+(rv6).toNat)
.guard [(0:Int)<=rv6,(rv6).toNat<rv1.2.length,e19_<rv1.2.length]<|
 let e7_:=(rv1.2.getD e19_ dF)
 let e1_:=(⟨e7_.D,e7_.E,a3,e7_.A,e7_.L,e7_.K,e7_.P⟩:TPo)
 let e6_:=(rv1.2.set e19_ e1_)
 let e20_:=(eS 7 TPo.e e6_)
.reg 10 [] [(6,{ obs:=[(5,e20_)] })] [.e rv1.2.length,.ev 0,.ev 1,.e rv1.2.length,.e rv1.2.length,.ev 2,.pf (zu (sz:=7) (e:=TPo.e) (l:=rv1.2) (i:=e19_) (x:=e1_) (fun _=>rfl))]<|
.cst (A:=True) (.pf trivial) e14_ e14_ [e15_,e10_,Ob.dead,Ob.dead,Ob.dead,e20_,(Ob.box (AV.agg [(vi rv1.1),(AV.ref 5 rv1.2.length 0 rv1.2.length)]))] [e15_,e10_,Ob.dead,Ob.dead,Ob.dead,e20_,(Ob.box (AV.agg [(vi rv1.1),(AV.ref 5 (e6_.length) 0 (e6_.length))]))] (fun _=>⟨by simp +zetaDelta only,by simp +zetaDelta only[ya]⟩)<|
.guard [e6_.length<2 ^ 63]<|
.reg 11 [] [] []<|
.frz 5 (.ev 0) none [] [1,6]<|
.r ((⟨rv1.1,e6_⟩:TTr),0)) (
.ite ((a0.B.length:Int)==60) (
.reg 13 [] [(0,hv e13_)] [.pf z1j]<|
.r ((⟨0,[]⟩:TTr),3)) (
.guard [(0:Int)<=a0.N,a0.N * 8<=2 ^ 47]<|
 let e9_:=(⟨[],0,0,[],[],[],[]⟩:TPo)
 let e12_:=(vl (List.replicate a0.N.toNat (0:Int)))
.reg 14 [16,17] [(5,{ h:=.imm,cast:=some e12_ }),(8,{ h:=.imm,cast:=some e12_ }),(11,{ h:=.imm,cast:=some e12_ }),(14,{ h:=.imm,cast:=some e12_ }),(16,{ obs:=[(7,(TPo.b e9_))] })] [.ev 0,.pf (p:=a0.N<=a0.N) (y1d _),.ev 1,.pf (z3r (e:=(DV.i .i64)) (k:=a0.N.toNat) (z:=(0:Int))),.ev 0,.pf (p:=a0.N<=a0.N) (y1d _),.ev 1,.pf (z3r (e:=(DV.i .i64)) (k:=a0.N.toNat) (z:=(0:Int))),.ev 0,.pf (p:=a0.N<=a0.N) (y1d _),.ev 1,.pf (z3r (e:=(DV.i .i64)) (k:=a0.N.toNat) (z:=(0:Int))),.ev 0,.pf (p:=a0.N<=a0.N) (y1d _),.ev 1,.pf (z3r (e:=(DV.i .i64)) (k:=a0.N.toNat) (z:=(0:Int))),.ev 0,.pf (p:=a0.N<=a0.N) (y1d _),.ev 1,.pf (z3r (e:=(DV.i .i64)) (k:=a0.N.toNat) (z:=(0:Int))),.ev 0,.pf (p:=a0.N<=a0.N) (y1d _),.ev 1,.pf (z3r (e:=(DV.i .i64)) (k:=a0.N.toNat) (z:=(0:Int))),.ev 0,.pf (p:=a0.N<=a0.N) (y1d _),.ev 1,.pf (z3r (e:=(DV.i .i64)) (k:=a0.N.toNat) (z:=(0:Int))),.ev 0,.pf (p:=a0.N<=a0.N) (y1d _),.ev 1,.pf (z3r (e:=(DV.i .i64)) (k:=a0.N.toNat) (z:=(0:Int))),.pf cz4]<|
.iter [1,2,8,10,12] (fun (sv2:Int)=>[(13,(vi sv2))]) (fun _=>[]) 0 (S_q1j_b1 a1 a2 rv1) (fun sv2 =>
.guard [(rv1.2.length+1) * (2 * 128)<=2 ^ 48]<|
 let e17_:=([e9_]:List TPo)
 let e0_:=(rv1.2++e17_)
 let e18_:=(AV.ref 5 (e0_.length) 0 (e0_.length))
.reg 20 [] [(2,hv (TPo.d e9_)),(3,hv (AV.d (eL TPo.e e17_))),(4,{ h:=.obj,cast:=some e18_,obs:=[(5,(eS 7 TPo.e e0_))] })] [.pf zpq,.pf (ze TPo.e e17_),.e rv1.2.length,.e rv1.2.length,.pf zux,.ev 0,.pf (z11 (o:=5) (l:=rv1.2) (x:=e17_)),.pf (z13 (sz:=7) (e:=TPo.e) (l:=rv1.2) (x:=e17_))]<|
 let e21_:=(i64.wrap (sv2+1))
 let e3_:=(e21_)
.guard [(0:Int)<=e21_,e3_.toNat<=e0_.length,(0:Int)<=sv2,(sv2).toNat<=e0_.length]<|
 let e5_:=(0+(sv2).toNat)
 let e8_:=(0+e3_.toNat)
.reg 21 [9] [(9,{ obs:=[(5,(eS 7 TPo.e (copyL e0_ e8_ (min (e0_.length-(sv2).toNat) (e0_.length-e3_.toNat)) (fun i=>(e0_.getD (e5_+i) dF)))))] })] [.ev 0,.ev 1,.e (e0_.length),.ev 2,.ev 3,.e (e0_.length),.e (e0_.length),.e (e0_.length),.pf (p:=∀ k,k<(e0_.length-(sv2).toNat)->(TPo.d (e0_.getD (e5_+k) dF)).wd=7) (fun _ _=>rfl),.pf (z9k (sz:=7) (e:=TPo.e) (l:=e0_) (off:=e8_) (k:=(min (e0_.length-(sv2).toNat) (e0_.length-e3_.toNat))) (s:=(fun i=>(e0_.getD (e5_+i) dF))))]<|
 let e11_:=(eL (DV.i .i64) (List.replicate a0.N.toNat (0:Int)))
 let e4_:=(bx (DV.agg [(DV.str a1),(DV.i .i64 a2),(DV.i .i64 a3),e11_,e11_,e11_,e11_]))
 let e16_:=[(8,(vp 1)),(10,(vp 6)),(12,(vp 7)),(13,(vi sv2))]
.cst (A:=True) (.pf trivial) e16_ e16_ [e15_,e10_,Ob.dead,Ob.dead,Ob.dead,(eS 7 TPo.e (copyL e0_ e8_ (min (e0_.length-(sv2).toNat) (e0_.length-e3_.toNat)) (fun i=>(e0_.getD (e5_+i) dF)))),(Ob.box (AV.agg [(vi rv1.1),e18_])),e4_] [e15_,e10_,Ob.dead,Ob.dead,Ob.dead,(eS 7 TPo.e (copyL e0_ e8_ (min (e0_.length-(sv2).toNat) (e0_.length-e3_.toNat)) (fun i=>(e0_.getD (e5_+i) dF)))),(Ob.box (AV.agg [(vi rv1.1),(AV.ref 5 ((copyL e0_ e8_ (min (e0_.length-(sv2).toNat) (e0_.length-e3_.toNat)) (fun i=>(e0_.getD (e5_+i) dF))).length) 0 ((copyL e0_ e8_ (min (e0_.length-(sv2).toNat) (e0_.length-e3_.toNat)) (fun i=>(e0_.getD (e5_+i) dF))).length))])),e4_] (fun _=>⟨by simp +zetaDelta only,by simp +zetaDelta only[zq]⟩)<|
.guard [(sv2).toNat<(copyL e0_ e8_ (min (e0_.length-(sv2).toNat) (e0_.length-e3_.toNat)) (fun i=>(e0_.getD (e5_+i) dF))).length,e5_<(copyL e0_ e8_ (min (e0_.length-(sv2).toNat) (e0_.length-e3_.toNat)) (fun i=>(e0_.getD (e5_+i) dF))).length]<|
 let e2_:=(⟨a1,a2,a3,(List.replicate a0.N.toNat (0:Int)),(List.replicate a0.N.toNat (0:Int)),(List.replicate a0.N.toNat (0:Int)),(List.replicate a0.N.toNat (0:Int))⟩:TPo)
.reg 22 [] [(5,{ obs:=[(5,(eS 7 TPo.e ((copyL e0_ e8_ (min (e0_.length-(sv2).toNat) (e0_.length-e3_.toNat)) (fun i=>(e0_.getD (e5_+i) dF))).set e5_ e2_)))] })] [.pf (y2c ((copyL e0_ e8_ (min (e0_.length-(sv2).toNat) (e0_.length-e3_.toNat)) (fun i=>(e0_.getD (e5_+i) dF))).length)),.ev 4,.ev 0,.pf (y2c ((copyL e0_ e8_ (min (e0_.length-(sv2).toNat) (e0_.length-e3_.toNat)) (fun i=>(e0_.getD (e5_+i) dF))).length)),.ev 1,.pf (zu (sz:=7) (e:=TPo.e) (l:=(copyL e0_ e8_ (min (e0_.length-(sv2).toNat) (e0_.length-e3_.toNat)) (fun i=>(e0_.getD (e5_+i) dF)))) (i:=e5_) (x:=e2_) (fun _=>rfl))]<|
.cst (A:=True) (.pf trivial) e14_ e14_ [e15_,e10_,Ob.dead,Ob.dead,Ob.dead,(eS 7 TPo.e ((copyL e0_ e8_ (min (e0_.length-(sv2).toNat) (e0_.length-e3_.toNat)) (fun i=>(e0_.getD (e5_+i) dF))).set e5_ e2_)),(Ob.box (AV.agg [(vi rv1.1),(AV.ref 5 ((copyL e0_ e8_ (min (e0_.length-(sv2).toNat) (e0_.length-e3_.toNat)) (fun i=>(e0_.getD (e5_+i) dF))).length) 0 ((copyL e0_ e8_ (min (e0_.length-(sv2).toNat) (e0_.length-e3_.toNat)) (fun i=>(e0_.getD (e5_+i) dF))).length))])),e4_] [e15_,e10_,Ob.dead,Ob.dead,Ob.dead,(eS 7 TPo.e ((copyL e0_ e8_ (min (e0_.length-(sv2).toNat) (e0_.length-e3_.toNat)) (fun i=>(e0_.getD (e5_+i) dF))).set e5_ e2_)),(Ob.box (AV.agg [(vi rv1.1),(AV.ref 5 (((copyL e0_ e8_ (min (e0_.length-(sv2).toNat) (e0_.length-e3_.toNat)) (fun i=>(e0_.getD (e5_+i) dF))).set e5_ e2_).length) 0 (((copyL e0_ e8_ (min (e0_.length-(sv2).toNat) (e0_.length-e3_.toNat)) (fun i=>(e0_.getD (e5_+i) dF))).set e5_ e2_).length))])),e4_] (fun _=>⟨by simp +zetaDelta only,by simp +zetaDelta only[ya,zq]⟩)<|
.guard [((copyL e0_ e8_ (min (e0_.length-(sv2).toNat) (e0_.length-e3_.toNat)) (fun i=>(e0_.getD (e5_+i) dF))).set e5_ e2_).length<2 ^ 63]<|
.reg 23 [] [] []<|
.frz 5 (.ev 0) none [] [1,6]<|
.r ((⟨rv1.1,((copyL e0_ e8_ (min (e0_.length-(sv2).toNat) (e0_.length-e3_.toNat)) (fun i=>(e0_.getD (e5_+i) dF))).set e5_ e2_)⟩:TTr),0)) id)))))
def F_q1j (a0:TTr) (a1:Y8) (a2:Int) (a3:Int):=(S_q1j a0 a1 a2 a3).den
theorem F_q1j_ok {a0:TTr} {a1:Y8} {a2:Int} {a3:Int}:FO (F_q1j a0 a1 a2 a3) 39 [(TTr.d a0),(AV.d (DV.str a1)),(vi a2),(vi a3)] [] (fun x=>(AV.tup [(TTr.d x.1),(vi x.2)])) NL:=fO (s:=S_q1j a0 a1 a2 a3) Tryz.func39
def S_q23 (a0:TTr) (a1:Int) (a2:Y8) (a3:Int):SC (Int×Int) (Int×Int) :=
.a 1 1 1 (@F_qw_ok a0) fun rv1=>
.ite (!rv1) (
.r (0,1)) (
.a 3 3 1 (@F_q1i_ok a0 a2 a3) fun rv2=>
.ite (cO (cO (decide (rv2<0)) (decide (a1<1))) (decide (a1>a0.N))) (
.r (0,6)) (
.r (rv2,0)))
def F_q23 (a0:TTr) (a1:Int) (a2:Y8) (a3:Int):=(S_q23 a0 a1 a2 a3).den
theorem F_q23_ok {a0:TTr} {a1:Int} {a2:Y8} {a3:Int}:FO (F_q23 a0 a1 a2 a3) 77 [(TTr.d a0),(vi a1),(AV.d (DV.str a2)),(vi a3)] [] (fun x=>(AV.tup [(vi x.1),(vi x.2)])) NL:=fO (s:=S_q23 a0 a1 a2 a3) Tryz.func77
def S_ql_b1 (a0:TPo) (sv1:Int×Int):SC Int (Step (Int×Int) Int) :=
.ite (bif (decide (sv1.2<(a0.A.length:Int))) then (decide (sv1.2<(a0.L.length:Int))) else false) (
.guard [(0:Int)<=sv1.2,(sv1.2).toNat<a0.A.length,(sv1.2).toNat<a0.L.length]<|
.reg 5 [] [] [.ev 0,.ev 1,.ev 0,.ev 2]<|
.r (.cont ((i64.wrap (sv1.1+(i64.wrap ((a0.A.getD ((sv1.2).toNat) dF)-(a0.L.getD ((sv1.2).toNat) dF))))),(i64.wrap (sv1.2+1))))) (
.r (.brk (sv1.1,sv1.2)))
def S_ql (a0:TPo):SC Int Int :=
.iter [1] (fun (sv1:Int×Int)=>[(3,(vi sv1.1)),(4,(vi sv1.2))]) (fun _=>[]) (0,0) (S_ql_b1 a0) (fun sv1 =>
.r sv1.1) id
def F_ql (a0:TPo):=(S_ql a0).den
theorem F_ql_ok {a0:TPo}:FO (F_ql a0) 59 [(TPo.d a0)] [] vi NL:=fO (s:=S_ql a0) Tryz.func59
def S_q55 (a0:TPo):SC Int Int :=
.a 1 3 1 (@F_ql_ok a0) fun rv1=>
.r (i64.wrap (a0.W-rv1))
def F_q55 (a0:TPo):=(S_q55 a0).den
theorem F_q55_ok {a0:TPo}:FO (F_q55 a0) 123 [(TPo.d a0)] [] vi NL:=fO (s:=S_q55 a0) Tryz.func123
def oTApiPot:Opn TPo where
 sz:=7
 T:=fun a b c d x=>.agg [.d (.str x.D),vi x.E,vi x.W,a,b,c,d]
 e:=TPo.e
 g1:=TPo.A
 g2:=TPo.L
 g3:=TPo.K
 g4:=TPo.P
 tr:=fun _ h1 h2 h3 h4=>TrV.agg (.cons (.keep _) (.cons (.keep _) (.cons (.keep _) (.cons h1 (.cons h2 (.cons h3 (.cons h4 .nil)))))))
 cl:=fun x=>TrV.aggD (ys:=[.str x.D,.i .i64 x.E,.i .i64 x.W,eL (.i .i64) x.A,eL (.i .i64) x.L,eL (.i .i64) x.K,eL (.i .i64) x.P])
  (.cons (.keep _) (.cons (.keep _) (.cons (.keep _) (.cons (.keep _) (.cons (.keep _) (.cons (.keep _) (.cons (.keep _) .nil)))))))
 wd:=fun _ h1 h2 h3 h4=>by simp[AV.wd,AV.wdL,DV.wd,h1,h2,h3,h4]
abbrev R_q12:=Int×(List TPo)
def S_q12_b1 (a0:TTr) (i0:Nat) (iv1:Nat) (sv2:Int×(List TPo)):SC R_q12 (Step (Int×(List TPo)) R_q12) :=
.reg 4 [] [(2,{ obs:=[(8,(TPo.b (⟨[],0,0,[],[],[],[]⟩:TPo)))] })] [.w iv1,.ev 0,.pf cz4]<|
 let e1_:=(a0.B.getD iv1 dF)
.guard [e1_.A.length * (2 * 8)<=2 ^ 48]<|
.reg 5 [] [(3,{ h:=.obj })] [.pf (p:=∀ k,k<e1_.A.length->(AV.d ((DV.i .i64) (e1_.A.getD k dF))).wd=1) (fun _ _=>rfl),.ev 0]<|
.guard [e1_.L.length * (2 * 8)<=2 ^ 48]<|
.reg 6 [] [(3,{ h:=.obj })] [.pf (p:=∀ k,k<e1_.L.length->(AV.d ((DV.i .i64) (e1_.L.getD k dF))).wd=1) (fun _ _=>rfl),.ev 0]<|
.guard [e1_.K.length * (2 * 8)<=2 ^ 48]<|
.reg 7 [] [(3,{ h:=.obj })] [.pf (p:=∀ k,k<e1_.K.length->(AV.d ((DV.i .i64) (e1_.K.getD k dF))).wd=1) (fun _ _=>rfl),.ev 0]<|
.guard [e1_.P.length * (2 * 8)<=2 ^ 48]<|
.reg 8 [] [(3,{ h:=.obj })] [.pf (p:=∀ k,k<e1_.P.length->(AV.d ((DV.i .i64) (e1_.P.getD k dF))).wd=1) (fun _ _=>rfl),.ev 0]<|
.guard [(sv2.2.length+1) * (2 * 128)<=2 ^ 48]<|
.reg 9 [] [(3,{ h:=.obj }),(4,{ h:=.obj,cast:=some (AV.ref 3 ((sv2.2++[(⟨(a0.B.getD iv1 dF).D,(a0.B.getD iv1 dF).E,(a0.B.getD iv1 dF).W,(a0.B.getD iv1 dF).A,(a0.B.getD iv1 dF).L,(a0.B.getD iv1 dF).K,(a0.B.getD iv1 dF).P⟩:TPo)]).length) 0 ((sv2.2++[(⟨(a0.B.getD iv1 dF).D,(a0.B.getD iv1 dF).E,(a0.B.getD iv1 dF).W,(a0.B.getD iv1 dF).A,(a0.B.getD iv1 dF).L,(a0.B.getD iv1 dF).K,(a0.B.getD iv1 dF).P⟩:TPo)]).length)),obs:=[(3,(Ob.seq 7 ((sv2.2++[(⟨(a0.B.getD iv1 dF).D,(a0.B.getD iv1 dF).E,(a0.B.getD iv1 dF).W,(a0.B.getD iv1 dF).A,(a0.B.getD iv1 dF).L,(a0.B.getD iv1 dF).K,(a0.B.getD iv1 dF).P⟩:TPo)]).length) (catF sv2.2.length (fun j=>AV.sel (decide (j=i0)) 7 (AV.agg [(AV.d (DV.str (sv2.2.getD i0 dF).D)),(vi (sv2.2.getD i0 dF).E),(vi (sv2.2.getD i0 dF).W),(rr 4 (sv2.2.getD i0 dF).A),(rr 5 (sv2.2.getD i0 dF).L),(rr 6 (sv2.2.getD i0 dF).K),(rr 7 (sv2.2.getD i0 dF).P)]) (TPo.d (sv2.2.getD j dF))) (listF AV.bot [(AV.agg [(AV.d (DV.str (a0.B.getD iv1 dF).D)),(vi (a0.B.getD iv1 dF).E),(vi (a0.B.getD iv1 dF).W),(rr 9 (a0.B.getD iv1 dF).A),(rr 10 (a0.B.getD iv1 dF).L),(rr 11 (a0.B.getD iv1 dF).K),(rr 12 (a0.B.getD iv1 dF).P)])]))))] })] [.e 1,.e sv2.2.length,.e sv2.2.length,.pf (p:=∀ k,k<1->(listF AV.bot [(AV.agg [(AV.d (DV.str (a0.B.getD iv1 dF).D)),(vi (a0.B.getD iv1 dF).E),(vi (a0.B.getD iv1 dF).W),(rr 9 (a0.B.getD iv1 dF).A),(rr 10 (a0.B.getD iv1 dF).L),(rr 11 (a0.B.getD iv1 dF).K),(rr 12 (a0.B.getD iv1 dF).P)])] k).wd=7) (fun k hk=>by obtain rfl:k=0:=om; rfl),.ev 0,.pf (z11 (o:=3) (l:=sv2.2) (x:=[(⟨(a0.B.getD iv1 dF).D,(a0.B.getD iv1 dF).E,(a0.B.getD iv1 dF).W,(a0.B.getD iv1 dF).A,(a0.B.getD iv1 dF).L,(a0.B.getD iv1 dF).K,(a0.B.getD iv1 dF).P⟩:TPo)])),.pf (p:=OLe (Ob.seq 7 (sv2.2.length+1) (catF sv2.2.length (fun j=>AV.sel (decide (j=i0)) 7 (AV.agg [(AV.d (DV.str (sv2.2.getD i0 dF).D)),(vi (sv2.2.getD i0 dF).E),(vi (sv2.2.getD i0 dF).W),(rr 4 (sv2.2.getD i0 dF).A),(rr 5 (sv2.2.getD i0 dF).L),(rr 6 (sv2.2.getD i0 dF).K),(rr 7 (sv2.2.getD i0 dF).P)]) (TPo.d (sv2.2.getD j dF))) (listF AV.bot [(AV.agg [(AV.d (DV.str (a0.B.getD iv1 dF).D)),(vi (a0.B.getD iv1 dF).E),(vi (a0.B.getD iv1 dF).W),(rr 9 (a0.B.getD iv1 dF).A),(rr 10 (a0.B.getD iv1 dF).L),(rr 11 (a0.B.getD iv1 dF).K),(rr 12 (a0.B.getD iv1 dF).P)])]))) (Ob.seq 7 ((sv2.2++[(⟨(a0.B.getD iv1 dF).D,(a0.B.getD iv1 dF).E,(a0.B.getD iv1 dF).W,(a0.B.getD iv1 dF).A,(a0.B.getD iv1 dF).L,(a0.B.getD iv1 dF).K,(a0.B.getD iv1 dF).P⟩:TPo)]).length) (catF sv2.2.length (fun j=>AV.sel (decide (j=i0)) 7 (AV.agg [(AV.d (DV.str (sv2.2.getD i0 dF).D)),(vi (sv2.2.getD i0 dF).E),(vi (sv2.2.getD i0 dF).W),(rr 4 (sv2.2.getD i0 dF).A),(rr 5 (sv2.2.getD i0 dF).L),(rr 6 (sv2.2.getD i0 dF).K),(rr 7 (sv2.2.getD i0 dF).P)]) (TPo.d (sv2.2.getD j dF))) (listF AV.bot [(AV.agg [(AV.d (DV.str (a0.B.getD iv1 dF).D)),(vi (a0.B.getD iv1 dF).E),(vi (a0.B.getD iv1 dF).W),(rr 9 (a0.B.getD iv1 dF).A),(rr 10 (a0.B.getD iv1 dF).L),(rr 11 (a0.B.getD iv1 dF).K),(rr 12 (a0.B.getD iv1 dF).P)])])))) (zju sj)]<|
 let e0_:=(⟨e1_.D,e1_.E,e1_.W,e1_.A,e1_.L,e1_.K,e1_.P⟩:TPo)
.guard [((sv2.2.length=i0->0<e0_.A.length/\0<e0_.L.length/\0<e0_.K.length/\0<e0_.P.length)/\(e0_.A.length<2 ^ 63/\e0_.L.length<2 ^ 63/\e0_.K.length<2 ^ 63/\e0_.P.length<2 ^ 63))]<|
.sh (A:=((sv2.2.length=i0->0<(⟨(a0.B.getD iv1 dF).D,(a0.B.getD iv1 dF).E,(a0.B.getD iv1 dF).W,(a0.B.getD iv1 dF).A,(a0.B.getD iv1 dF).L,(a0.B.getD iv1 dF).K,(a0.B.getD iv1 dF).P⟩:TPo).A.length/\0<(⟨(a0.B.getD iv1 dF).D,(a0.B.getD iv1 dF).E,(a0.B.getD iv1 dF).W,(a0.B.getD iv1 dF).A,(a0.B.getD iv1 dF).L,(a0.B.getD iv1 dF).K,(a0.B.getD iv1 dF).P⟩:TPo).L.length/\0<(⟨(a0.B.getD iv1 dF).D,(a0.B.getD iv1 dF).E,(a0.B.getD iv1 dF).W,(a0.B.getD iv1 dF).A,(a0.B.getD iv1 dF).L,(a0.B.getD iv1 dF).K,(a0.B.getD iv1 dF).P⟩:TPo).K.length/\0<(⟨(a0.B.getD iv1 dF).D,(a0.B.getD iv1 dF).E,(a0.B.getD iv1 dF).W,(a0.B.getD iv1 dF).A,(a0.B.getD iv1 dF).L,(a0.B.getD iv1 dF).K,(a0.B.getD iv1 dF).P⟩:TPo).P.length)/\((⟨(a0.B.getD iv1 dF).D,(a0.B.getD iv1 dF).E,(a0.B.getD iv1 dF).W,(a0.B.getD iv1 dF).A,(a0.B.getD iv1 dF).L,(a0.B.getD iv1 dF).K,(a0.B.getD iv1 dF).P⟩:TPo).A.length<2 ^ 63/\(⟨(a0.B.getD iv1 dF).D,(a0.B.getD iv1 dF).E,(a0.B.getD iv1 dF).W,(a0.B.getD iv1 dF).A,(a0.B.getD iv1 dF).L,(a0.B.getD iv1 dF).K,(a0.B.getD iv1 dF).P⟩:TPo).L.length<2 ^ 63/\(⟨(a0.B.getD iv1 dF).D,(a0.B.getD iv1 dF).E,(a0.B.getD iv1 dF).W,(a0.B.getD iv1 dF).A,(a0.B.getD iv1 dF).L,(a0.B.getD iv1 dF).K,(a0.B.getD iv1 dF).P⟩:TPo).K.length<2 ^ 63/\(⟨(a0.B.getD iv1 dF).D,(a0.B.getD iv1 dF).E,(a0.B.getD iv1 dF).W,(a0.B.getD iv1 dF).A,(a0.B.getD iv1 dF).L,(a0.B.getD iv1 dF).K,(a0.B.getD iv1 dF).P⟩:TPo).P.length<2 ^ 63))) (.ev 0) [(2,(vp 1)),(3,(vp 2)),(10,(AV.d (eL TPo.e a0.B))),(11,(vi (a0.B.length:Int))),(12,(vi (iv1:Int)))] [(2,(vp 1)),(3,(vp 2)),(10,(AV.d (eL TPo.e a0.B))),(11,(vi (a0.B.length:Int))),(12,(vi (iv1:Int)))] [(TTr.b a0),(TTr.b (⟨0,[]⟩:TTr)),(Ob.box (AV.agg [(vi sv2.1),(AV.ref 3 ((sv2.2++[(⟨(a0.B.getD iv1 dF).D,(a0.B.getD iv1 dF).E,(a0.B.getD iv1 dF).W,(a0.B.getD iv1 dF).A,(a0.B.getD iv1 dF).L,(a0.B.getD iv1 dF).K,(a0.B.getD iv1 dF).P⟩:TPo)]).length) 0 ((sv2.2++[(⟨(a0.B.getD iv1 dF).D,(a0.B.getD iv1 dF).E,(a0.B.getD iv1 dF).W,(a0.B.getD iv1 dF).A,(a0.B.getD iv1 dF).L,(a0.B.getD iv1 dF).K,(a0.B.getD iv1 dF).P⟩:TPo)]).length))])),(Ob.seq 7 (sv2.2++[(⟨(a0.B.getD iv1 dF).D,(a0.B.getD iv1 dF).E,(a0.B.getD iv1 dF).W,(a0.B.getD iv1 dF).A,(a0.B.getD iv1 dF).L,(a0.B.getD iv1 dF).K,(a0.B.getD iv1 dF).P⟩:TPo)]).length (catF sv2.2.length (fun j=>AV.sel (decide (j=i0)) 7 (AV.agg [(AV.d (DV.str (sv2.2.getD i0 dF).D)),(vi (sv2.2.getD i0 dF).E),(vi (sv2.2.getD i0 dF).W),(rr 4 (sv2.2.getD i0 dF).A),(rr 5 (sv2.2.getD i0 dF).L),(rr 6 (sv2.2.getD i0 dF).K),(rr 7 (sv2.2.getD i0 dF).P)]) (TPo.d (sv2.2.getD j dF))) (listF AV.bot [(AV.agg [(AV.d (DV.str (a0.B.getD iv1 dF).D)),(vi (a0.B.getD iv1 dF).E),(vi (a0.B.getD iv1 dF).W),(rr 9 (a0.B.getD iv1 dF).A),(rr 10 (a0.B.getD iv1 dF).L),(rr 11 (a0.B.getD iv1 dF).K),(rr 12 (a0.B.getD iv1 dF).P)])]))),(eQ (opQ TPo.A i0 sv2.2)),(eQ (opQ TPo.L i0 sv2.2)),(eQ (opQ TPo.K i0 sv2.2)),(eQ (opQ TPo.P i0 sv2.2)),(Ob.box (AV.agg [(AV.d (DV.str (a0.B.getD iv1 dF).D)),(vi (a0.B.getD iv1 dF).E),(vi (a0.B.getD iv1 dF).W),(rr 9 (a0.B.getD iv1 dF).A),(rr 10 (a0.B.getD iv1 dF).L),(rr 11 (a0.B.getD iv1 dF).K),(rr 12 (a0.B.getD iv1 dF).P)])),(eQ (⟨(a0.B.getD iv1 dF).D,(a0.B.getD iv1 dF).E,(a0.B.getD iv1 dF).W,(a0.B.getD iv1 dF).A,(a0.B.getD iv1 dF).L,(a0.B.getD iv1 dF).K,(a0.B.getD iv1 dF).P⟩:TPo).A),(eQ (⟨(a0.B.getD iv1 dF).D,(a0.B.getD iv1 dF).E,(a0.B.getD iv1 dF).W,(a0.B.getD iv1 dF).A,(a0.B.getD iv1 dF).L,(a0.B.getD iv1 dF).K,(a0.B.getD iv1 dF).P⟩:TPo).L),(eQ (⟨(a0.B.getD iv1 dF).D,(a0.B.getD iv1 dF).E,(a0.B.getD iv1 dF).W,(a0.B.getD iv1 dF).A,(a0.B.getD iv1 dF).L,(a0.B.getD iv1 dF).K,(a0.B.getD iv1 dF).P⟩:TPo).K),(eQ (⟨(a0.B.getD iv1 dF).D,(a0.B.getD iv1 dF).E,(a0.B.getD iv1 dF).W,(a0.B.getD iv1 dF).A,(a0.B.getD iv1 dF).L,(a0.B.getD iv1 dF).K,(a0.B.getD iv1 dF).P⟩:TPo).P),(Ob.seq 7 1 (listF AV.bot [(AV.agg [(AV.d (DV.str (a0.B.getD iv1 dF).D)),(vi (a0.B.getD iv1 dF).E),(vi (a0.B.getD iv1 dF).W),(rr 9 (a0.B.getD iv1 dF).A),(rr 10 (a0.B.getD iv1 dF).L),(rr 11 (a0.B.getD iv1 dF).K),(rr 12 (a0.B.getD iv1 dF).P)])]))] [(TTr.b a0),(TTr.b (⟨0,[]⟩:TTr)),(Ob.box (AV.agg [(vi sv2.1),(AV.ref 3 ((sv2.2++[(⟨(a0.B.getD iv1 dF).D,(a0.B.getD iv1 dF).E,(a0.B.getD iv1 dF).W,(a0.B.getD iv1 dF).A,(a0.B.getD iv1 dF).L,(a0.B.getD iv1 dF).K,(a0.B.getD iv1 dF).P⟩:TPo)]).length) 0 ((sv2.2++[(⟨(a0.B.getD iv1 dF).D,(a0.B.getD iv1 dF).E,(a0.B.getD iv1 dF).W,(a0.B.getD iv1 dF).A,(a0.B.getD iv1 dF).L,(a0.B.getD iv1 dF).K,(a0.B.getD iv1 dF).P⟩:TPo)]).length))])),(oTApiPot.R 4 i0 (sv2.2++[(⟨(a0.B.getD iv1 dF).D,(a0.B.getD iv1 dF).E,(a0.B.getD iv1 dF).W,(a0.B.getD iv1 dF).A,(a0.B.getD iv1 dF).L,(a0.B.getD iv1 dF).K,(a0.B.getD iv1 dF).P⟩:TPo)])),(eQ (opQ TPo.A i0 (sv2.2++[(⟨(a0.B.getD iv1 dF).D,(a0.B.getD iv1 dF).E,(a0.B.getD iv1 dF).W,(a0.B.getD iv1 dF).A,(a0.B.getD iv1 dF).L,(a0.B.getD iv1 dF).K,(a0.B.getD iv1 dF).P⟩:TPo)]))),(eQ (opQ TPo.L i0 (sv2.2++[(⟨(a0.B.getD iv1 dF).D,(a0.B.getD iv1 dF).E,(a0.B.getD iv1 dF).W,(a0.B.getD iv1 dF).A,(a0.B.getD iv1 dF).L,(a0.B.getD iv1 dF).K,(a0.B.getD iv1 dF).P⟩:TPo)]))),(eQ (opQ TPo.K i0 (sv2.2++[(⟨(a0.B.getD iv1 dF).D,(a0.B.getD iv1 dF).E,(a0.B.getD iv1 dF).W,(a0.B.getD iv1 dF).A,(a0.B.getD iv1 dF).L,(a0.B.getD iv1 dF).K,(a0.B.getD iv1 dF).P⟩:TPo)]))),(eQ (opQ TPo.P i0 (sv2.2++[(⟨(a0.B.getD iv1 dF).D,(a0.B.getD iv1 dF).E,(a0.B.getD iv1 dF).W,(a0.B.getD iv1 dF).A,(a0.B.getD iv1 dF).L,(a0.B.getD iv1 dF).K,(a0.B.getD iv1 dF).P⟩:TPo)]))),(Ob.box (AV.agg [(AV.d (DV.str (a0.B.getD iv1 dF).D)),(vi (a0.B.getD iv1 dF).E),(vi (a0.B.getD iv1 dF).W),(rr 9 (a0.B.getD iv1 dF).A),(rr 10 (a0.B.getD iv1 dF).L),(rr 11 (a0.B.getD iv1 dF).K),(rr 12 (a0.B.getD iv1 dF).P)])),Ob.dead,Ob.dead,Ob.dead,Ob.dead,(Ob.seq 7 1 (listF AV.bot [(AV.agg [(AV.d (DV.str (a0.B.getD iv1 dF).D)),(vi (a0.B.getD iv1 dF).E),(vi (a0.B.getD iv1 dF).W),(rr 9 (a0.B.getD iv1 dF).A),(rr 10 (a0.B.getD iv1 dF).L),(rr 11 (a0.B.getD iv1 dF).K),(rr 12 (a0.B.getD iv1 dF).P)])]))] (fun h=>zam oTApiPot (P:=[(TTr.b a0),(TTr.b (⟨0,[]⟩:TTr)),(Ob.box (AV.agg [(vi sv2.1),(AV.ref 3 ((sv2.2++[(⟨(a0.B.getD iv1 dF).D,(a0.B.getD iv1 dF).E,(a0.B.getD iv1 dF).W,(a0.B.getD iv1 dF).A,(a0.B.getD iv1 dF).L,(a0.B.getD iv1 dF).K,(a0.B.getD iv1 dF).P⟩:TPo)]).length) 0 ((sv2.2++[(⟨(a0.B.getD iv1 dF).D,(a0.B.getD iv1 dF).E,(a0.B.getD iv1 dF).W,(a0.B.getD iv1 dF).A,(a0.B.getD iv1 dF).L,(a0.B.getD iv1 dF).K,(a0.B.getD iv1 dF).P⟩:TPo)]).length))]))]) (D:=[(Ob.box (AV.agg [(AV.d (DV.str (a0.B.getD iv1 dF).D)),(vi (a0.B.getD iv1 dF).E),(vi (a0.B.getD iv1 dF).W),(rr 9 (a0.B.getD iv1 dF).A),(rr 10 (a0.B.getD iv1 dF).L),(rr 11 (a0.B.getD iv1 dF).K),(rr 12 (a0.B.getD iv1 dF).P)]))]) (E:=[(Ob.seq 7 1 (listF AV.bot [(AV.agg [(AV.d (DV.str (a0.B.getD iv1 dF).D)),(vi (a0.B.getD iv1 dF).E),(vi (a0.B.getD iv1 dF).W),(rr 9 (a0.B.getD iv1 dF).A),(rr 10 (a0.B.getD iv1 dF).L),(rr 11 (a0.B.getD iv1 dF).K),(rr 12 (a0.B.getD iv1 dF).P)])]))]) (i:=i0) (l:=sv2.2) (x:=(⟨(a0.B.getD iv1 dF).D,(a0.B.getD iv1 dF).E,(a0.B.getD iv1 dF).W,(a0.B.getD iv1 dF).A,(a0.B.getD iv1 dF).L,(a0.B.getD iv1 dF).K,(a0.B.getD iv1 dF).P⟩:TPo)) rfl rfl (fun j hj=>z1u hj) (by rw[z1x (yf _),y4s]; rfl) h.1 h.2) (z2a _)<|
.c (sv2.1,sv2.2++[e0_])
def S_q12 (a0:TTr) (i0:Nat):SC R_q12 R_q12 :=
 let e3_:=(TTr.b (⟨0,[]⟩:TTr))
.reg 0 [] [(1,{ obs:=[(1,e3_)] })] [.pf z2b]<|
.reg 1 [] [(2,{ h:=.obj }),(3,{ h:=.obj })] []<|
 let e0_:=(([]:List TPo).getD i0 dF)
 let e6_:=(AV.agg [(vi a0.N),(AV.ref 3 0 0 0)])
 let e7_:=(TTr.b a0)
 let e1_:=[e7_,e3_,(Ob.box e6_),(oTApiPot.R 4 i0 [])]
 let e2_:=[(1,(vp 0)),(2,(vp 1)),(3,(vp 2))]
.sh (A:=True) (.pf trivial) e2_ e2_ [e7_,e3_,(Ob.box (AV.agg [(vi a0.N),(AV.full 0 fun _=>DV.b false)]))] e1_ (fun _=>(z2f (sz:=7) (f:=(fun j=>AV.sel (decide (j=i0)) 7 (AV.agg [(AV.d (DV.str e0_.D)),(vi e0_.E),(vi e0_.W),(rr 4 e0_.A),(rr 5 e0_.L),(rr 6 e0_.K),(rr 7 e0_.P)]) (TPo.d (([]:List TPo).getD j dF)))) (.keep _ _ _ _ (y16 rfl) (.keep _ _ _ _ (y16 rfl) (.box _ _ _ _ _ (y16 rfl) (TrV.agg (TrL.cons (TrV.keep _) (TrL.cons TrV.born TrL.nil))) (.nil _)))))) (z1d (k:=0) rfl (TrS.keep _) (z1d (k:=1) rfl (TrS.keep _) (z1d (k:=2) rfl (TrS.keep _) z32)))<|
.sh (A:=True) (.pf trivial) e2_ e2_ e1_ [e7_,e3_,(Ob.box e6_),(oTApiPot.R 4 i0 []),(eQ (opQ TPo.A i0 ([]:List TPo))),(eQ (opQ TPo.L i0 ([]:List TPo))),(eQ (opQ TPo.K i0 ([]:List TPo))),(eQ (opQ TPo.P i0 ([]:List TPo)))] (fun _=>zce) (z2a _)<|
.range (a0.B.length:Int) a0.B.length rfl (.slot 10) 12 [2,3,10,11] (fun (_:Int×(List TPo))=>[]) (fun sv2=>[(2,(Ob.box (AV.agg [(vi sv2.1),(AV.ref 3 sv2.2.length 0 sv2.2.length)]))),(3,(oTApiPot.R 4 i0 sv2.2)),(4,(eQ (opQ TPo.A i0 sv2.2))),(5,(eQ (opQ TPo.L i0 sv2.2))),(6,(eQ (opQ TPo.K i0 sv2.2))),(7,(eQ (opQ TPo.P i0 sv2.2)))]) (a0.N,([]:List TPo)) (S_q12_b1 a0 i0) (fun sv2 => 
.reg 11 [] [] []<|
.kill 0<|
.kill 2<|
.guard [i0<sv2.2.length]<|
 let e4_:=(AV.agg [(vi sv2.1),(AV.ref 3 sv2.2.length 0 sv2.2.length)])
 let e5_:=(sv2.2.getD i0 dF)
.cst (A:=i0<sv2.2.length) (.ev 0) [(2,(vp 1))] [(2,(vp 1))] [Ob.dead,(Ob.box e4_),Ob.dead,(oTApiPot.R 4 i0 sv2.2),(eQ (opQ TPo.A i0 sv2.2)),(eQ (opQ TPo.L i0 sv2.2)),(eQ (opQ TPo.K i0 sv2.2)),(eQ (opQ TPo.P i0 sv2.2))] [Ob.dead,(Ob.box e4_),Ob.dead,(oTApiPot.R 4 i0 sv2.2),(eQ e5_.A),(eQ e5_.L),(eQ e5_.K),(eQ e5_.P)] (fun h=>⟨rfl,by simp +zetaDelta only[zn3 h]⟩)<|
.r (sv2.1,sv2.2)) id
def F_q12 (a0:TTr) (i0:Nat):=(S_q12 a0 i0).den
theorem F_q12_ok {a0:TTr} {i0:Nat}:FO (F_q12 a0 i0) 75 [(TTr.d a0)] [] (fun x=>(AV.agg [(vi x.1),(AV.ref 3 x.2.length 0 x.2.length)])) (fun x=>[Ob.dead,(Ob.box (AV.agg [(vi x.1),(AV.ref 3 x.2.length 0 x.2.length)])),Ob.dead,(opS 7 TPo.e i0 (AV.agg [(AV.d (DV.str (x.2.getD i0 dF).D)),(vi (x.2.getD i0 dF).E),(vi (x.2.getD i0 dF).W),(rr 4 (x.2.getD i0 dF).A),(rr 5 (x.2.getD i0 dF).L),(rr 6 (x.2.getD i0 dF).K),(rr 7 (x.2.getD i0 dF).P)]) x.2),(eQ (x.2.getD i0 dF).A),(eQ (x.2.getD i0 dF).L),(eQ (x.2.getD i0 dF).K),(eQ (x.2.getD i0 dF).P)]):=fO (s:=S_q12 a0 i0) Tryz.func75
end
end Go.Proofs.YtlhikmklpelceaaGreatDoor
/- What the functions compute,and that their calls return it. No condition. -/
namespace Go.Proofs.YtlhikmklpelceaaGreatDoor
open Go Go.TA
open Go.IntKind (i64)
noncomputable section
set_option maxRecDepth 100000
abbrev R_qa:=TTr×Int
def S_qa_b1 (a0:TTr) (a3:(List Int)) (rv1:(Int×Int)) (iv2:Nat) (sv3:Int×Int):SC R_qa (Step (Int×Int) R_qa) :=
.reg 9 [] [] [.w iv2,.ev 0]<|
.a 10 1 2 (@F_qe_ok (a3.getD iv2 dF)) fun rv4=>
.ite (!rv4) (
.reg 11 [] [(0,hv (TTr.d (⟨0,[]⟩:TTr)))] [.pf z1j]<|
.r (.ret ((⟨0,[]⟩:TTr),2))) (
 let e0_:=((a0.B.getD ((rv1.1).toNat) dF).A)
.guard [(0:Int)<=rv1.1,(rv1.1).toNat<a0.B.length,iv2<e0_.length]<|
.reg 13 [] [] [.ev 0,.ev 1,.w iv2,.ev 2]<|
.r (.cont ((i64.wrap (sv3.1+(a3.getD iv2 dF))),(i64.wrap (sv3.2+(e0_.getD iv2 dF))))))
def S_qa_b2 (a3:(List Int)) (rv1:(Int×Int)) (rv5:R_q12) (iv6:Nat) (sv7:(List Int)):SC R_qa (Step ((List Int)) R_qa) :=
.reg 22 [] [] [.w iv6,.ev 0]<|
 let e3_:=((rv1.1).toNat)
 let e2_:=((rv5.2.getD e3_ dF).A)
.guard [(rv1.1).toNat<rv5.2.length,sv7.length=e2_.length,iv6<e2_.length,(0+iv6)<sv7.length]<|
 let e0_:=(i64.wrap ((sv7.getD (0+iv6) dF)+(a3.getD iv6 dF)))
 let e1_:=(AV.ptr 5 rv5.2.length [.x e3_ 7])
.reg 23 [] [(3,hv e1_),(12,{ obs:=[(6,(eS 1 (DV.i .i64) (sv7.set (0+iv6) e0_)))] })] [.e rv5.2.length,.ev 9,.ev 0,.pf (p:=LeV (AV.ptr 5 rv5.2.length [.x (0+e3_) 7]) e1_) (z6e),.e rv5.2.length,.e rv5.2.length,.ev 0,.pf (p:=decide ((rv1.1).toNat=(rv1.1).toNat)=true) (yd rfl),.ev 1,.w iv6,.ev 2,.ev 1,.ev 3,.ev 1,.w iv6,.ev 2,.ev 1,.ev 3,.pf (zu (sz:=1) (e:=(DV.i .i64)) (l:=sv7) (i:=(0+iv6)) (x:=e0_) (fun _=>rfl))]<|
.c (sv7.set (0+iv6) e0_)
def S_qa (a0:TTr) (a1:Y8) (a2:Int) (a3:(List Int)):SC R_qa R_qa :=
 let e15_:=(TTr.b (⟨0,[]⟩:TTr))
.reg 0 [] [(1,{ obs:=[(1,e15_)] })] [.pf z2b]<|
.a 1 3 2 (@F_q23_ok a0 1 a1 a2) fun rv1=>
 let e4_:=(TTr.d (⟨0,[]⟩:TTr))
.ite (rv1.2 != 0) (
.reg 3 [] [(0,hv e4_)] [.pf z1j]<|
.r ((⟨0,[]⟩:TTr),rv1.2)) (
.ite ((a3.length:Int) != a0.N) (
.reg 5 [] [(0,hv e4_)] [.pf z1j]<|
.r ((⟨0,[]⟩:TTr),6)) (
.range (a3.length:Int) a3.length rfl (.slot 3) 38 [3,4,8,10,36,37] (fun (sv3:Int×Int)=>[(12,(vi sv3.1)),(13,(vi sv3.2))]) (fun _=>[]) (0,0) (S_qa_b1 a0 a3 rv1) (fun sv3 => 
 let e5_:=((rv1.1).toNat)
.call (@F_q55_ok (a0.B.getD e5_ dF)) fun rv8 cv8=>
.guard [(0:Int)<=rv1.1,(rv1.1).toNat<a0.B.length]<|
.reg 15 [] [(6,hc cv8 [] true)] [.ev 0,.ev 1,.cl 2 cv8 [] 2 true]<|
.ite (decide (sv3.1>rv8)) (
.reg 16 [] [(0,hv e4_)] [.pf z1j]<|
.r ((⟨0,[]⟩:TTr),15)) (
.ite (decide ((i64.wrap (sv3.1+sv3.2))>1000000000000000)) (
.reg 18 [] [(0,hv e4_)] [.pf z1j]<|
.r ((⟨0,[]⟩:TTr),3)) (
.call (@F_q12_ok a0 e5_) fun rv5 cv5=>
.reg 19 [] [(1,hc cv5 [] false),(2,{ obs:=[(10,e15_)] })] [.cl 0 cv5 [] 2 false,.pf z2b]<|
.kill 3<|
 let e0_:=(rv5.2.getD e5_ dF)
.range (a3.length:Int) a3.length rfl (.slot 78) 80 [8,10,16,78,79] (fun (_:(List Int))=>[]) (fun sv7=>[(6,(eS 1 (DV.i .i64) sv7))]) (e0_.A) (S_qa_b2 a3 rv1 rv5) (fun sv7 => 
.reg 25 [] [] []<|
.guard [sv7.length=(e0_.A).length]<|
 let e8_:=(TTr.b a0)
 let e10_:=(eS 1 (DV.i .i64) (e0_.L))
 let e11_:=(eS 1 (DV.i .i64) (e0_.K))
 let e12_:=(eS 1 (DV.i .i64) (e0_.P))
 let e13_:=(AV.d (DV.str (e0_.D)))
 let e14_:=(eS 1 (DV.i .i64) sv7)
.cst (A:=sv7.length=(e0_.A).length) (.ev 0) [(8,(vp 1)),(9,(vi 0))] [(8,(vp 1)),(9,(vi 0))] [e8_,(Ob.box (AV.agg [(vi rv5.1),(AV.ref 5 rv5.2.length 0 rv5.2.length)])),Ob.dead,Ob.dead,Ob.dead,(opS 7 TPo.e e5_ (AV.agg [e13_,(vi (e0_.E)),(vi (e0_.W)),(AV.ref 6 ((e0_.A).length) 0 ((e0_.A).length)),(AV.ref 7 ((e0_.L).length) 0 ((e0_.L).length)),(AV.ref 8 ((e0_.K).length) 0 ((e0_.K).length)),(AV.ref 9 ((e0_.P).length) 0 ((e0_.P).length))]) rv5.2),e14_,e10_,e11_,e12_,(Ob.box (AV.agg [(vi rv5.1),(AV.ref 5 rv5.2.length 0 rv5.2.length)]))] [e8_,(Ob.box (AV.agg [(vi rv5.1),(AV.ref 5 rv5.2.length 0 rv5.2.length)])),Ob.dead,Ob.dead,Ob.dead,(opS 7 TPo.e e5_ (AV.agg [e13_,(vi (e0_.E)),(vi (e0_.W)),(AV.ref 6 sv7.length 0 sv7.length),(AV.ref 7 ((e0_.L).length) 0 ((e0_.L).length)),(AV.ref 8 ((e0_.K).length) 0 ((e0_.K).length)),(AV.ref 9 ((e0_.P).length) 0 ((e0_.P).length))]) rv5.2),e14_,e10_,e11_,e12_,(Ob.box (AV.agg [(vi rv5.1),(AV.ref 5 rv5.2.length 0 rv5.2.length)]))] (fun h=>⟨rfl,by rw[h]⟩)<|
.guard [sv7.length<2 ^ 63/\(e0_.L).length<2 ^ 63/\(e0_.K).length<2 ^ 63/\(e0_.P).length<2 ^ 63]<|
 let e9_:=(⟨e0_.D,e0_.E,e0_.W,sv7,e0_.L,e0_.K,e0_.P⟩:TPo)
 let e1_:=(rv5.2.set e5_ e9_)
 let e2_:=(AV.agg [(vi rv5.1),(AV.ref 5 rv5.2.length 0 rv5.2.length)])
 let e3_:=[e8_,(Ob.box e2_),Ob.dead,Ob.dead,Ob.dead,(eS 7 TPo.e e1_),Ob.dead,Ob.dead,Ob.dead,Ob.dead,(Ob.box e2_)]
 let e7_:=[(8,(vp 1)),(9,(vi 0))]
.sh (A:=sv7.length<2 ^ 63/\(e0_.L).length<2 ^ 63/\(e0_.K).length<2 ^ 63/\(e0_.P).length<2 ^ 63) (.ev 0) e7_ e7_ [e8_,(Ob.box e2_),Ob.dead,Ob.dead,Ob.dead,(opS 7 TPo.e e5_ (AV.agg [e13_,(vi (e0_.E)),(vi (e0_.W)),(AV.ref 6 sv7.length 0 sv7.length),(AV.ref 7 ((e0_.L).length) 0 ((e0_.L).length)),(AV.ref 8 ((e0_.K).length) 0 ((e0_.K).length)),(AV.ref 9 ((e0_.P).length) 0 ((e0_.P).length))]) rv5.2),e14_,e10_,e11_,e12_,(Ob.box e2_)] e3_ (fun h=>z3j oTApiPot (P:=[e8_,(Ob.box e2_),Ob.dead,Ob.dead,Ob.dead]) (D:=[(Ob.box e2_)]) rfl (⟨e0_.D,e0_.E,e0_.W,[],[],[],[]⟩:TPo) e9_ h rfl) (z2a _)<|
 let e6_:=(AV.agg [(vi rv5.1),(AV.ref 5 (e1_.length) 0 (e1_.length))])
.cst (A:=True) (.pf trivial) e7_ e7_ e3_ [e8_,(Ob.box e6_),Ob.dead,Ob.dead,Ob.dead,(eS 7 TPo.e e1_),Ob.dead,Ob.dead,Ob.dead,Ob.dead,(Ob.box e6_)] (fun _=>⟨by simp +zetaDelta only,by simp +zetaDelta only[ya]⟩)<|
.guard [e1_.length<2 ^ 63]<|
.frz 5 (.ev 0) none [] [1,10]<|
.r ((⟨rv5.1,e1_⟩:TTr),0)) id))) id))
def F_qa (a0:TTr) (a1:Y8) (a2:Int) (a3:(List Int)):=(S_qa a0 a1 a2 a3).den
theorem F_qa_ok {a0:TTr} {a1:Y8} {a2:Int} {a3:(List Int)}:FO (F_qa a0 a1 a2 a3) 78 [(TTr.d a0),(AV.d (DV.str a1)),(vi a2),(vl a3)] [] (fun x=>(AV.tup [(TTr.d x.1),(vi x.2)])) NL:=fO (s:=S_qa a0 a1 a2 a3) Tryz.func78
def S_q56 (a0:TTr) (a1:Int) (a2:Y8) (a3:Int) (a4:Int):SC (TTr×Int) (TTr×Int) :=
 let e5_:=(TTr.b (⟨0,[]⟩:TTr))
.reg 0 [] [(1,{ obs:=[(1,e5_)] })] [.pf z2b]<|
.a 1 4 2 (@F_q23_ok a0 a1 a2 a3) fun rv1=>
 let e4_:=(TTr.d (⟨0,[]⟩:TTr))
.ite (rv1.2 != 0) (
.reg 3 [] [(0,hv e4_)] [.pf z1j]<|
.r ((⟨0,[]⟩:TTr),rv1.2)) (
.ite (cO (decide (a4<1)) (decide (a4>1000000000000000))) (
.reg 5 [] [(0,hv e4_)] [.pf z1j]<|
.r ((⟨0,[]⟩:TTr),2)) (
.guard [(0:Int)<=a0.N,a0.N * 8<=2 ^ 47]<|
 let e1_:=((List.replicate a0.N.toNat (0:Int)).length)
.reg 6 [] [(2,{ cast:=some (AV.ref 2 e1_ 0 e1_),obs:=[(2,(eS 1 (DV.i .i64) (List.replicate a0.N.toNat (0:Int))))] })] [.ev 0,.pf (p:=a0.N<=a0.N) (y1d _),.ev 1,.pf (z8q (o:=2) (k:=a0.N.toNat) (z:=(0:Int))),.pf (z8r (sz:=1) (k:=a0.N.toNat) (e:=(DV.i .i64)) (z:=(0:Int)))]<|
 let e2_:=(i64.wrap (a1-1))
 let e6_:=(0+(e2_).toNat)
.guard [(0:Int)<=e2_,(e2_).toNat<(List.replicate a0.N.toNat (0:Int)).length,e6_<(List.replicate a0.N.toNat (0:Int)).length]<|
 let e0_:=((List.replicate a0.N.toNat (0:Int)).set e6_ a4)
.reg 7 [] [(5,{ obs:=[(2,(eS 1 (DV.i .i64) e0_))] })] [.e e1_,.ev 0,.ev 1,.e e1_,.ev 2,.pf (zu (sz:=1) (e:=(DV.i .i64)) (l:=(List.replicate a0.N.toNat (0:Int))) (i:=e6_) (x:=a4) (fun _=>rfl))]<|
 let e3_:=[(TTr.b a0),e5_,(eS 1 (DV.i .i64) e0_)]
.cst (A:=True) (.pf trivial) [(2,(AV.d (DV.str a2))),(3,(vi a3)),(5,(vp 0)),(10,(vp 1)),(14,(AV.ref 2 e1_ 0 e1_))] [(2,(AV.d (DV.str a2))),(3,(vi a3)),(5,(vp 0)),(10,(vp 1)),(14,(AV.ref 2 (e0_.length) 0 (e0_.length)))] e3_ e3_ (fun _=>⟨by simp +zetaDelta only[ya],by rfl⟩)<|
.guard [e0_.length<2 ^ 63]<|
.frz 2 (.ev 0) none [14] []<|
.a 8 4 3 (@F_qa_ok a0 a2 a3 e0_) fun rv2=>
.r (rv2.1,rv2.2)))
def F_q56 (a0:TTr) (a1:Int) (a2:Y8) (a3:Int) (a4:Int):=(S_q56 a0 a1 a2 a3 a4).den
theorem F_q56_ok {a0:TTr} {a1:Int} {a2:Y8} {a3:Int} {a4:Int}:FO (F_q56 a0 a1 a2 a3 a4) 40 [(TTr.d a0),(vi a1),(AV.d (DV.str a2)),(vi a3),(vi a4)] [] (fun x=>(AV.tup [(TTr.d x.1),(vi x.2)])) NL:=fO (s:=S_q56 a0 a1 a2 a3 a4) Tryz.func40
def S_q57 (a0:TTr) (a1:Int) (a2:Y8) (a3:Int) (a4:Int):SC (TTr×Int) (TTr×Int) :=
 let e22_:=(TTr.b (⟨0,[]⟩:TTr))
.reg 0 [] [(1,{ obs:=[(1,e22_)] })] [.pf z2b]<|
.a 1 4 2 (@F_q23_ok a0 a1 a2 a3) fun rv1=>
 let e11_:=(TTr.d (⟨0,[]⟩:TTr))
.ite (rv1.2 != 0) (
.reg 3 [] [(0,hv e11_)] [.pf z1j]<|
.r ((⟨0,[]⟩:TTr),rv1.2)) (
.ite (cO (decide (a4<1)) (decide (a4>1000000000000000))) (
.reg 5 [] [(0,hv e11_)] [.pf z1j]<|
.r ((⟨0,[]⟩:TTr),2)) (
 let e4_:=(i64.wrap (a1-1))
 let e5_:=((rv1.1).toNat)
 let e10_:=(a0.B.getD e5_ dF)
.guard [(0:Int)<=rv1.1,(rv1.1).toNat<a0.B.length,(0:Int)<=e4_,(e4_).toNat<(e10_.K).length,(e4_).toNat<(e10_.A).length]<|
.reg 6 [] [] [.ev 0,.ev 1,.ev 2,.ev 3,.ev 0,.ev 1,.ev 2,.ev 4]<|
.ite (decide ((i64.wrap (((e10_.K).getD ((e4_).toNat) dF)+a4))>((e10_.A).getD ((e4_).toNat) dF))) (
.reg 7 [] [(0,hv e11_)] [.pf z1j]<|
.r ((⟨0,[]⟩:TTr),15)) (
.call (@F_q12_ok a0 e5_) fun rv2 cv2=>
.reg 8 [] [(1,hc cv2 [] false),(2,{ obs:=[(10,e22_)] })] [.cl 0 cv2 [] 2 false,.pf z2b]<|
.kill 3<|
 let e0_:=(rv2.2.getD e5_ dF)
 let e20_:=(0+(e4_).toNat)
.guard [(rv1.1).toNat<rv2.2.length,(e4_).toNat<(e0_.K).length,e20_<(e0_.K).length]<|
 let e8_:=(i64.wrap (((e0_.K).getD e20_ dF)+a4))
 let e1_:=((e0_.K).set e20_ e8_)
 let e12_:=(eS 1 (DV.i .i64) e1_)
 let e19_:=((e0_.K).length)
 let e21_:=(AV.ptr 5 rv2.2.length [.x e5_ 7])
.reg 9 [] [(3,hv e21_),(13,{ obs:=[(8,e12_)] })] [.e rv2.2.length,.ev 5,.ev 0,.pf (p:=LeV (AV.ptr 5 rv2.2.length [.x (0+e5_) 7]) e21_) (z6e),.e rv2.2.length,.e rv2.2.length,.ev 0,.pf (p:=decide ((rv1.1).toNat=(rv1.1).toNat)=true) (yd rfl),.e e19_,.ev 7,.ev 1,.e e19_,.ev 2,.e e19_,.ev 7,.ev 1,.e e19_,.ev 2,.pf (zu (sz:=1) (e:=(DV.i .i64)) (l:=(e0_.K)) (i:=e20_) (x:=e8_) (fun _=>rfl))]<|
.reg 10 [] [] []<|
.guard [e1_.length=(e0_.K).length]<|
 let e13_:=(TTr.b a0)
 let e15_:=(eS 1 (DV.i .i64) (e0_.A))
 let e16_:=(eS 1 (DV.i .i64) (e0_.L))
 let e17_:=(eS 1 (DV.i .i64) (e0_.P))
 let e18_:=(AV.d (DV.str (e0_.D)))
.cst (A:=e1_.length=(e0_.K).length) (.ev 0) [(10,(vp 1)),(11,(vi 0))] [(10,(vp 1)),(11,(vi 0))] [e13_,(Ob.box (AV.agg [(vi rv2.1),(AV.ref 5 rv2.2.length 0 rv2.2.length)])),Ob.dead,Ob.dead,Ob.dead,(opS 7 TPo.e e5_ (AV.agg [e18_,(vi (e0_.E)),(vi (e0_.W)),(AV.ref 6 ((e0_.A).length) 0 ((e0_.A).length)),(AV.ref 7 ((e0_.L).length) 0 ((e0_.L).length)),(AV.ref 8 ((e0_.K).length) 0 ((e0_.K).length)),(AV.ref 9 ((e0_.P).length) 0 ((e0_.P).length))]) rv2.2),e15_,e16_,e12_,e17_,(Ob.box (AV.agg [(vi rv2.1),(AV.ref 5 rv2.2.length 0 rv2.2.length)]))] [e13_,(Ob.box (AV.agg [(vi rv2.1),(AV.ref 5 rv2.2.length 0 rv2.2.length)])),Ob.dead,Ob.dead,Ob.dead,(opS 7 TPo.e e5_ (AV.agg [e18_,(vi (e0_.E)),(vi (e0_.W)),(AV.ref 6 ((e0_.A).length) 0 ((e0_.A).length)),(AV.ref 7 ((e0_.L).length) 0 ((e0_.L).length)),(AV.ref 8 (e1_.length) 0 (e1_.length)),(AV.ref 9 ((e0_.P).length) 0 ((e0_.P).length))]) rv2.2),e15_,e16_,e12_,e17_,(Ob.box (AV.agg [(vi rv2.1),(AV.ref 5 rv2.2.length 0 rv2.2.length)]))] (fun h=>⟨rfl,by rw[h]⟩)<|
.guard [(e0_.A).length<2 ^ 63/\(e0_.L).length<2 ^ 63/\e1_.length<2 ^ 63/\(e0_.P).length<2 ^ 63]<|
 let e14_:=(⟨e0_.D,e0_.E,e0_.W,e0_.A,e0_.L,e1_,e0_.P⟩:TPo)
 let e2_:=(rv2.2.set e5_ e14_)
 let e3_:=(AV.agg [(vi rv2.1),(AV.ref 5 rv2.2.length 0 rv2.2.length)])
 let e6_:=[e13_,(Ob.box e3_),Ob.dead,Ob.dead,Ob.dead,(eS 7 TPo.e e2_),Ob.dead,Ob.dead,Ob.dead,Ob.dead,(Ob.box e3_)]
 let e7_:=[(10,(vp 1)),(11,(vi 0))]
.sh (A:=(e0_.A).length<2 ^ 63/\(e0_.L).length<2 ^ 63/\e1_.length<2 ^ 63/\(e0_.P).length<2 ^ 63) (.ev 0) e7_ e7_ [e13_,(Ob.box e3_),Ob.dead,Ob.dead,Ob.dead,(opS 7 TPo.e e5_ (AV.agg [e18_,(vi (e0_.E)),(vi (e0_.W)),(AV.ref 6 ((e0_.A).length) 0 ((e0_.A).length)),(AV.ref 7 ((e0_.L).length) 0 ((e0_.L).length)),(AV.ref 8 (e1_.length) 0 (e1_.length)),(AV.ref 9 ((e0_.P).length) 0 ((e0_.P).length))]) rv2.2),e15_,e16_,e12_,e17_,(Ob.box e3_)] e6_ (fun h=>z3j oTApiPot (P:=[e13_,(Ob.box e3_),Ob.dead,Ob.dead,Ob.dead]) (D:=[(Ob.box e3_)]) rfl (⟨e0_.D,e0_.E,e0_.W,[],[],[],[]⟩:TPo) e14_ h rfl) (z2a _)<|
 let e9_:=(AV.agg [(vi rv2.1),(AV.ref 5 (e2_.length) 0 (e2_.length))])
.cst (A:=True) (.pf trivial) e7_ e7_ e6_ [e13_,(Ob.box e9_),Ob.dead,Ob.dead,Ob.dead,(eS 7 TPo.e e2_),Ob.dead,Ob.dead,Ob.dead,Ob.dead,(Ob.box e9_)] (fun _=>⟨by simp +zetaDelta only,by simp +zetaDelta only[ya]⟩)<|
.guard [e2_.length<2 ^ 63]<|
.frz 5 (.ev 0) none [] [1,10]<|
.r ((⟨rv2.1,e2_⟩:TTr),0))))
def F_q57 (a0:TTr) (a1:Int) (a2:Y8) (a3:Int) (a4:Int):=(S_q57 a0 a1 a2 a3 a4).den
theorem F_q57_ok {a0:TTr} {a1:Int} {a2:Y8} {a3:Int} {a4:Int}:FO (F_q57 a0 a1 a2 a3 a4) 41 [(TTr.d a0),(vi a1),(AV.d (DV.str a2)),(vi a3),(vi a4)] [] (fun x=>(AV.tup [(TTr.d x.1),(vi x.2)])) NL:=fO (s:=S_q57 a0 a1 a2 a3 a4) Tryz.func41
def S_q58 (a0:TTr) (a1:Int) (a2:Y8) (a3:Int):SC (TMe×Int) (TMe×Int) :=
.a 1 4 2 (@F_q23_ok a0 a1 a2 a3) fun rv1=>
.ite (rv1.2 != 0) (
.r ((⟨0,0,[],0,0,0,0,0⟩:TMe),rv1.2)) (
 let e0_:=(a0.B.getD ((rv1.1).toNat) dF)
 let e1_:=(i64.wrap (a1-1))
.guard [(0:Int)<=rv1.1,(rv1.1).toNat<a0.B.length,(0:Int)<=e1_,(e1_).toNat<(e0_.A).length,(e1_).toNat<(e0_.K).length]<|
.reg 4 [24] [] [.ev 0,.ev 1,.ev 2,.ev 3,.ev 0,.ev 1,.ev 2,.ev 4]<|
.r ((⟨0,a1,a2,a3,((e0_.A).getD ((e1_).toNat) dF),((e0_.K).getD ((e1_).toNat) dF),0,0⟩:TMe),0))
def F_q58 (a0:TTr) (a1:Int) (a2:Y8) (a3:Int):=(S_q58 a0 a1 a2 a3).den
theorem F_q58_ok {a0:TTr} {a1:Int} {a2:Y8} {a3:Int}:FO (F_q58 a0 a1 a2 a3) 42 [(TTr.d a0),(vi a1),(AV.d (DV.str a2)),(vi a3)] [] (fun x=>(AV.tup [(TMe.d x.1),(vi x.2)])) NL:=fO (s:=S_q58 a0 a1 a2 a3) Tryz.func42
def S_q3q (a0:TWo) (a1:TMe):SC (TWo×Int) (TWo×Int) :=
 let e1_:=(⟨(⟨0,[]⟩:TTr),[],[]⟩:TWo)
.reg 0 [] [(2,{ obs:=[(2,(TWo.b e1_))] })] [.pf cz1]<|
.ite ((a0.V.length:Int)==200) (
.reg 2 [] [(0,hv (TWo.d e1_))] [.pf cz2]<|
.r (e1_,3)) (
.guard [a0.V.length * (2 * 72)<=2 ^ 48,(a0.V.length+1) * (2 * 72)<=2 ^ 48]<|
 let e0_:=([a1]:List TMe)
.reg 3 [3,6,8] [(3,{ h:=.obj }),(5,hv (AV.d (eL TMe.e e0_))),(6,{ cast:=some (AV.ref 3 ((a0.V++e0_).length) 0 ((a0.V++e0_).length)),obs:=[(3,(eS 8 TMe.e (a0.V++e0_)))] })] [.pf (p:=∀ k,k<a0.V.length->(TMe.d (a0.V.getD k dF)).wd=8) (fun _ _=>rfl),.ev 0,.pf (ze TMe.e e0_),.pf (ze TMe.e e0_),.e a0.V.length,.e a0.V.length,.pf (p:=∀ k,k<1->(TMe.d (e0_.getD k dF)).wd=8) (fun _ _=>rfl),.ev 1,.pf (z11 (o:=3) (l:=a0.V) (x:=e0_)),.pf (z13 (sz:=8) (e:=TMe.e) (l:=a0.V) (x:=e0_))]<|
.guard [(a0.V++e0_).length<2 ^ 63]<|
.frz 3 (.ev 0) none [] [0]<|
.r ((⟨a0.F,a0.H,(a0.V++e0_)⟩:TWo),0))
def F_q3q (a0:TWo) (a1:TMe):=(S_q3q a0 a1).den
theorem F_q3q_ok {a0:TWo} {a1:TMe}:FO (F_q3q a0 a1) 43 [(TWo.d a0),(TMe.d a1)] [] (fun x=>(AV.tup [(TWo.d x.1),(vi x.2)])) NL:=fO (s:=S_q3q a0 a1) Tryz.func43
def S_q46 (a0:TJo):SC Bool Bool :=
.call (@F_qt_ok a0) fun rv1 cv1=>
 let e0_:=(TOf.b (⟨0,[],(⟨[],[],[],[]⟩:TBo)⟩:TOf))
.reg 1 [] [(1,hc cv1 [] true),(6,{ obs:=[(1,e0_)] }),(7,{ obs:=[(2,e0_)] })] [.cl 0 cv1 [] 1 true,.pf cz5,.pf cz5]<|
.r rv1.2.2
def F_q46 (a0:TJo):=(S_q46 a0).den
theorem F_q46_ok {a0:TJo}:FO (F_q46 a0) 124 [(TJo.d a0)] [] vb NL:=fO (s:=S_q46 a0) Tryz.func124
def S_q59 (a0:TJo):SC TJo TJo :=
.reg 0 [] [(1,{ obs:=[(1,(TJo.b (⟨0,[],0⟩:TJo)))] })] [.pf z3m]<|
.a 1 1 2 (@F_q46_ok a0) fun rv1=>
.cut none [1,2] (fun (_:TJo)=>[]) (fun sv2=>[(0,(TJo.b sv2))]) (
.ite rv1 (
.r (.next (⟨a0.Y,a0.Ab,(a0.Ab.length:Int)⟩:TJo))) (
.r (.next a0))) fun sv2=>
.r sv2
def F_q59 (a0:TJo):=(S_q59 a0).den
theorem F_q59_ok {a0:TJo}:FO (F_q59 a0) 80 [(TJo.d a0)] [] (fun x=>(TJo.d x)) NL:=fO (s:=S_q59 a0) Tryz.func80
def S_q33 (a0:TWo) (a1:TJo):SC TWo TWo :=
 let e2_:=(TWo.b (⟨(⟨0,[]⟩:TTr),[],[]⟩:TWo))
.reg 0 [] [(2,{ obs:=[(2,e2_)] })] [.pf cz1]<|
.guard [a0.H.length * (2 * 40)<=2 ^ 48]<|
.reg 1 [] [(3,{ h:=.obj })] [.pf (p:=∀ k,k<a0.H.length->(TJo.d (a0.H.getD k dF)).wd=3) (fun _ _=>rfl),.ev 0]<|
 let e1_:=(i64.wrap (a1.Y-1))
 let e4_:=(0+(e1_).toNat)
.guard [(0:Int)<=e1_,(e1_).toNat<a0.H.length,e4_<a0.H.length]<|
 let e0_:=(a0.H.set e4_ a1)
 let e3_:=(eS 3 TJo.e e0_)
.reg 2 [] [(7,{ obs:=[(3,e3_)] })] [.e a0.H.length,.ev 0,.ev 1,.e a0.H.length,.ev 2,.pf (zu (sz:=3) (e:=TJo.e) (l:=a0.H) (i:=e4_) (x:=a1) (fun _=>rfl))]<|
 let e5_:=[(2,(vp 0)),(4,(vp 2))]
.cst (A:=True) (.pf trivial) e5_ e5_ [(Ob.box (AV.agg [(TTr.d a0.F),(AV.ref 3 a0.H.length 0 a0.H.length),(AV.d (eL TMe.e a0.V))])),(TJo.b a1),e2_,e3_] [(Ob.box (AV.agg [(TTr.d a0.F),(AV.ref 3 (e0_.length) 0 (e0_.length)),(AV.d (eL TMe.e a0.V))])),(TJo.b a1),e2_,e3_] (fun _=>⟨by simp +zetaDelta only,by simp +zetaDelta only[ya]⟩)<|
.guard [e0_.length<2 ^ 63]<|
.reg 3 [] [] []<|
.frz 3 (.ev 0) none [] [0,2]<|
.r (⟨a0.F,e0_,a0.V⟩:TWo)
def F_q33 (a0:TWo) (a1:TJo):=(S_q33 a0 a1).den
theorem F_q33_ok {a0:TWo} {a1:TJo}:FO (F_q33 a0 a1) 79 [(TWo.d a0),(TJo.d a1)] [] (fun x=>(TWo.d x)) NL:=fO (s:=S_q33 a0 a1) Tryz.func79
theorem ztp:∀ k,k<0->(DV.b false).wd=10:=fun _ h=>absurd h (y2i _)
def S_q5a (a0:TJo):SC TJo TJo :=
.reg 0 [] [(1,{ obs:=[(1,(TJo.b (⟨0,[],0⟩:TJo)))] })] [.pf z3m]<|
.a 1 1 2 (@F_q46_ok a0) fun rv1=>
.cut none [1,2] (fun (_:TJo)=>[]) (fun sv2=>[(0,(TJo.b sv2))]) (
.ite rv1 (
 let e0_:=(a0.Ab.take ((a0.Ag).toNat))
.guard [(0:Int)<=a0.Ag,(a0.Ag).toNat<=a0.Ab.length,(0+e0_.length) * (2 * 88)<=2 ^ 48]<|
.reg 2 [] [(5,hv (AV.d (eL TOp.e e0_))),(6,hv (AV.d (eL TOp.e e0_)))] [.ev 0,.ev 1,.der (fun (h0:(a0.Ag).toNat<=a0.Ab.length)=>lvT TOp.e a0.Ab h0) 1,.pf (p:=∀ k,k<e0_.length->AV.d (TOp.e (e0_.getD k dF))=AV.d (TOp.e (e0_.getD k dF))/\(TOp.e (e0_.getD k dF)).wd=10) (fun _ _=>⟨rfl,rfl⟩),.pf ztp,.ev 2,.pf (z3q (e:=TOp.e) (x:=e0_))]<|
.r (.next (⟨a0.Y,e0_,a0.Ag⟩:TJo))) (
.r (.next a0))) fun sv2=>
.r sv2
def F_q5a (a0:TJo):=(S_q5a a0).den
theorem F_q5a_ok {a0:TJo}:FO (F_q5a a0) 81 [(TJo.d a0)] [] (fun x=>(TJo.d x)) NL:=fO (s:=S_q5a a0) Tryz.func81
theorem zej:LeV (AV.d (DV.agg [(DV.i .i64 0),Z0,(DV.i .i64 0)])) (TJo.d (⟨0,[],0⟩:TJo)):=z2p rfl (DLe.agg (DLeL.cons (DLe.refl _) (DLeL.cons DLe.sl0 (DLeL.cons (DLe.refl _) DLeL.nil))))
def S_q47 (a0:TJo) (a1:TOp):SC (TJo×Int) (TJo×Int) :=
 let e1_:=(⟨0,[],0⟩:TJo)
.reg 0 [] [(2,{ obs:=[(2,(TJo.b e1_))] })] [.pf z3m]<|
.call (@F_q3o_ok a0) fun rv1 cv1=>
 let e2_:=(TOf.b (⟨0,[],(⟨[],[],[],[]⟩:TBo)⟩:TOf))
.reg 1 [] [(1,hc cv1 [] true),(5,{ obs:=[(3,e2_)] })] [.cl 0 cv1 [] 3 true,.pf cz5]<|
.calld [(rv1.2 != 0)=false] dF (@F_q7_ok a1) fun rv2 cv2 =>
.reg 2 [] [(4,hc cv2 [] true)] [.clg 0 [(rv1.2 != 0)=false] cv2 [] 4 true]<|
 let e3_:=(0,hv (TJo.d e1_))
.ite (cO (rv1.2 != 0) (!rv2)) (
.reg 3 [] [e3_] [.pf zej]<|
.r (e1_,1)) (
.call (@F_q44_ok rv1.1 a1) fun rv3 cv3=>
.reg 4 [] [(2,hc cv3 [] true),(6,{ obs:=[(4,e2_)] })] [.cl 0 cv3 [] 4 true,.pf cz5]<|
.ite (rv3.2 != 0) (
.reg 6 [] [e3_] [.pf zej]<|
.r (e1_,rv3.2)) (
.ite ((a0.Ab.length:Int)==400) (
.reg 8 [] [e3_] [.pf zej]<|
.r (e1_,3)) (
.guard [a0.Ab.length * (2 * 88)<=2 ^ 48,(a0.Ab.length+1) * (2 * 88)<=2 ^ 48]<|
 let e0_:=([a1]:List TOp)
.reg 9 [3,6,8] [(3,{ h:=.obj }),(5,hv (AV.d (eL TOp.e e0_))),(6,{ cast:=some (AV.ref 5 ((a0.Ab++e0_).length) 0 ((a0.Ab++e0_).length)),obs:=[(5,(eS 10 TOp.e (a0.Ab++e0_)))] })] [.pf (p:=∀ k,k<a0.Ab.length->(TOp.d (a0.Ab.getD k dF)).wd=10) (fun _ _=>rfl),.ev 0,.pf (ze TOp.e e0_),.pf (ze TOp.e e0_),.e a0.Ab.length,.e a0.Ab.length,.pf (p:=∀ k,k<1->(TOp.d (e0_.getD k dF)).wd=10) (fun _ _=>rfl),.ev 1,.pf (z11 (o:=5) (l:=a0.Ab) (x:=e0_)),.pf (z13 (sz:=10) (e:=TOp.e) (l:=a0.Ab) (x:=e0_))]<|
.guard [(a0.Ab++e0_).length<2 ^ 63]<|
.frz 5 (.ev 0) none [] [0]<|
.r ((⟨a0.Y,(a0.Ab++e0_),a0.Ag⟩:TJo),0))))
def F_q47 (a0:TJo) (a1:TOp):=(S_q47 a0 a1).den
theorem F_q47_ok {a0:TJo} {a1:TOp}:FO (F_q47 a0 a1) 82 [(TJo.d a0),(TOp.d a1)] [] (fun x=>(AV.tup [(TJo.d x.1),(vi x.2)])) NL:=fO (s:=S_q47 a0 a1) Tryz.func82
def S_q5b (a0:TJo):SC (TOf×Int) (TOf×Int) :=
 let e0_:=(⟨0,[],(⟨[],[],[],[]⟩:TBo)⟩:TOf)
 let e1_:=(TOf.b e0_)
.reg 0 [] [(1,{ obs:=[(1,e1_)] })] [.pf cz5]<|
.call (@F_qt_ok a0) fun rv1 cv1=>
.reg 1 [] [(1,hc cv1 [] true),(6,{ obs:=[(2,e1_)] }),(7,{ obs:=[(3,e1_)] })] [.cl 0 cv1 [] 2 true,.pf cz5,.pf cz5]<|
.ite (!rv1.2.2) (
.reg 3 [] [(0,hv (TOf.d e0_))] [.pf cz6]<|
.r (e0_,1)) (
.r (rv1.2.1,0))
def F_q5b (a0:TJo):=(S_q5b a0).den
theorem F_q5b_ok {a0:TJo}:FO (F_q5b a0) 83 [(TJo.d a0)] [] (fun x=>(AV.tup [(TOf.d x.1),(vi x.2)])) NL:=fO (s:=S_q5b a0) Tryz.func83
end
end Go.Proofs.YtlhikmklpelceaaGreatDoor
/- What the functions compute,and that their calls return it. No condition. -/
namespace Go.Proofs.YtlhikmklpelceaaGreatDoor
open Go Go.TA
open Go.IntKind (i64)
noncomputable section
set_option maxRecDepth 100000
def S_q5c (a0:TOf) (a1:Y8) (a2:Int):SC (TMe×Int) (TMe×Int) :=
.a 1 1 2 (@F_q9_ok a0) fun rv1=>
 let e0_:=(⟨0,0,[],0,0,0,0,0⟩:TMe)
.ite (!rv1) (
.r (e0_,1)) (
.a 3 3 2 (@F_qz_ok a0 a1 a2) fun rv2=>
.ite (decide (rv2<0)) (
.r (e0_,6)) (
.call (@F_q1z_ok a0 a1 a2) fun rv3 cv3=>
.call (@F_qf_ok a0.Ae a1 a2) fun rv4 cv4=>
.reg 5 [15] [(7,hc cv3 [] true),(13,hc cv4 [] true)] [.cl 1 cv3 [] 2 true,.cl 0 cv4 [] 2 true]<|
.r ((⟨a0.O,0,a1,a2,0,0,rv3.M,rv4⟩:TMe),0)))
def F_q5c (a0:TOf) (a1:Y8) (a2:Int):=(S_q5c a0 a1 a2).den
theorem F_q5c_ok {a0:TOf} {a1:Y8} {a2:Int}:FO (F_q5c a0 a1 a2) 84 [(TOf.d a0),(AV.d (DV.str a1)),(vi a2)] [] (fun x=>(AV.tup [(TMe.d x.1),(vi x.2)])) NL:=fO (s:=S_q5c a0 a1 a2) Tryz.func84
def S_q5d (a0:TWo) (a1:TSt):SC (TWo×Int) (TWo×Int) :=
 let e0_:=(⟨(⟨0,[]⟩:TTr),[],[]⟩:TWo)
.reg 0 [] [(2,{ obs:=[(2,(TWo.b e0_))] })] [.pf cz1]<|
.a 1 3 3 (@F_q3n_ok a0 a1.Y) fun rv1=>
 let e2_:=(0,hv (TWo.d e0_))
.ite (!rv1) (
.reg 2 [] [e2_] [.pf cz2]<|
.r (e0_,6)) (
 let e3_:=(i64.wrap (a1.Y-1))
.guard [(0:Int)<=e3_,(e3_).toNat<a0.H.length]<|
 let e4_:=(TJo.b (⟨0,[],0⟩:TJo))
.reg 3 [] [(7,{ obs:=[(3,e4_)] })] [.ev 0,.ev 1,.pf z3m]<|
 let e1_:=(a0.H.getD ((e3_).toNat) dF)
.ite (a1.Q==6) (
.call (@F_q59_ok e1_) fun rv2 cv2=>
.call (@F_q33_ok a0 rv2) fun rv3 cv3=>
.reg 6 [4] [(2,hc cv2 [] true),(3,hc cv3 [] true)] [.cl 1 cv2 [] 4 true,.cl 0 cv3 [] 4 true]<|
.r (rv3,0)) (
.ite (a1.Q==7) (
.call (@F_q5a_ok e1_) fun rv4 cv4=>
.call (@F_q33_ok a0 rv4) fun rv5 cv5=>
.reg 8 [4] [(2,hc cv4 [] true),(3,hc cv5 [] true)] [.cl 1 cv4 [] 4 true,.cl 0 cv5 [] 4 true]<|
.r (rv5,0)) (
.ite (a1.Q==5) (
.ite (a1.Op.Q==8) (
.reg 11 [] [e2_] [.pf cz2]<|
.r (e0_,9)) (
.call (@F_q47_ok e1_ a1.Op) fun rv6 cv6=>
.reg 12 [] [(3,hc cv6 [] true),(7,{ obs:=[(4,e4_)] })] [.cl 0 cv6 [] 4 true,.pf z3m]<|
.ite (rv6.2 != 0) (
.reg 14 [] [e2_] [.pf cz2]<|
.r (e0_,rv6.2)) (
.a 15 2 5 (@F_q33_ok a0 rv6.1) fun rv7=>
.r (rv7,0)))) (
.call (@F_q5b_ok e1_) fun rv8 cv8=>
.reg 16 [] [(1,hc cv8 [] true),(5,{ obs:=[(4,(TOf.b (⟨0,[],(⟨[],[],[],[]⟩:TBo)⟩:TOf)))] })] [.cl 0 cv8 [] 4 true,.pf cz5]<|
.a 17 5 5 (@F_q5c_ok rv8.1 a1.D a1.E) fun rv9=>
.ite (rv9.2 != 0) (
.reg 19 [] [e2_] [.pf cz2]<|
.r (e0_,rv9.2)) (
.a 20 2 6 (@F_q3q_ok a0 rv9.1) fun rv10=>
.r (rv10.1,rv10.2))))))
def F_q5d (a0:TWo) (a1:TSt):=(S_q5d a0 a1).den
theorem F_q5d_ok {a0:TWo} {a1:TSt}:FO (F_q5d a0 a1) 44 [(TWo.d a0),(TSt.d a1)] [] (fun x=>(AV.tup [(TWo.d x.1),(vi x.2)])) NL:=fO (s:=S_q5d a0 a1) Tryz.func44
def S_q5e (a0:TTr) (a1:TMe):SC (TTr×Int) (TTr×Int) :=
 let e28_:=(TTr.b (⟨0,[]⟩:TTr))
.reg 0 [] [(2,{ obs:=[(2,e28_)] })] [.pf z2b]<|
.a 1 1 3 (@F_qw_ok a0) fun rv1=>
 let e15_:=(TTr.d (⟨0,[]⟩:TTr))
.ite (cO (!rv1) (a1.To != 0)) (
.reg 2 [] [(0,hv e15_)] [.pf z1j]<|
.r ((⟨0,[]⟩:TTr),1)) (
.a 3 7 3 (@F_q23_ok a0 a1.Aa a1.D a1.E) fun rv2=>
.ite (rv2.2 != 0) (
.reg 5 [] [(0,hv e15_)] [.pf z1j]<|
.r ((⟨0,[]⟩:TTr),rv2.2)) (
 let e4_:=(i64.wrap (a1.Aa-1))
 let e9_:=((rv2.1).toNat)
 let e20_:=(decide (a1.M<0))
 let e29_:=((a0.B.getD e9_ dF).A)
 let e6_:=(cO e20_ (decide (a1.M>(e29_.getD ((e4_).toNat) dF))))
.calld [e6_=false] dF (@F_qe_ok a1.P) fun rv3 cv3 =>
.guard [AllP [e20_=false]->((0:Int)<=rv2.1),AllP [e20_=false]->((rv2.1).toNat<a0.B.length),AllP [e20_=false]->((0:Int)<=e4_),AllP [e20_=false]->((e4_).toNat<e29_.length)]<|
.reg 6 [] [(22,hc cv3 [] true)] [.ev 0,.ev 1,.ev 2,.ev 3,.clg 4 [e6_=false] cv3 [] 3 true]<|
.ite (cO e6_ (!rv3)) (
.reg 7 [] [(0,hv e15_)] [.pf z1j]<|
.r ((⟨0,[]⟩:TTr),2)) (
.call (@F_q12_ok a0 e9_) fun rv4 cv4=>
.reg 8 [] [(1,hc cv4 [] false),(2,{ obs:=[(11,e28_)] })] [.cl 0 cv4 [] 3 false,.pf z2b]<|
.kill 4<|
 let e1_:=(rv4.2.getD e9_ dF)
 let e12_:=(0+(e4_).toNat)
.guard [(0:Int)<=rv2.1,(rv2.1).toNat<rv4.2.length,(0:Int)<=e4_,(e4_).toNat<(e1_.L).length,e12_<(e1_.L).length]<|
 let e10_:=((e1_.L).getD e12_ dF)
 let e27_:=(if a1.M>e10_ then a1.M else e10_)
 let e0_:=((e1_.L).set e12_ e27_)
 let e7_:=(AV.ptr 6 rv4.2.length [.x e9_ 7])
 let e11_:=(AV.ptr 6 rv4.2.length [.x (0+e9_) 7])
 let e16_:=(eS 1 (DV.i .i64) e0_)
 let e21_:=((rv2.1).toNat=(rv2.1).toNat)
 let e26_:=((e1_.L).length)
.reg 9 [24] [(3,hv e7_),(12,hv e7_),(24,{ obs:=[(8,e16_)] })] [.e rv4.2.length,.ev 0,.ev 1,.pf (p:=LeV e11_ e7_) (z6e),.e rv4.2.length,.e rv4.2.length,.ev 1,.pf (p:=decide e21_=true) (yd rfl),.e rv4.2.length,.ev 0,.ev 1,.pf (p:=LeV e11_ e7_) (z6e),.e rv4.2.length,.e rv4.2.length,.ev 1,.pf (p:=decide e21_=true) (yd rfl),.e e26_,.ev 2,.ev 3,.e e26_,.ev 4,.e e26_,.ev 2,.ev 3,.e e26_,.ev 4,.pf (zu (sz:=1) (e:=(DV.i .i64)) (l:=(e1_.L)) (i:=e12_) (x:=e27_) (fun _=>rfl))]<|
.guard [(e4_).toNat<(e1_.P).length,e12_<(e1_.P).length]<|
 let e2_:=((e1_.P).set e12_ a1.P)
 let e17_:=(eS 1 (DV.i .i64) e2_)
.reg 10 [12] [(3,hv e7_),(12,{ obs:=[(10,e17_)] })] [.e rv4.2.length,.ev 2,.ev 3,.pf (p:=LeV e11_ e7_) (z6e),.e rv4.2.length,.e rv4.2.length,.ev 3,.pf (p:=decide e21_=true) (yd rfl),.e ((e1_.P).length),.ev 4,.ev 0,.e ((e1_.P).length),.ev 1,.pf (zu (sz:=1) (e:=(DV.i .i64)) (l:=(e1_.P)) (i:=e12_) (x:=a1.P) (fun _=>rfl))]<|
.reg 11 [] [] []<|
.guard [e0_.length=(e1_.L).length/\e2_.length=(e1_.P).length]<|
 let e18_:=(TTr.b a0)
 let e19_:=(TMe.b a1)
 let e23_:=(eS 1 (DV.i .i64) (e1_.A))
 let e24_:=(eS 1 (DV.i .i64) (e1_.K))
 let e25_:=(AV.d (DV.str (e1_.D)))
.cst (A:=e0_.length=(e1_.L).length/\e2_.length=(e1_.P).length) (.ev 0) [(4,(vp 2)),(5,(vi 0))] [(4,(vp 2)),(5,(vi 0))] [e18_,e19_,(Ob.box (AV.agg [(vi rv4.1),(AV.ref 6 rv4.2.length 0 rv4.2.length)])),Ob.dead,Ob.dead,Ob.dead,(opS 7 TPo.e e9_ (AV.agg [e25_,(vi (e1_.E)),(vi (e1_.W)),(AV.ref 7 ((e1_.A).length) 0 ((e1_.A).length)),(AV.ref 8 ((e1_.L).length) 0 ((e1_.L).length)),(AV.ref 9 ((e1_.K).length) 0 ((e1_.K).length)),(AV.ref 10 ((e1_.P).length) 0 ((e1_.P).length))]) rv4.2),e23_,e16_,e24_,e17_,(Ob.box (AV.agg [(vi rv4.1),(AV.ref 6 rv4.2.length 0 rv4.2.length)]))] [e18_,e19_,(Ob.box (AV.agg [(vi rv4.1),(AV.ref 6 rv4.2.length 0 rv4.2.length)])),Ob.dead,Ob.dead,Ob.dead,(opS 7 TPo.e e9_ (AV.agg [e25_,(vi (e1_.E)),(vi (e1_.W)),(AV.ref 7 ((e1_.A).length) 0 ((e1_.A).length)),(AV.ref 8 (e0_.length) 0 (e0_.length)),(AV.ref 9 ((e1_.K).length) 0 ((e1_.K).length)),(AV.ref 10 (e2_.length) 0 (e2_.length))]) rv4.2),e23_,e16_,e24_,e17_,(Ob.box (AV.agg [(vi rv4.1),(AV.ref 6 rv4.2.length 0 rv4.2.length)]))] (fun h=>⟨rfl,by rw[h.1,h.2]⟩)<|
.guard [(e1_.A).length<2 ^ 63/\e0_.length<2 ^ 63/\(e1_.K).length<2 ^ 63/\e2_.length<2 ^ 63]<|
 let e22_:=(⟨e1_.D,e1_.E,e1_.W,e1_.A,e0_,e1_.K,e2_⟩:TPo)
 let e3_:=(rv4.2.set e9_ e22_)
 let e5_:=(AV.agg [(vi rv4.1),(AV.ref 6 rv4.2.length 0 rv4.2.length)])
 let e8_:=[e18_,e19_,(Ob.box e5_),Ob.dead,Ob.dead,Ob.dead,(eS 7 TPo.e e3_),Ob.dead,Ob.dead,Ob.dead,Ob.dead,(Ob.box e5_)]
 let e14_:=[(4,(vp 2)),(5,(vi 0))]
.sh (A:=(e1_.A).length<2 ^ 63/\e0_.length<2 ^ 63/\(e1_.K).length<2 ^ 63/\e2_.length<2 ^ 63) (.ev 0) e14_ e14_ [e18_,e19_,(Ob.box e5_),Ob.dead,Ob.dead,Ob.dead,(opS 7 TPo.e e9_ (AV.agg [e25_,(vi (e1_.E)),(vi (e1_.W)),(AV.ref 7 ((e1_.A).length) 0 ((e1_.A).length)),(AV.ref 8 (e0_.length) 0 (e0_.length)),(AV.ref 9 ((e1_.K).length) 0 ((e1_.K).length)),(AV.ref 10 (e2_.length) 0 (e2_.length))]) rv4.2),e23_,e16_,e24_,e17_,(Ob.box e5_)] e8_ (fun h=>z3j oTApiPot (P:=[e18_,e19_,(Ob.box e5_),Ob.dead,Ob.dead,Ob.dead]) (D:=[(Ob.box e5_)]) rfl (⟨e1_.D,e1_.E,e1_.W,[],[],[],[]⟩:TPo) e22_ h rfl) (z2a _)<|
 let e13_:=(AV.agg [(vi rv4.1),(AV.ref 6 (e3_.length) 0 (e3_.length))])
.cst (A:=True) (.pf trivial) e14_ e14_ e8_ [e18_,e19_,(Ob.box e13_),Ob.dead,Ob.dead,Ob.dead,(eS 7 TPo.e e3_),Ob.dead,Ob.dead,Ob.dead,Ob.dead,(Ob.box e13_)] (fun _=>⟨by simp +zetaDelta only,by simp +zetaDelta only[ya]⟩)<|
.guard [e3_.length<2 ^ 63]<|
.frz 6 (.ev 0) none [] [2,11]<|
.r ((⟨rv4.1,e3_⟩:TTr),0))))
def F_q5e (a0:TTr) (a1:TMe):=(S_q5e a0 a1).den
theorem F_q5e_ok {a0:TTr} {a1:TMe}:FO (F_q5e a0 a1) 125 [(TTr.d a0),(TMe.d a1)] [] (fun x=>(AV.tup [(TTr.d x.1),(vi x.2)])) NL:=fO (s:=S_q5e a0 a1) Tryz.func125
def S_q3r (a0:TWo) (a1:Int):SC TWo TWo :=
.reg 0 [] [(1,{ obs:=[(1,(TWo.b (⟨(⟨0,[]⟩:TTr),[],[]⟩:TWo)))] })] [.pf cz1]<|
 let e2_:=(i64.wrap (a1+1))
 let e0_:=(a0.V.drop ((e2_).toNat))
 let e1_:=(a0.V.take ((a1).toNat))
.guard [(0:Int)<=a1,(a1).toNat<=a0.V.length,e1_.length * (2 * 72)<=2 ^ 48,(0:Int)<=e2_,(e2_).toNat<=a0.V.length,(e1_.length+e0_.length) * (2 * 72)<=2 ^ 48]<|
.reg 1 [5,11,13] [(4,hv (AV.d (eL TMe.e e1_))),(5,{ h:=.obj }),(10,hv (AV.d (eL TMe.e e0_))),(11,{ cast:=some (AV.ref 2 ((e1_++e0_).length) 0 ((e1_++e0_).length)),obs:=[(2,(eS 8 TMe.e (e1_++e0_)))] })] [.ev 0,.ev 1,.der (fun (h0:(a1).toNat<=a0.V.length)=>lvT TMe.e a0.V h0) 1,.pf (p:=∀ k,k<e1_.length->(TMe.d (e1_.getD k dF)).wd=8) (fun _ _=>rfl),.ev 2,.ev 3,.ev 4,.pf (lvD TMe.e a0.V ((e2_).toNat)),.ev 3,.ev 4,.pf (lvD TMe.e a0.V ((e2_).toNat)),.e (e1_.length),.e (e1_.length),.pf (p:=∀ k,k<e0_.length->(TMe.d (e0_.getD k dF)).wd=8) (fun _ _=>rfl),.ev 5,.pf (z11 (o:=2) (l:=e1_) (x:=e0_)),.pf (z13 (sz:=8) (e:=TMe.e) (l:=e1_) (x:=e0_))]<|
.guard [(e1_++e0_).length<2 ^ 63]<|
.frz 2 (.ev 0) none [] [0]<|
.r (⟨a0.F,a0.H,(e1_++e0_)⟩:TWo)
def F_q3r (a0:TWo) (a1:Int):=(S_q3r a0 a1).den
theorem F_q3r_ok {a0:TWo} {a1:Int}:FO (F_q3r a0 a1) 49 [(TWo.d a0),(vi a1)] [] (fun x=>(TWo.d x)) NL:=fO (s:=S_q3r a0 a1) Tryz.func49
def S_q5f (a0:TWo) (a1:Int):SC (TWo×Int) (TWo×Int) :=
 let e1_:=(⟨(⟨0,[]⟩:TTr),[],[]⟩:TWo)
.reg 0 [] [(1,{ obs:=[(1,(TWo.b e1_))] })] [.pf cz1]<|
.guard [(0:Int)<=a1,(a1).toNat<a0.V.length]<|
.reg 1 [] [] [.ev 0,.ev 1]<|
.cut none [1,2,4] (fun (_:TWo)=>[]) (fun sv1=>[(0,(TWo.b sv1))]) (
 let e0_:=(a0.V.getD ((a1).toNat) dF)
 let e3_:=(0,hv (TWo.d e1_))
.ite ((e0_.To)==0) (
.call (@F_q5e_ok a0.F e0_) fun rv2 cv2=>
.reg 3 [] [(3,hc cv2 [] true),(7,{ obs:=[(3,(TTr.b (⟨0,[]⟩:TTr)))] })] [.cl 0 cv2 [] 3 true,.pf z2b]<|
.ite (rv2.2 != 0) (
.reg 5 [] [e3_] [.pf cz2]<|
.r (.ret (e1_,rv2.2))) (
.r (.next (⟨rv2.1,a0.H,a0.V⟩:TWo)))) (
 let e2_:=(i64.wrap ((e0_.To)-1))
.call (@F_q47_ok (a0.H.getD ((e2_).toNat) dF) (⟨8,e0_.D,e0_.E,0,0,0,0,0,e0_.A,e0_.K⟩:TOp)) fun rv3 cv3=>
.guard [(0:Int)<=e2_,(e2_).toNat<a0.H.length]<|
.reg 7 [20,21] [(16,hc cv3 [] true),(20,{ obs:=[(3,(TJo.b (⟨0,[],0⟩:TJo)))] })] [.ev 0,.ev 1,.ev 0,.ev 1,.cl 2 cv3 [] 3 true,.cl 2 cv3 [] 4 true,.pf z3m]<|
.ite (rv3.2 != 0) (
.reg 9 [] [e3_] [.pf cz2]<|
.r (.ret (e1_,rv3.2))) (
.a 10 2 4 (@F_q33_ok a0 rv3.1) fun rv4=>
.r (.next rv4)))) fun sv1=>
.a 11 2 3 (@F_q3r_ok sv1 a1) fun rv5=>
.r (rv5,0)
def F_q5f (a0:TWo) (a1:Int):=(S_q5f a0 a1).den
theorem F_q5f_ok {a0:TWo} {a1:Int}:FO (F_q5f a0 a1) 85 [(TWo.d a0),(vi a1)] [] (fun x=>(AV.tup [(TWo.d x.1),(vi x.2)])) NL:=fO (s:=S_q5f a0 a1) Tryz.func85
def S_q5g (a0:TWo) (a1:TSt):SC (TWo×Int) (TWo×Int) :=
 let e0_:=(⟨(⟨0,[]⟩:TTr),[],[]⟩:TWo)
.reg 0 [] [(2,{ obs:=[(2,(TWo.b e0_))] })] [.pf cz1]<|
.ite (cO (decide (a1.Ai<0)) (decide (a1.Ai>=(a0.V.length:Int)))) (
.reg 2 [] [(0,hv (TWo.d e0_))] [.pf cz2]<|
.r (e0_,6)) (
.ite (a1.Q==9) (
.a 5 3 3 (@F_q5f_ok a0 a1.Ai) fun rv1=>
.r (rv1.1,rv1.2)) (
.ite (a1.Q==11) (
.call (@F_q3q_ok a0 (a0.V.getD ((a1.Ai).toNat) dF)) fun rv2 cv2=>
.guard [(0:Int)<=a1.Ai,(a1.Ai).toNat<a0.V.length]<|
.reg 7 [10] [(7,hc cv2 [] true)] [.ev 0,.ev 1,.cl 2 cv2 [] 3 true]<|
.r (rv2.1,rv2.2)) (
.a 8 3 3 (@F_q3r_ok a0 a1.Ai) fun rv3=>
.r (rv3,0))))
def F_q5g (a0:TWo) (a1:TSt):=(S_q5g a0 a1).den
theorem F_q5g_ok {a0:TWo} {a1:TSt}:FO (F_q5g a0 a1) 45 [(TWo.d a0),(TSt.d a1)] [] (fun x=>(AV.tup [(TWo.d x.1),(vi x.2)])) NL:=fO (s:=S_q5g a0 a1) Tryz.func45
def S_q2r (a0:TWo) (a1:TSt):SC (TWo×Int) (TWo×Int) :=
 let e0_:=(⟨(⟨0,[]⟩:TTr),[],[]⟩:TWo)
.reg 0 [] [(2,{ obs:=[(2,(TWo.b e0_))] })] [.pf cz1]<|
.a 1 1 3 (@F_q1_ok a0) fun rv1=>
 let e1_:=(0,hv (TWo.d e0_))
.ite (!rv1) (
.reg 2 [] [e1_] [.pf cz2]<|
.r (e0_,1)) (
.reg 3 [] [(2,{ obs:=[(3,(TTr.b (⟨0,[]⟩:TTr)))] })] [.pf z2b]<|
.cut (some 0) [2,4,6] (fun (sv2:TTr×Int)=>[(7,(vi sv2.2))]) (fun sv2=>[(3,(TTr.b sv2.1))]) (
.ite (a1.Q==1) (
.a 7 8 4 (@F_q1j_ok a0.F a1.D a1.E a1.S) fun rv3=>
.r (.next (rv3.1,rv3.2))) (
.ite (a1.Q==2) (
.a 9 10 4 (@F_q56_ok a0.F a1.Y a1.D a1.E a1.S) fun rv4=>
.r (.next (rv4.1,rv4.2))) (
.ite (a1.Q==3) (
.a 11 10 4 (@F_q57_ok a0.F a1.Y a1.D a1.E a1.S) fun rv5=>
.r (.next (rv5.1,rv5.2))) (
.ite (a1.Q==4) (
.a 13 8 4 (@F_q58_ok a0.F a1.Y a1.D a1.E) fun rv6=>
.ite (rv6.2 != 0) (
.reg 15 [] [e1_] [.pf cz2]<|
.r (.ret (e0_,rv6.2))) (
.a 16 2 5 (@F_q3q_ok a0 rv6.1) fun rv7=>
.r (.ret (rv7.1,rv7.2)))) (
.cut none [2,3,4,6,17] (fun (sv8:Bool)=>[(87,(vb sv8))]) (fun _=>[]) (
.ite (a1.Q==5) (
.r (.next (a1.Q==5))) (
.ite (a1.Q==6) (
.r (.next (a1.Q==6))) (
.ite (a1.Q==7) (
.r (.next (a1.Q==7))) (
.r (.next (a1.Q==8)))))) fun sv8=>
.ite sv8 (
.a 21 2 4 (@F_q5d_ok a0 a1) fun rv9=>
.r (.ret (rv9.1,rv9.2))) (
.cut none [2,3,4,6] (fun (sv10:Bool)=>[(97,(vb sv10))]) (fun _=>[]) (
.ite (a1.Q==9) (
.r (.next (a1.Q==9))) (
.ite (a1.Q==10) (
.r (.next (a1.Q==10))) (
.r (.next (a1.Q==11))))) fun sv10=>
.ite sv10 (
.a 25 2 4 (@F_q5g_ok a0 a1) fun rv11=>
.r (.ret (rv11.1,rv11.2))) (
.r (.next (a0.F,1))))))))) fun sv2=>
.ite (sv2.2 != 0) (
.reg 27 [] [e1_] [.pf cz2]<|
.r (e0_,sv2.2)) (
.r ((⟨sv2.1,a0.H,a0.V⟩:TWo),0)))
def F_q2r (a0:TWo) (a1:TSt):=(S_q2r a0 a1).den
theorem F_q2r_ok {a0:TWo} {a1:TSt}:FO (F_q2r a0 a1) 18 [(TWo.d a0),(TSt.d a1)] [] (fun x=>(AV.tup [(TWo.d x.1),(vi x.2)])) NL:=fO (s:=S_q2r a0 a1) Tryz.func18
abbrev R_q1k:=(List TSt)×TTape
def S_q1k_b1 (a1:Int) (a2:Int) (sv1:TTape×TWo×(List TSt)×Int×Int):SC R_q1k (Step (TTape×TWo×(List TSt)×Int×Int) R_q1k) :=
.ite (decide (sv1.2.2.2.2<a2)) (
.call (@F_q4_ok 9 sv1.1) fun rv2 cv2=>
 let e1_:=([0,1,rv2.1]:List Int)
.call (@F_qu_ok e1_ rv2.2) fun rv3 cv3=>
.reg 7 [] [(3,hc cv2 [0] false),(4,hv (vl e1_)),(5,hc cv3 [0] false)] [.cl 1 cv2 [0] 3 false,.pf (ze (DV.i .i64) e1_),.cl 0 cv3 [0] 3 false]<|
 let e2_:=(i64.wrap (sv1.2.2.2.1+rv3.1))
.call (@F_q32_ok sv1.2.1 a1 sv1.2.2.2.2 e2_ rv3.2) fun rv4 cv4=>
.k 8 5 cv4 [0] 3 false<|
.call (@F_q2r_ok sv1.2.1 rv4.1) fun rv5 cv5=>
.reg 9 [] [(2,hc cv5 [] true),(6,{ obs:=[(4,(TWo.b (⟨(⟨0,[]⟩:TTr),[],[]⟩:TWo)))] })] [.cl 0 cv5 [] 4 true,.pf cz1]<|
.cut none [0,1,2,7,9,10,11,12] (fun (_:TWo)=>[]) (fun sv6=>[(1,(TWo.b sv6))]) (
.ite (rv5.2==0) (
.r (.next rv5.1)) (
.r (.next sv1.2.1))) fun sv6=>
.guard [(sv1.2.2.1.length+1) * (2 * 144)<=2 ^ 48]<|
 let e0_:=([rv4.1]:List TSt)
 let e3_:=(sv1.2.2.1++e0_)
.reg 12 [] [(2,hv (AV.d (eL TSt.e e0_))),(3,{ h:=.obj,cast:=some (AV.ref 2 (e3_.length) 0 (e3_.length)),obs:=[(2,(eS 16 TSt.e e3_))] })] [.pf (ze TSt.e e0_),.e sv1.2.2.1.length,.e sv1.2.2.1.length,.pf (p:=∀ k,k<1->(TSt.d (e0_.getD k dF)).wd=16) (fun _ _=>rfl),.ev 0,.pf (z11 (o:=2) (l:=sv1.2.2.1) (x:=e0_)),.pf (z13 (sz:=16) (e:=TSt.e) (l:=sv1.2.2.1) (x:=e0_))]<|
.r (.cont (rv4.2,sv6,e3_,e2_,(i64.wrap (sv1.2.2.2.2+1))))) (
.r (.brk (sv1.1,sv1.2.1,sv1.2.2.1,sv1.2.2.2.1,sv1.2.2.2.2)))
def S_q1k (a1:Int) (a2:Int) (p0:TTape):SC R_q1k R_q1k :=
.call (@F_q1a_ok a1) fun rv7 cv7=>
.reg 1 [] [(1,hc cv7 [] true),(5,{ obs:=[(1,(TWo.b (⟨(⟨0,[]⟩:TTr),[],[]⟩:TWo)))] })] [.cl 0 cv7 [] 1 true,.pf cz1]<|
.reg 4 [] [] []<|
.bor 16 (fun j=>AV.d (TSt.e (([]:List TSt).getD j dF))) [9]<|
.iter [0,1,2,7] (fun (sv1:TTape×TWo×(List TSt)×Int×Int)=>[(9,(AV.ref 2 sv1.2.2.1.length 0 sv1.2.2.1.length)),(10,(vi sv1.2.2.2.1)),(11,(vi sv1.2.2.2.2))]) (fun sv1=>[(0,(TTape.b sv1.1)),(1,(TWo.b sv1.2.1)),(2,(eS 16 TSt.e sv1.2.2.1))]) (p0,rv7.1,([]:List TSt),4320,0) (S_q1k_b1 a1 a2) (fun sv1 =>
.guard [sv1.2.2.1.length<2 ^ 63]<|
.reg 13 [] [] []<|
.frz 2 (.ev 0) none [6] []<|
.r (sv1.2.2.1,sv1.1)) id
def F_q1k (a1:Int) (a2:Int) (p0:TTape):=(S_q1k a1 a2 p0).den
theorem F_q1k_ok {a1:Int} {a2:Int} {p0:TTape}:FO (F_q1k a1 a2 p0) 17 [(vp 0),(vi a1),(vi a2)] [(TTape.b p0)] (fun x=>(AV.d (eL TSt.e x.1))) (fun x=>[(TTape.b x.2)]):=fO (s:=S_q1k a1 a2 p0) Tryz.func17
abbrev R_q24:=TWo×TTape
def S_q24_b1 (rv1:R_q1k) (iv2:Nat) (sv3:TWo):SC R_q24 (Step (TWo) R_q24) :=
.reg 4 [] [] [.w iv2,.ev 0]<|
.call (@F_q2r_ok sv3 (rv1.1.getD iv2 dF)) fun rv4 cv4=>
.reg 5 [] [(2,hc cv4 [] true),(6,{ obs:=[(4,(TWo.b (⟨(⟨0,[]⟩:TTr),[],[]⟩:TWo)))] })] [.cl 0 cv4 [] 4 true,.pf cz1]<|
.ite (rv4.2==0) (
.c rv4.1) (
.c sv3)
def S_q24 (a1:Int) (a2:Int) (p0:TTape):SC R_q24 R_q24 :=
 let e0_:=(TWo.b (⟨(⟨0,[]⟩:TTr),[],[]⟩:TWo))
.reg 0 [] [(0,{ obs:=[(1,e0_)] })] [.pf cz1]<|
.call (@F_q1a_ok a1) fun rv5 cv5=>
.reg 1 [] [(1,hc cv5 [] true),(5,{ obs:=[(2,e0_)] })] [.cl 0 cv5 [] 2 true,.pf cz1]<|
.call (@F_q1k_ok a1 a2 p0) fun rv1 cv1=>
.k 2 3 cv1 [0] 3 false<|
.range (rv1.1.length:Int) rv1.1.length rfl (.slot 21) 23 [6,7,21,22] (fun (_:TWo)=>[]) (fun sv3=>[(2,(TWo.b sv3))]) rv5.1 (S_q24_b1 rv1) (fun sv3 => 
.r (sv3,rv1.2)) id
def F_q24 (a1:Int) (a2:Int) (p0:TTape):=(S_q24 a1 a2 p0).den
theorem F_q24_ok {a1:Int} {a2:Int} {p0:TTape}:FO (F_q24 a1 a2 p0) 5 [(vp 0),(vi a1),(vi a2)] [(TTape.b p0)] (fun x=>(TWo.d x.1)) (fun x=>[(TTape.b x.2)]):=fO (s:=S_q24 a1 a2 p0) Tryz.func5
def S_q6n (a0:TWo) (a1:Int):SC TWo TWo :=
 let e0_:=(TWo.b (⟨(⟨0,[]⟩:TTr),[],[]⟩:TWo))
.reg 0 [] [(1,{ obs:=[(1,e0_)] })] [.pf cz1]<|
.call (@F_q2r_ok a0 (⟨9,0,(⟨0,[],0,0,0,0,0,0,0,0⟩:TOp),[],0,0,a1⟩:TSt)) fun rv1 cv1=>
.reg 1 [] [(3,hc cv1 [] true),(7,{ obs:=[(2,e0_)] })] [.cl 0 cv1 [] 2 true,.pf cz1]<|
.ite (rv1.2 != 0) (
.a 3 2 3 (@F_q3r_ok a0 a1) fun rv2=>
.r rv2) (
.r rv1.1)
def F_q6n (a0:TWo) (a1:Int):=(S_q6n a0 a1).den
theorem F_q6n_ok {a0:TWo} {a1:Int}:FO (F_q6n a0 a1) 20 [(TWo.d a0),(vi a1)] [] (fun x=>(TWo.d x)) NL:=fO (s:=S_q6n a0 a1) Tryz.func20
end
end Go.Proofs.YtlhikmklpelceaaGreatDoor
