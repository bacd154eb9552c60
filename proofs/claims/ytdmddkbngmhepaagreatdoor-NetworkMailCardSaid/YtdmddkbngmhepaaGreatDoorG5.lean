/- A part of the proof: what the functions compute, and that their calls return it. No condition. -/
import Derived.Test.YtdmddkbngmhepaaGreatDoorG4
/- What the functions compute, and that their calls return it. No condition. -/
namespace Go.Proofs.YtdmddkbngmhepaaGreatDoor
open Go Go.TA
open Go.IntKind (i64)
noncomputable section
set_option maxRecDepth 100000
def S_q3z (a0:TOf) (a1:TOp):SC (TOf×Int) (TOf×Int) :=
 let e7_:=(⟨[],[],[],[]⟩:TBo)
 let e0_:=(⟨0,[],e7_⟩:TOf)
 let e4_:=(bx (TOf.e e0_))
.reg 0 [] [(2,{ obs:=[(2,e4_)] })] [.pf cz7]<|
.a 1 1 3 (@F_qa_ok a0) fun rv1=>
 let e2_:=(0,hv (AV.d (TOf.e e0_)))
.ite (!rv1) (
.reg 2 [] [e2_] [.pf cz8]<|
.r (e0_,1)) (
.reg 3 [] [(2,{ obs:=[(3,(bx (TBo.e e7_)))] })] [.pf cz9]<|
.cut (some 0) [2,4,6] (fun (sv2:TBo×Int)=>[(7,(vi sv2.2))]) (fun sv2=>[(3,(bx (TBo.e sv2.1)))]) (
.ite (a1.P==1) (
.a 7 10 4 (@F_q4m_ok a0.Af a1.C a1.E a1.Aa a1.S) fun rv3=>
.calld [(rv3.2==0)=true] default (@F_q3y_ok a0 a1.C a1.E) fun rv4 cv4 =>
.reg 8 [] [(10,hc cv4 [] true)] [.clg 0 [(rv3.2==0)=true] cv4 [] 4 true]<|
.ite (bif (rv3.2==0) then (decide (a1.S>rv4)) else false) (
.r (.next (rv3.1,15))) (
.r (.next (rv3.1,rv3.2)))) (
.ite (a1.P==2) (
.a 11 12 4 (@F_q4n_ok a0.Af a1.Of a1.Aa a1.S a1.Ah a1.Aj) fun rv5=>
.r (.next (rv5.1,rv5.2))) (
.ite (a1.P==3) (
.a 13 8 4 (@F_q4o_ok a0.Af a1.Of a1.Aa a1.S) fun rv6=>
.r (.next (rv6.1,rv6.2))) (
.ite (a1.P==4) (
.a 15 6 4 (@F_q4p_ok a0.Af a1.Of a1.Aa) fun rv7=>
.r (.next (rv7.1,rv7.2))) (
.ite (a1.P==5) (
.a 17 6 4 (@F_q4q_ok a0.Af a1.Of a1.S) fun rv8=>
.r (.next (rv8.1,rv8.2))) (
.ite (a1.P==6) (
.a 19 6 4 (@F_q4r_ok a0.Af a1.Of a1.S) fun rv9=>
.r (.next (rv9.1,rv9.2))) (
.ite (a1.P==9) (
.a 21 4 4 (@F_q4s_ok a0.Af a1.Of) fun rv10=>
.r (.next (rv10.1,rv10.2))) (
.ite (a1.P==8) (
.a 23 2 4 (@F_q1o_ok a0 a1) fun rv11=>
.r (.ret (rv11.1,rv11.2))) (
.ite (a1.P==7) (
.a 25 5 4 (@F_q13_ok a0 a1.C a1.E) fun rv12=>
.ite (decide (rv12<0)) (
.reg 27 [] [e2_] [.pf cz8]<|
.r (.ret (e0_,6))) (
.call (@F_qd_ok a0.Af a1.C a1.E) fun rv13 cv13=>
.call (@F_q4t_ok (a0.H.getD ((rv12).toNat) default) rv13 a1.S) fun rv14 cv14=>
.guard [(0:Int)<=rv12,(rv12).toNat<a0.H.length]<|
.reg 28 [18,19] [(11,hc cv13 [] true),(14,hc cv14 [] true)] [.ev 0,.ev 1,.ev 0,.ev 1,.cl 3 cv13 [] 4 true,.cl 3 cv13 [] 5 true,.cl 2 cv14 [] 4 true,.cl 2 cv14 [] 5 true]<|
.ite (rv14.2 != 0) (
.reg 30 [] [e2_] [.pf cz8]<|
.r (.ret (e0_,rv14.2))) (
.guard [a0.H.length * (2 * 48)<=2 ^ 48]<|
.reg 31 [] [(3,{ h:=.obj })] [.pf (p:=∀ k,k<a0.H.length->(AV.d (TRi.e (a0.H.getD k default))).wd=5) (fun _ _=>rfl),.ev 0]<|
 let e5_:=(0+(rv12).toNat)
.guard [e5_<a0.H.length]<|
 let e1_:=(a0.H.set e5_ rv14.1)
 let e6_:=(eS 5 TRi.e e1_)
.reg 32 [] [(5,{ obs:=[(5,e6_)] })] [.e a0.H.length,.ev 3,.ev 4,.e a0.H.length,.ev 0,.pf (zr (sz:=5) (e:=TRi.e) (l:=a0.H) (i:=e5_) (x:=rv14.1) (fun _=>rfl))]<|
 let e3_:=(TBo.e a0.Af)
 let e8_:=[(2,(vp 0)),(4,(vp 2))]
.cst (A:=True) (.pf trivial) e8_ e8_ [(Ob.box (AV.agg [(vi a0.L),(AV.ref 5 a0.H.length 0 a0.H.length),(AV.d e3_)])),(bx (TOp.e a1)),e4_,(bx e3_),(bx (TRi.e rv14.1)),e6_] [(Ob.box (AV.agg [(vi a0.L),(AV.ref 5 (e1_.length) 0 (e1_.length)),(AV.d e3_)])),(bx (TOp.e a1)),e4_,(bx e3_),(bx (TRi.e rv14.1)),e6_] (fun _=>⟨by simp +zetaDelta only,by simp +zetaDelta only[yb]⟩)<|
.guard [e1_.length<2 ^ 63]<|
.reg 33 [] [] []<|
.frz 5 (.ev 0) none [] [0,2]<|
.r (.ret ((⟨a0.L,e1_,a0.Af⟩:TOf),0))))) (
.r (.next (a0.Af,1)))))))))))) fun sv2=>
.ite (sv2.2 != 0) (
.reg 35 [] [e2_] [.pf cz8]<|
.r (e0_,sv2.2)) (
.r ((⟨a0.L,a0.H,sv2.1⟩:TOf),0)))
def F_q3z (a0:TOf) (a1:TOp):=(S_q3z a0 a1).den
theorem F_q3z_ok {a0:TOf} {a1:TOp}:FO (F_q3z a0 a1) 85 [(AV.d (TOf.e a0)),(AV.d (TOp.e a1))] [] (fun x=>(AV.tup [(AV.d (TOf.e x.1)),(vi x.2)])) NL:=fO (s:=S_q3z a0 a1) Tryz.func85
abbrev R_qr:=TOf×TOf×Bool
def S_qr_b1 (a0:TJo) (iv1:Nat) (sv2:TOf×TOf×Int):SC R_qr (Step (TOf×TOf×Int) R_qr) :=
.reg 7 [] [] [.w iv1,.ev 0]<|
 let e1_:=(a0.Ad.getD iv1 default)
 let e2_:=(sv2.2.2 != 0)
.calld [e2_=false] default (@F_q8_ok e1_) fun rv3 cv3 =>
.reg 8 [] [(4,hc cv3 [] true)] [.clg 0 [e2_=false] cv3 [] 6 true]<|
.ite (bif e2_ then true else (!rv3)) (
 let e0_:=(⟨0,[],(⟨[],[],[],[]⟩:TBo)⟩:TOf)
.reg 9 [] [(0,hv (AV.d (TOf.e e0_))),(1,hv (AV.d (TOf.e e0_)))] [.pf cz8,.pf cz8]<|
.r (.ret (e0_,e0_,false))) (
.a 10 2 6 (@F_q3z_ok sv2.1 e1_) fun rv4=>
.ite (decide ((iv1:Int)<a0.Ag)) (
.r (.cont (rv4.1,rv4.1,rv4.2))) (
.r (.cont (rv4.1,sv2.2.1,rv4.2))))
def S_qr (a0:TJo):SC R_qr R_qr :=
 let e0_:=(⟨0,[],(⟨[],[],[],[]⟩:TBo)⟩:TOf)
 let e1_:=(bx (TOf.e e0_))
.reg 0 [] [(1,{ obs:=[(1,e1_)] }),(2,{ obs:=[(2,e1_)] })] [.pf cz7,.pf cz7]<|
.ite (bif (bif (decide ((a0.Ad.length:Int)>400)) then true else (decide (a0.Ag<0))) then true else (decide (a0.Ag>(a0.Ad.length:Int)))) (
.reg 2 [] [(0,hv (AV.d (TOf.e e0_))),(1,hv (AV.d (TOf.e e0_)))] [.pf cz8,.pf cz8]<|
.r (e0_,e0_,false)) (
.call (@F_q3g_ok a0.Z) fun rv5 cv5=>
.reg 3 [] [(2,hc cv5 [] true),(6,{ obs:=[(3,e1_)] })] [.cl 0 cv5 [] 3 true,.pf cz7]<|
.reg 4 [] [(1,{ obs:=[(4,e1_)] })] [.pf cz7]<|
.range (a0.Ad.length:Int) a0.Ad.length rfl (.slot 37) 39 [1,2,3,5,7,37,38] (fun (sv2:TOf×TOf×Int)=>[(6,(vi sv2.2.2))]) (fun sv2=>[(3,(bx (TOf.e sv2.1))),(4,(bx (TOf.e sv2.2.1)))]) (rv5.1,rv5.1,rv5.2) (S_qr_b1 a0) (fun sv2 => 
.reg 14 [4,5] [] []<|
.r (sv2.1,sv2.2.1,(sv2.2.2==0))) id)
def F_qr (a0:TJo):=(S_qr a0).den
theorem F_qr_ok {a0:TJo}:FO (F_qr a0) 43 [(AV.d (TJo.e a0))] [] (fun x=>(AV.tup [(AV.d (TOf.e x.1)),(AV.d (TOf.e x.2.1)),(vb x.2.2)])) NL:=fO (s:=S_qr a0) Tryz.func43
def S_q1p_b1 (a0:TTr) (a1:List UInt8) (a2:Int) (iv1:Nat) (_:Unit):SC Int (Step (Unit) Int) :=
.reg 3 [] [(3,{ obs:=[(1,(bx (TPo.e (⟨[],0,0,[],[],[],[]⟩:TPo))))] })] [.w iv1,.ev 0,.pf cz6]<|
 let e0_:=(a0.D.getD iv1 default)
.ite (bif ((e0_.C)==a1) then ((e0_.E)==a2) else false) (
.r (.ret (iv1:Int))) (
.r (.cont ()))
def S_q1p (a0:TTr) (a1:List UInt8) (a2:Int):SC Int Int :=
.range (a0.D.length:Int) a0.D.length rfl (.slot 10) 12 [1,2,10,11] (fun (_:Unit)=>[]) (fun _=>[]) () (S_q1p_b1 a0 a1 a2) (fun _ => 
.r (-1)) id
def F_q1p (a0:TTr) (a1:List UInt8) (a2:Int):=(S_q1p a0 a1 a2).den
theorem F_q1p_ok {a0:TTr} {a1:List UInt8} {a2:Int}:FO (F_q1p a0 a1 a2) 47 [(AV.d (TTr.e a0)),(AV.d (DV.str a1)),(vi a2)] [] vi NL:=fO (s:=S_q1p a0 a1 a2) Tryz.func47
theorem zou:LeV (AV.d (DV.agg [(DV.str ([])),(DV.i .i64 0),(DV.i .i64 0),Z0,Z0,Z0,Z0])) (AV.d (TPo.e (⟨[],0,0,[],[],[],[]⟩:TPo))):=z23 rfl (DLe.agg (DLeL.cons (DLe.refl _) (DLeL.cons (DLe.refl _) (DLeL.cons (DLe.refl _) (DLeL.cons DLe.sl0 (DLeL.cons DLe.sl0 (DLeL.cons DLe.sl0 (DLeL.cons DLe.sl0 DLeL.nil))))))))
def S_q3i (a0:TTr) (a1:List UInt8) (a2:Int):SC (TPo×Bool) (TPo×Bool) :=
 let e0_:=(⟨[],0,0,[],[],[],[]⟩:TPo)
.reg 0 [] [(1,{ obs:=[(1,(bx (TPo.e e0_)))] })] [.pf cz6]<|
.a 1 3 2 (@F_q1p_ok a0 a1 a2) fun rv1=>
.ite (decide (rv1>=0)) (
.guard [(0:Int)<=rv1,(rv1).toNat<a0.D.length]<|
.reg 3 [] [] [.ev 0,.ev 1]<|
.r ((a0.D.getD ((rv1).toNat) default),true)) (
.reg 4 [] [(0,hv (AV.d (TPo.e e0_)))] [.pf zou]<|
.r (e0_,false))
def F_q3i (a0:TTr) (a1:List UInt8) (a2:Int):=(S_q3i a0 a1 a2).den
theorem F_q3i_ok {a0:TTr} {a1:List UInt8} {a2:Int}:FO (F_q3i a0 a1 a2) 20 [(AV.d (TTr.e a0)),(AV.d (DV.str a1)),(vi a2)] [] (fun x=>(AV.tup [(AV.d (TPo.e x.1)),(vb x.2)])) NL:=fO (s:=S_q3i a0 a1 a2) Tryz.func20
def S_q4u (a0:TWo) (a2:TMe) (p0:(List TOf)):SC Bool Bool :=
.call (@F_q3i_ok a0.K a2.C a2.E) fun rv1 cv1=>
.reg 1 [] [(6,hc cv1 [] true),(10,{ obs:=[(3,(bx (TPo.e (⟨[],0,0,[],[],[],[]⟩:TPo))))] })] [.cl 0 cv1 [] 3 true,.pf cz6]<|
.ite (!rv1.2) (
.r false) (
.ite (a2.Y==0) (
.ite (bif (bif (bif (decide (a2.To<1)) then true else (decide (a2.To>(p0.length:Int)))) then true else (a2.N != 0)) then true else (a2.T != 0)) (
.r false) (
 let e1_:=(i64.wrap (a2.To-1))
 let e4_:=(decide (a2.A>=0))
 let e0_:=(bif (bif e4_ then (decide (a2.A<=(rv1.1.A.getD ((e1_).toNat) default))) else false) then (decide (a2.I>=0)) else false)
.guard [AllP [e4_=true]->((0:Int)<=e1_),AllP [e4_=true]->((e1_).toNat<rv1.1.A.length),AllP [e0_=true]->((0:Int)<=e1_),AllP [e0_=true]->((e1_).toNat<rv1.1.I.length)]<|
.reg 7 [] [] [.ev 0,.ev 1,.ev 2,.ev 3]<|
.r (bif e0_ then (decide (a2.I<=(rv1.1.I.getD ((e1_).toNat) default))) else false))) (
.ite (bif (bif (bif (bif (bif (bif (a2.To != 0) then true else (decide (a2.Y<1))) then true else (decide (a2.Y>(p0.length:Int)))) then true else (a2.A != 0)) then true else (a2.I != 0)) then true else (decide (a2.T<0))) then true else (decide (a2.T>1000000000000000))) (
.r false) (
 let e2_:=(decide (a2.N>=0))
 let e3_:=(i64.wrap (a2.Y-1))
.calld [e2_=true] default (@F_q1n_ok (p0.getD (0+(e3_).toNat) default) a2.C a2.E) fun rv2 cv2 =>
.guard [AllP [e2_=true]->((0:Int)<=e3_),AllP [e2_=true]->((e3_).toNat<p0.length),AllP [e2_=true]->((0+(e3_).toNat)<p0.length)]<|
.reg 10 [] [(16,hc cv2 [] true)] [.pf (p:=AllP [e2_=true]->(p0.length=p0.length)) (fun _=>rfl),.ev 0,.ev 1,.pf (p:=AllP [e2_=true]->(p0.length=p0.length)) (fun _=>rfl),.ev 2,.clg 3 [e2_=true] cv2 [] 4 true]<|
.r (bif e2_ then (decide (a2.N<=rv2.N)) else false))))
def F_q4u (a0:TWo) (a2:TMe) (p0:(List TOf)):=(S_q4u a0 a2 p0).den
theorem F_q4u_ok {a0:TWo} {a2:TMe} {p0:(List TOf)}:FO (F_q4u a0 a2 p0) 44 [(AV.d (TWo.e a0)),(AV.ref 0 p0.length 0 p0.length),(AV.d (TMe.e a2))] [(eS 6 TOf.e p0)] vb (fun _=>[(eS 6 TOf.e p0)]):=fO (s:=S_q4u a0 a2 p0) Tryz.func44
def S_q1_b1 (a0:TWo) (iv1:Nat) (rv2:R_qr) (iv3:Nat) (_:Unit):SC Bool (Step (Unit) Bool) :=
.reg 15 [] [] [.w iv3,.ev 0]<|
 let e1_:=(rv2.1.H.getD iv3 default)
.call (@F_q3i_ok a0.K (e1_.C) (e1_.E)) fun rv4 cv4=>
.reg 16 [] [(6,hc cv4 [] true),(10,{ obs:=[(6,(bx (TPo.e (⟨[],0,0,[],[],[],[]⟩:TPo))))] })] [.cl 0 cv4 [] 6 true,.pf cz6]<|
 let e0_:=(bif (!rv4.2) then true else (decide ((e1_.A)>(rv4.1.A.getD iv1 default))))
.guard [AllP [(!rv4.2)=false]->(iv1<rv4.1.A.length),AllP [e0_=false]->(iv1<rv4.1.I.length)]<|
.reg 17 [] [] [.pf (p:=AllP [(!rv4.2)=false]->((0:Int)<=(iv1:Int))) (fun _=>(y1v _)),.ev 0,.pf (p:=AllP [e0_=false]->((0:Int)<=(iv1:Int))) (fun _=>(y1v _)),.ev 1]<|
.ite (bif e0_ then true else (decide ((e1_.I)>(rv4.1.I.getD iv1 default)))) (
.r (.ret false)) (
.r (.cont ()))
def S_q1_b2 (a0:TWo) (iv1:Nat) (rv2:R_qr) (iv5:Nat) (_:Unit):SC Bool (Step (Unit) Bool) :=
.reg 22 [] [(2,{ obs:=[(5,(bx (TPo.e (⟨[],0,0,[],[],[],[]⟩:TPo))))] })] [.w iv5,.ev 0,.pf cz6]<|
 let e0_:=(a0.K.D.getD iv5 default)
.call (@F_q1n_ok rv2.2.1 (e0_.C) (e0_.E)) fun rv6 cv6=>
.guard [iv1<(e0_.J).length]<|
.reg 23 [] [(10,hc cv6 [] true)] [.w iv1,.ev 0,.cl 1 cv6 [] 6 true]<|
.ite (decide (((e0_.J).getD iv1 default)>rv6.N)) (
.r (.ret false)) (
.r (.cont ()))
def S_q1_b3 (a0:TWo) (iv1:Nat) (sv7:(List TOf)):SC Bool (Step ((List TOf)) Bool) :=
.reg 6 [] [(3,{ obs:=[(2,(bx (TJo.e (⟨0,[],0⟩:TJo))))] })] [.w iv1,.ev 0,.pf cz1]<|
 let e2_:=(a0.O.getD iv1 default)
.ite ((e2_.Z) != (i64.wrap ((iv1:Int)+1))) (
.r (.ret false)) (
.call (@F_qr_ok e2_) fun rv2 cv2=>
 let e1_:=(bx (TOf.e (⟨0,[],(⟨[],[],[],[]⟩:TBo)⟩:TOf)))
.reg 9 [] [(1,hc cv2 [] true),(6,{ obs:=[(3,e1_)] }),(7,{ obs:=[(4,e1_)] })] [.cl 0 cv2 [] 3 true,.pf cz7,.pf cz7]<|
.ite (!rv2.2.2) (
.r (.ret false)) (
.guard [(sv7.length+1) * (2 * 128)<=2 ^ 48]<|
 let e0_:=([rv2.2.1]:List TOf)
.reg 12 [] [(2,hv (AV.d (eL TOf.e e0_))),(3,{ h:=.obj,cast:=some (AV.ref 1 ((sv7++e0_).length) 0 ((sv7++e0_).length)),obs:=[(1,(eS 6 TOf.e (sv7++e0_)))] })] [.pf (ze TOf.e e0_),.e sv7.length,.e sv7.length,.pf (p:=∀ k,k<1->(AV.d (TOf.e (e0_.getD k default))).wd=6) (fun _ _=>rfl),.ev 0,.pf (zw (o:=1) (l:=sv7) (x:=e0_)),.pf (z10 (sz:=6) (e:=TOf.e) (l:=sv7) (x:=e0_))]<|
.range (rv2.1.H.length:Int) rv2.1.H.length rfl (.slot 62) 64 [1,3,4,7,37,38,39,62,63] (fun (_:Unit)=>[]) (fun _=>[]) () (S_q1_b1 a0 iv1 rv2) (fun _ => 
.range (a0.K.D.length:Int) a0.K.D.length rfl (.slot 103) 105 [1,3,4,7,37,38,39,103,104] (fun (_:Unit)=>[]) (fun _=>[]) () (S_q1_b2 a0 iv1 rv2) (fun _ => 
.r (.cont (sv7++e0_))) .ret) .ret))
def S_q1_b4 (a0:TWo) (sv7:(List TOf)) (iv8:Nat) (_:Unit):SC Bool (Step (Unit) Bool) :=
.reg 29 [] [] [.w iv8,.ev 0]<|
.call (@F_q4u_ok a0 (a0.W.getD iv8 default) sv7) fun rv9 cv9=>
.k 30 3 cv9 [1] 3 true<|
.ite (!rv9) (
.r (.ret false)) (
.r (.cont ()))
def S_q1 (a0:TWo):SC Bool Bool :=
.a 1 2 1 (@F_qw_ok a0.K) fun rv10=>
.ite (bif (bif (!rv10) then true else ((a0.O.length:Int) != a0.K.M)) then true else (decide ((a0.W.length:Int)>200))) (
.r false) (
.reg 4 [] [] []<|
.bor 6 (fun j=>AV.d (TOf.e (([]:List TOf).getD j default))) [3]<|
.range (a0.O.length:Int) a0.O.length rfl (.slot 37) 39 [1,37,38] (fun (sv7:(List TOf))=>[(3,(AV.ref 1 sv7.length 0 sv7.length))]) (fun sv7=>[(1,(eS 6 TOf.e sv7))]) ([]:List TOf) (S_q1_b3 a0) (fun sv7 => 
.range (a0.W.length:Int) a0.W.length rfl (.slot 125) 127 [1,3,125,126] (fun (_:Unit)=>[]) (fun _=>[]) () (S_q1_b4 a0 sv7) (fun _ => 
.r true) id) id)
def F_q1 (a0:TWo):=(S_q1 a0).den
theorem F_q1_ok {a0:TWo}:FO (F_q1 a0) 17 [(AV.d (TWo.e a0))] [] vb NL:=fO (s:=S_q1 a0) Tryz.func17
def S_q3j (a0:TWo) (a1:Int):SC Bool Bool :=
.r (bif (decide (a1>=1)) then (decide (a1<=(a0.O.length:Int))) else false)
def F_q3j (a0:TWo) (a1:Int):=(S_q3j a0 a1).den
theorem F_q3j_ok {a0:TWo} {a1:Int}:FO (F_q3j a0 a1) 92 [(AV.d (TWo.e a0)),(vi a1)] [] vb NL:=fO (s:=S_q3j a0 a1) Tryz.func92
def S_q3k (a0:TJo):SC (TOf×Int) (TOf×Int) :=
 let e0_:=(⟨0,[],(⟨[],[],[],[]⟩:TBo)⟩:TOf)
 let e1_:=(bx (TOf.e e0_))
.reg 0 [] [(1,{ obs:=[(1,e1_)] })] [.pf cz7]<|
.call (@F_qr_ok a0) fun rv1 cv1=>
.reg 1 [] [(1,hc cv1 [] true),(6,{ obs:=[(2,e1_)] }),(7,{ obs:=[(3,e1_)] })] [.cl 0 cv1 [] 2 true,.pf cz7,.pf cz7]<|
.ite (!rv1.2.2) (
.reg 3 [] [(0,hv (AV.d (TOf.e e0_)))] [.pf cz8]<|
.r (e0_,1)) (
.r (rv1.1,0))
def F_q3k (a0:TJo):=(S_q3k a0).den
theorem F_q3k_ok {a0:TJo}:FO (F_q3k a0) 86 [(AV.d (TJo.e a0))] [] (fun x=>(AV.tup [(AV.d (TOf.e x.1)),(vi x.2)])) NL:=fO (s:=S_q3k a0) Tryz.func86
def S_q4v (a0:TWo) (a1:Int):SC (TOf×Int) (TOf×Int) :=
 let e0_:=(⟨0,[],(⟨[],[],[],[]⟩:TBo)⟩:TOf)
.reg 0 [] [(1,{ obs:=[(1,(bx (TOf.e e0_)))] })] [.pf cz7]<|
.a 1 1 2 (@F_q1_ok a0) fun rv1=>
 let e2_:=(0,hv (AV.d (TOf.e e0_)))
.ite (!rv1) (
.reg 2 [] [e2_] [.pf cz8]<|
.r (e0_,1)) (
.a 3 2 2 (@F_q3j_ok a0 a1) fun rv2=>
.ite (!rv2) (
.reg 4 [] [e2_] [.pf cz8]<|
.r (e0_,6)) (
 let e1_:=(i64.wrap (a1-1))
.call (@F_q3k_ok (a0.O.getD ((e1_).toNat) default)) fun rv3 cv3=>
.guard [(0:Int)<=e1_,(e1_).toNat<a0.O.length]<|
.reg 5 [] [(6,hc cv3 [] true)] [.ev 0,.ev 1,.cl 2 cv3 [] 2 true]<|
.r (rv3.1,rv3.2)))
def F_q4v (a0:TWo) (a1:Int):=(S_q4v a0 a1).den
theorem F_q4v_ok {a0:TWo} {a1:Int}:FO (F_q4v a0 a1) 54 [(AV.d (TWo.e a0)),(vi a1)] [] (fun x=>(AV.tup [(AV.d (TOf.e x.1)),(vi x.2)])) NL:=fO (s:=S_q4v a0 a1) Tryz.func54
abbrev R_q2w:=List UInt8×TTape
def S_q2w (p0:TTape):SC R_q2w R_q2w :=
.call (@F_q5_ok 3 p0) fun rv1 cv1=>
.guard [(0:Int)<=rv1.1,(rv1.1).toNat<3]<|
.reg 1 [] [(0,hv (AV.d (eL DV.str ([[49],[49,46,50],[50]]:List (List UInt8))))),(2,hc cv1 [0] false)] [.pf (ze DV.str ([[49],[49,46,50],[50]]:List (List UInt8))),.cl 2 cv1 [0] 1 false,.ev 0,.ev 1]<|
.r ((([[49],[49,46,50],[50]]:List (List UInt8)).getD ((rv1.1).toNat) default),rv1.2)
def F_q2w (p0:TTape):=(S_q2w p0).den
theorem F_q2w_ok {p0:TTape}:FO (F_q2w p0) 148 [(vp 0)] [(bx (TTape.e p0))] (fun x=>(AV.d (DV.str x.1))) (fun x=>[(bx (TTape.e x.2))]):=fO (s:=S_q2w p0) Tryz.func148
abbrev R_q2x:=TOp×TTape
def S_q2x (a1:TOf) (a2:Int) (p0:TTape):SC R_q2x R_q2x :=
.call (@F_qu_ok ([1,1,1,2,2,2,3,3,3,4,4,5,6,7,8,8,9]:List Int) p0) fun rv1 cv1=>
.call (@F_q2w_ok rv1.2) fun rv2 cv2=>
.call (@F_ql_ok 1 120 rv2.2) fun rv3 cv3=>
 let e2_:=([10,50,rv3.1]:List Int)
.call (@F_qu_ok e2_ rv3.2) fun rv4 cv4=>
.reg 1 [] [(1,hv (vl ([1,1,1,2,2,2,3,3,3,4,4,5,6,7,8,8,9]:List Int))),(2,hc cv1 [0] false),(4,hc cv2 [0] false),(10,hc cv3 [0] false),(11,hv (vl e2_)),(12,hc cv4 [0] false)] [.pf (ze (DV.i .i64) ([1,1,1,2,2,2,3,3,3,4,4,5,6,7,8,8,9]:List Int)),.cl 3 cv1 [0] 3 false,.cl 2 cv2 [0] 3 false,.pf (p:=(360:Int)≠0) dk,.cl 1 cv3 [0] 3 false,.pf (ze (DV.i .i64) e2_),.cl 0 cv4 [0] 3 false]<|
.cut (some 0) [0,2,6,7] (fun (_:TTape×TOp)=>[]) (fun sv5=>[(0,(bx (TTape.e sv5.1))),(3,(bx (TOp.e sv5.2)))]) (
.cut none [0,2,4,6,7,23] (fun (sv6:Bool)=>[(24,(vb sv6))]) (fun _=>[]) (
.ite (rv1.1==2) (
.r (.next (rv1.1==2))) (
.r (.next (rv1.1==5)))) fun sv6=>
 let e0_:=(i64.wrap (a2.tdiv 360))
.ite sv6 (
.call (@F_ql_ok 1 (if (a1.Af.B.length:Int)>1 then (a1.Af.B.length:Int) else 1) rv4.2) fun rv7 cv7=>
.k 5 6 cv7 [0] 4 false<|
.r (.next (rv7.2,(⟨rv1.1,rv2.1,e0_,a2,rv7.1,rv4.1,0,0,0,0⟩:TOp)))) (
.cut none [0,2,4,6,7,23] (fun (sv8:Bool)=>[(35,(vb sv8))]) (fun _=>[]) (
.ite (rv1.1==3) (
.r (.next (rv1.1==3))) (
.r (.next (rv1.1==6)))) fun sv8=>
.ite sv8 (
.call (@F_ql_ok 1 (if (a1.Af.F.length:Int)>1 then (a1.Af.F.length:Int) else 1) rv4.2) fun rv9 cv9=>
.k 8 6 cv9 [0] 4 false<|
.r (.next (rv9.2,(⟨rv1.1,rv2.1,e0_,a2,rv9.1,rv4.1,0,0,0,0⟩:TOp)))) (
.cut none [0,2,4,6,7,23] (fun (sv10:Bool)=>[(46,(vb sv10))]) (fun _=>[]) (
.ite (rv1.1==4) (
.r (.next (rv1.1==4))) (
.r (.next (rv1.1==9)))) fun sv10=>
.ite sv10 (
.call (@F_ql_ok 1 (if (a1.Af.G.length:Int)>1 then (a1.Af.G.length:Int) else 1) rv4.2) fun rv11 cv11=>
.k 11 6 cv11 [0] 4 false<|
.r (.next (rv11.2,(⟨rv1.1,rv2.1,e0_,a2,rv11.1,rv4.1,0,0,0,0⟩:TOp)))) (
.ite (rv1.1==8) (
.call (@F_q5_ok 1000 rv4.2) fun rv12 cv12=>
 let e1_:=([100,400,rv12.1]:List Int)
.call (@F_qu_ok e1_ rv12.2) fun rv13 cv13=>
.call (@F_q5_ok 200 rv13.2) fun rv14 cv14=>
 let e3_:=([0,0,rv14.1]:List Int)
.call (@F_qu_ok e3_ rv14.2) fun rv15 cv15=>
.reg 13 [] [(2,hc cv12 [0] false),(3,hv (vl e1_)),(4,hc cv13 [0] false),(7,hc cv14 [0] false),(8,hv (vl e3_)),(9,hc cv15 [0] false)] [.cl 3 cv12 [0] 4 false,.pf (ze (DV.i .i64) e1_),.cl 2 cv13 [0] 4 false,.cl 1 cv14 [0] 4 false,.pf (ze (DV.i .i64) e3_),.cl 0 cv15 [0] 4 false]<|
.r (.next (rv15.2,(⟨rv1.1,rv2.1,e0_,a2,0,rv4.1,0,0,rv13.1,rv15.1⟩:TOp)))) (
.r (.next (rv4.2,(⟨rv1.1,rv2.1,e0_,a2,0,rv4.1,0,0,0,0⟩:TOp)))))))) fun sv5=>
.cut none [6,7] (fun (_:TTape×TOp)=>[]) (fun sv16=>[(0,(bx (TTape.e sv16.1))),(3,(bx (TOp.e sv16.2)))]) (
.ite (sv5.2.P==2) (
.call (@F_ql_ok 1 4 sv5.1) fun rv17 cv17=>
.call (@F_q5_ok 60 rv17.2) fun rv18 cv18=>
.reg 15 [] [(1,hc cv17 [0] false),(4,hc cv18 [0] false)] [.cl 1 cv17 [0] 4 false,.cl 0 cv18 [0] 4 false]<|
.r (.next (rv18.2,(⟨sv5.2.P,sv5.2.C,sv5.2.E,sv5.2.Aa,sv5.2.Of,sv5.2.S,rv17.1,(i64.wrap (a2+rv18.1)),sv5.2.A,sv5.2.Ae⟩:TOp)))) (
.r (.next (sv5.1,sv5.2)))) fun sv16=>
.r (sv16.2,sv16.1)
def F_q2x (a1:TOf) (a2:Int) (p0:TTape):=(S_q2x a1 a2 p0).den
theorem F_q2x_ok {a1:TOf} {a2:Int} {p0:TTape}:FO (F_q2x a1 a2 p0) 93 [(vp 0),(AV.d (TOf.e a1)),(vi a2)] [(bx (TTape.e p0))] (fun x=>(AV.d (TOp.e x.1))) (fun x=>[(bx (TTape.e x.2))]):=fO (s:=S_q2x a1 a2 p0) Tryz.func93
def S_q4w (a1:TOf) (a2:Int) (p0:TTape):SC (TOp×TTape) (TOp×TTape) :=
.call (@F_q2x_ok a1 a2 p0) fun rv1 cv1=>
.k 1 3 cv1 [0] 3 false<|
.cut (some 0) [6,8] (fun (_:TOp)=>[]) (fun sv2=>[(4,(bx (TOp.e sv2)))]) (
.ite (rv1.1.P==1) (
.reg 6 [9,11,13,15] [] []<|
.r (.next (⟨rv1.1.P,rv1.1.C,rv1.1.E,rv1.1.Aa,0,rv1.1.S,0,0,0,0⟩:TOp))) (
.ite (rv1.1.P==2) (
.reg 8 [11,13,15,17,19] [] []<|
.r (.next (⟨rv1.1.P,[],0,rv1.1.Aa,rv1.1.Of,rv1.1.S,rv1.1.Ah,rv1.1.Aj,0,0⟩:TOp))) (
.ite (rv1.1.P==3) (
.reg 10 [7,9,11] [] []<|
.r (.next (⟨rv1.1.P,[],0,rv1.1.Aa,rv1.1.Of,rv1.1.S,0,0,0,0⟩:TOp))) (
.ite (rv1.1.P==4) (
.reg 12 [5,7] [] []<|
.r (.next (⟨rv1.1.P,[],0,rv1.1.Aa,rv1.1.Of,0,0,0,0,0⟩:TOp))) (
.cut none [6,7,8,17] (fun (sv3:Bool)=>[(71,(vb sv3))]) (fun _=>[]) (
.ite (rv1.1.P==5) (
.r (.next (rv1.1.P==5))) (
.r (.next (rv1.1.P==6)))) fun sv3=>
.ite sv3 (
.reg 15 [5,7] [] []<|
.r (.next (⟨rv1.1.P,[],0,0,rv1.1.Of,rv1.1.S,0,0,0,0⟩:TOp))) (
.ite (rv1.1.P==7) (
.reg 17 [7,9,11] [] []<|
.r (.next (⟨rv1.1.P,rv1.1.C,rv1.1.E,0,0,rv1.1.S,0,0,0,0⟩:TOp))) (
.ite (rv1.1.P==8) (
.reg 19 [9,11,13,15] [] []<|
.r (.next (⟨rv1.1.P,rv1.1.C,rv1.1.E,0,0,0,0,0,rv1.1.A,rv1.1.Ae⟩:TOp))) (
.r (.next (⟨rv1.1.P,[],0,0,rv1.1.Of,0,0,0,0,0⟩:TOp)))))))))) fun sv2=>
.r (sv2,rv1.2)
def F_q4w (a1:TOf) (a2:Int) (p0:TTape):=(S_q4w a1 a2 p0).den
theorem F_q4w_ok {a1:TOf} {a2:Int} {p0:TTape}:FO (F_q4w a1 a2 p0) 56 [(vp 0),(AV.d (TOf.e a1)),(vi a2)] [(bx (TTape.e p0))] (fun x=>(AV.d (TOp.e x.1))) (fun x=>[(bx (TTape.e x.2))]):=fO (s:=S_q4w a1 a2 p0) Tryz.func56
def S_q4x (a0:TRi) (a1:Int):SC Int Int :=
.a 1 1 1 (@F_q2v_ok a0) fun rv1=>
 let e1_:=(i64.wrap (a0.A-a0.N))
.ite (bif (bif (!rv1) then true else (decide (a1<0))) then true else (decide (a1>e1_))) (
.r 0) (
 let e2_:=(i64.wrap (a0.I-a0.N))
 let e3_:=(i64.wrap (e1_-a1))
 let e0_:=(if e3_<e2_ then e3_ else e2_)
.r (if e0_>0 then e0_ else 0))
def F_q4x (a0:TRi) (a1:Int):=(S_q4x a0 a1).den
theorem F_q4x_ok {a0:TRi} {a1:Int}:FO (F_q4x a0 a1) 95 [(AV.d (TRi.e a0)),(vi a1)] [] vi NL:=fO (s:=S_q4x a0 a1) Tryz.func95
def S_q4y (a0:TOf) (a1:List UInt8) (a2:Int):SC (TOp×Bool) (TOp×Bool) :=
.a 1 1 2 (@F_qa_ok a0) fun rv1=>
 let e0_:=(⟨0,[],0,0,0,0,0,0,0,0⟩:TOp)
.ite (!rv1) (
.r (e0_,false)) (
.call (@F_q1n_ok a0 a1 a2) fun rv2 cv2=>
.call (@F_qd_ok a0.Af a1 a2) fun rv3 cv3=>
.call (@F_q4x_ok rv2 rv3) fun rv4 cv4=>
.reg 3 [] [(3,hc cv2 [] true),(8,hc cv3 [] true),(9,hc cv4 [] true)] [.cl 2 cv2 [] 2 true,.cl 1 cv3 [] 2 true,.cl 0 cv4 [] 2 true]<|
.ite (rv4==0) (
.r (e0_,false)) (
.r ((⟨7,a1,a2,0,0,rv4,0,0,0,0⟩:TOp),true)))
def F_q4y (a0:TOf) (a1:List UInt8) (a2:Int):=(S_q4y a0 a1 a2).den
theorem F_q4y_ok {a0:TOf} {a1:List UInt8} {a2:Int}:FO (F_q4y a0 a1 a2) 57 [(AV.d (TOf.e a0)),(AV.d (DV.str a1)),(vi a2)] [] (fun x=>(AV.tup [(AV.d (TOp.e x.1)),(vb x.2)])) NL:=fO (s:=S_q4y a0 a1 a2) Tryz.func57
abbrev R_q2y:=TSt×TTape
def S_q2y (a1:TWo) (a2:Int) (a3:Int) (a4:Int) (p0:TTape):SC R_q2y R_q2y :=
.reg 0 [] [] []<|
 let e3_:=(DV.i .i64 0)
 let e0_:=(bx (DV.agg [e3_,e3_,(DV.agg [e3_,(DV.str ([])),e3_,e3_,e3_,e3_,e3_,e3_,e3_,e3_]),(DV.str ([])),e3_,e3_,e3_]))
 let e4_:=[(0,(vp 0)),(2,(vi a2)),(3,(vi a3)),(4,(vi a4)),(6,(vp 1)),(10,(vp 2))]
 let e7_:=(bx (TWo.e a1))
.sh (H:=NoH) (A:=True) (.pf trivial) e4_ e4_ [(bx (TTape.e p0)),e7_,e0_] [(bx (TTape.e p0)),e7_,e0_,Ob.unb] (fun _=>zm2) (z26 _)<|
.call (@F_qu_ok ([1,2,2,4,4,5,5,5,5,6,7,8,8,9,9,9,9,10,11,3]:List Int) p0) fun rv1 cv1=>
.call (@F_ql_ok 1 a2 rv1.2) fun rv2 cv2=>
.call (@F_q5_ok 2 rv2.2) fun rv3 cv3=>
.call (@F_ql_ok 1 200 rv3.2) fun rv4 cv4=>
.call (@F_q5_ok (if (a1.W.length:Int)>1 then (a1.W.length:Int) else 1) rv4.2) fun rv5 cv5=>
.guard [(0:Int)<=rv3.1,(rv3.1).toNat<2]<|
 let e1_:=(ze DV.str ([[49],[50]]:List (List UInt8)))
 let e5_:=(ze (DV.i .i64) ([1,2,2,4,4,5,5,5,5,6,7,8,8,9,9,9,9,10,11,3]:List Int))
.reg 1 [2,5,8,12,18,20,21] [(1,hv (vl ([1,2,2,4,4,5,5,5,5,6,7,8,8,9,9,9,9,10,11,3]:List Int))),(2,hc cv1 [0] false),(5,hc cv2 [0] false),(6,hv (AV.d (eL DV.str ([[49],[50]]:List (List UInt8))))),(8,hc cv3 [0] false),(12,hc cv4 [0] false),(18,hc cv5 [0] false),(20,{ h:=.born 3 false })] [.pf e5_,.pf e5_,.cl 6 cv1 [0] 4 false,.cl 6 cv1 [0] 4 false,.cl 5 cv2 [0] 4 false,.cl 5 cv2 [0] 4 false,.pf e1_,.pf e1_,.pf e1_,.pf e1_,.pf e1_,.pf e1_,.pf e1_,.pf e1_,.pf e1_,.pf e1_,.pf e1_,.pf e1_,.cl 4 cv3 [0] 4 false,.cl 4 cv3 [0] 4 false,.ev 0,.ev 1,.ev 0,.ev 1,.ev 0,.ev 1,.ev 0,.ev 1,.ev 0,.ev 1,.ev 0,.ev 1,.cl 3 cv4 [0] 4 false,.cl 3 cv4 [0] 4 false,.cl 2 cv5 [0] 4 false,.cl 2 cv5 [0] 4 false]<|
.cut none [0,3,4,6,10,11] (fun (_:TSt)=>[]) (fun sv6=>[(3,(bx (TSt.e sv6)))]) (
 let e8_:=(⟨0,[],0,0,0,0,0,0,0,0⟩:TOp)
.ite (decide (a3<3)) (
.guard [(0:Int)<=a3,(a3).toNat<3]<|
.reg 3 [] [(0,hv (vl ([1,2,4]:List Int)))] [.pf (ze (DV.i .i64) ([1,2,4]:List Int)),.ev 0,.ev 1]<|
.r (.next (⟨(([1,2,4]:List Int).getD ((a3).toNat) default),1,e8_,[49],12,rv4.1,rv5.1⟩:TSt))) (
.r (.next (⟨rv1.1,rv2.1,e8_,(([[49],[50]]:List (List UInt8)).getD ((rv3.1).toNat) default),12,rv4.1,rv5.1⟩:TSt)))) fun sv6=>
.cut none [0,4,6,10,11] (fun (_:TSt)=>[]) (fun sv7=>[(3,(bx (TSt.e sv7)))]) (
.ite (a3==3) (
.r (.next (⟨9,sv6.Z,sv6.Op,sv6.C,sv6.E,sv6.S,0⟩:TSt))) (
.r (.next sv6))) fun sv7=>
.cut none [0,4,6,10,11] (fun (_:TTape×TSt)=>[]) (fun sv8=>[(0,(bx (TTape.e sv8.1))),(3,(bx (TSt.e sv8.2)))]) (
.ite (sv7.P==1) (
.call (@F_q5_ok 900 rv5.2) fun rv9 cv9=>
 let e6_:=([300,rv9.1,50]:List Int)
.call (@F_qu_ok e6_ rv9.2) fun rv10 cv10=>
.reg 7 [] [(2,hc cv9 [0] false),(3,hv (vl e6_)),(4,hc cv10 [0] false)] [.cl 1 cv9 [0] 4 false,.pf (ze (DV.i .i64) e6_),.cl 0 cv10 [0] 4 false]<|
.r (.next (rv10.2,(⟨sv7.P,sv7.Z,sv7.Op,sv7.C,sv7.E,rv10.1,sv7.Ai⟩:TSt)))) (
.r (.next (rv5.2,sv7)))) fun sv8=>
.cut none [10,11] (fun (_:TTape×TSt)=>[]) (fun sv11=>[(0,(bx (TTape.e sv11.1))),(3,(bx (TSt.e sv11.2)))]) (
.ite (sv8.2.P==5) (
.call (@F_q4v_ok a1 sv8.2.Z) fun rv12 cv12=>
.reg 9 [] [(3,hc cv12 [] true),(7,{ obs:=[(4,(bx (TOf.e (⟨0,[],(⟨[],[],[],[]⟩:TBo)⟩:TOf))))] })] [.cl 0 cv12 [] 4 true,.pf cz7]<|
.cut none [0,4,10,11,12] (fun (_:TOf)=>[]) (fun sv13=>[(4,(bx (TOf.e sv13)))]) (
.ite (rv12.2 != 0) (
.a 11 2 5 (@F_q3g_ok sv8.2.Z) fun rv14=>
.r (.next rv14.1)) (
.r (.next rv12.1))) fun sv13=>
.call (@F_q4w_ok sv13 a4 sv8.1) fun rv15 cv15=>
.k 12 3 cv15 [0] 5 false<|
.a 13 5 5 (@F_q4y_ok sv13 sv8.2.C sv8.2.E) fun rv16=>
.calld [rv16.2=true] (default,rv15.2) (@F_q5_ok 3 rv15.2) fun rv17 cv17 =>
 let e2_:=(bx (DV.agg [(DV.i .i64 sv8.2.P),(DV.i .i64 sv8.2.Z),(TOp.e rv15.1),(DV.str sv8.2.C),(DV.i .i64 sv8.2.E),(DV.i .i64 sv8.2.S),(DV.i .i64 sv8.2.Ai)]))
.reg 14 [] [(3,hc cv17 [0] false)] [.clg 0 [rv16.2=true] cv17 [0] 6 false,.der (fun (h:¬ AllP [rv16.2=true]->(default,rv15.2)=rv17) (hn:¬ AllP [rv16.2=true])=>(by obtain rfl:=h hn; rfl:[(bx (TTape.e rv15.2)),e7_,e0_,e2_,(bx (TOf.e sv13)),(bx (TOp.e rv16.1))]=[(bx (TTape.e rv17.2)),e7_,e0_,e2_,(bx (TOf.e sv13)),(bx (TOp.e rv16.1))])) 1]<|
.ite (bif rv16.2 then (rv17.1==0) else false) (
.r (.next (rv17.2,(⟨sv8.2.P,sv8.2.Z,rv16.1,sv8.2.C,sv8.2.E,sv8.2.S,sv8.2.Ai⟩:TSt)))) (
.r (.next (rv17.2,(⟨sv8.2.P,sv8.2.Z,rv15.1,sv8.2.C,sv8.2.E,sv8.2.S,sv8.2.Ai⟩:TSt))))) (
.r (.next (sv8.1,sv8.2)))) fun sv11=>
.r (sv11.2,sv11.1)
def F_q2y (a1:TWo) (a2:Int) (a3:Int) (a4:Int) (p0:TTape):=(S_q2y a1 a2 a3 a4 p0).den
theorem F_q2y_ok {a1:TWo} {a2:Int} {a3:Int} {a4:Int} {p0:TTape}:FO (F_q2y a1 a2 a3 a4 p0) 33 [(vp 0),(AV.d (TWo.e a1)),(vi a2),(vi a3),(vi a4)] [(bx (TTape.e p0))] (fun x=>(AV.d (TSt.e x.1))) (fun x=>[(bx (TTape.e x.2))]):=fO (s:=S_q2y a1 a2 a3 a4 p0) Tryz.func33
end
end Go.Proofs.YtdmddkbngmhepaaGreatDoor
/- What the functions compute,and that their calls return it. No condition. -/
namespace Go.Proofs.YtdmddkbngmhepaaGreatDoor
open Go Go.TA
open Go.IntKind (i64)
noncomputable section
set_option maxRecDepth 100000
theorem zgx:∀ k,k<0->(DV.b false).wd=1:=fun _ h=>absurd h (y3n _)
theorem z2e:OLe (bx (DV.agg [(DV.i .i64 0),Z0])) (bx (TTr.e (⟨0,[]⟩:TTr))):=z4m (DLe.agg (DLeL.cons (DLe.refl _) (DLeL.cons DLe.sl0 DLeL.nil)))
abbrev R_q28:=Int×(List TPo)
def S_q28_b1 (a0:TTr) (iv1:Nat) (sv2:Int×(List TPo)):SC R_q28 (Step (Int×(List TPo)) R_q28) :=
.reg 4 [] [(2,{ obs:=[(4,(bx (TPo.e (⟨[],0,0,[],[],[],[]⟩:TPo))))] })] [.w iv1,.ev 0,.pf cz6]<|
 let e0_:=(a0.D.getD iv1 default)
.guard [(0+(e0_.A).length) * (2 * 8)<=2 ^ 48]<|
.reg 5 [] [(3,hv (vl (e0_.A)))] [.pf (p:=∀ k,k<(e0_.A).length->AV.d ((DV.i .i64) ((e0_.A).getD k default))=AV.d ((DV.i .i64) ((e0_.A).getD k default))/\((DV.i .i64) ((e0_.A).getD k default)).wd=1) (fun _ _=>⟨rfl,rfl⟩),.pf zgx,.ev 0,.pf (z3j (e:=(DV.i .i64)) (x:=(e0_.A)))]<|
.guard [(0+(e0_.J).length) * (2 * 8)<=2 ^ 48]<|
.reg 6 [] [(3,hv (vl (e0_.J)))] [.pf (p:=∀ k,k<(e0_.J).length->AV.d ((DV.i .i64) ((e0_.J).getD k default))=AV.d ((DV.i .i64) ((e0_.J).getD k default))/\((DV.i .i64) ((e0_.J).getD k default)).wd=1) (fun _ _=>⟨rfl,rfl⟩),.pf zgx,.ev 0,.pf (z3j (e:=(DV.i .i64)) (x:=(e0_.J)))]<|
.guard [(0+(e0_.I).length) * (2 * 8)<=2 ^ 48]<|
.reg 7 [] [(3,hv (vl (e0_.I)))] [.pf (p:=∀ k,k<(e0_.I).length->AV.d ((DV.i .i64) ((e0_.I).getD k default))=AV.d ((DV.i .i64) ((e0_.I).getD k default))/\((DV.i .i64) ((e0_.I).getD k default)).wd=1) (fun _ _=>⟨rfl,rfl⟩),.pf zgx,.ev 0,.pf (z3j (e:=(DV.i .i64)) (x:=(e0_.I)))]<|
.guard [(0+(e0_.T).length) * (2 * 8)<=2 ^ 48]<|
.reg 8 [] [(3,hv (vl (e0_.T)))] [.pf (p:=∀ k,k<(e0_.T).length->AV.d ((DV.i .i64) ((e0_.T).getD k default))=AV.d ((DV.i .i64) ((e0_.T).getD k default))/\((DV.i .i64) ((e0_.T).getD k default)).wd=1) (fun _ _=>⟨rfl,rfl⟩),.pf zgx,.ev 0,.pf (z3j (e:=(DV.i .i64)) (x:=(e0_.T)))]<|
.guard [(sv2.2.length+1) * (2 * 128)<=2 ^ 48]<|
 let e1_:=([(⟨e0_.C,e0_.E,e0_.V,e0_.A,e0_.J,e0_.I,e0_.T⟩:TPo)]:List TPo)
.reg 9 [] [(3,hv (AV.d (eL TPo.e e1_))),(4,{ h:=.obj,cast:=some (AV.ref 3 ((sv2.2++e1_).length) 0 ((sv2.2++e1_).length)),obs:=[(3,(eS 7 TPo.e (sv2.2++e1_)))] })] [.pf (ze TPo.e e1_),.e sv2.2.length,.e sv2.2.length,.pf (p:=∀ k,k<1->(AV.d (TPo.e (e1_.getD k default))).wd=7) (fun _ _=>rfl),.ev 0,.pf (zw (o:=3) (l:=sv2.2) (x:=e1_)),.pf (z10 (sz:=7) (e:=TPo.e) (l:=sv2.2) (x:=e1_))]<|
.c (sv2.1,(sv2.2++e1_))
def S_q28 (a0:TTr):SC R_q28 R_q28 :=
 let e0_:=(bx (TTr.e (⟨0,[]⟩:TTr)))
.reg 0 [] [(1,{ obs:=[(1,e0_)] })] [.pf z2e]<|
.reg 1 [] [(2,{ h:=.obj }),(3,{ h:=.obj })] []<|
 let e1_:=[(1,(vp 0)),(2,(vp 1)),(3,(vp 2))]
.sh (A:=True) (.pf trivial) e1_ e1_ [(bx (TTr.e a0)),e0_,(Ob.box (AV.agg [(vi a0.M),(AV.full 0 fun _=>DV.b false)]))] [(bx (TTr.e a0)),e0_,(Ob.box (AV.agg [(vi a0.M),(AV.ref 3 0 0 0)])),(eS 7 TPo.e ([]:List TPo))] (fun _=>(z1t (sz:=7) (f:=fun j=>AV.d (TPo.e (([]:List TPo).getD j default))) (.keep _ _ _ _ (y15 rfl) (.keep _ _ _ _ (y15 rfl) (.box _ _ _ _ _ (y15 rfl) (TrV.agg (TrL.cons (TrV.keep _) (TrL.cons TrV.born TrL.nil))) (.nil _)))))) (z16 (k:=0) rfl (TrS.keep _) (z16 (k:=1) rfl (TrS.keep _) (z16 (k:=2) rfl (TrS.keep _) z2g)))<|
.range (a0.D.length:Int) a0.D.length rfl (.slot 10) 12 [2,3,10,11] (fun (_:Int×(List TPo))=>[]) (fun sv2=>[(2,(Ob.box (AV.agg [(vi sv2.1),(AV.ref 3 sv2.2.length 0 sv2.2.length)]))),(3,(eS 7 TPo.e sv2.2))]) (a0.M,([]:List TPo)) (S_q28_b1 a0) (fun sv2 => 
.reg 11 [] [] []<|
.kill 0<|
.kill 2<|
.r (sv2.1,sv2.2)) id
def F_q28 (a0:TTr):=(S_q28 a0).den
theorem F_q28_ok {a0:TTr}:FO (F_q28 a0) 97 [(AV.d (TTr.e a0))] [] (fun x=>(AV.agg [(vi x.1),(AV.ref 3 x.2.length 0 x.2.length)])) (fun x=>[Ob.dead,(Ob.box (AV.agg [(vi x.1),(AV.ref 3 x.2.length 0 x.2.length)])),Ob.dead,(eS 7 TPo.e x.2)]):=fO (s:=S_q28 a0) Tryz.func97
theorem z1i:LeV (AV.d (DV.agg [(DV.i .i64 0),Z0])) (AV.d (TTr.e (⟨0,[]⟩:TTr))):=z23 rfl (DLe.agg (DLeL.cons (DLe.refl _) (DLeL.cons DLe.sl0 DLeL.nil)))
theorem zti:∀ k,k<1->(AV.d (TPo.e (([(⟨[],0,0,[],[],[],[]⟩:TPo)]:List TPo).getD k default))).wd=7:=fun _ _=>rfl
def S_q1q_b1 (a1:List UInt8) (a2:Int) (rv1:R_q28) (sv2:Int):SC (TTr×Int) (Step (Int) (TTr×Int)) :=
.ite (decide (sv2<(rv1.2.length:Int))) (
 let e3_:=(0+(sv2).toNat)
 let e2_:=(rv1.2.getD e3_ default)
.call (@F_qv_ok (e2_.C) a1) fun rv3 cv3=>
.guard [(0:Int)<=sv2,(sv2).toNat<rv1.2.length,e3_<rv1.2.length]<|
.reg 17 [] [(7,hc cv3 [] true)] [.e rv1.2.length,.ev 0,.ev 1,.e rv1.2.length,.e rv1.2.length,.ev 2,.cl 3 cv3 [] 8 true]<|
 let e0_:=(decide (rv3>0))
.guard [AllP [(rv3==0)=true,e0_=false]->((0:Int)<=sv2),AllP [(rv3==0)=true,e0_=false]->((sv2).toNat<rv1.2.length),AllP [(rv3==0)=true,e0_=false]->(e3_<rv1.2.length)]<|
 let e1_:=(rv1.2.length=rv1.2.length)
.reg 18 [] [] [.pf (p:=AllP [(rv3==0)=true,e0_=false]->e1_) (fun _=>rfl),.ev 0,.ev 1,.pf (p:=AllP [(rv3==0)=true,e0_=false]->e1_) (fun _=>rfl),.pf (p:=AllP [(rv3==0)=true,e0_=false]->e1_) (fun _=>rfl),.ev 2]<|
.ite (bif e0_ then true else (bif (rv3==0) then (decide ((e2_.E)>a2)) else false)) (
.r (.brk sv2)) (
.r (.cont (i64.wrap (sv2+1))))) (
.r (.brk sv2))
def S_q1q (a0:TTr) (a1:List UInt8) (a2:Int) (a3:Int):SC (TTr×Int) (TTr×Int) :=
 let e10_:=(bx (TTr.e (⟨0,[]⟩:TTr)))
.reg 0 [] [(1,{ obs:=[(1,e10_)] })] [.pf z2e]<|
.a 1 1 2 (@F_qw_ok a0) fun rv4=>
 let e13_:=(AV.d (TTr.e (⟨0,[]⟩:TTr)))
.ite (!rv4) (
.reg 2 [] [(0,hv e13_)] [.pf z1i]<|
.r ((⟨0,[]⟩:TTr),1)) (
.a 3 1 2 (@F_qj_ok a1) fun rv5=>
.ite (!rv5) (
.reg 4 [] [(0,hv e13_)] [.pf z1i]<|
.r ((⟨0,[]⟩:TTr),5)) (
.ite (bif (bif (bif (decide (a2<0)) then true else (decide (a2>99))) then true else (decide (a3<(-1000000000000000)))) then true else (decide (a3>1000000000000000))) (
.reg 6 [] [(0,hv e13_)] [.pf z1i]<|
.r ((⟨0,[]⟩:TTr),2)) (
.call (@F_q28_ok a0) fun rv1 cv1=>
.reg 7 [] [(1,hc cv1 [] false),(2,{ h:=.obj })] [.cl 0 cv1 [] 2 false]<|
.kill 3<|
.a 8 3 7 (@F_q1p_ok a0 a1 a2) fun rv6=>
 let e14_:=[(8,(vp 1)),(10,(vp 6))]
 let e15_:=(bx (TTr.e a0))
.ite (decide (rv6>=0)) (
 let e19_:=(0+(rv6).toNat)
.guard [(0:Int)<=rv6,(rv6).toNat<rv1.2.length,e19_<rv1.2.length]<|
 let e7_:=(rv1.2.getD e19_ default)
 let e1_:=(⟨e7_.C,e7_.E,a3,e7_.A,e7_.J,e7_.I,e7_.T⟩:TPo)
 let e6_:=(rv1.2.set e19_ e1_)
 let e20_:=(eS 7 TPo.e e6_)
.reg 10 [] [(6,{ obs:=[(5,e20_)] })] [.e rv1.2.length,.ev 0,.ev 1,.e rv1.2.length,.e rv1.2.length,.ev 2,.pf (zr (sz:=7) (e:=TPo.e) (l:=rv1.2) (i:=e19_) (x:=e1_) (fun _=>rfl))]<|
.cst (A:=True) (.pf trivial) e14_ e14_ [e15_,e10_,Ob.dead,Ob.dead,Ob.dead,e20_,(Ob.box (AV.agg [(vi rv1.1),(AV.ref 5 rv1.2.length 0 rv1.2.length)]))] [e15_,e10_,Ob.dead,Ob.dead,Ob.dead,e20_,(Ob.box (AV.agg [(vi rv1.1),(AV.ref 5 (e6_.length) 0 (e6_.length))]))] (fun _=>⟨by simp +zetaDelta only,by simp +zetaDelta only[yb]⟩)<|
.guard [e6_.length<2 ^ 63]<|
.reg 11 [] [] []<|
.frz 5 (.ev 0) none [] [1,6]<|
.r ((⟨rv1.1,e6_⟩:TTr),0)) (
.ite ((a0.D.length:Int)==60) (
.reg 13 [] [(0,hv e13_)] [.pf z1i]<|
.r ((⟨0,[]⟩:TTr),3)) (
.guard [(0:Int)<=a0.M,a0.M * 8<=2 ^ 47]<|
 let e9_:=(⟨[],0,0,[],[],[],[]⟩:TPo)
 let e12_:=(vl (List.replicate a0.M.toNat (0:Int)))
.reg 14 [16,17] [(5,{ h:=.imm,cast:=some e12_ }),(8,{ h:=.imm,cast:=some e12_ }),(11,{ h:=.imm,cast:=some e12_ }),(14,{ h:=.imm,cast:=some e12_ }),(16,{ obs:=[(7,(bx (TPo.e e9_)))] })] [.ev 0,.pf (p:=a0.M<=a0.M) (y1e _),.ev 1,.pf (z3k (e:=(DV.i .i64)) (k:=a0.M.toNat) (z:=(0:Int))),.ev 0,.pf (p:=a0.M<=a0.M) (y1e _),.ev 1,.pf (z3k (e:=(DV.i .i64)) (k:=a0.M.toNat) (z:=(0:Int))),.ev 0,.pf (p:=a0.M<=a0.M) (y1e _),.ev 1,.pf (z3k (e:=(DV.i .i64)) (k:=a0.M.toNat) (z:=(0:Int))),.ev 0,.pf (p:=a0.M<=a0.M) (y1e _),.ev 1,.pf (z3k (e:=(DV.i .i64)) (k:=a0.M.toNat) (z:=(0:Int))),.ev 0,.pf (p:=a0.M<=a0.M) (y1e _),.ev 1,.pf (z3k (e:=(DV.i .i64)) (k:=a0.M.toNat) (z:=(0:Int))),.ev 0,.pf (p:=a0.M<=a0.M) (y1e _),.ev 1,.pf (z3k (e:=(DV.i .i64)) (k:=a0.M.toNat) (z:=(0:Int))),.ev 0,.pf (p:=a0.M<=a0.M) (y1e _),.ev 1,.pf (z3k (e:=(DV.i .i64)) (k:=a0.M.toNat) (z:=(0:Int))),.ev 0,.pf (p:=a0.M<=a0.M) (y1e _),.ev 1,.pf (z3k (e:=(DV.i .i64)) (k:=a0.M.toNat) (z:=(0:Int))),.pf cz6]<|
.iter [1,2,8,10,12] (fun (sv2:Int)=>[(13,(vi sv2))]) (fun _=>[]) 0 (S_q1q_b1 a1 a2 rv1) (fun sv2 =>
.guard [(rv1.2.length+1) * (2 * 128)<=2 ^ 48]<|
 let e17_:=([e9_]:List TPo)
 let e0_:=(rv1.2++e17_)
 let e18_:=(AV.ref 5 (e0_.length) 0 (e0_.length))
.reg 20 [] [(2,hv (AV.d (TPo.e e9_))),(3,hv (AV.d (eL TPo.e e17_))),(4,{ h:=.obj,cast:=some e18_,obs:=[(5,(eS 7 TPo.e e0_))] })] [.pf zou,.pf (ze TPo.e e17_),.e rv1.2.length,.e rv1.2.length,.pf zti,.ev 0,.pf (zw (o:=5) (l:=rv1.2) (x:=e17_)),.pf (z10 (sz:=7) (e:=TPo.e) (l:=rv1.2) (x:=e17_))]<|
 let e21_:=(i64.wrap (sv2+1))
 let e3_:=(e21_)
.guard [(0:Int)<=e21_,e3_.toNat<=e0_.length,(0:Int)<=sv2,(sv2).toNat<=e0_.length]<|
 let e5_:=(0+(sv2).toNat)
 let e8_:=(0+e3_.toNat)
.reg 21 [9] [(9,{ obs:=[(5,(eS 7 TPo.e (copyL e0_ e8_ (min (e0_.length-(sv2).toNat) (e0_.length-e3_.toNat)) (fun i=>(e0_.getD (e5_+i) default)))))] })] [.ev 0,.ev 1,.e (e0_.length),.ev 2,.ev 3,.e (e0_.length),.e (e0_.length),.e (e0_.length),.pf (p:=∀ k,k<(e0_.length-(sv2).toNat)->(AV.d (TPo.e (e0_.getD (e5_+k) default))).wd=7) (fun _ _=>rfl),.pf (z8x (sz:=7) (e:=TPo.e) (l:=e0_) (off:=e8_) (k:=(min (e0_.length-(sv2).toNat) (e0_.length-e3_.toNat))) (s:=(fun i=>(e0_.getD (e5_+i) default))))]<|
 let e11_:=(eL (DV.i .i64) (List.replicate a0.M.toNat (0:Int)))
 let e4_:=(bx (DV.agg [(DV.str a1),(DV.i .i64 a2),(DV.i .i64 a3),e11_,e11_,e11_,e11_]))
 let e16_:=[(8,(vp 1)),(10,(vp 6)),(12,(vp 7)),(13,(vi sv2))]
.cst (A:=True) (.pf trivial) e16_ e16_ [e15_,e10_,Ob.dead,Ob.dead,Ob.dead,(eS 7 TPo.e (copyL e0_ e8_ (min (e0_.length-(sv2).toNat) (e0_.length-e3_.toNat)) (fun i=>(e0_.getD (e5_+i) default)))),(Ob.box (AV.agg [(vi rv1.1),e18_])),e4_] [e15_,e10_,Ob.dead,Ob.dead,Ob.dead,(eS 7 TPo.e (copyL e0_ e8_ (min (e0_.length-(sv2).toNat) (e0_.length-e3_.toNat)) (fun i=>(e0_.getD (e5_+i) default)))),(Ob.box (AV.agg [(vi rv1.1),(AV.ref 5 ((copyL e0_ e8_ (min (e0_.length-(sv2).toNat) (e0_.length-e3_.toNat)) (fun i=>(e0_.getD (e5_+i) default))).length) 0 ((copyL e0_ e8_ (min (e0_.length-(sv2).toNat) (e0_.length-e3_.toNat)) (fun i=>(e0_.getD (e5_+i) default))).length))])),e4_] (fun _=>⟨by simp +zetaDelta only,by simp +zetaDelta only[zm]⟩)<|
.guard [(sv2).toNat<(copyL e0_ e8_ (min (e0_.length-(sv2).toNat) (e0_.length-e3_.toNat)) (fun i=>(e0_.getD (e5_+i) default))).length,e5_<(copyL e0_ e8_ (min (e0_.length-(sv2).toNat) (e0_.length-e3_.toNat)) (fun i=>(e0_.getD (e5_+i) default))).length]<|
 let e2_:=(⟨a1,a2,a3,(List.replicate a0.M.toNat (0:Int)),(List.replicate a0.M.toNat (0:Int)),(List.replicate a0.M.toNat (0:Int)),(List.replicate a0.M.toNat (0:Int))⟩:TPo)
.reg 22 [] [(5,{ obs:=[(5,(eS 7 TPo.e ((copyL e0_ e8_ (min (e0_.length-(sv2).toNat) (e0_.length-e3_.toNat)) (fun i=>(e0_.getD (e5_+i) default))).set e5_ e2_)))] })] [.pf (y2b ((copyL e0_ e8_ (min (e0_.length-(sv2).toNat) (e0_.length-e3_.toNat)) (fun i=>(e0_.getD (e5_+i) default))).length)),.ev 4,.ev 0,.pf (y2b ((copyL e0_ e8_ (min (e0_.length-(sv2).toNat) (e0_.length-e3_.toNat)) (fun i=>(e0_.getD (e5_+i) default))).length)),.ev 1,.pf (zr (sz:=7) (e:=TPo.e) (l:=(copyL e0_ e8_ (min (e0_.length-(sv2).toNat) (e0_.length-e3_.toNat)) (fun i=>(e0_.getD (e5_+i) default)))) (i:=e5_) (x:=e2_) (fun _=>rfl))]<|
.cst (A:=True) (.pf trivial) e14_ e14_ [e15_,e10_,Ob.dead,Ob.dead,Ob.dead,(eS 7 TPo.e ((copyL e0_ e8_ (min (e0_.length-(sv2).toNat) (e0_.length-e3_.toNat)) (fun i=>(e0_.getD (e5_+i) default))).set e5_ e2_)),(Ob.box (AV.agg [(vi rv1.1),(AV.ref 5 ((copyL e0_ e8_ (min (e0_.length-(sv2).toNat) (e0_.length-e3_.toNat)) (fun i=>(e0_.getD (e5_+i) default))).length) 0 ((copyL e0_ e8_ (min (e0_.length-(sv2).toNat) (e0_.length-e3_.toNat)) (fun i=>(e0_.getD (e5_+i) default))).length))])),e4_] [e15_,e10_,Ob.dead,Ob.dead,Ob.dead,(eS 7 TPo.e ((copyL e0_ e8_ (min (e0_.length-(sv2).toNat) (e0_.length-e3_.toNat)) (fun i=>(e0_.getD (e5_+i) default))).set e5_ e2_)),(Ob.box (AV.agg [(vi rv1.1),(AV.ref 5 (((copyL e0_ e8_ (min (e0_.length-(sv2).toNat) (e0_.length-e3_.toNat)) (fun i=>(e0_.getD (e5_+i) default))).set e5_ e2_).length) 0 (((copyL e0_ e8_ (min (e0_.length-(sv2).toNat) (e0_.length-e3_.toNat)) (fun i=>(e0_.getD (e5_+i) default))).set e5_ e2_).length))])),e4_] (fun _=>⟨by simp +zetaDelta only,by simp +zetaDelta only[yb,zm]⟩)<|
.guard [((copyL e0_ e8_ (min (e0_.length-(sv2).toNat) (e0_.length-e3_.toNat)) (fun i=>(e0_.getD (e5_+i) default))).set e5_ e2_).length<2 ^ 63]<|
.reg 23 [] [] []<|
.frz 5 (.ev 0) none [] [1,6]<|
.r ((⟨rv1.1,((copyL e0_ e8_ (min (e0_.length-(sv2).toNat) (e0_.length-e3_.toNat)) (fun i=>(e0_.getD (e5_+i) default))).set e5_ e2_)⟩:TTr),0)) id)))))
def F_q1q (a0:TTr) (a1:List UInt8) (a2:Int) (a3:Int):=(S_q1q a0 a1 a2 a3).den
theorem F_q1q_ok {a0:TTr} {a1:List UInt8} {a2:Int} {a3:Int}:FO (F_q1q a0 a1 a2 a3) 58 [(AV.d (TTr.e a0)),(AV.d (DV.str a1)),(vi a2),(vi a3)] [] (fun x=>(AV.tup [(AV.d (TTr.e x.1)),(vi x.2)])) NL:=fO (s:=S_q1q a0 a1 a2 a3) Tryz.func58
def S_q29 (a0:TTr) (a1:Int) (a2:List UInt8) (a3:Int):SC (Int×Int) (Int×Int) :=
.a 1 1 1 (@F_qw_ok a0) fun rv1=>
.ite (!rv1) (
.r (0,1)) (
.a 3 3 1 (@F_q1p_ok a0 a2 a3) fun rv2=>
.ite (bif (bif (decide (rv2<0)) then true else (decide (a1<1))) then true else (decide (a1>a0.M))) (
.r (0,6)) (
.r (rv2,0)))
def F_q29 (a0:TTr) (a1:Int) (a2:List UInt8) (a3:Int):=(S_q29 a0 a1 a2 a3).den
theorem F_q29_ok {a0:TTr} {a1:Int} {a2:List UInt8} {a3:Int}:FO (F_q29 a0 a1 a2 a3) 98 [(AV.d (TTr.e a0)),(vi a1),(AV.d (DV.str a2)),(vi a3)] [] (fun x=>(AV.tup [(vi x.1),(vi x.2)])) NL:=fO (s:=S_q29 a0 a1 a2 a3) Tryz.func98
def S_qe_b1 (a0:TPo) (sv1:Int×Int):SC Int (Step (Int×Int) Int) :=
.ite (bif (decide (sv1.2<(a0.A.length:Int))) then (decide (sv1.2<(a0.J.length:Int))) else false) (
.guard [(0:Int)<=sv1.2,(sv1.2).toNat<a0.A.length,(sv1.2).toNat<a0.J.length]<|
.reg 5 [] [] [.ev 0,.ev 1,.ev 0,.ev 2]<|
.r (.cont ((i64.wrap (sv1.1+(i64.wrap ((a0.A.getD ((sv1.2).toNat) default)-(a0.J.getD ((sv1.2).toNat) default))))),(i64.wrap (sv1.2+1))))) (
.r (.brk (sv1.1,sv1.2)))
def S_qe (a0:TPo):SC Int Int :=
.iter [1] (fun (sv1:Int×Int)=>[(3,(vi sv1.1)),(4,(vi sv1.2))]) (fun _=>[]) (0,0) (S_qe_b1 a0) (fun sv1 =>
.r sv1.1) id
def F_qe (a0:TPo):=(S_qe a0).den
theorem F_qe_ok {a0:TPo}:FO (F_qe a0) 15 [(AV.d (TPo.e a0))] [] vi NL:=fO (s:=S_qe a0) Tryz.func15
def S_q4z (a0:TPo):SC Int Int :=
.a 1 3 1 (@F_qe_ok a0) fun rv1=>
.r (i64.wrap (a0.V-rv1))
def F_q4z (a0:TPo):=(S_q4z a0).den
theorem F_q4z_ok {a0:TPo}:FO (F_q4z a0) 151 [(AV.d (TPo.e a0))] [] vi NL:=fO (s:=S_q4z a0) Tryz.func151
def oTApiPot:Opn TPo where
 sz:=7
 T:=fun a b c d x=>.agg [.d (.str x.C),vi x.E,vi x.V,a,b,c,d]
 e:=TPo.e
 g1:=TPo.A
 g2:=TPo.J
 g3:=TPo.I
 g4:=TPo.T
 tr:=fun _ h1 h2 h3 h4=>TrV.agg (.cons (.keep _) (.cons (.keep _) (.cons (.keep _) (.cons h1 (.cons h2 (.cons h3 (.cons h4 .nil)))))))
 cl:=fun x=>TrV.aggD (ys:=[.str x.C,.i .i64 x.E,.i .i64 x.V,eL (.i .i64) x.A,eL (.i .i64) x.J,eL (.i .i64) x.I,eL (.i .i64) x.T])
  (.cons (.keep _) (.cons (.keep _) (.cons (.keep _) (.cons (.keep _) (.cons (.keep _) (.cons (.keep _) (.cons (.keep _) .nil)))))))
 wd:=fun _ h1 h2 h3 h4=>by simp[AV.wd,AV.wdL,DV.wd,h1,h2,h3,h4]
end
end Go.Proofs.YtdmddkbngmhepaaGreatDoor
/- What the functions compute,and that their calls return it. No condition. -/
namespace Go.Proofs.YtdmddkbngmhepaaGreatDoor
open Go Go.TA
open Go.IntKind (i64)
noncomputable section
set_option maxRecDepth 100000
abbrev R_q1a:=Int×(List TPo)
def S_q1a_b1 (a0:TTr) (i0:Nat) (iv1:Nat) (sv2:Int×(List TPo)):SC R_q1a (Step (Int×(List TPo)) R_q1a) :=
.reg 4 [] [(2,{ obs:=[(8,(bx (TPo.e (⟨[],0,0,[],[],[],[]⟩:TPo))))] })] [.w iv1,.ev 0,.pf cz6]<|
 let e1_:=(a0.D.getD iv1 default)
.guard [e1_.A.length * (2 * 8)<=2 ^ 48]<|
.reg 5 [] [(3,{ h:=.obj })] [.pf (p:=∀ k,k<e1_.A.length->(AV.d ((DV.i .i64) (e1_.A.getD k default))).wd=1) (fun _ _=>rfl),.ev 0]<|
.guard [e1_.J.length * (2 * 8)<=2 ^ 48]<|
.reg 6 [] [(3,{ h:=.obj })] [.pf (p:=∀ k,k<e1_.J.length->(AV.d ((DV.i .i64) (e1_.J.getD k default))).wd=1) (fun _ _=>rfl),.ev 0]<|
.guard [e1_.I.length * (2 * 8)<=2 ^ 48]<|
.reg 7 [] [(3,{ h:=.obj })] [.pf (p:=∀ k,k<e1_.I.length->(AV.d ((DV.i .i64) (e1_.I.getD k default))).wd=1) (fun _ _=>rfl),.ev 0]<|
.guard [e1_.T.length * (2 * 8)<=2 ^ 48]<|
.reg 8 [] [(3,{ h:=.obj })] [.pf (p:=∀ k,k<e1_.T.length->(AV.d ((DV.i .i64) (e1_.T.getD k default))).wd=1) (fun _ _=>rfl),.ev 0]<|
.guard [(sv2.2.length+1) * (2 * 128)<=2 ^ 48]<|
.reg 9 [] [(3,{ h:=.obj }),(4,{ h:=.obj,cast:=some (AV.ref 3 ((sv2.2++[(⟨(a0.D.getD iv1 default).C,(a0.D.getD iv1 default).E,(a0.D.getD iv1 default).V,(a0.D.getD iv1 default).A,(a0.D.getD iv1 default).J,(a0.D.getD iv1 default).I,(a0.D.getD iv1 default).T⟩:TPo)]).length) 0 ((sv2.2++[(⟨(a0.D.getD iv1 default).C,(a0.D.getD iv1 default).E,(a0.D.getD iv1 default).V,(a0.D.getD iv1 default).A,(a0.D.getD iv1 default).J,(a0.D.getD iv1 default).I,(a0.D.getD iv1 default).T⟩:TPo)]).length)),obs:=[(3,(Ob.seq 7 ((sv2.2++[(⟨(a0.D.getD iv1 default).C,(a0.D.getD iv1 default).E,(a0.D.getD iv1 default).V,(a0.D.getD iv1 default).A,(a0.D.getD iv1 default).J,(a0.D.getD iv1 default).I,(a0.D.getD iv1 default).T⟩:TPo)]).length) (catF sv2.2.length (fun j=>AV.sel (decide (j=i0)) 7 (AV.agg [(AV.d (DV.str (sv2.2.getD i0 default).C)),(vi (sv2.2.getD i0 default).E),(vi (sv2.2.getD i0 default).V),(rr 4 (sv2.2.getD i0 default).A),(rr 5 (sv2.2.getD i0 default).J),(rr 6 (sv2.2.getD i0 default).I),(rr 7 (sv2.2.getD i0 default).T)]) (AV.d (TPo.e (sv2.2.getD j default)))) (listF AV.bot [(AV.agg [(AV.d (DV.str (a0.D.getD iv1 default).C)),(vi (a0.D.getD iv1 default).E),(vi (a0.D.getD iv1 default).V),(rr 9 (a0.D.getD iv1 default).A),(rr 10 (a0.D.getD iv1 default).J),(rr 11 (a0.D.getD iv1 default).I),(rr 12 (a0.D.getD iv1 default).T)])]))))] })] [.e 1,.e sv2.2.length,.e sv2.2.length,.pf (p:=∀ k,k<1->(listF AV.bot [(AV.agg [(AV.d (DV.str (a0.D.getD iv1 default).C)),(vi (a0.D.getD iv1 default).E),(vi (a0.D.getD iv1 default).V),(rr 9 (a0.D.getD iv1 default).A),(rr 10 (a0.D.getD iv1 default).J),(rr 11 (a0.D.getD iv1 default).I),(rr 12 (a0.D.getD iv1 default).T)])] k).wd=7) (fun k hk=>by obtain rfl:k=0:=om; rfl),.ev 0,.pf (zw (o:=3) (l:=sv2.2) (x:=[(⟨(a0.D.getD iv1 default).C,(a0.D.getD iv1 default).E,(a0.D.getD iv1 default).V,(a0.D.getD iv1 default).A,(a0.D.getD iv1 default).J,(a0.D.getD iv1 default).I,(a0.D.getD iv1 default).T⟩:TPo)])),.pf (p:=OLe (Ob.seq 7 (sv2.2.length+1) (catF sv2.2.length (fun j=>AV.sel (decide (j=i0)) 7 (AV.agg [(AV.d (DV.str (sv2.2.getD i0 default).C)),(vi (sv2.2.getD i0 default).E),(vi (sv2.2.getD i0 default).V),(rr 4 (sv2.2.getD i0 default).A),(rr 5 (sv2.2.getD i0 default).J),(rr 6 (sv2.2.getD i0 default).I),(rr 7 (sv2.2.getD i0 default).T)]) (AV.d (TPo.e (sv2.2.getD j default)))) (listF AV.bot [(AV.agg [(AV.d (DV.str (a0.D.getD iv1 default).C)),(vi (a0.D.getD iv1 default).E),(vi (a0.D.getD iv1 default).V),(rr 9 (a0.D.getD iv1 default).A),(rr 10 (a0.D.getD iv1 default).J),(rr 11 (a0.D.getD iv1 default).I),(rr 12 (a0.D.getD iv1 default).T)])]))) (Ob.seq 7 ((sv2.2++[(⟨(a0.D.getD iv1 default).C,(a0.D.getD iv1 default).E,(a0.D.getD iv1 default).V,(a0.D.getD iv1 default).A,(a0.D.getD iv1 default).J,(a0.D.getD iv1 default).I,(a0.D.getD iv1 default).T⟩:TPo)]).length) (catF sv2.2.length (fun j=>AV.sel (decide (j=i0)) 7 (AV.agg [(AV.d (DV.str (sv2.2.getD i0 default).C)),(vi (sv2.2.getD i0 default).E),(vi (sv2.2.getD i0 default).V),(rr 4 (sv2.2.getD i0 default).A),(rr 5 (sv2.2.getD i0 default).J),(rr 6 (sv2.2.getD i0 default).I),(rr 7 (sv2.2.getD i0 default).T)]) (AV.d (TPo.e (sv2.2.getD j default)))) (listF AV.bot [(AV.agg [(AV.d (DV.str (a0.D.getD iv1 default).C)),(vi (a0.D.getD iv1 default).E),(vi (a0.D.getD iv1 default).V),(rr 9 (a0.D.getD iv1 default).A),(rr 10 (a0.D.getD iv1 default).J),(rr 11 (a0.D.getD iv1 default).I),(rr 12 (a0.D.getD iv1 default).T)])])))) (zja sj)]<|
 let e0_:=(⟨e1_.C,e1_.E,e1_.V,e1_.A,e1_.J,e1_.I,e1_.T⟩:TPo)
.guard [((sv2.2.length=i0->0<e0_.A.length/\0<e0_.J.length/\0<e0_.I.length/\0<e0_.T.length)/\(e0_.A.length<2 ^ 63/\e0_.J.length<2 ^ 63/\e0_.I.length<2 ^ 63/\e0_.T.length<2 ^ 63))]<|
.sh (A:=((sv2.2.length=i0->0<(⟨(a0.D.getD iv1 default).C,(a0.D.getD iv1 default).E,(a0.D.getD iv1 default).V,(a0.D.getD iv1 default).A,(a0.D.getD iv1 default).J,(a0.D.getD iv1 default).I,(a0.D.getD iv1 default).T⟩:TPo).A.length/\0<(⟨(a0.D.getD iv1 default).C,(a0.D.getD iv1 default).E,(a0.D.getD iv1 default).V,(a0.D.getD iv1 default).A,(a0.D.getD iv1 default).J,(a0.D.getD iv1 default).I,(a0.D.getD iv1 default).T⟩:TPo).J.length/\0<(⟨(a0.D.getD iv1 default).C,(a0.D.getD iv1 default).E,(a0.D.getD iv1 default).V,(a0.D.getD iv1 default).A,(a0.D.getD iv1 default).J,(a0.D.getD iv1 default).I,(a0.D.getD iv1 default).T⟩:TPo).I.length/\0<(⟨(a0.D.getD iv1 default).C,(a0.D.getD iv1 default).E,(a0.D.getD iv1 default).V,(a0.D.getD iv1 default).A,(a0.D.getD iv1 default).J,(a0.D.getD iv1 default).I,(a0.D.getD iv1 default).T⟩:TPo).T.length)/\((⟨(a0.D.getD iv1 default).C,(a0.D.getD iv1 default).E,(a0.D.getD iv1 default).V,(a0.D.getD iv1 default).A,(a0.D.getD iv1 default).J,(a0.D.getD iv1 default).I,(a0.D.getD iv1 default).T⟩:TPo).A.length<2 ^ 63/\(⟨(a0.D.getD iv1 default).C,(a0.D.getD iv1 default).E,(a0.D.getD iv1 default).V,(a0.D.getD iv1 default).A,(a0.D.getD iv1 default).J,(a0.D.getD iv1 default).I,(a0.D.getD iv1 default).T⟩:TPo).J.length<2 ^ 63/\(⟨(a0.D.getD iv1 default).C,(a0.D.getD iv1 default).E,(a0.D.getD iv1 default).V,(a0.D.getD iv1 default).A,(a0.D.getD iv1 default).J,(a0.D.getD iv1 default).I,(a0.D.getD iv1 default).T⟩:TPo).I.length<2 ^ 63/\(⟨(a0.D.getD iv1 default).C,(a0.D.getD iv1 default).E,(a0.D.getD iv1 default).V,(a0.D.getD iv1 default).A,(a0.D.getD iv1 default).J,(a0.D.getD iv1 default).I,(a0.D.getD iv1 default).T⟩:TPo).T.length<2 ^ 63))) (.ev 0) [(2,(vp 1)),(3,(vp 2)),(10,(AV.d (eL TPo.e a0.D))),(11,(vi (a0.D.length:Int))),(12,(vi (iv1:Int)))] [(2,(vp 1)),(3,(vp 2)),(10,(AV.d (eL TPo.e a0.D))),(11,(vi (a0.D.length:Int))),(12,(vi (iv1:Int)))] [(bx (TTr.e a0)),(bx (TTr.e (⟨0,[]⟩:TTr))),(Ob.box (AV.agg [(vi sv2.1),(AV.ref 3 ((sv2.2++[(⟨(a0.D.getD iv1 default).C,(a0.D.getD iv1 default).E,(a0.D.getD iv1 default).V,(a0.D.getD iv1 default).A,(a0.D.getD iv1 default).J,(a0.D.getD iv1 default).I,(a0.D.getD iv1 default).T⟩:TPo)]).length) 0 ((sv2.2++[(⟨(a0.D.getD iv1 default).C,(a0.D.getD iv1 default).E,(a0.D.getD iv1 default).V,(a0.D.getD iv1 default).A,(a0.D.getD iv1 default).J,(a0.D.getD iv1 default).I,(a0.D.getD iv1 default).T⟩:TPo)]).length))])),(Ob.seq 7 (sv2.2++[(⟨(a0.D.getD iv1 default).C,(a0.D.getD iv1 default).E,(a0.D.getD iv1 default).V,(a0.D.getD iv1 default).A,(a0.D.getD iv1 default).J,(a0.D.getD iv1 default).I,(a0.D.getD iv1 default).T⟩:TPo)]).length (catF sv2.2.length (fun j=>AV.sel (decide (j=i0)) 7 (AV.agg [(AV.d (DV.str (sv2.2.getD i0 default).C)),(vi (sv2.2.getD i0 default).E),(vi (sv2.2.getD i0 default).V),(rr 4 (sv2.2.getD i0 default).A),(rr 5 (sv2.2.getD i0 default).J),(rr 6 (sv2.2.getD i0 default).I),(rr 7 (sv2.2.getD i0 default).T)]) (AV.d (TPo.e (sv2.2.getD j default)))) (listF AV.bot [(AV.agg [(AV.d (DV.str (a0.D.getD iv1 default).C)),(vi (a0.D.getD iv1 default).E),(vi (a0.D.getD iv1 default).V),(rr 9 (a0.D.getD iv1 default).A),(rr 10 (a0.D.getD iv1 default).J),(rr 11 (a0.D.getD iv1 default).I),(rr 12 (a0.D.getD iv1 default).T)])]))),(eQ (opQ TPo.A i0 sv2.2)),(eQ (opQ TPo.J i0 sv2.2)),(eQ (opQ TPo.I i0 sv2.2)),(eQ (opQ TPo.T i0 sv2.2)),(Ob.box (AV.agg [(AV.d (DV.str (a0.D.getD iv1 default).C)),(vi (a0.D.getD iv1 default).E),(vi (a0.D.getD iv1 default).V),(rr 9 (a0.D.getD iv1 default).A),(rr 10 (a0.D.getD iv1 default).J),(rr 11 (a0.D.getD iv1 default).I),(rr 12 (a0.D.getD iv1 default).T)])),(eQ (⟨(a0.D.getD iv1 default).C,(a0.D.getD iv1 default).E,(a0.D.getD iv1 default).V,(a0.D.getD iv1 default).A,(a0.D.getD iv1 default).J,(a0.D.getD iv1 default).I,(a0.D.getD iv1 default).T⟩:TPo).A),(eQ (⟨(a0.D.getD iv1 default).C,(a0.D.getD iv1 default).E,(a0.D.getD iv1 default).V,(a0.D.getD iv1 default).A,(a0.D.getD iv1 default).J,(a0.D.getD iv1 default).I,(a0.D.getD iv1 default).T⟩:TPo).J),(eQ (⟨(a0.D.getD iv1 default).C,(a0.D.getD iv1 default).E,(a0.D.getD iv1 default).V,(a0.D.getD iv1 default).A,(a0.D.getD iv1 default).J,(a0.D.getD iv1 default).I,(a0.D.getD iv1 default).T⟩:TPo).I),(eQ (⟨(a0.D.getD iv1 default).C,(a0.D.getD iv1 default).E,(a0.D.getD iv1 default).V,(a0.D.getD iv1 default).A,(a0.D.getD iv1 default).J,(a0.D.getD iv1 default).I,(a0.D.getD iv1 default).T⟩:TPo).T),(Ob.seq 7 1 (listF AV.bot [(AV.agg [(AV.d (DV.str (a0.D.getD iv1 default).C)),(vi (a0.D.getD iv1 default).E),(vi (a0.D.getD iv1 default).V),(rr 9 (a0.D.getD iv1 default).A),(rr 10 (a0.D.getD iv1 default).J),(rr 11 (a0.D.getD iv1 default).I),(rr 12 (a0.D.getD iv1 default).T)])]))] [(bx (TTr.e a0)),(bx (TTr.e (⟨0,[]⟩:TTr))),(Ob.box (AV.agg [(vi sv2.1),(AV.ref 3 ((sv2.2++[(⟨(a0.D.getD iv1 default).C,(a0.D.getD iv1 default).E,(a0.D.getD iv1 default).V,(a0.D.getD iv1 default).A,(a0.D.getD iv1 default).J,(a0.D.getD iv1 default).I,(a0.D.getD iv1 default).T⟩:TPo)]).length) 0 ((sv2.2++[(⟨(a0.D.getD iv1 default).C,(a0.D.getD iv1 default).E,(a0.D.getD iv1 default).V,(a0.D.getD iv1 default).A,(a0.D.getD iv1 default).J,(a0.D.getD iv1 default).I,(a0.D.getD iv1 default).T⟩:TPo)]).length))])),(oTApiPot.R 4 i0 (sv2.2++[(⟨(a0.D.getD iv1 default).C,(a0.D.getD iv1 default).E,(a0.D.getD iv1 default).V,(a0.D.getD iv1 default).A,(a0.D.getD iv1 default).J,(a0.D.getD iv1 default).I,(a0.D.getD iv1 default).T⟩:TPo)])),(eQ (opQ TPo.A i0 (sv2.2++[(⟨(a0.D.getD iv1 default).C,(a0.D.getD iv1 default).E,(a0.D.getD iv1 default).V,(a0.D.getD iv1 default).A,(a0.D.getD iv1 default).J,(a0.D.getD iv1 default).I,(a0.D.getD iv1 default).T⟩:TPo)]))),(eQ (opQ TPo.J i0 (sv2.2++[(⟨(a0.D.getD iv1 default).C,(a0.D.getD iv1 default).E,(a0.D.getD iv1 default).V,(a0.D.getD iv1 default).A,(a0.D.getD iv1 default).J,(a0.D.getD iv1 default).I,(a0.D.getD iv1 default).T⟩:TPo)]))),(eQ (opQ TPo.I i0 (sv2.2++[(⟨(a0.D.getD iv1 default).C,(a0.D.getD iv1 default).E,(a0.D.getD iv1 default).V,(a0.D.getD iv1 default).A,(a0.D.getD iv1 default).J,(a0.D.getD iv1 default).I,(a0.D.getD iv1 default).T⟩:TPo)]))),(eQ (opQ TPo.T i0 (sv2.2++[(⟨(a0.D.getD iv1 default).C,(a0.D.getD iv1 default).E,(a0.D.getD iv1 default).V,(a0.D.getD iv1 default).A,(a0.D.getD iv1 default).J,(a0.D.getD iv1 default).I,(a0.D.getD iv1 default).T⟩:TPo)]))),(Ob.box (AV.agg [(AV.d (DV.str (a0.D.getD iv1 default).C)),(vi (a0.D.getD iv1 default).E),(vi (a0.D.getD iv1 default).V),(rr 9 (a0.D.getD iv1 default).A),(rr 10 (a0.D.getD iv1 default).J),(rr 11 (a0.D.getD iv1 default).I),(rr 12 (a0.D.getD iv1 default).T)])),Ob.dead,Ob.dead,Ob.dead,Ob.dead,(Ob.seq 7 1 (listF AV.bot [(AV.agg [(AV.d (DV.str (a0.D.getD iv1 default).C)),(vi (a0.D.getD iv1 default).E),(vi (a0.D.getD iv1 default).V),(rr 9 (a0.D.getD iv1 default).A),(rr 10 (a0.D.getD iv1 default).J),(rr 11 (a0.D.getD iv1 default).I),(rr 12 (a0.D.getD iv1 default).T)])]))] (fun h=>za2 oTApiPot (P:=[(bx (TTr.e a0)),(bx (TTr.e (⟨0,[]⟩:TTr))),(Ob.box (AV.agg [(vi sv2.1),(AV.ref 3 ((sv2.2++[(⟨(a0.D.getD iv1 default).C,(a0.D.getD iv1 default).E,(a0.D.getD iv1 default).V,(a0.D.getD iv1 default).A,(a0.D.getD iv1 default).J,(a0.D.getD iv1 default).I,(a0.D.getD iv1 default).T⟩:TPo)]).length) 0 ((sv2.2++[(⟨(a0.D.getD iv1 default).C,(a0.D.getD iv1 default).E,(a0.D.getD iv1 default).V,(a0.D.getD iv1 default).A,(a0.D.getD iv1 default).J,(a0.D.getD iv1 default).I,(a0.D.getD iv1 default).T⟩:TPo)]).length))]))]) (D:=[(Ob.box (AV.agg [(AV.d (DV.str (a0.D.getD iv1 default).C)),(vi (a0.D.getD iv1 default).E),(vi (a0.D.getD iv1 default).V),(rr 9 (a0.D.getD iv1 default).A),(rr 10 (a0.D.getD iv1 default).J),(rr 11 (a0.D.getD iv1 default).I),(rr 12 (a0.D.getD iv1 default).T)]))]) (E:=[(Ob.seq 7 1 (listF AV.bot [(AV.agg [(AV.d (DV.str (a0.D.getD iv1 default).C)),(vi (a0.D.getD iv1 default).E),(vi (a0.D.getD iv1 default).V),(rr 9 (a0.D.getD iv1 default).A),(rr 10 (a0.D.getD iv1 default).J),(rr 11 (a0.D.getD iv1 default).I),(rr 12 (a0.D.getD iv1 default).T)])]))]) (i:=i0) (l:=sv2.2) (x:=(⟨(a0.D.getD iv1 default).C,(a0.D.getD iv1 default).E,(a0.D.getD iv1 default).V,(a0.D.getD iv1 default).A,(a0.D.getD iv1 default).J,(a0.D.getD iv1 default).I,(a0.D.getD iv1 default).T⟩:TPo)) rfl rfl (fun j hj=>z1n hj) (by rw[z1q (yf _),y52]; rfl) h.1 h.2) (z26 _)<|
.c (sv2.1,sv2.2++[e0_])
def S_q1a (a0:TTr) (i0:Nat):SC R_q1a R_q1a :=
 let e3_:=(bx (TTr.e (⟨0,[]⟩:TTr)))
.reg 0 [] [(1,{ obs:=[(1,e3_)] })] [.pf z2e]<|
.reg 1 [] [(2,{ h:=.obj }),(3,{ h:=.obj })] []<|
 let e0_:=(([]:List TPo).getD i0 default)
 let e6_:=(AV.agg [(vi a0.M),(AV.ref 3 0 0 0)])
 let e7_:=(bx (TTr.e a0))
 let e1_:=[e7_,e3_,(Ob.box e6_),(oTApiPot.R 4 i0 [])]
 let e2_:=[(1,(vp 0)),(2,(vp 1)),(3,(vp 2))]
.sh (A:=True) (.pf trivial) e2_ e2_ [e7_,e3_,(Ob.box (AV.agg [(vi a0.M),(AV.full 0 fun _=>DV.b false)]))] e1_ (fun _=>(z1t (sz:=7) (f:=(fun j=>AV.sel (decide (j=i0)) 7 (AV.agg [(AV.d (DV.str e0_.C)),(vi e0_.E),(vi e0_.V),(rr 4 e0_.A),(rr 5 e0_.J),(rr 6 e0_.I),(rr 7 e0_.T)]) (AV.d (TPo.e (([]:List TPo).getD j default))))) (.keep _ _ _ _ (y15 rfl) (.keep _ _ _ _ (y15 rfl) (.box _ _ _ _ _ (y15 rfl) (TrV.agg (TrL.cons (TrV.keep _) (TrL.cons TrV.born TrL.nil))) (.nil _)))))) (z16 (k:=0) rfl (TrS.keep _) (z16 (k:=1) rfl (TrS.keep _) (z16 (k:=2) rfl (TrS.keep _) z2g)))<|
.sh (A:=True) (.pf trivial) e2_ e2_ e1_ [e7_,e3_,(Ob.box e6_),(oTApiPot.R 4 i0 []),(eQ (opQ TPo.A i0 ([]:List TPo))),(eQ (opQ TPo.J i0 ([]:List TPo))),(eQ (opQ TPo.I i0 ([]:List TPo))),(eQ (opQ TPo.T i0 ([]:List TPo)))] (fun _=>zbo) (z26 _)<|
.range (a0.D.length:Int) a0.D.length rfl (.slot 10) 12 [2,3,10,11] (fun (_:Int×(List TPo))=>[]) (fun sv2=>[(2,(Ob.box (AV.agg [(vi sv2.1),(AV.ref 3 sv2.2.length 0 sv2.2.length)]))),(3,(oTApiPot.R 4 i0 sv2.2)),(4,(eQ (opQ TPo.A i0 sv2.2))),(5,(eQ (opQ TPo.J i0 sv2.2))),(6,(eQ (opQ TPo.I i0 sv2.2))),(7,(eQ (opQ TPo.T i0 sv2.2)))]) (a0.M,([]:List TPo)) (S_q1a_b1 a0 i0) (fun sv2 => 
.reg 11 [] [] []<|
.kill 0<|
.kill 2<|
.guard [i0<sv2.2.length]<|
 let e4_:=(AV.agg [(vi sv2.1),(AV.ref 3 sv2.2.length 0 sv2.2.length)])
 let e5_:=(sv2.2.getD i0 default)
.cst (A:=i0<sv2.2.length) (.ev 0) [(2,(vp 1))] [(2,(vp 1))] [Ob.dead,(Ob.box e4_),Ob.dead,(oTApiPot.R 4 i0 sv2.2),(eQ (opQ TPo.A i0 sv2.2)),(eQ (opQ TPo.J i0 sv2.2)),(eQ (opQ TPo.I i0 sv2.2)),(eQ (opQ TPo.T i0 sv2.2))] [Ob.dead,(Ob.box e4_),Ob.dead,(oTApiPot.R 4 i0 sv2.2),(eQ e5_.A),(eQ e5_.J),(eQ e5_.I),(eQ e5_.T)] (fun h=>⟨rfl,by simp +zetaDelta only[zmd h]⟩)<|
.r (sv2.1,sv2.2)) id
def F_q1a (a0:TTr) (i0:Nat):=(S_q1a a0 i0).den
theorem F_q1a_ok {a0:TTr} {i0:Nat}:FO (F_q1a a0 i0) 97 [(AV.d (TTr.e a0))] [] (fun x=>(AV.agg [(vi x.1),(AV.ref 3 x.2.length 0 x.2.length)])) (fun x=>[Ob.dead,(Ob.box (AV.agg [(vi x.1),(AV.ref 3 x.2.length 0 x.2.length)])),Ob.dead,(opS 7 TPo.e i0 (AV.agg [(AV.d (DV.str (x.2.getD i0 default).C)),(vi (x.2.getD i0 default).E),(vi (x.2.getD i0 default).V),(rr 4 (x.2.getD i0 default).A),(rr 5 (x.2.getD i0 default).J),(rr 6 (x.2.getD i0 default).I),(rr 7 (x.2.getD i0 default).T)]) x.2),(eQ (x.2.getD i0 default).A),(eQ (x.2.getD i0 default).J),(eQ (x.2.getD i0 default).I),(eQ (x.2.getD i0 default).T)]):=fO (s:=S_q1a a0 i0) Tryz.func97
abbrev R_qb:=TTr×Int
def S_qb_b1 (a0:TTr) (a3:(List Int)) (rv1:(Int×Int)) (iv2:Nat) (sv3:Int×Int):SC R_qb (Step (Int×Int) R_qb) :=
.reg 9 [] [] [.w iv2,.ev 0]<|
.a 10 1 2 (@F_qc_ok (a3.getD iv2 default)) fun rv4=>
.ite (!rv4) (
.reg 11 [] [(0,hv (AV.d (TTr.e (⟨0,[]⟩:TTr))))] [.pf z1i]<|
.r (.ret ((⟨0,[]⟩:TTr),2))) (
 let e0_:=((a0.D.getD ((rv1.1).toNat) default).A)
.guard [(0:Int)<=rv1.1,(rv1.1).toNat<a0.D.length,iv2<e0_.length]<|
.reg 13 [] [] [.ev 0,.ev 1,.w iv2,.ev 2]<|
.r (.cont ((i64.wrap (sv3.1+(a3.getD iv2 default))),(i64.wrap (sv3.2+(e0_.getD iv2 default))))))
def S_qb_b2 (a3:(List Int)) (rv1:(Int×Int)) (rv5:R_q1a) (iv6:Nat) (sv7:(List Int)):SC R_qb (Step ((List Int)) R_qb) :=
.reg 22 [] [] [.w iv6,.ev 0]<|
 let e3_:=((rv1.1).toNat)
 let e2_:=((rv5.2.getD e3_ default).A)
.guard [(rv1.1).toNat<rv5.2.length,sv7.length=e2_.length,iv6<e2_.length,(0+iv6)<sv7.length]<|
 let e0_:=(i64.wrap ((sv7.getD (0+iv6) default)+(a3.getD iv6 default)))
 let e1_:=(AV.ptr 5 rv5.2.length [.x e3_ 7])
.reg 23 [] [(3,hv e1_),(12,{ obs:=[(6,(eS 1 (DV.i .i64) (sv7.set (0+iv6) e0_)))] })] [.e rv5.2.length,.ev 9,.ev 0,.pf (p:=LeV (AV.ptr 5 rv5.2.length [.x (0+e3_) 7]) e1_) (z5y),.e rv5.2.length,.e rv5.2.length,.ev 0,.pf (p:=decide ((rv1.1).toNat=(rv1.1).toNat)=true) (ye rfl),.ev 1,.w iv6,.ev 2,.ev 1,.ev 3,.ev 1,.w iv6,.ev 2,.ev 1,.ev 3,.pf (zr (sz:=1) (e:=(DV.i .i64)) (l:=sv7) (i:=(0+iv6)) (x:=e0_) (fun _=>rfl))]<|
.c (sv7.set (0+iv6) e0_)
def S_qb (a0:TTr) (a1:List UInt8) (a2:Int) (a3:(List Int)):SC R_qb R_qb :=
 let e15_:=(bx (TTr.e (⟨0,[]⟩:TTr)))
.reg 0 [] [(1,{ obs:=[(1,e15_)] })] [.pf z2e]<|
.a 1 3 2 (@F_q29_ok a0 1 a1 a2) fun rv1=>
 let e4_:=(AV.d (TTr.e (⟨0,[]⟩:TTr)))
.ite (rv1.2 != 0) (
.reg 3 [] [(0,hv e4_)] [.pf z1i]<|
.r ((⟨0,[]⟩:TTr),rv1.2)) (
.ite ((a3.length:Int) != a0.M) (
.reg 5 [] [(0,hv e4_)] [.pf z1i]<|
.r ((⟨0,[]⟩:TTr),6)) (
.range (a3.length:Int) a3.length rfl (.slot 3) 38 [3,4,8,10,36,37] (fun (sv3:Int×Int)=>[(12,(vi sv3.1)),(13,(vi sv3.2))]) (fun _=>[]) (0,0) (S_qb_b1 a0 a3 rv1) (fun sv3 => 
 let e5_:=((rv1.1).toNat)
.call (@F_q4z_ok (a0.D.getD e5_ default)) fun rv8 cv8=>
.guard [(0:Int)<=rv1.1,(rv1.1).toNat<a0.D.length]<|
.reg 15 [] [(6,hc cv8 [] true)] [.ev 0,.ev 1,.cl 2 cv8 [] 2 true]<|
.ite (decide (sv3.1>rv8)) (
.reg 16 [] [(0,hv e4_)] [.pf z1i]<|
.r ((⟨0,[]⟩:TTr),15)) (
.ite (decide ((i64.wrap (sv3.1+sv3.2))>1000000000000000)) (
.reg 18 [] [(0,hv e4_)] [.pf z1i]<|
.r ((⟨0,[]⟩:TTr),3)) (
.call (@F_q1a_ok a0 e5_) fun rv5 cv5=>
.reg 19 [] [(1,hc cv5 [] false),(2,{ obs:=[(10,e15_)] })] [.cl 0 cv5 [] 2 false,.pf z2e]<|
.kill 3<|
 let e0_:=(rv5.2.getD e5_ default)
.range (a3.length:Int) a3.length rfl (.slot 78) 80 [8,10,16,78,79] (fun (_:(List Int))=>[]) (fun sv7=>[(6,(eS 1 (DV.i .i64) sv7))]) (e0_.A) (S_qb_b2 a3 rv1 rv5) (fun sv7 => 
.reg 25 [] [] []<|
.guard [sv7.length=(e0_.A).length]<|
 let e8_:=(bx (TTr.e a0))
 let e10_:=(eS 1 (DV.i .i64) (e0_.J))
 let e11_:=(eS 1 (DV.i .i64) (e0_.I))
 let e12_:=(eS 1 (DV.i .i64) (e0_.T))
 let e13_:=(AV.d (DV.str (e0_.C)))
 let e14_:=(eS 1 (DV.i .i64) sv7)
.cst (A:=sv7.length=(e0_.A).length) (.ev 0) [(8,(vp 1)),(9,(vi 0))] [(8,(vp 1)),(9,(vi 0))] [e8_,(Ob.box (AV.agg [(vi rv5.1),(AV.ref 5 rv5.2.length 0 rv5.2.length)])),Ob.dead,Ob.dead,Ob.dead,(opS 7 TPo.e e5_ (AV.agg [e13_,(vi (e0_.E)),(vi (e0_.V)),(AV.ref 6 ((e0_.A).length) 0 ((e0_.A).length)),(AV.ref 7 ((e0_.J).length) 0 ((e0_.J).length)),(AV.ref 8 ((e0_.I).length) 0 ((e0_.I).length)),(AV.ref 9 ((e0_.T).length) 0 ((e0_.T).length))]) rv5.2),e14_,e10_,e11_,e12_,(Ob.box (AV.agg [(vi rv5.1),(AV.ref 5 rv5.2.length 0 rv5.2.length)]))] [e8_,(Ob.box (AV.agg [(vi rv5.1),(AV.ref 5 rv5.2.length 0 rv5.2.length)])),Ob.dead,Ob.dead,Ob.dead,(opS 7 TPo.e e5_ (AV.agg [e13_,(vi (e0_.E)),(vi (e0_.V)),(AV.ref 6 sv7.length 0 sv7.length),(AV.ref 7 ((e0_.J).length) 0 ((e0_.J).length)),(AV.ref 8 ((e0_.I).length) 0 ((e0_.I).length)),(AV.ref 9 ((e0_.T).length) 0 ((e0_.T).length))]) rv5.2),e14_,e10_,e11_,e12_,(Ob.box (AV.agg [(vi rv5.1),(AV.ref 5 rv5.2.length 0 rv5.2.length)]))] (fun h=>⟨rfl,by rw[h]⟩)<|
.guard [sv7.length<2 ^ 63/\(e0_.J).length<2 ^ 63/\(e0_.I).length<2 ^ 63/\(e0_.T).length<2 ^ 63]<|
 let e9_:=(⟨e0_.C,e0_.E,e0_.V,sv7,e0_.J,e0_.I,e0_.T⟩:TPo)
 let e1_:=(rv5.2.set e5_ e9_)
 let e2_:=(AV.agg [(vi rv5.1),(AV.ref 5 rv5.2.length 0 rv5.2.length)])
 let e3_:=[e8_,(Ob.box e2_),Ob.dead,Ob.dead,Ob.dead,(eS 7 TPo.e e1_),Ob.dead,Ob.dead,Ob.dead,Ob.dead,(Ob.box e2_)]
 let e7_:=[(8,(vp 1)),(9,(vi 0))]
.sh (A:=sv7.length<2 ^ 63/\(e0_.J).length<2 ^ 63/\(e0_.I).length<2 ^ 63/\(e0_.T).length<2 ^ 63) (.ev 0) e7_ e7_ [e8_,(Ob.box e2_),Ob.dead,Ob.dead,Ob.dead,(opS 7 TPo.e e5_ (AV.agg [e13_,(vi (e0_.E)),(vi (e0_.V)),(AV.ref 6 sv7.length 0 sv7.length),(AV.ref 7 ((e0_.J).length) 0 ((e0_.J).length)),(AV.ref 8 ((e0_.I).length) 0 ((e0_.I).length)),(AV.ref 9 ((e0_.T).length) 0 ((e0_.T).length))]) rv5.2),e14_,e10_,e11_,e12_,(Ob.box e2_)] e3_ (fun h=>z3e oTApiPot (P:=[e8_,(Ob.box e2_),Ob.dead,Ob.dead,Ob.dead]) (D:=[(Ob.box e2_)]) rfl (⟨e0_.C,e0_.E,e0_.V,[],[],[],[]⟩:TPo) e9_ h rfl) (z26 _)<|
 let e6_:=(AV.agg [(vi rv5.1),(AV.ref 5 (e1_.length) 0 (e1_.length))])
.cst (A:=True) (.pf trivial) e7_ e7_ e3_ [e8_,(Ob.box e6_),Ob.dead,Ob.dead,Ob.dead,(eS 7 TPo.e e1_),Ob.dead,Ob.dead,Ob.dead,Ob.dead,(Ob.box e6_)] (fun _=>⟨by simp +zetaDelta only,by simp +zetaDelta only[yb]⟩)<|
.guard [e1_.length<2 ^ 63]<|
.frz 5 (.ev 0) none [] [1,10]<|
.r ((⟨rv5.1,e1_⟩:TTr),0)) id))) id))
def F_qb (a0:TTr) (a1:List UInt8) (a2:Int) (a3:(List Int)):=(S_qb a0 a1 a2 a3).den
theorem F_qb_ok {a0:TTr} {a1:List UInt8} {a2:Int} {a3:(List Int)}:FO (F_qb a0 a1 a2 a3) 99 [(AV.d (TTr.e a0)),(AV.d (DV.str a1)),(vi a2),(vl a3)] [] (fun x=>(AV.tup [(AV.d (TTr.e x.1)),(vi x.2)])) NL:=fO (s:=S_qb a0 a1 a2 a3) Tryz.func99
def S_q50 (a0:TTr) (a1:Int) (a2:List UInt8) (a3:Int) (a4:Int):SC (TTr×Int) (TTr×Int) :=
 let e5_:=(bx (TTr.e (⟨0,[]⟩:TTr)))
.reg 0 [] [(1,{ obs:=[(1,e5_)] })] [.pf z2e]<|
.a 1 4 2 (@F_q29_ok a0 a1 a2 a3) fun rv1=>
 let e4_:=(AV.d (TTr.e (⟨0,[]⟩:TTr)))
.ite (rv1.2 != 0) (
.reg 3 [] [(0,hv e4_)] [.pf z1i]<|
.r ((⟨0,[]⟩:TTr),rv1.2)) (
.ite (bif (decide (a4<1)) then true else (decide (a4>1000000000000000))) (
.reg 5 [] [(0,hv e4_)] [.pf z1i]<|
.r ((⟨0,[]⟩:TTr),2)) (
.guard [(0:Int)<=a0.M,a0.M * 8<=2 ^ 47]<|
 let e1_:=((List.replicate a0.M.toNat (0:Int)).length)
.reg 6 [] [(2,{ cast:=some (AV.ref 2 e1_ 0 e1_),obs:=[(2,(eS 1 (DV.i .i64) (List.replicate a0.M.toNat (0:Int))))] })] [.ev 0,.pf (p:=a0.M<=a0.M) (y1e _),.ev 1,.pf (zay (o:=2) (k:=a0.M.toNat) (z:=(0:Int))),.pf (zaz (sz:=1) (k:=a0.M.toNat) (e:=(DV.i .i64)) (z:=(0:Int)))]<|
 let e2_:=(i64.wrap (a1-1))
 let e6_:=(0+(e2_).toNat)
.guard [(0:Int)<=e2_,(e2_).toNat<(List.replicate a0.M.toNat (0:Int)).length,e6_<(List.replicate a0.M.toNat (0:Int)).length]<|
 let e0_:=((List.replicate a0.M.toNat (0:Int)).set e6_ a4)
.reg 7 [] [(5,{ obs:=[(2,(eS 1 (DV.i .i64) e0_))] })] [.e e1_,.ev 0,.ev 1,.e e1_,.ev 2,.pf (zr (sz:=1) (e:=(DV.i .i64)) (l:=(List.replicate a0.M.toNat (0:Int))) (i:=e6_) (x:=a4) (fun _=>rfl))]<|
 let e3_:=[(bx (TTr.e a0)),e5_,(eS 1 (DV.i .i64) e0_)]
.cst (A:=True) (.pf trivial) [(2,(AV.d (DV.str a2))),(3,(vi a3)),(5,(vp 0)),(10,(vp 1)),(14,(AV.ref 2 e1_ 0 e1_))] [(2,(AV.d (DV.str a2))),(3,(vi a3)),(5,(vp 0)),(10,(vp 1)),(14,(AV.ref 2 (e0_.length) 0 (e0_.length)))] e3_ e3_ (fun _=>⟨by simp +zetaDelta only[yb],by rfl⟩)<|
.guard [e0_.length<2 ^ 63]<|
.frz 2 (.ev 0) none [14] []<|
.a 8 4 3 (@F_qb_ok a0 a2 a3 e0_) fun rv2=>
.r (rv2.1,rv2.2)))
def F_q50 (a0:TTr) (a1:Int) (a2:List UInt8) (a3:Int) (a4:Int):=(S_q50 a0 a1 a2 a3 a4).den
theorem F_q50_ok {a0:TTr} {a1:Int} {a2:List UInt8} {a3:Int} {a4:Int}:FO (F_q50 a0 a1 a2 a3 a4) 59 [(AV.d (TTr.e a0)),(vi a1),(AV.d (DV.str a2)),(vi a3),(vi a4)] [] (fun x=>(AV.tup [(AV.d (TTr.e x.1)),(vi x.2)])) NL:=fO (s:=S_q50 a0 a1 a2 a3 a4) Tryz.func59
end
end Go.Proofs.YtdmddkbngmhepaaGreatDoor
/- What the functions compute,and that their calls return it. No condition. -/
namespace Go.Proofs.YtdmddkbngmhepaaGreatDoor
open Go Go.TA
open Go.IntKind (i64)
noncomputable section
set_option maxRecDepth 100000
def S_q51 (a0:TTr) (a1:Int) (a2:List UInt8) (a3:Int) (a4:Int):SC (TTr×Int) (TTr×Int) :=
 let e22_:=(bx (TTr.e (⟨0,[]⟩:TTr)))
.reg 0 [] [(1,{ obs:=[(1,e22_)] })] [.pf z2e]<|
.a 1 4 2 (@F_q29_ok a0 a1 a2 a3) fun rv1=>
 let e11_:=(AV.d (TTr.e (⟨0,[]⟩:TTr)))
.ite (rv1.2 != 0) (
.reg 3 [] [(0,hv e11_)] [.pf z1i]<|
.r ((⟨0,[]⟩:TTr),rv1.2)) (
.ite (bif (decide (a4<1)) then true else (decide (a4>1000000000000000))) (
.reg 5 [] [(0,hv e11_)] [.pf z1i]<|
.r ((⟨0,[]⟩:TTr),2)) (
 let e4_:=(i64.wrap (a1-1))
 let e5_:=((rv1.1).toNat)
 let e10_:=(a0.D.getD e5_ default)
.guard [(0:Int)<=rv1.1,(rv1.1).toNat<a0.D.length,(0:Int)<=e4_,(e4_).toNat<(e10_.I).length,(e4_).toNat<(e10_.A).length]<|
.reg 6 [] [] [.ev 0,.ev 1,.ev 2,.ev 3,.ev 0,.ev 1,.ev 2,.ev 4]<|
.ite (decide ((i64.wrap (((e10_.I).getD ((e4_).toNat) default)+a4))>((e10_.A).getD ((e4_).toNat) default))) (
.reg 7 [] [(0,hv e11_)] [.pf z1i]<|
.r ((⟨0,[]⟩:TTr),15)) (
.call (@F_q1a_ok a0 e5_) fun rv2 cv2=>
.reg 8 [] [(1,hc cv2 [] false),(2,{ obs:=[(10,e22_)] })] [.cl 0 cv2 [] 2 false,.pf z2e]<|
.kill 3<|
 let e0_:=(rv2.2.getD e5_ default)
 let e20_:=(0+(e4_).toNat)
.guard [(rv1.1).toNat<rv2.2.length,(e4_).toNat<(e0_.I).length,e20_<(e0_.I).length]<|
 let e8_:=(i64.wrap (((e0_.I).getD e20_ default)+a4))
 let e1_:=((e0_.I).set e20_ e8_)
 let e12_:=(eS 1 (DV.i .i64) e1_)
 let e19_:=((e0_.I).length)
 let e21_:=(AV.ptr 5 rv2.2.length [.x e5_ 7])
.reg 9 [] [(3,hv e21_),(13,{ obs:=[(8,e12_)] })] [.e rv2.2.length,.ev 5,.ev 0,.pf (p:=LeV (AV.ptr 5 rv2.2.length [.x (0+e5_) 7]) e21_) (z5y),.e rv2.2.length,.e rv2.2.length,.ev 0,.pf (p:=decide ((rv1.1).toNat=(rv1.1).toNat)=true) (ye rfl),.e e19_,.ev 7,.ev 1,.e e19_,.ev 2,.e e19_,.ev 7,.ev 1,.e e19_,.ev 2,.pf (zr (sz:=1) (e:=(DV.i .i64)) (l:=(e0_.I)) (i:=e20_) (x:=e8_) (fun _=>rfl))]<|
.reg 10 [] [] []<|
.guard [e1_.length=(e0_.I).length]<|
 let e13_:=(bx (TTr.e a0))
 let e15_:=(eS 1 (DV.i .i64) (e0_.A))
 let e16_:=(eS 1 (DV.i .i64) (e0_.J))
 let e17_:=(eS 1 (DV.i .i64) (e0_.T))
 let e18_:=(AV.d (DV.str (e0_.C)))
.cst (A:=e1_.length=(e0_.I).length) (.ev 0) [(10,(vp 1)),(11,(vi 0))] [(10,(vp 1)),(11,(vi 0))] [e13_,(Ob.box (AV.agg [(vi rv2.1),(AV.ref 5 rv2.2.length 0 rv2.2.length)])),Ob.dead,Ob.dead,Ob.dead,(opS 7 TPo.e e5_ (AV.agg [e18_,(vi (e0_.E)),(vi (e0_.V)),(AV.ref 6 ((e0_.A).length) 0 ((e0_.A).length)),(AV.ref 7 ((e0_.J).length) 0 ((e0_.J).length)),(AV.ref 8 ((e0_.I).length) 0 ((e0_.I).length)),(AV.ref 9 ((e0_.T).length) 0 ((e0_.T).length))]) rv2.2),e15_,e16_,e12_,e17_,(Ob.box (AV.agg [(vi rv2.1),(AV.ref 5 rv2.2.length 0 rv2.2.length)]))] [e13_,(Ob.box (AV.agg [(vi rv2.1),(AV.ref 5 rv2.2.length 0 rv2.2.length)])),Ob.dead,Ob.dead,Ob.dead,(opS 7 TPo.e e5_ (AV.agg [e18_,(vi (e0_.E)),(vi (e0_.V)),(AV.ref 6 ((e0_.A).length) 0 ((e0_.A).length)),(AV.ref 7 ((e0_.J).length) 0 ((e0_.J).length)),(AV.ref 8 (e1_.length) 0 (e1_.length)),(AV.ref 9 ((e0_.T).length) 0 ((e0_.T).length))]) rv2.2),e15_,e16_,e12_,e17_,(Ob.box (AV.agg [(vi rv2.1),(AV.ref 5 rv2.2.length 0 rv2.2.length)]))] (fun h=>⟨rfl,by rw[h]⟩)<|
.guard [(e0_.A).length<2 ^ 63/\(e0_.J).length<2 ^ 63/\e1_.length<2 ^ 63/\(e0_.T).length<2 ^ 63]<|
 let e14_:=(⟨e0_.C,e0_.E,e0_.V,e0_.A,e0_.J,e1_,e0_.T⟩:TPo)
 let e2_:=(rv2.2.set e5_ e14_)
 let e3_:=(AV.agg [(vi rv2.1),(AV.ref 5 rv2.2.length 0 rv2.2.length)])
 let e6_:=[e13_,(Ob.box e3_),Ob.dead,Ob.dead,Ob.dead,(eS 7 TPo.e e2_),Ob.dead,Ob.dead,Ob.dead,Ob.dead,(Ob.box e3_)]
 let e7_:=[(10,(vp 1)),(11,(vi 0))]
.sh (A:=(e0_.A).length<2 ^ 63/\(e0_.J).length<2 ^ 63/\e1_.length<2 ^ 63/\(e0_.T).length<2 ^ 63) (.ev 0) e7_ e7_ [e13_,(Ob.box e3_),Ob.dead,Ob.dead,Ob.dead,(opS 7 TPo.e e5_ (AV.agg [e18_,(vi (e0_.E)),(vi (e0_.V)),(AV.ref 6 ((e0_.A).length) 0 ((e0_.A).length)),(AV.ref 7 ((e0_.J).length) 0 ((e0_.J).length)),(AV.ref 8 (e1_.length) 0 (e1_.length)),(AV.ref 9 ((e0_.T).length) 0 ((e0_.T).length))]) rv2.2),e15_,e16_,e12_,e17_,(Ob.box e3_)] e6_ (fun h=>z3e oTApiPot (P:=[e13_,(Ob.box e3_),Ob.dead,Ob.dead,Ob.dead]) (D:=[(Ob.box e3_)]) rfl (⟨e0_.C,e0_.E,e0_.V,[],[],[],[]⟩:TPo) e14_ h rfl) (z26 _)<|
 let e9_:=(AV.agg [(vi rv2.1),(AV.ref 5 (e2_.length) 0 (e2_.length))])
.cst (A:=True) (.pf trivial) e7_ e7_ e6_ [e13_,(Ob.box e9_),Ob.dead,Ob.dead,Ob.dead,(eS 7 TPo.e e2_),Ob.dead,Ob.dead,Ob.dead,Ob.dead,(Ob.box e9_)] (fun _=>⟨by simp +zetaDelta only,by simp +zetaDelta only[yb]⟩)<|
.guard [e2_.length<2 ^ 63]<|
.frz 5 (.ev 0) none [] [1,10]<|
.r ((⟨rv2.1,e2_⟩:TTr),0))))
def F_q51 (a0:TTr) (a1:Int) (a2:List UInt8) (a3:Int) (a4:Int):=(S_q51 a0 a1 a2 a3 a4).den
theorem F_q51_ok {a0:TTr} {a1:Int} {a2:List UInt8} {a3:Int} {a4:Int}:FO (F_q51 a0 a1 a2 a3 a4) 60 [(AV.d (TTr.e a0)),(vi a1),(AV.d (DV.str a2)),(vi a3),(vi a4)] [] (fun x=>(AV.tup [(AV.d (TTr.e x.1)),(vi x.2)])) NL:=fO (s:=S_q51 a0 a1 a2 a3 a4) Tryz.func60
def S_q52 (a0:TTr) (a1:Int) (a2:List UInt8) (a3:Int):SC (TMe×Int) (TMe×Int) :=
.a 1 4 2 (@F_q29_ok a0 a1 a2 a3) fun rv1=>
.ite (rv1.2 != 0) (
.r ((⟨0,0,[],0,0,0,0,0⟩:TMe),rv1.2)) (
 let e0_:=(a0.D.getD ((rv1.1).toNat) default)
 let e1_:=(i64.wrap (a1-1))
.guard [(0:Int)<=rv1.1,(rv1.1).toNat<a0.D.length,(0:Int)<=e1_,(e1_).toNat<(e0_.A).length,(e1_).toNat<(e0_.I).length]<|
.reg 4 [24] [] [.ev 0,.ev 1,.ev 2,.ev 3,.ev 0,.ev 1,.ev 2,.ev 4]<|
.r ((⟨0,a1,a2,a3,((e0_.A).getD ((e1_).toNat) default),((e0_.I).getD ((e1_).toNat) default),0,0⟩:TMe),0))
def F_q52 (a0:TTr) (a1:Int) (a2:List UInt8) (a3:Int):=(S_q52 a0 a1 a2 a3).den
theorem F_q52_ok {a0:TTr} {a1:Int} {a2:List UInt8} {a3:Int}:FO (F_q52 a0 a1 a2 a3) 61 [(AV.d (TTr.e a0)),(vi a1),(AV.d (DV.str a2)),(vi a3)] [] (fun x=>(AV.tup [(AV.d (TMe.e x.1)),(vi x.2)])) NL:=fO (s:=S_q52 a0 a1 a2 a3) Tryz.func61
def S_q3l (a0:TWo) (a1:TMe):SC (TWo×Int) (TWo×Int) :=
 let e1_:=(⟨(⟨0,[]⟩:TTr),[],[]⟩:TWo)
.reg 0 [] [(2,{ obs:=[(2,(bx (TWo.e e1_)))] })] [.pf cz3]<|
.ite ((a0.W.length:Int)==200) (
.reg 2 [] [(0,hv (AV.d (TWo.e e1_)))] [.pf cz4]<|
.r (e1_,3)) (
.guard [a0.W.length * (2 * 72)<=2 ^ 48,(a0.W.length+1) * (2 * 72)<=2 ^ 48]<|
 let e0_:=([a1]:List TMe)
.reg 3 [3,6,8] [(3,{ h:=.obj }),(5,hv (AV.d (eL TMe.e e0_))),(6,{ cast:=some (AV.ref 3 ((a0.W++e0_).length) 0 ((a0.W++e0_).length)),obs:=[(3,(eS 8 TMe.e (a0.W++e0_)))] })] [.pf (p:=∀ k,k<a0.W.length->(AV.d (TMe.e (a0.W.getD k default))).wd=8) (fun _ _=>rfl),.ev 0,.pf (ze TMe.e e0_),.pf (ze TMe.e e0_),.e a0.W.length,.e a0.W.length,.pf (p:=∀ k,k<1->(AV.d (TMe.e (e0_.getD k default))).wd=8) (fun _ _=>rfl),.ev 1,.pf (zw (o:=3) (l:=a0.W) (x:=e0_)),.pf (z10 (sz:=8) (e:=TMe.e) (l:=a0.W) (x:=e0_))]<|
.guard [(a0.W++e0_).length<2 ^ 63]<|
.frz 3 (.ev 0) none [] [0]<|
.r ((⟨a0.K,a0.O,(a0.W++e0_)⟩:TWo),0))
def F_q3l (a0:TWo) (a1:TMe):=(S_q3l a0 a1).den
theorem F_q3l_ok {a0:TWo} {a1:TMe}:FO (F_q3l a0 a1) 62 [(AV.d (TWo.e a0)),(AV.d (TMe.e a1))] [] (fun x=>(AV.tup [(AV.d (TWo.e x.1)),(vi x.2)])) NL:=fO (s:=S_q3l a0 a1) Tryz.func62
def S_q40 (a0:TJo):SC Bool Bool :=
.call (@F_qr_ok a0) fun rv1 cv1=>
 let e0_:=(bx (TOf.e (⟨0,[],(⟨[],[],[],[]⟩:TBo)⟩:TOf)))
.reg 1 [] [(1,hc cv1 [] true),(6,{ obs:=[(1,e0_)] }),(7,{ obs:=[(2,e0_)] })] [.cl 0 cv1 [] 1 true,.pf cz7,.pf cz7]<|
.r rv1.2.2
def F_q40 (a0:TJo):=(S_q40 a0).den
theorem F_q40_ok {a0:TJo}:FO (F_q40 a0) 152 [(AV.d (TJo.e a0))] [] vb NL:=fO (s:=S_q40 a0) Tryz.func152
def S_q53 (a0:TJo):SC TJo TJo :=
.reg 0 [] [(1,{ obs:=[(1,(bx (TJo.e (⟨0,[],0⟩:TJo))))] })] [.pf cz1]<|
.a 1 1 2 (@F_q40_ok a0) fun rv1=>
.cut none [1,2] (fun (_:TJo)=>[]) (fun sv2=>[(0,(bx (TJo.e sv2)))]) (
.ite rv1 (
.r (.next (⟨a0.Z,a0.Ad,(a0.Ad.length:Int)⟩:TJo))) (
.r (.next a0))) fun sv2=>
.r sv2
def F_q53 (a0:TJo):=(S_q53 a0).den
theorem F_q53_ok {a0:TJo}:FO (F_q53 a0) 101 [(AV.d (TJo.e a0))] [] (fun x=>(AV.d (TJo.e x))) NL:=fO (s:=S_q53 a0) Tryz.func101
def S_q2z (a0:TWo) (a1:TJo):SC TWo TWo :=
 let e2_:=(bx (TWo.e (⟨(⟨0,[]⟩:TTr),[],[]⟩:TWo)))
.reg 0 [] [(2,{ obs:=[(2,e2_)] })] [.pf cz3]<|
.guard [a0.O.length * (2 * 40)<=2 ^ 48]<|
.reg 1 [] [(3,{ h:=.obj })] [.pf (p:=∀ k,k<a0.O.length->(AV.d (TJo.e (a0.O.getD k default))).wd=3) (fun _ _=>rfl),.ev 0]<|
 let e1_:=(i64.wrap (a1.Z-1))
 let e4_:=(0+(e1_).toNat)
.guard [(0:Int)<=e1_,(e1_).toNat<a0.O.length,e4_<a0.O.length]<|
 let e0_:=(a0.O.set e4_ a1)
 let e3_:=(eS 3 TJo.e e0_)
.reg 2 [] [(7,{ obs:=[(3,e3_)] })] [.e a0.O.length,.ev 0,.ev 1,.e a0.O.length,.ev 2,.pf (zr (sz:=3) (e:=TJo.e) (l:=a0.O) (i:=e4_) (x:=a1) (fun _=>rfl))]<|
 let e5_:=[(2,(vp 0)),(4,(vp 2))]
.cst (A:=True) (.pf trivial) e5_ e5_ [(Ob.box (AV.agg [(AV.d (TTr.e a0.K)),(AV.ref 3 a0.O.length 0 a0.O.length),(AV.d (eL TMe.e a0.W))])),(bx (TJo.e a1)),e2_,e3_] [(Ob.box (AV.agg [(AV.d (TTr.e a0.K)),(AV.ref 3 (e0_.length) 0 (e0_.length)),(AV.d (eL TMe.e a0.W))])),(bx (TJo.e a1)),e2_,e3_] (fun _=>⟨by simp +zetaDelta only,by simp +zetaDelta only[yb]⟩)<|
.guard [e0_.length<2 ^ 63]<|
.reg 3 [] [] []<|
.frz 3 (.ev 0) none [] [0,2]<|
.r (⟨a0.K,e0_,a0.W⟩:TWo)
def F_q2z (a0:TWo) (a1:TJo):=(S_q2z a0 a1).den
theorem F_q2z_ok {a0:TWo} {a1:TJo}:FO (F_q2z a0 a1) 100 [(AV.d (TWo.e a0)),(AV.d (TJo.e a1))] [] (fun x=>(AV.d (TWo.e x))) NL:=fO (s:=S_q2z a0 a1) Tryz.func100
theorem zsj:∀ k,k<0->(DV.b false).wd=10:=fun _ h=>absurd h (y3n _)
def S_q54 (a0:TJo):SC TJo TJo :=
.reg 0 [] [(1,{ obs:=[(1,(bx (TJo.e (⟨0,[],0⟩:TJo))))] })] [.pf cz1]<|
.a 1 1 2 (@F_q40_ok a0) fun rv1=>
.cut none [1,2] (fun (_:TJo)=>[]) (fun sv2=>[(0,(bx (TJo.e sv2)))]) (
.ite rv1 (
 let e0_:=(a0.Ad.take ((a0.Ag).toNat))
.guard [(0:Int)<=a0.Ag,(a0.Ag).toNat<=a0.Ad.length,(0+e0_.length) * (2 * 88)<=2 ^ 48]<|
.reg 2 [] [(5,hv (AV.d (eL TOp.e e0_))),(6,hv (AV.d (eL TOp.e e0_)))] [.ev 0,.ev 1,.der (fun (h0:(a0.Ag).toNat<=a0.Ad.length)=>lvT TOp.e a0.Ad h0) 1,.pf (p:=∀ k,k<e0_.length->AV.d (TOp.e (e0_.getD k default))=AV.d (TOp.e (e0_.getD k default))/\(TOp.e (e0_.getD k default)).wd=10) (fun _ _=>⟨rfl,rfl⟩),.pf zsj,.ev 2,.pf (z3j (e:=TOp.e) (x:=e0_))]<|
.r (.next (⟨a0.Z,e0_,a0.Ag⟩:TJo))) (
.r (.next a0))) fun sv2=>
.r sv2
def F_q54 (a0:TJo):=(S_q54 a0).den
theorem F_q54_ok {a0:TJo}:FO (F_q54 a0) 102 [(AV.d (TJo.e a0))] [] (fun x=>(AV.d (TJo.e x))) NL:=fO (s:=S_q54 a0) Tryz.func102
def S_q41 (a0:TJo) (a1:TOp):SC (TJo×Int) (TJo×Int) :=
 let e1_:=(⟨0,[],0⟩:TJo)
.reg 0 [] [(2,{ obs:=[(2,(bx (TJo.e e1_)))] })] [.pf cz1]<|
.call (@F_q3k_ok a0) fun rv1 cv1=>
 let e2_:=(bx (TOf.e (⟨0,[],(⟨[],[],[],[]⟩:TBo)⟩:TOf)))
.reg 1 [] [(1,hc cv1 [] true),(5,{ obs:=[(3,e2_)] })] [.cl 0 cv1 [] 3 true,.pf cz7]<|
.calld [(rv1.2 != 0)=false] default (@F_q8_ok a1) fun rv2 cv2 =>
.reg 2 [] [(4,hc cv2 [] true)] [.clg 0 [(rv1.2 != 0)=false] cv2 [] 4 true]<|
 let e3_:=(0,hv (AV.d (TJo.e e1_)))
.ite (bif (rv1.2 != 0) then true else (!rv2)) (
.reg 3 [] [e3_] [.pf cz2]<|
.r (e1_,1)) (
.call (@F_q3z_ok rv1.1 a1) fun rv3 cv3=>
.reg 4 [] [(2,hc cv3 [] true),(6,{ obs:=[(4,e2_)] })] [.cl 0 cv3 [] 4 true,.pf cz7]<|
.ite (rv3.2 != 0) (
.reg 6 [] [e3_] [.pf cz2]<|
.r (e1_,rv3.2)) (
.ite ((a0.Ad.length:Int)==400) (
.reg 8 [] [e3_] [.pf cz2]<|
.r (e1_,3)) (
.guard [a0.Ad.length * (2 * 88)<=2 ^ 48,(a0.Ad.length+1) * (2 * 88)<=2 ^ 48]<|
 let e0_:=([a1]:List TOp)
.reg 9 [3,6,8] [(3,{ h:=.obj }),(5,hv (AV.d (eL TOp.e e0_))),(6,{ cast:=some (AV.ref 5 ((a0.Ad++e0_).length) 0 ((a0.Ad++e0_).length)),obs:=[(5,(eS 10 TOp.e (a0.Ad++e0_)))] })] [.pf (p:=∀ k,k<a0.Ad.length->(AV.d (TOp.e (a0.Ad.getD k default))).wd=10) (fun _ _=>rfl),.ev 0,.pf (ze TOp.e e0_),.pf (ze TOp.e e0_),.e a0.Ad.length,.e a0.Ad.length,.pf (p:=∀ k,k<1->(AV.d (TOp.e (e0_.getD k default))).wd=10) (fun _ _=>rfl),.ev 1,.pf (zw (o:=5) (l:=a0.Ad) (x:=e0_)),.pf (z10 (sz:=10) (e:=TOp.e) (l:=a0.Ad) (x:=e0_))]<|
.guard [(a0.Ad++e0_).length<2 ^ 63]<|
.frz 5 (.ev 0) none [] [0]<|
.r ((⟨a0.Z,(a0.Ad++e0_),a0.Ag⟩:TJo),0))))
def F_q41 (a0:TJo) (a1:TOp):=(S_q41 a0 a1).den
theorem F_q41_ok {a0:TJo} {a1:TOp}:FO (F_q41 a0 a1) 103 [(AV.d (TJo.e a0)),(AV.d (TOp.e a1))] [] (fun x=>(AV.tup [(AV.d (TJo.e x.1)),(vi x.2)])) NL:=fO (s:=S_q41 a0 a1) Tryz.func103
def S_q55 (a0:TJo):SC (TOf×Int) (TOf×Int) :=
 let e0_:=(⟨0,[],(⟨[],[],[],[]⟩:TBo)⟩:TOf)
 let e1_:=(bx (TOf.e e0_))
.reg 0 [] [(1,{ obs:=[(1,e1_)] })] [.pf cz7]<|
.call (@F_qr_ok a0) fun rv1 cv1=>
.reg 1 [] [(1,hc cv1 [] true),(6,{ obs:=[(2,e1_)] }),(7,{ obs:=[(3,e1_)] })] [.cl 0 cv1 [] 2 true,.pf cz7,.pf cz7]<|
.ite (!rv1.2.2) (
.reg 3 [] [(0,hv (AV.d (TOf.e e0_)))] [.pf cz8]<|
.r (e0_,1)) (
.r (rv1.2.1,0))
def F_q55 (a0:TJo):=(S_q55 a0).den
theorem F_q55_ok {a0:TJo}:FO (F_q55 a0) 104 [(AV.d (TJo.e a0))] [] (fun x=>(AV.tup [(AV.d (TOf.e x.1)),(vi x.2)])) NL:=fO (s:=S_q55 a0) Tryz.func104
def S_q56 (a0:TOf) (a1:List UInt8) (a2:Int):SC (TMe×Int) (TMe×Int) :=
.a 1 1 2 (@F_qa_ok a0) fun rv1=>
 let e0_:=(⟨0,0,[],0,0,0,0,0⟩:TMe)
.ite (!rv1) (
.r (e0_,1)) (
.a 3 3 2 (@F_q13_ok a0 a1 a2) fun rv2=>
.ite (decide (rv2<0)) (
.r (e0_,6)) (
.call (@F_q1n_ok a0 a1 a2) fun rv3 cv3=>
.call (@F_qd_ok a0.Af a1 a2) fun rv4 cv4=>
.reg 5 [15] [(7,hc cv3 [] true),(13,hc cv4 [] true)] [.cl 1 cv3 [] 2 true,.cl 0 cv4 [] 2 true]<|
.r ((⟨a0.L,0,a1,a2,0,0,rv3.N,rv4⟩:TMe),0)))
def F_q56 (a0:TOf) (a1:List UInt8) (a2:Int):=(S_q56 a0 a1 a2).den
theorem F_q56_ok {a0:TOf} {a1:List UInt8} {a2:Int}:FO (F_q56 a0 a1 a2) 105 [(AV.d (TOf.e a0)),(AV.d (DV.str a1)),(vi a2)] [] (fun x=>(AV.tup [(AV.d (TMe.e x.1)),(vi x.2)])) NL:=fO (s:=S_q56 a0 a1 a2) Tryz.func105
def S_q57 (a0:TWo) (a1:TSt):SC (TWo×Int) (TWo×Int) :=
 let e0_:=(⟨(⟨0,[]⟩:TTr),[],[]⟩:TWo)
.reg 0 [] [(2,{ obs:=[(2,(bx (TWo.e e0_)))] })] [.pf cz3]<|
.a 1 3 3 (@F_q3j_ok a0 a1.Z) fun rv1=>
 let e2_:=(0,hv (AV.d (TWo.e e0_)))
.ite (!rv1) (
.reg 2 [] [e2_] [.pf cz4]<|
.r (e0_,6)) (
 let e3_:=(i64.wrap (a1.Z-1))
.guard [(0:Int)<=e3_,(e3_).toNat<a0.O.length]<|
 let e4_:=(bx (TJo.e (⟨0,[],0⟩:TJo)))
.reg 3 [] [(7,{ obs:=[(3,e4_)] })] [.ev 0,.ev 1,.pf cz1]<|
 let e1_:=(a0.O.getD ((e3_).toNat) default)
.ite (a1.P==6) (
.call (@F_q53_ok e1_) fun rv2 cv2=>
.call (@F_q2z_ok a0 rv2) fun rv3 cv3=>
.reg 6 [4] [(2,hc cv2 [] true),(3,hc cv3 [] true)] [.cl 1 cv2 [] 4 true,.cl 0 cv3 [] 4 true]<|
.r (rv3,0)) (
.ite (a1.P==7) (
.call (@F_q54_ok e1_) fun rv4 cv4=>
.call (@F_q2z_ok a0 rv4) fun rv5 cv5=>
.reg 8 [4] [(2,hc cv4 [] true),(3,hc cv5 [] true)] [.cl 1 cv4 [] 4 true,.cl 0 cv5 [] 4 true]<|
.r (rv5,0)) (
.ite (a1.P==5) (
.ite (a1.Op.P==8) (
.reg 11 [] [e2_] [.pf cz4]<|
.r (e0_,9)) (
.call (@F_q41_ok e1_ a1.Op) fun rv6 cv6=>
.reg 12 [] [(3,hc cv6 [] true),(7,{ obs:=[(4,e4_)] })] [.cl 0 cv6 [] 4 true,.pf cz1]<|
.ite (rv6.2 != 0) (
.reg 14 [] [e2_] [.pf cz4]<|
.r (e0_,rv6.2)) (
.a 15 2 5 (@F_q2z_ok a0 rv6.1) fun rv7=>
.r (rv7,0)))) (
.call (@F_q55_ok e1_) fun rv8 cv8=>
.reg 16 [] [(1,hc cv8 [] true),(5,{ obs:=[(4,(bx (TOf.e (⟨0,[],(⟨[],[],[],[]⟩:TBo)⟩:TOf))))] })] [.cl 0 cv8 [] 4 true,.pf cz7]<|
.a 17 5 5 (@F_q56_ok rv8.1 a1.C a1.E) fun rv9=>
.ite (rv9.2 != 0) (
.reg 19 [] [e2_] [.pf cz4]<|
.r (e0_,rv9.2)) (
.a 20 2 6 (@F_q3l_ok a0 rv9.1) fun rv10=>
.r (rv10.1,rv10.2))))))
def F_q57 (a0:TWo) (a1:TSt):=(S_q57 a0 a1).den
theorem F_q57_ok {a0:TWo} {a1:TSt}:FO (F_q57 a0 a1) 63 [(AV.d (TWo.e a0)),(AV.d (TSt.e a1))] [] (fun x=>(AV.tup [(AV.d (TWo.e x.1)),(vi x.2)])) NL:=fO (s:=S_q57 a0 a1) Tryz.func63
end
end Go.Proofs.YtdmddkbngmhepaaGreatDoor
