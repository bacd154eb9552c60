/- A part of the proof: what the functions compute, and that their calls return it. No condition. -/
import Derived.Test.YtlhikmklpelceaaGreatDoorG7
/- What the functions compute, and that their calls return it. No condition. -/
namespace Go.Proofs.YtlhikmklpelceaaGreatDoor
open Go Go.TA
open Go.IntKind (i64)
noncomputable section
set_option maxRecDepth 100000
def S_q6c (a0:TWo) (a1:Int):SC (TWo×Int) (TWo×Int) :=
 let e1_:=(⟨(⟨0,[]⟩:TTr),[],[]⟩:TWo)
.reg 0 [] [(1,{ obs:=[(1,(TWo.b e1_))] })] [.pf cz1]<|
.guard [(0:Int)<=a1,(a1).toNat<a0.V.length]<|
.reg 1 [] [] [.ev 0,.ev 1]<|
 let e0_:=(a0.V.getD ((a1).toNat) dF)
.ite ((e0_.To)==0) (
.call (@F_q69_ok a0.F e0_) fun rv1 cv1=>
.reg 3 [] [(3,hc cv1 [] true),(7,{ obs:=[(3,(TTr.b (⟨0,[]⟩:TTr)))] })] [.cl 0 cv1 [] 3 true,.pf z2b]<|
.ite (rv1.2 != 0) (
.reg 5 [] [(0,hv (TWo.d e1_))] [.pf cz2]<|
.r (e1_,rv1.2)) (
.a 7 2 4 (@F_q41_ok (⟨rv1.1,a0.H,a0.V⟩:TWo) a1) fun rv2=>
.r (rv2,0))) (
 let e2_:=(i64.wrap ((e0_.To)-1))
.call (@F_q4p_ok (a0.H.getD ((e2_).toNat) dF) (⟨8,e0_.D,e0_.E,0,0,0,0,0,e0_.A,e0_.K⟩:TOp)) fun rv3 cv3=>
.guard [(0:Int)<=e2_,(e2_).toNat<a0.H.length]<|
.reg 8 [20,21] [(16,hc cv3 [] true),(20,{ obs:=[(3,(TJo.b (⟨0,[],0⟩:TJo)))] })] [.ev 0,.ev 1,.ev 0,.ev 1,.cl 2 cv3 [] 3 true,.cl 2 cv3 [] 4 true,.pf z3m]<|
.call (@F_q41_ok a0 a1) fun rv4 cv4=>
.call (@F_q3h_ok rv4 rv3.1 rv3.2) fun rv5 cv5=>
.reg 9 [8] [(2,hc cv4 [] true),(5,hc cv5 [] true)] [.cl 1 cv4 [] 4 true,.cl 0 cv5 [] 4 true]<|
.r (rv5.1,rv5.2))
def F_q6c (a0:TWo) (a1:Int):=(S_q6c a0 a1).den
theorem F_q6c_ok {a0:TWo} {a1:Int}:FO (F_q6c a0 a1) 179 [(TWo.d a0),(vi a1)] [] (fun x=>(AV.tup [(TWo.d x.1),(vi x.2)])) NL:=fO (s:=S_q6c a0 a1) Tryz.func179
def S_q6d (a0:TWo) (a1:TSt):SC (TWo×Int) (TWo×Int) :=
 let e0_:=(⟨(⟨0,[]⟩:TTr),[],[]⟩:TWo)
.reg 0 [] [(2,{ obs:=[(2,(TWo.b e0_))] })] [.pf cz1]<|
.a 1 6 3 (@F_q1v_ok a1.Ai 0 (i64.wrap ((a0.V.length:Int)-1))) fun rv1=>
.ite (!rv1) (
.reg 2 [] [(0,hv (TWo.d e0_))] [.pf cz2]<|
.r (e0_,6)) (
.ite (a1.Q==9) (
.a 5 3 3 (@F_q6c_ok a0 a1.Ai) fun rv2=>
.r (rv2.1,rv2.2)) (
.ite (a1.Q==11) (
.call (@F_q3z_ok a0 (a0.V.getD ((a1.Ai).toNat) dF) 0) fun rv3 cv3=>
.guard [(0:Int)<=a1.Ai,(a1.Ai).toNat<a0.V.length]<|
.reg 7 [10] [(7,hc cv3 [] true)] [.ev 0,.ev 1,.cl 2 cv3 [] 3 true]<|
.r (rv3.1,rv3.2)) (
.a 8 3 3 (@F_q41_ok a0 a1.Ai) fun rv4=>
.r (rv4,0))))
def F_q6d (a0:TWo) (a1:TSt):=(S_q6d a0 a1).den
theorem F_q6d_ok {a0:TWo} {a1:TSt}:FO (F_q6d a0 a1) 142 [(TWo.d a0),(TSt.d a1)] [] (fun x=>(AV.tup [(TWo.d x.1),(vi x.2)])) NL:=fO (s:=S_q6d a0 a1) Tryz.func142
def S_q6e (a0:TWo) (a1:TSt):SC (TWo×Int) (TWo×Int) :=
 let e0_:=(⟨(⟨0,[]⟩:TTr),[],[]⟩:TWo)
.reg 0 [] [(2,{ obs:=[(2,(TWo.b e0_))] })] [.pf cz1]<|
.cut none [2,3,4,7] (fun (sv1:Bool)=>[(8,(vb sv1))]) (fun _=>[]) (
.ite (a1.Q==1) (
.r (.next (a1.Q==1))) (
.ite (a1.Q==2) (
.r (.next (a1.Q==2))) (
.ite (a1.Q==3) (
.r (.next (a1.Q==3))) (
.r (.next (a1.Q==4)))))) fun sv1=>
.ite sv1 (
.a 6 2 3 (@F_q62_ok a0 a1) fun rv2=>
.r (rv2.1,rv2.2)) (
.cut none [2,3,4,7] (fun (sv3:Bool)=>[(18,(vb sv3))]) (fun _=>[]) (
.ite (a1.Q==5) (
.r (.next (a1.Q==5))) (
.ite (a1.Q==6) (
.r (.next (a1.Q==6))) (
.ite (a1.Q==7) (
.r (.next (a1.Q==7))) (
.r (.next (a1.Q==8)))))) fun sv3=>
.ite sv3 (
.a 11 2 3 (@F_q68_ok a0 a1) fun rv4=>
.r (rv4.1,rv4.2)) (
.cut none [2,3,4] (fun (sv5:Bool)=>[(28,(vb sv5))]) (fun _=>[]) (
.ite (a1.Q==9) (
.r (.next (a1.Q==9))) (
.ite (a1.Q==10) (
.r (.next (a1.Q==10))) (
.r (.next (a1.Q==11))))) fun sv5=>
.ite sv5 (
.a 15 2 3 (@F_q6d_ok a0 a1) fun rv6=>
.r (rv6.1,rv6.2)) (
.reg 16 [] [(0,hv (TWo.d e0_))] [.pf cz2]<|
.r (e0_,1))))
def F_q6e (a0:TWo) (a1:TSt):=(S_q6e a0 a1).den
theorem F_q6e_ok {a0:TWo} {a1:TSt}:FO (F_q6e a0 a1) 91 [(TWo.d a0),(TSt.d a1)] [] (fun x=>(AV.tup [(TWo.d x.1),(vi x.2)])) NL:=fO (s:=S_q6e a0 a1) Tryz.func91
def S_q2e (a1:TSt) (p0:TCa):SC (Int×TCa) (Int×TCa) :=
.call (@F_q6e_ok p0.w a1) fun rv1 cv1=>
.reg 1 [9,10] [(5,hc cv1 [] true),(9,{ obs:=[(2,(TWo.b (⟨(⟨0,[]⟩:TTr),[],[]⟩:TWo)))] })] [.cl 0 cv1 [] 2 true,.cl 0 cv1 [] 3 true,.pf cz1]<|
.ite (rv1.2==0) (
.r (rv1.2,(⟨rv1.1⟩:TCa))) (
.r (rv1.2,p0))
def F_q2e (a1:TSt) (p0:TCa):=(S_q2e a1 p0).den
theorem F_q2e_ok {a1:TSt} {p0:TCa}:FO (F_q2e a1 p0) 52 [(vp 0),(TSt.d a1)] [(TCa.b p0)] (fun x=>(vi x.1)) (fun x=>[(TCa.b x.2)]):=fO (s:=S_q2e a1 p0) Tryz.func52
def S_q4s (a1:TSt) (p0:TCa):SC TCa TCa :=
.call (@F_q2e_ok a1 p0) fun rv1 cv1=>
.k 1 2 cv1 [0] 2 false<|
.ite (rv1.1==0) (
.call (@F_q2e_ok (⟨9,0,(⟨0,[],0,0,0,0,0,0,0,0⟩:TOp),[],0,0,(i64.wrap ((rv1.2.w.V.length:Int)-1))⟩:TSt) rv1.2) fun rv2 cv2=>
.k 2 9 cv2 [0] 2 false<|
.r rv2.2) (
.r rv1.2)
def F_q4s (a1:TSt) (p0:TCa):=(S_q4s a1 p0).den
theorem F_q4s_ok {a1:TSt} {p0:TCa}:FO (F_q4s a1 p0) 92 [(vp 0),(TSt.d a1)] [(TCa.b p0)] (fun _=>(AV.tup [])) (fun x=>[(TCa.b x)]):=fO (s:=S_q4s a1 p0) Tryz.func92
def S_q3i (a0:TRi) (a1:Int):SC Int Int :=
.call (@F_q27_ok a0) fun rv1 cv1=>
.calld [(!rv1)=false] dF (@F_qb_ok a1 0 (i64.wrap (a0.A-a0.M))) fun rv2 cv2 =>
.reg 1 [] [(1,hc cv1 [] true),(10,hc cv2 [] true)] [.cl 2 cv1 [] 1 true,.clg 0 [(!rv1)=false] cv2 [] 1 true]<|
.ite (cO (!rv1) (!rv2)) (
.r 0) (
 let e1_:=(i64.wrap (a0.A-a1))
 let e0_:=(i64.wrap ((if e1_<a0.K then e1_ else a0.K)-a0.M))
.r (if 0>e0_ then 0 else e0_))
def F_q3i (a0:TRi) (a1:Int):=(S_q3i a0 a1).den
theorem F_q3i_ok {a0:TRi} {a1:Int}:FO (F_q3i a0 a1) 146 [(TRi.d a0),(vi a1)] [] vi NL:=fO (s:=S_q3i a0 a1) Tryz.func146
def S_q6f (a0:TOf) (a1:Y8) (a2:Int):SC (TOp×Bool) (TOp×Bool) :=
.a 1 1 2 (@F_qn_ok a0) fun rv1=>
 let e0_:=(⟨0,[],0,0,0,0,0,0,0,0⟩:TOp)
.ite (!rv1) (
.r (e0_,false)) (
.call (@F_q1m_ok a0 a1 a2) fun rv2 cv2=>
.call (@F_q15_ok a0.Ae a1 a2) fun rv3 cv3=>
.call (@F_q3i_ok rv2 rv3) fun rv4 cv4=>
.reg 3 [] [(3,hc cv2 [] true),(8,hc cv3 [] true),(9,hc cv4 [] true)] [.cl 2 cv2 [] 2 true,.cl 1 cv3 [] 2 true,.cl 0 cv4 [] 2 true]<|
.ite (rv4==0) (
.r (e0_,false)) (
.r ((⟨7,a1,a2,0,0,rv4,0,0,0,0⟩:TOp),true)))
def F_q6f (a0:TOf) (a1:Y8) (a2:Int):=(S_q6f a0 a1 a2).den
theorem F_q6f_ok {a0:TOf} {a1:Y8} {a2:Int}:FO (F_q6f a0 a1 a2) 94 [(TOf.d a0),(AV.d (DV.str a1)),(vi a2)] [] (fun x=>(AV.tup [(TOp.d x.1),(vb x.2)])) NL:=fO (s:=S_q6f a0 a1 a2) Tryz.func94
def S_qh_b1 (a1:Int) (p0:TCa) (iv1:Nat) (sv2:TCa):SC TCa (Step (TCa) TCa) :=
.reg 2 [] [(2,{ obs:=[(1,(TPo.b (⟨[],0,0,[],[],[],[]⟩:TPo)))] })] [.w iv1,.ev 0,.pf cz4]<|
 let e0_:=(p0.w.F.B.getD iv1 dF)
.call (@F_q4s_ok (⟨4,a1,(⟨0,[],0,0,0,0,0,0,0,0⟩:TOp),e0_.D,e0_.E,0,0⟩:TSt) sv2) fun rv3 cv3=>
.k 3 7 cv3 [0] 2 false<|
 let e1_:=(i64.wrap (a1-1))
.call (@F_q3d_ok (rv3.w.H.getD ((e1_).toNat) dF)) fun rv4 cv4=>
.guard [(0:Int)<=e1_,(e1_).toNat<rv3.w.H.length]<|
.reg 4 [] [(9,hc cv4 [] true),(13,{ obs:=[(2,(TOf.b (⟨0,[],(⟨[],[],[],[]⟩:TBo)⟩:TOf)))] })] [.ev 0,.ev 1,.cl 2 cv4 [] 2 true,.pf cz5]<|
.a 5 5 3 (@F_q6f_ok rv4.1 (e0_.D) (e0_.E)) fun rv5=>
.ite rv5.2 (
.call (@F_q2e_ok (⟨5,a1,rv5.1,[],0,0,0⟩:TSt) rv3) fun rv6 cv6=>
.k 7 4 cv6 [0] 4 false<|
.c rv6.2) (
.c rv3)
def S_qh_b2 (a1:Int) (rv7:(Int×TCa)) (iv8:Nat) (sv9:TCa):SC TCa (Step (TCa) TCa) :=
.reg 12 [] [(2,{ obs:=[(1,(TPo.b (⟨[],0,0,[],[],[],[]⟩:TPo)))] })] [.w iv8,.ev 0,.pf cz4]<|
 let e0_:=(rv7.2.w.F.B.getD iv8 dF)
.call (@F_q4s_ok (⟨8,a1,(⟨0,[],0,0,0,0,0,0,0,0⟩:TOp),e0_.D,e0_.E,0,0⟩:TSt) sv9) fun rv10 cv10=>
.k 13 7 cv10 [0] 2 false<|
.c rv10
def S_qh (a1:Int) (p0:TCa):SC TCa TCa :=
.range (p0.w.F.B.length:Int) p0.w.F.B.length rfl (.slot 17) 19 [0,1,17,18] (fun (_:TCa)=>[]) (fun sv2=>[(0,(TCa.b sv2))]) p0 (S_qh_b1 a1 p0) (fun sv2 => 
.call (@F_q2e_ok (⟨6,a1,(⟨0,[],0,0,0,0,0,0,0,0⟩:TOp),[],0,0,0⟩:TSt) sv2) fun rv7 cv7=>
.k 9 3 cv7 [0] 1 false<|
.range (rv7.2.w.F.B.length:Int) rv7.2.w.F.B.length rfl (.slot 69) 71 [0,1,69,70] (fun (_:TCa)=>[]) (fun sv9=>[(0,(TCa.b sv9))]) rv7.2 (S_qh_b2 a1 rv7) (fun sv9 => 
.r sv9) id) id
def F_qh (a1:Int) (p0:TCa):=(S_qh a1 p0).den
theorem F_qh_ok {a1:Int} {p0:TCa}:FO (F_qh a1 p0) 53 [(vp 0),(vi a1)] [(TCa.b p0)] (fun _=>(AV.tup [])) (fun x=>[(TCa.b x)]):=fO (s:=S_qh a1 p0) Tryz.func53
theorem zv0:∀ k,k<0->(DV.b false).wd=8:=fun _ h=>absurd h (y2i _)
def S_q6g (a0:(List TMe)):SC (List TMe) (List TMe) :=
.reg 0 [] [] []<|
 let e0_:=(AV.d (eL TMe.e a0))
.nils 0 (
.guard [(0+a0.length) * (2 * 72)<=2 ^ 48]<|
.reg 1 [] [] []<|
.lev 0 e0_ (.pf (lvQ true a0.length fun j=>(TMe.e (a0.getD j dF))))<|
.br true (.pf (p:=true=true) rfl)<|
.reg 2 [] [] []<|
.lev 2 e0_ (.der (fun (h:a0.length=0)=>lvZ TMe.e a0 h) 1)<|
.r a0) (
.reg 1 [] [] []<|
.lev 0 e0_ (.pf (lvQ false a0.length fun j=>(TMe.e (a0.getD j dF))))<|
.br false (.pf (p:=false=false) rfl)<|
.guard [(0+a0.length) * (2 * 72)<=2 ^ 48]<|
.reg 3 [] [(2,hv e0_)] [.pf (p:=∀ k,k<a0.length->AV.d (TMe.e (a0.getD k dF))=AV.d (TMe.e (a0.getD k dF))/\(TMe.e (a0.getD k dF)).wd=8) (fun _ _=>⟨rfl,rfl⟩),.pf zv0,.ev 0,.pf (z3q (e:=TMe.e) (x:=a0))]<|
.r a0)
def F_q6g (a0:(List TMe)):=(S_q6g a0).den
theorem F_q6g_ok {a0:(List TMe)}:FO (F_q6g a0) 97 [(AV.d (eL TMe.e a0))] [] (fun x=>(AV.d (eL TMe.e x))) NL:=fO (s:=S_q6g a0) Tryz.func97
def S_qq_b1 (a0:TWo) (iv1:Nat) (sv2:Int×(List TJo)×(List TMe)×(List TPo)):SC TWo (Step (Int×(List TJo)×(List TMe)×(List TPo)) TWo) :=
.reg 5 [] [(2,{ obs:=[(3,(TPo.b (⟨[],0,0,[],[],[],[]⟩:TPo)))] })] [.w iv1,.ev 0,.pf cz4]<|
 let e1_:=(a0.F.B.getD iv1 dF)
.call (@F_q1u_ok (e1_.A)) fun rv3 cv3=>
.call (@F_q1u_ok (e1_.L)) fun rv4 cv4=>
.call (@F_q1u_ok (e1_.K)) fun rv5 cv5=>
.call (@F_q1u_ok (e1_.P)) fun rv6 cv6=>
.reg 6 [13,15,17,19] [(2,hc cv3 [] true),(5,hc cv4 [] true),(8,hc cv5 [] true),(11,hc cv6 [] true)] [.cl 3 cv3 [] 4 true,.cl 2 cv4 [] 4 true,.cl 1 cv5 [] 4 true,.cl 0 cv6 [] 4 true]<|
.guard [(sv2.2.2.2.length+1) * (2 * 128)<=2 ^ 48]<|
 let e0_:=([(⟨e1_.D,e1_.E,e1_.W,rv3,rv4,rv5,rv6⟩:TPo)]:List TPo)
 let e2_:=(sv2.2.2.2++e0_)
.reg 7 [] [(4,hv (AV.d (eL TPo.e e0_))),(5,{ cast:=some (AV.ref 2 (e2_.length) 0 (e2_.length)),obs:=[(2,(eS 7 TPo.e e2_))] })] [.pf (ze TPo.e e0_),.e sv2.2.2.2.length,.e sv2.2.2.2.length,.pf (p:=∀ k,k<1->(TPo.d (e0_.getD k dF)).wd=7) (fun _ _=>rfl),.ev 0,.pf (z11 (o:=2) (l:=sv2.2.2.2) (x:=e0_)),.pf (z13 (sz:=7) (e:=TPo.e) (l:=sv2.2.2.2) (x:=e0_))]<|
.c (sv2.1,sv2.2.1,sv2.2.2.1,e2_)
def S_qq_b2 (sv2:Int×(List TJo)×(List TMe)×(List TPo)) (iv7:Nat) (sv8:Int×(List TMe)×(List TJo)):SC TWo (Step (Int×(List TMe)×(List TJo)) TWo) :=
.reg 13 [] [(2,{ obs:=[(4,(TJo.b (⟨0,[],0⟩:TJo)))] })] [.w iv7,.ev 0,.pf z3m]<|
 let e1_:=(sv2.2.1.getD iv7 dF)
.a 14 2 5 (@F_q4q_ok (e1_.Ab)) fun rv9=>
.guard [(sv8.2.2.length+1) * (2 * 40)<=2 ^ 48]<|
 let e0_:=([(⟨e1_.Y,rv9,e1_.Ag⟩:TJo)]:List TJo)
 let e2_:=(sv8.2.2++e0_)
.reg 15 [] [(3,hv (AV.d (eL TJo.e e0_))),(4,{ cast:=some (AV.ref 3 (e2_.length) 0 (e2_.length)),obs:=[(3,(eS 3 TJo.e e2_))] })] [.pf (ze TJo.e e0_),.e sv8.2.2.length,.e sv8.2.2.length,.pf (p:=∀ k,k<1->(TJo.d (e0_.getD k dF)).wd=3) (fun _ _=>rfl),.ev 0,.pf (z11 (o:=3) (l:=sv8.2.2) (x:=e0_)),.pf (z13 (sz:=3) (e:=TJo.e) (l:=sv8.2.2) (x:=e0_))]<|
.c (sv8.1,sv8.2.1,e2_)
def S_qq (a0:TWo):SC TWo TWo :=
 let e0_:=(TWo.b (⟨(⟨0,[]⟩:TTr),[],[]⟩:TWo))
.reg 0 [] [(1,{ obs:=[(1,e0_)] })] [.pf cz1]<|
.reg 2 [] [] []<|
 let e3_:=[(1,(vp 0)),(2,(vp 1)),(3,(AV.d (eL TPo.e a0.F.B)))]
 let e4_:=(AV.full 0 fun _=>DV.b false)
.sh (A:=True) (.pf trivial) e3_ e3_ [(Ob.box (AV.agg [(AV.agg [(vi a0.F.N),e4_]),(AV.d (eL TJo.e a0.H)),(AV.d (eL TMe.e a0.V))])),e0_] [(Ob.box (AV.agg [(AV.agg [(vi a0.F.N),(AV.ref 2 0 0 0)]),(AV.d (eL TJo.e a0.H)),(AV.d (eL TMe.e a0.V))])),e0_,(eS 7 TPo.e ([]:List TPo))] (fun _=>(z2f (sz:=7) (f:=fun j=>AV.d (TPo.e (([]:List TPo).getD j dF))) (.box _ _ _ _ _ (y16 rfl) (TrV.agg (TrL.cons (TrV.agg (TrL.cons (TrV.keep _) (TrL.cons TrV.born TrL.nil))) (TrL.cons (TrV.keep _) (TrL.cons (TrV.keep _) TrL.nil)))) (.keep _ _ _ _ (y16 rfl) (.nil _))))) (z1d (k:=0) rfl (TrS.keep _) (z1d (k:=1) rfl (TrS.keep _) (z1d (k:=2) rfl (TrS.keep _) z32)))<|
.range (a0.F.B.length:Int) a0.F.B.length rfl (.slot 14) 16 [1,2,14,15] (fun (_:Int×(List TJo)×(List TMe)×(List TPo))=>[]) (fun sv2=>[(0,(Ob.box (AV.agg [(AV.agg [(vi sv2.1),(AV.ref 2 sv2.2.2.2.length 0 sv2.2.2.2.length)]),(AV.d (eL TJo.e sv2.2.1)),(AV.d (eL TMe.e sv2.2.2.1))]))),(2,(eS 7 TPo.e sv2.2.2.2))]) (a0.F.N,a0.H,a0.V,([]:List TPo)) (S_qq_b1 a0) (fun sv2 => 
.reg 10 [] [] []<|
 let e1_:=(AV.ref 2 sv2.2.2.2.length 0 sv2.2.2.2.length)
 let e2_:=[(1,(vp 0)),(2,(vp 1)),(6,(AV.d (eL TJo.e sv2.2.1)))]
 let e5_:=(AV.d (eL TMe.e sv2.2.2.1))
 let e6_:=(AV.agg [(vi sv2.1),e1_])
.sh (A:=True) (.pf trivial) e2_ e2_ [(Ob.box (AV.agg [e6_,e4_,e5_])),e0_,(eS 7 TPo.e sv2.2.2.2)] [(Ob.box (AV.agg [e6_,(AV.ref 3 0 0 0),e5_])),e0_,(eS 7 TPo.e sv2.2.2.2),(eS 3 TJo.e ([]:List TJo))] (fun _=>(z2f (sz:=3) (f:=fun j=>AV.d (TJo.e (([]:List TJo).getD j dF))) (.box _ _ _ _ _ (y16 rfl) (TrV.agg (TrL.cons (TrV.keep _) (TrL.cons TrV.born (TrL.cons (TrV.keep _) TrL.nil)))) (.keep _ _ _ _ (y16 rfl) (.keep _ _ _ _ (y16 rfl) (.nil _)))))) (z1d (k:=0) rfl (TrS.keep _) (z1d (k:=1) rfl (TrS.keep _) (z1d (k:=2) rfl (TrS.keep _) z32)))<|
.range (sv2.2.1.length:Int) sv2.2.1.length rfl (.slot 48) 50 [1,2,48,49] (fun (_:Int×(List TMe)×(List TJo))=>[]) (fun sv8=>[(0,(Ob.box (AV.agg [(AV.agg [(vi sv8.1),e1_]),(AV.ref 3 sv8.2.2.length 0 sv8.2.2.length),(AV.d (eL TMe.e sv8.2.1))]))),(3,(eS 3 TJo.e sv8.2.2))]) (sv2.1,sv2.2.2.1,([]:List TJo)) (S_qq_b2 sv2) (fun sv8 => 
.a 17 2 4 (@F_q6g_ok sv8.2.1) fun rv10=>
.guard [sv2.2.2.2.length<2 ^ 63]<|
.reg 18 [] [] []<|
.frz 2 (.ev 0) none [] [0,1]<|
.guard [sv8.2.2.length<2 ^ 63]<|
.frz 3 (.ev 0) none [] [0,1]<|
.r (⟨(⟨sv8.1,sv2.2.2.2⟩:TTr),sv8.2.2,rv10⟩:TWo)) id) id
def F_qq (a0:TWo):=(S_qq a0).den
theorem F_qq_ok {a0:TWo}:FO (F_qq a0) 54 [(TWo.d a0)] [] (fun x=>(TWo.d x)) NL:=fO (s:=S_qq a0) Tryz.func54
abbrev R_qc:=TWo×Int
def S_qc_b1 (sv1:TCa):SC R_qc (Step (TCa) R_qc) :=
.ite (decide ((sv1.w.V.length:Int)>0)) (
 let e0_:=(⟨0,[],0,0,0,0,0,0,0,0⟩:TOp)
.call (@F_q2e_ok (⟨9,0,e0_,[],0,0,0⟩:TSt) sv1) fun rv2 cv2=>
.k 5 2 cv2 [2] 3 false<|
.ite (rv2.1 != 0) (
.call (@F_q2e_ok (⟨10,0,e0_,[],0,0,0⟩:TSt) rv2.2) fun rv3 cv3=>
.k 6 2 cv3 [2] 3 false<|
.c rv3.2) (
.c rv2.2)) (
.r (.brk sv1))
def S_qc_b2 (iv4:Nat) (sv5:TCa):SC R_qc (Step (TCa) R_qc) :=
.call (@F_qh_ok (i64.wrap ((iv4:Int)+1)) sv5) fun rv6 cv6=>
.k 10 3 cv6 [2] 3 false<|
.c rv6
def S_qc (a0:TWo):SC R_qc R_qc :=
 let e0_:=(⟨(⟨0,[]⟩:TTr),[],[]⟩:TWo)
.reg 0 [] [(1,{ obs:=[(1,(TWo.b e0_))] })] [.pf cz1]<|
.a 1 1 2 (@F_q18_ok a0) fun rv7=>
.ite (!rv7) (
.reg 2 [] [(0,hv (TWo.d e0_))] [.pf cz2]<|
.r (e0_,1)) (
.iter [1,2,4] (fun (_:TCa)=>[]) (fun sv1=>[(2,(TCa.b sv1))]) (⟨a0⟩:TCa) S_qc_b1 (fun sv1 =>
.guard [a0.H.length<2 ^ 63]<|
.range (a0.H.length:Int) a0.H.length rfl (.why (.ev 0)) 30 [2,4,29] (fun (_:TCa)=>[]) (fun sv5=>[(2,(TCa.b sv5))]) sv1 S_qc_b2 (fun sv5 => 
.a 12 4 3 (@F_qq_ok sv5.w) fun rv8=>
.r (rv8,0)) id) id)
def F_qc (a0:TWo):=(S_qc a0).den
theorem F_qc_ok {a0:TWo}:FO (F_qc a0) 23 [(TWo.d a0)] [] (fun x=>(AV.tup [(TWo.d x.1),(vi x.2)])) NL:=fO (s:=S_qc a0) Tryz.func23
def S_q6h (a0:Int):SC Bool Bool :=
.r (cO (decide (a0<0)) (decide (a0>1000000000000000)))
def F_q6h (a0:Int):=(S_q6h a0).den
theorem F_q6h_ok {a0:Int}:FO (F_q6h a0) 156 [(vi a0)] [] vb NL:=fO (s:=S_q6h a0) Tryz.func156
def S_q2p_b1 (a0:(List Int)) (iv1:Nat) (_:Unit):SC Int (Step (Unit) Int) :=
.call (@F_q6h_ok (a0.getD iv1 dF)) fun rv2 cv2=>
.reg 4 [] [(5,hc cv2 [] true)] [.w iv1,.ev 1,.cl 0 cv2 [] 0 true]<|
.ite rv2 (
.r (.ret (iv1:Int))) (
.r (.cont ()))
def S_q2p (a0:(List Int)):SC Int Int :=
.range (a0.length:Int) a0.length rfl (.slot 0) 8 [0,1,7] (fun (_:Unit)=>[]) (fun _=>[]) () (S_q2p_b1 a0) (fun _ => 
.r (-1)) id
def F_q2p (a0:(List Int)):=(S_q2p a0).den
theorem F_q2p_ok {a0:(List Int)}:FO (F_q2p a0) 196 [(vl a0),(AV.fn 156 [])] [] vi NL:=fO (s:=S_q2p a0) Tryz.func196
def S_q6i (a0:(List Int)):SC Bool Bool :=
.a 1 2 0 (@F_q2p_ok a0) fun rv1=>
.r (decide (rv1>=0))
def F_q6i (a0:(List Int)):=(S_q6i a0).den
theorem F_q6i_ok {a0:(List Int)}:FO (F_q6i a0) 157 [(vl a0),(AV.fn 156 [])] [] vb NL:=fO (s:=S_q6i a0) Tryz.func157
def S_q2f_b1 (a0:TPo) (iv1:Nat) (_:Unit):SC Bool (Step (Unit) Bool) :=
.reg 4 [] [] [.w iv1,.ev 0]<|
 let e1_:=(([a0.A,a0.L,a0.K,a0.P]:List (List Int)).getD iv1 dF)
 let e0_:=((e1_.length:Int) != (a0.A.length:Int))
.calld [e0_=false] dF (@F_q6i_ok e1_) fun rv2 cv2 =>
.reg 5 [] [(9,hc cv2 [] true)] [.clg 0 [e0_=false] cv2 [] 1 true]<|
.ite (cO e0_ rv2) (
.r (.ret false)) (
.r (.cont ()))
def S_q2f (a0:TPo):SC Bool Bool :=
 let e0_:=([a0.A,a0.L,a0.K,a0.P]:List (List Int))
.reg 2 [] [(8,hv (AV.d (eL (eL (DV.i .i64)) e0_)))] [.pf (ze (eL (DV.i .i64)) e0_)]<|
.range 4 4 rfl (.why (.pf (p:=4<2 ^ 63) dk)) 16 [1,3,14,15] (fun (_:Unit)=>[]) (fun _=>[]) () (S_q2f_b1 a0) (fun _ => 
.r (bif (decide (a0.W>=(-1000000000000000))) then (decide (a0.W<=1000000000000000)) else false)) id
def F_q2f (a0:TPo):=(S_q2f a0).den
theorem F_q2f_ok {a0:TPo}:FO (F_q2f a0) 105 [(TPo.d a0)] [] vb NL:=fO (s:=S_q2f a0) Tryz.func105
def S_q2w (a0:TPo):SC Int Int :=
.a 1 1 1 (@F_q2v_ok a0) fun rv1=>
 let e0_:=(i64.wrap (rv1-a0.W))
.r (if 0>e0_ then 0 else e0_)
def F_q2w (a0:TPo):=(S_q2w a0).den
theorem F_q2w_ok {a0:TPo}:FO (F_q2w a0) 31 [(TPo.d a0)] [] vi NL:=fO (s:=S_q2w a0) Tryz.func31
def S_q6j (a0:TPo) (a1:Int):SC (Int×Int) (Int×Int) :=
.guard [(0:Int)<=a1,(a1).toNat<a0.A.length,(a1).toNat<a0.L.length,(a1).toNat<a0.P.length]<|
.reg 1 [] [] [.ev 0,.ev 1,.ev 0,.ev 2,.ev 0,.ev 3]<|
.guard [(a1).toNat<a0.K.length]<|
.reg 2 [] [] [.ev 1,.ev 0,.ev 1,.ev 3]<|
 let e4_:=(a0.L.getD ((a1).toNat) dF)
 let e2_:=(i64.wrap ((i64.wrap ((a0.A.getD ((a1).toNat) dF)-e4_))-(a0.P.getD ((a1).toNat) dF)))
 let e0_:=(if 0>e2_ then 0 else e2_)
 let e3_:=(i64.wrap ((a0.K.getD ((a1).toNat) dF)-e4_))
 let e1_:=(if e3_<e0_ then e3_ else e0_)
 let e5_:=(if 0>e1_ then 0 else e1_)
.r (e5_,(i64.wrap (e0_-e5_)))
def F_q6j (a0:TPo) (a1:Int):=(S_q6j a0 a1).den
theorem F_q6j_ok {a0:TPo} {a1:Int}:FO (F_q6j a0 a1) 106 [(TPo.d a0),(vi a1)] [] (fun x=>(AV.tup [(vi x.1),(vi x.2)])) NL:=fO (s:=S_q6j a0 a1) Tryz.func106
def S_q2g_b1 (p0:(List Int)) (sv1:Int×Int):SC Int (Step (Int×Int) Int) :=
.ite (decide (sv1.2<(p0.length:Int))) (
.guard [(0:Int)<=sv1.2,(sv1.2).toNat<p0.length,(0+(sv1.2).toNat)<p0.length]<|
.reg 7 [] [] [.e p0.length,.ev 0,.ev 1,.e p0.length,.ev 2]<|
 let e0_:=(p0.getD (0+(sv1.2).toNat) dF)
.r (.cont ((if e0_>sv1.1 then e0_ else sv1.1),(i64.wrap (sv1.2+1))))) (
.r (.brk (sv1.1,sv1.2)))
def S_q2g (p0:(List Int)):SC Int Int :=
.guard [(decide ((p0.length:Int)<1))=false]<|
.br false (.ev 0)<|
.guard [0<p0.length,(0+0)<p0.length]<|
.reg 3 [] [] [.e p0.length,.pf (p:=(0:Int)<=0) dk,.ev 0,.e p0.length,.ev 1]<|
.iter [0] (fun (sv1:Int×Int)=>[(3,(vi sv1.1)),(4,(vi sv1.2))]) (fun _=>[]) ((p0.getD (0+0) dF),1) (S_q2g_b1 p0) (fun sv1 =>
.r sv1.1) id
def F_q2g (p0:(List Int)):=(S_q2g p0).den
theorem F_q2g_ok {p0:(List Int)}:FO (F_q2g p0) 107 [(AV.ref 0 p0.length 0 p0.length)] [(eS 1 (DV.i .i64) p0)] vi (fun _=>[(eS 1 (DV.i .i64) p0)]):=fO (s:=S_q2g p0) Tryz.func107
def S_q2q_b1 (a1:Int) (p0:(List Int)) (iv1:Nat) (_:Unit):SC Int (Step (Unit) Int) :=
.guard [(0+iv1)<p0.length]<|
.reg 4 [] [] [.e p0.length,.w iv1,.ev 1,.e p0.length,.ev 0]<|
.ite (a1==(p0.getD (0+iv1) dF)) (
.r (.ret (iv1:Int))) (
.r (.cont ()))
def S_q2q (a1:Int) (p0:(List Int)):SC Int Int :=
.guard [p0.length<2 ^ 63]<|
.range (p0.length:Int) p0.length rfl (.why (.ev 0)) 8 [0,1,7] (fun (_:Unit)=>[]) (fun _=>[]) () (S_q2q_b1 a1 p0) (fun _ => 
.r (-1)) id
def F_q2q (a1:Int) (p0:(List Int)):=(S_q2q a1 p0).den
theorem F_q2q_ok {a1:Int} {p0:(List Int)}:FO (F_q2q a1 p0) 108 [(AV.ref 0 p0.length 0 p0.length),(vi a1)] [(eS 1 (DV.i .i64) p0)] vi (fun _=>[(eS 1 (DV.i .i64) p0)]):=fO (s:=S_q2q a1 p0) Tryz.func108
abbrev R_qi:=(List Int)
def S_qi_b1 (a0:TPo) (iv1:Nat) (sv2:(List Int)×Int):SC R_qi (Step ((List Int)×Int) R_qi) :=
.a 8 2 2 (@F_q6j_ok a0 (iv1:Int)) fun rv3=>
.guard [(sv2.1.length+1) * (2 * 8)<=2 ^ 48]<|
 let e0_:=([rv3.2]:List Int)
.reg 9 [] [(5,hv (vl e0_)),(6,{ h:=.obj,cast:=some (AV.ref 1 ((sv2.1++e0_).length) 0 ((sv2.1++e0_).length)),obs:=[(1,(eS 1 (DV.i .i64) (sv2.1++e0_)))] })] [.pf (ze (DV.i .i64) e0_),.e sv2.1.length,.e sv2.1.length,.pf (p:=∀ k,k<1->(AV.d ((DV.i .i64) (e0_.getD k dF))).wd=1) (fun _ _=>rfl),.ev 0,.pf (z11 (o:=1) (l:=sv2.1) (x:=e0_)),.pf (z13 (sz:=1) (e:=(DV.i .i64)) (l:=sv2.1) (x:=e0_))]<|
.c ((sv2.1++e0_),(i64.wrap (sv2.2-rv3.1)))
def S_qi_b2 (a0:TPo) (sv4:(List Int)×(List Int)×Int):SC R_qi (Step ((List Int)×(List Int)×Int) R_qi) :=
 let e5_:=(sv4.1,sv4.2.1,sv4.2.2)
.ite (bif (decide (sv4.2.2>0)) then (decide ((sv4.1.length:Int)>0)) else false) (
.call (@F_q2g_ok sv4.1) fun rv5 cv5=>
.k 13 1 cv5 [1] 3 true<|
.ite (rv5==0) (
.r (.brk e5_)) (
.call (@F_q2q_ok rv5 sv4.1) fun rv6 cv6=>
.k 15 2 cv6 [1] 3 true<|
 let e1_:=(0+(rv6).toNat)
.guard [(0:Int)<=rv6,(rv6).toNat<sv4.2.1.length,e1_<sv4.2.1.length,(rv6).toNat<sv4.1.length,e1_<sv4.1.length]<|
 let e4_:=(if sv4.2.2<rv5 then sv4.2.2 else rv5)
 let e0_:=(sv4.2.1.set e1_ e4_)
 let e3_:=(sv4.1.set e1_ 0)
.reg 16 [] [(8,{ obs:=[(2,(eS 1 (DV.i .i64) e0_))] }),(10,{ obs:=[(1,(eS 1 (DV.i .i64) e3_))] })] [.e sv4.2.1.length,.ev 0,.ev 1,.e sv4.2.1.length,.ev 2,.pf (zu (sz:=1) (e:=(DV.i .i64)) (l:=sv4.2.1) (i:=e1_) (x:=e4_) (fun _=>rfl)),.e sv4.1.length,.ev 0,.ev 3,.e sv4.1.length,.ev 4,.pf (zu (sz:=1) (e:=(DV.i .i64)) (l:=sv4.1) (i:=e1_) (x:=0) (fun _=>rfl))]<|
 let e2_:=[(TPo.b a0),(eS 1 (DV.i .i64) e3_),(eS 1 (DV.i .i64) e0_)]
.cst (A:=True) (.pf trivial) [(3,(vi sv4.2.2)),(4,(AV.ref 1 sv4.1.length 0 sv4.1.length)),(8,(AV.ref 2 sv4.2.1.length 0 sv4.2.1.length)),(10,(vi rv6))] [(3,(vi sv4.2.2)),(4,(AV.ref 1 (e3_.length) 0 (e3_.length))),(8,(AV.ref 2 (e0_.length) 0 (e0_.length))),(10,(vi rv6))] e2_ e2_ (fun _=>⟨by simp +zetaDelta only[ya],by rfl⟩)<|
.guard [(rv6).toNat<e0_.length,e1_<e0_.length]<|
.reg 17 [] [] [.e (e0_.length),.ev 2,.ev 0,.e (e0_.length),.ev 1]<|
.r (.cont (e3_,e0_,(i64.wrap (sv4.2.2-(e0_.getD e1_ dF))))))) (
.r (.brk e5_))
def S_qi (a0:TPo):SC R_qi R_qi :=
.a 1 1 1 (@F_q2f_ok a0) fun rv7=>
.ite (!rv7) (
.ret [.pf cz3] ([])) (
.a 3 1 1 (@F_q2w_ok a0) fun rv8=>
.reg 5 [] [] []<|
.bor 1 (fun j=>AV.d ((DV.i .i64) (([]:List Int).getD j dF))) [4]<|
.guard [a0.A.length<2 ^ 63]<|
.range (a0.A.length:Int) a0.A.length rfl (.why (.ev 0)) 19 [1,18] (fun (sv2:(List Int)×Int)=>[(3,(vi sv2.2)),(4,(AV.ref 1 sv2.1.length 0 sv2.1.length))]) (fun sv2=>[(1,(eS 1 (DV.i .i64) sv2.1))]) (([]:List Int),rv8) (S_qi_b1 a0) (fun sv2 => 
 let e0_:=(sv2.1.length:Int)
.guard [e0_ * 8<=2 ^ 47]<|
 let e1_:=((List.replicate (e0_.toNat) (0:Int)).length)
.reg 11 [] [(2,{ cast:=some (AV.ref 2 e1_ 0 e1_),obs:=[(2,(eS 1 (DV.i .i64) (List.replicate (e0_.toNat) (0:Int))))] })] [.pf (nn sv2.1.length),.pf (p:=e0_<=e0_) (y1d _),.ev 0,.pf (z8q (o:=2) (k:=e0_.toNat) (z:=(0:Int))),.pf (z8r (sz:=1) (k:=e0_.toNat) (e:=(DV.i .i64)) (z:=(0:Int)))]<|
.iter [] (fun (sv4:(List Int)×(List Int)×Int)=>[(3,(vi sv4.2.2)),(4,(AV.ref 1 sv4.1.length 0 sv4.1.length)),(8,(AV.ref 2 sv4.2.1.length 0 sv4.2.1.length))]) (fun sv4=>[(1,(eS 1 (DV.i .i64) sv4.1)),(2,(eS 1 (DV.i .i64) sv4.2.1))]) (sv2.1,(List.replicate (e0_.toNat) (0:Int)),sv2.2) (S_qi_b2 a0) (fun sv4 =>
.guard [sv4.2.1.length<2 ^ 63]<|
.reg 18 [] [] []<|
.frz 2 (.ev 0) none [2] []<|
.r sv4.2.1) id) id)
def F_qi (a0:TPo):=(S_qi a0).den
theorem F_qi_ok {a0:TPo}:FO (F_qi a0) 56 [(TPo.d a0)] [] vl NL:=fO (s:=S_qi a0) Tryz.func56
end
end Go.Proofs.YtlhikmklpelceaaGreatDoor
/- What the functions compute,and that their calls return it. No condition. -/
namespace Go.Proofs.YtlhikmklpelceaaGreatDoor
open Go Go.TA
open Go.IntKind (i64)
noncomputable section
set_option maxRecDepth 100000
abbrev R_qd:=TTr×(List TMe)×Int
def S_qd_b1 (a1:Y8) (a2:Int) (rv1:(TPo×Bool)) (rv2:R_qi) (iv3:Nat) (sv4:TTr×(List TMe)):SC R_qd (Step (TTr×(List TMe)) R_qd) :=
.reg 8 [] [] [.w iv3,.ev 0]<|
.ite ((rv2.getD iv3 dF)==0) (
.r (.cont (sv4.1,sv4.2))) (
 let e1_:=(i64.wrap ((rv1.1.L.getD iv3 dF)-(rv1.1.K.getD iv3 dF)))
 let e2_:=(i64.wrap ((iv3:Int)+1))
.call (@F_q4n_ok sv4.1 e2_ a1 a2 (i64.wrap ((rv2.getD iv3 dF)+(if 0>e1_ then 0 else e1_)))) fun rv5 cv5=>
.guard [iv3<rv1.1.L.length,iv3<rv1.1.K.length]<|
.reg 10 [23] [(19,hc cv5 [] true)] [.w iv3,.ev 0,.w iv3,.ev 1,.cl 2 cv5 [] 4 true]<|
.a 11 5 4 (@F_q4o_ok rv5.1 e2_ a1 a2) fun rv6=>
.guard [(sv4.2.length+1) * (2 * 72)<=2 ^ 48]<|
 let e0_:=([rv6.1]:List TMe)
.reg 12 [] [(2,hv (AV.d (eL TMe.e e0_))),(3,{ h:=.obj,cast:=some (AV.ref 3 ((sv4.2++e0_).length) 0 ((sv4.2++e0_).length)),obs:=[(3,(eS 8 TMe.e (sv4.2++e0_)))] })] [.pf (ze TMe.e e0_),.e sv4.2.length,.e sv4.2.length,.pf (p:=∀ k,k<1->(TMe.d (e0_.getD k dF)).wd=8) (fun _ _=>rfl),.ev 0,.pf (z11 (o:=3) (l:=sv4.2) (x:=e0_)),.pf (z13 (sz:=8) (e:=TMe.e) (l:=sv4.2) (x:=e0_))]<|
.r (.cont (rv5.1,(sv4.2++e0_))))
def S_qd (a0:TTr) (a1:Y8) (a2:Int) (a3:Int):SC R_qd R_qd :=
.reg 0 [] [(1,{ obs:=[(1,(TTr.b (⟨0,[]⟩:TTr)))] })] [.pf z2b]<|
.a 1 4 2 (@F_q4k_ok a0 a1 a2 a3) fun rv7=>
.ite (rv7.2 != 0) (
 let e0_:=(TTr.d (⟨0,[]⟩:TTr))
.reg 3 [] [(0,hv e0_)] [.pf z1j]<|
.ret [.pf (p:=LeV (AV.tup [e0_,(AV.full 0 fun _=>DV.b false),(vi rv7.2)]) (AV.tup [e0_,(AV.d (eL TMe.e ([]))),(vi rv7.2)])) (LeV.tup (LeVs.cons (LeV.refl _) (LeVs.cons (lvN TMe.e) (LeVs.cons (LeV.refl _) LeVs.nil))))] ((⟨0,[]⟩:TTr),[],rv7.2)) (
.call (@F_q2b_ok rv7.1 a1 a2) fun rv1 cv1=>
.reg 4 [] [(3,hc cv1 [] true),(7,{ obs:=[(2,(TPo.b (⟨[],0,0,[],[],[],[]⟩:TPo)))] })] [.cl 0 cv1 [] 2 true,.pf cz4]<|
.a 6 1 3 (@F_qi_ok rv1.1) fun rv2=>
.bor 8 (fun j=>AV.d (TMe.e (([]:List TMe).getD j dF))) [14]<|
.range (rv2.length:Int) rv2.length rfl (.slot 39) 41 [1,2,4,8,12,39,40] (fun (sv4:TTr×(List TMe))=>[(14,(AV.ref 3 sv4.2.length 0 sv4.2.length))]) (fun sv4=>[(0,(TTr.b sv4.1)),(3,(eS 8 TMe.e sv4.2))]) (rv7.1,([]:List TMe)) (S_qd_b1 a1 a2 rv1 rv2) (fun sv4 => 
.guard [sv4.2.length<2 ^ 63]<|
.reg 14 [] [] []<|
.frz 3 (.ev 0) none [9] []<|
.r (sv4.1,sv4.2,0)) id)
def F_qd (a0:TTr) (a1:Y8) (a2:Int) (a3:Int):=(S_qd a0 a1 a2 a3).den
theorem F_qd_ok {a0:TTr} {a1:Y8} {a2:Int} {a3:Int}:FO (F_qd a0 a1 a2 a3) 24 [(TTr.d a0),(AV.d (DV.str a1)),(vi a2),(vi a3)] [] (fun x=>(AV.tup [(TTr.d x.1),(AV.d (eL TMe.e x.2.1)),(vi x.2.2)])) NL:=fO (s:=S_qd a0 a1 a2 a3) Tryz.func24
def S_q42 (a0:TWo) (a1:Y8) (a2:Int) (a3:Int):SC (TWo×Int) (TWo×Int) :=
 let e0_:=(⟨(⟨0,[]⟩:TTr),[],[]⟩:TWo)
.reg 0 [] [(1,{ obs:=[(1,(TWo.b e0_))] })] [.pf cz1]<|
.a 1 1 2 (@F_qc_ok a0) fun rv1=>
 let e1_:=(0,hv (TWo.d e0_))
.ite (rv1.2 != 0) (
.reg 3 [] [e1_] [.pf cz2]<|
.r (e0_,rv1.2)) (
.a 4 5 2 (@F_qd_ok rv1.1.F a1 a2 a3) fun rv2=>
.ite (rv2.2.2 != 0) (
.reg 6 [] [e1_] [.pf cz2]<|
.r (e0_,rv2.2.2)) (
.a 7 1 2 (@F_qc_ok (⟨rv2.1,rv1.1.H,rv1.1.V⟩:TWo)) fun rv3=>
.r (rv3.1,rv3.2)))
def F_q42 (a0:TWo) (a1:Y8) (a2:Int) (a3:Int):=(S_q42 a0 a1 a2 a3).den
theorem F_q42_ok {a0:TWo} {a1:Y8} {a2:Int} {a3:Int}:FO (F_q42 a0 a1 a2 a3) 9 [(TWo.d a0),(AV.d (DV.str a1)),(vi a2),(vi a3)] [] (fun x=>(AV.tup [(TWo.d x.1),(vi x.2)])) NL:=fO (s:=S_q42 a0 a1 a2 a3) Tryz.func9
abbrev R_q1x:=Int×Int×Int×Int
def S_q1x_b1 (a0:TWo) (a1:TPo) (iv1:Nat) (sv2:Int×Int):SC R_q1x (Step (Int×Int) R_q1x) :=
.reg 4 [] [(2,{ obs:=[(2,(TJo.b (⟨0,[],0⟩:TJo)))] })] [.w iv1,.ev 0,.pf z3m]<|
.call (@F_q3o_ok (a0.H.getD iv1 dF)) fun rv3 cv3=>
.reg 5 [] [(1,hc cv3 [] true),(5,{ obs:=[(3,(TOf.b (⟨0,[],(⟨[],[],[],[]⟩:TBo)⟩:TOf)))] })] [.cl 0 cv3 [] 3 true,.pf cz5]<|
.a 6 5 4 (@F_q1z_ok rv3.1 a1.D a1.E) fun rv4=>
.a 8 7 5 (@F_qf_ok rv3.1.Ae a1.D a1.E) fun rv5=>
.c ((i64.wrap (sv2.1+(i64.wrap (rv4.A-rv4.M)))),(i64.wrap (sv2.2+rv5)))
def S_q1x (a0:TWo) (a1:TPo):SC R_q1x R_q1x :=
.range (a0.H.length:Int) a0.H.length rfl (.slot 16) 18 [3,16,17] (fun (sv2:Int×Int)=>[(8,(vi sv2.1)),(9,(vi sv2.2))]) (fun _=>[]) (0,0) (S_q1x_b1 a0 a1) (fun sv2 => 
.a 10 3 2 (@F_ql_ok a1) fun rv6=>
.r (a1.W,rv6,sv2.1,sv2.2)) id
def F_q1x (a0:TWo) (a1:TPo):=(S_q1x a0 a1).den
theorem F_q1x_ok {a0:TWo} {a1:TPo}:FO (F_q1x a0 a1) 25 [(TWo.d a0),(TPo.d a1)] [] (fun x=>(AV.tup [(vi x.1),(vi x.2.1),(vi x.2.2.1),(vi x.2.2.2)])) NL:=fO (s:=S_q1x a0 a1) Tryz.func25
def S_q4t (a0:TPo):SC Int Int :=
.a 1 1 1 (@F_ql_ok a0) fun rv1=>
 let e0_:=(i64.wrap (rv1-a0.W))
.r (if e0_>0 then e0_ else 0)
def F_q4t (a0:TPo):=(S_q4t a0).den
theorem F_q4t_ok {a0:TPo}:FO (F_q4t a0) 26 [(TPo.d a0)] [] vi NL:=fO (s:=S_q4t a0) Tryz.func26
def S_q2h_b1 (a0:TWo) (iv1:Nat) (_:Unit):SC Bool (Step (Unit) Bool) :=
.reg 5 [] [(2,{ obs:=[(1,(TPo.b (⟨[],0,0,[],[],[],[]⟩:TPo)))] })] [.w iv1,.ev 0,.pf cz4]<|
 let e1_:=(a0.F.B.getD iv1 dF)
.a 6 2 2 (@F_q1x_ok a0 e1_) fun rv2=>
 let e0_:=(cO (decide (rv2.2.2.2>rv2.2.2.1)) (decide (rv2.2.2.1>rv2.2.1)))
.calld [e0_=false] dF (@F_q4t_ok e1_) fun rv3 cv3 =>
.reg 7 [] [(12,hc cv3 [] true)] [.clg 0 [e0_=false] cv3 [] 2 true]<|
.ite (cO e0_ (decide (rv2.2.1>(i64.wrap (rv2.1+rv3))))) (
.r (.ret false)) (
.r (.cont ()))
def S_q2h (a0:TWo):SC Bool Bool :=
.a 1 1 1 (@F_q1_ok a0) fun rv4=>
.ite (!rv4) (
.r false) (
.range (a0.F.B.length:Int) a0.F.B.length rfl (.slot 14) 16 [1,14,15] (fun (_:Unit)=>[]) (fun _=>[]) () (S_q2h_b1 a0) (fun _ => 
.r true) id)
def F_q2h (a0:TWo):=(S_q2h a0).den
theorem F_q2h_ok {a0:TWo}:FO (F_q2h a0) 10 [(TWo.d a0)] [] vb NL:=fO (s:=S_q2h a0) Tryz.func10
abbrev R_q2x:=Int×Int×Int×Int
def S_q2x (a0:TWo) (a1:Y8) (a2:Int):SC R_q2x R_q2x :=
.call (@F_q3m_ok a0.F a1 a2) fun rv1 cv1=>
.reg 1 [] [(4,hc cv1 [] true),(8,{ obs:=[(1,(TPo.b (⟨[],0,0,[],[],[],[]⟩:TPo)))] })] [.cl 0 cv1 [] 1 true,.pf cz4]<|
.calld [(!rv1.2)=false] dF (@F_q1_ok a0) fun rv2 cv2 =>
.reg 2 [] [(4,hc cv2 [] true)] [.clg 0 [(!rv1.2)=false] cv2 [] 2 true]<|
.ite (cO (!rv1.2) (!rv2)) (
.r (0,0,0,0)) (
.a 4 2 2 (@F_q1x_ok a0 rv1.1) fun rv3=>
.r (rv3.1,rv3.2.1,rv3.2.2.1,rv3.2.2.2))
def F_q2x (a0:TWo) (a1:Y8) (a2:Int):=(S_q2x a0 a1 a2).den
theorem F_q2x_ok {a0:TWo} {a1:Y8} {a2:Int}:FO (F_q2x a0 a1 a2) 11 [(TWo.d a0),(AV.d (DV.str a1)),(vi a2)] [] (fun x=>(AV.tup [(vi x.1),(vi x.2.1),(vi x.2.2.1),(vi x.2.2.2)])) NL:=fO (s:=S_q2x a0 a1 a2) Tryz.func11
abbrev R_q2i:=Int×Int×Int×Int
def S_q2i_b1 (a0:(List TOf)) (a1:TPo) (iv1:Nat) (sv2:Int×Int):SC R_q2i (Step (Int×Int) R_q2i) :=
.reg 3 [] [(2,{ obs:=[(1,(TOf.b (⟨0,[],(⟨[],[],[],[]⟩:TBo)⟩:TOf)))] })] [.w iv1,.ev 0,.pf cz5]<|
.a 4 5 2 (@F_q1m_ok (a0.getD iv1 dF) a1.D a1.E) fun rv3=>
.a 6 11 3 (@F_q3w_ok (a0.getD iv1 dF) a1.D a1.E) fun rv4=>
 let e0_:=(i64.wrap (rv3.A-rv3.M))
.c ((i64.wrap (sv2.1+e0_)),(i64.wrap (sv2.2+(i64.wrap (e0_-rv4)))))
def S_q2i (a0:(List TOf)) (a1:TPo):SC R_q2i R_q2i :=
.range (a0.length:Int) a0.length rfl (.slot 11) 13 [3,11,12] (fun (sv2:Int×Int)=>[(6,(vi sv2.1)),(7,(vi sv2.2))]) (fun _=>[]) (0,0) (S_q2i_b1 a0 a1) (fun sv2 => 
.a 8 3 1 (@F_q2v_ok a1) fun rv5=>
.r (a1.W,rv5,sv2.1,sv2.2)) id
def F_q2i (a0:(List TOf)) (a1:TPo):=(S_q2i a0 a1).den
theorem F_q2i_ok {a0:(List TOf)} {a1:TPo}:FO (F_q2i a0 a1) 69 [(AV.d (eL TOf.e a0)),(TPo.d a1)] [] (fun x=>(AV.tup [(vi x.1),(vi x.2.1),(vi x.2.2.1),(vi x.2.2.2)])) NL:=fO (s:=S_q2i a0 a1) Tryz.func69
abbrev R_q6k:=Int×Int×Int×Int
def S_q6k (a0:TWo) (a1:Y8) (a2:Int):SC R_q6k R_q6k :=
.call (@F_q2b_ok a0.F a1 a2) fun rv1 cv1=>
.reg 1 [] [(4,hc cv1 [] true),(8,{ obs:=[(1,(TPo.b (⟨[],0,0,[],[],[],[]⟩:TPo)))] })] [.cl 0 cv1 [] 1 true,.pf cz4]<|
.calld [(!rv1.2)=false] dF (@F_q18_ok a0) fun rv2 cv2 =>
.reg 2 [] [(4,hc cv2 [] true)] [.clg 0 [(!rv1.2)=false] cv2 [] 2 true]<|
.ite (cO (!rv1.2) (!rv2)) (
.r (0,0,0,0)) (
.a 4 1 2 (@F_q17_ok a0) fun rv3=>
.a 5 2 2 (@F_q2i_ok rv3.1 rv1.1) fun rv4=>
.r (rv4.1,rv4.2.1,rv4.2.2.1,rv4.2.2.2))
def F_q6k (a0:TWo) (a1:Y8) (a2:Int):=(S_q6k a0 a1 a2).den
theorem F_q6k_ok {a0:TWo} {a1:Y8} {a2:Int}:FO (F_q6k a0 a1 a2) 30 [(TWo.d a0),(AV.d (DV.str a1)),(vi a2)] [] (fun x=>(AV.tup [(vi x.1),(vi x.2.1),(vi x.2.2.1),(vi x.2.2.2)])) NL:=fO (s:=S_q6k a0 a1 a2) Tryz.func30
def S_q43 (a0:TWo) (a1:Y8) (a2:Int):SC (Int×Int) (Int×Int) :=
.call (@F_q2b_ok a0.F a1 a2) fun rv1 cv1=>
.reg 1 [] [(4,hc cv1 [] true),(8,{ obs:=[(1,(TPo.b (⟨[],0,0,[],[],[],[]⟩:TPo)))] })] [.cl 0 cv1 [] 1 true,.pf cz4]<|
.calld [(!rv1.2)=false] dF (@F_q18_ok a0) fun rv2 cv2 =>
.reg 2 [] [(4,hc cv2 [] true)] [.clg 0 [(!rv1.2)=false] cv2 [] 2 true]<|
.ite (cO (!rv1.2) (!rv2)) (
.r (0,0)) (
.a 4 3 2 (@F_q6k_ok a0 a1 a2) fun rv3=>
.a 5 5 2 (@F_q2w_ok rv1.1) fun rv4=>
 let e0_:=(i64.wrap (rv3.2.2.2-rv3.1))
.r ((if 0>e0_ then 0 else e0_),rv4))
def F_q43 (a0:TWo) (a1:Y8) (a2:Int):=(S_q43 a0 a1 a2).den
theorem F_q43_ok {a0:TWo} {a1:Y8} {a2:Int}:FO (F_q43 a0 a1 a2) 12 [(TWo.d a0),(AV.d (DV.str a1)),(vi a2)] [] (fun x=>(AV.tup [(vi x.1),(vi x.2)])) NL:=fO (s:=S_q43 a0 a1 a2) Tryz.func12
theorem zv1:LeV (AV.full 0 fun _=>DV.b false) (AV.d (eL TLi.e ([]))):=lvN TLi.e
abbrev R_q2j:=(List TLi)
def S_q2j_b1 (a0:TTr) (iv1:Nat) (sv2:(List TLi)):SC R_q2j (Step ((List TLi)) R_q2j) :=
.reg 6 [] [(2,{ obs:=[(2,(TPo.b (⟨[],0,0,[],[],[],[]⟩:TPo)))] })] [.w iv1,.ev 0,.pf cz4]<|
 let e1_:=(a0.B.getD iv1 dF)
.a 7 1 3 (@F_q2w_ok e1_) fun rv3=>
.ite (decide (rv3>0)) (
.guard [(sv2.length+1) * (2 * 32)<=2 ^ 48]<|
 let e0_:=([(⟨e1_.D,e1_.E,rv3⟩:TLi)]:List TLi)
.reg 9 [] [(7,hv (AV.d (eL TLi.e e0_))),(8,{ h:=.obj,cast:=some (AV.ref 1 ((sv2++e0_).length) 0 ((sv2++e0_).length)),obs:=[(1,(eS 3 TLi.e (sv2++e0_)))] })] [.pf (ze TLi.e e0_),.e sv2.length,.e sv2.length,.pf (p:=∀ k,k<1->(TLi.d (e0_.getD k dF)).wd=3) (fun _ _=>rfl),.ev 0,.pf (z11 (o:=1) (l:=sv2) (x:=e0_)),.pf (z13 (sz:=3) (e:=TLi.e) (l:=sv2) (x:=e0_))]<|
.r (.cont (sv2++e0_))) (
.c sv2)
def S_q2j (a0:TTr):SC R_q2j R_q2j :=
.a 1 1 1 (@F_qm_ok a0) fun rv4=>
.ite (!rv4) (
.ret [.pf zv1] ([])) (
.reg 4 [] [] []<|
.bor 3 (fun j=>AV.d (TLi.e (([]:List TLi).getD j dF))) [3]<|
.range (a0.B.length:Int) a0.B.length rfl (.slot 11) 13 [11,12] (fun (sv2:(List TLi))=>[(3,(AV.ref 1 sv2.length 0 sv2.length))]) (fun sv2=>[(1,(eS 3 TLi.e sv2))]) ([]:List TLi) (S_q2j_b1 a0) (fun sv2 => 
.guard [sv2.length<2 ^ 63]<|
.reg 11 [] [] []<|
.frz 1 (.ev 0) none [2] []<|
.r sv2) id)
def F_q2j (a0:TTr):=(S_q2j a0).den
theorem F_q2j_ok {a0:TTr}:FO (F_q2j a0) 36 [(TTr.d a0)] [] (fun x=>(AV.d (eL TLi.e x))) NL:=fO (s:=S_q2j a0) Tryz.func36
def S_q6l:SC Bool Bool :=
 let e2_:=(⟨[49],12,100,([60,40]:List Int),([0,0]:List Int),([0,0]:List Int),([50,10]:List Int)⟩:TPo)
 let e5_:=(ze (DV.i .i64) ([0,0]:List Int))
 let e6_:=(TTr.b (⟨0,[]⟩:TTr))
 let e7_:=([e2_]:List TPo)
.reg 1 [] [(0,hv (vl ([60,40]:List Int))),(1,hv (vl ([0,0]:List Int))),(2,hv (vl ([0,0]:List Int))),(3,hv (vl ([50,10]:List Int))),(5,hv (AV.d (eL TPo.e e7_))),(7,{ obs:=[(0,e6_)] })] [.pf (ze (DV.i .i64) ([60,40]:List Int)),.pf e5_,.pf e5_,.pf (ze (DV.i .i64) ([50,10]:List Int)),.pf (ze TPo.e e7_),.pf z2b]<|
.call (@F_qd_ok (⟨2,e7_⟩:TTr) ([49]) 12 55) fun rv1 cv1=>
.reg 2 [] [(1,hc cv1 [] true),(6,{ obs:=[(1,e6_)] })] [.cl 0 cv1 [] 1 true,.pf z2b]<|
.a 3 1 2 (@F_q2j_ok rv1.1) fun rv2=>
 let e3_:=(bif (rv1.2.2==0) then ((rv1.2.1.length:Int)==2) else false)
 let e0_:=(bif e3_ then (((rv1.2.1.getD 0 dF).K)==10) else false)
 let e1_:=(bif (bif e0_ then (((rv1.2.1.getD 1 dF).K)==30) else false) then ((rv2.length:Int)==1) else false)
.guard [AllP [e3_=true]->(0<rv1.2.1.length),AllP [e0_=true]->(1<rv1.2.1.length),AllP [e1_=true]->(0<rv2.length)]<|
.reg 4 [] [] [.pf (p:=AllP [e3_=true]->((0:Int)<=0)) (fun _=>dk),.ev 0,.pf (p:=AllP [e0_=true]->((0:Int)<=1)) (fun _=>dk),.ev 1,.pf (p:=AllP [e1_=true]->((0:Int)<=0)) (fun _=>dk),.ev 2]<|
 let e4_:=(rv2.getD 0 dF)
.r (bif e1_ then (((e4_.D)==([49]))&&(((e4_.E)==12)&&(((e4_.S)==45)&&true))) else false)
def F_q6l:=(S_q6l).den
theorem F_q6l_ok :FO (F_q6l) 15 [] [] vb NL:=fO (s:=S_q6l) Tryz.func15
def S_qj_b1 (rv1:(TWo×Int)) (rv2:(Int×Int)) (iv3:Nat) (_:Unit):SC Bool (Step (Unit) Bool) :=
.call (@F_q3p_ok rv1.1 (i64.wrap ((iv3:Int)+1))) fun rv4 cv4=>
.reg 20 [] [(3,hc cv4 [] true),(7,{ obs:=[(5,(TOf.b (⟨0,[],(⟨[],[],[],[]⟩:TBo)⟩:TOf)))] })] [.cl 0 cv4 [] 5 true,.pf cz5]<|
 let e0_:=(decide (rv2.2>0))
.calld [e0_=true,(rv4.2 != 0)=false] dF (@F_q3k_ok rv4.1 ([49]) 12) fun rv5 cv5 =>
.reg 21 [] [(7,hc cv5 [] true)] [.clg 0 [e0_=true,(rv4.2 != 0)=false] cv5 [] 6 true]<|
.ite (cO (rv4.2 != 0) (bif e0_ then (rv5 != 0) else false)) (
.r (.ret false)) (
.r (.cont ()))
def S_qj_b2 (rv1:(TWo×Int)) (rv2:(Int×Int)) (iv6:Nat) (_:Unit):SC Bool (Step (Unit) Bool) :=
.reg 15 [] [(2,{ obs:=[(4,(TPo.b (⟨[],0,0,[],[],[],[]⟩:TPo)))] })] [.w iv6,.ev 0,.pf cz4]<|
 let e0_:=(rv1.1.F.B.getD iv6 dF)
.ite (cO (!((e0_.D)==([49]))) ((e0_.E) != 12)) (
.r (.cont ())) (
.guard [(e0_.A).length<2 ^ 63]<|
.range (((rv1.1.F.B.getD iv6 dF).A).length:Int) (((rv1.1.F.B.getD iv6 dF).A).length) rfl (.why (.ev 0)) 120 [8,19,103,104,105,119] (fun (_:Unit)=>[]) (fun _=>[]) () (S_qj_b1 rv1 rv2) (fun _ => 
.r (.cont ())) .ret)
def S_qj (a0:(List Int)):SC Bool Bool :=
.call (@F_q2y_ok a0) fun rv7 cv7=>
.k 1 1 cv7 [] 0 false<|
.call (@F_qr_ok 1 3 rv7) fun rv8 cv8=>
.call (@F_q24_ok rv8.1 20 rv8.2) fun rv9 cv9=>
 let e0_:=(TWo.b (⟨(⟨0,[]⟩:TTr),[],[]⟩:TWo))
.reg 2 [] [(2,hc cv8 [0] false),(3,hc cv9 [0] false),(4,{ obs:=[(1,e0_)] })] [.cl 1 cv8 [0] 1 false,.cl 0 cv9 [0] 1 false,.pf cz1]<|
.call (@F_q2_ok rv9.1) fun rv10 cv10=>
.reg 3 [] [(1,hc cv10 [] true),(5,{ obs:=[(2,e0_)] })] [.cl 0 cv10 [] 2 true,.pf cz1]<|
.call (@F_q4_ok 300 rv9.2) fun rv11 cv11=>
.k 4 1 cv11 [0] 3 false<|
.call (@F_q42_ok rv9.1 ([49]) 12 rv11.1) fun rv1 cv1=>
.reg 5 [] [(2,hc cv1 [] true),(6,{ obs:=[(3,e0_)] })] [.cl 0 cv1 [] 3 true,.pf cz1]<|
 let e1_:=(cO (rv10.2 != 0) (rv1.2 != 0))
.calld [e1_=false] dF (@F_q2h_ok rv1.1) fun rv12 cv12 =>
.reg 6 [] [(8,hc cv12 [] true)] [.clg 0 [e1_=false] cv12 [] 4 true]<|
.ite (cO (cO e1_ (!rv12)) ((rv1.1.V.length:Int) != 0)) (
.r false) (
.a 8 1 4 (@F_q2x_ok rv1.1 ([49]) 12) fun rv13=>
.a 9 1 4 (@F_q2x_ok rv10.1 ([49]) 12) fun rv14=>
.a 10 1 4 (@F_q43_ok rv1.1 ([49]) 12) fun rv2=>
 let e2_:=(i64.wrap (rv13.2.2.2-rv11.1))
.ite (cO (cO (cO (rv13.1 != rv11.1) (rv13.2.2.2 != rv14.2.2.2)) (rv2.1 != rv2.2)) (rv2.2 != (if e2_>0 then e2_ else 0))) (
.r false) (
.range (rv1.1.F.B.length:Int) rv1.1.F.B.length rfl (.slot 103) 105 [8,19,103,104] (fun (_:Unit)=>[]) (fun _=>[]) () (S_qj_b2 rv1 rv2) (fun _ => 
.a 25 0 4 (@F_q6l_ok) fun rv15=>
.r rv15) id))
def F_qj (a0:(List Int)):=(S_qj a0).den
theorem F_qj_ok {a0:(List Int)}:FO (F_qj a0) 3 [(vl a0)] [] vb NL:=fO (s:=S_qj a0) Tryz.func3
end
end Go.Proofs.YtlhikmklpelceaaGreatDoor
