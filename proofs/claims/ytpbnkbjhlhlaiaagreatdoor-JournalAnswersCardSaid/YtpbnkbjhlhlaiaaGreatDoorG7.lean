/- A part of the proof: what the functions compute, and that their calls return it. No condition. -/
import Derived.Test.YtpbnkbjhlhlaiaaGreatDoorG6
/- What the functions compute, and that their calls return it. No condition. -/
namespace Go.Proofs.YtpbnkbjhlhlaiaaGreatDoor
open Go Go.TA
open Go.IntKind (i64)
noncomputable section
set_option maxRecDepth 100000
def S_qb_b1 (a0:TJo) (a1:TJo) (iv1:Nat) (_:Unit):SC Bool (Step (Unit) Bool) :=
.guard [iv1<a1.D.length]<|
.reg 6 [] [] [.w iv1,.ev 1,.w iv1,.ev 0]<|
 let e0_:=(a0.D.getD iv1 dF)
 let e1_:=(a1.D.getD iv1 dF)
.ite (!(((e0_.M)==(e1_.M))&&(((e0_.E)==(e1_.E))&&(((e0_.H)==(e1_.H))&&(((e0_.O)==(e1_.O))&&(((e0_.Y)==(e1_.Y))&&(((e0_.I)==(e1_.I))&&(((e0_.T)==(e1_.T))&&(((e0_.W)==(e1_.W))&&(((e0_.N)==(e1_.N))&&(((e0_.Q)==(e1_.Q))&&true))))))))))) (
.r (.ret false)) (
.r (.cont ()))
def S_qb (a0:TJo) (a1:TJo):SC Bool Bool :=
.ite (cO (cO (a0.U != a1.U) (a0.R != a1.R)) ((a0.D.length:Int) != (a1.D.length:Int))) (
.r false) (
.guard [a0.D.length<2 ^ 63]<|
.range (a0.D.length:Int) a0.D.length rfl (.why (.ev 0)) 30 [2,3,29] (fun (_:Unit)=>[]) (fun _=>[]) () (S_qb_b1 a0 a1) (fun _ => 
.r true) id)
def F_qb (a0:TJo) (a1:TJo):=(S_qb a0 a1).den
theorem F_qb_ok {a0:TJo} {a1:TJo}:FO (F_qb a0 a1) 25 [(TJo.d a0),(TJo.d a1)] [] vb NL:=fO (s:=S_qb a0 a1) Tryz.func25
def S_qc_b1 (a1:TOp) (rv1:R_q1e) (rv2:R_q1d) (iv3:Nat) (_:Unit):SC Bool (Step (Unit) Bool) :=
.reg 9 [] [] [.w iv3,.ev 0]<|
 let e0_:=(([rv1.1,rv2.1,a1]:List TOp).getD iv3 dF)
.call (@F_q28_ok e0_) fun rv4 cv4=>
.call (@F_q9_ok e0_) fun rv5 cv5=>
 let e1_:=(!(rv4==rv5))
.calld [e1_=false] dF (@F_q5_ok e0_) fun rv6 cv6 =>
.calld [e1_=false] dF (@F_qd_ok e0_) fun rv7 cv7 =>
.reg 10 [] [(1,hc cv4 [] true),(3,hc cv5 [] true),(7,hc cv6 [] true),(9,hc cv7 [] true)] [.cl 5 cv4 [] 6 true,.cl 4 cv5 [] 6 true,.clg 2 [e1_=false] cv6 [] 6 true,.clg 0 [e1_=false] cv7 [] 6 true]<|
.ite (cO e1_ (!(rv6==rv7))) (
.r (.ret false)) (
.r (.cont ()))
def S_qc_b2 (a2:Y8) (rv8:R_qd) (rv9:R_q27) (iv10:Nat) (_:Unit):SC Bool (Step (Unit) Bool) :=
.reg 16 [] [] [.w iv10,.ev 0]<|
 let e0_:=(([rv8,rv9.1,a2,[114,101,108,101,97,115,101,32,49,32,49,48,48,48,48,48,48,48,48,48,48,48,48,48,48,48],[114,101,108,101,97,115,101,32,49,32,49,48,48,48,48,48,48,48,48,48,48,48,48,48,48,49],[114,101,108,101,97,115,101,32,49,32,48,49,48,48,48,48,48,48,48,48,48,48,48,48,48,48]]:List Y8).getD iv10 dF)
.a 17 1 5 (@F_q3_ok e0_) fun rv11=>
.a 18 1 6 (@F_qe_ok e0_) fun rv12=>
.ite (cO (!((rv11.1.M==rv12.1.M)&&((rv11.1.E==rv12.1.E)&&((rv11.1.H==rv12.1.H)&&((rv11.1.O==rv12.1.O)&&((rv11.1.Y==rv12.1.Y)&&((rv11.1.I==rv12.1.I)&&((rv11.1.T==rv12.1.T)&&((rv11.1.W==rv12.1.W)&&((rv11.1.N==rv12.1.N)&&((rv11.1.Q==rv12.1.Q)&&true))))))))))) (rv11.2 != rv12.2)) (
.r (.ret false)) (
.r (.cont ()))
def S_qc_b3 (a2:Y8) (rv13:R_q13) (rv14:R_q27) (rv15:R_qd) (iv16:Nat) (_:Unit):SC Bool (Step (Unit) Bool) :=
.reg 25 [] [] [.w iv16,.ev 0]<|
 let e0_:=(([rv13,rv14.1,(rv13++rv15),(rv13++([111,114,100,101,114,32,57,57,32,52,54,48,48,10])),a2,(([111,102,102,105,99,101,32,49,10])++a2)]:List Y8).getD iv16 dF)
.call (@F_qi_ok e0_) fun rv17 cv17=>
 let e2_:=(TJo.b (⟨0,[],0⟩:TJo))
.reg 26 [] [(1,hc cv17 [] true),(6,{ obs:=[(5,e2_)] })] [.cl 0 cv17 [] 5 true,.pf cz5]<|
.call (@F_q8_ok e0_) fun rv18 cv18=>
.reg 27 [] [(1,hc cv18 [] true),(6,{ obs:=[(6,e2_)] })] [.cl 0 cv18 [] 6 true,.pf cz5]<|
 let e1_:=(cO (rv17.2.2 != rv18.2.2) (!(rv17.2.1==rv18.2.1)))
.calld [e1_=false] dF (@F_qb_ok rv17.1 rv18.1) fun rv19 cv19 =>
.reg 28 [] [(11,hc cv19 [] true)] [.clg 0 [e1_=false] cv19 [] 7 true]<|
.ite (cO e1_ (!rv19)) (
.r (.ret false)) (
.r (.cont ()))
def S_qc (a0:(List Int)) (a1:TOp) (a2:Y8):SC Bool Bool :=
.ite (cO (decide ((a1.E.length:Int)>60)) (decide ((a2.length:Int)>2000))) (
.a 2 0 1 (@F_q1v_ok) fun rv20=>
.r rv20) (
.call (@F_q2e_ok a0) fun rv21 cv21=>
.k 3 1 cv21 [] 1 false<|
.call (@F_qr_ok 1 3 rv21) fun rv22 cv22=>
.call (@F_qg_ok rv22.1 12 rv22.2) fun rv23 cv23=>
.reg 4 [] [(2,hc cv22 [1] false),(3,hc cv23 [1] false),(4,{ obs:=[(2,(TJo.b (⟨0,[],0⟩:TJo)))] })] [.cl 1 cv22 [1] 2 false,.cl 0 cv23 [1] 2 false,.pf cz5]<|
.call (@F_q26_ok rv23.1) fun rv24 cv24=>
.reg 5 [] [(1,hc cv24 [] true),(5,{ obs:=[(3,(TOf.b (⟨0,[],(⟨[],[],[],[]⟩:TBo)⟩:TOf)))] })] [.cl 0 cv24 [] 3 true,.pf zx]<|
.call (@F_q1e_ok rv24.1 4600 rv23.2) fun rv1 cv1=>
.k 6 2 cv1 [1] 4 false<|
.call (@F_q1d_ok rv24.1 4600 rv1.2) fun rv2 cv2=>
 let e2_:=([rv1.1,rv2.1,a1]:List TOp)
.reg 7 [3] [(3,hc cv2 [1] false),(5,hv (AV.d (eL TOp.e e2_)))] [.cl 0 cv2 [1] 5 false,.pf (zi TOp.e e2_)]<|
.range 3 3 rfl (.why (.pf (p:=3<2 ^ 63) dk)) 61 [2,7,8,11,59,60] (fun (_:Unit)=>[]) (fun _=>[]) () (S_qc_b1 a1 rv1 rv2) (fun _ => 
.reg 13 [] [(0,hv (AV.d (eL DV.str ([[],[32],[48],[49],[57],[45],[114,101,115,101,114,118,101],[111,114,100,101,114,32,49,32,52,54,48,48],[10],[111,102,102,105,99,101,32,49,10],[49,48,48,48,48,48,48,48,48,48,48,48,48,48,48,48],[49,48,48,48,48,48,48,48,48,48,48,48,48,48,48,49]]:List Y8))))] [.pf (zi DV.str ([[],[32],[48],[49],[57],[45],[114,101,115,101,114,118,101],[111,114,100,101,114,32,49,32,52,54,48,48],[10],[111,102,102,105,99,101,32,49,10],[49,48,48,48,48,48,48,48,48,48,48,48,48,48,48,48],[49,48,48,48,48,48,48,48,48,48,48,48,48,48,48,49]]:List Y8))]<|
.call (@F_qd_ok rv1.1) fun rv8 cv8=>
.call (@F_qd_ok rv1.1) fun rv25 cv25=>
.call (@F_q27_ok rv25 ([[],[32],[48],[49],[57],[45],[114,101,115,101,114,118,101],[111,114,100,101,114,32,49,32,52,54,48,48],[10],[111,102,102,105,99,101,32,49,10],[49,48,48,48,48,48,48,48,48,48,48,48,48,48,48,48],[49,48,48,48,48,48,48,48,48,48,48,48,48,48,48,49]]:List Y8) rv2.2) fun rv9 cv9=>
 let e0_:=([rv8,rv9.1,a2,[114,101,108,101,97,115,101,32,49,32,49,48,48,48,48,48,48,48,48,48,48,48,48,48,48,48],[114,101,108,101,97,115,101,32,49,32,49,48,48,48,48,48,48,48,48,48,48,48,48,48,48,49],[114,101,108,101,97,115,101,32,49,32,48,49,48,48,48,48,48,48,48,48,48,48,48,48,48,48]]:List Y8)
.reg 14 [6] [(1,hc cv8 [] true),(4,hc cv25 [] true),(6,hc cv9 [1] false),(8,hv (AV.d (eL DV.str e0_)))] [.cl 2 cv8 [] 5 true,.cl 1 cv25 [] 5 true,.cl 0 cv9 [1] 5 false,.pf (zi DV.str e0_)]<|
.range 6 6 rfl (.why (.pf (p:=6<2 ^ 63) dk)) 89 [2,7,8,11,14,87,88] (fun (_:Unit)=>[]) (fun _=>[]) () (S_qc_b2 a2 rv8 rv9) (fun _ => 
.a 22 1 5 (@F_q13_ok rv23.1) fun rv13=>
.call (@F_q27_ok rv13 ([[],[32],[48],[49],[57],[45],[114,101,115,101,114,118,101],[111,114,100,101,114,32,49,32,52,54,48,48],[10],[111,102,102,105,99,101,32,49,10],[49,48,48,48,48,48,48,48,48,48,48,48,48,48,48,48],[49,48,48,48,48,48,48,48,48,48,48,48,48,48,48,49]]:List Y8) rv9.2) fun rv14 cv14=>
.call (@F_qd_ok rv1.1) fun rv15 cv15=>
.guard [rv13.length+rv15.length<2 ^ 63,rv13.length+([111,114,100,101,114,32,57,57,32,52,54,48,48,10]).length<2 ^ 63,([111,102,102,105,99,101,32,49,10]).length+a2.length<2 ^ 63]<|
 let e1_:=([rv13,rv14.1,(rv13++rv15),(rv13++([111,114,100,101,114,32,57,57,32,52,54,48,48,10])),a2,(([111,102,102,105,99,101,32,49,10])++a2)]:List Y8)
.reg 23 [4] [(4,hc cv14 [1] false),(7,hc cv15 [] true),(14,hv (AV.d (eL DV.str e1_)))] [.cl 4 cv14 [1] 5 false,.cl 3 cv15 [] 5 true,.ev 0,.ev 1,.ev 1,.ev 2,.ev 2,.pf (zi DV.str e1_)]<|
.range 6 6 rfl (.why (.pf (p:=6<2 ^ 63) dk)) 130 [128,129] (fun (_:Unit)=>[]) (fun _=>[]) () (S_qc_b3 a2 rv13 rv14 rv15) (fun _ => 
.a 31 0 5 (@F_q1v_ok) fun rv26=>
.r rv26) id) id) id)
def F_qc (a0:(List Int)) (a1:TOp) (a2:Y8):=(S_qc a0 a1 a2).den
variable {a0:(List Int)}
theorem F_qc_ok {a1:TOp} {a2:Y8}:FO (F_qc a0 a1 a2) 3 [(vl a0),(TOp.d a1),(AV.d (DV.str a2))] [] vb NL:=fO (s:=S_qc a0 a1 a2) Tryz.func3
theorem cz9:∀ k,k<0->(DV.b false).wd=10:=fun _ h=>absurd h (y4b _)
def S_q4g (a0:(List TOp)):SC (List TOp) (List TOp) :=
.reg 0 [] [] []<|
 let e0_:=(AV.d (eL TOp.e a0))
.nils 0 (
.guard [(0+a0.length) * (2 * 88)<=2 ^ 48]<|
.reg 1 [] [] []<|
.lev 0 e0_ (.pf (lvQ true a0.length fun j=>(TOp.e (a0.getD j dF))))<|
.br true (.pf (p:=true=true) rfl)<|
.reg 2 [] [] []<|
.lev 2 e0_ (.der (fun (h:a0.length=0)=>lvZ TOp.e a0 h) 1)<|
.r a0) (
.reg 1 [] [] []<|
.lev 0 e0_ (.pf (lvQ false a0.length fun j=>(TOp.e (a0.getD j dF))))<|
.br false (.pf (p:=false=false) rfl)<|
.guard [(0+a0.length) * (2 * 88)<=2 ^ 48]<|
.reg 3 [] [(2,hv e0_)] [.pf (p:=∀ k,k<a0.length->AV.d (TOp.e (a0.getD k dF))=AV.d (TOp.e (a0.getD k dF))/\(TOp.e (a0.getD k dF)).wd=10) (fun _ _=>⟨rfl,rfl⟩),.pf cz9,.ev 0,.pf (zgi (e:=TOp.e) (x:=a0))]<|
.r a0)
def F_q4g (a0:(List TOp)):=(S_q4g a0).den
theorem F_q4g_ok {a0:(List TOp)}:FO (F_q4g a0) 97 [(AV.d (eL TOp.e a0))] [] (fun x=>(AV.d (eL TOp.e x))) NL:=fO (s:=S_q4g a0) Tryz.func97
def S_q3j (a0:TJo):SC TJo TJo :=
.reg 0 [] [(1,{ obs:=[(1,(TJo.b (⟨0,[],0⟩:TJo)))] })] [.pf cz5]<|
.a 1 2 2 (@F_q4g_ok a0.D) fun rv1=>
.r (⟨a0.U,rv1,a0.R⟩:TJo)
def F_q3j (a0:TJo):=(S_q3j a0).den
theorem F_q3j_ok {a0:TJo}:FO (F_q3j a0) 68 [(TJo.d a0)] [] (fun x=>(TJo.d x)) NL:=fO (s:=S_q3j a0) Tryz.func68
def S_q1z (a0:TJo):SC TJo TJo :=
.reg 0 [] [(1,{ obs:=[(1,(TJo.b (⟨0,[],0⟩:TJo)))] })] [.pf cz5]<|
.a 1 1 2 (@F_q1u_ok a0) fun rv1=>
.cut none [1,2] (fun (_:TJo)=>[]) (fun sv2=>[(0,(TJo.b sv2))]) (
.ite rv1 (
.r (.next (⟨a0.U,a0.D,(a0.D.length:Int)⟩:TJo))) (
.r (.next a0))) fun sv2=>
.a 3 1 2 (@F_q3j_ok sv2) fun rv3=>
.r rv3
def F_q1z (a0:TJo):=(S_q1z a0).den
theorem F_q1z_ok {a0:TJo}:FO (F_q1z a0) 26 [(TJo.d a0)] [] (fun x=>(TJo.d x)) NL:=fO (s:=S_q1z a0) Tryz.func26
def S_qh_b1 (a1:Int) (rv1:Y8) (sv2:Int×Int):SC Bool (Step (Int×Int) Bool) :=
.ite (decide (sv2.2<(i64.wrap (9+((i64.wrap a1).tmod (i64.wrap ((rv1.length:Int)-8))))))) (
.guard [(0:Int)<=sv2.2,(sv2.2).toNat<rv1.length]<|
.reg 11 [] [] [.ev 0,.ev 1]<|
 let e0_:=(i64.wrap (sv2.2+1))
.ite (((rv1.getD ((sv2.2).toNat) 0).toNat:Int)==10) (
.r (.cont ((i64.wrap (sv2.1+1)),e0_))) (
.r (.cont (sv2.1,e0_)))) (
.r (.brk (sv2.1,sv2.2)))
def S_qh_b2 (rv3:TJo) (rv4:R_qi) (iv5:Nat) (_:Unit):SC Bool (Step (Unit) Bool) :=
.reg 18 [] [] [.w iv5,.ev 0]<|
 let e2_:=(decide ((iv5:Int)>=(rv3.D.length:Int)))
.guard [AllP [e2_=false]->(iv5<rv3.D.length)]<|
.reg 19 [] [] [.pf (p:=AllP [e2_=false]->((0:Int)<=(iv5:Int))) (fun _=>(y4i _)),.ev 0]<|
 let e0_:=(rv4.1.D.getD iv5 dF)
 let e1_:=(rv3.D.getD iv5 dF)
.ite (cO e2_ (!(((e0_.M)==(e1_.M))&&(((e0_.E)==(e1_.E))&&(((e0_.H)==(e1_.H))&&(((e0_.O)==(e1_.O))&&(((e0_.Y)==(e1_.Y))&&(((e0_.I)==(e1_.I))&&(((e0_.T)==(e1_.T))&&(((e0_.W)==(e1_.W))&&(((e0_.N)==(e1_.N))&&(((e0_.Q)==(e1_.Q))&&true)))))))))))) (
.r (.ret false)) (
.r (.cont ()))
def S_qh (a0:(List Int)) (a1:Int):SC Bool Bool :=
.call (@F_q2e_ok a0) fun rv6 cv6=>
.k 1 1 cv6 [] 0 false<|
.call (@F_qr_ok 1 3 rv6) fun rv7 cv7=>
.call (@F_qg_ok rv7.1 12 rv7.2) fun rv8 cv8=>
.call (@F_q1z_ok rv8.1) fun rv3 cv3=>
 let e4_:=(TJo.b (⟨0,[],0⟩:TJo))
.reg 2 [] [(2,hc cv7 [0] false),(3,hc cv8 [0] false),(4,hc cv3 [] true),(5,{ obs:=[(1,e4_)] })] [.cl 2 cv7 [0] 1 false,.cl 1 cv8 [0] 1 false,.cl 0 cv3 [] 1 true,.pf cz5]<|
.a 3 1 2 (@F_q4y_ok rv3) fun rv1=>
.ite (decide ((rv1.length:Int)<9)) (
.r false) (
 let e3_:=(i64.wrap ((rv1.length:Int)-8))
.guard [(e3_:Int)≠0]<|
.reg 6 [] [] [.ev 0]<|
.iter [6,7,8] (fun (sv2:Int×Int)=>[(9,(vi sv2.1)),(10,(vi sv2.2))]) (fun _=>[]) ((-1),0) (S_qh_b1 a1 rv1) (fun sv2 =>
 let e0_:=(i64.wrap (9+((i64.wrap a1).tmod e3_)))
.call (@F_qi_ok (rv1.take ((e0_).toNat))) fun rv4 cv4=>
.guard [(0:Int)<=e0_,(e0_).toNat<=rv1.length]<|
.reg 13 [] [(3,hc cv4 [] true),(8,{ obs:=[(2,e4_)] })] [.ev 0,.ev 1,.cl 2 cv4 [] 2 true,.pf cz5]<|
 let e1_:=(cO (cO (rv4.2.2 != 0) ((rv4.1.D.length:Int) != sv2.1)) (rv4.1.R != sv2.1))
 let e2_:=(i64.wrap (e0_-1))
.guard [AllP [e1_=false]->((0:Int)<=e2_),AllP [e1_=false]->((e2_).toNat<rv1.length)]<|
.reg 14 [] [] [.ev 0,.ev 1]<|
.ite (cO e1_ (!(rv4.2.1==(((rv1.getD ((e2_).toNat) 0).toNat:Int) != 10)))) (
.r false) (
.range (rv4.1.D.length:Int) rv4.1.D.length rfl (.slot 79) 81 [6,79,80] (fun (_:Unit)=>[]) (fun _=>[]) () (S_qh_b2 rv3 rv4) (fun _ => 
.a 22 0 3 (@F_q1v_ok) fun rv9=>
.r rv9) id)) id)
def F_qh (a0:(List Int)) (a1:Int):=(S_qh a0 a1).den
theorem F_qh_ok {a1:Int}:FO (F_qh a0 a1) 4 [(vl a0),(AV.d (DV.i .u16 a1))] [] vb NL:=fO (s:=S_qh a0 a1) Tryz.func4
def S_q20 (a0:TJo):SC TJo TJo :=
.reg 0 [] [(1,{ obs:=[(1,(TJo.b (⟨0,[],0⟩:TJo)))] })] [.pf cz5]<|
.a 1 1 2 (@F_q1u_ok a0) fun rv1=>
.cut none [1,2] (fun (_:TJo)=>[]) (fun sv2=>[(0,(TJo.b sv2))]) (
.ite rv1 (
.guard [(0:Int)<=a0.R,(a0.R).toNat<=a0.D.length]<|
 let e0_:=(a0.D.take ((a0.R).toNat))
.reg 2 [] [(4,hv (AV.d (eL TOp.e e0_)))] [.ev 0,.ev 1,.der (fun (h0:(a0.R).toNat<=a0.D.length)=>lvT TOp.e a0.D h0) 1]<|
.r (.next (⟨a0.U,e0_,a0.R⟩:TJo))) (
.r (.next a0))) fun sv2=>
.a 3 1 2 (@F_q3j_ok sv2) fun rv3=>
.r rv3
def F_q20 (a0:TJo):=(S_q20 a0).den
theorem F_q20_ok {a0:TJo}:FO (F_q20 a0) 28 [(TJo.d a0)] [] (fun x=>(TJo.d x)) NL:=fO (s:=S_q20 a0) Tryz.func28
def S_q2h (a0:TJo):SC (TOf×Int) (TOf×Int) :=
 let e0_:=(⟨0,[],(⟨[],[],[],[]⟩:TBo)⟩:TOf)
.reg 0 [] [(1,{ obs:=[(1,(TOf.b e0_))] })] [.pf zx]<|
.a 1 1 2 (@F_q1u_ok a0) fun rv1=>
.ite (!rv1) (
.reg 2 [] [(0,hv (TOf.d e0_))] [.pf cz2]<|
.r (e0_,1)) (
 let e1_:=(a0.D.take ((a0.R).toNat))
.call (@F_q1c_ok a0.U e1_) fun rv2 cv2=>
.guard [(0:Int)<=a0.R,(a0.R).toNat<=a0.D.length]<|
.reg 3 [12,13] [(6,hv (AV.d (eL TOp.e e1_))),(7,hc cv2 [] true),(12,{ obs:=[(2,(TOf.b e0_))] })] [.ev 0,.ev 1,.der (fun (h0:(a0.R).toNat<=a0.D.length)=>lvT TOp.e a0.D h0) 1,.ev 0,.ev 1,.der (fun (h0:(a0.R).toNat<=a0.D.length)=>lvT TOp.e a0.D h0) 1,.cl 2 cv2 [] 2 true,.cl 2 cv2 [] 3 true,.pf zx]<|
.r (rv2.1,rv2.2.2))
def F_q2h (a0:TJo):=(S_q2h a0).den
theorem F_q2h_ok {a0:TJo}:FO (F_q2h a0) 30 [(TJo.d a0)] [] (fun x=>(AV.tup [(TOf.d x.1),(vi x.2)])) NL:=fO (s:=S_q2h a0) Tryz.func30
def S_q2_b1 (a0:TBo) (a1:TBo) (iv1:Nat) (_:Unit):SC Bool (Step (Unit) Bool) :=
.guard [iv1<a1.A.length]<|
.reg 6 [] [] [.w iv1,.ev 1,.w iv1,.ev 0]<|
 let e0_:=(a0.A.getD iv1 dF)
 let e1_:=(a1.A.getD iv1 dF)
.ite (!(((e0_.F)==(e1_.F))&&(((e0_.E)==(e1_.E))&&(((e0_.H)==(e1_.H))&&(((e0_.O)==(e1_.O))&&(((e0_.I)==(e1_.I))&&(((e0_.S)==(e1_.S))&&true))))))) (
.r (.ret false)) (
.r (.cont ()))
def S_q2_b2 (a0:TBo) (a1:TBo) (iv2:Nat) (_:Unit):SC Bool (Step (Unit) Bool) :=
.guard [iv2<a1.B.length]<|
.reg 12 [] [] [.w iv2,.ev 1,.w iv2,.ev 0]<|
 let e0_:=(a0.B.getD iv2 dF)
 let e1_:=(a1.B.getD iv2 dF)
.ite (!(((e0_.F)==(e1_.F))&&(((e0_.L)==(e1_.L))&&(((e0_.O)==(e1_.O))&&(((e0_.I)==(e1_.I))&&(((e0_.S)==(e1_.S))&&(((e0_.T)==(e1_.T))&&(((e0_.W)==(e1_.W))&&true)))))))) (
.r (.ret false)) (
.r (.cont ()))
def S_q2_b3 (a0:TBo) (a1:TBo) (iv3:Nat) (_:Unit):SC Bool (Step (Unit) Bool) :=
.guard [iv3<a1.C.length]<|
.reg 18 [] [] [.w iv3,.ev 1,.w iv3,.ev 0]<|
 let e0_:=(a0.C.getD iv3 dF)
 let e1_:=(a1.C.getD iv3 dF)
.ite (!(((e0_.F)==(e1_.F))&&(((e0_.P)==(e1_.P))&&(((e0_.O)==(e1_.O))&&(((e0_.I)==(e1_.I))&&true))))) (
.r (.ret false)) (
.r (.cont ()))
def S_q2_b4 (a0:TBo) (a1:TBo) (iv4:Nat) (_:Unit):SC Bool (Step (Unit) Bool) :=
.guard [iv4<a1.J.length]<|
.reg 24 [] [] [.w iv4,.ev 1,.w iv4,.ev 0]<|
 let e0_:=(a0.J.getD iv4 dF)
 let e1_:=(a1.J.getD iv4 dF)
.ite (!(((e0_.F)==(e1_.F))&&(((e0_.K)==(e1_.K))&&(((e0_.Z)==(e1_.Z))&&(((e0_.O)==(e1_.O))&&(((e0_.Ab)==(e1_.Ab))&&true)))))) (
.r (.ret false)) (
.r (.cont ()))
def S_q2 (a0:TBo) (a1:TBo):SC Bool Bool :=
.ite (cO (cO (cO ((a0.A.length:Int) != (a1.A.length:Int)) ((a0.B.length:Int) != (a1.B.length:Int))) ((a0.C.length:Int) != (a1.C.length:Int))) ((a0.J.length:Int) != (a1.J.length:Int))) (
.r false) (
.guard [a0.A.length<2 ^ 63]<|
.range (a0.A.length:Int) a0.A.length rfl (.why (.ev 0)) 46 [2,3,45] (fun (_:Unit)=>[]) (fun _=>[]) () (S_q2_b1 a0 a1) (fun _ => 
.guard [a0.B.length<2 ^ 63]<|
.range (a0.B.length:Int) a0.B.length rfl (.why (.ev 0)) 64 [2,3,63] (fun (_:Unit)=>[]) (fun _=>[]) () (S_q2_b2 a0 a1) (fun _ => 
.guard [a0.C.length<2 ^ 63]<|
.range (a0.C.length:Int) a0.C.length rfl (.why (.ev 0)) 82 [2,3,81] (fun (_:Unit)=>[]) (fun _=>[]) () (S_q2_b3 a0 a1) (fun _ => 
.guard [a0.J.length<2 ^ 63]<|
.range (a0.J.length:Int) a0.J.length rfl (.why (.ev 0)) 100 [2,3,99] (fun (_:Unit)=>[]) (fun _=>[]) () (S_q2_b4 a0 a1) (fun _ => 
.r true) id) id) id) id)
def F_q2 (a0:TBo) (a1:TBo):=(S_q2 a0 a1).den
theorem F_q2_ok {a0:TBo} {a1:TBo}:FO (F_q2 a0 a1) 72 [(TBo.d a0),(TBo.d a1)] [] vb NL:=fO (s:=S_q2 a0 a1) Tryz.func72
def S_qn_b1 (a0:TOf) (a1:TOf) (iv1:Nat) (_:Unit):SC Bool (Step (Unit) Bool) :=
.guard [iv1<a1.G.length]<|
.reg 6 [] [] [.w iv1,.ev 1,.w iv1,.ev 0]<|
 let e0_:=(a0.G.getD iv1 dF)
 let e1_:=(a1.G.getD iv1 dF)
.ite (!(((e0_.E)==(e1_.E))&&(((e0_.H)==(e1_.H))&&(((e0_.N)==(e1_.N))&&(((e0_.Aa)==(e1_.Aa))&&(((e0_.X)==(e1_.X))&&true)))))) (
.r (.ret false)) (
.r (.cont ()))
def S_qn (a0:TOf) (a1:TOf):SC Bool Bool :=
 let e0_:=(cO (a0.F != a1.F) ((a0.G.length:Int) != (a1.G.length:Int)))
.calld [e0_=false] dF (@F_q2_ok a0.V a1.V) fun rv2 cv2 =>
.reg 1 [] [(19,hc cv2 [] true)] [.clg 0 [e0_=false] cv2 [] 2 true]<|
.ite (cO e0_ (!rv2)) (
.r false) (
.guard [a0.G.length<2 ^ 63]<|
.range (a0.G.length:Int) a0.G.length rfl (.why (.ev 0)) 31 [2,3,30] (fun (_:Unit)=>[]) (fun _=>[]) () (S_qn_b1 a0 a1) (fun _ => 
.r true) id)
def F_qn (a0:TOf) (a1:TOf):=(S_qn a0 a1).den
theorem F_qn_ok {a0:TOf} {a1:TOf}:FO (F_qn a0 a1) 31 [(TOf.d a0),(TOf.d a1)] [] vb NL:=fO (s:=S_qn a0 a1) Tryz.func31
def S_q4u (a0:(List Int)):SC Bool Bool :=
.call (@F_q2e_ok a0) fun rv1 cv1=>
.k 1 1 cv1 [] 0 false<|
.call (@F_qr_ok 1 3 rv1) fun rv2 cv2=>
.call (@F_qg_ok rv2.1 14 rv2.2) fun rv3 cv3=>
 let e3_:=(TJo.b (⟨0,[],0⟩:TJo))
.reg 2 [] [(2,hc cv2 [0] false),(3,hc cv3 [0] false),(4,{ obs:=[(1,e3_)] })] [.cl 1 cv2 [0] 1 false,.cl 0 cv3 [0] 1 false,.pf cz5]<|
.call (@F_q20_ok rv3.1) fun rv4 cv4=>
.reg 3 [] [(1,hc cv4 [] true),(2,{ obs:=[(2,e3_)] })] [.cl 0 cv4 [] 2 true,.pf cz5]<|
.call (@F_q4y_ok rv3.1) fun rv5 cv5=>
.call (@F_qi_ok rv5) fun rv6 cv6=>
.reg 4 [] [(1,hc cv5 [] true),(2,hc cv6 [] true),(7,{ obs:=[(3,e3_)] })] [.cl 1 cv5 [] 3 true,.cl 0 cv6 [] 3 true,.pf cz5]<|
.call (@F_qp_ok rv4) fun rv7 cv7=>
 let e1_:=(TOf.b (⟨0,[],(⟨[],[],[],[]⟩:TBo)⟩:TOf))
.reg 5 [] [(1,hc cv7 [] true),(5,{ obs:=[(4,e1_)] })] [.cl 0 cv7 [] 4 true,.pf zx]<|
.call (@F_q2h_ok rv3.1) fun rv8 cv8=>
.reg 6 [] [(1,hc cv8 [] true),(5,{ obs:=[(5,e1_)] })] [.cl 0 cv8 [] 5 true,.pf zx]<|
.call (@F_q1z_ok rv3.1) fun rv9 cv9=>
.call (@F_q20_ok rv9) fun rv10 cv10=>
.call (@F_qp_ok rv10) fun rv11 cv11=>
.reg 7 [] [(1,hc cv9 [] true),(2,hc cv10 [] true),(3,hc cv11 [] true),(7,{ obs:=[(6,e1_)] })] [.cl 2 cv9 [] 6 true,.cl 1 cv10 [] 6 true,.cl 0 cv11 [] 6 true,.pf zx]<|
.call (@F_qp_ok rv3.1) fun rv12 cv12=>
.reg 8 [] [(1,hc cv12 [] true),(5,{ obs:=[(7,e1_)] })] [.cl 0 cv12 [] 7 true,.pf zx]<|
.ite (cO (cO (cO (cO (cO (rv6.2.2 != 0) (rv7.2 != 0)) (rv8.2 != 0)) (rv11.2 != 0)) (rv12.2 != 0)) rv6.2.1) (
.r false) (
.call (@F_qb_ok rv4 rv6.1) fun rv13 cv13=>
.calld [rv13=true] dF (@F_qn_ok rv7.1 rv8.1) fun rv14 cv14 =>
 let e4_:=(bif rv13 then rv14 else false)
.calld [e4_=true] dF (@F_qn_ok rv11.1 rv12.1) fun rv15 cv15 =>
 let e2_:=(bif e4_ then rv15 else false)
.calld [e2_=true] dF (@F_q25_ok rv4) fun rv16 cv16 =>
 let e0_:=(bif e2_ then rv16 else false)
.calld [e0_=true] dF (@F_q20_ok rv4) fun rv17 cv17 =>
.calld [e0_=true] dF (@F_qb_ok rv17 rv4) fun rv18 cv18 =>
 let e5_:=(bif e0_ then rv18 else false)
.calld [e5_=true] dF (@F_q1v_ok) fun rv19 cv19 =>
.reg 11 [] [(2,hc cv13 [] true),(6,hc cv14 [] true),(11,hc cv15 [] true),(15,hc cv16 [] true),(19,hc cv17 [] true),(21,hc cv18 [] true),(24,hc cv19 [] true)] [.cl 12 cv13 [] 8 true,.clg 10 [rv13=true] cv14 [] 8 true,.clg 8 [e4_=true] cv15 [] 8 true,.clg 6 [e2_=true] cv16 [] 8 true,.clg 4 [e0_=true] cv17 [] 8 true,.clg 2 [e0_=true] cv18 [] 8 true,.clg 0 [e5_=true] cv19 [] 8 true]<|
.r (bif e5_ then rv19 else false))
def F_q4u (a0:(List Int)):=(S_q4u a0).den
theorem F_q4u_ok :FO (F_q4u a0) 5 [(vl a0)] [] vb NL:=fO (s:=S_q4u a0) Tryz.func5
def S_q4h (a0:(List TOp)):SC (List TOp) (List TOp) :=
.reg 0 [] [] []<|
.nils 0 (
.guard [a0.length * (2 * 88)<=2 ^ 48]<|
.reg 1 [] [] []<|
.lev 0 (AV.d (eL TOp.e a0)) (.pf (lvQ true a0.length fun j=>(TOp.e (a0.getD j dF))))<|
.br true (.pf (p:=true=true) rfl)<|
.reg 2 [] [] []<|
.bor 10 (fun j=>AV.d (TOp.e (a0.getD j dF))) [2]<|
.cst (A:=a0.length=0) (.ev 1) [(2,AV.ref 0 0 0 0)] [(2,(AV.ref 0 a0.length 0 a0.length))] [(Ob.seq 10 0 fun j=>AV.d (TOp.e (a0.getD j dF)))] [(eS 10 TOp.e a0)] (fun h=>⟨by rw[h],by unfold eS; rw[h]⟩)<|
.r a0) (
.reg 1 [] [] []<|
.lev 0 (AV.d (eL TOp.e a0)) (.pf (lvQ false a0.length fun j=>(TOp.e (a0.getD j dF))))<|
.br false (.pf (p:=false=false) rfl)<|
.guard [a0.length * (2 * 88)<=2 ^ 48]<|
.reg 3 [] [(2,{ h:=.obj })] [.pf (p:=∀ k,k<a0.length->(TOp.d (a0.getD k dF)).wd=10) (fun _ _=>rfl),.ev 0]<|
.r a0)
def F_q4h (a0:(List TOp)):=(S_q4h a0).den
theorem F_q4h_ok {a0:(List TOp)}:FO (F_q4h a0) 97 [(AV.d (eL TOp.e a0))] [] (fun x=>(AV.ref 0 x.length 0 x.length)) (fun x=>[(eS 10 TOp.e x)]):=fO (s:=S_q4h a0) Tryz.func97
abbrev R_q4v:=Int×Int×(List TOp)
def S_q4v (a0:TJo):SC R_q4v R_q4v :=
.reg 0 [] [(1,{ obs:=[(1,(TJo.b (⟨0,[],0⟩:TJo)))] })] [.pf cz5]<|
.call (@F_q4h_ok a0.D) fun rv1 cv1=>
.k 1 2 cv1 [] 2 false<|
.reg 2 [] [] []<|
.kill 0<|
.r (a0.U,a0.R,rv1)
def F_q4v (a0:TJo):=(S_q4v a0).den
theorem F_q4v_ok {a0:TJo}:FO (F_q4v a0) 68 [(TJo.d a0)] [] (fun x=>(AV.agg [(vi x.1),(AV.ref 2 x.2.2.length 0 x.2.2.length),(vi x.2.1)])) (fun x=>[Ob.dead,(Ob.box (AV.agg [(vi x.1),(AV.ref 2 x.2.2.length 0 x.2.2.length),(vi x.2.1)])),(eS 10 TOp.e x.2.2)]):=fO (s:=S_q4v a0) Tryz.func68
def S_q3k (a0:TJo) (a1:TOp):SC (TJo×Int) (TJo×Int) :=
 let e1_:=(⟨0,[],0⟩:TJo)
.reg 0 [] [(2,{ obs:=[(2,(TJo.b e1_))] })] [.pf cz5]<|
.call (@F_qp_ok a0) fun rv1 cv1=>
 let e2_:=(TOf.b (⟨0,[],(⟨[],[],[],[]⟩:TBo)⟩:TOf))
.reg 1 [] [(1,hc cv1 [] true),(5,{ obs:=[(3,e2_)] })] [.cl 0 cv1 [] 3 true,.pf zx]<|
.calld [(rv1.2 != 0)=false] dF (@F_q28_ok a1) fun rv2 cv2 =>
.reg 2 [] [(4,hc cv2 [] true)] [.clg 0 [(rv1.2 != 0)=false] cv2 [] 4 true]<|
 let e3_:=(0,hv (TJo.d e1_))
.ite (cO (rv1.2 != 0) (!rv2)) (
.reg 3 [] [e3_] [.pf cz6]<|
.r (e1_,1)) (
.call (@F_q2d_ok rv1.1 a1) fun rv3 cv3=>
.reg 4 [] [(2,hc cv3 [] true),(6,{ obs:=[(4,e2_)] })] [.cl 0 cv3 [] 4 true,.pf zx]<|
.ite (rv3.2 != 0) (
.reg 6 [] [e3_] [.pf cz6]<|
.r (e1_,rv3.2)) (
.ite ((a0.D.length:Int)==400) (
.reg 8 [] [e3_] [.pf cz6]<|
.r (e1_,3)) (
.call (@F_q4v_ok a0) fun rv4 cv4=>
.k 9 1 cv4 [] 5 false<|
.kill 6<|
.guard [(rv4.2.2.length+1) * (2 * 88)<=2 ^ 48]<|
 let e0_:=([a1]:List TOp)
 let e4_:=(rv4.2.2++e0_)
.reg 10 [] [(3,hv (AV.d (eL TOp.e e0_))),(4,{ cast:=some (AV.ref 7 (e4_.length) 0 (e4_.length)),obs:=[(7,(eS 10 TOp.e e4_))] })] [.pf (zi TOp.e e0_),.e rv4.2.2.length,.e rv4.2.2.length,.pf (p:=∀ k,k<1->(TOp.d (e0_.getD k dF)).wd=10) (fun _ _=>rfl),.ev 0,.pf (z16 (o:=7) (l:=rv4.2.2) (x:=e0_)),.pf (z15 (sz:=10) (e:=TOp.e) (l:=rv4.2.2) (x:=e0_))]<|
.guard [e4_.length<2 ^ 63]<|
.reg 11 [] [] []<|
.frz 7 (.ev 0) none [] [0,2]<|
.r ((⟨rv4.1,e4_,rv4.2.1⟩:TJo),0))))
def F_q3k (a0:TJo) (a1:TOp):=(S_q3k a0 a1).den
theorem F_q3k_ok {a0:TJo} {a1:TOp}:FO (F_q3k a0 a1) 33 [(TJo.d a0),(TOp.d a1)] [] (fun x=>(AV.tup [(TJo.d x.1),(vi x.2)])) NL:=fO (s:=S_q3k a0 a1) Tryz.func33
def S_q1m_b1 (sv1:TTape×TJo×Int):SC Bool (Step (TTape×TJo×Int) Bool) :=
.ite (decide (sv1.2.2<5)) (
.call (@F_qp_ok sv1.2.1) fun rv2 cv2=>
 let e1_:=(TOf.b (⟨0,[],(⟨[],[],[],[]⟩:TBo)⟩:TOf))
.reg 6 [] [(1,hc cv2 [] true),(5,{ obs:=[(2,e1_)] })] [.cl 0 cv2 [] 2 true,.pf zx]<|
.ite (rv2.2 != 0) (
.r (.ret false)) (
.call (@F_q1e_ok rv2.1 (i64.wrap (4600+(i64.wrap (20 * sv1.2.2)))) sv1.1) fun rv3 cv3=>
.k 9 5 cv3 [0] 3 false<|
.call (@F_q3k_ok sv1.2.1 rv3.1) fun rv4 cv4=>
.reg 10 [] [(2,hc cv4 [] true),(6,{ obs:=[(4,(TJo.b (⟨0,[],0⟩:TJo)))] })] [.cl 0 cv4 [] 4 true,.pf cz5]<|
.call (@F_q2g_ok rv2.1 rv3.1) fun rv5 cv5=>
.reg 11 [] [(2,hc cv5 [] true),(6,{ obs:=[(5,e1_)] })] [.cl 0 cv5 [] 5 true,.pf zx]<|
.ite (rv4.2 != rv5.2) (
.r (.ret false)) (
 let e3_:=(i64.wrap (sv1.2.2+1))
.ite (rv4.2 != 0) (
.r (.cont (rv3.2,sv1.2.1,e3_))) (
.call (@F_qp_ok rv4.1) fun rv6 cv6=>
.reg 15 [] [(1,hc cv6 [] true),(5,{ obs:=[(6,e1_)] })] [.cl 0 cv6 [] 6 true,.pf zx]<|
.call (@F_q2h_ok rv4.1) fun rv7 cv7=>
.reg 16 [] [(1,hc cv7 [] true),(5,{ obs:=[(7,e1_)] })] [.cl 0 cv7 [] 7 true,.pf zx]<|
.call (@F_q2h_ok sv1.2.1) fun rv8 cv8=>
.reg 17 [] [(1,hc cv8 [] true),(5,{ obs:=[(8,e1_)] })] [.cl 0 cv8 [] 8 true,.pf zx]<|
 let e0_:=(cO (cO (rv6.2 != 0) (rv7.2 != 0)) (rv8.2 != 0))
.calld [e0_=false] dF (@F_qn_ok rv6.1 rv5.1) fun rv9 cv9 =>
 let e2_:=(cO e0_ (!rv9))
.calld [e2_=false] dF (@F_qn_ok rv7.1 rv8.1) fun rv10 cv10 =>
.reg 18 [] [(13,hc cv9 [] true),(19,hc cv10 [] true)] [.clg 2 [e0_=false] cv9 [] 9 true,.clg 0 [e2_=false] cv10 [] 9 true]<|
.ite (cO (cO e2_ (!rv10)) (rv4.1.R != sv1.2.1.R)) (
.r (.ret false)) (
.call (@F_q7_ok 2 rv3.2) fun rv11 cv11=>
.k 21 1 cv11 [0] 9 false<|
.ite (rv11.1==0) (
.a 22 1 9 (@F_q1z_ok rv4.1) fun rv12=>
.r (.cont (rv11.2,rv12,e3_))) (
.r (.cont (rv11.2,rv4.1,e3_)))))))) (
.r (.brk (sv1.1,sv1.2.1,sv1.2.2)))
def S_q1m (a0:(List Int)):SC Bool Bool :=
.call (@F_q2e_ok a0) fun rv13 cv13=>
.k 1 1 cv13 [] 0 false<|
.call (@F_qr_ok 1 3 rv13) fun rv14 cv14=>
.call (@F_qg_ok rv14.1 10 rv14.2) fun rv15 cv15=>
.reg 2 [] [(2,hc cv14 [0] false),(3,hc cv15 [0] false),(4,{ obs:=[(1,(TJo.b (⟨0,[],0⟩:TJo)))] })] [.cl 1 cv14 [0] 1 false,.cl 0 cv15 [0] 1 false,.pf cz5]<|
.iter [3,4] (fun (sv1:TTape×TJo×Int)=>[(5,(vi sv1.2.2))]) (fun sv1=>[(0,(TTape.b sv1.1)),(1,(TJo.b sv1.2.1))]) (rv15.2,rv15.1,0) S_q1m_b1 (fun _ =>
.a 23 0 2 (@F_q1v_ok) fun rv16=>
.r rv16) id
def F_q1m (a0:(List Int)):=(S_q1m a0).den
theorem F_q1m_ok :FO (F_q1m a0) 6 [(vl a0)] [] vb NL:=fO (s:=S_q1m a0) Tryz.func6
end
end Go.Proofs.YtpbnkbjhlhlaiaaGreatDoor
/- What the functions compute,and that their calls return it. No condition. -/
namespace Go.Proofs.YtpbnkbjhlhlaiaaGreatDoor
open Go Go.TA
open Go.IntKind (i64)
noncomputable section
set_option maxRecDepth 100000
def S_ql_b1 (a0:TJo) (iv1:Nat) (_:Unit):SC Bool (Step (Unit) Bool) :=
.reg 3 [] [] [.w iv1,.ev 0]<|
.ite (decide ((((a0.D.getD iv1 dF).E).length:Int)>60)) (
.r (.ret false)) (
.r (.cont ()))
def S_ql (a0:TJo):SC Bool Bool :=
.range (a0.D.length:Int) a0.D.length rfl (.slot 6) 8 [1,6,7] (fun (_:Unit)=>[]) (fun _=>[]) () (S_ql_b1 a0) (fun _ => 
.r (decide ((a0.D.length:Int)<=40))) id
def F_ql (a0:TJo):=(S_ql a0).den
theorem F_ql_ok {a0:TJo}:FO (F_ql a0) 36 [(TJo.d a0)] [] vb NL:=fO (s:=S_ql a0) Tryz.func36
abbrev R_q2n:=TJo×TTape
def S_q2n (a1:TJo) (p0:TTape):SC R_q2n R_q2n :=
 let e6_:=(TJo.b (⟨0,[],0⟩:TJo))
.reg 0 [] [(1,{ obs:=[(2,e6_)] })] [.pf cz5]<|
.guard [a1.D.length * (2 * 88)<=2 ^ 48]<|
.reg 1 [] [(3,{ h:=.obj })] [.pf (p:=∀ k,k<a1.D.length->(TOp.d (a1.D.getD k dF)).wd=10) (fun _ _=>rfl),.ev 0]<|
.call (@F_q7_ok 6 p0) fun rv1 cv1=>
.k 2 1 cv1 [0] 4 false<|
.ite (rv1.1==0) (
.call (@F_qz_ok ([0,1,6,7]:List Int) rv1.2) fun rv2 cv2=>
.reg 6 [] [(1,hv (vl ([0,1,6,7]:List Int))),(2,hc cv2 [0] false)] [.pf (zi (DV.i .i64) ([0,1,6,7]:List Int)),.cl 0 cv2 [0] 4 false]<|
.guard [a1.D.length<2 ^ 63]<|
.reg 18 [] [] []<|
.frz 3 (.ev 0) none [] [1,2]<|
.r ((⟨rv2.1,a1.D,a1.R⟩:TJo),rv2.2)) (
 let e8_:=(a1.D.length:Int)
.ite (rv1.1==1) (
 let e4_:=([(-1),0,e8_,(i64.wrap (e8_+1))]:List Int)
.call (@F_qz_ok e4_ rv1.2) fun rv3 cv3=>
.reg 8 [] [(8,hv (vl e4_)),(9,hc cv3 [0] false)] [.pf (zi (DV.i .i64) e4_),.cl 0 cv3 [0] 4 false]<|
.guard [a1.D.length<2 ^ 63]<|
.reg 18 [] [] []<|
.frz 3 (.ev 0) none [] [1,2]<|
.r ((⟨a1.U,a1.D,rv3.1⟩:TJo),rv3.2)) (
 let e7_:=(AV.agg [(vi a1.U),(AV.ref 3 a1.D.length 0 a1.D.length),(vi a1.R)])
 let e9_:=[(3,(vp 1)),(4,(vp 2))]
.ite (rv1.1==2) (
.cut none [3,4] (fun (_:TTape×Int×Int×(List TOp))=>[]) (fun sv4=>[(0,(TTape.b sv4.1)),(1,(Ob.box (AV.agg [(vi sv4.2.1),(AV.ref 3 sv4.2.2.2.length 0 sv4.2.2.2.length),(vi sv4.2.2.1)]))),(3,(eS 10 TOp.e sv4.2.2.2))]) (
.ite (decide (e8_>0)) (
.call (@F_q7_ok e8_ rv1.2) fun rv5 cv5=>
.k 11 4 cv5 [0] 4 false<|
.call (@F_qz_ok ([(-1),0,5,100000]:List Int) rv5.2) fun rv6 cv6=>
 let e11_:=(0+(rv5.1).toNat)
.guard [(0:Int)<=rv5.1,(rv5.1).toNat<a1.D.length,e11_<a1.D.length]<|
 let e3_:=(a1.D.getD e11_ dF)
 let e0_:=(⟨e3_.M,e3_.E,e3_.H,e3_.O,e3_.Y,rv6.1,e3_.T,e3_.W,e3_.N,e3_.Q⟩:TOp)
 let e5_:=(a1.D.set e11_ e0_)
 let e12_:=(eS 10 TOp.e e5_)
.reg 12 [5,8] [(4,hv (vl ([(-1),0,5,100000]:List Int))),(5,hc cv6 [0] false),(8,{ obs:=[(3,e12_)] })] [.pf (zi (DV.i .i64) ([(-1),0,5,100000]:List Int)),.cl 3 cv6 [0] 4 false,.e a1.D.length,.ev 0,.ev 1,.e a1.D.length,.e a1.D.length,.ev 2,.pf (zu (sz:=10) (e:=TOp.e) (l:=a1.D) (i:=e11_) (x:=e0_) (fun _=>rfl))]<|
.cst (A:=True) (.pf trivial) e9_ e9_ [(TTape.b rv6.2),(Ob.box e7_),e6_,e12_] [(TTape.b rv6.2),(Ob.box (AV.agg [(vi a1.U),(AV.ref 3 (e5_.length) 0 (e5_.length)),(vi a1.R)])),e6_,e12_] (fun _=>⟨by simp +zetaDelta only,by simp +zetaDelta only[yl]⟩)<|
.r (.next (rv6.2,a1.U,a1.R,e5_))) (
.r (.next (rv1.2,a1.U,a1.R,a1.D)))) fun sv4=>
.guard [sv4.2.2.2.length<2 ^ 63]<|
.reg 18 [] [] []<|
.frz 3 (.ev 0) none [] [1,2]<|
.r ((⟨sv4.2.1,sv4.2.2.2,sv4.2.2.1⟩:TJo),sv4.1)) (
.ite (rv1.1==3) (
.ite (decide (e8_>0)) (
.guard [a1.D.length<2 ^ 63]<|
.frz 3 (.ev 0) none [] [1]<|
.guard [1<=a1.D.length]<|
.reg 15 [] [(2,hv (AV.d (eL TOp.e (a1.D.drop 1))))] [.pf (p:=(0:Int)<=1) dk,.ev 0,.pf (lvD TOp.e a1.D 1)]<|
.r ((⟨a1.U,(a1.D.drop 1),a1.R⟩:TJo),rv1.2)) (
.guard [a1.D.length<2 ^ 63]<|
.reg 18 [] [] []<|
.frz 3 (.ev 0) none [] [1,2]<|
.r ((⟨a1.U,a1.D,a1.R⟩:TJo),rv1.2))) (
.cut none [3,4] (fun (_:TTape×Int×Int×(List TOp))=>[]) (fun sv7=>[(0,(TTape.b sv7.1)),(1,(Ob.box (AV.agg [(vi sv7.2.1),(AV.ref 3 sv7.2.2.2.length 0 sv7.2.2.2.length),(vi sv7.2.2.1)]))),(3,(eS 10 TOp.e sv7.2.2.2))]) (
.ite (rv1.1==4) (
.call (@F_qr_ok 0 10 rv1.2) fun rv8 cv8=>
.call (@F_q7_ok 4 rv8.2) fun rv9 cv9=>
.guard [(a1.D.length+1) * (2 * 88)<=2 ^ 48]<|
 let e1_:=([(⟨rv8.1,[],0,4600,rv9.1,0,0,0,0,0⟩:TOp)]:List TOp)
.reg 17 [3,5,8,10] [(3,hc cv8 [0] false),(5,hc cv9 [0] false),(7,hv (AV.d (eL TOp.e e1_))),(8,{ h:=.obj,cast:=some (AV.ref 3 ((a1.D++e1_).length) 0 ((a1.D++e1_).length)),obs:=[(3,(eS 10 TOp.e (a1.D++e1_)))] })] [.cl 2 cv8 [0] 4 false,.cl 1 cv9 [0] 4 false,.pf (zi TOp.e e1_),.e a1.D.length,.e a1.D.length,.pf (p:=∀ k,k<1->(TOp.d (e1_.getD k dF)).wd=10) (fun _ _=>rfl),.ev 0,.pf (z16 (o:=3) (l:=a1.D) (x:=e1_)),.pf (z15 (sz:=10) (e:=TOp.e) (l:=a1.D) (x:=e1_))]<|
.r (.next (rv9.2,a1.U,a1.R,(a1.D++e1_)))) (
.ite (decide (e8_>1)) (
 let e10_:=(a1.D.set (0+0) (a1.D.getD (0+1) dF))
.guard [1<a1.D.length,(0+1)<a1.D.length,0<a1.D.length,(0+0)<a1.D.length,(0+1)<e10_.length]<|
.reg 4 [13,15] [(13,{ obs:=[(3,(eS 10 TOp.e (a1.D.set (0+0) (a1.D.getD (0+1) dF))))] }),(15,{ obs:=[(3,(eS 10 TOp.e ((a1.D.set (0+0) (a1.D.getD (0+1) dF)).set (0+1) (a1.D.getD (0+0) dF))))] })] [.e a1.D.length,.pf (p:=(0:Int)<=1) dk,.ev 0,.e a1.D.length,.ev 1,.e a1.D.length,.pf (p:=(0:Int)<=0) dk,.ev 2,.e a1.D.length,.ev 3,.e a1.D.length,.pf (p:=(0:Int)<=0) dk,.ev 2,.e a1.D.length,.ev 3,.pf (zu (sz:=10) (e:=TOp.e) (l:=a1.D) (i:=(0+0)) (x:=(a1.D.getD (0+1) dF)) (fun _=>rfl)),.pf (p:=(a1.D.set (0+0) (a1.D.getD (0+1) dF)).length=a1.D.length) (by simp only[yl]),.pf (p:=(0:Int)<=1) dk,.ev 0,.pf (p:=(a1.D.set (0+0) (a1.D.getD (0+1) dF)).length=a1.D.length) (by simp only[yl]),.ev 4,.pf (zu (sz:=10) (e:=TOp.e) (l:=(a1.D.set (0+0) (a1.D.getD (0+1) dF))) (i:=(0+1)) (x:=(a1.D.getD (0+0) dF)) (fun _=>rfl))]<|
 let e2_:=(e10_.set (0+1) (a1.D.getD (0+0) dF))
.cst (A:=True) (.pf trivial) e9_ e9_ [(TTape.b rv1.2),(Ob.box e7_),e6_,(eS 10 TOp.e e2_)] [(TTape.b rv1.2),(Ob.box (AV.agg [(vi a1.U),(AV.ref 3 (e2_.length) 0 (e2_.length)),(vi a1.R)])),e6_,(eS 10 TOp.e e2_)] (fun _=>⟨by simp +zetaDelta only,by simp +zetaDelta only[yl]⟩)<|
.r (.next (rv1.2,a1.U,a1.R,e2_))) (
.r (.next (rv1.2,a1.U,a1.R,a1.D))))) fun sv7=>
.guard [sv7.2.2.2.length<2 ^ 63]<|
.reg 18 [] [] []<|
.frz 3 (.ev 0) none [] [1,2]<|
.r ((⟨sv7.2.1,sv7.2.2.2,sv7.2.2.1⟩:TJo),sv7.1)))))
def F_q2n (a1:TJo) (p0:TTape):=(S_q2n a1 p0).den
theorem F_q2n_ok {a1:TJo} {p0:TTape}:FO (F_q2n a1 p0) 37 [(vp 0),(TJo.d a1)] [(TTape.b p0)] (fun x=>(TJo.d x.1)) (fun x=>[(TTape.b x.2)]):=fO (s:=S_q2n a1 p0) Tryz.func37
def S_q4i (a0:TJo):SC (TOf×Int) (TOf×Int) :=
 let e0_:=(⟨0,[],(⟨[],[],[],[]⟩:TBo)⟩:TOf)
 let e1_:=(TOf.b e0_)
.reg 0 [] [(1,{ obs:=[(1,e1_)] })] [.pf zx]<|
.call (@F_q4_ok a0) fun rv1 cv1=>
.reg 1 [] [(1,hc cv1 [] true),(6,{ obs:=[(2,e1_)] }),(7,{ obs:=[(3,e1_)] })] [.cl 0 cv1 [] 2 true,.pf zx,.pf zx]<|
.ite (!rv1.2.2) (
.reg 3 [] [(0,hv (TOf.d e0_))] [.pf cz2]<|
.r (e0_,1)) (
.r (rv1.2.1,0))
def F_q4i (a0:TJo):=(S_q4i a0).den
theorem F_q4i_ok {a0:TJo}:FO (F_q4i a0) 38 [(TJo.d a0)] [] (fun x=>(AV.tup [(TOf.d x.1),(vi x.2)])) NL:=fO (s:=S_q4i a0) Tryz.func38
def S_q14_b1 (a0:(List TOp)) (a1:(List TOp)) (iv1:Nat) (_:Unit):SC Bool (Step (Unit) Bool) :=
.guard [iv1<a1.length]<|
.reg 6 [] [] [.w iv1,.ev 1,.w iv1,.ev 0]<|
 let e0_:=(a0.getD iv1 dF)
 let e1_:=(a1.getD iv1 dF)
.ite (!(((e0_.M)==(e1_.M))&&(((e0_.E)==(e1_.E))&&(((e0_.H)==(e1_.H))&&(((e0_.O)==(e1_.O))&&(((e0_.Y)==(e1_.Y))&&(((e0_.I)==(e1_.I))&&(((e0_.T)==(e1_.T))&&(((e0_.W)==(e1_.W))&&(((e0_.N)==(e1_.N))&&(((e0_.Q)==(e1_.Q))&&true))))))))))) (
.r (.ret false)) (
.r (.cont ()))
def S_q14 (a0:(List TOp)) (a1:(List TOp)):SC Bool Bool :=
.ite ((a0.length:Int) != (a1.length:Int)) (
.r false) (
.range (a0.length:Int) a0.length rfl (.slot 0) 13 [0,1,12] (fun (_:Unit)=>[]) (fun _=>[]) () (S_q14_b1 a0 a1) (fun _ => 
.r true) id)
def F_q14 (a0:(List TOp)) (a1:(List TOp)):=(S_q14 a0 a1).den
theorem F_q14_ok {a0:(List TOp)} {a1:(List TOp)}:FO (F_q14 a0 a1) 87 [(AV.d (eL TOp.e a0)),(AV.d (eL TOp.e a1))] [] vb NL:=fO (s:=S_q14 a0 a1) Tryz.func87
def S_q3l (a0:TJo) (a1:TJo):SC Bool Bool :=
 let e0_:=(bif (a0.U==a1.U) then (a0.R==a1.R) else false)
.calld [e0_=true] dF (@F_q14_ok a0.D a1.D) fun rv1 cv1 =>
.reg 1 [] [(17,hc cv1 [] true)] [.clg 0 [e0_=true] cv1 [] 2 true]<|
.r (bif e0_ then rv1 else false)
def F_q3l (a0:TJo) (a1:TJo):=(S_q3l a0 a1).den
theorem F_q3l_ok {a0:TJo} {a1:TJo}:FO (F_q3l a0 a1) 40 [(TJo.d a0),(TJo.d a1)] [] vb NL:=fO (s:=S_q3l a0 a1) Tryz.func40
def S_q4j (a0:TJo):SC TJo TJo :=
.reg 0 [] [(1,{ obs:=[(1,(TJo.b (⟨0,[],0⟩:TJo)))] })] [.pf cz5]<|
.a 1 1 2 (@F_q25_ok a0) fun rv1=>
.cut none [1,2] (fun (_:TJo)=>[]) (fun sv2=>[(0,(TJo.b sv2))]) (
.ite rv1 (
 let e0_:=(a0.D.take ((a0.R).toNat))
.guard [(0:Int)<=a0.R,(a0.R).toNat<=a0.D.length,(0+e0_.length) * (2 * 88)<=2 ^ 48]<|
.reg 2 [] [(5,hv (AV.d (eL TOp.e e0_))),(6,hv (AV.d (eL TOp.e e0_)))] [.ev 0,.ev 1,.der (fun (h0:(a0.R).toNat<=a0.D.length)=>lvT TOp.e a0.D h0) 1,.pf (p:=∀ k,k<e0_.length->AV.d (TOp.e (e0_.getD k dF))=AV.d (TOp.e (e0_.getD k dF))/\(TOp.e (e0_.getD k dF)).wd=10) (fun _ _=>⟨rfl,rfl⟩),.pf cz9,.ev 2,.pf (zgi (e:=TOp.e) (x:=e0_))]<|
.r (.next (⟨a0.U,e0_,a0.R⟩:TJo))) (
.r (.next a0))) fun sv2=>
.r sv2
def F_q4j (a0:TJo):=(S_q4j a0).den
theorem F_q4j_ok {a0:TJo}:FO (F_q4j a0) 42 [(TJo.d a0)] [] (fun x=>(TJo.d x)) NL:=fO (s:=S_q4j a0) Tryz.func42
def S_q4k (a0:TJo) (a1:TOp):SC (TJo×Int) (TJo×Int) :=
 let e1_:=(⟨0,[],0⟩:TJo)
.reg 0 [] [(2,{ obs:=[(2,(TJo.b e1_))] })] [.pf cz5]<|
.call (@F_q26_ok a0) fun rv1 cv1=>
 let e2_:=(TOf.b (⟨0,[],(⟨[],[],[],[]⟩:TBo)⟩:TOf))
.reg 1 [] [(1,hc cv1 [] true),(5,{ obs:=[(3,e2_)] })] [.cl 0 cv1 [] 3 true,.pf zx]<|
.calld [(rv1.2 != 0)=false] dF (@F_q9_ok a1) fun rv2 cv2 =>
.reg 2 [] [(4,hc cv2 [] true)] [.clg 0 [(rv1.2 != 0)=false] cv2 [] 4 true]<|
 let e3_:=(0,hv (TJo.d e1_))
.ite (cO (rv1.2 != 0) (!rv2)) (
.reg 3 [] [e3_] [.pf cz6]<|
.r (e1_,1)) (
.call (@F_q2g_ok rv1.1 a1) fun rv3 cv3=>
.reg 4 [] [(2,hc cv3 [] true),(6,{ obs:=[(4,e2_)] })] [.cl 0 cv3 [] 4 true,.pf zx]<|
.ite (rv3.2 != 0) (
.reg 6 [] [e3_] [.pf cz6]<|
.r (e1_,rv3.2)) (
.ite ((a0.D.length:Int)==400) (
.reg 8 [] [e3_] [.pf cz6]<|
.r (e1_,3)) (
.guard [a0.D.length * (2 * 88)<=2 ^ 48,(a0.D.length+1) * (2 * 88)<=2 ^ 48]<|
 let e0_:=([a1]:List TOp)
.reg 9 [3,6,8] [(3,{ h:=.obj }),(5,hv (AV.d (eL TOp.e e0_))),(6,{ cast:=some (AV.ref 5 ((a0.D++e0_).length) 0 ((a0.D++e0_).length)),obs:=[(5,(eS 10 TOp.e (a0.D++e0_)))] })] [.pf (p:=∀ k,k<a0.D.length->(TOp.d (a0.D.getD k dF)).wd=10) (fun _ _=>rfl),.ev 0,.pf (zi TOp.e e0_),.pf (zi TOp.e e0_),.e a0.D.length,.e a0.D.length,.pf (p:=∀ k,k<1->(TOp.d (e0_.getD k dF)).wd=10) (fun _ _=>rfl),.ev 1,.pf (z16 (o:=5) (l:=a0.D) (x:=e0_)),.pf (z15 (sz:=10) (e:=TOp.e) (l:=a0.D) (x:=e0_))]<|
.guard [(a0.D++e0_).length<2 ^ 63]<|
.frz 5 (.ev 0) none [] [0]<|
.r ((⟨a0.U,(a0.D++e0_),a0.R⟩:TJo),0))))
def F_q4k (a0:TJo) (a1:TOp):=(S_q4k a0 a1).den
theorem F_q4k_ok {a0:TJo} {a1:TOp}:FO (F_q4k a0 a1) 43 [(TJo.d a0),(TOp.d a1)] [] (fun x=>(AV.tup [(TJo.d x.1),(vi x.2)])) NL:=fO (s:=S_q4k a0 a1) Tryz.func43
def S_q4l (a0:Int):SC (TJo×Int) (TJo×Int) :=
 let e1_:=(⟨0,[],0⟩:TJo)
.reg 0 [] [(0,{ obs:=[(0,(TJo.b e1_))] })] [.pf cz5]<|
.ite (cO (decide (a0<1)) (decide (a0>6))) (
.reg 2 [] [(0,hv (TJo.d e1_))] [.pf cz6]<|
.r (e1_,2)) (
 let e0_:=(TJo.d (⟨a0,[],0⟩:TJo))
.reg 3 [] [(1,hv e0_)] [.pf (p:=LeV (AV.d (DV.agg [(DV.i .i64 a0),Z0,(DV.i .i64 0)])) e0_) (z3s rfl (DLe.agg (DLeL.cons (DLe.refl _) (DLeL.cons DLe.sl0 (DLeL.cons (DLe.refl _) DLeL.nil)))))]<|
.r ((⟨a0,[],0⟩:TJo),0))
def F_q4l (a0:Int):=(S_q4l a0).den
theorem F_q4l_ok {a0:Int}:FO (F_q4l a0) 44 [(vi a0)] [] (fun x=>(AV.tup [(TJo.d x.1),(vi x.2)])) NL:=fO (s:=S_q4l a0) Tryz.func44
def S_q4m (a0:Int):SC (TJo×Int) (TJo×Int) :=
 let e1_:=(⟨0,[],0⟩:TJo)
.reg 0 [] [(0,{ obs:=[(0,(TJo.b e1_))] })] [.pf cz5]<|
.call (@F_q2f_ok a0) fun rv1 cv1=>
.reg 1 [] [(1,hc cv1 [] true),(5,{ obs:=[(1,(TOf.b (⟨0,[],(⟨[],[],[],[]⟩:TBo)⟩:TOf)))] })] [.cl 0 cv1 [] 1 true,.pf zx]<|
.ite (rv1.2 != 0) (
.reg 3 [] [(0,hv (TJo.d e1_))] [.pf cz6]<|
.r (e1_,rv1.2)) (
 let e0_:=(TJo.d (⟨a0,[],0⟩:TJo))
.reg 4 [] [(1,hv e0_)] [.pf (p:=LeV (AV.d (DV.agg [(DV.i .i64 a0),Z0,(DV.i .i64 0)])) e0_) (z3s rfl (DLe.agg (DLeL.cons (DLe.refl _) (DLeL.cons DLe.sl0 (DLeL.cons (DLe.refl _) DLeL.nil)))))]<|
.r ((⟨a0,[],0⟩:TJo),0))
def F_q4m (a0:Int):=(S_q4m a0).den
theorem F_q4m_ok {a0:Int}:FO (F_q4m a0) 45 [(vi a0)] [] (fun x=>(AV.tup [(TJo.d x.1),(vi x.2)])) NL:=fO (s:=S_q4m a0) Tryz.func45
def S_qo_b1 (a1:TJo) (a2:TOp) (rv1:R_qg) (rv2:R_q1e) (rv3:R_q2n) (iv4:Nat) (rv5:R_q1d) (iv6:Nat) (_:Unit):SC Bool (Step (Unit) Bool) :=
.reg 20 [] [] [.w iv6,.ev 0]<|
 let e0_:=(([rv1.1,rv3.1,a1]:List TJo).getD iv4 dF)
 let e1_:=(([rv2.1,rv5.1,a2]:List TOp).getD iv6 dF)
.call (@F_q3k_ok e0_ e1_) fun rv7 cv7=>
 let e2_:=(TJo.b (⟨0,[],0⟩:TJo))
.reg 21 [] [(2,hc cv7 [] true),(6,{ obs:=[(12,e2_)] })] [.cl 0 cv7 [] 12 true,.pf cz5]<|
.call (@F_q4k_ok e0_ e1_) fun rv8 cv8=>
.reg 22 [] [(2,hc cv8 [] true),(6,{ obs:=[(13,e2_)] })] [.cl 0 cv8 [] 13 true,.pf cz5]<|
 let e3_:=(rv7.2 != rv8.2)
.calld [e3_=false] dF (@F_qb_ok rv7.1 rv8.1) fun rv9 cv9 =>
.reg 23 [] [(6,hc cv9 [] true)] [.clg 0 [e3_=false] cv9 [] 14 true]<|
.ite (cO e3_ (!rv9)) (
.r (.ret false)) (
.r (.cont ()))
def S_qo_b2 (a1:TJo) (a2:TOp) (rv1:R_qg) (rv10:(TOf×Int)) (rv2:R_q1e) (rv3:R_q2n) (iv4:Nat) (sv11:TTape):SC Bool (Step (TTape) Bool) :=
.reg 9 [] [(2,{ obs:=[(6,(TJo.b (⟨0,[],0⟩:TJo)))] })] [.w iv4,.ev 0,.pf cz5]<|
 let e1_:=(([rv1.1,rv3.1,a1]:List TJo).getD iv4 dF)
.call (@F_qp_ok e1_) fun rv12 cv12=>
 let e4_:=(TOf.b (⟨0,[],(⟨[],[],[],[]⟩:TBo)⟩:TOf))
.reg 10 [] [(1,hc cv12 [] true),(5,{ obs:=[(7,e4_)] })] [.cl 0 cv12 [] 7 true,.pf zx]<|
.call (@F_q26_ok e1_) fun rv13 cv13=>
.reg 11 [] [(1,hc cv13 [] true),(5,{ obs:=[(8,e4_)] })] [.cl 0 cv13 [] 8 true,.pf zx]<|
.call (@F_q2h_ok e1_) fun rv14 cv14=>
.reg 12 [] [(1,hc cv14 [] true),(5,{ obs:=[(9,e4_)] })] [.cl 0 cv14 [] 9 true,.pf zx]<|
.call (@F_q4i_ok e1_) fun rv15 cv15=>
.reg 13 [] [(1,hc cv15 [] true),(5,{ obs:=[(10,e4_)] })] [.cl 0 cv15 [] 10 true,.pf zx]<|
.call (@F_q1u_ok e1_) fun rv16 cv16=>
.call (@F_q25_ok e1_) fun rv17 cv17=>
 let e3_:=(cO (cO (!(rv16==rv17)) (rv12.2 != rv13.2)) (rv14.2 != rv15.2))
.calld [e3_=false] dF (@F_qn_ok rv12.1 rv13.1) fun rv18 cv18 =>
 let e0_:=(cO e3_ (!rv18))
.calld [e0_=false] dF (@F_qn_ok rv14.1 rv15.1) fun rv19 cv19 =>
 let e6_:=(cO e0_ (!rv19))
.calld [e6_=false] dF (@F_q3l_ok e1_ a1) fun rv20 cv20 =>
.calld [e6_=false] dF (@F_qb_ok e1_ a1) fun rv21 cv21 =>
 let e2_:=(cO e6_ (!(rv20==rv21)))
.calld [e2_=false] dF (@F_q3l_ok rv1.1 e1_) fun rv22 cv22 =>
.calld [e2_=false] dF (@F_qb_ok rv1.1 e1_) fun rv23 cv23 =>
.reg 14 [] [(1,hc cv16 [] true),(3,hc cv17 [] true),(18,hc cv18 [] true),(24,hc cv19 [] true),(30,hc cv20 [] true),(33,hc cv21 [] true),(39,hc cv22 [] true),(42,hc cv23 [] true)] [.cl 13 cv16 [] 11 true,.cl 12 cv17 [] 11 true,.clg 10 [e3_=false] cv18 [] 11 true,.clg 8 [e0_=false] cv19 [] 11 true,.clg 6 [e6_=false] cv20 [] 11 true,.clg 4 [e6_=false] cv21 [] 11 true,.clg 2 [e2_=false] cv22 [] 11 true,.clg 0 [e2_=false] cv23 [] 11 true]<|
.ite (cO e2_ (!(rv22==rv23))) (
.r (.ret false)) (
.call (@F_q1z_ok e1_) fun rv24 cv24=>
.call (@F_q3h_ok e1_) fun rv25 cv25=>
.call (@F_qb_ok rv24 rv25) fun rv26 cv26=>
.calld [(!rv26)=false] dF (@F_q20_ok e1_) fun rv27 cv27 =>
.calld [(!rv26)=false] dF (@F_q4j_ok e1_) fun rv28 cv28 =>
.calld [(!rv26)=false] dF (@F_qb_ok rv27 rv28) fun rv29 cv29 =>
 let e5_:=(cO (!rv26) (!rv29))
.calld [e5_=false] dF (@F_q4y_ok e1_) fun rv30 cv30 =>
.calld [e5_=false] dF (@F_q13_ok e1_) fun rv31 cv31 =>
.reg 16 [] [(1,hc cv24 [] true),(3,hc cv25 [] true),(4,hc cv26 [] true),(8,hc cv27 [] true),(10,hc cv28 [] true),(11,hc cv29 [] true),(16,hc cv30 [] true),(18,hc cv31 [] true)] [.cl 12 cv24 [] 11 true,.cl 11 cv25 [] 11 true,.cl 10 cv26 [] 11 true,.clg 8 [(!rv26)=false] cv27 [] 11 true,.clg 6 [(!rv26)=false] cv28 [] 11 true,.clg 4 [(!rv26)=false] cv29 [] 11 true,.clg 2 [e5_=false] cv30 [] 11 true,.clg 0 [e5_=false] cv31 [] 11 true]<|
.ite (cO e5_ (!(rv30==rv31))) (
.r (.ret false)) (
.call (@F_q1d_ok rv10.1 4700 sv11) fun rv5 cv5=>
 let e7_:=([rv2.1,rv5.1,a2]:List TOp)
.reg 18 [3] [(3,hc cv5 [2] false),(5,hv (AV.d (eL TOp.e e7_)))] [.cl 0 cv5 [2] 11 false,.pf (zi TOp.e e7_)]<|
.range 3 3 rfl (.why (.pf (p:=3<2 ^ 63) dk)) 165 [3,5,6,9,10,11,13,15,66,67,68,163,164] (fun (_:Unit)=>[]) (fun _=>[]) () (S_qo_b1 a1 a2 rv1 rv2 rv3 iv4 rv5) (fun _ => 
.c rv5.2) .ret))
def S_qo (a0:(List Int)) (a1:TJo) (a2:TOp) (a3:Int):SC Bool Bool :=
.a 1 1 2 (@F_ql_ok a1) fun rv32=>
.ite (cO (!rv32) (decide ((a2.E.length:Int)>60))) (
.a 2 0 2 (@F_q1v_ok) fun rv33=>
.r rv33) (
.call (@F_q2e_ok a0) fun rv34 cv34=>
.k 3 1 cv34 [] 2 false<|
.call (@F_qr_ok 1 3 rv34) fun rv35 cv35=>
.call (@F_qg_ok rv35.1 12 rv35.2) fun rv1 cv1=>
 let e2_:=(TJo.b (⟨0,[],0⟩:TJo))
.reg 4 [] [(2,hc cv35 [2] false),(3,hc cv1 [2] false),(4,{ obs:=[(3,e2_)] })] [.cl 1 cv35 [2] 3 false,.cl 0 cv1 [2] 3 false,.pf cz5]<|
.call (@F_q26_ok rv1.1) fun rv10 cv10=>
.reg 5 [] [(1,hc cv10 [] true),(5,{ obs:=[(4,(TOf.b (⟨0,[],(⟨[],[],[],[]⟩:TBo)⟩:TOf)))] })] [.cl 0 cv10 [] 4 true,.pf zx]<|
 let e1_:=[(3,(vi a3)),(5,(vp 0)),(6,(vp 1)),(9,(vp 2)),(10,(vp 3)),(11,(vp 4))]
.sh (H:=NoH) (A:=True) (.pf trivial) e1_ e1_ [(TJo.b a1),(TOp.b a2),(TTape.b rv1.2),(TJo.b rv1.1),(TOf.b rv10.1)] [(TJo.b a1),(TOp.b a2),(TTape.b rv1.2),(TJo.b rv1.1),(TOf.b rv10.1),Ob.unb] (fun _=>zm9) (zgj _)<|
.call (@F_q7_ok 100 rv1.2) fun rv36 cv36=>
.call (@F_q1e_ok rv10.1 (i64.wrap (4600+rv36.1)) rv36.2) fun rv2 cv2=>
.reg 6 [3,5,6,7] [(3,hc cv36 [2] false),(5,hc cv2 [2] false),(6,{ h:=.born 5 false })] [.cl 1 cv36 [2] 6 false,.cl 1 cv36 [2] 6 false,.cl 0 cv2 [2] 6 false,.cl 0 cv2 [2] 6 false]<|
.call (@F_q2n_ok rv1.1 rv2.2) fun rv3 cv3=>
 let e3_:=([rv1.1,rv3.1,a1]:List TJo)
.reg 7 [3] [(3,hc cv3 [2] false),(5,hv (AV.d (eL TJo.e e3_)))] [.cl 0 cv3 [2] 6 false,.pf (zi TJo.e e3_)]<|
.range 3 3 rfl (.why (.pf (p:=3<2 ^ 63) dk)) 68 [3,5,6,9,10,11,13,66,67] (fun (_:TTape)=>[]) (fun sv11=>[(2,(TTape.b sv11))]) rv3.2 (S_qo_b2 a1 a2 rv1 rv10 rv2 rv3) (fun _ => 
.call (@F_q4l_ok a3) fun rv37 cv37=>
.reg 27 [] [(1,hc cv37 [] true),(5,{ obs:=[(6,e2_)] })] [.cl 0 cv37 [] 6 true,.pf cz5]<|
.call (@F_q4m_ok a3) fun rv38 cv38=>
.reg 28 [] [(1,hc cv38 [] true),(5,{ obs:=[(7,e2_)] })] [.cl 0 cv38 [] 7 true,.pf cz5]<|
 let e4_:=(rv37.2==rv38.2)
.calld [e4_=true] dF (@F_qb_ok rv37.1 rv38.1) fun rv39 cv39 =>
 let e0_:=(bif e4_ then rv39 else false)
.calld [e0_=true] dF (@F_q1v_ok) fun rv40 cv40 =>
.reg 29 [] [(6,hc cv39 [] true),(9,hc cv40 [] true)] [.clg 2 [e4_=true] cv39 [] 8 true,.clg 0 [e0_=true] cv40 [] 8 true]<|
.r (bif e0_ then rv40 else false)) id)
def F_qo (a0:(List Int)) (a1:TJo) (a2:TOp) (a3:Int):=(S_qo a0 a1 a2 a3).den
theorem F_qo_ok {a0:(List Int)} {a1:TJo} {a2:TOp} {a3:Int}:FO (F_qo a0 a1 a2 a3) 7 [(vl a0),(TJo.d a1),(TOp.d a2),(vi a3)] [] vb NL:=fO (s:=S_qo a0 a1 a2 a3) Tryz.func7
end
end Go.Proofs.YtpbnkbjhlhlaiaaGreatDoor
