/- A part of the proof: what the functions compute, and that their calls return it. No condition. -/
import Derived.Test.YtdmddkbngmhepaaGreatDoorG5
/- What the functions compute, and that their calls return it. No condition. -/
namespace Go.Proofs.YtdmddkbngmhepaaGreatDoor
open Go Go.TA
open Go.IntKind (i64)
noncomputable section
set_option maxRecDepth 100000
def S_q58 (a0:TTr) (a1:TMe):SC (TTr×Int) (TTr×Int) :=
 let e28_:=(bx (TTr.e (⟨0,[]⟩:TTr)))
.reg 0 [] [(2,{ obs:=[(2,e28_)] })] [.pf z2e]<|
.a 1 1 3 (@F_qw_ok a0) fun rv1=>
 let e15_:=(AV.d (TTr.e (⟨0,[]⟩:TTr)))
.ite (bif (!rv1) then true else (a1.To != 0)) (
.reg 2 [] [(0,hv e15_)] [.pf z1i]<|
.r ((⟨0,[]⟩:TTr),1)) (
.a 3 7 3 (@F_q29_ok a0 a1.Y a1.C a1.E) fun rv2=>
.ite (rv2.2 != 0) (
.reg 5 [] [(0,hv e15_)] [.pf z1i]<|
.r ((⟨0,[]⟩:TTr),rv2.2)) (
 let e5_:=(i64.wrap (a1.Y-1))
 let e9_:=((rv2.1).toNat)
 let e20_:=(decide (a1.N<0))
 let e29_:=((a0.D.getD e9_ default).A)
 let e6_:=(bif e20_ then true else (decide (a1.N>(e29_.getD ((e5_).toNat) default))))
.calld [e6_=false] default (@F_qc_ok a1.T) fun rv3 cv3 =>
.guard [AllP [e20_=false]->((0:Int)<=rv2.1),AllP [e20_=false]->((rv2.1).toNat<a0.D.length),AllP [e20_=false]->((0:Int)<=e5_),AllP [e20_=false]->((e5_).toNat<e29_.length)]<|
.reg 6 [] [(22,hc cv3 [] true)] [.ev 0,.ev 1,.ev 2,.ev 3,.clg 4 [e6_=false] cv3 [] 3 true]<|
.ite (bif e6_ then true else (!rv3)) (
.reg 7 [] [(0,hv e15_)] [.pf z1i]<|
.r ((⟨0,[]⟩:TTr),2)) (
.call (@F_q1a_ok a0 e9_) fun rv4 cv4=>
.reg 8 [] [(1,hc cv4 [] false),(2,{ obs:=[(11,e28_)] })] [.cl 0 cv4 [] 3 false,.pf z2e]<|
.kill 4<|
 let e1_:=(rv4.2.getD e9_ default)
 let e12_:=(0+(e5_).toNat)
.guard [(0:Int)<=rv2.1,(rv2.1).toNat<rv4.2.length,(0:Int)<=e5_,(e5_).toNat<(e1_.J).length,e12_<(e1_.J).length]<|
 let e10_:=((e1_.J).getD e12_ default)
 let e27_:=(if a1.N>e10_ then a1.N else e10_)
 let e0_:=((e1_.J).set e12_ e27_)
 let e7_:=(AV.ptr 6 rv4.2.length [.x e9_ 7])
 let e11_:=(AV.ptr 6 rv4.2.length [.x (0+e9_) 7])
 let e16_:=(eS 1 (DV.i .i64) e0_)
 let e21_:=((rv2.1).toNat=(rv2.1).toNat)
 let e26_:=((e1_.J).length)
.reg 9 [24] [(3,hv e7_),(12,hv e7_),(24,{ obs:=[(8,e16_)] })] [.e rv4.2.length,.ev 0,.ev 1,.pf (p:=LeV e11_ e7_) (z5y),.e rv4.2.length,.e rv4.2.length,.ev 1,.pf (p:=decide e21_=true) (ye rfl),.e rv4.2.length,.ev 0,.ev 1,.pf (p:=LeV e11_ e7_) (z5y),.e rv4.2.length,.e rv4.2.length,.ev 1,.pf (p:=decide e21_=true) (ye rfl),.e e26_,.ev 2,.ev 3,.e e26_,.ev 4,.e e26_,.ev 2,.ev 3,.e e26_,.ev 4,.pf (zr (sz:=1) (e:=(DV.i .i64)) (l:=(e1_.J)) (i:=e12_) (x:=e27_) (fun _=>rfl))]<|
.guard [(e5_).toNat<(e1_.T).length,e12_<(e1_.T).length]<|
 let e2_:=((e1_.T).set e12_ a1.T)
 let e17_:=(eS 1 (DV.i .i64) e2_)
.reg 10 [12] [(3,hv e7_),(12,{ obs:=[(10,e17_)] })] [.e rv4.2.length,.ev 2,.ev 3,.pf (p:=LeV e11_ e7_) (z5y),.e rv4.2.length,.e rv4.2.length,.ev 3,.pf (p:=decide e21_=true) (ye rfl),.e ((e1_.T).length),.ev 4,.ev 0,.e ((e1_.T).length),.ev 1,.pf (zr (sz:=1) (e:=(DV.i .i64)) (l:=(e1_.T)) (i:=e12_) (x:=a1.T) (fun _=>rfl))]<|
.reg 11 [] [] []<|
.guard [e0_.length=(e1_.J).length/\e2_.length=(e1_.T).length]<|
 let e18_:=(bx (TTr.e a0))
 let e19_:=(bx (TMe.e a1))
 let e23_:=(eS 1 (DV.i .i64) (e1_.A))
 let e24_:=(eS 1 (DV.i .i64) (e1_.I))
 let e25_:=(AV.d (DV.str (e1_.C)))
.cst (A:=e0_.length=(e1_.J).length/\e2_.length=(e1_.T).length) (.ev 0) [(4,(vp 2)),(5,(vi 0))] [(4,(vp 2)),(5,(vi 0))] [e18_,e19_,(Ob.box (AV.agg [(vi rv4.1),(AV.ref 6 rv4.2.length 0 rv4.2.length)])),Ob.dead,Ob.dead,Ob.dead,(opS 7 TPo.e e9_ (AV.agg [e25_,(vi (e1_.E)),(vi (e1_.V)),(AV.ref 7 ((e1_.A).length) 0 ((e1_.A).length)),(AV.ref 8 ((e1_.J).length) 0 ((e1_.J).length)),(AV.ref 9 ((e1_.I).length) 0 ((e1_.I).length)),(AV.ref 10 ((e1_.T).length) 0 ((e1_.T).length))]) rv4.2),e23_,e16_,e24_,e17_,(Ob.box (AV.agg [(vi rv4.1),(AV.ref 6 rv4.2.length 0 rv4.2.length)]))] [e18_,e19_,(Ob.box (AV.agg [(vi rv4.1),(AV.ref 6 rv4.2.length 0 rv4.2.length)])),Ob.dead,Ob.dead,Ob.dead,(opS 7 TPo.e e9_ (AV.agg [e25_,(vi (e1_.E)),(vi (e1_.V)),(AV.ref 7 ((e1_.A).length) 0 ((e1_.A).length)),(AV.ref 8 (e0_.length) 0 (e0_.length)),(AV.ref 9 ((e1_.I).length) 0 ((e1_.I).length)),(AV.ref 10 (e2_.length) 0 (e2_.length))]) rv4.2),e23_,e16_,e24_,e17_,(Ob.box (AV.agg [(vi rv4.1),(AV.ref 6 rv4.2.length 0 rv4.2.length)]))] (fun h=>⟨rfl,by rw[h.1,h.2]⟩)<|
.guard [(e1_.A).length<2 ^ 63/\e0_.length<2 ^ 63/\(e1_.I).length<2 ^ 63/\e2_.length<2 ^ 63]<|
 let e22_:=(⟨e1_.C,e1_.E,e1_.V,e1_.A,e0_,e1_.I,e2_⟩:TPo)
 let e3_:=(rv4.2.set e9_ e22_)
 let e4_:=(AV.agg [(vi rv4.1),(AV.ref 6 rv4.2.length 0 rv4.2.length)])
 let e8_:=[e18_,e19_,(Ob.box e4_),Ob.dead,Ob.dead,Ob.dead,(eS 7 TPo.e e3_),Ob.dead,Ob.dead,Ob.dead,Ob.dead,(Ob.box e4_)]
 let e14_:=[(4,(vp 2)),(5,(vi 0))]
.sh (A:=(e1_.A).length<2 ^ 63/\e0_.length<2 ^ 63/\(e1_.I).length<2 ^ 63/\e2_.length<2 ^ 63) (.ev 0) e14_ e14_ [e18_,e19_,(Ob.box e4_),Ob.dead,Ob.dead,Ob.dead,(opS 7 TPo.e e9_ (AV.agg [e25_,(vi (e1_.E)),(vi (e1_.V)),(AV.ref 7 ((e1_.A).length) 0 ((e1_.A).length)),(AV.ref 8 (e0_.length) 0 (e0_.length)),(AV.ref 9 ((e1_.I).length) 0 ((e1_.I).length)),(AV.ref 10 (e2_.length) 0 (e2_.length))]) rv4.2),e23_,e16_,e24_,e17_,(Ob.box e4_)] e8_ (fun h=>z3e oTApiPot (P:=[e18_,e19_,(Ob.box e4_),Ob.dead,Ob.dead,Ob.dead]) (D:=[(Ob.box e4_)]) rfl (⟨e1_.C,e1_.E,e1_.V,[],[],[],[]⟩:TPo) e22_ h rfl) (z26 _)<|
 let e13_:=(AV.agg [(vi rv4.1),(AV.ref 6 (e3_.length) 0 (e3_.length))])
.cst (A:=True) (.pf trivial) e14_ e14_ e8_ [e18_,e19_,(Ob.box e13_),Ob.dead,Ob.dead,Ob.dead,(eS 7 TPo.e e3_),Ob.dead,Ob.dead,Ob.dead,Ob.dead,(Ob.box e13_)] (fun _=>⟨by simp +zetaDelta only,by simp +zetaDelta only[yb]⟩)<|
.guard [e3_.length<2 ^ 63]<|
.frz 6 (.ev 0) none [] [2,11]<|
.r ((⟨rv4.1,e3_⟩:TTr),0))))
def F_q58 (a0:TTr) (a1:TMe):=(S_q58 a0 a1).den
theorem F_q58_ok {a0:TTr} {a1:TMe}:FO (F_q58 a0 a1) 153 [(AV.d (TTr.e a0)),(AV.d (TMe.e a1))] [] (fun x=>(AV.tup [(AV.d (TTr.e x.1)),(vi x.2)])) NL:=fO (s:=S_q58 a0 a1) Tryz.func153
def S_q42 (a0:TWo) (a1:Int):SC TWo TWo :=
.reg 0 [] [(1,{ obs:=[(1,(bx (TWo.e (⟨(⟨0,[]⟩:TTr),[],[]⟩:TWo))))] })] [.pf cz3]<|
 let e2_:=(i64.wrap (a1+1))
 let e0_:=(a0.W.drop ((e2_).toNat))
 let e1_:=(a0.W.take ((a1).toNat))
.guard [(0:Int)<=a1,(a1).toNat<=a0.W.length,e1_.length * (2 * 72)<=2 ^ 48,(0:Int)<=e2_,(e2_).toNat<=a0.W.length,(e1_.length+e0_.length) * (2 * 72)<=2 ^ 48]<|
.reg 1 [5,11,13] [(4,hv (AV.d (eL TMe.e e1_))),(5,{ h:=.obj }),(10,hv (AV.d (eL TMe.e e0_))),(11,{ cast:=some (AV.ref 2 ((e1_++e0_).length) 0 ((e1_++e0_).length)),obs:=[(2,(eS 8 TMe.e (e1_++e0_)))] })] [.ev 0,.ev 1,.der (fun (h0:(a1).toNat<=a0.W.length)=>lvT TMe.e a0.W h0) 1,.pf (p:=∀ k,k<e1_.length->(AV.d (TMe.e (e1_.getD k default))).wd=8) (fun _ _=>rfl),.ev 2,.ev 3,.ev 4,.pf (lvD TMe.e a0.W ((e2_).toNat)),.ev 3,.ev 4,.pf (lvD TMe.e a0.W ((e2_).toNat)),.e (e1_.length),.e (e1_.length),.pf (p:=∀ k,k<e0_.length->(AV.d (TMe.e (e0_.getD k default))).wd=8) (fun _ _=>rfl),.ev 5,.pf (zw (o:=2) (l:=e1_) (x:=e0_)),.pf (z10 (sz:=8) (e:=TMe.e) (l:=e1_) (x:=e0_))]<|
.guard [(e1_++e0_).length<2 ^ 63]<|
.frz 2 (.ev 0) none [] [0]<|
.r (⟨a0.K,a0.O,(e1_++e0_)⟩:TWo)
def F_q42 (a0:TWo) (a1:Int):=(S_q42 a0 a1).den
theorem F_q42_ok {a0:TWo} {a1:Int}:FO (F_q42 a0 a1) 107 [(AV.d (TWo.e a0)),(vi a1)] [] (fun x=>(AV.d (TWo.e x))) NL:=fO (s:=S_q42 a0 a1) Tryz.func107
def S_q59 (a0:TWo) (a1:Int):SC (TWo×Int) (TWo×Int) :=
 let e1_:=(⟨(⟨0,[]⟩:TTr),[],[]⟩:TWo)
.reg 0 [] [(1,{ obs:=[(1,(bx (TWo.e e1_)))] })] [.pf cz3]<|
.guard [(0:Int)<=a1,(a1).toNat<a0.W.length]<|
.reg 1 [] [] [.ev 0,.ev 1]<|
.cut none [1,2,4] (fun (_:TWo)=>[]) (fun sv1=>[(0,(bx (TWo.e sv1)))]) (
 let e0_:=(a0.W.getD ((a1).toNat) default)
 let e3_:=(0,hv (AV.d (TWo.e e1_)))
.ite ((e0_.To)==0) (
.call (@F_q58_ok a0.K e0_) fun rv2 cv2=>
.reg 3 [] [(3,hc cv2 [] true),(7,{ obs:=[(3,(bx (TTr.e (⟨0,[]⟩:TTr))))] })] [.cl 0 cv2 [] 3 true,.pf z2e]<|
.ite (rv2.2 != 0) (
.reg 5 [] [e3_] [.pf cz4]<|
.r (.ret (e1_,rv2.2))) (
.r (.next (⟨rv2.1,a0.O,a0.W⟩:TWo)))) (
 let e2_:=(i64.wrap ((e0_.To)-1))
.call (@F_q41_ok (a0.O.getD ((e2_).toNat) default) (⟨8,e0_.C,e0_.E,0,0,0,0,0,e0_.A,e0_.I⟩:TOp)) fun rv3 cv3=>
.guard [(0:Int)<=e2_,(e2_).toNat<a0.O.length]<|
.reg 7 [20,21] [(16,hc cv3 [] true),(20,{ obs:=[(3,(bx (TJo.e (⟨0,[],0⟩:TJo))))] })] [.ev 0,.ev 1,.ev 0,.ev 1,.cl 2 cv3 [] 3 true,.cl 2 cv3 [] 4 true,.pf cz1]<|
.ite (rv3.2 != 0) (
.reg 9 [] [e3_] [.pf cz4]<|
.r (.ret (e1_,rv3.2))) (
.a 10 2 4 (@F_q2z_ok a0 rv3.1) fun rv4=>
.r (.next rv4)))) fun sv1=>
.a 11 2 3 (@F_q42_ok sv1 a1) fun rv5=>
.r (rv5,0)
def F_q59 (a0:TWo) (a1:Int):=(S_q59 a0 a1).den
theorem F_q59_ok {a0:TWo} {a1:Int}:FO (F_q59 a0 a1) 106 [(AV.d (TWo.e a0)),(vi a1)] [] (fun x=>(AV.tup [(AV.d (TWo.e x.1)),(vi x.2)])) NL:=fO (s:=S_q59 a0 a1) Tryz.func106
def S_q5a (a0:TWo) (a1:TSt):SC (TWo×Int) (TWo×Int) :=
 let e0_:=(⟨(⟨0,[]⟩:TTr),[],[]⟩:TWo)
.reg 0 [] [(2,{ obs:=[(2,(bx (TWo.e e0_)))] })] [.pf cz3]<|
.ite (bif (decide (a1.Ai<0)) then true else (decide (a1.Ai>=(a0.W.length:Int)))) (
.reg 2 [] [(0,hv (AV.d (TWo.e e0_)))] [.pf cz4]<|
.r (e0_,6)) (
.ite (a1.P==9) (
.a 5 3 3 (@F_q59_ok a0 a1.Ai) fun rv1=>
.r (rv1.1,rv1.2)) (
.ite (a1.P==11) (
.call (@F_q3l_ok a0 (a0.W.getD ((a1.Ai).toNat) default)) fun rv2 cv2=>
.guard [(0:Int)<=a1.Ai,(a1.Ai).toNat<a0.W.length]<|
.reg 7 [10] [(7,hc cv2 [] true)] [.ev 0,.ev 1,.cl 2 cv2 [] 3 true]<|
.r (rv2.1,rv2.2)) (
.a 8 3 3 (@F_q42_ok a0 a1.Ai) fun rv3=>
.r (rv3,0))))
def F_q5a (a0:TWo) (a1:TSt):=(S_q5a a0 a1).den
theorem F_q5a_ok {a0:TWo} {a1:TSt}:FO (F_q5a a0 a1) 64 [(AV.d (TWo.e a0)),(AV.d (TSt.e a1))] [] (fun x=>(AV.tup [(AV.d (TWo.e x.1)),(vi x.2)])) NL:=fO (s:=S_q5a a0 a1) Tryz.func64
def S_q43 (a0:TWo) (a1:TSt):SC (TWo×Int) (TWo×Int) :=
 let e0_:=(⟨(⟨0,[]⟩:TTr),[],[]⟩:TWo)
.reg 0 [] [(2,{ obs:=[(2,(bx (TWo.e e0_)))] })] [.pf cz3]<|
.a 1 1 3 (@F_q1_ok a0) fun rv1=>
 let e1_:=(0,hv (AV.d (TWo.e e0_)))
.ite (!rv1) (
.reg 2 [] [e1_] [.pf cz4]<|
.r (e0_,1)) (
.reg 3 [] [(2,{ obs:=[(3,(bx (TTr.e (⟨0,[]⟩:TTr))))] })] [.pf z2e]<|
.cut (some 0) [2,4,6] (fun (sv2:TTr×Int)=>[(7,(vi sv2.2))]) (fun sv2=>[(3,(bx (TTr.e sv2.1)))]) (
.ite (a1.P==1) (
.a 7 8 4 (@F_q1q_ok a0.K a1.C a1.E a1.S) fun rv3=>
.r (.next (rv3.1,rv3.2))) (
.ite (a1.P==2) (
.a 9 10 4 (@F_q50_ok a0.K a1.Z a1.C a1.E a1.S) fun rv4=>
.r (.next (rv4.1,rv4.2))) (
.ite (a1.P==3) (
.a 11 10 4 (@F_q51_ok a0.K a1.Z a1.C a1.E a1.S) fun rv5=>
.r (.next (rv5.1,rv5.2))) (
.ite (a1.P==4) (
.a 13 8 4 (@F_q52_ok a0.K a1.Z a1.C a1.E) fun rv6=>
.ite (rv6.2 != 0) (
.reg 15 [] [e1_] [.pf cz4]<|
.r (.ret (e0_,rv6.2))) (
.a 16 2 5 (@F_q3l_ok a0 rv6.1) fun rv7=>
.r (.ret (rv7.1,rv7.2)))) (
.cut none [2,3,4,6,17] (fun (sv8:Bool)=>[(87,(vb sv8))]) (fun _=>[]) (
.ite (a1.P==5) (
.r (.next (a1.P==5))) (
.ite (a1.P==6) (
.r (.next (a1.P==6))) (
.ite (a1.P==7) (
.r (.next (a1.P==7))) (
.r (.next (a1.P==8)))))) fun sv8=>
.ite sv8 (
.a 21 2 4 (@F_q57_ok a0 a1) fun rv9=>
.r (.ret (rv9.1,rv9.2))) (
.cut none [2,3,4,6] (fun (sv10:Bool)=>[(97,(vb sv10))]) (fun _=>[]) (
.ite (a1.P==9) (
.r (.next (a1.P==9))) (
.ite (a1.P==10) (
.r (.next (a1.P==10))) (
.r (.next (a1.P==11))))) fun sv10=>
.ite sv10 (
.a 25 2 4 (@F_q5a_ok a0 a1) fun rv11=>
.r (.ret (rv11.1,rv11.2))) (
.r (.next (a0.K,1))))))))) fun sv2=>
.ite (sv2.2 != 0) (
.reg 27 [] [e1_] [.pf cz4]<|
.r (e0_,sv2.2)) (
.r ((⟨sv2.1,a0.O,a0.W⟩:TWo),0)))
def F_q43 (a0:TWo) (a1:TSt):=(S_q43 a0 a1).den
theorem F_q43_ok {a0:TWo} {a1:TSt}:FO (F_q43 a0 a1) 34 [(AV.d (TWo.e a0)),(AV.d (TSt.e a1))] [] (fun x=>(AV.tup [(AV.d (TWo.e x.1)),(vi x.2)])) NL:=fO (s:=S_q43 a0 a1) Tryz.func34
abbrev R_qs:=(List TSt)×TTape
def S_qs_b1 (a1:Int) (a2:Int) (sv1:TTape×TWo×(List TSt)×Int×Int):SC R_qs (Step (TTape×TWo×(List TSt)×Int×Int) R_qs) :=
.ite (decide (sv1.2.2.2.2<a2)) (
.call (@F_q5_ok 9 sv1.1) fun rv2 cv2=>
 let e1_:=([0,1,rv2.1]:List Int)
.call (@F_qu_ok e1_ rv2.2) fun rv3 cv3=>
.reg 7 [] [(3,hc cv2 [0] false),(4,hv (vl e1_)),(5,hc cv3 [0] false)] [.cl 1 cv2 [0] 3 false,.pf (ze (DV.i .i64) e1_),.cl 0 cv3 [0] 3 false]<|
 let e2_:=(i64.wrap (sv1.2.2.2.1+rv3.1))
.call (@F_q2y_ok sv1.2.1 a1 sv1.2.2.2.2 e2_ rv3.2) fun rv4 cv4=>
.k 8 5 cv4 [0] 3 false<|
.call (@F_q43_ok sv1.2.1 rv4.1) fun rv5 cv5=>
.reg 9 [] [(2,hc cv5 [] true),(6,{ obs:=[(4,(bx (TWo.e (⟨(⟨0,[]⟩:TTr),[],[]⟩:TWo))))] })] [.cl 0 cv5 [] 4 true,.pf cz3]<|
.cut none [0,1,2,7,9,10,11,12] (fun (_:TWo)=>[]) (fun sv6=>[(1,(bx (TWo.e sv6)))]) (
.ite (rv5.2==0) (
.r (.next rv5.1)) (
.r (.next sv1.2.1))) fun sv6=>
.guard [(sv1.2.2.1.length+1) * (2 * 144)<=2 ^ 48]<|
 let e0_:=([rv4.1]:List TSt)
 let e3_:=(sv1.2.2.1++e0_)
.reg 12 [] [(2,hv (AV.d (eL TSt.e e0_))),(3,{ h:=.obj,cast:=some (AV.ref 2 (e3_.length) 0 (e3_.length)),obs:=[(2,(eS 16 TSt.e e3_))] })] [.pf (ze TSt.e e0_),.e sv1.2.2.1.length,.e sv1.2.2.1.length,.pf (p:=∀ k,k<1->(AV.d (TSt.e (e0_.getD k default))).wd=16) (fun _ _=>rfl),.ev 0,.pf (zw (o:=2) (l:=sv1.2.2.1) (x:=e0_)),.pf (z10 (sz:=16) (e:=TSt.e) (l:=sv1.2.2.1) (x:=e0_))]<|
.r (.cont (rv4.2,sv6,e3_,e2_,(i64.wrap (sv1.2.2.2.2+1))))) (
.r (.brk (sv1.1,sv1.2.1,sv1.2.2.1,sv1.2.2.2.1,sv1.2.2.2.2)))
def S_qs (a1:Int) (a2:Int) (p0:TTape):SC R_qs R_qs :=
.call (@F_q1g_ok a1) fun rv7 cv7=>
.reg 1 [] [(1,hc cv7 [] true),(5,{ obs:=[(1,(bx (TWo.e (⟨(⟨0,[]⟩:TTr),[],[]⟩:TWo))))] })] [.cl 0 cv7 [] 1 true,.pf cz3]<|
.reg 4 [] [] []<|
.bor 16 (fun j=>AV.d (TSt.e (([]:List TSt).getD j default))) [9]<|
.iter [0,1,2,7] (fun (sv1:TTape×TWo×(List TSt)×Int×Int)=>[(9,(AV.ref 2 sv1.2.2.1.length 0 sv1.2.2.1.length)),(10,(vi sv1.2.2.2.1)),(11,(vi sv1.2.2.2.2))]) (fun sv1=>[(0,(bx (TTape.e sv1.1))),(1,(bx (TWo.e sv1.2.1))),(2,(eS 16 TSt.e sv1.2.2.1))]) (p0,rv7.1,([]:List TSt),4320,0) (S_qs_b1 a1 a2) (fun sv1 =>
.guard [sv1.2.2.1.length<2 ^ 63]<|
.reg 13 [] [] []<|
.frz 2 (.ev 0) none [6] []<|
.r (sv1.2.2.1,sv1.1)) id
def F_qs (a1:Int) (a2:Int) (p0:TTape):=(S_qs a1 a2 p0).den
theorem F_qs_ok {a1:Int} {a2:Int} {p0:TTape}:FO (F_qs a1 a2 p0) 11 [(vp 0),(vi a1),(vi a2)] [(bx (TTape.e p0))] (fun x=>(AV.d (eL TSt.e x.1))) (fun x=>[(bx (TTape.e x.2))]):=fO (s:=S_qs a1 a2 p0) Tryz.func11
def S_qf (a0:Int) (a1:Int) (a2:Int):SC Bool Bool :=
.r (bif (decide (a0>=a1)) then (decide (a0<=a2)) else false)
def F_qf (a0:Int) (a1:Int) (a2:Int):=(S_qf a0 a1 a2).den
theorem F_qf_ok {a0:Int} {a1:Int} {a2:Int}:FO (F_qf a0 a1 a2) 108 [(vi a0),(vi a1),(vi a2)] [] vb NL:=fO (s:=S_qf a0 a1 a2) Tryz.func108
def S_q2a (a0:List UInt8) (a1:Int):SC Bool Bool :=
.call (@F_q74_ok a0) fun rv1 cv1=>
 let e0_:=(decide ((rv1.length:Int)>0))
.calld [e0_=true] default (@F_qf_ok a1 0 99) fun rv2 cv2 =>
.reg 1 [] [(1,hc cv1 [] true),(6,hc cv2 [] true)] [.cl 2 cv1 [] 0 true,.clg 0 [e0_=true] cv2 [] 0 true]<|
.r (bif e0_ then rv2 else false)
def F_q2a (a0:List UInt8) (a1:Int):=(S_q2a a0 a1).den
theorem F_q2a_ok {a0:List UInt8} {a1:Int}:FO (F_q2a a0 a1) 154 [(AV.d (DV.str a0)),(vi a1)] [] vb NL:=fO (s:=S_q2a a0 a1) Tryz.func154
def S_q1b (a0:Int):SC Bool Bool :=
.a 1 1 0 (@F_qf_ok a0 0 1000000000000000) fun rv1=>
.r rv1
def F_q1b (a0:Int):=(S_q1b a0).den
theorem F_q1b_ok {a0:Int}:FO (F_q1b a0) 156 [(vi a0)] [] vb NL:=fO (s:=S_q1b a0) Tryz.func156
def S_q6f (a0:Int):SC Bool Bool :=
.a 1 1 0 (@F_q1b_ok a0) fun rv1=>
.r (!rv1)
def F_q6f (a0:Int):=(S_q6f a0).den
theorem F_q6f_ok {a0:Int}:FO (F_q6f a0) 155 [(vi a0)] [] vb NL:=fO (s:=S_q6f a0) Tryz.func155
def S_q2l_b1 (a0:(List Int)) (iv1:Nat) (_:Unit):SC Int (Step (Unit) Int) :=
.call (@F_q6f_ok (a0.getD iv1 default)) fun rv2 cv2=>
.reg 4 [] [(5,hc cv2 [] true)] [.w iv1,.ev 1,.cl 0 cv2 [] 0 true]<|
.ite rv2 (
.r (.ret (iv1:Int))) (
.r (.cont ()))
def S_q2l (a0:(List Int)):SC Int Int :=
.range (a0.length:Int) a0.length rfl (.slot 0) 8 [0,1,7] (fun (_:Unit)=>[]) (fun _=>[]) () (S_q2l_b1 a0) (fun _ => 
.r (-1)) id
def F_q2l (a0:(List Int)):=(S_q2l a0).den
theorem F_q2l_ok {a0:(List Int)}:FO (F_q2l a0) 196 [(vl a0),(AV.fn 155 [])] [] vi NL:=fO (s:=S_q2l a0) Tryz.func196
def S_q5b (a0:(List Int)):SC Bool Bool :=
.a 1 2 0 (@F_q2l_ok a0) fun rv1=>
.r (decide (rv1>=0))
def F_q5b (a0:(List Int)):=(S_q5b a0).den
theorem F_q5b_ok {a0:(List Int)}:FO (F_q5b a0) 157 [(vl a0),(AV.fn 155 [])] [] vb NL:=fO (s:=S_q5b a0) Tryz.func157
def S_qx_b1 (a0:(List Int)) (iv1:Nat) (sv2:Int):SC Int (Step (Int) Int) :=
.reg 4 [] [] [.w iv1,.ev 0]<|
.c (i64.wrap (sv2+(a0.getD iv1 default)))
def S_qx (a0:(List Int)):SC Int Int :=
.range (a0.length:Int) a0.length rfl (.slot 6) 8 [6,7] (fun (sv2:Int)=>[(3,(vi sv2))]) (fun _=>[]) 0 (S_qx_b1 a0) (fun sv2 => 
.r sv2) id
def F_qx (a0:(List Int)):=(S_qx a0).den
theorem F_qx_ok {a0:(List Int)}:FO (F_qx a0) 129 [(vl a0)] [] vi NL:=fO (s:=S_qx a0) Tryz.func129
def S_qg_b1 (a0:TPo) (a1:Int) (iv1:Nat) (_:Unit):SC Bool (Step (Unit) Bool) :=
.reg 6 [] [] [.w iv1,.ev 0]<|
 let e0_:=(([a0.A,a0.J,a0.I,a0.T]:List (List Int)).getD iv1 default)
 let e1_:=((e0_.length:Int) != a1)
.calld [e1_=false] default (@F_q5b_ok e0_) fun rv2 cv2 =>
.reg 7 [] [(7,hc cv2 [] true)] [.clg 0 [e1_=false] cv2 [] 1 true]<|
.ite (bif e1_ then true else rv2) (
.r (.ret false)) (
.r (.cont ()))
def S_qg_b2 (a0:TPo) (iv3:Nat) (_:Unit):SC Bool (Step (Unit) Bool) :=
.reg 12 [] [] [.w iv3,.ev 0]<|
 let e1_:=(a0.A.getD iv3 default)
 let e0_:=(decide ((a0.J.getD iv3 default)>e1_))
.guard [iv3<a0.J.length,AllP [e0_=false]->(iv3<a0.I.length)]<|
.reg 13 [] [] [.w iv3,.ev 0,.pf (p:=AllP [e0_=false]->((0:Int)<=(iv3:Int))) (fun _=>(y1v _)),.ev 1]<|
.ite (bif e0_ then true else (decide ((a0.I.getD iv3 default)>e1_))) (
.r (.ret false)) (
.r (.cont ()))
def S_qg (a0:TPo) (a1:Int):SC Bool Bool :=
.call (@F_q2a_ok a0.C a0.E) fun rv4 cv4=>
.calld [(!rv4)=false] default (@F_qf_ok a0.V (-1000000000000000) 1000000000000000) fun rv5 cv5 =>
.reg 1 [] [(4,hc cv4 [] true),(9,hc cv5 [] true)] [.cl 2 cv4 [] 1 true,.clg 0 [(!rv4)=false] cv5 [] 1 true]<|
.ite (bif (!rv4) then true else (!rv5)) (
.r false) (
 let e0_:=([a0.A,a0.J,a0.I,a0.T]:List (List Int))
.reg 4 [] [(8,hv (AV.d (eL (eL (DV.i .i64)) e0_)))] [.pf (ze (eL (DV.i .i64)) e0_)]<|
.range 4 4 rfl (.why (.pf (p:=4<2 ^ 63) dk)) 32 [1,2,5,30,31] (fun (_:Unit)=>[]) (fun _=>[]) () (S_qg_b1 a0 a1) (fun _ => 
.range (a0.A.length:Int) a0.A.length rfl (.slot 47) 49 [2,47,48] (fun (_:Unit)=>[]) (fun _=>[]) () (S_qg_b2 a0) (fun _ => 
.a 16 2 1 (@F_qx_ok a0.A) fun rv6=>
.r (decide (rv6<=1000000000000000))) id) id)
def F_qg (a0:TPo) (a1:Int):=(S_qg a0 a1).den
theorem F_qg_ok {a0:TPo} {a1:Int}:FO (F_qg a0 a1) 109 [(AV.d (TPo.e a0)),(vi a1)] [] vb NL:=fO (s:=S_qg a0 a1) Tryz.func109
def S_q5c (a0:List UInt8):SC Bool Bool :=
.r (!(a0==a0))
def F_q5c (a0:List UInt8):=(S_q5c a0).den
theorem F_q5c_ok {a0:List UInt8}:FO (F_q5c a0) 228 [(AV.d (DV.str a0))] [] vb NL:=fO (s:=S_q5c a0) Tryz.func228
def S_q6g (a0:List UInt8) (a1:List UInt8):SC Int Int :=
.a 1 1 0 (@F_q5c_ok a0) fun rv1=>
.a 2 1 0 (@F_q5c_ok a1) fun rv2=>
.ite rv1 (
.ite rv2 (
.r 0) (
.r (-1))) (
.ite rv2 (
.r 1) (
.ite (Op.bytesLess a0 a1) (
.r (-1)) (
.ite (!(Op.bytesLess a0 a1||a0==a1)) (
.r 1) (
.r 0))))
def F_q6g (a0:List UInt8) (a1:List UInt8):=(S_q6g a0 a1).den
theorem F_q6g_ok {a0:List UInt8} {a1:List UInt8}:FO (F_q6g a0 a1) 197 [(AV.d (DV.str a0)),(AV.d (DV.str a1))] [] vi NL:=fO (s:=S_q6g a0 a1) Tryz.func197
def S_q5d (a0:Int):SC Bool Bool :=
.r (a0 != a0)
def F_q5d (a0:Int):=(S_q5d a0).den
theorem F_q5d_ok {a0:Int}:FO (F_q5d a0) 199 [(vi a0)] [] vb NL:=fO (s:=S_q5d a0) Tryz.func199
def S_q3m (a0:Int) (a1:Int):SC Int Int :=
.a 1 1 0 (@F_q5d_ok a0) fun rv1=>
.a 2 1 0 (@F_q5d_ok a1) fun rv2=>
.ite rv1 (
.ite rv2 (
.r 0) (
.r (-1))) (
.ite rv2 (
.r 1) (
.ite (decide (a0<a1)) (
.r (-1)) (
.ite (decide (a0>a1)) (
.r 1) (
.r 0))))
def F_q3m (a0:Int) (a1:Int):=(S_q3m a0 a1).den
theorem F_q3m_ok {a0:Int} {a1:Int}:FO (F_q3m a0 a1) 160 [(vi a0),(vi a1)] [] vi NL:=fO (s:=S_q3m a0 a1) Tryz.func160
end
end Go.Proofs.YtdmddkbngmhepaaGreatDoor
/- What the functions compute,and that their calls return it. No condition. -/
namespace Go.Proofs.YtdmddkbngmhepaaGreatDoor
open Go Go.TA
open Go.IntKind (i64)
noncomputable section
set_option maxRecDepth 100000
def S_q2b_b1 (a0:(List Int)) (a1:(List Int)) (iv1:Nat) (_:Unit):SC Int (Step (Unit) Int) :=
.reg 3 [] [] [.w iv1,.ev 0]<|
.ite (decide ((iv1:Int)>=(a1.length:Int))) (
.r (.ret 1)) (
.guard [iv1<a1.length]<|
.reg 6 [] [] [.w iv1,.ev 0]<|
.a 7 2 0 (@F_q3m_ok (a0.getD iv1 default) (a1.getD iv1 default)) fun rv2=>
.ite (rv2 != 0) (
.r (.ret rv2)) (
.r (.cont ())))
def S_q2b (a0:(List Int)) (a1:(List Int)):SC Int Int :=
.range (a0.length:Int) a0.length rfl (.slot 0) 11 [0,1,9,10] (fun (_:Unit)=>[]) (fun _=>[]) () (S_q2b_b1 a0 a1) (fun _ => 
.ite (decide ((a0.length:Int)<(a1.length:Int))) (
.r (-1)) (
.r 0)) id
def F_q2b (a0:(List Int)) (a1:(List Int)):=(S_q2b a0 a1).den
theorem F_q2b_ok {a0:(List Int)} {a1:(List Int)}:FO (F_q2b a0 a1) 198 [(vl a0),(vl a1)] [] vi NL:=fO (s:=S_q2b a0 a1) Tryz.func198
def S_q44 (a0:List UInt8) (a1:List UInt8):SC Int Int :=
.call (@F_q74_ok a0) fun rv1 cv1=>
.call (@F_q74_ok a1) fun rv2 cv2=>
.reg 1 [] [(1,hc cv1 [] true),(3,hc cv2 [] true)] [.cl 1 cv1 [] 0 true,.cl 0 cv2 [] 0 true]<|
.ite (bif ((rv1.length:Int)==0) then ((rv2.length:Int)==0) else false) (
.a 3 2 0 (@F_q6g_ok a0 a1) fun rv3=>
.r rv3) (
.a 4 2 0 (@F_q2b_ok rv1 rv2) fun rv4=>
.r rv4)
def F_q44 (a0:List UInt8) (a1:List UInt8):=(S_q44 a0 a1).den
theorem F_q44_ok {a0:List UInt8} {a1:List UInt8}:FO (F_q44 a0 a1) 159 [(AV.d (DV.str a0)),(AV.d (DV.str a1))] [] vi NL:=fO (s:=S_q44 a0 a1) Tryz.func159
def S_q1c_b1 (a0:(List Int)) (iv1:Nat) (_:Unit):SC Int (Step (Unit) Int) :=
.reg 4 [] [] [.w iv1,.ev 0]<|
.ite ((a0.getD iv1 default) != 0) (
.r (.ret (a0.getD iv1 default))) (
.r (.cont ()))
def S_q1c (a0:(List Int)):SC Int Int :=
.range (a0.length:Int) a0.length rfl (.slot 6) 8 [3,6,7] (fun (_:Unit)=>[]) (fun _=>[]) () (S_q1c_b1 a0) (fun _ => 
.r 0) id
def F_q1c (a0:(List Int)):=(S_q1c a0).den
theorem F_q1c_ok {a0:(List Int)}:FO (F_q1c a0) 158 [(vl a0)] [] vi NL:=fO (s:=S_q1c a0) Tryz.func158
def S_q30 (a0:TPo) (a1:TPo):SC Int Int :=
.call (@F_q44_ok a0.C a1.C) fun rv1 cv1=>
.call (@F_q3m_ok a0.E a1.E) fun rv2 cv2=>
 let e0_:=([rv1,rv2]:List Int)
.call (@F_q1c_ok e0_) fun rv3 cv3=>
.reg 1 [] [(4,hc cv1 [] true),(9,hc cv2 [] true),(10,hv (vl e0_)),(11,hc cv3 [] true)] [.cl 2 cv1 [] 2 true,.cl 1 cv2 [] 2 true,.pf (ze (DV.i .i64) e0_),.cl 0 cv3 [] 2 true]<|
.r rv3
def F_q30 (a0:TPo) (a1:TPo):=(S_q30 a0 a1).den
theorem F_q30_ok {a0:TPo} {a1:TPo}:FO (F_q30 a0 a1) 110 [(AV.d (TPo.e a0)),(AV.d (TPo.e a1))] [] vi NL:=fO (s:=S_q30 a0 a1) Tryz.func110
def S_qn_b1 (a0:TTr) (iv1:Nat) (_:Unit):SC Bool (Step (Unit) Bool) :=
.reg 5 [] [(3,{ obs:=[(1,(bx (TPo.e (⟨[],0,0,[],[],[],[]⟩:TPo))))] })] [.w iv1,.ev 0,.pf cz6]<|
 let e2_:=(a0.D.getD iv1 default)
.call (@F_qg_ok e2_ a0.M) fun rv2 cv2=>
 let e0_:=(decide ((iv1:Int)>0))
 let e1_:=(i64.wrap ((iv1:Int)-1))
.calld [e0_=true,(!rv2)=false] default (@F_q30_ok (a0.D.getD ((e1_).toNat) default) e2_) fun rv3 cv3 =>
.guard [AllP [e0_=true,(!rv2)=false]->((0:Int)<=e1_),AllP [e0_=true,(!rv2)=false]->((e1_).toNat<a0.D.length)]<|
.reg 6 [] [(3,hc cv2 [] true),(16,hc cv3 [] true)] [.cl 4 cv2 [] 2 true,.ev 0,.ev 1,.clg 2 [e0_=true,(!rv2)=false] cv3 [] 2 true]<|
.ite (bif (!rv2) then true else (bif e0_ then (decide (rv3>=0)) else false)) (
.r (.ret false)) (
.r (.cont ()))
def S_qn (a0:TTr):SC Bool Bool :=
.a 1 2 1 (@F_qf_ok a0.M 1 6) fun rv4=>
.ite (bif (!rv4) then true else (decide ((a0.D.length:Int)>60))) (
.r false) (
.range (a0.D.length:Int) a0.D.length rfl (.slot 16) 18 [1,16,17] (fun (_:Unit)=>[]) (fun _=>[]) () (S_qn_b1 a0) (fun _ => 
.r true) id)
def F_qn (a0:TTr):=(S_qn a0).den
theorem F_qn_ok {a0:TTr}:FO (F_qn a0) 65 [(AV.d (TTr.e a0))] [] vb NL:=fO (s:=S_qn a0) Tryz.func65
def S_q6h (a0:TJo):SC Bool Bool :=
.r (bif (bif (bif (bif (decide (a0.Z>=1)) then (decide (a0.Z<=6)) else false) then (decide ((a0.Ad.length:Int)<=400)) else false) then (decide (a0.Ag>=0)) else false) then (decide (a0.Ag<=(a0.Ad.length:Int))) else false)
def F_q6h (a0:TJo):=(S_q6h a0).den
theorem F_q6h_ok {a0:TJo}:FO (F_q6h a0) 88 [(AV.d (TJo.e a0))] [] vb NL:=fO (s:=S_q6h a0) Tryz.func88
def S_q45 (a0:Int):SC (List UInt8) (List UInt8) :=
.ite (a0==1) (
.r ([114,101,115,101,114,118,101,32,67,79,68,69,32,89,69,65,82,32,68,65,89,32,65,77,79,85,78,84])) (
.ite (a0==2) (
.r ([99,111,109,109,105,116,32,79,70,32,68,65,89,32,65,77,79,85,78,84,32,80,65,89,69,69,32,68,85,69])) (
.ite (a0==3) (
.r ([118,101,114,105,102,121,32,79,70,32,68,65,89,32,65,77,79,85,78,84])) (
.ite (a0==4) (
.r ([111,114,100,101,114,32,79,70,32,68,65,89])) (
.ite (a0==5) (
.r ([114,101,108,101,97,115,101,32,79,70,32,65,77,79,85,78,84])) (
.ite (a0==6) (
.r ([100,114,111,112,32,79,70,32,65,77,79,85,78,84])) (
.ite (a0==7) (
.r ([114,101,116,117,114,110,32,67,79,68,69,32,89,69,65,82,32,65,77,79,85,78,84])) (
.ite (a0==8) (
.r ([104,101,97,114,32,67,79,68,69,32,89,69,65,82,32,71,82,65,78,84,69,68,32,65,83,75,69,68,66,65,67,75])) (
.ite (a0==9) (
.r ([114,101,116,117,114,110,101,100,32,79,70])) (
.r ([]))))))))))
def F_q45 (a0:Int):=(S_q45 a0).den
theorem F_q45_ok {a0:Int}:FO (F_q45 a0) 209 [(vi a0)] [] (fun x=>(AV.d (DV.str x))) NL:=fO (s:=S_q45 a0) Tryz.func209
def S_q6i (a1:List UInt8) (_:TOp):SC Unit Unit :=
.guard [(a1==([89,69,65,82]))=true]<|
.br true (.ev 0)<|
.r ()
def F_q6i (a1:List UInt8) (p0:TOp):=(S_q6i a1 p0).den
theorem F_q6i_ok {a1:List UInt8} {p0:TOp}:FO (F_q6i a1 p0) 210 [(vp 0),(AV.d (DV.str a1))] [(bx (TOp.e p0))] (fun _=>(AV.ptr 0 1 [.f 2 2])) (fun _=>[(bx (TOp.e p0))]):=fO (s:=S_q6i a1 p0) Tryz.func210
def S_q1r (a0:List UInt8):SC Int Int :=
.ite (a0==([89,69,65,82])) (
.r 99) (
.r 1000000000000000)
def F_q1r (a0:List UInt8):=(S_q1r a0).den
theorem F_q1r_ok {a0:List UInt8}:FO (F_q1r a0) 211 [(AV.d (DV.str a0))] [] vi NL:=fO (s:=S_q1r a0) Tryz.func211
def S_q6j (a1:List UInt8) (_:TOp):SC Unit Unit :=
.guard [(a1==([89,69,65,82]))=false]<|
.br false (.ev 0)<|
.guard [(a1==([68,65,89]))=true]<|
.br true (.ev 0)<|
.r ()
def F_q6j (a1:List UInt8) (p0:TOp):=(S_q6j a1 p0).den
theorem F_q6j_ok {a1:List UInt8} {p0:TOp}:FO (F_q6j a1 p0) 210 [(vp 0),(AV.d (DV.str a1))] [(bx (TOp.e p0))] (fun _=>(AV.ptr 0 1 [.f 3 3])) (fun _=>[(bx (TOp.e p0))]):=fO (s:=S_q6j a1 p0) Tryz.func210
def S_q6k (a1:List UInt8) (_:TOp):SC Unit Unit :=
.guard [(a1==([89,69,65,82]))=false]<|
.br false (.ev 0)<|
.guard [(a1==([68,65,89]))=false]<|
.br false (.ev 0)<|
.guard [(a1==([65,77,79,85,78,84]))=true]<|
.br true (.ev 0)<|
.r ()
def F_q6k (a1:List UInt8) (p0:TOp):=(S_q6k a1 p0).den
theorem F_q6k_ok {a1:List UInt8} {p0:TOp}:FO (F_q6k a1 p0) 210 [(vp 0),(AV.d (DV.str a1))] [(bx (TOp.e p0))] (fun _=>(AV.ptr 0 1 [.f 5 5])) (fun _=>[(bx (TOp.e p0))]):=fO (s:=S_q6k a1 p0) Tryz.func210
def S_q6l (a1:List UInt8) (_:TOp):SC Unit Unit :=
.guard [(a1==([89,69,65,82]))=false]<|
.br false (.ev 0)<|
.guard [(a1==([68,65,89]))=false]<|
.br false (.ev 0)<|
.guard [(a1==([65,77,79,85,78,84]))=false]<|
.br false (.ev 0)<|
.guard [(a1==([79,70]))=true]<|
.br true (.ev 0)<|
.r ()
def F_q6l (a1:List UInt8) (p0:TOp):=(S_q6l a1 p0).den
theorem F_q6l_ok {a1:List UInt8} {p0:TOp}:FO (F_q6l a1 p0) 210 [(vp 0),(AV.d (DV.str a1))] [(bx (TOp.e p0))] (fun _=>(AV.ptr 0 1 [.f 4 4])) (fun _=>[(bx (TOp.e p0))]):=fO (s:=S_q6l a1 p0) Tryz.func210
def S_q6m (a1:List UInt8) (_:TOp):SC Unit Unit :=
.guard [(a1==([89,69,65,82]))=false]<|
.br false (.ev 0)<|
.guard [(a1==([68,65,89]))=false]<|
.br false (.ev 0)<|
.guard [(a1==([65,77,79,85,78,84]))=false]<|
.br false (.ev 0)<|
.guard [(a1==([79,70]))=false]<|
.br false (.ev 0)<|
.guard [(a1==([80,65,89,69,69]))=true]<|
.br true (.ev 0)<|
.r ()
def F_q6m (a1:List UInt8) (p0:TOp):=(S_q6m a1 p0).den
theorem F_q6m_ok {a1:List UInt8} {p0:TOp}:FO (F_q6m a1 p0) 210 [(vp 0),(AV.d (DV.str a1))] [(bx (TOp.e p0))] (fun _=>(AV.ptr 0 1 [.f 6 6])) (fun _=>[(bx (TOp.e p0))]):=fO (s:=S_q6m a1 p0) Tryz.func210
def S_q6n (a1:List UInt8) (_:TOp):SC Unit Unit :=
.guard [(a1==([89,69,65,82]))=false]<|
.br false (.ev 0)<|
.guard [(a1==([68,65,89]))=false]<|
.br false (.ev 0)<|
.guard [(a1==([65,77,79,85,78,84]))=false]<|
.br false (.ev 0)<|
.guard [(a1==([79,70]))=false]<|
.br false (.ev 0)<|
.guard [(a1==([80,65,89,69,69]))=false]<|
.br false (.ev 0)<|
.guard [(a1==([68,85,69]))=true]<|
.br true (.ev 0)<|
.r ()
def F_q6n (a1:List UInt8) (p0:TOp):=(S_q6n a1 p0).den
theorem F_q6n_ok {a1:List UInt8} {p0:TOp}:FO (F_q6n a1 p0) 210 [(vp 0),(AV.d (DV.str a1))] [(bx (TOp.e p0))] (fun _=>(AV.ptr 0 1 [.f 7 7])) (fun _=>[(bx (TOp.e p0))]):=fO (s:=S_q6n a1 p0) Tryz.func210
def S_q6o (a1:List UInt8) (_:TOp):SC Unit Unit :=
.guard [(a1==([89,69,65,82]))=false]<|
.br false (.ev 0)<|
.guard [(a1==([68,65,89]))=false]<|
.br false (.ev 0)<|
.guard [(a1==([65,77,79,85,78,84]))=false]<|
.br false (.ev 0)<|
.guard [(a1==([79,70]))=false]<|
.br false (.ev 0)<|
.guard [(a1==([80,65,89,69,69]))=false]<|
.br false (.ev 0)<|
.guard [(a1==([68,85,69]))=false]<|
.br false (.ev 0)<|
.guard [(a1==([71,82,65,78,84,69,68]))=true]<|
.br true (.ev 0)<|
.r ()
def F_q6o (a1:List UInt8) (p0:TOp):=(S_q6o a1 p0).den
theorem F_q6o_ok {a1:List UInt8} {p0:TOp}:FO (F_q6o a1 p0) 210 [(vp 0),(AV.d (DV.str a1))] [(bx (TOp.e p0))] (fun _=>(AV.ptr 0 1 [.f 8 8])) (fun _=>[(bx (TOp.e p0))]):=fO (s:=S_q6o a1 p0) Tryz.func210
def S_q6p (a1:List UInt8) (_:TOp):SC Unit Unit :=
.guard [(a1==([89,69,65,82]))=false]<|
.br false (.ev 0)<|
.guard [(a1==([68,65,89]))=false]<|
.br false (.ev 0)<|
.guard [(a1==([65,77,79,85,78,84]))=false]<|
.br false (.ev 0)<|
.guard [(a1==([79,70]))=false]<|
.br false (.ev 0)<|
.guard [(a1==([80,65,89,69,69]))=false]<|
.br false (.ev 0)<|
.guard [(a1==([68,85,69]))=false]<|
.br false (.ev 0)<|
.guard [(a1==([71,82,65,78,84,69,68]))=false]<|
.br false (.ev 0)<|
.guard [(a1==([65,83,75,69,68,66,65,67,75]))=true]<|
.br true (.ev 0)<|
.r ()
def F_q6p (a1:List UInt8) (p0:TOp):=(S_q6p a1 p0).den
theorem F_q6p_ok {a1:List UInt8} {p0:TOp}:FO (F_q6p a1 p0) 210 [(vp 0),(AV.d (DV.str a1))] [(bx (TOp.e p0))] (fun _=>(AV.ptr 0 1 [.f 9 9])) (fun _=>[(bx (TOp.e p0))]):=fO (s:=S_q6p a1 p0) Tryz.func210
abbrev R_q6:=List UInt8
def S_q6_b1 (a0:TOp) (rv1:(List (List UInt8))) (iv2:Nat) (sv3:(List (List UInt8))×TOp):SC R_q6 (Step ((List (List UInt8))×TOp) R_q6) :=
.guard [((0+1)+iv2)<sv3.1.length]<|
.reg 8 [] [] [.e sv3.1.length,.w iv2,.ev 1,.e sv3.1.length,.ev 0]<|
 let e3_:=(i64.wrap ((iv2:Int)+1))
 let e0_:=(0+(e3_).toNat)
 let e24_:=(rv1.length-1)
 let e4_:=(19,(vi ((e24_:Nat):Int)))
 let e14_:=(20,(vi (iv2:Int)))
 let e1_:=[(1,(vp 0)),(3,(AV.ref 1 sv3.1.length 0 sv3.1.length)),(4,(vp 2)),(18,(AV.ref 1 sv3.1.length (0+1) e24_)),e4_,e14_]
 let e2_:=(sv3.1.getD ((0+1)+iv2) default)
 let e15_:=(DV.i .i64 sv3.2.P)
 let e16_:=(DV.i .i64 sv3.2.Aa)
 let e17_:=(DV.i .i64 sv3.2.Of)
 let e18_:=(DV.i .i64 sv3.2.Ah)
 let e19_:=(DV.i .i64 sv3.2.Aj)
 let e20_:=(DV.i .i64 sv3.2.Ae)
 let e21_:=(DV.i .i64 sv3.2.E)
 let e22_:=(DV.i .i64 sv3.2.S)
 let e23_:=(DV.i .i64 sv3.2.A)
 let e25_:=(bx (TOp.e a0))
.ite (e2_==([67,79,68,69])) (
.a 10 2 3 (@F_q74_ok a0.C) fun rv4=>
.ite ((rv4.length:Int)==0) (
.r (.ret ([]))) (
.guard [(0:Int)<=e3_,(e3_).toNat<sv3.1.length,e0_<sv3.1.length]<|
 let e27_:=(sv3.1.set e0_ a0.C)
.reg 12 [] [(6,{ obs:=[(1,(eS 1 DV.str e27_))] })] [.e sv3.1.length,.ev 0,.ev 1,.e sv3.1.length,.ev 2,.pf (zr (sz:=1) (e:=DV.str) (l:=sv3.1) (i:=e0_) (x:=a0.C) (fun _=>rfl))]<|
 let e5_:=[e25_,(eS 1 DV.str e27_),(bx (DV.agg [e15_,(DV.str ([])),e21_,e16_,e17_,e22_,e18_,e19_,e23_,e20_]))]
.cst (A:=True) (.pf trivial) e1_ [(1,(vp 0)),(3,(AV.ref 1 (e27_.length) 0 (e27_.length))),(4,(vp 2)),(18,(AV.ref 1 (e27_.length) (0+1) e24_)),e4_,e14_] e5_ e5_ (fun _=>⟨by simp +zetaDelta only[yb],by rfl⟩)<|
.r (.cont (e27_,(⟨sv3.2.P,[],sv3.2.E,sv3.2.Aa,sv3.2.Of,sv3.2.S,sv3.2.Ah,sv3.2.Aj,sv3.2.A,sv3.2.Ae⟩:TOp))))) (
 let e26_:=(DV.str sv3.2.C)
 let e36_:=(DV.i .i64 0)
.split (e2_==([89,69,65,82])) (
.call (@F_q6i_ok e2_ a0) fun rv5 cv5=>
.k 13 1 cv5 [0] 3 true<|
 let e42_:=(decide (a0.E<0))
.calld [e42_=false] default (@F_q1r_ok e2_) fun rv6 cv6 =>
.reg 14 [] [(5,hc cv6 [] true)] [.clg 0 [e42_=false] cv6 [] 3 true]<|
.ite (bif e42_ then true else (decide (a0.E>rv6))) (
.r (.ret ([]))) (
.call (@F_q6i_ok e2_ sv3.2) fun rv7 cv7=>
.call (@F_q70_ok a0.E) fun rv8 cv8=>
.guard [(0:Int)<=e3_,(e3_).toNat<sv3.1.length,e0_<sv3.1.length]<|
 let e35_:=(sv3.1.set e0_ rv8)
.reg 16 [] [(4,hc cv7 [2] true),(6,hc cv8 [] true),(8,{ obs:=[(1,(eS 1 DV.str e35_))] })] [.cl 4 cv7 [2] 3 true,.cl 3 cv8 [] 3 true,.e sv3.1.length,.ev 0,.ev 1,.e sv3.1.length,.ev 2,.pf (zr (sz:=1) (e:=DV.str) (l:=sv3.1) (i:=e0_) (x:=rv8) (fun _=>rfl))]<|
 let e8_:=[e25_,(eS 1 DV.str e35_),(bx (DV.agg [e15_,e26_,e36_,e16_,e17_,e22_,e18_,e19_,e23_,e20_]))]
.cst (A:=True) (.pf trivial) e1_ [(1,(vp 0)),(3,(AV.ref 1 (e35_.length) 0 (e35_.length))),(4,(vp 2)),(18,(AV.ref 1 (e35_.length) (0+1) e24_)),e4_,e14_] e8_ e8_ (fun _=>⟨by simp +zetaDelta only[yb],by rfl⟩)<|
.r (.cont (e35_,(⟨sv3.2.P,sv3.2.C,0,sv3.2.Aa,sv3.2.Of,sv3.2.S,sv3.2.Ah,sv3.2.Aj,sv3.2.A,sv3.2.Ae⟩:TOp))))) (
.split (e2_==([68,65,89])) (
.call (@F_q6j_ok e2_ a0) fun rv9 cv9=>
.k 13 1 cv9 [0] 3 true<|
 let e37_:=(decide (a0.Aa<0))
.calld [e37_=false] default (@F_q1r_ok e2_) fun rv10 cv10 =>
.reg 14 [] [(5,hc cv10 [] true)] [.clg 0 [e37_=false] cv10 [] 3 true]<|
.ite (bif e37_ then true else (decide (a0.Aa>rv10))) (
.r (.ret ([]))) (
.call (@F_q6j_ok e2_ sv3.2) fun rv11 cv11=>
.call (@F_q70_ok a0.Aa) fun rv12 cv12=>
.guard [(0:Int)<=e3_,(e3_).toNat<sv3.1.length,e0_<sv3.1.length]<|
 let e28_:=(sv3.1.set e0_ rv12)
.reg 16 [] [(4,hc cv11 [2] true),(6,hc cv12 [] true),(8,{ obs:=[(1,(eS 1 DV.str e28_))] })] [.cl 4 cv11 [2] 3 true,.cl 3 cv12 [] 3 true,.e sv3.1.length,.ev 0,.ev 1,.e sv3.1.length,.ev 2,.pf (zr (sz:=1) (e:=DV.str) (l:=sv3.1) (i:=e0_) (x:=rv12) (fun _=>rfl))]<|
 let e9_:=[e25_,(eS 1 DV.str e28_),(bx (DV.agg [e15_,e26_,e21_,e36_,e17_,e22_,e18_,e19_,e23_,e20_]))]
.cst (A:=True) (.pf trivial) e1_ [(1,(vp 0)),(3,(AV.ref 1 (e28_.length) 0 (e28_.length))),(4,(vp 2)),(18,(AV.ref 1 (e28_.length) (0+1) e24_)),e4_,e14_] e9_ e9_ (fun _=>⟨by simp +zetaDelta only[yb],by rfl⟩)<|
.r (.cont (e28_,(⟨sv3.2.P,sv3.2.C,sv3.2.E,0,sv3.2.Of,sv3.2.S,sv3.2.Ah,sv3.2.Aj,sv3.2.A,sv3.2.Ae⟩:TOp))))) (
.split (e2_==([65,77,79,85,78,84])) (
.call (@F_q6k_ok e2_ a0) fun rv13 cv13=>
.k 13 1 cv13 [0] 3 true<|
 let e43_:=(decide (a0.S<0))
.calld [e43_=false] default (@F_q1r_ok e2_) fun rv14 cv14 =>
.reg 14 [] [(5,hc cv14 [] true)] [.clg 0 [e43_=false] cv14 [] 3 true]<|
.ite (bif e43_ then true else (decide (a0.S>rv14))) (
.r (.ret ([]))) (
.call (@F_q6k_ok e2_ sv3.2) fun rv15 cv15=>
.call (@F_q70_ok a0.S) fun rv16 cv16=>
.guard [(0:Int)<=e3_,(e3_).toNat<sv3.1.length,e0_<sv3.1.length]<|
 let e29_:=(sv3.1.set e0_ rv16)
.reg 16 [] [(4,hc cv15 [2] true),(6,hc cv16 [] true),(8,{ obs:=[(1,(eS 1 DV.str e29_))] })] [.cl 4 cv15 [2] 3 true,.cl 3 cv16 [] 3 true,.e sv3.1.length,.ev 0,.ev 1,.e sv3.1.length,.ev 2,.pf (zr (sz:=1) (e:=DV.str) (l:=sv3.1) (i:=e0_) (x:=rv16) (fun _=>rfl))]<|
 let e6_:=[e25_,(eS 1 DV.str e29_),(bx (DV.agg [e15_,e26_,e21_,e16_,e17_,e36_,e18_,e19_,e23_,e20_]))]
.cst (A:=True) (.pf trivial) e1_ [(1,(vp 0)),(3,(AV.ref 1 (e29_.length) 0 (e29_.length))),(4,(vp 2)),(18,(AV.ref 1 (e29_.length) (0+1) e24_)),e4_,e14_] e6_ e6_ (fun _=>⟨by simp +zetaDelta only[yb],by rfl⟩)<|
.r (.cont (e29_,(⟨sv3.2.P,sv3.2.C,sv3.2.E,sv3.2.Aa,sv3.2.Of,0,sv3.2.Ah,sv3.2.Aj,sv3.2.A,sv3.2.Ae⟩:TOp))))) (
.split (e2_==([79,70])) (
.call (@F_q6l_ok e2_ a0) fun rv17 cv17=>
.k 13 1 cv17 [0] 3 true<|
 let e38_:=(decide (a0.Of<0))
.calld [e38_=false] default (@F_q1r_ok e2_) fun rv18 cv18 =>
.reg 14 [] [(5,hc cv18 [] true)] [.clg 0 [e38_=false] cv18 [] 3 true]<|
.ite (bif e38_ then true else (decide (a0.Of>rv18))) (
.r (.ret ([]))) (
.call (@F_q6l_ok e2_ sv3.2) fun rv19 cv19=>
.call (@F_q70_ok a0.Of) fun rv20 cv20=>
.guard [(0:Int)<=e3_,(e3_).toNat<sv3.1.length,e0_<sv3.1.length]<|
 let e30_:=(sv3.1.set e0_ rv20)
.reg 16 [] [(4,hc cv19 [2] true),(6,hc cv20 [] true),(8,{ obs:=[(1,(eS 1 DV.str e30_))] })] [.cl 4 cv19 [2] 3 true,.cl 3 cv20 [] 3 true,.e sv3.1.length,.ev 0,.ev 1,.e sv3.1.length,.ev 2,.pf (zr (sz:=1) (e:=DV.str) (l:=sv3.1) (i:=e0_) (x:=rv20) (fun _=>rfl))]<|
 let e10_:=[e25_,(eS 1 DV.str e30_),(bx (DV.agg [e15_,e26_,e21_,e16_,e36_,e22_,e18_,e19_,e23_,e20_]))]
.cst (A:=True) (.pf trivial) e1_ [(1,(vp 0)),(3,(AV.ref 1 (e30_.length) 0 (e30_.length))),(4,(vp 2)),(18,(AV.ref 1 (e30_.length) (0+1) e24_)),e4_,e14_] e10_ e10_ (fun _=>⟨by simp +zetaDelta only[yb],by rfl⟩)<|
.r (.cont (e30_,(⟨sv3.2.P,sv3.2.C,sv3.2.E,sv3.2.Aa,0,sv3.2.S,sv3.2.Ah,sv3.2.Aj,sv3.2.A,sv3.2.Ae⟩:TOp))))) (
.split (e2_==([80,65,89,69,69])) (
.call (@F_q6m_ok e2_ a0) fun rv21 cv21=>
.k 13 1 cv21 [0] 3 true<|
 let e39_:=(decide (a0.Ah<0))
.calld [e39_=false] default (@F_q1r_ok e2_) fun rv22 cv22 =>
.reg 14 [] [(5,hc cv22 [] true)] [.clg 0 [e39_=false] cv22 [] 3 true]<|
.ite (bif e39_ then true else (decide (a0.Ah>rv22))) (
.r (.ret ([]))) (
.call (@F_q6m_ok e2_ sv3.2) fun rv23 cv23=>
.call (@F_q70_ok a0.Ah) fun rv24 cv24=>
.guard [(0:Int)<=e3_,(e3_).toNat<sv3.1.length,e0_<sv3.1.length]<|
 let e31_:=(sv3.1.set e0_ rv24)
.reg 16 [] [(4,hc cv23 [2] true),(6,hc cv24 [] true),(8,{ obs:=[(1,(eS 1 DV.str e31_))] })] [.cl 4 cv23 [2] 3 true,.cl 3 cv24 [] 3 true,.e sv3.1.length,.ev 0,.ev 1,.e sv3.1.length,.ev 2,.pf (zr (sz:=1) (e:=DV.str) (l:=sv3.1) (i:=e0_) (x:=rv24) (fun _=>rfl))]<|
 let e11_:=[e25_,(eS 1 DV.str e31_),(bx (DV.agg [e15_,e26_,e21_,e16_,e17_,e22_,e36_,e19_,e23_,e20_]))]
.cst (A:=True) (.pf trivial) e1_ [(1,(vp 0)),(3,(AV.ref 1 (e31_.length) 0 (e31_.length))),(4,(vp 2)),(18,(AV.ref 1 (e31_.length) (0+1) e24_)),e4_,e14_] e11_ e11_ (fun _=>⟨by simp +zetaDelta only[yb],by rfl⟩)<|
.r (.cont (e31_,(⟨sv3.2.P,sv3.2.C,sv3.2.E,sv3.2.Aa,sv3.2.Of,sv3.2.S,0,sv3.2.Aj,sv3.2.A,sv3.2.Ae⟩:TOp))))) (
.split (e2_==([68,85,69])) (
.call (@F_q6n_ok e2_ a0) fun rv25 cv25=>
.k 13 1 cv25 [0] 3 true<|
 let e40_:=(decide (a0.Aj<0))
.calld [e40_=false] default (@F_q1r_ok e2_) fun rv26 cv26 =>
.reg 14 [] [(5,hc cv26 [] true)] [.clg 0 [e40_=false] cv26 [] 3 true]<|
.ite (bif e40_ then true else (decide (a0.Aj>rv26))) (
.r (.ret ([]))) (
.call (@F_q6n_ok e2_ sv3.2) fun rv27 cv27=>
.call (@F_q70_ok a0.Aj) fun rv28 cv28=>
.guard [(0:Int)<=e3_,(e3_).toNat<sv3.1.length,e0_<sv3.1.length]<|
 let e32_:=(sv3.1.set e0_ rv28)
.reg 16 [] [(4,hc cv27 [2] true),(6,hc cv28 [] true),(8,{ obs:=[(1,(eS 1 DV.str e32_))] })] [.cl 4 cv27 [2] 3 true,.cl 3 cv28 [] 3 true,.e sv3.1.length,.ev 0,.ev 1,.e sv3.1.length,.ev 2,.pf (zr (sz:=1) (e:=DV.str) (l:=sv3.1) (i:=e0_) (x:=rv28) (fun _=>rfl))]<|
 let e12_:=[e25_,(eS 1 DV.str e32_),(bx (DV.agg [e15_,e26_,e21_,e16_,e17_,e22_,e18_,e36_,e23_,e20_]))]
.cst (A:=True) (.pf trivial) e1_ [(1,(vp 0)),(3,(AV.ref 1 (e32_.length) 0 (e32_.length))),(4,(vp 2)),(18,(AV.ref 1 (e32_.length) (0+1) e24_)),e4_,e14_] e12_ e12_ (fun _=>⟨by simp +zetaDelta only[yb],by rfl⟩)<|
.r (.cont (e32_,(⟨sv3.2.P,sv3.2.C,sv3.2.E,sv3.2.Aa,sv3.2.Of,sv3.2.S,sv3.2.Ah,0,sv3.2.A,sv3.2.Ae⟩:TOp))))) (
.split (e2_==([71,82,65,78,84,69,68])) (
.call (@F_q6o_ok e2_ a0) fun rv29 cv29=>
.k 13 1 cv29 [0] 3 true<|
 let e44_:=(decide (a0.A<0))
.calld [e44_=false] default (@F_q1r_ok e2_) fun rv30 cv30 =>
.reg 14 [] [(5,hc cv30 [] true)] [.clg 0 [e44_=false] cv30 [] 3 true]<|
.ite (bif e44_ then true else (decide (a0.A>rv30))) (
.r (.ret ([]))) (
.call (@F_q6o_ok e2_ sv3.2) fun rv31 cv31=>
.call (@F_q70_ok a0.A) fun rv32 cv32=>
.guard [(0:Int)<=e3_,(e3_).toNat<sv3.1.length,e0_<sv3.1.length]<|
 let e33_:=(sv3.1.set e0_ rv32)
.reg 16 [] [(4,hc cv31 [2] true),(6,hc cv32 [] true),(8,{ obs:=[(1,(eS 1 DV.str e33_))] })] [.cl 4 cv31 [2] 3 true,.cl 3 cv32 [] 3 true,.e sv3.1.length,.ev 0,.ev 1,.e sv3.1.length,.ev 2,.pf (zr (sz:=1) (e:=DV.str) (l:=sv3.1) (i:=e0_) (x:=rv32) (fun _=>rfl))]<|
 let e7_:=[e25_,(eS 1 DV.str e33_),(bx (DV.agg [e15_,e26_,e21_,e16_,e17_,e22_,e18_,e19_,e36_,e20_]))]
.cst (A:=True) (.pf trivial) e1_ [(1,(vp 0)),(3,(AV.ref 1 (e33_.length) 0 (e33_.length))),(4,(vp 2)),(18,(AV.ref 1 (e33_.length) (0+1) e24_)),e4_,e14_] e7_ e7_ (fun _=>⟨by simp +zetaDelta only[yb],by rfl⟩)<|
.r (.cont (e33_,(⟨sv3.2.P,sv3.2.C,sv3.2.E,sv3.2.Aa,sv3.2.Of,sv3.2.S,sv3.2.Ah,sv3.2.Aj,0,sv3.2.Ae⟩:TOp))))) (
.call (@F_q6p_ok e2_ a0) fun rv33 cv33=>
.k 13 1 cv33 [0] 3 true<|
 let e41_:=(decide (a0.Ae<0))
.calld [e41_=false] default (@F_q1r_ok e2_) fun rv34 cv34 =>
.reg 14 [] [(5,hc cv34 [] true)] [.clg 0 [e41_=false] cv34 [] 3 true]<|
.ite (bif e41_ then true else (decide (a0.Ae>rv34))) (
.r (.ret ([]))) (
.call (@F_q6p_ok e2_ sv3.2) fun rv35 cv35=>
.call (@F_q70_ok a0.Ae) fun rv36 cv36=>
.guard [(0:Int)<=e3_,(e3_).toNat<sv3.1.length,e0_<sv3.1.length]<|
 let e34_:=(sv3.1.set e0_ rv36)
.reg 16 [] [(4,hc cv35 [2] true),(6,hc cv36 [] true),(8,{ obs:=[(1,(eS 1 DV.str e34_))] })] [.cl 4 cv35 [2] 3 true,.cl 3 cv36 [] 3 true,.e sv3.1.length,.ev 0,.ev 1,.e sv3.1.length,.ev 2,.pf (zr (sz:=1) (e:=DV.str) (l:=sv3.1) (i:=e0_) (x:=rv36) (fun _=>rfl))]<|
 let e13_:=[e25_,(eS 1 DV.str e34_),(bx (DV.agg [e15_,e26_,e21_,e16_,e17_,e22_,e18_,e19_,e23_,e36_]))]
.cst (A:=True) (.pf trivial) e1_ [(1,(vp 0)),(3,(AV.ref 1 (e34_.length) 0 (e34_.length))),(4,(vp 2)),(18,(AV.ref 1 (e34_.length) (0+1) e24_)),e4_,e14_] e13_ e13_ (fun _=>⟨by simp +zetaDelta only[yb],by rfl⟩)<|
.r (.cont (e34_,(⟨sv3.2.P,sv3.2.C,sv3.2.E,sv3.2.Aa,sv3.2.Of,sv3.2.S,sv3.2.Ah,sv3.2.Aj,sv3.2.A,0⟩:TOp))))))))))))
def S_q6 (a0:TOp):SC R_q6 R_q6 :=
.call (@F_q45_ok a0.P) fun rv37 cv37=>
.call (@F_q76_ok rv37) fun rv1 cv1=>
.reg 1 [] [(2,hc cv37 [] true),(3,hc cv1 [] false)] [.cl 1 cv37 [] 1 true,.cl 0 cv1 [] 1 false]<|
.ite ((rv1.length:Int)==0) (
.r ([])) (
.guard [1<=rv1.length]<|
.reg 6 [] [] [.pf (p:=(0:Int)<=1) dk,.ev 0,.e rv1.length]<|
.guard [(rv1.length-1)<2 ^ 63]<|
.range (((rv1.length-1):Nat):Int) (rv1.length-1) rfl (.why (.ev 0)) 20 [1,4,19] (fun (sv3:(List (List UInt8))×TOp)=>[(3,(AV.ref 1 sv3.1.length 0 sv3.1.length)),(18,(AV.ref 1 sv3.1.length (0+1) (rv1.length-1)))]) (fun sv3=>[(1,(eS 1 DV.str sv3.1)),(2,(bx (TOp.e sv3.2)))]) (rv1,(⟨0,a0.C,a0.E,a0.Aa,a0.Of,a0.S,a0.Ah,a0.Aj,a0.A,a0.Ae⟩:TOp)) (S_q6_b1 a0 rv1) (fun sv3 => 
.ite (!((sv3.2.P==0)&&((sv3.2.C==([]))&&((sv3.2.E==0)&&((sv3.2.Aa==0)&&((sv3.2.Of==0)&&((sv3.2.S==0)&&((sv3.2.Ah==0)&&((sv3.2.Aj==0)&&((sv3.2.A==0)&&((sv3.2.Ae==0)&&true))))))))))) (
.r ([])) (
.guard [sv3.1.length<2 ^ 63]<|
.frz 1 (.ev 0) none [3] []<|
.a 20 1 3 (@F_q75_ok sv3.1 ([32])) fun rv38=>
.r rv38)) id)
def F_q6 (a0:TOp):=(S_q6 a0).den
theorem F_q6_ok {a0:TOp}:FO (F_q6 a0) 186 [(AV.d (TOp.e a0))] [] (fun x=>(AV.d (DV.str x))) NL:=fO (s:=S_q6 a0) Tryz.func186
def S_q46 (a0:TOp):SC Bool Bool :=
.a 1 1 1 (@F_q6_ok a0) fun rv1=>
.r (!(rv1==([])))
def F_q46 (a0:TOp):=(S_q46 a0).den
theorem F_q46_ok {a0:TOp}:FO (F_q46 a0) 144 [(AV.d (TOp.e a0))] [] vb NL:=fO (s:=S_q46 a0) Tryz.func144
def S_q6q (a0:TRi) (p0:List UInt8) (p1:Int):SC Bool Bool :=
.r (bif (a0.C==p0) then (a0.E==p1) else false)
def F_q6q (a0:TRi) (p0:List UInt8) (p1:Int):=(S_q6q a0 p0 p1).den
theorem F_q6q_ok {a0:TRi} {p0:List UInt8} {p1:Int}:FO (F_q6q a0 p0 p1) 175 [(AV.d (TRi.e a0)),(vp 0),(vp 1)] [(bx (DV.str p0)),(Ob.box (vi p1))] vb (fun _=>[(bx (DV.str p0)),(Ob.box (vi p1))]):=fO (s:=S_q6q a0 p0 p1) Tryz.func175
def S_q2r_b1 (a0:(List TRi)) (p0:List UInt8) (p1:Int) (iv1:Nat) (_:Unit):SC Int (Step (Unit) Int) :=
.call (@F_q6q_ok (a0.getD iv1 default) p0 p1) fun rv2 cv2=>
.reg 4 [] [(5,hc cv2 [0,1] true)] [.w iv1,.ev 1,.cl 0 cv2 [0,1] 2 true]<|
.ite rv2 (
.r (.ret (iv1:Int))) (
.r (.cont ()))
def S_q2r (a0:(List TRi)) (p0:List UInt8) (p1:Int):SC Int Int :=
.range (a0.length:Int) a0.length rfl (.slot 0) 8 [0,1,7] (fun (_:Unit)=>[]) (fun _=>[]) () (S_q2r_b1 a0 p0 p1) (fun _ => 
.r (-1)) id
def F_q2r (a0:(List TRi)) (p0:List UInt8) (p1:Int):=(S_q2r a0 p0 p1).den
theorem F_q2r_ok {a0:(List TRi)} {p0:List UInt8} {p1:Int}:FO (F_q2r a0 p0 p1) 174 [(AV.d (eL TRi.e a0)),(AV.fn 175 [(vp 0),(vp 1)])] [(bx (DV.str p0)),(Ob.box (vi p1))] vi (fun _=>[(bx (DV.str p0)),(Ob.box (vi p1))]):=fO (s:=S_q2r a0 p0 p1) Tryz.func174
def S_q47 (a0:TOf) (a1:List UInt8) (a2:Int):SC Int Int :=
.call (@F_q2r_ok a0.H a1 a2) fun rv1 cv1=>
.k 1 3 cv1 [1,2] 3 true<|
.r rv1
def F_q47 (a0:TOf) (a1:List UInt8) (a2:Int):=(S_q47 a0 a1 a2).den
theorem F_q47_ok {a0:TOf} {a1:List UInt8} {a2:Int}:FO (F_q47 a0 a1 a2) 127 [(AV.d (TOf.e a0)),(AV.d (DV.str a1)),(vi a2)] [] vi NL:=fO (s:=S_q47 a0 a1 a2) Tryz.func127
def S_q31 (a0:TOf) (a1:List UInt8) (a2:Int):SC Bool Bool :=
.a 1 3 1 (@F_q47_ok a0 a1 a2) fun rv1=>
.r (decide (rv1>=0))
def F_q31 (a0:TOf) (a1:List UInt8) (a2:Int):=(S_q31 a0 a1 a2).den
theorem F_q31_ok {a0:TOf} {a1:List UInt8} {a2:Int}:FO (F_q31 a0 a1 a2) 171 [(AV.d (TOf.e a0)),(AV.d (DV.str a1)),(vi a2)] [] vb NL:=fO (s:=S_q31 a0 a1 a2) Tryz.func171
def S_q2c (a0:TOf) (a1:List UInt8) (a2:Int):SC TRi TRi :=
.a 1 3 2 (@F_q47_ok a0 a1 a2) fun rv1=>
.ite (decide (rv1>=0)) (
.guard [(0:Int)<=rv1,(rv1).toNat<a0.H.length]<|
.reg 3 [] [] [.ev 0,.ev 1]<|
.r (a0.H.getD ((rv1).toNat) default)) (
.r (⟨a1,a2,0,0,0⟩:TRi))
def F_q2c (a0:TOf) (a1:List UInt8) (a2:Int):=(S_q2c a0 a1 a2).den
theorem F_q2c_ok {a0:TOf} {a1:List UInt8} {a2:Int}:FO (F_q2c a0 a1 a2) 79 [(AV.d (TOf.e a0)),(AV.d (DV.str a1)),(vi a2)] [] (fun x=>(AV.d (TRi.e x))) NL:=fO (s:=S_q2c a0 a1 a2) Tryz.func79
def S_q2m (a0:TRi):SC Bool Bool :=
.call (@F_q2a_ok a0.C a0.E) fun rv1 cv1=>
.calld [rv1=true] default (@F_q1b_ok a0.A) fun rv2 cv2 =>
 let e1_:=(bif rv1 then rv2 else false)
.calld [e1_=true] default (@F_q1b_ok a0.I) fun rv3 cv3 =>
 let e0_:=(bif e1_ then rv3 else false)
.calld [e0_=true] default (@F_qf_ok a0.N 0 a0.A) fun rv4 cv4 =>
.reg 1 [] [(4,hc cv1 [] true),(8,hc cv2 [] true),(13,hc cv3 [] true),(20,hc cv4 [] true)] [.cl 6 cv1 [] 1 true,.clg 4 [rv1=true] cv2 [] 1 true,.clg 2 [e1_=true] cv3 [] 1 true,.clg 0 [e0_=true] cv4 [] 1 true]<|
.r (bif e0_ then rv4 else false)
def F_q2m (a0:TRi):=(S_q2m a0).den
theorem F_q2m_ok {a0:TRi}:FO (F_q2m a0) 191 [(AV.d (TRi.e a0))] [] vb NL:=fO (s:=S_q2m a0) Tryz.func191
def S_q32 (a0:TRi) (a1:TMe):SC (TRi×Int) (TRi×Int) :=
.a 1 1 3 (@F_q2m_ok a0) fun rv1=>
.ite (bif (bif (bif (!rv1) then true else (a1.Y != 0)) then true else (!(a1.C==a0.C))) then true else (a1.E != a0.E)) (
.r ((⟨[],0,0,0,0⟩:TRi),1)) (
.call (@F_q1b_ok a1.A) fun rv2 cv2=>
.calld [(!rv2)=false] default (@F_q1b_ok a1.I) fun rv3 cv3 =>
.reg 3 [] [(2,hc cv2 [] true),(7,hc cv3 [] true)] [.cl 2 cv2 [] 3 true,.clg 0 [(!rv2)=false] cv3 [] 3 true]<|
.ite (bif (!rv2) then true else (!rv3)) (
.r ((⟨[],0,0,0,0⟩:TRi),2)) (
.reg 5 [11,13] [] []<|
.r ((⟨a0.C,a0.E,(if a1.A>a0.A then a1.A else a0.A),(if a1.I>a0.I then a1.I else a0.I),a0.N⟩:TRi),0)))
def F_q32 (a0:TRi) (a1:TMe):=(S_q32 a0 a1).den
theorem F_q32_ok {a0:TRi} {a1:TMe}:FO (F_q32 a0 a1) 213 [(AV.d (TRi.e a0)),(AV.d (TMe.e a1))] [] (fun x=>(AV.tup [(AV.d (TRi.e x.1)),(vi x.2)])) NL:=fO (s:=S_q32 a0 a1) Tryz.func213
end
end Go.Proofs.YtdmddkbngmhepaaGreatDoor
/- What the functions compute,and that their calls return it. No condition. -/
namespace Go.Proofs.YtdmddkbngmhepaaGreatDoor
open Go Go.TA
open Go.IntKind (i64)
noncomputable section
set_option maxRecDepth 100000
def S_q5e (a0:(List TRi)):SC (List TRi) (List TRi) :=
.reg 0 [] [] []<|
.nils 0 (
.guard [a0.length * (2 * 48)<=2 ^ 48]<|
.reg 1 [] [] []<|
.lev 0 (AV.d (eL TRi.e a0)) (.pf (lvQ true a0.length fun j=>(TRi.e (a0.getD j default))))<|
.br true (.pf (p:=true=true) rfl)<|
.reg 2 [] [] []<|
.bor 5 (fun j=>AV.d (TRi.e (a0.getD j default))) [2]<|
.cst (A:=a0.length=0) (.ev 1) [(2,AV.ref 0 0 0 0)] [(2,(AV.ref 0 a0.length 0 a0.length))] [(Ob.seq 5 0 fun j=>AV.d (TRi.e (a0.getD j default)))] [(eS 5 TRi.e a0)] (fun h=>⟨by rw[h],by unfold eS; rw[h]⟩)<|
.r a0) (
.reg 1 [] [] []<|
.lev 0 (AV.d (eL TRi.e a0)) (.pf (lvQ false a0.length fun j=>(TRi.e (a0.getD j default))))<|
.br false (.pf (p:=false=false) rfl)<|
.guard [a0.length * (2 * 48)<=2 ^ 48]<|
.reg 3 [] [(2,{ h:=.obj })] [.pf (p:=∀ k,k<a0.length->(AV.d (TRi.e (a0.getD k default))).wd=5) (fun _ _=>rfl),.ev 0]<|
.r a0)
def F_q5e (a0:(List TRi)):=(S_q5e a0).den
theorem F_q5e_ok {a0:(List TRi)}:FO (F_q5e a0) 239 [(AV.d (eL TRi.e a0))] [] (fun x=>(AV.ref 0 x.length 0 x.length)) (fun x=>[(eS 5 TRi.e x)]):=fO (s:=S_q5e a0) Tryz.func239
def S_q33 (a0:TRi) (a1:TRi):SC Int Int :=
.call (@F_q44_ok a0.C a1.C) fun rv1 cv1=>
.call (@F_q3m_ok a0.E a1.E) fun rv2 cv2=>
 let e0_:=([rv1,rv2]:List Int)
.call (@F_q1c_ok e0_) fun rv3 cv3=>
.reg 1 [] [(4,hc cv1 [] true),(9,hc cv2 [] true),(10,hv (vl e0_)),(11,hc cv3 [] true)] [.cl 2 cv1 [] 2 true,.cl 1 cv2 [] 2 true,.pf (ze (DV.i .i64) e0_),.cl 0 cv3 [] 2 true]<|
.r rv3
def F_q33 (a0:TRi) (a1:TRi):=(S_q33 a0 a1).den
theorem F_q33_ok {a0:TRi} {a1:TRi}:FO (F_q33 a0 a1) 192 [(AV.d (TRi.e a0)),(AV.d (TRi.e a1))] [] vi NL:=fO (s:=S_q33 a0 a1) Tryz.func192
abbrev R_q2d:=Int×Bool
def S_q2d_b1 (a1:TRi) (p0:(List TRi)) (sv1:Int×Int):SC R_q2d (Step (Int×Int) R_q2d) :=
.ite (decide (sv1.1<sv1.2)) (
.reg 4 [] [] [.pf (p:=(0:Int)<=1) dk]<|
 let e0_:=(i64.wrap ((IntKind.u64.wrap (i64.wrap (sv1.1+sv1.2))).fdiv (2 ^ (min (1:Int).toNat IntKind.u64.bits))))
.call (@F_q33_ok (p0.getD (0+(e0_).toNat) default) a1) fun rv2 cv2=>
.guard [(0:Int)<=e0_,(e0_).toNat<p0.length,(0+(e0_).toNat)<p0.length]<|
.reg 5 [] [(6,hc cv2 [] true)] [.e p0.length,.ev 0,.ev 1,.e p0.length,.ev 2,.cl 3 cv2 [] 2 true]<|
.ite (decide (rv2<0)) (
.r (.cont ((i64.wrap (e0_+1)),sv1.2))) (
.r (.cont (sv1.1,e0_)))) (
.r (.brk (sv1.1,sv1.2)))
def S_q2d (a1:TRi) (p0:(List TRi)):SC R_q2d R_q2d :=
.iter [0,2,4,8] (fun (sv1:Int×Int)=>[(9,(vi sv1.1)),(10,(vi sv1.2))]) (fun _=>[]) (0,(p0.length:Int)) (S_q2d_b1 a1 p0) (fun sv1 =>
 let e0_:=(decide (sv1.1<(p0.length:Int)))
.calld [e0_=true] default (@F_q33_ok (p0.getD (0+(sv1.1).toNat) default) a1) fun rv3 cv3 =>
.guard [AllP [e0_=true]->((0:Int)<=sv1.1),AllP [e0_=true]->((sv1.1).toNat<p0.length),AllP [e0_=true]->((0+(sv1.1).toNat)<p0.length)]<|
.reg 8 [] [(11,hc cv3 [] true)] [.pf (p:=AllP [e0_=true]->(p0.length=p0.length)) (fun _=>rfl),.ev 0,.ev 1,.pf (p:=AllP [e0_=true]->(p0.length=p0.length)) (fun _=>rfl),.ev 2,.clg 3 [e0_=true] cv3 [] 2 true]<|
.r (sv1.1,(bif e0_ then (rv3==0) else false))) id
def F_q2d (a1:TRi) (p0:(List TRi)):=(S_q2d a1 p0).den
theorem F_q2d_ok {a1:TRi} {p0:(List TRi)}:FO (F_q2d a1 p0) 240 [(AV.ref 0 p0.length 0 p0.length),(AV.d (TRi.e a1)),(AV.fn 192 [])] [(eS 5 TRi.e p0)] (fun x=>(AV.tup [(vi x.1),(vb x.2)])) (fun _=>[(eS 5 TRi.e p0)]):=fO (s:=S_q2d a1 p0) Tryz.func240
def V_q72 (x:(List TRi)):AV:=.ref 0 x.length 0 x.length
def L_q72 (p1:List TRi) (x:(List TRi)):List Ob:=[eS 5 TRi.e x,eS 5 TRi.e p1]
def F_q72 (a1:Int) (p0 p1:List TRi):Option (List TRi):=match p1 with
 | [y]=>guardP (0<=a1/\a1.toNat<=p0.length/\(p0.length+1) * (4 * 48)<=2 ^ 48) (some (insL p0 a1.toNat y))
 | _=>none
theorem F_q72_ok {a1:Int} {p0 p1:List TRi} (r:(List TRi)) (h:F_q72 a1 p0 p1=some r):CallOk Tryz.prog 241 [(AV.ref 0 p0.length 0 p0.length),(AV.d (.i .i64 a1)),(AV.ref 1 p1.length 0 p1.length)] [(eS 5 TRi.e p0),(eS 5 TRi.e p1)] (V_q72 r) (L_q72 p1 r):=by
 unfold F_q72 at h
 split at h
 ·rename_i y
  obtain⟨⟨h1,h2,h3⟩,h⟩:=z1j h
  obtain rfl:=y10 h
  obtain⟨i,rfl⟩:∃ i:Nat,a1=(i:Int):=⟨a1.toNat,(y5b h1).symm⟩
  exact InsG.ins_ok .b (fun _=>rfl) h2 h3
 ·cases h
def S_q48 (a0:TOf) (a1:TRi):SC TOf TOf :=
 let e1_:=(bx (TOf.e (⟨0,[],(⟨[],[],[],[]⟩:TBo)⟩:TOf)))
.reg 0 [] [(2,{ obs:=[(2,e1_)] })] [.pf cz7]<|
.call (@F_q5e_ok a0.H) fun rv1 cv1=>
.k 1 2 cv1 [] 3 false<|
.call (@F_q2d_ok a1 rv1) fun rv2 cv2=>
.k 2 3 cv2 [3] 4 true<|
.cut none [2,4] (fun (_:Int×TBo×(List TRi))=>[]) (fun sv3=>[(0,(Ob.box (AV.agg [(vi sv3.1),(AV.ref 3 sv3.2.2.length 0 sv3.2.2.length),(AV.d (TBo.e sv3.2.1))]))),(3,(eS 5 TRi.e sv3.2.2))]) (
.ite rv2.2 (
 let e2_:=(0+(rv2.1).toNat)
.guard [(0:Int)<=rv2.1,(rv2.1).toNat<rv1.length,e2_<rv1.length]<|
 let e0_:=(rv1.set e2_ a1)
 let e3_:=(eS 5 TRi.e e0_)
.reg 4 [] [(5,{ obs:=[(3,e3_)] })] [.e rv1.length,.ev 0,.ev 1,.e rv1.length,.ev 2,.pf (zr (sz:=5) (e:=TRi.e) (l:=rv1) (i:=e2_) (x:=a1) (fun _=>rfl))]<|
 let e5_:=[(2,(vp 0)),(4,(vp 2))]
.cst (A:=True) (.pf trivial) e5_ e5_ [(Ob.box (AV.agg [(vi a0.L),(AV.ref 3 rv1.length 0 rv1.length),(AV.d (TBo.e a0.Af))])),(bx (TRi.e a1)),e1_,e3_] [(Ob.box (AV.agg [(vi a0.L),(AV.ref 3 (e0_.length) 0 (e0_.length)),(AV.d (TBo.e a0.Af))])),(bx (TRi.e a1)),e1_,e3_] (fun _=>⟨by simp +zetaDelta only,by simp +zetaDelta only[yb]⟩)<|
.r (.next (a0.L,a0.Af,e0_))) (
 let e4_:=([a1]:List TRi)
.call (@F_q72_ok rv2.1 rv1 e4_) fun rv4 cv4=>
.reg 5 [] [(4,{ h:=.obj,obs:=[(4,(eS 5 TRi.e e4_))] }),(5,hc cv4 [3,4] false)] [.pf (zj9 (sz:=5) (e:=TRi.e) (l:=e4_)),.cl 0 cv4 [3,4] 5 false]<|
.r (.next (a0.L,a0.Af,rv4)))) fun sv3=>
.guard [sv3.2.2.length<2 ^ 63]<|
.reg 6 [] [] []<|
.frz 3 (.ev 0) none [] [0,2]<|
.r (⟨sv3.1,sv3.2.2,sv3.2.1⟩:TOf)
def F_q48 (a0:TOf) (a1:TRi):=(S_q48 a0 a1).den
theorem F_q48_ok {a0:TOf} {a1:TRi}:FO (F_q48 a0 a1) 214 [(AV.d (TOf.e a0)),(AV.d (TRi.e a1))] [] (fun x=>(AV.d (TOf.e x))) NL:=fO (s:=S_q48 a0 a1) Tryz.func214
def S_q5f (a0:TOf) (a1:TOp):SC (TOf×Int) (TOf×Int) :=
 let e0_:=(⟨0,[],(⟨[],[],[],[]⟩:TBo)⟩:TOf)
.reg 0 [] [(2,{ obs:=[(2,(bx (TOf.e e0_)))] })] [.pf cz7]<|
.a 1 2 3 (@F_q74_ok a1.C) fun rv1=>
 let e1_:=(0,hv (AV.d (TOf.e e0_)))
.ite ((rv1.length:Int)==0) (
.reg 2 [] [e1_] [.pf cz8]<|
.r (e0_,5)) (
.ite (bif (decide (a1.E<0)) then true else (decide (a1.E>99))) (
.reg 4 [] [e1_] [.pf cz8]<|
.r (e0_,2)) (
.a 5 5 3 (@F_q31_ok a0 a1.C a1.E) fun rv2=>
.ite (bif (!rv2) then ((a0.H.length:Int)==60) else false) (
.reg 6 [] [e1_] [.pf cz8]<|
.r (e0_,3)) (
.call (@F_q2c_ok a0 a1.C a1.E) fun rv3 cv3=>
.call (@F_q32_ok rv3 (⟨0,0,a1.C,a1.E,a1.A,a1.Ae,0,0⟩:TMe)) fun rv4 cv4=>
.reg 7 [19,20] [(5,hc cv3 [] true),(15,hc cv4 [] true)] [.cl 1 cv3 [] 3 true,.cl 1 cv3 [] 4 true,.cl 0 cv4 [] 3 true,.cl 0 cv4 [] 4 true]<|
.ite (rv4.2 != 0) (
.reg 9 [] [e1_] [.pf cz8]<|
.r (e0_,rv4.2)) (
.a 10 2 4 (@F_q48_ok a0 rv4.1) fun rv5=>
.r (rv5,0)))))
def F_q5f (a0:TOf) (a1:TOp):=(S_q5f a0 a1).den
theorem F_q5f_ok {a0:TOf} {a1:TOp}:FO (F_q5f a0 a1) 187 [(AV.d (TOf.e a0)),(AV.d (TOp.e a1))] [] (fun x=>(AV.tup [(AV.d (TOf.e x.1)),(vi x.2)])) NL:=fO (s:=S_q5f a0 a1) Tryz.func187
def S_q2e_b1 (a0:TBo) (a1:Int) (iv1:Nat) (sv2:Int×Int):SC (Int×Int) (Step (Int×Int) (Int×Int)) :=
.reg 3 [] [] [.w iv1,.ev 0]<|
 let e0_:=(a0.F.getD iv1 default)
.ite ((e0_.X)==a1) (
.r (.cont ((i64.wrap (sv2.1+(e0_.S))),(i64.wrap (sv2.2+(e0_.Ac)))))) (
.r (.cont (sv2.1,sv2.2)))
def S_q2e (a0:TBo) (a1:Int):SC (Int×Int) (Int×Int) :=
.range (a0.F.length:Int) a0.F.length rfl (.slot 9) 11 [1,9,10] (fun (sv2:Int×Int)=>[(4,(vi sv2.1)),(5,(vi sv2.2))]) (fun _=>[]) (0,0) (S_q2e_b1 a0 a1) (fun sv2 => 
.r (sv2.1,sv2.2)) id
def F_q2e (a0:TBo) (a1:Int):=(S_q2e a0 a1).den
theorem F_q2e_ok {a0:TBo} {a1:Int}:FO (F_q2e a0 a1) 176 [(AV.d (TBo.e a0)),(vi a1)] [] (fun x=>(AV.tup [(vi x.1),(vi x.2)])) NL:=fO (s:=S_q2e a0 a1) Tryz.func176
def S_q1s_b1 (a0:TBo) (a1:List UInt8) (a2:Int) (iv1:Nat) (sv2:Int):SC Int (Step (Int) Int) :=
.reg 4 [] [] [.w iv1,.ev 0]<|
 let e0_:=(a0.B.getD iv1 default)
.ite (bif ((e0_.C)==a1) then ((e0_.E)==a2) else false) (
.a 6 3 2 (@F_q2e_ok a0 (e0_.L)) fun rv3=>
.r (.cont (i64.wrap (sv2+(i64.wrap ((i64.wrap ((e0_.S)-(e0_.Ac)))-rv3.2)))))) (
.c sv2)
def S_q1s (a0:TBo) (a1:List UInt8) (a2:Int):SC Int Int :=
.range (a0.B.length:Int) a0.B.length rfl (.slot 13) 15 [1,2,3,13,14] (fun (sv2:Int)=>[(7,(vi sv2))]) (fun _=>[]) 0 (S_q1s_b1 a0 a1 a2) (fun sv2 => 
.r sv2) id
def F_q1s (a0:TBo) (a1:List UInt8) (a2:Int):=(S_q1s a0 a1 a2).den
theorem F_q1s_ok {a0:TBo} {a1:List UInt8} {a2:Int}:FO (F_q1s a0 a1 a2) 128 [(AV.d (TBo.e a0)),(AV.d (DV.str a1)),(vi a2)] [] vi NL:=fO (s:=S_q1s a0 a1 a2) Tryz.func128
def S_q34 (a0:TRi) (a1:Int) (a2:Int):SC (TRi×Int) (TRi×Int) :=
.call (@F_q2m_ok a0) fun rv1 cv1=>
 let e1_:=(i64.wrap (a0.A-a0.N))
.calld [(!rv1)=false] default (@F_qf_ok a1 0 e1_) fun rv2 cv2 =>
.reg 1 [] [(1,hc cv1 [] true),(10,hc cv2 [] true)] [.cl 2 cv1 [] 2 true,.clg 0 [(!rv1)=false] cv2 [] 2 true]<|
 let e0_:=(⟨[],0,0,0,0⟩:TRi)
.ite (bif (!rv1) then true else (!rv2)) (
.r (e0_,1)) (
.a 3 1 2 (@F_qf_ok a2 1 1000000000000000) fun rv3=>
.ite (!rv3) (
.r (e0_,2)) (
.ite (decide (a2>(i64.wrap (e1_-a1)))) (
.r (e0_,15)) (
.r ((⟨a0.C,a0.E,a0.A,a0.I,(i64.wrap (a0.N+a2))⟩:TRi),0))))
def F_q34 (a0:TRi) (a1:Int) (a2:Int):=(S_q34 a0 a1 a2).den
theorem F_q34_ok {a0:TRi} {a1:Int} {a2:Int}:FO (F_q34 a0 a1 a2) 215 [(AV.d (TRi.e a0)),(vi a1),(vi a2)] [] (fun x=>(AV.tup [(AV.d (TRi.e x.1)),(vi x.2)])) NL:=fO (s:=S_q34 a0 a1 a2) Tryz.func215
def S_q5g (a0:TOf) (a1:TOp):SC (TOf×Int) (TOf×Int) :=
 let e0_:=(⟨0,[],(⟨[],[],[],[]⟩:TBo)⟩:TOf)
.reg 0 [] [(2,{ obs:=[(2,(bx (TOf.e e0_)))] })] [.pf cz7]<|
.a 1 5 3 (@F_q31_ok a0 a1.C a1.E) fun rv1=>
 let e1_:=(0,hv (AV.d (TOf.e e0_)))
.ite (!rv1) (
.reg 2 [] [e1_] [.pf cz8]<|
.r (e0_,6)) (
.call (@F_q2c_ok a0 a1.C a1.E) fun rv2 cv2=>
.call (@F_q1s_ok a0.Af a1.C a1.E) fun rv3 cv3=>
.call (@F_q34_ok rv2 rv3 a1.S) fun rv4 cv4=>
.reg 3 [19,20] [(5,hc cv2 [] true),(12,hc cv3 [] true),(15,hc cv4 [] true)] [.cl 2 cv2 [] 3 true,.cl 2 cv2 [] 4 true,.cl 1 cv3 [] 3 true,.cl 1 cv3 [] 4 true,.cl 0 cv4 [] 3 true,.cl 0 cv4 [] 4 true]<|
.ite (rv4.2 != 0) (
.reg 5 [] [e1_] [.pf cz8]<|
.r (e0_,rv4.2)) (
.a 6 2 4 (@F_q48_ok a0 rv4.1) fun rv5=>
.r (rv5,0)))
def F_q5g (a0:TOf) (a1:TOp):=(S_q5g a0 a1).den
theorem F_q5g_ok {a0:TOf} {a1:TOp}:FO (F_q5g a0 a1) 188 [(AV.d (TOf.e a0)),(AV.d (TOp.e a1))] [] (fun x=>(AV.tup [(AV.d (TOf.e x.1)),(vi x.2)])) NL:=fO (s:=S_q5g a0 a1) Tryz.func188
def S_q7 (a0:Int) (a1:Int) (a2:Int):SC Bool Bool :=
.r (bif (decide (a0>=a1)) then (decide (a0<=a2)) else false)
def F_q7 (a0:Int) (a1:Int) (a2:Int):=(S_q7 a0 a1 a2).den
theorem F_q7_ok {a0:Int} {a1:Int} {a2:Int}:FO (F_q7 a0 a1 a2) 242 [(vi a0),(vi a1),(vi a2)] [] vb NL:=fO (s:=S_q7 a0 a1 a2) Tryz.func242
def S_q14 (a0:Int):SC Bool Bool :=
.a 1 1 0 (@F_q7_ok a0 0 35990) fun rv1=>
.r rv1
def F_q14 (a0:Int):=(S_q14 a0).den
theorem F_q14_ok {a0:Int}:FO (F_q14 a0) 243 [(vi a0)] [] vb NL:=fO (s:=S_q14 a0) Tryz.func243
def S_q6r (a0:Int):SC Bool Bool :=
.r (bif (decide (a0>=0)) then (decide (a0<=36000)) else false)
def F_q6r (a0:Int):=(S_q6r a0).den
theorem F_q6r_ok {a0:Int}:FO (F_q6r a0) 269 [(vi a0)] [] vb NL:=fO (s:=S_q6r a0) Tryz.func269
def S_q1t (a0:Int):SC Int Int :=
.a 1 1 0 (@F_q6r_ok a0) fun rv1=>
.ite (!rv1) (
.r (-1)) (
.reg 3 [] [] [.pf (p:=(360:Int)≠0) dk]<|
.r (i64.wrap (a0.tdiv 360)))
def F_q1t (a0:Int):=(S_q1t a0).den
theorem F_q1t_ok {a0:Int}:FO (F_q1t a0) 245 [(vi a0)] [] vi NL:=fO (s:=S_q1t a0) Tryz.func245
def S_q1u (a0:Int):SC Bool Bool :=
.a 1 1 0 (@F_q7_ok a0 1 1000000000000) fun rv1=>
.r rv1
def F_q1u (a0:Int):=(S_q1u a0).den
theorem F_q1u_ok {a0:Int}:FO (F_q1u a0) 244 [(vi a0)] [] vb NL:=fO (s:=S_q1u a0) Tryz.func244
def S_q3n (a0:TBo) (a1:TRe):SC Int Int :=
.a 1 3 2 (@F_q2e_ok a0 a1.L) fun rv1=>
.r (i64.wrap ((i64.wrap (a1.S-a1.Ac))-rv1.1))
def F_q3n (a0:TBo) (a1:TRe):=(S_q3n a0 a1).den
theorem F_q3n_ok {a0:TBo} {a1:TRe}:FO (F_q3n a0 a1) 247 [(AV.d (TBo.e a0)),(AV.d (TRe.e a1))] [] vi NL:=fO (s:=S_q3n a0 a1) Tryz.func247
def S_q49 (a0:TBo) (a1:Int):SC Bool Bool :=
.guard [(0:Int)<=a1,(a1).toNat<a0.B.length]<|
.reg 1 [] [] [.ev 0,.ev 1]<|
 let e2_:=(a0.B.getD ((a1).toNat) default)
 let e5_:=((e2_.L)==(i64.wrap (a1+1)))
.calld [e5_=true] default (@F_q74_ok (e2_.C)) fun rv1 cv1 =>
 let e3_:=(bif e5_ then (decide ((rv1.length:Int)>0)) else false)
.calld [e3_=true] default (@F_q7_ok (e2_.E) 0 99) fun rv2 cv2 =>
 let e0_:=(bif e3_ then rv2 else false)
.calld [e0_=true] default (@F_q14_ok (e2_.Aa)) fun rv3 cv3 =>
 let e6_:=(bif e0_ then rv3 else false)
.calld [e6_=true] default (@F_q1t_ok (e2_.Aa)) fun rv4 cv4 =>
 let e1_:=(bif e6_ then (rv4==(e2_.E)) else false)
.calld [e1_=true] default (@F_q1u_ok (e2_.S)) fun rv5 cv5 =>
 let e7_:=(bif e1_ then rv5 else false)
.calld [e7_=true] default (@F_q7_ok (e2_.Ac) 0 (e2_.S)) fun rv6 cv6 =>
 let e4_:=(bif e7_ then rv6 else false)
.calld [e4_=true] default (@F_q3n_ok a0 e2_) fun rv7 cv7 =>
.reg 2 [] [(8,hc cv1 [] true),(15,hc cv2 [] true),(20,hc cv3 [] true),(25,hc cv4 [] true),(33,hc cv5 [] true),(40,hc cv6 [] true),(45,hc cv7 [] true)] [.clg 12 [e5_=true] cv1 [] 2 true,.clg 10 [e3_=true] cv2 [] 2 true,.clg 8 [e0_=true] cv3 [] 2 true,.clg 6 [e6_=true] cv4 [] 2 true,.clg 4 [e1_=true] cv5 [] 2 true,.clg 2 [e7_=true] cv6 [] 2 true,.clg 0 [e4_=true] cv7 [] 2 true]<|
.r (bif e4_ then (decide (rv7>=0)) else false)
def F_q49 (a0:TBo) (a1:Int):=(S_q49 a0 a1).den
theorem F_q49_ok {a0:TBo} {a1:Int}:FO (F_q49 a0 a1) 224 [(AV.d (TBo.e a0)),(vi a1)] [] vb NL:=fO (s:=S_q49 a0 a1) Tryz.func224
def S_q35_b1 (a0:TBo) (iv1:Nat) (_:Unit):SC Bool (Step (Unit) Bool) :=
.a 4 3 1 (@F_q49_ok a0 (iv1:Int)) fun rv2=>
.ite (!rv2) (
.r (.ret false)) (
.r (.cont ()))
def S_q35 (a0:TBo) (a1:Int):SC Bool Bool :=
.guard [(a1).toNat<2 ^ 63]<|
.range a1 ((a1).toNat) rfl (.why (.ev 0)) 9 [1,2,3,8] (fun (_:Unit)=>[]) (fun _=>[]) () (S_q35_b1 a0) (fun _ => 
.r (decide (a1<=200))) id
def F_q35 (a0:TBo) (a1:Int):=(S_q35 a0 a1).den
theorem F_q35_ok {a0:TBo} {a1:Int}:FO (F_q35 a0 a1) 223 [(AV.d (TBo.e a0)),(vi a1),(AV.fn 224 [])] [] vb NL:=fO (s:=S_q35 a0 a1) Tryz.func223
def S_q2n_b1 (a0:TBo) (a1:Int) (iv1:Nat) (sv2:Int):SC Int (Step (Int) Int) :=
.reg 4 [] [] [.w iv1,.ev 0]<|
 let e0_:=(a0.G.getD iv1 default)
.ite ((e0_.Ab)==a1) (
.r (.cont (i64.wrap (sv2+(e0_.S))))) (
.c sv2)
def S_q2n (a0:TBo) (a1:Int):SC Int Int :=
.range (a0.G.length:Int) a0.G.length rfl (.slot 9) 11 [1,9,10] (fun (sv2:Int)=>[(5,(vi sv2))]) (fun _=>[]) 0 (S_q2n_b1 a0 a1) (fun sv2 => 
.r sv2) id
def F_q2n (a0:TBo) (a1:Int):=(S_q2n a0 a1).den
theorem F_q2n_ok {a0:TBo} {a1:Int}:FO (F_q2n a0 a1) 274 [(AV.d (TBo.e a0)),(vi a1)] [] vi NL:=fO (s:=S_q2n a0 a1) Tryz.func274
def S_q3o (a0:TBo) (a1:TCo):SC Int Int :=
.a 1 8 2 (@F_q2n_ok a0 a1.L) fun rv1=>
.r (i64.wrap ((i64.wrap (a1.S-a1.Ac))-rv1))
def F_q3o (a0:TBo) (a1:TCo):=(S_q3o a0 a1).den
theorem F_q3o_ok {a0:TBo} {a1:TCo}:FO (F_q3o a0 a1) 249 [(AV.d (TBo.e a0)),(AV.d (TCo.e a1))] [] vi NL:=fO (s:=S_q3o a0 a1) Tryz.func249
def S_q4a (a0:TBo) (a1:Int):SC Bool Bool :=
.guard [(0:Int)<=a1,(a1).toNat<a0.F.length]<|
.reg 1 [] [] [.ev 0,.ev 1]<|
 let e1_:=(a0.F.getD ((a1).toNat) default)
 let e6_:=((e1_.L) != (i64.wrap (a1+1)))
.calld [e6_=false] default (@F_q7_ok (e1_.X) 1 (a0.B.length:Int)) fun rv1 cv1 =>
.reg 2 [] [(11,hc cv1 [] true)] [.clg 0 [e6_=false] cv1 [] 2 true]<|
.ite (bif e6_ then true else (!rv1)) (
.r false) (
 let e5_:=(i64.wrap ((e1_.X)-1))
.guard [(0:Int)<=e5_,(e5_).toNat<a0.B.length]<|
.reg 4 [] [] [.ev 0,.ev 1]<|
.call (@F_q14_ok (e1_.Aa)) fun rv2 cv2=>
 let e9_:=(a0.B.getD ((e5_).toNat) default)
 let e3_:=(bif rv2 then (decide ((e1_.Aa)>=(e9_.Aa))) else false)
.calld [e3_=true] default (@F_q1t_ok (e1_.Aa)) fun rv3 cv3 =>
 let e0_:=(bif e3_ then (rv3==(e9_.E)) else false)
.calld [e0_=true] default (@F_q1u_ok (e1_.S)) fun rv4 cv4 =>
 let e7_:=(bif e0_ then rv4 else false)
.calld [e7_=true] default (@F_q7_ok (e1_.Ac) 0 (e1_.S)) fun rv5 cv5 =>
 let e4_:=(bif e7_ then rv5 else false)
.calld [e4_=true] default (@F_q7_ok (e1_.Ah) 1 1000000) fun rv6 cv6 =>
 let e2_:=(bif e4_ then rv6 else false)
.calld [e2_=true] default (@F_q14_ok (e1_.Aj)) fun rv7 cv7 =>
 let e8_:=(bif e2_ then rv7 else false)
.calld [e8_=true] default (@F_q3o_ok a0 e1_) fun rv8 cv8 =>
.reg 5 [] [(2,hc cv2 [] true),(13,hc cv3 [] true),(21,hc cv4 [] true),(28,hc cv5 [] true),(33,hc cv6 [] true),(38,hc cv7 [] true),(43,hc cv8 [] true)] [.cl 12 cv2 [] 3 true,.clg 10 [e3_=true] cv3 [] 3 true,.clg 8 [e0_=true] cv4 [] 3 true,.clg 6 [e7_=true] cv5 [] 3 true,.clg 4 [e4_=true] cv6 [] 3 true,.clg 2 [e2_=true] cv7 [] 3 true,.clg 0 [e8_=true] cv8 [] 3 true]<|
.r (bif e8_ then (decide (rv8>=0)) else false))
def F_q4a (a0:TBo) (a1:Int):=(S_q4a a0 a1).den
theorem F_q4a_ok {a0:TBo} {a1:Int}:FO (F_q4a a0 a1) 225 [(AV.d (TBo.e a0)),(vi a1)] [] vb NL:=fO (s:=S_q4a a0 a1) Tryz.func225
def S_q36_b1 (a0:TBo) (iv1:Nat) (_:Unit):SC Bool (Step (Unit) Bool) :=
.a 4 3 1 (@F_q4a_ok a0 (iv1:Int)) fun rv2=>
.ite (!rv2) (
.r (.ret false)) (
.r (.cont ()))
def S_q36 (a0:TBo) (a1:Int):SC Bool Bool :=
.guard [(a1).toNat<2 ^ 63]<|
.range a1 ((a1).toNat) rfl (.why (.ev 0)) 9 [1,2,3,8] (fun (_:Unit)=>[]) (fun _=>[]) () (S_q36_b1 a0) (fun _ => 
.r (decide (a1<=200))) id
def F_q36 (a0:TBo) (a1:Int):=(S_q36 a0 a1).den
theorem F_q36_ok {a0:TBo} {a1:Int}:FO (F_q36 a0 a1) 223 [(AV.d (TBo.e a0)),(vi a1),(AV.fn 225 [])] [] vb NL:=fO (s:=S_q36 a0 a1) Tryz.func223
def S_q1v (a0:TBo) (a1:TCo):SC Int Int :=
 let e0_:=(i64.wrap (a1.X-1))
.guard [(0:Int)<=e0_,(e0_).toNat<a0.B.length]<|
.reg 1 [] [] [.ev 0,.ev 1]<|
.r ((a0.B.getD ((e0_).toNat) default).E)
def F_q1v (a0:TBo) (a1:TCo):=(S_q1v a0 a1).den
theorem F_q1v_ok {a0:TBo} {a1:TCo}:FO (F_q1v a0 a1) 248 [(AV.d (TBo.e a0)),(AV.d (TCo.e a1))] [] vi NL:=fO (s:=S_q1v a0 a1) Tryz.func248
def S_q4b (a0:TBo) (a1:Int):SC Bool Bool :=
.guard [(0:Int)<=a1,(a1).toNat<a0.G.length]<|
.reg 1 [] [] [.ev 0,.ev 1]<|
 let e1_:=(a0.G.getD ((a1).toNat) default)
 let e4_:=((e1_.L) != (i64.wrap (a1+1)))
.calld [e4_=false] default (@F_q7_ok (e1_.Ab) 1 (a0.F.length:Int)) fun rv1 cv1 =>
.reg 2 [] [(11,hc cv1 [] true)] [.clg 0 [e4_=false] cv1 [] 2 true]<|
.ite (bif e4_ then true else (!rv1)) (
.r false) (
 let e3_:=(i64.wrap ((e1_.Ab)-1))
.guard [(0:Int)<=e3_,(e3_).toNat<a0.F.length]<|
.reg 4 [] [] [.ev 0,.ev 1]<|
.call (@F_q14_ok (e1_.Aa)) fun rv2 cv2=>
 let e5_:=(a0.F.getD ((e3_).toNat) default)
 let e0_:=(bif rv2 then (decide ((e1_.Aa)>=(e5_.Aa))) else false)
.calld [e0_=true] default (@F_q1t_ok (e1_.Aa)) fun rv3 cv3 =>
.calld [e0_=true] default (@F_q1v_ok a0 e5_) fun rv4 cv4 =>
 let e2_:=(bif e0_ then (decide (rv3<=(i64.wrap (rv4+1)))) else false)
.calld [e2_=true] default (@F_q1u_ok (e1_.S)) fun rv5 cv5 =>
.reg 5 [] [(2,hc cv2 [] true),(13,hc cv3 [] true),(16,hc cv4 [] true),(23,hc cv5 [] true)] [.cl 6 cv2 [] 3 true,.clg 4 [e0_=true] cv3 [] 3 true,.clg 2 [e0_=true] cv4 [] 3 true,.clg 0 [e2_=true] cv5 [] 3 true]<|
.r (bif e2_ then rv5 else false))
def F_q4b (a0:TBo) (a1:Int):=(S_q4b a0 a1).den
theorem F_q4b_ok {a0:TBo} {a1:Int}:FO (F_q4b a0 a1) 226 [(AV.d (TBo.e a0)),(vi a1)] [] vb NL:=fO (s:=S_q4b a0 a1) Tryz.func226
def S_q37_b1 (a0:TBo) (iv1:Nat) (_:Unit):SC Bool (Step (Unit) Bool) :=
.a 4 3 1 (@F_q4b_ok a0 (iv1:Int)) fun rv2=>
.ite (!rv2) (
.r (.ret false)) (
.r (.cont ()))
def S_q37 (a0:TBo) (a1:Int):SC Bool Bool :=
.guard [(a1).toNat<2 ^ 63]<|
.range a1 ((a1).toNat) rfl (.why (.ev 0)) 9 [1,2,3,8] (fun (_:Unit)=>[]) (fun _=>[]) () (S_q37_b1 a0) (fun _ => 
.r (decide (a1<=200))) id
def F_q37 (a0:TBo) (a1:Int):=(S_q37 a0 a1).den
theorem F_q37_ok {a0:TBo} {a1:Int}:FO (F_q37 a0 a1) 223 [(AV.d (TBo.e a0)),(vi a1),(AV.fn 226 [])] [] vb NL:=fO (s:=S_q37 a0 a1) Tryz.func223
def S_q4c (a0:(List TOr)):SC (List TOr) (List TOr) :=
.reg 0 [] [] []<|
.nils 0 (
.guard [a0.length * (2 * 40)<=2 ^ 48]<|
.reg 1 [] [] []<|
.lev 0 (AV.d (eL TOr.e a0)) (.pf (lvQ true a0.length fun j=>(TOr.e (a0.getD j default))))<|
.br true (.pf (p:=true=true) rfl)<|
.reg 2 [] [] []<|
.bor 5 (fun j=>AV.d (TOr.e (a0.getD j default))) [2]<|
.cst (A:=a0.length=0) (.ev 1) [(2,AV.ref 0 0 0 0)] [(2,(AV.ref 0 a0.length 0 a0.length))] [(Ob.seq 5 0 fun j=>AV.d (TOr.e (a0.getD j default)))] [(eS 5 TOr.e a0)] (fun h=>⟨by rw[h],by unfold eS; rw[h]⟩)<|
.r a0) (
.reg 1 [] [] []<|
.lev 0 (AV.d (eL TOr.e a0)) (.pf (lvQ false a0.length fun j=>(TOr.e (a0.getD j default))))<|
.br false (.pf (p:=false=false) rfl)<|
.guard [a0.length * (2 * 40)<=2 ^ 48]<|
.reg 3 [] [(2,{ h:=.obj })] [.pf (p:=∀ k,k<a0.length->(AV.d (TOr.e (a0.getD k default))).wd=5) (fun _ _=>rfl),.ev 0]<|
.r a0)
def F_q4c (a0:(List TOr)):=(S_q4c a0).den
theorem F_q4c_ok {a0:(List TOr)}:FO (F_q4c a0) 273 [(AV.d (eL TOr.e a0))] [] (fun x=>(AV.ref 0 x.length 0 x.length)) (fun x=>[(eS 5 TOr.e x)]):=fO (s:=S_q4c a0) Tryz.func273
def S_q3p (a0:TOr) (p0:Int):SC Bool Bool :=
.r (a0.U != p0)
def F_q3p (a0:TOr) (p0:Int):=(S_q3p a0 p0).den
theorem F_q3p_ok {a0:TOr} {p0:Int}:FO (F_q3p a0 p0) 276 [(AV.d (TOr.e a0)),(vp 0)] [(Ob.box (vi p0))] vb (fun _=>[(Ob.box (vi p0))]):=fO (s:=S_q3p a0 p0) Tryz.func276
end
end Go.Proofs.YtdmddkbngmhepaaGreatDoor
