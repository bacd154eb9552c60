/- A part of the proof: what the functions compute, and that their calls return it. No condition. -/
import Derived.Test.YtdmddkbngmhepaaGreatDoorG7
/- What the functions compute, and that their calls return it. No condition. -/
namespace Go.Proofs.YtdmddkbngmhepaaGreatDoor
open Go Go.TA
open Go.IntKind (i64)
noncomputable section
set_option maxRecDepth 100000
def S_q6x (a0:TTr) (a1:List UInt8) (a2:Int) (p0:Int) (p1:Int):SC (TTr×Int) (TTr×Int) :=
.reg 0 [] [(1,{ obs:=[(3,(bx (TTr.e (⟨0,[]⟩:TTr))))] })] [.pf z2e]<|
.a 1 1 4 (@F_qn_ok a0) fun rv1=>
 let e7_:=(AV.d (TTr.e (⟨0,[]⟩:TTr)))
.ite (!rv1) (
.reg 2 [] [(0,hv e7_)] [.pf z1i]<|
.r ((⟨0,[]⟩:TTr),1)) (
.a 3 3 4 (@F_q3a_ok a0 a1 a2) fun rv2=>
.ite (decide (rv2<0)) (
.reg 5 [] [(0,hv e7_)] [.pf z1i]<|
.r ((⟨0,[]⟩:TTr),6)) (
 let e4_:=((rv2).toNat)
.call (@F_q21_ok a0 e4_) fun rv3 cv3=>
.k 6 1 cv3 [] 4 false<|
.kill 5<|
 let e0_:=(rv3.2.getD e4_ default)
.call (@F_q4h_ok e4_ rv3.2 (e0_.C) (e0_.E) (e0_.V) p0 p1 (e0_.A) (e0_.J) (e0_.I) (e0_.T)) fun rv4 cv4=>
.guard [(0:Int)<=rv2,(rv2).toNat<rv3.2.length]<|
 let e14_:=(AV.ptr 6 rv3.2.length [.x e4_ 7])
.reg 7 [] [(4,hv e14_),(5,hc cv4 [6,0,1,7,8,9,10] false)] [.e rv3.2.length,.ev 0,.ev 1,.pf (p:=LeV (AV.ptr 6 rv3.2.length [.x (0+e4_) 7]) e14_) (z5y),.cl 2 cv4 [6,0,1,7,8,9,10] 11 false]<|
.ite (rv4.1 != 0) (
.reg 9 [] [(0,hv e7_)] [.pf z1i]<|
.r ((⟨0,[]⟩:TTr),rv4.1)) (
.reg 10 [] [] []<|
.guard [rv4.2.length=(e0_.I).length]<|
 let e9_:=(eS 1 (DV.i .i64) (e0_.A))
 let e10_:=(eS 1 (DV.i .i64) (e0_.J))
 let e11_:=(eS 1 (DV.i .i64) (e0_.T))
 let e12_:=(eS 1 (DV.i .i64) rv4.2)
 let e13_:=(AV.d (DV.str (e0_.C)))
.cst (A:=rv4.2.length=(e0_.I).length) (.ev 0) [(8,(vp 3)),(9,(vi 0))] [(8,(vp 3)),(9,(vi 0))] [(Ob.box (vi p0)),(Ob.box (vi p1)),(Ob.box (AV.agg [(vi rv3.1),(AV.ref 6 rv3.2.length 0 rv3.2.length)])),(Ob.box (AV.agg [(vi rv3.1),(AV.ref 6 rv3.2.length 0 rv3.2.length)])),Ob.dead,Ob.dead,(opS 7 TPo.e e4_ (AV.agg [e13_,(vi (e0_.E)),(vi (e0_.V)),(AV.ref 7 ((e0_.A).length) 0 ((e0_.A).length)),(AV.ref 8 ((e0_.J).length) 0 ((e0_.J).length)),(AV.ref 9 ((e0_.I).length) 0 ((e0_.I).length)),(AV.ref 10 ((e0_.T).length) 0 ((e0_.T).length))]) rv3.2),e9_,e10_,e12_,e11_] [(Ob.box (vi p0)),(Ob.box (vi p1)),(Ob.box (AV.agg [(vi rv3.1),(AV.ref 6 rv3.2.length 0 rv3.2.length)])),(Ob.box (AV.agg [(vi rv3.1),(AV.ref 6 rv3.2.length 0 rv3.2.length)])),Ob.dead,Ob.dead,(opS 7 TPo.e e4_ (AV.agg [e13_,(vi (e0_.E)),(vi (e0_.V)),(AV.ref 7 ((e0_.A).length) 0 ((e0_.A).length)),(AV.ref 8 ((e0_.J).length) 0 ((e0_.J).length)),(AV.ref 9 rv4.2.length 0 rv4.2.length),(AV.ref 10 ((e0_.T).length) 0 ((e0_.T).length))]) rv3.2),e9_,e10_,e12_,e11_] (fun h=>⟨rfl,by rw[h]⟩)<|
.guard [(e0_.A).length<2 ^ 63/\(e0_.J).length<2 ^ 63/\rv4.2.length<2 ^ 63/\(e0_.T).length<2 ^ 63]<|
 let e8_:=(⟨e0_.C,e0_.E,e0_.V,e0_.A,e0_.J,rv4.2,e0_.T⟩:TPo)
 let e1_:=(rv3.2.set e4_ e8_)
 let e2_:=(AV.agg [(vi rv3.1),(AV.ref 6 rv3.2.length 0 rv3.2.length)])
 let e3_:=[(Ob.box (vi p0)),(Ob.box (vi p1)),(Ob.box e2_),(Ob.box e2_),Ob.dead,Ob.dead,(eS 7 TPo.e e1_),Ob.dead,Ob.dead,Ob.dead,Ob.dead]
 let e6_:=[(8,(vp 3)),(9,(vi 0))]
.sh (A:=(e0_.A).length<2 ^ 63/\(e0_.J).length<2 ^ 63/\rv4.2.length<2 ^ 63/\(e0_.T).length<2 ^ 63) (.ev 0) e6_ e6_ [(Ob.box (vi p0)),(Ob.box (vi p1)),(Ob.box e2_),(Ob.box e2_),Ob.dead,Ob.dead,(opS 7 TPo.e e4_ (AV.agg [e13_,(vi (e0_.E)),(vi (e0_.V)),(AV.ref 7 ((e0_.A).length) 0 ((e0_.A).length)),(AV.ref 8 ((e0_.J).length) 0 ((e0_.J).length)),(AV.ref 9 rv4.2.length 0 rv4.2.length),(AV.ref 10 ((e0_.T).length) 0 ((e0_.T).length))]) rv3.2),e9_,e10_,e12_,e11_] e3_ (fun h=>z3e oTApiPot (P:=[(Ob.box (vi p0)),(Ob.box (vi p1)),(Ob.box e2_),(Ob.box e2_),Ob.dead,Ob.dead]) (D:=[]) rfl (⟨e0_.C,e0_.E,e0_.V,[],[],[],[]⟩:TPo) e8_ h rfl) (z26 _)<|
 let e5_:=(AV.agg [(vi rv3.1),(AV.ref 6 (e1_.length) 0 (e1_.length))])
.cst (A:=True) (.pf trivial) e6_ e6_ e3_ [(Ob.box (vi p0)),(Ob.box (vi p1)),(Ob.box e5_),(Ob.box e5_),Ob.dead,Ob.dead,(eS 7 TPo.e e1_),Ob.dead,Ob.dead,Ob.dead,Ob.dead] (fun _=>⟨by simp +zetaDelta only,by simp +zetaDelta only[yb]⟩)<|
.guard [e1_.length<2 ^ 63]<|
.frz 6 (.ev 0) none [] [2,3]<|
.r ((⟨rv3.1,e1_⟩:TTr),0))))
def F_q6x (a0:TTr) (a1:List UInt8) (a2:Int) (p0:Int) (p1:Int):=(S_q6x a0 a1 a2 p0 p1).den
theorem F_q6x_ok {a0:TTr} {a1:List UInt8} {a2:Int} {p0:Int} {p1:Int}:FO (F_q6x a0 a1 a2 p0 p1) 165 [(AV.d (TTr.e a0)),(AV.d (DV.str a1)),(vi a2),(AV.fn 168 [(vp 0),(vp 1)])] [(Ob.box (vi p0)),(Ob.box (vi p1))] (fun x=>(AV.tup [(AV.d (TTr.e x.1)),(vi x.2)])) (fun _=>[(Ob.box (vi p0)),(Ob.box (vi p1))]):=fO (s:=S_q6x a0 a1 a2 p0 p1) Tryz.func165
def S_q5x (a0:TTr) (a1:Int) (a2:List UInt8) (a3:Int) (a4:Int):SC (TTr×Int) (TTr×Int) :=
.reg 0 [] [(3,{ obs:=[(3,(bx (TTr.e (⟨0,[]⟩:TTr))))] })] [.pf z2e]<|
.call (@F_q6x_ok a0 a2 a3 a1 a4) fun rv1 cv1=>
.k 1 4 cv1 [1,2] 4 true<|
.r (rv1.1,rv1.2)
def F_q5x (a0:TTr) (a1:Int) (a2:List UInt8) (a3:Int) (a4:Int):=(S_q5x a0 a1 a2 a3 a4).den
theorem F_q5x_ok {a0:TTr} {a1:Int} {a2:List UInt8} {a3:Int} {a4:Int}:FO (F_q5x a0 a1 a2 a3 a4) 114 [(AV.d (TTr.e a0)),(vi a1),(AV.d (DV.str a2)),(vi a3),(vi a4)] [] (fun x=>(AV.tup [(AV.d (TTr.e x.1)),(vi x.2)])) NL:=fO (s:=S_q5x a0 a1 a2 a3 a4) Tryz.func114
def S_q5y (a0:TTr) (a1:Int) (a2:List UInt8) (a3:Int):SC (TMe×Int) (TMe×Int) :=
.a 1 1 2 (@F_qn_ok a0) fun rv1=>
 let e1_:=(⟨0,0,[],0,0,0,0,0⟩:TMe)
.ite (!rv1) (
.r (e1_,1)) (
.call (@F_q3c_ok a0 a2 a3) fun rv2 cv2=>
.reg 3 [] [(3,hc cv2 [] true),(7,{ obs:=[(2,(bx (TPo.e (⟨[],0,0,[],[],[],[]⟩:TPo))))] })] [.cl 0 cv2 [] 2 true,.pf cz6]<|
.calld [(!rv2.2)=false] default (@F_qf_ok a1 1 a0.M) fun rv3 cv3 =>
.reg 4 [] [(6,hc cv3 [] true)] [.clg 0 [(!rv2.2)=false] cv3 [] 3 true]<|
.ite (bif (!rv2.2) then true else (!rv3)) (
.r (e1_,6)) (
 let e0_:=(i64.wrap (a1-1))
.guard [(0:Int)<=e0_,(e0_).toNat<rv2.1.A.length,(e0_).toNat<rv2.1.I.length]<|
.reg 6 [16] [] [.ev 0,.ev 1,.ev 0,.ev 2]<|
.r ((⟨0,a1,a2,a3,(rv2.1.A.getD ((e0_).toNat) default),(rv2.1.I.getD ((e0_).toNat) default),0,0⟩:TMe),0)))
def F_q5y (a0:TTr) (a1:Int) (a2:List UInt8) (a3:Int):=(S_q5y a0 a1 a2 a3).den
theorem F_q5y_ok {a0:TTr} {a1:Int} {a2:List UInt8} {a3:Int}:FO (F_q5y a0 a1 a2 a3) 115 [(AV.d (TTr.e a0)),(vi a1),(AV.d (DV.str a2)),(vi a3)] [] (fun x=>(AV.tup [(AV.d (TMe.e x.1)),(vi x.2)])) NL:=fO (s:=S_q5y a0 a1 a2 a3) Tryz.func115
def S_q3t (a0:TWo) (a1:TMe) (a2:Int):SC (TWo×Int) (TWo×Int) :=
 let e3_:=(⟨(⟨0,[]⟩:TTr),[],[]⟩:TWo)
 let e5_:=(bx (TWo.e e3_))
.reg 0 [] [(2,{ obs:=[(2,e5_)] })] [.pf cz3]<|
 let e6_:=(0,hv (AV.d (TWo.e e3_)))
.ite (a2 != 0) (
.reg 2 [] [e6_] [.pf cz4]<|
.r (e3_,a2)) (
.ite ((a0.W.length:Int)==200) (
.reg 4 [] [e6_] [.pf cz4]<|
.r (e3_,3)) (
 let e1_:=(i64.wrap ((a0.W.length:Int)+1))
.guard [(0:Int)<=e1_,e1_ * 72<=2 ^ 47]<|
 let e2_:=(⟨0,0,[],0,0,0,0,0⟩:TMe)
 let e0_:=((List.replicate (e1_.toNat) (e2_:TMe)).length)
.reg 5 [] [(4,{ cast:=some (AV.ref 3 e0_ 0 e0_),obs:=[(3,(eS 8 TMe.e (List.replicate (e1_.toNat) (e2_:TMe))))] })] [.ev 0,.pf (p:=e1_<=e1_) (y1e _),.ev 1,.pf (zay (o:=3) (k:=e1_.toNat) (z:=(e2_:TMe))),.pf (zaz (sz:=8) (k:=e1_.toNat) (e:=TMe.e) (z:=(e2_:TMe)))]<|
 let e4_:=(0+(min a0.W.length e0_))
.guard [(min a0.W.length e0_)<(List.replicate (e1_.toNat) (e2_:TMe)).length,e4_<(copyL (List.replicate (e1_.toNat) (e2_:TMe)) 0 (min a0.W.length e0_) (fun i=>(a0.W.getD i default))).length]<|
.reg 6 [4,7] [(4,{ obs:=[(3,(eS 8 TMe.e (copyL (List.replicate ((i64.wrap ((a0.W.length:Int)+1)).toNat) ((⟨0,0,[],0,0,0,0,0⟩:TMe):TMe)) 0 (min a0.W.length ((List.replicate ((i64.wrap ((a0.W.length:Int)+1)).toNat) ((⟨0,0,[],0,0,0,0,0⟩:TMe):TMe)).length)) (fun i=>(a0.W.getD i default)))))] }),(7,{ obs:=[(3,(eS 8 TMe.e ((copyL (List.replicate ((i64.wrap ((a0.W.length:Int)+1)).toNat) ((⟨0,0,[],0,0,0,0,0⟩:TMe):TMe)) 0 (min a0.W.length ((List.replicate ((i64.wrap ((a0.W.length:Int)+1)).toNat) ((⟨0,0,[],0,0,0,0,0⟩:TMe):TMe)).length)) (fun i=>(a0.W.getD i default))).set (0+(min a0.W.length ((List.replicate ((i64.wrap ((a0.W.length:Int)+1)).toNat) ((⟨0,0,[],0,0,0,0,0⟩:TMe):TMe)).length))) a1)))] })] [.pf (y2b ((List.replicate ((i64.wrap ((a0.W.length:Int)+1)).toNat) ((⟨0,0,[],0,0,0,0,0⟩:TMe):TMe)).length)),.pf (p:=∀ k,k<a0.W.length->(AV.d (TMe.e (a0.W.getD k default))).wd=8) (fun _ _=>rfl),.pf (z8x (sz:=8) (e:=TMe.e) (l:=(List.replicate ((i64.wrap ((a0.W.length:Int)+1)).toNat) ((⟨0,0,[],0,0,0,0,0⟩:TMe):TMe))) (off:=0) (k:=(min a0.W.length ((List.replicate ((i64.wrap ((a0.W.length:Int)+1)).toNat) ((⟨0,0,[],0,0,0,0,0⟩:TMe):TMe)).length))) (s:=(fun i=>(a0.W.getD i default)))),.pf (p:=(copyL (List.replicate ((i64.wrap ((a0.W.length:Int)+1)).toNat) ((⟨0,0,[],0,0,0,0,0⟩:TMe):TMe)) 0 (min a0.W.length ((List.replicate ((i64.wrap ((a0.W.length:Int)+1)).toNat) ((⟨0,0,[],0,0,0,0,0⟩:TMe):TMe)).length)) (fun i=>(a0.W.getD i default))).length=(List.replicate ((i64.wrap ((a0.W.length:Int)+1)).toNat) ((⟨0,0,[],0,0,0,0,0⟩:TMe):TMe)).length) (by simp only[zm]),.pf (nn (min a0.W.length ((List.replicate ((i64.wrap ((a0.W.length:Int)+1)).toNat) ((⟨0,0,[],0,0,0,0,0⟩:TMe):TMe)).length))),.ev 0,.pf (p:=(copyL (List.replicate ((i64.wrap ((a0.W.length:Int)+1)).toNat) ((⟨0,0,[],0,0,0,0,0⟩:TMe):TMe)) 0 (min a0.W.length ((List.replicate ((i64.wrap ((a0.W.length:Int)+1)).toNat) ((⟨0,0,[],0,0,0,0,0⟩:TMe):TMe)).length)) (fun i=>(a0.W.getD i default))).length=(List.replicate ((i64.wrap ((a0.W.length:Int)+1)).toNat) ((⟨0,0,[],0,0,0,0,0⟩:TMe):TMe)).length) (by simp only[zm]),.ev 1,.pf (zr (sz:=8) (e:=TMe.e) (l:=(copyL (List.replicate ((i64.wrap ((a0.W.length:Int)+1)).toNat) ((⟨0,0,[],0,0,0,0,0⟩:TMe):TMe)) 0 (min a0.W.length ((List.replicate ((i64.wrap ((a0.W.length:Int)+1)).toNat) ((⟨0,0,[],0,0,0,0,0⟩:TMe):TMe)).length)) (fun i=>(a0.W.getD i default)))) (i:=(0+(min a0.W.length ((List.replicate ((i64.wrap ((a0.W.length:Int)+1)).toNat) ((⟨0,0,[],0,0,0,0,0⟩:TMe):TMe)).length)))) (x:=a1) (fun _=>rfl))]<|
.cst (A:=True) (.pf trivial) [(3,(vp 0)),(6,(vp 2)),(8,(AV.ref 3 e0_ 0 e0_))] [(3,(vp 0)),(6,(vp 2)),(8,(AV.ref 3 (((copyL (List.replicate (e1_.toNat) (e2_:TMe)) 0 (min a0.W.length e0_) (fun i=>(a0.W.getD i default))).set e4_ a1).length) 0 (((copyL (List.replicate (e1_.toNat) (e2_:TMe)) 0 (min a0.W.length e0_) (fun i=>(a0.W.getD i default))).set e4_ a1).length)))] [(bx (TWo.e a0)),(bx (TMe.e a1)),e5_,(eS 8 TMe.e ((copyL (List.replicate (e1_.toNat) (e2_:TMe)) 0 (min a0.W.length e0_) (fun i=>(a0.W.getD i default))).set e4_ a1))] [(bx (TWo.e a0)),(bx (TMe.e a1)),e5_,(eS 8 TMe.e ((copyL (List.replicate (e1_.toNat) (e2_:TMe)) 0 (min a0.W.length e0_) (fun i=>(a0.W.getD i default))).set e4_ a1))] (fun _=>⟨by simp +zetaDelta only[yb,zm],by rfl⟩)<|
.guard [((copyL (List.replicate (e1_.toNat) (e2_:TMe)) 0 (min a0.W.length e0_) (fun i=>(a0.W.getD i default))).set e4_ a1).length<2 ^ 63]<|
.reg 8 [] [] []<|
.frz 3 (.ev 0) none [] [0,2]<|
.r ((⟨a0.K,a0.O,((copyL (List.replicate (e1_.toNat) (e2_:TMe)) 0 (min a0.W.length e0_) (fun i=>(a0.W.getD i default))).set e4_ a1)⟩:TWo),0)))
def F_q3t (a0:TWo) (a1:TMe) (a2:Int):=(S_q3t a0 a1 a2).den
theorem F_q3t_ok {a0:TWo} {a1:TMe} {a2:Int}:FO (F_q3t a0 a1 a2) 116 [(AV.d (TWo.e a0)),(AV.d (TMe.e a1)),(vi a2)] [] (fun x=>(AV.tup [(AV.d (TWo.e x.1)),(vi x.2)])) NL:=fO (s:=S_q3t a0 a1 a2) Tryz.func116
def S_q5z (a0:TWo) (a1:TSt):SC (TWo×Int) (TWo×Int) :=
 let e0_:=(⟨(⟨0,[]⟩:TTr),[],[]⟩:TWo)
.reg 0 [] [(2,{ obs:=[(2,(bx (TWo.e e0_)))] })] [.pf cz3]<|
.cut (some 0) [2,4] (fun (sv1:TWo×Int)=>[(6,(vi sv1.2))]) (fun sv1=>[(0,(bx (TWo.e sv1.1)))]) (
.ite (a1.P==1) (
.a 6 8 3 (@F_q5t_ok a0.K a1.C a1.E a1.S) fun rv2=>
.r (.next ((⟨rv2.1,a0.O,a0.W⟩:TWo),rv2.2))) (
.ite (a1.P==2) (
.a 8 10 3 (@F_q5w_ok a0.K a1.Z a1.C a1.E a1.S) fun rv3=>
.r (.next ((⟨rv3.1,a0.O,a0.W⟩:TWo),rv3.2))) (
.ite (a1.P==3) (
.a 10 10 3 (@F_q5x_ok a0.K a1.Z a1.C a1.E a1.S) fun rv4=>
.r (.next ((⟨rv4.1,a0.O,a0.W⟩:TWo),rv4.2))) (
.a 3 8 3 (@F_q5y_ok a0.K a1.Z a1.C a1.E) fun rv5=>
.a 4 3 4 (@F_q3t_ok a0 rv5.1 rv5.2) fun rv6=>
.r (.ret (rv6.1,rv6.2)))))) fun sv1=>
.ite (sv1.2 != 0) (
.reg 12 [] [(0,hv (AV.d (TWo.e e0_)))] [.pf cz4]<|
.r (e0_,sv1.2)) (
.r (sv1.1,0))
def F_q5z (a0:TWo) (a1:TSt):=(S_q5z a0 a1).den
theorem F_q5z_ok {a0:TWo} {a1:TSt}:FO (F_q5z a0 a1) 70 [(AV.d (TWo.e a0)),(AV.d (TSt.e a1))] [] (fun x=>(AV.tup [(AV.d (TWo.e x.1)),(vi x.2)])) NL:=fO (s:=S_q5z a0 a1) Tryz.func70
def S_q60 (a0:(List TOp)):SC (List TOp) (List TOp) :=
.reg 0 [] [] []<|
.nils 0 (
.guard [a0.length * (2 * 88)<=2 ^ 48]<|
.reg 1 [] [] []<|
.lev 0 (AV.d (eL TOp.e a0)) (.pf (lvQ true a0.length fun j=>(TOp.e (a0.getD j default))))<|
.br true (.pf (p:=true=true) rfl)<|
.reg 2 [] [] []<|
.bor 10 (fun j=>AV.d (TOp.e (a0.getD j default))) [2]<|
.cst (A:=a0.length=0) (.ev 1) [(2,AV.ref 0 0 0 0)] [(2,(AV.ref 0 a0.length 0 a0.length))] [(Ob.seq 10 0 fun j=>AV.d (TOp.e (a0.getD j default)))] [(eS 10 TOp.e a0)] (fun h=>⟨by rw[h],by unfold eS; rw[h]⟩)<|
.r a0) (
.reg 1 [] [] []<|
.lev 0 (AV.d (eL TOp.e a0)) (.pf (lvQ false a0.length fun j=>(TOp.e (a0.getD j default))))<|
.br false (.pf (p:=false=false) rfl)<|
.guard [a0.length * (2 * 88)<=2 ^ 48]<|
.reg 3 [] [(2,{ h:=.obj })] [.pf (p:=∀ k,k<a0.length->(AV.d (TOp.e (a0.getD k default))).wd=10) (fun _ _=>rfl),.ev 0]<|
.r a0)
def F_q60 (a0:(List TOp)):=(S_q60 a0).den
theorem F_q60_ok {a0:(List TOp)}:FO (F_q60 a0) 74 [(AV.d (eL TOp.e a0))] [] (fun x=>(AV.ref 0 x.length 0 x.length)) (fun x=>[(eS 10 TOp.e x)]):=fO (s:=S_q60 a0) Tryz.func74
abbrev R_q6y:=Int×Int×(List TOp)
def S_q6y (a0:TJo):SC R_q6y R_q6y :=
.reg 0 [] [(1,{ obs:=[(1,(bx (TJo.e (⟨0,[],0⟩:TJo))))] })] [.pf cz1]<|
.call (@F_q60_ok a0.Ad) fun rv1 cv1=>
.k 1 2 cv1 [] 2 false<|
.reg 2 [] [] []<|
.kill 0<|
.r (a0.Z,a0.Ag,rv1)
def F_q6y (a0:TJo):=(S_q6y a0).den
theorem F_q6y_ok {a0:TJo}:FO (F_q6y a0) 169 [(AV.d (TJo.e a0))] [] (fun x=>(AV.agg [(vi x.1),(AV.ref 2 x.2.2.length 0 x.2.2.length),(vi x.2.1)])) (fun x=>[Ob.dead,(Ob.box (AV.agg [(vi x.1),(AV.ref 2 x.2.2.length 0 x.2.2.length),(vi x.2.1)])),(eS 10 TOp.e x.2.2)]):=fO (s:=S_q6y a0) Tryz.func169
def S_q4i (a0:TJo) (a1:TOp):SC (TJo×Int) (TJo×Int) :=
 let e1_:=(⟨0,[],0⟩:TJo)
.reg 0 [] [(2,{ obs:=[(2,(bx (TJo.e e1_)))] })] [.pf cz1]<|
.call (@F_q39_ok a0) fun rv1 cv1=>
 let e2_:=(bx (TOf.e (⟨0,[],(⟨[],[],[],[]⟩:TBo)⟩:TOf)))
.reg 1 [] [(1,hc cv1 [] true),(5,{ obs:=[(3,e2_)] })] [.cl 0 cv1 [] 3 true,.pf cz7]<|
.calld [(rv1.2 != 0)=false] default (@F_q46_ok a1) fun rv2 cv2 =>
.reg 2 [] [(4,hc cv2 [] true)] [.clg 0 [(rv1.2 != 0)=false] cv2 [] 4 true]<|
 let e3_:=(0,hv (AV.d (TJo.e e1_)))
.ite (bif (rv1.2 != 0) then true else (!rv2)) (
.reg 3 [] [e3_] [.pf cz2]<|
.r (e1_,1)) (
.call (@F_q3r_ok rv1.1 a1) fun rv3 cv3=>
.reg 4 [] [(2,hc cv3 [] true),(6,{ obs:=[(4,e2_)] })] [.cl 0 cv3 [] 4 true,.pf cz7]<|
.ite (rv3.2 != 0) (
.reg 6 [] [e3_] [.pf cz2]<|
.r (e1_,rv3.2)) (
.ite ((a0.Ad.length:Int)==400) (
.reg 8 [] [e3_] [.pf cz2]<|
.r (e1_,3)) (
.call (@F_q6y_ok a0) fun rv4 cv4=>
.k 9 1 cv4 [] 5 false<|
.kill 6<|
.guard [(rv4.2.2.length+1) * (2 * 88)<=2 ^ 48]<|
 let e0_:=([a1]:List TOp)
 let e4_:=(rv4.2.2++e0_)
.reg 10 [] [(3,hv (AV.d (eL TOp.e e0_))),(4,{ cast:=some (AV.ref 7 (e4_.length) 0 (e4_.length)),obs:=[(7,(eS 10 TOp.e e4_))] })] [.pf (ze TOp.e e0_),.e rv4.2.2.length,.e rv4.2.2.length,.pf (p:=∀ k,k<1->(AV.d (TOp.e (e0_.getD k default))).wd=10) (fun _ _=>rfl),.ev 0,.pf (zw (o:=7) (l:=rv4.2.2) (x:=e0_)),.pf (z10 (sz:=10) (e:=TOp.e) (l:=rv4.2.2) (x:=e0_))]<|
.guard [e4_.length<2 ^ 63]<|
.reg 11 [] [] []<|
.frz 7 (.ev 0) none [] [0,2]<|
.r ((⟨rv4.1,e4_,rv4.2.1⟩:TJo),0))))
def F_q4i (a0:TJo) (a1:TOp):=(S_q4i a0 a1).den
theorem F_q4i_ok {a0:TJo} {a1:TOp}:FO (F_q4i a0 a1) 117 [(AV.d (TJo.e a0)),(AV.d (TOp.e a1))] [] (fun x=>(AV.tup [(AV.d (TJo.e x.1)),(vi x.2)])) NL:=fO (s:=S_q4i a0 a1) Tryz.func117
def S_q61 (a0:(List TJo)):SC (List TJo) (List TJo) :=
.reg 0 [] [] []<|
.nils 0 (
.guard [a0.length * (2 * 40)<=2 ^ 48]<|
.reg 1 [] [] []<|
.lev 0 (AV.d (eL TJo.e a0)) (.pf (lvQ true a0.length fun j=>(TJo.e (a0.getD j default))))<|
.br true (.pf (p:=true=true) rfl)<|
.reg 2 [] [] []<|
.bor 3 (fun j=>AV.d (TJo.e (a0.getD j default))) [2]<|
.cst (A:=a0.length=0) (.ev 1) [(2,AV.ref 0 0 0 0)] [(2,(AV.ref 0 a0.length 0 a0.length))] [(Ob.seq 3 0 fun j=>AV.d (TJo.e (a0.getD j default)))] [(eS 3 TJo.e a0)] (fun h=>⟨by rw[h],by unfold eS; rw[h]⟩)<|
.r a0) (
.reg 1 [] [] []<|
.lev 0 (AV.d (eL TJo.e a0)) (.pf (lvQ false a0.length fun j=>(TJo.e (a0.getD j default))))<|
.br false (.pf (p:=false=false) rfl)<|
.guard [a0.length * (2 * 40)<=2 ^ 48]<|
.reg 3 [] [(2,{ h:=.obj })] [.pf (p:=∀ k,k<a0.length->(AV.d (TJo.e (a0.getD k default))).wd=3) (fun _ _=>rfl),.ev 0]<|
.r a0)
def F_q61 (a0:(List TJo)):=(S_q61 a0).den
theorem F_q61_ok {a0:(List TJo)}:FO (F_q61 a0) 170 [(AV.d (eL TJo.e a0))] [] (fun x=>(AV.ref 0 x.length 0 x.length)) (fun x=>[(eS 3 TJo.e x)]):=fO (s:=S_q61 a0) Tryz.func170
def S_q3e (a0:TWo) (a1:TJo) (a2:Int):SC (TWo×Int) (TWo×Int) :=
 let e1_:=(⟨(⟨0,[]⟩:TTr),[],[]⟩:TWo)
 let e3_:=(bx (TWo.e e1_))
.reg 0 [] [(2,{ obs:=[(2,e3_)] })] [.pf cz3]<|
.ite (a2 != 0) (
.reg 2 [] [(0,hv (AV.d (TWo.e e1_)))] [.pf cz4]<|
.r (e1_,a2)) (
.call (@F_q61_ok a0.O) fun rv1 cv1=>
.k 3 2 cv1 [] 3 false<|
 let e2_:=(i64.wrap (a1.Z-1))
 let e5_:=(0+(e2_).toNat)
.guard [(0:Int)<=e2_,(e2_).toNat<rv1.length,e5_<rv1.length]<|
 let e0_:=(rv1.set e5_ a1)
 let e4_:=(eS 3 TJo.e e0_)
.reg 4 [] [(7,{ obs:=[(3,e4_)] })] [.e rv1.length,.ev 0,.ev 1,.e rv1.length,.ev 2,.pf (zr (sz:=3) (e:=TJo.e) (l:=rv1) (i:=e5_) (x:=a1) (fun _=>rfl))]<|
 let e6_:=[(3,(vp 0)),(6,(vp 2))]
.cst (A:=True) (.pf trivial) e6_ e6_ [(Ob.box (AV.agg [(AV.d (TTr.e a0.K)),(AV.ref 3 rv1.length 0 rv1.length),(AV.d (eL TMe.e a0.W))])),(bx (TJo.e a1)),e3_,e4_] [(Ob.box (AV.agg [(AV.d (TTr.e a0.K)),(AV.ref 3 (e0_.length) 0 (e0_.length)),(AV.d (eL TMe.e a0.W))])),(bx (TJo.e a1)),e3_,e4_] (fun _=>⟨by simp +zetaDelta only,by simp +zetaDelta only[yb]⟩)<|
.guard [e0_.length<2 ^ 63]<|
.reg 5 [] [] []<|
.frz 3 (.ev 0) none [] [0,2]<|
.r ((⟨a0.K,e0_,a0.W⟩:TWo),0))
def F_q3e (a0:TWo) (a1:TJo) (a2:Int):=(S_q3e a0 a1 a2).den
theorem F_q3e_ok {a0:TWo} {a1:TJo} {a2:Int}:FO (F_q3e a0 a1 a2) 118 [(AV.d (TWo.e a0)),(AV.d (TJo.e a1)),(vi a2)] [] (fun x=>(AV.tup [(AV.d (TWo.e x.1)),(vi x.2)])) NL:=fO (s:=S_q3e a0 a1 a2) Tryz.func118
def S_q4j (a0:(List TOp)):SC (List TOp) (List TOp) :=
.reg 0 [] [] []<|
 let e0_:=(AV.d (eL TOp.e a0))
.nils 0 (
.guard [(0+a0.length) * (2 * 88)<=2 ^ 48]<|
.reg 1 [] [] []<|
.lev 0 e0_ (.pf (lvQ true a0.length fun j=>(TOp.e (a0.getD j default))))<|
.br true (.pf (p:=true=true) rfl)<|
.reg 2 [] [] []<|
.lev 2 e0_ (.der (fun (h:a0.length=0)=>lvZ TOp.e a0 h) 1)<|
.r a0) (
.reg 1 [] [] []<|
.lev 0 e0_ (.pf (lvQ false a0.length fun j=>(TOp.e (a0.getD j default))))<|
.br false (.pf (p:=false=false) rfl)<|
.guard [(0+a0.length) * (2 * 88)<=2 ^ 48]<|
.reg 3 [] [(2,hv e0_)] [.pf (p:=∀ k,k<a0.length->AV.d (TOp.e (a0.getD k default))=AV.d (TOp.e (a0.getD k default))/\(TOp.e (a0.getD k default)).wd=10) (fun _ _=>⟨rfl,rfl⟩),.pf zsj,.ev 0,.pf (z3j (e:=TOp.e) (x:=a0))]<|
.r a0)
def F_q4j (a0:(List TOp)):=(S_q4j a0).den
theorem F_q4j_ok {a0:(List TOp)}:FO (F_q4j a0) 74 [(AV.d (eL TOp.e a0))] [] (fun x=>(AV.d (eL TOp.e x))) NL:=fO (s:=S_q4j a0) Tryz.func74
def S_q3u (a0:TJo):SC TJo TJo :=
.reg 0 [] [(1,{ obs:=[(1,(bx (TJo.e (⟨0,[],0⟩:TJo))))] })] [.pf cz1]<|
.a 1 2 2 (@F_q4j_ok a0.Ad) fun rv1=>
.r (⟨a0.Z,rv1,a0.Ag⟩:TJo)
def F_q3u (a0:TJo):=(S_q3u a0).den
theorem F_q3u_ok {a0:TJo}:FO (F_q3u a0) 169 [(AV.d (TJo.e a0))] [] (fun x=>(AV.d (TJo.e x))) NL:=fO (s:=S_q3u a0) Tryz.func169
def S_q62 (a0:TJo):SC TJo TJo :=
.reg 0 [] [(1,{ obs:=[(1,(bx (TJo.e (⟨0,[],0⟩:TJo))))] })] [.pf cz1]<|
.a 1 1 2 (@F_q3s_ok a0) fun rv1=>
.cut none [1,2] (fun (_:TJo)=>[]) (fun sv2=>[(0,(bx (TJo.e sv2)))]) (
.ite rv1 (
.r (.next (⟨a0.Z,a0.Ad,(a0.Ad.length:Int)⟩:TJo))) (
.r (.next a0))) fun sv2=>
.a 3 1 2 (@F_q3u_ok sv2) fun rv3=>
.r rv3
def F_q62 (a0:TJo):=(S_q62 a0).den
theorem F_q62_ok {a0:TJo}:FO (F_q62 a0) 119 [(AV.d (TJo.e a0))] [] (fun x=>(AV.d (TJo.e x))) NL:=fO (s:=S_q62 a0) Tryz.func119
def S_q63 (a0:TJo):SC TJo TJo :=
.reg 0 [] [(1,{ obs:=[(1,(bx (TJo.e (⟨0,[],0⟩:TJo))))] })] [.pf cz1]<|
.a 1 1 2 (@F_q3s_ok a0) fun rv1=>
.cut none [1,2] (fun (_:TJo)=>[]) (fun sv2=>[(0,(bx (TJo.e sv2)))]) (
.ite rv1 (
.guard [(0:Int)<=a0.Ag,(a0.Ag).toNat<=a0.Ad.length]<|
 let e0_:=(a0.Ad.take ((a0.Ag).toNat))
.reg 2 [] [(4,hv (AV.d (eL TOp.e e0_)))] [.ev 0,.ev 1,.der (fun (h0:(a0.Ag).toNat<=a0.Ad.length)=>lvT TOp.e a0.Ad h0) 1]<|
.r (.next (⟨a0.Z,e0_,a0.Ag⟩:TJo))) (
.r (.next a0))) fun sv2=>
.a 3 1 2 (@F_q3u_ok sv2) fun rv3=>
.r rv3
def F_q63 (a0:TJo):=(S_q63 a0).den
theorem F_q63_ok {a0:TJo}:FO (F_q63 a0) 120 [(AV.d (TJo.e a0))] [] (fun x=>(AV.d (TJo.e x))) NL:=fO (s:=S_q63 a0) Tryz.func120
def S_qp_b1 (a0:TOf) (iv1:Nat) (_:Unit):SC Bool (Step (Unit) Bool) :=
.reg 5 [] [] [.w iv1,.ev 0]<|
 let e2_:=(a0.H.getD iv1 default)
.call (@F_q2m_ok e2_) fun rv2 cv2=>
 let e0_:=(decide ((iv1:Int)>0))
 let e1_:=(i64.wrap ((iv1:Int)-1))
.calld [e0_=true,(!rv2)=false] default (@F_q33_ok (a0.H.getD ((e1_).toNat) default) e2_) fun rv3 cv3 =>
.guard [AllP [e0_=true,(!rv2)=false]->((0:Int)<=e1_),AllP [e0_=true,(!rv2)=false]->((e1_).toNat<a0.H.length)]<|
.reg 6 [] [(1,hc cv2 [] true),(14,hc cv3 [] true)] [.cl 4 cv2 [] 2 true,.ev 0,.ev 1,.clg 2 [e0_=true,(!rv2)=false] cv3 [] 2 true]<|
.ite (bif (!rv2) then true else (bif e0_ then (decide (rv3>=0)) else false)) (
.r (.ret false)) (
.r (.cont ()))
def S_qp_b2 (a0:TOf) (iv4:Nat) (_:Unit):SC Bool (Step (Unit) Bool) :=
.reg 11 [] [] [.w iv4,.ev 0]<|
 let e0_:=(a0.Af.B.getD iv4 default)
.call (@F_q31_ok a0 (e0_.C) (e0_.E)) fun rv5 cv5=>
.calld [(!rv5)=false] default (@F_q3q_ok a0 (e0_.C) (e0_.E)) fun rv6 cv6 =>
.reg 12 [] [(5,hc cv5 [] true),(13,hc cv6 [] true)] [.cl 2 cv5 [] 2 true,.clg 0 [(!rv5)=false] cv6 [] 2 true]<|
.ite (bif (!rv5) then true else (decide (rv6<0))) (
.r (.ret false)) (
.r (.cont ()))
def S_qp (a0:TOf):SC Bool Bool :=
 let e0_:=(bif (bif (decide (a0.L<1)) then true else (decide (a0.L>6))) then true else (decide ((a0.H.length:Int)>60)))
.calld [e0_=false] default (@F_q1y_ok a0.Af) fun rv7 cv7 =>
.reg 1 [] [(17,hc cv7 [] true)] [.clg 0 [e0_=false] cv7 [] 1 true]<|
.ite (bif e0_ then true else (!rv7)) (
.r false) (
.range (a0.H.length:Int) a0.H.length rfl (.slot 28) 30 [1,28,29] (fun (_:Unit)=>[]) (fun _=>[]) () (S_qp_b1 a0) (fun _ => 
.range (a0.Af.B.length:Int) a0.Af.B.length rfl (.slot 56) 58 [1,56,57] (fun (_:Unit)=>[]) (fun _=>[]) () (S_qp_b2 a0) (fun _ => 
.r true) id) id)
def F_qp (a0:TOf):=(S_qp a0).den
theorem F_qp_ok {a0:TOf}:FO (F_qp a0) 146 [(AV.d (TOf.e a0))] [] vb NL:=fO (s:=S_qp a0) Tryz.func146
def S_q64 (a0:TOf) (a1:List UInt8) (a2:Int):SC (TMe×Int) (TMe×Int) :=
.a 1 1 2 (@F_qp_ok a0) fun rv1=>
 let e0_:=(⟨0,0,[],0,0,0,0,0⟩:TMe)
.ite (!rv1) (
.r (e0_,1)) (
.a 3 3 2 (@F_q31_ok a0 a1 a2) fun rv2=>
.ite (!rv2) (
.r (e0_,6)) (
.call (@F_q2c_ok a0 a1 a2) fun rv3 cv3=>
.call (@F_q1s_ok a0.Af a1 a2) fun rv4 cv4=>
.reg 5 [15] [(7,hc cv3 [] true),(13,hc cv4 [] true)] [.cl 1 cv3 [] 2 true,.cl 0 cv4 [] 2 true]<|
.r ((⟨a0.L,0,a1,a2,0,0,rv3.N,rv4⟩:TMe),0)))
def F_q64 (a0:TOf) (a1:List UInt8) (a2:Int):=(S_q64 a0 a1 a2).den
theorem F_q64_ok {a0:TOf} {a1:List UInt8} {a2:Int}:FO (F_q64 a0 a1 a2) 121 [(AV.d (TOf.e a0)),(AV.d (DV.str a1)),(vi a2)] [] (fun x=>(AV.tup [(AV.d (TMe.e x.1)),(vi x.2)])) NL:=fO (s:=S_q64 a0 a1 a2) Tryz.func121
end
end Go.Proofs.YtdmddkbngmhepaaGreatDoor
/- What the functions compute,and that their calls return it. No condition. -/
namespace Go.Proofs.YtdmddkbngmhepaaGreatDoor
open Go Go.TA
open Go.IntKind (i64)
noncomputable section
set_option maxRecDepth 100000
def S_q65 (a0:TWo) (a1:TSt):SC (TWo×Int) (TWo×Int) :=
 let e1_:=(⟨(⟨0,[]⟩:TTr),[],[]⟩:TWo)
.reg 0 [] [(2,{ obs:=[(2,(bx (TWo.e e1_)))] })] [.pf cz3]<|
.a 1 5 3 (@F_q11_ok a1.Z 1 (a0.O.length:Int)) fun rv1=>
 let e4_:=(0,hv (AV.d (TWo.e e1_)))
.ite (!rv1) (
.reg 2 [] [e4_] [.pf cz4]<|
.r (e1_,6)) (
 let e2_:=(i64.wrap (a1.Z-1))
.guard [(0:Int)<=e2_,(e2_).toNat<a0.O.length]<|
 let e3_:=(bx (TJo.e (⟨0,[],0⟩:TJo)))
.reg 3 [] [(7,{ obs:=[(3,e3_)] })] [.ev 0,.ev 1,.pf cz1]<|
 let e0_:=(a0.O.getD ((e2_).toNat) default)
.ite (a1.P==5) (
.ite (a1.Op.P==8) (
.reg 7 [] [e4_] [.pf cz4]<|
.r (e1_,9)) (
.call (@F_q4i_ok e0_ a1.Op) fun rv2 cv2=>
.reg 8 [] [(3,hc cv2 [] true),(7,{ obs:=[(4,e3_)] })] [.cl 0 cv2 [] 4 true,.pf cz1]<|
.a 9 3 5 (@F_q3e_ok a0 rv2.1 rv2.2) fun rv3=>
.r (rv3.1,rv3.2))) (
.ite (a1.P==6) (
.call (@F_q62_ok e0_) fun rv4 cv4=>
.call (@F_q3e_ok a0 rv4 0) fun rv5 cv5=>
.reg 11 [6] [(2,hc cv4 [] true),(3,hc cv5 [] true)] [.cl 1 cv4 [] 4 true,.cl 0 cv5 [] 4 true]<|
.r (rv5.1,rv5.2)) (
.ite (a1.P==7) (
.call (@F_q63_ok e0_) fun rv6 cv6=>
.call (@F_q3e_ok a0 rv6 0) fun rv7 cv7=>
.reg 13 [6] [(2,hc cv6 [] true),(3,hc cv7 [] true)] [.cl 1 cv6 [] 4 true,.cl 0 cv7 [] 4 true]<|
.r (rv7.1,rv7.2)) (
.call (@F_q4f_ok e0_) fun rv8 cv8=>
.reg 14 [] [(1,hc cv8 [] true),(5,{ obs:=[(4,(bx (TOf.e (⟨0,[],(⟨[],[],[],[]⟩:TBo)⟩:TOf))))] })] [.cl 0 cv8 [] 4 true,.pf cz7]<|
.a 15 5 5 (@F_q64_ok rv8.1 a1.C a1.E) fun rv9=>
.a 16 3 6 (@F_q3t_ok a0 rv9.1 rv9.2) fun rv10=>
.r (rv10.1,rv10.2)))))
def F_q65 (a0:TWo) (a1:TSt):=(S_q65 a0 a1).den
theorem F_q65_ok {a0:TWo} {a1:TSt}:FO (F_q65 a0 a1) 71 [(AV.d (TWo.e a0)),(AV.d (TSt.e a1))] [] (fun x=>(AV.tup [(AV.d (TWo.e x.1)),(vi x.2)])) NL:=fO (s:=S_q65 a0 a1) Tryz.func71
abbrev R_q4k:=Int×(List Int)×(List Int)
def S_q4k (p0_0:Nat) (p0_1:(List TPo)) (_:List UInt8) (_:Int) (_:Int) (p1:TMe) (p2:(List Int)) (p3:(List Int)) (_:(List Int)) (p5:(List Int)):SC R_q4k R_q4k :=
.call (@F_qf_ok p1.Y 1 (p3.length:Int)) fun rv1 cv1=>
.guard [p0_0<p0_1.length]<|
.reg 2 [] [(7,hc cv1 [] true)] [.e p0_1.length,.e p0_1.length,.ev 0,.pf (p:=decide (p0_0=p0_0)=true) (ye rfl),.cl 1 cv1 [] 6 true]<|
.ite (!rv1) (
.r (6,p3,p5)) (
 let e2_:=(i64.wrap (p1.Y-1))
 let e0_:=(0+(e2_).toNat)
.call (@F_qf_ok p1.N 0 (p2.getD e0_ default)) fun rv2 cv2=>
.calld [(!rv2)=false] default (@F_q1b_ok p1.T) fun rv3 cv3 =>
.guard [(0:Int)<=e2_,(e2_).toNat<p2.length,e0_<p2.length]<|
.reg 4 [] [(9,hc cv2 [] true),(14,hc cv3 [] true)] [.e p0_1.length,.e p0_1.length,.ev 7,.pf (p:=decide (p0_0=p0_0)=true) (ye rfl),.e p2.length,.ev 0,.ev 1,.e p2.length,.ev 2,.cl 5 cv2 [] 6 true,.clg 3 [(!rv2)=false] cv3 [] 6 true]<|
.ite (bif (!rv2) then true else (!rv3)) (
.r (2,p3,p5)) (
.guard [(e2_).toNat<p3.length,e0_<p3.length,(e2_).toNat<p5.length,e0_<p5.length]<|
 let e1_:=(if p1.N>(p3.getD e0_ default) then p1.N else (p3.getD e0_ default))
.reg 6 [23,25] [(23,{ obs:=[(3,(eS 1 (DV.i .i64) (p3.set e0_ e1_)))] }),(25,{ obs:=[(5,(eS 1 (DV.i .i64) (p5.set e0_ p1.T)))] })] [.e p0_1.length,.e p0_1.length,.ev 12,.pf (p:=decide (p0_0=p0_0)=true) (ye rfl),.e p0_1.length,.e p0_1.length,.ev 12,.pf (p:=decide (p0_0=p0_0)=true) (ye rfl),.e p0_1.length,.e p0_1.length,.ev 12,.pf (p:=decide (p0_0=p0_0)=true) (ye rfl),.e p3.length,.ev 5,.ev 0,.e p3.length,.ev 1,.e p3.length,.ev 5,.ev 0,.e p3.length,.ev 1,.pf (zr (sz:=1) (e:=(DV.i .i64)) (l:=p3) (i:=e0_) (x:=e1_) (fun _=>rfl)),.e p5.length,.ev 5,.ev 2,.e p5.length,.ev 3,.pf (zr (sz:=1) (e:=(DV.i .i64)) (l:=p5) (i:=e0_) (x:=p1.T) (fun _=>rfl))]<|
.r (0,(p3.set e0_ e1_),(p5.set e0_ p1.T))))
def F_q4k (p0_0:Nat) (p0_1:(List TPo)) (p0_2:List UInt8) (p0_3:Int) (p0_4:Int) (p1:TMe) (p2:(List Int)) (p3:(List Int)) (p4:(List Int)) (p5:(List Int)):=(S_q4k p0_0 p0_1 p0_2 p0_3 p0_4 p1 p2 p3 p4 p5).den
theorem F_q4k_ok {p0_0:Nat} {p0_1:(List TPo)} {p0_2:List UInt8} {p0_3:Int} {p0_4:Int} {p1:TMe} {p2:(List Int)} {p3:(List Int)} {p4:(List Int)} {p5:(List Int)}:FO (F_q4k p0_0 p0_1 p0_2 p0_3 p0_4 p1 p2 p3 p4 p5) 206 [(AV.ptr 0 p0_1.length [.x p0_0 7]),(vp 1)] [(opS 7 TPo.e p0_0 (AV.agg [(AV.d (DV.str p0_2)),(vi p0_3),(vi p0_4),(AV.ref 2 p2.length 0 p2.length),(AV.ref 3 p3.length 0 p3.length),(AV.ref 4 p4.length 0 p4.length),(AV.ref 5 p5.length 0 p5.length)]) p0_1),(bx (TMe.e p1)),(eS 1 (DV.i .i64) p2),(eS 1 (DV.i .i64) p3),(eS 1 (DV.i .i64) p4),(eS 1 (DV.i .i64) p5)] (fun x=>(vi x.1)) (fun x=>[(opS 7 TPo.e p0_0 (AV.agg [(AV.d (DV.str p0_2)),(vi p0_3),(vi p0_4),(AV.ref 2 p2.length 0 p2.length),(AV.ref 3 p3.length 0 p3.length),(AV.ref 4 p4.length 0 p4.length),(AV.ref 5 p5.length 0 p5.length)]) p0_1),(bx (TMe.e p1)),(eS 1 (DV.i .i64) p2),(eS 1 (DV.i .i64) x.2.1),(eS 1 (DV.i .i64) p4),(eS 1 (DV.i .i64) x.2.2)]):=fO (s:=S_q4k p0_0 p0_1 p0_2 p0_3 p0_4 p1 p2 p3 p4 p5) Tryz.func206
def S_q6z (a0:TTr) (a1:List UInt8) (a2:Int) (p0:TMe):SC (TTr×Int) (TTr×Int) :=
.reg 0 [] [(1,{ obs:=[(2,(bx (TTr.e (⟨0,[]⟩:TTr))))] })] [.pf z2e]<|
.a 1 1 3 (@F_qn_ok a0) fun rv1=>
 let e7_:=(AV.d (TTr.e (⟨0,[]⟩:TTr)))
.ite (!rv1) (
.reg 2 [] [(0,hv e7_)] [.pf z1i]<|
.r ((⟨0,[]⟩:TTr),1)) (
.a 3 3 3 (@F_q3a_ok a0 a1 a2) fun rv2=>
.ite (decide (rv2<0)) (
.reg 5 [] [(0,hv e7_)] [.pf z1i]<|
.r ((⟨0,[]⟩:TTr),6)) (
 let e4_:=((rv2).toNat)
.call (@F_q21_ok a0 e4_) fun rv3 cv3=>
.k 6 1 cv3 [] 3 false<|
.kill 4<|
 let e0_:=(rv3.2.getD e4_ default)
.call (@F_q4k_ok e4_ rv3.2 (e0_.C) (e0_.E) (e0_.V) p0 (e0_.A) (e0_.J) (e0_.I) (e0_.T)) fun rv4 cv4=>
.guard [(0:Int)<=rv2,(rv2).toNat<rv3.2.length]<|
 let e15_:=(AV.ptr 5 rv3.2.length [.x e4_ 7])
.reg 7 [] [(4,hv e15_),(5,hc cv4 [5,0,6,7,8,9] false)] [.e rv3.2.length,.ev 0,.ev 1,.pf (p:=LeV (AV.ptr 5 rv3.2.length [.x (0+e4_) 7]) e15_) (z5y),.cl 2 cv4 [5,0,6,7,8,9] 10 false]<|
.ite (rv4.1 != 0) (
.reg 9 [] [(0,hv e7_)] [.pf z1i]<|
.r ((⟨0,[]⟩:TTr),rv4.1)) (
.reg 10 [] [] []<|
.guard [rv4.2.1.length=(e0_.J).length/\rv4.2.2.length=(e0_.T).length]<|
 let e9_:=(bx (TMe.e p0))
 let e10_:=(eS 1 (DV.i .i64) (e0_.A))
 let e11_:=(eS 1 (DV.i .i64) rv4.2.1)
 let e12_:=(eS 1 (DV.i .i64) (e0_.I))
 let e13_:=(eS 1 (DV.i .i64) rv4.2.2)
 let e14_:=(AV.d (DV.str (e0_.C)))
.cst (A:=rv4.2.1.length=(e0_.J).length/\rv4.2.2.length=(e0_.T).length) (.ev 0) [(8,(vp 2)),(9,(vi 0))] [(8,(vp 2)),(9,(vi 0))] [e9_,(Ob.box (AV.agg [(vi rv3.1),(AV.ref 5 rv3.2.length 0 rv3.2.length)])),(Ob.box (AV.agg [(vi rv3.1),(AV.ref 5 rv3.2.length 0 rv3.2.length)])),Ob.dead,Ob.dead,(opS 7 TPo.e e4_ (AV.agg [e14_,(vi (e0_.E)),(vi (e0_.V)),(AV.ref 6 ((e0_.A).length) 0 ((e0_.A).length)),(AV.ref 7 ((e0_.J).length) 0 ((e0_.J).length)),(AV.ref 8 ((e0_.I).length) 0 ((e0_.I).length)),(AV.ref 9 ((e0_.T).length) 0 ((e0_.T).length))]) rv3.2),e10_,e11_,e12_,e13_] [e9_,(Ob.box (AV.agg [(vi rv3.1),(AV.ref 5 rv3.2.length 0 rv3.2.length)])),(Ob.box (AV.agg [(vi rv3.1),(AV.ref 5 rv3.2.length 0 rv3.2.length)])),Ob.dead,Ob.dead,(opS 7 TPo.e e4_ (AV.agg [e14_,(vi (e0_.E)),(vi (e0_.V)),(AV.ref 6 ((e0_.A).length) 0 ((e0_.A).length)),(AV.ref 7 rv4.2.1.length 0 rv4.2.1.length),(AV.ref 8 ((e0_.I).length) 0 ((e0_.I).length)),(AV.ref 9 rv4.2.2.length 0 rv4.2.2.length)]) rv3.2),e10_,e11_,e12_,e13_] (fun h=>⟨rfl,by rw[h.1,h.2]⟩)<|
.guard [(e0_.A).length<2 ^ 63/\rv4.2.1.length<2 ^ 63/\(e0_.I).length<2 ^ 63/\rv4.2.2.length<2 ^ 63]<|
 let e8_:=(⟨e0_.C,e0_.E,e0_.V,e0_.A,rv4.2.1,e0_.I,rv4.2.2⟩:TPo)
 let e1_:=(rv3.2.set e4_ e8_)
 let e2_:=(AV.agg [(vi rv3.1),(AV.ref 5 rv3.2.length 0 rv3.2.length)])
 let e3_:=[e9_,(Ob.box e2_),(Ob.box e2_),Ob.dead,Ob.dead,(eS 7 TPo.e e1_),Ob.dead,Ob.dead,Ob.dead,Ob.dead]
 let e6_:=[(8,(vp 2)),(9,(vi 0))]
.sh (A:=(e0_.A).length<2 ^ 63/\rv4.2.1.length<2 ^ 63/\(e0_.I).length<2 ^ 63/\rv4.2.2.length<2 ^ 63) (.ev 0) e6_ e6_ [e9_,(Ob.box e2_),(Ob.box e2_),Ob.dead,Ob.dead,(opS 7 TPo.e e4_ (AV.agg [e14_,(vi (e0_.E)),(vi (e0_.V)),(AV.ref 6 ((e0_.A).length) 0 ((e0_.A).length)),(AV.ref 7 rv4.2.1.length 0 rv4.2.1.length),(AV.ref 8 ((e0_.I).length) 0 ((e0_.I).length)),(AV.ref 9 rv4.2.2.length 0 rv4.2.2.length)]) rv3.2),e10_,e11_,e12_,e13_] e3_ (fun h=>z3e oTApiPot (P:=[e9_,(Ob.box e2_),(Ob.box e2_),Ob.dead,Ob.dead]) (D:=[]) rfl (⟨e0_.C,e0_.E,e0_.V,[],[],[],[]⟩:TPo) e8_ h rfl) (z26 _)<|
 let e5_:=(AV.agg [(vi rv3.1),(AV.ref 5 (e1_.length) 0 (e1_.length))])
.cst (A:=True) (.pf trivial) e6_ e6_ e3_ [e9_,(Ob.box e5_),(Ob.box e5_),Ob.dead,Ob.dead,(eS 7 TPo.e e1_),Ob.dead,Ob.dead,Ob.dead,Ob.dead] (fun _=>⟨by simp +zetaDelta only,by simp +zetaDelta only[yb]⟩)<|
.guard [e1_.length<2 ^ 63]<|
.frz 5 (.ev 0) none [] [1,2]<|
.r ((⟨rv3.1,e1_⟩:TTr),0))))
def F_q6z (a0:TTr) (a1:List UInt8) (a2:Int) (p0:TMe):=(S_q6z a0 a1 a2 p0).den
theorem F_q6z_ok {a0:TTr} {a1:List UInt8} {a2:Int} {p0:TMe}:FO (F_q6z a0 a1 a2 p0) 165 [(AV.d (TTr.e a0)),(AV.d (DV.str a1)),(vi a2),(AV.fn 206 [(vp 0)])] [(bx (TMe.e p0))] (fun x=>(AV.tup [(AV.d (TTr.e x.1)),(vi x.2)])) (fun _=>[(bx (TMe.e p0))]):=fO (s:=S_q6z a0 a1 a2 p0) Tryz.func165
def S_q66 (a0:TTr) (a1:TMe):SC (TTr×Int) (TTr×Int) :=
.reg 0 [] [(2,{ obs:=[(2,(bx (TTr.e (⟨0,[]⟩:TTr))))] })] [.pf z2e]<|
.ite (a1.To != 0) (
.reg 2 [] [(0,hv (AV.d (TTr.e (⟨0,[]⟩:TTr))))] [.pf z1i]<|
.r ((⟨0,[]⟩:TTr),1)) (
.call (@F_q6z_ok a0 a1.C a1.E a1) fun rv1 cv1=>
.k 3 6 cv1 [1] 3 true<|
.r (rv1.1,rv1.2))
def F_q66 (a0:TTr) (a1:TMe):=(S_q66 a0 a1).den
theorem F_q66_ok {a0:TTr} {a1:TMe}:FO (F_q66 a0 a1) 172 [(AV.d (TTr.e a0)),(AV.d (TMe.e a1))] [] (fun x=>(AV.tup [(AV.d (TTr.e x.1)),(vi x.2)])) NL:=fO (s:=S_q66 a0 a1) Tryz.func172
def S_q67 (a0:(List TMe)):SC (List TMe) (List TMe) :=
.reg 0 [] [] []<|
.nils 0 (
.guard [a0.length * (2 * 72)<=2 ^ 48]<|
.reg 1 [] [] []<|
.lev 0 (AV.d (eL TMe.e a0)) (.pf (lvQ true a0.length fun j=>(TMe.e (a0.getD j default))))<|
.br true (.pf (p:=true=true) rfl)<|
.reg 2 [] [] []<|
.bor 8 (fun j=>AV.d (TMe.e (a0.getD j default))) [2]<|
.cst (A:=a0.length=0) (.ev 1) [(2,AV.ref 0 0 0 0)] [(2,(AV.ref 0 a0.length 0 a0.length))] [(Ob.seq 8 0 fun j=>AV.d (TMe.e (a0.getD j default)))] [(eS 8 TMe.e a0)] (fun h=>⟨by rw[h],by unfold eS; rw[h]⟩)<|
.r a0) (
.reg 1 [] [] []<|
.lev 0 (AV.d (eL TMe.e a0)) (.pf (lvQ false a0.length fun j=>(TMe.e (a0.getD j default))))<|
.br false (.pf (p:=false=false) rfl)<|
.guard [a0.length * (2 * 72)<=2 ^ 48]<|
.reg 3 [] [(2,{ h:=.obj })] [.pf (p:=∀ k,k<a0.length->(AV.d (TMe.e (a0.getD k default))).wd=8) (fun _ _=>rfl),.ev 0]<|
.r a0)
def F_q67 (a0:(List TMe)):=(S_q67 a0).den
theorem F_q67_ok {a0:(List TMe)}:FO (F_q67 a0) 75 [(AV.d (eL TMe.e a0))] [] (fun x=>(AV.ref 0 x.length 0 x.length)) (fun x=>[(eS 8 TMe.e x)]):=fO (s:=S_q67 a0) Tryz.func75
def S_q68 (a1:Int) (a2:Int) (p0:(List TMe)):SC (List TMe) (List TMe) :=
.guard [(0:Int)<=a1,(0:Int)<=a2,(a1).toNat<=(a2).toNat,(a2).toNat<=p0.length]<|
.reg 1 [] [] [.ev 0,.ev 1,.ev 2,.ev 3,.e p0.length,.pf (nn p0.length),.ev 3,.pf (p:=p0.length<=p0.length) (yf _)]<|
.ite (a1==a2) (
.guard [p0.length<2 ^ 63]<|
.reg 3 [] [] []<|
.frz 0 (.ev 0) none [6] []<|
.r p0) (
 let e1_:=(p0.length-(a2).toNat)
 let e3_:=((a1).toNat-0)
.guard [(a1).toNat<=p0.length,e3_+e1_<=p0.length]<|
 let e4_:=(0+(a2).toNat)
.reg 5 [6] [(6,{ h:=.imm,obs:=[(0,(eS 8 TMe.e (copyL p0 e3_ e1_ (fun i=>(p0.getD (e4_+i) default)))))] })] [.ev 3,.ev 0,.e p0.length,.ev 4,.ev 6,.e p0.length,.e p0.length,.e p0.length,.ev 1,.pf (p:=∀ k,k<e1_->(AV.d (TMe.e (p0.getD (e4_+k) default))).wd=8) (fun _ _=>rfl),.pf (z8x (sz:=8) (e:=TMe.e) (l:=p0) (off:=e3_) (k:=e1_) (s:=(fun i=>(p0.getD (e4_+i) default))))]<|
 let e0_:=(e3_+e1_)
 let e6_:=(7,(vi (p0.length:Int)))
.cst (A:=True) (.pf trivial) [(0,(AV.ref 0 p0.length 0 e0_)),e6_] [(0,(AV.ref 0 ((copyL p0 e3_ e1_ (fun i=>(p0.getD (e4_+i) default))).length) 0 e0_)),e6_] [(eS 8 TMe.e (copyL p0 e3_ e1_ (fun i=>(p0.getD (e4_+i) default))))] [(eS 8 TMe.e (copyL p0 e3_ e1_ (fun i=>(p0.getD (e4_+i) default))))] (fun _=>⟨by simp +zetaDelta only[zm],by rfl⟩)<|
.guard [e0_<=p0.length,p0.length<=(copyL p0 e3_ e1_ (fun i=>(p0.getD (e4_+i) default))).length]<|
 let e2_:=(⟨0,0,[],0,0,0,0,0⟩:TMe)
 let e5_:=(p0.length-e0_)
.reg 6 [] [(5,{ obs:=[(0,(eS 8 TMe.e (clearL (copyL p0 e3_ e1_ (fun i=>(p0.getD (e4_+i) default))) (0+e0_) e5_ e2_)))] })] [.w e0_,.pf (nn p0.length),.ev 0,.ev 1,.pf (y2b ((copyL p0 e3_ e1_ (fun i=>(p0.getD (e4_+i) default))).length)),.pf (y2b ((copyL p0 e3_ e1_ (fun i=>(p0.getD (e4_+i) default))).length)),.pf (zez (sz:=8) (e:=TMe.e) (l:=(copyL p0 e3_ e1_ (fun i=>(p0.getD (e4_+i) default)))) (off:=(0+e0_)) (n:=e5_) (z:=e2_))]<|
.cst (A:=True) (.pf trivial) [(0,(AV.ref 0 ((copyL p0 e3_ e1_ (fun i=>(p0.getD (e4_+i) default))).length) 0 e0_))] [(0,(AV.ref 0 ((clearL (copyL p0 e3_ e1_ (fun i=>(p0.getD (e4_+i) default))) (0+e0_) e5_ e2_).length) 0 e0_))] [(eS 8 TMe.e (clearL (copyL p0 e3_ e1_ (fun i=>(p0.getD (e4_+i) default))) (0+e0_) e5_ e2_))] [(eS 8 TMe.e (clearL (copyL p0 e3_ e1_ (fun i=>(p0.getD (e4_+i) default))) (0+e0_) e5_ e2_))] (fun _=>⟨by simp +zetaDelta only[z1g,zm],by rfl⟩)<|
.guard [(clearL (copyL p0 e3_ e1_ (fun i=>(p0.getD (e4_+i) default))) (0+e0_) e5_ e2_).length<2 ^ 63]<|
.reg 7 [] [] []<|
.guard [e0_<=(clearL (copyL p0 e3_ e1_ (fun i=>(p0.getD (e4_+i) default))) (0+e0_) e5_ e2_).length]<|
.frz 0 (.ev 1) (some (.der (fun (h:e0_<=(clearL (copyL p0 e3_ e1_ (fun i=>(p0.getD (e4_+i) default))) (0+e0_) e5_ e2_).length)=>(h:e0_<=(clearL (copyL p0 e3_ e1_ (fun i=>(p0.getD (e4_+i) default))) (0+e0_) e5_ e2_).length)) 0)) [6] []<|
.lev 6 (AV.d (eL TMe.e ((clearL (copyL p0 e3_ e1_ (fun i=>(p0.getD (e4_+i) default))) (0+e0_) e5_ e2_).take e0_))) (.der (fun (h:e0_<=(clearL (copyL p0 e3_ e1_ (fun i=>(p0.getD (e4_+i) default))) (0+e0_) e5_ e2_).length)=>lvT TMe.e (clearL (copyL p0 e3_ e1_ (fun i=>(p0.getD (e4_+i) default))) (0+e0_) e5_ e2_) h) 0)<|
.r ((clearL (copyL p0 e3_ e1_ (fun i=>(p0.getD (e4_+i) default))) (0+e0_) e5_ e2_).take e0_))
def F_q68 (a1:Int) (a2:Int) (p0:(List TMe)):=(S_q68 a1 a2 p0).den
theorem F_q68_ok {a1:Int} {a2:Int} {p0:(List TMe)}:FO (F_q68 a1 a2 p0) 173 [(AV.ref 0 p0.length 0 p0.length),(vi a1),(vi a2)] [(eS 8 TMe.e p0)] (fun x=>(AV.d (eL TMe.e x))) (fun _=>[Ob.dead]):=fO (s:=S_q68 a1 a2 p0) Tryz.func173
def S_q3v (a0:TWo) (a1:Int):SC TWo TWo :=
.reg 0 [] [(1,{ obs:=[(1,(bx (TWo.e (⟨(⟨0,[]⟩:TTr),[],[]⟩:TWo))))] })] [.pf cz3]<|
.call (@F_q67_ok a0.W) fun rv1 cv1=>
.call (@F_q68_ok a1 (i64.wrap (a1+1)) rv1) fun rv2 cv2=>
.reg 1 [] [(2,hc cv1 [] false),(6,hc cv2 [2] false)] [.cl 1 cv1 [] 2 false,.cl 0 cv2 [2] 3 false]<|
.r (⟨a0.K,a0.O,rv2⟩:TWo)
def F_q3v (a0:TWo) (a1:Int):=(S_q3v a0 a1).den
theorem F_q3v_ok {a0:TWo} {a1:Int}:FO (F_q3v a0 a1) 123 [(AV.d (TWo.e a0)),(vi a1)] [] (fun x=>(AV.d (TWo.e x))) NL:=fO (s:=S_q3v a0 a1) Tryz.func123
def S_q69 (a0:TWo) (a1:Int):SC (TWo×Int) (TWo×Int) :=
 let e1_:=(⟨(⟨0,[]⟩:TTr),[],[]⟩:TWo)
.reg 0 [] [(1,{ obs:=[(1,(bx (TWo.e e1_)))] })] [.pf cz3]<|
.guard [(0:Int)<=a1,(a1).toNat<a0.W.length]<|
.reg 1 [] [] [.ev 0,.ev 1]<|
 let e0_:=(a0.W.getD ((a1).toNat) default)
.ite ((e0_.To)==0) (
.call (@F_q66_ok a0.K e0_) fun rv1 cv1=>
.reg 3 [] [(3,hc cv1 [] true),(7,{ obs:=[(3,(bx (TTr.e (⟨0,[]⟩:TTr))))] })] [.cl 0 cv1 [] 3 true,.pf z2e]<|
.ite (rv1.2 != 0) (
.reg 5 [] [(0,hv (AV.d (TWo.e e1_)))] [.pf cz4]<|
.r (e1_,rv1.2)) (
.a 7 2 4 (@F_q3v_ok (⟨rv1.1,a0.O,a0.W⟩:TWo) a1) fun rv2=>
.r (rv2,0))) (
 let e2_:=(i64.wrap ((e0_.To)-1))
.call (@F_q4i_ok (a0.O.getD ((e2_).toNat) default) (⟨8,e0_.C,e0_.E,0,0,0,0,0,e0_.A,e0_.I⟩:TOp)) fun rv3 cv3=>
.guard [(0:Int)<=e2_,(e2_).toNat<a0.O.length]<|
.reg 8 [20,21] [(16,hc cv3 [] true),(20,{ obs:=[(3,(bx (TJo.e (⟨0,[],0⟩:TJo))))] })] [.ev 0,.ev 1,.ev 0,.ev 1,.cl 2 cv3 [] 3 true,.cl 2 cv3 [] 4 true,.pf cz1]<|
.call (@F_q3v_ok a0 a1) fun rv4 cv4=>
.call (@F_q3e_ok rv4 rv3.1 rv3.2) fun rv5 cv5=>
.reg 9 [8] [(2,hc cv4 [] true),(5,hc cv5 [] true)] [.cl 1 cv4 [] 4 true,.cl 0 cv5 [] 4 true]<|
.r (rv5.1,rv5.2))
def F_q69 (a0:TWo) (a1:Int):=(S_q69 a0 a1).den
theorem F_q69_ok {a0:TWo} {a1:Int}:FO (F_q69 a0 a1) 122 [(AV.d (TWo.e a0)),(vi a1)] [] (fun x=>(AV.tup [(AV.d (TWo.e x.1)),(vi x.2)])) NL:=fO (s:=S_q69 a0 a1) Tryz.func122
def S_q6a (a0:TWo) (a1:TSt):SC (TWo×Int) (TWo×Int) :=
 let e0_:=(⟨(⟨0,[]⟩:TTr),[],[]⟩:TWo)
.reg 0 [] [(2,{ obs:=[(2,(bx (TWo.e e0_)))] })] [.pf cz3]<|
.a 1 6 3 (@F_q11_ok a1.Ai 0 (i64.wrap ((a0.W.length:Int)-1))) fun rv1=>
.ite (!rv1) (
.reg 2 [] [(0,hv (AV.d (TWo.e e0_)))] [.pf cz4]<|
.r (e0_,6)) (
.ite (a1.P==9) (
.a 5 3 3 (@F_q69_ok a0 a1.Ai) fun rv2=>
.r (rv2.1,rv2.2)) (
.ite (a1.P==11) (
.call (@F_q3t_ok a0 (a0.W.getD ((a1.Ai).toNat) default) 0) fun rv3 cv3=>
.guard [(0:Int)<=a1.Ai,(a1.Ai).toNat<a0.W.length]<|
.reg 7 [10] [(7,hc cv3 [] true)] [.ev 0,.ev 1,.cl 2 cv3 [] 3 true]<|
.r (rv3.1,rv3.2)) (
.a 8 3 3 (@F_q3v_ok a0 a1.Ai) fun rv4=>
.r (rv4,0))))
def F_q6a (a0:TWo) (a1:TSt):=(S_q6a a0 a1).den
theorem F_q6a_ok {a0:TWo} {a1:TSt}:FO (F_q6a a0 a1) 72 [(AV.d (TWo.e a0)),(AV.d (TSt.e a1))] [] (fun x=>(AV.tup [(AV.d (TWo.e x.1)),(vi x.2)])) NL:=fO (s:=S_q6a a0 a1) Tryz.func72
def S_q4l (a0:TWo) (a1:TSt):SC (TWo×Int) (TWo×Int) :=
 let e0_:=(⟨(⟨0,[]⟩:TTr),[],[]⟩:TWo)
.reg 0 [] [(2,{ obs:=[(2,(bx (TWo.e e0_)))] })] [.pf cz3]<|
.cut none [2,3,4,7] (fun (sv1:Bool)=>[(8,(vb sv1))]) (fun _=>[]) (
.ite (a1.P==1) (
.r (.next (a1.P==1))) (
.ite (a1.P==2) (
.r (.next (a1.P==2))) (
.ite (a1.P==3) (
.r (.next (a1.P==3))) (
.r (.next (a1.P==4)))))) fun sv1=>
.ite sv1 (
.a 6 2 3 (@F_q5z_ok a0 a1) fun rv2=>
.r (rv2.1,rv2.2)) (
.cut none [2,3,4,7] (fun (sv3:Bool)=>[(18,(vb sv3))]) (fun _=>[]) (
.ite (a1.P==5) (
.r (.next (a1.P==5))) (
.ite (a1.P==6) (
.r (.next (a1.P==6))) (
.ite (a1.P==7) (
.r (.next (a1.P==7))) (
.r (.next (a1.P==8)))))) fun sv3=>
.ite sv3 (
.a 11 2 3 (@F_q65_ok a0 a1) fun rv4=>
.r (rv4.1,rv4.2)) (
.cut none [2,3,4] (fun (sv5:Bool)=>[(28,(vb sv5))]) (fun _=>[]) (
.ite (a1.P==9) (
.r (.next (a1.P==9))) (
.ite (a1.P==10) (
.r (.next (a1.P==10))) (
.r (.next (a1.P==11))))) fun sv5=>
.ite sv5 (
.a 15 2 3 (@F_q6a_ok a0 a1) fun rv6=>
.r (rv6.1,rv6.2)) (
.reg 16 [] [(0,hv (AV.d (TWo.e e0_)))] [.pf cz4]<|
.r (e0_,1))))
def F_q4l (a0:TWo) (a1:TSt):=(S_q4l a0 a1).den
theorem F_q4l_ok {a0:TWo} {a1:TSt}:FO (F_q4l a0 a1) 36 [(AV.d (TWo.e a0)),(AV.d (TSt.e a1))] [] (fun x=>(AV.tup [(AV.d (TWo.e x.1)),(vi x.2)])) NL:=fO (s:=S_q4l a0 a1) Tryz.func36
theorem ztl:∀ k,k<0->(DV.b false).wd=8:=fun _ h=>absurd h (y3n _)
def S_q6b (a0:(List TMe)):SC (List TMe) (List TMe) :=
.reg 0 [] [] []<|
 let e0_:=(AV.d (eL TMe.e a0))
.nils 0 (
.guard [(0+a0.length) * (2 * 72)<=2 ^ 48]<|
.reg 1 [] [] []<|
.lev 0 e0_ (.pf (lvQ true a0.length fun j=>(TMe.e (a0.getD j default))))<|
.br true (.pf (p:=true=true) rfl)<|
.reg 2 [] [] []<|
.lev 2 e0_ (.der (fun (h:a0.length=0)=>lvZ TMe.e a0 h) 1)<|
.r a0) (
.reg 1 [] [] []<|
.lev 0 e0_ (.pf (lvQ false a0.length fun j=>(TMe.e (a0.getD j default))))<|
.br false (.pf (p:=false=false) rfl)<|
.guard [(0+a0.length) * (2 * 72)<=2 ^ 48]<|
.reg 3 [] [(2,hv e0_)] [.pf (p:=∀ k,k<a0.length->AV.d (TMe.e (a0.getD k default))=AV.d (TMe.e (a0.getD k default))/\(TMe.e (a0.getD k default)).wd=8) (fun _ _=>⟨rfl,rfl⟩),.pf ztl,.ev 0,.pf (z3j (e:=TMe.e) (x:=a0))]<|
.r a0)
def F_q6b (a0:(List TMe)):=(S_q6b a0).den
theorem F_q6b_ok {a0:(List TMe)}:FO (F_q6b a0) 75 [(AV.d (eL TMe.e a0))] [] (fun x=>(AV.d (eL TMe.e x))) NL:=fO (s:=S_q6b a0) Tryz.func75
def S_qk_b1 (a0:TWo) (iv1:Nat) (sv2:Int×(List TJo)×(List TMe)×(List TPo)):SC TWo (Step (Int×(List TJo)×(List TMe)×(List TPo)) TWo) :=
.reg 5 [] [(2,{ obs:=[(3,(bx (TPo.e (⟨[],0,0,[],[],[],[]⟩:TPo))))] })] [.w iv1,.ev 0,.pf cz6]<|
 let e1_:=(a0.K.D.getD iv1 default)
.call (@F_q20_ok (e1_.A)) fun rv3 cv3=>
.call (@F_q20_ok (e1_.J)) fun rv4 cv4=>
.call (@F_q20_ok (e1_.I)) fun rv5 cv5=>
.call (@F_q20_ok (e1_.T)) fun rv6 cv6=>
.reg 6 [13,15,17,19] [(2,hc cv3 [] true),(5,hc cv4 [] true),(8,hc cv5 [] true),(11,hc cv6 [] true)] [.cl 3 cv3 [] 4 true,.cl 2 cv4 [] 4 true,.cl 1 cv5 [] 4 true,.cl 0 cv6 [] 4 true]<|
.guard [(sv2.2.2.2.length+1) * (2 * 128)<=2 ^ 48]<|
 let e0_:=([(⟨e1_.C,e1_.E,e1_.V,rv3,rv4,rv5,rv6⟩:TPo)]:List TPo)
 let e2_:=(sv2.2.2.2++e0_)
.reg 7 [] [(4,hv (AV.d (eL TPo.e e0_))),(5,{ cast:=some (AV.ref 2 (e2_.length) 0 (e2_.length)),obs:=[(2,(eS 7 TPo.e e2_))] })] [.pf (ze TPo.e e0_),.e sv2.2.2.2.length,.e sv2.2.2.2.length,.pf (p:=∀ k,k<1->(AV.d (TPo.e (e0_.getD k default))).wd=7) (fun _ _=>rfl),.ev 0,.pf (zw (o:=2) (l:=sv2.2.2.2) (x:=e0_)),.pf (z10 (sz:=7) (e:=TPo.e) (l:=sv2.2.2.2) (x:=e0_))]<|
.c (sv2.1,sv2.2.1,sv2.2.2.1,e2_)
def S_qk_b2 (sv2:Int×(List TJo)×(List TMe)×(List TPo)) (iv7:Nat) (sv8:Int×(List TMe)×(List TJo)):SC TWo (Step (Int×(List TMe)×(List TJo)) TWo) :=
.reg 13 [] [(2,{ obs:=[(4,(bx (TJo.e (⟨0,[],0⟩:TJo))))] })] [.w iv7,.ev 0,.pf cz1]<|
 let e1_:=(sv2.2.1.getD iv7 default)
.a 14 2 5 (@F_q4j_ok (e1_.Ad)) fun rv9=>
.guard [(sv8.2.2.length+1) * (2 * 40)<=2 ^ 48]<|
 let e0_:=([(⟨e1_.Z,rv9,e1_.Ag⟩:TJo)]:List TJo)
 let e2_:=(sv8.2.2++e0_)
.reg 15 [] [(3,hv (AV.d (eL TJo.e e0_))),(4,{ cast:=some (AV.ref 3 (e2_.length) 0 (e2_.length)),obs:=[(3,(eS 3 TJo.e e2_))] })] [.pf (ze TJo.e e0_),.e sv8.2.2.length,.e sv8.2.2.length,.pf (p:=∀ k,k<1->(AV.d (TJo.e (e0_.getD k default))).wd=3) (fun _ _=>rfl),.ev 0,.pf (zw (o:=3) (l:=sv8.2.2) (x:=e0_)),.pf (z10 (sz:=3) (e:=TJo.e) (l:=sv8.2.2) (x:=e0_))]<|
.c (sv8.1,sv8.2.1,e2_)
def S_qk (a0:TWo):SC TWo TWo :=
 let e0_:=(bx (TWo.e (⟨(⟨0,[]⟩:TTr),[],[]⟩:TWo)))
.reg 0 [] [(1,{ obs:=[(1,e0_)] })] [.pf cz3]<|
.reg 2 [] [] []<|
 let e3_:=[(1,(vp 0)),(2,(vp 1)),(3,(AV.d (eL TPo.e a0.K.D)))]
 let e4_:=(AV.full 0 fun _=>DV.b false)
.sh (A:=True) (.pf trivial) e3_ e3_ [(Ob.box (AV.agg [(AV.agg [(vi a0.K.M),e4_]),(AV.d (eL TJo.e a0.O)),(AV.d (eL TMe.e a0.W))])),e0_] [(Ob.box (AV.agg [(AV.agg [(vi a0.K.M),(AV.ref 2 0 0 0)]),(AV.d (eL TJo.e a0.O)),(AV.d (eL TMe.e a0.W))])),e0_,(eS 7 TPo.e ([]:List TPo))] (fun _=>(z1t (sz:=7) (f:=fun j=>AV.d (TPo.e (([]:List TPo).getD j default))) (.box _ _ _ _ _ (y15 rfl) (TrV.agg (TrL.cons (TrV.agg (TrL.cons (TrV.keep _) (TrL.cons TrV.born TrL.nil))) (TrL.cons (TrV.keep _) (TrL.cons (TrV.keep _) TrL.nil)))) (.keep _ _ _ _ (y15 rfl) (.nil _))))) (z16 (k:=0) rfl (TrS.keep _) (z16 (k:=1) rfl (TrS.keep _) (z16 (k:=2) rfl (TrS.keep _) z2g)))<|
.range (a0.K.D.length:Int) a0.K.D.length rfl (.slot 14) 16 [1,2,14,15] (fun (_:Int×(List TJo)×(List TMe)×(List TPo))=>[]) (fun sv2=>[(0,(Ob.box (AV.agg [(AV.agg [(vi sv2.1),(AV.ref 2 sv2.2.2.2.length 0 sv2.2.2.2.length)]),(AV.d (eL TJo.e sv2.2.1)),(AV.d (eL TMe.e sv2.2.2.1))]))),(2,(eS 7 TPo.e sv2.2.2.2))]) (a0.K.M,a0.O,a0.W,([]:List TPo)) (S_qk_b1 a0) (fun sv2 => 
.reg 10 [] [] []<|
 let e1_:=(AV.ref 2 sv2.2.2.2.length 0 sv2.2.2.2.length)
 let e2_:=[(1,(vp 0)),(2,(vp 1)),(6,(AV.d (eL TJo.e sv2.2.1)))]
 let e5_:=(AV.d (eL TMe.e sv2.2.2.1))
 let e6_:=(AV.agg [(vi sv2.1),e1_])
.sh (A:=True) (.pf trivial) e2_ e2_ [(Ob.box (AV.agg [e6_,e4_,e5_])),e0_,(eS 7 TPo.e sv2.2.2.2)] [(Ob.box (AV.agg [e6_,(AV.ref 3 0 0 0),e5_])),e0_,(eS 7 TPo.e sv2.2.2.2),(eS 3 TJo.e ([]:List TJo))] (fun _=>(z1t (sz:=3) (f:=fun j=>AV.d (TJo.e (([]:List TJo).getD j default))) (.box _ _ _ _ _ (y15 rfl) (TrV.agg (TrL.cons (TrV.keep _) (TrL.cons TrV.born (TrL.cons (TrV.keep _) TrL.nil)))) (.keep _ _ _ _ (y15 rfl) (.keep _ _ _ _ (y15 rfl) (.nil _)))))) (z16 (k:=0) rfl (TrS.keep _) (z16 (k:=1) rfl (TrS.keep _) (z16 (k:=2) rfl (TrS.keep _) z2g)))<|
.range (sv2.2.1.length:Int) sv2.2.1.length rfl (.slot 48) 50 [1,2,48,49] (fun (_:Int×(List TMe)×(List TJo))=>[]) (fun sv8=>[(0,(Ob.box (AV.agg [(AV.agg [(vi sv8.1),e1_]),(AV.ref 3 sv8.2.2.length 0 sv8.2.2.length),(AV.d (eL TMe.e sv8.2.1))]))),(3,(eS 3 TJo.e sv8.2.2))]) (sv2.1,sv2.2.2.1,([]:List TJo)) (S_qk_b2 sv2) (fun sv8 => 
.a 17 2 4 (@F_q6b_ok sv8.2.1) fun rv10=>
.guard [sv2.2.2.2.length<2 ^ 63]<|
.reg 18 [] [] []<|
.frz 2 (.ev 0) none [] [0,1]<|
.guard [sv8.2.2.length<2 ^ 63]<|
.frz 3 (.ev 0) none [] [0,1]<|
.r (⟨(⟨sv8.1,sv2.2.2.2⟩:TTr),sv8.2.2,rv10⟩:TWo)) id) id
def F_qk (a0:TWo):=(S_qk a0).den
theorem F_qk_ok {a0:TWo}:FO (F_qk a0) 37 [(AV.d (TWo.e a0))] [] (fun x=>(AV.d (TWo.e x))) NL:=fO (s:=S_qk a0) Tryz.func37
end
end Go.Proofs.YtdmddkbngmhepaaGreatDoor
/- What the functions compute,and that their calls return it. No condition. -/
namespace Go.Proofs.YtdmddkbngmhepaaGreatDoor
open Go Go.TA
open Go.IntKind (i64)
noncomputable section
set_option maxRecDepth 100000
abbrev R_qz:=TWo×Int
def S_qz (a0:TWo) (a1:TSt):SC R_qz R_qz :=
 let e0_:=(⟨(⟨0,[]⟩:TTr),[],[]⟩:TWo)
.reg 0 [] [(2,{ obs:=[(2,(bx (TWo.e e0_)))] })] [.pf cz3]<|
.a 1 1 3 (@F_q15_ok a0) fun rv1=>
.ite (!rv1) (
.reg 2 [] [(0,hv (AV.d (TWo.e e0_)))] [.pf cz4]<|
.r (e0_,1)) (
.call (@F_q4l_ok a0 a1) fun rv2 cv2=>
.reg 3 [] [(2,hc cv2 [] true),(6,{ obs:=[(3,(bx (TWo.e e0_)))] })] [.cl 0 cv2 [] 3 true,.pf cz3]<|
.a 4 1 4 (@F_qk_ok rv2.1) fun rv3=>
.r (rv3,rv2.2))
def F_qz (a0:TWo) (a1:TSt):=(S_qz a0 a1).den
theorem F_qz_ok {a0:TWo} {a1:TSt}:FO (F_qz a0 a1) 12 [(AV.d (TWo.e a0)),(AV.d (TSt.e a1))] [] (fun x=>(AV.tup [(AV.d (TWo.e x.1)),(vi x.2)])) NL:=fO (s:=S_qz a0 a1) Tryz.func12
abbrev R_q22:=Int×Int×Int×Int
def S_q22_b1 (a0:(List TOf)) (a1:TPo) (iv1:Nat) (sv2:Int×Int):SC R_q22 (Step (Int×Int) R_q22) :=
.reg 3 [] [(2,{ obs:=[(1,(bx (TOf.e (⟨0,[],(⟨[],[],[],[]⟩:TBo)⟩:TOf))))] })] [.w iv1,.ev 0,.pf cz7]<|
.a 4 5 2 (@F_q2c_ok (a0.getD iv1 default) a1.C a1.E) fun rv3=>
.a 6 11 3 (@F_q3q_ok (a0.getD iv1 default) a1.C a1.E) fun rv4=>
 let e0_:=(i64.wrap (rv3.A-rv3.N))
.c ((i64.wrap (sv2.1+e0_)),(i64.wrap (sv2.2+(i64.wrap (e0_-rv4)))))
def S_q22 (a0:(List TOf)) (a1:TPo):SC R_q22 R_q22 :=
.range (a0.length:Int) a0.length rfl (.slot 11) 13 [3,11,12] (fun (sv2:Int×Int)=>[(6,(vi sv2.1)),(7,(vi sv2.2))]) (fun _=>[]) (0,0) (S_q22_b1 a0 a1) (fun sv2 => 
.a 8 3 1 (@F_q2t_ok a1) fun rv5=>
.r (a1.V,rv5,sv2.1,sv2.2)) id
def F_q22 (a0:(List TOf)) (a1:TPo):=(S_q22 a0 a1).den
theorem F_q22_ok {a0:(List TOf)} {a1:TPo}:FO (F_q22 a0 a1) 40 [(AV.d (eL TOf.e a0)),(AV.d (TPo.e a1))] [] (fun x=>(AV.tup [(vi x.1),(vi x.2.1),(vi x.2.2.1),(vi x.2.2.2)])) NL:=fO (s:=S_q22 a0 a1) Tryz.func40
abbrev R_q3w:=Int×Int×Int×Int
def S_q3w (a0:TWo) (a1:List UInt8) (a2:Int):SC R_q3w R_q3w :=
.call (@F_q3c_ok a0.K a1 a2) fun rv1 cv1=>
.reg 1 [] [(4,hc cv1 [] true),(8,{ obs:=[(1,(bx (TPo.e (⟨[],0,0,[],[],[],[]⟩:TPo))))] })] [.cl 0 cv1 [] 1 true,.pf cz6]<|
.calld [(!rv1.2)=false] default (@F_q15_ok a0) fun rv2 cv2 =>
.reg 2 [] [(4,hc cv2 [] true)] [.clg 0 [(!rv1.2)=false] cv2 [] 2 true]<|
.ite (bif (!rv1.2) then true else (!rv2)) (
.r (0,0,0,0)) (
.a 4 1 2 (@F_qy_ok a0) fun rv3=>
.a 5 2 2 (@F_q22_ok rv3.1 rv1.1) fun rv4=>
.r (rv4.1,rv4.2.1,rv4.2.2.1,rv4.2.2.2))
def F_q3w (a0:TWo) (a1:List UInt8) (a2:Int):=(S_q3w a0 a1 a2).den
theorem F_q3w_ok {a0:TWo} {a1:List UInt8} {a2:Int}:FO (F_q3w a0 a1 a2) 13 [(AV.d (TWo.e a0)),(AV.d (DV.str a1)),(vi a2)] [] (fun x=>(AV.tup [(vi x.1),(vi x.2.1),(vi x.2.2.1),(vi x.2.2.2)])) NL:=fO (s:=S_q3w a0 a1 a2) Tryz.func13
def S_q3f (a0:TPo):SC Int Int :=
.a 1 1 1 (@F_qe_ok a0) fun rv1=>
 let e0_:=(i64.wrap (rv1-a0.V))
.r (if e0_>0 then e0_ else 0)
def F_q3f (a0:TPo):=(S_q3f a0).den
theorem F_q3f_ok {a0:TPo}:FO (F_q3f a0) 14 [(AV.d (TPo.e a0))] [] vi NL:=fO (s:=S_q3f a0) Tryz.func14
def S_q3x (a0:TPo):SC Int Int :=
.a 1 1 1 (@F_q2t_ok a0) fun rv1=>
 let e0_:=(i64.wrap (rv1-a0.V))
.r (if 0>e0_ then 0 else e0_)
def F_q3x (a0:TPo):=(S_q3x a0).den
theorem F_q3x_ok {a0:TPo}:FO (F_q3x a0) 41 [(AV.d (TPo.e a0))] [] vi NL:=fO (s:=S_q3x a0) Tryz.func41
def S_q23_b1 (a0:TWo) (rv1:R_qy) (iv2:Nat) (_:Unit):SC Bool (Step (Unit) Bool) :=
.reg 6 [] [(2,{ obs:=[(1,(bx (TPo.e (⟨[],0,0,[],[],[],[]⟩:TPo))))] })] [.w iv2,.ev 0,.pf cz6]<|
 let e1_:=(a0.K.D.getD iv2 default)
.a 7 2 2 (@F_q22_ok rv1.1 e1_) fun rv3=>
 let e0_:=(bif (decide (rv3.2.2.2>rv3.2.2.1)) then true else (decide (rv3.2.2.1>rv3.2.1)))
.calld [e0_=false] default (@F_q3x_ok e1_) fun rv4 cv4 =>
.reg 8 [] [(12,hc cv4 [] true)] [.clg 0 [e0_=false] cv4 [] 2 true]<|
.ite (bif e0_ then true else (decide (rv3.2.1>(i64.wrap (rv3.1+rv4))))) (
.r (.ret false)) (
.r (.cont ()))
def S_q23 (a0:TWo):SC Bool Bool :=
.a 1 1 1 (@F_q15_ok a0) fun rv5=>
.ite (!rv5) (
.r false) (
.a 3 1 1 (@F_qy_ok a0) fun rv1=>
.range (a0.K.D.length:Int) a0.K.D.length rfl (.slot 23) 25 [3,23,24] (fun (_:Unit)=>[]) (fun _=>[]) () (S_q23_b1 a0 rv1) (fun _ => 
.r true) id)
def F_q23 (a0:TWo):=(S_q23 a0).den
theorem F_q23_ok {a0:TWo}:FO (F_q23 a0) 16 [(AV.d (TWo.e a0))] [] vb NL:=fO (s:=S_q23 a0) Tryz.func16
abbrev R_q2i:=Int×Int×Int×Int
def S_q2i_b1 (a0:TWo) (a1:TPo) (iv1:Nat) (sv2:Int×Int):SC R_q2i (Step (Int×Int) R_q2i) :=
.reg 4 [] [(2,{ obs:=[(2,(bx (TJo.e (⟨0,[],0⟩:TJo))))] })] [.w iv1,.ev 0,.pf cz1]<|
.call (@F_q3k_ok (a0.O.getD iv1 default)) fun rv3 cv3=>
.reg 5 [] [(1,hc cv3 [] true),(5,{ obs:=[(3,(bx (TOf.e (⟨0,[],(⟨[],[],[],[]⟩:TBo)⟩:TOf))))] })] [.cl 0 cv3 [] 3 true,.pf cz7]<|
.a 6 5 4 (@F_q1n_ok rv3.1 a1.C a1.E) fun rv4=>
.a 8 7 5 (@F_qd_ok rv3.1.Af a1.C a1.E) fun rv5=>
.c ((i64.wrap (sv2.1+(i64.wrap (rv4.A-rv4.N)))),(i64.wrap (sv2.2+rv5)))
def S_q2i (a0:TWo) (a1:TPo):SC R_q2i R_q2i :=
.range (a0.O.length:Int) a0.O.length rfl (.slot 16) 18 [3,16,17] (fun (sv2:Int×Int)=>[(8,(vi sv2.1)),(9,(vi sv2.2))]) (fun _=>[]) (0,0) (S_q2i_b1 a0 a1) (fun sv2 => 
.a 10 3 2 (@F_qe_ok a1) fun rv6=>
.r (a1.V,rv6,sv2.1,sv2.2)) id
def F_q2i (a0:TWo) (a1:TPo):=(S_q2i a0 a1).den
theorem F_q2i_ok {a0:TWo} {a1:TPo}:FO (F_q2i a0 a1) 45 [(AV.d (TWo.e a0)),(AV.d (TPo.e a1))] [] (fun x=>(AV.tup [(vi x.1),(vi x.2.1),(vi x.2.2.1),(vi x.2.2.2)])) NL:=fO (s:=S_q2i a0 a1) Tryz.func45
def S_q2j_b1 (a0:TWo) (iv1:Nat) (_:Unit):SC Bool (Step (Unit) Bool) :=
.reg 5 [] [(2,{ obs:=[(1,(bx (TPo.e (⟨[],0,0,[],[],[],[]⟩:TPo))))] })] [.w iv1,.ev 0,.pf cz6]<|
 let e1_:=(a0.K.D.getD iv1 default)
.a 6 2 2 (@F_q2i_ok a0 e1_) fun rv2=>
 let e0_:=(bif (decide (rv2.2.2.2>rv2.2.2.1)) then true else (decide (rv2.2.2.1>rv2.2.1)))
.calld [e0_=false] default (@F_q3f_ok e1_) fun rv3 cv3 =>
.reg 7 [] [(12,hc cv3 [] true)] [.clg 0 [e0_=false] cv3 [] 2 true]<|
.ite (bif e0_ then true else (decide (rv2.2.1>(i64.wrap (rv2.1+rv3))))) (
.r (.ret false)) (
.r (.cont ()))
def S_q2j (a0:TWo):SC Bool Bool :=
.a 1 1 1 (@F_q1_ok a0) fun rv4=>
.ite (!rv4) (
.r false) (
.range (a0.K.D.length:Int) a0.K.D.length rfl (.slot 14) 16 [1,14,15] (fun (_:Unit)=>[]) (fun _=>[]) () (S_q2j_b1 a0) (fun _ => 
.r true) id)
def F_q2j (a0:TWo):=(S_q2j a0).den
theorem F_q2j_ok {a0:TWo}:FO (F_q2j a0) 18 [(AV.d (TWo.e a0))] [] vb NL:=fO (s:=S_q2j a0) Tryz.func18
theorem ztm:LeV (AV.tup [(AV.d (TWo.e (⟨(⟨0,[]⟩:TTr),[],[]⟩:TWo))),(AV.full 0 fun _=>DV.b false),(vi 3)]) (AV.tup [(AV.d (TWo.e (⟨(⟨0,[]⟩:TTr),[],[]⟩:TWo))),(vl ([])),(vi 3)]):=LeV.tup (LeVs.cons (LeV.refl _) (LeVs.cons (lvN (DV.i .i64)) (LeVs.cons (LeV.refl _) LeVs.nil)))
abbrev R_q16:=TWo×(List Int)×Int
def S_q16_b1 (a1:(List TSt)) (iv1:Nat) (sv2:TWo×(List Int)):SC R_q16 (Step (TWo×(List Int)) R_q16) :=
.reg 9 [] [] [.w iv1,.ev 0]<|
.call (@F_q4l_ok sv2.1 (a1.getD iv1 default)) fun rv3 cv3=>
.reg 10 [] [(2,hc cv3 [] true),(6,{ obs:=[(4,(bx (TWo.e (⟨(⟨0,[]⟩:TTr),[],[]⟩:TWo))))] })] [.cl 0 cv3 [] 4 true,.pf cz3]<|
.cut none [4,7,9,13,27,28,29] (fun (_:TWo)=>[]) (fun sv4=>[(1,(bx (TWo.e sv4)))]) (
.ite (rv3.2==0) (
.r (.next rv3.1)) (
.r (.next sv2.1))) fun sv4=>
.guard [(sv2.2.length+1) * (2 * 8)<=2 ^ 48]<|
 let e0_:=([rv3.2]:List Int)
.reg 13 [] [(2,hv (vl e0_)),(3,{ h:=.obj,cast:=some (AV.ref 2 ((sv2.2++e0_).length) 0 ((sv2.2++e0_).length)),obs:=[(2,(eS 1 (DV.i .i64) (sv2.2++e0_)))] })] [.pf (ze (DV.i .i64) e0_),.e sv2.2.length,.e sv2.2.length,.pf (p:=∀ k,k<1->(AV.d ((DV.i .i64) (e0_.getD k default))).wd=1) (fun _ _=>rfl),.ev 0,.pf (zw (o:=2) (l:=sv2.2) (x:=e0_)),.pf (z10 (sz:=1) (e:=(DV.i .i64)) (l:=sv2.2) (x:=e0_))]<|
.c (sv4,(sv2.2++e0_))
def S_q16 (a0:Int) (a1:(List TSt)):SC R_q16 R_q16 :=
 let e0_:=(⟨(⟨0,[]⟩:TTr),[],[]⟩:TWo)
.reg 0 [] [(0,{ obs:=[(0,(bx (TWo.e e0_)))] })] [.pf cz3]<|
.call (@F_q18_ok a0) fun rv5 cv5=>
.reg 1 [] [(1,hc cv5 [] true),(5,{ obs:=[(1,(bx (TWo.e e0_)))] })] [.cl 0 cv5 [] 1 true,.pf cz3]<|
 let e1_:=(AV.d (TWo.e e0_))
.ite (rv5.2 != 0) (
.reg 3 [] [(0,hv e1_)] [.pf cz4]<|
.ret [.pf (p:=LeV (AV.tup [e1_,(AV.full 0 fun _=>DV.b false),(vi rv5.2)]) (AV.tup [e1_,(vl ([])),(vi rv5.2)])) (LeV.tup (LeVs.cons (LeV.refl _) (LeVs.cons (lvN (DV.i .i64)) (LeVs.cons (LeV.refl _) LeVs.nil))))] (e0_,[],rv5.2)) (
.ite (decide ((a1.length:Int)>200)) (
.reg 5 [] [(0,hv e1_)] [.pf cz4]<|
.ret [.pf ztm] (e0_,[],3)) (
.reg 7 [] [] []<|
.bor 1 (fun j=>AV.d ((DV.i .i64) (([]:List Int).getD j default))) [9]<|
.range (a1.length:Int) a1.length rfl (.slot 27) 29 [4,7,27,28] (fun (sv2:TWo×(List Int))=>[(9,(AV.ref 2 sv2.2.length 0 sv2.2.length))]) (fun sv2=>[(1,(bx (TWo.e sv2.1))),(2,(eS 1 (DV.i .i64) sv2.2))]) (rv5.1,([]:List Int)) (S_q16_b1 a1) (fun sv2 => 
.a 15 1 3 (@F_qk_ok sv2.1) fun rv6=>
.guard [sv2.2.length<2 ^ 63]<|
.frz 2 (.ev 0) none [5] []<|
.r (rv6,sv2.2,0)) id))
def F_q16 (a0:Int) (a1:(List TSt)):=(S_q16 a0 a1).den
theorem F_q16_ok {a0:Int} {a1:(List TSt)}:FO (F_q16 a0 a1) 46 [(vi a0),(AV.d (eL TSt.e a1))] [] (fun x=>(AV.tup [(AV.d (TWo.e x.1)),(vl x.2.1),(vi x.2.2)])) NL:=fO (s:=S_q16 a0 a1) Tryz.func46
def S_qt_b1 (rv1:R_q16) (iv2:Nat) (_:Unit):SC Bool (Step (Unit) Bool) :=
.reg 6 [] [] [.w iv2,.ev 0]<|
.ite ((rv1.2.1.getD iv2 default) != 0) (
.r (.ret false)) (
.r (.cont ()))
def S_qt:SC Bool Bool :=
 let e0_:=(⟨0,[],0,0,0,0,0,0,0,0⟩:TOp)
 let e3_:=(⟨9,0,e0_,[],0,0,0⟩:TSt)
 let e1_:=([(⟨1,0,e0_,[49],12,100,0⟩:TSt),(⟨2,1,e0_,[49],12,100,0⟩:TSt),(⟨4,1,e0_,[49],12,0,0⟩:TSt),(⟨11,0,e0_,[],0,0,0⟩:TSt),e3_,e3_]:List TSt)
.call (@F_q16_ok 1 e1_) fun rv1 cv1=>
.reg 1 [] [(6,hv (AV.d (eL TSt.e e1_))),(7,hc cv1 [] true),(12,{ obs:=[(0,(bx (TWo.e (⟨(⟨0,[]⟩:TTr),[],[]⟩:TWo))))] })] [.pf (ze TSt.e e1_),.cl 0 cv1 [] 0 true,.pf cz3]<|
.ite (bif (rv1.2.2 != 0) then true else ((rv1.2.1.length:Int) != 6)) (
.r false) (
.range (rv1.2.1.length:Int) rv1.2.1.length rfl (.slot 29) 31 [1,29,30] (fun (_:Unit)=>[]) (fun _=>[]) () (S_qt_b1 rv1) (fun _ => 
.a 10 1 1 (@F_q3w_ok rv1.1 ([49]) 12) fun rv3=>
 let e2_:=(bif (bif (bif (rv3.1==100) then (rv3.2.1==100) else false) then (rv3.2.2.1==100) else false) then (rv3.2.2.2==0) else false)
.calld [e2_=true] default (@F_q23_ok rv1.1) fun rv4 cv4 =>
.reg 11 [] [(16,hc cv4 [] true)] [.clg 0 [e2_=true] cv4 [] 1 true]<|
.r (bif (bif e2_ then rv4 else false) then ((rv1.1.W.length:Int)==0) else false)) id)
def F_qt:=(S_qt).den
theorem F_qt_ok :FO (F_qt) 19 [] [] vb NL:=fO (s:=S_qt) Tryz.func19
def S_qh_b1 (rv1:R_qz) (iv2:Nat) (_:Unit):SC Bool (Step (Unit) Bool) :=
.reg 14 [] [(2,{ obs:=[(4,(bx (TPo.e (⟨[],0,0,[],[],[],[]⟩:TPo))))] })] [.w iv2,.ev 0,.pf cz6]<|
 let e2_:=(rv1.1.K.D.getD iv2 default)
.a 15 5 5 (@F_q3w_ok rv1.1 (e2_.C) (e2_.E)) fun rv3=>
 let e0_:=(bif (bif (decide (rv3.2.2.2<0)) then true else (decide (rv3.2.2.2>rv3.2.2.1))) then true else (decide (rv3.2.2.1>rv3.2.1)))
.calld [e0_=false] default (@F_q3f_ok e2_) fun rv4 cv4 =>
 let e1_:=(bif e0_ then true else (decide (rv3.2.1>(i64.wrap (rv3.1+rv4)))))
.calld [e1_=false] default (@F_qe_ok e2_) fun rv5 cv5 =>
.reg 16 [] [(16,hc cv4 [] true),(23,hc cv5 [] true)] [.clg 2 [e0_=false] cv4 [] 5 true,.clg 0 [e1_=false] cv5 [] 5 true]<|
.ite (bif e1_ then true else (rv3.2.1 != rv5)) (
.r (.ret false)) (
.r (.cont ()))
def S_qh_b2 (rv6:R_qs) (iv7:Nat) (sv8:TWo):SC Bool (Step (TWo) Bool) :=
.reg 8 [] [] [.w iv7,.ev 0]<|
.call (@F_qz_ok sv8 (rv6.1.getD iv7 default)) fun rv1 cv1=>
.reg 9 [] [(2,hc cv1 [] true),(6,{ obs:=[(3,(bx (TWo.e (⟨(⟨0,[]⟩:TTr),[],[]⟩:TWo))))] })] [.cl 0 cv1 [] 3 true,.pf cz3]<|
.ite (rv1.2 != 0) (
.c sv8) (
.range (rv1.1.K.D.length:Int) rv1.1.K.D.length rfl (.slot 47) 49 [5,30,31,32,47,48] (fun (_:Unit)=>[]) (fun _=>[]) () (S_qh_b1 rv1) (fun _ => 
.c rv1.1) .ret)
def S_qh (a0:(List Int)):SC Bool Bool :=
.call (@F_q2k_ok a0) fun rv9 cv9=>
.k 1 1 cv9 [] 0 false<|
.call (@F_ql_ok 1 3 rv9) fun rv10 cv10=>
.k 2 1 cv10 [0] 1 false<|
.call (@F_q18_ok rv10.1) fun rv11 cv11=>
.reg 3 [] [(1,hc cv11 [] true),(5,{ obs:=[(1,(bx (TWo.e (⟨(⟨0,[]⟩:TTr),[],[]⟩:TWo))))] })] [.cl 0 cv11 [] 1 true,.pf cz3]<|
.ite (rv11.2 != 0) (
.r false) (
.call (@F_qs_ok rv10.1 26 rv10.2) fun rv6 cv6=>
.k 6 2 cv6 [0] 2 false<|
.range (rv6.1.length:Int) rv6.1.length rfl (.slot 30) 32 [5,30,31] (fun (_:TWo)=>[]) (fun sv8=>[(1,(bx (TWo.e sv8)))]) rv11.1 (S_qh_b2 rv6) (fun sv8 => 
.call (@F_q23_ok sv8) fun rv12 cv12=>
.calld [rv12=true] default (@F_q1_ok sv8) fun rv13 cv13 =>
 let e1_:=(bif rv12 then rv13 else false)
.calld [e1_=true] default (@F_q2j_ok sv8) fun rv14 cv14 =>
 let e0_:=(bif e1_ then rv14 else false)
.calld [e0_=true] default (@F_qt_ok) fun rv15 cv15 =>
.reg 20 [] [(1,hc cv12 [] true),(4,hc cv13 [] true),(8,hc cv14 [] true),(11,hc cv15 [] true)] [.cl 6 cv12 [] 2 true,.clg 4 [rv12=true] cv13 [] 2 true,.clg 2 [e1_=true] cv14 [] 2 true,.clg 0 [e0_=true] cv15 [] 2 true]<|
.r (bif e0_ then rv15 else false)) id)
def F_qh (a0:(List Int)):=(S_qh a0).den
theorem F_qh_ok {a0:(List Int)}:FO (F_qh a0) 3 [(vl a0)] [] vb NL:=fO (s:=S_qh a0) Tryz.func3
def S_qi_b1 (rv1:R_qz) (iv2:Nat) (_:Unit):SC Bool (Step (Unit) Bool) :=
.reg 17 [] [(2,{ obs:=[(5,(bx (TPo.e (⟨[],0,0,[],[],[],[]⟩:TPo))))] })] [.w iv2,.ev 0,.pf cz6]<|
 let e0_:=(rv1.1.K.D.getD iv2 default)
.a 18 5 6 (@F_q3w_ok rv1.1 (e0_.C) (e0_.E)) fun rv3=>
.a 19 1 6 (@F_q3f_ok e0_) fun rv4=>
.ite (bif (rv4 != 0) then true else (decide (rv3.2.2.2>rv3.1))) (
.r (.ret false)) (
.r (.cont ()))
def S_qi_b2 (rv5:R_qs) (iv6:Nat) (sv7:TTape×TWo):SC Bool (Step (TTape×TWo) Bool) :=
.reg 8 [] [] [.w iv6,.ev 0]<|
 let e0_:=(rv5.1.getD iv6 default)
.call (@F_q3i_ok sv7.2.K (e0_.C) (e0_.E)) fun rv8 cv8=>
.reg 9 [] [(6,hc cv8 [] true),(10,{ obs:=[(3,(bx (TPo.e (⟨[],0,0,[],[],[],[]⟩:TPo))))] })] [.cl 0 cv8 [] 3 true,.pf cz6]<|
.cut none [3,5,8,32,33,34] (fun (_:TTape×TSt)=>[]) (fun sv9=>[(0,(bx (TTape.e sv9.1))),(2,(bx (TSt.e sv9.2)))]) (
.ite (bif (bif ((e0_.P)==1) then rv8.2 else false) then (decide ((e0_.S)<rv8.1.V)) else false) (
.call (@F_q5_ok 50 sv7.1) fun rv10 cv10=>
.reg 11 [3,6] [(3,hc cv10 [0] false)] [.cl 0 cv10 [0] 4 false]<|
.r (.next (rv10.2,(⟨e0_.P,e0_.Z,e0_.Op,e0_.C,e0_.E,(i64.wrap (rv8.1.V+rv10.1)),e0_.Ai⟩:TSt)))) (
.r (.next (sv7.1,e0_)))) fun sv9=>
.call (@F_qz_ok sv7.2 sv9.2) fun rv1 cv1=>
.reg 12 [] [(2,hc cv1 [] true),(6,{ obs:=[(4,(bx (TWo.e (⟨(⟨0,[]⟩:TTr),[],[]⟩:TWo))))] })] [.cl 0 cv1 [] 4 true,.pf cz3]<|
.ite (rv1.2 != 0) (
.r (.cont (sv9.1,sv7.2))) (
.range (rv1.1.K.D.length:Int) rv1.1.K.D.length rfl (.slot 78) 80 [3,5,32,33,34,78,79] (fun (_:Unit)=>[]) (fun _=>[]) () (S_qi_b1 rv1) (fun _ => 
.r (.cont (sv9.1,rv1.1))) .ret)
def S_qi (a0:(List Int)):SC Bool Bool :=
.call (@F_q2k_ok a0) fun rv11 cv11=>
.k 1 1 cv11 [] 0 false<|
.call (@F_ql_ok 1 3 rv11) fun rv12 cv12=>
.k 2 1 cv12 [0] 1 false<|
.call (@F_q18_ok rv12.1) fun rv13 cv13=>
.reg 3 [] [(1,hc cv13 [] true),(5,{ obs:=[(1,(bx (TWo.e (⟨(⟨0,[]⟩:TTr),[],[]⟩:TWo))))] })] [.cl 0 cv13 [] 1 true,.pf cz3]<|
.ite (rv13.2 != 0) (
.r false) (
.call (@F_qs_ok rv12.1 24 rv12.2) fun rv5 cv5=>
.k 6 2 cv5 [0] 2 false<|
.range (rv5.1.length:Int) rv5.1.length rfl (.slot 32) 34 [3,5,32,33] (fun (_:TTape×TWo)=>[]) (fun sv7=>[(0,(bx (TTape.e sv7.1))),(1,(bx (TWo.e sv7.2)))]) (rv5.2,rv13.1) (S_qi_b2 rv5) (fun _ => 
.a 23 0 2 (@F_qt_ok) fun rv14=>
.r rv14) id)
def F_qi (a0:(List Int)):=(S_qi a0).den
theorem F_qi_ok {a0:(List Int)}:FO (F_qi a0) 4 [(vl a0)] [] vb NL:=fO (s:=S_qi a0) Tryz.func4
abbrev R_q1f:=TWo×TTape
def S_q1f_b1 (rv1:R_qs) (iv2:Nat) (sv3:TWo):SC R_q1f (Step (TWo) R_q1f) :=
.reg 4 [] [] [.w iv2,.ev 0]<|
.call (@F_q43_ok sv3 (rv1.1.getD iv2 default)) fun rv4 cv4=>
.reg 5 [] [(2,hc cv4 [] true),(6,{ obs:=[(4,(bx (TWo.e (⟨(⟨0,[]⟩:TTr),[],[]⟩:TWo))))] })] [.cl 0 cv4 [] 4 true,.pf cz3]<|
.ite (rv4.2==0) (
.c rv4.1) (
.c sv3)
def S_q1f (a1:Int) (a2:Int) (p0:TTape):SC R_q1f R_q1f :=
 let e0_:=(bx (TWo.e (⟨(⟨0,[]⟩:TTr),[],[]⟩:TWo)))
.reg 0 [] [(0,{ obs:=[(1,e0_)] })] [.pf cz3]<|
.call (@F_q1g_ok a1) fun rv5 cv5=>
.reg 1 [] [(1,hc cv5 [] true),(5,{ obs:=[(2,e0_)] })] [.cl 0 cv5 [] 2 true,.pf cz3]<|
.call (@F_qs_ok a1 a2 p0) fun rv1 cv1=>
.k 2 3 cv1 [0] 3 false<|
.range (rv1.1.length:Int) rv1.1.length rfl (.slot 21) 23 [6,7,21,22] (fun (_:TWo)=>[]) (fun sv3=>[(2,(bx (TWo.e sv3)))]) rv5.1 (S_q1f_b1 rv1) (fun sv3 => 
.r (sv3,rv1.2)) id
def F_q1f (a1:Int) (a2:Int) (p0:TTape):=(S_q1f a1 a2 p0).den
theorem F_q1f_ok {a1:Int} {a2:Int} {p0:TTape}:FO (F_q1f a1 a2 p0) 22 [(vp 0),(vi a1),(vi a2)] [(bx (TTape.e p0))] (fun x=>(AV.d (TWo.e x.1))) (fun x=>[(bx (TTape.e x.2))]):=fO (s:=S_q1f a1 a2 p0) Tryz.func22
def S_q10_b1 (a0:(List Int)) (a1:(List Int)) (iv1:Nat) (_:Unit):SC Bool (Step (Unit) Bool) :=
.guard [iv1<a1.length]<|
.reg 6 [] [] [.w iv1,.ev 1,.w iv1,.ev 0]<|
.ite ((a0.getD iv1 default) != (a1.getD iv1 default)) (
.r (.ret false)) (
.r (.cont ()))
def S_q10 (a0:(List Int)) (a1:(List Int)):SC Bool Bool :=
.ite ((a0.length:Int) != (a1.length:Int)) (
.r false) (
.range (a0.length:Int) a0.length rfl (.slot 0) 13 [0,1,12] (fun (_:Unit)=>[]) (fun _=>[]) () (S_q10_b1 a0 a1) (fun _ => 
.r true) id)
def F_q10 (a0:(List Int)) (a1:(List Int)):=(S_q10 a0 a1).den
theorem F_q10_ok {a0:(List Int)} {a1:(List Int)}:FO (F_q10 a0 a1) 87 [(vl a0),(vl a1)] [] vb NL:=fO (s:=S_q10 a0 a1) Tryz.func87
def S_q6c (a0:TPo) (a1:TPo):SC Bool Bool :=
 let e1_:=(bif (bif (a0.C==a1.C) then (a0.E==a1.E) else false) then (a0.V==a1.V) else false)
.calld [e1_=true] default (@F_q10_ok a0.A a1.A) fun rv1 cv1 =>
 let e0_:=(bif e1_ then rv1 else false)
.calld [e0_=true] default (@F_q10_ok a0.J a1.J) fun rv2 cv2 =>
 let e3_:=(bif e0_ then rv2 else false)
.calld [e3_=true] default (@F_q10_ok a0.I a1.I) fun rv3 cv3 =>
 let e2_:=(bif e3_ then rv3 else false)
.calld [e2_=true] default (@F_q10_ok a0.T a1.T) fun rv4 cv4 =>
.reg 1 [] [(24,hc cv1 [] true),(31,hc cv2 [] true),(38,hc cv3 [] true),(45,hc cv4 [] true)] [.clg 6 [e1_=true] cv1 [] 2 true,.clg 4 [e0_=true] cv2 [] 2 true,.clg 2 [e3_=true] cv3 [] 2 true,.clg 0 [e2_=true] cv4 [] 2 true]<|
.r (bif e2_ then rv4 else false)
def F_q6c (a0:TPo) (a1:TPo):=(S_q6c a0 a1).den
theorem F_q6c_ok {a0:TPo} {a1:TPo}:FO (F_q6c a0 a1) 48 [(AV.d (TPo.e a0)),(AV.d (TPo.e a1))] [] vb NL:=fO (s:=S_q6c a0 a1) Tryz.func48
def S_q17_b1 (a0:TTr) (a1:TTr) (iv1:Nat) (_:Unit):SC Bool (Step (Unit) Bool) :=
.call (@F_q6c_ok (a0.D.getD iv1 default) (a1.D.getD iv1 default)) fun rv2 cv2=>
.guard [iv1<a1.D.length]<|
.reg 6 [] [(10,hc cv2 [] true)] [.w iv1,.ev 2,.w iv1,.ev 0,.cl 1 cv2 [] 2 true]<|
.ite (!rv2) (
.r (.ret false)) (
.r (.cont ()))
def S_q17 (a0:TTr) (a1:TTr):SC Bool Bool :=
.ite (bif (a0.M != a1.M) then true else ((a0.D.length:Int) != (a1.D.length:Int))) (
.r false) (
.guard [a0.D.length<2 ^ 63]<|
.range (a0.D.length:Int) a0.D.length rfl (.why (.ev 0)) 23 [2,3,22] (fun (_:Unit)=>[]) (fun _=>[]) () (S_q17_b1 a0 a1) (fun _ => 
.r true) id)
def F_q17 (a0:TTr) (a1:TTr):=(S_q17 a0 a1).den
theorem F_q17_ok {a0:TTr} {a1:TTr}:FO (F_q17 a0 a1) 23 [(AV.d (TTr.e a0)),(AV.d (TTr.e a1))] [] vb NL:=fO (s:=S_q17 a0 a1) Tryz.func23
def S_q2u (a0:TWo) (a1:Int):SC (TOf×Int) (TOf×Int) :=
 let e0_:=(⟨0,[],(⟨[],[],[],[]⟩:TBo)⟩:TOf)
.reg 0 [] [(1,{ obs:=[(1,(bx (TOf.e e0_)))] })] [.pf cz7]<|
.a 1 1 2 (@F_q15_ok a0) fun rv1=>
 let e2_:=(0,hv (AV.d (TOf.e e0_)))
.ite (!rv1) (
.reg 2 [] [e2_] [.pf cz8]<|
.r (e0_,1)) (
.a 3 4 2 (@F_q11_ok a1 1 (a0.O.length:Int)) fun rv2=>
.ite (!rv2) (
.reg 4 [] [e2_] [.pf cz8]<|
.r (e0_,6)) (
 let e1_:=(i64.wrap (a1-1))
.call (@F_q39_ok (a0.O.getD ((e1_).toNat) default)) fun rv3 cv3=>
.guard [(0:Int)<=e1_,(e1_).toNat<a0.O.length]<|
.reg 5 [] [(6,hc cv3 [] true)] [.ev 0,.ev 1,.cl 2 cv3 [] 2 true]<|
.r (rv3.1,rv3.2)))
def F_q2u (a0:TWo) (a1:Int):=(S_q2u a0 a1).den
theorem F_q2u_ok {a0:TWo} {a1:Int}:FO (F_q2u a0 a1) 24 [(AV.d (TWo.e a0)),(vi a1)] [] (fun x=>(AV.tup [(AV.d (TOf.e x.1)),(vi x.2)])) NL:=fO (s:=S_q2u a0 a1) Tryz.func24
def S_q3_b1 (a0:TBo) (a1:TBo) (iv1:Nat) (_:Unit):SC Bool (Step (Unit) Bool) :=
.guard [iv1<a1.B.length]<|
.reg 6 [] [] [.w iv1,.ev 1,.w iv1,.ev 0]<|
 let e0_:=(a0.B.getD iv1 default)
 let e1_:=(a1.B.getD iv1 default)
.ite (!(((e0_.L)==(e1_.L))&&(((e0_.C)==(e1_.C))&&(((e0_.E)==(e1_.E))&&(((e0_.Aa)==(e1_.Aa))&&(((e0_.S)==(e1_.S))&&(((e0_.Ac)==(e1_.Ac))&&true))))))) (
.r (.ret false)) (
.r (.cont ()))
def S_q3_b2 (a0:TBo) (a1:TBo) (iv2:Nat) (_:Unit):SC Bool (Step (Unit) Bool) :=
.guard [iv2<a1.F.length]<|
.reg 12 [] [] [.w iv2,.ev 1,.w iv2,.ev 0]<|
 let e0_:=(a0.F.getD iv2 default)
 let e1_:=(a1.F.getD iv2 default)
.ite (!(((e0_.L)==(e1_.L))&&(((e0_.X)==(e1_.X))&&(((e0_.Aa)==(e1_.Aa))&&(((e0_.S)==(e1_.S))&&(((e0_.Ac)==(e1_.Ac))&&(((e0_.Ah)==(e1_.Ah))&&(((e0_.Aj)==(e1_.Aj))&&true)))))))) (
.r (.ret false)) (
.r (.cont ()))
def S_q3_b3 (a0:TBo) (a1:TBo) (iv3:Nat) (_:Unit):SC Bool (Step (Unit) Bool) :=
.guard [iv3<a1.G.length]<|
.reg 18 [] [] [.w iv3,.ev 1,.w iv3,.ev 0]<|
 let e0_:=(a0.G.getD iv3 default)
 let e1_:=(a1.G.getD iv3 default)
.ite (!(((e0_.L)==(e1_.L))&&(((e0_.Ab)==(e1_.Ab))&&(((e0_.Aa)==(e1_.Aa))&&(((e0_.S)==(e1_.S))&&true))))) (
.r (.ret false)) (
.r (.cont ()))
def S_q3_b4 (a0:TBo) (a1:TBo) (iv4:Nat) (_:Unit):SC Bool (Step (Unit) Bool) :=
.guard [iv4<a1.Q.length]<|
.reg 24 [] [] [.w iv4,.ev 1,.w iv4,.ev 0]<|
 let e0_:=(a0.Q.getD iv4 default)
 let e1_:=(a1.Q.getD iv4 default)
.ite (!(((e0_.L)==(e1_.L))&&(((e0_.U)==(e1_.U))&&(((e0_.Ak)==(e1_.Ak))&&(((e0_.Aa)==(e1_.Aa))&&(((e0_.Al)==(e1_.Al))&&true)))))) (
.r (.ret false)) (
.r (.cont ()))
def S_q3 (a0:TBo) (a1:TBo):SC Bool Bool :=
.ite (bif (bif (bif ((a0.B.length:Int) != (a1.B.length:Int)) then true else ((a0.F.length:Int) != (a1.F.length:Int))) then true else ((a0.G.length:Int) != (a1.G.length:Int))) then true else ((a0.Q.length:Int) != (a1.Q.length:Int))) (
.r false) (
.guard [a0.B.length<2 ^ 63]<|
.range (a0.B.length:Int) a0.B.length rfl (.why (.ev 0)) 46 [2,3,45] (fun (_:Unit)=>[]) (fun _=>[]) () (S_q3_b1 a0 a1) (fun _ => 
.guard [a0.F.length<2 ^ 63]<|
.range (a0.F.length:Int) a0.F.length rfl (.why (.ev 0)) 64 [2,3,63] (fun (_:Unit)=>[]) (fun _=>[]) () (S_q3_b2 a0 a1) (fun _ => 
.guard [a0.G.length<2 ^ 63]<|
.range (a0.G.length:Int) a0.G.length rfl (.why (.ev 0)) 82 [2,3,81] (fun (_:Unit)=>[]) (fun _=>[]) () (S_q3_b3 a0 a1) (fun _ => 
.guard [a0.Q.length<2 ^ 63]<|
.range (a0.Q.length:Int) a0.Q.length rfl (.why (.ev 0)) 100 [2,3,99] (fun (_:Unit)=>[]) (fun _=>[]) () (S_q3_b4 a0 a1) (fun _ => 
.r true) id) id) id) id)
def F_q3 (a0:TBo) (a1:TBo):=(S_q3 a0 a1).den
theorem F_q3_ok {a0:TBo} {a1:TBo}:FO (F_q3 a0 a1) 50 [(AV.d (TBo.e a0)),(AV.d (TBo.e a1))] [] vb NL:=fO (s:=S_q3 a0 a1) Tryz.func50
def S_q24_b1 (a0:TOf) (a1:TOf) (iv1:Nat) (_:Unit):SC Bool (Step (Unit) Bool) :=
.guard [iv1<a1.H.length]<|
.reg 6 [] [] [.w iv1,.ev 1,.w iv1,.ev 0]<|
 let e0_:=(a0.H.getD iv1 default)
 let e1_:=(a1.H.getD iv1 default)
.ite (!(((e0_.C)==(e1_.C))&&(((e0_.E)==(e1_.E))&&(((e0_.A)==(e1_.A))&&(((e0_.I)==(e1_.I))&&(((e0_.N)==(e1_.N))&&true)))))) (
.r (.ret false)) (
.r (.cont ()))
def S_q24 (a0:TOf) (a1:TOf):SC Bool Bool :=
 let e0_:=(bif (a0.L != a1.L) then true else ((a0.H.length:Int) != (a1.H.length:Int)))
.calld [e0_=false] default (@F_q3_ok a0.Af a1.Af) fun rv2 cv2 =>
.reg 1 [] [(19,hc cv2 [] true)] [.clg 0 [e0_=false] cv2 [] 2 true]<|
.ite (bif e0_ then true else (!rv2)) (
.r false) (
.guard [a0.H.length<2 ^ 63]<|
.range (a0.H.length:Int) a0.H.length rfl (.why (.ev 0)) 31 [2,3,30] (fun (_:Unit)=>[]) (fun _=>[]) () (S_q24_b1 a0 a1) (fun _ => 
.r true) id)
def F_q24 (a0:TOf) (a1:TOf):=(S_q24 a0 a1).den
theorem F_q24_ok {a0:TOf} {a1:TOf}:FO (F_q24 a0 a1) 25 [(AV.d (TOf.e a0)),(AV.d (TOf.e a1))] [] vb NL:=fO (s:=S_q24 a0 a1) Tryz.func25
end
end Go.Proofs.YtdmddkbngmhepaaGreatDoor
/- What the functions compute,and that their calls return it. No condition. -/
namespace Go.Proofs.YtdmddkbngmhepaaGreatDoor
open Go Go.TA
open Go.IntKind (i64)
noncomputable section
set_option maxRecDepth 100000
def S_q4_b1 (rv1:(TOf×Int)) (rv2:(TOf×Int)) (iv3:Nat) (_:Unit):SC Bool (Step (Unit) Bool) :=
.reg 28 [] [] [.w iv3,.ev 0]<|
 let e0_:=(rv2.1.H.getD iv3 default)
.a 29 5 10 (@F_q1n_ok rv1.1 (e0_.C) (e0_.E)) fun rv4=>
.ite (decide (rv4.A<(e0_.A))) (
.r (.ret false)) (
.r (.cont ()))
def S_q4_b2 (rv5:R_q1f) (rv6:R_qz) (rv7:R_qz) (sv8:Int):SC Bool (Step (Int) Bool) :=
.ite (decide (sv8<=2)) (
.call (@F_q2u_ok rv6.1 sv8) fun rv1 cv1=>
 let e1_:=(bx (TOf.e (⟨0,[],(⟨[],[],[],[]⟩:TBo)⟩:TOf)))
.reg 21 [] [(2,hc cv1 [] true),(6,{ obs:=[(6,e1_)] })] [.cl 0 cv1 [] 6 true,.pf cz7]<|
.call (@F_q2u_ok rv7.1 sv8) fun rv9 cv9=>
.reg 22 [] [(2,hc cv9 [] true),(6,{ obs:=[(7,e1_)] })] [.cl 0 cv9 [] 7 true,.pf cz7]<|
.call (@F_q2u_ok rv5.1 sv8) fun rv2 cv2=>
.reg 23 [] [(2,hc cv2 [] true),(6,{ obs:=[(8,e1_)] })] [.cl 0 cv2 [] 8 true,.pf cz7]<|
 let e0_:=(bif (bif (rv1.2 != 0) then true else (rv9.2 != 0)) then true else (rv2.2 != 0))
.calld [e0_=false] default (@F_q24_ok rv1.1 rv9.1) fun rv10 cv10 =>
.reg 24 [] [(13,hc cv10 [] true)] [.clg 0 [e0_=false] cv10 [] 9 true]<|
.ite (bif e0_ then true else (!rv10)) (
.r (.ret false)) (
.range (rv2.1.H.length:Int) rv2.1.H.length rfl (.slot 156) 158 [4,8,12,15,16,30,31,156,157] (fun (_:Unit)=>[]) (fun _=>[]) () (S_q4_b1 rv1 rv2) (fun _ => 
.r (.cont (i64.wrap (sv8+1)))) .ret)) (
.r (.brk sv8))
def S_q4_b3 (rv5:R_q1f) (iv11:Nat) (_:Unit):SC Bool (Step (Unit) Bool) :=
 let e3_:=(⟨0,[],0,0,0,0,0,0,0,0⟩:TOp)
.call (@F_qz_ok rv5.1 (⟨10,0,e3_,[],0,0,(iv11:Int)⟩:TSt)) fun rv12 cv12=>
 let e2_:=(bx (TWo.e (⟨(⟨0,[]⟩:TTr),[],[]⟩:TWo)))
.reg 6 [] [(3,hc cv12 [] true),(7,{ obs:=[(2,e2_)] })] [.cl 0 cv12 [] 2 true,.pf cz3]<|
 let e0_:=(bif (rv12.2 != 0) then true else ((rv12.1.W.length:Int) != (i64.wrap ((rv5.1.W.length:Int)-1))))
.calld [e0_=false] default (@F_q17_ok rv12.1.K rv5.1.K) fun rv13 cv13 =>
.reg 7 [] [(17,hc cv13 [] true)] [.clg 0 [e0_=false] cv13 [] 3 true]<|
.ite (bif e0_ then true else (!rv13)) (
.r (.ret false)) (
 let e4_:=(⟨9,0,e3_,[],0,0,(iv11:Int)⟩:TSt)
.call (@F_qz_ok rv5.1 e4_) fun rv6 cv6=>
.reg 9 [] [(3,hc cv6 [] true),(7,{ obs:=[(3,e2_)] })] [.cl 0 cv6 [] 3 true,.pf cz3]<|
.ite (rv6.2 != 0) (
.r (.cont ())) (
.call (@F_qz_ok rv5.1 (⟨11,0,e3_,[],0,0,(iv11:Int)⟩:TSt)) fun rv14 cv14=>
.reg 11 [] [(3,hc cv14 [] true),(7,{ obs:=[(4,e2_)] })] [.cl 0 cv14 [] 4 true,.pf cz3]<|
.call (@F_qz_ok rv14.1 e4_) fun rv15 cv15=>
.reg 12 [] [(3,hc cv15 [] true),(7,{ obs:=[(5,e2_)] })] [.cl 0 cv15 [] 5 true,.pf cz3]<|
.a 13 6 6 (@F_qz_ok rv15.1 (⟨9,0,e3_,[],0,0,(i64.wrap ((rv15.1.W.length:Int)-1))⟩:TSt)) fun rv7=>
.ite (decide ((rv5.1.W.length:Int)>=200)) (
.a 15 0 6 (@F_qt_ok) fun rv16=>
.r (.ret rv16)) (
 let e1_:=(bif (bif (rv14.2 != 0) then true else (rv15.2 != 0)) then true else (rv7.2 != 0))
.calld [e1_=false] default (@F_q17_ok rv6.1.K rv7.1.K) fun rv17 cv17 =>
.reg 16 [] [(15,hc cv17 [] true)] [.clg 0 [e1_=false] cv17 [] 6 true]<|
.ite (bif e1_ then true else (!rv17)) (
.r (.ret false)) (
.iter [4,8,12,30,31] (fun (sv8:Int)=>[(15,(vi sv8))]) (fun _=>[]) 1 (S_q4_b2 rv5 rv6 rv7) (fun _ =>
.r (.cont ())) .ret))))
def S_q4 (a0:(List Int)):SC Bool Bool :=
.call (@F_q2k_ok a0) fun rv18 cv18=>
.k 1 1 cv18 [] 0 false<|
.call (@F_q1f_ok 2 22 rv18) fun rv5 cv5=>
.reg 2 [] [(1,hc cv5 [0] false),(2,{ obs:=[(1,(bx (TWo.e (⟨(⟨0,[]⟩:TTr),[],[]⟩:TWo))))] })] [.cl 0 cv5 [0] 1 false,.pf cz3]<|
.guard [rv5.1.W.length<2 ^ 63]<|
.range (rv5.1.W.length:Int) rv5.1.W.length rfl (.why (.ev 0)) 31 [4,30] (fun (_:Unit)=>[]) (fun _=>[]) () (S_q4_b3 rv5) (fun _ => 
.a 33 0 2 (@F_qt_ok) fun rv19=>
.r rv19) id
def F_q4 (a0:(List Int)):=(S_q4 a0).den
theorem F_q4_ok {a0:(List Int)}:FO (F_q4 a0) 5 [(vl a0)] [] vb NL:=fO (s:=S_q4 a0) Tryz.func5
end
end Go.Proofs.YtdmddkbngmhepaaGreatDoor
