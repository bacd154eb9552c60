/- A part of the proof: what the functions compute, and that their calls return it. No condition. -/
import Derived.Test.YtcfloplnjicomaaGreatDoorG3
/- What the functions compute, and that their calls return it. No condition. -/
namespace Go.Proofs.YtcfloplnjicomaaGreatDoor
open Go Go.TA
open Go.IntKind (i64)
noncomputable section
set_option maxRecDepth 100000
theorem cz7:LeV (AV.full 0 fun _=>DV.b false) (vl ([])):=lvN (DV.i .i64)
abbrev R_qg:=(List Int)
def S_qg_b1 (a0:Y8) (sv1:(List Int)×Int×Int×Int):SC R_qg (Step ((List Int)×Int×Int×Int) R_qg) :=
.ite (decide (sv1.2.2.2<=(a0.length:Int))) (
 let e4_:=(sv1.2.2.2==(a0.length:Int))
 let e6_:=((sv1.2.2.2).toNat<a0.length)
.guard [AllP [e4_=false]->((0:Int)<=sv1.2.2.2),AllP [e4_=false]->e6_]<|
.reg 8 [] [] [.ev 0,.ev 1]<|
 let e0_:=((a0.getD ((sv1.2.2.2).toNat) 0).toNat:Int)
 let e5_:=(i64.wrap (sv1.2.2.2+1))
.ite (cO e4_ (e0_==46)) (
 let e2_:=(cO (sv1.2.2.1==0) (decide (sv1.2.2.1>2)))
 let e3_:=(i64.wrap (sv1.2.2.2-sv1.2.2.1))
.guard [AllP [e2_=false]->((0:Int)<=e3_),AllP [e2_=false]->((e3_).toNat<a0.length)]<|
.reg 9 [] [] [.ev 0,.ev 1]<|
.ite (cO e2_ (((a0.getD ((e3_).toNat) 0).toNat:Int)==48)) (
.ret [.pf cz7] (.ret ([]))) (
.guard [(sv1.1.length+1) * (2 * 8)<=2 ^ 48]<|
 let e1_:=([sv1.2.1]:List Int)
.reg 11 [] [(2,hv (vl e1_)),(3,{ h:=.obj,cast:=some (AV.ref 0 ((sv1.1++e1_).length) 0 ((sv1.1++e1_).length)),obs:=[(0,(eS 1 (DV.i .i64) (sv1.1++e1_)))] })] [.pf (zp (DV.i .i64) e1_),.e sv1.1.length,.e sv1.1.length,.pf (p:=∀ k,k<1->(AV.d ((DV.i .i64) (e1_.getD k dF))).wd=1) (fun _ _=>rfl),.ev 0,.pf (z2d (o:=0) (l:=sv1.1) (x:=e1_)),.pf (z3n (sz:=1) (e:=(DV.i .i64)) (l:=sv1.1) (x:=e1_))]<|
.r (.cont ((sv1.1++e1_),0,0,e5_)))) (
 let e7_:=(decide (e0_<48))
.guard [(0:Int)<=sv1.2.2.2,(sv1.2.2.2).toNat<a0.length,AllP [e7_=false]->((0:Int)<=sv1.2.2.2),AllP [e7_=false]->e6_]<|
.reg 13 [] [] [.ev 0,.ev 1,.ev 2,.ev 3]<|
.ite (cO e7_ (decide (e0_>57))) (
.ret [.pf cz7] (.ret ([]))) (
.reg 15 [] [] [.ev 1,.ev 2]<|
.r (.cont (sv1.1,(i64.wrap ((i64.wrap (10 * sv1.2.1))+(i64.wrap (IntKind.u8.wrap (e0_-48))))),(i64.wrap (sv1.2.2.1+1)),e5_))))) (
.r (.brk (sv1.1,sv1.2.1,sv1.2.2.1,sv1.2.2.2)))
def S_qg (a0:Y8):SC R_qg R_qg :=
.ite (decide ((a0.length:Int)>12)) (
.ret [.pf cz7] ([])) (
.reg 5 [] [] []<|
.bor 1 (fun j=>AV.d ((DV.i .i64) (([]:List Int).getD j dF))) [3]<|
.iter [0] (fun (sv1:(List Int)×Int×Int×Int)=>[(3,(AV.ref 0 sv1.1.length 0 sv1.1.length)),(4,(vi sv1.2.1)),(5,(vi sv1.2.2.1)),(6,(vi sv1.2.2.2))]) (fun sv1=>[(0,(eS 1 (DV.i .i64) sv1.1))]) (([]:List Int),0,0,0) (S_qg_b1 a0) (fun sv1 =>
.ite (decide ((sv1.1.length:Int)>4)) (
.ret [.pf cz7] ([])) (
.guard [sv1.1.length<2 ^ 63]<|
.reg 18 [] [] []<|
.frz 0 (.ev 0) none [2] []<|
.r sv1.1)) id)
def F_qg (a0:Y8):=(S_qg a0).den
theorem F_qg_ok {a0:Y8}:FO (F_qg a0) 80 [(AV.d (DV.str a0))] [] vl NL:=fO (s:=S_qg a0) Tryz.func80
def S_qs_b1 (rv1:R_qg) (rv2:R_qg) (sv3:Int):SC Int (Step (Int) Int) :=
.ite (bif (decide (sv3<(rv1.length:Int))) then (decide (sv3<(rv2.length:Int))) else false) (
.guard [(0:Int)<=sv3,(sv3).toNat<rv1.length,(sv3).toNat<rv2.length]<|
.reg 15 [] [] [.ev 0,.ev 1,.ev 0,.ev 2]<|
 let e0_:=(rv1.getD ((sv3).toNat) dF)
 let e1_:=(rv2.getD ((sv3).toNat) dF)
.ite (decide (e0_<e1_)) (
.r (.ret (-1))) (
.reg 17 [] [] [.ev 1,.ev 2,.ev 1,.ev 3]<|
.ite (decide (e0_>e1_)) (
.r (.ret 1)) (
.r (.cont (i64.wrap (sv3+1)))))) (
.r (.brk sv3))
def S_qs (a0:Y8) (a1:Y8):SC Int Int :=
.call (@F_qg_ok a0) fun rv1 cv1=>
.call (@F_qg_ok a1) fun rv2 cv2=>
.reg 1 [] [(1,hc cv1 [] true),(3,hc cv2 [] true)] [.cl 1 cv1 [] 0 true,.cl 0 cv2 [] 0 true]<|
 let e0_:=(rv1.length:Int)
 let e1_:=(rv2.length:Int)
.ite (cO (e0_==0) (e1_==0)) (
.ite (decide (e0_>0)) (
.r 1) (
.ite (decide (e1_>0)) (
.r (-1)) (
.ite (Op.bytesLess a0 a1) (
.r (-1)) (
.ite (!(Op.bytesLess a0 a1||a0==a1)) (
.r 1) (
.r 0))))) (
.iter [5,6] (fun (sv3:Int)=>[(7,(vi sv3))]) (fun _=>[]) 0 (S_qs_b1 rv1 rv2) (fun _ =>
.ite (decide (e0_<e1_)) (
.r (-1)) (
.ite (decide (e0_>e1_)) (
.r 1) (
.r 0))) id)
def F_qs (a0:Y8) (a1:Y8):=(S_qs a0 a1).den
theorem F_qs_ok {a0:Y8} {a1:Y8}:FO (F_qs a0 a1) 52 [(AV.d (DV.str a0)),(AV.d (DV.str a1))] [] vi NL:=fO (s:=S_qs a0 a1) Tryz.func52
def S_qi_b1 (a0:TTr) (iv1:Nat) (_:Unit):SC Bool (Step (Unit) Bool) :=
.reg 5 [] [(3,{ obs:=[(1,(TPo.b (⟨[],0,0,[],[],[],[]⟩:TPo)))] })] [.w iv1,.ev 0,.pf cz1]<|
 let e1_:=(a0.B.getD iv1 dF)
.a 6 3 2 (@F_qt_ok e1_ a0.I) fun rv2=>
.ite (!rv2) (
.r (.ret false)) (
.ite (decide ((iv1:Int)>0)) (
 let e0_:=(i64.wrap ((iv1:Int)-1))
 let e2_:=(a0.B.getD ((e0_).toNat) dF)
.call (@F_qs_ok (e2_.F) (e1_.F)) fun rv3 cv3=>
.guard [(0:Int)<=e0_,(e0_).toNat<a0.B.length]<|
.reg 9 [] [(9,hc cv3 [] true)] [.ev 0,.ev 1,.cl 2 cv3 [] 2 true]<|
 let e3_:=(decide (rv3>0))
.guard [AllP [(rv3==0)=true,e3_=false]->((0:Int)<=e0_),AllP [(rv3==0)=true,e3_=false]->((e0_).toNat<a0.B.length)]<|
.reg 10 [] [] [.ev 0,.ev 1]<|
.ite (cO e3_ (bif (rv3==0) then (decide ((e2_.G)>=(e1_.G))) else false)) (
.r (.ret false)) (
.r (.cont ()))) (
.r (.cont ())))
def S_qi (a0:TTr):SC Bool Bool :=
.ite (cO (cO (decide (a0.I<1)) (decide (a0.I>6))) (decide ((a0.B.length:Int)>60))) (
.r false) (
.range (a0.B.length:Int) a0.B.length rfl (.slot 21) 23 [1,21,22] (fun (_:Unit)=>[]) (fun _=>[]) () (S_qi_b1 a0) (fun _ => 
.r true) id)
def F_qi (a0:TTr):=(S_qi a0).den
theorem F_qi_ok {a0:TTr}:FO (F_qi a0) 13 [(TTr.d a0)] [] vb NL:=fO (s:=S_qi a0) Tryz.func13
abbrev R_qx:=Int×(List TPo)
def S_qx_b1 (a0:TTr) (iv1:Nat) (sv2:Int×(List TPo)):SC R_qx (Step (Int×(List TPo)) R_qx) :=
.reg 4 [] [(2,{ obs:=[(4,(TPo.b (⟨[],0,0,[],[],[],[]⟩:TPo)))] })] [.w iv1,.ev 0,.pf cz1]<|
 let e1_:=(a0.B.getD iv1 dF)
.guard [(0+(e1_.A).length) * (2 * 8)<=2 ^ 48]<|
.reg 5 [] [(3,hv (vl (e1_.A)))] [.pf (p:=∀ k,k<(e1_.A).length->AV.d ((DV.i .i64) ((e1_.A).getD k dF))=AV.d ((DV.i .i64) ((e1_.A).getD k dF))/\((DV.i .i64) ((e1_.A).getD k dF)).wd=1) (fun _ _=>⟨rfl,rfl⟩),.pf cz2,.ev 0,.pf (z50 (e:=(DV.i .i64)) (x:=(e1_.A)))]<|
.guard [(0+(e1_.D).length) * (2 * 8)<=2 ^ 48]<|
.reg 6 [] [(3,hv (vl (e1_.D)))] [.pf (p:=∀ k,k<(e1_.D).length->AV.d ((DV.i .i64) ((e1_.D).getD k dF))=AV.d ((DV.i .i64) ((e1_.D).getD k dF))/\((DV.i .i64) ((e1_.D).getD k dF)).wd=1) (fun _ _=>⟨rfl,rfl⟩),.pf cz2,.ev 0,.pf (z50 (e:=(DV.i .i64)) (x:=(e1_.D)))]<|
.guard [(0+(e1_.C).length) * (2 * 8)<=2 ^ 48]<|
.reg 7 [] [(3,hv (vl (e1_.C)))] [.pf (p:=∀ k,k<(e1_.C).length->AV.d ((DV.i .i64) ((e1_.C).getD k dF))=AV.d ((DV.i .i64) ((e1_.C).getD k dF))/\((DV.i .i64) ((e1_.C).getD k dF)).wd=1) (fun _ _=>⟨rfl,rfl⟩),.pf cz2,.ev 0,.pf (z50 (e:=(DV.i .i64)) (x:=(e1_.C)))]<|
.guard [(0+(e1_.E).length) * (2 * 8)<=2 ^ 48]<|
.reg 8 [] [(3,hv (vl (e1_.E)))] [.pf (p:=∀ k,k<(e1_.E).length->AV.d ((DV.i .i64) ((e1_.E).getD k dF))=AV.d ((DV.i .i64) ((e1_.E).getD k dF))/\((DV.i .i64) ((e1_.E).getD k dF)).wd=1) (fun _ _=>⟨rfl,rfl⟩),.pf cz2,.ev 0,.pf (z50 (e:=(DV.i .i64)) (x:=(e1_.E)))]<|
 let e0_:=([(⟨e1_.F,e1_.G,e1_.H,e1_.A,e1_.D,e1_.C,e1_.E⟩:TPo)]:List TPo)
.guard [(sv2.2.length+e0_.length) * (2 * 128)<=2 ^ 48]<|
.reg 9 [] [(3,{ h:=.obj,obs:=[(5,(eS 7 TPo.e e0_))] }),(4,{ h:=.obj,cast:=some (AV.ref 3 ((sv2.2++e0_).length) 0 ((sv2.2++e0_).length)),obs:=[(3,(eS 7 TPo.e (sv2.2++e0_)))] })] [.pf (z81 (sz:=7) (e:=TPo.e) (l:=e0_)),.e (e0_.length),.e sv2.2.length,.e sv2.2.length,.pf (p:=∀ k,k<e0_.length->(TPo.d (e0_.getD k dF)).wd=7) (fun _ _=>rfl),.ev 0,.pf (z2d (o:=3) (l:=sv2.2) (x:=e0_)),.pf (z3n (sz:=7) (e:=TPo.e) (l:=sv2.2) (x:=e0_))]<|
.c (sv2.1,(sv2.2++e0_))
def S_qx (a0:TTr):SC R_qx R_qx :=
 let e0_:=(TTr.b (⟨0,[]⟩:TTr))
.reg 0 [] [(1,{ obs:=[(1,e0_)] })] [.pf cz3]<|
.reg 1 [] [(2,{ h:=.obj }),(3,{ h:=.obj })] []<|
 let e1_:=[(1,(vp 0)),(2,(vp 1)),(3,(vp 2))]
.sh (A:=True) (.pf trivial) e1_ e1_ [(TTr.b a0),e0_,(Ob.box (AV.agg [(vi a0.I),(AV.full 0 fun _=>DV.b false)]))] [(TTr.b a0),e0_,(Ob.box (AV.agg [(vi a0.I),(AV.ref 3 0 0 0)])),(eS 7 TPo.e ([]:List TPo))] (fun _=>(z26 (sz:=7) (f:=fun j=>AV.d (TPo.e (([]:List TPo).getD j dF))) (.keep _ _ _ _ (y13 rfl) (.keep _ _ _ _ (y13 rfl) (.box _ _ _ _ _ (y13 rfl) (TrV.agg (TrL.cons (TrV.keep _) (TrL.cons TrV.born TrL.nil))) (.nil _)))))) (z1f (k:=0) rfl (TrS.keep _) (z1f (k:=1) rfl (TrS.keep _) (z1f (k:=2) rfl (TrS.keep _) z2r)))<|
.range (a0.B.length:Int) a0.B.length rfl (.slot 10) 12 [2,3,10,11] (fun (_:Int×(List TPo))=>[]) (fun sv2=>[(2,(Ob.box (AV.agg [(vi sv2.1),(AV.ref 3 sv2.2.length 0 sv2.2.length)]))),(3,(eS 7 TPo.e sv2.2))]) (a0.I,([]:List TPo)) (S_qx_b1 a0) (fun sv2 => 
.reg 11 [] [] []<|
.kill 0<|
.kill 2<|
.r (sv2.1,sv2.2)) id
def F_qx (a0:TTr):=(S_qx a0).den
theorem F_qx_ok {a0:TTr}:FO (F_qx a0) 63 [(TTr.d a0)] [] (fun x=>(AV.agg [(vi x.1),(AV.ref 3 x.2.length 0 x.2.length)])) (fun x=>[Ob.dead,(Ob.box (AV.agg [(vi x.1),(AV.ref 3 x.2.length 0 x.2.length)])),Ob.dead,(eS 7 TPo.e x.2)]):=fO (s:=S_qx a0) Tryz.func63
def S_qu_b1 (a0:TTr) (a1:Y8) (a2:Int) (iv1:Nat) (_:Unit):SC Int (Step (Unit) Int) :=
.reg 3 [] [(3,{ obs:=[(1,(TPo.b (⟨[],0,0,[],[],[],[]⟩:TPo)))] })] [.w iv1,.ev 0,.pf cz1]<|
 let e0_:=(a0.B.getD iv1 dF)
.ite (bif ((e0_.F)==a1) then ((e0_.G)==a2) else false) (
.r (.ret (iv1:Int))) (
.r (.cont ()))
def S_qu (a0:TTr) (a1:Y8) (a2:Int):SC Int Int :=
.range (a0.B.length:Int) a0.B.length rfl (.slot 10) 12 [1,2,10,11] (fun (_:Unit)=>[]) (fun _=>[]) () (S_qu_b1 a0 a1 a2) (fun _ => 
.r (-1)) id
def F_qu (a0:TTr) (a1:Y8) (a2:Int):=(S_qu a0 a1 a2).den
theorem F_qu_ok {a0:TTr} {a1:Y8} {a2:Int}:FO (F_qu a0 a1 a2) 56 [(TTr.d a0),(AV.d (DV.str a1)),(vi a2)] [] vi NL:=fO (s:=S_qu a0 a1 a2) Tryz.func56
theorem cz8:∀ k,k<1->(TPo.d (([(⟨[],0,0,[],[],[],[]⟩:TPo)]:List TPo).getD k dF)).wd=7:=fun _ _=>rfl
abbrev R_qj:=TTr×Int
def S_qj_b1 (a1:Y8) (a2:Int) (rv1:R_qx) (sv2:Int):SC R_qj (Step (Int) R_qj) :=
.ite (decide (sv2<(rv1.2.length:Int))) (
 let e3_:=(0+(sv2).toNat)
 let e2_:=(rv1.2.getD e3_ dF)
.call (@F_qs_ok (e2_.F) a1) fun rv3 cv3=>
.guard [(0:Int)<=sv2,(sv2).toNat<rv1.2.length,e3_<rv1.2.length]<|
.reg 17 [] [(7,hc cv3 [] true)] [.e rv1.2.length,.ev 0,.ev 1,.e rv1.2.length,.e rv1.2.length,.ev 2,.cl 3 cv3 [] 8 true]<|
 let e0_:=(decide (rv3>0))
.guard [AllP [(rv3==0)=true,e0_=false]->((0:Int)<=sv2),AllP [(rv3==0)=true,e0_=false]->((sv2).toNat<rv1.2.length),AllP [(rv3==0)=true,e0_=false]->(e3_<rv1.2.length)]<|
 let e1_:=(rv1.2.length=rv1.2.length)
.reg 18 [] [] [.pf (p:=AllP [(rv3==0)=true,e0_=false]->e1_) (fun _=>rfl),.ev 0,.ev 1,.pf (p:=AllP [(rv3==0)=true,e0_=false]->e1_) (fun _=>rfl),.pf (p:=AllP [(rv3==0)=true,e0_=false]->e1_) (fun _=>rfl),.ev 2]<|
.ite (cO e0_ (bif (rv3==0) then (decide ((e2_.G)>a2)) else false)) (
.r (.brk sv2)) (
.r (.cont (i64.wrap (sv2+1))))) (
.r (.brk sv2))
def S_qj (a0:TTr) (a1:Y8) (a2:Int) (a3:Int):SC R_qj R_qj :=
 let e10_:=(TTr.b (⟨0,[]⟩:TTr))
.reg 0 [] [(1,{ obs:=[(1,e10_)] })] [.pf cz3]<|
.a 1 1 2 (@F_qi_ok a0) fun rv4=>
 let e13_:=(TTr.d (⟨0,[]⟩:TTr))
.ite (!rv4) (
.reg 2 [] [(0,hv e13_)] [.pf cz4]<|
.r ((⟨0,[]⟩:TTr),1)) (
.a 3 1 2 (@F_qp_ok a1) fun rv5=>
.ite (!rv5) (
.reg 4 [] [(0,hv e13_)] [.pf cz4]<|
.r ((⟨0,[]⟩:TTr),5)) (
.ite (cO (cO (cO (decide (a2<0)) (decide (a2>99))) (decide (a3<(-1000000000000000)))) (decide (a3>1000000000000000))) (
.reg 6 [] [(0,hv e13_)] [.pf cz4]<|
.r ((⟨0,[]⟩:TTr),2)) (
.call (@F_qx_ok a0) fun rv1 cv1=>
.reg 7 [] [(1,hc cv1 [] false),(2,{ h:=.obj })] [.cl 0 cv1 [] 2 false]<|
.kill 3<|
.a 8 3 7 (@F_qu_ok a0 a1 a2) fun rv6=>
 let e14_:=[(8,(vp 1)),(10,(vp 6))]
 let e15_:=(TTr.b a0)
.ite (decide (rv6>=0)) (
 let e19_:=(0+(rv6).toNat)
.guard [(0:Int)<=rv6,(rv6).toNat<rv1.2.length,e19_<rv1.2.length]<|
 let e7_:=(rv1.2.getD e19_ dF)
 let e1_:=(⟨e7_.F,e7_.G,a3,e7_.A,e7_.D,e7_.C,e7_.E⟩:TPo)
 let e6_:=(rv1.2.set e19_ e1_)
 let e20_:=(eS 7 TPo.e e6_)
.reg 10 [] [(6,{ obs:=[(5,e20_)] })] [.e rv1.2.length,.ev 0,.ev 1,.e rv1.2.length,.e rv1.2.length,.ev 2,.pf (z15 (sz:=7) (e:=TPo.e) (l:=rv1.2) (i:=e19_) (x:=e1_) (fun _=>rfl))]<|
.cst (A:=True) (.pf trivial) e14_ e14_ [e15_,e10_,Ob.dead,Ob.dead,Ob.dead,e20_,(Ob.box (AV.agg [(vi rv1.1),(AV.ref 5 rv1.2.length 0 rv1.2.length)]))] [e15_,e10_,Ob.dead,Ob.dead,Ob.dead,e20_,(Ob.box (AV.agg [(vi rv1.1),(AV.ref 5 (e6_.length) 0 (e6_.length))]))] (fun _=>⟨by simp +zetaDelta only,by simp +zetaDelta only[yi]⟩)<|
.guard [e6_.length<2 ^ 63]<|
.reg 11 [] [] []<|
.frz 5 (.ev 0) none [] [1,6]<|
.r ((⟨rv1.1,e6_⟩:TTr),0)) (
.ite ((a0.B.length:Int)==60) (
.reg 13 [] [(0,hv e13_)] [.pf cz4]<|
.r ((⟨0,[]⟩:TTr),3)) (
.guard [(0:Int)<=a0.I,a0.I * 8<=2 ^ 47]<|
 let e9_:=(⟨[],0,0,[],[],[],[]⟩:TPo)
 let e12_:=(vl (List.replicate a0.I.toNat (0:Int)))
.reg 14 [16,17] [(5,{ h:=.imm,cast:=some e12_ }),(8,{ h:=.imm,cast:=some e12_ }),(11,{ h:=.imm,cast:=some e12_ }),(14,{ h:=.imm,cast:=some e12_ }),(16,{ obs:=[(7,(TPo.b e9_))] })] [.ev 0,.pf (p:=a0.I<=a0.I) (y1y _),.ev 1,.pf (z2m (e:=(DV.i .i64)) (k:=a0.I.toNat) (z:=(0:Int))),.ev 0,.pf (p:=a0.I<=a0.I) (y1y _),.ev 1,.pf (z2m (e:=(DV.i .i64)) (k:=a0.I.toNat) (z:=(0:Int))),.ev 0,.pf (p:=a0.I<=a0.I) (y1y _),.ev 1,.pf (z2m (e:=(DV.i .i64)) (k:=a0.I.toNat) (z:=(0:Int))),.ev 0,.pf (p:=a0.I<=a0.I) (y1y _),.ev 1,.pf (z2m (e:=(DV.i .i64)) (k:=a0.I.toNat) (z:=(0:Int))),.ev 0,.pf (p:=a0.I<=a0.I) (y1y _),.ev 1,.pf (z2m (e:=(DV.i .i64)) (k:=a0.I.toNat) (z:=(0:Int))),.ev 0,.pf (p:=a0.I<=a0.I) (y1y _),.ev 1,.pf (z2m (e:=(DV.i .i64)) (k:=a0.I.toNat) (z:=(0:Int))),.ev 0,.pf (p:=a0.I<=a0.I) (y1y _),.ev 1,.pf (z2m (e:=(DV.i .i64)) (k:=a0.I.toNat) (z:=(0:Int))),.ev 0,.pf (p:=a0.I<=a0.I) (y1y _),.ev 1,.pf (z2m (e:=(DV.i .i64)) (k:=a0.I.toNat) (z:=(0:Int))),.pf cz1]<|
.iter [1,2,8,10,12] (fun (sv2:Int)=>[(13,(vi sv2))]) (fun _=>[]) 0 (S_qj_b1 a1 a2 rv1) (fun sv2 =>
.guard [(rv1.2.length+1) * (2 * 128)<=2 ^ 48]<|
 let e17_:=([e9_]:List TPo)
 let e0_:=(rv1.2++e17_)
 let e18_:=(AV.ref 5 (e0_.length) 0 (e0_.length))
.reg 20 [] [(2,hv (TPo.d e9_)),(3,hv (AV.d (eL TPo.e e17_))),(4,{ h:=.obj,cast:=some e18_,obs:=[(5,(eS 7 TPo.e e0_))] })] [.pf cz5,.pf (zp TPo.e e17_),.e rv1.2.length,.e rv1.2.length,.pf cz8,.ev 0,.pf (z2d (o:=5) (l:=rv1.2) (x:=e17_)),.pf (z3n (sz:=7) (e:=TPo.e) (l:=rv1.2) (x:=e17_))]<|
 let e21_:=(i64.wrap (sv2+1))
 let e3_:=(e21_)
.guard [(0:Int)<=e21_,e3_.toNat<=e0_.length,(0:Int)<=sv2,(sv2).toNat<=e0_.length]<|
 let e5_:=(0+(sv2).toNat)
 let e8_:=(0+e3_.toNat)
.reg 21 [9] [(9,{ obs:=[(5,(eS 7 TPo.e (copyL e0_ e8_ (min (e0_.length-(sv2).toNat) (e0_.length-e3_.toNat)) (fun i=>(e0_.getD (e5_+i) dF)))))] })] [.ev 0,.ev 1,.e (e0_.length),.ev 2,.ev 3,.e (e0_.length),.e (e0_.length),.e (e0_.length),.pf (p:=∀ k,k<(e0_.length-(sv2).toNat)->(TPo.d (e0_.getD (e5_+k) dF)).wd=7) (fun _ _=>rfl),.pf (zh1 (sz:=7) (e:=TPo.e) (l:=e0_) (off:=e8_) (k:=(min (e0_.length-(sv2).toNat) (e0_.length-e3_.toNat))) (s:=(fun i=>(e0_.getD (e5_+i) dF))))]<|
 let e11_:=(eL (DV.i .i64) (List.replicate a0.I.toNat (0:Int)))
 let e4_:=(bx (DV.agg [(DV.str a1),(DV.i .i64 a2),(DV.i .i64 a3),e11_,e11_,e11_,e11_]))
 let e16_:=[(8,(vp 1)),(10,(vp 6)),(12,(vp 7)),(13,(vi sv2))]
.cst (A:=True) (.pf trivial) e16_ e16_ [e15_,e10_,Ob.dead,Ob.dead,Ob.dead,(eS 7 TPo.e (copyL e0_ e8_ (min (e0_.length-(sv2).toNat) (e0_.length-e3_.toNat)) (fun i=>(e0_.getD (e5_+i) dF)))),(Ob.box (AV.agg [(vi rv1.1),e18_])),e4_] [e15_,e10_,Ob.dead,Ob.dead,Ob.dead,(eS 7 TPo.e (copyL e0_ e8_ (min (e0_.length-(sv2).toNat) (e0_.length-e3_.toNat)) (fun i=>(e0_.getD (e5_+i) dF)))),(Ob.box (AV.agg [(vi rv1.1),(AV.ref 5 ((copyL e0_ e8_ (min (e0_.length-(sv2).toNat) (e0_.length-e3_.toNat)) (fun i=>(e0_.getD (e5_+i) dF))).length) 0 ((copyL e0_ e8_ (min (e0_.length-(sv2).toNat) (e0_.length-e3_.toNat)) (fun i=>(e0_.getD (e5_+i) dF))).length))])),e4_] (fun _=>⟨by simp +zetaDelta only,by simp +zetaDelta only[z2l]⟩)<|
.guard [(sv2).toNat<(copyL e0_ e8_ (min (e0_.length-(sv2).toNat) (e0_.length-e3_.toNat)) (fun i=>(e0_.getD (e5_+i) dF))).length,e5_<(copyL e0_ e8_ (min (e0_.length-(sv2).toNat) (e0_.length-e3_.toNat)) (fun i=>(e0_.getD (e5_+i) dF))).length]<|
 let e2_:=(⟨a1,a2,a3,(List.replicate a0.I.toNat (0:Int)),(List.replicate a0.I.toNat (0:Int)),(List.replicate a0.I.toNat (0:Int)),(List.replicate a0.I.toNat (0:Int))⟩:TPo)
.reg 22 [] [(5,{ obs:=[(5,(eS 7 TPo.e ((copyL e0_ e8_ (min (e0_.length-(sv2).toNat) (e0_.length-e3_.toNat)) (fun i=>(e0_.getD (e5_+i) dF))).set e5_ e2_)))] })] [.pf (y27 ((copyL e0_ e8_ (min (e0_.length-(sv2).toNat) (e0_.length-e3_.toNat)) (fun i=>(e0_.getD (e5_+i) dF))).length)),.ev 4,.ev 0,.pf (y27 ((copyL e0_ e8_ (min (e0_.length-(sv2).toNat) (e0_.length-e3_.toNat)) (fun i=>(e0_.getD (e5_+i) dF))).length)),.ev 1,.pf (z15 (sz:=7) (e:=TPo.e) (l:=(copyL e0_ e8_ (min (e0_.length-(sv2).toNat) (e0_.length-e3_.toNat)) (fun i=>(e0_.getD (e5_+i) dF)))) (i:=e5_) (x:=e2_) (fun _=>rfl))]<|
.cst (A:=True) (.pf trivial) e14_ e14_ [e15_,e10_,Ob.dead,Ob.dead,Ob.dead,(eS 7 TPo.e ((copyL e0_ e8_ (min (e0_.length-(sv2).toNat) (e0_.length-e3_.toNat)) (fun i=>(e0_.getD (e5_+i) dF))).set e5_ e2_)),(Ob.box (AV.agg [(vi rv1.1),(AV.ref 5 ((copyL e0_ e8_ (min (e0_.length-(sv2).toNat) (e0_.length-e3_.toNat)) (fun i=>(e0_.getD (e5_+i) dF))).length) 0 ((copyL e0_ e8_ (min (e0_.length-(sv2).toNat) (e0_.length-e3_.toNat)) (fun i=>(e0_.getD (e5_+i) dF))).length))])),e4_] [e15_,e10_,Ob.dead,Ob.dead,Ob.dead,(eS 7 TPo.e ((copyL e0_ e8_ (min (e0_.length-(sv2).toNat) (e0_.length-e3_.toNat)) (fun i=>(e0_.getD (e5_+i) dF))).set e5_ e2_)),(Ob.box (AV.agg [(vi rv1.1),(AV.ref 5 (((copyL e0_ e8_ (min (e0_.length-(sv2).toNat) (e0_.length-e3_.toNat)) (fun i=>(e0_.getD (e5_+i) dF))).set e5_ e2_).length) 0 (((copyL e0_ e8_ (min (e0_.length-(sv2).toNat) (e0_.length-e3_.toNat)) (fun i=>(e0_.getD (e5_+i) dF))).set e5_ e2_).length))])),e4_] (fun _=>⟨by simp +zetaDelta only,by simp +zetaDelta only[yi,z2l]⟩)<|
.guard [((copyL e0_ e8_ (min (e0_.length-(sv2).toNat) (e0_.length-e3_.toNat)) (fun i=>(e0_.getD (e5_+i) dF))).set e5_ e2_).length<2 ^ 63]<|
.reg 23 [] [] []<|
.frz 5 (.ev 0) none [] [1,6]<|
.r ((⟨rv1.1,((copyL e0_ e8_ (min (e0_.length-(sv2).toNat) (e0_.length-e3_.toNat)) (fun i=>(e0_.getD (e5_+i) dF))).set e5_ e2_)⟩:TTr),0)) id)))))
def F_qj (a0:TTr) (a1:Y8) (a2:Int) (a3:Int):=(S_qj a0 a1 a2 a3).den
theorem F_qj_ok {a0:TTr} {a1:Y8} {a2:Int} {a3:Int}:FO (F_qj a0 a1 a2 a3) 24 [(TTr.d a0),(AV.d (DV.str a1)),(vi a2),(vi a3)] [] (fun x=>(AV.tup [(TTr.d x.1),(vi x.2)])) NL:=fO (s:=S_qj a0 a1 a2 a3) Tryz.func24
abbrev R_qq:=Int×Int
def S_qq (a0:TTr) (a1:Int) (a2:Y8) (a3:Int):SC R_qq R_qq :=
.a 1 1 1 (@F_qi_ok a0) fun rv1=>
.ite (!rv1) (
.r (0,1)) (
.a 3 3 1 (@F_qu_ok a0 a2 a3) fun rv2=>
.ite (cO (cO (decide (rv2<0)) (decide (a1<1))) (decide (a1>a0.I))) (
.r (0,6)) (
.r (rv2,0)))
def F_qq (a0:TTr) (a1:Int) (a2:Y8) (a3:Int):=(S_qq a0 a1 a2 a3).den
theorem F_qq_ok {a0:TTr} {a1:Int} {a2:Y8} {a3:Int}:FO (F_qq a0 a1 a2 a3) 68 [(TTr.d a0),(vi a1),(AV.d (DV.str a2)),(vi a3)] [] (fun x=>(AV.tup [(vi x.1),(vi x.2)])) NL:=fO (s:=S_qq a0 a1 a2 a3) Tryz.func68
end
end Go.Proofs.YtcfloplnjicomaaGreatDoor
/- What the functions compute,and that their calls return it. No condition. -/
namespace Go.Proofs.YtcfloplnjicomaaGreatDoor
open Go Go.TA
open Go.IntKind (i64)
noncomputable section
set_option maxRecDepth 100000
abbrev R_qk:=Int×(List TPo)
def S_qk_b1 (a0:TTr) (i0:Nat) (iv1:Nat) (sv2:Int×(List TPo)):SC R_qk (Step (Int×(List TPo)) R_qk) :=
.reg 4 [] [(2,{ obs:=[(8,(TPo.b (⟨[],0,0,[],[],[],[]⟩:TPo)))] })] [.w iv1,.ev 0,.pf cz1]<|
 let e1_:=(a0.B.getD iv1 dF)
.guard [e1_.A.length * (2 * 8)<=2 ^ 48]<|
.reg 5 [] [(3,{ h:=.obj })] [.pf (p:=∀ k,k<e1_.A.length->(AV.d ((DV.i .i64) (e1_.A.getD k dF))).wd=1) (fun _ _=>rfl),.ev 0]<|
.guard [e1_.D.length * (2 * 8)<=2 ^ 48]<|
.reg 6 [] [(3,{ h:=.obj })] [.pf (p:=∀ k,k<e1_.D.length->(AV.d ((DV.i .i64) (e1_.D.getD k dF))).wd=1) (fun _ _=>rfl),.ev 0]<|
.guard [e1_.C.length * (2 * 8)<=2 ^ 48]<|
.reg 7 [] [(3,{ h:=.obj })] [.pf (p:=∀ k,k<e1_.C.length->(AV.d ((DV.i .i64) (e1_.C.getD k dF))).wd=1) (fun _ _=>rfl),.ev 0]<|
.guard [e1_.E.length * (2 * 8)<=2 ^ 48]<|
.reg 8 [] [(3,{ h:=.obj })] [.pf (p:=∀ k,k<e1_.E.length->(AV.d ((DV.i .i64) (e1_.E.getD k dF))).wd=1) (fun _ _=>rfl),.ev 0]<|
.guard [(sv2.2.length+1) * (2 * 128)<=2 ^ 48]<|
.reg 9 [] [(3,{ h:=.obj }),(4,{ h:=.obj,cast:=some (AV.ref 3 ((sv2.2++[(⟨(a0.B.getD iv1 dF).F,(a0.B.getD iv1 dF).G,(a0.B.getD iv1 dF).H,(a0.B.getD iv1 dF).A,(a0.B.getD iv1 dF).D,(a0.B.getD iv1 dF).C,(a0.B.getD iv1 dF).E⟩:TPo)]).length) 0 ((sv2.2++[(⟨(a0.B.getD iv1 dF).F,(a0.B.getD iv1 dF).G,(a0.B.getD iv1 dF).H,(a0.B.getD iv1 dF).A,(a0.B.getD iv1 dF).D,(a0.B.getD iv1 dF).C,(a0.B.getD iv1 dF).E⟩:TPo)]).length)),obs:=[(3,(Ob.seq 7 ((sv2.2++[(⟨(a0.B.getD iv1 dF).F,(a0.B.getD iv1 dF).G,(a0.B.getD iv1 dF).H,(a0.B.getD iv1 dF).A,(a0.B.getD iv1 dF).D,(a0.B.getD iv1 dF).C,(a0.B.getD iv1 dF).E⟩:TPo)]).length) (catF sv2.2.length (fun j=>AV.sel (decide (j=i0)) 7 (AV.agg [(AV.d (DV.str (sv2.2.getD i0 dF).F)),(vi (sv2.2.getD i0 dF).G),(vi (sv2.2.getD i0 dF).H),(rr 4 (sv2.2.getD i0 dF).A),(rr 5 (sv2.2.getD i0 dF).D),(rr 6 (sv2.2.getD i0 dF).C),(rr 7 (sv2.2.getD i0 dF).E)]) (TPo.d (sv2.2.getD j dF))) (listF AV.bot [(AV.agg [(AV.d (DV.str (a0.B.getD iv1 dF).F)),(vi (a0.B.getD iv1 dF).G),(vi (a0.B.getD iv1 dF).H),(rr 9 (a0.B.getD iv1 dF).A),(rr 10 (a0.B.getD iv1 dF).D),(rr 11 (a0.B.getD iv1 dF).C),(rr 12 (a0.B.getD iv1 dF).E)])]))))] })] [.e 1,.e sv2.2.length,.e sv2.2.length,.pf (p:=∀ k,k<1->(listF AV.bot [(AV.agg [(AV.d (DV.str (a0.B.getD iv1 dF).F)),(vi (a0.B.getD iv1 dF).G),(vi (a0.B.getD iv1 dF).H),(rr 9 (a0.B.getD iv1 dF).A),(rr 10 (a0.B.getD iv1 dF).D),(rr 11 (a0.B.getD iv1 dF).C),(rr 12 (a0.B.getD iv1 dF).E)])] k).wd=7) (fun k hk=>by obtain rfl:k=0:=om; rfl),.ev 0,.pf (z2d (o:=3) (l:=sv2.2) (x:=[(⟨(a0.B.getD iv1 dF).F,(a0.B.getD iv1 dF).G,(a0.B.getD iv1 dF).H,(a0.B.getD iv1 dF).A,(a0.B.getD iv1 dF).D,(a0.B.getD iv1 dF).C,(a0.B.getD iv1 dF).E⟩:TPo)])),.pf (p:=OLe (Ob.seq 7 (sv2.2.length+1) (catF sv2.2.length (fun j=>AV.sel (decide (j=i0)) 7 (AV.agg [(AV.d (DV.str (sv2.2.getD i0 dF).F)),(vi (sv2.2.getD i0 dF).G),(vi (sv2.2.getD i0 dF).H),(rr 4 (sv2.2.getD i0 dF).A),(rr 5 (sv2.2.getD i0 dF).D),(rr 6 (sv2.2.getD i0 dF).C),(rr 7 (sv2.2.getD i0 dF).E)]) (TPo.d (sv2.2.getD j dF))) (listF AV.bot [(AV.agg [(AV.d (DV.str (a0.B.getD iv1 dF).F)),(vi (a0.B.getD iv1 dF).G),(vi (a0.B.getD iv1 dF).H),(rr 9 (a0.B.getD iv1 dF).A),(rr 10 (a0.B.getD iv1 dF).D),(rr 11 (a0.B.getD iv1 dF).C),(rr 12 (a0.B.getD iv1 dF).E)])]))) (Ob.seq 7 ((sv2.2++[(⟨(a0.B.getD iv1 dF).F,(a0.B.getD iv1 dF).G,(a0.B.getD iv1 dF).H,(a0.B.getD iv1 dF).A,(a0.B.getD iv1 dF).D,(a0.B.getD iv1 dF).C,(a0.B.getD iv1 dF).E⟩:TPo)]).length) (catF sv2.2.length (fun j=>AV.sel (decide (j=i0)) 7 (AV.agg [(AV.d (DV.str (sv2.2.getD i0 dF).F)),(vi (sv2.2.getD i0 dF).G),(vi (sv2.2.getD i0 dF).H),(rr 4 (sv2.2.getD i0 dF).A),(rr 5 (sv2.2.getD i0 dF).D),(rr 6 (sv2.2.getD i0 dF).C),(rr 7 (sv2.2.getD i0 dF).E)]) (TPo.d (sv2.2.getD j dF))) (listF AV.bot [(AV.agg [(AV.d (DV.str (a0.B.getD iv1 dF).F)),(vi (a0.B.getD iv1 dF).G),(vi (a0.B.getD iv1 dF).H),(rr 9 (a0.B.getD iv1 dF).A),(rr 10 (a0.B.getD iv1 dF).D),(rr 11 (a0.B.getD iv1 dF).C),(rr 12 (a0.B.getD iv1 dF).E)])])))) (zah sj)]<|
 let e0_:=(⟨e1_.F,e1_.G,e1_.H,e1_.A,e1_.D,e1_.C,e1_.E⟩:TPo)
.guard [((sv2.2.length=i0->0<e0_.A.length/\0<e0_.D.length/\0<e0_.C.length/\0<e0_.E.length)/\(e0_.A.length<2 ^ 63/\e0_.D.length<2 ^ 63/\e0_.C.length<2 ^ 63/\e0_.E.length<2 ^ 63))]<|
.sh (A:=((sv2.2.length=i0->0<(⟨(a0.B.getD iv1 dF).F,(a0.B.getD iv1 dF).G,(a0.B.getD iv1 dF).H,(a0.B.getD iv1 dF).A,(a0.B.getD iv1 dF).D,(a0.B.getD iv1 dF).C,(a0.B.getD iv1 dF).E⟩:TPo).A.length/\0<(⟨(a0.B.getD iv1 dF).F,(a0.B.getD iv1 dF).G,(a0.B.getD iv1 dF).H,(a0.B.getD iv1 dF).A,(a0.B.getD iv1 dF).D,(a0.B.getD iv1 dF).C,(a0.B.getD iv1 dF).E⟩:TPo).D.length/\0<(⟨(a0.B.getD iv1 dF).F,(a0.B.getD iv1 dF).G,(a0.B.getD iv1 dF).H,(a0.B.getD iv1 dF).A,(a0.B.getD iv1 dF).D,(a0.B.getD iv1 dF).C,(a0.B.getD iv1 dF).E⟩:TPo).C.length/\0<(⟨(a0.B.getD iv1 dF).F,(a0.B.getD iv1 dF).G,(a0.B.getD iv1 dF).H,(a0.B.getD iv1 dF).A,(a0.B.getD iv1 dF).D,(a0.B.getD iv1 dF).C,(a0.B.getD iv1 dF).E⟩:TPo).E.length)/\((⟨(a0.B.getD iv1 dF).F,(a0.B.getD iv1 dF).G,(a0.B.getD iv1 dF).H,(a0.B.getD iv1 dF).A,(a0.B.getD iv1 dF).D,(a0.B.getD iv1 dF).C,(a0.B.getD iv1 dF).E⟩:TPo).A.length<2 ^ 63/\(⟨(a0.B.getD iv1 dF).F,(a0.B.getD iv1 dF).G,(a0.B.getD iv1 dF).H,(a0.B.getD iv1 dF).A,(a0.B.getD iv1 dF).D,(a0.B.getD iv1 dF).C,(a0.B.getD iv1 dF).E⟩:TPo).D.length<2 ^ 63/\(⟨(a0.B.getD iv1 dF).F,(a0.B.getD iv1 dF).G,(a0.B.getD iv1 dF).H,(a0.B.getD iv1 dF).A,(a0.B.getD iv1 dF).D,(a0.B.getD iv1 dF).C,(a0.B.getD iv1 dF).E⟩:TPo).C.length<2 ^ 63/\(⟨(a0.B.getD iv1 dF).F,(a0.B.getD iv1 dF).G,(a0.B.getD iv1 dF).H,(a0.B.getD iv1 dF).A,(a0.B.getD iv1 dF).D,(a0.B.getD iv1 dF).C,(a0.B.getD iv1 dF).E⟩:TPo).E.length<2 ^ 63))) (.ev 0) [(2,(vp 1)),(3,(vp 2)),(10,(AV.d (eL TPo.e a0.B))),(11,(vi (a0.B.length:Int))),(12,(vi (iv1:Int)))] [(2,(vp 1)),(3,(vp 2)),(10,(AV.d (eL TPo.e a0.B))),(11,(vi (a0.B.length:Int))),(12,(vi (iv1:Int)))] [(TTr.b a0),(TTr.b (⟨0,[]⟩:TTr)),(Ob.box (AV.agg [(vi sv2.1),(AV.ref 3 ((sv2.2++[(⟨(a0.B.getD iv1 dF).F,(a0.B.getD iv1 dF).G,(a0.B.getD iv1 dF).H,(a0.B.getD iv1 dF).A,(a0.B.getD iv1 dF).D,(a0.B.getD iv1 dF).C,(a0.B.getD iv1 dF).E⟩:TPo)]).length) 0 ((sv2.2++[(⟨(a0.B.getD iv1 dF).F,(a0.B.getD iv1 dF).G,(a0.B.getD iv1 dF).H,(a0.B.getD iv1 dF).A,(a0.B.getD iv1 dF).D,(a0.B.getD iv1 dF).C,(a0.B.getD iv1 dF).E⟩:TPo)]).length))])),(Ob.seq 7 (sv2.2++[(⟨(a0.B.getD iv1 dF).F,(a0.B.getD iv1 dF).G,(a0.B.getD iv1 dF).H,(a0.B.getD iv1 dF).A,(a0.B.getD iv1 dF).D,(a0.B.getD iv1 dF).C,(a0.B.getD iv1 dF).E⟩:TPo)]).length (catF sv2.2.length (fun j=>AV.sel (decide (j=i0)) 7 (AV.agg [(AV.d (DV.str (sv2.2.getD i0 dF).F)),(vi (sv2.2.getD i0 dF).G),(vi (sv2.2.getD i0 dF).H),(rr 4 (sv2.2.getD i0 dF).A),(rr 5 (sv2.2.getD i0 dF).D),(rr 6 (sv2.2.getD i0 dF).C),(rr 7 (sv2.2.getD i0 dF).E)]) (TPo.d (sv2.2.getD j dF))) (listF AV.bot [(AV.agg [(AV.d (DV.str (a0.B.getD iv1 dF).F)),(vi (a0.B.getD iv1 dF).G),(vi (a0.B.getD iv1 dF).H),(rr 9 (a0.B.getD iv1 dF).A),(rr 10 (a0.B.getD iv1 dF).D),(rr 11 (a0.B.getD iv1 dF).C),(rr 12 (a0.B.getD iv1 dF).E)])]))),(eQ (opQ TPo.A i0 sv2.2)),(eQ (opQ TPo.D i0 sv2.2)),(eQ (opQ TPo.C i0 sv2.2)),(eQ (opQ TPo.E i0 sv2.2)),(Ob.box (AV.agg [(AV.d (DV.str (a0.B.getD iv1 dF).F)),(vi (a0.B.getD iv1 dF).G),(vi (a0.B.getD iv1 dF).H),(rr 9 (a0.B.getD iv1 dF).A),(rr 10 (a0.B.getD iv1 dF).D),(rr 11 (a0.B.getD iv1 dF).C),(rr 12 (a0.B.getD iv1 dF).E)])),(eQ (⟨(a0.B.getD iv1 dF).F,(a0.B.getD iv1 dF).G,(a0.B.getD iv1 dF).H,(a0.B.getD iv1 dF).A,(a0.B.getD iv1 dF).D,(a0.B.getD iv1 dF).C,(a0.B.getD iv1 dF).E⟩:TPo).A),(eQ (⟨(a0.B.getD iv1 dF).F,(a0.B.getD iv1 dF).G,(a0.B.getD iv1 dF).H,(a0.B.getD iv1 dF).A,(a0.B.getD iv1 dF).D,(a0.B.getD iv1 dF).C,(a0.B.getD iv1 dF).E⟩:TPo).D),(eQ (⟨(a0.B.getD iv1 dF).F,(a0.B.getD iv1 dF).G,(a0.B.getD iv1 dF).H,(a0.B.getD iv1 dF).A,(a0.B.getD iv1 dF).D,(a0.B.getD iv1 dF).C,(a0.B.getD iv1 dF).E⟩:TPo).C),(eQ (⟨(a0.B.getD iv1 dF).F,(a0.B.getD iv1 dF).G,(a0.B.getD iv1 dF).H,(a0.B.getD iv1 dF).A,(a0.B.getD iv1 dF).D,(a0.B.getD iv1 dF).C,(a0.B.getD iv1 dF).E⟩:TPo).E),(Ob.seq 7 1 (listF AV.bot [(AV.agg [(AV.d (DV.str (a0.B.getD iv1 dF).F)),(vi (a0.B.getD iv1 dF).G),(vi (a0.B.getD iv1 dF).H),(rr 9 (a0.B.getD iv1 dF).A),(rr 10 (a0.B.getD iv1 dF).D),(rr 11 (a0.B.getD iv1 dF).C),(rr 12 (a0.B.getD iv1 dF).E)])]))] [(TTr.b a0),(TTr.b (⟨0,[]⟩:TTr)),(Ob.box (AV.agg [(vi sv2.1),(AV.ref 3 ((sv2.2++[(⟨(a0.B.getD iv1 dF).F,(a0.B.getD iv1 dF).G,(a0.B.getD iv1 dF).H,(a0.B.getD iv1 dF).A,(a0.B.getD iv1 dF).D,(a0.B.getD iv1 dF).C,(a0.B.getD iv1 dF).E⟩:TPo)]).length) 0 ((sv2.2++[(⟨(a0.B.getD iv1 dF).F,(a0.B.getD iv1 dF).G,(a0.B.getD iv1 dF).H,(a0.B.getD iv1 dF).A,(a0.B.getD iv1 dF).D,(a0.B.getD iv1 dF).C,(a0.B.getD iv1 dF).E⟩:TPo)]).length))])),(oTApiPot.R 4 i0 (sv2.2++[(⟨(a0.B.getD iv1 dF).F,(a0.B.getD iv1 dF).G,(a0.B.getD iv1 dF).H,(a0.B.getD iv1 dF).A,(a0.B.getD iv1 dF).D,(a0.B.getD iv1 dF).C,(a0.B.getD iv1 dF).E⟩:TPo)])),(eQ (opQ TPo.A i0 (sv2.2++[(⟨(a0.B.getD iv1 dF).F,(a0.B.getD iv1 dF).G,(a0.B.getD iv1 dF).H,(a0.B.getD iv1 dF).A,(a0.B.getD iv1 dF).D,(a0.B.getD iv1 dF).C,(a0.B.getD iv1 dF).E⟩:TPo)]))),(eQ (opQ TPo.D i0 (sv2.2++[(⟨(a0.B.getD iv1 dF).F,(a0.B.getD iv1 dF).G,(a0.B.getD iv1 dF).H,(a0.B.getD iv1 dF).A,(a0.B.getD iv1 dF).D,(a0.B.getD iv1 dF).C,(a0.B.getD iv1 dF).E⟩:TPo)]))),(eQ (opQ TPo.C i0 (sv2.2++[(⟨(a0.B.getD iv1 dF).F,(a0.B.getD iv1 dF).G,(a0.B.getD iv1 dF).H,(a0.B.getD iv1 dF).A,(a0.B.getD iv1 dF).D,(a0.B.getD iv1 dF).C,(a0.B.getD iv1 dF).E⟩:TPo)]))),(eQ (opQ TPo.E i0 (sv2.2++[(⟨(a0.B.getD iv1 dF).F,(a0.B.getD iv1 dF).G,(a0.B.getD iv1 dF).H,(a0.B.getD iv1 dF).A,(a0.B.getD iv1 dF).D,(a0.B.getD iv1 dF).C,(a0.B.getD iv1 dF).E⟩:TPo)]))),(Ob.box (AV.agg [(AV.d (DV.str (a0.B.getD iv1 dF).F)),(vi (a0.B.getD iv1 dF).G),(vi (a0.B.getD iv1 dF).H),(rr 9 (a0.B.getD iv1 dF).A),(rr 10 (a0.B.getD iv1 dF).D),(rr 11 (a0.B.getD iv1 dF).C),(rr 12 (a0.B.getD iv1 dF).E)])),Ob.dead,Ob.dead,Ob.dead,Ob.dead,(Ob.seq 7 1 (listF AV.bot [(AV.agg [(AV.d (DV.str (a0.B.getD iv1 dF).F)),(vi (a0.B.getD iv1 dF).G),(vi (a0.B.getD iv1 dF).H),(rr 9 (a0.B.getD iv1 dF).A),(rr 10 (a0.B.getD iv1 dF).D),(rr 11 (a0.B.getD iv1 dF).C),(rr 12 (a0.B.getD iv1 dF).E)])]))] (fun h=>z55 oTApiPot (P:=[(TTr.b a0),(TTr.b (⟨0,[]⟩:TTr)),(Ob.box (AV.agg [(vi sv2.1),(AV.ref 3 ((sv2.2++[(⟨(a0.B.getD iv1 dF).F,(a0.B.getD iv1 dF).G,(a0.B.getD iv1 dF).H,(a0.B.getD iv1 dF).A,(a0.B.getD iv1 dF).D,(a0.B.getD iv1 dF).C,(a0.B.getD iv1 dF).E⟩:TPo)]).length) 0 ((sv2.2++[(⟨(a0.B.getD iv1 dF).F,(a0.B.getD iv1 dF).G,(a0.B.getD iv1 dF).H,(a0.B.getD iv1 dF).A,(a0.B.getD iv1 dF).D,(a0.B.getD iv1 dF).C,(a0.B.getD iv1 dF).E⟩:TPo)]).length))]))]) (D:=[(Ob.box (AV.agg [(AV.d (DV.str (a0.B.getD iv1 dF).F)),(vi (a0.B.getD iv1 dF).G),(vi (a0.B.getD iv1 dF).H),(rr 9 (a0.B.getD iv1 dF).A),(rr 10 (a0.B.getD iv1 dF).D),(rr 11 (a0.B.getD iv1 dF).C),(rr 12 (a0.B.getD iv1 dF).E)]))]) (E:=[(Ob.seq 7 1 (listF AV.bot [(AV.agg [(AV.d (DV.str (a0.B.getD iv1 dF).F)),(vi (a0.B.getD iv1 dF).G),(vi (a0.B.getD iv1 dF).H),(rr 9 (a0.B.getD iv1 dF).A),(rr 10 (a0.B.getD iv1 dF).D),(rr 11 (a0.B.getD iv1 dF).C),(rr 12 (a0.B.getD iv1 dF).E)])]))]) (i:=i0) (l:=sv2.2) (x:=(⟨(a0.B.getD iv1 dF).F,(a0.B.getD iv1 dF).G,(a0.B.getD iv1 dF).H,(a0.B.getD iv1 dF).A,(a0.B.getD iv1 dF).D,(a0.B.getD iv1 dF).C,(a0.B.getD iv1 dF).E⟩:TPo)) rfl rfl (fun j hj=>z17 hj) (by rw[z1b (ye _),y3o]; rfl) h.1 h.2) (zm _)<|
.c (sv2.1,sv2.2++[e0_])
def S_qk (a0:TTr) (i0:Nat):SC R_qk R_qk :=
 let e3_:=(TTr.b (⟨0,[]⟩:TTr))
.reg 0 [] [(1,{ obs:=[(1,e3_)] })] [.pf cz3]<|
.reg 1 [] [(2,{ h:=.obj }),(3,{ h:=.obj })] []<|
 let e0_:=(([]:List TPo).getD i0 dF)
 let e6_:=(AV.agg [(vi a0.I),(AV.ref 3 0 0 0)])
 let e7_:=(TTr.b a0)
 let e1_:=[e7_,e3_,(Ob.box e6_),(oTApiPot.R 4 i0 [])]
 let e2_:=[(1,(vp 0)),(2,(vp 1)),(3,(vp 2))]
.sh (A:=True) (.pf trivial) e2_ e2_ [e7_,e3_,(Ob.box (AV.agg [(vi a0.I),(AV.full 0 fun _=>DV.b false)]))] e1_ (fun _=>(z26 (sz:=7) (f:=(fun j=>AV.sel (decide (j=i0)) 7 (AV.agg [(AV.d (DV.str e0_.F)),(vi e0_.G),(vi e0_.H),(rr 4 e0_.A),(rr 5 e0_.D),(rr 6 e0_.C),(rr 7 e0_.E)]) (TPo.d (([]:List TPo).getD j dF)))) (.keep _ _ _ _ (y13 rfl) (.keep _ _ _ _ (y13 rfl) (.box _ _ _ _ _ (y13 rfl) (TrV.agg (TrL.cons (TrV.keep _) (TrL.cons TrV.born TrL.nil))) (.nil _)))))) (z1f (k:=0) rfl (TrS.keep _) (z1f (k:=1) rfl (TrS.keep _) (z1f (k:=2) rfl (TrS.keep _) z2r)))<|
.sh (A:=True) (.pf trivial) e2_ e2_ e1_ [e7_,e3_,(Ob.box e6_),(oTApiPot.R 4 i0 []),(eQ (opQ TPo.A i0 ([]:List TPo))),(eQ (opQ TPo.D i0 ([]:List TPo))),(eQ (opQ TPo.C i0 ([]:List TPo))),(eQ (opQ TPo.E i0 ([]:List TPo)))] (fun _=>z5w) (zm _)<|
.range (a0.B.length:Int) a0.B.length rfl (.slot 10) 12 [2,3,10,11] (fun (_:Int×(List TPo))=>[]) (fun sv2=>[(2,(Ob.box (AV.agg [(vi sv2.1),(AV.ref 3 sv2.2.length 0 sv2.2.length)]))),(3,(oTApiPot.R 4 i0 sv2.2)),(4,(eQ (opQ TPo.A i0 sv2.2))),(5,(eQ (opQ TPo.D i0 sv2.2))),(6,(eQ (opQ TPo.C i0 sv2.2))),(7,(eQ (opQ TPo.E i0 sv2.2)))]) (a0.I,([]:List TPo)) (S_qk_b1 a0 i0) (fun sv2 => 
.reg 11 [] [] []<|
.kill 0<|
.kill 2<|
.guard [i0<sv2.2.length]<|
 let e4_:=(AV.agg [(vi sv2.1),(AV.ref 3 sv2.2.length 0 sv2.2.length)])
 let e5_:=(sv2.2.getD i0 dF)
.cst (A:=i0<sv2.2.length) (.ev 0) [(2,(vp 1))] [(2,(vp 1))] [Ob.dead,(Ob.box e4_),Ob.dead,(oTApiPot.R 4 i0 sv2.2),(eQ (opQ TPo.A i0 sv2.2)),(eQ (opQ TPo.D i0 sv2.2)),(eQ (opQ TPo.C i0 sv2.2)),(eQ (opQ TPo.E i0 sv2.2))] [Ob.dead,(Ob.box e4_),Ob.dead,(oTApiPot.R 4 i0 sv2.2),(eQ e5_.A),(eQ e5_.D),(eQ e5_.C),(eQ e5_.E)] (fun h=>⟨rfl,by simp +zetaDelta only[zch h]⟩)<|
.r (sv2.1,sv2.2)) id
def F_qk (a0:TTr) (i0:Nat):=(S_qk a0 i0).den
theorem F_qk_ok {a0:TTr} {i0:Nat}:FO (F_qk a0 i0) 63 [(TTr.d a0)] [] (fun x=>(AV.agg [(vi x.1),(AV.ref 3 x.2.length 0 x.2.length)])) (fun x=>[Ob.dead,(Ob.box (AV.agg [(vi x.1),(AV.ref 3 x.2.length 0 x.2.length)])),Ob.dead,(opS 7 TPo.e i0 (AV.agg [(AV.d (DV.str (x.2.getD i0 dF).F)),(vi (x.2.getD i0 dF).G),(vi (x.2.getD i0 dF).H),(rr 4 (x.2.getD i0 dF).A),(rr 5 (x.2.getD i0 dF).D),(rr 6 (x.2.getD i0 dF).C),(rr 7 (x.2.getD i0 dF).E)]) x.2),(eQ (x.2.getD i0 dF).A),(eQ (x.2.getD i0 dF).D),(eQ (x.2.getD i0 dF).C),(eQ (x.2.getD i0 dF).E)]):=fO (s:=S_qk a0 i0) Tryz.func63
def S_q1k (a0:TTr) (a1:Int) (a2:Y8) (a3:Int) (a4:Int):SC (TTr×Int) (TTr×Int) :=
 let e22_:=(TTr.b (⟨0,[]⟩:TTr))
.reg 0 [] [(1,{ obs:=[(1,e22_)] })] [.pf cz3]<|
.a 1 4 2 (@F_qq_ok a0 a1 a2 a3) fun rv1=>
 let e11_:=(TTr.d (⟨0,[]⟩:TTr))
.ite (rv1.2 != 0) (
.reg 3 [] [(0,hv e11_)] [.pf cz4]<|
.r ((⟨0,[]⟩:TTr),rv1.2)) (
.ite (cO (decide (a4<1)) (decide (a4>1000000000000000))) (
.reg 5 [] [(0,hv e11_)] [.pf cz4]<|
.r ((⟨0,[]⟩:TTr),2)) (
 let e4_:=(i64.wrap (a1-1))
 let e5_:=((rv1.1).toNat)
 let e10_:=(a0.B.getD e5_ dF)
.guard [(0:Int)<=rv1.1,(rv1.1).toNat<a0.B.length,(0:Int)<=e4_,(e4_).toNat<(e10_.C).length,(e4_).toNat<(e10_.A).length]<|
.reg 6 [] [] [.ev 0,.ev 1,.ev 2,.ev 3,.ev 0,.ev 1,.ev 2,.ev 4]<|
.ite (decide ((i64.wrap (((e10_.C).getD ((e4_).toNat) dF)+a4))>((e10_.A).getD ((e4_).toNat) dF))) (
.reg 7 [] [(0,hv e11_)] [.pf cz4]<|
.r ((⟨0,[]⟩:TTr),15)) (
.call (@F_qk_ok a0 e5_) fun rv2 cv2=>
.reg 8 [] [(1,hc cv2 [] false),(2,{ obs:=[(10,e22_)] })] [.cl 0 cv2 [] 2 false,.pf cz3]<|
.kill 3<|
 let e0_:=(rv2.2.getD e5_ dF)
 let e20_:=(0+(e4_).toNat)
.guard [(rv1.1).toNat<rv2.2.length,(e4_).toNat<(e0_.C).length,e20_<(e0_.C).length]<|
 let e8_:=(i64.wrap (((e0_.C).getD e20_ dF)+a4))
 let e1_:=((e0_.C).set e20_ e8_)
 let e12_:=(eS 1 (DV.i .i64) e1_)
 let e19_:=((e0_.C).length)
 let e21_:=(AV.ptr 5 rv2.2.length [.x e5_ 7])
.reg 9 [] [(3,hv e21_),(13,{ obs:=[(8,e12_)] })] [.e rv2.2.length,.ev 5,.ev 0,.pf (p:=LeV (AV.ptr 5 rv2.2.length [.x (0+e5_) 7]) e21_) (z2a),.e rv2.2.length,.e rv2.2.length,.ev 0,.pf (p:=decide ((rv1.1).toNat=(rv1.1).toNat)=true) (yc rfl),.e e19_,.ev 7,.ev 1,.e e19_,.ev 2,.e e19_,.ev 7,.ev 1,.e e19_,.ev 2,.pf (z15 (sz:=1) (e:=(DV.i .i64)) (l:=(e0_.C)) (i:=e20_) (x:=e8_) (fun _=>rfl))]<|
.reg 10 [] [] []<|
.guard [e1_.length=(e0_.C).length]<|
 let e13_:=(TTr.b a0)
 let e15_:=(eS 1 (DV.i .i64) (e0_.A))
 let e16_:=(eS 1 (DV.i .i64) (e0_.D))
 let e17_:=(eS 1 (DV.i .i64) (e0_.E))
 let e18_:=(AV.d (DV.str (e0_.F)))
.cst (A:=e1_.length=(e0_.C).length) (.ev 0) [(10,(vp 1)),(11,(vi 0))] [(10,(vp 1)),(11,(vi 0))] [e13_,(Ob.box (AV.agg [(vi rv2.1),(AV.ref 5 rv2.2.length 0 rv2.2.length)])),Ob.dead,Ob.dead,Ob.dead,(opS 7 TPo.e e5_ (AV.agg [e18_,(vi (e0_.G)),(vi (e0_.H)),(AV.ref 6 ((e0_.A).length) 0 ((e0_.A).length)),(AV.ref 7 ((e0_.D).length) 0 ((e0_.D).length)),(AV.ref 8 ((e0_.C).length) 0 ((e0_.C).length)),(AV.ref 9 ((e0_.E).length) 0 ((e0_.E).length))]) rv2.2),e15_,e16_,e12_,e17_,(Ob.box (AV.agg [(vi rv2.1),(AV.ref 5 rv2.2.length 0 rv2.2.length)]))] [e13_,(Ob.box (AV.agg [(vi rv2.1),(AV.ref 5 rv2.2.length 0 rv2.2.length)])),Ob.dead,Ob.dead,Ob.dead,(opS 7 TPo.e e5_ (AV.agg [e18_,(vi (e0_.G)),(vi (e0_.H)),(AV.ref 6 ((e0_.A).length) 0 ((e0_.A).length)),(AV.ref 7 ((e0_.D).length) 0 ((e0_.D).length)),(AV.ref 8 (e1_.length) 0 (e1_.length)),(AV.ref 9 ((e0_.E).length) 0 ((e0_.E).length))]) rv2.2),e15_,e16_,e12_,e17_,(Ob.box (AV.agg [(vi rv2.1),(AV.ref 5 rv2.2.length 0 rv2.2.length)]))] (fun h=>⟨rfl,by rw[h]⟩)<|
.guard [(e0_.A).length<2 ^ 63/\(e0_.D).length<2 ^ 63/\e1_.length<2 ^ 63/\(e0_.E).length<2 ^ 63]<|
 let e14_:=(⟨e0_.F,e0_.G,e0_.H,e0_.A,e0_.D,e1_,e0_.E⟩:TPo)
 let e2_:=(rv2.2.set e5_ e14_)
 let e3_:=(AV.agg [(vi rv2.1),(AV.ref 5 rv2.2.length 0 rv2.2.length)])
 let e6_:=[e13_,(Ob.box e3_),Ob.dead,Ob.dead,Ob.dead,(eS 7 TPo.e e2_),Ob.dead,Ob.dead,Ob.dead,Ob.dead,(Ob.box e3_)]
 let e7_:=[(10,(vp 1)),(11,(vi 0))]
.sh (A:=(e0_.A).length<2 ^ 63/\(e0_.D).length<2 ^ 63/\e1_.length<2 ^ 63/\(e0_.E).length<2 ^ 63) (.ev 0) e7_ e7_ [e13_,(Ob.box e3_),Ob.dead,Ob.dead,Ob.dead,(opS 7 TPo.e e5_ (AV.agg [e18_,(vi (e0_.G)),(vi (e0_.H)),(AV.ref 6 ((e0_.A).length) 0 ((e0_.A).length)),(AV.ref 7 ((e0_.D).length) 0 ((e0_.D).length)),(AV.ref 8 (e1_.length) 0 (e1_.length)),(AV.ref 9 ((e0_.E).length) 0 ((e0_.E).length))]) rv2.2),e15_,e16_,e12_,e17_,(Ob.box e3_)] e6_ (fun h=>zw oTApiPot (P:=[e13_,(Ob.box e3_),Ob.dead,Ob.dead,Ob.dead]) (D:=[(Ob.box e3_)]) rfl (⟨e0_.F,e0_.G,e0_.H,[],[],[],[]⟩:TPo) e14_ h rfl) (zm _)<|
 let e9_:=(AV.agg [(vi rv2.1),(AV.ref 5 (e2_.length) 0 (e2_.length))])
.cst (A:=True) (.pf trivial) e7_ e7_ e6_ [e13_,(Ob.box e9_),Ob.dead,Ob.dead,Ob.dead,(eS 7 TPo.e e2_),Ob.dead,Ob.dead,Ob.dead,Ob.dead,(Ob.box e9_)] (fun _=>⟨by simp +zetaDelta only,by simp +zetaDelta only[yi]⟩)<|
.guard [e2_.length<2 ^ 63]<|
.frz 5 (.ev 0) none [] [1,10]<|
.r ((⟨rv2.1,e2_⟩:TTr),0))))
def F_q1k (a0:TTr) (a1:Int) (a2:Y8) (a3:Int) (a4:Int):=(S_q1k a0 a1 a2 a3 a4).den
theorem F_q1k_ok {a0:TTr} {a1:Int} {a2:Y8} {a3:Int} {a4:Int}:FO (F_q1k a0 a1 a2 a3 a4) 30 [(TTr.d a0),(vi a1),(AV.d (DV.str a2)),(vi a3),(vi a4)] [] (fun x=>(AV.tup [(TTr.d x.1),(vi x.2)])) NL:=fO (s:=S_q1k a0 a1 a2 a3 a4) Tryz.func30
end
end Go.Proofs.YtcfloplnjicomaaGreatDoor
/- What the functions compute,and that their calls return it. No condition. -/
namespace Go.Proofs.YtcfloplnjicomaaGreatDoor
open Go Go.TA
open Go.IntKind (i64)
noncomputable section
set_option maxRecDepth 100000
def S_q21 (a0:TTr) (a1:TMe):SC (TTr×Int) (TTr×Int) :=
 let e28_:=(TTr.b (⟨0,[]⟩:TTr))
.reg 0 [] [(2,{ obs:=[(2,e28_)] })] [.pf cz3]<|
.a 1 1 3 (@F_qi_ok a0) fun rv1=>
 let e15_:=(TTr.d (⟨0,[]⟩:TTr))
.ite (cO (!rv1) (a1.L != 0)) (
.reg 2 [] [(0,hv e15_)] [.pf cz4]<|
.r ((⟨0,[]⟩:TTr),1)) (
.a 3 7 3 (@F_qq_ok a0 a1.K a1.F a1.G) fun rv2=>
.ite (rv2.2 != 0) (
.reg 5 [] [(0,hv e15_)] [.pf cz4]<|
.r ((⟨0,[]⟩:TTr),rv2.2)) (
 let e5_:=(i64.wrap (a1.K-1))
 let e9_:=((rv2.1).toNat)
 let e20_:=(decide (a1.J<0))
 let e29_:=((a0.B.getD e9_ dF).A)
 let e6_:=(cO e20_ (decide (a1.J>(e29_.getD ((e5_).toNat) dF))))
.calld [e6_=false] dF (@F_qc_ok a1.E) fun rv3 cv3 =>
.guard [AllP [e20_=false]->((0:Int)<=rv2.1),AllP [e20_=false]->((rv2.1).toNat<a0.B.length),AllP [e20_=false]->((0:Int)<=e5_),AllP [e20_=false]->((e5_).toNat<e29_.length)]<|
.reg 6 [] [(22,hc cv3 [] true)] [.ev 0,.ev 1,.ev 2,.ev 3,.clg 4 [e6_=false] cv3 [] 3 true]<|
.ite (cO e6_ (!rv3)) (
.reg 7 [] [(0,hv e15_)] [.pf cz4]<|
.r ((⟨0,[]⟩:TTr),2)) (
.call (@F_qk_ok a0 e9_) fun rv4 cv4=>
.reg 8 [] [(1,hc cv4 [] false),(2,{ obs:=[(11,e28_)] })] [.cl 0 cv4 [] 3 false,.pf cz3]<|
.kill 4<|
 let e1_:=(rv4.2.getD e9_ dF)
 let e12_:=(0+(e5_).toNat)
.guard [(0:Int)<=rv2.1,(rv2.1).toNat<rv4.2.length,(0:Int)<=e5_,(e5_).toNat<(e1_.D).length,e12_<(e1_.D).length]<|
 let e10_:=((e1_.D).getD e12_ dF)
 let e27_:=(if a1.J>e10_ then a1.J else e10_)
 let e0_:=((e1_.D).set e12_ e27_)
 let e7_:=(AV.ptr 6 rv4.2.length [.x e9_ 7])
 let e11_:=(AV.ptr 6 rv4.2.length [.x (0+e9_) 7])
 let e16_:=(eS 1 (DV.i .i64) e0_)
 let e21_:=((rv2.1).toNat=(rv2.1).toNat)
 let e26_:=((e1_.D).length)
.reg 9 [24] [(3,hv e7_),(12,hv e7_),(24,{ obs:=[(8,e16_)] })] [.e rv4.2.length,.ev 0,.ev 1,.pf (p:=LeV e11_ e7_) (z2a),.e rv4.2.length,.e rv4.2.length,.ev 1,.pf (p:=decide e21_=true) (yc rfl),.e rv4.2.length,.ev 0,.ev 1,.pf (p:=LeV e11_ e7_) (z2a),.e rv4.2.length,.e rv4.2.length,.ev 1,.pf (p:=decide e21_=true) (yc rfl),.e e26_,.ev 2,.ev 3,.e e26_,.ev 4,.e e26_,.ev 2,.ev 3,.e e26_,.ev 4,.pf (z15 (sz:=1) (e:=(DV.i .i64)) (l:=(e1_.D)) (i:=e12_) (x:=e27_) (fun _=>rfl))]<|
.guard [(e5_).toNat<(e1_.E).length,e12_<(e1_.E).length]<|
 let e2_:=((e1_.E).set e12_ a1.E)
 let e17_:=(eS 1 (DV.i .i64) e2_)
.reg 10 [12] [(3,hv e7_),(12,{ obs:=[(10,e17_)] })] [.e rv4.2.length,.ev 2,.ev 3,.pf (p:=LeV e11_ e7_) (z2a),.e rv4.2.length,.e rv4.2.length,.ev 3,.pf (p:=decide e21_=true) (yc rfl),.e ((e1_.E).length),.ev 4,.ev 0,.e ((e1_.E).length),.ev 1,.pf (z15 (sz:=1) (e:=(DV.i .i64)) (l:=(e1_.E)) (i:=e12_) (x:=a1.E) (fun _=>rfl))]<|
.reg 11 [] [] []<|
.guard [e0_.length=(e1_.D).length/\e2_.length=(e1_.E).length]<|
 let e18_:=(TTr.b a0)
 let e19_:=(TMe.b a1)
 let e23_:=(eS 1 (DV.i .i64) (e1_.A))
 let e24_:=(eS 1 (DV.i .i64) (e1_.C))
 let e25_:=(AV.d (DV.str (e1_.F)))
.cst (A:=e0_.length=(e1_.D).length/\e2_.length=(e1_.E).length) (.ev 0) [(4,(vp 2)),(5,(vi 0))] [(4,(vp 2)),(5,(vi 0))] [e18_,e19_,(Ob.box (AV.agg [(vi rv4.1),(AV.ref 6 rv4.2.length 0 rv4.2.length)])),Ob.dead,Ob.dead,Ob.dead,(opS 7 TPo.e e9_ (AV.agg [e25_,(vi (e1_.G)),(vi (e1_.H)),(AV.ref 7 ((e1_.A).length) 0 ((e1_.A).length)),(AV.ref 8 ((e1_.D).length) 0 ((e1_.D).length)),(AV.ref 9 ((e1_.C).length) 0 ((e1_.C).length)),(AV.ref 10 ((e1_.E).length) 0 ((e1_.E).length))]) rv4.2),e23_,e16_,e24_,e17_,(Ob.box (AV.agg [(vi rv4.1),(AV.ref 6 rv4.2.length 0 rv4.2.length)]))] [e18_,e19_,(Ob.box (AV.agg [(vi rv4.1),(AV.ref 6 rv4.2.length 0 rv4.2.length)])),Ob.dead,Ob.dead,Ob.dead,(opS 7 TPo.e e9_ (AV.agg [e25_,(vi (e1_.G)),(vi (e1_.H)),(AV.ref 7 ((e1_.A).length) 0 ((e1_.A).length)),(AV.ref 8 (e0_.length) 0 (e0_.length)),(AV.ref 9 ((e1_.C).length) 0 ((e1_.C).length)),(AV.ref 10 (e2_.length) 0 (e2_.length))]) rv4.2),e23_,e16_,e24_,e17_,(Ob.box (AV.agg [(vi rv4.1),(AV.ref 6 rv4.2.length 0 rv4.2.length)]))] (fun h=>⟨rfl,by rw[h.1,h.2]⟩)<|
.guard [(e1_.A).length<2 ^ 63/\e0_.length<2 ^ 63/\(e1_.C).length<2 ^ 63/\e2_.length<2 ^ 63]<|
 let e22_:=(⟨e1_.F,e1_.G,e1_.H,e1_.A,e0_,e1_.C,e2_⟩:TPo)
 let e3_:=(rv4.2.set e9_ e22_)
 let e4_:=(AV.agg [(vi rv4.1),(AV.ref 6 rv4.2.length 0 rv4.2.length)])
 let e8_:=[e18_,e19_,(Ob.box e4_),Ob.dead,Ob.dead,Ob.dead,(eS 7 TPo.e e3_),Ob.dead,Ob.dead,Ob.dead,Ob.dead,(Ob.box e4_)]
 let e14_:=[(4,(vp 2)),(5,(vi 0))]
.sh (A:=(e1_.A).length<2 ^ 63/\e0_.length<2 ^ 63/\(e1_.C).length<2 ^ 63/\e2_.length<2 ^ 63) (.ev 0) e14_ e14_ [e18_,e19_,(Ob.box e4_),Ob.dead,Ob.dead,Ob.dead,(opS 7 TPo.e e9_ (AV.agg [e25_,(vi (e1_.G)),(vi (e1_.H)),(AV.ref 7 ((e1_.A).length) 0 ((e1_.A).length)),(AV.ref 8 (e0_.length) 0 (e0_.length)),(AV.ref 9 ((e1_.C).length) 0 ((e1_.C).length)),(AV.ref 10 (e2_.length) 0 (e2_.length))]) rv4.2),e23_,e16_,e24_,e17_,(Ob.box e4_)] e8_ (fun h=>zw oTApiPot (P:=[e18_,e19_,(Ob.box e4_),Ob.dead,Ob.dead,Ob.dead]) (D:=[(Ob.box e4_)]) rfl (⟨e1_.F,e1_.G,e1_.H,[],[],[],[]⟩:TPo) e22_ h rfl) (zm _)<|
 let e13_:=(AV.agg [(vi rv4.1),(AV.ref 6 (e3_.length) 0 (e3_.length))])
.cst (A:=True) (.pf trivial) e14_ e14_ e8_ [e18_,e19_,(Ob.box e13_),Ob.dead,Ob.dead,Ob.dead,(eS 7 TPo.e e3_),Ob.dead,Ob.dead,Ob.dead,Ob.dead,(Ob.box e13_)] (fun _=>⟨by simp +zetaDelta only,by simp +zetaDelta only[yi]⟩)<|
.guard [e3_.length<2 ^ 63]<|
.frz 6 (.ev 0) none [] [2,11]<|
.r ((⟨rv4.1,e3_⟩:TTr),0))))
def F_q21 (a0:TTr) (a1:TMe):=(S_q21 a0 a1).den
theorem F_q21_ok {a0:TTr} {a1:TMe}:FO (F_q21 a0 a1) 37 [(TTr.d a0),(TMe.d a1)] [] (fun x=>(AV.tup [(TTr.d x.1),(vi x.2)])) NL:=fO (s:=S_q21 a0 a1) Tryz.func37
def S_qh_b1 (a0:TPo) (sv1:Int×Int):SC Int (Step (Int×Int) Int) :=
.ite (bif (decide (sv1.2<(a0.A.length:Int))) then (decide (sv1.2<(a0.D.length:Int))) else false) (
.guard [(0:Int)<=sv1.2,(sv1.2).toNat<a0.A.length,(sv1.2).toNat<a0.D.length]<|
.reg 5 [] [] [.ev 0,.ev 1,.ev 0,.ev 2]<|
.r (.cont ((i64.wrap (sv1.1+(i64.wrap ((a0.A.getD ((sv1.2).toNat) dF)-(a0.D.getD ((sv1.2).toNat) dF))))),(i64.wrap (sv1.2+1))))) (
.r (.brk (sv1.1,sv1.2)))
def S_qh (a0:TPo):SC Int Int :=
.iter [1] (fun (sv1:Int×Int)=>[(3,(vi sv1.1)),(4,(vi sv1.2))]) (fun _=>[]) (0,0) (S_qh_b1 a0) (fun sv1 =>
.r sv1.1) id
def F_qh (a0:TPo):=(S_qh a0).den
theorem F_qh_ok {a0:TPo}:FO (F_qh a0) 15 [(TPo.d a0)] [] vi NL:=fO (s:=S_qh a0) Tryz.func15
def S_q1o (a0:TPo):SC Int Int :=
.a 1 3 1 (@F_qh_ok a0) fun rv1=>
.r (i64.wrap (a0.H-rv1))
def F_q1o (a0:TPo):=(S_q1o a0).den
theorem F_q1o_ok {a0:TPo}:FO (F_q1o a0) 17 [(TPo.d a0)] [] vi NL:=fO (s:=S_q1o a0) Tryz.func17
abbrev R_q2:=TTr×Int
def S_q2_b1 (a0:TTr) (a3:(List Int)) (rv1:R_qq) (iv2:Nat) (sv3:Int×Int):SC R_q2 (Step (Int×Int) R_q2) :=
.reg 9 [] [] [.w iv2,.ev 0]<|
.a 10 1 2 (@F_qc_ok (a3.getD iv2 dF)) fun rv4=>
.ite (!rv4) (
.reg 11 [] [(0,hv (TTr.d (⟨0,[]⟩:TTr)))] [.pf cz4]<|
.r (.ret ((⟨0,[]⟩:TTr),2))) (
 let e0_:=((a0.B.getD ((rv1.1).toNat) dF).A)
.guard [(0:Int)<=rv1.1,(rv1.1).toNat<a0.B.length,iv2<e0_.length]<|
.reg 13 [] [] [.ev 0,.ev 1,.w iv2,.ev 2]<|
.r (.cont ((i64.wrap (sv3.1+(a3.getD iv2 dF))),(i64.wrap (sv3.2+(e0_.getD iv2 dF))))))
def S_q2_b2 (a3:(List Int)) (rv1:R_qq) (rv5:R_qk) (iv6:Nat) (sv7:(List Int)):SC R_q2 (Step ((List Int)) R_q2) :=
.reg 22 [] [] [.w iv6,.ev 0]<|
 let e3_:=((rv1.1).toNat)
 let e2_:=((rv5.2.getD e3_ dF).A)
.guard [(rv1.1).toNat<rv5.2.length,sv7.length=e2_.length,iv6<e2_.length,(0+iv6)<sv7.length]<|
 let e0_:=(i64.wrap ((sv7.getD (0+iv6) dF)+(a3.getD iv6 dF)))
 let e1_:=(AV.ptr 5 rv5.2.length [.x e3_ 7])
.reg 23 [] [(3,hv e1_),(12,{ obs:=[(6,(eS 1 (DV.i .i64) (sv7.set (0+iv6) e0_)))] })] [.e rv5.2.length,.ev 9,.ev 0,.pf (p:=LeV (AV.ptr 5 rv5.2.length [.x (0+e3_) 7]) e1_) (z2a),.e rv5.2.length,.e rv5.2.length,.ev 0,.pf (p:=decide ((rv1.1).toNat=(rv1.1).toNat)=true) (yc rfl),.ev 1,.w iv6,.ev 2,.ev 1,.ev 3,.ev 1,.w iv6,.ev 2,.ev 1,.ev 3,.pf (z15 (sz:=1) (e:=(DV.i .i64)) (l:=sv7) (i:=(0+iv6)) (x:=e0_) (fun _=>rfl))]<|
.c (sv7.set (0+iv6) e0_)
def S_q2 (a0:TTr) (a1:Y8) (a2:Int) (a3:(List Int)):SC R_q2 R_q2 :=
 let e15_:=(TTr.b (⟨0,[]⟩:TTr))
.reg 0 [] [(1,{ obs:=[(1,e15_)] })] [.pf cz3]<|
.a 1 3 2 (@F_qq_ok a0 1 a1 a2) fun rv1=>
 let e4_:=(TTr.d (⟨0,[]⟩:TTr))
.ite (rv1.2 != 0) (
.reg 3 [] [(0,hv e4_)] [.pf cz4]<|
.r ((⟨0,[]⟩:TTr),rv1.2)) (
.ite ((a3.length:Int) != a0.I) (
.reg 5 [] [(0,hv e4_)] [.pf cz4]<|
.r ((⟨0,[]⟩:TTr),6)) (
.range (a3.length:Int) a3.length rfl (.slot 3) 38 [3,4,8,10,36,37] (fun (sv3:Int×Int)=>[(12,(vi sv3.1)),(13,(vi sv3.2))]) (fun _=>[]) (0,0) (S_q2_b1 a0 a3 rv1) (fun sv3 => 
 let e5_:=((rv1.1).toNat)
.call (@F_q1o_ok (a0.B.getD e5_ dF)) fun rv8 cv8=>
.guard [(0:Int)<=rv1.1,(rv1.1).toNat<a0.B.length]<|
.reg 15 [] [(6,hc cv8 [] true)] [.ev 0,.ev 1,.cl 2 cv8 [] 2 true]<|
.ite (decide (sv3.1>rv8)) (
.reg 16 [] [(0,hv e4_)] [.pf cz4]<|
.r ((⟨0,[]⟩:TTr),15)) (
.ite (decide ((i64.wrap (sv3.1+sv3.2))>1000000000000000)) (
.reg 18 [] [(0,hv e4_)] [.pf cz4]<|
.r ((⟨0,[]⟩:TTr),3)) (
.call (@F_qk_ok a0 e5_) fun rv5 cv5=>
.reg 19 [] [(1,hc cv5 [] false),(2,{ obs:=[(10,e15_)] })] [.cl 0 cv5 [] 2 false,.pf cz3]<|
.kill 3<|
 let e0_:=(rv5.2.getD e5_ dF)
.range (a3.length:Int) a3.length rfl (.slot 78) 80 [8,10,16,78,79] (fun (_:(List Int))=>[]) (fun sv7=>[(6,(eS 1 (DV.i .i64) sv7))]) (e0_.A) (S_q2_b2 a3 rv1 rv5) (fun sv7 => 
.reg 25 [] [] []<|
.guard [sv7.length=(e0_.A).length]<|
 let e8_:=(TTr.b a0)
 let e10_:=(eS 1 (DV.i .i64) (e0_.D))
 let e11_:=(eS 1 (DV.i .i64) (e0_.C))
 let e12_:=(eS 1 (DV.i .i64) (e0_.E))
 let e13_:=(AV.d (DV.str (e0_.F)))
 let e14_:=(eS 1 (DV.i .i64) sv7)
.cst (A:=sv7.length=(e0_.A).length) (.ev 0) [(8,(vp 1)),(9,(vi 0))] [(8,(vp 1)),(9,(vi 0))] [e8_,(Ob.box (AV.agg [(vi rv5.1),(AV.ref 5 rv5.2.length 0 rv5.2.length)])),Ob.dead,Ob.dead,Ob.dead,(opS 7 TPo.e e5_ (AV.agg [e13_,(vi (e0_.G)),(vi (e0_.H)),(AV.ref 6 ((e0_.A).length) 0 ((e0_.A).length)),(AV.ref 7 ((e0_.D).length) 0 ((e0_.D).length)),(AV.ref 8 ((e0_.C).length) 0 ((e0_.C).length)),(AV.ref 9 ((e0_.E).length) 0 ((e0_.E).length))]) rv5.2),e14_,e10_,e11_,e12_,(Ob.box (AV.agg [(vi rv5.1),(AV.ref 5 rv5.2.length 0 rv5.2.length)]))] [e8_,(Ob.box (AV.agg [(vi rv5.1),(AV.ref 5 rv5.2.length 0 rv5.2.length)])),Ob.dead,Ob.dead,Ob.dead,(opS 7 TPo.e e5_ (AV.agg [e13_,(vi (e0_.G)),(vi (e0_.H)),(AV.ref 6 sv7.length 0 sv7.length),(AV.ref 7 ((e0_.D).length) 0 ((e0_.D).length)),(AV.ref 8 ((e0_.C).length) 0 ((e0_.C).length)),(AV.ref 9 ((e0_.E).length) 0 ((e0_.E).length))]) rv5.2),e14_,e10_,e11_,e12_,(Ob.box (AV.agg [(vi rv5.1),(AV.ref 5 rv5.2.length 0 rv5.2.length)]))] (fun h=>⟨rfl,by rw[h]⟩)<|
.guard [sv7.length<2 ^ 63/\(e0_.D).length<2 ^ 63/\(e0_.C).length<2 ^ 63/\(e0_.E).length<2 ^ 63]<|
 let e9_:=(⟨e0_.F,e0_.G,e0_.H,sv7,e0_.D,e0_.C,e0_.E⟩:TPo)
 let e1_:=(rv5.2.set e5_ e9_)
 let e2_:=(AV.agg [(vi rv5.1),(AV.ref 5 rv5.2.length 0 rv5.2.length)])
 let e3_:=[e8_,(Ob.box e2_),Ob.dead,Ob.dead,Ob.dead,(eS 7 TPo.e e1_),Ob.dead,Ob.dead,Ob.dead,Ob.dead,(Ob.box e2_)]
 let e7_:=[(8,(vp 1)),(9,(vi 0))]
.sh (A:=sv7.length<2 ^ 63/\(e0_.D).length<2 ^ 63/\(e0_.C).length<2 ^ 63/\(e0_.E).length<2 ^ 63) (.ev 0) e7_ e7_ [e8_,(Ob.box e2_),Ob.dead,Ob.dead,Ob.dead,(opS 7 TPo.e e5_ (AV.agg [e13_,(vi (e0_.G)),(vi (e0_.H)),(AV.ref 6 sv7.length 0 sv7.length),(AV.ref 7 ((e0_.D).length) 0 ((e0_.D).length)),(AV.ref 8 ((e0_.C).length) 0 ((e0_.C).length)),(AV.ref 9 ((e0_.E).length) 0 ((e0_.E).length))]) rv5.2),e14_,e10_,e11_,e12_,(Ob.box e2_)] e3_ (fun h=>zw oTApiPot (P:=[e8_,(Ob.box e2_),Ob.dead,Ob.dead,Ob.dead]) (D:=[(Ob.box e2_)]) rfl (⟨e0_.F,e0_.G,e0_.H,[],[],[],[]⟩:TPo) e9_ h rfl) (zm _)<|
 let e6_:=(AV.agg [(vi rv5.1),(AV.ref 5 (e1_.length) 0 (e1_.length))])
.cst (A:=True) (.pf trivial) e7_ e7_ e3_ [e8_,(Ob.box e6_),Ob.dead,Ob.dead,Ob.dead,(eS 7 TPo.e e1_),Ob.dead,Ob.dead,Ob.dead,Ob.dead,(Ob.box e6_)] (fun _=>⟨by simp +zetaDelta only,by simp +zetaDelta only[yi]⟩)<|
.guard [e1_.length<2 ^ 63]<|
.frz 5 (.ev 0) none [] [1,10]<|
.r ((⟨rv5.1,e1_⟩:TTr),0)) id))) id))
def F_q2 (a0:TTr) (a1:Y8) (a2:Int) (a3:(List Int)):=(S_q2 a0 a1 a2 a3).den
theorem F_q2_ok {a0:TTr} {a1:Y8} {a2:Int} {a3:(List Int)}:FO (F_q2 a0 a1 a2 a3) 35 [(TTr.d a0),(AV.d (DV.str a1)),(vi a2),(vl a3)] [] (fun x=>(AV.tup [(TTr.d x.1),(vi x.2)])) NL:=fO (s:=S_q2 a0 a1 a2 a3) Tryz.func35
def S_q22 (a0:TTr) (a1:Int) (a2:Y8) (a3:Int) (a4:Int):SC (TTr×Int) (TTr×Int) :=
 let e5_:=(TTr.b (⟨0,[]⟩:TTr))
.reg 0 [] [(1,{ obs:=[(1,e5_)] })] [.pf cz3]<|
.a 1 4 2 (@F_qq_ok a0 a1 a2 a3) fun rv1=>
 let e4_:=(TTr.d (⟨0,[]⟩:TTr))
.ite (rv1.2 != 0) (
.reg 3 [] [(0,hv e4_)] [.pf cz4]<|
.r ((⟨0,[]⟩:TTr),rv1.2)) (
.ite (cO (decide (a4<1)) (decide (a4>1000000000000000))) (
.reg 5 [] [(0,hv e4_)] [.pf cz4]<|
.r ((⟨0,[]⟩:TTr),2)) (
.guard [(0:Int)<=a0.I,a0.I * 8<=2 ^ 47]<|
 let e1_:=((List.replicate a0.I.toNat (0:Int)).length)
.reg 6 [] [(2,{ cast:=some (AV.ref 2 e1_ 0 e1_),obs:=[(2,(eS 1 (DV.i .i64) (List.replicate a0.I.toNat (0:Int))))] })] [.ev 0,.pf (p:=a0.I<=a0.I) (y1y _),.ev 1,.pf (z82 (o:=2) (k:=a0.I.toNat) (z:=(0:Int))),.pf (z83 (sz:=1) (k:=a0.I.toNat) (e:=(DV.i .i64)) (z:=(0:Int)))]<|
 let e2_:=(i64.wrap (a1-1))
 let e6_:=(0+(e2_).toNat)
.guard [(0:Int)<=e2_,(e2_).toNat<(List.replicate a0.I.toNat (0:Int)).length,e6_<(List.replicate a0.I.toNat (0:Int)).length]<|
 let e0_:=((List.replicate a0.I.toNat (0:Int)).set e6_ a4)
.reg 7 [] [(5,{ obs:=[(2,(eS 1 (DV.i .i64) e0_))] })] [.e e1_,.ev 0,.ev 1,.e e1_,.ev 2,.pf (z15 (sz:=1) (e:=(DV.i .i64)) (l:=(List.replicate a0.I.toNat (0:Int))) (i:=e6_) (x:=a4) (fun _=>rfl))]<|
 let e3_:=[(TTr.b a0),e5_,(eS 1 (DV.i .i64) e0_)]
.cst (A:=True) (.pf trivial) [(2,(AV.d (DV.str a2))),(3,(vi a3)),(5,(vp 0)),(10,(vp 1)),(14,(AV.ref 2 e1_ 0 e1_))] [(2,(AV.d (DV.str a2))),(3,(vi a3)),(5,(vp 0)),(10,(vp 1)),(14,(AV.ref 2 (e0_.length) 0 (e0_.length)))] e3_ e3_ (fun _=>⟨by simp +zetaDelta only[yi],by rfl⟩)<|
.guard [e0_.length<2 ^ 63]<|
.frz 2 (.ev 0) none [14] []<|
.a 8 4 3 (@F_q2_ok a0 a2 a3 e0_) fun rv2=>
.r (rv2.1,rv2.2)))
def F_q22 (a0:TTr) (a1:Int) (a2:Y8) (a3:Int) (a4:Int):=(S_q22 a0 a1 a2 a3 a4).den
theorem F_q22_ok {a0:TTr} {a1:Int} {a2:Y8} {a3:Int} {a4:Int}:FO (F_q22 a0 a1 a2 a3 a4) 28 [(TTr.d a0),(vi a1),(AV.d (DV.str a2)),(vi a3),(vi a4)] [] (fun x=>(AV.tup [(TTr.d x.1),(vi x.2)])) NL:=fO (s:=S_q22 a0 a1 a2 a3 a4) Tryz.func28
abbrev R_q3:=TTr×TTape
def S_q3_b1 (sv1:TTape×TTr×Int):SC R_q3 (Step (TTape×TTr×Int) R_q3) :=
.ite (decide (sv1.2.2>0)) (
.call (@F_qf_ok sv1.1) fun rv2 cv2=>
.call (@F_q0_ok 2 rv2.2) fun rv3 cv3=>
.call (@F_q0_ok 2000 rv3.2) fun rv4 cv4=>
.call (@F_q0_ok 50 rv4.2) fun rv5 cv5=>
 let e0_:=([100,500,rv4.1,(i64.wrap (0-rv5.1))]:List Int)
.call (@F_q4_ok e0_ rv5.2) fun rv6 cv6=>
.call (@F_qj_ok sv1.2.1 rv2.1 (i64.wrap (12+rv3.1)) rv6.1) fun rv7 cv7=>
.reg 5 [2,4,8,10,13,18] [(2,hc cv2 [0] false),(4,hc cv3 [0] false),(8,hc cv4 [0] false),(10,hc cv5 [0] false),(12,hv (vl e0_)),(13,hc cv6 [0] false),(14,hc cv7 [] true)] [.cl 5 cv2 [0] 3 false,.cl 4 cv3 [0] 3 false,.cl 3 cv4 [0] 3 false,.cl 2 cv5 [0] 3 false,.pf (zp (DV.i .i64) e0_),.cl 1 cv6 [0] 3 false,.cl 0 cv7 [] 3 true]<|
.r (.cont (rv6.2,rv7.1,(i64.wrap (sv1.2.2-1))))) (
.r (.brk (sv1.1,sv1.2.1,sv1.2.2)))
def S_q3_b2 (a1:Int) (sv8:TTape×TTr×Int):SC R_q3 (Step (TTape×TTr×Int) R_q3) :=
 let e2_:=(bif (decide (sv8.2.2>0)) then (decide ((sv8.2.1.B.length:Int)>0)) else false)
.ite e2_ (
 let e1_:=[(0,(vp 0)),(1,(vi a1)),(4,(vp 1)),(5,(vp 2)),(7,(vi sv8.2.2)),(47,(vb e2_))]
 let e3_:=(TTr.b (⟨0,[]⟩:TTr))
.sh (H:=NoH) (A:=True) (.pf trivial) e1_ e1_ [(TTape.b sv8.1),e3_,(TTr.b sv8.2.1)] [(TTape.b sv8.1),e3_,(TTr.b sv8.2.1),Ob.unb] (fun _=>zfj) (zm _)<|
.call (@F_q0_ok (sv8.2.1.B.length:Int) sv8.1) fun rv9 cv9=>
.guard [(0:Int)<=rv9.1,(rv9.1).toNat<sv8.2.1.B.length]<|
.reg 9 [6,9,10] [(6,hc cv9 [0] false),(9,{ h:=.born 3 false,obs:=[(3,(TPo.b (⟨[],0,0,[],[],[],[]⟩:TPo)))] })] [.cl 2 cv9 [0] 4 false,.cl 2 cv9 [0] 4 false,.ev 0,.ev 1,.ev 0,.ev 1,.pf cz1,.pf cz1]<|
.call (@F_qe_ok 1 a1 rv9.2) fun rv10 cv10=>
.k 10 2 cv10 [0] 4 false<|
.reg 11 [] [(1,{ obs:=[(4,e3_)] })] [.pf cz3]<|
.call (@F_q0_ok 4 rv10.2) fun rv11 cv11=>
.k 12 1 cv11 [0] 5 false<|
.cut (some 4) [0,1,4,5,7,10] (fun (sv12:TTape×TTr×Int)=>[(11,(vi sv12.2.2))]) (fun sv12=>[(0,(TTape.b sv12.1)),(4,(TTr.b sv12.2.1))]) (
 let e0_:=(sv8.2.1.B.getD ((rv9.1).toNat) dF)
.ite (rv11.1==0) (
.call (@F_qe_ok 1 100 rv11.2) fun rv13 cv13=>
.call (@F_q1k_ok sv8.2.1 rv10.1 (e0_.F) (e0_.G) rv13.1) fun rv14 cv14=>
.reg 15 [7,12] [(7,hc cv13 [0] false),(8,hc cv14 [] true)] [.cl 1 cv13 [0] 5 false,.cl 0 cv14 [] 5 true]<|
.r (.next (rv13.2,rv14.1,rv14.2))) (
.ite (rv11.1==1) (
 let e4_:=(i64.wrap (rv10.1-1))
.call (@F_q0_ok (i64.wrap (((e0_.A).getD ((e4_).toNat) dF)+1)) rv11.2) fun rv15 cv15=>
.call (@F_q0_ok 200 rv15.2) fun rv16 cv16=>
.call (@F_q21_ok sv8.2.1 (⟨rv10.1,0,e0_.F,e0_.G,0,0,rv15.1,rv16.1⟩:TMe)) fun rv17 cv17=>
.guard [(0:Int)<=e4_,(e4_).toNat<(e0_.A).length]<|
.reg 17 [14,16,22] [(14,hc cv15 [0] false),(16,hc cv16 [0] false),(18,hc cv17 [] true)] [.ev 0,.ev 1,.cl 4 cv15 [0] 5 false,.cl 3 cv16 [0] 5 false,.cl 2 cv17 [] 5 true]<|
.r (.next (rv16.2,rv17.1,rv17.2))) (
.ite (rv11.1==2) (
.call (@F_q0_ok 1000 rv11.2) fun rv18 cv18=>
 let e5_:=([0,200,rv18.1]:List Int)
.call (@F_q4_ok e5_ rv18.2) fun rv19 cv19=>
.call (@F_qj_ok sv8.2.1 (e0_.F) (e0_.G) rv19.1) fun rv20 cv20=>
.reg 19 [7,9,14] [(7,hc cv18 [0] false),(8,hv (vl e5_)),(9,hc cv19 [0] false),(10,hc cv20 [] true)] [.cl 2 cv18 [0] 5 false,.pf (zp (DV.i .i64) e5_),.cl 1 cv19 [0] 5 false,.cl 0 cv20 [] 5 true]<|
.r (.next (rv19.2,rv20.1,rv20.2))) (
.call (@F_qe_ok 1 300 rv11.2) fun rv21 cv21=>
.call (@F_q22_ok sv8.2.1 rv10.1 (e0_.F) (e0_.G) rv21.1) fun rv22 cv22=>
.reg 13 [7,12] [(7,hc cv21 [0] false),(8,hc cv22 [] true)] [.cl 1 cv21 [0] 5 false,.cl 0 cv22 [] 5 true]<|
.r (.next (rv21.2,rv22.1,rv22.2)))))) fun sv12=>
 let e6_:=(i64.wrap (sv8.2.2-1))
.ite (sv12.2.2==0) (
.r (.cont (sv12.1,sv12.2.1,e6_))) (
.r (.cont (sv12.1,sv8.2.1,e6_)))) (
.r (.brk (sv8.1,sv8.2.1,sv8.2.2)))
def S_q3 (a1:Int) (p0:TTape):SC R_q3 R_q3 :=
 let e1_:=(TTr.b (⟨0,[]⟩:TTr))
.reg 0 [] [(0,{ obs:=[(1,e1_)] })] [.pf cz3]<|
 let e0_:=(TTr.d (⟨a1,[]⟩:TTr))
.reg 1 [] [(1,hv e0_),(2,{ obs:=[(2,e1_)] })] [.pf (p:=LeV (AV.d (DV.agg [(DV.i .i64 a1),Z0])) e0_) (z4u rfl (DLe.agg (DLeL.cons (DLe.refl _) (DLeL.cons DLe.sl0 DLeL.nil)))),.pf cz3]<|
.call (@F_q0_ok 4 p0) fun rv23 cv23=>
.k 2 1 cv23 [0] 3 false<|
.iter [0,1,4,5] (fun (sv1:TTape×TTr×Int)=>[(6,(vi sv1.2.2))]) (fun sv1=>[(0,(TTape.b sv1.1)),(2,(TTr.b sv1.2.1))]) (rv23.2,(⟨a1,[]⟩:TTr),rv23.1) S_q3_b1 (fun sv1 =>
.call (@F_q0_ok 6 sv1.1) fun rv24 cv24=>
.k 6 1 cv24 [0] 3 false<|
.iter [0,1,4,5] (fun (sv8:TTape×TTr×Int)=>[(7,(vi sv8.2.2))]) (fun sv8=>[(0,(TTape.b sv8.1)),(2,(TTr.b sv8.2.1))]) (rv24.2,sv1.2.1,rv24.1) (S_q3_b2 a1) (fun sv8 =>
.r (sv8.2.1,sv8.1)) id) id
def F_q3 (a1:Int) (p0:TTape):=(S_q3 a1 p0).den
theorem F_q3_ok {a1:Int} {p0:TTape}:FO (F_q3 a1 p0) 7 [(vp 0),(vi a1)] [(TTape.b p0)] (fun x=>(TTr.d x.1)) (fun x=>[(TTape.b x.2)]):=fO (s:=S_q3 a1 p0) Tryz.func7
abbrev R_q2c:=Y8×TTape
def S_q2c (p0:TTape):SC R_q2c R_q2c :=
.call (@F_q0_ok 12 p0) fun rv1 cv1=>
.guard [(0:Int)<=rv1.1,(rv1.1).toNat<12]<|
.reg 1 [] [(0,hv (AV.d (eL DV.str ([[],[48],[48,49],[49,46],[46,49],[49,46,46,50],[49,48,48],[49,46,50,46,51,46,52,46,53],[120],[49,32],[57,57,46,57,57,46,57,57,46,57,57],[52]]:List Y8)))),(2,hc cv1 [0] false)] [.pf (zp DV.str ([[],[48],[48,49],[49,46],[46,49],[49,46,46,50],[49,48,48],[49,46,50,46,51,46,52,46,53],[120],[49,32],[57,57,46,57,57,46,57,57,46,57,57],[52]]:List Y8)),.cl 2 cv1 [0] 1 false,.ev 0,.ev 1]<|
.r ((([[],[48],[48,49],[49,46],[46,49],[49,46,46,50],[49,48,48],[49,46,50,46,51,46,52,46,53],[120],[49,32],[57,57,46,57,57,46,57,57,46,57,57],[52]]:List Y8).getD ((rv1.1).toNat) dF),rv1.2)
def F_q2c (p0:TTape):=(S_q2c p0).den
theorem F_q2c_ok {p0:TTape}:FO (F_q2c p0) 47 [(vp 0)] [(TTape.b p0)] (fun x=>(AV.d (DV.str x.1))) (fun x=>[(TTape.b x.2)]):=fO (s:=S_q2c p0) Tryz.func47
end
end Go.Proofs.YtcfloplnjicomaaGreatDoor
