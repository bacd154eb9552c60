/- A part of the proof: what the functions compute, and that their calls return it. No condition. -/
import Derived.Test.YtpbnkbjhlhlaiaaGreatDoorG5
/- What the functions compute, and that their calls return it. No condition. -/
namespace Go.Proofs.YtpbnkbjhlhlaiaaGreatDoor
open Go Go.TA
open Go.IntKind (i64)
noncomputable section
set_option maxRecDepth 100000
def S_q2f (a0:Int):SC (TOf×Int) (TOf×Int) :=
 let e0_:=(⟨[],[],[],[]⟩:TBo)
 let e2_:=(⟨0,[],e0_⟩:TOf)
.reg 0 [] [(0,{ obs:=[(0,(TOf.b e2_))] })] [.pf zx]<|
.ite (cO (decide (a0<1)) (decide (a0>6))) (
.reg 2 [] [(0,hv (TOf.d e2_))] [.pf cz2]<|
.r (e2_,2)) (
 let e1_:=(⟨a0,[],e0_⟩:TOf)
.reg 3 [] [(1,hv (TOf.d e1_))] [.pf (p:=LeV (AV.d (DV.agg [(DV.i .i64 a0),Z0,(DV.agg [Z0,Z0,Z0,Z0])])) (TOf.d e1_)) (z3s rfl (DLe.agg (DLeL.cons (DLe.refl _) (DLeL.cons DLe.sl0 (DLeL.cons (DLe.agg (DLeL.cons DLe.sl0 (DLeL.cons DLe.sl0 (DLeL.cons DLe.sl0 (DLeL.cons DLe.sl0 DLeL.nil))))) DLeL.nil)))))]<|
.r (e1_,0))
def F_q2f (a0:Int):=(S_q2f a0).den
theorem F_q2f_ok {a0:Int}:FO (F_q2f a0) 46 [(vi a0)] [] (fun x=>(AV.tup [(TOf.d x.1),(vi x.2)])) NL:=fO (s:=S_q2f a0) Tryz.func46
def S_qz (a1:(List Int)) (p0:TTape):SC (Int×TTape) (Int×TTape) :=
.call (@F_q7_ok (a1.length:Int) p0) fun rv1 cv1=>
.guard [(0:Int)<=rv1.1,(rv1.1).toNat<a1.length]<|
.reg 1 [] [(4,hc cv1 [0] false)] [.cl 2 cv1 [0] 1 false,.ev 0,.ev 1]<|
.r ((a1.getD ((rv1.1).toNat) dF),rv1.2)
def F_qz (a1:(List Int)) (p0:TTape):=(S_qz a1 p0).den
theorem F_qz_ok {a1:(List Int)} {p0:TTape}:FO (F_qz a1 p0) 47 [(vp 0),(vl a1)] [(TTape.b p0)] (fun x=>(vi x.1)) (fun x=>[(TTape.b x.2)]):=fO (s:=S_qz a1 p0) Tryz.func47
abbrev R_q46:=Y8×TTape
def S_q46 (p0:TTape):SC R_q46 R_q46 :=
.call (@F_q7_ok 3 p0) fun rv1 cv1=>
.guard [(0:Int)<=rv1.1,(rv1.1).toNat<3]<|
.reg 1 [] [(0,hv (AV.d (eL DV.str ([[49],[49,46,50],[50]]:List Y8)))),(2,hc cv1 [0] false)] [.pf (zi DV.str ([[49],[49,46,50],[50]]:List Y8)),.cl 2 cv1 [0] 1 false,.ev 0,.ev 1]<|
.r ((([[49],[49,46,50],[50]]:List Y8).getD ((rv1.1).toNat) dF),rv1.2)
def F_q46 (p0:TTape):=(S_q46 p0).den
theorem F_q46_ok {p0:TTape}:FO (F_q46 p0) 49 [(vp 0)] [(TTape.b p0)] (fun x=>(AV.d (DV.str x.1))) (fun x=>[(TTape.b x.2)]):=fO (s:=S_q46 p0) Tryz.func49
abbrev R_q1d:=TOp×TTape
def S_q1d (a1:TOf) (a2:Int) (p0:TTape):SC R_q1d R_q1d :=
.call (@F_qz_ok ([1,1,1,2,2,2,3,3,3,4,4,5,6,7,8,8,9]:List Int) p0) fun rv1 cv1=>
.call (@F_q46_ok rv1.2) fun rv2 cv2=>
.call (@F_qr_ok 1 120 rv2.2) fun rv3 cv3=>
 let e2_:=([10,50,rv3.1]:List Int)
.call (@F_qz_ok e2_ rv3.2) fun rv4 cv4=>
.reg 1 [] [(1,hv (vl ([1,1,1,2,2,2,3,3,3,4,4,5,6,7,8,8,9]:List Int))),(2,hc cv1 [0] false),(4,hc cv2 [0] false),(10,hc cv3 [0] false),(11,hv (vl e2_)),(12,hc cv4 [0] false)] [.pf (zi (DV.i .i64) ([1,1,1,2,2,2,3,3,3,4,4,5,6,7,8,8,9]:List Int)),.cl 3 cv1 [0] 3 false,.cl 2 cv2 [0] 3 false,.pf (p:=(360:Int)≠0) dk,.cl 1 cv3 [0] 3 false,.pf (zi (DV.i .i64) e2_),.cl 0 cv4 [0] 3 false]<|
.cut (some 0) [0,2,6,7] (fun (_:TTape×TOp)=>[]) (fun sv5=>[(0,(TTape.b sv5.1)),(3,(TOp.b sv5.2))]) (
.cut none [0,2,4,6,7,23] (fun (sv6:Bool)=>[(24,(vb sv6))]) (fun _=>[]) (
.ite (rv1.1==2) (
.r (.next (rv1.1==2))) (
.r (.next (rv1.1==5)))) fun sv6=>
 let e0_:=(i64.wrap (a2.tdiv 360))
.ite sv6 (
.call (@F_qr_ok 1 (if (a1.V.A.length:Int)>1 then (a1.V.A.length:Int) else 1) rv4.2) fun rv7 cv7=>
.k 5 6 cv7 [0] 4 false<|
.r (.next (rv7.2,(⟨rv1.1,rv2.1,e0_,a2,rv7.1,rv4.1,0,0,0,0⟩:TOp)))) (
.cut none [0,2,4,6,7,23] (fun (sv8:Bool)=>[(35,(vb sv8))]) (fun _=>[]) (
.ite (rv1.1==3) (
.r (.next (rv1.1==3))) (
.r (.next (rv1.1==6)))) fun sv8=>
.ite sv8 (
.call (@F_qr_ok 1 (if (a1.V.B.length:Int)>1 then (a1.V.B.length:Int) else 1) rv4.2) fun rv9 cv9=>
.k 8 6 cv9 [0] 4 false<|
.r (.next (rv9.2,(⟨rv1.1,rv2.1,e0_,a2,rv9.1,rv4.1,0,0,0,0⟩:TOp)))) (
.cut none [0,2,4,6,7,23] (fun (sv10:Bool)=>[(46,(vb sv10))]) (fun _=>[]) (
.ite (rv1.1==4) (
.r (.next (rv1.1==4))) (
.r (.next (rv1.1==9)))) fun sv10=>
.ite sv10 (
.call (@F_qr_ok 1 (if (a1.V.C.length:Int)>1 then (a1.V.C.length:Int) else 1) rv4.2) fun rv11 cv11=>
.k 11 6 cv11 [0] 4 false<|
.r (.next (rv11.2,(⟨rv1.1,rv2.1,e0_,a2,rv11.1,rv4.1,0,0,0,0⟩:TOp)))) (
.ite (rv1.1==8) (
.call (@F_q7_ok 1000 rv4.2) fun rv12 cv12=>
 let e1_:=([100,400,rv12.1]:List Int)
.call (@F_qz_ok e1_ rv12.2) fun rv13 cv13=>
.call (@F_q7_ok 200 rv13.2) fun rv14 cv14=>
 let e3_:=([0,0,rv14.1]:List Int)
.call (@F_qz_ok e3_ rv14.2) fun rv15 cv15=>
.reg 13 [] [(2,hc cv12 [0] false),(3,hv (vl e1_)),(4,hc cv13 [0] false),(7,hc cv14 [0] false),(8,hv (vl e3_)),(9,hc cv15 [0] false)] [.cl 3 cv12 [0] 4 false,.pf (zi (DV.i .i64) e1_),.cl 2 cv13 [0] 4 false,.cl 1 cv14 [0] 4 false,.pf (zi (DV.i .i64) e3_),.cl 0 cv15 [0] 4 false]<|
.r (.next (rv15.2,(⟨rv1.1,rv2.1,e0_,a2,0,rv4.1,0,0,rv13.1,rv15.1⟩:TOp)))) (
.r (.next (rv4.2,(⟨rv1.1,rv2.1,e0_,a2,0,rv4.1,0,0,0,0⟩:TOp)))))))) fun sv5=>
.cut none [6,7] (fun (_:TTape×TOp)=>[]) (fun sv16=>[(0,(TTape.b sv16.1)),(3,(TOp.b sv16.2))]) (
.ite (sv5.2.M==2) (
.call (@F_qr_ok 1 4 sv5.1) fun rv17 cv17=>
.call (@F_q7_ok 60 rv17.2) fun rv18 cv18=>
.reg 15 [] [(1,hc cv17 [0] false),(4,hc cv18 [0] false)] [.cl 1 cv17 [0] 4 false,.cl 0 cv18 [0] 4 false]<|
.r (.next (rv18.2,(⟨sv5.2.M,sv5.2.E,sv5.2.H,sv5.2.O,sv5.2.Y,sv5.2.I,rv17.1,(i64.wrap (a2+rv18.1)),sv5.2.N,sv5.2.Q⟩:TOp)))) (
.r (.next (sv5.1,sv5.2)))) fun sv16=>
.r (sv16.2,sv16.1)
def F_q1d (a1:TOf) (a2:Int) (p0:TTape):=(S_q1d a1 a2 p0).den
theorem F_q1d_ok {a1:TOf} {a2:Int} {p0:TTape}:FO (F_q1d a1 a2 p0) 14 [(vp 0),(TOf.d a1),(vi a2)] [(TTape.b p0)] (fun x=>(TOp.d x.1)) (fun x=>[(TTape.b x.2)]):=fO (s:=S_q1d a1 a2 p0) Tryz.func14
abbrev R_q1e:=TOp×TTape
def S_q1e (a1:TOf) (a2:Int) (p0:TTape):SC R_q1e R_q1e :=
.call (@F_q1d_ok a1 a2 p0) fun rv1 cv1=>
.k 1 3 cv1 [0] 3 false<|
.cut (some 0) [6,8] (fun (_:TOp)=>[]) (fun sv2=>[(4,(TOp.b sv2))]) (
.ite (rv1.1.M==1) (
.reg 6 [9,11,13,15] [] []<|
.r (.next (⟨rv1.1.M,rv1.1.E,rv1.1.H,rv1.1.O,0,rv1.1.I,0,0,0,0⟩:TOp))) (
.ite (rv1.1.M==2) (
.reg 8 [11,13,15,17,19] [] []<|
.r (.next (⟨rv1.1.M,[],0,rv1.1.O,rv1.1.Y,rv1.1.I,rv1.1.T,rv1.1.W,0,0⟩:TOp))) (
.ite (rv1.1.M==3) (
.reg 10 [7,9,11] [] []<|
.r (.next (⟨rv1.1.M,[],0,rv1.1.O,rv1.1.Y,rv1.1.I,0,0,0,0⟩:TOp))) (
.ite (rv1.1.M==4) (
.reg 12 [5,7] [] []<|
.r (.next (⟨rv1.1.M,[],0,rv1.1.O,rv1.1.Y,0,0,0,0,0⟩:TOp))) (
.cut none [6,7,8,17] (fun (sv3:Bool)=>[(71,(vb sv3))]) (fun _=>[]) (
.ite (rv1.1.M==5) (
.r (.next (rv1.1.M==5))) (
.r (.next (rv1.1.M==6)))) fun sv3=>
.ite sv3 (
.reg 15 [5,7] [] []<|
.r (.next (⟨rv1.1.M,[],0,0,rv1.1.Y,rv1.1.I,0,0,0,0⟩:TOp))) (
.ite (rv1.1.M==7) (
.reg 17 [7,9,11] [] []<|
.r (.next (⟨rv1.1.M,rv1.1.E,rv1.1.H,0,0,rv1.1.I,0,0,0,0⟩:TOp))) (
.ite (rv1.1.M==8) (
.reg 19 [9,11,13,15] [] []<|
.r (.next (⟨rv1.1.M,rv1.1.E,rv1.1.H,0,0,0,0,0,rv1.1.N,rv1.1.Q⟩:TOp))) (
.r (.next (⟨rv1.1.M,[],0,0,rv1.1.Y,0,0,0,0,0⟩:TOp)))))))))) fun sv2=>
.r (sv2,rv1.2)
def F_q1e (a1:TOf) (a2:Int) (p0:TTape):=(S_q1e a1 a2 p0).den
theorem F_q1e_ok {a1:TOf} {a2:Int} {p0:TTape}:FO (F_q1e a1 a2 p0) 13 [(vp 0),(TOf.d a1),(vi a2)] [(TTape.b p0)] (fun x=>(TOp.d x.1)) (fun x=>[(TTape.b x.2)]):=fO (s:=S_q1e a1 a2 p0) Tryz.func13
def S_qs_b1 (a0:Y8) (sv1:Int×Int×Int):SC Bool (Step (Int×Int×Int) Bool) :=
.ite (decide (sv1.2.2<(a0.length:Int))) (
.guard [(0:Int)<=sv1.2.2,(sv1.2.2).toNat<a0.length]<|
.reg 6 [] [] [.ev 0,.ev 1]<|
 let e0_:=((a0.getD ((sv1.2.2).toNat) 0).toNat:Int)
 let e2_:=(i64.wrap (sv1.2.2+1))
.ite (e0_==46) (
.ite (sv1.1==0) (
.r (.ret false)) (
.r (.cont (0,(i64.wrap (sv1.2.1+1)),e2_)))) (
 let e3_:=(decide (e0_<48))
 let e1_:=(cO e3_ (decide (e0_>57)))
 let e4_:=((sv1.2.2).toNat<a0.length)
.guard [AllP [e3_=false]->((0:Int)<=sv1.2.2),AllP [e3_=false]->e4_,AllP [(sv1.1==0)=true,e1_=false]->((0:Int)<=sv1.2.2),AllP [(sv1.1==0)=true,e1_=false]->e4_]<|
.reg 11 [] [] [.ev 5,.ev 6,.ev 0,.ev 1,.ev 2,.ev 3]<|
.ite (cO (cO e1_ (bif (sv1.1==0) then (e0_==48) else false)) (sv1.1==2)) (
.r (.ret false)) (
.r (.cont ((i64.wrap (sv1.1+1)),sv1.2.1,e2_))))) (
.r (.brk (sv1.1,sv1.2.1,sv1.2.2)))
def S_qs (a0:Y8):SC Bool Bool :=
.iter [0] (fun (sv1:Int×Int×Int)=>[(3,(vi sv1.1)),(4,(vi sv1.2.1)),(5,(vi sv1.2.2))]) (fun _=>[]) (0,1,0) (S_qs_b1 a0) (fun sv1 =>
.r (bif (decide (sv1.1>0)) then (decide (sv1.2.1<=4)) else false)) id
def F_qs (a0:Y8):=(S_qs a0).den
theorem F_qs_ok {a0:Y8}:FO (F_qs a0) 51 [(AV.d (DV.str a0))] [] vb NL:=fO (s:=S_qs a0) Tryz.func51
def S_q10 (a0:Int):SC Bool Bool :=
.r (bif (decide (a0>=0)) then (decide (a0<=35990)) else false)
def F_q10 (a0:Int):=(S_q10 a0).den
theorem F_q10_ok {a0:Int}:FO (F_q10 a0) 106 [(vi a0)] [] vb NL:=fO (s:=S_q10 a0) Tryz.func106
def S_q4t (a0:Int):SC Bool Bool :=
.r (bif (decide (a0>=0)) then (decide (a0<=36000)) else false)
def F_q4t (a0:Int):=(S_q4t a0).den
theorem F_q4t_ok {a0:Int}:FO (F_q4t a0) 147 [(vi a0)] [] vb NL:=fO (s:=S_q4t a0) Tryz.func147
def S_q1f (a0:Int):SC Int Int :=
.a 1 1 0 (@F_q4t_ok a0) fun rv1=>
.ite (!rv1) (
.r (-1)) (
.reg 3 [] [] [.pf (p:=(360:Int)≠0) dk]<|
.r (i64.wrap (a0.tdiv 360)))
def F_q1f (a0:Int):=(S_q1f a0).den
theorem F_q1f_ok {a0:Int}:FO (F_q1f a0) 108 [(vi a0)] [] vi NL:=fO (s:=S_q1f a0) Tryz.func108
def S_q1g (a0:Int):SC Bool Bool :=
.r (bif (decide (a0>=1)) then (decide (a0<=1000000000000)) else false)
def F_q1g (a0:Int):=(S_q1g a0).den
theorem F_q1g_ok {a0:Int}:FO (F_q1g a0) 107 [(vi a0)] [] vb NL:=fO (s:=S_q1g a0) Tryz.func107
def S_q1h_b1 (a0:TBo) (iv1:Nat) (_:Unit):SC Bool (Step (Unit) Bool) :=
.reg 3 [] [] [.w iv1,.ev 0]<|
 let e1_:=(a0.A.getD iv1 dF)
 let e3_:=((e1_.F) != (i64.wrap ((iv1:Int)+1)))
.calld [e3_=false] dF (@F_qs_ok (e1_.E)) fun rv2 cv2 =>
 let e0_:=(cO (cO (cO e3_ (!rv2)) (decide ((e1_.H)<0))) (decide ((e1_.H)>99)))
.calld [e0_=false] dF (@F_q10_ok (e1_.O)) fun rv3 cv3 =>
 let e4_:=(cO e0_ (!rv3))
.calld [e4_=false] dF (@F_q1f_ok (e1_.O)) fun rv4 cv4 =>
 let e2_:=(cO e4_ (rv4 != (e1_.H)))
.calld [e2_=false] dF (@F_q1g_ok (e1_.I)) fun rv5 cv5 =>
.reg 4 [] [(8,hc cv2 [] true),(24,hc cv3 [] true),(30,hc cv4 [] true),(38,hc cv5 [] true)] [.clg 6 [e3_=false] cv2 [] 2 true,.clg 4 [e0_=false] cv3 [] 2 true,.clg 2 [e4_=false] cv4 [] 2 true,.clg 0 [e2_=false] cv5 [] 2 true]<|
.ite (cO (cO (cO e2_ (!rv5)) (decide ((e1_.S)<0))) (decide ((e1_.S)>(e1_.I)))) (
.r (.ret false)) (
.r (.cont ()))
def S_q1h (a0:TBo):SC Bool Bool :=
.range (a0.A.length:Int) a0.A.length rfl (.slot 6) 8 [6,7] (fun (_:Unit)=>[]) (fun _=>[]) () (S_q1h_b1 a0) (fun _ => 
.r true) id
def F_q1h (a0:TBo):=(S_q1h a0).den
theorem F_q1h_ok {a0:TBo}:FO (F_q1h a0) 142 [(TBo.d a0)] [] vb NL:=fO (s:=S_q1h a0) Tryz.func142
def S_qq_b1 (a0:TBo) (a1:Int) (iv1:Nat) (sv2:Int):SC Int (Step (Int) Int) :=
.reg 8 [] [] [.w iv1,.ev 0]<|
 let e0_:=(a0.B.getD iv1 dF)
.ite ((e0_.L)==a1) (
.r (.cont (i64.wrap (sv2-(e0_.I))))) (
.c sv2)
def S_qq_b2 (a0:TBo) (a1:Int) (iv3:Nat) (_:Unit):SC Int (Step (Unit) Int) :=
.reg 3 [] [] [.w iv3,.ev 0]<|
 let e0_:=(a0.A.getD iv3 dF)
.ite ((e0_.F)==a1) (
.range (a0.B.length:Int) a0.B.length rfl (.slot 27) 29 [1,27,28] (fun (sv2:Int)=>[(7,(vi sv2))]) (fun _=>[]) (i64.wrap ((e0_.I)-(e0_.S))) (S_qq_b1 a0 a1) (fun sv2 => 
.r (.ret sv2)) .ret) (
.r (.cont ()))
def S_qq (a0:TBo) (a1:Int):SC Int Int :=
.range (a0.A.length:Int) a0.A.length rfl (.slot 11) 13 [1,2,11,12] (fun (_:Unit)=>[]) (fun _=>[]) () (S_qq_b2 a0 a1) (fun _ => 
.r 0) id
def F_qq (a0:TBo) (a1:Int):=(S_qq a0 a1).den
theorem F_qq_ok {a0:TBo} {a1:Int}:FO (F_qq a0 a1) 111 [(TBo.d a0),(vi a1)] [] vi NL:=fO (s:=S_qq a0 a1) Tryz.func111
def S_qj_b1 (a0:TBo) (iv1:Nat) (_:Unit):SC Bool (Step (Unit) Bool) :=
.reg 3 [] [] [.w iv1,.ev 0]<|
 let e2_:=(a0.B.getD iv1 dF)
 let e0_:=(cO (cO ((e2_.F) != (i64.wrap ((iv1:Int)+1))) (decide ((e2_.L)<1))) (decide ((e2_.L)>(a0.A.length:Int))))
.calld [e0_=false] dF (@F_q10_ok (e2_.O)) fun rv2 cv2 =>
 let e4_:=(cO e0_ (!rv2))
.calld [e4_=false] dF (@F_q1g_ok (e2_.I)) fun rv3 cv3 =>
 let e1_:=(cO (cO (cO (cO (cO e4_ (!rv3)) (decide ((e2_.S)<0))) (decide ((e2_.S)>(e2_.I)))) (decide ((e2_.T)<1))) (decide ((e2_.T)>1000000)))
.calld [e1_=false] dF (@F_q10_ok (e2_.W)) fun rv4 cv4 =>
.reg 4 [] [(21,hc cv2 [] true),(27,hc cv3 [] true),(55,hc cv4 [] true)] [.clg 4 [e0_=false] cv2 [] 2 true,.clg 2 [e4_=false] cv3 [] 2 true,.clg 0 [e1_=false] cv4 [] 2 true]<|
.ite (cO e1_ (!rv4)) (
.r (.ret false)) (
 let e5_:=(i64.wrap ((e2_.L)-1))
.guard [(0:Int)<=e5_,(e5_).toNat<a0.A.length]<|
.reg 6 [] [] [.ev 0,.ev 1]<|
 let e3_:=(a0.A.getD ((e5_).toNat) dF)
 let e6_:=(decide ((e2_.O)<(e3_.O)))
.calld [e6_=false] dF (@F_q1f_ok (e2_.O)) fun rv5 cv5 =>
.reg 7 [] [(8,hc cv5 [] true)] [.clg 0 [e6_=false] cv5 [] 3 true]<|
.ite (cO e6_ (rv5 != (e3_.H))) (
.r (.ret false)) (
.r (.cont ())))
def S_qj_b2 (a0:TBo) (iv6:Nat) (_:Unit):SC Bool (Step (Unit) Bool) :=
.reg 12 [] [] [.w iv6,.ev 0]<|
.a 13 3 2 (@F_qq_ok a0 ((a0.A.getD iv6 dF).F)) fun rv7=>
.ite (decide (rv7<0)) (
.r (.ret false)) (
.r (.cont ()))
def S_qj (a0:TBo):SC Bool Bool :=
.range (a0.B.length:Int) a0.B.length rfl (.slot 9) 11 [1,9,10] (fun (_:Unit)=>[]) (fun _=>[]) () (S_qj_b1 a0) (fun _ => 
.range (a0.A.length:Int) a0.A.length rfl (.slot 96) 98 [1,96,97] (fun (_:Unit)=>[]) (fun _=>[]) () (S_qj_b2 a0) (fun _ => 
.r true) id) id
def F_qj (a0:TBo):=(S_qj a0).den
theorem F_qj_ok {a0:TBo}:FO (F_qj a0) 143 [(TBo.d a0)] [] vb NL:=fO (s:=S_qj a0) Tryz.func143
def S_q1w (a0:TBo) (a1:Int):SC Int Int :=
 let e1_:=(i64.wrap (a1-1))
 let e0_:=(i64.wrap (((a0.B.getD ((e1_).toNat) dF).L)-1))
.guard [(0:Int)<=e1_,(e1_).toNat<a0.B.length,(0:Int)<=e0_,(e0_).toNat<a0.A.length]<|
.reg 1 [] [] [.ev 0,.ev 1,.ev 2,.ev 3]<|
.r ((a0.A.getD ((e0_).toNat) dF).H)
def F_q1w (a0:TBo) (a1:Int):=(S_q1w a0 a1).den
theorem F_q1w_ok {a0:TBo} {a1:Int}:FO (F_q1w a0 a1) 112 [(TBo.d a0),(vi a1)] [] vi NL:=fO (s:=S_q1w a0 a1) Tryz.func112
def S_q1i_b1 (a0:TBo) (a1:TCo) (iv1:Nat) (sv2:Int):SC Int (Step (Int) Int) :=
.reg 4 [] [] [.w iv1,.ev 0]<|
 let e0_:=(a0.C.getD iv1 dF)
.ite ((e0_.P)==a1.F) (
.r (.cont (i64.wrap (sv2-(e0_.I))))) (
.c sv2)
def S_q1i (a0:TBo) (a1:TCo):SC Int Int :=
.range (a0.C.length:Int) a0.C.length rfl (.slot 14) 16 [3,14,15] (fun (sv2:Int)=>[(5,(vi sv2))]) (fun _=>[]) (i64.wrap (a1.I-a1.S)) (S_q1i_b1 a0 a1) (fun sv2 => 
.r sv2) id
def F_q1i (a0:TBo) (a1:TCo):=(S_q1i a0 a1).den
theorem F_q1i_ok {a0:TBo} {a1:TCo}:FO (F_q1i a0 a1) 113 [(TBo.d a0),(TCo.d a1)] [] vi NL:=fO (s:=S_q1i a0 a1) Tryz.func113
def S_q0_b1 (a0:TBo) (iv1:Nat) (_:Unit):SC Bool (Step (Unit) Bool) :=
.reg 3 [] [] [.w iv1,.ev 0]<|
 let e2_:=(a0.C.getD iv1 dF)
 let e0_:=(cO (cO ((e2_.F) != (i64.wrap ((iv1:Int)+1))) (decide ((e2_.P)<1))) (decide ((e2_.P)>(a0.B.length:Int))))
.calld [e0_=false] dF (@F_q10_ok (e2_.O)) fun rv2 cv2 =>
 let e4_:=(cO e0_ (!rv2))
.calld [e4_=false] dF (@F_q1g_ok (e2_.I)) fun rv3 cv3 =>
 let e3_:=(cO e4_ (!rv3))
 let e5_:=(i64.wrap ((e2_.P)-1))
 let e1_:=(cO e3_ (decide ((e2_.O)<((a0.B.getD ((e5_).toNat) dF).O))))
.calld [e1_=false] dF (@F_q1f_ok (e2_.O)) fun rv4 cv4 =>
.calld [e1_=false] dF (@F_q1w_ok a0 (e2_.P)) fun rv5 cv5 =>
.guard [AllP [e3_=false]->((0:Int)<=e5_),AllP [e3_=false]->((e5_).toNat<a0.B.length)]<|
.reg 4 [] [(21,hc cv2 [] true),(27,hc cv3 [] true),(46,hc cv4 [] true),(50,hc cv5 [] true)] [.clg 8 [e0_=false] cv2 [] 2 true,.clg 6 [e4_=false] cv3 [] 2 true,.ev 0,.ev 1,.clg 4 [e1_=false] cv4 [] 2 true,.clg 2 [e1_=false] cv5 [] 2 true]<|
.ite (cO e1_ (decide (rv4>(i64.wrap (rv5+1))))) (
.r (.ret false)) (
.r (.cont ()))
def S_q0_b2 (a0:TBo) (iv6:Nat) (_:Unit):SC Bool (Step (Unit) Bool) :=
.reg 9 [] [] [.w iv6,.ev 0]<|
.a 10 2 2 (@F_q1i_ok a0 (a0.B.getD iv6 dF)) fun rv7=>
.ite (decide (rv7<0)) (
.r (.ret false)) (
.r (.cont ()))
def S_q0_b3 (a0:TBo) (iv8:Nat) (iv9:Nat) (sv10:Int):SC Bool (Step (Int) Bool) :=
.reg 24 [] [] [.w iv9,.ev 0]<|
 let e0_:=((a0.J.take iv8).getD iv9 dF)
 let e1_:=(a0.J.getD iv8 dF)
.ite ((e0_.K) != (e1_.K)) (
.c sv10) (
.ite (cO (!(e0_.Ab)) (decide ((e0_.O)>(e1_.O)))) (
.r (.ret false)) (
.r (.cont (i64.wrap (sv10+1)))))
def S_q0_b4 (a0:TBo) (iv8:Nat) (_:Unit):SC Bool (Step (Unit) Bool) :=
.reg 15 [] [] [.w iv8,.ev 0]<|
 let e2_:=(a0.J.getD iv8 dF)
 let e1_:=(cO (cO ((e2_.F) != (i64.wrap ((iv8:Int)+1))) (decide ((e2_.K)<1))) (decide ((e2_.K)>(a0.C.length:Int))))
.calld [e1_=false] dF (@F_q10_ok (e2_.O)) fun rv11 cv11 =>
.reg 16 [] [(21,hc cv11 [] true)] [.clg 0 [e1_=false] cv11 [] 2 true]<|
.ite (cO e1_ (!rv11)) (
.r (.ret false)) (
 let e3_:=(i64.wrap ((e2_.K)-1))
.guard [(0:Int)<=e3_,(e3_).toNat<a0.C.length]<|
.reg 18 [] [] [.ev 0,.ev 1]<|
 let e4_:=(a0.C.getD ((e3_).toNat) dF)
 let e0_:=(decide ((e2_.O)<(e4_.O)))
.calld [e0_=false] dF (@F_q1f_ok (e2_.O)) fun rv12 cv12 =>
.calld [e0_=false] dF (@F_q1w_ok a0 (e4_.P)) fun rv13 cv13 =>
.reg 19 [] [(8,hc cv12 [] true),(12,hc cv13 [] true)] [.clg 2 [e0_=false] cv12 [] 3 true,.clg 0 [e0_=false] cv13 [] 3 true]<|
.ite (cO e0_ (decide (rv12>(i64.wrap (rv13+1))))) (
.r (.ret false)) (
.guard [iv8<=a0.J.length]<|
.reg 22 [] [(3,hv (AV.d (eL TOr.e (a0.J.take iv8))))] [.w iv8,.ev 0,.der (fun (h0:iv8<=a0.J.length)=>lvT TOr.e a0.J h0) 0]<|
.range ((a0.J.take iv8).length:Int) ((a0.J.take iv8).length) rfl (.slot 146) 148 [1,8,89,90,91,146,147] (fun (sv10:Int)=>[(10,(vi sv10))]) (fun _=>[]) 1 (S_q0_b3 a0 iv8) (fun sv10 => 
.ite ((e2_.Z) != sv10) (
.r (.ret false)) (
.r (.cont ()))) .ret))
def S_q0 (a0:TBo):SC Bool Bool :=
.range (a0.C.length:Int) a0.C.length rfl (.slot 14) 16 [1,14,15] (fun (_:Unit)=>[]) (fun _=>[]) () (S_q0_b1 a0) (fun _ => 
.range (a0.B.length:Int) a0.B.length rfl (.slot 77) 79 [1,77,78] (fun (_:Unit)=>[]) (fun _=>[]) () (S_q0_b2 a0) (fun _ => 
.range (a0.J.length:Int) a0.J.length rfl (.slot 89) 91 [1,89,90] (fun (_:Unit)=>[]) (fun _=>[]) () (S_q0_b4 a0) (fun _ => 
.r true) id) id) id
def F_q0 (a0:TBo):=(S_q0 a0).den
theorem F_q0_ok {a0:TBo}:FO (F_q0 a0) 144 [(TBo.d a0)] [] vb NL:=fO (s:=S_q0 a0) Tryz.func144
def S_q1j (a0:TBo):SC Bool Bool :=
.ite (cO (cO (cO (decide ((a0.A.length:Int)>200)) (decide ((a0.B.length:Int)>200))) (decide ((a0.C.length:Int)>200))) (decide ((a0.J.length:Int)>200))) (
.r false) (
.call (@F_q1h_ok a0) fun rv1 cv1=>
.calld [rv1=true] dF (@F_qj_ok a0) fun rv2 cv2 =>
 let e0_:=(bif rv1 then rv2 else false)
.calld [e0_=true] dF (@F_q0_ok a0) fun rv3 cv3 =>
.reg 3 [] [(1,hc cv1 [] true),(4,hc cv2 [] true),(8,hc cv3 [] true)] [.cl 4 cv1 [] 1 true,.clg 2 [rv1=true] cv2 [] 1 true,.clg 0 [e0_=true] cv3 [] 1 true]<|
.r (bif e0_ then rv3 else false))
def F_q1j (a0:TBo):=(S_q1j a0).den
theorem F_q1j_ok {a0:TBo}:FO (F_q1j a0) 103 [(TBo.d a0)] [] vb NL:=fO (s:=S_q1j a0) Tryz.func103
def S_q24 (a0:Int):SC Bool Bool :=
.r (bif (decide (a0>=0)) then (decide (a0<=1000000000000000)) else false)
def F_q24 (a0:Int):=(S_q24 a0).den
theorem F_q24_ok {a0:Int}:FO (F_q24 a0) 145 [(vi a0)] [] vb NL:=fO (s:=S_q24 a0) Tryz.func145
def S_q2u (a0:TRi):SC Bool Bool :=
.call (@F_qs_ok a0.E) fun rv1 cv1=>
 let e0_:=(bif (bif rv1 then (decide (a0.H>=0)) else false) then (decide (a0.H<=99)) else false)
.calld [e0_=true] dF (@F_q24_ok a0.N) fun rv2 cv2 =>
 let e1_:=(bif e0_ then rv2 else false)
.calld [e1_=true] dF (@F_q24_ok a0.Aa) fun rv3 cv3 =>
.reg 1 [] [(2,hc cv1 [] true),(16,hc cv2 [] true),(21,hc cv3 [] true)] [.cl 4 cv1 [] 1 true,.clg 2 [e0_=true] cv2 [] 1 true,.clg 0 [e1_=true] cv3 [] 1 true]<|
.r (bif (bif (bif e1_ then rv3 else false) then (decide (a0.X>=0)) else false) then (decide (a0.X<=a0.N)) else false)
def F_q2u (a0:TRi):=(S_q2u a0).den
theorem F_q2u_ok {a0:TRi}:FO (F_q2u a0) 104 [(TRi.d a0)] [] vb NL:=fO (s:=S_q2u a0) Tryz.func104
def S_q11_b1 (a0:TOf) (a1:Y8) (a2:Int) (iv1:Nat) (_:Unit):SC Int (Step (Unit) Int) :=
.reg 3 [] [] [.w iv1,.ev 0]<|
 let e0_:=(a0.G.getD iv1 dF)
.ite (bif ((e0_.E)==a1) then ((e0_.H)==a2) else false) (
.r (.ret (iv1:Int))) (
.r (.cont ()))
def S_q11 (a0:TOf) (a1:Y8) (a2:Int):SC Int Int :=
.range (a0.G.length:Int) a0.G.length rfl (.slot 10) 12 [1,2,10,11] (fun (_:Unit)=>[]) (fun _=>[]) () (S_q11_b1 a0 a1 a2) (fun _ => 
.r (-1)) id
def F_q11 (a0:TOf) (a1:Y8) (a2:Int):=(S_q11 a0 a1 a2).den
theorem F_q11_ok {a0:TOf} {a1:Y8} {a2:Int}:FO (F_q11 a0 a1 a2) 84 [(TOf.d a0),(AV.d (DV.str a1)),(vi a2)] [] vi NL:=fO (s:=S_q11 a0 a1 a2) Tryz.func84
def S_q3f (a0:TOf) (a1:Y8) (a2:Int):SC TRi TRi :=
.a 1 3 2 (@F_q11_ok a0 a1 a2) fun rv1=>
.ite (decide (rv1>=0)) (
.guard [(0:Int)<=rv1,(rv1).toNat<a0.G.length]<|
.reg 3 [] [] [.ev 0,.ev 1]<|
.r (a0.G.getD ((rv1).toNat) dF)) (
.r (⟨a1,a2,0,0,0⟩:TRi))
def F_q3f (a0:TOf) (a1:Y8) (a2:Int):=(S_q3f a0 a1 a2).den
theorem F_q3f_ok {a0:TOf} {a1:Y8} {a2:Int}:FO (F_q3f a0 a1 a2) 110 [(TOf.d a0),(AV.d (DV.str a1)),(vi a2)] [] (fun x=>(TRi.d x)) NL:=fO (s:=S_q3f a0 a1 a2) Tryz.func110
def S_qt_b1 (a0:TBo) (iv1:Nat) (iv2:Nat) (sv3:Int):SC Int (Step (Int) Int) :=
.reg 9 [] [] [.w iv2,.ev 0]<|
 let e0_:=(a0.B.getD iv2 dF)
.ite ((e0_.L)==((a0.A.getD iv1 dF).F)) (
.r (.cont (i64.wrap (sv3-(e0_.S))))) (
.c sv3)
def S_qt_b2 (a0:TBo) (a1:Y8) (a2:Int) (iv1:Nat) (sv4:Int):SC Int (Step (Int) Int) :=
.reg 4 [] [] [.w iv1,.ev 0]<|
 let e0_:=(a0.A.getD iv1 dF)
.ite (cO (!((e0_.E)==a1)) ((e0_.H) != a2)) (
.c sv4) (
.range (a0.B.length:Int) a0.B.length rfl (.slot 37) 39 [1,2,3,9,13,14,15,37,38] (fun (sv3:Int)=>[(7,(vi sv3))]) (fun _=>[]) (i64.wrap (sv4+(i64.wrap ((e0_.I)-(e0_.S))))) (S_qt_b1 a0 iv1) (fun sv3 => 
.c sv3) .ret)
def S_qt (a0:TBo) (a1:Y8) (a2:Int):SC Int Int :=
.range (a0.A.length:Int) a0.A.length rfl (.slot 13) 15 [1,2,3,13,14] (fun (sv4:Int)=>[(7,(vi sv4))]) (fun _=>[]) 0 (S_qt_b2 a0 a1 a2) (fun sv4 => 
.r sv4) id
def F_qt (a0:TBo) (a1:Y8) (a2:Int):=(S_qt a0 a1 a2).den
theorem F_qt_ok {a0:TBo} {a1:Y8} {a2:Int}:FO (F_qt a0 a1 a2) 86 [(TBo.d a0),(AV.d (DV.str a1)),(vi a2)] [] vi NL:=fO (s:=S_qt a0 a1 a2) Tryz.func86
def S_q3g (a0:TOf) (a1:Y8) (a2:Int):SC Int Int :=
.a 1 3 1 (@F_q3f_ok a0 a1 a2) fun rv1=>
.a 2 9 2 (@F_qt_ok a0.V a1 a2) fun rv2=>
.r (i64.wrap ((i64.wrap (rv1.N-rv1.X))-rv2))
def F_q3g (a0:TOf) (a1:Y8) (a2:Int):=(S_q3g a0 a1 a2).den
theorem F_q3g_ok {a0:TOf} {a1:Y8} {a2:Int}:FO (F_q3g a0 a1 a2) 76 [(TOf.d a0),(AV.d (DV.str a1)),(vi a2)] [] vi NL:=fO (s:=S_q3g a0 a1 a2) Tryz.func76
theorem cz7:LeV (AV.full 0 fun _=>DV.b false) (vl ([])):=lvN (DV.i .i64)
abbrev R_qu:=(List Int)
def S_qu_b1 (a0:Y8) (sv1:(List Int)×Int×Int×Int):SC R_qu (Step ((List Int)×Int×Int×Int) R_qu) :=
.ite (decide (sv1.2.2.2<=(a0.length:Int))) (
 let e4_:=(sv1.2.2.2==(a0.length:Int))
 let e6_:=((sv1.2.2.2).toNat<a0.length)
.guard [AllP [e4_=false]->((0:Int)<=sv1.2.2.2),AllP [e4_=false]->e6_]<|
.reg 8 [] [] [.ev 0,.ev 1]<|
 let e0_:=((a0.getD ((sv1.2.2.2).toNat) 0).toNat:Int)
 let e5_:=(i64.wrap (sv1.2.2.2+1))
.ite (cO e4_ (e0_==46)) (
 let e2_:=(cO (sv1.2.2.1==0) (decide (sv1.2.2.1>2)))
 let e3_:=(i64.wrap (sv1.2.2.2-sv1.2.2.1))
.guard [AllP [e2_=false]->((0:Int)<=e3_),AllP [e2_=false]->((e3_).toNat<a0.length)]<|
.reg 9 [] [] [.ev 0,.ev 1]<|
.ite (cO e2_ (((a0.getD ((e3_).toNat) 0).toNat:Int)==48)) (
.ret [.pf cz7] (.ret ([]))) (
.guard [(sv1.1.length+1) * (2 * 8)<=2 ^ 48]<|
 let e1_:=([sv1.2.1]:List Int)
.reg 11 [] [(2,hv (vl e1_)),(3,{ h:=.obj,cast:=some (AV.ref 0 ((sv1.1++e1_).length) 0 ((sv1.1++e1_).length)),obs:=[(0,(eS 1 (DV.i .i64) (sv1.1++e1_)))] })] [.pf (zi (DV.i .i64) e1_),.e sv1.1.length,.e sv1.1.length,.pf (p:=∀ k,k<1->(AV.d ((DV.i .i64) (e1_.getD k dF))).wd=1) (fun _ _=>rfl),.ev 0,.pf (z16 (o:=0) (l:=sv1.1) (x:=e1_)),.pf (z15 (sz:=1) (e:=(DV.i .i64)) (l:=sv1.1) (x:=e1_))]<|
.r (.cont ((sv1.1++e1_),0,0,e5_)))) (
 let e7_:=(decide (e0_<48))
.guard [(0:Int)<=sv1.2.2.2,(sv1.2.2.2).toNat<a0.length,AllP [e7_=false]->((0:Int)<=sv1.2.2.2),AllP [e7_=false]->e6_]<|
.reg 13 [] [] [.ev 0,.ev 1,.ev 2,.ev 3]<|
.ite (cO e7_ (decide (e0_>57))) (
.ret [.pf cz7] (.ret ([]))) (
.reg 15 [] [] [.ev 1,.ev 2]<|
.r (.cont (sv1.1,(i64.wrap ((i64.wrap (10 * sv1.2.1))+(i64.wrap (IntKind.u8.wrap (e0_-48))))),(i64.wrap (sv1.2.2.1+1)),e5_))))) (
.r (.brk (sv1.1,sv1.2.1,sv1.2.2.1,sv1.2.2.2)))
def S_qu (a0:Y8):SC R_qu R_qu :=
.ite (decide ((a0.length:Int)>12)) (
.ret [.pf cz7] ([])) (
.reg 5 [] [] []<|
.bor 1 (fun j=>AV.d ((DV.i .i64) (([]:List Int).getD j dF))) [3]<|
.iter [0] (fun (sv1:(List Int)×Int×Int×Int)=>[(3,(AV.ref 0 sv1.1.length 0 sv1.1.length)),(4,(vi sv1.2.1)),(5,(vi sv1.2.2.1)),(6,(vi sv1.2.2.2))]) (fun sv1=>[(0,(eS 1 (DV.i .i64) sv1.1))]) (([]:List Int),0,0,0) (S_qu_b1 a0) (fun sv1 =>
.ite (decide ((sv1.1.length:Int)>4)) (
.ret [.pf cz7] ([])) (
.guard [sv1.1.length<2 ^ 63]<|
.reg 18 [] [] []<|
.frz 0 (.ev 0) none [2] []<|
.r sv1.1)) id)
def F_qu (a0:Y8):=(S_qu a0).den
theorem F_qu_ok {a0:Y8}:FO (F_qu a0) 146 [(AV.d (DV.str a0))] [] vl NL:=fO (s:=S_qu a0) Tryz.func146
def S_q12_b1 (rv1:R_qu) (rv2:R_qu) (sv3:Int):SC Int (Step (Int) Int) :=
.ite (bif (decide (sv3<(rv1.length:Int))) then (decide (sv3<(rv2.length:Int))) else false) (
.guard [(0:Int)<=sv3,(sv3).toNat<rv1.length,(sv3).toNat<rv2.length]<|
.reg 15 [] [] [.ev 0,.ev 1,.ev 0,.ev 2]<|
 let e0_:=(rv1.getD ((sv3).toNat) dF)
 let e1_:=(rv2.getD ((sv3).toNat) dF)
.ite (decide (e0_<e1_)) (
.r (.ret (-1))) (
.reg 17 [] [] [.ev 1,.ev 2,.ev 1,.ev 3]<|
.ite (decide (e0_>e1_)) (
.r (.ret 1)) (
.r (.cont (i64.wrap (sv3+1)))))) (
.r (.brk sv3))
def S_q12 (a0:Y8) (a1:Y8):SC Int Int :=
.call (@F_qu_ok a0) fun rv1 cv1=>
.call (@F_qu_ok a1) fun rv2 cv2=>
.reg 1 [] [(1,hc cv1 [] true),(3,hc cv2 [] true)] [.cl 1 cv1 [] 0 true,.cl 0 cv2 [] 0 true]<|
 let e0_:=(rv1.length:Int)
 let e1_:=(rv2.length:Int)
.ite (cO (e0_==0) (e1_==0)) (
.ite (decide (e0_>0)) (
.r 1) (
.ite (decide (e1_>0)) (
.r (-1)) (
.ite (Op.bytesLess a0 a1) (
.r (-1)) (
.ite (!(Op.bytesLess a0 a1||a0==a1)) (
.r 1) (
.r 0))))) (
.iter [5,6] (fun (sv3:Int)=>[(7,(vi sv3))]) (fun _=>[]) 0 (S_q12_b1 rv1 rv2) (fun _ =>
.ite (decide (e0_<e1_)) (
.r (-1)) (
.ite (decide (e0_>e1_)) (
.r 1) (
.r 0))) id)
def F_q12 (a0:Y8) (a1:Y8):=(S_q12 a0 a1).den
theorem F_q12_ok {a0:Y8} {a1:Y8}:FO (F_q12 a0 a1) 105 [(AV.d (DV.str a0)),(AV.d (DV.str a1))] [] vi NL:=fO (s:=S_q12 a0 a1) Tryz.func105
end
end Go.Proofs.YtpbnkbjhlhlaiaaGreatDoor
/- What the functions compute,and that their calls return it. No condition. -/
namespace Go.Proofs.YtpbnkbjhlhlaiaaGreatDoor
open Go Go.TA
open Go.IntKind (i64)
noncomputable section
set_option maxRecDepth 100000
def S_qm_b1 (a0:TOf) (iv1:Nat) (_:Unit):SC Bool (Step (Unit) Bool) :=
.reg 5 [] [] [.w iv1,.ev 0]<|
 let e1_:=(a0.G.getD iv1 dF)
.call (@F_q2u_ok e1_) fun rv2 cv2=>
.calld [(!rv2)=false] dF (@F_q3g_ok a0 (e1_.E) (e1_.H)) fun rv3 cv3 =>
.reg 6 [] [(1,hc cv2 [] true),(9,hc cv3 [] true)] [.cl 2 cv2 [] 2 true,.clg 0 [(!rv2)=false] cv3 [] 2 true]<|
.ite (cO (!rv2) (decide (rv3<0))) (
.r (.ret false)) (
.ite (decide ((iv1:Int)>0)) (
 let e0_:=(i64.wrap ((iv1:Int)-1))
 let e2_:=(a0.G.getD ((e0_).toNat) dF)
.call (@F_q12_ok (e2_.E) (e1_.E)) fun rv4 cv4=>
.guard [(0:Int)<=e0_,(e0_).toNat<a0.G.length]<|
.reg 9 [] [(9,hc cv4 [] true)] [.ev 0,.ev 1,.cl 2 cv4 [] 2 true]<|
 let e3_:=(decide (rv4>0))
.guard [AllP [(rv4==0)=true,e3_=false]->((0:Int)<=e0_),AllP [(rv4==0)=true,e3_=false]->((e0_).toNat<a0.G.length)]<|
.reg 10 [] [] [.ev 0,.ev 1]<|
.ite (cO e3_ (bif (rv4==0) then (decide ((e2_.H)>=(e1_.H))) else false)) (
.r (.ret false)) (
.r (.cont ()))) (
.r (.cont ())))
def S_qm_b2 (a0:TOf) (iv5:Nat) (_:Unit):SC Bool (Step (Unit) Bool) :=
.reg 15 [] [] [.w iv5,.ev 0]<|
 let e0_:=(a0.V.A.getD iv5 dF)
.a 16 5 2 (@F_q11_ok a0 (e0_.E) (e0_.H)) fun rv6=>
.ite (decide (rv6<0)) (
.r (.ret false)) (
.r (.cont ()))
def S_qm (a0:TOf):SC Bool Bool :=
 let e0_:=(cO (cO (decide (a0.F<1)) (decide (a0.F>6))) (decide ((a0.G.length:Int)>60)))
.calld [e0_=false] dF (@F_q1j_ok a0.V) fun rv7 cv7 =>
.reg 1 [] [(17,hc cv7 [] true)] [.clg 0 [e0_=false] cv7 [] 1 true]<|
.ite (cO e0_ (!rv7)) (
.r false) (
.range (a0.G.length:Int) a0.G.length rfl (.slot 29) 31 [1,29,30] (fun (_:Unit)=>[]) (fun _=>[]) () (S_qm_b1 a0) (fun _ => 
.range (a0.V.A.length:Int) a0.V.A.length rfl (.slot 81) 83 [1,81,82] (fun (_:Unit)=>[]) (fun _=>[]) () (S_qm_b2 a0) (fun _ => 
.r true) id) id)
def F_qm (a0:TOf):=(S_qm a0).den
theorem F_qm_ok {a0:TOf}:FO (F_qm a0) 74 [(TOf.d a0)] [] vb NL:=fO (s:=S_qm a0) Tryz.func74
abbrev R_q1x:=(List TRe)×(List TCo)×(List TVe)×(List TOr)
def S_q1x (a0:TBo):SC R_q1x R_q1x :=
.reg 0 [] [(1,{ obs:=[(1,(TBo.b (⟨[],[],[],[]⟩:TBo)))] })] [.pf cz3]<|
.guard [a0.A.length * (2 * 56)<=2 ^ 48,a0.B.length * (2 * 56)<=2 ^ 48,a0.C.length * (2 * 32)<=2 ^ 48,a0.J.length * (2 * 40)<=2 ^ 48]<|
.reg 1 [3,7,11,15,17] [(3,{ h:=.obj }),(7,{ h:=.obj }),(11,{ h:=.obj }),(15,{ h:=.obj })] [.pf (p:=∀ k,k<a0.A.length->(TRe.d (a0.A.getD k dF)).wd=6) (fun _ _=>rfl),.ev 0,.pf (p:=∀ k,k<a0.B.length->(TCo.d (a0.B.getD k dF)).wd=7) (fun _ _=>rfl),.ev 1,.pf (p:=∀ k,k<a0.C.length->(TVe.d (a0.C.getD k dF)).wd=4) (fun _ _=>rfl),.ev 2,.pf (p:=∀ k,k<a0.J.length->(TOr.d (a0.J.getD k dF)).wd=5) (fun _ _=>rfl),.ev 3]<|
.kill 0<|
.r (a0.A,a0.B,a0.C,a0.J)
def F_q1x (a0:TBo):=(S_q1x a0).den
theorem F_q1x_ok {a0:TBo}:FO (F_q1x a0) 109 [(TBo.d a0)] [] (fun x=>(AV.agg [(AV.ref 2 x.1.length 0 x.1.length),(AV.ref 3 x.2.1.length 0 x.2.1.length),(AV.ref 4 x.2.2.1.length 0 x.2.2.1.length),(AV.ref 5 x.2.2.2.length 0 x.2.2.2.length)])) (fun x=>[Ob.dead,(Ob.box (AV.agg [(AV.ref 2 x.1.length 0 x.1.length),(AV.ref 3 x.2.1.length 0 x.2.1.length),(AV.ref 4 x.2.2.1.length 0 x.2.2.1.length),(AV.ref 5 x.2.2.2.length 0 x.2.2.2.length)])),(eS 6 TRe.e x.1),(eS 7 TCo.e x.2.1),(eS 4 TVe.e x.2.2.1),(eS 5 TOr.e x.2.2.2)]):=fO (s:=S_q1x a0) Tryz.func109
def S_q47 (a0:TBo) (a1:Y8) (a2:Int) (a3:Int) (a4:Int):SC (TBo×Int) (TBo×Int) :=
 let e2_:=(⟨[],[],[],[]⟩:TBo)
.reg 0 [] [(1,{ obs:=[(1,(TBo.b e2_))] })] [.pf cz3]<|
.a 1 1 2 (@F_q1j_ok a0) fun rv1=>
 let e3_:=(0,hv (TBo.d e2_))
.ite (!rv1) (
.reg 2 [] [e3_] [.pf zm]<|
.r (e2_,1)) (
.a 3 1 2 (@F_qs_ok a1) fun rv2=>
.ite (!rv2) (
.reg 4 [] [e3_] [.pf zm]<|
.r (e2_,5)) (
 let e1_:=(cO (decide (a2<0)) (decide (a2>99)))
.calld [e1_=false] dF (@F_q10_ok a3) fun rv3 cv3 =>
 let e4_:=(cO e1_ (!rv3))
.calld [e4_=false] dF (@F_q1g_ok a4) fun rv4 cv4 =>
.reg 5 [] [(8,hc cv3 [] true),(13,hc cv4 [] true)] [.clg 2 [e1_=false] cv3 [] 2 true,.clg 0 [e4_=false] cv4 [] 2 true]<|
.ite (cO e4_ (!rv4)) (
.reg 6 [] [e3_] [.pf zm]<|
.r (e2_,2)) (
.a 7 1 2 (@F_q1f_ok a3) fun rv5=>
.ite (rv5 != a2) (
.reg 8 [] [e3_] [.pf zm]<|
.r (e2_,16)) (
.ite ((a0.A.length:Int)==200) (
.reg 10 [] [e3_] [.pf zm]<|
.r (e2_,3)) (
.call (@F_q1x_ok a0) fun rv6 cv6=>
.reg 11 [] [(1,hc cv6 [] false),(2,{ h:=.obj })] [.cl 0 cv6 [] 2 false]<|
.kill 3<|
.guard [rv6.2.1.length<2 ^ 63]<|
.frz 5 (.ev 0) none [] [8]<|
.guard [rv6.2.2.1.length<2 ^ 63]<|
.frz 6 (.ev 0) none [] [8]<|
.guard [rv6.2.2.2.length<2 ^ 63]<|
.frz 7 (.ev 0) none [] [8]<|
.guard [(rv6.1.length+1) * (2 * 56)<=2 ^ 48]<|
 let e0_:=([(⟨(i64.wrap ((a0.A.length:Int)+1)),a1,a2,a3,a4,0⟩:TRe)]:List TRe)
.reg 12 [] [(11,hv (AV.d (eL TRe.e e0_))),(12,{ cast:=some (AV.ref 4 ((rv6.1++e0_).length) 0 ((rv6.1++e0_).length)),obs:=[(4,(eS 6 TRe.e (rv6.1++e0_)))] })] [.pf (zi TRe.e e0_),.e rv6.1.length,.e rv6.1.length,.pf (p:=∀ k,k<1->(TRe.d (e0_.getD k dF)).wd=6) (fun _ _=>rfl),.ev 0,.pf (z16 (o:=4) (l:=rv6.1) (x:=e0_)),.pf (z15 (sz:=6) (e:=TRe.e) (l:=rv6.1) (x:=e0_))]<|
.guard [(rv6.1++e0_).length<2 ^ 63]<|
.reg 13 [] [] []<|
.frz 4 (.ev 0) none [] [1,8]<|
.r ((⟨(rv6.1++e0_),rv6.2.1,rv6.2.2.1,rv6.2.2.2⟩:TBo),0))))))
def F_q47 (a0:TBo) (a1:Y8) (a2:Int) (a3:Int) (a4:Int):=(S_q47 a0 a1 a2 a3 a4).den
theorem F_q47_ok {a0:TBo} {a1:Y8} {a2:Int} {a3:Int} {a4:Int}:FO (F_q47 a0 a1 a2 a3 a4) 75 [(TBo.d a0),(AV.d (DV.str a1)),(vi a2),(vi a3),(vi a4)] [] (fun x=>(AV.tup [(TBo.d x.1),(vi x.2)])) NL:=fO (s:=S_q47 a0 a1 a2 a3 a4) Tryz.func75
def S_q48 (a0:TBo) (a1:Int) (a2:Int) (a3:Int) (a4:Int) (a5:Int):SC (TBo×Int) (TBo×Int) :=
 let e1_:=(⟨[],[],[],[]⟩:TBo)
.reg 0 [] [(1,{ obs:=[(1,(TBo.b e1_))] })] [.pf cz3]<|
.a 1 1 2 (@F_q1j_ok a0) fun rv1=>
 let e3_:=(0,hv (TBo.d e1_))
.ite (!rv1) (
.reg 2 [] [e3_] [.pf zm]<|
.r (e1_,1)) (
.ite (cO (decide (a1<1)) (decide (a1>(a0.A.length:Int)))) (
.reg 4 [] [e3_] [.pf zm]<|
.r (e1_,6)) (
.call (@F_q10_ok a2) fun rv2 cv2=>
.calld [(!rv2)=false] dF (@F_q1g_ok a3) fun rv3 cv3 =>
 let e2_:=(cO (cO (cO (!rv2) (!rv3)) (decide (a4<1))) (decide (a4>1000000)))
.calld [e2_=false] dF (@F_q10_ok a5) fun rv4 cv4 =>
.reg 5 [] [(1,hc cv2 [] true),(5,hc cv3 [] true),(18,hc cv4 [] true)] [.cl 4 cv2 [] 2 true,.clg 2 [(!rv2)=false] cv3 [] 2 true,.clg 0 [e2_=false] cv4 [] 2 true]<|
.ite (cO e2_ (!rv4)) (
.reg 6 [] [e3_] [.pf zm]<|
.r (e1_,2)) (
 let e4_:=(i64.wrap (a1-1))
.guard [(0:Int)<=e4_,(e4_).toNat<a0.A.length]<|
.reg 7 [] [] [.ev 0,.ev 1]<|
.a 8 1 3 (@F_q1f_ok a2) fun rv5=>
 let e6_:=(a0.A.getD ((e4_).toNat) dF)
.ite (rv5 != (e6_.H)) (
.reg 9 [] [e3_] [.pf zm]<|
.r (e1_,16)) (
.ite (decide (a2<(e6_.O))) (
.reg 11 [] [e3_] [.pf zm]<|
.r (e1_,8)) (
.a 12 3 3 (@F_qq_ok a0 a1) fun rv6=>
.ite (decide (a3>rv6)) (
.reg 13 [] [e3_] [.pf zm]<|
.r (e1_,15)) (
.ite ((a0.B.length:Int)==200) (
.reg 15 [] [e3_] [.pf zm]<|
.r (e1_,3)) (
.call (@F_q1x_ok a0) fun rv7 cv7=>
.reg 16 [] [(1,hc cv7 [] false),(2,{ h:=.obj })] [.cl 0 cv7 [] 3 false]<|
.kill 4<|
.guard [rv7.1.length<2 ^ 63]<|
.frz 5 (.ev 0) none [] [9]<|
.guard [rv7.2.2.1.length<2 ^ 63]<|
.frz 7 (.ev 0) none [] [9]<|
.guard [rv7.2.2.2.length<2 ^ 63]<|
.frz 8 (.ev 0) none [] [9]<|
.guard [(rv7.2.1.length+1) * (2 * 56)<=2 ^ 48]<|
 let e0_:=([(⟨(i64.wrap ((a0.B.length:Int)+1)),a1,a2,a3,0,a4,a5⟩:TCo)]:List TCo)
 let e5_:=(rv7.2.1++e0_)
.reg 17 [] [(12,hv (AV.d (eL TCo.e e0_))),(13,{ cast:=some (AV.ref 6 (e5_.length) 0 (e5_.length)),obs:=[(6,(eS 7 TCo.e e5_))] })] [.pf (zi TCo.e e0_),.e rv7.2.1.length,.e rv7.2.1.length,.pf (p:=∀ k,k<1->(TCo.d (e0_.getD k dF)).wd=7) (fun _ _=>rfl),.ev 0,.pf (z16 (o:=6) (l:=rv7.2.1) (x:=e0_)),.pf (z15 (sz:=7) (e:=TCo.e) (l:=rv7.2.1) (x:=e0_))]<|
.guard [e5_.length<2 ^ 63]<|
.reg 18 [] [] []<|
.frz 6 (.ev 0) none [] [1,9]<|
.r ((⟨rv7.1,e5_,rv7.2.2.1,rv7.2.2.2⟩:TBo),0))))))))
def F_q48 (a0:TBo) (a1:Int) (a2:Int) (a3:Int) (a4:Int) (a5:Int):=(S_q48 a0 a1 a2 a3 a4 a5).den
theorem F_q48_ok {a0:TBo} {a1:Int} {a2:Int} {a3:Int} {a4:Int} {a5:Int}:FO (F_q48 a0 a1 a2 a3 a4 a5) 77 [(TBo.d a0),(vi a1),(vi a2),(vi a3),(vi a4),(vi a5)] [] (fun x=>(AV.tup [(TBo.d x.1),(vi x.2)])) NL:=fO (s:=S_q48 a0 a1 a2 a3 a4 a5) Tryz.func77
def S_q49 (a0:TBo) (a1:Int) (a2:Int) (a3:Int):SC (TBo×Int) (TBo×Int) :=
 let e1_:=(⟨[],[],[],[]⟩:TBo)
.reg 0 [] [(1,{ obs:=[(1,(TBo.b e1_))] })] [.pf cz3]<|
.a 1 1 2 (@F_q1j_ok a0) fun rv1=>
 let e2_:=(0,hv (TBo.d e1_))
.ite (!rv1) (
.reg 2 [] [e2_] [.pf zm]<|
.r (e1_,1)) (
.ite (cO (decide (a1<1)) (decide (a1>(a0.B.length:Int)))) (
.reg 4 [] [e2_] [.pf zm]<|
.r (e1_,6)) (
.call (@F_q10_ok a2) fun rv2 cv2=>
.calld [(!rv2)=false] dF (@F_q1g_ok a3) fun rv3 cv3 =>
.reg 5 [] [(1,hc cv2 [] true),(5,hc cv3 [] true)] [.cl 2 cv2 [] 2 true,.clg 0 [(!rv2)=false] cv3 [] 2 true]<|
.ite (cO (!rv2) (!rv3)) (
.reg 6 [] [e2_] [.pf zm]<|
.r (e1_,2)) (
.call (@F_q1f_ok a2) fun rv4 cv4=>
.call (@F_q1w_ok a0 a1) fun rv5 cv5=>
.reg 7 [] [(1,hc cv4 [] true),(4,hc cv5 [] true)] [.cl 1 cv4 [] 2 true,.cl 0 cv5 [] 2 true]<|
.ite (decide (rv4>(i64.wrap (rv5+1)))) (
.reg 8 [] [e2_] [.pf zm]<|
.r (e1_,16)) (
 let e3_:=(i64.wrap (a1-1))
.guard [(0:Int)<=e3_,(e3_).toNat<a0.B.length]<|
.reg 9 [] [] [.ev 0,.ev 1]<|
 let e5_:=(a0.B.getD ((e3_).toNat) dF)
.ite (decide (a2<(e5_.O))) (
.reg 10 [] [e2_] [.pf zm]<|
.r (e1_,8)) (
.call (@F_q1i_ok a0 e5_) fun rv6 cv6=>
.reg 11 [] [(8,hc cv6 [] true)] [.ev 2,.ev 3,.cl 0 cv6 [] 2 true]<|
.ite (decide (a3>rv6)) (
.reg 12 [] [e2_] [.pf zm]<|
.r (e1_,15)) (
.ite ((a0.C.length:Int)==200) (
.reg 14 [] [e2_] [.pf zm]<|
.r (e1_,3)) (
.call (@F_q1x_ok a0) fun rv7 cv7=>
.reg 15 [] [(1,hc cv7 [] false),(2,{ h:=.obj })] [.cl 0 cv7 [] 2 false]<|
.kill 3<|
.guard [rv7.1.length<2 ^ 63]<|
.frz 4 (.ev 0) none [] [8]<|
.guard [rv7.2.1.length<2 ^ 63]<|
.frz 5 (.ev 0) none [] [8]<|
.guard [rv7.2.2.2.length<2 ^ 63]<|
.frz 7 (.ev 0) none [] [8]<|
.guard [(rv7.2.2.1.length+1) * (2 * 32)<=2 ^ 48]<|
 let e0_:=([(⟨(i64.wrap ((a0.C.length:Int)+1)),a1,a2,a3⟩:TVe)]:List TVe)
 let e4_:=(rv7.2.2.1++e0_)
.reg 16 [] [(10,hv (AV.d (eL TVe.e e0_))),(11,{ cast:=some (AV.ref 6 (e4_.length) 0 (e4_.length)),obs:=[(6,(eS 4 TVe.e e4_))] })] [.pf (zi TVe.e e0_),.e rv7.2.2.1.length,.e rv7.2.2.1.length,.pf (p:=∀ k,k<1->(TVe.d (e0_.getD k dF)).wd=4) (fun _ _=>rfl),.ev 0,.pf (z16 (o:=6) (l:=rv7.2.2.1) (x:=e0_)),.pf (z15 (sz:=4) (e:=TVe.e) (l:=rv7.2.2.1) (x:=e0_))]<|
.guard [e4_.length<2 ^ 63]<|
.reg 17 [] [] []<|
.frz 6 (.ev 0) none [] [1,8]<|
.r ((⟨rv7.1,rv7.2.1,e4_,rv7.2.2.2⟩:TBo),0))))))))
def F_q49 (a0:TBo) (a1:Int) (a2:Int) (a3:Int):=(S_q49 a0 a1 a2 a3).den
theorem F_q49_ok {a0:TBo} {a1:Int} {a2:Int} {a3:Int}:FO (F_q49 a0 a1 a2 a3) 78 [(TBo.d a0),(vi a1),(vi a2),(vi a3)] [] (fun x=>(AV.tup [(TBo.d x.1),(vi x.2)])) NL:=fO (s:=S_q49 a0 a1 a2 a3) Tryz.func78
def S_q1y_b1 (a0:TBo) (a1:Int) (iv1:Nat) (sv2:TOr×Int):SC (TOr×Int) (Step (TOr×Int) (TOr×Int)) :=
.reg 5 [] [] [.w iv1,.ev 0]<|
 let e0_:=(a0.J.getD iv1 dF)
.ite ((e0_.K)==a1) (
.r (.cont (e0_,(i64.wrap (sv2.2+1))))) (
.r (.cont (sv2.1,sv2.2)))
def S_q1y (a0:TBo) (a1:Int):SC (TOr×Int) (TOr×Int) :=
.range (a0.J.length:Int) a0.J.length rfl (.slot 11) 13 [1,4,6,11,12] (fun (sv2:TOr×Int)=>[(7,(vi sv2.2))]) (fun sv2=>[(2,(TOr.b sv2.1))]) ((⟨0,0,0,0,false⟩:TOr),0) (S_q1y_b1 a0 a1) (fun sv2 => 
.r (sv2.1,sv2.2)) id
def F_q1y (a0:TBo) (a1:Int):=(S_q1y a0 a1).den
theorem F_q1y_ok {a0:TBo} {a1:Int}:FO (F_q1y a0 a1) 114 [(TBo.d a0),(vi a1)] [] (fun x=>(AV.tup [(TOr.d x.1),(vi x.2)])) NL:=fO (s:=S_q1y a0 a1) Tryz.func114
def S_q4a (a0:TBo) (a1:Int) (a2:Int):SC (TBo×Int) (TBo×Int) :=
 let e1_:=(⟨[],[],[],[]⟩:TBo)
.reg 0 [] [(1,{ obs:=[(1,(TBo.b e1_))] })] [.pf cz3]<|
.a 1 1 2 (@F_q1j_ok a0) fun rv1=>
 let e2_:=(0,hv (TBo.d e1_))
.ite (!rv1) (
.reg 2 [] [e2_] [.pf zm]<|
.r (e1_,1)) (
.ite (cO (decide (a1<1)) (decide (a1>(a0.C.length:Int)))) (
.reg 4 [] [e2_] [.pf zm]<|
.r (e1_,6)) (
.a 5 1 2 (@F_q10_ok a2) fun rv2=>
.ite (!rv2) (
.reg 6 [] [e2_] [.pf zm]<|
.r (e1_,2)) (
 let e3_:=(i64.wrap (a1-1))
.guard [(0:Int)<=e3_,(e3_).toNat<a0.C.length]<|
.reg 7 [] [] [.ev 0,.ev 1]<|
.a 8 2 3 (@F_q1y_ok a0 a1) fun rv3=>
.call (@F_q1f_ok a2) fun rv4 cv4=>
 let e5_:=(a0.C.getD ((e3_).toNat) dF)
.call (@F_q1w_ok a0 (e5_.P)) fun rv5 cv5=>
.reg 9 [] [(1,hc cv4 [] true),(5,hc cv5 [] true)] [.cl 1 cv4 [] 4 true,.cl 0 cv5 [] 4 true]<|
.ite (decide (rv4>(i64.wrap (rv5+1)))) (
.reg 10 [] [e2_] [.pf zm]<|
.r (e1_,16)) (
.ite (bif (decide (rv3.2>0)) then (!rv3.1.Ab) else false) (
.reg 12 [] [e2_] [.pf zm]<|
.r (e1_,20)) (
.ite (cO (decide (a2<(e5_.O))) (bif (decide (rv3.2>0)) then (decide (a2<rv3.1.O)) else false)) (
.reg 14 [] [e2_] [.pf zm]<|
.r (e1_,8)) (
.ite ((a0.J.length:Int)==200) (
.reg 16 [] [e2_] [.pf zm]<|
.r (e1_,3)) (
.call (@F_q1x_ok a0) fun rv6 cv6=>
.reg 17 [] [(1,hc cv6 [] false),(2,{ h:=.obj })] [.cl 0 cv6 [] 4 false]<|
.kill 5<|
.guard [rv6.1.length<2 ^ 63]<|
.frz 6 (.ev 0) none [] [10]<|
.guard [rv6.2.1.length<2 ^ 63]<|
.frz 7 (.ev 0) none [] [10]<|
.guard [rv6.2.2.1.length<2 ^ 63]<|
.frz 8 (.ev 0) none [] [10]<|
.guard [(rv6.2.2.2.length+1) * (2 * 40)<=2 ^ 48]<|
 let e0_:=([(⟨(i64.wrap ((a0.J.length:Int)+1)),a1,(i64.wrap (rv3.2+1)),a2,false⟩:TOr)]:List TOr)
 let e4_:=(rv6.2.2.2++e0_)
.reg 18 [] [(11,hv (AV.d (eL TOr.e e0_))),(12,{ cast:=some (AV.ref 9 (e4_.length) 0 (e4_.length)),obs:=[(9,(eS 5 TOr.e e4_))] })] [.pf (zi TOr.e e0_),.e rv6.2.2.2.length,.e rv6.2.2.2.length,.pf (p:=∀ k,k<1->(TOr.d (e0_.getD k dF)).wd=5) (fun _ _=>rfl),.ev 0,.pf (z16 (o:=9) (l:=rv6.2.2.2) (x:=e0_)),.pf (z15 (sz:=5) (e:=TOr.e) (l:=rv6.2.2.2) (x:=e0_))]<|
.guard [e4_.length<2 ^ 63]<|
.reg 19 [] [] []<|
.frz 9 (.ev 0) none [] [1,10]<|
.r ((⟨rv6.1,rv6.2.1,rv6.2.2.1,e4_⟩:TBo),0))))))))
def F_q4a (a0:TBo) (a1:Int) (a2:Int):=(S_q4a a0 a1 a2).den
theorem F_q4a_ok {a0:TBo} {a1:Int} {a2:Int}:FO (F_q4a a0 a1 a2) 79 [(TBo.d a0),(vi a1),(vi a2)] [] (fun x=>(AV.tup [(TBo.d x.1),(vi x.2)])) NL:=fO (s:=S_q4a a0 a1 a2) Tryz.func79
def S_q4b (a0:TBo) (a1:Int) (a2:Int):SC (TBo×Int) (TBo×Int) :=
 let e2_:=(⟨[],[],[],[]⟩:TBo)
 let e7_:=(TBo.b e2_)
.reg 0 [] [(1,{ obs:=[(1,e7_)] })] [.pf cz3]<|
.a 1 1 2 (@F_q1j_ok a0) fun rv1=>
 let e5_:=(0,hv (TBo.d e2_))
.ite (!rv1) (
.reg 2 [] [e5_] [.pf zm]<|
.r (e2_,1)) (
.ite (cO (decide (a1<1)) (decide (a1>(a0.A.length:Int)))) (
.reg 4 [] [e5_] [.pf zm]<|
.r (e2_,6)) (
.a 5 1 2 (@F_q1g_ok a2) fun rv2=>
.ite (!rv2) (
.reg 6 [] [e5_] [.pf zm]<|
.r (e2_,2)) (
.a 7 3 2 (@F_qq_ok a0 a1) fun rv3=>
.ite (decide (a2>rv3)) (
.reg 8 [] [e5_] [.pf zm]<|
.r (e2_,15)) (
.call (@F_q1x_ok a0) fun rv4 cv4=>
.reg 9 [] [(1,hc cv4 [] false),(2,{ obs:=[(8,e7_)] })] [.cl 0 cv4 [] 2 false,.pf cz3]<|
.kill 3<|
.guard [rv4.2.1.length<2 ^ 63]<|
.frz 5 (.ev 0) none [] [8]<|
.guard [rv4.2.2.1.length<2 ^ 63]<|
.frz 6 (.ev 0) none [] [8]<|
.guard [rv4.2.2.2.length<2 ^ 63]<|
.frz 7 (.ev 0) none [] [8]<|
 let e6_:=(i64.wrap (a1-1))
 let e1_:=(0+(e6_).toNat)
.guard [(0:Int)<=e6_,(e6_).toNat<rv4.1.length,e1_<rv4.1.length]<|
 let e3_:=(rv4.1.getD e1_ dF)
 let e0_:=(⟨e3_.F,e3_.E,e3_.H,e3_.O,e3_.I,(i64.wrap ((e3_.S)+a2))⟩:TRe)
 let e4_:=(rv4.1.set e1_ e0_)
 let e8_:=(eS 6 TRe.e e4_)
.reg 10 [] [(11,{ obs:=[(4,e8_)] })] [.e rv4.1.length,.ev 0,.ev 1,.e rv4.1.length,.e rv4.1.length,.ev 2,.e rv4.1.length,.ev 0,.ev 1,.e rv4.1.length,.e rv4.1.length,.ev 2,.pf (zu (sz:=6) (e:=TRe.e) (l:=rv4.1) (i:=e1_) (x:=e0_) (fun _=>rfl))]<|
 let e9_:=(AV.d (eL TVe.e rv4.2.2.1))
 let e10_:=(AV.d (eL TOr.e rv4.2.2.2))
 let e11_:=(AV.d (eL TCo.e rv4.2.1))
 let e12_:=[(6,(vp 1)),(8,(vp 8))]
.cst (A:=True) (.pf trivial) e12_ e12_ [(TBo.b a0),e7_,Ob.dead,Ob.dead,e8_,Ob.dead,Ob.dead,Ob.dead,(Ob.box (AV.agg [(AV.ref 4 rv4.1.length 0 rv4.1.length),e11_,e9_,e10_]))] [(TBo.b a0),e7_,Ob.dead,Ob.dead,e8_,Ob.dead,Ob.dead,Ob.dead,(Ob.box (AV.agg [(AV.ref 4 (e4_.length) 0 (e4_.length)),e11_,e9_,e10_]))] (fun _=>⟨by simp +zetaDelta only,by simp +zetaDelta only[yl]⟩)<|
.guard [e4_.length<2 ^ 63]<|
.reg 11 [] [] []<|
.frz 4 (.ev 0) none [] [1,8]<|
.r ((⟨e4_,rv4.2.1,rv4.2.2.1,rv4.2.2.2⟩:TBo),0)))))
def F_q4b (a0:TBo) (a1:Int) (a2:Int):=(S_q4b a0 a1 a2).den
theorem F_q4b_ok {a0:TBo} {a1:Int} {a2:Int}:FO (F_q4b a0 a1 a2) 80 [(TBo.d a0),(vi a1),(vi a2)] [] (fun x=>(AV.tup [(TBo.d x.1),(vi x.2)])) NL:=fO (s:=S_q4b a0 a1 a2) Tryz.func80
def S_q4c (a0:TBo) (a1:Int) (a2:Int):SC (TBo×Int) (TBo×Int) :=
 let e2_:=(⟨[],[],[],[]⟩:TBo)
 let e7_:=(TBo.b e2_)
.reg 0 [] [(1,{ obs:=[(1,e7_)] })] [.pf cz3]<|
.a 1 1 2 (@F_q1j_ok a0) fun rv1=>
 let e6_:=(0,hv (TBo.d e2_))
.ite (!rv1) (
.reg 2 [] [e6_] [.pf zm]<|
.r (e2_,1)) (
.ite (cO (decide (a1<1)) (decide (a1>(a0.B.length:Int)))) (
.reg 4 [] [e6_] [.pf zm]<|
.r (e2_,6)) (
.a 5 1 2 (@F_q1g_ok a2) fun rv2=>
.ite (!rv2) (
.reg 6 [] [e6_] [.pf zm]<|
.r (e2_,2)) (
 let e5_:=(i64.wrap (a1-1))
.call (@F_q1i_ok a0 (a0.B.getD ((e5_).toNat) dF)) fun rv3 cv3=>
.guard [(0:Int)<=e5_,(e5_).toNat<a0.B.length]<|
.reg 7 [] [(8,hc cv3 [] true)] [.ev 0,.ev 1,.cl 2 cv3 [] 2 true]<|
.ite (decide (a2>rv3)) (
.reg 8 [] [e6_] [.pf zm]<|
.r (e2_,15)) (
.call (@F_q1x_ok a0) fun rv4 cv4=>
.reg 9 [] [(1,hc cv4 [] false),(2,{ obs:=[(8,e7_)] })] [.cl 0 cv4 [] 2 false,.pf cz3]<|
.kill 3<|
.guard [rv4.1.length<2 ^ 63]<|
.frz 4 (.ev 0) none [] [8]<|
.guard [rv4.2.2.1.length<2 ^ 63]<|
.frz 6 (.ev 0) none [] [8]<|
.guard [rv4.2.2.2.length<2 ^ 63]<|
.frz 7 (.ev 0) none [] [8]<|
 let e1_:=(0+(e5_).toNat)
.guard [(e5_).toNat<rv4.2.1.length,e1_<rv4.2.1.length]<|
 let e3_:=(rv4.2.1.getD e1_ dF)
 let e0_:=(⟨e3_.F,e3_.L,e3_.O,e3_.I,(i64.wrap ((e3_.S)+a2)),e3_.T,e3_.W⟩:TCo)
 let e4_:=(rv4.2.1.set e1_ e0_)
 let e8_:=(eS 7 TCo.e e4_)
.reg 10 [] [(11,{ obs:=[(5,e8_)] })] [.e rv4.2.1.length,.ev 7,.ev 0,.e rv4.2.1.length,.e rv4.2.1.length,.ev 1,.e rv4.2.1.length,.ev 7,.ev 0,.e rv4.2.1.length,.e rv4.2.1.length,.ev 1,.pf (zu (sz:=7) (e:=TCo.e) (l:=rv4.2.1) (i:=e1_) (x:=e0_) (fun _=>rfl))]<|
 let e9_:=(AV.d (eL TVe.e rv4.2.2.1))
 let e10_:=(AV.d (eL TOr.e rv4.2.2.2))
 let e11_:=[(6,(vp 1)),(8,(vp 8))]
 let e12_:=(AV.d (eL TRe.e rv4.1))
.cst (A:=True) (.pf trivial) e11_ e11_ [(TBo.b a0),e7_,Ob.dead,Ob.dead,Ob.dead,e8_,Ob.dead,Ob.dead,(Ob.box (AV.agg [e12_,(AV.ref 5 rv4.2.1.length 0 rv4.2.1.length),e9_,e10_]))] [(TBo.b a0),e7_,Ob.dead,Ob.dead,Ob.dead,e8_,Ob.dead,Ob.dead,(Ob.box (AV.agg [e12_,(AV.ref 5 (e4_.length) 0 (e4_.length)),e9_,e10_]))] (fun _=>⟨by simp +zetaDelta only,by simp +zetaDelta only[yl]⟩)<|
.guard [e4_.length<2 ^ 63]<|
.reg 11 [] [] []<|
.frz 5 (.ev 0) none [] [1,8]<|
.r ((⟨rv4.1,e4_,rv4.2.2.1,rv4.2.2.2⟩:TBo),0)))))
def F_q4c (a0:TBo) (a1:Int) (a2:Int):=(S_q4c a0 a1 a2).den
theorem F_q4c_ok {a0:TBo} {a1:Int} {a2:Int}:FO (F_q4c a0 a1 a2) 81 [(TBo.d a0),(vi a1),(vi a2)] [] (fun x=>(AV.tup [(TBo.d x.1),(vi x.2)])) NL:=fO (s:=S_q4c a0 a1 a2) Tryz.func81
end
end Go.Proofs.YtpbnkbjhlhlaiaaGreatDoor
/- What the functions compute,and that their calls return it. No condition. -/
namespace Go.Proofs.YtpbnkbjhlhlaiaaGreatDoor
open Go Go.TA
open Go.IntKind (i64)
noncomputable section
set_option maxRecDepth 100000
def S_q4d (a0:TBo) (a1:Int):SC (TBo×Int) (TBo×Int) :=
 let e2_:=(⟨[],[],[],[]⟩:TBo)
 let e6_:=(TBo.b e2_)
.reg 0 [] [(1,{ obs:=[(1,e6_)] })] [.pf cz3]<|
.a 1 1 2 (@F_q1j_ok a0) fun rv1=>
 let e4_:=(0,hv (TBo.d e2_))
.ite (!rv1) (
.reg 2 [] [e4_] [.pf zm]<|
.r (e2_,1)) (
.ite (cO (decide (a1<1)) (decide (a1>(a0.C.length:Int)))) (
.reg 4 [] [e4_] [.pf zm]<|
.r (e2_,6)) (
.a 5 2 2 (@F_q1y_ok a0 a1) fun rv2=>
.ite (cO (rv2.2==0) rv2.1.Ab) (
.reg 7 [] [e4_] [.pf zm]<|
.r (e2_,9)) (
.call (@F_q1x_ok a0) fun rv3 cv3=>
.reg 8 [] [(1,hc cv3 [] false),(2,{ obs:=[(9,e6_)] })] [.cl 0 cv3 [] 3 false,.pf cz3]<|
.kill 4<|
.guard [rv3.1.length<2 ^ 63]<|
.frz 5 (.ev 0) none [] [9]<|
.guard [rv3.2.1.length<2 ^ 63]<|
.frz 6 (.ev 0) none [] [9]<|
.guard [rv3.2.2.1.length<2 ^ 63]<|
.frz 7 (.ev 0) none [] [9]<|
 let e3_:=(i64.wrap (rv2.1.F-1))
 let e7_:=(0+(e3_).toNat)
.guard [(0:Int)<=e3_,(e3_).toNat<rv3.2.2.2.length,e7_<rv3.2.2.2.length]<|
 let e1_:=(rv3.2.2.2.getD e7_ dF)
 let e5_:=(⟨e1_.F,e1_.K,e1_.Z,e1_.O,true⟩:TOr)
 let e0_:=(rv3.2.2.2.set e7_ e5_)
 let e8_:=(eS 5 TOr.e e0_)
.reg 9 [] [(7,{ obs:=[(8,e8_)] })] [.e rv3.2.2.2.length,.ev 0,.ev 1,.e rv3.2.2.2.length,.e rv3.2.2.2.length,.ev 2,.pf (zu (sz:=5) (e:=TOr.e) (l:=rv3.2.2.2) (i:=e7_) (x:=e5_) (fun _=>rfl))]<|
 let e9_:=(AV.d (eL TVe.e rv3.2.2.1))
 let e10_:=(AV.d (eL TCo.e rv3.2.1))
 let e11_:=[(4,(vp 1)),(8,(vp 9))]
 let e12_:=(AV.d (eL TRe.e rv3.1))
.cst (A:=True) (.pf trivial) e11_ e11_ [(TBo.b a0),e6_,(TOr.b rv2.1),Ob.dead,Ob.dead,Ob.dead,Ob.dead,Ob.dead,e8_,(Ob.box (AV.agg [e12_,e10_,e9_,(AV.ref 8 rv3.2.2.2.length 0 rv3.2.2.2.length)]))] [(TBo.b a0),e6_,(TOr.b rv2.1),Ob.dead,Ob.dead,Ob.dead,Ob.dead,Ob.dead,e8_,(Ob.box (AV.agg [e12_,e10_,e9_,(AV.ref 8 (e0_.length) 0 (e0_.length))]))] (fun _=>⟨by simp +zetaDelta only,by simp +zetaDelta only[yl]⟩)<|
.guard [e0_.length<2 ^ 63]<|
.reg 10 [] [] []<|
.frz 8 (.ev 0) none [] [1,9]<|
.r ((⟨rv3.1,rv3.2.1,rv3.2.2.1,e0_⟩:TBo),0))))
def F_q4d (a0:TBo) (a1:Int):=(S_q4d a0 a1).den
theorem F_q4d_ok {a0:TBo} {a1:Int}:FO (F_q4d a0 a1) 82 [(TBo.d a0),(vi a1)] [] (fun x=>(AV.tup [(TBo.d x.1),(vi x.2)])) NL:=fO (s:=S_q4d a0 a1) Tryz.func82
def S_q2v (a0:TRi) (a1:TMe):SC (TRi×Int) (TRi×Int) :=
.a 1 1 3 (@F_q2u_ok a0) fun rv1=>
.ite (cO (cO (cO (!rv1) (a1.Ac != 0)) (!(a1.E==a0.E))) (a1.H != a0.H)) (
.r ((⟨[],0,0,0,0⟩:TRi),1)) (
.call (@F_q24_ok a1.N) fun rv2 cv2=>
.calld [(!rv2)=false] dF (@F_q24_ok a1.Aa) fun rv3 cv3 =>
.reg 3 [] [(2,hc cv2 [] true),(7,hc cv3 [] true)] [.cl 2 cv2 [] 3 true,.clg 0 [(!rv2)=false] cv3 [] 3 true]<|
.ite (cO (!rv2) (!rv3)) (
.r ((⟨[],0,0,0,0⟩:TRi),2)) (
.reg 5 [11,13] [] []<|
.r ((⟨a0.E,a0.H,(if a1.N>a0.N then a1.N else a0.N),(if a1.Aa>a0.Aa then a1.Aa else a0.Aa),a0.X⟩:TRi),0)))
def F_q2v (a0:TRi) (a1:TMe):=(S_q2v a0 a1).den
theorem F_q2v_ok {a0:TRi} {a1:TMe}:FO (F_q2v a0 a1) 115 [(TRi.d a0),(TMe.d a1)] [] (fun x=>(AV.tup [(TRi.d x.1),(vi x.2)])) NL:=fO (s:=S_q2v a0 a1) Tryz.func115
theorem cz8:∀ k,k<1->(TRi.d (([(⟨[],0,0,0,0⟩:TRi)]:List TRi).getD k dF)).wd=5:=fun _ _=>rfl
def S_q1k_b1 (a0:TOf) (rv1:(TRi×Int)) (sv2:Int):SC (TOf×Int) (Step (Int) (TOf×Int)) :=
.ite (decide (sv2<(a0.G.length:Int))) (
 let e2_:=(0+(sv2).toNat)
 let e3_:=(a0.G.getD e2_ dF)
.call (@F_q12_ok (e3_.E) rv1.1.E) fun rv3 cv3=>
.guard [(0:Int)<=sv2,(sv2).toNat<a0.G.length,e2_<a0.G.length]<|
.reg 15 [] [(7,hc cv3 [] true)] [.e a0.G.length,.ev 0,.ev 1,.e a0.G.length,.e a0.G.length,.ev 2,.cl 3 cv3 [] 5 true]<|
 let e0_:=(decide (rv3>0))
.guard [AllP [(rv3==0)=true,e0_=false]->((0:Int)<=sv2),AllP [(rv3==0)=true,e0_=false]->((sv2).toNat<a0.G.length),AllP [(rv3==0)=true,e0_=false]->(e2_<a0.G.length)]<|
 let e1_:=(a0.G.length=a0.G.length)
.reg 16 [] [] [.pf (p:=AllP [(rv3==0)=true,e0_=false]->e1_) (fun _=>rfl),.ev 0,.ev 1,.pf (p:=AllP [(rv3==0)=true,e0_=false]->e1_) (fun _=>rfl),.pf (p:=AllP [(rv3==0)=true,e0_=false]->e1_) (fun _=>rfl),.ev 2]<|
.ite (cO e0_ (bif (rv3==0) then (decide ((e3_.H)>rv1.1.H)) else false)) (
.r (.brk sv2)) (
.r (.cont (i64.wrap (sv2+1))))) (
.r (.brk sv2))
def S_q1k (a0:TOf) (a1:TOp):SC (TOf×Int) (TOf×Int) :=
 let e1_:=(⟨0,[],(⟨[],[],[],[]⟩:TBo)⟩:TOf)
 let e10_:=(TOf.b e1_)
.reg 0 [] [(2,{ obs:=[(2,e10_)] })] [.pf zx]<|
.a 1 2 3 (@F_qs_ok a1.E) fun rv4=>
 let e7_:=(0,hv (TOf.d e1_))
.ite (!rv4) (
.reg 2 [] [e7_] [.pf cz2]<|
.r (e1_,5)) (
.ite (cO (decide (a1.H<0)) (decide (a1.H>99))) (
.reg 4 [] [e7_] [.pf cz2]<|
.r (e1_,2)) (
.a 5 5 3 (@F_q11_ok a0 a1.E a1.H) fun rv5=>
.ite (bif (decide (rv5<0)) then ((a0.G.length:Int)==60) else false) (
.reg 7 [] [e7_] [.pf cz2]<|
.r (e1_,3)) (
.call (@F_q3f_ok a0 a1.E a1.H) fun rv6 cv6=>
.call (@F_q2v_ok rv6 (⟨0,0,a1.E,a1.H,a1.N,a1.Q,0,0⟩:TMe)) fun rv1 cv1=>
.reg 8 [19,20] [(5,hc cv6 [] true),(15,hc cv1 [] true)] [.cl 1 cv6 [] 3 true,.cl 1 cv6 [] 4 true,.cl 0 cv1 [] 3 true,.cl 0 cv1 [] 4 true]<|
.ite (rv1.2 != 0) (
.reg 10 [] [e7_] [.pf cz2]<|
.r (e1_,rv1.2)) (
.guard [a0.G.length * (2 * 48)<=2 ^ 48]<|
.reg 11 [] [(3,{ h:=.obj })] [.pf (p:=∀ k,k<a0.G.length->(TRi.d (a0.G.getD k dF)).wd=5) (fun _ _=>rfl),.ev 0]<|
 let e12_:=(TRi.b rv1.1)
 let e15_:=(TOf.b a0)
 let e16_:=(TOp.b a1)
.cut none [2,4,7] (fun (sv7:(List TRi)×Int)=>[(6,(vi sv7.2)),(9,(AV.ref 4 sv7.1.length 0 sv7.1.length))]) (fun sv7=>[(4,(eS 5 TRi.e sv7.1))]) (
.ite (decide (rv5<0)) (
.iter [2,4,7,9] (fun (sv2:Int)=>[(6,(vi sv2))]) (fun _=>[]) 0 (S_q1k_b1 a0 rv1) (fun sv2 =>
.guard [(a0.G.length+1) * (2 * 48)<=2 ^ 48]<|
 let e6_:=(⟨[],0,0,0,0⟩:TRi)
 let e9_:=([e6_]:List TRi)
 let e0_:=(a0.G++e9_)
 let e11_:=(AV.ref 4 (e0_.length) 0 (e0_.length))
.reg 18 [] [(2,hv (AV.d (eL TRi.e e9_))),(3,{ h:=.obj,cast:=some e11_,obs:=[(4,(eS 5 TRi.e e0_))] })] [.pf (zi TRi.e e9_),.e a0.G.length,.e a0.G.length,.pf cz8,.ev 0,.pf (z16 (o:=4) (l:=a0.G) (x:=e9_)),.pf (z15 (sz:=5) (e:=TRi.e) (l:=a0.G) (x:=e9_))]<|
 let e14_:=(i64.wrap (sv2+1))
 let e2_:=(e14_)
.guard [(0:Int)<=e14_,e2_.toNat<=e0_.length,(0:Int)<=sv2,(sv2).toNat<=e0_.length]<|
 let e5_:=(0+(sv2).toNat)
 let e8_:=(0+e2_.toNat)
.reg 19 [7] [(7,{ obs:=[(4,(eS 5 TRi.e (copyL e0_ e8_ (min (e0_.length-(sv2).toNat) (e0_.length-e2_.toNat)) (fun i=>(e0_.getD (e5_+i) dF)))))] })] [.ev 0,.ev 1,.e (e0_.length),.ev 2,.ev 3,.e (e0_.length),.e (e0_.length),.e (e0_.length),.pf (p:=∀ k,k<(e0_.length-(sv2).toNat)->(TRi.d (e0_.getD (e5_+k) dF)).wd=5) (fun _ _=>rfl),.pf (zon (sz:=5) (e:=TRi.e) (l:=e0_) (off:=e8_) (k:=(min (e0_.length-(sv2).toNat) (e0_.length-e2_.toNat))) (s:=(fun i=>(e0_.getD (e5_+i) dF))))]<|
.cst (A:=True) (.pf trivial) [(2,(vp 0)),(4,(vp 2)),(6,(vi sv2)),(7,(vp 3)),(9,e11_)] [(2,(vp 0)),(4,(vp 2)),(6,(vi sv2)),(7,(vp 3)),(9,(AV.ref 4 ((copyL e0_ e8_ (min (e0_.length-(sv2).toNat) (e0_.length-e2_.toNat)) (fun i=>(e0_.getD (e5_+i) dF))).length) 0 ((copyL e0_ e8_ (min (e0_.length-(sv2).toNat) (e0_.length-e2_.toNat)) (fun i=>(e0_.getD (e5_+i) dF))).length)))] [e15_,e16_,e10_,e12_,(eS 5 TRi.e (copyL e0_ e8_ (min (e0_.length-(sv2).toNat) (e0_.length-e2_.toNat)) (fun i=>(e0_.getD (e5_+i) dF))))] [e15_,e16_,e10_,e12_,(eS 5 TRi.e (copyL e0_ e8_ (min (e0_.length-(sv2).toNat) (e0_.length-e2_.toNat)) (fun i=>(e0_.getD (e5_+i) dF))))] (fun _=>⟨by simp +zetaDelta only[z55],by rfl⟩)<|
.r (.next ((copyL e0_ e8_ (min (e0_.length-(sv2).toNat) (e0_.length-e2_.toNat)) (fun i=>(e0_.getD (e5_+i) dF))),sv2))) .ret) (
.r (.next (a0.G,rv5)))) fun sv7=>
 let e13_:=(0+(sv7.2).toNat)
.guard [(0:Int)<=sv7.2,(sv7.2).toNat<sv7.1.length,e13_<sv7.1.length]<|
 let e3_:=(sv7.1.set e13_ rv1.1)
.reg 20 [] [(4,{ obs:=[(4,(eS 5 TRi.e e3_))] })] [.e sv7.1.length,.ev 0,.ev 1,.e sv7.1.length,.ev 2,.pf (zu (sz:=5) (e:=TRi.e) (l:=sv7.1) (i:=e13_) (x:=rv1.1) (fun _=>rfl))]<|
 let e4_:=[e15_,e16_,e10_,e12_,(eS 5 TRi.e e3_)]
.cst (A:=True) (.pf trivial) [(2,(vp 0)),(4,(vp 2)),(9,(AV.ref 4 sv7.1.length 0 sv7.1.length))] [(2,(vp 0)),(4,(vp 2)),(9,(AV.ref 4 (e3_.length) 0 (e3_.length)))] e4_ e4_ (fun _=>⟨by simp +zetaDelta only[yl],by rfl⟩)<|
.guard [e3_.length<2 ^ 63]<|
.reg 22 [] [] []<|
.frz 4 (.ev 0) none [] [0,2]<|
.r ((⟨a0.F,e3_,a0.V⟩:TOf),0)))))
def F_q1k (a0:TOf) (a1:TOp):=(S_q1k a0 a1).den
theorem F_q1k_ok {a0:TOf} {a1:TOp}:FO (F_q1k a0 a1) 83 [(TOf.d a0),(TOp.d a1)] [] (fun x=>(AV.tup [(TOf.d x.1),(vi x.2)])) NL:=fO (s:=S_q1k a0 a1) Tryz.func83
def S_q4e (a0:TRi) (a1:Int) (a2:Int):SC (TRi×Int) (TRi×Int) :=
.a 1 1 2 (@F_q2u_ok a0) fun rv1=>
 let e0_:=(⟨[],0,0,0,0⟩:TRi)
 let e1_:=(i64.wrap (a0.N-a0.X))
.ite (cO (cO (!rv1) (decide (a1<0))) (decide (a1>e1_))) (
.r (e0_,1)) (
.ite (cO (decide (a2<1)) (decide (a2>1000000000000000))) (
.r (e0_,2)) (
.ite (decide (a2>(i64.wrap (e1_-a1)))) (
.r (e0_,15)) (
.r ((⟨a0.E,a0.H,a0.N,a0.Aa,(i64.wrap (a0.X+a2))⟩:TRi),0))))
def F_q4e (a0:TRi) (a1:Int) (a2:Int):=(S_q4e a0 a1 a2).den
theorem F_q4e_ok {a0:TRi} {a1:Int} {a2:Int}:FO (F_q4e a0 a1 a2) 85 [(TRi.d a0),(vi a1),(vi a2)] [] (fun x=>(AV.tup [(TRi.d x.1),(vi x.2)])) NL:=fO (s:=S_q4e a0 a1 a2) Tryz.func85
def S_q2g (a0:TOf) (a1:TOp):SC (TOf×Int) (TOf×Int) :=
 let e6_:=(⟨[],[],[],[]⟩:TBo)
 let e0_:=(⟨0,[],e6_⟩:TOf)
 let e3_:=(TOf.b e0_)
.reg 0 [] [(2,{ obs:=[(2,e3_)] })] [.pf zx]<|
.a 1 1 3 (@F_qm_ok a0) fun rv1=>
 let e2_:=(0,hv (TOf.d e0_))
.ite (!rv1) (
.reg 2 [] [e2_] [.pf cz2]<|
.r (e0_,1)) (
.reg 3 [] [(2,{ obs:=[(3,(TBo.b e6_))] })] [.pf cz3]<|
.cut (some 0) [2,4,6] (fun (sv2:TBo×Int)=>[(7,(vi sv2.2))]) (fun sv2=>[(3,(TBo.b sv2.1))]) (
.ite (a1.M==1) (
.a 7 10 4 (@F_q47_ok a0.V a1.E a1.H a1.O a1.I) fun rv3=>
.calld [(rv3.2==0)=true] dF (@F_q3g_ok a0 a1.E a1.H) fun rv4 cv4 =>
.reg 8 [] [(10,hc cv4 [] true)] [.clg 0 [(rv3.2==0)=true] cv4 [] 4 true]<|
.ite (bif (rv3.2==0) then (decide (a1.I>rv4)) else false) (
.r (.next (rv3.1,15))) (
.r (.next (rv3.1,rv3.2)))) (
.ite (a1.M==2) (
.a 11 12 4 (@F_q48_ok a0.V a1.Y a1.O a1.I a1.T a1.W) fun rv5=>
.r (.next (rv5.1,rv5.2))) (
.ite (a1.M==3) (
.a 13 8 4 (@F_q49_ok a0.V a1.Y a1.O a1.I) fun rv6=>
.r (.next (rv6.1,rv6.2))) (
.ite (a1.M==4) (
.a 15 6 4 (@F_q4a_ok a0.V a1.Y a1.O) fun rv7=>
.r (.next (rv7.1,rv7.2))) (
.ite (a1.M==5) (
.a 17 6 4 (@F_q4b_ok a0.V a1.Y a1.I) fun rv8=>
.r (.next (rv8.1,rv8.2))) (
.ite (a1.M==6) (
.a 19 6 4 (@F_q4c_ok a0.V a1.Y a1.I) fun rv9=>
.r (.next (rv9.1,rv9.2))) (
.ite (a1.M==9) (
.a 21 4 4 (@F_q4d_ok a0.V a1.Y) fun rv10=>
.r (.next (rv10.1,rv10.2))) (
.ite (a1.M==8) (
.a 23 2 4 (@F_q1k_ok a0 a1) fun rv11=>
.r (.ret (rv11.1,rv11.2))) (
.ite (a1.M==7) (
.a 25 5 4 (@F_q11_ok a0 a1.E a1.H) fun rv12=>
.ite (decide (rv12<0)) (
.reg 27 [] [e2_] [.pf cz2]<|
.r (.ret (e0_,6))) (
.call (@F_qt_ok a0.V a1.E a1.H) fun rv13 cv13=>
.call (@F_q4e_ok (a0.G.getD ((rv12).toNat) dF) rv13 a1.I) fun rv14 cv14=>
.guard [(0:Int)<=rv12,(rv12).toNat<a0.G.length]<|
.reg 28 [18,19] [(11,hc cv13 [] true),(14,hc cv14 [] true)] [.ev 0,.ev 1,.ev 0,.ev 1,.cl 3 cv13 [] 4 true,.cl 3 cv13 [] 5 true,.cl 2 cv14 [] 4 true,.cl 2 cv14 [] 5 true]<|
.ite (rv14.2 != 0) (
.reg 30 [] [e2_] [.pf cz2]<|
.r (.ret (e0_,rv14.2))) (
.guard [a0.G.length * (2 * 48)<=2 ^ 48]<|
.reg 31 [] [(3,{ h:=.obj })] [.pf (p:=∀ k,k<a0.G.length->(TRi.d (a0.G.getD k dF)).wd=5) (fun _ _=>rfl),.ev 0]<|
 let e4_:=(0+(rv12).toNat)
.guard [e4_<a0.G.length]<|
 let e1_:=(a0.G.set e4_ rv14.1)
 let e5_:=(eS 5 TRi.e e1_)
.reg 32 [] [(5,{ obs:=[(5,e5_)] })] [.e a0.G.length,.ev 3,.ev 4,.e a0.G.length,.ev 0,.pf (zu (sz:=5) (e:=TRi.e) (l:=a0.G) (i:=e4_) (x:=rv14.1) (fun _=>rfl))]<|
 let e7_:=[(2,(vp 0)),(4,(vp 2))]
.cst (A:=True) (.pf trivial) e7_ e7_ [(Ob.box (AV.agg [(vi a0.F),(AV.ref 5 a0.G.length 0 a0.G.length),(TBo.d a0.V)])),(TOp.b a1),e3_,(TBo.b a0.V),(TRi.b rv14.1),e5_] [(Ob.box (AV.agg [(vi a0.F),(AV.ref 5 (e1_.length) 0 (e1_.length)),(TBo.d a0.V)])),(TOp.b a1),e3_,(TBo.b a0.V),(TRi.b rv14.1),e5_] (fun _=>⟨by simp +zetaDelta only,by simp +zetaDelta only[yl]⟩)<|
.guard [e1_.length<2 ^ 63]<|
.reg 33 [] [] []<|
.frz 5 (.ev 0) none [] [0,2]<|
.r (.ret ((⟨a0.F,e1_,a0.V⟩:TOf),0))))) (
.r (.next (a0.V,1)))))))))))) fun sv2=>
.ite (sv2.2 != 0) (
.reg 35 [] [e2_] [.pf cz2]<|
.r (e0_,sv2.2)) (
.r ((⟨a0.F,a0.G,sv2.1⟩:TOf),0)))
def F_q2g (a0:TOf) (a1:TOp):=(S_q2g a0 a1).den
theorem F_q2g_ok {a0:TOf} {a1:TOp}:FO (F_q2g a0 a1) 34 [(TOf.d a0),(TOp.d a1)] [] (fun x=>(AV.tup [(TOf.d x.1),(vi x.2)])) NL:=fO (s:=S_q2g a0 a1) Tryz.func34
abbrev R_qv:=(List Int)×Bool
def S_qv (a0:TOp):SC R_qv R_qv :=
.ite (a0.M==1) (
 let e2_:=([a0.O,a0.I]:List Int)
.reg 3 [] [(4,hv (vl e2_))] [.pf (zi (DV.i .i64) e2_)]<|
.r (e2_,true)) (
.ite (a0.M==2) (
 let e0_:=([a0.Y,a0.O,a0.I,a0.T,a0.W]:List Int)
.reg 5 [] [(10,hv (vl e0_))] [.pf (zi (DV.i .i64) e0_)]<|
.r (e0_,false)) (
.ite (a0.M==3) (
 let e1_:=([a0.Y,a0.O,a0.I]:List Int)
.reg 7 [] [(6,hv (vl e1_))] [.pf (zi (DV.i .i64) e1_)]<|
.r (e1_,false)) (
.ite (a0.M==4) (
 let e3_:=([a0.Y,a0.O]:List Int)
.reg 9 [] [(4,hv (vl e3_))] [.pf (zi (DV.i .i64) e3_)]<|
.r (e3_,false)) (
.cut none [1,5] (fun (sv1:Bool)=>[(42,(vb sv1))]) (fun _=>[]) (
.ite (a0.M==5) (
.r (.next (a0.M==5))) (
.r (.next (a0.M==6)))) fun sv1=>
.ite sv1 (
 let e4_:=([a0.Y,a0.I]:List Int)
.reg 12 [] [(4,hv (vl e4_))] [.pf (zi (DV.i .i64) e4_)]<|
.r (e4_,false)) (
.ite (a0.M==7) (
 let e6_:=([a0.I]:List Int)
.reg 14 [] [(2,hv (vl e6_))] [.pf (zi (DV.i .i64) e6_)]<|
.r (e6_,true)) (
.ite (a0.M==8) (
 let e5_:=([a0.N,a0.Q]:List Int)
.reg 16 [] [(4,hv (vl e5_))] [.pf (zi (DV.i .i64) e5_)]<|
.r (e5_,true)) (
 let e7_:=([a0.Y]:List Int)
.reg 17 [] [(2,hv (vl e7_))] [.pf (zi (DV.i .i64) e7_)]<|
.r (e7_,false))))))))
def F_qv (a0:TOp):=(S_qv a0).den
theorem F_qv_ok {a0:TOp}:FO (F_qv a0) 50 [(TOp.d a0)] [] (fun x=>(AV.tup [(vl x.1),(vb x.2)])) NL:=fO (s:=S_qv a0) Tryz.func50
def S_q1 (a0:Int) (a1:Y8) (a2:Int) (a3:(List Int)):SC TOp TOp :=
.cut (some 0) [8,9] (fun (_:TOp)=>[]) (fun sv1=>[(1,(TOp.b sv1))]) (
 let e0_:=(a3.getD 0 dF)
 let e1_:=(a3.getD 1 dF)
.ite (a0==1) (
.guard [0<a3.length,1<a3.length]<|
.reg 5 [7,9] [] [.pf (p:=(0:Int)<=0) dk,.ev 0,.pf (p:=(0:Int)<=1) dk,.ev 1,.pf (p:=(0:Int)<=1) dk,.ev 1]<|
.r (.next (⟨a0,a1,a2,e0_,0,e1_,0,0,0,0⟩:TOp))) (
.ite (a0==2) (
.guard [0<a3.length,1<a3.length,2<a3.length,3<a3.length,4<a3.length]<|
.reg 7 [16,18,20,22,24] [] [.pf (p:=(0:Int)<=0) dk,.ev 0,.pf (p:=(0:Int)<=1) dk,.ev 1,.pf (p:=(0:Int)<=1) dk,.ev 1,.pf (p:=(0:Int)<=2) dk,.ev 2,.pf (p:=(0:Int)<=2) dk,.ev 2,.pf (p:=(0:Int)<=2) dk,.ev 2,.pf (p:=(0:Int)<=3) dk,.ev 3,.pf (p:=(0:Int)<=3) dk,.ev 3,.pf (p:=(0:Int)<=3) dk,.ev 3,.pf (p:=(0:Int)<=3) dk,.ev 3,.pf (p:=(0:Int)<=4) dk,.ev 4,.pf (p:=(0:Int)<=4) dk,.ev 4,.pf (p:=(0:Int)<=4) dk,.ev 4,.pf (p:=(0:Int)<=4) dk,.ev 4,.pf (p:=(0:Int)<=4) dk,.ev 4]<|
.r (.next (⟨a0,a1,a2,e1_,e0_,(a3.getD 2 dF),(a3.getD 3 dF),(a3.getD 4 dF),0,0⟩:TOp))) (
.ite (a0==3) (
.guard [0<a3.length,1<a3.length,2<a3.length]<|
.reg 9 [10,12,14] [] [.pf (p:=(0:Int)<=0) dk,.ev 0,.pf (p:=(0:Int)<=1) dk,.ev 1,.pf (p:=(0:Int)<=1) dk,.ev 1,.pf (p:=(0:Int)<=2) dk,.ev 2,.pf (p:=(0:Int)<=2) dk,.ev 2,.pf (p:=(0:Int)<=2) dk,.ev 2]<|
.r (.next (⟨a0,a1,a2,e1_,e0_,(a3.getD 2 dF),0,0,0,0⟩:TOp))) (
.ite (a0==4) (
.guard [0<a3.length,1<a3.length]<|
.reg 11 [7,9] [] [.pf (p:=(0:Int)<=0) dk,.ev 0,.pf (p:=(0:Int)<=1) dk,.ev 1,.pf (p:=(0:Int)<=1) dk,.ev 1]<|
.r (.next (⟨a0,a1,a2,e1_,e0_,0,0,0,0,0⟩:TOp))) (
.cut none [3,8,9,14] (fun (sv2:Bool)=>[(75,(vb sv2))]) (fun _=>[]) (
.ite (a0==5) (
.r (.next (a0==5))) (
.r (.next (a0==6)))) fun sv2=>
.ite sv2 (
.guard [0<a3.length,1<a3.length]<|
.reg 14 [7,9] [] [.pf (p:=(0:Int)<=0) dk,.ev 0,.pf (p:=(0:Int)<=1) dk,.ev 1,.pf (p:=(0:Int)<=1) dk,.ev 1]<|
.r (.next (⟨a0,a1,a2,0,e0_,e1_,0,0,0,0⟩:TOp))) (
.ite (a0==7) (
.guard [0<a3.length]<|
.reg 16 [] [] [.pf (p:=(0:Int)<=0) dk,.ev 0]<|
.r (.next (⟨a0,a1,a2,0,0,e0_,0,0,0,0⟩:TOp))) (
.ite (a0==8) (
.guard [0<a3.length,1<a3.length]<|
.reg 18 [7,9] [] [.pf (p:=(0:Int)<=0) dk,.ev 0,.pf (p:=(0:Int)<=1) dk,.ev 1,.pf (p:=(0:Int)<=1) dk,.ev 1]<|
.r (.next (⟨a0,a1,a2,0,0,0,0,0,e0_,e1_⟩:TOp))) (
.guard [0<a3.length]<|
.reg 3 [] [] [.pf (p:=(0:Int)<=0) dk,.ev 0]<|
.r (.next (⟨a0,a1,a2,0,e0_,0,0,0,0,0⟩:TOp)))))))))) fun sv1=>
.r sv1
def F_q1 (a0:Int) (a1:Y8) (a2:Int) (a3:(List Int)):=(S_q1 a0 a1 a2 a3).den
theorem F_q1_ok {a0:Int} {a1:Y8} {a2:Int} {a3:(List Int)}:FO (F_q1 a0 a1 a2 a3) 52 [(vi a0),(AV.d (DV.str a1)),(vi a2),(vl a3)] [] (fun x=>(TOp.d x)) NL:=fO (s:=S_q1 a0 a1 a2 a3) Tryz.func52
def S_q9_b1 (rv1:R_qv) (iv2:Nat) (_:Unit):SC Bool (Step (Unit) Bool) :=
.reg 8 [] [] [.w iv2,.ev 0]<|
 let e0_:=(rv1.1.getD iv2 dF)
.ite (cO (decide (e0_<0)) (decide (e0_>1000000000000000))) (
.r (.ret false)) (
.r (.cont ()))
def S_q9 (a0:TOp):SC Bool Bool :=
.ite (cO (decide (a0.M<1)) (decide (a0.M>9))) (
.r false) (
.a 3 1 1 (@F_qv_ok a0) fun rv1=>
.calld [rv1.2=true] dF (@F_qs_ok a0.E) fun rv3 cv3 =>
.reg 4 [] [(4,hc cv3 [] true)] [.clg 0 [rv1.2=true] cv3 [] 1 true]<|
.ite (cO (bif rv1.2 then (cO (cO (!rv3) (decide (a0.H<0))) (decide (a0.H>99))) else false) (bif (!rv1.2) then (cO (!(a0.E==([]))) (a0.H != 0)) else false)) (
.r false) (
.range (rv1.1.length:Int) rv1.1.length rfl (.slot 3) 53 [1,3,51,52] (fun (_:Unit)=>[]) (fun _=>[]) () (S_q9_b1 rv1) (fun _ => 
.a 12 7 1 (@F_q1_ok a0.M a0.E a0.H rv1.1) fun rv4=>
.r ((rv4.M==a0.M)&&((rv4.E==a0.E)&&((rv4.H==a0.H)&&((rv4.O==a0.O)&&((rv4.Y==a0.Y)&&((rv4.I==a0.I)&&((rv4.T==a0.T)&&((rv4.W==a0.W)&&((rv4.N==a0.N)&&((rv4.Q==a0.Q)&&true))))))))))) id))
def F_q9 (a0:TOp):=(S_q9 a0).den
theorem F_q9_ok {a0:TOp}:FO (F_q9 a0) 16 [(TOp.d a0)] [] vb NL:=fO (s:=S_q9 a0) Tryz.func16
abbrev R_q4:=TOf×TOf×Bool
def S_q4_b1 (a0:TJo) (iv1:Nat) (sv2:TOf×TOf×Int):SC R_q4 (Step (TOf×TOf×Int) R_q4) :=
.reg 7 [] [] [.w iv1,.ev 0]<|
 let e1_:=(sv2.2.2 != 0)
 let e2_:=(a0.D.getD iv1 dF)
.calld [e1_=false] dF (@F_q9_ok e2_) fun rv3 cv3 =>
.reg 8 [] [(4,hc cv3 [] true)] [.clg 0 [e1_=false] cv3 [] 6 true]<|
.ite (cO e1_ (!rv3)) (
 let e0_:=(⟨0,[],(⟨[],[],[],[]⟩:TBo)⟩:TOf)
.reg 9 [] [(0,hv (TOf.d e0_)),(1,hv (TOf.d e0_))] [.pf cz2,.pf cz2]<|
.r (.ret (e0_,e0_,false))) (
.a 10 2 6 (@F_q2g_ok sv2.1 e2_) fun rv4=>
.ite (decide ((iv1:Int)<a0.R)) (
.r (.cont (rv4.1,rv4.1,rv4.2))) (
.r (.cont (rv4.1,sv2.2.1,rv4.2))))
def S_q4 (a0:TJo):SC R_q4 R_q4 :=
 let e0_:=(⟨0,[],(⟨[],[],[],[]⟩:TBo)⟩:TOf)
 let e1_:=(TOf.b e0_)
.reg 0 [] [(1,{ obs:=[(1,e1_)] }),(2,{ obs:=[(2,e1_)] })] [.pf zx,.pf zx]<|
.ite (cO (cO (decide ((a0.D.length:Int)>400)) (decide (a0.R<0))) (decide (a0.R>(a0.D.length:Int)))) (
.reg 2 [] [(0,hv (TOf.d e0_)),(1,hv (TOf.d e0_))] [.pf cz2,.pf cz2]<|
.r (e0_,e0_,false)) (
.call (@F_q2f_ok a0.U) fun rv5 cv5=>
.reg 3 [] [(2,hc cv5 [] true),(6,{ obs:=[(3,e1_)] })] [.cl 0 cv5 [] 3 true,.pf zx]<|
.reg 4 [] [(1,{ obs:=[(4,e1_)] })] [.pf zx]<|
.range (a0.D.length:Int) a0.D.length rfl (.slot 37) 39 [1,2,3,5,7,37,38] (fun (sv2:TOf×TOf×Int)=>[(6,(vi sv2.2.2))]) (fun sv2=>[(3,(TOf.b sv2.1)),(4,(TOf.b sv2.2.1))]) (rv5.1,rv5.1,rv5.2) (S_q4_b1 a0) (fun sv2 => 
.reg 14 [4,5] [] []<|
.r (sv2.1,sv2.2.1,(sv2.2.2==0))) id)
def F_q4 (a0:TJo):=(S_q4 a0).den
theorem F_q4_ok {a0:TJo}:FO (F_q4 a0) 48 [(TJo.d a0)] [] (fun x=>(AV.tup [(TOf.d x.1),(TOf.d x.2.1),(vb x.2.2)])) NL:=fO (s:=S_q4 a0) Tryz.func48
def S_q25 (a0:TJo):SC Bool Bool :=
.call (@F_q4_ok a0) fun rv1 cv1=>
 let e0_:=(TOf.b (⟨0,[],(⟨[],[],[],[]⟩:TBo)⟩:TOf))
.reg 1 [] [(1,hc cv1 [] true),(6,{ obs:=[(1,e0_)] }),(7,{ obs:=[(2,e0_)] })] [.cl 0 cv1 [] 1 true,.pf zx,.pf zx]<|
.r rv1.2.2
def F_q25 (a0:TJo):=(S_q25 a0).den
theorem F_q25_ok {a0:TJo}:FO (F_q25 a0) 32 [(TJo.d a0)] [] vb NL:=fO (s:=S_q25 a0) Tryz.func32
def S_q3h (a0:TJo):SC TJo TJo :=
.reg 0 [] [(1,{ obs:=[(1,(TJo.b (⟨0,[],0⟩:TJo)))] })] [.pf cz5]<|
.a 1 1 2 (@F_q25_ok a0) fun rv1=>
.cut none [1,2] (fun (_:TJo)=>[]) (fun sv2=>[(0,(TJo.b sv2))]) (
.ite rv1 (
.r (.next (⟨a0.U,a0.D,(a0.D.length:Int)⟩:TJo))) (
.r (.next a0))) fun sv2=>
.r sv2
def F_q3h (a0:TJo):=(S_q3h a0).den
theorem F_q3h_ok {a0:TJo}:FO (F_q3h a0) 41 [(TJo.d a0)] [] (fun x=>(TJo.d x)) NL:=fO (s:=S_q3h a0) Tryz.func41
end
end Go.Proofs.YtpbnkbjhlhlaiaaGreatDoor
/- What the functions compute,and that their calls return it. No condition. -/
namespace Go.Proofs.YtpbnkbjhlhlaiaaGreatDoor
open Go Go.TA
open Go.IntKind (i64)
noncomputable section
set_option maxRecDepth 100000
abbrev R_qg:=TJo×TTape
def S_qg_b1 (sv1:TTape×Int×Int×(List TOp)×TOf×Int×Int):SC R_qg (Step (TTape×Int×Int×(List TOp)×TOf×Int×Int) R_qg) :=
.ite (decide (sv1.2.2.2.2.2.2>0)) (
.call (@F_q1e_ok sv1.2.2.2.2.1 sv1.2.2.2.2.2.1 sv1.1) fun rv2 cv2=>
.k 7 3 cv2 [0] 5 false<|
.cut none [0,6,7,8,10,11,12] (fun (_:TTape×TOp)=>[]) (fun sv3=>[(0,(TTape.b sv3.1)),(5,(TOp.b sv3.2))]) (
.ite ((sv1.2.2.2.2.1.G.length:Int)==0) (
.call (@F_qz_ok ([300,600]:List Int) rv2.2) fun rv4 cv4=>
.reg 9 [] [(1,hv (vl ([300,600]:List Int))),(2,hc cv4 [0] false)] [.pf (zi (DV.i .i64) ([300,600]:List Int)),.cl 0 cv4 [0] 6 false]<|
.r (.next (rv4.2,(⟨8,[49],12,0,0,0,0,0,rv4.1,0⟩:TOp)))) (
.r (.next (rv2.2,rv2.1)))) fun sv3=>
.call (@F_q7_ok 20 sv3.1) fun rv5 cv5=>
 let e4_:=([0,1,rv5.1]:List Int)
.call (@F_qz_ok e4_ rv5.2) fun rv6 cv6=>
.reg 10 [] [(3,hc cv5 [0] false),(4,hv (vl e4_)),(5,hc cv6 [0] false)] [.cl 1 cv5 [0] 6 false,.pf (zi (DV.i .i64) e4_),.cl 0 cv6 [0] 6 false]<|
.call (@F_q2g_ok sv1.2.2.2.2.1 sv3.2) fun rv7 cv7=>
.reg 11 [] [(2,hc cv7 [] true),(6,{ obs:=[(6,(TOf.b (⟨0,[],(⟨[],[],[],[]⟩:TBo)⟩:TOf)))] })] [.cl 0 cv7 [] 6 true,.pf zx]<|
 let e1_:=(i64.wrap (sv1.2.2.2.2.2.1+rv6.1))
 let e2_:=(i64.wrap (sv1.2.2.2.2.2.2-1))
.ite (rv7.2 != 0) (
.r (.cont (rv6.2,sv1.2.1,sv1.2.2.1,sv1.2.2.2.1,sv1.2.2.2.2.1,e1_,e2_))) (
.guard [(sv1.2.2.2.1.length+1) * (2 * 88)<=2 ^ 48]<|
 let e3_:=([sv3.2]:List TOp)
 let e0_:=(sv1.2.2.2.1++e3_)
.reg 14 [] [(3,hv (AV.d (eL TOp.e e3_))),(4,{ cast:=some (AV.ref 3 (e0_.length) 0 (e0_.length)),obs:=[(3,(eS 10 TOp.e e0_))] })] [.pf (zi TOp.e e3_),.e sv1.2.2.2.1.length,.e sv1.2.2.2.1.length,.pf (p:=∀ k,k<1->(TOp.d (e3_.getD k dF)).wd=10) (fun _ _=>rfl),.ev 0,.pf (z16 (o:=3) (l:=sv1.2.2.2.1) (x:=e3_)),.pf (z15 (sz:=10) (e:=TOp.e) (l:=sv1.2.2.2.1) (x:=e3_))]<|
.call (@F_q7_ok 4 rv6.2) fun rv8 cv8=>
.k 15 1 cv8 [0] 7 false<|
.ite (rv8.1==0) (
.r (.cont (rv8.2,sv1.2.1,(e0_.length:Int),e0_,rv7.1,e1_,e2_))) (
.r (.cont (rv8.2,sv1.2.1,sv1.2.2.1,e0_,rv7.1,e1_,e2_))))) (
.r (.brk (sv1.1,sv1.2.1,sv1.2.2.1,sv1.2.2.2.1,sv1.2.2.2.2.1,sv1.2.2.2.2.2.1,sv1.2.2.2.2.2.2)))
def S_qg (a1:Int) (a2:Int) (p0:TTape):SC R_qg R_qg :=
 let e1_:=(TJo.b (⟨0,[],0⟩:TJo))
.reg 0 [] [(0,{ obs:=[(1,e1_)] })] [.pf cz5]<|
.reg 1 [] [(1,{ h:=.obj }),(2,{ h:=.obj })] []<|
 let e0_:=[(0,(vp 0)),(1,(vi a1)),(2,(vi a2)),(6,(vp 1)),(7,(vp 2))]
.sh (A:=True) (.pf trivial) e0_ e0_ [(TTape.b p0),e1_,(Ob.box (AV.agg [(vi a1),(AV.full 0 fun _=>DV.b false),(vi 0)]))] [(TTape.b p0),e1_,(Ob.box (AV.agg [(vi a1),(AV.ref 3 0 0 0),(vi 0)])),(eS 10 TOp.e ([]:List TOp))] (fun _=>(z54 (sz:=10) (f:=fun j=>AV.d (TOp.e (([]:List TOp).getD j dF))) (.keep _ _ _ _ (y1l rfl) (.keep _ _ _ _ (y1l rfl) (.box _ _ _ _ _ (y1l rfl) (TrV.agg (TrL.cons (TrV.keep _) (TrL.cons TrV.born (TrL.cons (TrV.keep _) TrL.nil)))) (.nil _)))))) (z24 (k:=0) rfl (TrS.keep _) (z24 (k:=1) rfl (TrS.keep _) (z24 (k:=2) rfl (TrS.keep _) (z24 (k:=3) rfl (TrS.keep _) (z24 (k:=4) rfl (TrS.keep _) z5i)))))<|
.call (@F_q2f_ok a1) fun rv9 cv9=>
.reg 2 [] [(1,hc cv9 [] true),(5,{ obs:=[(4,(TOf.b (⟨0,[],(⟨[],[],[],[]⟩:TBo)⟩:TOf)))] })] [.cl 0 cv9 [] 4 true,.pf zx]<|
.call (@F_q7_ok 30 p0) fun rv10 cv10=>
.k 3 1 cv10 [0] 5 false<|
.call (@F_q7_ok (i64.wrap (a2+1)) rv10.2) fun rv11 cv11=>
.k 4 3 cv11 [0] 5 false<|
.iter [0,6,7,8] (fun (sv1:TTape×Int×Int×(List TOp)×TOf×Int×Int)=>[(10,(vi sv1.2.2.2.2.2.1)),(11,(vi sv1.2.2.2.2.2.2))]) (fun sv1=>[(0,(TTape.b sv1.1)),(2,(Ob.box (AV.agg [(vi sv1.2.1),(AV.ref 3 sv1.2.2.2.1.length 0 sv1.2.2.2.1.length),(vi sv1.2.2.1)]))),(3,(eS 10 TOp.e sv1.2.2.2.1)),(4,(TOf.b sv1.2.2.2.2.1))]) (rv11.2,a1,0,([]:List TOp),rv9.1,(i64.wrap (4320+rv10.1)),rv11.1) S_qg_b1 (fun sv1 =>
.call (@F_q7_ok 3 sv1.1) fun rv12 cv12=>
.k 17 1 cv12 [0] 5 false<|
 let e2_:=(⟨sv1.2.1,sv1.2.2.2.1,sv1.2.2.1⟩:TJo)
.ite (rv12.1==0) (
.guard [sv1.2.2.2.1.length<2 ^ 63]<|
.frz 3 (.ev 0) none [] [2]<|
.a 18 1 5 (@F_q3h_ok e2_) fun rv13=>
.r (rv13,rv12.2)) (
.guard [sv1.2.2.2.1.length<2 ^ 63]<|
.reg 19 [] [] []<|
.frz 3 (.ev 0) none [] [1,2]<|
.r (e2_,rv12.2))) id
def F_qg (a1:Int) (a2:Int) (p0:TTape):=(S_qg a1 a2 p0).den
theorem F_qg_ok {a1:Int} {a2:Int} {p0:TTape}:FO (F_qg a1 a2 p0) 10 [(vp 0),(vi a1),(vi a2)] [(TTape.b p0)] (fun x=>(TJo.d x.1)) (fun x=>[(TTape.b x.2)]):=fO (s:=S_qg a1 a2 p0) Tryz.func10
def S_q26 (a0:TJo):SC (TOf×Int) (TOf×Int) :=
 let e0_:=(⟨0,[],(⟨[],[],[],[]⟩:TBo)⟩:TOf)
 let e1_:=(TOf.b e0_)
.reg 0 [] [(1,{ obs:=[(1,e1_)] })] [.pf zx]<|
.call (@F_q4_ok a0) fun rv1 cv1=>
.reg 1 [] [(1,hc cv1 [] true),(6,{ obs:=[(2,e1_)] }),(7,{ obs:=[(3,e1_)] })] [.cl 0 cv1 [] 2 true,.pf zx,.pf zx]<|
.ite (!rv1.2.2) (
.reg 3 [] [(0,hv (TOf.d e0_))] [.pf cz2]<|
.r (e0_,1)) (
.r (rv1.1,0))
def F_q26 (a0:TJo):=(S_q26 a0).den
theorem F_q26_ok {a0:TJo}:FO (F_q26 a0) 12 [(TJo.d a0)] [] (fun x=>(AV.tup [(TOf.d x.1),(vi x.2)])) NL:=fO (s:=S_q26 a0) Tryz.func12
abbrev R_q3i:=(List Y8)
def S_q3i:SC R_q3i R_q3i :=
.reg 1 [] [(0,hv (AV.d (eL DV.str ([[],[114,101,115,101,114,118,101],[99,111,109,109,105,116],[118,101,114,105,102,121],[111,114,100,101,114],[114,101,108,101,97,115,101],[100,114,111,112],[114,101,116,117,114,110],[104,101,97,114],[114,101,116,117,114,110,101,100]]:List Y8))))] [.pf (zi DV.str ([[],[114,101,115,101,114,118,101],[99,111,109,109,105,116],[118,101,114,105,102,121],[111,114,100,101,114],[114,101,108,101,97,115,101],[100,114,111,112],[114,101,116,117,114,110],[104,101,97,114],[114,101,116,117,114,110,101,100]]:List Y8))]<|
.r ([[],[114,101,115,101,114,118,101],[99,111,109,109,105,116],[118,101,114,105,102,121],[111,114,100,101,114],[114,101,108,101,97,115,101],[100,114,111,112],[114,101,116,117,114,110],[104,101,97,114],[114,101,116,117,114,110,101,100]]:List Y8)
def F_q3i:=(S_q3i).den
theorem F_q3i_ok :FO (F_q3i) 60 [] [] (fun x=>(AV.d (eL DV.str x))) NL:=fO (s:=S_q3i) Tryz.func60
abbrev R_qd:=Y8
def S_qd_b1 (rv1:R_qv) (iv2:Nat) (sv3:Y8):SC R_qd (Step Y8 R_qd) :=
.reg 9 [] [] [.w iv2,.ev 0]<|
.call (@F_q2i_ok (rv1.1.getD iv2 dF)) fun rv4 cv4=>
.guard [([32]).length+rv4.length<2 ^ 63,sv3.length+(([32])++rv4).length<2 ^ 63]<|
.reg 10 [] [(2,hc cv4 [] true)] [.cl 2 cv4 [] 1 true,.ev 0,.ev 1]<|
.c (sv3++(([32])++rv4))
def S_qd (a0:TOp):SC R_qd R_qd :=
.a 1 1 1 (@F_q9_ok a0) fun rv5=>
.ite (!rv5) (
.r ([])) (
.call (@F_q3i_ok) fun rv6 cv6=>
.guard [(0:Int)<=a0.M,(a0.M).toNat<rv6.length]<|
.reg 3 [] [(0,hc cv6 [] true)] [.cl 2 cv6 [] 1 true,.ev 0,.ev 1]<|
.a 4 1 1 (@F_qv_ok a0) fun rv1=>
.cut none [4] (fun (sv7:Y8)=>[(3,(AV.d (DV.str sv7)))]) (fun _=>[]) (
 let e0_:=(rv6.getD ((a0.M).toNat) dF)
.ite rv1.2 (
.call (@F_q2i_ok a0.H) fun rv8 cv8=>
 let e1_:=((([32])++a0.E)++([32]))
.guard [([32]).length+a0.E.length<2 ^ 63,(([32])++a0.E).length+([32]).length<2 ^ 63,e1_.length+rv8.length<2 ^ 63,e0_.length+(e1_++rv8).length<2 ^ 63]<|
.reg 6 [] [(7,hc cv8 [] true)] [.ev 0,.ev 1,.cl 4 cv8 [] 1 true,.ev 2,.ev 3]<|
.r (.next (e0_++(e1_++rv8)))) (
.r (.next e0_))) fun sv7=>
.range (rv1.1.length:Int) rv1.1.length rfl (.slot 32) 34 [32,33] (fun (sv3:Y8)=>[(3,(AV.d (DV.str sv3)))]) (fun _=>[]) sv7 (S_qd_b1 rv1) (fun sv3 => 
.r sv3) id)
def F_qd (a0:TOp):=(S_qd a0).den
theorem F_qd_ok {a0:TOp}:FO (F_qd a0) 18 [(TOp.d a0)] [] (fun x=>(AV.d (DV.str x))) NL:=fO (s:=S_qd a0) Tryz.func18
abbrev R_q27:=Y8×TTape
def S_q27 (a1:Y8) (a2:(List Y8)) (p0:TTape):SC R_q27 R_q27 :=
 let e5_:=(a1.length:Int)
.call (@F_q7_ok (i64.wrap (e5_+1)) p0) fun rv1 cv1=>
.k 1 4 cv1 [0] 1 false<|
.call (@F_q7_ok (a2.length:Int) rv1.2) fun rv2 cv2=>
.guard [(0:Int)<=rv2.1,(rv2.1).toNat<a2.length]<|
.reg 2 [] [(4,hc cv2 [0] false)] [.cl 2 cv2 [0] 1 false,.ev 0,.ev 1]<|
.call (@F_q7_ok 3 rv2.2) fun rv3 cv3=>
 let e4_:=(i64.wrap (rv1.1+rv3.1))
 let e0_:=(if e4_<e5_ then e4_ else e5_)
 let e3_:=(a2.getD ((rv2.1).toNat) dF)
 let e6_:=(a1.take ((rv1.1).toNat))
 let e1_:=(e6_++e3_)
 let e2_:=((a1.drop ((e0_).toNat)).take (a1.length-(e0_).toNat))
.guard [(0:Int)<=rv1.1,(rv1.1).toNat<=a1.length,e6_.length+e3_.length<2 ^ 63,(0:Int)<=e0_,(e0_).toNat<=a1.length,e1_.length+e2_.length<2 ^ 63]<|
.reg 3 [10] [(10,hc cv3 [0] false)] [.ev 0,.ev 1,.ev 0,.ev 1,.ev 2,.ev 2,.cl 6 cv3 [0] 1 false,.ev 3,.ev 4,.ev 5]<|
.r ((e1_++e2_),rv3.2)
def F_q27 (a1:Y8) (a2:(List Y8)) (p0:TTape):=(S_q27 a1 a2 p0).den
theorem F_q27_ok {a1:Y8} {a2:(List Y8)} {p0:TTape}:FO (F_q27 a1 a2 p0) 19 [(vp 0),(AV.d (DV.str a1)),(AV.d (eL DV.str a2))] [(TTape.b p0)] (fun x=>(AV.d (DV.str x.1))) (fun x=>[(TTape.b x.2)]):=fO (s:=S_q27 a1 a2 p0) Tryz.func19
abbrev R_qk:=(List Y8)
def S_qk_b1 (a0:Y8) (sv1:(List Y8)×Int×Int):SC R_qk (Step ((List Y8)×Int×Int) R_qk) :=
.ite (decide (sv1.2.2<=(a0.length:Int))) (
 let e2_:=(sv1.2.2==(a0.length:Int))
.guard [AllP [e2_=false]->((0:Int)<=sv1.2.2),AllP [e2_=false]->((sv1.2.2).toNat<a0.length)]<|
.reg 6 [] [] [.ev 0,.ev 1]<|
 let e1_:=(i64.wrap (sv1.2.2+1))
.ite (cO e2_ (((a0.getD ((sv1.2.2).toNat) 0).toNat:Int)==32)) (
.guard [(0:Int)<=sv1.2.1,(0:Int)<=sv1.2.2,(sv1.2.1).toNat<=(sv1.2.2).toNat,(sv1.2.2).toNat<=a0.length,(sv1.1.length+1) * (2 * 16)<=2 ^ 48]<|
 let e0_:=([((a0.drop ((sv1.2.1).toNat)).take ((sv1.2.2).toNat-(sv1.2.1).toNat))]:List Y8)
.reg 7 [] [(5,hv (AV.d (eL DV.str e0_))),(6,{ h:=.obj,cast:=some (AV.ref 0 ((sv1.1++e0_).length) 0 ((sv1.1++e0_).length)),obs:=[(0,(eS 1 DV.str (sv1.1++e0_)))] })] [.ev 0,.ev 1,.ev 2,.ev 3,.pf (zi DV.str e0_),.e sv1.1.length,.e sv1.1.length,.pf (p:=∀ k,k<1->(AV.d (DV.str (e0_.getD k dF))).wd=1) (fun _ _=>rfl),.ev 4,.pf (z16 (o:=0) (l:=sv1.1) (x:=e0_)),.pf (z15 (sz:=1) (e:=DV.str) (l:=sv1.1) (x:=e0_))]<|
.r (.cont ((sv1.1++e0_),e1_,e1_))) (
.r (.cont (sv1.1,sv1.2.1,e1_)))) (
.r (.brk (sv1.1,sv1.2.1,sv1.2.2)))
def S_qk (a0:Y8):SC R_qk R_qk :=
.reg 3 [] [] []<|
.bor 1 (fun j=>AV.d (DV.str (([]:List Y8).getD j dF))) [3]<|
.iter [0] (fun (sv1:(List Y8)×Int×Int)=>[(3,(AV.ref 0 sv1.1.length 0 sv1.1.length)),(4,(vi sv1.2.1)),(5,(vi sv1.2.2))]) (fun sv1=>[(0,(eS 1 DV.str sv1.1))]) (([]:List Y8),0,0) (S_qk_b1 a0) (fun sv1 =>
.guard [sv1.1.length<2 ^ 63]<|
.reg 9 [] [] []<|
.frz 0 (.ev 0) none [2] []<|
.r sv1.1) id
def F_qk (a0:Y8):=(S_qk a0).den
theorem F_qk_ok {a0:Y8}:FO (F_qk a0) 63 [(AV.d (DV.str a0))] [] (fun x=>(AV.d (eL DV.str x))) NL:=fO (s:=S_qk a0) Tryz.func63
abbrev R_q4f:=Bool×(List Int)
def S_q4f (a0:TOp):SC R_q4f R_q4f :=
.ite (a0.M==1) (
 let e2_:=([a0.O,a0.I]:List Int)
.reg 3 [] [(4,{ h:=.obj,obs:=[(1,(eS 1 (DV.i .i64) e2_))] })] [.pf (z3v (sz:=1) (e:=(DV.i .i64)) (l:=e2_))]<|
.kill 0<|
.r (true,e2_)) (
.ite (a0.M==2) (
 let e0_:=([a0.Y,a0.O,a0.I,a0.T,a0.W]:List Int)
.reg 5 [] [(10,{ h:=.obj,obs:=[(1,(eS 1 (DV.i .i64) e0_))] })] [.pf (z3v (sz:=1) (e:=(DV.i .i64)) (l:=e0_))]<|
.kill 0<|
.r (false,e0_)) (
.ite (a0.M==3) (
 let e1_:=([a0.Y,a0.O,a0.I]:List Int)
.reg 7 [] [(6,{ h:=.obj,obs:=[(1,(eS 1 (DV.i .i64) e1_))] })] [.pf (z3v (sz:=1) (e:=(DV.i .i64)) (l:=e1_))]<|
.kill 0<|
.r (false,e1_)) (
.ite (a0.M==4) (
 let e3_:=([a0.Y,a0.O]:List Int)
.reg 9 [] [(4,{ h:=.obj,obs:=[(1,(eS 1 (DV.i .i64) e3_))] })] [.pf (z3v (sz:=1) (e:=(DV.i .i64)) (l:=e3_))]<|
.kill 0<|
.r (false,e3_)) (
.cut none [1,5] (fun (sv1:Bool)=>[(42,(vb sv1))]) (fun _=>[]) (
.ite (a0.M==5) (
.r (.next (a0.M==5))) (
.r (.next (a0.M==6)))) fun sv1=>
.ite sv1 (
 let e4_:=([a0.Y,a0.I]:List Int)
.reg 12 [] [(4,{ h:=.obj,obs:=[(1,(eS 1 (DV.i .i64) e4_))] })] [.pf (z3v (sz:=1) (e:=(DV.i .i64)) (l:=e4_))]<|
.kill 0<|
.r (false,e4_)) (
.ite (a0.M==7) (
 let e6_:=([a0.I]:List Int)
.reg 14 [] [(2,{ h:=.obj,obs:=[(1,(eS 1 (DV.i .i64) e6_))] })] [.pf (z3v (sz:=1) (e:=(DV.i .i64)) (l:=e6_))]<|
.kill 0<|
.r (true,e6_)) (
.ite (a0.M==8) (
 let e5_:=([a0.N,a0.Q]:List Int)
.reg 16 [] [(4,{ h:=.obj,obs:=[(1,(eS 1 (DV.i .i64) e5_))] })] [.pf (z3v (sz:=1) (e:=(DV.i .i64)) (l:=e5_))]<|
.kill 0<|
.r (true,e5_)) (
 let e7_:=([a0.Y]:List Int)
.reg 17 [] [(2,{ h:=.obj,obs:=[(1,(eS 1 (DV.i .i64) e7_))] })] [.pf (z3v (sz:=1) (e:=(DV.i .i64)) (l:=e7_))]<|
.kill 0<|
.r (false,e7_))))))))
def F_q4f (a0:TOp):=(S_q4f a0).den
theorem F_q4f_ok {a0:TOp}:FO (F_q4f a0) 50 [(TOp.d a0)] [] (fun x=>(AV.tup [(AV.ref 1 x.2.length 0 x.2.length),(vb x.1)])) (fun x=>[Ob.dead,(eS 1 (DV.i .i64) x.2)]):=fO (s:=S_q4f a0) Tryz.func50
abbrev R_q6:=Int×Bool
def S_q6_b1 (a0:Y8) (sv1:Int×Int):SC R_q6 (Step (Int×Int) R_q6) :=
.ite (decide (sv1.2<(a0.length:Int))) (
 let e0_:=((a0.getD ((sv1.2).toNat) 0).toNat:Int)
 let e1_:=(decide (e0_<48))
.guard [(0:Int)<=sv1.2,(sv1.2).toNat<a0.length,AllP [e1_=false]->((0:Int)<=sv1.2),AllP [e1_=false]->((sv1.2).toNat<a0.length)]<|
.reg 7 [] [] [.ev 0,.ev 1,.ev 2,.ev 3]<|
.ite (cO e1_ (decide (e0_>57))) (
.r (.ret (0,false))) (
.reg 9 [] [] [.ev 1,.ev 2]<|
.r (.cont ((i64.wrap ((i64.wrap (10 * sv1.1))+(i64.wrap (IntKind.u8.wrap (e0_-48))))),(i64.wrap (sv1.2+1)))))) (
.r (.brk (sv1.1,sv1.2)))
def S_q6 (a0:Y8):SC R_q6 R_q6 :=
 let e2_:=(a0.length:Int)
 let e0_:=(cO (decide (e2_<1)) (decide (e2_>15)))
 let e1_:=(decide (e2_>1))
.guard [AllP [e1_=true,e0_=false]->(0<a0.length)]<|
.reg 1 [] [] [.pf (p:=AllP [e1_=true,e0_=false]->((0:Int)<=0)) (fun _=>dk),.ev 0]<|
.ite (cO e0_ (bif e1_ then (((a0.getD 0 0).toNat:Int)==48) else false)) (
.r (0,false)) (
.iter [0] (fun (sv1:Int×Int)=>[(4,(vi sv1.1)),(5,(vi sv1.2))]) (fun _=>[]) (0,0) (S_q6_b1 a0) (fun sv1 =>
.r (sv1.1,true)) id)
def F_q6 (a0:Y8):=(S_q6 a0).den
theorem F_q6_ok {a0:Y8}:FO (F_q6 a0) 96 [(AV.d (DV.str a0))] [] (fun x=>(AV.tup [(vi x.1),(vb x.2)])) NL:=fO (s:=S_q6 a0) Tryz.func96
def S_q1l (a0:Y8):SC Int Int :=
.ite ((a0.length:Int)==16) (
.call (@F_q6_ok (a0.take 8)) fun rv1 cv1=>
.guard [8<=a0.length]<|
.reg 2 [] [(2,hc cv1 [] true)] [.pf (p:=(0:Int)<=8) dk,.ev 0,.cl 1 cv1 [] 0 true]<|
 let e0_:=((a0.drop 8).take (a0.length-8))
.call (@F_q6_ok (([49])++e0_)) fun rv2 cv2=>
.guard [([49]).length+e0_.length<2 ^ 63]<|
.reg 3 [] [(3,hc cv2 [] true)] [.pf (p:=(0:Int)<=8) dk,.ev 2,.ev 0,.cl 1 cv2 [] 0 true]<|
.ite (bif rv1.2 then rv2.2 else false) (
.r (i64.wrap ((i64.wrap ((i64.wrap (rv1.1 * 100000000))+rv2.1))-100000000))) (
.r (-1))) (
.a 7 1 0 (@F_q6_ok a0) fun rv3=>
.ite (!rv3.2) (
.r (-1)) (
.r rv3.1))
def F_q1l (a0:Y8):=(S_q1l a0).den
theorem F_q1l_ok {a0:Y8}:FO (F_q1l a0) 64 [(AV.d (DV.str a0))] [] vi NL:=fO (s:=S_q1l a0) Tryz.func64
def S_qa (a0:Int) (a1:Y8) (a2:Int) (p0:(List Int)):SC TOp TOp :=
.cut (some 0) [8,9] (fun (_:TOp)=>[]) (fun sv1=>[(2,(TOp.b sv1))]) (
 let e0_:=(p0.getD (0+0) dF)
 let e1_:=(p0.getD (0+1) dF)
.ite (a0==1) (
.guard [0<p0.length,(0+0)<p0.length,1<p0.length,(0+1)<p0.length]<|
.reg 5 [7,9] [] [.e p0.length,.pf (p:=(0:Int)<=0) dk,.ev 0,.e p0.length,.ev 1,.e p0.length,.pf (p:=(0:Int)<=1) dk,.ev 2,.e p0.length,.pf (p:=(0:Int)<=1) dk,.ev 2,.e p0.length,.ev 3,.e p0.length,.ev 3]<|
.r (.next (⟨a0,a1,a2,e0_,0,e1_,0,0,0,0⟩:TOp))) (
 let e2_:=(p0.getD (0+2) dF)
.ite (a0==2) (
.guard [0<p0.length,(0+0)<p0.length,1<p0.length,(0+1)<p0.length,2<p0.length,(0+2)<p0.length,3<p0.length,(0+3)<p0.length,4<p0.length,(0+4)<p0.length]<|
.reg 7 [16,18,20,22,24] [] [.e p0.length,.pf (p:=(0:Int)<=0) dk,.ev 0,.e p0.length,.ev 1,.e p0.length,.pf (p:=(0:Int)<=1) dk,.ev 2,.e p0.length,.pf (p:=(0:Int)<=1) dk,.ev 2,.e p0.length,.ev 3,.e p0.length,.ev 3,.e p0.length,.pf (p:=(0:Int)<=2) dk,.ev 4,.e p0.length,.pf (p:=(0:Int)<=2) dk,.ev 4,.e p0.length,.pf (p:=(0:Int)<=2) dk,.ev 4,.e p0.length,.ev 5,.e p0.length,.ev 5,.e p0.length,.ev 5,.e p0.length,.pf (p:=(0:Int)<=3) dk,.ev 6,.e p0.length,.pf (p:=(0:Int)<=3) dk,.ev 6,.e p0.length,.pf (p:=(0:Int)<=3) dk,.ev 6,.e p0.length,.pf (p:=(0:Int)<=3) dk,.ev 6,.e p0.length,.ev 7,.e p0.length,.ev 7,.e p0.length,.ev 7,.e p0.length,.ev 7,.e p0.length,.pf (p:=(0:Int)<=4) dk,.ev 8,.e p0.length,.pf (p:=(0:Int)<=4) dk,.ev 8,.e p0.length,.pf (p:=(0:Int)<=4) dk,.ev 8,.e p0.length,.pf (p:=(0:Int)<=4) dk,.ev 8,.e p0.length,.pf (p:=(0:Int)<=4) dk,.ev 8,.e p0.length,.ev 9,.e p0.length,.ev 9,.e p0.length,.ev 9,.e p0.length,.ev 9,.e p0.length,.ev 9]<|
.r (.next (⟨a0,a1,a2,e1_,e0_,e2_,(p0.getD (0+3) dF),(p0.getD (0+4) dF),0,0⟩:TOp))) (
.ite (a0==3) (
.guard [0<p0.length,(0+0)<p0.length,1<p0.length,(0+1)<p0.length,2<p0.length,(0+2)<p0.length]<|
.reg 9 [10,12,14] [] [.e p0.length,.pf (p:=(0:Int)<=0) dk,.ev 0,.e p0.length,.ev 1,.e p0.length,.pf (p:=(0:Int)<=1) dk,.ev 2,.e p0.length,.pf (p:=(0:Int)<=1) dk,.ev 2,.e p0.length,.ev 3,.e p0.length,.ev 3,.e p0.length,.pf (p:=(0:Int)<=2) dk,.ev 4,.e p0.length,.pf (p:=(0:Int)<=2) dk,.ev 4,.e p0.length,.pf (p:=(0:Int)<=2) dk,.ev 4,.e p0.length,.ev 5,.e p0.length,.ev 5,.e p0.length,.ev 5]<|
.r (.next (⟨a0,a1,a2,e1_,e0_,e2_,0,0,0,0⟩:TOp))) (
.ite (a0==4) (
.guard [0<p0.length,(0+0)<p0.length,1<p0.length,(0+1)<p0.length]<|
.reg 11 [7,9] [] [.e p0.length,.pf (p:=(0:Int)<=0) dk,.ev 0,.e p0.length,.ev 1,.e p0.length,.pf (p:=(0:Int)<=1) dk,.ev 2,.e p0.length,.pf (p:=(0:Int)<=1) dk,.ev 2,.e p0.length,.ev 3,.e p0.length,.ev 3]<|
.r (.next (⟨a0,a1,a2,e1_,e0_,0,0,0,0,0⟩:TOp))) (
.cut none [3,8,9,14] (fun (sv2:Bool)=>[(75,(vb sv2))]) (fun _=>[]) (
.ite (a0==5) (
.r (.next (a0==5))) (
.r (.next (a0==6)))) fun sv2=>
.ite sv2 (
.guard [0<p0.length,(0+0)<p0.length,1<p0.length,(0+1)<p0.length]<|
.reg 14 [7,9] [] [.e p0.length,.pf (p:=(0:Int)<=0) dk,.ev 0,.e p0.length,.ev 1,.e p0.length,.pf (p:=(0:Int)<=1) dk,.ev 2,.e p0.length,.pf (p:=(0:Int)<=1) dk,.ev 2,.e p0.length,.ev 3,.e p0.length,.ev 3]<|
.r (.next (⟨a0,a1,a2,0,e0_,e1_,0,0,0,0⟩:TOp))) (
.ite (a0==7) (
.guard [0<p0.length,(0+0)<p0.length]<|
.reg 16 [] [] [.e p0.length,.pf (p:=(0:Int)<=0) dk,.ev 0,.e p0.length,.ev 1]<|
.r (.next (⟨a0,a1,a2,0,0,e0_,0,0,0,0⟩:TOp))) (
.ite (a0==8) (
.guard [0<p0.length,(0+0)<p0.length,1<p0.length,(0+1)<p0.length]<|
.reg 18 [7,9] [] [.e p0.length,.pf (p:=(0:Int)<=0) dk,.ev 0,.e p0.length,.ev 1,.e p0.length,.pf (p:=(0:Int)<=1) dk,.ev 2,.e p0.length,.pf (p:=(0:Int)<=1) dk,.ev 2,.e p0.length,.ev 3,.e p0.length,.ev 3]<|
.r (.next (⟨a0,a1,a2,0,0,0,0,0,e0_,e1_⟩:TOp))) (
.guard [0<p0.length,(0+0)<p0.length]<|
.reg 3 [] [] [.e p0.length,.pf (p:=(0:Int)<=0) dk,.ev 0,.e p0.length,.ev 1]<|
.r (.next (⟨a0,a1,a2,0,e0_,0,0,0,0,0⟩:TOp)))))))))) fun sv1=>
.r sv1
def F_qa (a0:Int) (a1:Y8) (a2:Int) (p0:(List Int)):=(S_qa a0 a1 a2 p0).den
theorem F_qa_ok {a0:Int} {a1:Y8} {a2:Int} {p0:(List Int)}:FO (F_qa a0 a1 a2 p0) 52 [(vi a0),(AV.d (DV.str a1)),(vi a2),(AV.ref 0 p0.length 0 p0.length)] [(eS 1 (DV.i .i64) p0)] (fun x=>(TOp.d x)) (fun _=>[(eS 1 (DV.i .i64) p0)]):=fO (s:=S_qa a0 a1 a2 p0) Tryz.func52
abbrev R_qe:=TOp×Int
def S_qe_b1 (rv1:R_qk) (rv2:R_q3i) (iv3:Nat) (sv4:Int):SC R_qe (Step (Int) R_qe) :=
.reg 7 [] [] [.w iv3,.ev 0]<|
 let e0_:=(decide ((iv3:Int)>0))
.guard [AllP [e0_=true]->(0<rv1.length)]<|
.reg 8 [] [] [.pf (p:=AllP [e0_=true]->((0:Int)<=0)) (fun _=>dk),.ev 0]<|
.ite (bif e0_ then ((rv2.getD iv3 dF)==(rv1.getD 0 dF)) else false) (
.r (.cont (iv3:Int))) (
.c sv4)
def S_qe_b2 (a0:Y8) (sv4:Int) (rv5:R_q4f) (sv6:(List Y8)×Y8×Int) (iv7:Nat) (sv8:(List Int)):SC R_qe (Step ((List Int)) R_qe) :=
.guard [iv7<sv8.length,(0+iv7)<sv8.length]<|
 let e1_:=(sv8.set (0+iv7) (-1))
 let e11_:=(eS 1 (DV.i .i64) e1_)
.reg 20 [] [(3,{ obs:=[(2,e11_)] })] [.e sv8.length,.w iv7,.ev 0,.e sv8.length,.ev 1,.pf (zu (sz:=1) (e:=(DV.i .i64)) (l:=sv8) (i:=(0+iv7)) (x:=(-1)) (fun _=>rfl))]<|
 let e6_:=(DV.i .i64 0)
 let e0_:=(bx (DV.agg [e6_,(DV.str ([])),e6_,e6_,e6_,e6_,e6_,e6_,e6_,e6_]))
 let e3_:=(4,(AV.d (eL DV.str sv6.1)))
 let e4_:=(10,(AV.d (DV.str sv6.2.1)))
 let e5_:=(62,(vi (rv5.2.length:Int)))
 let e7_:=(0,(AV.d (DV.str a0)))
 let e8_:=(vi (iv7:Int))
 let e9_:=(8,(AV.ref 2 (e1_.length) 0 (e1_.length)))
 let e10_:=(11,(vi sv6.2.2))
.cst (A:=True) (.pf trivial) [e7_,(2,(vp 0)),e3_,(5,(vi sv4)),(8,(AV.ref 2 sv8.length 0 sv8.length)),e4_,e10_,(12,e8_),e5_,(63,e8_)] [e7_,(2,(vp 0)),e3_,(5,(vi sv4)),e9_,e4_,e10_,(12,e8_),e5_,(63,e8_)] [e0_,Ob.dead,e11_] [e0_,Ob.dead,e11_] (fun _=>⟨by simp +zetaDelta only[yl],by rfl⟩)<|
.ite (decide ((iv7:Int)<(sv6.1.length:Int))) (
.call (@F_q1l_ok (sv6.1.getD iv7 dF)) fun rv9 cv9=>
.guard [iv7<sv6.1.length,iv7<e1_.length,(0+iv7)<e1_.length]<|
 let e2_:=(eS 1 (DV.i .i64) (e1_.set (0+iv7) rv9))
.reg 22 [] [(6,hc cv9 [] true),(8,{ obs:=[(2,e2_)] })] [.w iv7,.ev 0,.cl 3 cv9 [] 3 true,.e (e1_.length),.w iv7,.ev 1,.e (e1_.length),.ev 2,.pf (zu (sz:=1) (e:=(DV.i .i64)) (l:=e1_) (i:=(0+iv7)) (x:=rv9) (fun _=>rfl))]<|
 let e12_:=((e1_.set (0+iv7) rv9).length)
.cst (A:=True) (.pf trivial) [e7_,(2,(vp 0)),e3_,(5,(vi sv4)),e9_,e4_,e10_,e5_,(63,e8_)] [e7_,(2,(vp 0)),e3_,(5,(vi sv4)),(8,(AV.ref 2 e12_ 0 e12_)),e4_,e10_,e5_,(63,e8_)] [e0_,Ob.dead,e2_] [e0_,Ob.dead,e2_] (fun _=>⟨by simp +zetaDelta only[yl],by rfl⟩)<|
.r (.cont (e1_.set (0+iv7) rv9))) (
.c e1_)
def S_qe (a0:Y8):SC R_qe R_qe :=
 let e1_:=(⟨0,[],0,0,0,0,0,0,0,0⟩:TOp)
.ite (decide ((a0.length:Int)>200)) (
.r (e1_,4)) (
.a 3 1 1 (@F_qk_ok a0) fun rv1=>
.a 5 0 1 (@F_q3i_ok) fun rv2=>
.range (rv2.length:Int) rv2.length rfl (.slot 20) 22 [0,2,4,20,21] (fun (sv4:Int)=>[(5,(vi sv4))]) (fun _=>[]) 0 (S_qe_b1 rv1 rv2) (fun sv4 => 
.call (@F_q4f_ok (⟨sv4,[],0,0,0,0,0,0,0,0⟩:TOp)) fun rv5 cv5=>
.k 11 2 cv5 [] 1 false<|
.guard [1<=rv1.length]<|
.reg 12 [] [(1,hv (AV.d (eL DV.str (rv1.drop 1))))] [.pf (p:=(0:Int)<=1) dk,.ev 0,.pf (lvD DV.str rv1 1)]<|
.cut none [0,2,5,8] (fun (sv6:(List Y8)×Y8×Int)=>[(4,(AV.d (eL DV.str sv6.1))),(10,(AV.d (DV.str sv6.2.1))),(11,(vi sv6.2.2))]) (fun _=>[]) (
.ite (bif rv5.1 then (decide (((rv1.drop 1).length:Int)>=2)) else false) (
.call (@F_q1l_ok ((rv1.drop 1).getD 1 dF)) fun rv10 cv10=>
.guard [0<(rv1.drop 1).length,1<(rv1.drop 1).length]<|
.reg 15 [] [(6,hc cv10 [] true)] [.pf (p:=(0:Int)<=0) dk,.ev 0,.pf (p:=(0:Int)<=1) dk,.ev 1,.cl 2 cv10 [] 3 true]<|
.guard [2<=(rv1.drop 1).length]<|
.reg 16 [] [(1,hv (AV.d (eL DV.str ((rv1.drop 1).drop 2))))] [.pf (p:=(0:Int)<=2) dk,.ev 0,.pf (lvD DV.str (rv1.drop 1) 2)]<|
.r (.next (((rv1.drop 1).drop 2),((rv1.drop 1).getD 0 dF),rv10))) (
.r (.next ((rv1.drop 1),[],0)))) fun sv6=>
.guard [rv5.2.length<2 ^ 63]<|
.range (rv5.2.length:Int) rv5.2.length rfl (.why (.ev 0)) 63 [0,2,4,5,10,11,62] (fun (sv8:(List Int))=>[(8,(AV.ref 2 sv8.length 0 sv8.length))]) (fun sv8=>[(2,(eS 1 (DV.i .i64) sv8))]) rv5.2 (S_qe_b2 a0 sv4 rv5 sv6) (fun sv8 => 
.call (@F_qa_ok sv4 sv6.2.1 sv6.2.2 sv8) fun rv11 cv11=>
.k 24 4 cv11 [2] 3 true<|
.calld [(sv4==0)=false] dF (@F_q9_ok rv11) fun rv12 cv12 =>
 let e0_:=(cO (sv4==0) (!rv12))
.calld [e0_=false] dF (@F_qd_ok rv11) fun rv13 cv13 =>
.reg 25 [] [(4,hc cv12 [] true),(9,hc cv13 [] true)] [.clg 2 [(sv4==0)=false] cv12 [] 4 true,.clg 0 [e0_=false] cv13 [] 4 true]<|
.ite (cO e0_ (!(rv13==a0))) (
.r (e1_,4)) (
.r (rv11,0))) id) id)
def F_qe (a0:Y8):=(S_qe a0).den
theorem F_qe_ok {a0:Y8}:FO (F_qe a0) 21 [(AV.d (DV.str a0))] [] (fun x=>(AV.tup [(TOp.d x.1),(vi x.2)])) NL:=fO (s:=S_qe a0) Tryz.func21
abbrev R_q13:=Y8
def S_q13_b1 (a0:TJo) (iv1:Nat) (sv2:Y8):SC R_q13 (Step Y8 R_q13) :=
.reg 6 [] [] [.w iv1,.ev 0]<|
.call (@F_qd_ok ((a0.D.take ((a0.R).toNat)).getD iv1 dF)) fun rv3 cv3=>
.guard [rv3.length+([10]).length<2 ^ 63,sv2.length+(rv3++([10])).length<2 ^ 63]<|
.reg 7 [] [(2,hc cv3 [] true)] [.cl 2 cv3 [] 2 true,.ev 0,.ev 1]<|
.c (sv2++(rv3++([10])))
def S_q13 (a0:TJo):SC R_q13 R_q13 :=
.a 1 1 1 (@F_q25_ok a0) fun rv4=>
.ite (!rv4) (
.r ([])) (
.call (@F_q2i_ok a0.U) fun rv5 cv5=>
 let e0_:=(([111,102,102,105,99,101,32])++rv5)
.guard [([111,102,102,105,99,101,32]).length+rv5.length<2 ^ 63,e0_.length+([10]).length<2 ^ 63]<|
.reg 3 [] [(2,hc cv5 [] true)] [.cl 2 cv5 [] 1 true,.ev 0,.ev 1]<|
.guard [(0:Int)<=a0.R,(a0.R).toNat<=a0.D.length]<|
.reg 4 [] [(4,hv (AV.d (eL TOp.e (a0.D.take ((a0.R).toNat)))))] [.ev 0,.ev 1,.der (fun (h0:(a0.R).toNat<=a0.D.length)=>lvT TOp.e a0.D h0) 1]<|
.range ((a0.D.take ((a0.R).toNat)).length:Int) ((a0.D.take ((a0.R).toNat)).length) rfl (.slot 18) 20 [18,19] (fun (sv2:Y8)=>[(3,(AV.d (DV.str sv2)))]) (fun _=>[]) (e0_++([10])) (S_q13_b1 a0) (fun sv2 => 
.r sv2) id)
def F_q13 (a0:TJo):=(S_q13 a0).den
theorem F_q13_ok {a0:TJo}:FO (F_q13 a0) 22 [(TJo.d a0)] [] (fun x=>(AV.d (DV.str x))) NL:=fO (s:=S_q13 a0) Tryz.func22
abbrev R_qw:=(List Y8)
def S_qw_b1 (a0:Y8) (sv1:(List Y8)×Int×Int):SC R_qw (Step ((List Y8)×Int×Int) R_qw) :=
.ite (decide (sv1.2.2<(a0.length:Int))) (
.guard [(0:Int)<=sv1.2.2,(sv1.2.2).toNat<a0.length]<|
.reg 6 [] [] [.ev 0,.ev 1]<|
 let e1_:=(i64.wrap (sv1.2.2+1))
.ite (((a0.getD ((sv1.2.2).toNat) 0).toNat:Int)==10) (
.guard [(0:Int)<=sv1.2.1,(sv1.2.1).toNat<=(sv1.2.2).toNat,(sv1.2.2).toNat<=a0.length,(sv1.1.length+1) * (2 * 16)<=2 ^ 48]<|
 let e0_:=([((a0.drop ((sv1.2.1).toNat)).take ((sv1.2.2).toNat-(sv1.2.1).toNat))]:List Y8)
.reg 7 [] [(5,hv (AV.d (eL DV.str e0_))),(6,{ h:=.obj,cast:=some (AV.ref 0 ((sv1.1++e0_).length) 0 ((sv1.1++e0_).length)),obs:=[(0,(eS 1 DV.str (sv1.1++e0_)))] })] [.ev 0,.ev 5,.ev 1,.ev 2,.pf (zi DV.str e0_),.e sv1.1.length,.e sv1.1.length,.pf (p:=∀ k,k<1->(AV.d (DV.str (e0_.getD k dF))).wd=1) (fun _ _=>rfl),.ev 3,.pf (z16 (o:=0) (l:=sv1.1) (x:=e0_)),.pf (z15 (sz:=1) (e:=DV.str) (l:=sv1.1) (x:=e0_))]<|
.r (.cont ((sv1.1++e0_),e1_,e1_))) (
.r (.cont (sv1.1,sv1.2.1,e1_)))) (
.r (.brk (sv1.1,sv1.2.1,sv1.2.2)))
def S_qw (a0:Y8):SC R_qw R_qw :=
.reg 3 [] [] []<|
.bor 1 (fun j=>AV.d (DV.str (([]:List Y8).getD j dF))) [3]<|
.iter [0] (fun (sv1:(List Y8)×Int×Int)=>[(3,(AV.ref 0 sv1.1.length 0 sv1.1.length)),(4,(vi sv1.2.1)),(5,(vi sv1.2.2))]) (fun sv1=>[(0,(eS 1 DV.str sv1.1))]) (([]:List Y8),0,0) (S_qw_b1 a0) (fun sv1 =>
.ite (decide (sv1.2.1<(a0.length:Int))) (
.guard [(0:Int)<=sv1.2.1,(sv1.2.1).toNat<=a0.length,(sv1.1.length+1) * (2 * 16)<=2 ^ 48]<|
 let e0_:=([((a0.drop ((sv1.2.1).toNat)).take (a0.length-(sv1.2.1).toNat))]:List Y8)
.reg 10 [] [(4,hv (AV.d (eL DV.str e0_))),(5,{ h:=.obj,cast:=some (AV.ref 0 ((sv1.1++e0_).length) 0 ((sv1.1++e0_).length)),obs:=[(0,(eS 1 DV.str (sv1.1++e0_)))] })] [.ev 0,.ev 1,.pf (zi DV.str e0_),.e sv1.1.length,.e sv1.1.length,.pf (p:=∀ k,k<1->(AV.d (DV.str (e0_.getD k dF))).wd=1) (fun _ _=>rfl),.ev 2,.pf (z16 (o:=0) (l:=sv1.1) (x:=e0_)),.pf (z15 (sz:=1) (e:=DV.str) (l:=sv1.1) (x:=e0_))]<|
.guard [(sv1.1++e0_).length<2 ^ 63]<|
.reg 11 [] [] []<|
.frz 0 (.ev 0) none [2] []<|
.r (sv1.1++e0_)) (
.guard [sv1.1.length<2 ^ 63]<|
.reg 11 [] [] []<|
.frz 0 (.ev 0) none [2] []<|
.r sv1.1)) id
def F_qw (a0:Y8):=(S_qw a0).den
theorem F_qw_ok {a0:Y8}:FO (F_qw a0) 67 [(AV.d (DV.str a0))] [] (fun x=>(AV.d (eL DV.str x))) NL:=fO (s:=S_qw a0) Tryz.func67
abbrev R_q8:=TJo×Bool×Int
def S_q8_b1 (sv1:(List Y8)) (sv2:Int×Int×Int):SC R_q8 (Step (Int×Int×Int) R_q8) :=
.ite (decide (sv2.2.2<=6)) (
.call (@F_q2i_ok sv2.2.2) fun rv3 cv3=>
.guard [0<sv1.length,([111,102,102,105,99,101,32]).length+rv3.length<2 ^ 63]<|
.reg 11 [] [(4,hc cv3 [] true)] [.pf (p:=(0:Int)<=0) dk,.ev 0,.cl 2 cv3 [] 3 true,.ev 1]<|
 let e0_:=(i64.wrap (sv2.2.2+1))
.ite ((sv1.getD 0 dF)==(([111,102,102,105,99,101,32])++rv3)) (
.r (.cont (sv2.2.2,sv2.2.1,e0_))) (
.r (.cont (sv2.1,sv2.2.1,e0_)))) (
.r (.brk (sv2.1,sv2.2.1,sv2.2.2)))
def S_q8_b2 (sv1:(List Y8)) (iv4:Nat) (sv5:Int×Int×(List TOp)×TOf):SC R_q8 (Step (Int×Int×(List TOp)×TOf) R_q8) :=
.reg 20 [] [] [.w iv4,.ev 0]<|
.a 21 1 4 (@F_qe_ok ((sv1.drop 1).getD iv4 dF)) fun rv6=>
 let e1_:=(⟨0,[],0⟩:TJo)
 let e3_:=(0,hv (TJo.d e1_))
.ite (rv6.2 != 0) (
.reg 23 [] [e3_] [.pf cz6]<|
.r (.ret (e1_,false,rv6.2))) (
.call (@F_q2g_ok sv5.2.2.2 rv6.1) fun rv7 cv7=>
.reg 24 [] [(2,hc cv7 [] true),(6,{ obs:=[(5,(TOf.b (⟨0,[],(⟨[],[],[],[]⟩:TBo)⟩:TOf)))] })] [.cl 0 cv7 [] 5 true,.pf zx]<|
.ite (rv7.2 != 0) (
.reg 26 [] [e3_] [.pf cz6]<|
.r (.ret (e1_,false,9))) (
.guard [(sv5.2.2.1.length+1) * (2 * 88)<=2 ^ 48]<|
 let e0_:=([rv6.1]:List TOp)
 let e2_:=(sv5.2.2.1++e0_)
.reg 28 [] [(3,hv (AV.d (eL TOp.e e0_))),(4,{ cast:=some (AV.ref 2 (e2_.length) 0 (e2_.length)),obs:=[(2,(eS 10 TOp.e e2_))] })] [.pf (zi TOp.e e0_),.e sv5.2.2.1.length,.e sv5.2.2.1.length,.pf (p:=∀ k,k<1->(TOp.d (e0_.getD k dF)).wd=10) (fun _ _=>rfl),.ev 0,.pf (z16 (o:=2) (l:=sv5.2.2.1) (x:=e0_)),.pf (z15 (sz:=10) (e:=TOp.e) (l:=sv5.2.2.1) (x:=e0_))]<|
.r (.cont (sv5.1,sv5.2.1,e2_,rv7.1))))
def S_q8 (a0:Y8):SC R_q8 R_q8 :=
 let e2_:=(⟨0,[],0⟩:TJo)
 let e7_:=(TJo.b e2_)
.reg 0 [] [(0,{ obs:=[(0,e7_)] })] [.pf cz5]<|
.a 1 1 1 (@F_qw_ok a0) fun rv8=>
 let e3_:=(i64.wrap ((a0.length:Int)-1))
 let e5_:=(decide ((a0.length:Int)>0))
.guard [AllP [e5_=true]->((0:Int)<=e3_),AllP [e5_=true]->((e3_).toNat<a0.length)]<|
.reg 2 [] [] [.ev 0,.ev 1]<|
 let e0_:=(bif e5_ then (((a0.getD ((e3_).toNat) 0).toNat:Int) != 10) else false)
.cut none [2,6] (fun (sv1:(List Y8))=>[(5,(AV.d (eL DV.str sv1)))]) (fun _=>[]) (
.ite e0_ (
 let e1_:=(i64.wrap ((rv8.length:Int)-1))
.guard [(0:Int)<=e1_,(e1_).toNat<=rv8.length]<|
 let e8_:=(rv8.take ((e1_).toNat))
.reg 4 [] [(4,hv (AV.d (eL DV.str e8_)))] [.ev 0,.ev 1,.der (fun (h0:(e1_).toNat<=rv8.length)=>lvT DV.str rv8 h0) 1]<|
.r (.next e8_)) (
.r (.next rv8))) fun sv1=>
 let e6_:=(0,hv (TJo.d e2_))
.ite ((sv1.length:Int)==0) (
.reg 6 [] [e6_] [.pf cz6]<|
.r (e2_,false,4)) (
.reg 7 [] [(0,{ h:=.obj }),(1,{ h:=.obj })] []<|
 let e4_:=[(2,(vp 0)),(5,(AV.d (eL DV.str sv1))),(6,(vb e0_)),(7,(vp 1))]
.sh (A:=True) (.pf trivial) e4_ e4_ [e7_,(Ob.box (AV.agg [(vi 0),(AV.full 0 fun _=>DV.b false),(vi 0)]))] [e7_,(Ob.box (AV.agg [(vi 0),(AV.ref 2 0 0 0),(vi 0)])),(eS 10 TOp.e ([]:List TOp))] (fun _=>(z54 (sz:=10) (f:=fun j=>AV.d (TOp.e (([]:List TOp).getD j dF))) (.keep _ _ _ _ (y1l rfl) (.box _ _ _ _ _ (y1l rfl) (TrV.agg (TrL.cons (TrV.keep _) (TrL.cons TrV.born (TrL.cons (TrV.keep _) TrL.nil)))) (.nil _))))) (z24 (k:=0) rfl (TrS.keep _) (z24 (k:=1) rfl (TrS.keep _) (z24 (k:=2) rfl (TrS.keep _) (z24 (k:=3) rfl (TrS.keep _) z5i))))<|
.iter [2,5,6,7] (fun (sv2:Int×Int×Int)=>[(8,(vi sv2.2.2))]) (fun sv2=>[(1,(Ob.box (AV.agg [(vi sv2.1),(AV.ref 2 0 0 0),(vi sv2.2.1)])))]) (0,0,1) (S_q8_b1 sv1) (fun sv2 =>
.ite (sv2.1==0) (
.reg 14 [] [e6_] [.pf cz6]<|
.r (e2_,false,4)) (
.ite (decide ((i64.wrap ((sv1.length:Int)-1))>400)) (
.reg 16 [] [e6_] [.pf cz6]<|
.r (e2_,false,3)) (
.call (@F_q2f_ok sv2.1) fun rv9 cv9=>
.reg 17 [] [(2,hc cv9 [] true),(6,{ obs:=[(3,(TOf.b (⟨0,[],(⟨[],[],[],[]⟩:TBo)⟩:TOf)))] })] [.cl 0 cv9 [] 3 true,.pf zx]<|
.guard [1<=sv1.length]<|
.reg 18 [] [(1,hv (AV.d (eL DV.str (sv1.drop 1))))] [.pf (p:=(0:Int)<=1) dk,.ev 0,.pf (lvD DV.str sv1 1)]<|
.range ((sv1.drop 1).length:Int) ((sv1.drop 1).length) rfl (.slot 69) 71 [2,6,7,9,69,70] (fun (_:Int×Int×(List TOp)×TOf)=>[]) (fun sv5=>[(1,(Ob.box (AV.agg [(vi sv5.1),(AV.ref 2 sv5.2.2.1.length 0 sv5.2.2.1.length),(vi sv5.2.1)]))),(2,(eS 10 TOp.e sv5.2.2.1)),(3,(TOf.b sv5.2.2.2))]) (sv2.1,sv2.2.1,([]:List TOp),rv9.1) (S_q8_b2 sv1) (fun sv5 => 
.guard [sv5.2.2.1.length<2 ^ 63]<|
.reg 31 [] [] []<|
.frz 2 (.ev 0) none [] [0,1]<|
.r ((⟨sv5.1,sv5.2.2.1,(sv5.2.2.1.length:Int)⟩:TJo),e0_,0)) id))) id)
def F_q8 (a0:Y8):=(S_q8 a0).den
theorem F_q8_ok {a0:Y8}:FO (F_q8 a0) 24 [(AV.d (DV.str a0))] [] (fun x=>(AV.tup [(TJo.d x.1),(vb x.2.1),(vi x.2.2)])) NL:=fO (s:=S_q8 a0) Tryz.func24
end
end Go.Proofs.YtpbnkbjhlhlaiaaGreatDoor
