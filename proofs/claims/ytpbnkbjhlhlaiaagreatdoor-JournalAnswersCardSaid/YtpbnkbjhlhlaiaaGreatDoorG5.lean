/- A part of the proof: what the functions compute, and that their calls return it. No condition. -/
import Derived.Test.YtpbnkbjhlhlaiaaGreatDoorG4
/- What the functions compute, and that their calls return it. No condition. -/
namespace Go.Proofs.YtpbnkbjhlhlaiaaGreatDoor
open Go Go.TA
open Go.IntKind (i64)
noncomputable section
set_option maxRecDepth 100000
def S_q3b (a0:TBo) (a1:Int):SC Bool Bool :=
.guard [(0:Int)<=a1,(a1).toNat<a0.C.length]<|
.reg 1 [] [] [.ev 0,.ev 1]<|
 let e1_:=(a0.C.getD ((a1).toNat) dF)
 let e4_:=((e1_.F) != (i64.wrap (a1+1)))
.calld [e4_=false] dF (@F_qf_ok (e1_.P) 1 (a0.B.length:Int)) fun rv1 cv1 =>
.reg 2 [] [(11,hc cv1 [] true)] [.clg 0 [e4_=false] cv1 [] 2 true]<|
.ite (cO e4_ (!rv1)) (
.r false) (
 let e3_:=(i64.wrap ((e1_.P)-1))
.guard [(0:Int)<=e3_,(e3_).toNat<a0.B.length]<|
.reg 4 [] [] [.ev 0,.ev 1]<|
.call (@F_qy_ok (e1_.O)) fun rv2 cv2=>
 let e5_:=(a0.B.getD ((e3_).toNat) dF)
 let e0_:=(bif rv2 then (decide ((e1_.O)>=(e5_.O))) else false)
.calld [e0_=true] dF (@F_q16_ok (e1_.O)) fun rv3 cv3 =>
.calld [e0_=true] dF (@F_q18_ok a0 e5_) fun rv4 cv4 =>
 let e2_:=(bif e0_ then (decide (rv3<=(i64.wrap (rv4+1)))) else false)
.calld [e2_=true] dF (@F_q17_ok (e1_.I)) fun rv5 cv5 =>
.reg 5 [] [(2,hc cv2 [] true),(13,hc cv3 [] true),(16,hc cv4 [] true),(23,hc cv5 [] true)] [.cl 6 cv2 [] 3 true,.clg 4 [e0_=true] cv3 [] 3 true,.clg 2 [e0_=true] cv4 [] 3 true,.clg 0 [e2_=true] cv5 [] 3 true]<|
.r (bif e2_ then rv5 else false))
def F_q3b (a0:TBo) (a1:Int):=(S_q3b a0 a1).den
theorem F_q3b_ok {a0:TBo} {a1:Int}:FO (F_q3b a0 a1) 206 [(TBo.d a0),(vi a1)] [] vb NL:=fO (s:=S_q3b a0 a1) Tryz.func206
def S_q2l_b1 (a0:TBo) (iv1:Nat) (_:Unit):SC Bool (Step (Unit) Bool) :=
.a 4 3 1 (@F_q3b_ok a0 (iv1:Int)) fun rv2=>
.ite (!rv2) (
.r (.ret false)) (
.r (.cont ()))
def S_q2l (a0:TBo) (a1:Int):SC Bool Bool :=
.guard [(a1).toNat<2 ^ 63]<|
.range a1 ((a1).toNat) rfl (.why (.ev 0)) 9 [1,2,3,8] (fun (_:Unit)=>[]) (fun _=>[]) () (S_q2l_b1 a0) (fun _ => 
.r (decide (a1<=200))) id
def F_q2l (a0:TBo) (a1:Int):=(S_q2l a0 a1).den
theorem F_q2l_ok {a0:TBo} {a1:Int}:FO (F_q2l a0 a1) 203 [(TBo.d a0),(vi a1),(AV.fn 206 [])] [] vb NL:=fO (s:=S_q2l a0 a1) Tryz.func203
def S_q3c (a0:(List TOr)):SC (List TOr) (List TOr) :=
.reg 0 [] [] []<|
.nils 0 (
.guard [a0.length * (2 * 40)<=2 ^ 48]<|
.reg 1 [] [] []<|
.lev 0 (AV.d (eL TOr.e a0)) (.pf (lvQ true a0.length fun j=>(TOr.e (a0.getD j dF))))<|
.br true (.pf (p:=true=true) rfl)<|
.reg 2 [] [] []<|
.bor 5 (fun j=>AV.d (TOr.e (a0.getD j dF))) [2]<|
.cst (A:=a0.length=0) (.ev 1) [(2,AV.ref 0 0 0 0)] [(2,(AV.ref 0 a0.length 0 a0.length))] [(Ob.seq 5 0 fun j=>AV.d (TOr.e (a0.getD j dF)))] [(eS 5 TOr.e a0)] (fun h=>⟨by rw[h],by unfold eS; rw[h]⟩)<|
.r a0) (
.reg 1 [] [] []<|
.lev 0 (AV.d (eL TOr.e a0)) (.pf (lvQ false a0.length fun j=>(TOr.e (a0.getD j dF))))<|
.br false (.pf (p:=false=false) rfl)<|
.guard [a0.length * (2 * 40)<=2 ^ 48]<|
.reg 3 [] [(2,{ h:=.obj })] [.pf (p:=∀ k,k<a0.length->(TOr.d (a0.getD k dF)).wd=5) (fun _ _=>rfl),.ev 0]<|
.r a0)
def F_q3c (a0:(List TOr)):=(S_q3c a0).den
theorem F_q3c_ok {a0:(List TOr)}:FO (F_q3c a0) 212 [(AV.d (eL TOr.e a0))] [] (fun x=>(AV.ref 0 x.length 0 x.length)) (fun x=>[(eS 5 TOr.e x)]):=fO (s:=S_q3c a0) Tryz.func212
def S_q2t (a0:TOr) (p0:Int):SC Bool Bool :=
.r (a0.K != p0)
def F_q2t (a0:TOr) (p0:Int):=(S_q2t a0 p0).den
theorem F_q2t_ok {a0:TOr} {p0:Int}:FO (F_q2t a0 p0) 215 [(TOr.d a0),(vp 0)] [(Ob.box (vi p0))] vb (fun _=>[(Ob.box (vi p0))]):=fO (s:=S_q2t a0 p0) Tryz.func215
def S_q19_b1 (p0:(List TOr)) (p1:Int) (iv1:Nat) (_:Unit):SC Int (Step (Unit) Int) :=
.call (@F_q2t_ok (p0.getD (0+iv1) dF) p1) fun rv2 cv2=>
.guard [(0+iv1)<p0.length]<|
.reg 4 [] [(5,hc cv2 [1] true)] [.e p0.length,.w iv1,.ev 2,.e p0.length,.ev 0,.cl 1 cv2 [1] 2 true]<|
.ite rv2 (
.r (.ret (iv1:Int))) (
.r (.cont ()))
def S_q19 (p0:(List TOr)) (p1:Int):SC Int Int :=
.guard [p0.length<2 ^ 63]<|
.range (p0.length:Int) p0.length rfl (.why (.ev 0)) 8 [0,1,7] (fun (_:Unit)=>[]) (fun _=>[]) () (S_q19_b1 p0 p1) (fun _ => 
.r (-1)) id
def F_q19 (p0:(List TOr)) (p1:Int):=(S_q19 p0 p1).den
theorem F_q19_ok {p0:(List TOr)} {p1:Int}:FO (F_q19 p0 p1) 226 [(AV.ref 0 p0.length 0 p0.length),(AV.fn 215 [(vp 1)])] [(eS 5 TOr.e p0),(Ob.box (vi p1))] vi (fun _=>[(eS 5 TOr.e p0),(Ob.box (vi p1))]):=fO (s:=S_q19 p0 p1) Tryz.func226
abbrev R_q1a:=(List TOr)
def S_q1a_b1 (p1:Int) (sv1:(List TOr)×Int×Int):SC R_q1a (Step ((List TOr)×Int×Int) R_q1a) :=
.ite (decide (sv1.2.2<(sv1.1.length:Int))) (
.guard [(0:Int)<=sv1.2.2,(sv1.2.2).toNat<sv1.1.length,(0+(sv1.2.2).toNat)<sv1.1.length]<|
.reg 7 [] [] [.e sv1.1.length,.ev 0,.ev 1,.e sv1.1.length,.ev 2]<|
 let e1_:=(sv1.1.getD (0+(sv1.2.2).toNat) dF)
.call (@F_q2t_ok e1_ p1) fun rv2 cv2=>
.k 8 2 cv2 [1] 3 true<|
 let e4_:=(i64.wrap (sv1.2.2+1))
.ite (!rv2) (
 let e3_:=(0+(sv1.2.1).toNat)
.guard [(0:Int)<=sv1.2.1,(sv1.2.1).toNat<sv1.1.length,e3_<sv1.1.length]<|
 let e0_:=(sv1.1.set e3_ e1_)
.reg 9 [] [(4,{ obs:=[(0,(eS 5 TOr.e e0_))] })] [.e sv1.1.length,.ev 0,.ev 1,.e sv1.1.length,.ev 2,.pf (zu (sz:=5) (e:=TOr.e) (l:=sv1.1) (i:=e3_) (x:=e1_) (fun _=>rfl))]<|
 let e2_:=[(eS 5 TOr.e e0_),(Ob.box (vi p1)),(TOr.b e1_)]
.cst (A:=True) (.pf trivial) [(0,(AV.ref 0 sv1.1.length 0 sv1.1.length)),(1,(AV.fn 215 [(vp 1)])),(5,(vi sv1.2.1)),(6,(vi sv1.2.2))] [(0,(AV.ref 0 (e0_.length) 0 (e0_.length))),(1,(AV.fn 215 [(vp 1)])),(5,(vi sv1.2.1)),(6,(vi sv1.2.2))] e2_ e2_ (fun _=>⟨by simp +zetaDelta only[yl],by rfl⟩)<|
.r (.cont (e0_,(i64.wrap (sv1.2.1+1)),e4_))) (
.r (.cont (sv1.1,sv1.2.1,e4_)))) (
.r (.brk (sv1.1,sv1.2.1,sv1.2.2)))
def S_q1a (p0:(List TOr)) (p1:Int):SC R_q1a R_q1a :=
.call (@F_q19_ok p0 p1) fun rv3 cv3=>
.k 1 2 cv3 [0,1] 2 true<|
.ite (rv3==(-1)) (
.guard [p0.length<2 ^ 63]<|
.reg 3 [] [] []<|
.frz 0 (.ev 0) none [4] []<|
.r p0) (
.iter [1] (fun (sv1:(List TOr)×Int×Int)=>[(0,(AV.ref 0 sv1.1.length 0 sv1.1.length)),(5,(vi sv1.2.1)),(6,(vi sv1.2.2))]) (fun sv1=>[(0,(eS 5 TOr.e sv1.1))]) (p0,rv3,(i64.wrap (rv3+1))) (S_q1a_b1 p1) (fun sv1 =>
.guard [(0:Int)<=sv1.2.1,(sv1.2.1).toNat<=sv1.1.length]<|
 let e0_:=(sv1.1.length-(sv1.2.1).toNat)
 let e1_:=(⟨0,0,0,0,false⟩:TOr)
 let e2_:=(0+(sv1.2.1).toNat)
 let e3_:=(eS 5 TOr.e (clearL sv1.1 e2_ e0_ e1_))
.reg 11 [] [(3,{ obs:=[(0,e3_)] })] [.ev 0,.ev 1,.e sv1.1.length,.e sv1.1.length,.pf (zml (sz:=5) (e:=TOr.e) (l:=sv1.1) (off:=e2_) (n:=e0_) (z:=e1_))]<|
 let e4_:=((clearL sv1.1 e2_ e0_ e1_).length)
.cst (A:=True) (.pf trivial) [(0,(AV.ref 0 sv1.1.length 0 sv1.1.length)),(5,(vi sv1.2.1))] [(0,(AV.ref 0 e4_ 0 e4_)),(5,(vi sv1.2.1))] [e3_,(Ob.box (vi p1))] [e3_,(Ob.box (vi p1))] (fun _=>⟨by simp +zetaDelta only[z4e],by rfl⟩)<|
.guard [(sv1.2.1).toNat<=(clearL sv1.1 e2_ e0_ e1_).length]<|
.reg 12 [] [] [.ev 1,.ev 0,.e e4_]<|
.guard [(clearL sv1.1 e2_ e0_ e1_).length<2 ^ 63]<|
.frz 0 (.ev 0) (some (.der (fun (h:(sv1.2.1).toNat<=(clearL sv1.1 e2_ e0_ e1_).length)=>(y1w (Nat.sub_le _ _) h:((sv1.2.1).toNat-0)<=(clearL sv1.1 e2_ e0_ e1_).length)) 1)) [4] []<|
 let e5_:=((clearL sv1.1 e2_ e0_ e1_).take ((sv1.2.1).toNat))
.lev 4 (AV.d (eL TOr.e e5_)) (.der (fun (h:(sv1.2.1).toNat<=(clearL sv1.1 e2_ e0_ e1_).length)=>lvT TOr.e (clearL sv1.1 e2_ e0_ e1_) h) 1)<|
.r e5_) id)
def F_q1a (p0:(List TOr)) (p1:Int):=(S_q1a p0 p1).den
theorem F_q1a_ok {p0:(List TOr)} {p1:Int}:FO (F_q1a p0 p1) 214 [(AV.ref 0 p0.length 0 p0.length),(AV.fn 215 [(vp 1)])] [(eS 5 TOr.e p0),(Ob.box (vi p1))] (fun x=>(AV.d (eL TOr.e x))) (fun _=>[Ob.dead,(Ob.box (vi p1))]):=fO (s:=S_q1a p0 p1) Tryz.func214
def S_q3d (a0:TBo) (a1:Int):SC (List TOr) (List TOr) :=
.call (@F_q3c_ok a0.J) fun rv1 cv1=>
.call (@F_q1a_ok rv1 a1) fun rv2 cv2=>
.reg 1 [] [(2,hc cv1 [] false),(4,hc cv2 [2,1] false)] [.cl 1 cv1 [] 2 false,.cl 0 cv2 [2,1] 3 false]<|
.r rv2
def F_q3d (a0:TBo) (a1:Int):=(S_q3d a0 a1).den
theorem F_q3d_ok {a0:TBo} {a1:Int}:FO (F_q3d a0 a1) 181 [(TBo.d a0),(vi a1)] [] (fun x=>(AV.d (eL TOr.e x))) NL:=fO (s:=S_q3d a0 a1) Tryz.func181
def S_q4r (a0:TOr) (p0:TOr):SC Bool Bool :=
.r (cO (!a0.Ab) (decide (a0.O>p0.O)))
def F_q4r (a0:TOr) (p0:TOr):=(S_q4r a0 p0).den
theorem F_q4r_ok {a0:TOr} {p0:TOr}:FO (F_q4r a0 p0) 224 [(TOr.d a0),(vp 0)] [(TOr.b p0)] vb (fun _=>[(TOr.b p0)]):=fO (s:=S_q4r a0 p0) Tryz.func224
def S_q22_b1 (a0:(List TOr)) (p0:TOr) (iv1:Nat) (_:Unit):SC Int (Step (Unit) Int) :=
.call (@F_q4r_ok (a0.getD iv1 dF) p0) fun rv2 cv2=>
.reg 4 [] [(5,hc cv2 [0] true)] [.w iv1,.ev 1,.cl 0 cv2 [0] 1 true]<|
.ite rv2 (
.r (.ret (iv1:Int))) (
.r (.cont ()))
def S_q22 (a0:(List TOr)) (p0:TOr):SC Int Int :=
.range (a0.length:Int) a0.length rfl (.slot 0) 8 [0,1,7] (fun (_:Unit)=>[]) (fun _=>[]) () (S_q22_b1 a0 p0) (fun _ => 
.r (-1)) id
def F_q22 (a0:(List TOr)) (p0:TOr):=(S_q22 a0 p0).den
theorem F_q22_ok {a0:(List TOr)} {p0:TOr}:FO (F_q22 a0 p0) 226 [(AV.d (eL TOr.e a0)),(AV.fn 224 [(vp 0)])] [(TOr.b p0)] vi (fun _=>[(TOr.b p0)]):=fO (s:=S_q22 a0 p0) Tryz.func226
def S_q3u (a0:(List TOr)) (p0:TOr):SC Bool Bool :=
.call (@F_q22_ok a0 p0) fun rv1 cv1=>
.k 1 2 cv1 [0] 1 true<|
.r (decide (rv1>=0))
def F_q3u (a0:(List TOr)) (p0:TOr):=(S_q3u a0 p0).den
theorem F_q3u_ok {a0:(List TOr)} {p0:TOr}:FO (F_q3u a0 p0) 225 [(AV.d (eL TOr.e a0)),(AV.fn 224 [(vp 0)])] [(TOr.b p0)] vb (fun _=>[(TOr.b p0)]):=fO (s:=S_q3u a0 p0) Tryz.func225
def S_q3e (a0:TBo) (a1:Int):SC Bool Bool :=
.guard [(0:Int)<=a1,(a1).toNat<a0.J.length]<|
.reg 1 [] [] [.ev 0,.ev 1]<|
 let e1_:=(a0.J.getD ((a1).toNat) dF)
 let e5_:=((e1_.F) != (i64.wrap (a1+1)))
.calld [e5_=false] dF (@F_qf_ok (e1_.K) 1 (a0.C.length:Int)) fun rv1 cv1 =>
.reg 2 [] [(11,hc cv1 [] true)] [.clg 0 [e5_=false] cv1 [] 2 true]<|
.ite (cO e5_ (!rv1)) (
.r false) (
 let e6_:=(i64.wrap ((e1_.K)-1))
.guard [(0:Int)<=e6_,(e6_).toNat<a0.C.length]<|
.reg 4 [] [] [.ev 0,.ev 1]<|
 let e8_:=(a0.J.take ((a1).toNat))
 let e4_:=(⟨[],[],[],e8_⟩:TBo)
.call (@F_q3d_ok e4_ (e1_.K)) fun rv2 cv2=>
.guard [(a1).toNat<=a0.J.length]<|
.reg 5 [] [(3,hv (AV.d (eL TOr.e e8_))),(4,hv (TBo.d e4_)),(7,hc cv2 [] true)] [.ev 7,.ev 0,.der (fun (h0:(a1).toNat<=a0.J.length)=>lvT TOr.e a0.J h0) 0,.pf (p:=LeV (AV.d (DV.agg [Z0,Z0,Z0,(eL TOr.e e8_)])) (TBo.d e4_)) (z3s rfl (DLe.agg (DLeL.cons DLe.sl0 (DLeL.cons DLe.sl0 (DLeL.cons DLe.sl0 (DLeL.cons (DLe.refl _) DLeL.nil)))))),.cl 1 cv2 [] 3 true]<|
.call (@F_qy_ok (e1_.O)) fun rv3 cv3=>
 let e3_:=(a0.C.getD ((e6_).toNat) dF)
 let e0_:=(bif rv3 then (decide ((e1_.O)>=(e3_.O))) else false)
.calld [e0_=true] dF (@F_q16_ok (e1_.O)) fun rv4 cv4 =>
 let e7_:=(i64.wrap ((e3_.P)-1))
.calld [e0_=true] dF (@F_q18_ok a0 (a0.B.getD ((e7_).toNat) dF)) fun rv5 cv5 =>
 let e2_:=(bif (bif e0_ then (decide (rv4<=(i64.wrap (rv5+1)))) else false) then ((e1_.Z)==(i64.wrap ((rv2.length:Int)+1))) else false)
.calld [e2_=true] dF (@F_q3u_ok rv2 e1_) fun rv6 cv6 =>
.guard [AllP [e0_=true]->((0:Int)<=e7_),AllP [e0_=true]->((e7_).toNat<a0.B.length)]<|
.reg 7 [] [(2,hc cv3 [] true),(13,hc cv4 [] true),(22,hc cv5 [] true),(37,hc cv6 [1] true)] [.cl 8 cv3 [] 3 true,.clg 6 [e0_=true] cv4 [] 3 true,.ev 0,.ev 1,.clg 4 [e0_=true] cv5 [] 3 true,.clg 2 [e2_=true] cv6 [1] 3 true]<|
.r (bif e2_ then (!rv6) else false))
def F_q3e (a0:TBo) (a1:Int):=(S_q3e a0 a1).den
theorem F_q3e_ok {a0:TBo} {a1:Int}:FO (F_q3e a0 a1) 207 [(TBo.d a0),(vi a1)] [] vb NL:=fO (s:=S_q3e a0 a1) Tryz.func207
def S_q2m_b1 (a0:TBo) (iv1:Nat) (_:Unit):SC Bool (Step (Unit) Bool) :=
.a 4 3 1 (@F_q3e_ok a0 (iv1:Int)) fun rv2=>
.ite (!rv2) (
.r (.ret false)) (
.r (.cont ()))
def S_q2m (a0:TBo) (a1:Int):SC Bool Bool :=
.guard [(a1).toNat<2 ^ 63]<|
.range a1 ((a1).toNat) rfl (.why (.ev 0)) 9 [1,2,3,8] (fun (_:Unit)=>[]) (fun _=>[]) () (S_q2m_b1 a0) (fun _ => 
.r (decide (a1<=200))) id
def F_q2m (a0:TBo) (a1:Int):=(S_q2m a0 a1).den
theorem F_q2m_ok {a0:TBo} {a1:Int}:FO (F_q2m a0 a1) 203 [(TBo.d a0),(vi a1),(AV.fn 207 [])] [] vb NL:=fO (s:=S_q2m a0 a1) Tryz.func203
def S_q1r (a0:TBo):SC Bool Bool :=
.call (@F_q2j_ok a0 (a0.A.length:Int)) fun rv1 cv1=>
.calld [rv1=true] dF (@F_q2k_ok a0 (a0.B.length:Int)) fun rv2 cv2 =>
 let e1_:=(bif rv1 then rv2 else false)
.calld [e1_=true] dF (@F_q2l_ok a0 (a0.C.length:Int)) fun rv3 cv3 =>
 let e0_:=(bif e1_ then rv3 else false)
.calld [e0_=true] dF (@F_q2m_ok a0 (a0.J.length:Int)) fun rv4 cv4 =>
.reg 1 [] [(4,hc cv1 [] true),(10,hc cv2 [] true),(17,hc cv3 [] true),(24,hc cv4 [] true)] [.cl 6 cv1 [] 1 true,.clg 4 [rv1=true] cv2 [] 1 true,.clg 2 [e1_=true] cv3 [] 1 true,.clg 0 [e0_=true] cv4 [] 1 true]<|
.r (bif e0_ then rv4 else false)
def F_q1r (a0:TBo):=(S_q1r a0).den
theorem F_q1r_ok {a0:TBo}:FO (F_q1r a0) 172 [(TBo.d a0)] [] vb NL:=fO (s:=S_q1r a0) Tryz.func172
def S_q3v (a0:(List TRe)):SC (List TRe) (List TRe) :=
.reg 0 [] [] []<|
.nils 0 (
.guard [a0.length * (2 * 56)<=2 ^ 48]<|
.reg 1 [] [] []<|
.lev 0 (AV.d (eL TRe.e a0)) (.pf (lvQ true a0.length fun j=>(TRe.e (a0.getD j dF))))<|
.br true (.pf (p:=true=true) rfl)<|
.reg 2 [] [] []<|
.bor 6 (fun j=>AV.d (TRe.e (a0.getD j dF))) [2]<|
.cst (A:=a0.length=0) (.ev 1) [(2,AV.ref 0 0 0 0)] [(2,(AV.ref 0 a0.length 0 a0.length))] [(Ob.seq 6 0 fun j=>AV.d (TRe.e (a0.getD j dF)))] [(eS 6 TRe.e a0)] (fun h=>⟨by rw[h],by unfold eS; rw[h]⟩)<|
.r a0) (
.reg 1 [] [] []<|
.lev 0 (AV.d (eL TRe.e a0)) (.pf (lvQ false a0.length fun j=>(TRe.e (a0.getD j dF))))<|
.br false (.pf (p:=false=false) rfl)<|
.guard [a0.length * (2 * 56)<=2 ^ 48]<|
.reg 3 [] [(2,{ h:=.obj })] [.pf (p:=∀ k,k<a0.length->(TRe.d (a0.getD k dF)).wd=6) (fun _ _=>rfl),.ev 0]<|
.r a0)
def F_q3v (a0:(List TRe)):=(S_q3v a0).den
theorem F_q3v_ok {a0:(List TRe)}:FO (F_q3v a0) 209 [(AV.d (eL TRe.e a0))] [] (fun x=>(AV.ref 0 x.length 0 x.length)) (fun x=>[(eS 6 TRe.e x)]):=fO (s:=S_q3v a0) Tryz.func209
def S_q3w (a0:(List TCo)):SC (List TCo) (List TCo) :=
.reg 0 [] [] []<|
.nils 0 (
.guard [a0.length * (2 * 56)<=2 ^ 48]<|
.reg 1 [] [] []<|
.lev 0 (AV.d (eL TCo.e a0)) (.pf (lvQ true a0.length fun j=>(TCo.e (a0.getD j dF))))<|
.br true (.pf (p:=true=true) rfl)<|
.reg 2 [] [] []<|
.bor 7 (fun j=>AV.d (TCo.e (a0.getD j dF))) [2]<|
.cst (A:=a0.length=0) (.ev 1) [(2,AV.ref 0 0 0 0)] [(2,(AV.ref 0 a0.length 0 a0.length))] [(Ob.seq 7 0 fun j=>AV.d (TCo.e (a0.getD j dF)))] [(eS 7 TCo.e a0)] (fun h=>⟨by rw[h],by unfold eS; rw[h]⟩)<|
.r a0) (
.reg 1 [] [] []<|
.lev 0 (AV.d (eL TCo.e a0)) (.pf (lvQ false a0.length fun j=>(TCo.e (a0.getD j dF))))<|
.br false (.pf (p:=false=false) rfl)<|
.guard [a0.length * (2 * 56)<=2 ^ 48]<|
.reg 3 [] [(2,{ h:=.obj })] [.pf (p:=∀ k,k<a0.length->(TCo.d (a0.getD k dF)).wd=7) (fun _ _=>rfl),.ev 0]<|
.r a0)
def F_q3w (a0:(List TCo)):=(S_q3w a0).den
theorem F_q3w_ok {a0:(List TCo)}:FO (F_q3w a0) 210 [(AV.d (eL TCo.e a0))] [] (fun x=>(AV.ref 0 x.length 0 x.length)) (fun x=>[(eS 7 TCo.e x)]):=fO (s:=S_q3w a0) Tryz.func210
def S_q3x (a0:(List TVe)):SC (List TVe) (List TVe) :=
.reg 0 [] [] []<|
.nils 0 (
.guard [a0.length * (2 * 32)<=2 ^ 48]<|
.reg 1 [] [] []<|
.lev 0 (AV.d (eL TVe.e a0)) (.pf (lvQ true a0.length fun j=>(TVe.e (a0.getD j dF))))<|
.br true (.pf (p:=true=true) rfl)<|
.reg 2 [] [] []<|
.bor 4 (fun j=>AV.d (TVe.e (a0.getD j dF))) [2]<|
.cst (A:=a0.length=0) (.ev 1) [(2,AV.ref 0 0 0 0)] [(2,(AV.ref 0 a0.length 0 a0.length))] [(Ob.seq 4 0 fun j=>AV.d (TVe.e (a0.getD j dF)))] [(eS 4 TVe.e a0)] (fun h=>⟨by rw[h],by unfold eS; rw[h]⟩)<|
.r a0) (
.reg 1 [] [] []<|
.lev 0 (AV.d (eL TVe.e a0)) (.pf (lvQ false a0.length fun j=>(TVe.e (a0.getD j dF))))<|
.br false (.pf (p:=false=false) rfl)<|
.guard [a0.length * (2 * 32)<=2 ^ 48]<|
.reg 3 [] [(2,{ h:=.obj })] [.pf (p:=∀ k,k<a0.length->(TVe.d (a0.getD k dF)).wd=4) (fun _ _=>rfl),.ev 0]<|
.r a0)
def F_q3x (a0:(List TVe)):=(S_q3x a0).den
theorem F_q3x_ok {a0:(List TVe)}:FO (F_q3x a0) 211 [(AV.d (eL TVe.e a0))] [] (fun x=>(AV.ref 0 x.length 0 x.length)) (fun x=>[(eS 4 TVe.e x)]):=fO (s:=S_q3x a0) Tryz.func211
theorem cz3:OLe (bx (DV.agg [Z0,Z0,Z0,Z0])) (TBo.b (⟨[],[],[],[]⟩:TBo)):=zao (DLe.agg (DLeL.cons DLe.sl0 (DLeL.cons DLe.sl0 (DLeL.cons DLe.sl0 (DLeL.cons DLe.sl0 DLeL.nil)))))
abbrev R_q1b:=(List TRe)×(List TCo)×(List TVe)×(List TOr)
def S_q1b (a0:TBo):SC R_q1b R_q1b :=
.reg 0 [] [(1,{ obs:=[(1,(TBo.b (⟨[],[],[],[]⟩:TBo)))] })] [.pf cz3]<|
.call (@F_q3v_ok a0.A) fun rv1 cv1=>
.call (@F_q3w_ok a0.B) fun rv2 cv2=>
.call (@F_q3x_ok a0.C) fun rv3 cv3=>
.call (@F_q3c_ok a0.J) fun rv4 cv4=>
.reg 1 [2,5,8,11,13] [(2,hc cv1 [] false),(5,hc cv2 [] false),(8,hc cv3 [] false),(11,hc cv4 [] false)] [.cl 3 cv1 [] 2 false,.cl 2 cv2 [] 3 false,.cl 1 cv3 [] 4 false,.cl 0 cv4 [] 5 false]<|
.kill 0<|
.r (rv1,rv2,rv3,rv4)
def F_q1b (a0:TBo):=(S_q1b a0).den
theorem F_q1b_ok {a0:TBo}:FO (F_q1b a0) 177 [(TBo.d a0)] [] (fun x=>(AV.agg [(AV.ref 2 x.1.length 0 x.1.length),(AV.ref 3 x.2.1.length 0 x.2.1.length),(AV.ref 4 x.2.2.1.length 0 x.2.2.1.length),(AV.ref 5 x.2.2.2.length 0 x.2.2.2.length)])) (fun x=>[Ob.dead,(Ob.box (AV.agg [(AV.ref 2 x.1.length 0 x.1.length),(AV.ref 3 x.2.1.length 0 x.2.1.length),(AV.ref 4 x.2.2.1.length 0 x.2.2.1.length),(AV.ref 5 x.2.2.2.length 0 x.2.2.2.length)])),(eS 6 TRe.e x.1),(eS 7 TCo.e x.2.1),(eS 4 TVe.e x.2.2.1),(eS 5 TOr.e x.2.2.2)]):=fO (s:=S_q1b a0) Tryz.func177
theorem zm:LeV (AV.d (DV.agg [Z0,Z0,Z0,Z0])) (TBo.d (⟨[],[],[],[]⟩:TBo)):=z3s rfl (DLe.agg (DLeL.cons DLe.sl0 (DLeL.cons DLe.sl0 (DLeL.cons DLe.sl0 (DLeL.cons DLe.sl0 DLeL.nil)))))
def S_q3y (a0:TBo) (a1:Y8) (a2:Int) (a3:Int) (a4:Int):SC (TBo×Int) (TBo×Int) :=
 let e1_:=(⟨[],[],[],[]⟩:TBo)
.reg 0 [] [(1,{ obs:=[(1,(TBo.b e1_))] })] [.pf cz3]<|
.a 1 1 2 (@F_q1r_ok a0) fun rv1=>
 let e2_:=(0,hv (TBo.d e1_))
.ite (!rv1) (
.reg 2 [] [e2_] [.pf zm]<|
.r (e1_,1)) (
.a 3 1 2 (@F_q4z_ok a1) fun rv2=>
.ite ((rv2.length:Int)==0) (
.reg 4 [] [e2_] [.pf zm]<|
.r (e1_,5)) (
.call (@F_qf_ok a2 0 99) fun rv3 cv3=>
.calld [(!rv3)=false] dF (@F_qy_ok a3) fun rv4 cv4 =>
 let e3_:=(cO (!rv3) (!rv4))
.calld [e3_=false] dF (@F_q17_ok a4) fun rv5 cv5 =>
.reg 5 [] [(1,hc cv3 [] true),(5,hc cv4 [] true),(10,hc cv5 [] true)] [.cl 4 cv3 [] 2 true,.clg 2 [(!rv3)=false] cv4 [] 2 true,.clg 0 [e3_=false] cv5 [] 2 true]<|
.ite (cO e3_ (!rv5)) (
.reg 6 [] [e2_] [.pf zm]<|
.r (e1_,2)) (
.a 7 1 2 (@F_q16_ok a3) fun rv6=>
.ite (rv6 != a2) (
.reg 8 [] [e2_] [.pf zm]<|
.r (e1_,16)) (
.ite ((a0.A.length:Int)==200) (
.reg 10 [] [e2_] [.pf zm]<|
.r (e1_,3)) (
.call (@F_q1b_ok a0) fun rv7 cv7=>
.k 11 1 cv7 [] 2 false<|
.kill 3<|
.guard [rv7.2.1.length<2 ^ 63]<|
.frz 5 (.ev 0) none [] [0]<|
.guard [rv7.2.2.1.length<2 ^ 63]<|
.frz 6 (.ev 0) none [] [0]<|
.guard [rv7.2.2.2.length<2 ^ 63]<|
.frz 7 (.ev 0) none [] [0]<|
.guard [(rv7.1.length+1) * (2 * 56)<=2 ^ 48]<|
 let e0_:=([(⟨(i64.wrap ((rv7.1.length:Int)+1)),a1,a2,a3,a4,0⟩:TRe)]:List TRe)
.reg 12 [] [(11,hv (AV.d (eL TRe.e e0_))),(12,{ cast:=some (AV.ref 4 ((rv7.1++e0_).length) 0 ((rv7.1++e0_).length)),obs:=[(4,(eS 6 TRe.e (rv7.1++e0_)))] })] [.pf (zi TRe.e e0_),.e rv7.1.length,.e rv7.1.length,.pf (p:=∀ k,k<1->(TRe.d (e0_.getD k dF)).wd=6) (fun _ _=>rfl),.ev 0,.pf (z16 (o:=4) (l:=rv7.1) (x:=e0_)),.pf (z15 (sz:=6) (e:=TRe.e) (l:=rv7.1) (x:=e0_))]<|
.guard [(rv7.1++e0_).length<2 ^ 63]<|
.reg 13 [] [] []<|
.frz 4 (.ev 0) none [] [0,1]<|
.r ((⟨(rv7.1++e0_),rv7.2.1,rv7.2.2.1,rv7.2.2.2⟩:TBo),0))))))
def F_q3y (a0:TBo) (a1:Y8) (a2:Int) (a3:Int) (a4:Int):=(S_q3y a0 a1 a2 a3 a4).den
theorem F_q3y_ok {a0:TBo} {a1:Y8} {a2:Int} {a3:Int} {a4:Int}:FO (F_q3y a0 a1 a2 a3 a4) 135 [(TBo.d a0),(AV.d (DV.str a1)),(vi a2),(vi a3),(vi a4)] [] (fun x=>(AV.tup [(TBo.d x.1),(vi x.2)])) NL:=fO (s:=S_q3y a0 a1 a2 a3 a4) Tryz.func135
def S_q3z (a0:TBo) (a1:Int) (a2:Int) (a3:Int) (a4:Int) (a5:Int):SC (TBo×Int) (TBo×Int) :=
 let e1_:=(⟨[],[],[],[]⟩:TBo)
.reg 0 [] [(1,{ obs:=[(1,(TBo.b e1_))] })] [.pf cz3]<|
.a 1 1 2 (@F_q1r_ok a0) fun rv1=>
 let e2_:=(0,hv (TBo.d e1_))
.ite (!rv1) (
.reg 2 [] [e2_] [.pf zm]<|
.r (e1_,1)) (
.a 3 4 2 (@F_qf_ok a1 1 (a0.A.length:Int)) fun rv2=>
.ite (!rv2) (
.reg 4 [] [e2_] [.pf zm]<|
.r (e1_,6)) (
.call (@F_qy_ok a2) fun rv3 cv3=>
.calld [(!rv3)=false] dF (@F_q17_ok a3) fun rv4 cv4 =>
 let e3_:=(cO (!rv3) (!rv4))
.calld [e3_=false] dF (@F_qf_ok a4 1 1000000) fun rv5 cv5 =>
 let e5_:=(cO e3_ (!rv5))
.calld [e5_=false] dF (@F_qy_ok a5) fun rv6 cv6 =>
.reg 5 [] [(1,hc cv3 [] true),(5,hc cv4 [] true),(10,hc cv5 [] true),(15,hc cv6 [] true)] [.cl 6 cv3 [] 2 true,.clg 4 [(!rv3)=false] cv4 [] 2 true,.clg 2 [e3_=false] cv5 [] 2 true,.clg 0 [e5_=false] cv6 [] 2 true]<|
.ite (cO e5_ (!rv6)) (
.reg 6 [] [e2_] [.pf zm]<|
.r (e1_,2)) (
 let e6_:=(i64.wrap (a1-1))
.guard [(0:Int)<=e6_,(e6_).toNat<a0.A.length]<|
.reg 7 [] [] [.ev 0,.ev 1]<|
.a 8 1 3 (@F_q16_ok a2) fun rv7=>
 let e4_:=(a0.A.getD ((e6_).toNat) dF)
.ite (rv7 != (e4_.H)) (
.reg 9 [] [e2_] [.pf zm]<|
.r (e1_,16)) (
.ite (decide (a2<(e4_.O))) (
.reg 11 [] [e2_] [.pf zm]<|
.r (e1_,8)) (
.a 12 3 3 (@F_q2r_ok a0 e4_) fun rv8=>
.ite (decide (a3>rv8)) (
.reg 13 [] [e2_] [.pf zm]<|
.r (e1_,15)) (
.ite ((a0.B.length:Int)==200) (
.reg 15 [] [e2_] [.pf zm]<|
.r (e1_,3)) (
.call (@F_q1b_ok a0) fun rv9 cv9=>
.k 16 1 cv9 [] 3 false<|
.kill 4<|
.guard [rv9.1.length<2 ^ 63]<|
.frz 5 (.ev 0) none [] [0]<|
.guard [rv9.2.2.1.length<2 ^ 63]<|
.frz 7 (.ev 0) none [] [0]<|
.guard [rv9.2.2.2.length<2 ^ 63]<|
.frz 8 (.ev 0) none [] [0]<|
.guard [(rv9.2.1.length+1) * (2 * 56)<=2 ^ 48]<|
 let e0_:=([(⟨(i64.wrap ((rv9.2.1.length:Int)+1)),a1,a2,a3,0,a4,a5⟩:TCo)]:List TCo)
 let e7_:=(rv9.2.1++e0_)
.reg 17 [] [(12,hv (AV.d (eL TCo.e e0_))),(13,{ cast:=some (AV.ref 6 (e7_.length) 0 (e7_.length)),obs:=[(6,(eS 7 TCo.e e7_))] })] [.pf (zi TCo.e e0_),.e rv9.2.1.length,.e rv9.2.1.length,.pf (p:=∀ k,k<1->(TCo.d (e0_.getD k dF)).wd=7) (fun _ _=>rfl),.ev 0,.pf (z16 (o:=6) (l:=rv9.2.1) (x:=e0_)),.pf (z15 (sz:=7) (e:=TCo.e) (l:=rv9.2.1) (x:=e0_))]<|
.guard [e7_.length<2 ^ 63]<|
.reg 18 [] [] []<|
.frz 6 (.ev 0) none [] [0,1]<|
.r ((⟨rv9.1,e7_,rv9.2.2.1,rv9.2.2.2⟩:TBo),0))))))))
def F_q3z (a0:TBo) (a1:Int) (a2:Int) (a3:Int) (a4:Int) (a5:Int):=(S_q3z a0 a1 a2 a3 a4 a5).den
theorem F_q3z_ok {a0:TBo} {a1:Int} {a2:Int} {a3:Int} {a4:Int} {a5:Int}:FO (F_q3z a0 a1 a2 a3 a4 a5) 136 [(TBo.d a0),(vi a1),(vi a2),(vi a3),(vi a4),(vi a5)] [] (fun x=>(AV.tup [(TBo.d x.1),(vi x.2)])) NL:=fO (s:=S_q3z a0 a1 a2 a3 a4 a5) Tryz.func136
end
end Go.Proofs.YtpbnkbjhlhlaiaaGreatDoor
/- What the functions compute,and that their calls return it. No condition. -/
namespace Go.Proofs.YtpbnkbjhlhlaiaaGreatDoor
open Go Go.TA
open Go.IntKind (i64)
noncomputable section
set_option maxRecDepth 100000
def S_q40 (a0:TBo) (a1:Int) (a2:Int) (a3:Int):SC (TBo×Int) (TBo×Int) :=
 let e1_:=(⟨[],[],[],[]⟩:TBo)
.reg 0 [] [(1,{ obs:=[(1,(TBo.b e1_))] })] [.pf cz3]<|
.a 1 1 2 (@F_q1r_ok a0) fun rv1=>
 let e2_:=(0,hv (TBo.d e1_))
.ite (!rv1) (
.reg 2 [] [e2_] [.pf zm]<|
.r (e1_,1)) (
.a 3 4 2 (@F_qf_ok a1 1 (a0.B.length:Int)) fun rv2=>
.ite (!rv2) (
.reg 4 [] [e2_] [.pf zm]<|
.r (e1_,6)) (
.call (@F_qy_ok a2) fun rv3 cv3=>
.calld [(!rv3)=false] dF (@F_q17_ok a3) fun rv4 cv4 =>
.reg 5 [] [(1,hc cv3 [] true),(5,hc cv4 [] true)] [.cl 2 cv3 [] 2 true,.clg 0 [(!rv3)=false] cv4 [] 2 true]<|
.ite (cO (!rv3) (!rv4)) (
.reg 6 [] [e2_] [.pf zm]<|
.r (e1_,2)) (
 let e5_:=(i64.wrap (a1-1))
.guard [(0:Int)<=e5_,(e5_).toNat<a0.B.length]<|
.reg 7 [] [] [.ev 0,.ev 1]<|
.call (@F_q16_ok a2) fun rv5 cv5=>
 let e3_:=(a0.B.getD ((e5_).toNat) dF)
.call (@F_q18_ok a0 e3_) fun rv6 cv6=>
.reg 8 [] [(1,hc cv5 [] true),(4,hc cv6 [] true)] [.cl 1 cv5 [] 3 true,.cl 0 cv6 [] 3 true]<|
.ite (decide (rv5>(i64.wrap (rv6+1)))) (
.reg 9 [] [e2_] [.pf zm]<|
.r (e1_,16)) (
.ite (decide (a2<(e3_.O))) (
.reg 11 [] [e2_] [.pf zm]<|
.r (e1_,8)) (
.a 12 3 3 (@F_q2s_ok a0 e3_) fun rv7=>
.ite (decide (a3>rv7)) (
.reg 13 [] [e2_] [.pf zm]<|
.r (e1_,15)) (
.ite ((a0.C.length:Int)==200) (
.reg 15 [] [e2_] [.pf zm]<|
.r (e1_,3)) (
.call (@F_q1b_ok a0) fun rv8 cv8=>
.k 16 1 cv8 [] 3 false<|
.kill 4<|
.guard [rv8.1.length<2 ^ 63]<|
.frz 5 (.ev 0) none [] [0]<|
.guard [rv8.2.1.length<2 ^ 63]<|
.frz 6 (.ev 0) none [] [0]<|
.guard [rv8.2.2.2.length<2 ^ 63]<|
.frz 8 (.ev 0) none [] [0]<|
.guard [(rv8.2.2.1.length+1) * (2 * 32)<=2 ^ 48]<|
 let e0_:=([(⟨(i64.wrap ((rv8.2.2.1.length:Int)+1)),a1,a2,a3⟩:TVe)]:List TVe)
 let e4_:=(rv8.2.2.1++e0_)
.reg 17 [] [(10,hv (AV.d (eL TVe.e e0_))),(11,{ cast:=some (AV.ref 7 (e4_.length) 0 (e4_.length)),obs:=[(7,(eS 4 TVe.e e4_))] })] [.pf (zi TVe.e e0_),.e rv8.2.2.1.length,.e rv8.2.2.1.length,.pf (p:=∀ k,k<1->(TVe.d (e0_.getD k dF)).wd=4) (fun _ _=>rfl),.ev 0,.pf (z16 (o:=7) (l:=rv8.2.2.1) (x:=e0_)),.pf (z15 (sz:=4) (e:=TVe.e) (l:=rv8.2.2.1) (x:=e0_))]<|
.guard [e4_.length<2 ^ 63]<|
.reg 18 [] [] []<|
.frz 7 (.ev 0) none [] [0,1]<|
.r ((⟨rv8.1,rv8.2.1,e4_,rv8.2.2.2⟩:TBo),0))))))))
def F_q40 (a0:TBo) (a1:Int) (a2:Int) (a3:Int):=(S_q40 a0 a1 a2 a3).den
theorem F_q40_ok {a0:TBo} {a1:Int} {a2:Int} {a3:Int}:FO (F_q40 a0 a1 a2 a3) 137 [(TBo.d a0),(vi a1),(vi a2),(vi a3)] [] (fun x=>(AV.tup [(TBo.d x.1),(vi x.2)])) NL:=fO (s:=S_q40 a0 a1 a2 a3) Tryz.func137
def S_q41 (a0:TBo) (a1:Int) (a2:Int):SC (TBo×Int) (TBo×Int) :=
 let e1_:=(⟨[],[],[],[]⟩:TBo)
.reg 0 [] [(1,{ obs:=[(1,(TBo.b e1_))] })] [.pf cz3]<|
.a 1 1 2 (@F_q1r_ok a0) fun rv1=>
 let e4_:=(0,hv (TBo.d e1_))
.ite (!rv1) (
.reg 2 [] [e4_] [.pf zm]<|
.r (e1_,1)) (
.a 3 4 2 (@F_qf_ok a1 1 (a0.C.length:Int)) fun rv2=>
.ite (!rv2) (
.reg 4 [] [e4_] [.pf zm]<|
.r (e1_,6)) (
.a 5 1 2 (@F_qy_ok a2) fun rv3=>
.ite (!rv3) (
.reg 6 [] [e4_] [.pf zm]<|
.r (e1_,2)) (
 let e8_:=(i64.wrap (a1-1))
.guard [(0:Int)<=e8_,(e8_).toNat<a0.C.length]<|
.reg 7 [] [] [.ev 0,.ev 1]<|
.a 8 2 3 (@F_q3d_ok a0 a1) fun rv4=>
.call (@F_q16_ok a2) fun rv5 cv5=>
 let e2_:=(a0.C.getD ((e8_).toNat) dF)
 let e6_:=(i64.wrap ((e2_.P)-1))
.call (@F_q18_ok a0 (a0.B.getD ((e6_).toNat) dF)) fun rv6 cv6=>
.guard [(0:Int)<=e6_,(e6_).toNat<a0.B.length]<|
.reg 10 [] [(1,hc cv5 [] true),(10,hc cv6 [] true)] [.cl 3 cv5 [] 3 true,.ev 0,.ev 1,.cl 2 cv6 [] 3 true]<|
.ite (decide (rv5>(i64.wrap (rv6+1)))) (
.reg 11 [] [e4_] [.pf zm]<|
.r (e1_,16)) (
 let e11_:=(rv4.length:Int)
 let e3_:=(i64.wrap (e11_-1))
 let e5_:=(decide (e11_>0))
 let e12_:=((e3_).toNat<rv4.length)
.guard [AllP [e5_=true]->((0:Int)<=e3_),AllP [e5_=true]->e12_]<|
.reg 12 [] [] [.ev 0,.ev 1]<|
 let e10_:=(rv4.getD ((e3_).toNat) dF)
.ite (bif e5_ then (!(e10_.Ab)) else false) (
.reg 13 [] [e4_] [.pf zm]<|
.r (e1_,20)) (
 let e9_:=(decide (a2<(e2_.O)))
.guard [AllP [e5_=true,e9_=false]->((0:Int)<=e3_),AllP [e5_=true,e9_=false]->e12_]<|
.reg 14 [] [] [.ev 0,.ev 1]<|
.ite (cO e9_ (bif e5_ then (decide (a2<(e10_.O))) else false)) (
.reg 15 [] [e4_] [.pf zm]<|
.r (e1_,8)) (
.ite ((a0.J.length:Int)==200) (
.reg 17 [] [e4_] [.pf zm]<|
.r (e1_,3)) (
.call (@F_q1b_ok a0) fun rv7 cv7=>
.k 18 1 cv7 [] 3 false<|
.kill 4<|
.guard [rv7.1.length<2 ^ 63]<|
.frz 5 (.ev 0) none [] [0]<|
.guard [rv7.2.1.length<2 ^ 63]<|
.frz 6 (.ev 0) none [] [0]<|
.guard [rv7.2.2.1.length<2 ^ 63]<|
.frz 7 (.ev 0) none [] [0]<|
.guard [(rv7.2.2.2.length+1) * (2 * 40)<=2 ^ 48]<|
 let e0_:=([(⟨(i64.wrap ((rv7.2.2.2.length:Int)+1)),a1,(i64.wrap (e11_+1)),a2,false⟩:TOr)]:List TOr)
 let e7_:=(rv7.2.2.2++e0_)
.reg 19 [] [(11,hv (AV.d (eL TOr.e e0_))),(12,{ cast:=some (AV.ref 8 (e7_.length) 0 (e7_.length)),obs:=[(8,(eS 5 TOr.e e7_))] })] [.pf (zi TOr.e e0_),.e rv7.2.2.2.length,.e rv7.2.2.2.length,.pf (p:=∀ k,k<1->(TOr.d (e0_.getD k dF)).wd=5) (fun _ _=>rfl),.ev 0,.pf (z16 (o:=8) (l:=rv7.2.2.2) (x:=e0_)),.pf (z15 (sz:=5) (e:=TOr.e) (l:=rv7.2.2.2) (x:=e0_))]<|
.guard [e7_.length<2 ^ 63]<|
.reg 20 [] [] []<|
.frz 8 (.ev 0) none [] [0,1]<|
.r ((⟨rv7.1,rv7.2.1,rv7.2.2.1,e7_⟩:TBo),0))))))))
def F_q41 (a0:TBo) (a1:Int) (a2:Int):=(S_q41 a0 a1 a2).den
theorem F_q41_ok {a0:TBo} {a1:Int} {a2:Int}:FO (F_q41 a0 a1 a2) 138 [(TBo.d a0),(vi a1),(vi a2)] [] (fun x=>(AV.tup [(TBo.d x.1),(vi x.2)])) NL:=fO (s:=S_q41 a0 a1 a2) Tryz.func138
def S_q23_b1 (a0:TBo) (a1:Int) (iv1:Nat) (_:Unit):SC Int (Step (Unit) Int) :=
.reg 3 [] [] [.w iv1,.ev 0]<|
 let e0_:=(a0.A.getD iv1 dF)
.ite ((e0_.F)==a1) (
.a 5 2 2 (@F_q2r_ok a0 e0_) fun rv2=>
.r (.ret rv2)) (
.r (.cont ()))
def S_q23 (a0:TBo) (a1:Int):SC Int Int :=
.range (a0.A.length:Int) a0.A.length rfl (.slot 8) 10 [1,2,8,9] (fun (_:Unit)=>[]) (fun _=>[]) () (S_q23_b1 a0 a1) (fun _ => 
.r 0) id
def F_q23 (a0:TBo) (a1:Int):=(S_q23 a0 a1).den
theorem F_q23_ok {a0:TBo} {a1:Int}:FO (F_q23 a0 a1) 182 [(TBo.d a0),(vi a1)] [] vi NL:=fO (s:=S_q23 a0 a1) Tryz.func182
def S_q42 (a0:TBo) (a1:Int) (a2:Int):SC (TBo×Int) (TBo×Int) :=
 let e2_:=(⟨[],[],[],[]⟩:TBo)
 let e7_:=(TBo.b e2_)
.reg 0 [] [(1,{ obs:=[(1,e7_)] })] [.pf cz3]<|
.a 1 1 2 (@F_q1r_ok a0) fun rv1=>
 let e5_:=(0,hv (TBo.d e2_))
.ite (!rv1) (
.reg 2 [] [e5_] [.pf zm]<|
.r (e2_,1)) (
.a 3 4 2 (@F_qf_ok a1 1 (a0.A.length:Int)) fun rv2=>
.ite (!rv2) (
.reg 4 [] [e5_] [.pf zm]<|
.r (e2_,6)) (
.a 5 1 2 (@F_q17_ok a2) fun rv3=>
.ite (!rv3) (
.reg 6 [] [e5_] [.pf zm]<|
.r (e2_,2)) (
.a 7 3 2 (@F_q23_ok a0 a1) fun rv4=>
.ite (decide (a2>rv4)) (
.reg 8 [] [e5_] [.pf zm]<|
.r (e2_,15)) (
.call (@F_q1b_ok a0) fun rv5 cv5=>
.k 9 1 cv5 [] 2 false<|
.kill 3<|
.guard [rv5.2.1.length<2 ^ 63]<|
.frz 5 (.ev 0) none [] [0]<|
.guard [rv5.2.2.1.length<2 ^ 63]<|
.frz 6 (.ev 0) none [] [0]<|
.guard [rv5.2.2.2.length<2 ^ 63]<|
.frz 7 (.ev 0) none [] [0]<|
 let e6_:=(i64.wrap (a1-1))
 let e1_:=(0+(e6_).toNat)
.guard [(0:Int)<=e6_,(e6_).toNat<rv5.1.length,e1_<rv5.1.length]<|
 let e3_:=(rv5.1.getD e1_ dF)
 let e0_:=(⟨e3_.F,e3_.E,e3_.H,e3_.O,e3_.I,(i64.wrap ((e3_.S)+a2))⟩:TRe)
 let e4_:=(rv5.1.set e1_ e0_)
 let e8_:=(eS 6 TRe.e e4_)
.reg 10 [] [(11,{ obs:=[(4,e8_)] })] [.e rv5.1.length,.ev 0,.ev 1,.e rv5.1.length,.e rv5.1.length,.ev 2,.e rv5.1.length,.ev 0,.ev 1,.e rv5.1.length,.e rv5.1.length,.ev 2,.pf (zu (sz:=6) (e:=TRe.e) (l:=rv5.1) (i:=e1_) (x:=e0_) (fun _=>rfl))]<|
 let e9_:=(AV.d (eL TVe.e rv5.2.2.1))
 let e10_:=(AV.d (eL TOr.e rv5.2.2.2))
 let e11_:=(AV.d (eL TCo.e rv5.2.1))
 let e12_:=[(3,(vp 0)),(6,(vp 1))]
.cst (A:=True) (.pf trivial) e12_ e12_ [(Ob.box (AV.agg [(AV.ref 4 rv5.1.length 0 rv5.1.length),e11_,e9_,e10_])),e7_,Ob.dead,Ob.dead,e8_,Ob.dead,Ob.dead,Ob.dead] [(Ob.box (AV.agg [(AV.ref 4 (e4_.length) 0 (e4_.length)),e11_,e9_,e10_])),e7_,Ob.dead,Ob.dead,e8_,Ob.dead,Ob.dead,Ob.dead] (fun _=>⟨by simp +zetaDelta only,by simp +zetaDelta only[yl]⟩)<|
.guard [e4_.length<2 ^ 63]<|
.reg 11 [] [] []<|
.frz 4 (.ev 0) none [] [0,1]<|
.r ((⟨e4_,rv5.2.1,rv5.2.2.1,rv5.2.2.2⟩:TBo),0)))))
def F_q42 (a0:TBo) (a1:Int) (a2:Int):=(S_q42 a0 a1 a2).den
theorem F_q42_ok {a0:TBo} {a1:Int} {a2:Int}:FO (F_q42 a0 a1 a2) 139 [(TBo.d a0),(vi a1),(vi a2)] [] (fun x=>(AV.tup [(TBo.d x.1),(vi x.2)])) NL:=fO (s:=S_q42 a0 a1 a2) Tryz.func139
def S_q43 (a0:TBo) (a1:Int) (a2:Int):SC (TBo×Int) (TBo×Int) :=
 let e2_:=(⟨[],[],[],[]⟩:TBo)
 let e7_:=(TBo.b e2_)
.reg 0 [] [(1,{ obs:=[(1,e7_)] })] [.pf cz3]<|
.a 1 1 2 (@F_q1r_ok a0) fun rv1=>
 let e6_:=(0,hv (TBo.d e2_))
.ite (!rv1) (
.reg 2 [] [e6_] [.pf zm]<|
.r (e2_,1)) (
.a 3 4 2 (@F_qf_ok a1 1 (a0.B.length:Int)) fun rv2=>
.ite (!rv2) (
.reg 4 [] [e6_] [.pf zm]<|
.r (e2_,6)) (
.a 5 1 2 (@F_q17_ok a2) fun rv3=>
.ite (!rv3) (
.reg 6 [] [e6_] [.pf zm]<|
.r (e2_,2)) (
 let e5_:=(i64.wrap (a1-1))
.call (@F_q2s_ok a0 (a0.B.getD ((e5_).toNat) dF)) fun rv4 cv4=>
.guard [(0:Int)<=e5_,(e5_).toNat<a0.B.length]<|
.reg 7 [] [(8,hc cv4 [] true)] [.ev 0,.ev 1,.cl 2 cv4 [] 2 true]<|
.ite (decide (a2>rv4)) (
.reg 8 [] [e6_] [.pf zm]<|
.r (e2_,15)) (
.call (@F_q1b_ok a0) fun rv5 cv5=>
.k 9 1 cv5 [] 2 false<|
.kill 3<|
.guard [rv5.1.length<2 ^ 63]<|
.frz 4 (.ev 0) none [] [0]<|
.guard [rv5.2.2.1.length<2 ^ 63]<|
.frz 6 (.ev 0) none [] [0]<|
.guard [rv5.2.2.2.length<2 ^ 63]<|
.frz 7 (.ev 0) none [] [0]<|
 let e1_:=(0+(e5_).toNat)
.guard [(e5_).toNat<rv5.2.1.length,e1_<rv5.2.1.length]<|
 let e3_:=(rv5.2.1.getD e1_ dF)
 let e0_:=(⟨e3_.F,e3_.L,e3_.O,e3_.I,(i64.wrap ((e3_.S)+a2)),e3_.T,e3_.W⟩:TCo)
 let e4_:=(rv5.2.1.set e1_ e0_)
 let e8_:=(eS 7 TCo.e e4_)
.reg 10 [] [(11,{ obs:=[(5,e8_)] })] [.e rv5.2.1.length,.ev 7,.ev 0,.e rv5.2.1.length,.e rv5.2.1.length,.ev 1,.e rv5.2.1.length,.ev 7,.ev 0,.e rv5.2.1.length,.e rv5.2.1.length,.ev 1,.pf (zu (sz:=7) (e:=TCo.e) (l:=rv5.2.1) (i:=e1_) (x:=e0_) (fun _=>rfl))]<|
 let e9_:=(AV.d (eL TVe.e rv5.2.2.1))
 let e10_:=(AV.d (eL TOr.e rv5.2.2.2))
 let e11_:=[(3,(vp 0)),(6,(vp 1))]
 let e12_:=(AV.d (eL TRe.e rv5.1))
.cst (A:=True) (.pf trivial) e11_ e11_ [(Ob.box (AV.agg [e12_,(AV.ref 5 rv5.2.1.length 0 rv5.2.1.length),e9_,e10_])),e7_,Ob.dead,Ob.dead,Ob.dead,e8_,Ob.dead,Ob.dead] [(Ob.box (AV.agg [e12_,(AV.ref 5 (e4_.length) 0 (e4_.length)),e9_,e10_])),e7_,Ob.dead,Ob.dead,Ob.dead,e8_,Ob.dead,Ob.dead] (fun _=>⟨by simp +zetaDelta only,by simp +zetaDelta only[yl]⟩)<|
.guard [e4_.length<2 ^ 63]<|
.reg 11 [] [] []<|
.frz 5 (.ev 0) none [] [0,1]<|
.r ((⟨rv5.1,e4_,rv5.2.2.1,rv5.2.2.2⟩:TBo),0)))))
def F_q43 (a0:TBo) (a1:Int) (a2:Int):=(S_q43 a0 a1 a2).den
theorem F_q43_ok {a0:TBo} {a1:Int} {a2:Int}:FO (F_q43 a0 a1 a2) 140 [(TBo.d a0),(vi a1),(vi a2)] [] (fun x=>(AV.tup [(TBo.d x.1),(vi x.2)])) NL:=fO (s:=S_q43 a0 a1 a2) Tryz.func140
def S_q1s_b1 (a1:Int) (rv1:R_q1b) (iv2:Nat) (_:Unit):SC (TBo×Int) (Step (Unit) (TBo×Int)) :=
.reg 9 [] [] [.e rv1.2.2.2.length,.w iv2,.ev 0]<|
 let e1_:=(rv1.2.2.2.getD (0+iv2) dF)
 let e5_:=((e1_.K)==a1)
.guard [(0+iv2)<rv1.2.2.2.length,AllP [e5_=true]->((0+iv2)<rv1.2.2.2.length)]<|
 let e4_:=(rv1.2.2.2.length=rv1.2.2.2.length)
.reg 10 [] [] [.e rv1.2.2.2.length,.e rv1.2.2.2.length,.ev 0,.pf (p:=AllP [e5_=true]->e4_) (fun _=>rfl),.pf (p:=AllP [e5_=true]->e4_) (fun _=>rfl),.ev 1]<|
.ite (bif e5_ then (!(e1_.Ab)) else false) (
 let e0_:=(⟨e1_.F,e1_.K,e1_.Z,e1_.O,true⟩:TOr)
 let e2_:=(rv1.2.2.2.set (0+iv2) e0_)
 let e6_:=(eS 5 TOr.e e2_)
.reg 11 [] [(3,{ obs:=[(7,e6_)] })] [.e rv1.2.2.2.length,.e rv1.2.2.2.length,.ev 1,.pf (zu (sz:=5) (e:=TOr.e) (l:=rv1.2.2.2) (i:=(0+iv2)) (x:=e0_) (fun _=>rfl))]<|
 let e3_:=(TBo.b (⟨[],[],[],[]⟩:TBo))
 let e7_:=(AV.d (eL TVe.e rv1.2.2.1))
 let e8_:=(AV.d (eL TCo.e rv1.2.1))
 let e9_:=[(2,(vp 0)),(4,(vp 1))]
 let e10_:=(AV.d (eL TRe.e rv1.1))
.cst (A:=True) (.pf trivial) e9_ e9_ [(Ob.box (AV.agg [e10_,e8_,e7_,(AV.ref 7 rv1.2.2.2.length 0 rv1.2.2.2.length)])),e3_,Ob.dead,Ob.dead,Ob.dead,Ob.dead,Ob.dead,e6_] [(Ob.box (AV.agg [e10_,e8_,e7_,(AV.ref 7 (e2_.length) 0 (e2_.length))])),e3_,Ob.dead,Ob.dead,Ob.dead,Ob.dead,Ob.dead,e6_] (fun _=>⟨by simp +zetaDelta only,by simp +zetaDelta only[yl]⟩)<|
.guard [e2_.length<2 ^ 63]<|
.reg 12 [] [] []<|
.frz 7 (.ev 0) none [] [0,1]<|
.r (.ret ((⟨rv1.1,rv1.2.1,rv1.2.2.1,e2_⟩:TBo),0))) (
.r (.cont ()))
def S_q1s (a0:TBo) (a1:Int):SC (TBo×Int) (TBo×Int) :=
 let e0_:=(⟨[],[],[],[]⟩:TBo)
.reg 0 [] [(1,{ obs:=[(1,(TBo.b e0_))] })] [.pf cz3]<|
.a 1 1 2 (@F_q1r_ok a0) fun rv3=>
 let e1_:=(0,hv (TBo.d e0_))
.ite (!rv3) (
.reg 2 [] [e1_] [.pf zm]<|
.r (e0_,1)) (
.a 3 4 2 (@F_qf_ok a1 1 (a0.C.length:Int)) fun rv4=>
.ite (!rv4) (
.reg 4 [] [e1_] [.pf zm]<|
.r (e0_,6)) (
.call (@F_q1b_ok a0) fun rv1 cv1=>
.k 5 1 cv1 [] 2 false<|
.kill 3<|
.guard [rv1.1.length<2 ^ 63]<|
.frz 4 (.ev 0) none [] [0]<|
.guard [rv1.2.1.length<2 ^ 63]<|
.frz 5 (.ev 0) none [] [0]<|
.guard [rv1.2.2.1.length<2 ^ 63]<|
.frz 6 (.ev 0) none [] [0]<|
.guard [rv1.2.2.2.length<2 ^ 63]<|
.range (rv1.2.2.2.length:Int) rv1.2.2.2.length rfl (.why (.ev 0)) 26 [1,2,4,25] (fun (_:Unit)=>[]) (fun _=>[]) () (S_q1s_b1 a1 rv1) (fun _ => 
.reg 14 [] [e1_] [.pf zm]<|
.r (e0_,9)) id))
def F_q1s (a0:TBo) (a1:Int):=(S_q1s a0 a1).den
theorem F_q1s_ok {a0:TBo} {a1:Int}:FO (F_q1s a0 a1) 141 [(TBo.d a0),(vi a1)] [] (fun x=>(AV.tup [(TBo.d x.1),(vi x.2)])) NL:=fO (s:=S_q1s a0 a1) Tryz.func141
def S_q44 (a0:TBo) (a1:TOp):SC (TBo×Int) (TBo×Int) :=
.reg 0 [] [(2,{ obs:=[(2,(TBo.b (⟨[],[],[],[]⟩:TBo)))] })] [.pf cz3]<|
.ite (a1.M==1) (
.a 3 9 3 (@F_q3y_ok a0 a1.E a1.H a1.O a1.I) fun rv1=>
.r (rv1.1,rv1.2)) (
.ite (a1.M==2) (
.a 5 11 3 (@F_q3z_ok a0 a1.Y a1.O a1.I a1.T a1.W) fun rv2=>
.r (rv2.1,rv2.2)) (
.ite (a1.M==3) (
.a 7 7 3 (@F_q40_ok a0 a1.Y a1.O a1.I) fun rv3=>
.r (rv3.1,rv3.2)) (
.ite (a1.M==4) (
.a 9 5 3 (@F_q41_ok a0 a1.Y a1.O) fun rv4=>
.r (rv4.1,rv4.2)) (
.ite (a1.M==5) (
.a 11 5 3 (@F_q42_ok a0 a1.Y a1.I) fun rv5=>
.r (rv5.1,rv5.2)) (
.ite (a1.M==6) (
.a 13 5 3 (@F_q43_ok a0 a1.Y a1.I) fun rv6=>
.r (rv6.1,rv6.2)) (
.a 14 3 3 (@F_q1s_ok a0 a1.Y) fun rv7=>
.r (rv7.1,rv7.2)))))))
def F_q44 (a0:TBo) (a1:TOp):=(S_q44 a0 a1).den
theorem F_q44_ok {a0:TBo} {a1:TOp}:FO (F_q44 a0 a1) 101 [(TBo.d a0),(TOp.d a1)] [] (fun x=>(AV.tup [(TBo.d x.1),(vi x.2)])) NL:=fO (s:=S_q44 a0 a1) Tryz.func101
def S_q45 (a0:TOf) (a1:Y8) (a2:Int):SC Int Int :=
.a 1 3 1 (@F_q2p_ok a0 a1 a2) fun rv1=>
.a 2 9 2 (@F_q1q_ok a0.V a1 a2) fun rv2=>
.r (i64.wrap ((i64.wrap (rv1.N-rv1.X))-rv2))
def F_q45 (a0:TOf) (a1:Y8) (a2:Int):=(S_q45 a0 a1 a2).den
theorem F_q45_ok {a0:TOf} {a1:Y8} {a2:Int}:FO (F_q45 a0 a1 a2) 102 [(TOf.d a0),(AV.d (DV.str a1)),(vi a2)] [] vi NL:=fO (s:=S_q45 a0 a1 a2) Tryz.func102
def S_q2d (a0:TOf) (a1:TOp):SC (TOf×Int) (TOf×Int) :=
 let e2_:=(⟨[],[],[],[]⟩:TBo)
 let e0_:=(⟨0,[],e2_⟩:TOf)
.reg 0 [] [(2,{ obs:=[(2,(TOf.b e0_))] })] [.pf zx]<|
.ite (a1.M==8) (
.a 3 2 3 (@F_q3r_ok a0 a1) fun rv1=>
.r (rv1.1,rv1.2)) (
.ite (a1.M==7) (
.a 5 2 3 (@F_q3t_ok a0 a1) fun rv2=>
.r (rv2.1,rv2.2)) (
.call (@F_q44_ok a0.V a1) fun rv3 cv3=>
.reg 6 [] [(3,hc cv3 [] true),(7,{ obs:=[(3,(TBo.b e2_))] })] [.cl 0 cv3 [] 3 true,.pf cz3]<|
 let e1_:=(0,hv (TOf.d e0_))
.ite (rv3.2 != 0) (
.reg 8 [] [e1_] [.pf cz2]<|
.r (e0_,rv3.2)) (
.calld [(a1.M==1)=true] dF (@F_q45_ok a0 a1.E a1.H) fun rv4 cv4 =>
.reg 9 [] [(11,hc cv4 [] true)] [.clg 0 [(a1.M==1)=true] cv4 [] 4 true]<|
.ite (bif (a1.M==1) then (decide (a1.I>rv4)) else false) (
.reg 10 [] [e1_] [.pf cz2]<|
.r (e0_,15)) (
.r ((⟨a0.F,a0.G,rv3.1⟩:TOf),0)))))
def F_q2d (a0:TOf) (a1:TOp):=(S_q2d a0 a1).den
theorem F_q2d_ok {a0:TOf} {a1:TOp}:FO (F_q2d a0 a1) 73 [(TOf.d a0),(TOp.d a1)] [] (fun x=>(AV.tup [(TOf.d x.1),(vi x.2)])) NL:=fO (s:=S_q2d a0 a1) Tryz.func73
abbrev R_q1t:=TOf×Int×Int
def S_q1t_b1 (p0:(List TOp)) (iv1:Nat) (sv2:TOf):SC R_q1t (Step (TOf) R_q1t) :=
.guard [(0+iv1)<p0.length]<|
.reg 4 [] [] [.e p0.length,.w iv1,.ev 1,.e p0.length,.ev 0]<|
 let e1_:=(p0.getD (0+iv1) dF)
.a 5 1 4 (@F_q28_ok e1_) fun rv3=>
 let e0_:=(⟨0,[],(⟨[],[],[],[]⟩:TBo)⟩:TOf)
 let e2_:=(0,hv (TOf.d e0_))
.ite (!rv3) (
.reg 6 [] [e2_] [.pf cz2]<|
.r (.ret (e0_,(iv1:Int),4))) (
.call (@F_q2d_ok sv2 e1_) fun rv4 cv4=>
.reg 7 [] [(2,hc cv4 [] true),(6,{ obs:=[(4,(TOf.b e0_))] })] [.cl 0 cv4 [] 4 true,.pf zx]<|
.ite (rv4.2 != 0) (
.reg 9 [] [e2_] [.pf cz2]<|
.r (.ret (e0_,(iv1:Int),9))) (
.c rv4.1))
def S_q1t (a0:Int) (p0:(List TOp)):SC R_q1t R_q1t :=
 let e0_:=(⟨[],[],[],[]⟩:TBo)
 let e2_:=(TOf.b (⟨0,[],e0_⟩:TOf))
.reg 0 [] [(0,{ obs:=[(1,e2_)] })] [.pf zx]<|
 let e1_:=(⟨a0,[],e0_⟩:TOf)
.reg 1 [] [(1,hv (TOf.d e1_)),(2,{ obs:=[(2,e2_)] })] [.pf (p:=LeV (AV.d (DV.agg [(DV.i .i64 a0),Z0,(DV.agg [Z0,Z0,Z0,Z0])])) (TOf.d e1_)) (z3s rfl (DLe.agg (DLeL.cons (DLe.refl _) (DLeL.cons DLe.sl0 (DLeL.cons (DLe.agg (DLeL.cons DLe.sl0 (DLeL.cons DLe.sl0 (DLeL.cons DLe.sl0 (DLeL.cons DLe.sl0 DLeL.nil))))) DLeL.nil))))),.pf zx]<|
.guard [p0.length<2 ^ 63]<|
.range (p0.length:Int) p0.length rfl (.why (.ev 0)) 16 [1,4,7,14,15] (fun (_:TOf)=>[]) (fun sv2=>[(2,(TOf.b sv2))]) e1_ (S_q1t_b1 p0) (fun sv2 => 
.r (sv2,(p0.length:Int),0)) id
def F_q1t (a0:Int) (p0:(List TOp)):=(S_q1t a0 p0).den
theorem F_q1t_ok {a0:Int} {p0:(List TOp)}:FO (F_q1t a0 p0) 66 [(vi a0),(AV.ref 0 p0.length 0 p0.length)] [(eS 10 TOp.e p0)] (fun x=>(AV.tup [(TOf.d x.1),(vi x.2.1),(vi x.2.2)])) (fun _=>[(eS 10 TOp.e p0)]):=fO (s:=S_q1t a0 p0) Tryz.func66
end
end Go.Proofs.YtpbnkbjhlhlaiaaGreatDoor
/- What the functions compute,and that their calls return it. No condition. -/
namespace Go.Proofs.YtpbnkbjhlhlaiaaGreatDoor
open Go Go.TA
open Go.IntKind (i64)
noncomputable section
set_option maxRecDepth 100000
theorem cz5:OLe (bx (DV.agg [(DV.i .i64 0),Z0,(DV.i .i64 0)])) (TJo.b (⟨0,[],0⟩:TJo)):=zao (DLe.agg (DLeL.cons (DLe.refl _) (DLeL.cons DLe.sl0 (DLeL.cons (DLe.refl _) DLeL.nil))))
theorem cz6:LeV (AV.d (DV.agg [(DV.i .i64 0),Z0,(DV.i .i64 0)])) (TJo.d (⟨0,[],0⟩:TJo)):=z3s rfl (DLe.agg (DLeL.cons (DLe.refl _) (DLeL.cons DLe.sl0 (DLeL.cons (DLe.refl _) DLeL.nil))))
abbrev R_qi:=TJo×Bool×Int
def S_qi_b1 (rv1:(List Y8)) (iv2:Nat) (sv3:Int×Int×(List TOp)):SC R_qi (Step (Int×Int×(List TOp)) R_qi) :=
.reg 11 [] [] [.w iv2,.ev 0]<|
.a 12 1 4 (@F_q3_ok (((rv1.drop 1).take (((i64.wrap ((rv1.length:Int)-1))).toNat-1)).getD iv2 dF)) fun rv4=>
.guard [(sv3.2.2.length+1) * (2 * 88)<=2 ^ 48]<|
 let e0_:=([rv4.1]:List TOp)
 let e1_:=(sv3.2.2++e0_)
.reg 13 [] [(3,hv (AV.d (eL TOp.e e0_))),(4,{ cast:=some (AV.ref 3 (e1_.length) 0 (e1_.length)),obs:=[(3,(eS 10 TOp.e e1_))] })] [.pf (zi TOp.e e0_),.e sv3.2.2.length,.e sv3.2.2.length,.pf (p:=∀ k,k<1->(TOp.d (e0_.getD k dF)).wd=10) (fun _ _=>rfl),.ev 0,.pf (z16 (o:=3) (l:=sv3.2.2) (x:=e0_)),.pf (z15 (sz:=10) (e:=TOp.e) (l:=sv3.2.2) (x:=e0_))]<|
.c (sv3.1,sv3.2.1,e1_)
def S_qi (a0:Y8):SC R_qi R_qi :=
 let e2_:=(⟨0,[],0⟩:TJo)
 let e5_:=(TJo.b e2_)
.reg 0 [] [(0,{ obs:=[(0,e5_)] })] [.pf cz5]<|
.call (@F_q50_ok a0 ([10])) fun rv1 cv1=>
.k 1 1 cv1 [] 1 false<|
.guard [rv1.length<2 ^ 63]<|
.frz 1 (.ev 0) none [5] []<|
 let e0_:=(i64.wrap ((rv1.length:Int)-1))
.guard [(0:Int)<=e0_,(e0_).toNat<rv1.length]<|
.reg 3 [] [] [.ev 0,.ev 1]<|
.call (@F_qx_ok (rv1.getD 0 dF)) fun rv5 cv5=>
.guard [0<rv1.length]<|
.reg 4 [] [(3,hc cv5 [] true),(4,{ h:=.obj }),(5,{ h:=.obj })] [.pf (p:=(0:Int)<=0) dk,.ev 0,.cl 1 cv5 [] 2 true]<|
 let e4_:=(!((rv1.getD ((e0_).toNat) dF)==([])))
 let e1_:=[(2,(vp 0)),(5,(AV.d (eL DV.str rv1))),(6,(vi e0_)),(7,(vb e4_)),(8,(vp 2))]
.sh (A:=True) (.pf trivial) e1_ e1_ [e5_,Ob.dead,(Ob.box (AV.agg [(vi rv5),(AV.full 0 fun _=>DV.b false),(vi 0)]))] [e5_,Ob.dead,(Ob.box (AV.agg [(vi rv5),(AV.ref 3 0 0 0),(vi 0)])),(eS 10 TOp.e ([]:List TOp))] (fun _=>(z54 (sz:=10) (f:=fun j=>AV.d (TOp.e (([]:List TOp).getD j dF))) (.keep _ _ _ _ (y1l rfl) (.keep _ _ _ _ (y1l rfl) (.box _ _ _ _ _ (y1l rfl) (TrV.agg (TrL.cons (TrV.keep _) (TrL.cons TrV.born (TrL.cons (TrV.keep _) TrL.nil)))) (.nil _)))))) (z24 (k:=0) rfl (TrS.keep _) (z24 (k:=1) rfl (TrS.keep _) (z24 (k:=2) rfl (TrS.keep _) (z24 (k:=3) rfl (TrS.keep _) (z24 (k:=4) rfl (TrS.keep _) z5i)))))<|
 let e3_:=(0,hv (TJo.d e2_))
.ite (cO (e0_==0) (rv5==0)) (
.reg 6 [] [e3_] [.pf cz6]<|
.r (e2_,false,4)) (
.ite (decide ((i64.wrap (e0_-1))>400)) (
.reg 8 [] [e3_] [.pf cz6]<|
.r (e2_,false,3)) (
.guard [1<=(e0_).toNat,(e0_).toNat<=rv1.length]<|
.reg 9 [] [(2,hv (AV.d (eL DV.str ((rv1.drop 1).take ((e0_).toNat-1)))))] [.pf (p:=(0:Int)<=1) dk,.ev 6,.ev 0,.ev 1,.der2 (fun (h0:1<=(e0_).toNat) (h1:(e0_).toNat<=rv1.length)=>lvC DV.str rv1 h0 h1) 0 1]<|
.range (((rv1.drop 1).take (((i64.wrap ((rv1.length:Int)-1))).toNat-1)).length:Int) (((rv1.drop 1).take (((i64.wrap ((rv1.length:Int)-1))).toNat-1)).length) rfl (.slot 47) 49 [2,7,8,47,48] (fun (_:Int×Int×(List TOp))=>[]) (fun sv3=>[(2,(Ob.box (AV.agg [(vi sv3.1),(AV.ref 3 sv3.2.2.length 0 sv3.2.2.length),(vi sv3.2.1)]))),(3,(eS 10 TOp.e sv3.2.2))]) (rv5,0,([]:List TOp)) (S_qi_b1 rv1) (fun sv3 => 
.call (@F_q1t_ok sv3.1 sv3.2.2) fun rv6 cv6=>
.reg 16 [] [(4,hc cv6 [3] true),(9,{ obs:=[(4,(TOf.b (⟨0,[],(⟨[],[],[],[]⟩:TBo)⟩:TOf)))] })] [.cl 0 cv6 [3] 4 true,.pf zx]<|
.ite (rv6.2.2 != 0) (
.reg 18 [] [e3_] [.pf cz6]<|
.r (e2_,false,rv6.2.2)) (
.guard [sv3.2.2.length<2 ^ 63]<|
.reg 19 [] [] []<|
.frz 3 (.ev 0) none [] [0,2]<|
.r ((⟨sv3.1,sv3.2.2,(sv3.2.2.length:Int)⟩:TJo),e4_,0))) id))
def F_qi (a0:Y8):=(S_qi a0).den
theorem F_qi_ok {a0:Y8}:FO (F_qi a0) 23 [(AV.d (DV.str a0))] [] (fun x=>(AV.tup [(TJo.d x.1),(vb x.2.1),(vi x.2.2)])) NL:=fO (s:=S_qi a0) Tryz.func23
def S_q4s (a0:TJo):SC Bool Bool :=
.r (bif (bif (bif (bif (decide (a0.U>=1)) then (decide (a0.U<=6)) else false) then (decide ((a0.D.length:Int)<=400)) else false) then (decide (a0.R>=0)) else false) then (decide (a0.R<=(a0.D.length:Int))) else false)
def F_q4s (a0:TJo):=(S_q4s a0).den
theorem F_q4s_ok {a0:TJo}:FO (F_q4s a0) 71 [(TJo.d a0)] [] vb NL:=fO (s:=S_q4s a0) Tryz.func71
abbrev R_q1c:=TOf×Int×Int
def S_q1c_b1 (a1:(List TOp)) (iv1:Nat) (sv2:TOf):SC R_q1c (Step (TOf) R_q1c) :=
.reg 4 [] [] [.w iv1,.ev 0]<|
.a 5 1 3 (@F_q28_ok (a1.getD iv1 dF)) fun rv3=>
 let e0_:=(⟨0,[],(⟨[],[],[],[]⟩:TBo)⟩:TOf)
 let e1_:=(0,hv (TOf.d e0_))
.ite (!rv3) (
.reg 6 [] [e1_] [.pf cz2]<|
.r (.ret (e0_,(iv1:Int),4))) (
.call (@F_q2d_ok sv2 (a1.getD iv1 dF)) fun rv4 cv4=>
.reg 7 [] [(2,hc cv4 [] true),(6,{ obs:=[(3,(TOf.b e0_))] })] [.cl 0 cv4 [] 3 true,.pf zx]<|
.ite (rv4.2 != 0) (
.reg 9 [] [e1_] [.pf cz2]<|
.r (.ret (e0_,(iv1:Int),9))) (
.c rv4.1))
def S_q1c (a0:Int) (a1:(List TOp)):SC R_q1c R_q1c :=
 let e0_:=(⟨[],[],[],[]⟩:TBo)
 let e2_:=(TOf.b (⟨0,[],e0_⟩:TOf))
.reg 0 [] [(0,{ obs:=[(0,e2_)] })] [.pf zx]<|
 let e1_:=(⟨a0,[],e0_⟩:TOf)
.reg 1 [] [(1,hv (TOf.d e1_)),(2,{ obs:=[(1,e2_)] })] [.pf (p:=LeV (AV.d (DV.agg [(DV.i .i64 a0),Z0,(DV.agg [Z0,Z0,Z0,Z0])])) (TOf.d e1_)) (z3s rfl (DLe.agg (DLeL.cons (DLe.refl _) (DLeL.cons DLe.sl0 (DLeL.cons (DLe.agg (DLeL.cons DLe.sl0 (DLeL.cons DLe.sl0 (DLeL.cons DLe.sl0 (DLeL.cons DLe.sl0 DLeL.nil))))) DLeL.nil))))),.pf zx]<|
.range (a1.length:Int) a1.length rfl (.slot 1) 16 [1,4,7,14,15] (fun (_:TOf)=>[]) (fun sv2=>[(1,(TOf.b sv2))]) e1_ (S_q1c_b1 a1) (fun sv2 => 
.r (sv2,(a1.length:Int),0)) id
def F_q1c (a0:Int) (a1:(List TOp)):=(S_q1c a0 a1).den
theorem F_q1c_ok {a0:Int} {a1:(List TOp)}:FO (F_q1c a0 a1) 66 [(vi a0),(AV.d (eL TOp.e a1))] [] (fun x=>(AV.tup [(TOf.d x.1),(vi x.2.1),(vi x.2.2)])) NL:=fO (s:=S_q1c a0 a1) Tryz.func66
def S_qp (a0:TJo):SC (TOf×Int) (TOf×Int) :=
 let e0_:=(⟨0,[],(⟨[],[],[],[]⟩:TBo)⟩:TOf)
.reg 0 [] [(1,{ obs:=[(1,(TOf.b e0_))] })] [.pf zx]<|
.a 1 1 2 (@F_q4s_ok a0) fun rv1=>
 let e1_:=(0,hv (TOf.d e0_))
.ite (!rv1) (
.reg 2 [] [e1_] [.pf cz2]<|
.r (e0_,1)) (
.call (@F_q1c_ok a0.U a0.D) fun rv2 cv2=>
.reg 3 [] [(4,hc cv2 [] true),(9,{ obs:=[(2,(TOf.b e0_))] })] [.cl 0 cv2 [] 2 true,.pf zx]<|
.ite (rv2.2.2 != 0) (
.reg 5 [] [e1_] [.pf cz2]<|
.r (e0_,1)) (
.r (rv2.1,0)))
def F_qp (a0:TJo):=(S_qp a0).den
theorem F_qp_ok {a0:TJo}:FO (F_qp a0) 29 [(TJo.d a0)] [] (fun x=>(AV.tup [(TOf.d x.1),(vi x.2)])) NL:=fO (s:=S_qp a0) Tryz.func29
def S_q1u (a0:TJo):SC Bool Bool :=
.call (@F_qp_ok a0) fun rv1 cv1=>
.reg 1 [] [(1,hc cv1 [] true),(5,{ obs:=[(1,(TOf.b (⟨0,[],(⟨[],[],[],[]⟩:TBo)⟩:TOf)))] })] [.cl 0 cv1 [] 1 true,.pf zx]<|
.r (rv1.2==0)
def F_q1u (a0:TJo):=(S_q1u a0).den
theorem F_q1u_ok {a0:TJo}:FO (F_q1u a0) 39 [(TJo.d a0)] [] vb NL:=fO (s:=S_q1u a0) Tryz.func39
open Go.RowKit
def textsM:List TOp->Option Y8
 | []=>some []
 | x :: r=>(F_q5 x).bind fun t=>(textsM r).map fun s=>t++([10]++s)
def F_q4y (a0:TJo):Option Y8 :=
 (F_q1u a0).bind fun v=>bif v then
  (F_q2i a0.U).bind fun s=>guardP ((0:Int)<=a0.R/\a0.R.toNat<=a0.D.length/\s.length<2 ^ 40/\a0.D.length<2 ^ 40) <|
  (textsM (a0.D.take a0.R.toNat)).bind fun l=>guardP (l.length<2 ^ 40) (some ([111,102,102,105,99,101,32]++s++[10]++l))
 else some []
def V_q4y (x:Y8):AV:=.d (.str x)
def L_q4y (_:Y8):List Ob:=[]
def zs7:Code:=Tryz.f27.body.getD .skip
def w27:Code:=cR zs7
def v27:Code:=cR w27
def u27:Code:=cR v27
def t27:Code:=cR u27
def cC:Code->Code
 | .cond _ x _=>x
 | _=>.skip
def cK:Code->Code
 | .block _ x=>x
 | .loop x=>x
 | _=>.skip
def l27:Code:=cK (cK (cR (cL t27)))
def m27:Code:=cR (cR l27)
def zpx:=regOps (cL zs7)
def zkg:=regOps (cL (cL w27))
def zpy:=regOps (cL (cC (cR (cL w27))))
def zaw:=regOps (cL v27)
def zax:=regOps (cL u27)
def zkh:=regOps (cL (cL t27))
def zki:=regOps (cL l27)
def zkj:=regOps (cL (cK (cL m27)))
def z8o:=regOps (cR (cK (cL m27)))
def zd3:=regOps (cR m27)
def z48:=regOps (cL (cR t27))
theorem zs8:Tryz.f27.body=some (.seq (.region 0 zpx false) (.seq (.seq (.region 1 zkg false) (.cond (.tmp 8) (.seq (.region 2 zpy false) .ret) .skip)) (.seq (.region 3 zaw false) (.seq (.region 4 zax false)
  (.seq (.seq (.region 5 zkh false) (.block 0 (.loop (.seq (.region 6 zki false) (.seq (.cond (.tmp 22) .skip (.exit 0)) (.seq (.block 1 (.seq (.region 7 zkj false) (.region 8 z8o false))) (.region 9 zd3 false))))))) (.seq (.region 10 z48 false) .ret)))))):=kj
abbrev pB (B:Nat):Value:=.pointer (some ⟨B,0,none⟩)
variable {B:Nat} {w:World}
theorem za1 {p:Value} {bs:List Value} {w':World} {T:Nat->Prop} (h:Lib.BuilderAt 101 5 B B p bs w) (ht:Turn T w w') (hT:∀ k,¬ T k):Lib.BuilderAt 101 5 B B p bs w':=by
 have hlt:=h.lt
 obtain⟨h1,v,h2,h3,h4⟩:=h
 refine⟨h1,v,(ht.same _ hlt (hT _)).trans h2,⟨h3.1,?_⟩,h4⟩
 rcases h3.2 with hn | ⟨g,cap,cur,hv,hb,hg,rest⟩
 ·exact .inl hn
 ·exact .inr ⟨g,cap,cur,hv,hb,(ht.same _ (z6d hg) (hT _)).trans hg,rest⟩
theorem zjf {bs s:Y8} (h:Lib.IsBuilder 101 5 B B (Lib.byteCells bs) w) (hlen:bs.length+s.length<=140737488355328) (hB:B<=w.heap.size) :
  Calls Tryz.prog 69 #[pB B,.string ⟨s.toArray⟩] w fun e w'=>(∃ v,e = .returned v)/\Lib.BuilderAt 101 5 B B (pB B) (Lib.byteCells (bs++s)) w'/\Below B w w' :=
 (Any.Builder_WriteString (ρ:=Tryz.lays156_ren) { Tryz.lays156 with } jExtra B B (Lib.byteCells bs) ⟨s.toArray⟩ w h (by rw[Lib.byteCells_length]; exact hlen) hB).mono fun e w' ⟨he,hb,hw⟩=>⟨⟨_,he⟩,by
  have:Lib.byteCells (bs++s)=Lib.byteCells bs++Lib.strCells ⟨s.toArray⟩:=by simp[Lib.byteCells,Lib.strCells]
  rw[this]; exact hb,hw⟩
variable {l:Y8}
theorem zqp (h:Lib.IsBuilder 101 5 B B (Lib.byteCells l) w) (h0:l≠[]) :
  Calls Tryz.prog 70 #[pB B] w fun e w'=>e = .returned (.string ⟨l.toArray⟩)/\Below B w w' :=
 Any.Builder_String (ρ:=Tryz.lays156_ren) { Tryz.lays156 with } jExtra B B l w h h0
theorem zoq (a0:TJo):AW none Tryz.prog 31 (.region 0 zpx false) (fun e fr L=>e = .normal/\fr=[(2,.d (.str [])),(1,vp 0),(0,.d (TJo.e a0))]/\L=[bx (TJo.e a0)]) [(0,.d (TJo.e a0))] [] :=
 z3e (hs:=[]) (fr':=[(2,.d (.str [])),(1,vp 0),(0,.d (TJo.e a0))]) (L':=[bx (TJo.e a0)]) (C:=[]) kj trivial ⟨rfl,rfl,rfl⟩
theorem zor (a0:TJo) (v:Bool) (b o:Nat) (hv:F_q1u a0=some v):AW none Tryz.prog 31 (.region 1 zkg false)
  (fun e fr L=>e = .normal/\fr=[(8,vb (!v)),(7,vb v),(6,.d (TJo.e a0)),(1,.imm (TJo.e a0)),(1,.d (.lit (.pointer (some ⟨b,o,none⟩))))]/\L=[]) [(1,.imm (TJo.e a0)),(1,.d (.lit (.pointer (some ⟨b,o,none⟩))))] [] :=
 z3e (hs:=[(1,{ h:=.callq (vb v) })]) (fr':=[(8,vb (!v)),(7,vb v),(6,.d (TJo.e a0)),(1,.imm (TJo.e a0)),(1,.d (.lit (.pointer (some ⟨b,o,none⟩))))]) (L':=[])
  (C:=[∀ L,CallOk Tryz.prog 39 [.d (TJo.e a0)] L (vb v) L]) kj ⟨fun L=>CallOk.pure (F_q1u_ok v hv) (fun _=>rfl) (fun _=>rfl) L,trivial⟩ ⟨rfl,rfl,rfl⟩
theorem zos:AW none Tryz.prog 31 (.seq (.region 2 zpy false) .ret) (fun e fr L=>e = .ret/\fr=[(2,.d (.str []))]/\L=[]) [] [] :=
 z45 (z3e (hs:=[]) (fr':=[(2,.d (.str []))]) (L':=[]) (C:=[]) kj trivial (zm2 ⟨rfl,rfl,rfl⟩))
def natV:Value->Nat
 | .int _ z=>z.toNat
 | _=>0
theorem zs9 {c:Cx} {n:Nat} {f:Nat->DV} {v:Value} (h:AV.IsV c (.d (.sl n f)) v):leafB v=true:=by
 cases h with
 | agg _ _ ha _=>cases ha
 | one _ _ _ h =>
  cases h with
  | d _ _ h=>cases h <;> rfl
theorem zsa {a0:TJo} {X:Nat->Prop} {b1 o1:Nat} {W0:World} {pre tot:Y8} {a:Act} (hR0:Rel (XB X B w) [] [] w) (hB:B<=w.heap.size) (h1:AV.IsV (cxOf (XB X B w) [] [] w) (.imm (TJo.e a0)) (.pointer (some ⟨b1,o1,none⟩))) (hbl:Lib.BuilderAt 101 5 B B (pB B) (Lib.byteCells pre) w) (ha1:a.tmps.getD 1 undef = .pointer (some ⟨b1,o1,none⟩)) (ha3:a.tmps.getD 3 undef=pB B) (hN:a.tmps.size=31) (hd:a.defers=[]) (hF0:(0:Int)<=a0.R) (hF1:a0.R.toNat<=a0.D.length) (hF2:a0.D.length<2 ^ 40) (hl:textsM (a0.D.take a0.R.toNat)=some l) (htot:pre++l=tot) (htl:tot.length<2 ^ 42) (hne:pre≠[]) (hW0:Turn (fun k=>W0.heap.size<=k) W0 w) (hWB:W0.heap.size<=B) :
  (Code.seq (.seq (.region 5 zkh false) (.block 0 (.loop (.seq (.region 6 zki false) (.seq (.cond (.tmp 22) .skip (.exit 0)) (.seq (.block 1 (.seq (.region 7 zkj false) (.region 8 z8o false))) (.region 9 zd3 false))))))) (.seq (.region 10 z48 false) .ret)).wpIn (fenceOf none) 0 Tryz.prog
   (fun e a' w'=>e = .ret/\a'.defers=[]/\a'.tmps.size=31/\a'.tmps.getD 2 undef = .string ⟨tot.toArray⟩/\Turn (fun k=>W0.heap.size<=k) W0 w') a w:=by
 have hbB:b1<B:=by
  have:=h1
  cases this with
  | one _ _ _ h =>
   cases h with
   | imm _ _ _ arr cs hb =>
    obtain⟨g1,_,e,fz,g3⟩:=z1f hb
    rcases yz b1 B with g | g
    ·exact g
    ·exact absurd (.inr ⟨g,z6d g3⟩) g1
 refine y2s (y2s (y33 ?_))
 rw[show List.range zkh.size=[0,1,2,3,4,5,6] from kj]
 have f5:FrIs (cxOf (XB X B w) [] [] w) (Fr.up [(1,.imm (TJo.e a0)),(3,.d (.lit (pB B)))]) a.tmps:=z4r fun x hx=>by
  simp only[yh,y14,y1u] at hx
  rcases hx with rfl | rfl
  ·exact⟨by rw[hN]; show 1<31; decide,by show AV.IsV _ _ (a.tmps.getD 1 undef); rw[ha1]; exact h1⟩
  ·exact⟨by rw[hN]; show 3<31; decide,by show AV.IsV _ _ (a.tmps.getD 3 undef); rw[ha3]; exact z38 rfl⟩
 refine zas none 0 _ _ (Fr.up [(21,vi 0),(20,vi ((a0.D.take a0.R.toNat).length:Nat)),(19,.d (eL TOp.e (a0.D.take a0.R.toNat))),(18,vi a0.R),(17,.imm (.i .i64 a0.R)),(16,.d (eL TOp.e a0.D)),(15,.imm (eL TOp.e a0.D)),(1,.imm (TJo.e a0)),(3,.d (.lit (pB B)))])
  [(0:Int)<=a0.R,a0.R.toNat<=a0.D.length,LeV (.d (.sl (a0.R.toNat-0) fun j=>TOp.e (a0.D.getD j dF))) (.d (eL TOp.e (a0.D.take a0.R.toNat)))]
  a (hs:=[(4,hv (AV.d (eL TOp.e (a0.D.take a0.R.toNat))))]) kj ⟨hF0,hF1,lvT TOp.e a0.D hF1,trivial⟩ hR0 f5 hN ?_
 intro a5 f5 n5 d5
 obtain⟨recs,hrecs⟩:∃ recs,recs=a0.D.take a0.R.toNat:=⟨_,rfl⟩
 rw[<- hrecs] at f5 hl
 have hrl:recs.length<2 ^ 40:=by rw[hrecs,y16]; omega
 obtain⟨v19,hv19⟩:∃ v,a5.tmps.getD 19 undef=v:=⟨_,rfl⟩
 have iv1:=(zp f5 (t:=19) (v:=.d (eL TOp.e recs)) sj).2
 rw[hv19] at iv1
 have l19:leafB v19=true:=zs9 iv1
 have e3:a5.tmps.getD 3 undef=pB B:=z36 (zp f5 (t:=3) (v:=.d (.lit (pB B))) sj).2
 have e20:a5.tmps.getD 20 undef = .int .i64 (recs.length:Nat):=IsV.i (zp f5 (t:=20) (v:=vi (recs.length:Nat)) sj).2
 have e21:a5.tmps.getD 21 undef = .int .i64 0:=IsV.i (zp f5 (t:=21) (v:=vi 0) sj).2
 show (Code.block 0 _).wpIn _ _ _ _ a5 w
 refine wpIn_block (wpIn_loop (fun a W=>∃ (i:Nat) (p s:Y8),i<=recs.length/\textsM (recs.drop i)=some s/\p++s=tot/\p≠[]/\Lib.BuilderAt 101 5 B B (pB B) (Lib.byteCells p) W/\Turn (fun k=>B<=k) w W/\a.tmps.size=31/\a.defers=[] /\
   a.tmps.getD 3 undef=pB B/\a.tmps.getD 19 undef=v19/\a.tmps.getD 20 undef = .int .i64 (recs.length:Nat)/\a.tmps.getD 21 undef = .int .i64 (i:Nat))
  (fun a _=>recs.length-(natV (a.tmps.getD 21 undef))) ⟨0,pre,l,y38 _,by simpa using hl,htot,hne,hbl,Turn.refl _ _,n5,d5.trans hd,e3,hv19,e20,e21⟩ ?_)
 rintro a6 W ⟨i,p,s,hi,hs,hps,hpne,hbW,tW,n6,d6,g3,g19,g20,g21⟩
 obtain⟨rW,cW⟩:=rebase hR0 tW
 have hBW:B<=W.heap.size:=y1w hB tW.size
 refine y2s (y33 ?_)
 rw[show List.range zki.size=[0] from kj]
 have f6:∀ c,FrIs c (Fr.up [(21,vi (i:Nat)),(20,vi (recs.length:Nat)),(19,.d (.lit v19)),(3,.d (.lit (pB B)))]) a6.tmps:=fun c=>z4r fun x hx=>by
  simp only[yh,y14,y1u] at hx
  rcases hx with rfl | rfl | rfl | rfl
  ·exact⟨by rw[n6]; show 21<31; decide,by show AV.IsV _ _ (a6.tmps.getD 21 undef); rw[g21]; exact z2e _ _⟩
  ·exact⟨by rw[n6]; show 20<31; decide,by show AV.IsV _ _ (a6.tmps.getD 20 undef); rw[g20]; exact z2e _ _⟩
  ·exact⟨by rw[n6]; show 19<31; decide,by show AV.IsV _ _ (a6.tmps.getD 19 undef); rw[g19]; exact z38 l19⟩
  ·exact⟨by rw[n6]; show 3<31; decide,by show AV.IsV _ _ (a6.tmps.getD 3 undef); rw[g3]; exact z38 rfl⟩
 refine zas none 0 _ _ (Fr.up [(22,vb (decide ((i:Int)<(recs.length:Nat)))),(21,vi (i:Nat)),(20,vi (recs.length:Nat)),(19,.d (.lit v19)),(3,.d (.lit (pB B)))]) [] a6 (hs:=[]) kj trivial rW (f6 _) n6 ?_
 intro a7 f7 n7 d7
 have k22:a7.tmps.getD 22 undef = .bool (decide ((i:Int)<(recs.length:Nat))):=IsV.b (zp f7 (t:=22) (v:=vb (decide ((i:Int)<(recs.length:Nat)))) sj).2
 have k21:a7.tmps.getD 21 undef = .int .i64 (i:Nat):=IsV.i (zp f7 (t:=21) (v:=vi (i:Nat)) sj).2
 have k20:a7.tmps.getD 20 undef = .int .i64 (recs.length:Nat):=IsV.i (zp f7 (t:=20) (v:=vi (recs.length:Nat)) sj).2
 have k19:a7.tmps.getD 19 undef=v19:=z36 (zp f7 (t:=19) (v:=.d (.lit v19)) sj).2
 have k3:a7.tmps.getD 3 undef=pB B:=z36 (zp f7 (t:=3) (v:=.d (.lit (pB B))) sj).2
 show (Code.seq (.cond (.tmp 22) .skip (.exit 0)) _).wpIn _ _ _ _ a7 W
 refine y2s ?_
 by_cases hin:i<recs.length
 ·have cv2:a7.eval (.tmp 22) = .bool true:=by
   show a7.tmps.getD 22 undef=_
   rw[k22,y1z om]
  refine y55 cv2 (wpIn_skip ?_)
  show (Code.seq (.block 1 _) (.region 9 zd3 false)).wpIn _ _ _ _ a7 W
  refine y2s (wpIn_block (y2s (y33 ?_)))
  rw[show List.range zkj.size=[0,1,2,3] from kj]
  obtain⟨x,hx⟩:∃ x,x=recs.getD i dF:=⟨_,rfl⟩
  obtain⟨tx,sx,htx,hsx,rfl⟩:∃ tx sx,F_q5 x=some tx/\textsM (recs.drop (i+1))=some sx/\s=tx++([10]++sx):=by
   rw[y12 hin] at hs
   have hxe:recs[i]=x:=by rw[hx,y9,ya hin]; rfl
   rw[hxe] at hs
   simp only[textsM] at hs
   obtain⟨tx,h1,h2⟩:=z3r hs
   obtain⟨sx,h3,h4⟩:=Option.map_eq_some_iff.1 h2
   exact⟨tx,sx,h1,h3,h4.symm⟩
  have f7':FrIs (cxOf (XB X B W) [] [] W) (Fr.up [(21,vi (i:Nat)),(19,.d (eL TOp.e recs)),(19,.d (.lit v19)),(20,vi (recs.length:Nat)),(3,.d (.lit (pB B)))]) a7.tmps:=z4r fun y hy=>by
   simp only[yh,y14,y1u] at hy
   rcases hy with rfl | rfl | rfl | rfl | rfl
   ·exact⟨by rw[n7]; show 21<31; decide,by show AV.IsV _ _ (a7.tmps.getD 21 undef); rw[k21]; exact z2e _ _⟩
   ·exact⟨by rw[n7]; show 19<31; decide,by show AV.IsV _ _ (a7.tmps.getD 19 undef); rw[k19]; exact iv1.mono cW⟩
   ·exact⟨by rw[n7]; show 19<31; decide,by show AV.IsV _ _ (a7.tmps.getD 19 undef); rw[k19]; exact z38 l19⟩
   ·exact⟨by rw[n7]; show 20<31; decide,by show AV.IsV _ _ (a7.tmps.getD 20 undef); rw[k20]; exact z2e _ _⟩
   ·exact⟨by rw[n7]; show 3<31; decide,by show AV.IsV _ _ (a7.tmps.getD 3 undef); rw[k3]; exact z38 rfl⟩
  refine z27 none 0 _ _ _ (Fr.up [(5,vp 0),(24,.d (TOp.e (recs.getD i dF))),(23,.imm (TOp.e (recs.getD i dF))),(21,vi (i:Nat)),(19,.d (eL TOp.e recs)),(19,.d (.lit v19)),(20,vi (recs.length:Nat)),(3,.d (.lit (pB B)))]) [bx (TOp.e (recs.getD i dF))]
   [(0:Int)<=(i:Nat),i<recs.length] [] W a7 (hs:=[]) kj ⟨y4i _,hin,trivial⟩ rW f7' n7 ?_
  intro a8 ms8 W8 r8 x8 c8 f8 n8 d8
  rw[<- hx] at f8 r8 c8
  show (Code.region 8 z8o false).wpIn _ _ _ _ a8 W8
  refine y33 ?_
  rw[show List.range z8o.size=[0,1,2]++[3] from kj]
  have hlen:p.length+(tx++[10]).length<=tot.length:=by rw[<- hps]; simp
  refine z7g (z:=none) (hs:=[(1,{ h:=.callq (.d (.str tx)) })]) (L1:=[bx (TOp.e x)])
   (G1:=Fr.up [(27,.d (.str (tx++[10]))),(26,.d (.str tx)),(25,.d (TOp.e x)),(5,vp 0),(24,.d (TOp.e x)),(23,.imm (TOp.e x)),(21,vi (i:Nat)),(19,.d (eL TOp.e recs)),(19,.d (.lit v19)),(20,vi (recs.length:Nat)),(3,.d (.lit (pB B)))])
   (C:=[∀ L,CallOk Tryz.prog 17 [.d (TOp.e x)] L (.d (.str tx)) L,tx.length+([10]:Y8).length<2 ^ 63]) kj
   ⟨fun L=>CallOk.pure (F_q5_ok tx htx) (fun _=>rfl) (fun _=>rfl) L,by simp at hlen |-; omega,trivial⟩ r8 f8 n8 ?_
  intro a9 ms9 W9 r9 x9 c9 f9 n9 d9
  have j27:a9.tmps.getD 27 undef = .string ⟨(tx++[10]).toArray⟩:=IsV.str (zp f9 (t:=27) (v:=.d (.str (tx++[10]))) sj).2
  have j21:a9.tmps.getD 21 undef = .int .i64 (i:Nat):=IsV.i (zp f9 (t:=21) (v:=vi (i:Nat)) sj).2
  have j20:a9.tmps.getD 20 undef = .int .i64 (recs.length:Nat):=IsV.i (zp f9 (t:=20) (v:=vi (recs.length:Nat)) sj).2
  have j19:a9.tmps.getD 19 undef=v19:=z36 (zp f9 (t:=19) (v:=.d (.lit v19)) sj).2
  have j3:a9.tmps.getD 3 undef=pB B:=z36 (zp f9 (t:=3) (v:=.d (.lit (pB B))) sj).2
  have t9:Turn (fun _=>False) W W9:=(x8.trans x9).turn (fun b ⟨o,tc,h⟩=>by simp at h) _
  have hb9:=za1 hbW t9 (fun _ h=>h)
  have hB9:B<=W9.heap.size:=y1w hBW t9.size
  have z8:∀ (a:Act) (w:World),(execOp a.eval (opAt z8o 3)).run Tryz.prog w = .ok (.enter 69 #[a.tmps.getD 3 undef,a.tmps.getD 27 undef]) w:=fun a w=>kj
  refine z5n (o:=opAt z8o 3) kj kj (zau (z8 a9 W9) ?_)
  rw[j3,j27]
  refine y3p.2 ((zjf (B:=B) (bs:=p) (s:=tx++[10]) (.inr hb9) om hB9).mono ?_)
  rintro e W10 ⟨⟨v,rfl⟩,hb10,hbel⟩
  refine⟨v,rfl,?_⟩
  rw[show (opAt z8o 3).dst=some 28 from kj]
  show (Code.region 9 zd3 false).wpIn _ _ _ _ (a9.put (some 28) v) W10
  have tW10:Turn (fun k=>B<=k) w W10:=(tW.trans (t9.mono fun _ h=>h.elim)).trans (Below.turn hbel)
  obtain⟨rX,cX⟩:=rebase hR0 tW10
  obtain⟨aX,haX⟩:∃ aX,aX=a9.put (some 28) v:=⟨_,rfl⟩
  have nX:aX.tmps.size=31:=by rw[haX]; simpa [Act.put] using n9
  have dX:aX.defers=[]:=by rw[haX]; exact d9.trans (d8.trans (d7.trans d6))
  have y21:aX.tmps.getD 21 undef = .int .i64 (i:Nat):=by rw[haX,z2l dk]; exact j21
  have y20:aX.tmps.getD 20 undef = .int .i64 (recs.length:Nat):=by rw[haX,z2l dk]; exact j20
  have y19:aX.tmps.getD 19 undef=v19:=by rw[haX,z2l dk]; exact j19
  have y3:aX.tmps.getD 3 undef=pB B:=by rw[haX,z2l dk]; exact j3
  rw[<- haX]
  have fX:FrIs (cxOf (XB X B W10) [] [] W10) (Fr.up [(21,vi (i:Nat)),(20,vi (recs.length:Nat)),(19,.d (.lit v19)),(3,.d (.lit (pB B)))]) aX.tmps:=z4r fun x hx=>by
   simp only[yh,y14,y1u] at hx
   rcases hx with rfl | rfl | rfl | rfl
   ·exact⟨by rw[nX]; show 21<31; decide,by show AV.IsV _ _ (aX.tmps.getD 21 undef); rw[y21]; exact z2e _ _⟩
   ·exact⟨by rw[nX]; show 20<31; decide,by show AV.IsV _ _ (aX.tmps.getD 20 undef); rw[y20]; exact z2e _ _⟩
   ·exact⟨by rw[nX]; show 19<31; decide,by show AV.IsV _ _ (aX.tmps.getD 19 undef); rw[y19]; exact z38 l19⟩
   ·exact⟨by rw[nX]; show 3<31; decide,by show AV.IsV _ _ (aX.tmps.getD 3 undef); rw[y3]; exact z38 rfl⟩
  refine y33 ?_
  rw[show List.range zd3.size=[0,1] from kj]
  refine zas none 0 _ _ (Fr.up [(21,vi (i64.wrap ((i:Nat)+1))),(29,vi (i64.wrap ((i:Nat)+1))),(20,vi (recs.length:Nat)),(19,.d (.lit v19)),(3,.d (.lit (pB B)))]) [] aX (hs:=[]) kj trivial rX fX nX ?_
  intro aY fY nY dY
  have hwr:i64.wrap ((i:Nat)+1)=((i+1:Nat):Int):=by rw[IntKind.wrap_i64]; omega
  rw[hwr] at fY
  have u21:aY.tmps.getD 21 undef = .int .i64 (i+1:Nat):=IsV.i (zp fY (t:=21) (v:=vi ((i+1:Nat):Int)) sj).2
  have u20:aY.tmps.getD 20 undef = .int .i64 (recs.length:Nat):=IsV.i (zp fY (t:=20) (v:=vi (recs.length:Nat)) sj).2
  have u19:aY.tmps.getD 19 undef=v19:=z36 (zp fY (t:=19) (v:=.d (.lit v19)) sj).2
  have u3:aY.tmps.getD 3 undef=pB B:=z36 (zp fY (t:=3) (v:=.d (.lit (pB B))) sj).2
  refine⟨⟨i+1,p++(tx++[10]),sx,hin,hsx,by rw[<- hps]; simp,sj,hb10,tW10,nY,dY.trans dX,u3,u19,u20,u21⟩,?_⟩
  show recs.length-natV (aY.tmps.getD 21 undef)<recs.length-natV (a6.tmps.getD 21 undef)
  rw[u21,g21]
  show recs.length-((i+1:Nat):Int).toNat<recs.length-((i:Nat):Int).toNat
  simp only[yi]
  omega
 ·have cv2:a7.eval (.tmp 22) = .bool false:=by
   show a7.tmps.getD 22 undef=_
   rw[k22,yx om]
  refine y4x cv2 (wpIn_exit ?_)
  show (Code.seq (.region 10 z48 false) .ret).wpIn _ _ _ _ a7 W
  obtain rfl:i=recs.length:=om
  rw[List.drop_length] at hs
  simp only[textsM,yq] at hs
  subst hs
  rw[y2v] at hps
  subst hps
  refine y2s (y33 ?_)
  rw[show List.range z48.size=[0,1] from kj]
  have z1:∀ (a:Act) (w:World),(execOp a.eval (opAt z48 0)).run Tryz.prog w = .ok (.enter 70 #[a.tmps.getD 3 undef]) w:=fun a w=>kj
  have z2:∀ (a:Act) (w:World),(execOp a.eval (opAt z48 1)).run Tryz.prog w = .ok (.value (a.tmps.getD 30 undef)) w:=fun a w=>kj
  refine z5n (o:=opAt z48 0) kj kj (zau (z1 a7 W) ?_)
  rw[k3]
  refine y3p.2 ((zqp (B:=B) (.inr hbW) hpne).mono ?_)
  rintro e W2 ⟨rfl,hbel⟩
  refine⟨_,rfl,?_⟩
  rw[show (opAt z48 0).dst=some 30 from kj]
  refine z5n (o:=opAt z48 1) kj kj (OpOk.value (z:=none) (z2 _ W2) ?_)
  rw[zc9 (by rw[n7]; decide),show (opAt z48 1).dst=some 2 from kj]
  have s2:(a7.put (some 30) (Value.string ⟨p.toArray⟩)).tmps.size=31:=by simpa [Act.put] using n7
  refine wpIn_ret ⟨rfl,d7.trans d6,by simpa [Act.put] using s2,zc9 (by rw[s2]; decide),?_⟩
  exact (hW0.trans (tW.mono fun k hk=>om)).trans ((Below.turn hbel).mono fun k hk=>om)
theorem F_q4y_ok {a0:TJo} (r:Y8) (h:F_q4y a0=some r):CallOk Tryz.prog 27 [(TJo.d a0)] [] (V_q4y r) (L_q4y r):=by
 unfold F_q4y at h
 obtain⟨v,hv,h⟩:=z3r h
 show CallOk Tryz.prog 27 [(TJo.d a0)] [] (.d (.str r)) []
 refine z3f fun X ms w us hr hus=>?_
 obtain rfl:ms=[]:=y3e (by simpa using hr.len)
 obtain⟨u0,rfl,hu0⟩:∃ u0,us=[u0]/\AV.IsV (cxOf X [] [] w) (.d (TJo.e a0)) u0:=by
  cases hus with
  | cons _ _ u us h1 h2=>cases h2; exact⟨u,rfl,h1⟩
 refine calls_of_wp Tryz.func27 zs8 (wpIn_wide (n:=0).1 ?_)
 obtain⟨aa,haa⟩:∃ aa:Act,aa={ tmps:=[u0].toArray++Array.replicate (Tryz.f27.ntmps - [u0].toArray.size) undef,defers:=[] }:=⟨_,rfl⟩
 rw[<- haa]
 have hN:Tryz.f27.ntmps=31:=kj
 have nA:aa.tmps.size=31:=by rw[haa,hN]; simp
 have dA:aa.defers=[]:=by rw[haa]
 have f0:FrIs (cxOf X [] [] w) (Fr.up [(0,.d (TJo.e a0))]) aa.tmps:=z4r fun x hx=>by
  simp only[yh,y14,y1u] at hx
  subst hx
  refine⟨by rw[nA]; show 0<31; decide,?_⟩
  have:aa.tmps.getD 0 undef=u0:=by rw[haa]; simp
  show AV.IsV _ _ (aa.tmps.getD 0 undef)
  rw[this]; exact hu0
 refine y2e (Q:=fun e a' w'=>e = .ret/\a'.defers=[]/\a'.tmps.size=31/\a'.tmps.getD 2 undef = .string ⟨r.toArray⟩/\Turn (fun k=>w.heap.size<=k) w w') ?_ ?_
 case refine_2 =>
  rintro e a1 w1 ⟨rfl,d1,n1,g2,ht⟩
  have hb:=ht.below (yd _)
  have hgr:=hr.grow (z6h hb)
  have fz:FrIs (cxOf X [] [] w1) (Fr.up [(2,.d (.str r))]) a1.tmps:=z4r fun x hx=>by
   simp only[yh,y14,y1u] at hx
   subst hx
   exact⟨by rw[n1]; show 2<31; decide,by show AV.IsV _ _ (a1.tmps.getD 2 undef); rw[g2]; exact z3d _⟩
  obtain⟨u,k1,k2⟩:=z7y (fn:=Tryz.f27) (v:=.d (.str r)) (C:=[]) hgr.1 fz kj trivial
  exact⟨d1,u,k1,u,rfl,hb,fun c=>by rw[IsV.str k2]; exact z3d _⟩
 refine y2s (y2e (zoq a0 0 [] X [] w aa hr f0 nA dA) ?_)
 rintro e aB wB ⟨msB,frB,LB,⟨rfl,rfl,rfl⟩,rB,xB,cB,fB,nB,dB⟩
 -- the box is not written any more
 obtain⟨ms2,r2,x2,c2,hfb⟩:=zmm (P:=[]) (D:=[]) (x:=TJo.e a0) (o:=0) rfl X msB wB rB
 have i1:=(zp fB (t:=1) (v:=vp 0) sj).2
 have i1':=hfb _ (IsV.is1 rfl sj sj i1)
 obtain⟨b1,o1,e1⟩:∃ b o,aB.tmps.getD 1 undef = .pointer (some ⟨b,o,none⟩):=by
  generalize aB.tmps.getD 1 undef=v at i1'
  cases i1' with
  | imm _ b o _ _ _ _ _=>exact⟨b,o,rfl⟩
 rw[e1] at i1'
 have r3:Rel X [] [] wB:=Rel.forget (L:=[]) (J:=[.dead]) r2 (fun o obj h=>by simp at h)
 have x3:Ext [] w [] wB:=(xB.trans x2).forget 0
 have i2:AV.IsV (cxOf X [] [] wB) (.imm (TJo.e a0)) (.pointer (some ⟨b1,o1,none⟩)):=AV.IsV.cut (z52 (L:=[]) (J:=[.dead])) (.one _ _ rfl i1') rfl
 have tB:Turn (fun k=>w.heap.size<=k) w wB:=x3.turn (fun b ⟨o,tc,h⟩=>by simp at h) _
 have fC:FrIs (cxOf X [] [] wB) (Fr.up [(1,.imm (TJo.e a0)),(1,.d (.lit (.pointer (some ⟨b1,o1,none⟩))))]) aB.tmps:=z4r fun x hx=>by
  simp only[yh,y14,y1u] at hx
  rcases hx with rfl | rfl
  ·exact⟨by rw[nB]; show 1<31; decide,by show AV.IsV _ _ (aB.tmps.getD 1 undef); rw[e1]; exact i2⟩
  ·exact⟨by rw[nB]; show 1<31; decide,by show AV.IsV _ _ (aB.tmps.getD 1 undef); rw[e1]; exact z38 rfl⟩
 show (Code.seq (.seq (.region 1 zkg false) _) _).wpIn _ _ _ _ aB wB
 refine y2s (y2s (y2e (zor a0 v b1 o1 hv 0 [] X [] wB aB r3 fC nB dB) ?_))
 rintro e aC wC ⟨msC,frC,LC,⟨rfl,rfl,rfl⟩,rC,xC,cC',fC,nC,dC⟩
 obtain rfl:msC=[]:=y3e (by simpa using rC.len)
 have tC:Turn (fun k=>w.heap.size<=k) w wC:=tB.trans (xC.turn (fun b ⟨o,tc,h⟩=>by simp at h) _)
 show (Code.cond (.tmp 8) _ _).wpIn _ _ _ _ aC wC
 have c8:aC.eval (.tmp 8) = .bool (!v):=IsV.b (zp fC (t:=8) (v:=vb (!v)) sj).2
 cases v with
 | false =>
  simp only[y4k,yq] at h
  subst h
  refine y55 c8 (y2e (zos 0 [] X [] wC aC rC (fun x hx=>by cases hx) nC dC) ?_)
  rintro e aD wD ⟨msD,frD,LD,⟨rfl,rfl,rfl⟩,rD,xD,_,fD,nD,dD⟩
  exact⟨rfl,dD,nD,IsV.str (zp fD (t:=2) (v:=.d (.str [])) sj).2,tC.trans (xD.turn (fun b ⟨o,tc,h⟩=>by simp at h) _)⟩
 | true =>
  simp only[cond_true] at h
  obtain⟨s,hs,h⟩:=z3r h
  obtain⟨⟨hF0,hF1,hF2,hF3⟩,h⟩:=z1b h
  obtain⟨l,hl,h⟩:=z3r h
  obtain⟨hll,h⟩:=z1b h
  obtain rfl:=yw h
  refine y4x c8 (wpIn_skip ?_)
  show (Code.seq (.region 3 zaw false) _).wpIn _ _ _ _ aC wC
  refine y2s (y33 ?_)
  rw[show List.range zaw.size=[0] from kj]
  have z3:∀ (a:Act) (w:World),(execOp a.eval (opAt zaw 0)).run Tryz.prog w = .ok (.value (.pointer (some ⟨w.heap.size,0,none⟩))) (w.alloc (.cells #[.pointer none,.slice none 0 0] 101)):=fun a w=>kj
  refine z5n (o:=opAt zaw 0) kj kj (OpOk.value (z:=none) (z3 aC wC) ?_)
  rw[show (opAt zaw 0).dst=some 3 from kj]
  obtain⟨B,hBd⟩:∃ B,B=wC.heap.size:=⟨_,rfl⟩
  rw[<- hBd]
  obtain⟨wD,hwD⟩:∃ wD,wD=wC.alloc (.cells #[.pointer none,.slice none 0 0] 101):=⟨_,rfl⟩
  rw[<- hwD]
  have tD0:Turn (fun k=>B<=k) wC wD:=by rw[hwD]; exact⟨(Grow.alloc wC _).out,(Grow.alloc wC _).size,fun k hk _=>(Grow.alloc wC _).same k hk⟩
  have hsD:wD.heap.size=B+1:=by rw[hwD,hBd]; simp
  have rC0:Rel (XB X B wC) [] [] wC/\(cxOf X [] [] wC).le (cxOf (XB X B wC) [] [] wC):=relTurn rC (Turn.refl (fun _=>False) wC) (fun _ h=>h.elim) (fun k hk=>by
   rcases hk with hk | ⟨h1,h2⟩
   ·exact .inl hk
   ·omega) (fun k hk=>by
   rcases hk with hk | ⟨h1,h2⟩
   ·exact rC.xlt k hk
   ·exact h2)
  obtain⟨rD,cD⟩:=rebase rC0.1 tD0
  have i4:=((i2.mono cC').mono rC0.2).mono cD
  have q1:aC.tmps.getD 1 undef = .pointer (some ⟨b1,o1,none⟩):=z36 (zp fC (t:=1) (v:=.d (.lit (.pointer (some ⟨b1,o1,none⟩)))) sj).2
  obtain⟨aD,haD⟩:∃ aD,aD=aC.put (some 3) (.pointer (some ⟨B,0,none⟩)):=⟨_,rfl⟩
  rw[<- haD]
  have nD:aD.tmps.size=31:=by rw[haD]; simpa [Act.put] using nC
  have dD:aD.defers=[]:=by rw[haD]; exact dC
  have p1:aD.tmps.getD 1 undef = .pointer (some ⟨b1,o1,none⟩):=by rw[haD,z2l dk]; exact q1
  have p3:aD.tmps.getD 3 undef=pB B:=by rw[haD,zc9 (by rw[nC]; decide)]
  have fD:FrIs (cxOf (XB X B wD) [] [] wD) (Fr.up [(1,.imm (TJo.e a0)),(1,.d (.lit (.pointer (some ⟨b1,o1,none⟩)))),(3,.d (.lit (pB B)))]) aD.tmps:=z4r fun x hx=>by
   simp only[yh,y14,y1u] at hx
   rcases hx with rfl | rfl | rfl
   ·exact⟨by rw[nD]; show 1<31; decide,by show AV.IsV _ _ (aD.tmps.getD 1 undef); rw[p1]; exact i4⟩
   ·exact⟨by rw[nD]; show 1<31; decide,by show AV.IsV _ _ (aD.tmps.getD 1 undef); rw[p1]; exact z38 rfl⟩
   ·exact⟨by rw[nD]; show 3<31; decide,by show AV.IsV _ _ (aD.tmps.getD 3 undef); rw[p3]; exact z38 rfl⟩
  have hbD:Lib.BuilderAt 101 5 B B (.pointer none) (Lib.byteCells []) wD:=⟨yd _,.slice none 0 0,by rw[hwD,hBd]; exact z1r wC _,World.ownsRow_nil _ _ _ _,by simp[Value.ownBlock]⟩
  show (Code.seq (.region 4 zax false) _).wpIn _ _ _ _ aD wD
  refine y2s (y33 ?_)
  rw[show List.range zax.size=[0,1,2,3,4]++[5] from kj]
  obtain⟨of,hof⟩:∃ of:Y8,of=[111,102,102,105,99,101,32]:=⟨_,rfl⟩
  refine z7g (z:=none) (hs:=[(2,{ h:=.callq (.d (.str s)) })]) (L1:=[])
   (G1:=Fr.up [(13,.d (.str (([111,102,102,105,99,101,32]++s)++[10]))),(12,.d (.str ([111,102,102,105,99,101,32]++s))),(11,.d (.str s)),(10,vi a0.U),(9,.imm (.i .i64 a0.U)),(1,.imm (TJo.e a0)),(1,.d (.lit (.pointer (some ⟨b1,o1,none⟩)))),(3,.d (.lit (pB B)))])
   (C:=[∀ L,CallOk Tryz.prog 58 [vi a0.U] L (.d (.str s)) L,([111,102,102,105,99,101,32]:Y8).length+s.length<2 ^ 63,(([111,102,102,105,99,101,32]:Y8)++s).length+([10]:Y8).length<2 ^ 63]) kj
   ⟨fun L=>CallOk.pure (F_q2i_ok s hs) (fun _=>rfl) (fun _=>rfl) L,sk,sk,trivial⟩ rD fD nD ?_
  intro aE msE wE rE xE cE fE nE dE
  obtain rfl:msE=[]:=y3e (by simpa using rE.len)
  have j13:aE.tmps.getD 13 undef = .string ⟨(([111,102,102,105,99,101,32]++s)++[10]).toArray⟩:=IsV.str (zp fE (t:=13) (v:=.d (.str (([111,102,102,105,99,101,32]++s)++[10]))) sj).2
  have j1:aE.tmps.getD 1 undef = .pointer (some ⟨b1,o1,none⟩):=z36 (zp fE (t:=1) (v:=.d (.lit (.pointer (some ⟨b1,o1,none⟩)))) sj).2
  have j3:aE.tmps.getD 3 undef=pB B:=z36 (zp fE (t:=3) (v:=.d (.lit (pB B))) sj).2
  have tE:Turn (fun _=>False) wD wE:=xE.turn (fun b ⟨o,tc,h⟩=>by simp at h) _
  have hbE:=za1 hbD tE (fun _ h=>h)
  have hBE:B<=wE.heap.size:=by have:=tE.size; omega
  have z4:∀ (a:Act) (w:World),(execOp a.eval (opAt zax 5)).run Tryz.prog w = .ok (.enter 69 #[a.tmps.getD 3 undef,a.tmps.getD 13 undef]) w:=fun a w=>kj
  refine z5n (o:=opAt zax 5) kj kj (zau (z4 aE wE) ?_)
  rw[j3,j13]
  refine y3p.2 ((zjf (B:=B) (bs:=[]) (s:=([111,102,102,105,99,101,32]++s)++[10]) (.inl hbE) sk hBE).mono ?_)
  rintro e wF ⟨⟨v,rfl⟩,hbF,hbel⟩
  refine⟨v,rfl,?_⟩
  rw[show (opAt zax 5).dst=some 14 from kj]
  have tF:Turn (fun k=>B<=k) wD wF:=(tE.mono fun _ h=>h.elim).trans (Below.turn hbel)
  obtain⟨rF,cF⟩:=rebase rD tF
  have hBw:w.heap.size<=B:=by rw[hBd]; exact tC.size
  refine zsa (W0:=w) (X:=X) (B:=B) (pre:=([111,102,102,105,99,101,32]++s)++[10]) rF (by have:=tF.size; omega) (i4.mono cF) (by simpa using hbF) (by rw[z2l dk]; exact j1) (by rw[z2l dk]; exact j3)
   (by simpa [Act.put] using nE) (dE.trans dD) hF0 hF1 hF3 hl rfl sk sj ((tC.trans (tD0.mono fun k hk=>om)).trans (tF.mono fun k hk=>om)) hBw
def S_q1v:SC Bool Bool :=
.call (@F_qi_ok ([111,102,102,105,99,101,32,50,10,104,101,97,114,32,49,32,49,50,32,49,48,48,32,48,10,114,101,115,101,114,118,101,32,49,32,49,50,32,52,51])) fun rv1 cv1=>
.reg 1 [] [(0,hc cv1 [] true),(5,{ obs:=[(0,(TJo.b (⟨0,[],0⟩:TJo)))] })] [.cl 0 cv1 [] 0 true,.pf cz5]<|
.call (@F_qp_ok rv1.1) fun rv2 cv2=>
.reg 2 [] [(1,hc cv2 [] true),(5,{ obs:=[(1,(TOf.b (⟨0,[],(⟨[],[],[],[]⟩:TBo)⟩:TOf)))] })] [.cl 0 cv2 [] 1 true,.pf zx]<|
 let e0_:=(bif (bif (bif (bif (bif (rv1.2.2==0) then rv1.2.1 else false) then ((rv1.1.D.length:Int)==1) else false) then (rv2.2==0) else false) then (rv2.1.F==2) else false) then ((rv2.1.G.length:Int)==1) else false)
.calld [e0_=true] dF (@F_q4y_ok rv1.1) fun rv3 cv3 =>
.reg 3 [] [(28,hc cv3 [] true)] [.clg 0 [e0_=true] cv3 [] 2 true]<|
.r (bif e0_ then (rv3==([111,102,102,105,99,101,32,50,10,104,101,97,114,32,49,32,49,50,32,49,48,48,32,48,10])) else false)
def F_q1v:=(S_q1v).den
theorem F_q1v_ok :FO (F_q1v) 8 [] [] vb NL:=fO (s:=S_q1v) Tryz.func8
def S_q2e (a0:(List Int)):SC TTape TTape :=
 let e0_:=(if 500<(a0.length:Int) then 500 else (a0.length:Int))
.guard [(0:Int)<=e0_,(e0_).toNat<=a0.length]<|
 let e1_:=(a0.take ((e0_).toNat))
.reg 1 [] [(4,hv (vl e1_))] [.ev 0,.ev 1,.der (fun (h0:(e0_).toNat<=a0.length)=>lvT (DV.i .i64) a0 h0) 1]<|
.r (⟨e1_,0⟩:TTape)
def F_q2e (a0:(List Int)):=(S_q2e a0).den
theorem F_q2e_ok {a0:(List Int)}:FO (F_q2e a0) 9 [(vl a0)] [] (fun _=>(vp 0)) (fun x=>[(TTape.b x)]):=fO (s:=S_q2e a0) Tryz.func9
def S_q7 (a1:Int) (p0:TTape):SC (Int×TTape) (Int×TTape) :=
.ite (decide (p0.at_>=(p0.l.length:Int))) (
.r (0,p0)) (
.guard [(0:Int)<=p0.at_,(p0.at_).toNat<p0.l.length,(a1:Int)≠0]<|
.reg 3 [] [] [.ev 0,.ev 1,.ev 2]<|
 let e0_:=((p0.l.getD ((p0.at_).toNat) dF).tmod a1)
 let e1_:=(⟨p0.l,(i64.wrap (p0.at_+1))⟩:TTape)
.ite (decide (e0_<0)) (
.r ((i64.wrap (e0_+a1)),e1_)) (
.r (e0_,e1_)))
def F_q7 (a1:Int) (p0:TTape):=(S_q7 a1 p0).den
theorem F_q7_ok {a1:Int} {p0:TTape}:FO (F_q7 a1 p0) 35 [(vp 0),(vi a1)] [(TTape.b p0)] (fun x=>(vi x.1)) (fun x=>[(TTape.b x.2)]):=fO (s:=S_q7 a1 p0) Tryz.func35
def S_qr (a1:Int) (a2:Int) (p0:TTape):SC (Int×TTape) (Int×TTape) :=
.call (@F_q7_ok (i64.wrap ((i64.wrap (a2-a1))+1)) p0) fun rv1 cv1=>
.k 1 6 cv1 [0] 1 false<|
.r ((i64.wrap (a1+rv1.1)),rv1.2)
def F_qr (a1:Int) (a2:Int) (p0:TTape):=(S_qr a1 a2 p0).den
theorem F_qr_ok {a1:Int} {a2:Int} {p0:TTape}:FO (F_qr a1 a2 p0) 11 [(vp 0),(vi a1),(vi a2)] [(TTape.b p0)] (fun x=>(vi x.1)) (fun x=>[(TTape.b x.2)]):=fO (s:=S_qr a1 a2 p0) Tryz.func11
end
end Go.Proofs.YtpbnkbjhlhlaiaaGreatDoor
