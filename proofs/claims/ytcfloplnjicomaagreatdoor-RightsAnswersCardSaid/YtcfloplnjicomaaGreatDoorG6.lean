/- A part of the proof: what the functions compute, and that their calls return it. No condition. -/
import Derived.Test.YtcfloplnjicomaaGreatDoorG5
/- What the functions compute, and that their calls return it. No condition. -/
namespace Go.Proofs.YtcfloplnjicomaaGreatDoor
open Go Go.TA
open Go.IntKind (i64)
noncomputable section
set_option maxRecDepth 100000
def S_q1_b1 (a1:TTr) (a2:TPo) (rv1:R_q3) (rv2:R_q5) (iv3:Nat) (iv4:Nat) (_:Unit):SC Bool (Step (Unit) Bool) :=
.reg 13 [] [(2,{ obs:=[(8,(TPo.b (⟨[],0,0,[],[],[],[]⟩:TPo)))] })] [.w iv4,.ev 0,.pf cz1]<|
 let e0_:=((([a2]:List TPo)++((([rv1.1,rv2.1,a1]:List TTr).getD iv3 dF).B)).getD iv4 dF)
.call (@F_q1g_ok e0_) fun rv5 cv5=>
.call (@F_qh_ok e0_) fun rv6 cv6=>
.calld [(rv5 != rv6)=false] dF (@F_q1m_ok e0_) fun rv7 cv7 =>
.calld [(rv5 != rv6)=false] dF (@F_q1o_ok e0_) fun rv8 cv8 =>
 let e1_:=(cO (rv5 != rv6) (rv7 != rv8))
.calld [e1_=false] dF (@F_q1n_ok e0_) fun rv9 cv9 =>
.calld [e1_=false] dF (@F_q2d_ok e0_) fun rv10 cv10 =>
.reg 14 [] [(1,hc cv5 [] true),(3,hc cv6 [] true),(7,hc cv7 [] true),(9,hc cv8 [] true),(14,hc cv9 [] true),(16,hc cv10 [] true)] [.cl 9 cv5 [] 9 true,.cl 8 cv6 [] 9 true,.clg 6 [(rv5 != rv6)=false] cv7 [] 9 true,.clg 4 [(rv5 != rv6)=false] cv8 [] 9 true,.clg 2 [e1_=false] cv9 [] 9 true,.clg 0 [e1_=false] cv10 [] 9 true]<|
.ite (cO e1_ (rv9 != rv10)) (
.r (.ret false)) (
.r (.cont ()))
def S_q1_b2 (a1:TTr) (a2:TPo) (a3:TRi) (a4:TMe) (a5:Y8) (a6:Int) (a7:Int) (a8:Int) (a9:(List Int)) (rv1:R_q3) (rv11:R_qf) (rv12:R_q0) (rv2:R_q5) (iv3:Nat) (rv13:R_qe) (rv14:R_q0) (rv15:R_q4) (iv16:Nat) (iv17:Nat) (rv18:R_q12) (rv19:R_q1p) (rv20:(TTr×Int)) (rv21:(TTr×Int)) (rv22:(TMe×Int)) (rv23:(TMe×Int)) (rv24:Int) (iv25:Nat) (sv26:TTape×(List Int)):SC Bool (Step (TTape×(List Int)) Bool) :=
.call (@F_q0_ok 80 sv26.1) fun rv27 cv27=>
.guard [iv25<sv26.2.length,(0+iv25)<sv26.2.length]<|
 let e0_:=(sv26.2.set (0+iv25) rv27.1)
 let e9_:=(eS 1 (DV.i .i64) e0_)
.reg 45 [] [(3,hc cv27 [4] false),(5,{ obs:=[(15,e9_)] })] [.cl 2 cv27 [4] 16 false,.e sv26.2.length,.w iv25,.ev 0,.e sv26.2.length,.ev 1,.pf (z15 (sz:=1) (e:=(DV.i .i64)) (l:=sv26.2) (i:=(0+iv25)) (x:=rv27.1) (fun _=>rfl))]<|
 let e1_:=([a5,rv11.1]:List Y8)
 let e2_:=([rv1.1,rv2.1,a1]:List TTr)
 let e3_:=([rv13.1,rv14.1]:List Int)
 let e4_:=(333,(vi ((List.replicate rv24.toNat (0:Int)).length:Int)))
 let e5_:=([1,rv15.1]:List Int)
 let e6_:=(32,(AV.d (DV.str (e1_.getD iv17 dF))))
 let e7_:=([a7,a8]:List Int)
 let e8_:=(24,(vi (i64.wrap (12+rv12.1))))
 let e10_:=(TTr.b (e2_.getD iv3 dF))
 let e11_:=(182,(AV.d (eL DV.str e1_)))
 let e12_:=(23,(AV.d (DV.str rv11.1)))
 let e13_:=(121,(AV.d (eL TTr.e e2_)))
.cst (A:=True) (.pf trivial) [(5,(AV.d (DV.str a5))),(6,(vi a6)),(7,(vi a7)),(8,(vi a8)),(9,(vl a9)),(12,(vp 1)),(13,(vp 2)),(14,(vp 3)),(21,(vp 4)),e12_,e8_,(26,(vp 6)),(30,(vp 8)),e6_,(43,(AV.ref 15 sv26.2.length 0 sv26.2.length)),e13_,(122,(vi 3)),(123,(vi (iv3:Int))),(174,(AV.d (eL (eA 1 2 (DV.i .i64)) ([(fun j=>e7_.getD j dF),(fun j=>e3_.getD j dF),(fun j=>e5_.getD j dF)]:List (Nat->Int))))),(175,(vi 3)),(176,(vi (iv16:Int))),e11_,(183,(vi 2)),(184,(vi (iv17:Int))),e4_,(334,(vi (iv25:Int)))] [(5,(AV.d (DV.str a5))),(6,(vi a6)),(7,(vi a7)),(8,(vi a8)),(9,(vl a9)),(12,(vp 1)),(13,(vp 2)),(14,(vp 3)),(21,(vp 4)),e12_,e8_,(26,(vp 6)),(30,(vp 8)),e6_,(43,(AV.ref 15 (e0_.length) 0 (e0_.length))),e13_,(122,(vi 3)),(123,(vi (iv3:Int))),(174,(AV.d (eL (eA 1 2 (DV.i .i64)) ([(fun j=>e7_.getD j dF),(fun j=>e3_.getD j dF),(fun j=>e5_.getD j dF)]:List (Nat->Int))))),(175,(vi 3)),(176,(vi (iv16:Int))),e11_,(183,(vi 2)),(184,(vi (iv17:Int))),e4_,(334,(vi (iv25:Int)))] [(TTr.b a1),(TPo.b a2),(TRi.b a3),(TMe.b a4),(TTape.b rv27.2),(TTr.b rv1.1),e10_,Ob.dead,(bx (eA 1 2 (DV.i .i64) (([(fun j=>e7_.getD j dF),(fun j=>e3_.getD j dF),(fun j=>e5_.getD j dF)]:List (Nat->Int)).getD iv16 dF))),(TPo.b rv18.1),(TPo.b rv19.1),(TTr.b rv20.1),(TTr.b rv21.1),(TMe.b rv22.1),(TMe.b rv23.1),e9_] [(TTr.b a1),(TPo.b a2),(TRi.b a3),(TMe.b a4),(TTape.b rv27.2),(TTr.b rv1.1),e10_,Ob.dead,(bx (eA 1 2 (DV.i .i64) (([(fun j=>e7_.getD j dF),(fun j=>e3_.getD j dF),(fun j=>e5_.getD j dF)]:List (Nat->Int)).getD iv16 dF))),(TPo.b rv18.1),(TPo.b rv19.1),(TTr.b rv20.1),(TTr.b rv21.1),(TMe.b rv22.1),(TMe.b rv23.1),e9_] (fun _=>⟨by simp +zetaDelta only[yi],by rfl⟩)<|
.c (rv27.2,e0_)
def S_q1_b3 (a1:TTr) (a2:TPo) (a3:TRi) (a4:TMe) (a5:Y8) (a6:Int) (a7:Int) (a8:Int) (a9:(List Int)) (rv1:R_q3) (rv11:R_qf) (rv12:R_q0) (rv2:R_q5) (iv3:Nat) (rv13:R_qe) (rv14:R_q0) (rv15:R_q4) (iv16:Nat) (iv17:Nat) (sv28:TTape):SC Bool (Step (TTape) Bool) :=
.reg 22 [] [] [.w iv17,.ev 0]<|
 let e0_:=(([a5,rv11.1]:List Y8).getD iv17 dF)
 let e1_:=(([rv1.1,rv2.1,a1]:List TTr).getD iv3 dF)
 let e2_:=(i64.wrap (12+rv12.1))
.call (@F_q12_ok e1_ e0_ e2_) fun rv18 cv18=>
 let e9_:=(TPo.b (⟨[],0,0,[],[],[],[]⟩:TPo))
.reg 23 [] [(3,hc cv18 [] true),(7,{ obs:=[(9,e9_)] })] [.cl 0 cv18 [] 9 true,.pf cz1]<|
.call (@F_q1p_ok e1_ e0_ e2_) fun rv19 cv19=>
.reg 24 [] [(3,hc cv19 [] true),(7,{ obs:=[(10,e9_)] })] [.cl 0 cv19 [] 10 true,.pf cz1]<|
 let e3_:=([rv13.1,rv14.1]:List Int)
 let e4_:=([1,rv15.1]:List Int)
 let e6_:=([a7,a8]:List Int)
.call (@F_q1d_ok e1_ e0_ e2_ ((([(fun j=>e6_.getD j dF),(fun j=>e3_.getD j dF),(fun j=>e4_.getD j dF)]:List (Nat->Int)).getD iv16 dF) 1)) fun rv29 cv29=>
 let e7_:=(TTr.b (⟨0,[]⟩:TTr))
.reg 25 [] [(5,hc cv29 [] true),(9,{ obs:=[(11,e7_)] })] [.pf (p:=(0:Int)<=1) dk,.pf (p:=1<2) dk,.pf (p:=1<2) dk,.cl 0 cv29 [] 11 true,.pf cz3]<|
.call (@F_qj_ok e1_ e0_ e2_ ((([(fun j=>e6_.getD j dF),(fun j=>e3_.getD j dF),(fun j=>e4_.getD j dF)]:List (Nat->Int)).getD iv16 dF) 1)) fun rv30 cv30=>
.reg 26 [] [(5,hc cv30 [] true),(9,{ obs:=[(12,e7_)] })] [.pf (p:=(0:Int)<=1) dk,.pf (p:=1<2) dk,.pf (p:=1<2) dk,.cl 0 cv30 [] 12 true,.pf cz3]<|
 let e10_:=(!(rv18.2==rv19.2))
.calld [e10_=false] dF (@F_q23_ok rv18.1 rv19.1) fun rv31 cv31 =>
 let e5_:=(cO (cO e10_ (!rv31)) (rv29.2 != rv30.2))
.calld [e5_=false] dF (@F_qa_ok rv29.1 rv30.1) fun rv32 cv32 =>
.reg 27 [] [(6,hc cv31 [] true),(17,hc cv32 [] true)] [.clg 2 [e10_=false] cv31 [] 13 true,.clg 0 [e5_=false] cv32 [] 13 true]<|
.ite (cO e5_ (!rv32)) (
.r (.ret false)) (
.call (@F_q2e_ok e1_ ((([(fun j=>e6_.getD j dF),(fun j=>e3_.getD j dF),(fun j=>e4_.getD j dF)]:List (Nat->Int)).getD iv16 dF) 0) e0_ e2_ ((([(fun j=>e6_.getD j dF),(fun j=>e3_.getD j dF),(fun j=>e4_.getD j dF)]:List (Nat->Int)).getD iv16 dF) 1)) fun rv33 cv33=>
.reg 29 [] [(7,hc cv33 [] true)] [.pf (p:=(0:Int)<=0) dk,.pf (p:=0<2) dk,.pf (p:=0<2) dk,.pf (p:=(0:Int)<=1) dk,.pf (p:=1<2) dk,.pf (p:=1<2) dk,.cl 0 cv33 [] 13 true]<|
.call (@F_q22_ok e1_ ((([(fun j=>e6_.getD j dF),(fun j=>e3_.getD j dF),(fun j=>e4_.getD j dF)]:List (Nat->Int)).getD iv16 dF) 0) e0_ e2_ ((([(fun j=>e6_.getD j dF),(fun j=>e3_.getD j dF),(fun j=>e4_.getD j dF)]:List (Nat->Int)).getD iv16 dF) 1)) fun rv34 cv34=>
.reg 30 [] [(7,hc cv34 [] true)] [.pf (p:=(0:Int)<=0) dk,.pf (p:=0<2) dk,.pf (p:=0<2) dk,.pf (p:=(0:Int)<=1) dk,.pf (p:=1<2) dk,.pf (p:=1<2) dk,.cl 0 cv34 [] 13 true]<|
 let e11_:=(rv33.2 != rv34.2)
.calld [e11_=false] dF (@F_qa_ok rv33.1 rv34.1) fun rv35 cv35 =>
.reg 31 [] [(6,hc cv35 [] true)] [.clg 0 [e11_=false] cv35 [] 13 true]<|
.ite (cO e11_ (!rv35)) (
.r (.ret false)) (
.call (@F_q1h_ok e1_ ((([(fun j=>e6_.getD j dF),(fun j=>e3_.getD j dF),(fun j=>e4_.getD j dF)]:List (Nat->Int)).getD iv16 dF) 0) e0_ e2_ ((([(fun j=>e6_.getD j dF),(fun j=>e3_.getD j dF),(fun j=>e4_.getD j dF)]:List (Nat->Int)).getD iv16 dF) 1)) fun rv20 cv20=>
.reg 33 [] [(7,hc cv20 [] true)] [.pf (p:=(0:Int)<=0) dk,.pf (p:=0<2) dk,.pf (p:=0<2) dk,.pf (p:=(0:Int)<=1) dk,.pf (p:=1<2) dk,.pf (p:=1<2) dk,.cl 0 cv20 [] 13 true]<|
.call (@F_q1k_ok e1_ ((([(fun j=>e6_.getD j dF),(fun j=>e3_.getD j dF),(fun j=>e4_.getD j dF)]:List (Nat->Int)).getD iv16 dF) 0) e0_ e2_ ((([(fun j=>e6_.getD j dF),(fun j=>e3_.getD j dF),(fun j=>e4_.getD j dF)]:List (Nat->Int)).getD iv16 dF) 1)) fun rv21 cv21=>
.reg 34 [] [(7,hc cv21 [] true)] [.pf (p:=(0:Int)<=0) dk,.pf (p:=0<2) dk,.pf (p:=0<2) dk,.pf (p:=(0:Int)<=1) dk,.pf (p:=1<2) dk,.pf (p:=1<2) dk,.cl 0 cv21 [] 13 true]<|
 let e12_:=(rv20.2 != rv21.2)
.calld [e12_=false] dF (@F_qa_ok rv20.1 rv21.1) fun rv36 cv36 =>
.reg 35 [] [(6,hc cv36 [] true)] [.clg 0 [e12_=false] cv36 [] 13 true]<|
.ite (cO e12_ (!rv36)) (
.r (.ret false)) (
.call (@F_q1i_ok e1_ ((([(fun j=>e6_.getD j dF),(fun j=>e3_.getD j dF),(fun j=>e4_.getD j dF)]:List (Nat->Int)).getD iv16 dF) 0) e0_ e2_) fun rv22 cv22=>
.reg 37 [] [(5,hc cv22 [] true)] [.pf (p:=(0:Int)<=0) dk,.pf (p:=0<2) dk,.pf (p:=0<2) dk,.cl 0 cv22 [] 13 true]<|
.call (@F_q1q_ok e1_ ((([(fun j=>e6_.getD j dF),(fun j=>e3_.getD j dF),(fun j=>e4_.getD j dF)]:List (Nat->Int)).getD iv16 dF) 0) e0_ e2_) fun rv23 cv23=>
.reg 38 [] [(5,hc cv23 [] true)] [.pf (p:=(0:Int)<=0) dk,.pf (p:=0<2) dk,.pf (p:=0<2) dk,.cl 0 cv23 [] 14 true]<|
.ite (cO (rv22.2 != rv23.2) (!((rv22.1.K==rv23.1.K)&&((rv22.1.L==rv23.1.L)&&((rv22.1.F==rv23.1.F)&&((rv22.1.G==rv23.1.G)&&((rv22.1.A==rv23.1.A)&&((rv22.1.C==rv23.1.C)&&((rv22.1.J==rv23.1.J)&&((rv22.1.E==rv23.1.E)&&true)))))))))) (
.r (.ret false)) (
.call (@F_q25_ok (e1_.I) 8) fun rv24 cv24=>
.guard [(0:Int)<=rv24,rv24 * 8<=2 ^ 47]<|
 let e8_:=((List.replicate rv24.toNat (0:Int)).length)
.reg 41 [] [(2,hc cv24 [] true),(3,{ cast:=some (AV.ref 15 e8_ 0 e8_),obs:=[(15,(eS 1 (DV.i .i64) (List.replicate rv24.toNat (0:Int))))] })] [.cl 2 cv24 [] 15 true,.ev 0,.pf (p:=rv24<=rv24) (y1y _),.ev 1,.pf (z82 (o:=15) (k:=rv24.toNat) (z:=(0:Int))),.pf (z83 (sz:=1) (k:=rv24.toNat) (e:=(DV.i .i64)) (z:=(0:Int)))]<|
.guard [(List.replicate rv24.toNat (0:Int)).length<2 ^ 63]<|
.range ((List.replicate rv24.toNat (0:Int)).length:Int) ((List.replicate rv24.toNat (0:Int)).length) rfl (.why (.ev 0)) 334 [5,6,7,8,9,12,13,14,21,23,24,26,30,32,121,122,123,174,175,176,182,183,184,333] (fun (sv26:TTape×(List Int))=>[(43,(AV.ref 15 sv26.2.length 0 sv26.2.length))]) (fun sv26=>[(4,(TTape.b sv26.1)),(15,(eS 1 (DV.i .i64) sv26.2))]) (sv28,(List.replicate rv24.toNat (0:Int))) (S_q1_b2 a1 a2 a3 a4 a5 a6 a7 a8 a9 rv1 rv11 rv12 rv2 iv3 rv13 rv14 rv15 iv16 iv17 rv18 rv19 rv20 rv21 rv22 rv23 rv24) (fun sv26 => 
.reg 47 [] [(2,{ h:=.obj })] []<|
.br true (.pf (p:=true=true) rfl)<|
.reg 49 [] [] [.e 2,.pf (p:=(0:Int)<=0) dk,.pf (p:=0<2) dk,.e 2,.pf (p:=(0+0)<2) dk]<|
.call (@F_q2h_ok e1_ e0_ e2_ sv26.2) fun rv37 cv37=>
.reg 50 [] [(4,hc cv37 [15] true),(8,{ obs:=[(17,e7_)] })] [.cl 0 cv37 [15] 17 true,.pf cz3]<|
.call (@F_qd_ok e1_ e0_ e2_ sv26.2) fun rv38 cv38=>
.reg 51 [] [(4,hc cv38 [15] true),(8,{ obs:=[(18,e7_)] })] [.cl 0 cv38 [15] 18 true,.pf cz3]<|
 let e13_:=(rv37.2 != rv38.2)
.calld [e13_=false] dF (@F_qa_ok rv37.1 rv38.1) fun rv39 cv39 =>
.reg 52 [] [(6,hc cv39 [] true)] [.clg 0 [e13_=false] cv39 [] 19 true]<|
.ite (cO e13_ (!rv39)) (
.r (.ret false)) (
.br true (.pf (p:=true=true) rfl)<|
.reg 49 [] [] [.e 2,.pf (p:=(0:Int)<=1) dk,.pf (p:=1<2) dk,.e 2,.pf (p:=(0+1)<2) dk]<|
.call (@F_q18_ok e1_ e0_ e2_ a9) fun rv40 cv40=>
.reg 50 [] [(4,hc cv40 [] true),(8,{ obs:=[(19,e7_)] })] [.cl 0 cv40 [] 19 true,.pf cz3]<|
.call (@F_q2_ok e1_ e0_ e2_ a9) fun rv41 cv41=>
.reg 51 [] [(4,hc cv41 [] true),(8,{ obs:=[(20,e7_)] })] [.cl 0 cv41 [] 20 true,.pf cz3]<|
 let e14_:=(rv40.2 != rv41.2)
.calld [e14_=false] dF (@F_qa_ok rv40.1 rv41.1) fun rv42 cv42 =>
.reg 52 [] [(6,hc cv42 [] true)] [.clg 0 [e14_=false] cv42 [] 21 true]<|
.ite (cO e14_ (!rv42)) (
.r (.ret false)) (
.br false (.pf (p:=false=false) rfl)<|
.c sv26.1))) .ret))))
def S_q1_b4 (a1:TTr) (a2:TPo) (a3:TRi) (a4:TMe) (a5:Y8) (a6:Int) (a7:Int) (a8:Int) (a9:(List Int)) (rv1:R_q3) (rv11:R_qf) (rv12:R_q0) (rv2:R_q5) (iv3:Nat) (rv13:R_qe) (rv14:R_q0) (rv15:R_q4) (iv16:Nat) (sv43:TTape):SC Bool (Step (TTape) Bool) :=
.reg 19 [] [] [.w iv16,.ev 0]<|
 let e0_:=([a5,rv11.1]:List Y8)
.reg 20 [] [(2,hv (AV.d (eL DV.str e0_)))] [.pf (zp DV.str e0_)]<|
.range 2 2 rfl (.why (.pf (p:=2<2 ^ 63) dk)) 184 [5,6,7,8,9,12,13,14,21,23,24,26,30,121,122,123,174,175,176,182,183] (fun (_:TTape)=>[]) (fun sv28=>[(4,(TTape.b sv28))]) sv43 (S_q1_b3 a1 a2 a3 a4 a5 a6 a7 a8 a9 rv1 rv11 rv12 rv2 iv3 rv13 rv14 rv15 iv16) (fun sv28 => 
.c sv28) .ret
def S_q1_b5 (a1:TTr) (a4:TMe) (rv1:R_q3) (rv11:R_qf) (rv12:R_q0) (rv2:R_q5) (iv3:Nat) (rv44:R_qe) (rv45:R_q4) (rv46:R_q4) (iv47:Nat) (_:Unit):SC Bool (Step (Unit) Bool) :=
.reg 59 [] [] [.w iv47,.ev 0]<|
 let e0_:=(([a4,(⟨rv44.1,0,rv11.1,(i64.wrap (12+rv12.1)),0,0,rv45.1,rv46.1⟩:TMe)]:List TMe).getD iv47 dF)
 let e1_:=(([rv1.1,rv2.1,a1]:List TTr).getD iv3 dF)
.call (@F_q1z_ok e1_ e0_) fun rv48 cv48=>
 let e3_:=(TTr.b (⟨0,[]⟩:TTr))
.reg 60 [] [(2,hc cv48 [] true),(6,{ obs:=[(9,e3_)] })] [.cl 0 cv48 [] 9 true,.pf cz3]<|
.call (@F_q21_ok e1_ e0_) fun rv49 cv49=>
.reg 61 [] [(2,hc cv49 [] true),(6,{ obs:=[(10,e3_)] })] [.cl 0 cv49 [] 10 true,.pf cz3]<|
 let e2_:=(rv48.2 != rv49.2)
.calld [e2_=false] dF (@F_qa_ok rv48.1 rv49.1) fun rv50 cv50 =>
.reg 62 [] [(6,hc cv50 [] true)] [.clg 0 [e2_=false] cv50 [] 11 true]<|
.ite (cO e2_ (!rv50)) (
.r (.ret false)) (
.r (.cont ()))
def S_q1_b6 (a1:TTr) (a2:TPo) (a3:TRi) (a4:TMe) (a5:Y8) (a6:Int) (a7:Int) (a8:Int) (a9:(List Int)) (rv1:R_q3) (rv11:R_qf) (rv12:R_q0) (rv2:R_q5) (iv3:Nat) (sv51:TTape):SC Bool (Step (TTape) Bool) :=
 let e4_:=(TTr.b (⟨0,[]⟩:TTr))
.reg 8 [] [(2,{ obs:=[(6,e4_)] })] [.w iv3,.ev 0,.pf cz3]<|
 let e0_:=(([rv1.1,rv2.1,a1]:List TTr).getD iv3 dF)
.call (@F_q8_ok e0_) fun rv52 cv52=>
.call (@F_qi_ok e0_) fun rv53 cv53=>
.reg 9 [] [(1,hc cv52 [] true),(3,hc cv53 [] true)] [.cl 1 cv52 [] 7 true,.cl 0 cv53 [] 7 true]<|
.ite (!(rv52==rv53)) (
.r (.ret false)) (
 let e1_:=([a2]:List TPo)
.guard [(e1_.length+(e0_.B).length) * (2 * 128)<=2 ^ 48]<|
 let e10_:=((e1_++(e0_.B)).length)
.reg 11 [] [(1,{ h:=.obj,obs:=[(7,(eS 7 TPo.e e1_))] }),(4,{ cast:=some (AV.ref 7 e10_ 0 e10_),obs:=[(7,(eS 7 TPo.e (e1_++(e0_.B))))] })] [.pf (z81 (sz:=7) (e:=TPo.e) (l:=e1_)),.e (e1_.length),.e (e1_.length),.pf (p:=∀ k,k<(e0_.B).length->(TPo.d ((e0_.B).getD k dF)).wd=7) (fun _ _=>rfl),.ev 0,.pf (z2d (o:=7) (l:=e1_) (x:=(e0_.B))),.pf (z3n (sz:=7) (e:=TPo.e) (l:=e1_) (x:=(e0_.B)))]<|
.guard [(e1_++(e0_.B)).length<2 ^ 63]<|
.frz 7 (.ev 0) none [136] []<|
.range ((([a2]:List TPo)++((([rv1.1,rv2.1,a1]:List TTr).getD iv3 dF).B)).length:Int) ((([a2]:List TPo)++((([rv1.1,rv2.1,a1]:List TTr).getD iv3 dF).B)).length) rfl (.slot 136) 138 [5,6,7,8,9,12,13,14,21,23,24,26,121,122,123,136,137] (fun (_:Unit)=>[]) (fun _=>[]) () (S_q1_b1 a1 a2 rv1 rv2 iv3) (fun _ => 
.call (@F_qe_ok 0 5 sv51) fun rv13 cv13=>
.call (@F_q0_ok 200 rv13.2) fun rv14 cv14=>
.call (@F_q4_ok ([0,1,1000000000000000,1000000000000001]:List Int) rv14.2) fun rv15 cv15=>
 let e3_:=([rv13.1,rv14.1]:List Int)
 let e5_:=([1,rv15.1]:List Int)
 let e7_:=([a7,a8]:List Int)
.reg 17 [] [(2,hv (AV.d (eA 1 2 (DV.i .i64) (fun j=>e7_.getD j dF)))),(4,hc cv13 [4] false),(6,hc cv14 [4] false),(7,hv (AV.d (eA 1 2 (DV.i .i64) (fun j=>e3_.getD j dF)))),(9,hv (vl ([0,1,1000000000000000,1000000000000001]:List Int))),(10,hc cv15 [4] false),(11,hv (AV.d (eA 1 2 (DV.i .i64) (fun j=>e5_.getD j dF)))),(12,hv (AV.d (eL (eA 1 2 (DV.i .i64)) ([(fun j=>e7_.getD j dF),(fun j=>e3_.getD j dF),(fun j=>e5_.getD j dF)]:List (Nat->Int)))))] [.pf (p:=0<2) dk,.pf (p:=1<2) dk,.pf (p:=LeV (AV.d (DV.arr 1 2 fun j=>if j=1 then (DV.i .i64 a8) else if j=0 then (DV.i .i64 a7) else (DV.i .i64 0))) (AV.d (eA 1 2 (DV.i .i64) (fun j=>e7_.getD j dF)))) (z4v (fun | 0,_=>rfl | 1,_=>rfl | (k+2),h=>absurd h om)),.cl 2 cv13 [4] 8 false,.cl 1 cv14 [4] 8 false,.pf (p:=0<2) dk,.pf (p:=1<2) dk,.pf (p:=LeV (AV.d (DV.arr 1 2 fun j=>if j=1 then (DV.i .i64 rv14.1) else if j=0 then (DV.i .i64 rv13.1) else (DV.i .i64 0))) (AV.d (eA 1 2 (DV.i .i64) (fun j=>e3_.getD j dF)))) (z4v (fun | 0,_=>rfl | 1,_=>rfl | (k+2),h=>absurd h om)),.pf (zp (DV.i .i64) ([0,1,1000000000000000,1000000000000001]:List Int)),.cl 0 cv15 [4] 8 false,.pf (p:=0<2) dk,.pf (p:=1<2) dk,.pf (p:=LeV (AV.d (DV.arr 1 2 fun j=>if j=1 then (DV.i .i64 rv15.1) else if j=0 then (DV.i .i64 1) else (DV.i .i64 0))) (AV.d (eA 1 2 (DV.i .i64) (fun j=>e5_.getD j dF)))) (z4v (fun | 0,_=>rfl | 1,_=>rfl | (k+2),h=>absurd h om)),.pf (zp (eA 1 2 (DV.i .i64)) ([(fun j=>e7_.getD j dF),(fun j=>e3_.getD j dF),(fun j=>e5_.getD j dF)]:List (Nat->Int)))]<|
.range 3 3 rfl (.why (.pf (p:=3<2 ^ 63) dk)) 176 [5,6,7,8,9,12,13,14,21,23,24,26,121,122,123,174,175] (fun (_:TTape)=>[]) (fun sv43=>[(4,(TTape.b sv43))]) rv15.2 (S_q1_b4 a1 a2 a3 a4 a5 a6 a7 a8 a9 rv1 rv11 rv12 rv2 iv3 rv13 rv14 rv15) (fun sv43 => 
.call (@F_qe_ok 0 4 sv43) fun rv44 cv44=>
.call (@F_q0_ok 300 rv44.2) fun rv54 cv54=>
 let e6_:=([0,rv54.1,(-1)]:List Int)
.call (@F_q4_ok e6_ rv54.2) fun rv45 cv45=>
.call (@F_q0_ok 100 rv45.2) fun rv55 cv55=>
 let e8_:=([rv55.1,(-1)]:List Int)
.call (@F_q4_ok e8_ rv55.2) fun rv46 cv46=>
 let e2_:=([a4,(⟨rv44.1,0,rv11.1,(i64.wrap (12+rv12.1)),0,0,rv45.1,rv46.1⟩:TMe)]:List TMe)
.reg 57 [2,7,9,12,14] [(2,hc cv44 [4] false),(7,hc cv54 [4] false),(8,hv (vl e6_)),(9,hc cv45 [4] false),(12,hc cv55 [4] false),(13,hv (vl e8_)),(14,hc cv46 [4] false),(16,hv (AV.d (eL TMe.e e2_)))] [.cl 4 cv44 [4] 8 false,.cl 3 cv54 [4] 8 false,.pf (zp (DV.i .i64) e6_),.cl 2 cv45 [4] 8 false,.cl 1 cv55 [4] 8 false,.pf (zp (DV.i .i64) e8_),.cl 0 cv46 [4] 8 false,.pf (zp TMe.e e2_)]<|
.range 2 2 rfl (.why (.pf (p:=2<2 ^ 63) dk)) 397 [5,6,7,8,9,12,13,14,21,23,24,26,121,122,123,395,396] (fun (_:Unit)=>[]) (fun _=>[]) () (S_q1_b5 a1 a4 rv1 rv11 rv12 rv2 iv3 rv44 rv45 rv46) (fun _ => 
.call (@F_q1d_ok e0_ a5 a6 a8) fun rv56 cv56=>
.reg 65 [] [(4,hc cv56 [] true),(8,{ obs:=[(8,e4_)] })] [.cl 0 cv56 [] 8 true,.pf cz3]<|
.call (@F_qj_ok e0_ a5 a6 a8) fun rv57 cv57=>
.reg 66 [] [(4,hc cv57 [] true),(8,{ obs:=[(9,e4_)] })] [.cl 0 cv57 [] 9 true,.pf cz3]<|
 let e9_:=(rv56.2 != rv57.2)
.calld [e9_=false] dF (@F_qa_ok rv56.1 rv57.1) fun rv58 cv58 =>
.reg 67 [] [(6,hc cv58 [] true)] [.clg 0 [e9_=false] cv58 [] 10 true]<|
.ite (cO e9_ (!rv58)) (
.r (.ret false)) (
.c rv46.2)) .ret) .ret) .ret)
def S_q1_b7 (a3:TRi) (a4:TMe) (rv11:R_qf) (rv12:R_q0) (rv59:R_q19) (rv60:R_q0) (rv61:R_q0) (iv62:Nat) (rv63:R_q0) (rv64:R_q0) (rv65:R_q4) (iv66:Nat) (_:Unit):SC Bool (Step (Unit) Bool) :=
.reg 76 [] [] [.w iv66,.ev 0]<|
 let e0_:=(([rv59.1,a3,(⟨rv11.1,(i64.wrap (12+rv12.1)),rv60.1,0,rv61.1⟩:TRi)]:List TRi).getD iv62 dF)
 let e1_:=(([a4,(⟨0,0,e0_.F,e0_.G,rv63.1,rv64.1,0,0⟩:TMe),(⟨0,0,e0_.F,e0_.G,rv65.1,0,0,0⟩:TMe)]:List TMe).getD iv66 dF)
.a 77 2 9 (@F_q1v_ok e0_ e1_) fun rv67=>
.a 78 2 10 (@F_q2i_ok e0_ e1_) fun rv68=>
.ite (cO (!((rv67.1.F==rv68.1.F)&&((rv67.1.G==rv68.1.G)&&((rv67.1.A==rv68.1.A)&&((rv67.1.C==rv68.1.C)&&((rv67.1.J==rv68.1.J)&&true)))))) (rv67.2 != rv68.2)) (
.r (.ret false)) (
.r (.cont ()))
def S_q1_b8 (a3:TRi) (a7:Int) (a8:Int) (rv11:R_qf) (rv12:R_q0) (rv59:R_q19) (rv60:R_q0) (rv61:R_q0) (iv62:Nat) (rv69:R_q0) (rv70:R_q0) (rv71:R_q0) (iv72:Nat) (_:Unit):SC Bool (Step (Unit) Bool) :=
.reg 84 [] [] [.w iv72,.ev 0]<|
 let e1_:=(([rv59.1,a3,(⟨rv11.1,(i64.wrap (12+rv12.1)),rv60.1,0,rv61.1⟩:TRi)]:List TRi).getD iv62 dF)
 let e2_:=([rv69.1,rv70.1]:List Int)
 let e3_:=([0,rv71.1]:List Int)
 let e4_:=([a8,a7]:List Int)
.call (@F_q1x_ok e1_ ((([(fun j=>e4_.getD j dF),(fun j=>e2_.getD j dF),(fun j=>e3_.getD j dF)]:List (Nat->Int)).getD iv72 dF) 0) ((([(fun j=>e4_.getD j dF),(fun j=>e2_.getD j dF),(fun j=>e3_.getD j dF)]:List (Nat->Int)).getD iv72 dF) 1)) fun rv73 cv73=>
.reg 85 [] [(5,hc cv73 [] true)] [.pf (p:=(0:Int)<=0) dk,.pf (p:=0<2) dk,.pf (p:=0<2) dk,.pf (p:=(0:Int)<=1) dk,.pf (p:=1<2) dk,.pf (p:=1<2) dk,.cl 0 cv73 [] 9 true]<|
.call (@F_q2j_ok e1_ ((([(fun j=>e4_.getD j dF),(fun j=>e2_.getD j dF),(fun j=>e3_.getD j dF)]:List (Nat->Int)).getD iv72 dF) 0) ((([(fun j=>e4_.getD j dF),(fun j=>e2_.getD j dF),(fun j=>e3_.getD j dF)]:List (Nat->Int)).getD iv72 dF) 1)) fun rv74 cv74=>
.reg 86 [] [(5,hc cv74 [] true)] [.pf (p:=(0:Int)<=0) dk,.pf (p:=0<2) dk,.pf (p:=0<2) dk,.pf (p:=(0:Int)<=1) dk,.pf (p:=1<2) dk,.pf (p:=1<2) dk,.cl 0 cv74 [] 10 true]<|
 let e0_:=(cO (!((rv73.1.F==rv74.1.F)&&((rv73.1.G==rv74.1.G)&&((rv73.1.A==rv74.1.A)&&((rv73.1.C==rv74.1.C)&&((rv73.1.J==rv74.1.J)&&true)))))) (rv73.2 != rv74.2))
.calld [e0_=false] dF (@F_q1w_ok e1_ ((([(fun j=>e4_.getD j dF),(fun j=>e2_.getD j dF),(fun j=>e3_.getD j dF)]:List (Nat->Int)).getD iv72 dF) 0)) fun rv75 cv75 =>
.calld [e0_=false] dF (@F_q2k_ok e1_ ((([(fun j=>e4_.getD j dF),(fun j=>e2_.getD j dF),(fun j=>e3_.getD j dF)]:List (Nat->Int)).getD iv72 dF) 0)) fun rv76 cv76 =>
.reg 87 [] [(12,hc cv75 [] true),(16,hc cv76 [] true)] [.pf (p:=AllP [e0_=false]->((0:Int)<=0)) (fun _=>dk),.pf (p:=AllP [e0_=false]->(0<2)) (fun _=>dk),.pf (p:=AllP [e0_=false]->(0<2)) (fun _=>dk),.clg 2 [e0_=false] cv75 [] 11 true,.pf (p:=AllP [e0_=false]->((0:Int)<=0)) (fun _=>dk),.pf (p:=AllP [e0_=false]->(0<2)) (fun _=>dk),.pf (p:=AllP [e0_=false]->(0<2)) (fun _=>dk),.clg 0 [e0_=false] cv76 [] 11 true]<|
.ite (cO e0_ (rv75 != rv76)) (
.r (.ret false)) (
.r (.cont ()))
def S_q1_b9 (a3:TRi) (a4:TMe) (a7:Int) (a8:Int) (rv11:R_qf) (rv12:R_q0) (rv59:R_q19) (rv60:R_q0) (rv61:R_q0) (iv62:Nat) (sv77:TTape):SC Bool (Step (TTape) Bool) :=
.reg 73 [] [] [.w iv62,.ev 0]<|
.call (@F_q0_ok 900 sv77) fun rv63 cv63=>
.call (@F_q0_ok 900 rv63.2) fun rv64 cv64=>
.call (@F_q4_ok ([(-1),1000000000000001]:List Int) rv64.2) fun rv65 cv65=>
 let e0_:=(([rv59.1,a3,(⟨rv11.1,(i64.wrap (12+rv12.1)),rv60.1,0,rv61.1⟩:TRi)]:List TRi).getD iv62 dF)
 let e1_:=([a4,(⟨0,0,e0_.F,e0_.G,rv63.1,rv64.1,0,0⟩:TMe),(⟨0,0,e0_.F,e0_.G,rv65.1,0,0,0⟩:TMe)]:List TMe)
.reg 74 [6,8,16] [(6,hc cv63 [4] false),(8,hc cv64 [4] false),(15,hv (vl ([(-1),1000000000000001]:List Int))),(16,hc cv65 [4] false),(18,hv (AV.d (eL TMe.e e1_)))] [.cl 2 cv63 [4] 8 false,.cl 1 cv64 [4] 8 false,.pf (zp (DV.i .i64) ([(-1),1000000000000001]:List Int)),.pf (zp (DV.i .i64) ([(-1),1000000000000001]:List Int)),.pf (zp (DV.i .i64) ([(-1),1000000000000001]:List Int)),.cl 0 cv65 [4] 8 false,.pf (zp TMe.e e1_)]<|
.range 3 3 rfl (.why (.pf (p:=3<2 ^ 63) dk)) 486 [7,8,14,21,63,460,461,462,484,485] (fun (_:Unit)=>[]) (fun _=>[]) () (S_q1_b7 a3 a4 rv11 rv12 rv59 rv60 rv61 iv62 rv63 rv64 rv65) (fun _ => 
.call (@F_q0_ok 300 rv65.2) fun rv69 cv69=>
.call (@F_q0_ok 300 rv69.2) fun rv70 cv70=>
.call (@F_q0_ok 500 rv70.2) fun rv71 cv71=>
 let e2_:=([rv69.1,rv70.1]:List Int)
 let e3_:=([0,rv71.1]:List Int)
 let e4_:=([a8,a7]:List Int)
 let e5_:=(DV.i .i64 0)
.reg 82 [] [(2,hv (AV.d (eA 1 2 (DV.i .i64) (fun j=>e4_.getD j dF)))),(4,hc cv69 [4] false),(6,hc cv70 [4] false),(7,hv (AV.d (eA 1 2 (DV.i .i64) (fun j=>e2_.getD j dF)))),(9,hc cv71 [4] false),(10,hv (AV.d (eA 1 2 (DV.i .i64) (fun j=>e3_.getD j dF)))),(11,hv (AV.d (eL (eA 1 2 (DV.i .i64)) ([(fun j=>e4_.getD j dF),(fun j=>e2_.getD j dF),(fun j=>e3_.getD j dF)]:List (Nat->Int)))))] [.pf (p:=0<2) dk,.pf (p:=1<2) dk,.pf (p:=LeV (AV.d (DV.arr 1 2 fun j=>if j=1 then (DV.i .i64 a7) else if j=0 then (DV.i .i64 a8) else e5_)) (AV.d (eA 1 2 (DV.i .i64) (fun j=>e4_.getD j dF)))) (z4v (fun | 0,_=>rfl | 1,_=>rfl | (k+2),h=>absurd h om)),.cl 2 cv69 [4] 8 false,.cl 1 cv70 [4] 8 false,.pf (p:=0<2) dk,.pf (p:=1<2) dk,.pf (p:=LeV (AV.d (DV.arr 1 2 fun j=>if j=1 then (DV.i .i64 rv70.1) else if j=0 then (DV.i .i64 rv69.1) else e5_)) (AV.d (eA 1 2 (DV.i .i64) (fun j=>e2_.getD j dF)))) (z4v (fun | 0,_=>rfl | 1,_=>rfl | (k+2),h=>absurd h om)),.cl 0 cv71 [4] 8 false,.pf (p:=0<2) dk,.pf (p:=1<2) dk,.pf (p:=LeV (AV.d (DV.arr 1 2 fun j=>if j=1 then (DV.i .i64 rv71.1) else if j=0 then e5_ else e5_)) (AV.d (eA 1 2 (DV.i .i64) (fun j=>e3_.getD j dF)))) (z4v (fun | 0,_=>rfl | 1,_=>rfl | (k+2),h=>absurd h om)),.pf (zp (eA 1 2 (DV.i .i64)) ([(fun j=>e4_.getD j dF),(fun j=>e2_.getD j dF),(fun j=>e3_.getD j dF)]:List (Nat->Int)))]<|
.range 3 3 rfl (.why (.pf (p:=3<2 ^ 63) dk)) 524 [7,8,14,21,63,460,461,462,522,523] (fun (_:Unit)=>[]) (fun _=>[]) () (S_q1_b8 a3 a7 a8 rv11 rv12 rv59 rv60 rv61 iv62 rv69 rv70 rv71) (fun _ => 
.call (@F_q1j_ok e0_) fun rv78 cv78=>
.call (@F_q1l_ok e0_) fun rv79 cv79=>
.reg 90 [] [(1,hc cv78 [] true),(3,hc cv79 [] true)] [.cl 1 cv78 [] 8 true,.cl 0 cv79 [] 8 true]<|
.ite (!(rv78==rv79)) (
.r (.ret false)) (
.c rv71.2)) .ret) .ret
def S_q1 (a0:(List Int)) (a1:TTr) (a2:TPo) (a3:TRi) (a4:TMe) (a5:Y8) (a6:Int) (a7:Int) (a8:Int) (a9:(List Int)):SC Bool Bool :=
.call (@F_qm_ok a1) fun rv80 cv80=>
 let e1_:=([a2]:List TPo)
.calld [(!rv80)=false] dF (@F_qm_ok (⟨0,e1_⟩:TTr)) fun rv81 cv81 =>
.reg 1 [] [(1,hc cv80 [] true),(5,hv (AV.d (eL TPo.e e1_))),(7,hc cv81 [] true)] [.cl 2 cv80 [] 4 true,.pf (p:=AllP [(!rv80)=false]->(LeV (AV.d (DV.sl 1 (listF (DV.b false) [(TPo.e a2)]))) (AV.d (eL TPo.e e1_)))) (fun hg=>zp TPo.e e1_),.clg 0 [(!rv80)=false] cv81 [] 4 true]<|
.ite (cO (cO (cO (!rv80) (!rv81)) (decide ((i64.wrap ((i64.wrap ((a3.F.length:Int)+(a4.F.length:Int)))+(a5.length:Int)))>150))) (decide ((a9.length:Int)>20))) (
.a 2 0 4 (@F_q20_ok) fun rv82=>
.r rv82) (
.call (@F_q2b_ok a0) fun rv83 cv83=>
.k 3 1 cv83 [] 4 false<|
.call (@F_qe_ok 1 4 rv83) fun rv84 cv84=>
.call (@F_q3_ok rv84.1 rv84.2) fun rv1 cv1=>
.reg 4 [] [(2,hc cv84 [4] false),(3,hc cv1 [4] false),(4,{ obs:=[(5,(TTr.b (⟨0,[]⟩:TTr)))] })] [.cl 1 cv84 [4] 5 false,.cl 0 cv1 [4] 5 false,.pf cz3]<|
.call (@F_qf_ok rv1.2) fun rv11 cv11=>
.call (@F_q0_ok 2 rv11.2) fun rv12 cv12=>
.reg 5 [] [(1,hc cv11 [4] false),(3,hc cv12 [4] false)] [.cl 1 cv11 [4] 6 false,.cl 0 cv12 [4] 6 false]<|
.call (@F_q2w_ok rv1.1 rv12.2) fun rv2 cv2=>
 let e2_:=([rv1.1,rv2.1,a1]:List TTr)
.reg 6 [3] [(3,hc cv2 [4] false),(5,hv (AV.d (eL TTr.e e2_)))] [.cl 0 cv2 [4] 6 false,.pf (zp TTr.e e2_)]<|
.range 3 3 rfl (.why (.pf (p:=3<2 ^ 63) dk)) 123 [5,6,7,8,9,12,13,14,21,23,24,121,122] (fun (_:TTape)=>[]) (fun sv51=>[(4,(TTape.b sv51))]) rv2.2 (S_q1_b6 a1 a2 a3 a4 a5 a6 a7 a8 a9 rv1 rv11 rv12 rv2) (fun sv51 => 
.call (@F_q19_ok sv51) fun rv59 cv59=>
.k 70 1 cv59 [4] 6 false<|
.call (@F_q0_ok 9 rv59.2) fun rv60 cv60=>
.call (@F_q0_ok 12 rv60.2) fun rv61 cv61=>
 let e0_:=([rv59.1,a3,(⟨rv11.1,(i64.wrap (12+rv12.1)),rv60.1,0,rv61.1⟩:TRi)]:List TRi)
.reg 71 [5,7] [(5,hc cv60 [4] false),(7,hc cv61 [4] false),(9,hv (AV.d (eL TRi.e e0_)))] [.cl 1 cv60 [4] 7 false,.cl 0 cv61 [4] 7 false,.pf (zp TRi.e e0_)]<|
.range 3 3 rfl (.why (.pf (p:=3<2 ^ 63) dk)) 462 [7,8,14,21,460,461] (fun (_:TTape)=>[]) (fun sv77=>[(4,(TTape.b sv77))]) rv61.2 (S_q1_b9 a3 a4 a7 a8 rv11 rv12 rv59 rv60 rv61) (fun _ => 
.a 93 0 7 (@F_q20_ok) fun rv85=>
.r rv85) id) id)
def F_q1 (a0:(List Int)) (a1:TTr) (a2:TPo) (a3:TRi) (a4:TMe) (a5:Y8) (a6:Int) (a7:Int) (a8:Int) (a9:(List Int)):=(S_q1 a0 a1 a2 a3 a4 a5 a6 a7 a8 a9).den
theorem F_q1_ok {a0:(List Int)} {a1:TTr} {a2:TPo} {a3:TRi} {a4:TMe} {a5:Y8} {a6:Int} {a7:Int} {a8:Int} {a9:(List Int)}:FO (F_q1 a0 a1 a2 a3 a4 a5 a6 a7 a8 a9) 3 [(vl a0),(TTr.d a1),(TPo.d a2),(TRi.d a3),(TMe.d a4),(AV.d (DV.str a5)),(vi a6),(vi a7),(vi a8),(vl a9)] [] vb NL:=fO (s:=S_q1 a0 a1 a2 a3 a4 a5 a6 a7 a8 a9) Tryz.func3
end
end Go.Proofs.YtcfloplnjicomaaGreatDoor
