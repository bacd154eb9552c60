/- A part of the proof: what the functions compute, and that their calls return it. No condition. -/
import Derived.Test.YtclaojamgomjbaaGreatDoorG4
/- What the functions compute, and that their calls return it. No condition. -/
namespace Go.Proofs.YtclaojamgomjbaaGreatDoor
open Go Go.TA
noncomputable section
set_option maxRecDepth 100000
theorem cz7:OLe (bx (DV.agg [Z0,(DV.agg [(DV.i .i64 0),Z0,(DV.agg [Z0,Z0,Z0,Z0])]),(DV.agg [(DV.str ([])),(DV.i .i64 0),(DV.i .i64 0),Z0,Z0,Z0,Z0]),Z0,(DV.i .i64 0)])) (bx (TCa.e (⟨[],(⟨0,[],(⟨[],[],[],[]⟩:TBo)⟩:TOf),(⟨[],0,0,[],[],[],[]⟩:TPo),[],0⟩:TCa))):=z4z (DLe.agg (DLeL.cons DLe.sl0 (DLeL.cons (DLe.agg (DLeL.cons (DLe.refl _) (DLeL.cons DLe.sl0 (DLeL.cons (DLe.agg (DLeL.cons DLe.sl0 (DLeL.cons DLe.sl0 (DLeL.cons DLe.sl0 (DLeL.cons DLe.sl0 DLeL.nil))))) DLeL.nil)))) (DLeL.cons (DLe.agg (DLeL.cons (DLe.refl _) (DLeL.cons (DLe.refl _) (DLeL.cons (DLe.refl _) (DLeL.cons DLe.sl0 (DLeL.cons DLe.sl0 (DLeL.cons DLe.sl0 (DLeL.cons DLe.sl0 DLeL.nil)))))))) (DLeL.cons DLe.sl0 (DLeL.cons (DLe.refl _) DLeL.nil))))))
abbrev R_qa:=TCa×TTape
def V_qa (x:R_qa):AV:=(AV.d (TCa.e x.1))
def L_qa (x:R_qa):List Ob:=[(bx (TTape.e x.2))]
def S_qa_b1 (rv1:R_q0) (rv2:R_q0) (rv3:R_q0) (iv4:Nat) (sv5:TOf):Scr Tryz.prog R_qa (Step (TOf) R_qa) :=
.reg 5 [] [] [.pf (nn iv4),.ev 0] <|
.call (@F_q2e_ok sv5 (([(⟨1,[49],12,(IntKind.i64.wrap (4400+rv1.1)),0,50,0,0,0,0⟩:TOp),(⟨2,[],0,4600,1,5,1,(IntKind.i64.wrap (4600+rv2.1)),0,0⟩:TOp),(⟨3,[],0,4640,1,2,0,0,0,0⟩:TOp),(⟨4,[],0,(IntKind.i64.wrap (4650+rv3.1)),1,0,0,0,0,0⟩:TOp)]:List TOp).getD iv4 default)) fun rv6 cv6 =>
.reg 6 [] [(2,hc cv6 [] true),(6,{ obs:=[(4,(bx (TOf.e (⟨0,[],(⟨[],[],[],[]⟩:TBo)⟩:TOf))))] })] [.cl 0 cv6 [] 4 true,.pf cz1] <|
.ite (rv6.2==0) (
.ret [] (.cont rv6.1)) (
.ret [] (.cont sv5))
def S_qa_b2 (sv5:TOf) (rv7:R_qe) (iv8:Nat) (sv9:TTape×(List Int)×TOf×List UInt8×Int×Int×(List Int)×(List Int)×(List Int)×(List TWa)×Int×(List Int)):Scr Tryz.prog R_qa (Step (TTape×(List Int)×TOf×List UInt8×Int×Int×(List Int)×(List Int)×(List Int)×(List TWa)×Int×(List Int)) R_qa) :=
.call (@F_q4_ok ([0,50,50]:List Int) sv9.1) fun rv10 cv10 =>
.guard [iv8<sv9.2.2.2.2.2.2.2.2.2.2.2.length,(0+iv8)<sv9.2.2.2.2.2.2.2.2.2.2.2.length] <|
.reg 20 [8,11] [(7,hv (vl ([0,50,50]:List Int))),(8,hc cv10 [0] false),(11,{ obs:=[(4,(eS 1 (DV.i .i64) (sv9.2.2.2.2.2.2.2.2.2.2.2.set (0+iv8) (IntKind.i64.wrap ((sv9.2.2.2.2.2.2.2.2.2.2.2.getD (0+iv8) default)+rv10.1)))))] })] [.pf (Eq.refl sv9.2.2.2.2.2.2.2.2.2.2.2.length),.pf (nn iv8),.ev 0,.pf (Eq.refl sv9.2.2.2.2.2.2.2.2.2.2.2.length),.pf (nn iv8),.ev 0,.pf (Eq.refl sv9.2.2.2.2.2.2.2.2.2.2.2.length),.ev 1,.pf (Eq.refl sv9.2.2.2.2.2.2.2.2.2.2.2.length),.ev 1,.pf (zd (DV.i .i64) ([0,50,50]:List Int)),.cl 2 cv10 [0] 5 false,.pf (Eq.refl sv9.2.2.2.2.2.2.2.2.2.2.2.length),.pf (nn iv8),.ev 0,.pf (Eq.refl sv9.2.2.2.2.2.2.2.2.2.2.2.length),.ev 1,.pf (z19 (sz:=1) (e:=(DV.i .i64)) (l:=sv9.2.2.2.2.2.2.2.2.2.2.2) (i:=(0+iv8)) (x:=(IntKind.i64.wrap ((sv9.2.2.2.2.2.2.2.2.2.2.2.getD (0+iv8) default)+rv10.1))) (fun _=>rfl))] <|
.cst (A:=True) (.pf trivial) [(0,(vp 0)),(2,(vp 1)),(8,(vp 3)),(115,(vi (([rv7,rv7,rv7]:List Int).length:Int))),(116,(vi (iv8:Int)))] [(0,(vp 0)),(2,(vp 1)),(8,(vp 3)),(115,(vi (([rv7,rv7,rv7]:List Int).length:Int))),(116,(vi (iv8:Int)))] [(bx (TTape.e rv10.2)),(bx (TCa.e (⟨[],(⟨0,[],(⟨[],[],[],[]⟩:TBo)⟩:TOf),(⟨[],0,0,[],[],[],[]⟩:TPo),[],0⟩:TCa))),(bx (TOf.e sv5)),(Ob.box (AV.agg [(AV.d (eL (DV.i .u64) sv9.2.1)),(AV.d (TOf.e sv9.2.2.1)),(AV.agg [(AV.d (DV.str sv9.2.2.2.1)),(vi sv9.2.2.2.2.1),(vi sv9.2.2.2.2.2.1),(AV.ref 4 sv9.2.2.2.2.2.2.2.2.2.2.2.length 0 sv9.2.2.2.2.2.2.2.2.2.2.2.length),(vl sv9.2.2.2.2.2.2.1),(vl sv9.2.2.2.2.2.2.2.1),(vl sv9.2.2.2.2.2.2.2.2.1)]),(AV.d (eL TWa.e sv9.2.2.2.2.2.2.2.2.2.1)),(vi sv9.2.2.2.2.2.2.2.2.2.2.1)])),(eS 1 (DV.i .i64) (sv9.2.2.2.2.2.2.2.2.2.2.2.set (0+iv8) (IntKind.i64.wrap ((sv9.2.2.2.2.2.2.2.2.2.2.2.getD (0+iv8) default)+rv10.1))))] [(bx (TTape.e rv10.2)),(bx (TCa.e (⟨[],(⟨0,[],(⟨[],[],[],[]⟩:TBo)⟩:TOf),(⟨[],0,0,[],[],[],[]⟩:TPo),[],0⟩:TCa))),(bx (TOf.e sv5)),(Ob.box (AV.agg [(AV.d (eL (DV.i .u64) sv9.2.1)),(AV.d (TOf.e sv9.2.2.1)),(AV.agg [(AV.d (DV.str sv9.2.2.2.1)),(vi sv9.2.2.2.2.1),(vi sv9.2.2.2.2.2.1),(AV.ref 4 ((sv9.2.2.2.2.2.2.2.2.2.2.2.set (0+iv8) (IntKind.i64.wrap ((sv9.2.2.2.2.2.2.2.2.2.2.2.getD (0+iv8) default)+rv10.1))).length) 0 ((sv9.2.2.2.2.2.2.2.2.2.2.2.set (0+iv8) (IntKind.i64.wrap ((sv9.2.2.2.2.2.2.2.2.2.2.2.getD (0+iv8) default)+rv10.1))).length)),(vl sv9.2.2.2.2.2.2.1),(vl sv9.2.2.2.2.2.2.2.1),(vl sv9.2.2.2.2.2.2.2.2.1)]),(AV.d (eL TWa.e sv9.2.2.2.2.2.2.2.2.2.1)),(vi sv9.2.2.2.2.2.2.2.2.2.2.1)])),(eS 1 (DV.i .i64) (sv9.2.2.2.2.2.2.2.2.2.2.2.set (0+iv8) (IntKind.i64.wrap ((sv9.2.2.2.2.2.2.2.2.2.2.2.getD (0+iv8) default)+rv10.1))))] (fun _=>⟨by simp only,by simp only[List.length_set]⟩) <|
.ret [] (.cont (rv10.2,sv9.2.1,sv9.2.2.1,sv9.2.2.2.1,sv9.2.2.2.2.1,sv9.2.2.2.2.2.1,sv9.2.2.2.2.2.2.1,sv9.2.2.2.2.2.2.2.1,sv9.2.2.2.2.2.2.2.2.1,sv9.2.2.2.2.2.2.2.2.2.1,sv9.2.2.2.2.2.2.2.2.2.2.1,(sv9.2.2.2.2.2.2.2.2.2.2.2.set (0+iv8) (IntKind.i64.wrap ((sv9.2.2.2.2.2.2.2.2.2.2.2.getD (0+iv8) default)+rv10.1)))))
def S_qa (p0:TTape):Scr Tryz.prog R_qa R_qa :=
.reg 0 [] [(0,{ obs:=[(1,(bx (TCa.e (⟨[],(⟨0,[],(⟨[],[],[],[]⟩:TBo)⟩:TOf),(⟨[],0,0,[],[],[],[]⟩:TPo),[],0⟩:TCa))))] })] [.pf cz7] <|
.call (@F_qj_ok 18 p0) fun rv11 cv11 =>
.reg 1 [] [(1,hc cv11 [0] false),(2,{ obs:=[(2,(bx (TOf.e (⟨0,[],(⟨[],[],[],[]⟩:TBo)⟩:TOf))))] })] [.cl 0 cv11 [0] 2 false,.pf cz1] <|
.call (@F_q2e_ok rv11.1 (⟨8,[49],12,0,0,0,0,0,2000,0⟩:TOp)) fun rv12 cv12 =>
.reg 2 [] [(2,hc cv12 [] true)] [.cl 0 cv12 [] 3 true] <|
.call (@F_q0_ok 100 rv11.2) fun rv1 cv1 =>
.call (@F_q0_ok 40 rv1.2) fun rv2 cv2 =>
.call (@F_q0_ok 20 rv2.2) fun rv3 cv3 =>
.reg 3 [] [(1,hc cv1 [0] false),(5,hc cv2 [0] false),(10,hc cv3 [0] false),(13,hv (AV.d (eL TOp.e ([(⟨1,[49],12,(IntKind.i64.wrap (4400+rv1.1)),0,50,0,0,0,0⟩:TOp),(⟨2,[],0,4600,1,5,1,(IntKind.i64.wrap (4600+rv2.1)),0,0⟩:TOp),(⟨3,[],0,4640,1,2,0,0,0,0⟩:TOp),(⟨4,[],0,(IntKind.i64.wrap (4650+rv3.1)),1,0,0,0,0,0⟩:TOp)]:List TOp))))] [.cl 2 cv1 [0] 3 false,.cl 1 cv2 [0] 3 false,.cl 0 cv3 [0] 3 false,.pf (zd TOp.e ([(⟨1,[49],12,(IntKind.i64.wrap (4400+rv1.1)),0,50,0,0,0,0⟩:TOp),(⟨2,[],0,4600,1,5,1,(IntKind.i64.wrap (4600+rv2.1)),0,0⟩:TOp),(⟨3,[],0,4640,1,2,0,0,0,0⟩:TOp),(⟨4,[],0,(IntKind.i64.wrap (4650+rv3.1)),1,0,0,0,0,0⟩:TOp)]:List TOp))] <|
.range 4 4 rfl (.why (.pf (p:=4<2 ^ 63) (by decide))) 37 [0,2,3,35,36] (fun (_:TOf)=>[]) (fun (sv5:TOf)=>[(2,(bx (TOf.e sv5)))]) rv12.1 (S_qa_b1 rv1 rv2 rv3) (fun (sv5:TOf) => 
.sh (H:=NoH) (A:=True) (.pf trivial) [(0,(vp 0)),(2,(vp 1)),(3,(vp 2)),(35,(AV.d (eL TOp.e ([(⟨1,[49],12,(IntKind.i64.wrap (4400+rv1.1)),0,50,0,0,0,0⟩:TOp),(⟨2,[],0,4600,1,5,1,(IntKind.i64.wrap (4600+rv2.1)),0,0⟩:TOp),(⟨3,[],0,4640,1,2,0,0,0,0⟩:TOp),(⟨4,[],0,(IntKind.i64.wrap (4650+rv3.1)),1,0,0,0,0,0⟩:TOp)]:List TOp)))),(36,(vi 4))] [(0,(vp 0)),(2,(vp 1)),(3,(vp 2)),(35,(AV.d (eL TOp.e ([(⟨1,[49],12,(IntKind.i64.wrap (4400+rv1.1)),0,50,0,0,0,0⟩:TOp),(⟨2,[],0,4600,1,5,1,(IntKind.i64.wrap (4600+rv2.1)),0,0⟩:TOp),(⟨3,[],0,4640,1,2,0,0,0,0⟩:TOp),(⟨4,[],0,(IntKind.i64.wrap (4650+rv3.1)),1,0,0,0,0,0⟩:TOp)]:List TOp)))),(36,(vi 4))] [(bx (TTape.e rv3.2)),(bx (TCa.e (⟨[],(⟨0,[],(⟨[],[],[],[]⟩:TBo)⟩:TOf),(⟨[],0,0,[],[],[],[]⟩:TPo),[],0⟩:TCa))),(bx (TOf.e sv5))] [(bx (TTape.e rv3.2)),(bx (TCa.e (⟨[],(⟨0,[],(⟨[],[],[],[]⟩:TBo)⟩:TOf),(⟨[],0,0,[],[],[],[]⟩:TPo),[],0⟩:TCa))),(bx (TOf.e sv5)),Ob.unb] (fun _=>z5w) (z59 _) <|
.call (@F_q1h_ok 3 rv3.2) fun rv13 cv13 =>
.call (@F_q0_ok 500 rv13.2) fun rv14 cv14 =>
.reg 10 [1,4,7,8] [(1,hc cv13 [0] false),(4,hc cv14 [0] false),(6,hv (AV.d (TCa.e (⟨rv13.1,sv5,(⟨[],0,0,[],[],[],[]⟩:TPo),[],(IntKind.i64.wrap (4600+rv14.1))⟩:TCa)))),(7,{ h:=.born 3 false,obs:=[(3,(bx (TCa.e (⟨[],(⟨0,[],(⟨[],[],[],[]⟩:TBo)⟩:TOf),(⟨[],0,0,[],[],[],[]⟩:TPo),[],0⟩:TCa))))] })] [.cl 1 cv13 [0] 4 false,.cl 1 cv13 [0] 4 false,.cl 0 cv14 [0] 4 false,.cl 0 cv14 [0] 4 false,.pf (p:=LeV (AV.d (DV.agg [(eL (DV.i .u64) rv13.1),(TOf.e sv5),(DV.agg [(DV.str ([])),(DV.i .i64 0),(DV.i .i64 0),Z0,Z0,Z0,Z0]),Z0,(DV.i .i64 (IntKind.i64.wrap (4600+rv14.1)))])) (AV.d (TCa.e (⟨rv13.1,sv5,(⟨[],0,0,[],[],[],[]⟩:TPo),[],(IntKind.i64.wrap (4600+rv14.1))⟩:TCa)))) (z3p rfl (DLe.agg (DLeL.cons (DLe.refl _) (DLeL.cons (DLe.refl _) (DLeL.cons (DLe.agg (DLeL.cons (DLe.refl _) (DLeL.cons (DLe.refl _) (DLeL.cons (DLe.refl _) (DLeL.cons DLe.sl0 (DLeL.cons DLe.sl0 (DLeL.cons DLe.sl0 (DLeL.cons DLe.sl0 DLeL.nil)))))))) (DLeL.cons DLe.sl0 (DLeL.cons (DLe.refl _) DLeL.nil))))))),.pf (p:=LeV (AV.d (DV.agg [(eL (DV.i .u64) rv13.1),(TOf.e sv5),(DV.agg [(DV.str ([])),(DV.i .i64 0),(DV.i .i64 0),Z0,Z0,Z0,Z0]),Z0,(DV.i .i64 (IntKind.i64.wrap (4600+rv14.1)))])) (AV.d (TCa.e (⟨rv13.1,sv5,(⟨[],0,0,[],[],[],[]⟩:TPo),[],(IntKind.i64.wrap (4600+rv14.1))⟩:TCa)))) (z3p rfl (DLe.agg (DLeL.cons (DLe.refl _) (DLeL.cons (DLe.refl _) (DLeL.cons (DLe.agg (DLeL.cons (DLe.refl _) (DLeL.cons (DLe.refl _) (DLeL.cons (DLe.refl _) (DLeL.cons DLe.sl0 (DLeL.cons DLe.sl0 (DLeL.cons DLe.sl0 (DLeL.cons DLe.sl0 DLeL.nil)))))))) (DLeL.cons DLe.sl0 (DLeL.cons (DLe.refl _) DLeL.nil))))))),.pf cz7,.pf cz7,.pf cz7] <|
.cut none [0,2,3,8] (fun (sv15:List UInt8×Int)=>[(9,(AV.d (DV.str sv15.1))),(10,(vi sv15.2))]) (fun (_:List UInt8×Int)=>[]) (
.ite (decide ((sv5.Book.Orders.length:Int)>0)) (
.guard [0<sv5.Book.Orders.length,(0:Int)≤(IntKind.i64.wrap (((sv5.Book.Orders.getD 0 default).Verification)-1)),((IntKind.i64.wrap (((sv5.Book.Orders.getD 0 default).Verification)-1))).toNat<sv5.Book.Verifications.length,(0:Int)≤(IntKind.i64.wrap (((sv5.Book.Verifications.getD (((IntKind.i64.wrap (((sv5.Book.Orders.getD 0 default).Verification)-1))).toNat) default).Commitment)-1)),((IntKind.i64.wrap (((sv5.Book.Verifications.getD (((IntKind.i64.wrap (((sv5.Book.Orders.getD 0 default).Verification)-1))).toNat) default).Commitment)-1))).toNat<sv5.Book.Commitments.length,(0:Int)≤(IntKind.i64.wrap (((sv5.Book.Commitments.getD (((IntKind.i64.wrap (((sv5.Book.Verifications.getD (((IntKind.i64.wrap (((sv5.Book.Orders.getD 0 default).Verification)-1))).toNat) default).Commitment)-1))).toNat) default).Reservation)-1)),((IntKind.i64.wrap (((sv5.Book.Commitments.getD (((IntKind.i64.wrap (((sv5.Book.Verifications.getD (((IntKind.i64.wrap (((sv5.Book.Orders.getD 0 default).Verification)-1))).toNat) default).Commitment)-1))).toNat) default).Reservation)-1))).toNat<sv5.Book.Reservations.length] <|
.reg 13 [26,27] [] [.pf (p:=(0:Int)≤0) (by decide),.ev 0,.pf (p:=(0:Int)≤0) (by decide),.ev 0,.ev 1,.ev 2,.ev 1,.ev 2,.ev 3,.ev 4,.ev 3,.ev 4,.ev 5,.ev 6,.ev 5,.ev 6] <|
.ret [] (.next ((sv5.Book.Reservations.getD (((IntKind.i64.wrap (((sv5.Book.Commitments.getD (((IntKind.i64.wrap (((sv5.Book.Verifications.getD (((IntKind.i64.wrap (((sv5.Book.Orders.getD 0 default).Verification)-1))).toNat) default).Commitment)-1))).toNat) default).Reservation)-1))).toNat) default).Code,(sv5.Book.Reservations.getD (((IntKind.i64.wrap (((sv5.Book.Commitments.getD (((IntKind.i64.wrap (((sv5.Book.Verifications.getD (((IntKind.i64.wrap (((sv5.Book.Orders.getD 0 default).Verification)-1))).toNat) default).Commitment)-1))).toNat) default).Reservation)-1))).toNat) default).Year))) (
.ret [] (.next ([49],12)))) fun (sv15:List UInt8×Int) =>
.call (@F_qe_ok sv5.Book sv15.1 sv15.2) fun rv7 cv7 =>
.reg 15 [] [(4,hc cv7 [] true)] [.cl 0 cv7 [] 4 true] <|
.reg 16 [] [(5,{ h:=.obj,obs:=[(4,(eS 1 (DV.i .i64) ([rv7,rv7,rv7]:List Int)))] }),(6,hv (vl ([0,0,0]:List Int))),(7,hv (vl ([0,0,0]:List Int))),(11,hv (vl ([rv7,rv7,rv7]:List Int)))] [.pf (z54 (sz:=1) (e:=(DV.i .i64)) (l:=([rv7,rv7,rv7]:List Int))),.pf (zd (DV.i .i64) ([0,0,0]:List Int)),.pf (zd (DV.i .i64) ([0,0,0]:List Int)),.pf (zd (DV.i .i64) ([rv7,rv7,rv7]:List Int))] <|
.guard [([rv7,rv7,rv7]:List Int).length<2 ^ 63] <|
.range (([rv7,rv7,rv7]:List Int).length:Int) (([rv7,rv7,rv7]:List Int).length) rfl (.why (.ev 0)) 116 [0,2,8,115] (fun (_:TTape×(List Int)×TOf×List UInt8×Int×Int×(List Int)×(List Int)×(List Int)×(List TWa)×Int×(List Int))=>[]) (fun (sv9:TTape×(List Int)×TOf×List UInt8×Int×Int×(List Int)×(List Int)×(List Int)×(List TWa)×Int×(List Int))=>[(0,(bx (TTape.e sv9.1))),(3,(Ob.box (AV.agg [(AV.d (eL (DV.i .u64) sv9.2.1)),(AV.d (TOf.e sv9.2.2.1)),(AV.agg [(AV.d (DV.str sv9.2.2.2.1)),(vi sv9.2.2.2.2.1),(vi sv9.2.2.2.2.2.1),(AV.ref 4 sv9.2.2.2.2.2.2.2.2.2.2.2.length 0 sv9.2.2.2.2.2.2.2.2.2.2.2.length),(vl sv9.2.2.2.2.2.2.1),(vl sv9.2.2.2.2.2.2.2.1),(vl sv9.2.2.2.2.2.2.2.2.1)]),(AV.d (eL TWa.e sv9.2.2.2.2.2.2.2.2.2.1)),(vi sv9.2.2.2.2.2.2.2.2.2.2.1)]))),(4,(eS 1 (DV.i .i64) sv9.2.2.2.2.2.2.2.2.2.2.2))]) (rv14.2,(⟨rv13.1,sv5,(⟨[],0,0,[],[],[],[]⟩:TPo),[],(IntKind.i64.wrap (4600+rv14.1))⟩:TCa).Keys,(⟨rv13.1,sv5,(⟨[],0,0,[],[],[],[]⟩:TPo),[],(IntKind.i64.wrap (4600+rv14.1))⟩:TCa).Office,sv15.1,sv15.2,5000,([0,0,0]:List Int),([0,0,0]:List Int),([rv7,rv7,rv7]:List Int),(⟨rv13.1,sv5,(⟨[],0,0,[],[],[],[]⟩:TPo),[],(IntKind.i64.wrap (4600+rv14.1))⟩:TCa).Paid,(⟨rv13.1,sv5,(⟨[],0,0,[],[],[],[]⟩:TPo),[],(IntKind.i64.wrap (4600+rv14.1))⟩:TCa).Day,([rv7,rv7,rv7]:List Int)) (S_qa_b2 sv5 rv7) (fun (sv9:TTape×(List Int)×TOf×List UInt8×Int×Int×(List Int)×(List Int)×(List Int)×(List TWa)×Int×(List Int)) => 
.guard [sv9.2.2.2.2.2.2.2.2.2.2.2.length<2 ^ 63] <|
.reg 22 [] [] [] <|
.frz 4 (.ev 0) none [] [1,3] <|
.ret [] ((⟨sv9.2.1,sv9.2.2.1,(⟨sv9.2.2.2.1,sv9.2.2.2.2.1,sv9.2.2.2.2.2.1,sv9.2.2.2.2.2.2.2.2.2.2.2,sv9.2.2.2.2.2.2.1,sv9.2.2.2.2.2.2.2.1,sv9.2.2.2.2.2.2.2.2.1⟩:TPo),sv9.2.2.2.2.2.2.2.2.2.1,sv9.2.2.2.2.2.2.2.2.2.2.1⟩:TCa),sv9.1)) id) id
def F_qa (p0:TTape):Option R_qa:=(S_qa p0).den
theorem F_qa_ok {p0:TTape} (r:R_qa) (h:F_qa p0=some r):CallOk Tryz.prog 9 [(vp 0)] [(bx (TTape.e p0))] (V_qa r) (L_qa r):=fOk (s:=S_qa p0) Tryz.func9 rfl (by kernel_rfl) h
abbrev R_q38:=Bool
def V_q38 (x:R_q38):AV:=(vb x)
def L_q38 (_:R_q38):List Ob:=[]
def S_q38 (a0:Int):Scr Tryz.prog R_q38 R_q38 :=
.ret [] (bif (decide (a0≥1)) then (decide (a0≤1000000)) else false)
def F_q38 (a0:Int):Option R_q38:=(S_q38 a0).den
theorem F_q38_ok {a0:Int} (r:R_q38) (h:F_q38 a0=some r):CallOk Tryz.prog 90 [(vi a0)] [] (V_q38 r) (L_q38 r):=fOk (s:=S_q38 a0) Tryz.func90 rfl (by kernel_rfl) h
abbrev R_q1t:=TWa×Int
def V_q1t (x:R_q1t):AV:=(AV.tup [(AV.d (TWa.e x.1)),(vi x.2)])
def L_q1t (_:R_q1t):List Ob:=[]
def S_q1t (a0:TOf) (a1:Int) (a2:Int):Scr Tryz.prog R_q1t R_q1t :=
.call (@F_q9_ok a0) fun rv1 cv1 =>
.reg 1 [] [(1,hc cv1 [] true)] [.cl 0 cv1 [] 2 true] <|
.ite (!rv1) (
.ret [] ((⟨0,0,[],0,0,0,0,0,0,0,0,0,0,0⟩:TWa),1)) (
.ite (bif (decide (a1<1)) then true else (decide (a1>(a0.Book.Orders.length:Int)))) (
.ret [] ((⟨0,0,[],0,0,0,0,0,0,0,0,0,0,0⟩:TWa),6)) (
.guard [(0:Int)≤(IntKind.i64.wrap (a1-1)),((IntKind.i64.wrap (a1-1))).toNat<a0.Book.Orders.length] <|
.reg 5 [] [] [.ev 0,.ev 1] <|
.ite ((a0.Book.Orders.getD (((IntKind.i64.wrap (a1-1))).toNat) default).Back) (
.ret [] ((⟨0,0,[],0,0,0,0,0,0,0,0,0,0,0⟩:TWa),9)) (
.call (@F_q38_ok a2) fun rv2 cv2 =>
.reg 8 [] [(1,hc cv2 [] true)] [.cl 0 cv2 [] 3 true] <|
.ite (!rv2) (
.ret [] ((⟨0,0,[],0,0,0,0,0,0,0,0,0,0,0⟩:TWa),2)) (
.guard [(0:Int)≤(IntKind.i64.wrap (((a0.Book.Orders.getD (((IntKind.i64.wrap (a1-1))).toNat) default).Verification)-1)),((IntKind.i64.wrap (((a0.Book.Orders.getD (((IntKind.i64.wrap (a1-1))).toNat) default).Verification)-1))).toNat<a0.Book.Verifications.length] <|
.reg 10 [] [] [.ev 0,.ev 1] <|
.guard [(0:Int)≤(IntKind.i64.wrap (((a0.Book.Verifications.getD (((IntKind.i64.wrap (((a0.Book.Orders.getD (((IntKind.i64.wrap (a1-1))).toNat) default).Verification)-1))).toNat) default).Commitment)-1)),((IntKind.i64.wrap (((a0.Book.Verifications.getD (((IntKind.i64.wrap (((a0.Book.Orders.getD (((IntKind.i64.wrap (a1-1))).toNat) default).Verification)-1))).toNat) default).Commitment)-1))).toNat<a0.Book.Commitments.length] <|
.reg 11 [] [] [.ev 0,.ev 1] <|
.guard [(0:Int)≤(IntKind.i64.wrap (((a0.Book.Commitments.getD (((IntKind.i64.wrap (((a0.Book.Verifications.getD (((IntKind.i64.wrap (((a0.Book.Orders.getD (((IntKind.i64.wrap (a1-1))).toNat) default).Verification)-1))).toNat) default).Commitment)-1))).toNat) default).Reservation)-1)),((IntKind.i64.wrap (((a0.Book.Commitments.getD (((IntKind.i64.wrap (((a0.Book.Verifications.getD (((IntKind.i64.wrap (((a0.Book.Orders.getD (((IntKind.i64.wrap (a1-1))).toNat) default).Verification)-1))).toNat) default).Commitment)-1))).toNat) default).Reservation)-1))).toNat<a0.Book.Reservations.length] <|
.reg 12 [] [] [.ev 0,.ev 1] <|
.ret [] ((⟨a2,a0.Number,(a0.Book.Reservations.getD (((IntKind.i64.wrap (((a0.Book.Commitments.getD (((IntKind.i64.wrap (((a0.Book.Verifications.getD (((IntKind.i64.wrap (((a0.Book.Orders.getD (((IntKind.i64.wrap (a1-1))).toNat) default).Verification)-1))).toNat) default).Commitment)-1))).toNat) default).Reservation)-1))).toNat) default).Code,(a0.Book.Reservations.getD (((IntKind.i64.wrap (((a0.Book.Commitments.getD (((IntKind.i64.wrap (((a0.Book.Verifications.getD (((IntKind.i64.wrap (((a0.Book.Orders.getD (((IntKind.i64.wrap (a1-1))).toNat) default).Verification)-1))).toNat) default).Commitment)-1))).toNat) default).Reservation)-1))).toNat) default).Year,(a0.Book.Verifications.getD (((IntKind.i64.wrap (((a0.Book.Orders.getD (((IntKind.i64.wrap (a1-1))).toNat) default).Verification)-1))).toNat) default).Number,(a0.Book.Orders.getD (((IntKind.i64.wrap (a1-1))).toNat) default).Attempt,(a0.Book.Commitments.getD (((IntKind.i64.wrap (((a0.Book.Verifications.getD (((IntKind.i64.wrap (((a0.Book.Orders.getD (((IntKind.i64.wrap (a1-1))).toNat) default).Verification)-1))).toNat) default).Commitment)-1))).toNat) default).Number,(a0.Book.Reservations.getD (((IntKind.i64.wrap (((a0.Book.Commitments.getD (((IntKind.i64.wrap (((a0.Book.Verifications.getD (((IntKind.i64.wrap (((a0.Book.Orders.getD (((IntKind.i64.wrap (a1-1))).toNat) default).Verification)-1))).toNat) default).Commitment)-1))).toNat) default).Reservation)-1))).toNat) default).Number,(a0.Book.Verifications.getD (((IntKind.i64.wrap (((a0.Book.Orders.getD (((IntKind.i64.wrap (a1-1))).toNat) default).Verification)-1))).toNat) default).Amount,(a0.Book.Commitments.getD (((IntKind.i64.wrap (((a0.Book.Verifications.getD (((IntKind.i64.wrap (((a0.Book.Orders.getD (((IntKind.i64.wrap (a1-1))).toNat) default).Verification)-1))).toNat) default).Commitment)-1))).toNat) default).Payee,(a0.Book.Orders.getD (((IntKind.i64.wrap (a1-1))).toNat) default).Day,(a0.Book.Commitments.getD (((IntKind.i64.wrap (((a0.Book.Verifications.getD (((IntKind.i64.wrap (((a0.Book.Orders.getD (((IntKind.i64.wrap (a1-1))).toNat) default).Verification)-1))).toNat) default).Commitment)-1))).toNat) default).Due,0,0⟩:TWa),0)))))
def F_q1t (a0:TOf) (a1:Int) (a2:Int):Option R_q1t:=(S_q1t a0 a1 a2).den
theorem F_q1t_ok {a0:TOf} {a1:Int} {a2:Int} (r:R_q1t) (h:F_q1t a0 a1 a2=some r):CallOk Tryz.prog 38 [(AV.d (TOf.e a0)),(vi a1),(vi a2)] [] (V_q1t r) (L_q1t r):=fOk (s:=S_q1t a0 a1 a2) Tryz.func38 rfl (by kernel_rfl) h
abbrev R_q7:=Bool
def V_q7 (x:R_q7):AV:=(vb x)
def L_q7 (_:R_q7):List Ob:=[]
def S_q7_b1 (a0:TWa) (iv1:Nat) (_:Unit):Scr Tryz.prog R_q7 (Step (Unit) R_q7) :=
.reg 3 [] [] [.pf (nn iv1),.ev 0] <|
.call (@F_q38_ok (([a0.Number,a0.Reservation,a0.Commitment,a0.Verification,a0.Attempt,a0.Payee]:List Int).getD iv1 default)) fun rv2 cv2 =>
.reg 4 [] [(1,hc cv2 [] true)] [.cl 0 cv2 [] 1 true] <|
.ite (!rv2) (
.ret [] (.ret false)) (
.ret [] (.cont ()))
def S_q7_b2 (a0:TWa) (iv3:Nat) (_:Unit):Scr Tryz.prog R_q7 (Step (Unit) R_q7) :=
.reg 9 [] [] [.pf (nn iv3),.ev 0] <|
.ite (bif (decide ((([a0.Day,a0.Due]:List Int).getD iv3 default)<0)) then true else (decide ((([a0.Day,a0.Due]:List Int).getD iv3 default)>35990))) (
.ret [] (.ret false)) (
.ret [] (.cont ()))
def S_q7 (a0:TWa):Scr Tryz.prog R_q7 R_q7 :=
.reg 1 [] [(12,hv (vl ([a0.Number,a0.Reservation,a0.Commitment,a0.Verification,a0.Attempt,a0.Payee]:List Int)))] [.pf (zd (DV.i .i64) ([a0.Number,a0.Reservation,a0.Commitment,a0.Verification,a0.Attempt,a0.Payee]:List Int))] <|
.range 6 6 rfl (.why (.pf (p:=6<2 ^ 63) (by decide))) 21 [1,19,20] (fun (_:Unit)=>[]) (fun (_:Unit)=>[]) () (S_q7_b1 a0) (fun (_:Unit) => 
.reg 7 [] [(4,hv (vl ([a0.Day,a0.Due]:List Int)))] [.pf (zd (DV.i .i64) ([a0.Day,a0.Due]:List Int))] <|
.range 2 2 rfl (.why (.pf (p:=2<2 ^ 63) (by decide))) 35 [1,33,34] (fun (_:Unit)=>[]) (fun (_:Unit)=>[]) () (S_q7_b2 a0) (fun (_:Unit) => 
.calld [(bif (decide (a0.Office≥1)) then (decide (a0.Office≤6)) else false)=true] default (@F_ql_ok a0.Code) fun rv4 cv4 =>
.reg 13 [] [(11,hc cv4 [] true)] [.clg 0 [(bif (decide (a0.Office≥1)) then (decide (a0.Office≤6)) else false)=true] cv4 [] 1 true] <|
.ret [] (bif (bif (bif (bif (bif (bif (decide (a0.Office≥1)) then (decide (a0.Office≤6)) else false) then rv4 else false) then (decide (a0.Year≥0)) else false) then (decide (a0.Year≤99)) else false) then (decide (a0.Amount≥1)) else false) then (decide (a0.Amount≤1000000000000)) else false)) id) id
def F_q7 (a0:TWa):Option R_q7:=(S_q7 a0).den
theorem F_q7_ok {a0:TWa} (r:R_q7) (h:F_q7 a0=some r):CallOk Tryz.prog 39 [(AV.d (TWa.e a0))] [] (V_q7 r) (L_q7 r):=fOk (s:=S_q7 a0) Tryz.func39 rfl (by kernel_rfl) h
abbrev R_qn:=List UInt8
def V_qn (x:R_qn):AV:=(AV.d (DV.str x))
def L_qn (_:R_qn):List Ob:=[]
def S_qn_b1 (a0:TWa) (iv1:Nat) (sv2:List UInt8):Scr Tryz.prog R_qn (Step (List UInt8) R_qn) :=
.reg 6 [] [] [.pf (nn iv1),.ev 0] <|
.call (@F_q51_ok (([a0.Year,a0.Reservation,a0.Commitment,a0.Verification,a0.Attempt,a0.Amount,a0.Payee,a0.Day,a0.Due]:List Int).getD iv1 default)) fun rv3 cv3 =>
.guard [([32]).length+rv3.length<2 ^ 63,sv2.length+(([32])++rv3).length<2 ^ 63] <|
.reg 7 [] [(2,hc cv3 [] true)] [.cl 2 cv3 [] 1 true,.ev 0,.ev 1] <|
.ret [] (.cont (sv2++(([32])++rv3)))
def S_qn (a0:TWa):Scr Tryz.prog R_qn R_qn :=
.call (@F_q7_ok a0) fun rv4 cv4 =>
.reg 1 [] [(1,hc cv4 [] true)] [.cl 0 cv4 [] 1 true] <|
.ite (!rv4) (
.ret [] ([])) (
.call (@F_q51_ok a0.Number) fun rv5 cv5 =>
.call (@F_q51_ok a0.Office) fun rv6 cv6 =>
.guard [([119,97,114,114,97,110,116,32]).length+rv5.length<2 ^ 63,(([119,97,114,114,97,110,116,32])++rv5).length+([32]).length<2 ^ 63,((([119,97,114,114,97,110,116,32])++rv5)++([32])).length+rv6.length<2 ^ 63,(((([119,97,114,114,97,110,116,32])++rv5)++([32]))++rv6).length+([32]).length<2 ^ 63,((((([119,97,114,114,97,110,116,32])++rv5)++([32]))++rv6)++([32])).length+a0.Code.length<2 ^ 63] <|
.reg 3 [] [(2,hc cv5 [] true),(7,hc cv6 [] true)] [.cl 6 cv5 [] 1 true,.ev 0,.ev 1,.cl 5 cv6 [] 1 true,.ev 2,.ev 3,.ev 4] <|
.reg 4 [] [(18,hv (vl ([a0.Year,a0.Reservation,a0.Commitment,a0.Verification,a0.Attempt,a0.Amount,a0.Payee,a0.Day,a0.Due]:List Int)))] [.pf (zd (DV.i .i64) ([a0.Year,a0.Reservation,a0.Commitment,a0.Verification,a0.Attempt,a0.Amount,a0.Payee,a0.Day,a0.Due]:List Int))] <|
.range 9 9 rfl (.why (.pf (p:=9<2 ^ 63) (by decide))) 42 [40,41] (fun (sv2:List UInt8)=>[(3,(AV.d (DV.str sv2)))]) (fun (_:List UInt8)=>[]) (((((([119,97,114,114,97,110,116,32])++rv5)++([32]))++rv6)++([32]))++a0.Code) (S_qn_b1 a0) (fun (sv2:List UInt8) => 
.ret [] sv2) id)
def F_qn (a0:TWa):Option R_qn:=(S_qn a0).den
theorem F_qn_ok {a0:TWa} (r:R_qn) (h:F_qn a0=some r):CallOk Tryz.prog 93 [(AV.d (TWa.e a0))] [] (V_qn r) (L_qn r):=fOk (s:=S_qn a0) Tryz.func93 rfl (by kernel_rfl) h
abbrev R_qo:=Int
def V_qo (x:R_qo):AV:=(AV.d (DV.i .u64 x))
def L_qo (_:R_qo):List Ob:=[]
def S_qo_b1 (a0:List UInt8) (sv1:Int×Int):Scr Tryz.prog R_qo (Step (Int×Int) R_qo) :=
.ite (decide (sv1.2<(a0.length:Int))) (
.guard [(0:Int)≤sv1.2,(sv1.2).toNat<a0.length] <|
.reg 5 [] [] [.ev 0,.ev 1] <|
.ret [] (.cont ((IntKind.u64.wrap ((IntKind.u64.wrap ((BitVec.ofInt IntKind.u64.bits sv1.1 ^^^ BitVec.ofInt IntKind.u64.bits (IntKind.u64.wrap ((a0.getD ((sv1.2).toNat) 0).toNat:Int))).toNat:Int)) * 1099511628211)),(IntKind.i64.wrap (sv1.2+1))))) (
.ret [] (.brk (sv1.1,sv1.2)))
def S_qo (a0:List UInt8):Scr Tryz.prog R_qo R_qo :=
.iter [0] (fun (sv1:Int×Int)=>[(3,(AV.d (DV.i .u64 sv1.1))),(4,(vi sv1.2))]) (fun (_:Int×Int)=>[]) (14695981039346656037,0) (S_qo_b1 a0) (fun (sv1:Int×Int) =>
.ret [] sv1.1) id
def F_qo (a0:List UInt8):Option R_qo:=(S_qo a0).den
theorem F_qo_ok {a0:List UInt8} (r:R_qo) (h:F_qo a0=some r):CallOk Tryz.prog 92 [(AV.d (DV.str a0))] [] (V_qo r) (L_qo r):=fOk (s:=S_qo a0) Tryz.func92 rfl (by kernel_rfl) h
abbrev R_qc:=Int
def V_qc (x:R_qc):AV:=(AV.d (DV.i .u64 x))
def L_qc (_:R_qc):List Ob:=[]
def S_qc_b1 (a0:Int) (sv1:(List Int)×Int):Scr Tryz.prog R_qc (Step ((List Int)×Int) R_qc) :=
.ite (decide (sv1.2≥0)) (
.guard [(0:Int)≤sv1.2,(sv1.1.length+1) * (2 * 1)≤2 ^ 48] <|
.reg 5 [] [(5,hv (AV.d (eL (DV.i .u8) ([(IntKind.u8.wrap (a0.fdiv (2 ^ (min sv1.2.toNat IntKind.u64.bits))))]:List Int)))),(6,{ h:=.obj,cast:=some (AV.ref 1 ((sv1.1++([(IntKind.u8.wrap (a0.fdiv (2 ^ (min sv1.2.toNat IntKind.u64.bits))))]:List Int)).length) 0 ((sv1.1++([(IntKind.u8.wrap (a0.fdiv (2 ^ (min sv1.2.toNat IntKind.u64.bits))))]:List Int)).length)),obs:=[(1,(eS 1 (DV.i .u8) (sv1.1++([(IntKind.u8.wrap (a0.fdiv (2 ^ (min sv1.2.toNat IntKind.u64.bits))))]:List Int))))] })] [.ev 0,.pf (zd (DV.i .u8) ([(IntKind.u8.wrap (a0.fdiv (2 ^ (min sv1.2.toNat IntKind.u64.bits))))]:List Int)),.pf (Eq.refl sv1.1.length),.pf (Eq.refl sv1.1.length),.pf (p:=∀ k,k<1→(AV.d ((DV.i .u8) (([(IntKind.u8.wrap (a0.fdiv (2 ^ (min sv1.2.toNat IntKind.u64.bits))))]:List Int).getD k default))).wd=1) (fun _ _=>rfl),.ev 1,.pf (zy (o:=1) (l:=sv1.1) (x:=([(IntKind.u8.wrap (a0.fdiv (2 ^ (min sv1.2.toNat IntKind.u64.bits))))]:List Int))),.pf (zx (sz:=1) (e:=(DV.i .u8)) (l:=sv1.1) (x:=([(IntKind.u8.wrap (a0.fdiv (2 ^ (min sv1.2.toNat IntKind.u64.bits))))]:List Int)))] <|
.ret [] (.cont ((sv1.1++([(IntKind.u8.wrap (a0.fdiv (2 ^ (min sv1.2.toNat IntKind.u64.bits))))]:List Int)),(IntKind.i64.wrap (sv1.2-8))))) (
.ret [] (.brk (sv1.1,sv1.2)))
def S_qc (a0:Int) (a1:TWa):Scr Tryz.prog R_qc R_qc :=
.reg 2 [] [] [] <|
.bor 1 (fun j=>AV.d ((DV.i .u8) (([]:List Int).getD j default))) [5] <|
.iter [0,3] (fun (sv1:(List Int)×Int)=>[(5,(AV.ref 1 sv1.1.length 0 sv1.1.length)),(6,(vi sv1.2))]) (fun (sv1:(List Int)×Int)=>[(1,(eS 1 (DV.i .u8) sv1.1))]) (([]:List Int),56) (S_qc_b1 a0) (fun (sv1:(List Int)×Int) =>
.guard [sv1.1.length<2 ^ 63] <|
.frz 1 (.ev 0) none [5] [] <|
.call (@F_qn_ok a1) fun rv2 cv2 =>
.call (@F_qo_ok (((List.range sv1.1.length).map fun j=>UInt8.ofNat ((sv1.1.getD j default)).toNat)++rv2)) fun rv3 cv3 =>
.guard [((List.range sv1.1.length).map fun j=>UInt8.ofNat ((sv1.1.getD j default)).toNat).length+rv2.length<2 ^ 63] <|
.reg 6 [] [(3,hc cv2 [] true),(5,hc cv3 [] true)] [.pf (p:=∀ j,j<sv1.1.length→∃ k,(DV.i .u8 (sv1.1.getD j default))=DV.i .u8 k) (fun _ _=>⟨_,rfl⟩),.cl 2 cv2 [] 2 true,.ev 0,.cl 1 cv3 [] 2 true] <|
.ret [] rv3) id
def F_qc (a0:Int) (a1:TWa):Option R_qc:=(S_qc a0 a1).den
theorem F_qc_ok {a0:Int} {a1:TWa} (r:R_qc) (h:F_qc a0 a1=some r):CallOk Tryz.prog 48 [(AV.d (DV.i .u64 a0)),(AV.d (TWa.e a1))] [] (V_qc r) (L_qc r):=fOk (s:=S_qc a0 a1) Tryz.func48 rfl (by kernel_rfl) h
abbrev R_q18:=TWa×Int
def V_q18 (x:R_q18):AV:=(AV.tup [(AV.d (TWa.e x.1)),(vi x.2)])
def L_q18 (_:R_q18):List Ob:=[]
def S_q18 (a0:(List Int)) (a1:TWa) (a2:Bool):Scr Tryz.prog R_q18 R_q18 :=
.call (@F_q7_ok a1) fun rv1 cv1 =>
.reg 1 [] [(1,hc cv1 [] true)] [.cl 0 cv1 [] 2 true] <|
.ite (!rv1) (
.ret [] ((⟨0,0,[],0,0,0,0,0,0,0,0,0,0,0⟩:TWa),1)) (
.cut none [0,2,4,6] (fun (sv2:Int)=>[(8,(vi sv2))]) (fun (_:Int)=>[]) (
.ite a2 (
.ret [] (.next (IntKind.i64.wrap ((IntKind.i64.wrap (2 * (IntKind.i64.wrap (a1.Office-1))))+1)))) (
.ret [] (.next (IntKind.i64.wrap (2 * (IntKind.i64.wrap (a1.Office-1))))))) fun (sv2:Int) =>
.ite (decide (sv2≥(a0.length:Int))) (
.ret [] ((⟨0,0,[],0,0,0,0,0,0,0,0,0,0,0⟩:TWa),6)) (
.ite (!a2) (
.call (@F_qc_ok (a0.getD ((sv2).toNat) default) a1) fun rv3 cv3 =>
.guard [(0:Int)≤sv2,(sv2).toNat<a0.length] <|
.reg 9 [7] [(5,hc cv3 [] true)] [.ev 0,.ev 1,.cl 2 cv3 [] 2 true] <|
.ret [] ((⟨a1.Number,a1.Office,a1.Code,a1.Year,a1.Verification,a1.Attempt,a1.Commitment,a1.Reservation,a1.Amount,a1.Payee,a1.Day,a1.Due,rv3,a1.Second⟩:TWa),0)) (
.call (@F_qc_ok (a0.getD (((IntKind.i64.wrap (sv2-1))).toNat) default) a1) fun rv4 cv4 =>
.guard [(0:Int)≤(IntKind.i64.wrap (sv2-1)),((IntKind.i64.wrap (sv2-1))).toNat<a0.length] <|
.reg 11 [] [(6,hc cv4 [] true)] [.ev 0,.ev 1,.cl 2 cv4 [] 2 true] <|
.ite (rv4 != a1.First) (
.ret [] ((⟨0,0,[],0,0,0,0,0,0,0,0,0,0,0⟩:TWa),18)) (
.call (@F_qc_ok (a0.getD ((sv2).toNat) default) a1) fun rv5 cv5 =>
.guard [(0:Int)≤sv2,(sv2).toNat<a0.length] <|
.reg 13 [7] [(5,hc cv5 [] true)] [.ev 0,.ev 1,.cl 2 cv5 [] 2 true] <|
.ret [] ((⟨a1.Number,a1.Office,a1.Code,a1.Year,a1.Verification,a1.Attempt,a1.Commitment,a1.Reservation,a1.Amount,a1.Payee,a1.Day,a1.Due,a1.First,rv5⟩:TWa),0)))))
def F_q18 (a0:(List Int)) (a1:TWa) (a2:Bool):Option R_q18:=(S_q18 a0 a1 a2).den
theorem F_q18_ok {a0:(List Int)} {a1:TWa} {a2:Bool} (r:R_q18) (h:F_q18 a0 a1 a2=some r):CallOk Tryz.prog 15 [(AV.d (eL (DV.i .u64) a0)),(AV.d (TWa.e a1)),(vb a2)] [] (V_q18 r) (L_q18 r):=fOk (s:=S_q18 a0 a1 a2) Tryz.func15 rfl (by kernel_rfl) h
abbrev R_qf:=TWa×Bool
def V_qf (x:R_qf):AV:=(AV.tup [(AV.d (TWa.e x.1)),(vb x.2)])
def L_qf (_:R_qf):List Ob:=[]
def S_qf (a0:TCa) (a1:Int) (a2:Int):Scr Tryz.prog R_qf R_qf :=
.call (@F_q1t_ok a0.Office a1 a2) fun rv1 cv1 =>
.reg 1 [] [(4,hc cv1 [] true)] [.cl 0 cv1 [] 2 true] <|
.call (@F_q18_ok a0.Keys rv1.1 false) fun rv2 cv2 =>
.reg 2 [] [(3,hc cv2 [] true)] [.cl 0 cv2 [] 3 true] <|
.call (@F_q18_ok a0.Keys rv2.1 true) fun rv3 cv3 =>
.reg 3 [] [(3,hc cv3 [] true)] [.cl 0 cv3 [] 3 true] <|
.ret [] (rv3.1,(bif (bif (rv1.2==0) then (rv2.2==0) else false) then (rv3.2==0) else false))
def F_qf (a0:TCa) (a1:Int) (a2:Int):Option R_qf:=(S_qf a0 a1 a2).den
theorem F_qf_ok {a0:TCa} {a1:Int} {a2:Int} (r:R_qf) (h:F_qf a0 a1 a2=some r):CallOk Tryz.prog 10 [(AV.d (TCa.e a0)),(vi a1),(vi a2)] [] (V_qf r) (L_qf r):=fOk (s:=S_qf a0 a1 a2) Tryz.func10 rfl (by kernel_rfl) h
abbrev R_qd:=TOr×Int
def V_qd (x:R_qd):AV:=(AV.tup [(AV.d (TOr.e x.1)),(vi x.2)])
def L_qd (_:R_qd):List Ob:=[]
def S_qd_b1 (a0:TWa) (a1:TOf) (iv1:Nat) (_:Unit):Scr Tryz.prog R_qd (Step (Unit) R_qd) :=
.reg 7 [] [] [.pf (nn iv1),.ev 0] <|
.ite (bif (bif (((a1.Book.Orders.getD iv1 default).Verification) != a0.Verification) then true else (((a1.Book.Orders.getD iv1 default).Attempt) != a0.Attempt)) then true else (a1.Book.Orders.getD iv1 default).Back) (
.ret [] (.cont ())) (
.guard [(0:Int)≤(IntKind.i64.wrap (((a1.Book.Orders.getD iv1 default).Verification)-1)),((IntKind.i64.wrap (((a1.Book.Orders.getD iv1 default).Verification)-1))).toNat<a1.Book.Verifications.length] <|
.reg 9 [] [] [.ev 0,.ev 1] <|
.guard [AllP [(((a1.Book.Verifications.getD (((IntKind.i64.wrap (((a1.Book.Orders.getD iv1 default).Verification)-1))).toNat) default).Commitment) != a0.Commitment)=false]→((0:Int)≤(IntKind.i64.wrap (((a1.Book.Verifications.getD (((IntKind.i64.wrap (((a1.Book.Orders.getD iv1 default).Verification)-1))).toNat) default).Commitment)-1))),AllP [(((a1.Book.Verifications.getD (((IntKind.i64.wrap (((a1.Book.Orders.getD iv1 default).Verification)-1))).toNat) default).Commitment) != a0.Commitment)=false]→(((IntKind.i64.wrap (((a1.Book.Verifications.getD (((IntKind.i64.wrap (((a1.Book.Orders.getD iv1 default).Verification)-1))).toNat) default).Commitment)-1))).toNat<a1.Book.Commitments.length)] <|
.reg 10 [] [] [.ev 0,.ev 1] <|
.ite (bif (((a1.Book.Verifications.getD (((IntKind.i64.wrap (((a1.Book.Orders.getD iv1 default).Verification)-1))).toNat) default).Commitment) != a0.Commitment) then true else (((a1.Book.Commitments.getD (((IntKind.i64.wrap (((a1.Book.Verifications.getD (((IntKind.i64.wrap (((a1.Book.Orders.getD iv1 default).Verification)-1))).toNat) default).Commitment)-1))).toNat) default).Reservation) != a0.Reservation)) (
.ret [] (.ret ((⟨0,0,0,0,false⟩:TOr),17))) (
.ret [] (.ret ((a1.Book.Orders.getD iv1 default),0))))
def S_qd (a0:TWa) (a1:TOf):Scr Tryz.prog R_qd R_qd :=
.call (@F_q9_ok a1) fun rv2 cv2 =>
.reg 1 [] [(1,hc cv2 [] true)] [.cl 0 cv2 [] 3 true] <|
.ite (!rv2) (
.ret [] ((⟨0,0,0,0,false⟩:TOr),1)) (
.ite (a1.Number != a0.Office) (
.ret [] ((⟨0,0,0,0,false⟩:TOr),17)) (
.range (a1.Book.Orders.length:Int) a1.Book.Orders.length rfl (.slot 21) 23 [2,3,4,21,22] (fun (_:Unit)=>[]) (fun (_:Unit)=>[]) () (S_qd_b1 a0 a1) (fun (_:Unit) => 
.ret [] ((⟨0,0,0,0,false⟩:TOr),17)) id))
def F_qd (a0:TWa) (a1:TOf):Option R_qd:=(S_qd a0 a1).den
theorem F_qd_ok {a0:TWa} {a1:TOf} (r:R_qd) (h:F_qd a0 a1=some r):CallOk Tryz.prog 40 [(AV.d (TWa.e a0)),(AV.d (TOf.e a1))] [] (V_qd r) (L_qd r):=fOk (s:=S_qd a0 a1) Tryz.func40 rfl (by kernel_rfl) h
abbrev R_q4k:=Bool
def V_q4k (x:R_q4k):AV:=(vb x)
def L_q4k (_:R_q4k):List Ob:=[]
def S_q4k (a0:Int):Scr Tryz.prog R_q4k R_q4k :=
.call (@F_q1r_ok a0) fun rv1 cv1 =>
.reg 1 [] [(1,hc cv1 [] true)] [.cl 0 cv1 [] 0 true,.pf (p:=AllP [rv1=true]→((7:Int)≠0)) (fun _=>(by decide))] <|
.ret [] (bif rv1 then (decide ((a0.tmod 7)<5)) else false)
def F_q4k (a0:Int):Option R_q4k:=(S_q4k a0).den
theorem F_q4k_ok {a0:Int} (r:R_q4k) (h:F_q4k a0=some r):CallOk Tryz.prog 65 [(vi a0)] [] (V_q4k r) (L_q4k r):=fOk (s:=S_q4k a0) Tryz.func65 rfl (by kernel_rfl) h
abbrev R_q1i:=Int×Int
def V_q1i (x:R_q1i):AV:=(AV.tup [(vi x.1),(vi x.2)])
def L_q1i (_:R_q1i):List Ob:=[]
def S_q1i_b1 (a0:Int) (sv1:Int):Scr Tryz.prog R_q1i (Step (Int) R_q1i) :=
.call (@F_q1r_ok a0) fun rv2 cv2 =>
.reg 2 [] [(1,hc cv2 [] true)] [.cl 0 cv2 [] 0 true] <|
.ite (bif rv2 then (decide (sv1≤(IntKind.i64.wrap (a0+2)))) else false) (
.call (@F_q4k_ok sv1) fun rv3 cv3 =>
.reg 4 [] [(1,hc cv3 [] true)] [.cl 0 cv3 [] 0 true] <|
.ite rv3 (
.ret [] (.ret (sv1,0))) (
.ret [] (.cont (IntKind.i64.wrap (sv1+1))))) (
.ret [] (.brk sv1))
def S_q1i (a0:Int):Scr Tryz.prog R_q1i R_q1i :=
.iter [0] (fun (sv1:Int)=>[(4,(vi sv1))]) (fun (_:Int)=>[]) a0 (S_q1i_b1 a0) (fun (_:Int) =>
.ret [] (0,2)) id
def F_q1i (a0:Int):Option R_q1i:=(S_q1i a0).den
theorem F_q1i_ok {a0:Int} (r:R_q1i) (h:F_q1i a0=some r):CallOk Tryz.prog 18 [(vi a0)] [] (V_q1i r) (L_q1i r):=fOk (s:=S_q1i a0) Tryz.func18 rfl (by kernel_rfl) h
abbrev R_q39:=Int
def V_q39 (x:R_q39):AV:=(vi x)
def L_q39 (_:R_q39):List Ob:=[]
def S_q39 (a0:(List Int)) (a1:TWa):Scr Tryz.prog R_q39 R_q39 :=
.call (@F_q7_ok a1) fun rv1 cv1 =>
.reg 1 [] [(1,hc cv1 [] true)] [.cl 0 cv1 [] 1 true] <|
.ite (!rv1) (
.ret [] 1) (
.ite (decide ((IntKind.i64.wrap ((IntKind.i64.wrap (2 * (IntKind.i64.wrap (a1.Office-1))))+1))≥(a0.length:Int))) (
.ret [] 6) (
.call (@F_qc_ok (a0.getD (((IntKind.i64.wrap (2 * (IntKind.i64.wrap (a1.Office-1))))).toNat) default) a1) fun rv2 cv2 =>
.calld [(rv2 != a1.First)=false] default (@F_qc_ok (a0.getD (((IntKind.i64.wrap ((IntKind.i64.wrap (2 * (IntKind.i64.wrap (a1.Office-1))))+1))).toNat) default) a1) fun rv3 cv3 =>
.guard [(0:Int)≤(IntKind.i64.wrap (2 * (IntKind.i64.wrap (a1.Office-1)))),((IntKind.i64.wrap (2 * (IntKind.i64.wrap (a1.Office-1))))).toNat<a0.length,AllP [(rv2 != a1.First)=false]→((0:Int)≤(IntKind.i64.wrap ((IntKind.i64.wrap (2 * (IntKind.i64.wrap (a1.Office-1))))+1))),AllP [(rv2 != a1.First)=false]→(((IntKind.i64.wrap ((IntKind.i64.wrap (2 * (IntKind.i64.wrap (a1.Office-1))))+1))).toNat<a0.length)] <|
.reg 6 [] [(5,hc cv2 [] true),(16,hc cv3 [] true)] [.ev 0,.ev 1,.cl 6 cv2 [] 1 true,.ev 2,.ev 3,.clg 4 [(rv2 != a1.First)=false] cv3 [] 1 true] <|
.ite (bif (rv2 != a1.First) then true else (rv3 != a1.Second)) (
.ret [] 18) (
.ret [] 0)))
def F_q39 (a0:(List Int)) (a1:TWa):Option R_q39:=(S_q39 a0 a1).den
theorem F_q39_ok {a0:(List Int)} {a1:TWa} (r:R_q39) (h:F_q39 a0 a1=some r):CallOk Tryz.prog 43 [(AV.d (eL (DV.i .u64) a0)),(AV.d (TWa.e a1))] [] (V_q39 r) (L_q39 r):=fOk (s:=S_q39 a0 a1) Tryz.func43 rfl (by kernel_rfl) h
abbrev R_q27:=Int
def V_q27 (x:R_q27):AV:=(vi x)
def L_q27 (_:R_q27):List Ob:=[]
def S_q27 (a0:TWa) (a1:TOf):Scr Tryz.prog R_q27 R_q27 :=
.call (@F_qd_ok a0 a1) fun rv1 cv1 =>
.reg 1 [] [(2,hc cv1 [] true)] [.cl 0 cv1 [] 2 true] <|
.ite (rv1.2 != 0) (
.ret [] 17) (
.guard [(0:Int)≤(IntKind.i64.wrap (rv1.1.Verification-1)),((IntKind.i64.wrap (rv1.1.Verification-1))).toNat<a1.Book.Verifications.length] <|
.reg 4 [] [] [.ev 0,.ev 1] <|
.guard [(0:Int)≤(IntKind.i64.wrap (((a1.Book.Verifications.getD (((IntKind.i64.wrap (rv1.1.Verification-1))).toNat) default).Commitment)-1)),((IntKind.i64.wrap (((a1.Book.Verifications.getD (((IntKind.i64.wrap (rv1.1.Verification-1))).toNat) default).Commitment)-1))).toNat<a1.Book.Commitments.length] <|
.reg 5 [] [] [.ev 0,.ev 1] <|
.guard [(0:Int)≤(IntKind.i64.wrap (((a1.Book.Commitments.getD (((IntKind.i64.wrap (((a1.Book.Verifications.getD (((IntKind.i64.wrap (rv1.1.Verification-1))).toNat) default).Commitment)-1))).toNat) default).Reservation)-1)),((IntKind.i64.wrap (((a1.Book.Commitments.getD (((IntKind.i64.wrap (((a1.Book.Verifications.getD (((IntKind.i64.wrap (rv1.1.Verification-1))).toNat) default).Commitment)-1))).toNat) default).Reservation)-1))).toNat<a1.Book.Reservations.length] <|
.reg 6 [] [] [.ev 0,.ev 1] <|
.ite (bif (bif (bif (bif (bif (a0.Amount != ((a1.Book.Verifications.getD (((IntKind.i64.wrap (rv1.1.Verification-1))).toNat) default).Amount)) then true else (a0.Payee != ((a1.Book.Commitments.getD (((IntKind.i64.wrap (((a1.Book.Verifications.getD (((IntKind.i64.wrap (rv1.1.Verification-1))).toNat) default).Commitment)-1))).toNat) default).Payee))) then true else (a0.Due != ((a1.Book.Commitments.getD (((IntKind.i64.wrap (((a1.Book.Verifications.getD (((IntKind.i64.wrap (rv1.1.Verification-1))).toNat) default).Commitment)-1))).toNat) default).Due))) then true else (!(a0.Code==((a1.Book.Reservations.getD (((IntKind.i64.wrap (((a1.Book.Commitments.getD (((IntKind.i64.wrap (((a1.Book.Verifications.getD (((IntKind.i64.wrap (rv1.1.Verification-1))).toNat) default).Commitment)-1))).toNat) default).Reservation)-1))).toNat) default).Code)))) then true else (a0.Year != ((a1.Book.Reservations.getD (((IntKind.i64.wrap (((a1.Book.Commitments.getD (((IntKind.i64.wrap (((a1.Book.Verifications.getD (((IntKind.i64.wrap (rv1.1.Verification-1))).toNat) default).Commitment)-1))).toNat) default).Reservation)-1))).toNat) default).Year))) then true else (a0.Day != rv1.1.Day)) (
.ret [] 15) (
.ret [] 0))
def F_q27 (a0:TWa) (a1:TOf):Option R_q27:=(S_q27 a0 a1).den
theorem F_q27_ok {a0:TWa} {a1:TOf} (r:R_q27) (h:F_q27 a0 a1=some r):CallOk Tryz.prog 44 [(AV.d (TWa.e a0)),(AV.d (TOf.e a1))] [] (V_q27 r) (L_q27 r):=fOk (s:=S_q27 a0 a1) Tryz.func44 rfl (by kernel_rfl) h
abbrev R_qp:=Int
def V_qp (x:R_qp):AV:=(vi x)
def L_qp (_:R_qp):List Ob:=[]
def S_qp_b1 (a0:TWa) (a1:(List TWa)) (iv1:Nat) (_:Unit):Scr Tryz.prog R_qp (Step (Unit) R_qp) :=
.reg 3 [] [] [.pf (nn iv1),.ev 0] <|
.ite (((a1.getD iv1 default).Number)==a0.Number) (
.ret [] (.ret 7)) (
.ret [] (.cont ()))
def S_qp_b2 (a0:TWa) (a1:(List TWa)) (iv2:Nat) (_:Unit):Scr Tryz.prog R_qp (Step (Unit) R_qp) :=
.reg 9 [] [] [.pf (nn iv2),.ev 0] <|
.ite (bif (((a1.getD iv2 default).Office)==a0.Office) then (((a1.getD iv2 default).Verification)==a0.Verification) else false) (
.ret [] (.ret 20)) (
.ret [] (.cont ()))
def S_qp (a0:TWa) (a1:(List TWa)):Scr Tryz.prog R_qp R_qp :=
.range (a1.length:Int) a1.length rfl (.slot 1) 11 [1,2,9,10] (fun (_:Unit)=>[]) (fun (_:Unit)=>[]) () (S_qp_b1 a0 a1) (fun (_:Unit) => 
.range (a1.length:Int) a1.length rfl (.slot 21) 23 [2,21,22] (fun (_:Unit)=>[]) (fun (_:Unit)=>[]) () (S_qp_b2 a0 a1) (fun (_:Unit) => 
.ret [] 0) id) id
def F_qp (a0:TWa) (a1:(List TWa)):Option R_qp:=(S_qp a0 a1).den
theorem F_qp_ok {a0:TWa} {a1:(List TWa)} (r:R_qp) (h:F_qp a0 a1=some r):CallOk Tryz.prog 45 [(AV.d (TWa.e a0)),(AV.d (eL TWa.e a1))] [] (V_qp r) (L_qp r):=fOk (s:=S_qp a0 a1) Tryz.func45 rfl (by kernel_rfl) h
abbrev R_q3a:=Int
def V_q3a (x:R_q3a):AV:=(vi x)
def L_q3a (_:R_q3a):List Ob:=[]
def S_q3a (a0:TWa) (a1:TOf) (a2:TPo):Scr Tryz.prog R_q3a R_q3a :=
.ite (bif (bif (bif (!(a2.Code==a0.Code)) then true else (a2.Year != a0.Year)) then true else (decide (a0.Office>(a2.Granted.length:Int)))) then true else (decide (a0.Office>(a2.Heard.length:Int)))) (
.ret [] 6) (
.call (@F_qe_ok a1.Book a0.Code a0.Year) fun rv1 cv1 =>
.guard [(0:Int)≤(IntKind.i64.wrap (a0.Office-1)),((IntKind.i64.wrap (a0.Office-1))).toNat<a2.Granted.length,((IntKind.i64.wrap (a0.Office-1))).toNat<a2.Heard.length] <|
.reg 3 [] [(6,hc cv1 [] true)] [.cl 3 cv1 [] 3 true,.ev 0,.ev 1,.ev 0,.ev 2] <|
.ite (decide (rv1>(IntKind.i64.wrap ((a2.Granted.getD (((IntKind.i64.wrap (a0.Office-1))).toNat) default)-(a2.Heard.getD (((IntKind.i64.wrap (a0.Office-1))).toNat) default))))) (
.ret [] 15) (
.ret [] 0))
def F_q3a (a0:TWa) (a1:TOf) (a2:TPo):Option R_q3a:=(S_q3a a0 a1 a2).den
theorem F_q3a_ok {a0:TWa} {a1:TOf} {a2:TPo} (r:R_q3a) (h:F_q3a a0 a1 a2=some r):CallOk Tryz.prog 46 [(AV.d (TWa.e a0)),(AV.d (TOf.e a1)),(AV.d (TPo.e a2))] [] (V_q3a r) (L_q3a r):=fOk (s:=S_q3a a0 a1 a2) Tryz.func46 rfl (by kernel_rfl) h
end
end Go.Proofs.YtclaojamgomjbaaGreatDoor
/- What the functions compute,and that their calls return it. No condition. -/
namespace Go.Proofs.YtclaojamgomjbaaGreatDoor
open Go Go.TA
noncomputable section
set_option maxRecDepth 100000
abbrev R_q8:=(List TCh)
def V_q8 (x:R_q8):AV:=(AV.d (eL TCh.e x))
def L_q8 (_:R_q8):List Ob:=[]
def S_q8_b1 (sv1:(List TCh)×Int):Scr Tryz.prog R_q8 (Step ((List TCh)×Int) R_q8) :=
.ite (decide (sv1.2≤8)) (
.guard [(sv1.1.length+1) * (2 * 16)≤2 ^ 48] <|
.reg 6 [] [(3,hv (AV.d (eL TCh.e ([(⟨sv1.2,1⟩:TCh)]:List TCh)))),(4,{ h:=.obj,cast:=some (AV.ref 3 ((sv1.1++([(⟨sv1.2,1⟩:TCh)]:List TCh)).length) 0 ((sv1.1++([(⟨sv1.2,1⟩:TCh)]:List TCh)).length)),obs:=[(3,(eS 2 TCh.e (sv1.1++([(⟨sv1.2,1⟩:TCh)]:List TCh))))] })] [.pf (zd TCh.e ([(⟨sv1.2,1⟩:TCh)]:List TCh)),.pf (Eq.refl sv1.1.length),.pf (Eq.refl sv1.1.length),.pf (p:=∀ k,k<1→(AV.d (TCh.e (([(⟨sv1.2,1⟩:TCh)]:List TCh).getD k default))).wd=2) (fun _ _=>rfl),.ev 0,.pf (zy (o:=3) (l:=sv1.1) (x:=([(⟨sv1.2,1⟩:TCh)]:List TCh))),.pf (zx (sz:=2) (e:=TCh.e) (l:=sv1.1) (x:=([(⟨sv1.2,1⟩:TCh)]:List TCh)))] <|
.ret [] (.cont ((sv1.1++([(⟨sv1.2,1⟩:TCh)]:List TCh)),(IntKind.i64.wrap (sv1.2+1))))) (
.ret [] (.brk (sv1.1,sv1.2)))
def S_q8_b2 (rv2:R_qd) (sv3:Int) (sv4:Int) (rv5:R_q39) (rv6:R_q27) (rv7:R_qp) (rv8:R_q3a) (iv9:Nat) (sv10:(List TCh)):Scr Tryz.prog R_q8 (Step ((List TCh)) R_q8) :=
.reg 17 [] [] [.pf (nn iv9),.ev 0] <|
.guard [(sv10.length+1) * (2 * 16)≤2 ^ 48] <|
.reg 18 [] [(5,hv (AV.d (eL TCh.e ([(⟨(IntKind.i64.wrap ((iv9:Int)+1)),(([0,rv5,rv2.2,rv6,rv7,sv3,sv4,rv8]:List Int).getD iv9 default)⟩:TCh)]:List TCh)))),(6,{ h:=.obj,cast:=some (AV.ref 4 ((sv10++([(⟨(IntKind.i64.wrap ((iv9:Int)+1)),(([0,rv5,rv2.2,rv6,rv7,sv3,sv4,rv8]:List Int).getD iv9 default)⟩:TCh)]:List TCh)).length) 0 ((sv10++([(⟨(IntKind.i64.wrap ((iv9:Int)+1)),(([0,rv5,rv2.2,rv6,rv7,sv3,sv4,rv8]:List Int).getD iv9 default)⟩:TCh)]:List TCh)).length)),obs:=[(4,(eS 2 TCh.e (sv10++([(⟨(IntKind.i64.wrap ((iv9:Int)+1)),(([0,rv5,rv2.2,rv6,rv7,sv3,sv4,rv8]:List Int).getD iv9 default)⟩:TCh)]:List TCh))))] })] [.pf (zd TCh.e ([(⟨(IntKind.i64.wrap ((iv9:Int)+1)),(([0,rv5,rv2.2,rv6,rv7,sv3,sv4,rv8]:List Int).getD iv9 default)⟩:TCh)]:List TCh)),.pf (Eq.refl sv10.length),.pf (Eq.refl sv10.length),.pf (p:=∀ k,k<1→(AV.d (TCh.e (([(⟨(IntKind.i64.wrap ((iv9:Int)+1)),(([0,rv5,rv2.2,rv6,rv7,sv3,sv4,rv8]:List Int).getD iv9 default)⟩:TCh)]:List TCh).getD k default))).wd=2) (fun _ _=>rfl),.ev 0,.pf (zy (o:=4) (l:=sv10) (x:=([(⟨(IntKind.i64.wrap ((iv9:Int)+1)),(([0,rv5,rv2.2,rv6,rv7,sv3,sv4,rv8]:List Int).getD iv9 default)⟩:TCh)]:List TCh))),.pf (zx (sz:=2) (e:=TCh.e) (l:=sv10) (x:=([(⟨(IntKind.i64.wrap ((iv9:Int)+1)),(([0,rv5,rv2.2,rv6,rv7,sv3,sv4,rv8]:List Int).getD iv9 default)⟩:TCh)]:List TCh)))] <|
.ret [] (.cont (sv10++([(⟨(IntKind.i64.wrap ((iv9:Int)+1)),(([0,rv5,rv2.2,rv6,rv7,sv3,sv4,rv8]:List Int).getD iv9 default)⟩:TCh)]:List TCh)))
def S_q8 (a0:(List Int)) (a1:TWa) (a2:TOf) (a3:(List TWa)) (a4:TPo) (a5:Int):Scr Tryz.prog R_q8 R_q8 :=
.call (@F_q7_ok a1) fun rv11 cv11 =>
.reg 2 [] [(1,hc cv11 [] true)] [.cl 0 cv11 [] 3 true] <|
.ite (!rv11) (
.reg 3 [] [] [] <|
.bor 2 (fun j=>AV.d (TCh.e (([]:List TCh).getD j default))) [13] <|
.iter [] (fun (sv1:(List TCh)×Int)=>[(13,(AV.ref 3 sv1.1.length 0 sv1.1.length)),(14,(vi sv1.2))]) (fun (sv1:(List TCh)×Int)=>[(3,(eS 2 TCh.e sv1.1))]) (([]:List TCh),1) S_q8_b1 (fun (sv1:(List TCh)×Int) =>
.guard [sv1.1.length<2 ^ 63] <|
.reg 7 [] [] [] <|
.frz 3 (.ev 0) none [12] [] <|
.ret [] sv1.1) id) (
.call (@F_qd_ok a1 a2) fun rv2 cv2 =>
.reg 8 [] [(2,hc cv2 [] true)] [.cl 0 cv2 [] 3 true] <|
.call (@F_q1r_ok a5) fun rv12 cv12 =>
.calld [(bif (!rv12) then true else (decide (a5<a1.Day)))=false] default (@F_qt_ok a5) fun rv13 cv13 =>
.reg 10 [] [(1,hc cv12 [] true),(11,hc cv13 [] true)] [.cl 2 cv12 [] 4 true,.clg 0 [(bif (!rv12) then true else (decide (a5<a1.Day)))=false] cv13 [] 4 true] <|
.cut none [0,3,5,7,8,10,13,16,18] (fun (sv3:Int)=>[(17,(vi sv3))]) (fun (_:Int)=>[]) (
.ite (bif (bif (!rv12) then true else (decide (a5<a1.Day))) then true else (decide (rv13>(IntKind.i64.wrap (a1.Year+1))))) (
.ret [] (.next 16)) (
.ret [] (.next 0))) fun (sv3:Int) =>
.call (@F_q1i_ok a1.Due) fun rv14 cv14 =>
.reg 12 [] [(2,hc cv14 [] true)] [.cl 0 cv14 [] 4 true] <|
.cut none [0,3,7,8,10,13,16,17] (fun (sv4:Int)=>[(18,(vi sv4))]) (fun (_:Int)=>[]) (
.ite (bif (rv14.2 != 0) then true else (decide (a5<rv14.1))) (
.ret [] (.next 21)) (
.ret [] (.next 0))) fun (sv4:Int) =>
.call (@F_q39_ok a0 a1) fun rv5 cv5 =>
.call (@F_q27_ok a1 a2) fun rv6 cv6 =>
.call (@F_qp_ok a1 a3) fun rv7 cv7 =>
.call (@F_q3a_ok a1 a2 a4) fun rv8 cv8 =>
.reg 15 [] [(2,hc cv5 [] true),(6,hc cv6 [] true),(9,hc cv7 [] true),(15,hc cv8 [] true),(16,hv (vl ([0,rv5,rv2.2,rv6,rv7,sv3,sv4,rv8]:List Int)))] [.cl 3 cv5 [] 4 true,.cl 2 cv6 [] 4 true,.cl 1 cv7 [] 4 true,.cl 0 cv8 [] 4 true,.pf (zd (DV.i .i64) ([0,rv5,rv2.2,rv6,rv7,sv3,sv4,rv8]:List Int))] <|
.bor 2 (fun j=>AV.d (TCh.e (([]:List TCh).getD j default))) [13] <|
.range 8 8 rfl (.why (.pf (p:=8<2 ^ 63) (by decide))) 90 [88,89] (fun (sv10:(List TCh))=>[(13,(AV.ref 4 sv10.length 0 sv10.length))]) (fun (sv10:(List TCh))=>[(4,(eS 2 TCh.e sv10))]) ([]:List TCh) (S_q8_b2 rv2 sv3 sv4 rv5 rv6 rv7 rv8) (fun (sv10:(List TCh)) => 
.guard [sv10.length<2 ^ 63] <|
.reg 20 [] [] [] <|
.frz 4 (.ev 0) none [12] [] <|
.ret [] sv10) id)
def F_q8 (a0:(List Int)) (a1:TWa) (a2:TOf) (a3:(List TWa)) (a4:TPo) (a5:Int):Option R_q8:=(S_q8 a0 a1 a2 a3 a4 a5).den
theorem F_q8_ok {a0:(List Int)} {a1:TWa} {a2:TOf} {a3:(List TWa)} {a4:TPo} {a5:Int} (r:R_q8) (h:F_q8 a0 a1 a2 a3 a4 a5=some r):CallOk Tryz.prog 12 [(AV.d (eL (DV.i .u64) a0)),(AV.d (TWa.e a1)),(AV.d (TOf.e a2)),(AV.d (eL TWa.e a3)),(AV.d (TPo.e a4)),(vi a5)] [] (V_q8 r) (L_q8 r):=fOk (s:=S_q8 a0 a1 a2 a3 a4 a5) Tryz.func12 rfl (by kernel_rfl) h
abbrev R_q19:=Int
def V_q19 (x:R_q19):AV:=(vi x)
def L_q19 (_:R_q19):List Ob:=[]
def S_q19_b1 (a0:(List TCh)) (iv1:Nat) (_:Unit):Scr Tryz.prog R_q19 (Step (Unit) R_q19) :=
.reg 3 [] [] [.pf (nn iv1),.ev 0] <|
.ite (((a0.getD iv1 default).Errs) != 0) (
.ret [] (.ret ((a0.getD iv1 default).Errs))) (
.ret [] (.cont ()))
def S_q19 (a0:(List TCh)):Scr Tryz.prog R_q19 R_q19 :=
.range (a0.length:Int) a0.length rfl (.slot 5) 7 [5,6] (fun (_:Unit)=>[]) (fun (_:Unit)=>[]) () (S_q19_b1 a0) (fun (_:Unit) => 
.ret [] 0) id
def F_q19 (a0:(List TCh)):Option R_q19:=(S_q19 a0).den
theorem F_q19_ok {a0:(List TCh)} (r:R_q19) (h:F_q19 a0=some r):CallOk Tryz.prog 11 [(AV.d (eL TCh.e a0))] [] (V_q19 r) (L_q19 r):=fOk (s:=S_q19 a0) Tryz.func11 rfl (by kernel_rfl) h
theorem cz8:LeV (AV.d (DV.agg [(eL (DV.i .u64) ([3,4]:List Int)),(DV.agg [(DV.i .i64 1),(eL TRi.e ([(⟨[49],12,50,0,0⟩:TRi)]:List TRi)),(DV.agg [(eL TRe.e ([(⟨1,[49],12,4320,50,0⟩:TRe)]:List TRe)),(eL TCo.e ([(⟨1,1,4320,30,0,2,4400⟩:TCo)]:List TCo)),(eL TVe.e ([(⟨1,1,4330,30⟩:TVe)]:List TVe)),(eL TOr.e ([(⟨1,1,1,4340,false⟩:TOr)]:List TOr))])]),(DV.agg [(DV.str ([49])),(DV.i .i64 12),(DV.i .i64 50),(eL (DV.i .i64) ([50]:List Int)),(eL (DV.i .i64) ([0]:List Int)),(eL (DV.i .i64) ([0]:List Int)),(eL (DV.i .i64) ([0]:List Int))]),Z0,(DV.i .i64 4410)])) (AV.d (TCa.e (⟨([3,4]:List Int),(⟨1,([(⟨[49],12,50,0,0⟩:TRi)]:List TRi),(⟨([(⟨1,[49],12,4320,50,0⟩:TRe)]:List TRe),([(⟨1,1,4320,30,0,2,4400⟩:TCo)]:List TCo),([(⟨1,1,4330,30⟩:TVe)]:List TVe),([(⟨1,1,1,4340,false⟩:TOr)]:List TOr)⟩:TBo)⟩:TOf),(⟨[49],12,50,([50]:List Int),([0]:List Int),([0]:List Int),([0]:List Int)⟩:TPo),[],4410⟩:TCa))):=z3p rfl (DLe.agg (DLeL.cons (DLe.refl _) (DLeL.cons (DLe.agg (DLeL.cons (DLe.refl _) (DLeL.cons (DLe.refl _) (DLeL.cons (DLe.agg (DLeL.cons (DLe.refl _) (DLeL.cons (DLe.refl _) (DLeL.cons (DLe.refl _) (DLeL.cons (DLe.refl _) DLeL.nil))))) DLeL.nil)))) (DLeL.cons (DLe.agg (DLeL.cons (DLe.refl _) (DLeL.cons (DLe.refl _) (DLeL.cons (DLe.refl _) (DLeL.cons (DLe.refl _) (DLeL.cons (DLe.refl _) (DLeL.cons (DLe.refl _) (DLeL.cons (DLe.refl _) DLeL.nil)))))))) (DLeL.cons DLe.sl0 (DLeL.cons (DLe.refl _) DLeL.nil))))))
abbrev R_q4y:=TCa
def V_q4y (x:R_q4y):AV:=(AV.d (TCa.e x))
def L_q4y (_:R_q4y):List Ob:=[]
def S_q4y:Scr Tryz.prog R_q4y R_q4y :=
.reg 0 [] [(0,{ obs:=[(0,(bx (TCa.e (⟨[],(⟨0,[],(⟨[],[],[],[]⟩:TBo)⟩:TOf),(⟨[],0,0,[],[],[],[]⟩:TPo),[],0⟩:TCa))))] })] [.pf cz7] <|
.reg 1 [] [(1,hv (AV.d (eL TRi.e ([(⟨[49],12,50,0,0⟩:TRi)]:List TRi)))),(3,hv (AV.d (eL TRe.e ([(⟨1,[49],12,4320,50,0⟩:TRe)]:List TRe)))),(5,hv (AV.d (eL TCo.e ([(⟨1,1,4320,30,0,2,4400⟩:TCo)]:List TCo)))),(7,hv (AV.d (eL TVe.e ([(⟨1,1,4330,30⟩:TVe)]:List TVe)))),(9,hv (AV.d (eL TOr.e ([(⟨1,1,1,4340,false⟩:TOr)]:List TOr)))),(12,{ obs:=[(1,(bx (TOf.e (⟨0,[],(⟨[],[],[],[]⟩:TBo)⟩:TOf))))] })] [.pf (zd TRi.e ([(⟨[49],12,50,0,0⟩:TRi)]:List TRi)),.pf (zd TRe.e ([(⟨1,[49],12,4320,50,0⟩:TRe)]:List TRe)),.pf (zd TCo.e ([(⟨1,1,4320,30,0,2,4400⟩:TCo)]:List TCo)),.pf (zd TVe.e ([(⟨1,1,4330,30⟩:TVe)]:List TVe)),.pf (zd TOr.e ([(⟨1,1,1,4340,false⟩:TOr)]:List TOr)),.pf cz1] <|
.reg 2 [] [(0,hv (AV.d (eL (DV.i .u64) ([3,4]:List Int)))),(2,hv (vl ([50]:List Int))),(3,hv (vl ([0]:List Int))),(4,hv (vl ([0]:List Int))),(5,hv (vl ([0]:List Int))),(7,hv (AV.d (TCa.e (⟨([3,4]:List Int),(⟨1,([(⟨[49],12,50,0,0⟩:TRi)]:List TRi),(⟨([(⟨1,[49],12,4320,50,0⟩:TRe)]:List TRe),([(⟨1,1,4320,30,0,2,4400⟩:TCo)]:List TCo),([(⟨1,1,4330,30⟩:TVe)]:List TVe),([(⟨1,1,1,4340,false⟩:TOr)]:List TOr)⟩:TBo)⟩:TOf),(⟨[49],12,50,([50]:List Int),([0]:List Int),([0]:List Int),([0]:List Int)⟩:TPo),[],4410⟩:TCa))))] [.pf (zd (DV.i .u64) ([3,4]:List Int)),.pf (zd (DV.i .i64) ([50]:List Int)),.pf (zd (DV.i .i64) ([0]:List Int)),.pf (zd (DV.i .i64) ([0]:List Int)),.pf (zd (DV.i .i64) ([0]:List Int)),.pf cz8] <|
.ret [] (⟨([3,4]:List Int),(⟨1,([(⟨[49],12,50,0,0⟩:TRi)]:List TRi),(⟨([(⟨1,[49],12,4320,50,0⟩:TRe)]:List TRe),([(⟨1,1,4320,30,0,2,4400⟩:TCo)]:List TCo),([(⟨1,1,4330,30⟩:TVe)]:List TVe),([(⟨1,1,1,4340,false⟩:TOr)]:List TOr)⟩:TBo)⟩:TOf),(⟨[49],12,50,([50]:List Int),([0]:List Int),([0]:List Int),([0]:List Int)⟩:TPo),[],4410⟩:TCa)
def F_q4y:Option R_q4y:=(S_q4y).den
theorem F_q4y_ok (r:R_q4y) (h:F_q4y=some r):CallOk Tryz.prog 47 [] [] (V_q4y r) (L_q4y r):=fOk (s:=S_q4y) Tryz.func47 rfl (by kernel_rfl) h
abbrev R_q28:=Bool
def V_q28 (x:R_q28):AV:=(vb x)
def L_q28 (_:R_q28):List Ob:=[]
def S_q28 (a0:Int) (a1:Int) (a2:Int):Scr Tryz.prog R_q28 R_q28 :=
.ret [] (bif (decide (a0≥a1)) then (decide (a0≤a2)) else false)
def F_q28 (a0:Int) (a1:Int) (a2:Int):Option R_q28:=(S_q28 a0 a1 a2).den
theorem F_q28_ok {a0:Int} {a1:Int} {a2:Int} (r:R_q28) (h:F_q28 a0 a1 a2=some r):CallOk Tryz.prog 105 [(vi a0),(vi a1),(vi a2)] [] (V_q28 r) (L_q28 r):=fOk (s:=S_q28 a0 a1 a2) Tryz.func105 rfl (by kernel_rfl) h
abbrev R_q3u:=Bool
def V_q3u (x:R_q3u):AV:=(vb x)
def L_q3u (_:R_q3u):List Ob:=[]
def S_q3u (a0:Int):Scr Tryz.prog R_q3u R_q3u :=
.call (@F_q28_ok a0 1 1000000) fun rv1 cv1 =>
.reg 1 [] [(1,hc cv1 [] true)] [.cl 0 cv1 [] 0 true] <|
.ret [] rv1
def F_q3u (a0:Int):Option R_q3u:=(S_q3u a0).den
theorem F_q3u_ok {a0:Int} (r:R_q3u) (h:F_q3u a0=some r):CallOk Tryz.prog 104 [(vi a0)] [] (V_q3u r) (L_q3u r):=fOk (s:=S_q3u a0) Tryz.func104 rfl (by kernel_rfl) h
abbrev R_q3b:=Bool
def V_q3b (x:R_q3b):AV:=(vb x)
def L_q3b (_:R_q3b):List Ob:=[]
def S_q3b (a0:Int):Scr Tryz.prog R_q3b R_q3b :=
.call (@F_q28_ok a0 0 35990) fun rv1 cv1 =>
.reg 1 [] [(1,hc cv1 [] true)] [.cl 0 cv1 [] 0 true] <|
.ret [] rv1
def F_q3b (a0:Int):Option R_q3b:=(S_q3b a0).den
theorem F_q3b_ok {a0:Int} (r:R_q3b) (h:F_q3b a0=some r):CallOk Tryz.prog 107 [(vi a0)] [] (V_q3b r) (L_q3b r):=fOk (s:=S_q3b a0) Tryz.func107 rfl (by kernel_rfl) h
abbrev R_q5:=Bool
def V_q5 (x:R_q5):AV:=(vb x)
def L_q5 (_:R_q5):List Ob:=[]
def S_q5_b1 (a0:TWa) (iv1:Nat) (_:Unit):Scr Tryz.prog R_q5 (Step (Unit) R_q5) :=
.reg 3 [] [] [.pf (nn iv1),.ev 0] <|
.call (@F_q3u_ok (([a0.Number,a0.Reservation,a0.Commitment,a0.Verification,a0.Attempt,a0.Payee]:List Int).getD iv1 default)) fun rv2 cv2 =>
.reg 4 [] [(1,hc cv2 [] true)] [.cl 0 cv2 [] 1 true] <|
.ite (!rv2) (
.ret [] (.ret false)) (
.ret [] (.cont ()))
def S_q5 (a0:TWa):Scr Tryz.prog R_q5 R_q5 :=
.reg 1 [] [(12,hv (vl ([a0.Number,a0.Reservation,a0.Commitment,a0.Verification,a0.Attempt,a0.Payee]:List Int)))] [.pf (zd (DV.i .i64) ([a0.Number,a0.Reservation,a0.Commitment,a0.Verification,a0.Attempt,a0.Payee]:List Int))] <|
.range 6 6 rfl (.why (.pf (p:=6<2 ^ 63) (by decide))) 19 [1,17,18] (fun (_:Unit)=>[]) (fun (_:Unit)=>[]) () (S_q5_b1 a0) (fun (_:Unit) => 
.call (@F_q28_ok a0.Office 1 6) fun rv3 cv3 =>
.calld [rv3=true] default (@F_q52_ok a0.Code) fun rv4 cv4 =>
.calld [(bif rv3 then (decide ((rv4.length:Int)>0)) else false)=true] default (@F_q28_ok a0.Year 0 99) fun rv5 cv5 =>
.calld [(bif (bif rv3 then (decide ((rv4.length:Int)>0)) else false) then rv5 else false)=true] default (@F_q28_ok a0.Amount 1 1000000000000) fun rv6 cv6 =>
.calld [(bif (bif (bif rv3 then (decide ((rv4.length:Int)>0)) else false) then rv5 else false) then rv6 else false)=true] default (@F_q3b_ok a0.Day) fun rv7 cv7 =>
.calld [(bif (bif (bif (bif rv3 then (decide ((rv4.length:Int)>0)) else false) then rv5 else false) then rv6 else false) then rv7 else false)=true] default (@F_q3b_ok a0.Due) fun rv8 cv8 =>
.reg 7 [] [(2,hc cv3 [] true),(6,hc cv4 [] true),(13,hc cv5 [] true),(18,hc cv6 [] true),(23,hc cv7 [] true),(28,hc cv8 [] true)] [.cl 10 cv3 [] 1 true,.clg 8 [rv3=true] cv4 [] 1 true,.clg 6 [(bif rv3 then (decide ((rv4.length:Int)>0)) else false)=true] cv5 [] 1 true,.clg 4 [(bif (bif rv3 then (decide ((rv4.length:Int)>0)) else false) then rv5 else false)=true] cv6 [] 1 true,.clg 2 [(bif (bif (bif rv3 then (decide ((rv4.length:Int)>0)) else false) then rv5 else false) then rv6 else false)=true] cv7 [] 1 true,.clg 0 [(bif (bif (bif (bif rv3 then (decide ((rv4.length:Int)>0)) else false) then rv5 else false) then rv6 else false) then rv7 else false)=true] cv8 [] 1 true] <|
.ret [] (bif (bif (bif (bif (bif rv3 then (decide ((rv4.length:Int)>0)) else false) then rv5 else false) then rv6 else false) then rv7 else false) then rv8 else false)) id
def F_q5 (a0:TWa):Option R_q5:=(S_q5 a0).den
theorem F_q5_ok {a0:TWa} (r:R_q5) (h:F_q5 a0=some r):CallOk Tryz.prog 64 [(AV.d (TWa.e a0))] [] (V_q5 r) (L_q5 r):=fOk (s:=S_q5 a0) Tryz.func64 rfl (by kernel_rfl) h
abbrev R_q4l:=Int
def V_q4l (x:R_q4l):AV:=(vi x)
def L_q4l (_:R_q4l):List Ob:=[]
def S_q4l:Scr Tryz.prog R_q4l R_q4l :=
.ret [] 0
def F_q4l:Option R_q4l:=(S_q4l).den
theorem F_q4l_ok (r:R_q4l) (h:F_q4l=some r):CallOk Tryz.prog 49 [] [] (V_q4l r) (L_q4l r):=fOk (s:=S_q4l) Tryz.func49 rfl (by kernel_rfl) h
abbrev R_q1j:=List UInt8
def V_q1j (x:R_q1j):AV:=(AV.d (DV.str x))
def L_q1j (_:R_q1j):List Ob:=[]
def S_q1j_b1 (a0:TWa) (iv1:Nat) (sv2:(List (List UInt8))):Scr Tryz.prog R_q1j (Step ((List (List UInt8))) R_q1j) :=
.reg 6 [] [] [.pf (nn iv1),.ev 0] <|
.call (@F_q51_ok (([a0.Year,a0.Reservation,a0.Commitment,a0.Verification,a0.Attempt,a0.Amount,a0.Payee,a0.Day,a0.Due]:List Int).getD iv1 default)) fun rv3 cv3 =>
.guard [(sv2.length+1) * (2 * 16)≤2 ^ 48] <|
.reg 7 [] [(2,hc cv3 [] true),(3,hv (AV.d (eL DV.str ([rv3]:List (List UInt8))))),(4,{ h:=.obj,cast:=some (AV.ref 1 ((sv2++([rv3]:List (List UInt8))).length) 0 ((sv2++([rv3]:List (List UInt8))).length)),obs:=[(1,(eS 1 DV.str (sv2++([rv3]:List (List UInt8)))))] })] [.cl 1 cv3 [] 2 true,.pf (zd DV.str ([rv3]:List (List UInt8))),.pf (Eq.refl sv2.length),.pf (Eq.refl sv2.length),.pf (p:=∀ k,k<1→(AV.d (DV.str (([rv3]:List (List UInt8)).getD k default))).wd=1) (fun _ _=>rfl),.ev 0,.pf (zy (o:=1) (l:=sv2) (x:=([rv3]:List (List UInt8)))),.pf (zx (sz:=1) (e:=DV.str) (l:=sv2) (x:=([rv3]:List (List UInt8))))] <|
.ret [] (.cont (sv2++([rv3]:List (List UInt8))))
def S_q1j (a0:TWa):Scr Tryz.prog R_q1j R_q1j :=
.call (@F_q5_ok a0) fun rv4 cv4 =>
.reg 1 [] [(1,hc cv4 [] true)] [.cl 0 cv4 [] 1 true] <|
.ite (!rv4) (
.ret [] ([])) (
.call (@F_q51_ok a0.Number) fun rv5 cv5 =>
.call (@F_q51_ok a0.Office) fun rv6 cv6 =>
.reg 3 [8] [(2,hc cv5 [] true),(5,hc cv6 [] true),(8,{ h:=.obj,obs:=[(1,(eS 1 DV.str ([[119,97,114,114,97,110,116],rv5,rv6,a0.Code]:List (List UInt8))))] })] [.cl 1 cv5 [] 1 true,.cl 0 cv6 [] 1 true,.pf (z54 (sz:=1) (e:=DV.str) (l:=([[119,97,114,114,97,110,116],rv5,rv6,a0.Code]:List (List UInt8))))] <|
.reg 4 [] [(18,hv (vl ([a0.Year,a0.Reservation,a0.Commitment,a0.Verification,a0.Attempt,a0.Amount,a0.Payee,a0.Day,a0.Due]:List Int)))] [.pf (zd (DV.i .i64) ([a0.Year,a0.Reservation,a0.Commitment,a0.Verification,a0.Attempt,a0.Amount,a0.Payee,a0.Day,a0.Due]:List Int))] <|
.range 9 9 rfl (.why (.pf (p:=9<2 ^ 63) (by decide))) 38 [36,37] (fun (sv2:(List (List UInt8)))=>[(3,(AV.ref 1 sv2.length 0 sv2.length))]) (fun (sv2:(List (List UInt8)))=>[(1,(eS 1 DV.str sv2))]) ([[119,97,114,114,97,110,116],rv5,rv6,a0.Code]:List (List UInt8)) (S_q1j_b1 a0) (fun (sv2:(List (List UInt8))) => 
.guard [sv2.length<2 ^ 63] <|
.frz 1 (.ev 0) none [3] [] <|
.call (@F_q54_ok sv2 ([32])) fun rv7 cv7 =>
.reg 9 [] [(1,hc cv7 [] true)] [.cl 0 cv7 [] 2 true] <|
.ret [] rv7) id)
def F_q1j (a0:TWa):Option R_q1j:=(S_q1j a0).den
theorem F_q1j_ok {a0:TWa} (r:R_q1j) (h:F_q1j a0=some r):CallOk Tryz.prog 147 [(AV.d (TWa.e a0))] [] (V_q1j r) (L_q1j r):=fOk (s:=S_q1j a0) Tryz.func147 rfl (by kernel_rfl) h
abbrev R_q1k:=Int
def V_q1k (x:R_q1k):AV:=(AV.d (DV.i .u64 x))
def L_q1k (_:R_q1k):List Ob:=[]
def S_q1k_b1 (a0:List UInt8) (iv1:Nat) (sv2:Int):Scr Tryz.prog R_q1k (Step (Int) R_q1k) :=
.reg 5 [] [] [.pf (nn iv1),.ev 0] <|
.ret [] (.cont (IntKind.u64.wrap ((IntKind.u64.wrap ((BitVec.ofInt IntKind.u64.bits sv2 ^^^ BitVec.ofInt IntKind.u64.bits (IntKind.u64.wrap ((a0.getD iv1 0).toNat:Int))).toNat:Int)) * 1099511628211)))
def S_q1k (a0:List UInt8):Scr Tryz.prog R_q1k R_q1k :=
.guard [a0.length<2 ^ 63] <|
.range (a0.length:Int) a0.length rfl (.why (.ev 0)) 7 [0,6] (fun (sv2:Int)=>[(3,(AV.d (DV.i .u64 sv2)))]) (fun (_:Int)=>[]) 14695981039346656037 (S_q1k_b1 a0) (fun (sv2:Int) => 
.ret [] sv2) id
def F_q1k (a0:List UInt8):Option R_q1k:=(S_q1k a0).den
theorem F_q1k_ok {a0:List UInt8} (r:R_q1k) (h:F_q1k a0=some r):CallOk Tryz.prog 146 [(AV.d (DV.str a0))] [] (V_q1k r) (L_q1k r):=fOk (s:=S_q1k a0) Tryz.func146 rfl (by kernel_rfl) h
abbrev R_qw:=Int
def V_qw (x:R_qw):AV:=(AV.d (DV.i .u64 x))
def L_qw (_:R_qw):List Ob:=[]
def S_qw_b1 (a0:Int) (iv1:Nat) (sv2:(Nat→Int)):Scr Tryz.prog R_qw (Step ((Nat→Int)) R_qw) :=
.guard [(0:Int)≤(IntKind.i64.wrap (56-(IntKind.i64.wrap (8 * (iv1:Int)))))] <|
.reg 5 [] [(8,{ obs:=[(1,(bx (eA 1 8 (DV.i .u8) (fun j=>if j=iv1 then (IntKind.u8.wrap (a0.fdiv (2 ^ (min (IntKind.i64.wrap (56-(IntKind.i64.wrap (8 * (iv1:Int))))).toNat IntKind.u64.bits)))) else sv2 j))))] })] [.ev 0,.pf (nn iv1),.ev 1,.ev 1,.pf (p:=OLe (bx (DV.arr 1 8 fun j=>if j=iv1 then (DV.i .u8 (IntKind.u8.wrap (a0.fdiv (2 ^ (min (IntKind.i64.wrap (56-(IntKind.i64.wrap (8 * (iv1:Int))))).toNat IntKind.u64.bits))))) else (DV.i .u8) (sv2 j))) (bx (eA 1 8 (DV.i .u8) (fun j=>if j=iv1 then (IntKind.u8.wrap (a0.fdiv (2 ^ (min (IntKind.i64.wrap (56-(IntKind.i64.wrap (8 * (iv1:Int))))).toNat IntKind.u64.bits)))) else sv2 j)))) (z4z (zht (e:=(DV.i .u8)) (i:=iv1) (x:=(IntKind.u8.wrap (a0.fdiv (2 ^ (min (IntKind.i64.wrap (56-(IntKind.i64.wrap (8 * (iv1:Int))))).toNat IntKind.u64.bits))))) (g:=sv2)))] <|
.ret [] (.cont (fun j=>if j=iv1 then (IntKind.u8.wrap (a0.fdiv (2 ^ (min (IntKind.i64.wrap (56-(IntKind.i64.wrap (8 * (iv1:Int))))).toNat IntKind.u64.bits)))) else sv2 j))
def S_qw (a0:Int) (a1:TWa):Scr Tryz.prog R_qw R_qw :=
.range 8 8 rfl (.why (.pf (p:=8<2 ^ 63) (by decide))) 7 [0,3,5] (fun (_:(Nat→Int))=>[]) (fun (sv2:(Nat→Int))=>[(1,(bx (eA 1 8 (DV.i .u8) sv2)))]) (fun j=>0) (S_qw_b1 a0) (fun (sv2:(Nat→Int)) => 
.sh (H:=FbH 1 (eA 1 8 (DV.i .u8) sv2)) (A:=True) (.pf trivial) [(0,(AV.d (DV.i .u64 a0))),(3,(vp 0)),(5,(vp 1))] [(0,(AV.d (DV.i .u64 a0))),(3,(vp 0)),(5,(AV.imm (eA 1 8 (DV.i .u8) sv2)))] [(bx (TWa.e a1)),(bx (eA 1 8 (DV.i .u8) sv2))] [(bx (TWa.e a1)),Ob.dead] (fun _=>zk1 (P:=[(bx (TWa.e a1))]) (D:=[]) rfl) (z7u (k:=0) rfl (TrS.keep _) (z7u (k:=1) rfl (TrS.keep _) (z7u (k:=2) rfl TrS.fb z6g))) <|
.call (@F_q1j_ok a1) fun rv3 cv3 =>
.call (@F_q1k_ok (((List.range 8).map fun j=>UInt8.ofNat ((sv2 j)).toNat)++rv3)) fun rv4 cv4 =>
.guard [((List.range 8).map fun j=>UInt8.ofNat ((sv2 j)).toNat).length+rv3.length<2 ^ 63] <|
.reg 7 [] [(3,hc cv3 [] true),(5,hc cv4 [] true)] [.pf (p:=8=8) rfl,.pf (p:=8<2 ^ 63) (by decide),.pf (p:=∀ j,j<8→∃ k,(DV.i .u8 (sv2 j))=DV.i .u8 k) (fun _ _=>⟨_,rfl⟩),.cl 2 cv3 [] 2 true,.ev 0,.cl 1 cv4 [] 2 true] <|
.ret [] rv4) id
def F_qw (a0:Int) (a1:TWa):Option R_qw:=(S_qw a0 a1).den
theorem F_qw_ok {a0:Int} {a1:TWa} (r:R_qw) (h:F_qw a0 a1=some r):CallOk Tryz.prog 128 [(AV.d (DV.i .u64 a0)),(AV.d (TWa.e a1))] [] (V_qw r) (L_qw r):=fOk (s:=S_qw a0 a1) Tryz.func128 rfl (by kernel_rfl) h
abbrev R_q3v:=TWa×Int
def V_q3v (x:R_q3v):AV:=(AV.tup [(AV.d (TWa.e x.1)),(vi x.2)])
def L_q3v (_:R_q3v):List Ob:=[]
def S_q3v (a0:(List Int)) (a1:TWa) (a2:Bool):Scr Tryz.prog R_q3v R_q3v :=
.call (@F_q5_ok a1) fun rv1 cv1 =>
.reg 1 [] [(1,hc cv1 [] true)] [.cl 0 cv1 [] 2 true] <|
.ite (!rv1) (
.ret [] ((⟨0,0,[],0,0,0,0,0,0,0,0,0,0,0⟩:TWa),1)) (
.ite (bif (!a2) then (decide ((IntKind.i64.wrap (2 * (IntKind.i64.wrap (a1.Office-1))))<(a0.length:Int))) else false) (
.call (@F_qw_ok (a0.getD (((IntKind.i64.wrap (2 * (IntKind.i64.wrap (a1.Office-1))))).toNat) default) a1) fun rv2 cv2 =>
.guard [(0:Int)≤(IntKind.i64.wrap (2 * (IntKind.i64.wrap (a1.Office-1)))),((IntKind.i64.wrap (2 * (IntKind.i64.wrap (a1.Office-1))))).toNat<a0.length] <|
.reg 5 [7] [(5,hc cv2 [] true)] [.ev 0,.ev 1,.cl 2 cv2 [] 2 true] <|
.ret [] ((⟨a1.Number,a1.Office,a1.Code,a1.Year,a1.Verification,a1.Attempt,a1.Commitment,a1.Reservation,a1.Amount,a1.Payee,a1.Day,a1.Due,rv2,a1.Second⟩:TWa),0)) (
.ite (decide ((IntKind.i64.wrap ((IntKind.i64.wrap (2 * (IntKind.i64.wrap (a1.Office-1))))+1))≥(a0.length:Int))) (
.ret [] ((⟨0,0,[],0,0,0,0,0,0,0,0,0,0,0⟩:TWa),6)) (
.call (@F_qw_ok (a0.getD (((IntKind.i64.wrap (2 * (IntKind.i64.wrap (a1.Office-1))))).toNat) default) a1) fun rv3 cv3 =>
.guard [(0:Int)≤(IntKind.i64.wrap (2 * (IntKind.i64.wrap (a1.Office-1)))),((IntKind.i64.wrap (2 * (IntKind.i64.wrap (a1.Office-1))))).toNat<a0.length] <|
.reg 9 [] [(7,hc cv3 [] true)] [.ev 0,.ev 1,.cl 2 cv3 [] 2 true] <|
.ite (a1.First != rv3) (
.ret [] ((⟨0,0,[],0,0,0,0,0,0,0,0,0,0,0⟩:TWa),18)) (
.call (@F_qw_ok (a0.getD (((IntKind.i64.wrap ((IntKind.i64.wrap (2 * (IntKind.i64.wrap (a1.Office-1))))+1))).toNat) default) a1) fun rv4 cv4 =>
.guard [(0:Int)≤(IntKind.i64.wrap ((IntKind.i64.wrap (2 * (IntKind.i64.wrap (a1.Office-1))))+1)),((IntKind.i64.wrap ((IntKind.i64.wrap (2 * (IntKind.i64.wrap (a1.Office-1))))+1))).toNat<a0.length] <|
.reg 11 [8] [(6,hc cv4 [] true)] [.ev 0,.ev 1,.cl 2 cv4 [] 2 true] <|
.ret [] ((⟨a1.Number,a1.Office,a1.Code,a1.Year,a1.Verification,a1.Attempt,a1.Commitment,a1.Reservation,a1.Amount,a1.Payee,a1.Day,a1.Due,a1.First,rv4⟩:TWa),0)))))
def F_q3v (a0:(List Int)) (a1:TWa) (a2:Bool):Option R_q3v:=(S_q3v a0 a1 a2).den
theorem F_q3v_ok {a0:(List Int)} {a1:TWa} {a2:Bool} (r:R_q3v) (h:F_q3v a0 a1 a2=some r):CallOk Tryz.prog 94 [(AV.d (eL (DV.i .u64) a0)),(AV.d (TWa.e a1)),(vb a2)] [] (V_q3v r) (L_q3v r):=fOk (s:=S_q3v a0 a1 a2) Tryz.func94 rfl (by kernel_rfl) h
abbrev R_q3w:=Int
def V_q3w (x:R_q3w):AV:=(vi x)
def L_q3w (_:R_q3w):List Ob:=[]
def S_q3w (a0:(List Int)) (a1:TWa):Scr Tryz.prog R_q3w R_q3w :=
.call (@F_q3v_ok a0 a1 true) fun rv1 cv1 =>
.reg 1 [] [(2,hc cv1 [] true)] [.cl 0 cv1 [] 1 true] <|
.ite (bif (rv1.2==0) then (rv1.1.Second != a1.Second) else false) (
.ret [] 18) (
.ret [] rv1.2)
def F_q3w (a0:(List Int)) (a1:TWa):Option R_q3w:=(S_q3w a0 a1).den
theorem F_q3w_ok {a0:(List Int)} {a1:TWa} (r:R_q3w) (h:F_q3w a0 a1=some r):CallOk Tryz.prog 51 [(AV.d (eL (DV.i .u64) a0)),(AV.d (TWa.e a1))] [] (V_q3w r) (L_q3w r):=fOk (s:=S_q3w a0 a1) Tryz.func51 rfl (by kernel_rfl) h
abbrev R_q2f:=Int
def V_q2f (x:R_q2f):AV:=(vi x)
def L_q2f (p0:(List Int)) (p1:TWa) (_:R_q2f):List Ob:=[(bx (eL (DV.i .u64) p0)),(bx (TWa.e p1))]
def S_q2f (p0:(List Int)) (p1:TWa):Scr Tryz.prog R_q2f R_q2f :=
.call (@F_q3w_ok p0 p1) fun rv1 cv1 =>
.reg 1 [] [(2,hc cv1 [] true)] [.cl 0 cv1 [] 2 true] <|
.ret [] rv1
def F_q2f (p0:(List Int)) (p1:TWa):Option R_q2f:=(S_q2f p0 p1).den
theorem F_q2f_ok {p0:(List Int)} {p1:TWa} (r:R_q2f) (h:F_q2f p0 p1=some r):CallOk Tryz.prog 50 [(vp 0),(vp 1)] [(bx (eL (DV.i .u64) p0)),(bx (TWa.e p1))] (V_q2f r) (L_q2f p0 p1 r):=fOk (s:=S_q2f p0 p1) Tryz.func50 rfl (by kernel_rfl) h
abbrev R_qx:=Bool
def V_qx (x:R_qx):AV:=(vb x)
def L_qx (_:R_qx):List Ob:=[]
def S_qx (a0:Int) (a1:Int) (a2:Int):Scr Tryz.prog R_qx R_qx :=
.ret [] (bif (decide (a0≥a1)) then (decide (a0≤a2)) else false)
def F_qx (a0:Int) (a1:Int) (a2:Int):Option R_qx:=(S_qx a0 a1 a2).den
theorem F_qx_ok {a0:Int} {a1:Int} {a2:Int} (r:R_qx) (h:F_qx a0 a1 a2=some r):CallOk Tryz.prog 188 [(vi a0),(vi a1),(vi a2)] [] (V_qx r) (L_qx r):=fOk (s:=S_qx a0 a1 a2) Tryz.func188 rfl (by kernel_rfl) h
abbrev R_q29:=Bool
def V_q29 (x:R_q29):AV:=(vb x)
def L_q29 (_:R_q29):List Ob:=[]
def S_q29 (a0:Int):Scr Tryz.prog R_q29 R_q29 :=
.call (@F_qx_ok a0 0 35990) fun rv1 cv1 =>
.reg 1 [] [(1,hc cv1 [] true)] [.cl 0 cv1 [] 0 true] <|
.ret [] rv1
def F_q29 (a0:Int):Option R_q29:=(S_q29 a0).den
theorem F_q29_ok {a0:Int} (r:R_q29) (h:F_q29 a0=some r):CallOk Tryz.prog 189 [(vi a0)] [] (V_q29 r) (L_q29 r):=fOk (s:=S_q29 a0) Tryz.func189 rfl (by kernel_rfl) h
abbrev R_q1u:=Bool
def V_q1u (x:R_q1u):AV:=(vb x)
def L_q1u (_:R_q1u):List Ob:=[]
def S_q1u (a0:Int):Scr Tryz.prog R_q1u R_q1u :=
.ret [] (bif (decide (a0≥0)) then (decide (a0≤36000)) else false)
def F_q1u (a0:Int):Option R_q1u:=(S_q1u a0).den
theorem F_q1u_ok {a0:Int} (r:R_q1u) (h:F_q1u a0=some r):CallOk Tryz.prog 99 [(vi a0)] [] (V_q1u r) (L_q1u r):=fOk (s:=S_q1u a0) Tryz.func99 rfl (by kernel_rfl) h
abbrev R_q2a:=Int
def V_q2a (x:R_q2a):AV:=(vi x)
def L_q2a (_:R_q2a):List Ob:=[]
def S_q2a (a0:Int):Scr Tryz.prog R_q2a R_q2a :=
.call (@F_q1u_ok a0) fun rv1 cv1 =>
.reg 1 [] [(1,hc cv1 [] true)] [.cl 0 cv1 [] 0 true] <|
.ite (!rv1) (
.ret [] (-1)) (
.reg 3 [] [] [.pf (p:=(360:Int)≠0) (by decide)] <|
.ret [] (IntKind.i64.wrap (a0.tdiv 360)))
def F_q2a (a0:Int):Option R_q2a:=(S_q2a a0).den
theorem F_q2a_ok {a0:Int} (r:R_q2a) (h:F_q2a a0=some r):CallOk Tryz.prog 100 [(vi a0)] [] (V_q2a r) (L_q2a r):=fOk (s:=S_q2a a0) Tryz.func100 rfl (by kernel_rfl) h
abbrev R_q2z:=Bool
def V_q2z (x:R_q2z):AV:=(vb x)
def L_q2z (_:R_q2z):List Ob:=[]
def S_q2z (a0:Int):Scr Tryz.prog R_q2z R_q2z :=
.call (@F_qx_ok a0 1 1000000000000) fun rv1 cv1 =>
.reg 1 [] [(1,hc cv1 [] true)] [.cl 0 cv1 [] 0 true] <|
.ret [] rv1
def F_q2z (a0:Int):Option R_q2z:=(S_q2z a0).den
theorem F_q2z_ok {a0:Int} (r:R_q2z) (h:F_q2z a0=some r):CallOk Tryz.prog 190 [(vi a0)] [] (V_q2z r) (L_q2z r):=fOk (s:=S_q2z a0) Tryz.func190 rfl (by kernel_rfl) h
abbrev R_q1l:=Int×Int
def V_q1l (x:R_q1l):AV:=(AV.tup [(vi x.1),(vi x.2)])
def L_q1l (_:R_q1l):List Ob:=[]
def S_q1l_b1 (a0:TBo) (a1:Int) (iv1:Nat) (sv2:Int×Int):Scr Tryz.prog R_q1l (Step (Int×Int) R_q1l) :=
.reg 3 [] [] [.pf (nn iv1),.ev 0] <|
.ite (((a0.Commitments.getD iv1 default).Reservation)==a1) (
.ret [] (.cont ((IntKind.i64.wrap (sv2.1+((a0.Commitments.getD iv1 default).Amount))),(IntKind.i64.wrap (sv2.2+((a0.Commitments.getD iv1 default).Released)))))) (
.ret [] (.cont (sv2.1,sv2.2)))
def S_q1l (a0:TBo) (a1:Int):Scr Tryz.prog R_q1l R_q1l :=
.range (a0.Commitments.length:Int) a0.Commitments.length rfl (.slot 9) 11 [1,9,10] (fun (sv2:Int×Int)=>[(4,(vi sv2.1)),(5,(vi sv2.2))]) (fun (_:Int×Int)=>[]) (0,0) (S_q1l_b1 a0 a1) (fun (sv2:Int×Int) => 
.ret [] (sv2.1,sv2.2)) id
def F_q1l (a0:TBo) (a1:Int):Option R_q1l:=(S_q1l a0 a1).den
theorem F_q1l_ok {a0:TBo} {a1:Int} (r:R_q1l) (h:F_q1l a0 a1=some r):CallOk Tryz.prog 133 [(AV.d (TBo.e a0)),(vi a1)] [] (V_q1l r) (L_q1l r):=fOk (s:=S_q1l a0 a1) Tryz.func133 rfl (by kernel_rfl) h
abbrev R_q3x:=Int
def V_q3x (x:R_q3x):AV:=(vi x)
def L_q3x (_:R_q3x):List Ob:=[]
def S_q3x (a0:TBo) (a1:TRe):Scr Tryz.prog R_q3x R_q3x :=
.call (@F_q1l_ok a0 a1.Number) fun rv1 cv1 =>
.reg 1 [] [(3,hc cv1 [] true)] [.cl 0 cv1 [] 2 true] <|
.ret [] (IntKind.i64.wrap ((IntKind.i64.wrap (a1.Amount-a1.Released))-rv1.1))
def F_q3x (a0:TBo) (a1:TRe):Option R_q3x:=(S_q3x a0 a1).den
theorem F_q3x_ok {a0:TBo} {a1:TRe} (r:R_q3x) (h:F_q3x a0 a1=some r):CallOk Tryz.prog 191 [(AV.d (TBo.e a0)),(AV.d (TRe.e a1))] [] (V_q3x r) (L_q3x r):=fOk (s:=S_q3x a0 a1) Tryz.func191 rfl (by kernel_rfl) h
abbrev R_q3c:=Bool
def V_q3c (x:R_q3c):AV:=(vb x)
def L_q3c (_:R_q3c):List Ob:=[]
def S_q3c (a0:TBo) (a1:Int):Scr Tryz.prog R_q3c R_q3c :=
.guard [(0:Int)≤a1,(a1).toNat<a0.Reservations.length] <|
.reg 1 [] [] [.ev 0,.ev 1] <|
.calld [(((a0.Reservations.getD ((a1).toNat) default).Number)==(IntKind.i64.wrap (a1+1)))=true] default (@F_q52_ok ((a0.Reservations.getD ((a1).toNat) default).Code)) fun rv1 cv1 =>
.calld [(bif (((a0.Reservations.getD ((a1).toNat) default).Number)==(IntKind.i64.wrap (a1+1))) then (decide ((rv1.length:Int)>0)) else false)=true] default (@F_qx_ok ((a0.Reservations.getD ((a1).toNat) default).Year) 0 99) fun rv2 cv2 =>
.calld [(bif (bif (((a0.Reservations.getD ((a1).toNat) default).Number)==(IntKind.i64.wrap (a1+1))) then (decide ((rv1.length:Int)>0)) else false) then rv2 else false)=true] default (@F_q29_ok ((a0.Reservations.getD ((a1).toNat) default).Day)) fun rv3 cv3 =>
.calld [(bif (bif (bif (((a0.Reservations.getD ((a1).toNat) default).Number)==(IntKind.i64.wrap (a1+1))) then (decide ((rv1.length:Int)>0)) else false) then rv2 else false) then rv3 else false)=true] default (@F_q2a_ok ((a0.Reservations.getD ((a1).toNat) default).Day)) fun rv4 cv4 =>
.calld [(bif (bif (bif (bif (((a0.Reservations.getD ((a1).toNat) default).Number)==(IntKind.i64.wrap (a1+1))) then (decide ((rv1.length:Int)>0)) else false) then rv2 else false) then rv3 else false) then (rv4==((a0.Reservations.getD ((a1).toNat) default).Year)) else false)=true] default (@F_q2z_ok ((a0.Reservations.getD ((a1).toNat) default).Amount)) fun rv5 cv5 =>
.calld [(bif (bif (bif (bif (bif (((a0.Reservations.getD ((a1).toNat) default).Number)==(IntKind.i64.wrap (a1+1))) then (decide ((rv1.length:Int)>0)) else false) then rv2 else false) then rv3 else false) then (rv4==((a0.Reservations.getD ((a1).toNat) default).Year)) else false) then rv5 else false)=true] default (@F_qx_ok ((a0.Reservations.getD ((a1).toNat) default).Released) 0 ((a0.Reservations.getD ((a1).toNat) default).Amount)) fun rv6 cv6 =>
.calld [(bif (bif (bif (bif (bif (bif (((a0.Reservations.getD ((a1).toNat) default).Number)==(IntKind.i64.wrap (a1+1))) then (decide ((rv1.length:Int)>0)) else false) then rv2 else false) then rv3 else false) then (rv4==((a0.Reservations.getD ((a1).toNat) default).Year)) else false) then rv5 else false) then rv6 else false)=true] default (@F_q3x_ok a0 (a0.Reservations.getD ((a1).toNat) default)) fun rv7 cv7 =>
.reg 2 [] [(8,hc cv1 [] true),(15,hc cv2 [] true),(20,hc cv3 [] true),(25,hc cv4 [] true),(33,hc cv5 [] true),(40,hc cv6 [] true),(45,hc cv7 [] true)] [.clg 12 [(((a0.Reservations.getD ((a1).toNat) default).Number)==(IntKind.i64.wrap (a1+1)))=true] cv1 [] 2 true,.clg 10 [(bif (((a0.Reservations.getD ((a1).toNat) default).Number)==(IntKind.i64.wrap (a1+1))) then (decide ((rv1.length:Int)>0)) else false)=true] cv2 [] 2 true,.clg 8 [(bif (bif (((a0.Reservations.getD ((a1).toNat) default).Number)==(IntKind.i64.wrap (a1+1))) then (decide ((rv1.length:Int)>0)) else false) then rv2 else false)=true] cv3 [] 2 true,.clg 6 [(bif (bif (bif (((a0.Reservations.getD ((a1).toNat) default).Number)==(IntKind.i64.wrap (a1+1))) then (decide ((rv1.length:Int)>0)) else false) then rv2 else false) then rv3 else false)=true] cv4 [] 2 true,.clg 4 [(bif (bif (bif (bif (((a0.Reservations.getD ((a1).toNat) default).Number)==(IntKind.i64.wrap (a1+1))) then (decide ((rv1.length:Int)>0)) else false) then rv2 else false) then rv3 else false) then (rv4==((a0.Reservations.getD ((a1).toNat) default).Year)) else false)=true] cv5 [] 2 true,.clg 2 [(bif (bif (bif (bif (bif (((a0.Reservations.getD ((a1).toNat) default).Number)==(IntKind.i64.wrap (a1+1))) then (decide ((rv1.length:Int)>0)) else false) then rv2 else false) then rv3 else false) then (rv4==((a0.Reservations.getD ((a1).toNat) default).Year)) else false) then rv5 else false)=true] cv6 [] 2 true,.clg 0 [(bif (bif (bif (bif (bif (bif (((a0.Reservations.getD ((a1).toNat) default).Number)==(IntKind.i64.wrap (a1+1))) then (decide ((rv1.length:Int)>0)) else false) then rv2 else false) then rv3 else false) then (rv4==((a0.Reservations.getD ((a1).toNat) default).Year)) else false) then rv5 else false) then rv6 else false)=true] cv7 [] 2 true] <|
.ret [] (bif (bif (bif (bif (bif (bif (bif (((a0.Reservations.getD ((a1).toNat) default).Number)==(IntKind.i64.wrap (a1+1))) then (decide ((rv1.length:Int)>0)) else false) then rv2 else false) then rv3 else false) then (rv4==((a0.Reservations.getD ((a1).toNat) default).Year)) else false) then rv5 else false) then rv6 else false) then (decide (rv7≥0)) else false)
def F_q3c (a0:TBo) (a1:Int):Option R_q3c:=(S_q3c a0 a1).den
theorem F_q3c_ok {a0:TBo} {a1:Int} (r:R_q3c) (h:F_q3c a0 a1=some r):CallOk Tryz.prog 161 [(AV.d (TBo.e a0)),(vi a1)] [] (V_q3c r) (L_q3c r):=fOk (s:=S_q3c a0 a1) Tryz.func161 rfl (by kernel_rfl) h
abbrev R_q2g:=Bool
def V_q2g (x:R_q2g):AV:=(vb x)
def L_q2g (_:R_q2g):List Ob:=[]
def S_q2g_b1 (a0:TBo) (iv1:Nat) (_:Unit):Scr Tryz.prog R_q2g (Step (Unit) R_q2g) :=
.call (@F_q3c_ok a0 (iv1:Int)) fun rv2 cv2 =>
.reg 4 [] [(3,hc cv2 [] true)] [.cl 0 cv2 [] 1 true] <|
.ite (!rv2) (
.ret [] (.ret false)) (
.ret [] (.cont ()))
def S_q2g (a0:TBo) (a1:Int):Scr Tryz.prog R_q2g R_q2g :=
.guard [(a1).toNat<2 ^ 63] <|
.range a1 ((a1).toNat) rfl (.why (.ev 0)) 9 [1,2,3,8] (fun (_:Unit)=>[]) (fun (_:Unit)=>[]) () (S_q2g_b1 a0) (fun (_:Unit) => 
.ret [] (decide (a1≤200))) id
def F_q2g (a0:TBo) (a1:Int):Option R_q2g:=(S_q2g a0 a1).den
theorem F_q2g_ok {a0:TBo} {a1:Int} (r:R_q2g) (h:F_q2g a0 a1=some r):CallOk Tryz.prog 160 [(AV.d (TBo.e a0)),(vi a1),(AV.fn 161 [])] [] (V_q2g r) (L_q2g r):=fOk (s:=S_q2g a0 a1) Tryz.func160 rfl (by kernel_rfl) h
abbrev R_q1v:=Int
def V_q1v (x:R_q1v):AV:=(vi x)
def L_q1v (_:R_q1v):List Ob:=[]
def S_q1v_b1 (a0:TBo) (a1:Int) (iv1:Nat) (sv2:Int):Scr Tryz.prog R_q1v (Step (Int) R_q1v) :=
.reg 4 [] [] [.pf (nn iv1),.ev 0] <|
.ite (((a0.Verifications.getD iv1 default).Commitment)==a1) (
.ret [] (.cont (IntKind.i64.wrap (sv2+((a0.Verifications.getD iv1 default).Amount))))) (
.ret [] (.cont sv2))
def S_q1v (a0:TBo) (a1:Int):Scr Tryz.prog R_q1v R_q1v :=
.range (a0.Verifications.length:Int) a0.Verifications.length rfl (.slot 9) 11 [1,9,10] (fun (sv2:Int)=>[(5,(vi sv2))]) (fun (_:Int)=>[]) 0 (S_q1v_b1 a0 a1) (fun (sv2:Int) => 
.ret [] sv2) id
def F_q1v (a0:TBo) (a1:Int):Option R_q1v:=(S_q1v a0 a1).den
theorem F_q1v_ok {a0:TBo} {a1:Int} (r:R_q1v) (h:F_q1v a0 a1=some r):CallOk Tryz.prog 213 [(AV.d (TBo.e a0)),(vi a1)] [] (V_q1v r) (L_q1v r):=fOk (s:=S_q1v a0 a1) Tryz.func213 rfl (by kernel_rfl) h
abbrev R_q3y:=Int
def V_q3y (x:R_q3y):AV:=(vi x)
def L_q3y (_:R_q3y):List Ob:=[]
def S_q3y (a0:TBo) (a1:TCo):Scr Tryz.prog R_q3y R_q3y :=
.call (@F_q1v_ok a0 a1.Number) fun rv1 cv1 =>
.reg 1 [] [(8,hc cv1 [] true)] [.cl 0 cv1 [] 2 true] <|
.ret [] (IntKind.i64.wrap ((IntKind.i64.wrap (a1.Amount-a1.Released))-rv1))
def F_q3y (a0:TBo) (a1:TCo):Option R_q3y:=(S_q3y a0 a1).den
theorem F_q3y_ok {a0:TBo} {a1:TCo} (r:R_q3y) (h:F_q3y a0 a1=some r):CallOk Tryz.prog 192 [(AV.d (TBo.e a0)),(AV.d (TCo.e a1))] [] (V_q3y r) (L_q3y r):=fOk (s:=S_q3y a0 a1) Tryz.func192 rfl (by kernel_rfl) h
abbrev R_q3d:=Bool
def V_q3d (x:R_q3d):AV:=(vb x)
def L_q3d (_:R_q3d):List Ob:=[]
def S_q3d (a0:TBo) (a1:Int):Scr Tryz.prog R_q3d R_q3d :=
.guard [(0:Int)≤a1,(a1).toNat<a0.Commitments.length] <|
.reg 1 [] [] [.ev 0,.ev 1] <|
.calld [(((a0.Commitments.getD ((a1).toNat) default).Number) != (IntKind.i64.wrap (a1+1)))=false] default (@F_qx_ok ((a0.Commitments.getD ((a1).toNat) default).Reservation) 1 (a0.Reservations.length:Int)) fun rv1 cv1 =>
.reg 2 [] [(11,hc cv1 [] true)] [.clg 0 [(((a0.Commitments.getD ((a1).toNat) default).Number) != (IntKind.i64.wrap (a1+1)))=false] cv1 [] 2 true] <|
.ite (bif (((a0.Commitments.getD ((a1).toNat) default).Number) != (IntKind.i64.wrap (a1+1))) then true else (!rv1)) (
.ret [] false) (
.guard [(0:Int)≤(IntKind.i64.wrap (((a0.Commitments.getD ((a1).toNat) default).Reservation)-1)),((IntKind.i64.wrap (((a0.Commitments.getD ((a1).toNat) default).Reservation)-1))).toNat<a0.Reservations.length] <|
.reg 4 [] [] [.ev 0,.ev 1] <|
.call (@F_q29_ok ((a0.Commitments.getD ((a1).toNat) default).Day)) fun rv2 cv2 =>
.calld [(bif rv2 then (decide (((a0.Commitments.getD ((a1).toNat) default).Day)≥((a0.Reservations.getD (((IntKind.i64.wrap (((a0.Commitments.getD ((a1).toNat) default).Reservation)-1))).toNat) default).Day))) else false)=true] default (@F_q2a_ok ((a0.Commitments.getD ((a1).toNat) default).Day)) fun rv3 cv3 =>
.calld [(bif (bif rv2 then (decide (((a0.Commitments.getD ((a1).toNat) default).Day)≥((a0.Reservations.getD (((IntKind.i64.wrap (((a0.Commitments.getD ((a1).toNat) default).Reservation)-1))).toNat) default).Day))) else false) then (rv3==((a0.Reservations.getD (((IntKind.i64.wrap (((a0.Commitments.getD ((a1).toNat) default).Reservation)-1))).toNat) default).Year)) else false)=true] default (@F_q2z_ok ((a0.Commitments.getD ((a1).toNat) default).Amount)) fun rv4 cv4 =>
.calld [(bif (bif (bif rv2 then (decide (((a0.Commitments.getD ((a1).toNat) default).Day)≥((a0.Reservations.getD (((IntKind.i64.wrap (((a0.Commitments.getD ((a1).toNat) default).Reservation)-1))).toNat) default).Day))) else false) then (rv3==((a0.Reservations.getD (((IntKind.i64.wrap (((a0.Commitments.getD ((a1).toNat) default).Reservation)-1))).toNat) default).Year)) else false) then rv4 else false)=true] default (@F_qx_ok ((a0.Commitments.getD ((a1).toNat) default).Released) 0 ((a0.Commitments.getD ((a1).toNat) default).Amount)) fun rv5 cv5 =>
.calld [(bif (bif (bif (bif rv2 then (decide (((a0.Commitments.getD ((a1).toNat) default).Day)≥((a0.Reservations.getD (((IntKind.i64.wrap (((a0.Commitments.getD ((a1).toNat) default).Reservation)-1))).toNat) default).Day))) else false) then (rv3==((a0.Reservations.getD (((IntKind.i64.wrap (((a0.Commitments.getD ((a1).toNat) default).Reservation)-1))).toNat) default).Year)) else false) then rv4 else false) then rv5 else false)=true] default (@F_qx_ok ((a0.Commitments.getD ((a1).toNat) default).Payee) 1 1000000) fun rv6 cv6 =>
.calld [(bif (bif (bif (bif (bif rv2 then (decide (((a0.Commitments.getD ((a1).toNat) default).Day)≥((a0.Reservations.getD (((IntKind.i64.wrap (((a0.Commitments.getD ((a1).toNat) default).Reservation)-1))).toNat) default).Day))) else false) then (rv3==((a0.Reservations.getD (((IntKind.i64.wrap (((a0.Commitments.getD ((a1).toNat) default).Reservation)-1))).toNat) default).Year)) else false) then rv4 else false) then rv5 else false) then rv6 else false)=true] default (@F_q29_ok ((a0.Commitments.getD ((a1).toNat) default).Due)) fun rv7 cv7 =>
.calld [(bif (bif (bif (bif (bif (bif rv2 then (decide (((a0.Commitments.getD ((a1).toNat) default).Day)≥((a0.Reservations.getD (((IntKind.i64.wrap (((a0.Commitments.getD ((a1).toNat) default).Reservation)-1))).toNat) default).Day))) else false) then (rv3==((a0.Reservations.getD (((IntKind.i64.wrap (((a0.Commitments.getD ((a1).toNat) default).Reservation)-1))).toNat) default).Year)) else false) then rv4 else false) then rv5 else false) then rv6 else false) then rv7 else false)=true] default (@F_q3y_ok a0 (a0.Commitments.getD ((a1).toNat) default)) fun rv8 cv8 =>
.reg 5 [] [(2,hc cv2 [] true),(13,hc cv3 [] true),(21,hc cv4 [] true),(28,hc cv5 [] true),(33,hc cv6 [] true),(38,hc cv7 [] true),(43,hc cv8 [] true)] [.cl 12 cv2 [] 3 true,.clg 10 [(bif rv2 then (decide (((a0.Commitments.getD ((a1).toNat) default).Day)≥((a0.Reservations.getD (((IntKind.i64.wrap (((a0.Commitments.getD ((a1).toNat) default).Reservation)-1))).toNat) default).Day))) else false)=true] cv3 [] 3 true,.clg 8 [(bif (bif rv2 then (decide (((a0.Commitments.getD ((a1).toNat) default).Day)≥((a0.Reservations.getD (((IntKind.i64.wrap (((a0.Commitments.getD ((a1).toNat) default).Reservation)-1))).toNat) default).Day))) else false) then (rv3==((a0.Reservations.getD (((IntKind.i64.wrap (((a0.Commitments.getD ((a1).toNat) default).Reservation)-1))).toNat) default).Year)) else false)=true] cv4 [] 3 true,.clg 6 [(bif (bif (bif rv2 then (decide (((a0.Commitments.getD ((a1).toNat) default).Day)≥((a0.Reservations.getD (((IntKind.i64.wrap (((a0.Commitments.getD ((a1).toNat) default).Reservation)-1))).toNat) default).Day))) else false) then (rv3==((a0.Reservations.getD (((IntKind.i64.wrap (((a0.Commitments.getD ((a1).toNat) default).Reservation)-1))).toNat) default).Year)) else false) then rv4 else false)=true] cv5 [] 3 true,.clg 4 [(bif (bif (bif (bif rv2 then (decide (((a0.Commitments.getD ((a1).toNat) default).Day)≥((a0.Reservations.getD (((IntKind.i64.wrap (((a0.Commitments.getD ((a1).toNat) default).Reservation)-1))).toNat) default).Day))) else false) then (rv3==((a0.Reservations.getD (((IntKind.i64.wrap (((a0.Commitments.getD ((a1).toNat) default).Reservation)-1))).toNat) default).Year)) else false) then rv4 else false) then rv5 else false)=true] cv6 [] 3 true,.clg 2 [(bif (bif (bif (bif (bif rv2 then (decide (((a0.Commitments.getD ((a1).toNat) default).Day)≥((a0.Reservations.getD (((IntKind.i64.wrap (((a0.Commitments.getD ((a1).toNat) default).Reservation)-1))).toNat) default).Day))) else false) then (rv3==((a0.Reservations.getD (((IntKind.i64.wrap (((a0.Commitments.getD ((a1).toNat) default).Reservation)-1))).toNat) default).Year)) else false) then rv4 else false) then rv5 else false) then rv6 else false)=true] cv7 [] 3 true,.clg 0 [(bif (bif (bif (bif (bif (bif rv2 then (decide (((a0.Commitments.getD ((a1).toNat) default).Day)≥((a0.Reservations.getD (((IntKind.i64.wrap (((a0.Commitments.getD ((a1).toNat) default).Reservation)-1))).toNat) default).Day))) else false) then (rv3==((a0.Reservations.getD (((IntKind.i64.wrap (((a0.Commitments.getD ((a1).toNat) default).Reservation)-1))).toNat) default).Year)) else false) then rv4 else false) then rv5 else false) then rv6 else false) then rv7 else false)=true] cv8 [] 3 true] <|
.ret [] (bif (bif (bif (bif (bif (bif (bif rv2 then (decide (((a0.Commitments.getD ((a1).toNat) default).Day)≥((a0.Reservations.getD (((IntKind.i64.wrap (((a0.Commitments.getD ((a1).toNat) default).Reservation)-1))).toNat) default).Day))) else false) then (rv3==((a0.Reservations.getD (((IntKind.i64.wrap (((a0.Commitments.getD ((a1).toNat) default).Reservation)-1))).toNat) default).Year)) else false) then rv4 else false) then rv5 else false) then rv6 else false) then rv7 else false) then (decide (rv8≥0)) else false))
def F_q3d (a0:TBo) (a1:Int):Option R_q3d:=(S_q3d a0 a1).den
theorem F_q3d_ok {a0:TBo} {a1:Int} (r:R_q3d) (h:F_q3d a0 a1=some r):CallOk Tryz.prog 162 [(AV.d (TBo.e a0)),(vi a1)] [] (V_q3d r) (L_q3d r):=fOk (s:=S_q3d a0 a1) Tryz.func162 rfl (by kernel_rfl) h
end
end Go.Proofs.YtclaojamgomjbaaGreatDoor
/- What the functions compute,and that their calls return it. No condition. -/
namespace Go.Proofs.YtclaojamgomjbaaGreatDoor
open Go Go.TA
noncomputable section
set_option maxRecDepth 100000
abbrev R_q2h:=Bool
def V_q2h (x:R_q2h):AV:=(vb x)
def L_q2h (_:R_q2h):List Ob:=[]
def S_q2h_b1 (a0:TBo) (iv1:Nat) (_:Unit):Scr Tryz.prog R_q2h (Step (Unit) R_q2h) :=
.call (@F_q3d_ok a0 (iv1:Int)) fun rv2 cv2 =>
.reg 4 [] [(3,hc cv2 [] true)] [.cl 0 cv2 [] 1 true] <|
.ite (!rv2) (
.ret [] (.ret false)) (
.ret [] (.cont ()))
def S_q2h (a0:TBo) (a1:Int):Scr Tryz.prog R_q2h R_q2h :=
.guard [(a1).toNat<2 ^ 63] <|
.range a1 ((a1).toNat) rfl (.why (.ev 0)) 9 [1,2,3,8] (fun (_:Unit)=>[]) (fun (_:Unit)=>[]) () (S_q2h_b1 a0) (fun (_:Unit) => 
.ret [] (decide (a1≤200))) id
def F_q2h (a0:TBo) (a1:Int):Option R_q2h:=(S_q2h a0 a1).den
theorem F_q2h_ok {a0:TBo} {a1:Int} (r:R_q2h) (h:F_q2h a0 a1=some r):CallOk Tryz.prog 160 [(AV.d (TBo.e a0)),(vi a1),(AV.fn 162 [])] [] (V_q2h r) (L_q2h r):=fOk (s:=S_q2h a0 a1) Tryz.func160 rfl (by kernel_rfl) h
abbrev R_q2i:=Int
def V_q2i (x:R_q2i):AV:=(vi x)
def L_q2i (_:R_q2i):List Ob:=[]
def S_q2i (a0:TBo) (a1:TCo):Scr Tryz.prog R_q2i R_q2i :=
.guard [(0:Int)≤(IntKind.i64.wrap (a1.Reservation-1)),((IntKind.i64.wrap (a1.Reservation-1))).toNat<a0.Reservations.length] <|
.reg 1 [] [] [.ev 0,.ev 1] <|
.ret [] ((a0.Reservations.getD (((IntKind.i64.wrap (a1.Reservation-1))).toNat) default).Year)
def F_q2i (a0:TBo) (a1:TCo):Option R_q2i:=(S_q2i a0 a1).den
theorem F_q2i_ok {a0:TBo} {a1:TCo} (r:R_q2i) (h:F_q2i a0 a1=some r):CallOk Tryz.prog 193 [(AV.d (TBo.e a0)),(AV.d (TCo.e a1))] [] (V_q2i r) (L_q2i r):=fOk (s:=S_q2i a0 a1) Tryz.func193 rfl (by kernel_rfl) h
abbrev R_q3e:=Bool
def V_q3e (x:R_q3e):AV:=(vb x)
def L_q3e (_:R_q3e):List Ob:=[]
def S_q3e (a0:TBo) (a1:Int):Scr Tryz.prog R_q3e R_q3e :=
.guard [(0:Int)≤a1,(a1).toNat<a0.Verifications.length] <|
.reg 1 [] [] [.ev 0,.ev 1] <|
.calld [(((a0.Verifications.getD ((a1).toNat) default).Number) != (IntKind.i64.wrap (a1+1)))=false] default (@F_qx_ok ((a0.Verifications.getD ((a1).toNat) default).Commitment) 1 (a0.Commitments.length:Int)) fun rv1 cv1 =>
.reg 2 [] [(11,hc cv1 [] true)] [.clg 0 [(((a0.Verifications.getD ((a1).toNat) default).Number) != (IntKind.i64.wrap (a1+1)))=false] cv1 [] 2 true] <|
.ite (bif (((a0.Verifications.getD ((a1).toNat) default).Number) != (IntKind.i64.wrap (a1+1))) then true else (!rv1)) (
.ret [] false) (
.guard [(0:Int)≤(IntKind.i64.wrap (((a0.Verifications.getD ((a1).toNat) default).Commitment)-1)),((IntKind.i64.wrap (((a0.Verifications.getD ((a1).toNat) default).Commitment)-1))).toNat<a0.Commitments.length] <|
.reg 4 [] [] [.ev 0,.ev 1] <|
.call (@F_q29_ok ((a0.Verifications.getD ((a1).toNat) default).Day)) fun rv2 cv2 =>
.calld [(bif rv2 then (decide (((a0.Verifications.getD ((a1).toNat) default).Day)≥((a0.Commitments.getD (((IntKind.i64.wrap (((a0.Verifications.getD ((a1).toNat) default).Commitment)-1))).toNat) default).Day))) else false)=true] default (@F_q2a_ok ((a0.Verifications.getD ((a1).toNat) default).Day)) fun rv3 cv3 =>
.calld [(bif rv2 then (decide (((a0.Verifications.getD ((a1).toNat) default).Day)≥((a0.Commitments.getD (((IntKind.i64.wrap (((a0.Verifications.getD ((a1).toNat) default).Commitment)-1))).toNat) default).Day))) else false)=true] default (@F_q2i_ok a0 (a0.Commitments.getD (((IntKind.i64.wrap (((a0.Verifications.getD ((a1).toNat) default).Commitment)-1))).toNat) default)) fun rv4 cv4 =>
.calld [(bif (bif rv2 then (decide (((a0.Verifications.getD ((a1).toNat) default).Day)≥((a0.Commitments.getD (((IntKind.i64.wrap (((a0.Verifications.getD ((a1).toNat) default).Commitment)-1))).toNat) default).Day))) else false) then (decide (rv3≤(IntKind.i64.wrap (rv4+1)))) else false)=true] default (@F_q2z_ok ((a0.Verifications.getD ((a1).toNat) default).Amount)) fun rv5 cv5 =>
.reg 5 [] [(2,hc cv2 [] true),(13,hc cv3 [] true),(16,hc cv4 [] true),(23,hc cv5 [] true)] [.cl 6 cv2 [] 3 true,.clg 4 [(bif rv2 then (decide (((a0.Verifications.getD ((a1).toNat) default).Day)≥((a0.Commitments.getD (((IntKind.i64.wrap (((a0.Verifications.getD ((a1).toNat) default).Commitment)-1))).toNat) default).Day))) else false)=true] cv3 [] 3 true,.clg 2 [(bif rv2 then (decide (((a0.Verifications.getD ((a1).toNat) default).Day)≥((a0.Commitments.getD (((IntKind.i64.wrap (((a0.Verifications.getD ((a1).toNat) default).Commitment)-1))).toNat) default).Day))) else false)=true] cv4 [] 3 true,.clg 0 [(bif (bif rv2 then (decide (((a0.Verifications.getD ((a1).toNat) default).Day)≥((a0.Commitments.getD (((IntKind.i64.wrap (((a0.Verifications.getD ((a1).toNat) default).Commitment)-1))).toNat) default).Day))) else false) then (decide (rv3≤(IntKind.i64.wrap (rv4+1)))) else false)=true] cv5 [] 3 true] <|
.ret [] (bif (bif (bif rv2 then (decide (((a0.Verifications.getD ((a1).toNat) default).Day)≥((a0.Commitments.getD (((IntKind.i64.wrap (((a0.Verifications.getD ((a1).toNat) default).Commitment)-1))).toNat) default).Day))) else false) then (decide (rv3≤(IntKind.i64.wrap (rv4+1)))) else false) then rv5 else false))
def F_q3e (a0:TBo) (a1:Int):Option R_q3e:=(S_q3e a0 a1).den
theorem F_q3e_ok {a0:TBo} {a1:Int} (r:R_q3e) (h:F_q3e a0 a1=some r):CallOk Tryz.prog 163 [(AV.d (TBo.e a0)),(vi a1)] [] (V_q3e r) (L_q3e r):=fOk (s:=S_q3e a0 a1) Tryz.func163 rfl (by kernel_rfl) h
abbrev R_q2j:=Bool
def V_q2j (x:R_q2j):AV:=(vb x)
def L_q2j (_:R_q2j):List Ob:=[]
def S_q2j_b1 (a0:TBo) (iv1:Nat) (_:Unit):Scr Tryz.prog R_q2j (Step (Unit) R_q2j) :=
.call (@F_q3e_ok a0 (iv1:Int)) fun rv2 cv2 =>
.reg 4 [] [(3,hc cv2 [] true)] [.cl 0 cv2 [] 1 true] <|
.ite (!rv2) (
.ret [] (.ret false)) (
.ret [] (.cont ()))
def S_q2j (a0:TBo) (a1:Int):Scr Tryz.prog R_q2j R_q2j :=
.guard [(a1).toNat<2 ^ 63] <|
.range a1 ((a1).toNat) rfl (.why (.ev 0)) 9 [1,2,3,8] (fun (_:Unit)=>[]) (fun (_:Unit)=>[]) () (S_q2j_b1 a0) (fun (_:Unit) => 
.ret [] (decide (a1≤200))) id
def F_q2j (a0:TBo) (a1:Int):Option R_q2j:=(S_q2j a0 a1).den
theorem F_q2j_ok {a0:TBo} {a1:Int} (r:R_q2j) (h:F_q2j a0 a1=some r):CallOk Tryz.prog 160 [(AV.d (TBo.e a0)),(vi a1),(AV.fn 163 [])] [] (V_q2j r) (L_q2j r):=fOk (s:=S_q2j a0 a1) Tryz.func160 rfl (by kernel_rfl) h
abbrev R_q3z:=(List TOr)
def V_q3z (x:R_q3z):AV:=(AV.ref 0 x.length 0 x.length)
def L_q3z (x:R_q3z):List Ob:=[(eS 5 TOr.e x)]
def S_q3z (a0:(List TOr)):Scr Tryz.prog R_q3z R_q3z :=
.reg 0 [] [] [] <|
.nils 0 (
.guard [a0.length * (2 * 40)≤2 ^ 48] <|
.reg 1 [] [] [] <|
.lev 0 (AV.d (eL TOr.e a0)) (.pf (lvQ true a0.length fun j=>(TOr.e (a0.getD j default)))) <|
.br true (.pf (p:=true=true) rfl) <|
.reg 2 [] [] [] <|
.bor 5 (fun j=>AV.d (TOr.e (a0.getD j default))) [2] <|
.cst (A:=a0.length=0) (.ev 1) [(2,AV.ref 0 0 0 0)] [(2,(AV.ref 0 a0.length 0 a0.length))] [(Ob.seq 5 0 fun j=>AV.d (TOr.e (a0.getD j default)))] [(eS 5 TOr.e a0)] (fun h=>⟨by rw[h],by unfold eS; rw[h]⟩) <|
.ret [] a0) (
.reg 1 [] [] [] <|
.lev 0 (AV.d (eL TOr.e a0)) (.pf (lvQ false a0.length fun j=>(TOr.e (a0.getD j default)))) <|
.br false (.pf (p:=false=false) rfl) <|
.guard [a0.length * (2 * 40)≤2 ^ 48] <|
.reg 3 [] [(2,{ h:=.obj })] [.pf (p:=∀ k,k<a0.length→(AV.d (TOr.e (a0.getD k default))).wd=5) (fun _ _=>rfl),.ev 0] <|
.ret [] a0)
def F_q3z (a0:(List TOr)):Option R_q3z:=(S_q3z a0).den
theorem F_q3z_ok {a0:(List TOr)} (r:R_q3z) (h:F_q3z a0=some r):CallOk Tryz.prog 215 [(AV.d (eL TOr.e a0))] [] (V_q3z r) (L_q3z r):=fOk (s:=S_q3z a0) Tryz.func215 rfl (by kernel_rfl) h
abbrev R_q30:=Bool
def V_q30 (x:R_q30):AV:=(vb x)
def L_q30 (p0:Int) (_:R_q30):List Ob:=[(Ob.box (vi p0))]
def S_q30 (a0:TOr) (p0:Int):Scr Tryz.prog R_q30 R_q30 :=
.ret [] (a0.Verification != p0)
def F_q30 (a0:TOr) (p0:Int):Option R_q30:=(S_q30 a0 p0).den
theorem F_q30_ok {a0:TOr} {p0:Int} (r:R_q30) (h:F_q30 a0 p0=some r):CallOk Tryz.prog 216 [(AV.d (TOr.e a0)),(vp 0)] [(Ob.box (vi p0))] (V_q30 r) (L_q30 p0 r):=fOk (s:=S_q30 a0 p0) Tryz.func216 rfl (by kernel_rfl) h
abbrev R_q1a:=Int
def V_q1a (x:R_q1a):AV:=(vi x)
def L_q1a (p0:(List TOr)) (p1:Int) (_:R_q1a):List Ob:=[(eS 5 TOr.e p0),(Ob.box (vi p1))]
def S_q1a_b1 (p0:(List TOr)) (p1:Int) (iv1:Nat) (_:Unit):Scr Tryz.prog R_q1a (Step (Unit) R_q1a) :=
.call (@F_q30_ok (p0.getD (0+iv1) default) p1) fun rv2 cv2 =>
.guard [(0+iv1)<p0.length] <|
.reg 4 [] [(5,hc cv2 [1] true)] [.pf (Eq.refl p0.length),.pf (nn iv1),.ev 2,.pf (Eq.refl p0.length),.ev 0,.cl 1 cv2 [1] 2 true] <|
.ite rv2 (
.ret [] (.ret (iv1:Int))) (
.ret [] (.cont ()))
def S_q1a (p0:(List TOr)) (p1:Int):Scr Tryz.prog R_q1a R_q1a :=
.guard [p0.length<2 ^ 63] <|
.range (p0.length:Int) p0.length rfl (.why (.ev 0)) 8 [0,1,7] (fun (_:Unit)=>[]) (fun (_:Unit)=>[]) () (S_q1a_b1 p0 p1) (fun (_:Unit) => 
.ret [] (-1)) id
def F_q1a (p0:(List TOr)) (p1:Int):Option R_q1a:=(S_q1a p0 p1).den
theorem F_q1a_ok {p0:(List TOr)} {p1:Int} (r:R_q1a) (h:F_q1a p0 p1=some r):CallOk Tryz.prog 130 [(AV.ref 0 p0.length 0 p0.length),(AV.fn 216 [(vp 1)])] [(eS 5 TOr.e p0),(Ob.box (vi p1))] (V_q1a r) (L_q1a p0 p1 r):=fOk (s:=S_q1a p0 p1) Tryz.func130 rfl (by kernel_rfl) h
abbrev R_q1b:=(List TOr)
def V_q1b (x:R_q1b):AV:=(AV.d (eL TOr.e x))
def L_q1b (p1:Int) (_:R_q1b):List Ob:=[Ob.dead,(Ob.box (vi p1))]
def S_q1b_b1 (p1:Int) (sv1:(List TOr)×Int×Int):Scr Tryz.prog R_q1b (Step ((List TOr)×Int×Int) R_q1b) :=
.ite (decide (sv1.2.2<(sv1.1.length:Int))) (
.guard [(0:Int)≤sv1.2.2,(sv1.2.2).toNat<sv1.1.length,(0+(sv1.2.2).toNat)<sv1.1.length] <|
.reg 7 [] [] [.pf (Eq.refl sv1.1.length),.ev 0,.ev 1,.pf (Eq.refl sv1.1.length),.ev 2] <|
.call (@F_q30_ok (sv1.1.getD (0+(sv1.2.2).toNat) default) p1) fun rv2 cv2 =>
.reg 8 [] [(2,hc cv2 [1] true)] [.cl 0 cv2 [1] 3 true] <|
.ite (!rv2) (
.guard [(0:Int)≤sv1.2.1,(sv1.2.1).toNat<sv1.1.length,(0+(sv1.2.1).toNat)<sv1.1.length] <|
.reg 9 [] [(4,{ obs:=[(0,(eS 5 TOr.e (sv1.1.set (0+(sv1.2.1).toNat) (sv1.1.getD (0+(sv1.2.2).toNat) default))))] })] [.pf (Eq.refl sv1.1.length),.ev 0,.ev 1,.pf (Eq.refl sv1.1.length),.ev 2,.pf (z19 (sz:=5) (e:=TOr.e) (l:=sv1.1) (i:=(0+(sv1.2.1).toNat)) (x:=(sv1.1.getD (0+(sv1.2.2).toNat) default)) (fun _=>rfl))] <|
.cst (A:=True) (.pf trivial) [(0,(AV.ref 0 sv1.1.length 0 sv1.1.length)),(1,(AV.fn 216 [(vp 1)])),(5,(vi sv1.2.1)),(6,(vi sv1.2.2))] [(0,(AV.ref 0 ((sv1.1.set (0+(sv1.2.1).toNat) (sv1.1.getD (0+(sv1.2.2).toNat) default)).length) 0 ((sv1.1.set (0+(sv1.2.1).toNat) (sv1.1.getD (0+(sv1.2.2).toNat) default)).length))),(1,(AV.fn 216 [(vp 1)])),(5,(vi sv1.2.1)),(6,(vi sv1.2.2))] [(eS 5 TOr.e (sv1.1.set (0+(sv1.2.1).toNat) (sv1.1.getD (0+(sv1.2.2).toNat) default))),(Ob.box (vi p1)),(bx (TOr.e (sv1.1.getD (0+(sv1.2.2).toNat) default)))] [(eS 5 TOr.e (sv1.1.set (0+(sv1.2.1).toNat) (sv1.1.getD (0+(sv1.2.2).toNat) default))),(Ob.box (vi p1)),(bx (TOr.e (sv1.1.getD (0+(sv1.2.2).toNat) default)))] (fun _=>⟨by simp only[List.length_set],by rfl⟩) <|
.ret [] (.cont ((sv1.1.set (0+(sv1.2.1).toNat) (sv1.1.getD (0+(sv1.2.2).toNat) default)),(IntKind.i64.wrap (sv1.2.1+1)),(IntKind.i64.wrap (sv1.2.2+1))))) (
.ret [] (.cont (sv1.1,sv1.2.1,(IntKind.i64.wrap (sv1.2.2+1)))))) (
.ret [] (.brk (sv1.1,sv1.2.1,sv1.2.2)))
def S_q1b (p0:(List TOr)) (p1:Int):Scr Tryz.prog R_q1b R_q1b :=
.call (@F_q1a_ok p0 p1) fun rv3 cv3 =>
.reg 1 [] [(2,hc cv3 [0,1] true)] [.cl 0 cv3 [0,1] 2 true] <|
.ite (rv3==(-1)) (
.guard [p0.length<2 ^ 63] <|
.reg 3 [] [] [] <|
.frz 0 (.ev 0) none [4] [] <|
.ret [] p0) (
.iter [1] (fun (sv1:(List TOr)×Int×Int)=>[(0,(AV.ref 0 sv1.1.length 0 sv1.1.length)),(5,(vi sv1.2.1)),(6,(vi sv1.2.2))]) (fun (sv1:(List TOr)×Int×Int)=>[(0,(eS 5 TOr.e sv1.1))]) (p0,rv3,(IntKind.i64.wrap (rv3+1))) (S_q1b_b1 p1) (fun (sv1:(List TOr)×Int×Int) =>
.guard [(0:Int)≤sv1.2.1,(sv1.2.1).toNat≤sv1.1.length] <|
.reg 11 [] [(3,{ obs:=[(0,(eS 5 TOr.e (clearL sv1.1 (0+(sv1.2.1).toNat) (sv1.1.length-(sv1.2.1).toNat) (⟨0,0,0,0,false⟩:TOr))))] })] [.ev 0,.ev 1,.pf (Eq.refl sv1.1.length),.pf (Eq.refl sv1.1.length),.pf (zch (sz:=5) (e:=TOr.e) (l:=sv1.1) (off:=(0+(sv1.2.1).toNat)) (n:=(sv1.1.length-(sv1.2.1).toNat)) (z:=(⟨0,0,0,0,false⟩:TOr)))] <|
.cst (A:=True) (.pf trivial) [(0,(AV.ref 0 sv1.1.length 0 sv1.1.length)),(5,(vi sv1.2.1))] [(0,(AV.ref 0 ((clearL sv1.1 (0+(sv1.2.1).toNat) (sv1.1.length-(sv1.2.1).toNat) (⟨0,0,0,0,false⟩:TOr)).length) 0 ((clearL sv1.1 (0+(sv1.2.1).toNat) (sv1.1.length-(sv1.2.1).toNat) (⟨0,0,0,0,false⟩:TOr)).length))),(5,(vi sv1.2.1))] [(eS 5 TOr.e (clearL sv1.1 (0+(sv1.2.1).toNat) (sv1.1.length-(sv1.2.1).toNat) (⟨0,0,0,0,false⟩:TOr))),(Ob.box (vi p1))] [(eS 5 TOr.e (clearL sv1.1 (0+(sv1.2.1).toNat) (sv1.1.length-(sv1.2.1).toNat) (⟨0,0,0,0,false⟩:TOr))),(Ob.box (vi p1))] (fun _=>⟨by simp only[z1m],by rfl⟩) <|
.guard [(sv1.2.1).toNat≤(clearL sv1.1 (0+(sv1.2.1).toNat) (sv1.1.length-(sv1.2.1).toNat) (⟨0,0,0,0,false⟩:TOr)).length] <|
.reg 12 [] [] [.ev 1,.ev 0,.pf (Eq.refl ((clearL sv1.1 (0+(sv1.2.1).toNat) (sv1.1.length-(sv1.2.1).toNat) (⟨0,0,0,0,false⟩:TOr)).length))] <|
.guard [(clearL sv1.1 (0+(sv1.2.1).toNat) (sv1.1.length-(sv1.2.1).toNat) (⟨0,0,0,0,false⟩:TOr)).length<2 ^ 63] <|
.frz 0 (.ev 0) (some (.der (fun (h:(sv1.2.1).toNat≤(clearL sv1.1 (0+(sv1.2.1).toNat) (sv1.1.length-(sv1.2.1).toNat) (⟨0,0,0,0,false⟩:TOr)).length)=>(Nat.le_trans (Nat.sub_le _ _) h:((sv1.2.1).toNat-0)≤(clearL sv1.1 (0+(sv1.2.1).toNat) (sv1.1.length-(sv1.2.1).toNat) (⟨0,0,0,0,false⟩:TOr)).length)) 1)) [4] [] <|
.lev 4 (AV.d (eL TOr.e ((clearL sv1.1 (0+(sv1.2.1).toNat) (sv1.1.length-(sv1.2.1).toNat) (⟨0,0,0,0,false⟩:TOr)).take ((sv1.2.1).toNat)))) (.der (fun (h:(sv1.2.1).toNat≤(clearL sv1.1 (0+(sv1.2.1).toNat) (sv1.1.length-(sv1.2.1).toNat) (⟨0,0,0,0,false⟩:TOr)).length)=>lvT TOr.e (clearL sv1.1 (0+(sv1.2.1).toNat) (sv1.1.length-(sv1.2.1).toNat) (⟨0,0,0,0,false⟩:TOr)) h) 1) <|
.ret [] ((clearL sv1.1 (0+(sv1.2.1).toNat) (sv1.1.length-(sv1.2.1).toNat) (⟨0,0,0,0,false⟩:TOr)).take ((sv1.2.1).toNat))) id)
def F_q1b (p0:(List TOr)) (p1:Int):Option R_q1b:=(S_q1b p0 p1).den
theorem F_q1b_ok {p0:(List TOr)} {p1:Int} (r:R_q1b) (h:F_q1b p0 p1=some r):CallOk Tryz.prog 214 [(AV.ref 0 p0.length 0 p0.length),(AV.fn 216 [(vp 1)])] [(eS 5 TOr.e p0),(Ob.box (vi p1))] (V_q1b r) (L_q1b p1 r):=fOk (s:=S_q1b p0 p1) Tryz.func214 rfl (by kernel_rfl) h
abbrev R_q40:=(List TOr)
def V_q40 (x:R_q40):AV:=(AV.d (eL TOr.e x))
def L_q40 (_:R_q40):List Ob:=[]
def S_q40 (a0:TBo) (a1:Int):Scr Tryz.prog R_q40 R_q40 :=
.call (@F_q3z_ok a0.Orders) fun rv1 cv1 =>
.call (@F_q1b_ok rv1 a1) fun rv2 cv2 =>
.reg 1 [] [(2,hc cv1 [] false),(4,hc cv2 [2,1] false)] [.cl 1 cv1 [] 2 false,.cl 0 cv2 [2,1] 3 false] <|
.ret [] rv2
def F_q40 (a0:TBo) (a1:Int):Option R_q40:=(S_q40 a0 a1).den
theorem F_q40_ok {a0:TBo} {a1:Int} (r:R_q40) (h:F_q40 a0 a1=some r):CallOk Tryz.prog 194 [(AV.d (TBo.e a0)),(vi a1)] [] (V_q40 r) (L_q40 r):=fOk (s:=S_q40 a0 a1) Tryz.func194 rfl (by kernel_rfl) h
abbrev R_q4m:=Bool
def V_q4m (x:R_q4m):AV:=(vb x)
def L_q4m (p0:TOr) (_:R_q4m):List Ob:=[(bx (TOr.e p0))]
def S_q4m (a0:TOr) (p0:TOr):Scr Tryz.prog R_q4m R_q4m :=
.ret [] (bif (!a0.Back) then true else (decide (a0.Day>p0.Day)))
def F_q4m (a0:TOr) (p0:TOr):Option R_q4m:=(S_q4m a0 p0).den
theorem F_q4m_ok {a0:TOr} {p0:TOr} (r:R_q4m) (h:F_q4m a0 p0=some r):CallOk Tryz.prog 195 [(AV.d (TOr.e a0)),(vp 0)] [(bx (TOr.e p0))] (V_q4m r) (L_q4m p0 r):=fOk (s:=S_q4m a0 p0) Tryz.func195 rfl (by kernel_rfl) h
abbrev R_q1w:=Int
def V_q1w (x:R_q1w):AV:=(vi x)
def L_q1w (p0:TOr) (_:R_q1w):List Ob:=[(bx (TOr.e p0))]
def S_q1w_b1 (a0:(List TOr)) (p0:TOr) (iv1:Nat) (_:Unit):Scr Tryz.prog R_q1w (Step (Unit) R_q1w) :=
.call (@F_q4m_ok (a0.getD iv1 default) p0) fun rv2 cv2 =>
.reg 4 [] [(5,hc cv2 [0] true)] [.pf (nn iv1),.ev 1,.cl 0 cv2 [0] 1 true] <|
.ite rv2 (
.ret [] (.ret (iv1:Int))) (
.ret [] (.cont ()))
def S_q1w (a0:(List TOr)) (p0:TOr):Scr Tryz.prog R_q1w R_q1w :=
.range (a0.length:Int) a0.length rfl (.slot 0) 8 [0,1,7] (fun (_:Unit)=>[]) (fun (_:Unit)=>[]) () (S_q1w_b1 a0 p0) (fun (_:Unit) => 
.ret [] (-1)) id
def F_q1w (a0:(List TOr)) (p0:TOr):Option R_q1w:=(S_q1w a0 p0).den
theorem F_q1w_ok {a0:(List TOr)} {p0:TOr} (r:R_q1w) (h:F_q1w a0 p0=some r):CallOk Tryz.prog 130 [(AV.d (eL TOr.e a0)),(AV.fn 195 [(vp 0)])] [(bx (TOr.e p0))] (V_q1w r) (L_q1w p0 r):=fOk (s:=S_q1w a0 p0) Tryz.func130 rfl (by kernel_rfl) h
abbrev R_q41:=Bool
def V_q41 (x:R_q41):AV:=(vb x)
def L_q41 (p0:TOr) (_:R_q41):List Ob:=[(bx (TOr.e p0))]
def S_q41 (a0:(List TOr)) (p0:TOr):Scr Tryz.prog R_q41 R_q41 :=
.call (@F_q1w_ok a0 p0) fun rv1 cv1 =>
.reg 1 [] [(2,hc cv1 [0] true)] [.cl 0 cv1 [0] 1 true] <|
.ret [] (decide (rv1≥0))
def F_q41 (a0:(List TOr)) (p0:TOr):Option R_q41:=(S_q41 a0 p0).den
theorem F_q41_ok {a0:(List TOr)} {p0:TOr} (r:R_q41) (h:F_q41 a0 p0=some r):CallOk Tryz.prog 196 [(AV.d (eL TOr.e a0)),(AV.fn 195 [(vp 0)])] [(bx (TOr.e p0))] (V_q41 r) (L_q41 p0 r):=fOk (s:=S_q41 a0 p0) Tryz.func196 rfl (by kernel_rfl) h
abbrev R_q3f:=Bool
def V_q3f (x:R_q3f):AV:=(vb x)
def L_q3f (_:R_q3f):List Ob:=[]
def S_q3f (a0:TBo) (a1:Int):Scr Tryz.prog R_q3f R_q3f :=
.guard [(0:Int)≤a1,(a1).toNat<a0.Orders.length] <|
.reg 1 [] [] [.ev 0,.ev 1] <|
.calld [(((a0.Orders.getD ((a1).toNat) default).Number) != (IntKind.i64.wrap (a1+1)))=false] default (@F_qx_ok ((a0.Orders.getD ((a1).toNat) default).Verification) 1 (a0.Verifications.length:Int)) fun rv1 cv1 =>
.reg 2 [] [(11,hc cv1 [] true)] [.clg 0 [(((a0.Orders.getD ((a1).toNat) default).Number) != (IntKind.i64.wrap (a1+1)))=false] cv1 [] 2 true] <|
.ite (bif (((a0.Orders.getD ((a1).toNat) default).Number) != (IntKind.i64.wrap (a1+1))) then true else (!rv1)) (
.ret [] false) (
.guard [(0:Int)≤(IntKind.i64.wrap (((a0.Orders.getD ((a1).toNat) default).Verification)-1)),((IntKind.i64.wrap (((a0.Orders.getD ((a1).toNat) default).Verification)-1))).toNat<a0.Verifications.length] <|
.reg 4 [] [] [.ev 0,.ev 1] <|
.call (@F_q40_ok (⟨[],[],[],(a0.Orders.take ((a1).toNat))⟩:TBo) ((a0.Orders.getD ((a1).toNat) default).Verification)) fun rv2 cv2 =>
.guard [(a1).toNat≤a0.Orders.length] <|
.reg 5 [] [(3,hv (AV.d (eL TOr.e (a0.Orders.take ((a1).toNat))))),(4,hv (AV.d (TBo.e (⟨[],[],[],(a0.Orders.take ((a1).toNat))⟩:TBo)))),(7,hc cv2 [] true)] [.ev 7,.ev 0,.der (fun (h0:(a1).toNat≤a0.Orders.length)=>lvT TOr.e a0.Orders h0) 0,.pf (p:=LeV (AV.d (DV.agg [Z0,Z0,Z0,(eL TOr.e (a0.Orders.take ((a1).toNat)))])) (AV.d (TBo.e (⟨[],[],[],(a0.Orders.take ((a1).toNat))⟩:TBo)))) (z3p rfl (DLe.agg (DLeL.cons DLe.sl0 (DLeL.cons DLe.sl0 (DLeL.cons DLe.sl0 (DLeL.cons (DLe.refl _) DLeL.nil)))))),.cl 1 cv2 [] 3 true] <|
.call (@F_q29_ok ((a0.Orders.getD ((a1).toNat) default).Day)) fun rv3 cv3 =>
.calld [(bif rv3 then (decide (((a0.Orders.getD ((a1).toNat) default).Day)≥((a0.Verifications.getD (((IntKind.i64.wrap (((a0.Orders.getD ((a1).toNat) default).Verification)-1))).toNat) default).Day))) else false)=true] default (@F_q2a_ok ((a0.Orders.getD ((a1).toNat) default).Day)) fun rv4 cv4 =>
.calld [(bif rv3 then (decide (((a0.Orders.getD ((a1).toNat) default).Day)≥((a0.Verifications.getD (((IntKind.i64.wrap (((a0.Orders.getD ((a1).toNat) default).Verification)-1))).toNat) default).Day))) else false)=true] default (@F_q2i_ok a0 (a0.Commitments.getD (((IntKind.i64.wrap (((a0.Verifications.getD (((IntKind.i64.wrap (((a0.Orders.getD ((a1).toNat) default).Verification)-1))).toNat) default).Commitment)-1))).toNat) default)) fun rv5 cv5 =>
.calld [(bif (bif (bif rv3 then (decide (((a0.Orders.getD ((a1).toNat) default).Day)≥((a0.Verifications.getD (((IntKind.i64.wrap (((a0.Orders.getD ((a1).toNat) default).Verification)-1))).toNat) default).Day))) else false) then (decide (rv4≤(IntKind.i64.wrap (rv5+1)))) else false) then (((a0.Orders.getD ((a1).toNat) default).Attempt)==(IntKind.i64.wrap ((rv2.length:Int)+1))) else false)=true] default (@F_q41_ok rv2 (a0.Orders.getD ((a1).toNat) default)) fun rv6 cv6 =>
.guard [AllP [(bif rv3 then (decide (((a0.Orders.getD ((a1).toNat) default).Day)≥((a0.Verifications.getD (((IntKind.i64.wrap (((a0.Orders.getD ((a1).toNat) default).Verification)-1))).toNat) default).Day))) else false)=true]→((0:Int)≤(IntKind.i64.wrap (((a0.Verifications.getD (((IntKind.i64.wrap (((a0.Orders.getD ((a1).toNat) default).Verification)-1))).toNat) default).Commitment)-1))),AllP [(bif rv3 then (decide (((a0.Orders.getD ((a1).toNat) default).Day)≥((a0.Verifications.getD (((IntKind.i64.wrap (((a0.Orders.getD ((a1).toNat) default).Verification)-1))).toNat) default).Day))) else false)=true]→(((IntKind.i64.wrap (((a0.Verifications.getD (((IntKind.i64.wrap (((a0.Orders.getD ((a1).toNat) default).Verification)-1))).toNat) default).Commitment)-1))).toNat<a0.Commitments.length)] <|
.reg 7 [] [(2,hc cv3 [] true),(13,hc cv4 [] true),(22,hc cv5 [] true),(37,hc cv6 [1] true)] [.cl 8 cv3 [] 3 true,.clg 6 [(bif rv3 then (decide (((a0.Orders.getD ((a1).toNat) default).Day)≥((a0.Verifications.getD (((IntKind.i64.wrap (((a0.Orders.getD ((a1).toNat) default).Verification)-1))).toNat) default).Day))) else false)=true] cv4 [] 3 true,.ev 0,.ev 1,.clg 4 [(bif rv3 then (decide (((a0.Orders.getD ((a1).toNat) default).Day)≥((a0.Verifications.getD (((IntKind.i64.wrap (((a0.Orders.getD ((a1).toNat) default).Verification)-1))).toNat) default).Day))) else false)=true] cv5 [] 3 true,.clg 2 [(bif (bif (bif rv3 then (decide (((a0.Orders.getD ((a1).toNat) default).Day)≥((a0.Verifications.getD (((IntKind.i64.wrap (((a0.Orders.getD ((a1).toNat) default).Verification)-1))).toNat) default).Day))) else false) then (decide (rv4≤(IntKind.i64.wrap (rv5+1)))) else false) then (((a0.Orders.getD ((a1).toNat) default).Attempt)==(IntKind.i64.wrap ((rv2.length:Int)+1))) else false)=true] cv6 [1] 3 true] <|
.ret [] (bif (bif (bif (bif rv3 then (decide (((a0.Orders.getD ((a1).toNat) default).Day)≥((a0.Verifications.getD (((IntKind.i64.wrap (((a0.Orders.getD ((a1).toNat) default).Verification)-1))).toNat) default).Day))) else false) then (decide (rv4≤(IntKind.i64.wrap (rv5+1)))) else false) then (((a0.Orders.getD ((a1).toNat) default).Attempt)==(IntKind.i64.wrap ((rv2.length:Int)+1))) else false) then (!rv6) else false))
def F_q3f (a0:TBo) (a1:Int):Option R_q3f:=(S_q3f a0 a1).den
theorem F_q3f_ok {a0:TBo} {a1:Int} (r:R_q3f) (h:F_q3f a0 a1=some r):CallOk Tryz.prog 164 [(AV.d (TBo.e a0)),(vi a1)] [] (V_q3f r) (L_q3f r):=fOk (s:=S_q3f a0 a1) Tryz.func164 rfl (by kernel_rfl) h
abbrev R_q2k:=Bool
def V_q2k (x:R_q2k):AV:=(vb x)
def L_q2k (_:R_q2k):List Ob:=[]
def S_q2k_b1 (a0:TBo) (iv1:Nat) (_:Unit):Scr Tryz.prog R_q2k (Step (Unit) R_q2k) :=
.call (@F_q3f_ok a0 (iv1:Int)) fun rv2 cv2 =>
.reg 4 [] [(3,hc cv2 [] true)] [.cl 0 cv2 [] 1 true] <|
.ite (!rv2) (
.ret [] (.ret false)) (
.ret [] (.cont ()))
def S_q2k (a0:TBo) (a1:Int):Scr Tryz.prog R_q2k R_q2k :=
.guard [(a1).toNat<2 ^ 63] <|
.range a1 ((a1).toNat) rfl (.why (.ev 0)) 9 [1,2,3,8] (fun (_:Unit)=>[]) (fun (_:Unit)=>[]) () (S_q2k_b1 a0) (fun (_:Unit) => 
.ret [] (decide (a1≤200))) id
def F_q2k (a0:TBo) (a1:Int):Option R_q2k:=(S_q2k a0 a1).den
theorem F_q2k_ok {a0:TBo} {a1:Int} (r:R_q2k) (h:F_q2k a0 a1=some r):CallOk Tryz.prog 160 [(AV.d (TBo.e a0)),(vi a1),(AV.fn 164 [])] [] (V_q2k r) (L_q2k r):=fOk (s:=S_q2k a0 a1) Tryz.func160 rfl (by kernel_rfl) h
abbrev R_q42:=Bool
def V_q42 (x:R_q42):AV:=(vb x)
def L_q42 (_:R_q42):List Ob:=[]
def S_q42 (a0:TBo):Scr Tryz.prog R_q42 R_q42 :=
.call (@F_q2g_ok a0 (a0.Reservations.length:Int)) fun rv1 cv1 =>
.calld [rv1=true] default (@F_q2h_ok a0 (a0.Commitments.length:Int)) fun rv2 cv2 =>
.calld [(bif rv1 then rv2 else false)=true] default (@F_q2j_ok a0 (a0.Verifications.length:Int)) fun rv3 cv3 =>
.calld [(bif (bif rv1 then rv2 else false) then rv3 else false)=true] default (@F_q2k_ok a0 (a0.Orders.length:Int)) fun rv4 cv4 =>
.reg 1 [] [(4,hc cv1 [] true),(10,hc cv2 [] true),(17,hc cv3 [] true),(24,hc cv4 [] true)] [.cl 6 cv1 [] 1 true,.clg 4 [rv1=true] cv2 [] 1 true,.clg 2 [(bif rv1 then rv2 else false)=true] cv3 [] 1 true,.clg 0 [(bif (bif rv1 then rv2 else false) then rv3 else false)=true] cv4 [] 1 true] <|
.ret [] (bif (bif (bif rv1 then rv2 else false) then rv3 else false) then rv4 else false)
def F_q42 (a0:TBo):Option R_q42:=(S_q42 a0).den
theorem F_q42_ok {a0:TBo} (r:R_q42) (h:F_q42 a0=some r):CallOk Tryz.prog 148 [(AV.d (TBo.e a0))] [] (V_q42 r) (L_q42 r):=fOk (s:=S_q42 a0) Tryz.func148 rfl (by kernel_rfl) h
abbrev R_q31:=Bool
def V_q31 (x:R_q31):AV:=(vb x)
def L_q31 (_:R_q31):List Ob:=[]
def S_q31 (a0:Int) (a1:Int) (a2:Int):Scr Tryz.prog R_q31 R_q31 :=
.ret [] (bif (decide (a0≥a1)) then (decide (a0≤a2)) else false)
def F_q31 (a0:Int) (a1:Int) (a2:Int):Option R_q31:=(S_q31 a0 a1 a2).den
theorem F_q31_ok {a0:Int} {a1:Int} {a2:Int} (r:R_q31) (h:F_q31 a0 a1 a2=some r):CallOk Tryz.prog 167 [(vi a0),(vi a1),(vi a2)] [] (V_q31 r) (L_q31 r):=fOk (s:=S_q31 a0 a1 a2) Tryz.func167 rfl (by kernel_rfl) h
abbrev R_q4n:=Bool
def V_q4n (x:R_q4n):AV:=(vb x)
def L_q4n (_:R_q4n):List Ob:=[]
def S_q4n (a0:List UInt8) (a1:Int):Scr Tryz.prog R_q4n R_q4n :=
.call (@F_q52_ok a0) fun rv1 cv1 =>
.calld [(decide ((rv1.length:Int)>0))=true] default (@F_q31_ok a1 0 99) fun rv2 cv2 =>
.reg 1 [] [(1,hc cv1 [] true),(6,hc cv2 [] true)] [.cl 2 cv1 [] 0 true,.clg 0 [(decide ((rv1.length:Int)>0))=true] cv2 [] 0 true] <|
.ret [] (bif (decide ((rv1.length:Int)>0)) then rv2 else false)
def F_q4n (a0:List UInt8) (a1:Int):Option R_q4n:=(S_q4n a0 a1).den
theorem F_q4n_ok {a0:List UInt8} {a1:Int} (r:R_q4n) (h:F_q4n a0 a1=some r):CallOk Tryz.prog 165 [(AV.d (DV.str a0)),(vi a1)] [] (V_q4n r) (L_q4n r):=fOk (s:=S_q4n a0 a1) Tryz.func165 rfl (by kernel_rfl) h
abbrev R_q3g:=Bool
def V_q3g (x:R_q3g):AV:=(vb x)
def L_q3g (_:R_q3g):List Ob:=[]
def S_q3g (a0:Int):Scr Tryz.prog R_q3g R_q3g :=
.call (@F_q31_ok a0 0 1000000000000000) fun rv1 cv1 =>
.reg 1 [] [(1,hc cv1 [] true)] [.cl 0 cv1 [] 0 true] <|
.ret [] rv1
def F_q3g (a0:Int):Option R_q3g:=(S_q3g a0).den
theorem F_q3g_ok {a0:Int} (r:R_q3g) (h:F_q3g a0=some r):CallOk Tryz.prog 166 [(vi a0)] [] (V_q3g r) (L_q3g r):=fOk (s:=S_q3g a0) Tryz.func166 rfl (by kernel_rfl) h
abbrev R_q43:=Bool
def V_q43 (x:R_q43):AV:=(vb x)
def L_q43 (_:R_q43):List Ob:=[]
def S_q43 (a0:TRi):Scr Tryz.prog R_q43 R_q43 :=
.call (@F_q4n_ok a0.Code a0.Year) fun rv1 cv1 =>
.calld [rv1=true] default (@F_q3g_ok a0.Granted) fun rv2 cv2 =>
.calld [(bif rv1 then rv2 else false)=true] default (@F_q3g_ok a0.Asked) fun rv3 cv3 =>
.calld [(bif (bif rv1 then rv2 else false) then rv3 else false)=true] default (@F_q31_ok a0.Returned 0 a0.Granted) fun rv4 cv4 =>
.reg 1 [] [(4,hc cv1 [] true),(8,hc cv2 [] true),(13,hc cv3 [] true),(20,hc cv4 [] true)] [.cl 6 cv1 [] 1 true,.clg 4 [rv1=true] cv2 [] 1 true,.clg 2 [(bif rv1 then rv2 else false)=true] cv3 [] 1 true,.clg 0 [(bif (bif rv1 then rv2 else false) then rv3 else false)=true] cv4 [] 1 true] <|
.ret [] (bif (bif (bif rv1 then rv2 else false) then rv3 else false) then rv4 else false)
def F_q43 (a0:TRi):Option R_q43:=(S_q43 a0).den
theorem F_q43_ok {a0:TRi} (r:R_q43) (h:F_q43 a0=some r):CallOk Tryz.prog 149 [(AV.d (TRi.e a0))] [] (V_q43 r) (L_q43 r):=fOk (s:=S_q43 a0) Tryz.func149 rfl (by kernel_rfl) h
abbrev R_q44:=Bool
def V_q44 (x:R_q44):AV:=(vb x)
def L_q44 (_:R_q44):List Ob:=[]
def S_q44 (a0:List UInt8):Scr Tryz.prog R_q44 R_q44 :=
.ret [] (!(a0==a0))
def F_q44 (a0:List UInt8):Option R_q44:=(S_q44 a0).den
theorem F_q44_ok {a0:List UInt8} (r:R_q44) (h:F_q44 a0=some r):CallOk Tryz.prog 217 [(AV.d (DV.str a0))] [] (V_q44 r) (L_q44 r):=fOk (s:=S_q44 a0) Tryz.func217 rfl (by kernel_rfl) h
abbrev R_q4o:=Int
def V_q4o (x:R_q4o):AV:=(vi x)
def L_q4o (_:R_q4o):List Ob:=[]
def S_q4o (a0:List UInt8) (a1:List UInt8):Scr Tryz.prog R_q4o R_q4o :=
.call (@F_q44_ok a0) fun rv1 cv1 =>
.reg 1 [] [(1,hc cv1 [] true)] [.cl 0 cv1 [] 0 true] <|
.call (@F_q44_ok a1) fun rv2 cv2 =>
.reg 2 [] [(1,hc cv2 [] true)] [.cl 0 cv2 [] 0 true] <|
.ite rv1 (
.ite rv2 (
.ret [] 0) (
.ret [] (-1))) (
.ite rv2 (
.ret [] 1) (
.ite (Op.bytesLess a0 a1) (
.ret [] (-1)) (
.ite (!(Op.bytesLess a0 a1||a0==a1)) (
.ret [] 1) (
.ret [] 0))))
def F_q4o (a0:List UInt8) (a1:List UInt8):Option R_q4o:=(S_q4o a0 a1).den
theorem F_q4o_ok {a0:List UInt8} {a1:List UInt8} (r:R_q4o) (h:F_q4o a0 a1=some r):CallOk Tryz.prog 197 [(AV.d (DV.str a0)),(AV.d (DV.str a1))] [] (V_q4o r) (L_q4o r):=fOk (s:=S_q4o a0 a1) Tryz.func197 rfl (by kernel_rfl) h
abbrev R_q45:=Bool
def V_q45 (x:R_q45):AV:=(vb x)
def L_q45 (_:R_q45):List Ob:=[]
def S_q45 (a0:Int):Scr Tryz.prog R_q45 R_q45 :=
.ret [] (a0 != a0)
def F_q45 (a0:Int):Option R_q45:=(S_q45 a0).den
theorem F_q45_ok {a0:Int} (r:R_q45) (h:F_q45 a0=some r):CallOk Tryz.prog 156 [(vi a0)] [] (V_q45 r) (L_q45 r):=fOk (s:=S_q45 a0) Tryz.func156 rfl (by kernel_rfl) h
abbrev R_q32:=Int
def V_q32 (x:R_q32):AV:=(vi x)
def L_q32 (_:R_q32):List Ob:=[]
def S_q32 (a0:Int) (a1:Int):Scr Tryz.prog R_q32 R_q32 :=
.call (@F_q45_ok a0) fun rv1 cv1 =>
.reg 1 [] [(1,hc cv1 [] true)] [.cl 0 cv1 [] 0 true] <|
.call (@F_q45_ok a1) fun rv2 cv2 =>
.reg 2 [] [(1,hc cv2 [] true)] [.cl 0 cv2 [] 0 true] <|
.ite rv1 (
.ite rv2 (
.ret [] 0) (
.ret [] (-1))) (
.ite rv2 (
.ret [] 1) (
.ite (decide (a0<a1)) (
.ret [] (-1)) (
.ite (decide (a0>a1)) (
.ret [] 1) (
.ret [] 0))))
def F_q32 (a0:Int) (a1:Int):Option R_q32:=(S_q32 a0 a1).den
theorem F_q32_ok {a0:Int} {a1:Int} (r:R_q32) (h:F_q32 a0 a1=some r):CallOk Tryz.prog 137 [(vi a0),(vi a1)] [] (V_q32 r) (L_q32 r):=fOk (s:=S_q32 a0 a1) Tryz.func137 rfl (by kernel_rfl) h
abbrev R_q1m:=Int
def V_q1m (x:R_q1m):AV:=(vi x)
def L_q1m (_:R_q1m):List Ob:=[]
def S_q1m_b1 (a0:(List Int)) (a1:(List Int)) (iv1:Nat) (_:Unit):Scr Tryz.prog R_q1m (Step (Unit) R_q1m) :=
.reg 3 [] [] [.pf (nn iv1),.ev 0] <|
.ite (decide ((iv1:Int)≥(a1.length:Int))) (
.ret [] (.ret 1)) (
.guard [iv1<a1.length] <|
.reg 6 [] [] [.pf (nn iv1),.ev 0] <|
.call (@F_q32_ok (a0.getD iv1 default) (a1.getD iv1 default)) fun rv2 cv2 =>
.reg 7 [] [(2,hc cv2 [] true)] [.cl 0 cv2 [] 0 true] <|
.ite (rv2 != 0) (
.ret [] (.ret rv2)) (
.ret [] (.cont ())))
def S_q1m (a0:(List Int)) (a1:(List Int)):Scr Tryz.prog R_q1m R_q1m :=
.range (a0.length:Int) a0.length rfl (.slot 0) 11 [0,1,9,10] (fun (_:Unit)=>[]) (fun (_:Unit)=>[]) () (S_q1m_b1 a0 a1) (fun (_:Unit) => 
.ite (decide ((a0.length:Int)<(a1.length:Int))) (
.ret [] (-1)) (
.ret [] 0)) id
def F_q1m (a0:(List Int)) (a1:(List Int)):Option R_q1m:=(S_q1m a0 a1).den
theorem F_q1m_ok {a0:(List Int)} {a1:(List Int)} (r:R_q1m) (h:F_q1m a0 a1=some r):CallOk Tryz.prog 198 [(vl a0),(vl a1)] [] (V_q1m r) (L_q1m r):=fOk (s:=S_q1m a0 a1) Tryz.func198 rfl (by kernel_rfl) h
abbrev R_q46:=Int
def V_q46 (x:R_q46):AV:=(vi x)
def L_q46 (_:R_q46):List Ob:=[]
def S_q46 (a0:List UInt8) (a1:List UInt8):Scr Tryz.prog R_q46 R_q46 :=
.call (@F_q52_ok a0) fun rv1 cv1 =>
.call (@F_q52_ok a1) fun rv2 cv2 =>
.reg 1 [] [(1,hc cv1 [] true),(3,hc cv2 [] true)] [.cl 1 cv1 [] 0 true,.cl 0 cv2 [] 0 true] <|
.ite (bif ((rv1.length:Int)==0) then ((rv2.length:Int)==0) else false) (
.call (@F_q4o_ok a0 a1) fun rv3 cv3 =>
.reg 3 [] [(2,hc cv3 [] true)] [.cl 0 cv3 [] 0 true] <|
.ret [] rv3) (
.call (@F_q1m_ok rv1 rv2) fun rv4 cv4 =>
.reg 4 [] [(2,hc cv4 [] true)] [.cl 0 cv4 [] 0 true] <|
.ret [] rv4)
def F_q46 (a0:List UInt8) (a1:List UInt8):Option R_q46:=(S_q46 a0 a1).den
theorem F_q46_ok {a0:List UInt8} {a1:List UInt8} (r:R_q46) (h:F_q46 a0 a1=some r):CallOk Tryz.prog 169 [(AV.d (DV.str a0)),(AV.d (DV.str a1))] [] (V_q46 r) (L_q46 r):=fOk (s:=S_q46 a0 a1) Tryz.func169 rfl (by kernel_rfl) h
abbrev R_q2b:=Int
def V_q2b (x:R_q2b):AV:=(vi x)
def L_q2b (_:R_q2b):List Ob:=[]
def S_q2b_b1 (a0:(List Int)) (iv1:Nat) (_:Unit):Scr Tryz.prog R_q2b (Step (Unit) R_q2b) :=
.reg 4 [] [] [.pf (nn iv1),.ev 0] <|
.ite ((a0.getD iv1 default) != 0) (
.ret [] (.ret (a0.getD iv1 default))) (
.ret [] (.cont ()))
def S_q2b (a0:(List Int)):Scr Tryz.prog R_q2b R_q2b :=
.range (a0.length:Int) a0.length rfl (.slot 6) 8 [3,6,7] (fun (_:Unit)=>[]) (fun (_:Unit)=>[]) () (S_q2b_b1 a0) (fun (_:Unit) => 
.ret [] 0) id
def F_q2b (a0:(List Int)):Option R_q2b:=(S_q2b a0).den
theorem F_q2b_ok {a0:(List Int)} (r:R_q2b) (h:F_q2b a0=some r):CallOk Tryz.prog 168 [(vl a0)] [] (V_q2b r) (L_q2b r):=fOk (s:=S_q2b a0) Tryz.func168 rfl (by kernel_rfl) h
abbrev R_q47:=Int
def V_q47 (x:R_q47):AV:=(vi x)
def L_q47 (_:R_q47):List Ob:=[]
def S_q47 (a0:TRi) (a1:TRi):Scr Tryz.prog R_q47 R_q47 :=
.call (@F_q46_ok a0.Code a1.Code) fun rv1 cv1 =>
.call (@F_q32_ok a0.Year a1.Year) fun rv2 cv2 =>
.call (@F_q2b_ok ([rv1,rv2]:List Int)) fun rv3 cv3 =>
.reg 1 [] [(4,hc cv1 [] true),(9,hc cv2 [] true),(10,hv (vl ([rv1,rv2]:List Int))),(11,hc cv3 [] true)] [.cl 2 cv1 [] 2 true,.cl 1 cv2 [] 2 true,.pf (zd (DV.i .i64) ([rv1,rv2]:List Int)),.cl 0 cv3 [] 2 true] <|
.ret [] rv3
def F_q47 (a0:TRi) (a1:TRi):Option R_q47:=(S_q47 a0 a1).den
theorem F_q47_ok {a0:TRi} {a1:TRi} (r:R_q47) (h:F_q47 a0 a1=some r):CallOk Tryz.prog 150 [(AV.d (TRi.e a0)),(AV.d (TRi.e a1))] [] (V_q47 r) (L_q47 r):=fOk (s:=S_q47 a0 a1) Tryz.func150 rfl (by kernel_rfl) h
abbrev R_q4p:=Bool
def V_q4p (x:R_q4p):AV:=(vb x)
def L_q4p (p0:List UInt8) (p1:Int) (_:R_q4p):List Ob:=[(bx (DV.str p0)),(Ob.box (vi p1))]
def S_q4p (a0:TRi) (p0:List UInt8) (p1:Int):Scr Tryz.prog R_q4p R_q4p :=
.ret [] (bif (a0.Code==p0) then (a0.Year==p1) else false)
def F_q4p (a0:TRi) (p0:List UInt8) (p1:Int):Option R_q4p:=(S_q4p a0 p0 p1).den
theorem F_q4p_ok {a0:TRi} {p0:List UInt8} {p1:Int} (r:R_q4p) (h:F_q4p a0 p0 p1=some r):CallOk Tryz.prog 200 [(AV.d (TRi.e a0)),(vp 0),(vp 1)] [(bx (DV.str p0)),(Ob.box (vi p1))] (V_q4p r) (L_q4p p0 p1 r):=fOk (s:=S_q4p a0 p0 p1) Tryz.func200 rfl (by kernel_rfl) h
abbrev R_q2c:=Int
def V_q2c (x:R_q2c):AV:=(vi x)
def L_q2c (p0:List UInt8) (p1:Int) (_:R_q2c):List Ob:=[(bx (DV.str p0)),(Ob.box (vi p1))]
def S_q2c_b1 (a0:(List TRi)) (p0:List UInt8) (p1:Int) (iv1:Nat) (_:Unit):Scr Tryz.prog R_q2c (Step (Unit) R_q2c) :=
.call (@F_q4p_ok (a0.getD iv1 default) p0 p1) fun rv2 cv2 =>
.reg 4 [] [(5,hc cv2 [0,1] true)] [.pf (nn iv1),.ev 1,.cl 0 cv2 [0,1] 2 true] <|
.ite rv2 (
.ret [] (.ret (iv1:Int))) (
.ret [] (.cont ()))
def S_q2c (a0:(List TRi)) (p0:List UInt8) (p1:Int):Scr Tryz.prog R_q2c R_q2c :=
.range (a0.length:Int) a0.length rfl (.slot 0) 8 [0,1,7] (fun (_:Unit)=>[]) (fun (_:Unit)=>[]) () (S_q2c_b1 a0 p0 p1) (fun (_:Unit) => 
.ret [] (-1)) id
def F_q2c (a0:(List TRi)) (p0:List UInt8) (p1:Int):Option R_q2c:=(S_q2c a0 p0 p1).den
theorem F_q2c_ok {a0:(List TRi)} {p0:List UInt8} {p1:Int} (r:R_q2c) (h:F_q2c a0 p0 p1=some r):CallOk Tryz.prog 199 [(AV.d (eL TRi.e a0)),(AV.fn 200 [(vp 0),(vp 1)])] [(bx (DV.str p0)),(Ob.box (vi p1))] (V_q2c r) (L_q2c p0 p1 r):=fOk (s:=S_q2c a0 p0 p1) Tryz.func199 rfl (by kernel_rfl) h
abbrev R_q3h:=Int
def V_q3h (x:R_q3h):AV:=(vi x)
def L_q3h (_:R_q3h):List Ob:=[]
def S_q3h (a0:TOf) (a1:List UInt8) (a2:Int):Scr Tryz.prog R_q3h R_q3h :=
.call (@F_q2c_ok a0.Rights a1 a2) fun rv1 cv1 =>
.reg 1 [] [(3,hc cv1 [1,2] true)] [.cl 0 cv1 [1,2] 3 true] <|
.ret [] rv1
def F_q3h (a0:TOf) (a1:List UInt8) (a2:Int):Option R_q3h:=(S_q3h a0 a1 a2).den
theorem F_q3h_ok {a0:TOf} {a1:List UInt8} {a2:Int} (r:R_q3h) (h:F_q3h a0 a1 a2=some r):CallOk Tryz.prog 170 [(AV.d (TOf.e a0)),(AV.d (DV.str a1)),(vi a2)] [] (V_q3h r) (L_q3h r):=fOk (s:=S_q3h a0 a1 a2) Tryz.func170 rfl (by kernel_rfl) h
abbrev R_q48:=Bool
def V_q48 (x:R_q48):AV:=(vb x)
def L_q48 (_:R_q48):List Ob:=[]
def S_q48 (a0:TOf) (a1:List UInt8) (a2:Int):Scr Tryz.prog R_q48 R_q48 :=
.call (@F_q3h_ok a0 a1 a2) fun rv1 cv1 =>
.reg 1 [] [(3,hc cv1 [] true)] [.cl 0 cv1 [] 1 true] <|
.ret [] (decide (rv1≥0))
def F_q48 (a0:TOf) (a1:List UInt8) (a2:Int):Option R_q48:=(S_q48 a0 a1 a2).den
theorem F_q48_ok {a0:TOf} {a1:List UInt8} {a2:Int} (r:R_q48) (h:F_q48 a0 a1 a2=some r):CallOk Tryz.prog 151 [(AV.d (TOf.e a0)),(AV.d (DV.str a1)),(vi a2)] [] (V_q48 r) (L_q48 r):=fOk (s:=S_q48 a0 a1 a2) Tryz.func151 rfl (by kernel_rfl) h
abbrev R_q49:=TRi
def V_q49 (x:R_q49):AV:=(AV.d (TRi.e x))
def L_q49 (_:R_q49):List Ob:=[]
def S_q49 (a0:TOf) (a1:List UInt8) (a2:Int):Scr Tryz.prog R_q49 R_q49 :=
.call (@F_q3h_ok a0 a1 a2) fun rv1 cv1 =>
.reg 1 [] [(3,hc cv1 [] true)] [.cl 0 cv1 [] 2 true] <|
.ite (decide (rv1≥0)) (
.guard [(0:Int)≤rv1,(rv1).toNat<a0.Rights.length] <|
.reg 3 [] [] [.ev 0,.ev 1] <|
.ret [] (a0.Rights.getD ((rv1).toNat) default)) (
.ret [] (⟨a1,a2,0,0,0⟩:TRi))
def F_q49 (a0:TOf) (a1:List UInt8) (a2:Int):Option R_q49:=(S_q49 a0 a1 a2).den
theorem F_q49_ok {a0:TOf} {a1:List UInt8} {a2:Int} (r:R_q49) (h:F_q49 a0 a1 a2=some r):CallOk Tryz.prog 171 [(AV.d (TOf.e a0)),(AV.d (DV.str a1)),(vi a2)] [] (V_q49 r) (L_q49 r):=fOk (s:=S_q49 a0 a1 a2) Tryz.func171 rfl (by kernel_rfl) h
abbrev R_q1n:=Int
def V_q1n (x:R_q1n):AV:=(vi x)
def L_q1n (_:R_q1n):List Ob:=[]
def S_q1n_b1 (a0:TBo) (a1:List UInt8) (a2:Int) (iv1:Nat) (sv2:Int):Scr Tryz.prog R_q1n (Step (Int) R_q1n) :=
.reg 4 [] [] [.pf (nn iv1),.ev 0] <|
.ite (bif (((a0.Reservations.getD iv1 default).Code)==a1) then (((a0.Reservations.getD iv1 default).Year)==a2) else false) (
.call (@F_q1l_ok a0 ((a0.Reservations.getD iv1 default).Number)) fun rv3 cv3 =>
.reg 6 [] [(3,hc cv3 [] true)] [.cl 0 cv3 [] 2 true] <|
.ret [] (.cont (IntKind.i64.wrap (sv2+(IntKind.i64.wrap ((IntKind.i64.wrap (((a0.Reservations.getD iv1 default).Amount)-((a0.Reservations.getD iv1 default).Released)))-rv3.2)))))) (
.ret [] (.cont sv2))
def S_q1n (a0:TBo) (a1:List UInt8) (a2:Int):Scr Tryz.prog R_q1n R_q1n :=
.range (a0.Reservations.length:Int) a0.Reservations.length rfl (.slot 13) 15 [1,2,3,13,14] (fun (sv2:Int)=>[(7,(vi sv2))]) (fun (_:Int)=>[]) 0 (S_q1n_b1 a0 a1 a2) (fun (sv2:Int) => 
.ret [] sv2) id
def F_q1n (a0:TBo) (a1:List UInt8) (a2:Int):Option R_q1n:=(S_q1n a0 a1 a2).den
theorem F_q1n_ok {a0:TBo} {a1:List UInt8} {a2:Int} (r:R_q1n) (h:F_q1n a0 a1 a2=some r):CallOk Tryz.prog 102 [(AV.d (TBo.e a0)),(AV.d (DV.str a1)),(vi a2)] [] (V_q1n r) (L_q1n r):=fOk (s:=S_q1n a0 a1 a2) Tryz.func102 rfl (by kernel_rfl) h
abbrev R_q4a:=Int
def V_q4a (x:R_q4a):AV:=(vi x)
def L_q4a (_:R_q4a):List Ob:=[]
def S_q4a (a0:TOf) (a1:List UInt8) (a2:Int):Scr Tryz.prog R_q4a R_q4a :=
.call (@F_q49_ok a0 a1 a2) fun rv1 cv1 =>
.reg 1 [] [(3,hc cv1 [] true)] [.cl 0 cv1 [] 1 true] <|
.call (@F_q1n_ok a0.Book a1 a2) fun rv2 cv2 =>
.reg 2 [] [(9,hc cv2 [] true)] [.cl 0 cv2 [] 2 true] <|
.ret [] (IntKind.i64.wrap ((IntKind.i64.wrap (rv1.Granted-rv1.Returned))-rv2))
def F_q4a (a0:TOf) (a1:List UInt8) (a2:Int):Option R_q4a:=(S_q4a a0 a1 a2).den
theorem F_q4a_ok {a0:TOf} {a1:List UInt8} {a2:Int} (r:R_q4a) (h:F_q4a a0 a1 a2=some r):CallOk Tryz.prog 152 [(AV.d (TOf.e a0)),(AV.d (DV.str a1)),(vi a2)] [] (V_q4a r) (L_q4a r):=fOk (s:=S_q4a a0 a1 a2) Tryz.func152 rfl (by kernel_rfl) h
end
end Go.Proofs.YtclaojamgomjbaaGreatDoor
/- What the functions compute,and that their calls return it. No condition. -/
namespace Go.Proofs.YtclaojamgomjbaaGreatDoor
open Go Go.TA
noncomputable section
set_option maxRecDepth 100000
abbrev R_qg:=Bool
def V_qg (x:R_qg):AV:=(vb x)
def L_qg (_:R_qg):List Ob:=[]
def S_qg_b1 (a0:TOf) (iv1:Nat) (_:Unit):Scr Tryz.prog R_qg (Step (Unit) R_qg) :=
.reg 5 [] [] [.pf (nn iv1),.ev 0] <|
.call (@F_q43_ok (a0.Rights.getD iv1 default)) fun rv2 cv2 =>
.calld [(decide ((iv1:Int)>0))=true,(!rv2)=false] default (@F_q47_ok (a0.Rights.getD (((IntKind.i64.wrap ((iv1:Int)-1))).toNat) default) (a0.Rights.getD iv1 default)) fun rv3 cv3 =>
.guard [AllP [(decide ((iv1:Int)>0))=true,(!rv2)=false]→((0:Int)≤(IntKind.i64.wrap ((iv1:Int)-1))),AllP [(decide ((iv1:Int)>0))=true,(!rv2)=false]→(((IntKind.i64.wrap ((iv1:Int)-1))).toNat<a0.Rights.length)] <|
.reg 6 [] [(1,hc cv2 [] true),(14,hc cv3 [] true)] [.cl 4 cv2 [] 2 true,.ev 0,.ev 1,.clg 2 [(decide ((iv1:Int)>0))=true,(!rv2)=false] cv3 [] 2 true] <|
.ite (bif (!rv2) then true else (bif (decide ((iv1:Int)>0)) then (decide (rv3≥0)) else false)) (
.ret [] (.ret false)) (
.ret [] (.cont ()))
def S_qg_b2 (a0:TOf) (iv4:Nat) (_:Unit):Scr Tryz.prog R_qg (Step (Unit) R_qg) :=
.reg 11 [] [] [.pf (nn iv4),.ev 0] <|
.call (@F_q48_ok a0 ((a0.Book.Reservations.getD iv4 default).Code) ((a0.Book.Reservations.getD iv4 default).Year)) fun rv5 cv5 =>
.calld [(!rv5)=false] default (@F_q4a_ok a0 ((a0.Book.Reservations.getD iv4 default).Code) ((a0.Book.Reservations.getD iv4 default).Year)) fun rv6 cv6 =>
.reg 12 [] [(5,hc cv5 [] true),(13,hc cv6 [] true)] [.cl 2 cv5 [] 2 true,.clg 0 [(!rv5)=false] cv6 [] 2 true] <|
.ite (bif (!rv5) then true else (decide (rv6<0))) (
.ret [] (.ret false)) (
.ret [] (.cont ()))
def S_qg (a0:TOf):Scr Tryz.prog R_qg R_qg :=
.calld [(bif (bif (decide (a0.Number<1)) then true else (decide (a0.Number>6))) then true else (decide ((a0.Rights.length:Int)>60)))=false] default (@F_q42_ok a0.Book) fun rv7 cv7 =>
.reg 1 [] [(17,hc cv7 [] true)] [.clg 0 [(bif (bif (decide (a0.Number<1)) then true else (decide (a0.Number>6))) then true else (decide ((a0.Rights.length:Int)>60)))=false] cv7 [] 1 true] <|
.ite (bif (bif (bif (decide (a0.Number<1)) then true else (decide (a0.Number>6))) then true else (decide ((a0.Rights.length:Int)>60))) then true else (!rv7)) (
.ret [] false) (
.range (a0.Rights.length:Int) a0.Rights.length rfl (.slot 28) 30 [1,28,29] (fun (_:Unit)=>[]) (fun (_:Unit)=>[]) () (S_qg_b1 a0) (fun (_:Unit) => 
.range (a0.Book.Reservations.length:Int) a0.Book.Reservations.length rfl (.slot 56) 58 [1,56,57] (fun (_:Unit)=>[]) (fun (_:Unit)=>[]) () (S_qg_b2 a0) (fun (_:Unit) => 
.ret [] true) id) id)
def F_qg (a0:TOf):Option R_qg:=(S_qg a0).den
theorem F_qg_ok {a0:TOf} (r:R_qg) (h:F_qg a0=some r):CallOk Tryz.prog 129 [(AV.d (TOf.e a0))] [] (V_qg r) (L_qg r):=fOk (s:=S_qg a0) Tryz.func129 rfl (by kernel_rfl) h
abbrev R_q4q:=Bool
def V_q4q (x:R_q4q):AV:=(vb x)
def L_q4q (p0:TWa) (_:R_q4q):List Ob:=[(bx (TWa.e p0))]
def S_q4q (a0:TOr) (p0:TWa):Scr Tryz.prog R_q4q R_q4q :=
.ret [] (bif (bif (a0.Verification==p0.Verification) then (a0.Attempt==p0.Attempt) else false) then (!a0.Back) else false)
def F_q4q (a0:TOr) (p0:TWa):Option R_q4q:=(S_q4q a0 p0).den
theorem F_q4q_ok {a0:TOr} {p0:TWa} (r:R_q4q) (h:F_q4q a0 p0=some r):CallOk Tryz.prog 131 [(AV.d (TOr.e a0)),(vp 0)] [(bx (TWa.e p0))] (V_q4q r) (L_q4q p0 r):=fOk (s:=S_q4q a0 p0) Tryz.func131 rfl (by kernel_rfl) h
abbrev R_q1x:=Int
def V_q1x (x:R_q1x):AV:=(vi x)
def L_q1x (p0:TWa) (_:R_q1x):List Ob:=[(bx (TWa.e p0))]
def S_q1x_b1 (a0:(List TOr)) (p0:TWa) (iv1:Nat) (_:Unit):Scr Tryz.prog R_q1x (Step (Unit) R_q1x) :=
.call (@F_q4q_ok (a0.getD iv1 default) p0) fun rv2 cv2 =>
.reg 4 [] [(5,hc cv2 [0] true)] [.pf (nn iv1),.ev 1,.cl 0 cv2 [0] 1 true] <|
.ite rv2 (
.ret [] (.ret (iv1:Int))) (
.ret [] (.cont ()))
def S_q1x (a0:(List TOr)) (p0:TWa):Scr Tryz.prog R_q1x R_q1x :=
.range (a0.length:Int) a0.length rfl (.slot 0) 8 [0,1,7] (fun (_:Unit)=>[]) (fun (_:Unit)=>[]) () (S_q1x_b1 a0 p0) (fun (_:Unit) => 
.ret [] (-1)) id
def F_q1x (a0:(List TOr)) (p0:TWa):Option R_q1x:=(S_q1x a0 p0).den
theorem F_q1x_ok {a0:(List TOr)} {p0:TWa} (r:R_q1x) (h:F_q1x a0 p0=some r):CallOk Tryz.prog 130 [(AV.d (eL TOr.e a0)),(AV.fn 131 [(vp 0)])] [(bx (TWa.e p0))] (V_q1x r) (L_q1x p0 r):=fOk (s:=S_q1x a0 p0) Tryz.func130 rfl (by kernel_rfl) h
abbrev R_q2d:=TCha×Int
def V_q2d (x:R_q2d):AV:=(AV.tup [(AV.d (TCha.e x.1)),(vi x.2)])
def L_q2d (_:R_q2d):List Ob:=[]
def S_q2d (a0:TWa) (a1:TOf):Scr Tryz.prog R_q2d R_q2d :=
.call (@F_qg_ok a1) fun rv1 cv1 =>
.reg 1 [] [(1,hc cv1 [] true)] [.cl 0 cv1 [] 3 true] <|
.ite (!rv1) (
.ret [] ((⟨(⟨0,0,0,0,false⟩:TOr),(⟨0,0,0,0⟩:TVe),(⟨0,0,0,0,0,0,0⟩:TCo),(⟨0,[],0,0,0,0⟩:TRe)⟩:TCha),1)) (
.call (@F_q1x_ok a1.Book.Orders a0) fun rv2 cv2 =>
.reg 3 [] [(4,hc cv2 [0] true)] [.cl 0 cv2 [0] 3 true] <|
.ite (bif (a1.Number != a0.Office) then true else (decide (rv2<0))) (
.ret [] ((⟨(⟨0,0,0,0,false⟩:TOr),(⟨0,0,0,0⟩:TVe),(⟨0,0,0,0,0,0,0⟩:TCo),(⟨0,[],0,0,0,0⟩:TRe)⟩:TCha),17)) (
.guard [(0:Int)≤rv2,(rv2).toNat<a1.Book.Orders.length,(0:Int)≤(IntKind.i64.wrap (a0.Verification-1)),((IntKind.i64.wrap (a0.Verification-1))).toNat<a1.Book.Verifications.length] <|
.reg 6 [15,16] [] [.ev 0,.ev 1,.ev 0,.ev 1,.ev 2,.ev 3,.ev 2,.ev 3] <|
.guard [(0:Int)≤(IntKind.i64.wrap (((a1.Book.Verifications.getD (((IntKind.i64.wrap (a0.Verification-1))).toNat) default).Commitment)-1)),((IntKind.i64.wrap (((a1.Book.Verifications.getD (((IntKind.i64.wrap (a0.Verification-1))).toNat) default).Commitment)-1))).toNat<a1.Book.Commitments.length] <|
.reg 7 [] [] [.ev 0,.ev 1] <|
.guard [(0:Int)≤(IntKind.i64.wrap (((a1.Book.Commitments.getD (((IntKind.i64.wrap (((a1.Book.Verifications.getD (((IntKind.i64.wrap (a0.Verification-1))).toNat) default).Commitment)-1))).toNat) default).Reservation)-1)),((IntKind.i64.wrap (((a1.Book.Commitments.getD (((IntKind.i64.wrap (((a1.Book.Verifications.getD (((IntKind.i64.wrap (a0.Verification-1))).toNat) default).Commitment)-1))).toNat) default).Reservation)-1))).toNat<a1.Book.Reservations.length] <|
.reg 8 [] [] [.ev 0,.ev 1] <|
.ite (bif (((a1.Book.Commitments.getD (((IntKind.i64.wrap (((a1.Book.Verifications.getD (((IntKind.i64.wrap (a0.Verification-1))).toNat) default).Commitment)-1))).toNat) default).Number) != a0.Commitment) then true else (((a1.Book.Reservations.getD (((IntKind.i64.wrap (((a1.Book.Commitments.getD (((IntKind.i64.wrap (((a1.Book.Verifications.getD (((IntKind.i64.wrap (a0.Verification-1))).toNat) default).Commitment)-1))).toNat) default).Reservation)-1))).toNat) default).Number) != a0.Reservation)) (
.ret [] ((⟨(⟨0,0,0,0,false⟩:TOr),(⟨0,0,0,0⟩:TVe),(⟨0,0,0,0,0,0,0⟩:TCo),(⟨0,[],0,0,0,0⟩:TRe)⟩:TCha),17)) (
.ret [] ((⟨(a1.Book.Orders.getD ((rv2).toNat) default),(a1.Book.Verifications.getD (((IntKind.i64.wrap (a0.Verification-1))).toNat) default),(a1.Book.Commitments.getD (((IntKind.i64.wrap (((a1.Book.Verifications.getD (((IntKind.i64.wrap (a0.Verification-1))).toNat) default).Commitment)-1))).toNat) default),(a1.Book.Reservations.getD (((IntKind.i64.wrap (((a1.Book.Commitments.getD (((IntKind.i64.wrap (((a1.Book.Verifications.getD (((IntKind.i64.wrap (a0.Verification-1))).toNat) default).Commitment)-1))).toNat) default).Reservation)-1))).toNat) default)⟩:TCha),0))))
def F_q2d (a0:TWa) (a1:TOf):Option R_q2d:=(S_q2d a0 a1).den
theorem F_q2d_ok {a0:TWa} {a1:TOf} (r:R_q2d) (h:F_q2d a0 a1=some r):CallOk Tryz.prog 95 [(AV.d (TWa.e a0)),(AV.d (TOf.e a1))] [] (V_q2d r) (L_q2d r):=fOk (s:=S_q2d a0 a1) Tryz.func95 rfl (by kernel_rfl) h
abbrev R_q3i:=Int
def V_q3i (x:R_q3i):AV:=(vi x)
def L_q3i (_:R_q3i):List Ob:=[]
def S_q3i (a0:TWa) (a1:TOf):Scr Tryz.prog R_q3i R_q3i :=
.call (@F_q2d_ok a0 a1) fun rv1 cv1 =>
.reg 1 [] [(2,hc cv1 [] true)] [.cl 0 cv1 [] 2 true] <|
.ret [] rv1.2
def F_q3i (a0:TWa) (a1:TOf):Option R_q3i:=(S_q3i a0 a1).den
theorem F_q3i_ok {a0:TWa} {a1:TOf} (r:R_q3i) (h:F_q3i a0 a1=some r):CallOk Tryz.prog 53 [(AV.d (TWa.e a0)),(AV.d (TOf.e a1))] [] (V_q3i r) (L_q3i r):=fOk (s:=S_q3i a0 a1) Tryz.func53 rfl (by kernel_rfl) h
abbrev R_q2l:=Int
def V_q2l (x:R_q2l):AV:=(vi x)
def L_q2l (p0:TWa) (p1:TOf) (_:R_q2l):List Ob:=[(bx (TWa.e p0)),(bx (TOf.e p1))]
def S_q2l (p0:TWa) (p1:TOf):Scr Tryz.prog R_q2l R_q2l :=
.call (@F_q3i_ok p0 p1) fun rv1 cv1 =>
.reg 1 [] [(2,hc cv1 [] true)] [.cl 0 cv1 [] 2 true] <|
.ret [] rv1
def F_q2l (p0:TWa) (p1:TOf):Option R_q2l:=(S_q2l p0 p1).den
theorem F_q2l_ok {p0:TWa} {p1:TOf} (r:R_q2l) (h:F_q2l p0 p1=some r):CallOk Tryz.prog 52 [(vp 0),(vp 1)] [(bx (TWa.e p0)),(bx (TOf.e p1))] (V_q2l r) (L_q2l p0 p1 r):=fOk (s:=S_q2l p0 p1) Tryz.func52 rfl (by kernel_rfl) h
abbrev R_q2m:=Int
def V_q2m (x:R_q2m):AV:=(vi x)
def L_q2m (_:R_q2m):List Ob:=[]
def S_q2m (a0:TWa) (a1:TOf):Scr Tryz.prog R_q2m R_q2m :=
.call (@F_q2d_ok a0 a1) fun rv1 cv1 =>
.reg 1 [] [(2,hc cv1 [] true)] [.cl 0 cv1 [] 2 true] <|
.ite (rv1.2 != 0) (
.ret [] 17) (
.ite (bif (bif (bif (bif (bif (a0.Amount != rv1.1.verification.Amount) then true else (a0.Payee != rv1.1.commitment.Payee)) then true else (a0.Due != rv1.1.commitment.Due)) then true else (!(a0.Code==rv1.1.reservation.Code))) then true else (a0.Year != rv1.1.reservation.Year)) then true else (a0.Day != rv1.1.order.Day)) (
.ret [] 15) (
.ret [] 0))
def F_q2m (a0:TWa) (a1:TOf):Option R_q2m:=(S_q2m a0 a1).den
theorem F_q2m_ok {a0:TWa} {a1:TOf} (r:R_q2m) (h:F_q2m a0 a1=some r):CallOk Tryz.prog 55 [(AV.d (TWa.e a0)),(AV.d (TOf.e a1))] [] (V_q2m r) (L_q2m r):=fOk (s:=S_q2m a0 a1) Tryz.func55 rfl (by kernel_rfl) h
abbrev R_q2n:=Int
def V_q2n (x:R_q2n):AV:=(vi x)
def L_q2n (p0:TWa) (p1:TOf) (_:R_q2n):List Ob:=[(bx (TWa.e p0)),(bx (TOf.e p1))]
def S_q2n (p0:TWa) (p1:TOf):Scr Tryz.prog R_q2n R_q2n :=
.call (@F_q2m_ok p0 p1) fun rv1 cv1 =>
.reg 1 [] [(2,hc cv1 [] true)] [.cl 0 cv1 [] 2 true] <|
.ret [] rv1
def F_q2n (p0:TWa) (p1:TOf):Option R_q2n:=(S_q2n p0 p1).den
theorem F_q2n_ok {p0:TWa} {p1:TOf} (r:R_q2n) (h:F_q2n p0 p1=some r):CallOk Tryz.prog 54 [(vp 0),(vp 1)] [(bx (TWa.e p0)),(bx (TOf.e p1))] (V_q2n r) (L_q2n p0 p1 r):=fOk (s:=S_q2n p0 p1) Tryz.func54 rfl (by kernel_rfl) h
abbrev R_q4r:=Bool
def V_q4r (x:R_q4r):AV:=(vb x)
def L_q4r (p0:TWa) (_:R_q4r):List Ob:=[(bx (TWa.e p0))]
def S_q4r (a0:TWa) (p0:TWa):Scr Tryz.prog R_q4r R_q4r :=
.ret [] (a0.Number==p0.Number)
def F_q4r (a0:TWa) (p0:TWa):Option R_q4r:=(S_q4r a0 p0).den
theorem F_q4r_ok {a0:TWa} {p0:TWa} (r:R_q4r) (h:F_q4r a0 p0=some r):CallOk Tryz.prog 97 [(AV.d (TWa.e a0)),(vp 0)] [(bx (TWa.e p0))] (V_q4r r) (L_q4r p0 r):=fOk (s:=S_q4r a0 p0) Tryz.func97 rfl (by kernel_rfl) h
abbrev R_q1y:=Int
def V_q1y (x:R_q1y):AV:=(vi x)
def L_q1y (p0:TWa) (_:R_q1y):List Ob:=[(bx (TWa.e p0))]
def S_q1y_b1 (a0:(List TWa)) (p0:TWa) (iv1:Nat) (_:Unit):Scr Tryz.prog R_q1y (Step (Unit) R_q1y) :=
.call (@F_q4r_ok (a0.getD iv1 default) p0) fun rv2 cv2 =>
.reg 4 [] [(5,hc cv2 [0] true)] [.pf (nn iv1),.ev 1,.cl 0 cv2 [0] 1 true] <|
.ite rv2 (
.ret [] (.ret (iv1:Int))) (
.ret [] (.cont ()))
def S_q1y (a0:(List TWa)) (p0:TWa):Scr Tryz.prog R_q1y R_q1y :=
.range (a0.length:Int) a0.length rfl (.slot 0) 8 [0,1,7] (fun (_:Unit)=>[]) (fun (_:Unit)=>[]) () (S_q1y_b1 a0 p0) (fun (_:Unit) => 
.ret [] (-1)) id
def F_q1y (a0:(List TWa)) (p0:TWa):Option R_q1y:=(S_q1y a0 p0).den
theorem F_q1y_ok {a0:(List TWa)} {p0:TWa} (r:R_q1y) (h:F_q1y a0 p0=some r):CallOk Tryz.prog 72 [(AV.d (eL TWa.e a0)),(AV.fn 97 [(vp 0)])] [(bx (TWa.e p0))] (V_q1y r) (L_q1y p0 r):=fOk (s:=S_q1y a0 p0) Tryz.func72 rfl (by kernel_rfl) h
abbrev R_q4s:=Bool
def V_q4s (x:R_q4s):AV:=(vb x)
def L_q4s (p0:TWa) (_:R_q4s):List Ob:=[(bx (TWa.e p0))]
def S_q4s (a0:(List TWa)) (p0:TWa):Scr Tryz.prog R_q4s R_q4s :=
.call (@F_q1y_ok a0 p0) fun rv1 cv1 =>
.reg 1 [] [(2,hc cv1 [0] true)] [.cl 0 cv1 [0] 1 true] <|
.ret [] (decide (rv1≥0))
def F_q4s (a0:(List TWa)) (p0:TWa):Option R_q4s:=(S_q4s a0 p0).den
theorem F_q4s_ok {a0:(List TWa)} {p0:TWa} (r:R_q4s) (h:F_q4s a0 p0=some r):CallOk Tryz.prog 96 [(AV.d (eL TWa.e a0)),(AV.fn 97 [(vp 0)])] [(bx (TWa.e p0))] (V_q4s r) (L_q4s p0 r):=fOk (s:=S_q4s a0 p0) Tryz.func96 rfl (by kernel_rfl) h
abbrev R_q4t:=Bool
def V_q4t (x:R_q4t):AV:=(vb x)
def L_q4t (p0:TWa) (_:R_q4t):List Ob:=[(bx (TWa.e p0))]
def S_q4t (a0:TWa) (p0:TWa):Scr Tryz.prog R_q4t R_q4t :=
.ret [] (bif (a0.Office==p0.Office) then (a0.Verification==p0.Verification) else false)
def F_q4t (a0:TWa) (p0:TWa):Option R_q4t:=(S_q4t a0 p0).den
theorem F_q4t_ok {a0:TWa} {p0:TWa} (r:R_q4t) (h:F_q4t a0 p0=some r):CallOk Tryz.prog 98 [(AV.d (TWa.e a0)),(vp 0)] [(bx (TWa.e p0))] (V_q4t r) (L_q4t p0 r):=fOk (s:=S_q4t a0 p0) Tryz.func98 rfl (by kernel_rfl) h
abbrev R_q1z:=Int
def V_q1z (x:R_q1z):AV:=(vi x)
def L_q1z (p0:TWa) (_:R_q1z):List Ob:=[(bx (TWa.e p0))]
def S_q1z_b1 (a0:(List TWa)) (p0:TWa) (iv1:Nat) (_:Unit):Scr Tryz.prog R_q1z (Step (Unit) R_q1z) :=
.call (@F_q4t_ok (a0.getD iv1 default) p0) fun rv2 cv2 =>
.reg 4 [] [(5,hc cv2 [0] true)] [.pf (nn iv1),.ev 1,.cl 0 cv2 [0] 1 true] <|
.ite rv2 (
.ret [] (.ret (iv1:Int))) (
.ret [] (.cont ()))
def S_q1z (a0:(List TWa)) (p0:TWa):Scr Tryz.prog R_q1z R_q1z :=
.range (a0.length:Int) a0.length rfl (.slot 0) 8 [0,1,7] (fun (_:Unit)=>[]) (fun (_:Unit)=>[]) () (S_q1z_b1 a0 p0) (fun (_:Unit) => 
.ret [] (-1)) id
def F_q1z (a0:(List TWa)) (p0:TWa):Option R_q1z:=(S_q1z a0 p0).den
theorem F_q1z_ok {a0:(List TWa)} {p0:TWa} (r:R_q1z) (h:F_q1z a0 p0=some r):CallOk Tryz.prog 72 [(AV.d (eL TWa.e a0)),(AV.fn 98 [(vp 0)])] [(bx (TWa.e p0))] (V_q1z r) (L_q1z p0 r):=fOk (s:=S_q1z a0 p0) Tryz.func72 rfl (by kernel_rfl) h
abbrev R_q4u:=Bool
def V_q4u (x:R_q4u):AV:=(vb x)
def L_q4u (p0:TWa) (_:R_q4u):List Ob:=[(bx (TWa.e p0))]
def S_q4u (a0:(List TWa)) (p0:TWa):Scr Tryz.prog R_q4u R_q4u :=
.call (@F_q1z_ok a0 p0) fun rv1 cv1 =>
.reg 1 [] [(2,hc cv1 [0] true)] [.cl 0 cv1 [0] 1 true] <|
.ret [] (decide (rv1≥0))
def F_q4u (a0:(List TWa)) (p0:TWa):Option R_q4u:=(S_q4u a0 p0).den
theorem F_q4u_ok {a0:(List TWa)} {p0:TWa} (r:R_q4u) (h:F_q4u a0 p0=some r):CallOk Tryz.prog 96 [(AV.d (eL TWa.e a0)),(AV.fn 98 [(vp 0)])] [(bx (TWa.e p0))] (V_q4u r) (L_q4u p0 r):=fOk (s:=S_q4u a0 p0) Tryz.func96 rfl (by kernel_rfl) h
abbrev R_q2o:=Int
def V_q2o (x:R_q2o):AV:=(vi x)
def L_q2o (_:R_q2o):List Ob:=[]
def S_q2o (a0:TWa) (a1:(List TWa)):Scr Tryz.prog R_q2o R_q2o :=
.call (@F_q4s_ok a1 a0) fun rv1 cv1 =>
.reg 1 [] [(2,hc cv1 [0] true)] [.cl 0 cv1 [0] 1 true] <|
.ite rv1 (
.ret [] 7) (
.call (@F_q4u_ok a1 a0) fun rv2 cv2 =>
.reg 3 [] [(2,hc cv2 [0] true)] [.cl 0 cv2 [0] 1 true] <|
.ite rv2 (
.ret [] 20) (
.ret [] 0))
def F_q2o (a0:TWa) (a1:(List TWa)):Option R_q2o:=(S_q2o a0 a1).den
theorem F_q2o_ok {a0:TWa} {a1:(List TWa)} (r:R_q2o) (h:F_q2o a0 a1=some r):CallOk Tryz.prog 57 [(AV.d (TWa.e a0)),(AV.d (eL TWa.e a1))] [] (V_q2o r) (L_q2o r):=fOk (s:=S_q2o a0 a1) Tryz.func57 rfl (by kernel_rfl) h
abbrev R_q2p:=Int
def V_q2p (x:R_q2p):AV:=(vi x)
def L_q2p (p0:TWa) (p1:(List TWa)) (_:R_q2p):List Ob:=[(bx (TWa.e p0)),(bx (eL TWa.e p1))]
def S_q2p (p0:TWa) (p1:(List TWa)):Scr Tryz.prog R_q2p R_q2p :=
.call (@F_q2o_ok p0 p1) fun rv1 cv1 =>
.reg 1 [] [(2,hc cv1 [] true)] [.cl 0 cv1 [] 2 true] <|
.ret [] rv1
def F_q2p (p0:TWa) (p1:(List TWa)):Option R_q2p:=(S_q2p p0 p1).den
theorem F_q2p_ok {p0:TWa} {p1:(List TWa)} (r:R_q2p) (h:F_q2p p0 p1=some r):CallOk Tryz.prog 56 [(vp 0),(vp 1)] [(bx (TWa.e p0)),(bx (eL TWa.e p1))] (V_q2p r) (L_q2p p0 p1 r):=fOk (s:=S_q2p p0 p1) Tryz.func56 rfl (by kernel_rfl) h
abbrev R_q4b:=Int
def V_q4b (x:R_q4b):AV:=(vi x)
def L_q4b (_:R_q4b):List Ob:=[]
def S_q4b (a0:TWa) (a1:Int):Scr Tryz.prog R_q4b R_q4b :=
.call (@F_q1u_ok a1) fun rv1 cv1 =>
.calld [(bif (!rv1) then true else (decide (a1<a0.Day)))=false] default (@F_q2a_ok a1) fun rv2 cv2 =>
.reg 1 [] [(1,hc cv1 [] true),(11,hc cv2 [] true)] [.cl 2 cv1 [] 1 true,.clg 0 [(bif (!rv1) then true else (decide (a1<a0.Day)))=false] cv2 [] 1 true] <|
.ite (bif (bif (!rv1) then true else (decide (a1<a0.Day))) then true else (decide (rv2>(IntKind.i64.wrap (a0.Year+1))))) (
.ret [] 16) (
.ret [] 0)
def F_q4b (a0:TWa) (a1:Int):Option R_q4b:=(S_q4b a0 a1).den
theorem F_q4b_ok {a0:TWa} {a1:Int} (r:R_q4b) (h:F_q4b a0 a1=some r):CallOk Tryz.prog 59 [(AV.d (TWa.e a0)),(vi a1)] [] (V_q4b r) (L_q4b r):=fOk (s:=S_q4b a0 a1) Tryz.func59 rfl (by kernel_rfl) h
abbrev R_q2q:=Int
def V_q2q (x:R_q2q):AV:=(vi x)
def L_q2q (p0:TWa) (p1:Int) (_:R_q2q):List Ob:=[(bx (TWa.e p0)),(Ob.box (vi p1))]
def S_q2q (p0:TWa) (p1:Int):Scr Tryz.prog R_q2q R_q2q :=
.call (@F_q4b_ok p0 p1) fun rv1 cv1 =>
.reg 1 [] [(2,hc cv1 [] true)] [.cl 0 cv1 [] 2 true] <|
.ret [] rv1
def F_q2q (p0:TWa) (p1:Int):Option R_q2q:=(S_q2q p0 p1).den
theorem F_q2q_ok {p0:TWa} {p1:Int} (r:R_q2q) (h:F_q2q p0 p1=some r):CallOk Tryz.prog 58 [(vp 0),(vp 1)] [(bx (TWa.e p0)),(Ob.box (vi p1))] (V_q2q r) (L_q2q p0 p1 r):=fOk (s:=S_q2q p0 p1) Tryz.func58 rfl (by kernel_rfl) h
abbrev R_q4v:=Bool
def V_q4v (x:R_q4v):AV:=(vb x)
def L_q4v (_:R_q4v):List Ob:=[]
def S_q4v (a0:Int):Scr Tryz.prog R_q4v R_q4v :=
.call (@F_q1u_ok a0) fun rv1 cv1 =>
.reg 1 [] [(1,hc cv1 [] true)] [.cl 0 cv1 [] 0 true,.pf (p:=AllP [rv1=true]→((7:Int)≠0)) (fun _=>(by decide))] <|
.ret [] (bif rv1 then (decide ((a0.tmod 7)<5)) else false)
def F_q4v (a0:Int):Option R_q4v:=(S_q4v a0).den
theorem F_q4v_ok {a0:Int} (r:R_q4v) (h:F_q4v a0=some r):CallOk Tryz.prog 132 [(vi a0)] [] (V_q4v r) (L_q4v r):=fOk (s:=S_q4v a0) Tryz.func132 rfl (by kernel_rfl) h
abbrev R_q1o:=Int×Int
def V_q1o (x:R_q1o):AV:=(AV.tup [(vi x.1),(vi x.2)])
def L_q1o (_:R_q1o):List Ob:=[]
def S_q1o_b1 (sv1:Int):Scr Tryz.prog R_q1o (Step (Int) R_q1o) :=
.call (@F_q1u_ok sv1) fun rv2 cv2 =>
.reg 1 [] [(1,hc cv2 [] true)] [.cl 0 cv2 [] 0 true] <|
.ite rv2 (
.call (@F_q4v_ok sv1) fun rv3 cv3 =>
.reg 3 [] [(1,hc cv3 [] true)] [.cl 0 cv3 [] 0 true] <|
.ite rv3 (
.ret [] (.ret (sv1,0))) (
.ret [] (.cont (IntKind.i64.wrap (sv1+1))))) (
.ret [] (.brk sv1))
def S_q1o (a0:Int):Scr Tryz.prog R_q1o R_q1o :=
.iter [] (fun (sv1:Int)=>[(0,(vi sv1))]) (fun (_:Int)=>[]) a0 S_q1o_b1 (fun (_:Int) =>
.ret [] (0,2)) id
def F_q1o (a0:Int):Option R_q1o:=(S_q1o a0).den
theorem F_q1o_ok {a0:Int} (r:R_q1o) (h:F_q1o a0=some r):CallOk Tryz.prog 101 [(vi a0)] [] (V_q1o r) (L_q1o r):=fOk (s:=S_q1o a0) Tryz.func101 rfl (by kernel_rfl) h
abbrev R_q4c:=Int
def V_q4c (x:R_q4c):AV:=(vi x)
def L_q4c (_:R_q4c):List Ob:=[]
def S_q4c (a0:TWa) (a1:Int):Scr Tryz.prog R_q4c R_q4c :=
.call (@F_q1o_ok a0.Due) fun rv1 cv1 =>
.reg 1 [] [(2,hc cv1 [] true)] [.cl 0 cv1 [] 1 true] <|
.ite (decide (a1<rv1.1)) (
.ret [] 21) (
.ret [] 0)
def F_q4c (a0:TWa) (a1:Int):Option R_q4c:=(S_q4c a0 a1).den
theorem F_q4c_ok {a0:TWa} {a1:Int} (r:R_q4c) (h:F_q4c a0 a1=some r):CallOk Tryz.prog 61 [(AV.d (TWa.e a0)),(vi a1)] [] (V_q4c r) (L_q4c r):=fOk (s:=S_q4c a0 a1) Tryz.func61 rfl (by kernel_rfl) h
abbrev R_q2r:=Int
def V_q2r (x:R_q2r):AV:=(vi x)
def L_q2r (p0:TWa) (p1:Int) (_:R_q2r):List Ob:=[(bx (TWa.e p0)),(Ob.box (vi p1))]
def S_q2r (p0:TWa) (p1:Int):Scr Tryz.prog R_q2r R_q2r :=
.call (@F_q4c_ok p0 p1) fun rv1 cv1 =>
.reg 1 [] [(2,hc cv1 [] true)] [.cl 0 cv1 [] 2 true] <|
.ret [] rv1
def F_q2r (p0:TWa) (p1:Int):Option R_q2r:=(S_q2r p0 p1).den
theorem F_q2r_ok {p0:TWa} {p1:Int} (r:R_q2r) (h:F_q2r p0 p1=some r):CallOk Tryz.prog 60 [(vp 0),(vp 1)] [(bx (TWa.e p0)),(Ob.box (vi p1))] (V_q2r r) (L_q2r p0 p1 r):=fOk (s:=S_q2r p0 p1) Tryz.func60 rfl (by kernel_rfl) h
abbrev R_qr:=Int
def V_qr (x:R_qr):AV:=(vi x)
def L_qr (_:R_qr):List Ob:=[]
def S_qr_b1 (a0:(List Int)) (iv1:Nat) (sv2:Int):Scr Tryz.prog R_qr (Step (Int) R_qr) :=
.reg 4 [] [] [.pf (nn iv1),.ev 0] <|
.ret [] (.cont (IntKind.i64.wrap (sv2+(a0.getD iv1 default))))
def S_qr (a0:(List Int)):Scr Tryz.prog R_qr R_qr :=
.range (a0.length:Int) a0.length rfl (.slot 6) 8 [6,7] (fun (sv2:Int)=>[(3,(vi sv2))]) (fun (_:Int)=>[]) 0 (S_qr_b1 a0) (fun (sv2:Int) => 
.ret [] sv2) id
def F_qr (a0:(List Int)):Option R_qr:=(S_qr a0).den
theorem F_qr_ok {a0:(List Int)} (r:R_qr) (h:F_qr a0=some r):CallOk Tryz.prog 134 [(vl a0)] [] (V_qr r) (L_qr r):=fOk (s:=S_qr a0) Tryz.func134 rfl (by kernel_rfl) h
abbrev R_q2s:=Int
def V_q2s (x:R_q2s):AV:=(vi x)
def L_q2s (_:R_q2s):List Ob:=[]
def S_q2s (a0:TPo):Scr Tryz.prog R_q2s R_q2s :=
.call (@F_qr_ok (a0.Granted.take (((if (a0.Heard.length:Int)<(a0.Granted.length:Int) then (a0.Heard.length:Int) else (a0.Granted.length:Int))).toNat))) fun rv1 cv1 =>
.call (@F_qr_ok (a0.Heard.take (((if (a0.Heard.length:Int)<(a0.Granted.length:Int) then (a0.Heard.length:Int) else (a0.Granted.length:Int))).toNat))) fun rv2 cv2 =>
.guard [(0:Int)≤(if (a0.Heard.length:Int)<(a0.Granted.length:Int) then (a0.Heard.length:Int) else (a0.Granted.length:Int)),((if (a0.Heard.length:Int)<(a0.Granted.length:Int) then (a0.Heard.length:Int) else (a0.Granted.length:Int))).toNat≤a0.Granted.length,((if (a0.Heard.length:Int)<(a0.Granted.length:Int) then (a0.Heard.length:Int) else (a0.Granted.length:Int))).toNat≤a0.Heard.length] <|
.reg 2 [] [(3,hv (vl (a0.Granted.take (((if (a0.Heard.length:Int)<(a0.Granted.length:Int) then (a0.Heard.length:Int) else (a0.Granted.length:Int))).toNat)))),(4,hc cv1 [] true),(8,hv (vl (a0.Heard.take (((if (a0.Heard.length:Int)<(a0.Granted.length:Int) then (a0.Heard.length:Int) else (a0.Granted.length:Int))).toNat)))),(9,hc cv2 [] true)] [.ev 0,.ev 1,.der (fun (h0:((if (a0.Heard.length:Int)<(a0.Granted.length:Int) then (a0.Heard.length:Int) else (a0.Granted.length:Int))).toNat≤a0.Granted.length)=>lvT (DV.i .i64) a0.Granted h0) 1,.cl 4 cv1 [] 1 true,.ev 0,.ev 2,.der (fun (h0:((if (a0.Heard.length:Int)<(a0.Granted.length:Int) then (a0.Heard.length:Int) else (a0.Granted.length:Int))).toNat≤a0.Heard.length)=>lvT (DV.i .i64) a0.Heard h0) 2,.cl 3 cv2 [] 1 true] <|
.ret [] (IntKind.i64.wrap (rv1-rv2))
def F_q2s (a0:TPo):Option R_q2s:=(S_q2s a0).den
theorem F_q2s_ok {a0:TPo} (r:R_q2s) (h:F_q2s a0=some r):CallOk Tryz.prog 103 [(AV.d (TPo.e a0))] [] (V_q2s r) (L_q2s r):=fOk (s:=S_q2s a0) Tryz.func103 rfl (by kernel_rfl) h
abbrev R_q20:=Int
def V_q20 (x:R_q20):AV:=(vi x)
def L_q20 (_:R_q20):List Ob:=[]
def S_q20 (a0:TWa) (a1:TOf) (a2:TPo):Scr Tryz.prog R_q20 R_q20 :=
.ite (bif (bif (bif (!(a2.Code==a0.Code)) then true else (a2.Year != a0.Year)) then true else (decide ((IntKind.i64.wrap (a0.Office-1))≥(a2.Granted.length:Int)))) then true else (decide ((IntKind.i64.wrap (a0.Office-1))≥(a2.Heard.length:Int)))) (
.ret [] 6) (
.call (@F_q1n_ok a1.Book a0.Code a0.Year) fun rv1 cv1 =>
.call (@F_q2s_ok (⟨[],0,0,((a2.Granted.drop (((IntKind.i64.wrap (a0.Office-1))).toNat)).take (((IntKind.i64.wrap ((IntKind.i64.wrap (a0.Office-1))+1))).toNat-((IntKind.i64.wrap (a0.Office-1))).toNat)),((a2.Heard.drop (((IntKind.i64.wrap (a0.Office-1))).toNat)).take (((IntKind.i64.wrap ((IntKind.i64.wrap (a0.Office-1))+1))).toNat-((IntKind.i64.wrap (a0.Office-1))).toNat)),[],[]⟩:TPo)) fun rv2 cv2 =>
.guard [(0:Int)≤(IntKind.i64.wrap (a0.Office-1)),(0:Int)≤(IntKind.i64.wrap ((IntKind.i64.wrap (a0.Office-1))+1)),((IntKind.i64.wrap (a0.Office-1))).toNat≤((IntKind.i64.wrap ((IntKind.i64.wrap (a0.Office-1))+1))).toNat,((IntKind.i64.wrap ((IntKind.i64.wrap (a0.Office-1))+1))).toNat≤a2.Granted.length,((IntKind.i64.wrap ((IntKind.i64.wrap (a0.Office-1))+1))).toNat≤a2.Heard.length] <|
.reg 4 [] [(6,hc cv1 [] true),(12,hv (vl ((a2.Granted.drop (((IntKind.i64.wrap (a0.Office-1))).toNat)).take (((IntKind.i64.wrap ((IntKind.i64.wrap (a0.Office-1))+1))).toNat-((IntKind.i64.wrap (a0.Office-1))).toNat)))),(18,hv (vl ((a2.Heard.drop (((IntKind.i64.wrap (a0.Office-1))).toNat)).take (((IntKind.i64.wrap ((IntKind.i64.wrap (a0.Office-1))+1))).toNat-((IntKind.i64.wrap (a0.Office-1))).toNat)))),(19,hv (AV.d (TPo.e (⟨[],0,0,((a2.Granted.drop (((IntKind.i64.wrap (a0.Office-1))).toNat)).take (((IntKind.i64.wrap ((IntKind.i64.wrap (a0.Office-1))+1))).toNat-((IntKind.i64.wrap (a0.Office-1))).toNat)),((a2.Heard.drop (((IntKind.i64.wrap (a0.Office-1))).toNat)).take (((IntKind.i64.wrap ((IntKind.i64.wrap (a0.Office-1))+1))).toNat-((IntKind.i64.wrap (a0.Office-1))).toNat)),[],[]⟩:TPo)))),(20,hc cv2 [] true)] [.cl 6 cv1 [] 3 true,.ev 0,.ev 1,.ev 2,.ev 3,.der2 (fun (h0:((IntKind.i64.wrap (a0.Office-1))).toNat≤((IntKind.i64.wrap ((IntKind.i64.wrap (a0.Office-1))+1))).toNat) (h1:((IntKind.i64.wrap ((IntKind.i64.wrap (a0.Office-1))+1))).toNat≤a2.Granted.length)=>lvC (DV.i .i64) a2.Granted h0 h1) 2 3,.ev 0,.ev 1,.ev 2,.ev 4,.der2 (fun (h0:((IntKind.i64.wrap (a0.Office-1))).toNat≤((IntKind.i64.wrap ((IntKind.i64.wrap (a0.Office-1))+1))).toNat) (h1:((IntKind.i64.wrap ((IntKind.i64.wrap (a0.Office-1))+1))).toNat≤a2.Heard.length)=>lvC (DV.i .i64) a2.Heard h0 h1) 2 4,.pf (p:=LeV (AV.d (DV.agg [(DV.str ([])),(DV.i .i64 0),(DV.i .i64 0),(eL (DV.i .i64) ((a2.Granted.drop (((IntKind.i64.wrap (a0.Office-1))).toNat)).take (((IntKind.i64.wrap ((IntKind.i64.wrap (a0.Office-1))+1))).toNat-((IntKind.i64.wrap (a0.Office-1))).toNat))),(eL (DV.i .i64) ((a2.Heard.drop (((IntKind.i64.wrap (a0.Office-1))).toNat)).take (((IntKind.i64.wrap ((IntKind.i64.wrap (a0.Office-1))+1))).toNat-((IntKind.i64.wrap (a0.Office-1))).toNat))),Z0,Z0])) (AV.d (TPo.e (⟨[],0,0,((a2.Granted.drop (((IntKind.i64.wrap (a0.Office-1))).toNat)).take (((IntKind.i64.wrap ((IntKind.i64.wrap (a0.Office-1))+1))).toNat-((IntKind.i64.wrap (a0.Office-1))).toNat)),((a2.Heard.drop (((IntKind.i64.wrap (a0.Office-1))).toNat)).take (((IntKind.i64.wrap ((IntKind.i64.wrap (a0.Office-1))+1))).toNat-((IntKind.i64.wrap (a0.Office-1))).toNat)),[],[]⟩:TPo)))) (z3p rfl (DLe.agg (DLeL.cons (DLe.refl _) (DLeL.cons (DLe.refl _) (DLeL.cons (DLe.refl _) (DLeL.cons (DLe.refl _) (DLeL.cons (DLe.refl _) (DLeL.cons DLe.sl0 (DLeL.cons DLe.sl0 DLeL.nil))))))))),.cl 5 cv2 [] 3 true] <|
.ite (decide (rv1>rv2)) (
.ret [] 15) (
.ret [] 0))
def F_q20 (a0:TWa) (a1:TOf) (a2:TPo):Option R_q20:=(S_q20 a0 a1 a2).den
theorem F_q20_ok {a0:TWa} {a1:TOf} {a2:TPo} (r:R_q20) (h:F_q20 a0 a1 a2=some r):CallOk Tryz.prog 63 [(AV.d (TWa.e a0)),(AV.d (TOf.e a1)),(AV.d (TPo.e a2))] [] (V_q20 r) (L_q20 r):=fOk (s:=S_q20 a0 a1 a2) Tryz.func63 rfl (by kernel_rfl) h
abbrev R_q2t:=Int
def V_q2t (x:R_q2t):AV:=(vi x)
def L_q2t (p0:TWa) (p1:TOf) (p2:TPo) (_:R_q2t):List Ob:=[(bx (TWa.e p0)),(bx (TOf.e p1)),(bx (TPo.e p2))]
def S_q2t (p0:TWa) (p1:TOf) (p2:TPo):Scr Tryz.prog R_q2t R_q2t :=
.call (@F_q20_ok p0 p1 p2) fun rv1 cv1 =>
.reg 1 [] [(3,hc cv1 [] true)] [.cl 0 cv1 [] 3 true] <|
.ret [] rv1
def F_q2t (p0:TWa) (p1:TOf) (p2:TPo):Option R_q2t:=(S_q2t p0 p1 p2).den
theorem F_q2t_ok {p0:TWa} {p1:TOf} {p2:TPo} (r:R_q2t) (h:F_q2t p0 p1 p2=some r):CallOk Tryz.prog 62 [(vp 0),(vp 1),(vp 2)] [(bx (TWa.e p0)),(bx (TOf.e p1)),(bx (TPo.e p2))] (V_q2t r) (L_q2t p0 p1 p2 r):=fOk (s:=S_q2t p0 p1 p2) Tryz.func62 rfl (by kernel_rfl) h
end
end Go.Proofs.YtclaojamgomjbaaGreatDoor
