/- A part of the proof: what the functions compute, and that their calls return it. No condition. -/
import Derived.Test.YtclaojamgomjbaaGreatDoorG4
/- What the functions compute, and that their calls return it. No condition. -/
namespace Go.Proofs.YtclaojamgomjbaaGreatDoor
open Go Go.TA
noncomputable section
set_option maxRecDepth 100000
theorem cz7 : OLe (bx (DV.agg [Z0, (DV.agg [(DV.i .i64 0), Z0, (DV.agg [Z0, Z0, Z0, Z0])]), (DV.agg [(DV.str ([])), (DV.i .i64 0), (DV.i .i64 0), Z0, Z0, Z0, Z0]), Z0, (DV.i .i64 0)])) (bx (TTreasurymakeCase.e (⟨[], (⟨0, [], (⟨[], [], [], []⟩ : TApiBook)⟩ : TApiOffice), (⟨[], 0, 0, [], [], [], []⟩ : TApiPot), [], 0⟩ : TTreasurymakeCase))) := oLe_box (DLe.agg (DLeL.cons DLe.sl0 (DLeL.cons (DLe.agg (DLeL.cons (DLe.refl _) (DLeL.cons DLe.sl0 (DLeL.cons (DLe.agg (DLeL.cons DLe.sl0 (DLeL.cons DLe.sl0 (DLeL.cons DLe.sl0 (DLeL.cons DLe.sl0 DLeL.nil))))) DLeL.nil)))) (DLeL.cons (DLe.agg (DLeL.cons (DLe.refl _) (DLeL.cons (DLe.refl _) (DLeL.cons (DLe.refl _) (DLeL.cons DLe.sl0 (DLeL.cons DLe.sl0 (DLeL.cons DLe.sl0 (DLeL.cons DLe.sl0 DLeL.nil)))))))) (DLeL.cons DLe.sl0 (DLeL.cons (DLe.refl _) DLeL.nil))))))
abbrev R_mk_Control := TTreasurymakeCase × TTape
def V_mk_Control (x : R_mk_Control) : AV := (AV.d (TTreasurymakeCase.e x.1))
def L_mk_Control (x : R_mk_Control) : List Ob := [(bx (TTape.e x.2))]
def S_mk_Control_b1 (rv1 : R_mk_Tape_N) (rv2 : R_mk_Tape_N) (rv3 : R_mk_Tape_N) (iv4 : Nat) (sv5 : TApiOffice) : Scr Tryz.prog R_mk_Control (Step (TApiOffice) R_mk_Control) :=
.reg 5 [] [] [.pf (nn iv4), .ev 0] <|
.call (@F_r15_Do_ok sv5 (([(⟨1, [49], 12, (IntKind.i64.wrap (4400 + rv1.1)), 0, 50, 0, 0, 0, 0⟩ : TApiOp), (⟨2, [], 0, 4600, 1, 5, 1, (IntKind.i64.wrap (4600 + rv2.1)), 0, 0⟩ : TApiOp), (⟨3, [], 0, 4640, 1, 2, 0, 0, 0, 0⟩ : TApiOp), (⟨4, [], 0, (IntKind.i64.wrap (4650 + rv3.1)), 1, 0, 0, 0, 0, 0⟩ : TApiOp)] : List TApiOp).getD iv4 default)) fun rv6 cv6 =>
.reg 6 [] [(2, hc cv6 [] true), (6, { obs := [(4, (bx (TApiOffice.e (⟨0, [], (⟨[], [], [], []⟩ : TApiBook)⟩ : TApiOffice))))] })] [.cl 0 cv6 [] 4 true, .pf cz1] <|
.ite (rv6.2 == 0) (
.ret [] (.cont rv6.1)) (
.ret [] (.cont sv5))
def S_mk_Control_b2 (sv5 : TApiOffice) (rv7 : R_r14_Used) (iv8 : Nat) (sv9 : TTape × (List Int) × TApiOffice × List UInt8 × Int × Int × (List Int) × (List Int) × (List Int) × (List TApiWarrant) × Int × (List Int)) : Scr Tryz.prog R_mk_Control (Step (TTape × (List Int) × TApiOffice × List UInt8 × Int × Int × (List Int) × (List Int) × (List Int) × (List TApiWarrant) × Int × (List Int)) R_mk_Control) :=
.call (@F_mk_Tape_Pick_ok ([0, 50, 50] : List Int) sv9.1) fun rv10 cv10 =>
.guard [iv8 < sv9.2.2.2.2.2.2.2.2.2.2.2.length, (0 + iv8) < sv9.2.2.2.2.2.2.2.2.2.2.2.length] <|
.reg 20 [8, 11] [(7, hv (vl ([0, 50, 50] : List Int))), (8, hc cv10 [0] false), (11, { obs := [(4, (eS 1 (DV.i .i64) (sv9.2.2.2.2.2.2.2.2.2.2.2.set (0 + iv8) (IntKind.i64.wrap ((sv9.2.2.2.2.2.2.2.2.2.2.2.getD (0 + iv8) default) + rv10.1)))))] })] [.pf (Eq.refl sv9.2.2.2.2.2.2.2.2.2.2.2.length), .pf (nn iv8), .ev 0, .pf (Eq.refl sv9.2.2.2.2.2.2.2.2.2.2.2.length), .pf (nn iv8), .ev 0, .pf (Eq.refl sv9.2.2.2.2.2.2.2.2.2.2.2.length), .ev 1, .pf (Eq.refl sv9.2.2.2.2.2.2.2.2.2.2.2.length), .ev 1, .pf (leV_lit (DV.i .i64) ([0, 50, 50] : List Int)), .cl 2 cv10 [0] 5 false, .pf (Eq.refl sv9.2.2.2.2.2.2.2.2.2.2.2.length), .pf (nn iv8), .ev 0, .pf (Eq.refl sv9.2.2.2.2.2.2.2.2.2.2.2.length), .ev 1, .pf (oLe_set (sz := 1) (e := (DV.i .i64)) (l := sv9.2.2.2.2.2.2.2.2.2.2.2) (i := (0 + iv8)) (x := (IntKind.i64.wrap ((sv9.2.2.2.2.2.2.2.2.2.2.2.getD (0 + iv8) default) + rv10.1))) (fun _ => rfl))] <|
.cst (A := True) (.pf trivial) [(0, (vp 0)), (2, (vp 1)), (8, (vp 3)), (115, (vi (([rv7, rv7, rv7] : List Int).length : Int))), (116, (vi (iv8 : Int)))] [(0, (vp 0)), (2, (vp 1)), (8, (vp 3)), (115, (vi (([rv7, rv7, rv7] : List Int).length : Int))), (116, (vi (iv8 : Int)))] [(bx (TTape.e rv10.2)), (bx (TTreasurymakeCase.e (⟨[], (⟨0, [], (⟨[], [], [], []⟩ : TApiBook)⟩ : TApiOffice), (⟨[], 0, 0, [], [], [], []⟩ : TApiPot), [], 0⟩ : TTreasurymakeCase))), (bx (TApiOffice.e sv5)), (Ob.box (AV.agg [(AV.d (eL (DV.i .u64) sv9.2.1)), (AV.d (TApiOffice.e sv9.2.2.1)), (AV.agg [(AV.d (DV.str sv9.2.2.2.1)), (vi sv9.2.2.2.2.1), (vi sv9.2.2.2.2.2.1), (AV.ref 4 sv9.2.2.2.2.2.2.2.2.2.2.2.length 0 sv9.2.2.2.2.2.2.2.2.2.2.2.length), (vl sv9.2.2.2.2.2.2.1), (vl sv9.2.2.2.2.2.2.2.1), (vl sv9.2.2.2.2.2.2.2.2.1)]), (AV.d (eL TApiWarrant.e sv9.2.2.2.2.2.2.2.2.2.1)), (vi sv9.2.2.2.2.2.2.2.2.2.2.1)])), (eS 1 (DV.i .i64) (sv9.2.2.2.2.2.2.2.2.2.2.2.set (0 + iv8) (IntKind.i64.wrap ((sv9.2.2.2.2.2.2.2.2.2.2.2.getD (0 + iv8) default) + rv10.1))))] [(bx (TTape.e rv10.2)), (bx (TTreasurymakeCase.e (⟨[], (⟨0, [], (⟨[], [], [], []⟩ : TApiBook)⟩ : TApiOffice), (⟨[], 0, 0, [], [], [], []⟩ : TApiPot), [], 0⟩ : TTreasurymakeCase))), (bx (TApiOffice.e sv5)), (Ob.box (AV.agg [(AV.d (eL (DV.i .u64) sv9.2.1)), (AV.d (TApiOffice.e sv9.2.2.1)), (AV.agg [(AV.d (DV.str sv9.2.2.2.1)), (vi sv9.2.2.2.2.1), (vi sv9.2.2.2.2.2.1), (AV.ref 4 ((sv9.2.2.2.2.2.2.2.2.2.2.2.set (0 + iv8) (IntKind.i64.wrap ((sv9.2.2.2.2.2.2.2.2.2.2.2.getD (0 + iv8) default) + rv10.1))).length) 0 ((sv9.2.2.2.2.2.2.2.2.2.2.2.set (0 + iv8) (IntKind.i64.wrap ((sv9.2.2.2.2.2.2.2.2.2.2.2.getD (0 + iv8) default) + rv10.1))).length)), (vl sv9.2.2.2.2.2.2.1), (vl sv9.2.2.2.2.2.2.2.1), (vl sv9.2.2.2.2.2.2.2.2.1)]), (AV.d (eL TApiWarrant.e sv9.2.2.2.2.2.2.2.2.2.1)), (vi sv9.2.2.2.2.2.2.2.2.2.2.1)])), (eS 1 (DV.i .i64) (sv9.2.2.2.2.2.2.2.2.2.2.2.set (0 + iv8) (IntKind.i64.wrap ((sv9.2.2.2.2.2.2.2.2.2.2.2.getD (0 + iv8) default) + rv10.1))))] (fun _ => ⟨by simp only, by simp only [List.length_set]⟩) <|
.ret [] (.cont (rv10.2, sv9.2.1, sv9.2.2.1, sv9.2.2.2.1, sv9.2.2.2.2.1, sv9.2.2.2.2.2.1, sv9.2.2.2.2.2.2.1, sv9.2.2.2.2.2.2.2.1, sv9.2.2.2.2.2.2.2.2.1, sv9.2.2.2.2.2.2.2.2.2.1, sv9.2.2.2.2.2.2.2.2.2.2.1, (sv9.2.2.2.2.2.2.2.2.2.2.2.set (0 + iv8) (IntKind.i64.wrap ((sv9.2.2.2.2.2.2.2.2.2.2.2.getD (0 + iv8) default) + rv10.1)))))
def S_mk_Control (p0 : TTape) : Scr Tryz.prog R_mk_Control R_mk_Control :=
.reg 0 [] [(0, { obs := [(1, (bx (TTreasurymakeCase.e (⟨[], (⟨0, [], (⟨[], [], [], []⟩ : TApiBook)⟩ : TApiOffice), (⟨[], 0, 0, [], [], [], []⟩ : TApiPot), [], 0⟩ : TTreasurymakeCase))))] })] [.pf cz7] <|
.call (@F_mk_Office_ok 18 p0) fun rv11 cv11 =>
.reg 1 [] [(1, hc cv11 [0] false), (2, { obs := [(2, (bx (TApiOffice.e (⟨0, [], (⟨[], [], [], []⟩ : TApiBook)⟩ : TApiOffice))))] })] [.cl 0 cv11 [0] 2 false, .pf cz1] <|
.call (@F_r15_Do_ok rv11.1 (⟨8, [49], 12, 0, 0, 0, 0, 0, 2000, 0⟩ : TApiOp)) fun rv12 cv12 =>
.reg 2 [] [(2, hc cv12 [] true)] [.cl 0 cv12 [] 3 true] <|
.call (@F_mk_Tape_N_ok 100 rv11.2) fun rv1 cv1 =>
.call (@F_mk_Tape_N_ok 40 rv1.2) fun rv2 cv2 =>
.call (@F_mk_Tape_N_ok 20 rv2.2) fun rv3 cv3 =>
.reg 3 [] [(1, hc cv1 [0] false), (5, hc cv2 [0] false), (10, hc cv3 [0] false), (13, hv (AV.d (eL TApiOp.e ([(⟨1, [49], 12, (IntKind.i64.wrap (4400 + rv1.1)), 0, 50, 0, 0, 0, 0⟩ : TApiOp), (⟨2, [], 0, 4600, 1, 5, 1, (IntKind.i64.wrap (4600 + rv2.1)), 0, 0⟩ : TApiOp), (⟨3, [], 0, 4640, 1, 2, 0, 0, 0, 0⟩ : TApiOp), (⟨4, [], 0, (IntKind.i64.wrap (4650 + rv3.1)), 1, 0, 0, 0, 0, 0⟩ : TApiOp)] : List TApiOp))))] [.cl 2 cv1 [0] 3 false, .cl 1 cv2 [0] 3 false, .cl 0 cv3 [0] 3 false, .pf (leV_lit TApiOp.e ([(⟨1, [49], 12, (IntKind.i64.wrap (4400 + rv1.1)), 0, 50, 0, 0, 0, 0⟩ : TApiOp), (⟨2, [], 0, 4600, 1, 5, 1, (IntKind.i64.wrap (4600 + rv2.1)), 0, 0⟩ : TApiOp), (⟨3, [], 0, 4640, 1, 2, 0, 0, 0, 0⟩ : TApiOp), (⟨4, [], 0, (IntKind.i64.wrap (4650 + rv3.1)), 1, 0, 0, 0, 0, 0⟩ : TApiOp)] : List TApiOp))] <|
.range 4 4 rfl (.why (.pf (p := 4 < 2 ^ 63) (by decide))) 37 [0, 2, 3, 35, 36] (fun (_ : TApiOffice) => []) (fun (sv5 : TApiOffice) => [(2, (bx (TApiOffice.e sv5)))]) rv12.1 (S_mk_Control_b1 rv1 rv2 rv3) (fun (sv5 : TApiOffice) => 
.sh (H := NoH) (A := True) (.pf trivial) [(0, (vp 0)), (2, (vp 1)), (3, (vp 2)), (35, (AV.d (eL TApiOp.e ([(⟨1, [49], 12, (IntKind.i64.wrap (4400 + rv1.1)), 0, 50, 0, 0, 0, 0⟩ : TApiOp), (⟨2, [], 0, 4600, 1, 5, 1, (IntKind.i64.wrap (4600 + rv2.1)), 0, 0⟩ : TApiOp), (⟨3, [], 0, 4640, 1, 2, 0, 0, 0, 0⟩ : TApiOp), (⟨4, [], 0, (IntKind.i64.wrap (4650 + rv3.1)), 1, 0, 0, 0, 0, 0⟩ : TApiOp)] : List TApiOp)))), (36, (vi 4))] [(0, (vp 0)), (2, (vp 1)), (3, (vp 2)), (35, (AV.d (eL TApiOp.e ([(⟨1, [49], 12, (IntKind.i64.wrap (4400 + rv1.1)), 0, 50, 0, 0, 0, 0⟩ : TApiOp), (⟨2, [], 0, 4600, 1, 5, 1, (IntKind.i64.wrap (4600 + rv2.1)), 0, 0⟩ : TApiOp), (⟨3, [], 0, 4640, 1, 2, 0, 0, 0, 0⟩ : TApiOp), (⟨4, [], 0, (IntKind.i64.wrap (4650 + rv3.1)), 1, 0, 0, 0, 0, 0⟩ : TApiOp)] : List TApiOp)))), (36, (vi 4))] [(bx (TTape.e rv3.2)), (bx (TTreasurymakeCase.e (⟨[], (⟨0, [], (⟨[], [], [], []⟩ : TApiBook)⟩ : TApiOffice), (⟨[], 0, 0, [], [], [], []⟩ : TApiPot), [], 0⟩ : TTreasurymakeCase))), (bx (TApiOffice.e sv5))] [(bx (TTape.e rv3.2)), (bx (TTreasurymakeCase.e (⟨[], (⟨0, [], (⟨[], [], [], []⟩ : TApiBook)⟩ : TApiOffice), (⟨[], 0, 0, [], [], [], []⟩ : TApiPot), [], 0⟩ : TTreasurymakeCase))), (bx (TApiOffice.e sv5)), Ob.unb] (fun _ => shift_unb) (trF_refl _) <|
.call (@F_mk_Keys_ok 3 rv3.2) fun rv13 cv13 =>
.call (@F_mk_Tape_N_ok 500 rv13.2) fun rv14 cv14 =>
.reg 10 [1, 4, 7, 8] [(1, hc cv13 [0] false), (4, hc cv14 [0] false), (6, hv (AV.d (TTreasurymakeCase.e (⟨rv13.1, sv5, (⟨[], 0, 0, [], [], [], []⟩ : TApiPot), [], (IntKind.i64.wrap (4600 + rv14.1))⟩ : TTreasurymakeCase)))), (7, { h := .born 3 false, obs := [(3, (bx (TTreasurymakeCase.e (⟨[], (⟨0, [], (⟨[], [], [], []⟩ : TApiBook)⟩ : TApiOffice), (⟨[], 0, 0, [], [], [], []⟩ : TApiPot), [], 0⟩ : TTreasurymakeCase))))] })] [.cl 1 cv13 [0] 4 false, .cl 1 cv13 [0] 4 false, .cl 0 cv14 [0] 4 false, .cl 0 cv14 [0] 4 false, .pf (p := LeV (AV.d (DV.agg [(eL (DV.i .u64) rv13.1), (TApiOffice.e sv5), (DV.agg [(DV.str ([])), (DV.i .i64 0), (DV.i .i64 0), Z0, Z0, Z0, Z0]), Z0, (DV.i .i64 (IntKind.i64.wrap (4600 + rv14.1)))])) (AV.d (TTreasurymakeCase.e (⟨rv13.1, sv5, (⟨[], 0, 0, [], [], [], []⟩ : TApiPot), [], (IntKind.i64.wrap (4600 + rv14.1))⟩ : TTreasurymakeCase)))) (leV_dle rfl (DLe.agg (DLeL.cons (DLe.refl _) (DLeL.cons (DLe.refl _) (DLeL.cons (DLe.agg (DLeL.cons (DLe.refl _) (DLeL.cons (DLe.refl _) (DLeL.cons (DLe.refl _) (DLeL.cons DLe.sl0 (DLeL.cons DLe.sl0 (DLeL.cons DLe.sl0 (DLeL.cons DLe.sl0 DLeL.nil)))))))) (DLeL.cons DLe.sl0 (DLeL.cons (DLe.refl _) DLeL.nil))))))), .pf (p := LeV (AV.d (DV.agg [(eL (DV.i .u64) rv13.1), (TApiOffice.e sv5), (DV.agg [(DV.str ([])), (DV.i .i64 0), (DV.i .i64 0), Z0, Z0, Z0, Z0]), Z0, (DV.i .i64 (IntKind.i64.wrap (4600 + rv14.1)))])) (AV.d (TTreasurymakeCase.e (⟨rv13.1, sv5, (⟨[], 0, 0, [], [], [], []⟩ : TApiPot), [], (IntKind.i64.wrap (4600 + rv14.1))⟩ : TTreasurymakeCase)))) (leV_dle rfl (DLe.agg (DLeL.cons (DLe.refl _) (DLeL.cons (DLe.refl _) (DLeL.cons (DLe.agg (DLeL.cons (DLe.refl _) (DLeL.cons (DLe.refl _) (DLeL.cons (DLe.refl _) (DLeL.cons DLe.sl0 (DLeL.cons DLe.sl0 (DLeL.cons DLe.sl0 (DLeL.cons DLe.sl0 DLeL.nil)))))))) (DLeL.cons DLe.sl0 (DLeL.cons (DLe.refl _) DLeL.nil))))))), .pf cz7, .pf cz7, .pf cz7] <|
.cut none [0, 2, 3, 8] (fun (sv15 : List UInt8 × Int) => [(9, (AV.d (DV.str sv15.1))), (10, (vi sv15.2))]) (fun (_ : List UInt8 × Int) => []) (
.ite (decide ((sv5.Book.Orders.length : Int) > 0)) (
.guard [0 < sv5.Book.Orders.length, (0 : Int) ≤ (IntKind.i64.wrap (((sv5.Book.Orders.getD 0 default).Verification) - 1)), ((IntKind.i64.wrap (((sv5.Book.Orders.getD 0 default).Verification) - 1))).toNat < sv5.Book.Verifications.length, (0 : Int) ≤ (IntKind.i64.wrap (((sv5.Book.Verifications.getD (((IntKind.i64.wrap (((sv5.Book.Orders.getD 0 default).Verification) - 1))).toNat) default).Commitment) - 1)), ((IntKind.i64.wrap (((sv5.Book.Verifications.getD (((IntKind.i64.wrap (((sv5.Book.Orders.getD 0 default).Verification) - 1))).toNat) default).Commitment) - 1))).toNat < sv5.Book.Commitments.length, (0 : Int) ≤ (IntKind.i64.wrap (((sv5.Book.Commitments.getD (((IntKind.i64.wrap (((sv5.Book.Verifications.getD (((IntKind.i64.wrap (((sv5.Book.Orders.getD 0 default).Verification) - 1))).toNat) default).Commitment) - 1))).toNat) default).Reservation) - 1)), ((IntKind.i64.wrap (((sv5.Book.Commitments.getD (((IntKind.i64.wrap (((sv5.Book.Verifications.getD (((IntKind.i64.wrap (((sv5.Book.Orders.getD 0 default).Verification) - 1))).toNat) default).Commitment) - 1))).toNat) default).Reservation) - 1))).toNat < sv5.Book.Reservations.length] <|
.reg 13 [26, 27] [] [.pf (p := (0 : Int) ≤ 0) (by decide), .ev 0, .pf (p := (0 : Int) ≤ 0) (by decide), .ev 0, .ev 1, .ev 2, .ev 1, .ev 2, .ev 3, .ev 4, .ev 3, .ev 4, .ev 5, .ev 6, .ev 5, .ev 6] <|
.ret [] (.next ((sv5.Book.Reservations.getD (((IntKind.i64.wrap (((sv5.Book.Commitments.getD (((IntKind.i64.wrap (((sv5.Book.Verifications.getD (((IntKind.i64.wrap (((sv5.Book.Orders.getD 0 default).Verification) - 1))).toNat) default).Commitment) - 1))).toNat) default).Reservation) - 1))).toNat) default).Code, (sv5.Book.Reservations.getD (((IntKind.i64.wrap (((sv5.Book.Commitments.getD (((IntKind.i64.wrap (((sv5.Book.Verifications.getD (((IntKind.i64.wrap (((sv5.Book.Orders.getD 0 default).Verification) - 1))).toNat) default).Commitment) - 1))).toNat) default).Reservation) - 1))).toNat) default).Year))) (
.ret [] (.next ([49], 12)))) fun (sv15 : List UInt8 × Int) =>
.call (@F_r14_Used_ok sv5.Book sv15.1 sv15.2) fun rv7 cv7 =>
.reg 15 [] [(4, hc cv7 [] true)] [.cl 0 cv7 [] 4 true] <|
.reg 16 [] [(5, { h := .obj, obs := [(4, (eS 1 (DV.i .i64) ([rv7, rv7, rv7] : List Int)))] }), (6, hv (vl ([0, 0, 0] : List Int))), (7, hv (vl ([0, 0, 0] : List Int))), (11, hv (vl ([rv7, rv7, rv7] : List Int)))] [.pf (oLe_lit (sz := 1) (e := (DV.i .i64)) (l := ([rv7, rv7, rv7] : List Int))), .pf (leV_lit (DV.i .i64) ([0, 0, 0] : List Int)), .pf (leV_lit (DV.i .i64) ([0, 0, 0] : List Int)), .pf (leV_lit (DV.i .i64) ([rv7, rv7, rv7] : List Int))] <|
.guard [([rv7, rv7, rv7] : List Int).length < 2 ^ 63] <|
.range (([rv7, rv7, rv7] : List Int).length : Int) (([rv7, rv7, rv7] : List Int).length) rfl (.why (.ev 0)) 116 [0, 2, 8, 115] (fun (_ : TTape × (List Int) × TApiOffice × List UInt8 × Int × Int × (List Int) × (List Int) × (List Int) × (List TApiWarrant) × Int × (List Int)) => []) (fun (sv9 : TTape × (List Int) × TApiOffice × List UInt8 × Int × Int × (List Int) × (List Int) × (List Int) × (List TApiWarrant) × Int × (List Int)) => [(0, (bx (TTape.e sv9.1))), (3, (Ob.box (AV.agg [(AV.d (eL (DV.i .u64) sv9.2.1)), (AV.d (TApiOffice.e sv9.2.2.1)), (AV.agg [(AV.d (DV.str sv9.2.2.2.1)), (vi sv9.2.2.2.2.1), (vi sv9.2.2.2.2.2.1), (AV.ref 4 sv9.2.2.2.2.2.2.2.2.2.2.2.length 0 sv9.2.2.2.2.2.2.2.2.2.2.2.length), (vl sv9.2.2.2.2.2.2.1), (vl sv9.2.2.2.2.2.2.2.1), (vl sv9.2.2.2.2.2.2.2.2.1)]), (AV.d (eL TApiWarrant.e sv9.2.2.2.2.2.2.2.2.2.1)), (vi sv9.2.2.2.2.2.2.2.2.2.2.1)]))), (4, (eS 1 (DV.i .i64) sv9.2.2.2.2.2.2.2.2.2.2.2))]) (rv14.2, (⟨rv13.1, sv5, (⟨[], 0, 0, [], [], [], []⟩ : TApiPot), [], (IntKind.i64.wrap (4600 + rv14.1))⟩ : TTreasurymakeCase).Keys, (⟨rv13.1, sv5, (⟨[], 0, 0, [], [], [], []⟩ : TApiPot), [], (IntKind.i64.wrap (4600 + rv14.1))⟩ : TTreasurymakeCase).Office, sv15.1, sv15.2, 5000, ([0, 0, 0] : List Int), ([0, 0, 0] : List Int), ([rv7, rv7, rv7] : List Int), (⟨rv13.1, sv5, (⟨[], 0, 0, [], [], [], []⟩ : TApiPot), [], (IntKind.i64.wrap (4600 + rv14.1))⟩ : TTreasurymakeCase).Paid, (⟨rv13.1, sv5, (⟨[], 0, 0, [], [], [], []⟩ : TApiPot), [], (IntKind.i64.wrap (4600 + rv14.1))⟩ : TTreasurymakeCase).Day, ([rv7, rv7, rv7] : List Int)) (S_mk_Control_b2 sv5 rv7) (fun (sv9 : TTape × (List Int) × TApiOffice × List UInt8 × Int × Int × (List Int) × (List Int) × (List Int) × (List TApiWarrant) × Int × (List Int)) => 
.guard [sv9.2.2.2.2.2.2.2.2.2.2.2.length < 2 ^ 63] <|
.reg 22 [] [] [] <|
.frz 4 (.ev 0) none [] [1, 3] <|
.ret [] ((⟨sv9.2.1, sv9.2.2.1, (⟨sv9.2.2.2.1, sv9.2.2.2.2.1, sv9.2.2.2.2.2.1, sv9.2.2.2.2.2.2.2.2.2.2.2, sv9.2.2.2.2.2.2.1, sv9.2.2.2.2.2.2.2.1, sv9.2.2.2.2.2.2.2.2.1⟩ : TApiPot), sv9.2.2.2.2.2.2.2.2.2.1, sv9.2.2.2.2.2.2.2.2.2.2.1⟩ : TTreasurymakeCase), sv9.1)) id) id
def F_mk_Control (p0 : TTape) : Option R_mk_Control := (S_mk_Control p0).den
theorem F_mk_Control_ok {p0 : TTape} (r : R_mk_Control) (h : F_mk_Control p0 = some r) : CallOk Tryz.prog 9 [(vp 0)] [(bx (TTape.e p0))] (V_mk_Control r) (L_mk_Control r) := fOk (s := S_mk_Control p0) Tryz.func9 rfl (by kernel_rfl) h
abbrev R_r19_number := Bool
def V_r19_number (x : R_r19_number) : AV := (vb x)
def L_r19_number (_ : R_r19_number) : List Ob := []
def S_r19_number (a0 : Int) : Scr Tryz.prog R_r19_number R_r19_number :=
.ret [] (bif (decide (a0 ≥ 1)) then (decide (a0 ≤ 1000000)) else false)
def F_r19_number (a0 : Int) : Option R_r19_number := (S_r19_number a0).den
theorem F_r19_number_ok {a0 : Int} (r : R_r19_number) (h : F_r19_number a0 = some r) : CallOk Tryz.prog 90 [(vi a0)] [] (V_r19_number r) (L_r19_number r) := fOk (s := S_r19_number a0) Tryz.func90 rfl (by kernel_rfl) h
abbrev R_r19_Make := TApiWarrant × Int
def V_r19_Make (x : R_r19_Make) : AV := (AV.tup [(AV.d (TApiWarrant.e x.1)), (vi x.2)])
def L_r19_Make (_ : R_r19_Make) : List Ob := []
def S_r19_Make (a0 : TApiOffice) (a1 : Int) (a2 : Int) : Scr Tryz.prog R_r19_Make R_r19_Make :=
.call (@F_r15_Valid_ok a0) fun rv1 cv1 =>
.reg 1 [] [(1, hc cv1 [] true)] [.cl 0 cv1 [] 2 true] <|
.ite (!rv1) (
.ret [] ((⟨0, 0, [], 0, 0, 0, 0, 0, 0, 0, 0, 0, 0, 0⟩ : TApiWarrant), 1)) (
.ite (bif (decide (a1 < 1)) then true else (decide (a1 > (a0.Book.Orders.length : Int)))) (
.ret [] ((⟨0, 0, [], 0, 0, 0, 0, 0, 0, 0, 0, 0, 0, 0⟩ : TApiWarrant), 6)) (
.guard [(0 : Int) ≤ (IntKind.i64.wrap (a1 - 1)), ((IntKind.i64.wrap (a1 - 1))).toNat < a0.Book.Orders.length] <|
.reg 5 [] [] [.ev 0, .ev 1] <|
.ite ((a0.Book.Orders.getD (((IntKind.i64.wrap (a1 - 1))).toNat) default).Back) (
.ret [] ((⟨0, 0, [], 0, 0, 0, 0, 0, 0, 0, 0, 0, 0, 0⟩ : TApiWarrant), 9)) (
.call (@F_r19_number_ok a2) fun rv2 cv2 =>
.reg 8 [] [(1, hc cv2 [] true)] [.cl 0 cv2 [] 3 true] <|
.ite (!rv2) (
.ret [] ((⟨0, 0, [], 0, 0, 0, 0, 0, 0, 0, 0, 0, 0, 0⟩ : TApiWarrant), 2)) (
.guard [(0 : Int) ≤ (IntKind.i64.wrap (((a0.Book.Orders.getD (((IntKind.i64.wrap (a1 - 1))).toNat) default).Verification) - 1)), ((IntKind.i64.wrap (((a0.Book.Orders.getD (((IntKind.i64.wrap (a1 - 1))).toNat) default).Verification) - 1))).toNat < a0.Book.Verifications.length] <|
.reg 10 [] [] [.ev 0, .ev 1] <|
.guard [(0 : Int) ≤ (IntKind.i64.wrap (((a0.Book.Verifications.getD (((IntKind.i64.wrap (((a0.Book.Orders.getD (((IntKind.i64.wrap (a1 - 1))).toNat) default).Verification) - 1))).toNat) default).Commitment) - 1)), ((IntKind.i64.wrap (((a0.Book.Verifications.getD (((IntKind.i64.wrap (((a0.Book.Orders.getD (((IntKind.i64.wrap (a1 - 1))).toNat) default).Verification) - 1))).toNat) default).Commitment) - 1))).toNat < a0.Book.Commitments.length] <|
.reg 11 [] [] [.ev 0, .ev 1] <|
.guard [(0 : Int) ≤ (IntKind.i64.wrap (((a0.Book.Commitments.getD (((IntKind.i64.wrap (((a0.Book.Verifications.getD (((IntKind.i64.wrap (((a0.Book.Orders.getD (((IntKind.i64.wrap (a1 - 1))).toNat) default).Verification) - 1))).toNat) default).Commitment) - 1))).toNat) default).Reservation) - 1)), ((IntKind.i64.wrap (((a0.Book.Commitments.getD (((IntKind.i64.wrap (((a0.Book.Verifications.getD (((IntKind.i64.wrap (((a0.Book.Orders.getD (((IntKind.i64.wrap (a1 - 1))).toNat) default).Verification) - 1))).toNat) default).Commitment) - 1))).toNat) default).Reservation) - 1))).toNat < a0.Book.Reservations.length] <|
.reg 12 [] [] [.ev 0, .ev 1] <|
.ret [] ((⟨a2, a0.Number, (a0.Book.Reservations.getD (((IntKind.i64.wrap (((a0.Book.Commitments.getD (((IntKind.i64.wrap (((a0.Book.Verifications.getD (((IntKind.i64.wrap (((a0.Book.Orders.getD (((IntKind.i64.wrap (a1 - 1))).toNat) default).Verification) - 1))).toNat) default).Commitment) - 1))).toNat) default).Reservation) - 1))).toNat) default).Code, (a0.Book.Reservations.getD (((IntKind.i64.wrap (((a0.Book.Commitments.getD (((IntKind.i64.wrap (((a0.Book.Verifications.getD (((IntKind.i64.wrap (((a0.Book.Orders.getD (((IntKind.i64.wrap (a1 - 1))).toNat) default).Verification) - 1))).toNat) default).Commitment) - 1))).toNat) default).Reservation) - 1))).toNat) default).Year, (a0.Book.Verifications.getD (((IntKind.i64.wrap (((a0.Book.Orders.getD (((IntKind.i64.wrap (a1 - 1))).toNat) default).Verification) - 1))).toNat) default).Number, (a0.Book.Orders.getD (((IntKind.i64.wrap (a1 - 1))).toNat) default).Attempt, (a0.Book.Commitments.getD (((IntKind.i64.wrap (((a0.Book.Verifications.getD (((IntKind.i64.wrap (((a0.Book.Orders.getD (((IntKind.i64.wrap (a1 - 1))).toNat) default).Verification) - 1))).toNat) default).Commitment) - 1))).toNat) default).Number, (a0.Book.Reservations.getD (((IntKind.i64.wrap (((a0.Book.Commitments.getD (((IntKind.i64.wrap (((a0.Book.Verifications.getD (((IntKind.i64.wrap (((a0.Book.Orders.getD (((IntKind.i64.wrap (a1 - 1))).toNat) default).Verification) - 1))).toNat) default).Commitment) - 1))).toNat) default).Reservation) - 1))).toNat) default).Number, (a0.Book.Verifications.getD (((IntKind.i64.wrap (((a0.Book.Orders.getD (((IntKind.i64.wrap (a1 - 1))).toNat) default).Verification) - 1))).toNat) default).Amount, (a0.Book.Commitments.getD (((IntKind.i64.wrap (((a0.Book.Verifications.getD (((IntKind.i64.wrap (((a0.Book.Orders.getD (((IntKind.i64.wrap (a1 - 1))).toNat) default).Verification) - 1))).toNat) default).Commitment) - 1))).toNat) default).Payee, (a0.Book.Orders.getD (((IntKind.i64.wrap (a1 - 1))).toNat) default).Day, (a0.Book.Commitments.getD (((IntKind.i64.wrap (((a0.Book.Verifications.getD (((IntKind.i64.wrap (((a0.Book.Orders.getD (((IntKind.i64.wrap (a1 - 1))).toNat) default).Verification) - 1))).toNat) default).Commitment) - 1))).toNat) default).Due, 0, 0⟩ : TApiWarrant), 0)))))
def F_r19_Make (a0 : TApiOffice) (a1 : Int) (a2 : Int) : Option R_r19_Make := (S_r19_Make a0 a1 a2).den
theorem F_r19_Make_ok {a0 : TApiOffice} {a1 : Int} {a2 : Int} (r : R_r19_Make) (h : F_r19_Make a0 a1 a2 = some r) : CallOk Tryz.prog 38 [(AV.d (TApiOffice.e a0)), (vi a1), (vi a2)] [] (V_r19_Make r) (L_r19_Make r) := fOk (s := S_r19_Make a0 a1 a2) Tryz.func38 rfl (by kernel_rfl) h
abbrev R_r19_Plain := Bool
def V_r19_Plain (x : R_r19_Plain) : AV := (vb x)
def L_r19_Plain (_ : R_r19_Plain) : List Ob := []
def S_r19_Plain_b1 (a0 : TApiWarrant) (iv1 : Nat) (_ : Unit) : Scr Tryz.prog R_r19_Plain (Step (Unit) R_r19_Plain) :=
.reg 3 [] [] [.pf (nn iv1), .ev 0] <|
.call (@F_r19_number_ok (([a0.Number, a0.Reservation, a0.Commitment, a0.Verification, a0.Attempt, a0.Payee] : List Int).getD iv1 default)) fun rv2 cv2 =>
.reg 4 [] [(1, hc cv2 [] true)] [.cl 0 cv2 [] 1 true] <|
.ite (!rv2) (
.ret [] (.ret false)) (
.ret [] (.cont ()))
def S_r19_Plain_b2 (a0 : TApiWarrant) (iv3 : Nat) (_ : Unit) : Scr Tryz.prog R_r19_Plain (Step (Unit) R_r19_Plain) :=
.reg 9 [] [] [.pf (nn iv3), .ev 0] <|
.ite (bif (decide ((([a0.Day, a0.Due] : List Int).getD iv3 default) < 0)) then true else (decide ((([a0.Day, a0.Due] : List Int).getD iv3 default) > 35990))) (
.ret [] (.ret false)) (
.ret [] (.cont ()))
def S_r19_Plain (a0 : TApiWarrant) : Scr Tryz.prog R_r19_Plain R_r19_Plain :=
.reg 1 [] [(12, hv (vl ([a0.Number, a0.Reservation, a0.Commitment, a0.Verification, a0.Attempt, a0.Payee] : List Int)))] [.pf (leV_lit (DV.i .i64) ([a0.Number, a0.Reservation, a0.Commitment, a0.Verification, a0.Attempt, a0.Payee] : List Int))] <|
.range 6 6 rfl (.why (.pf (p := 6 < 2 ^ 63) (by decide))) 21 [1, 19, 20] (fun (_ : Unit) => []) (fun (_ : Unit) => []) () (S_r19_Plain_b1 a0) (fun (_ : Unit) => 
.reg 7 [] [(4, hv (vl ([a0.Day, a0.Due] : List Int)))] [.pf (leV_lit (DV.i .i64) ([a0.Day, a0.Due] : List Int))] <|
.range 2 2 rfl (.why (.pf (p := 2 < 2 ^ 63) (by decide))) 35 [1, 33, 34] (fun (_ : Unit) => []) (fun (_ : Unit) => []) () (S_r19_Plain_b2 a0) (fun (_ : Unit) => 
.calld [(bif (decide (a0.Office ≥ 1)) then (decide (a0.Office ≤ 6)) else false) = true] default (@F_r03_Good_ok a0.Code) fun rv4 cv4 =>
.reg 13 [] [(11, hc cv4 [] true)] [.clg 0 [(bif (decide (a0.Office ≥ 1)) then (decide (a0.Office ≤ 6)) else false) = true] cv4 [] 1 true] <|
.ret [] (bif (bif (bif (bif (bif (bif (decide (a0.Office ≥ 1)) then (decide (a0.Office ≤ 6)) else false) then rv4 else false) then (decide (a0.Year ≥ 0)) else false) then (decide (a0.Year ≤ 99)) else false) then (decide (a0.Amount ≥ 1)) else false) then (decide (a0.Amount ≤ 1000000000000)) else false)) id) id
def F_r19_Plain (a0 : TApiWarrant) : Option R_r19_Plain := (S_r19_Plain a0).den
theorem F_r19_Plain_ok {a0 : TApiWarrant} (r : R_r19_Plain) (h : F_r19_Plain a0 = some r) : CallOk Tryz.prog 39 [(AV.d (TApiWarrant.e a0))] [] (V_r19_Plain r) (L_r19_Plain r) := fOk (s := S_r19_Plain a0) Tryz.func39 rfl (by kernel_rfl) h
abbrev R_r19_Bytes := List UInt8
def V_r19_Bytes (x : R_r19_Bytes) : AV := (AV.d (DV.str x))
def L_r19_Bytes (_ : R_r19_Bytes) : List Ob := []
def S_r19_Bytes_b1 (a0 : TApiWarrant) (iv1 : Nat) (sv2 : List UInt8) : Scr Tryz.prog R_r19_Bytes (Step (List UInt8) R_r19_Bytes) :=
.reg 6 [] [] [.pf (nn iv1), .ev 0] <|
.call (@F_strconv_Itoa_ok (([a0.Year, a0.Reservation, a0.Commitment, a0.Verification, a0.Attempt, a0.Amount, a0.Payee, a0.Day, a0.Due] : List Int).getD iv1 default)) fun rv3 cv3 =>
.guard [([32]).length + rv3.length < 2 ^ 63, sv2.length + (([32]) ++ rv3).length < 2 ^ 63] <|
.reg 7 [] [(2, hc cv3 [] true)] [.cl 2 cv3 [] 1 true, .ev 0, .ev 1] <|
.ret [] (.cont (sv2 ++ (([32]) ++ rv3)))
def S_r19_Bytes (a0 : TApiWarrant) : Scr Tryz.prog R_r19_Bytes R_r19_Bytes :=
.call (@F_r19_Plain_ok a0) fun rv4 cv4 =>
.reg 1 [] [(1, hc cv4 [] true)] [.cl 0 cv4 [] 1 true] <|
.ite (!rv4) (
.ret [] ([])) (
.call (@F_strconv_Itoa_ok a0.Number) fun rv5 cv5 =>
.call (@F_strconv_Itoa_ok a0.Office) fun rv6 cv6 =>
.guard [([119, 97, 114, 114, 97, 110, 116, 32]).length + rv5.length < 2 ^ 63, (([119, 97, 114, 114, 97, 110, 116, 32]) ++ rv5).length + ([32]).length < 2 ^ 63, ((([119, 97, 114, 114, 97, 110, 116, 32]) ++ rv5) ++ ([32])).length + rv6.length < 2 ^ 63, (((([119, 97, 114, 114, 97, 110, 116, 32]) ++ rv5) ++ ([32])) ++ rv6).length + ([32]).length < 2 ^ 63, ((((([119, 97, 114, 114, 97, 110, 116, 32]) ++ rv5) ++ ([32])) ++ rv6) ++ ([32])).length + a0.Code.length < 2 ^ 63] <|
.reg 3 [] [(2, hc cv5 [] true), (7, hc cv6 [] true)] [.cl 6 cv5 [] 1 true, .ev 0, .ev 1, .cl 5 cv6 [] 1 true, .ev 2, .ev 3, .ev 4] <|
.reg 4 [] [(18, hv (vl ([a0.Year, a0.Reservation, a0.Commitment, a0.Verification, a0.Attempt, a0.Amount, a0.Payee, a0.Day, a0.Due] : List Int)))] [.pf (leV_lit (DV.i .i64) ([a0.Year, a0.Reservation, a0.Commitment, a0.Verification, a0.Attempt, a0.Amount, a0.Payee, a0.Day, a0.Due] : List Int))] <|
.range 9 9 rfl (.why (.pf (p := 9 < 2 ^ 63) (by decide))) 42 [40, 41] (fun (sv2 : List UInt8) => [(3, (AV.d (DV.str sv2)))]) (fun (_ : List UInt8) => []) (((((([119, 97, 114, 114, 97, 110, 116, 32]) ++ rv5) ++ ([32])) ++ rv6) ++ ([32])) ++ a0.Code) (S_r19_Bytes_b1 a0) (fun (sv2 : List UInt8) => 
.ret [] sv2) id)
def F_r19_Bytes (a0 : TApiWarrant) : Option R_r19_Bytes := (S_r19_Bytes a0).den
theorem F_r19_Bytes_ok {a0 : TApiWarrant} (r : R_r19_Bytes) (h : F_r19_Bytes a0 = some r) : CallOk Tryz.prog 93 [(AV.d (TApiWarrant.e a0))] [] (V_r19_Bytes r) (L_r19_Bytes r) := fOk (s := S_r19_Bytes a0) Tryz.func93 rfl (by kernel_rfl) h
abbrev R_r19_Hash := Int
def V_r19_Hash (x : R_r19_Hash) : AV := (AV.d (DV.i .u64 x))
def L_r19_Hash (_ : R_r19_Hash) : List Ob := []
def S_r19_Hash_b1 (a0 : List UInt8) (sv1 : Int × Int) : Scr Tryz.prog R_r19_Hash (Step (Int × Int) R_r19_Hash) :=
.ite (decide (sv1.2 < (a0.length : Int))) (
.guard [(0 : Int) ≤ sv1.2, (sv1.2).toNat < a0.length] <|
.reg 5 [] [] [.ev 0, .ev 1] <|
.ret [] (.cont ((IntKind.u64.wrap ((IntKind.u64.wrap ((BitVec.ofInt IntKind.u64.bits sv1.1 ^^^ BitVec.ofInt IntKind.u64.bits (IntKind.u64.wrap ((a0.getD ((sv1.2).toNat) 0).toNat : Int))).toNat : Int)) * 1099511628211)), (IntKind.i64.wrap (sv1.2 + 1))))) (
.ret [] (.brk (sv1.1, sv1.2)))
def S_r19_Hash (a0 : List UInt8) : Scr Tryz.prog R_r19_Hash R_r19_Hash :=
.iter [0] (fun (sv1 : Int × Int) => [(3, (AV.d (DV.i .u64 sv1.1))), (4, (vi sv1.2))]) (fun (_ : Int × Int) => []) (14695981039346656037, 0) (S_r19_Hash_b1 a0) (fun (sv1 : Int × Int) =>
.ret [] sv1.1) id
def F_r19_Hash (a0 : List UInt8) : Option R_r19_Hash := (S_r19_Hash a0).den
theorem F_r19_Hash_ok {a0 : List UInt8} (r : R_r19_Hash) (h : F_r19_Hash a0 = some r) : CallOk Tryz.prog 92 [(AV.d (DV.str a0))] [] (V_r19_Hash r) (L_r19_Hash r) := fOk (s := S_r19_Hash a0) Tryz.func92 rfl (by kernel_rfl) h
abbrev R_r19_signature := Int
def V_r19_signature (x : R_r19_signature) : AV := (AV.d (DV.i .u64 x))
def L_r19_signature (_ : R_r19_signature) : List Ob := []
def S_r19_signature_b1 (a0 : Int) (sv1 : (List Int) × Int) : Scr Tryz.prog R_r19_signature (Step ((List Int) × Int) R_r19_signature) :=
.ite (decide (sv1.2 ≥ 0)) (
.guard [(0 : Int) ≤ sv1.2, (sv1.1.length + 1) * (2 * 1) ≤ 2 ^ 48] <|
.reg 5 [] [(5, hv (AV.d (eL (DV.i .u8) ([(IntKind.u8.wrap (a0.fdiv (2 ^ (min sv1.2.toNat IntKind.u64.bits))))] : List Int)))), (6, { h := .obj, cast := some (AV.ref 1 ((sv1.1 ++ ([(IntKind.u8.wrap (a0.fdiv (2 ^ (min sv1.2.toNat IntKind.u64.bits))))] : List Int)).length) 0 ((sv1.1 ++ ([(IntKind.u8.wrap (a0.fdiv (2 ^ (min sv1.2.toNat IntKind.u64.bits))))] : List Int)).length)), obs := [(1, (eS 1 (DV.i .u8) (sv1.1 ++ ([(IntKind.u8.wrap (a0.fdiv (2 ^ (min sv1.2.toNat IntKind.u64.bits))))] : List Int))))] })] [.ev 0, .pf (leV_lit (DV.i .u8) ([(IntKind.u8.wrap (a0.fdiv (2 ^ (min sv1.2.toNat IntKind.u64.bits))))] : List Int)), .pf (Eq.refl sv1.1.length), .pf (Eq.refl sv1.1.length), .pf (p := ∀ k, k < 1 → (AV.d ((DV.i .u8) (([(IntKind.u8.wrap (a0.fdiv (2 ^ (min sv1.2.toNat IntKind.u64.bits))))] : List Int).getD k default))).wd = 1) (fun _ _ => rfl), .ev 1, .pf (leV_app (o := 1) (l := sv1.1) (x := ([(IntKind.u8.wrap (a0.fdiv (2 ^ (min sv1.2.toNat IntKind.u64.bits))))] : List Int))), .pf (oLe_app (sz := 1) (e := (DV.i .u8)) (l := sv1.1) (x := ([(IntKind.u8.wrap (a0.fdiv (2 ^ (min sv1.2.toNat IntKind.u64.bits))))] : List Int)))] <|
.ret [] (.cont ((sv1.1 ++ ([(IntKind.u8.wrap (a0.fdiv (2 ^ (min sv1.2.toNat IntKind.u64.bits))))] : List Int)), (IntKind.i64.wrap (sv1.2 - 8))))) (
.ret [] (.brk (sv1.1, sv1.2)))
def S_r19_signature (a0 : Int) (a1 : TApiWarrant) : Scr Tryz.prog R_r19_signature R_r19_signature :=
.reg 2 [] [] [] <|
.bor 1 (fun j => AV.d ((DV.i .u8) (([] : List Int).getD j default))) [5] <|
.iter [0, 3] (fun (sv1 : (List Int) × Int) => [(5, (AV.ref 1 sv1.1.length 0 sv1.1.length)), (6, (vi sv1.2))]) (fun (sv1 : (List Int) × Int) => [(1, (eS 1 (DV.i .u8) sv1.1))]) (([] : List Int), 56) (S_r19_signature_b1 a0) (fun (sv1 : (List Int) × Int) =>
.guard [sv1.1.length < 2 ^ 63] <|
.frz 1 (.ev 0) none [5] [] <|
.call (@F_r19_Bytes_ok a1) fun rv2 cv2 =>
.call (@F_r19_Hash_ok (((List.range sv1.1.length).map fun j => UInt8.ofNat ((sv1.1.getD j default)).toNat) ++ rv2)) fun rv3 cv3 =>
.guard [((List.range sv1.1.length).map fun j => UInt8.ofNat ((sv1.1.getD j default)).toNat).length + rv2.length < 2 ^ 63] <|
.reg 6 [] [(3, hc cv2 [] true), (5, hc cv3 [] true)] [.pf (p := ∀ j, j < sv1.1.length → ∃ k, (DV.i .u8 (sv1.1.getD j default)) = DV.i .u8 k) (fun _ _ => ⟨_, rfl⟩), .cl 2 cv2 [] 2 true, .ev 0, .cl 1 cv3 [] 2 true] <|
.ret [] rv3) id
def F_r19_signature (a0 : Int) (a1 : TApiWarrant) : Option R_r19_signature := (S_r19_signature a0 a1).den
theorem F_r19_signature_ok {a0 : Int} {a1 : TApiWarrant} (r : R_r19_signature) (h : F_r19_signature a0 a1 = some r) : CallOk Tryz.prog 48 [(AV.d (DV.i .u64 a0)), (AV.d (TApiWarrant.e a1))] [] (V_r19_signature r) (L_r19_signature r) := fOk (s := S_r19_signature a0 a1) Tryz.func48 rfl (by kernel_rfl) h
abbrev R_r19_Sign := TApiWarrant × Int
def V_r19_Sign (x : R_r19_Sign) : AV := (AV.tup [(AV.d (TApiWarrant.e x.1)), (vi x.2)])
def L_r19_Sign (_ : R_r19_Sign) : List Ob := []
def S_r19_Sign (a0 : (List Int)) (a1 : TApiWarrant) (a2 : Bool) : Scr Tryz.prog R_r19_Sign R_r19_Sign :=
.call (@F_r19_Plain_ok a1) fun rv1 cv1 =>
.reg 1 [] [(1, hc cv1 [] true)] [.cl 0 cv1 [] 2 true] <|
.ite (!rv1) (
.ret [] ((⟨0, 0, [], 0, 0, 0, 0, 0, 0, 0, 0, 0, 0, 0⟩ : TApiWarrant), 1)) (
.cut none [0, 2, 4, 6] (fun (sv2 : Int) => [(8, (vi sv2))]) (fun (_ : Int) => []) (
.ite a2 (
.ret [] (.next (IntKind.i64.wrap ((IntKind.i64.wrap (2 * (IntKind.i64.wrap (a1.Office - 1)))) + 1)))) (
.ret [] (.next (IntKind.i64.wrap (2 * (IntKind.i64.wrap (a1.Office - 1))))))) fun (sv2 : Int) =>
.ite (decide (sv2 ≥ (a0.length : Int))) (
.ret [] ((⟨0, 0, [], 0, 0, 0, 0, 0, 0, 0, 0, 0, 0, 0⟩ : TApiWarrant), 6)) (
.ite (!a2) (
.call (@F_r19_signature_ok (a0.getD ((sv2).toNat) default) a1) fun rv3 cv3 =>
.guard [(0 : Int) ≤ sv2, (sv2).toNat < a0.length] <|
.reg 9 [7] [(5, hc cv3 [] true)] [.ev 0, .ev 1, .cl 2 cv3 [] 2 true] <|
.ret [] ((⟨a1.Number, a1.Office, a1.Code, a1.Year, a1.Verification, a1.Attempt, a1.Commitment, a1.Reservation, a1.Amount, a1.Payee, a1.Day, a1.Due, rv3, a1.Second⟩ : TApiWarrant), 0)) (
.call (@F_r19_signature_ok (a0.getD (((IntKind.i64.wrap (sv2 - 1))).toNat) default) a1) fun rv4 cv4 =>
.guard [(0 : Int) ≤ (IntKind.i64.wrap (sv2 - 1)), ((IntKind.i64.wrap (sv2 - 1))).toNat < a0.length] <|
.reg 11 [] [(6, hc cv4 [] true)] [.ev 0, .ev 1, .cl 2 cv4 [] 2 true] <|
.ite (rv4 != a1.First) (
.ret [] ((⟨0, 0, [], 0, 0, 0, 0, 0, 0, 0, 0, 0, 0, 0⟩ : TApiWarrant), 18)) (
.call (@F_r19_signature_ok (a0.getD ((sv2).toNat) default) a1) fun rv5 cv5 =>
.guard [(0 : Int) ≤ sv2, (sv2).toNat < a0.length] <|
.reg 13 [7] [(5, hc cv5 [] true)] [.ev 0, .ev 1, .cl 2 cv5 [] 2 true] <|
.ret [] ((⟨a1.Number, a1.Office, a1.Code, a1.Year, a1.Verification, a1.Attempt, a1.Commitment, a1.Reservation, a1.Amount, a1.Payee, a1.Day, a1.Due, a1.First, rv5⟩ : TApiWarrant), 0)))))
def F_r19_Sign (a0 : (List Int)) (a1 : TApiWarrant) (a2 : Bool) : Option R_r19_Sign := (S_r19_Sign a0 a1 a2).den
theorem F_r19_Sign_ok {a0 : (List Int)} {a1 : TApiWarrant} {a2 : Bool} (r : R_r19_Sign) (h : F_r19_Sign a0 a1 a2 = some r) : CallOk Tryz.prog 15 [(AV.d (eL (DV.i .u64) a0)), (AV.d (TApiWarrant.e a1)), (vb a2)] [] (V_r19_Sign r) (L_r19_Sign r) := fOk (s := S_r19_Sign a0 a1 a2) Tryz.func15 rfl (by kernel_rfl) h
abbrev R_mk_Signed := TApiWarrant × Bool
def V_mk_Signed (x : R_mk_Signed) : AV := (AV.tup [(AV.d (TApiWarrant.e x.1)), (vb x.2)])
def L_mk_Signed (_ : R_mk_Signed) : List Ob := []
def S_mk_Signed (a0 : TTreasurymakeCase) (a1 : Int) (a2 : Int) : Scr Tryz.prog R_mk_Signed R_mk_Signed :=
.call (@F_r19_Make_ok a0.Office a1 a2) fun rv1 cv1 =>
.reg 1 [] [(4, hc cv1 [] true)] [.cl 0 cv1 [] 2 true] <|
.call (@F_r19_Sign_ok a0.Keys rv1.1 false) fun rv2 cv2 =>
.reg 2 [] [(3, hc cv2 [] true)] [.cl 0 cv2 [] 3 true] <|
.call (@F_r19_Sign_ok a0.Keys rv2.1 true) fun rv3 cv3 =>
.reg 3 [] [(3, hc cv3 [] true)] [.cl 0 cv3 [] 3 true] <|
.ret [] (rv3.1, (bif (bif (rv1.2 == 0) then (rv2.2 == 0) else false) then (rv3.2 == 0) else false))
def F_mk_Signed (a0 : TTreasurymakeCase) (a1 : Int) (a2 : Int) : Option R_mk_Signed := (S_mk_Signed a0 a1 a2).den
theorem F_mk_Signed_ok {a0 : TTreasurymakeCase} {a1 : Int} {a2 : Int} (r : R_mk_Signed) (h : F_mk_Signed a0 a1 a2 = some r) : CallOk Tryz.prog 10 [(AV.d (TTreasurymakeCase.e a0)), (vi a1), (vi a2)] [] (V_mk_Signed r) (L_mk_Signed r) := fOk (s := S_mk_Signed a0 a1 a2) Tryz.func10 rfl (by kernel_rfl) h
end
end Go.Proofs.YtclaojamgomjbaaGreatDoor
/- What the functions compute, and that their calls return it. No condition. -/
namespace Go.Proofs.YtclaojamgomjbaaGreatDoor
open Go Go.TA
noncomputable section
set_option maxRecDepth 100000
theorem cz8 : LeV (AV.d (DV.agg [(eL (DV.i .u64) ([3, 4] : List Int)), (DV.agg [(DV.i .i64 1), (eL TApiRight.e ([(⟨[49], 12, 50, 0, 0⟩ : TApiRight)] : List TApiRight)), (DV.agg [(eL TApiReservation.e ([(⟨1, [49], 12, 4320, 50, 0⟩ : TApiReservation)] : List TApiReservation)), (eL TApiCommitment.e ([(⟨1, 1, 4320, 30, 0, 2, 4400⟩ : TApiCommitment)] : List TApiCommitment)), (eL TApiVerification.e ([(⟨1, 1, 4330, 30⟩ : TApiVerification)] : List TApiVerification)), (eL TApiOrder.e ([(⟨1, 1, 1, 4340, false⟩ : TApiOrder)] : List TApiOrder))])]), (DV.agg [(DV.str ([49])), (DV.i .i64 12), (DV.i .i64 50), (eL (DV.i .i64) ([50] : List Int)), (eL (DV.i .i64) ([0] : List Int)), (eL (DV.i .i64) ([0] : List Int)), (eL (DV.i .i64) ([0] : List Int))]), Z0, (DV.i .i64 4410)])) (AV.d (TTreasurymakeCase.e (⟨([3, 4] : List Int), (⟨1, ([(⟨[49], 12, 50, 0, 0⟩ : TApiRight)] : List TApiRight), (⟨([(⟨1, [49], 12, 4320, 50, 0⟩ : TApiReservation)] : List TApiReservation), ([(⟨1, 1, 4320, 30, 0, 2, 4400⟩ : TApiCommitment)] : List TApiCommitment), ([(⟨1, 1, 4330, 30⟩ : TApiVerification)] : List TApiVerification), ([(⟨1, 1, 1, 4340, false⟩ : TApiOrder)] : List TApiOrder)⟩ : TApiBook)⟩ : TApiOffice), (⟨[49], 12, 50, ([50] : List Int), ([0] : List Int), ([0] : List Int), ([0] : List Int)⟩ : TApiPot), [], 4410⟩ : TTreasurymakeCase))) := leV_dle rfl (DLe.agg (DLeL.cons (DLe.refl _) (DLeL.cons (DLe.agg (DLeL.cons (DLe.refl _) (DLeL.cons (DLe.refl _) (DLeL.cons (DLe.agg (DLeL.cons (DLe.refl _) (DLeL.cons (DLe.refl _) (DLeL.cons (DLe.refl _) (DLeL.cons (DLe.refl _) DLeL.nil))))) DLeL.nil)))) (DLeL.cons (DLe.agg (DLeL.cons (DLe.refl _) (DLeL.cons (DLe.refl _) (DLeL.cons (DLe.refl _) (DLeL.cons (DLe.refl _) (DLeL.cons (DLe.refl _) (DLeL.cons (DLe.refl _) (DLeL.cons (DLe.refl _) DLeL.nil)))))))) (DLeL.cons DLe.sl0 (DLeL.cons (DLe.refl _) DLeL.nil))))))
abbrev R_w20_small := TTreasurymakeCase
def V_w20_small (x : R_w20_small) : AV := (AV.d (TTreasurymakeCase.e x))
def L_w20_small (_ : R_w20_small) : List Ob := []
def S_w20_small : Scr Tryz.prog R_w20_small R_w20_small :=
.reg 0 [] [(0, { obs := [(0, (bx (TTreasurymakeCase.e (⟨[], (⟨0, [], (⟨[], [], [], []⟩ : TApiBook)⟩ : TApiOffice), (⟨[], 0, 0, [], [], [], []⟩ : TApiPot), [], 0⟩ : TTreasurymakeCase))))] })] [.pf cz7] <|
.reg 1 [] [(1, hv (AV.d (eL TApiRight.e ([(⟨[49], 12, 50, 0, 0⟩ : TApiRight)] : List TApiRight)))), (3, hv (AV.d (eL TApiReservation.e ([(⟨1, [49], 12, 4320, 50, 0⟩ : TApiReservation)] : List TApiReservation)))), (5, hv (AV.d (eL TApiCommitment.e ([(⟨1, 1, 4320, 30, 0, 2, 4400⟩ : TApiCommitment)] : List TApiCommitment)))), (7, hv (AV.d (eL TApiVerification.e ([(⟨1, 1, 4330, 30⟩ : TApiVerification)] : List TApiVerification)))), (9, hv (AV.d (eL TApiOrder.e ([(⟨1, 1, 1, 4340, false⟩ : TApiOrder)] : List TApiOrder)))), (12, { obs := [(1, (bx (TApiOffice.e (⟨0, [], (⟨[], [], [], []⟩ : TApiBook)⟩ : TApiOffice))))] })] [.pf (leV_lit TApiRight.e ([(⟨[49], 12, 50, 0, 0⟩ : TApiRight)] : List TApiRight)), .pf (leV_lit TApiReservation.e ([(⟨1, [49], 12, 4320, 50, 0⟩ : TApiReservation)] : List TApiReservation)), .pf (leV_lit TApiCommitment.e ([(⟨1, 1, 4320, 30, 0, 2, 4400⟩ : TApiCommitment)] : List TApiCommitment)), .pf (leV_lit TApiVerification.e ([(⟨1, 1, 4330, 30⟩ : TApiVerification)] : List TApiVerification)), .pf (leV_lit TApiOrder.e ([(⟨1, 1, 1, 4340, false⟩ : TApiOrder)] : List TApiOrder)), .pf cz1] <|
.reg 2 [] [(0, hv (AV.d (eL (DV.i .u64) ([3, 4] : List Int)))), (2, hv (vl ([50] : List Int))), (3, hv (vl ([0] : List Int))), (4, hv (vl ([0] : List Int))), (5, hv (vl ([0] : List Int))), (7, hv (AV.d (TTreasurymakeCase.e (⟨([3, 4] : List Int), (⟨1, ([(⟨[49], 12, 50, 0, 0⟩ : TApiRight)] : List TApiRight), (⟨([(⟨1, [49], 12, 4320, 50, 0⟩ : TApiReservation)] : List TApiReservation), ([(⟨1, 1, 4320, 30, 0, 2, 4400⟩ : TApiCommitment)] : List TApiCommitment), ([(⟨1, 1, 4330, 30⟩ : TApiVerification)] : List TApiVerification), ([(⟨1, 1, 1, 4340, false⟩ : TApiOrder)] : List TApiOrder)⟩ : TApiBook)⟩ : TApiOffice), (⟨[49], 12, 50, ([50] : List Int), ([0] : List Int), ([0] : List Int), ([0] : List Int)⟩ : TApiPot), [], 4410⟩ : TTreasurymakeCase))))] [.pf (leV_lit (DV.i .u64) ([3, 4] : List Int)), .pf (leV_lit (DV.i .i64) ([50] : List Int)), .pf (leV_lit (DV.i .i64) ([0] : List Int)), .pf (leV_lit (DV.i .i64) ([0] : List Int)), .pf (leV_lit (DV.i .i64) ([0] : List Int)), .pf cz8] <|
.ret [] (⟨([3, 4] : List Int), (⟨1, ([(⟨[49], 12, 50, 0, 0⟩ : TApiRight)] : List TApiRight), (⟨([(⟨1, [49], 12, 4320, 50, 0⟩ : TApiReservation)] : List TApiReservation), ([(⟨1, 1, 4320, 30, 0, 2, 4400⟩ : TApiCommitment)] : List TApiCommitment), ([(⟨1, 1, 4330, 30⟩ : TApiVerification)] : List TApiVerification), ([(⟨1, 1, 1, 4340, false⟩ : TApiOrder)] : List TApiOrder)⟩ : TApiBook)⟩ : TApiOffice), (⟨[49], 12, 50, ([50] : List Int), ([0] : List Int), ([0] : List Int), ([0] : List Int)⟩ : TApiPot), [], 4410⟩ : TTreasurymakeCase)
def F_w20_small : Option R_w20_small := (S_w20_small).den
theorem F_w20_small_ok (r : R_w20_small) (h : F_w20_small = some r) : CallOk Tryz.prog 47 [] [] (V_w20_small r) (L_w20_small r) := fOk (s := S_w20_small) Tryz.func47 rfl (by kernel_rfl) h
abbrev R_warrant_among := Bool
def V_warrant_among (x : R_warrant_among) : AV := (vb x)
def L_warrant_among (_ : R_warrant_among) : List Ob := []
def S_warrant_among (a0 : Int) (a1 : Int) (a2 : Int) : Scr Tryz.prog R_warrant_among R_warrant_among :=
.ret [] (bif (decide (a0 ≥ a1)) then (decide (a0 ≤ a2)) else false)
def F_warrant_among (a0 : Int) (a1 : Int) (a2 : Int) : Option R_warrant_among := (S_warrant_among a0 a1 a2).den
theorem F_warrant_among_ok {a0 : Int} {a1 : Int} {a2 : Int} (r : R_warrant_among) (h : F_warrant_among a0 a1 a2 = some r) : CallOk Tryz.prog 105 [(vi a0), (vi a1), (vi a2)] [] (V_warrant_among r) (L_warrant_among r) := fOk (s := S_warrant_among a0 a1 a2) Tryz.func105 rfl (by kernel_rfl) h
abbrev R_warrant_number := Bool
def V_warrant_number (x : R_warrant_number) : AV := (vb x)
def L_warrant_number (_ : R_warrant_number) : List Ob := []
def S_warrant_number (a0 : Int) : Scr Tryz.prog R_warrant_number R_warrant_number :=
.call (@F_warrant_among_ok a0 1 1000000) fun rv1 cv1 =>
.reg 1 [] [(1, hc cv1 [] true)] [.cl 0 cv1 [] 0 true] <|
.ret [] rv1
def F_warrant_number (a0 : Int) : Option R_warrant_number := (S_warrant_number a0).den
theorem F_warrant_number_ok {a0 : Int} (r : R_warrant_number) (h : F_warrant_number a0 = some r) : CallOk Tryz.prog 104 [(vi a0)] [] (V_warrant_number r) (L_warrant_number r) := fOk (s := S_warrant_number a0) Tryz.func104 rfl (by kernel_rfl) h
abbrev R_warrant_day := Bool
def V_warrant_day (x : R_warrant_day) : AV := (vb x)
def L_warrant_day (_ : R_warrant_day) : List Ob := []
def S_warrant_day (a0 : Int) : Scr Tryz.prog R_warrant_day R_warrant_day :=
.call (@F_warrant_among_ok a0 0 35990) fun rv1 cv1 =>
.reg 1 [] [(1, hc cv1 [] true)] [.cl 0 cv1 [] 0 true] <|
.ret [] rv1
def F_warrant_day (a0 : Int) : Option R_warrant_day := (S_warrant_day a0).den
theorem F_warrant_day_ok {a0 : Int} (r : R_warrant_day) (h : F_warrant_day a0 = some r) : CallOk Tryz.prog 107 [(vi a0)] [] (V_warrant_day r) (L_warrant_day r) := fOk (s := S_warrant_day a0) Tryz.func107 rfl (by kernel_rfl) h
abbrev R_warrant_Plain := Bool
def V_warrant_Plain (x : R_warrant_Plain) : AV := (vb x)
def L_warrant_Plain (_ : R_warrant_Plain) : List Ob := []
def S_warrant_Plain_b1 (a0 : TApiWarrant) (iv1 : Nat) (_ : Unit) : Scr Tryz.prog R_warrant_Plain (Step (Unit) R_warrant_Plain) :=
.reg 3 [] [] [.pf (nn iv1), .ev 0] <|
.call (@F_warrant_number_ok (([a0.Number, a0.Reservation, a0.Commitment, a0.Verification, a0.Attempt, a0.Payee] : List Int).getD iv1 default)) fun rv2 cv2 =>
.reg 4 [] [(1, hc cv2 [] true)] [.cl 0 cv2 [] 1 true] <|
.ite (!rv2) (
.ret [] (.ret false)) (
.ret [] (.cont ()))
def S_warrant_Plain (a0 : TApiWarrant) : Scr Tryz.prog R_warrant_Plain R_warrant_Plain :=
.reg 1 [] [(12, hv (vl ([a0.Number, a0.Reservation, a0.Commitment, a0.Verification, a0.Attempt, a0.Payee] : List Int)))] [.pf (leV_lit (DV.i .i64) ([a0.Number, a0.Reservation, a0.Commitment, a0.Verification, a0.Attempt, a0.Payee] : List Int))] <|
.range 6 6 rfl (.why (.pf (p := 6 < 2 ^ 63) (by decide))) 19 [1, 17, 18] (fun (_ : Unit) => []) (fun (_ : Unit) => []) () (S_warrant_Plain_b1 a0) (fun (_ : Unit) => 
.call (@F_warrant_among_ok a0.Office 1 6) fun rv3 cv3 =>
.calld [rv3 = true] default (@F_classification_Parts_ok a0.Code) fun rv4 cv4 =>
.calld [(bif rv3 then (decide ((rv4.length : Int) > 0)) else false) = true] default (@F_warrant_among_ok a0.Year 0 99) fun rv5 cv5 =>
.calld [(bif (bif rv3 then (decide ((rv4.length : Int) > 0)) else false) then rv5 else false) = true] default (@F_warrant_among_ok a0.Amount 1 1000000000000) fun rv6 cv6 =>
.calld [(bif (bif (bif rv3 then (decide ((rv4.length : Int) > 0)) else false) then rv5 else false) then rv6 else false) = true] default (@F_warrant_day_ok a0.Day) fun rv7 cv7 =>
.calld [(bif (bif (bif (bif rv3 then (decide ((rv4.length : Int) > 0)) else false) then rv5 else false) then rv6 else false) then rv7 else false) = true] default (@F_warrant_day_ok a0.Due) fun rv8 cv8 =>
.reg 7 [] [(2, hc cv3 [] true), (6, hc cv4 [] true), (13, hc cv5 [] true), (18, hc cv6 [] true), (23, hc cv7 [] true), (28, hc cv8 [] true)] [.cl 10 cv3 [] 1 true, .clg 8 [rv3 = true] cv4 [] 1 true, .clg 6 [(bif rv3 then (decide ((rv4.length : Int) > 0)) else false) = true] cv5 [] 1 true, .clg 4 [(bif (bif rv3 then (decide ((rv4.length : Int) > 0)) else false) then rv5 else false) = true] cv6 [] 1 true, .clg 2 [(bif (bif (bif rv3 then (decide ((rv4.length : Int) > 0)) else false) then rv5 else false) then rv6 else false) = true] cv7 [] 1 true, .clg 0 [(bif (bif (bif (bif rv3 then (decide ((rv4.length : Int) > 0)) else false) then rv5 else false) then rv6 else false) then rv7 else false) = true] cv8 [] 1 true] <|
.ret [] (bif (bif (bif (bif (bif rv3 then (decide ((rv4.length : Int) > 0)) else false) then rv5 else false) then rv6 else false) then rv7 else false) then rv8 else false)) id
def F_warrant_Plain (a0 : TApiWarrant) : Option R_warrant_Plain := (S_warrant_Plain a0).den
theorem F_warrant_Plain_ok {a0 : TApiWarrant} (r : R_warrant_Plain) (h : F_warrant_Plain a0 = some r) : CallOk Tryz.prog 64 [(AV.d (TApiWarrant.e a0))] [] (V_warrant_Plain r) (L_warrant_Plain r) := fOk (s := S_warrant_Plain a0) Tryz.func64 rfl (by kernel_rfl) h
abbrev R_control_Control_1 := Int
def V_control_Control_1 (x : R_control_Control_1) : AV := (vi x)
def L_control_Control_1 (_ : R_control_Control_1) : List Ob := []
def S_control_Control_1 : Scr Tryz.prog R_control_Control_1 R_control_Control_1 :=
.ret [] 0
def F_control_Control_1 : Option R_control_Control_1 := (S_control_Control_1).den
theorem F_control_Control_1_ok (r : R_control_Control_1) (h : F_control_Control_1 = some r) : CallOk Tryz.prog 49 [] [] (V_control_Control_1 r) (L_control_Control_1 r) := fOk (s := S_control_Control_1) Tryz.func49 rfl (by kernel_rfl) h
abbrev R_warrant_Bytes := List UInt8
def V_warrant_Bytes (x : R_warrant_Bytes) : AV := (AV.d (DV.str x))
def L_warrant_Bytes (_ : R_warrant_Bytes) : List Ob := []
def S_warrant_Bytes_b1 (a0 : TApiWarrant) (iv1 : Nat) (sv2 : (List (List UInt8))) : Scr Tryz.prog R_warrant_Bytes (Step ((List (List UInt8))) R_warrant_Bytes) :=
.reg 6 [] [] [.pf (nn iv1), .ev 0] <|
.call (@F_strconv_Itoa_ok (([a0.Year, a0.Reservation, a0.Commitment, a0.Verification, a0.Attempt, a0.Amount, a0.Payee, a0.Day, a0.Due] : List Int).getD iv1 default)) fun rv3 cv3 =>
.guard [(sv2.length + 1) * (2 * 16) ≤ 2 ^ 48] <|
.reg 7 [] [(2, hc cv3 [] true), (3, hv (AV.d (eL DV.str ([rv3] : List (List UInt8))))), (4, { h := .obj, cast := some (AV.ref 1 ((sv2 ++ ([rv3] : List (List UInt8))).length) 0 ((sv2 ++ ([rv3] : List (List UInt8))).length)), obs := [(1, (eS 1 DV.str (sv2 ++ ([rv3] : List (List UInt8)))))] })] [.cl 1 cv3 [] 2 true, .pf (leV_lit DV.str ([rv3] : List (List UInt8))), .pf (Eq.refl sv2.length), .pf (Eq.refl sv2.length), .pf (p := ∀ k, k < 1 → (AV.d (DV.str (([rv3] : List (List UInt8)).getD k default))).wd = 1) (fun _ _ => rfl), .ev 0, .pf (leV_app (o := 1) (l := sv2) (x := ([rv3] : List (List UInt8)))), .pf (oLe_app (sz := 1) (e := DV.str) (l := sv2) (x := ([rv3] : List (List UInt8))))] <|
.ret [] (.cont (sv2 ++ ([rv3] : List (List UInt8))))
def S_warrant_Bytes (a0 : TApiWarrant) : Scr Tryz.prog R_warrant_Bytes R_warrant_Bytes :=
.call (@F_warrant_Plain_ok a0) fun rv4 cv4 =>
.reg 1 [] [(1, hc cv4 [] true)] [.cl 0 cv4 [] 1 true] <|
.ite (!rv4) (
.ret [] ([])) (
.call (@F_strconv_Itoa_ok a0.Number) fun rv5 cv5 =>
.call (@F_strconv_Itoa_ok a0.Office) fun rv6 cv6 =>
.reg 3 [8] [(2, hc cv5 [] true), (5, hc cv6 [] true), (8, { h := .obj, obs := [(1, (eS 1 DV.str ([[119, 97, 114, 114, 97, 110, 116], rv5, rv6, a0.Code] : List (List UInt8))))] })] [.cl 1 cv5 [] 1 true, .cl 0 cv6 [] 1 true, .pf (oLe_lit (sz := 1) (e := DV.str) (l := ([[119, 97, 114, 114, 97, 110, 116], rv5, rv6, a0.Code] : List (List UInt8))))] <|
.reg 4 [] [(18, hv (vl ([a0.Year, a0.Reservation, a0.Commitment, a0.Verification, a0.Attempt, a0.Amount, a0.Payee, a0.Day, a0.Due] : List Int)))] [.pf (leV_lit (DV.i .i64) ([a0.Year, a0.Reservation, a0.Commitment, a0.Verification, a0.Attempt, a0.Amount, a0.Payee, a0.Day, a0.Due] : List Int))] <|
.range 9 9 rfl (.why (.pf (p := 9 < 2 ^ 63) (by decide))) 38 [36, 37] (fun (sv2 : (List (List UInt8))) => [(3, (AV.ref 1 sv2.length 0 sv2.length))]) (fun (sv2 : (List (List UInt8))) => [(1, (eS 1 DV.str sv2))]) ([[119, 97, 114, 114, 97, 110, 116], rv5, rv6, a0.Code] : List (List UInt8)) (S_warrant_Bytes_b1 a0) (fun (sv2 : (List (List UInt8))) => 
.guard [sv2.length < 2 ^ 63] <|
.frz 1 (.ev 0) none [3] [] <|
.call (@F_strings_Join_ok sv2 ([32])) fun rv7 cv7 =>
.reg 9 [] [(1, hc cv7 [] true)] [.cl 0 cv7 [] 2 true] <|
.ret [] rv7) id)
def F_warrant_Bytes (a0 : TApiWarrant) : Option R_warrant_Bytes := (S_warrant_Bytes a0).den
theorem F_warrant_Bytes_ok {a0 : TApiWarrant} (r : R_warrant_Bytes) (h : F_warrant_Bytes a0 = some r) : CallOk Tryz.prog 147 [(AV.d (TApiWarrant.e a0))] [] (V_warrant_Bytes r) (L_warrant_Bytes r) := fOk (s := S_warrant_Bytes a0) Tryz.func147 rfl (by kernel_rfl) h
abbrev R_warrant_Hash := Int
def V_warrant_Hash (x : R_warrant_Hash) : AV := (AV.d (DV.i .u64 x))
def L_warrant_Hash (_ : R_warrant_Hash) : List Ob := []
def S_warrant_Hash_b1 (a0 : List UInt8) (iv1 : Nat) (sv2 : Int) : Scr Tryz.prog R_warrant_Hash (Step (Int) R_warrant_Hash) :=
.reg 5 [] [] [.pf (nn iv1), .ev 0] <|
.ret [] (.cont (IntKind.u64.wrap ((IntKind.u64.wrap ((BitVec.ofInt IntKind.u64.bits sv2 ^^^ BitVec.ofInt IntKind.u64.bits (IntKind.u64.wrap ((a0.getD iv1 0).toNat : Int))).toNat : Int)) * 1099511628211)))
def S_warrant_Hash (a0 : List UInt8) : Scr Tryz.prog R_warrant_Hash R_warrant_Hash :=
.guard [a0.length < 2 ^ 63] <|
.range (a0.length : Int) a0.length rfl (.why (.ev 0)) 7 [0, 6] (fun (sv2 : Int) => [(3, (AV.d (DV.i .u64 sv2)))]) (fun (_ : Int) => []) 14695981039346656037 (S_warrant_Hash_b1 a0) (fun (sv2 : Int) => 
.ret [] sv2) id
def F_warrant_Hash (a0 : List UInt8) : Option R_warrant_Hash := (S_warrant_Hash a0).den
theorem F_warrant_Hash_ok {a0 : List UInt8} (r : R_warrant_Hash) (h : F_warrant_Hash a0 = some r) : CallOk Tryz.prog 146 [(AV.d (DV.str a0))] [] (V_warrant_Hash r) (L_warrant_Hash r) := fOk (s := S_warrant_Hash a0) Tryz.func146 rfl (by kernel_rfl) h
abbrev R_warrant_signature := Int
def V_warrant_signature (x : R_warrant_signature) : AV := (AV.d (DV.i .u64 x))
def L_warrant_signature (_ : R_warrant_signature) : List Ob := []
def S_warrant_signature_b1 (a0 : Int) (iv1 : Nat) (sv2 : (Nat → Int)) : Scr Tryz.prog R_warrant_signature (Step ((Nat → Int)) R_warrant_signature) :=
.guard [(0 : Int) ≤ (IntKind.i64.wrap (56 - (IntKind.i64.wrap (8 * (iv1 : Int)))))] <|
.reg 5 [] [(8, { obs := [(1, (bx (eA 1 8 (DV.i .u8) (fun j => if j = iv1 then (IntKind.u8.wrap (a0.fdiv (2 ^ (min (IntKind.i64.wrap (56 - (IntKind.i64.wrap (8 * (iv1 : Int))))).toNat IntKind.u64.bits)))) else sv2 j))))] })] [.ev 0, .pf (nn iv1), .ev 1, .ev 1, .pf (p := OLe (bx (DV.arr 1 8 fun j => if j = iv1 then (DV.i .u8 (IntKind.u8.wrap (a0.fdiv (2 ^ (min (IntKind.i64.wrap (56 - (IntKind.i64.wrap (8 * (iv1 : Int))))).toNat IntKind.u64.bits))))) else (DV.i .u8) (sv2 j))) (bx (eA 1 8 (DV.i .u8) (fun j => if j = iv1 then (IntKind.u8.wrap (a0.fdiv (2 ^ (min (IntKind.i64.wrap (56 - (IntKind.i64.wrap (8 * (iv1 : Int))))).toNat IntKind.u64.bits)))) else sv2 j)))) (oLe_box (dLe_arrSet (e := (DV.i .u8)) (i := iv1) (x := (IntKind.u8.wrap (a0.fdiv (2 ^ (min (IntKind.i64.wrap (56 - (IntKind.i64.wrap (8 * (iv1 : Int))))).toNat IntKind.u64.bits))))) (g := sv2)))] <|
.ret [] (.cont (fun j => if j = iv1 then (IntKind.u8.wrap (a0.fdiv (2 ^ (min (IntKind.i64.wrap (56 - (IntKind.i64.wrap (8 * (iv1 : Int))))).toNat IntKind.u64.bits)))) else sv2 j))
def S_warrant_signature (a0 : Int) (a1 : TApiWarrant) : Scr Tryz.prog R_warrant_signature R_warrant_signature :=
.range 8 8 rfl (.why (.pf (p := 8 < 2 ^ 63) (by decide))) 7 [0, 3, 5] (fun (_ : (Nat → Int)) => []) (fun (sv2 : (Nat → Int)) => [(1, (bx (eA 1 8 (DV.i .u8) sv2)))]) (fun j => 0) (S_warrant_signature_b1 a0) (fun (sv2 : (Nat → Int)) => 
.sh (H := FbH 1 (eA 1 8 (DV.i .u8) sv2)) (A := True) (.pf trivial) [(0, (AV.d (DV.i .u64 a0))), (3, (vp 0)), (5, (vp 1))] [(0, (AV.d (DV.i .u64 a0))), (3, (vp 0)), (5, (AV.imm (eA 1 8 (DV.i .u8) sv2)))] [(bx (TApiWarrant.e a1)), (bx (eA 1 8 (DV.i .u8) sv2))] [(bx (TApiWarrant.e a1)), Ob.dead] (fun _ => shift_arr (P := [(bx (TApiWarrant.e a1))]) (D := []) rfl) (trF_at (k := 0) rfl (TrS.keep _) (trF_at (k := 1) rfl (TrS.keep _) (trF_at (k := 2) rfl TrS.fb trF_nil))) <|
.call (@F_warrant_Bytes_ok a1) fun rv3 cv3 =>
.call (@F_warrant_Hash_ok (((List.range 8).map fun j => UInt8.ofNat ((sv2 j)).toNat) ++ rv3)) fun rv4 cv4 =>
.guard [((List.range 8).map fun j => UInt8.ofNat ((sv2 j)).toNat).length + rv3.length < 2 ^ 63] <|
.reg 7 [] [(3, hc cv3 [] true), (5, hc cv4 [] true)] [.pf (p := 8 = 8) rfl, .pf (p := 8 < 2 ^ 63) (by decide), .pf (p := ∀ j, j < 8 → ∃ k, (DV.i .u8 (sv2 j)) = DV.i .u8 k) (fun _ _ => ⟨_, rfl⟩), .cl 2 cv3 [] 2 true, .ev 0, .cl 1 cv4 [] 2 true] <|
.ret [] rv4) id
def F_warrant_signature (a0 : Int) (a1 : TApiWarrant) : Option R_warrant_signature := (S_warrant_signature a0 a1).den
theorem F_warrant_signature_ok {a0 : Int} {a1 : TApiWarrant} (r : R_warrant_signature) (h : F_warrant_signature a0 a1 = some r) : CallOk Tryz.prog 128 [(AV.d (DV.i .u64 a0)), (AV.d (TApiWarrant.e a1))] [] (V_warrant_signature r) (L_warrant_signature r) := fOk (s := S_warrant_signature a0 a1) Tryz.func128 rfl (by kernel_rfl) h
abbrev R_warrant_Sign := TApiWarrant × Int
def V_warrant_Sign (x : R_warrant_Sign) : AV := (AV.tup [(AV.d (TApiWarrant.e x.1)), (vi x.2)])
def L_warrant_Sign (_ : R_warrant_Sign) : List Ob := []
def S_warrant_Sign (a0 : (List Int)) (a1 : TApiWarrant) (a2 : Bool) : Scr Tryz.prog R_warrant_Sign R_warrant_Sign :=
.call (@F_warrant_Plain_ok a1) fun rv1 cv1 =>
.reg 1 [] [(1, hc cv1 [] true)] [.cl 0 cv1 [] 2 true] <|
.ite (!rv1) (
.ret [] ((⟨0, 0, [], 0, 0, 0, 0, 0, 0, 0, 0, 0, 0, 0⟩ : TApiWarrant), 1)) (
.ite (bif (!a2) then (decide ((IntKind.i64.wrap (2 * (IntKind.i64.wrap (a1.Office - 1)))) < (a0.length : Int))) else false) (
.call (@F_warrant_signature_ok (a0.getD (((IntKind.i64.wrap (2 * (IntKind.i64.wrap (a1.Office - 1))))).toNat) default) a1) fun rv2 cv2 =>
.guard [(0 : Int) ≤ (IntKind.i64.wrap (2 * (IntKind.i64.wrap (a1.Office - 1)))), ((IntKind.i64.wrap (2 * (IntKind.i64.wrap (a1.Office - 1))))).toNat < a0.length] <|
.reg 5 [7] [(5, hc cv2 [] true)] [.ev 0, .ev 1, .cl 2 cv2 [] 2 true] <|
.ret [] ((⟨a1.Number, a1.Office, a1.Code, a1.Year, a1.Verification, a1.Attempt, a1.Commitment, a1.Reservation, a1.Amount, a1.Payee, a1.Day, a1.Due, rv2, a1.Second⟩ : TApiWarrant), 0)) (
.ite (decide ((IntKind.i64.wrap ((IntKind.i64.wrap (2 * (IntKind.i64.wrap (a1.Office - 1)))) + 1)) ≥ (a0.length : Int))) (
.ret [] ((⟨0, 0, [], 0, 0, 0, 0, 0, 0, 0, 0, 0, 0, 0⟩ : TApiWarrant), 6)) (
.call (@F_warrant_signature_ok (a0.getD (((IntKind.i64.wrap (2 * (IntKind.i64.wrap (a1.Office - 1))))).toNat) default) a1) fun rv3 cv3 =>
.guard [(0 : Int) ≤ (IntKind.i64.wrap (2 * (IntKind.i64.wrap (a1.Office - 1)))), ((IntKind.i64.wrap (2 * (IntKind.i64.wrap (a1.Office - 1))))).toNat < a0.length] <|
.reg 9 [] [(7, hc cv3 [] true)] [.ev 0, .ev 1, .cl 2 cv3 [] 2 true] <|
.ite (a1.First != rv3) (
.ret [] ((⟨0, 0, [], 0, 0, 0, 0, 0, 0, 0, 0, 0, 0, 0⟩ : TApiWarrant), 18)) (
.call (@F_warrant_signature_ok (a0.getD (((IntKind.i64.wrap ((IntKind.i64.wrap (2 * (IntKind.i64.wrap (a1.Office - 1)))) + 1))).toNat) default) a1) fun rv4 cv4 =>
.guard [(0 : Int) ≤ (IntKind.i64.wrap ((IntKind.i64.wrap (2 * (IntKind.i64.wrap (a1.Office - 1)))) + 1)), ((IntKind.i64.wrap ((IntKind.i64.wrap (2 * (IntKind.i64.wrap (a1.Office - 1)))) + 1))).toNat < a0.length] <|
.reg 11 [8] [(6, hc cv4 [] true)] [.ev 0, .ev 1, .cl 2 cv4 [] 2 true] <|
.ret [] ((⟨a1.Number, a1.Office, a1.Code, a1.Year, a1.Verification, a1.Attempt, a1.Commitment, a1.Reservation, a1.Amount, a1.Payee, a1.Day, a1.Due, a1.First, rv4⟩ : TApiWarrant), 0)))))
def F_warrant_Sign (a0 : (List Int)) (a1 : TApiWarrant) (a2 : Bool) : Option R_warrant_Sign := (S_warrant_Sign a0 a1 a2).den
theorem F_warrant_Sign_ok {a0 : (List Int)} {a1 : TApiWarrant} {a2 : Bool} (r : R_warrant_Sign) (h : F_warrant_Sign a0 a1 a2 = some r) : CallOk Tryz.prog 94 [(AV.d (eL (DV.i .u64) a0)), (AV.d (TApiWarrant.e a1)), (vb a2)] [] (V_warrant_Sign r) (L_warrant_Sign r) := fOk (s := S_warrant_Sign a0 a1 a2) Tryz.func94 rfl (by kernel_rfl) h
abbrev R_warrant_Check := Int
def V_warrant_Check (x : R_warrant_Check) : AV := (vi x)
def L_warrant_Check (_ : R_warrant_Check) : List Ob := []
def S_warrant_Check (a0 : (List Int)) (a1 : TApiWarrant) : Scr Tryz.prog R_warrant_Check R_warrant_Check :=
.call (@F_warrant_Sign_ok a0 a1 true) fun rv1 cv1 =>
.reg 1 [] [(2, hc cv1 [] true)] [.cl 0 cv1 [] 1 true] <|
.ite (bif (rv1.2 == 0) then (rv1.1.Second != a1.Second) else false) (
.ret [] 18) (
.ret [] rv1.2)
def F_warrant_Check (a0 : (List Int)) (a1 : TApiWarrant) : Option R_warrant_Check := (S_warrant_Check a0 a1).den
theorem F_warrant_Check_ok {a0 : (List Int)} {a1 : TApiWarrant} (r : R_warrant_Check) (h : F_warrant_Check a0 a1 = some r) : CallOk Tryz.prog 51 [(AV.d (eL (DV.i .u64) a0)), (AV.d (TApiWarrant.e a1))] [] (V_warrant_Check r) (L_warrant_Check r) := fOk (s := S_warrant_Check a0 a1) Tryz.func51 rfl (by kernel_rfl) h
abbrev R_control_Control_2 := Int
def V_control_Control_2 (x : R_control_Control_2) : AV := (vi x)
def L_control_Control_2 (p0 : (List Int)) (p1 : TApiWarrant) (_ : R_control_Control_2) : List Ob := [(bx (eL (DV.i .u64) p0)), (bx (TApiWarrant.e p1))]
def S_control_Control_2 (p0 : (List Int)) (p1 : TApiWarrant) : Scr Tryz.prog R_control_Control_2 R_control_Control_2 :=
.call (@F_warrant_Check_ok p0 p1) fun rv1 cv1 =>
.reg 1 [] [(2, hc cv1 [] true)] [.cl 0 cv1 [] 2 true] <|
.ret [] rv1
def F_control_Control_2 (p0 : (List Int)) (p1 : TApiWarrant) : Option R_control_Control_2 := (S_control_Control_2 p0 p1).den
theorem F_control_Control_2_ok {p0 : (List Int)} {p1 : TApiWarrant} (r : R_control_Control_2) (h : F_control_Control_2 p0 p1 = some r) : CallOk Tryz.prog 50 [(vp 0), (vp 1)] [(bx (eL (DV.i .u64) p0)), (bx (TApiWarrant.e p1))] (V_control_Control_2 r) (L_control_Control_2 p0 p1 r) := fOk (s := S_control_Control_2 p0 p1) Tryz.func50 rfl (by kernel_rfl) h
abbrev R_commitment_among := Bool
def V_commitment_among (x : R_commitment_among) : AV := (vb x)
def L_commitment_among (_ : R_commitment_among) : List Ob := []
def S_commitment_among (a0 : Int) (a1 : Int) (a2 : Int) : Scr Tryz.prog R_commitment_among R_commitment_among :=
.ret [] (bif (decide (a0 ≥ a1)) then (decide (a0 ≤ a2)) else false)
def F_commitment_among (a0 : Int) (a1 : Int) (a2 : Int) : Option R_commitment_among := (S_commitment_among a0 a1 a2).den
theorem F_commitment_among_ok {a0 : Int} {a1 : Int} {a2 : Int} (r : R_commitment_among) (h : F_commitment_among a0 a1 a2 = some r) : CallOk Tryz.prog 188 [(vi a0), (vi a1), (vi a2)] [] (V_commitment_among r) (L_commitment_among r) := fOk (s := S_commitment_among a0 a1 a2) Tryz.func188 rfl (by kernel_rfl) h
abbrev R_commitment_day := Bool
def V_commitment_day (x : R_commitment_day) : AV := (vb x)
def L_commitment_day (_ : R_commitment_day) : List Ob := []
def S_commitment_day (a0 : Int) : Scr Tryz.prog R_commitment_day R_commitment_day :=
.call (@F_commitment_among_ok a0 0 35990) fun rv1 cv1 =>
.reg 1 [] [(1, hc cv1 [] true)] [.cl 0 cv1 [] 0 true] <|
.ret [] rv1
def F_commitment_day (a0 : Int) : Option R_commitment_day := (S_commitment_day a0).den
theorem F_commitment_day_ok {a0 : Int} (r : R_commitment_day) (h : F_commitment_day a0 = some r) : CallOk Tryz.prog 189 [(vi a0)] [] (V_commitment_day r) (L_commitment_day r) := fOk (s := S_commitment_day a0) Tryz.func189 rfl (by kernel_rfl) h
abbrev R_calendar_Valid := Bool
def V_calendar_Valid (x : R_calendar_Valid) : AV := (vb x)
def L_calendar_Valid (_ : R_calendar_Valid) : List Ob := []
def S_calendar_Valid (a0 : Int) : Scr Tryz.prog R_calendar_Valid R_calendar_Valid :=
.ret [] (bif (decide (a0 ≥ 0)) then (decide (a0 ≤ 36000)) else false)
def F_calendar_Valid (a0 : Int) : Option R_calendar_Valid := (S_calendar_Valid a0).den
theorem F_calendar_Valid_ok {a0 : Int} (r : R_calendar_Valid) (h : F_calendar_Valid a0 = some r) : CallOk Tryz.prog 99 [(vi a0)] [] (V_calendar_Valid r) (L_calendar_Valid r) := fOk (s := S_calendar_Valid a0) Tryz.func99 rfl (by kernel_rfl) h
abbrev R_calendar_Year := Int
def V_calendar_Year (x : R_calendar_Year) : AV := (vi x)
def L_calendar_Year (_ : R_calendar_Year) : List Ob := []
def S_calendar_Year (a0 : Int) : Scr Tryz.prog R_calendar_Year R_calendar_Year :=
.call (@F_calendar_Valid_ok a0) fun rv1 cv1 =>
.reg 1 [] [(1, hc cv1 [] true)] [.cl 0 cv1 [] 0 true] <|
.ite (!rv1) (
.ret [] (-1)) (
.reg 3 [] [] [.pf (p := (360 : Int) ≠ 0) (by decide)] <|
.ret [] (IntKind.i64.wrap (a0.tdiv 360)))
def F_calendar_Year (a0 : Int) : Option R_calendar_Year := (S_calendar_Year a0).den
theorem F_calendar_Year_ok {a0 : Int} (r : R_calendar_Year) (h : F_calendar_Year a0 = some r) : CallOk Tryz.prog 100 [(vi a0)] [] (V_calendar_Year r) (L_calendar_Year r) := fOk (s := S_calendar_Year a0) Tryz.func100 rfl (by kernel_rfl) h
abbrev R_commitment_amount := Bool
def V_commitment_amount (x : R_commitment_amount) : AV := (vb x)
def L_commitment_amount (_ : R_commitment_amount) : List Ob := []
def S_commitment_amount (a0 : Int) : Scr Tryz.prog R_commitment_amount R_commitment_amount :=
.call (@F_commitment_among_ok a0 1 1000000000000) fun rv1 cv1 =>
.reg 1 [] [(1, hc cv1 [] true)] [.cl 0 cv1 [] 0 true] <|
.ret [] rv1
def F_commitment_amount (a0 : Int) : Option R_commitment_amount := (S_commitment_amount a0).den
theorem F_commitment_amount_ok {a0 : Int} (r : R_commitment_amount) (h : F_commitment_amount a0 = some r) : CallOk Tryz.prog 190 [(vi a0)] [] (V_commitment_amount r) (L_commitment_amount r) := fOk (s := S_commitment_amount a0) Tryz.func190 rfl (by kernel_rfl) h
abbrev R_commitment_committed := Int × Int
def V_commitment_committed (x : R_commitment_committed) : AV := (AV.tup [(vi x.1), (vi x.2)])
def L_commitment_committed (_ : R_commitment_committed) : List Ob := []
def S_commitment_committed_b1 (a0 : TApiBook) (a1 : Int) (iv1 : Nat) (sv2 : Int × Int) : Scr Tryz.prog R_commitment_committed (Step (Int × Int) R_commitment_committed) :=
.reg 3 [] [] [.pf (nn iv1), .ev 0] <|
.ite (((a0.Commitments.getD iv1 default).Reservation) == a1) (
.ret [] (.cont ((IntKind.i64.wrap (sv2.1 + ((a0.Commitments.getD iv1 default).Amount))), (IntKind.i64.wrap (sv2.2 + ((a0.Commitments.getD iv1 default).Released)))))) (
.ret [] (.cont (sv2.1, sv2.2)))
def S_commitment_committed (a0 : TApiBook) (a1 : Int) : Scr Tryz.prog R_commitment_committed R_commitment_committed :=
.range (a0.Commitments.length : Int) a0.Commitments.length rfl (.slot 9) 11 [1, 9, 10] (fun (sv2 : Int × Int) => [(4, (vi sv2.1)), (5, (vi sv2.2))]) (fun (_ : Int × Int) => []) (0, 0) (S_commitment_committed_b1 a0 a1) (fun (sv2 : Int × Int) => 
.ret [] (sv2.1, sv2.2)) id
def F_commitment_committed (a0 : TApiBook) (a1 : Int) : Option R_commitment_committed := (S_commitment_committed a0 a1).den
theorem F_commitment_committed_ok {a0 : TApiBook} {a1 : Int} (r : R_commitment_committed) (h : F_commitment_committed a0 a1 = some r) : CallOk Tryz.prog 133 [(AV.d (TApiBook.e a0)), (vi a1)] [] (V_commitment_committed r) (L_commitment_committed r) := fOk (s := S_commitment_committed a0 a1) Tryz.func133 rfl (by kernel_rfl) h
abbrev R_commitment_reserved := Int
def V_commitment_reserved (x : R_commitment_reserved) : AV := (vi x)
def L_commitment_reserved (_ : R_commitment_reserved) : List Ob := []
def S_commitment_reserved (a0 : TApiBook) (a1 : TApiReservation) : Scr Tryz.prog R_commitment_reserved R_commitment_reserved :=
.call (@F_commitment_committed_ok a0 a1.Number) fun rv1 cv1 =>
.reg 1 [] [(3, hc cv1 [] true)] [.cl 0 cv1 [] 2 true] <|
.ret [] (IntKind.i64.wrap ((IntKind.i64.wrap (a1.Amount - a1.Released)) - rv1.1))
def F_commitment_reserved (a0 : TApiBook) (a1 : TApiReservation) : Option R_commitment_reserved := (S_commitment_reserved a0 a1).den
theorem F_commitment_reserved_ok {a0 : TApiBook} {a1 : TApiReservation} (r : R_commitment_reserved) (h : F_commitment_reserved a0 a1 = some r) : CallOk Tryz.prog 191 [(AV.d (TApiBook.e a0)), (AV.d (TApiReservation.e a1))] [] (V_commitment_reserved r) (L_commitment_reserved r) := fOk (s := S_commitment_reserved a0 a1) Tryz.func191 rfl (by kernel_rfl) h
abbrev R_commitment_reservation := Bool
def V_commitment_reservation (x : R_commitment_reservation) : AV := (vb x)
def L_commitment_reservation (_ : R_commitment_reservation) : List Ob := []
def S_commitment_reservation (a0 : TApiBook) (a1 : Int) : Scr Tryz.prog R_commitment_reservation R_commitment_reservation :=
.guard [(0 : Int) ≤ a1, (a1).toNat < a0.Reservations.length] <|
.reg 1 [] [] [.ev 0, .ev 1] <|
.calld [(((a0.Reservations.getD ((a1).toNat) default).Number) == (IntKind.i64.wrap (a1 + 1))) = true] default (@F_classification_Parts_ok ((a0.Reservations.getD ((a1).toNat) default).Code)) fun rv1 cv1 =>
.calld [(bif (((a0.Reservations.getD ((a1).toNat) default).Number) == (IntKind.i64.wrap (a1 + 1))) then (decide ((rv1.length : Int) > 0)) else false) = true] default (@F_commitment_among_ok ((a0.Reservations.getD ((a1).toNat) default).Year) 0 99) fun rv2 cv2 =>
.calld [(bif (bif (((a0.Reservations.getD ((a1).toNat) default).Number) == (IntKind.i64.wrap (a1 + 1))) then (decide ((rv1.length : Int) > 0)) else false) then rv2 else false) = true] default (@F_commitment_day_ok ((a0.Reservations.getD ((a1).toNat) default).Day)) fun rv3 cv3 =>
.calld [(bif (bif (bif (((a0.Reservations.getD ((a1).toNat) default).Number) == (IntKind.i64.wrap (a1 + 1))) then (decide ((rv1.length : Int) > 0)) else false) then rv2 else false) then rv3 else false) = true] default (@F_calendar_Year_ok ((a0.Reservations.getD ((a1).toNat) default).Day)) fun rv4 cv4 =>
.calld [(bif (bif (bif (bif (((a0.Reservations.getD ((a1).toNat) default).Number) == (IntKind.i64.wrap (a1 + 1))) then (decide ((rv1.length : Int) > 0)) else false) then rv2 else false) then rv3 else false) then (rv4 == ((a0.Reservations.getD ((a1).toNat) default).Year)) else false) = true] default (@F_commitment_amount_ok ((a0.Reservations.getD ((a1).toNat) default).Amount)) fun rv5 cv5 =>
.calld [(bif (bif (bif (bif (bif (((a0.Reservations.getD ((a1).toNat) default).Number) == (IntKind.i64.wrap (a1 + 1))) then (decide ((rv1.length : Int) > 0)) else false) then rv2 else false) then rv3 else false) then (rv4 == ((a0.Reservations.getD ((a1).toNat) default).Year)) else false) then rv5 else false) = true] default (@F_commitment_among_ok ((a0.Reservations.getD ((a1).toNat) default).Released) 0 ((a0.Reservations.getD ((a1).toNat) default).Amount)) fun rv6 cv6 =>
.calld [(bif (bif (bif (bif (bif (bif (((a0.Reservations.getD ((a1).toNat) default).Number) == (IntKind.i64.wrap (a1 + 1))) then (decide ((rv1.length : Int) > 0)) else false) then rv2 else false) then rv3 else false) then (rv4 == ((a0.Reservations.getD ((a1).toNat) default).Year)) else false) then rv5 else false) then rv6 else false) = true] default (@F_commitment_reserved_ok a0 (a0.Reservations.getD ((a1).toNat) default)) fun rv7 cv7 =>
.reg 2 [] [(8, hc cv1 [] true), (15, hc cv2 [] true), (20, hc cv3 [] true), (25, hc cv4 [] true), (33, hc cv5 [] true), (40, hc cv6 [] true), (45, hc cv7 [] true)] [.clg 12 [(((a0.Reservations.getD ((a1).toNat) default).Number) == (IntKind.i64.wrap (a1 + 1))) = true] cv1 [] 2 true, .clg 10 [(bif (((a0.Reservations.getD ((a1).toNat) default).Number) == (IntKind.i64.wrap (a1 + 1))) then (decide ((rv1.length : Int) > 0)) else false) = true] cv2 [] 2 true, .clg 8 [(bif (bif (((a0.Reservations.getD ((a1).toNat) default).Number) == (IntKind.i64.wrap (a1 + 1))) then (decide ((rv1.length : Int) > 0)) else false) then rv2 else false) = true] cv3 [] 2 true, .clg 6 [(bif (bif (bif (((a0.Reservations.getD ((a1).toNat) default).Number) == (IntKind.i64.wrap (a1 + 1))) then (decide ((rv1.length : Int) > 0)) else false) then rv2 else false) then rv3 else false) = true] cv4 [] 2 true, .clg 4 [(bif (bif (bif (bif (((a0.Reservations.getD ((a1).toNat) default).Number) == (IntKind.i64.wrap (a1 + 1))) then (decide ((rv1.length : Int) > 0)) else false) then rv2 else false) then rv3 else false) then (rv4 == ((a0.Reservations.getD ((a1).toNat) default).Year)) else false) = true] cv5 [] 2 true, .clg 2 [(bif (bif (bif (bif (bif (((a0.Reservations.getD ((a1).toNat) default).Number) == (IntKind.i64.wrap (a1 + 1))) then (decide ((rv1.length : Int) > 0)) else false) then rv2 else false) then rv3 else false) then (rv4 == ((a0.Reservations.getD ((a1).toNat) default).Year)) else false) then rv5 else false) = true] cv6 [] 2 true, .clg 0 [(bif (bif (bif (bif (bif (bif (((a0.Reservations.getD ((a1).toNat) default).Number) == (IntKind.i64.wrap (a1 + 1))) then (decide ((rv1.length : Int) > 0)) else false) then rv2 else false) then rv3 else false) then (rv4 == ((a0.Reservations.getD ((a1).toNat) default).Year)) else false) then rv5 else false) then rv6 else false) = true] cv7 [] 2 true] <|
.ret [] (bif (bif (bif (bif (bif (bif (bif (((a0.Reservations.getD ((a1).toNat) default).Number) == (IntKind.i64.wrap (a1 + 1))) then (decide ((rv1.length : Int) > 0)) else false) then rv2 else false) then rv3 else false) then (rv4 == ((a0.Reservations.getD ((a1).toNat) default).Year)) else false) then rv5 else false) then rv6 else false) then (decide (rv7 ≥ 0)) else false)
def F_commitment_reservation (a0 : TApiBook) (a1 : Int) : Option R_commitment_reservation := (S_commitment_reservation a0 a1).den
theorem F_commitment_reservation_ok {a0 : TApiBook} {a1 : Int} (r : R_commitment_reservation) (h : F_commitment_reservation a0 a1 = some r) : CallOk Tryz.prog 161 [(AV.d (TApiBook.e a0)), (vi a1)] [] (V_commitment_reservation r) (L_commitment_reservation r) := fOk (s := S_commitment_reservation a0 a1) Tryz.func161 rfl (by kernel_rfl) h
abbrev R_commitment_all_commitment_reservation := Bool
def V_commitment_all_commitment_reservation (x : R_commitment_all_commitment_reservation) : AV := (vb x)
def L_commitment_all_commitment_reservation (_ : R_commitment_all_commitment_reservation) : List Ob := []
def S_commitment_all_commitment_reservation_b1 (a0 : TApiBook) (iv1 : Nat) (_ : Unit) : Scr Tryz.prog R_commitment_all_commitment_reservation (Step (Unit) R_commitment_all_commitment_reservation) :=
.call (@F_commitment_reservation_ok a0 (iv1 : Int)) fun rv2 cv2 =>
.reg 4 [] [(3, hc cv2 [] true)] [.cl 0 cv2 [] 1 true] <|
.ite (!rv2) (
.ret [] (.ret false)) (
.ret [] (.cont ()))
def S_commitment_all_commitment_reservation (a0 : TApiBook) (a1 : Int) : Scr Tryz.prog R_commitment_all_commitment_reservation R_commitment_all_commitment_reservation :=
.guard [(a1).toNat < 2 ^ 63] <|
.range a1 ((a1).toNat) rfl (.why (.ev 0)) 9 [1, 2, 3, 8] (fun (_ : Unit) => []) (fun (_ : Unit) => []) () (S_commitment_all_commitment_reservation_b1 a0) (fun (_ : Unit) => 
.ret [] (decide (a1 ≤ 200))) id
def F_commitment_all_commitment_reservation (a0 : TApiBook) (a1 : Int) : Option R_commitment_all_commitment_reservation := (S_commitment_all_commitment_reservation a0 a1).den
theorem F_commitment_all_commitment_reservation_ok {a0 : TApiBook} {a1 : Int} (r : R_commitment_all_commitment_reservation) (h : F_commitment_all_commitment_reservation a0 a1 = some r) : CallOk Tryz.prog 160 [(AV.d (TApiBook.e a0)), (vi a1), (AV.fn 161 [])] [] (V_commitment_all_commitment_reservation r) (L_commitment_all_commitment_reservation r) := fOk (s := S_commitment_all_commitment_reservation a0 a1) Tryz.func160 rfl (by kernel_rfl) h
abbrev R_commitment_verified := Int
def V_commitment_verified (x : R_commitment_verified) : AV := (vi x)
def L_commitment_verified (_ : R_commitment_verified) : List Ob := []
def S_commitment_verified_b1 (a0 : TApiBook) (a1 : Int) (iv1 : Nat) (sv2 : Int) : Scr Tryz.prog R_commitment_verified (Step (Int) R_commitment_verified) :=
.reg 4 [] [] [.pf (nn iv1), .ev 0] <|
.ite (((a0.Verifications.getD iv1 default).Commitment) == a1) (
.ret [] (.cont (IntKind.i64.wrap (sv2 + ((a0.Verifications.getD iv1 default).Amount))))) (
.ret [] (.cont sv2))
def S_commitment_verified (a0 : TApiBook) (a1 : Int) : Scr Tryz.prog R_commitment_verified R_commitment_verified :=
.range (a0.Verifications.length : Int) a0.Verifications.length rfl (.slot 9) 11 [1, 9, 10] (fun (sv2 : Int) => [(5, (vi sv2))]) (fun (_ : Int) => []) 0 (S_commitment_verified_b1 a0 a1) (fun (sv2 : Int) => 
.ret [] sv2) id
def F_commitment_verified (a0 : TApiBook) (a1 : Int) : Option R_commitment_verified := (S_commitment_verified a0 a1).den
theorem F_commitment_verified_ok {a0 : TApiBook} {a1 : Int} (r : R_commitment_verified) (h : F_commitment_verified a0 a1 = some r) : CallOk Tryz.prog 213 [(AV.d (TApiBook.e a0)), (vi a1)] [] (V_commitment_verified r) (L_commitment_verified r) := fOk (s := S_commitment_verified a0 a1) Tryz.func213 rfl (by kernel_rfl) h
abbrev R_commitment_open := Int
def V_commitment_open (x : R_commitment_open) : AV := (vi x)
def L_commitment_open (_ : R_commitment_open) : List Ob := []
def S_commitment_open (a0 : TApiBook) (a1 : TApiCommitment) : Scr Tryz.prog R_commitment_open R_commitment_open :=
.call (@F_commitment_verified_ok a0 a1.Number) fun rv1 cv1 =>
.reg 1 [] [(8, hc cv1 [] true)] [.cl 0 cv1 [] 2 true] <|
.ret [] (IntKind.i64.wrap ((IntKind.i64.wrap (a1.Amount - a1.Released)) - rv1))
def F_commitment_open (a0 : TApiBook) (a1 : TApiCommitment) : Option R_commitment_open := (S_commitment_open a0 a1).den
theorem F_commitment_open_ok {a0 : TApiBook} {a1 : TApiCommitment} (r : R_commitment_open) (h : F_commitment_open a0 a1 = some r) : CallOk Tryz.prog 192 [(AV.d (TApiBook.e a0)), (AV.d (TApiCommitment.e a1))] [] (V_commitment_open r) (L_commitment_open r) := fOk (s := S_commitment_open a0 a1) Tryz.func192 rfl (by kernel_rfl) h
abbrev R_commitment_commitment := Bool
def V_commitment_commitment (x : R_commitment_commitment) : AV := (vb x)
def L_commitment_commitment (_ : R_commitment_commitment) : List Ob := []
def S_commitment_commitment (a0 : TApiBook) (a1 : Int) : Scr Tryz.prog R_commitment_commitment R_commitment_commitment :=
.guard [(0 : Int) ≤ a1, (a1).toNat < a0.Commitments.length] <|
.reg 1 [] [] [.ev 0, .ev 1] <|
.calld [(((a0.Commitments.getD ((a1).toNat) default).Number) != (IntKind.i64.wrap (a1 + 1))) = false] default (@F_commitment_among_ok ((a0.Commitments.getD ((a1).toNat) default).Reservation) 1 (a0.Reservations.length : Int)) fun rv1 cv1 =>
.reg 2 [] [(11, hc cv1 [] true)] [.clg 0 [(((a0.Commitments.getD ((a1).toNat) default).Number) != (IntKind.i64.wrap (a1 + 1))) = false] cv1 [] 2 true] <|
.ite (bif (((a0.Commitments.getD ((a1).toNat) default).Number) != (IntKind.i64.wrap (a1 + 1))) then true else (!rv1)) (
.ret [] false) (
.guard [(0 : Int) ≤ (IntKind.i64.wrap (((a0.Commitments.getD ((a1).toNat) default).Reservation) - 1)), ((IntKind.i64.wrap (((a0.Commitments.getD ((a1).toNat) default).Reservation) - 1))).toNat < a0.Reservations.length] <|
.reg 4 [] [] [.ev 0, .ev 1] <|
.call (@F_commitment_day_ok ((a0.Commitments.getD ((a1).toNat) default).Day)) fun rv2 cv2 =>
.calld [(bif rv2 then (decide (((a0.Commitments.getD ((a1).toNat) default).Day) ≥ ((a0.Reservations.getD (((IntKind.i64.wrap (((a0.Commitments.getD ((a1).toNat) default).Reservation) - 1))).toNat) default).Day))) else false) = true] default (@F_calendar_Year_ok ((a0.Commitments.getD ((a1).toNat) default).Day)) fun rv3 cv3 =>
.calld [(bif (bif rv2 then (decide (((a0.Commitments.getD ((a1).toNat) default).Day) ≥ ((a0.Reservations.getD (((IntKind.i64.wrap (((a0.Commitments.getD ((a1).toNat) default).Reservation) - 1))).toNat) default).Day))) else false) then (rv3 == ((a0.Reservations.getD (((IntKind.i64.wrap (((a0.Commitments.getD ((a1).toNat) default).Reservation) - 1))).toNat) default).Year)) else false) = true] default (@F_commitment_amount_ok ((a0.Commitments.getD ((a1).toNat) default).Amount)) fun rv4 cv4 =>
.calld [(bif (bif (bif rv2 then (decide (((a0.Commitments.getD ((a1).toNat) default).Day) ≥ ((a0.Reservations.getD (((IntKind.i64.wrap (((a0.Commitments.getD ((a1).toNat) default).Reservation) - 1))).toNat) default).Day))) else false) then (rv3 == ((a0.Reservations.getD (((IntKind.i64.wrap (((a0.Commitments.getD ((a1).toNat) default).Reservation) - 1))).toNat) default).Year)) else false) then rv4 else false) = true] default (@F_commitment_among_ok ((a0.Commitments.getD ((a1).toNat) default).Released) 0 ((a0.Commitments.getD ((a1).toNat) default).Amount)) fun rv5 cv5 =>
.calld [(bif (bif (bif (bif rv2 then (decide (((a0.Commitments.getD ((a1).toNat) default).Day) ≥ ((a0.Reservations.getD (((IntKind.i64.wrap (((a0.Commitments.getD ((a1).toNat) default).Reservation) - 1))).toNat) default).Day))) else false) then (rv3 == ((a0.Reservations.getD (((IntKind.i64.wrap (((a0.Commitments.getD ((a1).toNat) default).Reservation) - 1))).toNat) default).Year)) else false) then rv4 else false) then rv5 else false) = true] default (@F_commitment_among_ok ((a0.Commitments.getD ((a1).toNat) default).Payee) 1 1000000) fun rv6 cv6 =>
.calld [(bif (bif (bif (bif (bif rv2 then (decide (((a0.Commitments.getD ((a1).toNat) default).Day) ≥ ((a0.Reservations.getD (((IntKind.i64.wrap (((a0.Commitments.getD ((a1).toNat) default).Reservation) - 1))).toNat) default).Day))) else false) then (rv3 == ((a0.Reservations.getD (((IntKind.i64.wrap (((a0.Commitments.getD ((a1).toNat) default).Reservation) - 1))).toNat) default).Year)) else false) then rv4 else false) then rv5 else false) then rv6 else false) = true] default (@F_commitment_day_ok ((a0.Commitments.getD ((a1).toNat) default).Due)) fun rv7 cv7 =>
.calld [(bif (bif (bif (bif (bif (bif rv2 then (decide (((a0.Commitments.getD ((a1).toNat) default).Day) ≥ ((a0.Reservations.getD (((IntKind.i64.wrap (((a0.Commitments.getD ((a1).toNat) default).Reservation) - 1))).toNat) default).Day))) else false) then (rv3 == ((a0.Reservations.getD (((IntKind.i64.wrap (((a0.Commitments.getD ((a1).toNat) default).Reservation) - 1))).toNat) default).Year)) else false) then rv4 else false) then rv5 else false) then rv6 else false) then rv7 else false) = true] default (@F_commitment_open_ok a0 (a0.Commitments.getD ((a1).toNat) default)) fun rv8 cv8 =>
.reg 5 [] [(2, hc cv2 [] true), (13, hc cv3 [] true), (21, hc cv4 [] true), (28, hc cv5 [] true), (33, hc cv6 [] true), (38, hc cv7 [] true), (43, hc cv8 [] true)] [.cl 12 cv2 [] 3 true, .clg 10 [(bif rv2 then (decide (((a0.Commitments.getD ((a1).toNat) default).Day) ≥ ((a0.Reservations.getD (((IntKind.i64.wrap (((a0.Commitments.getD ((a1).toNat) default).Reservation) - 1))).toNat) default).Day))) else false) = true] cv3 [] 3 true, .clg 8 [(bif (bif rv2 then (decide (((a0.Commitments.getD ((a1).toNat) default).Day) ≥ ((a0.Reservations.getD (((IntKind.i64.wrap (((a0.Commitments.getD ((a1).toNat) default).Reservation) - 1))).toNat) default).Day))) else false) then (rv3 == ((a0.Reservations.getD (((IntKind.i64.wrap (((a0.Commitments.getD ((a1).toNat) default).Reservation) - 1))).toNat) default).Year)) else false) = true] cv4 [] 3 true, .clg 6 [(bif (bif (bif rv2 then (decide (((a0.Commitments.getD ((a1).toNat) default).Day) ≥ ((a0.Reservations.getD (((IntKind.i64.wrap (((a0.Commitments.getD ((a1).toNat) default).Reservation) - 1))).toNat) default).Day))) else false) then (rv3 == ((a0.Reservations.getD (((IntKind.i64.wrap (((a0.Commitments.getD ((a1).toNat) default).Reservation) - 1))).toNat) default).Year)) else false) then rv4 else false) = true] cv5 [] 3 true, .clg 4 [(bif (bif (bif (bif rv2 then (decide (((a0.Commitments.getD ((a1).toNat) default).Day) ≥ ((a0.Reservations.getD (((IntKind.i64.wrap (((a0.Commitments.getD ((a1).toNat) default).Reservation) - 1))).toNat) default).Day))) else false) then (rv3 == ((a0.Reservations.getD (((IntKind.i64.wrap (((a0.Commitments.getD ((a1).toNat) default).Reservation) - 1))).toNat) default).Year)) else false) then rv4 else false) then rv5 else false) = true] cv6 [] 3 true, .clg 2 [(bif (bif (bif (bif (bif rv2 then (decide (((a0.Commitments.getD ((a1).toNat) default).Day) ≥ ((a0.Reservations.getD (((IntKind.i64.wrap (((a0.Commitments.getD ((a1).toNat) default).Reservation) - 1))).toNat) default).Day))) else false) then (rv3 == ((a0.Reservations.getD (((IntKind.i64.wrap (((a0.Commitments.getD ((a1).toNat) default).Reservation) - 1))).toNat) default).Year)) else false) then rv4 else false) then rv5 else false) then rv6 else false) = true] cv7 [] 3 true, .clg 0 [(bif (bif (bif (bif (bif (bif rv2 then (decide (((a0.Commitments.getD ((a1).toNat) default).Day) ≥ ((a0.Reservations.getD (((IntKind.i64.wrap (((a0.Commitments.getD ((a1).toNat) default).Reservation) - 1))).toNat) default).Day))) else false) then (rv3 == ((a0.Reservations.getD (((IntKind.i64.wrap (((a0.Commitments.getD ((a1).toNat) default).Reservation) - 1))).toNat) default).Year)) else false) then rv4 else false) then rv5 else false) then rv6 else false) then rv7 else false) = true] cv8 [] 3 true] <|
.ret [] (bif (bif (bif (bif (bif (bif (bif rv2 then (decide (((a0.Commitments.getD ((a1).toNat) default).Day) ≥ ((a0.Reservations.getD (((IntKind.i64.wrap (((a0.Commitments.getD ((a1).toNat) default).Reservation) - 1))).toNat) default).Day))) else false) then (rv3 == ((a0.Reservations.getD (((IntKind.i64.wrap (((a0.Commitments.getD ((a1).toNat) default).Reservation) - 1))).toNat) default).Year)) else false) then rv4 else false) then rv5 else false) then rv6 else false) then rv7 else false) then (decide (rv8 ≥ 0)) else false))
def F_commitment_commitment (a0 : TApiBook) (a1 : Int) : Option R_commitment_commitment := (S_commitment_commitment a0 a1).den
theorem F_commitment_commitment_ok {a0 : TApiBook} {a1 : Int} (r : R_commitment_commitment) (h : F_commitment_commitment a0 a1 = some r) : CallOk Tryz.prog 162 [(AV.d (TApiBook.e a0)), (vi a1)] [] (V_commitment_commitment r) (L_commitment_commitment r) := fOk (s := S_commitment_commitment a0 a1) Tryz.func162 rfl (by kernel_rfl) h
end
end Go.Proofs.YtclaojamgomjbaaGreatDoor
/- What the functions compute, and that their calls return it. No condition. -/
namespace Go.Proofs.YtclaojamgomjbaaGreatDoor
open Go Go.TA
noncomputable section
set_option maxRecDepth 100000
abbrev R_commitment_all_commitment_commitment := Bool
def V_commitment_all_commitment_commitment (x : R_commitment_all_commitment_commitment) : AV := (vb x)
def L_commitment_all_commitment_commitment (_ : R_commitment_all_commitment_commitment) : List Ob := []
def S_commitment_all_commitment_commitment_b1 (a0 : TApiBook) (iv1 : Nat) (_ : Unit) : Scr Tryz.prog R_commitment_all_commitment_commitment (Step (Unit) R_commitment_all_commitment_commitment) :=
.call (@F_commitment_commitment_ok a0 (iv1 : Int)) fun rv2 cv2 =>
.reg 4 [] [(3, hc cv2 [] true)] [.cl 0 cv2 [] 1 true] <|
.ite (!rv2) (
.ret [] (.ret false)) (
.ret [] (.cont ()))
def S_commitment_all_commitment_commitment (a0 : TApiBook) (a1 : Int) : Scr Tryz.prog R_commitment_all_commitment_commitment R_commitment_all_commitment_commitment :=
.guard [(a1).toNat < 2 ^ 63] <|
.range a1 ((a1).toNat) rfl (.why (.ev 0)) 9 [1, 2, 3, 8] (fun (_ : Unit) => []) (fun (_ : Unit) => []) () (S_commitment_all_commitment_commitment_b1 a0) (fun (_ : Unit) => 
.ret [] (decide (a1 ≤ 200))) id
def F_commitment_all_commitment_commitment (a0 : TApiBook) (a1 : Int) : Option R_commitment_all_commitment_commitment := (S_commitment_all_commitment_commitment a0 a1).den
theorem F_commitment_all_commitment_commitment_ok {a0 : TApiBook} {a1 : Int} (r : R_commitment_all_commitment_commitment) (h : F_commitment_all_commitment_commitment a0 a1 = some r) : CallOk Tryz.prog 160 [(AV.d (TApiBook.e a0)), (vi a1), (AV.fn 162 [])] [] (V_commitment_all_commitment_commitment r) (L_commitment_all_commitment_commitment r) := fOk (s := S_commitment_all_commitment_commitment a0 a1) Tryz.func160 rfl (by kernel_rfl) h
abbrev R_commitment_year := Int
def V_commitment_year (x : R_commitment_year) : AV := (vi x)
def L_commitment_year (_ : R_commitment_year) : List Ob := []
def S_commitment_year (a0 : TApiBook) (a1 : TApiCommitment) : Scr Tryz.prog R_commitment_year R_commitment_year :=
.guard [(0 : Int) ≤ (IntKind.i64.wrap (a1.Reservation - 1)), ((IntKind.i64.wrap (a1.Reservation - 1))).toNat < a0.Reservations.length] <|
.reg 1 [] [] [.ev 0, .ev 1] <|
.ret [] ((a0.Reservations.getD (((IntKind.i64.wrap (a1.Reservation - 1))).toNat) default).Year)
def F_commitment_year (a0 : TApiBook) (a1 : TApiCommitment) : Option R_commitment_year := (S_commitment_year a0 a1).den
theorem F_commitment_year_ok {a0 : TApiBook} {a1 : TApiCommitment} (r : R_commitment_year) (h : F_commitment_year a0 a1 = some r) : CallOk Tryz.prog 193 [(AV.d (TApiBook.e a0)), (AV.d (TApiCommitment.e a1))] [] (V_commitment_year r) (L_commitment_year r) := fOk (s := S_commitment_year a0 a1) Tryz.func193 rfl (by kernel_rfl) h
abbrev R_commitment_verification := Bool
def V_commitment_verification (x : R_commitment_verification) : AV := (vb x)
def L_commitment_verification (_ : R_commitment_verification) : List Ob := []
def S_commitment_verification (a0 : TApiBook) (a1 : Int) : Scr Tryz.prog R_commitment_verification R_commitment_verification :=
.guard [(0 : Int) ≤ a1, (a1).toNat < a0.Verifications.length] <|
.reg 1 [] [] [.ev 0, .ev 1] <|
.calld [(((a0.Verifications.getD ((a1).toNat) default).Number) != (IntKind.i64.wrap (a1 + 1))) = false] default (@F_commitment_among_ok ((a0.Verifications.getD ((a1).toNat) default).Commitment) 1 (a0.Commitments.length : Int)) fun rv1 cv1 =>
.reg 2 [] [(11, hc cv1 [] true)] [.clg 0 [(((a0.Verifications.getD ((a1).toNat) default).Number) != (IntKind.i64.wrap (a1 + 1))) = false] cv1 [] 2 true] <|
.ite (bif (((a0.Verifications.getD ((a1).toNat) default).Number) != (IntKind.i64.wrap (a1 + 1))) then true else (!rv1)) (
.ret [] false) (
.guard [(0 : Int) ≤ (IntKind.i64.wrap (((a0.Verifications.getD ((a1).toNat) default).Commitment) - 1)), ((IntKind.i64.wrap (((a0.Verifications.getD ((a1).toNat) default).Commitment) - 1))).toNat < a0.Commitments.length] <|
.reg 4 [] [] [.ev 0, .ev 1] <|
.call (@F_commitment_day_ok ((a0.Verifications.getD ((a1).toNat) default).Day)) fun rv2 cv2 =>
.calld [(bif rv2 then (decide (((a0.Verifications.getD ((a1).toNat) default).Day) ≥ ((a0.Commitments.getD (((IntKind.i64.wrap (((a0.Verifications.getD ((a1).toNat) default).Commitment) - 1))).toNat) default).Day))) else false) = true] default (@F_calendar_Year_ok ((a0.Verifications.getD ((a1).toNat) default).Day)) fun rv3 cv3 =>
.calld [(bif rv2 then (decide (((a0.Verifications.getD ((a1).toNat) default).Day) ≥ ((a0.Commitments.getD (((IntKind.i64.wrap (((a0.Verifications.getD ((a1).toNat) default).Commitment) - 1))).toNat) default).Day))) else false) = true] default (@F_commitment_year_ok a0 (a0.Commitments.getD (((IntKind.i64.wrap (((a0.Verifications.getD ((a1).toNat) default).Commitment) - 1))).toNat) default)) fun rv4 cv4 =>
.calld [(bif (bif rv2 then (decide (((a0.Verifications.getD ((a1).toNat) default).Day) ≥ ((a0.Commitments.getD (((IntKind.i64.wrap (((a0.Verifications.getD ((a1).toNat) default).Commitment) - 1))).toNat) default).Day))) else false) then (decide (rv3 ≤ (IntKind.i64.wrap (rv4 + 1)))) else false) = true] default (@F_commitment_amount_ok ((a0.Verifications.getD ((a1).toNat) default).Amount)) fun rv5 cv5 =>
.reg 5 [] [(2, hc cv2 [] true), (13, hc cv3 [] true), (16, hc cv4 [] true), (23, hc cv5 [] true)] [.cl 6 cv2 [] 3 true, .clg 4 [(bif rv2 then (decide (((a0.Verifications.getD ((a1).toNat) default).Day) ≥ ((a0.Commitments.getD (((IntKind.i64.wrap (((a0.Verifications.getD ((a1).toNat) default).Commitment) - 1))).toNat) default).Day))) else false) = true] cv3 [] 3 true, .clg 2 [(bif rv2 then (decide (((a0.Verifications.getD ((a1).toNat) default).Day) ≥ ((a0.Commitments.getD (((IntKind.i64.wrap (((a0.Verifications.getD ((a1).toNat) default).Commitment) - 1))).toNat) default).Day))) else false) = true] cv4 [] 3 true, .clg 0 [(bif (bif rv2 then (decide (((a0.Verifications.getD ((a1).toNat) default).Day) ≥ ((a0.Commitments.getD (((IntKind.i64.wrap (((a0.Verifications.getD ((a1).toNat) default).Commitment) - 1))).toNat) default).Day))) else false) then (decide (rv3 ≤ (IntKind.i64.wrap (rv4 + 1)))) else false) = true] cv5 [] 3 true] <|
.ret [] (bif (bif (bif rv2 then (decide (((a0.Verifications.getD ((a1).toNat) default).Day) ≥ ((a0.Commitments.getD (((IntKind.i64.wrap (((a0.Verifications.getD ((a1).toNat) default).Commitment) - 1))).toNat) default).Day))) else false) then (decide (rv3 ≤ (IntKind.i64.wrap (rv4 + 1)))) else false) then rv5 else false))
def F_commitment_verification (a0 : TApiBook) (a1 : Int) : Option R_commitment_verification := (S_commitment_verification a0 a1).den
theorem F_commitment_verification_ok {a0 : TApiBook} {a1 : Int} (r : R_commitment_verification) (h : F_commitment_verification a0 a1 = some r) : CallOk Tryz.prog 163 [(AV.d (TApiBook.e a0)), (vi a1)] [] (V_commitment_verification r) (L_commitment_verification r) := fOk (s := S_commitment_verification a0 a1) Tryz.func163 rfl (by kernel_rfl) h
abbrev R_commitment_all_commitment_verification := Bool
def V_commitment_all_commitment_verification (x : R_commitment_all_commitment_verification) : AV := (vb x)
def L_commitment_all_commitment_verification (_ : R_commitment_all_commitment_verification) : List Ob := []
def S_commitment_all_commitment_verification_b1 (a0 : TApiBook) (iv1 : Nat) (_ : Unit) : Scr Tryz.prog R_commitment_all_commitment_verification (Step (Unit) R_commitment_all_commitment_verification) :=
.call (@F_commitment_verification_ok a0 (iv1 : Int)) fun rv2 cv2 =>
.reg 4 [] [(3, hc cv2 [] true)] [.cl 0 cv2 [] 1 true] <|
.ite (!rv2) (
.ret [] (.ret false)) (
.ret [] (.cont ()))
def S_commitment_all_commitment_verification (a0 : TApiBook) (a1 : Int) : Scr Tryz.prog R_commitment_all_commitment_verification R_commitment_all_commitment_verification :=
.guard [(a1).toNat < 2 ^ 63] <|
.range a1 ((a1).toNat) rfl (.why (.ev 0)) 9 [1, 2, 3, 8] (fun (_ : Unit) => []) (fun (_ : Unit) => []) () (S_commitment_all_commitment_verification_b1 a0) (fun (_ : Unit) => 
.ret [] (decide (a1 ≤ 200))) id
def F_commitment_all_commitment_verification (a0 : TApiBook) (a1 : Int) : Option R_commitment_all_commitment_verification := (S_commitment_all_commitment_verification a0 a1).den
theorem F_commitment_all_commitment_verification_ok {a0 : TApiBook} {a1 : Int} (r : R_commitment_all_commitment_verification) (h : F_commitment_all_commitment_verification a0 a1 = some r) : CallOk Tryz.prog 160 [(AV.d (TApiBook.e a0)), (vi a1), (AV.fn 163 [])] [] (V_commitment_all_commitment_verification r) (L_commitment_all_commitment_verification r) := fOk (s := S_commitment_all_commitment_verification a0 a1) Tryz.func160 rfl (by kernel_rfl) h
abbrev R_slices_Clone_Order_rw := (List TApiOrder)
def V_slices_Clone_Order_rw (x : R_slices_Clone_Order_rw) : AV := (AV.ref 0 x.length 0 x.length)
def L_slices_Clone_Order_rw (x : R_slices_Clone_Order_rw) : List Ob := [(eS 5 TApiOrder.e x)]
def S_slices_Clone_Order_rw (a0 : (List TApiOrder)) : Scr Tryz.prog R_slices_Clone_Order_rw R_slices_Clone_Order_rw :=
.reg 0 [] [] [] <|
.nils 0 (
.guard [a0.length * (2 * 40) ≤ 2 ^ 48] <|
.reg 1 [] [] [] <|
.lev 0 (AV.d (eL TApiOrder.e a0)) (.pf (lvQ true a0.length fun j => (TApiOrder.e (a0.getD j default)))) <|
.br true (.pf (p := true = true) rfl) <|
.reg 2 [] [] [] <|
.bor 5 (fun j => AV.d (TApiOrder.e (a0.getD j default))) [2] <|
.cst (A := a0.length = 0) (.ev 1) [(2, AV.ref 0 0 0 0)] [(2, (AV.ref 0 a0.length 0 a0.length))] [(Ob.seq 5 0 fun j => AV.d (TApiOrder.e (a0.getD j default)))] [(eS 5 TApiOrder.e a0)] (fun h => ⟨by rw [h], by unfold eS; rw [h]⟩) <|
.ret [] a0) (
.reg 1 [] [] [] <|
.lev 0 (AV.d (eL TApiOrder.e a0)) (.pf (lvQ false a0.length fun j => (TApiOrder.e (a0.getD j default)))) <|
.br false (.pf (p := false = false) rfl) <|
.guard [a0.length * (2 * 40) ≤ 2 ^ 48] <|
.reg 3 [] [(2, { h := .obj })] [.pf (p := ∀ k, k < a0.length → (AV.d (TApiOrder.e (a0.getD k default))).wd = 5) (fun _ _ => rfl), .ev 0] <|
.ret [] a0)
def F_slices_Clone_Order_rw (a0 : (List TApiOrder)) : Option R_slices_Clone_Order_rw := (S_slices_Clone_Order_rw a0).den
theorem F_slices_Clone_Order_rw_ok {a0 : (List TApiOrder)} (r : R_slices_Clone_Order_rw) (h : F_slices_Clone_Order_rw a0 = some r) : CallOk Tryz.prog 215 [(AV.d (eL TApiOrder.e a0))] [] (V_slices_Clone_Order_rw r) (L_slices_Clone_Order_rw r) := fOk (s := S_slices_Clone_Order_rw a0) Tryz.func215 rfl (by kernel_rfl) h
abbrev R_commitment_orders_1 := Bool
def V_commitment_orders_1 (x : R_commitment_orders_1) : AV := (vb x)
def L_commitment_orders_1 (p0 : Int) (_ : R_commitment_orders_1) : List Ob := [(Ob.box (vi p0))]
def S_commitment_orders_1 (a0 : TApiOrder) (p0 : Int) : Scr Tryz.prog R_commitment_orders_1 R_commitment_orders_1 :=
.ret [] (a0.Verification != p0)
def F_commitment_orders_1 (a0 : TApiOrder) (p0 : Int) : Option R_commitment_orders_1 := (S_commitment_orders_1 a0 p0).den
theorem F_commitment_orders_1_ok {a0 : TApiOrder} {p0 : Int} (r : R_commitment_orders_1) (h : F_commitment_orders_1 a0 p0 = some r) : CallOk Tryz.prog 216 [(AV.d (TApiOrder.e a0)), (vp 0)] [(Ob.box (vi p0))] (V_commitment_orders_1 r) (L_commitment_orders_1 p0 r) := fOk (s := S_commitment_orders_1 a0 p0) Tryz.func216 rfl (by kernel_rfl) h
abbrev R_slices_IndexFunc_Order_commitment_orders_1 := Int
def V_slices_IndexFunc_Order_commitment_orders_1 (x : R_slices_IndexFunc_Order_commitment_orders_1) : AV := (vi x)
def L_slices_IndexFunc_Order_commitment_orders_1 (p0 : (List TApiOrder)) (p1 : Int) (_ : R_slices_IndexFunc_Order_commitment_orders_1) : List Ob := [(eS 5 TApiOrder.e p0), (Ob.box (vi p1))]
def S_slices_IndexFunc_Order_commitment_orders_1_b1 (p0 : (List TApiOrder)) (p1 : Int) (iv1 : Nat) (_ : Unit) : Scr Tryz.prog R_slices_IndexFunc_Order_commitment_orders_1 (Step (Unit) R_slices_IndexFunc_Order_commitment_orders_1) :=
.call (@F_commitment_orders_1_ok (p0.getD (0 + iv1) default) p1) fun rv2 cv2 =>
.guard [(0 + iv1) < p0.length] <|
.reg 4 [] [(5, hc cv2 [1] true)] [.pf (Eq.refl p0.length), .pf (nn iv1), .ev 2, .pf (Eq.refl p0.length), .ev 0, .cl 1 cv2 [1] 2 true] <|
.ite rv2 (
.ret [] (.ret (iv1 : Int))) (
.ret [] (.cont ()))
def S_slices_IndexFunc_Order_commitment_orders_1 (p0 : (List TApiOrder)) (p1 : Int) : Scr Tryz.prog R_slices_IndexFunc_Order_commitment_orders_1 R_slices_IndexFunc_Order_commitment_orders_1 :=
.guard [p0.length < 2 ^ 63] <|
.range (p0.length : Int) p0.length rfl (.why (.ev 0)) 8 [0, 1, 7] (fun (_ : Unit) => []) (fun (_ : Unit) => []) () (S_slices_IndexFunc_Order_commitment_orders_1_b1 p0 p1) (fun (_ : Unit) => 
.ret [] (-1)) id
def F_slices_IndexFunc_Order_commitment_orders_1 (p0 : (List TApiOrder)) (p1 : Int) : Option R_slices_IndexFunc_Order_commitment_orders_1 := (S_slices_IndexFunc_Order_commitment_orders_1 p0 p1).den
theorem F_slices_IndexFunc_Order_commitment_orders_1_ok {p0 : (List TApiOrder)} {p1 : Int} (r : R_slices_IndexFunc_Order_commitment_orders_1) (h : F_slices_IndexFunc_Order_commitment_orders_1 p0 p1 = some r) : CallOk Tryz.prog 130 [(AV.ref 0 p0.length 0 p0.length), (AV.fn 216 [(vp 1)])] [(eS 5 TApiOrder.e p0), (Ob.box (vi p1))] (V_slices_IndexFunc_Order_commitment_orders_1 r) (L_slices_IndexFunc_Order_commitment_orders_1 p0 p1 r) := fOk (s := S_slices_IndexFunc_Order_commitment_orders_1 p0 p1) Tryz.func130 rfl (by kernel_rfl) h
abbrev R_slices_DeleteFunc_Order_commitment_orders_1 := (List TApiOrder)
def V_slices_DeleteFunc_Order_commitment_orders_1 (x : R_slices_DeleteFunc_Order_commitment_orders_1) : AV := (AV.d (eL TApiOrder.e x))
def L_slices_DeleteFunc_Order_commitment_orders_1 (p1 : Int) (_ : R_slices_DeleteFunc_Order_commitment_orders_1) : List Ob := [Ob.dead, (Ob.box (vi p1))]
def S_slices_DeleteFunc_Order_commitment_orders_1_b1 (p1 : Int) (sv1 : (List TApiOrder) × Int × Int) : Scr Tryz.prog R_slices_DeleteFunc_Order_commitment_orders_1 (Step ((List TApiOrder) × Int × Int) R_slices_DeleteFunc_Order_commitment_orders_1) :=
.ite (decide (sv1.2.2 < (sv1.1.length : Int))) (
.guard [(0 : Int) ≤ sv1.2.2, (sv1.2.2).toNat < sv1.1.length, (0 + (sv1.2.2).toNat) < sv1.1.length] <|
.reg 7 [] [] [.pf (Eq.refl sv1.1.length), .ev 0, .ev 1, .pf (Eq.refl sv1.1.length), .ev 2] <|
.call (@F_commitment_orders_1_ok (sv1.1.getD (0 + (sv1.2.2).toNat) default) p1) fun rv2 cv2 =>
.reg 8 [] [(2, hc cv2 [1] true)] [.cl 0 cv2 [1] 3 true] <|
.ite (!rv2) (
.guard [(0 : Int) ≤ sv1.2.1, (sv1.2.1).toNat < sv1.1.length, (0 + (sv1.2.1).toNat) < sv1.1.length] <|
.reg 9 [] [(4, { obs := [(0, (eS 5 TApiOrder.e (sv1.1.set (0 + (sv1.2.1).toNat) (sv1.1.getD (0 + (sv1.2.2).toNat) default))))] })] [.pf (Eq.refl sv1.1.length), .ev 0, .ev 1, .pf (Eq.refl sv1.1.length), .ev 2, .pf (oLe_set (sz := 5) (e := TApiOrder.e) (l := sv1.1) (i := (0 + (sv1.2.1).toNat)) (x := (sv1.1.getD (0 + (sv1.2.2).toNat) default)) (fun _ => rfl))] <|
.cst (A := True) (.pf trivial) [(0, (AV.ref 0 sv1.1.length 0 sv1.1.length)), (1, (AV.fn 216 [(vp 1)])), (5, (vi sv1.2.1)), (6, (vi sv1.2.2))] [(0, (AV.ref 0 ((sv1.1.set (0 + (sv1.2.1).toNat) (sv1.1.getD (0 + (sv1.2.2).toNat) default)).length) 0 ((sv1.1.set (0 + (sv1.2.1).toNat) (sv1.1.getD (0 + (sv1.2.2).toNat) default)).length))), (1, (AV.fn 216 [(vp 1)])), (5, (vi sv1.2.1)), (6, (vi sv1.2.2))] [(eS 5 TApiOrder.e (sv1.1.set (0 + (sv1.2.1).toNat) (sv1.1.getD (0 + (sv1.2.2).toNat) default))), (Ob.box (vi p1)), (bx (TApiOrder.e (sv1.1.getD (0 + (sv1.2.2).toNat) default)))] [(eS 5 TApiOrder.e (sv1.1.set (0 + (sv1.2.1).toNat) (sv1.1.getD (0 + (sv1.2.2).toNat) default))), (Ob.box (vi p1)), (bx (TApiOrder.e (sv1.1.getD (0 + (sv1.2.2).toNat) default)))] (fun _ => ⟨by simp only [List.length_set], by rfl⟩) <|
.ret [] (.cont ((sv1.1.set (0 + (sv1.2.1).toNat) (sv1.1.getD (0 + (sv1.2.2).toNat) default)), (IntKind.i64.wrap (sv1.2.1 + 1)), (IntKind.i64.wrap (sv1.2.2 + 1))))) (
.ret [] (.cont (sv1.1, sv1.2.1, (IntKind.i64.wrap (sv1.2.2 + 1)))))) (
.ret [] (.brk (sv1.1, sv1.2.1, sv1.2.2)))
def S_slices_DeleteFunc_Order_commitment_orders_1 (p0 : (List TApiOrder)) (p1 : Int) : Scr Tryz.prog R_slices_DeleteFunc_Order_commitment_orders_1 R_slices_DeleteFunc_Order_commitment_orders_1 :=
.call (@F_slices_IndexFunc_Order_commitment_orders_1_ok p0 p1) fun rv3 cv3 =>
.reg 1 [] [(2, hc cv3 [0, 1] true)] [.cl 0 cv3 [0, 1] 2 true] <|
.ite (rv3 == (-1)) (
.guard [p0.length < 2 ^ 63] <|
.reg 3 [] [] [] <|
.frz 0 (.ev 0) none [4] [] <|
.ret [] p0) (
.iter [1] (fun (sv1 : (List TApiOrder) × Int × Int) => [(0, (AV.ref 0 sv1.1.length 0 sv1.1.length)), (5, (vi sv1.2.1)), (6, (vi sv1.2.2))]) (fun (sv1 : (List TApiOrder) × Int × Int) => [(0, (eS 5 TApiOrder.e sv1.1))]) (p0, rv3, (IntKind.i64.wrap (rv3 + 1))) (S_slices_DeleteFunc_Order_commitment_orders_1_b1 p1) (fun (sv1 : (List TApiOrder) × Int × Int) =>
.guard [(0 : Int) ≤ sv1.2.1, (sv1.2.1).toNat ≤ sv1.1.length] <|
.reg 11 [] [(3, { obs := [(0, (eS 5 TApiOrder.e (clearL sv1.1 (0 + (sv1.2.1).toNat) (sv1.1.length - (sv1.2.1).toNat) (⟨0, 0, 0, 0, false⟩ : TApiOrder))))] })] [.ev 0, .ev 1, .pf (Eq.refl sv1.1.length), .pf (Eq.refl sv1.1.length), .pf (oLe_clear (sz := 5) (e := TApiOrder.e) (l := sv1.1) (off := (0 + (sv1.2.1).toNat)) (n := (sv1.1.length - (sv1.2.1).toNat)) (z := (⟨0, 0, 0, 0, false⟩ : TApiOrder)))] <|
.cst (A := True) (.pf trivial) [(0, (AV.ref 0 sv1.1.length 0 sv1.1.length)), (5, (vi sv1.2.1))] [(0, (AV.ref 0 ((clearL sv1.1 (0 + (sv1.2.1).toNat) (sv1.1.length - (sv1.2.1).toNat) (⟨0, 0, 0, 0, false⟩ : TApiOrder)).length) 0 ((clearL sv1.1 (0 + (sv1.2.1).toNat) (sv1.1.length - (sv1.2.1).toNat) (⟨0, 0, 0, 0, false⟩ : TApiOrder)).length))), (5, (vi sv1.2.1))] [(eS 5 TApiOrder.e (clearL sv1.1 (0 + (sv1.2.1).toNat) (sv1.1.length - (sv1.2.1).toNat) (⟨0, 0, 0, 0, false⟩ : TApiOrder))), (Ob.box (vi p1))] [(eS 5 TApiOrder.e (clearL sv1.1 (0 + (sv1.2.1).toNat) (sv1.1.length - (sv1.2.1).toNat) (⟨0, 0, 0, 0, false⟩ : TApiOrder))), (Ob.box (vi p1))] (fun _ => ⟨by simp only [clearL_length], by rfl⟩) <|
.guard [(sv1.2.1).toNat ≤ (clearL sv1.1 (0 + (sv1.2.1).toNat) (sv1.1.length - (sv1.2.1).toNat) (⟨0, 0, 0, 0, false⟩ : TApiOrder)).length] <|
.reg 12 [] [] [.ev 1, .ev 0, .pf (Eq.refl ((clearL sv1.1 (0 + (sv1.2.1).toNat) (sv1.1.length - (sv1.2.1).toNat) (⟨0, 0, 0, 0, false⟩ : TApiOrder)).length))] <|
.guard [(clearL sv1.1 (0 + (sv1.2.1).toNat) (sv1.1.length - (sv1.2.1).toNat) (⟨0, 0, 0, 0, false⟩ : TApiOrder)).length < 2 ^ 63] <|
.frz 0 (.ev 0) (some (.der (fun (h : (sv1.2.1).toNat ≤ (clearL sv1.1 (0 + (sv1.2.1).toNat) (sv1.1.length - (sv1.2.1).toNat) (⟨0, 0, 0, 0, false⟩ : TApiOrder)).length) => (Nat.le_trans (Nat.sub_le _ _) h : ((sv1.2.1).toNat - 0) ≤ (clearL sv1.1 (0 + (sv1.2.1).toNat) (sv1.1.length - (sv1.2.1).toNat) (⟨0, 0, 0, 0, false⟩ : TApiOrder)).length)) 1)) [4] [] <|
.lev 4 (AV.d (eL TApiOrder.e ((clearL sv1.1 (0 + (sv1.2.1).toNat) (sv1.1.length - (sv1.2.1).toNat) (⟨0, 0, 0, 0, false⟩ : TApiOrder)).take ((sv1.2.1).toNat)))) (.der (fun (h : (sv1.2.1).toNat ≤ (clearL sv1.1 (0 + (sv1.2.1).toNat) (sv1.1.length - (sv1.2.1).toNat) (⟨0, 0, 0, 0, false⟩ : TApiOrder)).length) => lvT TApiOrder.e (clearL sv1.1 (0 + (sv1.2.1).toNat) (sv1.1.length - (sv1.2.1).toNat) (⟨0, 0, 0, 0, false⟩ : TApiOrder)) h) 1) <|
.ret [] ((clearL sv1.1 (0 + (sv1.2.1).toNat) (sv1.1.length - (sv1.2.1).toNat) (⟨0, 0, 0, 0, false⟩ : TApiOrder)).take ((sv1.2.1).toNat))) id)
def F_slices_DeleteFunc_Order_commitment_orders_1 (p0 : (List TApiOrder)) (p1 : Int) : Option R_slices_DeleteFunc_Order_commitment_orders_1 := (S_slices_DeleteFunc_Order_commitment_orders_1 p0 p1).den
theorem F_slices_DeleteFunc_Order_commitment_orders_1_ok {p0 : (List TApiOrder)} {p1 : Int} (r : R_slices_DeleteFunc_Order_commitment_orders_1) (h : F_slices_DeleteFunc_Order_commitment_orders_1 p0 p1 = some r) : CallOk Tryz.prog 214 [(AV.ref 0 p0.length 0 p0.length), (AV.fn 216 [(vp 1)])] [(eS 5 TApiOrder.e p0), (Ob.box (vi p1))] (V_slices_DeleteFunc_Order_commitment_orders_1 r) (L_slices_DeleteFunc_Order_commitment_orders_1 p1 r) := fOk (s := S_slices_DeleteFunc_Order_commitment_orders_1 p0 p1) Tryz.func214 rfl (by kernel_rfl) h
abbrev R_commitment_orders := (List TApiOrder)
def V_commitment_orders (x : R_commitment_orders) : AV := (AV.d (eL TApiOrder.e x))
def L_commitment_orders (_ : R_commitment_orders) : List Ob := []
def S_commitment_orders (a0 : TApiBook) (a1 : Int) : Scr Tryz.prog R_commitment_orders R_commitment_orders :=
.call (@F_slices_Clone_Order_rw_ok a0.Orders) fun rv1 cv1 =>
.call (@F_slices_DeleteFunc_Order_commitment_orders_1_ok rv1 a1) fun rv2 cv2 =>
.reg 1 [] [(2, hc cv1 [] false), (4, hc cv2 [2, 1] false)] [.cl 1 cv1 [] 2 false, .cl 0 cv2 [2, 1] 3 false] <|
.ret [] rv2
def F_commitment_orders (a0 : TApiBook) (a1 : Int) : Option R_commitment_orders := (S_commitment_orders a0 a1).den
theorem F_commitment_orders_ok {a0 : TApiBook} {a1 : Int} (r : R_commitment_orders) (h : F_commitment_orders a0 a1 = some r) : CallOk Tryz.prog 194 [(AV.d (TApiBook.e a0)), (vi a1)] [] (V_commitment_orders r) (L_commitment_orders r) := fOk (s := S_commitment_orders a0 a1) Tryz.func194 rfl (by kernel_rfl) h
abbrev R_commitment_order_1 := Bool
def V_commitment_order_1 (x : R_commitment_order_1) : AV := (vb x)
def L_commitment_order_1 (p0 : TApiOrder) (_ : R_commitment_order_1) : List Ob := [(bx (TApiOrder.e p0))]
def S_commitment_order_1 (a0 : TApiOrder) (p0 : TApiOrder) : Scr Tryz.prog R_commitment_order_1 R_commitment_order_1 :=
.ret [] (bif (!a0.Back) then true else (decide (a0.Day > p0.Day)))
def F_commitment_order_1 (a0 : TApiOrder) (p0 : TApiOrder) : Option R_commitment_order_1 := (S_commitment_order_1 a0 p0).den
theorem F_commitment_order_1_ok {a0 : TApiOrder} {p0 : TApiOrder} (r : R_commitment_order_1) (h : F_commitment_order_1 a0 p0 = some r) : CallOk Tryz.prog 195 [(AV.d (TApiOrder.e a0)), (vp 0)] [(bx (TApiOrder.e p0))] (V_commitment_order_1 r) (L_commitment_order_1 p0 r) := fOk (s := S_commitment_order_1 a0 p0) Tryz.func195 rfl (by kernel_rfl) h
abbrev R_slices_IndexFunc_Order_commitment_order_1 := Int
def V_slices_IndexFunc_Order_commitment_order_1 (x : R_slices_IndexFunc_Order_commitment_order_1) : AV := (vi x)
def L_slices_IndexFunc_Order_commitment_order_1 (p0 : TApiOrder) (_ : R_slices_IndexFunc_Order_commitment_order_1) : List Ob := [(bx (TApiOrder.e p0))]
def S_slices_IndexFunc_Order_commitment_order_1_b1 (a0 : (List TApiOrder)) (p0 : TApiOrder) (iv1 : Nat) (_ : Unit) : Scr Tryz.prog R_slices_IndexFunc_Order_commitment_order_1 (Step (Unit) R_slices_IndexFunc_Order_commitment_order_1) :=
.call (@F_commitment_order_1_ok (a0.getD iv1 default) p0) fun rv2 cv2 =>
.reg 4 [] [(5, hc cv2 [0] true)] [.pf (nn iv1), .ev 1, .cl 0 cv2 [0] 1 true] <|
.ite rv2 (
.ret [] (.ret (iv1 : Int))) (
.ret [] (.cont ()))
def S_slices_IndexFunc_Order_commitment_order_1 (a0 : (List TApiOrder)) (p0 : TApiOrder) : Scr Tryz.prog R_slices_IndexFunc_Order_commitment_order_1 R_slices_IndexFunc_Order_commitment_order_1 :=
.range (a0.length : Int) a0.length rfl (.slot 0) 8 [0, 1, 7] (fun (_ : Unit) => []) (fun (_ : Unit) => []) () (S_slices_IndexFunc_Order_commitment_order_1_b1 a0 p0) (fun (_ : Unit) => 
.ret [] (-1)) id
def F_slices_IndexFunc_Order_commitment_order_1 (a0 : (List TApiOrder)) (p0 : TApiOrder) : Option R_slices_IndexFunc_Order_commitment_order_1 := (S_slices_IndexFunc_Order_commitment_order_1 a0 p0).den
theorem F_slices_IndexFunc_Order_commitment_order_1_ok {a0 : (List TApiOrder)} {p0 : TApiOrder} (r : R_slices_IndexFunc_Order_commitment_order_1) (h : F_slices_IndexFunc_Order_commitment_order_1 a0 p0 = some r) : CallOk Tryz.prog 130 [(AV.d (eL TApiOrder.e a0)), (AV.fn 195 [(vp 0)])] [(bx (TApiOrder.e p0))] (V_slices_IndexFunc_Order_commitment_order_1 r) (L_slices_IndexFunc_Order_commitment_order_1 p0 r) := fOk (s := S_slices_IndexFunc_Order_commitment_order_1 a0 p0) Tryz.func130 rfl (by kernel_rfl) h
abbrev R_slices_CoF_Order_commitment_order_1 := Bool
def V_slices_CoF_Order_commitment_order_1 (x : R_slices_CoF_Order_commitment_order_1) : AV := (vb x)
def L_slices_CoF_Order_commitment_order_1 (p0 : TApiOrder) (_ : R_slices_CoF_Order_commitment_order_1) : List Ob := [(bx (TApiOrder.e p0))]
def S_slices_CoF_Order_commitment_order_1 (a0 : (List TApiOrder)) (p0 : TApiOrder) : Scr Tryz.prog R_slices_CoF_Order_commitment_order_1 R_slices_CoF_Order_commitment_order_1 :=
.call (@F_slices_IndexFunc_Order_commitment_order_1_ok a0 p0) fun rv1 cv1 =>
.reg 1 [] [(2, hc cv1 [0] true)] [.cl 0 cv1 [0] 1 true] <|
.ret [] (decide (rv1 ≥ 0))
def F_slices_CoF_Order_commitment_order_1 (a0 : (List TApiOrder)) (p0 : TApiOrder) : Option R_slices_CoF_Order_commitment_order_1 := (S_slices_CoF_Order_commitment_order_1 a0 p0).den
theorem F_slices_CoF_Order_commitment_order_1_ok {a0 : (List TApiOrder)} {p0 : TApiOrder} (r : R_slices_CoF_Order_commitment_order_1) (h : F_slices_CoF_Order_commitment_order_1 a0 p0 = some r) : CallOk Tryz.prog 196 [(AV.d (eL TApiOrder.e a0)), (AV.fn 195 [(vp 0)])] [(bx (TApiOrder.e p0))] (V_slices_CoF_Order_commitment_order_1 r) (L_slices_CoF_Order_commitment_order_1 p0 r) := fOk (s := S_slices_CoF_Order_commitment_order_1 a0 p0) Tryz.func196 rfl (by kernel_rfl) h
abbrev R_commitment_order := Bool
def V_commitment_order (x : R_commitment_order) : AV := (vb x)
def L_commitment_order (_ : R_commitment_order) : List Ob := []
def S_commitment_order (a0 : TApiBook) (a1 : Int) : Scr Tryz.prog R_commitment_order R_commitment_order :=
.guard [(0 : Int) ≤ a1, (a1).toNat < a0.Orders.length] <|
.reg 1 [] [] [.ev 0, .ev 1] <|
.calld [(((a0.Orders.getD ((a1).toNat) default).Number) != (IntKind.i64.wrap (a1 + 1))) = false] default (@F_commitment_among_ok ((a0.Orders.getD ((a1).toNat) default).Verification) 1 (a0.Verifications.length : Int)) fun rv1 cv1 =>
.reg 2 [] [(11, hc cv1 [] true)] [.clg 0 [(((a0.Orders.getD ((a1).toNat) default).Number) != (IntKind.i64.wrap (a1 + 1))) = false] cv1 [] 2 true] <|
.ite (bif (((a0.Orders.getD ((a1).toNat) default).Number) != (IntKind.i64.wrap (a1 + 1))) then true else (!rv1)) (
.ret [] false) (
.guard [(0 : Int) ≤ (IntKind.i64.wrap (((a0.Orders.getD ((a1).toNat) default).Verification) - 1)), ((IntKind.i64.wrap (((a0.Orders.getD ((a1).toNat) default).Verification) - 1))).toNat < a0.Verifications.length] <|
.reg 4 [] [] [.ev 0, .ev 1] <|
.call (@F_commitment_orders_ok (⟨[], [], [], (a0.Orders.take ((a1).toNat))⟩ : TApiBook) ((a0.Orders.getD ((a1).toNat) default).Verification)) fun rv2 cv2 =>
.guard [(a1).toNat ≤ a0.Orders.length] <|
.reg 5 [] [(3, hv (AV.d (eL TApiOrder.e (a0.Orders.take ((a1).toNat))))), (4, hv (AV.d (TApiBook.e (⟨[], [], [], (a0.Orders.take ((a1).toNat))⟩ : TApiBook)))), (7, hc cv2 [] true)] [.ev 7, .ev 0, .der (fun (h0 : (a1).toNat ≤ a0.Orders.length) => lvT TApiOrder.e a0.Orders h0) 0, .pf (p := LeV (AV.d (DV.agg [Z0, Z0, Z0, (eL TApiOrder.e (a0.Orders.take ((a1).toNat)))])) (AV.d (TApiBook.e (⟨[], [], [], (a0.Orders.take ((a1).toNat))⟩ : TApiBook)))) (leV_dle rfl (DLe.agg (DLeL.cons DLe.sl0 (DLeL.cons DLe.sl0 (DLeL.cons DLe.sl0 (DLeL.cons (DLe.refl _) DLeL.nil)))))), .cl 1 cv2 [] 3 true] <|
.call (@F_commitment_day_ok ((a0.Orders.getD ((a1).toNat) default).Day)) fun rv3 cv3 =>
.calld [(bif rv3 then (decide (((a0.Orders.getD ((a1).toNat) default).Day) ≥ ((a0.Verifications.getD (((IntKind.i64.wrap (((a0.Orders.getD ((a1).toNat) default).Verification) - 1))).toNat) default).Day))) else false) = true] default (@F_calendar_Year_ok ((a0.Orders.getD ((a1).toNat) default).Day)) fun rv4 cv4 =>
.calld [(bif rv3 then (decide (((a0.Orders.getD ((a1).toNat) default).Day) ≥ ((a0.Verifications.getD (((IntKind.i64.wrap (((a0.Orders.getD ((a1).toNat) default).Verification) - 1))).toNat) default).Day))) else false) = true] default (@F_commitment_year_ok a0 (a0.Commitments.getD (((IntKind.i64.wrap (((a0.Verifications.getD (((IntKind.i64.wrap (((a0.Orders.getD ((a1).toNat) default).Verification) - 1))).toNat) default).Commitment) - 1))).toNat) default)) fun rv5 cv5 =>
.calld [(bif (bif (bif rv3 then (decide (((a0.Orders.getD ((a1).toNat) default).Day) ≥ ((a0.Verifications.getD (((IntKind.i64.wrap (((a0.Orders.getD ((a1).toNat) default).Verification) - 1))).toNat) default).Day))) else false) then (decide (rv4 ≤ (IntKind.i64.wrap (rv5 + 1)))) else false) then (((a0.Orders.getD ((a1).toNat) default).Attempt) == (IntKind.i64.wrap ((rv2.length : Int) + 1))) else false) = true] default (@F_slices_CoF_Order_commitment_order_1_ok rv2 (a0.Orders.getD ((a1).toNat) default)) fun rv6 cv6 =>
.guard [AllP [(bif rv3 then (decide (((a0.Orders.getD ((a1).toNat) default).Day) ≥ ((a0.Verifications.getD (((IntKind.i64.wrap (((a0.Orders.getD ((a1).toNat) default).Verification) - 1))).toNat) default).Day))) else false) = true] → ((0 : Int) ≤ (IntKind.i64.wrap (((a0.Verifications.getD (((IntKind.i64.wrap (((a0.Orders.getD ((a1).toNat) default).Verification) - 1))).toNat) default).Commitment) - 1))), AllP [(bif rv3 then (decide (((a0.Orders.getD ((a1).toNat) default).Day) ≥ ((a0.Verifications.getD (((IntKind.i64.wrap (((a0.Orders.getD ((a1).toNat) default).Verification) - 1))).toNat) default).Day))) else false) = true] → (((IntKind.i64.wrap (((a0.Verifications.getD (((IntKind.i64.wrap (((a0.Orders.getD ((a1).toNat) default).Verification) - 1))).toNat) default).Commitment) - 1))).toNat < a0.Commitments.length)] <|
.reg 7 [] [(2, hc cv3 [] true), (13, hc cv4 [] true), (22, hc cv5 [] true), (37, hc cv6 [1] true)] [.cl 8 cv3 [] 3 true, .clg 6 [(bif rv3 then (decide (((a0.Orders.getD ((a1).toNat) default).Day) ≥ ((a0.Verifications.getD (((IntKind.i64.wrap (((a0.Orders.getD ((a1).toNat) default).Verification) - 1))).toNat) default).Day))) else false) = true] cv4 [] 3 true, .ev 0, .ev 1, .clg 4 [(bif rv3 then (decide (((a0.Orders.getD ((a1).toNat) default).Day) ≥ ((a0.Verifications.getD (((IntKind.i64.wrap (((a0.Orders.getD ((a1).toNat) default).Verification) - 1))).toNat) default).Day))) else false) = true] cv5 [] 3 true, .clg 2 [(bif (bif (bif rv3 then (decide (((a0.Orders.getD ((a1).toNat) default).Day) ≥ ((a0.Verifications.getD (((IntKind.i64.wrap (((a0.Orders.getD ((a1).toNat) default).Verification) - 1))).toNat) default).Day))) else false) then (decide (rv4 ≤ (IntKind.i64.wrap (rv5 + 1)))) else false) then (((a0.Orders.getD ((a1).toNat) default).Attempt) == (IntKind.i64.wrap ((rv2.length : Int) + 1))) else false) = true] cv6 [1] 3 true] <|
.ret [] (bif (bif (bif (bif rv3 then (decide (((a0.Orders.getD ((a1).toNat) default).Day) ≥ ((a0.Verifications.getD (((IntKind.i64.wrap (((a0.Orders.getD ((a1).toNat) default).Verification) - 1))).toNat) default).Day))) else false) then (decide (rv4 ≤ (IntKind.i64.wrap (rv5 + 1)))) else false) then (((a0.Orders.getD ((a1).toNat) default).Attempt) == (IntKind.i64.wrap ((rv2.length : Int) + 1))) else false) then (!rv6) else false))
def F_commitment_order (a0 : TApiBook) (a1 : Int) : Option R_commitment_order := (S_commitment_order a0 a1).den
theorem F_commitment_order_ok {a0 : TApiBook} {a1 : Int} (r : R_commitment_order) (h : F_commitment_order a0 a1 = some r) : CallOk Tryz.prog 164 [(AV.d (TApiBook.e a0)), (vi a1)] [] (V_commitment_order r) (L_commitment_order r) := fOk (s := S_commitment_order a0 a1) Tryz.func164 rfl (by kernel_rfl) h
abbrev R_commitment_all_commitment_order := Bool
def V_commitment_all_commitment_order (x : R_commitment_all_commitment_order) : AV := (vb x)
def L_commitment_all_commitment_order (_ : R_commitment_all_commitment_order) : List Ob := []
def S_commitment_all_commitment_order_b1 (a0 : TApiBook) (iv1 : Nat) (_ : Unit) : Scr Tryz.prog R_commitment_all_commitment_order (Step (Unit) R_commitment_all_commitment_order) :=
.call (@F_commitment_order_ok a0 (iv1 : Int)) fun rv2 cv2 =>
.reg 4 [] [(3, hc cv2 [] true)] [.cl 0 cv2 [] 1 true] <|
.ite (!rv2) (
.ret [] (.ret false)) (
.ret [] (.cont ()))
def S_commitment_all_commitment_order (a0 : TApiBook) (a1 : Int) : Scr Tryz.prog R_commitment_all_commitment_order R_commitment_all_commitment_order :=
.guard [(a1).toNat < 2 ^ 63] <|
.range a1 ((a1).toNat) rfl (.why (.ev 0)) 9 [1, 2, 3, 8] (fun (_ : Unit) => []) (fun (_ : Unit) => []) () (S_commitment_all_commitment_order_b1 a0) (fun (_ : Unit) => 
.ret [] (decide (a1 ≤ 200))) id
def F_commitment_all_commitment_order (a0 : TApiBook) (a1 : Int) : Option R_commitment_all_commitment_order := (S_commitment_all_commitment_order a0 a1).den
theorem F_commitment_all_commitment_order_ok {a0 : TApiBook} {a1 : Int} (r : R_commitment_all_commitment_order) (h : F_commitment_all_commitment_order a0 a1 = some r) : CallOk Tryz.prog 160 [(AV.d (TApiBook.e a0)), (vi a1), (AV.fn 164 [])] [] (V_commitment_all_commitment_order r) (L_commitment_all_commitment_order r) := fOk (s := S_commitment_all_commitment_order a0 a1) Tryz.func160 rfl (by kernel_rfl) h
abbrev R_commitment_Valid := Bool
def V_commitment_Valid (x : R_commitment_Valid) : AV := (vb x)
def L_commitment_Valid (_ : R_commitment_Valid) : List Ob := []
def S_commitment_Valid (a0 : TApiBook) : Scr Tryz.prog R_commitment_Valid R_commitment_Valid :=
.call (@F_commitment_all_commitment_reservation_ok a0 (a0.Reservations.length : Int)) fun rv1 cv1 =>
.calld [rv1 = true] default (@F_commitment_all_commitment_commitment_ok a0 (a0.Commitments.length : Int)) fun rv2 cv2 =>
.calld [(bif rv1 then rv2 else false) = true] default (@F_commitment_all_commitment_verification_ok a0 (a0.Verifications.length : Int)) fun rv3 cv3 =>
.calld [(bif (bif rv1 then rv2 else false) then rv3 else false) = true] default (@F_commitment_all_commitment_order_ok a0 (a0.Orders.length : Int)) fun rv4 cv4 =>
.reg 1 [] [(4, hc cv1 [] true), (10, hc cv2 [] true), (17, hc cv3 [] true), (24, hc cv4 [] true)] [.cl 6 cv1 [] 1 true, .clg 4 [rv1 = true] cv2 [] 1 true, .clg 2 [(bif rv1 then rv2 else false) = true] cv3 [] 1 true, .clg 0 [(bif (bif rv1 then rv2 else false) then rv3 else false) = true] cv4 [] 1 true] <|
.ret [] (bif (bif (bif rv1 then rv2 else false) then rv3 else false) then rv4 else false)
def F_commitment_Valid (a0 : TApiBook) : Option R_commitment_Valid := (S_commitment_Valid a0).den
theorem F_commitment_Valid_ok {a0 : TApiBook} (r : R_commitment_Valid) (h : F_commitment_Valid a0 = some r) : CallOk Tryz.prog 148 [(AV.d (TApiBook.e a0))] [] (V_commitment_Valid r) (L_commitment_Valid r) := fOk (s := S_commitment_Valid a0) Tryz.func148 rfl (by kernel_rfl) h
abbrev R_rights_among := Bool
def V_rights_among (x : R_rights_among) : AV := (vb x)
def L_rights_among (_ : R_rights_among) : List Ob := []
def S_rights_among (a0 : Int) (a1 : Int) (a2 : Int) : Scr Tryz.prog R_rights_among R_rights_among :=
.ret [] (bif (decide (a0 ≥ a1)) then (decide (a0 ≤ a2)) else false)
def F_rights_among (a0 : Int) (a1 : Int) (a2 : Int) : Option R_rights_among := (S_rights_among a0 a1 a2).den
theorem F_rights_among_ok {a0 : Int} {a1 : Int} {a2 : Int} (r : R_rights_among) (h : F_rights_among a0 a1 a2 = some r) : CallOk Tryz.prog 167 [(vi a0), (vi a1), (vi a2)] [] (V_rights_among r) (L_rights_among r) := fOk (s := S_rights_among a0 a1 a2) Tryz.func167 rfl (by kernel_rfl) h
abbrev R_rights_place := Bool
def V_rights_place (x : R_rights_place) : AV := (vb x)
def L_rights_place (_ : R_rights_place) : List Ob := []
def S_rights_place (a0 : List UInt8) (a1 : Int) : Scr Tryz.prog R_rights_place R_rights_place :=
.call (@F_classification_Parts_ok a0) fun rv1 cv1 =>
.calld [(decide ((rv1.length : Int) > 0)) = true] default (@F_rights_among_ok a1 0 99) fun rv2 cv2 =>
.reg 1 [] [(1, hc cv1 [] true), (6, hc cv2 [] true)] [.cl 2 cv1 [] 0 true, .clg 0 [(decide ((rv1.length : Int) > 0)) = true] cv2 [] 0 true] <|
.ret [] (bif (decide ((rv1.length : Int) > 0)) then rv2 else false)
def F_rights_place (a0 : List UInt8) (a1 : Int) : Option R_rights_place := (S_rights_place a0 a1).den
theorem F_rights_place_ok {a0 : List UInt8} {a1 : Int} (r : R_rights_place) (h : F_rights_place a0 a1 = some r) : CallOk Tryz.prog 165 [(AV.d (DV.str a0)), (vi a1)] [] (V_rights_place r) (L_rights_place r) := fOk (s := S_rights_place a0 a1) Tryz.func165 rfl (by kernel_rfl) h
abbrev R_rights_total := Bool
def V_rights_total (x : R_rights_total) : AV := (vb x)
def L_rights_total (_ : R_rights_total) : List Ob := []
def S_rights_total (a0 : Int) : Scr Tryz.prog R_rights_total R_rights_total :=
.call (@F_rights_among_ok a0 0 1000000000000000) fun rv1 cv1 =>
.reg 1 [] [(1, hc cv1 [] true)] [.cl 0 cv1 [] 0 true] <|
.ret [] rv1
def F_rights_total (a0 : Int) : Option R_rights_total := (S_rights_total a0).den
theorem F_rights_total_ok {a0 : Int} (r : R_rights_total) (h : F_rights_total a0 = some r) : CallOk Tryz.prog 166 [(vi a0)] [] (V_rights_total r) (L_rights_total r) := fOk (s := S_rights_total a0) Tryz.func166 rfl (by kernel_rfl) h
abbrev R_rights_Right := Bool
def V_rights_Right (x : R_rights_Right) : AV := (vb x)
def L_rights_Right (_ : R_rights_Right) : List Ob := []
def S_rights_Right (a0 : TApiRight) : Scr Tryz.prog R_rights_Right R_rights_Right :=
.call (@F_rights_place_ok a0.Code a0.Year) fun rv1 cv1 =>
.calld [rv1 = true] default (@F_rights_total_ok a0.Granted) fun rv2 cv2 =>
.calld [(bif rv1 then rv2 else false) = true] default (@F_rights_total_ok a0.Asked) fun rv3 cv3 =>
.calld [(bif (bif rv1 then rv2 else false) then rv3 else false) = true] default (@F_rights_among_ok a0.Returned 0 a0.Granted) fun rv4 cv4 =>
.reg 1 [] [(4, hc cv1 [] true), (8, hc cv2 [] true), (13, hc cv3 [] true), (20, hc cv4 [] true)] [.cl 6 cv1 [] 1 true, .clg 4 [rv1 = true] cv2 [] 1 true, .clg 2 [(bif rv1 then rv2 else false) = true] cv3 [] 1 true, .clg 0 [(bif (bif rv1 then rv2 else false) then rv3 else false) = true] cv4 [] 1 true] <|
.ret [] (bif (bif (bif rv1 then rv2 else false) then rv3 else false) then rv4 else false)
def F_rights_Right (a0 : TApiRight) : Option R_rights_Right := (S_rights_Right a0).den
theorem F_rights_Right_ok {a0 : TApiRight} (r : R_rights_Right) (h : F_rights_Right a0 = some r) : CallOk Tryz.prog 149 [(AV.d (TApiRight.e a0))] [] (V_rights_Right r) (L_rights_Right r) := fOk (s := S_rights_Right a0) Tryz.func149 rfl (by kernel_rfl) h
abbrev R_cmp_isNaN_string := Bool
def V_cmp_isNaN_string (x : R_cmp_isNaN_string) : AV := (vb x)
def L_cmp_isNaN_string (_ : R_cmp_isNaN_string) : List Ob := []
def S_cmp_isNaN_string (a0 : List UInt8) : Scr Tryz.prog R_cmp_isNaN_string R_cmp_isNaN_string :=
.ret [] (!(a0 == a0))
def F_cmp_isNaN_string (a0 : List UInt8) : Option R_cmp_isNaN_string := (S_cmp_isNaN_string a0).den
theorem F_cmp_isNaN_string_ok {a0 : List UInt8} (r : R_cmp_isNaN_string) (h : F_cmp_isNaN_string a0 = some r) : CallOk Tryz.prog 217 [(AV.d (DV.str a0))] [] (V_cmp_isNaN_string r) (L_cmp_isNaN_string r) := fOk (s := S_cmp_isNaN_string a0) Tryz.func217 rfl (by kernel_rfl) h
abbrev R_cmp_Compare_string := Int
def V_cmp_Compare_string (x : R_cmp_Compare_string) : AV := (vi x)
def L_cmp_Compare_string (_ : R_cmp_Compare_string) : List Ob := []
def S_cmp_Compare_string (a0 : List UInt8) (a1 : List UInt8) : Scr Tryz.prog R_cmp_Compare_string R_cmp_Compare_string :=
.call (@F_cmp_isNaN_string_ok a0) fun rv1 cv1 =>
.reg 1 [] [(1, hc cv1 [] true)] [.cl 0 cv1 [] 0 true] <|
.call (@F_cmp_isNaN_string_ok a1) fun rv2 cv2 =>
.reg 2 [] [(1, hc cv2 [] true)] [.cl 0 cv2 [] 0 true] <|
.ite rv1 (
.ite rv2 (
.ret [] 0) (
.ret [] (-1))) (
.ite rv2 (
.ret [] 1) (
.ite (Op.bytesLess a0 a1) (
.ret [] (-1)) (
.ite (!(Op.bytesLess a0 a1 || a0 == a1)) (
.ret [] 1) (
.ret [] 0))))
def F_cmp_Compare_string (a0 : List UInt8) (a1 : List UInt8) : Option R_cmp_Compare_string := (S_cmp_Compare_string a0 a1).den
theorem F_cmp_Compare_string_ok {a0 : List UInt8} {a1 : List UInt8} (r : R_cmp_Compare_string) (h : F_cmp_Compare_string a0 a1 = some r) : CallOk Tryz.prog 197 [(AV.d (DV.str a0)), (AV.d (DV.str a1))] [] (V_cmp_Compare_string r) (L_cmp_Compare_string r) := fOk (s := S_cmp_Compare_string a0 a1) Tryz.func197 rfl (by kernel_rfl) h
abbrev R_cmp_isNaN_int := Bool
def V_cmp_isNaN_int (x : R_cmp_isNaN_int) : AV := (vb x)
def L_cmp_isNaN_int (_ : R_cmp_isNaN_int) : List Ob := []
def S_cmp_isNaN_int (a0 : Int) : Scr Tryz.prog R_cmp_isNaN_int R_cmp_isNaN_int :=
.ret [] (a0 != a0)
def F_cmp_isNaN_int (a0 : Int) : Option R_cmp_isNaN_int := (S_cmp_isNaN_int a0).den
theorem F_cmp_isNaN_int_ok {a0 : Int} (r : R_cmp_isNaN_int) (h : F_cmp_isNaN_int a0 = some r) : CallOk Tryz.prog 156 [(vi a0)] [] (V_cmp_isNaN_int r) (L_cmp_isNaN_int r) := fOk (s := S_cmp_isNaN_int a0) Tryz.func156 rfl (by kernel_rfl) h
abbrev R_cmp_Compare_int := Int
def V_cmp_Compare_int (x : R_cmp_Compare_int) : AV := (vi x)
def L_cmp_Compare_int (_ : R_cmp_Compare_int) : List Ob := []
def S_cmp_Compare_int (a0 : Int) (a1 : Int) : Scr Tryz.prog R_cmp_Compare_int R_cmp_Compare_int :=
.call (@F_cmp_isNaN_int_ok a0) fun rv1 cv1 =>
.reg 1 [] [(1, hc cv1 [] true)] [.cl 0 cv1 [] 0 true] <|
.call (@F_cmp_isNaN_int_ok a1) fun rv2 cv2 =>
.reg 2 [] [(1, hc cv2 [] true)] [.cl 0 cv2 [] 0 true] <|
.ite rv1 (
.ite rv2 (
.ret [] 0) (
.ret [] (-1))) (
.ite rv2 (
.ret [] 1) (
.ite (decide (a0 < a1)) (
.ret [] (-1)) (
.ite (decide (a0 > a1)) (
.ret [] 1) (
.ret [] 0))))
def F_cmp_Compare_int (a0 : Int) (a1 : Int) : Option R_cmp_Compare_int := (S_cmp_Compare_int a0 a1).den
theorem F_cmp_Compare_int_ok {a0 : Int} {a1 : Int} (r : R_cmp_Compare_int) (h : F_cmp_Compare_int a0 a1 = some r) : CallOk Tryz.prog 137 [(vi a0), (vi a1)] [] (V_cmp_Compare_int r) (L_cmp_Compare_int r) := fOk (s := S_cmp_Compare_int a0 a1) Tryz.func137 rfl (by kernel_rfl) h
abbrev R_slices_Compare_int := Int
def V_slices_Compare_int (x : R_slices_Compare_int) : AV := (vi x)
def L_slices_Compare_int (_ : R_slices_Compare_int) : List Ob := []
def S_slices_Compare_int_b1 (a0 : (List Int)) (a1 : (List Int)) (iv1 : Nat) (_ : Unit) : Scr Tryz.prog R_slices_Compare_int (Step (Unit) R_slices_Compare_int) :=
.reg 3 [] [] [.pf (nn iv1), .ev 0] <|
.ite (decide ((iv1 : Int) ≥ (a1.length : Int))) (
.ret [] (.ret 1)) (
.guard [iv1 < a1.length] <|
.reg 6 [] [] [.pf (nn iv1), .ev 0] <|
.call (@F_cmp_Compare_int_ok (a0.getD iv1 default) (a1.getD iv1 default)) fun rv2 cv2 =>
.reg 7 [] [(2, hc cv2 [] true)] [.cl 0 cv2 [] 0 true] <|
.ite (rv2 != 0) (
.ret [] (.ret rv2)) (
.ret [] (.cont ())))
def S_slices_Compare_int (a0 : (List Int)) (a1 : (List Int)) : Scr Tryz.prog R_slices_Compare_int R_slices_Compare_int :=
.range (a0.length : Int) a0.length rfl (.slot 0) 11 [0, 1, 9, 10] (fun (_ : Unit) => []) (fun (_ : Unit) => []) () (S_slices_Compare_int_b1 a0 a1) (fun (_ : Unit) => 
.ite (decide ((a0.length : Int) < (a1.length : Int))) (
.ret [] (-1)) (
.ret [] 0)) id
def F_slices_Compare_int (a0 : (List Int)) (a1 : (List Int)) : Option R_slices_Compare_int := (S_slices_Compare_int a0 a1).den
theorem F_slices_Compare_int_ok {a0 : (List Int)} {a1 : (List Int)} (r : R_slices_Compare_int) (h : F_slices_Compare_int a0 a1 = some r) : CallOk Tryz.prog 198 [(vl a0), (vl a1)] [] (V_slices_Compare_int r) (L_slices_Compare_int r) := fOk (s := S_slices_Compare_int a0 a1) Tryz.func198 rfl (by kernel_rfl) h
abbrev R_classification_Compare := Int
def V_classification_Compare (x : R_classification_Compare) : AV := (vi x)
def L_classification_Compare (_ : R_classification_Compare) : List Ob := []
def S_classification_Compare (a0 : List UInt8) (a1 : List UInt8) : Scr Tryz.prog R_classification_Compare R_classification_Compare :=
.call (@F_classification_Parts_ok a0) fun rv1 cv1 =>
.call (@F_classification_Parts_ok a1) fun rv2 cv2 =>
.reg 1 [] [(1, hc cv1 [] true), (3, hc cv2 [] true)] [.cl 1 cv1 [] 0 true, .cl 0 cv2 [] 0 true] <|
.ite (bif ((rv1.length : Int) == 0) then ((rv2.length : Int) == 0) else false) (
.call (@F_cmp_Compare_string_ok a0 a1) fun rv3 cv3 =>
.reg 3 [] [(2, hc cv3 [] true)] [.cl 0 cv3 [] 0 true] <|
.ret [] rv3) (
.call (@F_slices_Compare_int_ok rv1 rv2) fun rv4 cv4 =>
.reg 4 [] [(2, hc cv4 [] true)] [.cl 0 cv4 [] 0 true] <|
.ret [] rv4)
def F_classification_Compare (a0 : List UInt8) (a1 : List UInt8) : Option R_classification_Compare := (S_classification_Compare a0 a1).den
theorem F_classification_Compare_ok {a0 : List UInt8} {a1 : List UInt8} (r : R_classification_Compare) (h : F_classification_Compare a0 a1 = some r) : CallOk Tryz.prog 169 [(AV.d (DV.str a0)), (AV.d (DV.str a1))] [] (V_classification_Compare r) (L_classification_Compare r) := fOk (s := S_classification_Compare a0 a1) Tryz.func169 rfl (by kernel_rfl) h
abbrev R_cmp_Or_int := Int
def V_cmp_Or_int (x : R_cmp_Or_int) : AV := (vi x)
def L_cmp_Or_int (_ : R_cmp_Or_int) : List Ob := []
def S_cmp_Or_int_b1 (a0 : (List Int)) (iv1 : Nat) (_ : Unit) : Scr Tryz.prog R_cmp_Or_int (Step (Unit) R_cmp_Or_int) :=
.reg 4 [] [] [.pf (nn iv1), .ev 0] <|
.ite ((a0.getD iv1 default) != 0) (
.ret [] (.ret (a0.getD iv1 default))) (
.ret [] (.cont ()))
def S_cmp_Or_int (a0 : (List Int)) : Scr Tryz.prog R_cmp_Or_int R_cmp_Or_int :=
.range (a0.length : Int) a0.length rfl (.slot 6) 8 [3, 6, 7] (fun (_ : Unit) => []) (fun (_ : Unit) => []) () (S_cmp_Or_int_b1 a0) (fun (_ : Unit) => 
.ret [] 0) id
def F_cmp_Or_int (a0 : (List Int)) : Option R_cmp_Or_int := (S_cmp_Or_int a0).den
theorem F_cmp_Or_int_ok {a0 : (List Int)} (r : R_cmp_Or_int) (h : F_cmp_Or_int a0 = some r) : CallOk Tryz.prog 168 [(vl a0)] [] (V_cmp_Or_int r) (L_cmp_Or_int r) := fOk (s := S_cmp_Or_int a0) Tryz.func168 rfl (by kernel_rfl) h
abbrev R_office_compare := Int
def V_office_compare (x : R_office_compare) : AV := (vi x)
def L_office_compare (_ : R_office_compare) : List Ob := []
def S_office_compare (a0 : TApiRight) (a1 : TApiRight) : Scr Tryz.prog R_office_compare R_office_compare :=
.call (@F_classification_Compare_ok a0.Code a1.Code) fun rv1 cv1 =>
.call (@F_cmp_Compare_int_ok a0.Year a1.Year) fun rv2 cv2 =>
.call (@F_cmp_Or_int_ok ([rv1, rv2] : List Int)) fun rv3 cv3 =>
.reg 1 [] [(4, hc cv1 [] true), (9, hc cv2 [] true), (10, hv (vl ([rv1, rv2] : List Int))), (11, hc cv3 [] true)] [.cl 2 cv1 [] 2 true, .cl 1 cv2 [] 2 true, .pf (leV_lit (DV.i .i64) ([rv1, rv2] : List Int)), .cl 0 cv3 [] 2 true] <|
.ret [] rv3
def F_office_compare (a0 : TApiRight) (a1 : TApiRight) : Option R_office_compare := (S_office_compare a0 a1).den
theorem F_office_compare_ok {a0 : TApiRight} {a1 : TApiRight} (r : R_office_compare) (h : F_office_compare a0 a1 = some r) : CallOk Tryz.prog 150 [(AV.d (TApiRight.e a0)), (AV.d (TApiRight.e a1))] [] (V_office_compare r) (L_office_compare r) := fOk (s := S_office_compare a0 a1) Tryz.func150 rfl (by kernel_rfl) h
abbrev R_office_find_1 := Bool
def V_office_find_1 (x : R_office_find_1) : AV := (vb x)
def L_office_find_1 (p0 : List UInt8) (p1 : Int) (_ : R_office_find_1) : List Ob := [(bx (DV.str p0)), (Ob.box (vi p1))]
def S_office_find_1 (a0 : TApiRight) (p0 : List UInt8) (p1 : Int) : Scr Tryz.prog R_office_find_1 R_office_find_1 :=
.ret [] (bif (a0.Code == p0) then (a0.Year == p1) else false)
def F_office_find_1 (a0 : TApiRight) (p0 : List UInt8) (p1 : Int) : Option R_office_find_1 := (S_office_find_1 a0 p0 p1).den
theorem F_office_find_1_ok {a0 : TApiRight} {p0 : List UInt8} {p1 : Int} (r : R_office_find_1) (h : F_office_find_1 a0 p0 p1 = some r) : CallOk Tryz.prog 200 [(AV.d (TApiRight.e a0)), (vp 0), (vp 1)] [(bx (DV.str p0)), (Ob.box (vi p1))] (V_office_find_1 r) (L_office_find_1 p0 p1 r) := fOk (s := S_office_find_1 a0 p0 p1) Tryz.func200 rfl (by kernel_rfl) h
abbrev R_slices_IndexFunc_Right_office_find_1 := Int
def V_slices_IndexFunc_Right_office_find_1 (x : R_slices_IndexFunc_Right_office_find_1) : AV := (vi x)
def L_slices_IndexFunc_Right_office_find_1 (p0 : List UInt8) (p1 : Int) (_ : R_slices_IndexFunc_Right_office_find_1) : List Ob := [(bx (DV.str p0)), (Ob.box (vi p1))]
def S_slices_IndexFunc_Right_office_find_1_b1 (a0 : (List TApiRight)) (p0 : List UInt8) (p1 : Int) (iv1 : Nat) (_ : Unit) : Scr Tryz.prog R_slices_IndexFunc_Right_office_find_1 (Step (Unit) R_slices_IndexFunc_Right_office_find_1) :=
.call (@F_office_find_1_ok (a0.getD iv1 default) p0 p1) fun rv2 cv2 =>
.reg 4 [] [(5, hc cv2 [0, 1] true)] [.pf (nn iv1), .ev 1, .cl 0 cv2 [0, 1] 2 true] <|
.ite rv2 (
.ret [] (.ret (iv1 : Int))) (
.ret [] (.cont ()))
def S_slices_IndexFunc_Right_office_find_1 (a0 : (List TApiRight)) (p0 : List UInt8) (p1 : Int) : Scr Tryz.prog R_slices_IndexFunc_Right_office_find_1 R_slices_IndexFunc_Right_office_find_1 :=
.range (a0.length : Int) a0.length rfl (.slot 0) 8 [0, 1, 7] (fun (_ : Unit) => []) (fun (_ : Unit) => []) () (S_slices_IndexFunc_Right_office_find_1_b1 a0 p0 p1) (fun (_ : Unit) => 
.ret [] (-1)) id
def F_slices_IndexFunc_Right_office_find_1 (a0 : (List TApiRight)) (p0 : List UInt8) (p1 : Int) : Option R_slices_IndexFunc_Right_office_find_1 := (S_slices_IndexFunc_Right_office_find_1 a0 p0 p1).den
theorem F_slices_IndexFunc_Right_office_find_1_ok {a0 : (List TApiRight)} {p0 : List UInt8} {p1 : Int} (r : R_slices_IndexFunc_Right_office_find_1) (h : F_slices_IndexFunc_Right_office_find_1 a0 p0 p1 = some r) : CallOk Tryz.prog 199 [(AV.d (eL TApiRight.e a0)), (AV.fn 200 [(vp 0), (vp 1)])] [(bx (DV.str p0)), (Ob.box (vi p1))] (V_slices_IndexFunc_Right_office_find_1 r) (L_slices_IndexFunc_Right_office_find_1 p0 p1 r) := fOk (s := S_slices_IndexFunc_Right_office_find_1 a0 p0 p1) Tryz.func199 rfl (by kernel_rfl) h
abbrev R_office_find := Int
def V_office_find (x : R_office_find) : AV := (vi x)
def L_office_find (_ : R_office_find) : List Ob := []
def S_office_find (a0 : TApiOffice) (a1 : List UInt8) (a2 : Int) : Scr Tryz.prog R_office_find R_office_find :=
.call (@F_slices_IndexFunc_Right_office_find_1_ok a0.Rights a1 a2) fun rv1 cv1 =>
.reg 1 [] [(3, hc cv1 [1, 2] true)] [.cl 0 cv1 [1, 2] 3 true] <|
.ret [] rv1
def F_office_find (a0 : TApiOffice) (a1 : List UInt8) (a2 : Int) : Option R_office_find := (S_office_find a0 a1 a2).den
theorem F_office_find_ok {a0 : TApiOffice} {a1 : List UInt8} {a2 : Int} (r : R_office_find) (h : F_office_find a0 a1 a2 = some r) : CallOk Tryz.prog 170 [(AV.d (TApiOffice.e a0)), (AV.d (DV.str a1)), (vi a2)] [] (V_office_find r) (L_office_find r) := fOk (s := S_office_find a0 a1 a2) Tryz.func170 rfl (by kernel_rfl) h
abbrev R_office_has := Bool
def V_office_has (x : R_office_has) : AV := (vb x)
def L_office_has (_ : R_office_has) : List Ob := []
def S_office_has (a0 : TApiOffice) (a1 : List UInt8) (a2 : Int) : Scr Tryz.prog R_office_has R_office_has :=
.call (@F_office_find_ok a0 a1 a2) fun rv1 cv1 =>
.reg 1 [] [(3, hc cv1 [] true)] [.cl 0 cv1 [] 1 true] <|
.ret [] (decide (rv1 ≥ 0))
def F_office_has (a0 : TApiOffice) (a1 : List UInt8) (a2 : Int) : Option R_office_has := (S_office_has a0 a1 a2).den
theorem F_office_has_ok {a0 : TApiOffice} {a1 : List UInt8} {a2 : Int} (r : R_office_has) (h : F_office_has a0 a1 a2 = some r) : CallOk Tryz.prog 151 [(AV.d (TApiOffice.e a0)), (AV.d (DV.str a1)), (vi a2)] [] (V_office_has r) (L_office_has r) := fOk (s := S_office_has a0 a1 a2) Tryz.func151 rfl (by kernel_rfl) h
abbrev R_office_Right := TApiRight
def V_office_Right (x : R_office_Right) : AV := (AV.d (TApiRight.e x))
def L_office_Right (_ : R_office_Right) : List Ob := []
def S_office_Right (a0 : TApiOffice) (a1 : List UInt8) (a2 : Int) : Scr Tryz.prog R_office_Right R_office_Right :=
.call (@F_office_find_ok a0 a1 a2) fun rv1 cv1 =>
.reg 1 [] [(3, hc cv1 [] true)] [.cl 0 cv1 [] 2 true] <|
.ite (decide (rv1 ≥ 0)) (
.guard [(0 : Int) ≤ rv1, (rv1).toNat < a0.Rights.length] <|
.reg 3 [] [] [.ev 0, .ev 1] <|
.ret [] (a0.Rights.getD ((rv1).toNat) default)) (
.ret [] (⟨a1, a2, 0, 0, 0⟩ : TApiRight))
def F_office_Right (a0 : TApiOffice) (a1 : List UInt8) (a2 : Int) : Option R_office_Right := (S_office_Right a0 a1 a2).den
theorem F_office_Right_ok {a0 : TApiOffice} {a1 : List UInt8} {a2 : Int} (r : R_office_Right) (h : F_office_Right a0 a1 a2 = some r) : CallOk Tryz.prog 171 [(AV.d (TApiOffice.e a0)), (AV.d (DV.str a1)), (vi a2)] [] (V_office_Right r) (L_office_Right r) := fOk (s := S_office_Right a0 a1 a2) Tryz.func171 rfl (by kernel_rfl) h
abbrev R_commitment_Used := Int
def V_commitment_Used (x : R_commitment_Used) : AV := (vi x)
def L_commitment_Used (_ : R_commitment_Used) : List Ob := []
def S_commitment_Used_b1 (a0 : TApiBook) (a1 : List UInt8) (a2 : Int) (iv1 : Nat) (sv2 : Int) : Scr Tryz.prog R_commitment_Used (Step (Int) R_commitment_Used) :=
.reg 4 [] [] [.pf (nn iv1), .ev 0] <|
.ite (bif (((a0.Reservations.getD iv1 default).Code) == a1) then (((a0.Reservations.getD iv1 default).Year) == a2) else false) (
.call (@F_commitment_committed_ok a0 ((a0.Reservations.getD iv1 default).Number)) fun rv3 cv3 =>
.reg 6 [] [(3, hc cv3 [] true)] [.cl 0 cv3 [] 2 true] <|
.ret [] (.cont (IntKind.i64.wrap (sv2 + (IntKind.i64.wrap ((IntKind.i64.wrap (((a0.Reservations.getD iv1 default).Amount) - ((a0.Reservations.getD iv1 default).Released))) - rv3.2)))))) (
.ret [] (.cont sv2))
def S_commitment_Used (a0 : TApiBook) (a1 : List UInt8) (a2 : Int) : Scr Tryz.prog R_commitment_Used R_commitment_Used :=
.range (a0.Reservations.length : Int) a0.Reservations.length rfl (.slot 13) 15 [1, 2, 3, 13, 14] (fun (sv2 : Int) => [(7, (vi sv2))]) (fun (_ : Int) => []) 0 (S_commitment_Used_b1 a0 a1 a2) (fun (sv2 : Int) => 
.ret [] sv2) id
def F_commitment_Used (a0 : TApiBook) (a1 : List UInt8) (a2 : Int) : Option R_commitment_Used := (S_commitment_Used a0 a1 a2).den
theorem F_commitment_Used_ok {a0 : TApiBook} {a1 : List UInt8} {a2 : Int} (r : R_commitment_Used) (h : F_commitment_Used a0 a1 a2 = some r) : CallOk Tryz.prog 102 [(AV.d (TApiBook.e a0)), (AV.d (DV.str a1)), (vi a2)] [] (V_commitment_Used r) (L_commitment_Used r) := fOk (s := S_commitment_Used a0 a1 a2) Tryz.func102 rfl (by kernel_rfl) h
abbrev R_office_Unused := Int
def V_office_Unused (x : R_office_Unused) : AV := (vi x)
def L_office_Unused (_ : R_office_Unused) : List Ob := []
def S_office_Unused (a0 : TApiOffice) (a1 : List UInt8) (a2 : Int) : Scr Tryz.prog R_office_Unused R_office_Unused :=
.call (@F_office_Right_ok a0 a1 a2) fun rv1 cv1 =>
.reg 1 [] [(3, hc cv1 [] true)] [.cl 0 cv1 [] 1 true] <|
.call (@F_commitment_Used_ok a0.Book a1 a2) fun rv2 cv2 =>
.reg 2 [] [(9, hc cv2 [] true)] [.cl 0 cv2 [] 2 true] <|
.ret [] (IntKind.i64.wrap ((IntKind.i64.wrap (rv1.Granted - rv1.Returned)) - rv2))
def F_office_Unused (a0 : TApiOffice) (a1 : List UInt8) (a2 : Int) : Option R_office_Unused := (S_office_Unused a0 a1 a2).den
theorem F_office_Unused_ok {a0 : TApiOffice} {a1 : List UInt8} {a2 : Int} (r : R_office_Unused) (h : F_office_Unused a0 a1 a2 = some r) : CallOk Tryz.prog 152 [(AV.d (TApiOffice.e a0)), (AV.d (DV.str a1)), (vi a2)] [] (V_office_Unused r) (L_office_Unused r) := fOk (s := S_office_Unused a0 a1 a2) Tryz.func152 rfl (by kernel_rfl) h
end
end Go.Proofs.YtclaojamgomjbaaGreatDoor
/- What the functions compute, and that their calls return it. No condition. -/
namespace Go.Proofs.YtclaojamgomjbaaGreatDoor
open Go Go.TA
noncomputable section
set_option maxRecDepth 100000
abbrev R_office_Valid := Bool
def V_office_Valid (x : R_office_Valid) : AV := (vb x)
def L_office_Valid (_ : R_office_Valid) : List Ob := []
def S_office_Valid_b1 (a0 : TApiOffice) (iv1 : Nat) (_ : Unit) : Scr Tryz.prog R_office_Valid (Step (Unit) R_office_Valid) :=
.reg 5 [] [] [.pf (nn iv1), .ev 0] <|
.call (@F_rights_Right_ok (a0.Rights.getD iv1 default)) fun rv2 cv2 =>
.calld [(decide ((iv1 : Int) > 0)) = true, (!rv2) = false] default (@F_office_compare_ok (a0.Rights.getD (((IntKind.i64.wrap ((iv1 : Int) - 1))).toNat) default) (a0.Rights.getD iv1 default)) fun rv3 cv3 =>
.guard [AllP [(decide ((iv1 : Int) > 0)) = true, (!rv2) = false] → ((0 : Int) ≤ (IntKind.i64.wrap ((iv1 : Int) - 1))), AllP [(decide ((iv1 : Int) > 0)) = true, (!rv2) = false] → (((IntKind.i64.wrap ((iv1 : Int) - 1))).toNat < a0.Rights.length)] <|
.reg 6 [] [(1, hc cv2 [] true), (14, hc cv3 [] true)] [.cl 4 cv2 [] 2 true, .ev 0, .ev 1, .clg 2 [(decide ((iv1 : Int) > 0)) = true, (!rv2) = false] cv3 [] 2 true] <|
.ite (bif (!rv2) then true else (bif (decide ((iv1 : Int) > 0)) then (decide (rv3 ≥ 0)) else false)) (
.ret [] (.ret false)) (
.ret [] (.cont ()))
def S_office_Valid_b2 (a0 : TApiOffice) (iv4 : Nat) (_ : Unit) : Scr Tryz.prog R_office_Valid (Step (Unit) R_office_Valid) :=
.reg 11 [] [] [.pf (nn iv4), .ev 0] <|
.call (@F_office_has_ok a0 ((a0.Book.Reservations.getD iv4 default).Code) ((a0.Book.Reservations.getD iv4 default).Year)) fun rv5 cv5 =>
.calld [(!rv5) = false] default (@F_office_Unused_ok a0 ((a0.Book.Reservations.getD iv4 default).Code) ((a0.Book.Reservations.getD iv4 default).Year)) fun rv6 cv6 =>
.reg 12 [] [(5, hc cv5 [] true), (13, hc cv6 [] true)] [.cl 2 cv5 [] 2 true, .clg 0 [(!rv5) = false] cv6 [] 2 true] <|
.ite (bif (!rv5) then true else (decide (rv6 < 0))) (
.ret [] (.ret false)) (
.ret [] (.cont ()))
def S_office_Valid (a0 : TApiOffice) : Scr Tryz.prog R_office_Valid R_office_Valid :=
.calld [(bif (bif (decide (a0.Number < 1)) then true else (decide (a0.Number > 6))) then true else (decide ((a0.Rights.length : Int) > 60))) = false] default (@F_commitment_Valid_ok a0.Book) fun rv7 cv7 =>
.reg 1 [] [(17, hc cv7 [] true)] [.clg 0 [(bif (bif (decide (a0.Number < 1)) then true else (decide (a0.Number > 6))) then true else (decide ((a0.Rights.length : Int) > 60))) = false] cv7 [] 1 true] <|
.ite (bif (bif (bif (decide (a0.Number < 1)) then true else (decide (a0.Number > 6))) then true else (decide ((a0.Rights.length : Int) > 60))) then true else (!rv7)) (
.ret [] false) (
.range (a0.Rights.length : Int) a0.Rights.length rfl (.slot 28) 30 [1, 28, 29] (fun (_ : Unit) => []) (fun (_ : Unit) => []) () (S_office_Valid_b1 a0) (fun (_ : Unit) => 
.range (a0.Book.Reservations.length : Int) a0.Book.Reservations.length rfl (.slot 56) 58 [1, 56, 57] (fun (_ : Unit) => []) (fun (_ : Unit) => []) () (S_office_Valid_b2 a0) (fun (_ : Unit) => 
.ret [] true) id) id)
def F_office_Valid (a0 : TApiOffice) : Option R_office_Valid := (S_office_Valid a0).den
theorem F_office_Valid_ok {a0 : TApiOffice} (r : R_office_Valid) (h : F_office_Valid a0 = some r) : CallOk Tryz.prog 129 [(AV.d (TApiOffice.e a0))] [] (V_office_Valid r) (L_office_Valid r) := fOk (s := S_office_Valid a0) Tryz.func129 rfl (by kernel_rfl) h
abbrev R_control_basis_1 := Bool
def V_control_basis_1 (x : R_control_basis_1) : AV := (vb x)
def L_control_basis_1 (p0 : TApiWarrant) (_ : R_control_basis_1) : List Ob := [(bx (TApiWarrant.e p0))]
def S_control_basis_1 (a0 : TApiOrder) (p0 : TApiWarrant) : Scr Tryz.prog R_control_basis_1 R_control_basis_1 :=
.ret [] (bif (bif (a0.Verification == p0.Verification) then (a0.Attempt == p0.Attempt) else false) then (!a0.Back) else false)
def F_control_basis_1 (a0 : TApiOrder) (p0 : TApiWarrant) : Option R_control_basis_1 := (S_control_basis_1 a0 p0).den
theorem F_control_basis_1_ok {a0 : TApiOrder} {p0 : TApiWarrant} (r : R_control_basis_1) (h : F_control_basis_1 a0 p0 = some r) : CallOk Tryz.prog 131 [(AV.d (TApiOrder.e a0)), (vp 0)] [(bx (TApiWarrant.e p0))] (V_control_basis_1 r) (L_control_basis_1 p0 r) := fOk (s := S_control_basis_1 a0 p0) Tryz.func131 rfl (by kernel_rfl) h
abbrev R_slices_IndexFunc_Order_control_basis_1 := Int
def V_slices_IndexFunc_Order_control_basis_1 (x : R_slices_IndexFunc_Order_control_basis_1) : AV := (vi x)
def L_slices_IndexFunc_Order_control_basis_1 (p0 : TApiWarrant) (_ : R_slices_IndexFunc_Order_control_basis_1) : List Ob := [(bx (TApiWarrant.e p0))]
def S_slices_IndexFunc_Order_control_basis_1_b1 (a0 : (List TApiOrder)) (p0 : TApiWarrant) (iv1 : Nat) (_ : Unit) : Scr Tryz.prog R_slices_IndexFunc_Order_control_basis_1 (Step (Unit) R_slices_IndexFunc_Order_control_basis_1) :=
.call (@F_control_basis_1_ok (a0.getD iv1 default) p0) fun rv2 cv2 =>
.reg 4 [] [(5, hc cv2 [0] true)] [.pf (nn iv1), .ev 1, .cl 0 cv2 [0] 1 true] <|
.ite rv2 (
.ret [] (.ret (iv1 : Int))) (
.ret [] (.cont ()))
def S_slices_IndexFunc_Order_control_basis_1 (a0 : (List TApiOrder)) (p0 : TApiWarrant) : Scr Tryz.prog R_slices_IndexFunc_Order_control_basis_1 R_slices_IndexFunc_Order_control_basis_1 :=
.range (a0.length : Int) a0.length rfl (.slot 0) 8 [0, 1, 7] (fun (_ : Unit) => []) (fun (_ : Unit) => []) () (S_slices_IndexFunc_Order_control_basis_1_b1 a0 p0) (fun (_ : Unit) => 
.ret [] (-1)) id
def F_slices_IndexFunc_Order_control_basis_1 (a0 : (List TApiOrder)) (p0 : TApiWarrant) : Option R_slices_IndexFunc_Order_control_basis_1 := (S_slices_IndexFunc_Order_control_basis_1 a0 p0).den
theorem F_slices_IndexFunc_Order_control_basis_1_ok {a0 : (List TApiOrder)} {p0 : TApiWarrant} (r : R_slices_IndexFunc_Order_control_basis_1) (h : F_slices_IndexFunc_Order_control_basis_1 a0 p0 = some r) : CallOk Tryz.prog 130 [(AV.d (eL TApiOrder.e a0)), (AV.fn 131 [(vp 0)])] [(bx (TApiWarrant.e p0))] (V_slices_IndexFunc_Order_control_basis_1 r) (L_slices_IndexFunc_Order_control_basis_1 p0 r) := fOk (s := S_slices_IndexFunc_Order_control_basis_1 a0 p0) Tryz.func130 rfl (by kernel_rfl) h
abbrev R_control_basis := TControlChain × Int
def V_control_basis (x : R_control_basis) : AV := (AV.tup [(AV.d (TControlChain.e x.1)), (vi x.2)])
def L_control_basis (_ : R_control_basis) : List Ob := []
def S_control_basis (a0 : TApiWarrant) (a1 : TApiOffice) : Scr Tryz.prog R_control_basis R_control_basis :=
.call (@F_office_Valid_ok a1) fun rv1 cv1 =>
.reg 1 [] [(1, hc cv1 [] true)] [.cl 0 cv1 [] 3 true] <|
.ite (!rv1) (
.ret [] ((⟨(⟨0, 0, 0, 0, false⟩ : TApiOrder), (⟨0, 0, 0, 0⟩ : TApiVerification), (⟨0, 0, 0, 0, 0, 0, 0⟩ : TApiCommitment), (⟨0, [], 0, 0, 0, 0⟩ : TApiReservation)⟩ : TControlChain), 1)) (
.call (@F_slices_IndexFunc_Order_control_basis_1_ok a1.Book.Orders a0) fun rv2 cv2 =>
.reg 3 [] [(4, hc cv2 [0] true)] [.cl 0 cv2 [0] 3 true] <|
.ite (bif (a1.Number != a0.Office) then true else (decide (rv2 < 0))) (
.ret [] ((⟨(⟨0, 0, 0, 0, false⟩ : TApiOrder), (⟨0, 0, 0, 0⟩ : TApiVerification), (⟨0, 0, 0, 0, 0, 0, 0⟩ : TApiCommitment), (⟨0, [], 0, 0, 0, 0⟩ : TApiReservation)⟩ : TControlChain), 17)) (
.guard [(0 : Int) ≤ rv2, (rv2).toNat < a1.Book.Orders.length, (0 : Int) ≤ (IntKind.i64.wrap (a0.Verification - 1)), ((IntKind.i64.wrap (a0.Verification - 1))).toNat < a1.Book.Verifications.length] <|
.reg 6 [15, 16] [] [.ev 0, .ev 1, .ev 0, .ev 1, .ev 2, .ev 3, .ev 2, .ev 3] <|
.guard [(0 : Int) ≤ (IntKind.i64.wrap (((a1.Book.Verifications.getD (((IntKind.i64.wrap (a0.Verification - 1))).toNat) default).Commitment) - 1)), ((IntKind.i64.wrap (((a1.Book.Verifications.getD (((IntKind.i64.wrap (a0.Verification - 1))).toNat) default).Commitment) - 1))).toNat < a1.Book.Commitments.length] <|
.reg 7 [] [] [.ev 0, .ev 1] <|
.guard [(0 : Int) ≤ (IntKind.i64.wrap (((a1.Book.Commitments.getD (((IntKind.i64.wrap (((a1.Book.Verifications.getD (((IntKind.i64.wrap (a0.Verification - 1))).toNat) default).Commitment) - 1))).toNat) default).Reservation) - 1)), ((IntKind.i64.wrap (((a1.Book.Commitments.getD (((IntKind.i64.wrap (((a1.Book.Verifications.getD (((IntKind.i64.wrap (a0.Verification - 1))).toNat) default).Commitment) - 1))).toNat) default).Reservation) - 1))).toNat < a1.Book.Reservations.length] <|
.reg 8 [] [] [.ev 0, .ev 1] <|
.ite (bif (((a1.Book.Commitments.getD (((IntKind.i64.wrap (((a1.Book.Verifications.getD (((IntKind.i64.wrap (a0.Verification - 1))).toNat) default).Commitment) - 1))).toNat) default).Number) != a0.Commitment) then true else (((a1.Book.Reservations.getD (((IntKind.i64.wrap (((a1.Book.Commitments.getD (((IntKind.i64.wrap (((a1.Book.Verifications.getD (((IntKind.i64.wrap (a0.Verification - 1))).toNat) default).Commitment) - 1))).toNat) default).Reservation) - 1))).toNat) default).Number) != a0.Reservation)) (
.ret [] ((⟨(⟨0, 0, 0, 0, false⟩ : TApiOrder), (⟨0, 0, 0, 0⟩ : TApiVerification), (⟨0, 0, 0, 0, 0, 0, 0⟩ : TApiCommitment), (⟨0, [], 0, 0, 0, 0⟩ : TApiReservation)⟩ : TControlChain), 17)) (
.ret [] ((⟨(a1.Book.Orders.getD ((rv2).toNat) default), (a1.Book.Verifications.getD (((IntKind.i64.wrap (a0.Verification - 1))).toNat) default), (a1.Book.Commitments.getD (((IntKind.i64.wrap (((a1.Book.Verifications.getD (((IntKind.i64.wrap (a0.Verification - 1))).toNat) default).Commitment) - 1))).toNat) default), (a1.Book.Reservations.getD (((IntKind.i64.wrap (((a1.Book.Commitments.getD (((IntKind.i64.wrap (((a1.Book.Verifications.getD (((IntKind.i64.wrap (a0.Verification - 1))).toNat) default).Commitment) - 1))).toNat) default).Reservation) - 1))).toNat) default)⟩ : TControlChain), 0))))
def F_control_basis (a0 : TApiWarrant) (a1 : TApiOffice) : Option R_control_basis := (S_control_basis a0 a1).den
theorem F_control_basis_ok {a0 : TApiWarrant} {a1 : TApiOffice} (r : R_control_basis) (h : F_control_basis a0 a1 = some r) : CallOk Tryz.prog 95 [(AV.d (TApiWarrant.e a0)), (AV.d (TApiOffice.e a1))] [] (V_control_basis r) (L_control_basis r) := fOk (s := S_control_basis a0 a1) Tryz.func95 rfl (by kernel_rfl) h
abbrev R_control_rests := Int
def V_control_rests (x : R_control_rests) : AV := (vi x)
def L_control_rests (_ : R_control_rests) : List Ob := []
def S_control_rests (a0 : TApiWarrant) (a1 : TApiOffice) : Scr Tryz.prog R_control_rests R_control_rests :=
.call (@F_control_basis_ok a0 a1) fun rv1 cv1 =>
.reg 1 [] [(2, hc cv1 [] true)] [.cl 0 cv1 [] 2 true] <|
.ret [] rv1.2
def F_control_rests (a0 : TApiWarrant) (a1 : TApiOffice) : Option R_control_rests := (S_control_rests a0 a1).den
theorem F_control_rests_ok {a0 : TApiWarrant} {a1 : TApiOffice} (r : R_control_rests) (h : F_control_rests a0 a1 = some r) : CallOk Tryz.prog 53 [(AV.d (TApiWarrant.e a0)), (AV.d (TApiOffice.e a1))] [] (V_control_rests r) (L_control_rests r) := fOk (s := S_control_rests a0 a1) Tryz.func53 rfl (by kernel_rfl) h
abbrev R_control_Control_3 := Int
def V_control_Control_3 (x : R_control_Control_3) : AV := (vi x)
def L_control_Control_3 (p0 : TApiWarrant) (p1 : TApiOffice) (_ : R_control_Control_3) : List Ob := [(bx (TApiWarrant.e p0)), (bx (TApiOffice.e p1))]
def S_control_Control_3 (p0 : TApiWarrant) (p1 : TApiOffice) : Scr Tryz.prog R_control_Control_3 R_control_Control_3 :=
.call (@F_control_rests_ok p0 p1) fun rv1 cv1 =>
.reg 1 [] [(2, hc cv1 [] true)] [.cl 0 cv1 [] 2 true] <|
.ret [] rv1
def F_control_Control_3 (p0 : TApiWarrant) (p1 : TApiOffice) : Option R_control_Control_3 := (S_control_Control_3 p0 p1).den
theorem F_control_Control_3_ok {p0 : TApiWarrant} {p1 : TApiOffice} (r : R_control_Control_3) (h : F_control_Control_3 p0 p1 = some r) : CallOk Tryz.prog 52 [(vp 0), (vp 1)] [(bx (TApiWarrant.e p0)), (bx (TApiOffice.e p1))] (V_control_Control_3 r) (L_control_Control_3 p0 p1 r) := fOk (s := S_control_Control_3 p0 p1) Tryz.func52 rfl (by kernel_rfl) h
abbrev R_control_amount := Int
def V_control_amount (x : R_control_amount) : AV := (vi x)
def L_control_amount (_ : R_control_amount) : List Ob := []
def S_control_amount (a0 : TApiWarrant) (a1 : TApiOffice) : Scr Tryz.prog R_control_amount R_control_amount :=
.call (@F_control_basis_ok a0 a1) fun rv1 cv1 =>
.reg 1 [] [(2, hc cv1 [] true)] [.cl 0 cv1 [] 2 true] <|
.ite (rv1.2 != 0) (
.ret [] 17) (
.ite (bif (bif (bif (bif (bif (a0.Amount != rv1.1.verification.Amount) then true else (a0.Payee != rv1.1.commitment.Payee)) then true else (a0.Due != rv1.1.commitment.Due)) then true else (!(a0.Code == rv1.1.reservation.Code))) then true else (a0.Year != rv1.1.reservation.Year)) then true else (a0.Day != rv1.1.order.Day)) (
.ret [] 15) (
.ret [] 0))
def F_control_amount (a0 : TApiWarrant) (a1 : TApiOffice) : Option R_control_amount := (S_control_amount a0 a1).den
theorem F_control_amount_ok {a0 : TApiWarrant} {a1 : TApiOffice} (r : R_control_amount) (h : F_control_amount a0 a1 = some r) : CallOk Tryz.prog 55 [(AV.d (TApiWarrant.e a0)), (AV.d (TApiOffice.e a1))] [] (V_control_amount r) (L_control_amount r) := fOk (s := S_control_amount a0 a1) Tryz.func55 rfl (by kernel_rfl) h
abbrev R_control_Control_4 := Int
def V_control_Control_4 (x : R_control_Control_4) : AV := (vi x)
def L_control_Control_4 (p0 : TApiWarrant) (p1 : TApiOffice) (_ : R_control_Control_4) : List Ob := [(bx (TApiWarrant.e p0)), (bx (TApiOffice.e p1))]
def S_control_Control_4 (p0 : TApiWarrant) (p1 : TApiOffice) : Scr Tryz.prog R_control_Control_4 R_control_Control_4 :=
.call (@F_control_amount_ok p0 p1) fun rv1 cv1 =>
.reg 1 [] [(2, hc cv1 [] true)] [.cl 0 cv1 [] 2 true] <|
.ret [] rv1
def F_control_Control_4 (p0 : TApiWarrant) (p1 : TApiOffice) : Option R_control_Control_4 := (S_control_Control_4 p0 p1).den
theorem F_control_Control_4_ok {p0 : TApiWarrant} {p1 : TApiOffice} (r : R_control_Control_4) (h : F_control_Control_4 p0 p1 = some r) : CallOk Tryz.prog 54 [(vp 0), (vp 1)] [(bx (TApiWarrant.e p0)), (bx (TApiOffice.e p1))] (V_control_Control_4 r) (L_control_Control_4 p0 p1 r) := fOk (s := S_control_Control_4 p0 p1) Tryz.func54 rfl (by kernel_rfl) h
abbrev R_control_twice_1 := Bool
def V_control_twice_1 (x : R_control_twice_1) : AV := (vb x)
def L_control_twice_1 (p0 : TApiWarrant) (_ : R_control_twice_1) : List Ob := [(bx (TApiWarrant.e p0))]
def S_control_twice_1 (a0 : TApiWarrant) (p0 : TApiWarrant) : Scr Tryz.prog R_control_twice_1 R_control_twice_1 :=
.ret [] (a0.Number == p0.Number)
def F_control_twice_1 (a0 : TApiWarrant) (p0 : TApiWarrant) : Option R_control_twice_1 := (S_control_twice_1 a0 p0).den
theorem F_control_twice_1_ok {a0 : TApiWarrant} {p0 : TApiWarrant} (r : R_control_twice_1) (h : F_control_twice_1 a0 p0 = some r) : CallOk Tryz.prog 97 [(AV.d (TApiWarrant.e a0)), (vp 0)] [(bx (TApiWarrant.e p0))] (V_control_twice_1 r) (L_control_twice_1 p0 r) := fOk (s := S_control_twice_1 a0 p0) Tryz.func97 rfl (by kernel_rfl) h
abbrev R_slices_IndexFunc_Warrant_control_twice_1 := Int
def V_slices_IndexFunc_Warrant_control_twice_1 (x : R_slices_IndexFunc_Warrant_control_twice_1) : AV := (vi x)
def L_slices_IndexFunc_Warrant_control_twice_1 (p0 : TApiWarrant) (_ : R_slices_IndexFunc_Warrant_control_twice_1) : List Ob := [(bx (TApiWarrant.e p0))]
def S_slices_IndexFunc_Warrant_control_twice_1_b1 (a0 : (List TApiWarrant)) (p0 : TApiWarrant) (iv1 : Nat) (_ : Unit) : Scr Tryz.prog R_slices_IndexFunc_Warrant_control_twice_1 (Step (Unit) R_slices_IndexFunc_Warrant_control_twice_1) :=
.call (@F_control_twice_1_ok (a0.getD iv1 default) p0) fun rv2 cv2 =>
.reg 4 [] [(5, hc cv2 [0] true)] [.pf (nn iv1), .ev 1, .cl 0 cv2 [0] 1 true] <|
.ite rv2 (
.ret [] (.ret (iv1 : Int))) (
.ret [] (.cont ()))
def S_slices_IndexFunc_Warrant_control_twice_1 (a0 : (List TApiWarrant)) (p0 : TApiWarrant) : Scr Tryz.prog R_slices_IndexFunc_Warrant_control_twice_1 R_slices_IndexFunc_Warrant_control_twice_1 :=
.range (a0.length : Int) a0.length rfl (.slot 0) 8 [0, 1, 7] (fun (_ : Unit) => []) (fun (_ : Unit) => []) () (S_slices_IndexFunc_Warrant_control_twice_1_b1 a0 p0) (fun (_ : Unit) => 
.ret [] (-1)) id
def F_slices_IndexFunc_Warrant_control_twice_1 (a0 : (List TApiWarrant)) (p0 : TApiWarrant) : Option R_slices_IndexFunc_Warrant_control_twice_1 := (S_slices_IndexFunc_Warrant_control_twice_1 a0 p0).den
theorem F_slices_IndexFunc_Warrant_control_twice_1_ok {a0 : (List TApiWarrant)} {p0 : TApiWarrant} (r : R_slices_IndexFunc_Warrant_control_twice_1) (h : F_slices_IndexFunc_Warrant_control_twice_1 a0 p0 = some r) : CallOk Tryz.prog 72 [(AV.d (eL TApiWarrant.e a0)), (AV.fn 97 [(vp 0)])] [(bx (TApiWarrant.e p0))] (V_slices_IndexFunc_Warrant_control_twice_1 r) (L_slices_IndexFunc_Warrant_control_twice_1 p0 r) := fOk (s := S_slices_IndexFunc_Warrant_control_twice_1 a0 p0) Tryz.func72 rfl (by kernel_rfl) h
abbrev R_slices_CoF_Warrant_control_twice_1 := Bool
def V_slices_CoF_Warrant_control_twice_1 (x : R_slices_CoF_Warrant_control_twice_1) : AV := (vb x)
def L_slices_CoF_Warrant_control_twice_1 (p0 : TApiWarrant) (_ : R_slices_CoF_Warrant_control_twice_1) : List Ob := [(bx (TApiWarrant.e p0))]
def S_slices_CoF_Warrant_control_twice_1 (a0 : (List TApiWarrant)) (p0 : TApiWarrant) : Scr Tryz.prog R_slices_CoF_Warrant_control_twice_1 R_slices_CoF_Warrant_control_twice_1 :=
.call (@F_slices_IndexFunc_Warrant_control_twice_1_ok a0 p0) fun rv1 cv1 =>
.reg 1 [] [(2, hc cv1 [0] true)] [.cl 0 cv1 [0] 1 true] <|
.ret [] (decide (rv1 ≥ 0))
def F_slices_CoF_Warrant_control_twice_1 (a0 : (List TApiWarrant)) (p0 : TApiWarrant) : Option R_slices_CoF_Warrant_control_twice_1 := (S_slices_CoF_Warrant_control_twice_1 a0 p0).den
theorem F_slices_CoF_Warrant_control_twice_1_ok {a0 : (List TApiWarrant)} {p0 : TApiWarrant} (r : R_slices_CoF_Warrant_control_twice_1) (h : F_slices_CoF_Warrant_control_twice_1 a0 p0 = some r) : CallOk Tryz.prog 96 [(AV.d (eL TApiWarrant.e a0)), (AV.fn 97 [(vp 0)])] [(bx (TApiWarrant.e p0))] (V_slices_CoF_Warrant_control_twice_1 r) (L_slices_CoF_Warrant_control_twice_1 p0 r) := fOk (s := S_slices_CoF_Warrant_control_twice_1 a0 p0) Tryz.func96 rfl (by kernel_rfl) h
abbrev R_control_twice_2 := Bool
def V_control_twice_2 (x : R_control_twice_2) : AV := (vb x)
def L_control_twice_2 (p0 : TApiWarrant) (_ : R_control_twice_2) : List Ob := [(bx (TApiWarrant.e p0))]
def S_control_twice_2 (a0 : TApiWarrant) (p0 : TApiWarrant) : Scr Tryz.prog R_control_twice_2 R_control_twice_2 :=
.ret [] (bif (a0.Office == p0.Office) then (a0.Verification == p0.Verification) else false)
def F_control_twice_2 (a0 : TApiWarrant) (p0 : TApiWarrant) : Option R_control_twice_2 := (S_control_twice_2 a0 p0).den
theorem F_control_twice_2_ok {a0 : TApiWarrant} {p0 : TApiWarrant} (r : R_control_twice_2) (h : F_control_twice_2 a0 p0 = some r) : CallOk Tryz.prog 98 [(AV.d (TApiWarrant.e a0)), (vp 0)] [(bx (TApiWarrant.e p0))] (V_control_twice_2 r) (L_control_twice_2 p0 r) := fOk (s := S_control_twice_2 a0 p0) Tryz.func98 rfl (by kernel_rfl) h
abbrev R_slices_IndexFunc_Warrant_control_twice_2 := Int
def V_slices_IndexFunc_Warrant_control_twice_2 (x : R_slices_IndexFunc_Warrant_control_twice_2) : AV := (vi x)
def L_slices_IndexFunc_Warrant_control_twice_2 (p0 : TApiWarrant) (_ : R_slices_IndexFunc_Warrant_control_twice_2) : List Ob := [(bx (TApiWarrant.e p0))]
def S_slices_IndexFunc_Warrant_control_twice_2_b1 (a0 : (List TApiWarrant)) (p0 : TApiWarrant) (iv1 : Nat) (_ : Unit) : Scr Tryz.prog R_slices_IndexFunc_Warrant_control_twice_2 (Step (Unit) R_slices_IndexFunc_Warrant_control_twice_2) :=
.call (@F_control_twice_2_ok (a0.getD iv1 default) p0) fun rv2 cv2 =>
.reg 4 [] [(5, hc cv2 [0] true)] [.pf (nn iv1), .ev 1, .cl 0 cv2 [0] 1 true] <|
.ite rv2 (
.ret [] (.ret (iv1 : Int))) (
.ret [] (.cont ()))
def S_slices_IndexFunc_Warrant_control_twice_2 (a0 : (List TApiWarrant)) (p0 : TApiWarrant) : Scr Tryz.prog R_slices_IndexFunc_Warrant_control_twice_2 R_slices_IndexFunc_Warrant_control_twice_2 :=
.range (a0.length : Int) a0.length rfl (.slot 0) 8 [0, 1, 7] (fun (_ : Unit) => []) (fun (_ : Unit) => []) () (S_slices_IndexFunc_Warrant_control_twice_2_b1 a0 p0) (fun (_ : Unit) => 
.ret [] (-1)) id
def F_slices_IndexFunc_Warrant_control_twice_2 (a0 : (List TApiWarrant)) (p0 : TApiWarrant) : Option R_slices_IndexFunc_Warrant_control_twice_2 := (S_slices_IndexFunc_Warrant_control_twice_2 a0 p0).den
theorem F_slices_IndexFunc_Warrant_control_twice_2_ok {a0 : (List TApiWarrant)} {p0 : TApiWarrant} (r : R_slices_IndexFunc_Warrant_control_twice_2) (h : F_slices_IndexFunc_Warrant_control_twice_2 a0 p0 = some r) : CallOk Tryz.prog 72 [(AV.d (eL TApiWarrant.e a0)), (AV.fn 98 [(vp 0)])] [(bx (TApiWarrant.e p0))] (V_slices_IndexFunc_Warrant_control_twice_2 r) (L_slices_IndexFunc_Warrant_control_twice_2 p0 r) := fOk (s := S_slices_IndexFunc_Warrant_control_twice_2 a0 p0) Tryz.func72 rfl (by kernel_rfl) h
abbrev R_slices_CoF_Warrant_control_twice_2 := Bool
def V_slices_CoF_Warrant_control_twice_2 (x : R_slices_CoF_Warrant_control_twice_2) : AV := (vb x)
def L_slices_CoF_Warrant_control_twice_2 (p0 : TApiWarrant) (_ : R_slices_CoF_Warrant_control_twice_2) : List Ob := [(bx (TApiWarrant.e p0))]
def S_slices_CoF_Warrant_control_twice_2 (a0 : (List TApiWarrant)) (p0 : TApiWarrant) : Scr Tryz.prog R_slices_CoF_Warrant_control_twice_2 R_slices_CoF_Warrant_control_twice_2 :=
.call (@F_slices_IndexFunc_Warrant_control_twice_2_ok a0 p0) fun rv1 cv1 =>
.reg 1 [] [(2, hc cv1 [0] true)] [.cl 0 cv1 [0] 1 true] <|
.ret [] (decide (rv1 ≥ 0))
def F_slices_CoF_Warrant_control_twice_2 (a0 : (List TApiWarrant)) (p0 : TApiWarrant) : Option R_slices_CoF_Warrant_control_twice_2 := (S_slices_CoF_Warrant_control_twice_2 a0 p0).den
theorem F_slices_CoF_Warrant_control_twice_2_ok {a0 : (List TApiWarrant)} {p0 : TApiWarrant} (r : R_slices_CoF_Warrant_control_twice_2) (h : F_slices_CoF_Warrant_control_twice_2 a0 p0 = some r) : CallOk Tryz.prog 96 [(AV.d (eL TApiWarrant.e a0)), (AV.fn 98 [(vp 0)])] [(bx (TApiWarrant.e p0))] (V_slices_CoF_Warrant_control_twice_2 r) (L_slices_CoF_Warrant_control_twice_2 p0 r) := fOk (s := S_slices_CoF_Warrant_control_twice_2 a0 p0) Tryz.func96 rfl (by kernel_rfl) h
abbrev R_control_twice := Int
def V_control_twice (x : R_control_twice) : AV := (vi x)
def L_control_twice (_ : R_control_twice) : List Ob := []
def S_control_twice (a0 : TApiWarrant) (a1 : (List TApiWarrant)) : Scr Tryz.prog R_control_twice R_control_twice :=
.call (@F_slices_CoF_Warrant_control_twice_1_ok a1 a0) fun rv1 cv1 =>
.reg 1 [] [(2, hc cv1 [0] true)] [.cl 0 cv1 [0] 1 true] <|
.ite rv1 (
.ret [] 7) (
.call (@F_slices_CoF_Warrant_control_twice_2_ok a1 a0) fun rv2 cv2 =>
.reg 3 [] [(2, hc cv2 [0] true)] [.cl 0 cv2 [0] 1 true] <|
.ite rv2 (
.ret [] 20) (
.ret [] 0))
def F_control_twice (a0 : TApiWarrant) (a1 : (List TApiWarrant)) : Option R_control_twice := (S_control_twice a0 a1).den
theorem F_control_twice_ok {a0 : TApiWarrant} {a1 : (List TApiWarrant)} (r : R_control_twice) (h : F_control_twice a0 a1 = some r) : CallOk Tryz.prog 57 [(AV.d (TApiWarrant.e a0)), (AV.d (eL TApiWarrant.e a1))] [] (V_control_twice r) (L_control_twice r) := fOk (s := S_control_twice a0 a1) Tryz.func57 rfl (by kernel_rfl) h
abbrev R_control_Control_5 := Int
def V_control_Control_5 (x : R_control_Control_5) : AV := (vi x)
def L_control_Control_5 (p0 : TApiWarrant) (p1 : (List TApiWarrant)) (_ : R_control_Control_5) : List Ob := [(bx (TApiWarrant.e p0)), (bx (eL TApiWarrant.e p1))]
def S_control_Control_5 (p0 : TApiWarrant) (p1 : (List TApiWarrant)) : Scr Tryz.prog R_control_Control_5 R_control_Control_5 :=
.call (@F_control_twice_ok p0 p1) fun rv1 cv1 =>
.reg 1 [] [(2, hc cv1 [] true)] [.cl 0 cv1 [] 2 true] <|
.ret [] rv1
def F_control_Control_5 (p0 : TApiWarrant) (p1 : (List TApiWarrant)) : Option R_control_Control_5 := (S_control_Control_5 p0 p1).den
theorem F_control_Control_5_ok {p0 : TApiWarrant} {p1 : (List TApiWarrant)} (r : R_control_Control_5) (h : F_control_Control_5 p0 p1 = some r) : CallOk Tryz.prog 56 [(vp 0), (vp 1)] [(bx (TApiWarrant.e p0)), (bx (eL TApiWarrant.e p1))] (V_control_Control_5 r) (L_control_Control_5 p0 p1 r) := fOk (s := S_control_Control_5 p0 p1) Tryz.func56 rfl (by kernel_rfl) h
abbrev R_control_year := Int
def V_control_year (x : R_control_year) : AV := (vi x)
def L_control_year (_ : R_control_year) : List Ob := []
def S_control_year (a0 : TApiWarrant) (a1 : Int) : Scr Tryz.prog R_control_year R_control_year :=
.call (@F_calendar_Valid_ok a1) fun rv1 cv1 =>
.calld [(bif (!rv1) then true else (decide (a1 < a0.Day))) = false] default (@F_calendar_Year_ok a1) fun rv2 cv2 =>
.reg 1 [] [(1, hc cv1 [] true), (11, hc cv2 [] true)] [.cl 2 cv1 [] 1 true, .clg 0 [(bif (!rv1) then true else (decide (a1 < a0.Day))) = false] cv2 [] 1 true] <|
.ite (bif (bif (!rv1) then true else (decide (a1 < a0.Day))) then true else (decide (rv2 > (IntKind.i64.wrap (a0.Year + 1))))) (
.ret [] 16) (
.ret [] 0)
def F_control_year (a0 : TApiWarrant) (a1 : Int) : Option R_control_year := (S_control_year a0 a1).den
theorem F_control_year_ok {a0 : TApiWarrant} {a1 : Int} (r : R_control_year) (h : F_control_year a0 a1 = some r) : CallOk Tryz.prog 59 [(AV.d (TApiWarrant.e a0)), (vi a1)] [] (V_control_year r) (L_control_year r) := fOk (s := S_control_year a0 a1) Tryz.func59 rfl (by kernel_rfl) h
abbrev R_control_Control_6 := Int
def V_control_Control_6 (x : R_control_Control_6) : AV := (vi x)
def L_control_Control_6 (p0 : TApiWarrant) (p1 : Int) (_ : R_control_Control_6) : List Ob := [(bx (TApiWarrant.e p0)), (Ob.box (vi p1))]
def S_control_Control_6 (p0 : TApiWarrant) (p1 : Int) : Scr Tryz.prog R_control_Control_6 R_control_Control_6 :=
.call (@F_control_year_ok p0 p1) fun rv1 cv1 =>
.reg 1 [] [(2, hc cv1 [] true)] [.cl 0 cv1 [] 2 true] <|
.ret [] rv1
def F_control_Control_6 (p0 : TApiWarrant) (p1 : Int) : Option R_control_Control_6 := (S_control_Control_6 p0 p1).den
theorem F_control_Control_6_ok {p0 : TApiWarrant} {p1 : Int} (r : R_control_Control_6) (h : F_control_Control_6 p0 p1 = some r) : CallOk Tryz.prog 58 [(vp 0), (vp 1)] [(bx (TApiWarrant.e p0)), (Ob.box (vi p1))] (V_control_Control_6 r) (L_control_Control_6 p0 p1 r) := fOk (s := S_control_Control_6 p0 p1) Tryz.func58 rfl (by kernel_rfl) h
abbrev R_calendar_Business := Bool
def V_calendar_Business (x : R_calendar_Business) : AV := (vb x)
def L_calendar_Business (_ : R_calendar_Business) : List Ob := []
def S_calendar_Business (a0 : Int) : Scr Tryz.prog R_calendar_Business R_calendar_Business :=
.call (@F_calendar_Valid_ok a0) fun rv1 cv1 =>
.reg 1 [] [(1, hc cv1 [] true)] [.cl 0 cv1 [] 0 true, .pf (p := AllP [rv1 = true] → ((7 : Int) ≠ 0)) (fun _ => (by decide))] <|
.ret [] (bif rv1 then (decide ((a0.tmod 7) < 5)) else false)
def F_calendar_Business (a0 : Int) : Option R_calendar_Business := (S_calendar_Business a0).den
theorem F_calendar_Business_ok {a0 : Int} (r : R_calendar_Business) (h : F_calendar_Business a0 = some r) : CallOk Tryz.prog 132 [(vi a0)] [] (V_calendar_Business r) (L_calendar_Business r) := fOk (s := S_calendar_Business a0) Tryz.func132 rfl (by kernel_rfl) h
abbrev R_calendar_Next := Int × Int
def V_calendar_Next (x : R_calendar_Next) : AV := (AV.tup [(vi x.1), (vi x.2)])
def L_calendar_Next (_ : R_calendar_Next) : List Ob := []
def S_calendar_Next_b1 (sv1 : Int) : Scr Tryz.prog R_calendar_Next (Step (Int) R_calendar_Next) :=
.call (@F_calendar_Valid_ok sv1) fun rv2 cv2 =>
.reg 1 [] [(1, hc cv2 [] true)] [.cl 0 cv2 [] 0 true] <|
.ite rv2 (
.call (@F_calendar_Business_ok sv1) fun rv3 cv3 =>
.reg 3 [] [(1, hc cv3 [] true)] [.cl 0 cv3 [] 0 true] <|
.ite rv3 (
.ret [] (.ret (sv1, 0))) (
.ret [] (.cont (IntKind.i64.wrap (sv1 + 1))))) (
.ret [] (.brk sv1))
def S_calendar_Next (a0 : Int) : Scr Tryz.prog R_calendar_Next R_calendar_Next :=
.iter [] (fun (sv1 : Int) => [(0, (vi sv1))]) (fun (_ : Int) => []) a0 S_calendar_Next_b1 (fun (_ : Int) =>
.ret [] (0, 2)) id
def F_calendar_Next (a0 : Int) : Option R_calendar_Next := (S_calendar_Next a0).den
theorem F_calendar_Next_ok {a0 : Int} (r : R_calendar_Next) (h : F_calendar_Next a0 = some r) : CallOk Tryz.prog 101 [(vi a0)] [] (V_calendar_Next r) (L_calendar_Next r) := fOk (s := S_calendar_Next a0) Tryz.func101 rfl (by kernel_rfl) h
abbrev R_control_due := Int
def V_control_due (x : R_control_due) : AV := (vi x)
def L_control_due (_ : R_control_due) : List Ob := []
def S_control_due (a0 : TApiWarrant) (a1 : Int) : Scr Tryz.prog R_control_due R_control_due :=
.call (@F_calendar_Next_ok a0.Due) fun rv1 cv1 =>
.reg 1 [] [(2, hc cv1 [] true)] [.cl 0 cv1 [] 1 true] <|
.ite (decide (a1 < rv1.1)) (
.ret [] 21) (
.ret [] 0)
def F_control_due (a0 : TApiWarrant) (a1 : Int) : Option R_control_due := (S_control_due a0 a1).den
theorem F_control_due_ok {a0 : TApiWarrant} {a1 : Int} (r : R_control_due) (h : F_control_due a0 a1 = some r) : CallOk Tryz.prog 61 [(AV.d (TApiWarrant.e a0)), (vi a1)] [] (V_control_due r) (L_control_due r) := fOk (s := S_control_due a0 a1) Tryz.func61 rfl (by kernel_rfl) h
abbrev R_control_Control_7 := Int
def V_control_Control_7 (x : R_control_Control_7) : AV := (vi x)
def L_control_Control_7 (p0 : TApiWarrant) (p1 : Int) (_ : R_control_Control_7) : List Ob := [(bx (TApiWarrant.e p0)), (Ob.box (vi p1))]
def S_control_Control_7 (p0 : TApiWarrant) (p1 : Int) : Scr Tryz.prog R_control_Control_7 R_control_Control_7 :=
.call (@F_control_due_ok p0 p1) fun rv1 cv1 =>
.reg 1 [] [(2, hc cv1 [] true)] [.cl 0 cv1 [] 2 true] <|
.ret [] rv1
def F_control_Control_7 (p0 : TApiWarrant) (p1 : Int) : Option R_control_Control_7 := (S_control_Control_7 p0 p1).den
theorem F_control_Control_7_ok {p0 : TApiWarrant} {p1 : Int} (r : R_control_Control_7) (h : F_control_Control_7 p0 p1 = some r) : CallOk Tryz.prog 60 [(vp 0), (vp 1)] [(bx (TApiWarrant.e p0)), (Ob.box (vi p1))] (V_control_Control_7 r) (L_control_Control_7 p0 p1 r) := fOk (s := S_control_Control_7 p0 p1) Tryz.func60 rfl (by kernel_rfl) h
abbrev R_rights_sum := Int
def V_rights_sum (x : R_rights_sum) : AV := (vi x)
def L_rights_sum (_ : R_rights_sum) : List Ob := []
def S_rights_sum_b1 (a0 : (List Int)) (iv1 : Nat) (sv2 : Int) : Scr Tryz.prog R_rights_sum (Step (Int) R_rights_sum) :=
.reg 4 [] [] [.pf (nn iv1), .ev 0] <|
.ret [] (.cont (IntKind.i64.wrap (sv2 + (a0.getD iv1 default))))
def S_rights_sum (a0 : (List Int)) : Scr Tryz.prog R_rights_sum R_rights_sum :=
.range (a0.length : Int) a0.length rfl (.slot 6) 8 [6, 7] (fun (sv2 : Int) => [(3, (vi sv2))]) (fun (_ : Int) => []) 0 (S_rights_sum_b1 a0) (fun (sv2 : Int) => 
.ret [] sv2) id
def F_rights_sum (a0 : (List Int)) : Option R_rights_sum := (S_rights_sum a0).den
theorem F_rights_sum_ok {a0 : (List Int)} (r : R_rights_sum) (h : F_rights_sum a0 = some r) : CallOk Tryz.prog 134 [(vl a0)] [] (V_rights_sum r) (L_rights_sum r) := fOk (s := S_rights_sum a0) Tryz.func134 rfl (by kernel_rfl) h
abbrev R_rights_Out := Int
def V_rights_Out (x : R_rights_Out) : AV := (vi x)
def L_rights_Out (_ : R_rights_Out) : List Ob := []
def S_rights_Out (a0 : TApiPot) : Scr Tryz.prog R_rights_Out R_rights_Out :=
.call (@F_rights_sum_ok (a0.Granted.take (((if (a0.Heard.length : Int) < (a0.Granted.length : Int) then (a0.Heard.length : Int) else (a0.Granted.length : Int))).toNat))) fun rv1 cv1 =>
.call (@F_rights_sum_ok (a0.Heard.take (((if (a0.Heard.length : Int) < (a0.Granted.length : Int) then (a0.Heard.length : Int) else (a0.Granted.length : Int))).toNat))) fun rv2 cv2 =>
.guard [(0 : Int) ≤ (if (a0.Heard.length : Int) < (a0.Granted.length : Int) then (a0.Heard.length : Int) else (a0.Granted.length : Int)), ((if (a0.Heard.length : Int) < (a0.Granted.length : Int) then (a0.Heard.length : Int) else (a0.Granted.length : Int))).toNat ≤ a0.Granted.length, ((if (a0.Heard.length : Int) < (a0.Granted.length : Int) then (a0.Heard.length : Int) else (a0.Granted.length : Int))).toNat ≤ a0.Heard.length] <|
.reg 2 [] [(3, hv (vl (a0.Granted.take (((if (a0.Heard.length : Int) < (a0.Granted.length : Int) then (a0.Heard.length : Int) else (a0.Granted.length : Int))).toNat)))), (4, hc cv1 [] true), (8, hv (vl (a0.Heard.take (((if (a0.Heard.length : Int) < (a0.Granted.length : Int) then (a0.Heard.length : Int) else (a0.Granted.length : Int))).toNat)))), (9, hc cv2 [] true)] [.ev 0, .ev 1, .der (fun (h0 : ((if (a0.Heard.length : Int) < (a0.Granted.length : Int) then (a0.Heard.length : Int) else (a0.Granted.length : Int))).toNat ≤ a0.Granted.length) => lvT (DV.i .i64) a0.Granted h0) 1, .cl 4 cv1 [] 1 true, .ev 0, .ev 2, .der (fun (h0 : ((if (a0.Heard.length : Int) < (a0.Granted.length : Int) then (a0.Heard.length : Int) else (a0.Granted.length : Int))).toNat ≤ a0.Heard.length) => lvT (DV.i .i64) a0.Heard h0) 2, .cl 3 cv2 [] 1 true] <|
.ret [] (IntKind.i64.wrap (rv1 - rv2))
def F_rights_Out (a0 : TApiPot) : Option R_rights_Out := (S_rights_Out a0).den
theorem F_rights_Out_ok {a0 : TApiPot} (r : R_rights_Out) (h : F_rights_Out a0 = some r) : CallOk Tryz.prog 103 [(AV.d (TApiPot.e a0))] [] (V_rights_Out r) (L_rights_Out r) := fOk (s := S_rights_Out a0) Tryz.func103 rfl (by kernel_rfl) h
abbrev R_control_funds := Int
def V_control_funds (x : R_control_funds) : AV := (vi x)
def L_control_funds (_ : R_control_funds) : List Ob := []
def S_control_funds (a0 : TApiWarrant) (a1 : TApiOffice) (a2 : TApiPot) : Scr Tryz.prog R_control_funds R_control_funds :=
.ite (bif (bif (bif (!(a2.Code == a0.Code)) then true else (a2.Year != a0.Year)) then true else (decide ((IntKind.i64.wrap (a0.Office - 1)) ≥ (a2.Granted.length : Int)))) then true else (decide ((IntKind.i64.wrap (a0.Office - 1)) ≥ (a2.Heard.length : Int)))) (
.ret [] 6) (
.call (@F_commitment_Used_ok a1.Book a0.Code a0.Year) fun rv1 cv1 =>
.call (@F_rights_Out_ok (⟨[], 0, 0, ((a2.Granted.drop (((IntKind.i64.wrap (a0.Office - 1))).toNat)).take (((IntKind.i64.wrap ((IntKind.i64.wrap (a0.Office - 1)) + 1))).toNat - ((IntKind.i64.wrap (a0.Office - 1))).toNat)), ((a2.Heard.drop (((IntKind.i64.wrap (a0.Office - 1))).toNat)).take (((IntKind.i64.wrap ((IntKind.i64.wrap (a0.Office - 1)) + 1))).toNat - ((IntKind.i64.wrap (a0.Office - 1))).toNat)), [], []⟩ : TApiPot)) fun rv2 cv2 =>
.guard [(0 : Int) ≤ (IntKind.i64.wrap (a0.Office - 1)), (0 : Int) ≤ (IntKind.i64.wrap ((IntKind.i64.wrap (a0.Office - 1)) + 1)), ((IntKind.i64.wrap (a0.Office - 1))).toNat ≤ ((IntKind.i64.wrap ((IntKind.i64.wrap (a0.Office - 1)) + 1))).toNat, ((IntKind.i64.wrap ((IntKind.i64.wrap (a0.Office - 1)) + 1))).toNat ≤ a2.Granted.length, ((IntKind.i64.wrap ((IntKind.i64.wrap (a0.Office - 1)) + 1))).toNat ≤ a2.Heard.length] <|
.reg 4 [] [(6, hc cv1 [] true), (12, hv (vl ((a2.Granted.drop (((IntKind.i64.wrap (a0.Office - 1))).toNat)).take (((IntKind.i64.wrap ((IntKind.i64.wrap (a0.Office - 1)) + 1))).toNat - ((IntKind.i64.wrap (a0.Office - 1))).toNat)))), (18, hv (vl ((a2.Heard.drop (((IntKind.i64.wrap (a0.Office - 1))).toNat)).take (((IntKind.i64.wrap ((IntKind.i64.wrap (a0.Office - 1)) + 1))).toNat - ((IntKind.i64.wrap (a0.Office - 1))).toNat)))), (19, hv (AV.d (TApiPot.e (⟨[], 0, 0, ((a2.Granted.drop (((IntKind.i64.wrap (a0.Office - 1))).toNat)).take (((IntKind.i64.wrap ((IntKind.i64.wrap (a0.Office - 1)) + 1))).toNat - ((IntKind.i64.wrap (a0.Office - 1))).toNat)), ((a2.Heard.drop (((IntKind.i64.wrap (a0.Office - 1))).toNat)).take (((IntKind.i64.wrap ((IntKind.i64.wrap (a0.Office - 1)) + 1))).toNat - ((IntKind.i64.wrap (a0.Office - 1))).toNat)), [], []⟩ : TApiPot)))), (20, hc cv2 [] true)] [.cl 6 cv1 [] 3 true, .ev 0, .ev 1, .ev 2, .ev 3, .der2 (fun (h0 : ((IntKind.i64.wrap (a0.Office - 1))).toNat ≤ ((IntKind.i64.wrap ((IntKind.i64.wrap (a0.Office - 1)) + 1))).toNat) (h1 : ((IntKind.i64.wrap ((IntKind.i64.wrap (a0.Office - 1)) + 1))).toNat ≤ a2.Granted.length) => lvC (DV.i .i64) a2.Granted h0 h1) 2 3, .ev 0, .ev 1, .ev 2, .ev 4, .der2 (fun (h0 : ((IntKind.i64.wrap (a0.Office - 1))).toNat ≤ ((IntKind.i64.wrap ((IntKind.i64.wrap (a0.Office - 1)) + 1))).toNat) (h1 : ((IntKind.i64.wrap ((IntKind.i64.wrap (a0.Office - 1)) + 1))).toNat ≤ a2.Heard.length) => lvC (DV.i .i64) a2.Heard h0 h1) 2 4, .pf (p := LeV (AV.d (DV.agg [(DV.str ([])), (DV.i .i64 0), (DV.i .i64 0), (eL (DV.i .i64) ((a2.Granted.drop (((IntKind.i64.wrap (a0.Office - 1))).toNat)).take (((IntKind.i64.wrap ((IntKind.i64.wrap (a0.Office - 1)) + 1))).toNat - ((IntKind.i64.wrap (a0.Office - 1))).toNat))), (eL (DV.i .i64) ((a2.Heard.drop (((IntKind.i64.wrap (a0.Office - 1))).toNat)).take (((IntKind.i64.wrap ((IntKind.i64.wrap (a0.Office - 1)) + 1))).toNat - ((IntKind.i64.wrap (a0.Office - 1))).toNat))), Z0, Z0])) (AV.d (TApiPot.e (⟨[], 0, 0, ((a2.Granted.drop (((IntKind.i64.wrap (a0.Office - 1))).toNat)).take (((IntKind.i64.wrap ((IntKind.i64.wrap (a0.Office - 1)) + 1))).toNat - ((IntKind.i64.wrap (a0.Office - 1))).toNat)), ((a2.Heard.drop (((IntKind.i64.wrap (a0.Office - 1))).toNat)).take (((IntKind.i64.wrap ((IntKind.i64.wrap (a0.Office - 1)) + 1))).toNat - ((IntKind.i64.wrap (a0.Office - 1))).toNat)), [], []⟩ : TApiPot)))) (leV_dle rfl (DLe.agg (DLeL.cons (DLe.refl _) (DLeL.cons (DLe.refl _) (DLeL.cons (DLe.refl _) (DLeL.cons (DLe.refl _) (DLeL.cons (DLe.refl _) (DLeL.cons DLe.sl0 (DLeL.cons DLe.sl0 DLeL.nil))))))))), .cl 5 cv2 [] 3 true] <|
.ite (decide (rv1 > rv2)) (
.ret [] 15) (
.ret [] 0))
def F_control_funds (a0 : TApiWarrant) (a1 : TApiOffice) (a2 : TApiPot) : Option R_control_funds := (S_control_funds a0 a1 a2).den
theorem F_control_funds_ok {a0 : TApiWarrant} {a1 : TApiOffice} {a2 : TApiPot} (r : R_control_funds) (h : F_control_funds a0 a1 a2 = some r) : CallOk Tryz.prog 63 [(AV.d (TApiWarrant.e a0)), (AV.d (TApiOffice.e a1)), (AV.d (TApiPot.e a2))] [] (V_control_funds r) (L_control_funds r) := fOk (s := S_control_funds a0 a1 a2) Tryz.func63 rfl (by kernel_rfl) h
abbrev R_control_Control_8 := Int
def V_control_Control_8 (x : R_control_Control_8) : AV := (vi x)
def L_control_Control_8 (p0 : TApiWarrant) (p1 : TApiOffice) (p2 : TApiPot) (_ : R_control_Control_8) : List Ob := [(bx (TApiWarrant.e p0)), (bx (TApiOffice.e p1)), (bx (TApiPot.e p2))]
def S_control_Control_8 (p0 : TApiWarrant) (p1 : TApiOffice) (p2 : TApiPot) : Scr Tryz.prog R_control_Control_8 R_control_Control_8 :=
.call (@F_control_funds_ok p0 p1 p2) fun rv1 cv1 =>
.reg 1 [] [(3, hc cv1 [] true)] [.cl 0 cv1 [] 3 true] <|
.ret [] rv1
def F_control_Control_8 (p0 : TApiWarrant) (p1 : TApiOffice) (p2 : TApiPot) : Option R_control_Control_8 := (S_control_Control_8 p0 p1 p2).den
theorem F_control_Control_8_ok {p0 : TApiWarrant} {p1 : TApiOffice} {p2 : TApiPot} (r : R_control_Control_8) (h : F_control_Control_8 p0 p1 p2 = some r) : CallOk Tryz.prog 62 [(vp 0), (vp 1), (vp 2)] [(bx (TApiWarrant.e p0)), (bx (TApiOffice.e p1)), (bx (TApiPot.e p2))] (V_control_Control_8 r) (L_control_Control_8 p0 p1 p2 r) := fOk (s := S_control_Control_8 p0 p1 p2) Tryz.func62 rfl (by kernel_rfl) h
end
end Go.Proofs.YtclaojamgomjbaaGreatDoor
