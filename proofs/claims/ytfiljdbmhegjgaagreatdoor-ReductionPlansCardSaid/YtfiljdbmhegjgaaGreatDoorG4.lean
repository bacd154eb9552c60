/- A part of the proof: what the functions compute, and that their calls return it. No condition. -/
import Derived.Test.YtfiljdbmhegjgaaGreatDoorG3
/- What the functions compute, and that their calls return it. No condition. -/
namespace Go.Proofs.YtfiljdbmhegjgaaGreatDoor
open Go Go.TA
noncomputable section
/-! 16 -/
abbrev R_r13_Grant := TApiTreasury × Int
def V_r13_Grant (x : R_r13_Grant) : AV := (AV.tup [(AV.d (TApiTreasury.e x.1)), (vi x.2)])
def L_r13_Grant (_ : R_r13_Grant) : List Ob := []
def S_r13_Grant (a0 : TApiTreasury) (a1 : Int) (a2 : List UInt8) (a3 : Int) (a4 : Int) : Scr Tryz.prog R_r13_Grant R_r13_Grant :=
.reg 0 [] [(1, { obs := [(1, (bx (TApiTreasury.e (⟨0, []⟩ : TApiTreasury))))] })] [.pf cz4] <|
.call (@F_r13_find_ok a0 a1 a2 a3) fun rv1 cv1 =>
.reg 1 [] [(4, hc cv1 [] true)] [.cl 0 cv1 [] 2 true] <|
.ite (rv1.2 != 0) (
.reg 3 [] [(0, hv (AV.d (TApiTreasury.e (⟨0, []⟩ : TApiTreasury))))] [.pf cz5] <|
.ret [] ((⟨0, []⟩ : TApiTreasury), rv1.2)) (
.ite (bif (decide (a4 < 1)) then true else (decide (a4 > 1000000000000000))) (
.reg 5 [] [(0, hv (AV.d (TApiTreasury.e (⟨0, []⟩ : TApiTreasury))))] [.pf cz5] <|
.ret [] ((⟨0, []⟩ : TApiTreasury), 2)) (
.guard [(0 : Int) ≤ a0.Offices, a0.Offices * 8 ≤ 2 ^ 47] <|
.reg 6 [] [(2, { cast := some (AV.ref 2 ((List.replicate a0.Offices.toNat (0 : Int)).length) 0 ((List.replicate a0.Offices.toNat (0 : Int)).length)), obs := [(2, (eS 1 (DV.i .i64) (List.replicate a0.Offices.toNat (0 : Int))))] })] [.ev 0, .pf (p := a0.Offices ≤ a0.Offices) (Int.le_refl _), .ev 1, .pf (leV_rep (o := 2) (k := a0.Offices.toNat) (z := (0 : Int))), .pf (oLe_rep (sz := 1) (k := a0.Offices.toNat) (e := (DV.i .i64)) (z := (0 : Int)))] <|
.guard [(0 : Int) ≤ (IntKind.i64.wrap (a1 - 1)), ((IntKind.i64.wrap (a1 - 1))).toNat < (List.replicate a0.Offices.toNat (0 : Int)).length, (0 + ((IntKind.i64.wrap (a1 - 1))).toNat) < (List.replicate a0.Offices.toNat (0 : Int)).length] <|
.reg 7 [] [(5, { obs := [(2, (eS 1 (DV.i .i64) ((List.replicate a0.Offices.toNat (0 : Int)).set (0 + ((IntKind.i64.wrap (a1 - 1))).toNat) a4)))] })] [.pf (Eq.refl ((List.replicate a0.Offices.toNat (0 : Int)).length)), .ev 0, .ev 1, .pf (Eq.refl ((List.replicate a0.Offices.toNat (0 : Int)).length)), .ev 2, .pf (oLe_set (sz := 1) (e := (DV.i .i64)) (l := (List.replicate a0.Offices.toNat (0 : Int))) (i := (0 + ((IntKind.i64.wrap (a1 - 1))).toNat)) (x := a4) (fun _ => rfl))] <|
.cst (A := True) (.pf trivial) [(2, (AV.d (DV.str a2))), (3, (vi a3)), (5, (vp 0)), (10, (vp 1)), (14, (AV.ref 2 ((List.replicate a0.Offices.toNat (0 : Int)).length) 0 ((List.replicate a0.Offices.toNat (0 : Int)).length)))] [(2, (AV.d (DV.str a2))), (3, (vi a3)), (5, (vp 0)), (10, (vp 1)), (14, (AV.ref 2 (((List.replicate a0.Offices.toNat (0 : Int)).set (0 + ((IntKind.i64.wrap (a1 - 1))).toNat) a4).length) 0 (((List.replicate a0.Offices.toNat (0 : Int)).set (0 + ((IntKind.i64.wrap (a1 - 1))).toNat) a4).length)))] [(bx (TApiTreasury.e a0)), (bx (TApiTreasury.e (⟨0, []⟩ : TApiTreasury))), (eS 1 (DV.i .i64) ((List.replicate a0.Offices.toNat (0 : Int)).set (0 + ((IntKind.i64.wrap (a1 - 1))).toNat) a4))] [(bx (TApiTreasury.e a0)), (bx (TApiTreasury.e (⟨0, []⟩ : TApiTreasury))), (eS 1 (DV.i .i64) ((List.replicate a0.Offices.toNat (0 : Int)).set (0 + ((IntKind.i64.wrap (a1 - 1))).toNat) a4))] (fun _ => ⟨by simp only [List.length_set], by rfl⟩) <|
.guard [((List.replicate a0.Offices.toNat (0 : Int)).set (0 + ((IntKind.i64.wrap (a1 - 1))).toNat) a4).length < 2 ^ 63] <|
.frz 2 (.ev 0) none [14] [] <|
.call (@F_r13_Divide_ok a0 a2 a3 ((List.replicate a0.Offices.toNat (0 : Int)).set (0 + ((IntKind.i64.wrap (a1 - 1))).toNat) a4)) fun rv2 cv2 =>
.reg 8 [] [(4, hc cv2 [] true)] [.cl 0 cv2 [] 3 true] <|
.ret [] (rv2.1, rv2.2)))
def F_r13_Grant (a0 : TApiTreasury) (a1 : Int) (a2 : List UInt8) (a3 : Int) (a4 : Int) : Option R_r13_Grant := (S_r13_Grant a0 a1 a2 a3 a4).den
set_option maxRecDepth 100000 in
theorem F_r13_Grant_ok {a0 : TApiTreasury} {a1 : Int} {a2 : List UInt8} {a3 : Int} {a4 : Int} (r : R_r13_Grant) (h : F_r13_Grant a0 a1 a2 a3 a4 = some r) : CallOk Tryz.prog 16 [(AV.d (TApiTreasury.e a0)), (vi a1), (AV.d (DV.str a2)), (vi a3), (vi a4)] [] (V_r13_Grant r) (L_r13_Grant r) := fOk (s := S_r13_Grant a0 a1 a2 a3 a4) Tryz.func16 rfl (by kernel_rfl) h
/-! 5 -/
abbrev R_mk_Treasury := TApiTreasury × TTape
def V_mk_Treasury (x : R_mk_Treasury) : AV := (AV.d (TApiTreasury.e x.1))
def L_mk_Treasury (x : R_mk_Treasury) : List Ob := [(bx (TTape.e x.2))]
def S_mk_Treasury_b1 (sv1 : TTape × TApiTreasury × Int) : Scr Tryz.prog R_mk_Treasury (Step (TTape × TApiTreasury × Int) R_mk_Treasury) :=
.ite (decide (sv1.2.2 > 0)) (
.call (@F_mk_PotCode_ok sv1.1) fun rv2 cv2 =>
.call (@F_mk_Tape_N_ok 2 rv2.2) fun rv3 cv3 =>
.call (@F_mk_Tape_N_ok 2000 rv3.2) fun rv4 cv4 =>
.call (@F_mk_Tape_N_ok 50 rv4.2) fun rv5 cv5 =>
.call (@F_mk_Tape_Pick_ok ([100, 500, rv4.1, (IntKind.i64.wrap (0 - rv5.1))] : List Int) rv5.2) fun rv6 cv6 =>
.call (@F_r13_Set_ok sv1.2.1 rv2.1 (IntKind.i64.wrap (12 + rv3.1)) rv6.1) fun rv7 cv7 =>
.reg 5 [2, 4, 8, 10, 13, 18] [(2, hc cv2 [0] false), (4, hc cv3 [0] false), (8, hc cv4 [0] false), (10, hc cv5 [0] false), (12, hv (vl ([100, 500, rv4.1, (IntKind.i64.wrap (0 - rv5.1))] : List Int))), (13, hc cv6 [0] false), (14, hc cv7 [] true)] [.cl 5 cv2 [0] 3 false, .cl 4 cv3 [0] 3 false, .cl 3 cv4 [0] 3 false, .cl 2 cv5 [0] 3 false, .pf (leV_lit (DV.i .i64) ([100, 500, rv4.1, (IntKind.i64.wrap (0 - rv5.1))] : List Int)), .cl 1 cv6 [0] 3 false, .cl 0 cv7 [] 3 true] <|
.ret [] (.cont (rv6.2, rv7.1, (IntKind.i64.wrap (sv1.2.2 - 1))))) (
.ret [] (.brk (sv1.1, sv1.2.1, sv1.2.2)))
def S_mk_Treasury_b2 (a1 : Int) (sv8 : TTape × TApiTreasury × Int) : Scr Tryz.prog R_mk_Treasury (Step (TTape × TApiTreasury × Int) R_mk_Treasury) :=
.ite (bif (decide (sv8.2.2 > 0)) then (decide ((sv8.2.1.Pots.length : Int) > 0)) else false) (
.sh (H := NoH) (A := True) (.pf trivial) [(0, (vp 0)), (1, (vi a1)), (4, (vp 1)), (5, (vp 2)), (7, (vi sv8.2.2)), (47, (vb (bif (decide (sv8.2.2 > 0)) then (decide ((sv8.2.1.Pots.length : Int) > 0)) else false)))] [(0, (vp 0)), (1, (vi a1)), (4, (vp 1)), (5, (vp 2)), (7, (vi sv8.2.2)), (47, (vb (bif (decide (sv8.2.2 > 0)) then (decide ((sv8.2.1.Pots.length : Int) > 0)) else false)))] [(bx (TTape.e sv8.1)), (bx (TApiTreasury.e (⟨0, []⟩ : TApiTreasury))), (bx (TApiTreasury.e sv8.2.1))] [(bx (TTape.e sv8.1)), (bx (TApiTreasury.e (⟨0, []⟩ : TApiTreasury))), (bx (TApiTreasury.e sv8.2.1)), Ob.unb] (fun _ => shift_unb) (trF_refl _) <|
.call (@F_mk_Tape_N_ok (sv8.2.1.Pots.length : Int) sv8.1) fun rv9 cv9 =>
.guard [(0 : Int) ≤ rv9.1, (rv9.1).toNat < sv8.2.1.Pots.length] <|
.reg 9 [6, 9, 10] [(6, hc cv9 [0] false), (9, { h := .born 3 false, obs := [(3, (bx (TApiPot.e (⟨[], 0, 0, [], [], [], []⟩ : TApiPot))))] })] [.cl 2 cv9 [0] 4 false, .cl 2 cv9 [0] 4 false, .ev 0, .ev 1, .ev 0, .ev 1, .pf cz2, .pf cz2] <|
.call (@F_mk_Tape_Range_ok 1 a1 rv9.2) fun rv10 cv10 =>
.reg 10 [] [(2, hc cv10 [0] false)] [.cl 0 cv10 [0] 4 false] <|
.reg 11 [] [(1, { obs := [(4, (bx (TApiTreasury.e (⟨0, []⟩ : TApiTreasury))))] })] [.pf cz4] <|
.call (@F_mk_Tape_N_ok 4 rv10.2) fun rv11 cv11 =>
.reg 12 [] [(1, hc cv11 [0] false)] [.cl 0 cv11 [0] 5 false] <|
.cut (some 4) [0, 1, 4, 5, 7, 10] (fun (sv12 : TTape × TApiTreasury × Int) => [(11, (vi sv12.2.2))]) (fun (sv12 : TTape × TApiTreasury × Int) => [(0, (bx (TTape.e sv12.1))), (4, (bx (TApiTreasury.e sv12.2.1)))]) (
.ite (rv11.1 == 0) (
.call (@F_mk_Tape_Range_ok 1 100 rv11.2) fun rv13 cv13 =>
.call (@F_r13_Ask_ok sv8.2.1 rv10.1 ((sv8.2.1.Pots.getD ((rv9.1).toNat) default).Code) ((sv8.2.1.Pots.getD ((rv9.1).toNat) default).Year) rv13.1) fun rv14 cv14 =>
.reg 15 [7, 12] [(7, hc cv13 [0] false), (8, hc cv14 [] true)] [.cl 1 cv13 [0] 5 false, .cl 0 cv14 [] 5 true] <|
.ret [] (.next (rv13.2, rv14.1, rv14.2))) (
.ite (rv11.1 == 1) (
.call (@F_mk_Tape_N_ok (IntKind.i64.wrap ((((sv8.2.1.Pots.getD ((rv9.1).toNat) default).Granted).getD (((IntKind.i64.wrap (rv10.1 - 1))).toNat) default) + 1)) rv11.2) fun rv15 cv15 =>
.call (@F_mk_Tape_N_ok 200 rv15.2) fun rv16 cv16 =>
.call (@F_r13_Hear_ok sv8.2.1 (⟨rv10.1, 0, (sv8.2.1.Pots.getD ((rv9.1).toNat) default).Code, (sv8.2.1.Pots.getD ((rv9.1).toNat) default).Year, 0, 0, rv15.1, rv16.1⟩ : TApiMessage)) fun rv17 cv17 =>
.guard [(0 : Int) ≤ (IntKind.i64.wrap (rv10.1 - 1)), ((IntKind.i64.wrap (rv10.1 - 1))).toNat < ((sv8.2.1.Pots.getD ((rv9.1).toNat) default).Granted).length] <|
.reg 17 [14, 16, 22] [(14, hc cv15 [0] false), (16, hc cv16 [0] false), (18, hc cv17 [] true)] [.ev 0, .ev 1, .cl 4 cv15 [0] 5 false, .cl 3 cv16 [0] 5 false, .cl 2 cv17 [] 5 true] <|
.ret [] (.next (rv16.2, rv17.1, rv17.2))) (
.ite (rv11.1 == 2) (
.call (@F_mk_Tape_N_ok 1000 rv11.2) fun rv18 cv18 =>
.call (@F_mk_Tape_Pick_ok ([0, 200, rv18.1] : List Int) rv18.2) fun rv19 cv19 =>
.call (@F_r13_Set_ok sv8.2.1 ((sv8.2.1.Pots.getD ((rv9.1).toNat) default).Code) ((sv8.2.1.Pots.getD ((rv9.1).toNat) default).Year) rv19.1) fun rv20 cv20 =>
.reg 19 [7, 9, 14] [(7, hc cv18 [0] false), (8, hv (vl ([0, 200, rv18.1] : List Int))), (9, hc cv19 [0] false), (10, hc cv20 [] true)] [.cl 2 cv18 [0] 5 false, .pf (leV_lit (DV.i .i64) ([0, 200, rv18.1] : List Int)), .cl 1 cv19 [0] 5 false, .cl 0 cv20 [] 5 true] <|
.ret [] (.next (rv19.2, rv20.1, rv20.2))) (
.call (@F_mk_Tape_Range_ok 1 300 rv11.2) fun rv21 cv21 =>
.call (@F_r13_Grant_ok sv8.2.1 rv10.1 ((sv8.2.1.Pots.getD ((rv9.1).toNat) default).Code) ((sv8.2.1.Pots.getD ((rv9.1).toNat) default).Year) rv21.1) fun rv22 cv22 =>
.reg 13 [7, 12] [(7, hc cv21 [0] false), (8, hc cv22 [] true)] [.cl 1 cv21 [0] 5 false, .cl 0 cv22 [] 5 true] <|
.ret [] (.next (rv21.2, rv22.1, rv22.2)))))) fun (sv12 : TTape × TApiTreasury × Int) =>
.ite (sv12.2.2 == 0) (
.ret [] (.cont (sv12.1, sv12.2.1, (IntKind.i64.wrap (sv8.2.2 - 1))))) (
.ret [] (.cont (sv12.1, sv8.2.1, (IntKind.i64.wrap (sv8.2.2 - 1)))))) (
.ret [] (.brk (sv8.1, sv8.2.1, sv8.2.2)))
def S_mk_Treasury (a1 : Int) (p0 : TTape) : Scr Tryz.prog R_mk_Treasury R_mk_Treasury :=
.reg 0 [] [(0, { obs := [(1, (bx (TApiTreasury.e (⟨0, []⟩ : TApiTreasury))))] })] [.pf cz4] <|
.reg 1 [] [(1, hv (AV.d (TApiTreasury.e (⟨a1, []⟩ : TApiTreasury)))), (2, { obs := [(2, (bx (TApiTreasury.e (⟨0, []⟩ : TApiTreasury))))] })] [.pf (p := LeV (AV.d (DV.agg [(DV.i .i64 a1), Z0])) (AV.d (TApiTreasury.e (⟨a1, []⟩ : TApiTreasury)))) (leV_dle rfl (DLe.agg (DLeL.cons (DLe.refl _) (DLeL.cons DLe.sl0 DLeL.nil)))), .pf cz4] <|
.call (@F_mk_Tape_N_ok 4 p0) fun rv23 cv23 =>
.reg 2 [] [(1, hc cv23 [0] false)] [.cl 0 cv23 [0] 3 false] <|
.iter [0, 1, 4, 5] (fun (sv1 : TTape × TApiTreasury × Int) => [(6, (vi sv1.2.2))]) (fun (sv1 : TTape × TApiTreasury × Int) => [(0, (bx (TTape.e sv1.1))), (2, (bx (TApiTreasury.e sv1.2.1)))]) (rv23.2, (⟨a1, []⟩ : TApiTreasury), rv23.1) S_mk_Treasury_b1 (fun (sv1 : TTape × TApiTreasury × Int) =>
.call (@F_mk_Tape_N_ok 6 sv1.1) fun rv24 cv24 =>
.reg 6 [] [(1, hc cv24 [0] false)] [.cl 0 cv24 [0] 3 false] <|
.iter [0, 1, 4, 5] (fun (sv8 : TTape × TApiTreasury × Int) => [(7, (vi sv8.2.2))]) (fun (sv8 : TTape × TApiTreasury × Int) => [(0, (bx (TTape.e sv8.1))), (2, (bx (TApiTreasury.e sv8.2.1)))]) (rv24.2, sv1.2.1, rv24.1) (S_mk_Treasury_b2 a1) (fun (sv8 : TTape × TApiTreasury × Int) =>
.ret [] (sv8.2.1, sv8.1)) id) id
def F_mk_Treasury (a1 : Int) (p0 : TTape) : Option R_mk_Treasury := (S_mk_Treasury a1 p0).den
set_option maxRecDepth 100000 in
theorem F_mk_Treasury_ok {a1 : Int} {p0 : TTape} (r : R_mk_Treasury) (h : F_mk_Treasury a1 p0 = some r) : CallOk Tryz.prog 5 [(vp 0), (vi a1)] [(bx (TTape.e p0))] (V_mk_Treasury r) (L_mk_Treasury r) := fOk (s := S_mk_Treasury a1 p0) Tryz.func5 rfl (by kernel_rfl) h
/-! 33 -/
abbrev R_reduction_right_1 := Bool
def V_reduction_right_1 (x : R_reduction_right_1) : AV := (vb x)
def L_reduction_right_1 (_ : R_reduction_right_1) : List Ob := []
def S_reduction_right_1 (a0 : Int) : Scr Tryz.prog R_reduction_right_1 R_reduction_right_1 :=
.ret [] (bif (decide (a0 < 0)) then true else (decide (a0 > 1000000000000000)))
def F_reduction_right_1 (a0 : Int) : Option R_reduction_right_1 := (S_reduction_right_1 a0).den
set_option maxRecDepth 100000 in
theorem F_reduction_right_1_ok {a0 : Int} (r : R_reduction_right_1) (h : F_reduction_right_1 a0 = some r) : CallOk Tryz.prog 33 [(vi a0)] [] (V_reduction_right_1 r) (L_reduction_right_1 r) := fOk (s := S_reduction_right_1 a0) Tryz.func33 rfl (by kernel_rfl) h
/-! 44 -/
abbrev R_slices_IndexFunc_int_reduction_right_1 := Int
def V_slices_IndexFunc_int_reduction_right_1 (x : R_slices_IndexFunc_int_reduction_right_1) : AV := (vi x)
def L_slices_IndexFunc_int_reduction_right_1 (_ : R_slices_IndexFunc_int_reduction_right_1) : List Ob := []
def S_slices_IndexFunc_int_reduction_right_1_b1 (a0 : (List Int)) (iv1 : Nat) (_ : Unit) : Scr Tryz.prog R_slices_IndexFunc_int_reduction_right_1 (Step (Unit) R_slices_IndexFunc_int_reduction_right_1) :=
.call (@F_reduction_right_1_ok (a0.getD iv1 default)) fun rv2 cv2 =>
.reg 4 [] [(5, hc cv2 [] true)] [.pf (nn iv1), .ev 1, .cl 0 cv2 [] 0 true] <|
.ite rv2 (
.ret [] (.ret (iv1 : Int))) (
.ret [] (.cont ()))
def S_slices_IndexFunc_int_reduction_right_1 (a0 : (List Int)) : Scr Tryz.prog R_slices_IndexFunc_int_reduction_right_1 R_slices_IndexFunc_int_reduction_right_1 :=
.range (a0.length : Int) a0.length rfl (.slot 0) 8 [0, 1, 7] (fun (_ : Unit) => []) (fun (_ : Unit) => []) () (S_slices_IndexFunc_int_reduction_right_1_b1 a0) (fun (_ : Unit) => 
.ret [] (-1)) id
def F_slices_IndexFunc_int_reduction_right_1 (a0 : (List Int)) : Option R_slices_IndexFunc_int_reduction_right_1 := (S_slices_IndexFunc_int_reduction_right_1 a0).den
set_option maxRecDepth 100000 in
theorem F_slices_IndexFunc_int_reduction_right_1_ok {a0 : (List Int)} (r : R_slices_IndexFunc_int_reduction_right_1) (h : F_slices_IndexFunc_int_reduction_right_1 a0 = some r) : CallOk Tryz.prog 44 [(vl a0), (AV.fn 33 [])] [] (V_slices_IndexFunc_int_reduction_right_1 r) (L_slices_IndexFunc_int_reduction_right_1 r) := fOk (s := S_slices_IndexFunc_int_reduction_right_1 a0) Tryz.func44 rfl (by kernel_rfl) h
/-! 34 -/
abbrev R_slices_CoF_int_reduction_right_1 := Bool
def V_slices_CoF_int_reduction_right_1 (x : R_slices_CoF_int_reduction_right_1) : AV := (vb x)
def L_slices_CoF_int_reduction_right_1 (_ : R_slices_CoF_int_reduction_right_1) : List Ob := []
def S_slices_CoF_int_reduction_right_1 (a0 : (List Int)) : Scr Tryz.prog R_slices_CoF_int_reduction_right_1 R_slices_CoF_int_reduction_right_1 :=
.call (@F_slices_IndexFunc_int_reduction_right_1_ok a0) fun rv1 cv1 =>
.reg 1 [] [(2, hc cv1 [] true)] [.cl 0 cv1 [] 0 true] <|
.ret [] (decide (rv1 ≥ 0))
def F_slices_CoF_int_reduction_right_1 (a0 : (List Int)) : Option R_slices_CoF_int_reduction_right_1 := (S_slices_CoF_int_reduction_right_1 a0).den
set_option maxRecDepth 100000 in
theorem F_slices_CoF_int_reduction_right_1_ok {a0 : (List Int)} (r : R_slices_CoF_int_reduction_right_1) (h : F_slices_CoF_int_reduction_right_1 a0 = some r) : CallOk Tryz.prog 34 [(vl a0), (AV.fn 33 [])] [] (V_slices_CoF_int_reduction_right_1 r) (L_slices_CoF_int_reduction_right_1 r) := fOk (s := S_slices_CoF_int_reduction_right_1 a0) Tryz.func34 rfl (by kernel_rfl) h
/-! 17 -/
abbrev R_reduction_right := Bool
def V_reduction_right (x : R_reduction_right) : AV := (vb x)
def L_reduction_right (_ : R_reduction_right) : List Ob := []
def S_reduction_right_b1 (a0 : TApiPot) (iv1 : Nat) (_ : Unit) : Scr Tryz.prog R_reduction_right (Step (Unit) R_reduction_right) :=
.reg 4 [] [] [.pf (nn iv1), .ev 0] <|
.calld [(((([a0.Granted, a0.Heard, a0.Asked, a0.Used] : List (List Int)).getD iv1 default).length : Int) != (a0.Granted.length : Int)) = false] default (@F_slices_CoF_int_reduction_right_1_ok (([a0.Granted, a0.Heard, a0.Asked, a0.Used] : List (List Int)).getD iv1 default)) fun rv2 cv2 =>
.reg 5 [] [(9, hc cv2 [] true)] [.clg 0 [(((([a0.Granted, a0.Heard, a0.Asked, a0.Used] : List (List Int)).getD iv1 default).length : Int) != (a0.Granted.length : Int)) = false] cv2 [] 1 true] <|
.ite (bif (((([a0.Granted, a0.Heard, a0.Asked, a0.Used] : List (List Int)).getD iv1 default).length : Int) != (a0.Granted.length : Int)) then true else rv2) (
.ret [] (.ret false)) (
.ret [] (.cont ()))
def S_reduction_right (a0 : TApiPot) : Scr Tryz.prog R_reduction_right R_reduction_right :=
.reg 2 [] [(8, hv (AV.d (eL (eL (DV.i .i64)) ([a0.Granted, a0.Heard, a0.Asked, a0.Used] : List (List Int)))))] [.pf (leV_lit (eL (DV.i .i64)) ([a0.Granted, a0.Heard, a0.Asked, a0.Used] : List (List Int)))] <|
.range 4 4 rfl (.why (.pf (p := 4 < 2 ^ 63) (by decide))) 16 [1, 3, 14, 15] (fun (_ : Unit) => []) (fun (_ : Unit) => []) () (S_reduction_right_b1 a0) (fun (_ : Unit) => 
.ret [] (bif (decide (a0.Total ≥ (-1000000000000000))) then (decide (a0.Total ≤ 1000000000000000)) else false)) id
def F_reduction_right (a0 : TApiPot) : Option R_reduction_right := (S_reduction_right a0).den
set_option maxRecDepth 100000 in
theorem F_reduction_right_ok {a0 : TApiPot} (r : R_reduction_right) (h : F_reduction_right a0 = some r) : CallOk Tryz.prog 17 [(AV.d (TApiPot.e a0))] [] (V_reduction_right r) (L_reduction_right r) := fOk (s := S_reduction_right a0) Tryz.func17 rfl (by kernel_rfl) h
/-! 45 -/
abbrev R_rights_sum := Int
def V_rights_sum (x : R_rights_sum) : AV := (vi x)
def L_rights_sum (_ : R_rights_sum) : List Ob := []
def S_rights_sum_b1 (a0 : (List Int)) (iv1 : Nat) (sv2 : Int) : Scr Tryz.prog R_rights_sum (Step (Int) R_rights_sum) :=
.reg 4 [] [] [.pf (nn iv1), .ev 0] <|
.ret [] (.cont (IntKind.i64.wrap (sv2 + (a0.getD iv1 default))))
def S_rights_sum (a0 : (List Int)) : Scr Tryz.prog R_rights_sum R_rights_sum :=
.range (a0.length : Int) a0.length rfl (.slot 6) 8 [6, 7] (fun (sv2 : Int) => [(3, (vi sv2))]) (fun (_ : Int) => []) 0 (S_rights_sum_b1 a0) (fun (sv2 : Int) => 
.ret [] sv2) id
def F_rights_sum (a0 : (List Int)) : Option R_rights_sum := (S_rights_sum a0).den
set_option maxRecDepth 100000 in
theorem F_rights_sum_ok {a0 : (List Int)} (r : R_rights_sum) (h : F_rights_sum a0 = some r) : CallOk Tryz.prog 45 [(vl a0)] [] (V_rights_sum r) (L_rights_sum r) := fOk (s := S_rights_sum a0) Tryz.func45 rfl (by kernel_rfl) h
/-! 35 -/
abbrev R_rights_Out := Int
def V_rights_Out (x : R_rights_Out) : AV := (vi x)
def L_rights_Out (_ : R_rights_Out) : List Ob := []
def S_rights_Out (a0 : TApiPot) : Scr Tryz.prog R_rights_Out R_rights_Out :=
.call (@F_rights_sum_ok (a0.Granted.take (((if (a0.Heard.length : Int) < (a0.Granted.length : Int) then (a0.Heard.length : Int) else (a0.Granted.length : Int))).toNat))) fun rv1 cv1 =>
.call (@F_rights_sum_ok (a0.Heard.take (((if (a0.Heard.length : Int) < (a0.Granted.length : Int) then (a0.Heard.length : Int) else (a0.Granted.length : Int))).toNat))) fun rv2 cv2 =>
.guard [(0 : Int) ≤ (if (a0.Heard.length : Int) < (a0.Granted.length : Int) then (a0.Heard.length : Int) else (a0.Granted.length : Int)), ((if (a0.Heard.length : Int) < (a0.Granted.length : Int) then (a0.Heard.length : Int) else (a0.Granted.length : Int))).toNat ≤ a0.Granted.length, ((if (a0.Heard.length : Int) < (a0.Granted.length : Int) then (a0.Heard.length : Int) else (a0.Granted.length : Int))).toNat ≤ a0.Heard.length] <|
.reg 2 [] [(3, hv (vl (a0.Granted.take (((if (a0.Heard.length : Int) < (a0.Granted.length : Int) then (a0.Heard.length : Int) else (a0.Granted.length : Int))).toNat)))), (4, hc cv1 [] true), (8, hv (vl (a0.Heard.take (((if (a0.Heard.length : Int) < (a0.Granted.length : Int) then (a0.Heard.length : Int) else (a0.Granted.length : Int))).toNat)))), (9, hc cv2 [] true)] [.ev 0, .ev 1, .der (fun (h0 : ((if (a0.Heard.length : Int) < (a0.Granted.length : Int) then (a0.Heard.length : Int) else (a0.Granted.length : Int))).toNat ≤ a0.Granted.length) => lvT (DV.i .i64) a0.Granted h0) 1, .cl 4 cv1 [] 1 true, .ev 0, .ev 2, .der (fun (h0 : ((if (a0.Heard.length : Int) < (a0.Granted.length : Int) then (a0.Heard.length : Int) else (a0.Granted.length : Int))).toNat ≤ a0.Heard.length) => lvT (DV.i .i64) a0.Heard h0) 2, .cl 3 cv2 [] 1 true] <|
.ret [] (IntKind.i64.wrap (rv1 - rv2))
def F_rights_Out (a0 : TApiPot) : Option R_rights_Out := (S_rights_Out a0).den
set_option maxRecDepth 100000 in
theorem F_rights_Out_ok {a0 : TApiPot} (r : R_rights_Out) (h : F_rights_Out a0 = some r) : CallOk Tryz.prog 35 [(AV.d (TApiPot.e a0))] [] (V_rights_Out r) (L_rights_Out r) := fOk (s := S_rights_Out a0) Tryz.func35 rfl (by kernel_rfl) h
/-! 18 -/
abbrev R_rights_Shortfall := Int
def V_rights_Shortfall (x : R_rights_Shortfall) : AV := (vi x)
def L_rights_Shortfall (_ : R_rights_Shortfall) : List Ob := []
def S_rights_Shortfall (a0 : TApiPot) : Scr Tryz.prog R_rights_Shortfall R_rights_Shortfall :=
.call (@F_rights_Out_ok a0) fun rv1 cv1 =>
.reg 1 [] [(1, hc cv1 [] true)] [.cl 0 cv1 [] 1 true] <|
.ret [] (if 0 > (IntKind.i64.wrap (rv1 - a0.Total)) then 0 else (IntKind.i64.wrap (rv1 - a0.Total)))
def F_rights_Shortfall (a0 : TApiPot) : Option R_rights_Shortfall := (S_rights_Shortfall a0).den
set_option maxRecDepth 100000 in
theorem F_rights_Shortfall_ok {a0 : TApiPot} (r : R_rights_Shortfall) (h : F_rights_Shortfall a0 = some r) : CallOk Tryz.prog 18 [(AV.d (TApiPot.e a0))] [] (V_rights_Shortfall r) (L_rights_Shortfall r) := fOk (s := S_rights_Shortfall a0) Tryz.func18 rfl (by kernel_rfl) h
/-! 19 -/
abbrev R_reduction_look := Int × Int
def V_reduction_look (x : R_reduction_look) : AV := (AV.tup [(vi x.1), (vi x.2)])
def L_reduction_look (_ : R_reduction_look) : List Ob := []
def S_reduction_look (a0 : TApiPot) (a1 : Int) : Scr Tryz.prog R_reduction_look R_reduction_look :=
.guard [(0 : Int) ≤ a1, (a1).toNat < a0.Granted.length, (a1).toNat < a0.Heard.length, (a1).toNat < a0.Used.length] <|
.reg 1 [] [] [.ev 0, .ev 1, .ev 0, .ev 2, .ev 0, .ev 3] <|
.guard [(a1).toNat < a0.Asked.length] <|
.reg 2 [] [] [.ev 1, .ev 0, .ev 1, .ev 3] <|
.ret [] ((if 0 > (if (IntKind.i64.wrap ((a0.Asked.getD ((a1).toNat) default) - (a0.Heard.getD ((a1).toNat) default))) < (if 0 > (IntKind.i64.wrap ((IntKind.i64.wrap ((a0.Granted.getD ((a1).toNat) default) - (a0.Heard.getD ((a1).toNat) default))) - (a0.Used.getD ((a1).toNat) default))) then 0 else (IntKind.i64.wrap ((IntKind.i64.wrap ((a0.Granted.getD ((a1).toNat) default) - (a0.Heard.getD ((a1).toNat) default))) - (a0.Used.getD ((a1).toNat) default)))) then (IntKind.i64.wrap ((a0.Asked.getD ((a1).toNat) default) - (a0.Heard.getD ((a1).toNat) default))) else (if 0 > (IntKind.i64.wrap ((IntKind.i64.wrap ((a0.Granted.getD ((a1).toNat) default) - (a0.Heard.getD ((a1).toNat) default))) - (a0.Used.getD ((a1).toNat) default))) then 0 else (IntKind.i64.wrap ((IntKind.i64.wrap ((a0.Granted.getD ((a1).toNat) default) - (a0.Heard.getD ((a1).toNat) default))) - (a0.Used.getD ((a1).toNat) default))))) then 0 else (if (IntKind.i64.wrap ((a0.Asked.getD ((a1).toNat) default) - (a0.Heard.getD ((a1).toNat) default))) < (if 0 > (IntKind.i64.wrap ((IntKind.i64.wrap ((a0.Granted.getD ((a1).toNat) default) - (a0.Heard.getD ((a1).toNat) default))) - (a0.Used.getD ((a1).toNat) default))) then 0 else (IntKind.i64.wrap ((IntKind.i64.wrap ((a0.Granted.getD ((a1).toNat) default) - (a0.Heard.getD ((a1).toNat) default))) - (a0.Used.getD ((a1).toNat) default)))) then (IntKind.i64.wrap ((a0.Asked.getD ((a1).toNat) default) - (a0.Heard.getD ((a1).toNat) default))) else (if 0 > (IntKind.i64.wrap ((IntKind.i64.wrap ((a0.Granted.getD ((a1).toNat) default) - (a0.Heard.getD ((a1).toNat) default))) - (a0.Used.getD ((a1).toNat) default))) then 0 else (IntKind.i64.wrap ((IntKind.i64.wrap ((a0.Granted.getD ((a1).toNat) default) - (a0.Heard.getD ((a1).toNat) default))) - (a0.Used.getD ((a1).toNat) default)))))), (IntKind.i64.wrap ((if 0 > (IntKind.i64.wrap ((IntKind.i64.wrap ((a0.Granted.getD ((a1).toNat) default) - (a0.Heard.getD ((a1).toNat) default))) - (a0.Used.getD ((a1).toNat) default))) then 0 else (IntKind.i64.wrap ((IntKind.i64.wrap ((a0.Granted.getD ((a1).toNat) default) - (a0.Heard.getD ((a1).toNat) default))) - (a0.Used.getD ((a1).toNat) default)))) - (if 0 > (if (IntKind.i64.wrap ((a0.Asked.getD ((a1).toNat) default) - (a0.Heard.getD ((a1).toNat) default))) < (if 0 > (IntKind.i64.wrap ((IntKind.i64.wrap ((a0.Granted.getD ((a1).toNat) default) - (a0.Heard.getD ((a1).toNat) default))) - (a0.Used.getD ((a1).toNat) default))) then 0 else (IntKind.i64.wrap ((IntKind.i64.wrap ((a0.Granted.getD ((a1).toNat) default) - (a0.Heard.getD ((a1).toNat) default))) - (a0.Used.getD ((a1).toNat) default)))) then (IntKind.i64.wrap ((a0.Asked.getD ((a1).toNat) default) - (a0.Heard.getD ((a1).toNat) default))) else (if 0 > (IntKind.i64.wrap ((IntKind.i64.wrap ((a0.Granted.getD ((a1).toNat) default) - (a0.Heard.getD ((a1).toNat) default))) - (a0.Used.getD ((a1).toNat) default))) then 0 else (IntKind.i64.wrap ((IntKind.i64.wrap ((a0.Granted.getD ((a1).toNat) default) - (a0.Heard.getD ((a1).toNat) default))) - (a0.Used.getD ((a1).toNat) default))))) then 0 else (if (IntKind.i64.wrap ((a0.Asked.getD ((a1).toNat) default) - (a0.Heard.getD ((a1).toNat) default))) < (if 0 > (IntKind.i64.wrap ((IntKind.i64.wrap ((a0.Granted.getD ((a1).toNat) default) - (a0.Heard.getD ((a1).toNat) default))) - (a0.Used.getD ((a1).toNat) default))) then 0 else (IntKind.i64.wrap ((IntKind.i64.wrap ((a0.Granted.getD ((a1).toNat) default) - (a0.Heard.getD ((a1).toNat) default))) - (a0.Used.getD ((a1).toNat) default)))) then (IntKind.i64.wrap ((a0.Asked.getD ((a1).toNat) default) - (a0.Heard.getD ((a1).toNat) default))) else (if 0 > (IntKind.i64.wrap ((IntKind.i64.wrap ((a0.Granted.getD ((a1).toNat) default) - (a0.Heard.getD ((a1).toNat) default))) - (a0.Used.getD ((a1).toNat) default))) then 0 else (IntKind.i64.wrap ((IntKind.i64.wrap ((a0.Granted.getD ((a1).toNat) default) - (a0.Heard.getD ((a1).toNat) default))) - (a0.Used.getD ((a1).toNat) default)))))))))
def F_reduction_look (a0 : TApiPot) (a1 : Int) : Option R_reduction_look := (S_reduction_look a0 a1).den
set_option maxRecDepth 100000 in
theorem F_reduction_look_ok {a0 : TApiPot} {a1 : Int} (r : R_reduction_look) (h : F_reduction_look a0 a1 = some r) : CallOk Tryz.prog 19 [(AV.d (TApiPot.e a0)), (vi a1)] [] (V_reduction_look r) (L_reduction_look r) := fOk (s := S_reduction_look a0 a1) Tryz.func19 rfl (by kernel_rfl) h
/-! 20 -/
abbrev R_slices_Max_int := Int
def V_slices_Max_int (x : R_slices_Max_int) : AV := (vi x)
def L_slices_Max_int (p0 : (List Int)) (_ : R_slices_Max_int) : List Ob := [(eS 1 (DV.i .i64) p0)]
def S_slices_Max_int_b1 (p0 : (List Int)) (sv1 : Int × Int) : Scr Tryz.prog R_slices_Max_int (Step (Int × Int) R_slices_Max_int) :=
.ite (decide (sv1.2 < (p0.length : Int))) (
.guard [(0 : Int) ≤ sv1.2, (sv1.2).toNat < p0.length, (0 + (sv1.2).toNat) < p0.length] <|
.reg 7 [] [] [.pf (Eq.refl p0.length), .ev 0, .ev 1, .pf (Eq.refl p0.length), .ev 2] <|
.ret [] (.cont ((if (p0.getD (0 + (sv1.2).toNat) default) > sv1.1 then (p0.getD (0 + (sv1.2).toNat) default) else sv1.1), (IntKind.i64.wrap (sv1.2 + 1))))) (
.ret [] (.brk (sv1.1, sv1.2)))
def S_slices_Max_int (p0 : (List Int)) : Scr Tryz.prog R_slices_Max_int R_slices_Max_int :=
.guard [(decide ((p0.length : Int) < 1)) = false] <|
.br false (.ev 0) <|
.guard [0 < p0.length, (0 + 0) < p0.length] <|
.reg 3 [] [] [.pf (Eq.refl p0.length), .pf (p := (0 : Int) ≤ 0) (by decide), .ev 0, .pf (Eq.refl p0.length), .ev 1] <|
.iter [0] (fun (sv1 : Int × Int) => [(3, (vi sv1.1)), (4, (vi sv1.2))]) (fun (_ : Int × Int) => []) ((p0.getD (0 + 0) default), 1) (S_slices_Max_int_b1 p0) (fun (sv1 : Int × Int) =>
.ret [] sv1.1) id
def F_slices_Max_int (p0 : (List Int)) : Option R_slices_Max_int := (S_slices_Max_int p0).den
set_option maxRecDepth 100000 in
theorem F_slices_Max_int_ok {p0 : (List Int)} (r : R_slices_Max_int) (h : F_slices_Max_int p0 = some r) : CallOk Tryz.prog 20 [(AV.ref 0 p0.length 0 p0.length)] [(eS 1 (DV.i .i64) p0)] (V_slices_Max_int r) (L_slices_Max_int p0 r) := fOk (s := S_slices_Max_int p0) Tryz.func20 rfl (by kernel_rfl) h
/-! 21 -/
abbrev R_slices_Index_int := Int
def V_slices_Index_int (x : R_slices_Index_int) : AV := (vi x)
def L_slices_Index_int (p0 : (List Int)) (_ : R_slices_Index_int) : List Ob := [(eS 1 (DV.i .i64) p0)]
def S_slices_Index_int_b1 (a1 : Int) (p0 : (List Int)) (iv1 : Nat) (_ : Unit) : Scr Tryz.prog R_slices_Index_int (Step (Unit) R_slices_Index_int) :=
.guard [(0 + iv1) < p0.length] <|
.reg 4 [] [] [.pf (Eq.refl p0.length), .pf (nn iv1), .ev 1, .pf (Eq.refl p0.length), .ev 0] <|
.ite (a1 == (p0.getD (0 + iv1) default)) (
.ret [] (.ret (iv1 : Int))) (
.ret [] (.cont ()))
def S_slices_Index_int (a1 : Int) (p0 : (List Int)) : Scr Tryz.prog R_slices_Index_int R_slices_Index_int :=
.guard [p0.length < 2 ^ 63] <|
.range (p0.length : Int) p0.length rfl (.why (.ev 0)) 8 [0, 1, 7] (fun (_ : Unit) => []) (fun (_ : Unit) => []) () (S_slices_Index_int_b1 a1 p0) (fun (_ : Unit) => 
.ret [] (-1)) id
def F_slices_Index_int (a1 : Int) (p0 : (List Int)) : Option R_slices_Index_int := (S_slices_Index_int a1 p0).den
set_option maxRecDepth 100000 in
theorem F_slices_Index_int_ok {a1 : Int} {p0 : (List Int)} (r : R_slices_Index_int) (h : F_slices_Index_int a1 p0 = some r) : CallOk Tryz.prog 21 [(AV.ref 0 p0.length 0 p0.length), (vi a1)] [(eS 1 (DV.i .i64) p0)] (V_slices_Index_int r) (L_slices_Index_int p0 r) := fOk (s := S_slices_Index_int a1 p0) Tryz.func21 rfl (by kernel_rfl) h
/-! 7 -/
abbrev R_reduction_Plan := (List Int)
def V_reduction_Plan (x : R_reduction_Plan) : AV := (vl x)
def L_reduction_Plan (_ : R_reduction_Plan) : List Ob := []
def S_reduction_Plan_b1 (a0 : TApiPot) (iv1 : Nat) (sv2 : (List Int) × Int) : Scr Tryz.prog R_reduction_Plan (Step ((List Int) × Int) R_reduction_Plan) :=
.call (@F_reduction_look_ok a0 (iv1 : Int)) fun rv3 cv3 =>
.reg 8 [] [(2, hc cv3 [] true)] [.cl 0 cv3 [] 2 true] <|
.guard [(sv2.1.length + 1) * (2 * 8) ≤ 2 ^ 48] <|
.reg 9 [] [(5, hv (vl ([rv3.2] : List Int))), (6, { h := .obj, cast := some (AV.ref 1 ((sv2.1 ++ ([rv3.2] : List Int)).length) 0 ((sv2.1 ++ ([rv3.2] : List Int)).length)), obs := [(1, (eS 1 (DV.i .i64) (sv2.1 ++ ([rv3.2] : List Int))))] })] [.pf (leV_lit (DV.i .i64) ([rv3.2] : List Int)), .pf (Eq.refl sv2.1.length), .pf (Eq.refl sv2.1.length), .pf (p := ∀ k, k < 1 → (AV.d ((DV.i .i64) (([rv3.2] : List Int).getD k default))).wd = 1) (fun _ _ => rfl), .ev 0, .pf (leV_app (o := 1) (l := sv2.1) (x := ([rv3.2] : List Int))), .pf (oLe_app (sz := 1) (e := (DV.i .i64)) (l := sv2.1) (x := ([rv3.2] : List Int)))] <|
.ret [] (.cont ((sv2.1 ++ ([rv3.2] : List Int)), (IntKind.i64.wrap (sv2.2 - rv3.1))))
def S_reduction_Plan_b2 (a0 : TApiPot) (sv4 : (List Int) × (List Int) × Int) : Scr Tryz.prog R_reduction_Plan (Step ((List Int) × (List Int) × Int) R_reduction_Plan) :=
.ite (bif (decide (sv4.2.2 > 0)) then (decide ((sv4.1.length : Int) > 0)) else false) (
.call (@F_slices_Max_int_ok sv4.1) fun rv5 cv5 =>
.reg 13 [] [(1, hc cv5 [1] true)] [.cl 0 cv5 [1] 3 true] <|
.ite (rv5 == 0) (
.ret [] (.brk (sv4.1, sv4.2.1, sv4.2.2))) (
.call (@F_slices_Index_int_ok rv5 sv4.1) fun rv6 cv6 =>
.reg 15 [] [(2, hc cv6 [1] true)] [.cl 0 cv6 [1] 3 true] <|
.guard [(0 : Int) ≤ rv6, (rv6).toNat < sv4.2.1.length, (0 + (rv6).toNat) < sv4.2.1.length, (rv6).toNat < sv4.1.length, (0 + (rv6).toNat) < sv4.1.length] <|
.reg 16 [] [(8, { obs := [(2, (eS 1 (DV.i .i64) (sv4.2.1.set (0 + (rv6).toNat) (if sv4.2.2 < rv5 then sv4.2.2 else rv5))))] }), (10, { obs := [(1, (eS 1 (DV.i .i64) (sv4.1.set (0 + (rv6).toNat) 0)))] })] [.pf (Eq.refl sv4.2.1.length), .ev 0, .ev 1, .pf (Eq.refl sv4.2.1.length), .ev 2, .pf (oLe_set (sz := 1) (e := (DV.i .i64)) (l := sv4.2.1) (i := (0 + (rv6).toNat)) (x := (if sv4.2.2 < rv5 then sv4.2.2 else rv5)) (fun _ => rfl)), .pf (Eq.refl sv4.1.length), .ev 0, .ev 3, .pf (Eq.refl sv4.1.length), .ev 4, .pf (oLe_set (sz := 1) (e := (DV.i .i64)) (l := sv4.1) (i := (0 + (rv6).toNat)) (x := 0) (fun _ => rfl))] <|
.cst (A := True) (.pf trivial) [(3, (vi sv4.2.2)), (4, (AV.ref 1 sv4.1.length 0 sv4.1.length)), (8, (AV.ref 2 sv4.2.1.length 0 sv4.2.1.length)), (10, (vi rv6))] [(3, (vi sv4.2.2)), (4, (AV.ref 1 ((sv4.1.set (0 + (rv6).toNat) 0).length) 0 ((sv4.1.set (0 + (rv6).toNat) 0).length))), (8, (AV.ref 2 ((sv4.2.1.set (0 + (rv6).toNat) (if sv4.2.2 < rv5 then sv4.2.2 else rv5)).length) 0 ((sv4.2.1.set (0 + (rv6).toNat) (if sv4.2.2 < rv5 then sv4.2.2 else rv5)).length))), (10, (vi rv6))] [(bx (TApiPot.e a0)), (eS 1 (DV.i .i64) (sv4.1.set (0 + (rv6).toNat) 0)), (eS 1 (DV.i .i64) (sv4.2.1.set (0 + (rv6).toNat) (if sv4.2.2 < rv5 then sv4.2.2 else rv5)))] [(bx (TApiPot.e a0)), (eS 1 (DV.i .i64) (sv4.1.set (0 + (rv6).toNat) 0)), (eS 1 (DV.i .i64) (sv4.2.1.set (0 + (rv6).toNat) (if sv4.2.2 < rv5 then sv4.2.2 else rv5)))] (fun _ => ⟨by simp only [List.length_set], by rfl⟩) <|
.guard [(rv6).toNat < (sv4.2.1.set (0 + (rv6).toNat) (if sv4.2.2 < rv5 then sv4.2.2 else rv5)).length, (0 + (rv6).toNat) < (sv4.2.1.set (0 + (rv6).toNat) (if sv4.2.2 < rv5 then sv4.2.2 else rv5)).length] <|
.reg 17 [] [] [.pf (Eq.refl ((sv4.2.1.set (0 + (rv6).toNat) (if sv4.2.2 < rv5 then sv4.2.2 else rv5)).length)), .ev 2, .ev 0, .pf (Eq.refl ((sv4.2.1.set (0 + (rv6).toNat) (if sv4.2.2 < rv5 then sv4.2.2 else rv5)).length)), .ev 1] <|
.ret [] (.cont ((sv4.1.set (0 + (rv6).toNat) 0), (sv4.2.1.set (0 + (rv6).toNat) (if sv4.2.2 < rv5 then sv4.2.2 else rv5)), (IntKind.i64.wrap (sv4.2.2 - ((sv4.2.1.set (0 + (rv6).toNat) (if sv4.2.2 < rv5 then sv4.2.2 else rv5)).getD (0 + (rv6).toNat) default))))))) (
.ret [] (.brk (sv4.1, sv4.2.1, sv4.2.2)))
def S_reduction_Plan (a0 : TApiPot) : Scr Tryz.prog R_reduction_Plan R_reduction_Plan :=
.call (@F_reduction_right_ok a0) fun rv7 cv7 =>
.reg 1 [] [(1, hc cv7 [] true)] [.cl 0 cv7 [] 1 true] <|
.ite (!rv7) (
.ret [.pf cz1] ([])) (
.call (@F_rights_Shortfall_ok a0) fun rv8 cv8 =>
.reg 3 [] [(1, hc cv8 [] true)] [.cl 0 cv8 [] 1 true] <|
.reg 5 [] [] [] <|
.bor 1 (fun j => AV.d ((DV.i .i64) (([] : List Int).getD j default))) [4] <|
.guard [a0.Granted.length < 2 ^ 63] <|
.range (a0.Granted.length : Int) a0.Granted.length rfl (.why (.ev 0)) 19 [1, 18] (fun (sv2 : (List Int) × Int) => [(3, (vi sv2.2)), (4, (AV.ref 1 sv2.1.length 0 sv2.1.length))]) (fun (sv2 : (List Int) × Int) => [(1, (eS 1 (DV.i .i64) sv2.1))]) (([] : List Int), rv8) (S_reduction_Plan_b1 a0) (fun (sv2 : (List Int) × Int) => 
.guard [(sv2.1.length : Int) * 8 ≤ 2 ^ 47] <|
.reg 11 [] [(2, { cast := some (AV.ref 2 ((List.replicate ((sv2.1.length : Int).toNat) (0 : Int)).length) 0 ((List.replicate ((sv2.1.length : Int).toNat) (0 : Int)).length)), obs := [(2, (eS 1 (DV.i .i64) (List.replicate ((sv2.1.length : Int).toNat) (0 : Int))))] })] [.pf (nn sv2.1.length), .pf (p := (sv2.1.length : Int) ≤ (sv2.1.length : Int)) (Int.le_refl _), .ev 0, .pf (leV_rep (o := 2) (k := (sv2.1.length : Int).toNat) (z := (0 : Int))), .pf (oLe_rep (sz := 1) (k := (sv2.1.length : Int).toNat) (e := (DV.i .i64)) (z := (0 : Int)))] <|
.iter [] (fun (sv4 : (List Int) × (List Int) × Int) => [(3, (vi sv4.2.2)), (4, (AV.ref 1 sv4.1.length 0 sv4.1.length)), (8, (AV.ref 2 sv4.2.1.length 0 sv4.2.1.length))]) (fun (sv4 : (List Int) × (List Int) × Int) => [(1, (eS 1 (DV.i .i64) sv4.1)), (2, (eS 1 (DV.i .i64) sv4.2.1))]) (sv2.1, (List.replicate ((sv2.1.length : Int).toNat) (0 : Int)), sv2.2) (S_reduction_Plan_b2 a0) (fun (sv4 : (List Int) × (List Int) × Int) =>
.guard [sv4.2.1.length < 2 ^ 63] <|
.reg 18 [] [] [] <|
.frz 2 (.ev 0) none [2] [] <|
.ret [] sv4.2.1) id) id)
def F_reduction_Plan (a0 : TApiPot) : Option R_reduction_Plan := (S_reduction_Plan a0).den
set_option maxRecDepth 100000 in
theorem F_reduction_Plan_ok {a0 : TApiPot} (r : R_reduction_Plan) (h : F_reduction_Plan a0 = some r) : CallOk Tryz.prog 7 [(AV.d (TApiPot.e a0))] [] (V_reduction_Plan r) (L_reduction_Plan r) := fOk (s := S_reduction_Plan a0) Tryz.func7 rfl (by kernel_rfl) h
/-! 8 -/
abbrev R_r13_Shortfall := Int
def V_r13_Shortfall (x : R_r13_Shortfall) : AV := (vi x)
def L_r13_Shortfall (_ : R_r13_Shortfall) : List Ob := []
def S_r13_Shortfall (a0 : TApiPot) : Scr Tryz.prog R_r13_Shortfall R_r13_Shortfall :=
.call (@F_r13_Out_ok a0) fun rv1 cv1 =>
.reg 1 [] [(1, hc cv1 [] true)] [.cl 0 cv1 [] 1 true] <|
.ret [] (if (IntKind.i64.wrap (rv1 - a0.Total)) > 0 then (IntKind.i64.wrap (rv1 - a0.Total)) else 0)
def F_r13_Shortfall (a0 : TApiPot) : Option R_r13_Shortfall := (S_r13_Shortfall a0).den
set_option maxRecDepth 100000 in
theorem F_r13_Shortfall_ok {a0 : TApiPot} (r : R_r13_Shortfall) (h : F_r13_Shortfall a0 = some r) : CallOk Tryz.prog 8 [(AV.d (TApiPot.e a0))] [] (V_r13_Shortfall r) (L_r13_Shortfall r) := fOk (s := S_r13_Shortfall a0) Tryz.func8 rfl (by kernel_rfl) h
/-! 48 -/
abbrev R_rights_among := Bool
def V_rights_among (x : R_rights_among) : AV := (vb x)
def L_rights_among (_ : R_rights_among) : List Ob := []
def S_rights_among (a0 : Int) (a1 : Int) (a2 : Int) : Scr Tryz.prog R_rights_among R_rights_among :=
.ret [] (bif (decide (a0 ≥ a1)) then (decide (a0 ≤ a2)) else false)
def F_rights_among (a0 : Int) (a1 : Int) (a2 : Int) : Option R_rights_among := (S_rights_among a0 a1 a2).den
set_option maxRecDepth 100000 in
theorem F_rights_among_ok {a0 : Int} {a1 : Int} {a2 : Int} (r : R_rights_among) (h : F_rights_among a0 a1 a2 = some r) : CallOk Tryz.prog 48 [(vi a0), (vi a1), (vi a2)] [] (V_rights_among r) (L_rights_among r) := fOk (s := S_rights_among a0 a1 a2) Tryz.func48 rfl (by kernel_rfl) h
/-! 47 -/
abbrev R_rights_place := Bool
def V_rights_place (x : R_rights_place) : AV := (vb x)
def L_rights_place (_ : R_rights_place) : List Ob := []
def S_rights_place (a0 : List UInt8) (a1 : Int) : Scr Tryz.prog R_rights_place R_rights_place :=
.call (@F_classification_Parts_ok a0) fun rv1 cv1 =>
.calld [(decide ((rv1.length : Int) > 0)) = true] default (@F_rights_among_ok a1 0 99) fun rv2 cv2 =>
.reg 1 [] [(1, hc cv1 [] true), (6, hc cv2 [] true)] [.cl 2 cv1 [] 0 true, .clg 0 [(decide ((rv1.length : Int) > 0)) = true] cv2 [] 0 true] <|
.ret [] (bif (decide ((rv1.length : Int) > 0)) then rv2 else false)
def F_rights_place (a0 : List UInt8) (a1 : Int) : Option R_rights_place := (S_rights_place a0 a1).den
set_option maxRecDepth 100000 in
theorem F_rights_place_ok {a0 : List UInt8} {a1 : Int} (r : R_rights_place) (h : F_rights_place a0 a1 = some r) : CallOk Tryz.prog 47 [(AV.d (DV.str a0)), (vi a1)] [] (V_rights_place r) (L_rights_place r) := fOk (s := S_rights_place a0 a1) Tryz.func47 rfl (by kernel_rfl) h
/-! 70 -/
abbrev R_rights_total := Bool
def V_rights_total (x : R_rights_total) : AV := (vb x)
def L_rights_total (_ : R_rights_total) : List Ob := []
def S_rights_total (a0 : Int) : Scr Tryz.prog R_rights_total R_rights_total :=
.call (@F_rights_among_ok a0 0 1000000000000000) fun rv1 cv1 =>
.reg 1 [] [(1, hc cv1 [] true)] [.cl 0 cv1 [] 0 true] <|
.ret [] rv1
def F_rights_total (a0 : Int) : Option R_rights_total := (S_rights_total a0).den
set_option maxRecDepth 100000 in
theorem F_rights_total_ok {a0 : Int} (r : R_rights_total) (h : F_rights_total a0 = some r) : CallOk Tryz.prog 70 [(vi a0)] [] (V_rights_total r) (L_rights_total r) := fOk (s := S_rights_total a0) Tryz.func70 rfl (by kernel_rfl) h
/-! 69 -/
abbrev R_rights_valid_1 := Bool
def V_rights_valid_1 (x : R_rights_valid_1) : AV := (vb x)
def L_rights_valid_1 (_ : R_rights_valid_1) : List Ob := []
def S_rights_valid_1 (a0 : Int) : Scr Tryz.prog R_rights_valid_1 R_rights_valid_1 :=
.call (@F_rights_total_ok a0) fun rv1 cv1 =>
.reg 1 [] [(1, hc cv1 [] true)] [.cl 0 cv1 [] 0 true] <|
.ret [] (!rv1)
def F_rights_valid_1 (a0 : Int) : Option R_rights_valid_1 := (S_rights_valid_1 a0).den
set_option maxRecDepth 100000 in
theorem F_rights_valid_1_ok {a0 : Int} (r : R_rights_valid_1) (h : F_rights_valid_1 a0 = some r) : CallOk Tryz.prog 69 [(vi a0)] [] (V_rights_valid_1 r) (L_rights_valid_1 r) := fOk (s := S_rights_valid_1 a0) Tryz.func69 rfl (by kernel_rfl) h
/-! 44 -/
abbrev R_slices_IndexFunc_int_rights_valid_1 := Int
def V_slices_IndexFunc_int_rights_valid_1 (x : R_slices_IndexFunc_int_rights_valid_1) : AV := (vi x)
def L_slices_IndexFunc_int_rights_valid_1 (_ : R_slices_IndexFunc_int_rights_valid_1) : List Ob := []
def S_slices_IndexFunc_int_rights_valid_1_b1 (a0 : (List Int)) (iv1 : Nat) (_ : Unit) : Scr Tryz.prog R_slices_IndexFunc_int_rights_valid_1 (Step (Unit) R_slices_IndexFunc_int_rights_valid_1) :=
.call (@F_rights_valid_1_ok (a0.getD iv1 default)) fun rv2 cv2 =>
.reg 4 [] [(5, hc cv2 [] true)] [.pf (nn iv1), .ev 1, .cl 0 cv2 [] 0 true] <|
.ite rv2 (
.ret [] (.ret (iv1 : Int))) (
.ret [] (.cont ()))
def S_slices_IndexFunc_int_rights_valid_1 (a0 : (List Int)) : Scr Tryz.prog R_slices_IndexFunc_int_rights_valid_1 R_slices_IndexFunc_int_rights_valid_1 :=
.range (a0.length : Int) a0.length rfl (.slot 0) 8 [0, 1, 7] (fun (_ : Unit) => []) (fun (_ : Unit) => []) () (S_slices_IndexFunc_int_rights_valid_1_b1 a0) (fun (_ : Unit) => 
.ret [] (-1)) id
def F_slices_IndexFunc_int_rights_valid_1 (a0 : (List Int)) : Option R_slices_IndexFunc_int_rights_valid_1 := (S_slices_IndexFunc_int_rights_valid_1 a0).den
set_option maxRecDepth 100000 in
theorem F_slices_IndexFunc_int_rights_valid_1_ok {a0 : (List Int)} (r : R_slices_IndexFunc_int_rights_valid_1) (h : F_slices_IndexFunc_int_rights_valid_1 a0 = some r) : CallOk Tryz.prog 44 [(vl a0), (AV.fn 69 [])] [] (V_slices_IndexFunc_int_rights_valid_1 r) (L_slices_IndexFunc_int_rights_valid_1 r) := fOk (s := S_slices_IndexFunc_int_rights_valid_1 a0) Tryz.func44 rfl (by kernel_rfl) h
/-! 34 -/
abbrev R_slices_CoF_int_rights_valid_1 := Bool
def V_slices_CoF_int_rights_valid_1 (x : R_slices_CoF_int_rights_valid_1) : AV := (vb x)
def L_slices_CoF_int_rights_valid_1 (_ : R_slices_CoF_int_rights_valid_1) : List Ob := []
def S_slices_CoF_int_rights_valid_1 (a0 : (List Int)) : Scr Tryz.prog R_slices_CoF_int_rights_valid_1 R_slices_CoF_int_rights_valid_1 :=
.call (@F_slices_IndexFunc_int_rights_valid_1_ok a0) fun rv1 cv1 =>
.reg 1 [] [(2, hc cv1 [] true)] [.cl 0 cv1 [] 0 true] <|
.ret [] (decide (rv1 ≥ 0))
def F_slices_CoF_int_rights_valid_1 (a0 : (List Int)) : Option R_slices_CoF_int_rights_valid_1 := (S_slices_CoF_int_rights_valid_1 a0).den
set_option maxRecDepth 100000 in
theorem F_slices_CoF_int_rights_valid_1_ok {a0 : (List Int)} (r : R_slices_CoF_int_rights_valid_1) (h : F_slices_CoF_int_rights_valid_1 a0 = some r) : CallOk Tryz.prog 34 [(vl a0), (AV.fn 69 [])] [] (V_slices_CoF_int_rights_valid_1 r) (L_slices_CoF_int_rights_valid_1 r) := fOk (s := S_slices_CoF_int_rights_valid_1 a0) Tryz.func34 rfl (by kernel_rfl) h
/-! 57 -/
abbrev R_rights_valid := Bool
def V_rights_valid (x : R_rights_valid) : AV := (vb x)
def L_rights_valid (_ : R_rights_valid) : List Ob := []
def S_rights_valid_b1 (a0 : TApiPot) (a1 : Int) (iv1 : Nat) (_ : Unit) : Scr Tryz.prog R_rights_valid (Step (Unit) R_rights_valid) :=
.reg 6 [] [] [.pf (nn iv1), .ev 0] <|
.calld [(((([a0.Granted, a0.Heard, a0.Asked, a0.Used] : List (List Int)).getD iv1 default).length : Int) != a1) = false] default (@F_slices_CoF_int_rights_valid_1_ok (([a0.Granted, a0.Heard, a0.Asked, a0.Used] : List (List Int)).getD iv1 default)) fun rv2 cv2 =>
.reg 7 [] [(7, hc cv2 [] true)] [.clg 0 [(((([a0.Granted, a0.Heard, a0.Asked, a0.Used] : List (List Int)).getD iv1 default).length : Int) != a1) = false] cv2 [] 1 true] <|
.ite (bif (((([a0.Granted, a0.Heard, a0.Asked, a0.Used] : List (List Int)).getD iv1 default).length : Int) != a1) then true else rv2) (
.ret [] (.ret false)) (
.ret [] (.cont ()))
def S_rights_valid_b2 (a0 : TApiPot) (iv3 : Nat) (_ : Unit) : Scr Tryz.prog R_rights_valid (Step (Unit) R_rights_valid) :=
.reg 12 [] [] [.pf (nn iv3), .ev 0] <|
.guard [iv3 < a0.Heard.length, AllP [(decide ((a0.Heard.getD iv3 default) > (a0.Granted.getD iv3 default))) = false] → (iv3 < a0.Asked.length)] <|
.reg 13 [] [] [.pf (nn iv3), .ev 0, .pf (p := AllP [(decide ((a0.Heard.getD iv3 default) > (a0.Granted.getD iv3 default))) = false] → ((0 : Int) ≤ (iv3 : Int))) (fun _ => (Int.natCast_nonneg _)), .ev 1] <|
.ite (bif (decide ((a0.Heard.getD iv3 default) > (a0.Granted.getD iv3 default))) then true else (decide ((a0.Asked.getD iv3 default) > (a0.Granted.getD iv3 default)))) (
.ret [] (.ret false)) (
.ret [] (.cont ()))
def S_rights_valid (a0 : TApiPot) (a1 : Int) : Scr Tryz.prog R_rights_valid R_rights_valid :=
.call (@F_rights_place_ok a0.Code a0.Year) fun rv4 cv4 =>
.calld [(!rv4) = false] default (@F_rights_among_ok a0.Total (-1000000000000000) 1000000000000000) fun rv5 cv5 =>
.reg 1 [] [(4, hc cv4 [] true), (9, hc cv5 [] true)] [.cl 2 cv4 [] 1 true, .clg 0 [(!rv4) = false] cv5 [] 1 true] <|
.ite (bif (!rv4) then true else (!rv5)) (
.ret [] false) (
.reg 4 [] [(8, hv (AV.d (eL (eL (DV.i .i64)) ([a0.Granted, a0.Heard, a0.Asked, a0.Used] : List (List Int)))))] [.pf (leV_lit (eL (DV.i .i64)) ([a0.Granted, a0.Heard, a0.Asked, a0.Used] : List (List Int)))] <|
.range 4 4 rfl (.why (.pf (p := 4 < 2 ^ 63) (by decide))) 32 [1, 2, 5, 30, 31] (fun (_ : Unit) => []) (fun (_ : Unit) => []) () (S_rights_valid_b1 a0 a1) (fun (_ : Unit) => 
.range (a0.Granted.length : Int) a0.Granted.length rfl (.slot 47) 49 [2, 47, 48] (fun (_ : Unit) => []) (fun (_ : Unit) => []) () (S_rights_valid_b2 a0) (fun (_ : Unit) => 
.call (@F_rights_sum_ok a0.Granted) fun rv6 cv6 =>
.reg 16 [] [(2, hc cv6 [] true)] [.cl 0 cv6 [] 1 true] <|
.ret [] (decide (rv6 ≤ 1000000000000000))) id) id)
def F_rights_valid (a0 : TApiPot) (a1 : Int) : Option R_rights_valid := (S_rights_valid a0 a1).den
set_option maxRecDepth 100000 in
theorem F_rights_valid_ok {a0 : TApiPot} {a1 : Int} (r : R_rights_valid) (h : F_rights_valid a0 a1 = some r) : CallOk Tryz.prog 57 [(AV.d (TApiPot.e a0)), (vi a1)] [] (V_rights_valid r) (L_rights_valid r) := fOk (s := S_rights_valid a0 a1) Tryz.func57 rfl (by kernel_rfl) h
/-! 88 -/
abbrev R_cmp_isNaN_string := Bool
def V_cmp_isNaN_string (x : R_cmp_isNaN_string) : AV := (vb x)
def L_cmp_isNaN_string (_ : R_cmp_isNaN_string) : List Ob := []
def S_cmp_isNaN_string (a0 : List UInt8) : Scr Tryz.prog R_cmp_isNaN_string R_cmp_isNaN_string :=
.ret [] (!(a0 == a0))
def F_cmp_isNaN_string (a0 : List UInt8) : Option R_cmp_isNaN_string := (S_cmp_isNaN_string a0).den
set_option maxRecDepth 100000 in
theorem F_cmp_isNaN_string_ok {a0 : List UInt8} (r : R_cmp_isNaN_string) (h : F_cmp_isNaN_string a0 = some r) : CallOk Tryz.prog 88 [(AV.d (DV.str a0))] [] (V_cmp_isNaN_string r) (L_cmp_isNaN_string r) := fOk (s := S_cmp_isNaN_string a0) Tryz.func88 rfl (by kernel_rfl) h
/-! 75 -/
abbrev R_cmp_Compare_string := Int
def V_cmp_Compare_string (x : R_cmp_Compare_string) : AV := (vi x)
def L_cmp_Compare_string (_ : R_cmp_Compare_string) : List Ob := []
def S_cmp_Compare_string (a0 : List UInt8) (a1 : List UInt8) : Scr Tryz.prog R_cmp_Compare_string R_cmp_Compare_string :=
.call (@F_cmp_isNaN_string_ok a0) fun rv1 cv1 =>
.reg 1 [] [(1, hc cv1 [] true)] [.cl 0 cv1 [] 0 true] <|
.call (@F_cmp_isNaN_string_ok a1) fun rv2 cv2 =>
.reg 2 [] [(1, hc cv2 [] true)] [.cl 0 cv2 [] 0 true] <|
.ite rv1 (
.ite rv2 (
.ret [] 0) (
.ret [] (-1))) (
.ite rv2 (
.ret [] 1) (
.ite (Op.bytesLess a0 a1) (
.ret [] (-1)) (
.ite (!(Op.bytesLess a0 a1 || a0 == a1)) (
.ret [] 1) (
.ret [] 0))))
def F_cmp_Compare_string (a0 : List UInt8) (a1 : List UInt8) : Option R_cmp_Compare_string := (S_cmp_Compare_string a0 a1).den
set_option maxRecDepth 100000 in
theorem F_cmp_Compare_string_ok {a0 : List UInt8} {a1 : List UInt8} (r : R_cmp_Compare_string) (h : F_cmp_Compare_string a0 a1 = some r) : CallOk Tryz.prog 75 [(AV.d (DV.str a0)), (AV.d (DV.str a1))] [] (V_cmp_Compare_string r) (L_cmp_Compare_string r) := fOk (s := S_cmp_Compare_string a0 a1) Tryz.func75 rfl (by kernel_rfl) h
/-! 77 -/
abbrev R_cmp_isNaN_int := Bool
def V_cmp_isNaN_int (x : R_cmp_isNaN_int) : AV := (vb x)
def L_cmp_isNaN_int (_ : R_cmp_isNaN_int) : List Ob := []
def S_cmp_isNaN_int (a0 : Int) : Scr Tryz.prog R_cmp_isNaN_int R_cmp_isNaN_int :=
.ret [] (a0 != a0)
def F_cmp_isNaN_int (a0 : Int) : Option R_cmp_isNaN_int := (S_cmp_isNaN_int a0).den
set_option maxRecDepth 100000 in
theorem F_cmp_isNaN_int_ok {a0 : Int} (r : R_cmp_isNaN_int) (h : F_cmp_isNaN_int a0 = some r) : CallOk Tryz.prog 77 [(vi a0)] [] (V_cmp_isNaN_int r) (L_cmp_isNaN_int r) := fOk (s := S_cmp_isNaN_int a0) Tryz.func77 rfl (by kernel_rfl) h
/-! 63 -/
abbrev R_cmp_Compare_int := Int
def V_cmp_Compare_int (x : R_cmp_Compare_int) : AV := (vi x)
def L_cmp_Compare_int (_ : R_cmp_Compare_int) : List Ob := []
def S_cmp_Compare_int (a0 : Int) (a1 : Int) : Scr Tryz.prog R_cmp_Compare_int R_cmp_Compare_int :=
.call (@F_cmp_isNaN_int_ok a0) fun rv1 cv1 =>
.reg 1 [] [(1, hc cv1 [] true)] [.cl 0 cv1 [] 0 true] <|
.call (@F_cmp_isNaN_int_ok a1) fun rv2 cv2 =>
.reg 2 [] [(1, hc cv2 [] true)] [.cl 0 cv2 [] 0 true] <|
.ite rv1 (
.ite rv2 (
.ret [] 0) (
.ret [] (-1))) (
.ite rv2 (
.ret [] 1) (
.ite (decide (a0 < a1)) (
.ret [] (-1)) (
.ite (decide (a0 > a1)) (
.ret [] 1) (
.ret [] 0))))
def F_cmp_Compare_int (a0 : Int) (a1 : Int) : Option R_cmp_Compare_int := (S_cmp_Compare_int a0 a1).den
set_option maxRecDepth 100000 in
theorem F_cmp_Compare_int_ok {a0 : Int} {a1 : Int} (r : R_cmp_Compare_int) (h : F_cmp_Compare_int a0 a1 = some r) : CallOk Tryz.prog 63 [(vi a0), (vi a1)] [] (V_cmp_Compare_int r) (L_cmp_Compare_int r) := fOk (s := S_cmp_Compare_int a0 a1) Tryz.func63 rfl (by kernel_rfl) h
/-! 76 -/
abbrev R_slices_Compare_int := Int
def V_slices_Compare_int (x : R_slices_Compare_int) : AV := (vi x)
def L_slices_Compare_int (_ : R_slices_Compare_int) : List Ob := []
def S_slices_Compare_int_b1 (a0 : (List Int)) (a1 : (List Int)) (iv1 : Nat) (_ : Unit) : Scr Tryz.prog R_slices_Compare_int (Step (Unit) R_slices_Compare_int) :=
.reg 3 [] [] [.pf (nn iv1), .ev 0] <|
.ite (decide ((iv1 : Int) ≥ (a1.length : Int))) (
.ret [] (.ret 1)) (
.guard [iv1 < a1.length] <|
.reg 6 [] [] [.pf (nn iv1), .ev 0] <|
.call (@F_cmp_Compare_int_ok (a0.getD iv1 default) (a1.getD iv1 default)) fun rv2 cv2 =>
.reg 7 [] [(2, hc cv2 [] true)] [.cl 0 cv2 [] 0 true] <|
.ite (rv2 != 0) (
.ret [] (.ret rv2)) (
.ret [] (.cont ())))
def S_slices_Compare_int (a0 : (List Int)) (a1 : (List Int)) : Scr Tryz.prog R_slices_Compare_int R_slices_Compare_int :=
.range (a0.length : Int) a0.length rfl (.slot 0) 11 [0, 1, 9, 10] (fun (_ : Unit) => []) (fun (_ : Unit) => []) () (S_slices_Compare_int_b1 a0 a1) (fun (_ : Unit) => 
.ite (decide ((a0.length : Int) < (a1.length : Int))) (
.ret [] (-1)) (
.ret [] 0)) id
def F_slices_Compare_int (a0 : (List Int)) (a1 : (List Int)) : Option R_slices_Compare_int := (S_slices_Compare_int a0 a1).den
set_option maxRecDepth 100000 in
theorem F_slices_Compare_int_ok {a0 : (List Int)} {a1 : (List Int)} (r : R_slices_Compare_int) (h : F_slices_Compare_int a0 a1 = some r) : CallOk Tryz.prog 76 [(vl a0), (vl a1)] [] (V_slices_Compare_int r) (L_slices_Compare_int r) := fOk (s := S_slices_Compare_int a0 a1) Tryz.func76 rfl (by kernel_rfl) h
/-! 62 -/
abbrev R_classification_Compare := Int
def V_classification_Compare (x : R_classification_Compare) : AV := (vi x)
def L_classification_Compare (_ : R_classification_Compare) : List Ob := []
def S_classification_Compare (a0 : List UInt8) (a1 : List UInt8) : Scr Tryz.prog R_classification_Compare R_classification_Compare :=
.call (@F_classification_Parts_ok a0) fun rv1 cv1 =>
.call (@F_classification_Parts_ok a1) fun rv2 cv2 =>
.reg 1 [] [(1, hc cv1 [] true), (3, hc cv2 [] true)] [.cl 1 cv1 [] 0 true, .cl 0 cv2 [] 0 true] <|
.ite (bif ((rv1.length : Int) == 0) then ((rv2.length : Int) == 0) else false) (
.call (@F_cmp_Compare_string_ok a0 a1) fun rv3 cv3 =>
.reg 3 [] [(2, hc cv3 [] true)] [.cl 0 cv3 [] 0 true] <|
.ret [] rv3) (
.call (@F_slices_Compare_int_ok rv1 rv2) fun rv4 cv4 =>
.reg 4 [] [(2, hc cv4 [] true)] [.cl 0 cv4 [] 0 true] <|
.ret [] rv4)
def F_classification_Compare (a0 : List UInt8) (a1 : List UInt8) : Option R_classification_Compare := (S_classification_Compare a0 a1).den
set_option maxRecDepth 100000 in
theorem F_classification_Compare_ok {a0 : List UInt8} {a1 : List UInt8} (r : R_classification_Compare) (h : F_classification_Compare a0 a1 = some r) : CallOk Tryz.prog 62 [(AV.d (DV.str a0)), (AV.d (DV.str a1))] [] (V_classification_Compare r) (L_classification_Compare r) := fOk (s := S_classification_Compare a0 a1) Tryz.func62 rfl (by kernel_rfl) h
/-! 61 -/
abbrev R_cmp_Or_int := Int
def V_cmp_Or_int (x : R_cmp_Or_int) : AV := (vi x)
def L_cmp_Or_int (_ : R_cmp_Or_int) : List Ob := []
def S_cmp_Or_int_b1 (a0 : (List Int)) (iv1 : Nat) (_ : Unit) : Scr Tryz.prog R_cmp_Or_int (Step (Unit) R_cmp_Or_int) :=
.reg 4 [] [] [.pf (nn iv1), .ev 0] <|
.ite ((a0.getD iv1 default) != 0) (
.ret [] (.ret (a0.getD iv1 default))) (
.ret [] (.cont ()))
def S_cmp_Or_int (a0 : (List Int)) : Scr Tryz.prog R_cmp_Or_int R_cmp_Or_int :=
.range (a0.length : Int) a0.length rfl (.slot 6) 8 [3, 6, 7] (fun (_ : Unit) => []) (fun (_ : Unit) => []) () (S_cmp_Or_int_b1 a0) (fun (_ : Unit) => 
.ret [] 0) id
def F_cmp_Or_int (a0 : (List Int)) : Option R_cmp_Or_int := (S_cmp_Or_int a0).den
set_option maxRecDepth 100000 in
theorem F_cmp_Or_int_ok {a0 : (List Int)} (r : R_cmp_Or_int) (h : F_cmp_Or_int a0 = some r) : CallOk Tryz.prog 61 [(vl a0)] [] (V_cmp_Or_int r) (L_cmp_Or_int r) := fOk (s := S_cmp_Or_int a0) Tryz.func61 rfl (by kernel_rfl) h
/-! 51 -/
abbrev R_rights_compare := Int
def V_rights_compare (x : R_rights_compare) : AV := (vi x)
def L_rights_compare (_ : R_rights_compare) : List Ob := []
def S_rights_compare (a0 : TApiPot) (a1 : TApiPot) : Scr Tryz.prog R_rights_compare R_rights_compare :=
.call (@F_classification_Compare_ok a0.Code a1.Code) fun rv1 cv1 =>
.call (@F_cmp_Compare_int_ok a0.Year a1.Year) fun rv2 cv2 =>
.call (@F_cmp_Or_int_ok ([rv1, rv2] : List Int)) fun rv3 cv3 =>
.reg 1 [] [(4, hc cv1 [] true), (9, hc cv2 [] true), (10, hv (vl ([rv1, rv2] : List Int))), (11, hc cv3 [] true)] [.cl 2 cv1 [] 2 true, .cl 1 cv2 [] 2 true, .pf (leV_lit (DV.i .i64) ([rv1, rv2] : List Int)), .cl 0 cv3 [] 2 true] <|
.ret [] rv3
def F_rights_compare (a0 : TApiPot) (a1 : TApiPot) : Option R_rights_compare := (S_rights_compare a0 a1).den
set_option maxRecDepth 100000 in
theorem F_rights_compare_ok {a0 : TApiPot} {a1 : TApiPot} (r : R_rights_compare) (h : F_rights_compare a0 a1 = some r) : CallOk Tryz.prog 51 [(AV.d (TApiPot.e a0)), (AV.d (TApiPot.e a1))] [] (V_rights_compare r) (L_rights_compare r) := fOk (s := S_rights_compare a0 a1) Tryz.func51 rfl (by kernel_rfl) h
end
end Go.Proofs.YtfiljdbmhegjgaaGreatDoor
/- What the functions compute, and that their calls return it. No condition. -/
namespace Go.Proofs.YtfiljdbmhegjgaaGreatDoor
open Go Go.TA
noncomputable section
/-! 40 -/
abbrev R_rights_Valid := Bool
def V_rights_Valid (x : R_rights_Valid) : AV := (vb x)
def L_rights_Valid (_ : R_rights_Valid) : List Ob := []
def S_rights_Valid_b1 (a0 : TApiTreasury) (iv1 : Nat) (_ : Unit) : Scr Tryz.prog R_rights_Valid (Step (Unit) R_rights_Valid) :=
.reg 5 [] [(3, { obs := [(1, (bx (TApiPot.e (⟨[], 0, 0, [], [], [], []⟩ : TApiPot))))] })] [.pf (nn iv1), .ev 0, .pf cz2] <|
.call (@F_rights_valid_ok (a0.Pots.getD iv1 default) a0.Offices) fun rv2 cv2 =>
.calld [(decide ((iv1 : Int) > 0)) = true, (!rv2) = false] default (@F_rights_compare_ok (a0.Pots.getD (((IntKind.i64.wrap ((iv1 : Int) - 1))).toNat) default) (a0.Pots.getD iv1 default)) fun rv3 cv3 =>
.guard [AllP [(decide ((iv1 : Int) > 0)) = true, (!rv2) = false] → ((0 : Int) ≤ (IntKind.i64.wrap ((iv1 : Int) - 1))), AllP [(decide ((iv1 : Int) > 0)) = true, (!rv2) = false] → (((IntKind.i64.wrap ((iv1 : Int) - 1))).toNat < a0.Pots.length)] <|
.reg 6 [] [(3, hc cv2 [] true), (16, hc cv3 [] true)] [.cl 4 cv2 [] 2 true, .ev 0, .ev 1, .clg 2 [(decide ((iv1 : Int) > 0)) = true, (!rv2) = false] cv3 [] 2 true] <|
.ite (bif (!rv2) then true else (bif (decide ((iv1 : Int) > 0)) then (decide (rv3 ≥ 0)) else false)) (
.ret [] (.ret false)) (
.ret [] (.cont ()))
def S_rights_Valid (a0 : TApiTreasury) : Scr Tryz.prog R_rights_Valid R_rights_Valid :=
.call (@F_rights_among_ok a0.Offices 1 6) fun rv4 cv4 =>
.reg 1 [] [(2, hc cv4 [] true)] [.cl 0 cv4 [] 1 true] <|
.ite (bif (!rv4) then true else (decide ((a0.Pots.length : Int) > 60))) (
.ret [] false) (
.range (a0.Pots.length : Int) a0.Pots.length rfl (.slot 16) 18 [1, 16, 17] (fun (_ : Unit) => []) (fun (_ : Unit) => []) () (S_rights_Valid_b1 a0) (fun (_ : Unit) => 
.ret [] true) id)
def F_rights_Valid (a0 : TApiTreasury) : Option R_rights_Valid := (S_rights_Valid a0).den
set_option maxRecDepth 100000 in
theorem F_rights_Valid_ok {a0 : TApiTreasury} (r : R_rights_Valid) (h : F_rights_Valid a0 = some r) : CallOk Tryz.prog 40 [(AV.d (TApiTreasury.e a0))] [] (V_rights_Valid r) (L_rights_Valid r) := fOk (s := S_rights_Valid a0) Tryz.func40 rfl (by kernel_rfl) h
/-! 66 -/
abbrev R_slices_Clone_int := (List Int)
def V_slices_Clone_int (x : R_slices_Clone_int) : AV := (vl x)
def L_slices_Clone_int (_ : R_slices_Clone_int) : List Ob := []
def S_slices_Clone_int (a0 : (List Int)) : Scr Tryz.prog R_slices_Clone_int R_slices_Clone_int :=
.reg 0 [] [] [] <|
.nils 0 (
.guard [(0 + a0.length) * (2 * 8) ≤ 2 ^ 48] <|
.reg 1 [] [] [] <|
.lev 0 (vl a0) (.pf (lvQ true a0.length fun j => (DV.i .i64 (a0.getD j default)))) <|
.br true (.pf (p := true = true) rfl) <|
.reg 2 [] [] [] <|
.lev 2 (vl a0) (.der (fun (h : a0.length = 0) => lvZ (DV.i .i64) a0 h) 1) <|
.ret [] a0) (
.reg 1 [] [] [] <|
.lev 0 (vl a0) (.pf (lvQ false a0.length fun j => (DV.i .i64 (a0.getD j default)))) <|
.br false (.pf (p := false = false) rfl) <|
.guard [(0 + a0.length) * (2 * 8) ≤ 2 ^ 48] <|
.reg 3 [] [(2, hv (vl a0))] [.pf (p := ∀ k, k < a0.length → AV.d ((DV.i .i64) (a0.getD k default)) = AV.d ((DV.i .i64) (a0.getD k default)) ∧ ((DV.i .i64) (a0.getD k default)).wd = 1) (fun _ _ => ⟨rfl, rfl⟩), .pf cz3, .ev 0, .pf (leV_app0 (e := (DV.i .i64)) (x := a0))] <|
.ret [] a0)
def F_slices_Clone_int (a0 : (List Int)) : Option R_slices_Clone_int := (S_slices_Clone_int a0).den
set_option maxRecDepth 100000 in
theorem F_slices_Clone_int_ok {a0 : (List Int)} (r : R_slices_Clone_int) (h : F_slices_Clone_int a0 = some r) : CallOk Tryz.prog 66 [(vl a0)] [] (V_slices_Clone_int r) (L_slices_Clone_int r) := fOk (s := S_slices_Clone_int a0) Tryz.func66 rfl (by kernel_rfl) h
/-! 53 -/
abbrev R_rights_copied := TApiPot
def V_rights_copied (x : R_rights_copied) : AV := (AV.d (TApiPot.e x))
def L_rights_copied (_ : R_rights_copied) : List Ob := []
def S_rights_copied (a0 : TApiPot) : Scr Tryz.prog R_rights_copied R_rights_copied :=
.reg 0 [] [(1, { obs := [(1, (bx (TApiPot.e (⟨[], 0, 0, [], [], [], []⟩ : TApiPot))))] })] [.pf cz2] <|
.call (@F_slices_Clone_int_ok a0.Granted) fun rv1 cv1 =>
.call (@F_slices_Clone_int_ok a0.Heard) fun rv2 cv2 =>
.call (@F_slices_Clone_int_ok a0.Asked) fun rv3 cv3 =>
.call (@F_slices_Clone_int_ok a0.Used) fun rv4 cv4 =>
.reg 1 [13, 15, 17, 19] [(2, hc cv1 [] true), (5, hc cv2 [] true), (8, hc cv3 [] true), (11, hc cv4 [] true)] [.cl 3 cv1 [] 2 true, .cl 2 cv2 [] 2 true, .cl 1 cv3 [] 2 true, .cl 0 cv4 [] 2 true] <|
.ret [] (⟨a0.Code, a0.Year, a0.Total, rv1, rv2, rv3, rv4⟩ : TApiPot)
def F_rights_copied (a0 : TApiPot) : Option R_rights_copied := (S_rights_copied a0).den
set_option maxRecDepth 100000 in
theorem F_rights_copied_ok {a0 : TApiPot} (r : R_rights_copied) (h : F_rights_copied a0 = some r) : CallOk Tryz.prog 53 [(AV.d (TApiPot.e a0))] [] (V_rights_copied r) (L_rights_copied r) := fOk (s := S_rights_copied a0) Tryz.func53 rfl (by kernel_rfl) h
/-! 49 -/
abbrev R_rights_fresh_rw := Int × (List TApiPot)
def V_rights_fresh_rw (x : R_rights_fresh_rw) : AV := (AV.agg [(vi x.1), (AV.ref 2 x.2.length 0 x.2.length)])
def L_rights_fresh_rw (x : R_rights_fresh_rw) : List Ob := [Ob.dead, (Ob.box (AV.agg [(vi x.1), (AV.ref 2 x.2.length 0 x.2.length)])), (eS 7 TApiPot.e x.2)]
def S_rights_fresh_rw_b1 (a0 : TApiTreasury) (iv1 : Nat) (sv2 : Int × (List TApiPot)) : Scr Tryz.prog R_rights_fresh_rw (Step (Int × (List TApiPot)) R_rights_fresh_rw) :=
.reg 5 [] [(2, { obs := [(3, (bx (TApiPot.e (⟨[], 0, 0, [], [], [], []⟩ : TApiPot))))] })] [.pf (nn iv1), .ev 0, .pf cz2] <|
.call (@F_rights_copied_ok (a0.Pots.getD iv1 default)) fun rv3 cv3 =>
.guard [(sv2.2.length + 1) * (2 * 128) ≤ 2 ^ 48] <|
.reg 6 [5, 7] [(3, hc cv3 [] true), (4, hv (AV.d (eL TApiPot.e ([rv3] : List TApiPot)))), (5, { h := .obj, cast := some (AV.ref 2 ((sv2.2 ++ ([rv3] : List TApiPot)).length) 0 ((sv2.2 ++ ([rv3] : List TApiPot)).length)), obs := [(2, (eS 7 TApiPot.e (sv2.2 ++ ([rv3] : List TApiPot))))] })] [.cl 1 cv3 [] 4 true, .pf (leV_lit TApiPot.e ([rv3] : List TApiPot)), .pf (Eq.refl sv2.2.length), .pf (Eq.refl sv2.2.length), .pf (p := ∀ k, k < 1 → (AV.d (TApiPot.e (([rv3] : List TApiPot).getD k default))).wd = 7) (fun _ _ => rfl), .ev 0, .pf (leV_app (o := 2) (l := sv2.2) (x := ([rv3] : List TApiPot))), .pf (oLe_app (sz := 7) (e := TApiPot.e) (l := sv2.2) (x := ([rv3] : List TApiPot)))] <|
.ret [] (.cont (sv2.1, (sv2.2 ++ ([rv3] : List TApiPot))))
def S_rights_fresh_rw (a0 : TApiTreasury) : Scr Tryz.prog R_rights_fresh_rw R_rights_fresh_rw :=
.reg 0 [] [(1, { obs := [(1, (bx (TApiTreasury.e (⟨0, []⟩ : TApiTreasury))))] })] [.pf cz4] <|
.reg 2 [] [] [] <|
.sh (A := True) (.pf trivial) [(1, (vp 0)), (2, (vp 1)), (3, (AV.d (eL TApiPot.e a0.Pots)))] [(1, (vp 0)), (2, (vp 1)), (3, (AV.d (eL TApiPot.e a0.Pots)))] [(Ob.box (AV.agg [(vi a0.Offices), (AV.full 0 fun _ => DV.b false)])), (bx (TApiTreasury.e (⟨0, []⟩ : TApiTreasury)))] [(Ob.box (AV.agg [(vi a0.Offices), (AV.ref 2 0 0 0)])), (bx (TApiTreasury.e (⟨0, []⟩ : TApiTreasury))), (eS 7 TApiPot.e ([] : List TApiPot))] (fun _ => (shift_born (sz := 7) (f := fun j => AV.d (TApiPot.e (([] : List TApiPot).getD j default))) (.box _ _ _ _ _ (Nat.ne_of_beq_eq_false rfl) (TrV.agg (TrL.cons (TrV.keep _) (TrL.cons TrV.born TrL.nil))) (.keep _ _ _ _ (Nat.ne_of_beq_eq_false rfl) (.nil _))))) (trF_at (k := 0) rfl (TrS.keep _) (trF_at (k := 1) rfl (TrS.keep _) (trF_at (k := 2) rfl (TrS.keep _) trF_nil))) <|
.range (a0.Pots.length : Int) a0.Pots.length rfl (.slot 9) 11 [1, 2, 9, 10] (fun (_ : Int × (List TApiPot)) => []) (fun (sv2 : Int × (List TApiPot)) => [(0, (Ob.box (AV.agg [(vi sv2.1), (AV.ref 2 sv2.2.length 0 sv2.2.length)]))), (2, (eS 7 TApiPot.e sv2.2))]) (a0.Offices, ([] : List TApiPot)) (S_rights_fresh_rw_b1 a0) (fun (sv2 : Int × (List TApiPot)) => 
.reg 8 [] [] [] <|
.kill 0 <|
.ret [] (sv2.1, sv2.2)) id
def F_rights_fresh_rw (a0 : TApiTreasury) : Option R_rights_fresh_rw := (S_rights_fresh_rw a0).den
set_option maxRecDepth 100000 in
theorem F_rights_fresh_rw_ok {a0 : TApiTreasury} (r : R_rights_fresh_rw) (h : F_rights_fresh_rw a0 = some r) : CallOk Tryz.prog 49 [(AV.d (TApiTreasury.e a0))] [] (V_rights_fresh_rw r) (L_rights_fresh_rw r) := fOk (s := S_rights_fresh_rw a0) Tryz.func49 rfl (by kernel_rfl) h
/-! 50 -/
abbrev R_slices_BSF_Pot_rights_compare := Int × Bool
def V_slices_BSF_Pot_rights_compare (x : R_slices_BSF_Pot_rights_compare) : AV := (AV.tup [(vi x.1), (vb x.2)])
def L_slices_BSF_Pot_rights_compare (p0 : (List TApiPot)) (_ : R_slices_BSF_Pot_rights_compare) : List Ob := [(eS 7 TApiPot.e p0)]
def S_slices_BSF_Pot_rights_compare_b1 (a1 : TApiPot) (p0 : (List TApiPot)) (sv1 : Int × Int) : Scr Tryz.prog R_slices_BSF_Pot_rights_compare (Step (Int × Int) R_slices_BSF_Pot_rights_compare) :=
.ite (decide (sv1.1 < sv1.2)) (
.reg 4 [] [] [.pf (p := (0 : Int) ≤ 1) (by decide)] <|
.call (@F_rights_compare_ok (p0.getD (0 + ((IntKind.i64.wrap ((IntKind.u64.wrap (IntKind.i64.wrap (sv1.1 + sv1.2))).fdiv (2 ^ (min (1 : Int).toNat IntKind.u64.bits))))).toNat) default) a1) fun rv2 cv2 =>
.guard [(0 : Int) ≤ (IntKind.i64.wrap ((IntKind.u64.wrap (IntKind.i64.wrap (sv1.1 + sv1.2))).fdiv (2 ^ (min (1 : Int).toNat IntKind.u64.bits)))), ((IntKind.i64.wrap ((IntKind.u64.wrap (IntKind.i64.wrap (sv1.1 + sv1.2))).fdiv (2 ^ (min (1 : Int).toNat IntKind.u64.bits))))).toNat < p0.length, (0 + ((IntKind.i64.wrap ((IntKind.u64.wrap (IntKind.i64.wrap (sv1.1 + sv1.2))).fdiv (2 ^ (min (1 : Int).toNat IntKind.u64.bits))))).toNat) < p0.length] <|
.reg 5 [] [(6, hc cv2 [] true)] [.pf (Eq.refl p0.length), .ev 0, .ev 1, .pf (Eq.refl p0.length), .ev 2, .cl 3 cv2 [] 2 true] <|
.ite (decide (rv2 < 0)) (
.ret [] (.cont ((IntKind.i64.wrap ((IntKind.i64.wrap ((IntKind.u64.wrap (IntKind.i64.wrap (sv1.1 + sv1.2))).fdiv (2 ^ (min (1 : Int).toNat IntKind.u64.bits)))) + 1)), sv1.2))) (
.ret [] (.cont (sv1.1, (IntKind.i64.wrap ((IntKind.u64.wrap (IntKind.i64.wrap (sv1.1 + sv1.2))).fdiv (2 ^ (min (1 : Int).toNat IntKind.u64.bits)))))))) (
.ret [] (.brk (sv1.1, sv1.2)))
def S_slices_BSF_Pot_rights_compare (a1 : TApiPot) (p0 : (List TApiPot)) : Scr Tryz.prog R_slices_BSF_Pot_rights_compare R_slices_BSF_Pot_rights_compare :=
.iter [0, 2, 4, 8] (fun (sv1 : Int × Int) => [(9, (vi sv1.1)), (10, (vi sv1.2))]) (fun (_ : Int × Int) => []) (0, (p0.length : Int)) (S_slices_BSF_Pot_rights_compare_b1 a1 p0) (fun (sv1 : Int × Int) =>
.calld [(decide (sv1.1 < (p0.length : Int))) = true] default (@F_rights_compare_ok (p0.getD (0 + (sv1.1).toNat) default) a1) fun rv3 cv3 =>
.guard [AllP [(decide (sv1.1 < (p0.length : Int))) = true] → ((0 : Int) ≤ sv1.1), AllP [(decide (sv1.1 < (p0.length : Int))) = true] → ((sv1.1).toNat < p0.length), AllP [(decide (sv1.1 < (p0.length : Int))) = true] → ((0 + (sv1.1).toNat) < p0.length)] <|
.reg 8 [] [(11, hc cv3 [] true)] [.pf (p := AllP [(decide (sv1.1 < (p0.length : Int))) = true] → (p0.length = p0.length)) (fun _ => rfl), .ev 0, .ev 1, .pf (p := AllP [(decide (sv1.1 < (p0.length : Int))) = true] → (p0.length = p0.length)) (fun _ => rfl), .ev 2, .clg 3 [(decide (sv1.1 < (p0.length : Int))) = true] cv3 [] 2 true] <|
.ret [] (sv1.1, (bif (decide (sv1.1 < (p0.length : Int))) then (rv3 == 0) else false))) id
def F_slices_BSF_Pot_rights_compare (a1 : TApiPot) (p0 : (List TApiPot)) : Option R_slices_BSF_Pot_rights_compare := (S_slices_BSF_Pot_rights_compare a1 p0).den
set_option maxRecDepth 100000 in
theorem F_slices_BSF_Pot_rights_compare_ok {a1 : TApiPot} {p0 : (List TApiPot)} (r : R_slices_BSF_Pot_rights_compare) (h : F_slices_BSF_Pot_rights_compare a1 p0 = some r) : CallOk Tryz.prog 50 [(AV.ref 0 p0.length 0 p0.length), (AV.d (TApiPot.e a1)), (AV.fn 51 [])] [(eS 7 TApiPot.e p0)] (V_slices_BSF_Pot_rights_compare r) (L_slices_BSF_Pot_rights_compare p0 r) := fOk (s := S_slices_BSF_Pot_rights_compare a1 p0) Tryz.func50 rfl (by kernel_rfl) h
/-! 52 -/
abbrev R_slices_Insert_Pot := List TApiPot
def V_slices_Insert_Pot (x : R_slices_Insert_Pot) : AV := .ref 0 x.length 0 x.length
def L_slices_Insert_Pot (p1 : List TApiPot) (x : R_slices_Insert_Pot) : List Ob := [eS 7 TApiPot.e x, eS 7 TApiPot.e p1]
def F_slices_Insert_Pot (a1 : Int) (p0 p1 : List TApiPot) : Option R_slices_Insert_Pot := match p1 with
  | [y] => guardP (0 ≤ a1 ∧ a1.toNat ≤ p0.length ∧ (p0.length + 1) * (4 * 128) ≤ 2 ^ 48) (some (insL p0 a1.toNat y))
  | _ => none
theorem F_slices_Insert_Pot_ok {a1 : Int} {p0 p1 : List TApiPot} (r : R_slices_Insert_Pot) (h : F_slices_Insert_Pot a1 p0 p1 = some r) : CallOk Tryz.prog 52 [(AV.ref 0 p0.length 0 p0.length), (AV.d (.i .i64 a1)), (AV.ref 1 p1.length 0 p1.length)] [(eS 7 TApiPot.e p0), (eS 7 TApiPot.e p1)] (V_slices_Insert_Pot r) (L_slices_Insert_Pot p1 r) := by
  unfold F_slices_Insert_Pot at h
  split at h
  · rename_i y
    obtain ⟨⟨h1, h2, h3⟩, h⟩ := guardP_some h
    obtain rfl := Option.some.inj h
    obtain ⟨i, rfl⟩ : ∃ i : Nat, a1 = (i : Int) := ⟨a1.toNat, (Int.toNat_of_nonneg h1).symm⟩
    exact Ins52.ins_ok (fun _ => rfl) h2 h3
  · cases h
/-! 36 -/
abbrev R_rights_Set := TApiTreasury × Int
def V_rights_Set (x : R_rights_Set) : AV := (AV.tup [(AV.d (TApiTreasury.e x.1)), (vi x.2)])
def L_rights_Set (_ : R_rights_Set) : List Ob := []
def S_rights_Set (a0 : TApiTreasury) (a1 : List UInt8) (a2 : Int) (a3 : Int) : Scr Tryz.prog R_rights_Set R_rights_Set :=
.reg 0 [] [(1, { obs := [(1, (bx (TApiTreasury.e (⟨0, []⟩ : TApiTreasury))))] })] [.pf cz4] <|
.call (@F_rights_Valid_ok a0) fun rv1 cv1 =>
.reg 1 [] [(1, hc cv1 [] true)] [.cl 0 cv1 [] 2 true] <|
.ite (!rv1) (
.reg 2 [] [(0, hv (AV.d (TApiTreasury.e (⟨0, []⟩ : TApiTreasury))))] [.pf cz5] <|
.ret [] ((⟨0, []⟩ : TApiTreasury), 1)) (
.call (@F_classification_Parts_ok a1) fun rv2 cv2 =>
.reg 3 [] [(1, hc cv2 [] true)] [.cl 0 cv2 [] 2 true] <|
.ite ((rv2.length : Int) == 0) (
.reg 4 [] [(0, hv (AV.d (TApiTreasury.e (⟨0, []⟩ : TApiTreasury))))] [.pf cz5] <|
.ret [] ((⟨0, []⟩ : TApiTreasury), 5)) (
.call (@F_rights_place_ok a1 a2) fun rv3 cv3 =>
.calld [(!rv3) = false] default (@F_rights_among_ok a3 (-1000000000000000) 1000000000000000) fun rv4 cv4 =>
.reg 5 [] [(2, hc cv3 [] true), (6, hc cv4 [] true)] [.cl 2 cv3 [] 2 true, .clg 0 [(!rv3) = false] cv4 [] 2 true] <|
.ite (bif (!rv3) then true else (!rv4)) (
.reg 6 [] [(0, hv (AV.d (TApiTreasury.e (⟨0, []⟩ : TApiTreasury))))] [.pf cz5] <|
.ret [] ((⟨0, []⟩ : TApiTreasury), 2)) (
.call (@F_rights_fresh_rw_ok a0) fun rv5 cv5 =>
.reg 7 [] [(1, hc cv5 [] false)] [.cl 0 cv5 [] 2 false] <|
.kill 3 <|
.reg 8 [] [(2, hv (AV.d (TApiPot.e (⟨a1, a2, 0, [], [], [], []⟩ : TApiPot)))), (3, { obs := [(5, (bx (TApiPot.e (⟨[], 0, 0, [], [], [], []⟩ : TApiPot))))] })] [.pf (p := LeV (AV.d (DV.agg [(DV.str a1), (DV.i .i64 a2), (DV.i .i64 0), Z0, Z0, Z0, Z0])) (AV.d (TApiPot.e (⟨a1, a2, 0, [], [], [], []⟩ : TApiPot)))) (leV_dle rfl (DLe.agg (DLeL.cons (DLe.refl _) (DLeL.cons (DLe.refl _) (DLeL.cons (DLe.refl _) (DLeL.cons DLe.sl0 (DLeL.cons DLe.sl0 (DLeL.cons DLe.sl0 (DLeL.cons DLe.sl0 DLeL.nil))))))))), .pf cz2] <|
.call (@F_slices_BSF_Pot_rights_compare_ok (⟨a1, a2, 0, [], [], [], []⟩ : TApiPot) rv5.2) fun rv6 cv6 =>
.reg 9 [] [(3, hc cv6 [4] true)] [.cl 0 cv6 [4] 6 true] <|
.cut none [3, 4, 8, 11] (fun (_ : Int × (List TApiPot) × TApiPot) => []) (fun (sv7 : Int × (List TApiPot) × TApiPot) => [(0, (Ob.box (AV.agg [(vi sv7.1), (AV.ref 4 sv7.2.1.length 0 sv7.2.1.length)]))), (4, (eS 7 TApiPot.e sv7.2.1)), (5, (bx (TApiPot.e sv7.2.2)))]) (
.ite (!rv6.2) (
.ite ((rv5.2.length : Int) == 60) (
.reg 12 [] [(0, hv (AV.d (TApiTreasury.e (⟨0, []⟩ : TApiTreasury))))] [.pf cz5] <|
.ret [] (.ret ((⟨0, []⟩ : TApiTreasury), 3))) (
.guard [(0 : Int) ≤ rv5.1, rv5.1 * 8 ≤ 2 ^ 47] <|
.reg 13 [] [(2, { cast := some (AV.ref 6 ((List.replicate rv5.1.toNat (0 : Int)).length) 0 ((List.replicate rv5.1.toNat (0 : Int)).length)), obs := [(6, (eS 1 (DV.i .i64) (List.replicate rv5.1.toNat (0 : Int))))] })] [.ev 0, .pf (p := rv5.1 ≤ rv5.1) (Int.le_refl _), .ev 1, .pf (leV_rep (o := 6) (k := rv5.1.toNat) (z := (0 : Int))), .pf (oLe_rep (sz := 1) (k := rv5.1.toNat) (e := (DV.i .i64)) (z := (0 : Int)))] <|
.guard [(List.replicate rv5.1.toNat (0 : Int)).length < 2 ^ 63] <|
.frz 6 (.ev 0) none [13] [] <|
.call (@F_rights_copied_ok (⟨(⟨a1, a2, 0, [], [], [], []⟩ : TApiPot).Code, (⟨a1, a2, 0, [], [], [], []⟩ : TApiPot).Year, (⟨a1, a2, 0, [], [], [], []⟩ : TApiPot).Total, (List.replicate rv5.1.toNat (0 : Int)), (List.replicate rv5.1.toNat (0 : Int)), (List.replicate rv5.1.toNat (0 : Int)), (List.replicate rv5.1.toNat (0 : Int))⟩ : TApiPot)) fun rv8 cv8 =>
.call (@F_slices_Insert_Pot_ok rv6.1 rv5.2 ([rv8] : List TApiPot)) fun rv9 cv9 =>
.reg 15 [5, 6, 8] [(4, hc cv8 [] true), (5, { h := .obj, obs := [(7, (eS 7 TApiPot.e ([rv8] : List TApiPot)))] }), (6, hc cv9 [4, 7] false)] [.cl 1 cv8 [] 7 true, .pf (oLe_lit (sz := 7) (e := TApiPot.e) (l := ([rv8] : List TApiPot))), .cl 0 cv9 [4, 7] 8 false] <|
.ret [] (.next (rv5.1, rv9, (⟨(⟨a1, a2, 0, [], [], [], []⟩ : TApiPot).Code, (⟨a1, a2, 0, [], [], [], []⟩ : TApiPot).Year, (⟨a1, a2, 0, [], [], [], []⟩ : TApiPot).Total, (List.replicate rv5.1.toNat (0 : Int)), (List.replicate rv5.1.toNat (0 : Int)), (List.replicate rv5.1.toNat (0 : Int)), (List.replicate rv5.1.toNat (0 : Int))⟩ : TApiPot))))) (
.ret [] (.next (rv5.1, rv5.2, (⟨a1, a2, 0, [], [], [], []⟩ : TApiPot))))) fun (sv7 : Int × (List TApiPot) × TApiPot) =>
.guard [(0 : Int) ≤ rv6.1, (rv6.1).toNat < sv7.2.1.length, (0 + (rv6.1).toNat) < sv7.2.1.length] <|
.reg 16 [] [(6, { obs := [(4, (eS 7 TApiPot.e (sv7.2.1.set (0 + (rv6.1).toNat) (⟨(sv7.2.1.getD (0 + (rv6.1).toNat) default).Code, (sv7.2.1.getD (0 + (rv6.1).toNat) default).Year, a3, (sv7.2.1.getD (0 + (rv6.1).toNat) default).Granted, (sv7.2.1.getD (0 + (rv6.1).toNat) default).Heard, (sv7.2.1.getD (0 + (rv6.1).toNat) default).Asked, (sv7.2.1.getD (0 + (rv6.1).toNat) default).Used⟩ : TApiPot))))] })] [.pf (Eq.refl sv7.2.1.length), .ev 0, .ev 1, .pf (Eq.refl sv7.2.1.length), .pf (Eq.refl sv7.2.1.length), .ev 2, .pf (oLe_set (sz := 7) (e := TApiPot.e) (l := sv7.2.1) (i := (0 + (rv6.1).toNat)) (x := (⟨(sv7.2.1.getD (0 + (rv6.1).toNat) default).Code, (sv7.2.1.getD (0 + (rv6.1).toNat) default).Year, a3, (sv7.2.1.getD (0 + (rv6.1).toNat) default).Granted, (sv7.2.1.getD (0 + (rv6.1).toNat) default).Heard, (sv7.2.1.getD (0 + (rv6.1).toNat) default).Asked, (sv7.2.1.getD (0 + (rv6.1).toNat) default).Used⟩ : TApiPot)) (fun _ => rfl))] <|
.cst (A := True) (.pf trivial) [(4, (vp 0)), (8, (vp 1))] [(4, (vp 0)), (8, (vp 1))] [(Ob.box (AV.agg [(vi sv7.1), (AV.ref 4 sv7.2.1.length 0 sv7.2.1.length)])), (bx (TApiTreasury.e (⟨0, []⟩ : TApiTreasury))), Ob.dead, Ob.dead, (eS 7 TApiPot.e (sv7.2.1.set (0 + (rv6.1).toNat) (⟨(sv7.2.1.getD (0 + (rv6.1).toNat) default).Code, (sv7.2.1.getD (0 + (rv6.1).toNat) default).Year, a3, (sv7.2.1.getD (0 + (rv6.1).toNat) default).Granted, (sv7.2.1.getD (0 + (rv6.1).toNat) default).Heard, (sv7.2.1.getD (0 + (rv6.1).toNat) default).Asked, (sv7.2.1.getD (0 + (rv6.1).toNat) default).Used⟩ : TApiPot))), (bx (TApiPot.e sv7.2.2))] [(Ob.box (AV.agg [(vi sv7.1), (AV.ref 4 ((sv7.2.1.set (0 + (rv6.1).toNat) (⟨(sv7.2.1.getD (0 + (rv6.1).toNat) default).Code, (sv7.2.1.getD (0 + (rv6.1).toNat) default).Year, a3, (sv7.2.1.getD (0 + (rv6.1).toNat) default).Granted, (sv7.2.1.getD (0 + (rv6.1).toNat) default).Heard, (sv7.2.1.getD (0 + (rv6.1).toNat) default).Asked, (sv7.2.1.getD (0 + (rv6.1).toNat) default).Used⟩ : TApiPot)).length) 0 ((sv7.2.1.set (0 + (rv6.1).toNat) (⟨(sv7.2.1.getD (0 + (rv6.1).toNat) default).Code, (sv7.2.1.getD (0 + (rv6.1).toNat) default).Year, a3, (sv7.2.1.getD (0 + (rv6.1).toNat) default).Granted, (sv7.2.1.getD (0 + (rv6.1).toNat) default).Heard, (sv7.2.1.getD (0 + (rv6.1).toNat) default).Asked, (sv7.2.1.getD (0 + (rv6.1).toNat) default).Used⟩ : TApiPot)).length))])), (bx (TApiTreasury.e (⟨0, []⟩ : TApiTreasury))), Ob.dead, Ob.dead, (eS 7 TApiPot.e (sv7.2.1.set (0 + (rv6.1).toNat) (⟨(sv7.2.1.getD (0 + (rv6.1).toNat) default).Code, (sv7.2.1.getD (0 + (rv6.1).toNat) default).Year, a3, (sv7.2.1.getD (0 + (rv6.1).toNat) default).Granted, (sv7.2.1.getD (0 + (rv6.1).toNat) default).Heard, (sv7.2.1.getD (0 + (rv6.1).toNat) default).Asked, (sv7.2.1.getD (0 + (rv6.1).toNat) default).Used⟩ : TApiPot))), (bx (TApiPot.e sv7.2.2))] (fun _ => ⟨by simp only, by simp only [List.length_set]⟩) <|
.guard [(sv7.2.1.set (0 + (rv6.1).toNat) (⟨(sv7.2.1.getD (0 + (rv6.1).toNat) default).Code, (sv7.2.1.getD (0 + (rv6.1).toNat) default).Year, a3, (sv7.2.1.getD (0 + (rv6.1).toNat) default).Granted, (sv7.2.1.getD (0 + (rv6.1).toNat) default).Heard, (sv7.2.1.getD (0 + (rv6.1).toNat) default).Asked, (sv7.2.1.getD (0 + (rv6.1).toNat) default).Used⟩ : TApiPot)).length < 2 ^ 63] <|
.reg 17 [] [] [] <|
.frz 4 (.ev 0) none [] [0, 1] <|
.ret [] ((⟨sv7.1, (sv7.2.1.set (0 + (rv6.1).toNat) (⟨(sv7.2.1.getD (0 + (rv6.1).toNat) default).Code, (sv7.2.1.getD (0 + (rv6.1).toNat) default).Year, a3, (sv7.2.1.getD (0 + (rv6.1).toNat) default).Granted, (sv7.2.1.getD (0 + (rv6.1).toNat) default).Heard, (sv7.2.1.getD (0 + (rv6.1).toNat) default).Asked, (sv7.2.1.getD (0 + (rv6.1).toNat) default).Used⟩ : TApiPot))⟩ : TApiTreasury), 0))))
def F_rights_Set (a0 : TApiTreasury) (a1 : List UInt8) (a2 : Int) (a3 : Int) : Option R_rights_Set := (S_rights_Set a0 a1 a2 a3).den
set_option maxRecDepth 100000 in
theorem F_rights_Set_ok {a0 : TApiTreasury} {a1 : List UInt8} {a2 : Int} {a3 : Int} (r : R_rights_Set) (h : F_rights_Set a0 a1 a2 a3 = some r) : CallOk Tryz.prog 36 [(AV.d (TApiTreasury.e a0)), (AV.d (DV.str a1)), (vi a2), (vi a3)] [] (V_rights_Set r) (L_rights_Set r) := fOk (s := S_rights_Set a0 a1 a2 a3) Tryz.func36 rfl (by kernel_rfl) h
/-! 68 -/
abbrev R_rights_find_1 := Bool
def V_rights_find_1 (x : R_rights_find_1) : AV := (vb x)
def L_rights_find_1 (p0 : List UInt8) (p1 : Int) (_ : R_rights_find_1) : List Ob := [(bx (DV.str p0)), (Ob.box (vi p1))]
def S_rights_find_1 (a0 : TApiPot) (p0 : List UInt8) (p1 : Int) : Scr Tryz.prog R_rights_find_1 R_rights_find_1 :=
.ret [] (bif (a0.Code == p0) then (a0.Year == p1) else false)
def F_rights_find_1 (a0 : TApiPot) (p0 : List UInt8) (p1 : Int) : Option R_rights_find_1 := (S_rights_find_1 a0 p0 p1).den
set_option maxRecDepth 100000 in
theorem F_rights_find_1_ok {a0 : TApiPot} {p0 : List UInt8} {p1 : Int} (r : R_rights_find_1) (h : F_rights_find_1 a0 p0 p1 = some r) : CallOk Tryz.prog 68 [(AV.d (TApiPot.e a0)), (vp 0), (vp 1)] [(bx (DV.str p0)), (Ob.box (vi p1))] (V_rights_find_1 r) (L_rights_find_1 p0 p1 r) := fOk (s := S_rights_find_1 a0 p0 p1) Tryz.func68 rfl (by kernel_rfl) h
/-! 67 -/
abbrev R_slices_IndexFunc_Pot_rights_find_1 := Int
def V_slices_IndexFunc_Pot_rights_find_1 (x : R_slices_IndexFunc_Pot_rights_find_1) : AV := (vi x)
def L_slices_IndexFunc_Pot_rights_find_1 (p0 : List UInt8) (p1 : Int) (_ : R_slices_IndexFunc_Pot_rights_find_1) : List Ob := [(bx (DV.str p0)), (Ob.box (vi p1))]
def S_slices_IndexFunc_Pot_rights_find_1_b1 (a0 : (List TApiPot)) (p0 : List UInt8) (p1 : Int) (iv1 : Nat) (_ : Unit) : Scr Tryz.prog R_slices_IndexFunc_Pot_rights_find_1 (Step (Unit) R_slices_IndexFunc_Pot_rights_find_1) :=
.call (@F_rights_find_1_ok (a0.getD iv1 default) p0 p1) fun rv2 cv2 =>
.reg 4 [] [(5, hc cv2 [0, 1] true)] [.pf (nn iv1), .ev 1, .cl 0 cv2 [0, 1] 2 true] <|
.ite rv2 (
.ret [] (.ret (iv1 : Int))) (
.ret [] (.cont ()))
def S_slices_IndexFunc_Pot_rights_find_1 (a0 : (List TApiPot)) (p0 : List UInt8) (p1 : Int) : Scr Tryz.prog R_slices_IndexFunc_Pot_rights_find_1 R_slices_IndexFunc_Pot_rights_find_1 :=
.range (a0.length : Int) a0.length rfl (.slot 0) 8 [0, 1, 7] (fun (_ : Unit) => []) (fun (_ : Unit) => []) () (S_slices_IndexFunc_Pot_rights_find_1_b1 a0 p0 p1) (fun (_ : Unit) => 
.ret [] (-1)) id
def F_slices_IndexFunc_Pot_rights_find_1 (a0 : (List TApiPot)) (p0 : List UInt8) (p1 : Int) : Option R_slices_IndexFunc_Pot_rights_find_1 := (S_slices_IndexFunc_Pot_rights_find_1 a0 p0 p1).den
set_option maxRecDepth 100000 in
theorem F_slices_IndexFunc_Pot_rights_find_1_ok {a0 : (List TApiPot)} {p0 : List UInt8} {p1 : Int} (r : R_slices_IndexFunc_Pot_rights_find_1) (h : F_slices_IndexFunc_Pot_rights_find_1 a0 p0 p1 = some r) : CallOk Tryz.prog 67 [(AV.d (eL TApiPot.e a0)), (AV.fn 68 [(vp 0), (vp 1)])] [(bx (DV.str p0)), (Ob.box (vi p1))] (V_slices_IndexFunc_Pot_rights_find_1 r) (L_slices_IndexFunc_Pot_rights_find_1 p0 p1 r) := fOk (s := S_slices_IndexFunc_Pot_rights_find_1 a0 p0 p1) Tryz.func67 rfl (by kernel_rfl) h
/-! 54 -/
abbrev R_rights_find := Int
def V_rights_find (x : R_rights_find) : AV := (vi x)
def L_rights_find (_ : R_rights_find) : List Ob := []
def S_rights_find (a0 : TApiTreasury) (a1 : List UInt8) (a2 : Int) : Scr Tryz.prog R_rights_find R_rights_find :=
.call (@F_slices_IndexFunc_Pot_rights_find_1_ok a0.Pots a1 a2) fun rv1 cv1 =>
.reg 1 [] [(3, hc cv1 [1, 2] true)] [.cl 0 cv1 [1, 2] 3 true] <|
.ret [] rv1
def F_rights_find (a0 : TApiTreasury) (a1 : List UInt8) (a2 : Int) : Option R_rights_find := (S_rights_find a0 a1 a2).den
set_option maxRecDepth 100000 in
theorem F_rights_find_ok {a0 : TApiTreasury} {a1 : List UInt8} {a2 : Int} (r : R_rights_find) (h : F_rights_find a0 a1 a2 = some r) : CallOk Tryz.prog 54 [(AV.d (TApiTreasury.e a0)), (AV.d (DV.str a1)), (vi a2)] [] (V_rights_find r) (L_rights_find r) := fOk (s := S_rights_find a0 a1 a2) Tryz.func54 rfl (by kernel_rfl) h
/-! 37 -/
abbrev R_rights_Pot := TApiPot × Bool
def V_rights_Pot (x : R_rights_Pot) : AV := (AV.tup [(AV.d (TApiPot.e x.1)), (vb x.2)])
def L_rights_Pot (_ : R_rights_Pot) : List Ob := []
def S_rights_Pot (a0 : TApiTreasury) (a1 : List UInt8) (a2 : Int) : Scr Tryz.prog R_rights_Pot R_rights_Pot :=
.reg 0 [] [(1, { obs := [(1, (bx (TApiPot.e (⟨[], 0, 0, [], [], [], []⟩ : TApiPot))))] })] [.pf cz2] <|
.call (@F_rights_find_ok a0 a1 a2) fun rv1 cv1 =>
.reg 1 [] [(3, hc cv1 [] true)] [.cl 0 cv1 [] 2 true] <|
.ite (decide (rv1 < 0)) (
.reg 3 [] [(0, hv (AV.d (TApiPot.e (⟨[], 0, 0, [], [], [], []⟩ : TApiPot))))] [.pf cz6] <|
.ret [] ((⟨[], 0, 0, [], [], [], []⟩ : TApiPot), false)) (
.call (@F_rights_copied_ok (a0.Pots.getD ((rv1).toNat) default)) fun rv2 cv2 =>
.guard [(0 : Int) ≤ rv1, (rv1).toNat < a0.Pots.length] <|
.reg 4 [] [(5, hc cv2 [] true)] [.ev 0, .ev 1, .cl 2 cv2 [] 2 true] <|
.ret [] (rv2, true))
def F_rights_Pot (a0 : TApiTreasury) (a1 : List UInt8) (a2 : Int) : Option R_rights_Pot := (S_rights_Pot a0 a1 a2).den
set_option maxRecDepth 100000 in
theorem F_rights_Pot_ok {a0 : TApiTreasury} {a1 : List UInt8} {a2 : Int} (r : R_rights_Pot) (h : F_rights_Pot a0 a1 a2 = some r) : CallOk Tryz.prog 37 [(AV.d (TApiTreasury.e a0)), (AV.d (DV.str a1)), (vi a2)] [] (V_rights_Pot r) (L_rights_Pot r) := fOk (s := S_rights_Pot a0 a1 a2) Tryz.func37 rfl (by kernel_rfl) h
/-! 66 -/
abbrev R_slices_Clone_int_rw := (List Int)
def V_slices_Clone_int_rw (x : R_slices_Clone_int_rw) : AV := (AV.ref 0 x.length 0 x.length)
def L_slices_Clone_int_rw (x : R_slices_Clone_int_rw) : List Ob := [(eS 1 (DV.i .i64) x)]
def S_slices_Clone_int_rw (a0 : (List Int)) : Scr Tryz.prog R_slices_Clone_int_rw R_slices_Clone_int_rw :=
.reg 0 [] [] [] <|
.nils 0 (
.guard [a0.length * (2 * 8) ≤ 2 ^ 48] <|
.reg 1 [] [] [] <|
.lev 0 (vl a0) (.pf (lvQ true a0.length fun j => (DV.i .i64 (a0.getD j default)))) <|
.br true (.pf (p := true = true) rfl) <|
.reg 2 [] [] [] <|
.bor 1 (fun j => AV.d ((DV.i .i64) (a0.getD j default))) [2] <|
.cst (A := a0.length = 0) (.ev 1) [(2, AV.ref 0 0 0 0)] [(2, (AV.ref 0 a0.length 0 a0.length))] [(Ob.seq 1 0 fun j => AV.d ((DV.i .i64) (a0.getD j default)))] [(eS 1 (DV.i .i64) a0)] (fun h => ⟨by rw [h], by unfold eS; rw [h]⟩) <|
.ret [] a0) (
.reg 1 [] [] [] <|
.lev 0 (vl a0) (.pf (lvQ false a0.length fun j => (DV.i .i64 (a0.getD j default)))) <|
.br false (.pf (p := false = false) rfl) <|
.guard [a0.length * (2 * 8) ≤ 2 ^ 48] <|
.reg 3 [] [(2, { h := .obj })] [.pf (p := ∀ k, k < a0.length → (AV.d ((DV.i .i64) (a0.getD k default))).wd = 1) (fun _ _ => rfl), .ev 0] <|
.ret [] a0)
def F_slices_Clone_int_rw (a0 : (List Int)) : Option R_slices_Clone_int_rw := (S_slices_Clone_int_rw a0).den
set_option maxRecDepth 100000 in
theorem F_slices_Clone_int_rw_ok {a0 : (List Int)} (r : R_slices_Clone_int_rw) (h : F_slices_Clone_int_rw a0 = some r) : CallOk Tryz.prog 66 [(vl a0)] [] (V_slices_Clone_int_rw r) (L_slices_Clone_int_rw r) := fOk (s := S_slices_Clone_int_rw a0) Tryz.func66 rfl (by kernel_rfl) h
/-! 53 -/
abbrev R_rights_copied_rw := List UInt8 × Int × Int × (List Int) × (List Int) × (List Int) × (List Int)
def V_rights_copied_rw (x : R_rights_copied_rw) : AV := (AV.agg [(AV.d (DV.str x.1)), (vi x.2.1), (vi x.2.2.1), (AV.ref 2 x.2.2.2.1.length 0 x.2.2.2.1.length), (AV.ref 3 x.2.2.2.2.1.length 0 x.2.2.2.2.1.length), (AV.ref 4 x.2.2.2.2.2.1.length 0 x.2.2.2.2.2.1.length), (AV.ref 5 x.2.2.2.2.2.2.length 0 x.2.2.2.2.2.2.length)])
def L_rights_copied_rw (x : R_rights_copied_rw) : List Ob := [Ob.dead, (Ob.box (AV.agg [(AV.d (DV.str x.1)), (vi x.2.1), (vi x.2.2.1), (AV.ref 2 x.2.2.2.1.length 0 x.2.2.2.1.length), (AV.ref 3 x.2.2.2.2.1.length 0 x.2.2.2.2.1.length), (AV.ref 4 x.2.2.2.2.2.1.length 0 x.2.2.2.2.2.1.length), (AV.ref 5 x.2.2.2.2.2.2.length 0 x.2.2.2.2.2.2.length)])), (eS 1 (DV.i .i64) x.2.2.2.1), (eS 1 (DV.i .i64) x.2.2.2.2.1), (eS 1 (DV.i .i64) x.2.2.2.2.2.1), (eS 1 (DV.i .i64) x.2.2.2.2.2.2)]
def S_rights_copied_rw (a0 : TApiPot) : Scr Tryz.prog R_rights_copied_rw R_rights_copied_rw :=
.reg 0 [] [(1, { obs := [(1, (bx (TApiPot.e (⟨[], 0, 0, [], [], [], []⟩ : TApiPot))))] })] [.pf cz2] <|
.call (@F_slices_Clone_int_rw_ok a0.Granted) fun rv1 cv1 =>
.call (@F_slices_Clone_int_rw_ok a0.Heard) fun rv2 cv2 =>
.call (@F_slices_Clone_int_rw_ok a0.Asked) fun rv3 cv3 =>
.call (@F_slices_Clone_int_rw_ok a0.Used) fun rv4 cv4 =>
.reg 1 [2, 5, 8, 11, 13, 15, 17, 19] [(2, hc cv1 [] false), (5, hc cv2 [] false), (8, hc cv3 [] false), (11, hc cv4 [] false)] [.cl 3 cv1 [] 2 false, .cl 2 cv2 [] 3 false, .cl 1 cv3 [] 4 false, .cl 0 cv4 [] 5 false] <|
.reg 2 [] [] [] <|
.kill 0 <|
.ret [] (a0.Code, a0.Year, a0.Total, rv1, rv2, rv3, rv4)
def F_rights_copied_rw (a0 : TApiPot) : Option R_rights_copied_rw := (S_rights_copied_rw a0).den
set_option maxRecDepth 100000 in
theorem F_rights_copied_rw_ok {a0 : TApiPot} (r : R_rights_copied_rw) (h : F_rights_copied_rw a0 = some r) : CallOk Tryz.prog 53 [(AV.d (TApiPot.e a0))] [] (V_rights_copied_rw r) (L_rights_copied_rw r) := fOk (s := S_rights_copied_rw a0) Tryz.func53 rfl (by kernel_rfl) h
/-! 49 -/
abbrev R_rights_fresh_op := Int × (List TApiPot)
def V_rights_fresh_op (x : R_rights_fresh_op) : AV := (AV.agg [(vi x.1), (AV.ref 2 x.2.length 0 x.2.length)])
def L_rights_fresh_op (i0 : Nat) (x : R_rights_fresh_op) : List Ob := [Ob.dead, (Ob.box (AV.agg [(vi x.1), (AV.ref 2 x.2.length 0 x.2.length)])), (opS 7 TApiPot.e i0 (AV.agg [(AV.d (DV.str (x.2.getD i0 default).Code)), (vi (x.2.getD i0 default).Year), (vi (x.2.getD i0 default).Total), (rr 3 (x.2.getD i0 default).Granted), (rr 4 (x.2.getD i0 default).Heard), (rr 5 (x.2.getD i0 default).Asked), (rr 6 (x.2.getD i0 default).Used)]) x.2), (eQ (x.2.getD i0 default).Granted), (eQ (x.2.getD i0 default).Heard), (eQ (x.2.getD i0 default).Asked), (eQ (x.2.getD i0 default).Used)]
def S_rights_fresh_op_b1 (a0 : TApiTreasury) (i0 : Nat) (iv1 : Nat) (sv2 : Int × (List TApiPot)) : Scr Tryz.prog R_rights_fresh_op (Step (Int × (List TApiPot)) R_rights_fresh_op) :=
.reg 5 [] [(2, { obs := [(7, (bx (TApiPot.e (⟨[], 0, 0, [], [], [], []⟩ : TApiPot))))] })] [.pf (nn iv1), .ev 0, .pf cz2] <|
.call (@F_rights_copied_rw_ok (a0.Pots.getD iv1 default)) fun rv3 cv3 =>
.guard [(sv2.2.length + 1) * (2 * 128) ≤ 2 ^ 48] <|
.reg 6 [3, 4, 5, 7] [(3, hc cv3 [] false), (4, { h := .obj }), (5, { h := .obj, cast := some (AV.ref 2 ((sv2.2 ++ [(⟨rv3.1, rv3.2.1, rv3.2.2.1, rv3.2.2.2.1, rv3.2.2.2.2.1, rv3.2.2.2.2.2.1, rv3.2.2.2.2.2.2⟩ : TApiPot)]).length) 0 ((sv2.2 ++ [(⟨rv3.1, rv3.2.1, rv3.2.2.1, rv3.2.2.2.1, rv3.2.2.2.2.1, rv3.2.2.2.2.2.1, rv3.2.2.2.2.2.2⟩ : TApiPot)]).length)), obs := [(2, (Ob.seq 7 ((sv2.2 ++ [(⟨rv3.1, rv3.2.1, rv3.2.2.1, rv3.2.2.2.1, rv3.2.2.2.2.1, rv3.2.2.2.2.2.1, rv3.2.2.2.2.2.2⟩ : TApiPot)]).length) (catF sv2.2.length (fun j => AV.sel (decide (j = i0)) 7 (AV.agg [(AV.d (DV.str (sv2.2.getD i0 default).Code)), (vi (sv2.2.getD i0 default).Year), (vi (sv2.2.getD i0 default).Total), (rr 3 (sv2.2.getD i0 default).Granted), (rr 4 (sv2.2.getD i0 default).Heard), (rr 5 (sv2.2.getD i0 default).Asked), (rr 6 (sv2.2.getD i0 default).Used)]) (AV.d (TApiPot.e (sv2.2.getD j default)))) (listF AV.bot [(AV.agg [(AV.d (DV.str rv3.1)), (vi rv3.2.1), (vi rv3.2.2.1), (rr 10 rv3.2.2.2.1), (rr 11 rv3.2.2.2.2.1), (rr 12 rv3.2.2.2.2.2.1), (rr 13 rv3.2.2.2.2.2.2)])]))))] })] [.cl 1 cv3 [] 8 false, .pf (Eq.refl 1), .pf (Eq.refl sv2.2.length), .pf (Eq.refl sv2.2.length), .pf (p := ∀ k, k < 1 → (listF AV.bot [(AV.agg [(AV.d (DV.str rv3.1)), (vi rv3.2.1), (vi rv3.2.2.1), (rr 10 rv3.2.2.2.1), (rr 11 rv3.2.2.2.2.1), (rr 12 rv3.2.2.2.2.2.1), (rr 13 rv3.2.2.2.2.2.2)])] k).wd = 7) (fun k hk => by obtain rfl : k = 0 := (by omega); rfl), .ev 0, .pf (leV_app (o := 2) (l := sv2.2) (x := [(⟨rv3.1, rv3.2.1, rv3.2.2.1, rv3.2.2.2.1, rv3.2.2.2.2.1, rv3.2.2.2.2.2.1, rv3.2.2.2.2.2.2⟩ : TApiPot)])), .pf (p := OLe (Ob.seq 7 (sv2.2.length + 1) (catF sv2.2.length (fun j => AV.sel (decide (j = i0)) 7 (AV.agg [(AV.d (DV.str (sv2.2.getD i0 default).Code)), (vi (sv2.2.getD i0 default).Year), (vi (sv2.2.getD i0 default).Total), (rr 3 (sv2.2.getD i0 default).Granted), (rr 4 (sv2.2.getD i0 default).Heard), (rr 5 (sv2.2.getD i0 default).Asked), (rr 6 (sv2.2.getD i0 default).Used)]) (AV.d (TApiPot.e (sv2.2.getD j default)))) (listF AV.bot [(AV.agg [(AV.d (DV.str rv3.1)), (vi rv3.2.1), (vi rv3.2.2.1), (rr 10 rv3.2.2.2.1), (rr 11 rv3.2.2.2.2.1), (rr 12 rv3.2.2.2.2.2.1), (rr 13 rv3.2.2.2.2.2.2)])]))) (Ob.seq 7 ((sv2.2 ++ [(⟨rv3.1, rv3.2.1, rv3.2.2.1, rv3.2.2.2.1, rv3.2.2.2.2.1, rv3.2.2.2.2.2.1, rv3.2.2.2.2.2.2⟩ : TApiPot)]).length) (catF sv2.2.length (fun j => AV.sel (decide (j = i0)) 7 (AV.agg [(AV.d (DV.str (sv2.2.getD i0 default).Code)), (vi (sv2.2.getD i0 default).Year), (vi (sv2.2.getD i0 default).Total), (rr 3 (sv2.2.getD i0 default).Granted), (rr 4 (sv2.2.getD i0 default).Heard), (rr 5 (sv2.2.getD i0 default).Asked), (rr 6 (sv2.2.getD i0 default).Used)]) (AV.d (TApiPot.e (sv2.2.getD j default)))) (listF AV.bot [(AV.agg [(AV.d (DV.str rv3.1)), (vi rv3.2.1), (vi rv3.2.2.1), (rr 10 rv3.2.2.2.1), (rr 11 rv3.2.2.2.2.1), (rr 12 rv3.2.2.2.2.2.1), (rr 13 rv3.2.2.2.2.2.2)])])))) (oLe_len (by simp))] <|
.guard [((sv2.2.length = i0 → 0 < (⟨rv3.1, rv3.2.1, rv3.2.2.1, rv3.2.2.2.1, rv3.2.2.2.2.1, rv3.2.2.2.2.2.1, rv3.2.2.2.2.2.2⟩ : TApiPot).Granted.length ∧ 0 < (⟨rv3.1, rv3.2.1, rv3.2.2.1, rv3.2.2.2.1, rv3.2.2.2.2.1, rv3.2.2.2.2.2.1, rv3.2.2.2.2.2.2⟩ : TApiPot).Heard.length ∧ 0 < (⟨rv3.1, rv3.2.1, rv3.2.2.1, rv3.2.2.2.1, rv3.2.2.2.2.1, rv3.2.2.2.2.2.1, rv3.2.2.2.2.2.2⟩ : TApiPot).Asked.length ∧ 0 < (⟨rv3.1, rv3.2.1, rv3.2.2.1, rv3.2.2.2.1, rv3.2.2.2.2.1, rv3.2.2.2.2.2.1, rv3.2.2.2.2.2.2⟩ : TApiPot).Used.length) ∧ ((⟨rv3.1, rv3.2.1, rv3.2.2.1, rv3.2.2.2.1, rv3.2.2.2.2.1, rv3.2.2.2.2.2.1, rv3.2.2.2.2.2.2⟩ : TApiPot).Granted.length < 2 ^ 63 ∧ (⟨rv3.1, rv3.2.1, rv3.2.2.1, rv3.2.2.2.1, rv3.2.2.2.2.1, rv3.2.2.2.2.2.1, rv3.2.2.2.2.2.2⟩ : TApiPot).Heard.length < 2 ^ 63 ∧ (⟨rv3.1, rv3.2.1, rv3.2.2.1, rv3.2.2.2.1, rv3.2.2.2.2.1, rv3.2.2.2.2.2.1, rv3.2.2.2.2.2.2⟩ : TApiPot).Asked.length < 2 ^ 63 ∧ (⟨rv3.1, rv3.2.1, rv3.2.2.1, rv3.2.2.2.1, rv3.2.2.2.2.1, rv3.2.2.2.2.2.1, rv3.2.2.2.2.2.2⟩ : TApiPot).Used.length < 2 ^ 63))] <|
.sh (A := ((sv2.2.length = i0 → 0 < (⟨rv3.1, rv3.2.1, rv3.2.2.1, rv3.2.2.2.1, rv3.2.2.2.2.1, rv3.2.2.2.2.2.1, rv3.2.2.2.2.2.2⟩ : TApiPot).Granted.length ∧ 0 < (⟨rv3.1, rv3.2.1, rv3.2.2.1, rv3.2.2.2.1, rv3.2.2.2.2.1, rv3.2.2.2.2.2.1, rv3.2.2.2.2.2.2⟩ : TApiPot).Heard.length ∧ 0 < (⟨rv3.1, rv3.2.1, rv3.2.2.1, rv3.2.2.2.1, rv3.2.2.2.2.1, rv3.2.2.2.2.2.1, rv3.2.2.2.2.2.2⟩ : TApiPot).Asked.length ∧ 0 < (⟨rv3.1, rv3.2.1, rv3.2.2.1, rv3.2.2.2.1, rv3.2.2.2.2.1, rv3.2.2.2.2.2.1, rv3.2.2.2.2.2.2⟩ : TApiPot).Used.length) ∧ ((⟨rv3.1, rv3.2.1, rv3.2.2.1, rv3.2.2.2.1, rv3.2.2.2.2.1, rv3.2.2.2.2.2.1, rv3.2.2.2.2.2.2⟩ : TApiPot).Granted.length < 2 ^ 63 ∧ (⟨rv3.1, rv3.2.1, rv3.2.2.1, rv3.2.2.2.1, rv3.2.2.2.2.1, rv3.2.2.2.2.2.1, rv3.2.2.2.2.2.2⟩ : TApiPot).Heard.length < 2 ^ 63 ∧ (⟨rv3.1, rv3.2.1, rv3.2.2.1, rv3.2.2.2.1, rv3.2.2.2.2.1, rv3.2.2.2.2.2.1, rv3.2.2.2.2.2.2⟩ : TApiPot).Asked.length < 2 ^ 63 ∧ (⟨rv3.1, rv3.2.1, rv3.2.2.1, rv3.2.2.2.1, rv3.2.2.2.2.1, rv3.2.2.2.2.2.1, rv3.2.2.2.2.2.2⟩ : TApiPot).Used.length < 2 ^ 63))) (.ev 0) [(1, (vp 0)), (2, (vp 1)), (9, (AV.d (eL TApiPot.e a0.Pots))), (10, (vi (a0.Pots.length : Int))), (11, (vi (iv1 : Int)))] [(1, (vp 0)), (2, (vp 1)), (9, (AV.d (eL TApiPot.e a0.Pots))), (10, (vi (a0.Pots.length : Int))), (11, (vi (iv1 : Int)))] [(Ob.box (AV.agg [(vi sv2.1), (AV.ref 2 ((sv2.2 ++ [(⟨rv3.1, rv3.2.1, rv3.2.2.1, rv3.2.2.2.1, rv3.2.2.2.2.1, rv3.2.2.2.2.2.1, rv3.2.2.2.2.2.2⟩ : TApiPot)]).length) 0 ((sv2.2 ++ [(⟨rv3.1, rv3.2.1, rv3.2.2.1, rv3.2.2.2.1, rv3.2.2.2.2.1, rv3.2.2.2.2.2.1, rv3.2.2.2.2.2.2⟩ : TApiPot)]).length))])), (bx (TApiTreasury.e (⟨0, []⟩ : TApiTreasury))), (Ob.seq 7 (sv2.2 ++ [(⟨rv3.1, rv3.2.1, rv3.2.2.1, rv3.2.2.2.1, rv3.2.2.2.2.1, rv3.2.2.2.2.2.1, rv3.2.2.2.2.2.2⟩ : TApiPot)]).length (catF sv2.2.length (fun j => AV.sel (decide (j = i0)) 7 (AV.agg [(AV.d (DV.str (sv2.2.getD i0 default).Code)), (vi (sv2.2.getD i0 default).Year), (vi (sv2.2.getD i0 default).Total), (rr 3 (sv2.2.getD i0 default).Granted), (rr 4 (sv2.2.getD i0 default).Heard), (rr 5 (sv2.2.getD i0 default).Asked), (rr 6 (sv2.2.getD i0 default).Used)]) (AV.d (TApiPot.e (sv2.2.getD j default)))) (listF AV.bot [(AV.agg [(AV.d (DV.str rv3.1)), (vi rv3.2.1), (vi rv3.2.2.1), (rr 10 rv3.2.2.2.1), (rr 11 rv3.2.2.2.2.1), (rr 12 rv3.2.2.2.2.2.1), (rr 13 rv3.2.2.2.2.2.2)])]))), (eQ (opQ TApiPot.Granted i0 sv2.2)), (eQ (opQ TApiPot.Heard i0 sv2.2)), (eQ (opQ TApiPot.Asked i0 sv2.2)), (eQ (opQ TApiPot.Used i0 sv2.2)), (bx (TApiPot.e (a0.Pots.getD iv1 default))), Ob.dead, (Ob.box (AV.agg [(AV.d (DV.str rv3.1)), (vi rv3.2.1), (vi rv3.2.2.1), (rr 10 rv3.2.2.2.1), (rr 11 rv3.2.2.2.2.1), (rr 12 rv3.2.2.2.2.2.1), (rr 13 rv3.2.2.2.2.2.2)])), (eQ (⟨rv3.1, rv3.2.1, rv3.2.2.1, rv3.2.2.2.1, rv3.2.2.2.2.1, rv3.2.2.2.2.2.1, rv3.2.2.2.2.2.2⟩ : TApiPot).Granted), (eQ (⟨rv3.1, rv3.2.1, rv3.2.2.1, rv3.2.2.2.1, rv3.2.2.2.2.1, rv3.2.2.2.2.2.1, rv3.2.2.2.2.2.2⟩ : TApiPot).Heard), (eQ (⟨rv3.1, rv3.2.1, rv3.2.2.1, rv3.2.2.2.1, rv3.2.2.2.2.1, rv3.2.2.2.2.2.1, rv3.2.2.2.2.2.2⟩ : TApiPot).Asked), (eQ (⟨rv3.1, rv3.2.1, rv3.2.2.1, rv3.2.2.2.1, rv3.2.2.2.2.1, rv3.2.2.2.2.2.1, rv3.2.2.2.2.2.2⟩ : TApiPot).Used), (Ob.seq 7 1 (listF AV.bot [(AV.agg [(AV.d (DV.str rv3.1)), (vi rv3.2.1), (vi rv3.2.2.1), (rr 10 rv3.2.2.2.1), (rr 11 rv3.2.2.2.2.1), (rr 12 rv3.2.2.2.2.2.1), (rr 13 rv3.2.2.2.2.2.2)])]))] [(Ob.box (AV.agg [(vi sv2.1), (AV.ref 2 ((sv2.2 ++ [(⟨rv3.1, rv3.2.1, rv3.2.2.1, rv3.2.2.2.1, rv3.2.2.2.2.1, rv3.2.2.2.2.2.1, rv3.2.2.2.2.2.2⟩ : TApiPot)]).length) 0 ((sv2.2 ++ [(⟨rv3.1, rv3.2.1, rv3.2.2.1, rv3.2.2.2.1, rv3.2.2.2.2.1, rv3.2.2.2.2.2.1, rv3.2.2.2.2.2.2⟩ : TApiPot)]).length))])), (bx (TApiTreasury.e (⟨0, []⟩ : TApiTreasury))), (oTApiPot.R 3 i0 (sv2.2 ++ [(⟨rv3.1, rv3.2.1, rv3.2.2.1, rv3.2.2.2.1, rv3.2.2.2.2.1, rv3.2.2.2.2.2.1, rv3.2.2.2.2.2.2⟩ : TApiPot)])), (eQ (opQ TApiPot.Granted i0 (sv2.2 ++ [(⟨rv3.1, rv3.2.1, rv3.2.2.1, rv3.2.2.2.1, rv3.2.2.2.2.1, rv3.2.2.2.2.2.1, rv3.2.2.2.2.2.2⟩ : TApiPot)]))), (eQ (opQ TApiPot.Heard i0 (sv2.2 ++ [(⟨rv3.1, rv3.2.1, rv3.2.2.1, rv3.2.2.2.1, rv3.2.2.2.2.1, rv3.2.2.2.2.2.1, rv3.2.2.2.2.2.2⟩ : TApiPot)]))), (eQ (opQ TApiPot.Asked i0 (sv2.2 ++ [(⟨rv3.1, rv3.2.1, rv3.2.2.1, rv3.2.2.2.1, rv3.2.2.2.2.1, rv3.2.2.2.2.2.1, rv3.2.2.2.2.2.2⟩ : TApiPot)]))), (eQ (opQ TApiPot.Used i0 (sv2.2 ++ [(⟨rv3.1, rv3.2.1, rv3.2.2.1, rv3.2.2.2.1, rv3.2.2.2.2.1, rv3.2.2.2.2.2.1, rv3.2.2.2.2.2.2⟩ : TApiPot)]))), (bx (TApiPot.e (a0.Pots.getD iv1 default))), Ob.dead, (Ob.box (AV.agg [(AV.d (DV.str rv3.1)), (vi rv3.2.1), (vi rv3.2.2.1), (rr 10 rv3.2.2.2.1), (rr 11 rv3.2.2.2.2.1), (rr 12 rv3.2.2.2.2.2.1), (rr 13 rv3.2.2.2.2.2.2)])), Ob.dead, Ob.dead, Ob.dead, Ob.dead, (Ob.seq 7 1 (listF AV.bot [(AV.agg [(AV.d (DV.str rv3.1)), (vi rv3.2.1), (vi rv3.2.2.1), (rr 10 rv3.2.2.2.1), (rr 11 rv3.2.2.2.2.1), (rr 12 rv3.2.2.2.2.2.1), (rr 13 rv3.2.2.2.2.2.2)])]))] (fun h => shift_settle oTApiPot (P := [(Ob.box (AV.agg [(vi sv2.1), (AV.ref 2 ((sv2.2 ++ [(⟨rv3.1, rv3.2.1, rv3.2.2.1, rv3.2.2.2.1, rv3.2.2.2.2.1, rv3.2.2.2.2.2.1, rv3.2.2.2.2.2.2⟩ : TApiPot)]).length) 0 ((sv2.2 ++ [(⟨rv3.1, rv3.2.1, rv3.2.2.1, rv3.2.2.2.1, rv3.2.2.2.2.1, rv3.2.2.2.2.2.1, rv3.2.2.2.2.2.2⟩ : TApiPot)]).length))])), (bx (TApiTreasury.e (⟨0, []⟩ : TApiTreasury)))]) (D := [(bx (TApiPot.e (a0.Pots.getD iv1 default))), Ob.dead, (Ob.box (AV.agg [(AV.d (DV.str rv3.1)), (vi rv3.2.1), (vi rv3.2.2.1), (rr 10 rv3.2.2.2.1), (rr 11 rv3.2.2.2.2.1), (rr 12 rv3.2.2.2.2.2.1), (rr 13 rv3.2.2.2.2.2.2)]))]) (E := [(Ob.seq 7 1 (listF AV.bot [(AV.agg [(AV.d (DV.str rv3.1)), (vi rv3.2.1), (vi rv3.2.2.1), (rr 10 rv3.2.2.2.1), (rr 11 rv3.2.2.2.2.1), (rr 12 rv3.2.2.2.2.2.1), (rr 13 rv3.2.2.2.2.2.2)])]))]) (i := i0) (l := sv2.2) (x := (⟨rv3.1, rv3.2.1, rv3.2.2.1, rv3.2.2.2.1, rv3.2.2.2.2.1, rv3.2.2.2.2.2.1, rv3.2.2.2.2.2.2⟩ : TApiPot)) rfl rfl (fun j hj => catF_lt hj) (by rw [catF_ge (Nat.le_refl _), Nat.sub_self]; rfl) h.1 h.2) (trF_refl _) <|
.ret [] (.cont (sv2.1, sv2.2 ++ [(⟨rv3.1, rv3.2.1, rv3.2.2.1, rv3.2.2.2.1, rv3.2.2.2.2.1, rv3.2.2.2.2.2.1, rv3.2.2.2.2.2.2⟩ : TApiPot)]))
def S_rights_fresh_op (a0 : TApiTreasury) (i0 : Nat) : Scr Tryz.prog R_rights_fresh_op R_rights_fresh_op :=
.reg 0 [] [(1, { obs := [(1, (bx (TApiTreasury.e (⟨0, []⟩ : TApiTreasury))))] })] [.pf cz4] <|
.reg 2 [] [] [] <|
.sh (A := True) (.pf trivial) [(1, (vp 0)), (2, (vp 1)), (3, (AV.d (eL TApiPot.e a0.Pots)))] [(1, (vp 0)), (2, (vp 1)), (3, (AV.d (eL TApiPot.e a0.Pots)))] [(Ob.box (AV.agg [(vi a0.Offices), (AV.full 0 fun _ => DV.b false)])), (bx (TApiTreasury.e (⟨0, []⟩ : TApiTreasury)))] [(Ob.box (AV.agg [(vi a0.Offices), (AV.ref 2 0 0 0)])), (bx (TApiTreasury.e (⟨0, []⟩ : TApiTreasury))), (oTApiPot.R 3 i0 [])] (fun _ => (shift_born (sz := 7) (f := (fun j => AV.sel (decide (j = i0)) 7 (AV.agg [(AV.d (DV.str (([] : List TApiPot).getD i0 default).Code)), (vi (([] : List TApiPot).getD i0 default).Year), (vi (([] : List TApiPot).getD i0 default).Total), (rr 3 (([] : List TApiPot).getD i0 default).Granted), (rr 4 (([] : List TApiPot).getD i0 default).Heard), (rr 5 (([] : List TApiPot).getD i0 default).Asked), (rr 6 (([] : List TApiPot).getD i0 default).Used)]) (AV.d (TApiPot.e (([] : List TApiPot).getD j default))))) (.box _ _ _ _ _ (Nat.ne_of_beq_eq_false rfl) (TrV.agg (TrL.cons (TrV.keep _) (TrL.cons TrV.born TrL.nil))) (.keep _ _ _ _ (Nat.ne_of_beq_eq_false rfl) (.nil _))))) (trF_at (k := 0) rfl (TrS.keep _) (trF_at (k := 1) rfl (TrS.keep _) (trF_at (k := 2) rfl (TrS.keep _) trF_nil))) <|
.sh (A := True) (.pf trivial) [(1, (vp 0)), (2, (vp 1)), (3, (AV.d (eL TApiPot.e a0.Pots)))] [(1, (vp 0)), (2, (vp 1)), (3, (AV.d (eL TApiPot.e a0.Pots)))] [(Ob.box (AV.agg [(vi a0.Offices), (AV.ref 2 0 0 0)])), (bx (TApiTreasury.e (⟨0, []⟩ : TApiTreasury))), (oTApiPot.R 3 i0 [])] [(Ob.box (AV.agg [(vi a0.Offices), (AV.ref 2 0 0 0)])), (bx (TApiTreasury.e (⟨0, []⟩ : TApiTreasury))), (oTApiPot.R 3 i0 []), (eQ (opQ TApiPot.Granted i0 ([] : List TApiPot))), (eQ (opQ TApiPot.Heard i0 ([] : List TApiPot))), (eQ (opQ TApiPot.Asked i0 ([] : List TApiPot))), (eQ (opQ TApiPot.Used i0 ([] : List TApiPot)))] (fun _ => shift_born4) (trF_refl _) <|
.range (a0.Pots.length : Int) a0.Pots.length rfl (.slot 9) 11 [1, 2, 9, 10] (fun (_ : Int × (List TApiPot)) => []) (fun (sv2 : Int × (List TApiPot)) => [(0, (Ob.box (AV.agg [(vi sv2.1), (AV.ref 2 sv2.2.length 0 sv2.2.length)]))), (2, (oTApiPot.R 3 i0 sv2.2)), (3, (eQ (opQ TApiPot.Granted i0 sv2.2))), (4, (eQ (opQ TApiPot.Heard i0 sv2.2))), (5, (eQ (opQ TApiPot.Asked i0 sv2.2))), (6, (eQ (opQ TApiPot.Used i0 sv2.2)))]) (a0.Offices, ([] : List TApiPot)) (S_rights_fresh_op_b1 a0 i0) (fun (sv2 : Int × (List TApiPot)) => 
.reg 8 [] [] [] <|
.kill 0 <|
.guard [i0 < sv2.2.length] <|
.cst (A := i0 < sv2.2.length) (.ev 0) [(2, (vp 1))] [(2, (vp 1))] [Ob.dead, (Ob.box (AV.agg [(vi sv2.1), (AV.ref 2 sv2.2.length 0 sv2.2.length)])), (oTApiPot.R 3 i0 sv2.2), (eQ (opQ TApiPot.Granted i0 sv2.2)), (eQ (opQ TApiPot.Heard i0 sv2.2)), (eQ (opQ TApiPot.Asked i0 sv2.2)), (eQ (opQ TApiPot.Used i0 sv2.2))] [Ob.dead, (Ob.box (AV.agg [(vi sv2.1), (AV.ref 2 sv2.2.length 0 sv2.2.length)])), (oTApiPot.R 3 i0 sv2.2), (eQ (sv2.2.getD i0 default).Granted), (eQ (sv2.2.getD i0 default).Heard), (eQ (sv2.2.getD i0 default).Asked), (eQ (sv2.2.getD i0 default).Used)] (fun h => ⟨rfl, by simp only [opQ_at h]⟩) <|
.ret [] (sv2.1, sv2.2)) id
def F_rights_fresh_op (a0 : TApiTreasury) (i0 : Nat) : Option R_rights_fresh_op := (S_rights_fresh_op a0 i0).den
set_option maxRecDepth 100000 in
theorem F_rights_fresh_op_ok {a0 : TApiTreasury} {i0 : Nat} (r : R_rights_fresh_op) (h : F_rights_fresh_op a0 i0 = some r) : CallOk Tryz.prog 49 [(AV.d (TApiTreasury.e a0))] [] (V_rights_fresh_op r) (L_rights_fresh_op i0 r) := fOk (s := S_rights_fresh_op a0 i0) Tryz.func49 rfl (by kernel_rfl) h
/-! 56 -/
abbrev R_rights_Ask_1 := Int × (List Int)
def V_rights_Ask_1 (x : R_rights_Ask_1) : AV := (vi x.1)
def L_rights_Ask_1 (p0_0 : Nat) (p0_1 : (List TApiPot)) (p0_2 : List UInt8) (p0_3 : Int) (p0_4 : Int) (p1 : Int) (p2 : Int) (p3 : (List Int)) (p4 : (List Int)) (p5 : (List Int)) (p6 : (List Int)) (x : R_rights_Ask_1) : List Ob := [(opS 7 TApiPot.e p0_0 (AV.agg [(AV.d (DV.str p0_2)), (vi p0_3), (vi p0_4), (AV.ref 3 p3.length 0 p3.length), (AV.ref 4 p4.length 0 p4.length), (AV.ref 5 p5.length 0 p5.length), (AV.ref 6 p6.length 0 p6.length)]) p0_1), (Ob.box (vi p1)), (Ob.box (vi p2)), (eS 1 (DV.i .i64) p3), (eS 1 (DV.i .i64) p4), (eS 1 (DV.i .i64) x.2), (eS 1 (DV.i .i64) p6)]
def S_rights_Ask_1 (p0_0 : Nat) (p0_1 : (List TApiPot)) (_ : List UInt8) (_ : Int) (_ : Int) (p1 : Int) (p2 : Int) (p3 : (List Int)) (_ : (List Int)) (p5 : (List Int)) (_ : (List Int)) : Scr Tryz.prog R_rights_Ask_1 R_rights_Ask_1 :=
.call (@F_rights_among_ok p1 1 (p5.length : Int)) fun rv1 cv1 =>
.guard [p0_0 < p0_1.length] <|
.reg 1 [] [(6, hc cv1 [] true)] [.pf (Eq.refl p0_1.length), .pf (Eq.refl p0_1.length), .ev 0, .pf (p := decide (p0_0 = p0_0) = true) (decide_eq_true rfl), .cl 1 cv1 [] 7 true] <|
.ite (!rv1) (
.ret [] (6, p5)) (
.call (@F_rights_among_ok p2 1 1000000000000000) fun rv2 cv2 =>
.reg 3 [] [(1, hc cv2 [] true)] [.cl 0 cv2 [] 7 true] <|
.ite (!rv2) (
.ret [] (2, p5)) (
.guard [(0 : Int) ≤ (IntKind.i64.wrap (p1 - 1)), ((IntKind.i64.wrap (p1 - 1))).toNat < p5.length, (0 + ((IntKind.i64.wrap (p1 - 1))).toNat) < p5.length, ((IntKind.i64.wrap (p1 - 1))).toNat < p3.length, (0 + ((IntKind.i64.wrap (p1 - 1))).toNat) < p3.length] <|
.reg 5 [] [] [.pf (Eq.refl p0_1.length), .pf (Eq.refl p0_1.length), .ev 8, .pf (p := decide (p0_0 = p0_0) = true) (decide_eq_true rfl), .pf (Eq.refl p5.length), .ev 0, .ev 1, .pf (Eq.refl p5.length), .ev 2, .pf (Eq.refl p0_1.length), .pf (Eq.refl p0_1.length), .ev 8, .pf (p := decide (p0_0 = p0_0) = true) (decide_eq_true rfl), .pf (Eq.refl p3.length), .ev 0, .ev 3, .pf (Eq.refl p3.length), .ev 4] <|
.ite (decide ((IntKind.i64.wrap ((p5.getD (0 + ((IntKind.i64.wrap (p1 - 1))).toNat) default) + p2)) > (p3.getD (0 + ((IntKind.i64.wrap (p1 - 1))).toNat) default))) (
.ret [] (15, p5)) (
.reg 7 [11] [(11, { obs := [(5, (eS 1 (DV.i .i64) (p5.set (0 + ((IntKind.i64.wrap (p1 - 1))).toNat) (IntKind.i64.wrap ((p5.getD (0 + ((IntKind.i64.wrap (p1 - 1))).toNat) default) + p2)))))] })] [.pf (Eq.refl p0_1.length), .pf (Eq.refl p0_1.length), .ev 9, .pf (p := decide (p0_0 = p0_0) = true) (decide_eq_true rfl), .pf (Eq.refl p5.length), .ev 1, .ev 2, .pf (Eq.refl p5.length), .ev 3, .pf (Eq.refl p5.length), .ev 1, .ev 2, .pf (Eq.refl p5.length), .ev 3, .pf (oLe_set (sz := 1) (e := (DV.i .i64)) (l := p5) (i := (0 + ((IntKind.i64.wrap (p1 - 1))).toNat)) (x := (IntKind.i64.wrap ((p5.getD (0 + ((IntKind.i64.wrap (p1 - 1))).toNat) default) + p2))) (fun _ => rfl))] <|
.ret [] (0, (p5.set (0 + ((IntKind.i64.wrap (p1 - 1))).toNat) (IntKind.i64.wrap ((p5.getD (0 + ((IntKind.i64.wrap (p1 - 1))).toNat) default) + p2)))))))
def F_rights_Ask_1 (p0_0 : Nat) (p0_1 : (List TApiPot)) (p0_2 : List UInt8) (p0_3 : Int) (p0_4 : Int) (p1 : Int) (p2 : Int) (p3 : (List Int)) (p4 : (List Int)) (p5 : (List Int)) (p6 : (List Int)) : Option R_rights_Ask_1 := (S_rights_Ask_1 p0_0 p0_1 p0_2 p0_3 p0_4 p1 p2 p3 p4 p5 p6).den
set_option maxRecDepth 100000 in
theorem F_rights_Ask_1_ok {p0_0 : Nat} {p0_1 : (List TApiPot)} {p0_2 : List UInt8} {p0_3 : Int} {p0_4 : Int} {p1 : Int} {p2 : Int} {p3 : (List Int)} {p4 : (List Int)} {p5 : (List Int)} {p6 : (List Int)} (r : R_rights_Ask_1) (h : F_rights_Ask_1 p0_0 p0_1 p0_2 p0_3 p0_4 p1 p2 p3 p4 p5 p6 = some r) : CallOk Tryz.prog 56 [(AV.ptr 0 p0_1.length [.x p0_0 7]), (vp 1), (vp 2)] [(opS 7 TApiPot.e p0_0 (AV.agg [(AV.d (DV.str p0_2)), (vi p0_3), (vi p0_4), (AV.ref 3 p3.length 0 p3.length), (AV.ref 4 p4.length 0 p4.length), (AV.ref 5 p5.length 0 p5.length), (AV.ref 6 p6.length 0 p6.length)]) p0_1), (Ob.box (vi p1)), (Ob.box (vi p2)), (eS 1 (DV.i .i64) p3), (eS 1 (DV.i .i64) p4), (eS 1 (DV.i .i64) p5), (eS 1 (DV.i .i64) p6)] (V_rights_Ask_1 r) (L_rights_Ask_1 p0_0 p0_1 p0_2 p0_3 p0_4 p1 p2 p3 p4 p5 p6 r) := fOk (s := S_rights_Ask_1 p0_0 p0_1 p0_2 p0_3 p0_4 p1 p2 p3 p4 p5 p6) Tryz.func56 rfl (by kernel_rfl) h
end
end Go.Proofs.YtfiljdbmhegjgaaGreatDoor
/- What the functions compute, and that their calls return it. No condition. -/
namespace Go.Proofs.YtfiljdbmhegjgaaGreatDoor
open Go Go.TA
noncomputable section
/-! 55 -/
abbrev R_rights_change_rights_Ask_1 := TApiTreasury × Int
def V_rights_change_rights_Ask_1 (x : R_rights_change_rights_Ask_1) : AV := (AV.tup [(AV.d (TApiTreasury.e x.1)), (vi x.2)])
def L_rights_change_rights_Ask_1 (p0 : Int) (p1 : Int) (_ : R_rights_change_rights_Ask_1) : List Ob := [(Ob.box (vi p0)), (Ob.box (vi p1))]
def S_rights_change_rights_Ask_1 (a0 : TApiTreasury) (a1 : List UInt8) (a2 : Int) (p0 : Int) (p1 : Int) : Scr Tryz.prog R_rights_change_rights_Ask_1 R_rights_change_rights_Ask_1 :=
.reg 0 [] [(1, { obs := [(3, (bx (TApiTreasury.e (⟨0, []⟩ : TApiTreasury))))] })] [.pf cz4] <|
.call (@F_rights_Valid_ok a0) fun rv1 cv1 =>
.reg 1 [] [(1, hc cv1 [] true)] [.cl 0 cv1 [] 4 true] <|
.ite (!rv1) (
.reg 2 [] [(0, hv (AV.d (TApiTreasury.e (⟨0, []⟩ : TApiTreasury))))] [.pf cz5] <|
.ret [] ((⟨0, []⟩ : TApiTreasury), 1)) (
.call (@F_rights_find_ok a0 a1 a2) fun rv2 cv2 =>
.reg 3 [] [(3, hc cv2 [] true)] [.cl 0 cv2 [] 4 true] <|
.ite (decide (rv2 < 0)) (
.reg 5 [] [(0, hv (AV.d (TApiTreasury.e (⟨0, []⟩ : TApiTreasury))))] [.pf cz5] <|
.ret [] ((⟨0, []⟩ : TApiTreasury), 6)) (
.call (@F_rights_fresh_op_ok a0 ((rv2).toNat)) fun rv3 cv3 =>
.reg 6 [] [(1, hc cv3 [] false)] [.cl 0 cv3 [] 4 false] <|
.kill 5 <|
.call (@F_rights_Ask_1_ok ((rv2).toNat) rv3.2 ((rv3.2.getD ((rv2).toNat) default).Code) ((rv3.2.getD ((rv2).toNat) default).Year) ((rv3.2.getD ((rv2).toNat) default).Total) p0 p1 ((rv3.2.getD ((rv2).toNat) default).Granted) ((rv3.2.getD ((rv2).toNat) default).Heard) ((rv3.2.getD ((rv2).toNat) default).Asked) ((rv3.2.getD ((rv2).toNat) default).Used)) fun rv4 cv4 =>
.guard [(0 : Int) ≤ rv2, (rv2).toNat < rv3.2.length] <|
.reg 7 [] [(4, hv (AV.ptr 6 rv3.2.length [.x ((rv2).toNat) 7])), (5, hc cv4 [6, 0, 1, 7, 8, 9, 10] false)] [.pf (Eq.refl rv3.2.length), .ev 0, .ev 1, .pf (p := LeV (AV.ptr 6 rv3.2.length [.x (0 + ((rv2).toNat)) 7]) (AV.ptr 6 rv3.2.length [.x ((rv2).toNat) 7])) (leV_ix), .cl 2 cv4 [6, 0, 1, 7, 8, 9, 10] 11 false] <|
.ite (rv4.1 != 0) (
.reg 9 [] [(0, hv (AV.d (TApiTreasury.e (⟨0, []⟩ : TApiTreasury))))] [.pf cz5] <|
.ret [] ((⟨0, []⟩ : TApiTreasury), rv4.1)) (
.reg 10 [] [] [] <|
.guard [rv4.2.length = ((rv3.2.getD ((rv2).toNat) default).Asked).length] <|
.cst (A := rv4.2.length = ((rv3.2.getD ((rv2).toNat) default).Asked).length) (.ev 0) [(8, (vp 3)), (9, (vi 0))] [(8, (vp 3)), (9, (vi 0))] [(Ob.box (vi p0)), (Ob.box (vi p1)), (Ob.box (AV.agg [(vi rv3.1), (AV.ref 6 rv3.2.length 0 rv3.2.length)])), (Ob.box (AV.agg [(vi rv3.1), (AV.ref 6 rv3.2.length 0 rv3.2.length)])), Ob.dead, Ob.dead, (opS 7 TApiPot.e ((rv2).toNat) (AV.agg [(AV.d (DV.str ((rv3.2.getD ((rv2).toNat) default).Code))), (vi ((rv3.2.getD ((rv2).toNat) default).Year)), (vi ((rv3.2.getD ((rv2).toNat) default).Total)), (AV.ref 7 (((rv3.2.getD ((rv2).toNat) default).Granted).length) 0 (((rv3.2.getD ((rv2).toNat) default).Granted).length)), (AV.ref 8 (((rv3.2.getD ((rv2).toNat) default).Heard).length) 0 (((rv3.2.getD ((rv2).toNat) default).Heard).length)), (AV.ref 9 (((rv3.2.getD ((rv2).toNat) default).Asked).length) 0 (((rv3.2.getD ((rv2).toNat) default).Asked).length)), (AV.ref 10 (((rv3.2.getD ((rv2).toNat) default).Used).length) 0 (((rv3.2.getD ((rv2).toNat) default).Used).length))]) rv3.2), (eS 1 (DV.i .i64) ((rv3.2.getD ((rv2).toNat) default).Granted)), (eS 1 (DV.i .i64) ((rv3.2.getD ((rv2).toNat) default).Heard)), (eS 1 (DV.i .i64) rv4.2), (eS 1 (DV.i .i64) ((rv3.2.getD ((rv2).toNat) default).Used))] [(Ob.box (vi p0)), (Ob.box (vi p1)), (Ob.box (AV.agg [(vi rv3.1), (AV.ref 6 rv3.2.length 0 rv3.2.length)])), (Ob.box (AV.agg [(vi rv3.1), (AV.ref 6 rv3.2.length 0 rv3.2.length)])), Ob.dead, Ob.dead, (opS 7 TApiPot.e ((rv2).toNat) (AV.agg [(AV.d (DV.str ((rv3.2.getD ((rv2).toNat) default).Code))), (vi ((rv3.2.getD ((rv2).toNat) default).Year)), (vi ((rv3.2.getD ((rv2).toNat) default).Total)), (AV.ref 7 (((rv3.2.getD ((rv2).toNat) default).Granted).length) 0 (((rv3.2.getD ((rv2).toNat) default).Granted).length)), (AV.ref 8 (((rv3.2.getD ((rv2).toNat) default).Heard).length) 0 (((rv3.2.getD ((rv2).toNat) default).Heard).length)), (AV.ref 9 rv4.2.length 0 rv4.2.length), (AV.ref 10 (((rv3.2.getD ((rv2).toNat) default).Used).length) 0 (((rv3.2.getD ((rv2).toNat) default).Used).length))]) rv3.2), (eS 1 (DV.i .i64) ((rv3.2.getD ((rv2).toNat) default).Granted)), (eS 1 (DV.i .i64) ((rv3.2.getD ((rv2).toNat) default).Heard)), (eS 1 (DV.i .i64) rv4.2), (eS 1 (DV.i .i64) ((rv3.2.getD ((rv2).toNat) default).Used))] (fun h => ⟨rfl, by rw [h]⟩) <|
.guard [((rv3.2.getD ((rv2).toNat) default).Granted).length < 2 ^ 63 ∧ ((rv3.2.getD ((rv2).toNat) default).Heard).length < 2 ^ 63 ∧ rv4.2.length < 2 ^ 63 ∧ ((rv3.2.getD ((rv2).toNat) default).Used).length < 2 ^ 63] <|
.sh (A := ((rv3.2.getD ((rv2).toNat) default).Granted).length < 2 ^ 63 ∧ ((rv3.2.getD ((rv2).toNat) default).Heard).length < 2 ^ 63 ∧ rv4.2.length < 2 ^ 63 ∧ ((rv3.2.getD ((rv2).toNat) default).Used).length < 2 ^ 63) (.ev 0) [(8, (vp 3)), (9, (vi 0))] [(8, (vp 3)), (9, (vi 0))] [(Ob.box (vi p0)), (Ob.box (vi p1)), (Ob.box (AV.agg [(vi rv3.1), (AV.ref 6 rv3.2.length 0 rv3.2.length)])), (Ob.box (AV.agg [(vi rv3.1), (AV.ref 6 rv3.2.length 0 rv3.2.length)])), Ob.dead, Ob.dead, (opS 7 TApiPot.e ((rv2).toNat) (AV.agg [(AV.d (DV.str ((rv3.2.getD ((rv2).toNat) default).Code))), (vi ((rv3.2.getD ((rv2).toNat) default).Year)), (vi ((rv3.2.getD ((rv2).toNat) default).Total)), (AV.ref 7 (((rv3.2.getD ((rv2).toNat) default).Granted).length) 0 (((rv3.2.getD ((rv2).toNat) default).Granted).length)), (AV.ref 8 (((rv3.2.getD ((rv2).toNat) default).Heard).length) 0 (((rv3.2.getD ((rv2).toNat) default).Heard).length)), (AV.ref 9 rv4.2.length 0 rv4.2.length), (AV.ref 10 (((rv3.2.getD ((rv2).toNat) default).Used).length) 0 (((rv3.2.getD ((rv2).toNat) default).Used).length))]) rv3.2), (eS 1 (DV.i .i64) ((rv3.2.getD ((rv2).toNat) default).Granted)), (eS 1 (DV.i .i64) ((rv3.2.getD ((rv2).toNat) default).Heard)), (eS 1 (DV.i .i64) rv4.2), (eS 1 (DV.i .i64) ((rv3.2.getD ((rv2).toNat) default).Used))] [(Ob.box (vi p0)), (Ob.box (vi p1)), (Ob.box (AV.agg [(vi rv3.1), (AV.ref 6 rv3.2.length 0 rv3.2.length)])), (Ob.box (AV.agg [(vi rv3.1), (AV.ref 6 rv3.2.length 0 rv3.2.length)])), Ob.dead, Ob.dead, (eS 7 TApiPot.e (rv3.2.set ((rv2).toNat) (⟨(rv3.2.getD ((rv2).toNat) default).Code, (rv3.2.getD ((rv2).toNat) default).Year, (rv3.2.getD ((rv2).toNat) default).Total, (rv3.2.getD ((rv2).toNat) default).Granted, (rv3.2.getD ((rv2).toNat) default).Heard, rv4.2, (rv3.2.getD ((rv2).toNat) default).Used⟩ : TApiPot))), Ob.dead, Ob.dead, Ob.dead, Ob.dead] (fun h => shift_close oTApiPot (P := [(Ob.box (vi p0)), (Ob.box (vi p1)), (Ob.box (AV.agg [(vi rv3.1), (AV.ref 6 rv3.2.length 0 rv3.2.length)])), (Ob.box (AV.agg [(vi rv3.1), (AV.ref 6 rv3.2.length 0 rv3.2.length)])), Ob.dead, Ob.dead]) (D := []) rfl (⟨(rv3.2.getD ((rv2).toNat) default).Code, (rv3.2.getD ((rv2).toNat) default).Year, (rv3.2.getD ((rv2).toNat) default).Total, [], [], [], []⟩ : TApiPot) (⟨(rv3.2.getD ((rv2).toNat) default).Code, (rv3.2.getD ((rv2).toNat) default).Year, (rv3.2.getD ((rv2).toNat) default).Total, (rv3.2.getD ((rv2).toNat) default).Granted, (rv3.2.getD ((rv2).toNat) default).Heard, rv4.2, (rv3.2.getD ((rv2).toNat) default).Used⟩ : TApiPot) h rfl) (trF_refl _) <|
.cst (A := True) (.pf trivial) [(8, (vp 3)), (9, (vi 0))] [(8, (vp 3)), (9, (vi 0))] [(Ob.box (vi p0)), (Ob.box (vi p1)), (Ob.box (AV.agg [(vi rv3.1), (AV.ref 6 rv3.2.length 0 rv3.2.length)])), (Ob.box (AV.agg [(vi rv3.1), (AV.ref 6 rv3.2.length 0 rv3.2.length)])), Ob.dead, Ob.dead, (eS 7 TApiPot.e (rv3.2.set ((rv2).toNat) (⟨(rv3.2.getD ((rv2).toNat) default).Code, (rv3.2.getD ((rv2).toNat) default).Year, (rv3.2.getD ((rv2).toNat) default).Total, (rv3.2.getD ((rv2).toNat) default).Granted, (rv3.2.getD ((rv2).toNat) default).Heard, rv4.2, (rv3.2.getD ((rv2).toNat) default).Used⟩ : TApiPot))), Ob.dead, Ob.dead, Ob.dead, Ob.dead] [(Ob.box (vi p0)), (Ob.box (vi p1)), (Ob.box (AV.agg [(vi rv3.1), (AV.ref 6 ((rv3.2.set ((rv2).toNat) (⟨(rv3.2.getD ((rv2).toNat) default).Code, (rv3.2.getD ((rv2).toNat) default).Year, (rv3.2.getD ((rv2).toNat) default).Total, (rv3.2.getD ((rv2).toNat) default).Granted, (rv3.2.getD ((rv2).toNat) default).Heard, rv4.2, (rv3.2.getD ((rv2).toNat) default).Used⟩ : TApiPot)).length) 0 ((rv3.2.set ((rv2).toNat) (⟨(rv3.2.getD ((rv2).toNat) default).Code, (rv3.2.getD ((rv2).toNat) default).Year, (rv3.2.getD ((rv2).toNat) default).Total, (rv3.2.getD ((rv2).toNat) default).Granted, (rv3.2.getD ((rv2).toNat) default).Heard, rv4.2, (rv3.2.getD ((rv2).toNat) default).Used⟩ : TApiPot)).length))])), (Ob.box (AV.agg [(vi rv3.1), (AV.ref 6 ((rv3.2.set ((rv2).toNat) (⟨(rv3.2.getD ((rv2).toNat) default).Code, (rv3.2.getD ((rv2).toNat) default).Year, (rv3.2.getD ((rv2).toNat) default).Total, (rv3.2.getD ((rv2).toNat) default).Granted, (rv3.2.getD ((rv2).toNat) default).Heard, rv4.2, (rv3.2.getD ((rv2).toNat) default).Used⟩ : TApiPot)).length) 0 ((rv3.2.set ((rv2).toNat) (⟨(rv3.2.getD ((rv2).toNat) default).Code, (rv3.2.getD ((rv2).toNat) default).Year, (rv3.2.getD ((rv2).toNat) default).Total, (rv3.2.getD ((rv2).toNat) default).Granted, (rv3.2.getD ((rv2).toNat) default).Heard, rv4.2, (rv3.2.getD ((rv2).toNat) default).Used⟩ : TApiPot)).length))])), Ob.dead, Ob.dead, (eS 7 TApiPot.e (rv3.2.set ((rv2).toNat) (⟨(rv3.2.getD ((rv2).toNat) default).Code, (rv3.2.getD ((rv2).toNat) default).Year, (rv3.2.getD ((rv2).toNat) default).Total, (rv3.2.getD ((rv2).toNat) default).Granted, (rv3.2.getD ((rv2).toNat) default).Heard, rv4.2, (rv3.2.getD ((rv2).toNat) default).Used⟩ : TApiPot))), Ob.dead, Ob.dead, Ob.dead, Ob.dead] (fun _ => ⟨by simp only, by simp only [List.length_set]⟩) <|
.guard [(rv3.2.set ((rv2).toNat) (⟨(rv3.2.getD ((rv2).toNat) default).Code, (rv3.2.getD ((rv2).toNat) default).Year, (rv3.2.getD ((rv2).toNat) default).Total, (rv3.2.getD ((rv2).toNat) default).Granted, (rv3.2.getD ((rv2).toNat) default).Heard, rv4.2, (rv3.2.getD ((rv2).toNat) default).Used⟩ : TApiPot)).length < 2 ^ 63] <|
.frz 6 (.ev 0) none [] [2, 3] <|
.ret [] ((⟨rv3.1, (rv3.2.set ((rv2).toNat) (⟨(rv3.2.getD ((rv2).toNat) default).Code, (rv3.2.getD ((rv2).toNat) default).Year, (rv3.2.getD ((rv2).toNat) default).Total, (rv3.2.getD ((rv2).toNat) default).Granted, (rv3.2.getD ((rv2).toNat) default).Heard, rv4.2, (rv3.2.getD ((rv2).toNat) default).Used⟩ : TApiPot))⟩ : TApiTreasury), 0))))
def F_rights_change_rights_Ask_1 (a0 : TApiTreasury) (a1 : List UInt8) (a2 : Int) (p0 : Int) (p1 : Int) : Option R_rights_change_rights_Ask_1 := (S_rights_change_rights_Ask_1 a0 a1 a2 p0 p1).den
set_option maxRecDepth 100000 in
theorem F_rights_change_rights_Ask_1_ok {a0 : TApiTreasury} {a1 : List UInt8} {a2 : Int} {p0 : Int} {p1 : Int} (r : R_rights_change_rights_Ask_1) (h : F_rights_change_rights_Ask_1 a0 a1 a2 p0 p1 = some r) : CallOk Tryz.prog 55 [(AV.d (TApiTreasury.e a0)), (AV.d (DV.str a1)), (vi a2), (AV.fn 56 [(vp 0), (vp 1)])] [(Ob.box (vi p0)), (Ob.box (vi p1))] (V_rights_change_rights_Ask_1 r) (L_rights_change_rights_Ask_1 p0 p1 r) := fOk (s := S_rights_change_rights_Ask_1 a0 a1 a2 p0 p1) Tryz.func55 rfl (by kernel_rfl) h
/-! 38 -/
abbrev R_rights_Ask := TApiTreasury × Int
def V_rights_Ask (x : R_rights_Ask) : AV := (AV.tup [(AV.d (TApiTreasury.e x.1)), (vi x.2)])
def L_rights_Ask (_ : R_rights_Ask) : List Ob := []
def S_rights_Ask (a0 : TApiTreasury) (a1 : Int) (a2 : List UInt8) (a3 : Int) (a4 : Int) : Scr Tryz.prog R_rights_Ask R_rights_Ask :=
.reg 0 [] [(3, { obs := [(3, (bx (TApiTreasury.e (⟨0, []⟩ : TApiTreasury))))] })] [.pf cz4] <|
.call (@F_rights_change_rights_Ask_1_ok a0 a2 a3 a1 a4) fun rv1 cv1 =>
.reg 1 [] [(4, hc cv1 [1, 2] true)] [.cl 0 cv1 [1, 2] 4 true] <|
.ret [] (rv1.1, rv1.2)
def F_rights_Ask (a0 : TApiTreasury) (a1 : Int) (a2 : List UInt8) (a3 : Int) (a4 : Int) : Option R_rights_Ask := (S_rights_Ask a0 a1 a2 a3 a4).den
set_option maxRecDepth 100000 in
theorem F_rights_Ask_ok {a0 : TApiTreasury} {a1 : Int} {a2 : List UInt8} {a3 : Int} {a4 : Int} (r : R_rights_Ask) (h : F_rights_Ask a0 a1 a2 a3 a4 = some r) : CallOk Tryz.prog 38 [(AV.d (TApiTreasury.e a0)), (vi a1), (AV.d (DV.str a2)), (vi a3), (vi a4)] [] (V_rights_Ask r) (L_rights_Ask r) := fOk (s := S_rights_Ask a0 a1 a2 a3 a4) Tryz.func38 rfl (by kernel_rfl) h
/-! 39 -/
abbrev R_rights_Tell := TApiMessage × Int
def V_rights_Tell (x : R_rights_Tell) : AV := (AV.tup [(AV.d (TApiMessage.e x.1)), (vi x.2)])
def L_rights_Tell (_ : R_rights_Tell) : List Ob := []
def S_rights_Tell (a0 : TApiTreasury) (a1 : Int) (a2 : List UInt8) (a3 : Int) : Scr Tryz.prog R_rights_Tell R_rights_Tell :=
.call (@F_rights_Valid_ok a0) fun rv1 cv1 =>
.reg 1 [] [(1, hc cv1 [] true)] [.cl 0 cv1 [] 2 true] <|
.ite (!rv1) (
.ret [] ((⟨0, 0, [], 0, 0, 0, 0, 0⟩ : TApiMessage), 1)) (
.call (@F_rights_Pot_ok a0 a2 a3) fun rv2 cv2 =>
.reg 3 [] [(3, hc cv2 [] true), (7, { obs := [(2, (bx (TApiPot.e (⟨[], 0, 0, [], [], [], []⟩ : TApiPot))))] })] [.cl 0 cv2 [] 2 true, .pf cz2] <|
.calld [(!rv2.2) = false] default (@F_rights_among_ok a1 1 a0.Offices) fun rv3 cv3 =>
.reg 4 [] [(6, hc cv3 [] true)] [.clg 0 [(!rv2.2) = false] cv3 [] 3 true] <|
.ite (bif (!rv2.2) then true else (!rv3)) (
.ret [] ((⟨0, 0, [], 0, 0, 0, 0, 0⟩ : TApiMessage), 6)) (
.guard [(0 : Int) ≤ (IntKind.i64.wrap (a1 - 1)), ((IntKind.i64.wrap (a1 - 1))).toNat < rv2.1.Granted.length, ((IntKind.i64.wrap (a1 - 1))).toNat < rv2.1.Asked.length] <|
.reg 6 [16] [] [.ev 0, .ev 1, .ev 0, .ev 2] <|
.ret [] ((⟨0, a1, a2, a3, (rv2.1.Granted.getD (((IntKind.i64.wrap (a1 - 1))).toNat) default), (rv2.1.Asked.getD (((IntKind.i64.wrap (a1 - 1))).toNat) default), 0, 0⟩ : TApiMessage), 0)))
def F_rights_Tell (a0 : TApiTreasury) (a1 : Int) (a2 : List UInt8) (a3 : Int) : Option R_rights_Tell := (S_rights_Tell a0 a1 a2 a3).den
set_option maxRecDepth 100000 in
theorem F_rights_Tell_ok {a0 : TApiTreasury} {a1 : Int} {a2 : List UInt8} {a3 : Int} (r : R_rights_Tell) (h : F_rights_Tell a0 a1 a2 a3 = some r) : CallOk Tryz.prog 39 [(AV.d (TApiTreasury.e a0)), (vi a1), (AV.d (DV.str a2)), (vi a3)] [] (V_rights_Tell r) (L_rights_Tell r) := fOk (s := S_rights_Tell a0 a1 a2 a3) Tryz.func39 rfl (by kernel_rfl) h
/-! 23 -/
abbrev R_reduction_Reduce := TApiTreasury × (List TApiMessage) × Int
def V_reduction_Reduce (x : R_reduction_Reduce) : AV := (AV.tup [(AV.d (TApiTreasury.e x.1)), (AV.d (eL TApiMessage.e x.2.1)), (vi x.2.2)])
def L_reduction_Reduce (_ : R_reduction_Reduce) : List Ob := []
def S_reduction_Reduce_b1 (a1 : List UInt8) (a2 : Int) (rv1 : R_rights_Pot) (rv2 : R_reduction_Plan) (iv3 : Nat) (sv4 : TApiTreasury × (List TApiMessage)) : Scr Tryz.prog R_reduction_Reduce (Step (TApiTreasury × (List TApiMessage)) R_reduction_Reduce) :=
.reg 8 [] [] [.pf (nn iv3), .ev 0] <|
.ite ((rv2.getD iv3 default) == 0) (
.ret [] (.cont (sv4.1, sv4.2))) (
.call (@F_rights_Ask_ok sv4.1 (IntKind.i64.wrap ((iv3 : Int) + 1)) a1 a2 (IntKind.i64.wrap ((rv2.getD iv3 default) + (if 0 > (IntKind.i64.wrap ((rv1.1.Heard.getD iv3 default) - (rv1.1.Asked.getD iv3 default))) then 0 else (IntKind.i64.wrap ((rv1.1.Heard.getD iv3 default) - (rv1.1.Asked.getD iv3 default))))))) fun rv5 cv5 =>
.guard [iv3 < rv1.1.Heard.length, iv3 < rv1.1.Asked.length] <|
.reg 10 [23] [(19, hc cv5 [] true)] [.pf (nn iv3), .ev 0, .pf (nn iv3), .ev 1, .cl 2 cv5 [] 4 true] <|
.call (@F_rights_Tell_ok rv5.1 (IntKind.i64.wrap ((iv3 : Int) + 1)) a1 a2) fun rv6 cv6 =>
.reg 11 [] [(5, hc cv6 [] true)] [.cl 0 cv6 [] 4 true] <|
.guard [(sv4.2.length + 1) * (2 * 72) ≤ 2 ^ 48] <|
.reg 12 [] [(2, hv (AV.d (eL TApiMessage.e ([rv6.1] : List TApiMessage)))), (3, { h := .obj, cast := some (AV.ref 3 ((sv4.2 ++ ([rv6.1] : List TApiMessage)).length) 0 ((sv4.2 ++ ([rv6.1] : List TApiMessage)).length)), obs := [(3, (eS 8 TApiMessage.e (sv4.2 ++ ([rv6.1] : List TApiMessage))))] })] [.pf (leV_lit TApiMessage.e ([rv6.1] : List TApiMessage)), .pf (Eq.refl sv4.2.length), .pf (Eq.refl sv4.2.length), .pf (p := ∀ k, k < 1 → (AV.d (TApiMessage.e (([rv6.1] : List TApiMessage).getD k default))).wd = 8) (fun _ _ => rfl), .ev 0, .pf (leV_app (o := 3) (l := sv4.2) (x := ([rv6.1] : List TApiMessage))), .pf (oLe_app (sz := 8) (e := TApiMessage.e) (l := sv4.2) (x := ([rv6.1] : List TApiMessage)))] <|
.ret [] (.cont (rv5.1, (sv4.2 ++ ([rv6.1] : List TApiMessage)))))
def S_reduction_Reduce (a0 : TApiTreasury) (a1 : List UInt8) (a2 : Int) (a3 : Int) : Scr Tryz.prog R_reduction_Reduce R_reduction_Reduce :=
.reg 0 [] [(1, { obs := [(1, (bx (TApiTreasury.e (⟨0, []⟩ : TApiTreasury))))] })] [.pf cz4] <|
.call (@F_rights_Set_ok a0 a1 a2 a3) fun rv7 cv7 =>
.reg 1 [] [(4, hc cv7 [] true)] [.cl 0 cv7 [] 2 true] <|
.ite (rv7.2 != 0) (
.reg 3 [] [(0, hv (AV.d (TApiTreasury.e (⟨0, []⟩ : TApiTreasury))))] [.pf cz5] <|
.ret [.pf (p := LeV (AV.tup [(AV.d (TApiTreasury.e (⟨0, []⟩ : TApiTreasury))), (AV.full 0 fun _ => DV.b false), (vi rv7.2)]) (AV.tup [(AV.d (TApiTreasury.e (⟨0, []⟩ : TApiTreasury))), (AV.d (eL TApiMessage.e ([]))), (vi rv7.2)])) (LeV.tup (LeVs.cons (LeV.refl _) (LeVs.cons (lvN TApiMessage.e) (LeVs.cons (LeV.refl _) LeVs.nil))))] ((⟨0, []⟩ : TApiTreasury), [], rv7.2)) (
.call (@F_rights_Pot_ok rv7.1 a1 a2) fun rv1 cv1 =>
.reg 4 [] [(3, hc cv1 [] true), (7, { obs := [(2, (bx (TApiPot.e (⟨[], 0, 0, [], [], [], []⟩ : TApiPot))))] })] [.cl 0 cv1 [] 2 true, .pf cz2] <|
.call (@F_reduction_Plan_ok rv1.1) fun rv2 cv2 =>
.reg 6 [] [(1, hc cv2 [] true)] [.cl 0 cv2 [] 3 true] <|
.bor 8 (fun j => AV.d (TApiMessage.e (([] : List TApiMessage).getD j default))) [14] <|
.range (rv2.length : Int) rv2.length rfl (.slot 39) 41 [1, 2, 4, 8, 12, 39, 40] (fun (sv4 : TApiTreasury × (List TApiMessage)) => [(14, (AV.ref 3 sv4.2.length 0 sv4.2.length))]) (fun (sv4 : TApiTreasury × (List TApiMessage)) => [(0, (bx (TApiTreasury.e sv4.1))), (3, (eS 8 TApiMessage.e sv4.2))]) (rv7.1, ([] : List TApiMessage)) (S_reduction_Reduce_b1 a1 a2 rv1 rv2) (fun (sv4 : TApiTreasury × (List TApiMessage)) => 
.guard [sv4.2.length < 2 ^ 63] <|
.reg 14 [] [] [] <|
.frz 3 (.ev 0) none [9] [] <|
.ret [] (sv4.1, sv4.2, 0)) id)
def F_reduction_Reduce (a0 : TApiTreasury) (a1 : List UInt8) (a2 : Int) (a3 : Int) : Option R_reduction_Reduce := (S_reduction_Reduce a0 a1 a2 a3).den
set_option maxRecDepth 100000 in
theorem F_reduction_Reduce_ok {a0 : TApiTreasury} {a1 : List UInt8} {a2 : Int} {a3 : Int} (r : R_reduction_Reduce) (h : F_reduction_Reduce a0 a1 a2 a3 = some r) : CallOk Tryz.prog 23 [(AV.d (TApiTreasury.e a0)), (AV.d (DV.str a1)), (vi a2), (vi a3)] [] (V_reduction_Reduce r) (L_reduction_Reduce r) := fOk (s := S_reduction_Reduce a0 a1 a2 a3) Tryz.func23 rfl (by kernel_rfl) h
/-! 24 -/
theorem cz8 : LeV (AV.full 0 fun _ => DV.b false) (AV.d (eL TApiLine.e ([]))) := lvN TApiLine.e
abbrev R_reduction_Shortfalls := (List TApiLine)
def V_reduction_Shortfalls (x : R_reduction_Shortfalls) : AV := (AV.d (eL TApiLine.e x))
def L_reduction_Shortfalls (_ : R_reduction_Shortfalls) : List Ob := []
def S_reduction_Shortfalls_b1 (a0 : TApiTreasury) (iv1 : Nat) (sv2 : (List TApiLine)) : Scr Tryz.prog R_reduction_Shortfalls (Step ((List TApiLine)) R_reduction_Shortfalls) :=
.reg 6 [] [(2, { obs := [(2, (bx (TApiPot.e (⟨[], 0, 0, [], [], [], []⟩ : TApiPot))))] })] [.pf (nn iv1), .ev 0, .pf cz2] <|
.call (@F_rights_Shortfall_ok (a0.Pots.getD iv1 default)) fun rv3 cv3 =>
.reg 7 [] [(1, hc cv3 [] true)] [.cl 0 cv3 [] 3 true] <|
.ite (decide (rv3 > 0)) (
.guard [(sv2.length + 1) * (2 * 32) ≤ 2 ^ 48] <|
.reg 9 [] [(7, hv (AV.d (eL TApiLine.e ([(⟨(a0.Pots.getD iv1 default).Code, (a0.Pots.getD iv1 default).Year, rv3⟩ : TApiLine)] : List TApiLine)))), (8, { h := .obj, cast := some (AV.ref 1 ((sv2 ++ ([(⟨(a0.Pots.getD iv1 default).Code, (a0.Pots.getD iv1 default).Year, rv3⟩ : TApiLine)] : List TApiLine)).length) 0 ((sv2 ++ ([(⟨(a0.Pots.getD iv1 default).Code, (a0.Pots.getD iv1 default).Year, rv3⟩ : TApiLine)] : List TApiLine)).length)), obs := [(1, (eS 3 TApiLine.e (sv2 ++ ([(⟨(a0.Pots.getD iv1 default).Code, (a0.Pots.getD iv1 default).Year, rv3⟩ : TApiLine)] : List TApiLine))))] })] [.pf (leV_lit TApiLine.e ([(⟨(a0.Pots.getD iv1 default).Code, (a0.Pots.getD iv1 default).Year, rv3⟩ : TApiLine)] : List TApiLine)), .pf (Eq.refl sv2.length), .pf (Eq.refl sv2.length), .pf (p := ∀ k, k < 1 → (AV.d (TApiLine.e (([(⟨(a0.Pots.getD iv1 default).Code, (a0.Pots.getD iv1 default).Year, rv3⟩ : TApiLine)] : List TApiLine).getD k default))).wd = 3) (fun _ _ => rfl), .ev 0, .pf (leV_app (o := 1) (l := sv2) (x := ([(⟨(a0.Pots.getD iv1 default).Code, (a0.Pots.getD iv1 default).Year, rv3⟩ : TApiLine)] : List TApiLine))), .pf (oLe_app (sz := 3) (e := TApiLine.e) (l := sv2) (x := ([(⟨(a0.Pots.getD iv1 default).Code, (a0.Pots.getD iv1 default).Year, rv3⟩ : TApiLine)] : List TApiLine)))] <|
.ret [] (.cont (sv2 ++ ([(⟨(a0.Pots.getD iv1 default).Code, (a0.Pots.getD iv1 default).Year, rv3⟩ : TApiLine)] : List TApiLine)))) (
.ret [] (.cont sv2))
def S_reduction_Shortfalls (a0 : TApiTreasury) : Scr Tryz.prog R_reduction_Shortfalls R_reduction_Shortfalls :=
.call (@F_rights_Valid_ok a0) fun rv4 cv4 =>
.reg 1 [] [(1, hc cv4 [] true)] [.cl 0 cv4 [] 1 true] <|
.ite (!rv4) (
.ret [.pf cz8] ([])) (
.reg 4 [] [] [] <|
.bor 3 (fun j => AV.d (TApiLine.e (([] : List TApiLine).getD j default))) [3] <|
.range (a0.Pots.length : Int) a0.Pots.length rfl (.slot 11) 13 [11, 12] (fun (sv2 : (List TApiLine)) => [(3, (AV.ref 1 sv2.length 0 sv2.length))]) (fun (sv2 : (List TApiLine)) => [(1, (eS 3 TApiLine.e sv2))]) ([] : List TApiLine) (S_reduction_Shortfalls_b1 a0) (fun (sv2 : (List TApiLine)) => 
.guard [sv2.length < 2 ^ 63] <|
.reg 11 [] [] [] <|
.frz 1 (.ev 0) none [2] [] <|
.ret [] sv2) id)
def F_reduction_Shortfalls (a0 : TApiTreasury) : Option R_reduction_Shortfalls := (S_reduction_Shortfalls a0).den
set_option maxRecDepth 100000 in
theorem F_reduction_Shortfalls_ok {a0 : TApiTreasury} (r : R_reduction_Shortfalls) (h : F_reduction_Shortfalls a0 = some r) : CallOk Tryz.prog 24 [(AV.d (TApiTreasury.e a0))] [] (V_reduction_Shortfalls r) (L_reduction_Shortfalls r) := fOk (s := S_reduction_Shortfalls a0) Tryz.func24 rfl (by kernel_rfl) h
/-! 9 -/
abbrev R_w18_awake := Bool
def V_w18_awake (x : R_w18_awake) : AV := (vb x)
def L_w18_awake (_ : R_w18_awake) : List Ob := []
def S_w18_awake : Scr Tryz.prog R_w18_awake R_w18_awake :=
.reg 1 [] [(0, hv (vl ([60, 40] : List Int))), (1, hv (vl ([0, 0] : List Int))), (2, hv (vl ([0, 0] : List Int))), (3, hv (vl ([50, 10] : List Int))), (5, hv (AV.d (eL TApiPot.e ([(⟨[49], 12, 100, ([60, 40] : List Int), ([0, 0] : List Int), ([0, 0] : List Int), ([50, 10] : List Int)⟩ : TApiPot)] : List TApiPot)))), (7, { obs := [(0, (bx (TApiTreasury.e (⟨0, []⟩ : TApiTreasury))))] })] [.pf (leV_lit (DV.i .i64) ([60, 40] : List Int)), .pf (leV_lit (DV.i .i64) ([0, 0] : List Int)), .pf (leV_lit (DV.i .i64) ([0, 0] : List Int)), .pf (leV_lit (DV.i .i64) ([50, 10] : List Int)), .pf (leV_lit TApiPot.e ([(⟨[49], 12, 100, ([60, 40] : List Int), ([0, 0] : List Int), ([0, 0] : List Int), ([50, 10] : List Int)⟩ : TApiPot)] : List TApiPot)), .pf cz4] <|
.call (@F_reduction_Reduce_ok (⟨2, ([(⟨[49], 12, 100, ([60, 40] : List Int), ([0, 0] : List Int), ([0, 0] : List Int), ([50, 10] : List Int)⟩ : TApiPot)] : List TApiPot)⟩ : TApiTreasury) ([49]) 12 55) fun rv1 cv1 =>
.reg 2 [] [(1, hc cv1 [] true), (6, { obs := [(1, (bx (TApiTreasury.e (⟨0, []⟩ : TApiTreasury))))] })] [.cl 0 cv1 [] 1 true, .pf cz4] <|
.call (@F_reduction_Shortfalls_ok rv1.1) fun rv2 cv2 =>
.reg 3 [] [(1, hc cv2 [] true)] [.cl 0 cv2 [] 2 true] <|
.guard [AllP [(bif (rv1.2.2 == 0) then ((rv1.2.1.length : Int) == 2) else false) = true] → (0 < rv1.2.1.length), AllP [(bif (bif (rv1.2.2 == 0) then ((rv1.2.1.length : Int) == 2) else false) then (((rv1.2.1.getD 0 default).Asked) == 10) else false) = true] → (1 < rv1.2.1.length), AllP [(bif (bif (bif (bif (rv1.2.2 == 0) then ((rv1.2.1.length : Int) == 2) else false) then (((rv1.2.1.getD 0 default).Asked) == 10) else false) then (((rv1.2.1.getD 1 default).Asked) == 30) else false) then ((rv2.length : Int) == 1) else false) = true] → (0 < rv2.length)] <|
.reg 4 [] [] [.pf (p := AllP [(bif (rv1.2.2 == 0) then ((rv1.2.1.length : Int) == 2) else false) = true] → ((0 : Int) ≤ 0)) (fun _ => (by decide)), .ev 0, .pf (p := AllP [(bif (bif (rv1.2.2 == 0) then ((rv1.2.1.length : Int) == 2) else false) then (((rv1.2.1.getD 0 default).Asked) == 10) else false) = true] → ((0 : Int) ≤ 1)) (fun _ => (by decide)), .ev 1, .pf (p := AllP [(bif (bif (bif (bif (rv1.2.2 == 0) then ((rv1.2.1.length : Int) == 2) else false) then (((rv1.2.1.getD 0 default).Asked) == 10) else false) then (((rv1.2.1.getD 1 default).Asked) == 30) else false) then ((rv2.length : Int) == 1) else false) = true] → ((0 : Int) ≤ 0)) (fun _ => (by decide)), .ev 2] <|
.ret [] (bif (bif (bif (bif (bif (rv1.2.2 == 0) then ((rv1.2.1.length : Int) == 2) else false) then (((rv1.2.1.getD 0 default).Asked) == 10) else false) then (((rv1.2.1.getD 1 default).Asked) == 30) else false) then ((rv2.length : Int) == 1) else false) then ((((rv2.getD 0 default).Code) == ([49])) && ((((rv2.getD 0 default).Year) == 12) && ((((rv2.getD 0 default).Amount) == 45) && true))) else false)
def F_w18_awake : Option R_w18_awake := (S_w18_awake).den
set_option maxRecDepth 100000 in
theorem F_w18_awake_ok (r : R_w18_awake) (h : F_w18_awake = some r) : CallOk Tryz.prog 9 [] [] (V_w18_awake r) (L_w18_awake r) := fOk (s := S_w18_awake) Tryz.func9 rfl (by kernel_rfl) h
end
end Go.Proofs.YtfiljdbmhegjgaaGreatDoor
/- What the functions compute, and that their calls return it. No condition. -/
namespace Go.Proofs.YtfiljdbmhegjgaaGreatDoor
open Go Go.TA
noncomputable section
/-! 3 -/
abbrev R_w18_ReductionPlans := Bool
def V_w18_ReductionPlans (x : R_w18_ReductionPlans) : AV := (vb x)
def L_w18_ReductionPlans (_ : R_w18_ReductionPlans) : List Ob := []
def S_w18_ReductionPlans_b1 (rv1 : R_mk_Treasury) (iv2 : Nat) (rv3 : R_reduction_Plan) (iv4 : Nat) (sv5 : (List Int) × Int × Int × Int) : Scr Tryz.prog R_w18_ReductionPlans (Step ((List Int) × Int × Int × Int) R_w18_ReductionPlans) :=
.reg 13 [] [] [.pf (nn iv4), .ev 0] <|
.guard [iv4 < ((rv1.1.Pots.getD iv2 default).Granted).length, iv4 < ((rv1.1.Pots.getD iv2 default).Heard).length, iv4 < ((rv1.1.Pots.getD iv2 default).Used).length] <|
.reg 14 [] [] [.pf (nn iv4), .ev 0, .pf (nn iv4), .ev 1, .pf (nn iv4), .ev 2] <|
.guard [iv4 < ((rv1.1.Pots.getD iv2 default).Asked).length] <|
.reg 15 [] [] [.pf (nn iv4), .ev 0, .pf (nn iv4), .ev 2] <|
.ite (bif (decide ((rv3.getD iv4 default) < 0)) then true else (decide ((rv3.getD iv4 default) > (IntKind.i64.wrap ((if (IntKind.i64.wrap ((IntKind.i64.wrap ((((rv1.1.Pots.getD iv2 default).Granted).getD iv4 default) - (((rv1.1.Pots.getD iv2 default).Heard).getD iv4 default))) - (((rv1.1.Pots.getD iv2 default).Used).getD iv4 default))) > 0 then (IntKind.i64.wrap ((IntKind.i64.wrap ((((rv1.1.Pots.getD iv2 default).Granted).getD iv4 default) - (((rv1.1.Pots.getD iv2 default).Heard).getD iv4 default))) - (((rv1.1.Pots.getD iv2 default).Used).getD iv4 default))) else 0) - (if (if (IntKind.i64.wrap ((IntKind.i64.wrap ((((rv1.1.Pots.getD iv2 default).Granted).getD iv4 default) - (((rv1.1.Pots.getD iv2 default).Heard).getD iv4 default))) - (((rv1.1.Pots.getD iv2 default).Used).getD iv4 default))) > 0 then (IntKind.i64.wrap ((IntKind.i64.wrap ((((rv1.1.Pots.getD iv2 default).Granted).getD iv4 default) - (((rv1.1.Pots.getD iv2 default).Heard).getD iv4 default))) - (((rv1.1.Pots.getD iv2 default).Used).getD iv4 default))) else 0) < (if (IntKind.i64.wrap ((((rv1.1.Pots.getD iv2 default).Asked).getD iv4 default) - (((rv1.1.Pots.getD iv2 default).Heard).getD iv4 default))) > 0 then (IntKind.i64.wrap ((((rv1.1.Pots.getD iv2 default).Asked).getD iv4 default) - (((rv1.1.Pots.getD iv2 default).Heard).getD iv4 default))) else 0) then (if (IntKind.i64.wrap ((IntKind.i64.wrap ((((rv1.1.Pots.getD iv2 default).Granted).getD iv4 default) - (((rv1.1.Pots.getD iv2 default).Heard).getD iv4 default))) - (((rv1.1.Pots.getD iv2 default).Used).getD iv4 default))) > 0 then (IntKind.i64.wrap ((IntKind.i64.wrap ((((rv1.1.Pots.getD iv2 default).Granted).getD iv4 default) - (((rv1.1.Pots.getD iv2 default).Heard).getD iv4 default))) - (((rv1.1.Pots.getD iv2 default).Used).getD iv4 default))) else 0) else (if (IntKind.i64.wrap ((((rv1.1.Pots.getD iv2 default).Asked).getD iv4 default) - (((rv1.1.Pots.getD iv2 default).Heard).getD iv4 default))) > 0 then (IntKind.i64.wrap ((((rv1.1.Pots.getD iv2 default).Asked).getD iv4 default) - (((rv1.1.Pots.getD iv2 default).Heard).getD iv4 default))) else 0))))))) (
.ret [] (.ret false)) (
.guard [(sv5.1.length + 1) * (2 * 8) ≤ 2 ^ 48] <|
.reg 21 [] [(2, hv (vl ([(IntKind.i64.wrap ((if (IntKind.i64.wrap ((IntKind.i64.wrap ((((rv1.1.Pots.getD iv2 default).Granted).getD iv4 default) - (((rv1.1.Pots.getD iv2 default).Heard).getD iv4 default))) - (((rv1.1.Pots.getD iv2 default).Used).getD iv4 default))) > 0 then (IntKind.i64.wrap ((IntKind.i64.wrap ((((rv1.1.Pots.getD iv2 default).Granted).getD iv4 default) - (((rv1.1.Pots.getD iv2 default).Heard).getD iv4 default))) - (((rv1.1.Pots.getD iv2 default).Used).getD iv4 default))) else 0) - (if (if (IntKind.i64.wrap ((IntKind.i64.wrap ((((rv1.1.Pots.getD iv2 default).Granted).getD iv4 default) - (((rv1.1.Pots.getD iv2 default).Heard).getD iv4 default))) - (((rv1.1.Pots.getD iv2 default).Used).getD iv4 default))) > 0 then (IntKind.i64.wrap ((IntKind.i64.wrap ((((rv1.1.Pots.getD iv2 default).Granted).getD iv4 default) - (((rv1.1.Pots.getD iv2 default).Heard).getD iv4 default))) - (((rv1.1.Pots.getD iv2 default).Used).getD iv4 default))) else 0) < (if (IntKind.i64.wrap ((((rv1.1.Pots.getD iv2 default).Asked).getD iv4 default) - (((rv1.1.Pots.getD iv2 default).Heard).getD iv4 default))) > 0 then (IntKind.i64.wrap ((((rv1.1.Pots.getD iv2 default).Asked).getD iv4 default) - (((rv1.1.Pots.getD iv2 default).Heard).getD iv4 default))) else 0) then (if (IntKind.i64.wrap ((IntKind.i64.wrap ((((rv1.1.Pots.getD iv2 default).Granted).getD iv4 default) - (((rv1.1.Pots.getD iv2 default).Heard).getD iv4 default))) - (((rv1.1.Pots.getD iv2 default).Used).getD iv4 default))) > 0 then (IntKind.i64.wrap ((IntKind.i64.wrap ((((rv1.1.Pots.getD iv2 default).Granted).getD iv4 default) - (((rv1.1.Pots.getD iv2 default).Heard).getD iv4 default))) - (((rv1.1.Pots.getD iv2 default).Used).getD iv4 default))) else 0) else (if (IntKind.i64.wrap ((((rv1.1.Pots.getD iv2 default).Asked).getD iv4 default) - (((rv1.1.Pots.getD iv2 default).Heard).getD iv4 default))) > 0 then (IntKind.i64.wrap ((((rv1.1.Pots.getD iv2 default).Asked).getD iv4 default) - (((rv1.1.Pots.getD iv2 default).Heard).getD iv4 default))) else 0))))] : List Int))), (3, { h := .obj, cast := some (AV.ref 3 ((sv5.1 ++ ([(IntKind.i64.wrap ((if (IntKind.i64.wrap ((IntKind.i64.wrap ((((rv1.1.Pots.getD iv2 default).Granted).getD iv4 default) - (((rv1.1.Pots.getD iv2 default).Heard).getD iv4 default))) - (((rv1.1.Pots.getD iv2 default).Used).getD iv4 default))) > 0 then (IntKind.i64.wrap ((IntKind.i64.wrap ((((rv1.1.Pots.getD iv2 default).Granted).getD iv4 default) - (((rv1.1.Pots.getD iv2 default).Heard).getD iv4 default))) - (((rv1.1.Pots.getD iv2 default).Used).getD iv4 default))) else 0) - (if (if (IntKind.i64.wrap ((IntKind.i64.wrap ((((rv1.1.Pots.getD iv2 default).Granted).getD iv4 default) - (((rv1.1.Pots.getD iv2 default).Heard).getD iv4 default))) - (((rv1.1.Pots.getD iv2 default).Used).getD iv4 default))) > 0 then (IntKind.i64.wrap ((IntKind.i64.wrap ((((rv1.1.Pots.getD iv2 default).Granted).getD iv4 default) - (((rv1.1.Pots.getD iv2 default).Heard).getD iv4 default))) - (((rv1.1.Pots.getD iv2 default).Used).getD iv4 default))) else 0) < (if (IntKind.i64.wrap ((((rv1.1.Pots.getD iv2 default).Asked).getD iv4 default) - (((rv1.1.Pots.getD iv2 default).Heard).getD iv4 default))) > 0 then (IntKind.i64.wrap ((((rv1.1.Pots.getD iv2 default).Asked).getD iv4 default) - (((rv1.1.Pots.getD iv2 default).Heard).getD iv4 default))) else 0) then (if (IntKind.i64.wrap ((IntKind.i64.wrap ((((rv1.1.Pots.getD iv2 default).Granted).getD iv4 default) - (((rv1.1.Pots.getD iv2 default).Heard).getD iv4 default))) - (((rv1.1.Pots.getD iv2 default).Used).getD iv4 default))) > 0 then (IntKind.i64.wrap ((IntKind.i64.wrap ((((rv1.1.Pots.getD iv2 default).Granted).getD iv4 default) - (((rv1.1.Pots.getD iv2 default).Heard).getD iv4 default))) - (((rv1.1.Pots.getD iv2 default).Used).getD iv4 default))) else 0) else (if (IntKind.i64.wrap ((((rv1.1.Pots.getD iv2 default).Asked).getD iv4 default) - (((rv1.1.Pots.getD iv2 default).Heard).getD iv4 default))) > 0 then (IntKind.i64.wrap ((((rv1.1.Pots.getD iv2 default).Asked).getD iv4 default) - (((rv1.1.Pots.getD iv2 default).Heard).getD iv4 default))) else 0))))] : List Int)).length) 0 ((sv5.1 ++ ([(IntKind.i64.wrap ((if (IntKind.i64.wrap ((IntKind.i64.wrap ((((rv1.1.Pots.getD iv2 default).Granted).getD iv4 default) - (((rv1.1.Pots.getD iv2 default).Heard).getD iv4 default))) - (((rv1.1.Pots.getD iv2 default).Used).getD iv4 default))) > 0 then (IntKind.i64.wrap ((IntKind.i64.wrap ((((rv1.1.Pots.getD iv2 default).Granted).getD iv4 default) - (((rv1.1.Pots.getD iv2 default).Heard).getD iv4 default))) - (((rv1.1.Pots.getD iv2 default).Used).getD iv4 default))) else 0) - (if (if (IntKind.i64.wrap ((IntKind.i64.wrap ((((rv1.1.Pots.getD iv2 default).Granted).getD iv4 default) - (((rv1.1.Pots.getD iv2 default).Heard).getD iv4 default))) - (((rv1.1.Pots.getD iv2 default).Used).getD iv4 default))) > 0 then (IntKind.i64.wrap ((IntKind.i64.wrap ((((rv1.1.Pots.getD iv2 default).Granted).getD iv4 default) - (((rv1.1.Pots.getD iv2 default).Heard).getD iv4 default))) - (((rv1.1.Pots.getD iv2 default).Used).getD iv4 default))) else 0) < (if (IntKind.i64.wrap ((((rv1.1.Pots.getD iv2 default).Asked).getD iv4 default) - (((rv1.1.Pots.getD iv2 default).Heard).getD iv4 default))) > 0 then (IntKind.i64.wrap ((((rv1.1.Pots.getD iv2 default).Asked).getD iv4 default) - (((rv1.1.Pots.getD iv2 default).Heard).getD iv4 default))) else 0) then (if (IntKind.i64.wrap ((IntKind.i64.wrap ((((rv1.1.Pots.getD iv2 default).Granted).getD iv4 default) - (((rv1.1.Pots.getD iv2 default).Heard).getD iv4 default))) - (((rv1.1.Pots.getD iv2 default).Used).getD iv4 default))) > 0 then (IntKind.i64.wrap ((IntKind.i64.wrap ((((rv1.1.Pots.getD iv2 default).Granted).getD iv4 default) - (((rv1.1.Pots.getD iv2 default).Heard).getD iv4 default))) - (((rv1.1.Pots.getD iv2 default).Used).getD iv4 default))) else 0) else (if (IntKind.i64.wrap ((((rv1.1.Pots.getD iv2 default).Asked).getD iv4 default) - (((rv1.1.Pots.getD iv2 default).Heard).getD iv4 default))) > 0 then (IntKind.i64.wrap ((((rv1.1.Pots.getD iv2 default).Asked).getD iv4 default) - (((rv1.1.Pots.getD iv2 default).Heard).getD iv4 default))) else 0))))] : List Int)).length)), obs := [(3, (eS 1 (DV.i .i64) (sv5.1 ++ ([(IntKind.i64.wrap ((if (IntKind.i64.wrap ((IntKind.i64.wrap ((((rv1.1.Pots.getD iv2 default).Granted).getD iv4 default) - (((rv1.1.Pots.getD iv2 default).Heard).getD iv4 default))) - (((rv1.1.Pots.getD iv2 default).Used).getD iv4 default))) > 0 then (IntKind.i64.wrap ((IntKind.i64.wrap ((((rv1.1.Pots.getD iv2 default).Granted).getD iv4 default) - (((rv1.1.Pots.getD iv2 default).Heard).getD iv4 default))) - (((rv1.1.Pots.getD iv2 default).Used).getD iv4 default))) else 0) - (if (if (IntKind.i64.wrap ((IntKind.i64.wrap ((((rv1.1.Pots.getD iv2 default).Granted).getD iv4 default) - (((rv1.1.Pots.getD iv2 default).Heard).getD iv4 default))) - (((rv1.1.Pots.getD iv2 default).Used).getD iv4 default))) > 0 then (IntKind.i64.wrap ((IntKind.i64.wrap ((((rv1.1.Pots.getD iv2 default).Granted).getD iv4 default) - (((rv1.1.Pots.getD iv2 default).Heard).getD iv4 default))) - (((rv1.1.Pots.getD iv2 default).Used).getD iv4 default))) else 0) < (if (IntKind.i64.wrap ((((rv1.1.Pots.getD iv2 default).Asked).getD iv4 default) - (((rv1.1.Pots.getD iv2 default).Heard).getD iv4 default))) > 0 then (IntKind.i64.wrap ((((rv1.1.Pots.getD iv2 default).Asked).getD iv4 default) - (((rv1.1.Pots.getD iv2 default).Heard).getD iv4 default))) else 0) then (if (IntKind.i64.wrap ((IntKind.i64.wrap ((((rv1.1.Pots.getD iv2 default).Granted).getD iv4 default) - (((rv1.1.Pots.getD iv2 default).Heard).getD iv4 default))) - (((rv1.1.Pots.getD iv2 default).Used).getD iv4 default))) > 0 then (IntKind.i64.wrap ((IntKind.i64.wrap ((((rv1.1.Pots.getD iv2 default).Granted).getD iv4 default) - (((rv1.1.Pots.getD iv2 default).Heard).getD iv4 default))) - (((rv1.1.Pots.getD iv2 default).Used).getD iv4 default))) else 0) else (if (IntKind.i64.wrap ((((rv1.1.Pots.getD iv2 default).Asked).getD iv4 default) - (((rv1.1.Pots.getD iv2 default).Heard).getD iv4 default))) > 0 then (IntKind.i64.wrap ((((rv1.1.Pots.getD iv2 default).Asked).getD iv4 default) - (((rv1.1.Pots.getD iv2 default).Heard).getD iv4 default))) else 0))))] : List Int))))] })] [.pf (leV_lit (DV.i .i64) ([(IntKind.i64.wrap ((if (IntKind.i64.wrap ((IntKind.i64.wrap ((((rv1.1.Pots.getD iv2 default).Granted).getD iv4 default) - (((rv1.1.Pots.getD iv2 default).Heard).getD iv4 default))) - (((rv1.1.Pots.getD iv2 default).Used).getD iv4 default))) > 0 then (IntKind.i64.wrap ((IntKind.i64.wrap ((((rv1.1.Pots.getD iv2 default).Granted).getD iv4 default) - (((rv1.1.Pots.getD iv2 default).Heard).getD iv4 default))) - (((rv1.1.Pots.getD iv2 default).Used).getD iv4 default))) else 0) - (if (if (IntKind.i64.wrap ((IntKind.i64.wrap ((((rv1.1.Pots.getD iv2 default).Granted).getD iv4 default) - (((rv1.1.Pots.getD iv2 default).Heard).getD iv4 default))) - (((rv1.1.Pots.getD iv2 default).Used).getD iv4 default))) > 0 then (IntKind.i64.wrap ((IntKind.i64.wrap ((((rv1.1.Pots.getD iv2 default).Granted).getD iv4 default) - (((rv1.1.Pots.getD iv2 default).Heard).getD iv4 default))) - (((rv1.1.Pots.getD iv2 default).Used).getD iv4 default))) else 0) < (if (IntKind.i64.wrap ((((rv1.1.Pots.getD iv2 default).Asked).getD iv4 default) - (((rv1.1.Pots.getD iv2 default).Heard).getD iv4 default))) > 0 then (IntKind.i64.wrap ((((rv1.1.Pots.getD iv2 default).Asked).getD iv4 default) - (((rv1.1.Pots.getD iv2 default).Heard).getD iv4 default))) else 0) then (if (IntKind.i64.wrap ((IntKind.i64.wrap ((((rv1.1.Pots.getD iv2 default).Granted).getD iv4 default) - (((rv1.1.Pots.getD iv2 default).Heard).getD iv4 default))) - (((rv1.1.Pots.getD iv2 default).Used).getD iv4 default))) > 0 then (IntKind.i64.wrap ((IntKind.i64.wrap ((((rv1.1.Pots.getD iv2 default).Granted).getD iv4 default) - (((rv1.1.Pots.getD iv2 default).Heard).getD iv4 default))) - (((rv1.1.Pots.getD iv2 default).Used).getD iv4 default))) else 0) else (if (IntKind.i64.wrap ((((rv1.1.Pots.getD iv2 default).Asked).getD iv4 default) - (((rv1.1.Pots.getD iv2 default).Heard).getD iv4 default))) > 0 then (IntKind.i64.wrap ((((rv1.1.Pots.getD iv2 default).Asked).getD iv4 default) - (((rv1.1.Pots.getD iv2 default).Heard).getD iv4 default))) else 0))))] : List Int)), .pf (Eq.refl sv5.1.length), .pf (Eq.refl sv5.1.length), .pf (p := ∀ k, k < 1 → (AV.d ((DV.i .i64) (([(IntKind.i64.wrap ((if (IntKind.i64.wrap ((IntKind.i64.wrap ((((rv1.1.Pots.getD iv2 default).Granted).getD iv4 default) - (((rv1.1.Pots.getD iv2 default).Heard).getD iv4 default))) - (((rv1.1.Pots.getD iv2 default).Used).getD iv4 default))) > 0 then (IntKind.i64.wrap ((IntKind.i64.wrap ((((rv1.1.Pots.getD iv2 default).Granted).getD iv4 default) - (((rv1.1.Pots.getD iv2 default).Heard).getD iv4 default))) - (((rv1.1.Pots.getD iv2 default).Used).getD iv4 default))) else 0) - (if (if (IntKind.i64.wrap ((IntKind.i64.wrap ((((rv1.1.Pots.getD iv2 default).Granted).getD iv4 default) - (((rv1.1.Pots.getD iv2 default).Heard).getD iv4 default))) - (((rv1.1.Pots.getD iv2 default).Used).getD iv4 default))) > 0 then (IntKind.i64.wrap ((IntKind.i64.wrap ((((rv1.1.Pots.getD iv2 default).Granted).getD iv4 default) - (((rv1.1.Pots.getD iv2 default).Heard).getD iv4 default))) - (((rv1.1.Pots.getD iv2 default).Used).getD iv4 default))) else 0) < (if (IntKind.i64.wrap ((((rv1.1.Pots.getD iv2 default).Asked).getD iv4 default) - (((rv1.1.Pots.getD iv2 default).Heard).getD iv4 default))) > 0 then (IntKind.i64.wrap ((((rv1.1.Pots.getD iv2 default).Asked).getD iv4 default) - (((rv1.1.Pots.getD iv2 default).Heard).getD iv4 default))) else 0) then (if (IntKind.i64.wrap ((IntKind.i64.wrap ((((rv1.1.Pots.getD iv2 default).Granted).getD iv4 default) - (((rv1.1.Pots.getD iv2 default).Heard).getD iv4 default))) - (((rv1.1.Pots.getD iv2 default).Used).getD iv4 default))) > 0 then (IntKind.i64.wrap ((IntKind.i64.wrap ((((rv1.1.Pots.getD iv2 default).Granted).getD iv4 default) - (((rv1.1.Pots.getD iv2 default).Heard).getD iv4 default))) - (((rv1.1.Pots.getD iv2 default).Used).getD iv4 default))) else 0) else (if (IntKind.i64.wrap ((((rv1.1.Pots.getD iv2 default).Asked).getD iv4 default) - (((rv1.1.Pots.getD iv2 default).Heard).getD iv4 default))) > 0 then (IntKind.i64.wrap ((((rv1.1.Pots.getD iv2 default).Asked).getD iv4 default) - (((rv1.1.Pots.getD iv2 default).Heard).getD iv4 default))) else 0))))] : List Int).getD k default))).wd = 1) (fun _ _ => rfl), .ev 0, .pf (leV_app (o := 3) (l := sv5.1) (x := ([(IntKind.i64.wrap ((if (IntKind.i64.wrap ((IntKind.i64.wrap ((((rv1.1.Pots.getD iv2 default).Granted).getD iv4 default) - (((rv1.1.Pots.getD iv2 default).Heard).getD iv4 default))) - (((rv1.1.Pots.getD iv2 default).Used).getD iv4 default))) > 0 then (IntKind.i64.wrap ((IntKind.i64.wrap ((((rv1.1.Pots.getD iv2 default).Granted).getD iv4 default) - (((rv1.1.Pots.getD iv2 default).Heard).getD iv4 default))) - (((rv1.1.Pots.getD iv2 default).Used).getD iv4 default))) else 0) - (if (if (IntKind.i64.wrap ((IntKind.i64.wrap ((((rv1.1.Pots.getD iv2 default).Granted).getD iv4 default) - (((rv1.1.Pots.getD iv2 default).Heard).getD iv4 default))) - (((rv1.1.Pots.getD iv2 default).Used).getD iv4 default))) > 0 then (IntKind.i64.wrap ((IntKind.i64.wrap ((((rv1.1.Pots.getD iv2 default).Granted).getD iv4 default) - (((rv1.1.Pots.getD iv2 default).Heard).getD iv4 default))) - (((rv1.1.Pots.getD iv2 default).Used).getD iv4 default))) else 0) < (if (IntKind.i64.wrap ((((rv1.1.Pots.getD iv2 default).Asked).getD iv4 default) - (((rv1.1.Pots.getD iv2 default).Heard).getD iv4 default))) > 0 then (IntKind.i64.wrap ((((rv1.1.Pots.getD iv2 default).Asked).getD iv4 default) - (((rv1.1.Pots.getD iv2 default).Heard).getD iv4 default))) else 0) then (if (IntKind.i64.wrap ((IntKind.i64.wrap ((((rv1.1.Pots.getD iv2 default).Granted).getD iv4 default) - (((rv1.1.Pots.getD iv2 default).Heard).getD iv4 default))) - (((rv1.1.Pots.getD iv2 default).Used).getD iv4 default))) > 0 then (IntKind.i64.wrap ((IntKind.i64.wrap ((((rv1.1.Pots.getD iv2 default).Granted).getD iv4 default) - (((rv1.1.Pots.getD iv2 default).Heard).getD iv4 default))) - (((rv1.1.Pots.getD iv2 default).Used).getD iv4 default))) else 0) else (if (IntKind.i64.wrap ((((rv1.1.Pots.getD iv2 default).Asked).getD iv4 default) - (((rv1.1.Pots.getD iv2 default).Heard).getD iv4 default))) > 0 then (IntKind.i64.wrap ((((rv1.1.Pots.getD iv2 default).Asked).getD iv4 default) - (((rv1.1.Pots.getD iv2 default).Heard).getD iv4 default))) else 0))))] : List Int))), .pf (oLe_app (sz := 1) (e := (DV.i .i64)) (l := sv5.1) (x := ([(IntKind.i64.wrap ((if (IntKind.i64.wrap ((IntKind.i64.wrap ((((rv1.1.Pots.getD iv2 default).Granted).getD iv4 default) - (((rv1.1.Pots.getD iv2 default).Heard).getD iv4 default))) - (((rv1.1.Pots.getD iv2 default).Used).getD iv4 default))) > 0 then (IntKind.i64.wrap ((IntKind.i64.wrap ((((rv1.1.Pots.getD iv2 default).Granted).getD iv4 default) - (((rv1.1.Pots.getD iv2 default).Heard).getD iv4 default))) - (((rv1.1.Pots.getD iv2 default).Used).getD iv4 default))) else 0) - (if (if (IntKind.i64.wrap ((IntKind.i64.wrap ((((rv1.1.Pots.getD iv2 default).Granted).getD iv4 default) - (((rv1.1.Pots.getD iv2 default).Heard).getD iv4 default))) - (((rv1.1.Pots.getD iv2 default).Used).getD iv4 default))) > 0 then (IntKind.i64.wrap ((IntKind.i64.wrap ((((rv1.1.Pots.getD iv2 default).Granted).getD iv4 default) - (((rv1.1.Pots.getD iv2 default).Heard).getD iv4 default))) - (((rv1.1.Pots.getD iv2 default).Used).getD iv4 default))) else 0) < (if (IntKind.i64.wrap ((((rv1.1.Pots.getD iv2 default).Asked).getD iv4 default) - (((rv1.1.Pots.getD iv2 default).Heard).getD iv4 default))) > 0 then (IntKind.i64.wrap ((((rv1.1.Pots.getD iv2 default).Asked).getD iv4 default) - (((rv1.1.Pots.getD iv2 default).Heard).getD iv4 default))) else 0) then (if (IntKind.i64.wrap ((IntKind.i64.wrap ((((rv1.1.Pots.getD iv2 default).Granted).getD iv4 default) - (((rv1.1.Pots.getD iv2 default).Heard).getD iv4 default))) - (((rv1.1.Pots.getD iv2 default).Used).getD iv4 default))) > 0 then (IntKind.i64.wrap ((IntKind.i64.wrap ((((rv1.1.Pots.getD iv2 default).Granted).getD iv4 default) - (((rv1.1.Pots.getD iv2 default).Heard).getD iv4 default))) - (((rv1.1.Pots.getD iv2 default).Used).getD iv4 default))) else 0) else (if (IntKind.i64.wrap ((((rv1.1.Pots.getD iv2 default).Asked).getD iv4 default) - (((rv1.1.Pots.getD iv2 default).Heard).getD iv4 default))) > 0 then (IntKind.i64.wrap ((((rv1.1.Pots.getD iv2 default).Asked).getD iv4 default) - (((rv1.1.Pots.getD iv2 default).Heard).getD iv4 default))) else 0))))] : List Int)))] <|
.ret [] (.cont ((sv5.1 ++ ([(IntKind.i64.wrap ((if (IntKind.i64.wrap ((IntKind.i64.wrap ((((rv1.1.Pots.getD iv2 default).Granted).getD iv4 default) - (((rv1.1.Pots.getD iv2 default).Heard).getD iv4 default))) - (((rv1.1.Pots.getD iv2 default).Used).getD iv4 default))) > 0 then (IntKind.i64.wrap ((IntKind.i64.wrap ((((rv1.1.Pots.getD iv2 default).Granted).getD iv4 default) - (((rv1.1.Pots.getD iv2 default).Heard).getD iv4 default))) - (((rv1.1.Pots.getD iv2 default).Used).getD iv4 default))) else 0) - (if (if (IntKind.i64.wrap ((IntKind.i64.wrap ((((rv1.1.Pots.getD iv2 default).Granted).getD iv4 default) - (((rv1.1.Pots.getD iv2 default).Heard).getD iv4 default))) - (((rv1.1.Pots.getD iv2 default).Used).getD iv4 default))) > 0 then (IntKind.i64.wrap ((IntKind.i64.wrap ((((rv1.1.Pots.getD iv2 default).Granted).getD iv4 default) - (((rv1.1.Pots.getD iv2 default).Heard).getD iv4 default))) - (((rv1.1.Pots.getD iv2 default).Used).getD iv4 default))) else 0) < (if (IntKind.i64.wrap ((((rv1.1.Pots.getD iv2 default).Asked).getD iv4 default) - (((rv1.1.Pots.getD iv2 default).Heard).getD iv4 default))) > 0 then (IntKind.i64.wrap ((((rv1.1.Pots.getD iv2 default).Asked).getD iv4 default) - (((rv1.1.Pots.getD iv2 default).Heard).getD iv4 default))) else 0) then (if (IntKind.i64.wrap ((IntKind.i64.wrap ((((rv1.1.Pots.getD iv2 default).Granted).getD iv4 default) - (((rv1.1.Pots.getD iv2 default).Heard).getD iv4 default))) - (((rv1.1.Pots.getD iv2 default).Used).getD iv4 default))) > 0 then (IntKind.i64.wrap ((IntKind.i64.wrap ((((rv1.1.Pots.getD iv2 default).Granted).getD iv4 default) - (((rv1.1.Pots.getD iv2 default).Heard).getD iv4 default))) - (((rv1.1.Pots.getD iv2 default).Used).getD iv4 default))) else 0) else (if (IntKind.i64.wrap ((((rv1.1.Pots.getD iv2 default).Asked).getD iv4 default) - (((rv1.1.Pots.getD iv2 default).Heard).getD iv4 default))) > 0 then (IntKind.i64.wrap ((((rv1.1.Pots.getD iv2 default).Asked).getD iv4 default) - (((rv1.1.Pots.getD iv2 default).Heard).getD iv4 default))) else 0))))] : List Int)), (IntKind.i64.wrap (sv5.2.1 - (if (if (IntKind.i64.wrap ((IntKind.i64.wrap ((((rv1.1.Pots.getD iv2 default).Granted).getD iv4 default) - (((rv1.1.Pots.getD iv2 default).Heard).getD iv4 default))) - (((rv1.1.Pots.getD iv2 default).Used).getD iv4 default))) > 0 then (IntKind.i64.wrap ((IntKind.i64.wrap ((((rv1.1.Pots.getD iv2 default).Granted).getD iv4 default) - (((rv1.1.Pots.getD iv2 default).Heard).getD iv4 default))) - (((rv1.1.Pots.getD iv2 default).Used).getD iv4 default))) else 0) < (if (IntKind.i64.wrap ((((rv1.1.Pots.getD iv2 default).Asked).getD iv4 default) - (((rv1.1.Pots.getD iv2 default).Heard).getD iv4 default))) > 0 then (IntKind.i64.wrap ((((rv1.1.Pots.getD iv2 default).Asked).getD iv4 default) - (((rv1.1.Pots.getD iv2 default).Heard).getD iv4 default))) else 0) then (if (IntKind.i64.wrap ((IntKind.i64.wrap ((((rv1.1.Pots.getD iv2 default).Granted).getD iv4 default) - (((rv1.1.Pots.getD iv2 default).Heard).getD iv4 default))) - (((rv1.1.Pots.getD iv2 default).Used).getD iv4 default))) > 0 then (IntKind.i64.wrap ((IntKind.i64.wrap ((((rv1.1.Pots.getD iv2 default).Granted).getD iv4 default) - (((rv1.1.Pots.getD iv2 default).Heard).getD iv4 default))) - (((rv1.1.Pots.getD iv2 default).Used).getD iv4 default))) else 0) else (if (IntKind.i64.wrap ((((rv1.1.Pots.getD iv2 default).Asked).getD iv4 default) - (((rv1.1.Pots.getD iv2 default).Heard).getD iv4 default))) > 0 then (IntKind.i64.wrap ((((rv1.1.Pots.getD iv2 default).Asked).getD iv4 default) - (((rv1.1.Pots.getD iv2 default).Heard).getD iv4 default))) else 0)))), (IntKind.i64.wrap (sv5.2.2.1 + (rv3.getD iv4 default))), (IntKind.i64.wrap (sv5.2.2.2 + (IntKind.i64.wrap ((if (IntKind.i64.wrap ((IntKind.i64.wrap ((((rv1.1.Pots.getD iv2 default).Granted).getD iv4 default) - (((rv1.1.Pots.getD iv2 default).Heard).getD iv4 default))) - (((rv1.1.Pots.getD iv2 default).Used).getD iv4 default))) > 0 then (IntKind.i64.wrap ((IntKind.i64.wrap ((((rv1.1.Pots.getD iv2 default).Granted).getD iv4 default) - (((rv1.1.Pots.getD iv2 default).Heard).getD iv4 default))) - (((rv1.1.Pots.getD iv2 default).Used).getD iv4 default))) else 0) - (if (if (IntKind.i64.wrap ((IntKind.i64.wrap ((((rv1.1.Pots.getD iv2 default).Granted).getD iv4 default) - (((rv1.1.Pots.getD iv2 default).Heard).getD iv4 default))) - (((rv1.1.Pots.getD iv2 default).Used).getD iv4 default))) > 0 then (IntKind.i64.wrap ((IntKind.i64.wrap ((((rv1.1.Pots.getD iv2 default).Granted).getD iv4 default) - (((rv1.1.Pots.getD iv2 default).Heard).getD iv4 default))) - (((rv1.1.Pots.getD iv2 default).Used).getD iv4 default))) else 0) < (if (IntKind.i64.wrap ((((rv1.1.Pots.getD iv2 default).Asked).getD iv4 default) - (((rv1.1.Pots.getD iv2 default).Heard).getD iv4 default))) > 0 then (IntKind.i64.wrap ((((rv1.1.Pots.getD iv2 default).Asked).getD iv4 default) - (((rv1.1.Pots.getD iv2 default).Heard).getD iv4 default))) else 0) then (if (IntKind.i64.wrap ((IntKind.i64.wrap ((((rv1.1.Pots.getD iv2 default).Granted).getD iv4 default) - (((rv1.1.Pots.getD iv2 default).Heard).getD iv4 default))) - (((rv1.1.Pots.getD iv2 default).Used).getD iv4 default))) > 0 then (IntKind.i64.wrap ((IntKind.i64.wrap ((((rv1.1.Pots.getD iv2 default).Granted).getD iv4 default) - (((rv1.1.Pots.getD iv2 default).Heard).getD iv4 default))) - (((rv1.1.Pots.getD iv2 default).Used).getD iv4 default))) else 0) else (if (IntKind.i64.wrap ((((rv1.1.Pots.getD iv2 default).Asked).getD iv4 default) - (((rv1.1.Pots.getD iv2 default).Heard).getD iv4 default))) > 0 then (IntKind.i64.wrap ((((rv1.1.Pots.getD iv2 default).Asked).getD iv4 default) - (((rv1.1.Pots.getD iv2 default).Heard).getD iv4 default))) else 0)))))))))
def S_w18_ReductionPlans_b2 (rv3 : R_reduction_Plan) (sv5 : (List Int) × Int × Int × Int) (iv6 : Nat) (iv7 : Nat) (_ : Unit) : Scr Tryz.prog R_w18_ReductionPlans (Step (Unit) R_w18_ReductionPlans) :=
.guard [AllP [(decide ((rv3.getD iv6 default) > 0)) = true] → (iv7 < sv5.1.length), AllP [(decide ((rv3.getD iv6 default) > 0)) = true] → ((0 + iv7) < sv5.1.length), AllP [(decide ((rv3.getD iv6 default) > 0)) = true] → (iv6 < sv5.1.length), AllP [(decide ((rv3.getD iv6 default) > 0)) = true] → ((0 + iv6) < sv5.1.length), AllP [(bif (decide ((rv3.getD iv6 default) > 0)) then (decide ((sv5.1.getD (0 + iv7) default) > (sv5.1.getD (0 + iv6) default))) else false) = true] → (iv7 < sv5.1.length), AllP [(bif (decide ((rv3.getD iv6 default) > 0)) then (decide ((sv5.1.getD (0 + iv7) default) > (sv5.1.getD (0 + iv6) default))) else false) = true] → ((0 + iv7) < sv5.1.length)] <|
.reg 31 [] [] [.pf (nn iv6), .ev 8, .pf (p := AllP [(decide ((rv3.getD iv6 default) > 0)) = true] → (sv5.1.length = sv5.1.length)) (fun _ => rfl), .pf (p := AllP [(decide ((rv3.getD iv6 default) > 0)) = true] → ((0 : Int) ≤ (iv7 : Int))) (fun _ => (Int.natCast_nonneg _)), .ev 0, .pf (p := AllP [(decide ((rv3.getD iv6 default) > 0)) = true] → (sv5.1.length = sv5.1.length)) (fun _ => rfl), .ev 1, .pf (p := AllP [(decide ((rv3.getD iv6 default) > 0)) = true] → (sv5.1.length = sv5.1.length)) (fun _ => rfl), .pf (p := AllP [(decide ((rv3.getD iv6 default) > 0)) = true] → ((0 : Int) ≤ (iv6 : Int))) (fun _ => (Int.natCast_nonneg _)), .ev 2, .pf (p := AllP [(decide ((rv3.getD iv6 default) > 0)) = true] → (sv5.1.length = sv5.1.length)) (fun _ => rfl), .ev 3, .pf (p := AllP [(bif (decide ((rv3.getD iv6 default) > 0)) then (decide ((sv5.1.getD (0 + iv7) default) > (sv5.1.getD (0 + iv6) default))) else false) = true] → ((0 : Int) ≤ (iv7 : Int))) (fun _ => (Int.natCast_nonneg _)), .der (fun (h : iv7 < rv3.length) (_ : AllP [(bif (decide ((rv3.getD iv6 default) > 0)) then (decide ((sv5.1.getD (0 + iv7) default) > (sv5.1.getD (0 + iv6) default))) else false) = true]) => h) 6, .pf (p := AllP [(bif (decide ((rv3.getD iv6 default) > 0)) then (decide ((sv5.1.getD (0 + iv7) default) > (sv5.1.getD (0 + iv6) default))) else false) = true] → (sv5.1.length = sv5.1.length)) (fun _ => rfl), .pf (p := AllP [(bif (decide ((rv3.getD iv6 default) > 0)) then (decide ((sv5.1.getD (0 + iv7) default) > (sv5.1.getD (0 + iv6) default))) else false) = true] → ((0 : Int) ≤ (iv7 : Int))) (fun _ => (Int.natCast_nonneg _)), .ev 4, .pf (p := AllP [(bif (decide ((rv3.getD iv6 default) > 0)) then (decide ((sv5.1.getD (0 + iv7) default) > (sv5.1.getD (0 + iv6) default))) else false) = true] → (sv5.1.length = sv5.1.length)) (fun _ => rfl), .ev 5] <|
.ite (bif (bif (decide ((rv3.getD iv6 default) > 0)) then (decide ((sv5.1.getD (0 + iv7) default) > (sv5.1.getD (0 + iv6) default))) else false) then (decide ((rv3.getD iv7 default) < (sv5.1.getD (0 + iv7) default))) else false) (
.ret [] (.ret false)) (
.ret [] (.cont ()))
def S_w18_ReductionPlans_b3 (rv3 : R_reduction_Plan) (sv5 : (List Int) × Int × Int × Int) (iv6 : Nat) (_ : Unit) : Scr Tryz.prog R_w18_ReductionPlans (Step (Unit) R_w18_ReductionPlans) :=
.range (rv3.length : Int) rv3.length rfl (.slot 7) 117 [4, 7, 11, 17, 26, 27, 28, 111, 112, 116] (fun (_ : Unit) => []) (fun (_ : Unit) => []) () (S_w18_ReductionPlans_b2 rv3 sv5 iv6) (fun (_ : Unit) => 
.ret [] (.cont ())) .ret
def S_w18_ReductionPlans_b4 (rv1 : R_mk_Treasury) (iv2 : Nat) (_ : Unit) : Scr Tryz.prog R_w18_ReductionPlans (Step (Unit) R_w18_ReductionPlans) :=
.reg 5 [] [(2, { obs := [(2, (bx (TApiPot.e (⟨[], 0, 0, [], [], [], []⟩ : TApiPot))))] })] [.pf (nn iv2), .ev 0, .pf cz2] <|
.call (@F_reduction_Plan_ok (rv1.1.Pots.getD iv2 default)) fun rv3 cv3 =>
.reg 6 [] [(1, hc cv3 [] true)] [.cl 0 cv3 [] 3 true] <|
.ite ((rv3.length : Int) != rv1.1.Offices) (
.ret [] (.ret false)) (
.call (@F_r13_Shortfall_ok (rv1.1.Pots.getD iv2 default)) fun rv8 cv8 =>
.reg 9 [] [(1, hc cv8 [] true)] [.cl 0 cv8 [] 3 true] <|
.reg 11 [] [] [] <|
.bor 1 (fun j => AV.d ((DV.i .i64) (([] : List Int).getD j default))) [11] <|
.range (rv3.length : Int) rv3.length rfl (.slot 7) 43 [4, 6, 7, 26, 27, 28, 41, 42] (fun (sv5 : (List Int) × Int × Int × Int) => [(8, (vi sv5.2.1)), (9, (vi sv5.2.2.1)), (10, (vi sv5.2.2.2)), (11, (AV.ref 3 sv5.1.length 0 sv5.1.length))]) (fun (sv5 : (List Int) × Int × Int × Int) => [(3, (eS 1 (DV.i .i64) sv5.1))]) (([] : List Int), rv8, 0, 0) (S_w18_ReductionPlans_b1 rv1 iv2 rv3) (fun (sv5 : (List Int) × Int × Int × Int) => 
.ite (sv5.2.2.1 != (if (if sv5.2.2.2 < sv5.2.1 then sv5.2.2.2 else sv5.2.1) > 0 then (if sv5.2.2.2 < sv5.2.1 then sv5.2.2.2 else sv5.2.1) else 0)) (
.ret [] (.ret false)) (
.range (rv3.length : Int) rv3.length rfl (.slot 7) 112 [4, 7, 11, 26, 27, 28, 111] (fun (_ : Unit) => []) (fun (_ : Unit) => []) () (S_w18_ReductionPlans_b3 rv3 sv5) (fun (_ : Unit) => 
.ret [] (.cont ())) .ret)) .ret)
def S_w18_ReductionPlans (a0 : (List Int)) : Scr Tryz.prog R_w18_ReductionPlans R_w18_ReductionPlans :=
.call (@F_mk_New_ok a0) fun rv9 cv9 =>
.reg 1 [] [(1, hc cv9 [] false)] [.cl 0 cv9 [] 0 false] <|
.call (@F_mk_Tape_Range_ok 1 4 rv9) fun rv10 cv10 =>
.call (@F_mk_Treasury_ok rv10.1 rv10.2) fun rv1 cv1 =>
.reg 2 [] [(2, hc cv10 [0] false), (3, hc cv1 [0] false), (4, { obs := [(1, (bx (TApiTreasury.e (⟨0, []⟩ : TApiTreasury))))] })] [.cl 1 cv10 [0] 1 false, .cl 0 cv1 [0] 1 false, .pf cz4] <|
.range (rv1.1.Pots.length : Int) rv1.1.Pots.length rfl (.slot 26) 28 [4, 26, 27] (fun (_ : Unit) => []) (fun (_ : Unit) => []) () (S_w18_ReductionPlans_b4 rv1) (fun (_ : Unit) => 
.call (@F_w18_awake_ok) fun rv11 cv11 =>
.reg 36 [] [(0, hc cv11 [] true)] [.cl 0 cv11 [] 2 true] <|
.ret [] rv11) id
def F_w18_ReductionPlans (a0 : (List Int)) : Option R_w18_ReductionPlans := (S_w18_ReductionPlans a0).den
set_option maxRecDepth 100000 in
theorem F_w18_ReductionPlans_ok {a0 : (List Int)} (r : R_w18_ReductionPlans) (h : F_w18_ReductionPlans a0 = some r) : CallOk Tryz.prog 3 [(vl a0)] [] (V_w18_ReductionPlans r) (L_w18_ReductionPlans r) := fOk (s := S_w18_ReductionPlans a0) Tryz.func3 rfl (by kernel_rfl) h
end
end Go.Proofs.YtfiljdbmhegjgaaGreatDoor
