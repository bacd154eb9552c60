/- A part of the proof: what the functions compute, and that their calls return it. No condition. -/
import Derived.Test.YtkabfdfkegjfdaaGreatDoorG3
/- What the functions compute, and that their calls return it. No condition. -/
namespace Go.Proofs.YtkabfdfkegjfdaaGreatDoor
open Go Go.TA
noncomputable section
/-! 31 -/
abbrev R_r13_Grant := TApiTreasury × Int
def V_r13_Grant (x : R_r13_Grant) : AV := (AV.tup [(AV.d (TApiTreasury.e x.1)), (vi x.2)])
def L_r13_Grant (_ : R_r13_Grant) : List Ob := []
def S_r13_Grant (a0 : TApiTreasury) (a1 : Int) (a2 : List UInt8) (a3 : Int) (a4 : Int) : Scr Tryz.prog R_r13_Grant R_r13_Grant :=
.reg 0 [] [(1, { obs := [(1, (bx (TApiTreasury.e (⟨0, []⟩ : TApiTreasury))))] })] [.pf cz4] <|
.call (@F_r13_find_ok a0 a1 a2 a3) fun rv1 cv1 =>
.reg 1 [] [(4, hc cv1 [] true)] [.cl 0 cv1 [] 2 true] <|
.ite (rv1.2 != 0) (
.reg 3 [] [(0, hv (AV.d (TApiTreasury.e (⟨0, []⟩ : TApiTreasury))))] [.pf cz5] <|
.ret [] ((⟨0, []⟩ : TApiTreasury), rv1.2)) (
.ite (bif (decide (a4 < 1)) then true else (decide (a4 > 1000000000000000))) (
.reg 5 [] [(0, hv (AV.d (TApiTreasury.e (⟨0, []⟩ : TApiTreasury))))] [.pf cz5] <|
.ret [] ((⟨0, []⟩ : TApiTreasury), 2)) (
.guard [(0 : Int) ≤ a0.Offices, a0.Offices * 8 ≤ 2 ^ 47] <|
.reg 6 [] [(2, { cast := some (AV.ref 2 ((List.replicate a0.Offices.toNat (0 : Int)).length) 0 ((List.replicate a0.Offices.toNat (0 : Int)).length)), obs := [(2, (eS 1 (DV.i .i64) (List.replicate a0.Offices.toNat (0 : Int))))] })] [.ev 0, .pf (p := a0.Offices ≤ a0.Offices) (Int.le_refl _), .ev 1, .pf (leV_rep (o := 2) (k := a0.Offices.toNat) (z := (0 : Int))), .pf (oLe_rep (sz := 1) (k := a0.Offices.toNat) (e := (DV.i .i64)) (z := (0 : Int)))] <|
.guard [(0 : Int) ≤ (IntKind.i64.wrap (a1 - 1)), ((IntKind.i64.wrap (a1 - 1))).toNat < (List.replicate a0.Offices.toNat (0 : Int)).length, (0 + ((IntKind.i64.wrap (a1 - 1))).toNat) < (List.replicate a0.Offices.toNat (0 : Int)).length] <|
.reg 7 [] [(5, { obs := [(2, (eS 1 (DV.i .i64) ((List.replicate a0.Offices.toNat (0 : Int)).set (0 + ((IntKind.i64.wrap (a1 - 1))).toNat) a4)))] })] [.pf (Eq.refl ((List.replicate a0.Offices.toNat (0 : Int)).length)), .ev 0, .ev 1, .pf (Eq.refl ((List.replicate a0.Offices.toNat (0 : Int)).length)), .ev 2, .pf (oLe_set (sz := 1) (e := (DV.i .i64)) (l := (List.replicate a0.Offices.toNat (0 : Int))) (i := (0 + ((IntKind.i64.wrap (a1 - 1))).toNat)) (x := a4) (fun _ => rfl))] <|
.cst (A := True) (.pf trivial) [(2, (AV.d (DV.str a2))), (3, (vi a3)), (5, (vp 0)), (10, (vp 1)), (14, (AV.ref 2 ((List.replicate a0.Offices.toNat (0 : Int)).length) 0 ((List.replicate a0.Offices.toNat (0 : Int)).length)))] [(2, (AV.d (DV.str a2))), (3, (vi a3)), (5, (vp 0)), (10, (vp 1)), (14, (AV.ref 2 (((List.replicate a0.Offices.toNat (0 : Int)).set (0 + ((IntKind.i64.wrap (a1 - 1))).toNat) a4).length) 0 (((List.replicate a0.Offices.toNat (0 : Int)).set (0 + ((IntKind.i64.wrap (a1 - 1))).toNat) a4).length)))] [(bx (TApiTreasury.e a0)), (bx (TApiTreasury.e (⟨0, []⟩ : TApiTreasury))), (eS 1 (DV.i .i64) ((List.replicate a0.Offices.toNat (0 : Int)).set (0 + ((IntKind.i64.wrap (a1 - 1))).toNat) a4))] [(bx (TApiTreasury.e a0)), (bx (TApiTreasury.e (⟨0, []⟩ : TApiTreasury))), (eS 1 (DV.i .i64) ((List.replicate a0.Offices.toNat (0 : Int)).set (0 + ((IntKind.i64.wrap (a1 - 1))).toNat) a4))] (fun _ => ⟨by simp only [List.length_set], by rfl⟩) <|
.guard [((List.replicate a0.Offices.toNat (0 : Int)).set (0 + ((IntKind.i64.wrap (a1 - 1))).toNat) a4).length < 2 ^ 63] <|
.frz 2 (.ev 0) none [14] [] <|
.call (@F_r13_Divide_ok a0 a2 a3 ((List.replicate a0.Offices.toNat (0 : Int)).set (0 + ((IntKind.i64.wrap (a1 - 1))).toNat) a4)) fun rv2 cv2 =>
.reg 8 [] [(4, hc cv2 [] true)] [.cl 0 cv2 [] 3 true] <|
.ret [] (rv2.1, rv2.2)))
def F_r13_Grant (a0 : TApiTreasury) (a1 : Int) (a2 : List UInt8) (a3 : Int) (a4 : Int) : Option R_r13_Grant := (S_r13_Grant a0 a1 a2 a3 a4).den
set_option maxRecDepth 100000 in
theorem F_r13_Grant_ok {a0 : TApiTreasury} {a1 : Int} {a2 : List UInt8} {a3 : Int} {a4 : Int} (r : R_r13_Grant) (h : F_r13_Grant a0 a1 a2 a3 a4 = some r) : CallOk Tryz.prog 31 [(AV.d (TApiTreasury.e a0)), (vi a1), (AV.d (DV.str a2)), (vi a3), (vi a4)] [] (V_r13_Grant r) (L_r13_Grant r) := fOk (s := S_r13_Grant a0 a1 a2 a3 a4) Tryz.func31 rfl (by kernel_rfl) h
/-! 10 -/
abbrev R_mk_Treasury := TApiTreasury × TTape
def V_mk_Treasury (x : R_mk_Treasury) : AV := (AV.d (TApiTreasury.e x.1))
def L_mk_Treasury (x : R_mk_Treasury) : List Ob := [(bx (TTape.e x.2))]
def S_mk_Treasury_b1 (sv1 : TTape × TApiTreasury × Int) : Scr Tryz.prog R_mk_Treasury (Step (TTape × TApiTreasury × Int) R_mk_Treasury) :=
.ite (decide (sv1.2.2 > 0)) (
.call (@F_mk_PotCode_ok sv1.1) fun rv2 cv2 =>
.call (@F_mk_Tape_N_ok 2 rv2.2) fun rv3 cv3 =>
.call (@F_mk_Tape_N_ok 2000 rv3.2) fun rv4 cv4 =>
.call (@F_mk_Tape_N_ok 50 rv4.2) fun rv5 cv5 =>
.call (@F_mk_Tape_Pick_ok ([100, 500, rv4.1, (IntKind.i64.wrap (0 - rv5.1))] : List Int) rv5.2) fun rv6 cv6 =>
.call (@F_r13_Set_ok sv1.2.1 rv2.1 (IntKind.i64.wrap (12 + rv3.1)) rv6.1) fun rv7 cv7 =>
.reg 5 [2, 4, 8, 10, 13, 18] [(2, hc cv2 [0] false), (4, hc cv3 [0] false), (8, hc cv4 [0] false), (10, hc cv5 [0] false), (12, hv (vl ([100, 500, rv4.1, (IntKind.i64.wrap (0 - rv5.1))] : List Int))), (13, hc cv6 [0] false), (14, hc cv7 [] true)] [.cl 5 cv2 [0] 3 false, .cl 4 cv3 [0] 3 false, .cl 3 cv4 [0] 3 false, .cl 2 cv5 [0] 3 false, .pf (leV_lit (DV.i .i64) ([100, 500, rv4.1, (IntKind.i64.wrap (0 - rv5.1))] : List Int)), .cl 1 cv6 [0] 3 false, .cl 0 cv7 [] 3 true] <|
.ret [] (.cont (rv6.2, rv7.1, (IntKind.i64.wrap (sv1.2.2 - 1))))) (
.ret [] (.brk (sv1.1, sv1.2.1, sv1.2.2)))
def S_mk_Treasury_b2 (a1 : Int) (sv8 : TTape × TApiTreasury × Int) : Scr Tryz.prog R_mk_Treasury (Step (TTape × TApiTreasury × Int) R_mk_Treasury) :=
.ite (bif (decide (sv8.2.2 > 0)) then (decide ((sv8.2.1.Pots.length : Int) > 0)) else false) (
.sh (H := NoH) (A := True) (.pf trivial) [(0, (vp 0)), (1, (vi a1)), (4, (vp 1)), (5, (vp 2)), (7, (vi sv8.2.2)), (47, (vb (bif (decide (sv8.2.2 > 0)) then (decide ((sv8.2.1.Pots.length : Int) > 0)) else false)))] [(0, (vp 0)), (1, (vi a1)), (4, (vp 1)), (5, (vp 2)), (7, (vi sv8.2.2)), (47, (vb (bif (decide (sv8.2.2 > 0)) then (decide ((sv8.2.1.Pots.length : Int) > 0)) else false)))] [(bx (TTape.e sv8.1)), (bx (TApiTreasury.e (⟨0, []⟩ : TApiTreasury))), (bx (TApiTreasury.e sv8.2.1))] [(bx (TTape.e sv8.1)), (bx (TApiTreasury.e (⟨0, []⟩ : TApiTreasury))), (bx (TApiTreasury.e sv8.2.1)), Ob.unb] (fun _ => shift_unb) (trF_refl _) <|
.call (@F_mk_Tape_N_ok (sv8.2.1.Pots.length : Int) sv8.1) fun rv9 cv9 =>
.guard [(0 : Int) ≤ rv9.1, (rv9.1).toNat < sv8.2.1.Pots.length] <|
.reg 9 [6, 9, 10] [(6, hc cv9 [0] false), (9, { h := .born 3 false, obs := [(3, (bx (TApiPot.e (⟨[], 0, 0, [], [], [], []⟩ : TApiPot))))] })] [.cl 2 cv9 [0] 4 false, .cl 2 cv9 [0] 4 false, .ev 0, .ev 1, .ev 0, .ev 1, .pf cz2, .pf cz2] <|
.call (@F_mk_Tape_Range_ok 1 a1 rv9.2) fun rv10 cv10 =>
.reg 10 [] [(2, hc cv10 [0] false)] [.cl 0 cv10 [0] 4 false] <|
.reg 11 [] [(1, { obs := [(4, (bx (TApiTreasury.e (⟨0, []⟩ : TApiTreasury))))] })] [.pf cz4] <|
.call (@F_mk_Tape_N_ok 4 rv10.2) fun rv11 cv11 =>
.reg 12 [] [(1, hc cv11 [0] false)] [.cl 0 cv11 [0] 5 false] <|
.cut (some 4) [0, 1, 4, 5, 7, 10] (fun (sv12 : TTape × TApiTreasury × Int) => [(11, (vi sv12.2.2))]) (fun (sv12 : TTape × TApiTreasury × Int) => [(0, (bx (TTape.e sv12.1))), (4, (bx (TApiTreasury.e sv12.2.1)))]) (
.ite (rv11.1 == 0) (
.call (@F_mk_Tape_Range_ok 1 100 rv11.2) fun rv13 cv13 =>
.call (@F_r13_Ask_ok sv8.2.1 rv10.1 ((sv8.2.1.Pots.getD ((rv9.1).toNat) default).Code) ((sv8.2.1.Pots.getD ((rv9.1).toNat) default).Year) rv13.1) fun rv14 cv14 =>
.reg 15 [7, 12] [(7, hc cv13 [0] false), (8, hc cv14 [] true)] [.cl 1 cv13 [0] 5 false, .cl 0 cv14 [] 5 true] <|
.ret [] (.next (rv13.2, rv14.1, rv14.2))) (
.ite (rv11.1 == 1) (
.call (@F_mk_Tape_N_ok (IntKind.i64.wrap ((((sv8.2.1.Pots.getD ((rv9.1).toNat) default).Granted).getD (((IntKind.i64.wrap (rv10.1 - 1))).toNat) default) + 1)) rv11.2) fun rv15 cv15 =>
.call (@F_mk_Tape_N_ok 200 rv15.2) fun rv16 cv16 =>
.call (@F_r13_Hear_ok sv8.2.1 (⟨rv10.1, 0, (sv8.2.1.Pots.getD ((rv9.1).toNat) default).Code, (sv8.2.1.Pots.getD ((rv9.1).toNat) default).Year, 0, 0, rv15.1, rv16.1⟩ : TApiMessage)) fun rv17 cv17 =>
.guard [(0 : Int) ≤ (IntKind.i64.wrap (rv10.1 - 1)), ((IntKind.i64.wrap (rv10.1 - 1))).toNat < ((sv8.2.1.Pots.getD ((rv9.1).toNat) default).Granted).length] <|
.reg 17 [14, 16, 22] [(14, hc cv15 [0] false), (16, hc cv16 [0] false), (18, hc cv17 [] true)] [.ev 0, .ev 1, .cl 4 cv15 [0] 5 false, .cl 3 cv16 [0] 5 false, .cl 2 cv17 [] 5 true] <|
.ret [] (.next (rv16.2, rv17.1, rv17.2))) (
.ite (rv11.1 == 2) (
.call (@F_mk_Tape_N_ok 1000 rv11.2) fun rv18 cv18 =>
.call (@F_mk_Tape_Pick_ok ([0, 200, rv18.1] : List Int) rv18.2) fun rv19 cv19 =>
.call (@F_r13_Set_ok sv8.2.1 ((sv8.2.1.Pots.getD ((rv9.1).toNat) default).Code) ((sv8.2.1.Pots.getD ((rv9.1).toNat) default).Year) rv19.1) fun rv20 cv20 =>
.reg 19 [7, 9, 14] [(7, hc cv18 [0] false), (8, hv (vl ([0, 200, rv18.1] : List Int))), (9, hc cv19 [0] false), (10, hc cv20 [] true)] [.cl 2 cv18 [0] 5 false, .pf (leV_lit (DV.i .i64) ([0, 200, rv18.1] : List Int)), .cl 1 cv19 [0] 5 false, .cl 0 cv20 [] 5 true] <|
.ret [] (.next (rv19.2, rv20.1, rv20.2))) (
.call (@F_mk_Tape_Range_ok 1 300 rv11.2) fun rv21 cv21 =>
.call (@F_r13_Grant_ok sv8.2.1 rv10.1 ((sv8.2.1.Pots.getD ((rv9.1).toNat) default).Code) ((sv8.2.1.Pots.getD ((rv9.1).toNat) default).Year) rv21.1) fun rv22 cv22 =>
.reg 13 [7, 12] [(7, hc cv21 [0] false), (8, hc cv22 [] true)] [.cl 1 cv21 [0] 5 false, .cl 0 cv22 [] 5 true] <|
.ret [] (.next (rv21.2, rv22.1, rv22.2)))))) fun (sv12 : TTape × TApiTreasury × Int) =>
.ite (sv12.2.2 == 0) (
.ret [] (.cont (sv12.1, sv12.2.1, (IntKind.i64.wrap (sv8.2.2 - 1))))) (
.ret [] (.cont (sv12.1, sv8.2.1, (IntKind.i64.wrap (sv8.2.2 - 1)))))) (
.ret [] (.brk (sv8.1, sv8.2.1, sv8.2.2)))
def S_mk_Treasury (a1 : Int) (p0 : TTape) : Scr Tryz.prog R_mk_Treasury R_mk_Treasury :=
.reg 0 [] [(0, { obs := [(1, (bx (TApiTreasury.e (⟨0, []⟩ : TApiTreasury))))] })] [.pf cz4] <|
.reg 1 [] [(1, hv (AV.d (TApiTreasury.e (⟨a1, []⟩ : TApiTreasury)))), (2, { obs := [(2, (bx (TApiTreasury.e (⟨0, []⟩ : TApiTreasury))))] })] [.pf (p := LeV (AV.d (DV.agg [(DV.i .i64 a1), Z0])) (AV.d (TApiTreasury.e (⟨a1, []⟩ : TApiTreasury)))) (leV_dle rfl (DLe.agg (DLeL.cons (DLe.refl _) (DLeL.cons DLe.sl0 DLeL.nil)))), .pf cz4] <|
.call (@F_mk_Tape_N_ok 4 p0) fun rv23 cv23 =>
.reg 2 [] [(1, hc cv23 [0] false)] [.cl 0 cv23 [0] 3 false] <|
.iter [0, 1, 4, 5] (fun (sv1 : TTape × TApiTreasury × Int) => [(6, (vi sv1.2.2))]) (fun (sv1 : TTape × TApiTreasury × Int) => [(0, (bx (TTape.e sv1.1))), (2, (bx (TApiTreasury.e sv1.2.1)))]) (rv23.2, (⟨a1, []⟩ : TApiTreasury), rv23.1) S_mk_Treasury_b1 (fun (sv1 : TTape × TApiTreasury × Int) =>
.call (@F_mk_Tape_N_ok 6 sv1.1) fun rv24 cv24 =>
.reg 6 [] [(1, hc cv24 [0] false)] [.cl 0 cv24 [0] 3 false] <|
.iter [0, 1, 4, 5] (fun (sv8 : TTape × TApiTreasury × Int) => [(7, (vi sv8.2.2))]) (fun (sv8 : TTape × TApiTreasury × Int) => [(0, (bx (TTape.e sv8.1))), (2, (bx (TApiTreasury.e sv8.2.1)))]) (rv24.2, sv1.2.1, rv24.1) (S_mk_Treasury_b2 a1) (fun (sv8 : TTape × TApiTreasury × Int) =>
.ret [] (sv8.2.1, sv8.1)) id) id
def F_mk_Treasury (a1 : Int) (p0 : TTape) : Option R_mk_Treasury := (S_mk_Treasury a1 p0).den
set_option maxRecDepth 100000 in
theorem F_mk_Treasury_ok {a1 : Int} {p0 : TTape} (r : R_mk_Treasury) (h : F_mk_Treasury a1 p0 = some r) : CallOk Tryz.prog 10 [(vp 0), (vi a1)] [(bx (TTape.e p0))] (V_mk_Treasury r) (L_mk_Treasury r) := fOk (s := S_mk_Treasury a1 p0) Tryz.func10 rfl (by kernel_rfl) h
/-! 57 -/
abbrev R_rights_sum := Int
def V_rights_sum (x : R_rights_sum) : AV := (vi x)
def L_rights_sum (_ : R_rights_sum) : List Ob := []
def S_rights_sum_b1 (a0 : (List Int)) (iv1 : Nat) (sv2 : Int) : Scr Tryz.prog R_rights_sum (Step (Int) R_rights_sum) :=
.reg 4 [] [] [.pf (nn iv1), .ev 0] <|
.ret [] (.cont (IntKind.i64.wrap (sv2 + (a0.getD iv1 default))))
def S_rights_sum (a0 : (List Int)) : Scr Tryz.prog R_rights_sum R_rights_sum :=
.range (a0.length : Int) a0.length rfl (.slot 6) 8 [6, 7] (fun (sv2 : Int) => [(3, (vi sv2))]) (fun (_ : Int) => []) 0 (S_rights_sum_b1 a0) (fun (sv2 : Int) => 
.ret [] sv2) id
def F_rights_sum (a0 : (List Int)) : Option R_rights_sum := (S_rights_sum a0).den
set_option maxRecDepth 100000 in
theorem F_rights_sum_ok {a0 : (List Int)} (r : R_rights_sum) (h : F_rights_sum a0 = some r) : CallOk Tryz.prog 57 [(vl a0)] [] (V_rights_sum r) (L_rights_sum r) := fOk (s := S_rights_sum a0) Tryz.func57 rfl (by kernel_rfl) h
/-! 17 -/
abbrev R_rights_Out := Int
def V_rights_Out (x : R_rights_Out) : AV := (vi x)
def L_rights_Out (_ : R_rights_Out) : List Ob := []
def S_rights_Out (a0 : TApiPot) : Scr Tryz.prog R_rights_Out R_rights_Out :=
.call (@F_rights_sum_ok (a0.Granted.take (((if (a0.Heard.length : Int) < (a0.Granted.length : Int) then (a0.Heard.length : Int) else (a0.Granted.length : Int))).toNat))) fun rv1 cv1 =>
.call (@F_rights_sum_ok (a0.Heard.take (((if (a0.Heard.length : Int) < (a0.Granted.length : Int) then (a0.Heard.length : Int) else (a0.Granted.length : Int))).toNat))) fun rv2 cv2 =>
.guard [(0 : Int) ≤ (if (a0.Heard.length : Int) < (a0.Granted.length : Int) then (a0.Heard.length : Int) else (a0.Granted.length : Int)), ((if (a0.Heard.length : Int) < (a0.Granted.length : Int) then (a0.Heard.length : Int) else (a0.Granted.length : Int))).toNat ≤ a0.Granted.length, ((if (a0.Heard.length : Int) < (a0.Granted.length : Int) then (a0.Heard.length : Int) else (a0.Granted.length : Int))).toNat ≤ a0.Heard.length] <|
.reg 2 [] [(3, hv (vl (a0.Granted.take (((if (a0.Heard.length : Int) < (a0.Granted.length : Int) then (a0.Heard.length : Int) else (a0.Granted.length : Int))).toNat)))), (4, hc cv1 [] true), (8, hv (vl (a0.Heard.take (((if (a0.Heard.length : Int) < (a0.Granted.length : Int) then (a0.Heard.length : Int) else (a0.Granted.length : Int))).toNat)))), (9, hc cv2 [] true)] [.ev 0, .ev 1, .der (fun (h0 : ((if (a0.Heard.length : Int) < (a0.Granted.length : Int) then (a0.Heard.length : Int) else (a0.Granted.length : Int))).toNat ≤ a0.Granted.length) => lvT (DV.i .i64) a0.Granted h0) 1, .cl 4 cv1 [] 1 true, .ev 0, .ev 2, .der (fun (h0 : ((if (a0.Heard.length : Int) < (a0.Granted.length : Int) then (a0.Heard.length : Int) else (a0.Granted.length : Int))).toNat ≤ a0.Heard.length) => lvT (DV.i .i64) a0.Heard h0) 2, .cl 3 cv2 [] 1 true] <|
.ret [] (IntKind.i64.wrap (rv1 - rv2))
def F_rights_Out (a0 : TApiPot) : Option R_rights_Out := (S_rights_Out a0).den
set_option maxRecDepth 100000 in
theorem F_rights_Out_ok {a0 : TApiPot} (r : R_rights_Out) (h : F_rights_Out a0 = some r) : CallOk Tryz.prog 17 [(AV.d (TApiPot.e a0))] [] (V_rights_Out r) (L_rights_Out r) := fOk (s := S_rights_Out a0) Tryz.func17 rfl (by kernel_rfl) h
/-! 19 -/
abbrev R_rights_Free := Int
def V_rights_Free (x : R_rights_Free) : AV := (vi x)
def L_rights_Free (_ : R_rights_Free) : List Ob := []
def S_rights_Free (a0 : TApiPot) : Scr Tryz.prog R_rights_Free R_rights_Free :=
.call (@F_rights_Out_ok a0) fun rv1 cv1 =>
.reg 1 [] [(3, hc cv1 [] true)] [.cl 0 cv1 [] 1 true] <|
.ret [] (IntKind.i64.wrap (a0.Total - rv1))
def F_rights_Free (a0 : TApiPot) : Option R_rights_Free := (S_rights_Free a0).den
set_option maxRecDepth 100000 in
theorem F_rights_Free_ok {a0 : TApiPot} (r : R_rights_Free) (h : F_rights_Free a0 = some r) : CallOk Tryz.prog 19 [(AV.d (TApiPot.e a0))] [] (V_rights_Free r) (L_rights_Free r) := fOk (s := S_rights_Free a0) Tryz.func19 rfl (by kernel_rfl) h
/-! 52 -/
abbrev R_rights_among := Bool
def V_rights_among (x : R_rights_among) : AV := (vb x)
def L_rights_among (_ : R_rights_among) : List Ob := []
def S_rights_among (a0 : Int) (a1 : Int) (a2 : Int) : Scr Tryz.prog R_rights_among R_rights_among :=
.ret [] (bif (decide (a0 ≥ a1)) then (decide (a0 ≤ a2)) else false)
def F_rights_among (a0 : Int) (a1 : Int) (a2 : Int) : Option R_rights_among := (S_rights_among a0 a1 a2).den
set_option maxRecDepth 100000 in
theorem F_rights_among_ok {a0 : Int} {a1 : Int} {a2 : Int} (r : R_rights_among) (h : F_rights_among a0 a1 a2 = some r) : CallOk Tryz.prog 52 [(vi a0), (vi a1), (vi a2)] [] (V_rights_among r) (L_rights_among r) := fOk (s := S_rights_among a0 a1 a2) Tryz.func52 rfl (by kernel_rfl) h
/-! 62 -/
abbrev R_rights_place := Bool
def V_rights_place (x : R_rights_place) : AV := (vb x)
def L_rights_place (_ : R_rights_place) : List Ob := []
def S_rights_place (a0 : List UInt8) (a1 : Int) : Scr Tryz.prog R_rights_place R_rights_place :=
.call (@F_classification_Parts_ok a0) fun rv1 cv1 =>
.calld [(decide ((rv1.length : Int) > 0)) = true] default (@F_rights_among_ok a1 0 99) fun rv2 cv2 =>
.reg 1 [] [(1, hc cv1 [] true), (6, hc cv2 [] true)] [.cl 2 cv1 [] 0 true, .clg 0 [(decide ((rv1.length : Int) > 0)) = true] cv2 [] 0 true] <|
.ret [] (bif (decide ((rv1.length : Int) > 0)) then rv2 else false)
def F_rights_place (a0 : List UInt8) (a1 : Int) : Option R_rights_place := (S_rights_place a0 a1).den
set_option maxRecDepth 100000 in
theorem F_rights_place_ok {a0 : List UInt8} {a1 : Int} (r : R_rights_place) (h : F_rights_place a0 a1 = some r) : CallOk Tryz.prog 62 [(AV.d (DV.str a0)), (vi a1)] [] (V_rights_place r) (L_rights_place r) := fOk (s := S_rights_place a0 a1) Tryz.func62 rfl (by kernel_rfl) h
/-! 77 -/
abbrev R_rights_total := Bool
def V_rights_total (x : R_rights_total) : AV := (vb x)
def L_rights_total (_ : R_rights_total) : List Ob := []
def S_rights_total (a0 : Int) : Scr Tryz.prog R_rights_total R_rights_total :=
.call (@F_rights_among_ok a0 0 1000000000000000) fun rv1 cv1 =>
.reg 1 [] [(1, hc cv1 [] true)] [.cl 0 cv1 [] 0 true] <|
.ret [] rv1
def F_rights_total (a0 : Int) : Option R_rights_total := (S_rights_total a0).den
set_option maxRecDepth 100000 in
theorem F_rights_total_ok {a0 : Int} (r : R_rights_total) (h : F_rights_total a0 = some r) : CallOk Tryz.prog 77 [(vi a0)] [] (V_rights_total r) (L_rights_total r) := fOk (s := S_rights_total a0) Tryz.func77 rfl (by kernel_rfl) h
/-! 80 -/
abbrev R_rights_valid_1 := Bool
def V_rights_valid_1 (x : R_rights_valid_1) : AV := (vb x)
def L_rights_valid_1 (_ : R_rights_valid_1) : List Ob := []
def S_rights_valid_1 (a0 : Int) : Scr Tryz.prog R_rights_valid_1 R_rights_valid_1 :=
.call (@F_rights_total_ok a0) fun rv1 cv1 =>
.reg 1 [] [(1, hc cv1 [] true)] [.cl 0 cv1 [] 0 true] <|
.ret [] (!rv1)
def F_rights_valid_1 (a0 : Int) : Option R_rights_valid_1 := (S_rights_valid_1 a0).den
set_option maxRecDepth 100000 in
theorem F_rights_valid_1_ok {a0 : Int} (r : R_rights_valid_1) (h : F_rights_valid_1 a0 = some r) : CallOk Tryz.prog 80 [(vi a0)] [] (V_rights_valid_1 r) (L_rights_valid_1 r) := fOk (s := S_rights_valid_1 a0) Tryz.func80 rfl (by kernel_rfl) h
/-! 93 -/
abbrev R_slices_IndexFunc_int_rights_valid_1 := Int
def V_slices_IndexFunc_int_rights_valid_1 (x : R_slices_IndexFunc_int_rights_valid_1) : AV := (vi x)
def L_slices_IndexFunc_int_rights_valid_1 (_ : R_slices_IndexFunc_int_rights_valid_1) : List Ob := []
def S_slices_IndexFunc_int_rights_valid_1_b1 (a0 : (List Int)) (iv1 : Nat) (_ : Unit) : Scr Tryz.prog R_slices_IndexFunc_int_rights_valid_1 (Step (Unit) R_slices_IndexFunc_int_rights_valid_1) :=
.call (@F_rights_valid_1_ok (a0.getD iv1 default)) fun rv2 cv2 =>
.reg 4 [] [(5, hc cv2 [] true)] [.pf (nn iv1), .ev 1, .cl 0 cv2 [] 0 true] <|
.ite rv2 (
.ret [] (.ret (iv1 : Int))) (
.ret [] (.cont ()))
def S_slices_IndexFunc_int_rights_valid_1 (a0 : (List Int)) : Scr Tryz.prog R_slices_IndexFunc_int_rights_valid_1 R_slices_IndexFunc_int_rights_valid_1 :=
.range (a0.length : Int) a0.length rfl (.slot 0) 8 [0, 1, 7] (fun (_ : Unit) => []) (fun (_ : Unit) => []) () (S_slices_IndexFunc_int_rights_valid_1_b1 a0) (fun (_ : Unit) => 
.ret [] (-1)) id
def F_slices_IndexFunc_int_rights_valid_1 (a0 : (List Int)) : Option R_slices_IndexFunc_int_rights_valid_1 := (S_slices_IndexFunc_int_rights_valid_1 a0).den
set_option maxRecDepth 100000 in
theorem F_slices_IndexFunc_int_rights_valid_1_ok {a0 : (List Int)} (r : R_slices_IndexFunc_int_rights_valid_1) (h : F_slices_IndexFunc_int_rights_valid_1 a0 = some r) : CallOk Tryz.prog 93 [(vl a0), (AV.fn 80 [])] [] (V_slices_IndexFunc_int_rights_valid_1 r) (L_slices_IndexFunc_int_rights_valid_1 r) := fOk (s := S_slices_IndexFunc_int_rights_valid_1 a0) Tryz.func93 rfl (by kernel_rfl) h
/-! 75 -/
abbrev R_slices_CoF_int_rights_valid_1 := Bool
def V_slices_CoF_int_rights_valid_1 (x : R_slices_CoF_int_rights_valid_1) : AV := (vb x)
def L_slices_CoF_int_rights_valid_1 (_ : R_slices_CoF_int_rights_valid_1) : List Ob := []
def S_slices_CoF_int_rights_valid_1 (a0 : (List Int)) : Scr Tryz.prog R_slices_CoF_int_rights_valid_1 R_slices_CoF_int_rights_valid_1 :=
.call (@F_slices_IndexFunc_int_rights_valid_1_ok a0) fun rv1 cv1 =>
.reg 1 [] [(2, hc cv1 [] true)] [.cl 0 cv1 [] 0 true] <|
.ret [] (decide (rv1 ≥ 0))
def F_slices_CoF_int_rights_valid_1 (a0 : (List Int)) : Option R_slices_CoF_int_rights_valid_1 := (S_slices_CoF_int_rights_valid_1 a0).den
set_option maxRecDepth 100000 in
theorem F_slices_CoF_int_rights_valid_1_ok {a0 : (List Int)} (r : R_slices_CoF_int_rights_valid_1) (h : F_slices_CoF_int_rights_valid_1 a0 = some r) : CallOk Tryz.prog 75 [(vl a0), (AV.fn 80 [])] [] (V_slices_CoF_int_rights_valid_1 r) (L_slices_CoF_int_rights_valid_1 r) := fOk (s := S_slices_CoF_int_rights_valid_1 a0) Tryz.func75 rfl (by kernel_rfl) h
/-! 53 -/
abbrev R_rights_valid := Bool
def V_rights_valid (x : R_rights_valid) : AV := (vb x)
def L_rights_valid (_ : R_rights_valid) : List Ob := []
def S_rights_valid_b1 (a0 : TApiPot) (a1 : Int) (iv1 : Nat) (_ : Unit) : Scr Tryz.prog R_rights_valid (Step (Unit) R_rights_valid) :=
.reg 6 [] [] [.pf (nn iv1), .ev 0] <|
.calld [(((([a0.Granted, a0.Heard, a0.Asked, a0.Used] : List (List Int)).getD iv1 default).length : Int) != a1) = false] default (@F_slices_CoF_int_rights_valid_1_ok (([a0.Granted, a0.Heard, a0.Asked, a0.Used] : List (List Int)).getD iv1 default)) fun rv2 cv2 =>
.reg 7 [] [(7, hc cv2 [] true)] [.clg 0 [(((([a0.Granted, a0.Heard, a0.Asked, a0.Used] : List (List Int)).getD iv1 default).length : Int) != a1) = false] cv2 [] 1 true] <|
.ite (bif (((([a0.Granted, a0.Heard, a0.Asked, a0.Used] : List (List Int)).getD iv1 default).length : Int) != a1) then true else rv2) (
.ret [] (.ret false)) (
.ret [] (.cont ()))
def S_rights_valid_b2 (a0 : TApiPot) (iv3 : Nat) (_ : Unit) : Scr Tryz.prog R_rights_valid (Step (Unit) R_rights_valid) :=
.reg 12 [] [] [.pf (nn iv3), .ev 0] <|
.guard [iv3 < a0.Heard.length, AllP [(decide ((a0.Heard.getD iv3 default) > (a0.Granted.getD iv3 default))) = false] → (iv3 < a0.Asked.length)] <|
.reg 13 [] [] [.pf (nn iv3), .ev 0, .pf (p := AllP [(decide ((a0.Heard.getD iv3 default) > (a0.Granted.getD iv3 default))) = false] → ((0 : Int) ≤ (iv3 : Int))) (fun _ => (Int.natCast_nonneg _)), .ev 1] <|
.ite (bif (decide ((a0.Heard.getD iv3 default) > (a0.Granted.getD iv3 default))) then true else (decide ((a0.Asked.getD iv3 default) > (a0.Granted.getD iv3 default)))) (
.ret [] (.ret false)) (
.ret [] (.cont ()))
def S_rights_valid (a0 : TApiPot) (a1 : Int) : Scr Tryz.prog R_rights_valid R_rights_valid :=
.call (@F_rights_place_ok a0.Code a0.Year) fun rv4 cv4 =>
.calld [(!rv4) = false] default (@F_rights_among_ok a0.Total (-1000000000000000) 1000000000000000) fun rv5 cv5 =>
.reg 1 [] [(4, hc cv4 [] true), (9, hc cv5 [] true)] [.cl 2 cv4 [] 1 true, .clg 0 [(!rv4) = false] cv5 [] 1 true] <|
.ite (bif (!rv4) then true else (!rv5)) (
.ret [] false) (
.reg 4 [] [(8, hv (AV.d (eL (eL (DV.i .i64)) ([a0.Granted, a0.Heard, a0.Asked, a0.Used] : List (List Int)))))] [.pf (leV_lit (eL (DV.i .i64)) ([a0.Granted, a0.Heard, a0.Asked, a0.Used] : List (List Int)))] <|
.range 4 4 rfl (.why (.pf (p := 4 < 2 ^ 63) (by decide))) 32 [1, 2, 5, 30, 31] (fun (_ : Unit) => []) (fun (_ : Unit) => []) () (S_rights_valid_b1 a0 a1) (fun (_ : Unit) => 
.range (a0.Granted.length : Int) a0.Granted.length rfl (.slot 47) 49 [2, 47, 48] (fun (_ : Unit) => []) (fun (_ : Unit) => []) () (S_rights_valid_b2 a0) (fun (_ : Unit) => 
.call (@F_rights_sum_ok a0.Granted) fun rv6 cv6 =>
.reg 16 [] [(2, hc cv6 [] true)] [.cl 0 cv6 [] 1 true] <|
.ret [] (decide (rv6 ≤ 1000000000000000))) id) id)
def F_rights_valid (a0 : TApiPot) (a1 : Int) : Option R_rights_valid := (S_rights_valid a0 a1).den
set_option maxRecDepth 100000 in
theorem F_rights_valid_ok {a0 : TApiPot} {a1 : Int} (r : R_rights_valid) (h : F_rights_valid a0 a1 = some r) : CallOk Tryz.prog 53 [(AV.d (TApiPot.e a0)), (vi a1)] [] (V_rights_valid r) (L_rights_valid r) := fOk (s := S_rights_valid a0 a1) Tryz.func53 rfl (by kernel_rfl) h
/-! 102 -/
abbrev R_cmp_isNaN_string := Bool
def V_cmp_isNaN_string (x : R_cmp_isNaN_string) : AV := (vb x)
def L_cmp_isNaN_string (_ : R_cmp_isNaN_string) : List Ob := []
def S_cmp_isNaN_string (a0 : List UInt8) : Scr Tryz.prog R_cmp_isNaN_string R_cmp_isNaN_string :=
.ret [] (!(a0 == a0))
def F_cmp_isNaN_string (a0 : List UInt8) : Option R_cmp_isNaN_string := (S_cmp_isNaN_string a0).den
set_option maxRecDepth 100000 in
theorem F_cmp_isNaN_string_ok {a0 : List UInt8} (r : R_cmp_isNaN_string) (h : F_cmp_isNaN_string a0 = some r) : CallOk Tryz.prog 102 [(AV.d (DV.str a0))] [] (V_cmp_isNaN_string r) (L_cmp_isNaN_string r) := fOk (s := S_cmp_isNaN_string a0) Tryz.func102 rfl (by kernel_rfl) h
/-! 94 -/
abbrev R_cmp_Compare_string := Int
def V_cmp_Compare_string (x : R_cmp_Compare_string) : AV := (vi x)
def L_cmp_Compare_string (_ : R_cmp_Compare_string) : List Ob := []
def S_cmp_Compare_string (a0 : List UInt8) (a1 : List UInt8) : Scr Tryz.prog R_cmp_Compare_string R_cmp_Compare_string :=
.call (@F_cmp_isNaN_string_ok a0) fun rv1 cv1 =>
.reg 1 [] [(1, hc cv1 [] true)] [.cl 0 cv1 [] 0 true] <|
.call (@F_cmp_isNaN_string_ok a1) fun rv2 cv2 =>
.reg 2 [] [(1, hc cv2 [] true)] [.cl 0 cv2 [] 0 true] <|
.ite rv1 (
.ite rv2 (
.ret [] 0) (
.ret [] (-1))) (
.ite rv2 (
.ret [] 1) (
.ite (Op.bytesLess a0 a1) (
.ret [] (-1)) (
.ite (!(Op.bytesLess a0 a1 || a0 == a1)) (
.ret [] 1) (
.ret [] 0))))
def F_cmp_Compare_string (a0 : List UInt8) (a1 : List UInt8) : Option R_cmp_Compare_string := (S_cmp_Compare_string a0 a1).den
set_option maxRecDepth 100000 in
theorem F_cmp_Compare_string_ok {a0 : List UInt8} {a1 : List UInt8} (r : R_cmp_Compare_string) (h : F_cmp_Compare_string a0 a1 = some r) : CallOk Tryz.prog 94 [(AV.d (DV.str a0)), (AV.d (DV.str a1))] [] (V_cmp_Compare_string r) (L_cmp_Compare_string r) := fOk (s := S_cmp_Compare_string a0 a1) Tryz.func94 rfl (by kernel_rfl) h
/-! 96 -/
abbrev R_cmp_isNaN_int := Bool
def V_cmp_isNaN_int (x : R_cmp_isNaN_int) : AV := (vb x)
def L_cmp_isNaN_int (_ : R_cmp_isNaN_int) : List Ob := []
def S_cmp_isNaN_int (a0 : Int) : Scr Tryz.prog R_cmp_isNaN_int R_cmp_isNaN_int :=
.ret [] (a0 != a0)
def F_cmp_isNaN_int (a0 : Int) : Option R_cmp_isNaN_int := (S_cmp_isNaN_int a0).den
set_option maxRecDepth 100000 in
theorem F_cmp_isNaN_int_ok {a0 : Int} (r : R_cmp_isNaN_int) (h : F_cmp_isNaN_int a0 = some r) : CallOk Tryz.prog 96 [(vi a0)] [] (V_cmp_isNaN_int r) (L_cmp_isNaN_int r) := fOk (s := S_cmp_isNaN_int a0) Tryz.func96 rfl (by kernel_rfl) h
/-! 83 -/
abbrev R_cmp_Compare_int := Int
def V_cmp_Compare_int (x : R_cmp_Compare_int) : AV := (vi x)
def L_cmp_Compare_int (_ : R_cmp_Compare_int) : List Ob := []
def S_cmp_Compare_int (a0 : Int) (a1 : Int) : Scr Tryz.prog R_cmp_Compare_int R_cmp_Compare_int :=
.call (@F_cmp_isNaN_int_ok a0) fun rv1 cv1 =>
.reg 1 [] [(1, hc cv1 [] true)] [.cl 0 cv1 [] 0 true] <|
.call (@F_cmp_isNaN_int_ok a1) fun rv2 cv2 =>
.reg 2 [] [(1, hc cv2 [] true)] [.cl 0 cv2 [] 0 true] <|
.ite rv1 (
.ite rv2 (
.ret [] 0) (
.ret [] (-1))) (
.ite rv2 (
.ret [] 1) (
.ite (decide (a0 < a1)) (
.ret [] (-1)) (
.ite (decide (a0 > a1)) (
.ret [] 1) (
.ret [] 0))))
def F_cmp_Compare_int (a0 : Int) (a1 : Int) : Option R_cmp_Compare_int := (S_cmp_Compare_int a0 a1).den
set_option maxRecDepth 100000 in
theorem F_cmp_Compare_int_ok {a0 : Int} {a1 : Int} (r : R_cmp_Compare_int) (h : F_cmp_Compare_int a0 a1 = some r) : CallOk Tryz.prog 83 [(vi a0), (vi a1)] [] (V_cmp_Compare_int r) (L_cmp_Compare_int r) := fOk (s := S_cmp_Compare_int a0 a1) Tryz.func83 rfl (by kernel_rfl) h
/-! 95 -/
abbrev R_slices_Compare_int := Int
def V_slices_Compare_int (x : R_slices_Compare_int) : AV := (vi x)
def L_slices_Compare_int (_ : R_slices_Compare_int) : List Ob := []
def S_slices_Compare_int_b1 (a0 : (List Int)) (a1 : (List Int)) (iv1 : Nat) (_ : Unit) : Scr Tryz.prog R_slices_Compare_int (Step (Unit) R_slices_Compare_int) :=
.reg 3 [] [] [.pf (nn iv1), .ev 0] <|
.ite (decide ((iv1 : Int) ≥ (a1.length : Int))) (
.ret [] (.ret 1)) (
.guard [iv1 < a1.length] <|
.reg 6 [] [] [.pf (nn iv1), .ev 0] <|
.call (@F_cmp_Compare_int_ok (a0.getD iv1 default) (a1.getD iv1 default)) fun rv2 cv2 =>
.reg 7 [] [(2, hc cv2 [] true)] [.cl 0 cv2 [] 0 true] <|
.ite (rv2 != 0) (
.ret [] (.ret rv2)) (
.ret [] (.cont ())))
def S_slices_Compare_int (a0 : (List Int)) (a1 : (List Int)) : Scr Tryz.prog R_slices_Compare_int R_slices_Compare_int :=
.range (a0.length : Int) a0.length rfl (.slot 0) 11 [0, 1, 9, 10] (fun (_ : Unit) => []) (fun (_ : Unit) => []) () (S_slices_Compare_int_b1 a0 a1) (fun (_ : Unit) => 
.ite (decide ((a0.length : Int) < (a1.length : Int))) (
.ret [] (-1)) (
.ret [] 0)) id
def F_slices_Compare_int (a0 : (List Int)) (a1 : (List Int)) : Option R_slices_Compare_int := (S_slices_Compare_int a0 a1).den
set_option maxRecDepth 100000 in
theorem F_slices_Compare_int_ok {a0 : (List Int)} {a1 : (List Int)} (r : R_slices_Compare_int) (h : F_slices_Compare_int a0 a1 = some r) : CallOk Tryz.prog 95 [(vl a0), (vl a1)] [] (V_slices_Compare_int r) (L_slices_Compare_int r) := fOk (s := S_slices_Compare_int a0 a1) Tryz.func95 rfl (by kernel_rfl) h
/-! 82 -/
abbrev R_classification_Compare := Int
def V_classification_Compare (x : R_classification_Compare) : AV := (vi x)
def L_classification_Compare (_ : R_classification_Compare) : List Ob := []
def S_classification_Compare (a0 : List UInt8) (a1 : List UInt8) : Scr Tryz.prog R_classification_Compare R_classification_Compare :=
.call (@F_classification_Parts_ok a0) fun rv1 cv1 =>
.call (@F_classification_Parts_ok a1) fun rv2 cv2 =>
.reg 1 [] [(1, hc cv1 [] true), (3, hc cv2 [] true)] [.cl 1 cv1 [] 0 true, .cl 0 cv2 [] 0 true] <|
.ite (bif ((rv1.length : Int) == 0) then ((rv2.length : Int) == 0) else false) (
.call (@F_cmp_Compare_string_ok a0 a1) fun rv3 cv3 =>
.reg 3 [] [(2, hc cv3 [] true)] [.cl 0 cv3 [] 0 true] <|
.ret [] rv3) (
.call (@F_slices_Compare_int_ok rv1 rv2) fun rv4 cv4 =>
.reg 4 [] [(2, hc cv4 [] true)] [.cl 0 cv4 [] 0 true] <|
.ret [] rv4)
def F_classification_Compare (a0 : List UInt8) (a1 : List UInt8) : Option R_classification_Compare := (S_classification_Compare a0 a1).den
set_option maxRecDepth 100000 in
theorem F_classification_Compare_ok {a0 : List UInt8} {a1 : List UInt8} (r : R_classification_Compare) (h : F_classification_Compare a0 a1 = some r) : CallOk Tryz.prog 82 [(AV.d (DV.str a0)), (AV.d (DV.str a1))] [] (V_classification_Compare r) (L_classification_Compare r) := fOk (s := S_classification_Compare a0 a1) Tryz.func82 rfl (by kernel_rfl) h
/-! 81 -/
abbrev R_cmp_Or_int := Int
def V_cmp_Or_int (x : R_cmp_Or_int) : AV := (vi x)
def L_cmp_Or_int (_ : R_cmp_Or_int) : List Ob := []
def S_cmp_Or_int_b1 (a0 : (List Int)) (iv1 : Nat) (_ : Unit) : Scr Tryz.prog R_cmp_Or_int (Step (Unit) R_cmp_Or_int) :=
.reg 4 [] [] [.pf (nn iv1), .ev 0] <|
.ite ((a0.getD iv1 default) != 0) (
.ret [] (.ret (a0.getD iv1 default))) (
.ret [] (.cont ()))
def S_cmp_Or_int (a0 : (List Int)) : Scr Tryz.prog R_cmp_Or_int R_cmp_Or_int :=
.range (a0.length : Int) a0.length rfl (.slot 6) 8 [3, 6, 7] (fun (_ : Unit) => []) (fun (_ : Unit) => []) () (S_cmp_Or_int_b1 a0) (fun (_ : Unit) => 
.ret [] 0) id
def F_cmp_Or_int (a0 : (List Int)) : Option R_cmp_Or_int := (S_cmp_Or_int a0).den
set_option maxRecDepth 100000 in
theorem F_cmp_Or_int_ok {a0 : (List Int)} (r : R_cmp_Or_int) (h : F_cmp_Or_int a0 = some r) : CallOk Tryz.prog 81 [(vl a0)] [] (V_cmp_Or_int r) (L_cmp_Or_int r) := fOk (s := S_cmp_Or_int a0) Tryz.func81 rfl (by kernel_rfl) h
/-! 54 -/
abbrev R_rights_compare := Int
def V_rights_compare (x : R_rights_compare) : AV := (vi x)
def L_rights_compare (_ : R_rights_compare) : List Ob := []
def S_rights_compare (a0 : TApiPot) (a1 : TApiPot) : Scr Tryz.prog R_rights_compare R_rights_compare :=
.call (@F_classification_Compare_ok a0.Code a1.Code) fun rv1 cv1 =>
.call (@F_cmp_Compare_int_ok a0.Year a1.Year) fun rv2 cv2 =>
.call (@F_cmp_Or_int_ok ([rv1, rv2] : List Int)) fun rv3 cv3 =>
.reg 1 [] [(4, hc cv1 [] true), (9, hc cv2 [] true), (10, hv (vl ([rv1, rv2] : List Int))), (11, hc cv3 [] true)] [.cl 2 cv1 [] 2 true, .cl 1 cv2 [] 2 true, .pf (leV_lit (DV.i .i64) ([rv1, rv2] : List Int)), .cl 0 cv3 [] 2 true] <|
.ret [] rv3
def F_rights_compare (a0 : TApiPot) (a1 : TApiPot) : Option R_rights_compare := (S_rights_compare a0 a1).den
set_option maxRecDepth 100000 in
theorem F_rights_compare_ok {a0 : TApiPot} {a1 : TApiPot} (r : R_rights_compare) (h : F_rights_compare a0 a1 = some r) : CallOk Tryz.prog 54 [(AV.d (TApiPot.e a0)), (AV.d (TApiPot.e a1))] [] (V_rights_compare r) (L_rights_compare r) := fOk (s := S_rights_compare a0 a1) Tryz.func54 rfl (by kernel_rfl) h
/-! 15 -/
abbrev R_rights_Valid := Bool
def V_rights_Valid (x : R_rights_Valid) : AV := (vb x)
def L_rights_Valid (_ : R_rights_Valid) : List Ob := []
def S_rights_Valid_b1 (a0 : TApiTreasury) (iv1 : Nat) (_ : Unit) : Scr Tryz.prog R_rights_Valid (Step (Unit) R_rights_Valid) :=
.reg 5 [] [(3, { obs := [(1, (bx (TApiPot.e (⟨[], 0, 0, [], [], [], []⟩ : TApiPot))))] })] [.pf (nn iv1), .ev 0, .pf cz2] <|
.call (@F_rights_valid_ok (a0.Pots.getD iv1 default) a0.Offices) fun rv2 cv2 =>
.calld [(decide ((iv1 : Int) > 0)) = true, (!rv2) = false] default (@F_rights_compare_ok (a0.Pots.getD (((IntKind.i64.wrap ((iv1 : Int) - 1))).toNat) default) (a0.Pots.getD iv1 default)) fun rv3 cv3 =>
.guard [AllP [(decide ((iv1 : Int) > 0)) = true, (!rv2) = false] → ((0 : Int) ≤ (IntKind.i64.wrap ((iv1 : Int) - 1))), AllP [(decide ((iv1 : Int) > 0)) = true, (!rv2) = false] → (((IntKind.i64.wrap ((iv1 : Int) - 1))).toNat < a0.Pots.length)] <|
.reg 6 [] [(3, hc cv2 [] true), (16, hc cv3 [] true)] [.cl 4 cv2 [] 2 true, .ev 0, .ev 1, .clg 2 [(decide ((iv1 : Int) > 0)) = true, (!rv2) = false] cv3 [] 2 true] <|
.ite (bif (!rv2) then true else (bif (decide ((iv1 : Int) > 0)) then (decide (rv3 ≥ 0)) else false)) (
.ret [] (.ret false)) (
.ret [] (.cont ()))
def S_rights_Valid (a0 : TApiTreasury) : Scr Tryz.prog R_rights_Valid R_rights_Valid :=
.call (@F_rights_among_ok a0.Offices 1 6) fun rv4 cv4 =>
.reg 1 [] [(2, hc cv4 [] true)] [.cl 0 cv4 [] 1 true] <|
.ite (bif (!rv4) then true else (decide ((a0.Pots.length : Int) > 60))) (
.ret [] false) (
.range (a0.Pots.length : Int) a0.Pots.length rfl (.slot 16) 18 [1, 16, 17] (fun (_ : Unit) => []) (fun (_ : Unit) => []) () (S_rights_Valid_b1 a0) (fun (_ : Unit) => 
.ret [] true) id)
def F_rights_Valid (a0 : TApiTreasury) : Option R_rights_Valid := (S_rights_Valid a0).den
set_option maxRecDepth 100000 in
theorem F_rights_Valid_ok {a0 : TApiTreasury} (r : R_rights_Valid) (h : F_rights_Valid a0 = some r) : CallOk Tryz.prog 15 [(AV.d (TApiTreasury.e a0))] [] (V_rights_Valid r) (L_rights_Valid r) := fOk (s := S_rights_Valid a0) Tryz.func15 rfl (by kernel_rfl) h
/-! 86 -/
abbrev R_rights_find_1 := Bool
def V_rights_find_1 (x : R_rights_find_1) : AV := (vb x)
def L_rights_find_1 (p0 : List UInt8) (p1 : Int) (_ : R_rights_find_1) : List Ob := [(bx (DV.str p0)), (Ob.box (vi p1))]
def S_rights_find_1 (a0 : TApiPot) (p0 : List UInt8) (p1 : Int) : Scr Tryz.prog R_rights_find_1 R_rights_find_1 :=
.ret [] (bif (a0.Code == p0) then (a0.Year == p1) else false)
def F_rights_find_1 (a0 : TApiPot) (p0 : List UInt8) (p1 : Int) : Option R_rights_find_1 := (S_rights_find_1 a0 p0 p1).den
set_option maxRecDepth 100000 in
theorem F_rights_find_1_ok {a0 : TApiPot} {p0 : List UInt8} {p1 : Int} (r : R_rights_find_1) (h : F_rights_find_1 a0 p0 p1 = some r) : CallOk Tryz.prog 86 [(AV.d (TApiPot.e a0)), (vp 0), (vp 1)] [(bx (DV.str p0)), (Ob.box (vi p1))] (V_rights_find_1 r) (L_rights_find_1 p0 p1 r) := fOk (s := S_rights_find_1 a0 p0 p1) Tryz.func86 rfl (by kernel_rfl) h
/-! 85 -/
abbrev R_slices_IndexFunc_Pot_rights_find_1 := Int
def V_slices_IndexFunc_Pot_rights_find_1 (x : R_slices_IndexFunc_Pot_rights_find_1) : AV := (vi x)
def L_slices_IndexFunc_Pot_rights_find_1 (p0 : List UInt8) (p1 : Int) (_ : R_slices_IndexFunc_Pot_rights_find_1) : List Ob := [(bx (DV.str p0)), (Ob.box (vi p1))]
def S_slices_IndexFunc_Pot_rights_find_1_b1 (a0 : (List TApiPot)) (p0 : List UInt8) (p1 : Int) (iv1 : Nat) (_ : Unit) : Scr Tryz.prog R_slices_IndexFunc_Pot_rights_find_1 (Step (Unit) R_slices_IndexFunc_Pot_rights_find_1) :=
.call (@F_rights_find_1_ok (a0.getD iv1 default) p0 p1) fun rv2 cv2 =>
.reg 4 [] [(5, hc cv2 [0, 1] true)] [.pf (nn iv1), .ev 1, .cl 0 cv2 [0, 1] 2 true] <|
.ite rv2 (
.ret [] (.ret (iv1 : Int))) (
.ret [] (.cont ()))
def S_slices_IndexFunc_Pot_rights_find_1 (a0 : (List TApiPot)) (p0 : List UInt8) (p1 : Int) : Scr Tryz.prog R_slices_IndexFunc_Pot_rights_find_1 R_slices_IndexFunc_Pot_rights_find_1 :=
.range (a0.length : Int) a0.length rfl (.slot 0) 8 [0, 1, 7] (fun (_ : Unit) => []) (fun (_ : Unit) => []) () (S_slices_IndexFunc_Pot_rights_find_1_b1 a0 p0 p1) (fun (_ : Unit) => 
.ret [] (-1)) id
def F_slices_IndexFunc_Pot_rights_find_1 (a0 : (List TApiPot)) (p0 : List UInt8) (p1 : Int) : Option R_slices_IndexFunc_Pot_rights_find_1 := (S_slices_IndexFunc_Pot_rights_find_1 a0 p0 p1).den
set_option maxRecDepth 100000 in
theorem F_slices_IndexFunc_Pot_rights_find_1_ok {a0 : (List TApiPot)} {p0 : List UInt8} {p1 : Int} (r : R_slices_IndexFunc_Pot_rights_find_1) (h : F_slices_IndexFunc_Pot_rights_find_1 a0 p0 p1 = some r) : CallOk Tryz.prog 85 [(AV.d (eL TApiPot.e a0)), (AV.fn 86 [(vp 0), (vp 1)])] [(bx (DV.str p0)), (Ob.box (vi p1))] (V_slices_IndexFunc_Pot_rights_find_1 r) (L_slices_IndexFunc_Pot_rights_find_1 p0 p1 r) := fOk (s := S_slices_IndexFunc_Pot_rights_find_1 a0 p0 p1) Tryz.func85 rfl (by kernel_rfl) h
/-! 58 -/
abbrev R_rights_find := Int
def V_rights_find (x : R_rights_find) : AV := (vi x)
def L_rights_find (_ : R_rights_find) : List Ob := []
def S_rights_find (a0 : TApiTreasury) (a1 : List UInt8) (a2 : Int) : Scr Tryz.prog R_rights_find R_rights_find :=
.call (@F_slices_IndexFunc_Pot_rights_find_1_ok a0.Pots a1 a2) fun rv1 cv1 =>
.reg 1 [] [(3, hc cv1 [1, 2] true)] [.cl 0 cv1 [1, 2] 3 true] <|
.ret [] rv1
def F_rights_find (a0 : TApiTreasury) (a1 : List UInt8) (a2 : Int) : Option R_rights_find := (S_rights_find a0 a1 a2).den
set_option maxRecDepth 100000 in
theorem F_rights_find_ok {a0 : TApiTreasury} {a1 : List UInt8} {a2 : Int} (r : R_rights_find) (h : F_rights_find a0 a1 a2 = some r) : CallOk Tryz.prog 58 [(AV.d (TApiTreasury.e a0)), (AV.d (DV.str a1)), (vi a2)] [] (V_rights_find r) (L_rights_find r) := fOk (s := S_rights_find a0 a1 a2) Tryz.func58 rfl (by kernel_rfl) h
/-! 87 -/
abbrev R_slices_Clone_int_rw := (List Int)
def V_slices_Clone_int_rw (x : R_slices_Clone_int_rw) : AV := (AV.ref 0 x.length 0 x.length)
def L_slices_Clone_int_rw (x : R_slices_Clone_int_rw) : List Ob := [(eS 1 (DV.i .i64) x)]
def S_slices_Clone_int_rw (a0 : (List Int)) : Scr Tryz.prog R_slices_Clone_int_rw R_slices_Clone_int_rw :=
.reg 0 [] [] [] <|
.nils 0 (
.guard [a0.length * (2 * 8) ≤ 2 ^ 48] <|
.reg 1 [] [] [] <|
.lev 0 (vl a0) (.pf (lvQ true a0.length fun j => (DV.i .i64 (a0.getD j default)))) <|
.br true (.pf (p := true = true) rfl) <|
.reg 2 [] [] [] <|
.bor 1 (fun j => AV.d ((DV.i .i64) (a0.getD j default))) [2] <|
.cst (A := a0.length = 0) (.ev 1) [(2, AV.ref 0 0 0 0)] [(2, (AV.ref 0 a0.length 0 a0.length))] [(Ob.seq 1 0 fun j => AV.d ((DV.i .i64) (a0.getD j default)))] [(eS 1 (DV.i .i64) a0)] (fun h => ⟨by rw [h], by unfold eS; rw [h]⟩) <|
.ret [] a0) (
.reg 1 [] [] [] <|
.lev 0 (vl a0) (.pf (lvQ false a0.length fun j => (DV.i .i64 (a0.getD j default)))) <|
.br false (.pf (p := false = false) rfl) <|
.guard [a0.length * (2 * 8) ≤ 2 ^ 48] <|
.reg 3 [] [(2, { h := .obj })] [.pf (p := ∀ k, k < a0.length → (AV.d ((DV.i .i64) (a0.getD k default))).wd = 1) (fun _ _ => rfl), .ev 0] <|
.ret [] a0)
def F_slices_Clone_int_rw (a0 : (List Int)) : Option R_slices_Clone_int_rw := (S_slices_Clone_int_rw a0).den
set_option maxRecDepth 100000 in
theorem F_slices_Clone_int_rw_ok {a0 : (List Int)} (r : R_slices_Clone_int_rw) (h : F_slices_Clone_int_rw a0 = some r) : CallOk Tryz.prog 87 [(vl a0)] [] (V_slices_Clone_int_rw r) (L_slices_Clone_int_rw r) := fOk (s := S_slices_Clone_int_rw a0) Tryz.func87 rfl (by kernel_rfl) h
/-! 59 -/
abbrev R_rights_copied_rw := List UInt8 × Int × Int × (List Int) × (List Int) × (List Int) × (List Int)
def V_rights_copied_rw (x : R_rights_copied_rw) : AV := (AV.agg [(AV.d (DV.str x.1)), (vi x.2.1), (vi x.2.2.1), (AV.ref 2 x.2.2.2.1.length 0 x.2.2.2.1.length), (AV.ref 3 x.2.2.2.2.1.length 0 x.2.2.2.2.1.length), (AV.ref 4 x.2.2.2.2.2.1.length 0 x.2.2.2.2.2.1.length), (AV.ref 5 x.2.2.2.2.2.2.length 0 x.2.2.2.2.2.2.length)])
def L_rights_copied_rw (x : R_rights_copied_rw) : List Ob := [Ob.dead, (Ob.box (AV.agg [(AV.d (DV.str x.1)), (vi x.2.1), (vi x.2.2.1), (AV.ref 2 x.2.2.2.1.length 0 x.2.2.2.1.length), (AV.ref 3 x.2.2.2.2.1.length 0 x.2.2.2.2.1.length), (AV.ref 4 x.2.2.2.2.2.1.length 0 x.2.2.2.2.2.1.length), (AV.ref 5 x.2.2.2.2.2.2.length 0 x.2.2.2.2.2.2.length)])), (eS 1 (DV.i .i64) x.2.2.2.1), (eS 1 (DV.i .i64) x.2.2.2.2.1), (eS 1 (DV.i .i64) x.2.2.2.2.2.1), (eS 1 (DV.i .i64) x.2.2.2.2.2.2)]
def S_rights_copied_rw (a0 : TApiPot) : Scr Tryz.prog R_rights_copied_rw R_rights_copied_rw :=
.reg 0 [] [(1, { obs := [(1, (bx (TApiPot.e (⟨[], 0, 0, [], [], [], []⟩ : TApiPot))))] })] [.pf cz2] <|
.call (@F_slices_Clone_int_rw_ok a0.Granted) fun rv1 cv1 =>
.call (@F_slices_Clone_int_rw_ok a0.Heard) fun rv2 cv2 =>
.call (@F_slices_Clone_int_rw_ok a0.Asked) fun rv3 cv3 =>
.call (@F_slices_Clone_int_rw_ok a0.Used) fun rv4 cv4 =>
.reg 1 [2, 5, 8, 11, 13, 15, 17, 19] [(2, hc cv1 [] false), (5, hc cv2 [] false), (8, hc cv3 [] false), (11, hc cv4 [] false)] [.cl 3 cv1 [] 2 false, .cl 2 cv2 [] 3 false, .cl 1 cv3 [] 4 false, .cl 0 cv4 [] 5 false] <|
.reg 2 [] [] [] <|
.kill 0 <|
.ret [] (a0.Code, a0.Year, a0.Total, rv1, rv2, rv3, rv4)
def F_rights_copied_rw (a0 : TApiPot) : Option R_rights_copied_rw := (S_rights_copied_rw a0).den
set_option maxRecDepth 100000 in
theorem F_rights_copied_rw_ok {a0 : TApiPot} (r : R_rights_copied_rw) (h : F_rights_copied_rw a0 = some r) : CallOk Tryz.prog 59 [(AV.d (TApiPot.e a0))] [] (V_rights_copied_rw r) (L_rights_copied_rw r) := fOk (s := S_rights_copied_rw a0) Tryz.func59 rfl (by kernel_rfl) h
end
end Go.Proofs.YtkabfdfkegjfdaaGreatDoor
/- What the functions compute, and that their calls return it. No condition. -/
namespace Go.Proofs.YtkabfdfkegjfdaaGreatDoor
open Go Go.TA
noncomputable section
/-! 63 -/
abbrev R_rights_fresh_op := Int × (List TApiPot)
def V_rights_fresh_op (x : R_rights_fresh_op) : AV := (AV.agg [(vi x.1), (AV.ref 2 x.2.length 0 x.2.length)])
def L_rights_fresh_op (i0 : Nat) (x : R_rights_fresh_op) : List Ob := [Ob.dead, (Ob.box (AV.agg [(vi x.1), (AV.ref 2 x.2.length 0 x.2.length)])), (opS 7 TApiPot.e i0 (AV.agg [(AV.d (DV.str (x.2.getD i0 default).Code)), (vi (x.2.getD i0 default).Year), (vi (x.2.getD i0 default).Total), (rr 3 (x.2.getD i0 default).Granted), (rr 4 (x.2.getD i0 default).Heard), (rr 5 (x.2.getD i0 default).Asked), (rr 6 (x.2.getD i0 default).Used)]) x.2), (eQ (x.2.getD i0 default).Granted), (eQ (x.2.getD i0 default).Heard), (eQ (x.2.getD i0 default).Asked), (eQ (x.2.getD i0 default).Used)]
def S_rights_fresh_op_b1 (a0 : TApiTreasury) (i0 : Nat) (iv1 : Nat) (sv2 : Int × (List TApiPot)) : Scr Tryz.prog R_rights_fresh_op (Step (Int × (List TApiPot)) R_rights_fresh_op) :=
.reg 5 [] [(2, { obs := [(7, (bx (TApiPot.e (⟨[], 0, 0, [], [], [], []⟩ : TApiPot))))] })] [.pf (nn iv1), .ev 0, .pf cz2] <|
.call (@F_rights_copied_rw_ok (a0.Pots.getD iv1 default)) fun rv3 cv3 =>
.guard [(sv2.2.length + 1) * (2 * 128) ≤ 2 ^ 48] <|
.reg 6 [3, 4, 5, 7] [(3, hc cv3 [] false), (4, { h := .obj }), (5, { h := .obj, cast := some (AV.ref 2 ((sv2.2 ++ [(⟨rv3.1, rv3.2.1, rv3.2.2.1, rv3.2.2.2.1, rv3.2.2.2.2.1, rv3.2.2.2.2.2.1, rv3.2.2.2.2.2.2⟩ : TApiPot)]).length) 0 ((sv2.2 ++ [(⟨rv3.1, rv3.2.1, rv3.2.2.1, rv3.2.2.2.1, rv3.2.2.2.2.1, rv3.2.2.2.2.2.1, rv3.2.2.2.2.2.2⟩ : TApiPot)]).length)), obs := [(2, (Ob.seq 7 ((sv2.2 ++ [(⟨rv3.1, rv3.2.1, rv3.2.2.1, rv3.2.2.2.1, rv3.2.2.2.2.1, rv3.2.2.2.2.2.1, rv3.2.2.2.2.2.2⟩ : TApiPot)]).length) (catF sv2.2.length (fun j => AV.sel (decide (j = i0)) 7 (AV.agg [(AV.d (DV.str (sv2.2.getD i0 default).Code)), (vi (sv2.2.getD i0 default).Year), (vi (sv2.2.getD i0 default).Total), (rr 3 (sv2.2.getD i0 default).Granted), (rr 4 (sv2.2.getD i0 default).Heard), (rr 5 (sv2.2.getD i0 default).Asked), (rr 6 (sv2.2.getD i0 default).Used)]) (AV.d (TApiPot.e (sv2.2.getD j default)))) (listF AV.bot [(AV.agg [(AV.d (DV.str rv3.1)), (vi rv3.2.1), (vi rv3.2.2.1), (rr 10 rv3.2.2.2.1), (rr 11 rv3.2.2.2.2.1), (rr 12 rv3.2.2.2.2.2.1), (rr 13 rv3.2.2.2.2.2.2)])]))))] })] [.cl 1 cv3 [] 8 false, .pf (Eq.refl 1), .pf (Eq.refl sv2.2.length), .pf (Eq.refl sv2.2.length), .pf (p := ∀ k, k < 1 → (listF AV.bot [(AV.agg [(AV.d (DV.str rv3.1)), (vi rv3.2.1), (vi rv3.2.2.1), (rr 10 rv3.2.2.2.1), (rr 11 rv3.2.2.2.2.1), (rr 12 rv3.2.2.2.2.2.1), (rr 13 rv3.2.2.2.2.2.2)])] k).wd = 7) (fun k hk => by obtain rfl : k = 0 := (by omega); rfl), .ev 0, .pf (leV_app (o := 2) (l := sv2.2) (x := [(⟨rv3.1, rv3.2.1, rv3.2.2.1, rv3.2.2.2.1, rv3.2.2.2.2.1, rv3.2.2.2.2.2.1, rv3.2.2.2.2.2.2⟩ : TApiPot)])), .pf (p := OLe (Ob.seq 7 (sv2.2.length + 1) (catF sv2.2.length (fun j => AV.sel (decide (j = i0)) 7 (AV.agg [(AV.d (DV.str (sv2.2.getD i0 default).Code)), (vi (sv2.2.getD i0 default).Year), (vi (sv2.2.getD i0 default).Total), (rr 3 (sv2.2.getD i0 default).Granted), (rr 4 (sv2.2.getD i0 default).Heard), (rr 5 (sv2.2.getD i0 default).Asked), (rr 6 (sv2.2.getD i0 default).Used)]) (AV.d (TApiPot.e (sv2.2.getD j default)))) (listF AV.bot [(AV.agg [(AV.d (DV.str rv3.1)), (vi rv3.2.1), (vi rv3.2.2.1), (rr 10 rv3.2.2.2.1), (rr 11 rv3.2.2.2.2.1), (rr 12 rv3.2.2.2.2.2.1), (rr 13 rv3.2.2.2.2.2.2)])]))) (Ob.seq 7 ((sv2.2 ++ [(⟨rv3.1, rv3.2.1, rv3.2.2.1, rv3.2.2.2.1, rv3.2.2.2.2.1, rv3.2.2.2.2.2.1, rv3.2.2.2.2.2.2⟩ : TApiPot)]).length) (catF sv2.2.length (fun j => AV.sel (decide (j = i0)) 7 (AV.agg [(AV.d (DV.str (sv2.2.getD i0 default).Code)), (vi (sv2.2.getD i0 default).Year), (vi (sv2.2.getD i0 default).Total), (rr 3 (sv2.2.getD i0 default).Granted), (rr 4 (sv2.2.getD i0 default).Heard), (rr 5 (sv2.2.getD i0 default).Asked), (rr 6 (sv2.2.getD i0 default).Used)]) (AV.d (TApiPot.e (sv2.2.getD j default)))) (listF AV.bot [(AV.agg [(AV.d (DV.str rv3.1)), (vi rv3.2.1), (vi rv3.2.2.1), (rr 10 rv3.2.2.2.1), (rr 11 rv3.2.2.2.2.1), (rr 12 rv3.2.2.2.2.2.1), (rr 13 rv3.2.2.2.2.2.2)])])))) (oLe_len (by simp))] <|
.guard [((sv2.2.length = i0 → 0 < (⟨rv3.1, rv3.2.1, rv3.2.2.1, rv3.2.2.2.1, rv3.2.2.2.2.1, rv3.2.2.2.2.2.1, rv3.2.2.2.2.2.2⟩ : TApiPot).Granted.length ∧ 0 < (⟨rv3.1, rv3.2.1, rv3.2.2.1, rv3.2.2.2.1, rv3.2.2.2.2.1, rv3.2.2.2.2.2.1, rv3.2.2.2.2.2.2⟩ : TApiPot).Heard.length ∧ 0 < (⟨rv3.1, rv3.2.1, rv3.2.2.1, rv3.2.2.2.1, rv3.2.2.2.2.1, rv3.2.2.2.2.2.1, rv3.2.2.2.2.2.2⟩ : TApiPot).Asked.length ∧ 0 < (⟨rv3.1, rv3.2.1, rv3.2.2.1, rv3.2.2.2.1, rv3.2.2.2.2.1, rv3.2.2.2.2.2.1, rv3.2.2.2.2.2.2⟩ : TApiPot).Used.length) ∧ ((⟨rv3.1, rv3.2.1, rv3.2.2.1, rv3.2.2.2.1, rv3.2.2.2.2.1, rv3.2.2.2.2.2.1, rv3.2.2.2.2.2.2⟩ : TApiPot).Granted.length < 2 ^ 63 ∧ (⟨rv3.1, rv3.2.1, rv3.2.2.1, rv3.2.2.2.1, rv3.2.2.2.2.1, rv3.2.2.2.2.2.1, rv3.2.2.2.2.2.2⟩ : TApiPot).Heard.length < 2 ^ 63 ∧ (⟨rv3.1, rv3.2.1, rv3.2.2.1, rv3.2.2.2.1, rv3.2.2.2.2.1, rv3.2.2.2.2.2.1, rv3.2.2.2.2.2.2⟩ : TApiPot).Asked.length < 2 ^ 63 ∧ (⟨rv3.1, rv3.2.1, rv3.2.2.1, rv3.2.2.2.1, rv3.2.2.2.2.1, rv3.2.2.2.2.2.1, rv3.2.2.2.2.2.2⟩ : TApiPot).Used.length < 2 ^ 63))] <|
.sh (A := ((sv2.2.length = i0 → 0 < (⟨rv3.1, rv3.2.1, rv3.2.2.1, rv3.2.2.2.1, rv3.2.2.2.2.1, rv3.2.2.2.2.2.1, rv3.2.2.2.2.2.2⟩ : TApiPot).Granted.length ∧ 0 < (⟨rv3.1, rv3.2.1, rv3.2.2.1, rv3.2.2.2.1, rv3.2.2.2.2.1, rv3.2.2.2.2.2.1, rv3.2.2.2.2.2.2⟩ : TApiPot).Heard.length ∧ 0 < (⟨rv3.1, rv3.2.1, rv3.2.2.1, rv3.2.2.2.1, rv3.2.2.2.2.1, rv3.2.2.2.2.2.1, rv3.2.2.2.2.2.2⟩ : TApiPot).Asked.length ∧ 0 < (⟨rv3.1, rv3.2.1, rv3.2.2.1, rv3.2.2.2.1, rv3.2.2.2.2.1, rv3.2.2.2.2.2.1, rv3.2.2.2.2.2.2⟩ : TApiPot).Used.length) ∧ ((⟨rv3.1, rv3.2.1, rv3.2.2.1, rv3.2.2.2.1, rv3.2.2.2.2.1, rv3.2.2.2.2.2.1, rv3.2.2.2.2.2.2⟩ : TApiPot).Granted.length < 2 ^ 63 ∧ (⟨rv3.1, rv3.2.1, rv3.2.2.1, rv3.2.2.2.1, rv3.2.2.2.2.1, rv3.2.2.2.2.2.1, rv3.2.2.2.2.2.2⟩ : TApiPot).Heard.length < 2 ^ 63 ∧ (⟨rv3.1, rv3.2.1, rv3.2.2.1, rv3.2.2.2.1, rv3.2.2.2.2.1, rv3.2.2.2.2.2.1, rv3.2.2.2.2.2.2⟩ : TApiPot).Asked.length < 2 ^ 63 ∧ (⟨rv3.1, rv3.2.1, rv3.2.2.1, rv3.2.2.2.1, rv3.2.2.2.2.1, rv3.2.2.2.2.2.1, rv3.2.2.2.2.2.2⟩ : TApiPot).Used.length < 2 ^ 63))) (.ev 0) [(1, (vp 0)), (2, (vp 1)), (9, (AV.d (eL TApiPot.e a0.Pots))), (10, (vi (a0.Pots.length : Int))), (11, (vi (iv1 : Int)))] [(1, (vp 0)), (2, (vp 1)), (9, (AV.d (eL TApiPot.e a0.Pots))), (10, (vi (a0.Pots.length : Int))), (11, (vi (iv1 : Int)))] [(Ob.box (AV.agg [(vi sv2.1), (AV.ref 2 ((sv2.2 ++ [(⟨rv3.1, rv3.2.1, rv3.2.2.1, rv3.2.2.2.1, rv3.2.2.2.2.1, rv3.2.2.2.2.2.1, rv3.2.2.2.2.2.2⟩ : TApiPot)]).length) 0 ((sv2.2 ++ [(⟨rv3.1, rv3.2.1, rv3.2.2.1, rv3.2.2.2.1, rv3.2.2.2.2.1, rv3.2.2.2.2.2.1, rv3.2.2.2.2.2.2⟩ : TApiPot)]).length))])), (bx (TApiTreasury.e (⟨0, []⟩ : TApiTreasury))), (Ob.seq 7 (sv2.2 ++ [(⟨rv3.1, rv3.2.1, rv3.2.2.1, rv3.2.2.2.1, rv3.2.2.2.2.1, rv3.2.2.2.2.2.1, rv3.2.2.2.2.2.2⟩ : TApiPot)]).length (catF sv2.2.length (fun j => AV.sel (decide (j = i0)) 7 (AV.agg [(AV.d (DV.str (sv2.2.getD i0 default).Code)), (vi (sv2.2.getD i0 default).Year), (vi (sv2.2.getD i0 default).Total), (rr 3 (sv2.2.getD i0 default).Granted), (rr 4 (sv2.2.getD i0 default).Heard), (rr 5 (sv2.2.getD i0 default).Asked), (rr 6 (sv2.2.getD i0 default).Used)]) (AV.d (TApiPot.e (sv2.2.getD j default)))) (listF AV.bot [(AV.agg [(AV.d (DV.str rv3.1)), (vi rv3.2.1), (vi rv3.2.2.1), (rr 10 rv3.2.2.2.1), (rr 11 rv3.2.2.2.2.1), (rr 12 rv3.2.2.2.2.2.1), (rr 13 rv3.2.2.2.2.2.2)])]))), (eQ (opQ TApiPot.Granted i0 sv2.2)), (eQ (opQ TApiPot.Heard i0 sv2.2)), (eQ (opQ TApiPot.Asked i0 sv2.2)), (eQ (opQ TApiPot.Used i0 sv2.2)), (bx (TApiPot.e (a0.Pots.getD iv1 default))), Ob.dead, (Ob.box (AV.agg [(AV.d (DV.str rv3.1)), (vi rv3.2.1), (vi rv3.2.2.1), (rr 10 rv3.2.2.2.1), (rr 11 rv3.2.2.2.2.1), (rr 12 rv3.2.2.2.2.2.1), (rr 13 rv3.2.2.2.2.2.2)])), (eQ (⟨rv3.1, rv3.2.1, rv3.2.2.1, rv3.2.2.2.1, rv3.2.2.2.2.1, rv3.2.2.2.2.2.1, rv3.2.2.2.2.2.2⟩ : TApiPot).Granted), (eQ (⟨rv3.1, rv3.2.1, rv3.2.2.1, rv3.2.2.2.1, rv3.2.2.2.2.1, rv3.2.2.2.2.2.1, rv3.2.2.2.2.2.2⟩ : TApiPot).Heard), (eQ (⟨rv3.1, rv3.2.1, rv3.2.2.1, rv3.2.2.2.1, rv3.2.2.2.2.1, rv3.2.2.2.2.2.1, rv3.2.2.2.2.2.2⟩ : TApiPot).Asked), (eQ (⟨rv3.1, rv3.2.1, rv3.2.2.1, rv3.2.2.2.1, rv3.2.2.2.2.1, rv3.2.2.2.2.2.1, rv3.2.2.2.2.2.2⟩ : TApiPot).Used), (Ob.seq 7 1 (listF AV.bot [(AV.agg [(AV.d (DV.str rv3.1)), (vi rv3.2.1), (vi rv3.2.2.1), (rr 10 rv3.2.2.2.1), (rr 11 rv3.2.2.2.2.1), (rr 12 rv3.2.2.2.2.2.1), (rr 13 rv3.2.2.2.2.2.2)])]))] [(Ob.box (AV.agg [(vi sv2.1), (AV.ref 2 ((sv2.2 ++ [(⟨rv3.1, rv3.2.1, rv3.2.2.1, rv3.2.2.2.1, rv3.2.2.2.2.1, rv3.2.2.2.2.2.1, rv3.2.2.2.2.2.2⟩ : TApiPot)]).length) 0 ((sv2.2 ++ [(⟨rv3.1, rv3.2.1, rv3.2.2.1, rv3.2.2.2.1, rv3.2.2.2.2.1, rv3.2.2.2.2.2.1, rv3.2.2.2.2.2.2⟩ : TApiPot)]).length))])), (bx (TApiTreasury.e (⟨0, []⟩ : TApiTreasury))), (oTApiPot.R 3 i0 (sv2.2 ++ [(⟨rv3.1, rv3.2.1, rv3.2.2.1, rv3.2.2.2.1, rv3.2.2.2.2.1, rv3.2.2.2.2.2.1, rv3.2.2.2.2.2.2⟩ : TApiPot)])), (eQ (opQ TApiPot.Granted i0 (sv2.2 ++ [(⟨rv3.1, rv3.2.1, rv3.2.2.1, rv3.2.2.2.1, rv3.2.2.2.2.1, rv3.2.2.2.2.2.1, rv3.2.2.2.2.2.2⟩ : TApiPot)]))), (eQ (opQ TApiPot.Heard i0 (sv2.2 ++ [(⟨rv3.1, rv3.2.1, rv3.2.2.1, rv3.2.2.2.1, rv3.2.2.2.2.1, rv3.2.2.2.2.2.1, rv3.2.2.2.2.2.2⟩ : TApiPot)]))), (eQ (opQ TApiPot.Asked i0 (sv2.2 ++ [(⟨rv3.1, rv3.2.1, rv3.2.2.1, rv3.2.2.2.1, rv3.2.2.2.2.1, rv3.2.2.2.2.2.1, rv3.2.2.2.2.2.2⟩ : TApiPot)]))), (eQ (opQ TApiPot.Used i0 (sv2.2 ++ [(⟨rv3.1, rv3.2.1, rv3.2.2.1, rv3.2.2.2.1, rv3.2.2.2.2.1, rv3.2.2.2.2.2.1, rv3.2.2.2.2.2.2⟩ : TApiPot)]))), (bx (TApiPot.e (a0.Pots.getD iv1 default))), Ob.dead, (Ob.box (AV.agg [(AV.d (DV.str rv3.1)), (vi rv3.2.1), (vi rv3.2.2.1), (rr 10 rv3.2.2.2.1), (rr 11 rv3.2.2.2.2.1), (rr 12 rv3.2.2.2.2.2.1), (rr 13 rv3.2.2.2.2.2.2)])), Ob.dead, Ob.dead, Ob.dead, Ob.dead, (Ob.seq 7 1 (listF AV.bot [(AV.agg [(AV.d (DV.str rv3.1)), (vi rv3.2.1), (vi rv3.2.2.1), (rr 10 rv3.2.2.2.1), (rr 11 rv3.2.2.2.2.1), (rr 12 rv3.2.2.2.2.2.1), (rr 13 rv3.2.2.2.2.2.2)])]))] (fun h => shift_settle oTApiPot (P := [(Ob.box (AV.agg [(vi sv2.1), (AV.ref 2 ((sv2.2 ++ [(⟨rv3.1, rv3.2.1, rv3.2.2.1, rv3.2.2.2.1, rv3.2.2.2.2.1, rv3.2.2.2.2.2.1, rv3.2.2.2.2.2.2⟩ : TApiPot)]).length) 0 ((sv2.2 ++ [(⟨rv3.1, rv3.2.1, rv3.2.2.1, rv3.2.2.2.1, rv3.2.2.2.2.1, rv3.2.2.2.2.2.1, rv3.2.2.2.2.2.2⟩ : TApiPot)]).length))])), (bx (TApiTreasury.e (⟨0, []⟩ : TApiTreasury)))]) (D := [(bx (TApiPot.e (a0.Pots.getD iv1 default))), Ob.dead, (Ob.box (AV.agg [(AV.d (DV.str rv3.1)), (vi rv3.2.1), (vi rv3.2.2.1), (rr 10 rv3.2.2.2.1), (rr 11 rv3.2.2.2.2.1), (rr 12 rv3.2.2.2.2.2.1), (rr 13 rv3.2.2.2.2.2.2)]))]) (E := [(Ob.seq 7 1 (listF AV.bot [(AV.agg [(AV.d (DV.str rv3.1)), (vi rv3.2.1), (vi rv3.2.2.1), (rr 10 rv3.2.2.2.1), (rr 11 rv3.2.2.2.2.1), (rr 12 rv3.2.2.2.2.2.1), (rr 13 rv3.2.2.2.2.2.2)])]))]) (i := i0) (l := sv2.2) (x := (⟨rv3.1, rv3.2.1, rv3.2.2.1, rv3.2.2.2.1, rv3.2.2.2.2.1, rv3.2.2.2.2.2.1, rv3.2.2.2.2.2.2⟩ : TApiPot)) rfl rfl (fun j hj => catF_lt hj) (by rw [catF_ge (Nat.le_refl _), Nat.sub_self]; rfl) h.1 h.2) (trF_refl _) <|
.ret [] (.cont (sv2.1, sv2.2 ++ [(⟨rv3.1, rv3.2.1, rv3.2.2.1, rv3.2.2.2.1, rv3.2.2.2.2.1, rv3.2.2.2.2.2.1, rv3.2.2.2.2.2.2⟩ : TApiPot)]))
def S_rights_fresh_op (a0 : TApiTreasury) (i0 : Nat) : Scr Tryz.prog R_rights_fresh_op R_rights_fresh_op :=
.reg 0 [] [(1, { obs := [(1, (bx (TApiTreasury.e (⟨0, []⟩ : TApiTreasury))))] })] [.pf cz4] <|
.reg 2 [] [] [] <|
.sh (A := True) (.pf trivial) [(1, (vp 0)), (2, (vp 1)), (3, (AV.d (eL TApiPot.e a0.Pots)))] [(1, (vp 0)), (2, (vp 1)), (3, (AV.d (eL TApiPot.e a0.Pots)))] [(Ob.box (AV.agg [(vi a0.Offices), (AV.full 0 fun _ => DV.b false)])), (bx (TApiTreasury.e (⟨0, []⟩ : TApiTreasury)))] [(Ob.box (AV.agg [(vi a0.Offices), (AV.ref 2 0 0 0)])), (bx (TApiTreasury.e (⟨0, []⟩ : TApiTreasury))), (oTApiPot.R 3 i0 [])] (fun _ => (shift_born (sz := 7) (f := (fun j => AV.sel (decide (j = i0)) 7 (AV.agg [(AV.d (DV.str (([] : List TApiPot).getD i0 default).Code)), (vi (([] : List TApiPot).getD i0 default).Year), (vi (([] : List TApiPot).getD i0 default).Total), (rr 3 (([] : List TApiPot).getD i0 default).Granted), (rr 4 (([] : List TApiPot).getD i0 default).Heard), (rr 5 (([] : List TApiPot).getD i0 default).Asked), (rr 6 (([] : List TApiPot).getD i0 default).Used)]) (AV.d (TApiPot.e (([] : List TApiPot).getD j default))))) (.box _ _ _ _ _ (Nat.ne_of_beq_eq_false rfl) (TrV.agg (TrL.cons (TrV.keep _) (TrL.cons TrV.born TrL.nil))) (.keep _ _ _ _ (Nat.ne_of_beq_eq_false rfl) (.nil _))))) (trF_at (k := 0) rfl (TrS.keep _) (trF_at (k := 1) rfl (TrS.keep _) (trF_at (k := 2) rfl (TrS.keep _) trF_nil))) <|
.sh (A := True) (.pf trivial) [(1, (vp 0)), (2, (vp 1)), (3, (AV.d (eL TApiPot.e a0.Pots)))] [(1, (vp 0)), (2, (vp 1)), (3, (AV.d (eL TApiPot.e a0.Pots)))] [(Ob.box (AV.agg [(vi a0.Offices), (AV.ref 2 0 0 0)])), (bx (TApiTreasury.e (⟨0, []⟩ : TApiTreasury))), (oTApiPot.R 3 i0 [])] [(Ob.box (AV.agg [(vi a0.Offices), (AV.ref 2 0 0 0)])), (bx (TApiTreasury.e (⟨0, []⟩ : TApiTreasury))), (oTApiPot.R 3 i0 []), (eQ (opQ TApiPot.Granted i0 ([] : List TApiPot))), (eQ (opQ TApiPot.Heard i0 ([] : List TApiPot))), (eQ (opQ TApiPot.Asked i0 ([] : List TApiPot))), (eQ (opQ TApiPot.Used i0 ([] : List TApiPot)))] (fun _ => shift_born4) (trF_refl _) <|
.range (a0.Pots.length : Int) a0.Pots.length rfl (.slot 9) 11 [1, 2, 9, 10] (fun (_ : Int × (List TApiPot)) => []) (fun (sv2 : Int × (List TApiPot)) => [(0, (Ob.box (AV.agg [(vi sv2.1), (AV.ref 2 sv2.2.length 0 sv2.2.length)]))), (2, (oTApiPot.R 3 i0 sv2.2)), (3, (eQ (opQ TApiPot.Granted i0 sv2.2))), (4, (eQ (opQ TApiPot.Heard i0 sv2.2))), (5, (eQ (opQ TApiPot.Asked i0 sv2.2))), (6, (eQ (opQ TApiPot.Used i0 sv2.2)))]) (a0.Offices, ([] : List TApiPot)) (S_rights_fresh_op_b1 a0 i0) (fun (sv2 : Int × (List TApiPot)) => 
.reg 8 [] [] [] <|
.kill 0 <|
.guard [i0 < sv2.2.length] <|
.cst (A := i0 < sv2.2.length) (.ev 0) [(2, (vp 1))] [(2, (vp 1))] [Ob.dead, (Ob.box (AV.agg [(vi sv2.1), (AV.ref 2 sv2.2.length 0 sv2.2.length)])), (oTApiPot.R 3 i0 sv2.2), (eQ (opQ TApiPot.Granted i0 sv2.2)), (eQ (opQ TApiPot.Heard i0 sv2.2)), (eQ (opQ TApiPot.Asked i0 sv2.2)), (eQ (opQ TApiPot.Used i0 sv2.2))] [Ob.dead, (Ob.box (AV.agg [(vi sv2.1), (AV.ref 2 sv2.2.length 0 sv2.2.length)])), (oTApiPot.R 3 i0 sv2.2), (eQ (sv2.2.getD i0 default).Granted), (eQ (sv2.2.getD i0 default).Heard), (eQ (sv2.2.getD i0 default).Asked), (eQ (sv2.2.getD i0 default).Used)] (fun h => ⟨rfl, by simp only [opQ_at h]⟩) <|
.ret [] (sv2.1, sv2.2)) id
def F_rights_fresh_op (a0 : TApiTreasury) (i0 : Nat) : Option R_rights_fresh_op := (S_rights_fresh_op a0 i0).den
set_option maxRecDepth 100000 in
theorem F_rights_fresh_op_ok {a0 : TApiTreasury} {i0 : Nat} (r : R_rights_fresh_op) (h : F_rights_fresh_op a0 i0 = some r) : CallOk Tryz.prog 63 [(AV.d (TApiTreasury.e a0))] [] (V_rights_fresh_op r) (L_rights_fresh_op i0 r) := fOk (s := S_rights_fresh_op a0 i0) Tryz.func63 rfl (by kernel_rfl) h
/-! 71 -/
abbrev R_rights_give := Int × (List Int)
def V_rights_give (x : R_rights_give) : AV := (vi x.1)
def L_rights_give (p0_0 : Nat) (p0_1 : (List TApiPot)) (p0_2 : List UInt8) (p0_3 : Int) (p0_4 : Int) (p1 : (List Int)) (p2 : (List Int)) (p3 : (List Int)) (p4 : (List Int)) (x : R_rights_give) : List Ob := [(opS 7 TApiPot.e p0_0 (AV.agg [(AV.d (DV.str p0_2)), (vi p0_3), (vi p0_4), (AV.ref 1 p1.length 0 p1.length), (AV.ref 2 p2.length 0 p2.length), (AV.ref 3 p3.length 0 p3.length), (AV.ref 4 p4.length 0 p4.length)]) p0_1), (eS 1 (DV.i .i64) x.2), (eS 1 (DV.i .i64) p2), (eS 1 (DV.i .i64) p3), (eS 1 (DV.i .i64) p4)]
def S_rights_give_b1 (a1 : (List Int)) (p0_0 : Nat) (p0_1 : (List TApiPot)) (p1 : (List Int)) (iv1 : Nat) (sv2 : (List Int)) : Scr Tryz.prog R_rights_give (Step ((List Int)) R_rights_give) :=
.reg 8 [] [] [.pf (nn iv1), .ev 0] <|
.guard [sv2.length = p1.length, iv1 < p1.length, (0 + iv1) < sv2.length] <|
.reg 9 [] [(10, { obs := [(1, (eS 1 (DV.i .i64) (sv2.set (0 + iv1) (IntKind.i64.wrap ((sv2.getD (0 + iv1) default) + (a1.getD iv1 default))))))] })] [.pf (Eq.refl p0_1.length), .pf (Eq.refl p0_1.length), .ev 8, .pf (p := decide (p0_0 = p0_0) = true) (decide_eq_true rfl), .ev 0, .pf (nn iv1), .ev 1, .ev 0, .ev 2, .ev 0, .pf (nn iv1), .ev 1, .ev 0, .ev 2, .pf (oLe_set (sz := 1) (e := (DV.i .i64)) (l := sv2) (i := (0 + iv1)) (x := (IntKind.i64.wrap ((sv2.getD (0 + iv1) default) + (a1.getD iv1 default)))) (fun _ => rfl))] <|
.ret [] (.cont (sv2.set (0 + iv1) (IntKind.i64.wrap ((sv2.getD (0 + iv1) default) + (a1.getD iv1 default)))))
def S_rights_give (a1 : (List Int)) (p0_0 : Nat) (p0_1 : (List TApiPot)) (p0_2 : List UInt8) (p0_3 : Int) (p0_4 : Int) (p1 : (List Int)) (p2 : (List Int)) (p3 : (List Int)) (p4 : (List Int)) : Scr Tryz.prog R_rights_give R_rights_give :=
.call (@F_rights_sum_ok a1) fun rv3 cv3 =>
.reg 1 [] [(1, hc cv3 [] true)] [.cl 0 cv3 [] 5 true] <|
.call (lendOk (xs := [(AV.agg [(AV.d (DV.str p0_2)), (vi p0_3), (vi p0_4), (AV.ref 0 p1.length 0 p1.length), (AV.ref 1 p2.length 0 p2.length), (AV.ref 2 p3.length 0 p3.length), (AV.ref 3 p4.length 0 p4.length)])]) (L := [(eS 1 (DV.i .i64) p1), (eS 1 (DV.i .i64) p2), (eS 1 (DV.i .i64) p3), (eS 1 (DV.i .i64) p4)]) (g := p1.length < 2 ^ 63 ∧ p2.length < 2 ^ 63 ∧ p3.length < 2 ^ 63 ∧ p4.length < 2 ^ 63) (@F_rights_Free_ok (⟨p0_2, p0_3, p0_4, p1, p2, p3, p4⟩ : TApiPot)) (fun _ => rfl) (fun hg => (LendVs.cons (LendS.agg (ys := [(DV.str p0_2), (DV.i .i64 p0_3), (DV.i .i64 p0_4), (eL (DV.i .i64) p1), (eL (DV.i .i64) p2), (eL (DV.i .i64) p3), (eL (DV.i .i64) p4)]) (LendL.cons LendV.d (LendL.cons LendV.d (LendL.cons LendV.d (LendL.cons (LendV.ref (sz := 1) (g := fun j => (DV.i .i64) (p1.getD j default)) rfl hg.1) (LendL.cons (LendV.ref (sz := 1) (g := fun j => (DV.i .i64) (p2.getD j default)) rfl hg.2.1) (LendL.cons (LendV.ref (sz := 1) (g := fun j => (DV.i .i64) (p3.getD j default)) rfl hg.2.2.1) (LendL.cons (LendV.ref (sz := 1) (g := fun j => (DV.i .i64) (p4.getD j default)) rfl hg.2.2.2) LendL.nil)))))))) LendVs.nil)) (fun _ => FlatV.i)) fun rv4 cv4 =>
.guard [p0_0 < p0_1.length] <|
.reg 2 [] [(4, hc cv4 [1, 2, 3, 4] true)] [.pf (Eq.refl p0_1.length), .ev 0, .pf (p := decide (p0_0 = p0_0) = true) (decide_eq_true rfl), .cl 1 cv4 [1, 2, 3, 4] 5 true] <|
.ite (decide (rv3 > rv4)) (
.ret [] (15, p1)) (
.call (lendOk (xs := [(AV.ref 0 p1.length 0 p1.length)]) (L := [(eS 1 (DV.i .i64) p1)]) (g := p1.length < 2 ^ 63) (@F_rights_sum_ok p1) (fun _ => rfl) (fun hg => (LendVs.cons (LendS.one rfl rfl rfl (LendV.ref (sz := 1) (g := fun j => (DV.i .i64) (p1.getD j default)) rfl hg)) LendVs.nil)) (fun _ => FlatV.i)) fun rv5 cv5 =>
.reg 4 [] [(4, hc cv5 [1] true)] [.pf (Eq.refl p0_1.length), .pf (Eq.refl p0_1.length), .ev 2, .pf (p := decide (p0_0 = p0_0) = true) (decide_eq_true rfl), .cl 0 cv5 [1] 5 true] <|
.ite (decide ((IntKind.i64.wrap (rv5 + rv3)) > 1000000000000000)) (
.ret [] (3, p1)) (
.range (a1.length : Int) a1.length rfl (.slot 26) 28 [0, 26, 27] (fun (_ : (List Int)) => []) (fun (sv2 : (List Int)) => [(1, (eS 1 (DV.i .i64) sv2))]) p1 (S_rights_give_b1 a1 p0_0 p0_1 p1) (fun (sv2 : (List Int)) => 
.ret [] (0, sv2)) id))
def F_rights_give (a1 : (List Int)) (p0_0 : Nat) (p0_1 : (List TApiPot)) (p0_2 : List UInt8) (p0_3 : Int) (p0_4 : Int) (p1 : (List Int)) (p2 : (List Int)) (p3 : (List Int)) (p4 : (List Int)) : Option R_rights_give := (S_rights_give a1 p0_0 p0_1 p0_2 p0_3 p0_4 p1 p2 p3 p4).den
set_option maxRecDepth 100000 in
theorem F_rights_give_ok {a1 : (List Int)} {p0_0 : Nat} {p0_1 : (List TApiPot)} {p0_2 : List UInt8} {p0_3 : Int} {p0_4 : Int} {p1 : (List Int)} {p2 : (List Int)} {p3 : (List Int)} {p4 : (List Int)} (r : R_rights_give) (h : F_rights_give a1 p0_0 p0_1 p0_2 p0_3 p0_4 p1 p2 p3 p4 = some r) : CallOk Tryz.prog 71 [(AV.ptr 0 p0_1.length [.x p0_0 7]), (vl a1)] [(opS 7 TApiPot.e p0_0 (AV.agg [(AV.d (DV.str p0_2)), (vi p0_3), (vi p0_4), (AV.ref 1 p1.length 0 p1.length), (AV.ref 2 p2.length 0 p2.length), (AV.ref 3 p3.length 0 p3.length), (AV.ref 4 p4.length 0 p4.length)]) p0_1), (eS 1 (DV.i .i64) p1), (eS 1 (DV.i .i64) p2), (eS 1 (DV.i .i64) p3), (eS 1 (DV.i .i64) p4)] (V_rights_give r) (L_rights_give p0_0 p0_1 p0_2 p0_3 p0_4 p1 p2 p3 p4 r) := fOk (s := S_rights_give a1 p0_0 p0_1 p0_2 p0_3 p0_4 p1 p2 p3 p4) Tryz.func71 rfl (by kernel_rfl) h
/-! 70 -/
abbrev R_rights_Grant_1 := Int × (List Int)
def V_rights_Grant_1 (x : R_rights_Grant_1) : AV := (vi x.1)
def L_rights_Grant_1 (p0_0 : Nat) (p0_1 : (List TApiPot)) (p0_2 : List UInt8) (p0_3 : Int) (p0_4 : Int) (p1 : Int) (p2 : Int) (p3 : (List Int)) (p4 : (List Int)) (p5 : (List Int)) (p6 : (List Int)) (x : R_rights_Grant_1) : List Ob := [(opS 7 TApiPot.e p0_0 (AV.agg [(AV.d (DV.str p0_2)), (vi p0_3), (vi p0_4), (AV.ref 3 p3.length 0 p3.length), (AV.ref 4 p4.length 0 p4.length), (AV.ref 5 p5.length 0 p5.length), (AV.ref 6 p6.length 0 p6.length)]) p0_1), (Ob.box (vi p1)), (Ob.box (vi p2)), (eS 1 (DV.i .i64) x.2), (eS 1 (DV.i .i64) p4), (eS 1 (DV.i .i64) p5), (eS 1 (DV.i .i64) p6)]
def S_rights_Grant_1 (p0_0 : Nat) (p0_1 : (List TApiPot)) (p0_2 : List UInt8) (p0_3 : Int) (p0_4 : Int) (p1 : Int) (p2 : Int) (p3 : (List Int)) (p4 : (List Int)) (p5 : (List Int)) (p6 : (List Int)) : Scr Tryz.prog R_rights_Grant_1 R_rights_Grant_1 :=
.call (@F_rights_among_ok p1 1 (p3.length : Int)) fun rv1 cv1 =>
.guard [p0_0 < p0_1.length] <|
.reg 1 [] [(6, hc cv1 [] true)] [.pf (Eq.refl p0_1.length), .pf (Eq.refl p0_1.length), .ev 0, .pf (p := decide (p0_0 = p0_0) = true) (decide_eq_true rfl), .cl 1 cv1 [] 7 true] <|
.ite (!rv1) (
.ret [] (6, p3)) (
.call (@F_rights_among_ok p2 1 1000000000000000) fun rv2 cv2 =>
.reg 3 [] [(1, hc cv2 [] true)] [.cl 0 cv2 [] 7 true] <|
.ite (!rv2) (
.ret [] (2, p3)) (
.guard [(p3.length : Int) * 8 ≤ 2 ^ 47] <|
.reg 5 [] [(5, { cast := some (AV.ref 7 ((List.replicate ((p3.length : Int).toNat) (0 : Int)).length) 0 ((List.replicate ((p3.length : Int).toNat) (0 : Int)).length)), obs := [(7, (eS 1 (DV.i .i64) (List.replicate ((p3.length : Int).toNat) (0 : Int))))] })] [.pf (Eq.refl p0_1.length), .pf (Eq.refl p0_1.length), .ev 4, .pf (p := decide (p0_0 = p0_0) = true) (decide_eq_true rfl), .pf (nn p3.length), .pf (p := (p3.length : Int) ≤ (p3.length : Int)) (Int.le_refl _), .ev 0, .pf (leV_rep (o := 7) (k := (p3.length : Int).toNat) (z := (0 : Int))), .pf (oLe_rep (sz := 1) (k := (p3.length : Int).toNat) (e := (DV.i .i64)) (z := (0 : Int)))] <|
.guard [(0 : Int) ≤ (IntKind.i64.wrap (p1 - 1)), ((IntKind.i64.wrap (p1 - 1))).toNat < (List.replicate ((p3.length : Int).toNat) (0 : Int)).length, (0 + ((IntKind.i64.wrap (p1 - 1))).toNat) < (List.replicate ((p3.length : Int).toNat) (0 : Int)).length] <|
.reg 6 [] [(5, { obs := [(7, (eS 1 (DV.i .i64) ((List.replicate ((p3.length : Int).toNat) (0 : Int)).set (0 + ((IntKind.i64.wrap (p1 - 1))).toNat) p2)))] })] [.pf (Eq.refl ((List.replicate ((p3.length : Int).toNat) (0 : Int)).length)), .ev 0, .ev 1, .pf (Eq.refl ((List.replicate ((p3.length : Int).toNat) (0 : Int)).length)), .ev 2, .pf (oLe_set (sz := 1) (e := (DV.i .i64)) (l := (List.replicate ((p3.length : Int).toNat) (0 : Int))) (i := (0 + ((IntKind.i64.wrap (p1 - 1))).toNat)) (x := p2) (fun _ => rfl))] <|
.cst (A := True) (.pf trivial) [(0, (AV.ptr 0 p0_1.length [.x p0_0 7])), (5, (AV.ref 7 ((List.replicate ((p3.length : Int).toNat) (0 : Int)).length) 0 ((List.replicate ((p3.length : Int).toNat) (0 : Int)).length)))] [(0, (AV.ptr 0 p0_1.length [.x p0_0 7])), (5, (AV.ref 7 (((List.replicate ((p3.length : Int).toNat) (0 : Int)).set (0 + ((IntKind.i64.wrap (p1 - 1))).toNat) p2).length) 0 (((List.replicate ((p3.length : Int).toNat) (0 : Int)).set (0 + ((IntKind.i64.wrap (p1 - 1))).toNat) p2).length)))] [(opS 7 TApiPot.e p0_0 (AV.agg [(AV.d (DV.str p0_2)), (vi p0_3), (vi p0_4), (AV.ref 3 p3.length 0 p3.length), (AV.ref 4 p4.length 0 p4.length), (AV.ref 5 p5.length 0 p5.length), (AV.ref 6 p6.length 0 p6.length)]) p0_1), (Ob.box (vi p1)), (Ob.box (vi p2)), (eS 1 (DV.i .i64) p3), (eS 1 (DV.i .i64) p4), (eS 1 (DV.i .i64) p5), (eS 1 (DV.i .i64) p6), (eS 1 (DV.i .i64) ((List.replicate ((p3.length : Int).toNat) (0 : Int)).set (0 + ((IntKind.i64.wrap (p1 - 1))).toNat) p2))] [(opS 7 TApiPot.e p0_0 (AV.agg [(AV.d (DV.str p0_2)), (vi p0_3), (vi p0_4), (AV.ref 3 p3.length 0 p3.length), (AV.ref 4 p4.length 0 p4.length), (AV.ref 5 p5.length 0 p5.length), (AV.ref 6 p6.length 0 p6.length)]) p0_1), (Ob.box (vi p1)), (Ob.box (vi p2)), (eS 1 (DV.i .i64) p3), (eS 1 (DV.i .i64) p4), (eS 1 (DV.i .i64) p5), (eS 1 (DV.i .i64) p6), (eS 1 (DV.i .i64) ((List.replicate ((p3.length : Int).toNat) (0 : Int)).set (0 + ((IntKind.i64.wrap (p1 - 1))).toNat) p2))] (fun _ => ⟨by simp only [List.length_set], by rfl⟩) <|
.guard [((List.replicate ((p3.length : Int).toNat) (0 : Int)).set (0 + ((IntKind.i64.wrap (p1 - 1))).toNat) p2).length < 2 ^ 63] <|
.frz 7 (.ev 0) none [5] [] <|
.call (@F_rights_give_ok ((List.replicate ((p3.length : Int).toNat) (0 : Int)).set (0 + ((IntKind.i64.wrap (p1 - 1))).toNat) p2) p0_0 p0_1 p0_2 p0_3 p0_4 p3 p4 p5 p6) fun rv3 cv3 =>
.reg 7 [] [(2, hc cv3 [0, 3, 4, 5, 6] false)] [.cl 0 cv3 [0, 3, 4, 5, 6] 8 false] <|
.ret [] (rv3.1, rv3.2)))
def F_rights_Grant_1 (p0_0 : Nat) (p0_1 : (List TApiPot)) (p0_2 : List UInt8) (p0_3 : Int) (p0_4 : Int) (p1 : Int) (p2 : Int) (p3 : (List Int)) (p4 : (List Int)) (p5 : (List Int)) (p6 : (List Int)) : Option R_rights_Grant_1 := (S_rights_Grant_1 p0_0 p0_1 p0_2 p0_3 p0_4 p1 p2 p3 p4 p5 p6).den
set_option maxRecDepth 100000 in
theorem F_rights_Grant_1_ok {p0_0 : Nat} {p0_1 : (List TApiPot)} {p0_2 : List UInt8} {p0_3 : Int} {p0_4 : Int} {p1 : Int} {p2 : Int} {p3 : (List Int)} {p4 : (List Int)} {p5 : (List Int)} {p6 : (List Int)} (r : R_rights_Grant_1) (h : F_rights_Grant_1 p0_0 p0_1 p0_2 p0_3 p0_4 p1 p2 p3 p4 p5 p6 = some r) : CallOk Tryz.prog 70 [(AV.ptr 0 p0_1.length [.x p0_0 7]), (vp 1), (vp 2)] [(opS 7 TApiPot.e p0_0 (AV.agg [(AV.d (DV.str p0_2)), (vi p0_3), (vi p0_4), (AV.ref 3 p3.length 0 p3.length), (AV.ref 4 p4.length 0 p4.length), (AV.ref 5 p5.length 0 p5.length), (AV.ref 6 p6.length 0 p6.length)]) p0_1), (Ob.box (vi p1)), (Ob.box (vi p2)), (eS 1 (DV.i .i64) p3), (eS 1 (DV.i .i64) p4), (eS 1 (DV.i .i64) p5), (eS 1 (DV.i .i64) p6)] (V_rights_Grant_1 r) (L_rights_Grant_1 p0_0 p0_1 p0_2 p0_3 p0_4 p1 p2 p3 p4 p5 p6 r) := fOk (s := S_rights_Grant_1 p0_0 p0_1 p0_2 p0_3 p0_4 p1 p2 p3 p4 p5 p6) Tryz.func70 rfl (by kernel_rfl) h
/-! 69 -/
abbrev R_rights_change_rights_Grant_1 := TApiTreasury × Int
def V_rights_change_rights_Grant_1 (x : R_rights_change_rights_Grant_1) : AV := (AV.tup [(AV.d (TApiTreasury.e x.1)), (vi x.2)])
def L_rights_change_rights_Grant_1 (p0 : Int) (p1 : Int) (_ : R_rights_change_rights_Grant_1) : List Ob := [(Ob.box (vi p0)), (Ob.box (vi p1))]
def S_rights_change_rights_Grant_1 (a0 : TApiTreasury) (a1 : List UInt8) (a2 : Int) (p0 : Int) (p1 : Int) : Scr Tryz.prog R_rights_change_rights_Grant_1 R_rights_change_rights_Grant_1 :=
.reg 0 [] [(1, { obs := [(3, (bx (TApiTreasury.e (⟨0, []⟩ : TApiTreasury))))] })] [.pf cz4] <|
.call (@F_rights_Valid_ok a0) fun rv1 cv1 =>
.reg 1 [] [(1, hc cv1 [] true)] [.cl 0 cv1 [] 4 true] <|
.ite (!rv1) (
.reg 2 [] [(0, hv (AV.d (TApiTreasury.e (⟨0, []⟩ : TApiTreasury))))] [.pf cz5] <|
.ret [] ((⟨0, []⟩ : TApiTreasury), 1)) (
.call (@F_rights_find_ok a0 a1 a2) fun rv2 cv2 =>
.reg 3 [] [(3, hc cv2 [] true)] [.cl 0 cv2 [] 4 true] <|
.ite (decide (rv2 < 0)) (
.reg 5 [] [(0, hv (AV.d (TApiTreasury.e (⟨0, []⟩ : TApiTreasury))))] [.pf cz5] <|
.ret [] ((⟨0, []⟩ : TApiTreasury), 6)) (
.call (@F_rights_fresh_op_ok a0 ((rv2).toNat)) fun rv3 cv3 =>
.reg 6 [] [(1, hc cv3 [] false)] [.cl 0 cv3 [] 4 false] <|
.kill 5 <|
.call (@F_rights_Grant_1_ok ((rv2).toNat) rv3.2 ((rv3.2.getD ((rv2).toNat) default).Code) ((rv3.2.getD ((rv2).toNat) default).Year) ((rv3.2.getD ((rv2).toNat) default).Total) p0 p1 ((rv3.2.getD ((rv2).toNat) default).Granted) ((rv3.2.getD ((rv2).toNat) default).Heard) ((rv3.2.getD ((rv2).toNat) default).Asked) ((rv3.2.getD ((rv2).toNat) default).Used)) fun rv4 cv4 =>
.guard [(0 : Int) ≤ rv2, (rv2).toNat < rv3.2.length] <|
.reg 7 [] [(4, hv (AV.ptr 6 rv3.2.length [.x ((rv2).toNat) 7])), (5, hc cv4 [6, 0, 1, 7, 8, 9, 10] false)] [.pf (Eq.refl rv3.2.length), .ev 0, .ev 1, .pf (p := LeV (AV.ptr 6 rv3.2.length [.x (0 + ((rv2).toNat)) 7]) (AV.ptr 6 rv3.2.length [.x ((rv2).toNat) 7])) (leV_ix), .cl 2 cv4 [6, 0, 1, 7, 8, 9, 10] 11 false] <|
.ite (rv4.1 != 0) (
.reg 9 [] [(0, hv (AV.d (TApiTreasury.e (⟨0, []⟩ : TApiTreasury))))] [.pf cz5] <|
.ret [] ((⟨0, []⟩ : TApiTreasury), rv4.1)) (
.reg 10 [] [] [] <|
.guard [rv4.2.length = ((rv3.2.getD ((rv2).toNat) default).Granted).length] <|
.cst (A := rv4.2.length = ((rv3.2.getD ((rv2).toNat) default).Granted).length) (.ev 0) [(8, (vp 3)), (9, (vi 0))] [(8, (vp 3)), (9, (vi 0))] [(Ob.box (vi p0)), (Ob.box (vi p1)), (Ob.box (AV.agg [(vi rv3.1), (AV.ref 6 rv3.2.length 0 rv3.2.length)])), (Ob.box (AV.agg [(vi rv3.1), (AV.ref 6 rv3.2.length 0 rv3.2.length)])), Ob.dead, Ob.dead, (opS 7 TApiPot.e ((rv2).toNat) (AV.agg [(AV.d (DV.str ((rv3.2.getD ((rv2).toNat) default).Code))), (vi ((rv3.2.getD ((rv2).toNat) default).Year)), (vi ((rv3.2.getD ((rv2).toNat) default).Total)), (AV.ref 7 (((rv3.2.getD ((rv2).toNat) default).Granted).length) 0 (((rv3.2.getD ((rv2).toNat) default).Granted).length)), (AV.ref 8 (((rv3.2.getD ((rv2).toNat) default).Heard).length) 0 (((rv3.2.getD ((rv2).toNat) default).Heard).length)), (AV.ref 9 (((rv3.2.getD ((rv2).toNat) default).Asked).length) 0 (((rv3.2.getD ((rv2).toNat) default).Asked).length)), (AV.ref 10 (((rv3.2.getD ((rv2).toNat) default).Used).length) 0 (((rv3.2.getD ((rv2).toNat) default).Used).length))]) rv3.2), (eS 1 (DV.i .i64) rv4.2), (eS 1 (DV.i .i64) ((rv3.2.getD ((rv2).toNat) default).Heard)), (eS 1 (DV.i .i64) ((rv3.2.getD ((rv2).toNat) default).Asked)), (eS 1 (DV.i .i64) ((rv3.2.getD ((rv2).toNat) default).Used))] [(Ob.box (vi p0)), (Ob.box (vi p1)), (Ob.box (AV.agg [(vi rv3.1), (AV.ref 6 rv3.2.length 0 rv3.2.length)])), (Ob.box (AV.agg [(vi rv3.1), (AV.ref 6 rv3.2.length 0 rv3.2.length)])), Ob.dead, Ob.dead, (opS 7 TApiPot.e ((rv2).toNat) (AV.agg [(AV.d (DV.str ((rv3.2.getD ((rv2).toNat) default).Code))), (vi ((rv3.2.getD ((rv2).toNat) default).Year)), (vi ((rv3.2.getD ((rv2).toNat) default).Total)), (AV.ref 7 rv4.2.length 0 rv4.2.length), (AV.ref 8 (((rv3.2.getD ((rv2).toNat) default).Heard).length) 0 (((rv3.2.getD ((rv2).toNat) default).Heard).length)), (AV.ref 9 (((rv3.2.getD ((rv2).toNat) default).Asked).length) 0 (((rv3.2.getD ((rv2).toNat) default).Asked).length)), (AV.ref 10 (((rv3.2.getD ((rv2).toNat) default).Used).length) 0 (((rv3.2.getD ((rv2).toNat) default).Used).length))]) rv3.2), (eS 1 (DV.i .i64) rv4.2), (eS 1 (DV.i .i64) ((rv3.2.getD ((rv2).toNat) default).Heard)), (eS 1 (DV.i .i64) ((rv3.2.getD ((rv2).toNat) default).Asked)), (eS 1 (DV.i .i64) ((rv3.2.getD ((rv2).toNat) default).Used))] (fun h => ⟨rfl, by rw [h]⟩) <|
.guard [rv4.2.length < 2 ^ 63 ∧ ((rv3.2.getD ((rv2).toNat) default).Heard).length < 2 ^ 63 ∧ ((rv3.2.getD ((rv2).toNat) default).Asked).length < 2 ^ 63 ∧ ((rv3.2.getD ((rv2).toNat) default).Used).length < 2 ^ 63] <|
.sh (A := rv4.2.length < 2 ^ 63 ∧ ((rv3.2.getD ((rv2).toNat) default).Heard).length < 2 ^ 63 ∧ ((rv3.2.getD ((rv2).toNat) default).Asked).length < 2 ^ 63 ∧ ((rv3.2.getD ((rv2).toNat) default).Used).length < 2 ^ 63) (.ev 0) [(8, (vp 3)), (9, (vi 0))] [(8, (vp 3)), (9, (vi 0))] [(Ob.box (vi p0)), (Ob.box (vi p1)), (Ob.box (AV.agg [(vi rv3.1), (AV.ref 6 rv3.2.length 0 rv3.2.length)])), (Ob.box (AV.agg [(vi rv3.1), (AV.ref 6 rv3.2.length 0 rv3.2.length)])), Ob.dead, Ob.dead, (opS 7 TApiPot.e ((rv2).toNat) (AV.agg [(AV.d (DV.str ((rv3.2.getD ((rv2).toNat) default).Code))), (vi ((rv3.2.getD ((rv2).toNat) default).Year)), (vi ((rv3.2.getD ((rv2).toNat) default).Total)), (AV.ref 7 rv4.2.length 0 rv4.2.length), (AV.ref 8 (((rv3.2.getD ((rv2).toNat) default).Heard).length) 0 (((rv3.2.getD ((rv2).toNat) default).Heard).length)), (AV.ref 9 (((rv3.2.getD ((rv2).toNat) default).Asked).length) 0 (((rv3.2.getD ((rv2).toNat) default).Asked).length)), (AV.ref 10 (((rv3.2.getD ((rv2).toNat) default).Used).length) 0 (((rv3.2.getD ((rv2).toNat) default).Used).length))]) rv3.2), (eS 1 (DV.i .i64) rv4.2), (eS 1 (DV.i .i64) ((rv3.2.getD ((rv2).toNat) default).Heard)), (eS 1 (DV.i .i64) ((rv3.2.getD ((rv2).toNat) default).Asked)), (eS 1 (DV.i .i64) ((rv3.2.getD ((rv2).toNat) default).Used))] [(Ob.box (vi p0)), (Ob.box (vi p1)), (Ob.box (AV.agg [(vi rv3.1), (AV.ref 6 rv3.2.length 0 rv3.2.length)])), (Ob.box (AV.agg [(vi rv3.1), (AV.ref 6 rv3.2.length 0 rv3.2.length)])), Ob.dead, Ob.dead, (eS 7 TApiPot.e (rv3.2.set ((rv2).toNat) (⟨(rv3.2.getD ((rv2).toNat) default).Code, (rv3.2.getD ((rv2).toNat) default).Year, (rv3.2.getD ((rv2).toNat) default).Total, rv4.2, (rv3.2.getD ((rv2).toNat) default).Heard, (rv3.2.getD ((rv2).toNat) default).Asked, (rv3.2.getD ((rv2).toNat) default).Used⟩ : TApiPot))), Ob.dead, Ob.dead, Ob.dead, Ob.dead] (fun h => shift_close oTApiPot (P := [(Ob.box (vi p0)), (Ob.box (vi p1)), (Ob.box (AV.agg [(vi rv3.1), (AV.ref 6 rv3.2.length 0 rv3.2.length)])), (Ob.box (AV.agg [(vi rv3.1), (AV.ref 6 rv3.2.length 0 rv3.2.length)])), Ob.dead, Ob.dead]) (D := []) rfl (⟨(rv3.2.getD ((rv2).toNat) default).Code, (rv3.2.getD ((rv2).toNat) default).Year, (rv3.2.getD ((rv2).toNat) default).Total, [], [], [], []⟩ : TApiPot) (⟨(rv3.2.getD ((rv2).toNat) default).Code, (rv3.2.getD ((rv2).toNat) default).Year, (rv3.2.getD ((rv2).toNat) default).Total, rv4.2, (rv3.2.getD ((rv2).toNat) default).Heard, (rv3.2.getD ((rv2).toNat) default).Asked, (rv3.2.getD ((rv2).toNat) default).Used⟩ : TApiPot) h rfl) (trF_refl _) <|
.cst (A := True) (.pf trivial) [(8, (vp 3)), (9, (vi 0))] [(8, (vp 3)), (9, (vi 0))] [(Ob.box (vi p0)), (Ob.box (vi p1)), (Ob.box (AV.agg [(vi rv3.1), (AV.ref 6 rv3.2.length 0 rv3.2.length)])), (Ob.box (AV.agg [(vi rv3.1), (AV.ref 6 rv3.2.length 0 rv3.2.length)])), Ob.dead, Ob.dead, (eS 7 TApiPot.e (rv3.2.set ((rv2).toNat) (⟨(rv3.2.getD ((rv2).toNat) default).Code, (rv3.2.getD ((rv2).toNat) default).Year, (rv3.2.getD ((rv2).toNat) default).Total, rv4.2, (rv3.2.getD ((rv2).toNat) default).Heard, (rv3.2.getD ((rv2).toNat) default).Asked, (rv3.2.getD ((rv2).toNat) default).Used⟩ : TApiPot))), Ob.dead, Ob.dead, Ob.dead, Ob.dead] [(Ob.box (vi p0)), (Ob.box (vi p1)), (Ob.box (AV.agg [(vi rv3.1), (AV.ref 6 ((rv3.2.set ((rv2).toNat) (⟨(rv3.2.getD ((rv2).toNat) default).Code, (rv3.2.getD ((rv2).toNat) default).Year, (rv3.2.getD ((rv2).toNat) default).Total, rv4.2, (rv3.2.getD ((rv2).toNat) default).Heard, (rv3.2.getD ((rv2).toNat) default).Asked, (rv3.2.getD ((rv2).toNat) default).Used⟩ : TApiPot)).length) 0 ((rv3.2.set ((rv2).toNat) (⟨(rv3.2.getD ((rv2).toNat) default).Code, (rv3.2.getD ((rv2).toNat) default).Year, (rv3.2.getD ((rv2).toNat) default).Total, rv4.2, (rv3.2.getD ((rv2).toNat) default).Heard, (rv3.2.getD ((rv2).toNat) default).Asked, (rv3.2.getD ((rv2).toNat) default).Used⟩ : TApiPot)).length))])), (Ob.box (AV.agg [(vi rv3.1), (AV.ref 6 ((rv3.2.set ((rv2).toNat) (⟨(rv3.2.getD ((rv2).toNat) default).Code, (rv3.2.getD ((rv2).toNat) default).Year, (rv3.2.getD ((rv2).toNat) default).Total, rv4.2, (rv3.2.getD ((rv2).toNat) default).Heard, (rv3.2.getD ((rv2).toNat) default).Asked, (rv3.2.getD ((rv2).toNat) default).Used⟩ : TApiPot)).length) 0 ((rv3.2.set ((rv2).toNat) (⟨(rv3.2.getD ((rv2).toNat) default).Code, (rv3.2.getD ((rv2).toNat) default).Year, (rv3.2.getD ((rv2).toNat) default).Total, rv4.2, (rv3.2.getD ((rv2).toNat) default).Heard, (rv3.2.getD ((rv2).toNat) default).Asked, (rv3.2.getD ((rv2).toNat) default).Used⟩ : TApiPot)).length))])), Ob.dead, Ob.dead, (eS 7 TApiPot.e (rv3.2.set ((rv2).toNat) (⟨(rv3.2.getD ((rv2).toNat) default).Code, (rv3.2.getD ((rv2).toNat) default).Year, (rv3.2.getD ((rv2).toNat) default).Total, rv4.2, (rv3.2.getD ((rv2).toNat) default).Heard, (rv3.2.getD ((rv2).toNat) default).Asked, (rv3.2.getD ((rv2).toNat) default).Used⟩ : TApiPot))), Ob.dead, Ob.dead, Ob.dead, Ob.dead] (fun _ => ⟨by simp only, by simp only [List.length_set]⟩) <|
.guard [(rv3.2.set ((rv2).toNat) (⟨(rv3.2.getD ((rv2).toNat) default).Code, (rv3.2.getD ((rv2).toNat) default).Year, (rv3.2.getD ((rv2).toNat) default).Total, rv4.2, (rv3.2.getD ((rv2).toNat) default).Heard, (rv3.2.getD ((rv2).toNat) default).Asked, (rv3.2.getD ((rv2).toNat) default).Used⟩ : TApiPot)).length < 2 ^ 63] <|
.frz 6 (.ev 0) none [] [2, 3] <|
.ret [] ((⟨rv3.1, (rv3.2.set ((rv2).toNat) (⟨(rv3.2.getD ((rv2).toNat) default).Code, (rv3.2.getD ((rv2).toNat) default).Year, (rv3.2.getD ((rv2).toNat) default).Total, rv4.2, (rv3.2.getD ((rv2).toNat) default).Heard, (rv3.2.getD ((rv2).toNat) default).Asked, (rv3.2.getD ((rv2).toNat) default).Used⟩ : TApiPot))⟩ : TApiTreasury), 0))))
def F_rights_change_rights_Grant_1 (a0 : TApiTreasury) (a1 : List UInt8) (a2 : Int) (p0 : Int) (p1 : Int) : Option R_rights_change_rights_Grant_1 := (S_rights_change_rights_Grant_1 a0 a1 a2 p0 p1).den
set_option maxRecDepth 100000 in
theorem F_rights_change_rights_Grant_1_ok {a0 : TApiTreasury} {a1 : List UInt8} {a2 : Int} {p0 : Int} {p1 : Int} (r : R_rights_change_rights_Grant_1) (h : F_rights_change_rights_Grant_1 a0 a1 a2 p0 p1 = some r) : CallOk Tryz.prog 69 [(AV.d (TApiTreasury.e a0)), (AV.d (DV.str a1)), (vi a2), (AV.fn 70 [(vp 0), (vp 1)])] [(Ob.box (vi p0)), (Ob.box (vi p1))] (V_rights_change_rights_Grant_1 r) (L_rights_change_rights_Grant_1 p0 p1 r) := fOk (s := S_rights_change_rights_Grant_1 a0 a1 a2 p0 p1) Tryz.func69 rfl (by kernel_rfl) h
/-! 30 -/
abbrev R_rights_Grant := TApiTreasury × Int
def V_rights_Grant (x : R_rights_Grant) : AV := (AV.tup [(AV.d (TApiTreasury.e x.1)), (vi x.2)])
def L_rights_Grant (_ : R_rights_Grant) : List Ob := []
def S_rights_Grant (a0 : TApiTreasury) (a1 : Int) (a2 : List UInt8) (a3 : Int) (a4 : Int) : Scr Tryz.prog R_rights_Grant R_rights_Grant :=
.reg 0 [] [(3, { obs := [(3, (bx (TApiTreasury.e (⟨0, []⟩ : TApiTreasury))))] })] [.pf cz4] <|
.call (@F_rights_change_rights_Grant_1_ok a0 a2 a3 a1 a4) fun rv1 cv1 =>
.reg 1 [] [(4, hc cv1 [1, 2] true)] [.cl 0 cv1 [1, 2] 4 true] <|
.ret [] (rv1.1, rv1.2)
def F_rights_Grant (a0 : TApiTreasury) (a1 : Int) (a2 : List UInt8) (a3 : Int) (a4 : Int) : Option R_rights_Grant := (S_rights_Grant a0 a1 a2 a3 a4).den
set_option maxRecDepth 100000 in
theorem F_rights_Grant_ok {a0 : TApiTreasury} {a1 : Int} {a2 : List UInt8} {a3 : Int} {a4 : Int} (r : R_rights_Grant) (h : F_rights_Grant a0 a1 a2 a3 a4 = some r) : CallOk Tryz.prog 30 [(AV.d (TApiTreasury.e a0)), (vi a1), (AV.d (DV.str a2)), (vi a3), (vi a4)] [] (V_rights_Grant r) (L_rights_Grant r) := fOk (s := S_rights_Grant a0 a1 a2 a3 a4) Tryz.func30 rfl (by kernel_rfl) h
/-! 87 -/
abbrev R_slices_Clone_int := (List Int)
def V_slices_Clone_int (x : R_slices_Clone_int) : AV := (vl x)
def L_slices_Clone_int (_ : R_slices_Clone_int) : List Ob := []
def S_slices_Clone_int (a0 : (List Int)) : Scr Tryz.prog R_slices_Clone_int R_slices_Clone_int :=
.reg 0 [] [] [] <|
.nils 0 (
.guard [(0 + a0.length) * (2 * 8) ≤ 2 ^ 48] <|
.reg 1 [] [] [] <|
.lev 0 (vl a0) (.pf (lvQ true a0.length fun j => (DV.i .i64 (a0.getD j default)))) <|
.br true (.pf (p := true = true) rfl) <|
.reg 2 [] [] [] <|
.lev 2 (vl a0) (.der (fun (h : a0.length = 0) => lvZ (DV.i .i64) a0 h) 1) <|
.ret [] a0) (
.reg 1 [] [] [] <|
.lev 0 (vl a0) (.pf (lvQ false a0.length fun j => (DV.i .i64 (a0.getD j default)))) <|
.br false (.pf (p := false = false) rfl) <|
.guard [(0 + a0.length) * (2 * 8) ≤ 2 ^ 48] <|
.reg 3 [] [(2, hv (vl a0))] [.pf (p := ∀ k, k < a0.length → AV.d ((DV.i .i64) (a0.getD k default)) = AV.d ((DV.i .i64) (a0.getD k default)) ∧ ((DV.i .i64) (a0.getD k default)).wd = 1) (fun _ _ => ⟨rfl, rfl⟩), .pf cz3, .ev 0, .pf (leV_app0 (e := (DV.i .i64)) (x := a0))] <|
.ret [] a0)
def F_slices_Clone_int (a0 : (List Int)) : Option R_slices_Clone_int := (S_slices_Clone_int a0).den
set_option maxRecDepth 100000 in
theorem F_slices_Clone_int_ok {a0 : (List Int)} (r : R_slices_Clone_int) (h : F_slices_Clone_int a0 = some r) : CallOk Tryz.prog 87 [(vl a0)] [] (V_slices_Clone_int r) (L_slices_Clone_int r) := fOk (s := S_slices_Clone_int a0) Tryz.func87 rfl (by kernel_rfl) h
/-! 59 -/
abbrev R_rights_copied := TApiPot
def V_rights_copied (x : R_rights_copied) : AV := (AV.d (TApiPot.e x))
def L_rights_copied (_ : R_rights_copied) : List Ob := []
def S_rights_copied (a0 : TApiPot) : Scr Tryz.prog R_rights_copied R_rights_copied :=
.reg 0 [] [(1, { obs := [(1, (bx (TApiPot.e (⟨[], 0, 0, [], [], [], []⟩ : TApiPot))))] })] [.pf cz2] <|
.call (@F_slices_Clone_int_ok a0.Granted) fun rv1 cv1 =>
.call (@F_slices_Clone_int_ok a0.Heard) fun rv2 cv2 =>
.call (@F_slices_Clone_int_ok a0.Asked) fun rv3 cv3 =>
.call (@F_slices_Clone_int_ok a0.Used) fun rv4 cv4 =>
.reg 1 [13, 15, 17, 19] [(2, hc cv1 [] true), (5, hc cv2 [] true), (8, hc cv3 [] true), (11, hc cv4 [] true)] [.cl 3 cv1 [] 2 true, .cl 2 cv2 [] 2 true, .cl 1 cv3 [] 2 true, .cl 0 cv4 [] 2 true] <|
.ret [] (⟨a0.Code, a0.Year, a0.Total, rv1, rv2, rv3, rv4⟩ : TApiPot)
def F_rights_copied (a0 : TApiPot) : Option R_rights_copied := (S_rights_copied a0).den
set_option maxRecDepth 100000 in
theorem F_rights_copied_ok {a0 : TApiPot} (r : R_rights_copied) (h : F_rights_copied a0 = some r) : CallOk Tryz.prog 59 [(AV.d (TApiPot.e a0))] [] (V_rights_copied r) (L_rights_copied r) := fOk (s := S_rights_copied a0) Tryz.func59 rfl (by kernel_rfl) h
/-! 24 -/
abbrev R_rights_Pot := TApiPot × Bool
def V_rights_Pot (x : R_rights_Pot) : AV := (AV.tup [(AV.d (TApiPot.e x.1)), (vb x.2)])
def L_rights_Pot (_ : R_rights_Pot) : List Ob := []
def S_rights_Pot (a0 : TApiTreasury) (a1 : List UInt8) (a2 : Int) : Scr Tryz.prog R_rights_Pot R_rights_Pot :=
.reg 0 [] [(1, { obs := [(1, (bx (TApiPot.e (⟨[], 0, 0, [], [], [], []⟩ : TApiPot))))] })] [.pf cz2] <|
.call (@F_rights_find_ok a0 a1 a2) fun rv1 cv1 =>
.reg 1 [] [(3, hc cv1 [] true)] [.cl 0 cv1 [] 2 true] <|
.ite (decide (rv1 < 0)) (
.reg 3 [] [(0, hv (AV.d (TApiPot.e (⟨[], 0, 0, [], [], [], []⟩ : TApiPot))))] [.pf cz6] <|
.ret [] ((⟨[], 0, 0, [], [], [], []⟩ : TApiPot), false)) (
.call (@F_rights_copied_ok (a0.Pots.getD ((rv1).toNat) default)) fun rv2 cv2 =>
.guard [(0 : Int) ≤ rv1, (rv1).toNat < a0.Pots.length] <|
.reg 4 [] [(5, hc cv2 [] true)] [.ev 0, .ev 1, .cl 2 cv2 [] 2 true] <|
.ret [] (rv2, true))
def F_rights_Pot (a0 : TApiTreasury) (a1 : List UInt8) (a2 : Int) : Option R_rights_Pot := (S_rights_Pot a0 a1 a2).den
set_option maxRecDepth 100000 in
theorem F_rights_Pot_ok {a0 : TApiTreasury} {a1 : List UInt8} {a2 : Int} (r : R_rights_Pot) (h : F_rights_Pot a0 a1 a2 = some r) : CallOk Tryz.prog 24 [(AV.d (TApiTreasury.e a0)), (AV.d (DV.str a1)), (vi a2)] [] (V_rights_Pot r) (L_rights_Pot r) := fOk (s := S_rights_Pot a0 a1 a2) Tryz.func24 rfl (by kernel_rfl) h
/-! 21 -/
abbrev R_rights_Shortfall := Int
def V_rights_Shortfall (x : R_rights_Shortfall) : AV := (vi x)
def L_rights_Shortfall (_ : R_rights_Shortfall) : List Ob := []
def S_rights_Shortfall (a0 : TApiPot) : Scr Tryz.prog R_rights_Shortfall R_rights_Shortfall :=
.call (@F_rights_Out_ok a0) fun rv1 cv1 =>
.reg 1 [] [(1, hc cv1 [] true)] [.cl 0 cv1 [] 1 true] <|
.ret [] (if 0 > (IntKind.i64.wrap (rv1 - a0.Total)) then 0 else (IntKind.i64.wrap (rv1 - a0.Total)))
def F_rights_Shortfall (a0 : TApiPot) : Option R_rights_Shortfall := (S_rights_Shortfall a0).den
set_option maxRecDepth 100000 in
theorem F_rights_Shortfall_ok {a0 : TApiPot} (r : R_rights_Shortfall) (h : F_rights_Shortfall a0 = some r) : CallOk Tryz.prog 21 [(AV.d (TApiPot.e a0))] [] (V_rights_Shortfall r) (L_rights_Shortfall r) := fOk (s := S_rights_Shortfall a0) Tryz.func21 rfl (by kernel_rfl) h
/-! 68 -/
abbrev R_r13_ints := Bool
def V_r13_ints (x : R_r13_ints) : AV := (vb x)
def L_r13_ints (_ : R_r13_ints) : List Ob := []
def S_r13_ints_b1 (a0 : (List Int)) (a1 : (List Int)) (iv1 : Nat) (_ : Unit) : Scr Tryz.prog R_r13_ints (Step (Unit) R_r13_ints) :=
.guard [iv1 < a1.length] <|
.reg 6 [] [] [.pf (nn iv1), .ev 1, .pf (nn iv1), .ev 0] <|
.ite ((a0.getD iv1 default) != (a1.getD iv1 default)) (
.ret [] (.ret false)) (
.ret [] (.cont ()))
def S_r13_ints (a0 : (List Int)) (a1 : (List Int)) : Scr Tryz.prog R_r13_ints R_r13_ints :=
.ite ((a0.length : Int) != (a1.length : Int)) (
.ret [] false) (
.range (a0.length : Int) a0.length rfl (.slot 0) 13 [0, 1, 12] (fun (_ : Unit) => []) (fun (_ : Unit) => []) () (S_r13_ints_b1 a0 a1) (fun (_ : Unit) => 
.ret [] true) id)
def F_r13_ints (a0 : (List Int)) (a1 : (List Int)) : Option R_r13_ints := (S_r13_ints a0 a1).den
set_option maxRecDepth 100000 in
theorem F_r13_ints_ok {a0 : (List Int)} {a1 : (List Int)} (r : R_r13_ints) (h : F_r13_ints a0 a1 = some r) : CallOk Tryz.prog 68 [(vl a0), (vl a1)] [] (V_r13_ints r) (L_r13_ints r) := fOk (s := S_r13_ints a0 a1) Tryz.func68 rfl (by kernel_rfl) h
/-! 28 -/
abbrev R_r13_SamePot := Bool
def V_r13_SamePot (x : R_r13_SamePot) : AV := (vb x)
def L_r13_SamePot (_ : R_r13_SamePot) : List Ob := []
def S_r13_SamePot (a0 : TApiPot) (a1 : TApiPot) : Scr Tryz.prog R_r13_SamePot R_r13_SamePot :=
.calld [(bif (bif (a0.Code == a1.Code) then (a0.Year == a1.Year) else false) then (a0.Total == a1.Total) else false) = true] default (@F_r13_ints_ok a0.Granted a1.Granted) fun rv1 cv1 =>
.calld [(bif (bif (bif (a0.Code == a1.Code) then (a0.Year == a1.Year) else false) then (a0.Total == a1.Total) else false) then rv1 else false) = true] default (@F_r13_ints_ok a0.Heard a1.Heard) fun rv2 cv2 =>
.calld [(bif (bif (bif (bif (a0.Code == a1.Code) then (a0.Year == a1.Year) else false) then (a0.Total == a1.Total) else false) then rv1 else false) then rv2 else false) = true] default (@F_r13_ints_ok a0.Asked a1.Asked) fun rv3 cv3 =>
.calld [(bif (bif (bif (bif (bif (a0.Code == a1.Code) then (a0.Year == a1.Year) else false) then (a0.Total == a1.Total) else false) then rv1 else false) then rv2 else false) then rv3 else false) = true] default (@F_r13_ints_ok a0.Used a1.Used) fun rv4 cv4 =>
.reg 1 [] [(24, hc cv1 [] true), (31, hc cv2 [] true), (38, hc cv3 [] true), (45, hc cv4 [] true)] [.clg 6 [(bif (bif (a0.Code == a1.Code) then (a0.Year == a1.Year) else false) then (a0.Total == a1.Total) else false) = true] cv1 [] 2 true, .clg 4 [(bif (bif (bif (a0.Code == a1.Code) then (a0.Year == a1.Year) else false) then (a0.Total == a1.Total) else false) then rv1 else false) = true] cv2 [] 2 true, .clg 2 [(bif (bif (bif (bif (a0.Code == a1.Code) then (a0.Year == a1.Year) else false) then (a0.Total == a1.Total) else false) then rv1 else false) then rv2 else false) = true] cv3 [] 2 true, .clg 0 [(bif (bif (bif (bif (bif (a0.Code == a1.Code) then (a0.Year == a1.Year) else false) then (a0.Total == a1.Total) else false) then rv1 else false) then rv2 else false) then rv3 else false) = true] cv4 [] 2 true] <|
.ret [] (bif (bif (bif (bif (bif (bif (a0.Code == a1.Code) then (a0.Year == a1.Year) else false) then (a0.Total == a1.Total) else false) then rv1 else false) then rv2 else false) then rv3 else false) then rv4 else false)
def F_r13_SamePot (a0 : TApiPot) (a1 : TApiPot) : Option R_r13_SamePot := (S_r13_SamePot a0 a1).den
set_option maxRecDepth 100000 in
theorem F_r13_SamePot_ok {a0 : TApiPot} {a1 : TApiPot} (r : R_r13_SamePot) (h : F_r13_SamePot a0 a1 = some r) : CallOk Tryz.prog 28 [(AV.d (TApiPot.e a0)), (AV.d (TApiPot.e a1))] [] (V_r13_SamePot r) (L_r13_SamePot r) := fOk (s := S_r13_SamePot a0 a1) Tryz.func28 rfl (by kernel_rfl) h
/-! 29 -/
abbrev R_r13_Same := Bool
def V_r13_Same (x : R_r13_Same) : AV := (vb x)
def L_r13_Same (_ : R_r13_Same) : List Ob := []
def S_r13_Same_b1 (a0 : TApiTreasury) (a1 : TApiTreasury) (iv1 : Nat) (_ : Unit) : Scr Tryz.prog R_r13_Same (Step (Unit) R_r13_Same) :=
.call (@F_r13_SamePot_ok (a0.Pots.getD iv1 default) (a1.Pots.getD iv1 default)) fun rv2 cv2 =>
.guard [iv1 < a1.Pots.length] <|
.reg 6 [] [(10, hc cv2 [] true)] [.pf (nn iv1), .ev 2, .pf (nn iv1), .ev 0, .cl 1 cv2 [] 2 true] <|
.ite (!rv2) (
.ret [] (.ret false)) (
.ret [] (.cont ()))
def S_r13_Same (a0 : TApiTreasury) (a1 : TApiTreasury) : Scr Tryz.prog R_r13_Same R_r13_Same :=
.ite (bif (a0.Offices != a1.Offices) then true else ((a0.Pots.length : Int) != (a1.Pots.length : Int))) (
.ret [] false) (
.guard [a0.Pots.length < 2 ^ 63] <|
.range (a0.Pots.length : Int) a0.Pots.length rfl (.why (.ev 0)) 23 [2, 3, 22] (fun (_ : Unit) => []) (fun (_ : Unit) => []) () (S_r13_Same_b1 a0 a1) (fun (_ : Unit) => 
.ret [] true) id)
def F_r13_Same (a0 : TApiTreasury) (a1 : TApiTreasury) : Option R_r13_Same := (S_r13_Same a0 a1).den
set_option maxRecDepth 100000 in
theorem F_r13_Same_ok {a0 : TApiTreasury} {a1 : TApiTreasury} (r : R_r13_Same) (h : F_r13_Same a0 a1 = some r) : CallOk Tryz.prog 29 [(AV.d (TApiTreasury.e a0)), (AV.d (TApiTreasury.e a1))] [] (V_r13_Same r) (L_r13_Same r) := fOk (s := S_r13_Same a0 a1) Tryz.func29 rfl (by kernel_rfl) h
/-! 63 -/
abbrev R_rights_fresh_rw := Int × (List TApiPot)
def V_rights_fresh_rw (x : R_rights_fresh_rw) : AV := (AV.agg [(vi x.1), (AV.ref 2 x.2.length 0 x.2.length)])
def L_rights_fresh_rw (x : R_rights_fresh_rw) : List Ob := [Ob.dead, (Ob.box (AV.agg [(vi x.1), (AV.ref 2 x.2.length 0 x.2.length)])), (eS 7 TApiPot.e x.2)]
def S_rights_fresh_rw_b1 (a0 : TApiTreasury) (iv1 : Nat) (sv2 : Int × (List TApiPot)) : Scr Tryz.prog R_rights_fresh_rw (Step (Int × (List TApiPot)) R_rights_fresh_rw) :=
.reg 5 [] [(2, { obs := [(3, (bx (TApiPot.e (⟨[], 0, 0, [], [], [], []⟩ : TApiPot))))] })] [.pf (nn iv1), .ev 0, .pf cz2] <|
.call (@F_rights_copied_ok (a0.Pots.getD iv1 default)) fun rv3 cv3 =>
.guard [(sv2.2.length + 1) * (2 * 128) ≤ 2 ^ 48] <|
.reg 6 [5, 7] [(3, hc cv3 [] true), (4, hv (AV.d (eL TApiPot.e ([rv3] : List TApiPot)))), (5, { h := .obj, cast := some (AV.ref 2 ((sv2.2 ++ ([rv3] : List TApiPot)).length) 0 ((sv2.2 ++ ([rv3] : List TApiPot)).length)), obs := [(2, (eS 7 TApiPot.e (sv2.2 ++ ([rv3] : List TApiPot))))] })] [.cl 1 cv3 [] 4 true, .pf (leV_lit TApiPot.e ([rv3] : List TApiPot)), .pf (Eq.refl sv2.2.length), .pf (Eq.refl sv2.2.length), .pf (p := ∀ k, k < 1 → (AV.d (TApiPot.e (([rv3] : List TApiPot).getD k default))).wd = 7) (fun _ _ => rfl), .ev 0, .pf (leV_app (o := 2) (l := sv2.2) (x := ([rv3] : List TApiPot))), .pf (oLe_app (sz := 7) (e := TApiPot.e) (l := sv2.2) (x := ([rv3] : List TApiPot)))] <|
.ret [] (.cont (sv2.1, (sv2.2 ++ ([rv3] : List TApiPot))))
def S_rights_fresh_rw (a0 : TApiTreasury) : Scr Tryz.prog R_rights_fresh_rw R_rights_fresh_rw :=
.reg 0 [] [(1, { obs := [(1, (bx (TApiTreasury.e (⟨0, []⟩ : TApiTreasury))))] })] [.pf cz4] <|
.reg 2 [] [] [] <|
.sh (A := True) (.pf trivial) [(1, (vp 0)), (2, (vp 1)), (3, (AV.d (eL TApiPot.e a0.Pots)))] [(1, (vp 0)), (2, (vp 1)), (3, (AV.d (eL TApiPot.e a0.Pots)))] [(Ob.box (AV.agg [(vi a0.Offices), (AV.full 0 fun _ => DV.b false)])), (bx (TApiTreasury.e (⟨0, []⟩ : TApiTreasury)))] [(Ob.box (AV.agg [(vi a0.Offices), (AV.ref 2 0 0 0)])), (bx (TApiTreasury.e (⟨0, []⟩ : TApiTreasury))), (eS 7 TApiPot.e ([] : List TApiPot))] (fun _ => (shift_born (sz := 7) (f := fun j => AV.d (TApiPot.e (([] : List TApiPot).getD j default))) (.box _ _ _ _ _ (Nat.ne_of_beq_eq_false rfl) (TrV.agg (TrL.cons (TrV.keep _) (TrL.cons TrV.born TrL.nil))) (.keep _ _ _ _ (Nat.ne_of_beq_eq_false rfl) (.nil _))))) (trF_at (k := 0) rfl (TrS.keep _) (trF_at (k := 1) rfl (TrS.keep _) (trF_at (k := 2) rfl (TrS.keep _) trF_nil))) <|
.range (a0.Pots.length : Int) a0.Pots.length rfl (.slot 9) 11 [1, 2, 9, 10] (fun (_ : Int × (List TApiPot)) => []) (fun (sv2 : Int × (List TApiPot)) => [(0, (Ob.box (AV.agg [(vi sv2.1), (AV.ref 2 sv2.2.length 0 sv2.2.length)]))), (2, (eS 7 TApiPot.e sv2.2))]) (a0.Offices, ([] : List TApiPot)) (S_rights_fresh_rw_b1 a0) (fun (sv2 : Int × (List TApiPot)) => 
.reg 8 [] [] [] <|
.kill 0 <|
.ret [] (sv2.1, sv2.2)) id
def F_rights_fresh_rw (a0 : TApiTreasury) : Option R_rights_fresh_rw := (S_rights_fresh_rw a0).den
set_option maxRecDepth 100000 in
theorem F_rights_fresh_rw_ok {a0 : TApiTreasury} (r : R_rights_fresh_rw) (h : F_rights_fresh_rw a0 = some r) : CallOk Tryz.prog 63 [(AV.d (TApiTreasury.e a0))] [] (V_rights_fresh_rw r) (L_rights_fresh_rw r) := fOk (s := S_rights_fresh_rw a0) Tryz.func63 rfl (by kernel_rfl) h
end
end Go.Proofs.YtkabfdfkegjfdaaGreatDoor
/- What the functions compute, and that their calls return it. No condition. -/
namespace Go.Proofs.YtkabfdfkegjfdaaGreatDoor
open Go Go.TA
noncomputable section
/-! 64 -/
abbrev R_slices_BSF_Pot_rights_compare := Int × Bool
def V_slices_BSF_Pot_rights_compare (x : R_slices_BSF_Pot_rights_compare) : AV := (AV.tup [(vi x.1), (vb x.2)])
def L_slices_BSF_Pot_rights_compare (p0 : (List TApiPot)) (_ : R_slices_BSF_Pot_rights_compare) : List Ob := [(eS 7 TApiPot.e p0)]
def S_slices_BSF_Pot_rights_compare_b1 (a1 : TApiPot) (p0 : (List TApiPot)) (sv1 : Int × Int) : Scr Tryz.prog R_slices_BSF_Pot_rights_compare (Step (Int × Int) R_slices_BSF_Pot_rights_compare) :=
.ite (decide (sv1.1 < sv1.2)) (
.reg 4 [] [] [.pf (p := (0 : Int) ≤ 1) (by decide)] <|
.call (@F_rights_compare_ok (p0.getD (0 + ((IntKind.i64.wrap ((IntKind.u64.wrap (IntKind.i64.wrap (sv1.1 + sv1.2))).fdiv (2 ^ (min (1 : Int).toNat IntKind.u64.bits))))).toNat) default) a1) fun rv2 cv2 =>
.guard [(0 : Int) ≤ (IntKind.i64.wrap ((IntKind.u64.wrap (IntKind.i64.wrap (sv1.1 + sv1.2))).fdiv (2 ^ (min (1 : Int).toNat IntKind.u64.bits)))), ((IntKind.i64.wrap ((IntKind.u64.wrap (IntKind.i64.wrap (sv1.1 + sv1.2))).fdiv (2 ^ (min (1 : Int).toNat IntKind.u64.bits))))).toNat < p0.length, (0 + ((IntKind.i64.wrap ((IntKind.u64.wrap (IntKind.i64.wrap (sv1.1 + sv1.2))).fdiv (2 ^ (min (1 : Int).toNat IntKind.u64.bits))))).toNat) < p0.length] <|
.reg 5 [] [(6, hc cv2 [] true)] [.pf (Eq.refl p0.length), .ev 0, .ev 1, .pf (Eq.refl p0.length), .ev 2, .cl 3 cv2 [] 2 true] <|
.ite (decide (rv2 < 0)) (
.ret [] (.cont ((IntKind.i64.wrap ((IntKind.i64.wrap ((IntKind.u64.wrap (IntKind.i64.wrap (sv1.1 + sv1.2))).fdiv (2 ^ (min (1 : Int).toNat IntKind.u64.bits)))) + 1)), sv1.2))) (
.ret [] (.cont (sv1.1, (IntKind.i64.wrap ((IntKind.u64.wrap (IntKind.i64.wrap (sv1.1 + sv1.2))).fdiv (2 ^ (min (1 : Int).toNat IntKind.u64.bits)))))))) (
.ret [] (.brk (sv1.1, sv1.2)))
def S_slices_BSF_Pot_rights_compare (a1 : TApiPot) (p0 : (List TApiPot)) : Scr Tryz.prog R_slices_BSF_Pot_rights_compare R_slices_BSF_Pot_rights_compare :=
.iter [0, 2, 4, 8] (fun (sv1 : Int × Int) => [(9, (vi sv1.1)), (10, (vi sv1.2))]) (fun (_ : Int × Int) => []) (0, (p0.length : Int)) (S_slices_BSF_Pot_rights_compare_b1 a1 p0) (fun (sv1 : Int × Int) =>
.calld [(decide (sv1.1 < (p0.length : Int))) = true] default (@F_rights_compare_ok (p0.getD (0 + (sv1.1).toNat) default) a1) fun rv3 cv3 =>
.guard [AllP [(decide (sv1.1 < (p0.length : Int))) = true] → ((0 : Int) ≤ sv1.1), AllP [(decide (sv1.1 < (p0.length : Int))) = true] → ((sv1.1).toNat < p0.length), AllP [(decide (sv1.1 < (p0.length : Int))) = true] → ((0 + (sv1.1).toNat) < p0.length)] <|
.reg 8 [] [(11, hc cv3 [] true)] [.pf (p := AllP [(decide (sv1.1 < (p0.length : Int))) = true] → (p0.length = p0.length)) (fun _ => rfl), .ev 0, .ev 1, .pf (p := AllP [(decide (sv1.1 < (p0.length : Int))) = true] → (p0.length = p0.length)) (fun _ => rfl), .ev 2, .clg 3 [(decide (sv1.1 < (p0.length : Int))) = true] cv3 [] 2 true] <|
.ret [] (sv1.1, (bif (decide (sv1.1 < (p0.length : Int))) then (rv3 == 0) else false))) id
def F_slices_BSF_Pot_rights_compare (a1 : TApiPot) (p0 : (List TApiPot)) : Option R_slices_BSF_Pot_rights_compare := (S_slices_BSF_Pot_rights_compare a1 p0).den
set_option maxRecDepth 100000 in
theorem F_slices_BSF_Pot_rights_compare_ok {a1 : TApiPot} {p0 : (List TApiPot)} (r : R_slices_BSF_Pot_rights_compare) (h : F_slices_BSF_Pot_rights_compare a1 p0 = some r) : CallOk Tryz.prog 64 [(AV.ref 0 p0.length 0 p0.length), (AV.d (TApiPot.e a1)), (AV.fn 54 [])] [(eS 7 TApiPot.e p0)] (V_slices_BSF_Pot_rights_compare r) (L_slices_BSF_Pot_rights_compare p0 r) := fOk (s := S_slices_BSF_Pot_rights_compare a1 p0) Tryz.func64 rfl (by kernel_rfl) h
/-! 65 -/
abbrev R_slices_Insert_Pot := List TApiPot
def V_slices_Insert_Pot (x : R_slices_Insert_Pot) : AV := .ref 0 x.length 0 x.length
def L_slices_Insert_Pot (p1 : List TApiPot) (x : R_slices_Insert_Pot) : List Ob := [eS 7 TApiPot.e x, eS 7 TApiPot.e p1]
def F_slices_Insert_Pot (a1 : Int) (p0 p1 : List TApiPot) : Option R_slices_Insert_Pot := match p1 with
  | [y] => guardP (0 ≤ a1 ∧ a1.toNat ≤ p0.length ∧ (p0.length + 1) * (4 * 128) ≤ 2 ^ 48) (some (insL p0 a1.toNat y))
  | _ => none
theorem F_slices_Insert_Pot_ok {a1 : Int} {p0 p1 : List TApiPot} (r : R_slices_Insert_Pot) (h : F_slices_Insert_Pot a1 p0 p1 = some r) : CallOk Tryz.prog 65 [(AV.ref 0 p0.length 0 p0.length), (AV.d (.i .i64 a1)), (AV.ref 1 p1.length 0 p1.length)] [(eS 7 TApiPot.e p0), (eS 7 TApiPot.e p1)] (V_slices_Insert_Pot r) (L_slices_Insert_Pot p1 r) := by
  unfold F_slices_Insert_Pot at h
  split at h
  · rename_i y
    obtain ⟨⟨h1, h2, h3⟩, h⟩ := guardP_some h
    obtain rfl := Option.some.inj h
    obtain ⟨i, rfl⟩ : ∃ i : Nat, a1 = (i : Int) := ⟨a1.toNat, (Int.toNat_of_nonneg h1).symm⟩
    exact Ins65.ins_ok (fun _ => rfl) h2 h3
  · cases h
/-! 26 -/
abbrev R_rights_Set := TApiTreasury × Int
def V_rights_Set (x : R_rights_Set) : AV := (AV.tup [(AV.d (TApiTreasury.e x.1)), (vi x.2)])
def L_rights_Set (_ : R_rights_Set) : List Ob := []
def S_rights_Set (a0 : TApiTreasury) (a1 : List UInt8) (a2 : Int) (a3 : Int) : Scr Tryz.prog R_rights_Set R_rights_Set :=
.reg 0 [] [(1, { obs := [(1, (bx (TApiTreasury.e (⟨0, []⟩ : TApiTreasury))))] })] [.pf cz4] <|
.call (@F_rights_Valid_ok a0) fun rv1 cv1 =>
.reg 1 [] [(1, hc cv1 [] true)] [.cl 0 cv1 [] 2 true] <|
.ite (!rv1) (
.reg 2 [] [(0, hv (AV.d (TApiTreasury.e (⟨0, []⟩ : TApiTreasury))))] [.pf cz5] <|
.ret [] ((⟨0, []⟩ : TApiTreasury), 1)) (
.call (@F_classification_Parts_ok a1) fun rv2 cv2 =>
.reg 3 [] [(1, hc cv2 [] true)] [.cl 0 cv2 [] 2 true] <|
.ite ((rv2.length : Int) == 0) (
.reg 4 [] [(0, hv (AV.d (TApiTreasury.e (⟨0, []⟩ : TApiTreasury))))] [.pf cz5] <|
.ret [] ((⟨0, []⟩ : TApiTreasury), 5)) (
.call (@F_rights_place_ok a1 a2) fun rv3 cv3 =>
.calld [(!rv3) = false] default (@F_rights_among_ok a3 (-1000000000000000) 1000000000000000) fun rv4 cv4 =>
.reg 5 [] [(2, hc cv3 [] true), (6, hc cv4 [] true)] [.cl 2 cv3 [] 2 true, .clg 0 [(!rv3) = false] cv4 [] 2 true] <|
.ite (bif (!rv3) then true else (!rv4)) (
.reg 6 [] [(0, hv (AV.d (TApiTreasury.e (⟨0, []⟩ : TApiTreasury))))] [.pf cz5] <|
.ret [] ((⟨0, []⟩ : TApiTreasury), 2)) (
.call (@F_rights_fresh_rw_ok a0) fun rv5 cv5 =>
.reg 7 [] [(1, hc cv5 [] false)] [.cl 0 cv5 [] 2 false] <|
.kill 3 <|
.reg 8 [] [(2, hv (AV.d (TApiPot.e (⟨a1, a2, 0, [], [], [], []⟩ : TApiPot)))), (3, { obs := [(5, (bx (TApiPot.e (⟨[], 0, 0, [], [], [], []⟩ : TApiPot))))] })] [.pf (p := LeV (AV.d (DV.agg [(DV.str a1), (DV.i .i64 a2), (DV.i .i64 0), Z0, Z0, Z0, Z0])) (AV.d (TApiPot.e (⟨a1, a2, 0, [], [], [], []⟩ : TApiPot)))) (leV_dle rfl (DLe.agg (DLeL.cons (DLe.refl _) (DLeL.cons (DLe.refl _) (DLeL.cons (DLe.refl _) (DLeL.cons DLe.sl0 (DLeL.cons DLe.sl0 (DLeL.cons DLe.sl0 (DLeL.cons DLe.sl0 DLeL.nil))))))))), .pf cz2] <|
.call (@F_slices_BSF_Pot_rights_compare_ok (⟨a1, a2, 0, [], [], [], []⟩ : TApiPot) rv5.2) fun rv6 cv6 =>
.reg 9 [] [(3, hc cv6 [4] true)] [.cl 0 cv6 [4] 6 true] <|
.cut none [3, 4, 8, 11] (fun (_ : Int × (List TApiPot) × TApiPot) => []) (fun (sv7 : Int × (List TApiPot) × TApiPot) => [(0, (Ob.box (AV.agg [(vi sv7.1), (AV.ref 4 sv7.2.1.length 0 sv7.2.1.length)]))), (4, (eS 7 TApiPot.e sv7.2.1)), (5, (bx (TApiPot.e sv7.2.2)))]) (
.ite (!rv6.2) (
.ite ((rv5.2.length : Int) == 60) (
.reg 12 [] [(0, hv (AV.d (TApiTreasury.e (⟨0, []⟩ : TApiTreasury))))] [.pf cz5] <|
.ret [] (.ret ((⟨0, []⟩ : TApiTreasury), 3))) (
.guard [(0 : Int) ≤ rv5.1, rv5.1 * 8 ≤ 2 ^ 47] <|
.reg 13 [] [(2, { cast := some (AV.ref 6 ((List.replicate rv5.1.toNat (0 : Int)).length) 0 ((List.replicate rv5.1.toNat (0 : Int)).length)), obs := [(6, (eS 1 (DV.i .i64) (List.replicate rv5.1.toNat (0 : Int))))] })] [.ev 0, .pf (p := rv5.1 ≤ rv5.1) (Int.le_refl _), .ev 1, .pf (leV_rep (o := 6) (k := rv5.1.toNat) (z := (0 : Int))), .pf (oLe_rep (sz := 1) (k := rv5.1.toNat) (e := (DV.i .i64)) (z := (0 : Int)))] <|
.guard [(List.replicate rv5.1.toNat (0 : Int)).length < 2 ^ 63] <|
.frz 6 (.ev 0) none [13] [] <|
.call (@F_rights_copied_ok (⟨(⟨a1, a2, 0, [], [], [], []⟩ : TApiPot).Code, (⟨a1, a2, 0, [], [], [], []⟩ : TApiPot).Year, (⟨a1, a2, 0, [], [], [], []⟩ : TApiPot).Total, (List.replicate rv5.1.toNat (0 : Int)), (List.replicate rv5.1.toNat (0 : Int)), (List.replicate rv5.1.toNat (0 : Int)), (List.replicate rv5.1.toNat (0 : Int))⟩ : TApiPot)) fun rv8 cv8 =>
.call (@F_slices_Insert_Pot_ok rv6.1 rv5.2 ([rv8] : List TApiPot)) fun rv9 cv9 =>
.reg 15 [5, 6, 8] [(4, hc cv8 [] true), (5, { h := .obj, obs := [(7, (eS 7 TApiPot.e ([rv8] : List TApiPot)))] }), (6, hc cv9 [4, 7] false)] [.cl 1 cv8 [] 7 true, .pf (oLe_lit (sz := 7) (e := TApiPot.e) (l := ([rv8] : List TApiPot))), .cl 0 cv9 [4, 7] 8 false] <|
.ret [] (.next (rv5.1, rv9, (⟨(⟨a1, a2, 0, [], [], [], []⟩ : TApiPot).Code, (⟨a1, a2, 0, [], [], [], []⟩ : TApiPot).Year, (⟨a1, a2, 0, [], [], [], []⟩ : TApiPot).Total, (List.replicate rv5.1.toNat (0 : Int)), (List.replicate rv5.1.toNat (0 : Int)), (List.replicate rv5.1.toNat (0 : Int)), (List.replicate rv5.1.toNat (0 : Int))⟩ : TApiPot))))) (
.ret [] (.next (rv5.1, rv5.2, (⟨a1, a2, 0, [], [], [], []⟩ : TApiPot))))) fun (sv7 : Int × (List TApiPot) × TApiPot) =>
.guard [(0 : Int) ≤ rv6.1, (rv6.1).toNat < sv7.2.1.length, (0 + (rv6.1).toNat) < sv7.2.1.length] <|
.reg 16 [] [(6, { obs := [(4, (eS 7 TApiPot.e (sv7.2.1.set (0 + (rv6.1).toNat) (⟨(sv7.2.1.getD (0 + (rv6.1).toNat) default).Code, (sv7.2.1.getD (0 + (rv6.1).toNat) default).Year, a3, (sv7.2.1.getD (0 + (rv6.1).toNat) default).Granted, (sv7.2.1.getD (0 + (rv6.1).toNat) default).Heard, (sv7.2.1.getD (0 + (rv6.1).toNat) default).Asked, (sv7.2.1.getD (0 + (rv6.1).toNat) default).Used⟩ : TApiPot))))] })] [.pf (Eq.refl sv7.2.1.length), .ev 0, .ev 1, .pf (Eq.refl sv7.2.1.length), .pf (Eq.refl sv7.2.1.length), .ev 2, .pf (oLe_set (sz := 7) (e := TApiPot.e) (l := sv7.2.1) (i := (0 + (rv6.1).toNat)) (x := (⟨(sv7.2.1.getD (0 + (rv6.1).toNat) default).Code, (sv7.2.1.getD (0 + (rv6.1).toNat) default).Year, a3, (sv7.2.1.getD (0 + (rv6.1).toNat) default).Granted, (sv7.2.1.getD (0 + (rv6.1).toNat) default).Heard, (sv7.2.1.getD (0 + (rv6.1).toNat) default).Asked, (sv7.2.1.getD (0 + (rv6.1).toNat) default).Used⟩ : TApiPot)) (fun _ => rfl))] <|
.cst (A := True) (.pf trivial) [(4, (vp 0)), (8, (vp 1))] [(4, (vp 0)), (8, (vp 1))] [(Ob.box (AV.agg [(vi sv7.1), (AV.ref 4 sv7.2.1.length 0 sv7.2.1.length)])), (bx (TApiTreasury.e (⟨0, []⟩ : TApiTreasury))), Ob.dead, Ob.dead, (eS 7 TApiPot.e (sv7.2.1.set (0 + (rv6.1).toNat) (⟨(sv7.2.1.getD (0 + (rv6.1).toNat) default).Code, (sv7.2.1.getD (0 + (rv6.1).toNat) default).Year, a3, (sv7.2.1.getD (0 + (rv6.1).toNat) default).Granted, (sv7.2.1.getD (0 + (rv6.1).toNat) default).Heard, (sv7.2.1.getD (0 + (rv6.1).toNat) default).Asked, (sv7.2.1.getD (0 + (rv6.1).toNat) default).Used⟩ : TApiPot))), (bx (TApiPot.e sv7.2.2))] [(Ob.box (AV.agg [(vi sv7.1), (AV.ref 4 ((sv7.2.1.set (0 + (rv6.1).toNat) (⟨(sv7.2.1.getD (0 + (rv6.1).toNat) default).Code, (sv7.2.1.getD (0 + (rv6.1).toNat) default).Year, a3, (sv7.2.1.getD (0 + (rv6.1).toNat) default).Granted, (sv7.2.1.getD (0 + (rv6.1).toNat) default).Heard, (sv7.2.1.getD (0 + (rv6.1).toNat) default).Asked, (sv7.2.1.getD (0 + (rv6.1).toNat) default).Used⟩ : TApiPot)).length) 0 ((sv7.2.1.set (0 + (rv6.1).toNat) (⟨(sv7.2.1.getD (0 + (rv6.1).toNat) default).Code, (sv7.2.1.getD (0 + (rv6.1).toNat) default).Year, a3, (sv7.2.1.getD (0 + (rv6.1).toNat) default).Granted, (sv7.2.1.getD (0 + (rv6.1).toNat) default).Heard, (sv7.2.1.getD (0 + (rv6.1).toNat) default).Asked, (sv7.2.1.getD (0 + (rv6.1).toNat) default).Used⟩ : TApiPot)).length))])), (bx (TApiTreasury.e (⟨0, []⟩ : TApiTreasury))), Ob.dead, Ob.dead, (eS 7 TApiPot.e (sv7.2.1.set (0 + (rv6.1).toNat) (⟨(sv7.2.1.getD (0 + (rv6.1).toNat) default).Code, (sv7.2.1.getD (0 + (rv6.1).toNat) default).Year, a3, (sv7.2.1.getD (0 + (rv6.1).toNat) default).Granted, (sv7.2.1.getD (0 + (rv6.1).toNat) default).Heard, (sv7.2.1.getD (0 + (rv6.1).toNat) default).Asked, (sv7.2.1.getD (0 + (rv6.1).toNat) default).Used⟩ : TApiPot))), (bx (TApiPot.e sv7.2.2))] (fun _ => ⟨by simp only, by simp only [List.length_set]⟩) <|
.guard [(sv7.2.1.set (0 + (rv6.1).toNat) (⟨(sv7.2.1.getD (0 + (rv6.1).toNat) default).Code, (sv7.2.1.getD (0 + (rv6.1).toNat) default).Year, a3, (sv7.2.1.getD (0 + (rv6.1).toNat) default).Granted, (sv7.2.1.getD (0 + (rv6.1).toNat) default).Heard, (sv7.2.1.getD (0 + (rv6.1).toNat) default).Asked, (sv7.2.1.getD (0 + (rv6.1).toNat) default).Used⟩ : TApiPot)).length < 2 ^ 63] <|
.reg 17 [] [] [] <|
.frz 4 (.ev 0) none [] [0, 1] <|
.ret [] ((⟨sv7.1, (sv7.2.1.set (0 + (rv6.1).toNat) (⟨(sv7.2.1.getD (0 + (rv6.1).toNat) default).Code, (sv7.2.1.getD (0 + (rv6.1).toNat) default).Year, a3, (sv7.2.1.getD (0 + (rv6.1).toNat) default).Granted, (sv7.2.1.getD (0 + (rv6.1).toNat) default).Heard, (sv7.2.1.getD (0 + (rv6.1).toNat) default).Asked, (sv7.2.1.getD (0 + (rv6.1).toNat) default).Used⟩ : TApiPot))⟩ : TApiTreasury), 0))))
def F_rights_Set (a0 : TApiTreasury) (a1 : List UInt8) (a2 : Int) (a3 : Int) : Option R_rights_Set := (S_rights_Set a0 a1 a2 a3).den
set_option maxRecDepth 100000 in
theorem F_rights_Set_ok {a0 : TApiTreasury} {a1 : List UInt8} {a2 : Int} {a3 : Int} (r : R_rights_Set) (h : F_rights_Set a0 a1 a2 a3 = some r) : CallOk Tryz.prog 26 [(AV.d (TApiTreasury.e a0)), (AV.d (DV.str a1)), (vi a2), (vi a3)] [] (V_rights_Set r) (L_rights_Set r) := fOk (s := S_rights_Set a0 a1 a2 a3) Tryz.func26 rfl (by kernel_rfl) h
/-! 76 -/
abbrev R_rights_Divide_1_1 := Bool
def V_rights_Divide_1_1 (x : R_rights_Divide_1_1) : AV := (vb x)
def L_rights_Divide_1_1 (_ : R_rights_Divide_1_1) : List Ob := []
def S_rights_Divide_1_1 (a0 : Int) : Scr Tryz.prog R_rights_Divide_1_1 R_rights_Divide_1_1 :=
.call (@F_rights_total_ok a0) fun rv1 cv1 =>
.reg 1 [] [(1, hc cv1 [] true)] [.cl 0 cv1 [] 0 true] <|
.ret [] (!rv1)
def F_rights_Divide_1_1 (a0 : Int) : Option R_rights_Divide_1_1 := (S_rights_Divide_1_1 a0).den
set_option maxRecDepth 100000 in
theorem F_rights_Divide_1_1_ok {a0 : Int} (r : R_rights_Divide_1_1) (h : F_rights_Divide_1_1 a0 = some r) : CallOk Tryz.prog 76 [(vi a0)] [] (V_rights_Divide_1_1 r) (L_rights_Divide_1_1 r) := fOk (s := S_rights_Divide_1_1 a0) Tryz.func76 rfl (by kernel_rfl) h
/-! 93 -/
abbrev R_slices_IndexFunc_int_rights_Divide_1_1 := Int
def V_slices_IndexFunc_int_rights_Divide_1_1 (x : R_slices_IndexFunc_int_rights_Divide_1_1) : AV := (vi x)
def L_slices_IndexFunc_int_rights_Divide_1_1 (_ : R_slices_IndexFunc_int_rights_Divide_1_1) : List Ob := []
def S_slices_IndexFunc_int_rights_Divide_1_1_b1 (a0 : (List Int)) (iv1 : Nat) (_ : Unit) : Scr Tryz.prog R_slices_IndexFunc_int_rights_Divide_1_1 (Step (Unit) R_slices_IndexFunc_int_rights_Divide_1_1) :=
.call (@F_rights_Divide_1_1_ok (a0.getD iv1 default)) fun rv2 cv2 =>
.reg 4 [] [(5, hc cv2 [] true)] [.pf (nn iv1), .ev 1, .cl 0 cv2 [] 0 true] <|
.ite rv2 (
.ret [] (.ret (iv1 : Int))) (
.ret [] (.cont ()))
def S_slices_IndexFunc_int_rights_Divide_1_1 (a0 : (List Int)) : Scr Tryz.prog R_slices_IndexFunc_int_rights_Divide_1_1 R_slices_IndexFunc_int_rights_Divide_1_1 :=
.range (a0.length : Int) a0.length rfl (.slot 0) 8 [0, 1, 7] (fun (_ : Unit) => []) (fun (_ : Unit) => []) () (S_slices_IndexFunc_int_rights_Divide_1_1_b1 a0) (fun (_ : Unit) => 
.ret [] (-1)) id
def F_slices_IndexFunc_int_rights_Divide_1_1 (a0 : (List Int)) : Option R_slices_IndexFunc_int_rights_Divide_1_1 := (S_slices_IndexFunc_int_rights_Divide_1_1 a0).den
set_option maxRecDepth 100000 in
theorem F_slices_IndexFunc_int_rights_Divide_1_1_ok {a0 : (List Int)} (r : R_slices_IndexFunc_int_rights_Divide_1_1) (h : F_slices_IndexFunc_int_rights_Divide_1_1 a0 = some r) : CallOk Tryz.prog 93 [(vl a0), (AV.fn 76 [])] [] (V_slices_IndexFunc_int_rights_Divide_1_1 r) (L_slices_IndexFunc_int_rights_Divide_1_1 r) := fOk (s := S_slices_IndexFunc_int_rights_Divide_1_1 a0) Tryz.func93 rfl (by kernel_rfl) h
/-! 75 -/
abbrev R_slices_CoF_int_rights_Divide_1_1 := Bool
def V_slices_CoF_int_rights_Divide_1_1 (x : R_slices_CoF_int_rights_Divide_1_1) : AV := (vb x)
def L_slices_CoF_int_rights_Divide_1_1 (_ : R_slices_CoF_int_rights_Divide_1_1) : List Ob := []
def S_slices_CoF_int_rights_Divide_1_1 (a0 : (List Int)) : Scr Tryz.prog R_slices_CoF_int_rights_Divide_1_1 R_slices_CoF_int_rights_Divide_1_1 :=
.call (@F_slices_IndexFunc_int_rights_Divide_1_1_ok a0) fun rv1 cv1 =>
.reg 1 [] [(2, hc cv1 [] true)] [.cl 0 cv1 [] 0 true] <|
.ret [] (decide (rv1 ≥ 0))
def F_slices_CoF_int_rights_Divide_1_1 (a0 : (List Int)) : Option R_slices_CoF_int_rights_Divide_1_1 := (S_slices_CoF_int_rights_Divide_1_1 a0).den
set_option maxRecDepth 100000 in
theorem F_slices_CoF_int_rights_Divide_1_1_ok {a0 : (List Int)} (r : R_slices_CoF_int_rights_Divide_1_1) (h : F_slices_CoF_int_rights_Divide_1_1 a0 = some r) : CallOk Tryz.prog 75 [(vl a0), (AV.fn 76 [])] [] (V_slices_CoF_int_rights_Divide_1_1 r) (L_slices_CoF_int_rights_Divide_1_1 r) := fOk (s := S_slices_CoF_int_rights_Divide_1_1 a0) Tryz.func75 rfl (by kernel_rfl) h
/-! 74 -/
abbrev R_rights_Divide_1 := Int × (List Int)
def V_rights_Divide_1 (x : R_rights_Divide_1) : AV := (vi x.1)
def L_rights_Divide_1 (p0_0 : Nat) (p0_1 : (List TApiPot)) (p0_2 : List UInt8) (p0_3 : Int) (p0_4 : Int) (p1 : (List Int)) (p2 : (List Int)) (p3 : (List Int)) (p4 : (List Int)) (p5 : (List Int)) (x : R_rights_Divide_1) : List Ob := [(opS 7 TApiPot.e p0_0 (AV.agg [(AV.d (DV.str p0_2)), (vi p0_3), (vi p0_4), (AV.ref 2 p2.length 0 p2.length), (AV.ref 3 p3.length 0 p3.length), (AV.ref 4 p4.length 0 p4.length), (AV.ref 5 p5.length 0 p5.length)]) p0_1), (Ob.box (vl p1)), (eS 1 (DV.i .i64) x.2), (eS 1 (DV.i .i64) p3), (eS 1 (DV.i .i64) p4), (eS 1 (DV.i .i64) p5)]
def S_rights_Divide_1 (p0_0 : Nat) (p0_1 : (List TApiPot)) (p0_2 : List UInt8) (p0_3 : Int) (p0_4 : Int) (p1 : (List Int)) (p2 : (List Int)) (p3 : (List Int)) (p4 : (List Int)) (p5 : (List Int)) : Scr Tryz.prog R_rights_Divide_1 R_rights_Divide_1 :=
.guard [p0_0 < p0_1.length] <|
.reg 1 [] [] [.pf (Eq.refl p0_1.length), .pf (Eq.refl p0_1.length), .ev 0, .pf (p := decide (p0_0 = p0_0) = true) (decide_eq_true rfl)] <|
.ite ((p1.length : Int) != (p2.length : Int)) (
.ret [] (6, p2)) (
.call (@F_slices_CoF_int_rights_Divide_1_1_ok p1) fun rv1 cv1 =>
.reg 3 [] [(1, hc cv1 [] true)] [.cl 0 cv1 [] 6 true] <|
.ite rv1 (
.ret [] (2, p2)) (
.call (@F_rights_give_ok p1 p0_0 p0_1 p0_2 p0_3 p0_4 p2 p3 p4 p5) fun rv2 cv2 =>
.reg 5 [] [(2, hc cv2 [0, 2, 3, 4, 5] false)] [.cl 0 cv2 [0, 2, 3, 4, 5] 6 false] <|
.ret [] (rv2.1, rv2.2)))
def F_rights_Divide_1 (p0_0 : Nat) (p0_1 : (List TApiPot)) (p0_2 : List UInt8) (p0_3 : Int) (p0_4 : Int) (p1 : (List Int)) (p2 : (List Int)) (p3 : (List Int)) (p4 : (List Int)) (p5 : (List Int)) : Option R_rights_Divide_1 := (S_rights_Divide_1 p0_0 p0_1 p0_2 p0_3 p0_4 p1 p2 p3 p4 p5).den
set_option maxRecDepth 100000 in
theorem F_rights_Divide_1_ok {p0_0 : Nat} {p0_1 : (List TApiPot)} {p0_2 : List UInt8} {p0_3 : Int} {p0_4 : Int} {p1 : (List Int)} {p2 : (List Int)} {p3 : (List Int)} {p4 : (List Int)} {p5 : (List Int)} (r : R_rights_Divide_1) (h : F_rights_Divide_1 p0_0 p0_1 p0_2 p0_3 p0_4 p1 p2 p3 p4 p5 = some r) : CallOk Tryz.prog 74 [(AV.ptr 0 p0_1.length [.x p0_0 7]), (vp 1)] [(opS 7 TApiPot.e p0_0 (AV.agg [(AV.d (DV.str p0_2)), (vi p0_3), (vi p0_4), (AV.ref 2 p2.length 0 p2.length), (AV.ref 3 p3.length 0 p3.length), (AV.ref 4 p4.length 0 p4.length), (AV.ref 5 p5.length 0 p5.length)]) p0_1), (Ob.box (vl p1)), (eS 1 (DV.i .i64) p2), (eS 1 (DV.i .i64) p3), (eS 1 (DV.i .i64) p4), (eS 1 (DV.i .i64) p5)] (V_rights_Divide_1 r) (L_rights_Divide_1 p0_0 p0_1 p0_2 p0_3 p0_4 p1 p2 p3 p4 p5 r) := fOk (s := S_rights_Divide_1 p0_0 p0_1 p0_2 p0_3 p0_4 p1 p2 p3 p4 p5) Tryz.func74 rfl (by kernel_rfl) h
/-! 69 -/
abbrev R_rights_change_rights_Divide_1 := TApiTreasury × Int
def V_rights_change_rights_Divide_1 (x : R_rights_change_rights_Divide_1) : AV := (AV.tup [(AV.d (TApiTreasury.e x.1)), (vi x.2)])
def L_rights_change_rights_Divide_1 (p0 : (List Int)) (_ : R_rights_change_rights_Divide_1) : List Ob := [(Ob.box (vl p0))]
def S_rights_change_rights_Divide_1 (a0 : TApiTreasury) (a1 : List UInt8) (a2 : Int) (p0 : (List Int)) : Scr Tryz.prog R_rights_change_rights_Divide_1 R_rights_change_rights_Divide_1 :=
.reg 0 [] [(1, { obs := [(2, (bx (TApiTreasury.e (⟨0, []⟩ : TApiTreasury))))] })] [.pf cz4] <|
.call (@F_rights_Valid_ok a0) fun rv1 cv1 =>
.reg 1 [] [(1, hc cv1 [] true)] [.cl 0 cv1 [] 3 true] <|
.ite (!rv1) (
.reg 2 [] [(0, hv (AV.d (TApiTreasury.e (⟨0, []⟩ : TApiTreasury))))] [.pf cz5] <|
.ret [] ((⟨0, []⟩ : TApiTreasury), 1)) (
.call (@F_rights_find_ok a0 a1 a2) fun rv2 cv2 =>
.reg 3 [] [(3, hc cv2 [] true)] [.cl 0 cv2 [] 3 true] <|
.ite (decide (rv2 < 0)) (
.reg 5 [] [(0, hv (AV.d (TApiTreasury.e (⟨0, []⟩ : TApiTreasury))))] [.pf cz5] <|
.ret [] ((⟨0, []⟩ : TApiTreasury), 6)) (
.call (@F_rights_fresh_op_ok a0 ((rv2).toNat)) fun rv3 cv3 =>
.reg 6 [] [(1, hc cv3 [] false)] [.cl 0 cv3 [] 3 false] <|
.kill 4 <|
.call (@F_rights_Divide_1_ok ((rv2).toNat) rv3.2 ((rv3.2.getD ((rv2).toNat) default).Code) ((rv3.2.getD ((rv2).toNat) default).Year) ((rv3.2.getD ((rv2).toNat) default).Total) p0 ((rv3.2.getD ((rv2).toNat) default).Granted) ((rv3.2.getD ((rv2).toNat) default).Heard) ((rv3.2.getD ((rv2).toNat) default).Asked) ((rv3.2.getD ((rv2).toNat) default).Used)) fun rv4 cv4 =>
.guard [(0 : Int) ≤ rv2, (rv2).toNat < rv3.2.length] <|
.reg 7 [] [(4, hv (AV.ptr 5 rv3.2.length [.x ((rv2).toNat) 7])), (5, hc cv4 [5, 0, 6, 7, 8, 9] false)] [.pf (Eq.refl rv3.2.length), .ev 0, .ev 1, .pf (p := LeV (AV.ptr 5 rv3.2.length [.x (0 + ((rv2).toNat)) 7]) (AV.ptr 5 rv3.2.length [.x ((rv2).toNat) 7])) (leV_ix), .cl 2 cv4 [5, 0, 6, 7, 8, 9] 10 false] <|
.ite (rv4.1 != 0) (
.reg 9 [] [(0, hv (AV.d (TApiTreasury.e (⟨0, []⟩ : TApiTreasury))))] [.pf cz5] <|
.ret [] ((⟨0, []⟩ : TApiTreasury), rv4.1)) (
.reg 10 [] [] [] <|
.guard [rv4.2.length = ((rv3.2.getD ((rv2).toNat) default).Granted).length] <|
.cst (A := rv4.2.length = ((rv3.2.getD ((rv2).toNat) default).Granted).length) (.ev 0) [(8, (vp 2)), (9, (vi 0))] [(8, (vp 2)), (9, (vi 0))] [(Ob.box (vl p0)), (Ob.box (AV.agg [(vi rv3.1), (AV.ref 5 rv3.2.length 0 rv3.2.length)])), (Ob.box (AV.agg [(vi rv3.1), (AV.ref 5 rv3.2.length 0 rv3.2.length)])), Ob.dead, Ob.dead, (opS 7 TApiPot.e ((rv2).toNat) (AV.agg [(AV.d (DV.str ((rv3.2.getD ((rv2).toNat) default).Code))), (vi ((rv3.2.getD ((rv2).toNat) default).Year)), (vi ((rv3.2.getD ((rv2).toNat) default).Total)), (AV.ref 6 (((rv3.2.getD ((rv2).toNat) default).Granted).length) 0 (((rv3.2.getD ((rv2).toNat) default).Granted).length)), (AV.ref 7 (((rv3.2.getD ((rv2).toNat) default).Heard).length) 0 (((rv3.2.getD ((rv2).toNat) default).Heard).length)), (AV.ref 8 (((rv3.2.getD ((rv2).toNat) default).Asked).length) 0 (((rv3.2.getD ((rv2).toNat) default).Asked).length)), (AV.ref 9 (((rv3.2.getD ((rv2).toNat) default).Used).length) 0 (((rv3.2.getD ((rv2).toNat) default).Used).length))]) rv3.2), (eS 1 (DV.i .i64) rv4.2), (eS 1 (DV.i .i64) ((rv3.2.getD ((rv2).toNat) default).Heard)), (eS 1 (DV.i .i64) ((rv3.2.getD ((rv2).toNat) default).Asked)), (eS 1 (DV.i .i64) ((rv3.2.getD ((rv2).toNat) default).Used))] [(Ob.box (vl p0)), (Ob.box (AV.agg [(vi rv3.1), (AV.ref 5 rv3.2.length 0 rv3.2.length)])), (Ob.box (AV.agg [(vi rv3.1), (AV.ref 5 rv3.2.length 0 rv3.2.length)])), Ob.dead, Ob.dead, (opS 7 TApiPot.e ((rv2).toNat) (AV.agg [(AV.d (DV.str ((rv3.2.getD ((rv2).toNat) default).Code))), (vi ((rv3.2.getD ((rv2).toNat) default).Year)), (vi ((rv3.2.getD ((rv2).toNat) default).Total)), (AV.ref 6 rv4.2.length 0 rv4.2.length), (AV.ref 7 (((rv3.2.getD ((rv2).toNat) default).Heard).length) 0 (((rv3.2.getD ((rv2).toNat) default).Heard).length)), (AV.ref 8 (((rv3.2.getD ((rv2).toNat) default).Asked).length) 0 (((rv3.2.getD ((rv2).toNat) default).Asked).length)), (AV.ref 9 (((rv3.2.getD ((rv2).toNat) default).Used).length) 0 (((rv3.2.getD ((rv2).toNat) default).Used).length))]) rv3.2), (eS 1 (DV.i .i64) rv4.2), (eS 1 (DV.i .i64) ((rv3.2.getD ((rv2).toNat) default).Heard)), (eS 1 (DV.i .i64) ((rv3.2.getD ((rv2).toNat) default).Asked)), (eS 1 (DV.i .i64) ((rv3.2.getD ((rv2).toNat) default).Used))] (fun h => ⟨rfl, by rw [h]⟩) <|
.guard [rv4.2.length < 2 ^ 63 ∧ ((rv3.2.getD ((rv2).toNat) default).Heard).length < 2 ^ 63 ∧ ((rv3.2.getD ((rv2).toNat) default).Asked).length < 2 ^ 63 ∧ ((rv3.2.getD ((rv2).toNat) default).Used).length < 2 ^ 63] <|
.sh (A := rv4.2.length < 2 ^ 63 ∧ ((rv3.2.getD ((rv2).toNat) default).Heard).length < 2 ^ 63 ∧ ((rv3.2.getD ((rv2).toNat) default).Asked).length < 2 ^ 63 ∧ ((rv3.2.getD ((rv2).toNat) default).Used).length < 2 ^ 63) (.ev 0) [(8, (vp 2)), (9, (vi 0))] [(8, (vp 2)), (9, (vi 0))] [(Ob.box (vl p0)), (Ob.box (AV.agg [(vi rv3.1), (AV.ref 5 rv3.2.length 0 rv3.2.length)])), (Ob.box (AV.agg [(vi rv3.1), (AV.ref 5 rv3.2.length 0 rv3.2.length)])), Ob.dead, Ob.dead, (opS 7 TApiPot.e ((rv2).toNat) (AV.agg [(AV.d (DV.str ((rv3.2.getD ((rv2).toNat) default).Code))), (vi ((rv3.2.getD ((rv2).toNat) default).Year)), (vi ((rv3.2.getD ((rv2).toNat) default).Total)), (AV.ref 6 rv4.2.length 0 rv4.2.length), (AV.ref 7 (((rv3.2.getD ((rv2).toNat) default).Heard).length) 0 (((rv3.2.getD ((rv2).toNat) default).Heard).length)), (AV.ref 8 (((rv3.2.getD ((rv2).toNat) default).Asked).length) 0 (((rv3.2.getD ((rv2).toNat) default).Asked).length)), (AV.ref 9 (((rv3.2.getD ((rv2).toNat) default).Used).length) 0 (((rv3.2.getD ((rv2).toNat) default).Used).length))]) rv3.2), (eS 1 (DV.i .i64) rv4.2), (eS 1 (DV.i .i64) ((rv3.2.getD ((rv2).toNat) default).Heard)), (eS 1 (DV.i .i64) ((rv3.2.getD ((rv2).toNat) default).Asked)), (eS 1 (DV.i .i64) ((rv3.2.getD ((rv2).toNat) default).Used))] [(Ob.box (vl p0)), (Ob.box (AV.agg [(vi rv3.1), (AV.ref 5 rv3.2.length 0 rv3.2.length)])), (Ob.box (AV.agg [(vi rv3.1), (AV.ref 5 rv3.2.length 0 rv3.2.length)])), Ob.dead, Ob.dead, (eS 7 TApiPot.e (rv3.2.set ((rv2).toNat) (⟨(rv3.2.getD ((rv2).toNat) default).Code, (rv3.2.getD ((rv2).toNat) default).Year, (rv3.2.getD ((rv2).toNat) default).Total, rv4.2, (rv3.2.getD ((rv2).toNat) default).Heard, (rv3.2.getD ((rv2).toNat) default).Asked, (rv3.2.getD ((rv2).toNat) default).Used⟩ : TApiPot))), Ob.dead, Ob.dead, Ob.dead, Ob.dead] (fun h => shift_close oTApiPot (P := [(Ob.box (vl p0)), (Ob.box (AV.agg [(vi rv3.1), (AV.ref 5 rv3.2.length 0 rv3.2.length)])), (Ob.box (AV.agg [(vi rv3.1), (AV.ref 5 rv3.2.length 0 rv3.2.length)])), Ob.dead, Ob.dead]) (D := []) rfl (⟨(rv3.2.getD ((rv2).toNat) default).Code, (rv3.2.getD ((rv2).toNat) default).Year, (rv3.2.getD ((rv2).toNat) default).Total, [], [], [], []⟩ : TApiPot) (⟨(rv3.2.getD ((rv2).toNat) default).Code, (rv3.2.getD ((rv2).toNat) default).Year, (rv3.2.getD ((rv2).toNat) default).Total, rv4.2, (rv3.2.getD ((rv2).toNat) default).Heard, (rv3.2.getD ((rv2).toNat) default).Asked, (rv3.2.getD ((rv2).toNat) default).Used⟩ : TApiPot) h rfl) (trF_refl _) <|
.cst (A := True) (.pf trivial) [(8, (vp 2)), (9, (vi 0))] [(8, (vp 2)), (9, (vi 0))] [(Ob.box (vl p0)), (Ob.box (AV.agg [(vi rv3.1), (AV.ref 5 rv3.2.length 0 rv3.2.length)])), (Ob.box (AV.agg [(vi rv3.1), (AV.ref 5 rv3.2.length 0 rv3.2.length)])), Ob.dead, Ob.dead, (eS 7 TApiPot.e (rv3.2.set ((rv2).toNat) (⟨(rv3.2.getD ((rv2).toNat) default).Code, (rv3.2.getD ((rv2).toNat) default).Year, (rv3.2.getD ((rv2).toNat) default).Total, rv4.2, (rv3.2.getD ((rv2).toNat) default).Heard, (rv3.2.getD ((rv2).toNat) default).Asked, (rv3.2.getD ((rv2).toNat) default).Used⟩ : TApiPot))), Ob.dead, Ob.dead, Ob.dead, Ob.dead] [(Ob.box (vl p0)), (Ob.box (AV.agg [(vi rv3.1), (AV.ref 5 ((rv3.2.set ((rv2).toNat) (⟨(rv3.2.getD ((rv2).toNat) default).Code, (rv3.2.getD ((rv2).toNat) default).Year, (rv3.2.getD ((rv2).toNat) default).Total, rv4.2, (rv3.2.getD ((rv2).toNat) default).Heard, (rv3.2.getD ((rv2).toNat) default).Asked, (rv3.2.getD ((rv2).toNat) default).Used⟩ : TApiPot)).length) 0 ((rv3.2.set ((rv2).toNat) (⟨(rv3.2.getD ((rv2).toNat) default).Code, (rv3.2.getD ((rv2).toNat) default).Year, (rv3.2.getD ((rv2).toNat) default).Total, rv4.2, (rv3.2.getD ((rv2).toNat) default).Heard, (rv3.2.getD ((rv2).toNat) default).Asked, (rv3.2.getD ((rv2).toNat) default).Used⟩ : TApiPot)).length))])), (Ob.box (AV.agg [(vi rv3.1), (AV.ref 5 ((rv3.2.set ((rv2).toNat) (⟨(rv3.2.getD ((rv2).toNat) default).Code, (rv3.2.getD ((rv2).toNat) default).Year, (rv3.2.getD ((rv2).toNat) default).Total, rv4.2, (rv3.2.getD ((rv2).toNat) default).Heard, (rv3.2.getD ((rv2).toNat) default).Asked, (rv3.2.getD ((rv2).toNat) default).Used⟩ : TApiPot)).length) 0 ((rv3.2.set ((rv2).toNat) (⟨(rv3.2.getD ((rv2).toNat) default).Code, (rv3.2.getD ((rv2).toNat) default).Year, (rv3.2.getD ((rv2).toNat) default).Total, rv4.2, (rv3.2.getD ((rv2).toNat) default).Heard, (rv3.2.getD ((rv2).toNat) default).Asked, (rv3.2.getD ((rv2).toNat) default).Used⟩ : TApiPot)).length))])), Ob.dead, Ob.dead, (eS 7 TApiPot.e (rv3.2.set ((rv2).toNat) (⟨(rv3.2.getD ((rv2).toNat) default).Code, (rv3.2.getD ((rv2).toNat) default).Year, (rv3.2.getD ((rv2).toNat) default).Total, rv4.2, (rv3.2.getD ((rv2).toNat) default).Heard, (rv3.2.getD ((rv2).toNat) default).Asked, (rv3.2.getD ((rv2).toNat) default).Used⟩ : TApiPot))), Ob.dead, Ob.dead, Ob.dead, Ob.dead] (fun _ => ⟨by simp only, by simp only [List.length_set]⟩) <|
.guard [(rv3.2.set ((rv2).toNat) (⟨(rv3.2.getD ((rv2).toNat) default).Code, (rv3.2.getD ((rv2).toNat) default).Year, (rv3.2.getD ((rv2).toNat) default).Total, rv4.2, (rv3.2.getD ((rv2).toNat) default).Heard, (rv3.2.getD ((rv2).toNat) default).Asked, (rv3.2.getD ((rv2).toNat) default).Used⟩ : TApiPot)).length < 2 ^ 63] <|
.frz 5 (.ev 0) none [] [1, 2] <|
.ret [] ((⟨rv3.1, (rv3.2.set ((rv2).toNat) (⟨(rv3.2.getD ((rv2).toNat) default).Code, (rv3.2.getD ((rv2).toNat) default).Year, (rv3.2.getD ((rv2).toNat) default).Total, rv4.2, (rv3.2.getD ((rv2).toNat) default).Heard, (rv3.2.getD ((rv2).toNat) default).Asked, (rv3.2.getD ((rv2).toNat) default).Used⟩ : TApiPot))⟩ : TApiTreasury), 0))))
def F_rights_change_rights_Divide_1 (a0 : TApiTreasury) (a1 : List UInt8) (a2 : Int) (p0 : (List Int)) : Option R_rights_change_rights_Divide_1 := (S_rights_change_rights_Divide_1 a0 a1 a2 p0).den
set_option maxRecDepth 100000 in
theorem F_rights_change_rights_Divide_1_ok {a0 : TApiTreasury} {a1 : List UInt8} {a2 : Int} {p0 : (List Int)} (r : R_rights_change_rights_Divide_1) (h : F_rights_change_rights_Divide_1 a0 a1 a2 p0 = some r) : CallOk Tryz.prog 69 [(AV.d (TApiTreasury.e a0)), (AV.d (DV.str a1)), (vi a2), (AV.fn 74 [(vp 0)])] [(Ob.box (vl p0))] (V_rights_change_rights_Divide_1 r) (L_rights_change_rights_Divide_1 p0 r) := fOk (s := S_rights_change_rights_Divide_1 a0 a1 a2 p0) Tryz.func69 rfl (by kernel_rfl) h
/-! 37 -/
abbrev R_rights_Divide := TApiTreasury × Int
def V_rights_Divide (x : R_rights_Divide) : AV := (AV.tup [(AV.d (TApiTreasury.e x.1)), (vi x.2)])
def L_rights_Divide (_ : R_rights_Divide) : List Ob := []
def S_rights_Divide (a0 : TApiTreasury) (a1 : List UInt8) (a2 : Int) (a3 : (List Int)) : Scr Tryz.prog R_rights_Divide R_rights_Divide :=
.reg 0 [] [(2, { obs := [(2, (bx (TApiTreasury.e (⟨0, []⟩ : TApiTreasury))))] })] [.pf cz4] <|
.call (@F_rights_change_rights_Divide_1_ok a0 a1 a2 a3) fun rv1 cv1 =>
.reg 1 [] [(4, hc cv1 [1] true)] [.cl 0 cv1 [1] 3 true] <|
.ret [] (rv1.1, rv1.2)
def F_rights_Divide (a0 : TApiTreasury) (a1 : List UInt8) (a2 : Int) (a3 : (List Int)) : Option R_rights_Divide := (S_rights_Divide a0 a1 a2 a3).den
set_option maxRecDepth 100000 in
theorem F_rights_Divide_ok {a0 : TApiTreasury} {a1 : List UInt8} {a2 : Int} {a3 : (List Int)} (r : R_rights_Divide) (h : F_rights_Divide a0 a1 a2 a3 = some r) : CallOk Tryz.prog 37 [(AV.d (TApiTreasury.e a0)), (AV.d (DV.str a1)), (vi a2), (vl a3)] [] (V_rights_Divide r) (L_rights_Divide r) := fOk (s := S_rights_Divide a0 a1 a2 a3) Tryz.func37 rfl (by kernel_rfl) h
/-! 73 -/
abbrev R_rights_Ask_1 := Int × (List Int)
def V_rights_Ask_1 (x : R_rights_Ask_1) : AV := (vi x.1)
def L_rights_Ask_1 (p0_0 : Nat) (p0_1 : (List TApiPot)) (p0_2 : List UInt8) (p0_3 : Int) (p0_4 : Int) (p1 : Int) (p2 : Int) (p3 : (List Int)) (p4 : (List Int)) (p5 : (List Int)) (p6 : (List Int)) (x : R_rights_Ask_1) : List Ob := [(opS 7 TApiPot.e p0_0 (AV.agg [(AV.d (DV.str p0_2)), (vi p0_3), (vi p0_4), (AV.ref 3 p3.length 0 p3.length), (AV.ref 4 p4.length 0 p4.length), (AV.ref 5 p5.length 0 p5.length), (AV.ref 6 p6.length 0 p6.length)]) p0_1), (Ob.box (vi p1)), (Ob.box (vi p2)), (eS 1 (DV.i .i64) p3), (eS 1 (DV.i .i64) p4), (eS 1 (DV.i .i64) x.2), (eS 1 (DV.i .i64) p6)]
def S_rights_Ask_1 (p0_0 : Nat) (p0_1 : (List TApiPot)) (_ : List UInt8) (_ : Int) (_ : Int) (p1 : Int) (p2 : Int) (p3 : (List Int)) (_ : (List Int)) (p5 : (List Int)) (_ : (List Int)) : Scr Tryz.prog R_rights_Ask_1 R_rights_Ask_1 :=
.call (@F_rights_among_ok p1 1 (p5.length : Int)) fun rv1 cv1 =>
.guard [p0_0 < p0_1.length] <|
.reg 1 [] [(6, hc cv1 [] true)] [.pf (Eq.refl p0_1.length), .pf (Eq.refl p0_1.length), .ev 0, .pf (p := decide (p0_0 = p0_0) = true) (decide_eq_true rfl), .cl 1 cv1 [] 7 true] <|
.ite (!rv1) (
.ret [] (6, p5)) (
.call (@F_rights_among_ok p2 1 1000000000000000) fun rv2 cv2 =>
.reg 3 [] [(1, hc cv2 [] true)] [.cl 0 cv2 [] 7 true] <|
.ite (!rv2) (
.ret [] (2, p5)) (
.guard [(0 : Int) ≤ (IntKind.i64.wrap (p1 - 1)), ((IntKind.i64.wrap (p1 - 1))).toNat < p5.length, (0 + ((IntKind.i64.wrap (p1 - 1))).toNat) < p5.length, ((IntKind.i64.wrap (p1 - 1))).toNat < p3.length, (0 + ((IntKind.i64.wrap (p1 - 1))).toNat) < p3.length] <|
.reg 5 [] [] [.pf (Eq.refl p0_1.length), .pf (Eq.refl p0_1.length), .ev 8, .pf (p := decide (p0_0 = p0_0) = true) (decide_eq_true rfl), .pf (Eq.refl p5.length), .ev 0, .ev 1, .pf (Eq.refl p5.length), .ev 2, .pf (Eq.refl p0_1.length), .pf (Eq.refl p0_1.length), .ev 8, .pf (p := decide (p0_0 = p0_0) = true) (decide_eq_true rfl), .pf (Eq.refl p3.length), .ev 0, .ev 3, .pf (Eq.refl p3.length), .ev 4] <|
.ite (decide ((IntKind.i64.wrap ((p5.getD (0 + ((IntKind.i64.wrap (p1 - 1))).toNat) default) + p2)) > (p3.getD (0 + ((IntKind.i64.wrap (p1 - 1))).toNat) default))) (
.ret [] (15, p5)) (
.reg 7 [11] [(11, { obs := [(5, (eS 1 (DV.i .i64) (p5.set (0 + ((IntKind.i64.wrap (p1 - 1))).toNat) (IntKind.i64.wrap ((p5.getD (0 + ((IntKind.i64.wrap (p1 - 1))).toNat) default) + p2)))))] })] [.pf (Eq.refl p0_1.length), .pf (Eq.refl p0_1.length), .ev 9, .pf (p := decide (p0_0 = p0_0) = true) (decide_eq_true rfl), .pf (Eq.refl p5.length), .ev 1, .ev 2, .pf (Eq.refl p5.length), .ev 3, .pf (Eq.refl p5.length), .ev 1, .ev 2, .pf (Eq.refl p5.length), .ev 3, .pf (oLe_set (sz := 1) (e := (DV.i .i64)) (l := p5) (i := (0 + ((IntKind.i64.wrap (p1 - 1))).toNat)) (x := (IntKind.i64.wrap ((p5.getD (0 + ((IntKind.i64.wrap (p1 - 1))).toNat) default) + p2))) (fun _ => rfl))] <|
.ret [] (0, (p5.set (0 + ((IntKind.i64.wrap (p1 - 1))).toNat) (IntKind.i64.wrap ((p5.getD (0 + ((IntKind.i64.wrap (p1 - 1))).toNat) default) + p2)))))))
def F_rights_Ask_1 (p0_0 : Nat) (p0_1 : (List TApiPot)) (p0_2 : List UInt8) (p0_3 : Int) (p0_4 : Int) (p1 : Int) (p2 : Int) (p3 : (List Int)) (p4 : (List Int)) (p5 : (List Int)) (p6 : (List Int)) : Option R_rights_Ask_1 := (S_rights_Ask_1 p0_0 p0_1 p0_2 p0_3 p0_4 p1 p2 p3 p4 p5 p6).den
set_option maxRecDepth 100000 in
theorem F_rights_Ask_1_ok {p0_0 : Nat} {p0_1 : (List TApiPot)} {p0_2 : List UInt8} {p0_3 : Int} {p0_4 : Int} {p1 : Int} {p2 : Int} {p3 : (List Int)} {p4 : (List Int)} {p5 : (List Int)} {p6 : (List Int)} (r : R_rights_Ask_1) (h : F_rights_Ask_1 p0_0 p0_1 p0_2 p0_3 p0_4 p1 p2 p3 p4 p5 p6 = some r) : CallOk Tryz.prog 73 [(AV.ptr 0 p0_1.length [.x p0_0 7]), (vp 1), (vp 2)] [(opS 7 TApiPot.e p0_0 (AV.agg [(AV.d (DV.str p0_2)), (vi p0_3), (vi p0_4), (AV.ref 3 p3.length 0 p3.length), (AV.ref 4 p4.length 0 p4.length), (AV.ref 5 p5.length 0 p5.length), (AV.ref 6 p6.length 0 p6.length)]) p0_1), (Ob.box (vi p1)), (Ob.box (vi p2)), (eS 1 (DV.i .i64) p3), (eS 1 (DV.i .i64) p4), (eS 1 (DV.i .i64) p5), (eS 1 (DV.i .i64) p6)] (V_rights_Ask_1 r) (L_rights_Ask_1 p0_0 p0_1 p0_2 p0_3 p0_4 p1 p2 p3 p4 p5 p6 r) := fOk (s := S_rights_Ask_1 p0_0 p0_1 p0_2 p0_3 p0_4 p1 p2 p3 p4 p5 p6) Tryz.func73 rfl (by kernel_rfl) h
/-! 69 -/
abbrev R_rights_change_rights_Ask_1 := TApiTreasury × Int
def V_rights_change_rights_Ask_1 (x : R_rights_change_rights_Ask_1) : AV := (AV.tup [(AV.d (TApiTreasury.e x.1)), (vi x.2)])
def L_rights_change_rights_Ask_1 (p0 : Int) (p1 : Int) (_ : R_rights_change_rights_Ask_1) : List Ob := [(Ob.box (vi p0)), (Ob.box (vi p1))]
def S_rights_change_rights_Ask_1 (a0 : TApiTreasury) (a1 : List UInt8) (a2 : Int) (p0 : Int) (p1 : Int) : Scr Tryz.prog R_rights_change_rights_Ask_1 R_rights_change_rights_Ask_1 :=
.reg 0 [] [(1, { obs := [(3, (bx (TApiTreasury.e (⟨0, []⟩ : TApiTreasury))))] })] [.pf cz4] <|
.call (@F_rights_Valid_ok a0) fun rv1 cv1 =>
.reg 1 [] [(1, hc cv1 [] true)] [.cl 0 cv1 [] 4 true] <|
.ite (!rv1) (
.reg 2 [] [(0, hv (AV.d (TApiTreasury.e (⟨0, []⟩ : TApiTreasury))))] [.pf cz5] <|
.ret [] ((⟨0, []⟩ : TApiTreasury), 1)) (
.call (@F_rights_find_ok a0 a1 a2) fun rv2 cv2 =>
.reg 3 [] [(3, hc cv2 [] true)] [.cl 0 cv2 [] 4 true] <|
.ite (decide (rv2 < 0)) (
.reg 5 [] [(0, hv (AV.d (TApiTreasury.e (⟨0, []⟩ : TApiTreasury))))] [.pf cz5] <|
.ret [] ((⟨0, []⟩ : TApiTreasury), 6)) (
.call (@F_rights_fresh_op_ok a0 ((rv2).toNat)) fun rv3 cv3 =>
.reg 6 [] [(1, hc cv3 [] false)] [.cl 0 cv3 [] 4 false] <|
.kill 5 <|
.call (@F_rights_Ask_1_ok ((rv2).toNat) rv3.2 ((rv3.2.getD ((rv2).toNat) default).Code) ((rv3.2.getD ((rv2).toNat) default).Year) ((rv3.2.getD ((rv2).toNat) default).Total) p0 p1 ((rv3.2.getD ((rv2).toNat) default).Granted) ((rv3.2.getD ((rv2).toNat) default).Heard) ((rv3.2.getD ((rv2).toNat) default).Asked) ((rv3.2.getD ((rv2).toNat) default).Used)) fun rv4 cv4 =>
.guard [(0 : Int) ≤ rv2, (rv2).toNat < rv3.2.length] <|
.reg 7 [] [(4, hv (AV.ptr 6 rv3.2.length [.x ((rv2).toNat) 7])), (5, hc cv4 [6, 0, 1, 7, 8, 9, 10] false)] [.pf (Eq.refl rv3.2.length), .ev 0, .ev 1, .pf (p := LeV (AV.ptr 6 rv3.2.length [.x (0 + ((rv2).toNat)) 7]) (AV.ptr 6 rv3.2.length [.x ((rv2).toNat) 7])) (leV_ix), .cl 2 cv4 [6, 0, 1, 7, 8, 9, 10] 11 false] <|
.ite (rv4.1 != 0) (
.reg 9 [] [(0, hv (AV.d (TApiTreasury.e (⟨0, []⟩ : TApiTreasury))))] [.pf cz5] <|
.ret [] ((⟨0, []⟩ : TApiTreasury), rv4.1)) (
.reg 10 [] [] [] <|
.guard [rv4.2.length = ((rv3.2.getD ((rv2).toNat) default).Asked).length] <|
.cst (A := rv4.2.length = ((rv3.2.getD ((rv2).toNat) default).Asked).length) (.ev 0) [(8, (vp 3)), (9, (vi 0))] [(8, (vp 3)), (9, (vi 0))] [(Ob.box (vi p0)), (Ob.box (vi p1)), (Ob.box (AV.agg [(vi rv3.1), (AV.ref 6 rv3.2.length 0 rv3.2.length)])), (Ob.box (AV.agg [(vi rv3.1), (AV.ref 6 rv3.2.length 0 rv3.2.length)])), Ob.dead, Ob.dead, (opS 7 TApiPot.e ((rv2).toNat) (AV.agg [(AV.d (DV.str ((rv3.2.getD ((rv2).toNat) default).Code))), (vi ((rv3.2.getD ((rv2).toNat) default).Year)), (vi ((rv3.2.getD ((rv2).toNat) default).Total)), (AV.ref 7 (((rv3.2.getD ((rv2).toNat) default).Granted).length) 0 (((rv3.2.getD ((rv2).toNat) default).Granted).length)), (AV.ref 8 (((rv3.2.getD ((rv2).toNat) default).Heard).length) 0 (((rv3.2.getD ((rv2).toNat) default).Heard).length)), (AV.ref 9 (((rv3.2.getD ((rv2).toNat) default).Asked).length) 0 (((rv3.2.getD ((rv2).toNat) default).Asked).length)), (AV.ref 10 (((rv3.2.getD ((rv2).toNat) default).Used).length) 0 (((rv3.2.getD ((rv2).toNat) default).Used).length))]) rv3.2), (eS 1 (DV.i .i64) ((rv3.2.getD ((rv2).toNat) default).Granted)), (eS 1 (DV.i .i64) ((rv3.2.getD ((rv2).toNat) default).Heard)), (eS 1 (DV.i .i64) rv4.2), (eS 1 (DV.i .i64) ((rv3.2.getD ((rv2).toNat) default).Used))] [(Ob.box (vi p0)), (Ob.box (vi p1)), (Ob.box (AV.agg [(vi rv3.1), (AV.ref 6 rv3.2.length 0 rv3.2.length)])), (Ob.box (AV.agg [(vi rv3.1), (AV.ref 6 rv3.2.length 0 rv3.2.length)])), Ob.dead, Ob.dead, (opS 7 TApiPot.e ((rv2).toNat) (AV.agg [(AV.d (DV.str ((rv3.2.getD ((rv2).toNat) default).Code))), (vi ((rv3.2.getD ((rv2).toNat) default).Year)), (vi ((rv3.2.getD ((rv2).toNat) default).Total)), (AV.ref 7 (((rv3.2.getD ((rv2).toNat) default).Granted).length) 0 (((rv3.2.getD ((rv2).toNat) default).Granted).length)), (AV.ref 8 (((rv3.2.getD ((rv2).toNat) default).Heard).length) 0 (((rv3.2.getD ((rv2).toNat) default).Heard).length)), (AV.ref 9 rv4.2.length 0 rv4.2.length), (AV.ref 10 (((rv3.2.getD ((rv2).toNat) default).Used).length) 0 (((rv3.2.getD ((rv2).toNat) default).Used).length))]) rv3.2), (eS 1 (DV.i .i64) ((rv3.2.getD ((rv2).toNat) default).Granted)), (eS 1 (DV.i .i64) ((rv3.2.getD ((rv2).toNat) default).Heard)), (eS 1 (DV.i .i64) rv4.2), (eS 1 (DV.i .i64) ((rv3.2.getD ((rv2).toNat) default).Used))] (fun h => ⟨rfl, by rw [h]⟩) <|
.guard [((rv3.2.getD ((rv2).toNat) default).Granted).length < 2 ^ 63 ∧ ((rv3.2.getD ((rv2).toNat) default).Heard).length < 2 ^ 63 ∧ rv4.2.length < 2 ^ 63 ∧ ((rv3.2.getD ((rv2).toNat) default).Used).length < 2 ^ 63] <|
.sh (A := ((rv3.2.getD ((rv2).toNat) default).Granted).length < 2 ^ 63 ∧ ((rv3.2.getD ((rv2).toNat) default).Heard).length < 2 ^ 63 ∧ rv4.2.length < 2 ^ 63 ∧ ((rv3.2.getD ((rv2).toNat) default).Used).length < 2 ^ 63) (.ev 0) [(8, (vp 3)), (9, (vi 0))] [(8, (vp 3)), (9, (vi 0))] [(Ob.box (vi p0)), (Ob.box (vi p1)), (Ob.box (AV.agg [(vi rv3.1), (AV.ref 6 rv3.2.length 0 rv3.2.length)])), (Ob.box (AV.agg [(vi rv3.1), (AV.ref 6 rv3.2.length 0 rv3.2.length)])), Ob.dead, Ob.dead, (opS 7 TApiPot.e ((rv2).toNat) (AV.agg [(AV.d (DV.str ((rv3.2.getD ((rv2).toNat) default).Code))), (vi ((rv3.2.getD ((rv2).toNat) default).Year)), (vi ((rv3.2.getD ((rv2).toNat) default).Total)), (AV.ref 7 (((rv3.2.getD ((rv2).toNat) default).Granted).length) 0 (((rv3.2.getD ((rv2).toNat) default).Granted).length)), (AV.ref 8 (((rv3.2.getD ((rv2).toNat) default).Heard).length) 0 (((rv3.2.getD ((rv2).toNat) default).Heard).length)), (AV.ref 9 rv4.2.length 0 rv4.2.length), (AV.ref 10 (((rv3.2.getD ((rv2).toNat) default).Used).length) 0 (((rv3.2.getD ((rv2).toNat) default).Used).length))]) rv3.2), (eS 1 (DV.i .i64) ((rv3.2.getD ((rv2).toNat) default).Granted)), (eS 1 (DV.i .i64) ((rv3.2.getD ((rv2).toNat) default).Heard)), (eS 1 (DV.i .i64) rv4.2), (eS 1 (DV.i .i64) ((rv3.2.getD ((rv2).toNat) default).Used))] [(Ob.box (vi p0)), (Ob.box (vi p1)), (Ob.box (AV.agg [(vi rv3.1), (AV.ref 6 rv3.2.length 0 rv3.2.length)])), (Ob.box (AV.agg [(vi rv3.1), (AV.ref 6 rv3.2.length 0 rv3.2.length)])), Ob.dead, Ob.dead, (eS 7 TApiPot.e (rv3.2.set ((rv2).toNat) (⟨(rv3.2.getD ((rv2).toNat) default).Code, (rv3.2.getD ((rv2).toNat) default).Year, (rv3.2.getD ((rv2).toNat) default).Total, (rv3.2.getD ((rv2).toNat) default).Granted, (rv3.2.getD ((rv2).toNat) default).Heard, rv4.2, (rv3.2.getD ((rv2).toNat) default).Used⟩ : TApiPot))), Ob.dead, Ob.dead, Ob.dead, Ob.dead] (fun h => shift_close oTApiPot (P := [(Ob.box (vi p0)), (Ob.box (vi p1)), (Ob.box (AV.agg [(vi rv3.1), (AV.ref 6 rv3.2.length 0 rv3.2.length)])), (Ob.box (AV.agg [(vi rv3.1), (AV.ref 6 rv3.2.length 0 rv3.2.length)])), Ob.dead, Ob.dead]) (D := []) rfl (⟨(rv3.2.getD ((rv2).toNat) default).Code, (rv3.2.getD ((rv2).toNat) default).Year, (rv3.2.getD ((rv2).toNat) default).Total, [], [], [], []⟩ : TApiPot) (⟨(rv3.2.getD ((rv2).toNat) default).Code, (rv3.2.getD ((rv2).toNat) default).Year, (rv3.2.getD ((rv2).toNat) default).Total, (rv3.2.getD ((rv2).toNat) default).Granted, (rv3.2.getD ((rv2).toNat) default).Heard, rv4.2, (rv3.2.getD ((rv2).toNat) default).Used⟩ : TApiPot) h rfl) (trF_refl _) <|
.cst (A := True) (.pf trivial) [(8, (vp 3)), (9, (vi 0))] [(8, (vp 3)), (9, (vi 0))] [(Ob.box (vi p0)), (Ob.box (vi p1)), (Ob.box (AV.agg [(vi rv3.1), (AV.ref 6 rv3.2.length 0 rv3.2.length)])), (Ob.box (AV.agg [(vi rv3.1), (AV.ref 6 rv3.2.length 0 rv3.2.length)])), Ob.dead, Ob.dead, (eS 7 TApiPot.e (rv3.2.set ((rv2).toNat) (⟨(rv3.2.getD ((rv2).toNat) default).Code, (rv3.2.getD ((rv2).toNat) default).Year, (rv3.2.getD ((rv2).toNat) default).Total, (rv3.2.getD ((rv2).toNat) default).Granted, (rv3.2.getD ((rv2).toNat) default).Heard, rv4.2, (rv3.2.getD ((rv2).toNat) default).Used⟩ : TApiPot))), Ob.dead, Ob.dead, Ob.dead, Ob.dead] [(Ob.box (vi p0)), (Ob.box (vi p1)), (Ob.box (AV.agg [(vi rv3.1), (AV.ref 6 ((rv3.2.set ((rv2).toNat) (⟨(rv3.2.getD ((rv2).toNat) default).Code, (rv3.2.getD ((rv2).toNat) default).Year, (rv3.2.getD ((rv2).toNat) default).Total, (rv3.2.getD ((rv2).toNat) default).Granted, (rv3.2.getD ((rv2).toNat) default).Heard, rv4.2, (rv3.2.getD ((rv2).toNat) default).Used⟩ : TApiPot)).length) 0 ((rv3.2.set ((rv2).toNat) (⟨(rv3.2.getD ((rv2).toNat) default).Code, (rv3.2.getD ((rv2).toNat) default).Year, (rv3.2.getD ((rv2).toNat) default).Total, (rv3.2.getD ((rv2).toNat) default).Granted, (rv3.2.getD ((rv2).toNat) default).Heard, rv4.2, (rv3.2.getD ((rv2).toNat) default).Used⟩ : TApiPot)).length))])), (Ob.box (AV.agg [(vi rv3.1), (AV.ref 6 ((rv3.2.set ((rv2).toNat) (⟨(rv3.2.getD ((rv2).toNat) default).Code, (rv3.2.getD ((rv2).toNat) default).Year, (rv3.2.getD ((rv2).toNat) default).Total, (rv3.2.getD ((rv2).toNat) default).Granted, (rv3.2.getD ((rv2).toNat) default).Heard, rv4.2, (rv3.2.getD ((rv2).toNat) default).Used⟩ : TApiPot)).length) 0 ((rv3.2.set ((rv2).toNat) (⟨(rv3.2.getD ((rv2).toNat) default).Code, (rv3.2.getD ((rv2).toNat) default).Year, (rv3.2.getD ((rv2).toNat) default).Total, (rv3.2.getD ((rv2).toNat) default).Granted, (rv3.2.getD ((rv2).toNat) default).Heard, rv4.2, (rv3.2.getD ((rv2).toNat) default).Used⟩ : TApiPot)).length))])), Ob.dead, Ob.dead, (eS 7 TApiPot.e (rv3.2.set ((rv2).toNat) (⟨(rv3.2.getD ((rv2).toNat) default).Code, (rv3.2.getD ((rv2).toNat) default).Year, (rv3.2.getD ((rv2).toNat) default).Total, (rv3.2.getD ((rv2).toNat) default).Granted, (rv3.2.getD ((rv2).toNat) default).Heard, rv4.2, (rv3.2.getD ((rv2).toNat) default).Used⟩ : TApiPot))), Ob.dead, Ob.dead, Ob.dead, Ob.dead] (fun _ => ⟨by simp only, by simp only [List.length_set]⟩) <|
.guard [(rv3.2.set ((rv2).toNat) (⟨(rv3.2.getD ((rv2).toNat) default).Code, (rv3.2.getD ((rv2).toNat) default).Year, (rv3.2.getD ((rv2).toNat) default).Total, (rv3.2.getD ((rv2).toNat) default).Granted, (rv3.2.getD ((rv2).toNat) default).Heard, rv4.2, (rv3.2.getD ((rv2).toNat) default).Used⟩ : TApiPot)).length < 2 ^ 63] <|
.frz 6 (.ev 0) none [] [2, 3] <|
.ret [] ((⟨rv3.1, (rv3.2.set ((rv2).toNat) (⟨(rv3.2.getD ((rv2).toNat) default).Code, (rv3.2.getD ((rv2).toNat) default).Year, (rv3.2.getD ((rv2).toNat) default).Total, (rv3.2.getD ((rv2).toNat) default).Granted, (rv3.2.getD ((rv2).toNat) default).Heard, rv4.2, (rv3.2.getD ((rv2).toNat) default).Used⟩ : TApiPot))⟩ : TApiTreasury), 0))))
def F_rights_change_rights_Ask_1 (a0 : TApiTreasury) (a1 : List UInt8) (a2 : Int) (p0 : Int) (p1 : Int) : Option R_rights_change_rights_Ask_1 := (S_rights_change_rights_Ask_1 a0 a1 a2 p0 p1).den
set_option maxRecDepth 100000 in
theorem F_rights_change_rights_Ask_1_ok {a0 : TApiTreasury} {a1 : List UInt8} {a2 : Int} {p0 : Int} {p1 : Int} (r : R_rights_change_rights_Ask_1) (h : F_rights_change_rights_Ask_1 a0 a1 a2 p0 p1 = some r) : CallOk Tryz.prog 69 [(AV.d (TApiTreasury.e a0)), (AV.d (DV.str a1)), (vi a2), (AV.fn 73 [(vp 0), (vp 1)])] [(Ob.box (vi p0)), (Ob.box (vi p1))] (V_rights_change_rights_Ask_1 r) (L_rights_change_rights_Ask_1 p0 p1 r) := fOk (s := S_rights_change_rights_Ask_1 a0 a1 a2 p0 p1) Tryz.func69 rfl (by kernel_rfl) h
/-! 32 -/
abbrev R_rights_Ask := TApiTreasury × Int
def V_rights_Ask (x : R_rights_Ask) : AV := (AV.tup [(AV.d (TApiTreasury.e x.1)), (vi x.2)])
def L_rights_Ask (_ : R_rights_Ask) : List Ob := []
def S_rights_Ask (a0 : TApiTreasury) (a1 : Int) (a2 : List UInt8) (a3 : Int) (a4 : Int) : Scr Tryz.prog R_rights_Ask R_rights_Ask :=
.reg 0 [] [(3, { obs := [(3, (bx (TApiTreasury.e (⟨0, []⟩ : TApiTreasury))))] })] [.pf cz4] <|
.call (@F_rights_change_rights_Ask_1_ok a0 a2 a3 a1 a4) fun rv1 cv1 =>
.reg 1 [] [(4, hc cv1 [1, 2] true)] [.cl 0 cv1 [1, 2] 4 true] <|
.ret [] (rv1.1, rv1.2)
def F_rights_Ask (a0 : TApiTreasury) (a1 : Int) (a2 : List UInt8) (a3 : Int) (a4 : Int) : Option R_rights_Ask := (S_rights_Ask a0 a1 a2 a3 a4).den
set_option maxRecDepth 100000 in
theorem F_rights_Ask_ok {a0 : TApiTreasury} {a1 : Int} {a2 : List UInt8} {a3 : Int} {a4 : Int} (r : R_rights_Ask) (h : F_rights_Ask a0 a1 a2 a3 a4 = some r) : CallOk Tryz.prog 32 [(AV.d (TApiTreasury.e a0)), (vi a1), (AV.d (DV.str a2)), (vi a3), (vi a4)] [] (V_rights_Ask r) (L_rights_Ask r) := fOk (s := S_rights_Ask a0 a1 a2 a3 a4) Tryz.func32 rfl (by kernel_rfl) h
/-! 34 -/
abbrev R_rights_Tell := TApiMessage × Int
def V_rights_Tell (x : R_rights_Tell) : AV := (AV.tup [(AV.d (TApiMessage.e x.1)), (vi x.2)])
def L_rights_Tell (_ : R_rights_Tell) : List Ob := []
def S_rights_Tell (a0 : TApiTreasury) (a1 : Int) (a2 : List UInt8) (a3 : Int) : Scr Tryz.prog R_rights_Tell R_rights_Tell :=
.call (@F_rights_Valid_ok a0) fun rv1 cv1 =>
.reg 1 [] [(1, hc cv1 [] true)] [.cl 0 cv1 [] 2 true] <|
.ite (!rv1) (
.ret [] ((⟨0, 0, [], 0, 0, 0, 0, 0⟩ : TApiMessage), 1)) (
.call (@F_rights_Pot_ok a0 a2 a3) fun rv2 cv2 =>
.reg 3 [] [(3, hc cv2 [] true), (7, { obs := [(2, (bx (TApiPot.e (⟨[], 0, 0, [], [], [], []⟩ : TApiPot))))] })] [.cl 0 cv2 [] 2 true, .pf cz2] <|
.calld [(!rv2.2) = false] default (@F_rights_among_ok a1 1 a0.Offices) fun rv3 cv3 =>
.reg 4 [] [(6, hc cv3 [] true)] [.clg 0 [(!rv2.2) = false] cv3 [] 3 true] <|
.ite (bif (!rv2.2) then true else (!rv3)) (
.ret [] ((⟨0, 0, [], 0, 0, 0, 0, 0⟩ : TApiMessage), 6)) (
.guard [(0 : Int) ≤ (IntKind.i64.wrap (a1 - 1)), ((IntKind.i64.wrap (a1 - 1))).toNat < rv2.1.Granted.length, ((IntKind.i64.wrap (a1 - 1))).toNat < rv2.1.Asked.length] <|
.reg 6 [16] [] [.ev 0, .ev 1, .ev 0, .ev 2] <|
.ret [] ((⟨0, a1, a2, a3, (rv2.1.Granted.getD (((IntKind.i64.wrap (a1 - 1))).toNat) default), (rv2.1.Asked.getD (((IntKind.i64.wrap (a1 - 1))).toNat) default), 0, 0⟩ : TApiMessage), 0)))
def F_rights_Tell (a0 : TApiTreasury) (a1 : Int) (a2 : List UInt8) (a3 : Int) : Option R_rights_Tell := (S_rights_Tell a0 a1 a2 a3).den
set_option maxRecDepth 100000 in
theorem F_rights_Tell_ok {a0 : TApiTreasury} {a1 : Int} {a2 : List UInt8} {a3 : Int} (r : R_rights_Tell) (h : F_rights_Tell a0 a1 a2 a3 = some r) : CallOk Tryz.prog 34 [(AV.d (TApiTreasury.e a0)), (vi a1), (AV.d (DV.str a2)), (vi a3)] [] (V_rights_Tell r) (L_rights_Tell r) := fOk (s := S_rights_Tell a0 a1 a2 a3) Tryz.func34 rfl (by kernel_rfl) h
/-! 48 -/
abbrev R_rights_Right := Bool
def V_rights_Right (x : R_rights_Right) : AV := (vb x)
def L_rights_Right (_ : R_rights_Right) : List Ob := []
def S_rights_Right (a0 : TApiRight) : Scr Tryz.prog R_rights_Right R_rights_Right :=
.call (@F_rights_place_ok a0.Code a0.Year) fun rv1 cv1 =>
.calld [rv1 = true] default (@F_rights_total_ok a0.Granted) fun rv2 cv2 =>
.calld [(bif rv1 then rv2 else false) = true] default (@F_rights_total_ok a0.Asked) fun rv3 cv3 =>
.calld [(bif (bif rv1 then rv2 else false) then rv3 else false) = true] default (@F_rights_among_ok a0.Returned 0 a0.Granted) fun rv4 cv4 =>
.reg 1 [] [(4, hc cv1 [] true), (8, hc cv2 [] true), (13, hc cv3 [] true), (20, hc cv4 [] true)] [.cl 6 cv1 [] 1 true, .clg 4 [rv1 = true] cv2 [] 1 true, .clg 2 [(bif rv1 then rv2 else false) = true] cv3 [] 1 true, .clg 0 [(bif (bif rv1 then rv2 else false) then rv3 else false) = true] cv4 [] 1 true] <|
.ret [] (bif (bif (bif rv1 then rv2 else false) then rv3 else false) then rv4 else false)
def F_rights_Right (a0 : TApiRight) : Option R_rights_Right := (S_rights_Right a0).den
set_option maxRecDepth 100000 in
theorem F_rights_Right_ok {a0 : TApiRight} (r : R_rights_Right) (h : F_rights_Right a0 = some r) : CallOk Tryz.prog 48 [(AV.d (TApiRight.e a0))] [] (V_rights_Right r) (L_rights_Right r) := fOk (s := S_rights_Right a0) Tryz.func48 rfl (by kernel_rfl) h
/-! 42 -/
abbrev R_rights_Learn := TApiRight × Int
def V_rights_Learn (x : R_rights_Learn) : AV := (AV.tup [(AV.d (TApiRight.e x.1)), (vi x.2)])
def L_rights_Learn (_ : R_rights_Learn) : List Ob := []
def S_rights_Learn (a0 : TApiRight) (a1 : TApiMessage) : Scr Tryz.prog R_rights_Learn R_rights_Learn :=
.call (@F_rights_Right_ok a0) fun rv1 cv1 =>
.reg 1 [] [(1, hc cv1 [] true)] [.cl 0 cv1 [] 3 true] <|
.ite (bif (bif (bif (!rv1) then true else (a1.From != 0)) then true else (!(a1.Code == a0.Code))) then true else (a1.Year != a0.Year)) (
.ret [] ((⟨[], 0, 0, 0, 0⟩ : TApiRight), 1)) (
.call (@F_rights_total_ok a1.Granted) fun rv2 cv2 =>
.calld [(!rv2) = false] default (@F_rights_total_ok a1.Asked) fun rv3 cv3 =>
.reg 3 [] [(2, hc cv2 [] true), (7, hc cv3 [] true)] [.cl 2 cv2 [] 3 true, .clg 0 [(!rv2) = false] cv3 [] 3 true] <|
.ite (bif (!rv2) then true else (!rv3)) (
.ret [] ((⟨[], 0, 0, 0, 0⟩ : TApiRight), 2)) (
.reg 5 [11, 13] [] [] <|
.ret [] ((⟨a0.Code, a0.Year, (if a1.Granted > a0.Granted then a1.Granted else a0.Granted), (if a1.Asked > a0.Asked then a1.Asked else a0.Asked), a0.Returned⟩ : TApiRight), 0)))
def F_rights_Learn (a0 : TApiRight) (a1 : TApiMessage) : Option R_rights_Learn := (S_rights_Learn a0 a1).den
set_option maxRecDepth 100000 in
theorem F_rights_Learn_ok {a0 : TApiRight} {a1 : TApiMessage} (r : R_rights_Learn) (h : F_rights_Learn a0 a1 = some r) : CallOk Tryz.prog 42 [(AV.d (TApiRight.e a0)), (AV.d (TApiMessage.e a1))] [] (V_rights_Learn r) (L_rights_Learn r) := fOk (s := S_rights_Learn a0 a1) Tryz.func42 rfl (by kernel_rfl) h
/-! 46 -/
abbrev R_rights_Wanted := Int
def V_rights_Wanted (x : R_rights_Wanted) : AV := (vi x)
def L_rights_Wanted (_ : R_rights_Wanted) : List Ob := []
def S_rights_Wanted (a0 : TApiRight) (a1 : Int) : Scr Tryz.prog R_rights_Wanted R_rights_Wanted :=
.call (@F_rights_Right_ok a0) fun rv1 cv1 =>
.calld [(!rv1) = false] default (@F_rights_among_ok a1 0 (IntKind.i64.wrap (a0.Granted - a0.Returned))) fun rv2 cv2 =>
.reg 1 [] [(1, hc cv1 [] true), (10, hc cv2 [] true)] [.cl 2 cv1 [] 1 true, .clg 0 [(!rv1) = false] cv2 [] 1 true] <|
.ite (bif (!rv1) then true else (!rv2)) (
.ret [] 0) (
.ret [] (if 0 > (IntKind.i64.wrap ((if (IntKind.i64.wrap (a0.Granted - a1)) < a0.Asked then (IntKind.i64.wrap (a0.Granted - a1)) else a0.Asked) - a0.Returned)) then 0 else (IntKind.i64.wrap ((if (IntKind.i64.wrap (a0.Granted - a1)) < a0.Asked then (IntKind.i64.wrap (a0.Granted - a1)) else a0.Asked) - a0.Returned))))
def F_rights_Wanted (a0 : TApiRight) (a1 : Int) : Option R_rights_Wanted := (S_rights_Wanted a0 a1).den
set_option maxRecDepth 100000 in
theorem F_rights_Wanted_ok {a0 : TApiRight} {a1 : Int} (r : R_rights_Wanted) (h : F_rights_Wanted a0 a1 = some r) : CallOk Tryz.prog 46 [(AV.d (TApiRight.e a0)), (vi a1)] [] (V_rights_Wanted r) (L_rights_Wanted r) := fOk (s := S_rights_Wanted a0 a1) Tryz.func46 rfl (by kernel_rfl) h
end
end Go.Proofs.YtkabfdfkegjfdaaGreatDoor
