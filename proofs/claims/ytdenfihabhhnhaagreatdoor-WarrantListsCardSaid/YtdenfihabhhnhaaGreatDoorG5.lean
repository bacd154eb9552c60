/- A part of the proof: what the functions compute, and that their calls return it. No condition. -/
import Derived.Test.YtdenfihabhhnhaaGreatDoorG4
/- What the functions compute, and that their calls return it. No condition. -/
namespace Go.Proofs.YtdenfihabhhnhaaGreatDoor
open Go Go.TA
noncomputable section
/-! 34 -/
abbrev R_warrant_Sign := TApiWarrant × Int
def V_warrant_Sign (x : R_warrant_Sign) : AV := (AV.tup [(AV.d (TApiWarrant.e x.1)), (vi x.2)])
def L_warrant_Sign (_ : R_warrant_Sign) : List Ob := []
def S_warrant_Sign (a0 : (List Int)) (a1 : TApiWarrant) (a2 : Bool) : Scr Tryz.prog R_warrant_Sign R_warrant_Sign :=
.call (@F_warrant_Plain_ok a1) fun rv1 cv1 =>
.reg 1 [] [(1, hc cv1 [] true)] [.cl 0 cv1 [] 2 true] <|
.ite (!rv1) (
.ret [] ((⟨0, 0, [], 0, 0, 0, 0, 0, 0, 0, 0, 0, 0, 0⟩ : TApiWarrant), 1)) (
.ite (bif (!a2) then (decide ((IntKind.i64.wrap (2 * (IntKind.i64.wrap (a1.Office - 1)))) < (a0.length : Int))) else false) (
.call (@F_warrant_signature_ok (a0.getD (((IntKind.i64.wrap (2 * (IntKind.i64.wrap (a1.Office - 1))))).toNat) default) a1) fun rv2 cv2 =>
.guard [(0 : Int) ≤ (IntKind.i64.wrap (2 * (IntKind.i64.wrap (a1.Office - 1)))), ((IntKind.i64.wrap (2 * (IntKind.i64.wrap (a1.Office - 1))))).toNat < a0.length] <|
.reg 5 [7] [(5, hc cv2 [] true)] [.ev 0, .ev 1, .cl 2 cv2 [] 2 true] <|
.ret [] ((⟨a1.Number, a1.Office, a1.Code, a1.Year, a1.Verification, a1.Attempt, a1.Commitment, a1.Reservation, a1.Amount, a1.Payee, a1.Day, a1.Due, rv2, a1.Second⟩ : TApiWarrant), 0)) (
.ite (decide ((IntKind.i64.wrap ((IntKind.i64.wrap (2 * (IntKind.i64.wrap (a1.Office - 1)))) + 1)) ≥ (a0.length : Int))) (
.ret [] ((⟨0, 0, [], 0, 0, 0, 0, 0, 0, 0, 0, 0, 0, 0⟩ : TApiWarrant), 6)) (
.call (@F_warrant_signature_ok (a0.getD (((IntKind.i64.wrap (2 * (IntKind.i64.wrap (a1.Office - 1))))).toNat) default) a1) fun rv3 cv3 =>
.guard [(0 : Int) ≤ (IntKind.i64.wrap (2 * (IntKind.i64.wrap (a1.Office - 1)))), ((IntKind.i64.wrap (2 * (IntKind.i64.wrap (a1.Office - 1))))).toNat < a0.length] <|
.reg 9 [] [(7, hc cv3 [] true)] [.ev 0, .ev 1, .cl 2 cv3 [] 2 true] <|
.ite (a1.First != rv3) (
.ret [] ((⟨0, 0, [], 0, 0, 0, 0, 0, 0, 0, 0, 0, 0, 0⟩ : TApiWarrant), 18)) (
.call (@F_warrant_signature_ok (a0.getD (((IntKind.i64.wrap ((IntKind.i64.wrap (2 * (IntKind.i64.wrap (a1.Office - 1)))) + 1))).toNat) default) a1) fun rv4 cv4 =>
.guard [(0 : Int) ≤ (IntKind.i64.wrap ((IntKind.i64.wrap (2 * (IntKind.i64.wrap (a1.Office - 1)))) + 1)), ((IntKind.i64.wrap ((IntKind.i64.wrap (2 * (IntKind.i64.wrap (a1.Office - 1)))) + 1))).toNat < a0.length] <|
.reg 11 [8] [(6, hc cv4 [] true)] [.ev 0, .ev 1, .cl 2 cv4 [] 2 true] <|
.ret [] ((⟨a1.Number, a1.Office, a1.Code, a1.Year, a1.Verification, a1.Attempt, a1.Commitment, a1.Reservation, a1.Amount, a1.Payee, a1.Day, a1.Due, a1.First, rv4⟩ : TApiWarrant), 0)))))
def F_warrant_Sign (a0 : (List Int)) (a1 : TApiWarrant) (a2 : Bool) : Option R_warrant_Sign := (S_warrant_Sign a0 a1 a2).den
set_option maxRecDepth 100000 in
theorem F_warrant_Sign_ok {a0 : (List Int)} {a1 : TApiWarrant} {a2 : Bool} (r : R_warrant_Sign) (h : F_warrant_Sign a0 a1 a2 = some r) : CallOk Tryz.prog 34 [(AV.d (eL (DV.i .u64) a0)), (AV.d (TApiWarrant.e a1)), (vb a2)] [] (V_warrant_Sign r) (L_warrant_Sign r) := fOk (s := S_warrant_Sign a0 a1 a2) Tryz.func34 rfl (by kernel_rfl) h
/-! 35 -/
abbrev R_warrant_Check := Int
def V_warrant_Check (x : R_warrant_Check) : AV := (vi x)
def L_warrant_Check (_ : R_warrant_Check) : List Ob := []
def S_warrant_Check (a0 : (List Int)) (a1 : TApiWarrant) : Scr Tryz.prog R_warrant_Check R_warrant_Check :=
.call (@F_warrant_Sign_ok a0 a1 true) fun rv1 cv1 =>
.reg 1 [] [(2, hc cv1 [] true)] [.cl 0 cv1 [] 1 true] <|
.ite (bif (rv1.2 == 0) then (rv1.1.Second != a1.Second) else false) (
.ret [] 18) (
.ret [] rv1.2)
def F_warrant_Check (a0 : (List Int)) (a1 : TApiWarrant) : Option R_warrant_Check := (S_warrant_Check a0 a1).den
set_option maxRecDepth 100000 in
theorem F_warrant_Check_ok {a0 : (List Int)} {a1 : TApiWarrant} (r : R_warrant_Check) (h : F_warrant_Check a0 a1 = some r) : CallOk Tryz.prog 35 [(AV.d (eL (DV.i .u64) a0)), (AV.d (TApiWarrant.e a1))] [] (V_warrant_Check r) (L_warrant_Check r) := fOk (s := S_warrant_Check a0 a1) Tryz.func35 rfl (by kernel_rfl) h
/-! 11 -/
abbrev R_w19_awake := Bool
def V_w19_awake (x : R_w19_awake) : AV := (vb x)
def L_w19_awake (_ : R_w19_awake) : List Ob := []
def S_w19_awake : Scr Tryz.prog R_w19_awake R_w19_awake :=
.reg 1 [] [(1, hv (AV.d (eL TApiRight.e ([(⟨[49], 12, 50, 0, 0⟩ : TApiRight)] : List TApiRight)))), (3, hv (AV.d (eL TApiReservation.e ([(⟨1, [49], 12, 4320, 50, 0⟩ : TApiReservation)] : List TApiReservation)))), (5, hv (AV.d (eL TApiCommitment.e ([(⟨1, 1, 4320, 30, 0, 2, 4400⟩ : TApiCommitment)] : List TApiCommitment)))), (7, hv (AV.d (eL TApiVerification.e ([(⟨1, 1, 4330, 30⟩ : TApiVerification)] : List TApiVerification)))), (9, hv (AV.d (eL TApiOrder.e ([(⟨1, 1, 1, 4340, false⟩ : TApiOrder)] : List TApiOrder)))), (12, { obs := [(0, (bx (TApiOffice.e (⟨0, [], (⟨[], [], [], []⟩ : TApiBook)⟩ : TApiOffice))))] })] [.pf (leV_lit TApiRight.e ([(⟨[49], 12, 50, 0, 0⟩ : TApiRight)] : List TApiRight)), .pf (leV_lit TApiReservation.e ([(⟨1, [49], 12, 4320, 50, 0⟩ : TApiReservation)] : List TApiReservation)), .pf (leV_lit TApiCommitment.e ([(⟨1, 1, 4320, 30, 0, 2, 4400⟩ : TApiCommitment)] : List TApiCommitment)), .pf (leV_lit TApiVerification.e ([(⟨1, 1, 4330, 30⟩ : TApiVerification)] : List TApiVerification)), .pf (leV_lit TApiOrder.e ([(⟨1, 1, 1, 4340, false⟩ : TApiOrder)] : List TApiOrder)), .pf cz1] <|
.call (@F_warrant_Make_ok (⟨1, ([(⟨[49], 12, 50, 0, 0⟩ : TApiRight)] : List TApiRight), (⟨([(⟨1, [49], 12, 4320, 50, 0⟩ : TApiReservation)] : List TApiReservation), ([(⟨1, 1, 4320, 30, 0, 2, 4400⟩ : TApiCommitment)] : List TApiCommitment), ([(⟨1, 1, 4330, 30⟩ : TApiVerification)] : List TApiVerification), ([(⟨1, 1, 1, 4340, false⟩ : TApiOrder)] : List TApiOrder)⟩ : TApiBook)⟩ : TApiOffice) 1 7) fun rv1 cv1 =>
.reg 2 [] [(1, hc cv1 [] true)] [.cl 0 cv1 [] 1 true] <|
.call (@F_warrant_Sign_ok ([3, 4] : List Int) rv1.1 false) fun rv2 cv2 =>
.reg 3 [] [(0, hv (AV.d (eL (DV.i .u64) ([3, 4] : List Int)))), (2, hc cv2 [] true)] [.pf (leV_lit (DV.i .u64) ([3, 4] : List Int)), .cl 0 cv2 [] 2 true] <|
.call (@F_warrant_Sign_ok ([3, 4] : List Int) rv2.1 true) fun rv3 cv3 =>
.reg 4 [] [(0, hv (AV.d (eL (DV.i .u64) ([3, 4] : List Int)))), (2, hc cv3 [] true)] [.pf (leV_lit (DV.i .u64) ([3, 4] : List Int)), .cl 0 cv3 [] 2 true] <|
.calld [(bif (bif (rv1.2 == 0) then (rv2.2 == 0) else false) then (rv3.2 == 0) else false) = true] default (@F_warrant_Check_ok ([3, 4] : List Int) rv3.1) fun rv4 cv4 =>
.calld [(bif (bif (bif (rv1.2 == 0) then (rv2.2 == 0) else false) then (rv3.2 == 0) else false) then (rv4 == 0) else false) = true] default (@F_warrant_Bytes_ok rv3.1) fun rv5 cv5 =>
.calld [(bif (bif (bif (bif (rv1.2 == 0) then (rv2.2 == 0) else false) then (rv3.2 == 0) else false) then (rv4 == 0) else false) then (rv5 == ([119, 97, 114, 114, 97, 110, 116, 32, 55, 32, 49, 32, 49, 32, 49, 50, 32, 49, 32, 49, 32, 49, 32, 49, 32, 51, 48, 32, 50, 32, 52, 51, 52, 48, 32, 52, 52, 48, 48])) else false) = true] default (@F_warrant_Hash_ok ([])) fun rv6 cv6 =>
.calld [(bif (bif (bif (bif (bif (rv1.2 == 0) then (rv2.2 == 0) else false) then (rv3.2 == 0) else false) then (rv4 == 0) else false) then (rv5 == ([119, 97, 114, 114, 97, 110, 116, 32, 55, 32, 49, 32, 49, 32, 49, 50, 32, 49, 32, 49, 32, 49, 32, 49, 32, 51, 48, 32, 50, 32, 52, 51, 52, 48, 32, 52, 52, 48, 48])) else false) then (rv6 == 14695981039346656037) else false) = true] default (@F_warrant_Hash_ok ([97])) fun rv7 cv7 =>
.reg 5 [] [(11, hv (AV.d (eL (DV.i .u64) ([3, 4] : List Int)))), (13, hc cv4 [] true), (18, hc cv5 [] true), (22, hc cv6 [] true), (26, hc cv7 [] true)] [.pf (p := AllP [(bif (bif (rv1.2 == 0) then (rv2.2 == 0) else false) then (rv3.2 == 0) else false) = true] → (LeV (AV.d (DV.sl 2 (listF (DV.b false) [(DV.i .u64 3), (DV.i .u64 4)]))) (AV.d (eL (DV.i .u64) ([3, 4] : List Int))))) (fun _hg => leV_lit (DV.i .u64) ([3, 4] : List Int)), .clg 6 [(bif (bif (rv1.2 == 0) then (rv2.2 == 0) else false) then (rv3.2 == 0) else false) = true] cv4 [] 2 true, .clg 4 [(bif (bif (bif (rv1.2 == 0) then (rv2.2 == 0) else false) then (rv3.2 == 0) else false) then (rv4 == 0) else false) = true] cv5 [] 2 true, .clg 2 [(bif (bif (bif (bif (rv1.2 == 0) then (rv2.2 == 0) else false) then (rv3.2 == 0) else false) then (rv4 == 0) else false) then (rv5 == ([119, 97, 114, 114, 97, 110, 116, 32, 55, 32, 49, 32, 49, 32, 49, 50, 32, 49, 32, 49, 32, 49, 32, 49, 32, 51, 48, 32, 50, 32, 52, 51, 52, 48, 32, 52, 52, 48, 48])) else false) = true] cv6 [] 2 true, .clg 0 [(bif (bif (bif (bif (bif (rv1.2 == 0) then (rv2.2 == 0) else false) then (rv3.2 == 0) else false) then (rv4 == 0) else false) then (rv5 == ([119, 97, 114, 114, 97, 110, 116, 32, 55, 32, 49, 32, 49, 32, 49, 50, 32, 49, 32, 49, 32, 49, 32, 49, 32, 51, 48, 32, 50, 32, 52, 51, 52, 48, 32, 52, 52, 48, 48])) else false) then (rv6 == 14695981039346656037) else false) = true] cv7 [] 2 true] <|
.ret [] (bif (bif (bif (bif (bif (bif (rv1.2 == 0) then (rv2.2 == 0) else false) then (rv3.2 == 0) else false) then (rv4 == 0) else false) then (rv5 == ([119, 97, 114, 114, 97, 110, 116, 32, 55, 32, 49, 32, 49, 32, 49, 50, 32, 49, 32, 49, 32, 49, 32, 49, 32, 51, 48, 32, 50, 32, 52, 51, 52, 48, 32, 52, 52, 48, 48])) else false) then (rv6 == 14695981039346656037) else false) then (rv7 == 12638187200555641996) else false)
def F_w19_awake : Option R_w19_awake := (S_w19_awake).den
set_option maxRecDepth 100000 in
theorem F_w19_awake_ok (r : R_w19_awake) (h : F_w19_awake = some r) : CallOk Tryz.prog 11 [] [] (V_w19_awake r) (L_w19_awake r) := fOk (s := S_w19_awake) Tryz.func11 rfl (by kernel_rfl) h
/-! 3 -/
/-! 12 -/
abbrev R_mk_Keys := (List Int) × TTape
def V_mk_Keys (x : R_mk_Keys) : AV := (AV.d (eL (DV.i .u64) x.1))
def L_mk_Keys (x : R_mk_Keys) : List Ob := [(bx (TTape.e x.2))]
def S_mk_Keys_b1 (a1 : Int) (sv1 : TTape × (List Int) × Int) : Scr Tryz.prog R_mk_Keys (Step (TTape × (List Int) × Int) R_mk_Keys) :=
.ite (decide (sv1.2.2 < (IntKind.i64.wrap (2 * a1)))) (
.call (@F_mk_Tape_N_ok 1000 sv1.1) fun rv2 cv2 =>
.guard [(sv1.2.1.length + 1) * (2 * 8) ≤ 2 ^ 48] <|
.reg 5 [] [(2, hc cv2 [0] false), (9, hv (AV.d (eL (DV.i .u64) ([(IntKind.u64.wrap ((IntKind.u64.wrap ((IntKind.u64.wrap rv2.1) * 2654435761)) + (IntKind.u64.wrap ((IntKind.u64.wrap sv1.2.2) * 7919))))] : List Int)))), (10, { h := .obj, cast := some (AV.ref 1 ((sv1.2.1 ++ ([(IntKind.u64.wrap ((IntKind.u64.wrap ((IntKind.u64.wrap rv2.1) * 2654435761)) + (IntKind.u64.wrap ((IntKind.u64.wrap sv1.2.2) * 7919))))] : List Int)).length) 0 ((sv1.2.1 ++ ([(IntKind.u64.wrap ((IntKind.u64.wrap ((IntKind.u64.wrap rv2.1) * 2654435761)) + (IntKind.u64.wrap ((IntKind.u64.wrap sv1.2.2) * 7919))))] : List Int)).length)), obs := [(1, (eS 1 (DV.i .u64) (sv1.2.1 ++ ([(IntKind.u64.wrap ((IntKind.u64.wrap ((IntKind.u64.wrap rv2.1) * 2654435761)) + (IntKind.u64.wrap ((IntKind.u64.wrap sv1.2.2) * 7919))))] : List Int))))] })] [.cl 1 cv2 [0] 2 false, .pf (leV_lit (DV.i .u64) ([(IntKind.u64.wrap ((IntKind.u64.wrap ((IntKind.u64.wrap rv2.1) * 2654435761)) + (IntKind.u64.wrap ((IntKind.u64.wrap sv1.2.2) * 7919))))] : List Int)), .pf (Eq.refl sv1.2.1.length), .pf (Eq.refl sv1.2.1.length), .pf (p := ∀ k, k < 1 → (AV.d ((DV.i .u64) (([(IntKind.u64.wrap ((IntKind.u64.wrap ((IntKind.u64.wrap rv2.1) * 2654435761)) + (IntKind.u64.wrap ((IntKind.u64.wrap sv1.2.2) * 7919))))] : List Int).getD k default))).wd = 1) (fun _ _ => rfl), .ev 0, .pf (leV_app (o := 1) (l := sv1.2.1) (x := ([(IntKind.u64.wrap ((IntKind.u64.wrap ((IntKind.u64.wrap rv2.1) * 2654435761)) + (IntKind.u64.wrap ((IntKind.u64.wrap sv1.2.2) * 7919))))] : List Int))), .pf (oLe_app (sz := 1) (e := (DV.i .u64)) (l := sv1.2.1) (x := ([(IntKind.u64.wrap ((IntKind.u64.wrap ((IntKind.u64.wrap rv2.1) * 2654435761)) + (IntKind.u64.wrap ((IntKind.u64.wrap sv1.2.2) * 7919))))] : List Int)))] <|
.ret [] (.cont (rv2.2, (sv1.2.1 ++ ([(IntKind.u64.wrap ((IntKind.u64.wrap ((IntKind.u64.wrap rv2.1) * 2654435761)) + (IntKind.u64.wrap ((IntKind.u64.wrap sv1.2.2) * 7919))))] : List Int)), (IntKind.i64.wrap (sv1.2.2 + 1))))) (
.ret [] (.brk (sv1.1, sv1.2.1, sv1.2.2)))
def S_mk_Keys (a1 : Int) (p0 : TTape) : Scr Tryz.prog R_mk_Keys R_mk_Keys :=
.reg 2 [] [] [] <|
.bor 1 (fun j => AV.d ((DV.i .u64) (([] : List Int).getD j default))) [5] <|
.iter [0, 1] (fun (sv1 : TTape × (List Int) × Int) => [(5, (AV.ref 1 sv1.2.1.length 0 sv1.2.1.length)), (6, (vi sv1.2.2))]) (fun (sv1 : TTape × (List Int) × Int) => [(0, (bx (TTape.e sv1.1))), (1, (eS 1 (DV.i .u64) sv1.2.1))]) (p0, ([] : List Int), 0) (S_mk_Keys_b1 a1) (fun (sv1 : TTape × (List Int) × Int) =>
.guard [sv1.2.1.length < 2 ^ 63] <|
.reg 6 [] [] [] <|
.frz 1 (.ev 0) none [4] [] <|
.ret [] (sv1.2.1, sv1.1)) id
def F_mk_Keys (a1 : Int) (p0 : TTape) : Option R_mk_Keys := (S_mk_Keys a1 p0).den
set_option maxRecDepth 100000 in
theorem F_mk_Keys_ok {a1 : Int} {p0 : TTape} (r : R_mk_Keys) (h : F_mk_Keys a1 p0 = some r) : CallOk Tryz.prog 12 [(vp 0), (vi a1)] [(bx (TTape.e p0))] (V_mk_Keys r) (L_mk_Keys r) := fOk (s := S_mk_Keys a1 p0) Tryz.func12 rfl (by kernel_rfl) h
/-! 134 -/
abbrev R_r19_Bytes := List UInt8
def V_r19_Bytes (x : R_r19_Bytes) : AV := (AV.d (DV.str x))
def L_r19_Bytes (_ : R_r19_Bytes) : List Ob := []
def S_r19_Bytes_b1 (a0 : TApiWarrant) (iv1 : Nat) (sv2 : List UInt8) : Scr Tryz.prog R_r19_Bytes (Step (List UInt8) R_r19_Bytes) :=
.reg 6 [] [] [.pf (nn iv1), .ev 0] <|
.call (@F_strconv_Itoa_ok (([a0.Year, a0.Reservation, a0.Commitment, a0.Verification, a0.Attempt, a0.Amount, a0.Payee, a0.Day, a0.Due] : List Int).getD iv1 default)) fun rv3 cv3 =>
.guard [([32]).length + rv3.length < 2 ^ 63, sv2.length + (([32]) ++ rv3).length < 2 ^ 63] <|
.reg 7 [] [(2, hc cv3 [] true)] [.cl 2 cv3 [] 1 true, .ev 0, .ev 1] <|
.ret [] (.cont (sv2 ++ (([32]) ++ rv3)))
def S_r19_Bytes (a0 : TApiWarrant) : Scr Tryz.prog R_r19_Bytes R_r19_Bytes :=
.call (@F_r19_Plain_ok a0) fun rv4 cv4 =>
.reg 1 [] [(1, hc cv4 [] true)] [.cl 0 cv4 [] 1 true] <|
.ite (!rv4) (
.ret [] ([])) (
.call (@F_strconv_Itoa_ok a0.Number) fun rv5 cv5 =>
.call (@F_strconv_Itoa_ok a0.Office) fun rv6 cv6 =>
.guard [([119, 97, 114, 114, 97, 110, 116, 32]).length + rv5.length < 2 ^ 63, (([119, 97, 114, 114, 97, 110, 116, 32]) ++ rv5).length + ([32]).length < 2 ^ 63, ((([119, 97, 114, 114, 97, 110, 116, 32]) ++ rv5) ++ ([32])).length + rv6.length < 2 ^ 63, (((([119, 97, 114, 114, 97, 110, 116, 32]) ++ rv5) ++ ([32])) ++ rv6).length + ([32]).length < 2 ^ 63, ((((([119, 97, 114, 114, 97, 110, 116, 32]) ++ rv5) ++ ([32])) ++ rv6) ++ ([32])).length + a0.Code.length < 2 ^ 63] <|
.reg 3 [] [(2, hc cv5 [] true), (7, hc cv6 [] true)] [.cl 6 cv5 [] 1 true, .ev 0, .ev 1, .cl 5 cv6 [] 1 true, .ev 2, .ev 3, .ev 4] <|
.reg 4 [] [(18, hv (vl ([a0.Year, a0.Reservation, a0.Commitment, a0.Verification, a0.Attempt, a0.Amount, a0.Payee, a0.Day, a0.Due] : List Int)))] [.pf (leV_lit (DV.i .i64) ([a0.Year, a0.Reservation, a0.Commitment, a0.Verification, a0.Attempt, a0.Amount, a0.Payee, a0.Day, a0.Due] : List Int))] <|
.range 9 9 rfl (.why (.pf (p := 9 < 2 ^ 63) (by decide))) 42 [40, 41] (fun (sv2 : List UInt8) => [(3, (AV.d (DV.str sv2)))]) (fun (_ : List UInt8) => []) (((((([119, 97, 114, 114, 97, 110, 116, 32]) ++ rv5) ++ ([32])) ++ rv6) ++ ([32])) ++ a0.Code) (S_r19_Bytes_b1 a0) (fun (sv2 : List UInt8) => 
.ret [] sv2) id)
def F_r19_Bytes (a0 : TApiWarrant) : Option R_r19_Bytes := (S_r19_Bytes a0).den
set_option maxRecDepth 100000 in
theorem F_r19_Bytes_ok {a0 : TApiWarrant} (r : R_r19_Bytes) (h : F_r19_Bytes a0 = some r) : CallOk Tryz.prog 134 [(AV.d (TApiWarrant.e a0))] [] (V_r19_Bytes r) (L_r19_Bytes r) := fOk (s := S_r19_Bytes a0) Tryz.func134 rfl (by kernel_rfl) h
/-! 133 -/
abbrev R_r19_Hash := Int
def V_r19_Hash (x : R_r19_Hash) : AV := (AV.d (DV.i .u64 x))
def L_r19_Hash (_ : R_r19_Hash) : List Ob := []
def S_r19_Hash_b1 (a0 : List UInt8) (sv1 : Int × Int) : Scr Tryz.prog R_r19_Hash (Step (Int × Int) R_r19_Hash) :=
.ite (decide (sv1.2 < (a0.length : Int))) (
.guard [(0 : Int) ≤ sv1.2, (sv1.2).toNat < a0.length] <|
.reg 5 [] [] [.ev 0, .ev 1] <|
.ret [] (.cont ((IntKind.u64.wrap ((IntKind.u64.wrap ((BitVec.ofInt IntKind.u64.bits sv1.1 ^^^ BitVec.ofInt IntKind.u64.bits (IntKind.u64.wrap ((a0.getD ((sv1.2).toNat) 0).toNat : Int))).toNat : Int)) * 1099511628211)), (IntKind.i64.wrap (sv1.2 + 1))))) (
.ret [] (.brk (sv1.1, sv1.2)))
def S_r19_Hash (a0 : List UInt8) : Scr Tryz.prog R_r19_Hash R_r19_Hash :=
.iter [0] (fun (sv1 : Int × Int) => [(3, (AV.d (DV.i .u64 sv1.1))), (4, (vi sv1.2))]) (fun (_ : Int × Int) => []) (14695981039346656037, 0) (S_r19_Hash_b1 a0) (fun (sv1 : Int × Int) =>
.ret [] sv1.1) id
def F_r19_Hash (a0 : List UInt8) : Option R_r19_Hash := (S_r19_Hash a0).den
set_option maxRecDepth 100000 in
theorem F_r19_Hash_ok {a0 : List UInt8} (r : R_r19_Hash) (h : F_r19_Hash a0 = some r) : CallOk Tryz.prog 133 [(AV.d (DV.str a0))] [] (V_r19_Hash r) (L_r19_Hash r) := fOk (s := S_r19_Hash a0) Tryz.func133 rfl (by kernel_rfl) h
/-! 104 -/
abbrev R_r19_signature := Int
def V_r19_signature (x : R_r19_signature) : AV := (AV.d (DV.i .u64 x))
def L_r19_signature (_ : R_r19_signature) : List Ob := []
def S_r19_signature_b1 (a0 : Int) (sv1 : (List Int) × Int) : Scr Tryz.prog R_r19_signature (Step ((List Int) × Int) R_r19_signature) :=
.ite (decide (sv1.2 ≥ 0)) (
.guard [(0 : Int) ≤ sv1.2, (sv1.1.length + 1) * (2 * 1) ≤ 2 ^ 48] <|
.reg 5 [] [(5, hv (AV.d (eL (DV.i .u8) ([(IntKind.u8.wrap (a0.fdiv (2 ^ (min sv1.2.toNat IntKind.u64.bits))))] : List Int)))), (6, { h := .obj, cast := some (AV.ref 1 ((sv1.1 ++ ([(IntKind.u8.wrap (a0.fdiv (2 ^ (min sv1.2.toNat IntKind.u64.bits))))] : List Int)).length) 0 ((sv1.1 ++ ([(IntKind.u8.wrap (a0.fdiv (2 ^ (min sv1.2.toNat IntKind.u64.bits))))] : List Int)).length)), obs := [(1, (eS 1 (DV.i .u8) (sv1.1 ++ ([(IntKind.u8.wrap (a0.fdiv (2 ^ (min sv1.2.toNat IntKind.u64.bits))))] : List Int))))] })] [.ev 0, .pf (leV_lit (DV.i .u8) ([(IntKind.u8.wrap (a0.fdiv (2 ^ (min sv1.2.toNat IntKind.u64.bits))))] : List Int)), .pf (Eq.refl sv1.1.length), .pf (Eq.refl sv1.1.length), .pf (p := ∀ k, k < 1 → (AV.d ((DV.i .u8) (([(IntKind.u8.wrap (a0.fdiv (2 ^ (min sv1.2.toNat IntKind.u64.bits))))] : List Int).getD k default))).wd = 1) (fun _ _ => rfl), .ev 1, .pf (leV_app (o := 1) (l := sv1.1) (x := ([(IntKind.u8.wrap (a0.fdiv (2 ^ (min sv1.2.toNat IntKind.u64.bits))))] : List Int))), .pf (oLe_app (sz := 1) (e := (DV.i .u8)) (l := sv1.1) (x := ([(IntKind.u8.wrap (a0.fdiv (2 ^ (min sv1.2.toNat IntKind.u64.bits))))] : List Int)))] <|
.ret [] (.cont ((sv1.1 ++ ([(IntKind.u8.wrap (a0.fdiv (2 ^ (min sv1.2.toNat IntKind.u64.bits))))] : List Int)), (IntKind.i64.wrap (sv1.2 - 8))))) (
.ret [] (.brk (sv1.1, sv1.2)))
def S_r19_signature (a0 : Int) (a1 : TApiWarrant) : Scr Tryz.prog R_r19_signature R_r19_signature :=
.reg 2 [] [] [] <|
.bor 1 (fun j => AV.d ((DV.i .u8) (([] : List Int).getD j default))) [5] <|
.iter [0, 3] (fun (sv1 : (List Int) × Int) => [(5, (AV.ref 1 sv1.1.length 0 sv1.1.length)), (6, (vi sv1.2))]) (fun (sv1 : (List Int) × Int) => [(1, (eS 1 (DV.i .u8) sv1.1))]) (([] : List Int), 56) (S_r19_signature_b1 a0) (fun (sv1 : (List Int) × Int) =>
.guard [sv1.1.length < 2 ^ 63] <|
.frz 1 (.ev 0) none [5] [] <|
.call (@F_r19_Bytes_ok a1) fun rv2 cv2 =>
.call (@F_r19_Hash_ok (((List.range sv1.1.length).map fun j => UInt8.ofNat ((sv1.1.getD j default)).toNat) ++ rv2)) fun rv3 cv3 =>
.guard [((List.range sv1.1.length).map fun j => UInt8.ofNat ((sv1.1.getD j default)).toNat).length + rv2.length < 2 ^ 63] <|
.reg 6 [] [(3, hc cv2 [] true), (5, hc cv3 [] true)] [.pf (p := ∀ j, j < sv1.1.length → ∃ k, (DV.i .u8 (sv1.1.getD j default)) = DV.i .u8 k) (fun _ _ => ⟨_, rfl⟩), .cl 2 cv2 [] 2 true, .ev 0, .cl 1 cv3 [] 2 true] <|
.ret [] rv3) id
def F_r19_signature (a0 : Int) (a1 : TApiWarrant) : Option R_r19_signature := (S_r19_signature a0 a1).den
set_option maxRecDepth 100000 in
theorem F_r19_signature_ok {a0 : Int} {a1 : TApiWarrant} (r : R_r19_signature) (h : F_r19_signature a0 a1 = some r) : CallOk Tryz.prog 104 [(AV.d (DV.i .u64 a0)), (AV.d (TApiWarrant.e a1))] [] (V_r19_signature r) (L_r19_signature r) := fOk (s := S_r19_signature a0 a1) Tryz.func104 rfl (by kernel_rfl) h
/-! 69 -/
abbrev R_r19_Sign := TApiWarrant × Int
def V_r19_Sign (x : R_r19_Sign) : AV := (AV.tup [(AV.d (TApiWarrant.e x.1)), (vi x.2)])
def L_r19_Sign (_ : R_r19_Sign) : List Ob := []
def S_r19_Sign (a0 : (List Int)) (a1 : TApiWarrant) (a2 : Bool) : Scr Tryz.prog R_r19_Sign R_r19_Sign :=
.call (@F_r19_Plain_ok a1) fun rv1 cv1 =>
.reg 1 [] [(1, hc cv1 [] true)] [.cl 0 cv1 [] 2 true] <|
.ite (!rv1) (
.ret [] ((⟨0, 0, [], 0, 0, 0, 0, 0, 0, 0, 0, 0, 0, 0⟩ : TApiWarrant), 1)) (
.cut none [0, 2, 4, 6] (fun (sv2 : Int) => [(8, (vi sv2))]) (fun (_ : Int) => []) (
.ite a2 (
.ret [] (.next (IntKind.i64.wrap ((IntKind.i64.wrap (2 * (IntKind.i64.wrap (a1.Office - 1)))) + 1)))) (
.ret [] (.next (IntKind.i64.wrap (2 * (IntKind.i64.wrap (a1.Office - 1))))))) fun (sv2 : Int) =>
.ite (decide (sv2 ≥ (a0.length : Int))) (
.ret [] ((⟨0, 0, [], 0, 0, 0, 0, 0, 0, 0, 0, 0, 0, 0⟩ : TApiWarrant), 6)) (
.ite (!a2) (
.call (@F_r19_signature_ok (a0.getD ((sv2).toNat) default) a1) fun rv3 cv3 =>
.guard [(0 : Int) ≤ sv2, (sv2).toNat < a0.length] <|
.reg 9 [7] [(5, hc cv3 [] true)] [.ev 0, .ev 1, .cl 2 cv3 [] 2 true] <|
.ret [] ((⟨a1.Number, a1.Office, a1.Code, a1.Year, a1.Verification, a1.Attempt, a1.Commitment, a1.Reservation, a1.Amount, a1.Payee, a1.Day, a1.Due, rv3, a1.Second⟩ : TApiWarrant), 0)) (
.call (@F_r19_signature_ok (a0.getD (((IntKind.i64.wrap (sv2 - 1))).toNat) default) a1) fun rv4 cv4 =>
.guard [(0 : Int) ≤ (IntKind.i64.wrap (sv2 - 1)), ((IntKind.i64.wrap (sv2 - 1))).toNat < a0.length] <|
.reg 11 [] [(6, hc cv4 [] true)] [.ev 0, .ev 1, .cl 2 cv4 [] 2 true] <|
.ite (rv4 != a1.First) (
.ret [] ((⟨0, 0, [], 0, 0, 0, 0, 0, 0, 0, 0, 0, 0, 0⟩ : TApiWarrant), 18)) (
.call (@F_r19_signature_ok (a0.getD ((sv2).toNat) default) a1) fun rv5 cv5 =>
.guard [(0 : Int) ≤ sv2, (sv2).toNat < a0.length] <|
.reg 13 [7] [(5, hc cv5 [] true)] [.ev 0, .ev 1, .cl 2 cv5 [] 2 true] <|
.ret [] ((⟨a1.Number, a1.Office, a1.Code, a1.Year, a1.Verification, a1.Attempt, a1.Commitment, a1.Reservation, a1.Amount, a1.Payee, a1.Day, a1.Due, a1.First, rv5⟩ : TApiWarrant), 0)))))
def F_r19_Sign (a0 : (List Int)) (a1 : TApiWarrant) (a2 : Bool) : Option R_r19_Sign := (S_r19_Sign a0 a1 a2).den
set_option maxRecDepth 100000 in
theorem F_r19_Sign_ok {a0 : (List Int)} {a1 : TApiWarrant} {a2 : Bool} (r : R_r19_Sign) (h : F_r19_Sign a0 a1 a2 = some r) : CallOk Tryz.prog 69 [(AV.d (eL (DV.i .u64) a0)), (AV.d (TApiWarrant.e a1)), (vb a2)] [] (V_r19_Sign r) (L_r19_Sign r) := fOk (s := S_r19_Sign a0 a1 a2) Tryz.func69 rfl (by kernel_rfl) h
/-! 39 -/
abbrev R_mk_Warrant := TApiWarrant × TTape
def V_mk_Warrant (x : R_mk_Warrant) : AV := (AV.d (TApiWarrant.e x.1))
def L_mk_Warrant (x : R_mk_Warrant) : List Ob := [(bx (TTape.e x.2))]
def S_mk_Warrant_b1 (a1 : (List Int)) (sv1 : TApiWarrant × Int) : Scr Tryz.prog R_mk_Warrant (Step (TApiWarrant × Int) R_mk_Warrant) :=
.ite (decide (sv1.2 < 2)) (
.call (@F_r19_Sign_ok a1 sv1.1 (sv1.2 == 1)) fun rv2 cv2 =>
.reg 5 [] [(4, hc cv2 [] true)] [.cl 0 cv2 [] 3 true] <|
.ite (rv2.2 == 0) (
.ret [] (.cont (rv2.1, (IntKind.i64.wrap (sv1.2 + 1))))) (
.ret [] (.cont (sv1.1, (IntKind.i64.wrap (sv1.2 + 1)))))) (
.ret [] (.brk (sv1.1, sv1.2)))
def S_mk_Warrant (a1 : (List Int)) (p0 : TTape) : Scr Tryz.prog R_mk_Warrant R_mk_Warrant :=
.call (@F_mk_Tape_Range_ok 1 60 p0) fun rv3 cv3 =>
.call (@F_mk_Tape_Range_ok 1 3 rv3.2) fun rv4 cv4 =>
.call (@F_mk_PotCode_ok rv4.2) fun rv5 cv5 =>
.call (@F_mk_Tape_Range_ok 1 5 rv5.2) fun rv6 cv6 =>
.call (@F_mk_Tape_Range_ok 1 2 rv6.2) fun rv7 cv7 =>
.call (@F_mk_Tape_Range_ok 1 4 rv7.2) fun rv8 cv8 =>
.call (@F_mk_Tape_Range_ok 1 3 rv8.2) fun rv9 cv9 =>
.call (@F_mk_Tape_Range_ok 1 500 rv9.2) fun rv10 cv10 =>
.call (@F_mk_Tape_Range_ok 1 4 rv10.2) fun rv11 cv11 =>
.call (@F_mk_Tape_N_ok 300 rv11.2) fun rv12 cv12 =>
.call (@F_mk_Tape_N_ok 400 rv12.2) fun rv13 cv13 =>
.reg 1 [] [(1, hc cv3 [0] false), (3, hc cv4 [0] false), (5, hc cv5 [0] false), (7, hc cv6 [0] false), (9, hc cv7 [0] false), (11, hc cv8 [0] false), (13, hc cv9 [0] false), (15, hc cv10 [0] false), (17, hc cv11 [0] false), (19, hc cv12 [0] false), (22, hc cv13 [0] false)] [.cl 10 cv3 [0] 2 false, .cl 9 cv4 [0] 2 false, .cl 8 cv5 [0] 2 false, .cl 7 cv6 [0] 2 false, .cl 6 cv7 [0] 2 false, .cl 5 cv8 [0] 2 false, .cl 4 cv9 [0] 2 false, .cl 3 cv10 [0] 2 false, .cl 2 cv11 [0] 2 false, .cl 1 cv12 [0] 2 false, .cl 0 cv13 [0] 2 false] <|
.iter [1, 4, 5] (fun (sv1 : TApiWarrant × Int) => [(6, (vi sv1.2))]) (fun (sv1 : TApiWarrant × Int) => [(2, (bx (TApiWarrant.e sv1.1)))]) ((⟨rv3.1, rv4.1, rv5.1, 12, rv6.1, rv7.1, rv8.1, rv9.1, rv10.1, rv11.1, (IntKind.i64.wrap (4320 + rv12.1)), (IntKind.i64.wrap (4320 + rv13.1)), 0, 0⟩ : TApiWarrant), 0) (S_mk_Warrant_b1 a1) (fun (sv1 : TApiWarrant × Int) =>
.ret [] (sv1.1, rv13.2)) id
def F_mk_Warrant (a1 : (List Int)) (p0 : TTape) : Option R_mk_Warrant := (S_mk_Warrant a1 p0).den
set_option maxRecDepth 100000 in
theorem F_mk_Warrant_ok {a1 : (List Int)} {p0 : TTape} (r : R_mk_Warrant) (h : F_mk_Warrant a1 p0 = some r) : CallOk Tryz.prog 39 [(vp 0), (AV.d (eL (DV.i .u64) a1))] [(bx (TTape.e p0))] (V_mk_Warrant r) (L_mk_Warrant r) := fOk (s := S_mk_Warrant a1 p0) Tryz.func39 rfl (by kernel_rfl) h
/-! 68 -/
abbrev R_r19_Same := Bool
def V_r19_Same (x : R_r19_Same) : AV := (vb x)
def L_r19_Same (_ : R_r19_Same) : List Ob := []
def S_r19_Same (a0 : TApiWarrant) (a1 : TApiWarrant) : Scr Tryz.prog R_r19_Same R_r19_Same :=
.ret [] (bif (bif (a0.Office == a1.Office) then (a0.Verification == a1.Verification) else false) then (a0.Attempt == a1.Attempt) else false)
def F_r19_Same (a0 : TApiWarrant) (a1 : TApiWarrant) : Option R_r19_Same := (S_r19_Same a0 a1).den
set_option maxRecDepth 100000 in
theorem F_r19_Same_ok {a0 : TApiWarrant} {a1 : TApiWarrant} (r : R_r19_Same) (h : F_r19_Same a0 a1 = some r) : CallOk Tryz.prog 68 [(AV.d (TApiWarrant.e a0)), (AV.d (TApiWarrant.e a1))] [] (V_r19_Same r) (L_r19_Same r) := fOk (s := S_r19_Same a0 a1) Tryz.func68 rfl (by kernel_rfl) h
/-! 38 -/
abbrev R_r19_Add := (List TApiWarrant) × Int
def V_r19_Add (x : R_r19_Add) : AV := (AV.tup [(AV.d (eL TApiWarrant.e x.1)), (vi x.2)])
def L_r19_Add (_ : R_r19_Add) : List Ob := []
def S_r19_Add_b1 (a0 : (List TApiWarrant)) (sv1 : Int) : Scr Tryz.prog R_r19_Add (Step (Int) R_r19_Add) :=
.ite (decide (sv1 < (a0.length : Int))) (
.guard [(0 : Int) ≤ (IntKind.i64.wrap (sv1 - 1)), ((IntKind.i64.wrap (sv1 - 1))).toNat < a0.length, (0 : Int) ≤ sv1, (sv1).toNat < a0.length] <|
.reg 4 [] [] [.ev 0, .ev 1, .ev 2, .ev 3] <|
.ite (decide (((a0.getD (((IntKind.i64.wrap (sv1 - 1))).toNat) default).Number) ≥ ((a0.getD ((sv1).toNat) default).Number))) (
.ret [.pf cz7] (.ret ([], 1))) (
.ret [] (.cont (IntKind.i64.wrap (sv1 + 1))))) (
.ret [] (.brk sv1))
def S_r19_Add_b2 (a0 : (List TApiWarrant)) (a1 : TApiWarrant) (iv2 : Nat) (sv3 : Int) : Scr Tryz.prog R_r19_Add (Step (Int) R_r19_Add) :=
.reg 11 [] [] [.pf (nn iv2), .ev 0] <|
.ite (((a0.getD iv2 default).Number) == a1.Number) (
.ret [.pf cz8] (.ret ([], 7))) (
.ite (decide (((a0.getD iv2 default).Number) < a1.Number)) (
.ret [] (.cont (IntKind.i64.wrap (sv3 + 1)))) (
.ret [] (.cont sv3)))
def S_r19_Add_b3 (a0 : (List TApiWarrant)) (a1 : TApiWarrant) (iv4 : Nat) (_ : Unit) : Scr Tryz.prog R_r19_Add (Step (Unit) R_r19_Add) :=
.reg 19 [] [] [.pf (nn iv4), .ev 0] <|
.call (@F_r19_Same_ok (a0.getD iv4 default) a1) fun rv5 cv5 =>
.reg 20 [] [(2, hc cv5 [] true)] [.cl 0 cv5 [] 2 true] <|
.ite rv5 (
.ret [.pf cz9] (.ret ([], 20))) (
.ret [] (.cont ()))
def S_r19_Add (a0 : (List TApiWarrant)) (a1 : TApiWarrant) : Scr Tryz.prog R_r19_Add R_r19_Add :=
.iter [0, 3] (fun (sv1 : Int) => [(6, (vi sv1))]) (fun (_ : Int) => []) 1 (S_r19_Add_b1 a0) (fun (_ : Int) =>
.call (@F_r19_Plain_ok a1) fun rv6 cv6 =>
.reg 6 [] [(1, hc cv6 [] true)] [.cl 0 cv6 [] 1 true] <|
.ite (!rv6) (
.ret [.pf cz7] ([], 1)) (
.range (a0.length : Int) a0.length rfl (.slot 0) 36 [0, 3, 34, 35] (fun (sv3 : Int) => [(7, (vi sv3))]) (fun (_ : Int) => []) 0 (S_r19_Add_b2 a0 a1) (fun (sv3 : Int) => 
.range (a0.length : Int) a0.length rfl (.slot 0) 55 [0, 3, 7, 53, 54] (fun (_ : Unit) => []) (fun (_ : Unit) => []) () (S_r19_Add_b3 a0 a1) (fun (_ : Unit) => 
.ite (decide ((a0.length : Int) ≥ 200)) (
.ret [.pf cz10] ([], 3)) (
.guard [(0 : Int) ≤ sv3, (sv3).toNat ≤ a0.length, (a0.take ((sv3).toNat)).length * (2 * 120) ≤ 2 ^ 48] <|
.reg 25 [] [(3, hv (AV.d (eL TApiWarrant.e (a0.take ((sv3).toNat))))), (4, { h := .obj })] [.ev 0, .ev 1, .der (fun (h0 : (sv3).toNat ≤ a0.length) => lvT TApiWarrant.e a0 h0) 1, .pf (p := ∀ k, k < (a0.take ((sv3).toNat)).length → (AV.d (TApiWarrant.e ((a0.take ((sv3).toNat)).getD k default))).wd = 14) (fun _ _ => rfl), .ev 2] <|
.guard [((a0.take ((sv3).toNat)).length + 1) * (2 * 120) ≤ 2 ^ 48, (((a0.take ((sv3).toNat)) ++ ([a1] : List TApiWarrant)).length + (a0.drop ((sv3).toNat)).length) * (2 * 120) ≤ 2 ^ 48] <|
.reg 26 [3, 7] [(2, hv (AV.d (eL TApiWarrant.e ([a1] : List TApiWarrant)))), (3, { h := .obj, cast := some (AV.ref 1 (((a0.take ((sv3).toNat)) ++ ([a1] : List TApiWarrant)).length) 0 (((a0.take ((sv3).toNat)) ++ ([a1] : List TApiWarrant)).length)), obs := [(1, (eS 14 TApiWarrant.e ((a0.take ((sv3).toNat)) ++ ([a1] : List TApiWarrant))))] }), (6, hv (AV.d (eL TApiWarrant.e (a0.drop ((sv3).toNat))))), (7, { cast := some (AV.ref 1 ((((a0.take ((sv3).toNat)) ++ ([a1] : List TApiWarrant)) ++ (a0.drop ((sv3).toNat))).length) 0 ((((a0.take ((sv3).toNat)) ++ ([a1] : List TApiWarrant)) ++ (a0.drop ((sv3).toNat))).length)), obs := [(1, (eS 14 TApiWarrant.e (((a0.take ((sv3).toNat)) ++ ([a1] : List TApiWarrant)) ++ (a0.drop ((sv3).toNat)))))] })] [.pf (leV_lit TApiWarrant.e ([a1] : List TApiWarrant)), .pf (Eq.refl ((a0.take ((sv3).toNat)).length)), .pf (Eq.refl ((a0.take ((sv3).toNat)).length)), .pf (p := ∀ k, k < 1 → (AV.d (TApiWarrant.e (([a1] : List TApiWarrant).getD k default))).wd = 14) (fun _ _ => rfl), .ev 0, .pf (leV_app (o := 1) (l := (a0.take ((sv3).toNat))) (x := ([a1] : List TApiWarrant))), .pf (oLe_app (sz := 14) (e := TApiWarrant.e) (l := (a0.take ((sv3).toNat))) (x := ([a1] : List TApiWarrant))), .ev 2, .ev 3, .pf (lvD TApiWarrant.e a0 ((sv3).toNat)), .ev 2, .ev 3, .pf (lvD TApiWarrant.e a0 ((sv3).toNat)), .pf (Eq.refl (((a0.take ((sv3).toNat)) ++ ([a1] : List TApiWarrant)).length)), .pf (Eq.refl (((a0.take ((sv3).toNat)) ++ ([a1] : List TApiWarrant)).length)), .pf (p := ∀ k, k < (a0.drop ((sv3).toNat)).length → (AV.d (TApiWarrant.e ((a0.drop ((sv3).toNat)).getD k default))).wd = 14) (fun _ _ => rfl), .ev 1, .pf (leV_app (o := 1) (l := ((a0.take ((sv3).toNat)) ++ ([a1] : List TApiWarrant))) (x := (a0.drop ((sv3).toNat)))), .pf (oLe_app (sz := 14) (e := TApiWarrant.e) (l := ((a0.take ((sv3).toNat)) ++ ([a1] : List TApiWarrant))) (x := (a0.drop ((sv3).toNat))))] <|
.guard [(((a0.take ((sv3).toNat)) ++ ([a1] : List TApiWarrant)) ++ (a0.drop ((sv3).toNat))).length < 2 ^ 63] <|
.frz 1 (.ev 0) none [4] [] <|
.ret [] ((((a0.take ((sv3).toNat)) ++ ([a1] : List TApiWarrant)) ++ (a0.drop ((sv3).toNat))), 0))) id) id)) id
def F_r19_Add (a0 : (List TApiWarrant)) (a1 : TApiWarrant) : Option R_r19_Add := (S_r19_Add a0 a1).den
set_option maxRecDepth 100000 in
theorem F_r19_Add_ok {a0 : (List TApiWarrant)} {a1 : TApiWarrant} (r : R_r19_Add) (h : F_r19_Add a0 a1 = some r) : CallOk Tryz.prog 38 [(AV.d (eL TApiWarrant.e a0)), (AV.d (TApiWarrant.e a1))] [] (V_r19_Add r) (L_r19_Add r) := fOk (s := S_r19_Add a0 a1) Tryz.func38 rfl (by kernel_rfl) h
/-! 13 -/
abbrev R_mk_Warrants := (List TApiWarrant) × TTape
def V_mk_Warrants (x : R_mk_Warrants) : AV := (AV.d (eL TApiWarrant.e x.1))
def L_mk_Warrants (x : R_mk_Warrants) : List Ob := [(bx (TTape.e x.2))]
def S_mk_Warrants_b1 (a1 : (List Int)) (sv1 : TTape × (List TApiWarrant) × Int) : Scr Tryz.prog R_mk_Warrants (Step (TTape × (List TApiWarrant) × Int) R_mk_Warrants) :=
.ite (decide (sv1.2.2 > 0)) (
.call (@F_mk_Warrant_ok a1 sv1.1) fun rv2 cv2 =>
.call (@F_r19_Add_ok sv1.2.1 rv2.1) fun rv3 cv3 =>
.reg 5 [] [(3, hc cv2 [0] false), (4, hc cv3 [] true)] [.cl 1 cv2 [0] 1 false, .cl 0 cv3 [] 1 true] <|
.ite (rv3.2 == 0) (
.ret [] (.cont (rv2.2, rv3.1, (IntKind.i64.wrap (sv1.2.2 - 1))))) (
.ret [] (.cont (rv2.2, sv1.2.1, (IntKind.i64.wrap (sv1.2.2 - 1)))))) (
.ret [] (.brk (sv1.1, sv1.2.1, sv1.2.2)))
def S_mk_Warrants (a1 : (List Int)) (a2 : Int) (p0 : TTape) : Scr Tryz.prog R_mk_Warrants R_mk_Warrants :=
.call (@F_mk_Tape_N_ok (IntKind.i64.wrap (a2 + 1)) p0) fun rv4 cv4 =>
.reg 2 [] [(3, hc cv4 [0] false)] [.cl 0 cv4 [0] 1 false] <|
.lev 7 (AV.d (eL TApiWarrant.e ([] : List TApiWarrant))) (.pf (lvN TApiWarrant.e)) <|
.iter [0, 1] (fun (sv1 : TTape × (List TApiWarrant) × Int) => [(7, (AV.d (eL TApiWarrant.e sv1.2.1))), (8, (vi sv1.2.2))]) (fun (sv1 : TTape × (List TApiWarrant) × Int) => [(0, (bx (TTape.e sv1.1)))]) (rv4.2, ([] : List TApiWarrant), rv4.1) (S_mk_Warrants_b1 a1) (fun (sv1 : TTape × (List TApiWarrant) × Int) =>
.ret [] (sv1.2.1, sv1.1)) id
def F_mk_Warrants (a1 : (List Int)) (a2 : Int) (p0 : TTape) : Option R_mk_Warrants := (S_mk_Warrants a1 a2 p0).den
set_option maxRecDepth 100000 in
theorem F_mk_Warrants_ok {a1 : (List Int)} {a2 : Int} {p0 : TTape} (r : R_mk_Warrants) (h : F_mk_Warrants a1 a2 p0 = some r) : CallOk Tryz.prog 13 [(vp 0), (AV.d (eL (DV.i .u64) a1)), (vi a2)] [(bx (TTape.e p0))] (V_mk_Warrants r) (L_mk_Warrants r) := fOk (s := S_mk_Warrants a1 a2 p0) Tryz.func13 rfl (by kernel_rfl) h
/-! 14 -/
abbrev R_mk_Tape_Order := (List Int) × TTape
def V_mk_Tape_Order (x : R_mk_Tape_Order) : AV := (vl x.1)
def L_mk_Tape_Order (x : R_mk_Tape_Order) : List Ob := [(bx (TTape.e x.2))]
def S_mk_Tape_Order_b1 (a1 : Int) (sv1 : (List Int) × Int) : Scr Tryz.prog R_mk_Tape_Order (Step ((List Int) × Int) R_mk_Tape_Order) :=
.ite (decide (sv1.2 < a1)) (
.guard [(sv1.1.length + 1) * (2 * 8) ≤ 2 ^ 48] <|
.reg 5 [] [(2, hv (vl ([sv1.2] : List Int))), (3, { h := .obj, cast := some (AV.ref 1 ((sv1.1 ++ ([sv1.2] : List Int)).length) 0 ((sv1.1 ++ ([sv1.2] : List Int)).length)), obs := [(1, (eS 1 (DV.i .i64) (sv1.1 ++ ([sv1.2] : List Int))))] })] [.pf (leV_lit (DV.i .i64) ([sv1.2] : List Int)), .pf (Eq.refl sv1.1.length), .pf (Eq.refl sv1.1.length), .pf (p := ∀ k, k < 1 → (AV.d ((DV.i .i64) (([sv1.2] : List Int).getD k default))).wd = 1) (fun _ _ => rfl), .ev 0, .pf (leV_app (o := 1) (l := sv1.1) (x := ([sv1.2] : List Int))), .pf (oLe_app (sz := 1) (e := (DV.i .i64)) (l := sv1.1) (x := ([sv1.2] : List Int)))] <|
.ret [] (.cont ((sv1.1 ++ ([sv1.2] : List Int)), (IntKind.i64.wrap (sv1.2 + 1))))) (
.ret [] (.brk (sv1.1, sv1.2)))
def S_mk_Tape_Order_b2 (sv2 : TTape × (List Int) × Int) : Scr Tryz.prog R_mk_Tape_Order (Step (TTape × (List Int) × Int) R_mk_Tape_Order) :=
.ite (decide (sv2.2.2 > 0)) (
.call (@F_mk_Tape_N_ok (IntKind.i64.wrap (sv2.2.2 + 1)) sv2.1) fun rv3 cv3 =>
.reg 9 [] [(3, hc cv3 [0] false)] [.cl 0 cv3 [0] 2 false] <|
.guard [(0 : Int) ≤ rv3.1, (rv3.1).toNat < sv2.2.1.length, (0 + (rv3.1).toNat) < sv2.2.1.length, (0 : Int) ≤ sv2.2.2, (sv2.2.2).toNat < sv2.2.1.length, (0 + (sv2.2.2).toNat) < sv2.2.1.length, (0 + (rv3.1).toNat) < (sv2.2.1.set (0 + (sv2.2.2).toNat) (sv2.2.1.getD (0 + (rv3.1).toNat) default)).length] <|
.reg 10 [13, 15] [(13, { obs := [(1, (eS 1 (DV.i .i64) (sv2.2.1.set (0 + (sv2.2.2).toNat) (sv2.2.1.getD (0 + (rv3.1).toNat) default))))] }), (15, { obs := [(1, (eS 1 (DV.i .i64) ((sv2.2.1.set (0 + (sv2.2.2).toNat) (sv2.2.1.getD (0 + (rv3.1).toNat) default)).set (0 + (rv3.1).toNat) (sv2.2.1.getD (0 + (sv2.2.2).toNat) default))))] })] [.pf (Eq.refl sv2.2.1.length), .ev 0, .ev 1, .pf (Eq.refl sv2.2.1.length), .ev 2, .pf (Eq.refl sv2.2.1.length), .ev 3, .ev 4, .pf (Eq.refl sv2.2.1.length), .ev 5, .pf (Eq.refl sv2.2.1.length), .ev 3, .ev 4, .pf (Eq.refl sv2.2.1.length), .ev 5, .pf (oLe_set (sz := 1) (e := (DV.i .i64)) (l := sv2.2.1) (i := (0 + (sv2.2.2).toNat)) (x := (sv2.2.1.getD (0 + (rv3.1).toNat) default)) (fun _ => rfl)), .pf (p := (sv2.2.1.set (0 + (sv2.2.2).toNat) (sv2.2.1.getD (0 + (rv3.1).toNat) default)).length = sv2.2.1.length) (by simp only [List.length_set]), .ev 0, .ev 1, .pf (p := (sv2.2.1.set (0 + (sv2.2.2).toNat) (sv2.2.1.getD (0 + (rv3.1).toNat) default)).length = sv2.2.1.length) (by simp only [List.length_set]), .ev 6, .pf (oLe_set (sz := 1) (e := (DV.i .i64)) (l := (sv2.2.1.set (0 + (sv2.2.2).toNat) (sv2.2.1.getD (0 + (rv3.1).toNat) default))) (i := (0 + (rv3.1).toNat)) (x := (sv2.2.1.getD (0 + (sv2.2.2).toNat) default)) (fun _ => rfl))] <|
.cst (A := True) (.pf trivial) [(0, (vp 0)), (5, (AV.ref 1 sv2.2.1.length 0 sv2.2.1.length)), (7, (vi sv2.2.2))] [(0, (vp 0)), (5, (AV.ref 1 (((sv2.2.1.set (0 + (sv2.2.2).toNat) (sv2.2.1.getD (0 + (rv3.1).toNat) default)).set (0 + (rv3.1).toNat) (sv2.2.1.getD (0 + (sv2.2.2).toNat) default)).length) 0 (((sv2.2.1.set (0 + (sv2.2.2).toNat) (sv2.2.1.getD (0 + (rv3.1).toNat) default)).set (0 + (rv3.1).toNat) (sv2.2.1.getD (0 + (sv2.2.2).toNat) default)).length))), (7, (vi sv2.2.2))] [(bx (TTape.e rv3.2)), (eS 1 (DV.i .i64) ((sv2.2.1.set (0 + (sv2.2.2).toNat) (sv2.2.1.getD (0 + (rv3.1).toNat) default)).set (0 + (rv3.1).toNat) (sv2.2.1.getD (0 + (sv2.2.2).toNat) default)))] [(bx (TTape.e rv3.2)), (eS 1 (DV.i .i64) ((sv2.2.1.set (0 + (sv2.2.2).toNat) (sv2.2.1.getD (0 + (rv3.1).toNat) default)).set (0 + (rv3.1).toNat) (sv2.2.1.getD (0 + (sv2.2.2).toNat) default)))] (fun _ => ⟨by simp only [List.length_set], by rfl⟩) <|
.ret [] (.cont (rv3.2, ((sv2.2.1.set (0 + (sv2.2.2).toNat) (sv2.2.1.getD (0 + (rv3.1).toNat) default)).set (0 + (rv3.1).toNat) (sv2.2.1.getD (0 + (sv2.2.2).toNat) default)), (IntKind.i64.wrap (sv2.2.2 - 1))))) (
.ret [] (.brk (sv2.1, sv2.2.1, sv2.2.2)))
def S_mk_Tape_Order (a1 : Int) (p0 : TTape) : Scr Tryz.prog R_mk_Tape_Order R_mk_Tape_Order :=
.reg 2 [] [] [] <|
.bor 1 (fun j => AV.d ((DV.i .i64) (([] : List Int).getD j default))) [5] <|
.iter [0, 1] (fun (sv1 : (List Int) × Int) => [(5, (AV.ref 1 sv1.1.length 0 sv1.1.length)), (6, (vi sv1.2))]) (fun (sv1 : (List Int) × Int) => [(1, (eS 1 (DV.i .i64) sv1.1))]) (([] : List Int), 0) (S_mk_Tape_Order_b1 a1) (fun (sv1 : (List Int) × Int) =>
.iter [0] (fun (sv2 : TTape × (List Int) × Int) => [(5, (AV.ref 1 sv2.2.1.length 0 sv2.2.1.length)), (7, (vi sv2.2.2))]) (fun (sv2 : TTape × (List Int) × Int) => [(0, (bx (TTape.e sv2.1))), (1, (eS 1 (DV.i .i64) sv2.2.1))]) (p0, sv1.1, (IntKind.i64.wrap (a1 - 1))) S_mk_Tape_Order_b2 (fun (sv2 : TTape × (List Int) × Int) =>
.guard [sv2.2.1.length < 2 ^ 63] <|
.reg 11 [] [] [] <|
.frz 1 (.ev 0) none [4] [] <|
.ret [] (sv2.2.1, sv2.1)) id) id
def F_mk_Tape_Order (a1 : Int) (p0 : TTape) : Option R_mk_Tape_Order := (S_mk_Tape_Order a1 p0).den
set_option maxRecDepth 100000 in
theorem F_mk_Tape_Order_ok {a1 : Int} {p0 : TTape} (r : R_mk_Tape_Order) (h : F_mk_Tape_Order a1 p0 = some r) : CallOk Tryz.prog 14 [(vp 0), (vi a1)] [(bx (TTape.e p0))] (V_mk_Tape_Order r) (L_mk_Tape_Order r) := fOk (s := S_mk_Tape_Order a1 p0) Tryz.func14 rfl (by kernel_rfl) h
/-! 15 -/
abbrev R_r19_SameList := Bool
def V_r19_SameList (x : R_r19_SameList) : AV := (vb x)
def L_r19_SameList (_ : R_r19_SameList) : List Ob := []
def S_r19_SameList_b1 (a0 : (List TApiWarrant)) (a1 : (List TApiWarrant)) (iv1 : Nat) (_ : Unit) : Scr Tryz.prog R_r19_SameList (Step (Unit) R_r19_SameList) :=
.guard [iv1 < a1.length] <|
.reg 6 [] [] [.pf (nn iv1), .ev 1, .pf (nn iv1), .ev 0] <|
.ite (!((((a0.getD iv1 default).Number) == ((a1.getD iv1 default).Number)) && ((((a0.getD iv1 default).Office) == ((a1.getD iv1 default).Office)) && ((((a0.getD iv1 default).Code) == ((a1.getD iv1 default).Code)) && ((((a0.getD iv1 default).Year) == ((a1.getD iv1 default).Year)) && ((((a0.getD iv1 default).Verification) == ((a1.getD iv1 default).Verification)) && ((((a0.getD iv1 default).Attempt) == ((a1.getD iv1 default).Attempt)) && ((((a0.getD iv1 default).Commitment) == ((a1.getD iv1 default).Commitment)) && ((((a0.getD iv1 default).Reservation) == ((a1.getD iv1 default).Reservation)) && ((((a0.getD iv1 default).Amount) == ((a1.getD iv1 default).Amount)) && ((((a0.getD iv1 default).Payee) == ((a1.getD iv1 default).Payee)) && ((((a0.getD iv1 default).Day) == ((a1.getD iv1 default).Day)) && ((((a0.getD iv1 default).Due) == ((a1.getD iv1 default).Due)) && ((((a0.getD iv1 default).First) == ((a1.getD iv1 default).First)) && ((((a0.getD iv1 default).Second) == ((a1.getD iv1 default).Second)) && true))))))))))))))) (
.ret [] (.ret false)) (
.ret [] (.cont ()))
def S_r19_SameList (a0 : (List TApiWarrant)) (a1 : (List TApiWarrant)) : Scr Tryz.prog R_r19_SameList R_r19_SameList :=
.ite ((a0.length : Int) != (a1.length : Int)) (
.ret [] false) (
.range (a0.length : Int) a0.length rfl (.slot 0) 13 [0, 1, 12] (fun (_ : Unit) => []) (fun (_ : Unit) => []) () (S_r19_SameList_b1 a0 a1) (fun (_ : Unit) => 
.ret [] true) id)
def F_r19_SameList (a0 : (List TApiWarrant)) (a1 : (List TApiWarrant)) : Option R_r19_SameList := (S_r19_SameList a0 a1).den
set_option maxRecDepth 100000 in
theorem F_r19_SameList_ok {a0 : (List TApiWarrant)} {a1 : (List TApiWarrant)} (r : R_r19_SameList) (h : F_r19_SameList a0 a1 = some r) : CallOk Tryz.prog 15 [(AV.d (eL TApiWarrant.e a0)), (AV.d (eL TApiWarrant.e a1))] [] (V_r19_SameList r) (L_r19_SameList r) := fOk (s := S_r19_SameList a0 a1) Tryz.func15 rfl (by kernel_rfl) h
/-! 4 -/
abbrev R_w19_WarrantLists := Bool
def V_w19_WarrantLists (x : R_w19_WarrantLists) : AV := (vb x)
def L_w19_WarrantLists (_ : R_w19_WarrantLists) : List Ob := []
def S_w19_WarrantLists_b1 (rv1 : R_mk_Warrants) (rv2 : R_mk_Tape_Order) (iv3 : Nat) (sv4 : (List TApiWarrant)) : Scr Tryz.prog R_w19_WarrantLists (Step ((List TApiWarrant)) R_w19_WarrantLists) :=
.reg 7 [] [] [.pf (nn iv3), .ev 0] <|
.call (@F_warrant_Add_ok sv4 (rv1.1.getD (((rv2.1.getD iv3 default)).toNat) default)) fun rv5 cv5 =>
.guard [(0 : Int) ≤ (rv2.1.getD iv3 default), ((rv2.1.getD iv3 default)).toNat < rv1.1.length] <|
.reg 8 [] [(5, hc cv5 [] true)] [.ev 0, .ev 1, .cl 2 cv5 [] 1 true] <|
.ite (rv5.2 != 0) (
.ret [] (.ret false)) (
.ret [] (.cont rv5.1))
def S_w19_WarrantLists_b2 (rv1 : R_mk_Warrants) (sv4 : (List TApiWarrant)) (iv6 : Nat) (sv7 : TTape) : Scr Tryz.prog R_w19_WarrantLists (Step (TTape) R_w19_WarrantLists) :=
.reg 17 [] [] [.pf (nn iv6), .ev 0] <|
.call (@F_warrant_Add_ok sv4 (rv1.1.getD iv6 default)) fun rv8 cv8 =>
.reg 18 [] [(2, hc cv8 [] true)] [.cl 0 cv8 [] 2 true] <|
.ite (rv8.2 != 7) (
.ret [] (.ret false)) (
.call (@F_mk_Tape_N_ok 9 sv7) fun rv9 cv9 =>
.reg 21 [] [(1, hc cv9 [0] false)] [.cl 0 cv9 [0] 2 false] <|
.call (@F_warrant_Add_ok sv4 (⟨(IntKind.i64.wrap (61 + rv9.1)), (rv1.1.getD iv6 default).Office, (rv1.1.getD iv6 default).Code, (rv1.1.getD iv6 default).Year, (rv1.1.getD iv6 default).Verification, (rv1.1.getD iv6 default).Attempt, (rv1.1.getD iv6 default).Commitment, (rv1.1.getD iv6 default).Reservation, (rv1.1.getD iv6 default).Amount, (rv1.1.getD iv6 default).Payee, (rv1.1.getD iv6 default).Day, (rv1.1.getD iv6 default).Due, (rv1.1.getD iv6 default).First, (rv1.1.getD iv6 default).Second⟩ : TApiWarrant)) fun rv10 cv10 =>
.reg 22 [] [(2, hc cv10 [] true)] [.cl 0 cv10 [] 2 true] <|
.ite (rv10.2 != 20) (
.ret [] (.ret false)) (
.ret [] (.cont rv9.2)))
def S_w19_WarrantLists (a0 : (List Int)) : Scr Tryz.prog R_w19_WarrantLists R_w19_WarrantLists :=
.call (@F_mk_New_ok a0) fun rv11 cv11 =>
.reg 1 [] [(1, hc cv11 [] false)] [.cl 0 cv11 [] 0 false] <|
.call (@F_mk_Keys_ok 3 rv11) fun rv12 cv12 =>
.reg 2 [] [(1, hc cv12 [0] false)] [.cl 0 cv12 [0] 1 false] <|
.call (@F_mk_Warrants_ok rv12.1 10 rv12.2) fun rv1 cv1 =>
.reg 3 [] [(2, hc cv1 [0] false)] [.cl 0 cv1 [0] 1 false] <|
.call (@F_mk_Tape_Order_ok (rv1.1.length : Int) rv1.2) fun rv2 cv2 =>
.reg 5 [] [(3, hc cv2 [0] false)] [.cl 0 cv2 [0] 1 false] <|
.lev 6 (AV.d (eL TApiWarrant.e ([] : List TApiWarrant))) (.pf (lvN TApiWarrant.e)) <|
.range (rv2.1.length : Int) rv2.1.length rfl (.slot 27) 29 [3, 5, 27, 28] (fun (sv4 : (List TApiWarrant)) => [(6, (AV.d (eL TApiWarrant.e sv4)))]) (fun (_ : (List TApiWarrant)) => []) ([] : List TApiWarrant) (S_w19_WarrantLists_b1 rv1 rv2) (fun (sv4 : (List TApiWarrant)) => 
.call (@F_r19_SameList_ok sv4 rv1.1) fun rv13 cv13 =>
.reg 13 [] [(2, hc cv13 [] true)] [.cl 0 cv13 [] 1 true] <|
.ite (!rv13) (
.ret [] false) (
.range (rv1.1.length : Int) rv1.1.length rfl (.slot 50) 52 [3, 6, 50, 51] (fun (_ : TTape) => []) (fun (sv7 : TTape) => [(0, (bx (TTape.e sv7)))]) rv2.2 (S_w19_WarrantLists_b2 rv1 sv4) (fun (_ : TTape) => 
.call (@F_w19_awake_ok) fun rv14 cv14 =>
.reg 26 [] [(0, hc cv14 [] true)] [.cl 0 cv14 [] 1 true] <|
.ret [] rv14) id)) id
def F_w19_WarrantLists (a0 : (List Int)) : Option R_w19_WarrantLists := (S_w19_WarrantLists a0).den
set_option maxRecDepth 100000 in
theorem F_w19_WarrantLists_ok {a0 : (List Int)} (r : R_w19_WarrantLists) (h : F_w19_WarrantLists a0 = some r) : CallOk Tryz.prog 4 [(vl a0)] [] (V_w19_WarrantLists r) (L_w19_WarrantLists r) := fOk (s := S_w19_WarrantLists a0) Tryz.func4 rfl (by kernel_rfl) h
end
end Go.Proofs.YtdenfihabhhnhaaGreatDoor
