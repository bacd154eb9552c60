/- A part of the proof: what the functions compute, and that their calls return it. No condition. -/
import Derived.Test.YteelhiohkbbdhaaGreatDoorG14P5
/- What the functions compute, and that their calls return it. No condition. -/
namespace Go.Proofs.YteelhiohkbbdhaaGreatDoor
open Go Go.TA

/-! 32 -/
abbrev R_r14_Sums := Int × Int × Int × Int
def V_r14_Sums (x : R_r14_Sums) : AV := (AV.tup [(vi x.1), (vi x.2.1), (vi x.2.2.1), (vi x.2.2.2)])
def L_r14_Sums (_ : R_r14_Sums) : List Ob := []
noncomputable def S_r14_Sums_b1 (a0 : TApiBook) (a1 : List UInt8) (a2 : Int) (iv1 : Nat) (sv2 : Int) : Scr Tryz.prog R_r14_Sums (Step (Int) R_r14_Sums) :=
.reg 6 [] [] [.pf (nn iv1), .ev 0] <|
.ite (bif (((a0.Reservations.getD iv1 default).Code) == a1) then (((a0.Reservations.getD iv1 default).Year) == a2) else false) (
.call (@F_r14_Left_ok a0 ((a0.Reservations.getD iv1 default).Number)) fun rv3 cv3 =>
.reg 8 [] [(4, hc cv3 [] true)] [.cl 0 cv3 [] 2 true] <|
.ret [] (.cont (IntKind.i64.wrap (sv2 + rv3)))) (
.ret [] (.cont sv2))

noncomputable def S_r14_Sums_b2 (a0 : TApiBook) (a1 : List UInt8) (a2 : Int) (iv4 : Nat) (sv5 : Int) : Scr Tryz.prog R_r14_Sums (Step (Int) R_r14_Sums) :=
.reg 12 [] [] [.pf (nn iv4), .ev 0] <|
.guard [(0 : Int) ≤ (IntKind.i64.wrap (((a0.Commitments.getD iv4 default).Reservation) - 1)), ((IntKind.i64.wrap (((a0.Commitments.getD iv4 default).Reservation) - 1))).toNat < a0.Reservations.length] <|
.reg 13 [] [] [.ev 0, .ev 1] <|
.ite (bif (((a0.Reservations.getD (((IntKind.i64.wrap (((a0.Commitments.getD iv4 default).Reservation) - 1))).toNat) default).Code) == a1) then (((a0.Reservations.getD (((IntKind.i64.wrap (((a0.Commitments.getD iv4 default).Reservation) - 1))).toNat) default).Year) == a2) else false) (
.ret [] (.cont (IntKind.i64.wrap (sv5 + (IntKind.i64.wrap (((a0.Commitments.getD iv4 default).Amount) - ((a0.Commitments.getD iv4 default).Released))))))) (
.ret [] (.cont sv5))

noncomputable def S_r14_Sums_b3 (a0 : TApiBook) (a1 : List UInt8) (a2 : Int) (iv6 : Nat) (sv7 : Int × Int) : Scr Tryz.prog R_r14_Sums (Step (Int × Int) R_r14_Sums) :=
.reg 19 [] [] [.pf (nn iv6), .ev 0] <|
.guard [(0 : Int) ≤ (IntKind.i64.wrap (((a0.Verifications.getD iv6 default).Commitment) - 1)), ((IntKind.i64.wrap (((a0.Verifications.getD iv6 default).Commitment) - 1))).toNat < a0.Commitments.length, (0 : Int) ≤ (IntKind.i64.wrap (((a0.Commitments.getD (((IntKind.i64.wrap (((a0.Verifications.getD iv6 default).Commitment) - 1))).toNat) default).Reservation) - 1)), ((IntKind.i64.wrap (((a0.Commitments.getD (((IntKind.i64.wrap (((a0.Verifications.getD iv6 default).Commitment) - 1))).toNat) default).Reservation) - 1))).toNat < a0.Reservations.length] <|
.reg 20 [13, 14] [] [.ev 0, .ev 1, .ev 0, .ev 1, .ev 2, .ev 3, .ev 2, .ev 3] <|
.ite (bif (!(((a0.Reservations.getD (((IntKind.i64.wrap (((a0.Commitments.getD (((IntKind.i64.wrap (((a0.Verifications.getD iv6 default).Commitment) - 1))).toNat) default).Reservation) - 1))).toNat) default).Code) == a1)) then true else (((a0.Reservations.getD (((IntKind.i64.wrap (((a0.Commitments.getD (((IntKind.i64.wrap (((a0.Verifications.getD iv6 default).Commitment) - 1))).toNat) default).Reservation) - 1))).toNat) default).Year) != a2)) (
.ret [] (.cont (sv7.1, sv7.2))) (
.call (@F_r14_last_ok a0 ((a0.Verifications.getD iv6 default).Number)) fun rv8 cv8 =>
.reg 23 [] [(3, hc cv8 [] true)] [.cl 0 cv8 [] 3 true] <|
.ite (bif (decide (rv8.2 > 0)) then (!rv8.1.Back) else false) (
.ret [] (.cont ((IntKind.i64.wrap (sv7.1 + ((a0.Verifications.getD iv6 default).Amount))), (IntKind.i64.wrap (sv7.2 + ((a0.Verifications.getD iv6 default).Amount)))))) (
.ret [] (.cont ((IntKind.i64.wrap (sv7.1 + ((a0.Verifications.getD iv6 default).Amount))), sv7.2))))

noncomputable def S_r14_Sums (a0 : TApiBook) (a1 : List UInt8) (a2 : Int) : Scr Tryz.prog R_r14_Sums R_r14_Sums :=
.call (@F_r14_Valid_ok a0) fun rv9 cv9 =>
.reg 2 [] [(1, hc cv9 [] true)] [.cl 0 cv9 [] 1 true] <|
.ite (!rv9) (
.ret [] (0, 0, 0, 0)) (
.range (a0.Reservations.length : Int) a0.Reservations.length rfl (.slot 28) 30 [1, 2, 3, 11, 12, 13, 28, 29] (fun (sv2 : Int) => [(10, (vi sv2))]) (fun (_ : Int) => []) 0 (S_r14_Sums_b1 a0 a1 a2) (fun (sv2 : Int) => 
.range (a0.Commitments.length : Int) a0.Commitments.length rfl (.slot 52) 54 [1, 2, 3, 10, 12, 13, 52, 53] (fun (sv5 : Int) => [(11, (vi sv5))]) (fun (_ : Int) => []) 0 (S_r14_Sums_b2 a0 a1 a2) (fun (sv5 : Int) => 
.range (a0.Verifications.length : Int) a0.Verifications.length rfl (.slot 84) 86 [1, 2, 3, 10, 11, 84, 85] (fun (sv7 : Int × Int) => [(12, (vi sv7.1)), (13, (vi sv7.2))]) (fun (_ : Int × Int) => []) (0, 0) (S_r14_Sums_b3 a0 a1 a2) (fun (sv7 : Int × Int) => 
.ret [] (sv2, sv5, sv7.1, sv7.2)) id) id) id)

noncomputable def F_r14_Sums (a0 : TApiBook) (a1 : List UInt8) (a2 : Int) : Option R_r14_Sums := (S_r14_Sums a0 a1 a2).den
set_option maxRecDepth 100000 in
theorem F_r14_Sums_ok {a0 : TApiBook} {a1 : List UInt8} {a2 : Int} (r : R_r14_Sums) (h : F_r14_Sums a0 a1 a2 = some r) : CallOk Tryz.prog 32 [(AV.d (TApiBook.e a0)), (AV.d (DV.str a1)), (vi a2)] [] (V_r14_Sums r) (L_r14_Sums r) := fOk (s := S_r14_Sums a0 a1 a2) Tryz.func32 rfl (by kernel_rfl) h

/-! 33 -/
abbrev R_r14_Used := Int
def V_r14_Used (x : R_r14_Used) : AV := (vi x)
def L_r14_Used (_ : R_r14_Used) : List Ob := []
noncomputable def S_r14_Used_b1 (a0 : TApiBook) (iv1 : Nat) (iv2 : Nat) (sv3 : Int) : Scr Tryz.prog R_r14_Used (Step (Int) R_r14_Used) :=
.reg 9 [] [] [.pf (nn iv2), .ev 0] <|
.ite (((a0.Commitments.getD iv2 default).Reservation) == ((a0.Reservations.getD iv1 default).Number)) (
.ret [] (.cont (IntKind.i64.wrap (sv3 - ((a0.Commitments.getD iv2 default).Released))))) (
.ret [] (.cont sv3))

noncomputable def S_r14_Used_b2 (a0 : TApiBook) (a1 : List UInt8) (a2 : Int) (iv1 : Nat) (sv4 : Int) : Scr Tryz.prog R_r14_Used (Step (Int) R_r14_Used) :=
.reg 4 [] [] [.pf (nn iv1), .ev 0] <|
.ite (bif (!(((a0.Reservations.getD iv1 default).Code) == a1)) then true else (((a0.Reservations.getD iv1 default).Year) != a2)) (
.ret [] (.cont sv4)) (
.range (a0.Commitments.length : Int) a0.Commitments.length rfl (.slot 37) 39 [1, 2, 3, 9, 13, 14, 15, 37, 38] (fun (sv3 : Int) => [(7, (vi sv3))]) (fun (_ : Int) => []) (IntKind.i64.wrap (sv4 + (IntKind.i64.wrap (((a0.Reservations.getD iv1 default).Amount) - ((a0.Reservations.getD iv1 default).Released))))) (S_r14_Used_b1 a0 iv1) (fun (sv3 : Int) => 
.ret [] (.cont sv3)) .ret)

noncomputable def S_r14_Used (a0 : TApiBook) (a1 : List UInt8) (a2 : Int) : Scr Tryz.prog R_r14_Used R_r14_Used :=
.range (a0.Reservations.length : Int) a0.Reservations.length rfl (.slot 13) 15 [1, 2, 3, 13, 14] (fun (sv4 : Int) => [(7, (vi sv4))]) (fun (_ : Int) => []) 0 (S_r14_Used_b2 a0 a1 a2) (fun (sv4 : Int) => 
.ret [] sv4) id

noncomputable def F_r14_Used (a0 : TApiBook) (a1 : List UInt8) (a2 : Int) : Option R_r14_Used := (S_r14_Used a0 a1 a2).den
set_option maxRecDepth 100000 in
theorem F_r14_Used_ok {a0 : TApiBook} {a1 : List UInt8} {a2 : Int} (r : R_r14_Used) (h : F_r14_Used a0 a1 a2 = some r) : CallOk Tryz.prog 33 [(AV.d (TApiBook.e a0)), (AV.d (DV.str a1)), (vi a2)] [] (V_r14_Used r) (L_r14_Used r) := fOk (s := S_r14_Used a0 a1 a2) Tryz.func33 rfl (by kernel_rfl) h

/-! 36 -/
abbrev R_commitment_Open := (List TApiOpen)
def V_commitment_Open (x : R_commitment_Open) : AV := (AV.d (eL TApiOpen.e x))
def L_commitment_Open (_ : R_commitment_Open) : List Ob := []
noncomputable def S_commitment_Open_b1 (a0 : TApiBook) (a1 : Int) (a2 : Int) (iv1 : Nat) (sv2 : (List TApiOpen)) : Scr Tryz.prog R_commitment_Open (Step ((List TApiOpen)) R_commitment_Open) :=
.reg 6 [] [] [.pf (nn iv1), .ev 0] <|
.guard [(0 : Int) ≤ (IntKind.i64.wrap (((a0.Commitments.getD iv1 default).Reservation) - 1)), ((IntKind.i64.wrap (((a0.Commitments.getD iv1 default).Reservation) - 1))).toNat < a0.Reservations.length] <|
.reg 7 [] [] [.ev 0, .ev 1] <|
.call (@F_commitment_open_ok a0 (a0.Commitments.getD iv1 default)) fun rv3 cv3 =>
.reg 8 [] [(2, hc cv3 [] true)] [.cl 0 cv3 [] 4 true] <|
.ite (bif (((a0.Reservations.getD (((IntKind.i64.wrap (((a0.Commitments.getD iv1 default).Reservation) - 1))).toNat) default).Year) == a2) then (decide (rv3 > 0)) else false) (
.guard [(sv2.length + 1) * (2 * 48) ≤ 2 ^ 48] <|
.reg 10 [] [(10, hv (AV.d (eL TApiOpen.e ([(⟨a1, (a0.Commitments.getD iv1 default).Number, (a0.Reservations.getD (((IntKind.i64.wrap (((a0.Commitments.getD iv1 default).Reservation) - 1))).toNat) default).Code, (a0.Reservations.getD (((IntKind.i64.wrap (((a0.Commitments.getD iv1 default).Reservation) - 1))).toNat) default).Year, rv3⟩ : TApiOpen)] : List TApiOpen)))), (11, { h := .obj, cast := some (AV.ref 1 ((sv2 ++ ([(⟨a1, (a0.Commitments.getD iv1 default).Number, (a0.Reservations.getD (((IntKind.i64.wrap (((a0.Commitments.getD iv1 default).Reservation) - 1))).toNat) default).Code, (a0.Reservations.getD (((IntKind.i64.wrap (((a0.Commitments.getD iv1 default).Reservation) - 1))).toNat) default).Year, rv3⟩ : TApiOpen)] : List TApiOpen)).length) 0 ((sv2 ++ ([(⟨a1, (a0.Commitments.getD iv1 default).Number, (a0.Reservations.getD (((IntKind.i64.wrap (((a0.Commitments.getD iv1 default).Reservation) - 1))).toNat) default).Code, (a0.Reservations.getD (((IntKind.i64.wrap (((a0.Commitments.getD iv1 default).Reservation) - 1))).toNat) default).Year, rv3⟩ : TApiOpen)] : List TApiOpen)).length)), obs := [(1, (eS 5 TApiOpen.e (sv2 ++ ([(⟨a1, (a0.Commitments.getD iv1 default).Number, (a0.Reservations.getD (((IntKind.i64.wrap (((a0.Commitments.getD iv1 default).Reservation) - 1))).toNat) default).Code, (a0.Reservations.getD (((IntKind.i64.wrap (((a0.Commitments.getD iv1 default).Reservation) - 1))).toNat) default).Year, rv3⟩ : TApiOpen)] : List TApiOpen))))] })] [.pf (leV_lit TApiOpen.e ([(⟨a1, (a0.Commitments.getD iv1 default).Number, (a0.Reservations.getD (((IntKind.i64.wrap (((a0.Commitments.getD iv1 default).Reservation) - 1))).toNat) default).Code, (a0.Reservations.getD (((IntKind.i64.wrap (((a0.Commitments.getD iv1 default).Reservation) - 1))).toNat) default).Year, rv3⟩ : TApiOpen)] : List TApiOpen)), .pf (Eq.refl sv2.length), .pf (Eq.refl sv2.length), .pf (p := ∀ k, k < 1 → (AV.d (TApiOpen.e (([(⟨a1, (a0.Commitments.getD iv1 default).Number, (a0.Reservations.getD (((IntKind.i64.wrap (((a0.Commitments.getD iv1 default).Reservation) - 1))).toNat) default).Code, (a0.Reservations.getD (((IntKind.i64.wrap (((a0.Commitments.getD iv1 default).Reservation) - 1))).toNat) default).Year, rv3⟩ : TApiOpen)] : List TApiOpen).getD k default))).wd = 5) (fun _ _ => rfl), .ev 0, .pf (leV_app (o := 1) (l := sv2) (x := ([(⟨a1, (a0.Commitments.getD iv1 default).Number, (a0.Reservations.getD (((IntKind.i64.wrap (((a0.Commitments.getD iv1 default).Reservation) - 1))).toNat) default).Code, (a0.Reservations.getD (((IntKind.i64.wrap (((a0.Commitments.getD iv1 default).Reservation) - 1))).toNat) default).Year, rv3⟩ : TApiOpen)] : List TApiOpen))), .pf (oLe_app (sz := 5) (e := TApiOpen.e) (l := sv2) (x := ([(⟨a1, (a0.Commitments.getD iv1 default).Number, (a0.Reservations.getD (((IntKind.i64.wrap (((a0.Commitments.getD iv1 default).Reservation) - 1))).toNat) default).Code, (a0.Reservations.getD (((IntKind.i64.wrap (((a0.Commitments.getD iv1 default).Reservation) - 1))).toNat) default).Year, rv3⟩ : TApiOpen)] : List TApiOpen)))] <|
.ret [] (.cont (sv2 ++ ([(⟨a1, (a0.Commitments.getD iv1 default).Number, (a0.Reservations.getD (((IntKind.i64.wrap (((a0.Commitments.getD iv1 default).Reservation) - 1))).toNat) default).Code, (a0.Reservations.getD (((IntKind.i64.wrap (((a0.Commitments.getD iv1 default).Reservation) - 1))).toNat) default).Year, rv3⟩ : TApiOpen)] : List TApiOpen)))) (
.ret [] (.cont sv2))

noncomputable def S_commitment_Open (a0 : TApiBook) (a1 : Int) (a2 : Int) : Scr Tryz.prog R_commitment_Open R_commitment_Open :=
.call (@F_commitment_Valid_ok a0) fun rv4 cv4 =>
.reg 1 [] [(1, hc cv4 [] true)] [.cl 0 cv4 [] 1 true] <|
.ite (!rv4) (
.ret [.pf (p := LeV (AV.full 0 fun _ => DV.b false) (AV.d (eL TApiOpen.e ([])))) (lvN TApiOpen.e)] ([])) (
.reg 4 [] [] [] <|
.bor 5 (fun j => AV.d (TApiOpen.e (([] : List TApiOpen).getD j default))) [7] <|
.range (a0.Commitments.length : Int) a0.Commitments.length rfl (.slot 16) 18 [1, 2, 3, 16, 17] (fun (sv2 : (List TApiOpen)) => [(7, (AV.ref 1 sv2.length 0 sv2.length))]) (fun (sv2 : (List TApiOpen)) => [(1, (eS 5 TApiOpen.e sv2))]) ([] : List TApiOpen) (S_commitment_Open_b1 a0 a1 a2) (fun (sv2 : (List TApiOpen)) => 
.guard [sv2.length < 2 ^ 63] <|
.reg 12 [] [] [] <|
.frz 1 (.ev 0) none [6] [] <|
.ret [] sv2) id)

noncomputable def F_commitment_Open (a0 : TApiBook) (a1 : Int) (a2 : Int) : Option R_commitment_Open := (S_commitment_Open a0 a1 a2).den
set_option maxRecDepth 100000 in
theorem F_commitment_Open_ok {a0 : TApiBook} {a1 : Int} {a2 : Int} (r : R_commitment_Open) (h : F_commitment_Open a0 a1 a2 = some r) : CallOk Tryz.prog 36 [(AV.d (TApiBook.e a0)), (vi a1), (vi a2)] [] (V_commitment_Open r) (L_commitment_Open r) := fOk (s := S_commitment_Open a0 a1 a2) Tryz.func36 rfl (by kernel_rfl) h

/-! 37 -/
abbrev R_r14_Open := (List TApiOpen)
def V_r14_Open (x : R_r14_Open) : AV := (AV.d (eL TApiOpen.e x))
def L_r14_Open (_ : R_r14_Open) : List Ob := []
noncomputable def S_r14_Open_b1 (a0 : TApiBook) (a1 : Int) (a2 : Int) (iv1 : Nat) (sv2 : (List TApiOpen)) : Scr Tryz.prog R_r14_Open (Step ((List TApiOpen)) R_r14_Open) :=
.reg 6 [] [] [.pf (nn iv1), .ev 0] <|
.guard [(0 : Int) ≤ (IntKind.i64.wrap (((a0.Commitments.getD iv1 default).Reservation) - 1)), ((IntKind.i64.wrap (((a0.Commitments.getD iv1 default).Reservation) - 1))).toNat < a0.Reservations.length] <|
.reg 7 [] [] [.ev 0, .ev 1] <|
.call (@F_r14_rest_ok a0 (a0.Commitments.getD iv1 default)) fun rv3 cv3 =>
.reg 8 [] [(2, hc cv3 [] true)] [.cl 0 cv3 [] 4 true] <|
.ite (bif (((a0.Reservations.getD (((IntKind.i64.wrap (((a0.Commitments.getD iv1 default).Reservation) - 1))).toNat) default).Year) == a2) then (decide (rv3 > 0)) else false) (
.guard [(sv2.length + 1) * (2 * 48) ≤ 2 ^ 48] <|
.reg 10 [] [(10, hv (AV.d (eL TApiOpen.e ([(⟨a1, (a0.Commitments.getD iv1 default).Number, (a0.Reservations.getD (((IntKind.i64.wrap (((a0.Commitments.getD iv1 default).Reservation) - 1))).toNat) default).Code, (a0.Reservations.getD (((IntKind.i64.wrap (((a0.Commitments.getD iv1 default).Reservation) - 1))).toNat) default).Year, rv3⟩ : TApiOpen)] : List TApiOpen)))), (11, { h := .obj, cast := some (AV.ref 1 ((sv2 ++ ([(⟨a1, (a0.Commitments.getD iv1 default).Number, (a0.Reservations.getD (((IntKind.i64.wrap (((a0.Commitments.getD iv1 default).Reservation) - 1))).toNat) default).Code, (a0.Reservations.getD (((IntKind.i64.wrap (((a0.Commitments.getD iv1 default).Reservation) - 1))).toNat) default).Year, rv3⟩ : TApiOpen)] : List TApiOpen)).length) 0 ((sv2 ++ ([(⟨a1, (a0.Commitments.getD iv1 default).Number, (a0.Reservations.getD (((IntKind.i64.wrap (((a0.Commitments.getD iv1 default).Reservation) - 1))).toNat) default).Code, (a0.Reservations.getD (((IntKind.i64.wrap (((a0.Commitments.getD iv1 default).Reservation) - 1))).toNat) default).Year, rv3⟩ : TApiOpen)] : List TApiOpen)).length)), obs := [(1, (eS 5 TApiOpen.e (sv2 ++ ([(⟨a1, (a0.Commitments.getD iv1 default).Number, (a0.Reservations.getD (((IntKind.i64.wrap (((a0.Commitments.getD iv1 default).Reservation) - 1))).toNat) default).Code, (a0.Reservations.getD (((IntKind.i64.wrap (((a0.Commitments.getD iv1 default).Reservation) - 1))).toNat) default).Year, rv3⟩ : TApiOpen)] : List TApiOpen))))] })] [.pf (leV_lit TApiOpen.e ([(⟨a1, (a0.Commitments.getD iv1 default).Number, (a0.Reservations.getD (((IntKind.i64.wrap (((a0.Commitments.getD iv1 default).Reservation) - 1))).toNat) default).Code, (a0.Reservations.getD (((IntKind.i64.wrap (((a0.Commitments.getD iv1 default).Reservation) - 1))).toNat) default).Year, rv3⟩ : TApiOpen)] : List TApiOpen)), .pf (Eq.refl sv2.length), .pf (Eq.refl sv2.length), .pf (p := ∀ k, k < 1 → (AV.d (TApiOpen.e (([(⟨a1, (a0.Commitments.getD iv1 default).Number, (a0.Reservations.getD (((IntKind.i64.wrap (((a0.Commitments.getD iv1 default).Reservation) - 1))).toNat) default).Code, (a0.Reservations.getD (((IntKind.i64.wrap (((a0.Commitments.getD iv1 default).Reservation) - 1))).toNat) default).Year, rv3⟩ : TApiOpen)] : List TApiOpen).getD k default))).wd = 5) (fun _ _ => rfl), .ev 0, .pf (leV_app (o := 1) (l := sv2) (x := ([(⟨a1, (a0.Commitments.getD iv1 default).Number, (a0.Reservations.getD (((IntKind.i64.wrap (((a0.Commitments.getD iv1 default).Reservation) - 1))).toNat) default).Code, (a0.Reservations.getD (((IntKind.i64.wrap (((a0.Commitments.getD iv1 default).Reservation) - 1))).toNat) default).Year, rv3⟩ : TApiOpen)] : List TApiOpen))), .pf (oLe_app (sz := 5) (e := TApiOpen.e) (l := sv2) (x := ([(⟨a1, (a0.Commitments.getD iv1 default).Number, (a0.Reservations.getD (((IntKind.i64.wrap (((a0.Commitments.getD iv1 default).Reservation) - 1))).toNat) default).Code, (a0.Reservations.getD (((IntKind.i64.wrap (((a0.Commitments.getD iv1 default).Reservation) - 1))).toNat) default).Year, rv3⟩ : TApiOpen)] : List TApiOpen)))] <|
.ret [] (.cont (sv2 ++ ([(⟨a1, (a0.Commitments.getD iv1 default).Number, (a0.Reservations.getD (((IntKind.i64.wrap (((a0.Commitments.getD iv1 default).Reservation) - 1))).toNat) default).Code, (a0.Reservations.getD (((IntKind.i64.wrap (((a0.Commitments.getD iv1 default).Reservation) - 1))).toNat) default).Year, rv3⟩ : TApiOpen)] : List TApiOpen)))) (
.ret [] (.cont sv2))

noncomputable def S_r14_Open (a0 : TApiBook) (a1 : Int) (a2 : Int) : Scr Tryz.prog R_r14_Open R_r14_Open :=
.call (@F_r14_Valid_ok a0) fun rv4 cv4 =>
.reg 2 [] [(1, hc cv4 [] true)] [.cl 0 cv4 [] 1 true] <|
.ite (!rv4) (
.ret [.pf (p := LeV (AV.full 0 fun _ => DV.b false) (AV.d (eL TApiOpen.e ([])))) (lvN TApiOpen.e)] ([])) (
.reg 4 [] [] [] <|
.bor 5 (fun j => AV.d (TApiOpen.e (([] : List TApiOpen).getD j default))) [7] <|
.range (a0.Commitments.length : Int) a0.Commitments.length rfl (.slot 16) 18 [1, 2, 3, 16, 17] (fun (sv2 : (List TApiOpen)) => [(7, (AV.ref 1 sv2.length 0 sv2.length))]) (fun (sv2 : (List TApiOpen)) => [(1, (eS 5 TApiOpen.e sv2))]) ([] : List TApiOpen) (S_r14_Open_b1 a0 a1 a2) (fun (sv2 : (List TApiOpen)) => 
.guard [sv2.length < 2 ^ 63] <|
.reg 12 [] [] [] <|
.frz 1 (.ev 0) none [6] [] <|
.ret [] sv2) id)

noncomputable def F_r14_Open (a0 : TApiBook) (a1 : Int) (a2 : Int) : Option R_r14_Open := (S_r14_Open a0 a1 a2).den
set_option maxRecDepth 100000 in
theorem F_r14_Open_ok {a0 : TApiBook} {a1 : Int} {a2 : Int} (r : R_r14_Open) (h : F_r14_Open a0 a1 a2 = some r) : CallOk Tryz.prog 37 [(AV.d (TApiBook.e a0)), (vi a1), (vi a2)] [] (V_r14_Open r) (L_r14_Open r) := fOk (s := S_r14_Open a0 a1 a2) Tryz.func37 rfl (by kernel_rfl) h

/-! 35 -/
abbrev R_w14_opens := Bool
def V_w14_opens (x : R_w14_opens) : AV := (vb x)
def L_w14_opens (_ : R_w14_opens) : List Ob := []
noncomputable def S_w14_opens_b1 (a0 : (List TApiOpen)) (a1 : (List TApiOpen)) (iv1 : Nat) (_ : Unit) : Scr Tryz.prog R_w14_opens (Step (Unit) R_w14_opens) :=
.guard [iv1 < a1.length] <|
.reg 6 [] [] [.pf (nn iv1), .ev 1, .pf (nn iv1), .ev 0] <|
.ite (!((((a0.getD iv1 default).Office) == ((a1.getD iv1 default).Office)) && ((((a0.getD iv1 default).Commitment) == ((a1.getD iv1 default).Commitment)) && ((((a0.getD iv1 default).Code) == ((a1.getD iv1 default).Code)) && ((((a0.getD iv1 default).Year) == ((a1.getD iv1 default).Year)) && ((((a0.getD iv1 default).Amount) == ((a1.getD iv1 default).Amount)) && true)))))) (
.ret [] (.ret false)) (
.ret [] (.cont ()))

noncomputable def S_w14_opens (a0 : (List TApiOpen)) (a1 : (List TApiOpen)) : Scr Tryz.prog R_w14_opens R_w14_opens :=
.ite ((a0.length : Int) != (a1.length : Int)) (
.ret [] false) (
.range (a0.length : Int) a0.length rfl (.slot 0) 13 [0, 1, 12] (fun (_ : Unit) => []) (fun (_ : Unit) => []) () (S_w14_opens_b1 a0 a1) (fun (_ : Unit) => 
.ret [] true) id)

noncomputable def F_w14_opens (a0 : (List TApiOpen)) (a1 : (List TApiOpen)) : Option R_w14_opens := (S_w14_opens a0 a1).den
set_option maxRecDepth 100000 in
theorem F_w14_opens_ok {a0 : (List TApiOpen)} {a1 : (List TApiOpen)} (r : R_w14_opens) (h : F_w14_opens a0 a1 = some r) : CallOk Tryz.prog 35 [(AV.d (eL TApiOpen.e a0)), (AV.d (eL TApiOpen.e a1))] [] (V_w14_opens r) (L_w14_opens r) := fOk (s := S_w14_opens a0 a1) Tryz.func35 rfl (by kernel_rfl) h

/-! 6 -/
abbrev R_w14_CommitmentAnswers := Bool
def V_w14_CommitmentAnswers (x : R_w14_CommitmentAnswers) : AV := (vb x)
def L_w14_CommitmentAnswers (_ : R_w14_CommitmentAnswers) : List Ob := []
noncomputable def S_w14_CommitmentAnswers_b1 (a1 : TApiBook) (a2 : List UInt8) (a3 : Int) (rv1 : R_mk_Book) (rv2 : R_mk_BentBook) (rv3 : R_mk_BentBook) (iv4 : Nat) (iv5 : Nat) (rv6 : R_mk_PotCode) (iv7 : Nat) (_ : Unit) : Scr Tryz.prog R_w14_CommitmentAnswers (Step (Unit) R_w14_CommitmentAnswers) :=
.reg 15 [] [] [.pf (nn iv7), .ev 0] <|
.call (@F_commitment_Sums_ok (([rv1.1, rv2.1, rv3.1, a1] : List TApiBook).getD iv4 default) (([a2, rv6.1] : List (List UInt8)).getD iv7 default) (([a3, 12, 13] : List Int).getD iv5 default)) fun rv8 cv8 =>
.reg 16 [] [(3, hc cv8 [] true)] [.cl 0 cv8 [] 4 true] <|
.call (@F_r14_Sums_ok (([rv1.1, rv2.1, rv3.1, a1] : List TApiBook).getD iv4 default) (([a2, rv6.1] : List (List UInt8)).getD iv7 default) (([a3, 12, 13] : List Int).getD iv5 default)) fun rv9 cv9 =>
.reg 17 [] [(3, hc cv9 [] true)] [.cl 0 cv9 [] 4 true] <|
.call (@F_commitment_Used_ok (([rv1.1, rv2.1, rv3.1, a1] : List TApiBook).getD iv4 default) (([a2, rv6.1] : List (List UInt8)).getD iv7 default) (([a3, 12, 13] : List Int).getD iv5 default)) fun rv10 cv10 =>
.call (@F_r14_Used_ok (([rv1.1, rv2.1, rv3.1, a1] : List TApiBook).getD iv4 default) (([a2, rv6.1] : List (List UInt8)).getD iv7 default) (([a3, 12, 13] : List Int).getD iv5 default)) fun rv11 cv11 =>
.reg 18 [] [(3, hc cv10 [] true), (7, hc cv11 [] true)] [.cl 1 cv10 [] 4 true, .cl 0 cv11 [] 4 true] <|
.ite (bif (bif (bif (bif (rv10 != rv11) then true else (rv8.1 != rv9.1)) then true else (rv8.2.1 != rv9.2.1)) then true else (rv8.2.2.1 != rv9.2.2.1)) then true else (rv8.2.2.2 != rv9.2.2.2)) (
.ret [] (.ret false)) (
.ret [] (.cont ()))

noncomputable def S_w14_CommitmentAnswers_b2 (a1 : TApiBook) (a2 : List UInt8) (a3 : Int) (a4 : Int) (rv1 : R_mk_Book) (rv2 : R_mk_BentBook) (rv3 : R_mk_BentBook) (iv4 : Nat) (iv5 : Nat) (sv12 : TTreasurymakeTape) : Scr Tryz.prog R_w14_CommitmentAnswers (Step (TTreasurymakeTape) R_w14_CommitmentAnswers) :=
.reg 12 [] [] [.pf (nn iv5), .ev 0] <|
.call (@F_mk_PotCode_ok sv12) fun rv6 cv6 =>
.reg 13 [] [(2, hc cv6 [1] false), (3, hv (AV.d (eL DV.str ([a2, rv6.1] : List (List UInt8)))))] [.cl 0 cv6 [1] 4 false, .pf (leV_lit DV.str ([a2, rv6.1] : List (List UInt8)))] <|
.range 2 2 rfl (.why (.pf (p := 2 < 2 ^ 63) (by decide))) 84 [2, 3, 4, 11, 14, 16, 51, 52, 53, 73, 74, 75, 82, 83] (fun (_ : Unit) => []) (fun (_ : Unit) => []) () (S_w14_CommitmentAnswers_b1 a1 a2 a3 rv1 rv2 rv3 iv4 iv5 rv6) (fun (_ : Unit) => 
.call (@F_mk_Tape_N_ok 4 rv6.2) fun rv13 cv13 =>
.reg 21 [] [(1, hc cv13 [1] false)] [.cl 0 cv13 [1] 4 false] <|
.call (@F_commitment_Left_ok (([rv1.1, rv2.1, rv3.1, a1] : List TApiBook).getD iv4 default) (([a3, 12, 13] : List Int).getD iv5 default)) fun rv14 cv14 =>
.call (@F_r14_Left_ok (([rv1.1, rv2.1, rv3.1, a1] : List TApiBook).getD iv4 default) (([a3, 12, 13] : List Int).getD iv5 default)) fun rv15 cv15 =>
.calld [(rv14 != rv15) = false] default (@F_commitment_Left_ok (([rv1.1, rv2.1, rv3.1, a1] : List TApiBook).getD iv4 default) (IntKind.i64.wrap (1 + rv13.1))) fun rv16 cv16 =>
.calld [(rv14 != rv15) = false] default (@F_r14_Left_ok (([rv1.1, rv2.1, rv3.1, a1] : List TApiBook).getD iv4 default) (IntKind.i64.wrap (1 + rv13.1))) fun rv17 cv17 =>
.calld [(bif (rv14 != rv15) then true else (rv16 != rv17)) = false] default (@F_commitment_Open_ok (([rv1.1, rv2.1, rv3.1, a1] : List TApiBook).getD iv4 default) a4 (([a3, 12, 13] : List Int).getD iv5 default)) fun rv18 cv18 =>
.calld [(bif (rv14 != rv15) then true else (rv16 != rv17)) = false] default (@F_r14_Open_ok (([rv1.1, rv2.1, rv3.1, a1] : List TApiBook).getD iv4 default) a4 (([a3, 12, 13] : List Int).getD iv5 default)) fun rv19 cv19 =>
.calld [(bif (rv14 != rv15) then true else (rv16 != rv17)) = false] default (@F_w14_opens_ok rv18 rv19) fun rv20 cv20 =>
.reg 22 [] [(2, hc cv14 [] true), (5, hc cv15 [] true), (10, hc cv16 [] true), (13, hc cv17 [] true), (20, hc cv18 [] true), (24, hc cv19 [] true), (25, hc cv20 [] true)] [.cl 11 cv14 [] 4 true, .cl 10 cv15 [] 4 true, .clg 8 [(rv14 != rv15) = false] cv16 [] 4 true, .clg 6 [(rv14 != rv15) = false] cv17 [] 4 true, .clg 4 [(bif (rv14 != rv15) then true else (rv16 != rv17)) = false] cv18 [] 4 true, .clg 2 [(bif (rv14 != rv15) then true else (rv16 != rv17)) = false] cv19 [] 4 true, .clg 0 [(bif (rv14 != rv15) then true else (rv16 != rv17)) = false] cv20 [] 4 true] <|
.ite (bif (bif (rv14 != rv15) then true else (rv16 != rv17)) then true else (!rv20)) (
.ret [] (.ret false)) (
.ret [] (.cont rv13.2))) .ret

noncomputable def S_w14_CommitmentAnswers_b3 (a1 : TApiBook) (a2 : List UInt8) (a3 : Int) (a4 : Int) (rv1 : R_mk_Book) (rv2 : R_mk_BentBook) (rv3 : R_mk_BentBook) (iv4 : Nat) (sv21 : TTreasurymakeTape) : Scr Tryz.prog R_w14_CommitmentAnswers (Step (TTreasurymakeTape) R_w14_CommitmentAnswers) :=
.reg 7 [] [(2, { obs := [(3, (bx (TApiBook.e (⟨[], [], [], []⟩ : TApiBook))))] })] [.pf (nn iv4), .ev 0, .pf (p := OLe (bx (DV.agg [(DV.sl 0 fun _ => DV.b false), (DV.sl 0 fun _ => DV.b false), (DV.sl 0 fun _ => DV.b false), (DV.sl 0 fun _ => DV.b false)])) (bx (TApiBook.e (⟨[], [], [], []⟩ : TApiBook)))) (oLe_box (DLe.agg (DLeL.cons DLe.sl0 (DLeL.cons DLe.sl0 (DLeL.cons DLe.sl0 (DLeL.cons DLe.sl0 DLeL.nil))))))] <|
.call (@F_commitment_Valid_ok (([rv1.1, rv2.1, rv3.1, a1] : List TApiBook).getD iv4 default)) fun rv22 cv22 =>
.call (@F_r14_Valid_ok (([rv1.1, rv2.1, rv3.1, a1] : List TApiBook).getD iv4 default)) fun rv23 cv23 =>
.calld [(!(rv22 == rv23)) = false] default (@F_commitment_Unpaid_ok (([rv1.1, rv2.1, rv3.1, a1] : List TApiBook).getD iv4 default) a4) fun rv24 cv24 =>
.calld [(!(rv22 == rv23)) = false] default (@F_r14_Unpaid_ok (([rv1.1, rv2.1, rv3.1, a1] : List TApiBook).getD iv4 default) a4) fun rv25 cv25 =>
.calld [(!(rv22 == rv23)) = false] default (@F_w14_owed_ok rv24 rv25) fun rv26 cv26 =>
.reg 8 [] [(1, hc cv22 [] true), (3, hc cv23 [] true), (8, hc cv24 [] true), (11, hc cv25 [] true), (12, hc cv26 [] true)] [.cl 7 cv22 [] 4 true, .cl 6 cv23 [] 4 true, .clg 4 [(!(rv22 == rv23)) = false] cv24 [] 4 true, .clg 2 [(!(rv22 == rv23)) = false] cv25 [] 4 true, .clg 0 [(!(rv22 == rv23)) = false] cv26 [] 4 true] <|
.ite (bif (!(rv22 == rv23)) then true else (!rv26)) (
.ret [] (.ret false)) (
.reg 10 [] [(1, hv (vl ([a3, 12, 13] : List Int)))] [.pf (leV_lit (DV.i .i64) ([a3, 12, 13] : List Int))] <|
.range 3 3 rfl (.why (.pf (p := 3 < 2 ^ 63) (by decide))) 75 [2, 3, 4, 11, 14, 51, 52, 53, 73, 74] (fun (_ : TTreasurymakeTape) => []) (fun (sv12 : TTreasurymakeTape) => [(1, (bx (TTreasurymakeTape.e sv12)))]) sv21 (S_w14_CommitmentAnswers_b2 a1 a2 a3 a4 rv1 rv2 rv3 iv4) (fun (sv12 : TTreasurymakeTape) => 
.ret [] (.cont sv12)) .ret)

noncomputable def S_w14_CommitmentAnswers (a0 : (List Int)) (a1 : TApiBook) (a2 : List UInt8) (a3 : Int) (a4 : Int) : Scr Tryz.prog R_w14_CommitmentAnswers R_w14_CommitmentAnswers :=
.call (@F_mk_SmallBook_ok a1) fun rv27 cv27 =>
.reg 1 [] [(1, hc cv27 [] true)] [.cl 0 cv27 [] 1 true] <|
.ite (bif (!rv27) then true else (decide ((a2.length : Int) > 60))) (
.call (@F_w14_awake_ok) fun rv28 cv28 =>
.reg 2 [] [(0, hc cv28 [] true)] [.cl 0 cv28 [] 1 true] <|
.ret [] rv28) (
.call (@F_mk_New_ok a0) fun rv29 cv29 =>
.reg 3 [] [(1, hc cv29 [] false)] [.cl 0 cv29 [] 1 false] <|
.call (@F_mk_Book_ok 20 rv29) fun rv1 cv1 =>
.reg 4 [] [(1, hc cv1 [1] false), (2, { obs := [(2, (bx (TApiBook.e (⟨[], [], [], []⟩ : TApiBook))))] })] [.cl 0 cv1 [1] 2 false, .pf (p := OLe (bx (DV.agg [(DV.sl 0 fun _ => DV.b false), (DV.sl 0 fun _ => DV.b false), (DV.sl 0 fun _ => DV.b false), (DV.sl 0 fun _ => DV.b false)])) (bx (TApiBook.e (⟨[], [], [], []⟩ : TApiBook)))) (oLe_box (DLe.agg (DLeL.cons DLe.sl0 (DLeL.cons DLe.sl0 (DLeL.cons DLe.sl0 (DLeL.cons DLe.sl0 DLeL.nil))))))] <|
.call (@F_mk_BentBook_ok rv1.1 rv1.2) fun rv2 cv2 =>
.call (@F_mk_BentBook_ok rv1.1 rv2.2) fun rv30 cv30 =>
.call (@F_mk_BentBook_ok rv30.1 rv30.2) fun rv3 cv3 =>
.reg 5 [3, 7, 8] [(3, hc cv2 [1] false), (7, hc cv30 [1] false), (8, hc cv3 [1] false), (10, hv (AV.d (eL TApiBook.e ([rv1.1, rv2.1, rv3.1, a1] : List TApiBook))))] [.cl 2 cv2 [1] 3 false, .cl 1 cv30 [1] 3 false, .cl 0 cv3 [1] 3 false, .pf (leV_lit TApiBook.e ([rv1.1, rv2.1, rv3.1, a1] : List TApiBook))] <|
.range 4 4 rfl (.why (.pf (p := 4 < 2 ^ 63) (by decide))) 53 [2, 3, 4, 11, 51, 52] (fun (_ : TTreasurymakeTape) => []) (fun (sv21 : TTreasurymakeTape) => [(1, (bx (TTreasurymakeTape.e sv21)))]) rv3.2 (S_w14_CommitmentAnswers_b3 a1 a2 a3 a4 rv1 rv2 rv3) (fun (_ : TTreasurymakeTape) => 
.call (@F_w14_awake_ok) fun rv31 cv31 =>
.reg 26 [] [(0, hc cv31 [] true)] [.cl 0 cv31 [] 3 true] <|
.ret [] rv31) id)

noncomputable def F_w14_CommitmentAnswers (a0 : (List Int)) (a1 : TApiBook) (a2 : List UInt8) (a3 : Int) (a4 : Int) : Option R_w14_CommitmentAnswers := (S_w14_CommitmentAnswers a0 a1 a2 a3 a4).den
set_option maxRecDepth 100000 in
theorem F_w14_CommitmentAnswers_ok {a0 : (List Int)} {a1 : TApiBook} {a2 : List UInt8} {a3 : Int} {a4 : Int} (r : R_w14_CommitmentAnswers) (h : F_w14_CommitmentAnswers a0 a1 a2 a3 a4 = some r) : CallOk Tryz.prog 6 [(vl a0), (AV.d (TApiBook.e a1)), (AV.d (DV.str a2)), (vi a3), (vi a4)] [] (V_w14_CommitmentAnswers r) (L_w14_CommitmentAnswers r) := fOk (s := S_w14_CommitmentAnswers a0 a1 a2 a3 a4) Tryz.func6 rfl (by kernel_rfl) h

/-! 73 -/
abbrev R_commitment_Back := TApiBook × Int
def V_commitment_Back (x : R_commitment_Back) : AV := (AV.tup [(AV.d (TApiBook.e x.1)), (vi x.2)])
def L_commitment_Back (_ : R_commitment_Back) : List Ob := []
noncomputable def S_commitment_Back_b1 (a1 : Int) (rv1 : R_commitment_copied_rw) (iv2 : Nat) (_ : Unit) : Scr Tryz.prog R_commitment_Back (Step (Unit) R_commitment_Back) :=
.reg 9 [] [] [.pf (Eq.refl rv1.2.2.2.length), .pf (nn iv2), .ev 0] <|
.guard [(0 + iv2) < rv1.2.2.2.length, AllP [(((rv1.2.2.2.getD (0 + iv2) default).Verification) == a1) = true] → ((0 + iv2) < rv1.2.2.2.length)] <|
.reg 10 [] [] [.pf (Eq.refl rv1.2.2.2.length), .pf (Eq.refl rv1.2.2.2.length), .ev 0, .pf (p := AllP [(((rv1.2.2.2.getD (0 + iv2) default).Verification) == a1) = true] → (rv1.2.2.2.length = rv1.2.2.2.length)) (fun _ => rfl), .pf (p := AllP [(((rv1.2.2.2.getD (0 + iv2) default).Verification) == a1) = true] → (rv1.2.2.2.length = rv1.2.2.2.length)) (fun _ => rfl), .ev 1] <|
.ite (bif (((rv1.2.2.2.getD (0 + iv2) default).Verification) == a1) then (!((rv1.2.2.2.getD (0 + iv2) default).Back)) else false) (
.reg 11 [] [(3, { obs := [(7, (eS 5 TApiOrder.e (rv1.2.2.2.set (0 + iv2) (⟨(rv1.2.2.2.getD (0 + iv2) default).Number, (rv1.2.2.2.getD (0 + iv2) default).Verification, (rv1.2.2.2.getD (0 + iv2) default).Attempt, (rv1.2.2.2.getD (0 + iv2) default).Day, true⟩ : TApiOrder))))] })] [.pf (Eq.refl rv1.2.2.2.length), .pf (Eq.refl rv1.2.2.2.length), .ev 1, .pf (oLe_set (sz := 5) (e := TApiOrder.e) (l := rv1.2.2.2) (i := (0 + iv2)) (x := (⟨(rv1.2.2.2.getD (0 + iv2) default).Number, (rv1.2.2.2.getD (0 + iv2) default).Verification, (rv1.2.2.2.getD (0 + iv2) default).Attempt, (rv1.2.2.2.getD (0 + iv2) default).Day, true⟩ : TApiOrder)) (fun _ => rfl))] <|
.cst (A := True) (.pf trivial) [(2, (vp 0)), (4, (vp 1))] [(2, (vp 0)), (4, (vp 1))] [(Ob.box (AV.agg [(AV.d (eL TApiReservation.e rv1.1)), (AV.d (eL TApiCommitment.e rv1.2.1)), (AV.d (eL TApiVerification.e rv1.2.2.1)), (AV.ref 7 rv1.2.2.2.length 0 rv1.2.2.2.length)])), (bx (TApiBook.e (⟨[], [], [], []⟩ : TApiBook))), Ob.dead, Ob.dead, Ob.dead, Ob.dead, Ob.dead, (eS 5 TApiOrder.e (rv1.2.2.2.set (0 + iv2) (⟨(rv1.2.2.2.getD (0 + iv2) default).Number, (rv1.2.2.2.getD (0 + iv2) default).Verification, (rv1.2.2.2.getD (0 + iv2) default).Attempt, (rv1.2.2.2.getD (0 + iv2) default).Day, true⟩ : TApiOrder)))] [(Ob.box (AV.agg [(AV.d (eL TApiReservation.e rv1.1)), (AV.d (eL TApiCommitment.e rv1.2.1)), (AV.d (eL TApiVerification.e rv1.2.2.1)), (AV.ref 7 ((rv1.2.2.2.set (0 + iv2) (⟨(rv1.2.2.2.getD (0 + iv2) default).Number, (rv1.2.2.2.getD (0 + iv2) default).Verification, (rv1.2.2.2.getD (0 + iv2) default).Attempt, (rv1.2.2.2.getD (0 + iv2) default).Day, true⟩ : TApiOrder)).length) 0 ((rv1.2.2.2.set (0 + iv2) (⟨(rv1.2.2.2.getD (0 + iv2) default).Number, (rv1.2.2.2.getD (0 + iv2) default).Verification, (rv1.2.2.2.getD (0 + iv2) default).Attempt, (rv1.2.2.2.getD (0 + iv2) default).Day, true⟩ : TApiOrder)).length))])), (bx (TApiBook.e (⟨[], [], [], []⟩ : TApiBook))), Ob.dead, Ob.dead, Ob.dead, Ob.dead, Ob.dead, (eS 5 TApiOrder.e (rv1.2.2.2.set (0 + iv2) (⟨(rv1.2.2.2.getD (0 + iv2) default).Number, (rv1.2.2.2.getD (0 + iv2) default).Verification, (rv1.2.2.2.getD (0 + iv2) default).Attempt, (rv1.2.2.2.getD (0 + iv2) default).Day, true⟩ : TApiOrder)))] (fun _ => ⟨by simp only, by simp only [List.length_set]⟩) <|
.guard [(rv1.2.2.2.set (0 + iv2) (⟨(rv1.2.2.2.getD (0 + iv2) default).Number, (rv1.2.2.2.getD (0 + iv2) default).Verification, (rv1.2.2.2.getD (0 + iv2) default).Attempt, (rv1.2.2.2.getD (0 + iv2) default).Day, true⟩ : TApiOrder)).length < 2 ^ 63] <|
.reg 12 [] [] [] <|
.frz 7 (.ev 0) none [] [0, 1] <|
.ret [] (.ret ((⟨rv1.1, rv1.2.1, rv1.2.2.1, (rv1.2.2.2.set (0 + iv2) (⟨(rv1.2.2.2.getD (0 + iv2) default).Number, (rv1.2.2.2.getD (0 + iv2) default).Verification, (rv1.2.2.2.getD (0 + iv2) default).Attempt, (rv1.2.2.2.getD (0 + iv2) default).Day, true⟩ : TApiOrder))⟩ : TApiBook), 0))) (
.ret [] (.cont ()))

noncomputable def S_commitment_Back (a0 : TApiBook) (a1 : Int) : Scr Tryz.prog R_commitment_Back R_commitment_Back :=
.reg 0 [] [(1, { obs := [(1, (bx (TApiBook.e (⟨[], [], [], []⟩ : TApiBook))))] })] [.pf (p := OLe (bx (DV.agg [(DV.sl 0 fun _ => DV.b false), (DV.sl 0 fun _ => DV.b false), (DV.sl 0 fun _ => DV.b false), (DV.sl 0 fun _ => DV.b false)])) (bx (TApiBook.e (⟨[], [], [], []⟩ : TApiBook)))) (oLe_box (DLe.agg (DLeL.cons DLe.sl0 (DLeL.cons DLe.sl0 (DLeL.cons DLe.sl0 (DLeL.cons DLe.sl0 DLeL.nil))))))] <|
.call (@F_commitment_Valid_ok a0) fun rv3 cv3 =>
.reg 1 [] [(1, hc cv3 [] true)] [.cl 0 cv3 [] 2 true] <|
.ite (!rv3) (
.reg 2 [] [(0, hv (AV.d (TApiBook.e (⟨[], [], [], []⟩ : TApiBook))))] [.pf (p := LeV (AV.d (DV.agg [(DV.sl 0 fun _ => DV.b false), (DV.sl 0 fun _ => DV.b false), (DV.sl 0 fun _ => DV.b false), (DV.sl 0 fun _ => DV.b false)])) (AV.d (TApiBook.e (⟨[], [], [], []⟩ : TApiBook)))) (leV_dle rfl (DLe.agg (DLeL.cons DLe.sl0 (DLeL.cons DLe.sl0 (DLeL.cons DLe.sl0 (DLeL.cons DLe.sl0 DLeL.nil))))))] <|
.ret [] ((⟨[], [], [], []⟩ : TApiBook), 1)) (
.call (@F_commitment_among_ok a1 1 (a0.Verifications.length : Int)) fun rv4 cv4 =>
.reg 3 [] [(4, hc cv4 [] true)] [.cl 0 cv4 [] 2 true] <|
.ite (!rv4) (
.reg 4 [] [(0, hv (AV.d (TApiBook.e (⟨[], [], [], []⟩ : TApiBook))))] [.pf (p := LeV (AV.d (DV.agg [(DV.sl 0 fun _ => DV.b false), (DV.sl 0 fun _ => DV.b false), (DV.sl 0 fun _ => DV.b false), (DV.sl 0 fun _ => DV.b false)])) (AV.d (TApiBook.e (⟨[], [], [], []⟩ : TApiBook)))) (leV_dle rfl (DLe.agg (DLeL.cons DLe.sl0 (DLeL.cons DLe.sl0 (DLeL.cons DLe.sl0 (DLeL.cons DLe.sl0 DLeL.nil))))))] <|
.ret [] ((⟨[], [], [], []⟩ : TApiBook), 6)) (
.call (@F_commitment_copied_rw_ok a0) fun rv1 cv1 =>
.reg 5 [] [(1, hc cv1 [] false)] [.cl 0 cv1 [] 2 false] <|
.kill 3 <|
.guard [rv1.1.length < 2 ^ 63] <|
.frz 4 (.ev 0) none [] [0] <|
.guard [rv1.2.1.length < 2 ^ 63] <|
.frz 5 (.ev 0) none [] [0] <|
.guard [rv1.2.2.1.length < 2 ^ 63] <|
.frz 6 (.ev 0) none [] [0] <|
.guard [rv1.2.2.2.length < 2 ^ 63] <|
.range (rv1.2.2.2.length : Int) rv1.2.2.2.length rfl (.why (.ev 0)) 26 [1, 2, 4, 25] (fun (_ : Unit) => []) (fun (_ : Unit) => []) () (S_commitment_Back_b1 a1 rv1) (fun (_ : Unit) => 
.reg 14 [] [(0, hv (AV.d (TApiBook.e (⟨[], [], [], []⟩ : TApiBook))))] [.pf (p := LeV (AV.d (DV.agg [(DV.sl 0 fun _ => DV.b false), (DV.sl 0 fun _ => DV.b false), (DV.sl 0 fun _ => DV.b false), (DV.sl 0 fun _ => DV.b false)])) (AV.d (TApiBook.e (⟨[], [], [], []⟩ : TApiBook)))) (leV_dle rfl (DLe.agg (DLeL.cons DLe.sl0 (DLeL.cons DLe.sl0 (DLeL.cons DLe.sl0 (DLeL.cons DLe.sl0 DLeL.nil))))))] <|
.ret [] ((⟨[], [], [], []⟩ : TApiBook), 9)) id))

noncomputable def F_commitment_Back (a0 : TApiBook) (a1 : Int) : Option R_commitment_Back := (S_commitment_Back a0 a1).den
set_option maxRecDepth 100000 in
theorem F_commitment_Back_ok {a0 : TApiBook} {a1 : Int} (r : R_commitment_Back) (h : F_commitment_Back a0 a1 = some r) : CallOk Tryz.prog 73 [(AV.d (TApiBook.e a0)), (vi a1)] [] (V_commitment_Back r) (L_commitment_Back r) := fOk (s := S_commitment_Back a0 a1) Tryz.func73 rfl (by kernel_rfl) h

/-! 39 -/
abbrev R_w14_step := TApiBook × Int
def V_w14_step (x : R_w14_step) : AV := (AV.tup [(AV.d (TApiBook.e x.1)), (vi x.2)])
def L_w14_step (_ : R_w14_step) : List Ob := []
noncomputable def S_w14_step (a0 : TApiBook) (a1 : Int) (a2 : List UInt8) (a3 : (Nat → Int)) : Scr Tryz.prog R_w14_step R_w14_step :=
.reg 0 [] [(2, { obs := [(2, (bx (TApiBook.e (⟨[], [], [], []⟩ : TApiBook))))] })] [.pf (p := OLe (bx (DV.agg [(DV.sl 0 fun _ => DV.b false), (DV.sl 0 fun _ => DV.b false), (DV.sl 0 fun _ => DV.b false), (DV.sl 0 fun _ => DV.b false)])) (bx (TApiBook.e (⟨[], [], [], []⟩ : TApiBook)))) (oLe_box (DLe.agg (DLeL.cons DLe.sl0 (DLeL.cons DLe.sl0 (DLeL.cons DLe.sl0 (DLeL.cons DLe.sl0 DLeL.nil))))))] <|
.ite (a1 == 0) (
.reg 3 [] [] [.pf (p := (0 : Int) ≤ 3) (by decide), .pf (p := 3 < 5) (by decide), .pf (p := 3 < 5) (by decide)] <|
.cut none [4, 7, 8] (fun (sv1 : List UInt8) => [(2, (AV.d (DV.str sv1)))]) (fun (_ : List UInt8) => []) (
.ite (decide ((a3 3) > 1)) (
.ret [] (.next ([49]))) (
.ret [] (.next a2))) fun (sv1 : List UInt8) =>
.call (@F_commitment_Reserve_ok a0 sv1 (IntKind.i64.wrap ((a3 4).tdiv 360)) (a3 1) (a3 2)) fun rv2 cv2 =>
.reg 5 [] [(9, hc cv2 [] true)] [.pf (p := (0 : Int) ≤ 4) (by decide), .pf (p := 4 < 5) (by decide), .pf (p := 4 < 5) (by decide), .pf (p := (360 : Int) ≠ 0) (by decide), .pf (p := (0 : Int) ≤ 1) (by decide), .pf (p := 1 < 5) (by decide), .pf (p := 1 < 5) (by decide), .pf (p := (0 : Int) ≤ 2) (by decide), .pf (p := 2 < 5) (by decide), .pf (p := 2 < 5) (by decide), .cl 0 cv2 [] 3 true] <|
.ret [] (rv2.1, rv2.2)) (
.ite (a1 == 1) (
.call (@F_commitment_Commit_ok a0 (a3 0) (a3 1) (a3 2) (a3 3) (a3 4)) fun rv3 cv3 =>
.reg 7 [] [(11, hc cv3 [] true)] [.pf (p := (0 : Int) ≤ 0) (by decide), .pf (p := 0 < 5) (by decide), .pf (p := 0 < 5) (by decide), .pf (p := (0 : Int) ≤ 1) (by decide), .pf (p := 1 < 5) (by decide), .pf (p := 1 < 5) (by decide), .pf (p := (0 : Int) ≤ 2) (by decide), .pf (p := 2 < 5) (by decide), .pf (p := 2 < 5) (by decide), .pf (p := (0 : Int) ≤ 3) (by decide), .pf (p := 3 < 5) (by decide), .pf (p := 3 < 5) (by decide), .pf (p := (0 : Int) ≤ 4) (by decide), .pf (p := 4 < 5) (by decide), .pf (p := 4 < 5) (by decide), .cl 0 cv3 [] 3 true] <|
.ret [] (rv3.1, rv3.2)) (
.ite (a1 == 2) (
.call (@F_commitment_Verify_ok a0 (a3 0) (a3 1) (a3 2)) fun rv4 cv4 =>
.reg 9 [] [(7, hc cv4 [] true)] [.pf (p := (0 : Int) ≤ 0) (by decide), .pf (p := 0 < 5) (by decide), .pf (p := 0 < 5) (by decide), .pf (p := (0 : Int) ≤ 1) (by decide), .pf (p := 1 < 5) (by decide), .pf (p := 1 < 5) (by decide), .pf (p := (0 : Int) ≤ 2) (by decide), .pf (p := 2 < 5) (by decide), .pf (p := 2 < 5) (by decide), .cl 0 cv4 [] 3 true] <|
.ret [] (rv4.1, rv4.2)) (
.ite (a1 == 3) (
.call (@F_commitment_Order_ok a0 (a3 0) (a3 1)) fun rv5 cv5 =>
.reg 11 [] [(5, hc cv5 [] true)] [.pf (p := (0 : Int) ≤ 0) (by decide), .pf (p := 0 < 5) (by decide), .pf (p := 0 < 5) (by decide), .pf (p := (0 : Int) ≤ 1) (by decide), .pf (p := 1 < 5) (by decide), .pf (p := 1 < 5) (by decide), .cl 0 cv5 [] 3 true] <|
.ret [] (rv5.1, rv5.2)) (
.ite (a1 == 4) (
.call (@F_commitment_Release_ok a0 (a3 0) (a3 2)) fun rv6 cv6 =>
.reg 13 [] [(5, hc cv6 [] true)] [.pf (p := (0 : Int) ≤ 0) (by decide), .pf (p := 0 < 5) (by decide), .pf (p := 0 < 5) (by decide), .pf (p := (0 : Int) ≤ 2) (by decide), .pf (p := 2 < 5) (by decide), .pf (p := 2 < 5) (by decide), .cl 0 cv6 [] 3 true] <|
.ret [] (rv6.1, rv6.2)) (
.ite (a1 == 5) (
.call (@F_commitment_Drop_ok a0 (a3 0) (a3 2)) fun rv7 cv7 =>
.reg 15 [] [(5, hc cv7 [] true)] [.pf (p := (0 : Int) ≤ 0) (by decide), .pf (p := 0 < 5) (by decide), .pf (p := 0 < 5) (by decide), .pf (p := (0 : Int) ≤ 2) (by decide), .pf (p := 2 < 5) (by decide), .pf (p := 2 < 5) (by decide), .cl 0 cv7 [] 3 true] <|
.ret [] (rv7.1, rv7.2)) (
.call (@F_commitment_Back_ok a0 (a3 0)) fun rv8 cv8 =>
.reg 16 [] [(3, hc cv8 [] true)] [.pf (p := (0 : Int) ≤ 0) (by decide), .pf (p := 0 < 5) (by decide), .pf (p := 0 < 5) (by decide), .cl 0 cv8 [] 3 true] <|
.ret [] (rv8.1, rv8.2)))))))

noncomputable def F_w14_step (a0 : TApiBook) (a1 : Int) (a2 : List UInt8) (a3 : (Nat → Int)) : Option R_w14_step := (S_w14_step a0 a1 a2 a3).den
set_option maxRecDepth 100000 in
theorem F_w14_step_ok {a0 : TApiBook} {a1 : Int} {a2 : List UInt8} {a3 : (Nat → Int)} (r : R_w14_step) (h : F_w14_step a0 a1 a2 a3 = some r) : CallOk Tryz.prog 39 [(AV.d (TApiBook.e a0)), (vi a1), (AV.d (DV.str a2)), (AV.d (eA 1 5 (DV.i .i64) a3))] [] (V_w14_step r) (L_w14_step r) := fOk (s := S_w14_step a0 a1 a2 a3) Tryz.func39 rfl (by kernel_rfl) h

/-! 40 -/
abbrev R_w14_want := TApiBook × Int
def V_w14_want (x : R_w14_want) : AV := (AV.tup [(AV.d (TApiBook.e x.1)), (vi x.2)])
def L_w14_want (_ : R_w14_want) : List Ob := []
noncomputable def S_w14_want (a0 : TApiBook) (a1 : Int) (a2 : List UInt8) (a3 : (Nat → Int)) : Scr Tryz.prog R_w14_want R_w14_want :=
.reg 0 [] [(2, { obs := [(2, (bx (TApiBook.e (⟨[], [], [], []⟩ : TApiBook))))] })] [.pf (p := OLe (bx (DV.agg [(DV.sl 0 fun _ => DV.b false), (DV.sl 0 fun _ => DV.b false), (DV.sl 0 fun _ => DV.b false), (DV.sl 0 fun _ => DV.b false)])) (bx (TApiBook.e (⟨[], [], [], []⟩ : TApiBook)))) (oLe_box (DLe.agg (DLeL.cons DLe.sl0 (DLeL.cons DLe.sl0 (DLeL.cons DLe.sl0 (DLeL.cons DLe.sl0 DLeL.nil))))))] <|
.ite (a1 == 0) (
.reg 3 [] [] [.pf (p := (0 : Int) ≤ 3) (by decide), .pf (p := 3 < 5) (by decide), .pf (p := 3 < 5) (by decide)] <|
.cut none [4, 7, 8] (fun (sv1 : List UInt8) => [(2, (AV.d (DV.str sv1)))]) (fun (_ : List UInt8) => []) (
.ite (decide ((a3 3) > 1)) (
.ret [] (.next ([49]))) (
.ret [] (.next a2))) fun (sv1 : List UInt8) =>
.call (@F_r14_Reserve_ok a0 sv1 (IntKind.i64.wrap ((a3 4).tdiv 360)) (a3 1) (a3 2)) fun rv2 cv2 =>
.reg 5 [] [(9, hc cv2 [] true)] [.pf (p := (0 : Int) ≤ 4) (by decide), .pf (p := 4 < 5) (by decide), .pf (p := 4 < 5) (by decide), .pf (p := (360 : Int) ≠ 0) (by decide), .pf (p := (0 : Int) ≤ 1) (by decide), .pf (p := 1 < 5) (by decide), .pf (p := 1 < 5) (by decide), .pf (p := (0 : Int) ≤ 2) (by decide), .pf (p := 2 < 5) (by decide), .pf (p := 2 < 5) (by decide), .cl 0 cv2 [] 3 true] <|
.ret [] (rv2.1, rv2.2)) (
.ite (a1 == 1) (
.call (@F_r14_Commit_ok a0 (a3 0) (a3 1) (a3 2) (a3 3) (a3 4)) fun rv3 cv3 =>
.reg 7 [] [(11, hc cv3 [] true)] [.pf (p := (0 : Int) ≤ 0) (by decide), .pf (p := 0 < 5) (by decide), .pf (p := 0 < 5) (by decide), .pf (p := (0 : Int) ≤ 1) (by decide), .pf (p := 1 < 5) (by decide), .pf (p := 1 < 5) (by decide), .pf (p := (0 : Int) ≤ 2) (by decide), .pf (p := 2 < 5) (by decide), .pf (p := 2 < 5) (by decide), .pf (p := (0 : Int) ≤ 3) (by decide), .pf (p := 3 < 5) (by decide), .pf (p := 3 < 5) (by decide), .pf (p := (0 : Int) ≤ 4) (by decide), .pf (p := 4 < 5) (by decide), .pf (p := 4 < 5) (by decide), .cl 0 cv3 [] 3 true] <|
.ret [] (rv3.1, rv3.2)) (
.ite (a1 == 2) (
.call (@F_r14_Verify_ok a0 (a3 0) (a3 1) (a3 2)) fun rv4 cv4 =>
.reg 9 [] [(7, hc cv4 [] true)] [.pf (p := (0 : Int) ≤ 0) (by decide), .pf (p := 0 < 5) (by decide), .pf (p := 0 < 5) (by decide), .pf (p := (0 : Int) ≤ 1) (by decide), .pf (p := 1 < 5) (by decide), .pf (p := 1 < 5) (by decide), .pf (p := (0 : Int) ≤ 2) (by decide), .pf (p := 2 < 5) (by decide), .pf (p := 2 < 5) (by decide), .cl 0 cv4 [] 3 true] <|
.ret [] (rv4.1, rv4.2)) (
.ite (a1 == 3) (
.call (@F_r14_Order_ok a0 (a3 0) (a3 1)) fun rv5 cv5 =>
.reg 11 [] [(5, hc cv5 [] true)] [.pf (p := (0 : Int) ≤ 0) (by decide), .pf (p := 0 < 5) (by decide), .pf (p := 0 < 5) (by decide), .pf (p := (0 : Int) ≤ 1) (by decide), .pf (p := 1 < 5) (by decide), .pf (p := 1 < 5) (by decide), .cl 0 cv5 [] 3 true] <|
.ret [] (rv5.1, rv5.2)) (
.ite (a1 == 4) (
.call (@F_r14_Release_ok a0 (a3 0) (a3 2)) fun rv6 cv6 =>
.reg 13 [] [(5, hc cv6 [] true)] [.pf (p := (0 : Int) ≤ 0) (by decide), .pf (p := 0 < 5) (by decide), .pf (p := 0 < 5) (by decide), .pf (p := (0 : Int) ≤ 2) (by decide), .pf (p := 2 < 5) (by decide), .pf (p := 2 < 5) (by decide), .cl 0 cv6 [] 3 true] <|
.ret [] (rv6.1, rv6.2)) (
.ite (a1 == 5) (
.call (@F_r14_Drop_ok a0 (a3 0) (a3 2)) fun rv7 cv7 =>
.reg 15 [] [(5, hc cv7 [] true)] [.pf (p := (0 : Int) ≤ 0) (by decide), .pf (p := 0 < 5) (by decide), .pf (p := 0 < 5) (by decide), .pf (p := (0 : Int) ≤ 2) (by decide), .pf (p := 2 < 5) (by decide), .pf (p := 2 < 5) (by decide), .cl 0 cv7 [] 3 true] <|
.ret [] (rv7.1, rv7.2)) (
.call (@F_r14_Back_ok a0 (a3 0)) fun rv8 cv8 =>
.reg 16 [] [(3, hc cv8 [] true)] [.pf (p := (0 : Int) ≤ 0) (by decide), .pf (p := 0 < 5) (by decide), .pf (p := 0 < 5) (by decide), .cl 0 cv8 [] 3 true] <|
.ret [] (rv8.1, rv8.2)))))))

noncomputable def F_w14_want (a0 : TApiBook) (a1 : Int) (a2 : List UInt8) (a3 : (Nat → Int)) : Option R_w14_want := (S_w14_want a0 a1 a2 a3).den
set_option maxRecDepth 100000 in
theorem F_w14_want_ok {a0 : TApiBook} {a1 : Int} {a2 : List UInt8} {a3 : (Nat → Int)} (r : R_w14_want) (h : F_w14_want a0 a1 a2 a3 = some r) : CallOk Tryz.prog 40 [(AV.d (TApiBook.e a0)), (vi a1), (AV.d (DV.str a2)), (AV.d (eA 1 5 (DV.i .i64) a3))] [] (V_w14_want r) (L_w14_want r) := fOk (s := S_w14_want a0 a1 a2 a3) Tryz.func40 rfl (by kernel_rfl) h

/-! 41 -/
abbrev R_r14_Same := Bool
def V_r14_Same (x : R_r14_Same) : AV := (vb x)
def L_r14_Same (_ : R_r14_Same) : List Ob := []
noncomputable def S_r14_Same_b1 (a0 : TApiBook) (a1 : TApiBook) (iv1 : Nat) (_ : Unit) : Scr Tryz.prog R_r14_Same (Step (Unit) R_r14_Same) :=
.guard [iv1 < a1.Reservations.length] <|
.reg 6 [] [] [.pf (nn iv1), .ev 1, .pf (nn iv1), .ev 0] <|
.ite (!((((a0.Reservations.getD iv1 default).Number) == ((a1.Reservations.getD iv1 default).Number)) && ((((a0.Reservations.getD iv1 default).Code) == ((a1.Reservations.getD iv1 default).Code)) && ((((a0.Reservations.getD iv1 default).Year) == ((a1.Reservations.getD iv1 default).Year)) && ((((a0.Reservations.getD iv1 default).Day) == ((a1.Reservations.getD iv1 default).Day)) && ((((a0.Reservations.getD iv1 default).Amount) == ((a1.Reservations.getD iv1 default).Amount)) && ((((a0.Reservations.getD iv1 default).Released) == ((a1.Reservations.getD iv1 default).Released)) && true))))))) (
.ret [] (.ret false)) (
.ret [] (.cont ()))

noncomputable def S_r14_Same_b2 (a0 : TApiBook) (a1 : TApiBook) (iv2 : Nat) (_ : Unit) : Scr Tryz.prog R_r14_Same (Step (Unit) R_r14_Same) :=
.guard [iv2 < a1.Commitments.length] <|
.reg 12 [] [] [.pf (nn iv2), .ev 1, .pf (nn iv2), .ev 0] <|
.ite (!((((a0.Commitments.getD iv2 default).Number) == ((a1.Commitments.getD iv2 default).Number)) && ((((a0.Commitments.getD iv2 default).Reservation) == ((a1.Commitments.getD iv2 default).Reservation)) && ((((a0.Commitments.getD iv2 default).Day) == ((a1.Commitments.getD iv2 default).Day)) && ((((a0.Commitments.getD iv2 default).Amount) == ((a1.Commitments.getD iv2 default).Amount)) && ((((a0.Commitments.getD iv2 default).Released) == ((a1.Commitments.getD iv2 default).Released)) && ((((a0.Commitments.getD iv2 default).Payee) == ((a1.Commitments.getD iv2 default).Payee)) && ((((a0.Commitments.getD iv2 default).Due) == ((a1.Commitments.getD iv2 default).Due)) && true)))))))) (
.ret [] (.ret false)) (
.ret [] (.cont ()))

noncomputable def S_r14_Same_b3 (a0 : TApiBook) (a1 : TApiBook) (iv3 : Nat) (_ : Unit) : Scr Tryz.prog R_r14_Same (Step (Unit) R_r14_Same) :=
.guard [iv3 < a1.Verifications.length] <|
.reg 18 [] [] [.pf (nn iv3), .ev 1, .pf (nn iv3), .ev 0] <|
.ite (!((((a0.Verifications.getD iv3 default).Number) == ((a1.Verifications.getD iv3 default).Number)) && ((((a0.Verifications.getD iv3 default).Commitment) == ((a1.Verifications.getD iv3 default).Commitment)) && ((((a0.Verifications.getD iv3 default).Day) == ((a1.Verifications.getD iv3 default).Day)) && ((((a0.Verifications.getD iv3 default).Amount) == ((a1.Verifications.getD iv3 default).Amount)) && true))))) (
.ret [] (.ret false)) (
.ret [] (.cont ()))

noncomputable def S_r14_Same_b4 (a0 : TApiBook) (a1 : TApiBook) (iv4 : Nat) (_ : Unit) : Scr Tryz.prog R_r14_Same (Step (Unit) R_r14_Same) :=
.guard [iv4 < a1.Orders.length] <|
.reg 24 [] [] [.pf (nn iv4), .ev 1, .pf (nn iv4), .ev 0] <|
.ite (!((((a0.Orders.getD iv4 default).Number) == ((a1.Orders.getD iv4 default).Number)) && ((((a0.Orders.getD iv4 default).Verification) == ((a1.Orders.getD iv4 default).Verification)) && ((((a0.Orders.getD iv4 default).Attempt) == ((a1.Orders.getD iv4 default).Attempt)) && ((((a0.Orders.getD iv4 default).Day) == ((a1.Orders.getD iv4 default).Day)) && ((((a0.Orders.getD iv4 default).Back) == ((a1.Orders.getD iv4 default).Back)) && true)))))) (
.ret [] (.ret false)) (
.ret [] (.cont ()))

noncomputable def S_r14_Same (a0 : TApiBook) (a1 : TApiBook) : Scr Tryz.prog R_r14_Same R_r14_Same :=
.ite (bif (bif (bif ((a0.Reservations.length : Int) != (a1.Reservations.length : Int)) then true else ((a0.Commitments.length : Int) != (a1.Commitments.length : Int))) then true else ((a0.Verifications.length : Int) != (a1.Verifications.length : Int))) then true else ((a0.Orders.length : Int) != (a1.Orders.length : Int))) (
.ret [] false) (
.guard [a0.Reservations.length < 2 ^ 63] <|
.range (a0.Reservations.length : Int) a0.Reservations.length rfl (.why (.ev 0)) 46 [2, 3, 45] (fun (_ : Unit) => []) (fun (_ : Unit) => []) () (S_r14_Same_b1 a0 a1) (fun (_ : Unit) => 
.guard [a0.Commitments.length < 2 ^ 63] <|
.range (a0.Commitments.length : Int) a0.Commitments.length rfl (.why (.ev 0)) 64 [2, 3, 63] (fun (_ : Unit) => []) (fun (_ : Unit) => []) () (S_r14_Same_b2 a0 a1) (fun (_ : Unit) => 
.guard [a0.Verifications.length < 2 ^ 63] <|
.range (a0.Verifications.length : Int) a0.Verifications.length rfl (.why (.ev 0)) 82 [2, 3, 81] (fun (_ : Unit) => []) (fun (_ : Unit) => []) () (S_r14_Same_b3 a0 a1) (fun (_ : Unit) => 
.guard [a0.Orders.length < 2 ^ 63] <|
.range (a0.Orders.length : Int) a0.Orders.length rfl (.why (.ev 0)) 100 [2, 3, 99] (fun (_ : Unit) => []) (fun (_ : Unit) => []) () (S_r14_Same_b4 a0 a1) (fun (_ : Unit) => 
.ret [] true) id) id) id) id)

noncomputable def F_r14_Same (a0 : TApiBook) (a1 : TApiBook) : Option R_r14_Same := (S_r14_Same a0 a1).den
set_option maxRecDepth 100000 in
theorem F_r14_Same_ok {a0 : TApiBook} {a1 : TApiBook} (r : R_r14_Same) (h : F_r14_Same a0 a1 = some r) : CallOk Tryz.prog 41 [(AV.d (TApiBook.e a0)), (AV.d (TApiBook.e a1))] [] (V_r14_Same r) (L_r14_Same r) := fOk (s := S_r14_Same a0 a1) Tryz.func41 rfl (by kernel_rfl) h

end Go.Proofs.YteelhiohkbbdhaaGreatDoor
