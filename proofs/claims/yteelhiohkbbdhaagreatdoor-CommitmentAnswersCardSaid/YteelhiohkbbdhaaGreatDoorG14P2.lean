/- A part of the proof: what the functions compute, and that their calls return it. No condition. -/
import Derived.Test.YteelhiohkbbdhaaGreatDoorG14P1
/- What the functions compute, and that their calls return it. No condition. -/
namespace Go.Proofs.YteelhiohkbbdhaaGreatDoor
open Go Go.TA

/-! 43 -/
abbrev R_commitment_among := Bool
def V_commitment_among (x : R_commitment_among) : AV := (vb x)
def L_commitment_among (_ : R_commitment_among) : List Ob := []
noncomputable def S_commitment_among (a0 : Int) (a1 : Int) (a2 : Int) : Scr Tryz.prog R_commitment_among R_commitment_among :=
.ret [] (bif (decide (a0 ≥ a1)) then (decide (a0 ≤ a2)) else false)

noncomputable def F_commitment_among (a0 : Int) (a1 : Int) (a2 : Int) : Option R_commitment_among := (S_commitment_among a0 a1 a2).den
set_option maxRecDepth 100000 in
theorem F_commitment_among_ok {a0 : Int} {a1 : Int} {a2 : Int} (r : R_commitment_among) (h : F_commitment_among a0 a1 a2 = some r) : CallOk Tryz.prog 43 [(vi a0), (vi a1), (vi a2)] [] (V_commitment_among r) (L_commitment_among r) := fOk (s := S_commitment_among a0 a1 a2) Tryz.func43 rfl (by kernel_rfl) h

/-! 44 -/
abbrev R_commitment_day := Bool
def V_commitment_day (x : R_commitment_day) : AV := (vb x)
def L_commitment_day (_ : R_commitment_day) : List Ob := []
noncomputable def S_commitment_day (a0 : Int) : Scr Tryz.prog R_commitment_day R_commitment_day :=
.call (@F_commitment_among_ok a0 0 35990) fun rv1 cv1 =>
.reg 1 [] [(1, hc cv1 [] true)] [.cl 0 cv1 [] 0 true] <|
.ret [] rv1

noncomputable def F_commitment_day (a0 : Int) : Option R_commitment_day := (S_commitment_day a0).den
set_option maxRecDepth 100000 in
theorem F_commitment_day_ok {a0 : Int} (r : R_commitment_day) (h : F_commitment_day a0 = some r) : CallOk Tryz.prog 44 [(vi a0)] [] (V_commitment_day r) (L_commitment_day r) := fOk (s := S_commitment_day a0) Tryz.func44 rfl (by kernel_rfl) h

/-! 74 -/
abbrev R_calendar_Valid := Bool
def V_calendar_Valid (x : R_calendar_Valid) : AV := (vb x)
def L_calendar_Valid (_ : R_calendar_Valid) : List Ob := []
noncomputable def S_calendar_Valid (a0 : Int) : Scr Tryz.prog R_calendar_Valid R_calendar_Valid :=
.ret [] (bif (decide (a0 ≥ 0)) then (decide (a0 ≤ 36000)) else false)

noncomputable def F_calendar_Valid (a0 : Int) : Option R_calendar_Valid := (S_calendar_Valid a0).den
set_option maxRecDepth 100000 in
theorem F_calendar_Valid_ok {a0 : Int} (r : R_calendar_Valid) (h : F_calendar_Valid a0 = some r) : CallOk Tryz.prog 74 [(vi a0)] [] (V_calendar_Valid r) (L_calendar_Valid r) := fOk (s := S_calendar_Valid a0) Tryz.func74 rfl (by kernel_rfl) h

/-! 46 -/
abbrev R_calendar_Year := Int
def V_calendar_Year (x : R_calendar_Year) : AV := (vi x)
def L_calendar_Year (_ : R_calendar_Year) : List Ob := []
noncomputable def S_calendar_Year (a0 : Int) : Scr Tryz.prog R_calendar_Year R_calendar_Year :=
.call (@F_calendar_Valid_ok a0) fun rv1 cv1 =>
.reg 1 [] [(1, hc cv1 [] true)] [.cl 0 cv1 [] 0 true] <|
.ite (!rv1) (
.ret [] (-1)) (
.reg 3 [] [] [.pf (p := (360 : Int) ≠ 0) (by decide)] <|
.ret [] (IntKind.i64.wrap (a0.tdiv 360)))

noncomputable def F_calendar_Year (a0 : Int) : Option R_calendar_Year := (S_calendar_Year a0).den
set_option maxRecDepth 100000 in
theorem F_calendar_Year_ok {a0 : Int} (r : R_calendar_Year) (h : F_calendar_Year a0 = some r) : CallOk Tryz.prog 46 [(vi a0)] [] (V_calendar_Year r) (L_calendar_Year r) := fOk (s := S_calendar_Year a0) Tryz.func46 rfl (by kernel_rfl) h

/-! 45 -/
abbrev R_commitment_amount := Bool
def V_commitment_amount (x : R_commitment_amount) : AV := (vb x)
def L_commitment_amount (_ : R_commitment_amount) : List Ob := []
noncomputable def S_commitment_amount (a0 : Int) : Scr Tryz.prog R_commitment_amount R_commitment_amount :=
.call (@F_commitment_among_ok a0 1 1000000000000) fun rv1 cv1 =>
.reg 1 [] [(1, hc cv1 [] true)] [.cl 0 cv1 [] 0 true] <|
.ret [] rv1

noncomputable def F_commitment_amount (a0 : Int) : Option R_commitment_amount := (S_commitment_amount a0).den
set_option maxRecDepth 100000 in
theorem F_commitment_amount_ok {a0 : Int} (r : R_commitment_amount) (h : F_commitment_amount a0 = some r) : CallOk Tryz.prog 45 [(vi a0)] [] (V_commitment_amount r) (L_commitment_amount r) := fOk (s := S_commitment_amount a0) Tryz.func45 rfl (by kernel_rfl) h

/-! 57 -/
abbrev R_commitment_reservation := Bool
def V_commitment_reservation (x : R_commitment_reservation) : AV := (vb x)
def L_commitment_reservation (_ : R_commitment_reservation) : List Ob := []
noncomputable def S_commitment_reservation (a0 : TApiBook) (a1 : Int) : Scr Tryz.prog R_commitment_reservation R_commitment_reservation :=
.guard [(0 : Int) ≤ a1, (a1).toNat < a0.Reservations.length] <|
.reg 1 [] [] [.ev 0, .ev 1] <|
.calld [(((a0.Reservations.getD ((a1).toNat) default).Number) == (IntKind.i64.wrap (a1 + 1))) = true] default (@F_classification_Parts_ok ((a0.Reservations.getD ((a1).toNat) default).Code)) fun rv1 cv1 =>
.calld [(bif (((a0.Reservations.getD ((a1).toNat) default).Number) == (IntKind.i64.wrap (a1 + 1))) then (decide ((rv1.length : Int) > 0)) else false) = true] default (@F_commitment_among_ok ((a0.Reservations.getD ((a1).toNat) default).Year) 0 99) fun rv2 cv2 =>
.calld [(bif (bif (((a0.Reservations.getD ((a1).toNat) default).Number) == (IntKind.i64.wrap (a1 + 1))) then (decide ((rv1.length : Int) > 0)) else false) then rv2 else false) = true] default (@F_commitment_day_ok ((a0.Reservations.getD ((a1).toNat) default).Day)) fun rv3 cv3 =>
.calld [(bif (bif (bif (((a0.Reservations.getD ((a1).toNat) default).Number) == (IntKind.i64.wrap (a1 + 1))) then (decide ((rv1.length : Int) > 0)) else false) then rv2 else false) then rv3 else false) = true] default (@F_calendar_Year_ok ((a0.Reservations.getD ((a1).toNat) default).Day)) fun rv4 cv4 =>
.calld [(bif (bif (bif (bif (((a0.Reservations.getD ((a1).toNat) default).Number) == (IntKind.i64.wrap (a1 + 1))) then (decide ((rv1.length : Int) > 0)) else false) then rv2 else false) then rv3 else false) then (rv4 == ((a0.Reservations.getD ((a1).toNat) default).Year)) else false) = true] default (@F_commitment_amount_ok ((a0.Reservations.getD ((a1).toNat) default).Amount)) fun rv5 cv5 =>
.calld [(bif (bif (bif (bif (bif (((a0.Reservations.getD ((a1).toNat) default).Number) == (IntKind.i64.wrap (a1 + 1))) then (decide ((rv1.length : Int) > 0)) else false) then rv2 else false) then rv3 else false) then (rv4 == ((a0.Reservations.getD ((a1).toNat) default).Year)) else false) then rv5 else false) = true] default (@F_commitment_among_ok ((a0.Reservations.getD ((a1).toNat) default).Released) 0 ((a0.Reservations.getD ((a1).toNat) default).Amount)) fun rv6 cv6 =>
.calld [(bif (bif (bif (bif (bif (bif (((a0.Reservations.getD ((a1).toNat) default).Number) == (IntKind.i64.wrap (a1 + 1))) then (decide ((rv1.length : Int) > 0)) else false) then rv2 else false) then rv3 else false) then (rv4 == ((a0.Reservations.getD ((a1).toNat) default).Year)) else false) then rv5 else false) then rv6 else false) = true] default (@F_commitment_reserved_ok a0 (a0.Reservations.getD ((a1).toNat) default)) fun rv7 cv7 =>
.reg 2 [] [(8, hc cv1 [] true), (15, hc cv2 [] true), (20, hc cv3 [] true), (25, hc cv4 [] true), (33, hc cv5 [] true), (40, hc cv6 [] true), (45, hc cv7 [] true)] [.clg 12 [(((a0.Reservations.getD ((a1).toNat) default).Number) == (IntKind.i64.wrap (a1 + 1))) = true] cv1 [] 2 true, .clg 10 [(bif (((a0.Reservations.getD ((a1).toNat) default).Number) == (IntKind.i64.wrap (a1 + 1))) then (decide ((rv1.length : Int) > 0)) else false) = true] cv2 [] 2 true, .clg 8 [(bif (bif (((a0.Reservations.getD ((a1).toNat) default).Number) == (IntKind.i64.wrap (a1 + 1))) then (decide ((rv1.length : Int) > 0)) else false) then rv2 else false) = true] cv3 [] 2 true, .clg 6 [(bif (bif (bif (((a0.Reservations.getD ((a1).toNat) default).Number) == (IntKind.i64.wrap (a1 + 1))) then (decide ((rv1.length : Int) > 0)) else false) then rv2 else false) then rv3 else false) = true] cv4 [] 2 true, .clg 4 [(bif (bif (bif (bif (((a0.Reservations.getD ((a1).toNat) default).Number) == (IntKind.i64.wrap (a1 + 1))) then (decide ((rv1.length : Int) > 0)) else false) then rv2 else false) then rv3 else false) then (rv4 == ((a0.Reservations.getD ((a1).toNat) default).Year)) else false) = true] cv5 [] 2 true, .clg 2 [(bif (bif (bif (bif (bif (((a0.Reservations.getD ((a1).toNat) default).Number) == (IntKind.i64.wrap (a1 + 1))) then (decide ((rv1.length : Int) > 0)) else false) then rv2 else false) then rv3 else false) then (rv4 == ((a0.Reservations.getD ((a1).toNat) default).Year)) else false) then rv5 else false) = true] cv6 [] 2 true, .clg 0 [(bif (bif (bif (bif (bif (bif (((a0.Reservations.getD ((a1).toNat) default).Number) == (IntKind.i64.wrap (a1 + 1))) then (decide ((rv1.length : Int) > 0)) else false) then rv2 else false) then rv3 else false) then (rv4 == ((a0.Reservations.getD ((a1).toNat) default).Year)) else false) then rv5 else false) then rv6 else false) = true] cv7 [] 2 true] <|
.ret [] (bif (bif (bif (bif (bif (bif (bif (((a0.Reservations.getD ((a1).toNat) default).Number) == (IntKind.i64.wrap (a1 + 1))) then (decide ((rv1.length : Int) > 0)) else false) then rv2 else false) then rv3 else false) then (rv4 == ((a0.Reservations.getD ((a1).toNat) default).Year)) else false) then rv5 else false) then rv6 else false) then (decide (rv7 ≥ 0)) else false)

noncomputable def F_commitment_reservation (a0 : TApiBook) (a1 : Int) : Option R_commitment_reservation := (S_commitment_reservation a0 a1).den
set_option maxRecDepth 100000 in
theorem F_commitment_reservation_ok {a0 : TApiBook} {a1 : Int} (r : R_commitment_reservation) (h : F_commitment_reservation a0 a1 = some r) : CallOk Tryz.prog 57 [(AV.d (TApiBook.e a0)), (vi a1)] [] (V_commitment_reservation r) (L_commitment_reservation r) := fOk (s := S_commitment_reservation a0 a1) Tryz.func57 rfl (by kernel_rfl) h

/-! 56 -/
abbrev R_commitment_all_commitment_reservation := Bool
def V_commitment_all_commitment_reservation (x : R_commitment_all_commitment_reservation) : AV := (vb x)
def L_commitment_all_commitment_reservation (_ : R_commitment_all_commitment_reservation) : List Ob := []
noncomputable def S_commitment_all_commitment_reservation_b1 (a0 : TApiBook) (iv1 : Nat) (_ : Unit) : Scr Tryz.prog R_commitment_all_commitment_reservation (Step (Unit) R_commitment_all_commitment_reservation) :=
.call (@F_commitment_reservation_ok a0 (iv1 : Int)) fun rv2 cv2 =>
.reg 4 [] [(3, hc cv2 [] true)] [.cl 0 cv2 [] 1 true] <|
.ite (!rv2) (
.ret [] (.ret false)) (
.ret [] (.cont ()))

noncomputable def S_commitment_all_commitment_reservation (a0 : TApiBook) (a1 : Int) : Scr Tryz.prog R_commitment_all_commitment_reservation R_commitment_all_commitment_reservation :=
.guard [(a1).toNat < 2 ^ 63] <|
.range a1 ((a1).toNat) rfl (.why (.ev 0)) 9 [1, 2, 3, 8] (fun (_ : Unit) => []) (fun (_ : Unit) => []) () (S_commitment_all_commitment_reservation_b1 a0) (fun (_ : Unit) => 
.ret [] (decide (a1 ≤ 200))) id

noncomputable def F_commitment_all_commitment_reservation (a0 : TApiBook) (a1 : Int) : Option R_commitment_all_commitment_reservation := (S_commitment_all_commitment_reservation a0 a1).den
set_option maxRecDepth 100000 in
theorem F_commitment_all_commitment_reservation_ok {a0 : TApiBook} {a1 : Int} (r : R_commitment_all_commitment_reservation) (h : F_commitment_all_commitment_reservation a0 a1 = some r) : CallOk Tryz.prog 56 [(AV.d (TApiBook.e a0)), (vi a1), (AV.fn 57 [])] [] (V_commitment_all_commitment_reservation r) (L_commitment_all_commitment_reservation r) := fOk (s := S_commitment_all_commitment_reservation a0 a1) Tryz.func56 rfl (by kernel_rfl) h

/-! 93 -/
abbrev R_commitment_verified := Int
def V_commitment_verified (x : R_commitment_verified) : AV := (vi x)
def L_commitment_verified (_ : R_commitment_verified) : List Ob := []
noncomputable def S_commitment_verified_b1 (a0 : TApiBook) (a1 : Int) (iv1 : Nat) (sv2 : Int) : Scr Tryz.prog R_commitment_verified (Step (Int) R_commitment_verified) :=
.reg 4 [] [] [.pf (nn iv1), .ev 0] <|
.ite (((a0.Verifications.getD iv1 default).Commitment) == a1) (
.ret [] (.cont (IntKind.i64.wrap (sv2 + ((a0.Verifications.getD iv1 default).Amount))))) (
.ret [] (.cont sv2))

noncomputable def S_commitment_verified (a0 : TApiBook) (a1 : Int) : Scr Tryz.prog R_commitment_verified R_commitment_verified :=
.range (a0.Verifications.length : Int) a0.Verifications.length rfl (.slot 9) 11 [1, 9, 10] (fun (sv2 : Int) => [(5, (vi sv2))]) (fun (_ : Int) => []) 0 (S_commitment_verified_b1 a0 a1) (fun (sv2 : Int) => 
.ret [] sv2) id

noncomputable def F_commitment_verified (a0 : TApiBook) (a1 : Int) : Option R_commitment_verified := (S_commitment_verified a0 a1).den
set_option maxRecDepth 100000 in
theorem F_commitment_verified_ok {a0 : TApiBook} {a1 : Int} (r : R_commitment_verified) (h : F_commitment_verified a0 a1 = some r) : CallOk Tryz.prog 93 [(AV.d (TApiBook.e a0)), (vi a1)] [] (V_commitment_verified r) (L_commitment_verified r) := fOk (s := S_commitment_verified a0 a1) Tryz.func93 rfl (by kernel_rfl) h

/-! 69 -/
abbrev R_commitment_open := Int
def V_commitment_open (x : R_commitment_open) : AV := (vi x)
def L_commitment_open (_ : R_commitment_open) : List Ob := []
noncomputable def S_commitment_open (a0 : TApiBook) (a1 : TApiCommitment) : Scr Tryz.prog R_commitment_open R_commitment_open :=
.call (@F_commitment_verified_ok a0 a1.Number) fun rv1 cv1 =>
.reg 1 [] [(8, hc cv1 [] true)] [.cl 0 cv1 [] 2 true] <|
.ret [] (IntKind.i64.wrap ((IntKind.i64.wrap (a1.Amount - a1.Released)) - rv1))

noncomputable def F_commitment_open (a0 : TApiBook) (a1 : TApiCommitment) : Option R_commitment_open := (S_commitment_open a0 a1).den
set_option maxRecDepth 100000 in
theorem F_commitment_open_ok {a0 : TApiBook} {a1 : TApiCommitment} (r : R_commitment_open) (h : F_commitment_open a0 a1 = some r) : CallOk Tryz.prog 69 [(AV.d (TApiBook.e a0)), (AV.d (TApiCommitment.e a1))] [] (V_commitment_open r) (L_commitment_open r) := fOk (s := S_commitment_open a0 a1) Tryz.func69 rfl (by kernel_rfl) h

/-! 58 -/
abbrev R_commitment_commitment := Bool
def V_commitment_commitment (x : R_commitment_commitment) : AV := (vb x)
def L_commitment_commitment (_ : R_commitment_commitment) : List Ob := []
noncomputable def S_commitment_commitment (a0 : TApiBook) (a1 : Int) : Scr Tryz.prog R_commitment_commitment R_commitment_commitment :=
.guard [(0 : Int) ≤ a1, (a1).toNat < a0.Commitments.length] <|
.reg 1 [] [] [.ev 0, .ev 1] <|
.calld [(((a0.Commitments.getD ((a1).toNat) default).Number) != (IntKind.i64.wrap (a1 + 1))) = false] default (@F_commitment_among_ok ((a0.Commitments.getD ((a1).toNat) default).Reservation) 1 (a0.Reservations.length : Int)) fun rv1 cv1 =>
.reg 2 [] [(11, hc cv1 [] true)] [.clg 0 [(((a0.Commitments.getD ((a1).toNat) default).Number) != (IntKind.i64.wrap (a1 + 1))) = false] cv1 [] 2 true] <|
.ite (bif (((a0.Commitments.getD ((a1).toNat) default).Number) != (IntKind.i64.wrap (a1 + 1))) then true else (!rv1)) (
.ret [] false) (
.guard [(0 : Int) ≤ (IntKind.i64.wrap (((a0.Commitments.getD ((a1).toNat) default).Reservation) - 1)), ((IntKind.i64.wrap (((a0.Commitments.getD ((a1).toNat) default).Reservation) - 1))).toNat < a0.Reservations.length] <|
.reg 4 [] [] [.ev 0, .ev 1] <|
.call (@F_commitment_day_ok ((a0.Commitments.getD ((a1).toNat) default).Day)) fun rv2 cv2 =>
.calld [(bif rv2 then (decide (((a0.Commitments.getD ((a1).toNat) default).Day) ≥ ((a0.Reservations.getD (((IntKind.i64.wrap (((a0.Commitments.getD ((a1).toNat) default).Reservation) - 1))).toNat) default).Day))) else false) = true] default (@F_calendar_Year_ok ((a0.Commitments.getD ((a1).toNat) default).Day)) fun rv3 cv3 =>
.calld [(bif (bif rv2 then (decide (((a0.Commitments.getD ((a1).toNat) default).Day) ≥ ((a0.Reservations.getD (((IntKind.i64.wrap (((a0.Commitments.getD ((a1).toNat) default).Reservation) - 1))).toNat) default).Day))) else false) then (rv3 == ((a0.Reservations.getD (((IntKind.i64.wrap (((a0.Commitments.getD ((a1).toNat) default).Reservation) - 1))).toNat) default).Year)) else false) = true] default (@F_commitment_amount_ok ((a0.Commitments.getD ((a1).toNat) default).Amount)) fun rv4 cv4 =>
.calld [(bif (bif (bif rv2 then (decide (((a0.Commitments.getD ((a1).toNat) default).Day) ≥ ((a0.Reservations.getD (((IntKind.i64.wrap (((a0.Commitments.getD ((a1).toNat) default).Reservation) - 1))).toNat) default).Day))) else false) then (rv3 == ((a0.Reservations.getD (((IntKind.i64.wrap (((a0.Commitments.getD ((a1).toNat) default).Reservation) - 1))).toNat) default).Year)) else false) then rv4 else false) = true] default (@F_commitment_among_ok ((a0.Commitments.getD ((a1).toNat) default).Released) 0 ((a0.Commitments.getD ((a1).toNat) default).Amount)) fun rv5 cv5 =>
.calld [(bif (bif (bif (bif rv2 then (decide (((a0.Commitments.getD ((a1).toNat) default).Day) ≥ ((a0.Reservations.getD (((IntKind.i64.wrap (((a0.Commitments.getD ((a1).toNat) default).Reservation) - 1))).toNat) default).Day))) else false) then (rv3 == ((a0.Reservations.getD (((IntKind.i64.wrap (((a0.Commitments.getD ((a1).toNat) default).Reservation) - 1))).toNat) default).Year)) else false) then rv4 else false) then rv5 else false) = true] default (@F_commitment_among_ok ((a0.Commitments.getD ((a1).toNat) default).Payee) 1 1000000) fun rv6 cv6 =>
.calld [(bif (bif (bif (bif (bif rv2 then (decide (((a0.Commitments.getD ((a1).toNat) default).Day) ≥ ((a0.Reservations.getD (((IntKind.i64.wrap (((a0.Commitments.getD ((a1).toNat) default).Reservation) - 1))).toNat) default).Day))) else false) then (rv3 == ((a0.Reservations.getD (((IntKind.i64.wrap (((a0.Commitments.getD ((a1).toNat) default).Reservation) - 1))).toNat) default).Year)) else false) then rv4 else false) then rv5 else false) then rv6 else false) = true] default (@F_commitment_day_ok ((a0.Commitments.getD ((a1).toNat) default).Due)) fun rv7 cv7 =>
.calld [(bif (bif (bif (bif (bif (bif rv2 then (decide (((a0.Commitments.getD ((a1).toNat) default).Day) ≥ ((a0.Reservations.getD (((IntKind.i64.wrap (((a0.Commitments.getD ((a1).toNat) default).Reservation) - 1))).toNat) default).Day))) else false) then (rv3 == ((a0.Reservations.getD (((IntKind.i64.wrap (((a0.Commitments.getD ((a1).toNat) default).Reservation) - 1))).toNat) default).Year)) else false) then rv4 else false) then rv5 else false) then rv6 else false) then rv7 else false) = true] default (@F_commitment_open_ok a0 (a0.Commitments.getD ((a1).toNat) default)) fun rv8 cv8 =>
.reg 5 [] [(2, hc cv2 [] true), (13, hc cv3 [] true), (21, hc cv4 [] true), (28, hc cv5 [] true), (33, hc cv6 [] true), (38, hc cv7 [] true), (43, hc cv8 [] true)] [.cl 12 cv2 [] 3 true, .clg 10 [(bif rv2 then (decide (((a0.Commitments.getD ((a1).toNat) default).Day) ≥ ((a0.Reservations.getD (((IntKind.i64.wrap (((a0.Commitments.getD ((a1).toNat) default).Reservation) - 1))).toNat) default).Day))) else false) = true] cv3 [] 3 true, .clg 8 [(bif (bif rv2 then (decide (((a0.Commitments.getD ((a1).toNat) default).Day) ≥ ((a0.Reservations.getD (((IntKind.i64.wrap (((a0.Commitments.getD ((a1).toNat) default).Reservation) - 1))).toNat) default).Day))) else false) then (rv3 == ((a0.Reservations.getD (((IntKind.i64.wrap (((a0.Commitments.getD ((a1).toNat) default).Reservation) - 1))).toNat) default).Year)) else false) = true] cv4 [] 3 true, .clg 6 [(bif (bif (bif rv2 then (decide (((a0.Commitments.getD ((a1).toNat) default).Day) ≥ ((a0.Reservations.getD (((IntKind.i64.wrap (((a0.Commitments.getD ((a1).toNat) default).Reservation) - 1))).toNat) default).Day))) else false) then (rv3 == ((a0.Reservations.getD (((IntKind.i64.wrap (((a0.Commitments.getD ((a1).toNat) default).Reservation) - 1))).toNat) default).Year)) else false) then rv4 else false) = true] cv5 [] 3 true, .clg 4 [(bif (bif (bif (bif rv2 then (decide (((a0.Commitments.getD ((a1).toNat) default).Day) ≥ ((a0.Reservations.getD (((IntKind.i64.wrap (((a0.Commitments.getD ((a1).toNat) default).Reservation) - 1))).toNat) default).Day))) else false) then (rv3 == ((a0.Reservations.getD (((IntKind.i64.wrap (((a0.Commitments.getD ((a1).toNat) default).Reservation) - 1))).toNat) default).Year)) else false) then rv4 else false) then rv5 else false) = true] cv6 [] 3 true, .clg 2 [(bif (bif (bif (bif (bif rv2 then (decide (((a0.Commitments.getD ((a1).toNat) default).Day) ≥ ((a0.Reservations.getD (((IntKind.i64.wrap (((a0.Commitments.getD ((a1).toNat) default).Reservation) - 1))).toNat) default).Day))) else false) then (rv3 == ((a0.Reservations.getD (((IntKind.i64.wrap (((a0.Commitments.getD ((a1).toNat) default).Reservation) - 1))).toNat) default).Year)) else false) then rv4 else false) then rv5 else false) then rv6 else false) = true] cv7 [] 3 true, .clg 0 [(bif (bif (bif (bif (bif (bif rv2 then (decide (((a0.Commitments.getD ((a1).toNat) default).Day) ≥ ((a0.Reservations.getD (((IntKind.i64.wrap (((a0.Commitments.getD ((a1).toNat) default).Reservation) - 1))).toNat) default).Day))) else false) then (rv3 == ((a0.Reservations.getD (((IntKind.i64.wrap (((a0.Commitments.getD ((a1).toNat) default).Reservation) - 1))).toNat) default).Year)) else false) then rv4 else false) then rv5 else false) then rv6 else false) then rv7 else false) = true] cv8 [] 3 true] <|
.ret [] (bif (bif (bif (bif (bif (bif (bif rv2 then (decide (((a0.Commitments.getD ((a1).toNat) default).Day) ≥ ((a0.Reservations.getD (((IntKind.i64.wrap (((a0.Commitments.getD ((a1).toNat) default).Reservation) - 1))).toNat) default).Day))) else false) then (rv3 == ((a0.Reservations.getD (((IntKind.i64.wrap (((a0.Commitments.getD ((a1).toNat) default).Reservation) - 1))).toNat) default).Year)) else false) then rv4 else false) then rv5 else false) then rv6 else false) then rv7 else false) then (decide (rv8 ≥ 0)) else false))

noncomputable def F_commitment_commitment (a0 : TApiBook) (a1 : Int) : Option R_commitment_commitment := (S_commitment_commitment a0 a1).den
set_option maxRecDepth 100000 in
theorem F_commitment_commitment_ok {a0 : TApiBook} {a1 : Int} (r : R_commitment_commitment) (h : F_commitment_commitment a0 a1 = some r) : CallOk Tryz.prog 58 [(AV.d (TApiBook.e a0)), (vi a1)] [] (V_commitment_commitment r) (L_commitment_commitment r) := fOk (s := S_commitment_commitment a0 a1) Tryz.func58 rfl (by kernel_rfl) h

/-! 56 -/
abbrev R_commitment_all_commitment_commitment := Bool
def V_commitment_all_commitment_commitment (x : R_commitment_all_commitment_commitment) : AV := (vb x)
def L_commitment_all_commitment_commitment (_ : R_commitment_all_commitment_commitment) : List Ob := []
noncomputable def S_commitment_all_commitment_commitment_b1 (a0 : TApiBook) (iv1 : Nat) (_ : Unit) : Scr Tryz.prog R_commitment_all_commitment_commitment (Step (Unit) R_commitment_all_commitment_commitment) :=
.call (@F_commitment_commitment_ok a0 (iv1 : Int)) fun rv2 cv2 =>
.reg 4 [] [(3, hc cv2 [] true)] [.cl 0 cv2 [] 1 true] <|
.ite (!rv2) (
.ret [] (.ret false)) (
.ret [] (.cont ()))

noncomputable def S_commitment_all_commitment_commitment (a0 : TApiBook) (a1 : Int) : Scr Tryz.prog R_commitment_all_commitment_commitment R_commitment_all_commitment_commitment :=
.guard [(a1).toNat < 2 ^ 63] <|
.range a1 ((a1).toNat) rfl (.why (.ev 0)) 9 [1, 2, 3, 8] (fun (_ : Unit) => []) (fun (_ : Unit) => []) () (S_commitment_all_commitment_commitment_b1 a0) (fun (_ : Unit) => 
.ret [] (decide (a1 ≤ 200))) id

noncomputable def F_commitment_all_commitment_commitment (a0 : TApiBook) (a1 : Int) : Option R_commitment_all_commitment_commitment := (S_commitment_all_commitment_commitment a0 a1).den
set_option maxRecDepth 100000 in
theorem F_commitment_all_commitment_commitment_ok {a0 : TApiBook} {a1 : Int} (r : R_commitment_all_commitment_commitment) (h : F_commitment_all_commitment_commitment a0 a1 = some r) : CallOk Tryz.prog 56 [(AV.d (TApiBook.e a0)), (vi a1), (AV.fn 58 [])] [] (V_commitment_all_commitment_commitment r) (L_commitment_all_commitment_commitment r) := fOk (s := S_commitment_all_commitment_commitment a0 a1) Tryz.func56 rfl (by kernel_rfl) h

/-! 66 -/
abbrev R_commitment_year := Int
def V_commitment_year (x : R_commitment_year) : AV := (vi x)
def L_commitment_year (_ : R_commitment_year) : List Ob := []
noncomputable def S_commitment_year (a0 : TApiBook) (a1 : TApiCommitment) : Scr Tryz.prog R_commitment_year R_commitment_year :=
.guard [(0 : Int) ≤ (IntKind.i64.wrap (a1.Reservation - 1)), ((IntKind.i64.wrap (a1.Reservation - 1))).toNat < a0.Reservations.length] <|
.reg 1 [] [] [.ev 0, .ev 1] <|
.ret [] ((a0.Reservations.getD (((IntKind.i64.wrap (a1.Reservation - 1))).toNat) default).Year)

noncomputable def F_commitment_year (a0 : TApiBook) (a1 : TApiCommitment) : Option R_commitment_year := (S_commitment_year a0 a1).den
set_option maxRecDepth 100000 in
theorem F_commitment_year_ok {a0 : TApiBook} {a1 : TApiCommitment} (r : R_commitment_year) (h : F_commitment_year a0 a1 = some r) : CallOk Tryz.prog 66 [(AV.d (TApiBook.e a0)), (AV.d (TApiCommitment.e a1))] [] (V_commitment_year r) (L_commitment_year r) := fOk (s := S_commitment_year a0 a1) Tryz.func66 rfl (by kernel_rfl) h

/-! 59 -/
abbrev R_commitment_verification := Bool
def V_commitment_verification (x : R_commitment_verification) : AV := (vb x)
def L_commitment_verification (_ : R_commitment_verification) : List Ob := []
noncomputable def S_commitment_verification (a0 : TApiBook) (a1 : Int) : Scr Tryz.prog R_commitment_verification R_commitment_verification :=
.guard [(0 : Int) ≤ a1, (a1).toNat < a0.Verifications.length] <|
.reg 1 [] [] [.ev 0, .ev 1] <|
.calld [(((a0.Verifications.getD ((a1).toNat) default).Number) != (IntKind.i64.wrap (a1 + 1))) = false] default (@F_commitment_among_ok ((a0.Verifications.getD ((a1).toNat) default).Commitment) 1 (a0.Commitments.length : Int)) fun rv1 cv1 =>
.reg 2 [] [(11, hc cv1 [] true)] [.clg 0 [(((a0.Verifications.getD ((a1).toNat) default).Number) != (IntKind.i64.wrap (a1 + 1))) = false] cv1 [] 2 true] <|
.ite (bif (((a0.Verifications.getD ((a1).toNat) default).Number) != (IntKind.i64.wrap (a1 + 1))) then true else (!rv1)) (
.ret [] false) (
.guard [(0 : Int) ≤ (IntKind.i64.wrap (((a0.Verifications.getD ((a1).toNat) default).Commitment) - 1)), ((IntKind.i64.wrap (((a0.Verifications.getD ((a1).toNat) default).Commitment) - 1))).toNat < a0.Commitments.length] <|
.reg 4 [] [] [.ev 0, .ev 1] <|
.call (@F_commitment_day_ok ((a0.Verifications.getD ((a1).toNat) default).Day)) fun rv2 cv2 =>
.calld [(bif rv2 then (decide (((a0.Verifications.getD ((a1).toNat) default).Day) ≥ ((a0.Commitments.getD (((IntKind.i64.wrap (((a0.Verifications.getD ((a1).toNat) default).Commitment) - 1))).toNat) default).Day))) else false) = true] default (@F_calendar_Year_ok ((a0.Verifications.getD ((a1).toNat) default).Day)) fun rv3 cv3 =>
.calld [(bif rv2 then (decide (((a0.Verifications.getD ((a1).toNat) default).Day) ≥ ((a0.Commitments.getD (((IntKind.i64.wrap (((a0.Verifications.getD ((a1).toNat) default).Commitment) - 1))).toNat) default).Day))) else false) = true] default (@F_commitment_year_ok a0 (a0.Commitments.getD (((IntKind.i64.wrap (((a0.Verifications.getD ((a1).toNat) default).Commitment) - 1))).toNat) default)) fun rv4 cv4 =>
.calld [(bif (bif rv2 then (decide (((a0.Verifications.getD ((a1).toNat) default).Day) ≥ ((a0.Commitments.getD (((IntKind.i64.wrap (((a0.Verifications.getD ((a1).toNat) default).Commitment) - 1))).toNat) default).Day))) else false) then (decide (rv3 ≤ (IntKind.i64.wrap (rv4 + 1)))) else false) = true] default (@F_commitment_amount_ok ((a0.Verifications.getD ((a1).toNat) default).Amount)) fun rv5 cv5 =>
.reg 5 [] [(2, hc cv2 [] true), (13, hc cv3 [] true), (16, hc cv4 [] true), (23, hc cv5 [] true)] [.cl 6 cv2 [] 3 true, .clg 4 [(bif rv2 then (decide (((a0.Verifications.getD ((a1).toNat) default).Day) ≥ ((a0.Commitments.getD (((IntKind.i64.wrap (((a0.Verifications.getD ((a1).toNat) default).Commitment) - 1))).toNat) default).Day))) else false) = true] cv3 [] 3 true, .clg 2 [(bif rv2 then (decide (((a0.Verifications.getD ((a1).toNat) default).Day) ≥ ((a0.Commitments.getD (((IntKind.i64.wrap (((a0.Verifications.getD ((a1).toNat) default).Commitment) - 1))).toNat) default).Day))) else false) = true] cv4 [] 3 true, .clg 0 [(bif (bif rv2 then (decide (((a0.Verifications.getD ((a1).toNat) default).Day) ≥ ((a0.Commitments.getD (((IntKind.i64.wrap (((a0.Verifications.getD ((a1).toNat) default).Commitment) - 1))).toNat) default).Day))) else false) then (decide (rv3 ≤ (IntKind.i64.wrap (rv4 + 1)))) else false) = true] cv5 [] 3 true] <|
.ret [] (bif (bif (bif rv2 then (decide (((a0.Verifications.getD ((a1).toNat) default).Day) ≥ ((a0.Commitments.getD (((IntKind.i64.wrap (((a0.Verifications.getD ((a1).toNat) default).Commitment) - 1))).toNat) default).Day))) else false) then (decide (rv3 ≤ (IntKind.i64.wrap (rv4 + 1)))) else false) then rv5 else false))

noncomputable def F_commitment_verification (a0 : TApiBook) (a1 : Int) : Option R_commitment_verification := (S_commitment_verification a0 a1).den
set_option maxRecDepth 100000 in
theorem F_commitment_verification_ok {a0 : TApiBook} {a1 : Int} (r : R_commitment_verification) (h : F_commitment_verification a0 a1 = some r) : CallOk Tryz.prog 59 [(AV.d (TApiBook.e a0)), (vi a1)] [] (V_commitment_verification r) (L_commitment_verification r) := fOk (s := S_commitment_verification a0 a1) Tryz.func59 rfl (by kernel_rfl) h

/-! 56 -/
abbrev R_commitment_all_commitment_verification := Bool
def V_commitment_all_commitment_verification (x : R_commitment_all_commitment_verification) : AV := (vb x)
def L_commitment_all_commitment_verification (_ : R_commitment_all_commitment_verification) : List Ob := []
noncomputable def S_commitment_all_commitment_verification_b1 (a0 : TApiBook) (iv1 : Nat) (_ : Unit) : Scr Tryz.prog R_commitment_all_commitment_verification (Step (Unit) R_commitment_all_commitment_verification) :=
.call (@F_commitment_verification_ok a0 (iv1 : Int)) fun rv2 cv2 =>
.reg 4 [] [(3, hc cv2 [] true)] [.cl 0 cv2 [] 1 true] <|
.ite (!rv2) (
.ret [] (.ret false)) (
.ret [] (.cont ()))

noncomputable def S_commitment_all_commitment_verification (a0 : TApiBook) (a1 : Int) : Scr Tryz.prog R_commitment_all_commitment_verification R_commitment_all_commitment_verification :=
.guard [(a1).toNat < 2 ^ 63] <|
.range a1 ((a1).toNat) rfl (.why (.ev 0)) 9 [1, 2, 3, 8] (fun (_ : Unit) => []) (fun (_ : Unit) => []) () (S_commitment_all_commitment_verification_b1 a0) (fun (_ : Unit) => 
.ret [] (decide (a1 ≤ 200))) id

noncomputable def F_commitment_all_commitment_verification (a0 : TApiBook) (a1 : Int) : Option R_commitment_all_commitment_verification := (S_commitment_all_commitment_verification a0 a1).den
set_option maxRecDepth 100000 in
theorem F_commitment_all_commitment_verification_ok {a0 : TApiBook} {a1 : Int} (r : R_commitment_all_commitment_verification) (h : F_commitment_all_commitment_verification a0 a1 = some r) : CallOk Tryz.prog 56 [(AV.d (TApiBook.e a0)), (vi a1), (AV.fn 59 [])] [] (V_commitment_all_commitment_verification r) (L_commitment_all_commitment_verification r) := fOk (s := S_commitment_all_commitment_verification a0 a1) Tryz.func56 rfl (by kernel_rfl) h

/-! 78 -/
abbrev R_slices_Clone_Order_rw := (List TApiOrder)
def V_slices_Clone_Order_rw (x : R_slices_Clone_Order_rw) : AV := (AV.ref 0 x.length 0 x.length)
def L_slices_Clone_Order_rw (x : R_slices_Clone_Order_rw) : List Ob := [(eS 5 TApiOrder.e x)]
noncomputable def S_slices_Clone_Order_rw (a0 : (List TApiOrder)) : Scr Tryz.prog R_slices_Clone_Order_rw R_slices_Clone_Order_rw :=
.reg 0 [] [] [] <|
.nils 0 (
.guard [a0.length * (2 * 40) ≤ 2 ^ 48] <|
.reg 1 [] [] [] <|
.lev 0 (AV.d (eL TApiOrder.e a0)) (.pf (lvQ true a0.length fun j => (TApiOrder.e (a0.getD j default)))) <|
.br true (.pf (p := true = true) rfl) <|
.reg 2 [] [] [] <|
.bor 5 (fun j => AV.d (TApiOrder.e (a0.getD j default))) [2] <|
.cst (A := a0.length = 0) (.ev 1) [(2, AV.ref 0 0 0 0)] [(2, (AV.ref 0 a0.length 0 a0.length))] [(Ob.seq 5 0 fun j => AV.d (TApiOrder.e (a0.getD j default)))] [(eS 5 TApiOrder.e a0)] (fun h => ⟨by rw [h], by unfold eS; rw [h]⟩) <|
.ret [] a0) (
.reg 1 [] [] [] <|
.lev 0 (AV.d (eL TApiOrder.e a0)) (.pf (lvQ false a0.length fun j => (TApiOrder.e (a0.getD j default)))) <|
.br false (.pf (p := false = false) rfl) <|
.guard [a0.length * (2 * 40) ≤ 2 ^ 48] <|
.reg 3 [] [(2, { h := .obj })] [.pf (p := ∀ k, k < a0.length → (AV.d (TApiOrder.e (a0.getD k default))).wd = 5) (fun _ _ => rfl), .ev 0] <|
.ret [] a0)

noncomputable def F_slices_Clone_Order_rw (a0 : (List TApiOrder)) : Option R_slices_Clone_Order_rw := (S_slices_Clone_Order_rw a0).den
set_option maxRecDepth 100000 in
theorem F_slices_Clone_Order_rw_ok {a0 : (List TApiOrder)} (r : R_slices_Clone_Order_rw) (h : F_slices_Clone_Order_rw a0 = some r) : CallOk Tryz.prog 78 [(AV.d (eL TApiOrder.e a0))] [] (V_slices_Clone_Order_rw r) (L_slices_Clone_Order_rw r) := fOk (s := S_slices_Clone_Order_rw a0) Tryz.func78 rfl (by kernel_rfl) h

/-! 89 -/
abbrev R_commitment_orders_1 := Bool
def V_commitment_orders_1 (x : R_commitment_orders_1) : AV := (vb x)
def L_commitment_orders_1 (p0 : Int) (_ : R_commitment_orders_1) : List Ob := [(Ob.box (vi p0))]
noncomputable def S_commitment_orders_1 (a0 : TApiOrder) (p0 : Int) : Scr Tryz.prog R_commitment_orders_1 R_commitment_orders_1 :=
.ret [] (a0.Verification != p0)

noncomputable def F_commitment_orders_1 (a0 : TApiOrder) (p0 : Int) : Option R_commitment_orders_1 := (S_commitment_orders_1 a0 p0).den
set_option maxRecDepth 100000 in
theorem F_commitment_orders_1_ok {a0 : TApiOrder} {p0 : Int} (r : R_commitment_orders_1) (h : F_commitment_orders_1 a0 p0 = some r) : CallOk Tryz.prog 89 [(AV.d (TApiOrder.e a0)), (vp 0)] [(Ob.box (vi p0))] (V_commitment_orders_1 r) (L_commitment_orders_1 p0 r) := fOk (s := S_commitment_orders_1 a0 p0) Tryz.func89 rfl (by kernel_rfl) h

/-! 96 -/
abbrev R_slices_IndexFunc_Order_commitment_orders_1 := Int
def V_slices_IndexFunc_Order_commitment_orders_1 (x : R_slices_IndexFunc_Order_commitment_orders_1) : AV := (vi x)
def L_slices_IndexFunc_Order_commitment_orders_1 (p0 : (List TApiOrder)) (p1 : Int) (_ : R_slices_IndexFunc_Order_commitment_orders_1) : List Ob := [(eS 5 TApiOrder.e p0), (Ob.box (vi p1))]
noncomputable def S_slices_IndexFunc_Order_commitment_orders_1_b1 (p0 : (List TApiOrder)) (p1 : Int) (iv1 : Nat) (_ : Unit) : Scr Tryz.prog R_slices_IndexFunc_Order_commitment_orders_1 (Step (Unit) R_slices_IndexFunc_Order_commitment_orders_1) :=
.call (@F_commitment_orders_1_ok (p0.getD (0 + iv1) default) p1) fun rv2 cv2 =>
.guard [(0 + iv1) < p0.length] <|
.reg 4 [] [(5, hc cv2 [1] true)] [.pf (Eq.refl p0.length), .pf (nn iv1), .ev 2, .pf (Eq.refl p0.length), .ev 0, .cl 1 cv2 [1] 2 true] <|
.ite rv2 (
.ret [] (.ret (iv1 : Int))) (
.ret [] (.cont ()))

noncomputable def S_slices_IndexFunc_Order_commitment_orders_1 (p0 : (List TApiOrder)) (p1 : Int) : Scr Tryz.prog R_slices_IndexFunc_Order_commitment_orders_1 R_slices_IndexFunc_Order_commitment_orders_1 :=
.guard [p0.length < 2 ^ 63] <|
.range (p0.length : Int) p0.length rfl (.why (.ev 0)) 8 [0, 1, 7] (fun (_ : Unit) => []) (fun (_ : Unit) => []) () (S_slices_IndexFunc_Order_commitment_orders_1_b1 p0 p1) (fun (_ : Unit) => 
.ret [] (-1)) id

noncomputable def F_slices_IndexFunc_Order_commitment_orders_1 (p0 : (List TApiOrder)) (p1 : Int) : Option R_slices_IndexFunc_Order_commitment_orders_1 := (S_slices_IndexFunc_Order_commitment_orders_1 p0 p1).den
set_option maxRecDepth 100000 in
theorem F_slices_IndexFunc_Order_commitment_orders_1_ok {p0 : (List TApiOrder)} {p1 : Int} (r : R_slices_IndexFunc_Order_commitment_orders_1) (h : F_slices_IndexFunc_Order_commitment_orders_1 p0 p1 = some r) : CallOk Tryz.prog 96 [(AV.ref 0 p0.length 0 p0.length), (AV.fn 89 [(vp 1)])] [(eS 5 TApiOrder.e p0), (Ob.box (vi p1))] (V_slices_IndexFunc_Order_commitment_orders_1 r) (L_slices_IndexFunc_Order_commitment_orders_1 p0 p1 r) := fOk (s := S_slices_IndexFunc_Order_commitment_orders_1 p0 p1) Tryz.func96 rfl (by kernel_rfl) h

/-! 88 -/
abbrev R_slices_DeleteFunc_Order_commitment_orders_1 := (List TApiOrder)
def V_slices_DeleteFunc_Order_commitment_orders_1 (x : R_slices_DeleteFunc_Order_commitment_orders_1) : AV := (AV.d (eL TApiOrder.e x))
def L_slices_DeleteFunc_Order_commitment_orders_1 (p1 : Int) (_ : R_slices_DeleteFunc_Order_commitment_orders_1) : List Ob := [Ob.dead, (Ob.box (vi p1))]
noncomputable def S_slices_DeleteFunc_Order_commitment_orders_1_b1 (p1 : Int) (sv1 : (List TApiOrder) × Int × Int) : Scr Tryz.prog R_slices_DeleteFunc_Order_commitment_orders_1 (Step ((List TApiOrder) × Int × Int) R_slices_DeleteFunc_Order_commitment_orders_1) :=
.ite (decide (sv1.2.2 < (sv1.1.length : Int))) (
.guard [(0 : Int) ≤ sv1.2.2, (sv1.2.2).toNat < sv1.1.length, (0 + (sv1.2.2).toNat) < sv1.1.length] <|
.reg 7 [] [] [.pf (Eq.refl sv1.1.length), .ev 0, .ev 1, .pf (Eq.refl sv1.1.length), .ev 2] <|
.call (@F_commitment_orders_1_ok (sv1.1.getD (0 + (sv1.2.2).toNat) default) p1) fun rv2 cv2 =>
.reg 8 [] [(2, hc cv2 [1] true)] [.cl 0 cv2 [1] 3 true] <|
.ite (!rv2) (
.guard [(0 : Int) ≤ sv1.2.1, (sv1.2.1).toNat < sv1.1.length, (0 + (sv1.2.1).toNat) < sv1.1.length] <|
.reg 9 [] [(4, { obs := [(0, (eS 5 TApiOrder.e (sv1.1.set (0 + (sv1.2.1).toNat) (sv1.1.getD (0 + (sv1.2.2).toNat) default))))] })] [.pf (Eq.refl sv1.1.length), .ev 0, .ev 1, .pf (Eq.refl sv1.1.length), .ev 2, .pf (oLe_set (sz := 5) (e := TApiOrder.e) (l := sv1.1) (i := (0 + (sv1.2.1).toNat)) (x := (sv1.1.getD (0 + (sv1.2.2).toNat) default)) (fun _ => rfl))] <|
.cst (A := True) (.pf trivial) [(0, (AV.ref 0 sv1.1.length 0 sv1.1.length)), (1, (AV.fn 89 [(vp 1)])), (5, (vi sv1.2.1)), (6, (vi sv1.2.2))] [(0, (AV.ref 0 ((sv1.1.set (0 + (sv1.2.1).toNat) (sv1.1.getD (0 + (sv1.2.2).toNat) default)).length) 0 ((sv1.1.set (0 + (sv1.2.1).toNat) (sv1.1.getD (0 + (sv1.2.2).toNat) default)).length))), (1, (AV.fn 89 [(vp 1)])), (5, (vi sv1.2.1)), (6, (vi sv1.2.2))] [(eS 5 TApiOrder.e (sv1.1.set (0 + (sv1.2.1).toNat) (sv1.1.getD (0 + (sv1.2.2).toNat) default))), (Ob.box (vi p1)), (bx (TApiOrder.e (sv1.1.getD (0 + (sv1.2.2).toNat) default)))] [(eS 5 TApiOrder.e (sv1.1.set (0 + (sv1.2.1).toNat) (sv1.1.getD (0 + (sv1.2.2).toNat) default))), (Ob.box (vi p1)), (bx (TApiOrder.e (sv1.1.getD (0 + (sv1.2.2).toNat) default)))] (fun _ => ⟨by simp only [List.length_set], by rfl⟩) <|
.ret [] (.cont ((sv1.1.set (0 + (sv1.2.1).toNat) (sv1.1.getD (0 + (sv1.2.2).toNat) default)), (IntKind.i64.wrap (sv1.2.1 + 1)), (IntKind.i64.wrap (sv1.2.2 + 1))))) (
.ret [] (.cont (sv1.1, sv1.2.1, (IntKind.i64.wrap (sv1.2.2 + 1)))))) (
.ret [] (.brk (sv1.1, sv1.2.1, sv1.2.2)))

noncomputable def S_slices_DeleteFunc_Order_commitment_orders_1 (p0 : (List TApiOrder)) (p1 : Int) : Scr Tryz.prog R_slices_DeleteFunc_Order_commitment_orders_1 R_slices_DeleteFunc_Order_commitment_orders_1 :=
.call (@F_slices_IndexFunc_Order_commitment_orders_1_ok p0 p1) fun rv3 cv3 =>
.reg 1 [] [(2, hc cv3 [0, 1] true)] [.cl 0 cv3 [0, 1] 2 true] <|
.ite (rv3 == (-1)) (
.guard [p0.length < 2 ^ 63] <|
.reg 3 [] [] [] <|
.frz 0 (.ev 0) none [4] [] <|
.ret [] p0) (
.iter [1] (fun (sv1 : (List TApiOrder) × Int × Int) => [(0, (AV.ref 0 sv1.1.length 0 sv1.1.length)), (5, (vi sv1.2.1)), (6, (vi sv1.2.2))]) (fun (sv1 : (List TApiOrder) × Int × Int) => [(0, (eS 5 TApiOrder.e sv1.1))]) (p0, rv3, (IntKind.i64.wrap (rv3 + 1))) (S_slices_DeleteFunc_Order_commitment_orders_1_b1 p1) (fun (sv1 : (List TApiOrder) × Int × Int) =>
.guard [(0 : Int) ≤ sv1.2.1, (sv1.2.1).toNat ≤ sv1.1.length] <|
.reg 11 [] [(3, { obs := [(0, (eS 5 TApiOrder.e (clearL sv1.1 (0 + (sv1.2.1).toNat) (sv1.1.length - (sv1.2.1).toNat) (⟨0, 0, 0, 0, false⟩ : TApiOrder))))] })] [.ev 0, .ev 1, .pf (Eq.refl sv1.1.length), .pf (Eq.refl sv1.1.length), .pf (oLe_clear (sz := 5) (e := TApiOrder.e) (l := sv1.1) (off := (0 + (sv1.2.1).toNat)) (n := (sv1.1.length - (sv1.2.1).toNat)) (z := (⟨0, 0, 0, 0, false⟩ : TApiOrder)))] <|
.cst (A := True) (.pf trivial) [(0, (AV.ref 0 sv1.1.length 0 sv1.1.length)), (5, (vi sv1.2.1))] [(0, (AV.ref 0 ((clearL sv1.1 (0 + (sv1.2.1).toNat) (sv1.1.length - (sv1.2.1).toNat) (⟨0, 0, 0, 0, false⟩ : TApiOrder)).length) 0 ((clearL sv1.1 (0 + (sv1.2.1).toNat) (sv1.1.length - (sv1.2.1).toNat) (⟨0, 0, 0, 0, false⟩ : TApiOrder)).length))), (5, (vi sv1.2.1))] [(eS 5 TApiOrder.e (clearL sv1.1 (0 + (sv1.2.1).toNat) (sv1.1.length - (sv1.2.1).toNat) (⟨0, 0, 0, 0, false⟩ : TApiOrder))), (Ob.box (vi p1))] [(eS 5 TApiOrder.e (clearL sv1.1 (0 + (sv1.2.1).toNat) (sv1.1.length - (sv1.2.1).toNat) (⟨0, 0, 0, 0, false⟩ : TApiOrder))), (Ob.box (vi p1))] (fun _ => ⟨by simp only [clearL_length], by rfl⟩) <|
.guard [(sv1.2.1).toNat ≤ (clearL sv1.1 (0 + (sv1.2.1).toNat) (sv1.1.length - (sv1.2.1).toNat) (⟨0, 0, 0, 0, false⟩ : TApiOrder)).length] <|
.reg 12 [] [] [.ev 1, .ev 0, .pf (Eq.refl ((clearL sv1.1 (0 + (sv1.2.1).toNat) (sv1.1.length - (sv1.2.1).toNat) (⟨0, 0, 0, 0, false⟩ : TApiOrder)).length))] <|
.guard [(clearL sv1.1 (0 + (sv1.2.1).toNat) (sv1.1.length - (sv1.2.1).toNat) (⟨0, 0, 0, 0, false⟩ : TApiOrder)).length < 2 ^ 63] <|
.frz 0 (.ev 0) (some (.der (fun (h : (sv1.2.1).toNat ≤ (clearL sv1.1 (0 + (sv1.2.1).toNat) (sv1.1.length - (sv1.2.1).toNat) (⟨0, 0, 0, 0, false⟩ : TApiOrder)).length) => (Nat.le_trans (Nat.sub_le _ _) h : ((sv1.2.1).toNat - 0) ≤ (clearL sv1.1 (0 + (sv1.2.1).toNat) (sv1.1.length - (sv1.2.1).toNat) (⟨0, 0, 0, 0, false⟩ : TApiOrder)).length)) 1)) [4] [] <|
.lev 4 (AV.d (eL TApiOrder.e ((clearL sv1.1 (0 + (sv1.2.1).toNat) (sv1.1.length - (sv1.2.1).toNat) (⟨0, 0, 0, 0, false⟩ : TApiOrder)).take ((sv1.2.1).toNat)))) (.der (fun (h : (sv1.2.1).toNat ≤ (clearL sv1.1 (0 + (sv1.2.1).toNat) (sv1.1.length - (sv1.2.1).toNat) (⟨0, 0, 0, 0, false⟩ : TApiOrder)).length) => lvT TApiOrder.e (clearL sv1.1 (0 + (sv1.2.1).toNat) (sv1.1.length - (sv1.2.1).toNat) (⟨0, 0, 0, 0, false⟩ : TApiOrder)) h) 1) <|
.ret [] ((clearL sv1.1 (0 + (sv1.2.1).toNat) (sv1.1.length - (sv1.2.1).toNat) (⟨0, 0, 0, 0, false⟩ : TApiOrder)).take ((sv1.2.1).toNat))) id)

noncomputable def F_slices_DeleteFunc_Order_commitment_orders_1 (p0 : (List TApiOrder)) (p1 : Int) : Option R_slices_DeleteFunc_Order_commitment_orders_1 := (S_slices_DeleteFunc_Order_commitment_orders_1 p0 p1).den
set_option maxRecDepth 100000 in
theorem F_slices_DeleteFunc_Order_commitment_orders_1_ok {p0 : (List TApiOrder)} {p1 : Int} (r : R_slices_DeleteFunc_Order_commitment_orders_1) (h : F_slices_DeleteFunc_Order_commitment_orders_1 p0 p1 = some r) : CallOk Tryz.prog 88 [(AV.ref 0 p0.length 0 p0.length), (AV.fn 89 [(vp 1)])] [(eS 5 TApiOrder.e p0), (Ob.box (vi p1))] (V_slices_DeleteFunc_Order_commitment_orders_1 r) (L_slices_DeleteFunc_Order_commitment_orders_1 p1 r) := fOk (s := S_slices_DeleteFunc_Order_commitment_orders_1 p0 p1) Tryz.func88 rfl (by kernel_rfl) h

/-! 65 -/
abbrev R_commitment_orders := (List TApiOrder)
def V_commitment_orders (x : R_commitment_orders) : AV := (AV.d (eL TApiOrder.e x))
def L_commitment_orders (_ : R_commitment_orders) : List Ob := []
noncomputable def S_commitment_orders (a0 : TApiBook) (a1 : Int) : Scr Tryz.prog R_commitment_orders R_commitment_orders :=
.call (@F_slices_Clone_Order_rw_ok a0.Orders) fun rv1 cv1 =>
.call (@F_slices_DeleteFunc_Order_commitment_orders_1_ok rv1 a1) fun rv2 cv2 =>
.reg 1 [] [(2, hc cv1 [] false), (4, hc cv2 [2, 1] false)] [.cl 1 cv1 [] 2 false, .cl 0 cv2 [2, 1] 3 false] <|
.ret [] rv2

noncomputable def F_commitment_orders (a0 : TApiBook) (a1 : Int) : Option R_commitment_orders := (S_commitment_orders a0 a1).den
set_option maxRecDepth 100000 in
theorem F_commitment_orders_ok {a0 : TApiBook} {a1 : Int} (r : R_commitment_orders) (h : F_commitment_orders a0 a1 = some r) : CallOk Tryz.prog 65 [(AV.d (TApiBook.e a0)), (vi a1)] [] (V_commitment_orders r) (L_commitment_orders r) := fOk (s := S_commitment_orders a0 a1) Tryz.func65 rfl (by kernel_rfl) h

/-! 85 -/
abbrev R_commitment_order_1 := Bool
def V_commitment_order_1 (x : R_commitment_order_1) : AV := (vb x)
def L_commitment_order_1 (p0 : TApiOrder) (_ : R_commitment_order_1) : List Ob := [(bx (TApiOrder.e p0))]
noncomputable def S_commitment_order_1 (a0 : TApiOrder) (p0 : TApiOrder) : Scr Tryz.prog R_commitment_order_1 R_commitment_order_1 :=
.ret [] (bif (!a0.Back) then true else (decide (a0.Day > p0.Day)))

noncomputable def F_commitment_order_1 (a0 : TApiOrder) (p0 : TApiOrder) : Option R_commitment_order_1 := (S_commitment_order_1 a0 p0).den
set_option maxRecDepth 100000 in
theorem F_commitment_order_1_ok {a0 : TApiOrder} {p0 : TApiOrder} (r : R_commitment_order_1) (h : F_commitment_order_1 a0 p0 = some r) : CallOk Tryz.prog 85 [(AV.d (TApiOrder.e a0)), (vp 0)] [(bx (TApiOrder.e p0))] (V_commitment_order_1 r) (L_commitment_order_1 p0 r) := fOk (s := S_commitment_order_1 a0 p0) Tryz.func85 rfl (by kernel_rfl) h

/-! 96 -/
abbrev R_slices_IndexFunc_Order_commitment_order_1 := Int
def V_slices_IndexFunc_Order_commitment_order_1 (x : R_slices_IndexFunc_Order_commitment_order_1) : AV := (vi x)
def L_slices_IndexFunc_Order_commitment_order_1 (p0 : TApiOrder) (_ : R_slices_IndexFunc_Order_commitment_order_1) : List Ob := [(bx (TApiOrder.e p0))]
noncomputable def S_slices_IndexFunc_Order_commitment_order_1_b1 (a0 : (List TApiOrder)) (p0 : TApiOrder) (iv1 : Nat) (_ : Unit) : Scr Tryz.prog R_slices_IndexFunc_Order_commitment_order_1 (Step (Unit) R_slices_IndexFunc_Order_commitment_order_1) :=
.call (@F_commitment_order_1_ok (a0.getD iv1 default) p0) fun rv2 cv2 =>
.reg 4 [] [(5, hc cv2 [0] true)] [.pf (nn iv1), .ev 1, .cl 0 cv2 [0] 1 true] <|
.ite rv2 (
.ret [] (.ret (iv1 : Int))) (
.ret [] (.cont ()))

noncomputable def S_slices_IndexFunc_Order_commitment_order_1 (a0 : (List TApiOrder)) (p0 : TApiOrder) : Scr Tryz.prog R_slices_IndexFunc_Order_commitment_order_1 R_slices_IndexFunc_Order_commitment_order_1 :=
.range (a0.length : Int) a0.length rfl (.slot 0) 8 [0, 1, 7] (fun (_ : Unit) => []) (fun (_ : Unit) => []) () (S_slices_IndexFunc_Order_commitment_order_1_b1 a0 p0) (fun (_ : Unit) => 
.ret [] (-1)) id

noncomputable def F_slices_IndexFunc_Order_commitment_order_1 (a0 : (List TApiOrder)) (p0 : TApiOrder) : Option R_slices_IndexFunc_Order_commitment_order_1 := (S_slices_IndexFunc_Order_commitment_order_1 a0 p0).den
set_option maxRecDepth 100000 in
theorem F_slices_IndexFunc_Order_commitment_order_1_ok {a0 : (List TApiOrder)} {p0 : TApiOrder} (r : R_slices_IndexFunc_Order_commitment_order_1) (h : F_slices_IndexFunc_Order_commitment_order_1 a0 p0 = some r) : CallOk Tryz.prog 96 [(AV.d (eL TApiOrder.e a0)), (AV.fn 85 [(vp 0)])] [(bx (TApiOrder.e p0))] (V_slices_IndexFunc_Order_commitment_order_1 r) (L_slices_IndexFunc_Order_commitment_order_1 p0 r) := fOk (s := S_slices_IndexFunc_Order_commitment_order_1 a0 p0) Tryz.func96 rfl (by kernel_rfl) h

/-! 86 -/
abbrev R_slices_ContainsFunc_Order_commitment_order_1 := Bool
def V_slices_ContainsFunc_Order_commitment_order_1 (x : R_slices_ContainsFunc_Order_commitment_order_1) : AV := (vb x)
def L_slices_ContainsFunc_Order_commitment_order_1 (p0 : TApiOrder) (_ : R_slices_ContainsFunc_Order_commitment_order_1) : List Ob := [(bx (TApiOrder.e p0))]
noncomputable def S_slices_ContainsFunc_Order_commitment_order_1 (a0 : (List TApiOrder)) (p0 : TApiOrder) : Scr Tryz.prog R_slices_ContainsFunc_Order_commitment_order_1 R_slices_ContainsFunc_Order_commitment_order_1 :=
.call (@F_slices_IndexFunc_Order_commitment_order_1_ok a0 p0) fun rv1 cv1 =>
.reg 1 [] [(2, hc cv1 [0] true)] [.cl 0 cv1 [0] 1 true] <|
.ret [] (decide (rv1 ≥ 0))

noncomputable def F_slices_ContainsFunc_Order_commitment_order_1 (a0 : (List TApiOrder)) (p0 : TApiOrder) : Option R_slices_ContainsFunc_Order_commitment_order_1 := (S_slices_ContainsFunc_Order_commitment_order_1 a0 p0).den
set_option maxRecDepth 100000 in
theorem F_slices_ContainsFunc_Order_commitment_order_1_ok {a0 : (List TApiOrder)} {p0 : TApiOrder} (r : R_slices_ContainsFunc_Order_commitment_order_1) (h : F_slices_ContainsFunc_Order_commitment_order_1 a0 p0 = some r) : CallOk Tryz.prog 86 [(AV.d (eL TApiOrder.e a0)), (AV.fn 85 [(vp 0)])] [(bx (TApiOrder.e p0))] (V_slices_ContainsFunc_Order_commitment_order_1 r) (L_slices_ContainsFunc_Order_commitment_order_1 p0 r) := fOk (s := S_slices_ContainsFunc_Order_commitment_order_1 a0 p0) Tryz.func86 rfl (by kernel_rfl) h

/-! 60 -/
abbrev R_commitment_order := Bool
def V_commitment_order (x : R_commitment_order) : AV := (vb x)
def L_commitment_order (_ : R_commitment_order) : List Ob := []
noncomputable def S_commitment_order (a0 : TApiBook) (a1 : Int) : Scr Tryz.prog R_commitment_order R_commitment_order :=
.guard [(0 : Int) ≤ a1, (a1).toNat < a0.Orders.length] <|
.reg 1 [] [] [.ev 0, .ev 1] <|
.calld [(((a0.Orders.getD ((a1).toNat) default).Number) != (IntKind.i64.wrap (a1 + 1))) = false] default (@F_commitment_among_ok ((a0.Orders.getD ((a1).toNat) default).Verification) 1 (a0.Verifications.length : Int)) fun rv1 cv1 =>
.reg 2 [] [(11, hc cv1 [] true)] [.clg 0 [(((a0.Orders.getD ((a1).toNat) default).Number) != (IntKind.i64.wrap (a1 + 1))) = false] cv1 [] 2 true] <|
.ite (bif (((a0.Orders.getD ((a1).toNat) default).Number) != (IntKind.i64.wrap (a1 + 1))) then true else (!rv1)) (
.ret [] false) (
.guard [(0 : Int) ≤ (IntKind.i64.wrap (((a0.Orders.getD ((a1).toNat) default).Verification) - 1)), ((IntKind.i64.wrap (((a0.Orders.getD ((a1).toNat) default).Verification) - 1))).toNat < a0.Verifications.length] <|
.reg 4 [] [] [.ev 0, .ev 1] <|
.call (@F_commitment_orders_ok (⟨[], [], [], (a0.Orders.take ((a1).toNat))⟩ : TApiBook) ((a0.Orders.getD ((a1).toNat) default).Verification)) fun rv2 cv2 =>
.guard [(a1).toNat ≤ a0.Orders.length] <|
.reg 5 [] [(3, hv (AV.d (eL TApiOrder.e (a0.Orders.take ((a1).toNat))))), (4, hv (AV.d (TApiBook.e (⟨[], [], [], (a0.Orders.take ((a1).toNat))⟩ : TApiBook)))), (7, hc cv2 [] true)] [.ev 7, .ev 0, .der (fun (h0 : (a1).toNat ≤ a0.Orders.length) => lvT TApiOrder.e a0.Orders h0) 0, .pf (p := LeV (AV.d (DV.agg [(DV.sl 0 fun _ => DV.b false), (DV.sl 0 fun _ => DV.b false), (DV.sl 0 fun _ => DV.b false), (eL TApiOrder.e (a0.Orders.take ((a1).toNat)))])) (AV.d (TApiBook.e (⟨[], [], [], (a0.Orders.take ((a1).toNat))⟩ : TApiBook)))) (leV_dle rfl (DLe.agg (DLeL.cons DLe.sl0 (DLeL.cons DLe.sl0 (DLeL.cons DLe.sl0 (DLeL.cons (DLe.refl _) DLeL.nil)))))), .cl 1 cv2 [] 3 true] <|
.call (@F_commitment_day_ok ((a0.Orders.getD ((a1).toNat) default).Day)) fun rv3 cv3 =>
.calld [(bif rv3 then (decide (((a0.Orders.getD ((a1).toNat) default).Day) ≥ ((a0.Verifications.getD (((IntKind.i64.wrap (((a0.Orders.getD ((a1).toNat) default).Verification) - 1))).toNat) default).Day))) else false) = true] default (@F_calendar_Year_ok ((a0.Orders.getD ((a1).toNat) default).Day)) fun rv4 cv4 =>
.calld [(bif rv3 then (decide (((a0.Orders.getD ((a1).toNat) default).Day) ≥ ((a0.Verifications.getD (((IntKind.i64.wrap (((a0.Orders.getD ((a1).toNat) default).Verification) - 1))).toNat) default).Day))) else false) = true] default (@F_commitment_year_ok a0 (a0.Commitments.getD (((IntKind.i64.wrap (((a0.Verifications.getD (((IntKind.i64.wrap (((a0.Orders.getD ((a1).toNat) default).Verification) - 1))).toNat) default).Commitment) - 1))).toNat) default)) fun rv5 cv5 =>
.calld [(bif (bif (bif rv3 then (decide (((a0.Orders.getD ((a1).toNat) default).Day) ≥ ((a0.Verifications.getD (((IntKind.i64.wrap (((a0.Orders.getD ((a1).toNat) default).Verification) - 1))).toNat) default).Day))) else false) then (decide (rv4 ≤ (IntKind.i64.wrap (rv5 + 1)))) else false) then (((a0.Orders.getD ((a1).toNat) default).Attempt) == (IntKind.i64.wrap ((rv2.length : Int) + 1))) else false) = true] default (@F_slices_ContainsFunc_Order_commitment_order_1_ok rv2 (a0.Orders.getD ((a1).toNat) default)) fun rv6 cv6 =>
.guard [AllP [(bif rv3 then (decide (((a0.Orders.getD ((a1).toNat) default).Day) ≥ ((a0.Verifications.getD (((IntKind.i64.wrap (((a0.Orders.getD ((a1).toNat) default).Verification) - 1))).toNat) default).Day))) else false) = true] → ((0 : Int) ≤ (IntKind.i64.wrap (((a0.Verifications.getD (((IntKind.i64.wrap (((a0.Orders.getD ((a1).toNat) default).Verification) - 1))).toNat) default).Commitment) - 1))), AllP [(bif rv3 then (decide (((a0.Orders.getD ((a1).toNat) default).Day) ≥ ((a0.Verifications.getD (((IntKind.i64.wrap (((a0.Orders.getD ((a1).toNat) default).Verification) - 1))).toNat) default).Day))) else false) = true] → (((IntKind.i64.wrap (((a0.Verifications.getD (((IntKind.i64.wrap (((a0.Orders.getD ((a1).toNat) default).Verification) - 1))).toNat) default).Commitment) - 1))).toNat < a0.Commitments.length)] <|
.reg 7 [] [(2, hc cv3 [] true), (13, hc cv4 [] true), (22, hc cv5 [] true), (37, hc cv6 [1] true)] [.cl 8 cv3 [] 3 true, .clg 6 [(bif rv3 then (decide (((a0.Orders.getD ((a1).toNat) default).Day) ≥ ((a0.Verifications.getD (((IntKind.i64.wrap (((a0.Orders.getD ((a1).toNat) default).Verification) - 1))).toNat) default).Day))) else false) = true] cv4 [] 3 true, .ev 0, .ev 1, .clg 4 [(bif rv3 then (decide (((a0.Orders.getD ((a1).toNat) default).Day) ≥ ((a0.Verifications.getD (((IntKind.i64.wrap (((a0.Orders.getD ((a1).toNat) default).Verification) - 1))).toNat) default).Day))) else false) = true] cv5 [] 3 true, .clg 2 [(bif (bif (bif rv3 then (decide (((a0.Orders.getD ((a1).toNat) default).Day) ≥ ((a0.Verifications.getD (((IntKind.i64.wrap (((a0.Orders.getD ((a1).toNat) default).Verification) - 1))).toNat) default).Day))) else false) then (decide (rv4 ≤ (IntKind.i64.wrap (rv5 + 1)))) else false) then (((a0.Orders.getD ((a1).toNat) default).Attempt) == (IntKind.i64.wrap ((rv2.length : Int) + 1))) else false) = true] cv6 [1] 3 true] <|
.ret [] (bif (bif (bif (bif rv3 then (decide (((a0.Orders.getD ((a1).toNat) default).Day) ≥ ((a0.Verifications.getD (((IntKind.i64.wrap (((a0.Orders.getD ((a1).toNat) default).Verification) - 1))).toNat) default).Day))) else false) then (decide (rv4 ≤ (IntKind.i64.wrap (rv5 + 1)))) else false) then (((a0.Orders.getD ((a1).toNat) default).Attempt) == (IntKind.i64.wrap ((rv2.length : Int) + 1))) else false) then (!rv6) else false))

noncomputable def F_commitment_order (a0 : TApiBook) (a1 : Int) : Option R_commitment_order := (S_commitment_order a0 a1).den
set_option maxRecDepth 100000 in
theorem F_commitment_order_ok {a0 : TApiBook} {a1 : Int} (r : R_commitment_order) (h : F_commitment_order a0 a1 = some r) : CallOk Tryz.prog 60 [(AV.d (TApiBook.e a0)), (vi a1)] [] (V_commitment_order r) (L_commitment_order r) := fOk (s := S_commitment_order a0 a1) Tryz.func60 rfl (by kernel_rfl) h

/-! 56 -/
abbrev R_commitment_all_commitment_order := Bool
def V_commitment_all_commitment_order (x : R_commitment_all_commitment_order) : AV := (vb x)
def L_commitment_all_commitment_order (_ : R_commitment_all_commitment_order) : List Ob := []
noncomputable def S_commitment_all_commitment_order_b1 (a0 : TApiBook) (iv1 : Nat) (_ : Unit) : Scr Tryz.prog R_commitment_all_commitment_order (Step (Unit) R_commitment_all_commitment_order) :=
.call (@F_commitment_order_ok a0 (iv1 : Int)) fun rv2 cv2 =>
.reg 4 [] [(3, hc cv2 [] true)] [.cl 0 cv2 [] 1 true] <|
.ite (!rv2) (
.ret [] (.ret false)) (
.ret [] (.cont ()))

noncomputable def S_commitment_all_commitment_order (a0 : TApiBook) (a1 : Int) : Scr Tryz.prog R_commitment_all_commitment_order R_commitment_all_commitment_order :=
.guard [(a1).toNat < 2 ^ 63] <|
.range a1 ((a1).toNat) rfl (.why (.ev 0)) 9 [1, 2, 3, 8] (fun (_ : Unit) => []) (fun (_ : Unit) => []) () (S_commitment_all_commitment_order_b1 a0) (fun (_ : Unit) => 
.ret [] (decide (a1 ≤ 200))) id

noncomputable def F_commitment_all_commitment_order (a0 : TApiBook) (a1 : Int) : Option R_commitment_all_commitment_order := (S_commitment_all_commitment_order a0 a1).den
set_option maxRecDepth 100000 in
theorem F_commitment_all_commitment_order_ok {a0 : TApiBook} {a1 : Int} (r : R_commitment_all_commitment_order) (h : F_commitment_all_commitment_order a0 a1 = some r) : CallOk Tryz.prog 56 [(AV.d (TApiBook.e a0)), (vi a1), (AV.fn 60 [])] [] (V_commitment_all_commitment_order r) (L_commitment_all_commitment_order r) := fOk (s := S_commitment_all_commitment_order a0 a1) Tryz.func56 rfl (by kernel_rfl) h

/-! 17 -/
abbrev R_commitment_Valid := Bool
def V_commitment_Valid (x : R_commitment_Valid) : AV := (vb x)
def L_commitment_Valid (_ : R_commitment_Valid) : List Ob := []
noncomputable def S_commitment_Valid (a0 : TApiBook) : Scr Tryz.prog R_commitment_Valid R_commitment_Valid :=
.call (@F_commitment_all_commitment_reservation_ok a0 (a0.Reservations.length : Int)) fun rv1 cv1 =>
.calld [rv1 = true] default (@F_commitment_all_commitment_commitment_ok a0 (a0.Commitments.length : Int)) fun rv2 cv2 =>
.calld [(bif rv1 then rv2 else false) = true] default (@F_commitment_all_commitment_verification_ok a0 (a0.Verifications.length : Int)) fun rv3 cv3 =>
.calld [(bif (bif rv1 then rv2 else false) then rv3 else false) = true] default (@F_commitment_all_commitment_order_ok a0 (a0.Orders.length : Int)) fun rv4 cv4 =>
.reg 1 [] [(4, hc cv1 [] true), (10, hc cv2 [] true), (17, hc cv3 [] true), (24, hc cv4 [] true)] [.cl 6 cv1 [] 1 true, .clg 4 [rv1 = true] cv2 [] 1 true, .clg 2 [(bif rv1 then rv2 else false) = true] cv3 [] 1 true, .clg 0 [(bif (bif rv1 then rv2 else false) then rv3 else false) = true] cv4 [] 1 true] <|
.ret [] (bif (bif (bif rv1 then rv2 else false) then rv3 else false) then rv4 else false)

noncomputable def F_commitment_Valid (a0 : TApiBook) : Option R_commitment_Valid := (S_commitment_Valid a0).den
set_option maxRecDepth 100000 in
theorem F_commitment_Valid_ok {a0 : TApiBook} (r : R_commitment_Valid) (h : F_commitment_Valid a0 = some r) : CallOk Tryz.prog 17 [(AV.d (TApiBook.e a0))] [] (V_commitment_Valid r) (L_commitment_Valid r) := fOk (s := S_commitment_Valid a0) Tryz.func17 rfl (by kernel_rfl) h

/-! 75 -/
abbrev R_slices_Clone_Reservation_rw := (List TApiReservation)
def V_slices_Clone_Reservation_rw (x : R_slices_Clone_Reservation_rw) : AV := (AV.ref 0 x.length 0 x.length)
def L_slices_Clone_Reservation_rw (x : R_slices_Clone_Reservation_rw) : List Ob := [(eS 6 TApiReservation.e x)]
noncomputable def S_slices_Clone_Reservation_rw (a0 : (List TApiReservation)) : Scr Tryz.prog R_slices_Clone_Reservation_rw R_slices_Clone_Reservation_rw :=
.reg 0 [] [] [] <|
.nils 0 (
.guard [a0.length * (2 * 56) ≤ 2 ^ 48] <|
.reg 1 [] [] [] <|
.lev 0 (AV.d (eL TApiReservation.e a0)) (.pf (lvQ true a0.length fun j => (TApiReservation.e (a0.getD j default)))) <|
.br true (.pf (p := true = true) rfl) <|
.reg 2 [] [] [] <|
.bor 6 (fun j => AV.d (TApiReservation.e (a0.getD j default))) [2] <|
.cst (A := a0.length = 0) (.ev 1) [(2, AV.ref 0 0 0 0)] [(2, (AV.ref 0 a0.length 0 a0.length))] [(Ob.seq 6 0 fun j => AV.d (TApiReservation.e (a0.getD j default)))] [(eS 6 TApiReservation.e a0)] (fun h => ⟨by rw [h], by unfold eS; rw [h]⟩) <|
.ret [] a0) (
.reg 1 [] [] [] <|
.lev 0 (AV.d (eL TApiReservation.e a0)) (.pf (lvQ false a0.length fun j => (TApiReservation.e (a0.getD j default)))) <|
.br false (.pf (p := false = false) rfl) <|
.guard [a0.length * (2 * 56) ≤ 2 ^ 48] <|
.reg 3 [] [(2, { h := .obj })] [.pf (p := ∀ k, k < a0.length → (AV.d (TApiReservation.e (a0.getD k default))).wd = 6) (fun _ _ => rfl), .ev 0] <|
.ret [] a0)

noncomputable def F_slices_Clone_Reservation_rw (a0 : (List TApiReservation)) : Option R_slices_Clone_Reservation_rw := (S_slices_Clone_Reservation_rw a0).den
set_option maxRecDepth 100000 in
theorem F_slices_Clone_Reservation_rw_ok {a0 : (List TApiReservation)} (r : R_slices_Clone_Reservation_rw) (h : F_slices_Clone_Reservation_rw a0 = some r) : CallOk Tryz.prog 75 [(AV.d (eL TApiReservation.e a0))] [] (V_slices_Clone_Reservation_rw r) (L_slices_Clone_Reservation_rw r) := fOk (s := S_slices_Clone_Reservation_rw a0) Tryz.func75 rfl (by kernel_rfl) h

end Go.Proofs.YteelhiohkbbdhaaGreatDoor
