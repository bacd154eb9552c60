/- A part of the proof: what the functions compute, and that their calls return it. No condition. -/
import Derived.Test.YteelhiohkbbdhaaGreatDoorG14D
/- What the functions compute, and that their calls return it. No condition. -/
namespace Go.Proofs.YteelhiohkbbdhaaGreatDoor
open Go Go.TA

/-! 8 -/
abbrev R_mk_New := TTreasurymakeTape
def V_mk_New (_ : R_mk_New) : AV := (vp 0)
def L_mk_New (x : R_mk_New) : List Ob := [(bx (TTreasurymakeTape.e x))]
noncomputable def S_mk_New (a0 : (List Int)) : Scr Tryz.prog R_mk_New R_mk_New :=
.guard [(0 : Int) ≤ (if 500 < (a0.length : Int) then 500 else (a0.length : Int)), ((if 500 < (a0.length : Int) then 500 else (a0.length : Int))).toNat ≤ a0.length] <|
.reg 1 [] [(4, hv (vl (a0.take (((if 500 < (a0.length : Int) then 500 else (a0.length : Int))).toNat))))] [.ev 0, .ev 1, .der (fun (h0 : ((if 500 < (a0.length : Int) then 500 else (a0.length : Int))).toNat ≤ a0.length) => lvT (DV.i .i64) a0 h0) 1] <|
.ret [] (⟨(a0.take (((if 500 < (a0.length : Int) then 500 else (a0.length : Int))).toNat)), 0⟩ : TTreasurymakeTape)

noncomputable def F_mk_New (a0 : (List Int)) : Option R_mk_New := (S_mk_New a0).den
set_option maxRecDepth 100000 in
theorem F_mk_New_ok {a0 : (List Int)} (r : R_mk_New) (h : F_mk_New a0 = some r) : CallOk Tryz.prog 8 [(vl a0)] [] (V_mk_New r) (L_mk_New r) := fOk (s := S_mk_New a0) Tryz.func8 rfl (by kernel_rfl) h

/-! 15 -/
abbrev R_mk_Tape_N := Int × TTreasurymakeTape
def V_mk_Tape_N (x : R_mk_Tape_N) : AV := (vi x.1)
def L_mk_Tape_N (x : R_mk_Tape_N) : List Ob := [(bx (TTreasurymakeTape.e x.2))]
noncomputable def S_mk_Tape_N (a1 : Int) (p0 : TTreasurymakeTape) : Scr Tryz.prog R_mk_Tape_N R_mk_Tape_N :=
.ite (decide (p0.at_ ≥ (p0.l.length : Int))) (
.ret [] (0, p0)) (
.guard [(0 : Int) ≤ p0.at_, (p0.at_).toNat < p0.l.length, (a1 : Int) ≠ 0] <|
.reg 3 [] [] [.ev 0, .ev 1, .ev 2] <|
.ite (decide (((p0.l.getD ((p0.at_).toNat) default).tmod a1) < 0)) (
.ret [] ((IntKind.i64.wrap (((p0.l.getD ((p0.at_).toNat) default).tmod a1) + a1)), (⟨p0.l, (IntKind.i64.wrap (p0.at_ + 1))⟩ : TTreasurymakeTape))) (
.ret [] (((p0.l.getD ((p0.at_).toNat) default).tmod a1), (⟨p0.l, (IntKind.i64.wrap (p0.at_ + 1))⟩ : TTreasurymakeTape))))

noncomputable def F_mk_Tape_N (a1 : Int) (p0 : TTreasurymakeTape) : Option R_mk_Tape_N := (S_mk_Tape_N a1 p0).den
set_option maxRecDepth 100000 in
theorem F_mk_Tape_N_ok {a1 : Int} {p0 : TTreasurymakeTape} (r : R_mk_Tape_N) (h : F_mk_Tape_N a1 p0 = some r) : CallOk Tryz.prog 15 [(vp 0), (vi a1)] [(bx (TTreasurymakeTape.e p0))] (V_mk_Tape_N r) (L_mk_Tape_N r) := fOk (s := S_mk_Tape_N a1 p0) Tryz.func15 rfl (by kernel_rfl) h

/-! 38 -/
abbrev R_mk_Tape_Pick := Int × TTreasurymakeTape
def V_mk_Tape_Pick (x : R_mk_Tape_Pick) : AV := (vi x.1)
def L_mk_Tape_Pick (x : R_mk_Tape_Pick) : List Ob := [(bx (TTreasurymakeTape.e x.2))]
noncomputable def S_mk_Tape_Pick (a1 : (List Int)) (p0 : TTreasurymakeTape) : Scr Tryz.prog R_mk_Tape_Pick R_mk_Tape_Pick :=
.call (@F_mk_Tape_N_ok (a1.length : Int) p0) fun r7 c7 =>
.guard [(0 : Int) ≤ r7.1, (r7.1).toNat < a1.length] <|
.reg 1 [] [(4, hc c7 [0] false)] [.cl 2 c7 [0] 1 false, .ev 0, .ev 1] <|
.ret [] ((a1.getD ((r7.1).toNat) default), r7.2)

noncomputable def F_mk_Tape_Pick (a1 : (List Int)) (p0 : TTreasurymakeTape) : Option R_mk_Tape_Pick := (S_mk_Tape_Pick a1 p0).den
set_option maxRecDepth 100000 in
theorem F_mk_Tape_Pick_ok {a1 : (List Int)} {p0 : TTreasurymakeTape} (r : R_mk_Tape_Pick) (h : F_mk_Tape_Pick a1 p0 = some r) : CallOk Tryz.prog 38 [(vp 0), (vl a1)] [(bx (TTreasurymakeTape.e p0))] (V_mk_Tape_Pick r) (L_mk_Tape_Pick r) := fOk (s := S_mk_Tape_Pick a1 p0) Tryz.func38 rfl (by kernel_rfl) h

/-! 12 -/
abbrev R_mk_Tape_Range := Int × TTreasurymakeTape
def V_mk_Tape_Range (x : R_mk_Tape_Range) : AV := (vi x.1)
def L_mk_Tape_Range (x : R_mk_Tape_Range) : List Ob := [(bx (TTreasurymakeTape.e x.2))]
noncomputable def S_mk_Tape_Range (a1 : Int) (a2 : Int) (p0 : TTreasurymakeTape) : Scr Tryz.prog R_mk_Tape_Range R_mk_Tape_Range :=
.call (@F_mk_Tape_N_ok (IntKind.i64.wrap ((IntKind.i64.wrap (a2 - a1)) + 1)) p0) fun rv1 cv1 =>
.reg 1 [] [(6, hc cv1 [0] false)] [.cl 0 cv1 [0] 1 false] <|
.ret [] ((IntKind.i64.wrap (a1 + rv1.1)), rv1.2)

noncomputable def F_mk_Tape_Range (a1 : Int) (a2 : Int) (p0 : TTreasurymakeTape) : Option R_mk_Tape_Range := (S_mk_Tape_Range a1 a2 p0).den
set_option maxRecDepth 100000 in
theorem F_mk_Tape_Range_ok {a1 : Int} {a2 : Int} {p0 : TTreasurymakeTape} (r : R_mk_Tape_Range) (h : F_mk_Tape_Range a1 a2 p0 = some r) : CallOk Tryz.prog 12 [(vp 0), (vi a1), (vi a2)] [(bx (TTreasurymakeTape.e p0))] (V_mk_Tape_Range r) (L_mk_Tape_Range r) := fOk (s := S_mk_Tape_Range a1 a2 p0) Tryz.func12 rfl (by kernel_rfl) h

/-! 21 -/
abbrev R_mk_PotCode := List UInt8 × TTreasurymakeTape
def V_mk_PotCode (x : R_mk_PotCode) : AV := (AV.d (DV.str x.1))
def L_mk_PotCode (x : R_mk_PotCode) : List Ob := [(bx (TTreasurymakeTape.e x.2))]
noncomputable def S_mk_PotCode (p0 : TTreasurymakeTape) : Scr Tryz.prog R_mk_PotCode R_mk_PotCode :=
.call (@F_mk_Tape_N_ok 3 p0) fun rv1 cv1 =>
.guard [(0 : Int) ≤ rv1.1, (rv1.1).toNat < 3] <|
.reg 1 [] [(0, hv (AV.d (eL DV.str ([[49], [49, 46, 50], [50]] : List (List UInt8))))), (2, hc cv1 [0] false)] [.pf (leV_lit DV.str ([[49], [49, 46, 50], [50]] : List (List UInt8))), .cl 2 cv1 [0] 1 false, .ev 0, .ev 1] <|
.ret [] ((([[49], [49, 46, 50], [50]] : List (List UInt8)).getD ((rv1.1).toNat) default), rv1.2)

noncomputable def F_mk_PotCode (p0 : TTreasurymakeTape) : Option R_mk_PotCode := (S_mk_PotCode p0).den
set_option maxRecDepth 100000 in
theorem F_mk_PotCode_ok {p0 : TTreasurymakeTape} (r : R_mk_PotCode) (h : F_mk_PotCode p0 = some r) : CallOk Tryz.prog 21 [(vp 0)] [(bx (TTreasurymakeTape.e p0))] (V_mk_PotCode r) (L_mk_PotCode r) := fOk (s := S_mk_PotCode p0) Tryz.func21 rfl (by kernel_rfl) h

/-! 79 -/
abbrev R_r03_Good := Bool
def V_r03_Good (x : R_r03_Good) : AV := (vb x)
def L_r03_Good (_ : R_r03_Good) : List Ob := []
noncomputable def S_r03_Good_b1 (a0 : List UInt8) (sv1 : Int × Int × Int) : Scr Tryz.prog R_r03_Good (Step (Int × Int × Int) R_r03_Good) :=
.ite (decide (sv1.2.2 < (a0.length : Int))) (
.guard [(0 : Int) ≤ sv1.2.2, (sv1.2.2).toNat < a0.length] <|
.reg 6 [] [] [.ev 0, .ev 1] <|
.ite (((a0.getD ((sv1.2.2).toNat) 0).toNat : Int) == 46) (
.ite (sv1.1 == 0) (
.ret [] (.ret false)) (
.ret [] (.cont (0, (IntKind.i64.wrap (sv1.2.1 + 1)), (IntKind.i64.wrap (sv1.2.2 + 1)))))) (
.guard [AllP [(decide (((a0.getD ((sv1.2.2).toNat) 0).toNat : Int) < 48)) = false] → ((0 : Int) ≤ sv1.2.2), AllP [(decide (((a0.getD ((sv1.2.2).toNat) 0).toNat : Int) < 48)) = false] → ((sv1.2.2).toNat < a0.length), AllP [(sv1.1 == 0) = true, (bif (decide (((a0.getD ((sv1.2.2).toNat) 0).toNat : Int) < 48)) then true else (decide (((a0.getD ((sv1.2.2).toNat) 0).toNat : Int) > 57))) = false] → ((0 : Int) ≤ sv1.2.2), AllP [(sv1.1 == 0) = true, (bif (decide (((a0.getD ((sv1.2.2).toNat) 0).toNat : Int) < 48)) then true else (decide (((a0.getD ((sv1.2.2).toNat) 0).toNat : Int) > 57))) = false] → ((sv1.2.2).toNat < a0.length)] <|
.reg 11 [] [] [.ev 5, .ev 6, .ev 0, .ev 1, .ev 2, .ev 3] <|
.ite (bif (bif (bif (decide (((a0.getD ((sv1.2.2).toNat) 0).toNat : Int) < 48)) then true else (decide (((a0.getD ((sv1.2.2).toNat) 0).toNat : Int) > 57))) then true else (bif (sv1.1 == 0) then (((a0.getD ((sv1.2.2).toNat) 0).toNat : Int) == 48) else false)) then true else (sv1.1 == 2)) (
.ret [] (.ret false)) (
.ret [] (.cont ((IntKind.i64.wrap (sv1.1 + 1)), sv1.2.1, (IntKind.i64.wrap (sv1.2.2 + 1))))))) (
.ret [] (.brk (sv1.1, sv1.2.1, sv1.2.2)))

noncomputable def S_r03_Good (a0 : List UInt8) : Scr Tryz.prog R_r03_Good R_r03_Good :=
.iter [0] (fun (sv1 : Int × Int × Int) => [(3, (vi sv1.1)), (4, (vi sv1.2.1)), (5, (vi sv1.2.2))]) (fun (_ : Int × Int × Int) => []) (0, 1, 0) (S_r03_Good_b1 a0) (fun (sv1 : Int × Int × Int) =>
.ret [] (bif (decide (sv1.1 > 0)) then (decide (sv1.2.1 ≤ 4)) else false)) id

noncomputable def F_r03_Good (a0 : List UInt8) : Option R_r03_Good := (S_r03_Good a0).den
set_option maxRecDepth 100000 in
theorem F_r03_Good_ok {a0 : List UInt8} (r : R_r03_Good) (h : F_r03_Good a0 = some r) : CallOk Tryz.prog 79 [(AV.d (DV.str a0))] [] (V_r03_Good r) (L_r03_Good r) := fOk (s := S_r03_Good a0) Tryz.func79 rfl (by kernel_rfl) h

/-! 80 -/
abbrev R_r14_day := Bool
def V_r14_day (x : R_r14_day) : AV := (vb x)
def L_r14_day (_ : R_r14_day) : List Ob := []
noncomputable def S_r14_day (a0 : Int) : Scr Tryz.prog R_r14_day R_r14_day :=
.ret [] (bif (decide (a0 ≥ 0)) then (decide (a0 ≤ 35990)) else false)

noncomputable def F_r14_day (a0 : Int) : Option R_r14_day := (S_r14_day a0).den
set_option maxRecDepth 100000 in
theorem F_r14_day_ok {a0 : Int} (r : R_r14_day) (h : F_r14_day a0 = some r) : CallOk Tryz.prog 80 [(vi a0)] [] (V_r14_day r) (L_r14_day r) := fOk (s := S_r14_day a0) Tryz.func80 rfl (by kernel_rfl) h

/-! 95 -/
abbrev R_r02_Valid := Bool
def V_r02_Valid (x : R_r02_Valid) : AV := (vb x)
def L_r02_Valid (_ : R_r02_Valid) : List Ob := []
noncomputable def S_r02_Valid (a0 : Int) : Scr Tryz.prog R_r02_Valid R_r02_Valid :=
.ret [] (bif (decide (a0 ≥ 0)) then (decide (a0 ≤ 36000)) else false)

noncomputable def F_r02_Valid (a0 : Int) : Option R_r02_Valid := (S_r02_Valid a0).den
set_option maxRecDepth 100000 in
theorem F_r02_Valid_ok {a0 : Int} (r : R_r02_Valid) (h : F_r02_Valid a0 = some r) : CallOk Tryz.prog 95 [(vi a0)] [] (V_r02_Valid r) (L_r02_Valid r) := fOk (s := S_r02_Valid a0) Tryz.func95 rfl (by kernel_rfl) h

/-! 82 -/
abbrev R_r02_Year := Int
def V_r02_Year (x : R_r02_Year) : AV := (vi x)
def L_r02_Year (_ : R_r02_Year) : List Ob := []
noncomputable def S_r02_Year (a0 : Int) : Scr Tryz.prog R_r02_Year R_r02_Year :=
.call (@F_r02_Valid_ok a0) fun rv1 cv1 =>
.reg 1 [] [(1, hc cv1 [] true)] [.cl 0 cv1 [] 0 true] <|
.ite (!rv1) (
.ret [] (-1)) (
.reg 3 [] [] [.pf (p := (360 : Int) ≠ 0) (by decide)] <|
.ret [] (IntKind.i64.wrap (a0.tdiv 360)))

noncomputable def F_r02_Year (a0 : Int) : Option R_r02_Year := (S_r02_Year a0).den
set_option maxRecDepth 100000 in
theorem F_r02_Year_ok {a0 : Int} (r : R_r02_Year) (h : F_r02_Year a0 = some r) : CallOk Tryz.prog 82 [(vi a0)] [] (V_r02_Year r) (L_r02_Year r) := fOk (s := S_r02_Year a0) Tryz.func82 rfl (by kernel_rfl) h

/-! 81 -/
abbrev R_r14_amount := Bool
def V_r14_amount (x : R_r14_amount) : AV := (vb x)
def L_r14_amount (_ : R_r14_amount) : List Ob := []
noncomputable def S_r14_amount (a0 : Int) : Scr Tryz.prog R_r14_amount R_r14_amount :=
.ret [] (bif (decide (a0 ≥ 1)) then (decide (a0 ≤ 1000000000000)) else false)

noncomputable def F_r14_amount (a0 : Int) : Option R_r14_amount := (S_r14_amount a0).den
set_option maxRecDepth 100000 in
theorem F_r14_amount_ok {a0 : Int} (r : R_r14_amount) (h : F_r14_amount a0 = some r) : CallOk Tryz.prog 81 [(vi a0)] [] (V_r14_amount r) (L_r14_amount r) := fOk (s := S_r14_amount a0) Tryz.func81 rfl (by kernel_rfl) h

/-! 61 -/
abbrev R_r14_reservations := Bool
def V_r14_reservations (x : R_r14_reservations) : AV := (vb x)
def L_r14_reservations (_ : R_r14_reservations) : List Ob := []
noncomputable def S_r14_reservations_b1 (a0 : TApiBook) (iv1 : Nat) (_ : Unit) : Scr Tryz.prog R_r14_reservations (Step (Unit) R_r14_reservations) :=
.reg 3 [] [] [.pf (nn iv1), .ev 0] <|
.calld [(((a0.Reservations.getD iv1 default).Number) != (IntKind.i64.wrap ((iv1 : Int) + 1))) = false] default (@F_r03_Good_ok ((a0.Reservations.getD iv1 default).Code)) fun rv2 cv2 =>
.calld [(bif (bif (bif (((a0.Reservations.getD iv1 default).Number) != (IntKind.i64.wrap ((iv1 : Int) + 1))) then true else (!rv2)) then true else (decide (((a0.Reservations.getD iv1 default).Year) < 0))) then true else (decide (((a0.Reservations.getD iv1 default).Year) > 99))) = false] default (@F_r14_day_ok ((a0.Reservations.getD iv1 default).Day)) fun rv3 cv3 =>
.calld [(bif (bif (bif (bif (((a0.Reservations.getD iv1 default).Number) != (IntKind.i64.wrap ((iv1 : Int) + 1))) then true else (!rv2)) then true else (decide (((a0.Reservations.getD iv1 default).Year) < 0))) then true else (decide (((a0.Reservations.getD iv1 default).Year) > 99))) then true else (!rv3)) = false] default (@F_r02_Year_ok ((a0.Reservations.getD iv1 default).Day)) fun rv4 cv4 =>
.calld [(bif (bif (bif (bif (bif (((a0.Reservations.getD iv1 default).Number) != (IntKind.i64.wrap ((iv1 : Int) + 1))) then true else (!rv2)) then true else (decide (((a0.Reservations.getD iv1 default).Year) < 0))) then true else (decide (((a0.Reservations.getD iv1 default).Year) > 99))) then true else (!rv3)) then true else (rv4 != ((a0.Reservations.getD iv1 default).Year))) = false] default (@F_r14_amount_ok ((a0.Reservations.getD iv1 default).Amount)) fun rv5 cv5 =>
.reg 4 [] [(8, hc cv2 [] true), (24, hc cv3 [] true), (30, hc cv4 [] true), (38, hc cv5 [] true)] [.clg 6 [(((a0.Reservations.getD iv1 default).Number) != (IntKind.i64.wrap ((iv1 : Int) + 1))) = false] cv2 [] 2 true, .clg 4 [(bif (bif (bif (((a0.Reservations.getD iv1 default).Number) != (IntKind.i64.wrap ((iv1 : Int) + 1))) then true else (!rv2)) then true else (decide (((a0.Reservations.getD iv1 default).Year) < 0))) then true else (decide (((a0.Reservations.getD iv1 default).Year) > 99))) = false] cv3 [] 2 true, .clg 2 [(bif (bif (bif (bif (((a0.Reservations.getD iv1 default).Number) != (IntKind.i64.wrap ((iv1 : Int) + 1))) then true else (!rv2)) then true else (decide (((a0.Reservations.getD iv1 default).Year) < 0))) then true else (decide (((a0.Reservations.getD iv1 default).Year) > 99))) then true else (!rv3)) = false] cv4 [] 2 true, .clg 0 [(bif (bif (bif (bif (bif (((a0.Reservations.getD iv1 default).Number) != (IntKind.i64.wrap ((iv1 : Int) + 1))) then true else (!rv2)) then true else (decide (((a0.Reservations.getD iv1 default).Year) < 0))) then true else (decide (((a0.Reservations.getD iv1 default).Year) > 99))) then true else (!rv3)) then true else (rv4 != ((a0.Reservations.getD iv1 default).Year))) = false] cv5 [] 2 true] <|
.ite (bif (bif (bif (bif (bif (bif (bif (bif (((a0.Reservations.getD iv1 default).Number) != (IntKind.i64.wrap ((iv1 : Int) + 1))) then true else (!rv2)) then true else (decide (((a0.Reservations.getD iv1 default).Year) < 0))) then true else (decide (((a0.Reservations.getD iv1 default).Year) > 99))) then true else (!rv3)) then true else (rv4 != ((a0.Reservations.getD iv1 default).Year))) then true else (!rv5)) then true else (decide (((a0.Reservations.getD iv1 default).Released) < 0))) then true else (decide (((a0.Reservations.getD iv1 default).Released) > ((a0.Reservations.getD iv1 default).Amount)))) (
.ret [] (.ret false)) (
.ret [] (.cont ()))

noncomputable def S_r14_reservations (a0 : TApiBook) : Scr Tryz.prog R_r14_reservations R_r14_reservations :=
.range (a0.Reservations.length : Int) a0.Reservations.length rfl (.slot 6) 8 [6, 7] (fun (_ : Unit) => []) (fun (_ : Unit) => []) () (S_r14_reservations_b1 a0) (fun (_ : Unit) => 
.ret [] true) id

noncomputable def F_r14_reservations (a0 : TApiBook) : Option R_r14_reservations := (S_r14_reservations a0).den
set_option maxRecDepth 100000 in
theorem F_r14_reservations_ok {a0 : TApiBook} (r : R_r14_reservations) (h : F_r14_reservations a0 = some r) : CallOk Tryz.prog 61 [(AV.d (TApiBook.e a0))] [] (V_r14_reservations r) (L_r14_reservations r) := fOk (s := S_r14_reservations a0) Tryz.func61 rfl (by kernel_rfl) h

/-! 34 -/
abbrev R_r14_Left := Int
def V_r14_Left (x : R_r14_Left) : AV := (vi x)
def L_r14_Left (_ : R_r14_Left) : List Ob := []
noncomputable def S_r14_Left_b1 (a0 : TApiBook) (a1 : Int) (iv1 : Nat) (sv2 : Int) : Scr Tryz.prog R_r14_Left (Step (Int) R_r14_Left) :=
.reg 8 [] [] [.pf (nn iv1), .ev 0] <|
.ite (((a0.Commitments.getD iv1 default).Reservation) == a1) (
.ret [] (.cont (IntKind.i64.wrap (sv2 - ((a0.Commitments.getD iv1 default).Amount))))) (
.ret [] (.cont sv2))

noncomputable def S_r14_Left_b2 (a0 : TApiBook) (a1 : Int) (iv3 : Nat) (_ : Unit) : Scr Tryz.prog R_r14_Left (Step (Unit) R_r14_Left) :=
.reg 3 [] [] [.pf (nn iv3), .ev 0] <|
.ite (((a0.Reservations.getD iv3 default).Number) == a1) (
.range (a0.Commitments.length : Int) a0.Commitments.length rfl (.slot 27) 29 [1, 27, 28] (fun (sv2 : Int) => [(7, (vi sv2))]) (fun (_ : Int) => []) (IntKind.i64.wrap (((a0.Reservations.getD iv3 default).Amount) - ((a0.Reservations.getD iv3 default).Released))) (S_r14_Left_b1 a0 a1) (fun (sv2 : Int) => 
.ret [] (.ret sv2)) .ret) (
.ret [] (.cont ()))

noncomputable def S_r14_Left (a0 : TApiBook) (a1 : Int) : Scr Tryz.prog R_r14_Left R_r14_Left :=
.range (a0.Reservations.length : Int) a0.Reservations.length rfl (.slot 11) 13 [1, 2, 11, 12] (fun (_ : Unit) => []) (fun (_ : Unit) => []) () (S_r14_Left_b2 a0 a1) (fun (_ : Unit) => 
.ret [] 0) id

noncomputable def F_r14_Left (a0 : TApiBook) (a1 : Int) : Option R_r14_Left := (S_r14_Left a0 a1).den
set_option maxRecDepth 100000 in
theorem F_r14_Left_ok {a0 : TApiBook} {a1 : Int} (r : R_r14_Left) (h : F_r14_Left a0 a1 = some r) : CallOk Tryz.prog 34 [(AV.d (TApiBook.e a0)), (vi a1)] [] (V_r14_Left r) (L_r14_Left r) := fOk (s := S_r14_Left a0 a1) Tryz.func34 rfl (by kernel_rfl) h

/-! 62 -/
abbrev R_r14_commitments := Bool
def V_r14_commitments (x : R_r14_commitments) : AV := (vb x)
def L_r14_commitments (_ : R_r14_commitments) : List Ob := []
noncomputable def S_r14_commitments_b1 (a0 : TApiBook) (iv1 : Nat) (_ : Unit) : Scr Tryz.prog R_r14_commitments (Step (Unit) R_r14_commitments) :=
.reg 3 [] [] [.pf (nn iv1), .ev 0] <|
.calld [(bif (bif (((a0.Commitments.getD iv1 default).Number) != (IntKind.i64.wrap ((iv1 : Int) + 1))) then true else (decide (((a0.Commitments.getD iv1 default).Reservation) < 1))) then true else (decide (((a0.Commitments.getD iv1 default).Reservation) > (a0.Reservations.length : Int)))) = false] default (@F_r14_day_ok ((a0.Commitments.getD iv1 default).Day)) fun rv2 cv2 =>
.calld [(bif (bif (bif (((a0.Commitments.getD iv1 default).Number) != (IntKind.i64.wrap ((iv1 : Int) + 1))) then true else (decide (((a0.Commitments.getD iv1 default).Reservation) < 1))) then true else (decide (((a0.Commitments.getD iv1 default).Reservation) > (a0.Reservations.length : Int)))) then true else (!rv2)) = false] default (@F_r14_amount_ok ((a0.Commitments.getD iv1 default).Amount)) fun rv3 cv3 =>
.calld [(bif (bif (bif (bif (bif (bif (bif (bif (((a0.Commitments.getD iv1 default).Number) != (IntKind.i64.wrap ((iv1 : Int) + 1))) then true else (decide (((a0.Commitments.getD iv1 default).Reservation) < 1))) then true else (decide (((a0.Commitments.getD iv1 default).Reservation) > (a0.Reservations.length : Int)))) then true else (!rv2)) then true else (!rv3)) then true else (decide (((a0.Commitments.getD iv1 default).Released) < 0))) then true else (decide (((a0.Commitments.getD iv1 default).Released) > ((a0.Commitments.getD iv1 default).Amount)))) then true else (decide (((a0.Commitments.getD iv1 default).Payee) < 1))) then true else (decide (((a0.Commitments.getD iv1 default).Payee) > 1000000))) = false] default (@F_r14_day_ok ((a0.Commitments.getD iv1 default).Due)) fun rv4 cv4 =>
.reg 4 [] [(21, hc cv2 [] true), (27, hc cv3 [] true), (55, hc cv4 [] true)] [.clg 4 [(bif (bif (((a0.Commitments.getD iv1 default).Number) != (IntKind.i64.wrap ((iv1 : Int) + 1))) then true else (decide (((a0.Commitments.getD iv1 default).Reservation) < 1))) then true else (decide (((a0.Commitments.getD iv1 default).Reservation) > (a0.Reservations.length : Int)))) = false] cv2 [] 2 true, .clg 2 [(bif (bif (bif (((a0.Commitments.getD iv1 default).Number) != (IntKind.i64.wrap ((iv1 : Int) + 1))) then true else (decide (((a0.Commitments.getD iv1 default).Reservation) < 1))) then true else (decide (((a0.Commitments.getD iv1 default).Reservation) > (a0.Reservations.length : Int)))) then true else (!rv2)) = false] cv3 [] 2 true, .clg 0 [(bif (bif (bif (bif (bif (bif (bif (bif (((a0.Commitments.getD iv1 default).Number) != (IntKind.i64.wrap ((iv1 : Int) + 1))) then true else (decide (((a0.Commitments.getD iv1 default).Reservation) < 1))) then true else (decide (((a0.Commitments.getD iv1 default).Reservation) > (a0.Reservations.length : Int)))) then true else (!rv2)) then true else (!rv3)) then true else (decide (((a0.Commitments.getD iv1 default).Released) < 0))) then true else (decide (((a0.Commitments.getD iv1 default).Released) > ((a0.Commitments.getD iv1 default).Amount)))) then true else (decide (((a0.Commitments.getD iv1 default).Payee) < 1))) then true else (decide (((a0.Commitments.getD iv1 default).Payee) > 1000000))) = false] cv4 [] 2 true] <|
.ite (bif (bif (bif (bif (bif (bif (bif (bif (bif (((a0.Commitments.getD iv1 default).Number) != (IntKind.i64.wrap ((iv1 : Int) + 1))) then true else (decide (((a0.Commitments.getD iv1 default).Reservation) < 1))) then true else (decide (((a0.Commitments.getD iv1 default).Reservation) > (a0.Reservations.length : Int)))) then true else (!rv2)) then true else (!rv3)) then true else (decide (((a0.Commitments.getD iv1 default).Released) < 0))) then true else (decide (((a0.Commitments.getD iv1 default).Released) > ((a0.Commitments.getD iv1 default).Amount)))) then true else (decide (((a0.Commitments.getD iv1 default).Payee) < 1))) then true else (decide (((a0.Commitments.getD iv1 default).Payee) > 1000000))) then true else (!rv4)) (
.ret [] (.ret false)) (
.guard [(0 : Int) ≤ (IntKind.i64.wrap (((a0.Commitments.getD iv1 default).Reservation) - 1)), ((IntKind.i64.wrap (((a0.Commitments.getD iv1 default).Reservation) - 1))).toNat < a0.Reservations.length] <|
.reg 6 [] [] [.ev 0, .ev 1] <|
.calld [(decide (((a0.Commitments.getD iv1 default).Day) < ((a0.Reservations.getD (((IntKind.i64.wrap (((a0.Commitments.getD iv1 default).Reservation) - 1))).toNat) default).Day))) = false] default (@F_r02_Year_ok ((a0.Commitments.getD iv1 default).Day)) fun rv5 cv5 =>
.reg 7 [] [(8, hc cv5 [] true)] [.clg 0 [(decide (((a0.Commitments.getD iv1 default).Day) < ((a0.Reservations.getD (((IntKind.i64.wrap (((a0.Commitments.getD iv1 default).Reservation) - 1))).toNat) default).Day))) = false] cv5 [] 3 true] <|
.ite (bif (decide (((a0.Commitments.getD iv1 default).Day) < ((a0.Reservations.getD (((IntKind.i64.wrap (((a0.Commitments.getD iv1 default).Reservation) - 1))).toNat) default).Day))) then true else (rv5 != ((a0.Reservations.getD (((IntKind.i64.wrap (((a0.Commitments.getD iv1 default).Reservation) - 1))).toNat) default).Year))) (
.ret [] (.ret false)) (
.ret [] (.cont ())))

noncomputable def S_r14_commitments_b2 (a0 : TApiBook) (iv6 : Nat) (_ : Unit) : Scr Tryz.prog R_r14_commitments (Step (Unit) R_r14_commitments) :=
.reg 12 [] [] [.pf (nn iv6), .ev 0] <|
.call (@F_r14_Left_ok a0 ((a0.Reservations.getD iv6 default).Number)) fun rv7 cv7 =>
.reg 13 [] [(3, hc cv7 [] true)] [.cl 0 cv7 [] 2 true] <|
.ite (decide (rv7 < 0)) (
.ret [] (.ret false)) (
.ret [] (.cont ()))

noncomputable def S_r14_commitments (a0 : TApiBook) : Scr Tryz.prog R_r14_commitments R_r14_commitments :=
.range (a0.Commitments.length : Int) a0.Commitments.length rfl (.slot 9) 11 [1, 9, 10] (fun (_ : Unit) => []) (fun (_ : Unit) => []) () (S_r14_commitments_b1 a0) (fun (_ : Unit) => 
.range (a0.Reservations.length : Int) a0.Reservations.length rfl (.slot 96) 98 [1, 96, 97] (fun (_ : Unit) => []) (fun (_ : Unit) => []) () (S_r14_commitments_b2 a0) (fun (_ : Unit) => 
.ret [] true) id) id

noncomputable def F_r14_commitments (a0 : TApiBook) : Option R_r14_commitments := (S_r14_commitments a0).den
set_option maxRecDepth 100000 in
theorem F_r14_commitments_ok {a0 : TApiBook} (r : R_r14_commitments) (h : F_r14_commitments a0 = some r) : CallOk Tryz.prog 62 [(AV.d (TApiBook.e a0))] [] (V_r14_commitments r) (L_r14_commitments r) := fOk (s := S_r14_commitments a0) Tryz.func62 rfl (by kernel_rfl) h

/-! 84 -/
abbrev R_r14_year := Int
def V_r14_year (x : R_r14_year) : AV := (vi x)
def L_r14_year (_ : R_r14_year) : List Ob := []
noncomputable def S_r14_year (a0 : TApiBook) (a1 : Int) : Scr Tryz.prog R_r14_year R_r14_year :=
.guard [(0 : Int) ≤ (IntKind.i64.wrap (a1 - 1)), ((IntKind.i64.wrap (a1 - 1))).toNat < a0.Commitments.length, (0 : Int) ≤ (IntKind.i64.wrap (((a0.Commitments.getD (((IntKind.i64.wrap (a1 - 1))).toNat) default).Reservation) - 1)), ((IntKind.i64.wrap (((a0.Commitments.getD (((IntKind.i64.wrap (a1 - 1))).toNat) default).Reservation) - 1))).toNat < a0.Reservations.length] <|
.reg 1 [] [] [.ev 0, .ev 1, .ev 2, .ev 3] <|
.ret [] ((a0.Reservations.getD (((IntKind.i64.wrap (((a0.Commitments.getD (((IntKind.i64.wrap (a1 - 1))).toNat) default).Reservation) - 1))).toNat) default).Year)

noncomputable def F_r14_year (a0 : TApiBook) (a1 : Int) : Option R_r14_year := (S_r14_year a0 a1).den
set_option maxRecDepth 100000 in
theorem F_r14_year_ok {a0 : TApiBook} {a1 : Int} (r : R_r14_year) (h : F_r14_year a0 a1 = some r) : CallOk Tryz.prog 84 [(AV.d (TApiBook.e a0)), (vi a1)] [] (V_r14_year r) (L_r14_year r) := fOk (s := S_r14_year a0 a1) Tryz.func84 rfl (by kernel_rfl) h

/-! 72 -/
abbrev R_r14_rest := Int
def V_r14_rest (x : R_r14_rest) : AV := (vi x)
def L_r14_rest (_ : R_r14_rest) : List Ob := []
noncomputable def S_r14_rest_b1 (a0 : TApiBook) (a1 : TApiCommitment) (iv1 : Nat) (sv2 : Int) : Scr Tryz.prog R_r14_rest (Step (Int) R_r14_rest) :=
.reg 4 [] [] [.pf (nn iv1), .ev 0] <|
.ite (((a0.Verifications.getD iv1 default).Commitment) == a1.Number) (
.ret [] (.cont (IntKind.i64.wrap (sv2 - ((a0.Verifications.getD iv1 default).Amount))))) (
.ret [] (.cont sv2))

noncomputable def S_r14_rest (a0 : TApiBook) (a1 : TApiCommitment) : Scr Tryz.prog R_r14_rest R_r14_rest :=
.range (a0.Verifications.length : Int) a0.Verifications.length rfl (.slot 14) 16 [3, 14, 15] (fun (sv2 : Int) => [(5, (vi sv2))]) (fun (_ : Int) => []) (IntKind.i64.wrap (a1.Amount - a1.Released)) (S_r14_rest_b1 a0 a1) (fun (sv2 : Int) => 
.ret [] sv2) id

noncomputable def F_r14_rest (a0 : TApiBook) (a1 : TApiCommitment) : Option R_r14_rest := (S_r14_rest a0 a1).den
set_option maxRecDepth 100000 in
theorem F_r14_rest_ok {a0 : TApiBook} {a1 : TApiCommitment} (r : R_r14_rest) (h : F_r14_rest a0 a1 = some r) : CallOk Tryz.prog 72 [(AV.d (TApiBook.e a0)), (AV.d (TApiCommitment.e a1))] [] (V_r14_rest r) (L_r14_rest r) := fOk (s := S_r14_rest a0 a1) Tryz.func72 rfl (by kernel_rfl) h

/-! 63 -/
abbrev R_r14_orders := Bool
def V_r14_orders (x : R_r14_orders) : AV := (vb x)
def L_r14_orders (_ : R_r14_orders) : List Ob := []
noncomputable def S_r14_orders_b1 (a0 : TApiBook) (iv1 : Nat) (_ : Unit) : Scr Tryz.prog R_r14_orders (Step (Unit) R_r14_orders) :=
.reg 3 [] [] [.pf (nn iv1), .ev 0] <|
.calld [(bif (bif (((a0.Verifications.getD iv1 default).Number) != (IntKind.i64.wrap ((iv1 : Int) + 1))) then true else (decide (((a0.Verifications.getD iv1 default).Commitment) < 1))) then true else (decide (((a0.Verifications.getD iv1 default).Commitment) > (a0.Commitments.length : Int)))) = false] default (@F_r14_day_ok ((a0.Verifications.getD iv1 default).Day)) fun rv2 cv2 =>
.calld [(bif (bif (bif (((a0.Verifications.getD iv1 default).Number) != (IntKind.i64.wrap ((iv1 : Int) + 1))) then true else (decide (((a0.Verifications.getD iv1 default).Commitment) < 1))) then true else (decide (((a0.Verifications.getD iv1 default).Commitment) > (a0.Commitments.length : Int)))) then true else (!rv2)) = false] default (@F_r14_amount_ok ((a0.Verifications.getD iv1 default).Amount)) fun rv3 cv3 =>
.calld [(bif (bif (bif (bif (bif (((a0.Verifications.getD iv1 default).Number) != (IntKind.i64.wrap ((iv1 : Int) + 1))) then true else (decide (((a0.Verifications.getD iv1 default).Commitment) < 1))) then true else (decide (((a0.Verifications.getD iv1 default).Commitment) > (a0.Commitments.length : Int)))) then true else (!rv2)) then true else (!rv3)) then true else (decide (((a0.Verifications.getD iv1 default).Day) < ((a0.Commitments.getD (((IntKind.i64.wrap (((a0.Verifications.getD iv1 default).Commitment) - 1))).toNat) default).Day)))) = false] default (@F_r02_Year_ok ((a0.Verifications.getD iv1 default).Day)) fun rv4 cv4 =>
.calld [(bif (bif (bif (bif (bif (((a0.Verifications.getD iv1 default).Number) != (IntKind.i64.wrap ((iv1 : Int) + 1))) then true else (decide (((a0.Verifications.getD iv1 default).Commitment) < 1))) then true else (decide (((a0.Verifications.getD iv1 default).Commitment) > (a0.Commitments.length : Int)))) then true else (!rv2)) then true else (!rv3)) then true else (decide (((a0.Verifications.getD iv1 default).Day) < ((a0.Commitments.getD (((IntKind.i64.wrap (((a0.Verifications.getD iv1 default).Commitment) - 1))).toNat) default).Day)))) = false] default (@F_r14_year_ok a0 ((a0.Verifications.getD iv1 default).Commitment)) fun rv5 cv5 =>
.guard [AllP [(bif (bif (bif (bif (((a0.Verifications.getD iv1 default).Number) != (IntKind.i64.wrap ((iv1 : Int) + 1))) then true else (decide (((a0.Verifications.getD iv1 default).Commitment) < 1))) then true else (decide (((a0.Verifications.getD iv1 default).Commitment) > (a0.Commitments.length : Int)))) then true else (!rv2)) then true else (!rv3)) = false] → ((0 : Int) ≤ (IntKind.i64.wrap (((a0.Verifications.getD iv1 default).Commitment) - 1))), AllP [(bif (bif (bif (bif (((a0.Verifications.getD iv1 default).Number) != (IntKind.i64.wrap ((iv1 : Int) + 1))) then true else (decide (((a0.Verifications.getD iv1 default).Commitment) < 1))) then true else (decide (((a0.Verifications.getD iv1 default).Commitment) > (a0.Commitments.length : Int)))) then true else (!rv2)) then true else (!rv3)) = false] → (((IntKind.i64.wrap (((a0.Verifications.getD iv1 default).Commitment) - 1))).toNat < a0.Commitments.length)] <|
.reg 4 [] [(21, hc cv2 [] true), (27, hc cv3 [] true), (46, hc cv4 [] true), (50, hc cv5 [] true)] [.clg 8 [(bif (bif (((a0.Verifications.getD iv1 default).Number) != (IntKind.i64.wrap ((iv1 : Int) + 1))) then true else (decide (((a0.Verifications.getD iv1 default).Commitment) < 1))) then true else (decide (((a0.Verifications.getD iv1 default).Commitment) > (a0.Commitments.length : Int)))) = false] cv2 [] 2 true, .clg 6 [(bif (bif (bif (((a0.Verifications.getD iv1 default).Number) != (IntKind.i64.wrap ((iv1 : Int) + 1))) then true else (decide (((a0.Verifications.getD iv1 default).Commitment) < 1))) then true else (decide (((a0.Verifications.getD iv1 default).Commitment) > (a0.Commitments.length : Int)))) then true else (!rv2)) = false] cv3 [] 2 true, .ev 0, .ev 1, .clg 4 [(bif (bif (bif (bif (bif (((a0.Verifications.getD iv1 default).Number) != (IntKind.i64.wrap ((iv1 : Int) + 1))) then true else (decide (((a0.Verifications.getD iv1 default).Commitment) < 1))) then true else (decide (((a0.Verifications.getD iv1 default).Commitment) > (a0.Commitments.length : Int)))) then true else (!rv2)) then true else (!rv3)) then true else (decide (((a0.Verifications.getD iv1 default).Day) < ((a0.Commitments.getD (((IntKind.i64.wrap (((a0.Verifications.getD iv1 default).Commitment) - 1))).toNat) default).Day)))) = false] cv4 [] 2 true, .clg 2 [(bif (bif (bif (bif (bif (((a0.Verifications.getD iv1 default).Number) != (IntKind.i64.wrap ((iv1 : Int) + 1))) then true else (decide (((a0.Verifications.getD iv1 default).Commitment) < 1))) then true else (decide (((a0.Verifications.getD iv1 default).Commitment) > (a0.Commitments.length : Int)))) then true else (!rv2)) then true else (!rv3)) then true else (decide (((a0.Verifications.getD iv1 default).Day) < ((a0.Commitments.getD (((IntKind.i64.wrap (((a0.Verifications.getD iv1 default).Commitment) - 1))).toNat) default).Day)))) = false] cv5 [] 2 true] <|
.ite (bif (bif (bif (bif (bif (bif (((a0.Verifications.getD iv1 default).Number) != (IntKind.i64.wrap ((iv1 : Int) + 1))) then true else (decide (((a0.Verifications.getD iv1 default).Commitment) < 1))) then true else (decide (((a0.Verifications.getD iv1 default).Commitment) > (a0.Commitments.length : Int)))) then true else (!rv2)) then true else (!rv3)) then true else (decide (((a0.Verifications.getD iv1 default).Day) < ((a0.Commitments.getD (((IntKind.i64.wrap (((a0.Verifications.getD iv1 default).Commitment) - 1))).toNat) default).Day)))) then true else (decide (rv4 > (IntKind.i64.wrap (rv5 + 1))))) (
.ret [] (.ret false)) (
.ret [] (.cont ()))

noncomputable def S_r14_orders_b2 (a0 : TApiBook) (iv6 : Nat) (_ : Unit) : Scr Tryz.prog R_r14_orders (Step (Unit) R_r14_orders) :=
.reg 9 [] [] [.pf (nn iv6), .ev 0] <|
.call (@F_r14_rest_ok a0 (a0.Commitments.getD iv6 default)) fun rv7 cv7 =>
.reg 10 [] [(2, hc cv7 [] true)] [.cl 0 cv7 [] 2 true] <|
.ite (decide (rv7 < 0)) (
.ret [] (.ret false)) (
.ret [] (.cont ()))

noncomputable def S_r14_orders_b3 (a0 : TApiBook) (iv8 : Nat) (iv9 : Nat) (sv10 : Int) : Scr Tryz.prog R_r14_orders (Step (Int) R_r14_orders) :=
.reg 24 [] [] [.pf (nn iv9), .ev 0] <|
.ite ((((a0.Orders.take iv8).getD iv9 default).Verification) != ((a0.Orders.getD iv8 default).Verification)) (
.ret [] (.cont sv10)) (
.ite (bif (!(((a0.Orders.take iv8).getD iv9 default).Back)) then true else (decide ((((a0.Orders.take iv8).getD iv9 default).Day) > ((a0.Orders.getD iv8 default).Day)))) (
.ret [] (.ret false)) (
.ret [] (.cont (IntKind.i64.wrap (sv10 + 1)))))

noncomputable def S_r14_orders_b4 (a0 : TApiBook) (iv8 : Nat) (_ : Unit) : Scr Tryz.prog R_r14_orders (Step (Unit) R_r14_orders) :=
.reg 15 [] [] [.pf (nn iv8), .ev 0] <|
.calld [(bif (bif (((a0.Orders.getD iv8 default).Number) != (IntKind.i64.wrap ((iv8 : Int) + 1))) then true else (decide (((a0.Orders.getD iv8 default).Verification) < 1))) then true else (decide (((a0.Orders.getD iv8 default).Verification) > (a0.Verifications.length : Int)))) = false] default (@F_r14_day_ok ((a0.Orders.getD iv8 default).Day)) fun rv11 cv11 =>
.reg 16 [] [(21, hc cv11 [] true)] [.clg 0 [(bif (bif (((a0.Orders.getD iv8 default).Number) != (IntKind.i64.wrap ((iv8 : Int) + 1))) then true else (decide (((a0.Orders.getD iv8 default).Verification) < 1))) then true else (decide (((a0.Orders.getD iv8 default).Verification) > (a0.Verifications.length : Int)))) = false] cv11 [] 2 true] <|
.ite (bif (bif (bif (((a0.Orders.getD iv8 default).Number) != (IntKind.i64.wrap ((iv8 : Int) + 1))) then true else (decide (((a0.Orders.getD iv8 default).Verification) < 1))) then true else (decide (((a0.Orders.getD iv8 default).Verification) > (a0.Verifications.length : Int)))) then true else (!rv11)) (
.ret [] (.ret false)) (
.guard [(0 : Int) ≤ (IntKind.i64.wrap (((a0.Orders.getD iv8 default).Verification) - 1)), ((IntKind.i64.wrap (((a0.Orders.getD iv8 default).Verification) - 1))).toNat < a0.Verifications.length] <|
.reg 18 [] [] [.ev 0, .ev 1] <|
.calld [(decide (((a0.Orders.getD iv8 default).Day) < ((a0.Verifications.getD (((IntKind.i64.wrap (((a0.Orders.getD iv8 default).Verification) - 1))).toNat) default).Day))) = false] default (@F_r02_Year_ok ((a0.Orders.getD iv8 default).Day)) fun rv12 cv12 =>
.calld [(decide (((a0.Orders.getD iv8 default).Day) < ((a0.Verifications.getD (((IntKind.i64.wrap (((a0.Orders.getD iv8 default).Verification) - 1))).toNat) default).Day))) = false] default (@F_r14_year_ok a0 ((a0.Verifications.getD (((IntKind.i64.wrap (((a0.Orders.getD iv8 default).Verification) - 1))).toNat) default).Commitment)) fun rv13 cv13 =>
.reg 19 [] [(8, hc cv12 [] true), (12, hc cv13 [] true)] [.clg 2 [(decide (((a0.Orders.getD iv8 default).Day) < ((a0.Verifications.getD (((IntKind.i64.wrap (((a0.Orders.getD iv8 default).Verification) - 1))).toNat) default).Day))) = false] cv12 [] 3 true, .clg 0 [(decide (((a0.Orders.getD iv8 default).Day) < ((a0.Verifications.getD (((IntKind.i64.wrap (((a0.Orders.getD iv8 default).Verification) - 1))).toNat) default).Day))) = false] cv13 [] 3 true] <|
.ite (bif (decide (((a0.Orders.getD iv8 default).Day) < ((a0.Verifications.getD (((IntKind.i64.wrap (((a0.Orders.getD iv8 default).Verification) - 1))).toNat) default).Day))) then true else (decide (rv12 > (IntKind.i64.wrap (rv13 + 1))))) (
.ret [] (.ret false)) (
.guard [iv8 ≤ a0.Orders.length] <|
.reg 22 [] [(3, hv (AV.d (eL TApiOrder.e (a0.Orders.take iv8))))] [.pf (nn iv8), .ev 0, .der (fun (h0 : iv8 ≤ a0.Orders.length) => lvT TApiOrder.e a0.Orders h0) 0] <|
.range ((a0.Orders.take iv8).length : Int) ((a0.Orders.take iv8).length) rfl (.slot 146) 148 [1, 8, 89, 90, 91, 146, 147] (fun (sv10 : Int) => [(10, (vi sv10))]) (fun (_ : Int) => []) 1 (S_r14_orders_b3 a0 iv8) (fun (sv10 : Int) => 
.ite (((a0.Orders.getD iv8 default).Attempt) != sv10) (
.ret [] (.ret false)) (
.ret [] (.cont ()))) .ret))

noncomputable def S_r14_orders (a0 : TApiBook) : Scr Tryz.prog R_r14_orders R_r14_orders :=
.range (a0.Verifications.length : Int) a0.Verifications.length rfl (.slot 14) 16 [1, 14, 15] (fun (_ : Unit) => []) (fun (_ : Unit) => []) () (S_r14_orders_b1 a0) (fun (_ : Unit) => 
.range (a0.Commitments.length : Int) a0.Commitments.length rfl (.slot 77) 79 [1, 77, 78] (fun (_ : Unit) => []) (fun (_ : Unit) => []) () (S_r14_orders_b2 a0) (fun (_ : Unit) => 
.range (a0.Orders.length : Int) a0.Orders.length rfl (.slot 89) 91 [1, 89, 90] (fun (_ : Unit) => []) (fun (_ : Unit) => []) () (S_r14_orders_b4 a0) (fun (_ : Unit) => 
.ret [] true) id) id) id

noncomputable def F_r14_orders (a0 : TApiBook) : Option R_r14_orders := (S_r14_orders a0).den
set_option maxRecDepth 100000 in
theorem F_r14_orders_ok {a0 : TApiBook} (r : R_r14_orders) (h : F_r14_orders a0 = some r) : CallOk Tryz.prog 63 [(AV.d (TApiBook.e a0))] [] (V_r14_orders r) (L_r14_orders r) := fOk (s := S_r14_orders a0) Tryz.func63 rfl (by kernel_rfl) h

/-! 18 -/
abbrev R_r14_Valid := Bool
def V_r14_Valid (x : R_r14_Valid) : AV := (vb x)
def L_r14_Valid (_ : R_r14_Valid) : List Ob := []
noncomputable def S_r14_Valid (a0 : TApiBook) : Scr Tryz.prog R_r14_Valid R_r14_Valid :=
.ite (bif (bif (bif (decide ((a0.Reservations.length : Int) > 200)) then true else (decide ((a0.Commitments.length : Int) > 200))) then true else (decide ((a0.Verifications.length : Int) > 200))) then true else (decide ((a0.Orders.length : Int) > 200))) (
.ret [] false) (
.call (@F_r14_reservations_ok a0) fun rv1 cv1 =>
.calld [rv1 = true] default (@F_r14_commitments_ok a0) fun rv2 cv2 =>
.calld [(bif rv1 then rv2 else false) = true] default (@F_r14_orders_ok a0) fun rv3 cv3 =>
.reg 3 [] [(1, hc cv1 [] true), (4, hc cv2 [] true), (8, hc cv3 [] true)] [.cl 4 cv1 [] 1 true, .clg 2 [rv1 = true] cv2 [] 1 true, .clg 0 [(bif rv1 then rv2 else false) = true] cv3 [] 1 true] <|
.ret [] (bif (bif rv1 then rv2 else false) then rv3 else false))

noncomputable def F_r14_Valid (a0 : TApiBook) : Option R_r14_Valid := (S_r14_Valid a0).den
set_option maxRecDepth 100000 in
theorem F_r14_Valid_ok {a0 : TApiBook} (r : R_r14_Valid) (h : F_r14_Valid a0 = some r) : CallOk Tryz.prog 18 [(AV.d (TApiBook.e a0))] [] (V_r14_Valid r) (L_r14_Valid r) := fOk (s := S_r14_Valid a0) Tryz.func18 rfl (by kernel_rfl) h

/-! 83 -/
abbrev R_r14_copied_rw := (List TApiReservation) × (List TApiCommitment) × (List TApiVerification) × (List TApiOrder)
def V_r14_copied_rw (x : R_r14_copied_rw) : AV := (AV.agg [(AV.ref 2 x.1.length 0 x.1.length), (AV.ref 3 x.2.1.length 0 x.2.1.length), (AV.ref 4 x.2.2.1.length 0 x.2.2.1.length), (AV.ref 5 x.2.2.2.length 0 x.2.2.2.length)])
def L_r14_copied_rw (x : R_r14_copied_rw) : List Ob := [Ob.dead, (Ob.box (AV.agg [(AV.ref 2 x.1.length 0 x.1.length), (AV.ref 3 x.2.1.length 0 x.2.1.length), (AV.ref 4 x.2.2.1.length 0 x.2.2.1.length), (AV.ref 5 x.2.2.2.length 0 x.2.2.2.length)])), (eS 6 TApiReservation.e x.1), (eS 7 TApiCommitment.e x.2.1), (eS 4 TApiVerification.e x.2.2.1), (eS 5 TApiOrder.e x.2.2.2)]
noncomputable def S_r14_copied_rw (a0 : TApiBook) : Scr Tryz.prog R_r14_copied_rw R_r14_copied_rw :=
.reg 0 [] [(1, { obs := [(1, (bx (TApiBook.e (⟨[], [], [], []⟩ : TApiBook))))] })] [.pf (p := OLe (bx (DV.agg [(DV.sl 0 fun _ => DV.b false), (DV.sl 0 fun _ => DV.b false), (DV.sl 0 fun _ => DV.b false), (DV.sl 0 fun _ => DV.b false)])) (bx (TApiBook.e (⟨[], [], [], []⟩ : TApiBook)))) (oLe_box (DLe.agg (DLeL.cons DLe.sl0 (DLeL.cons DLe.sl0 (DLeL.cons DLe.sl0 (DLeL.cons DLe.sl0 DLeL.nil))))))] <|
.guard [a0.Reservations.length * (2 * 56) ≤ 2 ^ 48, a0.Commitments.length * (2 * 56) ≤ 2 ^ 48, a0.Verifications.length * (2 * 32) ≤ 2 ^ 48, a0.Orders.length * (2 * 40) ≤ 2 ^ 48] <|
.reg 1 [3, 7, 11, 15, 17] [(3, { h := .obj }), (7, { h := .obj }), (11, { h := .obj }), (15, { h := .obj })] [.pf (p := ∀ k, k < a0.Reservations.length → (AV.d (TApiReservation.e (a0.Reservations.getD k default))).wd = 6) (fun _ _ => rfl), .ev 0, .pf (p := ∀ k, k < a0.Commitments.length → (AV.d (TApiCommitment.e (a0.Commitments.getD k default))).wd = 7) (fun _ _ => rfl), .ev 1, .pf (p := ∀ k, k < a0.Verifications.length → (AV.d (TApiVerification.e (a0.Verifications.getD k default))).wd = 4) (fun _ _ => rfl), .ev 2, .pf (p := ∀ k, k < a0.Orders.length → (AV.d (TApiOrder.e (a0.Orders.getD k default))).wd = 5) (fun _ _ => rfl), .ev 3] <|
.kill 0 <|
.ret [] (a0.Reservations, a0.Commitments, a0.Verifications, a0.Orders)

noncomputable def F_r14_copied_rw (a0 : TApiBook) : Option R_r14_copied_rw := (S_r14_copied_rw a0).den
set_option maxRecDepth 100000 in
theorem F_r14_copied_rw_ok {a0 : TApiBook} (r : R_r14_copied_rw) (h : F_r14_copied_rw a0 = some r) : CallOk Tryz.prog 83 [(AV.d (TApiBook.e a0))] [] (V_r14_copied_rw r) (L_r14_copied_rw r) := fOk (s := S_r14_copied_rw a0) Tryz.func83 rfl (by kernel_rfl) h

/-! 49 -/
abbrev R_r14_Reserve := TApiBook × Int
def V_r14_Reserve (x : R_r14_Reserve) : AV := (AV.tup [(AV.d (TApiBook.e x.1)), (vi x.2)])
def L_r14_Reserve (_ : R_r14_Reserve) : List Ob := []
noncomputable def S_r14_Reserve (a0 : TApiBook) (a1 : List UInt8) (a2 : Int) (a3 : Int) (a4 : Int) : Scr Tryz.prog R_r14_Reserve R_r14_Reserve :=
.reg 0 [] [(1, { obs := [(1, (bx (TApiBook.e (⟨[], [], [], []⟩ : TApiBook))))] })] [.pf (p := OLe (bx (DV.agg [(DV.sl 0 fun _ => DV.b false), (DV.sl 0 fun _ => DV.b false), (DV.sl 0 fun _ => DV.b false), (DV.sl 0 fun _ => DV.b false)])) (bx (TApiBook.e (⟨[], [], [], []⟩ : TApiBook)))) (oLe_box (DLe.agg (DLeL.cons DLe.sl0 (DLeL.cons DLe.sl0 (DLeL.cons DLe.sl0 (DLeL.cons DLe.sl0 DLeL.nil))))))] <|
.call (@F_r14_Valid_ok a0) fun rv1 cv1 =>
.reg 1 [] [(1, hc cv1 [] true)] [.cl 0 cv1 [] 2 true] <|
.ite (!rv1) (
.reg 2 [] [(0, hv (AV.d (TApiBook.e (⟨[], [], [], []⟩ : TApiBook))))] [.pf (p := LeV (AV.d (DV.agg [(DV.sl 0 fun _ => DV.b false), (DV.sl 0 fun _ => DV.b false), (DV.sl 0 fun _ => DV.b false), (DV.sl 0 fun _ => DV.b false)])) (AV.d (TApiBook.e (⟨[], [], [], []⟩ : TApiBook)))) (leV_dle rfl (DLe.agg (DLeL.cons DLe.sl0 (DLeL.cons DLe.sl0 (DLeL.cons DLe.sl0 (DLeL.cons DLe.sl0 DLeL.nil))))))] <|
.ret [] ((⟨[], [], [], []⟩ : TApiBook), 1)) (
.call (@F_r03_Good_ok a1) fun rv2 cv2 =>
.reg 3 [] [(1, hc cv2 [] true)] [.cl 0 cv2 [] 2 true] <|
.ite (!rv2) (
.reg 4 [] [(0, hv (AV.d (TApiBook.e (⟨[], [], [], []⟩ : TApiBook))))] [.pf (p := LeV (AV.d (DV.agg [(DV.sl 0 fun _ => DV.b false), (DV.sl 0 fun _ => DV.b false), (DV.sl 0 fun _ => DV.b false), (DV.sl 0 fun _ => DV.b false)])) (AV.d (TApiBook.e (⟨[], [], [], []⟩ : TApiBook)))) (leV_dle rfl (DLe.agg (DLeL.cons DLe.sl0 (DLeL.cons DLe.sl0 (DLeL.cons DLe.sl0 (DLeL.cons DLe.sl0 DLeL.nil))))))] <|
.ret [] ((⟨[], [], [], []⟩ : TApiBook), 5)) (
.calld [(bif (decide (a2 < 0)) then true else (decide (a2 > 99))) = false] default (@F_r14_day_ok a3) fun rv3 cv3 =>
.calld [(bif (bif (decide (a2 < 0)) then true else (decide (a2 > 99))) then true else (!rv3)) = false] default (@F_r14_amount_ok a4) fun rv4 cv4 =>
.reg 5 [] [(8, hc cv3 [] true), (13, hc cv4 [] true)] [.clg 2 [(bif (decide (a2 < 0)) then true else (decide (a2 > 99))) = false] cv3 [] 2 true, .clg 0 [(bif (bif (decide (a2 < 0)) then true else (decide (a2 > 99))) then true else (!rv3)) = false] cv4 [] 2 true] <|
.ite (bif (bif (bif (decide (a2 < 0)) then true else (decide (a2 > 99))) then true else (!rv3)) then true else (!rv4)) (
.reg 6 [] [(0, hv (AV.d (TApiBook.e (⟨[], [], [], []⟩ : TApiBook))))] [.pf (p := LeV (AV.d (DV.agg [(DV.sl 0 fun _ => DV.b false), (DV.sl 0 fun _ => DV.b false), (DV.sl 0 fun _ => DV.b false), (DV.sl 0 fun _ => DV.b false)])) (AV.d (TApiBook.e (⟨[], [], [], []⟩ : TApiBook)))) (leV_dle rfl (DLe.agg (DLeL.cons DLe.sl0 (DLeL.cons DLe.sl0 (DLeL.cons DLe.sl0 (DLeL.cons DLe.sl0 DLeL.nil))))))] <|
.ret [] ((⟨[], [], [], []⟩ : TApiBook), 2)) (
.call (@F_r02_Year_ok a3) fun rv5 cv5 =>
.reg 7 [] [(1, hc cv5 [] true)] [.cl 0 cv5 [] 2 true] <|
.ite (rv5 != a2) (
.reg 8 [] [(0, hv (AV.d (TApiBook.e (⟨[], [], [], []⟩ : TApiBook))))] [.pf (p := LeV (AV.d (DV.agg [(DV.sl 0 fun _ => DV.b false), (DV.sl 0 fun _ => DV.b false), (DV.sl 0 fun _ => DV.b false), (DV.sl 0 fun _ => DV.b false)])) (AV.d (TApiBook.e (⟨[], [], [], []⟩ : TApiBook)))) (leV_dle rfl (DLe.agg (DLeL.cons DLe.sl0 (DLeL.cons DLe.sl0 (DLeL.cons DLe.sl0 (DLeL.cons DLe.sl0 DLeL.nil))))))] <|
.ret [] ((⟨[], [], [], []⟩ : TApiBook), 16)) (
.ite ((a0.Reservations.length : Int) == 200) (
.reg 10 [] [(0, hv (AV.d (TApiBook.e (⟨[], [], [], []⟩ : TApiBook))))] [.pf (p := LeV (AV.d (DV.agg [(DV.sl 0 fun _ => DV.b false), (DV.sl 0 fun _ => DV.b false), (DV.sl 0 fun _ => DV.b false), (DV.sl 0 fun _ => DV.b false)])) (AV.d (TApiBook.e (⟨[], [], [], []⟩ : TApiBook)))) (leV_dle rfl (DLe.agg (DLeL.cons DLe.sl0 (DLeL.cons DLe.sl0 (DLeL.cons DLe.sl0 (DLeL.cons DLe.sl0 DLeL.nil))))))] <|
.ret [] ((⟨[], [], [], []⟩ : TApiBook), 3)) (
.call (@F_r14_copied_rw_ok a0) fun rv6 cv6 =>
.reg 11 [] [(1, hc cv6 [] false), (2, { h := .obj })] [.cl 0 cv6 [] 2 false] <|
.kill 3 <|
.guard [rv6.2.1.length < 2 ^ 63] <|
.frz 5 (.ev 0) none [] [8] <|
.guard [rv6.2.2.1.length < 2 ^ 63] <|
.frz 6 (.ev 0) none [] [8] <|
.guard [rv6.2.2.2.length < 2 ^ 63] <|
.frz 7 (.ev 0) none [] [8] <|
.guard [(rv6.1.length + 1) * (2 * 56) ≤ 2 ^ 48] <|
.reg 12 [] [(11, hv (AV.d (eL TApiReservation.e ([(⟨(IntKind.i64.wrap ((a0.Reservations.length : Int) + 1)), a1, a2, a3, a4, 0⟩ : TApiReservation)] : List TApiReservation)))), (12, { cast := some (AV.ref 4 ((rv6.1 ++ ([(⟨(IntKind.i64.wrap ((a0.Reservations.length : Int) + 1)), a1, a2, a3, a4, 0⟩ : TApiReservation)] : List TApiReservation)).length) 0 ((rv6.1 ++ ([(⟨(IntKind.i64.wrap ((a0.Reservations.length : Int) + 1)), a1, a2, a3, a4, 0⟩ : TApiReservation)] : List TApiReservation)).length)), obs := [(4, (eS 6 TApiReservation.e (rv6.1 ++ ([(⟨(IntKind.i64.wrap ((a0.Reservations.length : Int) + 1)), a1, a2, a3, a4, 0⟩ : TApiReservation)] : List TApiReservation))))] })] [.pf (leV_lit TApiReservation.e ([(⟨(IntKind.i64.wrap ((a0.Reservations.length : Int) + 1)), a1, a2, a3, a4, 0⟩ : TApiReservation)] : List TApiReservation)), .pf (Eq.refl rv6.1.length), .pf (Eq.refl rv6.1.length), .pf (p := ∀ k, k < 1 → (AV.d (TApiReservation.e (([(⟨(IntKind.i64.wrap ((a0.Reservations.length : Int) + 1)), a1, a2, a3, a4, 0⟩ : TApiReservation)] : List TApiReservation).getD k default))).wd = 6) (fun _ _ => rfl), .ev 0, .pf (leV_app (o := 4) (l := rv6.1) (x := ([(⟨(IntKind.i64.wrap ((a0.Reservations.length : Int) + 1)), a1, a2, a3, a4, 0⟩ : TApiReservation)] : List TApiReservation))), .pf (oLe_app (sz := 6) (e := TApiReservation.e) (l := rv6.1) (x := ([(⟨(IntKind.i64.wrap ((a0.Reservations.length : Int) + 1)), a1, a2, a3, a4, 0⟩ : TApiReservation)] : List TApiReservation)))] <|
.guard [(rv6.1 ++ ([(⟨(IntKind.i64.wrap ((a0.Reservations.length : Int) + 1)), a1, a2, a3, a4, 0⟩ : TApiReservation)] : List TApiReservation)).length < 2 ^ 63] <|
.reg 13 [] [] [] <|
.frz 4 (.ev 0) none [] [1, 8] <|
.ret [] ((⟨(rv6.1 ++ ([(⟨(IntKind.i64.wrap ((a0.Reservations.length : Int) + 1)), a1, a2, a3, a4, 0⟩ : TApiReservation)] : List TApiReservation)), rv6.2.1, rv6.2.2.1, rv6.2.2.2⟩ : TApiBook), 0))))))

noncomputable def F_r14_Reserve (a0 : TApiBook) (a1 : List UInt8) (a2 : Int) (a3 : Int) (a4 : Int) : Option R_r14_Reserve := (S_r14_Reserve a0 a1 a2 a3 a4).den
set_option maxRecDepth 100000 in
theorem F_r14_Reserve_ok {a0 : TApiBook} {a1 : List UInt8} {a2 : Int} {a3 : Int} {a4 : Int} (r : R_r14_Reserve) (h : F_r14_Reserve a0 a1 a2 a3 a4 = some r) : CallOk Tryz.prog 49 [(AV.d (TApiBook.e a0)), (AV.d (DV.str a1)), (vi a2), (vi a3), (vi a4)] [] (V_r14_Reserve r) (L_r14_Reserve r) := fOk (s := S_r14_Reserve a0 a1 a2 a3 a4) Tryz.func49 rfl (by kernel_rfl) h

/-! 50 -/
abbrev R_r14_Commit := TApiBook × Int
def V_r14_Commit (x : R_r14_Commit) : AV := (AV.tup [(AV.d (TApiBook.e x.1)), (vi x.2)])
def L_r14_Commit (_ : R_r14_Commit) : List Ob := []
noncomputable def S_r14_Commit (a0 : TApiBook) (a1 : Int) (a2 : Int) (a3 : Int) (a4 : Int) (a5 : Int) : Scr Tryz.prog R_r14_Commit R_r14_Commit :=
.reg 0 [] [(1, { obs := [(1, (bx (TApiBook.e (⟨[], [], [], []⟩ : TApiBook))))] })] [.pf (p := OLe (bx (DV.agg [(DV.sl 0 fun _ => DV.b false), (DV.sl 0 fun _ => DV.b false), (DV.sl 0 fun _ => DV.b false), (DV.sl 0 fun _ => DV.b false)])) (bx (TApiBook.e (⟨[], [], [], []⟩ : TApiBook)))) (oLe_box (DLe.agg (DLeL.cons DLe.sl0 (DLeL.cons DLe.sl0 (DLeL.cons DLe.sl0 (DLeL.cons DLe.sl0 DLeL.nil))))))] <|
.call (@F_r14_Valid_ok a0) fun rv1 cv1 =>
.reg 1 [] [(1, hc cv1 [] true)] [.cl 0 cv1 [] 2 true] <|
.ite (!rv1) (
.reg 2 [] [(0, hv (AV.d (TApiBook.e (⟨[], [], [], []⟩ : TApiBook))))] [.pf (p := LeV (AV.d (DV.agg [(DV.sl 0 fun _ => DV.b false), (DV.sl 0 fun _ => DV.b false), (DV.sl 0 fun _ => DV.b false), (DV.sl 0 fun _ => DV.b false)])) (AV.d (TApiBook.e (⟨[], [], [], []⟩ : TApiBook)))) (leV_dle rfl (DLe.agg (DLeL.cons DLe.sl0 (DLeL.cons DLe.sl0 (DLeL.cons DLe.sl0 (DLeL.cons DLe.sl0 DLeL.nil))))))] <|
.ret [] ((⟨[], [], [], []⟩ : TApiBook), 1)) (
.ite (bif (decide (a1 < 1)) then true else (decide (a1 > (a0.Reservations.length : Int)))) (
.reg 4 [] [(0, hv (AV.d (TApiBook.e (⟨[], [], [], []⟩ : TApiBook))))] [.pf (p := LeV (AV.d (DV.agg [(DV.sl 0 fun _ => DV.b false), (DV.sl 0 fun _ => DV.b false), (DV.sl 0 fun _ => DV.b false), (DV.sl 0 fun _ => DV.b false)])) (AV.d (TApiBook.e (⟨[], [], [], []⟩ : TApiBook)))) (leV_dle rfl (DLe.agg (DLeL.cons DLe.sl0 (DLeL.cons DLe.sl0 (DLeL.cons DLe.sl0 (DLeL.cons DLe.sl0 DLeL.nil))))))] <|
.ret [] ((⟨[], [], [], []⟩ : TApiBook), 6)) (
.call (@F_r14_day_ok a2) fun rv2 cv2 =>
.calld [(!rv2) = false] default (@F_r14_amount_ok a3) fun rv3 cv3 =>
.calld [(bif (bif (bif (!rv2) then true else (!rv3)) then true else (decide (a4 < 1))) then true else (decide (a4 > 1000000))) = false] default (@F_r14_day_ok a5) fun rv4 cv4 =>
.reg 5 [] [(1, hc cv2 [] true), (5, hc cv3 [] true), (18, hc cv4 [] true)] [.cl 4 cv2 [] 2 true, .clg 2 [(!rv2) = false] cv3 [] 2 true, .clg 0 [(bif (bif (bif (!rv2) then true else (!rv3)) then true else (decide (a4 < 1))) then true else (decide (a4 > 1000000))) = false] cv4 [] 2 true] <|
.ite (bif (bif (bif (bif (!rv2) then true else (!rv3)) then true else (decide (a4 < 1))) then true else (decide (a4 > 1000000))) then true else (!rv4)) (
.reg 6 [] [(0, hv (AV.d (TApiBook.e (⟨[], [], [], []⟩ : TApiBook))))] [.pf (p := LeV (AV.d (DV.agg [(DV.sl 0 fun _ => DV.b false), (DV.sl 0 fun _ => DV.b false), (DV.sl 0 fun _ => DV.b false), (DV.sl 0 fun _ => DV.b false)])) (AV.d (TApiBook.e (⟨[], [], [], []⟩ : TApiBook)))) (leV_dle rfl (DLe.agg (DLeL.cons DLe.sl0 (DLeL.cons DLe.sl0 (DLeL.cons DLe.sl0 (DLeL.cons DLe.sl0 DLeL.nil))))))] <|
.ret [] ((⟨[], [], [], []⟩ : TApiBook), 2)) (
.guard [(0 : Int) ≤ (IntKind.i64.wrap (a1 - 1)), ((IntKind.i64.wrap (a1 - 1))).toNat < a0.Reservations.length] <|
.reg 7 [] [] [.ev 0, .ev 1] <|
.call (@F_r02_Year_ok a2) fun rv5 cv5 =>
.reg 8 [] [(1, hc cv5 [] true)] [.cl 0 cv5 [] 3 true] <|
.ite (rv5 != ((a0.Reservations.getD (((IntKind.i64.wrap (a1 - 1))).toNat) default).Year)) (
.reg 9 [] [(0, hv (AV.d (TApiBook.e (⟨[], [], [], []⟩ : TApiBook))))] [.pf (p := LeV (AV.d (DV.agg [(DV.sl 0 fun _ => DV.b false), (DV.sl 0 fun _ => DV.b false), (DV.sl 0 fun _ => DV.b false), (DV.sl 0 fun _ => DV.b false)])) (AV.d (TApiBook.e (⟨[], [], [], []⟩ : TApiBook)))) (leV_dle rfl (DLe.agg (DLeL.cons DLe.sl0 (DLeL.cons DLe.sl0 (DLeL.cons DLe.sl0 (DLeL.cons DLe.sl0 DLeL.nil))))))] <|
.ret [] ((⟨[], [], [], []⟩ : TApiBook), 16)) (
.ite (decide (a2 < ((a0.Reservations.getD (((IntKind.i64.wrap (a1 - 1))).toNat) default).Day))) (
.reg 11 [] [(0, hv (AV.d (TApiBook.e (⟨[], [], [], []⟩ : TApiBook))))] [.pf (p := LeV (AV.d (DV.agg [(DV.sl 0 fun _ => DV.b false), (DV.sl 0 fun _ => DV.b false), (DV.sl 0 fun _ => DV.b false), (DV.sl 0 fun _ => DV.b false)])) (AV.d (TApiBook.e (⟨[], [], [], []⟩ : TApiBook)))) (leV_dle rfl (DLe.agg (DLeL.cons DLe.sl0 (DLeL.cons DLe.sl0 (DLeL.cons DLe.sl0 (DLeL.cons DLe.sl0 DLeL.nil))))))] <|
.ret [] ((⟨[], [], [], []⟩ : TApiBook), 8)) (
.call (@F_r14_Left_ok a0 a1) fun rv6 cv6 =>
.reg 12 [] [(3, hc cv6 [] true)] [.cl 0 cv6 [] 3 true] <|
.ite (decide (a3 > rv6)) (
.reg 13 [] [(0, hv (AV.d (TApiBook.e (⟨[], [], [], []⟩ : TApiBook))))] [.pf (p := LeV (AV.d (DV.agg [(DV.sl 0 fun _ => DV.b false), (DV.sl 0 fun _ => DV.b false), (DV.sl 0 fun _ => DV.b false), (DV.sl 0 fun _ => DV.b false)])) (AV.d (TApiBook.e (⟨[], [], [], []⟩ : TApiBook)))) (leV_dle rfl (DLe.agg (DLeL.cons DLe.sl0 (DLeL.cons DLe.sl0 (DLeL.cons DLe.sl0 (DLeL.cons DLe.sl0 DLeL.nil))))))] <|
.ret [] ((⟨[], [], [], []⟩ : TApiBook), 15)) (
.ite ((a0.Commitments.length : Int) == 200) (
.reg 15 [] [(0, hv (AV.d (TApiBook.e (⟨[], [], [], []⟩ : TApiBook))))] [.pf (p := LeV (AV.d (DV.agg [(DV.sl 0 fun _ => DV.b false), (DV.sl 0 fun _ => DV.b false), (DV.sl 0 fun _ => DV.b false), (DV.sl 0 fun _ => DV.b false)])) (AV.d (TApiBook.e (⟨[], [], [], []⟩ : TApiBook)))) (leV_dle rfl (DLe.agg (DLeL.cons DLe.sl0 (DLeL.cons DLe.sl0 (DLeL.cons DLe.sl0 (DLeL.cons DLe.sl0 DLeL.nil))))))] <|
.ret [] ((⟨[], [], [], []⟩ : TApiBook), 3)) (
.call (@F_r14_copied_rw_ok a0) fun rv7 cv7 =>
.reg 16 [] [(1, hc cv7 [] false), (2, { h := .obj })] [.cl 0 cv7 [] 3 false] <|
.kill 4 <|
.guard [rv7.1.length < 2 ^ 63] <|
.frz 5 (.ev 0) none [] [9] <|
.guard [rv7.2.2.1.length < 2 ^ 63] <|
.frz 7 (.ev 0) none [] [9] <|
.guard [rv7.2.2.2.length < 2 ^ 63] <|
.frz 8 (.ev 0) none [] [9] <|
.guard [(rv7.2.1.length + 1) * (2 * 56) ≤ 2 ^ 48] <|
.reg 17 [] [(12, hv (AV.d (eL TApiCommitment.e ([(⟨(IntKind.i64.wrap ((a0.Commitments.length : Int) + 1)), a1, a2, a3, 0, a4, a5⟩ : TApiCommitment)] : List TApiCommitment)))), (13, { cast := some (AV.ref 6 ((rv7.2.1 ++ ([(⟨(IntKind.i64.wrap ((a0.Commitments.length : Int) + 1)), a1, a2, a3, 0, a4, a5⟩ : TApiCommitment)] : List TApiCommitment)).length) 0 ((rv7.2.1 ++ ([(⟨(IntKind.i64.wrap ((a0.Commitments.length : Int) + 1)), a1, a2, a3, 0, a4, a5⟩ : TApiCommitment)] : List TApiCommitment)).length)), obs := [(6, (eS 7 TApiCommitment.e (rv7.2.1 ++ ([(⟨(IntKind.i64.wrap ((a0.Commitments.length : Int) + 1)), a1, a2, a3, 0, a4, a5⟩ : TApiCommitment)] : List TApiCommitment))))] })] [.pf (leV_lit TApiCommitment.e ([(⟨(IntKind.i64.wrap ((a0.Commitments.length : Int) + 1)), a1, a2, a3, 0, a4, a5⟩ : TApiCommitment)] : List TApiCommitment)), .pf (Eq.refl rv7.2.1.length), .pf (Eq.refl rv7.2.1.length), .pf (p := ∀ k, k < 1 → (AV.d (TApiCommitment.e (([(⟨(IntKind.i64.wrap ((a0.Commitments.length : Int) + 1)), a1, a2, a3, 0, a4, a5⟩ : TApiCommitment)] : List TApiCommitment).getD k default))).wd = 7) (fun _ _ => rfl), .ev 0, .pf (leV_app (o := 6) (l := rv7.2.1) (x := ([(⟨(IntKind.i64.wrap ((a0.Commitments.length : Int) + 1)), a1, a2, a3, 0, a4, a5⟩ : TApiCommitment)] : List TApiCommitment))), .pf (oLe_app (sz := 7) (e := TApiCommitment.e) (l := rv7.2.1) (x := ([(⟨(IntKind.i64.wrap ((a0.Commitments.length : Int) + 1)), a1, a2, a3, 0, a4, a5⟩ : TApiCommitment)] : List TApiCommitment)))] <|
.guard [(rv7.2.1 ++ ([(⟨(IntKind.i64.wrap ((a0.Commitments.length : Int) + 1)), a1, a2, a3, 0, a4, a5⟩ : TApiCommitment)] : List TApiCommitment)).length < 2 ^ 63] <|
.reg 18 [] [] [] <|
.frz 6 (.ev 0) none [] [1, 9] <|
.ret [] ((⟨rv7.1, (rv7.2.1 ++ ([(⟨(IntKind.i64.wrap ((a0.Commitments.length : Int) + 1)), a1, a2, a3, 0, a4, a5⟩ : TApiCommitment)] : List TApiCommitment)), rv7.2.2.1, rv7.2.2.2⟩ : TApiBook), 0))))))))

noncomputable def F_r14_Commit (a0 : TApiBook) (a1 : Int) (a2 : Int) (a3 : Int) (a4 : Int) (a5 : Int) : Option R_r14_Commit := (S_r14_Commit a0 a1 a2 a3 a4 a5).den
set_option maxRecDepth 100000 in
theorem F_r14_Commit_ok {a0 : TApiBook} {a1 : Int} {a2 : Int} {a3 : Int} {a4 : Int} {a5 : Int} (r : R_r14_Commit) (h : F_r14_Commit a0 a1 a2 a3 a4 a5 = some r) : CallOk Tryz.prog 50 [(AV.d (TApiBook.e a0)), (vi a1), (vi a2), (vi a3), (vi a4), (vi a5)] [] (V_r14_Commit r) (L_r14_Commit r) := fOk (s := S_r14_Commit a0 a1 a2 a3 a4 a5) Tryz.func50 rfl (by kernel_rfl) h

end Go.Proofs.YteelhiohkbbdhaaGreatDoor
