/- A part of the proof: what the functions compute, and that their calls return it. No condition. -/
import Derived.Test.YtkkdclpleghppaaG43D
import Derived.Test.YtkkdclpleghppaaLayX
/- Calls of the functions return what the Lean functions say. No condition. -/
namespace Go.Proofs.Ytkkdclpleghppaa
open Go Go.TA

/-! 9 -/
theorem F9_ok {a0 : (List Int)} {r : R9} (h : F9 a0 = some r) : CallOk Try.prog 9 [(AV.d (eL (DV.i .i64) a0))] [] (V9 r) (L9 r) := by
  refine callOk_of_aw Try.func9 rfl (Nat.le_of_ble_eq_true (by kernel_rfl)) (Nat.le_of_ble_eq_true (by kernel_rfl)) rfl (lsOk (And.intro rfl trivial)) (aw_of (Q := FQ Try.prog Try.f9 _ _) ?_)
  unfold F9 at h
  refine aws_seq ?_
  refine aws_region (hs := []) (live := [0]) (fr' := [(0, (AV.d (eL (DV.i .i64) a0)))]) (L' := []) (C := []) (by kernel_rfl) trivial ?_
  refine aws_seq ?_
  obtain ⟨⟨hc3, hc4, _⟩, h⟩ := guardP_some h
  refine aws_region (hs := [(4, { cast := some (AV.d (eL (DV.i .i64) (a0.take (((if 900 < (a0.length : Int) then 900 else (a0.length : Int))).toNat)))) })]) (live := [2]) (fr' := [(2, (AV.ptr 0 1 []))]) (L' := [(Ob.box (AV.d (DV.agg [(eL (DV.i .i64) (a0.take (((if 900 < (a0.length : Int) then 900 else (a0.length : Int))).toNat))), (DV.i .i64 0)])))]) (C := [(0 : Int) ≤ (if 900 < (a0.length : Int) then 900 else (a0.length : Int)), ((if 900 < (a0.length : Int) then 900 else (a0.length : Int))).toNat ≤ a0.length, LeV (AV.d (DV.sl (((if 900 < (a0.length : Int) then 900 else (a0.length : Int))).toNat - 0) fun j => (DV.i .i64) (a0.getD j default))) (AV.d (eL (DV.i .i64) (a0.take (((if 900 < (a0.length : Int) then 900 else (a0.length : Int))).toNat))))]) (by kernel_rfl) (And.intro hc3 (And.intro hc4 (And.intro (leV_take hc4) trivial))) ?_
  refine aws_ret ?_
  obtain rfl := Option.some.inj h
  exact ⟨.inr rfl, ⟨_, [], [], by kernel_rfl, trivial, (LeV.refl _), rfl⟩⟩

/-! 19 -/
theorem F19_ok {a1 : Int} {p0 : TTreasuryplaySrc} {r : R19} (h : F19 a1 p0 = some r) : CallOk Try.prog 19 [(AV.ptr 0 1 []), (AV.d (DV.i .i64 a1))] [(Ob.box (AV.d (TTreasuryplaySrc.e p0)))] (V19 r) (L19 r) := by
  refine callOk_of_aw Try.func19 rfl (Nat.le_of_ble_eq_true (by kernel_rfl)) (Nat.le_of_ble_eq_true (by kernel_rfl)) rfl (lsOk (And.intro rfl trivial)) (aw_of (Q := FQ Try.prog Try.f19 _ _) ?_)
  unfold F19 at h
  refine aws_seq ?_
  refine aws_region (hs := []) (live := [0, 1]) (fr' := [(0, (AV.ptr 0 1 [])), (1, (AV.d (DV.i .i64 a1)))]) (L' := [(Ob.box (AV.d (TTreasuryplaySrc.e p0)))]) (C := []) (by kernel_rfl) trivial ?_
  refine aws_seq ?_
  refine aws_seq ?_
  refine aws_drawn (D := ⟨[[], [0], [1, 0], [2, 1, 0], [], [4], [5, 4], [6, 5, 4], [7, 6, 5, 4], [8, 7, 6, 5, 4, 3, 2, 1, 0], [9, 8, 7, 6, 5, 4, 3, 2, 1, 0], [10, 9, 8, 7, 6, 5, 4, 3, 2, 1, 0], [11, 10, 9, 8, 7, 6, 5, 4, 3, 2, 1, 0], [12, 11, 10, 9, 8, 7, 6, 5, 4, 3, 2, 1, 0]], []⟩) (hs := []) (live := [0, 1, 18]) (fr' := [(0, (AV.ptr 0 1 [])), (1, (AV.d (DV.i .i64 a1))), (18, (AV.d (DV.b (bif (decide (p0.At ≥ (p0.L.length : Int))) then true else (decide (a1 < 1))))))]) (L' := [(Ob.box (AV.d (TTreasuryplaySrc.e p0)))]) (C := []) (by kernel_rfl) (by kernel_rfl) (by kernel_rfl) trivial ?_
  refine aws_cond (b := (bif (decide (p0.At ≥ (p0.L.length : Int))) then true else (decide (a1 < 1)))) (by kernel_rfl) (fun hb11 => ?_) (fun hb11 => ?_)
  · replace h := iteT hb11 h
    refine aws_seq ?_
    refine aws_region (hs := []) (live := [4]) (fr' := [(4, (AV.d (DV.i .i64 0)))]) (L' := [(Ob.box (AV.d (TTreasuryplaySrc.e p0)))]) (C := []) (by kernel_rfl) trivial ?_
    refine aws_ret ?_
    obtain rfl := Option.some.inj h
    exact ⟨.inr rfl, ⟨_, [], [], by kernel_rfl, trivial, (LeV.refl _), rfl⟩⟩
  · replace h := iteF hb11 h
    refine aws_skip ?_
    refine aws_seq ?_
    refine aws_region (hs := []) (live := [0, 1]) (fr' := [(0, (AV.ptr 0 1 [])), (1, (AV.d (DV.i .i64 a1)))]) (L' := [(Ob.box (AV.d (DV.agg [(eL (DV.i .i64) p0.L), (DV.i .i64 (IntKind.i64.wrap (p0.At + 1)))])))]) (C := []) (by kernel_rfl) trivial ?_
    refine aws_seq ?_
    obtain ⟨⟨hc12, hc13, hc14, _⟩, h⟩ := guardP_some h
    refine aws_drawn (D := ⟨[[], [0], [1, 0], [2, 1, 0], [], [4], [5, 4], [6, 5, 4], [7, 6, 5, 4], [8, 7, 6, 5, 4, 3, 2, 1, 0], [9, 8, 7, 6, 5, 4, 3, 2, 1, 0], [], [11, 10, 9, 8, 7, 6, 5, 4, 3, 2, 1, 0], [], [13, 12, 11, 10, 9, 8, 7, 6, 5, 4, 3, 2, 1, 0], [], [15, 14, 13, 12, 11, 10, 9, 8, 7, 6, 5, 4, 3, 2, 1, 0], [16, 15, 14, 13, 12, 11, 10, 9, 8, 7, 6, 5, 4, 3, 2, 1, 0]], []⟩) (hs := []) (live := [4]) (fr' := [(4, (AV.d (DV.i .i64 ((IntKind.i64.wrap (((p0.L.getD (((IntKind.i64.wrap ((IntKind.i64.wrap (p0.At + 1)) - 1))).toNat) default).tmod a1) + a1)).tmod a1))))]) (L' := [(Ob.box (AV.d (DV.agg [(eL (DV.i .i64) p0.L), (DV.i .i64 (IntKind.i64.wrap (p0.At + 1)))])))]) (C := [(0 : Int) ≤ (IntKind.i64.wrap ((IntKind.i64.wrap (p0.At + 1)) - 1)), ((IntKind.i64.wrap ((IntKind.i64.wrap (p0.At + 1)) - 1))).toNat < p0.L.length, (a1 : Int) ≠ 0, (a1 : Int) ≠ 0]) (by kernel_rfl) (by kernel_rfl) (by kernel_rfl) (And.intro hc12 (And.intro hc13 (And.intro hc14 (And.intro hc14 trivial)))) ?_
    refine aws_ret ?_
    obtain rfl := Option.some.inj h
    exact ⟨.inr rfl, ⟨_, [], [], by kernel_rfl, trivial, (LeV.refl _), rfl⟩⟩

/-! 23 -/
theorem F23_ok {a1 : Int} {a2 : Int} {p0 : TTreasuryplaySrc} {r : R23} (h : F23 a1 a2 p0 = some r) : CallOk Try.prog 23 [(AV.ptr 0 1 []), (AV.d (DV.i .i64 a1)), (AV.d (DV.i .i64 a2))] [(Ob.box (AV.d (TTreasuryplaySrc.e p0)))] (V23 r) (L23 r) := by
  refine callOk_of_aw Try.func23 rfl (Nat.le_of_ble_eq_true (by kernel_rfl)) (Nat.le_of_ble_eq_true (by kernel_rfl)) rfl (lsOk (And.intro rfl trivial)) (aw_of (Q := FQ Try.prog Try.f23 _ _) ?_)
  unfold F23 at h
  refine aws_seq ?_
  refine aws_region (hs := []) (live := [0, 1, 2]) (fr' := [(0, (AV.ptr 0 1 [])), (1, (AV.d (DV.i .i64 a1))), (2, (AV.d (DV.i .i64 a2)))]) (L' := [(Ob.box (AV.d (TTreasuryplaySrc.e p0)))]) (C := []) (by kernel_rfl) trivial ?_
  refine aws_seq ?_
  obtain ⟨r23, hr24, h⟩ := bind_some' h
  refine aws_region (hs := [(6, { h := .callw (AV.d (DV.i .i64 r23.1)) [(0, (Ob.box (AV.d (TTreasuryplaySrc.e r23.2))))] [] })]) (live := [6]) (fr' := [(6, (AV.d (DV.i .i64 (IntKind.i64.wrap (a1 + r23.1)))))]) (L' := [(Ob.box (AV.d (TTreasuryplaySrc.e r23.2)))]) (C := [CallOk Try.prog 19 [(AV.ptr 0 1 []), (AV.d (DV.i .i64 (IntKind.i64.wrap ((IntKind.i64.wrap (a2 - a1)) + 1))))] [(Ob.box (AV.d (TTreasuryplaySrc.e p0)))] (AV.d (DV.i .i64 r23.1)) [(Ob.box (AV.d (TTreasuryplaySrc.e r23.2)))]]) (by kernel_rfl) (And.intro ((F19_ok hr24).at [0] (of_decide_eq_true (by kernel_rfl)) (by kernel_rfl) (by kernel_rfl) (Nat.le_of_ble_eq_true (by kernel_rfl)) (by kernel_rfl) (by kernel_rfl) (by kernel_rfl) (by kernel_rfl)) trivial) ?_
  refine aws_ret ?_
  obtain rfl := Option.some.inj h
  exact ⟨.inr rfl, ⟨_, [], [], by kernel_rfl, trivial, (LeV.refl _), rfl⟩⟩

/-! 15 -/
theorem F15_ok {a1 : (List Int)} {p0 : TTreasuryplaySrc} {r : R15} (h : F15 a1 p0 = some r) : CallOk Try.prog 15 [(AV.ptr 0 1 []), (AV.d (eL (DV.i .i64) a1))] [(Ob.box (AV.d (TTreasuryplaySrc.e p0)))] (V15 r) (L15 r) := by
  refine callOk_of_aw Try.func15 rfl (Nat.le_of_ble_eq_true (by kernel_rfl)) (Nat.le_of_ble_eq_true (by kernel_rfl)) rfl (lsOk (And.intro rfl trivial)) (aw_of (Q := FQ Try.prog Try.f15 _ _) ?_)
  unfold F15 at h
  refine aws_seq ?_
  refine aws_region (hs := []) (live := [0, 1]) (fr' := [(0, (AV.ptr 0 1 [])), (1, (AV.d (eL (DV.i .i64) a1)))]) (L' := [(Ob.box (AV.d (TTreasuryplaySrc.e p0)))]) (C := []) (by kernel_rfl) trivial ?_
  refine aws_seq ?_
  obtain ⟨r31, hr32, h⟩ := bind_some' h
  obtain ⟨⟨hc33, hc34, _⟩, h⟩ := guardP_some h
  refine aws_region (hs := [(4, { h := .callw (AV.d (DV.i .i64 r31.1)) [(0, (Ob.box (AV.d (TTreasuryplaySrc.e r31.2))))] [] })]) (live := [4]) (fr' := [(4, (AV.d (DV.i .i64 (a1.getD ((r31.1).toNat) default))))]) (L' := [(Ob.box (AV.d (TTreasuryplaySrc.e r31.2)))]) (C := [CallOk Try.prog 19 [(AV.ptr 0 1 []), (AV.d (DV.i .i64 (a1.length : Int)))] [(Ob.box (AV.d (TTreasuryplaySrc.e p0)))] (AV.d (DV.i .i64 r31.1)) [(Ob.box (AV.d (TTreasuryplaySrc.e r31.2)))], (0 : Int) ≤ r31.1, (r31.1).toNat < a1.length]) (by kernel_rfl) (And.intro ((F19_ok hr32).at [0] (of_decide_eq_true (by kernel_rfl)) (by kernel_rfl) (by kernel_rfl) (Nat.le_of_ble_eq_true (by kernel_rfl)) (by kernel_rfl) (by kernel_rfl) (by kernel_rfl) (by kernel_rfl)) (And.intro hc33 (And.intro hc34 trivial))) ?_
  refine aws_ret ?_
  obtain rfl := Option.some.inj h
  exact ⟨.inr rfl, ⟨_, [], [], by kernel_rfl, trivial, (LeV.refl _), rfl⟩⟩

/-! 20 -/
theorem F20_ok {a1 : Int} {a2 : Int} {a3 : Int} {p0 : TTreasuryplaySrc} {r : R20} (h : F20 a1 a2 a3 p0 = some r) : CallOk Try.prog 20 [(AV.ptr 0 1 []), (AV.d (DV.i .i64 a1)), (AV.d (DV.i .i64 a2)), (AV.d (DV.i .i64 a3))] [(Ob.box (AV.d (TTreasuryplaySrc.e p0)))] (V20 r) (L20 r) := by
  refine callOk_of_aw Try.func20 rfl (Nat.le_of_ble_eq_true (by kernel_rfl)) (Nat.le_of_ble_eq_true (by kernel_rfl)) rfl (lsOk (And.intro rfl trivial)) (aw_of (Q := FQ Try.prog Try.f20 _ _) ?_)
  unfold F20 at h
  refine aws_seq ?_
  refine aws_region (hs := []) (live := [0, 1, 2, 3, 8]) (fr' := [(0, (AV.ptr 0 1 [])), (1, (AV.d (DV.i .i64 a1))), (2, (AV.d (DV.i .i64 a2))), (3, (AV.d (DV.i .i64 a3))), (8, (AV.ptr 1 1 []))]) (L' := [(Ob.box (AV.d (TTreasuryplaySrc.e p0))), (Ob.box (AV.d (DV.agg [(DV.i .i64 0), (DV.i .i64 0), (DV.i .i64 0), (DV.i .i64 0), (DV.i .i64 0), (DV.i .i64 0), (DV.i .i64 0), (DV.i .i64 0)])))]) (C := []) (by kernel_rfl) trivial ?_
  refine aws_seq ?_
  obtain ⟨r74, hr75, h⟩ := bind_some' h
  obtain ⟨r76, hr77, h⟩ := bind_some' h
  obtain ⟨r78, hr79, h⟩ := bind_some' h
  obtain ⟨r80, hr81, h⟩ := bind_some' h
  obtain ⟨r82, hr83, h⟩ := bind_some' h
  refine aws_region (hs := [(4, { h := .callw (AV.d (DV.i .i64 r74.1)) [(0, (Ob.box (AV.d (TTreasuryplaySrc.e r74.2))))] [] }), (6, { cast := some (AV.d (eL (DV.i .i64) ([110, 120, 210, 300, 410, 510, 520] : List Int))) }), (7, { h := .callw (AV.d (DV.i .i64 r76.1)) [(0, (Ob.box (AV.d (TTreasuryplaySrc.e r76.2))))] [] }), (9, { cast := some (AV.d (eL (DV.i .i64) ([111, 119, 220, 310, 420, 530] : List Int))) }), (10, { h := .callw (AV.d (DV.i .i64 r78.1)) [(0, (Ob.box (AV.d (TTreasuryplaySrc.e r78.2))))] [] }), (12, { cast := some (AV.d (eL (DV.i .i64) ([1, 20, 100, 1000] : List Int))) }), (13, { h := .callw (AV.d (DV.i .i64 r80.1)) [(0, (Ob.box (AV.d (TTreasuryplaySrc.e r80.2))))] [] }), (15, { h := .callw (AV.d (DV.i .i64 r82.1)) [(0, (Ob.box (AV.d (TTreasuryplaySrc.e r82.2))))] [] })]) (live := [0, 3, 8, 9]) (fr' := [(0, (AV.ptr 0 1 [])), (3, (AV.d (DV.i .i64 a3))), (8, (AV.ptr 1 1 [])), (9, (AV.ptr 2 1 []))]) (L' := [(Ob.box (AV.d (TTreasuryplaySrc.e r82.2))), (Ob.box (AV.d (DV.agg [(DV.i .i64 0), (DV.i .i64 0), (DV.i .i64 0), (DV.i .i64 0), (DV.i .i64 0), (DV.i .i64 0), (DV.i .i64 0), (DV.i .i64 0)]))), (Ob.box (AV.d (DV.agg [(DV.i .i64 a1), (DV.i .i64 a2), (DV.i .i64 r74.1), (DV.i .i64 r76.1), (DV.i .i64 r78.1), (DV.i .i64 r80.1), (DV.i .i64 0), (DV.i .i64 r82.1)])))]) (C := [CallOk Try.prog 23 [(AV.ptr 0 1 []), (AV.d (DV.i .i64 1)), (AV.d (DV.i .i64 a3))] [(Ob.box (AV.d (TTreasuryplaySrc.e p0))), (Ob.box (AV.d (DV.agg [(DV.i .i64 0), (DV.i .i64 0), (DV.i .i64 0), (DV.i .i64 0), (DV.i .i64 0), (DV.i .i64 0), (DV.i .i64 0), (DV.i .i64 0)])))] (AV.d (DV.i .i64 r74.1)) [(Ob.box (AV.d (TTreasuryplaySrc.e r74.2))), (Ob.box (AV.d (DV.agg [(DV.i .i64 0), (DV.i .i64 0), (DV.i .i64 0), (DV.i .i64 0), (DV.i .i64 0), (DV.i .i64 0), (DV.i .i64 0), (DV.i .i64 0)])))], LeV (AV.d (DV.sl 7 (listF (DV.b false) [(DV.i .i64 110), (DV.i .i64 120), (DV.i .i64 210), (DV.i .i64 300), (DV.i .i64 410), (DV.i .i64 510), (DV.i .i64 520)]))) (AV.d (eL (DV.i .i64) ([110, 120, 210, 300, 410, 510, 520] : List Int))), CallOk Try.prog 15 [(AV.ptr 0 1 []), (AV.d (eL (DV.i .i64) ([110, 120, 210, 300, 410, 510, 520] : List Int)))] [(Ob.box (AV.d (TTreasuryplaySrc.e r74.2))), (Ob.box (AV.d (DV.agg [(DV.i .i64 0), (DV.i .i64 0), (DV.i .i64 0), (DV.i .i64 0), (DV.i .i64 0), (DV.i .i64 0), (DV.i .i64 0), (DV.i .i64 0)])))] (AV.d (DV.i .i64 r76.1)) [(Ob.box (AV.d (TTreasuryplaySrc.e r76.2))), (Ob.box (AV.d (DV.agg [(DV.i .i64 0), (DV.i .i64 0), (DV.i .i64 0), (DV.i .i64 0), (DV.i .i64 0), (DV.i .i64 0), (DV.i .i64 0), (DV.i .i64 0)])))], LeV (AV.d (DV.sl 6 (listF (DV.b false) [(DV.i .i64 111), (DV.i .i64 119), (DV.i .i64 220), (DV.i .i64 310), (DV.i .i64 420), (DV.i .i64 530)]))) (AV.d (eL (DV.i .i64) ([111, 119, 220, 310, 420, 530] : List Int))), CallOk Try.prog 15 [(AV.ptr 0 1 []), (AV.d (eL (DV.i .i64) ([111, 119, 220, 310, 420, 530] : List Int)))] [(Ob.box (AV.d (TTreasuryplaySrc.e r76.2))), (Ob.box (AV.d (DV.agg [(DV.i .i64 0), (DV.i .i64 0), (DV.i .i64 0), (DV.i .i64 0), (DV.i .i64 0), (DV.i .i64 0), (DV.i .i64 0), (DV.i .i64 0)])))] (AV.d (DV.i .i64 r78.1)) [(Ob.box (AV.d (TTreasuryplaySrc.e r78.2))), (Ob.box (AV.d (DV.agg [(DV.i .i64 0), (DV.i .i64 0), (DV.i .i64 0), (DV.i .i64 0), (DV.i .i64 0), (DV.i .i64 0), (DV.i .i64 0), (DV.i .i64 0)])))], LeV (AV.d (DV.sl 4 (listF (DV.b false) [(DV.i .i64 1), (DV.i .i64 20), (DV.i .i64 100), (DV.i .i64 1000)]))) (AV.d (eL (DV.i .i64) ([1, 20, 100, 1000] : List Int))), CallOk Try.prog 15 [(AV.ptr 0 1 []), (AV.d (eL (DV.i .i64) ([1, 20, 100, 1000] : List Int)))] [(Ob.box (AV.d (TTreasuryplaySrc.e r78.2))), (Ob.box (AV.d (DV.agg [(DV.i .i64 0), (DV.i .i64 0), (DV.i .i64 0), (DV.i .i64 0), (DV.i .i64 0), (DV.i .i64 0), (DV.i .i64 0), (DV.i .i64 0)])))] (AV.d (DV.i .i64 r80.1)) [(Ob.box (AV.d (TTreasuryplaySrc.e r80.2))), (Ob.box (AV.d (DV.agg [(DV.i .i64 0), (DV.i .i64 0), (DV.i .i64 0), (DV.i .i64 0), (DV.i .i64 0), (DV.i .i64 0), (DV.i .i64 0), (DV.i .i64 0)])))], CallOk Try.prog 19 [(AV.ptr 0 1 []), (AV.d (DV.i .i64 4))] [(Ob.box (AV.d (TTreasuryplaySrc.e r80.2))), (Ob.box (AV.d (DV.agg [(DV.i .i64 0), (DV.i .i64 0), (DV.i .i64 0), (DV.i .i64 0), (DV.i .i64 0), (DV.i .i64 0), (DV.i .i64 0), (DV.i .i64 0)])))] (AV.d (DV.i .i64 r82.1)) [(Ob.box (AV.d (TTreasuryplaySrc.e r82.2))), (Ob.box (AV.d (DV.agg [(DV.i .i64 0), (DV.i .i64 0), (DV.i .i64 0), (DV.i .i64 0), (DV.i .i64 0), (DV.i .i64 0), (DV.i .i64 0), (DV.i .i64 0)])))]]) (by kernel_rfl) (And.intro ((F23_ok hr75).at [0] (of_decide_eq_true (by kernel_rfl)) (by kernel_rfl) (by kernel_rfl) (Nat.le_of_ble_eq_true (by kernel_rfl)) (by kernel_rfl) (by kernel_rfl) (by kernel_rfl) (by kernel_rfl)) (And.intro (leV_lit (DV.i .i64) ([110, 120, 210, 300, 410, 510, 520] : List Int)) (And.intro ((F15_ok hr77).at [0] (of_decide_eq_true (by kernel_rfl)) (by kernel_rfl) (by kernel_rfl) (Nat.le_of_ble_eq_true (by kernel_rfl)) (by kernel_rfl) (by kernel_rfl) (by kernel_rfl) (by kernel_rfl)) (And.intro (leV_lit (DV.i .i64) ([111, 119, 220, 310, 420, 530] : List Int)) (And.intro ((F15_ok hr79).at [0] (of_decide_eq_true (by kernel_rfl)) (by kernel_rfl) (by kernel_rfl) (Nat.le_of_ble_eq_true (by kernel_rfl)) (by kernel_rfl) (by kernel_rfl) (by kernel_rfl) (by kernel_rfl)) (And.intro (leV_lit (DV.i .i64) ([1, 20, 100, 1000] : List Int)) (And.intro ((F15_ok hr81).at [0] (of_decide_eq_true (by kernel_rfl)) (by kernel_rfl) (by kernel_rfl) (Nat.le_of_ble_eq_true (by kernel_rfl)) (by kernel_rfl) (by kernel_rfl) (by kernel_rfl) (by kernel_rfl)) (And.intro ((F19_ok hr83).at [0] (of_decide_eq_true (by kernel_rfl)) (by kernel_rfl) (by kernel_rfl) (Nat.le_of_ble_eq_true (by kernel_rfl)) (by kernel_rfl) (by kernel_rfl) (by kernel_rfl) (by kernel_rfl)) trivial)))))))) ?_
  refine aws_seq ?_
  refine aws_seq ?_
  obtain ⟨r84, hr85, h⟩ := bind_some' h
  refine aws_region (hs := [(4, { h := .callw (AV.d (DV.i .i64 r84.1)) [(0, (Ob.box (AV.d (TTreasuryplaySrc.e r84.2))))] [] })]) (live := [0, 3, 8, 9, 33]) (fr' := [(0, (AV.ptr 0 1 [])), (3, (AV.d (DV.i .i64 a3))), (8, (AV.ptr 1 1 [])), (9, (AV.ptr 2 1 [])), (33, (AV.d (DV.b (bif (decide (a3 > 1)) then (r84.1 == 1) else false))))]) (L' := [(Ob.box (AV.d (TTreasuryplaySrc.e r84.2))), (Ob.box (AV.d (DV.agg [(DV.i .i64 0), (DV.i .i64 0), (DV.i .i64 0), (DV.i .i64 0), (DV.i .i64 0), (DV.i .i64 0), (DV.i .i64 0), (DV.i .i64 0)]))), (Ob.box (AV.d (DV.agg [(DV.i .i64 a1), (DV.i .i64 a2), (DV.i .i64 r74.1), (DV.i .i64 r76.1), (DV.i .i64 r78.1), (DV.i .i64 r80.1), (DV.i .i64 0), (DV.i .i64 r82.1)])))]) (C := [AllP [(decide (a3 > 1)) = true] → (CallOk Try.prog 19 [(AV.ptr 0 1 []), (AV.d (DV.i .i64 2))] [(Ob.box (AV.d (TTreasuryplaySrc.e r82.2))), (Ob.box (AV.d (DV.agg [(DV.i .i64 0), (DV.i .i64 0), (DV.i .i64 0), (DV.i .i64 0), (DV.i .i64 0), (DV.i .i64 0), (DV.i .i64 0), (DV.i .i64 0)]))), (Ob.box (AV.d (DV.agg [(DV.i .i64 a1), (DV.i .i64 a2), (DV.i .i64 r74.1), (DV.i .i64 r76.1), (DV.i .i64 r78.1), (DV.i .i64 r80.1), (DV.i .i64 0), (DV.i .i64 r82.1)])))] (AV.d (DV.i .i64 r84.1)) [(Ob.box (AV.d (TTreasuryplaySrc.e r84.2))), (Ob.box (AV.d (DV.agg [(DV.i .i64 0), (DV.i .i64 0), (DV.i .i64 0), (DV.i .i64 0), (DV.i .i64 0), (DV.i .i64 0), (DV.i .i64 0), (DV.i .i64 0)]))), (Ob.box (AV.d (DV.agg [(DV.i .i64 a1), (DV.i .i64 a2), (DV.i .i64 r74.1), (DV.i .i64 r76.1), (DV.i .i64 r78.1), (DV.i .i64 r80.1), (DV.i .i64 0), (DV.i .i64 r82.1)])))]), (¬ AllP [(decide (a3 > 1)) = true] → [(Ob.box (AV.d (TTreasuryplaySrc.e r82.2))), (Ob.box (AV.d (DV.agg [(DV.i .i64 0), (DV.i .i64 0), (DV.i .i64 0), (DV.i .i64 0), (DV.i .i64 0), (DV.i .i64 0), (DV.i .i64 0), (DV.i .i64 0)]))), (Ob.box (AV.d (DV.agg [(DV.i .i64 a1), (DV.i .i64 a2), (DV.i .i64 r74.1), (DV.i .i64 r76.1), (DV.i .i64 r78.1), (DV.i .i64 r80.1), (DV.i .i64 0), (DV.i .i64 r82.1)])))] = [(Ob.box (AV.d (TTreasuryplaySrc.e r84.2))), (Ob.box (AV.d (DV.agg [(DV.i .i64 0), (DV.i .i64 0), (DV.i .i64 0), (DV.i .i64 0), (DV.i .i64 0), (DV.i .i64 0), (DV.i .i64 0), (DV.i .i64 0)]))), (Ob.box (AV.d (DV.agg [(DV.i .i64 a1), (DV.i .i64 a2), (DV.i .i64 r74.1), (DV.i .i64 r76.1), (DV.i .i64 r78.1), (DV.i .i64 r80.1), (DV.i .i64 0), (DV.i .i64 r82.1)])))])]) (by kernel_rfl) (And.intro (fun hg => ((F19_ok (optD_some hr85 hg)).at [0] (of_decide_eq_true (by kernel_rfl)) (by kernel_rfl) (by kernel_rfl) (Nat.le_of_ble_eq_true (by kernel_rfl)) (by kernel_rfl) (by kernel_rfl) (by kernel_rfl) (by kernel_rfl))) (And.intro (fun hn => by obtain rfl := optD_neg hr85 hn; rfl) trivial)) ?_
  obtain ⟨o101, hx100, h⟩ := bind_some' h
  refine aws_cutS (E := (fun (_ : TTreasuryplaySrc × TApiPosting) => [(8, (AV.ptr 1 1 [])), (9, (AV.ptr 2 1 []))])) (LE := (fun (s99 : TTreasuryplaySrc × TApiPosting) => [(Ob.box (AV.d (TTreasuryplaySrc.e s99.1))), (Ob.box (AV.d (DV.agg [(DV.i .i64 0), (DV.i .i64 0), (DV.i .i64 0), (DV.i .i64 0), (DV.i .i64 0), (DV.i .i64 0), (DV.i .i64 0), (DV.i .i64 0)]))), (Ob.box (AV.d (TApiPosting.e s99.2)))])) (fun s => s = o101) ?_ (fun _ => Nat.le_of_ble_eq_true (by kernel_rfl)) (fun s99 hq => ?_)
  · refine aws_cond (b := (bif (decide (a3 > 1)) then (r84.1 == 1) else false)) (by kernel_rfl) (fun hb102 => ?_) (fun hb102 => ?_)
    · replace hx100 := iteT hb102 hx100
      refine aws_seq ?_
      obtain ⟨⟨hc103, _⟩, hx100⟩ := guardP_some hx100
      refine aws_region (hs := []) (live := [0, 8, 9]) (fr' := [(0, (AV.ptr 0 1 [])), (8, (AV.ptr 1 1 [])), (9, (AV.ptr 2 1 []))]) (L' := [(Ob.box (AV.d (TTreasuryplaySrc.e r84.2))), (Ob.box (AV.d (DV.agg [(DV.i .i64 0), (DV.i .i64 0), (DV.i .i64 0), (DV.i .i64 0), (DV.i .i64 0), (DV.i .i64 0), (DV.i .i64 0), (DV.i .i64 0)]))), (Ob.box (AV.d (DV.agg [(DV.i .i64 a1), (DV.i .i64 a2), (DV.i .i64 r74.1), (DV.i .i64 r76.1), (DV.i .i64 r78.1), (DV.i .i64 r80.1), (DV.i .i64 (IntKind.i64.wrap ((r74.1.tmod a3) + 1))), (DV.i .i64 r82.1)])))]) (C := [(a3 : Int) ≠ 0]) (by kernel_rfl) (And.intro hc103 trivial) ?_
      refine aws_seq ?_
      obtain ⟨r104, hr105, hx100⟩ := bind_some' hx100
      refine aws_region (hs := [(1, { h := .callw (AV.d (DV.i .i64 r104.1)) [(0, (Ob.box (AV.d (TTreasuryplaySrc.e r104.2))))] [] })]) (live := [8, 9, 41]) (fr' := [(8, (AV.ptr 1 1 [])), (9, (AV.ptr 2 1 [])), (41, (AV.d (DV.i .i64 r104.1)))]) (L' := [(Ob.box (AV.d (TTreasuryplaySrc.e r104.2))), (Ob.box (AV.d (DV.agg [(DV.i .i64 0), (DV.i .i64 0), (DV.i .i64 0), (DV.i .i64 0), (DV.i .i64 0), (DV.i .i64 0), (DV.i .i64 0), (DV.i .i64 0)]))), (Ob.box (AV.d (DV.agg [(DV.i .i64 a1), (DV.i .i64 a2), (DV.i .i64 r74.1), (DV.i .i64 r76.1), (DV.i .i64 r78.1), (DV.i .i64 r80.1), (DV.i .i64 (IntKind.i64.wrap ((r74.1.tmod a3) + 1))), (DV.i .i64 r82.1)])))]) (C := [CallOk Try.prog 19 [(AV.ptr 0 1 []), (AV.d (DV.i .i64 4))] [(Ob.box (AV.d (TTreasuryplaySrc.e r84.2))), (Ob.box (AV.d (DV.agg [(DV.i .i64 0), (DV.i .i64 0), (DV.i .i64 0), (DV.i .i64 0), (DV.i .i64 0), (DV.i .i64 0), (DV.i .i64 0), (DV.i .i64 0)]))), (Ob.box (AV.d (DV.agg [(DV.i .i64 a1), (DV.i .i64 a2), (DV.i .i64 r74.1), (DV.i .i64 r76.1), (DV.i .i64 r78.1), (DV.i .i64 r80.1), (DV.i .i64 (IntKind.i64.wrap ((r74.1.tmod a3) + 1))), (DV.i .i64 r82.1)])))] (AV.d (DV.i .i64 r104.1)) [(Ob.box (AV.d (TTreasuryplaySrc.e r104.2))), (Ob.box (AV.d (DV.agg [(DV.i .i64 0), (DV.i .i64 0), (DV.i .i64 0), (DV.i .i64 0), (DV.i .i64 0), (DV.i .i64 0), (DV.i .i64 0), (DV.i .i64 0)]))), (Ob.box (AV.d (DV.agg [(DV.i .i64 a1), (DV.i .i64 a2), (DV.i .i64 r74.1), (DV.i .i64 r76.1), (DV.i .i64 r78.1), (DV.i .i64 r80.1), (DV.i .i64 (IntKind.i64.wrap ((r74.1.tmod a3) + 1))), (DV.i .i64 r82.1)])))]]) (by kernel_rfl) (And.intro ((F19_ok hr105).at [0] (of_decide_eq_true (by kernel_rfl)) (by kernel_rfl) (by kernel_rfl) (Nat.le_of_ble_eq_true (by kernel_rfl)) (by kernel_rfl) (by kernel_rfl) (by kernel_rfl) (by kernel_rfl)) trivial) ?_
      obtain ⟨o111, hx110, hx100⟩ := bind_some' hx100
      refine aws_blockS (E := (fun (_ : TApiPosting) => [(8, (AV.ptr 1 1 [])), (9, (AV.ptr 2 1 []))])) (LE := (fun (s109 : TApiPosting) => [(Ob.box (AV.d (TTreasuryplaySrc.e r104.2))), (Ob.box (AV.d (DV.agg [(DV.i .i64 0), (DV.i .i64 0), (DV.i .i64 0), (DV.i .i64 0), (DV.i .i64 0), (DV.i .i64 0), (DV.i .i64 0), (DV.i .i64 0)]))), (Ob.box (AV.d (TApiPosting.e s109)))])) (fun s => s = o111) ?_ (fun _ => Nat.le_of_ble_eq_true (by kernel_rfl)) (fun _ hq => ?_)
      · refine aws_seq ?_
        refine aws_region (hs := []) (live := [8, 9, 41, 44]) (fr' := [(8, (AV.ptr 1 1 [])), (9, (AV.ptr 2 1 [])), (41, (AV.d (DV.i .i64 r104.1))), (44, (AV.d (DV.b (r104.1 == 0))))]) (L' := [(Ob.box (AV.d (TTreasuryplaySrc.e r104.2))), (Ob.box (AV.d (DV.agg [(DV.i .i64 0), (DV.i .i64 0), (DV.i .i64 0), (DV.i .i64 0), (DV.i .i64 0), (DV.i .i64 0), (DV.i .i64 0), (DV.i .i64 0)]))), (Ob.box (AV.d (DV.agg [(DV.i .i64 a1), (DV.i .i64 a2), (DV.i .i64 r74.1), (DV.i .i64 r76.1), (DV.i .i64 r78.1), (DV.i .i64 r80.1), (DV.i .i64 (IntKind.i64.wrap ((r74.1.tmod a3) + 1))), (DV.i .i64 r82.1)])))]) (C := []) (by kernel_rfl) trivial ?_
        refine aws_cond (b := (r104.1 == 0)) (by kernel_rfl) (fun hb112 => ?_) (fun hb112 => ?_)
        · replace hx110 := iteT hb112 hx110
          refine aws_region (hs := []) (live := [8, 9]) (fr' := [(8, (AV.ptr 1 1 [])), (9, (AV.ptr 2 1 []))]) (L' := [(Ob.box (AV.d (TTreasuryplaySrc.e r104.2))), (Ob.box (AV.d (DV.agg [(DV.i .i64 0), (DV.i .i64 0), (DV.i .i64 0), (DV.i .i64 0), (DV.i .i64 0), (DV.i .i64 0), (DV.i .i64 0), (DV.i .i64 0)]))), (Ob.box (AV.d (DV.agg [(DV.i .i64 a1), (DV.i .i64 a2), (DV.i .i64 r74.1), (DV.i .i64 140), (DV.i .i64 440), (DV.i .i64 r80.1), (DV.i .i64 (IntKind.i64.wrap ((r74.1.tmod a3) + 1))), (DV.i .i64 r82.1)])))]) (C := []) (by kernel_rfl) trivial ?_
          refine aws_nil ?_
          obtain rfl := Option.some.inj hx110
          exact ⟨_, rfl, ⟨(frLe_at (k := 0) rfl (LeV.refl _) (frLe_at (k := 1) rfl (LeV.refl _) frLe_nil)), .inl rfl⟩⟩
        · replace hx110 := iteF hb112 hx110
          refine aws_seq ?_
          refine aws_region (hs := []) (live := [8, 9, 41, 48]) (fr' := [(8, (AV.ptr 1 1 [])), (9, (AV.ptr 2 1 [])), (41, (AV.d (DV.i .i64 r104.1))), (48, (AV.d (DV.b (r104.1 == 1))))]) (L' := [(Ob.box (AV.d (TTreasuryplaySrc.e r104.2))), (Ob.box (AV.d (DV.agg [(DV.i .i64 0), (DV.i .i64 0), (DV.i .i64 0), (DV.i .i64 0), (DV.i .i64 0), (DV.i .i64 0), (DV.i .i64 0), (DV.i .i64 0)]))), (Ob.box (AV.d (DV.agg [(DV.i .i64 a1), (DV.i .i64 a2), (DV.i .i64 r74.1), (DV.i .i64 r76.1), (DV.i .i64 r78.1), (DV.i .i64 r80.1), (DV.i .i64 (IntKind.i64.wrap ((r74.1.tmod a3) + 1))), (DV.i .i64 r82.1)])))]) (C := []) (by kernel_rfl) trivial ?_
          refine aws_cond (b := (r104.1 == 1)) (by kernel_rfl) (fun hb113 => ?_) (fun hb113 => ?_)
          · replace hx110 := iteT hb113 hx110
            refine aws_region (hs := []) (live := [8, 9]) (fr' := [(8, (AV.ptr 1 1 [])), (9, (AV.ptr 2 1 []))]) (L' := [(Ob.box (AV.d (TTreasuryplaySrc.e r104.2))), (Ob.box (AV.d (DV.agg [(DV.i .i64 0), (DV.i .i64 0), (DV.i .i64 0), (DV.i .i64 0), (DV.i .i64 0), (DV.i .i64 0), (DV.i .i64 0), (DV.i .i64 0)]))), (Ob.box (AV.d (DV.agg [(DV.i .i64 a1), (DV.i .i64 a2), (DV.i .i64 r74.1), (DV.i .i64 540), (DV.i .i64 240), (DV.i .i64 r80.1), (DV.i .i64 (IntKind.i64.wrap ((r74.1.tmod a3) + 1))), (DV.i .i64 r82.1)])))]) (C := []) (by kernel_rfl) trivial ?_
            refine aws_nil ?_
            obtain rfl := Option.some.inj hx110
            exact ⟨_, rfl, ⟨(frLe_at (k := 0) rfl (LeV.refl _) (frLe_at (k := 1) rfl (LeV.refl _) frLe_nil)), .inl rfl⟩⟩
          · replace hx110 := iteF hb113 hx110
            refine aws_seq ?_
            refine aws_region (hs := []) (live := [8, 9, 52]) (fr' := [(8, (AV.ptr 1 1 [])), (9, (AV.ptr 2 1 [])), (52, (AV.d (DV.b (r104.1 == 2))))]) (L' := [(Ob.box (AV.d (TTreasuryplaySrc.e r104.2))), (Ob.box (AV.d (DV.agg [(DV.i .i64 0), (DV.i .i64 0), (DV.i .i64 0), (DV.i .i64 0), (DV.i .i64 0), (DV.i .i64 0), (DV.i .i64 0), (DV.i .i64 0)]))), (Ob.box (AV.d (DV.agg [(DV.i .i64 a1), (DV.i .i64 a2), (DV.i .i64 r74.1), (DV.i .i64 r76.1), (DV.i .i64 r78.1), (DV.i .i64 r80.1), (DV.i .i64 (IntKind.i64.wrap ((r74.1.tmod a3) + 1))), (DV.i .i64 r82.1)])))]) (C := []) (by kernel_rfl) trivial ?_
            refine aws_cond (b := (r104.1 == 2)) (by kernel_rfl) (fun hb114 => ?_) (fun hb114 => ?_)
            · replace hx110 := iteT hb114 hx110
              refine aws_region (hs := []) (live := [8, 9]) (fr' := [(8, (AV.ptr 1 1 [])), (9, (AV.ptr 2 1 []))]) (L' := [(Ob.box (AV.d (TTreasuryplaySrc.e r104.2))), (Ob.box (AV.d (DV.agg [(DV.i .i64 0), (DV.i .i64 0), (DV.i .i64 0), (DV.i .i64 0), (DV.i .i64 0), (DV.i .i64 0), (DV.i .i64 0), (DV.i .i64 0)]))), (Ob.box (AV.d (DV.agg [(DV.i .i64 a1), (DV.i .i64 a2), (DV.i .i64 r74.1), (DV.i .i64 240), (DV.i .i64 110), (DV.i .i64 r80.1), (DV.i .i64 (IntKind.i64.wrap ((r74.1.tmod a3) + 1))), (DV.i .i64 r82.1)])))]) (C := []) (by kernel_rfl) trivial ?_
              refine aws_nil ?_
              obtain rfl := Option.some.inj hx110
              exact ⟨_, rfl, ⟨(frLe_at (k := 0) rfl (LeV.refl _) (frLe_at (k := 1) rfl (LeV.refl _) frLe_nil)), .inl rfl⟩⟩
            · replace hx110 := iteF hb114 hx110
              refine aws_region (hs := []) (live := [8, 9]) (fr' := [(8, (AV.ptr 1 1 [])), (9, (AV.ptr 2 1 []))]) (L' := [(Ob.box (AV.d (TTreasuryplaySrc.e r104.2))), (Ob.box (AV.d (DV.agg [(DV.i .i64 0), (DV.i .i64 0), (DV.i .i64 0), (DV.i .i64 0), (DV.i .i64 0), (DV.i .i64 0), (DV.i .i64 0), (DV.i .i64 0)]))), (Ob.box (AV.d (DV.agg [(DV.i .i64 a1), (DV.i .i64 a2), (DV.i .i64 r74.1), (DV.i .i64 110), (DV.i .i64 140), (DV.i .i64 r80.1), (DV.i .i64 (IntKind.i64.wrap ((r74.1.tmod a3) + 1))), (DV.i .i64 r82.1)])))]) (C := []) (by kernel_rfl) trivial ?_
              refine aws_nil ?_
              obtain rfl := Option.some.inj hx110
              exact ⟨_, rfl, ⟨(frLe_at (k := 0) rfl (LeV.refl _) (frLe_at (k := 1) rfl (LeV.refl _) frLe_nil)), .inl rfl⟩⟩
      · subst hq
        refine aws_nil ?_
        obtain rfl := Option.some.inj hx100
        exact ⟨_, rfl, ⟨(frLe_at (k := 0) rfl (LeV.refl _) (frLe_at (k := 1) rfl (LeV.refl _) frLe_nil)), .inl rfl⟩⟩
    · replace hx100 := iteF hb102 hx100
      refine aws_skip ?_
      refine aws_nil ?_
      obtain rfl := Option.some.inj hx100
      exact ⟨_, rfl, ⟨(frLe_at (k := 2) rfl (LeV.refl _) (frLe_at (k := 3) rfl (LeV.refl _) frLe_nil)), .inl rfl⟩⟩
  · subst hq
    refine aws_seq ?_
    refine aws_region (hs := []) (live := [8]) (fr' := [(8, (AV.ptr 1 1 []))]) (L' := [(Ob.box (AV.d (TTreasuryplaySrc.e s99.1))), (Ob.box (AV.d (TApiPosting.e s99.2))), (Ob.box (AV.d (TApiPosting.e s99.2)))]) (C := []) (by kernel_rfl) trivial ?_
    refine aws_ret ?_
    obtain rfl := Option.some.inj h
    exact ⟨.inr rfl, ⟨_, [], [(Ob.box (AV.d (TApiPosting.e s99.2))), (Ob.box (AV.d (TApiPosting.e s99.2)))], by kernel_rfl, trivial, (LeV.refl _), rfl⟩⟩

/-! 60 -/
theorem F60_ok {a0 : Int} {r : R60} (h : F60 a0 = some r) : CallOk Try.prog 60 [(AV.d (DV.i .i64 a0))] [] (V60 r) (L60 r) := by
  refine callOk_of_aw Try.func60 rfl (Nat.le_of_ble_eq_true (by kernel_rfl)) (Nat.le_of_ble_eq_true (by kernel_rfl)) rfl (lsOk trivial) (aw_of (Q := FQ Try.prog Try.f60 _ _) ?_)
  unfold F60 at h
  refine aws_seq ?_
  refine aws_region (hs := []) (live := [0]) (fr' := [(0, (AV.d (DV.i .i64 a0)))]) (L' := []) (C := []) (by kernel_rfl) trivial ?_
  refine aws_seq ?_
  refine aws_region (hs := []) (live := [2]) (fr' := [(2, (AV.d (DV.b (bif (decide (a0 ≥ 0)) then (decide (a0 ≤ 36000)) else false))))]) (L' := []) (C := []) (by kernel_rfl) trivial ?_
  refine aws_ret ?_
  obtain rfl := Option.some.inj h
  exact ⟨.inr rfl, ⟨_, [], [], by kernel_rfl, trivial, (LeV.refl _), rfl⟩⟩

/-! 44 -/
theorem F44_ok {a0 : Int} {r : R44} (h : F44 a0 = some r) : CallOk Try.prog 44 [(AV.d (DV.i .i64 a0))] [] (V44 r) (L44 r) := by
  refine callOk_of_aw Try.func44 rfl (Nat.le_of_ble_eq_true (by kernel_rfl)) (Nat.le_of_ble_eq_true (by kernel_rfl)) rfl (lsOk trivial) (aw_of (Q := FQ Try.prog Try.f44 _ _) ?_)
  unfold F44 at h
  refine aws_seq ?_
  refine aws_region (hs := []) (live := [0]) (fr' := [(0, (AV.d (DV.i .i64 a0)))]) (L' := []) (C := []) (by kernel_rfl) trivial ?_
  refine aws_seq ?_
  refine aws_seq ?_
  refine aws_region (hs := []) (live := [0, 8]) (fr' := [(0, (AV.d (DV.i .i64 a0))), (8, (AV.d (DV.b (bif (decide (a0 < 100)) then true else (decide (a0 > 599))))))]) (L' := []) (C := []) (by kernel_rfl) trivial ?_
  refine aws_cond (b := (bif (decide (a0 < 100)) then true else (decide (a0 > 599)))) (by kernel_rfl) (fun hb122 => ?_) (fun hb122 => ?_)
  · replace h := iteT hb122 h
    refine aws_seq ?_
    refine aws_region (hs := []) (live := [2]) (fr' := [(2, (AV.d (DV.i .i64 0)))]) (L' := []) (C := []) (by kernel_rfl) trivial ?_
    refine aws_ret ?_
    obtain rfl := Option.some.inj h
    exact ⟨.inr rfl, ⟨_, [], [], by kernel_rfl, trivial, (LeV.refl _), rfl⟩⟩
  · replace h := iteF hb122 h
    refine aws_skip ?_
    refine aws_seq ?_
    refine aws_region (hs := []) (live := [2]) (fr' := [(2, (AV.d (DV.i .i64 (IntKind.i64.wrap (a0.tdiv 100)))))]) (L' := []) (C := [(100 : Int) ≠ 0]) (by kernel_rfl) (And.intro (by decide) trivial) ?_
    refine aws_ret ?_
    obtain rfl := Option.some.inj h
    exact ⟨.inr rfl, ⟨_, [], [], by kernel_rfl, trivial, (LeV.refl _), rfl⟩⟩

/-! 46 -/
theorem F46_ok {a0 : TApiPosting} {r : R46} (h : F46 a0 = some r) : CallOk Try.prog 46 [(AV.d (TApiPosting.e a0))] [] (V46 r) (L46 r) := by
  refine callOk_of_aw Try.func46 rfl (Nat.le_of_ble_eq_true (by kernel_rfl)) (Nat.le_of_ble_eq_true (by kernel_rfl)) rfl (lsOk trivial) (aw_of (Q := FQ Try.prog Try.f46 _ _) ?_)
  unfold F46 at h
  refine aws_seq ?_
  refine aws_region (hs := []) (live := [1]) (fr' := [(1, (AV.ptr 0 1 []))]) (L' := [(Ob.box (AV.d (TApiPosting.e a0)))]) (C := []) (by kernel_rfl) trivial ?_
  refine aws_seq ?_
  obtain ⟨r127, hr128, h⟩ := bind_some' h
  obtain ⟨r129, hr130, h⟩ := bind_some' h
  obtain ⟨r131, hr132, h⟩ := bind_some' h
  refine aws_region (hs := [(11, { h := .callq (AV.d (DV.b r127)) }), (33, { h := .callq (AV.d (DV.i .i64 r129)) }), (39, { h := .callq (AV.d (DV.i .i64 r131)) })]) (live := [2]) (fr' := [(2, (AV.d (DV.b (bif (bif (bif (bif (bif (bif (bif (bif (bif (bif (bif (bif (bif (bif (decide (a0.Number ≥ 1)) then (decide (a0.Number ≤ 1000000)) else false) then r127 else false) then (decide (a0.Entity ≥ 1)) else false) then (decide (a0.Entity ≤ 10)) else false) then (a0.Debit != a0.Credit) else false) then (r129 != 0) else false) then (r131 != 0) else false) then (decide (a0.Amount ≥ 1)) else false) then (decide (a0.Amount ≤ 1000000000000)) else false) then (decide (a0.Partner ≥ 0)) else false) then (decide (a0.Partner ≤ 10)) else false) then (a0.Partner != a0.Entity) else false) then (decide (a0.Ref ≥ 0)) else false) then (decide (a0.Ref ≤ 1000000)) else false))))]) (L' := [(Ob.box (AV.d (TApiPosting.e a0)))]) (C := [AllP [(bif (decide (a0.Number ≥ 1)) then (decide (a0.Number ≤ 1000000)) else false) = true] → (∀ L, CallOk Try.prog 60 [(AV.d (DV.i .i64 a0.Day))] L (AV.d (DV.b r127)) L), AllP [(bif (bif (bif (bif (bif (decide (a0.Number ≥ 1)) then (decide (a0.Number ≤ 1000000)) else false) then r127 else false) then (decide (a0.Entity ≥ 1)) else false) then (decide (a0.Entity ≤ 10)) else false) then (a0.Debit != a0.Credit) else false) = true] → (∀ L, CallOk Try.prog 44 [(AV.d (DV.i .i64 a0.Debit))] L (AV.d (DV.i .i64 r129)) L), AllP [(bif (bif (bif (bif (bif (bif (decide (a0.Number ≥ 1)) then (decide (a0.Number ≤ 1000000)) else false) then r127 else false) then (decide (a0.Entity ≥ 1)) else false) then (decide (a0.Entity ≤ 10)) else false) then (a0.Debit != a0.Credit) else false) then (r129 != 0) else false) = true] → (∀ L, CallOk Try.prog 44 [(AV.d (DV.i .i64 a0.Credit))] L (AV.d (DV.i .i64 r131)) L)]) (by kernel_rfl) (And.intro (fun hg => fun L => (F60_ok (optP_some hr128 hg)).pure (fun _ => rfl) (fun _ => rfl) L) (And.intro (fun hg => fun L => (F44_ok (optP_some hr130 hg)).pure (fun _ => rfl) (fun _ => rfl) L) (And.intro (fun hg => fun L => (F44_ok (optP_some hr132 hg)).pure (fun _ => rfl) (fun _ => rfl) L) trivial))) ?_
  refine aws_ret ?_
  obtain rfl := Option.some.inj h
  exact ⟨.inr rfl, ⟨_, [], [(Ob.box (AV.d (TApiPosting.e a0)))], by kernel_rfl, trivial, (LeV.refl _), rfl⟩⟩

/-! 43 -/
theorem F43_ok {a0 : TApiLedger} {r : R43} (h : F43 a0 = some r) : CallOk Try.prog 43 [(AV.d (TApiLedger.e a0))] [] (V43 r) (L43 r) := by
  refine callOk_of_aw Try.func43 rfl (Nat.le_of_ble_eq_true (by kernel_rfl)) (Nat.le_of_ble_eq_true (by kernel_rfl)) rfl (lsOk trivial) (aw_of (Q := FQ Try.prog Try.f43 _ _) ?_)
  unfold F43 at h
  refine aws_seq ?_
  refine aws_region (hs := []) (live := [1]) (fr' := [(1, (AV.ptr 0 1 []))]) (L' := [(Ob.box (AV.d (TApiLedger.e a0)))]) (C := []) (by kernel_rfl) trivial ?_
  refine aws_seq ?_
  refine aws_seq ?_
  refine aws_region (hs := []) (live := [1, 10]) (fr' := [(1, (AV.ptr 0 1 [])), (10, (AV.d (DV.b (decide ((a0.Postings.length : Int) > 400)))))]) (L' := [(Ob.box (AV.d (TApiLedger.e a0)))]) (C := []) (by kernel_rfl) trivial ?_
  refine aws_cond (b := (decide ((a0.Postings.length : Int) > 400))) (by kernel_rfl) (fun hb183 => ?_) (fun hb183 => ?_)
  · replace h := iteT hb183 h
    refine aws_seq ?_
    refine aws_region (hs := []) (live := [2]) (fr' := [(2, (AV.d (DV.i .i64 3)))]) (L' := [(Ob.box (AV.d (TApiLedger.e a0)))]) (C := []) (by kernel_rfl) trivial ?_
    refine aws_ret ?_
    obtain rfl := Option.some.inj h
    exact ⟨.inr rfl, ⟨_, [], [(Ob.box (AV.d (TApiLedger.e a0)))], by kernel_rfl, trivial, (LeV.refl _), rfl⟩⟩
  · replace h := iteF hb183 h
    refine aws_skip ?_
    refine aws_seq ?_
    refine aws_seq ?_
    refine aws_region (hs := []) (live := [1, 12, 13, 14]) (fr' := [(1, (AV.ptr 0 1 [])), (12, (AV.d (eL TApiPosting.e a0.Postings))), (13, (AV.d (DV.i .i64 (a0.Postings.length : Int)))), (14, (AV.d (DV.i .i64 0)))]) (L' := [(Ob.box (AV.d (TApiLedger.e a0)))]) (C := []) (by kernel_rfl) trivial ?_
    obtain ⟨o206, hx207, h⟩ := outM_some h
    refine aws_lenL (k := 1) (t := 12) (e := TApiPosting.e) (l := a0.Postings) rfl (by simp) (fun hn => ?_)
    refine aws_loop (E := (fun (_ : Unit) => [(1, (AV.ptr 0 1 []))])) (LE := (fun (_ : Unit) => [(Ob.box (AV.d (TApiLedger.e a0)))])) (R := (fun x => FR Try.prog Try.f43 (V43 x) (L43 x))) (aw_range (n := a0.Postings.length) (m := 1) (I := (fun (i184 : Nat) (_ : Unit) => [(1, (AV.ptr 0 1 [])), (12, (AV.d (eL TApiPosting.e a0.Postings))), (13, (AV.d (DV.i .i64 (a0.Postings.length : Int)))), (14, (AV.d (DV.i .i64 (i184 : Int))))])) (LI := (fun (_ : Nat) => (fun (_ : Unit) => [(Ob.box (AV.d (TApiLedger.e a0)))]))) (body := F43_b1 a0) (fun i184 _ _ hi h => aw_of ?_) (fun _ => aw_of ?_) (fun _ _ => rfl) (Nat.zero_add _) hx207 ⟨(frLe_at (k := 0) rfl (LeV.refl _) (frLe_at (k := 1) rfl (LeV.refl _) (frLe_at (k := 2) rfl (LeV.refl _) (frLe_at (k := 3) rfl (LeV.refl _) frLe_nil)))), .inl rfl⟩ (Nat.le_of_ble_eq_true (by kernel_rfl))) (fun _ => Nat.le_of_ble_eq_true (by kernel_rfl)) (fun x fr L e hr => ?_) (fun _ e => ?_)
    · unfold F43_b1 at h
      refine aws_seq ?_
      refine aws_region (hs := []) (live := [1, 12, 13, 14, 15]) (fr' := [(1, (AV.ptr 0 1 [])), (12, (AV.d (eL TApiPosting.e a0.Postings))), (13, (AV.d (DV.i .i64 (a0.Postings.length : Int)))), (14, (AV.d (DV.i .i64 (i184 : Int)))), (15, (AV.d (DV.b (decide ((i184 : Int) < (a0.Postings.length : Int))))))]) (L' := [(Ob.box (AV.d (TApiLedger.e a0)))]) (C := []) (by kernel_rfl) trivial ?_
      refine aws_seq ?_
      refine aws_cond (b := (decide ((i184 : Int) < (a0.Postings.length : Int)))) (by kernel_rfl) (fun hb196 => ?_) (fun hb196 => absurd (hb196.symm.trans (decide_eq_true (by omega))) Bool.false_ne_true)
      refine aws_skip ?_
      refine aws_seq ?_
      obtain ⟨o202, hx201, h⟩ := outM_some h
      refine aws_blockS (E := (fun (_ : Unit) => [(1, (AV.ptr 0 1 [])), (12, (AV.d (eL TApiPosting.e a0.Postings))), (13, (AV.d (DV.i .i64 (a0.Postings.length : Int)))), (14, (AV.d (DV.i .i64 (i184 : Int))))])) (LE := (fun (_ : Unit) => [(Ob.box (AV.d (TApiLedger.e a0)))])) (fun s => o202 = .next s) ?_ (fun _ => Nat.le_of_ble_eq_true (by kernel_rfl)) (fun _ hq => ?_)
      · refine aws_seq ?_
        refine aws_region (hs := []) (live := [1, 4, 12, 13, 14]) (fr' := [(1, (AV.ptr 0 1 [])), (4, (AV.ptr 1 1 [])), (12, (AV.d (eL TApiPosting.e a0.Postings))), (13, (AV.d (DV.i .i64 (a0.Postings.length : Int)))), (14, (AV.d (DV.i .i64 (i184 : Int))))]) (L' := [(Ob.box (AV.d (TApiLedger.e a0))), (Ob.box (AV.d (TApiPosting.e (a0.Postings.getD i184 default))))]) (C := [(0 : Int) ≤ (i184 : Int), i184 < a0.Postings.length]) (by kernel_rfl) (And.intro (Int.natCast_nonneg _) (And.intro hi trivial)) ?_
        refine aws_seq ?_
        obtain ⟨r203, hr204, hx201⟩ := bind_some' hx201
        refine aws_region (hs := [(1, { h := .callq (AV.d (DV.b r203)) })]) (live := [1, 12, 13, 14, 20]) (fr' := [(1, (AV.ptr 0 1 [])), (12, (AV.d (eL TApiPosting.e a0.Postings))), (13, (AV.d (DV.i .i64 (a0.Postings.length : Int)))), (14, (AV.d (DV.i .i64 (i184 : Int)))), (20, (AV.d (DV.b (!r203))))]) (L' := [(Ob.box (AV.d (TApiLedger.e a0))), (Ob.box (AV.d (TApiPosting.e (a0.Postings.getD i184 default))))]) (C := [∀ L, CallOk Try.prog 46 [(AV.d (TApiPosting.e (a0.Postings.getD i184 default)))] L (AV.d (DV.b r203)) L]) (by kernel_rfl) (And.intro (fun L => (F46_ok hr204).pure (fun _ => rfl) (fun _ => rfl) L) trivial) ?_
        refine aws_cond (b := (!r203)) (by kernel_rfl) (fun hb205 => ?_) (fun hb205 => ?_)
        · replace hx201 := iteT hb205 hx201
          refine aws_seq ?_
          refine aws_region (hs := []) (live := [2]) (fr' := [(2, (AV.d (DV.i .i64 85)))]) (L' := [(Ob.box (AV.d (TApiLedger.e a0))), (Ob.box (AV.d (TApiPosting.e (a0.Postings.getD i184 default))))]) (C := []) (by kernel_rfl) trivial ?_
          refine aws_ret ?_
          obtain rfl := Option.some.inj hx201
          obtain rfl := Option.some.inj h
          exact ⟨_, rfl, ⟨_, [], [(Ob.box (AV.d (TApiLedger.e a0))), (Ob.box (AV.d (TApiPosting.e (a0.Postings.getD i184 default))))], by kernel_rfl, trivial, (LeV.refl _), rfl⟩⟩
        · replace hx201 := iteF hb205 hx201
          refine aws_skip ?_
          refine aws_nil ?_
          obtain rfl := Option.some.inj hx201
          exact ⟨_, rfl, ⟨(frLe_at (k := 0) rfl (LeV.refl _) (frLe_at (k := 1) rfl (LeV.refl _) (frLe_at (k := 2) rfl (LeV.refl _) (frLe_at (k := 3) rfl (LeV.refl _) frLe_nil)))), .inr ⟨⟨[(Ob.box (AV.d (TApiPosting.e (a0.Postings.getD i184 default))))], rfl, lsOk (And.intro rfl trivial)⟩, List.all_eq_true.1 (by kernel_rfl)⟩⟩⟩
      · subst hq
        refine aws_region (hs := []) (live := [1, 12, 13, 14]) (fr' := [(1, (AV.ptr 0 1 [])), (12, (AV.d (eL TApiPosting.e a0.Postings))), (13, (AV.d (DV.i .i64 (a0.Postings.length : Int)))), (14, (AV.d (DV.i .i64 (IntKind.i64.wrap ((i184 : Int) + 1)))))]) (L' := [(Ob.box (AV.d (TApiLedger.e a0)))]) (C := []) (by kernel_rfl) trivial ?_
        refine aws_nil ?_
        obtain rfl := Option.some.inj h
        exact ⟨_, rfl, ⟨(frLe_at (k := 0) rfl (LeV.refl _) (frLe_at (k := 1) rfl (LeV.refl _) (frLe_at (k := 2) rfl (LeV.refl _) (frLe_at (k := 3) rfl (LeV.of_eq (congrArg (fun n => AV.d (DV.i .i64 n)) (wrap_succ (by omega)))) frLe_nil)))), .inl rfl⟩⟩
    · refine aws_seq ?_
      refine aws_region (hs := []) (live := [1, 12, 13, 14, 15]) (fr' := [(1, (AV.ptr 0 1 [])), (12, (AV.d (eL TApiPosting.e a0.Postings))), (13, (AV.d (DV.i .i64 (a0.Postings.length : Int)))), (14, (AV.d (DV.i .i64 ((a0.Postings.length : Nat) : Int)))), (15, (AV.d (DV.b (decide (((a0.Postings.length : Nat) : Int) < (a0.Postings.length : Int))))))]) (L' := [(Ob.box (AV.d (TApiLedger.e a0)))]) (C := []) (by kernel_rfl) trivial ?_
      refine aws_seq ?_
      refine aws_cond (b := (decide (((a0.Postings.length : Nat) : Int) < (a0.Postings.length : Int)))) (by kernel_rfl) (fun hb235 => absurd hb235 (Bool.eq_false_iff.mp (decide_eq_false (by omega)))) (fun hb235 => ?_)
      refine aws_exit ?_
      exact ⟨rfl, _, rfl, ⟨(frLe_at (k := 0) rfl (LeV.refl _) frLe_nil), .inl rfl⟩⟩
    · subst e
      obtain rfl := Option.some.inj h
      exact ⟨.inr rfl, hr⟩
    · subst e
      refine aws_seq ?_
      refine aws_seq ?_
      refine aws_region (hs := []) (live := [1, 23, 24, 25]) (fr' := [(1, (AV.ptr 0 1 [])), (23, (AV.d (eL TApiPosting.e a0.Postings))), (24, (AV.d (DV.i .i64 (a0.Postings.length : Int)))), (25, (AV.d (DV.i .i64 0)))]) (L' := [(Ob.box (AV.d (TApiLedger.e a0)))]) (C := []) (by kernel_rfl) trivial ?_
      obtain ⟨o230, hx231, h⟩ := outM_some h
      refine aws_lenL (k := 1) (t := 23) (e := TApiPosting.e) (l := a0.Postings) rfl (by simp) (fun hn => ?_)
      refine aws_loop (E := (fun (_ : Unit) => [])) (LE := (fun (_ : Unit) => [(Ob.box (AV.d (TApiLedger.e a0)))])) (R := (fun x => FR Try.prog Try.f43 (V43 x) (L43 x))) (aw_range (n := a0.Postings.length) (m := 1) (I := (fun (i208 : Nat) (_ : Unit) => [(1, (AV.ptr 0 1 [])), (23, (AV.d (eL TApiPosting.e a0.Postings))), (24, (AV.d (DV.i .i64 (a0.Postings.length : Int)))), (25, (AV.d (DV.i .i64 (i208 : Int))))])) (LI := (fun (_ : Nat) => (fun (_ : Unit) => [(Ob.box (AV.d (TApiLedger.e a0)))]))) (body := F43_b2 a0) (fun i208 _ _ hi h => aw_of ?_) (fun _ => aw_of ?_) (fun _ _ => rfl) (Nat.zero_add _) hx231 ⟨(frLe_at (k := 0) rfl (LeV.refl _) (frLe_at (k := 1) rfl (LeV.refl _) (frLe_at (k := 2) rfl (LeV.refl _) (frLe_at (k := 3) rfl (LeV.refl _) frLe_nil)))), .inl rfl⟩ (Nat.le_of_ble_eq_true (by kernel_rfl))) (fun _ => Nat.le_of_ble_eq_true (by kernel_rfl)) (fun x fr L e hr => ?_) (fun _ e => ?_)
      · unfold F43_b2 at h
        refine aws_seq ?_
        refine aws_region (hs := []) (live := [1, 23, 24, 25, 26]) (fr' := [(1, (AV.ptr 0 1 [])), (23, (AV.d (eL TApiPosting.e a0.Postings))), (24, (AV.d (DV.i .i64 (a0.Postings.length : Int)))), (25, (AV.d (DV.i .i64 (i208 : Int)))), (26, (AV.d (DV.b (decide ((i208 : Int) < (a0.Postings.length : Int))))))]) (L' := [(Ob.box (AV.d (TApiLedger.e a0)))]) (C := []) (by kernel_rfl) trivial ?_
        refine aws_seq ?_
        refine aws_cond (b := (decide ((i208 : Int) < (a0.Postings.length : Int)))) (by kernel_rfl) (fun hb220 => ?_) (fun hb220 => absurd (hb220.symm.trans (decide_eq_true (by omega))) Bool.false_ne_true)
        refine aws_skip ?_
        refine aws_seq ?_
        obtain ⟨o226, hx225, h⟩ := outM_some h
        refine aws_blockS (E := (fun (_ : Unit) => [(1, (AV.ptr 0 1 [])), (23, (AV.d (eL TApiPosting.e a0.Postings))), (24, (AV.d (DV.i .i64 (a0.Postings.length : Int)))), (25, (AV.d (DV.i .i64 (i208 : Int))))])) (LE := (fun (_ : Unit) => [(Ob.box (AV.d (TApiLedger.e a0)))])) (fun s => o226 = .next s) ?_ (fun _ => Nat.le_of_ble_eq_true (by kernel_rfl)) (fun _ hq => ?_)
        · refine aws_seq ?_
          refine aws_region (hs := []) (live := [1, 5, 6, 23, 24, 25]) (fr' := [(1, (AV.ptr 0 1 [])), (5, (AV.d (DV.i .i64 (i208 : Int)))), (6, (AV.ptr 1 1 [])), (23, (AV.d (eL TApiPosting.e a0.Postings))), (24, (AV.d (DV.i .i64 (a0.Postings.length : Int)))), (25, (AV.d (DV.i .i64 (i208 : Int))))]) (L' := [(Ob.box (AV.d (TApiLedger.e a0))), (Ob.box (AV.d (TApiPosting.e (a0.Postings.getD i208 default))))]) (C := [(0 : Int) ≤ (i208 : Int), i208 < a0.Postings.length]) (by kernel_rfl) (And.intro (Int.natCast_nonneg _) (And.intro hi trivial)) ?_
          refine aws_seq ?_
          obtain ⟨⟨hc227, hc228, _⟩, hx225⟩ := guardP_some hx225
          refine aws_drawn (D := ⟨[[], [0], [], [2], [3, 2, 1, 0], [4, 3, 2, 1, 0], [5, 4, 3, 2, 1, 0], [6, 5, 4, 3, 2, 1, 0], [7, 6, 5, 4, 3, 2, 1, 0], [8, 7, 6, 5, 4, 3, 2, 1, 0], [9, 8, 7, 6, 5, 4, 3, 2, 1, 0], [8, 7, 6, 5, 4, 3, 2, 1, 0], [11, 8, 7, 6, 5, 4, 3, 2, 1, 0], [12, 11, 10, 9, 8, 7, 6, 5, 4, 3, 2, 1, 0], [13, 12, 11, 10, 9, 8, 7, 6, 5, 4, 3, 2, 1, 0], [14, 13, 12, 11, 10, 9, 8, 7, 6, 5, 4, 3, 2, 1, 0], [8, 7, 6, 5, 4, 3, 2, 1, 0], [16, 8, 7, 6, 5, 4, 3, 2, 1, 0], [17, 16, 15, 14, 13, 12, 11, 10, 9, 8, 7, 6, 5, 4, 3, 2, 1, 0], [18, 17, 16, 15, 14, 13, 12, 11, 10, 9, 8, 7, 6, 5, 4, 3, 2, 1, 0], [19, 18, 17, 16, 15, 14, 13, 12, 11, 10, 9, 8, 7, 6, 5, 4, 3, 2, 1, 0]], []⟩) (hs := []) (live := [1, 23, 24, 25, 50]) (fr' := [(1, (AV.ptr 0 1 [])), (23, (AV.d (eL TApiPosting.e a0.Postings))), (24, (AV.d (DV.i .i64 (a0.Postings.length : Int)))), (25, (AV.d (DV.i .i64 (i208 : Int)))), (50, (AV.d (DV.b (bif (((a0.Postings.getD i208 default).Number) != (IntKind.i64.wrap ((i208 : Int) + 1))) then true else (bif (decide ((i208 : Int) > 0)) then (decide (((a0.Postings.getD (((IntKind.i64.wrap ((i208 : Int) - 1))).toNat) default).Day) > ((a0.Postings.getD i208 default).Day))) else false)))))]) (L' := [(Ob.box (AV.d (TApiLedger.e a0))), (Ob.box (AV.d (TApiPosting.e (a0.Postings.getD i208 default))))]) (C := [AllP [(decide ((i208 : Int) > 0)) = true, (((a0.Postings.getD i208 default).Number) != (IntKind.i64.wrap ((i208 : Int) + 1))) = false] → ((0 : Int) ≤ (IntKind.i64.wrap ((i208 : Int) - 1))), AllP [(decide ((i208 : Int) > 0)) = true, (((a0.Postings.getD i208 default).Number) != (IntKind.i64.wrap ((i208 : Int) + 1))) = false] → (((IntKind.i64.wrap ((i208 : Int) - 1))).toNat < a0.Postings.length)]) (by kernel_rfl) (by kernel_rfl) (by kernel_rfl) (And.intro hc227 (And.intro hc228 trivial)) ?_
          refine aws_cond (b := (bif (((a0.Postings.getD i208 default).Number) != (IntKind.i64.wrap ((i208 : Int) + 1))) then true else (bif (decide ((i208 : Int) > 0)) then (decide (((a0.Postings.getD (((IntKind.i64.wrap ((i208 : Int) - 1))).toNat) default).Day) > ((a0.Postings.getD i208 default).Day))) else false))) (by kernel_rfl) (fun hb229 => ?_) (fun hb229 => ?_)
          · replace hx225 := iteT hb229 hx225
            refine aws_seq ?_
            refine aws_region (hs := []) (live := [2]) (fr' := [(2, (AV.d (DV.i .i64 86)))]) (L' := [(Ob.box (AV.d (TApiLedger.e a0))), (Ob.box (AV.d (TApiPosting.e (a0.Postings.getD i208 default))))]) (C := []) (by kernel_rfl) trivial ?_
            refine aws_ret ?_
            obtain rfl := Option.some.inj hx225
            obtain rfl := Option.some.inj h
            exact ⟨_, rfl, ⟨_, [], [(Ob.box (AV.d (TApiLedger.e a0))), (Ob.box (AV.d (TApiPosting.e (a0.Postings.getD i208 default))))], by kernel_rfl, trivial, (LeV.refl _), rfl⟩⟩
          · replace hx225 := iteF hb229 hx225
            refine aws_skip ?_
            refine aws_nil ?_
            obtain rfl := Option.some.inj hx225
            exact ⟨_, rfl, ⟨(frLe_at (k := 0) rfl (LeV.refl _) (frLe_at (k := 1) rfl (LeV.refl _) (frLe_at (k := 2) rfl (LeV.refl _) (frLe_at (k := 3) rfl (LeV.refl _) frLe_nil)))), .inr ⟨⟨[(Ob.box (AV.d (TApiPosting.e (a0.Postings.getD i208 default))))], rfl, lsOk (And.intro rfl trivial)⟩, List.all_eq_true.1 (by kernel_rfl)⟩⟩⟩
        · subst hq
          refine aws_region (hs := []) (live := [1, 23, 24, 25]) (fr' := [(1, (AV.ptr 0 1 [])), (23, (AV.d (eL TApiPosting.e a0.Postings))), (24, (AV.d (DV.i .i64 (a0.Postings.length : Int)))), (25, (AV.d (DV.i .i64 (IntKind.i64.wrap ((i208 : Int) + 1)))))]) (L' := [(Ob.box (AV.d (TApiLedger.e a0)))]) (C := []) (by kernel_rfl) trivial ?_
          refine aws_nil ?_
          obtain rfl := Option.some.inj h
          exact ⟨_, rfl, ⟨(frLe_at (k := 0) rfl (LeV.refl _) (frLe_at (k := 1) rfl (LeV.refl _) (frLe_at (k := 2) rfl (LeV.refl _) (frLe_at (k := 3) rfl (LeV.of_eq (congrArg (fun n => AV.d (DV.i .i64 n)) (wrap_succ (by omega)))) frLe_nil)))), .inl rfl⟩⟩
      · refine aws_seq ?_
        refine aws_region (hs := []) (live := [1, 23, 24, 25, 26]) (fr' := [(1, (AV.ptr 0 1 [])), (23, (AV.d (eL TApiPosting.e a0.Postings))), (24, (AV.d (DV.i .i64 (a0.Postings.length : Int)))), (25, (AV.d (DV.i .i64 ((a0.Postings.length : Nat) : Int)))), (26, (AV.d (DV.b (decide (((a0.Postings.length : Nat) : Int) < (a0.Postings.length : Int))))))]) (L' := [(Ob.box (AV.d (TApiLedger.e a0)))]) (C := []) (by kernel_rfl) trivial ?_
        refine aws_seq ?_
        refine aws_cond (b := (decide (((a0.Postings.length : Nat) : Int) < (a0.Postings.length : Int)))) (by kernel_rfl) (fun hb233 => absurd hb233 (Bool.eq_false_iff.mp (decide_eq_false (by omega)))) (fun hb233 => ?_)
        refine aws_exit ?_
        exact ⟨rfl, _, rfl, ⟨frLe_nil, .inl rfl⟩⟩
      · subst e
        obtain rfl := Option.some.inj h
        exact ⟨.inr rfl, hr⟩
      · subst e
        refine aws_seq ?_
        refine aws_region (hs := []) (live := [2]) (fr' := [(2, (AV.d (DV.i .i64 0)))]) (L' := [(Ob.box (AV.d (TApiLedger.e a0)))]) (C := []) (by kernel_rfl) trivial ?_
        refine aws_ret ?_
        obtain rfl := Option.some.inj h
        exact ⟨.inr rfl, ⟨_, [], [(Ob.box (AV.d (TApiLedger.e a0)))], by kernel_rfl, trivial, (LeV.refl _), rfl⟩⟩

/-! 16 -/
theorem F16_ok {a0 : TApiLedger} {a1 : TApiPosting} {r : R16} (h : F16 a0 a1 = some r) : CallOk Try.prog 16 [(AV.d (TApiLedger.e a0)), (AV.d (TApiPosting.e a1))] [] (V16 r) (L16 r) := by
  refine callOk_of_aw Try.func16 rfl (Nat.le_of_ble_eq_true (by kernel_rfl)) (Nat.le_of_ble_eq_true (by kernel_rfl)) rfl (lsOk trivial) (aw_of (Q := FQ Try.prog Try.f16 _ _) ?_)
  unfold F16 at h
  refine aws_seq ?_
  refine aws_region (hs := [(2, { obs := [(2, (Ob.box (AV.d (TApiLedger.e (⟨[]⟩ : TApiLedger)))))] })]) (live := [2, 3, 4]) (fr' := [(2, (AV.ptr 0 1 [])), (3, (AV.ptr 1 1 [])), (4, (AV.ptr 2 1 []))]) (L' := [(Ob.box (AV.d (TApiLedger.e a0))), (Ob.box (AV.d (TApiPosting.e a1))), (Ob.box (AV.d (TApiLedger.e (⟨[]⟩ : TApiLedger))))]) (C := [OLe (Ob.box (AV.d (DV.agg [(DV.sl 0 fun _ => DV.b false)]))) (Ob.box (AV.d (TApiLedger.e (⟨[]⟩ : TApiLedger))))]) (by kernel_rfl) (And.intro (oLe_box (DLe.agg (DLeL.cons DLe.sl0 DLeL.nil))) trivial) ?_
  refine aws_seq ?_
  refine aws_seq ?_
  obtain ⟨r261, hr262, h⟩ := bind_some' h
  refine aws_region (hs := [(1, { h := .callq (AV.d (DV.i .i64 r261)) })]) (live := [2, 3, 4, 6]) (fr' := [(2, (AV.ptr 0 1 [])), (3, (AV.ptr 1 1 [])), (4, (AV.ptr 2 1 [])), (6, (AV.d (DV.i .i64 r261)))]) (L' := [(Ob.box (AV.d (TApiLedger.e a0))), (Ob.box (AV.d (TApiPosting.e a1))), (Ob.box (AV.d (TApiLedger.e (⟨[]⟩ : TApiLedger))))]) (C := [∀ L, CallOk Try.prog 43 [(AV.d (TApiLedger.e a0))] L (AV.d (DV.i .i64 r261)) L]) (by kernel_rfl) (And.intro (fun L => (F43_ok hr262).pure (fun _ => rfl) (fun _ => rfl) L) trivial) ?_
  refine aws_seq ?_
  refine aws_region (hs := []) (live := [2, 3, 4, 6, 11]) (fr' := [(2, (AV.ptr 0 1 [])), (3, (AV.ptr 1 1 [])), (4, (AV.ptr 2 1 [])), (6, (AV.d (DV.i .i64 r261))), (11, (AV.d (DV.b (r261 != 0))))]) (L' := [(Ob.box (AV.d (TApiLedger.e a0))), (Ob.box (AV.d (TApiPosting.e a1))), (Ob.box (AV.d (TApiLedger.e (⟨[]⟩ : TApiLedger))))]) (C := []) (by kernel_rfl) trivial ?_
  refine aws_cond (b := (r261 != 0)) (by kernel_rfl) (fun hb263 => ?_) (fun hb263 => ?_)
  · replace h := iteT hb263 h
    refine aws_seq ?_
    refine aws_region (hs := [(0, { cast := some (AV.d (TApiLedger.e (⟨[]⟩ : TApiLedger))) })]) (live := [4, 5]) (fr' := [(4, (AV.ptr 2 1 [])), (5, (AV.d (DV.i .i64 r261)))]) (L' := [(Ob.box (AV.d (TApiLedger.e a0))), (Ob.box (AV.d (TApiPosting.e a1))), (Ob.box (AV.d (TApiLedger.e (⟨[]⟩ : TApiLedger))))]) (C := [LeV (AV.d (DV.agg [(DV.sl 0 fun _ => DV.b false)])) (AV.d (TApiLedger.e (⟨[]⟩ : TApiLedger)))]) (by kernel_rfl) (And.intro (leV_dle rfl (DLe.agg (DLeL.cons DLe.sl0 DLeL.nil))) trivial) ?_
    refine aws_ret ?_
    obtain rfl := Option.some.inj h
    exact ⟨.inr rfl, ⟨_, [], [(Ob.box (AV.d (TApiLedger.e a0))), (Ob.box (AV.d (TApiPosting.e a1))), (Ob.box (AV.d (TApiLedger.e (⟨[]⟩ : TApiLedger))))], by kernel_rfl, trivial, (LeV.refl _), rfl⟩⟩
  · replace h := iteF hb263 h
    refine aws_skip ?_
    refine aws_seq ?_
    refine aws_region (hs := []) (live := [2, 3, 4, 7]) (fr' := [(2, (AV.ptr 0 1 [])), (3, (AV.ptr 1 1 [])), (4, (AV.ptr 2 1 [])), (7, (AV.d (DV.i .i64 (a0.Postings.length : Int))))]) (L' := [(Ob.box (AV.d (TApiLedger.e a0))), (Ob.box (AV.d (TApiPosting.e a1))), (Ob.box (AV.d (TApiLedger.e (⟨[]⟩ : TApiLedger))))]) (C := []) (by kernel_rfl) trivial ?_
    refine aws_seq ?_
    obtain ⟨o274, hx273, h⟩ := outM_some h
    refine aws_blockS (E := (fun (_ : Unit) => [(2, (AV.ptr 0 1 [])), (3, (AV.ptr 1 1 [])), (4, (AV.ptr 2 1 []))])) (LE := (fun (_ : Unit) => [(Ob.box (AV.d (TApiLedger.e a0))), (Ob.box (AV.d (TApiPosting.e a1))), (Ob.box (AV.d (TApiLedger.e (⟨[]⟩ : TApiLedger))))])) (fun s => o274 = .next s) ?_ (fun _ => Nat.le_of_ble_eq_true (by kernel_rfl)) (fun _ hq => ?_)
    · refine aws_seq ?_
      obtain ⟨r275, hr276, hx273⟩ := bind_some' hx273
      refine aws_region (hs := [(1, { h := .callq (AV.d (DV.b r275)) })]) (live := [2, 3, 4, 7, 17]) (fr' := [(2, (AV.ptr 0 1 [])), (3, (AV.ptr 1 1 [])), (4, (AV.ptr 2 1 [])), (7, (AV.d (DV.i .i64 (a0.Postings.length : Int)))), (17, (AV.d (DV.b (!r275))))]) (L' := [(Ob.box (AV.d (TApiLedger.e a0))), (Ob.box (AV.d (TApiPosting.e a1))), (Ob.box (AV.d (TApiLedger.e (⟨[]⟩ : TApiLedger))))]) (C := [∀ L, CallOk Try.prog 46 [(AV.d (TApiPosting.e a1))] L (AV.d (DV.b r275)) L]) (by kernel_rfl) (And.intro (fun L => (F46_ok hr276).pure (fun _ => rfl) (fun _ => rfl) L) trivial) ?_
      refine aws_cond (b := (!r275)) (by kernel_rfl) (fun hb277 => ?_) (fun hb277 => ?_)
      · replace hx273 := iteT hb277 hx273
        refine aws_seq ?_
        refine aws_region (hs := [(0, { cast := some (AV.d (TApiLedger.e (⟨[]⟩ : TApiLedger))) })]) (live := [4, 5]) (fr' := [(4, (AV.ptr 2 1 [])), (5, (AV.d (DV.i .i64 85)))]) (L' := [(Ob.box (AV.d (TApiLedger.e a0))), (Ob.box (AV.d (TApiPosting.e a1))), (Ob.box (AV.d (TApiLedger.e (⟨[]⟩ : TApiLedger))))]) (C := [LeV (AV.d (DV.agg [(DV.sl 0 fun _ => DV.b false)])) (AV.d (TApiLedger.e (⟨[]⟩ : TApiLedger)))]) (by kernel_rfl) (And.intro (leV_dle rfl (DLe.agg (DLeL.cons DLe.sl0 DLeL.nil))) trivial) ?_
        refine aws_ret ?_
        obtain rfl := Option.some.inj hx273
        obtain rfl := Option.some.inj h
        exact ⟨.inr rfl, ⟨_, [], [(Ob.box (AV.d (TApiLedger.e a0))), (Ob.box (AV.d (TApiPosting.e a1))), (Ob.box (AV.d (TApiLedger.e (⟨[]⟩ : TApiLedger))))], by kernel_rfl, trivial, (LeV.refl _), rfl⟩⟩
      · replace hx273 := iteF hb277 hx273
        refine aws_seq ?_
        refine aws_region (hs := []) (live := [2, 3, 4, 7, 22]) (fr' := [(2, (AV.ptr 0 1 [])), (3, (AV.ptr 1 1 [])), (4, (AV.ptr 2 1 [])), (7, (AV.d (DV.i .i64 (a0.Postings.length : Int)))), (22, (AV.d (DV.b ((a0.Postings.length : Int) == 400))))]) (L' := [(Ob.box (AV.d (TApiLedger.e a0))), (Ob.box (AV.d (TApiPosting.e a1))), (Ob.box (AV.d (TApiLedger.e (⟨[]⟩ : TApiLedger))))]) (C := []) (by kernel_rfl) trivial ?_
        refine aws_cond (b := ((a0.Postings.length : Int) == 400)) (by kernel_rfl) (fun hb278 => ?_) (fun hb278 => ?_)
        · replace hx273 := iteT hb278 hx273
          refine aws_seq ?_
          refine aws_region (hs := [(0, { cast := some (AV.d (TApiLedger.e (⟨[]⟩ : TApiLedger))) })]) (live := [4, 5]) (fr' := [(4, (AV.ptr 2 1 [])), (5, (AV.d (DV.i .i64 3)))]) (L' := [(Ob.box (AV.d (TApiLedger.e a0))), (Ob.box (AV.d (TApiPosting.e a1))), (Ob.box (AV.d (TApiLedger.e (⟨[]⟩ : TApiLedger))))]) (C := [LeV (AV.d (DV.agg [(DV.sl 0 fun _ => DV.b false)])) (AV.d (TApiLedger.e (⟨[]⟩ : TApiLedger)))]) (by kernel_rfl) (And.intro (leV_dle rfl (DLe.agg (DLeL.cons DLe.sl0 DLeL.nil))) trivial) ?_
          refine aws_ret ?_
          obtain rfl := Option.some.inj hx273
          obtain rfl := Option.some.inj h
          exact ⟨.inr rfl, ⟨_, [], [(Ob.box (AV.d (TApiLedger.e a0))), (Ob.box (AV.d (TApiPosting.e a1))), (Ob.box (AV.d (TApiLedger.e (⟨[]⟩ : TApiLedger))))], by kernel_rfl, trivial, (LeV.refl _), rfl⟩⟩
        · replace hx273 := iteF hb278 hx273
          refine aws_seq ?_
          refine aws_region (hs := []) (live := [2, 3, 4, 7, 26]) (fr' := [(2, (AV.ptr 0 1 [])), (3, (AV.ptr 1 1 [])), (4, (AV.ptr 2 1 [])), (7, (AV.d (DV.i .i64 (a0.Postings.length : Int)))), (26, (AV.d (DV.b (a1.Number != (IntKind.i64.wrap ((a0.Postings.length : Int) + 1))))))]) (L' := [(Ob.box (AV.d (TApiLedger.e a0))), (Ob.box (AV.d (TApiPosting.e a1))), (Ob.box (AV.d (TApiLedger.e (⟨[]⟩ : TApiLedger))))]) (C := []) (by kernel_rfl) trivial ?_
          refine aws_cond (b := (a1.Number != (IntKind.i64.wrap ((a0.Postings.length : Int) + 1)))) (by kernel_rfl) (fun hb279 => ?_) (fun hb279 => ?_)
          · replace hx273 := iteT hb279 hx273
            refine aws_seq ?_
            refine aws_region (hs := [(0, { cast := some (AV.d (TApiLedger.e (⟨[]⟩ : TApiLedger))) })]) (live := [4, 5]) (fr' := [(4, (AV.ptr 2 1 [])), (5, (AV.d (DV.i .i64 65)))]) (L' := [(Ob.box (AV.d (TApiLedger.e a0))), (Ob.box (AV.d (TApiPosting.e a1))), (Ob.box (AV.d (TApiLedger.e (⟨[]⟩ : TApiLedger))))]) (C := [LeV (AV.d (DV.agg [(DV.sl 0 fun _ => DV.b false)])) (AV.d (TApiLedger.e (⟨[]⟩ : TApiLedger)))]) (by kernel_rfl) (And.intro (leV_dle rfl (DLe.agg (DLeL.cons DLe.sl0 DLeL.nil))) trivial) ?_
            refine aws_ret ?_
            obtain rfl := Option.some.inj hx273
            obtain rfl := Option.some.inj h
            exact ⟨.inr rfl, ⟨_, [], [(Ob.box (AV.d (TApiLedger.e a0))), (Ob.box (AV.d (TApiPosting.e a1))), (Ob.box (AV.d (TApiLedger.e (⟨[]⟩ : TApiLedger))))], by kernel_rfl, trivial, (LeV.refl _), rfl⟩⟩
          · replace hx273 := iteF hb279 hx273
            refine aws_seq ?_
            obtain ⟨⟨hc280, hc281, _⟩, hx273⟩ := guardP_some hx273
            refine aws_drawn (D := ⟨[[], [0], [1, 0], [2, 1, 0], [3, 2, 1, 0], [2, 1, 0], [5, 2, 1, 0], [2, 1, 0], [7, 2, 1, 0], [8, 7, 6, 5, 2, 1, 0], [9, 8, 7, 6, 5, 2, 1, 0], [10, 9, 8, 7, 6, 5, 2, 1, 0], [11, 10, 9, 8, 7, 6, 5, 4, 3, 2, 1, 0], [12, 11, 10, 9, 8, 7, 6, 5, 4, 3, 2, 1, 0], [13, 12, 11, 10, 9, 8, 7, 6, 5, 4, 3, 2, 1, 0]], []⟩) (hs := []) (live := [2, 3, 4, 33]) (fr' := [(2, (AV.ptr 0 1 [])), (3, (AV.ptr 1 1 [])), (4, (AV.ptr 2 1 [])), (33, (AV.d (DV.b (bif (decide ((a0.Postings.length : Int) > 0)) then (decide (a1.Day < ((a0.Postings.getD (((IntKind.i64.wrap ((a0.Postings.length : Int) - 1))).toNat) default).Day))) else false))))]) (L' := [(Ob.box (AV.d (TApiLedger.e a0))), (Ob.box (AV.d (TApiPosting.e a1))), (Ob.box (AV.d (TApiLedger.e (⟨[]⟩ : TApiLedger))))]) (C := [AllP [(decide ((a0.Postings.length : Int) > 0)) = true] → ((0 : Int) ≤ (IntKind.i64.wrap ((a0.Postings.length : Int) - 1))), AllP [(decide ((a0.Postings.length : Int) > 0)) = true] → (((IntKind.i64.wrap ((a0.Postings.length : Int) - 1))).toNat < a0.Postings.length)]) (by kernel_rfl) (by kernel_rfl) (by kernel_rfl) (And.intro hc280 (And.intro hc281 trivial)) ?_
            refine aws_cond (b := (bif (decide ((a0.Postings.length : Int) > 0)) then (decide (a1.Day < ((a0.Postings.getD (((IntKind.i64.wrap ((a0.Postings.length : Int) - 1))).toNat) default).Day))) else false)) (by kernel_rfl) (fun hb282 => ?_) (fun hb282 => ?_)
            · replace hx273 := iteT hb282 hx273
              refine aws_seq ?_
              refine aws_region (hs := [(0, { cast := some (AV.d (TApiLedger.e (⟨[]⟩ : TApiLedger))) })]) (live := [4, 5]) (fr' := [(4, (AV.ptr 2 1 [])), (5, (AV.d (DV.i .i64 8)))]) (L' := [(Ob.box (AV.d (TApiLedger.e a0))), (Ob.box (AV.d (TApiPosting.e a1))), (Ob.box (AV.d (TApiLedger.e (⟨[]⟩ : TApiLedger))))]) (C := [LeV (AV.d (DV.agg [(DV.sl 0 fun _ => DV.b false)])) (AV.d (TApiLedger.e (⟨[]⟩ : TApiLedger)))]) (by kernel_rfl) (And.intro (leV_dle rfl (DLe.agg (DLeL.cons DLe.sl0 DLeL.nil))) trivial) ?_
              refine aws_ret ?_
              obtain rfl := Option.some.inj hx273
              obtain rfl := Option.some.inj h
              exact ⟨.inr rfl, ⟨_, [], [(Ob.box (AV.d (TApiLedger.e a0))), (Ob.box (AV.d (TApiPosting.e a1))), (Ob.box (AV.d (TApiLedger.e (⟨[]⟩ : TApiLedger))))], by kernel_rfl, trivial, (LeV.refl _), rfl⟩⟩
            · replace hx273 := iteF hb282 hx273
              refine aws_skip ?_
              refine aws_nil ?_
              obtain rfl := Option.some.inj hx273
              exact ⟨_, rfl, ⟨(frLe_at (k := 0) rfl (LeV.refl _) (frLe_at (k := 1) rfl (LeV.refl _) (frLe_at (k := 2) rfl (LeV.refl _) frLe_nil))), .inl rfl⟩⟩
    · subst hq
      refine aws_seq ?_
      obtain ⟨⟨hc283, hc284, _⟩, h⟩ := guardP_some h
      obtain ⟨hn285, h⟩ := guardP_some h
      refine aws_then (fr1 := [(4, (AV.ptr 2 1 [])), (5, (AV.d (DV.i .i64 0)))]) (L1 := [(Ob.box (AV.d (TApiLedger.e a0))), (Ob.box (AV.d (TApiPosting.e a1))), (Ob.box (AV.agg [(AV.ref 3 ((a0.Postings ++ ([a1] : List TApiPosting)).length) 0 ((a0.Postings ++ ([a1] : List TApiPosting)).length))])), (eS 8 TApiPosting.e (a0.Postings ++ ([a1] : List TApiPosting)))]) (fr2 := [(4, (AV.ptr 2 1 [])), (5, (AV.d (DV.i .i64 0)))]) (L2 := [(Ob.box (AV.d (TApiLedger.e a0))), (Ob.box (AV.d (TApiPosting.e a1))), (Ob.box (AV.d (DV.agg [(eL TApiPosting.e (a0.Postings ++ ([a1] : List TApiPosting)))]))), Ob.dead]) (shift_freeze (o := 3) (g := fun j => TApiPosting.e ((a0.Postings ++ ([a1] : List TApiPosting)).getD j default)) rfl hn285 (.keep _ _ _ _ (Nat.ne_of_beq_eq_false rfl) (.keep _ _ _ _ (Nat.ne_of_beq_eq_false rfl) (.box _ _ _ _ _ (Nat.ne_of_beq_eq_false rfl) (TrV.aggD (TrL.cons (TrV.ref (Nat.le_refl _)) TrL.nil)) (.here _ _ _ _ rfl (.nil _)))))) (trF_at (k := 0) rfl (TrS.keep _) (trF_at (k := 1) rfl (TrS.keep _) trF_nil)) (aw_drawn (D := ⟨[[], [0], [1, 0], [], [3], [4, 3, 2, 1, 0], [5, 4, 3, 2, 1, 0], [6, 5, 4, 3, 2, 1, 0], [7, 6, 5, 4, 3, 2, 1, 0]], [2, 5, 7]⟩) (hs := [(2, { h := .obj }), (4, { cast := some (AV.d (eL TApiPosting.e ([a1] : List TApiPosting))) }), (5, { cast := some (AV.ref 3 ((a0.Postings ++ ([a1] : List TApiPosting)).length) 0 ((a0.Postings ++ ([a1] : List TApiPosting)).length)), obs := [(3, (eS 8 TApiPosting.e (a0.Postings ++ ([a1] : List TApiPosting))))] })]) (live := [4, 5]) (fr' := [(4, (AV.ptr 2 1 [])), (5, (AV.d (DV.i .i64 0)))]) (L' := [(Ob.box (AV.d (TApiLedger.e a0))), (Ob.box (AV.d (TApiPosting.e a1))), (Ob.box (AV.agg [(AV.ref 3 ((a0.Postings ++ ([a1] : List TApiPosting)).length) 0 ((a0.Postings ++ ([a1] : List TApiPosting)).length))])), (eS 8 TApiPosting.e (a0.Postings ++ ([a1] : List TApiPosting)))]) (C := [∀ k, k < a0.Postings.length → (AV.d (TApiPosting.e (a0.Postings.getD k default))).wd = 8, a0.Postings.length * (2 * 64) ≤ 2 ^ 48, LeV (AV.d (DV.sl 1 (listF (DV.b false) [(TApiPosting.e a1)]))) (AV.d (eL TApiPosting.e ([a1] : List TApiPosting))), LeV (AV.d (DV.sl 1 (listF (DV.b false) [(TApiPosting.e a1)]))) (AV.d (eL TApiPosting.e ([a1] : List TApiPosting))), a0.Postings.length = a0.Postings.length, a0.Postings.length = a0.Postings.length, ∀ k, k < 1 → (AV.d (TApiPosting.e (([a1] : List TApiPosting).getD k default))).wd = 8, (a0.Postings.length + 1) * (2 * 64) ≤ 2 ^ 48, LeV (AV.ref 3 (a0.Postings.length + 1) 0 (a0.Postings.length + 1)) (AV.ref 3 ((a0.Postings ++ ([a1] : List TApiPosting)).length) 0 ((a0.Postings ++ ([a1] : List TApiPosting)).length)), OLe (Ob.seq 8 (a0.Postings.length + 1) (catF a0.Postings.length (fun j => AV.d (TApiPosting.e (a0.Postings.getD j default))) (fun j => AV.d (TApiPosting.e (([a1] : List TApiPosting).getD j default))))) (eS 8 TApiPosting.e (a0.Postings ++ ([a1] : List TApiPosting)))]) (by kernel_rfl) (by kernel_rfl) (by kernel_rfl) (And.intro (fun _ _ => rfl) (And.intro hc283 (And.intro (leV_lit TApiPosting.e ([a1] : List TApiPosting)) (And.intro (leV_lit TApiPosting.e ([a1] : List TApiPosting)) (And.intro rfl (And.intro rfl (And.intro (fun _ _ => rfl) (And.intro hc284 (And.intro (leV_app (o := 3) (l := a0.Postings) (x := ([a1] : List TApiPosting))) (And.intro (oLe_app (e := TApiPosting.e) (l := a0.Postings) (x := ([a1] : List TApiPosting))) trivial)))))))))) ⟨rfl, rfl, rfl⟩) ?_
      refine aws_ret ?_
      obtain rfl := Option.some.inj h
      exact ⟨.inr rfl, ⟨_, [], [(Ob.box (AV.d (TApiLedger.e a0))), (Ob.box (AV.d (TApiPosting.e a1))), (Ob.box (AV.d (DV.agg [(eL TApiPosting.e (a0.Postings ++ ([a1] : List TApiPosting)))]))), Ob.dead], by kernel_rfl, trivial, (LeV.refl _), rfl⟩⟩

/-! 10 -/
theorem F10_ok {a1 : Int} {a2 : Int} {a3 : Int} {p0 : TTreasuryplaySrc} {r : R10} (h : F10 a1 a2 a3 p0 = some r) : CallOk Try.prog 10 [(AV.ptr 0 1 []), (AV.d (DV.i .i64 a1)), (AV.d (DV.i .i64 a2)), (AV.d (DV.i .i64 a3))] [(Ob.box (AV.d (TTreasuryplaySrc.e p0)))] (V10 r) (L10 r) := by
  refine callOk_of_aw Try.func10 rfl (Nat.le_of_ble_eq_true (by kernel_rfl)) (Nat.le_of_ble_eq_true (by kernel_rfl)) rfl (lsOk (And.intro rfl trivial)) (aw_of (Q := FQ Try.prog Try.f10 _ _) ?_)
  unfold F10 at h
  refine aws_seq ?_
  refine aws_region (hs := [(0, { obs := [(1, (Ob.box (AV.d (TApiLedger.e (⟨[]⟩ : TApiLedger)))))] })]) (live := [0, 1, 2, 3, 8]) (fr' := [(0, (AV.ptr 0 1 [])), (1, (AV.d (DV.i .i64 a1))), (2, (AV.d (DV.i .i64 a2))), (3, (AV.d (DV.i .i64 a3))), (8, (AV.ptr 1 1 []))]) (L' := [(Ob.box (AV.d (TTreasuryplaySrc.e p0))), (Ob.box (AV.d (TApiLedger.e (⟨[]⟩ : TApiLedger))))]) (C := [OLe (Ob.box (AV.d (DV.agg [(DV.sl 0 fun _ => DV.b false)]))) (Ob.box (AV.d (TApiLedger.e (⟨[]⟩ : TApiLedger))))]) (by kernel_rfl) (And.intro (oLe_box (DLe.agg (DLeL.cons DLe.sl0 DLeL.nil))) trivial) ?_
  refine aws_seq ?_
  refine aws_region (hs := [(0, { obs := [(2, (Ob.box (AV.d (TApiLedger.e (⟨[]⟩ : TApiLedger)))))] })]) (live := [0, 1, 2, 3, 8, 9]) (fr' := [(0, (AV.ptr 0 1 [])), (1, (AV.d (DV.i .i64 a1))), (2, (AV.d (DV.i .i64 a2))), (3, (AV.d (DV.i .i64 a3))), (8, (AV.ptr 1 1 [])), (9, (AV.ptr 2 1 []))]) (L' := [(Ob.box (AV.d (TTreasuryplaySrc.e p0))), (Ob.box (AV.d (TApiLedger.e (⟨[]⟩ : TApiLedger)))), (Ob.box (AV.d (TApiLedger.e (⟨[]⟩ : TApiLedger))))]) (C := [OLe (Ob.box (AV.d (DV.agg [(DV.sl 0 fun _ => DV.b false)]))) (Ob.box (AV.d (TApiLedger.e (⟨[]⟩ : TApiLedger))))]) (by kernel_rfl) (And.intro (oLe_box (DLe.agg (DLeL.cons DLe.sl0 DLeL.nil))) trivial) ?_
  refine aws_seq ?_
  refine aws_region (hs := []) (live := [0, 1, 2, 3, 8, 9, 10]) (fr' := [(0, (AV.ptr 0 1 [])), (1, (AV.d (DV.i .i64 a1))), (2, (AV.d (DV.i .i64 a2))), (3, (AV.d (DV.i .i64 a3))), (8, (AV.ptr 1 1 [])), (9, (AV.ptr 2 1 [])), (10, (AV.d (DV.i .i64 0)))]) (L' := [(Ob.box (AV.d (TTreasuryplaySrc.e p0))), (Ob.box (AV.d (TApiLedger.e (⟨[]⟩ : TApiLedger)))), (Ob.box (AV.d (TApiLedger.e (⟨[]⟩ : TApiLedger))))]) (C := []) (by kernel_rfl) trivial ?_
  refine aws_seq ?_
  refine aws_seq ?_
  obtain ⟨r352, hr353, h⟩ := bind_some' h
  refine aws_region (hs := [(3, { h := .callw (AV.d (DV.i .i64 r352.1)) [(0, (Ob.box (AV.d (TTreasuryplaySrc.e r352.2))))] [] })]) (live := [0, 2, 3, 8, 9, 10, 11]) (fr' := [(0, (AV.ptr 0 1 [])), (2, (AV.d (DV.i .i64 a2))), (3, (AV.d (DV.i .i64 a3))), (8, (AV.ptr 1 1 [])), (9, (AV.ptr 2 1 [])), (10, (AV.d (DV.i .i64 0))), (11, (AV.d (DV.i .i64 r352.1)))]) (L' := [(Ob.box (AV.d (TTreasuryplaySrc.e r352.2))), (Ob.box (AV.d (TApiLedger.e (⟨[]⟩ : TApiLedger)))), (Ob.box (AV.d (TApiLedger.e (⟨[]⟩ : TApiLedger))))]) (C := [CallOk Try.prog 19 [(AV.ptr 0 1 []), (AV.d (DV.i .i64 (IntKind.i64.wrap (a1 + 1))))] [(Ob.box (AV.d (TTreasuryplaySrc.e p0))), (Ob.box (AV.d (TApiLedger.e (⟨[]⟩ : TApiLedger)))), (Ob.box (AV.d (TApiLedger.e (⟨[]⟩ : TApiLedger))))] (AV.d (DV.i .i64 r352.1)) [(Ob.box (AV.d (TTreasuryplaySrc.e r352.2))), (Ob.box (AV.d (TApiLedger.e (⟨[]⟩ : TApiLedger)))), (Ob.box (AV.d (TApiLedger.e (⟨[]⟩ : TApiLedger))))]]) (by kernel_rfl) (And.intro ((F19_ok hr353).at [0] (of_decide_eq_true (by kernel_rfl)) (by kernel_rfl) (by kernel_rfl) (Nat.le_of_ble_eq_true (by kernel_rfl)) (by kernel_rfl) (by kernel_rfl) (by kernel_rfl) (by kernel_rfl)) trivial) ?_
  obtain ⟨o422, hx423, h⟩ := outM_some h
  refine aws_loop (E := (fun (_ : TTreasuryplaySrc × TApiLedger × Int × Int) => [(8, (AV.ptr 1 1 [])), (9, (AV.ptr 2 1 []))])) (LE := (fun (s399 : TTreasuryplaySrc × TApiLedger × Int × Int) => [(Ob.box (AV.d (TTreasuryplaySrc.e s399.1))), (Ob.box (AV.d (TApiLedger.e (⟨[]⟩ : TApiLedger)))), (Ob.box (AV.d (TApiLedger.e s399.2.1)))])) (R := (fun x => FR Try.prog Try.f10 (V10 x) (L10 x))) (aw_iter (m := 3) (I := (fun (s399 : TTreasuryplaySrc × TApiLedger × Int × Int) => [(0, (AV.ptr 0 1 [])), (2, (AV.d (DV.i .i64 a2))), (3, (AV.d (DV.i .i64 a3))), (8, (AV.ptr 1 1 [])), (9, (AV.ptr 2 1 [])), (10, (AV.d (DV.i .i64 s399.2.2.1))), (11, (AV.d (DV.i .i64 s399.2.2.2)))])) (LI := (fun (s399 : TTreasuryplaySrc × TApiLedger × Int × Int) => [(Ob.box (AV.d (TTreasuryplaySrc.e s399.1))), (Ob.box (AV.d (TApiLedger.e (⟨[]⟩ : TApiLedger)))), (Ob.box (AV.d (TApiLedger.e s399.2.1)))])) (step := F10_b1 a2 a3) (fun s399 _ h => aw_of ?_) (fun _ => rfl) hx423 ⟨(frLe_at (k := 0) rfl (LeV.refl _) (frLe_at (k := 1) rfl (LeV.refl _) (frLe_at (k := 2) rfl (LeV.refl _) (frLe_at (k := 3) rfl (LeV.refl _) (frLe_at (k := 4) rfl (LeV.refl _) (frLe_at (k := 5) rfl (LeV.refl _) (frLe_at (k := 6) rfl (LeV.refl _) frLe_nil))))))), .inl rfl⟩ (Nat.le_of_ble_eq_true (by kernel_rfl))) (fun _ => Nat.le_of_ble_eq_true (by kernel_rfl)) (fun x fr L e hr => ?_) (fun s399 e => ?_)
  · unfold F10_b1 at h
    refine aws_seq ?_
    refine aws_seq ?_
    refine aws_region (hs := []) (live := [0, 2, 3, 8, 9, 10, 11, 19]) (fr' := [(0, (AV.ptr 0 1 [])), (2, (AV.d (DV.i .i64 a2))), (3, (AV.d (DV.i .i64 a3))), (8, (AV.ptr 1 1 [])), (9, (AV.ptr 2 1 [])), (10, (AV.d (DV.i .i64 s399.2.2.1))), (11, (AV.d (DV.i .i64 s399.2.2.2))), (19, (AV.d (DV.b (decide (s399.2.2.2 > 0)))))]) (L' := [(Ob.box (AV.d (TTreasuryplaySrc.e s399.1))), (Ob.box (AV.d (TApiLedger.e (⟨[]⟩ : TApiLedger)))), (Ob.box (AV.d (TApiLedger.e s399.2.1)))]) (C := []) (by kernel_rfl) trivial ?_
    refine aws_cond (b := (decide (s399.2.2.2 > 0))) (by kernel_rfl) (fun hb400 => ?_) (fun hb400 => ?_)
    · replace h := iteT hb400 h
      refine aws_skip ?_
      refine aws_seq ?_
      obtain ⟨o412, hx411, h⟩ := bind_some' h
      refine aws_blockS (E := (fun (s410 : TTreasuryplaySrc × TApiLedger × Int) => [(0, (AV.ptr 0 1 [])), (2, (AV.d (DV.i .i64 a2))), (3, (AV.d (DV.i .i64 a3))), (8, (AV.ptr 1 1 [])), (9, (AV.ptr 2 1 [])), (10, (AV.d (DV.i .i64 s410.2.2))), (11, (AV.d (DV.i .i64 s399.2.2.2)))])) (LE := (fun (s410 : TTreasuryplaySrc × TApiLedger × Int) => [(Ob.box (AV.d (TTreasuryplaySrc.e s410.1))), (Ob.box (AV.d (TApiLedger.e (⟨[]⟩ : TApiLedger)))), (Ob.box (AV.d (TApiLedger.e s410.2.1)))])) (fun s => s = o412) ?_ (fun _ => Nat.le_of_ble_eq_true (by kernel_rfl)) (fun s410 hq => ?_)
      · refine aws_seq ?_
        obtain ⟨r413, hr414, hx411⟩ := bind_some' hx411
        refine aws_region (hs := [(5, { h := .callw (AV.d (DV.i .i64 r413.1)) [(0, (Ob.box (AV.d (TTreasuryplaySrc.e r413.2))))] [] })]) (live := [0, 2, 3, 8, 9, 10, 11]) (fr' := [(0, (AV.ptr 0 1 [])), (2, (AV.d (DV.i .i64 a2))), (3, (AV.d (DV.i .i64 a3))), (8, (AV.ptr 1 1 [])), (9, (AV.ptr 2 1 [])), (10, (AV.d (DV.i .i64 (if a3 < (IntKind.i64.wrap (s399.2.2.1 + r413.1)) then a3 else (IntKind.i64.wrap (s399.2.2.1 + r413.1)))))), (11, (AV.d (DV.i .i64 s399.2.2.2)))]) (L' := [(Ob.box (AV.d (TTreasuryplaySrc.e r413.2))), (Ob.box (AV.d (TApiLedger.e (⟨[]⟩ : TApiLedger)))), (Ob.box (AV.d (TApiLedger.e s399.2.1)))]) (C := [(4 : Int) ≠ 0, CallOk Try.prog 19 [(AV.ptr 0 1 []), (AV.d (DV.i .i64 (IntKind.i64.wrap ((IntKind.i64.wrap (a3.tdiv 4)) + 2))))] [(Ob.box (AV.d (TTreasuryplaySrc.e s399.1))), (Ob.box (AV.d (TApiLedger.e (⟨[]⟩ : TApiLedger)))), (Ob.box (AV.d (TApiLedger.e s399.2.1)))] (AV.d (DV.i .i64 r413.1)) [(Ob.box (AV.d (TTreasuryplaySrc.e r413.2))), (Ob.box (AV.d (TApiLedger.e (⟨[]⟩ : TApiLedger)))), (Ob.box (AV.d (TApiLedger.e s399.2.1)))]]) (by kernel_rfl) (And.intro (by decide) (And.intro ((F19_ok hr414).at [0] (of_decide_eq_true (by kernel_rfl)) (by kernel_rfl) (by kernel_rfl) (Nat.le_of_ble_eq_true (by kernel_rfl)) (by kernel_rfl) (by kernel_rfl) (by kernel_rfl) (by kernel_rfl)) trivial)) ?_
        refine aws_seq ?_
        refine aws_shift (H := NoH) (L' := [(Ob.box (AV.d (TTreasuryplaySrc.e r413.2))), (Ob.box (AV.d (TApiLedger.e (⟨[]⟩ : TApiLedger)))), (Ob.box (AV.d (TApiLedger.e s399.2.1))), Ob.unb]) shift_unb (trF_refl _) ?_
        obtain ⟨r417, hr419, hx411⟩ := bind_some' hx411
        obtain ⟨r418, hr420, hx411⟩ := bind_some' hx411
        refine aws_drawn (D := ⟨[[], [], [], [2], [3, 2], [4, 3, 2], [], [], [7, 6, 5, 4, 3, 2, 1], [8, 7, 6, 5, 4, 3, 2, 1, 0], [9, 8, 7, 6, 5, 4, 3, 2, 1, 0], [10, 9, 8, 7, 6, 5, 4, 3, 2, 1, 0], [10, 9, 8, 7, 6, 5, 4, 3, 2, 1, 0], [], [13, 11, 10, 9, 8, 7, 6, 5, 4, 3, 2, 1, 0], [14, 13, 12, 11, 10, 9, 8, 7, 6, 5, 4, 3, 2, 1, 0]], [8, 13, 14]⟩) (hs := [(8, { h := .callw (AV.d (TApiPosting.e r417.1)) [(0, (Ob.box (AV.d (TTreasuryplaySrc.e r417.2))))] [] }), (9, { h := .callq (AV.tup [(AV.d (TApiLedger.e r418.1)), (AV.d (DV.i .i64 r418.2))]) }), (13, { h := .born 3 false, obs := [(3, (Ob.box (AV.d (TApiLedger.e (⟨[]⟩ : TApiLedger)))))] })]) (live := [0, 2, 3, 8, 9, 10, 11, 12, 13]) (fr' := [(0, (AV.ptr 0 1 [])), (2, (AV.d (DV.i .i64 a2))), (3, (AV.d (DV.i .i64 a3))), (8, (AV.ptr 1 1 [])), (9, (AV.ptr 2 1 [])), (10, (AV.d (DV.i .i64 (if a3 < (IntKind.i64.wrap (s399.2.2.1 + r413.1)) then a3 else (IntKind.i64.wrap (s399.2.2.1 + r413.1)))))), (11, (AV.d (DV.i .i64 s399.2.2.2))), (12, (AV.ptr 3 1 [])), (13, (AV.d (DV.i .i64 r418.2)))]) (L' := [(Ob.box (AV.d (TTreasuryplaySrc.e r417.2))), (Ob.box (AV.d (TApiLedger.e (⟨[]⟩ : TApiLedger)))), (Ob.box (AV.d (TApiLedger.e s399.2.1))), (Ob.box (AV.d (TApiLedger.e r418.1)))]) (C := [CallOk Try.prog 20 [(AV.ptr 0 1 []), (AV.d (DV.i .i64 (IntKind.i64.wrap ((s399.2.1.Postings.length : Int) + 1)))), (AV.d (DV.i .i64 (if a3 < (IntKind.i64.wrap (s399.2.2.1 + r413.1)) then a3 else (IntKind.i64.wrap (s399.2.2.1 + r413.1))))), (AV.d (DV.i .i64 a2))] [(Ob.box (AV.d (TTreasuryplaySrc.e r413.2))), (Ob.box (AV.d (TApiLedger.e (⟨[]⟩ : TApiLedger)))), (Ob.box (AV.d (TApiLedger.e s399.2.1))), Ob.unb] (AV.d (TApiPosting.e r417.1)) [(Ob.box (AV.d (TTreasuryplaySrc.e r417.2))), (Ob.box (AV.d (TApiLedger.e (⟨[]⟩ : TApiLedger)))), (Ob.box (AV.d (TApiLedger.e s399.2.1))), Ob.unb], CallOk Try.prog 20 [(AV.ptr 0 1 []), (AV.d (DV.i .i64 (IntKind.i64.wrap ((s399.2.1.Postings.length : Int) + 1)))), (AV.d (DV.i .i64 (if a3 < (IntKind.i64.wrap (s399.2.2.1 + r413.1)) then a3 else (IntKind.i64.wrap (s399.2.2.1 + r413.1))))), (AV.d (DV.i .i64 a2))] [(Ob.box (AV.d (TTreasuryplaySrc.e r413.2))), (Ob.box (AV.d (TApiLedger.e (⟨[]⟩ : TApiLedger)))), (Ob.box (AV.d (TApiLedger.e s399.2.1))), (Ob.box (AV.d (TApiLedger.e (⟨[]⟩ : TApiLedger))))] (AV.d (TApiPosting.e r417.1)) [(Ob.box (AV.d (TTreasuryplaySrc.e r417.2))), (Ob.box (AV.d (TApiLedger.e (⟨[]⟩ : TApiLedger)))), (Ob.box (AV.d (TApiLedger.e s399.2.1))), (Ob.box (AV.d (TApiLedger.e (⟨[]⟩ : TApiLedger))))], ∀ L, CallOk Try.prog 16 [(AV.d (TApiLedger.e s399.2.1)), (AV.d (TApiPosting.e r417.1))] L (AV.tup [(AV.d (TApiLedger.e r418.1)), (AV.d (DV.i .i64 r418.2))]) L, ∀ L, CallOk Try.prog 16 [(AV.d (TApiLedger.e s399.2.1)), (AV.d (TApiPosting.e r417.1))] L (AV.tup [(AV.d (TApiLedger.e r418.1)), (AV.d (DV.i .i64 r418.2))]) L, OLe (Ob.box (AV.d (DV.agg [(DV.sl 0 fun _ => DV.b false)]))) (Ob.box (AV.d (TApiLedger.e (⟨[]⟩ : TApiLedger)))), OLe (Ob.box (AV.d (DV.agg [(DV.sl 0 fun _ => DV.b false)]))) (Ob.box (AV.d (TApiLedger.e (⟨[]⟩ : TApiLedger))))]) (by kernel_rfl) (by kernel_rfl) (by kernel_rfl) (And.intro ((F20_ok hr419).at [0] (of_decide_eq_true (by kernel_rfl)) (by kernel_rfl) (by kernel_rfl) (Nat.le_of_ble_eq_true (by kernel_rfl)) (by kernel_rfl) (by kernel_rfl) (by kernel_rfl) (by kernel_rfl)) (And.intro ((F20_ok hr419).at [0] (of_decide_eq_true (by kernel_rfl)) (by kernel_rfl) (by kernel_rfl) (Nat.le_of_ble_eq_true (by kernel_rfl)) (by kernel_rfl) (by kernel_rfl) (by kernel_rfl) (by kernel_rfl)) (And.intro (fun L => (F16_ok hr420).pure (fun _ => rfl) (fun _ => rfl) L) (And.intro (fun L => (F16_ok hr420).pure (fun _ => rfl) (fun _ => rfl) L) (And.intro (oLe_box (DLe.agg (DLeL.cons DLe.sl0 DLeL.nil))) (And.intro (oLe_box (DLe.agg (DLeL.cons DLe.sl0 DLeL.nil))) trivial)))))) ?_
        refine aws_seq ?_
        refine aws_region (hs := []) (live := [0, 2, 3, 8, 9, 10, 11, 12, 45]) (fr' := [(0, (AV.ptr 0 1 [])), (2, (AV.d (DV.i .i64 a2))), (3, (AV.d (DV.i .i64 a3))), (8, (AV.ptr 1 1 [])), (9, (AV.ptr 2 1 [])), (10, (AV.d (DV.i .i64 (if a3 < (IntKind.i64.wrap (s399.2.2.1 + r413.1)) then a3 else (IntKind.i64.wrap (s399.2.2.1 + r413.1)))))), (11, (AV.d (DV.i .i64 s399.2.2.2))), (12, (AV.ptr 3 1 [])), (45, (AV.d (DV.b (r418.2 == 0))))]) (L' := [(Ob.box (AV.d (TTreasuryplaySrc.e r417.2))), (Ob.box (AV.d (TApiLedger.e (⟨[]⟩ : TApiLedger)))), (Ob.box (AV.d (TApiLedger.e s399.2.1))), (Ob.box (AV.d (TApiLedger.e r418.1)))]) (C := []) (by kernel_rfl) trivial ?_
        refine aws_cond (b := (r418.2 == 0)) (by kernel_rfl) (fun hb421 => ?_) (fun hb421 => ?_)
        · replace hx411 := iteT hb421 hx411
          refine aws_region (hs := []) (live := [0, 2, 3, 8, 9, 10, 11]) (fr' := [(0, (AV.ptr 0 1 [])), (2, (AV.d (DV.i .i64 a2))), (3, (AV.d (DV.i .i64 a3))), (8, (AV.ptr 1 1 [])), (9, (AV.ptr 2 1 [])), (10, (AV.d (DV.i .i64 (if a3 < (IntKind.i64.wrap (s399.2.2.1 + r413.1)) then a3 else (IntKind.i64.wrap (s399.2.2.1 + r413.1)))))), (11, (AV.d (DV.i .i64 s399.2.2.2)))]) (L' := [(Ob.box (AV.d (TTreasuryplaySrc.e r417.2))), (Ob.box (AV.d (TApiLedger.e (⟨[]⟩ : TApiLedger)))), (Ob.box (AV.d (TApiLedger.e r418.1))), (Ob.box (AV.d (TApiLedger.e r418.1)))]) (C := []) (by kernel_rfl) trivial ?_
          refine aws_nil ?_
          obtain rfl := Option.some.inj hx411
          exact ⟨_, rfl, ⟨(frLe_at (k := 0) rfl (LeV.refl _) (frLe_at (k := 1) rfl (LeV.refl _) (frLe_at (k := 2) rfl (LeV.refl _) (frLe_at (k := 3) rfl (LeV.refl _) (frLe_at (k := 4) rfl (LeV.refl _) (frLe_at (k := 5) rfl (LeV.refl _) (frLe_at (k := 6) rfl (LeV.refl _) frLe_nil))))))), .inr ⟨⟨[(Ob.box (AV.d (TApiLedger.e r418.1)))], rfl, lsOk (And.intro rfl (And.intro rfl (And.intro rfl trivial)))⟩, List.all_eq_true.1 (by kernel_rfl)⟩⟩⟩
        · replace hx411 := iteF hb421 hx411
          refine aws_skip ?_
          refine aws_nil ?_
          obtain rfl := Option.some.inj hx411
          exact ⟨_, rfl, ⟨(frLe_at (k := 0) rfl (LeV.refl _) (frLe_at (k := 1) rfl (LeV.refl _) (frLe_at (k := 2) rfl (LeV.refl _) (frLe_at (k := 3) rfl (LeV.refl _) (frLe_at (k := 4) rfl (LeV.refl _) (frLe_at (k := 5) rfl (LeV.refl _) (frLe_at (k := 6) rfl (LeV.refl _) frLe_nil))))))), .inr ⟨⟨[(Ob.box (AV.d (TApiLedger.e r418.1)))], rfl, lsOk (And.intro rfl (And.intro rfl (And.intro rfl trivial)))⟩, List.all_eq_true.1 (by kernel_rfl)⟩⟩⟩
      · subst hq
        refine aws_region (hs := []) (live := [0, 2, 3, 8, 9, 10, 11]) (fr' := [(0, (AV.ptr 0 1 [])), (2, (AV.d (DV.i .i64 a2))), (3, (AV.d (DV.i .i64 a3))), (8, (AV.ptr 1 1 [])), (9, (AV.ptr 2 1 [])), (10, (AV.d (DV.i .i64 s410.2.2))), (11, (AV.d (DV.i .i64 (IntKind.i64.wrap (s399.2.2.2 - 1)))))]) (L' := [(Ob.box (AV.d (TTreasuryplaySrc.e s410.1))), (Ob.box (AV.d (TApiLedger.e (⟨[]⟩ : TApiLedger)))), (Ob.box (AV.d (TApiLedger.e s410.2.1)))]) (C := []) (by kernel_rfl) trivial ?_
        refine aws_nil ?_
        obtain rfl := Option.some.inj h
        exact ⟨_, rfl, ⟨(frLe_at (k := 0) rfl (LeV.refl _) (frLe_at (k := 1) rfl (LeV.refl _) (frLe_at (k := 2) rfl (LeV.refl _) (frLe_at (k := 3) rfl (LeV.refl _) (frLe_at (k := 4) rfl (LeV.refl _) (frLe_at (k := 5) rfl (LeV.refl _) (frLe_at (k := 6) rfl (LeV.refl _) frLe_nil))))))), .inl rfl⟩⟩
    · replace h := iteF hb400 h
      refine aws_exit ?_
      obtain rfl := Option.some.inj h
      exact ⟨rfl, _, rfl, ⟨(frLe_at (k := 3) rfl (LeV.refl _) (frLe_at (k := 4) rfl (LeV.refl _) frLe_nil)), .inl rfl⟩⟩
  · subst e
    exact nomatch (show (none : Option _) = some _ from h)
  · subst e
    refine aws_seq ?_
    refine aws_region (hs := []) (live := [8]) (fr' := [(8, (AV.ptr 1 1 []))]) (L' := [(Ob.box (AV.d (TTreasuryplaySrc.e s399.1))), (Ob.box (AV.d (TApiLedger.e s399.2.1))), (Ob.box (AV.d (TApiLedger.e s399.2.1)))]) (C := []) (by kernel_rfl) trivial ?_
    refine aws_ret ?_
    obtain rfl := Option.some.inj h
    exact ⟨.inr rfl, ⟨_, [], [(Ob.box (AV.d (TApiLedger.e s399.2.1))), (Ob.box (AV.d (TApiLedger.e s399.2.1)))], by kernel_rfl, trivial, (LeV.refl _), rfl⟩⟩

/-! 67 -/
theorem F67_ok {a0 : Int} {a1 : Int} {a2 : Int} {r : R67} (h : F67 a0 a1 a2 = some r) : CallOk Try.prog 67 [(AV.d (DV.i .i64 a0)), (AV.d (DV.i .i64 a1)), (AV.d (DV.i .i64 a2))] [] (V67 r) (L67 r) := by
  refine callOk_of_aw Try.func67 rfl (Nat.le_of_ble_eq_true (by kernel_rfl)) (Nat.le_of_ble_eq_true (by kernel_rfl)) rfl (lsOk trivial) (aw_of (Q := FQ Try.prog Try.f67 _ _) ?_)
  unfold F67 at h
  refine aws_seq ?_
  refine aws_region (hs := []) (live := [0, 1, 2]) (fr' := [(0, (AV.d (DV.i .i64 a0))), (1, (AV.d (DV.i .i64 a1))), (2, (AV.d (DV.i .i64 a2)))]) (L' := []) (C := []) (by kernel_rfl) trivial ?_
  refine aws_seq ?_
  refine aws_region (hs := []) (live := [6]) (fr' := [(6, (AV.d (DV.b (bif (decide (a0 ≥ a1)) then (decide (a0 ≤ a2)) else false))))]) (L' := []) (C := []) (by kernel_rfl) trivial ?_
  refine aws_ret ?_
  obtain rfl := Option.some.inj h
  exact ⟨.inr rfl, ⟨_, [], [], by kernel_rfl, trivial, (LeV.refl _), rfl⟩⟩

/-! 68 -/
theorem F68_ok {a0 : Int} {r : R68} (h : F68 a0 = some r) : CallOk Try.prog 68 [(AV.d (DV.i .i64 a0))] [] (V68 r) (L68 r) := by
  refine callOk_of_aw Try.func68 rfl (Nat.le_of_ble_eq_true (by kernel_rfl)) (Nat.le_of_ble_eq_true (by kernel_rfl)) rfl (lsOk trivial) (aw_of (Q := FQ Try.prog Try.f68 _ _) ?_)
  unfold F68 at h
  refine aws_seq ?_
  refine aws_region (hs := []) (live := [0]) (fr' := [(0, (AV.d (DV.i .i64 a0)))]) (L' := []) (C := []) (by kernel_rfl) trivial ?_
  refine aws_seq ?_
  obtain ⟨r438, hr439, h⟩ := bind_some' h
  refine aws_region (hs := [(1, { h := .callq (AV.d (DV.b r438)) })]) (live := [2]) (fr' := [(2, (AV.d (DV.b r438)))]) (L' := []) (C := [∀ L, CallOk Try.prog 67 [(AV.d (DV.i .i64 a0)), (AV.d (DV.i .i64 1)), (AV.d (DV.i .i64 10))] L (AV.d (DV.b r438)) L]) (by kernel_rfl) (And.intro (fun L => (F67_ok hr439).pure (fun _ => rfl) (fun _ => rfl) L) trivial) ?_
  refine aws_ret ?_
  obtain rfl := Option.some.inj h
  exact ⟨.inr rfl, ⟨_, [], [], by kernel_rfl, trivial, (LeV.refl _), rfl⟩⟩

/-! 69 -/
theorem F69_ok {a0 : Int} {r : R69} (h : F69 a0 = some r) : CallOk Try.prog 69 [(AV.d (DV.i .i64 a0))] [] (V69 r) (L69 r) := by
  refine callOk_of_aw Try.func69 rfl (Nat.le_of_ble_eq_true (by kernel_rfl)) (Nat.le_of_ble_eq_true (by kernel_rfl)) rfl (lsOk trivial) (aw_of (Q := FQ Try.prog Try.f69 _ _) ?_)
  unfold F69 at h
  refine aws_seq ?_
  refine aws_region (hs := []) (live := [0]) (fr' := [(0, (AV.d (DV.i .i64 a0)))]) (L' := []) (C := []) (by kernel_rfl) trivial ?_
  refine aws_seq ?_
  refine aws_seq ?_
  obtain ⟨r445, hr446, h⟩ := bind_some' h
  refine aws_region (hs := [(1, { h := .callq (AV.d (DV.b r445)) })]) (live := [0, 5]) (fr' := [(0, (AV.d (DV.i .i64 a0))), (5, (AV.d (DV.b (!r445))))]) (L' := []) (C := [∀ L, CallOk Try.prog 67 [(AV.d (DV.i .i64 a0)), (AV.d (DV.i .i64 100)), (AV.d (DV.i .i64 599))] L (AV.d (DV.b r445)) L]) (by kernel_rfl) (And.intro (fun L => (F67_ok hr446).pure (fun _ => rfl) (fun _ => rfl) L) trivial) ?_
  refine aws_cond (b := (!r445)) (by kernel_rfl) (fun hb447 => ?_) (fun hb447 => ?_)
  · replace h := iteT hb447 h
    refine aws_seq ?_
    refine aws_region (hs := []) (live := [2]) (fr' := [(2, (AV.d (DV.i .i64 0)))]) (L' := []) (C := []) (by kernel_rfl) trivial ?_
    refine aws_ret ?_
    obtain rfl := Option.some.inj h
    exact ⟨.inr rfl, ⟨_, [], [], by kernel_rfl, trivial, (LeV.refl _), rfl⟩⟩
  · replace h := iteF hb447 h
    refine aws_skip ?_
    refine aws_seq ?_
    refine aws_region (hs := []) (live := [2]) (fr' := [(2, (AV.d (DV.i .i64 (IntKind.i64.wrap (a0.tdiv 100)))))]) (L' := []) (C := [(100 : Int) ≠ 0]) (by kernel_rfl) (And.intro (by decide) trivial) ?_
    refine aws_ret ?_
    obtain rfl := Option.some.inj h
    exact ⟨.inr rfl, ⟨_, [], [], by kernel_rfl, trivial, (LeV.refl _), rfl⟩⟩

/-! 63 -/
theorem F63_ok {a0 : TApiPosting} {r : R63} (h : F63 a0 = some r) : CallOk Try.prog 63 [(AV.d (TApiPosting.e a0))] [] (V63 r) (L63 r) := by
  refine callOk_of_aw Try.func63 rfl (Nat.le_of_ble_eq_true (by kernel_rfl)) (Nat.le_of_ble_eq_true (by kernel_rfl)) rfl (lsOk trivial) (aw_of (Q := FQ Try.prog Try.f63 _ _) ?_)
  unfold F63 at h
  refine aws_seq ?_
  refine aws_region (hs := []) (live := [1]) (fr' := [(1, (AV.ptr 0 1 []))]) (L' := [(Ob.box (AV.d (TApiPosting.e a0)))]) (C := []) (by kernel_rfl) trivial ?_
  refine aws_seq ?_
  obtain ⟨r458, hr459, h⟩ := bind_some' h
  obtain ⟨r460, hr461, h⟩ := bind_some' h
  obtain ⟨r462, hr463, h⟩ := bind_some' h
  obtain ⟨r464, hr465, h⟩ := bind_some' h
  obtain ⟨r466, hr467, h⟩ := bind_some' h
  obtain ⟨r468, hr469, h⟩ := bind_some' h
  obtain ⟨r470, hr471, h⟩ := bind_some' h
  obtain ⟨r472, hr473, h⟩ := bind_some' h
  refine aws_region (hs := [(2, { h := .callq (AV.d (DV.b r458)) }), (6, { h := .callq (AV.d (DV.b r460)) }), (11, { h := .callq (AV.d (DV.b r462)) }), (16, { h := .callq (AV.d (DV.i .i64 r464)) }), (22, { h := .callq (AV.d (DV.i .i64 r466)) }), (35, { h := .callq (AV.d (DV.b r468)) }), (40, { h := .callq (AV.d (DV.b r470)) }), (52, { h := .callq (AV.d (DV.b r472)) })]) (live := [2]) (fr' := [(2, (AV.d (DV.b (bif (bif (bif (bif (bif (bif (bif (bif (bif r458 then r460 else false) then r462 else false) then (decide (r464 > 0)) else false) then (decide (r466 > 0)) else false) then (a0.Debit != a0.Credit) else false) then r468 else false) then r470 else false) then (a0.Partner != a0.Entity) else false) then r472 else false))))]) (L' := [(Ob.box (AV.d (TApiPosting.e a0)))]) (C := [∀ L, CallOk Try.prog 67 [(AV.d (DV.i .i64 a0.Number)), (AV.d (DV.i .i64 1)), (AV.d (DV.i .i64 1000000))] L (AV.d (DV.b r458)) L, AllP [r458 = true] → (∀ L, CallOk Try.prog 67 [(AV.d (DV.i .i64 a0.Day)), (AV.d (DV.i .i64 0)), (AV.d (DV.i .i64 36000))] L (AV.d (DV.b r460)) L), AllP [(bif r458 then r460 else false) = true] → (∀ L, CallOk Try.prog 68 [(AV.d (DV.i .i64 a0.Entity))] L (AV.d (DV.b r462)) L), AllP [(bif (bif r458 then r460 else false) then r462 else false) = true] → (∀ L, CallOk Try.prog 69 [(AV.d (DV.i .i64 a0.Debit))] L (AV.d (DV.i .i64 r464)) L), AllP [(bif (bif (bif r458 then r460 else false) then r462 else false) then (decide (r464 > 0)) else false) = true] → (∀ L, CallOk Try.prog 69 [(AV.d (DV.i .i64 a0.Credit))] L (AV.d (DV.i .i64 r466)) L), AllP [(bif (bif (bif (bif (bif r458 then r460 else false) then r462 else false) then (decide (r464 > 0)) else false) then (decide (r466 > 0)) else false) then (a0.Debit != a0.Credit) else false) = true] → (∀ L, CallOk Try.prog 67 [(AV.d (DV.i .i64 a0.Amount)), (AV.d (DV.i .i64 1)), (AV.d (DV.i .i64 1000000000000))] L (AV.d (DV.b r468)) L), AllP [(bif (bif (bif (bif (bif (bif r458 then r460 else false) then r462 else false) then (decide (r464 > 0)) else false) then (decide (r466 > 0)) else false) then (a0.Debit != a0.Credit) else false) then r468 else false) = true] → (∀ L, CallOk Try.prog 67 [(AV.d (DV.i .i64 a0.Partner)), (AV.d (DV.i .i64 0)), (AV.d (DV.i .i64 10))] L (AV.d (DV.b r470)) L), AllP [(bif (bif (bif (bif (bif (bif (bif (bif r458 then r460 else false) then r462 else false) then (decide (r464 > 0)) else false) then (decide (r466 > 0)) else false) then (a0.Debit != a0.Credit) else false) then r468 else false) then r470 else false) then (a0.Partner != a0.Entity) else false) = true] → (∀ L, CallOk Try.prog 67 [(AV.d (DV.i .i64 a0.Ref)), (AV.d (DV.i .i64 0)), (AV.d (DV.i .i64 1000000))] L (AV.d (DV.b r472)) L)]) (by kernel_rfl) (And.intro (fun L => (F67_ok hr459).pure (fun _ => rfl) (fun _ => rfl) L) (And.intro (fun hg => fun L => (F67_ok (optP_some hr461 hg)).pure (fun _ => rfl) (fun _ => rfl) L) (And.intro (fun hg => fun L => (F68_ok (optP_some hr463 hg)).pure (fun _ => rfl) (fun _ => rfl) L) (And.intro (fun hg => fun L => (F69_ok (optP_some hr465 hg)).pure (fun _ => rfl) (fun _ => rfl) L) (And.intro (fun hg => fun L => (F69_ok (optP_some hr467 hg)).pure (fun _ => rfl) (fun _ => rfl) L) (And.intro (fun hg => fun L => (F67_ok (optP_some hr469 hg)).pure (fun _ => rfl) (fun _ => rfl) L) (And.intro (fun hg => fun L => (F67_ok (optP_some hr471 hg)).pure (fun _ => rfl) (fun _ => rfl) L) (And.intro (fun hg => fun L => (F67_ok (optP_some hr473 hg)).pure (fun _ => rfl) (fun _ => rfl) L) trivial)))))))) ?_
  refine aws_ret ?_
  obtain rfl := Option.some.inj h
  exact ⟨.inr rfl, ⟨_, [], [(Ob.box (AV.d (TApiPosting.e a0)))], by kernel_rfl, trivial, (LeV.refl _), rfl⟩⟩

/-! 62 -/
theorem F62_ok {a0 : TApiPosting} {r : R62} (h : F62 a0 = some r) : CallOk Try.prog 62 [(AV.d (TApiPosting.e a0))] [] (V62 r) (L62 r) := by
  refine callOk_of_aw Try.func62 rfl (Nat.le_of_ble_eq_true (by kernel_rfl)) (Nat.le_of_ble_eq_true (by kernel_rfl)) rfl (lsOk trivial) (aw_of (Q := FQ Try.prog Try.f62 _ _) ?_)
  unfold F62 at h
  refine aws_seq ?_
  refine aws_region (hs := []) (live := [1]) (fr' := [(1, (AV.ptr 0 1 []))]) (L' := [(Ob.box (AV.d (TApiPosting.e a0)))]) (C := []) (by kernel_rfl) trivial ?_
  refine aws_seq ?_
  obtain ⟨r476, hr477, h⟩ := bind_some' h
  refine aws_region (hs := [(1, { h := .callq (AV.d (DV.b r476)) })]) (live := [2]) (fr' := [(2, (AV.d (DV.b (!r476))))]) (L' := [(Ob.box (AV.d (TApiPosting.e a0)))]) (C := [∀ L, CallOk Try.prog 63 [(AV.d (TApiPosting.e a0))] L (AV.d (DV.b r476)) L]) (by kernel_rfl) (And.intro (fun L => (F63_ok hr477).pure (fun _ => rfl) (fun _ => rfl) L) trivial) ?_
  refine aws_ret ?_
  obtain rfl := Option.some.inj h
  exact ⟨.inr rfl, ⟨_, [], [(Ob.box (AV.d (TApiPosting.e a0)))], by kernel_rfl, trivial, (LeV.refl _), rfl⟩⟩

/-! 66 -/
theorem F66_62_ok {a0 : (List TApiPosting)} {r : R66_62} (h : F66_62 a0 = some r) : CallOk Try.prog 66 [(AV.d (eL TApiPosting.e a0)), (AV.fn 62 [])] [] (V66_62 r) (L66_62 r) := by
  refine callOk_of_aw Try.func66 rfl (Nat.le_of_ble_eq_true (by kernel_rfl)) (Nat.le_of_ble_eq_true (by kernel_rfl)) rfl (lsOk trivial) (aw_of (Q := FQ Try.prog Try.f66 _ _) ?_)
  unfold F66_62 at h
  refine aws_seq ?_
  refine aws_region (hs := []) (live := [0, 1]) (fr' := [(0, (AV.d (eL TApiPosting.e a0))), (1, (AV.fn 62 []))]) (L' := []) (C := []) (by kernel_rfl) trivial ?_
  refine aws_seq ?_
  refine aws_seq ?_
  refine aws_region (hs := []) (live := [0, 1, 7, 8]) (fr' := [(0, (AV.d (eL TApiPosting.e a0))), (1, (AV.fn 62 [])), (7, (AV.d (DV.i .i64 (a0.length : Int)))), (8, (AV.d (DV.i .i64 0)))]) (L' := []) (C := []) (by kernel_rfl) trivial ?_
  obtain ⟨o524, hx525, h⟩ := outM_some h
  refine aws_lenL (k := 0) (t := 0) (e := TApiPosting.e) (l := a0) rfl (by simp) (fun hn => ?_)
  refine aws_loop (E := (fun (_ : Unit) => [])) (LE := (fun (_ : Unit) => [])) (R := (fun x => FR Try.prog Try.f66 (V66_62 x) (L66_62 x))) (aw_range (n := a0.length) (m := 0) (I := (fun (i502 : Nat) (_ : Unit) => [(0, (AV.d (eL TApiPosting.e a0))), (1, (AV.fn 62 [])), (7, (AV.d (DV.i .i64 (a0.length : Int)))), (8, (AV.d (DV.i .i64 (i502 : Int))))])) (LI := (fun (_ : Nat) => (fun (_ : Unit) => []))) (body := F66_62_b1 a0) (fun i502 _ _ hi h => aw_of ?_) (fun _ => aw_of ?_) (fun _ _ => rfl) (Nat.zero_add _) hx525 ⟨(frLe_at (k := 0) rfl (LeV.refl _) (frLe_at (k := 1) rfl (LeV.refl _) (frLe_at (k := 2) rfl (LeV.refl _) (frLe_at (k := 3) rfl (LeV.refl _) frLe_nil)))), .inl rfl⟩ (Nat.le_of_ble_eq_true (by kernel_rfl))) (fun _ => Nat.le_of_ble_eq_true (by kernel_rfl)) (fun x fr L e hr => ?_) (fun _ e => ?_)
  · unfold F66_62_b1 at h
    refine aws_seq ?_
    refine aws_region (hs := []) (live := [0, 1, 7, 8, 9]) (fr' := [(0, (AV.d (eL TApiPosting.e a0))), (1, (AV.fn 62 [])), (7, (AV.d (DV.i .i64 (a0.length : Int)))), (8, (AV.d (DV.i .i64 (i502 : Int)))), (9, (AV.d (DV.b (decide ((i502 : Int) < (a0.length : Int))))))]) (L' := []) (C := []) (by kernel_rfl) trivial ?_
    refine aws_seq ?_
    refine aws_cond (b := (decide ((i502 : Int) < (a0.length : Int)))) (by kernel_rfl) (fun hb514 => ?_) (fun hb514 => absurd (hb514.symm.trans (decide_eq_true (by omega))) Bool.false_ne_true)
    refine aws_skip ?_
    refine aws_seq ?_
    obtain ⟨o520, hx519, h⟩ := outM_some h
    refine aws_blockS (E := (fun (_ : Unit) => [(0, (AV.d (eL TApiPosting.e a0))), (1, (AV.fn 62 [])), (7, (AV.d (DV.i .i64 (a0.length : Int)))), (8, (AV.d (DV.i .i64 (i502 : Int))))])) (LE := (fun (_ : Unit) => [])) (fun s => o520 = .next s) ?_ (fun _ => Nat.le_of_ble_eq_true (by kernel_rfl)) (fun _ hq => ?_)
    · refine aws_seq ?_
      refine aws_region (hs := []) (live := [0, 1, 5, 7, 8]) (fr' := [(0, (AV.d (eL TApiPosting.e a0))), (1, (AV.fn 62 [])), (5, (AV.d (DV.i .i64 (i502 : Int)))), (7, (AV.d (DV.i .i64 (a0.length : Int)))), (8, (AV.d (DV.i .i64 (i502 : Int))))]) (L' := []) (C := []) (by kernel_rfl) trivial ?_
      refine aws_seq ?_
      obtain ⟨r521, hr522, hx519⟩ := bind_some' hx519
      refine aws_region (hs := [(5, { h := .callq (AV.d (DV.b r521)) })]) (live := [0, 1, 5, 7, 8, 16]) (fr' := [(0, (AV.d (eL TApiPosting.e a0))), (1, (AV.fn 62 [])), (5, (AV.d (DV.i .i64 (i502 : Int)))), (7, (AV.d (DV.i .i64 (a0.length : Int)))), (8, (AV.d (DV.i .i64 (i502 : Int)))), (16, (AV.d (DV.b r521)))]) (L' := []) (C := [(0 : Int) ≤ (i502 : Int), i502 < a0.length, ∀ L, CallOk Try.prog 62 [(AV.d (TApiPosting.e (a0.getD i502 default)))] L (AV.d (DV.b r521)) L]) (by kernel_rfl) (And.intro (Int.natCast_nonneg _) (And.intro hi (And.intro (fun L => (F62_ok hr522).pure (fun _ => rfl) (fun _ => rfl) L) trivial))) ?_
      refine aws_cond (b := r521) (by kernel_rfl) (fun hb523 => ?_) (fun hb523 => ?_)
      · replace hx519 := iteT hb523 hx519
        refine aws_seq ?_
        refine aws_region (hs := []) (live := [4]) (fr' := [(4, (AV.d (DV.i .i64 (i502 : Int))))]) (L' := []) (C := []) (by kernel_rfl) trivial ?_
        refine aws_ret ?_
        obtain rfl := Option.some.inj hx519
        obtain rfl := Option.some.inj h
        exact ⟨_, rfl, ⟨_, [], [], by kernel_rfl, trivial, (LeV.refl _), rfl⟩⟩
      · replace hx519 := iteF hb523 hx519
        refine aws_skip ?_
        refine aws_nil ?_
        obtain rfl := Option.some.inj hx519
        exact ⟨_, rfl, ⟨(frLe_at (k := 0) rfl (LeV.refl _) (frLe_at (k := 1) rfl (LeV.refl _) (frLe_at (k := 3) rfl (LeV.refl _) (frLe_at (k := 4) rfl (LeV.refl _) frLe_nil)))), .inl rfl⟩⟩
    · subst hq
      refine aws_region (hs := []) (live := [0, 1, 7, 8]) (fr' := [(0, (AV.d (eL TApiPosting.e a0))), (1, (AV.fn 62 [])), (7, (AV.d (DV.i .i64 (a0.length : Int)))), (8, (AV.d (DV.i .i64 (IntKind.i64.wrap ((i502 : Int) + 1)))))]) (L' := []) (C := []) (by kernel_rfl) trivial ?_
      refine aws_nil ?_
      obtain rfl := Option.some.inj h
      exact ⟨_, rfl, ⟨(frLe_at (k := 0) rfl (LeV.refl _) (frLe_at (k := 1) rfl (LeV.refl _) (frLe_at (k := 2) rfl (LeV.refl _) (frLe_at (k := 3) rfl (LeV.of_eq (congrArg (fun n => AV.d (DV.i .i64 n)) (wrap_succ (by omega)))) frLe_nil)))), .inl rfl⟩⟩
  · refine aws_seq ?_
    refine aws_region (hs := []) (live := [0, 1, 7, 8, 9]) (fr' := [(0, (AV.d (eL TApiPosting.e a0))), (1, (AV.fn 62 [])), (7, (AV.d (DV.i .i64 (a0.length : Int)))), (8, (AV.d (DV.i .i64 ((a0.length : Nat) : Int)))), (9, (AV.d (DV.b (decide (((a0.length : Nat) : Int) < (a0.length : Int))))))]) (L' := []) (C := []) (by kernel_rfl) trivial ?_
    refine aws_seq ?_
    refine aws_cond (b := (decide (((a0.length : Nat) : Int) < (a0.length : Int)))) (by kernel_rfl) (fun hb527 => absurd hb527 (Bool.eq_false_iff.mp (decide_eq_false (by omega)))) (fun hb527 => ?_)
    refine aws_exit ?_
    exact ⟨rfl, _, rfl, ⟨frLe_nil, .inl rfl⟩⟩
  · subst e
    obtain rfl := Option.some.inj h
    exact ⟨.inr rfl, hr⟩
  · subst e
    refine aws_seq ?_
    refine aws_region (hs := []) (live := [4]) (fr' := [(4, (AV.d (DV.i .i64 (-1))))]) (L' := []) (C := []) (by kernel_rfl) trivial ?_
    refine aws_ret ?_
    obtain rfl := Option.some.inj h
    exact ⟨.inr rfl, ⟨_, [], [], by kernel_rfl, trivial, (LeV.refl _), rfl⟩⟩

/-! 61 -/
theorem F61_62_ok {a0 : (List TApiPosting)} {r : R61_62} (h : F61_62 a0 = some r) : CallOk Try.prog 61 [(AV.d (eL TApiPosting.e a0)), (AV.fn 62 [])] [] (V61_62 r) (L61_62 r) := by
  refine callOk_of_aw Try.func61 rfl (Nat.le_of_ble_eq_true (by kernel_rfl)) (Nat.le_of_ble_eq_true (by kernel_rfl)) rfl (lsOk trivial) (aw_of (Q := FQ Try.prog Try.f61 _ _) ?_)
  unfold F61_62 at h
  refine aws_seq ?_
  refine aws_region (hs := []) (live := [0, 1]) (fr' := [(0, (AV.d (eL TApiPosting.e a0))), (1, (AV.fn 62 []))]) (L' := []) (C := []) (by kernel_rfl) trivial ?_
  refine aws_seq ?_
  obtain ⟨r530, hr531, h⟩ := bind_some' h
  refine aws_region (hs := [(2, { h := .callq (AV.d (DV.i .i64 r530)) })]) (live := [4]) (fr' := [(4, (AV.d (DV.b (decide (r530 ≥ 0)))))]) (L' := []) (C := [∀ L, CallOk Try.prog 66 [(AV.d (eL TApiPosting.e a0)), (AV.fn 62 [])] L (AV.d (DV.i .i64 r530)) L]) (by kernel_rfl) (And.intro (fun L => (F66_62_ok hr531).pure (fun _ => rfl) (fun _ => rfl) L) trivial) ?_
  refine aws_ret ?_
  obtain rfl := Option.some.inj h
  exact ⟨.inr rfl, ⟨_, [], [], by kernel_rfl, trivial, (LeV.refl _), rfl⟩⟩

/-! 50 -/
theorem F50_ok {a0 : TApiLedger} {r : R50} (h : F50 a0 = some r) : CallOk Try.prog 50 [(AV.d (TApiLedger.e a0))] [] (V50 r) (L50 r) := by
  refine callOk_of_aw Try.func50 rfl (Nat.le_of_ble_eq_true (by kernel_rfl)) (Nat.le_of_ble_eq_true (by kernel_rfl)) rfl (lsOk trivial) (aw_of (Q := FQ Try.prog Try.f50 _ _) ?_)
  unfold F50 at h
  refine aws_seq ?_
  refine aws_region (hs := []) (live := [1]) (fr' := [(1, (AV.ptr 0 1 []))]) (L' := [(Ob.box (AV.d (TApiLedger.e a0)))]) (C := []) (by kernel_rfl) trivial ?_
  refine aws_seq ?_
  obtain ⟨o574, hx573, h⟩ := outM_some h
  refine aws_blockS (E := (fun (_ : Unit) => [(1, (AV.ptr 0 1 []))])) (LE := (fun (_ : Unit) => [(Ob.box (AV.d (TApiLedger.e a0)))])) (fun s => o574 = .next s) ?_ (fun _ => Nat.le_of_ble_eq_true (by kernel_rfl)) (fun _ hq => ?_)
  · refine aws_seq ?_
    refine aws_region (hs := []) (live := [1, 5]) (fr' := [(1, (AV.ptr 0 1 [])), (5, (AV.d (DV.b (decide ((a0.Postings.length : Int) > 400)))))]) (L' := [(Ob.box (AV.d (TApiLedger.e a0)))]) (C := []) (by kernel_rfl) trivial ?_
    refine aws_cond (b := (decide ((a0.Postings.length : Int) > 400))) (by kernel_rfl) (fun hb575 => ?_) (fun hb575 => ?_)
    · replace hx573 := iteT hb575 hx573
      refine aws_seq ?_
      refine aws_region (hs := []) (live := [2]) (fr' := [(2, (AV.d (DV.i .i64 3)))]) (L' := [(Ob.box (AV.d (TApiLedger.e a0)))]) (C := []) (by kernel_rfl) trivial ?_
      refine aws_ret ?_
      obtain rfl := Option.some.inj hx573
      obtain rfl := Option.some.inj h
      exact ⟨.inr rfl, ⟨_, [], [(Ob.box (AV.d (TApiLedger.e a0)))], by kernel_rfl, trivial, (LeV.refl _), rfl⟩⟩
    · replace hx573 := iteF hb575 hx573
      refine aws_seq ?_
      obtain ⟨r576, hr577, hx573⟩ := bind_some' hx573
      refine aws_region (hs := [(2, { h := .callq (AV.d (DV.b r576)) })]) (live := [1, 10]) (fr' := [(1, (AV.ptr 0 1 [])), (10, (AV.d (DV.b r576)))]) (L' := [(Ob.box (AV.d (TApiLedger.e a0)))]) (C := [∀ L, CallOk Try.prog 61 [(AV.d (eL TApiPosting.e a0.Postings)), (AV.fn 62 [])] L (AV.d (DV.b r576)) L]) (by kernel_rfl) (And.intro (fun L => (F61_62_ok hr577).pure (fun _ => rfl) (fun _ => rfl) L) trivial) ?_
      refine aws_cond (b := r576) (by kernel_rfl) (fun hb578 => ?_) (fun hb578 => ?_)
      · replace hx573 := iteT hb578 hx573
        refine aws_seq ?_
        refine aws_region (hs := []) (live := [2]) (fr' := [(2, (AV.d (DV.i .i64 85)))]) (L' := [(Ob.box (AV.d (TApiLedger.e a0)))]) (C := []) (by kernel_rfl) trivial ?_
        refine aws_ret ?_
        obtain rfl := Option.some.inj hx573
        obtain rfl := Option.some.inj h
        exact ⟨.inr rfl, ⟨_, [], [(Ob.box (AV.d (TApiLedger.e a0)))], by kernel_rfl, trivial, (LeV.refl _), rfl⟩⟩
      · replace hx573 := iteF hb578 hx573
        refine aws_skip ?_
        refine aws_nil ?_
        obtain rfl := Option.some.inj hx573
        exact ⟨_, rfl, ⟨(frLe_at (k := 0) rfl (LeV.refl _) frLe_nil), .inl rfl⟩⟩
  · subst hq
    refine aws_seq ?_
    refine aws_seq ?_
    refine aws_region (hs := []) (live := [1, 15, 16, 17]) (fr' := [(1, (AV.ptr 0 1 [])), (15, (AV.d (eL TApiPosting.e a0.Postings))), (16, (AV.d (DV.i .i64 (a0.Postings.length : Int)))), (17, (AV.d (DV.i .i64 0)))]) (L' := [(Ob.box (AV.d (TApiLedger.e a0)))]) (C := []) (by kernel_rfl) trivial ?_
    obtain ⟨o601, hx602, h⟩ := outM_some h
    refine aws_lenL (k := 1) (t := 15) (e := TApiPosting.e) (l := a0.Postings) rfl (by simp) (fun hn => ?_)
    refine aws_loop (E := (fun (_ : Unit) => [])) (LE := (fun (_ : Unit) => [(Ob.box (AV.d (TApiLedger.e a0)))])) (R := (fun x => FR Try.prog Try.f50 (V50 x) (L50 x))) (aw_range (n := a0.Postings.length) (m := 1) (I := (fun (i579 : Nat) (_ : Unit) => [(1, (AV.ptr 0 1 [])), (15, (AV.d (eL TApiPosting.e a0.Postings))), (16, (AV.d (DV.i .i64 (a0.Postings.length : Int)))), (17, (AV.d (DV.i .i64 (i579 : Int))))])) (LI := (fun (_ : Nat) => (fun (_ : Unit) => [(Ob.box (AV.d (TApiLedger.e a0)))]))) (body := F50_b1 a0) (fun i579 _ _ hi h => aw_of ?_) (fun _ => aw_of ?_) (fun _ _ => rfl) (Nat.zero_add _) hx602 ⟨(frLe_at (k := 0) rfl (LeV.refl _) (frLe_at (k := 1) rfl (LeV.refl _) (frLe_at (k := 2) rfl (LeV.refl _) (frLe_at (k := 3) rfl (LeV.refl _) frLe_nil)))), .inl rfl⟩ (Nat.le_of_ble_eq_true (by kernel_rfl))) (fun _ => Nat.le_of_ble_eq_true (by kernel_rfl)) (fun x fr L e hr => ?_) (fun _ e => ?_)
    · unfold F50_b1 at h
      refine aws_seq ?_
      refine aws_region (hs := []) (live := [1, 15, 16, 17, 18]) (fr' := [(1, (AV.ptr 0 1 [])), (15, (AV.d (eL TApiPosting.e a0.Postings))), (16, (AV.d (DV.i .i64 (a0.Postings.length : Int)))), (17, (AV.d (DV.i .i64 (i579 : Int)))), (18, (AV.d (DV.b (decide ((i579 : Int) < (a0.Postings.length : Int))))))]) (L' := [(Ob.box (AV.d (TApiLedger.e a0)))]) (C := []) (by kernel_rfl) trivial ?_
      refine aws_seq ?_
      refine aws_cond (b := (decide ((i579 : Int) < (a0.Postings.length : Int)))) (by kernel_rfl) (fun hb591 => ?_) (fun hb591 => absurd (hb591.symm.trans (decide_eq_true (by omega))) Bool.false_ne_true)
      refine aws_skip ?_
      refine aws_seq ?_
      obtain ⟨o597, hx596, h⟩ := outM_some h
      refine aws_blockS (E := (fun (_ : Unit) => [(1, (AV.ptr 0 1 [])), (15, (AV.d (eL TApiPosting.e a0.Postings))), (16, (AV.d (DV.i .i64 (a0.Postings.length : Int)))), (17, (AV.d (DV.i .i64 (i579 : Int))))])) (LE := (fun (_ : Unit) => [(Ob.box (AV.d (TApiLedger.e a0)))])) (fun s => o597 = .next s) ?_ (fun _ => Nat.le_of_ble_eq_true (by kernel_rfl)) (fun _ hq => ?_)
      · refine aws_seq ?_
        refine aws_region (hs := []) (live := [1, 3, 4, 15, 16, 17]) (fr' := [(1, (AV.ptr 0 1 [])), (3, (AV.d (DV.i .i64 (i579 : Int)))), (4, (AV.ptr 1 1 [])), (15, (AV.d (eL TApiPosting.e a0.Postings))), (16, (AV.d (DV.i .i64 (a0.Postings.length : Int)))), (17, (AV.d (DV.i .i64 (i579 : Int))))]) (L' := [(Ob.box (AV.d (TApiLedger.e a0))), (Ob.box (AV.d (TApiPosting.e (a0.Postings.getD i579 default))))]) (C := [(0 : Int) ≤ (i579 : Int), i579 < a0.Postings.length]) (by kernel_rfl) (And.intro (Int.natCast_nonneg _) (And.intro hi trivial)) ?_
        refine aws_seq ?_
        obtain ⟨⟨hc598, hc599, _⟩, hx596⟩ := guardP_some hx596
        refine aws_drawn (D := ⟨[[], [0], [], [2], [3, 2, 1, 0], [4, 3, 2, 1, 0], [5, 4, 3, 2, 1, 0], [6, 5, 4, 3, 2, 1, 0], [7, 6, 5, 4, 3, 2, 1, 0], [8, 7, 6, 5, 4, 3, 2, 1, 0], [9, 8, 7, 6, 5, 4, 3, 2, 1, 0], [8, 7, 6, 5, 4, 3, 2, 1, 0], [11, 8, 7, 6, 5, 4, 3, 2, 1, 0], [12, 11, 10, 9, 8, 7, 6, 5, 4, 3, 2, 1, 0], [13, 12, 11, 10, 9, 8, 7, 6, 5, 4, 3, 2, 1, 0], [14, 13, 12, 11, 10, 9, 8, 7, 6, 5, 4, 3, 2, 1, 0], [8, 7, 6, 5, 4, 3, 2, 1, 0], [16, 8, 7, 6, 5, 4, 3, 2, 1, 0], [17, 16, 15, 14, 13, 12, 11, 10, 9, 8, 7, 6, 5, 4, 3, 2, 1, 0], [18, 17, 16, 15, 14, 13, 12, 11, 10, 9, 8, 7, 6, 5, 4, 3, 2, 1, 0], [19, 18, 17, 16, 15, 14, 13, 12, 11, 10, 9, 8, 7, 6, 5, 4, 3, 2, 1, 0]], []⟩) (hs := []) (live := [1, 15, 16, 17, 42]) (fr' := [(1, (AV.ptr 0 1 [])), (15, (AV.d (eL TApiPosting.e a0.Postings))), (16, (AV.d (DV.i .i64 (a0.Postings.length : Int)))), (17, (AV.d (DV.i .i64 (i579 : Int)))), (42, (AV.d (DV.b (bif (((a0.Postings.getD i579 default).Number) != (IntKind.i64.wrap ((i579 : Int) + 1))) then true else (bif (decide ((i579 : Int) > 0)) then (decide (((a0.Postings.getD (((IntKind.i64.wrap ((i579 : Int) - 1))).toNat) default).Day) > ((a0.Postings.getD i579 default).Day))) else false)))))]) (L' := [(Ob.box (AV.d (TApiLedger.e a0))), (Ob.box (AV.d (TApiPosting.e (a0.Postings.getD i579 default))))]) (C := [AllP [(decide ((i579 : Int) > 0)) = true, (((a0.Postings.getD i579 default).Number) != (IntKind.i64.wrap ((i579 : Int) + 1))) = false] → ((0 : Int) ≤ (IntKind.i64.wrap ((i579 : Int) - 1))), AllP [(decide ((i579 : Int) > 0)) = true, (((a0.Postings.getD i579 default).Number) != (IntKind.i64.wrap ((i579 : Int) + 1))) = false] → (((IntKind.i64.wrap ((i579 : Int) - 1))).toNat < a0.Postings.length)]) (by kernel_rfl) (by kernel_rfl) (by kernel_rfl) (And.intro hc598 (And.intro hc599 trivial)) ?_
        refine aws_cond (b := (bif (((a0.Postings.getD i579 default).Number) != (IntKind.i64.wrap ((i579 : Int) + 1))) then true else (bif (decide ((i579 : Int) > 0)) then (decide (((a0.Postings.getD (((IntKind.i64.wrap ((i579 : Int) - 1))).toNat) default).Day) > ((a0.Postings.getD i579 default).Day))) else false))) (by kernel_rfl) (fun hb600 => ?_) (fun hb600 => ?_)
        · replace hx596 := iteT hb600 hx596
          refine aws_seq ?_
          refine aws_region (hs := []) (live := [2]) (fr' := [(2, (AV.d (DV.i .i64 86)))]) (L' := [(Ob.box (AV.d (TApiLedger.e a0))), (Ob.box (AV.d (TApiPosting.e (a0.Postings.getD i579 default))))]) (C := []) (by kernel_rfl) trivial ?_
          refine aws_ret ?_
          obtain rfl := Option.some.inj hx596
          obtain rfl := Option.some.inj h
          exact ⟨_, rfl, ⟨_, [], [(Ob.box (AV.d (TApiLedger.e a0))), (Ob.box (AV.d (TApiPosting.e (a0.Postings.getD i579 default))))], by kernel_rfl, trivial, (LeV.refl _), rfl⟩⟩
        · replace hx596 := iteF hb600 hx596
          refine aws_skip ?_
          refine aws_nil ?_
          obtain rfl := Option.some.inj hx596
          exact ⟨_, rfl, ⟨(frLe_at (k := 0) rfl (LeV.refl _) (frLe_at (k := 1) rfl (LeV.refl _) (frLe_at (k := 2) rfl (LeV.refl _) (frLe_at (k := 3) rfl (LeV.refl _) frLe_nil)))), .inr ⟨⟨[(Ob.box (AV.d (TApiPosting.e (a0.Postings.getD i579 default))))], rfl, lsOk (And.intro rfl trivial)⟩, List.all_eq_true.1 (by kernel_rfl)⟩⟩⟩
      · subst hq
        refine aws_region (hs := []) (live := [1, 15, 16, 17]) (fr' := [(1, (AV.ptr 0 1 [])), (15, (AV.d (eL TApiPosting.e a0.Postings))), (16, (AV.d (DV.i .i64 (a0.Postings.length : Int)))), (17, (AV.d (DV.i .i64 (IntKind.i64.wrap ((i579 : Int) + 1)))))]) (L' := [(Ob.box (AV.d (TApiLedger.e a0)))]) (C := []) (by kernel_rfl) trivial ?_
        refine aws_nil ?_
        obtain rfl := Option.some.inj h
        exact ⟨_, rfl, ⟨(frLe_at (k := 0) rfl (LeV.refl _) (frLe_at (k := 1) rfl (LeV.refl _) (frLe_at (k := 2) rfl (LeV.refl _) (frLe_at (k := 3) rfl (LeV.of_eq (congrArg (fun n => AV.d (DV.i .i64 n)) (wrap_succ (by omega)))) frLe_nil)))), .inl rfl⟩⟩
    · refine aws_seq ?_
      refine aws_region (hs := []) (live := [1, 15, 16, 17, 18]) (fr' := [(1, (AV.ptr 0 1 [])), (15, (AV.d (eL TApiPosting.e a0.Postings))), (16, (AV.d (DV.i .i64 (a0.Postings.length : Int)))), (17, (AV.d (DV.i .i64 ((a0.Postings.length : Nat) : Int)))), (18, (AV.d (DV.b (decide (((a0.Postings.length : Nat) : Int) < (a0.Postings.length : Int))))))]) (L' := [(Ob.box (AV.d (TApiLedger.e a0)))]) (C := []) (by kernel_rfl) trivial ?_
      refine aws_seq ?_
      refine aws_cond (b := (decide (((a0.Postings.length : Nat) : Int) < (a0.Postings.length : Int)))) (by kernel_rfl) (fun hb604 => absurd hb604 (Bool.eq_false_iff.mp (decide_eq_false (by omega)))) (fun hb604 => ?_)
      refine aws_exit ?_
      exact ⟨rfl, _, rfl, ⟨frLe_nil, .inl rfl⟩⟩
    · subst e
      obtain rfl := Option.some.inj h
      exact ⟨.inr rfl, hr⟩
    · subst e
      refine aws_seq ?_
      refine aws_region (hs := []) (live := [2]) (fr' := [(2, (AV.d (DV.i .i64 0)))]) (L' := [(Ob.box (AV.d (TApiLedger.e a0)))]) (C := []) (by kernel_rfl) trivial ?_
      refine aws_ret ?_
      obtain rfl := Option.some.inj h
      exact ⟨.inr rfl, ⟨_, [], [(Ob.box (AV.d (TApiLedger.e a0)))], by kernel_rfl, trivial, (LeV.refl _), rfl⟩⟩

/-! 24 -/
theorem F24_ok {a0 : TApiLedger} {a1 : (List Int)} {r : R24} (h : F24 a0 a1 = some r) : CallOk Try.prog 24 [(AV.d (TApiLedger.e a0)), (AV.d (eL (DV.i .i64) a1))] [] (V24 r) (L24 r) := by
  refine callOk_of_aw Try.func24 rfl (Nat.le_of_ble_eq_true (by kernel_rfl)) (Nat.le_of_ble_eq_true (by kernel_rfl)) rfl (lsOk trivial) (aw_of (Q := FQ Try.prog Try.f24 _ _) ?_)
  unfold F24 at h
  refine aws_seq ?_
  refine aws_region (hs := []) (live := [1, 2]) (fr' := [(1, (AV.d (eL (DV.i .i64) a1))), (2, (AV.ptr 0 1 []))]) (L' := [(Ob.box (AV.d (TApiLedger.e a0)))]) (C := []) (by kernel_rfl) trivial ?_
  refine aws_seq ?_
  refine aws_seq ?_
  obtain ⟨r635, hr636, h⟩ := bind_some' h
  refine aws_region (hs := [(1, { h := .callq (AV.d (DV.i .i64 r635)) })]) (live := [1, 5]) (fr' := [(1, (AV.d (eL (DV.i .i64) a1))), (5, (AV.d (DV.i .i64 r635)))]) (L' := [(Ob.box (AV.d (TApiLedger.e a0)))]) (C := [∀ L, CallOk Try.prog 50 [(AV.d (TApiLedger.e a0))] L (AV.d (DV.i .i64 r635)) L]) (by kernel_rfl) (And.intro (fun L => (F50_ok hr636).pure (fun _ => rfl) (fun _ => rfl) L) trivial) ?_
  refine aws_seq ?_
  refine aws_region (hs := []) (live := [1, 5, 11]) (fr' := [(1, (AV.d (eL (DV.i .i64) a1))), (5, (AV.d (DV.i .i64 r635))), (11, (AV.d (DV.b (r635 != 0))))]) (L' := [(Ob.box (AV.d (TApiLedger.e a0)))]) (C := []) (by kernel_rfl) trivial ?_
  refine aws_cond (b := (r635 != 0)) (by kernel_rfl) (fun hb637 => ?_) (fun hb637 => ?_)
  · replace h := iteT hb637 h
    refine aws_seq ?_
    refine aws_region (hs := []) (live := [4]) (fr' := [(4, (AV.d (DV.i .i64 r635)))]) (L' := [(Ob.box (AV.d (TApiLedger.e a0)))]) (C := []) (by kernel_rfl) trivial ?_
    refine aws_ret ?_
    obtain rfl := Option.some.inj h
    exact ⟨.inr rfl, ⟨_, [], [(Ob.box (AV.d (TApiLedger.e a0)))], by kernel_rfl, trivial, (LeV.refl _), rfl⟩⟩
  · replace h := iteF hb637 h
    refine aws_skip ?_
    refine aws_seq ?_
    refine aws_seq ?_
    refine aws_region (hs := []) (live := [1, 13, 14, 15]) (fr' := [(1, (AV.d (eL (DV.i .i64) a1))), (13, (AV.d (eL (DV.i .i64) a1))), (14, (AV.d (DV.i .i64 (a1.length : Int)))), (15, (AV.d (DV.i .i64 0)))]) (L' := [(Ob.box (AV.d (TApiLedger.e a0)))]) (C := []) (by kernel_rfl) trivial ?_
    obtain ⟨o660, hx661, h⟩ := outM_some h
    refine aws_lenL (k := 0) (t := 1) (e := (DV.i .i64)) (l := a1) rfl (by simp) (fun hn => ?_)
    refine aws_loop (E := (fun (_ : Unit) => [(1, (AV.d (eL (DV.i .i64) a1)))])) (LE := (fun (_ : Unit) => [(Ob.box (AV.d (TApiLedger.e a0)))])) (R := (fun x => FR Try.prog Try.f24 (V24 x) (L24 x))) (aw_range (n := a1.length) (m := 1) (I := (fun (i638 : Nat) (_ : Unit) => [(1, (AV.d (eL (DV.i .i64) a1))), (13, (AV.d (eL (DV.i .i64) a1))), (14, (AV.d (DV.i .i64 (a1.length : Int)))), (15, (AV.d (DV.i .i64 (i638 : Int))))])) (LI := (fun (_ : Nat) => (fun (_ : Unit) => [(Ob.box (AV.d (TApiLedger.e a0)))]))) (body := F24_b1 a1) (fun i638 _ _ hi h => aw_of ?_) (fun _ => aw_of ?_) (fun _ _ => rfl) (Nat.zero_add _) hx661 ⟨(frLe_at (k := 0) rfl (LeV.refl _) (frLe_at (k := 1) rfl (LeV.refl _) (frLe_at (k := 2) rfl (LeV.refl _) (frLe_at (k := 3) rfl (LeV.refl _) frLe_nil)))), .inl rfl⟩ (Nat.le_of_ble_eq_true (by kernel_rfl))) (fun _ => Nat.le_of_ble_eq_true (by kernel_rfl)) (fun x fr L e hr => ?_) (fun _ e => ?_)
    · unfold F24_b1 at h
      refine aws_seq ?_
      refine aws_region (hs := []) (live := [1, 13, 14, 15, 16]) (fr' := [(1, (AV.d (eL (DV.i .i64) a1))), (13, (AV.d (eL (DV.i .i64) a1))), (14, (AV.d (DV.i .i64 (a1.length : Int)))), (15, (AV.d (DV.i .i64 (i638 : Int)))), (16, (AV.d (DV.b (decide ((i638 : Int) < (a1.length : Int))))))]) (L' := [(Ob.box (AV.d (TApiLedger.e a0)))]) (C := []) (by kernel_rfl) trivial ?_
      refine aws_seq ?_
      refine aws_cond (b := (decide ((i638 : Int) < (a1.length : Int)))) (by kernel_rfl) (fun hb650 => ?_) (fun hb650 => absurd (hb650.symm.trans (decide_eq_true (by omega))) Bool.false_ne_true)
      refine aws_skip ?_
      refine aws_seq ?_
      obtain ⟨o656, hx655, h⟩ := outM_some h
      refine aws_blockS (E := (fun (_ : Unit) => [(1, (AV.d (eL (DV.i .i64) a1))), (13, (AV.d (eL (DV.i .i64) a1))), (14, (AV.d (DV.i .i64 (a1.length : Int)))), (15, (AV.d (DV.i .i64 (i638 : Int))))])) (LE := (fun (_ : Unit) => [(Ob.box (AV.d (TApiLedger.e a0)))])) (fun s => o656 = .next s) ?_ (fun _ => Nat.le_of_ble_eq_true (by kernel_rfl)) (fun _ hq => ?_)
      · refine aws_seq ?_
        refine aws_region (hs := []) (live := [1, 6, 7, 13, 14, 15]) (fr' := [(1, (AV.d (eL (DV.i .i64) a1))), (6, (AV.d (DV.i .i64 (i638 : Int)))), (7, (AV.d (DV.i .i64 (a1.getD i638 default)))), (13, (AV.d (eL (DV.i .i64) a1))), (14, (AV.d (DV.i .i64 (a1.length : Int)))), (15, (AV.d (DV.i .i64 (i638 : Int))))]) (L' := [(Ob.box (AV.d (TApiLedger.e a0)))]) (C := [(0 : Int) ≤ (i638 : Int), i638 < a1.length]) (by kernel_rfl) (And.intro (Int.natCast_nonneg _) (And.intro hi trivial)) ?_
        refine aws_seq ?_
        obtain ⟨⟨hc657, hc658, _⟩, hx655⟩ := guardP_some hx655
        refine aws_region (hs := []) (live := [1, 13, 14, 15, 38]) (fr' := [(1, (AV.d (eL (DV.i .i64) a1))), (13, (AV.d (eL (DV.i .i64) a1))), (14, (AV.d (DV.i .i64 (a1.length : Int)))), (15, (AV.d (DV.i .i64 (i638 : Int)))), (38, (AV.d (DV.b (bif (bif (decide ((a1.getD i638 default) < 1)) then true else (decide ((a1.getD i638 default) > 10))) then true else (bif (decide ((i638 : Int) > 0)) then (decide ((a1.getD (((IntKind.i64.wrap ((i638 : Int) - 1))).toNat) default) ≥ (a1.getD i638 default))) else false)))))]) (L' := [(Ob.box (AV.d (TApiLedger.e a0)))]) (C := [AllP [(decide ((i638 : Int) > 0)) = true, (bif (decide ((a1.getD i638 default) < 1)) then true else (decide ((a1.getD i638 default) > 10))) = false] → ((0 : Int) ≤ (IntKind.i64.wrap ((i638 : Int) - 1))), AllP [(decide ((i638 : Int) > 0)) = true, (bif (decide ((a1.getD i638 default) < 1)) then true else (decide ((a1.getD i638 default) > 10))) = false] → (((IntKind.i64.wrap ((i638 : Int) - 1))).toNat < a1.length)]) (by kernel_rfl) (And.intro hc657 (And.intro hc658 trivial)) ?_
        refine aws_cond (b := (bif (bif (decide ((a1.getD i638 default) < 1)) then true else (decide ((a1.getD i638 default) > 10))) then true else (bif (decide ((i638 : Int) > 0)) then (decide ((a1.getD (((IntKind.i64.wrap ((i638 : Int) - 1))).toNat) default) ≥ (a1.getD i638 default))) else false))) (by kernel_rfl) (fun hb659 => ?_) (fun hb659 => ?_)
        · replace hx655 := iteT hb659 hx655
          refine aws_seq ?_
          refine aws_region (hs := []) (live := [4]) (fr' := [(4, (AV.d (DV.i .i64 89)))]) (L' := [(Ob.box (AV.d (TApiLedger.e a0)))]) (C := []) (by kernel_rfl) trivial ?_
          refine aws_ret ?_
          obtain rfl := Option.some.inj hx655
          obtain rfl := Option.some.inj h
          exact ⟨_, rfl, ⟨_, [], [(Ob.box (AV.d (TApiLedger.e a0)))], by kernel_rfl, trivial, (LeV.refl _), rfl⟩⟩
        · replace hx655 := iteF hb659 hx655
          refine aws_skip ?_
          refine aws_nil ?_
          obtain rfl := Option.some.inj hx655
          exact ⟨_, rfl, ⟨(frLe_at (k := 0) rfl (LeV.refl _) (frLe_at (k := 1) rfl (LeV.refl _) (frLe_at (k := 2) rfl (LeV.refl _) (frLe_at (k := 3) rfl (LeV.refl _) frLe_nil)))), .inl rfl⟩⟩
      · subst hq
        refine aws_region (hs := []) (live := [1, 13, 14, 15]) (fr' := [(1, (AV.d (eL (DV.i .i64) a1))), (13, (AV.d (eL (DV.i .i64) a1))), (14, (AV.d (DV.i .i64 (a1.length : Int)))), (15, (AV.d (DV.i .i64 (IntKind.i64.wrap ((i638 : Int) + 1)))))]) (L' := [(Ob.box (AV.d (TApiLedger.e a0)))]) (C := []) (by kernel_rfl) trivial ?_
        refine aws_nil ?_
        obtain rfl := Option.some.inj h
        exact ⟨_, rfl, ⟨(frLe_at (k := 0) rfl (LeV.refl _) (frLe_at (k := 1) rfl (LeV.refl _) (frLe_at (k := 2) rfl (LeV.refl _) (frLe_at (k := 3) rfl (LeV.of_eq (congrArg (fun n => AV.d (DV.i .i64 n)) (wrap_succ (by omega)))) frLe_nil)))), .inl rfl⟩⟩
    · refine aws_seq ?_
      refine aws_region (hs := []) (live := [1, 13, 14, 15, 16]) (fr' := [(1, (AV.d (eL (DV.i .i64) a1))), (13, (AV.d (eL (DV.i .i64) a1))), (14, (AV.d (DV.i .i64 (a1.length : Int)))), (15, (AV.d (DV.i .i64 ((a1.length : Nat) : Int)))), (16, (AV.d (DV.b (decide (((a1.length : Nat) : Int) < (a1.length : Int))))))]) (L' := [(Ob.box (AV.d (TApiLedger.e a0)))]) (C := []) (by kernel_rfl) trivial ?_
      refine aws_seq ?_
      refine aws_cond (b := (decide (((a1.length : Nat) : Int) < (a1.length : Int)))) (by kernel_rfl) (fun hb664 => absurd hb664 (Bool.eq_false_iff.mp (decide_eq_false (by omega)))) (fun hb664 => ?_)
      refine aws_exit ?_
      exact ⟨rfl, _, rfl, ⟨(frLe_at (k := 0) rfl (LeV.refl _) frLe_nil), .inl rfl⟩⟩
    · subst e
      obtain rfl := Option.some.inj h
      exact ⟨.inr rfl, hr⟩
    · subst e
      refine aws_seq ?_
      refine aws_seq ?_
      refine aws_region (hs := []) (live := [42]) (fr' := [(42, (AV.d (DV.b ((a1.length : Int) == 0))))]) (L' := [(Ob.box (AV.d (TApiLedger.e a0)))]) (C := []) (by kernel_rfl) trivial ?_
      refine aws_cond (b := ((a1.length : Int) == 0)) (by kernel_rfl) (fun hb662 => ?_) (fun hb662 => ?_)
      · replace h := iteT hb662 h
        refine aws_seq ?_
        refine aws_region (hs := []) (live := [4]) (fr' := [(4, (AV.d (DV.i .i64 89)))]) (L' := [(Ob.box (AV.d (TApiLedger.e a0)))]) (C := []) (by kernel_rfl) trivial ?_
        refine aws_ret ?_
        obtain rfl := Option.some.inj h
        exact ⟨.inr rfl, ⟨_, [], [(Ob.box (AV.d (TApiLedger.e a0)))], by kernel_rfl, trivial, (LeV.refl _), rfl⟩⟩
      · replace h := iteF hb662 h
        refine aws_skip ?_
        refine aws_seq ?_
        refine aws_region (hs := []) (live := [4]) (fr' := [(4, (AV.d (DV.i .i64 0)))]) (L' := [(Ob.box (AV.d (TApiLedger.e a0)))]) (C := []) (by kernel_rfl) trivial ?_
        refine aws_ret ?_
        obtain rfl := Option.some.inj h
        exact ⟨.inr rfl, ⟨_, [], [(Ob.box (AV.d (TApiLedger.e a0)))], by kernel_rfl, trivial, (LeV.refl _), rfl⟩⟩

/-! 47 -/
theorem F47_ok {a0 : TApiLedger} {a1 : (List Int)} {a2 : Int} {r : R47} (h : F47 a0 a1 a2 = some r) : CallOk Try.prog 47 [(AV.d (TApiLedger.e a0)), (AV.d (eL (DV.i .i64) a1)), (AV.d (DV.i .i64 a2))] [] (V47 r) (L47 r) := by
  refine callOk_of_aw Try.func47 rfl (Nat.le_of_ble_eq_true (by kernel_rfl)) (Nat.le_of_ble_eq_true (by kernel_rfl)) rfl (lsOk trivial) (aw_of (Q := FQ Try.prog Try.f47 _ _) ?_)
  unfold F47 at h
  refine aws_seq ?_
  refine aws_region (hs := []) (live := [1, 2, 3]) (fr' := [(1, (AV.d (eL (DV.i .i64) a1))), (2, (AV.d (DV.i .i64 a2))), (3, (AV.ptr 0 1 []))]) (L' := [(Ob.box (AV.d (TApiLedger.e a0)))]) (C := []) (by kernel_rfl) trivial ?_
  refine aws_seq ?_
  obtain ⟨r672, hr673, h⟩ := bind_some' h
  refine aws_region (hs := [(2, { h := .callq (AV.d (DV.i .i64 r672)) })]) (live := [2, 7]) (fr' := [(2, (AV.d (DV.i .i64 a2))), (7, (AV.d (DV.i .i64 r672)))]) (L' := [(Ob.box (AV.d (TApiLedger.e a0)))]) (C := [∀ L, CallOk Try.prog 24 [(AV.d (TApiLedger.e a0)), (AV.d (eL (DV.i .i64) a1))] L (AV.d (DV.i .i64 r672)) L]) (by kernel_rfl) (And.intro (fun L => (F24_ok hr673).pure (fun _ => rfl) (fun _ => rfl) L) trivial) ?_
  refine aws_seq ?_
  refine aws_seq ?_
  refine aws_region (hs := []) (live := [7, 20]) (fr' := [(7, (AV.d (DV.i .i64 r672))), (20, (AV.d (DV.b (bif (r672 == 0) then (bif (decide (a2 < 0)) then true else (decide (a2 > 36000))) else false))))]) (L' := [(Ob.box (AV.d (TApiLedger.e a0)))]) (C := []) (by kernel_rfl) trivial ?_
  obtain ⟨o677, hx676, h⟩ := bind_some' h
  refine aws_cutS (E := (fun (s675 : Int) => [(7, (AV.d (DV.i .i64 s675)))])) (LE := (fun (_ : Int) => [(Ob.box (AV.d (TApiLedger.e a0)))])) (fun s => s = o677) ?_ (fun _ => Nat.le_of_ble_eq_true (by kernel_rfl)) (fun s675 hq => ?_)
  · refine aws_cond (b := (bif (r672 == 0) then (bif (decide (a2 < 0)) then true else (decide (a2 > 36000))) else false)) (by kernel_rfl) (fun hb678 => ?_) (fun hb678 => ?_)
    · replace hx676 := iteT hb678 hx676
      refine aws_region (hs := []) (live := [7]) (fr' := [(7, (AV.d (DV.i .i64 2)))]) (L' := [(Ob.box (AV.d (TApiLedger.e a0)))]) (C := []) (by kernel_rfl) trivial ?_
      refine aws_nil ?_
      obtain rfl := Option.some.inj hx676
      exact ⟨_, rfl, ⟨(frLe_at (k := 0) rfl (LeV.refl _) frLe_nil), .inl rfl⟩⟩
    · replace hx676 := iteF hb678 hx676
      refine aws_skip ?_
      refine aws_nil ?_
      obtain rfl := Option.some.inj hx676
      exact ⟨_, rfl, ⟨(frLe_at (k := 0) rfl (LeV.refl _) frLe_nil), .inl rfl⟩⟩
  · subst hq
    refine aws_seq ?_
    refine aws_region (hs := []) (live := [6]) (fr' := [(6, (AV.d (DV.i .i64 s675)))]) (L' := [(Ob.box (AV.d (TApiLedger.e a0)))]) (C := []) (by kernel_rfl) trivial ?_
    refine aws_ret ?_
    obtain rfl := Option.some.inj h
    exact ⟨.inr rfl, ⟨_, [], [(Ob.box (AV.d (TApiLedger.e a0)))], by kernel_rfl, trivial, (LeV.refl _), rfl⟩⟩

/-! 64 -/
theorem F64_ok {p0 : List Int} {r : R64} (h : F64 p0 = some r) : CallOk Try.prog 64 [(AV.ref 0 p0.length 0 p0.length)] [(eS 1 (DV.i .i64) p0)] (V64 r) (L64 r) := by
  unfold F64 at h
  obtain ⟨hl, h⟩ := guardP_some h
  obtain rfl := Option.some.inj h
  exact callOk_sort (fun blk off cap zs w => Any.slices_Sort_int Try.lays189 blk off cap zs w) (fun p cap w => Any.slices_Sort_int_none Try.lays189 p cap w) hl

/-! 65 -/
theorem F65_ok {p0 : List Int} {r : R65} (h : F65 p0 = some r) : CallOk Try.prog 65 [(AV.ref 0 p0.length 0 p0.length)] [(eS 1 (DV.i .i64) p0)] (V65 r) (L65 r) := by
  unfold F65 at h
  obtain ⟨hl, h⟩ := guardP_some h
  obtain rfl := Option.some.inj h
  exact callOk_compact (fun blk off cap zs w => Any.slices_Compact_int Try.laysNm220 blk off cap zs w) (fun p cap w => Any.slices_Compact_int_empty Try.laysNm220 p cap w) hl

/-! 58 -/
theorem F58_ok {a0 : TApiLedger} {r : R58} (h : F58 a0 = some r) : CallOk Try.prog 58 [(AV.d (TApiLedger.e a0))] [] (V58 r) (L58 r) := by
  refine callOk_of_aw Try.func58 rfl (Nat.le_of_ble_eq_true (by kernel_rfl)) (Nat.le_of_ble_eq_true (by kernel_rfl)) rfl (lsOk trivial) (aw_of (Q := FQ Try.prog Try.f58 _ _) ?_)
  unfold F58 at h
  refine aws_seq ?_
  refine aws_region (hs := []) (live := [1]) (fr' := [(1, (AV.ptr 0 1 []))]) (L' := [(Ob.box (AV.d (TApiLedger.e a0)))]) (C := []) (by kernel_rfl) trivial ?_
  refine aws_seq ?_
  refine aws_region (hs := []) (live := [1, 3]) (fr' := [(1, (AV.ptr 0 1 [])), (3, (AV.full 0 fun _ => DV.b false))]) (L' := [(Ob.box (AV.d (TApiLedger.e a0)))]) (C := []) (by kernel_rfl) trivial ?_
  refine aws_seq ?_
  refine aws_seq ?_
  refine aws_region (hs := []) (live := [3, 7, 8, 9]) (fr' := [(3, (AV.full 0 fun _ => DV.b false)), (7, (AV.d (eL TApiPosting.e a0.Postings))), (8, (AV.d (DV.i .i64 (a0.Postings.length : Int)))), (9, (AV.d (DV.i .i64 0)))]) (L' := [(Ob.box (AV.d (TApiLedger.e a0)))]) (C := []) (by kernel_rfl) trivial ?_
  refine aws_unborn (fr' := [(3, (AV.ref 1 0 0 0)), (7, (AV.d (eL TApiPosting.e a0.Postings))), (8, (AV.d (DV.i .i64 (a0.Postings.length : Int)))), (9, (AV.d (DV.i .i64 0)))]) 1 (fun j => AV.d ((DV.i .i64) (([] : List Int).getD j default))) (frz_nilref 0 rfl (frz_keep 1 rfl (frz_keep 2 rfl (frz_keep 3 rfl frz_nil)))) (by simp) ?_
  obtain ⟨o727, hx728, h⟩ := outM_some h
  refine aws_lenL (k := 1) (t := 7) (e := TApiPosting.e) (l := a0.Postings) rfl (by simp) (fun hn => ?_)
  refine aws_loop (E := (fun (s720 : (List Int)) => [(3, (AV.ref 1 s720.length 0 s720.length))])) (LE := (fun (s720 : (List Int)) => [(Ob.box (AV.d (TApiLedger.e a0))), (eS 1 (DV.i .i64) s720)])) (R := (fun x => FR Try.prog Try.f58 (V58 x) (L58 x))) (aw_range (n := a0.Postings.length) (m := 2) (I := (fun (i709 : Nat) (s720 : (List Int)) => [(3, (AV.ref 1 s720.length 0 s720.length)), (7, (AV.d (eL TApiPosting.e a0.Postings))), (8, (AV.d (DV.i .i64 (a0.Postings.length : Int)))), (9, (AV.d (DV.i .i64 (i709 : Int))))])) (LI := (fun (_ : Nat) => (fun (s720 : (List Int)) => [(Ob.box (AV.d (TApiLedger.e a0))), (eS 1 (DV.i .i64) s720)]))) (body := F58_b1 a0) (fun i709 s720 _ hi h => aw_of ?_) (fun s720 => aw_of ?_) (fun _ _ => rfl) (Nat.zero_add _) hx728 ⟨(frLe_at (k := 0) rfl (LeV.refl _) (frLe_at (k := 1) rfl (LeV.refl _) (frLe_at (k := 2) rfl (LeV.refl _) (frLe_at (k := 3) rfl (LeV.refl _) frLe_nil)))), .inl rfl⟩ (Nat.le_of_ble_eq_true (by kernel_rfl))) (fun _ => Nat.le_of_ble_eq_true (by kernel_rfl)) (fun x fr L e hr => ?_) (fun s720 e => ?_)
  · unfold F58_b1 at h
    refine aws_seq ?_
    refine aws_region (hs := []) (live := [3, 7, 8, 9, 10]) (fr' := [(3, (AV.ref 1 s720.length 0 s720.length)), (7, (AV.d (eL TApiPosting.e a0.Postings))), (8, (AV.d (DV.i .i64 (a0.Postings.length : Int)))), (9, (AV.d (DV.i .i64 (i709 : Int)))), (10, (AV.d (DV.b (decide ((i709 : Int) < (a0.Postings.length : Int))))))]) (L' := [(Ob.box (AV.d (TApiLedger.e a0))), (eS 1 (DV.i .i64) s720)]) (C := []) (by kernel_rfl) trivial ?_
    refine aws_seq ?_
    refine aws_cond (b := (decide ((i709 : Int) < (a0.Postings.length : Int)))) (by kernel_rfl) (fun hb721 => ?_) (fun hb721 => absurd (hb721.symm.trans (decide_eq_true (by omega))) Bool.false_ne_true)
    refine aws_skip ?_
    refine aws_seq ?_
    obtain ⟨o725, hx724, h⟩ := bind_some' h
    refine aws_blockS (E := (fun (s723 : (List Int)) => [(3, (AV.ref 1 s723.length 0 s723.length)), (7, (AV.d (eL TApiPosting.e a0.Postings))), (8, (AV.d (DV.i .i64 (a0.Postings.length : Int)))), (9, (AV.d (DV.i .i64 (i709 : Int))))])) (LE := (fun (s723 : (List Int)) => [(Ob.box (AV.d (TApiLedger.e a0))), (eS 1 (DV.i .i64) s723)])) (fun s => s = o725) ?_ (fun _ => Nat.le_of_ble_eq_true (by kernel_rfl)) (fun s723 hq => ?_)
    · refine aws_seq ?_
      refine aws_region (hs := []) (live := [3, 5, 7, 8, 9]) (fr' := [(3, (AV.ref 1 s720.length 0 s720.length)), (5, (AV.ptr 2 1 [])), (7, (AV.d (eL TApiPosting.e a0.Postings))), (8, (AV.d (DV.i .i64 (a0.Postings.length : Int)))), (9, (AV.d (DV.i .i64 (i709 : Int))))]) (L' := [(Ob.box (AV.d (TApiLedger.e a0))), (eS 1 (DV.i .i64) s720), (Ob.box (AV.d (TApiPosting.e (a0.Postings.getD i709 default))))]) (C := [(0 : Int) ≤ (i709 : Int), i709 < a0.Postings.length]) (by kernel_rfl) (And.intro (Int.natCast_nonneg _) (And.intro hi trivial)) ?_
      obtain ⟨⟨hc726, _⟩, hx724⟩ := guardP_some hx724
      refine aws_region (hs := [(3, { cast := some (AV.d (eL (DV.i .i64) ([(a0.Postings.getD i709 default).Ref] : List Int))) }), (4, { h := .obj, cast := some (AV.ref 1 ((s720 ++ ([(a0.Postings.getD i709 default).Ref] : List Int)).length) 0 ((s720 ++ ([(a0.Postings.getD i709 default).Ref] : List Int)).length)), obs := [(1, (eS 1 (DV.i .i64) (s720 ++ ([(a0.Postings.getD i709 default).Ref] : List Int))))] })]) (live := [3, 7, 8, 9]) (fr' := [(3, (AV.ref 1 ((s720 ++ ([(a0.Postings.getD i709 default).Ref] : List Int)).length) 0 ((s720 ++ ([(a0.Postings.getD i709 default).Ref] : List Int)).length))), (7, (AV.d (eL TApiPosting.e a0.Postings))), (8, (AV.d (DV.i .i64 (a0.Postings.length : Int)))), (9, (AV.d (DV.i .i64 (i709 : Int))))]) (L' := [(Ob.box (AV.d (TApiLedger.e a0))), (eS 1 (DV.i .i64) (s720 ++ ([(a0.Postings.getD i709 default).Ref] : List Int))), (Ob.box (AV.d (TApiPosting.e (a0.Postings.getD i709 default))))]) (C := [LeV (AV.d (DV.sl 1 (listF (DV.b false) [(DV.i .i64 ((a0.Postings.getD i709 default).Ref))]))) (AV.d (eL (DV.i .i64) ([(a0.Postings.getD i709 default).Ref] : List Int))), s720.length = s720.length, s720.length = s720.length, ∀ k, k < 1 → (AV.d ((DV.i .i64) (([(a0.Postings.getD i709 default).Ref] : List Int).getD k default))).wd = 1, (s720.length + 1) * (2 * 8) ≤ 2 ^ 48, LeV (AV.ref 1 (s720.length + 1) 0 (s720.length + 1)) (AV.ref 1 ((s720 ++ ([(a0.Postings.getD i709 default).Ref] : List Int)).length) 0 ((s720 ++ ([(a0.Postings.getD i709 default).Ref] : List Int)).length)), OLe (Ob.seq 1 (s720.length + 1) (catF s720.length (fun j => AV.d ((DV.i .i64) (s720.getD j default))) (fun j => AV.d ((DV.i .i64) (([(a0.Postings.getD i709 default).Ref] : List Int).getD j default))))) (eS 1 (DV.i .i64) (s720 ++ ([(a0.Postings.getD i709 default).Ref] : List Int)))]) (by kernel_rfl) (And.intro (leV_lit (DV.i .i64) ([(a0.Postings.getD i709 default).Ref] : List Int)) (And.intro rfl (And.intro rfl (And.intro (fun _ _ => rfl) (And.intro hc726 (And.intro (leV_app (o := 1) (l := s720) (x := ([(a0.Postings.getD i709 default).Ref] : List Int))) (And.intro (oLe_app (e := (DV.i .i64)) (l := s720) (x := ([(a0.Postings.getD i709 default).Ref] : List Int))) trivial))))))) ?_
      refine aws_nil ?_
      obtain rfl := Option.some.inj hx724
      exact ⟨_, rfl, ⟨(frLe_at (k := 0) rfl (LeV.refl _) (frLe_at (k := 1) rfl (LeV.refl _) (frLe_at (k := 2) rfl (LeV.refl _) (frLe_at (k := 3) rfl (LeV.refl _) frLe_nil)))), .inr ⟨⟨[(Ob.box (AV.d (TApiPosting.e (a0.Postings.getD i709 default))))], rfl, lsOk (And.intro rfl (And.intro (fun _ _ => rfl) trivial))⟩, List.all_eq_true.1 (by kernel_rfl)⟩⟩⟩
    · subst hq
      refine aws_region (hs := []) (live := [3, 7, 8, 9]) (fr' := [(3, (AV.ref 1 s723.length 0 s723.length)), (7, (AV.d (eL TApiPosting.e a0.Postings))), (8, (AV.d (DV.i .i64 (a0.Postings.length : Int)))), (9, (AV.d (DV.i .i64 (IntKind.i64.wrap ((i709 : Int) + 1)))))]) (L' := [(Ob.box (AV.d (TApiLedger.e a0))), (eS 1 (DV.i .i64) s723)]) (C := []) (by kernel_rfl) trivial ?_
      refine aws_nil ?_
      obtain rfl := Option.some.inj h
      exact ⟨_, rfl, ⟨(frLe_at (k := 0) rfl (LeV.refl _) (frLe_at (k := 1) rfl (LeV.refl _) (frLe_at (k := 2) rfl (LeV.refl _) (frLe_at (k := 3) rfl (LeV.of_eq (congrArg (fun n => AV.d (DV.i .i64 n)) (wrap_succ (by omega)))) frLe_nil)))), .inl rfl⟩⟩
  · refine aws_seq ?_
    refine aws_region (hs := []) (live := [3, 7, 8, 9, 10]) (fr' := [(3, (AV.ref 1 s720.length 0 s720.length)), (7, (AV.d (eL TApiPosting.e a0.Postings))), (8, (AV.d (DV.i .i64 (a0.Postings.length : Int)))), (9, (AV.d (DV.i .i64 ((a0.Postings.length : Nat) : Int)))), (10, (AV.d (DV.b (decide (((a0.Postings.length : Nat) : Int) < (a0.Postings.length : Int))))))]) (L' := [(Ob.box (AV.d (TApiLedger.e a0))), (eS 1 (DV.i .i64) s720)]) (C := []) (by kernel_rfl) trivial ?_
    refine aws_seq ?_
    refine aws_cond (b := (decide (((a0.Postings.length : Nat) : Int) < (a0.Postings.length : Int)))) (by kernel_rfl) (fun hb735 => absurd hb735 (Bool.eq_false_iff.mp (decide_eq_false (by omega)))) (fun hb735 => ?_)
    refine aws_exit ?_
    exact ⟨rfl, _, rfl, ⟨(frLe_at (k := 0) rfl (LeV.refl _) frLe_nil), .inl rfl⟩⟩
  · subst e
    exact nomatch (show (none : Option _) = some _ from h)
  · subst e
    refine aws_seq ?_
    obtain ⟨r729, hr730, h⟩ := bind_some' h
    obtain ⟨hs731, h⟩ := guardP_some h
    refine aws_region (hs := [(1, { h := .callw (AV.tup []) [(1, (eS 1 (DV.i .i64) r729))] [] })]) (live := [3]) (fr' := [(3, (AV.ref 1 s720.length 0 s720.length))]) (L' := [(Ob.box (AV.d (TApiLedger.e a0))), (eS 1 (DV.i .i64) r729)]) (C := [CallOk Try.prog 64 [(AV.ref 1 s720.length 0 s720.length)] [(Ob.box (AV.d (TApiLedger.e a0))), (eS 1 (DV.i .i64) s720)] (AV.tup []) [(Ob.box (AV.d (TApiLedger.e a0))), (eS 1 (DV.i .i64) r729)]]) (by kernel_rfl) (And.intro ((F64_ok hr730).at [1] (of_decide_eq_true (by kernel_rfl)) (by kernel_rfl) (by kernel_rfl) (Nat.le_of_ble_eq_true (by kernel_rfl)) (by kernel_rfl) (by kernel_rfl) (by kernel_rfl) (by kernel_rfl)) trivial) ?_
    refine aws_cast (fr' := [(3, (AV.ref 1 r729.length 0 r729.length))]) (L' := [(Ob.box (AV.d (TApiLedger.e a0))), (eS 1 (DV.i .i64) r729)]) ?_ (by rw [hs731]) (by rfl)
    refine aws_seq ?_
    obtain ⟨r732, hr733, h⟩ := bind_some' h
    refine aws_region (hs := [(1, { h := .callw (AV.d (eL (DV.i .i64) r732)) [(1, Ob.dead)] [] })]) (live := [2]) (fr' := [(2, (AV.d (eL (DV.i .i64) r732)))]) (L' := [(Ob.box (AV.d (TApiLedger.e a0))), Ob.dead]) (C := [CallOk Try.prog 65 [(AV.ref 1 r729.length 0 r729.length)] [(Ob.box (AV.d (TApiLedger.e a0))), (eS 1 (DV.i .i64) r729)] (AV.d (eL (DV.i .i64) r732)) [(Ob.box (AV.d (TApiLedger.e a0))), Ob.dead]]) (by kernel_rfl) (And.intro ((F65_ok hr733).at [1] (of_decide_eq_true (by kernel_rfl)) (by kernel_rfl) (by kernel_rfl) (Nat.le_of_ble_eq_true (by kernel_rfl)) (by kernel_rfl) (by kernel_rfl) (by kernel_rfl) (by kernel_rfl)) trivial) ?_
    refine aws_ret ?_
    obtain rfl := Option.some.inj h
    exact ⟨.inr rfl, ⟨_, [], [(Ob.box (AV.d (TApiLedger.e a0))), Ob.dead], by kernel_rfl, trivial, (LeV.refl _), rfl⟩⟩

/-! 55 -/
theorem F55_ok {a0 : TApiLedger} {a1 : Int} {r : R55} (h : F55 a0 a1 = some r) : CallOk Try.prog 55 [(AV.d (TApiLedger.e a0)), (AV.d (DV.i .i64 a1))] [] (V55 r) (L55 r) := by
  refine callOk_of_aw Try.func55 rfl (Nat.le_of_ble_eq_true (by kernel_rfl)) (Nat.le_of_ble_eq_true (by kernel_rfl)) rfl (lsOk (And.intro trivial (And.intro (eM_lt _ _ _ _) trivial))) (aw_of (Q := FQ Try.prog Try.f55 _ _) ?_)
  unfold F55 at h
  refine aws_seq ?_
  refine aws_region (hs := []) (live := [1, 2]) (fr' := [(1, (AV.d (DV.i .i64 a1))), (2, (AV.ptr 0 1 []))]) (L' := [(Ob.box (AV.d (TApiLedger.e a0)))]) (C := []) (by kernel_rfl) trivial ?_
  refine aws_seq ?_
  refine aws_region (hs := []) (live := [1, 2, 5]) (fr' := [(1, (AV.d (DV.i .i64 a1))), (2, (AV.ptr 0 1 [])), (5, (AV.map 1))]) (L' := [(Ob.box (AV.d (TApiLedger.e a0))), (eM TConsolidationSpot.e (DV.i .i64) ([] : (List (TConsolidationSpot × Int))))]) (C := []) (by kernel_rfl) trivial ?_
  refine aws_seq ?_
  refine aws_seq ?_
  obtain ⟨r764, hr765, h⟩ := bind_some' h
  refine aws_region (hs := [(1, { h := .callq (AV.d (DV.i .i64 r764)) })]) (live := [1, 2, 5, 11]) (fr' := [(1, (AV.d (DV.i .i64 a1))), (2, (AV.ptr 0 1 [])), (5, (AV.map 1)), (11, (AV.d (DV.b (r764 != 0))))]) (L' := [(Ob.box (AV.d (TApiLedger.e a0))), (eM TConsolidationSpot.e (DV.i .i64) ([] : (List (TConsolidationSpot × Int))))]) (C := [∀ L, CallOk Try.prog 50 [(AV.d (TApiLedger.e a0))] L (AV.d (DV.i .i64 r764)) L]) (by kernel_rfl) (And.intro (fun L => (F50_ok hr765).pure (fun _ => rfl) (fun _ => rfl) L) trivial) ?_
  refine aws_cond (b := (r764 != 0)) (by kernel_rfl) (fun hb766 => ?_) (fun hb766 => ?_)
  · replace h := iteT hb766 h
    refine aws_seq ?_
    refine aws_region (hs := []) (live := [4]) (fr' := [(4, (AV.map 1))]) (L' := [(Ob.box (AV.d (TApiLedger.e a0))), (eM TConsolidationSpot.e (DV.i .i64) ([] : (List (TConsolidationSpot × Int))))]) (C := []) (by kernel_rfl) trivial ?_
    refine aws_shift (H := NoH) (L' := [Ob.dead, (eM TConsolidationSpot.e (DV.i .i64) ([] : (List (TConsolidationSpot × Int))))]) (shift_kill (o := 0) (by simp)) (trF_refl _) ?_
    refine aws_ret ?_
    obtain rfl := Option.some.inj h
    exact ⟨.inr rfl, ⟨_, [], [], by kernel_rfl, trivial, (LeV.refl _), rfl⟩⟩
  · replace h := iteF hb766 h
    refine aws_skip ?_
    refine aws_seq ?_
    refine aws_seq ?_
    refine aws_region (hs := []) (live := [1, 5, 14, 15, 16]) (fr' := [(1, (AV.d (DV.i .i64 a1))), (5, (AV.map 1)), (14, (AV.d (eL TApiPosting.e a0.Postings))), (15, (AV.d (DV.i .i64 (a0.Postings.length : Int)))), (16, (AV.d (DV.i .i64 0)))]) (L' := [(Ob.box (AV.d (TApiLedger.e a0))), (eM TConsolidationSpot.e (DV.i .i64) ([] : (List (TConsolidationSpot × Int))))]) (C := []) (by kernel_rfl) trivial ?_
    obtain ⟨o787, hx788, h⟩ := outM_some h
    refine aws_lenL (k := 2) (t := 14) (e := TApiPosting.e) (l := a0.Postings) rfl (by simp) (fun hn => ?_)
    refine aws_loop (E := (fun (_ : (List (TConsolidationSpot × Int))) => [(5, (AV.map 1))])) (LE := (fun (s780 : (List (TConsolidationSpot × Int))) => [(Ob.box (AV.d (TApiLedger.e a0))), (eM TConsolidationSpot.e (DV.i .i64) s780)])) (R := (fun x => FR Try.prog Try.f55 (V55 x) (L55 x))) (aw_range (n := a0.Postings.length) (m := 2) (I := (fun (i767 : Nat) (_ : (List (TConsolidationSpot × Int))) => [(1, (AV.d (DV.i .i64 a1))), (5, (AV.map 1)), (14, (AV.d (eL TApiPosting.e a0.Postings))), (15, (AV.d (DV.i .i64 (a0.Postings.length : Int)))), (16, (AV.d (DV.i .i64 (i767 : Int))))])) (LI := (fun (_ : Nat) => (fun (s780 : (List (TConsolidationSpot × Int))) => [(Ob.box (AV.d (TApiLedger.e a0))), (eM TConsolidationSpot.e (DV.i .i64) s780)]))) (body := F55_b1 a0 a1) (fun i767 s780 _ hi h => aw_of ?_) (fun s780 => aw_of ?_) (fun _ _ => rfl) (Nat.zero_add _) hx788 ⟨(frLe_at (k := 0) rfl (LeV.refl _) (frLe_at (k := 1) rfl (LeV.refl _) (frLe_at (k := 2) rfl (LeV.refl _) (frLe_at (k := 3) rfl (LeV.refl _) (frLe_at (k := 4) rfl (LeV.refl _) frLe_nil))))), .inl rfl⟩ (Nat.le_of_ble_eq_true (by kernel_rfl))) (fun _ => Nat.le_of_ble_eq_true (by kernel_rfl)) (fun x fr L e hr => ?_) (fun s780 e => ?_)
    · unfold F55_b1 at h
      refine aws_seq ?_
      refine aws_region (hs := []) (live := [1, 5, 14, 15, 16, 17]) (fr' := [(1, (AV.d (DV.i .i64 a1))), (5, (AV.map 1)), (14, (AV.d (eL TApiPosting.e a0.Postings))), (15, (AV.d (DV.i .i64 (a0.Postings.length : Int)))), (16, (AV.d (DV.i .i64 (i767 : Int)))), (17, (AV.d (DV.b (decide ((i767 : Int) < (a0.Postings.length : Int))))))]) (L' := [(Ob.box (AV.d (TApiLedger.e a0))), (eM TConsolidationSpot.e (DV.i .i64) s780)]) (C := []) (by kernel_rfl) trivial ?_
      refine aws_seq ?_
      refine aws_cond (b := (decide ((i767 : Int) < (a0.Postings.length : Int)))) (by kernel_rfl) (fun hb781 => ?_) (fun hb781 => absurd (hb781.symm.trans (decide_eq_true (by omega))) Bool.false_ne_true)
      refine aws_skip ?_
      refine aws_seq ?_
      obtain ⟨o785, hx784, h⟩ := bind_some' h
      refine aws_blockS (E := (fun (_ : (List (TConsolidationSpot × Int))) => [(1, (AV.d (DV.i .i64 a1))), (5, (AV.map 1)), (14, (AV.d (eL TApiPosting.e a0.Postings))), (15, (AV.d (DV.i .i64 (a0.Postings.length : Int)))), (16, (AV.d (DV.i .i64 (i767 : Int))))])) (LE := (fun (s783 : (List (TConsolidationSpot × Int))) => [(Ob.box (AV.d (TApiLedger.e a0))), (eM TConsolidationSpot.e (DV.i .i64) s783)])) (fun s => s = o785) ?_ (fun _ => Nat.le_of_ble_eq_true (by kernel_rfl)) (fun s783 hq => ?_)
      · refine aws_seq ?_
        refine aws_region (hs := []) (live := [1, 5, 7, 14, 15, 16]) (fr' := [(1, (AV.d (DV.i .i64 a1))), (5, (AV.map 1)), (7, (AV.ptr 2 1 [])), (14, (AV.d (eL TApiPosting.e a0.Postings))), (15, (AV.d (DV.i .i64 (a0.Postings.length : Int)))), (16, (AV.d (DV.i .i64 (i767 : Int))))]) (L' := [(Ob.box (AV.d (TApiLedger.e a0))), (eM TConsolidationSpot.e (DV.i .i64) s780), (Ob.box (AV.d (TApiPosting.e (a0.Postings.getD i767 default))))]) (C := [(0 : Int) ≤ (i767 : Int), i767 < a0.Postings.length]) (by kernel_rfl) (And.intro (Int.natCast_nonneg _) (And.intro hi trivial)) ?_
        refine aws_seq ?_
        refine aws_region (hs := []) (live := [1, 5, 7, 14, 15, 16, 23]) (fr' := [(1, (AV.d (DV.i .i64 a1))), (5, (AV.map 1)), (7, (AV.ptr 2 1 [])), (14, (AV.d (eL TApiPosting.e a0.Postings))), (15, (AV.d (DV.i .i64 (a0.Postings.length : Int)))), (16, (AV.d (DV.i .i64 (i767 : Int)))), (23, (AV.d (DV.b (decide (((a0.Postings.getD i767 default).Day) ≤ a1)))))]) (L' := [(Ob.box (AV.d (TApiLedger.e a0))), (eM TConsolidationSpot.e (DV.i .i64) s780), (Ob.box (AV.d (TApiPosting.e (a0.Postings.getD i767 default))))]) (C := []) (by kernel_rfl) trivial ?_
        refine aws_cond (b := (decide (((a0.Postings.getD i767 default).Day) ≤ a1))) (by kernel_rfl) (fun hb786 => ?_) (fun hb786 => ?_)
        · replace hx784 := iteT hb786 hx784
          refine aws_seq ?_
          refine aws_drawn (D := ⟨[[], [], [1], [], [3], [], [5], [], [7], [8, 7, 6, 5, 4, 3, 2, 1], [9, 8, 7, 6, 5, 4, 3, 2, 1, 0], [], [11], [12, 11, 10, 9, 8, 7, 6, 5, 4, 3, 2, 1, 0], [12, 11, 9, 8, 7, 6, 5, 4, 3, 2, 1, 0], [14, 12, 11, 9, 8, 7, 6, 5, 4, 3, 2, 1, 0], [15, 14, 13, 12, 11, 10, 9, 8, 7, 6, 5, 4, 3, 2, 1, 0]], [14, 16]⟩) (hs := [(10, { h := .callr (AV.d (DV.i .i64 (mget s780 (⟨(a0.Postings.getD i767 default).Debit, (a0.Postings.getD i767 default).Entity, (a0.Postings.getD i767 default).Partner, (a0.Postings.getD i767 default).Ref⟩ : TConsolidationSpot) 0))) }), (14, { h := .call (AV.tup [(AV.d (DV.i .i64 (mget s780 (⟨(a0.Postings.getD i767 default).Debit, (a0.Postings.getD i767 default).Entity, (a0.Postings.getD i767 default).Partner, (a0.Postings.getD i767 default).Ref⟩ : TConsolidationSpot) 0))), (AV.d (DV.i .i64 (midx s780 (⟨(a0.Postings.getD i767 default).Debit, (a0.Postings.getD i767 default).Entity, (a0.Postings.getD i767 default).Partner, (a0.Postings.getD i767 default).Ref⟩ : TConsolidationSpot) : Int)))]) [(Ob.box (AV.d (TApiLedger.e a0))), (eM TConsolidationSpot.e (DV.i .i64) (ment s780 (⟨(a0.Postings.getD i767 default).Debit, (a0.Postings.getD i767 default).Entity, (a0.Postings.getD i767 default).Partner, (a0.Postings.getD i767 default).Ref⟩ : TConsolidationSpot) 0)), (Ob.box (AV.d (TApiPosting.e (a0.Postings.getD i767 default))))] }), (16, { h := .call .bot [(Ob.box (AV.d (TApiLedger.e a0))), (eM TConsolidationSpot.e (DV.i .i64) (mupd s780 (⟨(a0.Postings.getD i767 default).Debit, (a0.Postings.getD i767 default).Entity, (a0.Postings.getD i767 default).Partner, (a0.Postings.getD i767 default).Ref⟩ : TConsolidationSpot) (IntKind.i64.wrap ((mget s780 (⟨(a0.Postings.getD i767 default).Debit, (a0.Postings.getD i767 default).Entity, (a0.Postings.getD i767 default).Partner, (a0.Postings.getD i767 default).Ref⟩ : TConsolidationSpot) 0) + ((a0.Postings.getD i767 default).Amount))))), (Ob.box (AV.d (TApiPosting.e (a0.Postings.getD i767 default))))] })]) (live := [1, 5, 7, 14, 15, 16]) (fr' := [(1, (AV.d (DV.i .i64 a1))), (5, (AV.map 1)), (7, (AV.ptr 2 1 [])), (14, (AV.d (eL TApiPosting.e a0.Postings))), (15, (AV.d (DV.i .i64 (a0.Postings.length : Int)))), (16, (AV.d (DV.i .i64 (i767 : Int))))]) (L' := [(Ob.box (AV.d (TApiLedger.e a0))), (eM TConsolidationSpot.e (DV.i .i64) (mupd s780 (⟨(a0.Postings.getD i767 default).Debit, (a0.Postings.getD i767 default).Entity, (a0.Postings.getD i767 default).Partner, (a0.Postings.getD i767 default).Ref⟩ : TConsolidationSpot) (IntKind.i64.wrap ((mget s780 (⟨(a0.Postings.getD i767 default).Debit, (a0.Postings.getD i767 default).Entity, (a0.Postings.getD i767 default).Partner, (a0.Postings.getD i767 default).Ref⟩ : TConsolidationSpot) 0) + ((a0.Postings.getD i767 default).Amount))))), (Ob.box (AV.d (TApiPosting.e (a0.Postings.getD i767 default))))]) (C := [LookOk Try.prog [(Ob.box (AV.d (TApiLedger.e a0))), (eM TConsolidationSpot.e (DV.i .i64) s780), (Ob.box (AV.d (TApiPosting.e (a0.Postings.getD i767 default))))] 89 (AV.map 1) (AV.d (TConsolidationSpot.e (⟨(a0.Postings.getD i767 default).Debit, (a0.Postings.getD i767 default).Entity, (a0.Postings.getD i767 default).Partner, (a0.Postings.getD i767 default).Ref⟩ : TConsolidationSpot))) false (AV.d (DV.i .i64 (mget s780 (⟨(a0.Postings.getD i767 default).Debit, (a0.Postings.getD i767 default).Entity, (a0.Postings.getD i767 default).Partner, (a0.Postings.getD i767 default).Ref⟩ : TConsolidationSpot) 0))), LookOk Try.prog [(Ob.box (AV.d (TApiLedger.e a0))), (eM TConsolidationSpot.e (DV.i .i64) (ment s780 (⟨(a0.Postings.getD i767 default).Debit, (a0.Postings.getD i767 default).Entity, (a0.Postings.getD i767 default).Partner, (a0.Postings.getD i767 default).Ref⟩ : TConsolidationSpot) 0)), (Ob.box (AV.d (TApiPosting.e (a0.Postings.getD i767 default))))] 89 (AV.map 1) (AV.d (TConsolidationSpot.e (⟨(a0.Postings.getD i767 default).Debit, (a0.Postings.getD i767 default).Entity, (a0.Postings.getD i767 default).Partner, (a0.Postings.getD i767 default).Ref⟩ : TConsolidationSpot))) false (AV.d (DV.i .i64 (mget s780 (⟨(a0.Postings.getD i767 default).Debit, (a0.Postings.getD i767 default).Entity, (a0.Postings.getD i767 default).Partner, (a0.Postings.getD i767 default).Ref⟩ : TConsolidationSpot) 0))), EntOk Try.prog [(Ob.box (AV.d (TApiLedger.e a0))), (eM TConsolidationSpot.e (DV.i .i64) s780), (Ob.box (AV.d (TApiPosting.e (a0.Postings.getD i767 default))))] 89 (AV.map 1) (AV.d (TConsolidationSpot.e (⟨(a0.Postings.getD i767 default).Debit, (a0.Postings.getD i767 default).Entity, (a0.Postings.getD i767 default).Partner, (a0.Postings.getD i767 default).Ref⟩ : TConsolidationSpot))) (AV.tup [(AV.d (DV.i .i64 (mget s780 (⟨(a0.Postings.getD i767 default).Debit, (a0.Postings.getD i767 default).Entity, (a0.Postings.getD i767 default).Partner, (a0.Postings.getD i767 default).Ref⟩ : TConsolidationSpot) 0))), (AV.d (DV.i .i64 (midx s780 (⟨(a0.Postings.getD i767 default).Debit, (a0.Postings.getD i767 default).Entity, (a0.Postings.getD i767 default).Partner, (a0.Postings.getD i767 default).Ref⟩ : TConsolidationSpot) : Int)))]) [(Ob.box (AV.d (TApiLedger.e a0))), (eM TConsolidationSpot.e (DV.i .i64) (ment s780 (⟨(a0.Postings.getD i767 default).Debit, (a0.Postings.getD i767 default).Entity, (a0.Postings.getD i767 default).Partner, (a0.Postings.getD i767 default).Ref⟩ : TConsolidationSpot) 0)), (Ob.box (AV.d (TApiPosting.e (a0.Postings.getD i767 default))))], StoOk Try.prog [(Ob.box (AV.d (TApiLedger.e a0))), (eM TConsolidationSpot.e (DV.i .i64) (ment s780 (⟨(a0.Postings.getD i767 default).Debit, (a0.Postings.getD i767 default).Entity, (a0.Postings.getD i767 default).Partner, (a0.Postings.getD i767 default).Ref⟩ : TConsolidationSpot) 0)), (Ob.box (AV.d (TApiPosting.e (a0.Postings.getD i767 default))))] 89 (AV.map 1) (AV.d (DV.i .i64 (midx s780 (⟨(a0.Postings.getD i767 default).Debit, (a0.Postings.getD i767 default).Entity, (a0.Postings.getD i767 default).Partner, (a0.Postings.getD i767 default).Ref⟩ : TConsolidationSpot) : Int))) (AV.d (DV.i .i64 (IntKind.i64.wrap ((mget s780 (⟨(a0.Postings.getD i767 default).Debit, (a0.Postings.getD i767 default).Entity, (a0.Postings.getD i767 default).Partner, (a0.Postings.getD i767 default).Ref⟩ : TConsolidationSpot) 0) + ((a0.Postings.getD i767 default).Amount))))) [(Ob.box (AV.d (TApiLedger.e a0))), (eM TConsolidationSpot.e (DV.i .i64) (mupd s780 (⟨(a0.Postings.getD i767 default).Debit, (a0.Postings.getD i767 default).Entity, (a0.Postings.getD i767 default).Partner, (a0.Postings.getD i767 default).Ref⟩ : TConsolidationSpot) (IntKind.i64.wrap ((mget s780 (⟨(a0.Postings.getD i767 default).Debit, (a0.Postings.getD i767 default).Entity, (a0.Postings.getD i767 default).Partner, (a0.Postings.getD i767 default).Ref⟩ : TConsolidationSpot) 0) + ((a0.Postings.getD i767 default).Amount))))), (Ob.box (AV.d (TApiPosting.e (a0.Postings.getD i767 default))))]]) (by kernel_rfl) (by kernel_rfl) (by kernel_rfl) (And.intro (look_ok (kt := 92) (et := 3) (eK := TConsolidationSpot.e) (eV := (DV.i .i64)) (l := s780) (k := (⟨(a0.Postings.getD i767 default).Debit, (a0.Postings.getD i767 default).Entity, (a0.Postings.getD i767 default).Partner, (a0.Postings.getD i767 default).Ref⟩ : TConsolidationSpot)) (z := 0) (by kernel_rfl) rfl keyEq92 (by kernel_rfl)) (And.intro (look_okE (kt := 92) (et := 3) (eK := TConsolidationSpot.e) (eV := (DV.i .i64)) (l := s780) (k := (⟨(a0.Postings.getD i767 default).Debit, (a0.Postings.getD i767 default).Entity, (a0.Postings.getD i767 default).Partner, (a0.Postings.getD i767 default).Ref⟩ : TConsolidationSpot)) (k' := (⟨(a0.Postings.getD i767 default).Debit, (a0.Postings.getD i767 default).Entity, (a0.Postings.getD i767 default).Partner, (a0.Postings.getD i767 default).Ref⟩ : TConsolidationSpot)) (z := 0) (by kernel_rfl) rfl keyEq92 (by kernel_rfl)) (And.intro (ent_ok (kt := 92) (et := 3) (eK := TConsolidationSpot.e) (eV := (DV.i .i64)) (l := s780) (k := (⟨(a0.Postings.getD i767 default).Debit, (a0.Postings.getD i767 default).Entity, (a0.Postings.getD i767 default).Partner, (a0.Postings.getD i767 default).Ref⟩ : TConsolidationSpot)) (z := 0) (by kernel_rfl) rfl keyEq92 rfl (by kernel_rfl)) (And.intro (sto_ok' (eK := TConsolidationSpot.e) (eV := (DV.i .i64)) (l := s780) (k := (⟨(a0.Postings.getD i767 default).Debit, (a0.Postings.getD i767 default).Entity, (a0.Postings.getD i767 default).Partner, (a0.Postings.getD i767 default).Ref⟩ : TConsolidationSpot)) (v := (IntKind.i64.wrap ((mget s780 (⟨(a0.Postings.getD i767 default).Debit, (a0.Postings.getD i767 default).Entity, (a0.Postings.getD i767 default).Partner, (a0.Postings.getD i767 default).Ref⟩ : TConsolidationSpot) 0) + ((a0.Postings.getD i767 default).Amount)))) (z := 0) rfl) trivial)))) ?_
          refine aws_drawn (D := ⟨[[], [], [1], [], [3], [], [5], [], [7], [8, 7, 6, 5, 4, 3, 2, 1], [9, 8, 7, 6, 5, 4, 3, 2, 1, 0], [], [11], [12, 11, 10, 9, 8, 7, 6, 5, 4, 3, 2, 1, 0], [12, 11, 9, 8, 7, 6, 5, 4, 3, 2, 1, 0], [14, 12, 11, 9, 8, 7, 6, 5, 4, 3, 2, 1, 0], [15, 14, 13, 12, 11, 10, 9, 8, 7, 6, 5, 4, 3, 2, 1, 0]], [14, 16]⟩) (hs := [(10, { h := .callr (AV.d (DV.i .i64 (mget (mupd s780 (⟨(a0.Postings.getD i767 default).Debit, (a0.Postings.getD i767 default).Entity, (a0.Postings.getD i767 default).Partner, (a0.Postings.getD i767 default).Ref⟩ : TConsolidationSpot) (IntKind.i64.wrap ((mget s780 (⟨(a0.Postings.getD i767 default).Debit, (a0.Postings.getD i767 default).Entity, (a0.Postings.getD i767 default).Partner, (a0.Postings.getD i767 default).Ref⟩ : TConsolidationSpot) 0) + ((a0.Postings.getD i767 default).Amount)))) (⟨(a0.Postings.getD i767 default).Credit, (a0.Postings.getD i767 default).Entity, (a0.Postings.getD i767 default).Partner, (a0.Postings.getD i767 default).Ref⟩ : TConsolidationSpot) 0))) }), (14, { h := .call (AV.tup [(AV.d (DV.i .i64 (mget (mupd s780 (⟨(a0.Postings.getD i767 default).Debit, (a0.Postings.getD i767 default).Entity, (a0.Postings.getD i767 default).Partner, (a0.Postings.getD i767 default).Ref⟩ : TConsolidationSpot) (IntKind.i64.wrap ((mget s780 (⟨(a0.Postings.getD i767 default).Debit, (a0.Postings.getD i767 default).Entity, (a0.Postings.getD i767 default).Partner, (a0.Postings.getD i767 default).Ref⟩ : TConsolidationSpot) 0) + ((a0.Postings.getD i767 default).Amount)))) (⟨(a0.Postings.getD i767 default).Credit, (a0.Postings.getD i767 default).Entity, (a0.Postings.getD i767 default).Partner, (a0.Postings.getD i767 default).Ref⟩ : TConsolidationSpot) 0))), (AV.d (DV.i .i64 (midx (mupd s780 (⟨(a0.Postings.getD i767 default).Debit, (a0.Postings.getD i767 default).Entity, (a0.Postings.getD i767 default).Partner, (a0.Postings.getD i767 default).Ref⟩ : TConsolidationSpot) (IntKind.i64.wrap ((mget s780 (⟨(a0.Postings.getD i767 default).Debit, (a0.Postings.getD i767 default).Entity, (a0.Postings.getD i767 default).Partner, (a0.Postings.getD i767 default).Ref⟩ : TConsolidationSpot) 0) + ((a0.Postings.getD i767 default).Amount)))) (⟨(a0.Postings.getD i767 default).Credit, (a0.Postings.getD i767 default).Entity, (a0.Postings.getD i767 default).Partner, (a0.Postings.getD i767 default).Ref⟩ : TConsolidationSpot) : Int)))]) [(Ob.box (AV.d (TApiLedger.e a0))), (eM TConsolidationSpot.e (DV.i .i64) (ment (mupd s780 (⟨(a0.Postings.getD i767 default).Debit, (a0.Postings.getD i767 default).Entity, (a0.Postings.getD i767 default).Partner, (a0.Postings.getD i767 default).Ref⟩ : TConsolidationSpot) (IntKind.i64.wrap ((mget s780 (⟨(a0.Postings.getD i767 default).Debit, (a0.Postings.getD i767 default).Entity, (a0.Postings.getD i767 default).Partner, (a0.Postings.getD i767 default).Ref⟩ : TConsolidationSpot) 0) + ((a0.Postings.getD i767 default).Amount)))) (⟨(a0.Postings.getD i767 default).Credit, (a0.Postings.getD i767 default).Entity, (a0.Postings.getD i767 default).Partner, (a0.Postings.getD i767 default).Ref⟩ : TConsolidationSpot) 0)), (Ob.box (AV.d (TApiPosting.e (a0.Postings.getD i767 default))))] }), (16, { h := .call .bot [(Ob.box (AV.d (TApiLedger.e a0))), (eM TConsolidationSpot.e (DV.i .i64) (mupd (mupd s780 (⟨(a0.Postings.getD i767 default).Debit, (a0.Postings.getD i767 default).Entity, (a0.Postings.getD i767 default).Partner, (a0.Postings.getD i767 default).Ref⟩ : TConsolidationSpot) (IntKind.i64.wrap ((mget s780 (⟨(a0.Postings.getD i767 default).Debit, (a0.Postings.getD i767 default).Entity, (a0.Postings.getD i767 default).Partner, (a0.Postings.getD i767 default).Ref⟩ : TConsolidationSpot) 0) + ((a0.Postings.getD i767 default).Amount)))) (⟨(a0.Postings.getD i767 default).Credit, (a0.Postings.getD i767 default).Entity, (a0.Postings.getD i767 default).Partner, (a0.Postings.getD i767 default).Ref⟩ : TConsolidationSpot) (IntKind.i64.wrap ((mget (mupd s780 (⟨(a0.Postings.getD i767 default).Debit, (a0.Postings.getD i767 default).Entity, (a0.Postings.getD i767 default).Partner, (a0.Postings.getD i767 default).Ref⟩ : TConsolidationSpot) (IntKind.i64.wrap ((mget s780 (⟨(a0.Postings.getD i767 default).Debit, (a0.Postings.getD i767 default).Entity, (a0.Postings.getD i767 default).Partner, (a0.Postings.getD i767 default).Ref⟩ : TConsolidationSpot) 0) + ((a0.Postings.getD i767 default).Amount)))) (⟨(a0.Postings.getD i767 default).Credit, (a0.Postings.getD i767 default).Entity, (a0.Postings.getD i767 default).Partner, (a0.Postings.getD i767 default).Ref⟩ : TConsolidationSpot) 0) - ((a0.Postings.getD i767 default).Amount))))), (Ob.box (AV.d (TApiPosting.e (a0.Postings.getD i767 default))))] })]) (live := [1, 5, 14, 15, 16]) (fr' := [(1, (AV.d (DV.i .i64 a1))), (5, (AV.map 1)), (14, (AV.d (eL TApiPosting.e a0.Postings))), (15, (AV.d (DV.i .i64 (a0.Postings.length : Int)))), (16, (AV.d (DV.i .i64 (i767 : Int))))]) (L' := [(Ob.box (AV.d (TApiLedger.e a0))), (eM TConsolidationSpot.e (DV.i .i64) (mupd (mupd s780 (⟨(a0.Postings.getD i767 default).Debit, (a0.Postings.getD i767 default).Entity, (a0.Postings.getD i767 default).Partner, (a0.Postings.getD i767 default).Ref⟩ : TConsolidationSpot) (IntKind.i64.wrap ((mget s780 (⟨(a0.Postings.getD i767 default).Debit, (a0.Postings.getD i767 default).Entity, (a0.Postings.getD i767 default).Partner, (a0.Postings.getD i767 default).Ref⟩ : TConsolidationSpot) 0) + ((a0.Postings.getD i767 default).Amount)))) (⟨(a0.Postings.getD i767 default).Credit, (a0.Postings.getD i767 default).Entity, (a0.Postings.getD i767 default).Partner, (a0.Postings.getD i767 default).Ref⟩ : TConsolidationSpot) (IntKind.i64.wrap ((mget (mupd s780 (⟨(a0.Postings.getD i767 default).Debit, (a0.Postings.getD i767 default).Entity, (a0.Postings.getD i767 default).Partner, (a0.Postings.getD i767 default).Ref⟩ : TConsolidationSpot) (IntKind.i64.wrap ((mget s780 (⟨(a0.Postings.getD i767 default).Debit, (a0.Postings.getD i767 default).Entity, (a0.Postings.getD i767 default).Partner, (a0.Postings.getD i767 default).Ref⟩ : TConsolidationSpot) 0) + ((a0.Postings.getD i767 default).Amount)))) (⟨(a0.Postings.getD i767 default).Credit, (a0.Postings.getD i767 default).Entity, (a0.Postings.getD i767 default).Partner, (a0.Postings.getD i767 default).Ref⟩ : TConsolidationSpot) 0) - ((a0.Postings.getD i767 default).Amount))))), (Ob.box (AV.d (TApiPosting.e (a0.Postings.getD i767 default))))]) (C := [LookOk Try.prog [(Ob.box (AV.d (TApiLedger.e a0))), (eM TConsolidationSpot.e (DV.i .i64) (mupd s780 (⟨(a0.Postings.getD i767 default).Debit, (a0.Postings.getD i767 default).Entity, (a0.Postings.getD i767 default).Partner, (a0.Postings.getD i767 default).Ref⟩ : TConsolidationSpot) (IntKind.i64.wrap ((mget s780 (⟨(a0.Postings.getD i767 default).Debit, (a0.Postings.getD i767 default).Entity, (a0.Postings.getD i767 default).Partner, (a0.Postings.getD i767 default).Ref⟩ : TConsolidationSpot) 0) + ((a0.Postings.getD i767 default).Amount))))), (Ob.box (AV.d (TApiPosting.e (a0.Postings.getD i767 default))))] 89 (AV.map 1) (AV.d (TConsolidationSpot.e (⟨(a0.Postings.getD i767 default).Credit, (a0.Postings.getD i767 default).Entity, (a0.Postings.getD i767 default).Partner, (a0.Postings.getD i767 default).Ref⟩ : TConsolidationSpot))) false (AV.d (DV.i .i64 (mget (mupd s780 (⟨(a0.Postings.getD i767 default).Debit, (a0.Postings.getD i767 default).Entity, (a0.Postings.getD i767 default).Partner, (a0.Postings.getD i767 default).Ref⟩ : TConsolidationSpot) (IntKind.i64.wrap ((mget s780 (⟨(a0.Postings.getD i767 default).Debit, (a0.Postings.getD i767 default).Entity, (a0.Postings.getD i767 default).Partner, (a0.Postings.getD i767 default).Ref⟩ : TConsolidationSpot) 0) + ((a0.Postings.getD i767 default).Amount)))) (⟨(a0.Postings.getD i767 default).Credit, (a0.Postings.getD i767 default).Entity, (a0.Postings.getD i767 default).Partner, (a0.Postings.getD i767 default).Ref⟩ : TConsolidationSpot) 0))), LookOk Try.prog [(Ob.box (AV.d (TApiLedger.e a0))), (eM TConsolidationSpot.e (DV.i .i64) (ment (mupd s780 (⟨(a0.Postings.getD i767 default).Debit, (a0.Postings.getD i767 default).Entity, (a0.Postings.getD i767 default).Partner, (a0.Postings.getD i767 default).Ref⟩ : TConsolidationSpot) (IntKind.i64.wrap ((mget s780 (⟨(a0.Postings.getD i767 default).Debit, (a0.Postings.getD i767 default).Entity, (a0.Postings.getD i767 default).Partner, (a0.Postings.getD i767 default).Ref⟩ : TConsolidationSpot) 0) + ((a0.Postings.getD i767 default).Amount)))) (⟨(a0.Postings.getD i767 default).Credit, (a0.Postings.getD i767 default).Entity, (a0.Postings.getD i767 default).Partner, (a0.Postings.getD i767 default).Ref⟩ : TConsolidationSpot) 0)), (Ob.box (AV.d (TApiPosting.e (a0.Postings.getD i767 default))))] 89 (AV.map 1) (AV.d (TConsolidationSpot.e (⟨(a0.Postings.getD i767 default).Credit, (a0.Postings.getD i767 default).Entity, (a0.Postings.getD i767 default).Partner, (a0.Postings.getD i767 default).Ref⟩ : TConsolidationSpot))) false (AV.d (DV.i .i64 (mget (mupd s780 (⟨(a0.Postings.getD i767 default).Debit, (a0.Postings.getD i767 default).Entity, (a0.Postings.getD i767 default).Partner, (a0.Postings.getD i767 default).Ref⟩ : TConsolidationSpot) (IntKind.i64.wrap ((mget s780 (⟨(a0.Postings.getD i767 default).Debit, (a0.Postings.getD i767 default).Entity, (a0.Postings.getD i767 default).Partner, (a0.Postings.getD i767 default).Ref⟩ : TConsolidationSpot) 0) + ((a0.Postings.getD i767 default).Amount)))) (⟨(a0.Postings.getD i767 default).Credit, (a0.Postings.getD i767 default).Entity, (a0.Postings.getD i767 default).Partner, (a0.Postings.getD i767 default).Ref⟩ : TConsolidationSpot) 0))), EntOk Try.prog [(Ob.box (AV.d (TApiLedger.e a0))), (eM TConsolidationSpot.e (DV.i .i64) (mupd s780 (⟨(a0.Postings.getD i767 default).Debit, (a0.Postings.getD i767 default).Entity, (a0.Postings.getD i767 default).Partner, (a0.Postings.getD i767 default).Ref⟩ : TConsolidationSpot) (IntKind.i64.wrap ((mget s780 (⟨(a0.Postings.getD i767 default).Debit, (a0.Postings.getD i767 default).Entity, (a0.Postings.getD i767 default).Partner, (a0.Postings.getD i767 default).Ref⟩ : TConsolidationSpot) 0) + ((a0.Postings.getD i767 default).Amount))))), (Ob.box (AV.d (TApiPosting.e (a0.Postings.getD i767 default))))] 89 (AV.map 1) (AV.d (TConsolidationSpot.e (⟨(a0.Postings.getD i767 default).Credit, (a0.Postings.getD i767 default).Entity, (a0.Postings.getD i767 default).Partner, (a0.Postings.getD i767 default).Ref⟩ : TConsolidationSpot))) (AV.tup [(AV.d (DV.i .i64 (mget (mupd s780 (⟨(a0.Postings.getD i767 default).Debit, (a0.Postings.getD i767 default).Entity, (a0.Postings.getD i767 default).Partner, (a0.Postings.getD i767 default).Ref⟩ : TConsolidationSpot) (IntKind.i64.wrap ((mget s780 (⟨(a0.Postings.getD i767 default).Debit, (a0.Postings.getD i767 default).Entity, (a0.Postings.getD i767 default).Partner, (a0.Postings.getD i767 default).Ref⟩ : TConsolidationSpot) 0) + ((a0.Postings.getD i767 default).Amount)))) (⟨(a0.Postings.getD i767 default).Credit, (a0.Postings.getD i767 default).Entity, (a0.Postings.getD i767 default).Partner, (a0.Postings.getD i767 default).Ref⟩ : TConsolidationSpot) 0))), (AV.d (DV.i .i64 (midx (mupd s780 (⟨(a0.Postings.getD i767 default).Debit, (a0.Postings.getD i767 default).Entity, (a0.Postings.getD i767 default).Partner, (a0.Postings.getD i767 default).Ref⟩ : TConsolidationSpot) (IntKind.i64.wrap ((mget s780 (⟨(a0.Postings.getD i767 default).Debit, (a0.Postings.getD i767 default).Entity, (a0.Postings.getD i767 default).Partner, (a0.Postings.getD i767 default).Ref⟩ : TConsolidationSpot) 0) + ((a0.Postings.getD i767 default).Amount)))) (⟨(a0.Postings.getD i767 default).Credit, (a0.Postings.getD i767 default).Entity, (a0.Postings.getD i767 default).Partner, (a0.Postings.getD i767 default).Ref⟩ : TConsolidationSpot) : Int)))]) [(Ob.box (AV.d (TApiLedger.e a0))), (eM TConsolidationSpot.e (DV.i .i64) (ment (mupd s780 (⟨(a0.Postings.getD i767 default).Debit, (a0.Postings.getD i767 default).Entity, (a0.Postings.getD i767 default).Partner, (a0.Postings.getD i767 default).Ref⟩ : TConsolidationSpot) (IntKind.i64.wrap ((mget s780 (⟨(a0.Postings.getD i767 default).Debit, (a0.Postings.getD i767 default).Entity, (a0.Postings.getD i767 default).Partner, (a0.Postings.getD i767 default).Ref⟩ : TConsolidationSpot) 0) + ((a0.Postings.getD i767 default).Amount)))) (⟨(a0.Postings.getD i767 default).Credit, (a0.Postings.getD i767 default).Entity, (a0.Postings.getD i767 default).Partner, (a0.Postings.getD i767 default).Ref⟩ : TConsolidationSpot) 0)), (Ob.box (AV.d (TApiPosting.e (a0.Postings.getD i767 default))))], StoOk Try.prog [(Ob.box (AV.d (TApiLedger.e a0))), (eM TConsolidationSpot.e (DV.i .i64) (ment (mupd s780 (⟨(a0.Postings.getD i767 default).Debit, (a0.Postings.getD i767 default).Entity, (a0.Postings.getD i767 default).Partner, (a0.Postings.getD i767 default).Ref⟩ : TConsolidationSpot) (IntKind.i64.wrap ((mget s780 (⟨(a0.Postings.getD i767 default).Debit, (a0.Postings.getD i767 default).Entity, (a0.Postings.getD i767 default).Partner, (a0.Postings.getD i767 default).Ref⟩ : TConsolidationSpot) 0) + ((a0.Postings.getD i767 default).Amount)))) (⟨(a0.Postings.getD i767 default).Credit, (a0.Postings.getD i767 default).Entity, (a0.Postings.getD i767 default).Partner, (a0.Postings.getD i767 default).Ref⟩ : TConsolidationSpot) 0)), (Ob.box (AV.d (TApiPosting.e (a0.Postings.getD i767 default))))] 89 (AV.map 1) (AV.d (DV.i .i64 (midx (mupd s780 (⟨(a0.Postings.getD i767 default).Debit, (a0.Postings.getD i767 default).Entity, (a0.Postings.getD i767 default).Partner, (a0.Postings.getD i767 default).Ref⟩ : TConsolidationSpot) (IntKind.i64.wrap ((mget s780 (⟨(a0.Postings.getD i767 default).Debit, (a0.Postings.getD i767 default).Entity, (a0.Postings.getD i767 default).Partner, (a0.Postings.getD i767 default).Ref⟩ : TConsolidationSpot) 0) + ((a0.Postings.getD i767 default).Amount)))) (⟨(a0.Postings.getD i767 default).Credit, (a0.Postings.getD i767 default).Entity, (a0.Postings.getD i767 default).Partner, (a0.Postings.getD i767 default).Ref⟩ : TConsolidationSpot) : Int))) (AV.d (DV.i .i64 (IntKind.i64.wrap ((mget (mupd s780 (⟨(a0.Postings.getD i767 default).Debit, (a0.Postings.getD i767 default).Entity, (a0.Postings.getD i767 default).Partner, (a0.Postings.getD i767 default).Ref⟩ : TConsolidationSpot) (IntKind.i64.wrap ((mget s780 (⟨(a0.Postings.getD i767 default).Debit, (a0.Postings.getD i767 default).Entity, (a0.Postings.getD i767 default).Partner, (a0.Postings.getD i767 default).Ref⟩ : TConsolidationSpot) 0) + ((a0.Postings.getD i767 default).Amount)))) (⟨(a0.Postings.getD i767 default).Credit, (a0.Postings.getD i767 default).Entity, (a0.Postings.getD i767 default).Partner, (a0.Postings.getD i767 default).Ref⟩ : TConsolidationSpot) 0) - ((a0.Postings.getD i767 default).Amount))))) [(Ob.box (AV.d (TApiLedger.e a0))), (eM TConsolidationSpot.e (DV.i .i64) (mupd (mupd s780 (⟨(a0.Postings.getD i767 default).Debit, (a0.Postings.getD i767 default).Entity, (a0.Postings.getD i767 default).Partner, (a0.Postings.getD i767 default).Ref⟩ : TConsolidationSpot) (IntKind.i64.wrap ((mget s780 (⟨(a0.Postings.getD i767 default).Debit, (a0.Postings.getD i767 default).Entity, (a0.Postings.getD i767 default).Partner, (a0.Postings.getD i767 default).Ref⟩ : TConsolidationSpot) 0) + ((a0.Postings.getD i767 default).Amount)))) (⟨(a0.Postings.getD i767 default).Credit, (a0.Postings.getD i767 default).Entity, (a0.Postings.getD i767 default).Partner, (a0.Postings.getD i767 default).Ref⟩ : TConsolidationSpot) (IntKind.i64.wrap ((mget (mupd s780 (⟨(a0.Postings.getD i767 default).Debit, (a0.Postings.getD i767 default).Entity, (a0.Postings.getD i767 default).Partner, (a0.Postings.getD i767 default).Ref⟩ : TConsolidationSpot) (IntKind.i64.wrap ((mget s780 (⟨(a0.Postings.getD i767 default).Debit, (a0.Postings.getD i767 default).Entity, (a0.Postings.getD i767 default).Partner, (a0.Postings.getD i767 default).Ref⟩ : TConsolidationSpot) 0) + ((a0.Postings.getD i767 default).Amount)))) (⟨(a0.Postings.getD i767 default).Credit, (a0.Postings.getD i767 default).Entity, (a0.Postings.getD i767 default).Partner, (a0.Postings.getD i767 default).Ref⟩ : TConsolidationSpot) 0) - ((a0.Postings.getD i767 default).Amount))))), (Ob.box (AV.d (TApiPosting.e (a0.Postings.getD i767 default))))]]) (by kernel_rfl) (by kernel_rfl) (by kernel_rfl) (And.intro (look_ok (kt := 92) (et := 3) (eK := TConsolidationSpot.e) (eV := (DV.i .i64)) (l := (mupd s780 (⟨(a0.Postings.getD i767 default).Debit, (a0.Postings.getD i767 default).Entity, (a0.Postings.getD i767 default).Partner, (a0.Postings.getD i767 default).Ref⟩ : TConsolidationSpot) (IntKind.i64.wrap ((mget s780 (⟨(a0.Postings.getD i767 default).Debit, (a0.Postings.getD i767 default).Entity, (a0.Postings.getD i767 default).Partner, (a0.Postings.getD i767 default).Ref⟩ : TConsolidationSpot) 0) + ((a0.Postings.getD i767 default).Amount))))) (k := (⟨(a0.Postings.getD i767 default).Credit, (a0.Postings.getD i767 default).Entity, (a0.Postings.getD i767 default).Partner, (a0.Postings.getD i767 default).Ref⟩ : TConsolidationSpot)) (z := 0) (by kernel_rfl) rfl keyEq92 (by kernel_rfl)) (And.intro (look_okE (kt := 92) (et := 3) (eK := TConsolidationSpot.e) (eV := (DV.i .i64)) (l := (mupd s780 (⟨(a0.Postings.getD i767 default).Debit, (a0.Postings.getD i767 default).Entity, (a0.Postings.getD i767 default).Partner, (a0.Postings.getD i767 default).Ref⟩ : TConsolidationSpot) (IntKind.i64.wrap ((mget s780 (⟨(a0.Postings.getD i767 default).Debit, (a0.Postings.getD i767 default).Entity, (a0.Postings.getD i767 default).Partner, (a0.Postings.getD i767 default).Ref⟩ : TConsolidationSpot) 0) + ((a0.Postings.getD i767 default).Amount))))) (k := (⟨(a0.Postings.getD i767 default).Credit, (a0.Postings.getD i767 default).Entity, (a0.Postings.getD i767 default).Partner, (a0.Postings.getD i767 default).Ref⟩ : TConsolidationSpot)) (k' := (⟨(a0.Postings.getD i767 default).Credit, (a0.Postings.getD i767 default).Entity, (a0.Postings.getD i767 default).Partner, (a0.Postings.getD i767 default).Ref⟩ : TConsolidationSpot)) (z := 0) (by kernel_rfl) rfl keyEq92 (by kernel_rfl)) (And.intro (ent_ok (kt := 92) (et := 3) (eK := TConsolidationSpot.e) (eV := (DV.i .i64)) (l := (mupd s780 (⟨(a0.Postings.getD i767 default).Debit, (a0.Postings.getD i767 default).Entity, (a0.Postings.getD i767 default).Partner, (a0.Postings.getD i767 default).Ref⟩ : TConsolidationSpot) (IntKind.i64.wrap ((mget s780 (⟨(a0.Postings.getD i767 default).Debit, (a0.Postings.getD i767 default).Entity, (a0.Postings.getD i767 default).Partner, (a0.Postings.getD i767 default).Ref⟩ : TConsolidationSpot) 0) + ((a0.Postings.getD i767 default).Amount))))) (k := (⟨(a0.Postings.getD i767 default).Credit, (a0.Postings.getD i767 default).Entity, (a0.Postings.getD i767 default).Partner, (a0.Postings.getD i767 default).Ref⟩ : TConsolidationSpot)) (z := 0) (by kernel_rfl) rfl keyEq92 rfl (by kernel_rfl)) (And.intro (sto_ok' (eK := TConsolidationSpot.e) (eV := (DV.i .i64)) (l := (mupd s780 (⟨(a0.Postings.getD i767 default).Debit, (a0.Postings.getD i767 default).Entity, (a0.Postings.getD i767 default).Partner, (a0.Postings.getD i767 default).Ref⟩ : TConsolidationSpot) (IntKind.i64.wrap ((mget s780 (⟨(a0.Postings.getD i767 default).Debit, (a0.Postings.getD i767 default).Entity, (a0.Postings.getD i767 default).Partner, (a0.Postings.getD i767 default).Ref⟩ : TConsolidationSpot) 0) + ((a0.Postings.getD i767 default).Amount))))) (k := (⟨(a0.Postings.getD i767 default).Credit, (a0.Postings.getD i767 default).Entity, (a0.Postings.getD i767 default).Partner, (a0.Postings.getD i767 default).Ref⟩ : TConsolidationSpot)) (v := (IntKind.i64.wrap ((mget (mupd s780 (⟨(a0.Postings.getD i767 default).Debit, (a0.Postings.getD i767 default).Entity, (a0.Postings.getD i767 default).Partner, (a0.Postings.getD i767 default).Ref⟩ : TConsolidationSpot) (IntKind.i64.wrap ((mget s780 (⟨(a0.Postings.getD i767 default).Debit, (a0.Postings.getD i767 default).Entity, (a0.Postings.getD i767 default).Partner, (a0.Postings.getD i767 default).Ref⟩ : TConsolidationSpot) 0) + ((a0.Postings.getD i767 default).Amount)))) (⟨(a0.Postings.getD i767 default).Credit, (a0.Postings.getD i767 default).Entity, (a0.Postings.getD i767 default).Partner, (a0.Postings.getD i767 default).Ref⟩ : TConsolidationSpot) 0) - ((a0.Postings.getD i767 default).Amount)))) (z := 0) rfl) trivial)))) ?_
          refine aws_nil ?_
          obtain rfl := Option.some.inj hx784
          exact ⟨_, rfl, ⟨(frLe_at (k := 0) rfl (LeV.refl _) (frLe_at (k := 1) rfl (LeV.refl _) (frLe_at (k := 2) rfl (LeV.refl _) (frLe_at (k := 3) rfl (LeV.refl _) (frLe_at (k := 4) rfl (LeV.refl _) frLe_nil))))), .inr ⟨⟨[(Ob.box (AV.d (TApiPosting.e (a0.Postings.getD i767 default))))], rfl, lsOk (And.intro rfl (And.intro (eM_lt _ _ _ _) trivial))⟩, List.all_eq_true.1 (by kernel_rfl)⟩⟩⟩
        · replace hx784 := iteF hb786 hx784
          refine aws_skip ?_
          refine aws_nil ?_
          obtain rfl := Option.some.inj hx784
          exact ⟨_, rfl, ⟨(frLe_at (k := 0) rfl (LeV.refl _) (frLe_at (k := 1) rfl (LeV.refl _) (frLe_at (k := 3) rfl (LeV.refl _) (frLe_at (k := 4) rfl (LeV.refl _) (frLe_at (k := 5) rfl (LeV.refl _) frLe_nil))))), .inr ⟨⟨[(Ob.box (AV.d (TApiPosting.e (a0.Postings.getD i767 default))))], rfl, lsOk (And.intro rfl (And.intro (eM_lt _ _ _ _) trivial))⟩, List.all_eq_true.1 (by kernel_rfl)⟩⟩⟩
      · subst hq
        refine aws_region (hs := []) (live := [1, 5, 14, 15, 16]) (fr' := [(1, (AV.d (DV.i .i64 a1))), (5, (AV.map 1)), (14, (AV.d (eL TApiPosting.e a0.Postings))), (15, (AV.d (DV.i .i64 (a0.Postings.length : Int)))), (16, (AV.d (DV.i .i64 (IntKind.i64.wrap ((i767 : Int) + 1)))))]) (L' := [(Ob.box (AV.d (TApiLedger.e a0))), (eM TConsolidationSpot.e (DV.i .i64) s783)]) (C := []) (by kernel_rfl) trivial ?_
        refine aws_nil ?_
        obtain rfl := Option.some.inj h
        exact ⟨_, rfl, ⟨(frLe_at (k := 0) rfl (LeV.refl _) (frLe_at (k := 1) rfl (LeV.refl _) (frLe_at (k := 2) rfl (LeV.refl _) (frLe_at (k := 3) rfl (LeV.refl _) (frLe_at (k := 4) rfl (LeV.of_eq (congrArg (fun n => AV.d (DV.i .i64 n)) (wrap_succ (by omega)))) frLe_nil))))), .inl rfl⟩⟩
    · refine aws_seq ?_
      refine aws_region (hs := []) (live := [1, 5, 14, 15, 16, 17]) (fr' := [(1, (AV.d (DV.i .i64 a1))), (5, (AV.map 1)), (14, (AV.d (eL TApiPosting.e a0.Postings))), (15, (AV.d (DV.i .i64 (a0.Postings.length : Int)))), (16, (AV.d (DV.i .i64 ((a0.Postings.length : Nat) : Int)))), (17, (AV.d (DV.b (decide (((a0.Postings.length : Nat) : Int) < (a0.Postings.length : Int))))))]) (L' := [(Ob.box (AV.d (TApiLedger.e a0))), (eM TConsolidationSpot.e (DV.i .i64) s780)]) (C := []) (by kernel_rfl) trivial ?_
      refine aws_seq ?_
      refine aws_cond (b := (decide (((a0.Postings.length : Nat) : Int) < (a0.Postings.length : Int)))) (by kernel_rfl) (fun hb790 => absurd hb790 (Bool.eq_false_iff.mp (decide_eq_false (by omega)))) (fun hb790 => ?_)
      refine aws_exit ?_
      exact ⟨rfl, _, rfl, ⟨(frLe_at (k := 1) rfl (LeV.refl _) frLe_nil), .inl rfl⟩⟩
    · subst e
      exact nomatch (show (none : Option _) = some _ from h)
    · subst e
      refine aws_seq ?_
      refine aws_region (hs := []) (live := [4]) (fr' := [(4, (AV.map 1))]) (L' := [(Ob.box (AV.d (TApiLedger.e a0))), (eM TConsolidationSpot.e (DV.i .i64) s780)]) (C := []) (by kernel_rfl) trivial ?_
      refine aws_shift (H := NoH) (L' := [Ob.dead, (eM TConsolidationSpot.e (DV.i .i64) s780)]) (shift_kill (o := 0) (by simp)) (trF_refl _) ?_
      refine aws_ret ?_
      obtain rfl := Option.some.inj h
      exact ⟨.inr rfl, ⟨_, [], [], by kernel_rfl, trivial, (LeV.refl _), rfl⟩⟩

/-! 59 -/
theorem F59_ok {r : R59} (h : F59 = some r) : CallOk Try.prog 59 [] [] (V59 r) (L59 r) := by
  refine callOk_of_aw Try.func59 rfl (Nat.le_of_ble_eq_true (by kernel_rfl)) (Nat.le_of_ble_eq_true (by kernel_rfl)) rfl (lsOk trivial) (aw_of (Q := FQ Try.prog Try.f59 _ _) ?_)
  unfold F59 at h
  refine aws_seq ?_
  refine aws_region (hs := []) (live := [0]) (fr' := [(0, (AV.ptr 0 1 []))]) (L' := [(Ob.box (AV.d (DV.arr 4 2 fun j => (DV.agg [(DV.i .i64 0), (DV.i .i64 0), (DV.i .i64 0), (DV.i .i64 0)]))))]) (C := []) (by kernel_rfl) trivial ?_
  refine aws_seq ?_
  refine aws_region (hs := [(2, { cast := some (AV.d (eA 4 2 TConsolidationMutual.e (fun j => ([(⟨1, 140, 240, 1⟩ : TConsolidationMutual), (⟨2, 440, 540, (-1)⟩ : TConsolidationMutual)] : List TConsolidationMutual).getD j default))) })]) (live := [0]) (fr' := [(0, (AV.ptr 0 1 []))]) (L' := [(Ob.box (AV.d (eA 4 2 TConsolidationMutual.e (fun j => ([(⟨1, 140, 240, 1⟩ : TConsolidationMutual), (⟨2, 440, 540, (-1)⟩ : TConsolidationMutual)] : List TConsolidationMutual).getD j default))))]) (C := [0 < 2, 1 < 2, LeV (AV.d (DV.arr 4 2 fun j => if j = 1 then (DV.agg [(DV.i .i64 2), (DV.i .i64 440), (DV.i .i64 540), (DV.i .i64 (-1))]) else if j = 0 then (DV.agg [(DV.i .i64 1), (DV.i .i64 140), (DV.i .i64 240), (DV.i .i64 1)]) else (DV.agg [(DV.i .i64 0), (DV.i .i64 0), (DV.i .i64 0), (DV.i .i64 0)]))) (AV.d (eA 4 2 TConsolidationMutual.e (fun j => ([(⟨1, 140, 240, 1⟩ : TConsolidationMutual), (⟨2, 440, 540, (-1)⟩ : TConsolidationMutual)] : List TConsolidationMutual).getD j default)))]) (by kernel_rfl) (And.intro (by decide) (And.intro (by decide) (And.intro (leV_arr (fun | 0, _ => rfl | 1, _ => rfl | (k + 2), h => absurd h (by omega))) trivial))) ?_
  refine aws_ret ?_
  obtain rfl := Option.some.inj h
  exact ⟨.inr rfl, ⟨_, [], [(Ob.box (AV.d (eA 4 2 TConsolidationMutual.e (fun j => ([(⟨1, 140, 240, 1⟩ : TConsolidationMutual), (⟨2, 440, 540, (-1)⟩ : TConsolidationMutual)] : List TConsolidationMutual).getD j default))))], by kernel_rfl, trivial, (LeV.refl _), rfl⟩⟩

/-! 48 -/
theorem F48_ok {a0 : TConsolidationMutual} {a1 : TApiDifference} {a2 : Int} {a3 : Int} {p1 : (List TApiDifference)} {r : R48} (h : F48 a0 a1 a2 a3 p1 = some r) : CallOk Try.prog 48 [(AV.d (TConsolidationMutual.e a0)), (AV.d (TApiDifference.e a1)), (AV.d (DV.i .i64 a2)), (AV.d (DV.i .i64 a3)), (AV.ptr 0 1 [])] [(Ob.box (AV.ref 1 p1.length 0 p1.length)), (eS 5 TApiDifference.e p1)] (V48 r) (L48 r) := by
  refine callOk_of_aw Try.func48 rfl (Nat.le_of_ble_eq_true (by kernel_rfl)) (Nat.le_of_ble_eq_true (by kernel_rfl)) rfl (lsOk (And.intro rfl (And.intro (fun _ _ => rfl) trivial))) (aw_of (Q := FQ Try.prog Try.f48 _ _) ?_)
  unfold F48 at h
  refine aws_seq ?_
  refine aws_region (hs := []) (live := [2, 3, 4, 6]) (fr' := [(2, (AV.d (DV.i .i64 a2))), (3, (AV.d (DV.i .i64 a3))), (4, (AV.ptr 0 1 [])), (6, (AV.ptr 3 1 []))]) (L' := [(Ob.box (AV.ref 1 p1.length 0 p1.length)), (eS 5 TApiDifference.e p1), (Ob.box (AV.d (TConsolidationMutual.e a0))), (Ob.box (AV.d (TApiDifference.e a1)))]) (C := []) (by kernel_rfl) trivial ?_
  refine aws_seq ?_
  refine aws_region (hs := []) (live := [4, 6]) (fr' := [(4, (AV.ptr 0 1 [])), (6, (AV.ptr 3 1 []))]) (L' := [(Ob.box (AV.ref 1 p1.length 0 p1.length)), (eS 5 TApiDifference.e p1), (Ob.box (AV.d (TConsolidationMutual.e a0))), (Ob.box (AV.d (DV.agg [(DV.i .i64 a1.Kind), (DV.i .i64 a1.A), (DV.i .i64 a1.B), (DV.i .i64 a1.Ref), (DV.i .i64 (IntKind.i64.wrap (a2 - a3)))])))]) (C := []) (by kernel_rfl) trivial ?_
  refine aws_seq ?_
  refine aws_region (hs := []) (live := [4, 6, 15]) (fr' := [(4, (AV.ptr 0 1 [])), (6, (AV.ptr 3 1 [])), (15, (AV.d (DV.b ((IntKind.i64.wrap (a2 - a3)) != 0))))]) (L' := [(Ob.box (AV.ref 1 p1.length 0 p1.length)), (eS 5 TApiDifference.e p1), (Ob.box (AV.d (TConsolidationMutual.e a0))), (Ob.box (AV.d (DV.agg [(DV.i .i64 a1.Kind), (DV.i .i64 a1.A), (DV.i .i64 a1.B), (DV.i .i64 a1.Ref), (DV.i .i64 (IntKind.i64.wrap (a2 - a3)))])))]) (C := []) (by kernel_rfl) trivial ?_
  refine aws_cond (b := ((IntKind.i64.wrap (a2 - a3)) != 0)) (by kernel_rfl) (fun hb807 => ?_) (fun hb807 => ?_)
  · replace h := iteT hb807 h
    obtain ⟨⟨hc808, _⟩, h⟩ := guardP_some h
    refine aws_region (hs := [(2, { cast := some (AV.d (eL TApiDifference.e ([(⟨a1.Kind, a1.A, a1.B, a1.Ref, (IntKind.i64.wrap (a2 - a3))⟩ : TApiDifference)] : List TApiDifference))) }), (3, { cast := some (AV.ref 1 ((p1 ++ ([(⟨a1.Kind, a1.A, a1.B, a1.Ref, (IntKind.i64.wrap (a2 - a3))⟩ : TApiDifference)] : List TApiDifference)).length) 0 ((p1 ++ ([(⟨a1.Kind, a1.A, a1.B, a1.Ref, (IntKind.i64.wrap (a2 - a3))⟩ : TApiDifference)] : List TApiDifference)).length)), obs := [(1, (eS 5 TApiDifference.e (p1 ++ ([(⟨a1.Kind, a1.A, a1.B, a1.Ref, (IntKind.i64.wrap (a2 - a3))⟩ : TApiDifference)] : List TApiDifference))))] })]) (live := []) (fr' := []) (L' := [(Ob.box (AV.ref 1 ((p1 ++ ([(⟨a1.Kind, a1.A, a1.B, a1.Ref, (IntKind.i64.wrap (a2 - a3))⟩ : TApiDifference)] : List TApiDifference)).length) 0 ((p1 ++ ([(⟨a1.Kind, a1.A, a1.B, a1.Ref, (IntKind.i64.wrap (a2 - a3))⟩ : TApiDifference)] : List TApiDifference)).length))), (eS 5 TApiDifference.e (p1 ++ ([(⟨a1.Kind, a1.A, a1.B, a1.Ref, (IntKind.i64.wrap (a2 - a3))⟩ : TApiDifference)] : List TApiDifference))), (Ob.box (AV.d (TConsolidationMutual.e a0))), (Ob.box (AV.d (DV.agg [(DV.i .i64 a1.Kind), (DV.i .i64 a1.A), (DV.i .i64 a1.B), (DV.i .i64 a1.Ref), (DV.i .i64 (IntKind.i64.wrap (a2 - a3)))])))]) (C := [LeV (AV.d (DV.sl 1 (listF (DV.b false) [(DV.agg [(DV.i .i64 a1.Kind), (DV.i .i64 a1.A), (DV.i .i64 a1.B), (DV.i .i64 a1.Ref), (DV.i .i64 (IntKind.i64.wrap (a2 - a3)))])]))) (AV.d (eL TApiDifference.e ([(⟨a1.Kind, a1.A, a1.B, a1.Ref, (IntKind.i64.wrap (a2 - a3))⟩ : TApiDifference)] : List TApiDifference))), p1.length = p1.length, p1.length = p1.length, ∀ k, k < 1 → (AV.d (TApiDifference.e (([(⟨a1.Kind, a1.A, a1.B, a1.Ref, (IntKind.i64.wrap (a2 - a3))⟩ : TApiDifference)] : List TApiDifference).getD k default))).wd = 5, (p1.length + 1) * (2 * 40) ≤ 2 ^ 48, LeV (AV.ref 1 (p1.length + 1) 0 (p1.length + 1)) (AV.ref 1 ((p1 ++ ([(⟨a1.Kind, a1.A, a1.B, a1.Ref, (IntKind.i64.wrap (a2 - a3))⟩ : TApiDifference)] : List TApiDifference)).length) 0 ((p1 ++ ([(⟨a1.Kind, a1.A, a1.B, a1.Ref, (IntKind.i64.wrap (a2 - a3))⟩ : TApiDifference)] : List TApiDifference)).length)), OLe (Ob.seq 5 (p1.length + 1) (catF p1.length (fun j => AV.d (TApiDifference.e (p1.getD j default))) (fun j => AV.d (TApiDifference.e (([(⟨a1.Kind, a1.A, a1.B, a1.Ref, (IntKind.i64.wrap (a2 - a3))⟩ : TApiDifference)] : List TApiDifference).getD j default))))) (eS 5 TApiDifference.e (p1 ++ ([(⟨a1.Kind, a1.A, a1.B, a1.Ref, (IntKind.i64.wrap (a2 - a3))⟩ : TApiDifference)] : List TApiDifference)))]) (by kernel_rfl) (And.intro (leV_lit TApiDifference.e ([(⟨a1.Kind, a1.A, a1.B, a1.Ref, (IntKind.i64.wrap (a2 - a3))⟩ : TApiDifference)] : List TApiDifference)) (And.intro rfl (And.intro rfl (And.intro (fun _ _ => rfl) (And.intro hc808 (And.intro (leV_app (o := 1) (l := p1) (x := ([(⟨a1.Kind, a1.A, a1.B, a1.Ref, (IntKind.i64.wrap (a2 - a3))⟩ : TApiDifference)] : List TApiDifference))) (And.intro (oLe_app (e := TApiDifference.e) (l := p1) (x := ([(⟨a1.Kind, a1.A, a1.B, a1.Ref, (IntKind.i64.wrap (a2 - a3))⟩ : TApiDifference)] : List TApiDifference))) trivial))))))) ?_
    refine aws_nil ?_
    obtain rfl := Option.some.inj h
    exact ⟨.inl rfl, ⟨_, [], [(Ob.box (AV.d (TConsolidationMutual.e a0))), (Ob.box (AV.d (DV.agg [(DV.i .i64 a1.Kind), (DV.i .i64 a1.A), (DV.i .i64 a1.B), (DV.i .i64 a1.Ref), (DV.i .i64 (IntKind.i64.wrap (a2 - a3)))])))], by kernel_rfl, trivial, (LeV.refl _), rfl⟩⟩
  · replace h := iteF hb807 h
    refine aws_skip ?_
    refine aws_nil ?_
    obtain rfl := Option.some.inj h
    exact ⟨.inl rfl, ⟨_, [], [(Ob.box (AV.d (TConsolidationMutual.e a0))), (Ob.box (AV.d (DV.agg [(DV.i .i64 a1.Kind), (DV.i .i64 a1.A), (DV.i .i64 a1.B), (DV.i .i64 a1.Ref), (DV.i .i64 (IntKind.i64.wrap (a2 - a3)))])))], by kernel_rfl, trivial, (LeV.refl _), rfl⟩⟩

end Go.Proofs.Ytkkdclpleghppaa
