/- A part of the proof: what the functions compute, and that their calls return it. No condition. -/
import Derived.Test.YtkkdclpleghppaaG43D
import Derived.Test.YtkkdclpleghppaaLayX
import Derived.Test.YtkkdclpleghppaaTaFreeze
/- Calls of the functions return what the Lean functions say. No condition. -/
namespace Go.Proofs.Ytkkdclpleghppaa
open Go Go.TA

/-! 9 -/
theorem F9_ok {a0 : (List Int)} {r : R9} (h : F9 a0 = some r) : CallOk Try.prog 9 [(vl a0)] [] (V9 r) (L9 r) := by
  refine gF Try.func9 rfl (by kernel_rfl) (And.intro rfl trivial) ?_
  unfold F9 at h
  refine aws_seq (gT [] [(0, (vl a0))] (by kernel_rfl) ?_)
  refine aws_seq ?_
  obtain ⟨⟨hc3, hc4, _⟩, h⟩ := guardP_some h
  refine gR [(4, { cast := some (vl (a0.take (((if 900 < (a0.length : Int) then 900 else (a0.length : Int))).toNat))) })] [(2, (vp 0))] [(bx (DV.agg [(eL (DV.i .i64) (a0.take (((if 900 < (a0.length : Int) then 900 else (a0.length : Int))).toNat))), (DV.i .i64 0)]))] [(0 : Int) ≤ (if 900 < (a0.length : Int) then 900 else (a0.length : Int)), ((if 900 < (a0.length : Int) then 900 else (a0.length : Int))).toNat ≤ a0.length, LeV (AV.d (DV.sl (((if 900 < (a0.length : Int) then 900 else (a0.length : Int))).toNat - 0) fun j => (DV.i .i64) (a0.getD j default))) (vl (a0.take (((if 900 < (a0.length : Int) then 900 else (a0.length : Int))).toNat)))] (by kernel_rfl) (And.intro hc3 (And.intro hc4 (And.intro (leV_take hc4) trivial))) ?_
  refine aws_ret ?_
  obtain rfl := Option.some.inj h
  exact ⟨.inr rfl, ⟨_, [], [], by kernel_rfl, trivial, (LeV.refl _), rfl⟩⟩

/-! 19 -/
theorem F19_ok {a1 : Int} {p0 : TTreasuryplaySrc} {r : R19} (h : F19 a1 p0 = some r) : CallOk Try.prog 19 [(vp 0), (vi a1)] [(bx (TTreasuryplaySrc.e p0))] (V19 r) (L19 r) := by
  refine gF Try.func19 rfl (by kernel_rfl) (And.intro rfl trivial) ?_
  unfold F19 at h
  refine aws_seq (gT [] [(0, (vp 0)), (1, (vi a1))] (by kernel_rfl) ?_)
  refine aws_seq (aws_seq (gD ⟨[[], [0], [1, 0], [2, 1, 0], [], [4], [5, 4], [6, 5, 4], [7, 6, 5, 4], [8, 7, 6, 5, 4, 3, 2, 1, 0], [9, 8, 7, 6, 5, 4, 3, 2, 1, 0], [10, 9, 8, 7, 6, 5, 4, 3, 2, 1, 0], [11, 10, 9, 8, 7, 6, 5, 4, 3, 2, 1, 0], [12, 11, 10, 9, 8, 7, 6, 5, 4, 3, 2, 1, 0]], []⟩ [] [(0, (vp 0)), (1, (vi a1)), (18, (vb (bif (decide (p0.At ≥ (p0.L.length : Int))) then true else (decide (a1 < 1)))))] [(bx (TTreasuryplaySrc.e p0))] [] (by kernel_rfl) (by kernel_rfl) (by kernel_rfl) trivial ?_))
  refine aws_cond (b := (bif (decide (p0.At ≥ (p0.L.length : Int))) then true else (decide (a1 < 1)))) (by kernel_rfl) (fun hb11 => ?_) (fun hb11 => ?_)
  · replace h := iteT hb11 h
    refine aws_seq (gT [] [(4, (vi 0))] (by kernel_rfl) ?_)
    refine aws_ret ?_
    obtain rfl := Option.some.inj h
    exact ⟨.inr rfl, ⟨_, [], [], by kernel_rfl, trivial, (LeV.refl _), rfl⟩⟩
  · replace h := iteF hb11 h
    refine aws_skip (aws_seq (gR [] [(0, (vp 0)), (1, (vi a1))] [(bx (DV.agg [(eL (DV.i .i64) p0.L), (DV.i .i64 (IntKind.i64.wrap (p0.At + 1)))]))] [] (by kernel_rfl) trivial ?_))
    refine aws_seq ?_
    obtain ⟨⟨hc12, hc13, hc14, _⟩, h⟩ := guardP_some h
    refine gD ⟨[[], [0], [1, 0], [2, 1, 0], [], [4], [5, 4], [6, 5, 4], [7, 6, 5, 4], [8, 7, 6, 5, 4, 3, 2, 1, 0], [9, 8, 7, 6, 5, 4, 3, 2, 1, 0], [], [11, 10, 9, 8, 7, 6, 5, 4, 3, 2, 1, 0], [], [13, 12, 11, 10, 9, 8, 7, 6, 5, 4, 3, 2, 1, 0], [], [15, 14, 13, 12, 11, 10, 9, 8, 7, 6, 5, 4, 3, 2, 1, 0], [16, 15, 14, 13, 12, 11, 10, 9, 8, 7, 6, 5, 4, 3, 2, 1, 0]], []⟩ [] [(4, (vi ((IntKind.i64.wrap (((p0.L.getD (((IntKind.i64.wrap ((IntKind.i64.wrap (p0.At + 1)) - 1))).toNat) default).tmod a1) + a1)).tmod a1)))] [(bx (DV.agg [(eL (DV.i .i64) p0.L), (DV.i .i64 (IntKind.i64.wrap (p0.At + 1)))]))] [(0 : Int) ≤ (IntKind.i64.wrap ((IntKind.i64.wrap (p0.At + 1)) - 1)), ((IntKind.i64.wrap ((IntKind.i64.wrap (p0.At + 1)) - 1))).toNat < p0.L.length, (a1 : Int) ≠ 0, (a1 : Int) ≠ 0] (by kernel_rfl) (by kernel_rfl) (by kernel_rfl) (And.intro hc12 (And.intro hc13 (And.intro hc14 (And.intro hc14 trivial)))) ?_
    refine aws_ret ?_
    obtain rfl := Option.some.inj h
    exact ⟨.inr rfl, ⟨_, [], [], by kernel_rfl, trivial, (LeV.refl _), rfl⟩⟩

/-! 23 -/
theorem F23_ok {a1 : Int} {a2 : Int} {p0 : TTreasuryplaySrc} {r : R23} (h : F23 a1 a2 p0 = some r) : CallOk Try.prog 23 [(vp 0), (vi a1), (vi a2)] [(bx (TTreasuryplaySrc.e p0))] (V23 r) (L23 r) := by
  refine gF Try.func23 rfl (by kernel_rfl) (And.intro rfl trivial) ?_
  unfold F23 at h
  refine aws_seq (gT [] [(0, (vp 0)), (1, (vi a1)), (2, (vi a2))] (by kernel_rfl) ?_)
  refine aws_seq ?_
  obtain ⟨r23, hr24, h⟩ := bind_some' h
  refine gR [(6, { h := .callw (vi r23.1) [(0, (bx (TTreasuryplaySrc.e r23.2)))] [] })] [(6, (vi (IntKind.i64.wrap (a1 + r23.1))))] [(bx (TTreasuryplaySrc.e r23.2))] [CallOk Try.prog 19 [(vp 0), (vi (IntKind.i64.wrap ((IntKind.i64.wrap (a2 - a1)) + 1)))] [(bx (TTreasuryplaySrc.e p0))] (vi r23.1) [(bx (TTreasuryplaySrc.e r23.2))]] (by kernel_rfl) (And.intro ((F19_ok hr24).ca [0] (by kernel_rfl)) trivial) ?_
  refine aws_ret ?_
  obtain rfl := Option.some.inj h
  exact ⟨.inr rfl, ⟨_, [], [], by kernel_rfl, trivial, (LeV.refl _), rfl⟩⟩

/-! 15 -/
theorem F15_ok {a1 : (List Int)} {p0 : TTreasuryplaySrc} {r : R15} (h : F15 a1 p0 = some r) : CallOk Try.prog 15 [(vp 0), (vl a1)] [(bx (TTreasuryplaySrc.e p0))] (V15 r) (L15 r) := by
  refine gF Try.func15 rfl (by kernel_rfl) (And.intro rfl trivial) ?_
  unfold F15 at h
  refine aws_seq (gT [] [(0, (vp 0)), (1, (vl a1))] (by kernel_rfl) ?_)
  refine aws_seq ?_
  obtain ⟨r31, hr32, h⟩ := bind_some' h
  obtain ⟨⟨hc33, hc34, _⟩, h⟩ := guardP_some h
  refine gR [(4, { h := .callw (vi r31.1) [(0, (bx (TTreasuryplaySrc.e r31.2)))] [] })] [(4, (vi (a1.getD ((r31.1).toNat) default)))] [(bx (TTreasuryplaySrc.e r31.2))] [CallOk Try.prog 19 [(vp 0), (vi (a1.length : Int))] [(bx (TTreasuryplaySrc.e p0))] (vi r31.1) [(bx (TTreasuryplaySrc.e r31.2))], (0 : Int) ≤ r31.1, (r31.1).toNat < a1.length] (by kernel_rfl) (And.intro ((F19_ok hr32).ca [0] (by kernel_rfl)) (And.intro hc33 (And.intro hc34 trivial))) ?_
  refine aws_ret ?_
  obtain rfl := Option.some.inj h
  exact ⟨.inr rfl, ⟨_, [], [], by kernel_rfl, trivial, (LeV.refl _), rfl⟩⟩

/-! 20 -/
theorem F20_ok {a1 : Int} {a2 : Int} {a3 : Int} {p0 : TTreasuryplaySrc} {r : R20} (h : F20 a1 a2 a3 p0 = some r) : CallOk Try.prog 20 [(vp 0), (vi a1), (vi a2), (vi a3)] [(bx (TTreasuryplaySrc.e p0))] (V20 r) (L20 r) := by
  refine gF Try.func20 rfl (by kernel_rfl) (And.intro rfl trivial) ?_
  unfold F20 at h
  refine aws_seq (gR [] [(0, (vp 0)), (1, (vi a1)), (2, (vi a2)), (3, (vi a3)), (8, (vp 1))] [(bx (TTreasuryplaySrc.e p0)), (bx (DV.agg [(DV.i .i64 0), (DV.i .i64 0), (DV.i .i64 0), (DV.i .i64 0), (DV.i .i64 0), (DV.i .i64 0), (DV.i .i64 0), (DV.i .i64 0)]))] [] (by kernel_rfl) trivial ?_)
  refine aws_seq ?_
  obtain ⟨r74, hr75, h⟩ := bind_some' h
  obtain ⟨r76, hr77, h⟩ := bind_some' h
  obtain ⟨r78, hr79, h⟩ := bind_some' h
  obtain ⟨r80, hr81, h⟩ := bind_some' h
  obtain ⟨r82, hr83, h⟩ := bind_some' h
  refine gR [(4, { h := .callw (vi r74.1) [(0, (bx (TTreasuryplaySrc.e r74.2)))] [] }), (6, { cast := some (vl ([110, 120, 210, 300, 410, 510, 520] : List Int)) }), (7, { h := .callw (vi r76.1) [(0, (bx (TTreasuryplaySrc.e r76.2)))] [] }), (9, { cast := some (vl ([111, 119, 220, 310, 420, 530] : List Int)) }), (10, { h := .callw (vi r78.1) [(0, (bx (TTreasuryplaySrc.e r78.2)))] [] }), (12, { cast := some (vl ([1, 20, 100, 1000] : List Int)) }), (13, { h := .callw (vi r80.1) [(0, (bx (TTreasuryplaySrc.e r80.2)))] [] }), (15, { h := .callw (vi r82.1) [(0, (bx (TTreasuryplaySrc.e r82.2)))] [] })] [(0, (vp 0)), (3, (vi a3)), (8, (vp 1)), (9, (vp 2))] [(bx (TTreasuryplaySrc.e r82.2)), (bx (DV.agg [(DV.i .i64 0), (DV.i .i64 0), (DV.i .i64 0), (DV.i .i64 0), (DV.i .i64 0), (DV.i .i64 0), (DV.i .i64 0), (DV.i .i64 0)])), (bx (DV.agg [(DV.i .i64 a1), (DV.i .i64 a2), (DV.i .i64 r74.1), (DV.i .i64 r76.1), (DV.i .i64 r78.1), (DV.i .i64 r80.1), (DV.i .i64 0), (DV.i .i64 r82.1)]))] [CallOk Try.prog 23 [(vp 0), (vi 1), (vi a3)] [(bx (TTreasuryplaySrc.e p0)), (bx (DV.agg [(DV.i .i64 0), (DV.i .i64 0), (DV.i .i64 0), (DV.i .i64 0), (DV.i .i64 0), (DV.i .i64 0), (DV.i .i64 0), (DV.i .i64 0)]))] (vi r74.1) [(bx (TTreasuryplaySrc.e r74.2)), (bx (DV.agg [(DV.i .i64 0), (DV.i .i64 0), (DV.i .i64 0), (DV.i .i64 0), (DV.i .i64 0), (DV.i .i64 0), (DV.i .i64 0), (DV.i .i64 0)]))], LeV (AV.d (DV.sl 7 (listF (DV.b false) [(DV.i .i64 110), (DV.i .i64 120), (DV.i .i64 210), (DV.i .i64 300), (DV.i .i64 410), (DV.i .i64 510), (DV.i .i64 520)]))) (vl ([110, 120, 210, 300, 410, 510, 520] : List Int)), CallOk Try.prog 15 [(vp 0), (vl ([110, 120, 210, 300, 410, 510, 520] : List Int))] [(bx (TTreasuryplaySrc.e r74.2)), (bx (DV.agg [(DV.i .i64 0), (DV.i .i64 0), (DV.i .i64 0), (DV.i .i64 0), (DV.i .i64 0), (DV.i .i64 0), (DV.i .i64 0), (DV.i .i64 0)]))] (vi r76.1) [(bx (TTreasuryplaySrc.e r76.2)), (bx (DV.agg [(DV.i .i64 0), (DV.i .i64 0), (DV.i .i64 0), (DV.i .i64 0), (DV.i .i64 0), (DV.i .i64 0), (DV.i .i64 0), (DV.i .i64 0)]))], LeV (AV.d (DV.sl 6 (listF (DV.b false) [(DV.i .i64 111), (DV.i .i64 119), (DV.i .i64 220), (DV.i .i64 310), (DV.i .i64 420), (DV.i .i64 530)]))) (vl ([111, 119, 220, 310, 420, 530] : List Int)), CallOk Try.prog 15 [(vp 0), (vl ([111, 119, 220, 310, 420, 530] : List Int))] [(bx (TTreasuryplaySrc.e r76.2)), (bx (DV.agg [(DV.i .i64 0), (DV.i .i64 0), (DV.i .i64 0), (DV.i .i64 0), (DV.i .i64 0), (DV.i .i64 0), (DV.i .i64 0), (DV.i .i64 0)]))] (vi r78.1) [(bx (TTreasuryplaySrc.e r78.2)), (bx (DV.agg [(DV.i .i64 0), (DV.i .i64 0), (DV.i .i64 0), (DV.i .i64 0), (DV.i .i64 0), (DV.i .i64 0), (DV.i .i64 0), (DV.i .i64 0)]))], LeV (AV.d (DV.sl 4 (listF (DV.b false) [(DV.i .i64 1), (DV.i .i64 20), (DV.i .i64 100), (DV.i .i64 1000)]))) (vl ([1, 20, 100, 1000] : List Int)), CallOk Try.prog 15 [(vp 0), (vl ([1, 20, 100, 1000] : List Int))] [(bx (TTreasuryplaySrc.e r78.2)), (bx (DV.agg [(DV.i .i64 0), (DV.i .i64 0), (DV.i .i64 0), (DV.i .i64 0), (DV.i .i64 0), (DV.i .i64 0), (DV.i .i64 0), (DV.i .i64 0)]))] (vi r80.1) [(bx (TTreasuryplaySrc.e r80.2)), (bx (DV.agg [(DV.i .i64 0), (DV.i .i64 0), (DV.i .i64 0), (DV.i .i64 0), (DV.i .i64 0), (DV.i .i64 0), (DV.i .i64 0), (DV.i .i64 0)]))], CallOk Try.prog 19 [(vp 0), (vi 4)] [(bx (TTreasuryplaySrc.e r80.2)), (bx (DV.agg [(DV.i .i64 0), (DV.i .i64 0), (DV.i .i64 0), (DV.i .i64 0), (DV.i .i64 0), (DV.i .i64 0), (DV.i .i64 0), (DV.i .i64 0)]))] (vi r82.1) [(bx (TTreasuryplaySrc.e r82.2)), (bx (DV.agg [(DV.i .i64 0), (DV.i .i64 0), (DV.i .i64 0), (DV.i .i64 0), (DV.i .i64 0), (DV.i .i64 0), (DV.i .i64 0), (DV.i .i64 0)]))]] (by kernel_rfl) (And.intro ((F23_ok hr75).ca [0] (by kernel_rfl)) (And.intro (leV_lit (DV.i .i64) ([110, 120, 210, 300, 410, 510, 520] : List Int)) (And.intro ((F15_ok hr77).ca [0] (by kernel_rfl)) (And.intro (leV_lit (DV.i .i64) ([111, 119, 220, 310, 420, 530] : List Int)) (And.intro ((F15_ok hr79).ca [0] (by kernel_rfl)) (And.intro (leV_lit (DV.i .i64) ([1, 20, 100, 1000] : List Int)) (And.intro ((F15_ok hr81).ca [0] (by kernel_rfl)) (And.intro ((F19_ok hr83).ca [0] (by kernel_rfl)) trivial)))))))) ?_
  refine aws_seq (aws_seq ?_)
  obtain ⟨r84, hr85, h⟩ := bind_some' h
  refine gR [(4, { h := .callw (vi r84.1) [(0, (bx (TTreasuryplaySrc.e r84.2)))] [] })] [(0, (vp 0)), (3, (vi a3)), (8, (vp 1)), (9, (vp 2)), (33, (vb (bif (decide (a3 > 1)) then (r84.1 == 1) else false)))] [(bx (TTreasuryplaySrc.e r84.2)), (bx (DV.agg [(DV.i .i64 0), (DV.i .i64 0), (DV.i .i64 0), (DV.i .i64 0), (DV.i .i64 0), (DV.i .i64 0), (DV.i .i64 0), (DV.i .i64 0)])), (bx (DV.agg [(DV.i .i64 a1), (DV.i .i64 a2), (DV.i .i64 r74.1), (DV.i .i64 r76.1), (DV.i .i64 r78.1), (DV.i .i64 r80.1), (DV.i .i64 0), (DV.i .i64 r82.1)]))] [AllP [(decide (a3 > 1)) = true] → (CallOk Try.prog 19 [(vp 0), (vi 2)] [(bx (TTreasuryplaySrc.e r82.2)), (bx (DV.agg [(DV.i .i64 0), (DV.i .i64 0), (DV.i .i64 0), (DV.i .i64 0), (DV.i .i64 0), (DV.i .i64 0), (DV.i .i64 0), (DV.i .i64 0)])), (bx (DV.agg [(DV.i .i64 a1), (DV.i .i64 a2), (DV.i .i64 r74.1), (DV.i .i64 r76.1), (DV.i .i64 r78.1), (DV.i .i64 r80.1), (DV.i .i64 0), (DV.i .i64 r82.1)]))] (vi r84.1) [(bx (TTreasuryplaySrc.e r84.2)), (bx (DV.agg [(DV.i .i64 0), (DV.i .i64 0), (DV.i .i64 0), (DV.i .i64 0), (DV.i .i64 0), (DV.i .i64 0), (DV.i .i64 0), (DV.i .i64 0)])), (bx (DV.agg [(DV.i .i64 a1), (DV.i .i64 a2), (DV.i .i64 r74.1), (DV.i .i64 r76.1), (DV.i .i64 r78.1), (DV.i .i64 r80.1), (DV.i .i64 0), (DV.i .i64 r82.1)]))]), (¬ AllP [(decide (a3 > 1)) = true] → [(bx (TTreasuryplaySrc.e r82.2)), (bx (DV.agg [(DV.i .i64 0), (DV.i .i64 0), (DV.i .i64 0), (DV.i .i64 0), (DV.i .i64 0), (DV.i .i64 0), (DV.i .i64 0), (DV.i .i64 0)])), (bx (DV.agg [(DV.i .i64 a1), (DV.i .i64 a2), (DV.i .i64 r74.1), (DV.i .i64 r76.1), (DV.i .i64 r78.1), (DV.i .i64 r80.1), (DV.i .i64 0), (DV.i .i64 r82.1)]))] = [(bx (TTreasuryplaySrc.e r84.2)), (bx (DV.agg [(DV.i .i64 0), (DV.i .i64 0), (DV.i .i64 0), (DV.i .i64 0), (DV.i .i64 0), (DV.i .i64 0), (DV.i .i64 0), (DV.i .i64 0)])), (bx (DV.agg [(DV.i .i64 a1), (DV.i .i64 a2), (DV.i .i64 r74.1), (DV.i .i64 r76.1), (DV.i .i64 r78.1), (DV.i .i64 r80.1), (DV.i .i64 0), (DV.i .i64 r82.1)]))])] (by kernel_rfl) (And.intro (fun hg => ((F19_ok (optD_some hr85 hg)).ca [0] (by kernel_rfl))) (And.intro (fun hn => by obtain rfl := optD_neg hr85 hn; rfl) trivial)) ?_
  obtain ⟨ov1, hxv2, h⟩ := bind_some' h
  refine aws_cutS (E := (fun (_ : TTreasuryplaySrc × TApiPosting) => [(8, (vp 1)), (9, (vp 2))])) (LE := (fun (s99 : TTreasuryplaySrc × TApiPosting) => [(bx (TTreasuryplaySrc.e s99.1)), (bx (DV.agg [(DV.i .i64 0), (DV.i .i64 0), (DV.i .i64 0), (DV.i .i64 0), (DV.i .i64 0), (DV.i .i64 0), (DV.i .i64 0), (DV.i .i64 0)])), (bx (TApiPosting.e s99.2))])) (fun s => s = ov1) ?_ (fun _ => Nat.le_of_ble_eq_true (by kernel_rfl)) (fun s99 hq => ?_)
  · refine aws_cond (b := (bif (decide (a3 > 1)) then (r84.1 == 1) else false)) (by kernel_rfl) (fun hbv3 => ?_) (fun hbv3 => ?_)
    · replace hxv2 := iteT hbv3 hxv2
      refine aws_seq ?_
      obtain ⟨⟨hcv4, _⟩, hxv2⟩ := guardP_some hxv2
      refine gR [] [(0, (vp 0)), (8, (vp 1)), (9, (vp 2))] [(bx (TTreasuryplaySrc.e r84.2)), (bx (DV.agg [(DV.i .i64 0), (DV.i .i64 0), (DV.i .i64 0), (DV.i .i64 0), (DV.i .i64 0), (DV.i .i64 0), (DV.i .i64 0), (DV.i .i64 0)])), (bx (DV.agg [(DV.i .i64 a1), (DV.i .i64 a2), (DV.i .i64 r74.1), (DV.i .i64 r76.1), (DV.i .i64 r78.1), (DV.i .i64 r80.1), (DV.i .i64 (IntKind.i64.wrap ((r74.1.tmod a3) + 1))), (DV.i .i64 r82.1)]))] [(a3 : Int) ≠ 0] (by kernel_rfl) (And.intro hcv4 trivial) ?_
      refine aws_seq ?_
      obtain ⟨rv5, hrv6, hxv2⟩ := bind_some' hxv2
      refine gR [(1, { h := .callw (vi rv5.1) [(0, (bx (TTreasuryplaySrc.e rv5.2)))] [] })] [(8, (vp 1)), (9, (vp 2)), (41, (vi rv5.1))] [(bx (TTreasuryplaySrc.e rv5.2)), (bx (DV.agg [(DV.i .i64 0), (DV.i .i64 0), (DV.i .i64 0), (DV.i .i64 0), (DV.i .i64 0), (DV.i .i64 0), (DV.i .i64 0), (DV.i .i64 0)])), (bx (DV.agg [(DV.i .i64 a1), (DV.i .i64 a2), (DV.i .i64 r74.1), (DV.i .i64 r76.1), (DV.i .i64 r78.1), (DV.i .i64 r80.1), (DV.i .i64 (IntKind.i64.wrap ((r74.1.tmod a3) + 1))), (DV.i .i64 r82.1)]))] [CallOk Try.prog 19 [(vp 0), (vi 4)] [(bx (TTreasuryplaySrc.e r84.2)), (bx (DV.agg [(DV.i .i64 0), (DV.i .i64 0), (DV.i .i64 0), (DV.i .i64 0), (DV.i .i64 0), (DV.i .i64 0), (DV.i .i64 0), (DV.i .i64 0)])), (bx (DV.agg [(DV.i .i64 a1), (DV.i .i64 a2), (DV.i .i64 r74.1), (DV.i .i64 r76.1), (DV.i .i64 r78.1), (DV.i .i64 r80.1), (DV.i .i64 (IntKind.i64.wrap ((r74.1.tmod a3) + 1))), (DV.i .i64 r82.1)]))] (vi rv5.1) [(bx (TTreasuryplaySrc.e rv5.2)), (bx (DV.agg [(DV.i .i64 0), (DV.i .i64 0), (DV.i .i64 0), (DV.i .i64 0), (DV.i .i64 0), (DV.i .i64 0), (DV.i .i64 0), (DV.i .i64 0)])), (bx (DV.agg [(DV.i .i64 a1), (DV.i .i64 a2), (DV.i .i64 r74.1), (DV.i .i64 r76.1), (DV.i .i64 r78.1), (DV.i .i64 r80.1), (DV.i .i64 (IntKind.i64.wrap ((r74.1.tmod a3) + 1))), (DV.i .i64 r82.1)]))]] (by kernel_rfl) (And.intro ((F19_ok hrv6).ca [0] (by kernel_rfl)) trivial) ?_
      obtain ⟨ov7, hxv8, hxv2⟩ := bind_some' hxv2
      refine aws_blockS (E := (fun (_ : TApiPosting) => [(8, (vp 1)), (9, (vp 2))])) (LE := (fun (sv9 : TApiPosting) => [(bx (TTreasuryplaySrc.e rv5.2)), (bx (DV.agg [(DV.i .i64 0), (DV.i .i64 0), (DV.i .i64 0), (DV.i .i64 0), (DV.i .i64 0), (DV.i .i64 0), (DV.i .i64 0), (DV.i .i64 0)])), (bx (TApiPosting.e sv9))])) (fun s => s = ov7) ?_ (fun _ => Nat.le_of_ble_eq_true (by kernel_rfl)) (fun _ hq => ?_)
      · refine aws_seq (gT [] [(8, (vp 1)), (9, (vp 2)), (41, (vi rv5.1)), (44, (vb (rv5.1 == 0)))] (by kernel_rfl) ?_)
        refine aws_cond (b := (rv5.1 == 0)) (by kernel_rfl) (fun hbv10 => ?_) (fun hbv10 => ?_)
        · replace hxv8 := iteT hbv10 hxv8
          refine gR [] [(8, (vp 1)), (9, (vp 2))] [(bx (TTreasuryplaySrc.e rv5.2)), (bx (DV.agg [(DV.i .i64 0), (DV.i .i64 0), (DV.i .i64 0), (DV.i .i64 0), (DV.i .i64 0), (DV.i .i64 0), (DV.i .i64 0), (DV.i .i64 0)])), (bx (DV.agg [(DV.i .i64 a1), (DV.i .i64 a2), (DV.i .i64 r74.1), (DV.i .i64 140), (DV.i .i64 440), (DV.i .i64 r80.1), (DV.i .i64 (IntKind.i64.wrap ((r74.1.tmod a3) + 1))), (DV.i .i64 r82.1)]))] [] (by kernel_rfl) trivial ?_
          refine aws_nil ?_
          obtain rfl := Option.some.inj hxv8
          exact ⟨_, rfl, ⟨(fA (by kernel_rfl)), .inl rfl⟩⟩
        · replace hxv8 := iteF hbv10 hxv8
          refine aws_seq (gT [] [(8, (vp 1)), (9, (vp 2)), (41, (vi rv5.1)), (48, (vb (rv5.1 == 1)))] (by kernel_rfl) ?_)
          refine aws_cond (b := (rv5.1 == 1)) (by kernel_rfl) (fun hbv11 => ?_) (fun hbv11 => ?_)
          · replace hxv8 := iteT hbv11 hxv8
            refine gR [] [(8, (vp 1)), (9, (vp 2))] [(bx (TTreasuryplaySrc.e rv5.2)), (bx (DV.agg [(DV.i .i64 0), (DV.i .i64 0), (DV.i .i64 0), (DV.i .i64 0), (DV.i .i64 0), (DV.i .i64 0), (DV.i .i64 0), (DV.i .i64 0)])), (bx (DV.agg [(DV.i .i64 a1), (DV.i .i64 a2), (DV.i .i64 r74.1), (DV.i .i64 540), (DV.i .i64 240), (DV.i .i64 r80.1), (DV.i .i64 (IntKind.i64.wrap ((r74.1.tmod a3) + 1))), (DV.i .i64 r82.1)]))] [] (by kernel_rfl) trivial ?_
            refine aws_nil ?_
            obtain rfl := Option.some.inj hxv8
            exact ⟨_, rfl, ⟨(fA (by kernel_rfl)), .inl rfl⟩⟩
          · replace hxv8 := iteF hbv11 hxv8
            refine aws_seq (gT [] [(8, (vp 1)), (9, (vp 2)), (52, (vb (rv5.1 == 2)))] (by kernel_rfl) ?_)
            refine aws_cond (b := (rv5.1 == 2)) (by kernel_rfl) (fun hbv12 => ?_) (fun hbv12 => ?_)
            · replace hxv8 := iteT hbv12 hxv8
              refine gR [] [(8, (vp 1)), (9, (vp 2))] [(bx (TTreasuryplaySrc.e rv5.2)), (bx (DV.agg [(DV.i .i64 0), (DV.i .i64 0), (DV.i .i64 0), (DV.i .i64 0), (DV.i .i64 0), (DV.i .i64 0), (DV.i .i64 0), (DV.i .i64 0)])), (bx (DV.agg [(DV.i .i64 a1), (DV.i .i64 a2), (DV.i .i64 r74.1), (DV.i .i64 240), (DV.i .i64 110), (DV.i .i64 r80.1), (DV.i .i64 (IntKind.i64.wrap ((r74.1.tmod a3) + 1))), (DV.i .i64 r82.1)]))] [] (by kernel_rfl) trivial ?_
              refine aws_nil ?_
              obtain rfl := Option.some.inj hxv8
              exact ⟨_, rfl, ⟨(fA (by kernel_rfl)), .inl rfl⟩⟩
            · replace hxv8 := iteF hbv12 hxv8
              refine gR [] [(8, (vp 1)), (9, (vp 2))] [(bx (TTreasuryplaySrc.e rv5.2)), (bx (DV.agg [(DV.i .i64 0), (DV.i .i64 0), (DV.i .i64 0), (DV.i .i64 0), (DV.i .i64 0), (DV.i .i64 0), (DV.i .i64 0), (DV.i .i64 0)])), (bx (DV.agg [(DV.i .i64 a1), (DV.i .i64 a2), (DV.i .i64 r74.1), (DV.i .i64 110), (DV.i .i64 140), (DV.i .i64 r80.1), (DV.i .i64 (IntKind.i64.wrap ((r74.1.tmod a3) + 1))), (DV.i .i64 r82.1)]))] [] (by kernel_rfl) trivial ?_
              refine aws_nil ?_
              obtain rfl := Option.some.inj hxv8
              exact ⟨_, rfl, ⟨(fA (by kernel_rfl)), .inl rfl⟩⟩
      · subst hq
        refine aws_nil ?_
        obtain rfl := Option.some.inj hxv2
        exact ⟨_, rfl, ⟨(fA (by kernel_rfl)), .inl rfl⟩⟩
    · replace hxv2 := iteF hbv3 hxv2
      refine aws_skip (aws_nil ?_)
      obtain rfl := Option.some.inj hxv2
      exact ⟨_, rfl, ⟨(fA (by kernel_rfl)), .inl rfl⟩⟩
  · subst hq
    refine aws_seq (gR [] [(8, (vp 1))] [(bx (TTreasuryplaySrc.e s99.1)), (bx (TApiPosting.e s99.2)), (bx (TApiPosting.e s99.2))] [] (by kernel_rfl) trivial ?_)
    refine aws_ret ?_
    obtain rfl := Option.some.inj h
    exact ⟨.inr rfl, ⟨_, [], [(bx (TApiPosting.e s99.2)), (bx (TApiPosting.e s99.2))], by kernel_rfl, trivial, (LeV.refl _), rfl⟩⟩

/-! 60 -/
theorem F60_ok {a0 : Int} {r : R60} (h : F60 a0 = some r) : CallOk Try.prog 60 [(vi a0)] [] (V60 r) (L60 r) := by
  refine gF Try.func60 rfl (by kernel_rfl) trivial ?_
  unfold F60 at h
  refine aws_seq (gT [] [(0, (vi a0))] (by kernel_rfl) ?_)
  refine aws_seq (gT [] [(2, (vb (bif (decide (a0 ≥ 0)) then (decide (a0 ≤ 36000)) else false)))] (by kernel_rfl) ?_)
  refine aws_ret ?_
  obtain rfl := Option.some.inj h
  exact ⟨.inr rfl, ⟨_, [], [], by kernel_rfl, trivial, (LeV.refl _), rfl⟩⟩

/-! 44 -/
theorem F44_ok {a0 : Int} {r : R44} (h : F44 a0 = some r) : CallOk Try.prog 44 [(vi a0)] [] (V44 r) (L44 r) := by
  refine gF Try.func44 rfl (by kernel_rfl) trivial ?_
  unfold F44 at h
  refine aws_seq (gT [] [(0, (vi a0))] (by kernel_rfl) ?_)
  refine aws_seq (aws_seq (gT [] [(0, (vi a0)), (8, (vb (bif (decide (a0 < 100)) then true else (decide (a0 > 599)))))] (by kernel_rfl) ?_))
  refine aws_cond (b := (bif (decide (a0 < 100)) then true else (decide (a0 > 599)))) (by kernel_rfl) (fun hbv1 => ?_) (fun hbv1 => ?_)
  · replace h := iteT hbv1 h
    refine aws_seq (gT [] [(2, (vi 0))] (by kernel_rfl) ?_)
    refine aws_ret ?_
    obtain rfl := Option.some.inj h
    exact ⟨.inr rfl, ⟨_, [], [], by kernel_rfl, trivial, (LeV.refl _), rfl⟩⟩
  · replace h := iteF hbv1 h
    refine aws_skip (aws_seq (gS [] [(2, (vi (IntKind.i64.wrap (a0.tdiv 100))))] [(100 : Int) ≠ 0] (by kernel_rfl) (And.intro (by decide) trivial) ?_))
    refine aws_ret ?_
    obtain rfl := Option.some.inj h
    exact ⟨.inr rfl, ⟨_, [], [], by kernel_rfl, trivial, (LeV.refl _), rfl⟩⟩

/-! 46 -/
theorem F46_ok {a0 : TApiPosting} {r : R46} (h : F46 a0 = some r) : CallOk Try.prog 46 [(AV.d (TApiPosting.e a0))] [] (V46 r) (L46 r) := by
  refine gF Try.func46 rfl (by kernel_rfl) trivial ?_
  unfold F46 at h
  refine aws_seq (gR [] [(1, (vp 0))] [(bx (TApiPosting.e a0))] [] (by kernel_rfl) trivial ?_)
  refine aws_seq ?_
  obtain ⟨rv1, hrv2, h⟩ := bind_some' h
  obtain ⟨rv3, hrv4, h⟩ := bind_some' h
  obtain ⟨rv5, hrv6, h⟩ := bind_some' h
  refine gS [(11, { h := .callq (vb rv1) }), (33, { h := .callq (vi rv3) }), (39, { h := .callq (vi rv5) })] [(2, (vb (bif (bif (bif (bif (bif (bif (bif (bif (bif (bif (bif (bif (bif (bif (decide (a0.Number ≥ 1)) then (decide (a0.Number ≤ 1000000)) else false) then rv1 else false) then (decide (a0.Entity ≥ 1)) else false) then (decide (a0.Entity ≤ 10)) else false) then (a0.Debit != a0.Credit) else false) then (rv3 != 0) else false) then (rv5 != 0) else false) then (decide (a0.Amount ≥ 1)) else false) then (decide (a0.Amount ≤ 1000000000000)) else false) then (decide (a0.Partner ≥ 0)) else false) then (decide (a0.Partner ≤ 10)) else false) then (a0.Partner != a0.Entity) else false) then (decide (a0.Ref ≥ 0)) else false) then (decide (a0.Ref ≤ 1000000)) else false)))] [AllP [(bif (decide (a0.Number ≥ 1)) then (decide (a0.Number ≤ 1000000)) else false) = true] → (∀ L, CallOk Try.prog 60 [(vi a0.Day)] L (vb rv1) L), AllP [(bif (bif (bif (bif (bif (decide (a0.Number ≥ 1)) then (decide (a0.Number ≤ 1000000)) else false) then rv1 else false) then (decide (a0.Entity ≥ 1)) else false) then (decide (a0.Entity ≤ 10)) else false) then (a0.Debit != a0.Credit) else false) = true] → (∀ L, CallOk Try.prog 44 [(vi a0.Debit)] L (vi rv3) L), AllP [(bif (bif (bif (bif (bif (bif (decide (a0.Number ≥ 1)) then (decide (a0.Number ≤ 1000000)) else false) then rv1 else false) then (decide (a0.Entity ≥ 1)) else false) then (decide (a0.Entity ≤ 10)) else false) then (a0.Debit != a0.Credit) else false) then (rv3 != 0) else false) = true] → (∀ L, CallOk Try.prog 44 [(vi a0.Credit)] L (vi rv5) L)] (by kernel_rfl) (And.intro (fun hg => ((F60_ok (optP_some hrv2 hg)).pu (fun _ => rfl) (fun _ => rfl))) (And.intro (fun hg => ((F44_ok (optP_some hrv4 hg)).pu (fun _ => rfl) (fun _ => rfl))) (And.intro (fun hg => ((F44_ok (optP_some hrv6 hg)).pu (fun _ => rfl) (fun _ => rfl))) trivial))) ?_
  refine aws_ret ?_
  obtain rfl := Option.some.inj h
  exact ⟨.inr rfl, ⟨_, [], [(bx (TApiPosting.e a0))], by kernel_rfl, trivial, (LeV.refl _), rfl⟩⟩

/-! 43 -/
theorem F43_ok {a0 : TApiLedger} {r : R43} (h : F43 a0 = some r) : CallOk Try.prog 43 [(AV.d (TApiLedger.e a0))] [] (V43 r) (L43 r) := by
  refine gF Try.func43 rfl (by kernel_rfl) trivial ?_
  unfold F43 at h
  refine aws_seq (gR [] [(1, (vp 0))] [(bx (TApiLedger.e a0))] [] (by kernel_rfl) trivial ?_)
  refine aws_seq (aws_seq (gT [] [(1, (vp 0)), (10, (vb (decide ((a0.Postings.length : Int) > 400))))] (by kernel_rfl) ?_))
  refine aws_cond (b := (decide ((a0.Postings.length : Int) > 400))) (by kernel_rfl) (fun hbv1 => ?_) (fun hbv1 => ?_)
  · replace h := iteT hbv1 h
    refine aws_seq (gT [] [(2, (vi 3))] (by kernel_rfl) ?_)
    refine aws_ret ?_
    obtain rfl := Option.some.inj h
    exact ⟨.inr rfl, ⟨_, [], [(bx (TApiLedger.e a0))], by kernel_rfl, trivial, (LeV.refl _), rfl⟩⟩
  · replace h := iteF hbv1 h
    refine aws_skip (aws_seq (aws_seq (gT [] [(1, (vp 0)), (12, (AV.d (eL TApiPosting.e a0.Postings))), (13, (vi (a0.Postings.length : Int))), (14, (vi 0))] (by kernel_rfl) ?_)))
    obtain ⟨ov2, hxv3, h⟩ := outM_some h
    refine aws_lenL (k := 1) (t := 12) (e := TApiPosting.e) (l := a0.Postings) rfl (by simp) (fun hn => ?_)
    refine aws_loop (E := (fun (_ : Unit) => [(1, (vp 0))])) (LE := (fun (_ : Unit) => [(bx (TApiLedger.e a0))])) (R := (fun x => FR Try.prog Try.f43 (V43 x) (L43 x))) (aw_range (n := a0.Postings.length) (m := 1) (I := (fun (iv4 : Nat) (_ : Unit) => [(1, (vp 0)), (12, (AV.d (eL TApiPosting.e a0.Postings))), (13, (vi (a0.Postings.length : Int))), (14, (vi (iv4 : Int)))])) (LI := (fun (_ : Nat) => (fun (_ : Unit) => [(bx (TApiLedger.e a0))]))) (body := F43_b1 a0) (fun iv4 _ _ hi h => aw_of ?_) (fun _ => aw_of ?_) (fun _ _ => rfl) (Nat.zero_add _) hxv3 ⟨(fA (by kernel_rfl)), .inl rfl⟩ (Nat.le_of_ble_eq_true (by kernel_rfl))) (fun _ => Nat.le_of_ble_eq_true (by kernel_rfl)) (fun x fr L e hr => ?_) (fun _ e => ?_)
    · unfold F43_b1 at h
      refine aws_seq (gT [] [(1, (vp 0)), (12, (AV.d (eL TApiPosting.e a0.Postings))), (13, (vi (a0.Postings.length : Int))), (14, (vi (iv4 : Int))), (15, (vb (decide ((iv4 : Int) < (a0.Postings.length : Int)))))] (by kernel_rfl) ?_)
      refine aws_seq (aws_cond (b := (decide ((iv4 : Int) < (a0.Postings.length : Int)))) (by kernel_rfl) (fun hbv5 => ?_) (fun hbv5 => absurd (hbv5.symm.trans (decide_eq_true (by omega))) Bool.false_ne_true))
      refine aws_skip (aws_seq ?_)
      obtain ⟨ov6, hxv7, h⟩ := outM_some h
      refine aws_blockS (E := (fun (_ : Unit) => [(1, (vp 0)), (12, (AV.d (eL TApiPosting.e a0.Postings))), (13, (vi (a0.Postings.length : Int))), (14, (vi (iv4 : Int)))])) (LE := (fun (_ : Unit) => [(bx (TApiLedger.e a0))])) (fun s => ov6 = .next s) ?_ (fun _ => Nat.le_of_ble_eq_true (by kernel_rfl)) (fun _ hq => ?_)
      · refine aws_seq (gR [] [(1, (vp 0)), (4, (vp 1)), (12, (AV.d (eL TApiPosting.e a0.Postings))), (13, (vi (a0.Postings.length : Int))), (14, (vi (iv4 : Int)))] [(bx (TApiLedger.e a0)), (bx (TApiPosting.e (a0.Postings.getD iv4 default)))] [(0 : Int) ≤ (iv4 : Int), iv4 < a0.Postings.length] (by kernel_rfl) (And.intro (Int.natCast_nonneg _) (And.intro hi trivial)) ?_)
        refine aws_seq ?_
        obtain ⟨rv8, hrv9, hxv7⟩ := bind_some' hxv7
        refine gS [(1, { h := .callq (vb rv8) })] [(1, (vp 0)), (12, (AV.d (eL TApiPosting.e a0.Postings))), (13, (vi (a0.Postings.length : Int))), (14, (vi (iv4 : Int))), (20, (vb (!rv8)))] [_] (by kernel_rfl) (And.intro ((F46_ok hrv9).pu (fun _ => rfl) (fun _ => rfl)) trivial) ?_
        refine aws_cond (b := (!rv8)) (by kernel_rfl) (fun hbv10 => ?_) (fun hbv10 => ?_)
        · replace hxv7 := iteT hbv10 hxv7
          refine aws_seq (gT [] [(2, (vi 85))] (by kernel_rfl) ?_)
          refine aws_ret ?_
          obtain rfl := Option.some.inj hxv7
          obtain rfl := Option.some.inj h
          exact ⟨_, rfl, ⟨_, [], [(bx (TApiLedger.e a0)), (bx (TApiPosting.e (a0.Postings.getD iv4 default)))], by kernel_rfl, trivial, (LeV.refl _), rfl⟩⟩
        · replace hxv7 := iteF hbv10 hxv7
          refine aws_skip (aws_nil ?_)
          obtain rfl := Option.some.inj hxv7
          exact ⟨_, rfl, ⟨(fA (by kernel_rfl)), .inr ⟨⟨[(bx (TApiPosting.e (a0.Postings.getD iv4 default)))], rfl, lsOk (And.intro rfl trivial)⟩, List.all_eq_true.1 (by kernel_rfl)⟩⟩⟩
      · subst hq
        refine gT [] [(1, (vp 0)), (12, (AV.d (eL TApiPosting.e a0.Postings))), (13, (vi (a0.Postings.length : Int))), (14, (vi (IntKind.i64.wrap ((iv4 : Int) + 1))))] (by kernel_rfl) ?_
        refine aws_nil ?_
        obtain rfl := Option.some.inj h
        exact ⟨_, rfl, ⟨(fq 0 rfl (fq 1 rfl (fq 2 rfl (frLe_at (k := 3) rfl (LeV.of_eq (congrArg (fun n => AV.d (DV.i .i64 n)) (wrap_succ (by omega)))) frLe_nil)))), .inl rfl⟩⟩
    · refine aws_seq (gT [] [(1, (vp 0)), (12, (AV.d (eL TApiPosting.e a0.Postings))), (13, (vi (a0.Postings.length : Int))), (14, (vi ((a0.Postings.length : Nat) : Int))), (15, (vb (decide (((a0.Postings.length : Nat) : Int) < (a0.Postings.length : Int)))))] (by kernel_rfl) ?_)
      refine aws_seq (aws_cond (b := (decide (((a0.Postings.length : Nat) : Int) < (a0.Postings.length : Int)))) (by kernel_rfl) (fun hbv11 => absurd hbv11 (Bool.eq_false_iff.mp (decide_eq_false (by omega)))) (fun hbv11 => ?_))
      refine aws_exit ?_
      exact ⟨rfl, _, rfl, ⟨(fA (by kernel_rfl)), .inl rfl⟩⟩
    · subst e
      obtain rfl := Option.some.inj h
      exact ⟨.inr rfl, hr⟩
    · subst e
      refine aws_seq (aws_seq (gT [] [(1, (vp 0)), (23, (AV.d (eL TApiPosting.e a0.Postings))), (24, (vi (a0.Postings.length : Int))), (25, (vi 0))] (by kernel_rfl) ?_))
      obtain ⟨ov12, hxv13, h⟩ := outM_some h
      refine aws_lenL (k := 1) (t := 23) (e := TApiPosting.e) (l := a0.Postings) rfl (by simp) (fun hn => ?_)
      refine aws_loop (E := (fun (_ : Unit) => [])) (LE := (fun (_ : Unit) => [(bx (TApiLedger.e a0))])) (R := (fun x => FR Try.prog Try.f43 (V43 x) (L43 x))) (aw_range (n := a0.Postings.length) (m := 1) (I := (fun (iv14 : Nat) (_ : Unit) => [(1, (vp 0)), (23, (AV.d (eL TApiPosting.e a0.Postings))), (24, (vi (a0.Postings.length : Int))), (25, (vi (iv14 : Int)))])) (LI := (fun (_ : Nat) => (fun (_ : Unit) => [(bx (TApiLedger.e a0))]))) (body := F43_b2 a0) (fun iv14 _ _ hi h => aw_of ?_) (fun _ => aw_of ?_) (fun _ _ => rfl) (Nat.zero_add _) hxv13 ⟨(fA (by kernel_rfl)), .inl rfl⟩ (Nat.le_of_ble_eq_true (by kernel_rfl))) (fun _ => Nat.le_of_ble_eq_true (by kernel_rfl)) (fun x fr L e hr => ?_) (fun _ e => ?_)
      · unfold F43_b2 at h
        refine aws_seq (gT [] [(1, (vp 0)), (23, (AV.d (eL TApiPosting.e a0.Postings))), (24, (vi (a0.Postings.length : Int))), (25, (vi (iv14 : Int))), (26, (vb (decide ((iv14 : Int) < (a0.Postings.length : Int)))))] (by kernel_rfl) ?_)
        refine aws_seq (aws_cond (b := (decide ((iv14 : Int) < (a0.Postings.length : Int)))) (by kernel_rfl) (fun hbv15 => ?_) (fun hbv15 => absurd (hbv15.symm.trans (decide_eq_true (by omega))) Bool.false_ne_true))
        refine aws_skip (aws_seq ?_)
        obtain ⟨ov16, hxv17, h⟩ := outM_some h
        refine aws_blockS (E := (fun (_ : Unit) => [(1, (vp 0)), (23, (AV.d (eL TApiPosting.e a0.Postings))), (24, (vi (a0.Postings.length : Int))), (25, (vi (iv14 : Int)))])) (LE := (fun (_ : Unit) => [(bx (TApiLedger.e a0))])) (fun s => ov16 = .next s) ?_ (fun _ => Nat.le_of_ble_eq_true (by kernel_rfl)) (fun _ hq => ?_)
        · refine aws_seq (gR [] [(1, (vp 0)), (5, (vi (iv14 : Int))), (6, (vp 1)), (23, (AV.d (eL TApiPosting.e a0.Postings))), (24, (vi (a0.Postings.length : Int))), (25, (vi (iv14 : Int)))] [(bx (TApiLedger.e a0)), (bx (TApiPosting.e (a0.Postings.getD iv14 default)))] [(0 : Int) ≤ (iv14 : Int), iv14 < a0.Postings.length] (by kernel_rfl) (And.intro (Int.natCast_nonneg _) (And.intro hi trivial)) ?_)
          refine aws_seq ?_
          obtain ⟨⟨hcv18, hcv19, _⟩, hxv17⟩ := guardP_some hxv17
          refine gD ⟨[[], [0], [], [2], [3, 2, 1, 0], [4, 3, 2, 1, 0], [5, 4, 3, 2, 1, 0], [6, 5, 4, 3, 2, 1, 0], [7, 6, 5, 4, 3, 2, 1, 0], [8, 7, 6, 5, 4, 3, 2, 1, 0], [9, 8, 7, 6, 5, 4, 3, 2, 1, 0], [8, 7, 6, 5, 4, 3, 2, 1, 0], [11, 8, 7, 6, 5, 4, 3, 2, 1, 0], [12, 11, 10, 9, 8, 7, 6, 5, 4, 3, 2, 1, 0], [13, 12, 11, 10, 9, 8, 7, 6, 5, 4, 3, 2, 1, 0], [14, 13, 12, 11, 10, 9, 8, 7, 6, 5, 4, 3, 2, 1, 0], [8, 7, 6, 5, 4, 3, 2, 1, 0], [16, 8, 7, 6, 5, 4, 3, 2, 1, 0], [17, 16, 15, 14, 13, 12, 11, 10, 9, 8, 7, 6, 5, 4, 3, 2, 1, 0], [18, 17, 16, 15, 14, 13, 12, 11, 10, 9, 8, 7, 6, 5, 4, 3, 2, 1, 0], [19, 18, 17, 16, 15, 14, 13, 12, 11, 10, 9, 8, 7, 6, 5, 4, 3, 2, 1, 0]], []⟩ [] [(1, (vp 0)), (23, (AV.d (eL TApiPosting.e a0.Postings))), (24, (vi (a0.Postings.length : Int))), (25, (vi (iv14 : Int))), (50, (vb (bif (((a0.Postings.getD iv14 default).Number) != (IntKind.i64.wrap ((iv14 : Int) + 1))) then true else (bif (decide ((iv14 : Int) > 0)) then (decide (((a0.Postings.getD (((IntKind.i64.wrap ((iv14 : Int) - 1))).toNat) default).Day) > ((a0.Postings.getD iv14 default).Day))) else false))))] [(bx (TApiLedger.e a0)), (bx (TApiPosting.e (a0.Postings.getD iv14 default)))] [AllP [(decide ((iv14 : Int) > 0)) = true, (((a0.Postings.getD iv14 default).Number) != (IntKind.i64.wrap ((iv14 : Int) + 1))) = false] → ((0 : Int) ≤ (IntKind.i64.wrap ((iv14 : Int) - 1))), AllP [(decide ((iv14 : Int) > 0)) = true, (((a0.Postings.getD iv14 default).Number) != (IntKind.i64.wrap ((iv14 : Int) + 1))) = false] → (((IntKind.i64.wrap ((iv14 : Int) - 1))).toNat < a0.Postings.length)] (by kernel_rfl) (by kernel_rfl) (by kernel_rfl) (And.intro hcv18 (And.intro hcv19 trivial)) ?_
          refine aws_cond (b := (bif (((a0.Postings.getD iv14 default).Number) != (IntKind.i64.wrap ((iv14 : Int) + 1))) then true else (bif (decide ((iv14 : Int) > 0)) then (decide (((a0.Postings.getD (((IntKind.i64.wrap ((iv14 : Int) - 1))).toNat) default).Day) > ((a0.Postings.getD iv14 default).Day))) else false))) (by kernel_rfl) (fun hbv20 => ?_) (fun hbv20 => ?_)
          · replace hxv17 := iteT hbv20 hxv17
            refine aws_seq (gT [] [(2, (vi 86))] (by kernel_rfl) ?_)
            refine aws_ret ?_
            obtain rfl := Option.some.inj hxv17
            obtain rfl := Option.some.inj h
            exact ⟨_, rfl, ⟨_, [], [(bx (TApiLedger.e a0)), (bx (TApiPosting.e (a0.Postings.getD iv14 default)))], by kernel_rfl, trivial, (LeV.refl _), rfl⟩⟩
          · replace hxv17 := iteF hbv20 hxv17
            refine aws_skip (aws_nil ?_)
            obtain rfl := Option.some.inj hxv17
            exact ⟨_, rfl, ⟨(fA (by kernel_rfl)), .inr ⟨⟨[(bx (TApiPosting.e (a0.Postings.getD iv14 default)))], rfl, lsOk (And.intro rfl trivial)⟩, List.all_eq_true.1 (by kernel_rfl)⟩⟩⟩
        · subst hq
          refine gT [] [(1, (vp 0)), (23, (AV.d (eL TApiPosting.e a0.Postings))), (24, (vi (a0.Postings.length : Int))), (25, (vi (IntKind.i64.wrap ((iv14 : Int) + 1))))] (by kernel_rfl) ?_
          refine aws_nil ?_
          obtain rfl := Option.some.inj h
          exact ⟨_, rfl, ⟨(fq 0 rfl (fq 1 rfl (fq 2 rfl (frLe_at (k := 3) rfl (LeV.of_eq (congrArg (fun n => AV.d (DV.i .i64 n)) (wrap_succ (by omega)))) frLe_nil)))), .inl rfl⟩⟩
      · refine aws_seq (gT [] [(1, (vp 0)), (23, (AV.d (eL TApiPosting.e a0.Postings))), (24, (vi (a0.Postings.length : Int))), (25, (vi ((a0.Postings.length : Nat) : Int))), (26, (vb (decide (((a0.Postings.length : Nat) : Int) < (a0.Postings.length : Int)))))] (by kernel_rfl) ?_)
        refine aws_seq (aws_cond (b := (decide (((a0.Postings.length : Nat) : Int) < (a0.Postings.length : Int)))) (by kernel_rfl) (fun hbv21 => absurd hbv21 (Bool.eq_false_iff.mp (decide_eq_false (by omega)))) (fun hbv21 => ?_))
        refine aws_exit ?_
        exact ⟨rfl, _, rfl, ⟨frLe_nil, .inl rfl⟩⟩
      · subst e
        obtain rfl := Option.some.inj h
        exact ⟨.inr rfl, hr⟩
      · subst e
        refine aws_seq (gT [] [(2, (vi 0))] (by kernel_rfl) ?_)
        refine aws_ret ?_
        obtain rfl := Option.some.inj h
        exact ⟨.inr rfl, ⟨_, [], [(bx (TApiLedger.e a0))], by kernel_rfl, trivial, (LeV.refl _), rfl⟩⟩

/-! 16 -/
theorem F16_ok {a0 : TApiLedger} {a1 : TApiPosting} {r : R16} (h : F16 a0 a1 = some r) : CallOk Try.prog 16 [(AV.d (TApiLedger.e a0)), (AV.d (TApiPosting.e a1))] [] (V16 r) (L16 r) := by
  refine gF Try.func16 rfl (by kernel_rfl) trivial ?_
  unfold F16 at h
  refine aws_seq (gR [(2, { obs := [(2, (bx (TApiLedger.e (⟨[]⟩ : TApiLedger))))] })] [(2, (vp 0)), (3, (vp 1)), (4, (vp 2))] [(bx (TApiLedger.e a0)), (bx (TApiPosting.e a1)), (bx (TApiLedger.e (⟨[]⟩ : TApiLedger)))] [OLe (bx (DV.agg [(DV.sl 0 fun _ => DV.b false)])) (bx (TApiLedger.e (⟨[]⟩ : TApiLedger)))] (by kernel_rfl) (And.intro (oLe_box (DLe.agg (DLeL.cons DLe.sl0 DLeL.nil))) trivial) ?_)
  refine aws_seq (aws_seq ?_)
  obtain ⟨rv1, hrv2, h⟩ := bind_some' h
  refine gS [(1, { h := .callq (vi rv1) })] [(2, (vp 0)), (3, (vp 1)), (4, (vp 2)), (6, (vi rv1))] [_] (by kernel_rfl) (And.intro ((F43_ok hrv2).pu (fun _ => rfl) (fun _ => rfl)) trivial) ?_
  refine aws_seq (gT [] [(2, (vp 0)), (3, (vp 1)), (4, (vp 2)), (6, (vi rv1)), (11, (vb (rv1 != 0)))] (by kernel_rfl) ?_)
  refine aws_cond (b := (rv1 != 0)) (by kernel_rfl) (fun hbv3 => ?_) (fun hbv3 => ?_)
  · replace h := iteT hbv3 h
    refine aws_seq (gS [(0, { cast := some (AV.d (TApiLedger.e (⟨[]⟩ : TApiLedger))) })] [(4, (vp 2)), (5, (vi rv1))] [LeV (AV.d (DV.agg [(DV.sl 0 fun _ => DV.b false)])) (AV.d (TApiLedger.e (⟨[]⟩ : TApiLedger)))] (by kernel_rfl) (And.intro (leV_dle rfl (DLe.agg (DLeL.cons DLe.sl0 DLeL.nil))) trivial) ?_)
    refine aws_ret ?_
    obtain rfl := Option.some.inj h
    exact ⟨.inr rfl, ⟨_, [], [(bx (TApiLedger.e a0)), (bx (TApiPosting.e a1)), (bx (TApiLedger.e (⟨[]⟩ : TApiLedger)))], by kernel_rfl, trivial, (LeV.refl _), rfl⟩⟩
  · replace h := iteF hbv3 h
    refine aws_skip (aws_seq (gT [] [(2, (vp 0)), (3, (vp 1)), (4, (vp 2)), (7, (vi (a0.Postings.length : Int)))] (by kernel_rfl) ?_))
    refine aws_seq ?_
    obtain ⟨ov4, hxv5, h⟩ := outM_some h
    refine aws_blockS (E := (fun (_ : Unit) => [(2, (vp 0)), (3, (vp 1)), (4, (vp 2))])) (LE := (fun (_ : Unit) => [(bx (TApiLedger.e a0)), (bx (TApiPosting.e a1)), (bx (TApiLedger.e (⟨[]⟩ : TApiLedger)))])) (fun s => ov4 = .next s) ?_ (fun _ => Nat.le_of_ble_eq_true (by kernel_rfl)) (fun _ hq => ?_)
    · refine aws_seq ?_
      obtain ⟨rv6, hrv7, hxv5⟩ := bind_some' hxv5
      refine gS [(1, { h := .callq (vb rv6) })] [(2, (vp 0)), (3, (vp 1)), (4, (vp 2)), (7, (vi (a0.Postings.length : Int))), (17, (vb (!rv6)))] [_] (by kernel_rfl) (And.intro ((F46_ok hrv7).pu (fun _ => rfl) (fun _ => rfl)) trivial) ?_
      refine aws_cond (b := (!rv6)) (by kernel_rfl) (fun hbv8 => ?_) (fun hbv8 => ?_)
      · replace hxv5 := iteT hbv8 hxv5
        refine aws_seq (gS [(0, { cast := some (AV.d (TApiLedger.e (⟨[]⟩ : TApiLedger))) })] [(4, (vp 2)), (5, (vi 85))] [LeV (AV.d (DV.agg [(DV.sl 0 fun _ => DV.b false)])) (AV.d (TApiLedger.e (⟨[]⟩ : TApiLedger)))] (by kernel_rfl) (And.intro (leV_dle rfl (DLe.agg (DLeL.cons DLe.sl0 DLeL.nil))) trivial) ?_)
        refine aws_ret ?_
        obtain rfl := Option.some.inj hxv5
        obtain rfl := Option.some.inj h
        exact ⟨.inr rfl, ⟨_, [], [(bx (TApiLedger.e a0)), (bx (TApiPosting.e a1)), (bx (TApiLedger.e (⟨[]⟩ : TApiLedger)))], by kernel_rfl, trivial, (LeV.refl _), rfl⟩⟩
      · replace hxv5 := iteF hbv8 hxv5
        refine aws_seq (gT [] [(2, (vp 0)), (3, (vp 1)), (4, (vp 2)), (7, (vi (a0.Postings.length : Int))), (22, (vb ((a0.Postings.length : Int) == 400)))] (by kernel_rfl) ?_)
        refine aws_cond (b := ((a0.Postings.length : Int) == 400)) (by kernel_rfl) (fun hbv9 => ?_) (fun hbv9 => ?_)
        · replace hxv5 := iteT hbv9 hxv5
          refine aws_seq (gS [(0, { cast := some (AV.d (TApiLedger.e (⟨[]⟩ : TApiLedger))) })] [(4, (vp 2)), (5, (vi 3))] [LeV (AV.d (DV.agg [(DV.sl 0 fun _ => DV.b false)])) (AV.d (TApiLedger.e (⟨[]⟩ : TApiLedger)))] (by kernel_rfl) (And.intro (leV_dle rfl (DLe.agg (DLeL.cons DLe.sl0 DLeL.nil))) trivial) ?_)
          refine aws_ret ?_
          obtain rfl := Option.some.inj hxv5
          obtain rfl := Option.some.inj h
          exact ⟨.inr rfl, ⟨_, [], [(bx (TApiLedger.e a0)), (bx (TApiPosting.e a1)), (bx (TApiLedger.e (⟨[]⟩ : TApiLedger)))], by kernel_rfl, trivial, (LeV.refl _), rfl⟩⟩
        · replace hxv5 := iteF hbv9 hxv5
          refine aws_seq (gT [] [(2, (vp 0)), (3, (vp 1)), (4, (vp 2)), (7, (vi (a0.Postings.length : Int))), (26, (vb (a1.Number != (IntKind.i64.wrap ((a0.Postings.length : Int) + 1)))))] (by kernel_rfl) ?_)
          refine aws_cond (b := (a1.Number != (IntKind.i64.wrap ((a0.Postings.length : Int) + 1)))) (by kernel_rfl) (fun hbv10 => ?_) (fun hbv10 => ?_)
          · replace hxv5 := iteT hbv10 hxv5
            refine aws_seq (gS [(0, { cast := some (AV.d (TApiLedger.e (⟨[]⟩ : TApiLedger))) })] [(4, (vp 2)), (5, (vi 65))] [LeV (AV.d (DV.agg [(DV.sl 0 fun _ => DV.b false)])) (AV.d (TApiLedger.e (⟨[]⟩ : TApiLedger)))] (by kernel_rfl) (And.intro (leV_dle rfl (DLe.agg (DLeL.cons DLe.sl0 DLeL.nil))) trivial) ?_)
            refine aws_ret ?_
            obtain rfl := Option.some.inj hxv5
            obtain rfl := Option.some.inj h
            exact ⟨.inr rfl, ⟨_, [], [(bx (TApiLedger.e a0)), (bx (TApiPosting.e a1)), (bx (TApiLedger.e (⟨[]⟩ : TApiLedger)))], by kernel_rfl, trivial, (LeV.refl _), rfl⟩⟩
          · replace hxv5 := iteF hbv10 hxv5
            refine aws_seq ?_
            obtain ⟨⟨hcv11, hcv12, _⟩, hxv5⟩ := guardP_some hxv5
            refine gD ⟨[[], [0], [1, 0], [2, 1, 0], [3, 2, 1, 0], [2, 1, 0], [5, 2, 1, 0], [2, 1, 0], [7, 2, 1, 0], [8, 7, 6, 5, 2, 1, 0], [9, 8, 7, 6, 5, 2, 1, 0], [10, 9, 8, 7, 6, 5, 2, 1, 0], [11, 10, 9, 8, 7, 6, 5, 4, 3, 2, 1, 0], [12, 11, 10, 9, 8, 7, 6, 5, 4, 3, 2, 1, 0], [13, 12, 11, 10, 9, 8, 7, 6, 5, 4, 3, 2, 1, 0]], []⟩ [] [(2, (vp 0)), (3, (vp 1)), (4, (vp 2)), (33, (vb (bif (decide ((a0.Postings.length : Int) > 0)) then (decide (a1.Day < ((a0.Postings.getD (((IntKind.i64.wrap ((a0.Postings.length : Int) - 1))).toNat) default).Day))) else false)))] [(bx (TApiLedger.e a0)), (bx (TApiPosting.e a1)), (bx (TApiLedger.e (⟨[]⟩ : TApiLedger)))] [AllP [(decide ((a0.Postings.length : Int) > 0)) = true] → ((0 : Int) ≤ (IntKind.i64.wrap ((a0.Postings.length : Int) - 1))), AllP [(decide ((a0.Postings.length : Int) > 0)) = true] → (((IntKind.i64.wrap ((a0.Postings.length : Int) - 1))).toNat < a0.Postings.length)] (by kernel_rfl) (by kernel_rfl) (by kernel_rfl) (And.intro hcv11 (And.intro hcv12 trivial)) ?_
            refine aws_cond (b := (bif (decide ((a0.Postings.length : Int) > 0)) then (decide (a1.Day < ((a0.Postings.getD (((IntKind.i64.wrap ((a0.Postings.length : Int) - 1))).toNat) default).Day))) else false)) (by kernel_rfl) (fun hbv13 => ?_) (fun hbv13 => ?_)
            · replace hxv5 := iteT hbv13 hxv5
              refine aws_seq (gS [(0, { cast := some (AV.d (TApiLedger.e (⟨[]⟩ : TApiLedger))) })] [(4, (vp 2)), (5, (vi 8))] [LeV (AV.d (DV.agg [(DV.sl 0 fun _ => DV.b false)])) (AV.d (TApiLedger.e (⟨[]⟩ : TApiLedger)))] (by kernel_rfl) (And.intro (leV_dle rfl (DLe.agg (DLeL.cons DLe.sl0 DLeL.nil))) trivial) ?_)
              refine aws_ret ?_
              obtain rfl := Option.some.inj hxv5
              obtain rfl := Option.some.inj h
              exact ⟨.inr rfl, ⟨_, [], [(bx (TApiLedger.e a0)), (bx (TApiPosting.e a1)), (bx (TApiLedger.e (⟨[]⟩ : TApiLedger)))], by kernel_rfl, trivial, (LeV.refl _), rfl⟩⟩
            · replace hxv5 := iteF hbv13 hxv5
              refine aws_skip (aws_nil ?_)
              obtain rfl := Option.some.inj hxv5
              exact ⟨_, rfl, ⟨(fA (by kernel_rfl)), .inl rfl⟩⟩
    · subst hq
      refine aws_seq ?_
      obtain ⟨⟨hcv14, hcv15, _⟩, h⟩ := guardP_some h
      obtain ⟨hn285, h⟩ := guardP_some h
      refine aws_then (fr1 := [(4, (vp 2)), (5, (vi 0))]) (L1 := [(bx (TApiLedger.e a0)), (bx (TApiPosting.e a1)), (Ob.box (AV.agg [(AV.ref 3 ((a0.Postings ++ ([a1] : List TApiPosting)).length) 0 ((a0.Postings ++ ([a1] : List TApiPosting)).length))])), (eS 8 TApiPosting.e (a0.Postings ++ ([a1] : List TApiPosting)))]) (fr2 := [(4, (vp 2)), (5, (vi 0))]) (L2 := [(bx (TApiLedger.e a0)), (bx (TApiPosting.e a1)), (bx (DV.agg [(eL TApiPosting.e (a0.Postings ++ ([a1] : List TApiPosting)))])), Ob.dead]) (shift_freeze (o := 3) (g := fun j => TApiPosting.e ((a0.Postings ++ ([a1] : List TApiPosting)).getD j default)) rfl hn285 (.keep _ _ _ _ (Nat.ne_of_beq_eq_false rfl) (.keep _ _ _ _ (Nat.ne_of_beq_eq_false rfl) (.box _ _ _ _ _ (Nat.ne_of_beq_eq_false rfl) (TrV.aggD (TrL.cons (TrV.ref (Nat.le_refl _)) TrL.nil)) (.here _ _ _ _ rfl (.nil _)))))) (trF_at (k := 0) rfl (TrS.keep _) (trF_at (k := 1) rfl (TrS.keep _) trF_nil)) (aw_drawn (D := ⟨[[], [0], [1, 0], [], [3], [4, 3, 2, 1, 0], [5, 4, 3, 2, 1, 0], [6, 5, 4, 3, 2, 1, 0], [7, 6, 5, 4, 3, 2, 1, 0]], [2, 5, 7]⟩) (hs := [(2, { h := .obj }), (4, { cast := some (AV.d (eL TApiPosting.e ([a1] : List TApiPosting))) }), (5, { cast := some (AV.ref 3 ((a0.Postings ++ ([a1] : List TApiPosting)).length) 0 ((a0.Postings ++ ([a1] : List TApiPosting)).length)), obs := [(3, (eS 8 TApiPosting.e (a0.Postings ++ ([a1] : List TApiPosting))))] })]) (live := [4, 5]) (fr' := [(4, (vp 2)), (5, (vi 0))]) (L' := [(bx (TApiLedger.e a0)), (bx (TApiPosting.e a1)), (Ob.box (AV.agg [(AV.ref 3 ((a0.Postings ++ ([a1] : List TApiPosting)).length) 0 ((a0.Postings ++ ([a1] : List TApiPosting)).length))])), (eS 8 TApiPosting.e (a0.Postings ++ ([a1] : List TApiPosting)))]) (C := [∀ k, k < a0.Postings.length → (AV.d (TApiPosting.e (a0.Postings.getD k default))).wd = 8, a0.Postings.length * (2 * 64) ≤ 2 ^ 48, LeV (AV.d (DV.sl 1 (listF (DV.b false) [(TApiPosting.e a1)]))) (AV.d (eL TApiPosting.e ([a1] : List TApiPosting))), LeV (AV.d (DV.sl 1 (listF (DV.b false) [(TApiPosting.e a1)]))) (AV.d (eL TApiPosting.e ([a1] : List TApiPosting))), a0.Postings.length = a0.Postings.length, a0.Postings.length = a0.Postings.length, ∀ k, k < 1 → (AV.d (TApiPosting.e (([a1] : List TApiPosting).getD k default))).wd = 8, (a0.Postings.length + 1) * (2 * 64) ≤ 2 ^ 48, LeV (AV.ref 3 (a0.Postings.length + 1) 0 (a0.Postings.length + 1)) (AV.ref 3 ((a0.Postings ++ ([a1] : List TApiPosting)).length) 0 ((a0.Postings ++ ([a1] : List TApiPosting)).length)), OLe (Ob.seq 8 (a0.Postings.length + 1) (catF a0.Postings.length (fun j => AV.d (TApiPosting.e (a0.Postings.getD j default))) (fun j => AV.d (TApiPosting.e (([a1] : List TApiPosting).getD j default))))) (eS 8 TApiPosting.e (a0.Postings ++ ([a1] : List TApiPosting)))]) (by kernel_rfl) (by kernel_rfl) (by kernel_rfl) (And.intro (fun _ _ => rfl) (And.intro hcv14 (And.intro (leV_lit TApiPosting.e ([a1] : List TApiPosting)) (And.intro (leV_lit TApiPosting.e ([a1] : List TApiPosting)) (And.intro rfl (And.intro rfl (And.intro (fun _ _ => rfl) (And.intro hcv15 (And.intro (leV_app (o := 3) (l := a0.Postings) (x := ([a1] : List TApiPosting))) (And.intro (oLe_app (e := TApiPosting.e) (l := a0.Postings) (x := ([a1] : List TApiPosting))) trivial)))))))))) ⟨rfl, rfl, rfl⟩) ?_
      refine aws_ret ?_
      obtain rfl := Option.some.inj h
      exact ⟨.inr rfl, ⟨_, [], [(bx (TApiLedger.e a0)), (bx (TApiPosting.e a1)), (bx (DV.agg [(eL TApiPosting.e (a0.Postings ++ ([a1] : List TApiPosting)))])), Ob.dead], by kernel_rfl, trivial, (LeV.refl _), rfl⟩⟩

/-! 10 -/
theorem F10_ok {a1 : Int} {a2 : Int} {a3 : Int} {p0 : TTreasuryplaySrc} {r : R10} (h : F10 a1 a2 a3 p0 = some r) : CallOk Try.prog 10 [(vp 0), (vi a1), (vi a2), (vi a3)] [(bx (TTreasuryplaySrc.e p0))] (V10 r) (L10 r) := by
  refine gF Try.func10 rfl (by kernel_rfl) (And.intro rfl trivial) ?_
  unfold F10 at h
  refine aws_seq (gR [(0, { obs := [(1, (bx (TApiLedger.e (⟨[]⟩ : TApiLedger))))] })] [(0, (vp 0)), (1, (vi a1)), (2, (vi a2)), (3, (vi a3)), (8, (vp 1))] [(bx (TTreasuryplaySrc.e p0)), (bx (TApiLedger.e (⟨[]⟩ : TApiLedger)))] [OLe (bx (DV.agg [(DV.sl 0 fun _ => DV.b false)])) (bx (TApiLedger.e (⟨[]⟩ : TApiLedger)))] (by kernel_rfl) (And.intro (oLe_box (DLe.agg (DLeL.cons DLe.sl0 DLeL.nil))) trivial) ?_)
  refine aws_seq (gR [(0, { obs := [(2, (bx (TApiLedger.e (⟨[]⟩ : TApiLedger))))] })] [(0, (vp 0)), (1, (vi a1)), (2, (vi a2)), (3, (vi a3)), (8, (vp 1)), (9, (vp 2))] [(bx (TTreasuryplaySrc.e p0)), (bx (TApiLedger.e (⟨[]⟩ : TApiLedger))), (bx (TApiLedger.e (⟨[]⟩ : TApiLedger)))] [OLe (bx (DV.agg [(DV.sl 0 fun _ => DV.b false)])) (bx (TApiLedger.e (⟨[]⟩ : TApiLedger)))] (by kernel_rfl) (And.intro (oLe_box (DLe.agg (DLeL.cons DLe.sl0 DLeL.nil))) trivial) ?_)
  refine aws_seq (gT [] [(0, (vp 0)), (1, (vi a1)), (2, (vi a2)), (3, (vi a3)), (8, (vp 1)), (9, (vp 2)), (10, (vi 0))] (by kernel_rfl) ?_)
  refine aws_seq (aws_seq ?_)
  obtain ⟨rv1, hrv2, h⟩ := bind_some' h
  refine gR [(3, { h := .callw (vi rv1.1) [(0, (bx (TTreasuryplaySrc.e rv1.2)))] [] })] [(0, (vp 0)), (2, (vi a2)), (3, (vi a3)), (8, (vp 1)), (9, (vp 2)), (10, (vi 0)), (11, (vi rv1.1))] [(bx (TTreasuryplaySrc.e rv1.2)), (bx (TApiLedger.e (⟨[]⟩ : TApiLedger))), (bx (TApiLedger.e (⟨[]⟩ : TApiLedger)))] [CallOk Try.prog 19 [(vp 0), (vi (IntKind.i64.wrap (a1 + 1)))] [(bx (TTreasuryplaySrc.e p0)), (bx (TApiLedger.e (⟨[]⟩ : TApiLedger))), (bx (TApiLedger.e (⟨[]⟩ : TApiLedger)))] (vi rv1.1) [(bx (TTreasuryplaySrc.e rv1.2)), (bx (TApiLedger.e (⟨[]⟩ : TApiLedger))), (bx (TApiLedger.e (⟨[]⟩ : TApiLedger)))]] (by kernel_rfl) (And.intro ((F19_ok hrv2).ca [0] (by kernel_rfl)) trivial) ?_
  obtain ⟨ov3, hxv4, h⟩ := outM_some h
  refine aws_loop (E := (fun (_ : TTreasuryplaySrc × TApiLedger × Int × Int) => [(8, (vp 1)), (9, (vp 2))])) (LE := (fun (sv5 : TTreasuryplaySrc × TApiLedger × Int × Int) => [(bx (TTreasuryplaySrc.e sv5.1)), (bx (TApiLedger.e (⟨[]⟩ : TApiLedger))), (bx (TApiLedger.e sv5.2.1))])) (R := (fun x => FR Try.prog Try.f10 (V10 x) (L10 x))) (aw_iter (m := 3) (I := (fun (sv5 : TTreasuryplaySrc × TApiLedger × Int × Int) => [(0, (vp 0)), (2, (vi a2)), (3, (vi a3)), (8, (vp 1)), (9, (vp 2)), (10, (vi sv5.2.2.1)), (11, (vi sv5.2.2.2))])) (LI := (fun (sv5 : TTreasuryplaySrc × TApiLedger × Int × Int) => [(bx (TTreasuryplaySrc.e sv5.1)), (bx (TApiLedger.e (⟨[]⟩ : TApiLedger))), (bx (TApiLedger.e sv5.2.1))])) (step := F10_b1 a2 a3) (fun sv5 _ h => aw_of ?_) (fun _ => rfl) hxv4 ⟨(fA (by kernel_rfl)), .inl rfl⟩ (Nat.le_of_ble_eq_true (by kernel_rfl))) (fun _ => Nat.le_of_ble_eq_true (by kernel_rfl)) (fun x fr L e hr => ?_) (fun sv5 e => ?_)
  · unfold F10_b1 at h
    refine aws_seq (aws_seq (gT [] [(0, (vp 0)), (2, (vi a2)), (3, (vi a3)), (8, (vp 1)), (9, (vp 2)), (10, (vi sv5.2.2.1)), (11, (vi sv5.2.2.2)), (19, (vb (decide (sv5.2.2.2 > 0))))] (by kernel_rfl) ?_))
    refine aws_cond (b := (decide (sv5.2.2.2 > 0))) (by kernel_rfl) (fun hbv6 => ?_) (fun hbv6 => ?_)
    · replace h := iteT hbv6 h
      refine aws_skip (aws_seq ?_)
      obtain ⟨ov7, hxv8, h⟩ := bind_some' h
      refine aws_blockS (E := (fun (sv9 : TTreasuryplaySrc × TApiLedger × Int) => [(0, (vp 0)), (2, (vi a2)), (3, (vi a3)), (8, (vp 1)), (9, (vp 2)), (10, (vi sv9.2.2)), (11, (vi sv5.2.2.2))])) (LE := (fun (sv9 : TTreasuryplaySrc × TApiLedger × Int) => [(bx (TTreasuryplaySrc.e sv9.1)), (bx (TApiLedger.e (⟨[]⟩ : TApiLedger))), (bx (TApiLedger.e sv9.2.1))])) (fun s => s = ov7) ?_ (fun _ => Nat.le_of_ble_eq_true (by kernel_rfl)) (fun sv9 hq => ?_)
      · refine aws_seq ?_
        obtain ⟨rv10, hrv11, hxv8⟩ := bind_some' hxv8
        refine gR [(5, { h := .callw (vi rv10.1) [(0, (bx (TTreasuryplaySrc.e rv10.2)))] [] })] [(0, (vp 0)), (2, (vi a2)), (3, (vi a3)), (8, (vp 1)), (9, (vp 2)), (10, (vi (if a3 < (IntKind.i64.wrap (sv5.2.2.1 + rv10.1)) then a3 else (IntKind.i64.wrap (sv5.2.2.1 + rv10.1))))), (11, (vi sv5.2.2.2))] [(bx (TTreasuryplaySrc.e rv10.2)), (bx (TApiLedger.e (⟨[]⟩ : TApiLedger))), (bx (TApiLedger.e sv5.2.1))] [(4 : Int) ≠ 0, CallOk Try.prog 19 [(vp 0), (vi (IntKind.i64.wrap ((IntKind.i64.wrap (a3.tdiv 4)) + 2)))] [(bx (TTreasuryplaySrc.e sv5.1)), (bx (TApiLedger.e (⟨[]⟩ : TApiLedger))), (bx (TApiLedger.e sv5.2.1))] (vi rv10.1) [(bx (TTreasuryplaySrc.e rv10.2)), (bx (TApiLedger.e (⟨[]⟩ : TApiLedger))), (bx (TApiLedger.e sv5.2.1))]] (by kernel_rfl) (And.intro (by decide) (And.intro ((F19_ok hrv11).ca [0] (by kernel_rfl)) trivial)) ?_
        refine aws_seq (aws_shift (H := NoH) (L' := [(bx (TTreasuryplaySrc.e rv10.2)), (bx (TApiLedger.e (⟨[]⟩ : TApiLedger))), (bx (TApiLedger.e sv5.2.1)), Ob.unb]) shift_unb (trF_refl _) ?_)
        obtain ⟨rv12, hrv13, hxv8⟩ := bind_some' hxv8
        obtain ⟨rv14, hrv15, hxv8⟩ := bind_some' hxv8
        refine gD ⟨[[], [], [], [2], [3, 2], [4, 3, 2], [], [], [7, 6, 5, 4, 3, 2, 1], [8, 7, 6, 5, 4, 3, 2, 1, 0], [9, 8, 7, 6, 5, 4, 3, 2, 1, 0], [10, 9, 8, 7, 6, 5, 4, 3, 2, 1, 0], [10, 9, 8, 7, 6, 5, 4, 3, 2, 1, 0], [], [13, 11, 10, 9, 8, 7, 6, 5, 4, 3, 2, 1, 0], [14, 13, 12, 11, 10, 9, 8, 7, 6, 5, 4, 3, 2, 1, 0]], [8, 13, 14]⟩ [(8, { h := .callw (AV.d (TApiPosting.e rv12.1)) [(0, (bx (TTreasuryplaySrc.e rv12.2)))] [] }), (9, { h := .callq (AV.tup [(AV.d (TApiLedger.e rv14.1)), (vi rv14.2)]) }), (13, { h := .born 3 false, obs := [(3, (bx (TApiLedger.e (⟨[]⟩ : TApiLedger))))] })] [(0, (vp 0)), (2, (vi a2)), (3, (vi a3)), (8, (vp 1)), (9, (vp 2)), (10, (vi (if a3 < (IntKind.i64.wrap (sv5.2.2.1 + rv10.1)) then a3 else (IntKind.i64.wrap (sv5.2.2.1 + rv10.1))))), (11, (vi sv5.2.2.2)), (12, (vp 3)), (13, (vi rv14.2))] [(bx (TTreasuryplaySrc.e rv12.2)), (bx (TApiLedger.e (⟨[]⟩ : TApiLedger))), (bx (TApiLedger.e sv5.2.1)), (bx (TApiLedger.e rv14.1))] [CallOk Try.prog 20 [(vp 0), (vi (IntKind.i64.wrap ((sv5.2.1.Postings.length : Int) + 1))), (vi (if a3 < (IntKind.i64.wrap (sv5.2.2.1 + rv10.1)) then a3 else (IntKind.i64.wrap (sv5.2.2.1 + rv10.1)))), (vi a2)] [(bx (TTreasuryplaySrc.e rv10.2)), (bx (TApiLedger.e (⟨[]⟩ : TApiLedger))), (bx (TApiLedger.e sv5.2.1)), Ob.unb] (AV.d (TApiPosting.e rv12.1)) [(bx (TTreasuryplaySrc.e rv12.2)), (bx (TApiLedger.e (⟨[]⟩ : TApiLedger))), (bx (TApiLedger.e sv5.2.1)), Ob.unb], CallOk Try.prog 20 [(vp 0), (vi (IntKind.i64.wrap ((sv5.2.1.Postings.length : Int) + 1))), (vi (if a3 < (IntKind.i64.wrap (sv5.2.2.1 + rv10.1)) then a3 else (IntKind.i64.wrap (sv5.2.2.1 + rv10.1)))), (vi a2)] [(bx (TTreasuryplaySrc.e rv10.2)), (bx (TApiLedger.e (⟨[]⟩ : TApiLedger))), (bx (TApiLedger.e sv5.2.1)), (bx (TApiLedger.e (⟨[]⟩ : TApiLedger)))] (AV.d (TApiPosting.e rv12.1)) [(bx (TTreasuryplaySrc.e rv12.2)), (bx (TApiLedger.e (⟨[]⟩ : TApiLedger))), (bx (TApiLedger.e sv5.2.1)), (bx (TApiLedger.e (⟨[]⟩ : TApiLedger)))], _, _, OLe (bx (DV.agg [(DV.sl 0 fun _ => DV.b false)])) (bx (TApiLedger.e (⟨[]⟩ : TApiLedger))), OLe (bx (DV.agg [(DV.sl 0 fun _ => DV.b false)])) (bx (TApiLedger.e (⟨[]⟩ : TApiLedger)))] (by kernel_rfl) (by kernel_rfl) (by kernel_rfl) (And.intro ((F20_ok hrv13).ca [0] (by kernel_rfl)) (And.intro ((F20_ok hrv13).ca [0] (by kernel_rfl)) (And.intro ((F16_ok hrv15).pu (fun _ => rfl) (fun _ => rfl)) (And.intro ((F16_ok hrv15).pu (fun _ => rfl) (fun _ => rfl)) (And.intro (oLe_box (DLe.agg (DLeL.cons DLe.sl0 DLeL.nil))) (And.intro (oLe_box (DLe.agg (DLeL.cons DLe.sl0 DLeL.nil))) trivial)))))) ?_
        refine aws_seq (gT [] [(0, (vp 0)), (2, (vi a2)), (3, (vi a3)), (8, (vp 1)), (9, (vp 2)), (10, (vi (if a3 < (IntKind.i64.wrap (sv5.2.2.1 + rv10.1)) then a3 else (IntKind.i64.wrap (sv5.2.2.1 + rv10.1))))), (11, (vi sv5.2.2.2)), (12, (vp 3)), (45, (vb (rv14.2 == 0)))] (by kernel_rfl) ?_)
        refine aws_cond (b := (rv14.2 == 0)) (by kernel_rfl) (fun hbv16 => ?_) (fun hbv16 => ?_)
        · replace hxv8 := iteT hbv16 hxv8
          refine gR [] [(0, (vp 0)), (2, (vi a2)), (3, (vi a3)), (8, (vp 1)), (9, (vp 2)), (10, (vi (if a3 < (IntKind.i64.wrap (sv5.2.2.1 + rv10.1)) then a3 else (IntKind.i64.wrap (sv5.2.2.1 + rv10.1))))), (11, (vi sv5.2.2.2))] [(bx (TTreasuryplaySrc.e rv12.2)), (bx (TApiLedger.e (⟨[]⟩ : TApiLedger))), (bx (TApiLedger.e rv14.1)), (bx (TApiLedger.e rv14.1))] [] (by kernel_rfl) trivial ?_
          refine aws_nil ?_
          obtain rfl := Option.some.inj hxv8
          exact ⟨_, rfl, ⟨(fA (by kernel_rfl)), .inr ⟨⟨[(bx (TApiLedger.e rv14.1))], rfl, lsOk (And.intro rfl (And.intro rfl (And.intro rfl trivial)))⟩, List.all_eq_true.1 (by kernel_rfl)⟩⟩⟩
        · replace hxv8 := iteF hbv16 hxv8
          refine aws_skip (aws_nil ?_)
          obtain rfl := Option.some.inj hxv8
          exact ⟨_, rfl, ⟨(fA (by kernel_rfl)), .inr ⟨⟨[(bx (TApiLedger.e rv14.1))], rfl, lsOk (And.intro rfl (And.intro rfl (And.intro rfl trivial)))⟩, List.all_eq_true.1 (by kernel_rfl)⟩⟩⟩
      · subst hq
        refine gT [] [(0, (vp 0)), (2, (vi a2)), (3, (vi a3)), (8, (vp 1)), (9, (vp 2)), (10, (vi sv9.2.2)), (11, (vi (IntKind.i64.wrap (sv5.2.2.2 - 1))))] (by kernel_rfl) ?_
        refine aws_nil ?_
        obtain rfl := Option.some.inj h
        exact ⟨_, rfl, ⟨(fA (by kernel_rfl)), .inl rfl⟩⟩
    · replace h := iteF hbv6 h
      refine aws_exit ?_
      obtain rfl := Option.some.inj h
      exact ⟨rfl, _, rfl, ⟨(fA (by kernel_rfl)), .inl rfl⟩⟩
  · subst e
    exact nomatch (show (none : Option _) = some _ from h)
  · subst e
    refine aws_seq (gR [] [(8, (vp 1))] [(bx (TTreasuryplaySrc.e sv5.1)), (bx (TApiLedger.e sv5.2.1)), (bx (TApiLedger.e sv5.2.1))] [] (by kernel_rfl) trivial ?_)
    refine aws_ret ?_
    obtain rfl := Option.some.inj h
    exact ⟨.inr rfl, ⟨_, [], [(bx (TApiLedger.e sv5.2.1)), (bx (TApiLedger.e sv5.2.1))], by kernel_rfl, trivial, (LeV.refl _), rfl⟩⟩

/-! 67 -/
theorem F67_ok {a0 : Int} {a1 : Int} {a2 : Int} {r : R67} (h : F67 a0 a1 a2 = some r) : CallOk Try.prog 67 [(vi a0), (vi a1), (vi a2)] [] (V67 r) (L67 r) := by
  refine gF Try.func67 rfl (by kernel_rfl) trivial ?_
  unfold F67 at h
  refine aws_seq (gT [] [(0, (vi a0)), (1, (vi a1)), (2, (vi a2))] (by kernel_rfl) ?_)
  refine aws_seq (gT [] [(6, (vb (bif (decide (a0 ≥ a1)) then (decide (a0 ≤ a2)) else false)))] (by kernel_rfl) ?_)
  refine aws_ret ?_
  obtain rfl := Option.some.inj h
  exact ⟨.inr rfl, ⟨_, [], [], by kernel_rfl, trivial, (LeV.refl _), rfl⟩⟩

/-! 68 -/
theorem F68_ok {a0 : Int} {r : R68} (h : F68 a0 = some r) : CallOk Try.prog 68 [(vi a0)] [] (V68 r) (L68 r) := by
  refine gF Try.func68 rfl (by kernel_rfl) trivial ?_
  unfold F68 at h
  refine aws_seq (gT [] [(0, (vi a0))] (by kernel_rfl) ?_)
  refine aws_seq ?_
  obtain ⟨rv1, hrv2, h⟩ := bind_some' h
  refine gS [(1, { h := .callq (vb rv1) })] [(2, (vb rv1))] [_] (by kernel_rfl) (And.intro ((F67_ok hrv2).pu (fun _ => rfl) (fun _ => rfl)) trivial) ?_
  refine aws_ret ?_
  obtain rfl := Option.some.inj h
  exact ⟨.inr rfl, ⟨_, [], [], by kernel_rfl, trivial, (LeV.refl _), rfl⟩⟩

/-! 69 -/
theorem F69_ok {a0 : Int} {r : R69} (h : F69 a0 = some r) : CallOk Try.prog 69 [(vi a0)] [] (V69 r) (L69 r) := by
  refine gF Try.func69 rfl (by kernel_rfl) trivial ?_
  unfold F69 at h
  refine aws_seq (gT [] [(0, (vi a0))] (by kernel_rfl) ?_)
  refine aws_seq (aws_seq ?_)
  obtain ⟨rv1, hrv2, h⟩ := bind_some' h
  refine gS [(1, { h := .callq (vb rv1) })] [(0, (vi a0)), (5, (vb (!rv1)))] [_] (by kernel_rfl) (And.intro ((F67_ok hrv2).pu (fun _ => rfl) (fun _ => rfl)) trivial) ?_
  refine aws_cond (b := (!rv1)) (by kernel_rfl) (fun hbv3 => ?_) (fun hbv3 => ?_)
  · replace h := iteT hbv3 h
    refine aws_seq (gT [] [(2, (vi 0))] (by kernel_rfl) ?_)
    refine aws_ret ?_
    obtain rfl := Option.some.inj h
    exact ⟨.inr rfl, ⟨_, [], [], by kernel_rfl, trivial, (LeV.refl _), rfl⟩⟩
  · replace h := iteF hbv3 h
    refine aws_skip (aws_seq (gS [] [(2, (vi (IntKind.i64.wrap (a0.tdiv 100))))] [(100 : Int) ≠ 0] (by kernel_rfl) (And.intro (by decide) trivial) ?_))
    refine aws_ret ?_
    obtain rfl := Option.some.inj h
    exact ⟨.inr rfl, ⟨_, [], [], by kernel_rfl, trivial, (LeV.refl _), rfl⟩⟩

/-! 63 -/
theorem F63_ok {a0 : TApiPosting} {r : R63} (h : F63 a0 = some r) : CallOk Try.prog 63 [(AV.d (TApiPosting.e a0))] [] (V63 r) (L63 r) := by
  refine gF Try.func63 rfl (by kernel_rfl) trivial ?_
  unfold F63 at h
  refine aws_seq (gR [] [(1, (vp 0))] [(bx (TApiPosting.e a0))] [] (by kernel_rfl) trivial ?_)
  refine aws_seq ?_
  obtain ⟨rv1, hrv2, h⟩ := bind_some' h
  obtain ⟨rv3, hrv4, h⟩ := bind_some' h
  obtain ⟨rv5, hrv6, h⟩ := bind_some' h
  obtain ⟨rv7, hrv8, h⟩ := bind_some' h
  obtain ⟨rv9, hrv10, h⟩ := bind_some' h
  obtain ⟨rv11, hrv12, h⟩ := bind_some' h
  obtain ⟨rv13, hrv14, h⟩ := bind_some' h
  obtain ⟨rv15, hrv16, h⟩ := bind_some' h
  refine gS [(2, { h := .callq (vb rv1) }), (6, { h := .callq (vb rv3) }), (11, { h := .callq (vb rv5) }), (16, { h := .callq (vi rv7) }), (22, { h := .callq (vi rv9) }), (35, { h := .callq (vb rv11) }), (40, { h := .callq (vb rv13) }), (52, { h := .callq (vb rv15) })] [(2, (vb (bif (bif (bif (bif (bif (bif (bif (bif (bif rv1 then rv3 else false) then rv5 else false) then (decide (rv7 > 0)) else false) then (decide (rv9 > 0)) else false) then (a0.Debit != a0.Credit) else false) then rv11 else false) then rv13 else false) then (a0.Partner != a0.Entity) else false) then rv15 else false)))] [_, AllP [rv1 = true] → (∀ L, CallOk Try.prog 67 [(vi a0.Day), (vi 0), (vi 36000)] L (vb rv3) L), AllP [(bif rv1 then rv3 else false) = true] → (∀ L, CallOk Try.prog 68 [(vi a0.Entity)] L (vb rv5) L), AllP [(bif (bif rv1 then rv3 else false) then rv5 else false) = true] → (∀ L, CallOk Try.prog 69 [(vi a0.Debit)] L (vi rv7) L), AllP [(bif (bif (bif rv1 then rv3 else false) then rv5 else false) then (decide (rv7 > 0)) else false) = true] → (∀ L, CallOk Try.prog 69 [(vi a0.Credit)] L (vi rv9) L), AllP [(bif (bif (bif (bif (bif rv1 then rv3 else false) then rv5 else false) then (decide (rv7 > 0)) else false) then (decide (rv9 > 0)) else false) then (a0.Debit != a0.Credit) else false) = true] → (∀ L, CallOk Try.prog 67 [(vi a0.Amount), (vi 1), (vi 1000000000000)] L (vb rv11) L), AllP [(bif (bif (bif (bif (bif (bif rv1 then rv3 else false) then rv5 else false) then (decide (rv7 > 0)) else false) then (decide (rv9 > 0)) else false) then (a0.Debit != a0.Credit) else false) then rv11 else false) = true] → (∀ L, CallOk Try.prog 67 [(vi a0.Partner), (vi 0), (vi 10)] L (vb rv13) L), AllP [(bif (bif (bif (bif (bif (bif (bif (bif rv1 then rv3 else false) then rv5 else false) then (decide (rv7 > 0)) else false) then (decide (rv9 > 0)) else false) then (a0.Debit != a0.Credit) else false) then rv11 else false) then rv13 else false) then (a0.Partner != a0.Entity) else false) = true] → (∀ L, CallOk Try.prog 67 [(vi a0.Ref), (vi 0), (vi 1000000)] L (vb rv15) L)] (by kernel_rfl) (And.intro ((F67_ok hrv2).pu (fun _ => rfl) (fun _ => rfl)) (And.intro (fun hg => ((F67_ok (optP_some hrv4 hg)).pu (fun _ => rfl) (fun _ => rfl))) (And.intro (fun hg => ((F68_ok (optP_some hrv6 hg)).pu (fun _ => rfl) (fun _ => rfl))) (And.intro (fun hg => ((F69_ok (optP_some hrv8 hg)).pu (fun _ => rfl) (fun _ => rfl))) (And.intro (fun hg => ((F69_ok (optP_some hrv10 hg)).pu (fun _ => rfl) (fun _ => rfl))) (And.intro (fun hg => ((F67_ok (optP_some hrv12 hg)).pu (fun _ => rfl) (fun _ => rfl))) (And.intro (fun hg => ((F67_ok (optP_some hrv14 hg)).pu (fun _ => rfl) (fun _ => rfl))) (And.intro (fun hg => ((F67_ok (optP_some hrv16 hg)).pu (fun _ => rfl) (fun _ => rfl))) trivial)))))))) ?_
  refine aws_ret ?_
  obtain rfl := Option.some.inj h
  exact ⟨.inr rfl, ⟨_, [], [(bx (TApiPosting.e a0))], by kernel_rfl, trivial, (LeV.refl _), rfl⟩⟩

/-! 62 -/
theorem F62_ok {a0 : TApiPosting} {r : R62} (h : F62 a0 = some r) : CallOk Try.prog 62 [(AV.d (TApiPosting.e a0))] [] (V62 r) (L62 r) := by
  refine gF Try.func62 rfl (by kernel_rfl) trivial ?_
  unfold F62 at h
  refine aws_seq (gR [] [(1, (vp 0))] [(bx (TApiPosting.e a0))] [] (by kernel_rfl) trivial ?_)
  refine aws_seq ?_
  obtain ⟨rv1, hrv2, h⟩ := bind_some' h
  refine gS [(1, { h := .callq (vb rv1) })] [(2, (vb (!rv1)))] [_] (by kernel_rfl) (And.intro ((F63_ok hrv2).pu (fun _ => rfl) (fun _ => rfl)) trivial) ?_
  refine aws_ret ?_
  obtain rfl := Option.some.inj h
  exact ⟨.inr rfl, ⟨_, [], [(bx (TApiPosting.e a0))], by kernel_rfl, trivial, (LeV.refl _), rfl⟩⟩

/-! 66 -/
theorem F66_62_ok {a0 : (List TApiPosting)} {r : R66_62} (h : F66_62 a0 = some r) : CallOk Try.prog 66 [(AV.d (eL TApiPosting.e a0)), (AV.fn 62 [])] [] (V66_62 r) (L66_62 r) := by
  refine gF Try.func66 rfl (by kernel_rfl) trivial ?_
  unfold F66_62 at h
  refine aws_seq (gT [] [(0, (AV.d (eL TApiPosting.e a0))), (1, (AV.fn 62 []))] (by kernel_rfl) ?_)
  refine aws_seq (aws_seq (gT [] [(0, (AV.d (eL TApiPosting.e a0))), (1, (AV.fn 62 [])), (7, (vi (a0.length : Int))), (8, (vi 0))] (by kernel_rfl) ?_))
  obtain ⟨ov1, hxv2, h⟩ := outM_some h
  refine aws_lenL (k := 0) (t := 0) (e := TApiPosting.e) (l := a0) rfl (by simp) (fun hn => ?_)
  refine aws_loop (E := (fun (_ : Unit) => [])) (LE := (fun (_ : Unit) => [])) (R := (fun x => FR Try.prog Try.f66 (V66_62 x) (L66_62 x))) (aw_range (n := a0.length) (m := 0) (I := (fun (iv3 : Nat) (_ : Unit) => [(0, (AV.d (eL TApiPosting.e a0))), (1, (AV.fn 62 [])), (7, (vi (a0.length : Int))), (8, (vi (iv3 : Int)))])) (LI := (fun (_ : Nat) => (fun (_ : Unit) => []))) (body := F66_62_b1 a0) (fun iv3 _ _ hi h => aw_of ?_) (fun _ => aw_of ?_) (fun _ _ => rfl) (Nat.zero_add _) hxv2 ⟨(fA (by kernel_rfl)), .inl rfl⟩ (Nat.le_of_ble_eq_true (by kernel_rfl))) (fun _ => Nat.le_of_ble_eq_true (by kernel_rfl)) (fun x fr L e hr => ?_) (fun _ e => ?_)
  · unfold F66_62_b1 at h
    refine aws_seq (gT [] [(0, (AV.d (eL TApiPosting.e a0))), (1, (AV.fn 62 [])), (7, (vi (a0.length : Int))), (8, (vi (iv3 : Int))), (9, (vb (decide ((iv3 : Int) < (a0.length : Int)))))] (by kernel_rfl) ?_)
    refine aws_seq (aws_cond (b := (decide ((iv3 : Int) < (a0.length : Int)))) (by kernel_rfl) (fun hbv4 => ?_) (fun hbv4 => absurd (hbv4.symm.trans (decide_eq_true (by omega))) Bool.false_ne_true))
    refine aws_skip (aws_seq ?_)
    obtain ⟨ov5, hxv6, h⟩ := outM_some h
    refine aws_blockS (E := (fun (_ : Unit) => [(0, (AV.d (eL TApiPosting.e a0))), (1, (AV.fn 62 [])), (7, (vi (a0.length : Int))), (8, (vi (iv3 : Int)))])) (LE := (fun (_ : Unit) => [])) (fun s => ov5 = .next s) ?_ (fun _ => Nat.le_of_ble_eq_true (by kernel_rfl)) (fun _ hq => ?_)
    · refine aws_seq (gT [] [(0, (AV.d (eL TApiPosting.e a0))), (1, (AV.fn 62 [])), (5, (vi (iv3 : Int))), (7, (vi (a0.length : Int))), (8, (vi (iv3 : Int)))] (by kernel_rfl) ?_)
      refine aws_seq ?_
      obtain ⟨rv7, hrv8, hxv6⟩ := bind_some' hxv6
      refine gS [(5, { h := .callq (vb rv7) })] [(0, (AV.d (eL TApiPosting.e a0))), (1, (AV.fn 62 [])), (5, (vi (iv3 : Int))), (7, (vi (a0.length : Int))), (8, (vi (iv3 : Int))), (16, (vb rv7))] [(0 : Int) ≤ (iv3 : Int), iv3 < a0.length, _] (by kernel_rfl) (And.intro (Int.natCast_nonneg _) (And.intro hi (And.intro ((F62_ok hrv8).pu (fun _ => rfl) (fun _ => rfl)) trivial))) ?_
      refine aws_cond (b := rv7) (by kernel_rfl) (fun hbv9 => ?_) (fun hbv9 => ?_)
      · replace hxv6 := iteT hbv9 hxv6
        refine aws_seq (gT [] [(4, (vi (iv3 : Int)))] (by kernel_rfl) ?_)
        refine aws_ret ?_
        obtain rfl := Option.some.inj hxv6
        obtain rfl := Option.some.inj h
        exact ⟨_, rfl, ⟨_, [], [], by kernel_rfl, trivial, (LeV.refl _), rfl⟩⟩
      · replace hxv6 := iteF hbv9 hxv6
        refine aws_skip (aws_nil ?_)
        obtain rfl := Option.some.inj hxv6
        exact ⟨_, rfl, ⟨(fA (by kernel_rfl)), .inl rfl⟩⟩
    · subst hq
      refine gT [] [(0, (AV.d (eL TApiPosting.e a0))), (1, (AV.fn 62 [])), (7, (vi (a0.length : Int))), (8, (vi (IntKind.i64.wrap ((iv3 : Int) + 1))))] (by kernel_rfl) ?_
      refine aws_nil ?_
      obtain rfl := Option.some.inj h
      exact ⟨_, rfl, ⟨(fq 0 rfl (fq 1 rfl (fq 2 rfl (frLe_at (k := 3) rfl (LeV.of_eq (congrArg (fun n => AV.d (DV.i .i64 n)) (wrap_succ (by omega)))) frLe_nil)))), .inl rfl⟩⟩
  · refine aws_seq (gT [] [(0, (AV.d (eL TApiPosting.e a0))), (1, (AV.fn 62 [])), (7, (vi (a0.length : Int))), (8, (vi ((a0.length : Nat) : Int))), (9, (vb (decide (((a0.length : Nat) : Int) < (a0.length : Int)))))] (by kernel_rfl) ?_)
    refine aws_seq (aws_cond (b := (decide (((a0.length : Nat) : Int) < (a0.length : Int)))) (by kernel_rfl) (fun hbv10 => absurd hbv10 (Bool.eq_false_iff.mp (decide_eq_false (by omega)))) (fun hbv10 => ?_))
    refine aws_exit ?_
    exact ⟨rfl, _, rfl, ⟨frLe_nil, .inl rfl⟩⟩
  · subst e
    obtain rfl := Option.some.inj h
    exact ⟨.inr rfl, hr⟩
  · subst e
    refine aws_seq (gT [] [(4, (vi (-1)))] (by kernel_rfl) ?_)
    refine aws_ret ?_
    obtain rfl := Option.some.inj h
    exact ⟨.inr rfl, ⟨_, [], [], by kernel_rfl, trivial, (LeV.refl _), rfl⟩⟩

/-! 61 -/
theorem F61_62_ok {a0 : (List TApiPosting)} {r : R61_62} (h : F61_62 a0 = some r) : CallOk Try.prog 61 [(AV.d (eL TApiPosting.e a0)), (AV.fn 62 [])] [] (V61_62 r) (L61_62 r) := by
  refine gF Try.func61 rfl (by kernel_rfl) trivial ?_
  unfold F61_62 at h
  refine aws_seq (gT [] [(0, (AV.d (eL TApiPosting.e a0))), (1, (AV.fn 62 []))] (by kernel_rfl) ?_)
  refine aws_seq ?_
  obtain ⟨rv1, hrv2, h⟩ := bind_some' h
  refine gS [(2, { h := .callq (vi rv1) })] [(4, (vb (decide (rv1 ≥ 0))))] [_] (by kernel_rfl) (And.intro ((F66_62_ok hrv2).pu (fun _ => rfl) (fun _ => rfl)) trivial) ?_
  refine aws_ret ?_
  obtain rfl := Option.some.inj h
  exact ⟨.inr rfl, ⟨_, [], [], by kernel_rfl, trivial, (LeV.refl _), rfl⟩⟩

/-! 50 -/
theorem F50_ok {a0 : TApiLedger} {r : R50} (h : F50 a0 = some r) : CallOk Try.prog 50 [(AV.d (TApiLedger.e a0))] [] (V50 r) (L50 r) := by
  refine gF Try.func50 rfl (by kernel_rfl) trivial ?_
  unfold F50 at h
  refine aws_seq (gR [] [(1, (vp 0))] [(bx (TApiLedger.e a0))] [] (by kernel_rfl) trivial ?_)
  refine aws_seq ?_
  obtain ⟨ov1, hxv2, h⟩ := outM_some h
  refine aws_blockS (E := (fun (_ : Unit) => [(1, (vp 0))])) (LE := (fun (_ : Unit) => [(bx (TApiLedger.e a0))])) (fun s => ov1 = .next s) ?_ (fun _ => Nat.le_of_ble_eq_true (by kernel_rfl)) (fun _ hq => ?_)
  · refine aws_seq (gT [] [(1, (vp 0)), (5, (vb (decide ((a0.Postings.length : Int) > 400))))] (by kernel_rfl) ?_)
    refine aws_cond (b := (decide ((a0.Postings.length : Int) > 400))) (by kernel_rfl) (fun hbv3 => ?_) (fun hbv3 => ?_)
    · replace hxv2 := iteT hbv3 hxv2
      refine aws_seq (gT [] [(2, (vi 3))] (by kernel_rfl) ?_)
      refine aws_ret ?_
      obtain rfl := Option.some.inj hxv2
      obtain rfl := Option.some.inj h
      exact ⟨.inr rfl, ⟨_, [], [(bx (TApiLedger.e a0))], by kernel_rfl, trivial, (LeV.refl _), rfl⟩⟩
    · replace hxv2 := iteF hbv3 hxv2
      refine aws_seq ?_
      obtain ⟨rv4, hrv5, hxv2⟩ := bind_some' hxv2
      refine gS [(2, { h := .callq (vb rv4) })] [(1, (vp 0)), (10, (vb rv4))] [_] (by kernel_rfl) (And.intro ((F61_62_ok hrv5).pu (fun _ => rfl) (fun _ => rfl)) trivial) ?_
      refine aws_cond (b := rv4) (by kernel_rfl) (fun hbv6 => ?_) (fun hbv6 => ?_)
      · replace hxv2 := iteT hbv6 hxv2
        refine aws_seq (gT [] [(2, (vi 85))] (by kernel_rfl) ?_)
        refine aws_ret ?_
        obtain rfl := Option.some.inj hxv2
        obtain rfl := Option.some.inj h
        exact ⟨.inr rfl, ⟨_, [], [(bx (TApiLedger.e a0))], by kernel_rfl, trivial, (LeV.refl _), rfl⟩⟩
      · replace hxv2 := iteF hbv6 hxv2
        refine aws_skip (aws_nil ?_)
        obtain rfl := Option.some.inj hxv2
        exact ⟨_, rfl, ⟨(fA (by kernel_rfl)), .inl rfl⟩⟩
  · subst hq
    refine aws_seq (aws_seq (gT [] [(1, (vp 0)), (15, (AV.d (eL TApiPosting.e a0.Postings))), (16, (vi (a0.Postings.length : Int))), (17, (vi 0))] (by kernel_rfl) ?_))
    obtain ⟨ov7, hxv8, h⟩ := outM_some h
    refine aws_lenL (k := 1) (t := 15) (e := TApiPosting.e) (l := a0.Postings) rfl (by simp) (fun hn => ?_)
    refine aws_loop (E := (fun (_ : Unit) => [])) (LE := (fun (_ : Unit) => [(bx (TApiLedger.e a0))])) (R := (fun x => FR Try.prog Try.f50 (V50 x) (L50 x))) (aw_range (n := a0.Postings.length) (m := 1) (I := (fun (iv9 : Nat) (_ : Unit) => [(1, (vp 0)), (15, (AV.d (eL TApiPosting.e a0.Postings))), (16, (vi (a0.Postings.length : Int))), (17, (vi (iv9 : Int)))])) (LI := (fun (_ : Nat) => (fun (_ : Unit) => [(bx (TApiLedger.e a0))]))) (body := F50_b1 a0) (fun iv9 _ _ hi h => aw_of ?_) (fun _ => aw_of ?_) (fun _ _ => rfl) (Nat.zero_add _) hxv8 ⟨(fA (by kernel_rfl)), .inl rfl⟩ (Nat.le_of_ble_eq_true (by kernel_rfl))) (fun _ => Nat.le_of_ble_eq_true (by kernel_rfl)) (fun x fr L e hr => ?_) (fun _ e => ?_)
    · unfold F50_b1 at h
      refine aws_seq (gT [] [(1, (vp 0)), (15, (AV.d (eL TApiPosting.e a0.Postings))), (16, (vi (a0.Postings.length : Int))), (17, (vi (iv9 : Int))), (18, (vb (decide ((iv9 : Int) < (a0.Postings.length : Int)))))] (by kernel_rfl) ?_)
      refine aws_seq (aws_cond (b := (decide ((iv9 : Int) < (a0.Postings.length : Int)))) (by kernel_rfl) (fun hbv10 => ?_) (fun hbv10 => absurd (hbv10.symm.trans (decide_eq_true (by omega))) Bool.false_ne_true))
      refine aws_skip (aws_seq ?_)
      obtain ⟨ov11, hxv12, h⟩ := outM_some h
      refine aws_blockS (E := (fun (_ : Unit) => [(1, (vp 0)), (15, (AV.d (eL TApiPosting.e a0.Postings))), (16, (vi (a0.Postings.length : Int))), (17, (vi (iv9 : Int)))])) (LE := (fun (_ : Unit) => [(bx (TApiLedger.e a0))])) (fun s => ov11 = .next s) ?_ (fun _ => Nat.le_of_ble_eq_true (by kernel_rfl)) (fun _ hq => ?_)
      · refine aws_seq (gR [] [(1, (vp 0)), (3, (vi (iv9 : Int))), (4, (vp 1)), (15, (AV.d (eL TApiPosting.e a0.Postings))), (16, (vi (a0.Postings.length : Int))), (17, (vi (iv9 : Int)))] [(bx (TApiLedger.e a0)), (bx (TApiPosting.e (a0.Postings.getD iv9 default)))] [(0 : Int) ≤ (iv9 : Int), iv9 < a0.Postings.length] (by kernel_rfl) (And.intro (Int.natCast_nonneg _) (And.intro hi trivial)) ?_)
        refine aws_seq ?_
        obtain ⟨⟨hcv13, hcv14, _⟩, hxv12⟩ := guardP_some hxv12
        refine gD ⟨[[], [0], [], [2], [3, 2, 1, 0], [4, 3, 2, 1, 0], [5, 4, 3, 2, 1, 0], [6, 5, 4, 3, 2, 1, 0], [7, 6, 5, 4, 3, 2, 1, 0], [8, 7, 6, 5, 4, 3, 2, 1, 0], [9, 8, 7, 6, 5, 4, 3, 2, 1, 0], [8, 7, 6, 5, 4, 3, 2, 1, 0], [11, 8, 7, 6, 5, 4, 3, 2, 1, 0], [12, 11, 10, 9, 8, 7, 6, 5, 4, 3, 2, 1, 0], [13, 12, 11, 10, 9, 8, 7, 6, 5, 4, 3, 2, 1, 0], [14, 13, 12, 11, 10, 9, 8, 7, 6, 5, 4, 3, 2, 1, 0], [8, 7, 6, 5, 4, 3, 2, 1, 0], [16, 8, 7, 6, 5, 4, 3, 2, 1, 0], [17, 16, 15, 14, 13, 12, 11, 10, 9, 8, 7, 6, 5, 4, 3, 2, 1, 0], [18, 17, 16, 15, 14, 13, 12, 11, 10, 9, 8, 7, 6, 5, 4, 3, 2, 1, 0], [19, 18, 17, 16, 15, 14, 13, 12, 11, 10, 9, 8, 7, 6, 5, 4, 3, 2, 1, 0]], []⟩ [] [(1, (vp 0)), (15, (AV.d (eL TApiPosting.e a0.Postings))), (16, (vi (a0.Postings.length : Int))), (17, (vi (iv9 : Int))), (42, (vb (bif (((a0.Postings.getD iv9 default).Number) != (IntKind.i64.wrap ((iv9 : Int) + 1))) then true else (bif (decide ((iv9 : Int) > 0)) then (decide (((a0.Postings.getD (((IntKind.i64.wrap ((iv9 : Int) - 1))).toNat) default).Day) > ((a0.Postings.getD iv9 default).Day))) else false))))] [(bx (TApiLedger.e a0)), (bx (TApiPosting.e (a0.Postings.getD iv9 default)))] [AllP [(decide ((iv9 : Int) > 0)) = true, (((a0.Postings.getD iv9 default).Number) != (IntKind.i64.wrap ((iv9 : Int) + 1))) = false] → ((0 : Int) ≤ (IntKind.i64.wrap ((iv9 : Int) - 1))), AllP [(decide ((iv9 : Int) > 0)) = true, (((a0.Postings.getD iv9 default).Number) != (IntKind.i64.wrap ((iv9 : Int) + 1))) = false] → (((IntKind.i64.wrap ((iv9 : Int) - 1))).toNat < a0.Postings.length)] (by kernel_rfl) (by kernel_rfl) (by kernel_rfl) (And.intro hcv13 (And.intro hcv14 trivial)) ?_
        refine aws_cond (b := (bif (((a0.Postings.getD iv9 default).Number) != (IntKind.i64.wrap ((iv9 : Int) + 1))) then true else (bif (decide ((iv9 : Int) > 0)) then (decide (((a0.Postings.getD (((IntKind.i64.wrap ((iv9 : Int) - 1))).toNat) default).Day) > ((a0.Postings.getD iv9 default).Day))) else false))) (by kernel_rfl) (fun hbv15 => ?_) (fun hbv15 => ?_)
        · replace hxv12 := iteT hbv15 hxv12
          refine aws_seq (gT [] [(2, (vi 86))] (by kernel_rfl) ?_)
          refine aws_ret ?_
          obtain rfl := Option.some.inj hxv12
          obtain rfl := Option.some.inj h
          exact ⟨_, rfl, ⟨_, [], [(bx (TApiLedger.e a0)), (bx (TApiPosting.e (a0.Postings.getD iv9 default)))], by kernel_rfl, trivial, (LeV.refl _), rfl⟩⟩
        · replace hxv12 := iteF hbv15 hxv12
          refine aws_skip (aws_nil ?_)
          obtain rfl := Option.some.inj hxv12
          exact ⟨_, rfl, ⟨(fA (by kernel_rfl)), .inr ⟨⟨[(bx (TApiPosting.e (a0.Postings.getD iv9 default)))], rfl, lsOk (And.intro rfl trivial)⟩, List.all_eq_true.1 (by kernel_rfl)⟩⟩⟩
      · subst hq
        refine gT [] [(1, (vp 0)), (15, (AV.d (eL TApiPosting.e a0.Postings))), (16, (vi (a0.Postings.length : Int))), (17, (vi (IntKind.i64.wrap ((iv9 : Int) + 1))))] (by kernel_rfl) ?_
        refine aws_nil ?_
        obtain rfl := Option.some.inj h
        exact ⟨_, rfl, ⟨(fq 0 rfl (fq 1 rfl (fq 2 rfl (frLe_at (k := 3) rfl (LeV.of_eq (congrArg (fun n => AV.d (DV.i .i64 n)) (wrap_succ (by omega)))) frLe_nil)))), .inl rfl⟩⟩
    · refine aws_seq (gT [] [(1, (vp 0)), (15, (AV.d (eL TApiPosting.e a0.Postings))), (16, (vi (a0.Postings.length : Int))), (17, (vi ((a0.Postings.length : Nat) : Int))), (18, (vb (decide (((a0.Postings.length : Nat) : Int) < (a0.Postings.length : Int)))))] (by kernel_rfl) ?_)
      refine aws_seq (aws_cond (b := (decide (((a0.Postings.length : Nat) : Int) < (a0.Postings.length : Int)))) (by kernel_rfl) (fun hbv16 => absurd hbv16 (Bool.eq_false_iff.mp (decide_eq_false (by omega)))) (fun hbv16 => ?_))
      refine aws_exit ?_
      exact ⟨rfl, _, rfl, ⟨frLe_nil, .inl rfl⟩⟩
    · subst e
      obtain rfl := Option.some.inj h
      exact ⟨.inr rfl, hr⟩
    · subst e
      refine aws_seq (gT [] [(2, (vi 0))] (by kernel_rfl) ?_)
      refine aws_ret ?_
      obtain rfl := Option.some.inj h
      exact ⟨.inr rfl, ⟨_, [], [(bx (TApiLedger.e a0))], by kernel_rfl, trivial, (LeV.refl _), rfl⟩⟩

/-! 24 -/
theorem F24_ok {a0 : TApiLedger} {a1 : (List Int)} {r : R24} (h : F24 a0 a1 = some r) : CallOk Try.prog 24 [(AV.d (TApiLedger.e a0)), (vl a1)] [] (V24 r) (L24 r) := by
  refine gF Try.func24 rfl (by kernel_rfl) trivial ?_
  unfold F24 at h
  refine aws_seq (gR [] [(1, (vl a1)), (2, (vp 0))] [(bx (TApiLedger.e a0))] [] (by kernel_rfl) trivial ?_)
  refine aws_seq (aws_seq ?_)
  obtain ⟨rv1, hrv2, h⟩ := bind_some' h
  refine gS [(1, { h := .callq (vi rv1) })] [(1, (vl a1)), (5, (vi rv1))] [_] (by kernel_rfl) (And.intro ((F50_ok hrv2).pu (fun _ => rfl) (fun _ => rfl)) trivial) ?_
  refine aws_seq (gT [] [(1, (vl a1)), (5, (vi rv1)), (11, (vb (rv1 != 0)))] (by kernel_rfl) ?_)
  refine aws_cond (b := (rv1 != 0)) (by kernel_rfl) (fun hbv3 => ?_) (fun hbv3 => ?_)
  · replace h := iteT hbv3 h
    refine aws_seq (gT [] [(4, (vi rv1))] (by kernel_rfl) ?_)
    refine aws_ret ?_
    obtain rfl := Option.some.inj h
    exact ⟨.inr rfl, ⟨_, [], [(bx (TApiLedger.e a0))], by kernel_rfl, trivial, (LeV.refl _), rfl⟩⟩
  · replace h := iteF hbv3 h
    refine aws_skip (aws_seq (aws_seq (gT [] [(1, (vl a1)), (13, (vl a1)), (14, (vi (a1.length : Int))), (15, (vi 0))] (by kernel_rfl) ?_)))
    obtain ⟨ov4, hxv5, h⟩ := outM_some h
    refine aws_lenL (k := 0) (t := 1) (e := (DV.i .i64)) (l := a1) rfl (by simp) (fun hn => ?_)
    refine aws_loop (E := (fun (_ : Unit) => [(1, (vl a1))])) (LE := (fun (_ : Unit) => [(bx (TApiLedger.e a0))])) (R := (fun x => FR Try.prog Try.f24 (V24 x) (L24 x))) (aw_range (n := a1.length) (m := 1) (I := (fun (iv6 : Nat) (_ : Unit) => [(1, (vl a1)), (13, (vl a1)), (14, (vi (a1.length : Int))), (15, (vi (iv6 : Int)))])) (LI := (fun (_ : Nat) => (fun (_ : Unit) => [(bx (TApiLedger.e a0))]))) (body := F24_b1 a1) (fun iv6 _ _ hi h => aw_of ?_) (fun _ => aw_of ?_) (fun _ _ => rfl) (Nat.zero_add _) hxv5 ⟨(fA (by kernel_rfl)), .inl rfl⟩ (Nat.le_of_ble_eq_true (by kernel_rfl))) (fun _ => Nat.le_of_ble_eq_true (by kernel_rfl)) (fun x fr L e hr => ?_) (fun _ e => ?_)
    · unfold F24_b1 at h
      refine aws_seq (gT [] [(1, (vl a1)), (13, (vl a1)), (14, (vi (a1.length : Int))), (15, (vi (iv6 : Int))), (16, (vb (decide ((iv6 : Int) < (a1.length : Int)))))] (by kernel_rfl) ?_)
      refine aws_seq (aws_cond (b := (decide ((iv6 : Int) < (a1.length : Int)))) (by kernel_rfl) (fun hbv7 => ?_) (fun hbv7 => absurd (hbv7.symm.trans (decide_eq_true (by omega))) Bool.false_ne_true))
      refine aws_skip (aws_seq ?_)
      obtain ⟨ov8, hxv9, h⟩ := outM_some h
      refine aws_blockS (E := (fun (_ : Unit) => [(1, (vl a1)), (13, (vl a1)), (14, (vi (a1.length : Int))), (15, (vi (iv6 : Int)))])) (LE := (fun (_ : Unit) => [(bx (TApiLedger.e a0))])) (fun s => ov8 = .next s) ?_ (fun _ => Nat.le_of_ble_eq_true (by kernel_rfl)) (fun _ hq => ?_)
      · refine aws_seq (gS [] [(1, (vl a1)), (6, (vi (iv6 : Int))), (7, (vi (a1.getD iv6 default))), (13, (vl a1)), (14, (vi (a1.length : Int))), (15, (vi (iv6 : Int)))] [(0 : Int) ≤ (iv6 : Int), iv6 < a1.length] (by kernel_rfl) (And.intro (Int.natCast_nonneg _) (And.intro hi trivial)) ?_)
        refine aws_seq ?_
        obtain ⟨⟨hcv10, hcv11, _⟩, hxv9⟩ := guardP_some hxv9
        refine gS [] [(1, (vl a1)), (13, (vl a1)), (14, (vi (a1.length : Int))), (15, (vi (iv6 : Int))), (38, (vb (bif (bif (decide ((a1.getD iv6 default) < 1)) then true else (decide ((a1.getD iv6 default) > 10))) then true else (bif (decide ((iv6 : Int) > 0)) then (decide ((a1.getD (((IntKind.i64.wrap ((iv6 : Int) - 1))).toNat) default) ≥ (a1.getD iv6 default))) else false))))] [AllP [(decide ((iv6 : Int) > 0)) = true, (bif (decide ((a1.getD iv6 default) < 1)) then true else (decide ((a1.getD iv6 default) > 10))) = false] → ((0 : Int) ≤ (IntKind.i64.wrap ((iv6 : Int) - 1))), AllP [(decide ((iv6 : Int) > 0)) = true, (bif (decide ((a1.getD iv6 default) < 1)) then true else (decide ((a1.getD iv6 default) > 10))) = false] → (((IntKind.i64.wrap ((iv6 : Int) - 1))).toNat < a1.length)] (by kernel_rfl) (And.intro hcv10 (And.intro hcv11 trivial)) ?_
        refine aws_cond (b := (bif (bif (decide ((a1.getD iv6 default) < 1)) then true else (decide ((a1.getD iv6 default) > 10))) then true else (bif (decide ((iv6 : Int) > 0)) then (decide ((a1.getD (((IntKind.i64.wrap ((iv6 : Int) - 1))).toNat) default) ≥ (a1.getD iv6 default))) else false))) (by kernel_rfl) (fun hbv12 => ?_) (fun hbv12 => ?_)
        · replace hxv9 := iteT hbv12 hxv9
          refine aws_seq (gT [] [(4, (vi 89))] (by kernel_rfl) ?_)
          refine aws_ret ?_
          obtain rfl := Option.some.inj hxv9
          obtain rfl := Option.some.inj h
          exact ⟨_, rfl, ⟨_, [], [(bx (TApiLedger.e a0))], by kernel_rfl, trivial, (LeV.refl _), rfl⟩⟩
        · replace hxv9 := iteF hbv12 hxv9
          refine aws_skip (aws_nil ?_)
          obtain rfl := Option.some.inj hxv9
          exact ⟨_, rfl, ⟨(fA (by kernel_rfl)), .inl rfl⟩⟩
      · subst hq
        refine gT [] [(1, (vl a1)), (13, (vl a1)), (14, (vi (a1.length : Int))), (15, (vi (IntKind.i64.wrap ((iv6 : Int) + 1))))] (by kernel_rfl) ?_
        refine aws_nil ?_
        obtain rfl := Option.some.inj h
        exact ⟨_, rfl, ⟨(fq 0 rfl (fq 1 rfl (fq 2 rfl (frLe_at (k := 3) rfl (LeV.of_eq (congrArg (fun n => AV.d (DV.i .i64 n)) (wrap_succ (by omega)))) frLe_nil)))), .inl rfl⟩⟩
    · refine aws_seq (gT [] [(1, (vl a1)), (13, (vl a1)), (14, (vi (a1.length : Int))), (15, (vi ((a1.length : Nat) : Int))), (16, (vb (decide (((a1.length : Nat) : Int) < (a1.length : Int)))))] (by kernel_rfl) ?_)
      refine aws_seq (aws_cond (b := (decide (((a1.length : Nat) : Int) < (a1.length : Int)))) (by kernel_rfl) (fun hbv13 => absurd hbv13 (Bool.eq_false_iff.mp (decide_eq_false (by omega)))) (fun hbv13 => ?_))
      refine aws_exit ?_
      exact ⟨rfl, _, rfl, ⟨(fA (by kernel_rfl)), .inl rfl⟩⟩
    · subst e
      obtain rfl := Option.some.inj h
      exact ⟨.inr rfl, hr⟩
    · subst e
      refine aws_seq (aws_seq (gT [] [(42, (vb ((a1.length : Int) == 0)))] (by kernel_rfl) ?_))
      refine aws_cond (b := ((a1.length : Int) == 0)) (by kernel_rfl) (fun hbv14 => ?_) (fun hbv14 => ?_)
      · replace h := iteT hbv14 h
        refine aws_seq (gT [] [(4, (vi 89))] (by kernel_rfl) ?_)
        refine aws_ret ?_
        obtain rfl := Option.some.inj h
        exact ⟨.inr rfl, ⟨_, [], [(bx (TApiLedger.e a0))], by kernel_rfl, trivial, (LeV.refl _), rfl⟩⟩
      · replace h := iteF hbv14 h
        refine aws_skip (aws_seq (gT [] [(4, (vi 0))] (by kernel_rfl) ?_))
        refine aws_ret ?_
        obtain rfl := Option.some.inj h
        exact ⟨.inr rfl, ⟨_, [], [(bx (TApiLedger.e a0))], by kernel_rfl, trivial, (LeV.refl _), rfl⟩⟩

/-! 47 -/
theorem F47_ok {a0 : TApiLedger} {a1 : (List Int)} {a2 : Int} {r : R47} (h : F47 a0 a1 a2 = some r) : CallOk Try.prog 47 [(AV.d (TApiLedger.e a0)), (vl a1), (vi a2)] [] (V47 r) (L47 r) := by
  refine gF Try.func47 rfl (by kernel_rfl) trivial ?_
  unfold F47 at h
  refine aws_seq (gR [] [(1, (vl a1)), (2, (vi a2)), (3, (vp 0))] [(bx (TApiLedger.e a0))] [] (by kernel_rfl) trivial ?_)
  refine aws_seq ?_
  obtain ⟨rv1, hrv2, h⟩ := bind_some' h
  refine gS [(2, { h := .callq (vi rv1) })] [(2, (vi a2)), (7, (vi rv1))] [_] (by kernel_rfl) (And.intro ((F24_ok hrv2).pu (fun _ => rfl) (fun _ => rfl)) trivial) ?_
  refine aws_seq (aws_seq (gT [] [(7, (vi rv1)), (20, (vb (bif (rv1 == 0) then (bif (decide (a2 < 0)) then true else (decide (a2 > 36000))) else false)))] (by kernel_rfl) ?_))
  obtain ⟨ov3, hxv4, h⟩ := bind_some' h
  refine aws_cutS (E := (fun (sv5 : Int) => [(7, (vi sv5))])) (LE := (fun (_ : Int) => [(bx (TApiLedger.e a0))])) (fun s => s = ov3) ?_ (fun _ => Nat.le_of_ble_eq_true (by kernel_rfl)) (fun sv5 hq => ?_)
  · refine aws_cond (b := (bif (rv1 == 0) then (bif (decide (a2 < 0)) then true else (decide (a2 > 36000))) else false)) (by kernel_rfl) (fun hbv6 => ?_) (fun hbv6 => ?_)
    · replace hxv4 := iteT hbv6 hxv4
      refine gT [] [(7, (vi 2))] (by kernel_rfl) ?_
      refine aws_nil ?_
      obtain rfl := Option.some.inj hxv4
      exact ⟨_, rfl, ⟨(fA (by kernel_rfl)), .inl rfl⟩⟩
    · replace hxv4 := iteF hbv6 hxv4
      refine aws_skip (aws_nil ?_)
      obtain rfl := Option.some.inj hxv4
      exact ⟨_, rfl, ⟨(fA (by kernel_rfl)), .inl rfl⟩⟩
  · subst hq
    refine aws_seq (gT [] [(6, (vi sv5))] (by kernel_rfl) ?_)
    refine aws_ret ?_
    obtain rfl := Option.some.inj h
    exact ⟨.inr rfl, ⟨_, [], [(bx (TApiLedger.e a0))], by kernel_rfl, trivial, (LeV.refl _), rfl⟩⟩

/-! 64 -/
theorem F64_ok {p0 : List Int} {r : R64} (h : F64 p0 = some r) : CallOk Try.prog 64 [(AV.ref 0 p0.length 0 p0.length)] [(eS 1 (DV.i .i64) p0)] (V64 r) (L64 r) := by
  unfold F64 at h
  obtain ⟨hl, h⟩ := guardP_some h
  obtain rfl := Option.some.inj h
  exact callOk_sort (fun blk off cap zs w => Any.slices_Sort_int Try.lays189 blk off cap zs w) (fun p cap w => Any.slices_Sort_int_none Try.lays189 p cap w) hl

/-! 65 -/
theorem F65_ok {p0 : List Int} {r : R65} (h : F65 p0 = some r) : CallOk Try.prog 65 [(AV.ref 0 p0.length 0 p0.length)] [(eS 1 (DV.i .i64) p0)] (V65 r) (L65 r) := by
  unfold F65 at h
  obtain ⟨hl, h⟩ := guardP_some h
  obtain rfl := Option.some.inj h
  exact callOk_compact (fun blk off cap zs w => Any.slices_Compact_int Try.laysNm220 blk off cap zs w) (fun p cap w => Any.slices_Compact_int_empty Try.laysNm220 p cap w) hl

/-! 58 -/
theorem F58_ok {a0 : TApiLedger} {r : R58} (h : F58 a0 = some r) : CallOk Try.prog 58 [(AV.d (TApiLedger.e a0))] [] (V58 r) (L58 r) := by
  refine gF Try.func58 rfl (by kernel_rfl) trivial ?_
  unfold F58 at h
  refine aws_seq (gR [] [(1, (vp 0))] [(bx (TApiLedger.e a0))] [] (by kernel_rfl) trivial ?_)
  refine aws_seq (gT [] [(1, (vp 0)), (3, (AV.full 0 fun _ => DV.b false))] (by kernel_rfl) ?_)
  refine aws_seq (aws_seq (gT [] [(3, (AV.full 0 fun _ => DV.b false)), (7, (AV.d (eL TApiPosting.e a0.Postings))), (8, (vi (a0.Postings.length : Int))), (9, (vi 0))] (by kernel_rfl) ?_))
  refine aws_unborn (fr' := [(3, (AV.ref 1 0 0 0)), (7, (AV.d (eL TApiPosting.e a0.Postings))), (8, (vi (a0.Postings.length : Int))), (9, (vi 0))]) 1 (fun j => AV.d ((DV.i .i64) (([] : List Int).getD j default))) (frz_nilref 0 rfl (frz_keep 1 rfl (frz_keep 2 rfl (frz_keep 3 rfl frz_nil)))) (by simp) ?_
  obtain ⟨ov1, hxv2, h⟩ := outM_some h
  refine aws_lenL (k := 1) (t := 7) (e := TApiPosting.e) (l := a0.Postings) rfl (by simp) (fun hn => ?_)
  refine aws_loop (E := (fun (sv3 : (List Int)) => [(3, (AV.ref 1 sv3.length 0 sv3.length))])) (LE := (fun (sv3 : (List Int)) => [(bx (TApiLedger.e a0)), (eS 1 (DV.i .i64) sv3)])) (R := (fun x => FR Try.prog Try.f58 (V58 x) (L58 x))) (aw_range (n := a0.Postings.length) (m := 2) (I := (fun (iv4 : Nat) (sv3 : (List Int)) => [(3, (AV.ref 1 sv3.length 0 sv3.length)), (7, (AV.d (eL TApiPosting.e a0.Postings))), (8, (vi (a0.Postings.length : Int))), (9, (vi (iv4 : Int)))])) (LI := (fun (_ : Nat) => (fun (sv3 : (List Int)) => [(bx (TApiLedger.e a0)), (eS 1 (DV.i .i64) sv3)]))) (body := F58_b1 a0) (fun iv4 sv3 _ hi h => aw_of ?_) (fun sv3 => aw_of ?_) (fun _ _ => rfl) (Nat.zero_add _) hxv2 ⟨(fA (by kernel_rfl)), .inl rfl⟩ (Nat.le_of_ble_eq_true (by kernel_rfl))) (fun _ => Nat.le_of_ble_eq_true (by kernel_rfl)) (fun x fr L e hr => ?_) (fun sv3 e => ?_)
  · unfold F58_b1 at h
    refine aws_seq (gT [] [(3, (AV.ref 1 sv3.length 0 sv3.length)), (7, (AV.d (eL TApiPosting.e a0.Postings))), (8, (vi (a0.Postings.length : Int))), (9, (vi (iv4 : Int))), (10, (vb (decide ((iv4 : Int) < (a0.Postings.length : Int)))))] (by kernel_rfl) ?_)
    refine aws_seq (aws_cond (b := (decide ((iv4 : Int) < (a0.Postings.length : Int)))) (by kernel_rfl) (fun hbv5 => ?_) (fun hbv5 => absurd (hbv5.symm.trans (decide_eq_true (by omega))) Bool.false_ne_true))
    refine aws_skip (aws_seq ?_)
    obtain ⟨ov6, hxv7, h⟩ := bind_some' h
    refine aws_blockS (E := (fun (sv8 : (List Int)) => [(3, (AV.ref 1 sv8.length 0 sv8.length)), (7, (AV.d (eL TApiPosting.e a0.Postings))), (8, (vi (a0.Postings.length : Int))), (9, (vi (iv4 : Int)))])) (LE := (fun (sv8 : (List Int)) => [(bx (TApiLedger.e a0)), (eS 1 (DV.i .i64) sv8)])) (fun s => s = ov6) ?_ (fun _ => Nat.le_of_ble_eq_true (by kernel_rfl)) (fun sv8 hq => ?_)
    · refine aws_seq (gR [] [(3, (AV.ref 1 sv3.length 0 sv3.length)), (5, (vp 2)), (7, (AV.d (eL TApiPosting.e a0.Postings))), (8, (vi (a0.Postings.length : Int))), (9, (vi (iv4 : Int)))] [(bx (TApiLedger.e a0)), (eS 1 (DV.i .i64) sv3), (bx (TApiPosting.e (a0.Postings.getD iv4 default)))] [(0 : Int) ≤ (iv4 : Int), iv4 < a0.Postings.length] (by kernel_rfl) (And.intro (Int.natCast_nonneg _) (And.intro hi trivial)) ?_)
      obtain ⟨⟨hcv9, _⟩, hxv7⟩ := guardP_some hxv7
      refine gR [(3, { cast := some (vl ([(a0.Postings.getD iv4 default).Ref] : List Int)) }), (4, { h := .obj, cast := some (AV.ref 1 ((sv3 ++ ([(a0.Postings.getD iv4 default).Ref] : List Int)).length) 0 ((sv3 ++ ([(a0.Postings.getD iv4 default).Ref] : List Int)).length)), obs := [(1, (eS 1 (DV.i .i64) (sv3 ++ ([(a0.Postings.getD iv4 default).Ref] : List Int))))] })] [(3, (AV.ref 1 ((sv3 ++ ([(a0.Postings.getD iv4 default).Ref] : List Int)).length) 0 ((sv3 ++ ([(a0.Postings.getD iv4 default).Ref] : List Int)).length))), (7, (AV.d (eL TApiPosting.e a0.Postings))), (8, (vi (a0.Postings.length : Int))), (9, (vi (iv4 : Int)))] [(bx (TApiLedger.e a0)), (eS 1 (DV.i .i64) (sv3 ++ ([(a0.Postings.getD iv4 default).Ref] : List Int))), (bx (TApiPosting.e (a0.Postings.getD iv4 default)))] [LeV (AV.d (DV.sl 1 (listF (DV.b false) [(DV.i .i64 ((a0.Postings.getD iv4 default).Ref))]))) (vl ([(a0.Postings.getD iv4 default).Ref] : List Int)), sv3.length = sv3.length, sv3.length = sv3.length, ∀ k, k < 1 → (AV.d ((DV.i .i64) (([(a0.Postings.getD iv4 default).Ref] : List Int).getD k default))).wd = 1, (sv3.length + 1) * (2 * 8) ≤ 2 ^ 48, LeV (AV.ref 1 (sv3.length + 1) 0 (sv3.length + 1)) (AV.ref 1 ((sv3 ++ ([(a0.Postings.getD iv4 default).Ref] : List Int)).length) 0 ((sv3 ++ ([(a0.Postings.getD iv4 default).Ref] : List Int)).length)), OLe (Ob.seq 1 (sv3.length + 1) (catF sv3.length (fun j => AV.d ((DV.i .i64) (sv3.getD j default))) (fun j => AV.d ((DV.i .i64) (([(a0.Postings.getD iv4 default).Ref] : List Int).getD j default))))) (eS 1 (DV.i .i64) (sv3 ++ ([(a0.Postings.getD iv4 default).Ref] : List Int)))] (by kernel_rfl) (And.intro (leV_lit (DV.i .i64) ([(a0.Postings.getD iv4 default).Ref] : List Int)) (And.intro rfl (And.intro rfl (And.intro (fun _ _ => rfl) (And.intro hcv9 (And.intro (leV_app (o := 1) (l := sv3) (x := ([(a0.Postings.getD iv4 default).Ref] : List Int))) (And.intro (oLe_app (e := (DV.i .i64)) (l := sv3) (x := ([(a0.Postings.getD iv4 default).Ref] : List Int))) trivial))))))) ?_
      refine aws_nil ?_
      obtain rfl := Option.some.inj hxv7
      exact ⟨_, rfl, ⟨(fA (by kernel_rfl)), .inr ⟨⟨[(bx (TApiPosting.e (a0.Postings.getD iv4 default)))], rfl, lsOk (And.intro rfl (And.intro (fun _ _ => rfl) trivial))⟩, List.all_eq_true.1 (by kernel_rfl)⟩⟩⟩
    · subst hq
      refine gT [] [(3, (AV.ref 1 sv8.length 0 sv8.length)), (7, (AV.d (eL TApiPosting.e a0.Postings))), (8, (vi (a0.Postings.length : Int))), (9, (vi (IntKind.i64.wrap ((iv4 : Int) + 1))))] (by kernel_rfl) ?_
      refine aws_nil ?_
      obtain rfl := Option.some.inj h
      exact ⟨_, rfl, ⟨(fq 0 rfl (fq 1 rfl (fq 2 rfl (frLe_at (k := 3) rfl (LeV.of_eq (congrArg (fun n => AV.d (DV.i .i64 n)) (wrap_succ (by omega)))) frLe_nil)))), .inl rfl⟩⟩
  · refine aws_seq (gT [] [(3, (AV.ref 1 sv3.length 0 sv3.length)), (7, (AV.d (eL TApiPosting.e a0.Postings))), (8, (vi (a0.Postings.length : Int))), (9, (vi ((a0.Postings.length : Nat) : Int))), (10, (vb (decide (((a0.Postings.length : Nat) : Int) < (a0.Postings.length : Int)))))] (by kernel_rfl) ?_)
    refine aws_seq (aws_cond (b := (decide (((a0.Postings.length : Nat) : Int) < (a0.Postings.length : Int)))) (by kernel_rfl) (fun hbv10 => absurd hbv10 (Bool.eq_false_iff.mp (decide_eq_false (by omega)))) (fun hbv10 => ?_))
    refine aws_exit ?_
    exact ⟨rfl, _, rfl, ⟨(fA (by kernel_rfl)), .inl rfl⟩⟩
  · subst e
    exact nomatch (show (none : Option _) = some _ from h)
  · subst e
    refine aws_seq ?_
    obtain ⟨rv11, hrv12, h⟩ := bind_some' h
    obtain ⟨hs731, h⟩ := guardP_some h
    refine gR [(1, { h := .callw (AV.tup []) [(1, (eS 1 (DV.i .i64) rv11))] [] })] [(3, (AV.ref 1 sv3.length 0 sv3.length))] [(bx (TApiLedger.e a0)), (eS 1 (DV.i .i64) rv11)] [CallOk Try.prog 64 [(AV.ref 1 sv3.length 0 sv3.length)] [(bx (TApiLedger.e a0)), (eS 1 (DV.i .i64) sv3)] (AV.tup []) [(bx (TApiLedger.e a0)), (eS 1 (DV.i .i64) rv11)]] (by kernel_rfl) (And.intro ((F64_ok hrv12).ca [1] (by kernel_rfl)) trivial) ?_
    refine aws_cast (fr' := [(3, (AV.ref 1 rv11.length 0 rv11.length))]) (L' := [(bx (TApiLedger.e a0)), (eS 1 (DV.i .i64) rv11)]) ?_ (by rw [hs731]) (by rfl)
    refine aws_seq ?_
    obtain ⟨rv13, hrv14, h⟩ := bind_some' h
    refine gR [(1, { h := .callw (vl rv13) [(1, Ob.dead)] [] })] [(2, (vl rv13))] [(bx (TApiLedger.e a0)), Ob.dead] [CallOk Try.prog 65 [(AV.ref 1 rv11.length 0 rv11.length)] [(bx (TApiLedger.e a0)), (eS 1 (DV.i .i64) rv11)] (vl rv13) [(bx (TApiLedger.e a0)), Ob.dead]] (by kernel_rfl) (And.intro ((F65_ok hrv14).ca [1] (by kernel_rfl)) trivial) ?_
    refine aws_ret ?_
    obtain rfl := Option.some.inj h
    exact ⟨.inr rfl, ⟨_, [], [(bx (TApiLedger.e a0)), Ob.dead], by kernel_rfl, trivial, (LeV.refl _), rfl⟩⟩

/-! 55 -/
theorem F55_ok {a0 : TApiLedger} {a1 : Int} {r : R55} (h : F55 a0 a1 = some r) : CallOk Try.prog 55 [(AV.d (TApiLedger.e a0)), (vi a1)] [] (V55 r) (L55 r) := by
  refine gF Try.func55 rfl (by kernel_rfl) (And.intro trivial (And.intro (eM_lt _ _ _ _) trivial)) ?_
  unfold F55 at h
  refine aws_seq (gR [] [(1, (vi a1)), (2, (vp 0))] [(bx (TApiLedger.e a0))] [] (by kernel_rfl) trivial ?_)
  refine aws_seq (gR [] [(1, (vi a1)), (2, (vp 0)), (5, (AV.map 1))] [(bx (TApiLedger.e a0)), (eM TConsolidationSpot.e (DV.i .i64) ([] : (List (TConsolidationSpot × Int))))] [] (by kernel_rfl) trivial ?_)
  refine aws_seq (aws_seq ?_)
  obtain ⟨rv1, hrv2, h⟩ := bind_some' h
  refine gS [(1, { h := .callq (vi rv1) })] [(1, (vi a1)), (2, (vp 0)), (5, (AV.map 1)), (11, (vb (rv1 != 0)))] [_] (by kernel_rfl) (And.intro ((F50_ok hrv2).pu (fun _ => rfl) (fun _ => rfl)) trivial) ?_
  refine aws_cond (b := (rv1 != 0)) (by kernel_rfl) (fun hbv3 => ?_) (fun hbv3 => ?_)
  · replace h := iteT hbv3 h
    refine aws_seq (gT [] [(4, (AV.map 1))] (by kernel_rfl) ?_)
    refine aws_shift (H := NoH) (L' := [Ob.dead, (eM TConsolidationSpot.e (DV.i .i64) ([] : (List (TConsolidationSpot × Int))))]) (shift_kill (o := 0) (by simp)) (trF_refl _) ?_
    refine aws_ret ?_
    obtain rfl := Option.some.inj h
    exact ⟨.inr rfl, ⟨_, [], [], by kernel_rfl, trivial, (LeV.refl _), rfl⟩⟩
  · replace h := iteF hbv3 h
    refine aws_skip (aws_seq (aws_seq (gT [] [(1, (vi a1)), (5, (AV.map 1)), (14, (AV.d (eL TApiPosting.e a0.Postings))), (15, (vi (a0.Postings.length : Int))), (16, (vi 0))] (by kernel_rfl) ?_)))
    obtain ⟨ov4, hxv5, h⟩ := outM_some h
    refine aws_lenL (k := 2) (t := 14) (e := TApiPosting.e) (l := a0.Postings) rfl (by simp) (fun hn => ?_)
    refine aws_loop (E := (fun (_ : (List (TConsolidationSpot × Int))) => [(5, (AV.map 1))])) (LE := (fun (sv6 : (List (TConsolidationSpot × Int))) => [(bx (TApiLedger.e a0)), (eM TConsolidationSpot.e (DV.i .i64) sv6)])) (R := (fun x => FR Try.prog Try.f55 (V55 x) (L55 x))) (aw_range (n := a0.Postings.length) (m := 2) (I := (fun (iv7 : Nat) (_ : (List (TConsolidationSpot × Int))) => [(1, (vi a1)), (5, (AV.map 1)), (14, (AV.d (eL TApiPosting.e a0.Postings))), (15, (vi (a0.Postings.length : Int))), (16, (vi (iv7 : Int)))])) (LI := (fun (_ : Nat) => (fun (sv6 : (List (TConsolidationSpot × Int))) => [(bx (TApiLedger.e a0)), (eM TConsolidationSpot.e (DV.i .i64) sv6)]))) (body := F55_b1 a0 a1) (fun iv7 sv6 _ hi h => aw_of ?_) (fun _ => aw_of ?_) (fun _ _ => rfl) (Nat.zero_add _) hxv5 ⟨(fA (by kernel_rfl)), .inl rfl⟩ (Nat.le_of_ble_eq_true (by kernel_rfl))) (fun _ => Nat.le_of_ble_eq_true (by kernel_rfl)) (fun x fr L e hr => ?_) (fun sv6 e => ?_)
    · unfold F55_b1 at h
      refine aws_seq (gT [] [(1, (vi a1)), (5, (AV.map 1)), (14, (AV.d (eL TApiPosting.e a0.Postings))), (15, (vi (a0.Postings.length : Int))), (16, (vi (iv7 : Int))), (17, (vb (decide ((iv7 : Int) < (a0.Postings.length : Int)))))] (by kernel_rfl) ?_)
      refine aws_seq (aws_cond (b := (decide ((iv7 : Int) < (a0.Postings.length : Int)))) (by kernel_rfl) (fun hbv8 => ?_) (fun hbv8 => absurd (hbv8.symm.trans (decide_eq_true (by omega))) Bool.false_ne_true))
      refine aws_skip (aws_seq ?_)
      obtain ⟨ov9, hxv10, h⟩ := bind_some' h
      refine aws_blockS (E := (fun (_ : (List (TConsolidationSpot × Int))) => [(1, (vi a1)), (5, (AV.map 1)), (14, (AV.d (eL TApiPosting.e a0.Postings))), (15, (vi (a0.Postings.length : Int))), (16, (vi (iv7 : Int)))])) (LE := (fun (sv11 : (List (TConsolidationSpot × Int))) => [(bx (TApiLedger.e a0)), (eM TConsolidationSpot.e (DV.i .i64) sv11)])) (fun s => s = ov9) ?_ (fun _ => Nat.le_of_ble_eq_true (by kernel_rfl)) (fun _ hq => ?_)
      · refine aws_seq (gR [] [(1, (vi a1)), (5, (AV.map 1)), (7, (vp 2)), (14, (AV.d (eL TApiPosting.e a0.Postings))), (15, (vi (a0.Postings.length : Int))), (16, (vi (iv7 : Int)))] [(bx (TApiLedger.e a0)), (eM TConsolidationSpot.e (DV.i .i64) sv6), (bx (TApiPosting.e (a0.Postings.getD iv7 default)))] [(0 : Int) ≤ (iv7 : Int), iv7 < a0.Postings.length] (by kernel_rfl) (And.intro (Int.natCast_nonneg _) (And.intro hi trivial)) ?_)
        refine aws_seq (gT [] [(1, (vi a1)), (5, (AV.map 1)), (7, (vp 2)), (14, (AV.d (eL TApiPosting.e a0.Postings))), (15, (vi (a0.Postings.length : Int))), (16, (vi (iv7 : Int))), (23, (vb (decide (((a0.Postings.getD iv7 default).Day) ≤ a1))))] (by kernel_rfl) ?_)
        refine aws_cond (b := (decide (((a0.Postings.getD iv7 default).Day) ≤ a1))) (by kernel_rfl) (fun hbv12 => ?_) (fun hbv12 => ?_)
        · replace hxv10 := iteT hbv12 hxv10
          refine aws_seq (gD ⟨[[], [], [1], [], [3], [], [5], [], [7], [8, 7, 6, 5, 4, 3, 2, 1], [9, 8, 7, 6, 5, 4, 3, 2, 1, 0], [], [11], [12, 11, 10, 9, 8, 7, 6, 5, 4, 3, 2, 1, 0], [12, 11, 9, 8, 7, 6, 5, 4, 3, 2, 1, 0], [14, 12, 11, 9, 8, 7, 6, 5, 4, 3, 2, 1, 0], [15, 14, 13, 12, 11, 10, 9, 8, 7, 6, 5, 4, 3, 2, 1, 0]], [14, 16]⟩ [(10, { h := .callr (vi (mget sv6 (⟨(a0.Postings.getD iv7 default).Debit, (a0.Postings.getD iv7 default).Entity, (a0.Postings.getD iv7 default).Partner, (a0.Postings.getD iv7 default).Ref⟩ : TConsolidationSpot) 0)) }), (14, { h := .call (AV.tup [(vi (mget sv6 (⟨(a0.Postings.getD iv7 default).Debit, (a0.Postings.getD iv7 default).Entity, (a0.Postings.getD iv7 default).Partner, (a0.Postings.getD iv7 default).Ref⟩ : TConsolidationSpot) 0)), (vi (midx sv6 (⟨(a0.Postings.getD iv7 default).Debit, (a0.Postings.getD iv7 default).Entity, (a0.Postings.getD iv7 default).Partner, (a0.Postings.getD iv7 default).Ref⟩ : TConsolidationSpot) : Int))]) [(bx (TApiLedger.e a0)), (eM TConsolidationSpot.e (DV.i .i64) (ment sv6 (⟨(a0.Postings.getD iv7 default).Debit, (a0.Postings.getD iv7 default).Entity, (a0.Postings.getD iv7 default).Partner, (a0.Postings.getD iv7 default).Ref⟩ : TConsolidationSpot) 0)), (bx (TApiPosting.e (a0.Postings.getD iv7 default)))] }), (16, { h := .call .bot [(bx (TApiLedger.e a0)), (eM TConsolidationSpot.e (DV.i .i64) (mupd sv6 (⟨(a0.Postings.getD iv7 default).Debit, (a0.Postings.getD iv7 default).Entity, (a0.Postings.getD iv7 default).Partner, (a0.Postings.getD iv7 default).Ref⟩ : TConsolidationSpot) (IntKind.i64.wrap ((mget sv6 (⟨(a0.Postings.getD iv7 default).Debit, (a0.Postings.getD iv7 default).Entity, (a0.Postings.getD iv7 default).Partner, (a0.Postings.getD iv7 default).Ref⟩ : TConsolidationSpot) 0) + ((a0.Postings.getD iv7 default).Amount))))), (bx (TApiPosting.e (a0.Postings.getD iv7 default)))] })] [(1, (vi a1)), (5, (AV.map 1)), (7, (vp 2)), (14, (AV.d (eL TApiPosting.e a0.Postings))), (15, (vi (a0.Postings.length : Int))), (16, (vi (iv7 : Int)))] [(bx (TApiLedger.e a0)), (eM TConsolidationSpot.e (DV.i .i64) (mupd sv6 (⟨(a0.Postings.getD iv7 default).Debit, (a0.Postings.getD iv7 default).Entity, (a0.Postings.getD iv7 default).Partner, (a0.Postings.getD iv7 default).Ref⟩ : TConsolidationSpot) (IntKind.i64.wrap ((mget sv6 (⟨(a0.Postings.getD iv7 default).Debit, (a0.Postings.getD iv7 default).Entity, (a0.Postings.getD iv7 default).Partner, (a0.Postings.getD iv7 default).Ref⟩ : TConsolidationSpot) 0) + ((a0.Postings.getD iv7 default).Amount))))), (bx (TApiPosting.e (a0.Postings.getD iv7 default)))] [LookOk Try.prog [(bx (TApiLedger.e a0)), (eM TConsolidationSpot.e (DV.i .i64) sv6), (bx (TApiPosting.e (a0.Postings.getD iv7 default)))] 89 (AV.map 1) (AV.d (TConsolidationSpot.e (⟨(a0.Postings.getD iv7 default).Debit, (a0.Postings.getD iv7 default).Entity, (a0.Postings.getD iv7 default).Partner, (a0.Postings.getD iv7 default).Ref⟩ : TConsolidationSpot))) false (vi (mget sv6 (⟨(a0.Postings.getD iv7 default).Debit, (a0.Postings.getD iv7 default).Entity, (a0.Postings.getD iv7 default).Partner, (a0.Postings.getD iv7 default).Ref⟩ : TConsolidationSpot) 0)), LookOk Try.prog [(bx (TApiLedger.e a0)), (eM TConsolidationSpot.e (DV.i .i64) (ment sv6 (⟨(a0.Postings.getD iv7 default).Debit, (a0.Postings.getD iv7 default).Entity, (a0.Postings.getD iv7 default).Partner, (a0.Postings.getD iv7 default).Ref⟩ : TConsolidationSpot) 0)), (bx (TApiPosting.e (a0.Postings.getD iv7 default)))] 89 (AV.map 1) (AV.d (TConsolidationSpot.e (⟨(a0.Postings.getD iv7 default).Debit, (a0.Postings.getD iv7 default).Entity, (a0.Postings.getD iv7 default).Partner, (a0.Postings.getD iv7 default).Ref⟩ : TConsolidationSpot))) false (vi (mget sv6 (⟨(a0.Postings.getD iv7 default).Debit, (a0.Postings.getD iv7 default).Entity, (a0.Postings.getD iv7 default).Partner, (a0.Postings.getD iv7 default).Ref⟩ : TConsolidationSpot) 0)), EntOk Try.prog [(bx (TApiLedger.e a0)), (eM TConsolidationSpot.e (DV.i .i64) sv6), (bx (TApiPosting.e (a0.Postings.getD iv7 default)))] 89 (AV.map 1) (AV.d (TConsolidationSpot.e (⟨(a0.Postings.getD iv7 default).Debit, (a0.Postings.getD iv7 default).Entity, (a0.Postings.getD iv7 default).Partner, (a0.Postings.getD iv7 default).Ref⟩ : TConsolidationSpot))) (AV.tup [(vi (mget sv6 (⟨(a0.Postings.getD iv7 default).Debit, (a0.Postings.getD iv7 default).Entity, (a0.Postings.getD iv7 default).Partner, (a0.Postings.getD iv7 default).Ref⟩ : TConsolidationSpot) 0)), (vi (midx sv6 (⟨(a0.Postings.getD iv7 default).Debit, (a0.Postings.getD iv7 default).Entity, (a0.Postings.getD iv7 default).Partner, (a0.Postings.getD iv7 default).Ref⟩ : TConsolidationSpot) : Int))]) [(bx (TApiLedger.e a0)), (eM TConsolidationSpot.e (DV.i .i64) (ment sv6 (⟨(a0.Postings.getD iv7 default).Debit, (a0.Postings.getD iv7 default).Entity, (a0.Postings.getD iv7 default).Partner, (a0.Postings.getD iv7 default).Ref⟩ : TConsolidationSpot) 0)), (bx (TApiPosting.e (a0.Postings.getD iv7 default)))], StoOk Try.prog [(bx (TApiLedger.e a0)), (eM TConsolidationSpot.e (DV.i .i64) (ment sv6 (⟨(a0.Postings.getD iv7 default).Debit, (a0.Postings.getD iv7 default).Entity, (a0.Postings.getD iv7 default).Partner, (a0.Postings.getD iv7 default).Ref⟩ : TConsolidationSpot) 0)), (bx (TApiPosting.e (a0.Postings.getD iv7 default)))] 89 (AV.map 1) (vi (midx sv6 (⟨(a0.Postings.getD iv7 default).Debit, (a0.Postings.getD iv7 default).Entity, (a0.Postings.getD iv7 default).Partner, (a0.Postings.getD iv7 default).Ref⟩ : TConsolidationSpot) : Int)) (vi (IntKind.i64.wrap ((mget sv6 (⟨(a0.Postings.getD iv7 default).Debit, (a0.Postings.getD iv7 default).Entity, (a0.Postings.getD iv7 default).Partner, (a0.Postings.getD iv7 default).Ref⟩ : TConsolidationSpot) 0) + ((a0.Postings.getD iv7 default).Amount)))) [(bx (TApiLedger.e a0)), (eM TConsolidationSpot.e (DV.i .i64) (mupd sv6 (⟨(a0.Postings.getD iv7 default).Debit, (a0.Postings.getD iv7 default).Entity, (a0.Postings.getD iv7 default).Partner, (a0.Postings.getD iv7 default).Ref⟩ : TConsolidationSpot) (IntKind.i64.wrap ((mget sv6 (⟨(a0.Postings.getD iv7 default).Debit, (a0.Postings.getD iv7 default).Entity, (a0.Postings.getD iv7 default).Partner, (a0.Postings.getD iv7 default).Ref⟩ : TConsolidationSpot) 0) + ((a0.Postings.getD iv7 default).Amount))))), (bx (TApiPosting.e (a0.Postings.getD iv7 default)))]] (by kernel_rfl) (by kernel_rfl) (by kernel_rfl) (And.intro (look_ok (kt := 92) (et := 3) (eK := TConsolidationSpot.e) (eV := (DV.i .i64)) (l := sv6) (k := (⟨(a0.Postings.getD iv7 default).Debit, (a0.Postings.getD iv7 default).Entity, (a0.Postings.getD iv7 default).Partner, (a0.Postings.getD iv7 default).Ref⟩ : TConsolidationSpot)) (z := 0) (by kernel_rfl) rfl keyEq92 (by kernel_rfl)) (And.intro (look_okE (kt := 92) (et := 3) (eK := TConsolidationSpot.e) (eV := (DV.i .i64)) (l := sv6) (k := (⟨(a0.Postings.getD iv7 default).Debit, (a0.Postings.getD iv7 default).Entity, (a0.Postings.getD iv7 default).Partner, (a0.Postings.getD iv7 default).Ref⟩ : TConsolidationSpot)) (k' := (⟨(a0.Postings.getD iv7 default).Debit, (a0.Postings.getD iv7 default).Entity, (a0.Postings.getD iv7 default).Partner, (a0.Postings.getD iv7 default).Ref⟩ : TConsolidationSpot)) (z := 0) (by kernel_rfl) rfl keyEq92 (by kernel_rfl)) (And.intro (ent_ok (kt := 92) (et := 3) (eK := TConsolidationSpot.e) (eV := (DV.i .i64)) (l := sv6) (k := (⟨(a0.Postings.getD iv7 default).Debit, (a0.Postings.getD iv7 default).Entity, (a0.Postings.getD iv7 default).Partner, (a0.Postings.getD iv7 default).Ref⟩ : TConsolidationSpot)) (z := 0) (by kernel_rfl) rfl keyEq92 rfl (by kernel_rfl)) (And.intro (sto_ok' (eK := TConsolidationSpot.e) (eV := (DV.i .i64)) (l := sv6) (k := (⟨(a0.Postings.getD iv7 default).Debit, (a0.Postings.getD iv7 default).Entity, (a0.Postings.getD iv7 default).Partner, (a0.Postings.getD iv7 default).Ref⟩ : TConsolidationSpot)) (v := (IntKind.i64.wrap ((mget sv6 (⟨(a0.Postings.getD iv7 default).Debit, (a0.Postings.getD iv7 default).Entity, (a0.Postings.getD iv7 default).Partner, (a0.Postings.getD iv7 default).Ref⟩ : TConsolidationSpot) 0) + ((a0.Postings.getD iv7 default).Amount)))) (z := 0) rfl) trivial)))) ?_)
          refine gD ⟨[[], [], [1], [], [3], [], [5], [], [7], [8, 7, 6, 5, 4, 3, 2, 1], [9, 8, 7, 6, 5, 4, 3, 2, 1, 0], [], [11], [12, 11, 10, 9, 8, 7, 6, 5, 4, 3, 2, 1, 0], [12, 11, 9, 8, 7, 6, 5, 4, 3, 2, 1, 0], [14, 12, 11, 9, 8, 7, 6, 5, 4, 3, 2, 1, 0], [15, 14, 13, 12, 11, 10, 9, 8, 7, 6, 5, 4, 3, 2, 1, 0]], [14, 16]⟩ [(10, { h := .callr (vi (mget (mupd sv6 (⟨(a0.Postings.getD iv7 default).Debit, (a0.Postings.getD iv7 default).Entity, (a0.Postings.getD iv7 default).Partner, (a0.Postings.getD iv7 default).Ref⟩ : TConsolidationSpot) (IntKind.i64.wrap ((mget sv6 (⟨(a0.Postings.getD iv7 default).Debit, (a0.Postings.getD iv7 default).Entity, (a0.Postings.getD iv7 default).Partner, (a0.Postings.getD iv7 default).Ref⟩ : TConsolidationSpot) 0) + ((a0.Postings.getD iv7 default).Amount)))) (⟨(a0.Postings.getD iv7 default).Credit, (a0.Postings.getD iv7 default).Entity, (a0.Postings.getD iv7 default).Partner, (a0.Postings.getD iv7 default).Ref⟩ : TConsolidationSpot) 0)) }), (14, { h := .call (AV.tup [(vi (mget (mupd sv6 (⟨(a0.Postings.getD iv7 default).Debit, (a0.Postings.getD iv7 default).Entity, (a0.Postings.getD iv7 default).Partner, (a0.Postings.getD iv7 default).Ref⟩ : TConsolidationSpot) (IntKind.i64.wrap ((mget sv6 (⟨(a0.Postings.getD iv7 default).Debit, (a0.Postings.getD iv7 default).Entity, (a0.Postings.getD iv7 default).Partner, (a0.Postings.getD iv7 default).Ref⟩ : TConsolidationSpot) 0) + ((a0.Postings.getD iv7 default).Amount)))) (⟨(a0.Postings.getD iv7 default).Credit, (a0.Postings.getD iv7 default).Entity, (a0.Postings.getD iv7 default).Partner, (a0.Postings.getD iv7 default).Ref⟩ : TConsolidationSpot) 0)), (vi (midx (mupd sv6 (⟨(a0.Postings.getD iv7 default).Debit, (a0.Postings.getD iv7 default).Entity, (a0.Postings.getD iv7 default).Partner, (a0.Postings.getD iv7 default).Ref⟩ : TConsolidationSpot) (IntKind.i64.wrap ((mget sv6 (⟨(a0.Postings.getD iv7 default).Debit, (a0.Postings.getD iv7 default).Entity, (a0.Postings.getD iv7 default).Partner, (a0.Postings.getD iv7 default).Ref⟩ : TConsolidationSpot) 0) + ((a0.Postings.getD iv7 default).Amount)))) (⟨(a0.Postings.getD iv7 default).Credit, (a0.Postings.getD iv7 default).Entity, (a0.Postings.getD iv7 default).Partner, (a0.Postings.getD iv7 default).Ref⟩ : TConsolidationSpot) : Int))]) [(bx (TApiLedger.e a0)), (eM TConsolidationSpot.e (DV.i .i64) (ment (mupd sv6 (⟨(a0.Postings.getD iv7 default).Debit, (a0.Postings.getD iv7 default).Entity, (a0.Postings.getD iv7 default).Partner, (a0.Postings.getD iv7 default).Ref⟩ : TConsolidationSpot) (IntKind.i64.wrap ((mget sv6 (⟨(a0.Postings.getD iv7 default).Debit, (a0.Postings.getD iv7 default).Entity, (a0.Postings.getD iv7 default).Partner, (a0.Postings.getD iv7 default).Ref⟩ : TConsolidationSpot) 0) + ((a0.Postings.getD iv7 default).Amount)))) (⟨(a0.Postings.getD iv7 default).Credit, (a0.Postings.getD iv7 default).Entity, (a0.Postings.getD iv7 default).Partner, (a0.Postings.getD iv7 default).Ref⟩ : TConsolidationSpot) 0)), (bx (TApiPosting.e (a0.Postings.getD iv7 default)))] }), (16, { h := .call .bot [(bx (TApiLedger.e a0)), (eM TConsolidationSpot.e (DV.i .i64) (mupd (mupd sv6 (⟨(a0.Postings.getD iv7 default).Debit, (a0.Postings.getD iv7 default).Entity, (a0.Postings.getD iv7 default).Partner, (a0.Postings.getD iv7 default).Ref⟩ : TConsolidationSpot) (IntKind.i64.wrap ((mget sv6 (⟨(a0.Postings.getD iv7 default).Debit, (a0.Postings.getD iv7 default).Entity, (a0.Postings.getD iv7 default).Partner, (a0.Postings.getD iv7 default).Ref⟩ : TConsolidationSpot) 0) + ((a0.Postings.getD iv7 default).Amount)))) (⟨(a0.Postings.getD iv7 default).Credit, (a0.Postings.getD iv7 default).Entity, (a0.Postings.getD iv7 default).Partner, (a0.Postings.getD iv7 default).Ref⟩ : TConsolidationSpot) (IntKind.i64.wrap ((mget (mupd sv6 (⟨(a0.Postings.getD iv7 default).Debit, (a0.Postings.getD iv7 default).Entity, (a0.Postings.getD iv7 default).Partner, (a0.Postings.getD iv7 default).Ref⟩ : TConsolidationSpot) (IntKind.i64.wrap ((mget sv6 (⟨(a0.Postings.getD iv7 default).Debit, (a0.Postings.getD iv7 default).Entity, (a0.Postings.getD iv7 default).Partner, (a0.Postings.getD iv7 default).Ref⟩ : TConsolidationSpot) 0) + ((a0.Postings.getD iv7 default).Amount)))) (⟨(a0.Postings.getD iv7 default).Credit, (a0.Postings.getD iv7 default).Entity, (a0.Postings.getD iv7 default).Partner, (a0.Postings.getD iv7 default).Ref⟩ : TConsolidationSpot) 0) - ((a0.Postings.getD iv7 default).Amount))))), (bx (TApiPosting.e (a0.Postings.getD iv7 default)))] })] [(1, (vi a1)), (5, (AV.map 1)), (14, (AV.d (eL TApiPosting.e a0.Postings))), (15, (vi (a0.Postings.length : Int))), (16, (vi (iv7 : Int)))] [(bx (TApiLedger.e a0)), (eM TConsolidationSpot.e (DV.i .i64) (mupd (mupd sv6 (⟨(a0.Postings.getD iv7 default).Debit, (a0.Postings.getD iv7 default).Entity, (a0.Postings.getD iv7 default).Partner, (a0.Postings.getD iv7 default).Ref⟩ : TConsolidationSpot) (IntKind.i64.wrap ((mget sv6 (⟨(a0.Postings.getD iv7 default).Debit, (a0.Postings.getD iv7 default).Entity, (a0.Postings.getD iv7 default).Partner, (a0.Postings.getD iv7 default).Ref⟩ : TConsolidationSpot) 0) + ((a0.Postings.getD iv7 default).Amount)))) (⟨(a0.Postings.getD iv7 default).Credit, (a0.Postings.getD iv7 default).Entity, (a0.Postings.getD iv7 default).Partner, (a0.Postings.getD iv7 default).Ref⟩ : TConsolidationSpot) (IntKind.i64.wrap ((mget (mupd sv6 (⟨(a0.Postings.getD iv7 default).Debit, (a0.Postings.getD iv7 default).Entity, (a0.Postings.getD iv7 default).Partner, (a0.Postings.getD iv7 default).Ref⟩ : TConsolidationSpot) (IntKind.i64.wrap ((mget sv6 (⟨(a0.Postings.getD iv7 default).Debit, (a0.Postings.getD iv7 default).Entity, (a0.Postings.getD iv7 default).Partner, (a0.Postings.getD iv7 default).Ref⟩ : TConsolidationSpot) 0) + ((a0.Postings.getD iv7 default).Amount)))) (⟨(a0.Postings.getD iv7 default).Credit, (a0.Postings.getD iv7 default).Entity, (a0.Postings.getD iv7 default).Partner, (a0.Postings.getD iv7 default).Ref⟩ : TConsolidationSpot) 0) - ((a0.Postings.getD iv7 default).Amount))))), (bx (TApiPosting.e (a0.Postings.getD iv7 default)))] [LookOk Try.prog [(bx (TApiLedger.e a0)), (eM TConsolidationSpot.e (DV.i .i64) (mupd sv6 (⟨(a0.Postings.getD iv7 default).Debit, (a0.Postings.getD iv7 default).Entity, (a0.Postings.getD iv7 default).Partner, (a0.Postings.getD iv7 default).Ref⟩ : TConsolidationSpot) (IntKind.i64.wrap ((mget sv6 (⟨(a0.Postings.getD iv7 default).Debit, (a0.Postings.getD iv7 default).Entity, (a0.Postings.getD iv7 default).Partner, (a0.Postings.getD iv7 default).Ref⟩ : TConsolidationSpot) 0) + ((a0.Postings.getD iv7 default).Amount))))), (bx (TApiPosting.e (a0.Postings.getD iv7 default)))] 89 (AV.map 1) (AV.d (TConsolidationSpot.e (⟨(a0.Postings.getD iv7 default).Credit, (a0.Postings.getD iv7 default).Entity, (a0.Postings.getD iv7 default).Partner, (a0.Postings.getD iv7 default).Ref⟩ : TConsolidationSpot))) false (vi (mget (mupd sv6 (⟨(a0.Postings.getD iv7 default).Debit, (a0.Postings.getD iv7 default).Entity, (a0.Postings.getD iv7 default).Partner, (a0.Postings.getD iv7 default).Ref⟩ : TConsolidationSpot) (IntKind.i64.wrap ((mget sv6 (⟨(a0.Postings.getD iv7 default).Debit, (a0.Postings.getD iv7 default).Entity, (a0.Postings.getD iv7 default).Partner, (a0.Postings.getD iv7 default).Ref⟩ : TConsolidationSpot) 0) + ((a0.Postings.getD iv7 default).Amount)))) (⟨(a0.Postings.getD iv7 default).Credit, (a0.Postings.getD iv7 default).Entity, (a0.Postings.getD iv7 default).Partner, (a0.Postings.getD iv7 default).Ref⟩ : TConsolidationSpot) 0)), LookOk Try.prog [(bx (TApiLedger.e a0)), (eM TConsolidationSpot.e (DV.i .i64) (ment (mupd sv6 (⟨(a0.Postings.getD iv7 default).Debit, (a0.Postings.getD iv7 default).Entity, (a0.Postings.getD iv7 default).Partner, (a0.Postings.getD iv7 default).Ref⟩ : TConsolidationSpot) (IntKind.i64.wrap ((mget sv6 (⟨(a0.Postings.getD iv7 default).Debit, (a0.Postings.getD iv7 default).Entity, (a0.Postings.getD iv7 default).Partner, (a0.Postings.getD iv7 default).Ref⟩ : TConsolidationSpot) 0) + ((a0.Postings.getD iv7 default).Amount)))) (⟨(a0.Postings.getD iv7 default).Credit, (a0.Postings.getD iv7 default).Entity, (a0.Postings.getD iv7 default).Partner, (a0.Postings.getD iv7 default).Ref⟩ : TConsolidationSpot) 0)), (bx (TApiPosting.e (a0.Postings.getD iv7 default)))] 89 (AV.map 1) (AV.d (TConsolidationSpot.e (⟨(a0.Postings.getD iv7 default).Credit, (a0.Postings.getD iv7 default).Entity, (a0.Postings.getD iv7 default).Partner, (a0.Postings.getD iv7 default).Ref⟩ : TConsolidationSpot))) false (vi (mget (mupd sv6 (⟨(a0.Postings.getD iv7 default).Debit, (a0.Postings.getD iv7 default).Entity, (a0.Postings.getD iv7 default).Partner, (a0.Postings.getD iv7 default).Ref⟩ : TConsolidationSpot) (IntKind.i64.wrap ((mget sv6 (⟨(a0.Postings.getD iv7 default).Debit, (a0.Postings.getD iv7 default).Entity, (a0.Postings.getD iv7 default).Partner, (a0.Postings.getD iv7 default).Ref⟩ : TConsolidationSpot) 0) + ((a0.Postings.getD iv7 default).Amount)))) (⟨(a0.Postings.getD iv7 default).Credit, (a0.Postings.getD iv7 default).Entity, (a0.Postings.getD iv7 default).Partner, (a0.Postings.getD iv7 default).Ref⟩ : TConsolidationSpot) 0)), EntOk Try.prog [(bx (TApiLedger.e a0)), (eM TConsolidationSpot.e (DV.i .i64) (mupd sv6 (⟨(a0.Postings.getD iv7 default).Debit, (a0.Postings.getD iv7 default).Entity, (a0.Postings.getD iv7 default).Partner, (a0.Postings.getD iv7 default).Ref⟩ : TConsolidationSpot) (IntKind.i64.wrap ((mget sv6 (⟨(a0.Postings.getD iv7 default).Debit, (a0.Postings.getD iv7 default).Entity, (a0.Postings.getD iv7 default).Partner, (a0.Postings.getD iv7 default).Ref⟩ : TConsolidationSpot) 0) + ((a0.Postings.getD iv7 default).Amount))))), (bx (TApiPosting.e (a0.Postings.getD iv7 default)))] 89 (AV.map 1) (AV.d (TConsolidationSpot.e (⟨(a0.Postings.getD iv7 default).Credit, (a0.Postings.getD iv7 default).Entity, (a0.Postings.getD iv7 default).Partner, (a0.Postings.getD iv7 default).Ref⟩ : TConsolidationSpot))) (AV.tup [(vi (mget (mupd sv6 (⟨(a0.Postings.getD iv7 default).Debit, (a0.Postings.getD iv7 default).Entity, (a0.Postings.getD iv7 default).Partner, (a0.Postings.getD iv7 default).Ref⟩ : TConsolidationSpot) (IntKind.i64.wrap ((mget sv6 (⟨(a0.Postings.getD iv7 default).Debit, (a0.Postings.getD iv7 default).Entity, (a0.Postings.getD iv7 default).Partner, (a0.Postings.getD iv7 default).Ref⟩ : TConsolidationSpot) 0) + ((a0.Postings.getD iv7 default).Amount)))) (⟨(a0.Postings.getD iv7 default).Credit, (a0.Postings.getD iv7 default).Entity, (a0.Postings.getD iv7 default).Partner, (a0.Postings.getD iv7 default).Ref⟩ : TConsolidationSpot) 0)), (vi (midx (mupd sv6 (⟨(a0.Postings.getD iv7 default).Debit, (a0.Postings.getD iv7 default).Entity, (a0.Postings.getD iv7 default).Partner, (a0.Postings.getD iv7 default).Ref⟩ : TConsolidationSpot) (IntKind.i64.wrap ((mget sv6 (⟨(a0.Postings.getD iv7 default).Debit, (a0.Postings.getD iv7 default).Entity, (a0.Postings.getD iv7 default).Partner, (a0.Postings.getD iv7 default).Ref⟩ : TConsolidationSpot) 0) + ((a0.Postings.getD iv7 default).Amount)))) (⟨(a0.Postings.getD iv7 default).Credit, (a0.Postings.getD iv7 default).Entity, (a0.Postings.getD iv7 default).Partner, (a0.Postings.getD iv7 default).Ref⟩ : TConsolidationSpot) : Int))]) [(bx (TApiLedger.e a0)), (eM TConsolidationSpot.e (DV.i .i64) (ment (mupd sv6 (⟨(a0.Postings.getD iv7 default).Debit, (a0.Postings.getD iv7 default).Entity, (a0.Postings.getD iv7 default).Partner, (a0.Postings.getD iv7 default).Ref⟩ : TConsolidationSpot) (IntKind.i64.wrap ((mget sv6 (⟨(a0.Postings.getD iv7 default).Debit, (a0.Postings.getD iv7 default).Entity, (a0.Postings.getD iv7 default).Partner, (a0.Postings.getD iv7 default).Ref⟩ : TConsolidationSpot) 0) + ((a0.Postings.getD iv7 default).Amount)))) (⟨(a0.Postings.getD iv7 default).Credit, (a0.Postings.getD iv7 default).Entity, (a0.Postings.getD iv7 default).Partner, (a0.Postings.getD iv7 default).Ref⟩ : TConsolidationSpot) 0)), (bx (TApiPosting.e (a0.Postings.getD iv7 default)))], StoOk Try.prog [(bx (TApiLedger.e a0)), (eM TConsolidationSpot.e (DV.i .i64) (ment (mupd sv6 (⟨(a0.Postings.getD iv7 default).Debit, (a0.Postings.getD iv7 default).Entity, (a0.Postings.getD iv7 default).Partner, (a0.Postings.getD iv7 default).Ref⟩ : TConsolidationSpot) (IntKind.i64.wrap ((mget sv6 (⟨(a0.Postings.getD iv7 default).Debit, (a0.Postings.getD iv7 default).Entity, (a0.Postings.getD iv7 default).Partner, (a0.Postings.getD iv7 default).Ref⟩ : TConsolidationSpot) 0) + ((a0.Postings.getD iv7 default).Amount)))) (⟨(a0.Postings.getD iv7 default).Credit, (a0.Postings.getD iv7 default).Entity, (a0.Postings.getD iv7 default).Partner, (a0.Postings.getD iv7 default).Ref⟩ : TConsolidationSpot) 0)), (bx (TApiPosting.e (a0.Postings.getD iv7 default)))] 89 (AV.map 1) (vi (midx (mupd sv6 (⟨(a0.Postings.getD iv7 default).Debit, (a0.Postings.getD iv7 default).Entity, (a0.Postings.getD iv7 default).Partner, (a0.Postings.getD iv7 default).Ref⟩ : TConsolidationSpot) (IntKind.i64.wrap ((mget sv6 (⟨(a0.Postings.getD iv7 default).Debit, (a0.Postings.getD iv7 default).Entity, (a0.Postings.getD iv7 default).Partner, (a0.Postings.getD iv7 default).Ref⟩ : TConsolidationSpot) 0) + ((a0.Postings.getD iv7 default).Amount)))) (⟨(a0.Postings.getD iv7 default).Credit, (a0.Postings.getD iv7 default).Entity, (a0.Postings.getD iv7 default).Partner, (a0.Postings.getD iv7 default).Ref⟩ : TConsolidationSpot) : Int)) (vi (IntKind.i64.wrap ((mget (mupd sv6 (⟨(a0.Postings.getD iv7 default).Debit, (a0.Postings.getD iv7 default).Entity, (a0.Postings.getD iv7 default).Partner, (a0.Postings.getD iv7 default).Ref⟩ : TConsolidationSpot) (IntKind.i64.wrap ((mget sv6 (⟨(a0.Postings.getD iv7 default).Debit, (a0.Postings.getD iv7 default).Entity, (a0.Postings.getD iv7 default).Partner, (a0.Postings.getD iv7 default).Ref⟩ : TConsolidationSpot) 0) + ((a0.Postings.getD iv7 default).Amount)))) (⟨(a0.Postings.getD iv7 default).Credit, (a0.Postings.getD iv7 default).Entity, (a0.Postings.getD iv7 default).Partner, (a0.Postings.getD iv7 default).Ref⟩ : TConsolidationSpot) 0) - ((a0.Postings.getD iv7 default).Amount)))) [(bx (TApiLedger.e a0)), (eM TConsolidationSpot.e (DV.i .i64) (mupd (mupd sv6 (⟨(a0.Postings.getD iv7 default).Debit, (a0.Postings.getD iv7 default).Entity, (a0.Postings.getD iv7 default).Partner, (a0.Postings.getD iv7 default).Ref⟩ : TConsolidationSpot) (IntKind.i64.wrap ((mget sv6 (⟨(a0.Postings.getD iv7 default).Debit, (a0.Postings.getD iv7 default).Entity, (a0.Postings.getD iv7 default).Partner, (a0.Postings.getD iv7 default).Ref⟩ : TConsolidationSpot) 0) + ((a0.Postings.getD iv7 default).Amount)))) (⟨(a0.Postings.getD iv7 default).Credit, (a0.Postings.getD iv7 default).Entity, (a0.Postings.getD iv7 default).Partner, (a0.Postings.getD iv7 default).Ref⟩ : TConsolidationSpot) (IntKind.i64.wrap ((mget (mupd sv6 (⟨(a0.Postings.getD iv7 default).Debit, (a0.Postings.getD iv7 default).Entity, (a0.Postings.getD iv7 default).Partner, (a0.Postings.getD iv7 default).Ref⟩ : TConsolidationSpot) (IntKind.i64.wrap ((mget sv6 (⟨(a0.Postings.getD iv7 default).Debit, (a0.Postings.getD iv7 default).Entity, (a0.Postings.getD iv7 default).Partner, (a0.Postings.getD iv7 default).Ref⟩ : TConsolidationSpot) 0) + ((a0.Postings.getD iv7 default).Amount)))) (⟨(a0.Postings.getD iv7 default).Credit, (a0.Postings.getD iv7 default).Entity, (a0.Postings.getD iv7 default).Partner, (a0.Postings.getD iv7 default).Ref⟩ : TConsolidationSpot) 0) - ((a0.Postings.getD iv7 default).Amount))))), (bx (TApiPosting.e (a0.Postings.getD iv7 default)))]] (by kernel_rfl) (by kernel_rfl) (by kernel_rfl) (And.intro (look_ok (kt := 92) (et := 3) (eK := TConsolidationSpot.e) (eV := (DV.i .i64)) (l := (mupd sv6 (⟨(a0.Postings.getD iv7 default).Debit, (a0.Postings.getD iv7 default).Entity, (a0.Postings.getD iv7 default).Partner, (a0.Postings.getD iv7 default).Ref⟩ : TConsolidationSpot) (IntKind.i64.wrap ((mget sv6 (⟨(a0.Postings.getD iv7 default).Debit, (a0.Postings.getD iv7 default).Entity, (a0.Postings.getD iv7 default).Partner, (a0.Postings.getD iv7 default).Ref⟩ : TConsolidationSpot) 0) + ((a0.Postings.getD iv7 default).Amount))))) (k := (⟨(a0.Postings.getD iv7 default).Credit, (a0.Postings.getD iv7 default).Entity, (a0.Postings.getD iv7 default).Partner, (a0.Postings.getD iv7 default).Ref⟩ : TConsolidationSpot)) (z := 0) (by kernel_rfl) rfl keyEq92 (by kernel_rfl)) (And.intro (look_okE (kt := 92) (et := 3) (eK := TConsolidationSpot.e) (eV := (DV.i .i64)) (l := (mupd sv6 (⟨(a0.Postings.getD iv7 default).Debit, (a0.Postings.getD iv7 default).Entity, (a0.Postings.getD iv7 default).Partner, (a0.Postings.getD iv7 default).Ref⟩ : TConsolidationSpot) (IntKind.i64.wrap ((mget sv6 (⟨(a0.Postings.getD iv7 default).Debit, (a0.Postings.getD iv7 default).Entity, (a0.Postings.getD iv7 default).Partner, (a0.Postings.getD iv7 default).Ref⟩ : TConsolidationSpot) 0) + ((a0.Postings.getD iv7 default).Amount))))) (k := (⟨(a0.Postings.getD iv7 default).Credit, (a0.Postings.getD iv7 default).Entity, (a0.Postings.getD iv7 default).Partner, (a0.Postings.getD iv7 default).Ref⟩ : TConsolidationSpot)) (k' := (⟨(a0.Postings.getD iv7 default).Credit, (a0.Postings.getD iv7 default).Entity, (a0.Postings.getD iv7 default).Partner, (a0.Postings.getD iv7 default).Ref⟩ : TConsolidationSpot)) (z := 0) (by kernel_rfl) rfl keyEq92 (by kernel_rfl)) (And.intro (ent_ok (kt := 92) (et := 3) (eK := TConsolidationSpot.e) (eV := (DV.i .i64)) (l := (mupd sv6 (⟨(a0.Postings.getD iv7 default).Debit, (a0.Postings.getD iv7 default).Entity, (a0.Postings.getD iv7 default).Partner, (a0.Postings.getD iv7 default).Ref⟩ : TConsolidationSpot) (IntKind.i64.wrap ((mget sv6 (⟨(a0.Postings.getD iv7 default).Debit, (a0.Postings.getD iv7 default).Entity, (a0.Postings.getD iv7 default).Partner, (a0.Postings.getD iv7 default).Ref⟩ : TConsolidationSpot) 0) + ((a0.Postings.getD iv7 default).Amount))))) (k := (⟨(a0.Postings.getD iv7 default).Credit, (a0.Postings.getD iv7 default).Entity, (a0.Postings.getD iv7 default).Partner, (a0.Postings.getD iv7 default).Ref⟩ : TConsolidationSpot)) (z := 0) (by kernel_rfl) rfl keyEq92 rfl (by kernel_rfl)) (And.intro (sto_ok' (eK := TConsolidationSpot.e) (eV := (DV.i .i64)) (l := (mupd sv6 (⟨(a0.Postings.getD iv7 default).Debit, (a0.Postings.getD iv7 default).Entity, (a0.Postings.getD iv7 default).Partner, (a0.Postings.getD iv7 default).Ref⟩ : TConsolidationSpot) (IntKind.i64.wrap ((mget sv6 (⟨(a0.Postings.getD iv7 default).Debit, (a0.Postings.getD iv7 default).Entity, (a0.Postings.getD iv7 default).Partner, (a0.Postings.getD iv7 default).Ref⟩ : TConsolidationSpot) 0) + ((a0.Postings.getD iv7 default).Amount))))) (k := (⟨(a0.Postings.getD iv7 default).Credit, (a0.Postings.getD iv7 default).Entity, (a0.Postings.getD iv7 default).Partner, (a0.Postings.getD iv7 default).Ref⟩ : TConsolidationSpot)) (v := (IntKind.i64.wrap ((mget (mupd sv6 (⟨(a0.Postings.getD iv7 default).Debit, (a0.Postings.getD iv7 default).Entity, (a0.Postings.getD iv7 default).Partner, (a0.Postings.getD iv7 default).Ref⟩ : TConsolidationSpot) (IntKind.i64.wrap ((mget sv6 (⟨(a0.Postings.getD iv7 default).Debit, (a0.Postings.getD iv7 default).Entity, (a0.Postings.getD iv7 default).Partner, (a0.Postings.getD iv7 default).Ref⟩ : TConsolidationSpot) 0) + ((a0.Postings.getD iv7 default).Amount)))) (⟨(a0.Postings.getD iv7 default).Credit, (a0.Postings.getD iv7 default).Entity, (a0.Postings.getD iv7 default).Partner, (a0.Postings.getD iv7 default).Ref⟩ : TConsolidationSpot) 0) - ((a0.Postings.getD iv7 default).Amount)))) (z := 0) rfl) trivial)))) ?_
          refine aws_nil ?_
          obtain rfl := Option.some.inj hxv10
          exact ⟨_, rfl, ⟨(fA (by kernel_rfl)), .inr ⟨⟨[(bx (TApiPosting.e (a0.Postings.getD iv7 default)))], rfl, lsOk (And.intro rfl (And.intro (eM_lt _ _ _ _) trivial))⟩, List.all_eq_true.1 (by kernel_rfl)⟩⟩⟩
        · replace hxv10 := iteF hbv12 hxv10
          refine aws_skip (aws_nil ?_)
          obtain rfl := Option.some.inj hxv10
          exact ⟨_, rfl, ⟨(fA (by kernel_rfl)), .inr ⟨⟨[(bx (TApiPosting.e (a0.Postings.getD iv7 default)))], rfl, lsOk (And.intro rfl (And.intro (eM_lt _ _ _ _) trivial))⟩, List.all_eq_true.1 (by kernel_rfl)⟩⟩⟩
      · subst hq
        refine gT [] [(1, (vi a1)), (5, (AV.map 1)), (14, (AV.d (eL TApiPosting.e a0.Postings))), (15, (vi (a0.Postings.length : Int))), (16, (vi (IntKind.i64.wrap ((iv7 : Int) + 1))))] (by kernel_rfl) ?_
        refine aws_nil ?_
        obtain rfl := Option.some.inj h
        exact ⟨_, rfl, ⟨(fq 0 rfl (fq 1 rfl (fq 2 rfl (fq 3 rfl (frLe_at (k := 4) rfl (LeV.of_eq (congrArg (fun n => AV.d (DV.i .i64 n)) (wrap_succ (by omega)))) frLe_nil))))), .inl rfl⟩⟩
    · refine aws_seq (gT [] [(1, (vi a1)), (5, (AV.map 1)), (14, (AV.d (eL TApiPosting.e a0.Postings))), (15, (vi (a0.Postings.length : Int))), (16, (vi ((a0.Postings.length : Nat) : Int))), (17, (vb (decide (((a0.Postings.length : Nat) : Int) < (a0.Postings.length : Int)))))] (by kernel_rfl) ?_)
      refine aws_seq (aws_cond (b := (decide (((a0.Postings.length : Nat) : Int) < (a0.Postings.length : Int)))) (by kernel_rfl) (fun hbv13 => absurd hbv13 (Bool.eq_false_iff.mp (decide_eq_false (by omega)))) (fun hbv13 => ?_))
      refine aws_exit ?_
      exact ⟨rfl, _, rfl, ⟨(fA (by kernel_rfl)), .inl rfl⟩⟩
    · subst e
      exact nomatch (show (none : Option _) = some _ from h)
    · subst e
      refine aws_seq (gT [] [(4, (AV.map 1))] (by kernel_rfl) ?_)
      refine aws_shift (H := NoH) (L' := [Ob.dead, (eM TConsolidationSpot.e (DV.i .i64) sv6)]) (shift_kill (o := 0) (by simp)) (trF_refl _) ?_
      refine aws_ret ?_
      obtain rfl := Option.some.inj h
      exact ⟨.inr rfl, ⟨_, [], [], by kernel_rfl, trivial, (LeV.refl _), rfl⟩⟩

/-! 59 -/
theorem F59_ok {r : R59} (h : F59 = some r) : CallOk Try.prog 59 [] [] (V59 r) (L59 r) := by
  refine gF Try.func59 rfl (by kernel_rfl) trivial ?_
  unfold F59 at h
  refine aws_seq (gR [] [(0, (vp 0))] [(bx (DV.arr 4 2 fun j => (DV.agg [(DV.i .i64 0), (DV.i .i64 0), (DV.i .i64 0), (DV.i .i64 0)])))] [] (by kernel_rfl) trivial ?_)
  refine aws_seq (gR [(2, { cast := some (AV.d (eA 4 2 TConsolidationMutual.e (fun j => ([(⟨1, 140, 240, 1⟩ : TConsolidationMutual), (⟨2, 440, 540, (-1)⟩ : TConsolidationMutual)] : List TConsolidationMutual).getD j default))) })] [(0, (vp 0))] [(bx (eA 4 2 TConsolidationMutual.e (fun j => ([(⟨1, 140, 240, 1⟩ : TConsolidationMutual), (⟨2, 440, 540, (-1)⟩ : TConsolidationMutual)] : List TConsolidationMutual).getD j default)))] [0 < 2, 1 < 2, LeV (AV.d (DV.arr 4 2 fun j => if j = 1 then (DV.agg [(DV.i .i64 2), (DV.i .i64 440), (DV.i .i64 540), (DV.i .i64 (-1))]) else if j = 0 then (DV.agg [(DV.i .i64 1), (DV.i .i64 140), (DV.i .i64 240), (DV.i .i64 1)]) else (DV.agg [(DV.i .i64 0), (DV.i .i64 0), (DV.i .i64 0), (DV.i .i64 0)]))) (AV.d (eA 4 2 TConsolidationMutual.e (fun j => ([(⟨1, 140, 240, 1⟩ : TConsolidationMutual), (⟨2, 440, 540, (-1)⟩ : TConsolidationMutual)] : List TConsolidationMutual).getD j default)))] (by kernel_rfl) (And.intro (by decide) (And.intro (by decide) (And.intro (leV_arr (fun | 0, _ => rfl | 1, _ => rfl | (k + 2), h => absurd h (by omega))) trivial))) ?_)
  refine aws_ret ?_
  obtain rfl := Option.some.inj h
  exact ⟨.inr rfl, ⟨_, [], [(bx (eA 4 2 TConsolidationMutual.e (fun j => ([(⟨1, 140, 240, 1⟩ : TConsolidationMutual), (⟨2, 440, 540, (-1)⟩ : TConsolidationMutual)] : List TConsolidationMutual).getD j default)))], by kernel_rfl, trivial, (LeV.refl _), rfl⟩⟩

/-! 48 -/
theorem F48_ok {a0 : TConsolidationMutual} {a1 : TApiDifference} {a2 : Int} {a3 : Int} {p1 : (List TApiDifference)} {r : R48} (h : F48 a0 a1 a2 a3 p1 = some r) : CallOk Try.prog 48 [(AV.d (TConsolidationMutual.e a0)), (AV.d (TApiDifference.e a1)), (vi a2), (vi a3), (vp 0)] [(Ob.box (AV.ref 1 p1.length 0 p1.length)), (eS 5 TApiDifference.e p1)] (V48 r) (L48 r) := by
  refine gF Try.func48 rfl (by kernel_rfl) (And.intro rfl (And.intro (fun _ _ => rfl) trivial)) ?_
  unfold F48 at h
  refine aws_seq (gR [] [(2, (vi a2)), (3, (vi a3)), (4, (vp 0)), (6, (vp 3))] [(Ob.box (AV.ref 1 p1.length 0 p1.length)), (eS 5 TApiDifference.e p1), (bx (TConsolidationMutual.e a0)), (bx (TApiDifference.e a1))] [] (by kernel_rfl) trivial ?_)
  refine aws_seq (gR [] [(4, (vp 0)), (6, (vp 3))] [(Ob.box (AV.ref 1 p1.length 0 p1.length)), (eS 5 TApiDifference.e p1), (bx (TConsolidationMutual.e a0)), (bx (DV.agg [(DV.i .i64 a1.Kind), (DV.i .i64 a1.A), (DV.i .i64 a1.B), (DV.i .i64 a1.Ref), (DV.i .i64 (IntKind.i64.wrap (a2 - a3)))]))] [] (by kernel_rfl) trivial ?_)
  refine aws_seq (gT [] [(4, (vp 0)), (6, (vp 3)), (15, (vb ((IntKind.i64.wrap (a2 - a3)) != 0)))] (by kernel_rfl) ?_)
  refine aws_cond (b := ((IntKind.i64.wrap (a2 - a3)) != 0)) (by kernel_rfl) (fun hbv1 => ?_) (fun hbv1 => ?_)
  · replace h := iteT hbv1 h
    obtain ⟨⟨hcv2, _⟩, h⟩ := guardP_some h
    refine gR [(2, { cast := some (AV.d (eL TApiDifference.e ([(⟨a1.Kind, a1.A, a1.B, a1.Ref, (IntKind.i64.wrap (a2 - a3))⟩ : TApiDifference)] : List TApiDifference))) }), (3, { cast := some (AV.ref 1 ((p1 ++ ([(⟨a1.Kind, a1.A, a1.B, a1.Ref, (IntKind.i64.wrap (a2 - a3))⟩ : TApiDifference)] : List TApiDifference)).length) 0 ((p1 ++ ([(⟨a1.Kind, a1.A, a1.B, a1.Ref, (IntKind.i64.wrap (a2 - a3))⟩ : TApiDifference)] : List TApiDifference)).length)), obs := [(1, (eS 5 TApiDifference.e (p1 ++ ([(⟨a1.Kind, a1.A, a1.B, a1.Ref, (IntKind.i64.wrap (a2 - a3))⟩ : TApiDifference)] : List TApiDifference))))] })] [] [(Ob.box (AV.ref 1 ((p1 ++ ([(⟨a1.Kind, a1.A, a1.B, a1.Ref, (IntKind.i64.wrap (a2 - a3))⟩ : TApiDifference)] : List TApiDifference)).length) 0 ((p1 ++ ([(⟨a1.Kind, a1.A, a1.B, a1.Ref, (IntKind.i64.wrap (a2 - a3))⟩ : TApiDifference)] : List TApiDifference)).length))), (eS 5 TApiDifference.e (p1 ++ ([(⟨a1.Kind, a1.A, a1.B, a1.Ref, (IntKind.i64.wrap (a2 - a3))⟩ : TApiDifference)] : List TApiDifference))), (bx (TConsolidationMutual.e a0)), (bx (DV.agg [(DV.i .i64 a1.Kind), (DV.i .i64 a1.A), (DV.i .i64 a1.B), (DV.i .i64 a1.Ref), (DV.i .i64 (IntKind.i64.wrap (a2 - a3)))]))] [LeV (AV.d (DV.sl 1 (listF (DV.b false) [(DV.agg [(DV.i .i64 a1.Kind), (DV.i .i64 a1.A), (DV.i .i64 a1.B), (DV.i .i64 a1.Ref), (DV.i .i64 (IntKind.i64.wrap (a2 - a3)))])]))) (AV.d (eL TApiDifference.e ([(⟨a1.Kind, a1.A, a1.B, a1.Ref, (IntKind.i64.wrap (a2 - a3))⟩ : TApiDifference)] : List TApiDifference))), p1.length = p1.length, p1.length = p1.length, ∀ k, k < 1 → (AV.d (TApiDifference.e (([(⟨a1.Kind, a1.A, a1.B, a1.Ref, (IntKind.i64.wrap (a2 - a3))⟩ : TApiDifference)] : List TApiDifference).getD k default))).wd = 5, (p1.length + 1) * (2 * 40) ≤ 2 ^ 48, LeV (AV.ref 1 (p1.length + 1) 0 (p1.length + 1)) (AV.ref 1 ((p1 ++ ([(⟨a1.Kind, a1.A, a1.B, a1.Ref, (IntKind.i64.wrap (a2 - a3))⟩ : TApiDifference)] : List TApiDifference)).length) 0 ((p1 ++ ([(⟨a1.Kind, a1.A, a1.B, a1.Ref, (IntKind.i64.wrap (a2 - a3))⟩ : TApiDifference)] : List TApiDifference)).length)), OLe (Ob.seq 5 (p1.length + 1) (catF p1.length (fun j => AV.d (TApiDifference.e (p1.getD j default))) (fun j => AV.d (TApiDifference.e (([(⟨a1.Kind, a1.A, a1.B, a1.Ref, (IntKind.i64.wrap (a2 - a3))⟩ : TApiDifference)] : List TApiDifference).getD j default))))) (eS 5 TApiDifference.e (p1 ++ ([(⟨a1.Kind, a1.A, a1.B, a1.Ref, (IntKind.i64.wrap (a2 - a3))⟩ : TApiDifference)] : List TApiDifference)))] (by kernel_rfl) (And.intro (leV_lit TApiDifference.e ([(⟨a1.Kind, a1.A, a1.B, a1.Ref, (IntKind.i64.wrap (a2 - a3))⟩ : TApiDifference)] : List TApiDifference)) (And.intro rfl (And.intro rfl (And.intro (fun _ _ => rfl) (And.intro hcv2 (And.intro (leV_app (o := 1) (l := p1) (x := ([(⟨a1.Kind, a1.A, a1.B, a1.Ref, (IntKind.i64.wrap (a2 - a3))⟩ : TApiDifference)] : List TApiDifference))) (And.intro (oLe_app (e := TApiDifference.e) (l := p1) (x := ([(⟨a1.Kind, a1.A, a1.B, a1.Ref, (IntKind.i64.wrap (a2 - a3))⟩ : TApiDifference)] : List TApiDifference))) trivial))))))) ?_
    refine aws_nil ?_
    obtain rfl := Option.some.inj h
    exact ⟨.inl rfl, ⟨_, [], [(bx (TConsolidationMutual.e a0)), (bx (DV.agg [(DV.i .i64 a1.Kind), (DV.i .i64 a1.A), (DV.i .i64 a1.B), (DV.i .i64 a1.Ref), (DV.i .i64 (IntKind.i64.wrap (a2 - a3)))]))], by kernel_rfl, trivial, (LeV.refl _), rfl⟩⟩
  · replace h := iteF hbv1 h
    refine aws_skip (aws_nil ?_)
    obtain rfl := Option.some.inj h
    exact ⟨.inl rfl, ⟨_, [], [(bx (TConsolidationMutual.e a0)), (bx (DV.agg [(DV.i .i64 a1.Kind), (DV.i .i64 a1.A), (DV.i .i64 a1.B), (DV.i .i64 a1.Ref), (DV.i .i64 (IntKind.i64.wrap (a2 - a3)))]))], by kernel_rfl, trivial, (LeV.refl _), rfl⟩⟩

/-! 40 -/
theorem F40_48_ok {a0 : TApiLedger} {a1 : (List Int)} {a2 : Int} {p1 : (List TApiDifference)} {r : R40_48} (h : F40_48 a0 a1 a2 p1 = some r) : CallOk Try.prog 40 [(AV.d (TApiLedger.e a0)), (vl a1), (vi a2), (AV.fn 48 [(vp 0)])] [(Ob.box (AV.ref 1 p1.length 0 p1.length)), (eS 5 TApiDifference.e p1)] (V40_48 r) (L40_48 r) := by
  refine gF Try.func40 rfl (by kernel_rfl) (And.intro rfl (And.intro (fun _ _ => rfl) trivial)) ?_
  unfold F40_48 at h
  refine aws_seq (gR [] [(1, (vl a1)), (2, (vi a2)), (3, (AV.fn 48 [(vp 0)])), (4, (vp 2))] [(Ob.box (AV.ref 1 p1.length 0 p1.length)), (eS 5 TApiDifference.e p1), (bx (TApiLedger.e a0))] [] (by kernel_rfl) trivial ?_)
  refine aws_seq ?_
  obtain ⟨rv1, hrv2, h⟩ := bind_some' h
  obtain ⟨rv3, hrv4, h⟩ := bind_some' h
  refine gD ⟨[[], [0], [], [], [3, 2, 1, 0], [4, 3, 2, 1, 0], [5, 4, 3, 2, 1, 0]], [4]⟩ [(1, { h := .callq (vl rv1) }), (4, { h := .callw (AV.map 4) [] [Ob.dead, (eM TConsolidationSpot.e (DV.i .i64) rv3)] })] [(1, (vl a1)), (3, (AV.fn 48 [(vp 0)])), (8, (vl rv1)), (9, (AV.map 4))] [(Ob.box (AV.ref 1 p1.length 0 p1.length)), (eS 5 TApiDifference.e p1), (bx (TApiLedger.e a0)), Ob.dead, (eM TConsolidationSpot.e (DV.i .i64) rv3)] [_, CallOk Try.prog 55 [(AV.d (TApiLedger.e a0)), (vi a2)] [(Ob.box (AV.ref 1 p1.length 0 p1.length)), (eS 5 TApiDifference.e p1), (bx (TApiLedger.e a0))] (AV.map 4) [(Ob.box (AV.ref 1 p1.length 0 p1.length)), (eS 5 TApiDifference.e p1), (bx (TApiLedger.e a0)), Ob.dead, (eM TConsolidationSpot.e (DV.i .i64) rv3)]] (by kernel_rfl) (by kernel_rfl) (by kernel_rfl) (And.intro ((F58_ok hrv2).pu (fun _ => rfl) (fun _ => rfl)) (And.intro ((F55_ok hrv4).ca [] (by kernel_rfl)) trivial)) ?_
  refine aws_seq ?_
  obtain ⟨rv5, hrv6, h⟩ := bind_some' h
  refine gS [(0, { h := .callq (AV.d (eA 4 2 TConsolidationMutual.e rv5)) })] [(1, (vl a1)), (3, (AV.fn 48 [(vp 0)])), (8, (vl rv1)), (9, (AV.map 4)), (23, (AV.d (eA 4 2 TConsolidationMutual.e rv5))), (24, (vi 0))] [_] (by kernel_rfl) (And.intro ((F59_ok hrv6).pu (fun _ => rfl) (fun _ => rfl)) trivial) ?_
  obtain ⟨ov7, hxv8, h⟩ := outM_some h
  have hn : 2 < 2 ^ 63 := by decide
  refine aws_loop (E := (fun (_ : (List TApiDifference)) => [])) (LE := (fun (sv9 : (List TApiDifference)) => [(Ob.box (AV.ref 1 sv9.length 0 sv9.length)), (eS 5 TApiDifference.e sv9), (bx (TApiLedger.e a0)), Ob.dead, (eM TConsolidationSpot.e (DV.i .i64) rv3)])) (R := (fun x => FR Try.prog Try.f40 (V40_48 x) (L40_48 x))) (aw_range (n := 2) (m := 5) (I := (fun (iv10 : Nat) (_ : (List TApiDifference)) => [(1, (vl a1)), (3, (AV.fn 48 [(vp 0)])), (8, (vl rv1)), (9, (AV.map 4)), (23, (AV.d (eA 4 2 TConsolidationMutual.e rv5))), (24, (vi (iv10 : Int)))])) (LI := (fun (_ : Nat) => (fun (sv9 : (List TApiDifference)) => [(Ob.box (AV.ref 1 sv9.length 0 sv9.length)), (eS 5 TApiDifference.e sv9), (bx (TApiLedger.e a0)), Ob.dead, (eM TConsolidationSpot.e (DV.i .i64) rv3)]))) (body := F40_48_b4 a1 rv1 rv3 rv5) (fun iv10 sv9 _ hi h => aw_of ?_) (fun _ => aw_of ?_) (fun _ _ => rfl) (Nat.zero_add _) hxv8 ⟨(fA (by kernel_rfl)), .inl rfl⟩ (Nat.le_of_ble_eq_true (by kernel_rfl))) (fun _ => Nat.le_of_ble_eq_true (by kernel_rfl)) (fun x fr L e hr => ?_) (fun _ e => ?_)
  · unfold F40_48_b4 at h
    refine aws_seq (gT [] [(1, (vl a1)), (3, (AV.fn 48 [(vp 0)])), (8, (vl rv1)), (9, (AV.map 4)), (23, (AV.d (eA 4 2 TConsolidationMutual.e rv5))), (24, (vi (iv10 : Int))), (25, (vb (decide ((iv10 : Int) < 2))))] (by kernel_rfl) ?_)
    refine aws_seq (aws_cond (b := (decide ((iv10 : Int) < 2))) (by kernel_rfl) (fun hbv11 => ?_) (fun hbv11 => absurd (hbv11.symm.trans (decide_eq_true (by omega))) Bool.false_ne_true))
    refine aws_skip (aws_seq ?_)
    obtain ⟨ov12, hxv13, h⟩ := bind_some' h
    refine aws_blockS (E := (fun (_ : (List TApiDifference)) => [(1, (vl a1)), (3, (AV.fn 48 [(vp 0)])), (8, (vl rv1)), (9, (AV.map 4)), (23, (AV.d (eA 4 2 TConsolidationMutual.e rv5))), (24, (vi (iv10 : Int)))])) (LE := (fun (sv14 : (List TApiDifference)) => [(Ob.box (AV.ref 1 sv14.length 0 sv14.length)), (eS 5 TApiDifference.e sv14), (bx (TApiLedger.e a0)), Ob.dead, (eM TConsolidationSpot.e (DV.i .i64) rv3)])) (fun s => s = ov12) ?_ (fun _ => Nat.le_of_ble_eq_true (by kernel_rfl)) (fun _ hq => ?_)
    · refine aws_seq (gR [] [(1, (vl a1)), (3, (AV.fn 48 [(vp 0)])), (8, (vl rv1)), (9, (AV.map 4)), (11, (vp 5)), (23, (AV.d (eA 4 2 TConsolidationMutual.e rv5))), (24, (vi (iv10 : Int)))] [(Ob.box (AV.ref 1 sv9.length 0 sv9.length)), (eS 5 TApiDifference.e sv9), (bx (TApiLedger.e a0)), Ob.dead, (eM TConsolidationSpot.e (DV.i .i64) rv3), (bx (TConsolidationMutual.e (rv5 iv10)))] [(0 : Int) ≤ (iv10 : Int), iv10 < 2] (by kernel_rfl) (And.intro (Int.natCast_nonneg _) (And.intro hi trivial)) ?_)
      refine aws_seq (gT [] [(1, (vl a1)), (3, (AV.fn 48 [(vp 0)])), (8, (vl rv1)), (9, (AV.map 4)), (11, (vp 5)), (23, (AV.d (eA 4 2 TConsolidationMutual.e rv5))), (24, (vi (iv10 : Int))), (27, (vl a1)), (28, (vi (a1.length : Int))), (29, (vi 0))] (by kernel_rfl) ?_)
      obtain ⟨ov15, hxv16, hxv13⟩ := outM_some hxv13
      refine aws_lenL (k := 0) (t := 1) (e := (DV.i .i64)) (l := a1) rfl (by simp) (fun hn => ?_)
      refine aws_loop (E := (fun (_ : (List TApiDifference)) => [(1, (vl a1)), (3, (AV.fn 48 [(vp 0)])), (8, (vl rv1)), (9, (AV.map 4)), (23, (AV.d (eA 4 2 TConsolidationMutual.e rv5))), (24, (vi (iv10 : Int)))])) (LE := (fun (sv17 : (List TApiDifference)) => [(Ob.box (AV.ref 1 sv17.length 0 sv17.length)), (eS 5 TApiDifference.e sv17), (bx (TApiLedger.e a0)), Ob.dead, (eM TConsolidationSpot.e (DV.i .i64) rv3), (bx (TConsolidationMutual.e (rv5 iv10)))])) (R := (fun x => FR Try.prog Try.f40 (V40_48 x) (L40_48 x))) (aw_range (n := a1.length) (m := 6) (I := (fun (iv18 : Nat) (_ : (List TApiDifference)) => [(1, (vl a1)), (3, (AV.fn 48 [(vp 0)])), (8, (vl rv1)), (9, (AV.map 4)), (11, (vp 5)), (23, (AV.d (eA 4 2 TConsolidationMutual.e rv5))), (24, (vi (iv10 : Int))), (27, (vl a1)), (28, (vi (a1.length : Int))), (29, (vi (iv18 : Int)))])) (LI := (fun (_ : Nat) => (fun (sv17 : (List TApiDifference)) => [(Ob.box (AV.ref 1 sv17.length 0 sv17.length)), (eS 5 TApiDifference.e sv17), (bx (TApiLedger.e a0)), Ob.dead, (eM TConsolidationSpot.e (DV.i .i64) rv3), (bx (TConsolidationMutual.e (rv5 iv10)))]))) (body := F40_48_b3 a1 rv1 rv3 rv5 iv10) (fun iv18 _ _ hi h => aw_of ?_) (fun _ => aw_of ?_) (fun _ _ => rfl) (Nat.zero_add _) hxv16 ⟨(fA (by kernel_rfl)), .inl rfl⟩ (Nat.le_of_ble_eq_true (by kernel_rfl))) (fun _ => Nat.le_of_ble_eq_true (by kernel_rfl)) (fun x fr L e hr => ?_) (fun _ e => ?_)
      · unfold F40_48_b3 at h
        refine aws_seq (gT [] [(1, (vl a1)), (3, (AV.fn 48 [(vp 0)])), (8, (vl rv1)), (9, (AV.map 4)), (11, (vp 5)), (23, (AV.d (eA 4 2 TConsolidationMutual.e rv5))), (24, (vi (iv10 : Int))), (27, (vl a1)), (28, (vi (a1.length : Int))), (29, (vi (iv18 : Int))), (30, (vb (decide ((iv18 : Int) < (a1.length : Int)))))] (by kernel_rfl) ?_)
        refine aws_seq (aws_cond (b := (decide ((iv18 : Int) < (a1.length : Int)))) (by kernel_rfl) (fun hbv19 => ?_) (fun hbv19 => absurd (hbv19.symm.trans (decide_eq_true (by omega))) Bool.false_ne_true))
        refine aws_skip (aws_seq ?_)
        obtain ⟨ov20, hxv21, h⟩ := bind_some' h
        refine aws_blockS (E := (fun (_ : (List TApiDifference)) => [(1, (vl a1)), (3, (AV.fn 48 [(vp 0)])), (8, (vl rv1)), (9, (AV.map 4)), (11, (vp 5)), (23, (AV.d (eA 4 2 TConsolidationMutual.e rv5))), (24, (vi (iv10 : Int))), (27, (vl a1)), (28, (vi (a1.length : Int))), (29, (vi (iv18 : Int)))])) (LE := (fun (sv22 : (List TApiDifference)) => [(Ob.box (AV.ref 1 sv22.length 0 sv22.length)), (eS 5 TApiDifference.e sv22), (bx (TApiLedger.e a0)), Ob.dead, (eM TConsolidationSpot.e (DV.i .i64) rv3), (bx (TConsolidationMutual.e (rv5 iv10)))])) (fun s => s = ov20) ?_ (fun _ => Nat.le_of_ble_eq_true (by kernel_rfl)) (fun _ hq => ?_)
        · refine aws_seq (gS [] [(1, (vl a1)), (3, (AV.fn 48 [(vp 0)])), (8, (vl rv1)), (9, (AV.map 4)), (11, (vp 5)), (13, (vi (a1.getD iv18 default))), (23, (AV.d (eA 4 2 TConsolidationMutual.e rv5))), (24, (vi (iv10 : Int))), (27, (vl a1)), (28, (vi (a1.length : Int))), (29, (vi (iv18 : Int)))] [(0 : Int) ≤ (iv18 : Int), iv18 < a1.length] (by kernel_rfl) (And.intro (Int.natCast_nonneg _) (And.intro hi trivial)) ?_)
          refine aws_seq (gT [] [(1, (vl a1)), (3, (AV.fn 48 [(vp 0)])), (8, (vl rv1)), (9, (AV.map 4)), (11, (vp 5)), (13, (vi (a1.getD iv18 default))), (23, (AV.d (eA 4 2 TConsolidationMutual.e rv5))), (24, (vi (iv10 : Int))), (27, (vl a1)), (28, (vi (a1.length : Int))), (29, (vi (iv18 : Int))), (33, (vl a1)), (34, (vi (a1.length : Int))), (35, (vi 0))] (by kernel_rfl) ?_)
          obtain ⟨ov23, hxv24, hxv21⟩ := outM_some hxv21
          refine aws_lenL (k := 0) (t := 1) (e := (DV.i .i64)) (l := a1) rfl (by simp) (fun hn => ?_)
          refine aws_loop (E := (fun (_ : (List TApiDifference)) => [(1, (vl a1)), (3, (AV.fn 48 [(vp 0)])), (8, (vl rv1)), (9, (AV.map 4)), (11, (vp 5)), (23, (AV.d (eA 4 2 TConsolidationMutual.e rv5))), (24, (vi (iv10 : Int))), (27, (vl a1)), (28, (vi (a1.length : Int))), (29, (vi (iv18 : Int)))])) (LE := (fun (sv25 : (List TApiDifference)) => [(Ob.box (AV.ref 1 sv25.length 0 sv25.length)), (eS 5 TApiDifference.e sv25), (bx (TApiLedger.e a0)), Ob.dead, (eM TConsolidationSpot.e (DV.i .i64) rv3), (bx (TConsolidationMutual.e (rv5 iv10)))])) (R := (fun x => FR Try.prog Try.f40 (V40_48 x) (L40_48 x))) (aw_range (n := a1.length) (m := 6) (I := (fun (iv26 : Nat) (_ : (List TApiDifference)) => [(1, (vl a1)), (3, (AV.fn 48 [(vp 0)])), (8, (vl rv1)), (9, (AV.map 4)), (11, (vp 5)), (13, (vi (a1.getD iv18 default))), (23, (AV.d (eA 4 2 TConsolidationMutual.e rv5))), (24, (vi (iv10 : Int))), (27, (vl a1)), (28, (vi (a1.length : Int))), (29, (vi (iv18 : Int))), (33, (vl a1)), (34, (vi (a1.length : Int))), (35, (vi (iv26 : Int)))])) (LI := (fun (_ : Nat) => (fun (sv25 : (List TApiDifference)) => [(Ob.box (AV.ref 1 sv25.length 0 sv25.length)), (eS 5 TApiDifference.e sv25), (bx (TApiLedger.e a0)), Ob.dead, (eM TConsolidationSpot.e (DV.i .i64) rv3), (bx (TConsolidationMutual.e (rv5 iv10)))]))) (body := F40_48_b2 a1 rv1 rv3 rv5 iv10 iv18) (fun iv26 _ _ hi h => aw_of ?_) (fun _ => aw_of ?_) (fun _ _ => rfl) (Nat.zero_add _) hxv24 ⟨(fA (by kernel_rfl)), .inl rfl⟩ (Nat.le_of_ble_eq_true (by kernel_rfl))) (fun _ => Nat.le_of_ble_eq_true (by kernel_rfl)) (fun x fr L e hr => ?_) (fun _ e => ?_)
          · unfold F40_48_b2 at h
            refine aws_seq (gT [] [(1, (vl a1)), (3, (AV.fn 48 [(vp 0)])), (8, (vl rv1)), (9, (AV.map 4)), (11, (vp 5)), (13, (vi (a1.getD iv18 default))), (23, (AV.d (eA 4 2 TConsolidationMutual.e rv5))), (24, (vi (iv10 : Int))), (27, (vl a1)), (28, (vi (a1.length : Int))), (29, (vi (iv18 : Int))), (33, (vl a1)), (34, (vi (a1.length : Int))), (35, (vi (iv26 : Int))), (36, (vb (decide ((iv26 : Int) < (a1.length : Int)))))] (by kernel_rfl) ?_)
            refine aws_seq (aws_cond (b := (decide ((iv26 : Int) < (a1.length : Int)))) (by kernel_rfl) (fun hbv27 => ?_) (fun hbv27 => absurd (hbv27.symm.trans (decide_eq_true (by omega))) Bool.false_ne_true))
            refine aws_skip (aws_seq ?_)
            obtain ⟨ov28, hxv29, h⟩ := bind_some' h
            refine aws_blockS (E := (fun (_ : (List TApiDifference)) => [(1, (vl a1)), (3, (AV.fn 48 [(vp 0)])), (8, (vl rv1)), (9, (AV.map 4)), (11, (vp 5)), (13, (vi (a1.getD iv18 default))), (23, (AV.d (eA 4 2 TConsolidationMutual.e rv5))), (24, (vi (iv10 : Int))), (27, (vl a1)), (28, (vi (a1.length : Int))), (29, (vi (iv18 : Int))), (33, (vl a1)), (34, (vi (a1.length : Int))), (35, (vi (iv26 : Int)))])) (LE := (fun (sv30 : (List TApiDifference)) => [(Ob.box (AV.ref 1 sv30.length 0 sv30.length)), (eS 5 TApiDifference.e sv30), (bx (TApiLedger.e a0)), Ob.dead, (eM TConsolidationSpot.e (DV.i .i64) rv3), (bx (TConsolidationMutual.e (rv5 iv10)))])) (fun s => s = ov28) ?_ (fun _ => Nat.le_of_ble_eq_true (by kernel_rfl)) (fun _ hq => ?_)
            · refine aws_seq (gS [] [(1, (vl a1)), (3, (AV.fn 48 [(vp 0)])), (8, (vl rv1)), (9, (AV.map 4)), (11, (vp 5)), (13, (vi (a1.getD iv18 default))), (15, (vi (a1.getD iv26 default))), (23, (AV.d (eA 4 2 TConsolidationMutual.e rv5))), (24, (vi (iv10 : Int))), (27, (vl a1)), (28, (vi (a1.length : Int))), (29, (vi (iv18 : Int))), (33, (vl a1)), (34, (vi (a1.length : Int))), (35, (vi (iv26 : Int)))] [(0 : Int) ≤ (iv26 : Int), iv26 < a1.length] (by kernel_rfl) (And.intro (Int.natCast_nonneg _) (And.intro hi trivial)) ?_)
              refine aws_seq (aws_seq (gT [] [(1, (vl a1)), (3, (AV.fn 48 [(vp 0)])), (8, (vl rv1)), (9, (AV.map 4)), (11, (vp 5)), (13, (vi (a1.getD iv18 default))), (15, (vi (a1.getD iv26 default))), (23, (AV.d (eA 4 2 TConsolidationMutual.e rv5))), (24, (vi (iv10 : Int))), (27, (vl a1)), (28, (vi (a1.length : Int))), (29, (vi (iv18 : Int))), (33, (vl a1)), (34, (vi (a1.length : Int))), (35, (vi (iv26 : Int))), (41, (vb ((a1.getD iv18 default) == (a1.getD iv26 default))))] (by kernel_rfl) ?_))
              refine aws_cond (b := ((a1.getD iv18 default) == (a1.getD iv26 default))) (by kernel_rfl) (fun hbv31 => ?_) (fun hbv31 => ?_)
              · replace hxv29 := iteT hbv31 hxv29
                refine aws_exit ?_
                simp only [if_true]
                obtain rfl := Option.some.inj hxv29
                exact ⟨_, rfl, ⟨(fA (by kernel_rfl)), .inl rfl⟩⟩
              · replace hxv29 := iteF hbv31 hxv29
                refine aws_skip (aws_seq (gT [] [(1, (vl a1)), (3, (AV.fn 48 [(vp 0)])), (8, (vl rv1)), (9, (AV.map 4)), (11, (vp 5)), (13, (vi (a1.getD iv18 default))), (15, (vi (a1.getD iv26 default))), (23, (AV.d (eA 4 2 TConsolidationMutual.e rv5))), (24, (vi (iv10 : Int))), (27, (vl a1)), (28, (vi (a1.length : Int))), (29, (vi (iv18 : Int))), (33, (vl a1)), (34, (vi (a1.length : Int))), (35, (vi (iv26 : Int))), (42, (vl rv1)), (43, (vi (rv1.length : Int))), (44, (vi 0))] (by kernel_rfl) ?_))
                obtain ⟨ov32, hxv33, hxv29⟩ := outM_some hxv29
                refine aws_lenL (k := 2) (t := 8) (e := (DV.i .i64)) (l := rv1) rfl (by simp) (fun hn => ?_)
                refine aws_loop (E := (fun (_ : (List TApiDifference)) => [(1, (vl a1)), (3, (AV.fn 48 [(vp 0)])), (8, (vl rv1)), (9, (AV.map 4)), (11, (vp 5)), (13, (vi (a1.getD iv18 default))), (23, (AV.d (eA 4 2 TConsolidationMutual.e rv5))), (24, (vi (iv10 : Int))), (27, (vl a1)), (28, (vi (a1.length : Int))), (29, (vi (iv18 : Int))), (33, (vl a1)), (34, (vi (a1.length : Int))), (35, (vi (iv26 : Int)))])) (LE := (fun (sv34 : (List TApiDifference)) => [(Ob.box (AV.ref 1 sv34.length 0 sv34.length)), (eS 5 TApiDifference.e sv34), (bx (TApiLedger.e a0)), Ob.dead, (eM TConsolidationSpot.e (DV.i .i64) rv3), (bx (TConsolidationMutual.e (rv5 iv10)))])) (R := (fun x => FR Try.prog Try.f40 (V40_48 x) (L40_48 x))) (aw_range (n := rv1.length) (m := 6) (I := (fun (iv35 : Nat) (_ : (List TApiDifference)) => [(1, (vl a1)), (3, (AV.fn 48 [(vp 0)])), (8, (vl rv1)), (9, (AV.map 4)), (11, (vp 5)), (13, (vi (a1.getD iv18 default))), (15, (vi (a1.getD iv26 default))), (23, (AV.d (eA 4 2 TConsolidationMutual.e rv5))), (24, (vi (iv10 : Int))), (27, (vl a1)), (28, (vi (a1.length : Int))), (29, (vi (iv18 : Int))), (33, (vl a1)), (34, (vi (a1.length : Int))), (35, (vi (iv26 : Int))), (42, (vl rv1)), (43, (vi (rv1.length : Int))), (44, (vi (iv35 : Int)))])) (LI := (fun (_ : Nat) => (fun (sv34 : (List TApiDifference)) => [(Ob.box (AV.ref 1 sv34.length 0 sv34.length)), (eS 5 TApiDifference.e sv34), (bx (TApiLedger.e a0)), Ob.dead, (eM TConsolidationSpot.e (DV.i .i64) rv3), (bx (TConsolidationMutual.e (rv5 iv10)))]))) (body := F40_48_b1 a1 rv1 rv3 rv5 iv10 iv18 iv26) (fun iv35 sv34 _ hi h => aw_of ?_) (fun _ => aw_of ?_) (fun _ _ => rfl) (Nat.zero_add _) hxv33 ⟨(fA (by kernel_rfl)), .inl rfl⟩ (Nat.le_of_ble_eq_true (by kernel_rfl))) (fun _ => Nat.le_of_ble_eq_true (by kernel_rfl)) (fun x fr L e hr => ?_) (fun _ e => ?_)
                · unfold F40_48_b1 at h
                  refine aws_seq (gT [] [(1, (vl a1)), (3, (AV.fn 48 [(vp 0)])), (8, (vl rv1)), (9, (AV.map 4)), (11, (vp 5)), (13, (vi (a1.getD iv18 default))), (15, (vi (a1.getD iv26 default))), (23, (AV.d (eA 4 2 TConsolidationMutual.e rv5))), (24, (vi (iv10 : Int))), (27, (vl a1)), (28, (vi (a1.length : Int))), (29, (vi (iv18 : Int))), (33, (vl a1)), (34, (vi (a1.length : Int))), (35, (vi (iv26 : Int))), (42, (vl rv1)), (43, (vi (rv1.length : Int))), (44, (vi (iv35 : Int))), (45, (vb (decide ((iv35 : Int) < (rv1.length : Int)))))] (by kernel_rfl) ?_)
                  refine aws_seq (aws_cond (b := (decide ((iv35 : Int) < (rv1.length : Int)))) (by kernel_rfl) (fun hbv36 => ?_) (fun hbv36 => absurd (hbv36.symm.trans (decide_eq_true (by omega))) Bool.false_ne_true))
                  refine aws_skip (aws_seq ?_)
                  obtain ⟨ov37, hxv38, h⟩ := bind_some' h
                  refine aws_blockS (E := (fun (_ : (List TApiDifference)) => [(1, (vl a1)), (3, (AV.fn 48 [(vp 0)])), (8, (vl rv1)), (9, (AV.map 4)), (11, (vp 5)), (13, (vi (a1.getD iv18 default))), (15, (vi (a1.getD iv26 default))), (23, (AV.d (eA 4 2 TConsolidationMutual.e rv5))), (24, (vi (iv10 : Int))), (27, (vl a1)), (28, (vi (a1.length : Int))), (29, (vi (iv18 : Int))), (33, (vl a1)), (34, (vi (a1.length : Int))), (35, (vi (iv26 : Int))), (42, (vl rv1)), (43, (vi (rv1.length : Int))), (44, (vi (iv35 : Int)))])) (LE := (fun (sv39 : (List TApiDifference)) => [(Ob.box (AV.ref 1 sv39.length 0 sv39.length)), (eS 5 TApiDifference.e sv39), (bx (TApiLedger.e a0)), Ob.dead, (eM TConsolidationSpot.e (DV.i .i64) rv3), (bx (TConsolidationMutual.e (rv5 iv10)))])) (fun s => s = ov37) ?_ (fun _ => Nat.le_of_ble_eq_true (by kernel_rfl)) (fun _ hq => ?_)
                  · refine aws_seq (gS [] [(1, (vl a1)), (3, (AV.fn 48 [(vp 0)])), (8, (vl rv1)), (9, (AV.map 4)), (11, (vp 5)), (13, (vi (a1.getD iv18 default))), (15, (vi (a1.getD iv26 default))), (17, (vi (rv1.getD iv35 default))), (23, (AV.d (eA 4 2 TConsolidationMutual.e rv5))), (24, (vi (iv10 : Int))), (27, (vl a1)), (28, (vi (a1.length : Int))), (29, (vi (iv18 : Int))), (33, (vl a1)), (34, (vi (a1.length : Int))), (35, (vi (iv26 : Int))), (42, (vl rv1)), (43, (vi (rv1.length : Int))), (44, (vi (iv35 : Int)))] [(0 : Int) ≤ (iv35 : Int), iv35 < rv1.length] (by kernel_rfl) (And.intro (Int.natCast_nonneg _) (And.intro hi trivial)) ?_)
                    obtain ⟨rv40, hrv41, hxv38⟩ := bind_some' hxv38
                    refine gD ⟨[[], [], [], [2], [], [], [], [6, 5, 4, 3, 2], [], [8], [], [], [11], [], [], [], [15, 14, 13, 12, 11], [16, 15, 14, 13, 12, 11, 10], [17, 16, 15, 14, 13, 12, 11, 10, 9, 8], [], [19], [20, 19], [], [], [23], [], [], [], [27, 26, 25, 24, 23], [28, 27, 26, 25, 24, 23, 22], [29, 28, 27, 26, 25, 24, 23, 22, 21, 20, 19], [30, 29, 28, 27, 26, 25, 24, 23, 22, 21, 20, 19, 18, 17, 16, 15, 14, 13, 12, 11, 10, 9, 8, 7, 6, 5, 4, 3, 2, 1, 0]], [31]⟩ [(17, { h := .callr (vi (mget rv3 (⟨(rv5 iv10).first, (a1.getD iv18 default), (a1.getD iv26 default), (rv1.getD iv35 default)⟩ : TConsolidationSpot) 0)) }), (29, { h := .callr (vi (mget rv3 (⟨(rv5 iv10).second, (a1.getD iv26 default), (a1.getD iv18 default), (rv1.getD iv35 default)⟩ : TConsolidationSpot) 0)) }), (31, { h := .callw (AV.tup []) [(0, (Ob.box (AV.ref 1 rv40.length 0 rv40.length))), (1, (eS 5 TApiDifference.e rv40))] [] })] [(1, (vl a1)), (3, (AV.fn 48 [(vp 0)])), (8, (vl rv1)), (9, (AV.map 4)), (11, (vp 5)), (13, (vi (a1.getD iv18 default))), (15, (vi (a1.getD iv26 default))), (23, (AV.d (eA 4 2 TConsolidationMutual.e rv5))), (24, (vi (iv10 : Int))), (27, (vl a1)), (28, (vi (a1.length : Int))), (29, (vi (iv18 : Int))), (33, (vl a1)), (34, (vi (a1.length : Int))), (35, (vi (iv26 : Int))), (42, (vl rv1)), (43, (vi (rv1.length : Int))), (44, (vi (iv35 : Int)))] [(Ob.box (AV.ref 1 rv40.length 0 rv40.length)), (eS 5 TApiDifference.e rv40), (bx (TApiLedger.e a0)), Ob.dead, (eM TConsolidationSpot.e (DV.i .i64) rv3), (bx (TConsolidationMutual.e (rv5 iv10)))] [LookOk Try.prog [(Ob.box (AV.ref 1 sv34.length 0 sv34.length)), (eS 5 TApiDifference.e sv34), (bx (TApiLedger.e a0)), Ob.dead, (eM TConsolidationSpot.e (DV.i .i64) rv3), (bx (TConsolidationMutual.e (rv5 iv10)))] 89 (AV.map 4) (AV.d (TConsolidationSpot.e (⟨(rv5 iv10).first, (a1.getD iv18 default), (a1.getD iv26 default), (rv1.getD iv35 default)⟩ : TConsolidationSpot))) false (vi (mget rv3 (⟨(rv5 iv10).first, (a1.getD iv18 default), (a1.getD iv26 default), (rv1.getD iv35 default)⟩ : TConsolidationSpot) 0)), LookOk Try.prog [(Ob.box (AV.ref 1 sv34.length 0 sv34.length)), (eS 5 TApiDifference.e sv34), (bx (TApiLedger.e a0)), Ob.dead, (eM TConsolidationSpot.e (DV.i .i64) rv3), (bx (TConsolidationMutual.e (rv5 iv10)))] 89 (AV.map 4) (AV.d (TConsolidationSpot.e (⟨(rv5 iv10).second, (a1.getD iv26 default), (a1.getD iv18 default), (rv1.getD iv35 default)⟩ : TConsolidationSpot))) false (vi (mget rv3 (⟨(rv5 iv10).second, (a1.getD iv26 default), (a1.getD iv18 default), (rv1.getD iv35 default)⟩ : TConsolidationSpot) 0)), CallOk Try.prog 48 [(AV.d (TConsolidationMutual.e (rv5 iv10))), (AV.d (DV.agg [(DV.i .i64 ((rv5 iv10).kind)), (DV.i .i64 (a1.getD iv18 default)), (DV.i .i64 (a1.getD iv26 default)), (DV.i .i64 (rv1.getD iv35 default)), (DV.i .i64 0)])), (vi (IntKind.i64.wrap (((rv5 iv10).sign) * (mget rv3 (⟨(rv5 iv10).first, (a1.getD iv18 default), (a1.getD iv26 default), (rv1.getD iv35 default)⟩ : TConsolidationSpot) 0)))), (vi (IntKind.i64.wrap ((IntKind.i64.wrap (0 - ((rv5 iv10).sign))) * (mget rv3 (⟨(rv5 iv10).second, (a1.getD iv26 default), (a1.getD iv18 default), (rv1.getD iv35 default)⟩ : TConsolidationSpot) 0)))), (vp 0)] [(Ob.box (AV.ref 1 sv34.length 0 sv34.length)), (eS 5 TApiDifference.e sv34), (bx (TApiLedger.e a0)), Ob.dead, (eM TConsolidationSpot.e (DV.i .i64) rv3), (bx (TConsolidationMutual.e (rv5 iv10)))] (AV.tup []) [(Ob.box (AV.ref 1 rv40.length 0 rv40.length)), (eS 5 TApiDifference.e rv40), (bx (TApiLedger.e a0)), Ob.dead, (eM TConsolidationSpot.e (DV.i .i64) rv3), (bx (TConsolidationMutual.e (rv5 iv10)))]] (by kernel_rfl) (by kernel_rfl) (by kernel_rfl) (And.intro (look_ok (kt := 92) (et := 3) (eK := TConsolidationSpot.e) (eV := (DV.i .i64)) (l := rv3) (k := (⟨(rv5 iv10).first, (a1.getD iv18 default), (a1.getD iv26 default), (rv1.getD iv35 default)⟩ : TConsolidationSpot)) (z := 0) (by kernel_rfl) rfl keyEq92 (by kernel_rfl)) (And.intro (look_ok (kt := 92) (et := 3) (eK := TConsolidationSpot.e) (eV := (DV.i .i64)) (l := rv3) (k := (⟨(rv5 iv10).second, (a1.getD iv26 default), (a1.getD iv18 default), (rv1.getD iv35 default)⟩ : TConsolidationSpot)) (z := 0) (by kernel_rfl) rfl keyEq92 (by kernel_rfl)) (And.intro ((F48_ok hrv41).ca [0, 1] (by kernel_rfl)) trivial))) ?_
                    refine aws_nil ?_
                    obtain rfl := Option.some.inj hxv38
                    exact ⟨_, rfl, ⟨(fA (by kernel_rfl)), .inl rfl⟩⟩
                  · subst hq
                    refine gT [] [(1, (vl a1)), (3, (AV.fn 48 [(vp 0)])), (8, (vl rv1)), (9, (AV.map 4)), (11, (vp 5)), (13, (vi (a1.getD iv18 default))), (15, (vi (a1.getD iv26 default))), (23, (AV.d (eA 4 2 TConsolidationMutual.e rv5))), (24, (vi (iv10 : Int))), (27, (vl a1)), (28, (vi (a1.length : Int))), (29, (vi (iv18 : Int))), (33, (vl a1)), (34, (vi (a1.length : Int))), (35, (vi (iv26 : Int))), (42, (vl rv1)), (43, (vi (rv1.length : Int))), (44, (vi (IntKind.i64.wrap ((iv35 : Int) + 1))))] (by kernel_rfl) ?_
                    refine aws_nil ?_
                    obtain rfl := Option.some.inj h
                    exact ⟨_, rfl, ⟨(fq 0 rfl (fq 1 rfl (fq 2 rfl (fq 3 rfl (fq 4 rfl (fq 5 rfl (fq 6 rfl (fq 7 rfl (fq 8 rfl (fq 9 rfl (fq 10 rfl (fq 11 rfl (fq 12 rfl (fq 13 rfl (fq 14 rfl (fq 15 rfl (fq 16 rfl (frLe_at (k := 17) rfl (LeV.of_eq (congrArg (fun n => AV.d (DV.i .i64 n)) (wrap_succ (by omega)))) frLe_nil)))))))))))))))))), .inl rfl⟩⟩
                · refine aws_seq (gT [] [(1, (vl a1)), (3, (AV.fn 48 [(vp 0)])), (8, (vl rv1)), (9, (AV.map 4)), (11, (vp 5)), (13, (vi (a1.getD iv18 default))), (15, (vi (a1.getD iv26 default))), (23, (AV.d (eA 4 2 TConsolidationMutual.e rv5))), (24, (vi (iv10 : Int))), (27, (vl a1)), (28, (vi (a1.length : Int))), (29, (vi (iv18 : Int))), (33, (vl a1)), (34, (vi (a1.length : Int))), (35, (vi (iv26 : Int))), (42, (vl rv1)), (43, (vi (rv1.length : Int))), (44, (vi ((rv1.length : Nat) : Int))), (45, (vb (decide (((rv1.length : Nat) : Int) < (rv1.length : Int)))))] (by kernel_rfl) ?_)
                  refine aws_seq (aws_cond (b := (decide (((rv1.length : Nat) : Int) < (rv1.length : Int)))) (by kernel_rfl) (fun hbv42 => absurd hbv42 (Bool.eq_false_iff.mp (decide_eq_false (by omega)))) (fun hbv42 => ?_))
                  refine aws_exit ?_
                  exact ⟨rfl, _, rfl, ⟨(fA (by kernel_rfl)), .inl rfl⟩⟩
                · subst e
                  exact nomatch (show (none : Option _) = some _ from hxv29)
                · subst e
                  refine aws_nil ?_
                  obtain rfl := Option.some.inj hxv29
                  exact ⟨_, rfl, ⟨(fA (by kernel_rfl)), .inl rfl⟩⟩
            · subst hq
              refine gT [] [(1, (vl a1)), (3, (AV.fn 48 [(vp 0)])), (8, (vl rv1)), (9, (AV.map 4)), (11, (vp 5)), (13, (vi (a1.getD iv18 default))), (23, (AV.d (eA 4 2 TConsolidationMutual.e rv5))), (24, (vi (iv10 : Int))), (27, (vl a1)), (28, (vi (a1.length : Int))), (29, (vi (iv18 : Int))), (33, (vl a1)), (34, (vi (a1.length : Int))), (35, (vi (IntKind.i64.wrap ((iv26 : Int) + 1))))] (by kernel_rfl) ?_
              refine aws_nil ?_
              obtain rfl := Option.some.inj h
              exact ⟨_, rfl, ⟨(fq 0 rfl (fq 1 rfl (fq 2 rfl (fq 3 rfl (fq 4 rfl (fq 5 rfl (fq 6 rfl (fq 7 rfl (fq 8 rfl (fq 9 rfl (fq 10 rfl (fq 11 rfl (fq 12 rfl (frLe_at (k := 13) rfl (LeV.of_eq (congrArg (fun n => AV.d (DV.i .i64 n)) (wrap_succ (by omega)))) frLe_nil)))))))))))))), .inl rfl⟩⟩
          · refine aws_seq (gT [] [(1, (vl a1)), (3, (AV.fn 48 [(vp 0)])), (8, (vl rv1)), (9, (AV.map 4)), (11, (vp 5)), (13, (vi (a1.getD iv18 default))), (23, (AV.d (eA 4 2 TConsolidationMutual.e rv5))), (24, (vi (iv10 : Int))), (27, (vl a1)), (28, (vi (a1.length : Int))), (29, (vi (iv18 : Int))), (33, (vl a1)), (34, (vi (a1.length : Int))), (35, (vi ((a1.length : Nat) : Int))), (36, (vb (decide (((a1.length : Nat) : Int) < (a1.length : Int)))))] (by kernel_rfl) ?_)
            refine aws_seq (aws_cond (b := (decide (((a1.length : Nat) : Int) < (a1.length : Int)))) (by kernel_rfl) (fun hbv43 => absurd hbv43 (Bool.eq_false_iff.mp (decide_eq_false (by omega)))) (fun hbv43 => ?_))
            refine aws_exit ?_
            exact ⟨rfl, _, rfl, ⟨(fA (by kernel_rfl)), .inl rfl⟩⟩
          · subst e
            exact nomatch (show (none : Option _) = some _ from hxv21)
          · subst e
            refine aws_nil ?_
            obtain rfl := Option.some.inj hxv21
            exact ⟨_, rfl, ⟨(fA (by kernel_rfl)), .inl rfl⟩⟩
        · subst hq
          refine gT [] [(1, (vl a1)), (3, (AV.fn 48 [(vp 0)])), (8, (vl rv1)), (9, (AV.map 4)), (11, (vp 5)), (23, (AV.d (eA 4 2 TConsolidationMutual.e rv5))), (24, (vi (iv10 : Int))), (27, (vl a1)), (28, (vi (a1.length : Int))), (29, (vi (IntKind.i64.wrap ((iv18 : Int) + 1))))] (by kernel_rfl) ?_
          refine aws_nil ?_
          obtain rfl := Option.some.inj h
          exact ⟨_, rfl, ⟨(fq 0 rfl (fq 1 rfl (fq 2 rfl (fq 3 rfl (fq 4 rfl (fq 5 rfl (fq 6 rfl (fq 7 rfl (fq 8 rfl (frLe_at (k := 9) rfl (LeV.of_eq (congrArg (fun n => AV.d (DV.i .i64 n)) (wrap_succ (by omega)))) frLe_nil)))))))))), .inl rfl⟩⟩
      · refine aws_seq (gT [] [(1, (vl a1)), (3, (AV.fn 48 [(vp 0)])), (8, (vl rv1)), (9, (AV.map 4)), (11, (vp 5)), (23, (AV.d (eA 4 2 TConsolidationMutual.e rv5))), (24, (vi (iv10 : Int))), (27, (vl a1)), (28, (vi (a1.length : Int))), (29, (vi ((a1.length : Nat) : Int))), (30, (vb (decide (((a1.length : Nat) : Int) < (a1.length : Int)))))] (by kernel_rfl) ?_)
        refine aws_seq (aws_cond (b := (decide (((a1.length : Nat) : Int) < (a1.length : Int)))) (by kernel_rfl) (fun hbv44 => absurd hbv44 (Bool.eq_false_iff.mp (decide_eq_false (by omega)))) (fun hbv44 => ?_))
        refine aws_exit ?_
        exact ⟨rfl, _, rfl, ⟨(fA (by kernel_rfl)), .inl rfl⟩⟩
      · subst e
        exact nomatch (show (none : Option _) = some _ from hxv13)
      · subst e
        refine aws_nil ?_
        obtain rfl := Option.some.inj hxv13
        exact ⟨_, rfl, ⟨(fA (by kernel_rfl)), .inr ⟨⟨[(bx (TConsolidationMutual.e (rv5 iv10)))], rfl, lsOk (And.intro rfl (And.intro (fun _ _ => rfl) (And.intro rfl (And.intro trivial (And.intro (eM_lt _ _ _ _) trivial)))))⟩, List.all_eq_true.1 (by kernel_rfl)⟩⟩⟩
    · subst hq
      refine gT [] [(1, (vl a1)), (3, (AV.fn 48 [(vp 0)])), (8, (vl rv1)), (9, (AV.map 4)), (23, (AV.d (eA 4 2 TConsolidationMutual.e rv5))), (24, (vi (IntKind.i64.wrap ((iv10 : Int) + 1))))] (by kernel_rfl) ?_
      refine aws_nil ?_
      obtain rfl := Option.some.inj h
      exact ⟨_, rfl, ⟨(fq 0 rfl (fq 1 rfl (fq 2 rfl (fq 3 rfl (fq 4 rfl (frLe_at (k := 5) rfl (LeV.of_eq (congrArg (fun n => AV.d (DV.i .i64 n)) (wrap_succ (by omega)))) frLe_nil)))))), .inl rfl⟩⟩
  · refine aws_seq (gT [] [(1, (vl a1)), (3, (AV.fn 48 [(vp 0)])), (8, (vl rv1)), (9, (AV.map 4)), (23, (AV.d (eA 4 2 TConsolidationMutual.e rv5))), (24, (vi ((2 : Nat) : Int))), (25, (vb (decide (((2 : Nat) : Int) < 2))))] (by kernel_rfl) ?_)
    refine aws_seq (aws_cond (b := (decide (((2 : Nat) : Int) < 2))) (by kernel_rfl) (fun hbv45 => absurd hbv45 (Bool.eq_false_iff.mp (decide_eq_false (by omega)))) (fun hbv45 => ?_))
    refine aws_exit ?_
    exact ⟨rfl, _, rfl, ⟨frLe_nil, .inl rfl⟩⟩
  · subst e
    exact nomatch (show (none : Option _) = some _ from h)
  · subst e
    refine aws_nil ?_
    obtain rfl := Option.some.inj h
    exact ⟨.inl rfl, ⟨_, [], [(bx (TApiLedger.e a0)), Ob.dead, (eM TConsolidationSpot.e (DV.i .i64) rv3)], by kernel_rfl, trivial, (LeV.refl _), rfl⟩⟩

/-! 17 -/
theorem F17_ok {a0 : TApiLedger} {a1 : (List Int)} {a2 : Int} {r : R17} (h : F17 a0 a1 a2 = some r) : CallOk Try.prog 17 [(AV.d (TApiLedger.e a0)), (vl a1), (vi a2)] [] (V17 r) (L17 r) := by
  refine gF Try.func17 rfl (by kernel_rfl) trivial ?_
  unfold F17 at h
  refine aws_seq (gR [] [(1, (vl a1)), (2, (vi a2)), (3, (vp 0))] [(bx (TApiLedger.e a0))] [] (by kernel_rfl) trivial ?_)
  refine aws_seq (aws_seq ?_)
  obtain ⟨rv1, hrv2, h⟩ := bind_some' h
  refine gS [(3, { h := .callq (vi rv1) })] [(1, (vl a1)), (2, (vi a2)), (3, (vp 0)), (8, (vi rv1))] [_] (by kernel_rfl) (And.intro ((F47_ok hrv2).pu (fun _ => rfl) (fun _ => rfl)) trivial) ?_
  refine aws_seq (gT [] [(1, (vl a1)), (2, (vi a2)), (3, (vp 0)), (8, (vi rv1)), (15, (vb (rv1 != 0)))] (by kernel_rfl) ?_)
  refine aws_cond (b := (rv1 != 0)) (by kernel_rfl) (fun hbv3 => ?_) (fun hbv3 => ?_)
  · replace h := iteT hbv3 h
    refine aws_seq (gT [] [(6, (AV.full 0 fun _ => DV.b false)), (7, (vi rv1))] (by kernel_rfl) ?_)
    refine aws_ret ?_
    obtain rfl := Option.some.inj h
    exact ⟨.inr rfl, ⟨_, [], [(bx (TApiLedger.e a0))], by kernel_rfl, trivial, (LeV.tup (LeVs.cons (leV_nil (f := fun _ => DV.b false)) (LeVs.cons (LeV.refl _) LeVs.nil))), rfl⟩⟩
  · replace h := iteF hbv3 h
    refine aws_skip (aws_seq (aws_then (fr1 := [(1, (vl a1)), (2, (vi a2)), (3, (vp 0)), (9, (vp 1))]) (L1 := [(bx (TApiLedger.e a0)), (Ob.box (AV.full 0 fun _ => DV.b false))]) (fr2 := [(1, (vl a1)), (2, (vi a2)), (3, (vp 0)), (9, (vp 1))]) (L2 := [(bx (TApiLedger.e a0)), (Ob.box (AV.ref 2 0 0 0)), (eS 5 TApiDifference.e ([] : List TApiDifference))]) (shift_born (sz := 5) (f := fun j => AV.d (TApiDifference.e (([] : List TApiDifference).getD j default))) (.keep _ _ _ _ (Nat.ne_of_beq_eq_false rfl) (.box _ _ _ _ _ (Nat.ne_of_beq_eq_false rfl) TrV.born (.nil _)))) (trF_at (k := 0) rfl (TrS.keep _) (trF_at (k := 1) rfl (TrS.keep _) (trF_at (k := 2) rfl (TrS.keep _) (trF_at (k := 3) rfl (TrS.keep _) trF_nil)))) (aw_region (hs := [(0, { h := .obj })]) (live := [1, 2, 3, 9]) (fr' := [(1, (vl a1)), (2, (vi a2)), (3, (vp 0)), (9, (vp 1))]) (L' := [(bx (TApiLedger.e a0)), (Ob.box (AV.full 0 fun _ => DV.b false))]) (C := []) (by kernel_rfl) trivial ⟨rfl, rfl, rfl⟩) ?_))
    refine aws_seq ?_
    obtain ⟨rv4, hrv5, h⟩ := bind_some' h
    refine gR [(4, { h := .callw (AV.tup []) [(1, (Ob.box (AV.ref 2 rv4.length 0 rv4.length))), (2, (eS 5 TApiDifference.e rv4))] [] })] [(9, (vp 1))] [(bx (TApiLedger.e a0)), (Ob.box (AV.ref 2 rv4.length 0 rv4.length)), (eS 5 TApiDifference.e rv4)] [CallOk Try.prog 40 [(AV.d (TApiLedger.e a0)), (vl a1), (vi a2), (AV.fn 48 [(vp 1)])] [(bx (TApiLedger.e a0)), (Ob.box (AV.ref 2 0 0 0)), (eS 5 TApiDifference.e ([] : List TApiDifference))] (AV.tup []) [(bx (TApiLedger.e a0)), (Ob.box (AV.ref 2 rv4.length 0 rv4.length)), (eS 5 TApiDifference.e rv4)]] (by kernel_rfl) (And.intro ((F40_48_ok hrv5).ca [1, 2] (by kernel_rfl)) trivial) ?_
    refine aws_seq (gT [] [(6, (AV.ref 2 rv4.length 0 rv4.length)), (7, (vi 0))] (by kernel_rfl) ?_)
    obtain ⟨hn15753, h⟩ := guardP_some h
    refine aws_shift (fr' := [(6, (AV.d (eL TApiDifference.e rv4))), (7, (vi 0))]) (L' := [(bx (TApiLedger.e a0)), (bx (eL TApiDifference.e rv4)), Ob.dead]) (shift_freeze (o := 2) (g := fun j => TApiDifference.e (rv4.getD j default)) rfl hn15753 (.keep _ _ _ _ (Nat.ne_of_beq_eq_false rfl) (.box _ _ _ _ _ (Nat.ne_of_beq_eq_false rfl) (TrV.ref (Nat.le_refl _)) (.here _ _ _ _ rfl (.nil _))))) (trF_at (k := 0) rfl (TrS.of rfl (.inr rfl) (TrV.ref (Nat.le_refl _))) (trF_at (k := 1) rfl (TrS.keep _) trF_nil)) ?_
    refine aws_ret ?_
    obtain rfl := Option.some.inj h
    exact ⟨.inr rfl, ⟨_, [], [(bx (TApiLedger.e a0)), (bx (eL TApiDifference.e rv4)), Ob.dead], by kernel_rfl, trivial, (LeV.refl _), rfl⟩⟩

/-! 57 -/
theorem F57_ok {a0 : (List Int)} {a1 : Int} {r : R57} (h : F57 a0 a1 = some r) : CallOk Try.prog 57 [(vl a0), (vi a1)] [] (V57 r) (L57 r) := by
  refine gF Try.func57 rfl (by kernel_rfl) trivial ?_
  unfold F57 at h
  refine aws_seq (gT [] [(0, (vl a0)), (1, (vi a1))] (by kernel_rfl) ?_)
  refine aws_seq (aws_seq (gT [] [(0, (vl a0)), (1, (vi a1)), (7, (vi (a0.length : Int))), (8, (vi 0))] (by kernel_rfl) ?_))
  obtain ⟨ov1, hxv2, h⟩ := outM_some h
  refine aws_lenL (k := 0) (t := 0) (e := (DV.i .i64)) (l := a0) rfl (by simp) (fun hn => ?_)
  refine aws_loop (E := (fun (_ : Unit) => [])) (LE := (fun (_ : Unit) => [])) (R := (fun x => FR Try.prog Try.f57 (V57 x) (L57 x))) (aw_range (n := a0.length) (m := 0) (I := (fun (iv3 : Nat) (_ : Unit) => [(0, (vl a0)), (1, (vi a1)), (7, (vi (a0.length : Int))), (8, (vi (iv3 : Int)))])) (LI := (fun (_ : Nat) => (fun (_ : Unit) => []))) (body := F57_b1 a0 a1) (fun iv3 _ _ hi h => aw_of ?_) (fun _ => aw_of ?_) (fun _ _ => rfl) (Nat.zero_add _) hxv2 ⟨(fA (by kernel_rfl)), .inl rfl⟩ (Nat.le_of_ble_eq_true (by kernel_rfl))) (fun _ => Nat.le_of_ble_eq_true (by kernel_rfl)) (fun x fr L e hr => ?_) (fun _ e => ?_)
  · unfold F57_b1 at h
    refine aws_seq (gT [] [(0, (vl a0)), (1, (vi a1)), (7, (vi (a0.length : Int))), (8, (vi (iv3 : Int))), (9, (vb (decide ((iv3 : Int) < (a0.length : Int)))))] (by kernel_rfl) ?_)
    refine aws_seq (aws_cond (b := (decide ((iv3 : Int) < (a0.length : Int)))) (by kernel_rfl) (fun hbv4 => ?_) (fun hbv4 => absurd (hbv4.symm.trans (decide_eq_true (by omega))) Bool.false_ne_true))
    refine aws_skip (aws_seq ?_)
    obtain ⟨ov5, hxv6, h⟩ := outM_some h
    refine aws_blockS (E := (fun (_ : Unit) => [(0, (vl a0)), (1, (vi a1)), (7, (vi (a0.length : Int))), (8, (vi (iv3 : Int)))])) (LE := (fun (_ : Unit) => [])) (fun s => ov5 = .next s) ?_ (fun _ => Nat.le_of_ble_eq_true (by kernel_rfl)) (fun _ hq => ?_)
    · refine aws_seq (gT [] [(0, (vl a0)), (1, (vi a1)), (5, (vi (iv3 : Int))), (7, (vi (a0.length : Int))), (8, (vi (iv3 : Int)))] (by kernel_rfl) ?_)
      refine aws_seq (gS [] [(0, (vl a0)), (1, (vi a1)), (5, (vi (iv3 : Int))), (7, (vi (a0.length : Int))), (8, (vi (iv3 : Int))), (16, (vb (a1 == (a0.getD iv3 default))))] [(0 : Int) ≤ (iv3 : Int), iv3 < a0.length] (by kernel_rfl) (And.intro (Int.natCast_nonneg _) (And.intro hi trivial)) ?_)
      refine aws_cond (b := (a1 == (a0.getD iv3 default))) (by kernel_rfl) (fun hbv7 => ?_) (fun hbv7 => ?_)
      · replace hxv6 := iteT hbv7 hxv6
        refine aws_seq (gT [] [(4, (vi (iv3 : Int)))] (by kernel_rfl) ?_)
        refine aws_ret ?_
        obtain rfl := Option.some.inj hxv6
        obtain rfl := Option.some.inj h
        exact ⟨_, rfl, ⟨_, [], [], by kernel_rfl, trivial, (LeV.refl _), rfl⟩⟩
      · replace hxv6 := iteF hbv7 hxv6
        refine aws_skip (aws_nil ?_)
        obtain rfl := Option.some.inj hxv6
        exact ⟨_, rfl, ⟨(fA (by kernel_rfl)), .inl rfl⟩⟩
    · subst hq
      refine gT [] [(0, (vl a0)), (1, (vi a1)), (7, (vi (a0.length : Int))), (8, (vi (IntKind.i64.wrap ((iv3 : Int) + 1))))] (by kernel_rfl) ?_
      refine aws_nil ?_
      obtain rfl := Option.some.inj h
      exact ⟨_, rfl, ⟨(fq 0 rfl (fq 1 rfl (fq 2 rfl (frLe_at (k := 3) rfl (LeV.of_eq (congrArg (fun n => AV.d (DV.i .i64 n)) (wrap_succ (by omega)))) frLe_nil)))), .inl rfl⟩⟩
  · refine aws_seq (gT [] [(0, (vl a0)), (1, (vi a1)), (7, (vi (a0.length : Int))), (8, (vi ((a0.length : Nat) : Int))), (9, (vb (decide (((a0.length : Nat) : Int) < (a0.length : Int)))))] (by kernel_rfl) ?_)
    refine aws_seq (aws_cond (b := (decide (((a0.length : Nat) : Int) < (a0.length : Int)))) (by kernel_rfl) (fun hbv8 => absurd hbv8 (Bool.eq_false_iff.mp (decide_eq_false (by omega)))) (fun hbv8 => ?_))
    refine aws_exit ?_
    exact ⟨rfl, _, rfl, ⟨frLe_nil, .inl rfl⟩⟩
  · subst e
    obtain rfl := Option.some.inj h
    exact ⟨.inr rfl, hr⟩
  · subst e
    refine aws_seq (gT [] [(4, (vi (-1)))] (by kernel_rfl) ?_)
    refine aws_ret ?_
    obtain rfl := Option.some.inj h
    exact ⟨.inr rfl, ⟨_, [], [], by kernel_rfl, trivial, (LeV.refl _), rfl⟩⟩

/-! 39 -/
theorem F39_ok {a0 : (List Int)} {a1 : Int} {r : R39} (h : F39 a0 a1 = some r) : CallOk Try.prog 39 [(vl a0), (vi a1)] [] (V39 r) (L39 r) := by
  refine gF Try.func39 rfl (by kernel_rfl) trivial ?_
  unfold F39 at h
  refine aws_seq (gT [] [(0, (vl a0)), (1, (vi a1))] (by kernel_rfl) ?_)
  refine aws_seq ?_
  obtain ⟨rv1, hrv2, h⟩ := bind_some' h
  refine gS [(2, { h := .callq (vi rv1) })] [(4, (vb (decide (rv1 ≥ 0))))] [_] (by kernel_rfl) (And.intro ((F57_ok hrv2).pu (fun _ => rfl) (fun _ => rfl)) trivial) ?_
  refine aws_ret ?_
  obtain rfl := Option.some.inj h
  exact ⟨.inr rfl, ⟨_, [], [], by kernel_rfl, trivial, (LeV.refl _), rfl⟩⟩

/-! 38 -/
theorem F38_ok {a0 : TApiPosting} {p0 : (List Int)} {p1 : Int} {r : R38} (h : F38 a0 p0 p1 = some r) : CallOk Try.prog 38 [(AV.d (TApiPosting.e a0)), (vp 0), (vp 1)] [(Ob.box (vl p0)), (Ob.box (vi p1))] (V38 r) (L38 p0 p1 r) := by
  refine gF Try.func38 rfl (by kernel_rfl) (And.intro rfl (And.intro rfl trivial)) ?_
  unfold F38 at h
  refine aws_seq (gR [] [(1, (vp 0)), (2, (vp 1)), (3, (vp 2))] [(Ob.box (vl p0)), (Ob.box (vi p1)), (bx (TApiPosting.e a0))] [] (by kernel_rfl) trivial ?_)
  refine aws_seq ?_
  obtain ⟨rv1, hrv2, h⟩ := bind_some' h
  refine gS [(3, { h := .callq (vb rv1) })] [(4, (vb (bif rv1 then (decide (a0.Day ≤ p1)) else false)))] [_] (by kernel_rfl) (And.intro ((F39_ok hrv2).pu (fun _ => rfl) (fun _ => rfl)) trivial) ?_
  refine aws_ret ?_
  obtain rfl := Option.some.inj h
  exact ⟨.inr rfl, ⟨_, [], [(bx (TApiPosting.e a0))], by kernel_rfl, trivial, (LeV.refl _), rfl⟩⟩

/-! 37 -/
theorem F37_38_ok {a0 : (List TApiPosting)} {p0 : (List Int)} {p1 : Int} {r : R37_38} (h : F37_38 a0 p0 p1 = some r) : CallOk Try.prog 37 [(AV.d (eL TApiPosting.e a0)), (AV.fn 38 [(vp 0), (vp 1)])] [(Ob.box (vl p0)), (Ob.box (vi p1))] (V37_38 r) (L37_38 p0 p1 r) := by
  refine gF Try.func37 rfl (by kernel_rfl) (And.intro rfl (And.intro rfl (And.intro (eM_lt _ _ _ _) trivial))) ?_
  unfold F37_38 at h
  refine aws_seq (gT [] [(0, (AV.d (eL TApiPosting.e a0))), (1, (AV.fn 38 [(vp 0), (vp 1)]))] (by kernel_rfl) ?_)
  refine aws_seq (gR [] [(0, (AV.d (eL TApiPosting.e a0))), (1, (AV.fn 38 [(vp 0), (vp 1)])), (5, (AV.map 2))] [(Ob.box (vl p0)), (Ob.box (vi p1)), (eM (DV.i .i64) (DV.i .i64) ([] : (List (Int × Int))))] [] (by kernel_rfl) trivial ?_)
  refine aws_seq (aws_seq (gT [] [(1, (AV.fn 38 [(vp 0), (vp 1)])), (5, (AV.map 2)), (9, (AV.d (eL TApiPosting.e a0))), (10, (vi (a0.length : Int))), (11, (vi 0))] (by kernel_rfl) ?_))
  obtain ⟨ov1, hxv2, h⟩ := outM_some h
  refine aws_lenL (k := 2) (t := 9) (e := TApiPosting.e) (l := a0) rfl (by simp) (fun hn => ?_)
  refine aws_loop (E := (fun (_ : (List (Int × Int))) => [(5, (AV.map 2))])) (LE := (fun (sv3 : (List (Int × Int))) => [(Ob.box (vl p0)), (Ob.box (vi p1)), (eM (DV.i .i64) (DV.i .i64) sv3)])) (R := (fun x => FR Try.prog Try.f37 (V37_38 x) (L37_38 p0 p1 x))) (aw_range (n := a0.length) (m := 3) (I := (fun (iv4 : Nat) (_ : (List (Int × Int))) => [(1, (AV.fn 38 [(vp 0), (vp 1)])), (5, (AV.map 2)), (9, (AV.d (eL TApiPosting.e a0))), (10, (vi (a0.length : Int))), (11, (vi (iv4 : Int)))])) (LI := (fun (_ : Nat) => (fun (sv3 : (List (Int × Int))) => [(Ob.box (vl p0)), (Ob.box (vi p1)), (eM (DV.i .i64) (DV.i .i64) sv3)]))) (body := F37_38_b1 a0 p0 p1) (fun iv4 sv3 _ hi h => aw_of ?_) (fun _ => aw_of ?_) (fun _ _ => rfl) (Nat.zero_add _) hxv2 ⟨(fA (by kernel_rfl)), .inl rfl⟩ (Nat.le_of_ble_eq_true (by kernel_rfl))) (fun _ => Nat.le_of_ble_eq_true (by kernel_rfl)) (fun x fr L e hr => ?_) (fun _ e => ?_)
  · unfold F37_38_b1 at h
    refine aws_seq (gT [] [(1, (AV.fn 38 [(vp 0), (vp 1)])), (5, (AV.map 2)), (9, (AV.d (eL TApiPosting.e a0))), (10, (vi (a0.length : Int))), (11, (vi (iv4 : Int))), (12, (vb (decide ((iv4 : Int) < (a0.length : Int)))))] (by kernel_rfl) ?_)
    refine aws_seq (aws_cond (b := (decide ((iv4 : Int) < (a0.length : Int)))) (by kernel_rfl) (fun hbv5 => ?_) (fun hbv5 => absurd (hbv5.symm.trans (decide_eq_true (by omega))) Bool.false_ne_true))
    refine aws_skip (aws_seq ?_)
    obtain ⟨ov6, hxv7, h⟩ := bind_some' h
    refine aws_blockS (E := (fun (_ : (List (Int × Int))) => [(1, (AV.fn 38 [(vp 0), (vp 1)])), (5, (AV.map 2)), (9, (AV.d (eL TApiPosting.e a0))), (10, (vi (a0.length : Int))), (11, (vi (iv4 : Int)))])) (LE := (fun (sv8 : (List (Int × Int))) => [(Ob.box (vl p0)), (Ob.box (vi p1)), (eM (DV.i .i64) (DV.i .i64) sv8)])) (fun s => s = ov6) ?_ (fun _ => Nat.le_of_ble_eq_true (by kernel_rfl)) (fun _ hq => ?_)
    · refine aws_seq (gR [] [(1, (AV.fn 38 [(vp 0), (vp 1)])), (5, (AV.map 2)), (7, (vp 3)), (9, (AV.d (eL TApiPosting.e a0))), (10, (vi (a0.length : Int))), (11, (vi (iv4 : Int)))] [(Ob.box (vl p0)), (Ob.box (vi p1)), (eM (DV.i .i64) (DV.i .i64) sv3), (bx (TApiPosting.e (a0.getD iv4 default)))] [(0 : Int) ≤ (iv4 : Int), iv4 < a0.length] (by kernel_rfl) (And.intro (Int.natCast_nonneg _) (And.intro hi trivial)) ?_)
      refine aws_seq ?_
      obtain ⟨rv9, hrv10, hxv7⟩ := bind_some' hxv7
      refine gS [(2, { h := .callr (vb rv9) })] [(1, (AV.fn 38 [(vp 0), (vp 1)])), (5, (AV.map 2)), (7, (vp 3)), (9, (AV.d (eL TApiPosting.e a0))), (10, (vi (a0.length : Int))), (11, (vi (iv4 : Int))), (17, (vb rv9))] [CallOk Try.prog 38 [(AV.d (TApiPosting.e (a0.getD iv4 default))), (vp 0), (vp 1)] [(Ob.box (vl p0)), (Ob.box (vi p1)), (eM (DV.i .i64) (DV.i .i64) sv3), (bx (TApiPosting.e (a0.getD iv4 default)))] (vb rv9) [(Ob.box (vl p0)), (Ob.box (vi p1)), (eM (DV.i .i64) (DV.i .i64) sv3), (bx (TApiPosting.e (a0.getD iv4 default)))]] (by kernel_rfl) (And.intro ((F38_ok hrv10).ca [0, 1] (by kernel_rfl)) trivial) ?_
      refine aws_cond (b := rv9) (by kernel_rfl) (fun hbv11 => ?_) (fun hbv11 => ?_)
      · replace hxv7 := iteT hbv11 hxv7
        refine aws_seq (gR [(3, { h := .callr (vi (mget sv3 ((a0.getD iv4 default).Debit) 0)) }), (7, { h := .call .bot [(Ob.box (vl p0)), (Ob.box (vi p1)), (eM (DV.i .i64) (DV.i .i64) (mupd sv3 ((a0.getD iv4 default).Debit) (IntKind.i64.wrap ((mget sv3 ((a0.getD iv4 default).Debit) 0) + ((a0.getD iv4 default).Amount))))), (bx (TApiPosting.e (a0.getD iv4 default)))] })] [(1, (AV.fn 38 [(vp 0), (vp 1)])), (5, (AV.map 2)), (7, (vp 3)), (9, (AV.d (eL TApiPosting.e a0))), (10, (vi (a0.length : Int))), (11, (vi (iv4 : Int)))] [(Ob.box (vl p0)), (Ob.box (vi p1)), (eM (DV.i .i64) (DV.i .i64) (mupd sv3 ((a0.getD iv4 default).Debit) (IntKind.i64.wrap ((mget sv3 ((a0.getD iv4 default).Debit) 0) + ((a0.getD iv4 default).Amount))))), (bx (TApiPosting.e (a0.getD iv4 default)))] [LookOk Try.prog [(Ob.box (vl p0)), (Ob.box (vi p1)), (eM (DV.i .i64) (DV.i .i64) sv3), (bx (TApiPosting.e (a0.getD iv4 default)))] 69 (AV.map 2) (AV.d ((DV.i .i64) ((a0.getD iv4 default).Debit))) false (vi (mget sv3 ((a0.getD iv4 default).Debit) 0)), UpdOk Try.prog [(Ob.box (vl p0)), (Ob.box (vi p1)), (eM (DV.i .i64) (DV.i .i64) sv3), (bx (TApiPosting.e (a0.getD iv4 default)))] 69 (AV.map 2) (AV.d ((DV.i .i64) ((a0.getD iv4 default).Debit))) (vi (IntKind.i64.wrap ((mget sv3 ((a0.getD iv4 default).Debit) 0) + ((a0.getD iv4 default).Amount)))) [(Ob.box (vl p0)), (Ob.box (vi p1)), (eM (DV.i .i64) (DV.i .i64) (mupd sv3 ((a0.getD iv4 default).Debit) (IntKind.i64.wrap ((mget sv3 ((a0.getD iv4 default).Debit) 0) + ((a0.getD iv4 default).Amount))))), (bx (TApiPosting.e (a0.getD iv4 default)))]] (by kernel_rfl) (And.intro (look_ok (kt := 3) (et := 3) (eK := (DV.i .i64)) (eV := (DV.i .i64)) (l := sv3) (k := (a0.getD iv4 default).Debit) (z := 0) (by kernel_rfl) rfl keyEq3 (by kernel_rfl)) (And.intro (upd_ok (kt := 3) (et := 3) (eK := (DV.i .i64)) (eV := (DV.i .i64)) (l := sv3) (k := (a0.getD iv4 default).Debit) (v := (IntKind.i64.wrap ((mget sv3 ((a0.getD iv4 default).Debit) 0) + ((a0.getD iv4 default).Amount)))) (by kernel_rfl) rfl keyEq3 rfl) trivial)) ?_)
        refine gR [(3, { h := .callr (vi (mget (mupd sv3 ((a0.getD iv4 default).Debit) (IntKind.i64.wrap ((mget sv3 ((a0.getD iv4 default).Debit) 0) + ((a0.getD iv4 default).Amount)))) ((a0.getD iv4 default).Credit) 0)) }), (7, { h := .call .bot [(Ob.box (vl p0)), (Ob.box (vi p1)), (eM (DV.i .i64) (DV.i .i64) (mupd (mupd sv3 ((a0.getD iv4 default).Debit) (IntKind.i64.wrap ((mget sv3 ((a0.getD iv4 default).Debit) 0) + ((a0.getD iv4 default).Amount)))) ((a0.getD iv4 default).Credit) (IntKind.i64.wrap ((mget (mupd sv3 ((a0.getD iv4 default).Debit) (IntKind.i64.wrap ((mget sv3 ((a0.getD iv4 default).Debit) 0) + ((a0.getD iv4 default).Amount)))) ((a0.getD iv4 default).Credit) 0) - ((a0.getD iv4 default).Amount))))), (bx (TApiPosting.e (a0.getD iv4 default)))] })] [(1, (AV.fn 38 [(vp 0), (vp 1)])), (5, (AV.map 2)), (9, (AV.d (eL TApiPosting.e a0))), (10, (vi (a0.length : Int))), (11, (vi (iv4 : Int)))] [(Ob.box (vl p0)), (Ob.box (vi p1)), (eM (DV.i .i64) (DV.i .i64) (mupd (mupd sv3 ((a0.getD iv4 default).Debit) (IntKind.i64.wrap ((mget sv3 ((a0.getD iv4 default).Debit) 0) + ((a0.getD iv4 default).Amount)))) ((a0.getD iv4 default).Credit) (IntKind.i64.wrap ((mget (mupd sv3 ((a0.getD iv4 default).Debit) (IntKind.i64.wrap ((mget sv3 ((a0.getD iv4 default).Debit) 0) + ((a0.getD iv4 default).Amount)))) ((a0.getD iv4 default).Credit) 0) - ((a0.getD iv4 default).Amount))))), (bx (TApiPosting.e (a0.getD iv4 default)))] [LookOk Try.prog [(Ob.box (vl p0)), (Ob.box (vi p1)), (eM (DV.i .i64) (DV.i .i64) (mupd sv3 ((a0.getD iv4 default).Debit) (IntKind.i64.wrap ((mget sv3 ((a0.getD iv4 default).Debit) 0) + ((a0.getD iv4 default).Amount))))), (bx (TApiPosting.e (a0.getD iv4 default)))] 69 (AV.map 2) (AV.d ((DV.i .i64) ((a0.getD iv4 default).Credit))) false (vi (mget (mupd sv3 ((a0.getD iv4 default).Debit) (IntKind.i64.wrap ((mget sv3 ((a0.getD iv4 default).Debit) 0) + ((a0.getD iv4 default).Amount)))) ((a0.getD iv4 default).Credit) 0)), UpdOk Try.prog [(Ob.box (vl p0)), (Ob.box (vi p1)), (eM (DV.i .i64) (DV.i .i64) (mupd sv3 ((a0.getD iv4 default).Debit) (IntKind.i64.wrap ((mget sv3 ((a0.getD iv4 default).Debit) 0) + ((a0.getD iv4 default).Amount))))), (bx (TApiPosting.e (a0.getD iv4 default)))] 69 (AV.map 2) (AV.d ((DV.i .i64) ((a0.getD iv4 default).Credit))) (vi (IntKind.i64.wrap ((mget (mupd sv3 ((a0.getD iv4 default).Debit) (IntKind.i64.wrap ((mget sv3 ((a0.getD iv4 default).Debit) 0) + ((a0.getD iv4 default).Amount)))) ((a0.getD iv4 default).Credit) 0) - ((a0.getD iv4 default).Amount)))) [(Ob.box (vl p0)), (Ob.box (vi p1)), (eM (DV.i .i64) (DV.i .i64) (mupd (mupd sv3 ((a0.getD iv4 default).Debit) (IntKind.i64.wrap ((mget sv3 ((a0.getD iv4 default).Debit) 0) + ((a0.getD iv4 default).Amount)))) ((a0.getD iv4 default).Credit) (IntKind.i64.wrap ((mget (mupd sv3 ((a0.getD iv4 default).Debit) (IntKind.i64.wrap ((mget sv3 ((a0.getD iv4 default).Debit) 0) + ((a0.getD iv4 default).Amount)))) ((a0.getD iv4 default).Credit) 0) - ((a0.getD iv4 default).Amount))))), (bx (TApiPosting.e (a0.getD iv4 default)))]] (by kernel_rfl) (And.intro (look_ok (kt := 3) (et := 3) (eK := (DV.i .i64)) (eV := (DV.i .i64)) (l := (mupd sv3 ((a0.getD iv4 default).Debit) (IntKind.i64.wrap ((mget sv3 ((a0.getD iv4 default).Debit) 0) + ((a0.getD iv4 default).Amount))))) (k := (a0.getD iv4 default).Credit) (z := 0) (by kernel_rfl) rfl keyEq3 (by kernel_rfl)) (And.intro (upd_ok (kt := 3) (et := 3) (eK := (DV.i .i64)) (eV := (DV.i .i64)) (l := (mupd sv3 ((a0.getD iv4 default).Debit) (IntKind.i64.wrap ((mget sv3 ((a0.getD iv4 default).Debit) 0) + ((a0.getD iv4 default).Amount))))) (k := (a0.getD iv4 default).Credit) (v := (IntKind.i64.wrap ((mget (mupd sv3 ((a0.getD iv4 default).Debit) (IntKind.i64.wrap ((mget sv3 ((a0.getD iv4 default).Debit) 0) + ((a0.getD iv4 default).Amount)))) ((a0.getD iv4 default).Credit) 0) - ((a0.getD iv4 default).Amount)))) (by kernel_rfl) rfl keyEq3 rfl) trivial)) ?_
        refine aws_nil ?_
        obtain rfl := Option.some.inj hxv7
        exact ⟨_, rfl, ⟨(fA (by kernel_rfl)), .inr ⟨⟨[(bx (TApiPosting.e (a0.getD iv4 default)))], rfl, lsOk (And.intro rfl (And.intro rfl (And.intro (eM_lt _ _ _ _) trivial)))⟩, List.all_eq_true.1 (by kernel_rfl)⟩⟩⟩
      · replace hxv7 := iteF hbv11 hxv7
        refine aws_skip (aws_nil ?_)
        obtain rfl := Option.some.inj hxv7
        exact ⟨_, rfl, ⟨(fA (by kernel_rfl)), .inr ⟨⟨[(bx (TApiPosting.e (a0.getD iv4 default)))], rfl, lsOk (And.intro rfl (And.intro rfl (And.intro (eM_lt _ _ _ _) trivial)))⟩, List.all_eq_true.1 (by kernel_rfl)⟩⟩⟩
    · subst hq
      refine gT [] [(1, (AV.fn 38 [(vp 0), (vp 1)])), (5, (AV.map 2)), (9, (AV.d (eL TApiPosting.e a0))), (10, (vi (a0.length : Int))), (11, (vi (IntKind.i64.wrap ((iv4 : Int) + 1))))] (by kernel_rfl) ?_
      refine aws_nil ?_
      obtain rfl := Option.some.inj h
      exact ⟨_, rfl, ⟨(fq 0 rfl (fq 1 rfl (fq 2 rfl (fq 3 rfl (frLe_at (k := 4) rfl (LeV.of_eq (congrArg (fun n => AV.d (DV.i .i64 n)) (wrap_succ (by omega)))) frLe_nil))))), .inl rfl⟩⟩
  · refine aws_seq (gT [] [(1, (AV.fn 38 [(vp 0), (vp 1)])), (5, (AV.map 2)), (9, (AV.d (eL TApiPosting.e a0))), (10, (vi (a0.length : Int))), (11, (vi ((a0.length : Nat) : Int))), (12, (vb (decide (((a0.length : Nat) : Int) < (a0.length : Int)))))] (by kernel_rfl) ?_)
    refine aws_seq (aws_cond (b := (decide (((a0.length : Nat) : Int) < (a0.length : Int)))) (by kernel_rfl) (fun hbv12 => absurd hbv12 (Bool.eq_false_iff.mp (decide_eq_false (by omega)))) (fun hbv12 => ?_))
    refine aws_exit ?_
    exact ⟨rfl, _, rfl, ⟨(fA (by kernel_rfl)), .inl rfl⟩⟩
  · subst e
    exact nomatch (show (none : Option _) = some _ from h)
  · subst e
    refine aws_seq (gT [] [(4, (AV.map 2))] (by kernel_rfl) ?_)
    refine aws_ret ?_
    obtain rfl := Option.some.inj h
    exact ⟨.inr rfl, ⟨_, [], [], by kernel_rfl, trivial, (LeV.refl _), rfl⟩⟩

/-! 41 -/
theorem F41_ok {a0 : TConsolidationMutual} {a1 : TApiDifference} {a2 : Int} {a3 : Int} {p1 : TApiWhole} {p2 : (List (Int × Int))} {r : R41} (h : F41 a0 a1 a2 a3 p1 p2 = some r) : CallOk Try.prog 41 [(AV.d (TConsolidationMutual.e a0)), (AV.d (TApiDifference.e a1)), (vi a2), (vi a3), (vp 0), (vp 1)] [(Ob.box (AV.map 2)), (bx (TApiWhole.e p1)), (eM (DV.i .i64) (DV.i .i64) p2)] (V41 r) (L41 r) := by
  refine gF Try.func41 rfl (by kernel_rfl) (And.intro rfl (And.intro rfl (And.intro (eM_lt _ _ _ _) trivial))) ?_
  unfold F41 at h
  refine aws_seq (gR [] [(2, (vi a2)), (3, (vi a3)), (4, (vp 0)), (5, (vp 1)), (6, (vp 3))] [(Ob.box (AV.map 2)), (bx (TApiWhole.e p1)), (eM (DV.i .i64) (DV.i .i64) p2), (bx (TConsolidationMutual.e a0)), (bx (TApiDifference.e a1))] [] (by kernel_rfl) trivial ?_)
  refine aws_seq (gT [] [(4, (vp 0)), (5, (vp 1)), (6, (vp 3)), (10, (vi (if 0 > (if a3 < a2 then a3 else a2) then 0 else (if a3 < a2 then a3 else a2))))] (by kernel_rfl) ?_)
  refine aws_seq (gR [(3, { h := .callr (vi (mget p2 a0.first 0)) }), (9, { h := .call .bot [(Ob.box (AV.map 2)), (bx (TApiWhole.e p1)), (eM (DV.i .i64) (DV.i .i64) (mupd p2 a0.first (IntKind.i64.wrap ((mget p2 a0.first 0) - (IntKind.i64.wrap (a0.sign * (if 0 > (if a3 < a2 then a3 else a2) then 0 else (if a3 < a2 then a3 else a2)))))))), (bx (TConsolidationMutual.e a0)), (bx (TApiDifference.e a1))] })] [(4, (vp 0)), (5, (vp 1)), (6, (vp 3)), (10, (vi (if 0 > (if a3 < a2 then a3 else a2) then 0 else (if a3 < a2 then a3 else a2))))] [(Ob.box (AV.map 2)), (bx (TApiWhole.e p1)), (eM (DV.i .i64) (DV.i .i64) (mupd p2 a0.first (IntKind.i64.wrap ((mget p2 a0.first 0) - (IntKind.i64.wrap (a0.sign * (if 0 > (if a3 < a2 then a3 else a2) then 0 else (if a3 < a2 then a3 else a2)))))))), (bx (TConsolidationMutual.e a0)), (bx (TApiDifference.e a1))] [LookOk Try.prog [(Ob.box (AV.map 2)), (bx (TApiWhole.e p1)), (eM (DV.i .i64) (DV.i .i64) p2), (bx (TConsolidationMutual.e a0)), (bx (TApiDifference.e a1))] 69 (AV.map 2) (AV.d ((DV.i .i64) a0.first)) false (vi (mget p2 a0.first 0)), UpdOk Try.prog [(Ob.box (AV.map 2)), (bx (TApiWhole.e p1)), (eM (DV.i .i64) (DV.i .i64) p2), (bx (TConsolidationMutual.e a0)), (bx (TApiDifference.e a1))] 69 (AV.map 2) (AV.d ((DV.i .i64) a0.first)) (vi (IntKind.i64.wrap ((mget p2 a0.first 0) - (IntKind.i64.wrap (a0.sign * (if 0 > (if a3 < a2 then a3 else a2) then 0 else (if a3 < a2 then a3 else a2))))))) [(Ob.box (AV.map 2)), (bx (TApiWhole.e p1)), (eM (DV.i .i64) (DV.i .i64) (mupd p2 a0.first (IntKind.i64.wrap ((mget p2 a0.first 0) - (IntKind.i64.wrap (a0.sign * (if 0 > (if a3 < a2 then a3 else a2) then 0 else (if a3 < a2 then a3 else a2)))))))), (bx (TConsolidationMutual.e a0)), (bx (TApiDifference.e a1))]] (by kernel_rfl) (And.intro (look_ok (kt := 3) (et := 3) (eK := (DV.i .i64)) (eV := (DV.i .i64)) (l := p2) (k := a0.first) (z := 0) (by kernel_rfl) rfl keyEq3 (by kernel_rfl)) (And.intro (upd_ok (kt := 3) (et := 3) (eK := (DV.i .i64)) (eV := (DV.i .i64)) (l := p2) (k := a0.first) (v := (IntKind.i64.wrap ((mget p2 a0.first 0) - (IntKind.i64.wrap (a0.sign * (if 0 > (if a3 < a2 then a3 else a2) then 0 else (if a3 < a2 then a3 else a2))))))) (by kernel_rfl) rfl keyEq3 rfl) trivial)) ?_)
  refine aws_seq (gR [(3, { h := .callr (vi (mget (mupd p2 a0.first (IntKind.i64.wrap ((mget p2 a0.first 0) - (IntKind.i64.wrap (a0.sign * (if 0 > (if a3 < a2 then a3 else a2) then 0 else (if a3 < a2 then a3 else a2))))))) a0.second 0)) }), (9, { h := .call .bot [(Ob.box (AV.map 2)), (bx (TApiWhole.e p1)), (eM (DV.i .i64) (DV.i .i64) (mupd (mupd p2 a0.first (IntKind.i64.wrap ((mget p2 a0.first 0) - (IntKind.i64.wrap (a0.sign * (if 0 > (if a3 < a2 then a3 else a2) then 0 else (if a3 < a2 then a3 else a2))))))) a0.second (IntKind.i64.wrap ((mget (mupd p2 a0.first (IntKind.i64.wrap ((mget p2 a0.first 0) - (IntKind.i64.wrap (a0.sign * (if 0 > (if a3 < a2 then a3 else a2) then 0 else (if a3 < a2 then a3 else a2))))))) a0.second 0) + (IntKind.i64.wrap (a0.sign * (if 0 > (if a3 < a2 then a3 else a2) then 0 else (if a3 < a2 then a3 else a2)))))))), (bx (TConsolidationMutual.e a0)), (bx (TApiDifference.e a1))] })] [(5, (vp 1)), (10, (vi (if 0 > (if a3 < a2 then a3 else a2) then 0 else (if a3 < a2 then a3 else a2))))] [(Ob.box (AV.map 2)), (bx (TApiWhole.e p1)), (eM (DV.i .i64) (DV.i .i64) (mupd (mupd p2 a0.first (IntKind.i64.wrap ((mget p2 a0.first 0) - (IntKind.i64.wrap (a0.sign * (if 0 > (if a3 < a2 then a3 else a2) then 0 else (if a3 < a2 then a3 else a2))))))) a0.second (IntKind.i64.wrap ((mget (mupd p2 a0.first (IntKind.i64.wrap ((mget p2 a0.first 0) - (IntKind.i64.wrap (a0.sign * (if 0 > (if a3 < a2 then a3 else a2) then 0 else (if a3 < a2 then a3 else a2))))))) a0.second 0) + (IntKind.i64.wrap (a0.sign * (if 0 > (if a3 < a2 then a3 else a2) then 0 else (if a3 < a2 then a3 else a2)))))))), (bx (TConsolidationMutual.e a0)), (bx (TApiDifference.e a1))] [LookOk Try.prog [(Ob.box (AV.map 2)), (bx (TApiWhole.e p1)), (eM (DV.i .i64) (DV.i .i64) (mupd p2 a0.first (IntKind.i64.wrap ((mget p2 a0.first 0) - (IntKind.i64.wrap (a0.sign * (if 0 > (if a3 < a2 then a3 else a2) then 0 else (if a3 < a2 then a3 else a2)))))))), (bx (TConsolidationMutual.e a0)), (bx (TApiDifference.e a1))] 69 (AV.map 2) (AV.d ((DV.i .i64) a0.second)) false (vi (mget (mupd p2 a0.first (IntKind.i64.wrap ((mget p2 a0.first 0) - (IntKind.i64.wrap (a0.sign * (if 0 > (if a3 < a2 then a3 else a2) then 0 else (if a3 < a2 then a3 else a2))))))) a0.second 0)), UpdOk Try.prog [(Ob.box (AV.map 2)), (bx (TApiWhole.e p1)), (eM (DV.i .i64) (DV.i .i64) (mupd p2 a0.first (IntKind.i64.wrap ((mget p2 a0.first 0) - (IntKind.i64.wrap (a0.sign * (if 0 > (if a3 < a2 then a3 else a2) then 0 else (if a3 < a2 then a3 else a2)))))))), (bx (TConsolidationMutual.e a0)), (bx (TApiDifference.e a1))] 69 (AV.map 2) (AV.d ((DV.i .i64) a0.second)) (vi (IntKind.i64.wrap ((mget (mupd p2 a0.first (IntKind.i64.wrap ((mget p2 a0.first 0) - (IntKind.i64.wrap (a0.sign * (if 0 > (if a3 < a2 then a3 else a2) then 0 else (if a3 < a2 then a3 else a2))))))) a0.second 0) + (IntKind.i64.wrap (a0.sign * (if 0 > (if a3 < a2 then a3 else a2) then 0 else (if a3 < a2 then a3 else a2))))))) [(Ob.box (AV.map 2)), (bx (TApiWhole.e p1)), (eM (DV.i .i64) (DV.i .i64) (mupd (mupd p2 a0.first (IntKind.i64.wrap ((mget p2 a0.first 0) - (IntKind.i64.wrap (a0.sign * (if 0 > (if a3 < a2 then a3 else a2) then 0 else (if a3 < a2 then a3 else a2))))))) a0.second (IntKind.i64.wrap ((mget (mupd p2 a0.first (IntKind.i64.wrap ((mget p2 a0.first 0) - (IntKind.i64.wrap (a0.sign * (if 0 > (if a3 < a2 then a3 else a2) then 0 else (if a3 < a2 then a3 else a2))))))) a0.second 0) + (IntKind.i64.wrap (a0.sign * (if 0 > (if a3 < a2 then a3 else a2) then 0 else (if a3 < a2 then a3 else a2)))))))), (bx (TConsolidationMutual.e a0)), (bx (TApiDifference.e a1))]] (by kernel_rfl) (And.intro (look_ok (kt := 3) (et := 3) (eK := (DV.i .i64)) (eV := (DV.i .i64)) (l := (mupd p2 a0.first (IntKind.i64.wrap ((mget p2 a0.first 0) - (IntKind.i64.wrap (a0.sign * (if 0 > (if a3 < a2 then a3 else a2) then 0 else (if a3 < a2 then a3 else a2)))))))) (k := a0.second) (z := 0) (by kernel_rfl) rfl keyEq3 (by kernel_rfl)) (And.intro (upd_ok (kt := 3) (et := 3) (eK := (DV.i .i64)) (eV := (DV.i .i64)) (l := (mupd p2 a0.first (IntKind.i64.wrap ((mget p2 a0.first 0) - (IntKind.i64.wrap (a0.sign * (if 0 > (if a3 < a2 then a3 else a2) then 0 else (if a3 < a2 then a3 else a2)))))))) (k := a0.second) (v := (IntKind.i64.wrap ((mget (mupd p2 a0.first (IntKind.i64.wrap ((mget p2 a0.first 0) - (IntKind.i64.wrap (a0.sign * (if 0 > (if a3 < a2 then a3 else a2) then 0 else (if a3 < a2 then a3 else a2))))))) a0.second 0) + (IntKind.i64.wrap (a0.sign * (if 0 > (if a3 < a2 then a3 else a2) then 0 else (if a3 < a2 then a3 else a2))))))) (by kernel_rfl) rfl keyEq3 rfl) trivial)) ?_)
  refine gR [] [] [(Ob.box (AV.map 2)), (bx (DV.agg [(eL TApiBalance.e p1.Balances), (DV.i .i64 (IntKind.i64.wrap (p1.Eliminated + (if 0 > (if a3 < a2 then a3 else a2) then 0 else (if a3 < a2 then a3 else a2))))), (eL TApiDifference.e p1.Differences)])), (eM (DV.i .i64) (DV.i .i64) (mupd (mupd p2 a0.first (IntKind.i64.wrap ((mget p2 a0.first 0) - (IntKind.i64.wrap (a0.sign * (if 0 > (if a3 < a2 then a3 else a2) then 0 else (if a3 < a2 then a3 else a2))))))) a0.second (IntKind.i64.wrap ((mget (mupd p2 a0.first (IntKind.i64.wrap ((mget p2 a0.first 0) - (IntKind.i64.wrap (a0.sign * (if 0 > (if a3 < a2 then a3 else a2) then 0 else (if a3 < a2 then a3 else a2))))))) a0.second 0) + (IntKind.i64.wrap (a0.sign * (if 0 > (if a3 < a2 then a3 else a2) then 0 else (if a3 < a2 then a3 else a2)))))))), (bx (TConsolidationMutual.e a0)), (bx (TApiDifference.e a1))] [] (by kernel_rfl) trivial ?_
  refine aws_nil ?_
  obtain rfl := Option.some.inj h
  exact ⟨.inl rfl, ⟨_, [], [(bx (TConsolidationMutual.e a0)), (bx (TApiDifference.e a1))], by kernel_rfl, trivial, (LeV.refl _), rfl⟩⟩

/-! 40 -/
theorem F40_41_ok {a0 : TApiLedger} {a1 : (List Int)} {a2 : Int} {p1 : TApiWhole} {p2 : (List (Int × Int))} {r : R40_41} (h : F40_41 a0 a1 a2 p1 p2 = some r) : CallOk Try.prog 40 [(AV.d (TApiLedger.e a0)), (vl a1), (vi a2), (AV.fn 41 [(vp 0), (vp 1)])] [(Ob.box (AV.map 2)), (bx (TApiWhole.e p1)), (eM (DV.i .i64) (DV.i .i64) p2)] (V40_41 r) (L40_41 r) := by
  refine gF Try.func40 rfl (by kernel_rfl) (And.intro rfl (And.intro rfl (And.intro (eM_lt _ _ _ _) trivial))) ?_
  unfold F40_41 at h
  refine aws_seq (gR [] [(1, (vl a1)), (2, (vi a2)), (3, (AV.fn 41 [(vp 0), (vp 1)])), (4, (vp 3))] [(Ob.box (AV.map 2)), (bx (TApiWhole.e p1)), (eM (DV.i .i64) (DV.i .i64) p2), (bx (TApiLedger.e a0))] [] (by kernel_rfl) trivial ?_)
  refine aws_seq ?_
  obtain ⟨rv1, hrv2, h⟩ := bind_some' h
  obtain ⟨rv3, hrv4, h⟩ := bind_some' h
  refine gD ⟨[[], [0], [], [], [3, 2, 1, 0], [4, 3, 2, 1, 0], [5, 4, 3, 2, 1, 0]], [4]⟩ [(1, { h := .callq (vl rv1) }), (4, { h := .callw (AV.map 5) [] [Ob.dead, (eM TConsolidationSpot.e (DV.i .i64) rv3)] })] [(1, (vl a1)), (3, (AV.fn 41 [(vp 0), (vp 1)])), (8, (vl rv1)), (9, (AV.map 5))] [(Ob.box (AV.map 2)), (bx (TApiWhole.e p1)), (eM (DV.i .i64) (DV.i .i64) p2), (bx (TApiLedger.e a0)), Ob.dead, (eM TConsolidationSpot.e (DV.i .i64) rv3)] [_, CallOk Try.prog 55 [(AV.d (TApiLedger.e a0)), (vi a2)] [(Ob.box (AV.map 2)), (bx (TApiWhole.e p1)), (eM (DV.i .i64) (DV.i .i64) p2), (bx (TApiLedger.e a0))] (AV.map 5) [(Ob.box (AV.map 2)), (bx (TApiWhole.e p1)), (eM (DV.i .i64) (DV.i .i64) p2), (bx (TApiLedger.e a0)), Ob.dead, (eM TConsolidationSpot.e (DV.i .i64) rv3)]] (by kernel_rfl) (by kernel_rfl) (by kernel_rfl) (And.intro ((F58_ok hrv2).pu (fun _ => rfl) (fun _ => rfl)) (And.intro ((F55_ok hrv4).ca [] (by kernel_rfl)) trivial)) ?_
  refine aws_seq ?_
  obtain ⟨rv5, hrv6, h⟩ := bind_some' h
  refine gS [(0, { h := .callq (AV.d (eA 4 2 TConsolidationMutual.e rv5)) })] [(1, (vl a1)), (3, (AV.fn 41 [(vp 0), (vp 1)])), (8, (vl rv1)), (9, (AV.map 5)), (23, (AV.d (eA 4 2 TConsolidationMutual.e rv5))), (24, (vi 0))] [_] (by kernel_rfl) (And.intro ((F59_ok hrv6).pu (fun _ => rfl) (fun _ => rfl)) trivial) ?_
  obtain ⟨ov7, hxv8, h⟩ := outM_some h
  have hn : 2 < 2 ^ 63 := by decide
  refine aws_loop (E := (fun (_ : TApiWhole × (List (Int × Int))) => [])) (LE := (fun (sv9 : TApiWhole × (List (Int × Int))) => [(Ob.box (AV.map 2)), (bx (TApiWhole.e sv9.1)), (eM (DV.i .i64) (DV.i .i64) sv9.2), (bx (TApiLedger.e a0)), Ob.dead, (eM TConsolidationSpot.e (DV.i .i64) rv3)])) (R := (fun x => FR Try.prog Try.f40 (V40_41 x) (L40_41 x))) (aw_range (n := 2) (m := 6) (I := (fun (iv10 : Nat) (_ : TApiWhole × (List (Int × Int))) => [(1, (vl a1)), (3, (AV.fn 41 [(vp 0), (vp 1)])), (8, (vl rv1)), (9, (AV.map 5)), (23, (AV.d (eA 4 2 TConsolidationMutual.e rv5))), (24, (vi (iv10 : Int)))])) (LI := (fun (_ : Nat) => (fun (sv9 : TApiWhole × (List (Int × Int))) => [(Ob.box (AV.map 2)), (bx (TApiWhole.e sv9.1)), (eM (DV.i .i64) (DV.i .i64) sv9.2), (bx (TApiLedger.e a0)), Ob.dead, (eM TConsolidationSpot.e (DV.i .i64) rv3)]))) (body := F40_41_b4 a1 rv1 rv3 rv5) (fun iv10 sv9 _ hi h => aw_of ?_) (fun _ => aw_of ?_) (fun _ _ => rfl) (Nat.zero_add _) hxv8 ⟨(fA (by kernel_rfl)), .inl rfl⟩ (Nat.le_of_ble_eq_true (by kernel_rfl))) (fun _ => Nat.le_of_ble_eq_true (by kernel_rfl)) (fun x fr L e hr => ?_) (fun _ e => ?_)
  · unfold F40_41_b4 at h
    refine aws_seq (gT [] [(1, (vl a1)), (3, (AV.fn 41 [(vp 0), (vp 1)])), (8, (vl rv1)), (9, (AV.map 5)), (23, (AV.d (eA 4 2 TConsolidationMutual.e rv5))), (24, (vi (iv10 : Int))), (25, (vb (decide ((iv10 : Int) < 2))))] (by kernel_rfl) ?_)
    refine aws_seq (aws_cond (b := (decide ((iv10 : Int) < 2))) (by kernel_rfl) (fun hbv11 => ?_) (fun hbv11 => absurd (hbv11.symm.trans (decide_eq_true (by omega))) Bool.false_ne_true))
    refine aws_skip (aws_seq ?_)
    obtain ⟨ov12, hxv13, h⟩ := bind_some' h
    refine aws_blockS (E := (fun (_ : TApiWhole × (List (Int × Int))) => [(1, (vl a1)), (3, (AV.fn 41 [(vp 0), (vp 1)])), (8, (vl rv1)), (9, (AV.map 5)), (23, (AV.d (eA 4 2 TConsolidationMutual.e rv5))), (24, (vi (iv10 : Int)))])) (LE := (fun (sv14 : TApiWhole × (List (Int × Int))) => [(Ob.box (AV.map 2)), (bx (TApiWhole.e sv14.1)), (eM (DV.i .i64) (DV.i .i64) sv14.2), (bx (TApiLedger.e a0)), Ob.dead, (eM TConsolidationSpot.e (DV.i .i64) rv3)])) (fun s => s = ov12) ?_ (fun _ => Nat.le_of_ble_eq_true (by kernel_rfl)) (fun _ hq => ?_)
    · refine aws_seq (gR [] [(1, (vl a1)), (3, (AV.fn 41 [(vp 0), (vp 1)])), (8, (vl rv1)), (9, (AV.map 5)), (11, (vp 6)), (23, (AV.d (eA 4 2 TConsolidationMutual.e rv5))), (24, (vi (iv10 : Int)))] [(Ob.box (AV.map 2)), (bx (TApiWhole.e sv9.1)), (eM (DV.i .i64) (DV.i .i64) sv9.2), (bx (TApiLedger.e a0)), Ob.dead, (eM TConsolidationSpot.e (DV.i .i64) rv3), (bx (TConsolidationMutual.e (rv5 iv10)))] [(0 : Int) ≤ (iv10 : Int), iv10 < 2] (by kernel_rfl) (And.intro (Int.natCast_nonneg _) (And.intro hi trivial)) ?_)
      refine aws_seq (gT [] [(1, (vl a1)), (3, (AV.fn 41 [(vp 0), (vp 1)])), (8, (vl rv1)), (9, (AV.map 5)), (11, (vp 6)), (23, (AV.d (eA 4 2 TConsolidationMutual.e rv5))), (24, (vi (iv10 : Int))), (27, (vl a1)), (28, (vi (a1.length : Int))), (29, (vi 0))] (by kernel_rfl) ?_)
      obtain ⟨ov15, hxv16, hxv13⟩ := outM_some hxv13
      refine aws_lenL (k := 0) (t := 1) (e := (DV.i .i64)) (l := a1) rfl (by simp) (fun hn => ?_)
      refine aws_loop (E := (fun (_ : TApiWhole × (List (Int × Int))) => [(1, (vl a1)), (3, (AV.fn 41 [(vp 0), (vp 1)])), (8, (vl rv1)), (9, (AV.map 5)), (23, (AV.d (eA 4 2 TConsolidationMutual.e rv5))), (24, (vi (iv10 : Int)))])) (LE := (fun (sv17 : TApiWhole × (List (Int × Int))) => [(Ob.box (AV.map 2)), (bx (TApiWhole.e sv17.1)), (eM (DV.i .i64) (DV.i .i64) sv17.2), (bx (TApiLedger.e a0)), Ob.dead, (eM TConsolidationSpot.e (DV.i .i64) rv3), (bx (TConsolidationMutual.e (rv5 iv10)))])) (R := (fun x => FR Try.prog Try.f40 (V40_41 x) (L40_41 x))) (aw_range (n := a1.length) (m := 7) (I := (fun (iv18 : Nat) (_ : TApiWhole × (List (Int × Int))) => [(1, (vl a1)), (3, (AV.fn 41 [(vp 0), (vp 1)])), (8, (vl rv1)), (9, (AV.map 5)), (11, (vp 6)), (23, (AV.d (eA 4 2 TConsolidationMutual.e rv5))), (24, (vi (iv10 : Int))), (27, (vl a1)), (28, (vi (a1.length : Int))), (29, (vi (iv18 : Int)))])) (LI := (fun (_ : Nat) => (fun (sv17 : TApiWhole × (List (Int × Int))) => [(Ob.box (AV.map 2)), (bx (TApiWhole.e sv17.1)), (eM (DV.i .i64) (DV.i .i64) sv17.2), (bx (TApiLedger.e a0)), Ob.dead, (eM TConsolidationSpot.e (DV.i .i64) rv3), (bx (TConsolidationMutual.e (rv5 iv10)))]))) (body := F40_41_b3 a1 rv1 rv3 rv5 iv10) (fun iv18 _ _ hi h => aw_of ?_) (fun _ => aw_of ?_) (fun _ _ => rfl) (Nat.zero_add _) hxv16 ⟨(fA (by kernel_rfl)), .inl rfl⟩ (Nat.le_of_ble_eq_true (by kernel_rfl))) (fun _ => Nat.le_of_ble_eq_true (by kernel_rfl)) (fun x fr L e hr => ?_) (fun _ e => ?_)
      · unfold F40_41_b3 at h
        refine aws_seq (gT [] [(1, (vl a1)), (3, (AV.fn 41 [(vp 0), (vp 1)])), (8, (vl rv1)), (9, (AV.map 5)), (11, (vp 6)), (23, (AV.d (eA 4 2 TConsolidationMutual.e rv5))), (24, (vi (iv10 : Int))), (27, (vl a1)), (28, (vi (a1.length : Int))), (29, (vi (iv18 : Int))), (30, (vb (decide ((iv18 : Int) < (a1.length : Int)))))] (by kernel_rfl) ?_)
        refine aws_seq (aws_cond (b := (decide ((iv18 : Int) < (a1.length : Int)))) (by kernel_rfl) (fun hbv19 => ?_) (fun hbv19 => absurd (hbv19.symm.trans (decide_eq_true (by omega))) Bool.false_ne_true))
        refine aws_skip (aws_seq ?_)
        obtain ⟨ov20, hxv21, h⟩ := bind_some' h
        refine aws_blockS (E := (fun (_ : TApiWhole × (List (Int × Int))) => [(1, (vl a1)), (3, (AV.fn 41 [(vp 0), (vp 1)])), (8, (vl rv1)), (9, (AV.map 5)), (11, (vp 6)), (23, (AV.d (eA 4 2 TConsolidationMutual.e rv5))), (24, (vi (iv10 : Int))), (27, (vl a1)), (28, (vi (a1.length : Int))), (29, (vi (iv18 : Int)))])) (LE := (fun (sv22 : TApiWhole × (List (Int × Int))) => [(Ob.box (AV.map 2)), (bx (TApiWhole.e sv22.1)), (eM (DV.i .i64) (DV.i .i64) sv22.2), (bx (TApiLedger.e a0)), Ob.dead, (eM TConsolidationSpot.e (DV.i .i64) rv3), (bx (TConsolidationMutual.e (rv5 iv10)))])) (fun s => s = ov20) ?_ (fun _ => Nat.le_of_ble_eq_true (by kernel_rfl)) (fun _ hq => ?_)
        · refine aws_seq (gS [] [(1, (vl a1)), (3, (AV.fn 41 [(vp 0), (vp 1)])), (8, (vl rv1)), (9, (AV.map 5)), (11, (vp 6)), (13, (vi (a1.getD iv18 default))), (23, (AV.d (eA 4 2 TConsolidationMutual.e rv5))), (24, (vi (iv10 : Int))), (27, (vl a1)), (28, (vi (a1.length : Int))), (29, (vi (iv18 : Int)))] [(0 : Int) ≤ (iv18 : Int), iv18 < a1.length] (by kernel_rfl) (And.intro (Int.natCast_nonneg _) (And.intro hi trivial)) ?_)
          refine aws_seq (gT [] [(1, (vl a1)), (3, (AV.fn 41 [(vp 0), (vp 1)])), (8, (vl rv1)), (9, (AV.map 5)), (11, (vp 6)), (13, (vi (a1.getD iv18 default))), (23, (AV.d (eA 4 2 TConsolidationMutual.e rv5))), (24, (vi (iv10 : Int))), (27, (vl a1)), (28, (vi (a1.length : Int))), (29, (vi (iv18 : Int))), (33, (vl a1)), (34, (vi (a1.length : Int))), (35, (vi 0))] (by kernel_rfl) ?_)
          obtain ⟨ov23, hxv24, hxv21⟩ := outM_some hxv21
          refine aws_lenL (k := 0) (t := 1) (e := (DV.i .i64)) (l := a1) rfl (by simp) (fun hn => ?_)
          refine aws_loop (E := (fun (_ : TApiWhole × (List (Int × Int))) => [(1, (vl a1)), (3, (AV.fn 41 [(vp 0), (vp 1)])), (8, (vl rv1)), (9, (AV.map 5)), (11, (vp 6)), (23, (AV.d (eA 4 2 TConsolidationMutual.e rv5))), (24, (vi (iv10 : Int))), (27, (vl a1)), (28, (vi (a1.length : Int))), (29, (vi (iv18 : Int)))])) (LE := (fun (sv25 : TApiWhole × (List (Int × Int))) => [(Ob.box (AV.map 2)), (bx (TApiWhole.e sv25.1)), (eM (DV.i .i64) (DV.i .i64) sv25.2), (bx (TApiLedger.e a0)), Ob.dead, (eM TConsolidationSpot.e (DV.i .i64) rv3), (bx (TConsolidationMutual.e (rv5 iv10)))])) (R := (fun x => FR Try.prog Try.f40 (V40_41 x) (L40_41 x))) (aw_range (n := a1.length) (m := 7) (I := (fun (iv26 : Nat) (_ : TApiWhole × (List (Int × Int))) => [(1, (vl a1)), (3, (AV.fn 41 [(vp 0), (vp 1)])), (8, (vl rv1)), (9, (AV.map 5)), (11, (vp 6)), (13, (vi (a1.getD iv18 default))), (23, (AV.d (eA 4 2 TConsolidationMutual.e rv5))), (24, (vi (iv10 : Int))), (27, (vl a1)), (28, (vi (a1.length : Int))), (29, (vi (iv18 : Int))), (33, (vl a1)), (34, (vi (a1.length : Int))), (35, (vi (iv26 : Int)))])) (LI := (fun (_ : Nat) => (fun (sv25 : TApiWhole × (List (Int × Int))) => [(Ob.box (AV.map 2)), (bx (TApiWhole.e sv25.1)), (eM (DV.i .i64) (DV.i .i64) sv25.2), (bx (TApiLedger.e a0)), Ob.dead, (eM TConsolidationSpot.e (DV.i .i64) rv3), (bx (TConsolidationMutual.e (rv5 iv10)))]))) (body := F40_41_b2 a1 rv1 rv3 rv5 iv10 iv18) (fun iv26 _ _ hi h => aw_of ?_) (fun _ => aw_of ?_) (fun _ _ => rfl) (Nat.zero_add _) hxv24 ⟨(fA (by kernel_rfl)), .inl rfl⟩ (Nat.le_of_ble_eq_true (by kernel_rfl))) (fun _ => Nat.le_of_ble_eq_true (by kernel_rfl)) (fun x fr L e hr => ?_) (fun _ e => ?_)
          · unfold F40_41_b2 at h
            refine aws_seq (gT [] [(1, (vl a1)), (3, (AV.fn 41 [(vp 0), (vp 1)])), (8, (vl rv1)), (9, (AV.map 5)), (11, (vp 6)), (13, (vi (a1.getD iv18 default))), (23, (AV.d (eA 4 2 TConsolidationMutual.e rv5))), (24, (vi (iv10 : Int))), (27, (vl a1)), (28, (vi (a1.length : Int))), (29, (vi (iv18 : Int))), (33, (vl a1)), (34, (vi (a1.length : Int))), (35, (vi (iv26 : Int))), (36, (vb (decide ((iv26 : Int) < (a1.length : Int)))))] (by kernel_rfl) ?_)
            refine aws_seq (aws_cond (b := (decide ((iv26 : Int) < (a1.length : Int)))) (by kernel_rfl) (fun hbv27 => ?_) (fun hbv27 => absurd (hbv27.symm.trans (decide_eq_true (by omega))) Bool.false_ne_true))
            refine aws_skip (aws_seq ?_)
            obtain ⟨ov28, hxv29, h⟩ := bind_some' h
            refine aws_blockS (E := (fun (_ : TApiWhole × (List (Int × Int))) => [(1, (vl a1)), (3, (AV.fn 41 [(vp 0), (vp 1)])), (8, (vl rv1)), (9, (AV.map 5)), (11, (vp 6)), (13, (vi (a1.getD iv18 default))), (23, (AV.d (eA 4 2 TConsolidationMutual.e rv5))), (24, (vi (iv10 : Int))), (27, (vl a1)), (28, (vi (a1.length : Int))), (29, (vi (iv18 : Int))), (33, (vl a1)), (34, (vi (a1.length : Int))), (35, (vi (iv26 : Int)))])) (LE := (fun (sv30 : TApiWhole × (List (Int × Int))) => [(Ob.box (AV.map 2)), (bx (TApiWhole.e sv30.1)), (eM (DV.i .i64) (DV.i .i64) sv30.2), (bx (TApiLedger.e a0)), Ob.dead, (eM TConsolidationSpot.e (DV.i .i64) rv3), (bx (TConsolidationMutual.e (rv5 iv10)))])) (fun s => s = ov28) ?_ (fun _ => Nat.le_of_ble_eq_true (by kernel_rfl)) (fun _ hq => ?_)
            · refine aws_seq (gS [] [(1, (vl a1)), (3, (AV.fn 41 [(vp 0), (vp 1)])), (8, (vl rv1)), (9, (AV.map 5)), (11, (vp 6)), (13, (vi (a1.getD iv18 default))), (15, (vi (a1.getD iv26 default))), (23, (AV.d (eA 4 2 TConsolidationMutual.e rv5))), (24, (vi (iv10 : Int))), (27, (vl a1)), (28, (vi (a1.length : Int))), (29, (vi (iv18 : Int))), (33, (vl a1)), (34, (vi (a1.length : Int))), (35, (vi (iv26 : Int)))] [(0 : Int) ≤ (iv26 : Int), iv26 < a1.length] (by kernel_rfl) (And.intro (Int.natCast_nonneg _) (And.intro hi trivial)) ?_)
              refine aws_seq (aws_seq (gT [] [(1, (vl a1)), (3, (AV.fn 41 [(vp 0), (vp 1)])), (8, (vl rv1)), (9, (AV.map 5)), (11, (vp 6)), (13, (vi (a1.getD iv18 default))), (15, (vi (a1.getD iv26 default))), (23, (AV.d (eA 4 2 TConsolidationMutual.e rv5))), (24, (vi (iv10 : Int))), (27, (vl a1)), (28, (vi (a1.length : Int))), (29, (vi (iv18 : Int))), (33, (vl a1)), (34, (vi (a1.length : Int))), (35, (vi (iv26 : Int))), (41, (vb ((a1.getD iv18 default) == (a1.getD iv26 default))))] (by kernel_rfl) ?_))
              refine aws_cond (b := ((a1.getD iv18 default) == (a1.getD iv26 default))) (by kernel_rfl) (fun hbv31 => ?_) (fun hbv31 => ?_)
              · replace hxv29 := iteT hbv31 hxv29
                refine aws_exit ?_
                simp only [if_true]
                obtain rfl := Option.some.inj hxv29
                exact ⟨_, rfl, ⟨(fA (by kernel_rfl)), .inl rfl⟩⟩
              · replace hxv29 := iteF hbv31 hxv29
                refine aws_skip (aws_seq (gT [] [(1, (vl a1)), (3, (AV.fn 41 [(vp 0), (vp 1)])), (8, (vl rv1)), (9, (AV.map 5)), (11, (vp 6)), (13, (vi (a1.getD iv18 default))), (15, (vi (a1.getD iv26 default))), (23, (AV.d (eA 4 2 TConsolidationMutual.e rv5))), (24, (vi (iv10 : Int))), (27, (vl a1)), (28, (vi (a1.length : Int))), (29, (vi (iv18 : Int))), (33, (vl a1)), (34, (vi (a1.length : Int))), (35, (vi (iv26 : Int))), (42, (vl rv1)), (43, (vi (rv1.length : Int))), (44, (vi 0))] (by kernel_rfl) ?_))
                obtain ⟨ov32, hxv33, hxv29⟩ := outM_some hxv29
                refine aws_lenL (k := 2) (t := 8) (e := (DV.i .i64)) (l := rv1) rfl (by simp) (fun hn => ?_)
                refine aws_loop (E := (fun (_ : TApiWhole × (List (Int × Int))) => [(1, (vl a1)), (3, (AV.fn 41 [(vp 0), (vp 1)])), (8, (vl rv1)), (9, (AV.map 5)), (11, (vp 6)), (13, (vi (a1.getD iv18 default))), (23, (AV.d (eA 4 2 TConsolidationMutual.e rv5))), (24, (vi (iv10 : Int))), (27, (vl a1)), (28, (vi (a1.length : Int))), (29, (vi (iv18 : Int))), (33, (vl a1)), (34, (vi (a1.length : Int))), (35, (vi (iv26 : Int)))])) (LE := (fun (sv34 : TApiWhole × (List (Int × Int))) => [(Ob.box (AV.map 2)), (bx (TApiWhole.e sv34.1)), (eM (DV.i .i64) (DV.i .i64) sv34.2), (bx (TApiLedger.e a0)), Ob.dead, (eM TConsolidationSpot.e (DV.i .i64) rv3), (bx (TConsolidationMutual.e (rv5 iv10)))])) (R := (fun x => FR Try.prog Try.f40 (V40_41 x) (L40_41 x))) (aw_range (n := rv1.length) (m := 7) (I := (fun (iv35 : Nat) (_ : TApiWhole × (List (Int × Int))) => [(1, (vl a1)), (3, (AV.fn 41 [(vp 0), (vp 1)])), (8, (vl rv1)), (9, (AV.map 5)), (11, (vp 6)), (13, (vi (a1.getD iv18 default))), (15, (vi (a1.getD iv26 default))), (23, (AV.d (eA 4 2 TConsolidationMutual.e rv5))), (24, (vi (iv10 : Int))), (27, (vl a1)), (28, (vi (a1.length : Int))), (29, (vi (iv18 : Int))), (33, (vl a1)), (34, (vi (a1.length : Int))), (35, (vi (iv26 : Int))), (42, (vl rv1)), (43, (vi (rv1.length : Int))), (44, (vi (iv35 : Int)))])) (LI := (fun (_ : Nat) => (fun (sv34 : TApiWhole × (List (Int × Int))) => [(Ob.box (AV.map 2)), (bx (TApiWhole.e sv34.1)), (eM (DV.i .i64) (DV.i .i64) sv34.2), (bx (TApiLedger.e a0)), Ob.dead, (eM TConsolidationSpot.e (DV.i .i64) rv3), (bx (TConsolidationMutual.e (rv5 iv10)))]))) (body := F40_41_b1 a1 rv1 rv3 rv5 iv10 iv18 iv26) (fun iv35 sv34 _ hi h => aw_of ?_) (fun _ => aw_of ?_) (fun _ _ => rfl) (Nat.zero_add _) hxv33 ⟨(fA (by kernel_rfl)), .inl rfl⟩ (Nat.le_of_ble_eq_true (by kernel_rfl))) (fun _ => Nat.le_of_ble_eq_true (by kernel_rfl)) (fun x fr L e hr => ?_) (fun _ e => ?_)
                · unfold F40_41_b1 at h
                  refine aws_seq (gT [] [(1, (vl a1)), (3, (AV.fn 41 [(vp 0), (vp 1)])), (8, (vl rv1)), (9, (AV.map 5)), (11, (vp 6)), (13, (vi (a1.getD iv18 default))), (15, (vi (a1.getD iv26 default))), (23, (AV.d (eA 4 2 TConsolidationMutual.e rv5))), (24, (vi (iv10 : Int))), (27, (vl a1)), (28, (vi (a1.length : Int))), (29, (vi (iv18 : Int))), (33, (vl a1)), (34, (vi (a1.length : Int))), (35, (vi (iv26 : Int))), (42, (vl rv1)), (43, (vi (rv1.length : Int))), (44, (vi (iv35 : Int))), (45, (vb (decide ((iv35 : Int) < (rv1.length : Int)))))] (by kernel_rfl) ?_)
                  refine aws_seq (aws_cond (b := (decide ((iv35 : Int) < (rv1.length : Int)))) (by kernel_rfl) (fun hbv36 => ?_) (fun hbv36 => absurd (hbv36.symm.trans (decide_eq_true (by omega))) Bool.false_ne_true))
                  refine aws_skip (aws_seq ?_)
                  obtain ⟨ov37, hxv38, h⟩ := bind_some' h
                  refine aws_blockS (E := (fun (_ : TApiWhole × (List (Int × Int))) => [(1, (vl a1)), (3, (AV.fn 41 [(vp 0), (vp 1)])), (8, (vl rv1)), (9, (AV.map 5)), (11, (vp 6)), (13, (vi (a1.getD iv18 default))), (15, (vi (a1.getD iv26 default))), (23, (AV.d (eA 4 2 TConsolidationMutual.e rv5))), (24, (vi (iv10 : Int))), (27, (vl a1)), (28, (vi (a1.length : Int))), (29, (vi (iv18 : Int))), (33, (vl a1)), (34, (vi (a1.length : Int))), (35, (vi (iv26 : Int))), (42, (vl rv1)), (43, (vi (rv1.length : Int))), (44, (vi (iv35 : Int)))])) (LE := (fun (sv39 : TApiWhole × (List (Int × Int))) => [(Ob.box (AV.map 2)), (bx (TApiWhole.e sv39.1)), (eM (DV.i .i64) (DV.i .i64) sv39.2), (bx (TApiLedger.e a0)), Ob.dead, (eM TConsolidationSpot.e (DV.i .i64) rv3), (bx (TConsolidationMutual.e (rv5 iv10)))])) (fun s => s = ov37) ?_ (fun _ => Nat.le_of_ble_eq_true (by kernel_rfl)) (fun _ hq => ?_)
                  · refine aws_seq (gS [] [(1, (vl a1)), (3, (AV.fn 41 [(vp 0), (vp 1)])), (8, (vl rv1)), (9, (AV.map 5)), (11, (vp 6)), (13, (vi (a1.getD iv18 default))), (15, (vi (a1.getD iv26 default))), (17, (vi (rv1.getD iv35 default))), (23, (AV.d (eA 4 2 TConsolidationMutual.e rv5))), (24, (vi (iv10 : Int))), (27, (vl a1)), (28, (vi (a1.length : Int))), (29, (vi (iv18 : Int))), (33, (vl a1)), (34, (vi (a1.length : Int))), (35, (vi (iv26 : Int))), (42, (vl rv1)), (43, (vi (rv1.length : Int))), (44, (vi (iv35 : Int)))] [(0 : Int) ≤ (iv35 : Int), iv35 < rv1.length] (by kernel_rfl) (And.intro (Int.natCast_nonneg _) (And.intro hi trivial)) ?_)
                    obtain ⟨rv40, hrv41, hxv38⟩ := bind_some' hxv38
                    refine gD ⟨[[], [], [], [2], [], [], [], [6, 5, 4, 3, 2], [], [8], [], [], [11], [], [], [], [15, 14, 13, 12, 11], [16, 15, 14, 13, 12, 11, 10], [17, 16, 15, 14, 13, 12, 11, 10, 9, 8], [], [19], [20, 19], [], [], [23], [], [], [], [27, 26, 25, 24, 23], [28, 27, 26, 25, 24, 23, 22], [29, 28, 27, 26, 25, 24, 23, 22, 21, 20, 19], [30, 29, 28, 27, 26, 25, 24, 23, 22, 21, 20, 19, 18, 17, 16, 15, 14, 13, 12, 11, 10, 9, 8, 7, 6, 5, 4, 3, 2, 1, 0]], [31]⟩ [(17, { h := .callr (vi (mget rv3 (⟨(rv5 iv10).first, (a1.getD iv18 default), (a1.getD iv26 default), (rv1.getD iv35 default)⟩ : TConsolidationSpot) 0)) }), (29, { h := .callr (vi (mget rv3 (⟨(rv5 iv10).second, (a1.getD iv26 default), (a1.getD iv18 default), (rv1.getD iv35 default)⟩ : TConsolidationSpot) 0)) }), (31, { h := .callw (AV.tup []) [(1, (bx (TApiWhole.e rv40.1))), (2, (eM (DV.i .i64) (DV.i .i64) rv40.2))] [] })] [(1, (vl a1)), (3, (AV.fn 41 [(vp 0), (vp 1)])), (8, (vl rv1)), (9, (AV.map 5)), (11, (vp 6)), (13, (vi (a1.getD iv18 default))), (15, (vi (a1.getD iv26 default))), (23, (AV.d (eA 4 2 TConsolidationMutual.e rv5))), (24, (vi (iv10 : Int))), (27, (vl a1)), (28, (vi (a1.length : Int))), (29, (vi (iv18 : Int))), (33, (vl a1)), (34, (vi (a1.length : Int))), (35, (vi (iv26 : Int))), (42, (vl rv1)), (43, (vi (rv1.length : Int))), (44, (vi (iv35 : Int)))] [(Ob.box (AV.map 2)), (bx (TApiWhole.e rv40.1)), (eM (DV.i .i64) (DV.i .i64) rv40.2), (bx (TApiLedger.e a0)), Ob.dead, (eM TConsolidationSpot.e (DV.i .i64) rv3), (bx (TConsolidationMutual.e (rv5 iv10)))] [LookOk Try.prog [(Ob.box (AV.map 2)), (bx (TApiWhole.e sv34.1)), (eM (DV.i .i64) (DV.i .i64) sv34.2), (bx (TApiLedger.e a0)), Ob.dead, (eM TConsolidationSpot.e (DV.i .i64) rv3), (bx (TConsolidationMutual.e (rv5 iv10)))] 89 (AV.map 5) (AV.d (TConsolidationSpot.e (⟨(rv5 iv10).first, (a1.getD iv18 default), (a1.getD iv26 default), (rv1.getD iv35 default)⟩ : TConsolidationSpot))) false (vi (mget rv3 (⟨(rv5 iv10).first, (a1.getD iv18 default), (a1.getD iv26 default), (rv1.getD iv35 default)⟩ : TConsolidationSpot) 0)), LookOk Try.prog [(Ob.box (AV.map 2)), (bx (TApiWhole.e sv34.1)), (eM (DV.i .i64) (DV.i .i64) sv34.2), (bx (TApiLedger.e a0)), Ob.dead, (eM TConsolidationSpot.e (DV.i .i64) rv3), (bx (TConsolidationMutual.e (rv5 iv10)))] 89 (AV.map 5) (AV.d (TConsolidationSpot.e (⟨(rv5 iv10).second, (a1.getD iv26 default), (a1.getD iv18 default), (rv1.getD iv35 default)⟩ : TConsolidationSpot))) false (vi (mget rv3 (⟨(rv5 iv10).second, (a1.getD iv26 default), (a1.getD iv18 default), (rv1.getD iv35 default)⟩ : TConsolidationSpot) 0)), CallOk Try.prog 41 [(AV.d (TConsolidationMutual.e (rv5 iv10))), (AV.d (DV.agg [(DV.i .i64 ((rv5 iv10).kind)), (DV.i .i64 (a1.getD iv18 default)), (DV.i .i64 (a1.getD iv26 default)), (DV.i .i64 (rv1.getD iv35 default)), (DV.i .i64 0)])), (vi (IntKind.i64.wrap (((rv5 iv10).sign) * (mget rv3 (⟨(rv5 iv10).first, (a1.getD iv18 default), (a1.getD iv26 default), (rv1.getD iv35 default)⟩ : TConsolidationSpot) 0)))), (vi (IntKind.i64.wrap ((IntKind.i64.wrap (0 - ((rv5 iv10).sign))) * (mget rv3 (⟨(rv5 iv10).second, (a1.getD iv26 default), (a1.getD iv18 default), (rv1.getD iv35 default)⟩ : TConsolidationSpot) 0)))), (vp 0), (vp 1)] [(Ob.box (AV.map 2)), (bx (TApiWhole.e sv34.1)), (eM (DV.i .i64) (DV.i .i64) sv34.2), (bx (TApiLedger.e a0)), Ob.dead, (eM TConsolidationSpot.e (DV.i .i64) rv3), (bx (TConsolidationMutual.e (rv5 iv10)))] (AV.tup []) [(Ob.box (AV.map 2)), (bx (TApiWhole.e rv40.1)), (eM (DV.i .i64) (DV.i .i64) rv40.2), (bx (TApiLedger.e a0)), Ob.dead, (eM TConsolidationSpot.e (DV.i .i64) rv3), (bx (TConsolidationMutual.e (rv5 iv10)))]] (by kernel_rfl) (by kernel_rfl) (by kernel_rfl) (And.intro (look_ok (kt := 92) (et := 3) (eK := TConsolidationSpot.e) (eV := (DV.i .i64)) (l := rv3) (k := (⟨(rv5 iv10).first, (a1.getD iv18 default), (a1.getD iv26 default), (rv1.getD iv35 default)⟩ : TConsolidationSpot)) (z := 0) (by kernel_rfl) rfl keyEq92 (by kernel_rfl)) (And.intro (look_ok (kt := 92) (et := 3) (eK := TConsolidationSpot.e) (eV := (DV.i .i64)) (l := rv3) (k := (⟨(rv5 iv10).second, (a1.getD iv26 default), (a1.getD iv18 default), (rv1.getD iv35 default)⟩ : TConsolidationSpot)) (z := 0) (by kernel_rfl) rfl keyEq92 (by kernel_rfl)) (And.intro ((F41_ok hrv41).ca [0, 1, 2] (by kernel_rfl)) trivial))) ?_
                    refine aws_nil ?_
                    obtain rfl := Option.some.inj hxv38
                    exact ⟨_, rfl, ⟨(fA (by kernel_rfl)), .inl rfl⟩⟩
                  · subst hq
                    refine gT [] [(1, (vl a1)), (3, (AV.fn 41 [(vp 0), (vp 1)])), (8, (vl rv1)), (9, (AV.map 5)), (11, (vp 6)), (13, (vi (a1.getD iv18 default))), (15, (vi (a1.getD iv26 default))), (23, (AV.d (eA 4 2 TConsolidationMutual.e rv5))), (24, (vi (iv10 : Int))), (27, (vl a1)), (28, (vi (a1.length : Int))), (29, (vi (iv18 : Int))), (33, (vl a1)), (34, (vi (a1.length : Int))), (35, (vi (iv26 : Int))), (42, (vl rv1)), (43, (vi (rv1.length : Int))), (44, (vi (IntKind.i64.wrap ((iv35 : Int) + 1))))] (by kernel_rfl) ?_
                    refine aws_nil ?_
                    obtain rfl := Option.some.inj h
                    exact ⟨_, rfl, ⟨(fq 0 rfl (fq 1 rfl (fq 2 rfl (fq 3 rfl (fq 4 rfl (fq 5 rfl (fq 6 rfl (fq 7 rfl (fq 8 rfl (fq 9 rfl (fq 10 rfl (fq 11 rfl (fq 12 rfl (fq 13 rfl (fq 14 rfl (fq 15 rfl (fq 16 rfl (frLe_at (k := 17) rfl (LeV.of_eq (congrArg (fun n => AV.d (DV.i .i64 n)) (wrap_succ (by omega)))) frLe_nil)))))))))))))))))), .inl rfl⟩⟩
                · refine aws_seq (gT [] [(1, (vl a1)), (3, (AV.fn 41 [(vp 0), (vp 1)])), (8, (vl rv1)), (9, (AV.map 5)), (11, (vp 6)), (13, (vi (a1.getD iv18 default))), (15, (vi (a1.getD iv26 default))), (23, (AV.d (eA 4 2 TConsolidationMutual.e rv5))), (24, (vi (iv10 : Int))), (27, (vl a1)), (28, (vi (a1.length : Int))), (29, (vi (iv18 : Int))), (33, (vl a1)), (34, (vi (a1.length : Int))), (35, (vi (iv26 : Int))), (42, (vl rv1)), (43, (vi (rv1.length : Int))), (44, (vi ((rv1.length : Nat) : Int))), (45, (vb (decide (((rv1.length : Nat) : Int) < (rv1.length : Int)))))] (by kernel_rfl) ?_)
                  refine aws_seq (aws_cond (b := (decide (((rv1.length : Nat) : Int) < (rv1.length : Int)))) (by kernel_rfl) (fun hbv42 => absurd hbv42 (Bool.eq_false_iff.mp (decide_eq_false (by omega)))) (fun hbv42 => ?_))
                  refine aws_exit ?_
                  exact ⟨rfl, _, rfl, ⟨(fA (by kernel_rfl)), .inl rfl⟩⟩
                · subst e
                  exact nomatch (show (none : Option _) = some _ from hxv29)
                · subst e
                  refine aws_nil ?_
                  obtain rfl := Option.some.inj hxv29
                  exact ⟨_, rfl, ⟨(fA (by kernel_rfl)), .inl rfl⟩⟩
            · subst hq
              refine gT [] [(1, (vl a1)), (3, (AV.fn 41 [(vp 0), (vp 1)])), (8, (vl rv1)), (9, (AV.map 5)), (11, (vp 6)), (13, (vi (a1.getD iv18 default))), (23, (AV.d (eA 4 2 TConsolidationMutual.e rv5))), (24, (vi (iv10 : Int))), (27, (vl a1)), (28, (vi (a1.length : Int))), (29, (vi (iv18 : Int))), (33, (vl a1)), (34, (vi (a1.length : Int))), (35, (vi (IntKind.i64.wrap ((iv26 : Int) + 1))))] (by kernel_rfl) ?_
              refine aws_nil ?_
              obtain rfl := Option.some.inj h
              exact ⟨_, rfl, ⟨(fq 0 rfl (fq 1 rfl (fq 2 rfl (fq 3 rfl (fq 4 rfl (fq 5 rfl (fq 6 rfl (fq 7 rfl (fq 8 rfl (fq 9 rfl (fq 10 rfl (fq 11 rfl (fq 12 rfl (frLe_at (k := 13) rfl (LeV.of_eq (congrArg (fun n => AV.d (DV.i .i64 n)) (wrap_succ (by omega)))) frLe_nil)))))))))))))), .inl rfl⟩⟩
          · refine aws_seq (gT [] [(1, (vl a1)), (3, (AV.fn 41 [(vp 0), (vp 1)])), (8, (vl rv1)), (9, (AV.map 5)), (11, (vp 6)), (13, (vi (a1.getD iv18 default))), (23, (AV.d (eA 4 2 TConsolidationMutual.e rv5))), (24, (vi (iv10 : Int))), (27, (vl a1)), (28, (vi (a1.length : Int))), (29, (vi (iv18 : Int))), (33, (vl a1)), (34, (vi (a1.length : Int))), (35, (vi ((a1.length : Nat) : Int))), (36, (vb (decide (((a1.length : Nat) : Int) < (a1.length : Int)))))] (by kernel_rfl) ?_)
            refine aws_seq (aws_cond (b := (decide (((a1.length : Nat) : Int) < (a1.length : Int)))) (by kernel_rfl) (fun hbv43 => absurd hbv43 (Bool.eq_false_iff.mp (decide_eq_false (by omega)))) (fun hbv43 => ?_))
            refine aws_exit ?_
            exact ⟨rfl, _, rfl, ⟨(fA (by kernel_rfl)), .inl rfl⟩⟩
          · subst e
            exact nomatch (show (none : Option _) = some _ from hxv21)
          · subst e
            refine aws_nil ?_
            obtain rfl := Option.some.inj hxv21
            exact ⟨_, rfl, ⟨(fA (by kernel_rfl)), .inl rfl⟩⟩
        · subst hq
          refine gT [] [(1, (vl a1)), (3, (AV.fn 41 [(vp 0), (vp 1)])), (8, (vl rv1)), (9, (AV.map 5)), (11, (vp 6)), (23, (AV.d (eA 4 2 TConsolidationMutual.e rv5))), (24, (vi (iv10 : Int))), (27, (vl a1)), (28, (vi (a1.length : Int))), (29, (vi (IntKind.i64.wrap ((iv18 : Int) + 1))))] (by kernel_rfl) ?_
          refine aws_nil ?_
          obtain rfl := Option.some.inj h
          exact ⟨_, rfl, ⟨(fq 0 rfl (fq 1 rfl (fq 2 rfl (fq 3 rfl (fq 4 rfl (fq 5 rfl (fq 6 rfl (fq 7 rfl (fq 8 rfl (frLe_at (k := 9) rfl (LeV.of_eq (congrArg (fun n => AV.d (DV.i .i64 n)) (wrap_succ (by omega)))) frLe_nil)))))))))), .inl rfl⟩⟩
      · refine aws_seq (gT [] [(1, (vl a1)), (3, (AV.fn 41 [(vp 0), (vp 1)])), (8, (vl rv1)), (9, (AV.map 5)), (11, (vp 6)), (23, (AV.d (eA 4 2 TConsolidationMutual.e rv5))), (24, (vi (iv10 : Int))), (27, (vl a1)), (28, (vi (a1.length : Int))), (29, (vi ((a1.length : Nat) : Int))), (30, (vb (decide (((a1.length : Nat) : Int) < (a1.length : Int)))))] (by kernel_rfl) ?_)
        refine aws_seq (aws_cond (b := (decide (((a1.length : Nat) : Int) < (a1.length : Int)))) (by kernel_rfl) (fun hbv44 => absurd hbv44 (Bool.eq_false_iff.mp (decide_eq_false (by omega)))) (fun hbv44 => ?_))
        refine aws_exit ?_
        exact ⟨rfl, _, rfl, ⟨(fA (by kernel_rfl)), .inl rfl⟩⟩
      · subst e
        exact nomatch (show (none : Option _) = some _ from hxv13)
      · subst e
        refine aws_nil ?_
        obtain rfl := Option.some.inj hxv13
        exact ⟨_, rfl, ⟨(fA (by kernel_rfl)), .inr ⟨⟨[(bx (TConsolidationMutual.e (rv5 iv10)))], rfl, lsOk (And.intro rfl (And.intro rfl (And.intro (eM_lt _ _ _ _) (And.intro rfl (And.intro trivial (And.intro (eM_lt _ _ _ _) trivial))))))⟩, List.all_eq_true.1 (by kernel_rfl)⟩⟩⟩
    · subst hq
      refine gT [] [(1, (vl a1)), (3, (AV.fn 41 [(vp 0), (vp 1)])), (8, (vl rv1)), (9, (AV.map 5)), (23, (AV.d (eA 4 2 TConsolidationMutual.e rv5))), (24, (vi (IntKind.i64.wrap ((iv10 : Int) + 1))))] (by kernel_rfl) ?_
      refine aws_nil ?_
      obtain rfl := Option.some.inj h
      exact ⟨_, rfl, ⟨(fq 0 rfl (fq 1 rfl (fq 2 rfl (fq 3 rfl (fq 4 rfl (frLe_at (k := 5) rfl (LeV.of_eq (congrArg (fun n => AV.d (DV.i .i64 n)) (wrap_succ (by omega)))) frLe_nil)))))), .inl rfl⟩⟩
  · refine aws_seq (gT [] [(1, (vl a1)), (3, (AV.fn 41 [(vp 0), (vp 1)])), (8, (vl rv1)), (9, (AV.map 5)), (23, (AV.d (eA 4 2 TConsolidationMutual.e rv5))), (24, (vi ((2 : Nat) : Int))), (25, (vb (decide (((2 : Nat) : Int) < 2))))] (by kernel_rfl) ?_)
    refine aws_seq (aws_cond (b := (decide (((2 : Nat) : Int) < 2))) (by kernel_rfl) (fun hbv45 => absurd hbv45 (Bool.eq_false_iff.mp (decide_eq_false (by omega)))) (fun hbv45 => ?_))
    refine aws_exit ?_
    exact ⟨rfl, _, rfl, ⟨frLe_nil, .inl rfl⟩⟩
  · subst e
    exact nomatch (show (none : Option _) = some _ from h)
  · subst e
    refine aws_nil ?_
    obtain rfl := Option.some.inj h
    exact ⟨.inl rfl, ⟨_, [], [(bx (TApiLedger.e a0)), Ob.dead, (eM TConsolidationSpot.e (DV.i .i64) rv3)], by kernel_rfl, trivial, (LeV.refl _), rfl⟩⟩

end Go.Proofs.Ytkkdclpleghppaa
