/- A part of the proof: what the functions compute, and that their calls return it. No condition. -/
import Derived.Test.YtkkdclpleghppaaG43D
import Derived.Test.YtkkdclpleghppaaLayX
import Derived.Test.YtkkdclpleghppaaG43P0
import Derived.Test.YtkkdclpleghppaaG43P1
import Derived.Test.YtkkdclpleghppaaG43P2
/- Calls of the functions return what the Lean functions say. No condition. -/
namespace Go.Proofs.Ytkkdclpleghppaa
open Go Go.TA

/-! 8 -/
theorem F8_ok {a0 : (List Int)} {r : R8} (h : F8 a0 = some r) : CallOk Try.prog 8 [(AV.d (eL (DV.i .i64) a0))] [] (V8 r) (L8 r) := by
  refine callOk_of_aw Try.func8 rfl (Nat.le_of_ble_eq_true (by kernel_rfl)) (Nat.le_of_ble_eq_true (by kernel_rfl)) rfl (lsOk trivial) (aw_of (Q := FQ Try.prog Try.f8 _ _) ?_)
  unfold F8 at h
  refine aws_seq ?_
  refine aws_region (hs := []) (live := [0]) (fr' := [(0, (AV.d (eL (DV.i .i64) a0)))]) (L' := []) (C := []) (by kernel_rfl) trivial ?_
  refine aws_seq ?_
  obtain ⟨r35672, hr35673, h⟩ := bind_some' h
  refine aws_region (hs := [(1, { h := .callw (AV.ptr 0 1 []) [] [(Ob.box (AV.d (TTreasuryplaySrc.e r35672)))] })]) (live := [3]) (fr' := [(3, (AV.ptr 0 1 []))]) (L' := [(Ob.box (AV.d (TTreasuryplaySrc.e r35672)))]) (C := [CallOk Try.prog 9 [(AV.d (eL (DV.i .i64) a0))] [] (AV.ptr 0 1 []) [(Ob.box (AV.d (TTreasuryplaySrc.e r35672)))]]) (by kernel_rfl) (And.intro ((F9_ok hr35673).at [] (of_decide_eq_true (by kernel_rfl)) (by kernel_rfl) (by kernel_rfl) (Nat.le_of_ble_eq_true (by kernel_rfl)) (by kernel_rfl) (by kernel_rfl) (by kernel_rfl) (by kernel_rfl)) trivial) ?_
  refine aws_seq ?_
  obtain ⟨r35674, hr35675, h⟩ := bind_some' h
  refine aws_region (hs := [(1, { h := .callw (AV.d (TApiLedger.e r35674.1)) [(0, (Ob.box (AV.d (TTreasuryplaySrc.e r35674.2))))] [] }), (2, { obs := [(1, (Ob.box (AV.d (TApiLedger.e (⟨[]⟩ : TApiLedger)))))] })]) (live := [4]) (fr' := [(4, (AV.ptr 1 1 []))]) (L' := [(Ob.box (AV.d (TTreasuryplaySrc.e r35674.2))), (Ob.box (AV.d (TApiLedger.e r35674.1)))]) (C := [CallOk Try.prog 10 [(AV.ptr 0 1 []), (AV.d (DV.i .i64 12)), (AV.d (DV.i .i64 3)), (AV.d (DV.i .i64 60))] [(Ob.box (AV.d (TTreasuryplaySrc.e r35672)))] (AV.d (TApiLedger.e r35674.1)) [(Ob.box (AV.d (TTreasuryplaySrc.e r35674.2)))], OLe (Ob.box (AV.d (DV.agg [(DV.sl 0 fun _ => DV.b false)]))) (Ob.box (AV.d (TApiLedger.e (⟨[]⟩ : TApiLedger))))]) (by kernel_rfl) (And.intro ((F10_ok hr35675).at [0] (of_decide_eq_true (by kernel_rfl)) (by kernel_rfl) (by kernel_rfl) (Nat.le_of_ble_eq_true (by kernel_rfl)) (by kernel_rfl) (by kernel_rfl) (by kernel_rfl) (by kernel_rfl)) (And.intro (oLe_box (DLe.agg (DLeL.cons DLe.sl0 DLeL.nil))) trivial)) ?_
  refine aws_seq ?_
  obtain ⟨r35676, hr35677, h⟩ := bind_some' h
  refine aws_region (hs := [(1, { cast := some (AV.d (eL (DV.i .i64) ([1, 2, 3] : List Int))) }), (2, { h := .callq (AV.tup [(AV.d (eL TApiDifference.e r35676.1)), (AV.d (DV.i .i64 r35676.2))]) })]) (live := [4, 5, 6]) (fr' := [(4, (AV.ptr 1 1 [])), (5, (AV.d (eL TApiDifference.e r35676.1))), (6, (AV.d (DV.i .i64 r35676.2)))]) (L' := [(Ob.box (AV.d (TTreasuryplaySrc.e r35674.2))), (Ob.box (AV.d (TApiLedger.e r35674.1)))]) (C := [LeV (AV.d (DV.sl 3 (listF (DV.b false) [(DV.i .i64 1), (DV.i .i64 2), (DV.i .i64 3)]))) (AV.d (eL (DV.i .i64) ([1, 2, 3] : List Int))), ∀ L, CallOk Try.prog 17 [(AV.d (TApiLedger.e r35674.1)), (AV.d (eL (DV.i .i64) ([1, 2, 3] : List Int))), (AV.d (DV.i .i64 60))] L (AV.tup [(AV.d (eL TApiDifference.e r35676.1)), (AV.d (DV.i .i64 r35676.2))]) L]) (by kernel_rfl) (And.intro (leV_lit (DV.i .i64) ([1, 2, 3] : List Int)) (And.intro (fun L => (F17_ok hr35677).pure (fun _ => rfl) (fun _ => rfl) L) trivial)) ?_
  refine aws_seq ?_
  refine aws_seq ?_
  refine aws_region (hs := []) (live := [4, 5, 26]) (fr' := [(4, (AV.ptr 1 1 [])), (5, (AV.d (eL TApiDifference.e r35676.1))), (26, (AV.d (DV.b (r35676.2 != 0))))]) (L' := [(Ob.box (AV.d (TTreasuryplaySrc.e r35674.2))), (Ob.box (AV.d (TApiLedger.e r35674.1)))]) (C := []) (by kernel_rfl) trivial ?_
  refine aws_cond (b := (r35676.2 != 0)) (by kernel_rfl) (fun hb35678 => ?_) (fun hb35678 => ?_)
  · replace h := iteT hb35678 h
    refine aws_seq ?_
    refine aws_region (hs := []) (live := [2]) (fr' := [(2, (AV.d (DV.b false)))]) (L' := [(Ob.box (AV.d (TTreasuryplaySrc.e r35674.2))), (Ob.box (AV.d (TApiLedger.e r35674.1)))]) (C := []) (by kernel_rfl) trivial ?_
    refine aws_ret ?_
    obtain rfl := Option.some.inj h
    exact ⟨.inr rfl, ⟨_, [], [(Ob.box (AV.d (TTreasuryplaySrc.e r35674.2))), (Ob.box (AV.d (TApiLedger.e r35674.1)))], by kernel_rfl, trivial, (LeV.refl _), rfl⟩⟩
  · replace h := iteF hb35678 h
    refine aws_skip ?_
    refine aws_seq ?_
    refine aws_region (hs := []) (live := [4, 5, 7]) (fr' := [(4, (AV.ptr 1 1 [])), (5, (AV.d (eL TApiDifference.e r35676.1))), (7, (AV.d (DV.i .i64 0)))]) (L' := [(Ob.box (AV.d (TTreasuryplaySrc.e r35674.2))), (Ob.box (AV.d (TApiLedger.e r35674.1)))]) (C := []) (by kernel_rfl) trivial ?_
    refine aws_seq ?_
    refine aws_seq ?_
    refine aws_region (hs := []) (live := [4, 5, 7, 8]) (fr' := [(4, (AV.ptr 1 1 [])), (5, (AV.d (eL TApiDifference.e r35676.1))), (7, (AV.d (DV.i .i64 0))), (8, (AV.d (DV.i .i64 1)))]) (L' := [(Ob.box (AV.d (TTreasuryplaySrc.e r35674.2))), (Ob.box (AV.d (TApiLedger.e r35674.1)))]) (C := []) (by kernel_rfl) trivial ?_
    obtain ⟨o38253, hx38254, h⟩ := outM_some h
    refine aws_loop (E := (fun (s36966 : Int × Int) => [(7, (AV.d (DV.i .i64 s36966.1)))])) (LE := (fun (_ : Int × Int) => [(Ob.box (AV.d (TTreasuryplaySrc.e r35674.2))), (Ob.box (AV.d (TApiLedger.e r35674.1)))])) (R := (fun x => FR Try.prog Try.f8 (V8 x) (L8 x))) (aw_iter (m := 2) (I := (fun (s36966 : Int × Int) => [(4, (AV.ptr 1 1 [])), (5, (AV.d (eL TApiDifference.e r35676.1))), (7, (AV.d (DV.i .i64 s36966.1))), (8, (AV.d (DV.i .i64 s36966.2)))])) (LI := (fun (_ : Int × Int) => [(Ob.box (AV.d (TTreasuryplaySrc.e r35674.2))), (Ob.box (AV.d (TApiLedger.e r35674.1)))])) (step := F8_b4 r35674 r35676) (fun s36966 _ h => aw_of ?_) (fun _ => rfl) hx38254 ⟨(frLe_at (k := 0) rfl (LeV.refl _) (frLe_at (k := 1) rfl (LeV.refl _) (frLe_at (k := 2) rfl (LeV.refl _) (frLe_at (k := 3) rfl (LeV.refl _) frLe_nil)))), .inl rfl⟩ (Nat.le_of_ble_eq_true (by kernel_rfl))) (fun _ => Nat.le_of_ble_eq_true (by kernel_rfl)) (fun x fr L e hr => ?_) (fun s36966 e => ?_)
    · unfold F8_b4 at h
      refine aws_seq ?_
      refine aws_seq ?_
      refine aws_region (hs := []) (live := [4, 5, 7, 8, 28]) (fr' := [(4, (AV.ptr 1 1 [])), (5, (AV.d (eL TApiDifference.e r35676.1))), (7, (AV.d (DV.i .i64 s36966.1))), (8, (AV.d (DV.i .i64 s36966.2))), (28, (AV.d (DV.b (decide (s36966.2 ≤ 3)))))]) (L' := [(Ob.box (AV.d (TTreasuryplaySrc.e r35674.2))), (Ob.box (AV.d (TApiLedger.e r35674.1)))]) (C := []) (by kernel_rfl) trivial ?_
      refine aws_cond (b := (decide (s36966.2 ≤ 3))) (by kernel_rfl) (fun hb36967 => ?_) (fun hb36967 => ?_)
      · replace h := iteT hb36967 h
        refine aws_skip ?_
        refine aws_seq ?_
        obtain ⟨o37611, hx37610, h⟩ := outM_some h
        refine aws_blockS (E := (fun (s37609 : Int) => [(4, (AV.ptr 1 1 [])), (5, (AV.d (eL TApiDifference.e r35676.1))), (7, (AV.d (DV.i .i64 s37609))), (8, (AV.d (DV.i .i64 s36966.2)))])) (LE := (fun (_ : Int) => [(Ob.box (AV.d (TTreasuryplaySrc.e r35674.2))), (Ob.box (AV.d (TApiLedger.e r35674.1)))])) (fun s => o37611 = .next s) ?_ (fun _ => Nat.le_of_ble_eq_true (by kernel_rfl)) (fun s37609 hq => ?_)
        · refine aws_seq ?_
          refine aws_region (hs := []) (live := [4, 5, 7, 8, 9]) (fr' := [(4, (AV.ptr 1 1 [])), (5, (AV.d (eL TApiDifference.e r35676.1))), (7, (AV.d (DV.i .i64 s36966.1))), (8, (AV.d (DV.i .i64 s36966.2))), (9, (AV.d (DV.i .i64 1)))]) (L' := [(Ob.box (AV.d (TTreasuryplaySrc.e r35674.2))), (Ob.box (AV.d (TApiLedger.e r35674.1)))]) (C := []) (by kernel_rfl) trivial ?_
          obtain ⟨o38250, hx38251, hx37610⟩ := outM_some hx37610
          refine aws_loop (E := (fun (s37931 : Int × Int) => [(4, (AV.ptr 1 1 [])), (5, (AV.d (eL TApiDifference.e r35676.1))), (7, (AV.d (DV.i .i64 s37931.1))), (8, (AV.d (DV.i .i64 s36966.2)))])) (LE := (fun (_ : Int × Int) => [(Ob.box (AV.d (TTreasuryplaySrc.e r35674.2))), (Ob.box (AV.d (TApiLedger.e r35674.1)))])) (R := (fun x => FR Try.prog Try.f8 (V8 x) (L8 x))) (aw_iter (m := 2) (I := (fun (s37931 : Int × Int) => [(4, (AV.ptr 1 1 [])), (5, (AV.d (eL TApiDifference.e r35676.1))), (7, (AV.d (DV.i .i64 s37931.1))), (8, (AV.d (DV.i .i64 s36966.2))), (9, (AV.d (DV.i .i64 s37931.2)))])) (LI := (fun (_ : Int × Int) => [(Ob.box (AV.d (TTreasuryplaySrc.e r35674.2))), (Ob.box (AV.d (TApiLedger.e r35674.1)))])) (step := F8_b3 r35674 r35676 s36966) (fun s37931 _ h => aw_of ?_) (fun _ => rfl) hx38251 ⟨(frLe_at (k := 0) rfl (LeV.refl _) (frLe_at (k := 1) rfl (LeV.refl _) (frLe_at (k := 2) rfl (LeV.refl _) (frLe_at (k := 3) rfl (LeV.refl _) (frLe_at (k := 4) rfl (LeV.refl _) frLe_nil))))), .inl rfl⟩ (Nat.le_of_ble_eq_true (by kernel_rfl))) (fun _ => Nat.le_of_ble_eq_true (by kernel_rfl)) (fun x fr L e hr => ?_) (fun _ e => ?_)
          · unfold F8_b3 at h
            refine aws_seq ?_
            refine aws_seq ?_
            refine aws_region (hs := []) (live := [4, 5, 7, 8, 9, 32]) (fr' := [(4, (AV.ptr 1 1 [])), (5, (AV.d (eL TApiDifference.e r35676.1))), (7, (AV.d (DV.i .i64 s37931.1))), (8, (AV.d (DV.i .i64 s36966.2))), (9, (AV.d (DV.i .i64 s37931.2))), (32, (AV.d (DV.b (decide (s37931.2 ≤ 3)))))]) (L' := [(Ob.box (AV.d (TTreasuryplaySrc.e r35674.2))), (Ob.box (AV.d (TApiLedger.e r35674.1)))]) (C := []) (by kernel_rfl) trivial ?_
            refine aws_cond (b := (decide (s37931.2 ≤ 3))) (by kernel_rfl) (fun hb37932 => ?_) (fun hb37932 => ?_)
            · replace h := iteT hb37932 h
              refine aws_skip ?_
              refine aws_seq ?_
              obtain ⟨o38092, hx38091, h⟩ := outM_some h
              refine aws_blockS (E := (fun (s38090 : Int) => [(4, (AV.ptr 1 1 [])), (5, (AV.d (eL TApiDifference.e r35676.1))), (7, (AV.d (DV.i .i64 s38090))), (8, (AV.d (DV.i .i64 s36966.2))), (9, (AV.d (DV.i .i64 s37931.2)))])) (LE := (fun (_ : Int) => [(Ob.box (AV.d (TTreasuryplaySrc.e r35674.2))), (Ob.box (AV.d (TApiLedger.e r35674.1)))])) (fun s => o38092 = .next s) ?_ (fun _ => Nat.le_of_ble_eq_true (by kernel_rfl)) (fun s38090 hq => ?_)
              · refine aws_seq ?_
                refine aws_region (hs := []) (live := [4, 5, 7, 8, 9, 10]) (fr' := [(4, (AV.ptr 1 1 [])), (5, (AV.d (eL TApiDifference.e r35676.1))), (7, (AV.d (DV.i .i64 s37931.1))), (8, (AV.d (DV.i .i64 s36966.2))), (9, (AV.d (DV.i .i64 s37931.2))), (10, (AV.d (DV.i .i64 0)))]) (L' := [(Ob.box (AV.d (TTreasuryplaySrc.e r35674.2))), (Ob.box (AV.d (TApiLedger.e r35674.1)))]) (C := []) (by kernel_rfl) trivial ?_
                obtain ⟨o38247, hx38248, hx38091⟩ := outM_some hx38091
                refine aws_loop (E := (fun (s38170 : Int × Int) => [(4, (AV.ptr 1 1 [])), (5, (AV.d (eL TApiDifference.e r35676.1))), (7, (AV.d (DV.i .i64 s38170.1))), (8, (AV.d (DV.i .i64 s36966.2))), (9, (AV.d (DV.i .i64 s37931.2)))])) (LE := (fun (_ : Int × Int) => [(Ob.box (AV.d (TTreasuryplaySrc.e r35674.2))), (Ob.box (AV.d (TApiLedger.e r35674.1)))])) (R := (fun x => FR Try.prog Try.f8 (V8 x) (L8 x))) (aw_iter (m := 2) (I := (fun (s38170 : Int × Int) => [(4, (AV.ptr 1 1 [])), (5, (AV.d (eL TApiDifference.e r35676.1))), (7, (AV.d (DV.i .i64 s38170.1))), (8, (AV.d (DV.i .i64 s36966.2))), (9, (AV.d (DV.i .i64 s37931.2))), (10, (AV.d (DV.i .i64 s38170.2)))])) (LI := (fun (_ : Int × Int) => [(Ob.box (AV.d (TTreasuryplaySrc.e r35674.2))), (Ob.box (AV.d (TApiLedger.e r35674.1)))])) (step := F8_b2 r35674 r35676 s36966 s37931) (fun s38170 _ h => aw_of ?_) (fun _ => rfl) hx38248 ⟨(frLe_at (k := 0) rfl (LeV.refl _) (frLe_at (k := 1) rfl (LeV.refl _) (frLe_at (k := 2) rfl (LeV.refl _) (frLe_at (k := 3) rfl (LeV.refl _) (frLe_at (k := 4) rfl (LeV.refl _) (frLe_at (k := 5) rfl (LeV.refl _) frLe_nil)))))), .inl rfl⟩ (Nat.le_of_ble_eq_true (by kernel_rfl))) (fun _ => Nat.le_of_ble_eq_true (by kernel_rfl)) (fun x fr L e hr => ?_) (fun _ e => ?_)
                · unfold F8_b2 at h
                  refine aws_seq ?_
                  refine aws_seq ?_
                  refine aws_region (hs := []) (live := [4, 5, 7, 8, 9, 10, 41]) (fr' := [(4, (AV.ptr 1 1 [])), (5, (AV.d (eL TApiDifference.e r35676.1))), (7, (AV.d (DV.i .i64 s38170.1))), (8, (AV.d (DV.i .i64 s36966.2))), (9, (AV.d (DV.i .i64 s37931.2))), (10, (AV.d (DV.i .i64 s38170.2))), (41, (AV.d (DV.b (bif (decide (s38170.2 ≤ 3)) then (s36966.2 != s37931.2) else false))))]) (L' := [(Ob.box (AV.d (TTreasuryplaySrc.e r35674.2))), (Ob.box (AV.d (TApiLedger.e r35674.1)))]) (C := []) (by kernel_rfl) trivial ?_
                  refine aws_cond (b := (bif (decide (s38170.2 ≤ 3)) then (s36966.2 != s37931.2) else false)) (by kernel_rfl) (fun hb38171 => ?_) (fun hb38171 => ?_)
                  · replace h := iteT hb38171 h
                    refine aws_skip ?_
                    refine aws_seq ?_
                    obtain ⟨o38210, hx38209, h⟩ := outM_some h
                    refine aws_blockS (E := (fun (s38208 : Int) => [(4, (AV.ptr 1 1 [])), (5, (AV.d (eL TApiDifference.e r35676.1))), (7, (AV.d (DV.i .i64 s38208))), (8, (AV.d (DV.i .i64 s36966.2))), (9, (AV.d (DV.i .i64 s37931.2))), (10, (AV.d (DV.i .i64 s38170.2)))])) (LE := (fun (_ : Int) => [(Ob.box (AV.d (TTreasuryplaySrc.e r35674.2))), (Ob.box (AV.d (TApiLedger.e r35674.1)))])) (fun s => o38210 = .next s) ?_ (fun _ => Nat.le_of_ble_eq_true (by kernel_rfl)) (fun s38208 hq => ?_)
                    · refine aws_seq ?_
                      obtain ⟨r38211, hr38213, hx38209⟩ := bind_some' hx38209
                      obtain ⟨r38212, hr38214, hx38209⟩ := bind_some' hx38209
                      refine aws_drawn (D := ⟨[[], [], [], [], [3, 2, 1, 0], [], [], [], [], [8, 7, 6, 5, 4, 3, 2, 1, 0], [9, 8, 7, 6, 5, 4, 3, 2, 1, 0], [10, 9, 8, 7, 6, 5, 4, 3, 2, 1, 0]], []⟩) (hs := [(4, { h := .callq (AV.d (DV.i .i64 r38211)) }), (9, { h := .callq (AV.d (DV.i .i64 r38212)) })]) (live := [4, 5, 7, 8, 9, 10, 11]) (fr' := [(4, (AV.ptr 1 1 [])), (5, (AV.d (eL TApiDifference.e r35676.1))), (7, (AV.d (DV.i .i64 s38170.1))), (8, (AV.d (DV.i .i64 s36966.2))), (9, (AV.d (DV.i .i64 s37931.2))), (10, (AV.d (DV.i .i64 s38170.2))), (11, (AV.d (DV.i .i64 (IntKind.i64.wrap (r38211 - r38212)))))]) (L' := [(Ob.box (AV.d (TTreasuryplaySrc.e r35674.2))), (Ob.box (AV.d (TApiLedger.e r35674.1)))]) (C := [∀ L, CallOk Try.prog 29 [(AV.d (TApiLedger.e r35674.1)), (AV.d (DV.i .i64 s36966.2)), (AV.d (DV.i .i64 s37931.2)), (AV.d (DV.i .i64 s38170.2)), (AV.d (DV.i .i64 60))] L (AV.d (DV.i .i64 r38211)) L, ∀ L, CallOk Try.prog 31 [(AV.d (TApiLedger.e r35674.1)), (AV.d (DV.i .i64 s37931.2)), (AV.d (DV.i .i64 s36966.2)), (AV.d (DV.i .i64 s38170.2)), (AV.d (DV.i .i64 60))] L (AV.d (DV.i .i64 r38212)) L]) (by kernel_rfl) (by kernel_rfl) (by kernel_rfl) (And.intro (fun L => (F29_ok hr38213).pure (fun _ => rfl) (fun _ => rfl) L) (And.intro (fun L => (F31_ok hr38214).pure (fun _ => rfl) (fun _ => rfl) L) trivial)) ?_
                      refine aws_seq ?_
                      obtain ⟨r38215, hr38217, hx38209⟩ := bind_some' hx38209
                      obtain ⟨r38216, hr38218, hx38209⟩ := bind_some' hx38209
                      refine aws_drawn (D := ⟨[[], [], [], [], [3, 2, 1, 0], [], [], [], [], [8, 7, 6, 5, 4, 3, 2, 1, 0], [9, 8, 7, 6, 5, 4, 3, 2, 1, 0], [10, 9, 8, 7, 6, 5, 4, 3, 2, 1, 0]], []⟩) (hs := [(4, { h := .callq (AV.d (DV.i .i64 r38215)) }), (9, { h := .callq (AV.d (DV.i .i64 r38216)) })]) (live := [4, 5, 7, 8, 9, 10, 11, 12]) (fr' := [(4, (AV.ptr 1 1 [])), (5, (AV.d (eL TApiDifference.e r35676.1))), (7, (AV.d (DV.i .i64 s38170.1))), (8, (AV.d (DV.i .i64 s36966.2))), (9, (AV.d (DV.i .i64 s37931.2))), (10, (AV.d (DV.i .i64 s38170.2))), (11, (AV.d (DV.i .i64 (IntKind.i64.wrap (r38211 - r38212))))), (12, (AV.d (DV.i .i64 (IntKind.i64.wrap (r38215 - r38216)))))]) (L' := [(Ob.box (AV.d (TTreasuryplaySrc.e r35674.2))), (Ob.box (AV.d (TApiLedger.e r35674.1)))]) (C := [∀ L, CallOk Try.prog 33 [(AV.d (TApiLedger.e r35674.1)), (AV.d (DV.i .i64 s36966.2)), (AV.d (DV.i .i64 s37931.2)), (AV.d (DV.i .i64 s38170.2)), (AV.d (DV.i .i64 60))] L (AV.d (DV.i .i64 r38215)) L, ∀ L, CallOk Try.prog 35 [(AV.d (TApiLedger.e r35674.1)), (AV.d (DV.i .i64 s37931.2)), (AV.d (DV.i .i64 s36966.2)), (AV.d (DV.i .i64 s38170.2)), (AV.d (DV.i .i64 60))] L (AV.d (DV.i .i64 r38216)) L]) (by kernel_rfl) (by kernel_rfl) (by kernel_rfl) (And.intro (fun L => (F33_ok hr38217).pure (fun _ => rfl) (fun _ => rfl) L) (And.intro (fun L => (F35_ok hr38218).pure (fun _ => rfl) (fun _ => rfl) L) trivial)) ?_
                      refine aws_seq ?_
                      refine aws_seq ?_
                      refine aws_region (hs := []) (live := [4, 5, 7, 8, 9, 10, 11, 12, 66, 67, 68]) (fr' := [(4, (AV.ptr 1 1 [])), (5, (AV.d (eL TApiDifference.e r35676.1))), (7, (AV.d (DV.i .i64 s38170.1))), (8, (AV.d (DV.i .i64 s36966.2))), (9, (AV.d (DV.i .i64 s37931.2))), (10, (AV.d (DV.i .i64 s38170.2))), (11, (AV.d (DV.i .i64 (IntKind.i64.wrap (r38211 - r38212))))), (12, (AV.d (DV.i .i64 (IntKind.i64.wrap (r38215 - r38216))))), (66, (AV.d (eL TApiDifference.e r35676.1))), (67, (AV.d (DV.i .i64 (r35676.1.length : Int)))), (68, (AV.d (DV.i .i64 0)))]) (L' := [(Ob.box (AV.d (TTreasuryplaySrc.e r35674.2))), (Ob.box (AV.d (TApiLedger.e r35674.1)))]) (C := []) (by kernel_rfl) trivial ?_
                      obtain ⟨o38237, hx38238, hx38209⟩ := outM_some hx38209
                      refine aws_lenL (k := 1) (t := 5) (e := TApiDifference.e) (l := r35676.1) rfl (by simp) (fun hn => ?_)
                      refine aws_loop (E := (fun (s38228 : Int) => [(4, (AV.ptr 1 1 [])), (5, (AV.d (eL TApiDifference.e r35676.1))), (7, (AV.d (DV.i .i64 s38228))), (8, (AV.d (DV.i .i64 s36966.2))), (9, (AV.d (DV.i .i64 s37931.2))), (10, (AV.d (DV.i .i64 s38170.2))), (11, (AV.d (DV.i .i64 (IntKind.i64.wrap (r38211 - r38212))))), (12, (AV.d (DV.i .i64 (IntKind.i64.wrap (r38215 - r38216)))))])) (LE := (fun (_ : Int) => [(Ob.box (AV.d (TTreasuryplaySrc.e r35674.2))), (Ob.box (AV.d (TApiLedger.e r35674.1)))])) (R := (fun x => FR Try.prog Try.f8 (V8 x) (L8 x))) (aw_range (n := r35676.1.length) (m := 2) (I := (fun (i38219 : Nat) (s38228 : Int) => [(4, (AV.ptr 1 1 [])), (5, (AV.d (eL TApiDifference.e r35676.1))), (7, (AV.d (DV.i .i64 s38228))), (8, (AV.d (DV.i .i64 s36966.2))), (9, (AV.d (DV.i .i64 s37931.2))), (10, (AV.d (DV.i .i64 s38170.2))), (11, (AV.d (DV.i .i64 (IntKind.i64.wrap (r38211 - r38212))))), (12, (AV.d (DV.i .i64 (IntKind.i64.wrap (r38215 - r38216))))), (66, (AV.d (eL TApiDifference.e r35676.1))), (67, (AV.d (DV.i .i64 (r35676.1.length : Int)))), (68, (AV.d (DV.i .i64 (i38219 : Int))))])) (LI := (fun (_ : Nat) => (fun (_ : Int) => [(Ob.box (AV.d (TTreasuryplaySrc.e r35674.2))), (Ob.box (AV.d (TApiLedger.e r35674.1)))]))) (body := F8_b1 r35676 s36966 s37931 s38170 r38211 r38212 r38215 r38216) (fun i38219 s38228 _ hi h => aw_of ?_) (fun s38228 => aw_of ?_) (fun _ _ => rfl) (Nat.zero_add _) hx38238 ⟨(frLe_at (k := 0) rfl (LeV.refl _) (frLe_at (k := 1) rfl (LeV.refl _) (frLe_at (k := 2) rfl (LeV.refl _) (frLe_at (k := 3) rfl (LeV.refl _) (frLe_at (k := 4) rfl (LeV.refl _) (frLe_at (k := 5) rfl (LeV.refl _) (frLe_at (k := 6) rfl (LeV.refl _) (frLe_at (k := 7) rfl (LeV.refl _) (frLe_at (k := 8) rfl (LeV.refl _) (frLe_at (k := 9) rfl (LeV.refl _) (frLe_at (k := 10) rfl (LeV.refl _) frLe_nil))))))))))), .inl rfl⟩ (Nat.le_of_ble_eq_true (by kernel_rfl))) (fun _ => Nat.le_of_ble_eq_true (by kernel_rfl)) (fun x fr L e hr => ?_) (fun s38228 e => ?_)
                      · unfold F8_b1 at h
                        refine aws_seq ?_
                        refine aws_region (hs := []) (live := [4, 5, 7, 8, 9, 10, 11, 12, 66, 67, 68, 69]) (fr' := [(4, (AV.ptr 1 1 [])), (5, (AV.d (eL TApiDifference.e r35676.1))), (7, (AV.d (DV.i .i64 s38228))), (8, (AV.d (DV.i .i64 s36966.2))), (9, (AV.d (DV.i .i64 s37931.2))), (10, (AV.d (DV.i .i64 s38170.2))), (11, (AV.d (DV.i .i64 (IntKind.i64.wrap (r38211 - r38212))))), (12, (AV.d (DV.i .i64 (IntKind.i64.wrap (r38215 - r38216))))), (66, (AV.d (eL TApiDifference.e r35676.1))), (67, (AV.d (DV.i .i64 (r35676.1.length : Int)))), (68, (AV.d (DV.i .i64 (i38219 : Int)))), (69, (AV.d (DV.b (decide ((i38219 : Int) < (r35676.1.length : Int))))))]) (L' := [(Ob.box (AV.d (TTreasuryplaySrc.e r35674.2))), (Ob.box (AV.d (TApiLedger.e r35674.1)))]) (C := []) (by kernel_rfl) trivial ?_
                        refine aws_seq ?_
                        refine aws_cond (b := (decide ((i38219 : Int) < (r35676.1.length : Int)))) (by kernel_rfl) (fun hb38229 => ?_) (fun hb38229 => absurd (hb38229.symm.trans (decide_eq_true (by omega))) Bool.false_ne_true)
                        refine aws_skip ?_
                        refine aws_seq ?_
                        obtain ⟨o38234, hx38233, h⟩ := outM_some h
                        refine aws_blockS (E := (fun (s38232 : Int) => [(4, (AV.ptr 1 1 [])), (5, (AV.d (eL TApiDifference.e r35676.1))), (7, (AV.d (DV.i .i64 s38232))), (8, (AV.d (DV.i .i64 s36966.2))), (9, (AV.d (DV.i .i64 s37931.2))), (10, (AV.d (DV.i .i64 s38170.2))), (11, (AV.d (DV.i .i64 (IntKind.i64.wrap (r38211 - r38212))))), (12, (AV.d (DV.i .i64 (IntKind.i64.wrap (r38215 - r38216))))), (66, (AV.d (eL TApiDifference.e r35676.1))), (67, (AV.d (DV.i .i64 (r35676.1.length : Int)))), (68, (AV.d (DV.i .i64 (i38219 : Int))))])) (LE := (fun (_ : Int) => [(Ob.box (AV.d (TTreasuryplaySrc.e r35674.2))), (Ob.box (AV.d (TApiLedger.e r35674.1)))])) (fun s => o38234 = .next s) ?_ (fun _ => Nat.le_of_ble_eq_true (by kernel_rfl)) (fun s38232 hq => ?_)
                        · refine aws_seq ?_
                          refine aws_region (hs := []) (live := [4, 5, 7, 8, 9, 10, 11, 12, 14, 66, 67, 68]) (fr' := [(4, (AV.ptr 1 1 [])), (5, (AV.d (eL TApiDifference.e r35676.1))), (7, (AV.d (DV.i .i64 s38228))), (8, (AV.d (DV.i .i64 s36966.2))), (9, (AV.d (DV.i .i64 s37931.2))), (10, (AV.d (DV.i .i64 s38170.2))), (11, (AV.d (DV.i .i64 (IntKind.i64.wrap (r38211 - r38212))))), (12, (AV.d (DV.i .i64 (IntKind.i64.wrap (r38215 - r38216))))), (14, (AV.ptr 2 1 [])), (66, (AV.d (eL TApiDifference.e r35676.1))), (67, (AV.d (DV.i .i64 (r35676.1.length : Int)))), (68, (AV.d (DV.i .i64 (i38219 : Int))))]) (L' := [(Ob.box (AV.d (TTreasuryplaySrc.e r35674.2))), (Ob.box (AV.d (TApiLedger.e r35674.1))), (Ob.box (AV.d (TApiDifference.e (r35676.1.getD i38219 default))))]) (C := [(0 : Int) ≤ (i38219 : Int), i38219 < r35676.1.length]) (by kernel_rfl) (And.intro (Int.natCast_nonneg _) (And.intro hi trivial)) ?_
                          refine aws_seq ?_
                          refine aws_seq ?_
                          refine aws_region (hs := []) (live := [4, 5, 7, 8, 9, 10, 11, 12, 14, 66, 67, 68, 87]) (fr' := [(4, (AV.ptr 1 1 [])), (5, (AV.d (eL TApiDifference.e r35676.1))), (7, (AV.d (DV.i .i64 s38228))), (8, (AV.d (DV.i .i64 s36966.2))), (9, (AV.d (DV.i .i64 s37931.2))), (10, (AV.d (DV.i .i64 s38170.2))), (11, (AV.d (DV.i .i64 (IntKind.i64.wrap (r38211 - r38212))))), (12, (AV.d (DV.i .i64 (IntKind.i64.wrap (r38215 - r38216))))), (14, (AV.ptr 2 1 [])), (66, (AV.d (eL TApiDifference.e r35676.1))), (67, (AV.d (DV.i .i64 (r35676.1.length : Int)))), (68, (AV.d (DV.i .i64 (i38219 : Int)))), (87, (AV.d (DV.b (bif (bif (((r35676.1.getD i38219 default).A) != s36966.2) then true else (((r35676.1.getD i38219 default).B) != s37931.2)) then true else (((r35676.1.getD i38219 default).Ref) != s38170.2)))))]) (L' := [(Ob.box (AV.d (TTreasuryplaySrc.e r35674.2))), (Ob.box (AV.d (TApiLedger.e r35674.1))), (Ob.box (AV.d (TApiDifference.e (r35676.1.getD i38219 default))))]) (C := []) (by kernel_rfl) trivial ?_
                          refine aws_cond (b := (bif (bif (((r35676.1.getD i38219 default).A) != s36966.2) then true else (((r35676.1.getD i38219 default).B) != s37931.2)) then true else (((r35676.1.getD i38219 default).Ref) != s38170.2))) (by kernel_rfl) (fun hb38235 => ?_) (fun hb38235 => ?_)
                          · replace hx38233 := iteT hb38235 hx38233
                            refine aws_exit ?_
                            simp only [if_true]
                            obtain rfl := Option.some.inj hx38233
                            exact ⟨_, rfl, ⟨(frLe_at (k := 0) rfl (LeV.refl _) (frLe_at (k := 1) rfl (LeV.refl _) (frLe_at (k := 2) rfl (LeV.refl _) (frLe_at (k := 3) rfl (LeV.refl _) (frLe_at (k := 4) rfl (LeV.refl _) (frLe_at (k := 5) rfl (LeV.refl _) (frLe_at (k := 6) rfl (LeV.refl _) (frLe_at (k := 7) rfl (LeV.refl _) (frLe_at (k := 9) rfl (LeV.refl _) (frLe_at (k := 10) rfl (LeV.refl _) (frLe_at (k := 11) rfl (LeV.refl _) frLe_nil))))))))))), .inr ⟨⟨[(Ob.box (AV.d (TApiDifference.e (r35676.1.getD i38219 default))))], rfl, lsOk (And.intro rfl (And.intro rfl trivial))⟩, List.all_eq_true.1 (by kernel_rfl)⟩⟩⟩
                          · replace hx38233 := iteF hb38235 hx38233
                            refine aws_skip ?_
                            refine aws_seq ?_
                            refine aws_region (hs := []) (live := [4, 5, 7, 8, 9, 10, 11, 12, 14, 66, 67, 68]) (fr' := [(4, (AV.ptr 1 1 [])), (5, (AV.d (eL TApiDifference.e r35676.1))), (7, (AV.d (DV.i .i64 (IntKind.i64.wrap (s38228 + 1))))), (8, (AV.d (DV.i .i64 s36966.2))), (9, (AV.d (DV.i .i64 s37931.2))), (10, (AV.d (DV.i .i64 s38170.2))), (11, (AV.d (DV.i .i64 (IntKind.i64.wrap (r38211 - r38212))))), (12, (AV.d (DV.i .i64 (IntKind.i64.wrap (r38215 - r38216))))), (14, (AV.ptr 2 1 [])), (66, (AV.d (eL TApiDifference.e r35676.1))), (67, (AV.d (DV.i .i64 (r35676.1.length : Int)))), (68, (AV.d (DV.i .i64 (i38219 : Int))))]) (L' := [(Ob.box (AV.d (TTreasuryplaySrc.e r35674.2))), (Ob.box (AV.d (TApiLedger.e r35674.1))), (Ob.box (AV.d (TApiDifference.e (r35676.1.getD i38219 default))))]) (C := []) (by kernel_rfl) trivial ?_
                            refine aws_seq ?_
                            refine aws_region (hs := []) (live := [4, 5, 7, 8, 9, 10, 11, 12, 66, 67, 68, 114]) (fr' := [(4, (AV.ptr 1 1 [])), (5, (AV.d (eL TApiDifference.e r35676.1))), (7, (AV.d (DV.i .i64 (IntKind.i64.wrap (s38228 + 1))))), (8, (AV.d (DV.i .i64 s36966.2))), (9, (AV.d (DV.i .i64 s37931.2))), (10, (AV.d (DV.i .i64 s38170.2))), (11, (AV.d (DV.i .i64 (IntKind.i64.wrap (r38211 - r38212))))), (12, (AV.d (DV.i .i64 (IntKind.i64.wrap (r38215 - r38216))))), (66, (AV.d (eL TApiDifference.e r35676.1))), (67, (AV.d (DV.i .i64 (r35676.1.length : Int)))), (68, (AV.d (DV.i .i64 (i38219 : Int)))), (114, (AV.d (DV.b (bif (bif (bif (((r35676.1.getD i38219 default).Kind) == 1) then (((r35676.1.getD i38219 default).Amount) != (IntKind.i64.wrap (r38211 - r38212))) else false) then true else (bif (((r35676.1.getD i38219 default).Kind) == 2) then (((r35676.1.getD i38219 default).Amount) != (IntKind.i64.wrap (r38215 - r38216))) else false)) then true else (((r35676.1.getD i38219 default).Amount) == 0)))))]) (L' := [(Ob.box (AV.d (TTreasuryplaySrc.e r35674.2))), (Ob.box (AV.d (TApiLedger.e r35674.1))), (Ob.box (AV.d (TApiDifference.e (r35676.1.getD i38219 default))))]) (C := []) (by kernel_rfl) trivial ?_
                            refine aws_cond (b := (bif (bif (bif (((r35676.1.getD i38219 default).Kind) == 1) then (((r35676.1.getD i38219 default).Amount) != (IntKind.i64.wrap (r38211 - r38212))) else false) then true else (bif (((r35676.1.getD i38219 default).Kind) == 2) then (((r35676.1.getD i38219 default).Amount) != (IntKind.i64.wrap (r38215 - r38216))) else false)) then true else (((r35676.1.getD i38219 default).Amount) == 0))) (by kernel_rfl) (fun hb38236 => ?_) (fun hb38236 => ?_)
                            · replace hx38233 := iteT hb38236 hx38233
                              refine aws_seq ?_
                              refine aws_region (hs := []) (live := [2]) (fr' := [(2, (AV.d (DV.b false)))]) (L' := [(Ob.box (AV.d (TTreasuryplaySrc.e r35674.2))), (Ob.box (AV.d (TApiLedger.e r35674.1))), (Ob.box (AV.d (TApiDifference.e (r35676.1.getD i38219 default))))]) (C := []) (by kernel_rfl) trivial ?_
                              refine aws_ret ?_
                              obtain rfl := Option.some.inj hx38233
                              obtain rfl := Option.some.inj h
                              exact ⟨_, rfl, ⟨_, [], [(Ob.box (AV.d (TTreasuryplaySrc.e r35674.2))), (Ob.box (AV.d (TApiLedger.e r35674.1))), (Ob.box (AV.d (TApiDifference.e (r35676.1.getD i38219 default))))], by kernel_rfl, trivial, (LeV.refl _), rfl⟩⟩
                            · replace hx38233 := iteF hb38236 hx38233
                              refine aws_skip ?_
                              refine aws_nil ?_
                              obtain rfl := Option.some.inj hx38233
                              exact ⟨_, rfl, ⟨(frLe_at (k := 0) rfl (LeV.refl _) (frLe_at (k := 1) rfl (LeV.refl _) (frLe_at (k := 2) rfl (LeV.refl _) (frLe_at (k := 3) rfl (LeV.refl _) (frLe_at (k := 4) rfl (LeV.refl _) (frLe_at (k := 5) rfl (LeV.refl _) (frLe_at (k := 6) rfl (LeV.refl _) (frLe_at (k := 7) rfl (LeV.refl _) (frLe_at (k := 8) rfl (LeV.refl _) (frLe_at (k := 9) rfl (LeV.refl _) (frLe_at (k := 10) rfl (LeV.refl _) frLe_nil))))))))))), .inr ⟨⟨[(Ob.box (AV.d (TApiDifference.e (r35676.1.getD i38219 default))))], rfl, lsOk (And.intro rfl (And.intro rfl trivial))⟩, List.all_eq_true.1 (by kernel_rfl)⟩⟩⟩
                        · subst hq
                          refine aws_region (hs := []) (live := [4, 5, 7, 8, 9, 10, 11, 12, 66, 67, 68]) (fr' := [(4, (AV.ptr 1 1 [])), (5, (AV.d (eL TApiDifference.e r35676.1))), (7, (AV.d (DV.i .i64 s38232))), (8, (AV.d (DV.i .i64 s36966.2))), (9, (AV.d (DV.i .i64 s37931.2))), (10, (AV.d (DV.i .i64 s38170.2))), (11, (AV.d (DV.i .i64 (IntKind.i64.wrap (r38211 - r38212))))), (12, (AV.d (DV.i .i64 (IntKind.i64.wrap (r38215 - r38216))))), (66, (AV.d (eL TApiDifference.e r35676.1))), (67, (AV.d (DV.i .i64 (r35676.1.length : Int)))), (68, (AV.d (DV.i .i64 (IntKind.i64.wrap ((i38219 : Int) + 1)))))]) (L' := [(Ob.box (AV.d (TTreasuryplaySrc.e r35674.2))), (Ob.box (AV.d (TApiLedger.e r35674.1)))]) (C := []) (by kernel_rfl) trivial ?_
                          refine aws_nil ?_
                          obtain rfl := Option.some.inj h
                          exact ⟨_, rfl, ⟨(frLe_at (k := 0) rfl (LeV.refl _) (frLe_at (k := 1) rfl (LeV.refl _) (frLe_at (k := 2) rfl (LeV.refl _) (frLe_at (k := 3) rfl (LeV.refl _) (frLe_at (k := 4) rfl (LeV.refl _) (frLe_at (k := 5) rfl (LeV.refl _) (frLe_at (k := 6) rfl (LeV.refl _) (frLe_at (k := 7) rfl (LeV.refl _) (frLe_at (k := 8) rfl (LeV.refl _) (frLe_at (k := 9) rfl (LeV.refl _) (frLe_at (k := 10) rfl (LeV.of_eq (congrArg (fun n => AV.d (DV.i .i64 n)) (wrap_succ (by omega)))) frLe_nil))))))))))), .inl rfl⟩⟩
                      · refine aws_seq ?_
                        refine aws_region (hs := []) (live := [4, 5, 7, 8, 9, 10, 11, 12, 66, 67, 68, 69]) (fr' := [(4, (AV.ptr 1 1 [])), (5, (AV.d (eL TApiDifference.e r35676.1))), (7, (AV.d (DV.i .i64 s38228))), (8, (AV.d (DV.i .i64 s36966.2))), (9, (AV.d (DV.i .i64 s37931.2))), (10, (AV.d (DV.i .i64 s38170.2))), (11, (AV.d (DV.i .i64 (IntKind.i64.wrap (r38211 - r38212))))), (12, (AV.d (DV.i .i64 (IntKind.i64.wrap (r38215 - r38216))))), (66, (AV.d (eL TApiDifference.e r35676.1))), (67, (AV.d (DV.i .i64 (r35676.1.length : Int)))), (68, (AV.d (DV.i .i64 ((r35676.1.length : Nat) : Int)))), (69, (AV.d (DV.b (decide (((r35676.1.length : Nat) : Int) < (r35676.1.length : Int))))))]) (L' := [(Ob.box (AV.d (TTreasuryplaySrc.e r35674.2))), (Ob.box (AV.d (TApiLedger.e r35674.1)))]) (C := []) (by kernel_rfl) trivial ?_
                        refine aws_seq ?_
                        refine aws_cond (b := (decide (((r35676.1.length : Nat) : Int) < (r35676.1.length : Int)))) (by kernel_rfl) (fun hb38246 => absurd hb38246 (Bool.eq_false_iff.mp (decide_eq_false (by omega)))) (fun hb38246 => ?_)
                        refine aws_exit ?_
                        exact ⟨rfl, _, rfl, ⟨(frLe_at (k := 0) rfl (LeV.refl _) (frLe_at (k := 1) rfl (LeV.refl _) (frLe_at (k := 2) rfl (LeV.refl _) (frLe_at (k := 3) rfl (LeV.refl _) (frLe_at (k := 4) rfl (LeV.refl _) (frLe_at (k := 5) rfl (LeV.refl _) (frLe_at (k := 6) rfl (LeV.refl _) (frLe_at (k := 7) rfl (LeV.refl _) frLe_nil)))))))), .inl rfl⟩⟩
                      · subst e
                        obtain rfl := Option.some.inj hx38209
                        obtain rfl := Option.some.inj h
                        exact ⟨_, rfl, hr⟩
                      · subst e
                        refine aws_seq ?_
                        refine aws_seq ?_
                        refine aws_region (hs := []) (live := [4, 5, 7, 8, 9, 10, 12, 117]) (fr' := [(4, (AV.ptr 1 1 [])), (5, (AV.d (eL TApiDifference.e r35676.1))), (7, (AV.d (DV.i .i64 s38228))), (8, (AV.d (DV.i .i64 s36966.2))), (9, (AV.d (DV.i .i64 s37931.2))), (10, (AV.d (DV.i .i64 s38170.2))), (12, (AV.d (DV.i .i64 (IntKind.i64.wrap (r38215 - r38216))))), (117, (AV.d (DV.b ((IntKind.i64.wrap (r38211 - r38212)) != 0))))]) (L' := [(Ob.box (AV.d (TTreasuryplaySrc.e r35674.2))), (Ob.box (AV.d (TApiLedger.e r35674.1)))]) (C := []) (by kernel_rfl) trivial ?_
                        obtain ⟨o38242, hx38241, hx38209⟩ := bind_some' hx38209
                        refine aws_cutS (E := (fun (s38240 : Int) => [(4, (AV.ptr 1 1 [])), (5, (AV.d (eL TApiDifference.e r35676.1))), (7, (AV.d (DV.i .i64 s38240))), (8, (AV.d (DV.i .i64 s36966.2))), (9, (AV.d (DV.i .i64 s37931.2))), (10, (AV.d (DV.i .i64 s38170.2))), (12, (AV.d (DV.i .i64 (IntKind.i64.wrap (r38215 - r38216)))))])) (LE := (fun (_ : Int) => [(Ob.box (AV.d (TTreasuryplaySrc.e r35674.2))), (Ob.box (AV.d (TApiLedger.e r35674.1)))])) (fun s => s = o38242) ?_ (fun _ => Nat.le_of_ble_eq_true (by kernel_rfl)) (fun s38240 hq => ?_)
                        · refine aws_cond (b := ((IntKind.i64.wrap (r38211 - r38212)) != 0)) (by kernel_rfl) (fun hb38243 => ?_) (fun hb38243 => ?_)
                          · replace hx38241 := iteT hb38243 hx38241
                            refine aws_region (hs := []) (live := [4, 5, 7, 8, 9, 10, 12]) (fr' := [(4, (AV.ptr 1 1 [])), (5, (AV.d (eL TApiDifference.e r35676.1))), (7, (AV.d (DV.i .i64 (IntKind.i64.wrap (s38228 - 1))))), (8, (AV.d (DV.i .i64 s36966.2))), (9, (AV.d (DV.i .i64 s37931.2))), (10, (AV.d (DV.i .i64 s38170.2))), (12, (AV.d (DV.i .i64 (IntKind.i64.wrap (r38215 - r38216)))))]) (L' := [(Ob.box (AV.d (TTreasuryplaySrc.e r35674.2))), (Ob.box (AV.d (TApiLedger.e r35674.1)))]) (C := []) (by kernel_rfl) trivial ?_
                            refine aws_nil ?_
                            obtain rfl := Option.some.inj hx38241
                            exact ⟨_, rfl, ⟨(frLe_at (k := 0) rfl (LeV.refl _) (frLe_at (k := 1) rfl (LeV.refl _) (frLe_at (k := 2) rfl (LeV.refl _) (frLe_at (k := 3) rfl (LeV.refl _) (frLe_at (k := 4) rfl (LeV.refl _) (frLe_at (k := 5) rfl (LeV.refl _) (frLe_at (k := 6) rfl (LeV.refl _) frLe_nil))))))), .inl rfl⟩⟩
                          · replace hx38241 := iteF hb38243 hx38241
                            refine aws_skip ?_
                            refine aws_nil ?_
                            obtain rfl := Option.some.inj hx38241
                            exact ⟨_, rfl, ⟨(frLe_at (k := 0) rfl (LeV.refl _) (frLe_at (k := 1) rfl (LeV.refl _) (frLe_at (k := 2) rfl (LeV.refl _) (frLe_at (k := 3) rfl (LeV.refl _) (frLe_at (k := 4) rfl (LeV.refl _) (frLe_at (k := 5) rfl (LeV.refl _) (frLe_at (k := 6) rfl (LeV.refl _) frLe_nil))))))), .inl rfl⟩⟩
                        · subst hq
                          refine aws_seq ?_
                          refine aws_region (hs := []) (live := [4, 5, 7, 8, 9, 10, 121]) (fr' := [(4, (AV.ptr 1 1 [])), (5, (AV.d (eL TApiDifference.e r35676.1))), (7, (AV.d (DV.i .i64 s38240))), (8, (AV.d (DV.i .i64 s36966.2))), (9, (AV.d (DV.i .i64 s37931.2))), (10, (AV.d (DV.i .i64 s38170.2))), (121, (AV.d (DV.b ((IntKind.i64.wrap (r38215 - r38216)) != 0))))]) (L' := [(Ob.box (AV.d (TTreasuryplaySrc.e r35674.2))), (Ob.box (AV.d (TApiLedger.e r35674.1)))]) (C := []) (by kernel_rfl) trivial ?_
                          refine aws_cond (b := ((IntKind.i64.wrap (r38215 - r38216)) != 0)) (by kernel_rfl) (fun hb38244 => ?_) (fun hb38244 => ?_)
                          · replace hx38209 := iteT hb38244 hx38209
                            refine aws_region (hs := []) (live := [4, 5, 7, 8, 9, 10]) (fr' := [(4, (AV.ptr 1 1 [])), (5, (AV.d (eL TApiDifference.e r35676.1))), (7, (AV.d (DV.i .i64 (IntKind.i64.wrap (s38240 - 1))))), (8, (AV.d (DV.i .i64 s36966.2))), (9, (AV.d (DV.i .i64 s37931.2))), (10, (AV.d (DV.i .i64 s38170.2)))]) (L' := [(Ob.box (AV.d (TTreasuryplaySrc.e r35674.2))), (Ob.box (AV.d (TApiLedger.e r35674.1)))]) (C := []) (by kernel_rfl) trivial ?_
                            refine aws_nil ?_
                            obtain rfl := Option.some.inj hx38209
                            exact ⟨_, rfl, ⟨(frLe_at (k := 0) rfl (LeV.refl _) (frLe_at (k := 1) rfl (LeV.refl _) (frLe_at (k := 2) rfl (LeV.refl _) (frLe_at (k := 3) rfl (LeV.refl _) (frLe_at (k := 4) rfl (LeV.refl _) (frLe_at (k := 5) rfl (LeV.refl _) frLe_nil)))))), .inl rfl⟩⟩
                          · replace hx38209 := iteF hb38244 hx38209
                            refine aws_skip ?_
                            refine aws_nil ?_
                            obtain rfl := Option.some.inj hx38209
                            exact ⟨_, rfl, ⟨(frLe_at (k := 0) rfl (LeV.refl _) (frLe_at (k := 1) rfl (LeV.refl _) (frLe_at (k := 2) rfl (LeV.refl _) (frLe_at (k := 3) rfl (LeV.refl _) (frLe_at (k := 4) rfl (LeV.refl _) (frLe_at (k := 5) rfl (LeV.refl _) frLe_nil)))))), .inl rfl⟩⟩
                    · subst hq
                      refine aws_region (hs := []) (live := [4, 5, 7, 8, 9, 10]) (fr' := [(4, (AV.ptr 1 1 [])), (5, (AV.d (eL TApiDifference.e r35676.1))), (7, (AV.d (DV.i .i64 s38208))), (8, (AV.d (DV.i .i64 s36966.2))), (9, (AV.d (DV.i .i64 s37931.2))), (10, (AV.d (DV.i .i64 (IntKind.i64.wrap (s38170.2 + 1)))))]) (L' := [(Ob.box (AV.d (TTreasuryplaySrc.e r35674.2))), (Ob.box (AV.d (TApiLedger.e r35674.1)))]) (C := []) (by kernel_rfl) trivial ?_
                      refine aws_nil ?_
                      obtain rfl := Option.some.inj h
                      exact ⟨_, rfl, ⟨(frLe_at (k := 0) rfl (LeV.refl _) (frLe_at (k := 1) rfl (LeV.refl _) (frLe_at (k := 2) rfl (LeV.refl _) (frLe_at (k := 3) rfl (LeV.refl _) (frLe_at (k := 4) rfl (LeV.refl _) (frLe_at (k := 5) rfl (LeV.refl _) frLe_nil)))))), .inl rfl⟩⟩
                  · replace h := iteF hb38171 h
                    refine aws_exit ?_
                    obtain rfl := Option.some.inj h
                    exact ⟨rfl, _, rfl, ⟨(frLe_at (k := 0) rfl (LeV.refl _) (frLe_at (k := 1) rfl (LeV.refl _) (frLe_at (k := 2) rfl (LeV.refl _) (frLe_at (k := 3) rfl (LeV.refl _) (frLe_at (k := 4) rfl (LeV.refl _) frLe_nil))))), .inl rfl⟩⟩
                · subst e
                  obtain rfl := Option.some.inj hx38091
                  obtain rfl := Option.some.inj h
                  exact ⟨_, rfl, hr⟩
                · subst e
                  refine aws_nil ?_
                  obtain rfl := Option.some.inj hx38091
                  exact ⟨_, rfl, ⟨(frLe_at (k := 0) rfl (LeV.refl _) (frLe_at (k := 1) rfl (LeV.refl _) (frLe_at (k := 2) rfl (LeV.refl _) (frLe_at (k := 3) rfl (LeV.refl _) (frLe_at (k := 4) rfl (LeV.refl _) frLe_nil))))), .inl rfl⟩⟩
              · subst hq
                refine aws_region (hs := []) (live := [4, 5, 7, 8, 9]) (fr' := [(4, (AV.ptr 1 1 [])), (5, (AV.d (eL TApiDifference.e r35676.1))), (7, (AV.d (DV.i .i64 s38090))), (8, (AV.d (DV.i .i64 s36966.2))), (9, (AV.d (DV.i .i64 (IntKind.i64.wrap (s37931.2 + 1)))))]) (L' := [(Ob.box (AV.d (TTreasuryplaySrc.e r35674.2))), (Ob.box (AV.d (TApiLedger.e r35674.1)))]) (C := []) (by kernel_rfl) trivial ?_
                refine aws_nil ?_
                obtain rfl := Option.some.inj h
                exact ⟨_, rfl, ⟨(frLe_at (k := 0) rfl (LeV.refl _) (frLe_at (k := 1) rfl (LeV.refl _) (frLe_at (k := 2) rfl (LeV.refl _) (frLe_at (k := 3) rfl (LeV.refl _) (frLe_at (k := 4) rfl (LeV.refl _) frLe_nil))))), .inl rfl⟩⟩
            · replace h := iteF hb37932 h
              refine aws_exit ?_
              obtain rfl := Option.some.inj h
              exact ⟨rfl, _, rfl, ⟨(frLe_at (k := 0) rfl (LeV.refl _) (frLe_at (k := 1) rfl (LeV.refl _) (frLe_at (k := 2) rfl (LeV.refl _) (frLe_at (k := 3) rfl (LeV.refl _) frLe_nil)))), .inl rfl⟩⟩
          · subst e
            obtain rfl := Option.some.inj hx37610
            obtain rfl := Option.some.inj h
            exact ⟨_, rfl, hr⟩
          · subst e
            refine aws_nil ?_
            obtain rfl := Option.some.inj hx37610
            exact ⟨_, rfl, ⟨(frLe_at (k := 0) rfl (LeV.refl _) (frLe_at (k := 1) rfl (LeV.refl _) (frLe_at (k := 2) rfl (LeV.refl _) (frLe_at (k := 3) rfl (LeV.refl _) frLe_nil)))), .inl rfl⟩⟩
        · subst hq
          refine aws_region (hs := []) (live := [4, 5, 7, 8]) (fr' := [(4, (AV.ptr 1 1 [])), (5, (AV.d (eL TApiDifference.e r35676.1))), (7, (AV.d (DV.i .i64 s37609))), (8, (AV.d (DV.i .i64 (IntKind.i64.wrap (s36966.2 + 1)))))]) (L' := [(Ob.box (AV.d (TTreasuryplaySrc.e r35674.2))), (Ob.box (AV.d (TApiLedger.e r35674.1)))]) (C := []) (by kernel_rfl) trivial ?_
          refine aws_nil ?_
          obtain rfl := Option.some.inj h
          exact ⟨_, rfl, ⟨(frLe_at (k := 0) rfl (LeV.refl _) (frLe_at (k := 1) rfl (LeV.refl _) (frLe_at (k := 2) rfl (LeV.refl _) (frLe_at (k := 3) rfl (LeV.refl _) frLe_nil)))), .inl rfl⟩⟩
      · replace h := iteF hb36967 h
        refine aws_exit ?_
        obtain rfl := Option.some.inj h
        exact ⟨rfl, _, rfl, ⟨(frLe_at (k := 2) rfl (LeV.refl _) frLe_nil), .inl rfl⟩⟩
    · subst e
      obtain rfl := Option.some.inj h
      exact ⟨.inr rfl, hr⟩
    · subst e
      refine aws_seq ?_
      obtain ⟨r38255, hr38256, h⟩ := bind_some' h
      refine aws_region (hs := [(3, { h := .callq (AV.d (DV.b r38255)) })]) (live := [2]) (fr' := [(2, (AV.d (DV.b (bif (s36966.1 == 0) then r38255 else false))))]) (L' := [(Ob.box (AV.d (TTreasuryplaySrc.e r35674.2))), (Ob.box (AV.d (TApiLedger.e r35674.1)))]) (C := [AllP [(s36966.1 == 0) = true] → (∀ L, CallOk Try.prog 13 [] L (AV.d (DV.b r38255)) L)]) (by kernel_rfl) (And.intro (fun hg => fun L => (F13_ok (optP_some hr38256 hg)).pure (fun _ => rfl) (fun _ => rfl) L) trivial) ?_
      refine aws_ret ?_
      obtain rfl := Option.some.inj h
      exact ⟨.inr rfl, ⟨_, [], [(Ob.box (AV.d (TTreasuryplaySrc.e r35674.2))), (Ob.box (AV.d (TApiLedger.e r35674.1)))], by kernel_rfl, trivial, (LeV.refl _), rfl⟩⟩

end Go.Proofs.Ytkkdclpleghppaa
