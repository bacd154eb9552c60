/- A part of the proof: what the functions compute, and that their calls return it. No condition. -/
import Derived.Test.YtkkdclpleghppaaG43D
import Derived.Test.YtkkdclpleghppaaLayX
import Derived.Test.YtkkdclpleghppaaTaFreeze
import Derived.Test.YtkkdclpleghppaaG43P0
/- Calls of the functions return what the Lean functions say. No condition. -/
namespace Go.Proofs.Ytkkdclpleghppaa
open Go Go.TA

/-! 42 -/
theorem F42_ok {p0 : (List (Int × Int))} {r : R42} (h : F42 p0 = some r) : CallOk Try.prog 42 [(AV.map 0)] [(eM (DV.i .i64) (DV.i .i64) p0)] (V42 r) (L42 p0 r) := by
  refine gF Try.func42 rfl (by kernel_rfl) (And.intro (eM_lt _ _ _ _) trivial) ?_
  unfold F42 at h
  refine aws_seq (gT [] [(0, (AV.map 0))] (by kernel_rfl) ?_)
  refine aws_seq (gT [] [(0, (AV.map 0)), (3, (AV.full 0 fun _ => DV.b false))] (by kernel_rfl) ?_)
  refine aws_seq (aws_seq (gT [] [(0, (AV.map 0)), (3, (AV.full 0 fun _ => DV.b false)), (5, (vi 0))] (by kernel_rfl) ?_))
  refine aws_unborn (fr' := [(0, (AV.map 0)), (3, (AV.ref 1 0 0 0)), (5, (vi 0))]) 2 (fun j => AV.d (TApiBalance.e (([] : List TApiBalance).getD j default))) (frz_keep 0 rfl (frz_nilref 1 rfl (frz_keep 2 rfl frz_nil))) (by simp) ?_
  obtain ⟨ov1, hxv2, h⟩ := outM_some h
  have hn : 600 < 2 ^ 63 := by decide
  refine aws_loop (E := (fun (sv3 : (List TApiBalance)) => [(3, (AV.ref 1 sv3.length 0 sv3.length))])) (LE := (fun (sv3 : (List TApiBalance)) => [(eM (DV.i .i64) (DV.i .i64) p0), (eS 2 TApiBalance.e sv3)])) (R := (fun x => FR Try.prog Try.f42 (V42 x) (L42 p0 x))) (aw_range (n := 600) (m := 2) (I := (fun (iv4 : Nat) (sv3 : (List TApiBalance)) => [(0, (AV.map 0)), (3, (AV.ref 1 sv3.length 0 sv3.length)), (5, (vi (iv4 : Int)))])) (LI := (fun (_ : Nat) => (fun (sv3 : (List TApiBalance)) => [(eM (DV.i .i64) (DV.i .i64) p0), (eS 2 TApiBalance.e sv3)]))) (body := F42_b1 p0) (fun iv4 sv3 _ hi h => aw_of ?_) (fun sv3 => aw_of ?_) (fun _ _ => rfl) (Nat.zero_add _) hxv2 ⟨(fA (by kernel_rfl)), .inl rfl⟩ (Nat.le_of_ble_eq_true (by kernel_rfl))) (fun _ => Nat.le_of_ble_eq_true (by kernel_rfl)) (fun x fr L e hr => ?_) (fun sv3 e => ?_)
  · unfold F42_b1 at h
    refine aws_seq (gT [] [(0, (AV.map 0)), (3, (AV.ref 1 sv3.length 0 sv3.length)), (5, (vi (iv4 : Int))), (6, (vb (decide ((iv4 : Int) < 600))))] (by kernel_rfl) ?_)
    refine aws_seq (aws_cond (b := (decide ((iv4 : Int) < 600))) (by kernel_rfl) (fun hbv5 => ?_) (fun hbv5 => absurd (hbv5.symm.trans (decide_eq_true (by omega))) Bool.false_ne_true))
    refine aws_skip (aws_seq ?_)
    obtain ⟨ov6, hxv7, h⟩ := bind_some' h
    refine aws_blockS (E := (fun (sv8 : (List TApiBalance)) => [(0, (AV.map 0)), (3, (AV.ref 1 sv8.length 0 sv8.length)), (5, (vi (iv4 : Int)))])) (LE := (fun (sv8 : (List TApiBalance)) => [(eM (DV.i .i64) (DV.i .i64) p0), (eS 2 TApiBalance.e sv8)])) (fun s => s = ov6) ?_ (fun _ => Nat.le_of_ble_eq_true (by kernel_rfl)) (fun sv8 hq => ?_)
    · refine aws_seq (gT [] [(0, (AV.map 0)), (3, (AV.ref 1 sv3.length 0 sv3.length)), (4, (vi (iv4 : Int))), (5, (vi (iv4 : Int)))] (by kernel_rfl) ?_)
      refine aws_seq (gS [(2, { h := .callr (vi (mget p0 (iv4 : Int) 0)) })] [(0, (AV.map 0)), (3, (AV.ref 1 sv3.length 0 sv3.length)), (4, (vi (iv4 : Int))), (5, (vi (iv4 : Int))), (11, (vb ((mget p0 (iv4 : Int) 0) != 0)))] [LookOk Try.prog [(eM (DV.i .i64) (DV.i .i64) p0), (eS 2 TApiBalance.e sv3)] 69 (AV.map 0) (AV.d ((DV.i .i64) (iv4 : Int))) false (vi (mget p0 (iv4 : Int) 0))] (by kernel_rfl) (And.intro (look_ok (kt := 3) (et := 3) (eK := (DV.i .i64)) (eV := (DV.i .i64)) (l := p0) (k := (iv4 : Int)) (z := 0) (by kernel_rfl) rfl keyEq3 (by kernel_rfl)) trivial) ?_)
      refine aws_cond (b := ((mget p0 (iv4 : Int) 0) != 0)) (by kernel_rfl) (fun hbv9 => ?_) (fun hbv9 => ?_)
      · replace hxv7 := iteT hbv9 hxv7
        obtain ⟨⟨hcv10, _⟩, hxv7⟩ := guardP_some hxv7
        refine gR [(4, { h := .callr (vi (mget p0 (iv4 : Int) 0)) }), (6, { cast := some (AV.d (eL TApiBalance.e ([(⟨(iv4 : Int), (mget p0 (iv4 : Int) 0)⟩ : TApiBalance)] : List TApiBalance))) }), (7, { h := .obj, cast := some (AV.ref 1 ((sv3 ++ ([(⟨(iv4 : Int), (mget p0 (iv4 : Int) 0)⟩ : TApiBalance)] : List TApiBalance)).length) 0 ((sv3 ++ ([(⟨(iv4 : Int), (mget p0 (iv4 : Int) 0)⟩ : TApiBalance)] : List TApiBalance)).length)), obs := [(1, (eS 2 TApiBalance.e (sv3 ++ ([(⟨(iv4 : Int), (mget p0 (iv4 : Int) 0)⟩ : TApiBalance)] : List TApiBalance))))] })] [(0, (AV.map 0)), (3, (AV.ref 1 ((sv3 ++ ([(⟨(iv4 : Int), (mget p0 (iv4 : Int) 0)⟩ : TApiBalance)] : List TApiBalance)).length) 0 ((sv3 ++ ([(⟨(iv4 : Int), (mget p0 (iv4 : Int) 0)⟩ : TApiBalance)] : List TApiBalance)).length))), (5, (vi (iv4 : Int)))] [(eM (DV.i .i64) (DV.i .i64) p0), (eS 2 TApiBalance.e (sv3 ++ ([(⟨(iv4 : Int), (mget p0 (iv4 : Int) 0)⟩ : TApiBalance)] : List TApiBalance)))] [LookOk Try.prog [(eM (DV.i .i64) (DV.i .i64) p0), (eS 2 TApiBalance.e sv3)] 69 (AV.map 0) (AV.d ((DV.i .i64) (iv4 : Int))) false (vi (mget p0 (iv4 : Int) 0)), LeV (AV.d (DV.sl 1 (listF (DV.b false) [(DV.agg [(DV.i .i64 (iv4 : Int)), (DV.i .i64 (mget p0 (iv4 : Int) 0))])]))) (AV.d (eL TApiBalance.e ([(⟨(iv4 : Int), (mget p0 (iv4 : Int) 0)⟩ : TApiBalance)] : List TApiBalance))), sv3.length = sv3.length, sv3.length = sv3.length, ∀ k, k < 1 → (AV.d (TApiBalance.e (([(⟨(iv4 : Int), (mget p0 (iv4 : Int) 0)⟩ : TApiBalance)] : List TApiBalance).getD k default))).wd = 2, (sv3.length + 1) * (2 * 16) ≤ 2 ^ 48, LeV (AV.ref 1 (sv3.length + 1) 0 (sv3.length + 1)) (AV.ref 1 ((sv3 ++ ([(⟨(iv4 : Int), (mget p0 (iv4 : Int) 0)⟩ : TApiBalance)] : List TApiBalance)).length) 0 ((sv3 ++ ([(⟨(iv4 : Int), (mget p0 (iv4 : Int) 0)⟩ : TApiBalance)] : List TApiBalance)).length)), OLe (Ob.seq 2 (sv3.length + 1) (catF sv3.length (fun j => AV.d (TApiBalance.e (sv3.getD j default))) (fun j => AV.d (TApiBalance.e (([(⟨(iv4 : Int), (mget p0 (iv4 : Int) 0)⟩ : TApiBalance)] : List TApiBalance).getD j default))))) (eS 2 TApiBalance.e (sv3 ++ ([(⟨(iv4 : Int), (mget p0 (iv4 : Int) 0)⟩ : TApiBalance)] : List TApiBalance)))] (by kernel_rfl) (And.intro (look_ok (kt := 3) (et := 3) (eK := (DV.i .i64)) (eV := (DV.i .i64)) (l := p0) (k := (iv4 : Int)) (z := 0) (by kernel_rfl) rfl keyEq3 (by kernel_rfl)) (And.intro (leV_lit TApiBalance.e ([(⟨(iv4 : Int), (mget p0 (iv4 : Int) 0)⟩ : TApiBalance)] : List TApiBalance)) (And.intro rfl (And.intro rfl (And.intro (fun _ _ => rfl) (And.intro hcv10 (And.intro (leV_app (o := 1) (l := sv3) (x := ([(⟨(iv4 : Int), (mget p0 (iv4 : Int) 0)⟩ : TApiBalance)] : List TApiBalance))) (And.intro (oLe_app (e := TApiBalance.e) (l := sv3) (x := ([(⟨(iv4 : Int), (mget p0 (iv4 : Int) 0)⟩ : TApiBalance)] : List TApiBalance))) trivial)))))))) ?_
        refine aws_nil ?_
        obtain rfl := Option.some.inj hxv7
        exact ⟨_, rfl, ⟨(fA (by kernel_rfl)), .inl rfl⟩⟩
      · replace hxv7 := iteF hbv9 hxv7
        refine aws_skip (aws_nil ?_)
        obtain rfl := Option.some.inj hxv7
        exact ⟨_, rfl, ⟨(fA (by kernel_rfl)), .inl rfl⟩⟩
    · subst hq
      refine gT [] [(0, (AV.map 0)), (3, (AV.ref 1 sv8.length 0 sv8.length)), (5, (vi (IntKind.i64.wrap ((iv4 : Int) + 1))))] (by kernel_rfl) ?_
      refine aws_nil ?_
      obtain rfl := Option.some.inj h
      exact ⟨_, rfl, ⟨(fq 0 rfl (fq 1 rfl (frLe_at (k := 2) rfl (LeV.of_eq (congrArg (fun n => AV.d (DV.i .i64 n)) (wrap_succ (by omega)))) frLe_nil))), .inl rfl⟩⟩
  · refine aws_seq (gT [] [(0, (AV.map 0)), (3, (AV.ref 1 sv3.length 0 sv3.length)), (5, (vi ((600 : Nat) : Int))), (6, (vb (decide (((600 : Nat) : Int) < 600))))] (by kernel_rfl) ?_)
    refine aws_seq (aws_cond (b := (decide (((600 : Nat) : Int) < 600))) (by kernel_rfl) (fun hbv11 => absurd hbv11 (Bool.eq_false_iff.mp (decide_eq_false (by omega)))) (fun hbv11 => ?_))
    refine aws_exit ?_
    exact ⟨rfl, _, rfl, ⟨(fA (by kernel_rfl)), .inl rfl⟩⟩
  · subst e
    exact nomatch (show (none : Option _) = some _ from h)
  · subst e
    refine aws_seq ?_
    obtain ⟨hn30884, h⟩ := guardP_some h
    refine aws_then (fr1 := [(2, (AV.ref 1 sv3.length 0 sv3.length))]) (L1 := [(eM (DV.i .i64) (DV.i .i64) p0), (eS 2 TApiBalance.e sv3)]) (fr2 := [(2, (AV.d (eL TApiBalance.e sv3)))]) (L2 := [(eM (DV.i .i64) (DV.i .i64) p0), Ob.dead]) (shift_freeze (o := 1) (g := fun j => TApiBalance.e (sv3.getD j default)) rfl hn30884 (.keep _ _ _ _ (Nat.ne_of_beq_eq_false rfl) (.here _ _ _ _ rfl (.nil _)))) (trF_at (k := 0) rfl (TrS.of rfl (.inr rfl) (TrV.ref (Nat.le_refl _))) trF_nil) (aw_region (hs := []) (live := [2]) (fr' := [(2, (AV.ref 1 sv3.length 0 sv3.length))]) (L' := [(eM (DV.i .i64) (DV.i .i64) p0), (eS 2 TApiBalance.e sv3)]) (C := []) (by kernel_rfl) trivial ⟨rfl, rfl, rfl⟩) ?_
    refine aws_ret ?_
    obtain rfl := Option.some.inj h
    exact ⟨.inr rfl, ⟨_, [], [Ob.dead], by kernel_rfl, trivial, (LeV.refl _), rfl⟩⟩

/-! 11 -/
theorem F11_ok {a0 : TApiLedger} {a1 : (List Int)} {a2 : Int} {r : R11} (h : F11 a0 a1 a2 = some r) : CallOk Try.prog 11 [(AV.d (TApiLedger.e a0)), (vl a1), (vi a2)] [] (V11 r) (L11 r) := by
  refine gF Try.func11 rfl (by kernel_rfl) trivial ?_
  unfold F11 at h
  refine aws_seq (gR [(3, { obs := [(3, (bx (TApiWhole.e (⟨[], 0, []⟩ : TApiWhole))))] })] [(3, (vp 0)), (4, (vp 1)), (5, (vp 2)), (6, (vp 3))] [(bx (TApiLedger.e a0)), (Ob.box (vl a1)), (Ob.box (vi a2)), (bx (TApiWhole.e (⟨[], 0, []⟩ : TApiWhole)))] [OLe (bx (DV.agg [(DV.sl 0 fun _ => DV.b false), (DV.i .i64 0), (DV.sl 0 fun _ => DV.b false)])) (bx (TApiWhole.e (⟨[], 0, []⟩ : TApiWhole)))] (by kernel_rfl) (And.intro (oLe_box (DLe.agg (DLeL.cons DLe.sl0 (DLeL.cons (DLe.refl _) (DLeL.cons DLe.sl0 DLeL.nil))))) trivial) ?_)
  refine aws_seq ?_
  obtain ⟨rv1, hrv2, h⟩ := bind_some' h
  refine gS [(3, { h := .callq (AV.tup [(AV.d (eL TApiDifference.e rv1.1)), (vi rv1.2)]) })] [(3, (vp 0)), (4, (vp 1)), (5, (vp 2)), (6, (vp 3)), (8, (AV.d (eL TApiDifference.e rv1.1))), (9, (vi rv1.2))] [_] (by kernel_rfl) (And.intro ((F17_ok hrv2).pu (fun _ => rfl) (fun _ => rfl)) trivial) ?_
  refine aws_seq (aws_seq (gT [] [(3, (vp 0)), (4, (vp 1)), (5, (vp 2)), (6, (vp 3)), (8, (AV.d (eL TApiDifference.e rv1.1))), (9, (vi rv1.2)), (20, (vb (rv1.2 != 0)))] (by kernel_rfl) ?_))
  refine aws_cond (b := (rv1.2 != 0)) (by kernel_rfl) (fun hbv3 => ?_) (fun hbv3 => ?_)
  · replace h := iteT hbv3 h
    refine aws_seq (gS [(0, { cast := some (AV.d (TApiWhole.e (⟨[], 0, []⟩ : TApiWhole))) })] [(6, (vp 3)), (7, (vi rv1.2))] [LeV (AV.d (DV.agg [(DV.sl 0 fun _ => DV.b false), (DV.i .i64 0), (DV.sl 0 fun _ => DV.b false)])) (AV.d (TApiWhole.e (⟨[], 0, []⟩ : TApiWhole)))] (by kernel_rfl) (And.intro (leV_dle rfl (DLe.agg (DLeL.cons DLe.sl0 (DLeL.cons (DLe.refl _) (DLeL.cons DLe.sl0 DLeL.nil))))) trivial) ?_)
    refine aws_ret ?_
    obtain rfl := Option.some.inj h
    exact ⟨.inr rfl, ⟨_, [], [(bx (TApiLedger.e a0)), (Ob.box (vl a1)), (Ob.box (vi a2)), (bx (TApiWhole.e (⟨[], 0, []⟩ : TApiWhole)))], by kernel_rfl, trivial, (LeV.refl _), rfl⟩⟩
  · replace h := iteF hbv3 h
    refine aws_skip (aws_seq ?_)
    obtain ⟨rv4, hrv5, h⟩ := bind_some' h
    refine gR [(3, { h := .callw (AV.map 4) [] [(eM (DV.i .i64) (DV.i .i64) rv4)] })] [(3, (vp 0)), (4, (vp 1)), (5, (vp 2)), (6, (vp 3)), (8, (AV.d (eL TApiDifference.e rv1.1))), (10, (vp 5))] [(bx (TApiLedger.e a0)), (Ob.box (vl a1)), (Ob.box (vi a2)), (bx (TApiWhole.e (⟨[], 0, []⟩ : TApiWhole))), (eM (DV.i .i64) (DV.i .i64) rv4), (Ob.box (AV.map 4))] [CallOk Try.prog 37 [(AV.d (eL TApiPosting.e a0.Postings)), (AV.fn 38 [(vp 1), (vp 2)])] [(bx (TApiLedger.e a0)), (Ob.box (vl a1)), (Ob.box (vi a2)), (bx (TApiWhole.e (⟨[], 0, []⟩ : TApiWhole)))] (AV.map 4) [(bx (TApiLedger.e a0)), (Ob.box (vl a1)), (Ob.box (vi a2)), (bx (TApiWhole.e (⟨[], 0, []⟩ : TApiWhole))), (eM (DV.i .i64) (DV.i .i64) rv4)]] (by kernel_rfl) (And.intro ((F37_38_ok hrv5).ca [1, 2] (by kernel_rfl)) trivial) ?_
    refine aws_seq (gR [(1, { cast := some (AV.d (TApiWhole.e (⟨[], 0, rv1.1⟩ : TApiWhole))) }), (2, { obs := [(6, (bx (TApiWhole.e (⟨[], 0, []⟩ : TApiWhole))))] })] [(3, (vp 0)), (4, (vp 1)), (5, (vp 2)), (6, (vp 3)), (10, (vp 5)), (11, (vp 6))] [(bx (TApiLedger.e a0)), (Ob.box (vl a1)), (Ob.box (vi a2)), (bx (TApiWhole.e (⟨[], 0, []⟩ : TApiWhole))), (eM (DV.i .i64) (DV.i .i64) rv4), (Ob.box (AV.map 4)), (bx (TApiWhole.e (⟨[], 0, rv1.1⟩ : TApiWhole)))] [LeV (AV.d (DV.agg [(DV.sl 0 fun _ => DV.b false), (DV.i .i64 0), (eL TApiDifference.e rv1.1)])) (AV.d (TApiWhole.e (⟨[], 0, rv1.1⟩ : TApiWhole))), OLe (bx (DV.agg [(DV.sl 0 fun _ => DV.b false), (DV.i .i64 0), (DV.sl 0 fun _ => DV.b false)])) (bx (TApiWhole.e (⟨[], 0, []⟩ : TApiWhole)))] (by kernel_rfl) (And.intro (leV_dle rfl (DLe.agg (DLeL.cons DLe.sl0 (DLeL.cons (DLe.refl _) (DLeL.cons (DLe.refl _) DLeL.nil))))) (And.intro (oLe_box (DLe.agg (DLeL.cons DLe.sl0 (DLeL.cons (DLe.refl _) (DLeL.cons DLe.sl0 DLeL.nil))))) trivial)) ?_)
    refine aws_seq ?_
    obtain ⟨rv6, hrv7, h⟩ := bind_some' h
    refine gR [(4, { h := .callw (AV.tup []) [(6, (bx (TApiWhole.e rv6.1))), (4, (eM (DV.i .i64) (DV.i .i64) rv6.2))] [] })] [(6, (vp 3)), (10, (vp 5)), (11, (vp 6))] [(bx (TApiLedger.e a0)), (Ob.box (vl a1)), (Ob.box (vi a2)), (bx (TApiWhole.e (⟨[], 0, []⟩ : TApiWhole))), (eM (DV.i .i64) (DV.i .i64) rv6.2), (Ob.box (AV.map 4)), (bx (TApiWhole.e rv6.1))] [CallOk Try.prog 40 [(AV.d (TApiLedger.e a0)), (vl a1), (vi a2), (AV.fn 41 [(vp 5), (vp 6)])] [(bx (TApiLedger.e a0)), (Ob.box (vl a1)), (Ob.box (vi a2)), (bx (TApiWhole.e (⟨[], 0, []⟩ : TApiWhole))), (eM (DV.i .i64) (DV.i .i64) rv4), (Ob.box (AV.map 4)), (bx (TApiWhole.e (⟨[], 0, rv1.1⟩ : TApiWhole)))] (AV.tup []) [(bx (TApiLedger.e a0)), (Ob.box (vl a1)), (Ob.box (vi a2)), (bx (TApiWhole.e (⟨[], 0, []⟩ : TApiWhole))), (eM (DV.i .i64) (DV.i .i64) rv6.2), (Ob.box (AV.map 4)), (bx (TApiWhole.e rv6.1))]] (by kernel_rfl) (And.intro ((F40_41_ok hrv7).ca [5, 6, 4] (by kernel_rfl)) trivial) ?_
    refine aws_seq ?_
    obtain ⟨rv8, hrv9, h⟩ := bind_some' h
    refine gR [(1, { h := .callr (AV.d (eL TApiBalance.e rv8)) })] [(6, (vp 3)), (11, (vp 6))] [(bx (TApiLedger.e a0)), (Ob.box (vl a1)), (Ob.box (vi a2)), (bx (TApiWhole.e (⟨[], 0, []⟩ : TApiWhole))), (eM (DV.i .i64) (DV.i .i64) rv6.2), (Ob.box (AV.map 4)), (bx (DV.agg [(eL TApiBalance.e rv8), (DV.i .i64 rv6.1.Eliminated), (eL TApiDifference.e rv6.1.Differences)]))] [CallOk Try.prog 42 [(AV.map 4)] [(bx (TApiLedger.e a0)), (Ob.box (vl a1)), (Ob.box (vi a2)), (bx (TApiWhole.e (⟨[], 0, []⟩ : TApiWhole))), (eM (DV.i .i64) (DV.i .i64) rv6.2), (Ob.box (AV.map 4)), (bx (TApiWhole.e rv6.1))] (AV.d (eL TApiBalance.e rv8)) [(bx (TApiLedger.e a0)), (Ob.box (vl a1)), (Ob.box (vi a2)), (bx (TApiWhole.e (⟨[], 0, []⟩ : TApiWhole))), (eM (DV.i .i64) (DV.i .i64) rv6.2), (Ob.box (AV.map 4)), (bx (TApiWhole.e rv6.1))]] (by kernel_rfl) (And.intro ((F42_ok hrv9).ca [4] (by kernel_rfl)) trivial) ?_
    refine aws_seq (gR [] [(6, (vp 3)), (7, (vi 0))] [(bx (TApiLedger.e a0)), (Ob.box (vl a1)), (Ob.box (vi a2)), (bx (DV.agg [(eL TApiBalance.e rv8), (DV.i .i64 rv6.1.Eliminated), (eL TApiDifference.e rv6.1.Differences)])), (eM (DV.i .i64) (DV.i .i64) rv6.2), (Ob.box (AV.map 4)), (bx (DV.agg [(eL TApiBalance.e rv8), (DV.i .i64 rv6.1.Eliminated), (eL TApiDifference.e rv6.1.Differences)]))] [] (by kernel_rfl) trivial ?_)
    refine aws_ret ?_
    obtain rfl := Option.some.inj h
    exact ⟨.inr rfl, ⟨_, [], [(bx (TApiLedger.e a0)), (Ob.box (vl a1)), (Ob.box (vi a2)), (bx (DV.agg [(eL TApiBalance.e rv8), (DV.i .i64 rv6.1.Eliminated), (eL TApiDifference.e rv6.1.Differences)])), (eM (DV.i .i64) (DV.i .i64) rv6.2), (Ob.box (AV.map 4)), (bx (DV.agg [(eL TApiBalance.e rv8), (DV.i .i64 rv6.1.Eliminated), (eL TApiDifference.e rv6.1.Differences)]))], by kernel_rfl, trivial, (LeV.refl _), rfl⟩⟩

/-! 45 -/
theorem F45_ok {a0 : (List TApiPosting)} {a1 : Int} {a2 : Int} {a3 : Int} {r : R45} (h : F45 a0 a1 a2 a3 = some r) : CallOk Try.prog 45 [(AV.d (eL TApiPosting.e a0)), (vi a1), (vi a2), (vi a3)] [] (V45 r) (L45 r) := by
  refine gF Try.func45 rfl (by kernel_rfl) trivial ?_
  unfold F45 at h
  refine aws_seq (gR [] [(0, (AV.d (eL TApiPosting.e a0))), (1, (vi a1)), (2, (vi a2)), (3, (vi a3)), (8, (vp 0))] [(bx (DV.arr 1 500 fun j => (DV.i .i64 0)))] [] (by kernel_rfl) trivial ?_)
  refine aws_seq (gR [] [(0, (AV.d (eL TApiPosting.e a0))), (1, (vi a1)), (2, (vi a2)), (3, (vi a3)), (8, (vp 0)), (9, (vp 1))] [(bx (DV.arr 1 500 fun j => (DV.i .i64 0))), (bx (DV.arr 1 500 fun j => (DV.i .i64 0)))] [] (by kernel_rfl) trivial ?_)
  refine aws_seq (aws_seq (gT [] [(1, (vi a1)), (2, (vi a2)), (3, (vi a3)), (8, (vp 0)), (9, (vp 1)), (12, (AV.d (eL TApiPosting.e a0))), (13, (vi (a0.length : Int))), (14, (vi 0))] (by kernel_rfl) ?_))
  obtain ⟨ov1, hxv2, h⟩ := outM_some h
  refine aws_lenL (k := 5) (t := 12) (e := TApiPosting.e) (l := a0) rfl (by simp) (fun hn => ?_)
  refine aws_loop (E := (fun (_ : (Nat → Int)) => [(8, (vp 0)), (9, (vp 1))])) (LE := (fun (sv3 : (Nat → Int)) => [(bx (DV.arr 1 500 fun j => (DV.i .i64 0))), (bx (eA 1 500 (DV.i .i64) sv3))])) (R := (fun x => FR Try.prog Try.f45 (V45 x) (L45 x))) (aw_range (n := a0.length) (m := 2) (I := (fun (iv4 : Nat) (_ : (Nat → Int)) => [(1, (vi a1)), (2, (vi a2)), (3, (vi a3)), (8, (vp 0)), (9, (vp 1)), (12, (AV.d (eL TApiPosting.e a0))), (13, (vi (a0.length : Int))), (14, (vi (iv4 : Int)))])) (LI := (fun (_ : Nat) => (fun (sv3 : (Nat → Int)) => [(bx (DV.arr 1 500 fun j => (DV.i .i64 0))), (bx (eA 1 500 (DV.i .i64) sv3))]))) (body := F45_b1 a0 a1 a2 a3) (fun iv4 sv3 _ hi h => aw_of ?_) (fun _ => aw_of ?_) (fun _ _ => rfl) (Nat.zero_add _) hxv2 ⟨(fA (by kernel_rfl)), .inl rfl⟩ (Nat.le_of_ble_eq_true (by kernel_rfl))) (fun _ => Nat.le_of_ble_eq_true (by kernel_rfl)) (fun x fr L e hr => ?_) (fun sv3 e => ?_)
  · unfold F45_b1 at h
    refine aws_seq (gT [] [(1, (vi a1)), (2, (vi a2)), (3, (vi a3)), (8, (vp 0)), (9, (vp 1)), (12, (AV.d (eL TApiPosting.e a0))), (13, (vi (a0.length : Int))), (14, (vi (iv4 : Int))), (15, (vb (decide ((iv4 : Int) < (a0.length : Int)))))] (by kernel_rfl) ?_)
    refine aws_seq (aws_cond (b := (decide ((iv4 : Int) < (a0.length : Int)))) (by kernel_rfl) (fun hbv5 => ?_) (fun hbv5 => absurd (hbv5.symm.trans (decide_eq_true (by omega))) Bool.false_ne_true))
    refine aws_skip (aws_seq ?_)
    obtain ⟨ov6, hxv7, h⟩ := bind_some' h
    refine aws_blockS (E := (fun (_ : (Nat → Int)) => [(1, (vi a1)), (2, (vi a2)), (3, (vi a3)), (8, (vp 0)), (9, (vp 1)), (12, (AV.d (eL TApiPosting.e a0))), (13, (vi (a0.length : Int))), (14, (vi (iv4 : Int)))])) (LE := (fun (sv8 : (Nat → Int)) => [(bx (DV.arr 1 500 fun j => (DV.i .i64 0))), (bx (eA 1 500 (DV.i .i64) sv8))])) (fun s => s = ov6) ?_ (fun _ => Nat.le_of_ble_eq_true (by kernel_rfl)) (fun _ hq => ?_)
    · refine aws_seq (gR [] [(1, (vi a1)), (2, (vi a2)), (3, (vi a3)), (8, (vp 0)), (9, (vp 1)), (11, (vp 2)), (12, (AV.d (eL TApiPosting.e a0))), (13, (vi (a0.length : Int))), (14, (vi (iv4 : Int)))] [(bx (DV.arr 1 500 fun j => (DV.i .i64 0))), (bx (eA 1 500 (DV.i .i64) sv3)), (bx (TApiPosting.e (a0.getD iv4 default)))] [(0 : Int) ≤ (iv4 : Int), iv4 < a0.length] (by kernel_rfl) (And.intro (Int.natCast_nonneg _) (And.intro hi trivial)) ?_)
      refine aws_seq (aws_seq (gT [] [(1, (vi a1)), (2, (vi a2)), (3, (vi a3)), (8, (vp 0)), (9, (vp 1)), (11, (vp 2)), (12, (AV.d (eL TApiPosting.e a0))), (13, (vi (a0.length : Int))), (14, (vi (iv4 : Int))), (37, (vb (bif (bif (decide (((a0.getD iv4 default).Day) < a2)) then true else (decide (((a0.getD iv4 default).Day) > a3))) then true else (bif (a1 != 0) then (((a0.getD iv4 default).Entity) != a1) else false))))] (by kernel_rfl) ?_))
      refine aws_cond (b := (bif (bif (decide (((a0.getD iv4 default).Day) < a2)) then true else (decide (((a0.getD iv4 default).Day) > a3))) then true else (bif (a1 != 0) then (((a0.getD iv4 default).Entity) != a1) else false))) (by kernel_rfl) (fun hbv9 => ?_) (fun hbv9 => ?_)
      · replace hxv7 := iteT hbv9 hxv7
        refine aws_exit ?_
        simp only [if_true]
        obtain rfl := Option.some.inj hxv7
        exact ⟨_, rfl, ⟨(fA (by kernel_rfl)), .inr ⟨⟨[(bx (TApiPosting.e (a0.getD iv4 default)))], rfl, lsOk (And.intro rfl (And.intro rfl trivial))⟩, List.all_eq_true.1 (by kernel_rfl)⟩⟩⟩
      · replace hxv7 := iteF hbv9 hxv7
        refine aws_skip (aws_seq ?_)
        obtain ⟨⟨hcv10, hcv11, _⟩, hxv7⟩ := guardP_some hxv7
        refine gD ⟨[[], [0], [1, 0], [2, 1, 0], [3, 2, 1, 0], [], [5], [6, 5, 4, 3, 2, 1, 0], [7, 6, 5, 4, 3, 2, 1, 0], [8, 7, 6, 5, 4, 3, 2, 1, 0]], [9]⟩ [(9, { obs := [(1, (bx (eA 1 500 (DV.i .i64) (fun j => if j = ((IntKind.i64.wrap (((a0.getD iv4 default).Debit) - 100))).toNat then (IntKind.i64.wrap ((sv3 (((IntKind.i64.wrap (((a0.getD iv4 default).Debit) - 100))).toNat)) + ((a0.getD iv4 default).Amount))) else sv3 j))))] })] [(1, (vi a1)), (2, (vi a2)), (3, (vi a3)), (8, (vp 0)), (9, (vp 1)), (11, (vp 2)), (12, (AV.d (eL TApiPosting.e a0))), (13, (vi (a0.length : Int))), (14, (vi (iv4 : Int)))] [(bx (DV.arr 1 500 fun j => (DV.i .i64 0))), (bx (eA 1 500 (DV.i .i64) (fun j => if j = ((IntKind.i64.wrap (((a0.getD iv4 default).Debit) - 100))).toNat then (IntKind.i64.wrap ((sv3 (((IntKind.i64.wrap (((a0.getD iv4 default).Debit) - 100))).toNat)) + ((a0.getD iv4 default).Amount))) else sv3 j))), (bx (TApiPosting.e (a0.getD iv4 default)))] [(0 : Int) ≤ (IntKind.i64.wrap (((a0.getD iv4 default).Debit) - 100)), ((IntKind.i64.wrap (((a0.getD iv4 default).Debit) - 100))).toNat < 500, ((IntKind.i64.wrap (((a0.getD iv4 default).Debit) - 100))).toNat < 500, (0 : Int) ≤ (IntKind.i64.wrap (((a0.getD iv4 default).Debit) - 100)), ((IntKind.i64.wrap (((a0.getD iv4 default).Debit) - 100))).toNat < 500, ((IntKind.i64.wrap (((a0.getD iv4 default).Debit) - 100))).toNat < 500, OLe (bx (DV.arr 1 500 fun j => if j = ((IntKind.i64.wrap (((a0.getD iv4 default).Debit) - 100))).toNat then (DV.i .i64 (IntKind.i64.wrap ((sv3 (((IntKind.i64.wrap (((a0.getD iv4 default).Debit) - 100))).toNat)) + ((a0.getD iv4 default).Amount)))) else (DV.i .i64) (sv3 j))) (bx (eA 1 500 (DV.i .i64) (fun j => if j = ((IntKind.i64.wrap (((a0.getD iv4 default).Debit) - 100))).toNat then (IntKind.i64.wrap ((sv3 (((IntKind.i64.wrap (((a0.getD iv4 default).Debit) - 100))).toNat)) + ((a0.getD iv4 default).Amount))) else sv3 j)))] (by kernel_rfl) (by kernel_rfl) (by kernel_rfl) (And.intro hcv10 (And.intro hcv11 (And.intro hcv11 (And.intro hcv10 (And.intro hcv11 (And.intro hcv11 (And.intro (oLe_box (dLe_arrSet (e := (DV.i .i64)) (i := ((IntKind.i64.wrap (((a0.getD iv4 default).Debit) - 100))).toNat) (x := (IntKind.i64.wrap ((sv3 (((IntKind.i64.wrap (((a0.getD iv4 default).Debit) - 100))).toNat)) + ((a0.getD iv4 default).Amount)))) (g := sv3))) trivial))))))) ?_
        obtain ⟨⟨hcv12, hcv13, _⟩, hxv7⟩ := guardP_some hxv7
        refine gD ⟨[[], [0], [1, 0], [2, 1, 0], [3, 2, 1, 0], [], [5], [6, 5, 4, 3, 2, 1, 0], [7, 6, 5, 4, 3, 2, 1, 0], [8, 7, 6, 5, 4, 3, 2, 1, 0]], [9]⟩ [(9, { obs := [(1, (bx (eA 1 500 (DV.i .i64) (fun j => if j = ((IntKind.i64.wrap (((a0.getD iv4 default).Credit) - 100))).toNat then (IntKind.i64.wrap (((fun j => if j = ((IntKind.i64.wrap (((a0.getD iv4 default).Debit) - 100))).toNat then (IntKind.i64.wrap ((sv3 (((IntKind.i64.wrap (((a0.getD iv4 default).Debit) - 100))).toNat)) + ((a0.getD iv4 default).Amount))) else sv3 j) (((IntKind.i64.wrap (((a0.getD iv4 default).Credit) - 100))).toNat)) - ((a0.getD iv4 default).Amount))) else (fun j => if j = ((IntKind.i64.wrap (((a0.getD iv4 default).Debit) - 100))).toNat then (IntKind.i64.wrap ((sv3 (((IntKind.i64.wrap (((a0.getD iv4 default).Debit) - 100))).toNat)) + ((a0.getD iv4 default).Amount))) else sv3 j) j))))] })] [(1, (vi a1)), (2, (vi a2)), (3, (vi a3)), (8, (vp 0)), (9, (vp 1)), (12, (AV.d (eL TApiPosting.e a0))), (13, (vi (a0.length : Int))), (14, (vi (iv4 : Int)))] [(bx (DV.arr 1 500 fun j => (DV.i .i64 0))), (bx (eA 1 500 (DV.i .i64) (fun j => if j = ((IntKind.i64.wrap (((a0.getD iv4 default).Credit) - 100))).toNat then (IntKind.i64.wrap (((fun j => if j = ((IntKind.i64.wrap (((a0.getD iv4 default).Debit) - 100))).toNat then (IntKind.i64.wrap ((sv3 (((IntKind.i64.wrap (((a0.getD iv4 default).Debit) - 100))).toNat)) + ((a0.getD iv4 default).Amount))) else sv3 j) (((IntKind.i64.wrap (((a0.getD iv4 default).Credit) - 100))).toNat)) - ((a0.getD iv4 default).Amount))) else (fun j => if j = ((IntKind.i64.wrap (((a0.getD iv4 default).Debit) - 100))).toNat then (IntKind.i64.wrap ((sv3 (((IntKind.i64.wrap (((a0.getD iv4 default).Debit) - 100))).toNat)) + ((a0.getD iv4 default).Amount))) else sv3 j) j))), (bx (TApiPosting.e (a0.getD iv4 default)))] [(0 : Int) ≤ (IntKind.i64.wrap (((a0.getD iv4 default).Credit) - 100)), ((IntKind.i64.wrap (((a0.getD iv4 default).Credit) - 100))).toNat < 500, ((IntKind.i64.wrap (((a0.getD iv4 default).Credit) - 100))).toNat < 500, (0 : Int) ≤ (IntKind.i64.wrap (((a0.getD iv4 default).Credit) - 100)), ((IntKind.i64.wrap (((a0.getD iv4 default).Credit) - 100))).toNat < 500, ((IntKind.i64.wrap (((a0.getD iv4 default).Credit) - 100))).toNat < 500, OLe (bx (DV.arr 1 500 fun j => if j = ((IntKind.i64.wrap (((a0.getD iv4 default).Credit) - 100))).toNat then (DV.i .i64 (IntKind.i64.wrap (((fun j => if j = ((IntKind.i64.wrap (((a0.getD iv4 default).Debit) - 100))).toNat then (IntKind.i64.wrap ((sv3 (((IntKind.i64.wrap (((a0.getD iv4 default).Debit) - 100))).toNat)) + ((a0.getD iv4 default).Amount))) else sv3 j) (((IntKind.i64.wrap (((a0.getD iv4 default).Credit) - 100))).toNat)) - ((a0.getD iv4 default).Amount)))) else (DV.i .i64) ((fun j => if j = ((IntKind.i64.wrap (((a0.getD iv4 default).Debit) - 100))).toNat then (IntKind.i64.wrap ((sv3 (((IntKind.i64.wrap (((a0.getD iv4 default).Debit) - 100))).toNat)) + ((a0.getD iv4 default).Amount))) else sv3 j) j))) (bx (eA 1 500 (DV.i .i64) (fun j => if j = ((IntKind.i64.wrap (((a0.getD iv4 default).Credit) - 100))).toNat then (IntKind.i64.wrap (((fun j => if j = ((IntKind.i64.wrap (((a0.getD iv4 default).Debit) - 100))).toNat then (IntKind.i64.wrap ((sv3 (((IntKind.i64.wrap (((a0.getD iv4 default).Debit) - 100))).toNat)) + ((a0.getD iv4 default).Amount))) else sv3 j) (((IntKind.i64.wrap (((a0.getD iv4 default).Credit) - 100))).toNat)) - ((a0.getD iv4 default).Amount))) else (fun j => if j = ((IntKind.i64.wrap (((a0.getD iv4 default).Debit) - 100))).toNat then (IntKind.i64.wrap ((sv3 (((IntKind.i64.wrap (((a0.getD iv4 default).Debit) - 100))).toNat)) + ((a0.getD iv4 default).Amount))) else sv3 j) j)))] (by kernel_rfl) (by kernel_rfl) (by kernel_rfl) (And.intro hcv12 (And.intro hcv13 (And.intro hcv13 (And.intro hcv12 (And.intro hcv13 (And.intro hcv13 (And.intro (oLe_box (dLe_arrSet (e := (DV.i .i64)) (i := ((IntKind.i64.wrap (((a0.getD iv4 default).Credit) - 100))).toNat) (x := (IntKind.i64.wrap (((fun j => if j = ((IntKind.i64.wrap (((a0.getD iv4 default).Debit) - 100))).toNat then (IntKind.i64.wrap ((sv3 (((IntKind.i64.wrap (((a0.getD iv4 default).Debit) - 100))).toNat)) + ((a0.getD iv4 default).Amount))) else sv3 j) (((IntKind.i64.wrap (((a0.getD iv4 default).Credit) - 100))).toNat)) - ((a0.getD iv4 default).Amount)))) (g := (fun j => if j = ((IntKind.i64.wrap (((a0.getD iv4 default).Debit) - 100))).toNat then (IntKind.i64.wrap ((sv3 (((IntKind.i64.wrap (((a0.getD iv4 default).Debit) - 100))).toNat)) + ((a0.getD iv4 default).Amount))) else sv3 j)))) trivial))))))) ?_
        refine aws_nil ?_
        obtain rfl := Option.some.inj hxv7
        exact ⟨_, rfl, ⟨(fA (by kernel_rfl)), .inr ⟨⟨[(bx (TApiPosting.e (a0.getD iv4 default)))], rfl, lsOk (And.intro rfl (And.intro rfl trivial))⟩, List.all_eq_true.1 (by kernel_rfl)⟩⟩⟩
    · subst hq
      refine gT [] [(1, (vi a1)), (2, (vi a2)), (3, (vi a3)), (8, (vp 0)), (9, (vp 1)), (12, (AV.d (eL TApiPosting.e a0))), (13, (vi (a0.length : Int))), (14, (vi (IntKind.i64.wrap ((iv4 : Int) + 1))))] (by kernel_rfl) ?_
      refine aws_nil ?_
      obtain rfl := Option.some.inj h
      exact ⟨_, rfl, ⟨(fq 0 rfl (fq 1 rfl (fq 2 rfl (fq 3 rfl (fq 4 rfl (fq 5 rfl (fq 6 rfl (frLe_at (k := 7) rfl (LeV.of_eq (congrArg (fun n => AV.d (DV.i .i64 n)) (wrap_succ (by omega)))) frLe_nil)))))))), .inl rfl⟩⟩
  · refine aws_seq (gT [] [(1, (vi a1)), (2, (vi a2)), (3, (vi a3)), (8, (vp 0)), (9, (vp 1)), (12, (AV.d (eL TApiPosting.e a0))), (13, (vi (a0.length : Int))), (14, (vi ((a0.length : Nat) : Int))), (15, (vb (decide (((a0.length : Nat) : Int) < (a0.length : Int)))))] (by kernel_rfl) ?_)
    refine aws_seq (aws_cond (b := (decide (((a0.length : Nat) : Int) < (a0.length : Int)))) (by kernel_rfl) (fun hbv14 => absurd hbv14 (Bool.eq_false_iff.mp (decide_eq_false (by omega)))) (fun hbv14 => ?_))
    refine aws_exit ?_
    exact ⟨rfl, _, rfl, ⟨(fA (by kernel_rfl)), .inl rfl⟩⟩
  · subst e
    exact nomatch (show (none : Option _) = some _ from h)
  · subst e
    refine aws_seq (gR [] [(8, (vp 0))] [(bx (eA 1 500 (DV.i .i64) sv3)), (bx (eA 1 500 (DV.i .i64) sv3))] [] (by kernel_rfl) trivial ?_)
    refine aws_ret ?_
    obtain rfl := Option.some.inj h
    exact ⟨.inr rfl, ⟨_, [], [(bx (eA 1 500 (DV.i .i64) sv3)), (bx (eA 1 500 (DV.i .i64) sv3))], by kernel_rfl, trivial, (LeV.refl _), rfl⟩⟩

/-! 12 -/
theorem F12_ok {a0 : TApiLedger} {a1 : Int} {a2 : Int} {a3 : Int} {r : R12} (h : F12 a0 a1 a2 a3 = some r) : CallOk Try.prog 12 [(AV.d (TApiLedger.e a0)), (vi a1), (vi a2), (vi a3)] [] (V12 r) (L12 r) := by
  refine gF Try.func12 rfl (by kernel_rfl) trivial ?_
  unfold F12 at h
  refine aws_seq (gR [] [(1, (vi a1)), (2, (vi a2)), (3, (vi a3)), (4, (vp 0))] [(bx (TApiLedger.e a0))] [] (by kernel_rfl) trivial ?_)
  refine aws_seq (aws_seq ?_)
  obtain ⟨rv1, hrv2, h⟩ := bind_some' h
  obtain ⟨rv3, hrv4, h⟩ := bind_some' h
  refine gS [(1, { h := .callq (vi rv1) }), (5, { h := .callq (vi rv3) })] [(1, (vi a1)), (2, (vi a2)), (3, (vi a3)), (4, (vp 0)), (16, (vb (bif (rv1 != 0) then true else (rv3 == 0))))] [_, AllP [(rv1 != 0) = false] → (∀ L, CallOk Try.prog 44 [(vi a2)] L (vi rv3) L)] (by kernel_rfl) (And.intro ((F43_ok hrv2).pu (fun _ => rfl) (fun _ => rfl)) (And.intro (fun hg => ((F44_ok (optP_some hrv4 hg)).pu (fun _ => rfl) (fun _ => rfl))) trivial)) ?_
  refine aws_cond (b := (bif (rv1 != 0) then true else (rv3 == 0))) (by kernel_rfl) (fun hbv5 => ?_) (fun hbv5 => ?_)
  · replace h := iteT hbv5 h
    refine aws_seq (gT [] [(8, (vi 0))] (by kernel_rfl) ?_)
    refine aws_ret ?_
    obtain rfl := Option.some.inj h
    exact ⟨.inr rfl, ⟨_, [], [(bx (TApiLedger.e a0))], by kernel_rfl, trivial, (LeV.refl _), rfl⟩⟩
  · replace h := iteF hbv5 h
    refine aws_skip (aws_seq ?_)
    obtain ⟨rv6, hrv7, h⟩ := bind_some' h
    obtain ⟨⟨hcv8, hcv9, _⟩, h⟩ := guardP_some h
    refine gS [(4, { h := .callq (AV.d (eA 1 500 (DV.i .i64) rv6)) })] [(8, (vi (rv6 (((IntKind.i64.wrap (a2 - 100))).toNat))))] [_, (0 : Int) ≤ (IntKind.i64.wrap (a2 - 100)), ((IntKind.i64.wrap (a2 - 100))).toNat < 500] (by kernel_rfl) (And.intro ((F45_ok hrv7).pu (fun _ => rfl) (fun _ => rfl)) (And.intro hcv8 (And.intro hcv9 trivial))) ?_
    refine aws_ret ?_
    obtain rfl := Option.some.inj h
    exact ⟨.inr rfl, ⟨_, [], [(bx (TApiLedger.e a0))], by kernel_rfl, trivial, (LeV.refl _), rfl⟩⟩

/-! 21 -/
theorem F21_ok {r : R21} (h : F21 = some r) : CallOk Try.prog 21 [] [] (V21 r) (L21 r) := by
  refine gF Try.func21 rfl (by kernel_rfl) trivial ?_
  unfold F21 at h
  refine aws_seq (gR [(0, { obs := [(0, (bx (TApiLedger.e (⟨[]⟩ : TApiLedger))))] })] [(0, (vp 0))] [(bx (TApiLedger.e (⟨[]⟩ : TApiLedger)))] [OLe (bx (DV.agg [(DV.sl 0 fun _ => DV.b false)])) (bx (TApiLedger.e (⟨[]⟩ : TApiLedger)))] (by kernel_rfl) (And.intro (oLe_box (DLe.agg (DLeL.cons DLe.sl0 DLeL.nil))) trivial) ?_)
  refine aws_seq (gR [(0, { obs := [(1, (bx (TApiLedger.e (⟨[]⟩ : TApiLedger))))] })] [(0, (vp 0)), (1, (vp 1))] [(bx (TApiLedger.e (⟨[]⟩ : TApiLedger))), (bx (TApiLedger.e (⟨[]⟩ : TApiLedger)))] [OLe (bx (DV.agg [(DV.sl 0 fun _ => DV.b false)])) (bx (TApiLedger.e (⟨[]⟩ : TApiLedger)))] (by kernel_rfl) (And.intro (oLe_box (DLe.agg (DLeL.cons DLe.sl0 DLeL.nil))) trivial) ?_)
  refine aws_seq ?_
  obtain ⟨rv1, hrv2, h⟩ := bind_some' h
  refine gR [(2, { h := .callq (AV.tup [(AV.d (TApiLedger.e rv1.1)), (vi rv1.2)]) })] [(0, (vp 0)), (1, (vp 1))] [(bx (TApiLedger.e (⟨[]⟩ : TApiLedger))), (bx (TApiLedger.e rv1.1))] [_] (by kernel_rfl) (And.intro ((F16_ok hrv2).pu (fun _ => rfl) (fun _ => rfl)) trivial) ?_
  refine aws_seq ?_
  obtain ⟨rv3, hrv4, h⟩ := bind_some' h
  refine gR [(2, { h := .callq (AV.tup [(AV.d (TApiLedger.e rv3.1)), (vi rv3.2)]) })] [(0, (vp 0)), (1, (vp 1))] [(bx (TApiLedger.e (⟨[]⟩ : TApiLedger))), (bx (TApiLedger.e rv3.1))] [_] (by kernel_rfl) (And.intro ((F16_ok hrv4).pu (fun _ => rfl) (fun _ => rfl)) trivial) ?_
  refine aws_seq (gR [] [(0, (vp 0))] [(bx (TApiLedger.e rv3.1)), (bx (TApiLedger.e rv3.1))] [] (by kernel_rfl) trivial ?_)
  refine aws_ret ?_
  obtain rfl := Option.some.inj h
  exact ⟨.inr rfl, ⟨_, [], [(bx (TApiLedger.e rv3.1)), (bx (TApiLedger.e rv3.1))], by kernel_rfl, trivial, (LeV.refl _), rfl⟩⟩

/-! 18 -/
theorem F18_ok {a0 : (List TApiDifference)} {a1 : (List TApiDifference)} {r : R18} (h : F18 a0 a1 = some r) : CallOk Try.prog 18 [(AV.d (eL TApiDifference.e a0)), (AV.d (eL TApiDifference.e a1))] [] (V18 r) (L18 r) := by
  refine gF Try.func18 rfl (by kernel_rfl) trivial ?_
  unfold F18 at h
  refine aws_seq (gT [] [(0, (AV.d (eL TApiDifference.e a0))), (1, (AV.d (eL TApiDifference.e a1)))] (by kernel_rfl) ?_)
  refine aws_seq (aws_seq (gT [] [(0, (AV.d (eL TApiDifference.e a0))), (1, (AV.d (eL TApiDifference.e a1))), (10, (vb ((a0.length : Int) != (a1.length : Int))))] (by kernel_rfl) ?_))
  refine aws_cond (b := ((a0.length : Int) != (a1.length : Int))) (by kernel_rfl) (fun hbv1 => ?_) (fun hbv1 => ?_)
  · replace h := iteT hbv1 h
    refine aws_seq (gT [] [(4, (vb false))] (by kernel_rfl) ?_)
    refine aws_ret ?_
    obtain rfl := Option.some.inj h
    exact ⟨.inr rfl, ⟨_, [], [], by kernel_rfl, trivial, (LeV.refl _), rfl⟩⟩
  · replace h := iteF hbv1 h
    refine aws_skip (aws_seq (aws_seq (gT [] [(0, (AV.d (eL TApiDifference.e a0))), (1, (AV.d (eL TApiDifference.e a1))), (12, (vi (a0.length : Int))), (13, (vi 0))] (by kernel_rfl) ?_)))
    obtain ⟨ov2, hxv3, h⟩ := outM_some h
    refine aws_lenL (k := 0) (t := 0) (e := TApiDifference.e) (l := a0) rfl (by simp) (fun hn => ?_)
    refine aws_loop (E := (fun (_ : Unit) => [])) (LE := (fun (_ : Unit) => [])) (R := (fun x => FR Try.prog Try.f18 (V18 x) (L18 x))) (aw_range (n := a0.length) (m := 0) (I := (fun (iv4 : Nat) (_ : Unit) => [(0, (AV.d (eL TApiDifference.e a0))), (1, (AV.d (eL TApiDifference.e a1))), (12, (vi (a0.length : Int))), (13, (vi (iv4 : Int)))])) (LI := (fun (_ : Nat) => (fun (_ : Unit) => []))) (body := F18_b1 a0 a1) (fun iv4 _ _ hi h => aw_of ?_) (fun _ => aw_of ?_) (fun _ _ => rfl) (Nat.zero_add _) hxv3 ⟨(fA (by kernel_rfl)), .inl rfl⟩ (Nat.le_of_ble_eq_true (by kernel_rfl))) (fun _ => Nat.le_of_ble_eq_true (by kernel_rfl)) (fun x fr L e hr => ?_) (fun _ e => ?_)
    · unfold F18_b1 at h
      refine aws_seq (gT [] [(0, (AV.d (eL TApiDifference.e a0))), (1, (AV.d (eL TApiDifference.e a1))), (12, (vi (a0.length : Int))), (13, (vi (iv4 : Int))), (14, (vb (decide ((iv4 : Int) < (a0.length : Int)))))] (by kernel_rfl) ?_)
      refine aws_seq (aws_cond (b := (decide ((iv4 : Int) < (a0.length : Int)))) (by kernel_rfl) (fun hbv5 => ?_) (fun hbv5 => absurd (hbv5.symm.trans (decide_eq_true (by omega))) Bool.false_ne_true))
      refine aws_skip (aws_seq ?_)
      obtain ⟨ov6, hxv7, h⟩ := outM_some h
      refine aws_blockS (E := (fun (_ : Unit) => [(0, (AV.d (eL TApiDifference.e a0))), (1, (AV.d (eL TApiDifference.e a1))), (12, (vi (a0.length : Int))), (13, (vi (iv4 : Int)))])) (LE := (fun (_ : Unit) => [])) (fun s => ov6 = .next s) ?_ (fun _ => Nat.le_of_ble_eq_true (by kernel_rfl)) (fun _ hq => ?_)
      · refine aws_seq (gT [] [(0, (AV.d (eL TApiDifference.e a0))), (1, (AV.d (eL TApiDifference.e a1))), (5, (vi (iv4 : Int))), (12, (vi (a0.length : Int))), (13, (vi (iv4 : Int)))] (by kernel_rfl) ?_)
        refine aws_seq ?_
        obtain ⟨⟨hcv8, _⟩, hxv7⟩ := guardP_some hxv7
        refine gD ⟨[[], [], [1, 0], [2, 1, 0], [], [], [5, 4], [6, 5, 4], [7, 6, 5, 4, 3, 2, 1, 0]], []⟩ [] [(0, (AV.d (eL TApiDifference.e a0))), (1, (AV.d (eL TApiDifference.e a1))), (12, (vi (a0.length : Int))), (13, (vi (iv4 : Int))), (24, (vb (!((((a0.getD iv4 default).Kind) == ((a1.getD iv4 default).Kind)) && ((((a0.getD iv4 default).A) == ((a1.getD iv4 default).A)) && ((((a0.getD iv4 default).B) == ((a1.getD iv4 default).B)) && ((((a0.getD iv4 default).Ref) == ((a1.getD iv4 default).Ref)) && ((((a0.getD iv4 default).Amount) == ((a1.getD iv4 default).Amount)) && true))))))))] [] [(0 : Int) ≤ (iv4 : Int), iv4 < a0.length, (0 : Int) ≤ (iv4 : Int), iv4 < a1.length] (by kernel_rfl) (by kernel_rfl) (by kernel_rfl) (And.intro (Int.natCast_nonneg _) (And.intro hi (And.intro (Int.natCast_nonneg _) (And.intro hcv8 trivial)))) ?_
        refine aws_cond (b := (!((((a0.getD iv4 default).Kind) == ((a1.getD iv4 default).Kind)) && ((((a0.getD iv4 default).A) == ((a1.getD iv4 default).A)) && ((((a0.getD iv4 default).B) == ((a1.getD iv4 default).B)) && ((((a0.getD iv4 default).Ref) == ((a1.getD iv4 default).Ref)) && ((((a0.getD iv4 default).Amount) == ((a1.getD iv4 default).Amount)) && true))))))) (by kernel_rfl) (fun hbv9 => ?_) (fun hbv9 => ?_)
        · replace hxv7 := iteT hbv9 hxv7
          refine aws_seq (gT [] [(4, (vb false))] (by kernel_rfl) ?_)
          refine aws_ret ?_
          obtain rfl := Option.some.inj hxv7
          obtain rfl := Option.some.inj h
          exact ⟨_, rfl, ⟨_, [], [], by kernel_rfl, trivial, (LeV.refl _), rfl⟩⟩
        · replace hxv7 := iteF hbv9 hxv7
          refine aws_skip (aws_nil ?_)
          obtain rfl := Option.some.inj hxv7
          exact ⟨_, rfl, ⟨(fA (by kernel_rfl)), .inl rfl⟩⟩
      · subst hq
        refine gT [] [(0, (AV.d (eL TApiDifference.e a0))), (1, (AV.d (eL TApiDifference.e a1))), (12, (vi (a0.length : Int))), (13, (vi (IntKind.i64.wrap ((iv4 : Int) + 1))))] (by kernel_rfl) ?_
        refine aws_nil ?_
        obtain rfl := Option.some.inj h
        exact ⟨_, rfl, ⟨(fq 0 rfl (fq 1 rfl (fq 2 rfl (frLe_at (k := 3) rfl (LeV.of_eq (congrArg (fun n => AV.d (DV.i .i64 n)) (wrap_succ (by omega)))) frLe_nil)))), .inl rfl⟩⟩
    · refine aws_seq (gT [] [(0, (AV.d (eL TApiDifference.e a0))), (1, (AV.d (eL TApiDifference.e a1))), (12, (vi (a0.length : Int))), (13, (vi ((a0.length : Nat) : Int))), (14, (vb (decide (((a0.length : Nat) : Int) < (a0.length : Int)))))] (by kernel_rfl) ?_)
      refine aws_seq (aws_cond (b := (decide (((a0.length : Nat) : Int) < (a0.length : Int)))) (by kernel_rfl) (fun hbv10 => absurd hbv10 (Bool.eq_false_iff.mp (decide_eq_false (by omega)))) (fun hbv10 => ?_))
      refine aws_exit ?_
      exact ⟨rfl, _, rfl, ⟨frLe_nil, .inl rfl⟩⟩
    · subst e
      obtain rfl := Option.some.inj h
      exact ⟨.inr rfl, hr⟩
    · subst e
      refine aws_seq (gT [] [(4, (vb true))] (by kernel_rfl) ?_)
      refine aws_ret ?_
      obtain rfl := Option.some.inj h
      exact ⟨.inr rfl, ⟨_, [], [], by kernel_rfl, trivial, (LeV.refl _), rfl⟩⟩

/-! 13 -/
theorem F13_ok {r : R13} (h : F13 = some r) : CallOk Try.prog 13 [] [] (V13 r) (L13 r) := by
  refine gF Try.func13 rfl (by kernel_rfl) trivial ?_
  unfold F13 at h
  refine aws_seq (gT [] [] (by kernel_rfl) ?_)
  refine aws_seq ?_
  obtain ⟨rv1, hrv2, h⟩ := bind_some' h
  obtain ⟨rv3, hrv4, h⟩ := bind_some' h
  refine gR [(0, { h := .callq (AV.d (TApiLedger.e rv1)) }), (1, { cast := some (vl ([1, 2] : List Int)) }), (2, { h := .callq (AV.tup [(AV.d (TApiWhole.e rv3.1)), (vi rv3.2)]) }), (6, { obs := [(0, (bx (TApiWhole.e (⟨[], 0, []⟩ : TApiWhole))))] })] [(1, (vp 0)), (2, (vi rv3.2))] [(bx (TApiWhole.e rv3.1))] [_, LeV (AV.d (DV.sl 2 (listF (DV.b false) [(DV.i .i64 1), (DV.i .i64 2)]))) (vl ([1, 2] : List Int)), _, OLe (bx (DV.agg [(DV.sl 0 fun _ => DV.b false), (DV.i .i64 0), (DV.sl 0 fun _ => DV.b false)])) (bx (TApiWhole.e (⟨[], 0, []⟩ : TApiWhole)))] (by kernel_rfl) (And.intro ((F21_ok hrv2).pu (fun _ => rfl) (fun _ => rfl)) (And.intro (leV_lit (DV.i .i64) ([1, 2] : List Int)) (And.intro ((F11_ok hrv4).pu (fun _ => rfl) (fun _ => rfl)) (And.intro (oLe_box (DLe.agg (DLeL.cons DLe.sl0 (DLeL.cons (DLe.refl _) (DLeL.cons DLe.sl0 DLeL.nil))))) trivial)))) ?_
  refine aws_seq ?_
  obtain ⟨rv5, hrv6, h⟩ := bind_some' h
  refine gS [(11, { cast := some (AV.d (eL TApiDifference.e ([(⟨1, 1, 2, 7, 20⟩ : TApiDifference)] : List TApiDifference))) }), (12, { h := .callq (vb rv5) })] [(0, (vb (bif (bif (rv3.2 == 0) then (rv3.1.Eliminated == 80) else false) then rv5 else false)))] [AllP [(bif (rv3.2 == 0) then (rv3.1.Eliminated == 80) else false) = true] → (LeV (AV.d (DV.sl 1 (listF (DV.b false) [(DV.agg [(DV.i .i64 1), (DV.i .i64 1), (DV.i .i64 2), (DV.i .i64 7), (DV.i .i64 20)])]))) (AV.d (eL TApiDifference.e ([(⟨1, 1, 2, 7, 20⟩ : TApiDifference)] : List TApiDifference)))), AllP [(bif (rv3.2 == 0) then (rv3.1.Eliminated == 80) else false) = true] → (∀ L, CallOk Try.prog 18 [(AV.d (eL TApiDifference.e rv3.1.Differences)), (AV.d (eL TApiDifference.e ([(⟨1, 1, 2, 7, 20⟩ : TApiDifference)] : List TApiDifference)))] L (vb rv5) L)] (by kernel_rfl) (And.intro (fun hg => leV_lit TApiDifference.e ([(⟨1, 1, 2, 7, 20⟩ : TApiDifference)] : List TApiDifference)) (And.intro (fun hg => ((F18_ok (optP_some hrv6 hg)).pu (fun _ => rfl) (fun _ => rfl))) trivial)) ?_
  refine aws_ret ?_
  obtain rfl := Option.some.inj h
  exact ⟨.inr rfl, ⟨_, [], [(bx (TApiWhole.e rv3.1))], by kernel_rfl, trivial, (LeV.refl _), rfl⟩⟩

/-! 3 -/
theorem F3_ok {a0 : (List Int)} {a1 : Int} {r : R3} (h : F3 a0 a1 = some r) : CallOk Try.prog 3 [(vl a0), (AV.d (DV.i .u8 a1))] [] (V3 r) (L3 r) := by
  refine gF Try.func3 rfl (by kernel_rfl) trivial ?_
  unfold F3 at h
  refine aws_seq (gT [] [(0, (vl a0)), (1, (AV.d (DV.i .u8 a1)))] (by kernel_rfl) ?_)
  refine aws_seq ?_
  obtain ⟨rv1, hrv2, h⟩ := bind_some' h
  refine gR [(1, { h := .callw (vp 0) [] [(bx (TTreasuryplaySrc.e rv1))] })] [(1, (AV.d (DV.i .u8 a1))), (5, (vp 0))] [(bx (TTreasuryplaySrc.e rv1))] [CallOk Try.prog 9 [(vl a0)] [] (vp 0) [(bx (TTreasuryplaySrc.e rv1))]] (by kernel_rfl) (And.intro ((F9_ok hrv2).ca [] (by kernel_rfl)) trivial) ?_
  refine aws_seq ?_
  obtain ⟨rv3, hrv4, h⟩ := bind_some' h
  refine gR [(1, { h := .callw (AV.d (TApiLedger.e rv3.1)) [(0, (bx (TTreasuryplaySrc.e rv3.2)))] [] }), (2, { obs := [(1, (bx (TApiLedger.e (⟨[]⟩ : TApiLedger))))] })] [(1, (AV.d (DV.i .u8 a1))), (6, (vp 1))] [(bx (TTreasuryplaySrc.e rv3.2)), (bx (TApiLedger.e rv3.1))] [CallOk Try.prog 10 [(vp 0), (vi 12), (vi 3), (vi 60)] [(bx (TTreasuryplaySrc.e rv1))] (AV.d (TApiLedger.e rv3.1)) [(bx (TTreasuryplaySrc.e rv3.2))], OLe (bx (DV.agg [(DV.sl 0 fun _ => DV.b false)])) (bx (TApiLedger.e (⟨[]⟩ : TApiLedger)))] (by kernel_rfl) (And.intro ((F10_ok hrv4).ca [0] (by kernel_rfl)) (And.intro (oLe_box (DLe.agg (DLeL.cons DLe.sl0 DLeL.nil))) trivial)) ?_
  refine aws_seq (gS [] [(6, (vp 1)), (7, (vi ((IntKind.i64.wrap a1).tmod 70)))] [(70 : Int) ≠ 0] (by kernel_rfl) (And.intro (by decide) trivial) ?_)
  refine aws_seq (aws_seq (gS [(0, { cast := some (vl ([1, 2, 3] : List Int)) }), (1, { cast := some (vl ([1, 2] : List Int)) }), (2, { cast := some (vl ([1, 3] : List Int)) }), (3, { cast := some (vl ([2] : List Int)) }), (4, { cast := some (AV.d (eA 1 4 (eL (DV.i .i64)) (fun j => ([([1, 2, 3] : List Int), ([1, 2] : List Int), ([1, 3] : List Int), ([2] : List Int)] : List (List Int)).getD j default))) })] [(6, (vp 1)), (7, (vi ((IntKind.i64.wrap a1).tmod 70))), (30, (AV.d (eA 1 4 (eL (DV.i .i64)) (fun j => ([([1, 2, 3] : List Int), ([1, 2] : List Int), ([1, 3] : List Int), ([2] : List Int)] : List (List Int)).getD j default)))), (31, (vi 0))] [LeV (AV.d (DV.sl 3 (listF (DV.b false) [(DV.i .i64 1), (DV.i .i64 2), (DV.i .i64 3)]))) (vl ([1, 2, 3] : List Int)), LeV (AV.d (DV.sl 2 (listF (DV.b false) [(DV.i .i64 1), (DV.i .i64 2)]))) (vl ([1, 2] : List Int)), LeV (AV.d (DV.sl 2 (listF (DV.b false) [(DV.i .i64 1), (DV.i .i64 3)]))) (vl ([1, 3] : List Int)), LeV (AV.d (DV.sl 1 (listF (DV.b false) [(DV.i .i64 2)]))) (vl ([2] : List Int)), 0 < 4, 1 < 4, 2 < 4, 3 < 4, LeV (AV.d (DV.arr 1 4 fun j => if j = 3 then (eL (DV.i .i64) ([2] : List Int)) else if j = 2 then (eL (DV.i .i64) ([1, 3] : List Int)) else if j = 1 then (eL (DV.i .i64) ([1, 2] : List Int)) else if j = 0 then (eL (DV.i .i64) ([1, 2, 3] : List Int)) else (DV.sl 0 fun _ => DV.b false))) (AV.d (eA 1 4 (eL (DV.i .i64)) (fun j => ([([1, 2, 3] : List Int), ([1, 2] : List Int), ([1, 3] : List Int), ([2] : List Int)] : List (List Int)).getD j default)))] (by kernel_rfl) (And.intro (leV_lit (DV.i .i64) ([1, 2, 3] : List Int)) (And.intro (leV_lit (DV.i .i64) ([1, 2] : List Int)) (And.intro (leV_lit (DV.i .i64) ([1, 3] : List Int)) (And.intro (leV_lit (DV.i .i64) ([2] : List Int)) (And.intro (by decide) (And.intro (by decide) (And.intro (by decide) (And.intro (by decide) (And.intro (leV_arr (fun | 0, _ => rfl | 1, _ => rfl | 2, _ => rfl | 3, _ => rfl | (k + 4), h => absurd h (by omega))) trivial))))))))) ?_))
  obtain ⟨ov5, hxv6, h⟩ := outM_some h
  have hn : 4 < 2 ^ 63 := by decide
  refine aws_loop (E := (fun (_ : Unit) => [])) (LE := (fun (_ : Unit) => [(bx (TTreasuryplaySrc.e rv3.2)), (bx (TApiLedger.e rv3.1))])) (R := (fun x => FR Try.prog Try.f3 (V3 x) (L3 x))) (aw_range (n := 4) (m := 2) (I := (fun (iv7 : Nat) (_ : Unit) => [(6, (vp 1)), (7, (vi ((IntKind.i64.wrap a1).tmod 70))), (30, (AV.d (eA 1 4 (eL (DV.i .i64)) (fun j => ([([1, 2, 3] : List Int), ([1, 2] : List Int), ([1, 3] : List Int), ([2] : List Int)] : List (List Int)).getD j default)))), (31, (vi (iv7 : Int)))])) (LI := (fun (_ : Nat) => (fun (_ : Unit) => [(bx (TTreasuryplaySrc.e rv3.2)), (bx (TApiLedger.e rv3.1))]))) (body := F3_b3 a1 rv3) (fun iv7 _ _ hi h => aw_of ?_) (fun _ => aw_of ?_) (fun _ _ => rfl) (Nat.zero_add _) hxv6 ⟨(fA (by kernel_rfl)), .inl rfl⟩ (Nat.le_of_ble_eq_true (by kernel_rfl))) (fun _ => Nat.le_of_ble_eq_true (by kernel_rfl)) (fun x fr L e hr => ?_) (fun _ e => ?_)
  · unfold F3_b3 at h
    refine aws_seq (gT [] [(6, (vp 1)), (7, (vi ((IntKind.i64.wrap a1).tmod 70))), (30, (AV.d (eA 1 4 (eL (DV.i .i64)) (fun j => ([([1, 2, 3] : List Int), ([1, 2] : List Int), ([1, 3] : List Int), ([2] : List Int)] : List (List Int)).getD j default)))), (31, (vi (iv7 : Int))), (32, (vb (decide ((iv7 : Int) < 4))))] (by kernel_rfl) ?_)
    refine aws_seq (aws_cond (b := (decide ((iv7 : Int) < 4))) (by kernel_rfl) (fun hbv8 => ?_) (fun hbv8 => absurd (hbv8.symm.trans (decide_eq_true (by omega))) Bool.false_ne_true))
    refine aws_skip (aws_seq ?_)
    obtain ⟨ov9, hxv10, h⟩ := outM_some h
    refine aws_blockS (E := (fun (_ : Unit) => [(6, (vp 1)), (7, (vi ((IntKind.i64.wrap a1).tmod 70))), (30, (AV.d (eA 1 4 (eL (DV.i .i64)) (fun j => ([([1, 2, 3] : List Int), ([1, 2] : List Int), ([1, 3] : List Int), ([2] : List Int)] : List (List Int)).getD j default)))), (31, (vi (iv7 : Int)))])) (LE := (fun (_ : Unit) => [(bx (TTreasuryplaySrc.e rv3.2)), (bx (TApiLedger.e rv3.1))])) (fun s => ov9 = .next s) ?_ (fun _ => Nat.le_of_ble_eq_true (by kernel_rfl)) (fun _ hq => ?_)
    · refine aws_seq (gS [] [(6, (vp 1)), (7, (vi ((IntKind.i64.wrap a1).tmod 70))), (9, (vl ((fun j => ([([1, 2, 3] : List Int), ([1, 2] : List Int), ([1, 3] : List Int), ([2] : List Int)] : List (List Int)).getD j default) iv7))), (30, (AV.d (eA 1 4 (eL (DV.i .i64)) (fun j => ([([1, 2, 3] : List Int), ([1, 2] : List Int), ([1, 3] : List Int), ([2] : List Int)] : List (List Int)).getD j default)))), (31, (vi (iv7 : Int)))] [(0 : Int) ≤ (iv7 : Int), iv7 < 4] (by kernel_rfl) (And.intro (Int.natCast_nonneg _) (And.intro hi trivial)) ?_)
      refine aws_seq ?_
      obtain ⟨rv11, hrv12, hxv10⟩ := bind_some' hxv10
      refine gR [(3, { h := .callq (AV.tup [(AV.d (TApiWhole.e rv11.1)), (vi rv11.2)]) }), (7, { obs := [(2, (bx (TApiWhole.e (⟨[], 0, []⟩ : TApiWhole))))] })] [(6, (vp 1)), (7, (vi ((IntKind.i64.wrap a1).tmod 70))), (9, (vl ((fun j => ([([1, 2, 3] : List Int), ([1, 2] : List Int), ([1, 3] : List Int), ([2] : List Int)] : List (List Int)).getD j default) iv7))), (10, (vp 2)), (11, (vi rv11.2)), (30, (AV.d (eA 1 4 (eL (DV.i .i64)) (fun j => ([([1, 2, 3] : List Int), ([1, 2] : List Int), ([1, 3] : List Int), ([2] : List Int)] : List (List Int)).getD j default)))), (31, (vi (iv7 : Int)))] [(bx (TTreasuryplaySrc.e rv3.2)), (bx (TApiLedger.e rv3.1)), (bx (TApiWhole.e rv11.1))] [_, OLe (bx (DV.agg [(DV.sl 0 fun _ => DV.b false), (DV.i .i64 0), (DV.sl 0 fun _ => DV.b false)])) (bx (TApiWhole.e (⟨[], 0, []⟩ : TApiWhole)))] (by kernel_rfl) (And.intro ((F11_ok hrv12).pu (fun _ => rfl) (fun _ => rfl)) (And.intro (oLe_box (DLe.agg (DLeL.cons DLe.sl0 (DLeL.cons (DLe.refl _) (DLeL.cons DLe.sl0 DLeL.nil))))) trivial)) ?_
      refine aws_seq (aws_seq (gT [] [(6, (vp 1)), (7, (vi ((IntKind.i64.wrap a1).tmod 70))), (9, (vl ((fun j => ([([1, 2, 3] : List Int), ([1, 2] : List Int), ([1, 3] : List Int), ([2] : List Int)] : List (List Int)).getD j default) iv7))), (10, (vp 2)), (30, (AV.d (eA 1 4 (eL (DV.i .i64)) (fun j => ([([1, 2, 3] : List Int), ([1, 2] : List Int), ([1, 3] : List Int), ([2] : List Int)] : List (List Int)).getD j default)))), (31, (vi (iv7 : Int))), (42, (vb (rv11.2 != 0)))] (by kernel_rfl) ?_))
      refine aws_cond (b := (rv11.2 != 0)) (by kernel_rfl) (fun hbv13 => ?_) (fun hbv13 => ?_)
      · replace hxv10 := iteT hbv13 hxv10
        refine aws_seq (gT [] [(4, (vb false))] (by kernel_rfl) ?_)
        refine aws_ret ?_
        obtain rfl := Option.some.inj hxv10
        obtain rfl := Option.some.inj h
        exact ⟨_, rfl, ⟨_, [], [(bx (TTreasuryplaySrc.e rv3.2)), (bx (TApiLedger.e rv3.1)), (bx (TApiWhole.e rv11.1))], by kernel_rfl, trivial, (LeV.refl _), rfl⟩⟩
      · replace hxv10 := iteF hbv13 hxv10
        refine aws_skip (aws_seq (gT [] [(6, (vp 1)), (7, (vi ((IntKind.i64.wrap a1).tmod 70))), (9, (vl ((fun j => ([([1, 2, 3] : List Int), ([1, 2] : List Int), ([1, 3] : List Int), ([2] : List Int)] : List (List Int)).getD j default) iv7))), (10, (vp 2)), (12, (vi 0)), (30, (AV.d (eA 1 4 (eL (DV.i .i64)) (fun j => ([([1, 2, 3] : List Int), ([1, 2] : List Int), ([1, 3] : List Int), ([2] : List Int)] : List (List Int)).getD j default)))), (31, (vi (iv7 : Int)))] (by kernel_rfl) ?_))
        refine aws_seq (aws_seq (gT [] [(6, (vp 1)), (7, (vi ((IntKind.i64.wrap a1).tmod 70))), (9, (vl ((fun j => ([([1, 2, 3] : List Int), ([1, 2] : List Int), ([1, 3] : List Int), ([2] : List Int)] : List (List Int)).getD j default) iv7))), (10, (vp 2)), (12, (vi 0)), (30, (AV.d (eA 1 4 (eL (DV.i .i64)) (fun j => ([([1, 2, 3] : List Int), ([1, 2] : List Int), ([1, 3] : List Int), ([2] : List Int)] : List (List Int)).getD j default)))), (31, (vi (iv7 : Int))), (44, (AV.d (eL TApiBalance.e rv11.1.Balances))), (45, (vi (rv11.1.Balances.length : Int))), (46, (vi 0))] (by kernel_rfl) ?_))
        obtain ⟨ov14, hxv15, hxv10⟩ := outM_some hxv10
        refine aws_lenL (k := 7) (t := 44) (e := TApiBalance.e) (l := rv11.1.Balances) rfl (by simp) (fun hn => ?_)
        refine aws_loop (E := (fun (sv16 : Int) => [(6, (vp 1)), (7, (vi ((IntKind.i64.wrap a1).tmod 70))), (9, (vl ((fun j => ([([1, 2, 3] : List Int), ([1, 2] : List Int), ([1, 3] : List Int), ([2] : List Int)] : List (List Int)).getD j default) iv7))), (10, (vp 2)), (12, (vi sv16)), (30, (AV.d (eA 1 4 (eL (DV.i .i64)) (fun j => ([([1, 2, 3] : List Int), ([1, 2] : List Int), ([1, 3] : List Int), ([2] : List Int)] : List (List Int)).getD j default)))), (31, (vi (iv7 : Int)))])) (LE := (fun (_ : Int) => [(bx (TTreasuryplaySrc.e rv3.2)), (bx (TApiLedger.e rv3.1)), (bx (TApiWhole.e rv11.1))])) (R := (fun x => FR Try.prog Try.f3 (V3 x) (L3 x))) (aw_range (n := rv11.1.Balances.length) (m := 3) (I := (fun (iv17 : Nat) (sv16 : Int) => [(6, (vp 1)), (7, (vi ((IntKind.i64.wrap a1).tmod 70))), (9, (vl ((fun j => ([([1, 2, 3] : List Int), ([1, 2] : List Int), ([1, 3] : List Int), ([2] : List Int)] : List (List Int)).getD j default) iv7))), (10, (vp 2)), (12, (vi sv16)), (30, (AV.d (eA 1 4 (eL (DV.i .i64)) (fun j => ([([1, 2, 3] : List Int), ([1, 2] : List Int), ([1, 3] : List Int), ([2] : List Int)] : List (List Int)).getD j default)))), (31, (vi (iv7 : Int))), (44, (AV.d (eL TApiBalance.e rv11.1.Balances))), (45, (vi (rv11.1.Balances.length : Int))), (46, (vi (iv17 : Int)))])) (LI := (fun (_ : Nat) => (fun (_ : Int) => [(bx (TTreasuryplaySrc.e rv3.2)), (bx (TApiLedger.e rv3.1)), (bx (TApiWhole.e rv11.1))]))) (body := F3_b2 a1 rv3 iv7 rv11) (fun iv17 sv16 _ hi h => aw_of ?_) (fun sv16 => aw_of ?_) (fun _ _ => rfl) (Nat.zero_add _) hxv15 ⟨(fA (by kernel_rfl)), .inl rfl⟩ (Nat.le_of_ble_eq_true (by kernel_rfl))) (fun _ => Nat.le_of_ble_eq_true (by kernel_rfl)) (fun x fr L e hr => ?_) (fun sv16 e => ?_)
        · unfold F3_b2 at h
          refine aws_seq (gT [] [(6, (vp 1)), (7, (vi ((IntKind.i64.wrap a1).tmod 70))), (9, (vl ((fun j => ([([1, 2, 3] : List Int), ([1, 2] : List Int), ([1, 3] : List Int), ([2] : List Int)] : List (List Int)).getD j default) iv7))), (10, (vp 2)), (12, (vi sv16)), (30, (AV.d (eA 1 4 (eL (DV.i .i64)) (fun j => ([([1, 2, 3] : List Int), ([1, 2] : List Int), ([1, 3] : List Int), ([2] : List Int)] : List (List Int)).getD j default)))), (31, (vi (iv7 : Int))), (44, (AV.d (eL TApiBalance.e rv11.1.Balances))), (45, (vi (rv11.1.Balances.length : Int))), (46, (vi (iv17 : Int))), (47, (vb (decide ((iv17 : Int) < (rv11.1.Balances.length : Int)))))] (by kernel_rfl) ?_)
          refine aws_seq (aws_cond (b := (decide ((iv17 : Int) < (rv11.1.Balances.length : Int)))) (by kernel_rfl) (fun hbv18 => ?_) (fun hbv18 => absurd (hbv18.symm.trans (decide_eq_true (by omega))) Bool.false_ne_true))
          refine aws_skip (aws_seq ?_)
          obtain ⟨ov19, hxv20, h⟩ := outM_some h
          refine aws_blockS (E := (fun (sv21 : Int) => [(6, (vp 1)), (7, (vi ((IntKind.i64.wrap a1).tmod 70))), (9, (vl ((fun j => ([([1, 2, 3] : List Int), ([1, 2] : List Int), ([1, 3] : List Int), ([2] : List Int)] : List (List Int)).getD j default) iv7))), (10, (vp 2)), (12, (vi sv21)), (30, (AV.d (eA 1 4 (eL (DV.i .i64)) (fun j => ([([1, 2, 3] : List Int), ([1, 2] : List Int), ([1, 3] : List Int), ([2] : List Int)] : List (List Int)).getD j default)))), (31, (vi (iv7 : Int))), (44, (AV.d (eL TApiBalance.e rv11.1.Balances))), (45, (vi (rv11.1.Balances.length : Int))), (46, (vi (iv17 : Int)))])) (LE := (fun (_ : Int) => [(bx (TTreasuryplaySrc.e rv3.2)), (bx (TApiLedger.e rv3.1)), (bx (TApiWhole.e rv11.1))])) (fun s => ov19 = .next s) ?_ (fun _ => Nat.le_of_ble_eq_true (by kernel_rfl)) (fun sv21 hq => ?_)
          · refine aws_seq (gR [] [(6, (vp 1)), (7, (vi ((IntKind.i64.wrap a1).tmod 70))), (9, (vl ((fun j => ([([1, 2, 3] : List Int), ([1, 2] : List Int), ([1, 3] : List Int), ([2] : List Int)] : List (List Int)).getD j default) iv7))), (10, (vp 2)), (12, (vi sv16)), (13, (vi (iv17 : Int))), (14, (vp 3)), (30, (AV.d (eA 1 4 (eL (DV.i .i64)) (fun j => ([([1, 2, 3] : List Int), ([1, 2] : List Int), ([1, 3] : List Int), ([2] : List Int)] : List (List Int)).getD j default)))), (31, (vi (iv7 : Int))), (44, (AV.d (eL TApiBalance.e rv11.1.Balances))), (45, (vi (rv11.1.Balances.length : Int))), (46, (vi (iv17 : Int)))] [(bx (TTreasuryplaySrc.e rv3.2)), (bx (TApiLedger.e rv3.1)), (bx (TApiWhole.e rv11.1)), (bx (TApiBalance.e (rv11.1.Balances.getD iv17 default)))] [(0 : Int) ≤ (iv17 : Int), iv17 < rv11.1.Balances.length] (by kernel_rfl) (And.intro (Int.natCast_nonneg _) (And.intro hi trivial)) ?_)
            refine aws_seq (gT [] [(6, (vp 1)), (7, (vi ((IntKind.i64.wrap a1).tmod 70))), (9, (vl ((fun j => ([([1, 2, 3] : List Int), ([1, 2] : List Int), ([1, 3] : List Int), ([2] : List Int)] : List (List Int)).getD j default) iv7))), (10, (vp 2)), (12, (vi (IntKind.i64.wrap (sv16 + ((rv11.1.Balances.getD iv17 default).Amount))))), (13, (vi (iv17 : Int))), (14, (vp 3)), (30, (AV.d (eA 1 4 (eL (DV.i .i64)) (fun j => ([([1, 2, 3] : List Int), ([1, 2] : List Int), ([1, 3] : List Int), ([2] : List Int)] : List (List Int)).getD j default)))), (31, (vi (iv7 : Int))), (44, (AV.d (eL TApiBalance.e rv11.1.Balances))), (45, (vi (rv11.1.Balances.length : Int))), (46, (vi (iv17 : Int)))] (by kernel_rfl) ?_)
            refine aws_seq (aws_seq ?_)
            obtain ⟨⟨hcv22, hcv23, _⟩, hxv20⟩ := guardP_some hxv20
            refine gD ⟨[[], [0], [1, 0], [2, 1, 0], [3, 2, 1, 0], [2, 1, 0], [5, 2, 1, 0], [6, 5, 4, 3, 2, 1, 0], [7, 6, 5, 4, 3, 2, 1, 0], [8, 7, 6, 5, 4, 3, 2, 1, 0], [2, 1, 0], [10, 2, 1, 0], [11, 10, 9, 8, 7, 6, 5, 4, 3, 2, 1, 0], [12, 11, 10, 9, 8, 7, 6, 5, 4, 3, 2, 1, 0]], []⟩ [] [(6, (vp 1)), (7, (vi ((IntKind.i64.wrap a1).tmod 70))), (9, (vl ((fun j => ([([1, 2, 3] : List Int), ([1, 2] : List Int), ([1, 3] : List Int), ([2] : List Int)] : List (List Int)).getD j default) iv7))), (10, (vp 2)), (12, (vi (IntKind.i64.wrap (sv16 + ((rv11.1.Balances.getD iv17 default).Amount))))), (14, (vp 3)), (30, (AV.d (eA 1 4 (eL (DV.i .i64)) (fun j => ([([1, 2, 3] : List Int), ([1, 2] : List Int), ([1, 3] : List Int), ([2] : List Int)] : List (List Int)).getD j default)))), (31, (vi (iv7 : Int))), (44, (AV.d (eL TApiBalance.e rv11.1.Balances))), (45, (vi (rv11.1.Balances.length : Int))), (46, (vi (iv17 : Int))), (68, (vb (bif (decide ((iv17 : Int) > 0)) then (decide (((rv11.1.Balances.getD (((IntKind.i64.wrap ((iv17 : Int) - 1))).toNat) default).Account) ≥ ((rv11.1.Balances.getD iv17 default).Account))) else false)))] [(bx (TTreasuryplaySrc.e rv3.2)), (bx (TApiLedger.e rv3.1)), (bx (TApiWhole.e rv11.1)), (bx (TApiBalance.e (rv11.1.Balances.getD iv17 default)))] [AllP [(decide ((iv17 : Int) > 0)) = true] → ((0 : Int) ≤ (IntKind.i64.wrap ((iv17 : Int) - 1))), AllP [(decide ((iv17 : Int) > 0)) = true] → (((IntKind.i64.wrap ((iv17 : Int) - 1))).toNat < rv11.1.Balances.length)] (by kernel_rfl) (by kernel_rfl) (by kernel_rfl) (And.intro hcv22 (And.intro hcv23 trivial)) ?_
            refine aws_cond (b := (bif (decide ((iv17 : Int) > 0)) then (decide (((rv11.1.Balances.getD (((IntKind.i64.wrap ((iv17 : Int) - 1))).toNat) default).Account) ≥ ((rv11.1.Balances.getD iv17 default).Account))) else false)) (by kernel_rfl) (fun hbv24 => ?_) (fun hbv24 => ?_)
            · replace hxv20 := iteT hbv24 hxv20
              refine aws_seq (gT [] [(4, (vb false))] (by kernel_rfl) ?_)
              refine aws_ret ?_
              obtain rfl := Option.some.inj hxv20
              obtain rfl := Option.some.inj h
              exact ⟨_, rfl, ⟨_, [], [(bx (TTreasuryplaySrc.e rv3.2)), (bx (TApiLedger.e rv3.1)), (bx (TApiWhole.e rv11.1)), (bx (TApiBalance.e (rv11.1.Balances.getD iv17 default)))], by kernel_rfl, trivial, (LeV.refl _), rfl⟩⟩
            · replace hxv20 := iteF hbv24 hxv20
              refine aws_skip (aws_seq (gT [] [(6, (vp 1)), (7, (vi ((IntKind.i64.wrap a1).tmod 70))), (9, (vl ((fun j => ([([1, 2, 3] : List Int), ([1, 2] : List Int), ([1, 3] : List Int), ([2] : List Int)] : List (List Int)).getD j default) iv7))), (10, (vp 2)), (12, (vi (IntKind.i64.wrap (sv16 + ((rv11.1.Balances.getD iv17 default).Amount))))), (14, (vp 3)), (15, (vi 0)), (30, (AV.d (eA 1 4 (eL (DV.i .i64)) (fun j => ([([1, 2, 3] : List Int), ([1, 2] : List Int), ([1, 3] : List Int), ([2] : List Int)] : List (List Int)).getD j default)))), (31, (vi (iv7 : Int))), (44, (AV.d (eL TApiBalance.e rv11.1.Balances))), (45, (vi (rv11.1.Balances.length : Int))), (46, (vi (iv17 : Int)))] (by kernel_rfl) ?_))
              refine aws_seq (aws_seq (gT [] [(6, (vp 1)), (7, (vi ((IntKind.i64.wrap a1).tmod 70))), (9, (vl ((fun j => ([([1, 2, 3] : List Int), ([1, 2] : List Int), ([1, 3] : List Int), ([2] : List Int)] : List (List Int)).getD j default) iv7))), (10, (vp 2)), (12, (vi (IntKind.i64.wrap (sv16 + ((rv11.1.Balances.getD iv17 default).Amount))))), (14, (vp 3)), (15, (vi 0)), (30, (AV.d (eA 1 4 (eL (DV.i .i64)) (fun j => ([([1, 2, 3] : List Int), ([1, 2] : List Int), ([1, 3] : List Int), ([2] : List Int)] : List (List Int)).getD j default)))), (31, (vi (iv7 : Int))), (44, (AV.d (eL TApiBalance.e rv11.1.Balances))), (45, (vi (rv11.1.Balances.length : Int))), (46, (vi (iv17 : Int))), (69, (vl ((fun j => ([([1, 2, 3] : List Int), ([1, 2] : List Int), ([1, 3] : List Int), ([2] : List Int)] : List (List Int)).getD j default) iv7))), (70, (vi (((fun j => ([([1, 2, 3] : List Int), ([1, 2] : List Int), ([1, 3] : List Int), ([2] : List Int)] : List (List Int)).getD j default) iv7).length : Int))), (71, (vi 0))] (by kernel_rfl) ?_))
              obtain ⟨ov25, hxv26, hxv20⟩ := outM_some hxv20
              refine aws_lenL (k := 2) (t := 9) (e := (DV.i .i64)) (l := ((fun j => ([([1, 2, 3] : List Int), ([1, 2] : List Int), ([1, 3] : List Int), ([2] : List Int)] : List (List Int)).getD j default) iv7)) rfl (by simp) (fun hn => ?_)
              refine aws_loop (E := (fun (sv27 : Int) => [(6, (vp 1)), (7, (vi ((IntKind.i64.wrap a1).tmod 70))), (9, (vl ((fun j => ([([1, 2, 3] : List Int), ([1, 2] : List Int), ([1, 3] : List Int), ([2] : List Int)] : List (List Int)).getD j default) iv7))), (10, (vp 2)), (12, (vi (IntKind.i64.wrap (sv16 + ((rv11.1.Balances.getD iv17 default).Amount))))), (14, (vp 3)), (15, (vi sv27)), (30, (AV.d (eA 1 4 (eL (DV.i .i64)) (fun j => ([([1, 2, 3] : List Int), ([1, 2] : List Int), ([1, 3] : List Int), ([2] : List Int)] : List (List Int)).getD j default)))), (31, (vi (iv7 : Int))), (44, (AV.d (eL TApiBalance.e rv11.1.Balances))), (45, (vi (rv11.1.Balances.length : Int))), (46, (vi (iv17 : Int)))])) (LE := (fun (_ : Int) => [(bx (TTreasuryplaySrc.e rv3.2)), (bx (TApiLedger.e rv3.1)), (bx (TApiWhole.e rv11.1)), (bx (TApiBalance.e (rv11.1.Balances.getD iv17 default)))])) (R := (fun x => FR Try.prog Try.f3 (V3 x) (L3 x))) (aw_range (n := (((fun j => ([([1, 2, 3] : List Int), ([1, 2] : List Int), ([1, 3] : List Int), ([2] : List Int)] : List (List Int)).getD j default) iv7).length)) (m := 4) (I := (fun (iv28 : Nat) (sv27 : Int) => [(6, (vp 1)), (7, (vi ((IntKind.i64.wrap a1).tmod 70))), (9, (vl ((fun j => ([([1, 2, 3] : List Int), ([1, 2] : List Int), ([1, 3] : List Int), ([2] : List Int)] : List (List Int)).getD j default) iv7))), (10, (vp 2)), (12, (vi (IntKind.i64.wrap (sv16 + ((rv11.1.Balances.getD iv17 default).Amount))))), (14, (vp 3)), (15, (vi sv27)), (30, (AV.d (eA 1 4 (eL (DV.i .i64)) (fun j => ([([1, 2, 3] : List Int), ([1, 2] : List Int), ([1, 3] : List Int), ([2] : List Int)] : List (List Int)).getD j default)))), (31, (vi (iv7 : Int))), (44, (AV.d (eL TApiBalance.e rv11.1.Balances))), (45, (vi (rv11.1.Balances.length : Int))), (46, (vi (iv17 : Int))), (69, (vl ((fun j => ([([1, 2, 3] : List Int), ([1, 2] : List Int), ([1, 3] : List Int), ([2] : List Int)] : List (List Int)).getD j default) iv7))), (70, (vi (((fun j => ([([1, 2, 3] : List Int), ([1, 2] : List Int), ([1, 3] : List Int), ([2] : List Int)] : List (List Int)).getD j default) iv7).length : Int))), (71, (vi (iv28 : Int)))])) (LI := (fun (_ : Nat) => (fun (_ : Int) => [(bx (TTreasuryplaySrc.e rv3.2)), (bx (TApiLedger.e rv3.1)), (bx (TApiWhole.e rv11.1)), (bx (TApiBalance.e (rv11.1.Balances.getD iv17 default)))]))) (body := F3_b1 a1 rv3 iv7 rv11 iv17) (fun iv28 sv27 _ hi h => aw_of ?_) (fun sv27 => aw_of ?_) (fun _ _ => rfl) (Nat.zero_add _) hxv26 ⟨(fA (by kernel_rfl)), .inl rfl⟩ (Nat.le_of_ble_eq_true (by kernel_rfl))) (fun _ => Nat.le_of_ble_eq_true (by kernel_rfl)) (fun x fr L e hr => ?_) (fun sv27 e => ?_)
              · unfold F3_b1 at h
                refine aws_seq (gT [] [(6, (vp 1)), (7, (vi ((IntKind.i64.wrap a1).tmod 70))), (9, (vl ((fun j => ([([1, 2, 3] : List Int), ([1, 2] : List Int), ([1, 3] : List Int), ([2] : List Int)] : List (List Int)).getD j default) iv7))), (10, (vp 2)), (12, (vi (IntKind.i64.wrap (sv16 + ((rv11.1.Balances.getD iv17 default).Amount))))), (14, (vp 3)), (15, (vi sv27)), (30, (AV.d (eA 1 4 (eL (DV.i .i64)) (fun j => ([([1, 2, 3] : List Int), ([1, 2] : List Int), ([1, 3] : List Int), ([2] : List Int)] : List (List Int)).getD j default)))), (31, (vi (iv7 : Int))), (44, (AV.d (eL TApiBalance.e rv11.1.Balances))), (45, (vi (rv11.1.Balances.length : Int))), (46, (vi (iv17 : Int))), (69, (vl ((fun j => ([([1, 2, 3] : List Int), ([1, 2] : List Int), ([1, 3] : List Int), ([2] : List Int)] : List (List Int)).getD j default) iv7))), (70, (vi (((fun j => ([([1, 2, 3] : List Int), ([1, 2] : List Int), ([1, 3] : List Int), ([2] : List Int)] : List (List Int)).getD j default) iv7).length : Int))), (71, (vi (iv28 : Int))), (72, (vb (decide ((iv28 : Int) < (((fun j => ([([1, 2, 3] : List Int), ([1, 2] : List Int), ([1, 3] : List Int), ([2] : List Int)] : List (List Int)).getD j default) iv7).length : Int)))))] (by kernel_rfl) ?_)
                refine aws_seq (aws_cond (b := (decide ((iv28 : Int) < (((fun j => ([([1, 2, 3] : List Int), ([1, 2] : List Int), ([1, 3] : List Int), ([2] : List Int)] : List (List Int)).getD j default) iv7).length : Int)))) (by kernel_rfl) (fun hbv29 => ?_) (fun hbv29 => absurd (hbv29.symm.trans (decide_eq_true (by omega))) Bool.false_ne_true))
                refine aws_skip (aws_seq ?_)
                obtain ⟨ov30, hxv31, h⟩ := bind_some' h
                refine aws_blockS (E := (fun (sv32 : Int) => [(6, (vp 1)), (7, (vi ((IntKind.i64.wrap a1).tmod 70))), (9, (vl ((fun j => ([([1, 2, 3] : List Int), ([1, 2] : List Int), ([1, 3] : List Int), ([2] : List Int)] : List (List Int)).getD j default) iv7))), (10, (vp 2)), (12, (vi (IntKind.i64.wrap (sv16 + ((rv11.1.Balances.getD iv17 default).Amount))))), (14, (vp 3)), (15, (vi sv32)), (30, (AV.d (eA 1 4 (eL (DV.i .i64)) (fun j => ([([1, 2, 3] : List Int), ([1, 2] : List Int), ([1, 3] : List Int), ([2] : List Int)] : List (List Int)).getD j default)))), (31, (vi (iv7 : Int))), (44, (AV.d (eL TApiBalance.e rv11.1.Balances))), (45, (vi (rv11.1.Balances.length : Int))), (46, (vi (iv17 : Int))), (69, (vl ((fun j => ([([1, 2, 3] : List Int), ([1, 2] : List Int), ([1, 3] : List Int), ([2] : List Int)] : List (List Int)).getD j default) iv7))), (70, (vi (((fun j => ([([1, 2, 3] : List Int), ([1, 2] : List Int), ([1, 3] : List Int), ([2] : List Int)] : List (List Int)).getD j default) iv7).length : Int))), (71, (vi (iv28 : Int)))])) (LE := (fun (_ : Int) => [(bx (TTreasuryplaySrc.e rv3.2)), (bx (TApiLedger.e rv3.1)), (bx (TApiWhole.e rv11.1)), (bx (TApiBalance.e (rv11.1.Balances.getD iv17 default)))])) (fun s => s = ov30) ?_ (fun _ => Nat.le_of_ble_eq_true (by kernel_rfl)) (fun sv32 hq => ?_)
                · refine aws_seq (gS [] [(6, (vp 1)), (7, (vi ((IntKind.i64.wrap a1).tmod 70))), (9, (vl ((fun j => ([([1, 2, 3] : List Int), ([1, 2] : List Int), ([1, 3] : List Int), ([2] : List Int)] : List (List Int)).getD j default) iv7))), (10, (vp 2)), (12, (vi (IntKind.i64.wrap (sv16 + ((rv11.1.Balances.getD iv17 default).Amount))))), (14, (vp 3)), (15, (vi sv27)), (17, (vi (((fun j => ([([1, 2, 3] : List Int), ([1, 2] : List Int), ([1, 3] : List Int), ([2] : List Int)] : List (List Int)).getD j default) iv7).getD iv28 default))), (30, (AV.d (eA 1 4 (eL (DV.i .i64)) (fun j => ([([1, 2, 3] : List Int), ([1, 2] : List Int), ([1, 3] : List Int), ([2] : List Int)] : List (List Int)).getD j default)))), (31, (vi (iv7 : Int))), (44, (AV.d (eL TApiBalance.e rv11.1.Balances))), (45, (vi (rv11.1.Balances.length : Int))), (46, (vi (iv17 : Int))), (69, (vl ((fun j => ([([1, 2, 3] : List Int), ([1, 2] : List Int), ([1, 3] : List Int), ([2] : List Int)] : List (List Int)).getD j default) iv7))), (70, (vi (((fun j => ([([1, 2, 3] : List Int), ([1, 2] : List Int), ([1, 3] : List Int), ([2] : List Int)] : List (List Int)).getD j default) iv7).length : Int))), (71, (vi (iv28 : Int)))] [(0 : Int) ≤ (iv28 : Int), iv28 < ((fun j => ([([1, 2, 3] : List Int), ([1, 2] : List Int), ([1, 3] : List Int), ([2] : List Int)] : List (List Int)).getD j default) iv7).length] (by kernel_rfl) (And.intro (Int.natCast_nonneg _) (And.intro hi trivial)) ?_)
                  obtain ⟨rv33, hrv34, hxv31⟩ := bind_some' hxv31
                  refine gS [(6, { h := .callq (vi rv33) })] [(6, (vp 1)), (7, (vi ((IntKind.i64.wrap a1).tmod 70))), (9, (vl ((fun j => ([([1, 2, 3] : List Int), ([1, 2] : List Int), ([1, 3] : List Int), ([2] : List Int)] : List (List Int)).getD j default) iv7))), (10, (vp 2)), (12, (vi (IntKind.i64.wrap (sv16 + ((rv11.1.Balances.getD iv17 default).Amount))))), (14, (vp 3)), (15, (vi (IntKind.i64.wrap (sv27 + rv33)))), (30, (AV.d (eA 1 4 (eL (DV.i .i64)) (fun j => ([([1, 2, 3] : List Int), ([1, 2] : List Int), ([1, 3] : List Int), ([2] : List Int)] : List (List Int)).getD j default)))), (31, (vi (iv7 : Int))), (44, (AV.d (eL TApiBalance.e rv11.1.Balances))), (45, (vi (rv11.1.Balances.length : Int))), (46, (vi (iv17 : Int))), (69, (vl ((fun j => ([([1, 2, 3] : List Int), ([1, 2] : List Int), ([1, 3] : List Int), ([2] : List Int)] : List (List Int)).getD j default) iv7))), (70, (vi (((fun j => ([([1, 2, 3] : List Int), ([1, 2] : List Int), ([1, 3] : List Int), ([2] : List Int)] : List (List Int)).getD j default) iv7).length : Int))), (71, (vi (iv28 : Int)))] [_] (by kernel_rfl) (And.intro ((F12_ok hrv34).pu (fun _ => rfl) (fun _ => rfl)) trivial) ?_
                  refine aws_nil ?_
                  obtain rfl := Option.some.inj hxv31
                  exact ⟨_, rfl, ⟨(fA (by kernel_rfl)), .inl rfl⟩⟩
                · subst hq
                  refine gT [] [(6, (vp 1)), (7, (vi ((IntKind.i64.wrap a1).tmod 70))), (9, (vl ((fun j => ([([1, 2, 3] : List Int), ([1, 2] : List Int), ([1, 3] : List Int), ([2] : List Int)] : List (List Int)).getD j default) iv7))), (10, (vp 2)), (12, (vi (IntKind.i64.wrap (sv16 + ((rv11.1.Balances.getD iv17 default).Amount))))), (14, (vp 3)), (15, (vi sv32)), (30, (AV.d (eA 1 4 (eL (DV.i .i64)) (fun j => ([([1, 2, 3] : List Int), ([1, 2] : List Int), ([1, 3] : List Int), ([2] : List Int)] : List (List Int)).getD j default)))), (31, (vi (iv7 : Int))), (44, (AV.d (eL TApiBalance.e rv11.1.Balances))), (45, (vi (rv11.1.Balances.length : Int))), (46, (vi (iv17 : Int))), (69, (vl ((fun j => ([([1, 2, 3] : List Int), ([1, 2] : List Int), ([1, 3] : List Int), ([2] : List Int)] : List (List Int)).getD j default) iv7))), (70, (vi (((fun j => ([([1, 2, 3] : List Int), ([1, 2] : List Int), ([1, 3] : List Int), ([2] : List Int)] : List (List Int)).getD j default) iv7).length : Int))), (71, (vi (IntKind.i64.wrap ((iv28 : Int) + 1))))] (by kernel_rfl) ?_
                  refine aws_nil ?_
                  obtain rfl := Option.some.inj h
                  exact ⟨_, rfl, ⟨(fq 0 rfl (fq 1 rfl (fq 2 rfl (fq 3 rfl (fq 4 rfl (fq 5 rfl (fq 6 rfl (fq 7 rfl (fq 8 rfl (fq 9 rfl (fq 10 rfl (fq 11 rfl (fq 12 rfl (fq 13 rfl (frLe_at (k := 14) rfl (LeV.of_eq (congrArg (fun n => AV.d (DV.i .i64 n)) (wrap_succ (by omega)))) frLe_nil))))))))))))))), .inl rfl⟩⟩
              · refine aws_seq (gT [] [(6, (vp 1)), (7, (vi ((IntKind.i64.wrap a1).tmod 70))), (9, (vl ((fun j => ([([1, 2, 3] : List Int), ([1, 2] : List Int), ([1, 3] : List Int), ([2] : List Int)] : List (List Int)).getD j default) iv7))), (10, (vp 2)), (12, (vi (IntKind.i64.wrap (sv16 + ((rv11.1.Balances.getD iv17 default).Amount))))), (14, (vp 3)), (15, (vi sv27)), (30, (AV.d (eA 1 4 (eL (DV.i .i64)) (fun j => ([([1, 2, 3] : List Int), ([1, 2] : List Int), ([1, 3] : List Int), ([2] : List Int)] : List (List Int)).getD j default)))), (31, (vi (iv7 : Int))), (44, (AV.d (eL TApiBalance.e rv11.1.Balances))), (45, (vi (rv11.1.Balances.length : Int))), (46, (vi (iv17 : Int))), (69, (vl ((fun j => ([([1, 2, 3] : List Int), ([1, 2] : List Int), ([1, 3] : List Int), ([2] : List Int)] : List (List Int)).getD j default) iv7))), (70, (vi (((fun j => ([([1, 2, 3] : List Int), ([1, 2] : List Int), ([1, 3] : List Int), ([2] : List Int)] : List (List Int)).getD j default) iv7).length : Int))), (71, (vi ((((fun j => ([([1, 2, 3] : List Int), ([1, 2] : List Int), ([1, 3] : List Int), ([2] : List Int)] : List (List Int)).getD j default) iv7).length : Nat) : Int))), (72, (vb (decide (((((fun j => ([([1, 2, 3] : List Int), ([1, 2] : List Int), ([1, 3] : List Int), ([2] : List Int)] : List (List Int)).getD j default) iv7).length : Nat) : Int) < (((fun j => ([([1, 2, 3] : List Int), ([1, 2] : List Int), ([1, 3] : List Int), ([2] : List Int)] : List (List Int)).getD j default) iv7).length : Int)))))] (by kernel_rfl) ?_)
                refine aws_seq (aws_cond (b := (decide (((((fun j => ([([1, 2, 3] : List Int), ([1, 2] : List Int), ([1, 3] : List Int), ([2] : List Int)] : List (List Int)).getD j default) iv7).length : Nat) : Int) < (((fun j => ([([1, 2, 3] : List Int), ([1, 2] : List Int), ([1, 3] : List Int), ([2] : List Int)] : List (List Int)).getD j default) iv7).length : Int)))) (by kernel_rfl) (fun hbv35 => absurd hbv35 (Bool.eq_false_iff.mp (decide_eq_false (by omega)))) (fun hbv35 => ?_))
                refine aws_exit ?_
                exact ⟨rfl, _, rfl, ⟨(fA (by kernel_rfl)), .inl rfl⟩⟩
              · subst e
                exact nomatch (show (none : Option _) = some _ from hxv20)
              · subst e
                refine aws_seq (gT [] [(6, (vp 1)), (7, (vi ((IntKind.i64.wrap a1).tmod 70))), (9, (vl ((fun j => ([([1, 2, 3] : List Int), ([1, 2] : List Int), ([1, 3] : List Int), ([2] : List Int)] : List (List Int)).getD j default) iv7))), (10, (vp 2)), (12, (vi (IntKind.i64.wrap (sv16 + ((rv11.1.Balances.getD iv17 default).Amount))))), (14, (vp 3)), (15, (vi sv27)), (18, (vb (bif (bif (bif (((rv11.1.Balances.getD iv17 default).Account) == 140) then true else (((rv11.1.Balances.getD iv17 default).Account) == 240)) then true else (((rv11.1.Balances.getD iv17 default).Account) == 440)) then true else (((rv11.1.Balances.getD iv17 default).Account) == 540)))), (30, (AV.d (eA 1 4 (eL (DV.i .i64)) (fun j => ([([1, 2, 3] : List Int), ([1, 2] : List Int), ([1, 3] : List Int), ([2] : List Int)] : List (List Int)).getD j default)))), (31, (vi (iv7 : Int))), (44, (AV.d (eL TApiBalance.e rv11.1.Balances))), (45, (vi (rv11.1.Balances.length : Int))), (46, (vi (iv17 : Int)))] (by kernel_rfl) ?_)
                refine aws_seq (gT [] [(6, (vp 1)), (7, (vi ((IntKind.i64.wrap a1).tmod 70))), (9, (vl ((fun j => ([([1, 2, 3] : List Int), ([1, 2] : List Int), ([1, 3] : List Int), ([2] : List Int)] : List (List Int)).getD j default) iv7))), (10, (vp 2)), (12, (vi (IntKind.i64.wrap (sv16 + ((rv11.1.Balances.getD iv17 default).Amount))))), (30, (AV.d (eA 1 4 (eL (DV.i .i64)) (fun j => ([([1, 2, 3] : List Int), ([1, 2] : List Int), ([1, 3] : List Int), ([2] : List Int)] : List (List Int)).getD j default)))), (31, (vi (iv7 : Int))), (44, (AV.d (eL TApiBalance.e rv11.1.Balances))), (45, (vi (rv11.1.Balances.length : Int))), (46, (vi (iv17 : Int))), (109, (vb (bif (!(bif (bif (bif (((rv11.1.Balances.getD iv17 default).Account) == 140) then true else (((rv11.1.Balances.getD iv17 default).Account) == 240)) then true else (((rv11.1.Balances.getD iv17 default).Account) == 440)) then true else (((rv11.1.Balances.getD iv17 default).Account) == 540))) then (sv27 != ((rv11.1.Balances.getD iv17 default).Amount)) else false)))] (by kernel_rfl) ?_)
                refine aws_cond (b := (bif (!(bif (bif (bif (((rv11.1.Balances.getD iv17 default).Account) == 140) then true else (((rv11.1.Balances.getD iv17 default).Account) == 240)) then true else (((rv11.1.Balances.getD iv17 default).Account) == 440)) then true else (((rv11.1.Balances.getD iv17 default).Account) == 540))) then (sv27 != ((rv11.1.Balances.getD iv17 default).Amount)) else false)) (by kernel_rfl) (fun hbv36 => ?_) (fun hbv36 => ?_)
                · replace hxv20 := iteT hbv36 hxv20
                  refine aws_seq (gT [] [(4, (vb false))] (by kernel_rfl) ?_)
                  refine aws_ret ?_
                  obtain rfl := Option.some.inj hxv20
                  obtain rfl := Option.some.inj h
                  exact ⟨_, rfl, ⟨_, [], [(bx (TTreasuryplaySrc.e rv3.2)), (bx (TApiLedger.e rv3.1)), (bx (TApiWhole.e rv11.1)), (bx (TApiBalance.e (rv11.1.Balances.getD iv17 default)))], by kernel_rfl, trivial, (LeV.refl _), rfl⟩⟩
                · replace hxv20 := iteF hbv36 hxv20
                  refine aws_skip (aws_nil ?_)
                  obtain rfl := Option.some.inj hxv20
                  exact ⟨_, rfl, ⟨(fA (by kernel_rfl)), .inr ⟨⟨[(bx (TApiBalance.e (rv11.1.Balances.getD iv17 default)))], rfl, lsOk (And.intro rfl (And.intro rfl (And.intro rfl trivial)))⟩, List.all_eq_true.1 (by kernel_rfl)⟩⟩⟩
          · subst hq
            refine gT [] [(6, (vp 1)), (7, (vi ((IntKind.i64.wrap a1).tmod 70))), (9, (vl ((fun j => ([([1, 2, 3] : List Int), ([1, 2] : List Int), ([1, 3] : List Int), ([2] : List Int)] : List (List Int)).getD j default) iv7))), (10, (vp 2)), (12, (vi sv21)), (30, (AV.d (eA 1 4 (eL (DV.i .i64)) (fun j => ([([1, 2, 3] : List Int), ([1, 2] : List Int), ([1, 3] : List Int), ([2] : List Int)] : List (List Int)).getD j default)))), (31, (vi (iv7 : Int))), (44, (AV.d (eL TApiBalance.e rv11.1.Balances))), (45, (vi (rv11.1.Balances.length : Int))), (46, (vi (IntKind.i64.wrap ((iv17 : Int) + 1))))] (by kernel_rfl) ?_
            refine aws_nil ?_
            obtain rfl := Option.some.inj h
            exact ⟨_, rfl, ⟨(fq 0 rfl (fq 1 rfl (fq 2 rfl (fq 3 rfl (fq 4 rfl (fq 5 rfl (fq 6 rfl (fq 7 rfl (fq 8 rfl (frLe_at (k := 9) rfl (LeV.of_eq (congrArg (fun n => AV.d (DV.i .i64 n)) (wrap_succ (by omega)))) frLe_nil)))))))))), .inl rfl⟩⟩
        · refine aws_seq (gT [] [(6, (vp 1)), (7, (vi ((IntKind.i64.wrap a1).tmod 70))), (9, (vl ((fun j => ([([1, 2, 3] : List Int), ([1, 2] : List Int), ([1, 3] : List Int), ([2] : List Int)] : List (List Int)).getD j default) iv7))), (10, (vp 2)), (12, (vi sv16)), (30, (AV.d (eA 1 4 (eL (DV.i .i64)) (fun j => ([([1, 2, 3] : List Int), ([1, 2] : List Int), ([1, 3] : List Int), ([2] : List Int)] : List (List Int)).getD j default)))), (31, (vi (iv7 : Int))), (44, (AV.d (eL TApiBalance.e rv11.1.Balances))), (45, (vi (rv11.1.Balances.length : Int))), (46, (vi ((rv11.1.Balances.length : Nat) : Int))), (47, (vb (decide (((rv11.1.Balances.length : Nat) : Int) < (rv11.1.Balances.length : Int)))))] (by kernel_rfl) ?_)
          refine aws_seq (aws_cond (b := (decide (((rv11.1.Balances.length : Nat) : Int) < (rv11.1.Balances.length : Int)))) (by kernel_rfl) (fun hbv37 => absurd hbv37 (Bool.eq_false_iff.mp (decide_eq_false (by omega)))) (fun hbv37 => ?_))
          refine aws_exit ?_
          exact ⟨rfl, _, rfl, ⟨(fA (by kernel_rfl)), .inl rfl⟩⟩
        · subst e
          obtain rfl := Option.some.inj hxv10
          obtain rfl := Option.some.inj h
          exact ⟨_, rfl, hr⟩
        · subst e
          refine aws_seq (gT [] [(6, (vp 1)), (7, (vi ((IntKind.i64.wrap a1).tmod 70))), (30, (AV.d (eA 1 4 (eL (DV.i .i64)) (fun j => ([([1, 2, 3] : List Int), ([1, 2] : List Int), ([1, 3] : List Int), ([2] : List Int)] : List (List Int)).getD j default)))), (31, (vi (iv7 : Int))), (128, (vb (bif (sv16 != 0) then true else (bif ((((fun j => ([([1, 2, 3] : List Int), ([1, 2] : List Int), ([1, 3] : List Int), ([2] : List Int)] : List (List Int)).getD j default) iv7).length : Int) == 1) then (bif (rv11.1.Eliminated != 0) then true else ((rv11.1.Differences.length : Int) != 0)) else false))))] (by kernel_rfl) ?_)
          refine aws_cond (b := (bif (sv16 != 0) then true else (bif ((((fun j => ([([1, 2, 3] : List Int), ([1, 2] : List Int), ([1, 3] : List Int), ([2] : List Int)] : List (List Int)).getD j default) iv7).length : Int) == 1) then (bif (rv11.1.Eliminated != 0) then true else ((rv11.1.Differences.length : Int) != 0)) else false))) (by kernel_rfl) (fun hbv38 => ?_) (fun hbv38 => ?_)
          · replace hxv10 := iteT hbv38 hxv10
            refine aws_seq (gT [] [(4, (vb false))] (by kernel_rfl) ?_)
            refine aws_ret ?_
            obtain rfl := Option.some.inj hxv10
            obtain rfl := Option.some.inj h
            exact ⟨_, rfl, ⟨_, [], [(bx (TTreasuryplaySrc.e rv3.2)), (bx (TApiLedger.e rv3.1)), (bx (TApiWhole.e rv11.1))], by kernel_rfl, trivial, (LeV.refl _), rfl⟩⟩
          · replace hxv10 := iteF hbv38 hxv10
            refine aws_skip (aws_nil ?_)
            obtain rfl := Option.some.inj hxv10
            exact ⟨_, rfl, ⟨(fA (by kernel_rfl)), .inr ⟨⟨[(bx (TApiWhole.e rv11.1))], rfl, lsOk (And.intro rfl (And.intro rfl trivial))⟩, List.all_eq_true.1 (by kernel_rfl)⟩⟩⟩
    · subst hq
      refine gT [] [(6, (vp 1)), (7, (vi ((IntKind.i64.wrap a1).tmod 70))), (30, (AV.d (eA 1 4 (eL (DV.i .i64)) (fun j => ([([1, 2, 3] : List Int), ([1, 2] : List Int), ([1, 3] : List Int), ([2] : List Int)] : List (List Int)).getD j default)))), (31, (vi (IntKind.i64.wrap ((iv7 : Int) + 1))))] (by kernel_rfl) ?_
      refine aws_nil ?_
      obtain rfl := Option.some.inj h
      exact ⟨_, rfl, ⟨(fq 0 rfl (fq 1 rfl (fq 2 rfl (frLe_at (k := 3) rfl (LeV.of_eq (congrArg (fun n => AV.d (DV.i .i64 n)) (wrap_succ (by omega)))) frLe_nil)))), .inl rfl⟩⟩
  · refine aws_seq (gT [] [(6, (vp 1)), (7, (vi ((IntKind.i64.wrap a1).tmod 70))), (30, (AV.d (eA 1 4 (eL (DV.i .i64)) (fun j => ([([1, 2, 3] : List Int), ([1, 2] : List Int), ([1, 3] : List Int), ([2] : List Int)] : List (List Int)).getD j default)))), (31, (vi ((4 : Nat) : Int))), (32, (vb (decide (((4 : Nat) : Int) < 4))))] (by kernel_rfl) ?_)
    refine aws_seq (aws_cond (b := (decide (((4 : Nat) : Int) < 4))) (by kernel_rfl) (fun hbv39 => absurd hbv39 (Bool.eq_false_iff.mp (decide_eq_false (by omega)))) (fun hbv39 => ?_))
    refine aws_exit ?_
    exact ⟨rfl, _, rfl, ⟨frLe_nil, .inl rfl⟩⟩
  · subst e
    obtain rfl := Option.some.inj h
    exact ⟨.inr rfl, hr⟩
  · subst e
    refine aws_seq ?_
    obtain ⟨rv40, hrv41, h⟩ := bind_some' h
    refine gS [(0, { h := .callq (vb rv40) })] [(4, (vb rv40))] [_] (by kernel_rfl) (And.intro ((F13_ok hrv41).pu (fun _ => rfl) (fun _ => rfl)) trivial) ?_
    refine aws_ret ?_
    obtain rfl := Option.some.inj h
    exact ⟨.inr rfl, ⟨_, [], [(bx (TTreasuryplaySrc.e rv3.2)), (bx (TApiLedger.e rv3.1))], by kernel_rfl, trivial, (LeV.refl _), rfl⟩⟩

/-! 14 -/
theorem F14_ok {a1 : Int} {p0 : TTreasuryplaySrc} {r : R14} (h : F14 a1 p0 = some r) : CallOk Try.prog 14 [(vp 0), (vi a1)] [(bx (TTreasuryplaySrc.e p0))] (V14 r) (L14 r) := by
  refine gF Try.func14 rfl (by kernel_rfl) (And.intro rfl trivial) ?_
  unfold F14 at h
  refine aws_seq (gR [(0, { obs := [(1, (bx (TApiLedger.e (⟨[]⟩ : TApiLedger))))] })] [(0, (vp 0)), (1, (vi a1)), (4, (vp 1))] [(bx (TTreasuryplaySrc.e p0)), (bx (TApiLedger.e (⟨[]⟩ : TApiLedger)))] [OLe (bx (DV.agg [(DV.sl 0 fun _ => DV.b false)])) (bx (TApiLedger.e (⟨[]⟩ : TApiLedger)))] (by kernel_rfl) (And.intro (oLe_box (DLe.agg (DLeL.cons DLe.sl0 DLeL.nil))) trivial) ?_)
  refine aws_seq (gR [(0, { obs := [(2, (bx (TApiLedger.e (⟨[]⟩ : TApiLedger))))] })] [(0, (vp 0)), (1, (vi a1)), (4, (vp 1)), (5, (vp 2))] [(bx (TTreasuryplaySrc.e p0)), (bx (TApiLedger.e (⟨[]⟩ : TApiLedger))), (bx (TApiLedger.e (⟨[]⟩ : TApiLedger)))] [OLe (bx (DV.agg [(DV.sl 0 fun _ => DV.b false)])) (bx (TApiLedger.e (⟨[]⟩ : TApiLedger)))] (by kernel_rfl) (And.intro (oLe_box (DLe.agg (DLeL.cons DLe.sl0 DLeL.nil))) trivial) ?_)
  refine aws_seq (gT [] [(0, (vp 0)), (1, (vi a1)), (4, (vp 1)), (5, (vp 2)), (6, (vi 0))] (by kernel_rfl) ?_)
  refine aws_seq (aws_seq ?_)
  obtain ⟨rv1, hrv2, h⟩ := bind_some' h
  refine gR [(3, { h := .callw (vi rv1.1) [(0, (bx (TTreasuryplaySrc.e rv1.2)))] [] })] [(0, (vp 0)), (4, (vp 1)), (5, (vp 2)), (6, (vi 0)), (7, (vi rv1.1))] [(bx (TTreasuryplaySrc.e rv1.2)), (bx (TApiLedger.e (⟨[]⟩ : TApiLedger))), (bx (TApiLedger.e (⟨[]⟩ : TApiLedger)))] [CallOk Try.prog 19 [(vp 0), (vi (IntKind.i64.wrap (a1 + 1)))] [(bx (TTreasuryplaySrc.e p0)), (bx (TApiLedger.e (⟨[]⟩ : TApiLedger))), (bx (TApiLedger.e (⟨[]⟩ : TApiLedger)))] (vi rv1.1) [(bx (TTreasuryplaySrc.e rv1.2)), (bx (TApiLedger.e (⟨[]⟩ : TApiLedger))), (bx (TApiLedger.e (⟨[]⟩ : TApiLedger)))]] (by kernel_rfl) (And.intro ((F19_ok hrv2).ca [0] (by kernel_rfl)) trivial) ?_
  obtain ⟨ov3, hxv4, h⟩ := outM_some h
  refine aws_loop (E := (fun (_ : TTreasuryplaySrc × TApiLedger × Int × Int) => [(4, (vp 1)), (5, (vp 2))])) (LE := (fun (sv5 : TTreasuryplaySrc × TApiLedger × Int × Int) => [(bx (TTreasuryplaySrc.e sv5.1)), (bx (TApiLedger.e (⟨[]⟩ : TApiLedger))), (bx (TApiLedger.e sv5.2.1))])) (R := (fun x => FR Try.prog Try.f14 (V14 x) (L14 x))) (aw_iter (m := 3) (I := (fun (sv5 : TTreasuryplaySrc × TApiLedger × Int × Int) => [(0, (vp 0)), (4, (vp 1)), (5, (vp 2)), (6, (vi sv5.2.2.1)), (7, (vi sv5.2.2.2))])) (LI := (fun (sv5 : TTreasuryplaySrc × TApiLedger × Int × Int) => [(bx (TTreasuryplaySrc.e sv5.1)), (bx (TApiLedger.e (⟨[]⟩ : TApiLedger))), (bx (TApiLedger.e sv5.2.1))])) (step := F14_b1) (fun sv5 _ h => aw_of ?_) (fun _ => rfl) hxv4 ⟨(fA (by kernel_rfl)), .inl rfl⟩ (Nat.le_of_ble_eq_true (by kernel_rfl))) (fun _ => Nat.le_of_ble_eq_true (by kernel_rfl)) (fun x fr L e hr => ?_) (fun sv5 e => ?_)
  · unfold F14_b1 at h
    refine aws_seq (aws_seq (gT [] [(0, (vp 0)), (4, (vp 1)), (5, (vp 2)), (6, (vi sv5.2.2.1)), (7, (vi sv5.2.2.2)), (20, (vb (decide (sv5.2.2.2 > 0))))] (by kernel_rfl) ?_))
    refine aws_cond (b := (decide (sv5.2.2.2 > 0))) (by kernel_rfl) (fun hbv6 => ?_) (fun hbv6 => ?_)
    · replace h := iteT hbv6 h
      refine aws_skip (aws_seq ?_)
      obtain ⟨ov7, hxv8, h⟩ := bind_some' h
      refine aws_blockS (E := (fun (sv9 : TTreasuryplaySrc × TApiLedger × Int) => [(0, (vp 0)), (4, (vp 1)), (5, (vp 2)), (6, (vi sv9.2.2)), (7, (vi sv5.2.2.2))])) (LE := (fun (sv9 : TTreasuryplaySrc × TApiLedger × Int) => [(bx (TTreasuryplaySrc.e sv9.1)), (bx (TApiLedger.e (⟨[]⟩ : TApiLedger))), (bx (TApiLedger.e sv9.2.1))])) (fun s => s = ov7) ?_ (fun _ => Nat.le_of_ble_eq_true (by kernel_rfl)) (fun sv9 hq => ?_)
      · refine aws_seq ?_
        obtain ⟨rv10, hrv11, hxv8⟩ := bind_some' hxv8
        obtain ⟨rv12, hrv13, hxv8⟩ := bind_some' hxv8
        obtain ⟨rv14, hrv15, hxv8⟩ := bind_some' hxv8
        refine gR [(1, { h := .callw (vi rv10.1) [(0, (bx (TTreasuryplaySrc.e rv10.2)))] [] }), (3, { cast := some (vl ([5, 40, 100] : List Int)) }), (4, { h := .callw (vi rv12.1) [(0, (bx (TTreasuryplaySrc.e rv12.2)))] [] }), (6, { h := .callw (vi rv14.1) [(0, (bx (TTreasuryplaySrc.e rv14.2)))] [] })] [(0, (vp 0)), (4, (vp 1)), (5, (vp 2)), (6, (vi sv5.2.2.1)), (7, (vi sv5.2.2.2)), (8, (vi rv10.1)), (9, (vi rv12.1)), (10, (vi rv14.1))] [(bx (TTreasuryplaySrc.e rv14.2)), (bx (TApiLedger.e (⟨[]⟩ : TApiLedger))), (bx (TApiLedger.e sv5.2.1))] [CallOk Try.prog 23 [(vp 0), (vi 1), (vi 3)] [(bx (TTreasuryplaySrc.e sv5.1)), (bx (TApiLedger.e (⟨[]⟩ : TApiLedger))), (bx (TApiLedger.e sv5.2.1))] (vi rv10.1) [(bx (TTreasuryplaySrc.e rv10.2)), (bx (TApiLedger.e (⟨[]⟩ : TApiLedger))), (bx (TApiLedger.e sv5.2.1))], LeV (AV.d (DV.sl 3 (listF (DV.b false) [(DV.i .i64 5), (DV.i .i64 40), (DV.i .i64 100)]))) (vl ([5, 40, 100] : List Int)), CallOk Try.prog 15 [(vp 0), (vl ([5, 40, 100] : List Int))] [(bx (TTreasuryplaySrc.e rv10.2)), (bx (TApiLedger.e (⟨[]⟩ : TApiLedger))), (bx (TApiLedger.e sv5.2.1))] (vi rv12.1) [(bx (TTreasuryplaySrc.e rv12.2)), (bx (TApiLedger.e (⟨[]⟩ : TApiLedger))), (bx (TApiLedger.e sv5.2.1))], CallOk Try.prog 23 [(vp 0), (vi 1), (vi 3)] [(bx (TTreasuryplaySrc.e rv12.2)), (bx (TApiLedger.e (⟨[]⟩ : TApiLedger))), (bx (TApiLedger.e sv5.2.1))] (vi rv14.1) [(bx (TTreasuryplaySrc.e rv14.2)), (bx (TApiLedger.e (⟨[]⟩ : TApiLedger))), (bx (TApiLedger.e sv5.2.1))]] (by kernel_rfl) (And.intro ((F23_ok hrv11).ca [0] (by kernel_rfl)) (And.intro (leV_lit (DV.i .i64) ([5, 40, 100] : List Int)) (And.intro ((F15_ok hrv13).ca [0] (by kernel_rfl)) (And.intro ((F23_ok hrv15).ca [0] (by kernel_rfl)) trivial)))) ?_
        refine aws_seq (gS [] [(0, (vp 0)), (4, (vp 1)), (5, (vp 2)), (6, (vi sv5.2.2.1)), (7, (vi sv5.2.2.2)), (8, (vi rv10.1)), (9, (vi rv12.1)), (10, (vi rv14.1)), (11, (vi (IntKind.i64.wrap ((rv10.1.tmod 3) + 1))))] [(3 : Int) ≠ 0] (by kernel_rfl) (And.intro (by decide) trivial) ?_)
        refine aws_seq (gR [] [(0, (vp 0)), (4, (vp 1)), (5, (vp 2)), (6, (vi sv5.2.2.1)), (7, (vi sv5.2.2.2)), (8, (vi rv10.1)), (9, (vi rv12.1)), (10, (vi rv14.1)), (11, (vi (IntKind.i64.wrap ((rv10.1.tmod 3) + 1)))), (12, (vp 3))] [(bx (TTreasuryplaySrc.e rv14.2)), (bx (TApiLedger.e (⟨[]⟩ : TApiLedger))), (bx (TApiLedger.e sv5.2.1)), (bx (DV.agg [(DV.i .i64 (IntKind.i64.wrap ((sv5.2.1.Postings.length : Int) + 1))), (DV.i .i64 sv5.2.2.1), (DV.i .i64 rv10.1), (DV.i .i64 140), (DV.i .i64 440), (DV.i .i64 rv12.1), (DV.i .i64 (IntKind.i64.wrap ((rv10.1.tmod 3) + 1))), (DV.i .i64 rv14.1)]))] [] (by kernel_rfl) trivial ?_)
        refine aws_seq (gR [] [(0, (vp 0)), (4, (vp 1)), (5, (vp 2)), (6, (vi sv5.2.2.1)), (7, (vi sv5.2.2.2)), (12, (vp 3)), (13, (vp 4))] [(bx (TTreasuryplaySrc.e rv14.2)), (bx (TApiLedger.e (⟨[]⟩ : TApiLedger))), (bx (TApiLedger.e sv5.2.1)), (bx (DV.agg [(DV.i .i64 (IntKind.i64.wrap ((sv5.2.1.Postings.length : Int) + 1))), (DV.i .i64 sv5.2.2.1), (DV.i .i64 rv10.1), (DV.i .i64 140), (DV.i .i64 440), (DV.i .i64 rv12.1), (DV.i .i64 (IntKind.i64.wrap ((rv10.1.tmod 3) + 1))), (DV.i .i64 rv14.1)])), (bx (DV.agg [(DV.i .i64 (IntKind.i64.wrap ((IntKind.i64.wrap ((sv5.2.1.Postings.length : Int) + 1)) + 1))), (DV.i .i64 sv5.2.2.1), (DV.i .i64 (IntKind.i64.wrap ((rv10.1.tmod 3) + 1))), (DV.i .i64 540), (DV.i .i64 240), (DV.i .i64 rv12.1), (DV.i .i64 rv10.1), (DV.i .i64 rv14.1)]))] [] (by kernel_rfl) trivial ?_)
        refine aws_seq ?_
        obtain ⟨rv16, hrv17, hxv8⟩ := bind_some' hxv8
        refine gR [(2, { h := .callq (AV.tup [(AV.d (TApiLedger.e rv16.1)), (vi rv16.2)]) })] [(0, (vp 0)), (4, (vp 1)), (5, (vp 2)), (6, (vi sv5.2.2.1)), (7, (vi sv5.2.2.2)), (13, (vp 4))] [(bx (TTreasuryplaySrc.e rv14.2)), (bx (TApiLedger.e (⟨[]⟩ : TApiLedger))), (bx (TApiLedger.e rv16.1)), (bx (DV.agg [(DV.i .i64 (IntKind.i64.wrap ((sv5.2.1.Postings.length : Int) + 1))), (DV.i .i64 sv5.2.2.1), (DV.i .i64 rv10.1), (DV.i .i64 140), (DV.i .i64 440), (DV.i .i64 rv12.1), (DV.i .i64 (IntKind.i64.wrap ((rv10.1.tmod 3) + 1))), (DV.i .i64 rv14.1)])), (bx (DV.agg [(DV.i .i64 (IntKind.i64.wrap ((IntKind.i64.wrap ((sv5.2.1.Postings.length : Int) + 1)) + 1))), (DV.i .i64 sv5.2.2.1), (DV.i .i64 (IntKind.i64.wrap ((rv10.1.tmod 3) + 1))), (DV.i .i64 540), (DV.i .i64 240), (DV.i .i64 rv12.1), (DV.i .i64 rv10.1), (DV.i .i64 rv14.1)]))] [_] (by kernel_rfl) (And.intro ((F16_ok hrv17).pu (fun _ => rfl) (fun _ => rfl)) trivial) ?_
        refine aws_seq ?_
        obtain ⟨rv18, hrv19, hxv8⟩ := bind_some' hxv8
        refine gR [(2, { h := .callq (AV.tup [(AV.d (TApiLedger.e rv18.1)), (vi rv18.2)]) })] [(0, (vp 0)), (4, (vp 1)), (5, (vp 2)), (6, (vi sv5.2.2.1)), (7, (vi sv5.2.2.2))] [(bx (TTreasuryplaySrc.e rv14.2)), (bx (TApiLedger.e (⟨[]⟩ : TApiLedger))), (bx (TApiLedger.e rv18.1)), (bx (DV.agg [(DV.i .i64 (IntKind.i64.wrap ((sv5.2.1.Postings.length : Int) + 1))), (DV.i .i64 sv5.2.2.1), (DV.i .i64 rv10.1), (DV.i .i64 140), (DV.i .i64 440), (DV.i .i64 rv12.1), (DV.i .i64 (IntKind.i64.wrap ((rv10.1.tmod 3) + 1))), (DV.i .i64 rv14.1)])), (bx (DV.agg [(DV.i .i64 (IntKind.i64.wrap ((IntKind.i64.wrap ((sv5.2.1.Postings.length : Int) + 1)) + 1))), (DV.i .i64 sv5.2.2.1), (DV.i .i64 (IntKind.i64.wrap ((rv10.1.tmod 3) + 1))), (DV.i .i64 540), (DV.i .i64 240), (DV.i .i64 rv12.1), (DV.i .i64 rv10.1), (DV.i .i64 rv14.1)]))] [_] (by kernel_rfl) (And.intro ((F16_ok hrv19).pu (fun _ => rfl) (fun _ => rfl)) trivial) ?_
        refine aws_seq ?_
        obtain ⟨rv20, hrv21, hxv8⟩ := bind_some' hxv8
        refine gR [(2, { h := .callw (vi rv20.1) [(0, (bx (TTreasuryplaySrc.e rv20.2)))] [] })] [(0, (vp 0)), (4, (vp 1)), (5, (vp 2)), (6, (vi (IntKind.i64.wrap (sv5.2.2.1 + rv20.1)))), (7, (vi sv5.2.2.2))] [(bx (TTreasuryplaySrc.e rv20.2)), (bx (TApiLedger.e (⟨[]⟩ : TApiLedger))), (bx (TApiLedger.e rv18.1)), (bx (DV.agg [(DV.i .i64 (IntKind.i64.wrap ((sv5.2.1.Postings.length : Int) + 1))), (DV.i .i64 sv5.2.2.1), (DV.i .i64 rv10.1), (DV.i .i64 140), (DV.i .i64 440), (DV.i .i64 rv12.1), (DV.i .i64 (IntKind.i64.wrap ((rv10.1.tmod 3) + 1))), (DV.i .i64 rv14.1)])), (bx (DV.agg [(DV.i .i64 (IntKind.i64.wrap ((IntKind.i64.wrap ((sv5.2.1.Postings.length : Int) + 1)) + 1))), (DV.i .i64 sv5.2.2.1), (DV.i .i64 (IntKind.i64.wrap ((rv10.1.tmod 3) + 1))), (DV.i .i64 540), (DV.i .i64 240), (DV.i .i64 rv12.1), (DV.i .i64 rv10.1), (DV.i .i64 rv14.1)]))] [CallOk Try.prog 19 [(vp 0), (vi 3)] [(bx (TTreasuryplaySrc.e rv14.2)), (bx (TApiLedger.e (⟨[]⟩ : TApiLedger))), (bx (TApiLedger.e rv18.1)), (bx (DV.agg [(DV.i .i64 (IntKind.i64.wrap ((sv5.2.1.Postings.length : Int) + 1))), (DV.i .i64 sv5.2.2.1), (DV.i .i64 rv10.1), (DV.i .i64 140), (DV.i .i64 440), (DV.i .i64 rv12.1), (DV.i .i64 (IntKind.i64.wrap ((rv10.1.tmod 3) + 1))), (DV.i .i64 rv14.1)])), (bx (DV.agg [(DV.i .i64 (IntKind.i64.wrap ((IntKind.i64.wrap ((sv5.2.1.Postings.length : Int) + 1)) + 1))), (DV.i .i64 sv5.2.2.1), (DV.i .i64 (IntKind.i64.wrap ((rv10.1.tmod 3) + 1))), (DV.i .i64 540), (DV.i .i64 240), (DV.i .i64 rv12.1), (DV.i .i64 rv10.1), (DV.i .i64 rv14.1)]))] (vi rv20.1) [(bx (TTreasuryplaySrc.e rv20.2)), (bx (TApiLedger.e (⟨[]⟩ : TApiLedger))), (bx (TApiLedger.e rv18.1)), (bx (DV.agg [(DV.i .i64 (IntKind.i64.wrap ((sv5.2.1.Postings.length : Int) + 1))), (DV.i .i64 sv5.2.2.1), (DV.i .i64 rv10.1), (DV.i .i64 140), (DV.i .i64 440), (DV.i .i64 rv12.1), (DV.i .i64 (IntKind.i64.wrap ((rv10.1.tmod 3) + 1))), (DV.i .i64 rv14.1)])), (bx (DV.agg [(DV.i .i64 (IntKind.i64.wrap ((IntKind.i64.wrap ((sv5.2.1.Postings.length : Int) + 1)) + 1))), (DV.i .i64 sv5.2.2.1), (DV.i .i64 (IntKind.i64.wrap ((rv10.1.tmod 3) + 1))), (DV.i .i64 540), (DV.i .i64 240), (DV.i .i64 rv12.1), (DV.i .i64 rv10.1), (DV.i .i64 rv14.1)]))]] (by kernel_rfl) (And.intro ((F19_ok hrv21).ca [0] (by kernel_rfl)) trivial) ?_
        refine aws_seq ?_
        obtain ⟨rv22, hrv23, hxv8⟩ := bind_some' hxv8
        refine gR [(6, { h := .callw (AV.d (TApiPosting.e rv22.1)) [(0, (bx (TTreasuryplaySrc.e rv22.2)))] [] })] [(0, (vp 0)), (4, (vp 1)), (5, (vp 2)), (6, (vi (IntKind.i64.wrap (sv5.2.2.1 + rv20.1)))), (7, (vi sv5.2.2.2)), (14, (vp 5))] [(bx (TTreasuryplaySrc.e rv22.2)), (bx (TApiLedger.e (⟨[]⟩ : TApiLedger))), (bx (TApiLedger.e rv18.1)), (bx (DV.agg [(DV.i .i64 (IntKind.i64.wrap ((sv5.2.1.Postings.length : Int) + 1))), (DV.i .i64 sv5.2.2.1), (DV.i .i64 rv10.1), (DV.i .i64 140), (DV.i .i64 440), (DV.i .i64 rv12.1), (DV.i .i64 (IntKind.i64.wrap ((rv10.1.tmod 3) + 1))), (DV.i .i64 rv14.1)])), (bx (DV.agg [(DV.i .i64 (IntKind.i64.wrap ((IntKind.i64.wrap ((sv5.2.1.Postings.length : Int) + 1)) + 1))), (DV.i .i64 sv5.2.2.1), (DV.i .i64 (IntKind.i64.wrap ((rv10.1.tmod 3) + 1))), (DV.i .i64 540), (DV.i .i64 240), (DV.i .i64 rv12.1), (DV.i .i64 rv10.1), (DV.i .i64 rv14.1)])), (bx (TApiPosting.e rv22.1))] [CallOk Try.prog 20 [(vp 0), (vi (IntKind.i64.wrap ((rv18.1.Postings.length : Int) + 1))), (vi (IntKind.i64.wrap (sv5.2.2.1 + rv20.1))), (vi 1)] [(bx (TTreasuryplaySrc.e rv20.2)), (bx (TApiLedger.e (⟨[]⟩ : TApiLedger))), (bx (TApiLedger.e rv18.1)), (bx (DV.agg [(DV.i .i64 (IntKind.i64.wrap ((sv5.2.1.Postings.length : Int) + 1))), (DV.i .i64 sv5.2.2.1), (DV.i .i64 rv10.1), (DV.i .i64 140), (DV.i .i64 440), (DV.i .i64 rv12.1), (DV.i .i64 (IntKind.i64.wrap ((rv10.1.tmod 3) + 1))), (DV.i .i64 rv14.1)])), (bx (DV.agg [(DV.i .i64 (IntKind.i64.wrap ((IntKind.i64.wrap ((sv5.2.1.Postings.length : Int) + 1)) + 1))), (DV.i .i64 sv5.2.2.1), (DV.i .i64 (IntKind.i64.wrap ((rv10.1.tmod 3) + 1))), (DV.i .i64 540), (DV.i .i64 240), (DV.i .i64 rv12.1), (DV.i .i64 rv10.1), (DV.i .i64 rv14.1)]))] (AV.d (TApiPosting.e rv22.1)) [(bx (TTreasuryplaySrc.e rv22.2)), (bx (TApiLedger.e (⟨[]⟩ : TApiLedger))), (bx (TApiLedger.e rv18.1)), (bx (DV.agg [(DV.i .i64 (IntKind.i64.wrap ((sv5.2.1.Postings.length : Int) + 1))), (DV.i .i64 sv5.2.2.1), (DV.i .i64 rv10.1), (DV.i .i64 140), (DV.i .i64 440), (DV.i .i64 rv12.1), (DV.i .i64 (IntKind.i64.wrap ((rv10.1.tmod 3) + 1))), (DV.i .i64 rv14.1)])), (bx (DV.agg [(DV.i .i64 (IntKind.i64.wrap ((IntKind.i64.wrap ((sv5.2.1.Postings.length : Int) + 1)) + 1))), (DV.i .i64 sv5.2.2.1), (DV.i .i64 (IntKind.i64.wrap ((rv10.1.tmod 3) + 1))), (DV.i .i64 540), (DV.i .i64 240), (DV.i .i64 rv12.1), (DV.i .i64 rv10.1), (DV.i .i64 rv14.1)]))]] (by kernel_rfl) (And.intro ((F20_ok hrv23).ca [0] (by kernel_rfl)) trivial) ?_
        refine aws_seq ?_
        obtain ⟨rv24, hrv25, hxv8⟩ := bind_some' hxv8
        refine gR [(1, { h := .callw (vi rv24.1) [(0, (bx (TTreasuryplaySrc.e rv24.2)))] [] })] [(0, (vp 0)), (4, (vp 1)), (5, (vp 2)), (6, (vi (IntKind.i64.wrap (sv5.2.2.1 + rv20.1)))), (7, (vi sv5.2.2.2)), (14, (vp 5)), (77, (vb (rv24.1 == 1)))] [(bx (TTreasuryplaySrc.e rv24.2)), (bx (TApiLedger.e (⟨[]⟩ : TApiLedger))), (bx (TApiLedger.e rv18.1)), (bx (DV.agg [(DV.i .i64 (IntKind.i64.wrap ((sv5.2.1.Postings.length : Int) + 1))), (DV.i .i64 sv5.2.2.1), (DV.i .i64 rv10.1), (DV.i .i64 140), (DV.i .i64 440), (DV.i .i64 rv12.1), (DV.i .i64 (IntKind.i64.wrap ((rv10.1.tmod 3) + 1))), (DV.i .i64 rv14.1)])), (bx (DV.agg [(DV.i .i64 (IntKind.i64.wrap ((IntKind.i64.wrap ((sv5.2.1.Postings.length : Int) + 1)) + 1))), (DV.i .i64 sv5.2.2.1), (DV.i .i64 (IntKind.i64.wrap ((rv10.1.tmod 3) + 1))), (DV.i .i64 540), (DV.i .i64 240), (DV.i .i64 rv12.1), (DV.i .i64 rv10.1), (DV.i .i64 rv14.1)])), (bx (TApiPosting.e rv22.1))] [CallOk Try.prog 19 [(vp 0), (vi 2)] [(bx (TTreasuryplaySrc.e rv22.2)), (bx (TApiLedger.e (⟨[]⟩ : TApiLedger))), (bx (TApiLedger.e rv18.1)), (bx (DV.agg [(DV.i .i64 (IntKind.i64.wrap ((sv5.2.1.Postings.length : Int) + 1))), (DV.i .i64 sv5.2.2.1), (DV.i .i64 rv10.1), (DV.i .i64 140), (DV.i .i64 440), (DV.i .i64 rv12.1), (DV.i .i64 (IntKind.i64.wrap ((rv10.1.tmod 3) + 1))), (DV.i .i64 rv14.1)])), (bx (DV.agg [(DV.i .i64 (IntKind.i64.wrap ((IntKind.i64.wrap ((sv5.2.1.Postings.length : Int) + 1)) + 1))), (DV.i .i64 sv5.2.2.1), (DV.i .i64 (IntKind.i64.wrap ((rv10.1.tmod 3) + 1))), (DV.i .i64 540), (DV.i .i64 240), (DV.i .i64 rv12.1), (DV.i .i64 rv10.1), (DV.i .i64 rv14.1)])), (bx (TApiPosting.e rv22.1))] (vi rv24.1) [(bx (TTreasuryplaySrc.e rv24.2)), (bx (TApiLedger.e (⟨[]⟩ : TApiLedger))), (bx (TApiLedger.e rv18.1)), (bx (DV.agg [(DV.i .i64 (IntKind.i64.wrap ((sv5.2.1.Postings.length : Int) + 1))), (DV.i .i64 sv5.2.2.1), (DV.i .i64 rv10.1), (DV.i .i64 140), (DV.i .i64 440), (DV.i .i64 rv12.1), (DV.i .i64 (IntKind.i64.wrap ((rv10.1.tmod 3) + 1))), (DV.i .i64 rv14.1)])), (bx (DV.agg [(DV.i .i64 (IntKind.i64.wrap ((IntKind.i64.wrap ((sv5.2.1.Postings.length : Int) + 1)) + 1))), (DV.i .i64 sv5.2.2.1), (DV.i .i64 (IntKind.i64.wrap ((rv10.1.tmod 3) + 1))), (DV.i .i64 540), (DV.i .i64 240), (DV.i .i64 rv12.1), (DV.i .i64 rv10.1), (DV.i .i64 rv14.1)])), (bx (TApiPosting.e rv22.1))]] (by kernel_rfl) (And.intro ((F19_ok hrv25).ca [0] (by kernel_rfl)) trivial) ?_
        refine aws_cond (b := (rv24.1 == 1)) (by kernel_rfl) (fun hbv26 => ?_) (fun hbv26 => ?_)
        · replace hxv8 := iteT hbv26 hxv8
          obtain ⟨rv27, hrv28, hxv8⟩ := bind_some' hxv8
          refine gR [(2, { h := .callq (AV.tup [(AV.d (TApiLedger.e rv27.1)), (vi rv27.2)]) })] [(0, (vp 0)), (4, (vp 1)), (5, (vp 2)), (6, (vi (IntKind.i64.wrap (sv5.2.2.1 + rv20.1)))), (7, (vi sv5.2.2.2))] [(bx (TTreasuryplaySrc.e rv24.2)), (bx (TApiLedger.e (⟨[]⟩ : TApiLedger))), (bx (TApiLedger.e rv27.1)), (bx (DV.agg [(DV.i .i64 (IntKind.i64.wrap ((sv5.2.1.Postings.length : Int) + 1))), (DV.i .i64 sv5.2.2.1), (DV.i .i64 rv10.1), (DV.i .i64 140), (DV.i .i64 440), (DV.i .i64 rv12.1), (DV.i .i64 (IntKind.i64.wrap ((rv10.1.tmod 3) + 1))), (DV.i .i64 rv14.1)])), (bx (DV.agg [(DV.i .i64 (IntKind.i64.wrap ((IntKind.i64.wrap ((sv5.2.1.Postings.length : Int) + 1)) + 1))), (DV.i .i64 sv5.2.2.1), (DV.i .i64 (IntKind.i64.wrap ((rv10.1.tmod 3) + 1))), (DV.i .i64 540), (DV.i .i64 240), (DV.i .i64 rv12.1), (DV.i .i64 rv10.1), (DV.i .i64 rv14.1)])), (bx (TApiPosting.e rv22.1))] [_] (by kernel_rfl) (And.intro ((F16_ok hrv28).pu (fun _ => rfl) (fun _ => rfl)) trivial) ?_
          refine aws_nil ?_
          obtain rfl := Option.some.inj hxv8
          exact ⟨_, rfl, ⟨(fA (by kernel_rfl)), .inr ⟨⟨[(bx (DV.agg [(DV.i .i64 (IntKind.i64.wrap ((sv5.2.1.Postings.length : Int) + 1))), (DV.i .i64 sv5.2.2.1), (DV.i .i64 rv10.1), (DV.i .i64 140), (DV.i .i64 440), (DV.i .i64 rv12.1), (DV.i .i64 (IntKind.i64.wrap ((rv10.1.tmod 3) + 1))), (DV.i .i64 rv14.1)])), (bx (DV.agg [(DV.i .i64 (IntKind.i64.wrap ((IntKind.i64.wrap ((sv5.2.1.Postings.length : Int) + 1)) + 1))), (DV.i .i64 sv5.2.2.1), (DV.i .i64 (IntKind.i64.wrap ((rv10.1.tmod 3) + 1))), (DV.i .i64 540), (DV.i .i64 240), (DV.i .i64 rv12.1), (DV.i .i64 rv10.1), (DV.i .i64 rv14.1)])), (bx (TApiPosting.e rv22.1))], rfl, lsOk (And.intro rfl (And.intro rfl (And.intro rfl trivial)))⟩, List.all_eq_true.1 (by kernel_rfl)⟩⟩⟩
        · replace hxv8 := iteF hbv26 hxv8
          refine aws_skip (aws_nil ?_)
          obtain rfl := Option.some.inj hxv8
          exact ⟨_, rfl, ⟨(fA (by kernel_rfl)), .inr ⟨⟨[(bx (DV.agg [(DV.i .i64 (IntKind.i64.wrap ((sv5.2.1.Postings.length : Int) + 1))), (DV.i .i64 sv5.2.2.1), (DV.i .i64 rv10.1), (DV.i .i64 140), (DV.i .i64 440), (DV.i .i64 rv12.1), (DV.i .i64 (IntKind.i64.wrap ((rv10.1.tmod 3) + 1))), (DV.i .i64 rv14.1)])), (bx (DV.agg [(DV.i .i64 (IntKind.i64.wrap ((IntKind.i64.wrap ((sv5.2.1.Postings.length : Int) + 1)) + 1))), (DV.i .i64 sv5.2.2.1), (DV.i .i64 (IntKind.i64.wrap ((rv10.1.tmod 3) + 1))), (DV.i .i64 540), (DV.i .i64 240), (DV.i .i64 rv12.1), (DV.i .i64 rv10.1), (DV.i .i64 rv14.1)])), (bx (TApiPosting.e rv22.1))], rfl, lsOk (And.intro rfl (And.intro rfl (And.intro rfl trivial)))⟩, List.all_eq_true.1 (by kernel_rfl)⟩⟩⟩
      · subst hq
        refine gT [] [(0, (vp 0)), (4, (vp 1)), (5, (vp 2)), (6, (vi sv9.2.2)), (7, (vi (IntKind.i64.wrap (sv5.2.2.2 - 1))))] (by kernel_rfl) ?_
        refine aws_nil ?_
        obtain rfl := Option.some.inj h
        exact ⟨_, rfl, ⟨(fA (by kernel_rfl)), .inl rfl⟩⟩
    · replace h := iteF hbv6 h
      refine aws_exit ?_
      obtain rfl := Option.some.inj h
      exact ⟨rfl, _, rfl, ⟨(fA (by kernel_rfl)), .inl rfl⟩⟩
  · subst e
    exact nomatch (show (none : Option _) = some _ from h)
  · subst e
    refine aws_seq (gR [] [(4, (vp 1))] [(bx (TTreasuryplaySrc.e sv5.1)), (bx (TApiLedger.e sv5.2.1)), (bx (TApiLedger.e sv5.2.1))] [] (by kernel_rfl) trivial ?_)
    refine aws_ret ?_
    obtain rfl := Option.some.inj h
    exact ⟨.inr rfl, ⟨_, [], [(bx (TApiLedger.e sv5.2.1)), (bx (TApiLedger.e sv5.2.1))], by kernel_rfl, trivial, (LeV.refl _), rfl⟩⟩

/-! 4 -/
theorem F4_ok {a0 : (List Int)} {r : R4} (h : F4 a0 = some r) : CallOk Try.prog 4 [(vl a0)] [] (V4 r) (L4 r) := by
  refine gF Try.func4 rfl (by kernel_rfl) trivial ?_
  unfold F4 at h
  refine aws_seq (gT [] [(0, (vl a0))] (by kernel_rfl) ?_)
  refine aws_seq ?_
  obtain ⟨rv1, hrv2, h⟩ := bind_some' h
  refine gR [(1, { h := .callw (vp 0) [] [(bx (TTreasuryplaySrc.e rv1))] })] [(3, (vp 0))] [(bx (TTreasuryplaySrc.e rv1))] [CallOk Try.prog 9 [(vl a0)] [] (vp 0) [(bx (TTreasuryplaySrc.e rv1))]] (by kernel_rfl) (And.intro ((F9_ok hrv2).ca [] (by kernel_rfl)) trivial) ?_
  refine aws_seq ?_
  obtain ⟨rv3, hrv4, h⟩ := bind_some' h
  refine gR [(1, { h := .callw (AV.d (TApiLedger.e rv3.1)) [(0, (bx (TTreasuryplaySrc.e rv3.2)))] [] }), (2, { obs := [(1, (bx (TApiLedger.e (⟨[]⟩ : TApiLedger))))] })] [(4, (vp 1))] [(bx (TTreasuryplaySrc.e rv3.2)), (bx (TApiLedger.e rv3.1))] [CallOk Try.prog 14 [(vp 0), (vi 5)] [(bx (TTreasuryplaySrc.e rv1))] (AV.d (TApiLedger.e rv3.1)) [(bx (TTreasuryplaySrc.e rv3.2))], OLe (bx (DV.agg [(DV.sl 0 fun _ => DV.b false)])) (bx (TApiLedger.e (⟨[]⟩ : TApiLedger)))] (by kernel_rfl) (And.intro ((F14_ok hrv4).ca [0] (by kernel_rfl)) (And.intro (oLe_box (DLe.agg (DLeL.cons DLe.sl0 DLeL.nil))) trivial)) ?_
  refine aws_seq ?_
  obtain ⟨rv5, hrv6, h⟩ := bind_some' h
  refine gR [(1, { cast := some (vl ([1, 2, 3] : List Int)) }), (2, { h := .callq (AV.tup [(AV.d (TApiWhole.e rv5.1)), (vi rv5.2)]) }), (6, { obs := [(2, (bx (TApiWhole.e (⟨[], 0, []⟩ : TApiWhole))))] })] [(4, (vp 1)), (5, (vp 2)), (6, (vi rv5.2))] [(bx (TTreasuryplaySrc.e rv3.2)), (bx (TApiLedger.e rv3.1)), (bx (TApiWhole.e rv5.1))] [LeV (AV.d (DV.sl 3 (listF (DV.b false) [(DV.i .i64 1), (DV.i .i64 2), (DV.i .i64 3)]))) (vl ([1, 2, 3] : List Int)), _, OLe (bx (DV.agg [(DV.sl 0 fun _ => DV.b false), (DV.i .i64 0), (DV.sl 0 fun _ => DV.b false)])) (bx (TApiWhole.e (⟨[], 0, []⟩ : TApiWhole)))] (by kernel_rfl) (And.intro (leV_lit (DV.i .i64) ([1, 2, 3] : List Int)) (And.intro ((F11_ok hrv6).pu (fun _ => rfl) (fun _ => rfl)) (And.intro (oLe_box (DLe.agg (DLeL.cons DLe.sl0 (DLeL.cons (DLe.refl _) (DLeL.cons DLe.sl0 DLeL.nil))))) trivial))) ?_
  refine aws_seq (aws_seq (gT [] [(4, (vp 1)), (5, (vp 2)), (29, (vb (bif (rv5.2 != 0) then true else ((rv5.1.Differences.length : Int) != 0))))] (by kernel_rfl) ?_))
  refine aws_cond (b := (bif (rv5.2 != 0) then true else ((rv5.1.Differences.length : Int) != 0))) (by kernel_rfl) (fun hbv7 => ?_) (fun hbv7 => ?_)
  · replace h := iteT hbv7 h
    refine aws_seq (gT [] [(2, (vb false))] (by kernel_rfl) ?_)
    refine aws_ret ?_
    obtain rfl := Option.some.inj h
    exact ⟨.inr rfl, ⟨_, [], [(bx (TTreasuryplaySrc.e rv3.2)), (bx (TApiLedger.e rv3.1)), (bx (TApiWhole.e rv5.1))], by kernel_rfl, trivial, (LeV.refl _), rfl⟩⟩
  · replace h := iteF hbv7 h
    refine aws_skip (aws_seq (gT [] [(4, (vp 1)), (5, (vp 2)), (7, (vi 0))] (by kernel_rfl) ?_))
    refine aws_seq (aws_seq (gT [] [(5, (vp 2)), (7, (vi 0)), (31, (AV.d (eL TApiPosting.e rv3.1.Postings))), (32, (vi (rv3.1.Postings.length : Int))), (33, (vi 0))] (by kernel_rfl) ?_))
    obtain ⟨ov8, hxv9, h⟩ := outM_some h
    refine aws_lenL (k := 2) (t := 31) (e := TApiPosting.e) (l := rv3.1.Postings) rfl (by simp) (fun hn => ?_)
    refine aws_loop (E := (fun (sv10 : Int) => [(5, (vp 2)), (7, (vi sv10))])) (LE := (fun (_ : Int) => [(bx (TTreasuryplaySrc.e rv3.2)), (bx (TApiLedger.e rv3.1)), (bx (TApiWhole.e rv5.1))])) (R := (fun x => FR Try.prog Try.f4 (V4 x) (L4 x))) (aw_range (n := rv3.1.Postings.length) (m := 3) (I := (fun (iv11 : Nat) (sv10 : Int) => [(5, (vp 2)), (7, (vi sv10)), (31, (AV.d (eL TApiPosting.e rv3.1.Postings))), (32, (vi (rv3.1.Postings.length : Int))), (33, (vi (iv11 : Int)))])) (LI := (fun (_ : Nat) => (fun (_ : Int) => [(bx (TTreasuryplaySrc.e rv3.2)), (bx (TApiLedger.e rv3.1)), (bx (TApiWhole.e rv5.1))]))) (body := F4_b1 rv3) (fun iv11 sv10 _ hi h => aw_of ?_) (fun sv10 => aw_of ?_) (fun _ _ => rfl) (Nat.zero_add _) hxv9 ⟨(fA (by kernel_rfl)), .inl rfl⟩ (Nat.le_of_ble_eq_true (by kernel_rfl))) (fun _ => Nat.le_of_ble_eq_true (by kernel_rfl)) (fun x fr L e hr => ?_) (fun sv10 e => ?_)
    · unfold F4_b1 at h
      refine aws_seq (gT [] [(5, (vp 2)), (7, (vi sv10)), (31, (AV.d (eL TApiPosting.e rv3.1.Postings))), (32, (vi (rv3.1.Postings.length : Int))), (33, (vi (iv11 : Int))), (34, (vb (decide ((iv11 : Int) < (rv3.1.Postings.length : Int)))))] (by kernel_rfl) ?_)
      refine aws_seq (aws_cond (b := (decide ((iv11 : Int) < (rv3.1.Postings.length : Int)))) (by kernel_rfl) (fun hbv12 => ?_) (fun hbv12 => absurd (hbv12.symm.trans (decide_eq_true (by omega))) Bool.false_ne_true))
      refine aws_skip (aws_seq ?_)
      obtain ⟨ov13, hxv14, h⟩ := bind_some' h
      refine aws_blockS (E := (fun (sv15 : Int) => [(5, (vp 2)), (7, (vi sv15)), (31, (AV.d (eL TApiPosting.e rv3.1.Postings))), (32, (vi (rv3.1.Postings.length : Int))), (33, (vi (iv11 : Int)))])) (LE := (fun (_ : Int) => [(bx (TTreasuryplaySrc.e rv3.2)), (bx (TApiLedger.e rv3.1)), (bx (TApiWhole.e rv5.1))])) (fun s => s = ov13) ?_ (fun _ => Nat.le_of_ble_eq_true (by kernel_rfl)) (fun sv15 hq => ?_)
      · refine aws_seq (gR [] [(5, (vp 2)), (7, (vi sv10)), (9, (vp 3)), (31, (AV.d (eL TApiPosting.e rv3.1.Postings))), (32, (vi (rv3.1.Postings.length : Int))), (33, (vi (iv11 : Int)))] [(bx (TTreasuryplaySrc.e rv3.2)), (bx (TApiLedger.e rv3.1)), (bx (TApiWhole.e rv5.1)), (bx (TApiPosting.e (rv3.1.Postings.getD iv11 default)))] [(0 : Int) ≤ (iv11 : Int), iv11 < rv3.1.Postings.length] (by kernel_rfl) (And.intro (Int.natCast_nonneg _) (And.intro hi trivial)) ?_)
        refine aws_seq (gT [] [(5, (vp 2)), (7, (vi sv10)), (9, (vp 3)), (31, (AV.d (eL TApiPosting.e rv3.1.Postings))), (32, (vi (rv3.1.Postings.length : Int))), (33, (vi (iv11 : Int))), (39, (vb (((rv3.1.Postings.getD iv11 default).Partner) != 0)))] (by kernel_rfl) ?_)
        refine aws_cond (b := (((rv3.1.Postings.getD iv11 default).Partner) != 0)) (by kernel_rfl) (fun hbv16 => ?_) (fun hbv16 => ?_)
        · replace hxv14 := iteT hbv16 hxv14
          refine gT [] [(5, (vp 2)), (7, (vi (IntKind.i64.wrap (sv10 + ((rv3.1.Postings.getD iv11 default).Amount))))), (31, (AV.d (eL TApiPosting.e rv3.1.Postings))), (32, (vi (rv3.1.Postings.length : Int))), (33, (vi (iv11 : Int)))] (by kernel_rfl) ?_
          refine aws_nil ?_
          obtain rfl := Option.some.inj hxv14
          exact ⟨_, rfl, ⟨(fA (by kernel_rfl)), .inr ⟨⟨[(bx (TApiPosting.e (rv3.1.Postings.getD iv11 default)))], rfl, lsOk (And.intro rfl (And.intro rfl (And.intro rfl trivial)))⟩, List.all_eq_true.1 (by kernel_rfl)⟩⟩⟩
        · replace hxv14 := iteF hbv16 hxv14
          refine aws_skip (aws_nil ?_)
          obtain rfl := Option.some.inj hxv14
          exact ⟨_, rfl, ⟨(fA (by kernel_rfl)), .inr ⟨⟨[(bx (TApiPosting.e (rv3.1.Postings.getD iv11 default)))], rfl, lsOk (And.intro rfl (And.intro rfl (And.intro rfl trivial)))⟩, List.all_eq_true.1 (by kernel_rfl)⟩⟩⟩
      · subst hq
        refine gT [] [(5, (vp 2)), (7, (vi sv15)), (31, (AV.d (eL TApiPosting.e rv3.1.Postings))), (32, (vi (rv3.1.Postings.length : Int))), (33, (vi (IntKind.i64.wrap ((iv11 : Int) + 1))))] (by kernel_rfl) ?_
        refine aws_nil ?_
        obtain rfl := Option.some.inj h
        exact ⟨_, rfl, ⟨(fq 0 rfl (fq 1 rfl (fq 2 rfl (fq 3 rfl (frLe_at (k := 4) rfl (LeV.of_eq (congrArg (fun n => AV.d (DV.i .i64 n)) (wrap_succ (by omega)))) frLe_nil))))), .inl rfl⟩⟩
    · refine aws_seq (gT [] [(5, (vp 2)), (7, (vi sv10)), (31, (AV.d (eL TApiPosting.e rv3.1.Postings))), (32, (vi (rv3.1.Postings.length : Int))), (33, (vi ((rv3.1.Postings.length : Nat) : Int))), (34, (vb (decide (((rv3.1.Postings.length : Nat) : Int) < (rv3.1.Postings.length : Int)))))] (by kernel_rfl) ?_)
      refine aws_seq (aws_cond (b := (decide (((rv3.1.Postings.length : Nat) : Int) < (rv3.1.Postings.length : Int)))) (by kernel_rfl) (fun hbv17 => absurd hbv17 (Bool.eq_false_iff.mp (decide_eq_false (by omega)))) (fun hbv17 => ?_))
      refine aws_exit ?_
      exact ⟨rfl, _, rfl, ⟨(fA (by kernel_rfl)), .inl rfl⟩⟩
    · subst e
      exact nomatch (show (none : Option _) = some _ from h)
    · subst e
      refine aws_seq (aws_seq (gT [] [(5, (vp 2)), (7, (vi sv10)), (46, (AV.d (eL TApiBalance.e rv5.1.Balances))), (47, (vi (rv5.1.Balances.length : Int))), (48, (vi 0))] (by kernel_rfl) ?_))
      obtain ⟨ov18, hxv19, h⟩ := outM_some h
      refine aws_lenL (k := 2) (t := 46) (e := TApiBalance.e) (l := rv5.1.Balances) rfl (by simp) (fun hn => ?_)
      refine aws_loop (E := (fun (_ : Unit) => [(5, (vp 2)), (7, (vi sv10))])) (LE := (fun (_ : Unit) => [(bx (TTreasuryplaySrc.e rv3.2)), (bx (TApiLedger.e rv3.1)), (bx (TApiWhole.e rv5.1))])) (R := (fun x => FR Try.prog Try.f4 (V4 x) (L4 x))) (aw_range (n := rv5.1.Balances.length) (m := 3) (I := (fun (iv20 : Nat) (_ : Unit) => [(5, (vp 2)), (7, (vi sv10)), (46, (AV.d (eL TApiBalance.e rv5.1.Balances))), (47, (vi (rv5.1.Balances.length : Int))), (48, (vi (iv20 : Int)))])) (LI := (fun (_ : Nat) => (fun (_ : Unit) => [(bx (TTreasuryplaySrc.e rv3.2)), (bx (TApiLedger.e rv3.1)), (bx (TApiWhole.e rv5.1))]))) (body := F4_b2 rv5) (fun iv20 _ _ hi h => aw_of ?_) (fun _ => aw_of ?_) (fun _ _ => rfl) (Nat.zero_add _) hxv19 ⟨(fA (by kernel_rfl)), .inl rfl⟩ (Nat.le_of_ble_eq_true (by kernel_rfl))) (fun _ => Nat.le_of_ble_eq_true (by kernel_rfl)) (fun x fr L e hr => ?_) (fun _ e => ?_)
      · unfold F4_b2 at h
        refine aws_seq (gT [] [(5, (vp 2)), (7, (vi sv10)), (46, (AV.d (eL TApiBalance.e rv5.1.Balances))), (47, (vi (rv5.1.Balances.length : Int))), (48, (vi (iv20 : Int))), (49, (vb (decide ((iv20 : Int) < (rv5.1.Balances.length : Int)))))] (by kernel_rfl) ?_)
        refine aws_seq (aws_cond (b := (decide ((iv20 : Int) < (rv5.1.Balances.length : Int)))) (by kernel_rfl) (fun hbv21 => ?_) (fun hbv21 => absurd (hbv21.symm.trans (decide_eq_true (by omega))) Bool.false_ne_true))
        refine aws_skip (aws_seq ?_)
        obtain ⟨ov22, hxv23, h⟩ := outM_some h
        refine aws_blockS (E := (fun (_ : Unit) => [(5, (vp 2)), (7, (vi sv10)), (46, (AV.d (eL TApiBalance.e rv5.1.Balances))), (47, (vi (rv5.1.Balances.length : Int))), (48, (vi (iv20 : Int)))])) (LE := (fun (_ : Unit) => [(bx (TTreasuryplaySrc.e rv3.2)), (bx (TApiLedger.e rv3.1)), (bx (TApiWhole.e rv5.1))])) (fun s => ov22 = .next s) ?_ (fun _ => Nat.le_of_ble_eq_true (by kernel_rfl)) (fun _ hq => ?_)
        · refine aws_seq (gR [] [(5, (vp 2)), (7, (vi sv10)), (11, (vp 3)), (46, (AV.d (eL TApiBalance.e rv5.1.Balances))), (47, (vi (rv5.1.Balances.length : Int))), (48, (vi (iv20 : Int)))] [(bx (TTreasuryplaySrc.e rv3.2)), (bx (TApiLedger.e rv3.1)), (bx (TApiWhole.e rv5.1)), (bx (TApiBalance.e (rv5.1.Balances.getD iv20 default)))] [(0 : Int) ≤ (iv20 : Int), iv20 < rv5.1.Balances.length] (by kernel_rfl) (And.intro (Int.natCast_nonneg _) (And.intro hi trivial)) ?_)
          refine aws_seq (gT [] [(5, (vp 2)), (7, (vi sv10)), (46, (AV.d (eL TApiBalance.e rv5.1.Balances))), (47, (vi (rv5.1.Balances.length : Int))), (48, (vi (iv20 : Int))), (69, (vb (bif (bif (bif (((rv5.1.Balances.getD iv20 default).Account) == 140) then true else (((rv5.1.Balances.getD iv20 default).Account) == 240)) then true else (((rv5.1.Balances.getD iv20 default).Account) == 440)) then true else (((rv5.1.Balances.getD iv20 default).Account) == 540))))] (by kernel_rfl) ?_)
          refine aws_cond (b := (bif (bif (bif (((rv5.1.Balances.getD iv20 default).Account) == 140) then true else (((rv5.1.Balances.getD iv20 default).Account) == 240)) then true else (((rv5.1.Balances.getD iv20 default).Account) == 440)) then true else (((rv5.1.Balances.getD iv20 default).Account) == 540))) (by kernel_rfl) (fun hbv24 => ?_) (fun hbv24 => ?_)
          · replace hxv23 := iteT hbv24 hxv23
            refine aws_seq (gT [] [(2, (vb false))] (by kernel_rfl) ?_)
            refine aws_ret ?_
            obtain rfl := Option.some.inj hxv23
            obtain rfl := Option.some.inj h
            exact ⟨_, rfl, ⟨_, [], [(bx (TTreasuryplaySrc.e rv3.2)), (bx (TApiLedger.e rv3.1)), (bx (TApiWhole.e rv5.1)), (bx (TApiBalance.e (rv5.1.Balances.getD iv20 default)))], by kernel_rfl, trivial, (LeV.refl _), rfl⟩⟩
          · replace hxv23 := iteF hbv24 hxv23
            refine aws_skip (aws_nil ?_)
            obtain rfl := Option.some.inj hxv23
            exact ⟨_, rfl, ⟨(fA (by kernel_rfl)), .inr ⟨⟨[(bx (TApiBalance.e (rv5.1.Balances.getD iv20 default)))], rfl, lsOk (And.intro rfl (And.intro rfl (And.intro rfl trivial)))⟩, List.all_eq_true.1 (by kernel_rfl)⟩⟩⟩
        · subst hq
          refine gT [] [(5, (vp 2)), (7, (vi sv10)), (46, (AV.d (eL TApiBalance.e rv5.1.Balances))), (47, (vi (rv5.1.Balances.length : Int))), (48, (vi (IntKind.i64.wrap ((iv20 : Int) + 1))))] (by kernel_rfl) ?_
          refine aws_nil ?_
          obtain rfl := Option.some.inj h
          exact ⟨_, rfl, ⟨(fq 0 rfl (fq 1 rfl (fq 2 rfl (fq 3 rfl (frLe_at (k := 4) rfl (LeV.of_eq (congrArg (fun n => AV.d (DV.i .i64 n)) (wrap_succ (by omega)))) frLe_nil))))), .inl rfl⟩⟩
      · refine aws_seq (gT [] [(5, (vp 2)), (7, (vi sv10)), (46, (AV.d (eL TApiBalance.e rv5.1.Balances))), (47, (vi (rv5.1.Balances.length : Int))), (48, (vi ((rv5.1.Balances.length : Nat) : Int))), (49, (vb (decide (((rv5.1.Balances.length : Nat) : Int) < (rv5.1.Balances.length : Int)))))] (by kernel_rfl) ?_)
        refine aws_seq (aws_cond (b := (decide (((rv5.1.Balances.length : Nat) : Int) < (rv5.1.Balances.length : Int)))) (by kernel_rfl) (fun hbv25 => absurd hbv25 (Bool.eq_false_iff.mp (decide_eq_false (by omega)))) (fun hbv25 => ?_))
        refine aws_exit ?_
        exact ⟨rfl, _, rfl, ⟨(fA (by kernel_rfl)), .inl rfl⟩⟩
      · subst e
        obtain rfl := Option.some.inj h
        exact ⟨.inr rfl, hr⟩
      · subst e
        refine aws_seq ?_
        obtain ⟨rv26, hrv27, h⟩ := bind_some' h
        refine gS [(5, { h := .callq (vb rv26) })] [(2, (vb (bif (rv5.1.Eliminated == sv10) then rv26 else false)))] [AllP [(rv5.1.Eliminated == sv10) = true] → (∀ L, CallOk Try.prog 13 [] L (vb rv26) L)] (by kernel_rfl) (And.intro (fun hg => ((F13_ok (optP_some hrv27 hg)).pu (fun _ => rfl) (fun _ => rfl))) trivial) ?_
        refine aws_ret ?_
        obtain rfl := Option.some.inj h
        exact ⟨.inr rfl, ⟨_, [], [(bx (TTreasuryplaySrc.e rv3.2)), (bx (TApiLedger.e rv3.1)), (bx (TApiWhole.e rv5.1))], by kernel_rfl, trivial, (LeV.refl _), rfl⟩⟩

/-! 5 -/
theorem F5_ok {a0 : (List Int)} {r : R5} (h : F5 a0 = some r) : CallOk Try.prog 5 [(vl a0)] [] (V5 r) (L5 r) := by
  refine gF Try.func5 rfl (by kernel_rfl) trivial ?_
  unfold F5 at h
  refine aws_seq (gT [] [(0, (vl a0))] (by kernel_rfl) ?_)
  refine aws_seq ?_
  obtain ⟨rv1, hrv2, h⟩ := bind_some' h
  refine gR [(1, { h := .callw (vp 0) [] [(bx (TTreasuryplaySrc.e rv1))] })] [(3, (vp 0))] [(bx (TTreasuryplaySrc.e rv1))] [CallOk Try.prog 9 [(vl a0)] [] (vp 0) [(bx (TTreasuryplaySrc.e rv1))]] (by kernel_rfl) (And.intro ((F9_ok hrv2).ca [] (by kernel_rfl)) trivial) ?_
  refine aws_seq ?_
  obtain ⟨rv3, hrv4, h⟩ := bind_some' h
  refine gR [(1, { h := .callw (AV.d (TApiLedger.e rv3.1)) [(0, (bx (TTreasuryplaySrc.e rv3.2)))] [] }), (2, { obs := [(1, (bx (TApiLedger.e (⟨[]⟩ : TApiLedger))))] })] [(3, (vp 0)), (4, (vp 1))] [(bx (TTreasuryplaySrc.e rv3.2)), (bx (TApiLedger.e rv3.1))] [CallOk Try.prog 14 [(vp 0), (vi 4)] [(bx (TTreasuryplaySrc.e rv1))] (AV.d (TApiLedger.e rv3.1)) [(bx (TTreasuryplaySrc.e rv3.2))], OLe (bx (DV.agg [(DV.sl 0 fun _ => DV.b false)])) (bx (TApiLedger.e (⟨[]⟩ : TApiLedger)))] (by kernel_rfl) (And.intro ((F14_ok hrv4).ca [0] (by kernel_rfl)) (And.intro (oLe_box (DLe.agg (DLeL.cons DLe.sl0 DLeL.nil))) trivial)) ?_
  refine aws_seq ?_
  obtain ⟨rv5, hrv6, h⟩ := bind_some' h
  refine gR [(1, { cast := some (vl ([1, 15, 60] : List Int)) }), (2, { h := .callw (vi rv5.1) [(0, (bx (TTreasuryplaySrc.e rv5.2)))] [] })] [(4, (vp 1)), (5, (vi rv5.1))] [(bx (TTreasuryplaySrc.e rv5.2)), (bx (TApiLedger.e rv3.1))] [LeV (AV.d (DV.sl 3 (listF (DV.b false) [(DV.i .i64 1), (DV.i .i64 15), (DV.i .i64 60)]))) (vl ([1, 15, 60] : List Int)), CallOk Try.prog 15 [(vp 0), (vl ([1, 15, 60] : List Int))] [(bx (TTreasuryplaySrc.e rv3.2)), (bx (TApiLedger.e rv3.1))] (vi rv5.1) [(bx (TTreasuryplaySrc.e rv5.2)), (bx (TApiLedger.e rv3.1))]] (by kernel_rfl) (And.intro (leV_lit (DV.i .i64) ([1, 15, 60] : List Int)) (And.intro ((F15_ok hrv6).ca [0] (by kernel_rfl)) trivial)) ?_
  refine aws_seq (gR [] [(4, (vp 1)), (5, (vi rv5.1)), (6, (vp 2))] [(bx (TTreasuryplaySrc.e rv5.2)), (bx (TApiLedger.e rv3.1)), (bx (DV.agg [(DV.i .i64 (IntKind.i64.wrap ((rv3.1.Postings.length : Int) + 1))), (DV.i .i64 60), (DV.i .i64 2), (DV.i .i64 140), (DV.i .i64 110), (DV.i .i64 rv5.1), (DV.i .i64 3), (DV.i .i64 2)]))] [] (by kernel_rfl) trivial ?_)
  refine aws_seq ?_
  obtain ⟨rv7, hrv8, h⟩ := bind_some' h
  refine gR [(2, { h := .callq (AV.tup [(AV.d (TApiLedger.e rv7.1)), (vi rv7.2)]) }), (6, { obs := [(3, (bx (TApiLedger.e (⟨[]⟩ : TApiLedger))))] })] [(5, (vi rv5.1)), (7, (vp 3)), (8, (vi rv7.2))] [(bx (TTreasuryplaySrc.e rv5.2)), (bx (TApiLedger.e rv3.1)), (bx (DV.agg [(DV.i .i64 (IntKind.i64.wrap ((rv3.1.Postings.length : Int) + 1))), (DV.i .i64 60), (DV.i .i64 2), (DV.i .i64 140), (DV.i .i64 110), (DV.i .i64 rv5.1), (DV.i .i64 3), (DV.i .i64 2)])), (bx (TApiLedger.e rv7.1))] [_, OLe (bx (DV.agg [(DV.sl 0 fun _ => DV.b false)])) (bx (TApiLedger.e (⟨[]⟩ : TApiLedger)))] (by kernel_rfl) (And.intro ((F16_ok hrv8).pu (fun _ => rfl) (fun _ => rfl)) (And.intro (oLe_box (DLe.agg (DLeL.cons DLe.sl0 DLeL.nil))) trivial)) ?_
  refine aws_seq ?_
  obtain ⟨rv9, hrv10, h⟩ := bind_some' h
  refine gS [(1, { cast := some (vl ([1, 2, 3] : List Int)) }), (2, { h := .callq (AV.tup [(AV.d (eL TApiDifference.e rv9.1)), (vi rv9.2)]) })] [(5, (vi rv5.1)), (8, (vi rv7.2)), (9, (AV.d (eL TApiDifference.e rv9.1))), (10, (vi rv9.2))] [LeV (AV.d (DV.sl 3 (listF (DV.b false) [(DV.i .i64 1), (DV.i .i64 2), (DV.i .i64 3)]))) (vl ([1, 2, 3] : List Int)), _] (by kernel_rfl) (And.intro (leV_lit (DV.i .i64) ([1, 2, 3] : List Int)) (And.intro ((F17_ok hrv10).pu (fun _ => rfl) (fun _ => rfl)) trivial)) ?_
  refine aws_seq ?_
  obtain ⟨rv11, hrv12, h⟩ := bind_some' h
  obtain ⟨rv13, hrv14, h⟩ := bind_some' h
  refine gS [(10, { cast := some (AV.d (eL TApiDifference.e ([(⟨1, 2, 3, 2, rv5.1⟩ : TApiDifference)] : List TApiDifference))) }), (11, { h := .callq (vb rv11) }), (14, { h := .callq (vb rv13) })] [(2, (vb (bif (bif (bif (rv7.2 == 0) then (rv9.2 == 0) else false) then rv11 else false) then rv13 else false)))] [AllP [(bif (rv7.2 == 0) then (rv9.2 == 0) else false) = true] → (LeV (AV.d (DV.sl 1 (listF (DV.b false) [(DV.agg [(DV.i .i64 1), (DV.i .i64 2), (DV.i .i64 3), (DV.i .i64 2), (DV.i .i64 rv5.1)])]))) (AV.d (eL TApiDifference.e ([(⟨1, 2, 3, 2, rv5.1⟩ : TApiDifference)] : List TApiDifference)))), AllP [(bif (rv7.2 == 0) then (rv9.2 == 0) else false) = true] → (∀ L, CallOk Try.prog 18 [(AV.d (eL TApiDifference.e rv9.1)), (AV.d (eL TApiDifference.e ([(⟨1, 2, 3, 2, rv5.1⟩ : TApiDifference)] : List TApiDifference)))] L (vb rv11) L), AllP [(bif (bif (rv7.2 == 0) then (rv9.2 == 0) else false) then rv11 else false) = true] → (∀ L, CallOk Try.prog 13 [] L (vb rv13) L)] (by kernel_rfl) (And.intro (fun hg => leV_lit TApiDifference.e ([(⟨1, 2, 3, 2, rv5.1⟩ : TApiDifference)] : List TApiDifference)) (And.intro (fun hg => ((F18_ok (optP_some hrv12 hg)).pu (fun _ => rfl) (fun _ => rfl))) (And.intro (fun hg => ((F13_ok (optP_some hrv14 hg)).pu (fun _ => rfl) (fun _ => rfl))) trivial))) ?_
  refine aws_ret ?_
  obtain rfl := Option.some.inj h
  exact ⟨.inr rfl, ⟨_, [], [(bx (TTreasuryplaySrc.e rv5.2)), (bx (TApiLedger.e rv3.1)), (bx (DV.agg [(DV.i .i64 (IntKind.i64.wrap ((rv3.1.Postings.length : Int) + 1))), (DV.i .i64 60), (DV.i .i64 2), (DV.i .i64 140), (DV.i .i64 110), (DV.i .i64 rv5.1), (DV.i .i64 3), (DV.i .i64 2)])), (bx (TApiLedger.e rv7.1))], by kernel_rfl, trivial, (LeV.refl _), rfl⟩⟩

/-! 6 -/
theorem F6_ok {a0 : (List Int)} {r : R6} (h : F6 a0 = some r) : CallOk Try.prog 6 [(vl a0)] [] (V6 r) (L6 r) := by
  refine gF Try.func6 rfl (by kernel_rfl) trivial ?_
  unfold F6 at h
  refine aws_seq (gT [] [(0, (vl a0))] (by kernel_rfl) ?_)
  refine aws_seq ?_
  obtain ⟨rv1, hrv2, h⟩ := bind_some' h
  refine gR [(1, { h := .callw (vp 0) [] [(bx (TTreasuryplaySrc.e rv1))] })] [(3, (vp 0))] [(bx (TTreasuryplaySrc.e rv1))] [CallOk Try.prog 9 [(vl a0)] [] (vp 0) [(bx (TTreasuryplaySrc.e rv1))]] (by kernel_rfl) (And.intro ((F9_ok hrv2).ca [] (by kernel_rfl)) trivial) ?_
  refine aws_seq ?_
  obtain ⟨rv3, hrv4, h⟩ := bind_some' h
  refine gR [(1, { h := .callw (AV.d (TApiLedger.e rv3.1)) [(0, (bx (TTreasuryplaySrc.e rv3.2)))] [] }), (2, { obs := [(1, (bx (TApiLedger.e (⟨[]⟩ : TApiLedger))))] })] [(3, (vp 0)), (4, (vp 1))] [(bx (TTreasuryplaySrc.e rv3.2)), (bx (TApiLedger.e rv3.1))] [CallOk Try.prog 14 [(vp 0), (vi 3)] [(bx (TTreasuryplaySrc.e rv1))] (AV.d (TApiLedger.e rv3.1)) [(bx (TTreasuryplaySrc.e rv3.2))], OLe (bx (DV.agg [(DV.sl 0 fun _ => DV.b false)])) (bx (TApiLedger.e (⟨[]⟩ : TApiLedger)))] (by kernel_rfl) (And.intro ((F14_ok hrv4).ca [0] (by kernel_rfl)) (And.intro (oLe_box (DLe.agg (DLeL.cons DLe.sl0 DLeL.nil))) trivial)) ?_
  refine aws_seq (aws_seq ?_)
  obtain ⟨rv5, hrv6, h⟩ := bind_some' h
  refine gR [(1, { h := .callw (vi rv5.1) [(0, (bx (TTreasuryplaySrc.e rv5.2)))] [] })] [(3, (vp 0)), (4, (vp 1)), (5, (vi rv5.1))] [(bx (TTreasuryplaySrc.e rv5.2)), (bx (TApiLedger.e rv3.1))] [CallOk Try.prog 19 [(vp 0), (vi 4)] [(bx (TTreasuryplaySrc.e rv3.2)), (bx (TApiLedger.e rv3.1))] (vi rv5.1) [(bx (TTreasuryplaySrc.e rv5.2)), (bx (TApiLedger.e rv3.1))]] (by kernel_rfl) (And.intro ((F19_ok hrv6).ca [0] (by kernel_rfl)) trivial) ?_
  obtain ⟨ov7, hxv8, h⟩ := outM_some h
  refine aws_loop (E := (fun (_ : TTreasuryplaySrc × TApiLedger × Int) => [(4, (vp 1))])) (LE := (fun (sv9 : TTreasuryplaySrc × TApiLedger × Int) => [(bx (TTreasuryplaySrc.e sv9.1)), (bx (TApiLedger.e sv9.2.1))])) (R := (fun x => FR Try.prog Try.f6 (V6 x) (L6 x))) (aw_iter (m := 2) (I := (fun (sv9 : TTreasuryplaySrc × TApiLedger × Int) => [(3, (vp 0)), (4, (vp 1)), (5, (vi sv9.2.2))])) (LI := (fun (sv9 : TTreasuryplaySrc × TApiLedger × Int) => [(bx (TTreasuryplaySrc.e sv9.1)), (bx (TApiLedger.e sv9.2.1))])) (step := F6_b1) (fun sv9 _ h => aw_of ?_) (fun _ => rfl) hxv8 ⟨(fA (by kernel_rfl)), .inl rfl⟩ (Nat.le_of_ble_eq_true (by kernel_rfl))) (fun _ => Nat.le_of_ble_eq_true (by kernel_rfl)) (fun x fr L e hr => ?_) (fun sv9 e => ?_)
  · unfold F6_b1 at h
    refine aws_seq (aws_seq (gT [] [(3, (vp 0)), (4, (vp 1)), (5, (vi sv9.2.2)), (28, (vb (decide (sv9.2.2 > 0))))] (by kernel_rfl) ?_))
    refine aws_cond (b := (decide (sv9.2.2 > 0))) (by kernel_rfl) (fun hbv10 => ?_) (fun hbv10 => ?_)
    · replace h := iteT hbv10 h
      refine aws_skip (aws_seq ?_)
      obtain ⟨ov11, hxv12, h⟩ := bind_some' h
      refine aws_blockS (E := (fun (_ : TTreasuryplaySrc × TApiLedger) => [(3, (vp 0)), (4, (vp 1)), (5, (vi sv9.2.2))])) (LE := (fun (sv13 : TTreasuryplaySrc × TApiLedger) => [(bx (TTreasuryplaySrc.e sv13.1)), (bx (TApiLedger.e sv13.2))])) (fun s => s = ov11) ?_ (fun _ => Nat.le_of_ble_eq_true (by kernel_rfl)) (fun _ hq => ?_)
      · refine aws_seq ?_
        obtain ⟨rv14, hrv15, hxv12⟩ := bind_some' hxv12
        refine gR [(5, { h := .callw (AV.d (TApiPosting.e rv14.1)) [(0, (bx (TTreasuryplaySrc.e rv14.2)))] [] })] [(3, (vp 0)), (4, (vp 1)), (5, (vi sv9.2.2)), (6, (vp 2))] [(bx (TTreasuryplaySrc.e rv14.2)), (bx (TApiLedger.e sv9.2.1)), (bx (TApiPosting.e rv14.1))] [CallOk Try.prog 20 [(vp 0), (vi (IntKind.i64.wrap ((sv9.2.1.Postings.length : Int) + 1))), (vi 70), (vi 1)] [(bx (TTreasuryplaySrc.e sv9.1)), (bx (TApiLedger.e sv9.2.1))] (AV.d (TApiPosting.e rv14.1)) [(bx (TTreasuryplaySrc.e rv14.2)), (bx (TApiLedger.e sv9.2.1))]] (by kernel_rfl) (And.intro ((F20_ok hrv15).ca [0] (by kernel_rfl)) trivial) ?_
        refine aws_seq (gR [] [(3, (vp 0)), (4, (vp 1)), (5, (vi sv9.2.2)), (6, (vp 2))] [(bx (TTreasuryplaySrc.e rv14.2)), (bx (TApiLedger.e sv9.2.1)), (bx (DV.agg [(DV.i .i64 rv14.1.Number), (DV.i .i64 rv14.1.Day), (DV.i .i64 5), (DV.i .i64 rv14.1.Debit), (DV.i .i64 rv14.1.Credit), (DV.i .i64 rv14.1.Amount), (DV.i .i64 rv14.1.Partner), (DV.i .i64 rv14.1.Ref)]))] [] (by kernel_rfl) trivial ?_)
        obtain ⟨rv16, hrv17, hxv12⟩ := bind_some' hxv12
        refine gR [(2, { h := .callq (AV.tup [(AV.d (TApiLedger.e rv16.1)), (vi rv16.2)]) })] [(3, (vp 0)), (4, (vp 1)), (5, (vi sv9.2.2))] [(bx (TTreasuryplaySrc.e rv14.2)), (bx (TApiLedger.e rv16.1)), (bx (DV.agg [(DV.i .i64 rv14.1.Number), (DV.i .i64 rv14.1.Day), (DV.i .i64 5), (DV.i .i64 rv14.1.Debit), (DV.i .i64 rv14.1.Credit), (DV.i .i64 rv14.1.Amount), (DV.i .i64 rv14.1.Partner), (DV.i .i64 rv14.1.Ref)]))] [_] (by kernel_rfl) (And.intro ((F16_ok hrv17).pu (fun _ => rfl) (fun _ => rfl)) trivial) ?_
        refine aws_nil ?_
        obtain rfl := Option.some.inj hxv12
        exact ⟨_, rfl, ⟨(fA (by kernel_rfl)), .inr ⟨⟨[(bx (DV.agg [(DV.i .i64 rv14.1.Number), (DV.i .i64 rv14.1.Day), (DV.i .i64 5), (DV.i .i64 rv14.1.Debit), (DV.i .i64 rv14.1.Credit), (DV.i .i64 rv14.1.Amount), (DV.i .i64 rv14.1.Partner), (DV.i .i64 rv14.1.Ref)]))], rfl, lsOk (And.intro rfl (And.intro rfl trivial))⟩, List.all_eq_true.1 (by kernel_rfl)⟩⟩⟩
      · subst hq
        refine gT [] [(3, (vp 0)), (4, (vp 1)), (5, (vi (IntKind.i64.wrap (sv9.2.2 - 1))))] (by kernel_rfl) ?_
        refine aws_nil ?_
        obtain rfl := Option.some.inj h
        exact ⟨_, rfl, ⟨(fA (by kernel_rfl)), .inl rfl⟩⟩
    · replace h := iteF hbv10 h
      refine aws_exit ?_
      obtain rfl := Option.some.inj h
      exact ⟨rfl, _, rfl, ⟨(fA (by kernel_rfl)), .inl rfl⟩⟩
  · subst e
    exact nomatch (show (none : Option _) = some _ from h)
  · subst e
    refine aws_seq ?_
    obtain ⟨rv18, hrv19, h⟩ := bind_some' h
    refine gR [(1, { cast := some (vl ([1, 2, 3] : List Int)) }), (2, { h := .callq (AV.tup [(AV.d (TApiWhole.e rv18.1)), (vi rv18.2)]) }), (6, { obs := [(2, (bx (TApiWhole.e (⟨[], 0, []⟩ : TApiWhole))))] })] [(4, (vp 1)), (7, (vp 2)), (8, (vi rv18.2))] [(bx (TTreasuryplaySrc.e sv9.1)), (bx (TApiLedger.e sv9.2.1)), (bx (TApiWhole.e rv18.1))] [LeV (AV.d (DV.sl 3 (listF (DV.b false) [(DV.i .i64 1), (DV.i .i64 2), (DV.i .i64 3)]))) (vl ([1, 2, 3] : List Int)), _, OLe (bx (DV.agg [(DV.sl 0 fun _ => DV.b false), (DV.i .i64 0), (DV.sl 0 fun _ => DV.b false)])) (bx (TApiWhole.e (⟨[], 0, []⟩ : TApiWhole)))] (by kernel_rfl) (And.intro (leV_lit (DV.i .i64) ([1, 2, 3] : List Int)) (And.intro ((F11_ok hrv19).pu (fun _ => rfl) (fun _ => rfl)) (And.intro (oLe_box (DLe.agg (DLeL.cons DLe.sl0 (DLeL.cons (DLe.refl _) (DLeL.cons DLe.sl0 DLeL.nil))))) trivial))) ?_
    refine aws_seq ?_
    obtain ⟨rv20, hrv21, h⟩ := bind_some' h
    refine gR [(1, { cast := some (vl ([1, 2, 3, 5] : List Int)) }), (2, { h := .callq (AV.tup [(AV.d (TApiWhole.e rv20.1)), (vi rv20.2)]) }), (6, { obs := [(3, (bx (TApiWhole.e (⟨[], 0, []⟩ : TApiWhole))))] })] [(4, (vp 1)), (7, (vp 2)), (8, (vi rv18.2)), (9, (vp 3)), (10, (vi rv20.2))] [(bx (TTreasuryplaySrc.e sv9.1)), (bx (TApiLedger.e sv9.2.1)), (bx (TApiWhole.e rv18.1)), (bx (TApiWhole.e rv20.1))] [LeV (AV.d (DV.sl 4 (listF (DV.b false) [(DV.i .i64 1), (DV.i .i64 2), (DV.i .i64 3), (DV.i .i64 5)]))) (vl ([1, 2, 3, 5] : List Int)), _, OLe (bx (DV.agg [(DV.sl 0 fun _ => DV.b false), (DV.i .i64 0), (DV.sl 0 fun _ => DV.b false)])) (bx (TApiWhole.e (⟨[], 0, []⟩ : TApiWhole)))] (by kernel_rfl) (And.intro (leV_lit (DV.i .i64) ([1, 2, 3, 5] : List Int)) (And.intro ((F11_ok hrv21).pu (fun _ => rfl) (fun _ => rfl)) (And.intro (oLe_box (DLe.agg (DLeL.cons DLe.sl0 (DLeL.cons (DLe.refl _) (DLeL.cons DLe.sl0 DLeL.nil))))) trivial))) ?_
    refine aws_seq ?_
    obtain ⟨rv22, hrv23, h⟩ := bind_some' h
    refine gR [(1, { cast := some (vl ([5] : List Int)) }), (2, { h := .callq (AV.tup [(AV.d (TApiWhole.e rv22.1)), (vi rv22.2)]) }), (6, { obs := [(4, (bx (TApiWhole.e (⟨[], 0, []⟩ : TApiWhole))))] })] [(7, (vp 2)), (8, (vi rv18.2)), (9, (vp 3)), (10, (vi rv20.2)), (11, (vp 4)), (12, (vi rv22.2))] [(bx (TTreasuryplaySrc.e sv9.1)), (bx (TApiLedger.e sv9.2.1)), (bx (TApiWhole.e rv18.1)), (bx (TApiWhole.e rv20.1)), (bx (TApiWhole.e rv22.1))] [LeV (AV.d (DV.sl 1 (listF (DV.b false) [(DV.i .i64 5)]))) (vl ([5] : List Int)), _, OLe (bx (DV.agg [(DV.sl 0 fun _ => DV.b false), (DV.i .i64 0), (DV.sl 0 fun _ => DV.b false)])) (bx (TApiWhole.e (⟨[], 0, []⟩ : TApiWhole)))] (by kernel_rfl) (And.intro (leV_lit (DV.i .i64) ([5] : List Int)) (And.intro ((F11_ok hrv23).pu (fun _ => rfl) (fun _ => rfl)) (And.intro (oLe_box (DLe.agg (DLeL.cons DLe.sl0 (DLeL.cons (DLe.refl _) (DLeL.cons DLe.sl0 DLeL.nil))))) trivial))) ?_
    refine aws_seq (aws_seq (gT [] [(7, (vp 2)), (9, (vp 3)), (11, (vp 4)), (89, (vb (bif (bif (bif (bif (bif (rv18.2 != 0) then true else (rv20.2 != 0)) then true else (rv22.2 != 0)) then true else (rv18.1.Eliminated != rv20.1.Eliminated)) then true else (rv22.1.Eliminated != 0)) then true else ((rv20.1.Differences.length : Int) != 0))))] (by kernel_rfl) ?_))
    refine aws_cond (b := (bif (bif (bif (bif (bif (rv18.2 != 0) then true else (rv20.2 != 0)) then true else (rv22.2 != 0)) then true else (rv18.1.Eliminated != rv20.1.Eliminated)) then true else (rv22.1.Eliminated != 0)) then true else ((rv20.1.Differences.length : Int) != 0))) (by kernel_rfl) (fun hbv24 => ?_) (fun hbv24 => ?_)
    · replace h := iteT hbv24 h
      refine aws_seq (gT [] [(2, (vb false))] (by kernel_rfl) ?_)
      refine aws_ret ?_
      obtain rfl := Option.some.inj h
      exact ⟨.inr rfl, ⟨_, [], [(bx (TTreasuryplaySrc.e sv9.1)), (bx (TApiLedger.e sv9.2.1)), (bx (TApiWhole.e rv18.1)), (bx (TApiWhole.e rv20.1)), (bx (TApiWhole.e rv22.1))], by kernel_rfl, trivial, (LeV.refl _), rfl⟩⟩
    · replace h := iteF hbv24 h
      refine aws_skip (aws_seq (aws_seq (gT [] [(7, (vp 2)), (9, (vp 3)), (11, (vp 4)), (13, (vi 100))] (by kernel_rfl) ?_)))
      obtain ⟨ov25, hxv26, h⟩ := outM_some h
      refine aws_loop (E := (fun (_ : Int) => [])) (LE := (fun (_ : Int) => [(bx (TTreasuryplaySrc.e sv9.1)), (bx (TApiLedger.e sv9.2.1)), (bx (TApiWhole.e rv18.1)), (bx (TApiWhole.e rv20.1)), (bx (TApiWhole.e rv22.1))])) (R := (fun x => FR Try.prog Try.f6 (V6 x) (L6 x))) (aw_iter (m := 5) (I := (fun (sv27 : Int) => [(7, (vp 2)), (9, (vp 3)), (11, (vp 4)), (13, (vi sv27))])) (LI := (fun (_ : Int) => [(bx (TTreasuryplaySrc.e sv9.1)), (bx (TApiLedger.e sv9.2.1)), (bx (TApiWhole.e rv18.1)), (bx (TApiWhole.e rv20.1)), (bx (TApiWhole.e rv22.1))])) (step := F6_b5 rv18 rv20 rv22) (fun sv27 _ h => aw_of ?_) (fun _ => rfl) hxv26 ⟨(fA (by kernel_rfl)), .inl rfl⟩ (Nat.le_of_ble_eq_true (by kernel_rfl))) (fun _ => Nat.le_of_ble_eq_true (by kernel_rfl)) (fun x fr L e hr => ?_) (fun _ e => ?_)
      · unfold F6_b5 at h
        refine aws_seq (aws_seq (gT [] [(7, (vp 2)), (9, (vp 3)), (11, (vp 4)), (13, (vi sv27)), (91, (vb (decide (sv27 < 600))))] (by kernel_rfl) ?_))
        refine aws_cond (b := (decide (sv27 < 600))) (by kernel_rfl) (fun hbv28 => ?_) (fun hbv28 => ?_)
        · replace h := iteT hbv28 h
          refine aws_skip (aws_seq ?_)
          obtain ⟨ov29, hxv30, h⟩ := outM_some h
          refine aws_blockS (E := (fun (_ : Unit) => [(7, (vp 2)), (9, (vp 3)), (11, (vp 4)), (13, (vi sv27))])) (LE := (fun (_ : Unit) => [(bx (TTreasuryplaySrc.e sv9.1)), (bx (TApiLedger.e sv9.2.1)), (bx (TApiWhole.e rv18.1)), (bx (TApiWhole.e rv20.1)), (bx (TApiWhole.e rv22.1))])) (fun s => ov29 = .next s) ?_ (fun _ => Nat.le_of_ble_eq_true (by kernel_rfl)) (fun _ hq => ?_)
          · refine aws_seq (gT [] [(7, (vp 2)), (9, (vp 3)), (11, (vp 4)), (13, (vi sv27)), (14, (vi 0))] (by kernel_rfl) ?_)
            refine aws_seq (aws_seq (gT [] [(7, (vp 2)), (9, (vp 3)), (11, (vp 4)), (13, (vi sv27)), (14, (vi 0)), (95, (AV.d (eL TApiBalance.e rv18.1.Balances))), (96, (vi (rv18.1.Balances.length : Int))), (97, (vi 0))] (by kernel_rfl) ?_))
            obtain ⟨ov31, hxv32, hxv30⟩ := outM_some hxv30
            refine aws_lenL (k := 5) (t := 95) (e := TApiBalance.e) (l := rv18.1.Balances) rfl (by simp) (fun hn => ?_)
            refine aws_loop (E := (fun (sv33 : Int) => [(7, (vp 2)), (9, (vp 3)), (11, (vp 4)), (13, (vi sv27)), (14, (vi sv33))])) (LE := (fun (_ : Int) => [(bx (TTreasuryplaySrc.e sv9.1)), (bx (TApiLedger.e sv9.2.1)), (bx (TApiWhole.e rv18.1)), (bx (TApiWhole.e rv20.1)), (bx (TApiWhole.e rv22.1))])) (R := (fun x => FR Try.prog Try.f6 (V6 x) (L6 x))) (aw_range (n := rv18.1.Balances.length) (m := 5) (I := (fun (iv34 : Nat) (sv33 : Int) => [(7, (vp 2)), (9, (vp 3)), (11, (vp 4)), (13, (vi sv27)), (14, (vi sv33)), (95, (AV.d (eL TApiBalance.e rv18.1.Balances))), (96, (vi (rv18.1.Balances.length : Int))), (97, (vi (iv34 : Int)))])) (LI := (fun (_ : Nat) => (fun (_ : Int) => [(bx (TTreasuryplaySrc.e sv9.1)), (bx (TApiLedger.e sv9.2.1)), (bx (TApiWhole.e rv18.1)), (bx (TApiWhole.e rv20.1)), (bx (TApiWhole.e rv22.1))]))) (body := F6_b2 rv18 sv27) (fun iv34 sv33 _ hi h => aw_of ?_) (fun sv33 => aw_of ?_) (fun _ _ => rfl) (Nat.zero_add _) hxv32 ⟨(fA (by kernel_rfl)), .inl rfl⟩ (Nat.le_of_ble_eq_true (by kernel_rfl))) (fun _ => Nat.le_of_ble_eq_true (by kernel_rfl)) (fun x fr L e hr => ?_) (fun sv33 e => ?_)
            · unfold F6_b2 at h
              refine aws_seq (gT [] [(7, (vp 2)), (9, (vp 3)), (11, (vp 4)), (13, (vi sv27)), (14, (vi sv33)), (95, (AV.d (eL TApiBalance.e rv18.1.Balances))), (96, (vi (rv18.1.Balances.length : Int))), (97, (vi (iv34 : Int))), (98, (vb (decide ((iv34 : Int) < (rv18.1.Balances.length : Int)))))] (by kernel_rfl) ?_)
              refine aws_seq (aws_cond (b := (decide ((iv34 : Int) < (rv18.1.Balances.length : Int)))) (by kernel_rfl) (fun hbv35 => ?_) (fun hbv35 => absurd (hbv35.symm.trans (decide_eq_true (by omega))) Bool.false_ne_true))
              refine aws_skip (aws_seq ?_)
              obtain ⟨ov36, hxv37, h⟩ := bind_some' h
              refine aws_blockS (E := (fun (sv38 : Int) => [(7, (vp 2)), (9, (vp 3)), (11, (vp 4)), (13, (vi sv27)), (14, (vi sv38)), (95, (AV.d (eL TApiBalance.e rv18.1.Balances))), (96, (vi (rv18.1.Balances.length : Int))), (97, (vi (iv34 : Int)))])) (LE := (fun (_ : Int) => [(bx (TTreasuryplaySrc.e sv9.1)), (bx (TApiLedger.e sv9.2.1)), (bx (TApiWhole.e rv18.1)), (bx (TApiWhole.e rv20.1)), (bx (TApiWhole.e rv22.1))])) (fun s => s = ov36) ?_ (fun _ => Nat.le_of_ble_eq_true (by kernel_rfl)) (fun sv38 hq => ?_)
              · refine aws_seq (gR [] [(7, (vp 2)), (9, (vp 3)), (11, (vp 4)), (13, (vi sv27)), (14, (vi sv33)), (16, (vp 5)), (95, (AV.d (eL TApiBalance.e rv18.1.Balances))), (96, (vi (rv18.1.Balances.length : Int))), (97, (vi (iv34 : Int)))] [(bx (TTreasuryplaySrc.e sv9.1)), (bx (TApiLedger.e sv9.2.1)), (bx (TApiWhole.e rv18.1)), (bx (TApiWhole.e rv20.1)), (bx (TApiWhole.e rv22.1)), (bx (TApiBalance.e (rv18.1.Balances.getD iv34 default)))] [(0 : Int) ≤ (iv34 : Int), iv34 < rv18.1.Balances.length] (by kernel_rfl) (And.intro (Int.natCast_nonneg _) (And.intro hi trivial)) ?_)
                refine aws_seq (gT [] [(7, (vp 2)), (9, (vp 3)), (11, (vp 4)), (13, (vi sv27)), (14, (vi sv33)), (16, (vp 5)), (95, (AV.d (eL TApiBalance.e rv18.1.Balances))), (96, (vi (rv18.1.Balances.length : Int))), (97, (vi (iv34 : Int))), (104, (vb (((rv18.1.Balances.getD iv34 default).Account) == sv27)))] (by kernel_rfl) ?_)
                refine aws_cond (b := (((rv18.1.Balances.getD iv34 default).Account) == sv27)) (by kernel_rfl) (fun hbv39 => ?_) (fun hbv39 => ?_)
                · replace hxv37 := iteT hbv39 hxv37
                  refine gT [] [(7, (vp 2)), (9, (vp 3)), (11, (vp 4)), (13, (vi sv27)), (14, (vi (IntKind.i64.wrap (sv33 + ((rv18.1.Balances.getD iv34 default).Amount))))), (95, (AV.d (eL TApiBalance.e rv18.1.Balances))), (96, (vi (rv18.1.Balances.length : Int))), (97, (vi (iv34 : Int)))] (by kernel_rfl) ?_
                  refine aws_nil ?_
                  obtain rfl := Option.some.inj hxv37
                  exact ⟨_, rfl, ⟨(fA (by kernel_rfl)), .inr ⟨⟨[(bx (TApiBalance.e (rv18.1.Balances.getD iv34 default)))], rfl, lsOk (And.intro rfl (And.intro rfl (And.intro rfl (And.intro rfl (And.intro rfl trivial)))))⟩, List.all_eq_true.1 (by kernel_rfl)⟩⟩⟩
                · replace hxv37 := iteF hbv39 hxv37
                  refine aws_skip (aws_nil ?_)
                  obtain rfl := Option.some.inj hxv37
                  exact ⟨_, rfl, ⟨(fA (by kernel_rfl)), .inr ⟨⟨[(bx (TApiBalance.e (rv18.1.Balances.getD iv34 default)))], rfl, lsOk (And.intro rfl (And.intro rfl (And.intro rfl (And.intro rfl (And.intro rfl trivial)))))⟩, List.all_eq_true.1 (by kernel_rfl)⟩⟩⟩
              · subst hq
                refine gT [] [(7, (vp 2)), (9, (vp 3)), (11, (vp 4)), (13, (vi sv27)), (14, (vi sv38)), (95, (AV.d (eL TApiBalance.e rv18.1.Balances))), (96, (vi (rv18.1.Balances.length : Int))), (97, (vi (IntKind.i64.wrap ((iv34 : Int) + 1))))] (by kernel_rfl) ?_
                refine aws_nil ?_
                obtain rfl := Option.some.inj h
                exact ⟨_, rfl, ⟨(fq 0 rfl (fq 1 rfl (fq 2 rfl (fq 3 rfl (fq 4 rfl (fq 5 rfl (fq 6 rfl (frLe_at (k := 7) rfl (LeV.of_eq (congrArg (fun n => AV.d (DV.i .i64 n)) (wrap_succ (by omega)))) frLe_nil)))))))), .inl rfl⟩⟩
            · refine aws_seq (gT [] [(7, (vp 2)), (9, (vp 3)), (11, (vp 4)), (13, (vi sv27)), (14, (vi sv33)), (95, (AV.d (eL TApiBalance.e rv18.1.Balances))), (96, (vi (rv18.1.Balances.length : Int))), (97, (vi ((rv18.1.Balances.length : Nat) : Int))), (98, (vb (decide (((rv18.1.Balances.length : Nat) : Int) < (rv18.1.Balances.length : Int)))))] (by kernel_rfl) ?_)
              refine aws_seq (aws_cond (b := (decide (((rv18.1.Balances.length : Nat) : Int) < (rv18.1.Balances.length : Int)))) (by kernel_rfl) (fun hbv40 => absurd hbv40 (Bool.eq_false_iff.mp (decide_eq_false (by omega)))) (fun hbv40 => ?_))
              refine aws_exit ?_
              exact ⟨rfl, _, rfl, ⟨(fA (by kernel_rfl)), .inl rfl⟩⟩
            · subst e
              exact nomatch (show (none : Option _) = some _ from hxv30)
            · subst e
              refine aws_seq (aws_seq (gT [] [(7, (vp 2)), (9, (vp 3)), (11, (vp 4)), (13, (vi sv27)), (14, (vi sv33)), (111, (AV.d (eL TApiBalance.e rv22.1.Balances))), (112, (vi (rv22.1.Balances.length : Int))), (113, (vi 0))] (by kernel_rfl) ?_))
              obtain ⟨ov41, hxv42, hxv30⟩ := outM_some hxv30
              refine aws_lenL (k := 5) (t := 111) (e := TApiBalance.e) (l := rv22.1.Balances) rfl (by simp) (fun hn => ?_)
              refine aws_loop (E := (fun (sv43 : Int) => [(7, (vp 2)), (9, (vp 3)), (11, (vp 4)), (13, (vi sv27)), (14, (vi sv43))])) (LE := (fun (_ : Int) => [(bx (TTreasuryplaySrc.e sv9.1)), (bx (TApiLedger.e sv9.2.1)), (bx (TApiWhole.e rv18.1)), (bx (TApiWhole.e rv20.1)), (bx (TApiWhole.e rv22.1))])) (R := (fun x => FR Try.prog Try.f6 (V6 x) (L6 x))) (aw_range (n := rv22.1.Balances.length) (m := 5) (I := (fun (iv44 : Nat) (sv43 : Int) => [(7, (vp 2)), (9, (vp 3)), (11, (vp 4)), (13, (vi sv27)), (14, (vi sv43)), (111, (AV.d (eL TApiBalance.e rv22.1.Balances))), (112, (vi (rv22.1.Balances.length : Int))), (113, (vi (iv44 : Int)))])) (LI := (fun (_ : Nat) => (fun (_ : Int) => [(bx (TTreasuryplaySrc.e sv9.1)), (bx (TApiLedger.e sv9.2.1)), (bx (TApiWhole.e rv18.1)), (bx (TApiWhole.e rv20.1)), (bx (TApiWhole.e rv22.1))]))) (body := F6_b3 rv22 sv27) (fun iv44 sv43 _ hi h => aw_of ?_) (fun sv43 => aw_of ?_) (fun _ _ => rfl) (Nat.zero_add _) hxv42 ⟨(fA (by kernel_rfl)), .inl rfl⟩ (Nat.le_of_ble_eq_true (by kernel_rfl))) (fun _ => Nat.le_of_ble_eq_true (by kernel_rfl)) (fun x fr L e hr => ?_) (fun sv43 e => ?_)
              · unfold F6_b3 at h
                refine aws_seq (gT [] [(7, (vp 2)), (9, (vp 3)), (11, (vp 4)), (13, (vi sv27)), (14, (vi sv43)), (111, (AV.d (eL TApiBalance.e rv22.1.Balances))), (112, (vi (rv22.1.Balances.length : Int))), (113, (vi (iv44 : Int))), (114, (vb (decide ((iv44 : Int) < (rv22.1.Balances.length : Int)))))] (by kernel_rfl) ?_)
                refine aws_seq (aws_cond (b := (decide ((iv44 : Int) < (rv22.1.Balances.length : Int)))) (by kernel_rfl) (fun hbv45 => ?_) (fun hbv45 => absurd (hbv45.symm.trans (decide_eq_true (by omega))) Bool.false_ne_true))
                refine aws_skip (aws_seq ?_)
                obtain ⟨ov46, hxv47, h⟩ := bind_some' h
                refine aws_blockS (E := (fun (sv48 : Int) => [(7, (vp 2)), (9, (vp 3)), (11, (vp 4)), (13, (vi sv27)), (14, (vi sv48)), (111, (AV.d (eL TApiBalance.e rv22.1.Balances))), (112, (vi (rv22.1.Balances.length : Int))), (113, (vi (iv44 : Int)))])) (LE := (fun (_ : Int) => [(bx (TTreasuryplaySrc.e sv9.1)), (bx (TApiLedger.e sv9.2.1)), (bx (TApiWhole.e rv18.1)), (bx (TApiWhole.e rv20.1)), (bx (TApiWhole.e rv22.1))])) (fun s => s = ov46) ?_ (fun _ => Nat.le_of_ble_eq_true (by kernel_rfl)) (fun sv48 hq => ?_)
                · refine aws_seq (gR [] [(7, (vp 2)), (9, (vp 3)), (11, (vp 4)), (13, (vi sv27)), (14, (vi sv43)), (18, (vp 5)), (111, (AV.d (eL TApiBalance.e rv22.1.Balances))), (112, (vi (rv22.1.Balances.length : Int))), (113, (vi (iv44 : Int)))] [(bx (TTreasuryplaySrc.e sv9.1)), (bx (TApiLedger.e sv9.2.1)), (bx (TApiWhole.e rv18.1)), (bx (TApiWhole.e rv20.1)), (bx (TApiWhole.e rv22.1)), (bx (TApiBalance.e (rv22.1.Balances.getD iv44 default)))] [(0 : Int) ≤ (iv44 : Int), iv44 < rv22.1.Balances.length] (by kernel_rfl) (And.intro (Int.natCast_nonneg _) (And.intro hi trivial)) ?_)
                  refine aws_seq (gT [] [(7, (vp 2)), (9, (vp 3)), (11, (vp 4)), (13, (vi sv27)), (14, (vi sv43)), (18, (vp 5)), (111, (AV.d (eL TApiBalance.e rv22.1.Balances))), (112, (vi (rv22.1.Balances.length : Int))), (113, (vi (iv44 : Int))), (120, (vb (((rv22.1.Balances.getD iv44 default).Account) == sv27)))] (by kernel_rfl) ?_)
                  refine aws_cond (b := (((rv22.1.Balances.getD iv44 default).Account) == sv27)) (by kernel_rfl) (fun hbv49 => ?_) (fun hbv49 => ?_)
                  · replace hxv47 := iteT hbv49 hxv47
                    refine gT [] [(7, (vp 2)), (9, (vp 3)), (11, (vp 4)), (13, (vi sv27)), (14, (vi (IntKind.i64.wrap (sv43 + ((rv22.1.Balances.getD iv44 default).Amount))))), (111, (AV.d (eL TApiBalance.e rv22.1.Balances))), (112, (vi (rv22.1.Balances.length : Int))), (113, (vi (iv44 : Int)))] (by kernel_rfl) ?_
                    refine aws_nil ?_
                    obtain rfl := Option.some.inj hxv47
                    exact ⟨_, rfl, ⟨(fA (by kernel_rfl)), .inr ⟨⟨[(bx (TApiBalance.e (rv22.1.Balances.getD iv44 default)))], rfl, lsOk (And.intro rfl (And.intro rfl (And.intro rfl (And.intro rfl (And.intro rfl trivial)))))⟩, List.all_eq_true.1 (by kernel_rfl)⟩⟩⟩
                  · replace hxv47 := iteF hbv49 hxv47
                    refine aws_skip (aws_nil ?_)
                    obtain rfl := Option.some.inj hxv47
                    exact ⟨_, rfl, ⟨(fA (by kernel_rfl)), .inr ⟨⟨[(bx (TApiBalance.e (rv22.1.Balances.getD iv44 default)))], rfl, lsOk (And.intro rfl (And.intro rfl (And.intro rfl (And.intro rfl (And.intro rfl trivial)))))⟩, List.all_eq_true.1 (by kernel_rfl)⟩⟩⟩
                · subst hq
                  refine gT [] [(7, (vp 2)), (9, (vp 3)), (11, (vp 4)), (13, (vi sv27)), (14, (vi sv48)), (111, (AV.d (eL TApiBalance.e rv22.1.Balances))), (112, (vi (rv22.1.Balances.length : Int))), (113, (vi (IntKind.i64.wrap ((iv44 : Int) + 1))))] (by kernel_rfl) ?_
                  refine aws_nil ?_
                  obtain rfl := Option.some.inj h
                  exact ⟨_, rfl, ⟨(fq 0 rfl (fq 1 rfl (fq 2 rfl (fq 3 rfl (fq 4 rfl (fq 5 rfl (fq 6 rfl (frLe_at (k := 7) rfl (LeV.of_eq (congrArg (fun n => AV.d (DV.i .i64 n)) (wrap_succ (by omega)))) frLe_nil)))))))), .inl rfl⟩⟩
              · refine aws_seq (gT [] [(7, (vp 2)), (9, (vp 3)), (11, (vp 4)), (13, (vi sv27)), (14, (vi sv43)), (111, (AV.d (eL TApiBalance.e rv22.1.Balances))), (112, (vi (rv22.1.Balances.length : Int))), (113, (vi ((rv22.1.Balances.length : Nat) : Int))), (114, (vb (decide (((rv22.1.Balances.length : Nat) : Int) < (rv22.1.Balances.length : Int)))))] (by kernel_rfl) ?_)
                refine aws_seq (aws_cond (b := (decide (((rv22.1.Balances.length : Nat) : Int) < (rv22.1.Balances.length : Int)))) (by kernel_rfl) (fun hbv50 => absurd hbv50 (Bool.eq_false_iff.mp (decide_eq_false (by omega)))) (fun hbv50 => ?_))
                refine aws_exit ?_
                exact ⟨rfl, _, rfl, ⟨(fA (by kernel_rfl)), .inl rfl⟩⟩
              · subst e
                exact nomatch (show (none : Option _) = some _ from hxv30)
              · subst e
                refine aws_seq (aws_seq (gT [] [(7, (vp 2)), (9, (vp 3)), (11, (vp 4)), (13, (vi sv27)), (14, (vi sv43)), (127, (AV.d (eL TApiBalance.e rv20.1.Balances))), (128, (vi (rv20.1.Balances.length : Int))), (129, (vi 0))] (by kernel_rfl) ?_))
                obtain ⟨ov51, hxv52, hxv30⟩ := outM_some hxv30
                refine aws_lenL (k := 5) (t := 127) (e := TApiBalance.e) (l := rv20.1.Balances) rfl (by simp) (fun hn => ?_)
                refine aws_loop (E := (fun (sv53 : Int) => [(7, (vp 2)), (9, (vp 3)), (11, (vp 4)), (13, (vi sv27)), (14, (vi sv53))])) (LE := (fun (_ : Int) => [(bx (TTreasuryplaySrc.e sv9.1)), (bx (TApiLedger.e sv9.2.1)), (bx (TApiWhole.e rv18.1)), (bx (TApiWhole.e rv20.1)), (bx (TApiWhole.e rv22.1))])) (R := (fun x => FR Try.prog Try.f6 (V6 x) (L6 x))) (aw_range (n := rv20.1.Balances.length) (m := 5) (I := (fun (iv54 : Nat) (sv53 : Int) => [(7, (vp 2)), (9, (vp 3)), (11, (vp 4)), (13, (vi sv27)), (14, (vi sv53)), (127, (AV.d (eL TApiBalance.e rv20.1.Balances))), (128, (vi (rv20.1.Balances.length : Int))), (129, (vi (iv54 : Int)))])) (LI := (fun (_ : Nat) => (fun (_ : Int) => [(bx (TTreasuryplaySrc.e sv9.1)), (bx (TApiLedger.e sv9.2.1)), (bx (TApiWhole.e rv18.1)), (bx (TApiWhole.e rv20.1)), (bx (TApiWhole.e rv22.1))]))) (body := F6_b4 rv20 sv27) (fun iv54 sv53 _ hi h => aw_of ?_) (fun sv53 => aw_of ?_) (fun _ _ => rfl) (Nat.zero_add _) hxv52 ⟨(fA (by kernel_rfl)), .inl rfl⟩ (Nat.le_of_ble_eq_true (by kernel_rfl))) (fun _ => Nat.le_of_ble_eq_true (by kernel_rfl)) (fun x fr L e hr => ?_) (fun sv53 e => ?_)
                · unfold F6_b4 at h
                  refine aws_seq (gT [] [(7, (vp 2)), (9, (vp 3)), (11, (vp 4)), (13, (vi sv27)), (14, (vi sv53)), (127, (AV.d (eL TApiBalance.e rv20.1.Balances))), (128, (vi (rv20.1.Balances.length : Int))), (129, (vi (iv54 : Int))), (130, (vb (decide ((iv54 : Int) < (rv20.1.Balances.length : Int)))))] (by kernel_rfl) ?_)
                  refine aws_seq (aws_cond (b := (decide ((iv54 : Int) < (rv20.1.Balances.length : Int)))) (by kernel_rfl) (fun hbv55 => ?_) (fun hbv55 => absurd (hbv55.symm.trans (decide_eq_true (by omega))) Bool.false_ne_true))
                  refine aws_skip (aws_seq ?_)
                  obtain ⟨ov56, hxv57, h⟩ := bind_some' h
                  refine aws_blockS (E := (fun (sv58 : Int) => [(7, (vp 2)), (9, (vp 3)), (11, (vp 4)), (13, (vi sv27)), (14, (vi sv58)), (127, (AV.d (eL TApiBalance.e rv20.1.Balances))), (128, (vi (rv20.1.Balances.length : Int))), (129, (vi (iv54 : Int)))])) (LE := (fun (_ : Int) => [(bx (TTreasuryplaySrc.e sv9.1)), (bx (TApiLedger.e sv9.2.1)), (bx (TApiWhole.e rv18.1)), (bx (TApiWhole.e rv20.1)), (bx (TApiWhole.e rv22.1))])) (fun s => s = ov56) ?_ (fun _ => Nat.le_of_ble_eq_true (by kernel_rfl)) (fun sv58 hq => ?_)
                  · refine aws_seq (gR [] [(7, (vp 2)), (9, (vp 3)), (11, (vp 4)), (13, (vi sv27)), (14, (vi sv53)), (20, (vp 5)), (127, (AV.d (eL TApiBalance.e rv20.1.Balances))), (128, (vi (rv20.1.Balances.length : Int))), (129, (vi (iv54 : Int)))] [(bx (TTreasuryplaySrc.e sv9.1)), (bx (TApiLedger.e sv9.2.1)), (bx (TApiWhole.e rv18.1)), (bx (TApiWhole.e rv20.1)), (bx (TApiWhole.e rv22.1)), (bx (TApiBalance.e (rv20.1.Balances.getD iv54 default)))] [(0 : Int) ≤ (iv54 : Int), iv54 < rv20.1.Balances.length] (by kernel_rfl) (And.intro (Int.natCast_nonneg _) (And.intro hi trivial)) ?_)
                    refine aws_seq (gT [] [(7, (vp 2)), (9, (vp 3)), (11, (vp 4)), (13, (vi sv27)), (14, (vi sv53)), (20, (vp 5)), (127, (AV.d (eL TApiBalance.e rv20.1.Balances))), (128, (vi (rv20.1.Balances.length : Int))), (129, (vi (iv54 : Int))), (136, (vb (((rv20.1.Balances.getD iv54 default).Account) == sv27)))] (by kernel_rfl) ?_)
                    refine aws_cond (b := (((rv20.1.Balances.getD iv54 default).Account) == sv27)) (by kernel_rfl) (fun hbv59 => ?_) (fun hbv59 => ?_)
                    · replace hxv57 := iteT hbv59 hxv57
                      refine gT [] [(7, (vp 2)), (9, (vp 3)), (11, (vp 4)), (13, (vi sv27)), (14, (vi (IntKind.i64.wrap (sv53 - ((rv20.1.Balances.getD iv54 default).Amount))))), (127, (AV.d (eL TApiBalance.e rv20.1.Balances))), (128, (vi (rv20.1.Balances.length : Int))), (129, (vi (iv54 : Int)))] (by kernel_rfl) ?_
                      refine aws_nil ?_
                      obtain rfl := Option.some.inj hxv57
                      exact ⟨_, rfl, ⟨(fA (by kernel_rfl)), .inr ⟨⟨[(bx (TApiBalance.e (rv20.1.Balances.getD iv54 default)))], rfl, lsOk (And.intro rfl (And.intro rfl (And.intro rfl (And.intro rfl (And.intro rfl trivial)))))⟩, List.all_eq_true.1 (by kernel_rfl)⟩⟩⟩
                    · replace hxv57 := iteF hbv59 hxv57
                      refine aws_skip (aws_nil ?_)
                      obtain rfl := Option.some.inj hxv57
                      exact ⟨_, rfl, ⟨(fA (by kernel_rfl)), .inr ⟨⟨[(bx (TApiBalance.e (rv20.1.Balances.getD iv54 default)))], rfl, lsOk (And.intro rfl (And.intro rfl (And.intro rfl (And.intro rfl (And.intro rfl trivial)))))⟩, List.all_eq_true.1 (by kernel_rfl)⟩⟩⟩
                  · subst hq
                    refine gT [] [(7, (vp 2)), (9, (vp 3)), (11, (vp 4)), (13, (vi sv27)), (14, (vi sv58)), (127, (AV.d (eL TApiBalance.e rv20.1.Balances))), (128, (vi (rv20.1.Balances.length : Int))), (129, (vi (IntKind.i64.wrap ((iv54 : Int) + 1))))] (by kernel_rfl) ?_
                    refine aws_nil ?_
                    obtain rfl := Option.some.inj h
                    exact ⟨_, rfl, ⟨(fq 0 rfl (fq 1 rfl (fq 2 rfl (fq 3 rfl (fq 4 rfl (fq 5 rfl (fq 6 rfl (frLe_at (k := 7) rfl (LeV.of_eq (congrArg (fun n => AV.d (DV.i .i64 n)) (wrap_succ (by omega)))) frLe_nil)))))))), .inl rfl⟩⟩
                · refine aws_seq (gT [] [(7, (vp 2)), (9, (vp 3)), (11, (vp 4)), (13, (vi sv27)), (14, (vi sv53)), (127, (AV.d (eL TApiBalance.e rv20.1.Balances))), (128, (vi (rv20.1.Balances.length : Int))), (129, (vi ((rv20.1.Balances.length : Nat) : Int))), (130, (vb (decide (((rv20.1.Balances.length : Nat) : Int) < (rv20.1.Balances.length : Int)))))] (by kernel_rfl) ?_)
                  refine aws_seq (aws_cond (b := (decide (((rv20.1.Balances.length : Nat) : Int) < (rv20.1.Balances.length : Int)))) (by kernel_rfl) (fun hbv60 => absurd hbv60 (Bool.eq_false_iff.mp (decide_eq_false (by omega)))) (fun hbv60 => ?_))
                  refine aws_exit ?_
                  exact ⟨rfl, _, rfl, ⟨(fA (by kernel_rfl)), .inl rfl⟩⟩
                · subst e
                  exact nomatch (show (none : Option _) = some _ from hxv30)
                · subst e
                  refine aws_seq (gT [] [(7, (vp 2)), (9, (vp 3)), (11, (vp 4)), (13, (vi sv27)), (143, (vb (sv53 != 0)))] (by kernel_rfl) ?_)
                  refine aws_cond (b := (sv53 != 0)) (by kernel_rfl) (fun hbv61 => ?_) (fun hbv61 => ?_)
                  · replace hxv30 := iteT hbv61 hxv30
                    refine aws_seq (gT [] [(2, (vb false))] (by kernel_rfl) ?_)
                    refine aws_ret ?_
                    obtain rfl := Option.some.inj hxv30
                    obtain rfl := Option.some.inj h
                    exact ⟨_, rfl, ⟨_, [], [(bx (TTreasuryplaySrc.e sv9.1)), (bx (TApiLedger.e sv9.2.1)), (bx (TApiWhole.e rv18.1)), (bx (TApiWhole.e rv20.1)), (bx (TApiWhole.e rv22.1))], by kernel_rfl, trivial, (LeV.refl _), rfl⟩⟩
                  · replace hxv30 := iteF hbv61 hxv30
                    refine aws_skip (aws_nil ?_)
                    obtain rfl := Option.some.inj hxv30
                    exact ⟨_, rfl, ⟨(fA (by kernel_rfl)), .inl rfl⟩⟩
          · subst hq
            refine gT [] [(7, (vp 2)), (9, (vp 3)), (11, (vp 4)), (13, (vi (IntKind.i64.wrap (sv27 + 1))))] (by kernel_rfl) ?_
            refine aws_nil ?_
            obtain rfl := Option.some.inj h
            exact ⟨_, rfl, ⟨(fA (by kernel_rfl)), .inl rfl⟩⟩
        · replace h := iteF hbv28 h
          refine aws_exit ?_
          obtain rfl := Option.some.inj h
          exact ⟨rfl, _, rfl, ⟨frLe_nil, .inl rfl⟩⟩
      · subst e
        obtain rfl := Option.some.inj h
        exact ⟨.inr rfl, hr⟩
      · subst e
        refine aws_seq ?_
        obtain ⟨rv62, hrv63, h⟩ := bind_some' h
        refine gS [(0, { h := .callq (vb rv62) })] [(2, (vb rv62))] [_] (by kernel_rfl) (And.intro ((F13_ok hrv63).pu (fun _ => rfl) (fun _ => rfl)) trivial) ?_
        refine aws_ret ?_
        obtain rfl := Option.some.inj h
        exact ⟨.inr rfl, ⟨_, [], [(bx (TTreasuryplaySrc.e sv9.1)), (bx (TApiLedger.e sv9.2.1)), (bx (TApiWhole.e rv18.1)), (bx (TApiWhole.e rv20.1)), (bx (TApiWhole.e rv22.1))], by kernel_rfl, trivial, (LeV.refl _), rfl⟩⟩

/-! 29 -/
theorem F29_ok {a0 : TApiLedger} {a1 : Int} {a2 : Int} {a3 : Int} {a4 : Int} {r : R29} (h : F29 a0 a1 a2 a3 a4 = some r) : CallOk Try.prog 29 [(AV.d (TApiLedger.e a0)), (vi a1), (vi a2), (vi a3), (vi a4)] [] (V29 r) (L29 r) := by
  refine gF Try.func29 rfl (by kernel_rfl) trivial ?_
  unfold F29 at h
  refine aws_seq (gR [] [(1, (vi a1)), (2, (vi a2)), (3, (vi a3)), (4, (vi a4)), (5, (vp 0))] [(bx (TApiLedger.e a0))] [] (by kernel_rfl) trivial ?_)
  refine aws_seq ?_
  obtain ⟨rv1, hrv2, h⟩ := bind_some' h
  refine gR [(2, { h := .callw (AV.map 2) [] [Ob.dead, (eM TConsolidationSpot.e (DV.i .i64) rv1)] }), (7, { h := .callr (vi (mget rv1 (⟨140, a1, a2, a3⟩ : TConsolidationSpot) 0)) })] [(10, (vi (mget rv1 (⟨140, a1, a2, a3⟩ : TConsolidationSpot) 0)))] [(bx (TApiLedger.e a0)), Ob.dead, (eM TConsolidationSpot.e (DV.i .i64) rv1)] [CallOk Try.prog 55 [(AV.d (TApiLedger.e a0)), (vi a4)] [(bx (TApiLedger.e a0))] (AV.map 2) [(bx (TApiLedger.e a0)), Ob.dead, (eM TConsolidationSpot.e (DV.i .i64) rv1)], LookOk Try.prog [(bx (TApiLedger.e a0)), Ob.dead, (eM TConsolidationSpot.e (DV.i .i64) rv1)] 89 (AV.map 2) (AV.d (TConsolidationSpot.e (⟨140, a1, a2, a3⟩ : TConsolidationSpot))) false (vi (mget rv1 (⟨140, a1, a2, a3⟩ : TConsolidationSpot) 0))] (by kernel_rfl) (And.intro ((F55_ok hrv2).ca [] (by kernel_rfl)) (And.intro (look_ok (kt := 92) (et := 3) (eK := TConsolidationSpot.e) (eV := (DV.i .i64)) (l := rv1) (k := (⟨140, a1, a2, a3⟩ : TConsolidationSpot)) (z := 0) (by kernel_rfl) rfl keyEq92 (by kernel_rfl)) trivial)) ?_
  refine aws_ret ?_
  obtain rfl := Option.some.inj h
  exact ⟨.inr rfl, ⟨_, [], [(bx (TApiLedger.e a0)), Ob.dead, (eM TConsolidationSpot.e (DV.i .i64) rv1)], by kernel_rfl, trivial, (LeV.refl _), rfl⟩⟩

/-! 31 -/
theorem F31_ok {a0 : TApiLedger} {a1 : Int} {a2 : Int} {a3 : Int} {a4 : Int} {r : R31} (h : F31 a0 a1 a2 a3 a4 = some r) : CallOk Try.prog 31 [(AV.d (TApiLedger.e a0)), (vi a1), (vi a2), (vi a3), (vi a4)] [] (V31 r) (L31 r) := by
  refine gF Try.func31 rfl (by kernel_rfl) trivial ?_
  unfold F31 at h
  refine aws_seq (gR [] [(1, (vi a1)), (2, (vi a2)), (3, (vi a3)), (4, (vi a4)), (5, (vp 0))] [(bx (TApiLedger.e a0))] [] (by kernel_rfl) trivial ?_)
  refine aws_seq ?_
  obtain ⟨rv1, hrv2, h⟩ := bind_some' h
  refine gR [(2, { h := .callw (AV.map 2) [] [Ob.dead, (eM TConsolidationSpot.e (DV.i .i64) rv1)] }), (7, { h := .callr (vi (mget rv1 (⟨240, a1, a2, a3⟩ : TConsolidationSpot) 0)) })] [(10, (vi (IntKind.i64.wrap (0 - (mget rv1 (⟨240, a1, a2, a3⟩ : TConsolidationSpot) 0)))))] [(bx (TApiLedger.e a0)), Ob.dead, (eM TConsolidationSpot.e (DV.i .i64) rv1)] [CallOk Try.prog 55 [(AV.d (TApiLedger.e a0)), (vi a4)] [(bx (TApiLedger.e a0))] (AV.map 2) [(bx (TApiLedger.e a0)), Ob.dead, (eM TConsolidationSpot.e (DV.i .i64) rv1)], LookOk Try.prog [(bx (TApiLedger.e a0)), Ob.dead, (eM TConsolidationSpot.e (DV.i .i64) rv1)] 89 (AV.map 2) (AV.d (TConsolidationSpot.e (⟨240, a1, a2, a3⟩ : TConsolidationSpot))) false (vi (mget rv1 (⟨240, a1, a2, a3⟩ : TConsolidationSpot) 0))] (by kernel_rfl) (And.intro ((F55_ok hrv2).ca [] (by kernel_rfl)) (And.intro (look_ok (kt := 92) (et := 3) (eK := TConsolidationSpot.e) (eV := (DV.i .i64)) (l := rv1) (k := (⟨240, a1, a2, a3⟩ : TConsolidationSpot)) (z := 0) (by kernel_rfl) rfl keyEq92 (by kernel_rfl)) trivial)) ?_
  refine aws_ret ?_
  obtain rfl := Option.some.inj h
  exact ⟨.inr rfl, ⟨_, [], [(bx (TApiLedger.e a0)), Ob.dead, (eM TConsolidationSpot.e (DV.i .i64) rv1)], by kernel_rfl, trivial, (LeV.refl _), rfl⟩⟩

/-! 33 -/
theorem F33_ok {a0 : TApiLedger} {a1 : Int} {a2 : Int} {a3 : Int} {a4 : Int} {r : R33} (h : F33 a0 a1 a2 a3 a4 = some r) : CallOk Try.prog 33 [(AV.d (TApiLedger.e a0)), (vi a1), (vi a2), (vi a3), (vi a4)] [] (V33 r) (L33 r) := by
  refine gF Try.func33 rfl (by kernel_rfl) trivial ?_
  unfold F33 at h
  refine aws_seq (gR [] [(1, (vi a1)), (2, (vi a2)), (3, (vi a3)), (4, (vi a4)), (5, (vp 0))] [(bx (TApiLedger.e a0))] [] (by kernel_rfl) trivial ?_)
  refine aws_seq ?_
  obtain ⟨rv1, hrv2, h⟩ := bind_some' h
  refine gR [(2, { h := .callw (AV.map 2) [] [Ob.dead, (eM TConsolidationSpot.e (DV.i .i64) rv1)] }), (7, { h := .callr (vi (mget rv1 (⟨440, a1, a2, a3⟩ : TConsolidationSpot) 0)) })] [(10, (vi (IntKind.i64.wrap (0 - (mget rv1 (⟨440, a1, a2, a3⟩ : TConsolidationSpot) 0)))))] [(bx (TApiLedger.e a0)), Ob.dead, (eM TConsolidationSpot.e (DV.i .i64) rv1)] [CallOk Try.prog 55 [(AV.d (TApiLedger.e a0)), (vi a4)] [(bx (TApiLedger.e a0))] (AV.map 2) [(bx (TApiLedger.e a0)), Ob.dead, (eM TConsolidationSpot.e (DV.i .i64) rv1)], LookOk Try.prog [(bx (TApiLedger.e a0)), Ob.dead, (eM TConsolidationSpot.e (DV.i .i64) rv1)] 89 (AV.map 2) (AV.d (TConsolidationSpot.e (⟨440, a1, a2, a3⟩ : TConsolidationSpot))) false (vi (mget rv1 (⟨440, a1, a2, a3⟩ : TConsolidationSpot) 0))] (by kernel_rfl) (And.intro ((F55_ok hrv2).ca [] (by kernel_rfl)) (And.intro (look_ok (kt := 92) (et := 3) (eK := TConsolidationSpot.e) (eV := (DV.i .i64)) (l := rv1) (k := (⟨440, a1, a2, a3⟩ : TConsolidationSpot)) (z := 0) (by kernel_rfl) rfl keyEq92 (by kernel_rfl)) trivial)) ?_
  refine aws_ret ?_
  obtain rfl := Option.some.inj h
  exact ⟨.inr rfl, ⟨_, [], [(bx (TApiLedger.e a0)), Ob.dead, (eM TConsolidationSpot.e (DV.i .i64) rv1)], by kernel_rfl, trivial, (LeV.refl _), rfl⟩⟩

/-! 35 -/
theorem F35_ok {a0 : TApiLedger} {a1 : Int} {a2 : Int} {a3 : Int} {a4 : Int} {r : R35} (h : F35 a0 a1 a2 a3 a4 = some r) : CallOk Try.prog 35 [(AV.d (TApiLedger.e a0)), (vi a1), (vi a2), (vi a3), (vi a4)] [] (V35 r) (L35 r) := by
  refine gF Try.func35 rfl (by kernel_rfl) trivial ?_
  unfold F35 at h
  refine aws_seq (gR [] [(1, (vi a1)), (2, (vi a2)), (3, (vi a3)), (4, (vi a4)), (5, (vp 0))] [(bx (TApiLedger.e a0))] [] (by kernel_rfl) trivial ?_)
  refine aws_seq ?_
  obtain ⟨rv1, hrv2, h⟩ := bind_some' h
  refine gR [(2, { h := .callw (AV.map 2) [] [Ob.dead, (eM TConsolidationSpot.e (DV.i .i64) rv1)] }), (7, { h := .callr (vi (mget rv1 (⟨540, a1, a2, a3⟩ : TConsolidationSpot) 0)) })] [(10, (vi (mget rv1 (⟨540, a1, a2, a3⟩ : TConsolidationSpot) 0)))] [(bx (TApiLedger.e a0)), Ob.dead, (eM TConsolidationSpot.e (DV.i .i64) rv1)] [CallOk Try.prog 55 [(AV.d (TApiLedger.e a0)), (vi a4)] [(bx (TApiLedger.e a0))] (AV.map 2) [(bx (TApiLedger.e a0)), Ob.dead, (eM TConsolidationSpot.e (DV.i .i64) rv1)], LookOk Try.prog [(bx (TApiLedger.e a0)), Ob.dead, (eM TConsolidationSpot.e (DV.i .i64) rv1)] 89 (AV.map 2) (AV.d (TConsolidationSpot.e (⟨540, a1, a2, a3⟩ : TConsolidationSpot))) false (vi (mget rv1 (⟨540, a1, a2, a3⟩ : TConsolidationSpot) 0))] (by kernel_rfl) (And.intro ((F55_ok hrv2).ca [] (by kernel_rfl)) (And.intro (look_ok (kt := 92) (et := 3) (eK := TConsolidationSpot.e) (eV := (DV.i .i64)) (l := rv1) (k := (⟨540, a1, a2, a3⟩ : TConsolidationSpot)) (z := 0) (by kernel_rfl) rfl keyEq92 (by kernel_rfl)) trivial)) ?_
  refine aws_ret ?_
  obtain rfl := Option.some.inj h
  exact ⟨.inr rfl, ⟨_, [], [(bx (TApiLedger.e a0)), Ob.dead, (eM TConsolidationSpot.e (DV.i .i64) rv1)], by kernel_rfl, trivial, (LeV.refl _), rfl⟩⟩

/-! 8 -/
theorem F8_ok {a0 : (List Int)} {r : R8} (h : F8 a0 = some r) : CallOk Try.prog 8 [(vl a0)] [] (V8 r) (L8 r) := by
  refine gF Try.func8 rfl (by kernel_rfl) trivial ?_
  unfold F8 at h
  refine aws_seq (gT [] [(0, (vl a0))] (by kernel_rfl) ?_)
  refine aws_seq ?_
  obtain ⟨rv1, hrv2, h⟩ := bind_some' h
  refine gR [(1, { h := .callw (vp 0) [] [(bx (TTreasuryplaySrc.e rv1))] })] [(3, (vp 0))] [(bx (TTreasuryplaySrc.e rv1))] [CallOk Try.prog 9 [(vl a0)] [] (vp 0) [(bx (TTreasuryplaySrc.e rv1))]] (by kernel_rfl) (And.intro ((F9_ok hrv2).ca [] (by kernel_rfl)) trivial) ?_
  refine aws_seq ?_
  obtain ⟨rv3, hrv4, h⟩ := bind_some' h
  refine gR [(1, { h := .callw (AV.d (TApiLedger.e rv3.1)) [(0, (bx (TTreasuryplaySrc.e rv3.2)))] [] }), (2, { obs := [(1, (bx (TApiLedger.e (⟨[]⟩ : TApiLedger))))] })] [(4, (vp 1))] [(bx (TTreasuryplaySrc.e rv3.2)), (bx (TApiLedger.e rv3.1))] [CallOk Try.prog 10 [(vp 0), (vi 12), (vi 3), (vi 60)] [(bx (TTreasuryplaySrc.e rv1))] (AV.d (TApiLedger.e rv3.1)) [(bx (TTreasuryplaySrc.e rv3.2))], OLe (bx (DV.agg [(DV.sl 0 fun _ => DV.b false)])) (bx (TApiLedger.e (⟨[]⟩ : TApiLedger)))] (by kernel_rfl) (And.intro ((F10_ok hrv4).ca [0] (by kernel_rfl)) (And.intro (oLe_box (DLe.agg (DLeL.cons DLe.sl0 DLeL.nil))) trivial)) ?_
  refine aws_seq ?_
  obtain ⟨rv5, hrv6, h⟩ := bind_some' h
  refine gS [(1, { cast := some (vl ([1, 2, 3] : List Int)) }), (2, { h := .callq (AV.tup [(AV.d (eL TApiDifference.e rv5.1)), (vi rv5.2)]) })] [(4, (vp 1)), (5, (AV.d (eL TApiDifference.e rv5.1))), (6, (vi rv5.2))] [LeV (AV.d (DV.sl 3 (listF (DV.b false) [(DV.i .i64 1), (DV.i .i64 2), (DV.i .i64 3)]))) (vl ([1, 2, 3] : List Int)), _] (by kernel_rfl) (And.intro (leV_lit (DV.i .i64) ([1, 2, 3] : List Int)) (And.intro ((F17_ok hrv6).pu (fun _ => rfl) (fun _ => rfl)) trivial)) ?_
  refine aws_seq (aws_seq (gT [] [(4, (vp 1)), (5, (AV.d (eL TApiDifference.e rv5.1))), (26, (vb (rv5.2 != 0)))] (by kernel_rfl) ?_))
  refine aws_cond (b := (rv5.2 != 0)) (by kernel_rfl) (fun hbv7 => ?_) (fun hbv7 => ?_)
  · replace h := iteT hbv7 h
    refine aws_seq (gT [] [(2, (vb false))] (by kernel_rfl) ?_)
    refine aws_ret ?_
    obtain rfl := Option.some.inj h
    exact ⟨.inr rfl, ⟨_, [], [(bx (TTreasuryplaySrc.e rv3.2)), (bx (TApiLedger.e rv3.1))], by kernel_rfl, trivial, (LeV.refl _), rfl⟩⟩
  · replace h := iteF hbv7 h
    refine aws_skip (aws_seq (gT [] [(4, (vp 1)), (5, (AV.d (eL TApiDifference.e rv5.1))), (7, (vi 0))] (by kernel_rfl) ?_))
    refine aws_seq (aws_seq (gT [] [(4, (vp 1)), (5, (AV.d (eL TApiDifference.e rv5.1))), (7, (vi 0)), (8, (vi 1))] (by kernel_rfl) ?_))
    obtain ⟨ov8, hxv9, h⟩ := outM_some h
    refine aws_loop (E := (fun (sv10 : Int × Int) => [(7, (vi sv10.1))])) (LE := (fun (_ : Int × Int) => [(bx (TTreasuryplaySrc.e rv3.2)), (bx (TApiLedger.e rv3.1))])) (R := (fun x => FR Try.prog Try.f8 (V8 x) (L8 x))) (aw_iter (m := 2) (I := (fun (sv10 : Int × Int) => [(4, (vp 1)), (5, (AV.d (eL TApiDifference.e rv5.1))), (7, (vi sv10.1)), (8, (vi sv10.2))])) (LI := (fun (_ : Int × Int) => [(bx (TTreasuryplaySrc.e rv3.2)), (bx (TApiLedger.e rv3.1))])) (step := F8_b4 rv3 rv5) (fun sv10 _ h => aw_of ?_) (fun _ => rfl) hxv9 ⟨(fA (by kernel_rfl)), .inl rfl⟩ (Nat.le_of_ble_eq_true (by kernel_rfl))) (fun _ => Nat.le_of_ble_eq_true (by kernel_rfl)) (fun x fr L e hr => ?_) (fun sv10 e => ?_)
    · unfold F8_b4 at h
      refine aws_seq (aws_seq (gT [] [(4, (vp 1)), (5, (AV.d (eL TApiDifference.e rv5.1))), (7, (vi sv10.1)), (8, (vi sv10.2)), (28, (vb (decide (sv10.2 ≤ 3))))] (by kernel_rfl) ?_))
      refine aws_cond (b := (decide (sv10.2 ≤ 3))) (by kernel_rfl) (fun hbv11 => ?_) (fun hbv11 => ?_)
      · replace h := iteT hbv11 h
        refine aws_skip (aws_seq ?_)
        obtain ⟨ov12, hxv13, h⟩ := outM_some h
        refine aws_blockS (E := (fun (sv14 : Int) => [(4, (vp 1)), (5, (AV.d (eL TApiDifference.e rv5.1))), (7, (vi sv14)), (8, (vi sv10.2))])) (LE := (fun (_ : Int) => [(bx (TTreasuryplaySrc.e rv3.2)), (bx (TApiLedger.e rv3.1))])) (fun s => ov12 = .next s) ?_ (fun _ => Nat.le_of_ble_eq_true (by kernel_rfl)) (fun sv14 hq => ?_)
        · refine aws_seq (gT [] [(4, (vp 1)), (5, (AV.d (eL TApiDifference.e rv5.1))), (7, (vi sv10.1)), (8, (vi sv10.2)), (9, (vi 1))] (by kernel_rfl) ?_)
          obtain ⟨ov15, hxv16, hxv13⟩ := outM_some hxv13
          refine aws_loop (E := (fun (sv17 : Int × Int) => [(4, (vp 1)), (5, (AV.d (eL TApiDifference.e rv5.1))), (7, (vi sv17.1)), (8, (vi sv10.2))])) (LE := (fun (_ : Int × Int) => [(bx (TTreasuryplaySrc.e rv3.2)), (bx (TApiLedger.e rv3.1))])) (R := (fun x => FR Try.prog Try.f8 (V8 x) (L8 x))) (aw_iter (m := 2) (I := (fun (sv17 : Int × Int) => [(4, (vp 1)), (5, (AV.d (eL TApiDifference.e rv5.1))), (7, (vi sv17.1)), (8, (vi sv10.2)), (9, (vi sv17.2))])) (LI := (fun (_ : Int × Int) => [(bx (TTreasuryplaySrc.e rv3.2)), (bx (TApiLedger.e rv3.1))])) (step := F8_b3 rv3 rv5 sv10) (fun sv17 _ h => aw_of ?_) (fun _ => rfl) hxv16 ⟨(fA (by kernel_rfl)), .inl rfl⟩ (Nat.le_of_ble_eq_true (by kernel_rfl))) (fun _ => Nat.le_of_ble_eq_true (by kernel_rfl)) (fun x fr L e hr => ?_) (fun _ e => ?_)
          · unfold F8_b3 at h
            refine aws_seq (aws_seq (gT [] [(4, (vp 1)), (5, (AV.d (eL TApiDifference.e rv5.1))), (7, (vi sv17.1)), (8, (vi sv10.2)), (9, (vi sv17.2)), (32, (vb (decide (sv17.2 ≤ 3))))] (by kernel_rfl) ?_))
            refine aws_cond (b := (decide (sv17.2 ≤ 3))) (by kernel_rfl) (fun hbv18 => ?_) (fun hbv18 => ?_)
            · replace h := iteT hbv18 h
              refine aws_skip (aws_seq ?_)
              obtain ⟨ov19, hxv20, h⟩ := outM_some h
              refine aws_blockS (E := (fun (sv21 : Int) => [(4, (vp 1)), (5, (AV.d (eL TApiDifference.e rv5.1))), (7, (vi sv21)), (8, (vi sv10.2)), (9, (vi sv17.2))])) (LE := (fun (_ : Int) => [(bx (TTreasuryplaySrc.e rv3.2)), (bx (TApiLedger.e rv3.1))])) (fun s => ov19 = .next s) ?_ (fun _ => Nat.le_of_ble_eq_true (by kernel_rfl)) (fun sv21 hq => ?_)
              · refine aws_seq (gT [] [(4, (vp 1)), (5, (AV.d (eL TApiDifference.e rv5.1))), (7, (vi sv17.1)), (8, (vi sv10.2)), (9, (vi sv17.2)), (10, (vi 0))] (by kernel_rfl) ?_)
                obtain ⟨ov22, hxv23, hxv20⟩ := outM_some hxv20
                refine aws_loop (E := (fun (sv24 : Int × Int) => [(4, (vp 1)), (5, (AV.d (eL TApiDifference.e rv5.1))), (7, (vi sv24.1)), (8, (vi sv10.2)), (9, (vi sv17.2))])) (LE := (fun (_ : Int × Int) => [(bx (TTreasuryplaySrc.e rv3.2)), (bx (TApiLedger.e rv3.1))])) (R := (fun x => FR Try.prog Try.f8 (V8 x) (L8 x))) (aw_iter (m := 2) (I := (fun (sv24 : Int × Int) => [(4, (vp 1)), (5, (AV.d (eL TApiDifference.e rv5.1))), (7, (vi sv24.1)), (8, (vi sv10.2)), (9, (vi sv17.2)), (10, (vi sv24.2))])) (LI := (fun (_ : Int × Int) => [(bx (TTreasuryplaySrc.e rv3.2)), (bx (TApiLedger.e rv3.1))])) (step := F8_b2 rv3 rv5 sv10 sv17) (fun sv24 _ h => aw_of ?_) (fun _ => rfl) hxv23 ⟨(fA (by kernel_rfl)), .inl rfl⟩ (Nat.le_of_ble_eq_true (by kernel_rfl))) (fun _ => Nat.le_of_ble_eq_true (by kernel_rfl)) (fun x fr L e hr => ?_) (fun _ e => ?_)
                · unfold F8_b2 at h
                  refine aws_seq (aws_seq (gT [] [(4, (vp 1)), (5, (AV.d (eL TApiDifference.e rv5.1))), (7, (vi sv24.1)), (8, (vi sv10.2)), (9, (vi sv17.2)), (10, (vi sv24.2)), (41, (vb (bif (decide (sv24.2 ≤ 3)) then (sv10.2 != sv17.2) else false)))] (by kernel_rfl) ?_))
                  refine aws_cond (b := (bif (decide (sv24.2 ≤ 3)) then (sv10.2 != sv17.2) else false)) (by kernel_rfl) (fun hbv25 => ?_) (fun hbv25 => ?_)
                  · replace h := iteT hbv25 h
                    refine aws_skip (aws_seq ?_)
                    obtain ⟨ov26, hxv27, h⟩ := outM_some h
                    refine aws_blockS (E := (fun (sv28 : Int) => [(4, (vp 1)), (5, (AV.d (eL TApiDifference.e rv5.1))), (7, (vi sv28)), (8, (vi sv10.2)), (9, (vi sv17.2)), (10, (vi sv24.2))])) (LE := (fun (_ : Int) => [(bx (TTreasuryplaySrc.e rv3.2)), (bx (TApiLedger.e rv3.1))])) (fun s => ov26 = .next s) ?_ (fun _ => Nat.le_of_ble_eq_true (by kernel_rfl)) (fun sv28 hq => ?_)
                    · refine aws_seq ?_
                      obtain ⟨rv29, hrv30, hxv27⟩ := bind_some' hxv27
                      obtain ⟨rv31, hrv32, hxv27⟩ := bind_some' hxv27
                      refine gD ⟨[[], [], [], [], [3, 2, 1, 0], [], [], [], [], [8, 7, 6, 5, 4, 3, 2, 1, 0], [9, 8, 7, 6, 5, 4, 3, 2, 1, 0], [10, 9, 8, 7, 6, 5, 4, 3, 2, 1, 0]], []⟩ [(4, { h := .callq (vi rv29) }), (9, { h := .callq (vi rv31) })] [(4, (vp 1)), (5, (AV.d (eL TApiDifference.e rv5.1))), (7, (vi sv24.1)), (8, (vi sv10.2)), (9, (vi sv17.2)), (10, (vi sv24.2)), (11, (vi (IntKind.i64.wrap (rv29 - rv31))))] [(bx (TTreasuryplaySrc.e rv3.2)), (bx (TApiLedger.e rv3.1))] [_, _] (by kernel_rfl) (by kernel_rfl) (by kernel_rfl) (And.intro ((F29_ok hrv30).pu (fun _ => rfl) (fun _ => rfl)) (And.intro ((F31_ok hrv32).pu (fun _ => rfl) (fun _ => rfl)) trivial)) ?_
                      refine aws_seq ?_
                      obtain ⟨rv33, hrv34, hxv27⟩ := bind_some' hxv27
                      obtain ⟨rv35, hrv36, hxv27⟩ := bind_some' hxv27
                      refine gD ⟨[[], [], [], [], [3, 2, 1, 0], [], [], [], [], [8, 7, 6, 5, 4, 3, 2, 1, 0], [9, 8, 7, 6, 5, 4, 3, 2, 1, 0], [10, 9, 8, 7, 6, 5, 4, 3, 2, 1, 0]], []⟩ [(4, { h := .callq (vi rv33) }), (9, { h := .callq (vi rv35) })] [(4, (vp 1)), (5, (AV.d (eL TApiDifference.e rv5.1))), (7, (vi sv24.1)), (8, (vi sv10.2)), (9, (vi sv17.2)), (10, (vi sv24.2)), (11, (vi (IntKind.i64.wrap (rv29 - rv31)))), (12, (vi (IntKind.i64.wrap (rv33 - rv35))))] [(bx (TTreasuryplaySrc.e rv3.2)), (bx (TApiLedger.e rv3.1))] [_, _] (by kernel_rfl) (by kernel_rfl) (by kernel_rfl) (And.intro ((F33_ok hrv34).pu (fun _ => rfl) (fun _ => rfl)) (And.intro ((F35_ok hrv36).pu (fun _ => rfl) (fun _ => rfl)) trivial)) ?_
                      refine aws_seq (aws_seq (gT [] [(4, (vp 1)), (5, (AV.d (eL TApiDifference.e rv5.1))), (7, (vi sv24.1)), (8, (vi sv10.2)), (9, (vi sv17.2)), (10, (vi sv24.2)), (11, (vi (IntKind.i64.wrap (rv29 - rv31)))), (12, (vi (IntKind.i64.wrap (rv33 - rv35)))), (66, (AV.d (eL TApiDifference.e rv5.1))), (67, (vi (rv5.1.length : Int))), (68, (vi 0))] (by kernel_rfl) ?_))
                      obtain ⟨ov37, hxv38, hxv27⟩ := outM_some hxv27
                      refine aws_lenL (k := 1) (t := 5) (e := TApiDifference.e) (l := rv5.1) rfl (by simp) (fun hn => ?_)
                      refine aws_loop (E := (fun (sv39 : Int) => [(4, (vp 1)), (5, (AV.d (eL TApiDifference.e rv5.1))), (7, (vi sv39)), (8, (vi sv10.2)), (9, (vi sv17.2)), (10, (vi sv24.2)), (11, (vi (IntKind.i64.wrap (rv29 - rv31)))), (12, (vi (IntKind.i64.wrap (rv33 - rv35))))])) (LE := (fun (_ : Int) => [(bx (TTreasuryplaySrc.e rv3.2)), (bx (TApiLedger.e rv3.1))])) (R := (fun x => FR Try.prog Try.f8 (V8 x) (L8 x))) (aw_range (n := rv5.1.length) (m := 2) (I := (fun (iv40 : Nat) (sv39 : Int) => [(4, (vp 1)), (5, (AV.d (eL TApiDifference.e rv5.1))), (7, (vi sv39)), (8, (vi sv10.2)), (9, (vi sv17.2)), (10, (vi sv24.2)), (11, (vi (IntKind.i64.wrap (rv29 - rv31)))), (12, (vi (IntKind.i64.wrap (rv33 - rv35)))), (66, (AV.d (eL TApiDifference.e rv5.1))), (67, (vi (rv5.1.length : Int))), (68, (vi (iv40 : Int)))])) (LI := (fun (_ : Nat) => (fun (_ : Int) => [(bx (TTreasuryplaySrc.e rv3.2)), (bx (TApiLedger.e rv3.1))]))) (body := F8_b1 rv5 sv10 sv17 sv24 rv29 rv31 rv33 rv35) (fun iv40 sv39 _ hi h => aw_of ?_) (fun sv39 => aw_of ?_) (fun _ _ => rfl) (Nat.zero_add _) hxv38 ⟨(fA (by kernel_rfl)), .inl rfl⟩ (Nat.le_of_ble_eq_true (by kernel_rfl))) (fun _ => Nat.le_of_ble_eq_true (by kernel_rfl)) (fun x fr L e hr => ?_) (fun sv39 e => ?_)
                      · unfold F8_b1 at h
                        refine aws_seq (gT [] [(4, (vp 1)), (5, (AV.d (eL TApiDifference.e rv5.1))), (7, (vi sv39)), (8, (vi sv10.2)), (9, (vi sv17.2)), (10, (vi sv24.2)), (11, (vi (IntKind.i64.wrap (rv29 - rv31)))), (12, (vi (IntKind.i64.wrap (rv33 - rv35)))), (66, (AV.d (eL TApiDifference.e rv5.1))), (67, (vi (rv5.1.length : Int))), (68, (vi (iv40 : Int))), (69, (vb (decide ((iv40 : Int) < (rv5.1.length : Int)))))] (by kernel_rfl) ?_)
                        refine aws_seq (aws_cond (b := (decide ((iv40 : Int) < (rv5.1.length : Int)))) (by kernel_rfl) (fun hbv41 => ?_) (fun hbv41 => absurd (hbv41.symm.trans (decide_eq_true (by omega))) Bool.false_ne_true))
                        refine aws_skip (aws_seq ?_)
                        obtain ⟨ov42, hxv43, h⟩ := outM_some h
                        refine aws_blockS (E := (fun (sv44 : Int) => [(4, (vp 1)), (5, (AV.d (eL TApiDifference.e rv5.1))), (7, (vi sv44)), (8, (vi sv10.2)), (9, (vi sv17.2)), (10, (vi sv24.2)), (11, (vi (IntKind.i64.wrap (rv29 - rv31)))), (12, (vi (IntKind.i64.wrap (rv33 - rv35)))), (66, (AV.d (eL TApiDifference.e rv5.1))), (67, (vi (rv5.1.length : Int))), (68, (vi (iv40 : Int)))])) (LE := (fun (_ : Int) => [(bx (TTreasuryplaySrc.e rv3.2)), (bx (TApiLedger.e rv3.1))])) (fun s => ov42 = .next s) ?_ (fun _ => Nat.le_of_ble_eq_true (by kernel_rfl)) (fun sv44 hq => ?_)
                        · refine aws_seq (gR [] [(4, (vp 1)), (5, (AV.d (eL TApiDifference.e rv5.1))), (7, (vi sv39)), (8, (vi sv10.2)), (9, (vi sv17.2)), (10, (vi sv24.2)), (11, (vi (IntKind.i64.wrap (rv29 - rv31)))), (12, (vi (IntKind.i64.wrap (rv33 - rv35)))), (14, (vp 2)), (66, (AV.d (eL TApiDifference.e rv5.1))), (67, (vi (rv5.1.length : Int))), (68, (vi (iv40 : Int)))] [(bx (TTreasuryplaySrc.e rv3.2)), (bx (TApiLedger.e rv3.1)), (bx (TApiDifference.e (rv5.1.getD iv40 default)))] [(0 : Int) ≤ (iv40 : Int), iv40 < rv5.1.length] (by kernel_rfl) (And.intro (Int.natCast_nonneg _) (And.intro hi trivial)) ?_)
                          refine aws_seq (aws_seq (gT [] [(4, (vp 1)), (5, (AV.d (eL TApiDifference.e rv5.1))), (7, (vi sv39)), (8, (vi sv10.2)), (9, (vi sv17.2)), (10, (vi sv24.2)), (11, (vi (IntKind.i64.wrap (rv29 - rv31)))), (12, (vi (IntKind.i64.wrap (rv33 - rv35)))), (14, (vp 2)), (66, (AV.d (eL TApiDifference.e rv5.1))), (67, (vi (rv5.1.length : Int))), (68, (vi (iv40 : Int))), (87, (vb (bif (bif (((rv5.1.getD iv40 default).A) != sv10.2) then true else (((rv5.1.getD iv40 default).B) != sv17.2)) then true else (((rv5.1.getD iv40 default).Ref) != sv24.2))))] (by kernel_rfl) ?_))
                          refine aws_cond (b := (bif (bif (((rv5.1.getD iv40 default).A) != sv10.2) then true else (((rv5.1.getD iv40 default).B) != sv17.2)) then true else (((rv5.1.getD iv40 default).Ref) != sv24.2))) (by kernel_rfl) (fun hbv45 => ?_) (fun hbv45 => ?_)
                          · replace hxv43 := iteT hbv45 hxv43
                            refine aws_exit ?_
                            simp only [if_true]
                            obtain rfl := Option.some.inj hxv43
                            exact ⟨_, rfl, ⟨(fA (by kernel_rfl)), .inr ⟨⟨[(bx (TApiDifference.e (rv5.1.getD iv40 default)))], rfl, lsOk (And.intro rfl (And.intro rfl trivial))⟩, List.all_eq_true.1 (by kernel_rfl)⟩⟩⟩
                          · replace hxv43 := iteF hbv45 hxv43
                            refine aws_skip (aws_seq (gT [] [(4, (vp 1)), (5, (AV.d (eL TApiDifference.e rv5.1))), (7, (vi (IntKind.i64.wrap (sv39 + 1)))), (8, (vi sv10.2)), (9, (vi sv17.2)), (10, (vi sv24.2)), (11, (vi (IntKind.i64.wrap (rv29 - rv31)))), (12, (vi (IntKind.i64.wrap (rv33 - rv35)))), (14, (vp 2)), (66, (AV.d (eL TApiDifference.e rv5.1))), (67, (vi (rv5.1.length : Int))), (68, (vi (iv40 : Int)))] (by kernel_rfl) ?_))
                            refine aws_seq (gT [] [(4, (vp 1)), (5, (AV.d (eL TApiDifference.e rv5.1))), (7, (vi (IntKind.i64.wrap (sv39 + 1)))), (8, (vi sv10.2)), (9, (vi sv17.2)), (10, (vi sv24.2)), (11, (vi (IntKind.i64.wrap (rv29 - rv31)))), (12, (vi (IntKind.i64.wrap (rv33 - rv35)))), (66, (AV.d (eL TApiDifference.e rv5.1))), (67, (vi (rv5.1.length : Int))), (68, (vi (iv40 : Int))), (114, (vb (bif (bif (bif (((rv5.1.getD iv40 default).Kind) == 1) then (((rv5.1.getD iv40 default).Amount) != (IntKind.i64.wrap (rv29 - rv31))) else false) then true else (bif (((rv5.1.getD iv40 default).Kind) == 2) then (((rv5.1.getD iv40 default).Amount) != (IntKind.i64.wrap (rv33 - rv35))) else false)) then true else (((rv5.1.getD iv40 default).Amount) == 0))))] (by kernel_rfl) ?_)
                            refine aws_cond (b := (bif (bif (bif (((rv5.1.getD iv40 default).Kind) == 1) then (((rv5.1.getD iv40 default).Amount) != (IntKind.i64.wrap (rv29 - rv31))) else false) then true else (bif (((rv5.1.getD iv40 default).Kind) == 2) then (((rv5.1.getD iv40 default).Amount) != (IntKind.i64.wrap (rv33 - rv35))) else false)) then true else (((rv5.1.getD iv40 default).Amount) == 0))) (by kernel_rfl) (fun hbv46 => ?_) (fun hbv46 => ?_)
                            · replace hxv43 := iteT hbv46 hxv43
                              refine aws_seq (gT [] [(2, (vb false))] (by kernel_rfl) ?_)
                              refine aws_ret ?_
                              obtain rfl := Option.some.inj hxv43
                              obtain rfl := Option.some.inj h
                              exact ⟨_, rfl, ⟨_, [], [(bx (TTreasuryplaySrc.e rv3.2)), (bx (TApiLedger.e rv3.1)), (bx (TApiDifference.e (rv5.1.getD iv40 default)))], by kernel_rfl, trivial, (LeV.refl _), rfl⟩⟩
                            · replace hxv43 := iteF hbv46 hxv43
                              refine aws_skip (aws_nil ?_)
                              obtain rfl := Option.some.inj hxv43
                              exact ⟨_, rfl, ⟨(fA (by kernel_rfl)), .inr ⟨⟨[(bx (TApiDifference.e (rv5.1.getD iv40 default)))], rfl, lsOk (And.intro rfl (And.intro rfl trivial))⟩, List.all_eq_true.1 (by kernel_rfl)⟩⟩⟩
                        · subst hq
                          refine gT [] [(4, (vp 1)), (5, (AV.d (eL TApiDifference.e rv5.1))), (7, (vi sv44)), (8, (vi sv10.2)), (9, (vi sv17.2)), (10, (vi sv24.2)), (11, (vi (IntKind.i64.wrap (rv29 - rv31)))), (12, (vi (IntKind.i64.wrap (rv33 - rv35)))), (66, (AV.d (eL TApiDifference.e rv5.1))), (67, (vi (rv5.1.length : Int))), (68, (vi (IntKind.i64.wrap ((iv40 : Int) + 1))))] (by kernel_rfl) ?_
                          refine aws_nil ?_
                          obtain rfl := Option.some.inj h
                          exact ⟨_, rfl, ⟨(fq 0 rfl (fq 1 rfl (fq 2 rfl (fq 3 rfl (fq 4 rfl (fq 5 rfl (fq 6 rfl (fq 7 rfl (fq 8 rfl (fq 9 rfl (frLe_at (k := 10) rfl (LeV.of_eq (congrArg (fun n => AV.d (DV.i .i64 n)) (wrap_succ (by omega)))) frLe_nil))))))))))), .inl rfl⟩⟩
                      · refine aws_seq (gT [] [(4, (vp 1)), (5, (AV.d (eL TApiDifference.e rv5.1))), (7, (vi sv39)), (8, (vi sv10.2)), (9, (vi sv17.2)), (10, (vi sv24.2)), (11, (vi (IntKind.i64.wrap (rv29 - rv31)))), (12, (vi (IntKind.i64.wrap (rv33 - rv35)))), (66, (AV.d (eL TApiDifference.e rv5.1))), (67, (vi (rv5.1.length : Int))), (68, (vi ((rv5.1.length : Nat) : Int))), (69, (vb (decide (((rv5.1.length : Nat) : Int) < (rv5.1.length : Int)))))] (by kernel_rfl) ?_)
                        refine aws_seq (aws_cond (b := (decide (((rv5.1.length : Nat) : Int) < (rv5.1.length : Int)))) (by kernel_rfl) (fun hbv47 => absurd hbv47 (Bool.eq_false_iff.mp (decide_eq_false (by omega)))) (fun hbv47 => ?_))
                        refine aws_exit ?_
                        exact ⟨rfl, _, rfl, ⟨(fA (by kernel_rfl)), .inl rfl⟩⟩
                      · subst e
                        obtain rfl := Option.some.inj hxv27
                        obtain rfl := Option.some.inj h
                        exact ⟨_, rfl, hr⟩
                      · subst e
                        refine aws_seq (aws_seq (gT [] [(4, (vp 1)), (5, (AV.d (eL TApiDifference.e rv5.1))), (7, (vi sv39)), (8, (vi sv10.2)), (9, (vi sv17.2)), (10, (vi sv24.2)), (12, (vi (IntKind.i64.wrap (rv33 - rv35)))), (117, (vb ((IntKind.i64.wrap (rv29 - rv31)) != 0)))] (by kernel_rfl) ?_))
                        obtain ⟨ov48, hxv49, hxv27⟩ := bind_some' hxv27
                        refine aws_cutS (E := (fun (sv50 : Int) => [(4, (vp 1)), (5, (AV.d (eL TApiDifference.e rv5.1))), (7, (vi sv50)), (8, (vi sv10.2)), (9, (vi sv17.2)), (10, (vi sv24.2)), (12, (vi (IntKind.i64.wrap (rv33 - rv35))))])) (LE := (fun (_ : Int) => [(bx (TTreasuryplaySrc.e rv3.2)), (bx (TApiLedger.e rv3.1))])) (fun s => s = ov48) ?_ (fun _ => Nat.le_of_ble_eq_true (by kernel_rfl)) (fun sv50 hq => ?_)
                        · refine aws_cond (b := ((IntKind.i64.wrap (rv29 - rv31)) != 0)) (by kernel_rfl) (fun hbv51 => ?_) (fun hbv51 => ?_)
                          · replace hxv49 := iteT hbv51 hxv49
                            refine gT [] [(4, (vp 1)), (5, (AV.d (eL TApiDifference.e rv5.1))), (7, (vi (IntKind.i64.wrap (sv39 - 1)))), (8, (vi sv10.2)), (9, (vi sv17.2)), (10, (vi sv24.2)), (12, (vi (IntKind.i64.wrap (rv33 - rv35))))] (by kernel_rfl) ?_
                            refine aws_nil ?_
                            obtain rfl := Option.some.inj hxv49
                            exact ⟨_, rfl, ⟨(fA (by kernel_rfl)), .inl rfl⟩⟩
                          · replace hxv49 := iteF hbv51 hxv49
                            refine aws_skip (aws_nil ?_)
                            obtain rfl := Option.some.inj hxv49
                            exact ⟨_, rfl, ⟨(fA (by kernel_rfl)), .inl rfl⟩⟩
                        · subst hq
                          refine aws_seq (gT [] [(4, (vp 1)), (5, (AV.d (eL TApiDifference.e rv5.1))), (7, (vi sv50)), (8, (vi sv10.2)), (9, (vi sv17.2)), (10, (vi sv24.2)), (121, (vb ((IntKind.i64.wrap (rv33 - rv35)) != 0)))] (by kernel_rfl) ?_)
                          refine aws_cond (b := ((IntKind.i64.wrap (rv33 - rv35)) != 0)) (by kernel_rfl) (fun hbv52 => ?_) (fun hbv52 => ?_)
                          · replace hxv27 := iteT hbv52 hxv27
                            refine gT [] [(4, (vp 1)), (5, (AV.d (eL TApiDifference.e rv5.1))), (7, (vi (IntKind.i64.wrap (sv50 - 1)))), (8, (vi sv10.2)), (9, (vi sv17.2)), (10, (vi sv24.2))] (by kernel_rfl) ?_
                            refine aws_nil ?_
                            obtain rfl := Option.some.inj hxv27
                            exact ⟨_, rfl, ⟨(fA (by kernel_rfl)), .inl rfl⟩⟩
                          · replace hxv27 := iteF hbv52 hxv27
                            refine aws_skip (aws_nil ?_)
                            obtain rfl := Option.some.inj hxv27
                            exact ⟨_, rfl, ⟨(fA (by kernel_rfl)), .inl rfl⟩⟩
                    · subst hq
                      refine gT [] [(4, (vp 1)), (5, (AV.d (eL TApiDifference.e rv5.1))), (7, (vi sv28)), (8, (vi sv10.2)), (9, (vi sv17.2)), (10, (vi (IntKind.i64.wrap (sv24.2 + 1))))] (by kernel_rfl) ?_
                      refine aws_nil ?_
                      obtain rfl := Option.some.inj h
                      exact ⟨_, rfl, ⟨(fA (by kernel_rfl)), .inl rfl⟩⟩
                  · replace h := iteF hbv25 h
                    refine aws_exit ?_
                    obtain rfl := Option.some.inj h
                    exact ⟨rfl, _, rfl, ⟨(fA (by kernel_rfl)), .inl rfl⟩⟩
                · subst e
                  obtain rfl := Option.some.inj hxv20
                  obtain rfl := Option.some.inj h
                  exact ⟨_, rfl, hr⟩
                · subst e
                  refine aws_nil ?_
                  obtain rfl := Option.some.inj hxv20
                  exact ⟨_, rfl, ⟨(fA (by kernel_rfl)), .inl rfl⟩⟩
              · subst hq
                refine gT [] [(4, (vp 1)), (5, (AV.d (eL TApiDifference.e rv5.1))), (7, (vi sv21)), (8, (vi sv10.2)), (9, (vi (IntKind.i64.wrap (sv17.2 + 1))))] (by kernel_rfl) ?_
                refine aws_nil ?_
                obtain rfl := Option.some.inj h
                exact ⟨_, rfl, ⟨(fA (by kernel_rfl)), .inl rfl⟩⟩
            · replace h := iteF hbv18 h
              refine aws_exit ?_
              obtain rfl := Option.some.inj h
              exact ⟨rfl, _, rfl, ⟨(fA (by kernel_rfl)), .inl rfl⟩⟩
          · subst e
            obtain rfl := Option.some.inj hxv13
            obtain rfl := Option.some.inj h
            exact ⟨_, rfl, hr⟩
          · subst e
            refine aws_nil ?_
            obtain rfl := Option.some.inj hxv13
            exact ⟨_, rfl, ⟨(fA (by kernel_rfl)), .inl rfl⟩⟩
        · subst hq
          refine gT [] [(4, (vp 1)), (5, (AV.d (eL TApiDifference.e rv5.1))), (7, (vi sv14)), (8, (vi (IntKind.i64.wrap (sv10.2 + 1))))] (by kernel_rfl) ?_
          refine aws_nil ?_
          obtain rfl := Option.some.inj h
          exact ⟨_, rfl, ⟨(fA (by kernel_rfl)), .inl rfl⟩⟩
      · replace h := iteF hbv11 h
        refine aws_exit ?_
        obtain rfl := Option.some.inj h
        exact ⟨rfl, _, rfl, ⟨(fA (by kernel_rfl)), .inl rfl⟩⟩
    · subst e
      obtain rfl := Option.some.inj h
      exact ⟨.inr rfl, hr⟩
    · subst e
      refine aws_seq ?_
      obtain ⟨rv53, hrv54, h⟩ := bind_some' h
      refine gS [(3, { h := .callq (vb rv53) })] [(2, (vb (bif (sv10.1 == 0) then rv53 else false)))] [AllP [(sv10.1 == 0) = true] → (∀ L, CallOk Try.prog 13 [] L (vb rv53) L)] (by kernel_rfl) (And.intro (fun hg => ((F13_ok (optP_some hrv54 hg)).pu (fun _ => rfl) (fun _ => rfl))) trivial) ?_
      refine aws_ret ?_
      obtain rfl := Option.some.inj h
      exact ⟨.inr rfl, ⟨_, [], [(bx (TTreasuryplaySrc.e rv3.2)), (bx (TApiLedger.e rv3.1))], by kernel_rfl, trivial, (LeV.refl _), rfl⟩⟩

/-! 49 -/
theorem F49_ok {p0 : TTreasuryplaySrc} {r : R49} (h : F49 p0 = some r) : CallOk Try.prog 49 [(vp 0)] [(bx (TTreasuryplaySrc.e p0))] (V49 r) (L49 r) := by
  refine gF Try.func49 rfl (by kernel_rfl) (And.intro rfl trivial) ?_
  unfold F49 at h
  refine aws_seq (gT [] [(0, (vp 0))] (by kernel_rfl) ?_)
  refine aws_seq ?_
  obtain ⟨rv1, hrv2, h⟩ := bind_some' h
  refine gR [(1, { cast := some (vl ([(-1), 0, 1, 2, 9223372036854775807, (-9223372036854775808), 1000000000000, 1000000000001, 1000000000000000, 1000000000000001, 36000, 36001, 35991, 1000000, 1000001, 1000, 1001, 360] : List Int)) }), (2, { h := .callw (vi rv1.1) [(0, (bx (TTreasuryplaySrc.e rv1.2)))] [] })] [(2, (vi rv1.1))] [(bx (TTreasuryplaySrc.e rv1.2))] [LeV (AV.d (DV.sl 18 (listF (DV.b false) [(DV.i .i64 (-1)), (DV.i .i64 0), (DV.i .i64 1), (DV.i .i64 2), (DV.i .i64 9223372036854775807), (DV.i .i64 (-9223372036854775808)), (DV.i .i64 1000000000000), (DV.i .i64 1000000000001), (DV.i .i64 1000000000000000), (DV.i .i64 1000000000000001), (DV.i .i64 36000), (DV.i .i64 36001), (DV.i .i64 35991), (DV.i .i64 1000000), (DV.i .i64 1000001), (DV.i .i64 1000), (DV.i .i64 1001), (DV.i .i64 360)]))) (vl ([(-1), 0, 1, 2, 9223372036854775807, (-9223372036854775808), 1000000000000, 1000000000001, 1000000000000000, 1000000000000001, 36000, 36001, 35991, 1000000, 1000001, 1000, 1001, 360] : List Int)), CallOk Try.prog 15 [(vp 0), (vl ([(-1), 0, 1, 2, 9223372036854775807, (-9223372036854775808), 1000000000000, 1000000000001, 1000000000000000, 1000000000000001, 36000, 36001, 35991, 1000000, 1000001, 1000, 1001, 360] : List Int))] [(bx (TTreasuryplaySrc.e p0))] (vi rv1.1) [(bx (TTreasuryplaySrc.e rv1.2))]] (by kernel_rfl) (And.intro (leV_lit (DV.i .i64) ([(-1), 0, 1, 2, 9223372036854775807, (-9223372036854775808), 1000000000000, 1000000000001, 1000000000000000, 1000000000000001, 36000, 36001, 35991, 1000000, 1000001, 1000, 1001, 360] : List Int)) (And.intro ((F15_ok hrv2).ca [0] (by kernel_rfl)) trivial)) ?_
  refine aws_ret ?_
  obtain rfl := Option.some.inj h
  exact ⟨.inr rfl, ⟨_, [], [], by kernel_rfl, trivial, (LeV.refl _), rfl⟩⟩

end Go.Proofs.Ytkkdclpleghppaa
