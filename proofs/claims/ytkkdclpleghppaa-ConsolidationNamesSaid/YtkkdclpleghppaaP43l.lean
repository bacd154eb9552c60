/- A part of the proof: plain laws of what the functions compute. No condition. -/
import Derived.Test.YtkkdclpleghppaaP43k
namespace Go.Proofs.Ytkkdclpleghppaa
open Go Go.TA

/-! ## The example -/
theorem F18_refl (d : List TApiDifference) : F18 d d = some true := by
  unfold F18
  rw [if_neg (by simp)]
  have h1 : rangeM (F18_b1 d d) d.length 0 () = _ := rangeM_any (c := false) (fun _ => false) fun i hi => by
    unfold F18_b1
    rw [guardP_pos (p := AllP [i < d.length]) (And.intro hi trivial)]
    simp [outM]
  rw [h1]
  have h2 : (List.range d.length).any (fun _ => false) = false := by rw [List.any_eq_false]; simp
  rw [h2]
  rfl

theorem grp_of {g : List Int} (a : g ≠ []) (b : g.length ≤ 10) (c : ∀ i, i < g.length → 1 ≤ g.getD i default ∧ g.getD i default ≤ 10) (d : ∀ i, i < g.length → 0 < i → g.getD (i - 1) default < g.getD i default) : Grp g :=
  ⟨a, b, c, fun i h0 h1 => d i h1 h0⟩

def pX : TApiPosting := ⟨1, 0, 1, 140, 110, 100, 2, 7⟩
def pY : TApiPosting := ⟨2, 0, 2, 110, 240, 80, 1, 7⟩
theorem postX : postR [] pX = (⟨[pX]⟩, 0) := by rfl
theorem postY : postR [pX] pY = (⟨[pX, pY]⟩, 0) := by rfl
theorem goodX : Good [pX] := by have := (postR_good good_nil (p := pX) (by rw [postX])).1; rwa [postX] at this
theorem goodXY : Good [pX, pY] := by have := (postR_good goodX (p := pY) (by rw [postY])).1; rwa [postY] at this

theorem F21_spec : F21 = some ⟨[pX, pY]⟩ := by
  unfold F21
  show (F16 ⟨[]⟩ pX).bind _ = _
  rw [F16_spec good_nil, postX]
  show (F16 ⟨[pX]⟩ pY).bind _ = _
  rw [F16_spec goodX, postY]
  rfl

theorem refs_one {l : List TApiPosting} {R : List Int} (h : Refs l R) (c : Int) (h1 : ∃ p ∈ l, p.Ref = c) (h2 : ∀ p ∈ l, p.Ref = c) : R = [c] := by
  have hm : ∀ r, r ∈ R → r = c := fun r hr => by
    obtain ⟨p, hp, rfl⟩ := (h.mem r).1 hr
    exact h2 p hp
  have hc : c ∈ R := (h.mem c).2 h1
  have ha := h.asc
  cases R with
  | nil => cases hc
  | cons a t =>
    have e := hm a List.mem_cons_self
    subst e
    cases t with
    | nil => rfl
    | cons b t =>
      have e2 := hm b (by simp)
      have := (List.pairwise_cons.1 ha).1 b List.mem_cons_self
      omega

theorem F13_spec : F13 = some true := by
  unfold F13
  rw [F21_spec]
  simp only [Option.bind_some]
  obtain ⟨R, m, mp, E, hw, h1⟩ := F11_spec goodXY (g := [1, 2]) (grp_of (by simp) (by simp) (by decide) (by decide)) (by simp) (k := 0) (by omega) (by omega)
  have hR : R = [7] := refs_one hw.refs 7 ⟨pX, by simp, rfl⟩ (by intro p hp; simp at hp; rcases hp with rfl | rfl <;> rfl)
  subst hR
  have s1 : mget m ⟨140, 1, 2, 7⟩ 0 = 100 := by rw [hw.spot]; decide
  have s2 : mget m ⟨240, 2, 1, 7⟩ 0 = -80 := by rw [hw.spot]; decide
  have s3 : mget m ⟨140, 2, 1, 7⟩ 0 = 0 := by rw [hw.spot]; decide
  have s4 : mget m ⟨240, 1, 2, 7⟩ 0 = 0 := by rw [hw.spot]; decide
  have s5 : mget m ⟨440, 1, 2, 7⟩ 0 = 0 := by rw [hw.spot]; decide
  have s6 : mget m ⟨540, 2, 1, 7⟩ 0 = 0 := by rw [hw.spot]; decide
  have s7 : mget m ⟨440, 2, 1, 7⟩ 0 = 0 := by rw [hw.spot]; decide
  have s8 : mget m ⟨540, 1, 2, 7⟩ 0 = 0 := by rw [hw.spot]; decide
  have hq : quads [7] [1, 2] = [(0, 1, 2, 7), (0, 2, 1, 7), (1, 1, 2, 7), (1, 2, 1, 7)] := by decide
  have hE : E = 80 := by
    rw [hw.elim, hq]
    simp [sumQ, nq, nn, xv, yv, s1, s2, s3, s4, s5, s6, s7, s8]
  have hd : difs m [7] [1, 2] = [⟨1, 1, 2, 7, 20⟩] := by
    simp [difs, difB, dif, xv, yv, s1, s2, s3, s4, s5, s6, s7, s8, List.range_succ]
  rw [h1, hE, hd]
  simp only [Option.bind_some]
  rw [optP_pos (gs := [(bif ((0 : Int) == 0) then ((80 : Int) == 80) else false) = true]) (And.intro rfl trivial), F18_refl]
  rfl

/-! ## ConsolidationZero -/
def grps : Nat → List Int := fun j => ([([1, 2, 3] : List Int), ([1, 2] : List Int), ([1, 3] : List Int), ([2] : List Int)] : List (List Int)).getD j default

theorem grps_ok {i : Nat} (hi : i < 4) : Grp (grps i) ∧ (grps i).Nodup ∧ (∀ x ∈ grps i, x ≠ 0) ∧ (grps i).length ≤ 4 := by
  have : i = 0 ∨ i = 1 ∨ i = 2 ∨ i = 3 := by omega
  rcases this with rfl | rfl | rfl | rfl
  · exact ⟨grp_of (by decide) (by decide) (by decide) (by decide), by decide, by decide, by decide⟩
  · exact ⟨grp_of (by decide) (by decide) (by decide) (by decide), by decide, by decide, by decide⟩
  · exact ⟨grp_of (by decide) (by decide) (by decide) (by decide), by decide, by decide, by decide⟩
  · exact ⟨grp_of (by decide) (by decide) (by decide) (by decide), by decide, by decide, by decide⟩

theorem dq_other {m : MSpot} {n : Int} (h : n ≠ 140 ∧ n ≠ 240 ∧ n ≠ 440 ∧ n ≠ 540) (q : Quad) : dq m n q = 0 := by
  unfold dq
  rw [if_neg h.1, if_neg h.2.1, if_neg h.2.2.1, if_neg h.2.2.2]
  split <;> rfl

theorem F3_b2_loop {l : List TApiPosting} (hl : Good l) {s : TTreasuryplaySrc} {a1 : Int} {i : Nat} (hi : i < 4) {R : List Int} {m : MSpot} {mp : List (Int × Int)} {E : Int} {D : List TApiDifference}
    (hw : WholeR l (grps i) ((IntKind.i64.wrap a1).tmod 70) R m mp E) : rangeM (F3_b2 a1 (⟨l⟩, s) i (⟨balL 600 fun n => mget mp n 0, E, D⟩, 0)) (balL 600 fun n => mget mp n 0).length 0 0 = some (.next 0) := by
  obtain ⟨g1, g2, g3, g4⟩ := grps_ok hi
  have hBl := balL_len 600 fun n => mget mp n 0
  have hsum := totB_balL (fun n => mget mp n 0) 600
  rw [whole_sum hl hw] at hsum
  have hasc := balL_asc (fun n => mget mp n 0) 600
  have hmem : ∀ b ∈ balL 600 fun n => mget mp n 0, b.Amount = mget mp b.Account 0 := fun b hb => (balL_mem hb).2.2.1
  generalize hB : (balL 600 fun n => mget mp n 0) = B at *
  obtain ⟨r, h1, h2⟩ := rangeM_inv (body := F3_b2 a1 (⟨l⟩, s) i (⟨B, E, D⟩, 0)) (n := B.length) (s0 := (0 : Int)) (fun j s => s = IntKind.i64.wrap (totB (B.take j))) (by rfl) (fun j t hj ht => by
    unfold F3_b2
    refine ⟨IntKind.i64.wrap (totB (B.take (j + 1))), ?_, rfl⟩
    rw [guardP_pos]
    · have hc : (bif (decide ((j : Int) > 0)) then (decide (((B.getD (((IntKind.i64.wrap ((j : Int) - 1))).toNat) default).Account) ≥ ((B.getD j default).Account))) else false) = false := by
        rw [cond_and]
        by_cases h0 : 0 < j
        · rw [wrapId (n := (j : Int) - 1) (by omega) (by omega), show ((j : Int) - 1).toNat = j - 1 by omega]
          have := List.pairwise_iff_getElem.1 hasc (j - 1) j (by omega) hj (by omega)
          simp [List.getElem?_eq_getElem hj, List.getElem?_eq_getElem (show j - 1 < B.length by omega)]
          omega
        · simp only [Bool.and_eq_false_iff, decide_eq_false_iff_not]
          omega
      show (outM (if (bif (decide ((j : Int) > 0)) then (decide (((B.getD (((IntKind.i64.wrap ((j : Int) - 1))).toNat) default).Account) ≥ ((B.getD j default).Account))) else false) = true then _ else _) _ _) = _
      rw [hc, if_neg (by decide)]
      have hloop := F3_b1_loop hl g2 g3 (B.getD j default).Account ((IntKind.i64.wrap a1).tmod 70) (body := F3_b1 a1 (⟨l⟩, s) i (⟨B, E, D⟩, 0) j) (fun i' s' _ => by
        unfold F3_b1
        show Option.bind (Option.bind (F12 ⟨l⟩ ((grps i).getD i' default) (B.getD j default).Account ((IntKind.i64.wrap a1).tmod 70)) _) _ = _
        cases F12 ⟨l⟩ ((grps i).getD i' default) (B.getD j default).Account ((IntKind.i64.wrap a1).tmod 70) <;> rfl)
      show (outM (outM (rangeM (F3_b1 a1 (⟨l⟩, s) i (⟨B, E, D⟩, 0) j) (grps i).length 0 0) _ _) _ _) = _
      rw [hloop]
      simp only [outM]
      have hno : (bif (!(bif (bif (bif (((B.getD j default).Account) == 140) then true else (((B.getD j default).Account) == 240)) then true else (((B.getD j default).Account) == 440)) then true else (((B.getD j default).Account) == 540))) then (tot (bookV (grps i) ((IntKind.i64.wrap a1).tmod 70) (B.getD j default).Account) l != ((B.getD j default).Amount)) else false) = false := by
        rw [cond_or, cond_or, cond_or, cond_and]
        by_cases hmu : (B.getD j default).Account ≠ 140 ∧ (B.getD j default).Account ≠ 240 ∧ (B.getD j default).Account ≠ 440 ∧ (B.getD j default).Account ≠ 540
        · have e1 := hmem _ (getD_mem hj)
          rw [hw.book, sumQ_zero fun q _ => dq_other hmu q, Int.add_zero] at e1
          rw [e1]
          simp
        · have : (((B.getD j default).Account == 140 || (B.getD j default).Account == 240) || (B.getD j default).Account == 440 || (B.getD j default).Account == 540) = true := by
            simp only [Bool.or_eq_true, beq_iff_eq]
            omega
          rw [this]
          rfl
      rw [hno, if_neg (by decide), ht]
      simp only
      rw [wrap_add, totB_succ hj]
    · refine And.intro (fun h => ?_) (And.intro (fun h => ?_) trivial)
      · have := of_decide_eq_true h.1
        rw [wrapId (by omega) (by omega)]; omega
      · have := of_decide_eq_true h.1
        rw [wrapId (by omega) (by omega)]; simp only; omega)
  rw [h1, h2, List.take_length, hsum]
  rfl

theorem F3_spec (t : List Int) {a1 : Int} (h0 : 0 ≤ a1) (h1 : a1 ≤ 255) : F3 t a1 = some true := by
  unfold F3
  obtain ⟨s, e1, k1⟩ := F9_spec t
  obtain ⟨l, s2, e2, k2, hl, _⟩ := F10_spec k1
  rw [e1]
  simp only [Option.bind_some]
  rw [e2]
  simp only [Option.bind_some]
  have hk : IntKind.i64.wrap a1 = a1 := wrapId (by omega) (by omega)
  have hk0 : 0 ≤ (IntKind.i64.wrap a1).tmod 70 := by rw [hk]; exact Int.tmod_nonneg _ h0
  have hk1 : (IntKind.i64.wrap a1).tmod 70 < 70 := Int.tmod_lt_of_pos _ (by omega)
  have hloop : rangeM (F3_b3 a1 (⟨l⟩, s2)) 4 0 () = _ := rangeM_any (c := false) (fun _ => false) fun i hi => by
    obtain ⟨g1, g2, g3, g4⟩ := grps_ok hi
    obtain ⟨R, m, mp, E, hw, h1⟩ := F11_spec hl g1 g4 hk0 (by omega)
    unfold F3_b3
    show outM ((F11 ⟨l⟩ (grps i) ((IntKind.i64.wrap a1).tmod 70)).bind _) _ _ = _
    rw [h1]
    simp only [Option.bind_some]
    rw [if_neg (by decide), F3_b2_loop hl hi hw]
    have hlast : (bif ((0 : Int) != 0) then true else (bif ((((grps i).length : Int)) == 1) then (bif (E != 0) then true else (((difs m R (grps i)).length : Int) != 0)) else false)) = false := by
      rw [cond_or, cond_and]
      by_cases h3 : i = 3
      · subst h3
        have hq : quads R (grps 3) = [] := by
          show (List.range 2).flatMap (fun i => [2].flatMap fun a => [2].flatMap fun b => quadsB R i a b) = []
          simp [quadsB]
        have hE : E = 0 := by rw [hw.elim, hq]; rfl
        have hd : difs m R (grps 3) = [] := by
          show (List.range 2).flatMap (fun i => [2].flatMap fun a => [2].flatMap fun b => difB m R i a b) = []
          simp [difB]
        rw [hE, hd]
        rfl
      · have : i = 0 ∨ i = 1 ∨ i = 2 := by omega
        rcases this with rfl | rfl | rfl <;> rfl
    show outM (if (bif ((0 : Int) != 0) then true else (bif ((((grps i).length : Int)) == 1) then (bif (E != 0) then true else (((difs m R (grps i)).length : Int) != 0)) else false)) = true then some (Out.ret (Step.ret false)) else some (Out.next ())) (fun _ => some (Step.cont ())) (fun x => some x) = _
    rw [hlast]
    rfl
  rw [hloop]
  have h2 : (List.range 4).any (fun _ => false) = false := by decide
  rw [h2]
  show (F13).bind _ = _
  rw [F13_spec]
  rfl
end Go.Proofs.Ytkkdclpleghppaa
