/- A part of the proof: plain laws of what the functions compute. No condition. -/
import Derived.Test.YtkkdclpleghppaaP43p
namespace Go.Proofs.Ytkkdclpleghppaa
open Go Go.TA

/-! ## ConsolidationPositions -/
def hit (a b r : Int) (x : TApiDifference) : Bool := x.A == a && x.B == b && x.Ref == r
/-- How many differences are of a position. -/
def cnt (a b r : Int) : List TApiDifference → Int
  | [] => 0
  | x :: d => (if hit a b r x = true then 1 else 0) + cnt a b r d
theorem cnt_app (a b r : Int) : ∀ d e : List TApiDifference, cnt a b r (d ++ e) = cnt a b r d + cnt a b r e
  | [], e => by simp [cnt]
  | x :: d, e => by simp [cnt, cnt_app a b r d e]; omega
theorem cnt_succ {a b r : Int} {d : List TApiDifference} {i : Nat} (hi : i < d.length) : cnt a b r (d.take (i + 1)) = cnt a b r (d.take i) + (if hit a b r (d.getD i default) = true then 1 else 0) := by
  rw [List.take_add_one, cnt_app]
  simp [List.getElem?_eq_getElem hi, cnt]
theorem cnt_bound (a b r : Int) : ∀ d : List TApiDifference, 0 ≤ cnt a b r d ∧ cnt a b r d ≤ d.length
  | [] => by simp [cnt]
  | x :: d => by
    have := cnt_bound a b r d
    simp only [cnt, List.length_cons]
    split <;> omega

def one (m : MSpot) (i : Nat) (a b r : Int) : Int := if xv m i a b r - yv m i a b r ≠ 0 then 1 else 0
theorem cnt_dif (m : MSpot) (i : Nat) (a b r a' b' r' : Int) : cnt a b r (dif m i a' b' r') = if a' = a ∧ b' = b ∧ r' = r then one m i a b r else 0 := by
  by_cases h : a' = a ∧ b' = b ∧ r' = r
  · rw [if_pos h]
    obtain ⟨h1, h2, h3⟩ := h
    subst h1; subst h2; subst h3
    unfold dif one
    by_cases z : xv m i a' b' r' - yv m i a' b' r' ≠ 0
    · rw [if_pos z, if_pos z]; simp [cnt, hit]
    · rw [if_neg z, if_neg z]; rfl
  · rw [if_neg h]
    unfold dif
    by_cases z : xv m i a' b' r' - yv m i a' b' r' ≠ 0
    · rw [if_pos z]
      have hh : hit a b r ⟨(i : Int) + 1, a', b', r', xv m i a' b' r' - yv m i a' b' r'⟩ = false := by
        rw [Bool.eq_false_iff]
        intro e
        simp only [hit, Bool.and_eq_true, beq_iff_eq] at e
        exact h ⟨e.1.1, e.1.2, e.2⟩
      simp [cnt, hh]
    · rw [if_neg z]; rfl
theorem cnt_flat {m : MSpot} {i : Nat} {a b r a' b' : Int} : ∀ {R : List Int}, R.Pairwise (· < ·) → cnt a b r (R.flatMap (dif m i a' b')) = if a' = a ∧ b' = b ∧ r ∈ R then one m i a b r else 0
  | [], _ => by simp [cnt]
  | q :: R, ha => by
    obtain ⟨h1, h2⟩ := List.pairwise_cons.1 ha
    rw [List.flatMap_cons, cnt_app, cnt_dif, cnt_flat h2]
    by_cases h : a' = a ∧ b' = b
    · by_cases hq : q = r
      · subst hq
        have : q ∉ R := fun e => by have := h1 q e; omega
        simp [h.1, h.2, this]
      · have hq' : r ≠ q := fun e => hq e.symm
        simp [h.1, h.2, hq, hq']
    · rw [if_neg (fun e => h ⟨e.1, e.2.1⟩), if_neg (fun e => h ⟨e.1, e.2.1⟩), if_neg (fun e => h ⟨e.1, e.2.1⟩)]
      rfl
theorem cnt_difB {m : MSpot} {R : List Int} (hR : R.Pairwise (· < ·)) (i : Nat) (a b r a' b' : Int) : cnt a b r (difB m R i a' b') = if a' ≠ b' ∧ a' = a ∧ b' = b ∧ r ∈ R then one m i a b r else 0 := by
  unfold difB
  by_cases h : a' = b'
  · rw [if_pos h, if_neg (fun e => e.1 h)]; rfl
  · rw [if_neg h, cnt_flat hR]
    by_cases h2 : a' = a ∧ b' = b ∧ r ∈ R
    · rw [if_pos h2, if_pos ⟨h, h2⟩]
    · rw [if_neg h2, if_neg (fun e => h2 e.2)]

theorem cnt_difs {m : MSpot} {R : List Int} (hR : R.Pairwise (· < ·)) {a b r : Int} (ha : 1 ≤ a ∧ a ≤ 3) (hb : 1 ≤ b ∧ b ≤ 3) (hab : a ≠ b) (hz : r ∉ R → one m 0 a b r = 0 ∧ one m 1 a b r = 0) :
    cnt a b r (difs m R [1, 2, 3]) = one m 0 a b r + one m 1 a b r := by
  rw [difs3]
  simp only [cnt_app, cnt_difB hR]
  by_cases hr : r ∈ R
  · have e1 : a = 1 ∨ a = 2 ∨ a = 3 := by omega
    have e2 : b = 1 ∨ b = 2 ∨ b = 3 := by omega
    rcases e1 with rfl | rfl | rfl <;> rcases e2 with rfl | rfl | rfl <;> first | (exfalso; omega) | (simp [hr])
  · obtain ⟨z1, z2⟩ := hz hr
    simp [hr, z1, z2]

theorem difs_mem {m : MSpot} {R g : List Int} {x : TApiDifference} (h : x ∈ difs m R g) : ∃ i : Nat, i < 2 ∧ x.Kind = (i : Int) + 1 ∧ x.Amount = xv m i x.A x.B x.Ref - yv m i x.A x.B x.Ref ∧ x.Amount ≠ 0 := by
  unfold difs at h
  obtain ⟨i, hi, h⟩ := List.mem_flatMap.1 h
  obtain ⟨a, _, h⟩ := List.mem_flatMap.1 h
  obtain ⟨b, _, h⟩ := List.mem_flatMap.1 h
  unfold difB at h
  split at h
  · cases h
  · obtain ⟨r, _, h⟩ := List.mem_flatMap.1 h
    unfold dif at h
    split at h
    · rename_i hn
      simp at h
      subst h
      exact ⟨i, by simpa using hi, rfl, rfl, hn⟩
    · cases h

/-- What the four functions answer. -/
theorem F8_calls {l : List TApiPosting} {m : MSpot} (hm : Small m) (h55 : F55 ⟨l⟩ 60 = some m) (a b r : Int) :
    F29 ⟨l⟩ a b r 60 = some (mget m ⟨140, a, b, r⟩ 0) ∧ F31 ⟨l⟩ b a r 60 = some (-mget m ⟨240, b, a, r⟩ 0) ∧ F33 ⟨l⟩ a b r 60 = some (-mget m ⟨440, a, b, r⟩ 0) ∧ F35 ⟨l⟩ b a r 60 = some (mget m ⟨540, b, a, r⟩ 0) := by
  have h2 := hm ⟨240, b, a, r⟩
  have h3 := hm ⟨440, a, b, r⟩
  refine ⟨?_, ?_, ?_, ?_⟩
  · unfold F29; rw [h55]; rfl
  · unfold F31; rw [h55]
    show some (IntKind.i64.wrap (0 - mget m ⟨240, b, a, r⟩ 0)) = _
    rw [wrapId (by omega) (by omega)]; congr 1; omega
  · unfold F33; rw [h55]
    show some (IntKind.i64.wrap (0 - mget m ⟨440, a, b, r⟩ 0)) = _
    rw [wrapId (by omega) (by omega)]; congr 1; omega
  · unfold F35; rw [h55]; rfl

theorem F8_inner {l : List TApiPosting} {s : TTreasuryplaySrc} {m : MSpot} (hm : Small m) {R : List Int} (hR : R.Pairwise (· < ·)) (h55 : F55 ⟨l⟩ 60 = some m) {a b r : Int} (ha : 1 ≤ a ∧ a ≤ 3) (hb : 1 ≤ b ∧ b ≤ 3) (hab : a ≠ b)
    (hr : r ≤ 3) (hr0 : 0 ≤ r) (hz : r ∉ R → one m 0 a b r = 0 ∧ one m 1 a b r = 0) (hlen : (difs m R [1, 2, 3]).length ≤ 80000) (s1 s2 : Int × Int) (h1 : s1.2 = a) (h2 : s2.2 = b) :
    F8_b2 (⟨l⟩, s) (difs m R [1, 2, 3], 0) s1 s2 (0, r) = some (.cont (0, r + 1)) := by
  obtain ⟨c1, c2, c3, c4⟩ := F8_calls hm h55 a b r
  have hcnt := cnt_difs hR ha hb hab hz
  have hmem : ∀ x ∈ difs m R [1, 2, 3], _ := fun x hx => difs_mem hx
  have b1 := xy_small hm 0 a b r
  have b2 := xy_small hm 1 a b r
  have x0 : xv m 0 a b r = mget m ⟨140, a, b, r⟩ 0 := by unfold xv; rw [if_pos rfl]
  have y0 : yv m 0 a b r = -mget m ⟨240, b, a, r⟩ 0 := by unfold yv; rw [if_pos rfl]
  have x1 : xv m 1 a b r = -mget m ⟨440, a, b, r⟩ 0 := by unfold xv; rw [if_neg (by omega)]
  have y1 : yv m 1 a b r = mget m ⟨540, b, a, r⟩ 0 := by unfold yv; rw [if_neg (by omega)]
  unfold F8_b2
  simp only [h1, h2]
  rw [if_pos (by rw [cond_and]; simp [hr, hab]), c1, c2, c3, c4]
  simp only [Option.bind_some]
  rw [← x0, ← y0, ← x1, ← y1]
  rw [wrapId (n := xv m 0 a b r - yv m 0 a b r) (by omega) (by omega), wrapId (n := xv m 1 a b r - yv m 1 a b r) (by omega) (by omega), wrapId (n := r + 1) (by omega) (by omega)]
  generalize hD : difs m R [1, 2, 3] = D at *
  obtain ⟨u, u1, u2⟩ := rangeM_inv (body := F8_b1 (D, 0) s1 s2 (0, r) (xv m 0 a b r) (yv m 0 a b r) (xv m 1 a b r) (yv m 1 a b r)) (n := D.length) (s0 := (0 : Int)) (fun i s => s = cnt a b r (D.take i)) (by simp [cnt]) (fun i v hi hv => by
    unfold F8_b1
    have hx : D.getD i default ∈ D := by simp [List.getElem?_eq_getElem hi]
    obtain ⟨j, hj, k1, k2, k3⟩ := hmem _ hx
    have hb0 := cnt_bound a b r (D.take i)
    have e : (D.take i).length = i := by simp; omega
    rw [e] at hb0
    simp only [h1, h2]
    rw [cnt_succ hi, ← hv]
    generalize D.getD i default = x at *
    by_cases hq : hit a b r x = true
    · have hq' := hq
      simp only [hit, Bool.and_eq_true, beq_iff_eq] at hq'
      obtain ⟨⟨q1, q2⟩, q3⟩ := hq'
      rw [if_neg (by rw [cond_or, cond_or]; simp [q1, q2, q3]), if_pos hq]
      rw [q1, q2, q3] at k2
      have hok : (bif (bif (bif (x.Kind == 1) then (x.Amount != (IntKind.i64.wrap (xv m 0 a b r - yv m 0 a b r))) else false) then true else (bif (x.Kind == 2) then (x.Amount != (IntKind.i64.wrap (xv m 1 a b r - yv m 1 a b r))) else false)) then true else (x.Amount == 0)) = false := by
        rw [cond_or, cond_or, cond_and, cond_and, wrapId (n := xv m 0 a b r - yv m 0 a b r) (by omega) (by omega), wrapId (n := xv m 1 a b r - yv m 1 a b r) (by omega) (by omega)]
        have : j = 0 ∨ j = 1 := by omega
        rcases this with rfl | rfl
        · simp [k1, k2]; omega
        · simp [k1, k2]; omega
      rw [hok, if_neg (by decide), wrapId (n := v + 1) (by omega) (by omega)]
      exact ⟨_, rfl, rfl⟩
    · have hq' : ¬ (x.A = a ∧ x.B = b ∧ x.Ref = r) := fun e => hq (by simp [hit, e.1, e.2.1, e.2.2])
      rw [if_pos (by rw [cond_or, cond_or]; simp; omega), if_neg hq]
      exact ⟨_, rfl, by omega⟩)
  rw [List.take_length, hcnt] at u2
  rw [u1]
  simp only [outM]
  unfold one at u2
  by_cases p0 : xv m 0 a b r - yv m 0 a b r ≠ 0
  · rw [if_pos p0] at u2
    by_cases p1 : xv m 1 a b r - yv m 1 a b r ≠ 0
    · rw [if_pos p1] at u2
      rw [if_pos (by simpa using p0), u2, wrapId (n := 1 + 1 - 1) (by omega) (by omega)]
      simp only [Option.bind_some]
      rw [if_pos (by simpa using p1), wrapId (n := 1 + 1 - 1 - 1) (by omega) (by omega)]
      rfl
    · rw [if_neg p1] at u2
      rw [if_pos (by simpa using p0), u2, wrapId (n := 1 + 0 - 1) (by omega) (by omega)]
      simp only [Option.bind_some]
      rw [if_neg (by simpa using p1)]
      rfl
  · rw [if_neg p0] at u2
    by_cases p1 : xv m 1 a b r - yv m 1 a b r ≠ 0
    · rw [if_pos p1] at u2
      rw [if_neg (by simpa using p0), u2]
      simp only [Option.bind_some]
      rw [if_pos (by simpa using p1), wrapId (n := 0 + 1 - 1) (by omega) (by omega)]
      rfl
    · rw [if_neg p1] at u2
      rw [if_neg (by simpa using p0), u2]
      simp only [Option.bind_some]
      rw [if_neg (by simpa using p1)]
      rfl

theorem iterM_brk {σ ρ : Type} {step : σ → Option (Step σ ρ)} {s s' : σ} (h : step s = some (.brk s')) : iterM step s = some (.next s') := by rw [iterM_eq, h]
theorem iterM_cont {σ ρ : Type} {step : σ → Option (Step σ ρ)} {s s' : σ} {r : Option (Out σ ρ)} (h : step s = some (.cont s')) (hr : iterM step s' = r) : iterM step s = r := by rw [iterM_eq, h]; exact hr

theorem F8_spec (t : List Int) : F8 t = some true := by
  unfold F8
  obtain ⟨s, e1, k1⟩ := F9_spec t
  obtain ⟨l, s2, e2, k2, hl, href⟩ := F10_spec k1
  rw [e1]; simp only [Option.bind_some]
  rw [e2]; simp only [Option.bind_some]
  obtain ⟨R, m, r1, r2, r3, r4, r5, r6⟩ := F17_spec hl grp123 (k := 60) (by omega) (by omega)
  have hlen := hl.len
  have hRl := r1.len
  have hdl : (difs m R [1, 2, 3]).length ≤ 80000 := by
    have := flatMap_len (F := fun i => [1, 2, 3].flatMap fun a => [1, 2, 3].flatMap fun b => difB m R i a b) (c := 40000) (g := List.range 2) fun i _ => difI_len (by omega) (by decide) i
    simpa [difs] using this
  have hz0 : ∀ r, r ∉ R → ∀ s : TConsolidationSpot, s.ref = r → mget m s 0 = 0 := fun r hr s hs => by
    rw [r4]
    refine tot_const0 fun p hp => ?_
    have hne : p.Ref ≠ r := fun e => hr ((r1.mem r).2 ⟨p, hp, e⟩)
    have hd : (s == keyD p) = false := by
      rw [Bool.eq_false_iff]
      intro e
      have := congrArg TConsolidationSpot.ref (eq_of_beq e)
      exact hne (by rw [← hs, this]; rfl)
    have hc : (s == keyC p) = false := by
      rw [Bool.eq_false_iff]
      intro e
      have := congrArg TConsolidationSpot.ref (eq_of_beq e)
      exact hne (by rw [← hs, this]; rfl)
    unfold spotV
    rw [hd, hc]
    simp
  have hz : ∀ a b r, r ∉ R → one m 0 a b r = 0 ∧ one m 1 a b r = 0 := fun a b r hr => by
    have q1 := hz0 r hr ⟨140, a, b, r⟩ rfl
    have q2 := hz0 r hr ⟨240, b, a, r⟩ rfl
    have q3 := hz0 r hr ⟨440, a, b, r⟩ rfl
    have q4 := hz0 r hr ⟨540, b, a, r⟩ rfl
    refine ⟨?_, ?_⟩
    · unfold one xv yv
      rw [if_pos rfl, if_pos rfl, q1, q2]
      rfl
    · unfold one xv yv
      rw [if_neg (c := (1 : Nat) = 0) (by omega), if_neg (c := (1 : Nat) = 0) (by omega), q3, q4]
      rfl
  rw [r6]; simp only [Option.bind_some]
  rw [if_neg (by decide)]
  -- the references
  have L2 : ∀ s1 s2' : Int × Int, 1 ≤ s1.2 ∧ s1.2 ≤ 3 → 1 ≤ s2'.2 ∧ s2'.2 ≤ 3 → iterM (F8_b2 (⟨l⟩, s2) (difs m R [1, 2, 3], 0) s1 s2') (0, 0) = some (.next (0, if s1.2 = s2'.2 then 0 else 4)) := fun s1 s2' h1 h2 => by
    by_cases hab : s1.2 = s2'.2
    · rw [if_pos hab]
      refine iterM_brk ?_
      unfold F8_b2
      rw [if_neg (by rw [cond_and]; simp [hab])]
    · rw [if_neg hab]
      have st := fun r h0 h3 => F8_inner (l := l) (s := s2) r5 r1.asc r3 h1 h2 hab (r := r) h3 h0 (hz _ _ r) hdl s1 s2' rfl rfl
      refine iterM_cont (st 0 (by omega) (by omega)) (iterM_cont (st 1 (by omega) (by omega)) (iterM_cont (st 2 (by omega) (by omega)) (iterM_cont (st 3 (by omega) (by omega)) (iterM_brk ?_))))
      unfold F8_b2
      rw [if_neg (by rw [cond_and]; simp)]
      rfl
  have L3 : ∀ s1 : Int × Int, 1 ≤ s1.2 ∧ s1.2 ≤ 3 → iterM (F8_b3 (⟨l⟩, s2) (difs m R [1, 2, 3], 0) s1) (0, 1) = some (.next (0, 4)) := fun s1 h1 => by
    have st : ∀ b : Int, 1 ≤ b → b ≤ 3 → F8_b3 (⟨l⟩, s2) (difs m R [1, 2, 3], 0) s1 (0, b) = some (.cont (0, b + 1)) := fun b h0 h3 => by
      unfold F8_b3
      rw [if_pos (by simpa using h3)]
      rw [L2 s1 (0, b) h1 ⟨h0, h3⟩]
      simp only [outM]
      rw [wrapId (n := b + 1) (by omega) (by omega)]
    refine iterM_cont (st 1 (by omega) (by omega)) (iterM_cont (st 2 (by omega) (by omega)) (iterM_cont (st 3 (by omega) (by omega)) (iterM_brk ?_)))
    unfold F8_b3
    rw [if_neg (by simp)]
    rfl
  have L4 : iterM (F8_b4 (⟨l⟩, s2) (difs m R [1, 2, 3], 0)) (0, 1) = some (.next (0, 4)) := by
    have st : ∀ b : Int, 1 ≤ b → b ≤ 3 → F8_b4 (⟨l⟩, s2) (difs m R [1, 2, 3], 0) (0, b) = some (.cont (0, b + 1)) := fun b h0 h3 => by
      unfold F8_b4
      rw [if_pos (by simpa using h3)]
      rw [L3 (0, b) ⟨h0, h3⟩]
      simp only [outM]
      rw [wrapId (n := b + 1) (by omega) (by omega)]
    refine iterM_cont (st 1 (by omega) (by omega)) (iterM_cont (st 2 (by omega) (by omega)) (iterM_cont (st 3 (by omega) (by omega)) (iterM_brk ?_)))
    unfold F8_b4
    rw [if_neg (by simp)]
    rfl
  rw [L4]
  simp only [outM]
  rw [optP_pos (gs := [((0 : Int) == 0) = true]) (And.intro rfl trivial), F13_spec]
  rfl
end Go.Proofs.Ytkkdclpleghppaa
