/- A part of the proof: plain laws of what the functions compute. No condition. -/
import Derived.Test.YtkkdclpleghppaaP43f
namespace Go.Proofs.Ytkkdclpleghppaa
open Go Go.TA

/-! ## References -/
theorem compact_mem {zs : List Int} {x : Int} : x ∈ Lib.compact zs ↔ x ∈ zs := by
  unfold Lib.compact Lib.compactUpTo
  simp only [List.mem_map, List.mem_filter, List.mem_range]
  constructor
  · rintro ⟨j, ⟨hj, _⟩, rfl⟩
    simp [hj]
  · intro hx
    -- the first place that holds x
    obtain ⟨j, hj, hjx⟩ := List.getElem_of_mem hx
    have : ∀ (n j : Nat) (hj : j < zs.length), j ≤ n → zs[j] = x → ∃ a, (a < zs.length ∧ Lib.keeps zs.toArray a = true) ∧ zs.toArray[a]! = x := by
      intro n
      induction n with
      | zero =>
        intro j hj h0 hx
        obtain rfl : j = 0 := by omega
        exact ⟨0, ⟨hj, Lib.keeps_lt_one _ 0 (by omega)⟩, by simp [hj, hx]⟩
      | succ n ih =>
        intro j hj h0 hx
        by_cases hk : Lib.keeps zs.toArray j = true
        · exact ⟨j, ⟨hj, hk⟩, by simp [hj, hx]⟩
        · have hk' : ¬ (j = 0 ∨ zs.toArray[j]! ≠ zs.toArray[j - 1]!) := by simpa [Lib.keeps] using hk
          have hj0 : j ≠ 0 := fun e => hk' (.inl e)
          have heq : zs.toArray[j]! = zs.toArray[j - 1]! := by
            rcases Decidable.em (zs.toArray[j]! = zs.toArray[j - 1]!) with e | e
            · exact e
            · exact absurd (.inr e) hk'
          refine ih (j - 1) (by omega) (by omega) ?_
          simp [hj, show j - 1 < zs.length by omega] at heq
          rw [← heq, hx]
    exact this j j hj (Nat.le_refl _) hjx

theorem compactUpTo_asc {d : Array Int} (hs : ∀ i j, i < j → j < d.size → d[i]! ≤ d[j]!) : ∀ m, m ≤ d.size → (Lib.compactUpTo d m).Pairwise (· < ·) ∧ ∀ x ∈ Lib.compactUpTo d m, ∃ i, i < m ∧ d[i]! = x
  | 0, _ => ⟨by simp [Lib.compactUpTo], fun x hx => by simp [Lib.compactUpTo] at hx⟩
  | m + 1, hm => by
    obtain ⟨h1, h2⟩ := compactUpTo_asc hs m (by omega)
    rw [Lib.compactUpTo_succ]
    by_cases hk : Lib.keeps d m = true
    · rw [if_pos hk]
      refine ⟨List.pairwise_append.2 ⟨h1, by simp, fun a ha b hb => ?_⟩, fun x hx => ?_⟩
      · simp at hb
        subst hb
        obtain ⟨i, hi, rfl⟩ := h2 a ha
        have hk' : m = 0 ∨ d[m]! ≠ d[m - 1]! := by simpa [Lib.keeps] using hk
        rcases hk' with rfl | hk'
        · omega
        · have a1 : d[i]! ≤ d[m - 1]! := by
            rcases Nat.lt_or_ge i (m - 1) with h | h
            · exact hs _ _ h (by omega)
            · obtain rfl : i = m - 1 := by omega
              exact Int.le_refl _
          have a2 := hs (m - 1) m (by omega) (by omega)
          omega
      · rcases List.mem_append.1 hx with hx | hx
        · obtain ⟨i, hi, e⟩ := h2 x hx
          exact ⟨i, by omega, e⟩
        · simp at hx
          exact ⟨m, by omega, hx.symm⟩
    · rw [if_neg hk, List.append_nil]
      exact ⟨h1, fun x hx => by
        obtain ⟨i, hi, e⟩ := h2 x hx
        exact ⟨i, by omega, e⟩⟩

theorem isort_mem {l : List Int} {x : Int} : x ∈ isort l ↔ x ∈ l := by
  unfold isort
  exact List.mem_mergeSort

theorem isort_sorted (l : List Int) : (isort l).Pairwise (· ≤ ·) := by
  have := List.pairwise_mergeSort (le := fun x y : Int => decide (x ≤ y)) (fun a b c h1 h2 => by simp at *; omega) (fun a b => by simp; omega) l
  exact this.imp fun h => of_decide_eq_true h

/-- The references of a ledger, ascending. -/
structure Refs (l : List TApiPosting) (R : List Int) : Prop where
  asc : R.Pairwise (· < ·)
  mem : ∀ r, r ∈ R ↔ ∃ p ∈ l, p.Ref = r
  len : R.length ≤ l.length

theorem F58_spec {l : List TApiPosting} (hl : l.length ≤ 400) : ∃ R, F58 ⟨l⟩ = some R ∧ Refs l R := by
  unfold F58
  obtain ⟨m, h1, h2⟩ := rangeM_inv (body := F58_b1 ⟨l⟩) (n := l.length) (s0 := ([] : List Int)) (fun i m => m = (l.take i).map (·.Ref)) rfl (fun i m hi hm => by
    unfold F58_b1
    have hlen : m.length = i := by rw [hm]; simp; omega
    rw [guardP_pos (p := AllP [(m.length + 1) * (2 * 8) ≤ 2 ^ 48]) (And.intro (by omega) trivial)]
    refine ⟨_, rfl, ?_⟩
    rw [take_succ hi, List.map_append, ← hm]
    rfl)
  rw [h1]
  simp only [List.take_length] at h2
  have hml : m.length = l.length := by rw [h2]; simp
  refine ⟨Lib.compact (isort m), ?_, ?_, fun r => ?_, ?_⟩
  · show (F64 m).bind _ = _
    unfold F64 F65
    rw [guardP_pos (by omega)]
    simp only [Option.bind_some]
    rw [guardP_pos (isort_length m), guardP_pos (by rw [isort_length]; omega)]
    rfl
  · have hs := isort_sorted m
    have := (compactUpTo_asc (d := (isort m).toArray) (fun i j hij hj => by
      have hj' : j < (isort m).length := by simpa using hj
      have := List.pairwise_iff_getElem.1 hs i j (by omega) hj' hij
      simpa [show i < (isort m).length by omega, hj'] using this) (isort m).length (by simp)).1
    simpa [Lib.compact] using this
  · rw [compact_mem, isort_mem, h2]
    simp
  · have : (Lib.compact (isort m)).length ≤ (isort m).length := by
      unfold Lib.compact Lib.compactUpTo
      rw [List.length_map]
      exact Nat.le_trans (List.length_filter_le _ _) (by simp)
    rw [isort_length] at this
    omega
end Go.Proofs.Ytkkdclpleghppaa
