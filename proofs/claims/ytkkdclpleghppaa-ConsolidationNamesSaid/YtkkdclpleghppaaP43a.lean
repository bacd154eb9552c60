/- A part of the proof: plain laws of what the functions compute. No condition. -/
import Derived.Test.YtkkdclpleghppaaTaPlain
import Derived.Test.YtkkdclpleghppaaG43D
namespace Go.Proofs.Ytkkdclpleghppaa
open Go Go.TA

/-! ## The source of numbers -/
def SrcOk (s : TTreasuryplaySrc) : Prop := 0 ≤ s.At ∧ s.L.length ≤ 900 ∧ s.At ≤ s.L.length

theorem F9_spec (t : List Int) : ∃ s, F9 t = some s ∧ SrcOk s := by
  unfold F9
  refine ⟨_, guardP_ok ?_ rfl, ?_⟩
  · refine And.intro ?_ (And.intro ?_ trivial)
    · split <;> omega
    · split <;> omega
  · refine ⟨by simp, ?_, by simp⟩
    simp only [List.length_take]
    split <;> omega

theorem N_spec {n : Int} {s : TTreasuryplaySrc} (hs : SrcOk s) (hn : n ≤ 4611686018427387904) : ∃ v s', F19 n s = some (v, s') ∧ SrcOk s' ∧ 0 ≤ v ∧ (1 ≤ n → v < n) ∧ (n < 1 → v = 0) := by
  obtain ⟨h1, h2, h3⟩ := hs
  unfold F19
  by_cases hc : s.At ≥ (s.L.length : Int) ∨ n < 1
  · rw [if_pos (by rcases hc with hc | hc <;> simp [hc])]
    exact ⟨0, s, rfl, ⟨h1, h2, h3⟩, Int.le_refl _, fun h => by omega, fun _ => rfl⟩
  · rw [if_neg (by simp; omega)]
    have e1 : IntKind.i64.wrap (s.At + 1) = s.At + 1 := wrapId (by omega) (by omega)
    have e2 : IntKind.i64.wrap (s.At + 1 - 1) = s.At := by rw [wrapId (by omega) (by omega)]; omega
    rw [e1, e2]
    generalize s.L.getD s.At.toNat default = x
    have t1 : x.tmod n < n := Int.tmod_lt_of_pos x (by omega)
    have t2 : -n < x.tmod n := Int.lt_tmod_of_pos x (by omega)
    have e3 : IntKind.i64.wrap (x.tmod n + n) = x.tmod n + n := wrapId (by omega) (by omega)
    rw [e3]
    refine ⟨_, _, guardP_ok ?_ rfl, ⟨by simp; omega, h2, by simp; omega⟩, Int.tmod_nonneg _ (by omega), fun _ => Int.tmod_lt_of_pos _ (by omega), fun h => by omega⟩
    exact And.intro (by omega) (And.intro (by omega) (And.intro (by omega) trivial))

theorem Range_spec {lo hi : Int} {s : TTreasuryplaySrc} (hs : SrcOk s) (h0 : -1000000 ≤ lo) (h1 : lo ≤ hi) (h2 : hi ≤ 1000000) : ∃ v s', F23 lo hi s = some (v, s') ∧ SrcOk s' ∧ lo ≤ v ∧ v ≤ hi := by
  unfold F23
  rw [wrapId (n := hi - lo) (by omega) (by omega), wrapId (n := hi - lo + 1) (by omega) (by omega)]
  obtain ⟨v, s', h3, h4, h5, h6, _⟩ := N_spec (n := hi - lo + 1) hs (by omega)
  have := h6 (by omega)
  refine ⟨lo + v, s', bind_ok h3 ?_, h4, by omega, by omega⟩
  rw [wrapId (n := lo + v) (by omega) (by omega)]

theorem Pick_spec {l : List Int} {s : TTreasuryplaySrc} (hs : SrcOk s) (h0 : l ≠ []) (h1 : l.length ≤ 100) : ∃ v s', F15 l s = some (v, s') ∧ SrcOk s' ∧ v ∈ l := by
  unfold F15
  have hl : 1 ≤ l.length := by
    cases l with
    | nil => exact absurd rfl h0
    | cons a r => simp
  obtain ⟨v, s', h3, h4, h5, h6, _⟩ := N_spec (n := (l.length : Int)) hs (by omega)
  have := h6 (by omega)
  refine ⟨_, s', bind_ok h3 (guardP_ok (And.intro (by simpa using h5) (And.intro (by simp only; omega) trivial)) rfl), h4, ?_⟩
  simp only [List.getD_eq_getElem?_getD]
  rw [List.getElem?_eq_getElem (by omega)]
  exact List.getElem_mem _
end Go.Proofs.Ytkkdclpleghppaa
