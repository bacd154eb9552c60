/- A part of the proof: laws over any program of the abstract machine. No condition. -/
import Derived.Test.YtkkdclpleghppaaTaFn
namespace Go.TA
open Go

/-! ## What loops compute -/
section
variable {σ ρ : Type}
theorem rangeM_inv' {body : Nat → σ → Option (Step σ ρ)} {n : Nat} (I : Nat → σ → Prop) (hs : ∀ i s, i < n → I i s → ∃ s', body i s = some (.cont s') ∧ I (i + 1) s') :
    ∀ (k i : Nat) (s : σ), i + k = n → I i s → ∃ s', rangeM body k i s = some (.next s') ∧ I n s'
  | 0, i, s, hk, h => ⟨s, rfl, by have : i = n := by omega
                                  subst this; exact h⟩
  | k + 1, i, s, hk, h => by
    obtain ⟨s1, h1, h2⟩ := hs i s (by omega) h
    obtain ⟨s2, h3, h4⟩ := rangeM_inv' I hs k (i + 1) s1 (by omega) h2
    exact ⟨s2, by simp only [rangeM, h1, h3], h4⟩

/-- A loop that goes through: what holds round by round holds behind it. -/
theorem rangeM_inv {body : Nat → σ → Option (Step σ ρ)} {n : Nat} (I : Nat → σ → Prop) {s0 : σ} (h0 : I 0 s0) (hs : ∀ i s, i < n → I i s → ∃ s', body i s = some (.cont s') ∧ I (i + 1) s') :
    ∃ s', rangeM body n 0 s0 = some (.next s') ∧ I n s' := rangeM_inv' I hs n 0 s0 (Nat.zero_add n) h0

theorem rangeM_any' {body : Nat → Unit → Option (Step Unit ρ)} {n : Nat} {c : ρ} (p : Nat → Bool) (hs : ∀ i, i < n → body i () = some (if p i = true then .ret c else .cont ())) :
    ∀ (k i : Nat), i + k = n → rangeM body k i () = some (if (List.range' i k).any p = true then .ret c else .next ())
  | 0, i, hk => rfl
  | k + 1, i, hk => by
    simp only [rangeM, hs i (by omega), List.range'_succ, List.any_cons]
    cases hp : p i with
    | true => simp
    | false => simp only [Bool.false_eq_true, if_false]; exact rangeM_any' p hs k (i + 1) (by omega)

/-- A loop that looks for a place: whether there is one. -/
theorem rangeM_any {body : Nat → Unit → Option (Step Unit ρ)} {n : Nat} {c : ρ} (p : Nat → Bool) (hs : ∀ i, i < n → body i () = some (if p i = true then .ret c else .cont ())) :
    rangeM body n 0 () = some (if (List.range n).any p = true then .ret c else .next ()) := by
  have := rangeM_any' p hs n 0 (Nat.zero_add n)
  rwa [← List.range_eq_range'] at this

theorem rangeM_find' {body : Nat → Unit → Option (Step Unit ρ)} {n : Nat} (p : Nat → Bool) (v : Nat → ρ) (hs : ∀ i, i < n → body i () = some (if p i = true then .ret (v i) else .cont ())) :
    ∀ (k i : Nat), i + k = n → rangeM body k i () = some (match (List.range' i k).find? p with | some j => .ret (v j) | none => .next ())
  | 0, i, hk => rfl
  | k + 1, i, hk => by
    simp only [rangeM, hs i (by omega), List.range'_succ, List.find?_cons]
    cases hp : p i with
    | true => simp
    | false => simp only [Bool.false_eq_true, if_false]; exact rangeM_find' p v hs k (i + 1) (by omega)

/-- The same, with the place. -/
theorem rangeM_find {body : Nat → Unit → Option (Step Unit ρ)} {n : Nat} (p : Nat → Bool) (v : Nat → ρ) (hs : ∀ i, i < n → body i () = some (if p i = true then .ret (v i) else .cont ())) :
    rangeM body n 0 () = some (match (List.range n).find? p with | some j => .ret (v j) | none => .next ()) := by
  have := rangeM_find' p v hs n 0 (Nat.zero_add n)
  rwa [← List.range_eq_range'] at this

/-- A loop with a measure. -/
theorem iterM_inv {step : σ → Option (Step σ ρ)} (m : σ → Nat) (I J : σ → Prop) (hs : ∀ s, I s → (∃ s', step s = some (.cont s') ∧ I s' ∧ m s' < m s) ∨ ∃ s', step s = some (.brk s') ∧ J s') :
    ∀ (n : Nat) (s : σ), m s < n → I s → ∃ s', iterM step s = some (.next s') ∧ J s'
  | 0, s, hn, _ => by omega
  | n + 1, s, hn, h => by
    rw [iterM_eq]
    rcases hs s h with ⟨s', h1, h2, h3⟩ | ⟨s', h1, h2⟩
    · obtain ⟨s2, h4, h5⟩ := iterM_inv m I J hs n s' (by omega) h2
      exact ⟨s2, by rw [h1]; exact h4, h5⟩
    · exact ⟨s', by rw [h1], h2⟩
end

theorem guardP_ok {α : Type} {p : Prop} {k : Option α} {r : α} (hp : p) (h : k = some r) : guardP p k = some r := by rw [guardP_pos hp, h]
theorem bind_ok {α β : Type} {x : Option α} {f : α → Option β} {a : α} {r : β} (hx : x = some a) (h : f a = some r) : x.bind f = some r := by rw [hx]; exact h
theorem cond_and (a b : Bool) : (bif a then b else false) = (a && b) := by cases a <;> rfl
theorem cond_or (a b : Bool) : (bif a then true else b) = (a || b) := by cases a <;> rfl
theorem wrapId {n : Int} (h1 : -9223372036854775808 ≤ n) (h2 : n < 9223372036854775808) : IntKind.i64.wrap n = n := wrap_i64 (by omega) (by omega)
theorem optP_pos {α : Type} [Inhabited α] {gs : List Prop} {k : Option α} (h : AllP gs) : optP gs k = k := by unfold optP; rw [if_pos h]
theorem optP_none {α : Type} [Inhabited α] {gs : List Prop} {k : Option α} (h : ¬ AllP gs) : optP gs k = some default := by unfold optP; rw [if_neg h]
theorem optD_pos {α : Type} {gs : List Prop} {k : Option α} {d : α} (h : AllP gs) : optD gs k d = k := by unfold optD; rw [if_pos h]
theorem optD_none {α : Type} {gs : List Prop} {k : Option α} {d : α} (h : ¬ AllP gs) : optD gs k d = some d := by unfold optD; rw [if_neg h]
end Go.TA
