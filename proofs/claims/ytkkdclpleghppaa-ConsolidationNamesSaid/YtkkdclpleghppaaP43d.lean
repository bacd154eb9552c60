/- A part of the proof: plain laws of what the functions compute. No condition. -/
import Derived.Test.YtkkdclpleghppaaP43c
namespace Go.Proofs.Ytkkdclpleghppaa
open Go Go.TA

/-- A right ledger. -/
structure Good (l : List TApiPosting) : Prop where
  len : l.length ≤ 400
  post : ∀ i, i < l.length → postOk (at' l i)
  num : ∀ i, i < l.length → (at' l i).Number = (i : Int) + 1
  day : ∀ i, 0 < i → i < l.length → (at' l (i - 1)).Day ≤ (at' l i).Day

theorem chk_good {l : List TApiPosting} : chk l = 0 ↔ Good l := by
  unfold chk
  constructor
  · intro h
    split at h
    · cases h
    · rename_i h1
      split at h
      · cases h
      · rename_i h2
        split at h
        · cases h
        · rename_i h3
          rw [Bool.not_eq_true, List.any_eq_false] at h2 h3
          have hb : ∀ i, i < l.length → bad l i = false := fun i hi => by simpa using h3 i (List.mem_range.2 hi)
          refine ⟨by omega, fun i hi => by simpa using h2 i (List.mem_range.2 hi), fun i hi => ?_, fun i h0 hi => ?_⟩
          · have := hb i hi
            unfold bad at this
            simp at this
            exact this.1
          · have := hb i hi
            unfold bad at this
            simp at this
            exact this.2 h0
  · intro h
    rw [if_neg (by have := h.len; omega), if_neg, if_neg]
    · rw [Bool.not_eq_true, List.any_eq_false]
      intro i hi
      have hi := List.mem_range.1 hi
      unfold bad
      rw [Bool.not_eq_true, Bool.or_eq_false_iff]
      refine ⟨by rw [h.num i hi]; simp, ?_⟩
      by_cases h0 : 0 < i
      · have := h.day i h0 hi
        simp; omega
      · simp [h0]
    · rw [Bool.not_eq_true, List.any_eq_false]
      intro i hi
      simp [h.post i (List.mem_range.1 hi)]

theorem good_nil : Good [] := ⟨by simp, fun i hi => by simp at hi, fun i hi => by simp at hi, fun i _ hi => by simp at hi⟩

/-- The day of the last posting. -/
def lastDay (l : List TApiPosting) : Int := if 0 < l.length then (at' l (l.length - 1)).Day else 0

theorem at'_app {l : List TApiPosting} {p : TApiPosting} {i : Nat} : at' (l ++ [p]) i = if i < l.length then at' l i else if i = l.length then p else default := by
  unfold at'
  simp only [List.getD_eq_getElem?_getD]
  split
  · rw [List.getElem?_append_left (by assumption)]
  · rw [List.getElem?_append_right (by omega)]
    split
    · rename_i h; subst h; simp
    · rw [List.getElem?_eq_none (by simp; omega)]; rfl

theorem Good.app {l : List TApiPosting} {p : TApiPosting} (h : Good l) (hl : l.length < 400) (hp : postOk p) (hn : p.Number = (l.length : Int) + 1) (hd : lastDay l ≤ p.Day) : Good (l ++ [p]) := by
  refine ⟨by simp; omega, fun i hi => ?_, fun i hi => ?_, fun i h0 hi => ?_⟩
  · rw [at'_app]
    split
    · exact h.post i (by assumption)
    · rw [if_pos (by simp at hi; omega)]; exact hp
  · rw [at'_app]
    split
    · exact h.num i (by assumption)
    · rw [if_pos (by simp at hi; omega), hn]; simp at hi; omega
  · simp at hi
    rw [at'_app, at'_app, if_pos (by omega)]
    split
    · exact h.day i h0 (by assumption)
    · rw [if_pos (by omega)]
      have : i = l.length := by omega
      subst this
      unfold lastDay at hd
      rw [if_pos h0] at hd
      exact hd

/-- What Post answers, for a right ledger. -/
def postR (l : List TApiPosting) (p : TApiPosting) : TApiLedger × Int :=
  if ¬ postOk p then (⟨[]⟩, 85) else if l.length = 400 then (⟨[]⟩, 3) else if p.Number ≠ (l.length : Int) + 1 then (⟨[]⟩, 65) else if 0 < l.length ∧ p.Day < lastDay l then (⟨[]⟩, 8) else (⟨l ++ [p]⟩, 0)

theorem F16_spec {l : List TApiPosting} (hl : Good l) (p : TApiPosting) : F16 ⟨l⟩ p = some (postR l p) := by
  have hlen := hl.len
  unfold F16 postR
  rw [F43_spec, F46_spec]
  simp only [Option.bind_some, chk_good.2 hl]
  rw [if_neg (by simp)]
  by_cases h1 : postOk p
  · rw [if_neg (c := (!decide (postOk p)) = true) (by simp [h1]), if_neg (c := ¬ postOk p) (by simp [h1])]
    by_cases h2 : l.length = 400
    · rw [if_pos (c := ((l.length : Int) == 400) = true) (by simp [h2]), if_pos (c := l.length = 400) h2]; rfl
    · rw [if_neg (c := ((l.length : Int) == 400) = true) (by simp; omega), if_neg (c := l.length = 400) h2]
      rw [wrapId (n := (l.length : Int) + 1) (by omega) (by omega)]
      by_cases h3 : p.Number ≠ (l.length : Int) + 1
      · rw [if_pos (c := (p.Number != (l.length : Int) + 1) = true) (by simpa using h3), if_pos h3]; rfl
      · rw [if_neg (c := (p.Number != (l.length : Int) + 1) = true) (by simpa using h3), if_neg h3]
        have hg : AllP [AllP [(decide ((l.length : Int) > 0)) = true] → ((0 : Int) ≤ (IntKind.i64.wrap ((l.length : Int) - 1))), AllP [(decide ((l.length : Int) > 0)) = true] → (((IntKind.i64.wrap ((l.length : Int) - 1))).toNat < l.length)] := by
          refine And.intro (fun h => ?_) (And.intro (fun h => ?_) trivial)
          · have := of_decide_eq_true h.1
            rw [wrapId (by omega) (by omega)]; omega
          · have := of_decide_eq_true h.1
            rw [wrapId (by omega) (by omega)]; omega
        rw [guardP_pos hg]
        have hc : (bif (decide ((l.length : Int) > 0)) then (decide (p.Day < ((l.getD (((IntKind.i64.wrap ((l.length : Int) - 1))).toNat) default).Day))) else false) = decide (0 < l.length ∧ p.Day < lastDay l) := by
          rw [cond_and]
          by_cases h0 : 0 < l.length
          · rw [wrapId (n := (l.length : Int) - 1) (by omega) (by omega), show ((l.length : Int) - 1).toNat = l.length - 1 by omega]
            unfold lastDay at'
            simp [h0]
          · have : l.length = 0 := by omega
            simp [this]
        rw [hc]
        by_cases h4 : 0 < l.length ∧ p.Day < lastDay l
        · rw [if_pos (c := decide (0 < l.length ∧ p.Day < lastDay l) = true) (by simpa using h4), if_pos h4]; rfl
        · rw [if_neg (c := decide (0 < l.length ∧ p.Day < lastDay l) = true) (by simpa using h4), if_neg h4]
          simp only [outM]
          exact guardP_ok (And.intro (by omega) (And.intro (by omega) trivial)) (guardP_ok (by simp; omega) rfl)
  · rw [if_pos (c := (!decide (postOk p)) = true) (by simp [h1]), if_pos h1]; rfl

/-- Whatever is posted, what comes of it with OK is right. -/
theorem postR_good {l : List TApiPosting} (hl : Good l) {p : TApiPosting} (h : (postR l p).2 = 0) : Good (postR l p).1.Postings ∧ (postR l p).1 = ⟨l ++ [p]⟩ ∧ postOk p := by
  unfold postR at *
  split at h
  · cases h
  · rename_i h1
    split at h
    · cases h
    · rename_i h2
      split at h
      · cases h
      · rename_i h3
        split at h
        · cases h
        · rename_i h4
          have hlen := hl.len
          have h1 : postOk p := by simpa using h1
          rw [if_neg (by simpa using h1), if_neg h2, if_neg h3, if_neg h4]
          refine ⟨hl.app (by omega) h1 (by simpa using h3) ?_, rfl, h1⟩
          by_cases h0 : 0 < l.length
          · have : ¬ p.Day < lastDay l := fun e => h4 ⟨h0, e⟩
            omega
          · unfold lastDay
            rw [if_neg h0]
            exact h1.2.1.1
end Go.Proofs.Ytkkdclpleghppaa
