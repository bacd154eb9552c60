/- A part of the proof: plain laws of what the functions compute. No condition. -/
import Derived.Test.YtkkdclpleghppaaP43a
namespace Go.Proofs.Ytkkdclpleghppaa
open Go Go.TA

/-! ## Postings and ledgers -/
def accOk (a : Int) : Prop := 100 ≤ a ∧ a ≤ 599
instance (a : Int) : Decidable (accOk a) := by unfold accOk; infer_instance

def postOk (p : TApiPosting) : Prop := (1 ≤ p.Number ∧ p.Number ≤ 1000000) ∧ (0 ≤ p.Day ∧ p.Day ≤ 36000) ∧ (1 ≤ p.Entity ∧ p.Entity ≤ 10) ∧ p.Debit ≠ p.Credit ∧ accOk p.Debit ∧ accOk p.Credit ∧
  (1 ≤ p.Amount ∧ p.Amount ≤ 1000000000000) ∧ (0 ≤ p.Partner ∧ p.Partner ≤ 10) ∧ p.Partner ≠ p.Entity ∧ (0 ≤ p.Ref ∧ p.Ref ≤ 1000000)
instance (p : TApiPosting) : Decidable (postOk p) := by unfold postOk; infer_instance

def cls (a : Int) : Int := if accOk a then a.tdiv 100 else 0
theorem cls_ne {a : Int} : cls a ≠ 0 ↔ accOk a := by
  unfold cls
  split
  · rename_i h
    unfold accOk at h
    have := Int.tdiv_eq_ediv_of_nonneg (a := a) (b := 100) (by omega)
    exact ⟨fun _ => h, fun _ => by omega⟩
  · rename_i h
    exact ⟨fun e => absurd rfl e, fun e => absurd e h⟩
theorem cls_pos {a : Int} : cls a > 0 ↔ accOk a := by
  unfold cls
  split
  · rename_i h
    unfold accOk at h
    have := Int.tdiv_eq_ediv_of_nonneg (a := a) (b := 100) (by omega)
    exact ⟨fun _ => h, fun _ => by omega⟩
  · rename_i h
    exact ⟨fun e => by omega, fun e => absurd e h⟩

theorem F44_spec (a : Int) : F44 a = some (cls a) := by
  unfold F44 cls
  by_cases h0 : accOk a
  · have h := h0
    unfold accOk at h
    have := Int.tdiv_eq_ediv_of_nonneg (a := a) (b := 100) (by omega)
    rw [if_neg (by simp; omega), if_pos h0, wrapId (by omega) (by omega)]
  · have h := h0
    unfold accOk at h
    rw [if_pos (by simp; omega), if_neg h0]

theorem F69_spec (a : Int) : F69 a = some (cls a) := by
  unfold F69 F67 cls
  by_cases h0 : accOk a
  · have h := h0
    unfold accOk at h
    have := Int.tdiv_eq_ediv_of_nonneg (a := a) (b := 100) (by omega)
    refine bind_ok rfl ?_
    rw [if_neg (by simp; omega), if_pos h0, wrapId (by omega) (by omega)]
  · have h := h0
    unfold accOk at h
    refine bind_ok rfl ?_
    rw [if_pos (by simp; omega), if_neg h0]

theorem optP_val {α : Type} [Inhabited α] {gs : List Prop} {x : α} : ∃ r, optP gs (some x) = some r ∧ (AllP gs → r = x) ∧ (¬ AllP gs → r = default) := by
  by_cases h : AllP gs
  · exact ⟨x, optP_pos h, fun _ => rfl, fun e => absurd h e⟩
  · exact ⟨default, optP_none h, fun e => absurd e h, fun _ => rfl⟩

theorem F46_spec (p : TApiPosting) : F46 p = some (decide (postOk p)) := by
  unfold F46
  rw [F44_spec, F44_spec]
  unfold F60
  obtain ⟨r1, e1, a1, b1⟩ := optP_val (gs := [(bif (decide (p.Number ≥ 1)) then (decide (p.Number ≤ 1000000)) else false) = true]) (x := (bif (decide (p.Day ≥ 0)) then (decide (p.Day ≤ 36000)) else false))
  refine bind_ok e1 ?_
  obtain ⟨r2, e2, a2, b2⟩ := optP_val (gs := [(bif (bif (bif (bif (bif (decide (p.Number ≥ 1)) then (decide (p.Number ≤ 1000000)) else false) then r1 else false) then (decide (p.Entity ≥ 1)) else false) then (decide (p.Entity ≤ 10)) else false) then (p.Debit != p.Credit) else false) = true]) (x := cls p.Debit)
  refine bind_ok e2 ?_
  obtain ⟨r3, e3, a3, b3⟩ := optP_val (gs := [(bif (bif (bif (bif (bif (bif (decide (p.Number ≥ 1)) then (decide (p.Number ≤ 1000000)) else false) then r1 else false) then (decide (p.Entity ≥ 1)) else false) then (decide (p.Entity ≤ 10)) else false) then (p.Debit != p.Credit) else false) then (r2 != 0) else false) = true]) (x := cls p.Credit)
  refine bind_ok e3 ?_
  congr 1
  rw [Bool.eq_iff_iff]
  simp only [AllP, and_true, cond_and, Bool.and_eq_true, decide_eq_true_eq, bne_iff_ne, ne_eq] at *
  unfold postOk
  constructor
  · rintro ⟨⟨⟨⟨⟨⟨⟨⟨⟨⟨⟨⟨⟨⟨h1, h2⟩, h3⟩, h4⟩, h5⟩, h6⟩, h7⟩, h8⟩, h9⟩, h10⟩, h11⟩, h12⟩, h13⟩, h14⟩, h15⟩
    have q1 := a1 ⟨h1, h2⟩
    rw [h3] at q1
    have q1' := q1.symm
    simp only [Bool.and_eq_true, decide_eq_true_eq] at q1'
    have q2 := a2 ⟨⟨⟨⟨⟨h1, h2⟩, h3⟩, h4⟩, h5⟩, h6⟩
    have q3 := a3 ⟨⟨⟨⟨⟨⟨h1, h2⟩, h3⟩, h4⟩, h5⟩, h6⟩, h7⟩
    exact ⟨⟨h1, h2⟩, q1', ⟨h4, h5⟩, h6, cls_ne.1 (q2 ▸ h7), cls_ne.1 (q3 ▸ h8), ⟨h9, h10⟩, ⟨h11, h12⟩, h13, h14, h15⟩
  · rintro ⟨⟨h1, h2⟩, ⟨h3, h3'⟩, ⟨h4, h5⟩, h6, h7, h8, ⟨h9, h10⟩, ⟨h11, h12⟩, h13, h14, h15⟩
    have q1 : r1 = true := by rw [a1 ⟨h1, h2⟩]; simp [h3, h3']
    have q2 := a2 ⟨⟨⟨⟨⟨h1, h2⟩, q1⟩, h4⟩, h5⟩, h6⟩
    have q2' : ¬ r2 = 0 := by rw [q2]; exact cls_ne.2 h7
    have q3 := a3 ⟨⟨⟨⟨⟨⟨h1, h2⟩, q1⟩, h4⟩, h5⟩, h6⟩, q2'⟩
    have q3' : ¬ r3 = 0 := by rw [q3]; exact cls_ne.2 h8
    exact ⟨⟨⟨⟨⟨⟨⟨⟨⟨⟨⟨⟨⟨⟨h1, h2⟩, q1⟩, h4⟩, h5⟩, h6⟩, q2'⟩, q3'⟩, h9⟩, h10⟩, h11⟩, h12⟩, h13⟩, h14⟩, h15⟩
end Go.Proofs.Ytkkdclpleghppaa
