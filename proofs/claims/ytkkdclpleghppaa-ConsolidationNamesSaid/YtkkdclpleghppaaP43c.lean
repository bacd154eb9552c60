/- A part of the proof: plain laws of what the functions compute. No condition. -/
import Derived.Test.YtkkdclpleghppaaP43b
namespace Go.Proofs.Ytkkdclpleghppaa
open Go Go.TA

theorem F67_spec (a b c : Int) : F67 a b c = some (decide (b ≤ a ∧ a ≤ c)) := by
  unfold F67
  rw [cond_and]
  congr 1
  rw [Bool.eq_iff_iff]
  simp

theorem F63_spec (p : TApiPosting) : F63 p = some (decide (postOk p)) := by
  unfold F63 F68
  simp only [F67_spec, F69_spec, Option.bind_some, cond_and]
  obtain ⟨r2, e2, a2, b2⟩ := optP_val (gs := [decide (1 ≤ p.Number ∧ p.Number ≤ 1000000) = true]) (x := decide (0 ≤ p.Day ∧ p.Day ≤ 36000))
  refine bind_ok e2 ?_
  obtain ⟨r3, e3, a3, b3⟩ := optP_val (gs := [(decide (1 ≤ p.Number ∧ p.Number ≤ 1000000) && r2) = true]) (x := decide (1 ≤ p.Entity ∧ p.Entity ≤ 10))
  refine bind_ok e3 ?_
  obtain ⟨r4, e4, a4, b4⟩ := optP_val (gs := [((decide (1 ≤ p.Number ∧ p.Number ≤ 1000000) && r2) && r3) = true]) (x := cls p.Debit)
  refine bind_ok e4 ?_
  obtain ⟨r5, e5, a5, b5⟩ := optP_val (gs := [(((decide (1 ≤ p.Number ∧ p.Number ≤ 1000000) && r2) && r3) && decide (r4 > 0)) = true]) (x := cls p.Credit)
  refine bind_ok e5 ?_
  obtain ⟨r6, e6, a6, b6⟩ := optP_val (gs := [(((((decide (1 ≤ p.Number ∧ p.Number ≤ 1000000) && r2) && r3) && decide (r4 > 0)) && decide (r5 > 0)) && (p.Debit != p.Credit)) = true]) (x := decide (1 ≤ p.Amount ∧ p.Amount ≤ 1000000000000))
  refine bind_ok e6 ?_
  obtain ⟨r7, e7, a7, b7⟩ := optP_val (gs := [((((((decide (1 ≤ p.Number ∧ p.Number ≤ 1000000) && r2) && r3) && decide (r4 > 0)) && decide (r5 > 0)) && (p.Debit != p.Credit)) && r6) = true]) (x := decide (0 ≤ p.Partner ∧ p.Partner ≤ 10))
  refine bind_ok e7 ?_
  obtain ⟨r8, e8, a8, b8⟩ := optP_val (gs := [((((((((decide (1 ≤ p.Number ∧ p.Number ≤ 1000000) && r2) && r3) && decide (r4 > 0)) && decide (r5 > 0)) && (p.Debit != p.Credit)) && r6) && r7) && (p.Partner != p.Entity)) = true]) (x := decide (0 ≤ p.Ref ∧ p.Ref ≤ 1000000))
  refine bind_ok e8 ?_
  congr 1
  rw [Bool.eq_iff_iff]
  simp only [AllP, and_true, Bool.and_eq_true, decide_eq_true_eq, bne_iff_ne, ne_eq] at *
  unfold postOk
  constructor
  · rintro ⟨⟨⟨⟨⟨⟨⟨⟨⟨h1, h2⟩, h3⟩, h4⟩, h5⟩, h6⟩, h7⟩, h8⟩, h9⟩, h10⟩
    have q2 := a2 h1
    have q3 := a3 ⟨h1, h2⟩
    have q4 := a4 ⟨⟨h1, h2⟩, h3⟩
    have q5 := a5 ⟨⟨⟨h1, h2⟩, h3⟩, h4⟩
    have q6 := a6 ⟨⟨⟨⟨⟨h1, h2⟩, h3⟩, h4⟩, h5⟩, h6⟩
    have q7 := a7 ⟨⟨⟨⟨⟨⟨h1, h2⟩, h3⟩, h4⟩, h5⟩, h6⟩, h7⟩
    have q8 := a8 ⟨⟨⟨⟨⟨⟨⟨⟨h1, h2⟩, h3⟩, h4⟩, h5⟩, h6⟩, h7⟩, h8⟩, h9⟩
    rw [h2] at q2; rw [h3] at q3; rw [h7] at q6; rw [h8] at q7; rw [h10] at q8
    exact ⟨h1, of_decide_eq_true q2.symm, of_decide_eq_true q3.symm, h6, cls_pos.1 (q4 ▸ h4), cls_pos.1 (q5 ▸ h5), of_decide_eq_true q6.symm, of_decide_eq_true q7.symm, h9, of_decide_eq_true q8.symm⟩
  · rintro ⟨h1, h2, h3, h6, h4, h5, h7, h8, h9, h10⟩
    have q2 : r2 = true := by rw [a2 h1]; simpa using h2
    have q3 : r3 = true := by rw [a3 ⟨h1, q2⟩]; simpa using h3
    have q4 : r4 > 0 := by rw [a4 ⟨⟨h1, q2⟩, q3⟩]; exact cls_pos.2 h4
    have q5 : r5 > 0 := by rw [a5 ⟨⟨⟨h1, q2⟩, q3⟩, q4⟩]; exact cls_pos.2 h5
    have q6 : r6 = true := by rw [a6 ⟨⟨⟨⟨⟨h1, q2⟩, q3⟩, q4⟩, q5⟩, h6⟩]; simpa using h7
    have q7 : r7 = true := by rw [a7 ⟨⟨⟨⟨⟨⟨h1, q2⟩, q3⟩, q4⟩, q5⟩, h6⟩, q6⟩]; simpa using h8
    have q8 : r8 = true := by rw [a8 ⟨⟨⟨⟨⟨⟨⟨⟨h1, q2⟩, q3⟩, q4⟩, q5⟩, h6⟩, q6⟩, q7⟩, h9⟩]; simpa using h10
    exact ⟨⟨⟨⟨⟨⟨⟨⟨⟨h1, q2⟩, q3⟩, q4⟩, q5⟩, h6⟩, q6⟩, q7⟩, h9⟩, q8⟩

/-! ## Ledgers -/
def at' (l : List TApiPosting) (i : Nat) : TApiPosting := l.getD i default
def bad (l : List TApiPosting) (i : Nat) : Bool := ((at' l i).Number != (i : Int) + 1) || (decide (0 < i) && decide ((at' l (i - 1)).Day > (at' l i).Day))
def chk (l : List TApiPosting) : Int :=
  if 400 < l.length then 3 else if (List.range l.length).any (fun i => !decide (postOk (at' l i))) = true then 85 else if (List.range l.length).any (bad l) = true then 86 else 0

theorem guardB {l : List TApiPosting} {i : Nat} (hi : i < l.length) (hl : l.length ≤ 400) :
    AllP [AllP [(decide ((i : Int) > 0)) = true, (((l.getD i default).Number) != (IntKind.i64.wrap ((i : Int) + 1))) = false] → ((0 : Int) ≤ (IntKind.i64.wrap ((i : Int) - 1))), AllP [(decide ((i : Int) > 0)) = true, (((l.getD i default).Number) != (IntKind.i64.wrap ((i : Int) + 1))) = false] → (((IntKind.i64.wrap ((i : Int) - 1))).toNat < l.length)] := by
  refine And.intro (fun h => ?_) (And.intro (fun h => ?_) trivial)
  · have := of_decide_eq_true h.1
    rw [wrapId (by omega) (by omega)]; omega
  · have := of_decide_eq_true h.1
    rw [wrapId (by omega) (by omega)]; omega

theorem badB {l : List TApiPosting} {i : Nat} (hi : i < l.length) (hl : l.length ≤ 400) :
    (bif (((l.getD i default).Number) != (IntKind.i64.wrap ((i : Int) + 1))) then true else (bif (decide ((i : Int) > 0)) then (decide (((l.getD (((IntKind.i64.wrap ((i : Int) - 1))).toNat) default).Day) > ((l.getD i default).Day))) else false)) = bad l i := by
  rw [cond_or, cond_and, wrapId (n := (i : Int) + 1) (by omega) (by omega)]
  unfold bad at'
  congr 1
  by_cases h : 0 < i
  · rw [wrapId (n := (i : Int) - 1) (by omega) (by omega), show ((i : Int) - 1).toNat = i - 1 by omega]
    congr 1
    simp
  · have : i = 0 := by omega
    subst this
    rfl

theorem F43_spec (l : TApiLedger) : F43 l = some (chk l.Postings) := by
  unfold F43 chk
  by_cases h : 400 < l.Postings.length
  · rw [if_pos (by simp; omega), if_pos h]
  · rw [if_neg (by simp; omega), if_neg h]
    have h1 : rangeM (F43_b1 l) l.Postings.length 0 () = _ := rangeM_any (c := 85) (fun i => !decide (postOk (at' l.Postings i))) fun i hi => by
      unfold F43_b1
      simp only [F46_spec, Option.bind_some]
      unfold at'
      cases decide (postOk (l.Postings.getD i default)) <;> rfl
    have h2 : rangeM (F43_b2 l) l.Postings.length 0 () = _ := rangeM_any (c := 86) (bad l.Postings) fun i hi => by
      unfold F43_b2
      rw [guardP_pos (guardB hi (by omega)), badB hi (by omega)]
      cases bad l.Postings i <;> rfl
    rw [h1, h2]
    cases (List.range l.Postings.length).any fun i => !decide (postOk (at' l.Postings i))
    · cases (List.range l.Postings.length).any (bad l.Postings) <;> rfl
    · rfl

theorem F50_spec (l : TApiLedger) : F50 l = some (chk l.Postings) := by
  unfold F50 chk
  by_cases h : 400 < l.Postings.length
  · rw [if_pos (by simp; omega), if_pos h]; rfl
  · rw [if_neg (by simp; omega), if_neg h]
    have h1 : F61_62 l.Postings = some ((List.range l.Postings.length).any fun i => !decide (postOk (at' l.Postings i))) := by
      unfold F61_62 F66_62
      have : rangeM (F66_62_b1 l.Postings) l.Postings.length 0 () = _ := rangeM_find (fun i => !decide (postOk (at' l.Postings i))) (fun i => (i : Int)) fun i hi => by
        unfold F66_62_b1 F62
        simp only [F63_spec, Option.bind_some]
        unfold at'
        cases decide (postOk (l.Postings.getD i default)) <;> rfl
      rw [this]
      cases hf : (List.range l.Postings.length).find? fun i => !decide (postOk (at' l.Postings i)) with
      | none =>
        have : (List.range l.Postings.length).any (fun i => !decide (postOk (at' l.Postings i))) = false := by
          rw [List.any_eq_false]
          exact fun x hx => List.find?_eq_none.1 hf x hx
        rw [this]; rfl
      | some i =>
        have : (List.range l.Postings.length).any (fun i => !decide (postOk (at' l.Postings i))) = true := List.any_eq_true.2 ⟨i, List.mem_of_find?_eq_some hf, List.find?_some (p := fun i => !decide (postOk (at' l.Postings i))) hf⟩
        rw [this]
        simp [outM]
    have h2 : rangeM (F50_b1 l) l.Postings.length 0 () = _ := rangeM_any (c := 86) (bad l.Postings) fun i hi => by
      unfold F50_b1
      rw [guardP_pos (guardB hi (by omega)), badB hi (by omega)]
      cases bad l.Postings i <;> rfl
    rw [h1, h2]
    cases (List.range l.Postings.length).any fun i => !decide (postOk (at' l.Postings i))
    · cases (List.range l.Postings.length).any (bad l.Postings) <;> rfl
    · rfl
end Go.Proofs.Ytkkdclpleghppaa
