/- A part of the proof: plain laws of what the functions compute. No condition. -/
import Derived.Test.YtkkdclpleghppaaTaPlain
import Derived.Test.YtkkdclpleghppaaG43D
namespace Go.Proofs.Ytkkdclpleghppaa
open Go Go.TA

/-! ## The source of numbers -/
def SrcOk (s : TTreasuryplaySrc) : Prop := 0 ≤ s.At ∧ s.L.length ≤ 900 ∧ s.At ≤ s.L.length

theorem F9_spec (t : List Int) : ∃ s, F9 t = some s ∧ SrcOk s := by
  unfold F9
  refine ⟨_, guardP_ok ?_ rfl, ?_⟩
  · refine And.intro ?_ (And.intro ?_ trivial)
    · split <;> omega
    · split <;> omega
  · refine ⟨by simp, ?_, by simp⟩
    simp only [List.length_take]
    split <;> omega

theorem N_spec {n : Int} {s : TTreasuryplaySrc} (hs : SrcOk s) (hn : n ≤ 4611686018427387904) : ∃ v s', F19 n s = some (v, s') ∧ SrcOk s' ∧ 0 ≤ v ∧ (1 ≤ n → v < n) ∧ (n < 1 → v = 0) := by
  obtain ⟨h1, h2, h3⟩ := hs
  unfold F19
  by_cases hc : s.At ≥ (s.L.length : Int) ∨ n < 1
  · rw [if_pos (by rcases hc with hc | hc <;> simp [hc])]
    exact ⟨0, s, rfl, ⟨h1, h2, h3⟩, Int.le_refl _, fun h => by omega, fun _ => rfl⟩
  · rw [if_neg (by simp; omega)]
    have e1 : IntKind.i64.wrap (s.At + 1) = s.At + 1 := wrapId (by omega) (by omega)
    have e2 : IntKind.i64.wrap (s.At + 1 - 1) = s.At := by rw [wrapId (by omega) (by omega)]; omega
    rw [e1, e2]
    generalize s.L.getD s.At.toNat default = x
    have t1 : x.tmod n < n := Int.tmod_lt_of_pos x (by omega)
    have t2 : -n < x.tmod n := Int.lt_tmod_of_pos x (by omega)
    have e3 : IntKind.i64.wrap (x.tmod n + n) = x.tmod n + n := wrapId (by omega) (by omega)
    rw [e3]
    refine ⟨_, _, guardP_ok ?_ rfl, ⟨by simp; omega, h2, by simp; omega⟩, Int.tmod_nonneg _ (by omega), fun _ => Int.tmod_lt_of_pos _ (by omega), fun h => by omega⟩
    exact And.intro (by omega) (And.intro (by omega) (And.intro (by omega) trivial))

theorem Range_spec {lo hi : Int} {s : TTreasuryplaySrc} (hs : SrcOk s) (h0 : -1000000 ≤ lo) (h1 : lo ≤ hi) (h2 : hi ≤ 1000000) : ∃ v s', F23 lo hi s = some (v, s') ∧ SrcOk s' ∧ lo ≤ v ∧ v ≤ hi := by
  unfold F23
  rw [wrapId (n := hi - lo) (by omega) (by omega), wrapId (n := hi - lo + 1) (by omega) (by omega)]
  obtain ⟨v, s', h3, h4, h5, h6, _⟩ := N_spec (n := hi - lo + 1) hs (by omega)
  have := h6 (by omega)
  refine ⟨lo + v, s', bind_ok h3 ?_, h4, by omega, by omega⟩
  rw [wrapId (n := lo + v) (by omega) (by omega)]

theorem Pick_spec {l : List Int} {s : TTreasuryplaySrc} (hs : SrcOk s) (h0 : l ≠ []) (h1 : l.length ≤ 100) : ∃ v s', F15 l s = some (v, s') ∧ SrcOk s' ∧ v ∈ l := by
  unfold F15
  have hl : 1 ≤ l.length := by
    cases l with
    | nil => exact absurd rfl h0
    | cons a r => simp
  obtain ⟨v, s', h3, h4, h5, h6, _⟩ := N_spec (n := (l.length : Int)) hs (by omega)
  have := h6 (by omega)
  refine ⟨_, s', bind_ok h3 (guardP_ok (And.intro (by simpa using h5) (And.intro (by simp only; omega) trivial)) rfl), h4, ?_⟩
  simp only [List.getD_eq_getElem?_getD]
  rw [List.getElem?_eq_getElem (by omega)]
  exact List.getElem_mem _
end Go.Proofs.Ytkkdclpleghppaa

namespace Go.Proofs.Ytkkdclpleghppaa
open Go Go.TA

/-! ## Postings and ledgers -/
def accOk (a : Int) : Prop := 100 ≤ a ∧ a ≤ 599
instance (a : Int) : Decidable (accOk a) := by unfold accOk; infer_instance

def postOk (p : TApiPosting) : Prop := (1 ≤ p.Number ∧ p.Number ≤ 1000000) ∧ (0 ≤ p.Day ∧ p.Day ≤ 36000) ∧ (1 ≤ p.Entity ∧ p.Entity ≤ 10) ∧ p.Debit ≠ p.Credit ∧ accOk p.Debit ∧ accOk p.Credit ∧
  (1 ≤ p.Amount ∧ p.Amount ≤ 1000000000000) ∧ (0 ≤ p.Partner ∧ p.Partner ≤ 10) ∧ p.Partner ≠ p.Entity ∧ (0 ≤ p.Ref ∧ p.Ref ≤ 1000000)
instance (p : TApiPosting) : Decidable (postOk p) := by unfold postOk; infer_instance

def cls (a : Int) : Int := if accOk a then a.tdiv 100 else 0
theorem cls_ne {a : Int} : cls a ≠ 0 ↔ accOk a := by
  unfold cls
  split
  · rename_i h
    unfold accOk at h
    have := Int.tdiv_eq_ediv_of_nonneg (a := a) (b := 100) (by omega)
    exact ⟨fun _ => h, fun _ => by omega⟩
  · rename_i h
    exact ⟨fun e => absurd rfl e, fun e => absurd e h⟩
theorem cls_pos {a : Int} : cls a > 0 ↔ accOk a := by
  unfold cls
  split
  · rename_i h
    unfold accOk at h
    have := Int.tdiv_eq_ediv_of_nonneg (a := a) (b := 100) (by omega)
    exact ⟨fun _ => h, fun _ => by omega⟩
  · rename_i h
    exact ⟨fun e => by omega, fun e => absurd e h⟩

theorem F44_spec (a : Int) : F44 a = some (cls a) := by
  unfold F44 cls
  by_cases h0 : accOk a
  · have h := h0
    unfold accOk at h
    have := Int.tdiv_eq_ediv_of_nonneg (a := a) (b := 100) (by omega)
    rw [if_neg (by simp; omega), if_pos h0, wrapId (by omega) (by omega)]
  · have h := h0
    unfold accOk at h
    rw [if_pos (by simp; omega), if_neg h0]

theorem F69_spec (a : Int) : F69 a = some (cls a) := by
  unfold F69 F67 cls
  by_cases h0 : accOk a
  · have h := h0
    unfold accOk at h
    have := Int.tdiv_eq_ediv_of_nonneg (a := a) (b := 100) (by omega)
    refine bind_ok rfl ?_
    rw [if_neg (by simp; omega), if_pos h0, wrapId (by omega) (by omega)]
  · have h := h0
    unfold accOk at h
    refine bind_ok rfl ?_
    rw [if_pos (by simp; omega), if_neg h0]

theorem optP_val {α : Type} [Inhabited α] {gs : List Prop} {x : α} : ∃ r, optP gs (some x) = some r ∧ (AllP gs → r = x) ∧ (¬ AllP gs → r = default) := by
  by_cases h : AllP gs
  · exact ⟨x, optP_pos h, fun _ => rfl, fun e => absurd h e⟩
  · exact ⟨default, optP_none h, fun e => absurd e h, fun _ => rfl⟩

theorem F46_spec (p : TApiPosting) : F46 p = some (decide (postOk p)) := by
  unfold F46
  rw [F44_spec, F44_spec]
  unfold F60
  obtain ⟨r1, e1, a1, b1⟩ := optP_val (gs := [(bif (decide (p.Number ≥ 1)) then (decide (p.Number ≤ 1000000)) else false) = true]) (x := (bif (decide (p.Day ≥ 0)) then (decide (p.Day ≤ 36000)) else false))
  refine bind_ok e1 ?_
  obtain ⟨r2, e2, a2, b2⟩ := optP_val (gs := [(bif (bif (bif (bif (bif (decide (p.Number ≥ 1)) then (decide (p.Number ≤ 1000000)) else false) then r1 else false) then (decide (p.Entity ≥ 1)) else false) then (decide (p.Entity ≤ 10)) else false) then (p.Debit != p.Credit) else false) = true]) (x := cls p.Debit)
  refine bind_ok e2 ?_
  obtain ⟨r3, e3, a3, b3⟩ := optP_val (gs := [(bif (bif (bif (bif (bif (bif (decide (p.Number ≥ 1)) then (decide (p.Number ≤ 1000000)) else false) then r1 else false) then (decide (p.Entity ≥ 1)) else false) then (decide (p.Entity ≤ 10)) else false) then (p.Debit != p.Credit) else false) then (r2 != 0) else false) = true]) (x := cls p.Credit)
  refine bind_ok e3 ?_
  congr 1
  rw [Bool.eq_iff_iff]
  simp only [AllP, and_true, cond_and, Bool.and_eq_true, decide_eq_true_eq, bne_iff_ne, ne_eq] at *
  unfold postOk
  constructor
  · rintro ⟨⟨⟨⟨⟨⟨⟨⟨⟨⟨⟨⟨⟨⟨h1, h2⟩, h3⟩, h4⟩, h5⟩, h6⟩, h7⟩, h8⟩, h9⟩, h10⟩, h11⟩, h12⟩, h13⟩, h14⟩, h15⟩
    have q1 := a1 ⟨h1, h2⟩
    rw [h3] at q1
    have q1' := q1.symm
    simp only [Bool.and_eq_true, decide_eq_true_eq] at q1'
    have q2 := a2 ⟨⟨⟨⟨⟨h1, h2⟩, h3⟩, h4⟩, h5⟩, h6⟩
    have q3 := a3 ⟨⟨⟨⟨⟨⟨h1, h2⟩, h3⟩, h4⟩, h5⟩, h6⟩, h7⟩
    exact ⟨⟨h1, h2⟩, q1', ⟨h4, h5⟩, h6, cls_ne.1 (q2 ▸ h7), cls_ne.1 (q3 ▸ h8), ⟨h9, h10⟩, ⟨h11, h12⟩, h13, h14, h15⟩
  · rintro ⟨⟨h1, h2⟩, ⟨h3, h3'⟩, ⟨h4, h5⟩, h6, h7, h8, ⟨h9, h10⟩, ⟨h11, h12⟩, h13, h14, h15⟩
    have q1 : r1 = true := by rw [a1 ⟨h1, h2⟩]; simp [h3, h3']
    have q2 := a2 ⟨⟨⟨⟨⟨h1, h2⟩, q1⟩, h4⟩, h5⟩, h6⟩
    have q2' : ¬ r2 = 0 := by rw [q2]; exact cls_ne.2 h7
    have q3 := a3 ⟨⟨⟨⟨⟨⟨h1, h2⟩, q1⟩, h4⟩, h5⟩, h6⟩, q2'⟩
    have q3' : ¬ r3 = 0 := by rw [q3]; exact cls_ne.2 h8
    exact ⟨⟨⟨⟨⟨⟨⟨⟨⟨⟨⟨⟨⟨⟨h1, h2⟩, q1⟩, h4⟩, h5⟩, h6⟩, q2'⟩, q3'⟩, h9⟩, h10⟩, h11⟩, h12⟩, h13⟩, h14⟩, h15⟩
end Go.Proofs.Ytkkdclpleghppaa

namespace Go.Proofs.Ytkkdclpleghppaa
open Go Go.TA

theorem F67_spec (a b c : Int) : F67 a b c = some (decide (b ≤ a ∧ a ≤ c)) := by
  unfold F67
  rw [cond_and]
  congr 1
  rw [Bool.eq_iff_iff]
  simp

theorem F63_spec (p : TApiPosting) : F63 p = some (decide (postOk p)) := by
  unfold F63 F68
  simp only [F67_spec, F69_spec, Option.bind_some, cond_and]
  obtain ⟨r2, e2, a2, b2⟩ := optP_val (gs := [decide (1 ≤ p.Number ∧ p.Number ≤ 1000000) = true]) (x := decide (0 ≤ p.Day ∧ p.Day ≤ 36000))
  refine bind_ok e2 ?_
  obtain ⟨r3, e3, a3, b3⟩ := optP_val (gs := [(decide (1 ≤ p.Number ∧ p.Number ≤ 1000000) && r2) = true]) (x := decide (1 ≤ p.Entity ∧ p.Entity ≤ 10))
  refine bind_ok e3 ?_
  obtain ⟨r4, e4, a4, b4⟩ := optP_val (gs := [((decide (1 ≤ p.Number ∧ p.Number ≤ 1000000) && r2) && r3) = true]) (x := cls p.Debit)
  refine bind_ok e4 ?_
  obtain ⟨r5, e5, a5, b5⟩ := optP_val (gs := [(((decide (1 ≤ p.Number ∧ p.Number ≤ 1000000) && r2) && r3) && decide (r4 > 0)) = true]) (x := cls p.Credit)
  refine bind_ok e5 ?_
  obtain ⟨r6, e6, a6, b6⟩ := optP_val (gs := [(((((decide (1 ≤ p.Number ∧ p.Number ≤ 1000000) && r2) && r3) && decide (r4 > 0)) && decide (r5 > 0)) && (p.Debit != p.Credit)) = true]) (x := decide (1 ≤ p.Amount ∧ p.Amount ≤ 1000000000000))
  refine bind_ok e6 ?_
  obtain ⟨r7, e7, a7, b7⟩ := optP_val (gs := [((((((decide (1 ≤ p.Number ∧ p.Number ≤ 1000000) && r2) && r3) && decide (r4 > 0)) && decide (r5 > 0)) && (p.Debit != p.Credit)) && r6) = true]) (x := decide (0 ≤ p.Partner ∧ p.Partner ≤ 10))
  refine bind_ok e7 ?_
  obtain ⟨r8, e8, a8, b8⟩ := optP_val (gs := [((((((((decide (1 ≤ p.Number ∧ p.Number ≤ 1000000) && r2) && r3) && decide (r4 > 0)) && decide (r5 > 0)) && (p.Debit != p.Credit)) && r6) && r7) && (p.Partner != p.Entity)) = true]) (x := decide (0 ≤ p.Ref ∧ p.Ref ≤ 1000000))
  refine bind_ok e8 ?_
  congr 1
  rw [Bool.eq_iff_iff]
  simp only [AllP, and_true, Bool.and_eq_true, decide_eq_true_eq, bne_iff_ne, ne_eq] at *
  unfold postOk
  constructor
  · rintro ⟨⟨⟨⟨⟨⟨⟨⟨⟨h1, h2⟩, h3⟩, h4⟩, h5⟩, h6⟩, h7⟩, h8⟩, h9⟩, h10⟩
    have q2 := a2 h1
    have q3 := a3 ⟨h1, h2⟩
    have q4 := a4 ⟨⟨h1, h2⟩, h3⟩
    have q5 := a5 ⟨⟨⟨h1, h2⟩, h3⟩, h4⟩
    have q6 := a6 ⟨⟨⟨⟨⟨h1, h2⟩, h3⟩, h4⟩, h5⟩, h6⟩
    have q7 := a7 ⟨⟨⟨⟨⟨⟨h1, h2⟩, h3⟩, h4⟩, h5⟩, h6⟩, h7⟩
    have q8 := a8 ⟨⟨⟨⟨⟨⟨⟨⟨h1, h2⟩, h3⟩, h4⟩, h5⟩, h6⟩, h7⟩, h8⟩, h9⟩
    rw [h2] at q2; rw [h3] at q3; rw [h7] at q6; rw [h8] at q7; rw [h10] at q8
    exact ⟨h1, of_decide_eq_true q2.symm, of_decide_eq_true q3.symm, h6, cls_pos.1 (q4 ▸ h4), cls_pos.1 (q5 ▸ h5), of_decide_eq_true q6.symm, of_decide_eq_true q7.symm, h9, of_decide_eq_true q8.symm⟩
  · rintro ⟨h1, h2, h3, h6, h4, h5, h7, h8, h9, h10⟩
    have q2 : r2 = true := by rw [a2 h1]; simpa using h2
    have q3 : r3 = true := by rw [a3 ⟨h1, q2⟩]; simpa using h3
    have q4 : r4 > 0 := by rw [a4 ⟨⟨h1, q2⟩, q3⟩]; exact cls_pos.2 h4
    have q5 : r5 > 0 := by rw [a5 ⟨⟨⟨h1, q2⟩, q3⟩, q4⟩]; exact cls_pos.2 h5
    have q6 : r6 = true := by rw [a6 ⟨⟨⟨⟨⟨h1, q2⟩, q3⟩, q4⟩, q5⟩, h6⟩]; simpa using h7
    have q7 : r7 = true := by rw [a7 ⟨⟨⟨⟨⟨⟨h1, q2⟩, q3⟩, q4⟩, q5⟩, h6⟩, q6⟩]; simpa using h8
    have q8 : r8 = true := by rw [a8 ⟨⟨⟨⟨⟨⟨⟨⟨h1, q2⟩, q3⟩, q4⟩, q5⟩, h6⟩, q6⟩, q7⟩, h9⟩]; simpa using h10
    exact ⟨⟨⟨⟨⟨⟨⟨⟨⟨h1, q2⟩, q3⟩, q4⟩, q5⟩, h6⟩, q6⟩, q7⟩, h9⟩, q8⟩

/-! ## Ledgers -/
def at' (l : List TApiPosting) (i : Nat) : TApiPosting := l.getD i default
def bad (l : List TApiPosting) (i : Nat) : Bool := ((at' l i).Number != (i : Int) + 1) || (decide (0 < i) && decide ((at' l (i - 1)).Day > (at' l i).Day))
def chk (l : List TApiPosting) : Int :=
  if 400 < l.length then 3 else if (List.range l.length).any (fun i => !decide (postOk (at' l i))) = true then 85 else if (List.range l.length).any (bad l) = true then 86 else 0

theorem guardB {l : List TApiPosting} {i : Nat} (hi : i < l.length) (hl : l.length ≤ 400) :
    AllP [AllP [(decide ((i : Int) > 0)) = true, (((l.getD i default).Number) != (IntKind.i64.wrap ((i : Int) + 1))) = false] → ((0 : Int) ≤ (IntKind.i64.wrap ((i : Int) - 1))), AllP [(decide ((i : Int) > 0)) = true, (((l.getD i default).Number) != (IntKind.i64.wrap ((i : Int) + 1))) = false] → (((IntKind.i64.wrap ((i : Int) - 1))).toNat < l.length)] := by
  refine And.intro (fun h => ?_) (And.intro (fun h => ?_) trivial)
  · have := of_decide_eq_true h.1
    rw [wrapId (by omega) (by omega)]; omega
  · have := of_decide_eq_true h.1
    rw [wrapId (by omega) (by omega)]; omega

theorem badB {l : List TApiPosting} {i : Nat} (hi : i < l.length) (hl : l.length ≤ 400) :
    (bif (((l.getD i default).Number) != (IntKind.i64.wrap ((i : Int) + 1))) then true else (bif (decide ((i : Int) > 0)) then (decide (((l.getD (((IntKind.i64.wrap ((i : Int) - 1))).toNat) default).Day) > ((l.getD i default).Day))) else false)) = bad l i := by
  rw [cond_or, cond_and, wrapId (n := (i : Int) + 1) (by omega) (by omega)]
  unfold bad at'
  congr 1
  by_cases h : 0 < i
  · rw [wrapId (n := (i : Int) - 1) (by omega) (by omega), show ((i : Int) - 1).toNat = i - 1 by omega]
    congr 1
    simp
  · have : i = 0 := by omega
    subst this
    rfl

theorem F43_spec (l : TApiLedger) : F43 l = some (chk l.Postings) := by
  unfold F43 chk
  by_cases h : 400 < l.Postings.length
  · rw [if_pos (by simp; omega), if_pos h]
  · rw [if_neg (by simp; omega), if_neg h]
    have h1 : rangeM (F43_b1 l) l.Postings.length 0 () = _ := rangeM_any (c := 85) (fun i => !decide (postOk (at' l.Postings i))) fun i hi => by
      unfold F43_b1
      simp only [F46_spec, Option.bind_some]
      unfold at'
      cases decide (postOk (l.Postings.getD i default)) <;> rfl
    have h2 : rangeM (F43_b2 l) l.Postings.length 0 () = _ := rangeM_any (c := 86) (bad l.Postings) fun i hi => by
      unfold F43_b2
      rw [guardP_pos (guardB hi (by omega)), badB hi (by omega)]
      cases bad l.Postings i <;> rfl
    rw [h1, h2]
    cases (List.range l.Postings.length).any fun i => !decide (postOk (at' l.Postings i))
    · cases (List.range l.Postings.length).any (bad l.Postings) <;> rfl
    · rfl

theorem F50_spec (l : TApiLedger) : F50 l = some (chk l.Postings) := by
  unfold F50 chk
  by_cases h : 400 < l.Postings.length
  · rw [if_pos (by simp; omega), if_pos h]; rfl
  · rw [if_neg (by simp; omega), if_neg h]
    have h1 : F61_62 l.Postings = some ((List.range l.Postings.length).any fun i => !decide (postOk (at' l.Postings i))) := by
      unfold F61_62 F66_62
      have : rangeM (F66_62_b1 l.Postings) l.Postings.length 0 () = _ := rangeM_find (fun i => !decide (postOk (at' l.Postings i))) (fun i => (i : Int)) fun i hi => by
        unfold F66_62_b1 F62
        simp only [F63_spec, Option.bind_some]
        unfold at'
        cases decide (postOk (l.Postings.getD i default)) <;> rfl
      rw [this]
      cases hf : (List.range l.Postings.length).find? fun i => !decide (postOk (at' l.Postings i)) with
      | none =>
        have : (List.range l.Postings.length).any (fun i => !decide (postOk (at' l.Postings i))) = false := by
          rw [List.any_eq_false]
          exact fun x hx => List.find?_eq_none.1 hf x hx
        rw [this]; rfl
      | some i =>
        have : (List.range l.Postings.length).any (fun i => !decide (postOk (at' l.Postings i))) = true := List.any_eq_true.2 ⟨i, List.mem_of_find?_eq_some hf, List.find?_some (p := fun i => !decide (postOk (at' l.Postings i))) hf⟩
        rw [this]
        simp [outM]
    have h2 : rangeM (F50_b1 l) l.Postings.length 0 () = _ := rangeM_any (c := 86) (bad l.Postings) fun i hi => by
      unfold F50_b1
      rw [guardP_pos (guardB hi (by omega)), badB hi (by omega)]
      cases bad l.Postings i <;> rfl
    rw [h1, h2]
    cases (List.range l.Postings.length).any fun i => !decide (postOk (at' l.Postings i))
    · cases (List.range l.Postings.length).any (bad l.Postings) <;> rfl
    · rfl
end Go.Proofs.Ytkkdclpleghppaa

namespace Go.Proofs.Ytkkdclpleghppaa
open Go Go.TA

/-- A right ledger. -/
structure Good (l : List TApiPosting) : Prop where
  len : l.length ≤ 400
  post : ∀ i, i < l.length → postOk (at' l i)
  num : ∀ i, i < l.length → (at' l i).Number = (i : Int) + 1
  day : ∀ i, 0 < i → i < l.length → (at' l (i - 1)).Day ≤ (at' l i).Day

theorem chk_good {l : List TApiPosting} : chk l = 0 ↔ Good l := by
  unfold chk
  constructor
  · intro h
    split at h
    · cases h
    · rename_i h1
      split at h
      · cases h
      · rename_i h2
        split at h
        · cases h
        · rename_i h3
          rw [Bool.not_eq_true, List.any_eq_false] at h2 h3
          have hb : ∀ i, i < l.length → bad l i = false := fun i hi => by simpa using h3 i (List.mem_range.2 hi)
          refine ⟨by omega, fun i hi => by simpa using h2 i (List.mem_range.2 hi), fun i hi => ?_, fun i h0 hi => ?_⟩
          · have := hb i hi
            unfold bad at this
            simp at this
            exact this.1
          · have := hb i hi
            unfold bad at this
            simp at this
            exact this.2 h0
  · intro h
    rw [if_neg (by have := h.len; omega), if_neg, if_neg]
    · rw [Bool.not_eq_true, List.any_eq_false]
      intro i hi
      have hi := List.mem_range.1 hi
      unfold bad
      rw [Bool.not_eq_true, Bool.or_eq_false_iff]
      refine ⟨by rw [h.num i hi]; simp, ?_⟩
      by_cases h0 : 0 < i
      · have := h.day i h0 hi
        simp; omega
      · simp [h0]
    · rw [Bool.not_eq_true, List.any_eq_false]
      intro i hi
      simp [h.post i (List.mem_range.1 hi)]

theorem good_nil : Good [] := ⟨by simp, fun i hi => by simp at hi, fun i hi => by simp at hi, fun i _ hi => by simp at hi⟩

/-- The day of the last posting. -/
def lastDay (l : List TApiPosting) : Int := if 0 < l.length then (at' l (l.length - 1)).Day else 0

theorem at'_app {l : List TApiPosting} {p : TApiPosting} {i : Nat} : at' (l ++ [p]) i = if i < l.length then at' l i else if i = l.length then p else default := by
  unfold at'
  simp only [List.getD_eq_getElem?_getD]
  split
  · rw [List.getElem?_append_left (by assumption)]
  · rw [List.getElem?_append_right (by omega)]
    split
    · rename_i h; subst h; simp
    · rw [List.getElem?_eq_none (by simp; omega)]; rfl

theorem Good.app {l : List TApiPosting} {p : TApiPosting} (h : Good l) (hl : l.length < 400) (hp : postOk p) (hn : p.Number = (l.length : Int) + 1) (hd : lastDay l ≤ p.Day) : Good (l ++ [p]) := by
  refine ⟨by simp; omega, fun i hi => ?_, fun i hi => ?_, fun i h0 hi => ?_⟩
  · rw [at'_app]
    split
    · exact h.post i (by assumption)
    · rw [if_pos (by simp at hi; omega)]; exact hp
  · rw [at'_app]
    split
    · exact h.num i (by assumption)
    · rw [if_pos (by simp at hi; omega), hn]; simp at hi; omega
  · simp at hi
    rw [at'_app, at'_app, if_pos (by omega)]
    split
    · exact h.day i h0 (by assumption)
    · rw [if_pos (by omega)]
      have : i = l.length := by omega
      subst this
      unfold lastDay at hd
      rw [if_pos h0] at hd
      exact hd

/-- What Post answers, for a right ledger. -/
def postR (l : List TApiPosting) (p : TApiPosting) : TApiLedger × Int :=
  if ¬ postOk p then (⟨[]⟩, 85) else if l.length = 400 then (⟨[]⟩, 3) else if p.Number ≠ (l.length : Int) + 1 then (⟨[]⟩, 65) else if 0 < l.length ∧ p.Day < lastDay l then (⟨[]⟩, 8) else (⟨l ++ [p]⟩, 0)

theorem F16_spec {l : List TApiPosting} (hl : Good l) (p : TApiPosting) : F16 ⟨l⟩ p = some (postR l p) := by
  have hlen := hl.len
  unfold F16 postR
  rw [F43_spec, F46_spec]
  simp only [Option.bind_some, chk_good.2 hl]
  rw [if_neg (by simp)]
  by_cases h1 : postOk p
  · rw [if_neg (c := (!decide (postOk p)) = true) (by simp [h1]), if_neg (c := ¬ postOk p) (by simp [h1])]
    by_cases h2 : l.length = 400
    · rw [if_pos (c := ((l.length : Int) == 400) = true) (by simp [h2]), if_pos (c := l.length = 400) h2]; rfl
    · rw [if_neg (c := ((l.length : Int) == 400) = true) (by simp; omega), if_neg (c := l.length = 400) h2]
      rw [wrapId (n := (l.length : Int) + 1) (by omega) (by omega)]
      by_cases h3 : p.Number ≠ (l.length : Int) + 1
      · rw [if_pos (c := (p.Number != (l.length : Int) + 1) = true) (by simpa using h3), if_pos h3]; rfl
      · rw [if_neg (c := (p.Number != (l.length : Int) + 1) = true) (by simpa using h3), if_neg h3]
        have hg : AllP [AllP [(decide ((l.length : Int) > 0)) = true] → ((0 : Int) ≤ (IntKind.i64.wrap ((l.length : Int) - 1))), AllP [(decide ((l.length : Int) > 0)) = true] → (((IntKind.i64.wrap ((l.length : Int) - 1))).toNat < l.length)] := by
          refine And.intro (fun h => ?_) (And.intro (fun h => ?_) trivial)
          · have := of_decide_eq_true h.1
            rw [wrapId (by omega) (by omega)]; omega
          · have := of_decide_eq_true h.1
            rw [wrapId (by omega) (by omega)]; omega
        rw [guardP_pos hg]
        have hc : (bif (decide ((l.length : Int) > 0)) then (decide (p.Day < ((l.getD (((IntKind.i64.wrap ((l.length : Int) - 1))).toNat) default).Day))) else false) = decide (0 < l.length ∧ p.Day < lastDay l) := by
          rw [cond_and]
          by_cases h0 : 0 < l.length
          · rw [wrapId (n := (l.length : Int) - 1) (by omega) (by omega), show ((l.length : Int) - 1).toNat = l.length - 1 by omega]
            unfold lastDay at'
            simp [h0]
          · have : l.length = 0 := by omega
            simp [this]
        rw [hc]
        by_cases h4 : 0 < l.length ∧ p.Day < lastDay l
        · rw [if_pos (c := decide (0 < l.length ∧ p.Day < lastDay l) = true) (by simpa using h4), if_pos h4]; rfl
        · rw [if_neg (c := decide (0 < l.length ∧ p.Day < lastDay l) = true) (by simpa using h4), if_neg h4]
          simp only [outM]
          exact guardP_ok (And.intro (by omega) (And.intro (by omega) trivial)) (guardP_ok (by simp; omega) rfl)
  · rw [if_pos (c := (!decide (postOk p)) = true) (by simp [h1]), if_pos h1]; rfl

/-- Whatever is posted, what comes of it with OK is right. -/
theorem postR_good {l : List TApiPosting} (hl : Good l) {p : TApiPosting} (h : (postR l p).2 = 0) : Good (postR l p).1.Postings ∧ (postR l p).1 = ⟨l ++ [p]⟩ ∧ postOk p := by
  unfold postR at *
  split at h
  · cases h
  · rename_i h1
    split at h
    · cases h
    · rename_i h2
      split at h
      · cases h
      · rename_i h3
        split at h
        · cases h
        · rename_i h4
          have hlen := hl.len
          have h1 : postOk p := by simpa using h1
          rw [if_neg (by simpa using h1), if_neg h2, if_neg h3, if_neg h4]
          refine ⟨hl.app (by omega) h1 (by simpa using h3) ?_, rfl, h1⟩
          by_cases h0 : 0 < l.length
          · have : ¬ p.Day < lastDay l := fun e => h4 ⟨h0, e⟩
            omega
          · unfold lastDay
            rw [if_neg h0]
            exact h1.2.1.1
end Go.Proofs.Ytkkdclpleghppaa

namespace Go.Proofs.Ytkkdclpleghppaa
open Go Go.TA

/-- A drawn posting. -/
structure Drawn (a1 a2 a3 : Int) (p : TApiPosting) : Prop where
  num : p.Number = a1
  day : p.Day = a2
  ent : 1 ≤ p.Entity ∧ p.Entity ≤ a3
  amount : 1 ≤ p.Amount ∧ p.Amount ≤ 1000
  ref : 0 ≤ p.Ref ∧ p.Ref ≤ 3
  acc : accOk p.Debit ∧ accOk p.Credit ∧ p.Debit ≠ p.Credit
  part : 0 ≤ p.Partner ∧ p.Partner ≤ a3 ∧ p.Partner ≠ p.Entity
  alone : a3 = 1 → p.Partner = 0 ∧ p.Debit ∈ [110, 120, 210, 300, 410, 510, 520] ∧ p.Credit ∈ [111, 119, 220, 310, 420, 530]

theorem F20_spec {a1 a2 a3 : Int} {s : TTreasuryplaySrc} (hs : SrcOk s) (h3 : a3 = 1 ∨ a3 = 3) : ∃ p s', F20 a1 a2 a3 s = some (p, s') ∧ SrcOk s' ∧ Drawn a1 a2 a3 p := by
  unfold F20
  obtain ⟨v1, s1, e1, k1, b1, c1⟩ := Range_spec (lo := 1) (hi := a3) hs (by omega) (by omega) (by omega)
  obtain ⟨v2, s2, e2, k2, b2⟩ := Pick_spec (l := [110, 120, 210, 300, 410, 510, 520]) k1 (by simp) (by simp)
  obtain ⟨v3, s3, e3, k3, b3⟩ := Pick_spec (l := [111, 119, 220, 310, 420, 530]) k2 (by simp) (by simp)
  obtain ⟨v4, s4, e4, k4, b4⟩ := Pick_spec (l := [1, 20, 100, 1000]) k3 (by simp) (by simp)
  obtain ⟨v5, s5, e5, k5, b5, c5, _⟩ := N_spec (n := 4) k4 (by omega)
  have c5 := c5 (by omega)
  simp only [e1, e2, e3, e4, e5, Option.bind_some]
  have hacc : accOk v2 ∧ accOk v3 ∧ v2 ≠ v3 := by
    simp only [List.mem_cons, List.not_mem_nil, or_false] at b2 b3
    unfold accOk
    omega
  have ham : 1 ≤ v4 ∧ v4 ≤ 1000 := by
    simp only [List.mem_cons, List.not_mem_nil, or_false] at b4
    omega
  rcases h3 with rfl | rfl
  · rw [optD_none (gs := [(decide ((1 : Int) > 1)) = true]) (fun h => absurd (of_decide_eq_true h.1) (by omega))]
    simp only [Option.bind_some]
    refine ⟨_, _, rfl, k5, ⟨rfl, rfl, ⟨b1, c1⟩, ham, ⟨b5, show v5 ≤ 3 by omega⟩, hacc, ⟨by simp, by simp, ?_⟩, fun _ => ⟨rfl, b2, b3⟩⟩⟩
    simp only
    omega
  · obtain ⟨v6, s6, e6, k6, b6, c6, _⟩ := N_spec (n := 2) k5 (by omega)
    have hx : (decide ((3 : Int) > 1)) = true := by decide
    rw [optD_pos (gs := [(decide ((3 : Int) > 1)) = true]) (And.intro hx trivial), e6]
    simp only [Option.bind_some]
    by_cases hv : v6 = 1
    · subst hv
      obtain ⟨v7, s7, e7, k7, b7, c7, _⟩ := N_spec (n := 4) k6 (by omega)
      rw [if_pos (by decide), guardP_pos (p := AllP [(3 : Int) ≠ 0]) (And.intro (by decide) trivial), e7]
      simp only [Option.bind_some]
      have hm : 1 ≤ IntKind.i64.wrap (v1.tmod 3 + 1) ∧ IntKind.i64.wrap (v1.tmod 3 + 1) ≤ 3 ∧ IntKind.i64.wrap (v1.tmod 3 + 1) ≠ v1 := by
        have : v1 = 1 ∨ v1 = 2 ∨ v1 = 3 := by omega
        rcases this with rfl | rfl | rfl <;> decide
      have hp : ∀ d c : Int, accOk d ∧ accOk c ∧ d ≠ c → Drawn a1 a2 3 ⟨a1, a2, v1, d, c, v4, IntKind.i64.wrap (v1.tmod 3 + 1), v5⟩ := fun d c h =>
        ⟨rfl, rfl, ⟨b1, c1⟩, ham, ⟨b5, show v5 ≤ 3 by omega⟩, h, ⟨by simp only; omega, hm.2.1, hm.2.2⟩, fun h => by omega⟩
      by_cases g0 : v7 = 0
      · subst g0
        exact ⟨_, _, rfl, k7, hp 140 440 (by decide)⟩
      · rw [if_neg (by simpa using g0)]
        by_cases g1 : v7 = 1
        · subst g1
          exact ⟨_, _, rfl, k7, hp 540 240 (by decide)⟩
        · rw [if_neg (by simpa using g1)]
          by_cases g2 : v7 = 2
          · subst g2
            exact ⟨_, _, rfl, k7, hp 240 110 (by decide)⟩
          · rw [if_neg (by simpa using g2)]
            exact ⟨_, _, rfl, k7, hp 110 140 (by decide)⟩
    · rw [if_neg (by simp [hv])]
      refine ⟨_, _, rfl, k6, ⟨rfl, rfl, ⟨b1, c1⟩, ham, ⟨b5, show v5 ≤ 3 by omega⟩, hacc, ⟨by simp, by simp, ?_⟩, fun h => by omega⟩⟩
      simp only
      omega

/-- Ledger: a right ledger, its references from 0 to 3. -/
def InRef (l : List TApiPosting) : Prop := ∀ i, i < l.length → 0 ≤ (at' l i).Ref ∧ (at' l i).Ref ≤ 3

theorem F10_spec {s : TTreasuryplaySrc} (hs : SrcOk s) : ∃ l s', F10 12 3 60 s = some (⟨l⟩, s') ∧ SrcOk s' ∧ Good l ∧ InRef l := by
  unfold F10
  obtain ⟨v, s1, e1, k1, b1, c1, _⟩ := N_spec (n := 13) hs (by omega)
  rw [wrapId (n := 12 + 1) (by omega) (by omega), show (12 : Int) + 1 = 13 by rfl, e1]
  simp only [Option.bind_some]
  have c1 := c1 (by omega)
  obtain ⟨q, h1, h2⟩ := iterM_inv (step := F10_b1 3 60) (fun q => q.2.2.2.toNat) (fun q => SrcOk q.1 ∧ Good q.2.1.Postings ∧ InRef q.2.1.Postings ∧ 0 ≤ q.2.2.1 ∧ q.2.2.1 ≤ 60 ∧ q.2.2.2 ≤ 13)
    (fun q => SrcOk q.1 ∧ Good q.2.1.Postings ∧ InRef q.2.1.Postings) (by
      rintro ⟨s, ⟨l⟩, day, k⟩ ⟨i1, i2, i3, i4, i5, i6⟩
      simp only at i1 i2 i3 i4 i5 i6
      have hlen := i2.len
      unfold F10_b1
      by_cases hk : k > 0
      · left
        rw [if_pos (by simpa using hk)]
        simp only
        obtain ⟨v2, s2, e2, k2, b2, c2, _⟩ := N_spec (n := 17) i1 (by omega)
        rw [show IntKind.i64.wrap (IntKind.i64.wrap ((60 : Int).tdiv 4) + 2) = 17 by decide, e2]
        simp only [Option.bind_some]
        have c2 := c2 (by omega)
        rw [wrapId (n := day + v2) (by omega) (by omega), wrapId (n := (l.length : Int) + 1) (by omega) (by omega), wrapId (n := k - 1) (by omega) (by omega)]
        obtain ⟨d, hd, hd0, hd1⟩ : ∃ d, (if (60 : Int) < day + v2 then 60 else day + v2) = d ∧ 0 ≤ d ∧ d ≤ 60 := ⟨_, rfl, by split <;> omega, by split <;> omega⟩
        rw [hd]
        obtain ⟨p, s3, e3, k3, hp⟩ := F20_spec (a1 := (l.length : Int) + 1) (a2 := d) (a3 := 3) k2 (.inr rfl)
        rw [e3]
        simp only [Option.bind_some, F16_spec i2]
        by_cases ho : (postR l p).2 = 0
        · rw [if_pos (by simpa using ho)]
          obtain ⟨g1, g2, g3⟩ := postR_good i2 ho
          refine ⟨_, rfl, ⟨k3, g1, ?_, hd0, hd1, by simp only; omega⟩, by simp only; omega⟩
          simp only
          rw [g2]
          intro i hi
          rw [at'_app]
          simp at hi
          split
          · exact i3 i (by assumption)
          · rw [if_pos (by omega)]; exact hp.ref
        · rw [if_neg (by simpa using ho)]
          exact ⟨_, rfl, ⟨k3, i2, i3, hd0, hd1, by simp only; omega⟩, by simp only; omega⟩
      · right
        rw [if_neg (by simpa using hk)]
        exact ⟨_, rfl, i1, i2, i3⟩) 14 (s1, ⟨[]⟩, 0, v) (by simp only; omega) ⟨k1, good_nil, fun i hi => by simp at hi, by simp, by simp, by simp only; omega⟩
  rw [h1]
  exact ⟨q.2.1.Postings, q.1, rfl, h2⟩
end Go.Proofs.Ytkkdclpleghppaa
