/- A part of the proof: plain laws of what the functions compute. No condition. -/
import Derived.Test.YtdenfihabhhnhaaGreatDoorP1
namespace Go.Proofs.YtdenfihabhhnhaaGreatDoor
open Go Go.TA
/-! ## The reference's Add -/
theorem r19_Same_eq (x w : TApiWarrant) : F_r19_Same x w = some (sameB x w) := by
  simp only [F_r19_Same, S_r19_Same, Scr.den, cond_and]
  rfl
theorem r19_Add_eq {l : List TApiWarrant} {w : TApiWarrant} (hl : l.length ≤ 1000) (hS : SrtW l) (hc : w.Code.length ≤ 1000000) : F_r19_Add l w = some (addV l w) := by
  simp only [F_r19_Add, S_r19_Add, Scr.den]
  obtain ⟨s, e, _⟩ := iterM_inv (step := fun s => (S_r19_Add_b1 l s).den) (fun s => ((l.length : Int) - s).toNat) (fun s => ∃ i : Nat, s = (i : Int) ∧ 1 ≤ i) (fun _ => True) (fun s hI => by
    obtain ⟨i, rfl, h1⟩ := hI
    simp only [S_r19_Add_b1, Scr.den, Int.toNat_natCast]
    by_cases hi : i < l.length
    · left
      have e1 : IntKind.i64.wrap ((i : Int) - 1) = ((i - 1 : Nat) : Int) := by rw [wrapId (by omega) (by omega)]; omega
      have hlt := hS.lt (show i - 1 < i by omega) hi
      rw [if_pos (by simpa using hi), e1, Int.toNat_natCast, guardP_pos ⟨by omega, by omega, by omega, hi, trivial⟩, if_neg (by
        simp only [decide_eq_true_eq, ge_iff_le]
        omega), wrapId (n := (i : Int) + 1) (by omega) (by omega)]
      exact ⟨_, rfl, ⟨i + 1, rfl, by omega⟩, by show ((l.length : Int) - ((i : Int) + 1)).toNat < ((l.length : Int) - i).toNat; omega⟩
    · right
      rw [if_neg (by simpa using hi)]
      exact ⟨_, rfl, trivial⟩) _ 1 (Nat.lt_succ_self _) ⟨1, rfl, Nat.le_refl _⟩
  rw [e]
  simp only [outM]
  rw [r19_Plain_eq hc]
  simp only [obind]
  unfold addV
  by_cases h : WPl w
  · rw [decide_eq_true h, if_neg (by decide), if_neg (show ¬ ¬ WPl w from fun k => k h)]
    have hp := posW_le l w.Number
    by_cases c1 : hasN l w.Number = true
    · rw [if_pos c1]
      -- the first pot with the number is met
      have key : ∀ (k i : Nat) (s : Int), i + k = l.length → (∃ j, i ≤ j ∧ j < l.length ∧ (l.getD j default).Number = w.Number) → rangeM (fun i s => (S_r19_Add_b2 l w i s).den) k i s = some (.ret ([], 7)) := by
        intro k
        induction k with
        | zero => intro i s hk ⟨j, h1, h2, _⟩; omega
        | succ k ih =>
          intro i s hk ⟨j, h1, h2, h3⟩
          by_cases hn : (l.getD i default).Number = w.Number
          · simp only [rangeM, S_r19_Add_b2, Scr.den]
            rw [if_pos (by simpa using hn)]
          · have hj : i + 1 ≤ j := by
              rcases Nat.lt_or_ge i j with h | h
              · exact h
              · have : i = j := by omega
                subst this; exact absurd h3 hn
            by_cases hlt : (l.getD i default).Number < w.Number
            · simp only [rangeM, S_r19_Add_b2, Scr.den]
              rw [if_neg (by simpa using hn), if_pos (by simpa using hlt)]
              exact ih (i + 1) _ (by omega) ⟨j, hj, h2, h3⟩
            · simp only [rangeM, S_r19_Add_b2, Scr.den]
              rw [if_neg (by simpa using hn), if_neg (by simpa using hlt)]
              exact ih (i + 1) _ (by omega) ⟨j, hj, h2, h3⟩
      obtain ⟨x, hx, he⟩ := List.any_eq_true.1 c1
      obtain ⟨j, hj, rfl⟩ := mem_getD hx
      rw [key l.length 0 0 (by omega) ⟨j, by omega, hj, by simpa using he⟩]
      rfl
    · rw [if_neg c1]
      obtain ⟨k, e2, hk⟩ := rangeM_inv (body := fun i s => (S_r19_Add_b2 l w i s).den) (n := l.length) (fun i s => s = ((min i (posW l w.Number) : Nat) : Int)) (s0 := 0) (by simp) (fun i s hi hI => by
        subst hI
        simp only [S_r19_Add_b2, Scr.den]
        have hn : (l.getD i default).Number ≠ w.Number := fun e => c1 (List.any_eq_true.2 ⟨_, getD_mem hi, by simpa using e⟩)
        rw [if_neg (by simpa using hn)]
        by_cases hlt : (l.getD i default).Number < w.Number
        · have : i < posW l w.Number := by
            by_cases h : i < posW l w.Number
            · exact h
            · have := posW_ge hS (n := w.Number) hi (by omega); omega
          rw [if_pos (by simpa using hlt), wrapId (by omega) (by omega)]
          exact ⟨_, rfl, by omega⟩
        · have : posW l w.Number ≤ i := by
            by_cases h : i < posW l w.Number
            · have := posW_lt h; omega
            · omega
          rw [if_neg (by simpa using hlt)]
          exact ⟨_, rfl, by omega⟩)
      subst hk
      rw [e2]
      simp only
      have rs := rangeM_any (ρ := R_r19_Add) (n := l.length) (c := ([], 20)) (body := fun i s => (S_r19_Add_b3 l w i s).den) (fun i => sameB (l.getD i default) w) (fun i hi => by
        simp only [S_r19_Add_b3, Scr.den, r19_Same_eq, obind]
        split <;> rfl)
      rw [rs]
      have hany : (List.range l.length).any (fun i => sameB (l.getD i default) w) = l.any fun x => sameB x w := by
        rw [Bool.eq_iff_iff]
        simp only [List.any_eq_true, List.mem_range]
        constructor
        · rintro ⟨i, hi, h⟩; exact ⟨_, getD_mem hi, h⟩
        · rintro ⟨x, hx, h⟩; obtain ⟨i, hi, rfl⟩ := mem_getD hx; exact ⟨i, hi, h⟩
      rw [hany]
      by_cases c2 : (l.any fun x => sameB x w) = true
      · rw [if_pos c2, if_pos c2]
        rfl
      · rw [if_neg c2, if_neg c2]
        simp only
        by_cases c3 : 200 ≤ l.length
        · rw [if_pos (by simp; omega), if_pos c3]
        · have em : min l.length (posW l w.Number) = posW l w.Number := by omega
          rw [if_neg (by simp; omega), if_neg c3, em, Int.toNat_natCast, guardP_pos ⟨by omega, hp, by rw [List.length_take]; omega, trivial⟩, guardP_pos ⟨by rw [List.length_take]; omega, by simp only [List.length_append, List.length_take, List.length_drop, List.length_cons, List.length_nil]; omega, trivial⟩, guardP_pos ⟨by simp only [List.length_append, List.length_take, List.length_drop, List.length_cons, List.length_nil]; omega, trivial⟩]
          unfold insL
          rw [List.append_assoc]
          rfl
  · rw [decide_eq_false h, if_pos (by decide), if_pos h]
/-! ## The reference's signatures are there -/
theorem r19_Bytes_ex {w : TApiWarrant} (h : WPl w) : ∃ b, F_r19_Bytes w = some b ∧ b.length ≤ 10000 := by
  have hl := h.len
  have hn : smI w.Number ∧ smI w.Office := by
    obtain ⟨⟨a, _⟩, g, _⟩ := h
    unfold numP at a
    unfold smI
    omega
  have i1 := Lib.itoa_length_le w.Number hn.1.1 hn.1.2
  have i2 := Lib.itoa_length_le w.Office hn.2.1 hn.2.2
  simp only [F_r19_Bytes, S_r19_Bytes, Scr.den, r19_Plain_eq (show w.Code.length ≤ 1000000 by omega), obind, decide_eq_true h]
  rw [if_neg (by decide), Itoa_eq hn.1.1 hn.1.2]
  simp only [obind]
  rw [Itoa_eq hn.2.1 hn.2.2]
  simp only [obind]
  rw [guardP_pos (by simp only [AllP, and_true, List.length_append, List.length_cons, List.length_nil]; omega)]
  obtain ⟨s, e, h1⟩ := rangeM_inv (body := fun i s => (S_r19_Bytes_b1 w i s).den) (n := 9) (fun i s => s.length ≤ 1000 + 100 * i) (s0 := (((((([119, 97, 114, 114, 97, 110, 116, 32] : List UInt8) ++ Lib.itoa w.Number) ++ [32]) ++ Lib.itoa w.Office) ++ [32]) ++ w.Code)) (by simp only [List.length_append, List.length_cons, List.length_nil]; omega) (fun i s hi hI => by
    have hr : smI ((restV19 w).getD i default) := h.rest _ (getD_mem (by simpa [restV19] using hi))
    have hlen := Lib.itoa_length_le _ hr.1 hr.2
    simp only [S_r19_Bytes_b1, Scr.den]
    rw [show ([w.Year, w.Reservation, w.Commitment, w.Verification, w.Attempt, w.Amount, w.Payee, w.Day, w.Due] : List Int) = restV19 w from rfl, Itoa_eq hr.1 hr.2]
    simp only [obind]
    rw [guardP_pos (by simp only [AllP, and_true, List.length_append, List.length_cons, List.length_nil]; omega)]
    exact ⟨_, rfl, by simp only [List.length_append, List.length_cons, List.length_nil]; omega⟩)
  rw [e]
  exact ⟨s, rfl, by omega⟩
theorem r19_Hash_ex {l : List UInt8} (hl : l.length ≤ 1000000) : ∃ v, F_r19_Hash l = some v := by
  simp only [F_r19_Hash, S_r19_Hash, Scr.den]
  obtain ⟨s, e, _⟩ := iterM_inv (step := fun s => (S_r19_Hash_b1 l s).den) (fun s : Int × Int => ((l.length : Int) - s.2).toNat) (fun s => ∃ i : Nat, s.2 = (i : Int)) (fun _ => True) (fun s hI => by
    obtain ⟨x, y⟩ := s
    obtain ⟨i, hi0⟩ := hI
    simp only at hi0
    subst hi0
    simp only [S_r19_Hash_b1, Scr.den, Int.toNat_natCast]
    by_cases hi : i < l.length
    · left
      rw [if_pos (by simpa using hi), guardP_pos ⟨by omega, hi, trivial⟩, wrapId (n := (i : Int) + 1) (by omega) (by omega)]
      exact ⟨_, rfl, ⟨i + 1, rfl⟩, by show ((l.length : Int) - ((i : Int) + 1)).toNat < ((l.length : Int) - i).toNat; omega⟩
    · right
      rw [if_neg (by simpa using hi)]
      exact ⟨_, rfl, trivial⟩) _ (14695981039346656037, 0) (Nat.lt_succ_self _) ⟨0, rfl⟩
  rw [e]
  exact ⟨_, rfl⟩
theorem r19_signature_ex {w : TApiWarrant} (h : WPl w) (key : Int) : ∃ v, F_r19_signature key w = some v := by
  simp only [F_r19_signature, S_r19_signature, Scr.den]
  obtain ⟨s, e, h1⟩ := iterM_inv (step := fun s => (S_r19_signature_b1 key s).den) (fun s : List Int × Int => (s.2 + 8).toNat) (fun s => (s.1.length : Int) * 8 + s.2 = 56 ∧ -8 ≤ s.2) (fun s => s.1.length ≤ 8) (fun s hI => by
    obtain ⟨l, y⟩ := s
    obtain ⟨k1, k2⟩ := hI
    simp only at k1 k2
    simp only [S_r19_signature_b1, Scr.den]
    by_cases hy : 0 ≤ y
    · left
      rw [if_pos (by simpa using hy), guardP_pos ⟨hy, by omega, trivial⟩, wrapId (n := y - 8) (by omega) (by omega)]
      exact ⟨_, rfl, ⟨by simp only [List.length_append, List.length_cons, List.length_nil]; omega, by show -8 ≤ y - 8; omega⟩, by show (y - 8 + 8).toNat < (y + 8).toNat; omega⟩
    · right
      rw [if_neg (by simpa using hy)]
      exact ⟨_, rfl, by show l.length ≤ 8; omega⟩) _ (([] : List Int), 56) (Nat.lt_succ_self _) ⟨by simp, by simp⟩
  rw [e]
  simp only [outM]
  rw [guardP_pos ⟨by omega, trivial⟩]
  obtain ⟨b, e2, hb⟩ := r19_Bytes_ex h
  rw [e2]
  simp only [obind]
  obtain ⟨v, e3⟩ := r19_Hash_ex (l := ((List.range s.1.length).map fun j => UInt8.ofNat ((s.1.getD j default)).toNat) ++ b) (by simp only [List.length_append, List.length_map, List.length_range]; omega)
  rw [e3]
  simp only [obind]
  rw [guardP_pos ⟨by simp only [List.length_map, List.length_range]; omega, trivial⟩]
  exact ⟨_, rfl⟩
/-- Two warrants that differ in their signatures alone. -/
def like19 (x w : TApiWarrant) : Prop := ∃ a b, x = ⟨w.Number, w.Office, w.Code, w.Year, w.Verification, w.Attempt, w.Commitment, w.Reservation, w.Amount, w.Payee, w.Day, w.Due, a, b⟩
theorem r19_Sign_ex {w : TApiWarrant} (h : WPl w) (keys : List Int) (b : Bool) : ∃ x e, F_r19_Sign keys w b = some (x, e) ∧ (e = 0 → like19 x w) := by
  have hc := h.len
  have ho := h.2.1
  simp only [F_r19_Sign, S_r19_Sign, Scr.den, r19_Plain_eq (show w.Code.length ≤ 1000000 by omega), obind, decide_eq_true h]
  rw [if_neg (by decide), wrapId (n := w.Office - 1) (by omega) (by omega), wrapId (n := 2 * (w.Office - 1)) (by omega) (by omega), wrapId (n := 2 * (w.Office - 1) + 1) (by omega) (by omega)]
  have sig := fun k => r19_signature_ex h k
  cases b with
  | true =>
    rw [if_pos rfl]
    simp only [outM]
    by_cases c2 : (keys.length : Int) ≤ 2 * (w.Office - 1) + 1
    · rw [if_pos (by simpa using c2)]
      exact ⟨_, _, rfl, fun h => by cases h⟩
    · rw [if_neg (by simpa using c2), if_neg (by decide), wrapId (n := 2 * (w.Office - 1) + 1 - 1) (by omega) (by omega)]
      obtain ⟨v, e1⟩ := sig (keys.getD (2 * (w.Office - 1) + 1 - 1).toNat default)
      rw [e1]
      simp only [obind]
      rw [guardP_pos ⟨by omega, by omega, trivial⟩]
      split
      · exact ⟨_, _, rfl, fun h => by cases h⟩
      · obtain ⟨v2, e2⟩ := sig (keys.getD (2 * (w.Office - 1) + 1).toNat default)
        rw [e2]
        simp only [obind]
        rw [guardP_pos ⟨by omega, by omega, trivial⟩]
        exact ⟨_, _, rfl, fun _ => ⟨_, _, rfl⟩⟩
  | false =>
    rw [if_neg (by decide)]
    simp only [outM]
    by_cases c2 : (keys.length : Int) ≤ 2 * (w.Office - 1)
    · rw [if_pos (by simpa using c2)]
      exact ⟨_, _, rfl, fun h => by cases h⟩
    · rw [if_neg (by simpa using c2), if_pos (by decide)]
      obtain ⟨v, e1⟩ := sig (keys.getD (2 * (w.Office - 1)).toNat default)
      rw [e1]
      simp only [obind]
      rw [guardP_pos ⟨by omega, by omega, trivial⟩]
      exact ⟨_, _, rfl, fun _ => ⟨_, _, rfl⟩⟩
end Go.Proofs.YtdenfihabhhnhaaGreatDoor
namespace Go.Proofs.YtdenfihabhhnhaaGreatDoor
open Go Go.TA
/-! ## Orders of numbers -/
def upTo (n : Nat) : List Int := (List.range n).map fun (i : Nat) => (i : Int)
theorem upTo_length {n : Nat} : (upTo n).length = n := by simp [upTo]
theorem mem_upTo {n : Nat} {x : Int} : x ∈ upTo n ↔ 0 ≤ x ∧ x < n := by
  simp only [upTo, List.mem_map, List.mem_range]
  constructor
  · rintro ⟨i, h, rfl⟩; omega
  · intro h; exact ⟨x.toNat, by omega, by omega⟩
theorem upTo_succ {n : Nat} : upTo (n + 1) = upTo n ++ [(n : Int)] := by simp [upTo, List.range_succ]
theorem upTo_get {n i : Nat} (hi : i < n) : (upTo n).getD i default = (i : Int) := by
  rw [getD_el (by rw [upTo_length]; exact hi)]
  simp [upTo]
theorem order_first {n : Nat} (hn : n ≤ 1000) : iterM (fun s => (S_mk_Tape_Order_b1 (n : Int) s).den) (([] : List Int), (0 : Int)) = some (.next (upTo n, (n : Int))) := by
  obtain ⟨r, e, hJ⟩ := iterM_inv (step := fun s => (S_mk_Tape_Order_b1 (n : Int) s).den) (fun s : List Int × Int => ((n : Int) - s.2).toNat)
    (fun s => ∃ i : Nat, i ≤ n ∧ s = (upTo i, (i : Int))) (fun s => s = (upTo n, (n : Int))) (fun st hI => by
    obtain ⟨i, hi, rfl⟩ := hI
    simp only [S_mk_Tape_Order_b1, Scr.den]
    by_cases hc : i < n
    · left
      rw [if_pos (show decide ((i : Int) < n) = true from decide_eq_true (by omega)), guardP_pos (by simp only [AllP, and_true, upTo_length]; omega), wrapId (n := (i : Int) + 1) (by omega) (by omega)]
      exact ⟨_, rfl, ⟨i + 1, hc, by rw [upTo_succ]; rfl⟩, by show ((n : Int) - ((i : Int) + 1)).toNat < ((n : Int) - i).toNat; omega⟩
    · right
      obtain rfl : i = n := by omega
      rw [if_neg (show ¬ decide ((i : Int) < i) = true by simp)]
      exact ⟨_, rfl, rfl⟩) _ (([] : List Int), (0 : Int)) (Nat.lt_succ_self _) ⟨0, Nat.zero_le _, rfl⟩
  rw [e, hJ]
theorem getD_set_i {l : List Int} {i j : Nat} {x : Int} (hj : j < l.length) : (l.set i x).getD j default = if j = i then x else l.getD j default := by
  rw [List.getD_eq_getElem?_getD, List.getElem?_set]
  by_cases h : i = j
  · subst h; simp [hj]
  · rw [if_neg h, if_neg fun e => h e.symm, List.getD_eq_getElem?_getD]
def swp (l : List Int) (i k : Nat) : List Int := (l.set i (l.getD k default)).set k (l.getD i default)
theorem swp_length {l : List Int} {i k : Nat} : (swp l i k).length = l.length := by simp [swp]
theorem swp_get {l : List Int} {i k j : Nat} (hj : j < l.length) : (swp l i k).getD j default = if j = k then l.getD i default else if j = i then l.getD k default else l.getD j default := by
  unfold swp
  rw [getD_set_i (by simpa using hj), getD_set_i hj]
theorem mem_swp {l : List Int} {i k : Nat} (hi : i < l.length) (hk : k < l.length) {x : Int} : x ∈ swp l i k ↔ x ∈ l := by
  constructor
  · intro h
    obtain ⟨j, hj, rfl⟩ := mem_getD h
    rw [swp_length] at hj
    rw [swp_get hj]
    split
    · exact getD_mem hi
    · split
      · exact getD_mem hk
      · exact getD_mem hj
  · intro h
    obtain ⟨j, hj, rfl⟩ := mem_getD h
    by_cases h1 : j = i
    · subst h1
      have := swp_get (l := l) (i := j) (k := k) hk
      rw [if_pos rfl] at this
      rw [← this]
      exact getD_mem (by rw [swp_length]; exact hk)
    · by_cases h2 : j = k
      · subst h2
        have := swp_get (l := l) (i := i) (k := j) hi
        rw [if_neg (fun e => h1 e.symm), if_pos rfl] at this
        rw [← this]
        exact getD_mem (by rw [swp_length]; exact hi)
      · have := swp_get (l := l) (i := i) (k := k) hj
        rw [if_neg h2, if_neg h1] at this
        rw [← this]
        exact getD_mem (by rw [swp_length]; exact hj)
/-- No number twice. -/
def Inj (l : List Int) : Prop := ∀ i j, i < l.length → j < l.length → l.getD i default = l.getD j default → i = j
theorem Inj.swp {l : List Int} (h : Inj l) {i k : Nat} (hi : i < l.length) (hk : k < l.length) : Inj (swp l i k) := fun a b ha hb e => by
  rw [swp_length] at ha hb
  rw [swp_get ha, swp_get hb] at e
  by_cases a1 : a = k
  · rw [if_pos a1] at e
    by_cases b1 : b = k
    · omega
    · rw [if_neg b1] at e
      by_cases b2 : b = i
      · rw [if_pos b2] at e; have := h _ _ hi hk e; omega
      · rw [if_neg b2] at e; have := h _ _ hi hb e; omega
  · rw [if_neg a1] at e
    by_cases a2 : a = i
    · rw [if_pos a2] at e
      by_cases b1 : b = k
      · rw [if_pos b1] at e; have := h _ _ hk hi e; omega
      · rw [if_neg b1] at e
        by_cases b2 : b = i
        · omega
        · rw [if_neg b2] at e; have := h _ _ hk hb e; omega
    · rw [if_neg a2] at e
      by_cases b1 : b = k
      · rw [if_pos b1] at e; have := h _ _ ha hi e; omega
      · rw [if_neg b1] at e
        by_cases b2 : b = i
        · rw [if_pos b2] at e; have := h _ _ ha hk e; omega
        · rw [if_neg b2] at e; exact h _ _ ha hb e
theorem Order_spec {n : Nat} {s : TTape} (hs : TapeOk s) (hn : n ≤ 1000) : ∃ l s', F_mk_Tape_Order (n : Int) s = some (l, s') ∧ TapeOk s' ∧ l.length = n ∧ (∀ x, x ∈ l ↔ 0 ≤ x ∧ x < n) ∧ Inj l := by
  simp only [F_mk_Tape_Order, S_mk_Tape_Order, Scr.den, order_first hn, outM]
  obtain ⟨r, e, hJ⟩ := iterM_inv (step := fun s => (S_mk_Tape_Order_b2 s).den) (fun s : TTape × List Int × Int => s.2.2.toNat)
    (fun s => TapeOk s.1 ∧ s.2.1.length = n ∧ (∀ x, x ∈ s.2.1 ↔ 0 ≤ x ∧ x < n) ∧ Inj s.2.1 ∧ -1 ≤ s.2.2 ∧ s.2.2 < n)
    (fun s => TapeOk s.1 ∧ s.2.1.length = n ∧ (∀ x, x ∈ s.2.1 ↔ 0 ≤ x ∧ x < n) ∧ Inj s.2.1) (fun st hI => by
    obtain ⟨t, l, i⟩ := st
    obtain ⟨i1, i2, i3, i6, i4, i5⟩ := hI
    simp only at i1 i2 i3 i4 i5 i6
    simp only [S_mk_Tape_Order_b2, Scr.den]
    by_cases hi : 0 < i
    · left
      rw [if_pos (show decide (i > 0) = true from decide_eq_true hi), wrapId (n := i + 1) (by omega) (by omega)]
      obtain ⟨v, t1, q1, q2, q3, q4⟩ := N_spec (n := i + 1) i1 (by omega) (by omega)
      rw [q1]
      simp only [obind, Nat.zero_add, List.length_set]
      rw [guardP_pos (by simp only [AllP, and_true]; omega), wrapId (n := i - 1) (by omega) (by omega)]
      refine ⟨_, rfl, ⟨q2, ?_, ?_, ?_, ?_, ?_⟩, ?_⟩
      · show (swp l i.toNat v.toNat).length = n
        rw [swp_length, i2]
      · intro x
        show x ∈ swp l i.toNat v.toNat ↔ _
        rw [mem_swp (by omega) (by omega), i3]
      · exact i6.swp (i := i.toNat) (k := v.toNat) (by omega) (by omega)
      · show -1 ≤ i - 1; omega
      · show i - 1 < n; omega
      · show (i - 1).toNat < i.toNat; omega
    · right
      rw [if_neg (show ¬ decide (i > 0) = true by rw [decide_eq_true_eq]; exact hi)]
      exact ⟨_, rfl, i1, i2, i3, i6⟩) _ (s, upTo n, (n : Int) - 1) (Nat.lt_succ_self _)
    ⟨hs, upTo_length, fun x => mem_upTo, fun a b ha hb e => by
      rw [upTo_length] at ha hb
      rw [upTo_get ha, upTo_get hb] at e
      omega, by show -1 ≤ (n : Int) - 1; omega, by show (n : Int) - 1 < n; omega⟩
  rw [wrapId (n := (n : Int) - 1) (by omega) (by omega), e]
  simp only
  obtain ⟨h1, h2, h3, h4⟩ := hJ
  rw [guardP_pos (by simp only [AllP, and_true]; omega)]
  exact ⟨_, _, rfl, h1, h2, h3, h4⟩
/-! ## Warrants that are drawn -/
theorem Keys_spec {n : Int} (h0 : 0 ≤ n) (hn : n ≤ 10) {s : TTape} (hs : TapeOk s) : ∃ k s', F_mk_Keys n s = some (k, s') ∧ TapeOk s' := by
  simp only [F_mk_Keys, S_mk_Keys, Scr.den]
  obtain ⟨r, e, hJ⟩ := iterM_inv (step := fun s => (S_mk_Keys_b1 n s).den) (fun s : TTape × List Int × Int => (2 * n - s.2.2).toNat)
    (fun s => TapeOk s.1 ∧ (s.2.1.length : Int) = s.2.2 ∧ 0 ≤ s.2.2 ∧ s.2.2 ≤ 2 * n) (fun s => TapeOk s.1 ∧ s.2.1.length ≤ 20) (fun st hI => by
    obtain ⟨t, l, i⟩ := st
    obtain ⟨i1, i2, i3, i4⟩ := hI
    simp only at i1 i2 i3 i4
    simp only [S_mk_Keys_b1, Scr.den]
    rw [wrapId (n := 2 * n) (by omega) (by omega)]
    by_cases hc : i < 2 * n
    · left
      obtain ⟨v, t1, q1, q2, _⟩ := N_spec (n := 1000) i1 (by omega) (by omega)
      rw [if_pos (show decide (i < 2 * n) = true from decide_eq_true hc), q1]
      simp only [obind]
      rw [guardP_pos ⟨by omega, trivial⟩, wrapId (n := i + 1) (by omega) (by omega)]
      exact ⟨_, rfl, ⟨q2, by simp only [List.length_append, List.length_cons, List.length_nil]; omega, by show 0 ≤ i + 1; omega, by show i + 1 ≤ 2 * n; omega⟩, by show (2 * n - (i + 1)).toNat < (2 * n - i).toNat; omega⟩
    · right
      rw [if_neg (show ¬ decide (i < 2 * n) = true by rw [decide_eq_true_eq]; exact hc)]
      exact ⟨_, rfl, i1, by show l.length ≤ 20; omega⟩) _ (s, ([] : List Int), 0) (Nat.lt_succ_self _) ⟨hs, rfl, by simp, by simp; omega⟩
  rw [e]
  simp only [outM]
  rw [guardP_pos ⟨by have := hJ.2; omega, trivial⟩]
  exact ⟨_, _, rfl, hJ.1⟩
theorem like_plain {x w : TApiWarrant} (h : like19 x w) (hw : WPl w) : WPl x ∧ x.Number = w.Number := by
  obtain ⟨a, b, rfl⟩ := h
  exact ⟨hw, rfl⟩
theorem Warrant_spec {keys : List Int} {s : TTape} (hs : TapeOk s) : ∃ w s', F_mk_Warrant keys s = some (w, s') ∧ TapeOk s' ∧ WPl w ∧ w.Number ≤ 60 := by
  simp only [F_mk_Warrant, S_mk_Warrant, Scr.den]
  obtain ⟨v1, s1, a1, b1, c1⟩ := Range_spec (lo := 1) (hi := 60) hs (by omega) (by omega) (by omega)
  obtain ⟨v2, s2, a2, b2, c2⟩ := Range_spec (lo := 1) (hi := 3) b1 (by omega) (by omega) (by omega)
  obtain ⟨v3, s3, a3, b3, c3, d3⟩ := PotCode_spec b2
  obtain ⟨v4, s4, a4, b4, c4⟩ := Range_spec (lo := 1) (hi := 5) b3 (by omega) (by omega) (by omega)
  obtain ⟨v5, s5, a5, b5, c5⟩ := Range_spec (lo := 1) (hi := 2) b4 (by omega) (by omega) (by omega)
  obtain ⟨v6, s6, a6, b6, c6⟩ := Range_spec (lo := 1) (hi := 4) b5 (by omega) (by omega) (by omega)
  obtain ⟨v7, s7, a7, b7, c7⟩ := Range_spec (lo := 1) (hi := 3) b6 (by omega) (by omega) (by omega)
  obtain ⟨v8, s8, a8, b8, c8⟩ := Range_spec (lo := 1) (hi := 500) b7 (by omega) (by omega) (by omega)
  obtain ⟨v9, s9, a9, b9, c9⟩ := Range_spec (lo := 1) (hi := 4) b8 (by omega) (by omega) (by omega)
  obtain ⟨v10, s10, a10, b10, c10, d10⟩ := N_spec (n := 300) b9 (by omega) (by omega)
  obtain ⟨v11, s11, a11, b11, c11, d11⟩ := N_spec (n := 400) b10 (by omega) (by omega)
  rw [a1]
  simp only [obind]
  rw [a2]
  simp only [obind]
  rw [a3]
  simp only [obind]
  rw [a4]
  simp only [obind]
  rw [a5]
  simp only [obind]
  rw [a6]
  simp only [obind]
  rw [a7]
  simp only [obind]
  rw [a8]
  simp only [obind]
  rw [a9]
  simp only [obind]
  rw [a10]
  simp only [obind]
  rw [a11]
  simp only [obind]
  rw [wrapId (n := 4320 + v10) (by omega) (by omega), wrapId (n := 4320 + v11) (by omega) (by omega)]
  have hp0 : WPl ⟨v1, v2, v3, 12, v4, v5, v6, v7, v8, v9, 4320 + v10, 4320 + v11, 0, 0⟩ := by
    refine ⟨⟨?_, ?_, ?_, ?_, ?_, ?_⟩, ?_, d3, by show (0 : Int) ≤ 12 ∧ (12 : Int) ≤ 99; decide, ?_, ?_, ?_⟩
    · show 1 ≤ v1 ∧ v1 ≤ _; omega
    · show 1 ≤ v7 ∧ v7 ≤ _; omega
    · show 1 ≤ v6 ∧ v6 ≤ _; omega
    · show 1 ≤ v4 ∧ v4 ≤ _; omega
    · show 1 ≤ v5 ∧ v5 ≤ _; omega
    · show 1 ≤ v9 ∧ v9 ≤ _; omega
    · show 1 ≤ v2 ∧ v2 ≤ 6; omega
    · show 1 ≤ v8 ∧ v8 ≤ _; omega
    · show 0 ≤ 4320 + v10 ∧ 4320 + v10 ≤ 35990; omega
    · show 0 ≤ 4320 + v11 ∧ 4320 + v11 ≤ 35990; omega
  obtain ⟨r, e, hJ⟩ := iterM_inv (step := fun s => (S_mk_Warrant_b1 keys s).den) (fun s : TApiWarrant × Int => (2 - s.2).toNat) (fun s => WPl s.1 ∧ s.1.Number ≤ 60 ∧ 0 ≤ s.2 ∧ s.2 ≤ 2) (fun s => WPl s.1 ∧ s.1.Number ≤ 60) (fun st hI => by
    obtain ⟨w, i⟩ := st
    obtain ⟨i1, i2, i3, i4⟩ := hI
    simp only at i1 i2 i3 i4
    simp only [S_mk_Warrant_b1, Scr.den]
    by_cases hc : i < 2
    · left
      obtain ⟨x, er, e1, e2⟩ := r19_Sign_ex i1 keys (i == 1)
      rw [if_pos (show decide (i < 2) = true from decide_eq_true hc), e1]
      simp only [obind]
      rw [wrapId (n := i + 1) (by omega) (by omega)]
      by_cases h0 : er = 0
      · rw [if_pos (by simpa using h0)]
        obtain ⟨p1, p2⟩ := like_plain (e2 h0) i1
        exact ⟨_, rfl, ⟨p1, by rw [p2]; exact i2, by show 0 ≤ i + 1; omega, by show i + 1 ≤ 2; omega⟩, by show (2 - (i + 1)).toNat < (2 - i).toNat; omega⟩
      · rw [if_neg (by simpa using h0)]
        exact ⟨_, rfl, ⟨i1, i2, by show 0 ≤ i + 1; omega, by show i + 1 ≤ 2; omega⟩, by show (2 - (i + 1)).toNat < (2 - i).toNat; omega⟩
    · right
      rw [if_neg (show ¬ decide (i < 2) = true by rw [decide_eq_true_eq]; exact hc)]
      exact ⟨_, rfl, i1, i2⟩) _ (⟨v1, v2, v3, 12, v4, v5, v6, v7, v8, v9, 4320 + v10, 4320 + v11, 0, 0⟩, 0) (Nat.lt_succ_self _) ⟨hp0, by show v1 ≤ 60; omega, by simp, by simp⟩
  rw [e]
  exact ⟨_, _, rfl, b11, hJ.1, hJ.2⟩
/-- Lists as they are made: in order, plain, small numbers, no basis twice. -/
def WL (l : List TApiWarrant) : Prop := SrtW l ∧ (∀ w ∈ l, WPl w ∧ w.Number ≤ 60) ∧ ∀ x ∈ l, ∀ y ∈ l, sameB x y = true → x = y
theorem WL.nil : WL [] := ⟨List.Pairwise.nil, fun _w h => absurd h List.not_mem_nil, fun _x h => absurd h List.not_mem_nil⟩
theorem sameB_symm {x y : TApiWarrant} (h : sameB x y = true) : sameB y x = true := by
  unfold sameB at h ⊢
  simp only [Bool.and_eq_true, beq_iff_eq] at h ⊢
  exact ⟨⟨h.1.1.symm, h.1.2.symm⟩, h.2.symm⟩
theorem WL.add {l : List TApiWarrant} (h : WL l) {w : TApiWarrant} (hn : w.Number ≤ 60) (h0 : (addV l w).2 = 0) : WL (addV l w).1 ∧ (addV l w).1.length = l.length + 1 ∧ ∀ x, x ∈ (addV l w).1 ↔ x = w ∨ x ∈ l := by
  obtain ⟨h1, h2, h3⟩ := h
  unfold addV at h0 ⊢
  by_cases c1 : WPl w
  · rw [if_neg (show ¬ ¬ WPl w from fun k => k c1)] at h0 ⊢
    by_cases c2 : hasN l w.Number = true
    · rw [if_pos c2] at h0; cases h0
    · rw [if_neg c2] at h0 ⊢
      by_cases c3 : (l.any fun x => sameB x w) = true
      · rw [if_pos c3] at h0; cases h0
      · rw [if_neg c3] at h0 ⊢
        by_cases c4 : 200 ≤ l.length
        · rw [if_pos c4] at h0; cases h0
        · rw [if_neg c4]
          have hno : ∀ x ∈ l, sameB x w = false := fun x hx => by
            cases e : sameB x w with
            | false => rfl
            | true => exact absurd (List.any_eq_true.2 ⟨x, hx, e⟩) c3
          refine ⟨⟨insL_srt h1 c2, fun x hx => ?_, fun x hx y hy e => ?_⟩, insL_length, fun x => insL_mem⟩
          · rcases insL_mem.1 hx with rfl | hx
            · exact ⟨c1, hn⟩
            · exact h2 x hx
          · rcases insL_mem.1 hx with ex | hx' <;> rcases insL_mem.1 hy with ey | hy'
            · exact ex.trans ey.symm
            · have := hno y hy'; rw [← ex, sameB_symm e] at this; cases this
            · have := hno x hx'; rw [← ey, e] at this; cases this
            · exact h3 x hx' y hy' e
  · rw [if_pos c1] at h0; cases h0
theorem Warrants_spec {keys : List Int} {s : TTape} (hs : TapeOk s) : ∃ l s', F_mk_Warrants keys 10 s = some (l, s') ∧ TapeOk s' ∧ WL l ∧ l.length ≤ 10 := by
  simp only [F_mk_Warrants, S_mk_Warrants, Scr.den]
  rw [wrapId (n := (10 : Int) + 1) (by omega) (by omega)]
  obtain ⟨k, s1, q1, q2, q3, q4⟩ := N_spec (n := 10 + 1) hs (by omega) (by omega)
  rw [q1]
  simp only [obind]
  obtain ⟨r, e, hJ⟩ := iterM_inv (step := fun s => (S_mk_Warrants_b1 keys s).den) (fun s : TTape × List TApiWarrant × Int => s.2.2.toNat) (fun s => TapeOk s.1 ∧ WL s.2.1 ∧ (s.2.1.length : Int) + s.2.2 ≤ 10 ∧ 0 ≤ s.2.2) (fun s => TapeOk s.1 ∧ WL s.2.1 ∧ s.2.1.length ≤ 10) (fun st hI => by
    obtain ⟨t, l, i⟩ := st
    obtain ⟨i1, i2, i3, i4⟩ := hI
    simp only at i1 i2 i3 i4
    simp only [S_mk_Warrants_b1, Scr.den]
    by_cases hc : 0 < i
    · left
      obtain ⟨w, t1, e1, e2, e3, e4⟩ := Warrant_spec (keys := keys) i1
      rw [if_pos (show decide (i > 0) = true from decide_eq_true hc), e1]
      simp only [obind]
      rw [r19_Add_eq (by omega) i2.1 (by have := e3.len; omega)]
      simp only [obind]
      rw [wrapId (n := i - 1) (by omega) (by omega)]
      by_cases h0 : (addV l w).2 = 0
      · rw [if_pos (by simpa using h0)]
        obtain ⟨p1, p2, _⟩ := i2.add e4 h0
        exact ⟨_, rfl, ⟨e2, p1, by show ((addV l w).1.length : Int) + (i - 1) ≤ 10; omega, by show 0 ≤ i - 1; omega⟩, by show (i - 1).toNat < i.toNat; omega⟩
      · rw [if_neg (by simpa using h0)]
        exact ⟨_, rfl, ⟨e2, i2, by show (l.length : Int) + (i - 1) ≤ 10; omega, by show 0 ≤ i - 1; omega⟩, by show (i - 1).toNat < i.toNat; omega⟩
    · right
      rw [if_neg (show ¬ decide (i > 0) = true by rw [decide_eq_true_eq]; exact hc)]
      exact ⟨_, rfl, i1, i2, by show l.length ≤ 10; omega⟩) _ (s1, [], k) (Nat.lt_succ_self _) ⟨q2, WL.nil, by show ((0 : Nat) : Int) + k ≤ 10; omega, q3⟩
  rw [e]
  exact ⟨_, _, rfl, hJ.1, hJ.2.1, hJ.2.2⟩
/-! ## The law -/
theorem srt_ext : ∀ {a b : List TApiWarrant}, SrtW a → SrtW b → (∀ x, x ∈ a ↔ x ∈ b) → a = b
  | [], [], _, _, _ => rfl
  | [], y :: b, _, _, h => by have := (h y).2 (by simp); cases this
  | x :: a, [], _, _, h => by have := (h x).1 (by simp); cases this
  | x :: a, y :: b, ha, hb, h => by
    obtain ⟨ha1, ha2⟩ := List.pairwise_cons.1 ha
    obtain ⟨hb1, hb2⟩ := List.pairwise_cons.1 hb
    have hxy : x = y := by
      rcases List.mem_cons.1 ((h x).1 (by simp)) with e | hx
      · exact e
      · rcases List.mem_cons.1 ((h y).2 (by simp)) with e | hy
        · exact e.symm
        · have := hb1 x hx; have := ha1 y hy; omega
    subst hxy
    rw [srt_ext ha2 hb2 fun z => ?_]
    constructor
    · intro hz
      rcases List.mem_cons.1 ((h z).1 (by simp [hz])) with e | hz'
      · subst e; have := ha1 z hz; omega
      · exact hz'
    · intro hz
      rcases List.mem_cons.1 ((h z).2 (by simp [hz])) with e | hz'
      · subst e; have := hb1 z hz; omega
      · exact hz'
theorem num_inj {l : List TApiWarrant} (h : SrtW l) {x y : TApiWarrant} (hx : x ∈ l) (hy : y ∈ l) (e : x.Number = y.Number) : x = y := by
  obtain ⟨i, hi, rfl⟩ := mem_getD hx
  obtain ⟨j, hj, rfl⟩ := mem_getD hy
  rcases Nat.lt_trichotomy i j with c | c | c
  · have := h.lt c hj; omega
  · rw [c]
  · have := h.lt c hi; omega
theorem SameList_refl {l : List TApiWarrant} : F_r19_SameList l l = some true := by
  simp only [F_r19_SameList, S_r19_SameList, Scr.den]
  rw [if_neg (by simp)]
  have ra := rangeM_all (ρ := R_r19_SameList) (n := l.length) (c := false) (body := fun i s => (S_r19_SameList_b1 l l i s).den) (fun _ => True) (fun i hi _ => by
    simp only [S_r19_SameList_b1, Scr.den]
    rw [guardP_pos ⟨hi, trivial⟩, if_neg (by simp)]) (fun i hi h => absurd trivial h)
  rw [ra.1 fun _ _ => trivial]
  rfl
def renum (w : TApiWarrant) (n : Int) : TApiWarrant := ⟨n, w.Office, w.Code, w.Year, w.Verification, w.Attempt, w.Commitment, w.Reservation, w.Amount, w.Payee, w.Day, w.Due, w.First, w.Second⟩
theorem WarrantLists_eq (a : List Int) : F_w19_WarrantLists a = some true := by
  simp only [F_w19_WarrantLists, S_w19_WarrantLists, Scr.den]
  obtain ⟨s, h1, h2⟩ := New_spec a
  rw [h1]
  simp only [obind]
  obtain ⟨keys, s1, k1, k2⟩ := Keys_spec (n := 3) (by omega) (by omega) h2
  rw [k1]
  simp only [obind]
  obtain ⟨l, s2, e1, e2, hl, hlen⟩ := Warrants_spec (keys := keys) k2
  rw [e1]
  simp only [obind]
  obtain ⟨q, s3, o1, o2, o3, o4, o5⟩ := Order_spec (n := l.length) e2 (by omega)
  rw [o1]
  simp only [obind]
  have hin : ∀ i, i < q.length → 0 ≤ q.getD i default ∧ (q.getD i default).toNat < l.length := fun i hi => by
    have := (o4 _).1 (getD_mem hi); omega
  obtain ⟨b, e3, hb1, hb2, hb3⟩ := rangeM_inv (body := fun i s => (S_w19_WarrantLists_b1 (l, s2) (q, s3) i s).den) (n := q.length) (fun i s => WL s ∧ s.length = i ∧ ∀ x, x ∈ s ↔ ∃ j, j < i ∧ x = l.getD (q.getD j default).toNat default) (s0 := []) ⟨WL.nil, rfl, fun x => ⟨fun h => absurd h List.not_mem_nil, fun ⟨j, h, _⟩ => absurd h (Nat.not_lt_zero j)⟩⟩ (fun i s hi hI => by
    obtain ⟨i1, i2, i3⟩ := hI
    obtain ⟨p1, p2⟩ := hin i hi
    have hm := getD_mem p2
    have hpl := hl.2.1 _ hm
    simp only [S_w19_WarrantLists_b1, Scr.den]
    rw [Add_eq19 (by omega) i1.1 (by have := hpl.1.len; omega)]
    simp only [obind]
    have hnew : ∀ x ∈ s, x ≠ l.getD (q.getD i default).toNat default := fun x hx e => by
      obtain ⟨j, j1, j2⟩ := (i3 x).1 hx
      obtain ⟨u1, u2⟩ := hin j (by omega)
      have hnum : (q.getD j default).toNat = (q.getD i default).toNat := by
        rw [j2] at e
        rcases Nat.lt_trichotomy (q.getD j default).toNat (q.getD i default).toNat with c | c | c
        · have := hl.1.lt c p2; rw [e] at this; omega
        · exact c
        · have := hl.1.lt c u2; rw [e] at this; omega
      have : j = i := o5 j i (by omega) hi (by omega)
      omega
    have hsub : ∀ x ∈ s, x ∈ l := fun x hx => by
      obtain ⟨j, j1, rfl⟩ := (i3 x).1 hx
      exact getD_mem (hin j (by omega)).2
    have c2 : ¬ hasN s (l.getD (q.getD i default).toNat default).Number = true := fun h => by
      obtain ⟨x, hx, he⟩ := List.any_eq_true.1 h
      exact hnew x hx (num_inj hl.1 (hsub x hx) hm (beq_iff_eq.1 he))
    have c3 : ¬ (s.any fun x => sameB x (l.getD (q.getD i default).toNat default)) = true := fun h => by
      obtain ⟨x, hx, he⟩ := List.any_eq_true.1 h
      exact hnew x hx (hl.2.2 x (hsub x hx) _ hm he)
    have hz : (addV s (l.getD (q.getD i default).toNat default)).2 = 0 := by
      unfold addV
      rw [if_neg (show ¬ ¬ WPl _ from fun k => k hpl.1), if_neg c2, if_neg c3, if_neg (by omega)]
    obtain ⟨w1, w2, w3⟩ := i1.add hpl.2 hz
    rw [guardP_pos ⟨p1, p2, trivial⟩, if_neg (by rw [hz]; decide)]
    refine ⟨_, rfl, w1, by rw [w2, i2], fun x => ?_⟩
    rw [w3, i3]
    constructor
    · rintro (rfl | ⟨j, h, e⟩)
      · exact ⟨i, by omega, rfl⟩
      · exact ⟨j, by omega, e⟩
    · rintro ⟨j, h, e⟩
      by_cases c : j = i
      · subst c; exact .inl e
      · exact .inr ⟨j, by omega, e⟩)
  have hbl : b = l := srt_ext hb1.1 hl.1 fun x => by
    rw [hb3]
    constructor
    · rintro ⟨j, hj, rfl⟩
      exact getD_mem (hin j hj).2
    · intro hx
      obtain ⟨k, hk, rfl⟩ := mem_getD hx
      obtain ⟨j, hj, ej⟩ := mem_getD ((o4 (k : Int)).2 (by omega))
      exact ⟨j, hj, by rw [ej, Int.toNat_natCast]⟩
  subst hbl
  rw [e3]
  simp only [outM]
  rw [SameList_refl]
  simp only [obind]
  rw [if_neg (by decide)]
  obtain ⟨z, e4, _⟩ := rangeM_inv (body := fun i s => (S_w19_WarrantLists_b2 (b, s2) b i s).den) (n := b.length) (fun _ s => TapeOk s) (s0 := s3) o2 (fun i t hi ht => by
    have hm := getD_mem hi
    have hpl := hl.2.1 _ hm
    simp only [S_w19_WarrantLists_b2, Scr.den]
    rw [Add_eq19 (by omega) hl.1 (by have := hpl.1.len; omega)]
    simp only [obind]
    have d0 : hasN b (b.getD i default).Number = true := List.any_eq_true.2 ⟨_, hm, beq_self_eq_true _⟩
    have d1 : (addV b (b.getD i default)).2 = 7 := by
      unfold addV
      rw [if_neg (show ¬ ¬ WPl _ from fun k => k hpl.1), if_pos d0]
    obtain ⟨v, t1, q1, q2, q3, q4⟩ := N_spec (n := 9) ht (by omega) (by omega)
    rw [if_neg (by rw [d1]; decide), q1]
    simp only [obind]
    rw [wrapId (n := 61 + v) (by omega) (by omega), show (⟨61 + v, (b.getD i default).Office, (b.getD i default).Code, (b.getD i default).Year, (b.getD i default).Verification, (b.getD i default).Attempt, (b.getD i default).Commitment, (b.getD i default).Reservation, (b.getD i default).Amount, (b.getD i default).Payee, (b.getD i default).Day, (b.getD i default).Due, (b.getD i default).First, (b.getD i default).Second⟩ : TApiWarrant) = renum (b.getD i default) (61 + v) from rfl, Add_eq19 (w := renum (b.getD i default) (61 + v)) (by omega) hl.1 (show (b.getD i default).Code.length ≤ 1000000 by have := hpl.1.len; omega)]
    simp only [obind]
    have hp2 : WPl (renum (b.getD i default) (61 + v)) := by
      obtain ⟨⟨_, x2, x3, x4, x5, x6⟩, y⟩ := hpl.1
      exact ⟨⟨by show 1 ≤ 61 + v ∧ 61 + v ≤ 1000000; omega, x2, x3, x4, x5, x6⟩, y⟩
    have hn2 : ¬ hasN b (61 + v) = true := fun h => by
      obtain ⟨x, hx, he⟩ := List.any_eq_true.1 h
      have := (hl.2.1 x hx).2
      have : x.Number = 61 + v := beq_iff_eq.1 he
      omega
    have d3 : (b.any fun x => sameB x (renum (b.getD i default) (61 + v))) = true := List.any_eq_true.2 ⟨_, hm, by unfold sameB renum; simp⟩
    have d2 : (addV b (renum (b.getD i default) (61 + v))).2 = 20 := by
      unfold addV
      rw [if_neg (show ¬ ¬ WPl _ from fun k => k hp2), if_neg (show ¬ hasN b (renum (b.getD i default) (61 + v)).Number = true from hn2), if_pos d3]
    rw [if_neg (by rw [d2]; decide)]
    exact ⟨_, rfl, q2⟩)
  rw [e4]
  simp only [awake19, obind]
theorem WarrantLists_true (a : List Int) : F_w19_WarrantLists a = some true := WarrantLists_eq a
end Go.Proofs.YtdenfihabhhnhaaGreatDoor
