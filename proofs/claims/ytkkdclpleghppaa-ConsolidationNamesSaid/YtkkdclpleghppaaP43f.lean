/- A part of the proof: plain laws of what the functions compute. No condition. -/
import Derived.Test.YtkkdclpleghppaaP43e
namespace Go.Proofs.Ytkkdclpleghppaa
open Go Go.TA

/-! ## Maps as functions -/
section
variable {α β : Type} [BEq α]
theorem mget_cons (p : α × β) (l : List (α × β)) (k : α) (z : β) : mget (p :: l) k z = if (k == p.1) = true then p.2 else mget l k z := by
  unfold mget
  rw [List.find?_cons]
  cases k == p.1 <;> rfl
theorem mget_nil (k : α) (z : β) : mget ([] : List (α × β)) k z = z := rfl
theorem mupd_nil (k : α) (v : β) : mupd ([] : List (α × β)) k v = [(k, v)] := rfl
theorem mupd_cons (p : α × β) (l : List (α × β)) (k : α) (v : β) : mupd (p :: l) k v = if (k == p.1) = true then (p.1, v) :: l else p :: mupd l k v := by
  unfold mupd msto ment midx
  rw [List.any_cons, List.findIdx_cons]
  cases h : k == p.1 with
  | true => simp
  | false =>
    simp only [Bool.false_or, Bool.false_eq_true, if_false, cond_false]
    split <;> simp
theorem mget_mupd [LawfulBEq α] (l : List (α × β)) (k k' : α) (v z : β) : mget (mupd l k v) k' z = if (k' == k) = true then v else mget l k' z := by
  induction l with
  | nil => rw [mupd_nil, mget_cons, mget_nil]
  | cons p l ih =>
    rw [mupd_cons]
    by_cases h : (k == p.1) = true
    · have e := eq_of_beq h
      subst e
      rw [if_pos h, mget_cons, mget_cons]
      by_cases h' : (k' == p.1) = true
      · rw [if_pos h', if_pos h']
      · rw [if_neg h', if_neg h', if_neg h']
    · rw [if_neg h, mget_cons, mget_cons, ih]
      by_cases h' : (k' == p.1) = true
      · have e := eq_of_beq h'
        subst e
        rw [if_pos h', if_neg, if_pos h']
        intro h2
        exact h (by rw [eq_of_beq h2]; exact beq_self_eq_true _)
      · rw [if_neg h', if_neg h']
end

/-! ## Sums over postings -/
def tot (f : TApiPosting → Int) : List TApiPosting → Int
  | [] => 0
  | p :: r => f p + tot f r

theorem tot_app (f : TApiPosting → Int) : ∀ (a b : List TApiPosting), tot f (a ++ b) = tot f a + tot f b
  | [], b => by simp [tot]
  | p :: a, b => by simp [tot, tot_app f a b]; omega
theorem take_succ {l : List TApiPosting} {i : Nat} (hi : i < l.length) : l.take (i + 1) = l.take i ++ [at' l i] := by
  unfold at'
  rw [List.take_add_one]
  simp [List.getElem?_eq_getElem hi]
theorem tot_succ (f : TApiPosting → Int) {l : List TApiPosting} {i : Nat} (hi : i < l.length) : tot f (l.take (i + 1)) = tot f (l.take i) + f (at' l i) := by
  rw [take_succ hi, tot_app]
  simp [tot]
theorem tot_bound {f : TApiPosting → Int} {c : Int} : ∀ {l : List TApiPosting}, (∀ p ∈ l, -c ≤ f p ∧ f p ≤ c) → -(c * l.length) ≤ tot f l ∧ tot f l ≤ c * l.length
  | [], _ => by simp [tot]
  | p :: l, h => by
    have h1 := tot_bound (l := l) fun q hq => h q (List.mem_cons_of_mem _ hq)
    have h2 := h p List.mem_cons_self
    simp only [tot, List.length_cons]
    have e : c * ((l.length + 1 : Nat) : Int) = c * (l.length : Int) + c := by
      rw [Int.natCast_add, Int.mul_add]; simp
    rw [e]
    omega
theorem tot_congr {f g : TApiPosting → Int} : ∀ {l : List TApiPosting}, (∀ p ∈ l, f p = g p) → tot f l = tot g l
  | [], _ => rfl
  | p :: l, h => by simp [tot, h p List.mem_cons_self, tot_congr (l := l) fun q hq => h q (List.mem_cons_of_mem _ hq)]
theorem tot_add (f g : TApiPosting → Int) : ∀ l : List TApiPosting, tot (fun p => f p + g p) l = tot f l + tot g l
  | [] => rfl
  | p :: l => by simp [tot, tot_add f g l]; omega
theorem tot_zero : ∀ l : List TApiPosting, tot (fun _ => 0) l = 0
  | [] => rfl
  | p :: l => by simp [tot, tot_zero l]

theorem good_mem {l : List TApiPosting} (h : Good l) {p : TApiPosting} (hp : p ∈ l) : postOk p := by
  obtain ⟨i, hi, rfl⟩ := List.getElem_of_mem hp
  have := h.post i hi
  unfold at' at this
  simpa [List.getElem?_eq_getElem hi] using this
theorem at'_mem {l : List TApiPosting} {i : Nat} (hi : i < l.length) : at' l i ∈ l := by
  unfold at'
  simp [List.getElem?_eq_getElem hi]

/-! ## Spots -/
def keyD (p : TApiPosting) : TConsolidationSpot := ⟨p.Debit, p.Entity, p.Partner, p.Ref⟩
def keyC (p : TApiPosting) : TConsolidationSpot := ⟨p.Credit, p.Entity, p.Partner, p.Ref⟩
def spotV (k : Int) (s : TConsolidationSpot) (p : TApiPosting) : Int := if p.Day ≤ k then (if (s == keyD p) = true then p.Amount else 0) - (if (s == keyC p) = true then p.Amount else 0) else 0

theorem key_ne {p : TApiPosting} (h : postOk p) : (keyC p == keyD p) = false := by
  rw [Bool.eq_false_iff]
  intro e
  have := eq_of_beq e
  unfold keyC keyD at this
  have := congrArg TConsolidationSpot.account this
  exact h.2.2.2.1 this.symm

theorem spotV_bound {k : Int} {s : TConsolidationSpot} {p : TApiPosting} (h : postOk p) : -1000000000000 ≤ spotV k s p ∧ spotV k s p ≤ 1000000000000 := by
  have hk := key_ne h
  have ha := h.2.2.2.2.2.2.1
  unfold spotV
  split
  · split
    · split <;> omega
    · split <;> omega
  · omega

theorem F55_spec {l : List TApiPosting} (hl : Good l) (k : Int) : ∃ m, F55 ⟨l⟩ k = some m ∧ ∀ s, mget m s 0 = tot (spotV k s) l := by
  unfold F55
  rw [F50_spec]
  simp only [Option.bind_some, chk_good.2 hl]
  rw [if_neg (by simp)]
  obtain ⟨m, h1, h2⟩ := rangeM_inv (body := F55_b1 ⟨l⟩ k) (n := l.length) (s0 := ([] : List (TConsolidationSpot × Int))) (fun i m => ∀ s, mget m s 0 = tot (spotV k s) (l.take i))
    (fun s => by simp [mget_nil, tot]) (fun i m hi hm => by
      unfold F55_b1
      have hp := hl.post i hi
      have hlen := hl.len
      have hb : ∀ s, -400000000000000 ≤ mget m s 0 ∧ mget m s 0 ≤ 400000000000000 := fun s => by
        rw [hm s]
        have := tot_bound (f := spotV k s) (c := 1000000000000) (l := l.take i) fun p hp => spotV_bound (good_mem hl (List.mem_of_mem_take hp))
        have e : (l.take i).length = i := by simp; omega
        rw [e] at this
        omega
      have ha := hp.2.2.2.2.2.2.1
      show ∃ s', Option.bind (if (decide ((at' l i).Day ≤ k)) = true then some (mupd (mupd m (keyD (at' l i)) (IntKind.i64.wrap (mget m (keyD (at' l i)) 0 + (at' l i).Amount))) (keyC (at' l i)) (IntKind.i64.wrap (mget (mupd m (keyD (at' l i)) (IntKind.i64.wrap (mget m (keyD (at' l i)) 0 + (at' l i).Amount))) (keyC (at' l i)) 0 - (at' l i).Amount))) else some m) (fun s => some (Step.cont s)) = some (.cont s') ∧ _
      by_cases hd : (at' l i).Day ≤ k
      · rw [if_pos (by simpa using hd)]
        refine ⟨_, rfl, fun s => ?_⟩
        have hbD := hb (keyD (at' l i))
        have hbC := hb (keyC (at' l i))
        rw [wrapId (n := mget m (keyD (at' l i)) 0 + (at' l i).Amount) (by omega) (by omega)]
        rw [mget_mupd, mget_mupd, mget_mupd, tot_succ _ hi, ← hm s, key_ne hp]
        simp only [Bool.false_eq_true, if_false]
        rw [wrapId (n := mget m (keyC (at' l i)) 0 - (at' l i).Amount) (by omega) (by omega)]
        unfold spotV
        rw [if_pos hd]
        by_cases c1 : (s == keyC (at' l i)) = true
        · have e := eq_of_beq c1
          subst e
          rw [if_pos c1, key_ne hp]
          simp
          omega
        · rw [if_neg c1]
          simp only [c1]
          by_cases c2 : (s == keyD (at' l i)) = true
          · have e := eq_of_beq c2
            subst e
            simp
          · simp [c2]
      · rw [if_neg (by simpa using hd)]
        refine ⟨_, rfl, fun s => ?_⟩
        rw [tot_succ _ hi, ← hm s]
        unfold spotV
        rw [if_neg hd]
        omega)
  rw [h1]
  exact ⟨m, rfl, fun s => by have := h2 s; rwa [List.take_length] at this⟩
end Go.Proofs.Ytkkdclpleghppaa
