/- A part of the proof: plain laws of what the functions compute. No condition. -/
import Derived.Test.YtkkdclpleghppaaP43j
namespace Go.Proofs.Ytkkdclpleghppaa
open Go Go.TA

/-! ## Sums that wrap -/
theorem wrap_mod (n : Int) : IntKind.i64.wrap n % 18446744073709551616 = n % 18446744073709551616 := by
  unfold IntKind.wrap
  show (if (true && decide (n % 18446744073709551616 ≥ 9223372036854775808)) = true then n % 18446744073709551616 - 18446744073709551616 else n % 18446744073709551616) % 18446744073709551616 = _
  split <;> omega
theorem wrap_congr {a b : Int} (h : a % 18446744073709551616 = b % 18446744073709551616) : IntKind.i64.wrap a = IntKind.i64.wrap b := by
  unfold IntKind.wrap
  show (if (true && decide (a % 18446744073709551616 ≥ 9223372036854775808)) = true then a % 18446744073709551616 - 18446744073709551616 else a % 18446744073709551616) = (if (true && decide (b % 18446744073709551616 ≥ 9223372036854775808)) = true then b % 18446744073709551616 - 18446744073709551616 else b % 18446744073709551616)
  rw [h]
theorem wrap_add (a b : Int) : IntKind.i64.wrap (IntKind.i64.wrap a + b) = IntKind.i64.wrap (a + b) := by
  apply wrap_congr
  have := wrap_mod a
  omega

def sumN (f : Int → Int) : Nat → Int
  | 0 => 0
  | n + 1 => sumN f n + f (n : Int)
theorem sumN_add (f g : Int → Int) : ∀ N, sumN (fun n => f n + g n) N = sumN f N + sumN g N
  | 0 => rfl
  | N + 1 => by simp only [sumN, sumN_add f g N]; omega
theorem sumN_zero : ∀ N, sumN (fun _ => 0) N = 0
  | 0 => rfl
  | N + 1 => by simp only [sumN, sumN_zero N]; rfl
theorem sumN_congr {f g : Int → Int} : ∀ N : Nat, (∀ n : Int, f n = g n) → sumN f N = sumN g N
  | 0, _ => rfl
  | N + 1, h => by simp only [sumN, sumN_congr N h, h]
theorem sumN_single (c a : Int) : ∀ N : Nat, sumN (fun n => if n = c then a else 0) N = if 0 ≤ c ∧ c < N then a else 0
  | 0 => by rw [if_neg (by omega)]; rfl
  | N + 1 => by
    simp only [sumN, sumN_single c a N]
    by_cases h : (N : Int) = c
    · rw [if_pos h, if_neg (by omega), if_pos (by omega)]; omega
    · rw [if_neg h]
      by_cases h2 : 0 ≤ c ∧ c < N
      · rw [if_pos h2, if_pos (by omega)]; omega
      · rw [if_neg h2, if_neg (by omega)]; omega
theorem sumN_tot (g : Int → TApiPosting → Int) (N : Nat) : ∀ l : List TApiPosting, sumN (fun n => tot (g n) l) N = tot (fun p => sumN (fun n => g n p) N) l
  | [] => sumN_zero N
  | p :: l => by
    simp only [tot]
    rw [sumN_add, sumN_tot g N l]
theorem sumN_sumQ (g : Int → Quad → Int) (N : Nat) : ∀ S : List Quad, sumN (fun n => sumQ (g n) S) N = sumQ (fun q => sumN (fun n => g n q) N) S
  | [] => sumN_zero N
  | p :: l => by
    simp only [sumQ]
    rw [sumN_add, sumN_sumQ g N l]
theorem sumQ_zero {f : Quad → Int} : ∀ {S : List Quad}, (∀ q ∈ S, f q = 0) → sumQ f S = 0
  | [], _ => rfl
  | q :: S, h => by simp [sumQ, h q List.mem_cons_self, sumQ_zero (S := S) fun p hp => h p (List.mem_cons_of_mem _ hp)]

theorem bookV_sum {g : List Int} {k : Int} {p : TApiPosting} (h : postOk p) : sumN (fun n => bookV g k n p) 600 = 0 := by
  have h1 := h.2.2.2.2.1
  have h2 := h.2.2.2.2.2.1
  unfold accOk at h1 h2
  by_cases hc : p.Entity ∈ g ∧ p.Day ≤ k
  · have e : ∀ n, bookV g k n p = (if n = p.Debit then p.Amount else 0) + (if n = p.Credit then -p.Amount else 0) := fun n => by
      unfold bookV
      rw [if_pos hc]
      split <;> split <;> omega
    rw [sumN_congr 600 e, sumN_add, sumN_single, sumN_single, if_pos (by omega), if_pos (by omega)]
    omega
  · have e : ∀ n, bookV g k n p = 0 := fun n => by unfold bookV; rw [if_neg hc]
    rw [sumN_congr 600 e, sumN_zero]

theorem dq_sum (m : MSpot) (q : Quad) : sumN (fun n => dq m n q) 600 = 0 := by
  by_cases hi : q.1 = 0
  · have e : ∀ n, dq m n q = (if n = 140 then -nq m q else 0) + (if n = 240 then nq m q else 0) := fun n => by
      unfold dq
      rw [if_pos hi]
      split
      · rw [if_neg (by omega)]; omega
      · omega
    rw [sumN_congr 600 e, sumN_add, sumN_single, sumN_single, if_pos (by omega), if_pos (by omega)]
    omega
  · have e : ∀ n, dq m n q = (if n = 440 then nq m q else 0) + (if n = 540 then -nq m q else 0) := fun n => by
      unfold dq
      rw [if_neg hi]
      split
      · rw [if_neg (by omega)]; omega
      · omega
    rw [sumN_congr 600 e, sumN_add, sumN_single, sumN_single, if_pos (by omega), if_pos (by omega)]
    omega

theorem tot_const0 {f : TApiPosting → Int} {l : List TApiPosting} (h : ∀ p ∈ l, f p = 0) : tot f l = 0 := by rw [tot_congr (g := fun _ => 0) h, tot_zero]

theorem whole_sum {l : List TApiPosting} (hl : Good l) {g : List Int} {k : Int} {R : List Int} {m : MSpot} {mp : List (Int × Int)} {E : Int} (h : WholeR l g k R m mp E) : sumN (fun n => mget mp n 0) 600 = 0 := by
  rw [sumN_congr 600 h.book, sumN_add, sumN_tot, sumN_sumQ, tot_const0 fun p hp => bookV_sum (good_mem hl hp), sumQ_zero fun q _ => dq_sum m q]
  rfl

/-! ## Lists of balances -/
def totB : List TApiBalance → Int
  | [] => 0
  | b :: r => b.Amount + totB r
theorem totB_app : ∀ a b : List TApiBalance, totB (a ++ b) = totB a + totB b
  | [], b => by simp [totB]
  | x :: a, b => by simp [totB, totB_app a b]; omega
theorem totB_balL (f : Int → Int) : ∀ N, totB (balL N f) = sumN f N
  | 0 => rfl
  | N + 1 => by
    unfold balL
    rw [List.range_succ, List.flatMap_append, totB_app, sumN]
    have := totB_balL f N
    unfold balL at this
    rw [this]
    simp only [List.flatMap_cons, List.flatMap_nil, List.append_nil]
    unfold balI
    split
    · simp [totB]
    · rename_i hz
      simp only [ne_eq, Decidable.not_not] at hz
      rw [hz]; rfl
theorem balL_mem {N : Nat} {f : Int → Int} {b : TApiBalance} (h : b ∈ balL N f) : 0 ≤ b.Account ∧ b.Account < N ∧ b.Amount = f b.Account ∧ b.Amount ≠ 0 := by
  unfold balL at h
  obtain ⟨i, hi, h⟩ := List.mem_flatMap.1 h
  have hi := List.mem_range.1 hi
  unfold balI at h
  split at h
  · rename_i hz
    simp at h
    subst h
    exact ⟨by simp, by simp; omega, rfl, hz⟩
  · cases h
theorem balL_asc (f : Int → Int) : ∀ N, (balL N f).Pairwise (fun a b => a.Account < b.Account)
  | 0 => by simp [balL]
  | N + 1 => by
    have ih := balL_asc f N
    have hs : balL (N + 1) f = balL N f ++ balI f N := by
      unfold balL
      rw [List.range_succ, List.flatMap_append]
      simp
    rw [hs, List.pairwise_append]
    refine ⟨ih, ?_, fun a ha b hb => ?_⟩
    · unfold balI
      split <;> simp
    · have h1 := (balL_mem ha).2.1
      unfold balI at hb
      split at hb
      · simp at hb
        subst hb
        simpa using h1
      · cases hb
theorem totB_succ {B : List TApiBalance} {i : Nat} (hi : i < B.length) : totB (B.take (i + 1)) = totB (B.take i) + (B.getD i default).Amount := by
  rw [List.take_add_one, totB_app]
  simp [List.getElem?_eq_getElem hi, totB]
theorem getD_mem {B : List TApiBalance} {i : Nat} (hi : i < B.length) : B.getD i default ∈ B := by
  simp [List.getElem?_eq_getElem hi]

/-! ## The sum over a group -/
theorem bookV_cons {g : List Int} {a k n : Int} {p : TApiPosting} (ha : a ∉ g) : bookV (g ++ [a]) k n p = bookV g k n p + bookV [a] k n p := by
  unfold bookV
  generalize ((if n = p.Debit then p.Amount else 0) - (if n = p.Credit then p.Amount else 0)) = X
  simp only [List.mem_append, List.mem_singleton]
  by_cases h1 : p.Entity = a
  · have h3 : p.Entity ∉ g := by rw [h1]; exact ha
    by_cases h2 : p.Day ≤ k <;> simp [h1, h2, ha]
  · by_cases h3 : p.Entity ∈ g <;> by_cases h2 : p.Day ≤ k <;> simp [h1, h2, h3]

theorem take_not {g : List Int} (hg : g.Nodup) {i : Nat} (hi : i < g.length) : g.getD i default ∉ g.take i := by
  intro h
  obtain ⟨j, hj, e⟩ := List.getElem_of_mem h
  simp at hj
  rw [List.getElem_take] at e
  simp [List.getElem?_eq_getElem hi] at e
  exact List.pairwise_iff_getElem.1 hg j i (by omega) hi (by omega) e

theorem F3_b1_loop {l : List TApiPosting} (hl : Good l) {g : List Int} (hg : g.Nodup) (hpos : ∀ x ∈ g, x ≠ 0) (n k : Int) {body : Nat → Int → Option (Step Int Bool)}
    (hb : ∀ i s, i < g.length → body i s = (F12 ⟨l⟩ (g.getD i default) n k).bind fun r => some (Step.cont (IntKind.i64.wrap (s + r)))) :
    rangeM body g.length 0 0 = some (.next (tot (bookV g k n) l)) := by
  have hlen := hl.len
  obtain ⟨s, h1, h2⟩ := rangeM_inv (body := body) (n := g.length) (s0 := (0 : Int)) (fun i s => s = tot (bookV (g.take i) k n) l)
    (by rw [tot_const0]; intro p _; unfold bookV; rw [if_neg (by simp)]) (fun i s hi hs => by
      have hmem : g.getD i default ∈ g := by simp [List.getElem?_eq_getElem hi]
      rw [hb i s hi, F12_spec hl (hpos _ hmem)]
      have b1 := tot_bound (f := bookV (g.take i) k n) (c := 1000000000000) (l := l) fun p hp => bookV_bound (good_mem hl hp)
      have b2 := tot_bound (f := bookV [g.getD i default] k n) (c := 1000000000000) (l := l) fun p hp => bookV_bound (good_mem hl hp)
      refine ⟨_, rfl, ?_⟩
      rw [wrapId (by omega) (by omega), hs, ← tot_add]
      refine tot_congr fun p _ => ?_
      rw [List.take_add_one, List.getElem?_eq_getElem hi]
      show _ = bookV (List.take i g ++ [g[i]]) k n p
      have he : g.getD i default = g[i] := by simp [List.getElem?_eq_getElem hi]
      rw [bookV_cons (by rw [← he]; exact take_not hg hi), he])
  rw [h1, h2, List.take_length]
end Go.Proofs.Ytkkdclpleghppaa
