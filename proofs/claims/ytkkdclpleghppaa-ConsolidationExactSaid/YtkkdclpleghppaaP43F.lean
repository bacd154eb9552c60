/- A part of the proof: plain laws of what the functions compute. No condition. -/
import Derived.Test.YtkkdclpleghppaaP43A
namespace Go.Proofs.Ytkkdclpleghppaa
open Go Go.TA

/-! ## Maps as functions -/
section
variable {α β : Type} [BEq α]
theorem mget_cons (p : α × β) (l : List (α × β)) (k : α) (z : β) : mget (p :: l) k z = if (k == p.1) = true then p.2 else mget l k z := by
  unfold mget
  rw [List.find?_cons]
  cases k == p.1 <;> rfl
theorem mget_nil (k : α) (z : β) : mget ([] : List (α × β)) k z = z := rfl
theorem mupd_nil (k : α) (v : β) : mupd ([] : List (α × β)) k v = [(k, v)] := rfl
theorem mupd_cons (p : α × β) (l : List (α × β)) (k : α) (v : β) : mupd (p :: l) k v = if (k == p.1) = true then (p.1, v) :: l else p :: mupd l k v := by
  unfold mupd msto ment midx
  rw [List.any_cons, List.findIdx_cons]
  cases h : k == p.1 with
  | true => simp
  | false =>
    simp only [Bool.false_or, Bool.false_eq_true, if_false, cond_false]
    split <;> simp
theorem mget_mupd [LawfulBEq α] (l : List (α × β)) (k k' : α) (v z : β) : mget (mupd l k v) k' z = if (k' == k) = true then v else mget l k' z := by
  induction l with
  | nil => rw [mupd_nil, mget_cons, mget_nil]
  | cons p l ih =>
    rw [mupd_cons]
    by_cases h : (k == p.1) = true
    · have e := eq_of_beq h
      subst e
      rw [if_pos h, mget_cons, mget_cons]
      by_cases h' : (k' == p.1) = true
      · rw [if_pos h', if_pos h']
      · rw [if_neg h', if_neg h', if_neg h']
    · rw [if_neg h, mget_cons, mget_cons, ih]
      by_cases h' : (k' == p.1) = true
      · have e := eq_of_beq h'
        subst e
        rw [if_pos h', if_neg, if_pos h']
        intro h2
        exact h (by rw [eq_of_beq h2]; exact beq_self_eq_true _)
      · rw [if_neg h', if_neg h']
end

/-! ## Sums over postings -/
def tot (f : TApiPosting → Int) : List TApiPosting → Int
  | [] => 0
  | p :: r => f p + tot f r

theorem tot_app (f : TApiPosting → Int) : ∀ (a b : List TApiPosting), tot f (a ++ b) = tot f a + tot f b
  | [], b => by simp [tot]
  | p :: a, b => by simp [tot, tot_app f a b]; omega
theorem take_succ {l : List TApiPosting} {i : Nat} (hi : i < l.length) : l.take (i + 1) = l.take i ++ [at' l i] := by
  unfold at'
  rw [List.take_add_one]
  simp [List.getElem?_eq_getElem hi]
theorem tot_succ (f : TApiPosting → Int) {l : List TApiPosting} {i : Nat} (hi : i < l.length) : tot f (l.take (i + 1)) = tot f (l.take i) + f (at' l i) := by
  rw [take_succ hi, tot_app]
  simp [tot]
theorem tot_bound {f : TApiPosting → Int} {c : Int} : ∀ {l : List TApiPosting}, (∀ p ∈ l, -c ≤ f p ∧ f p ≤ c) → -(c * l.length) ≤ tot f l ∧ tot f l ≤ c * l.length
  | [], _ => by simp [tot]
  | p :: l, h => by
    have h1 := tot_bound (l := l) fun q hq => h q (List.mem_cons_of_mem _ hq)
    have h2 := h p List.mem_cons_self
    simp only [tot, List.length_cons]
    have e : c * ((l.length + 1 : Nat) : Int) = c * (l.length : Int) + c := by
      rw [Int.natCast_add, Int.mul_add]; simp
    rw [e]
    omega
theorem tot_congr {f g : TApiPosting → Int} : ∀ {l : List TApiPosting}, (∀ p ∈ l, f p = g p) → tot f l = tot g l
  | [], _ => rfl
  | p :: l, h => by simp [tot, h p List.mem_cons_self, tot_congr (l := l) fun q hq => h q (List.mem_cons_of_mem _ hq)]
theorem tot_add (f g : TApiPosting → Int) : ∀ l : List TApiPosting, tot (fun p => f p + g p) l = tot f l + tot g l
  | [] => rfl
  | p :: l => by simp [tot, tot_add f g l]; omega
theorem tot_zero : ∀ l : List TApiPosting, tot (fun _ => 0) l = 0
  | [] => rfl
  | p :: l => by simp [tot, tot_zero l]

theorem good_mem {l : List TApiPosting} (h : Good l) {p : TApiPosting} (hp : p ∈ l) : postOk p := by
  obtain ⟨i, hi, rfl⟩ := List.getElem_of_mem hp
  have := h.post i hi
  unfold at' at this
  simpa [List.getElem?_eq_getElem hi] using this
theorem at'_mem {l : List TApiPosting} {i : Nat} (hi : i < l.length) : at' l i ∈ l := by
  unfold at'
  simp [List.getElem?_eq_getElem hi]

/-! ## Spots -/
def keyD (p : TApiPosting) : TConsolidationSpot := ⟨p.Debit, p.Entity, p.Partner, p.Ref⟩
def keyC (p : TApiPosting) : TConsolidationSpot := ⟨p.Credit, p.Entity, p.Partner, p.Ref⟩
def spotV (k : Int) (s : TConsolidationSpot) (p : TApiPosting) : Int := if p.Day ≤ k then (if (s == keyD p) = true then p.Amount else 0) - (if (s == keyC p) = true then p.Amount else 0) else 0

theorem key_ne {p : TApiPosting} (h : postOk p) : (keyC p == keyD p) = false := by
  rw [Bool.eq_false_iff]
  intro e
  have := eq_of_beq e
  unfold keyC keyD at this
  have := congrArg TConsolidationSpot.account this
  exact h.2.2.2.1 this.symm

theorem spotV_bound {k : Int} {s : TConsolidationSpot} {p : TApiPosting} (h : postOk p) : -1000000000000 ≤ spotV k s p ∧ spotV k s p ≤ 1000000000000 := by
  have hk := key_ne h
  have ha := h.2.2.2.2.2.2.1
  unfold spotV
  split
  · split
    · split <;> omega
    · split <;> omega
  · omega

theorem F55_spec {l : List TApiPosting} (hl : Good l) (k : Int) : ∃ m, F55 ⟨l⟩ k = some m ∧ ∀ s, mget m s 0 = tot (spotV k s) l := by
  unfold F55
  rw [F50_spec]
  simp only [Option.bind_some, chk_good.2 hl]
  rw [if_neg (by simp)]
  obtain ⟨m, h1, h2⟩ := rangeM_inv (body := F55_b1 ⟨l⟩ k) (n := l.length) (s0 := ([] : List (TConsolidationSpot × Int))) (fun i m => ∀ s, mget m s 0 = tot (spotV k s) (l.take i))
    (fun s => by simp [mget_nil, tot]) (fun i m hi hm => by
      unfold F55_b1
      have hp := hl.post i hi
      have hlen := hl.len
      have hb : ∀ s, -400000000000000 ≤ mget m s 0 ∧ mget m s 0 ≤ 400000000000000 := fun s => by
        rw [hm s]
        have := tot_bound (f := spotV k s) (c := 1000000000000) (l := l.take i) fun p hp => spotV_bound (good_mem hl (List.mem_of_mem_take hp))
        have e : (l.take i).length = i := by simp; omega
        rw [e] at this
        omega
      have ha := hp.2.2.2.2.2.2.1
      show ∃ s', Option.bind (if (decide ((at' l i).Day ≤ k)) = true then some (mupd (mupd m (keyD (at' l i)) (IntKind.i64.wrap (mget m (keyD (at' l i)) 0 + (at' l i).Amount))) (keyC (at' l i)) (IntKind.i64.wrap (mget (mupd m (keyD (at' l i)) (IntKind.i64.wrap (mget m (keyD (at' l i)) 0 + (at' l i).Amount))) (keyC (at' l i)) 0 - (at' l i).Amount))) else some m) (fun s => some (Step.cont s)) = some (.cont s') ∧ _
      by_cases hd : (at' l i).Day ≤ k
      · rw [if_pos (by simpa using hd)]
        refine ⟨_, rfl, fun s => ?_⟩
        have hbD := hb (keyD (at' l i))
        have hbC := hb (keyC (at' l i))
        rw [wrapId (n := mget m (keyD (at' l i)) 0 + (at' l i).Amount) (by omega) (by omega)]
        rw [mget_mupd, mget_mupd, mget_mupd, tot_succ _ hi, ← hm s, key_ne hp]
        simp only [Bool.false_eq_true, if_false]
        rw [wrapId (n := mget m (keyC (at' l i)) 0 - (at' l i).Amount) (by omega) (by omega)]
        unfold spotV
        rw [if_pos hd]
        by_cases c1 : (s == keyC (at' l i)) = true
        · have e := eq_of_beq c1
          subst e
          rw [if_pos c1, key_ne hp]
          simp
          omega
        · rw [if_neg c1]
          simp only [c1]
          by_cases c2 : (s == keyD (at' l i)) = true
          · have e := eq_of_beq c2
            subst e
            simp
          · simp [c2]
      · rw [if_neg (by simpa using hd)]
        refine ⟨_, rfl, fun s => ?_⟩
        rw [tot_succ _ hi, ← hm s]
        unfold spotV
        rw [if_neg hd]
        omega)
  rw [h1]
  exact ⟨m, rfl, fun s => by have := h2 s; rwa [List.take_length] at this⟩
end Go.Proofs.Ytkkdclpleghppaa

namespace Go.Proofs.Ytkkdclpleghppaa
open Go Go.TA

/-! ## References -/
theorem compact_mem {zs : List Int} {x : Int} : x ∈ Lib.compact zs ↔ x ∈ zs := by
  unfold Lib.compact Lib.compactUpTo
  simp only [List.mem_map, List.mem_filter, List.mem_range]
  constructor
  · rintro ⟨j, ⟨hj, _⟩, rfl⟩
    simp [hj]
  · intro hx
    -- the first place that holds x
    obtain ⟨j, hj, hjx⟩ := List.getElem_of_mem hx
    have : ∀ (n j : Nat) (hj : j < zs.length), j ≤ n → zs[j] = x → ∃ a, (a < zs.length ∧ Lib.keeps zs.toArray a = true) ∧ zs.toArray[a]! = x := by
      intro n
      induction n with
      | zero =>
        intro j hj h0 hx
        obtain rfl : j = 0 := by omega
        exact ⟨0, ⟨hj, Lib.keeps_lt_one _ 0 (by omega)⟩, by simp [hj, hx]⟩
      | succ n ih =>
        intro j hj h0 hx
        by_cases hk : Lib.keeps zs.toArray j = true
        · exact ⟨j, ⟨hj, hk⟩, by simp [hj, hx]⟩
        · have hk' : ¬ (j = 0 ∨ zs.toArray[j]! ≠ zs.toArray[j - 1]!) := by simpa [Lib.keeps] using hk
          have hj0 : j ≠ 0 := fun e => hk' (.inl e)
          have heq : zs.toArray[j]! = zs.toArray[j - 1]! := by
            rcases Decidable.em (zs.toArray[j]! = zs.toArray[j - 1]!) with e | e
            · exact e
            · exact absurd (.inr e) hk'
          refine ih (j - 1) (by omega) (by omega) ?_
          simp [hj, show j - 1 < zs.length by omega] at heq
          rw [← heq, hx]
    exact this j j hj (Nat.le_refl _) hjx

theorem compactUpTo_asc {d : Array Int} (hs : ∀ i j, i < j → j < d.size → d[i]! ≤ d[j]!) : ∀ m, m ≤ d.size → (Lib.compactUpTo d m).Pairwise (· < ·) ∧ ∀ x ∈ Lib.compactUpTo d m, ∃ i, i < m ∧ d[i]! = x
  | 0, _ => ⟨by simp [Lib.compactUpTo], fun x hx => by simp [Lib.compactUpTo] at hx⟩
  | m + 1, hm => by
    obtain ⟨h1, h2⟩ := compactUpTo_asc hs m (by omega)
    rw [Lib.compactUpTo_succ]
    by_cases hk : Lib.keeps d m = true
    · rw [if_pos hk]
      refine ⟨List.pairwise_append.2 ⟨h1, by simp, fun a ha b hb => ?_⟩, fun x hx => ?_⟩
      · simp at hb
        subst hb
        obtain ⟨i, hi, rfl⟩ := h2 a ha
        have hk' : m = 0 ∨ d[m]! ≠ d[m - 1]! := by simpa [Lib.keeps] using hk
        rcases hk' with rfl | hk'
        · omega
        · have a1 : d[i]! ≤ d[m - 1]! := by
            rcases Nat.lt_or_ge i (m - 1) with h | h
            · exact hs _ _ h (by omega)
            · obtain rfl : i = m - 1 := by omega
              exact Int.le_refl _
          have a2 := hs (m - 1) m (by omega) (by omega)
          omega
      · rcases List.mem_append.1 hx with hx | hx
        · obtain ⟨i, hi, e⟩ := h2 x hx
          exact ⟨i, by omega, e⟩
        · simp at hx
          exact ⟨m, by omega, hx.symm⟩
    · rw [if_neg hk, List.append_nil]
      exact ⟨h1, fun x hx => by
        obtain ⟨i, hi, e⟩ := h2 x hx
        exact ⟨i, by omega, e⟩⟩

theorem isort_mem {l : List Int} {x : Int} : x ∈ isort l ↔ x ∈ l := by
  unfold isort
  exact List.mem_mergeSort

theorem isort_sorted (l : List Int) : (isort l).Pairwise (· ≤ ·) := by
  have := List.pairwise_mergeSort (le := fun x y : Int => decide (x ≤ y)) (fun a b c h1 h2 => by simp at *; omega) (fun a b => by simp; omega) l
  exact this.imp fun h => of_decide_eq_true h

/-- The references of a ledger, ascending. -/
structure Refs (l : List TApiPosting) (R : List Int) : Prop where
  asc : R.Pairwise (· < ·)
  mem : ∀ r, r ∈ R ↔ ∃ p ∈ l, p.Ref = r
  len : R.length ≤ l.length

theorem F58_spec {l : List TApiPosting} (hl : l.length ≤ 400) : ∃ R, F58 ⟨l⟩ = some R ∧ Refs l R := by
  unfold F58
  obtain ⟨m, h1, h2⟩ := rangeM_inv (body := F58_b1 ⟨l⟩) (n := l.length) (s0 := ([] : List Int)) (fun i m => m = (l.take i).map (·.Ref)) rfl (fun i m hi hm => by
    unfold F58_b1
    have hlen : m.length = i := by rw [hm]; simp; omega
    rw [guardP_pos (p := AllP [(m.length + 1) * (2 * 8) ≤ 2 ^ 48]) (And.intro (by omega) trivial)]
    refine ⟨_, rfl, ?_⟩
    rw [take_succ hi, List.map_append, ← hm]
    rfl)
  rw [h1]
  simp only [List.take_length] at h2
  have hml : m.length = l.length := by rw [h2]; simp
  refine ⟨Lib.compact (isort m), ?_, ?_, fun r => ?_, ?_⟩
  · show (F64 m).bind _ = _
    unfold F64 F65
    rw [guardP_pos (by omega)]
    simp only [Option.bind_some]
    rw [guardP_pos (isort_length m), guardP_pos (by rw [isort_length]; omega)]
    rfl
  · have hs := isort_sorted m
    have := (compactUpTo_asc (d := (isort m).toArray) (fun i j hij hj => by
      have hj' : j < (isort m).length := by simpa using hj
      have := List.pairwise_iff_getElem.1 hs i j (by omega) hj' hij
      simpa [show i < (isort m).length by omega, hj'] using this) (isort m).length (by simp)).1
    simpa [Lib.compact] using this
  · rw [compact_mem, isort_mem, h2]
    simp
  · have : (Lib.compact (isort m)).length ≤ (isort m).length := by
      unfold Lib.compact Lib.compactUpTo
      rw [List.length_map]
      exact Nat.le_trans (List.length_filter_le _ _) (by simp)
    rw [isort_length] at this
    omega
end Go.Proofs.Ytkkdclpleghppaa

namespace Go.Proofs.Ytkkdclpleghppaa
open Go Go.TA

/-! ## Groups -/
structure Grp (g : List Int) : Prop where
  ne : g ≠ []
  len : g.length ≤ 10
  mem : ∀ i, i < g.length → 1 ≤ g.getD i default ∧ g.getD i default ≤ 10
  asc : ∀ i, 0 < i → i < g.length → g.getD (i - 1) default < g.getD i default

theorem F24_spec {l : List TApiPosting} (hl : Good l) {g : List Int} (hg : Grp g) : F24 ⟨l⟩ g = some 0 := by
  unfold F24
  rw [F50_spec]
  simp only [Option.bind_some, chk_good.2 hl]
  rw [if_neg (by simp)]
  have hlen := hg.len
  have h1 : rangeM (F24_b1 g) g.length 0 () = _ := rangeM_any (c := 89) (fun _ => false) fun i hi => by
    unfold F24_b1
    have hm := hg.mem i hi
    rw [guardP_pos]
    · have hc : (bif (bif (decide ((g.getD i default) < 1)) then true else (decide ((g.getD i default) > 10))) then true else (bif (decide ((i : Int) > 0)) then (decide ((g.getD (((IntKind.i64.wrap ((i : Int) - 1))).toNat) default) ≥ (g.getD i default))) else false)) = false := by
        rw [cond_or, cond_or, cond_and]
        by_cases h0 : 0 < i
        · have := hg.asc i h0 hi
          rw [wrapId (n := (i : Int) - 1) (by omega) (by omega), show ((i : Int) - 1).toNat = i - 1 by omega]
          simp only [Bool.or_eq_false_iff, Bool.and_eq_false_iff, decide_eq_false_iff_not]
          omega
        · simp only [Bool.or_eq_false_iff, Bool.and_eq_false_iff, decide_eq_false_iff_not]
          omega
      rw [hc]
      rfl
    · refine And.intro (fun h => ?_) (And.intro (fun h => ?_) trivial)
      · have := of_decide_eq_true h.1
        rw [wrapId (by omega) (by omega)]; omega
      · have := of_decide_eq_true h.1
        rw [wrapId (by omega) (by omega)]; omega
  rw [h1]
  have h2 : (List.range g.length).any (fun _ => false) = false := by rw [List.any_eq_false]; simp
  rw [h2]
  have h3 : g.length ≠ 0 := fun e => hg.ne (List.length_eq_zero_iff.1 e)
  show (if ((g.length : Int) == 0) = true then some 89 else some 0) = some 0
  rw [if_neg (by simp; exact fun e => hg.ne e)]

theorem F47_spec {l : List TApiPosting} (hl : Good l) {g : List Int} (hg : Grp g) {k : Int} (h0 : 0 ≤ k) (h1 : k ≤ 36000) : F47 ⟨l⟩ g k = some 0 := by
  unfold F47
  rw [F24_spec hl hg]
  simp only [Option.bind_some]
  rw [if_neg]
  · rfl
  · rw [cond_and, cond_or]
    simp
    omega

/-! ## Loops that make a list -/
theorem rangeM_app {ρ α : Type} {body : Nat → List α → Option (Step (List α) ρ)} {n : Nat} (f : Nat → List α) (c : Nat) {s0 : List α} (hf : ∀ i, i < n → (f i).length ≤ c)
    (hb : ∀ i s, i < n → s.length ≤ s0.length + i * c → body i s = some (.cont (s ++ f i))) : rangeM body n 0 s0 = some (.next (s0 ++ (List.range n).flatMap f)) := by
  obtain ⟨s, h1, h2⟩ := rangeM_inv (body := body) (n := n) (s0 := s0) (fun i s => s = s0 ++ (List.range i).flatMap f ∧ s.length ≤ s0.length + i * c) ⟨by simp, by simp⟩ (fun i s hi hs => by
    refine ⟨_, hb i s hi hs.2, ?_, ?_⟩
    · rw [hs.1, List.range_succ, List.flatMap_append]; simp
    · have := hf i hi
      rw [List.length_append, Nat.succ_mul]
      omega)
  rw [h1, h2.1]

theorem flatMap_getD {α : Type} (F : Int → List α) : ∀ g : List Int, (List.range g.length).flatMap (fun i => F (g.getD i default)) = g.flatMap F
  | [] => rfl
  | a :: g => by
    rw [List.length_cons, List.range_succ_eq_map, List.flatMap_cons, List.flatMap_map, List.flatMap_cons]
    congr 1
    exact flatMap_getD F g

theorem flatMap_len {α β : Type} {F : α → List β} {c : Nat} : ∀ {g : List α}, (∀ a ∈ g, (F a).length ≤ c) → (g.flatMap F).length ≤ g.length * c
  | [], _ => by simp
  | a :: g, h => by
    have h1 := h a List.mem_cons_self
    have h2 := flatMap_len (g := g) fun b hb => h b (List.mem_cons_of_mem _ hb)
    rw [List.flatMap_cons, List.length_append, List.length_cons, Nat.succ_mul]
    omega

/-! ## Differences -/
abbrev MSpot := List (TConsolidationSpot × Int)
/-- The first and the second side of a mutual position. -/
def xv (m : MSpot) (i : Nat) (a b r : Int) : Int := if i = 0 then mget m ⟨140, a, b, r⟩ 0 else -mget m ⟨440, a, b, r⟩ 0
def yv (m : MSpot) (i : Nat) (a b r : Int) : Int := if i = 0 then -mget m ⟨240, b, a, r⟩ 0 else mget m ⟨540, b, a, r⟩ 0
def dif (m : MSpot) (i : Nat) (a b r : Int) : List TApiDifference := if xv m i a b r - yv m i a b r ≠ 0 then [⟨(i : Int) + 1, a, b, r, xv m i a b r - yv m i a b r⟩] else []
def difB (m : MSpot) (R : List Int) (i : Nat) (a b : Int) : List TApiDifference := if a = b then [] else R.flatMap (dif m i a b)
def difs (m : MSpot) (R g : List Int) : List TApiDifference := (List.range 2).flatMap fun i => g.flatMap fun a => g.flatMap fun b => difB m R i a b

def Small (m : MSpot) : Prop := ∀ s, -400000000000000 ≤ mget m s 0 ∧ mget m s 0 ≤ 400000000000000

theorem dif_len (m : MSpot) (i : Nat) (a b r : Int) : (dif m i a b r).length ≤ 1 := by unfold dif; split <;> simp
theorem difB_len {m : MSpot} {R : List Int} (hR : R.length ≤ 400) (i : Nat) (a b : Int) : (difB m R i a b).length ≤ 400 := by
  unfold difB
  split
  · simp
  · have := flatMap_len (F := dif m i a b) (c := 1) (g := R) fun r _ => dif_len m i a b r
    omega
theorem difA_len {m : MSpot} {R g : List Int} (hR : R.length ≤ 400) (hg : g.length ≤ 10) (i : Nat) (a : Int) : (g.flatMap fun b => difB m R i a b).length ≤ 4000 := by
  have := flatMap_len (F := fun b => difB m R i a b) (c := 400) (g := g) fun b _ => difB_len hR i a b
  omega
theorem difI_len {m : MSpot} {R g : List Int} (hR : R.length ≤ 400) (hg : g.length ≤ 10) (i : Nat) : (g.flatMap fun a => g.flatMap fun b => difB m R i a b).length ≤ 40000 := by
  have := flatMap_len (F := fun a => g.flatMap fun b => difB m R i a b) (c := 4000) (g := g) fun a _ => difA_len hR hg i a
  omega

def muts : Nat → TConsolidationMutual := fun j => ([(⟨1, 140, 240, 1⟩ : TConsolidationMutual), (⟨2, 440, 540, (-1)⟩ : TConsolidationMutual)] : List TConsolidationMutual).getD j default

theorem sides {m : MSpot} (hm : Small m) {i : Nat} (hi : i < 2) (a b r : Int) :
    (IntKind.i64.wrap (((muts i).sign) * (mget m (⟨(muts i).first, a, b, r⟩ : TConsolidationSpot) 0))) = xv m i a b r ∧
    (IntKind.i64.wrap ((IntKind.i64.wrap (0 - ((muts i).sign))) * (mget m (⟨(muts i).second, b, a, r⟩ : TConsolidationSpot) 0))) = yv m i a b r := by
  have h1 := hm ⟨140, a, b, r⟩
  have h2 := hm ⟨240, b, a, r⟩
  have h3 := hm ⟨440, a, b, r⟩
  have h4 := hm ⟨540, b, a, r⟩
  have : i = 0 ∨ i = 1 := by omega
  rcases this with rfl | rfl
  · refine ⟨?_, ?_⟩
    · show IntKind.i64.wrap (1 * mget m ⟨140, a, b, r⟩ 0) = mget m ⟨140, a, b, r⟩ 0
      rw [Int.one_mul, wrapId (by omega) (by omega)]
    · show IntKind.i64.wrap (-1 * mget m ⟨240, b, a, r⟩ 0) = -mget m ⟨240, b, a, r⟩ 0
      rw [wrapId (by omega) (by omega)]; omega
  · refine ⟨?_, ?_⟩
    · show IntKind.i64.wrap (-1 * mget m ⟨440, a, b, r⟩ 0) = -mget m ⟨440, a, b, r⟩ 0
      rw [wrapId (by omega) (by omega)]; omega
    · show IntKind.i64.wrap (1 * mget m ⟨540, b, a, r⟩ 0) = mget m ⟨540, b, a, r⟩ 0
      rw [Int.one_mul, wrapId (by omega) (by omega)]

theorem xy_small {m : MSpot} (hm : Small m) (i : Nat) (a b r : Int) : (-400000000000000 ≤ xv m i a b r ∧ xv m i a b r ≤ 400000000000000) ∧ -400000000000000 ≤ yv m i a b r ∧ yv m i a b r ≤ 400000000000000 := by
  have h1 := hm ⟨140, a, b, r⟩
  have h2 := hm ⟨240, b, a, r⟩
  have h3 := hm ⟨440, a, b, r⟩
  have h4 := hm ⟨540, b, a, r⟩
  unfold xv yv
  split <;> omega

theorem F40_48_loops {m : MSpot} (hm : Small m) {R g : List Int} (hR : R.length ≤ 400) (hg : g.length ≤ 10) : rangeM (F40_48_b4 g R m muts) 2 0 [] = some (.next (difs m R g)) := by
  have h4 : rangeM (F40_48_b4 g R m muts) 2 0 ([] : List TApiDifference) = _ := rangeM_app (fun i => g.flatMap fun a => g.flatMap fun b => difB m R i a b) 40000 (fun i _ => difI_len hR hg i) fun i s hi hs => by
    simp only [List.length_nil, Nat.zero_add] at hs
    unfold F40_48_b4
    have h3 : rangeM (F40_48_b3 g R m muts i) g.length 0 s = _ := rangeM_app (fun ia => g.flatMap fun b => difB m R i (g.getD ia default) b) 4000 (fun ia _ => difA_len hR hg i _) fun ia s3 hia hs3 => by
      unfold F40_48_b3
      have h2 : rangeM (F40_48_b2 g R m muts i ia) g.length 0 s3 = _ := rangeM_app (fun ib => difB m R i (g.getD ia default) (g.getD ib default)) 400 (fun ib _ => difB_len hR i _ _) fun ib s2 hib hs2 => by
        unfold F40_48_b2 difB
        by_cases hab : g.getD ia default = g.getD ib default
        · rw [if_pos (by simpa using hab), if_pos hab]
          simp
        · rw [if_neg (by simpa using hab), if_neg hab]
          have h1 : rangeM (F40_48_b1 g R m muts i ia ib) R.length 0 s2 = _ := rangeM_app (fun ir => dif m i (g.getD ia default) (g.getD ib default) (R.getD ir default)) 1 (fun ir _ => dif_len m i _ _ _) fun ir s1 hir hs1 => by
            unfold F40_48_b1 F48
            obtain ⟨e1, e2⟩ := sides hm hi (g.getD ia default) (g.getD ib default) (R.getD ir default)
            rw [e1, e2]
            have hs := xy_small hm i (g.getD ia default) (g.getD ib default) (R.getD ir default)
            rw [wrapId (n := xv m i (g.getD ia default) (g.getD ib default) (R.getD ir default) - yv m i (g.getD ia default) (g.getD ib default) (R.getD ir default)) (by omega) (by omega)]
            unfold dif
            have hk : (muts i).kind = (i : Int) + 1 := by
              have : i = 0 ∨ i = 1 := by omega
              rcases this with rfl | rfl <;> rfl
            rw [hk]
            by_cases hd : xv m i (g.getD ia default) (g.getD ib default) (R.getD ir default) - yv m i (g.getD ia default) (g.getD ib default) (R.getD ir default) ≠ 0
            · rw [if_pos (by simpa using hd), if_pos hd]
              rw [guardP_pos (p := AllP [(s1.length + 1) * (2 * 40) ≤ 2 ^ 48]) (And.intro (by omega) trivial)]
              rfl
            · rw [if_neg (by simpa using hd), if_neg hd]
              simp
          rw [h1, flatMap_getD (fun r => dif m i (g.getD ia default) (g.getD ib default) r)]
          rfl
      rw [h2, flatMap_getD (fun b => difB m R i (g.getD ia default) b)]
      rfl
    rw [h3, flatMap_getD (fun a => g.flatMap fun b => difB m R i a b)]
    rfl
  rw [h4]
  rfl

/-- Explain, for a right ledger, group and day. -/
theorem F17_spec {l : List TApiPosting} (hl : Good l) {g : List Int} (hg : Grp g) {k : Int} (h0 : 0 ≤ k) (h1 : k ≤ 36000) :
    ∃ R m, Refs l R ∧ F58 ⟨l⟩ = some R ∧ F55 ⟨l⟩ k = some m ∧ (∀ s, mget m s 0 = tot (spotV k s) l) ∧ Small m ∧ F17 ⟨l⟩ g k = some (difs m R g, 0) := by
  obtain ⟨R, r1, r2⟩ := F58_spec hl.len
  obtain ⟨m, m1, m2⟩ := F55_spec hl k
  have hlen := hl.len
  have hsm : Small m := fun s => by
    rw [m2 s]
    have := tot_bound (f := spotV k s) (c := 1000000000000) (l := l) fun p hp => spotV_bound (good_mem hl hp)
    omega
  have hRl := r2.len
  refine ⟨R, m, r2, r1, m1, m2, hsm, ?_⟩
  unfold F17
  rw [F47_spec hl hg h0 h1]
  simp only [Option.bind_some]
  rw [if_neg (by simp)]
  unfold F40_48 F59
  rw [r1, m1]
  simp only [Option.bind_some]
  have hd := F40_48_loops hsm (R := R) (g := g) (by omega) hg.len
  unfold muts at hd
  rw [hd]
  have hb : (difs m R g).length ≤ 80000 := by
    have := flatMap_len (F := fun i => g.flatMap fun a => g.flatMap fun b => difB m R i a b) (c := 40000) (g := List.range 2) fun i _ => difI_len (by omega) hg.len i
    simpa [difs] using this
  show guardP _ _ = _
  rw [guardP_pos (by omega)]
end Go.Proofs.Ytkkdclpleghppaa
