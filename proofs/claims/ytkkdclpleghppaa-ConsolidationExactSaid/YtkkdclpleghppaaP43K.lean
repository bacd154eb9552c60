/- A part of the proof: plain laws of what the functions compute. No condition. -/
import Derived.Test.YtkkdclpleghppaaP43I
namespace Go.Proofs.Ytkkdclpleghppaa
open Go Go.TA

/-! ## Sums that wrap -/
theorem wrap_mod (n : Int) : IntKind.i64.wrap n % 18446744073709551616 = n % 18446744073709551616 := by
  unfold IntKind.wrap
  show (if (true && decide (n % 18446744073709551616 ≥ 9223372036854775808)) = true then n % 18446744073709551616 - 18446744073709551616 else n % 18446744073709551616) % 18446744073709551616 = _
  split <;> omega
theorem wrap_congr {a b : Int} (h : a % 18446744073709551616 = b % 18446744073709551616) : IntKind.i64.wrap a = IntKind.i64.wrap b := by
  unfold IntKind.wrap
  show (if (true && decide (a % 18446744073709551616 ≥ 9223372036854775808)) = true then a % 18446744073709551616 - 18446744073709551616 else a % 18446744073709551616) = (if (true && decide (b % 18446744073709551616 ≥ 9223372036854775808)) = true then b % 18446744073709551616 - 18446744073709551616 else b % 18446744073709551616)
  rw [h]
theorem wrap_add (a b : Int) : IntKind.i64.wrap (IntKind.i64.wrap a + b) = IntKind.i64.wrap (a + b) := by
  apply wrap_congr
  have := wrap_mod a
  omega

def sumN (f : Int → Int) : Nat → Int
  | 0 => 0
  | n + 1 => sumN f n + f (n : Int)
theorem sumN_add (f g : Int → Int) : ∀ N, sumN (fun n => f n + g n) N = sumN f N + sumN g N
  | 0 => rfl
  | N + 1 => by simp only [sumN, sumN_add f g N]; omega
theorem sumN_zero : ∀ N, sumN (fun _ => 0) N = 0
  | 0 => rfl
  | N + 1 => by simp only [sumN, sumN_zero N]; rfl
theorem sumN_congr {f g : Int → Int} : ∀ N : Nat, (∀ n : Int, f n = g n) → sumN f N = sumN g N
  | 0, _ => rfl
  | N + 1, h => by simp only [sumN, sumN_congr N h, h]
theorem sumN_single (c a : Int) : ∀ N : Nat, sumN (fun n => if n = c then a else 0) N = if 0 ≤ c ∧ c < N then a else 0
  | 0 => by rw [if_neg (by omega)]; rfl
  | N + 1 => by
    simp only [sumN, sumN_single c a N]
    by_cases h : (N : Int) = c
    · rw [if_pos h, if_neg (by omega), if_pos (by omega)]; omega
    · rw [if_neg h]
      by_cases h2 : 0 ≤ c ∧ c < N
      · rw [if_pos h2, if_pos (by omega)]; omega
      · rw [if_neg h2, if_neg (by omega)]; omega
theorem sumN_tot (g : Int → TApiPosting → Int) (N : Nat) : ∀ l : List TApiPosting, sumN (fun n => tot (g n) l) N = tot (fun p => sumN (fun n => g n p) N) l
  | [] => sumN_zero N
  | p :: l => by
    simp only [tot]
    rw [sumN_add, sumN_tot g N l]
theorem sumN_sumQ (g : Int → Quad → Int) (N : Nat) : ∀ S : List Quad, sumN (fun n => sumQ (g n) S) N = sumQ (fun q => sumN (fun n => g n q) N) S
  | [] => sumN_zero N
  | p :: l => by
    simp only [sumQ]
    rw [sumN_add, sumN_sumQ g N l]
theorem sumQ_zero {f : Quad → Int} : ∀ {S : List Quad}, (∀ q ∈ S, f q = 0) → sumQ f S = 0
  | [], _ => rfl
  | q :: S, h => by simp [sumQ, h q List.mem_cons_self, sumQ_zero (S := S) fun p hp => h p (List.mem_cons_of_mem _ hp)]

theorem bookV_sum {g : List Int} {k : Int} {p : TApiPosting} (h : postOk p) : sumN (fun n => bookV g k n p) 600 = 0 := by
  have h1 := h.2.2.2.2.1
  have h2 := h.2.2.2.2.2.1
  unfold accOk at h1 h2
  by_cases hc : p.Entity ∈ g ∧ p.Day ≤ k
  · have e : ∀ n, bookV g k n p = (if n = p.Debit then p.Amount else 0) + (if n = p.Credit then -p.Amount else 0) := fun n => by
      unfold bookV
      rw [if_pos hc]
      split <;> split <;> omega
    rw [sumN_congr 600 e, sumN_add, sumN_single, sumN_single, if_pos (by omega), if_pos (by omega)]
    omega
  · have e : ∀ n, bookV g k n p = 0 := fun n => by unfold bookV; rw [if_neg hc]
    rw [sumN_congr 600 e, sumN_zero]

theorem dq_sum (m : MSpot) (q : Quad) : sumN (fun n => dq m n q) 600 = 0 := by
  by_cases hi : q.1 = 0
  · have e : ∀ n, dq m n q = (if n = 140 then -nq m q else 0) + (if n = 240 then nq m q else 0) := fun n => by
      unfold dq
      rw [if_pos hi]
      split
      · rw [if_neg (by omega)]; omega
      · omega
    rw [sumN_congr 600 e, sumN_add, sumN_single, sumN_single, if_pos (by omega), if_pos (by omega)]
    omega
  · have e : ∀ n, dq m n q = (if n = 440 then nq m q else 0) + (if n = 540 then -nq m q else 0) := fun n => by
      unfold dq
      rw [if_neg hi]
      split
      · rw [if_neg (by omega)]; omega
      · omega
    rw [sumN_congr 600 e, sumN_add, sumN_single, sumN_single, if_pos (by omega), if_pos (by omega)]
    omega

theorem tot_const0 {f : TApiPosting → Int} {l : List TApiPosting} (h : ∀ p ∈ l, f p = 0) : tot f l = 0 := by rw [tot_congr (g := fun _ => 0) h, tot_zero]

theorem whole_sum {l : List TApiPosting} (hl : Good l) {g : List Int} {k : Int} {R : List Int} {m : MSpot} {mp : List (Int × Int)} {E : Int} (h : WholeR l g k R m mp E) : sumN (fun n => mget mp n 0) 600 = 0 := by
  rw [sumN_congr 600 h.book, sumN_add, sumN_tot, sumN_sumQ, tot_const0 fun p hp => bookV_sum (good_mem hl hp), sumQ_zero fun q _ => dq_sum m q]
  rfl

/-! ## Lists of balances -/
def totB : List TApiBalance → Int
  | [] => 0
  | b :: r => b.Amount + totB r
theorem totB_app : ∀ a b : List TApiBalance, totB (a ++ b) = totB a + totB b
  | [], b => by simp [totB]
  | x :: a, b => by simp [totB, totB_app a b]; omega
theorem totB_balL (f : Int → Int) : ∀ N, totB (balL N f) = sumN f N
  | 0 => rfl
  | N + 1 => by
    unfold balL
    rw [List.range_succ, List.flatMap_append, totB_app, sumN]
    have := totB_balL f N
    unfold balL at this
    rw [this]
    simp only [List.flatMap_cons, List.flatMap_nil, List.append_nil]
    unfold balI
    split
    · simp [totB]
    · rename_i hz
      simp only [ne_eq, Decidable.not_not] at hz
      rw [hz]; rfl
theorem balL_mem {N : Nat} {f : Int → Int} {b : TApiBalance} (h : b ∈ balL N f) : 0 ≤ b.Account ∧ b.Account < N ∧ b.Amount = f b.Account ∧ b.Amount ≠ 0 := by
  unfold balL at h
  obtain ⟨i, hi, h⟩ := List.mem_flatMap.1 h
  have hi := List.mem_range.1 hi
  unfold balI at h
  split at h
  · rename_i hz
    simp at h
    subst h
    exact ⟨by simp, by simp; omega, rfl, hz⟩
  · cases h
theorem balL_asc (f : Int → Int) : ∀ N, (balL N f).Pairwise (fun a b => a.Account < b.Account)
  | 0 => by simp [balL]
  | N + 1 => by
    have ih := balL_asc f N
    have hs : balL (N + 1) f = balL N f ++ balI f N := by
      unfold balL
      rw [List.range_succ, List.flatMap_append]
      simp
    rw [hs, List.pairwise_append]
    refine ⟨ih, ?_, fun a ha b hb => ?_⟩
    · unfold balI
      split <;> simp
    · have h1 := (balL_mem ha).2.1
      unfold balI at hb
      split at hb
      · simp at hb
        subst hb
        simpa using h1
      · cases hb
theorem totB_succ {B : List TApiBalance} {i : Nat} (hi : i < B.length) : totB (B.take (i + 1)) = totB (B.take i) + (B.getD i default).Amount := by
  rw [List.take_add_one, totB_app]
  simp [List.getElem?_eq_getElem hi, totB]
theorem getD_mem {B : List TApiBalance} {i : Nat} (hi : i < B.length) : B.getD i default ∈ B := by
  simp [List.getElem?_eq_getElem hi]

/-! ## The sum over a group -/
theorem bookV_cons {g : List Int} {a k n : Int} {p : TApiPosting} (ha : a ∉ g) : bookV (g ++ [a]) k n p = bookV g k n p + bookV [a] k n p := by
  unfold bookV
  generalize ((if n = p.Debit then p.Amount else 0) - (if n = p.Credit then p.Amount else 0)) = X
  simp only [List.mem_append, List.mem_singleton]
  by_cases h1 : p.Entity = a
  · have h3 : p.Entity ∉ g := by rw [h1]; exact ha
    by_cases h2 : p.Day ≤ k <;> simp [h1, h2, ha]
  · by_cases h3 : p.Entity ∈ g <;> by_cases h2 : p.Day ≤ k <;> simp [h1, h2, h3]

theorem take_not {g : List Int} (hg : g.Nodup) {i : Nat} (hi : i < g.length) : g.getD i default ∉ g.take i := by
  intro h
  obtain ⟨j, hj, e⟩ := List.getElem_of_mem h
  simp at hj
  rw [List.getElem_take] at e
  simp [List.getElem?_eq_getElem hi] at e
  exact List.pairwise_iff_getElem.1 hg j i (by omega) hi (by omega) e

theorem F3_b1_loop {l : List TApiPosting} (hl : Good l) {g : List Int} (hg : g.Nodup) (hpos : ∀ x ∈ g, x ≠ 0) (n k : Int) {body : Nat → Int → Option (Step Int Bool)}
    (hb : ∀ i s, i < g.length → body i s = (F12 ⟨l⟩ (g.getD i default) n k).bind fun r => some (Step.cont (IntKind.i64.wrap (s + r)))) :
    rangeM body g.length 0 0 = some (.next (tot (bookV g k n) l)) := by
  have hlen := hl.len
  obtain ⟨s, h1, h2⟩ := rangeM_inv (body := body) (n := g.length) (s0 := (0 : Int)) (fun i s => s = tot (bookV (g.take i) k n) l)
    (by rw [tot_const0]; intro p _; unfold bookV; rw [if_neg (by simp)]) (fun i s hi hs => by
      have hmem : g.getD i default ∈ g := by simp [List.getElem?_eq_getElem hi]
      rw [hb i s hi, F12_spec hl (hpos _ hmem)]
      have b1 := tot_bound (f := bookV (g.take i) k n) (c := 1000000000000) (l := l) fun p hp => bookV_bound (good_mem hl hp)
      have b2 := tot_bound (f := bookV [g.getD i default] k n) (c := 1000000000000) (l := l) fun p hp => bookV_bound (good_mem hl hp)
      refine ⟨_, rfl, ?_⟩
      rw [wrapId (by omega) (by omega), hs, ← tot_add]
      refine tot_congr fun p _ => ?_
      rw [List.take_add_one, List.getElem?_eq_getElem hi]
      show _ = bookV (List.take i g ++ [g[i]]) k n p
      have he : g.getD i default = g[i] := by simp [List.getElem?_eq_getElem hi]
      rw [bookV_cons (by rw [← he]; exact take_not hg hi), he])
  rw [h1, h2, List.take_length]
end Go.Proofs.Ytkkdclpleghppaa

namespace Go.Proofs.Ytkkdclpleghppaa
open Go Go.TA

/-! ## The example -/
theorem F18_refl (d : List TApiDifference) : F18 d d = some true := by
  unfold F18
  rw [if_neg (by simp)]
  have h1 : rangeM (F18_b1 d d) d.length 0 () = _ := rangeM_any (c := false) (fun _ => false) fun i hi => by
    unfold F18_b1
    rw [guardP_pos (p := AllP [i < d.length]) (And.intro hi trivial)]
    simp [outM]
  rw [h1]
  have h2 : (List.range d.length).any (fun _ => false) = false := by rw [List.any_eq_false]; simp
  rw [h2]
  rfl

theorem grp_of {g : List Int} (a : g ≠ []) (b : g.length ≤ 10) (c : ∀ i, i < g.length → 1 ≤ g.getD i default ∧ g.getD i default ≤ 10) (d : ∀ i, i < g.length → 0 < i → g.getD (i - 1) default < g.getD i default) : Grp g :=
  ⟨a, b, c, fun i h0 h1 => d i h1 h0⟩

def pX : TApiPosting := ⟨1, 0, 1, 140, 110, 100, 2, 7⟩
def pY : TApiPosting := ⟨2, 0, 2, 110, 240, 80, 1, 7⟩
theorem postX : postR [] pX = (⟨[pX]⟩, 0) := by rfl
theorem postY : postR [pX] pY = (⟨[pX, pY]⟩, 0) := by rfl
theorem goodX : Good [pX] := by have := (postR_good good_nil (p := pX) (by rw [postX])).1; rwa [postX] at this
theorem goodXY : Good [pX, pY] := by have := (postR_good goodX (p := pY) (by rw [postY])).1; rwa [postY] at this

theorem F21_spec : F21 = some ⟨[pX, pY]⟩ := by
  unfold F21
  show (F16 ⟨[]⟩ pX).bind _ = _
  rw [F16_spec good_nil, postX]
  show (F16 ⟨[pX]⟩ pY).bind _ = _
  rw [F16_spec goodX, postY]
  rfl

theorem refs_one {l : List TApiPosting} {R : List Int} (h : Refs l R) (c : Int) (h1 : ∃ p ∈ l, p.Ref = c) (h2 : ∀ p ∈ l, p.Ref = c) : R = [c] := by
  have hm : ∀ r, r ∈ R → r = c := fun r hr => by
    obtain ⟨p, hp, rfl⟩ := (h.mem r).1 hr
    exact h2 p hp
  have hc : c ∈ R := (h.mem c).2 h1
  have ha := h.asc
  cases R with
  | nil => cases hc
  | cons a t =>
    have e := hm a List.mem_cons_self
    subst e
    cases t with
    | nil => rfl
    | cons b t =>
      have e2 := hm b (by simp)
      have := (List.pairwise_cons.1 ha).1 b List.mem_cons_self
      omega

theorem F13_spec : F13 = some true := by
  unfold F13
  rw [F21_spec]
  simp only [Option.bind_some]
  obtain ⟨R, m, mp, E, hw, h1⟩ := F11_spec goodXY (g := [1, 2]) (grp_of (by simp) (by simp) (by decide) (by decide)) (by simp) (k := 0) (by omega) (by omega)
  have hR : R = [7] := refs_one hw.refs 7 ⟨pX, by simp, rfl⟩ (by intro p hp; simp at hp; rcases hp with rfl | rfl <;> rfl)
  subst hR
  have s1 : mget m ⟨140, 1, 2, 7⟩ 0 = 100 := by rw [hw.spot]; decide
  have s2 : mget m ⟨240, 2, 1, 7⟩ 0 = -80 := by rw [hw.spot]; decide
  have s3 : mget m ⟨140, 2, 1, 7⟩ 0 = 0 := by rw [hw.spot]; decide
  have s4 : mget m ⟨240, 1, 2, 7⟩ 0 = 0 := by rw [hw.spot]; decide
  have s5 : mget m ⟨440, 1, 2, 7⟩ 0 = 0 := by rw [hw.spot]; decide
  have s6 : mget m ⟨540, 2, 1, 7⟩ 0 = 0 := by rw [hw.spot]; decide
  have s7 : mget m ⟨440, 2, 1, 7⟩ 0 = 0 := by rw [hw.spot]; decide
  have s8 : mget m ⟨540, 1, 2, 7⟩ 0 = 0 := by rw [hw.spot]; decide
  have hq : quads [7] [1, 2] = [(0, 1, 2, 7), (0, 2, 1, 7), (1, 1, 2, 7), (1, 2, 1, 7)] := by decide
  have hE : E = 80 := by
    rw [hw.elim, hq]
    simp [sumQ, nq, nn, xv, yv, s1, s2, s3, s4, s5, s6, s7, s8]
  have hd : difs m [7] [1, 2] = [⟨1, 1, 2, 7, 20⟩] := by
    simp [difs, difB, dif, xv, yv, s1, s2, s3, s4, s5, s6, s7, s8, List.range_succ]
  rw [h1, hE, hd]
  simp only [Option.bind_some]
  rw [optP_pos (gs := [(bif ((0 : Int) == 0) then ((80 : Int) == 80) else false) = true]) (And.intro rfl trivial), F18_refl]
  rfl

/-! ## ConsolidationZero -/
def grps : Nat → List Int := fun j => ([([1, 2, 3] : List Int), ([1, 2] : List Int), ([1, 3] : List Int), ([2] : List Int)] : List (List Int)).getD j default

theorem grps_ok {i : Nat} (hi : i < 4) : Grp (grps i) ∧ (grps i).Nodup ∧ (∀ x ∈ grps i, x ≠ 0) ∧ (grps i).length ≤ 4 := by
  have : i = 0 ∨ i = 1 ∨ i = 2 ∨ i = 3 := by omega
  rcases this with rfl | rfl | rfl | rfl
  · exact ⟨grp_of (by decide) (by decide) (by decide) (by decide), by decide, by decide, by decide⟩
  · exact ⟨grp_of (by decide) (by decide) (by decide) (by decide), by decide, by decide, by decide⟩
  · exact ⟨grp_of (by decide) (by decide) (by decide) (by decide), by decide, by decide, by decide⟩
  · exact ⟨grp_of (by decide) (by decide) (by decide) (by decide), by decide, by decide, by decide⟩

theorem dq_other {m : MSpot} {n : Int} (h : n ≠ 140 ∧ n ≠ 240 ∧ n ≠ 440 ∧ n ≠ 540) (q : Quad) : dq m n q = 0 := by
  unfold dq
  rw [if_neg h.1, if_neg h.2.1, if_neg h.2.2.1, if_neg h.2.2.2]
  split <;> rfl

theorem F3_b2_loop {l : List TApiPosting} (hl : Good l) {s : TTreasuryplaySrc} {a1 : Int} {i : Nat} (hi : i < 4) {R : List Int} {m : MSpot} {mp : List (Int × Int)} {E : Int} {D : List TApiDifference}
    (hw : WholeR l (grps i) ((IntKind.i64.wrap a1).tmod 70) R m mp E) : rangeM (F3_b2 a1 (⟨l⟩, s) i (⟨balL 600 fun n => mget mp n 0, E, D⟩, 0)) (balL 600 fun n => mget mp n 0).length 0 0 = some (.next 0) := by
  obtain ⟨g1, g2, g3, g4⟩ := grps_ok hi
  have hBl := balL_len 600 fun n => mget mp n 0
  have hsum := totB_balL (fun n => mget mp n 0) 600
  rw [whole_sum hl hw] at hsum
  have hasc := balL_asc (fun n => mget mp n 0) 600
  have hmem : ∀ b ∈ balL 600 fun n => mget mp n 0, b.Amount = mget mp b.Account 0 := fun b hb => (balL_mem hb).2.2.1
  generalize hB : (balL 600 fun n => mget mp n 0) = B at *
  obtain ⟨r, h1, h2⟩ := rangeM_inv (body := F3_b2 a1 (⟨l⟩, s) i (⟨B, E, D⟩, 0)) (n := B.length) (s0 := (0 : Int)) (fun j s => s = IntKind.i64.wrap (totB (B.take j))) (by rfl) (fun j t hj ht => by
    unfold F3_b2
    refine ⟨IntKind.i64.wrap (totB (B.take (j + 1))), ?_, rfl⟩
    rw [guardP_pos]
    · have hc : (bif (decide ((j : Int) > 0)) then (decide (((B.getD (((IntKind.i64.wrap ((j : Int) - 1))).toNat) default).Account) ≥ ((B.getD j default).Account))) else false) = false := by
        rw [cond_and]
        by_cases h0 : 0 < j
        · rw [wrapId (n := (j : Int) - 1) (by omega) (by omega), show ((j : Int) - 1).toNat = j - 1 by omega]
          have := List.pairwise_iff_getElem.1 hasc (j - 1) j (by omega) hj (by omega)
          simp [List.getElem?_eq_getElem hj, List.getElem?_eq_getElem (show j - 1 < B.length by omega)]
          omega
        · simp only [Bool.and_eq_false_iff, decide_eq_false_iff_not]
          omega
      show (outM (if (bif (decide ((j : Int) > 0)) then (decide (((B.getD (((IntKind.i64.wrap ((j : Int) - 1))).toNat) default).Account) ≥ ((B.getD j default).Account))) else false) = true then _ else _) _ _) = _
      rw [hc, if_neg (by decide)]
      have hloop := F3_b1_loop hl g2 g3 (B.getD j default).Account ((IntKind.i64.wrap a1).tmod 70) (body := F3_b1 a1 (⟨l⟩, s) i (⟨B, E, D⟩, 0) j) (fun i' s' _ => by
        unfold F3_b1
        show Option.bind (Option.bind (F12 ⟨l⟩ ((grps i).getD i' default) (B.getD j default).Account ((IntKind.i64.wrap a1).tmod 70)) _) _ = _
        cases F12 ⟨l⟩ ((grps i).getD i' default) (B.getD j default).Account ((IntKind.i64.wrap a1).tmod 70) <;> rfl)
      show (outM (outM (rangeM (F3_b1 a1 (⟨l⟩, s) i (⟨B, E, D⟩, 0) j) (grps i).length 0 0) _ _) _ _) = _
      rw [hloop]
      simp only [outM]
      have hno : (bif (!(bif (bif (bif (((B.getD j default).Account) == 140) then true else (((B.getD j default).Account) == 240)) then true else (((B.getD j default).Account) == 440)) then true else (((B.getD j default).Account) == 540))) then (tot (bookV (grps i) ((IntKind.i64.wrap a1).tmod 70) (B.getD j default).Account) l != ((B.getD j default).Amount)) else false) = false := by
        rw [cond_or, cond_or, cond_or, cond_and]
        by_cases hmu : (B.getD j default).Account ≠ 140 ∧ (B.getD j default).Account ≠ 240 ∧ (B.getD j default).Account ≠ 440 ∧ (B.getD j default).Account ≠ 540
        · have e1 := hmem _ (getD_mem hj)
          rw [hw.book, sumQ_zero fun q _ => dq_other hmu q, Int.add_zero] at e1
          rw [e1]
          simp
        · have : (((B.getD j default).Account == 140 || (B.getD j default).Account == 240) || (B.getD j default).Account == 440 || (B.getD j default).Account == 540) = true := by
            simp only [Bool.or_eq_true, beq_iff_eq]
            omega
          rw [this]
          rfl
      rw [hno, if_neg (by decide), ht]
      simp only
      rw [wrap_add, totB_succ hj]
    · refine And.intro (fun h => ?_) (And.intro (fun h => ?_) trivial)
      · have := of_decide_eq_true h.1
        rw [wrapId (by omega) (by omega)]; omega
      · have := of_decide_eq_true h.1
        rw [wrapId (by omega) (by omega)]; simp only; omega)
  rw [h1, h2, List.take_length, hsum]
  rfl

theorem F3_spec (t : List Int) {a1 : Int} (h0 : 0 ≤ a1) (h1 : a1 ≤ 255) : F3 t a1 = some true := by
  unfold F3
  obtain ⟨s, e1, k1⟩ := F9_spec t
  obtain ⟨l, s2, e2, k2, hl, _⟩ := F10_spec k1
  rw [e1]
  simp only [Option.bind_some]
  rw [e2]
  simp only [Option.bind_some]
  have hk : IntKind.i64.wrap a1 = a1 := wrapId (by omega) (by omega)
  have hk0 : 0 ≤ (IntKind.i64.wrap a1).tmod 70 := by rw [hk]; exact Int.tmod_nonneg _ h0
  have hk1 : (IntKind.i64.wrap a1).tmod 70 < 70 := Int.tmod_lt_of_pos _ (by omega)
  have hloop : rangeM (F3_b3 a1 (⟨l⟩, s2)) 4 0 () = _ := rangeM_any (c := false) (fun _ => false) fun i hi => by
    obtain ⟨g1, g2, g3, g4⟩ := grps_ok hi
    obtain ⟨R, m, mp, E, hw, h1⟩ := F11_spec hl g1 g4 hk0 (by omega)
    unfold F3_b3
    show outM ((F11 ⟨l⟩ (grps i) ((IntKind.i64.wrap a1).tmod 70)).bind _) _ _ = _
    rw [h1]
    simp only [Option.bind_some]
    rw [if_neg (by decide), F3_b2_loop hl hi hw]
    have hlast : (bif ((0 : Int) != 0) then true else (bif ((((grps i).length : Int)) == 1) then (bif (E != 0) then true else (((difs m R (grps i)).length : Int) != 0)) else false)) = false := by
      rw [cond_or, cond_and]
      by_cases h3 : i = 3
      · subst h3
        have hq : quads R (grps 3) = [] := by
          show (List.range 2).flatMap (fun i => [2].flatMap fun a => [2].flatMap fun b => quadsB R i a b) = []
          simp [quadsB]
        have hE : E = 0 := by rw [hw.elim, hq]; rfl
        have hd : difs m R (grps 3) = [] := by
          show (List.range 2).flatMap (fun i => [2].flatMap fun a => [2].flatMap fun b => difB m R i a b) = []
          simp [difB]
        rw [hE, hd]
        rfl
      · have : i = 0 ∨ i = 1 ∨ i = 2 := by omega
        rcases this with rfl | rfl | rfl <;> rfl
    show outM (if (bif ((0 : Int) != 0) then true else (bif ((((grps i).length : Int)) == 1) then (bif (E != 0) then true else (((difs m R (grps i)).length : Int) != 0)) else false)) = true then some (Out.ret (Step.ret false)) else some (Out.next ())) (fun _ => some (Step.cont ())) (fun x => some x) = _
    rw [hlast]
    rfl
  rw [hloop]
  have h2 : (List.range 4).any (fun _ => false) = false := by decide
  rw [h2]
  show (F13).bind _ = _
  rw [F13_spec]
  rfl
end Go.Proofs.Ytkkdclpleghppaa
