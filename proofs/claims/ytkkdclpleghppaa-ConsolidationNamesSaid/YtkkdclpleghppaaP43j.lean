/- A part of the proof: plain laws of what the functions compute. No condition. -/
import Derived.Test.YtkkdclpleghppaaP43i
namespace Go.Proofs.Ytkkdclpleghppaa
open Go Go.TA

/-! ## Lists of balances -/
def balI (f : Int → Int) (i : Nat) : List TApiBalance := if f (i : Int) ≠ 0 then [⟨(i : Int), f (i : Int)⟩] else []
def balL (N : Nat) (f : Int → Int) : List TApiBalance := (List.range N).flatMap (balI f)
theorem balI_len (f : Int → Int) (i : Nat) : (balI f i).length ≤ 1 := by unfold balI; split <;> simp
theorem balL_len (N : Nat) (f : Int → Int) : (balL N f).length ≤ N := by
  have := flatMap_len (F := balI f) (c := 1) (g := List.range N) fun i _ => balI_len f i
  rw [List.length_range, Nat.mul_one] at this
  exact this

theorem F42_loop (mp : List (Int × Int)) (N : Nat) (hN : N ≤ 1000) : rangeM (F42_b1 mp) N 0 ([] : List TApiBalance) = some (.next (balL N fun n => mget mp n 0)) := by
  have h1 : rangeM (F42_b1 mp) N 0 ([] : List TApiBalance) = _ := rangeM_app (balI fun n => mget mp n 0) 1 (fun i _ => balI_len _ i) fun i s hi hs => by
    unfold F42_b1 balI
    simp only [List.length_nil, Nat.zero_add] at hs
    by_cases h : mget mp (i : Int) 0 ≠ 0
    · rw [if_pos (by simpa using h), if_pos h, guardP_pos (p := AllP [(s.length + 1) * (2 * 16) ≤ 2 ^ 48]) (And.intro (by omega) trivial)]
      rfl
    · rw [if_neg (by simpa using h), if_neg h]
      simp
  rw [h1, List.nil_append]
  rfl

theorem F42_spec (mp : List (Int × Int)) : F42 mp = some (balL 600 fun n => mget mp n 0) := by
  unfold F42
  rw [F42_loop mp 600 (by omega)]
  have hl := balL_len 600 fun n => mget mp n 0
  generalize (balL 600 fun n => mget mp n 0) = B at hl
  simp only [outM]
  rw [guardP_pos (by omega)]

theorem quads_len {R g : List Int} (hR : R.length ≤ 400) (hg : g.length ≤ 4) : (quads R g).length ≤ 12800 := by
  have h1 : ∀ i a b, (quadsB R i a b).length ≤ 400 := fun i a b => by unfold quadsB; split <;> simp <;> omega
  have h2 : ∀ i a, (g.flatMap fun b => quadsB R i a b).length ≤ 1600 := fun i a => by
    have := flatMap_len (F := fun b => quadsB R i a b) (c := 400) (g := g) fun b _ => h1 i a b
    omega
  have h3 : ∀ i, (g.flatMap fun a => g.flatMap fun b => quadsB R i a b).length ≤ 6400 := fun i => by
    have := flatMap_len (F := fun a => g.flatMap fun b => quadsB R i a b) (c := 1600) (g := g) fun a _ => h2 i a
    omega
  have := flatMap_len (F := fun i => g.flatMap fun a => g.flatMap fun b => quadsB R i a b) (c := 6400) (g := List.range 2) fun i _ => h3 i
  simpa [quads] using this

theorem quads_lt {R g : List Int} {q : Quad} (h : q ∈ quads R g) : q.1 < 2 := by
  unfold quads at h
  obtain ⟨i, hi, h⟩ := List.mem_flatMap.1 h
  obtain ⟨a, _, h⟩ := List.mem_flatMap.1 h
  obtain ⟨b, _, h⟩ := List.mem_flatMap.1 h
  unfold quadsB at h
  split at h
  · cases h
  · obtain ⟨r, _, rfl⟩ := List.mem_map.1 h
    simpa using hi

/-- What Whole knows. -/
structure WholeR (l : List TApiPosting) (g : List Int) (k : Int) (R : List Int) (m : MSpot) (mp : List (Int × Int)) (E : Int) : Prop where
  refs : Refs l R
  spot : ∀ s, mget m s 0 = tot (spotV k s) l
  small : Small m
  elim : E = sumQ (nq m) (quads R g)
  book : ∀ n, mget mp n 0 = tot (bookV g k n) l + sumQ (dq m n) (quads R g)

theorem F11_spec {l : List TApiPosting} (hl : Good l) {g : List Int} (hg : Grp g) (hg4 : g.length ≤ 4) {k : Int} (h0 : 0 ≤ k) (h1 : k ≤ 36000) :
    ∃ R m mp E, WholeR l g k R m mp E ∧ F11 ⟨l⟩ g k = some (⟨balL 600 fun n => mget mp n 0, E, difs m R g⟩, 0) := by
  obtain ⟨R, m, r1, r2, r3, r4, r5, r6⟩ := F17_spec hl hg h0 h1
  obtain ⟨b, b1, b2⟩ := F37_spec hl g k
  have hlen := hl.len
  have hRl := r1.len
  have hb : ∀ c, -400000000000000 ≤ mget b c 0 ∧ mget b c 0 ≤ 400000000000000 := fun c => by
    rw [b2 c]
    have := tot_bound (f := bookV g k c) (c := 1000000000000) (l := l) fun p hp => bookV_bound (good_mem hl hp)
    omega
  have hq := quads_len (R := R) (g := g) (by omega) hg4
  obtain ⟨f1, f2, f3, f4⟩ := fold_spec r5 (quads R g) (⟨[], 0, difs m R g⟩, b) 400000000000000 (fun q hq => quads_lt hq) (by omega) (by omega) hb (by simp) (by simp)
  refine ⟨R, m, ((quads R g).foldl (st m) (⟨[], 0, difs m R g⟩, b)).2, sumQ (nq m) (quads R g), ⟨r1, r4, r5, rfl, fun n => by rw [f4 n, b2 n]⟩, ?_⟩
  unfold F11
  rw [r6]
  simp only [Option.bind_some]
  rw [if_neg (by simp), b1]
  simp only [Option.bind_some]
  unfold F40_41 F59
  rw [r2, r3]
  simp only [Option.bind_some]
  have hd := F40_41_loops r5 R g (⟨[], 0, difs m R g⟩, b)
  unfold muts at hd
  rw [hd]
  show (F42 _).bind _ = _
  rw [F42_spec]
  simp only [Option.bind_some]
  rw [f3]
  simp only [Int.zero_add]
  rw [f2]

/-! ## Of -/
theorem bookV_acc {g : List Int} {k n : Int} {p : TApiPosting} (h : postOk p) (hn : ¬ accOk n) : bookV g k n p = 0 := by
  have h1 := h.2.2.2.2.1
  have h2 := h.2.2.2.2.2.1
  unfold bookV
  split
  · rw [if_neg (c := n = p.Debit) (fun e => hn (by rw [e]; exact h1)), if_neg (c := n = p.Credit) (fun e => hn (by rw [e]; exact h2))]; rfl
  · rfl

theorem F45_spec {l : List TApiPosting} (hl : Good l) {e : Int} (he : e ≠ 0) (k : Int) : ∃ f, F45 l e 0 k = some f ∧ ∀ j : Nat, f j = tot (bookV [e] k ((j : Int) + 100)) l := by
  unfold F45
  obtain ⟨f, h1, h2⟩ := rangeM_inv (body := F45_b1 l e 0 k) (n := l.length) (s0 := (fun _ => 0 : Nat → Int)) (fun i f => ∀ j : Nat, f j = tot (bookV [e] k ((j : Int) + 100)) (l.take i))
    (fun j => by simp [tot]) (fun i f hi hf => by
      unfold F45_b1
      have hp := hl.post i hi
      have hlen := hl.len
      have hb : ∀ j, -400000000000000 ≤ f j ∧ f j ≤ 400000000000000 := fun j => by
        rw [hf j]
        have := tot_bound (f := bookV [e] k ((j : Int) + 100)) (c := 1000000000000) (l := l.take i) fun p hp => bookV_bound (good_mem hl (List.mem_of_mem_take hp))
        have e : (l.take i).length = i := by simp; omega
        rw [e] at this
        omega
      have ha := hp.2.2.2.2.2.2.1
      have hdc := hp.2.2.2.1
      have hd := hp.2.2.2.2.1
      have hc := hp.2.2.2.2.2.1
      have hday := hp.2.1
      unfold accOk at hd hc
      show ∃ s', Option.bind (if (bif (bif (decide ((at' l i).Day < 0)) then true else (decide ((at' l i).Day > k))) then true else (bif (e != 0) then ((at' l i).Entity != e) else false)) = true then some f else
        guardP (AllP [(0 : Int) ≤ (IntKind.i64.wrap ((at' l i).Debit - 100)), ((IntKind.i64.wrap ((at' l i).Debit - 100))).toNat < 500]) <|
        guardP (AllP [(0 : Int) ≤ (IntKind.i64.wrap ((at' l i).Credit - 100)), ((IntKind.i64.wrap ((at' l i).Credit - 100))).toNat < 500]) <|
        some (fun j => if j = (IntKind.i64.wrap ((at' l i).Credit - 100)).toNat then IntKind.i64.wrap ((fun j => if j = (IntKind.i64.wrap ((at' l i).Debit - 100)).toNat then IntKind.i64.wrap (f (IntKind.i64.wrap ((at' l i).Debit - 100)).toNat + (at' l i).Amount) else f j) (IntKind.i64.wrap ((at' l i).Credit - 100)).toNat - (at' l i).Amount)
          else (fun j => if j = (IntKind.i64.wrap ((at' l i).Debit - 100)).toNat then IntKind.i64.wrap (f (IntKind.i64.wrap ((at' l i).Debit - 100)).toNat + (at' l i).Amount) else f j) j)) (fun s => some (Step.cont s)) = some (.cont s') ∧ _
      rw [cond_or, cond_or, cond_and]
      by_cases hcnd : (at' l i).Entity = e ∧ (at' l i).Day ≤ k
      · rw [if_neg (by simp; omega), wrapId (n := (at' l i).Debit - 100) (by omega) (by omega), wrapId (n := (at' l i).Credit - 100) (by omega) (by omega)]
        rw [guardP_pos (p := AllP [(0 : Int) ≤ ((at' l i).Debit - 100), (((at' l i).Debit - 100)).toNat < 500]) (And.intro (by omega) (And.intro (by omega) trivial)), guardP_pos (p := AllP [(0 : Int) ≤ ((at' l i).Credit - 100), (((at' l i).Credit - 100)).toNat < 500]) (And.intro (by omega) (And.intro (by omega) trivial))]
        refine ⟨_, rfl, fun j => ?_⟩
        have b1 := hb (((at' l i).Debit - 100)).toNat
        have b2 := hb (((at' l i).Credit - 100)).toNat
        simp only
        rw [if_neg (c := ((at' l i).Credit - 100).toNat = ((at' l i).Debit - 100).toNat) (by omega), wrapId (n := f ((at' l i).Credit - 100).toNat - (at' l i).Amount) (by omega) (by omega), wrapId (n := f ((at' l i).Debit - 100).toNat + (at' l i).Amount) (by omega) (by omega)]
        rw [tot_succ _ hi, ← hf j]
        unfold bookV
        rw [if_pos (c := (at' l i).Entity ∈ [e] ∧ (at' l i).Day ≤ k) ⟨by simp [hcnd.1], hcnd.2⟩]
        by_cases c1 : j = ((at' l i).Credit - 100).toNat
        · rw [if_pos c1, if_neg (c := (j : Int) + 100 = (at' l i).Debit) (by omega), if_pos (c := (j : Int) + 100 = (at' l i).Credit) (by omega), c1]; omega
        · rw [if_neg c1, if_neg (c := (j : Int) + 100 = (at' l i).Credit) (by omega)]
          by_cases c2 : j = ((at' l i).Debit - 100).toNat
          · rw [if_pos c2, if_pos (c := (j : Int) + 100 = (at' l i).Debit) (by omega), c2]; omega
          · rw [if_neg c2, if_neg (c := (j : Int) + 100 = (at' l i).Debit) (by omega)]; omega
      · rw [if_pos (by simp; omega)]
        refine ⟨_, rfl, fun j => ?_⟩
        rw [tot_succ _ hi, ← hf j]
        unfold bookV
        rw [if_neg (c := (at' l i).Entity ∈ [e] ∧ (at' l i).Day ≤ k) (fun h => hcnd ⟨by simpa using h.1, h.2⟩)]
        omega)
  rw [h1]
  exact ⟨f, rfl, fun j => by have := h2 j; rwa [List.take_length] at this⟩

theorem F12_spec {l : List TApiPosting} (hl : Good l) {e : Int} (he : e ≠ 0) (n k : Int) : F12 ⟨l⟩ e n k = some (tot (bookV [e] k n) l) := by
  unfold F12
  rw [F43_spec]
  simp only [Option.bind_some, chk_good.2 hl]
  rw [optP_pos (gs := [((0 : Int) != 0) = false]) (And.intro (by decide) trivial), F44_spec]
  simp only [Option.bind_some]
  by_cases hn : accOk n
  · have h1 : cls n ≠ 0 := cls_ne.2 hn
    rw [if_neg (by simp [h1])]
    obtain ⟨f, f1, f2⟩ := F45_spec hl he k
    rw [f1]
    unfold accOk at hn
    simp only [Option.bind_some]
    rw [wrapId (n := n - 100) (by omega) (by omega)]
    refine guardP_ok (And.intro (by omega) (And.intro (by omega) trivial)) ?_
    rw [f2, show ((n - 100).toNat : Int) + 100 = n by omega]
  · have h1 : cls n = 0 := by
      rcases Decidable.em (cls n = 0) with h | h
      · exact h
      · exact absurd (cls_ne.1 h) hn
    rw [if_pos (by simp [h1])]
    rw [tot_congr (g := fun _ => 0) fun p hp => bookV_acc (good_mem hl hp) hn, tot_zero]
end Go.Proofs.Ytkkdclpleghppaa
