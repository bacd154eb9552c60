/- A part of the proof: plain laws of what the functions compute. No condition. -/
import Derived.Test.YtkkdclpleghppaaP43F
namespace Go.Proofs.Ytkkdclpleghppaa
open Go Go.TA

/-! ## Books -/
theorem F57_spec (g : List Int) (x : Int) : F57 g x = some (match (List.range g.length).find? (fun i => x == g.getD i default) with | some i => (i : Int) | none => -1) := by
  unfold F57
  have h1 : rangeM (F57_b1 g x) g.length 0 () = _ := rangeM_find (fun i => x == g.getD i default) (fun i => (i : Int)) fun i hi => by
    unfold F57_b1
    cases x == g.getD i default <;> rfl
  rw [h1]
  cases (List.range g.length).find? (fun i => x == g.getD i default) <;> rfl

theorem F39_spec (g : List Int) (x : Int) : F39 g x = some (decide (x ∈ g)) := by
  unfold F39
  rw [F57_spec]
  simp only [Option.bind_some]
  congr 1
  rw [Bool.eq_iff_iff, decide_eq_true_eq, decide_eq_true_eq]
  cases hf : (List.range g.length).find? (fun i => x == g.getD i default) with
  | none =>
    show (-1 : Int) ≥ 0 ↔ _
    refine ⟨fun h => by omega, fun h => ?_⟩
    obtain ⟨i, hi, rfl⟩ := List.getElem_of_mem h
    have := List.find?_eq_none.1 hf i (List.mem_range.2 hi)
    simp [List.getElem?_eq_getElem hi] at this
  | some i =>
    have h1 := List.find?_some (p := fun i => x == g.getD i default) hf
    have h2 := List.mem_range.1 (List.mem_of_find?_eq_some hf)
    show (i : Int) ≥ 0 ↔ _
    refine ⟨fun _ => ?_, fun _ => by omega⟩
    rw [eq_of_beq h1]
    simp [List.getElem?_eq_getElem h2]

def bookV (g : List Int) (k n : Int) (p : TApiPosting) : Int := if p.Entity ∈ g ∧ p.Day ≤ k then (if n = p.Debit then p.Amount else 0) - (if n = p.Credit then p.Amount else 0) else 0

theorem bookV_bound {g : List Int} {k n : Int} {p : TApiPosting} (h : postOk p) : -1000000000000 ≤ bookV g k n p ∧ bookV g k n p ≤ 1000000000000 := by
  have hk := h.2.2.2.1
  have ha := h.2.2.2.2.2.2.1
  unfold bookV
  split
  · split
    · split <;> omega
    · split <;> omega
  · omega

theorem F37_spec {l : List TApiPosting} (hl : Good l) (g : List Int) (k : Int) : ∃ m, F37_38 l g k = some m ∧ ∀ n, mget m n 0 = tot (bookV g k n) l := by
  unfold F37_38
  obtain ⟨m, h1, h2⟩ := rangeM_inv (body := F37_38_b1 l g k) (n := l.length) (s0 := ([] : List (Int × Int))) (fun i m => ∀ n, mget m n 0 = tot (bookV g k n) (l.take i))
    (fun s => by simp [mget_nil, tot]) (fun i m hi hm => by
      unfold F37_38_b1 F38
      simp only [F39_spec, Option.bind_some]
      have hp := hl.post i hi
      have hlen := hl.len
      have hb : ∀ s, -400000000000000 ≤ mget m s 0 ∧ mget m s 0 ≤ 400000000000000 := fun s => by
        rw [hm s]
        have := tot_bound (f := bookV g k s) (c := 1000000000000) (l := l.take i) fun p hp => bookV_bound (good_mem hl (List.mem_of_mem_take hp))
        have e : (l.take i).length = i := by simp; omega
        rw [e] at this
        omega
      have ha := hp.2.2.2.2.2.2.1
      have hdc := hp.2.2.2.1
      show ∃ s', Option.bind (if (bif decide ((at' l i).Entity ∈ g) then decide ((at' l i).Day ≤ k) else false) = true then some (mupd (mupd m (at' l i).Debit (IntKind.i64.wrap (mget m (at' l i).Debit 0 + (at' l i).Amount))) (at' l i).Credit (IntKind.i64.wrap (mget (mupd m (at' l i).Debit (IntKind.i64.wrap (mget m (at' l i).Debit 0 + (at' l i).Amount))) (at' l i).Credit 0 - (at' l i).Amount))) else some m) (fun s => some (Step.cont s)) = some (.cont s') ∧ _
      rw [cond_and]
      by_cases hd : (at' l i).Entity ∈ g ∧ (at' l i).Day ≤ k
      · rw [if_pos (by simpa using hd)]
        refine ⟨_, rfl, fun s => ?_⟩
        have hbD := hb (at' l i).Debit
        have hbC := hb (at' l i).Credit
        rw [wrapId (n := mget m (at' l i).Debit 0 + (at' l i).Amount) (by omega) (by omega)]
        have hne : ((at' l i).Credit == (at' l i).Debit) = false := by rw [beq_eq_false_iff_ne]; exact fun e => hdc e.symm
        rw [mget_mupd, mget_mupd, mget_mupd, tot_succ _ hi, ← hm s, hne]
        simp only [Bool.false_eq_true, if_false]
        rw [wrapId (n := mget m (at' l i).Credit 0 - (at' l i).Amount) (by omega) (by omega)]
        unfold bookV
        rw [if_pos hd]
        by_cases c1 : s = (at' l i).Credit
        · subst c1
          rw [if_pos (by simp), if_pos rfl, if_neg (fun e => hdc e.symm)]
          omega
        · rw [if_neg (by simpa using c1), if_neg c1]
          by_cases c2 : s = (at' l i).Debit
          · subst c2
            rw [if_pos (by simp), if_pos rfl]
            omega
          · rw [if_neg (by simpa using c2), if_neg c2]
            omega
      · rw [if_neg (by simpa using hd)]
        refine ⟨_, rfl, fun s => ?_⟩
        rw [tot_succ _ hi, ← hm s]
        unfold bookV
        rw [if_neg hd]
        omega)
  rw [h1]
  exact ⟨m, rfl, fun s => by have := h2 s; rwa [List.take_length] at this⟩

/-! ## What is eliminated -/
theorem rangeM_fold {σ ρ : Type} {body : Nat → σ → Option (Step σ ρ)} {n : Nat} (f : Nat → σ → σ) (hb : ∀ i s, i < n → body i s = some (.cont (f i s))) (s0 : σ) :
    rangeM body n 0 s0 = some (.next ((List.range n).foldl (fun s i => f i s) s0)) := by
  obtain ⟨s, h1, h2⟩ := rangeM_inv (body := body) (n := n) (s0 := s0) (fun i s => s = (List.range i).foldl (fun s i => f i s) s0) rfl (fun i s hi hs => by
    refine ⟨_, hb i s hi, ?_⟩
    rw [hs, List.range_succ, List.foldl_append]
    rfl)
  rw [h1, h2]

theorem foldl_getD {σ : Type} (F : Int → σ → σ) : ∀ (g : List Int) (s : σ), (List.range g.length).foldl (fun s i => F (g.getD i default) s) s = g.foldl (fun s a => F a s) s
  | [], s => rfl
  | a :: g, s => by
    rw [List.length_cons, List.range_succ_eq_map, List.foldl_cons, List.foldl_map, List.foldl_cons]
    exact foldl_getD F g _

abbrev WS := TApiWhole × List (Int × Int)
abbrev Quad := Nat × Int × Int × Int
def nn (x y : Int) : Int := if 0 > (if y < x then y else x) then 0 else (if y < x then y else x)
def st (m : MSpot) (s : WS) (q : Quad) : WS :=
  (⟨s.1.Balances, IntKind.i64.wrap (s.1.Eliminated + nn (xv m q.1 q.2.1 q.2.2.1 q.2.2.2) (yv m q.1 q.2.1 q.2.2.1 q.2.2.2)), s.1.Differences⟩,
   mupd (mupd s.2 (muts q.1).first (IntKind.i64.wrap ((mget s.2 (muts q.1).first 0) - (IntKind.i64.wrap ((muts q.1).sign * nn (xv m q.1 q.2.1 q.2.2.1 q.2.2.2) (yv m q.1 q.2.1 q.2.2.1 q.2.2.2))))))
     (muts q.1).second (IntKind.i64.wrap ((mget (mupd s.2 (muts q.1).first (IntKind.i64.wrap ((mget s.2 (muts q.1).first 0) - (IntKind.i64.wrap ((muts q.1).sign * nn (xv m q.1 q.2.1 q.2.2.1 q.2.2.2) (yv m q.1 q.2.1 q.2.2.1 q.2.2.2)))))) (muts q.1).second 0) + (IntKind.i64.wrap ((muts q.1).sign * nn (xv m q.1 q.2.1 q.2.2.1 q.2.2.2) (yv m q.1 q.2.1 q.2.2.1 q.2.2.2))))))
def quadsB (R : List Int) (i : Nat) (a b : Int) : List Quad := if a = b then [] else R.map fun r => (i, a, b, r)
def quads (R g : List Int) : List Quad := (List.range 2).flatMap fun i => g.flatMap fun a => g.flatMap fun b => quadsB R i a b

theorem foldl_flat {σ α β : Type} (f : σ → β → σ) (F : α → List β) : ∀ (l : List α) (s : σ), (l.flatMap F).foldl f s = l.foldl (fun s a => (F a).foldl f s) s
  | [], s => rfl
  | a :: l, s => by rw [List.flatMap_cons, List.foldl_append, List.foldl_cons]; exact foldl_flat f F l _

theorem F40_41_loops {m : MSpot} (hm : Small m) (R g : List Int) (s0 : WS) : rangeM (F40_41_b4 g R m muts) 2 0 s0 = some (.next ((quads R g).foldl (st m) s0)) := by
  have h4 : rangeM (F40_41_b4 g R m muts) 2 0 s0 = _ := rangeM_fold (fun i s => (g.flatMap fun a => g.flatMap fun b => quadsB R i a b).foldl (st m) s) (fun i s hi => by
    unfold F40_41_b4
    have h3 : rangeM (F40_41_b3 g R m muts i) g.length 0 (s.1, s.2) = _ := rangeM_fold (fun ia s => (g.flatMap fun b => quadsB R i (g.getD ia default) b).foldl (st m) s) (fun ia s hia => by
      unfold F40_41_b3
      have h2 : rangeM (F40_41_b2 g R m muts i ia) g.length 0 (s.1, s.2) = _ := rangeM_fold (fun ib s => (quadsB R i (g.getD ia default) (g.getD ib default)).foldl (st m) s) (fun ib s hib => by
        unfold F40_41_b2 quadsB
        by_cases hab : g.getD ia default = g.getD ib default
        · rw [if_pos (by simpa using hab), if_pos hab]
          rfl
        · rw [if_neg (by simpa using hab), if_neg hab]
          have h1 : rangeM (F40_41_b1 g R m muts i ia ib) R.length 0 (s.1, s.2) = _ := rangeM_fold (fun ir s => st m s (i, g.getD ia default, g.getD ib default, R.getD ir default)) (fun ir s hir => by
            unfold F40_41_b1 F41
            obtain ⟨e1, e2⟩ := sides hm hi (g.getD ia default) (g.getD ib default) (R.getD ir default)
            rw [e1, e2]
            rfl) (s.1, s.2)
          rw [h1, foldl_getD (fun r s => st m s (i, g.getD ia default, g.getD ib default, r)), List.foldl_map]
          rfl) (s.1, s.2)
      rw [h2, foldl_getD (fun b s => (quadsB R i (g.getD ia default) b).foldl (st m) s), foldl_flat]
      rfl) (s.1, s.2)
    rw [h3, foldl_getD (fun a s => (g.flatMap fun b => quadsB R i a b).foldl (st m) s), foldl_flat]
    rfl) s0
  rw [h4]
  unfold quads
  rw [foldl_flat]

def sumQ (f : Quad → Int) : List Quad → Int
  | [] => 0
  | q :: r => f q + sumQ f r
def nq (m : MSpot) (q : Quad) : Int := nn (xv m q.1 q.2.1 q.2.2.1 q.2.2.2) (yv m q.1 q.2.1 q.2.2.1 q.2.2.2)
/-- What a step adds to an account. -/
def dq (m : MSpot) (c : Int) (q : Quad) : Int := if q.1 = 0 then (if c = 140 then -nq m q else if c = 240 then nq m q else 0) else (if c = 440 then nq m q else if c = 540 then -nq m q else 0)

theorem nq_small {m : MSpot} (hm : Small m) (q : Quad) : 0 ≤ nq m q ∧ nq m q ≤ 400000000000000 := by
  have := xy_small hm q.1 q.2.1 q.2.2.1 q.2.2.2
  unfold nq nn
  split
  · omega
  · split <;> omega

theorem fold_spec {m : MSpot} (hm : Small m) : ∀ (S : List Quad) (s : WS) (A : Int), (∀ q ∈ S, q.1 < 2) → 0 ≤ A → A + 400000000000000 * S.length ≤ 9000000000000000000 → (∀ c, -A ≤ mget s.2 c 0 ∧ mget s.2 c 0 ≤ A) → 0 ≤ s.1.Eliminated → s.1.Eliminated ≤ A →
    (S.foldl (st m) s).1.Balances = s.1.Balances ∧ (S.foldl (st m) s).1.Differences = s.1.Differences ∧ (S.foldl (st m) s).1.Eliminated = s.1.Eliminated + sumQ (nq m) S ∧
      ∀ c, mget (S.foldl (st m) s).2 c 0 = mget s.2 c 0 + sumQ (dq m c) S
  | [], s, A, _, _, _, _, _, _ => ⟨rfl, rfl, by simp [sumQ], fun c => by simp [sumQ]⟩
  | q :: S, s, A, hq, hA, hS, hb, he0, he1 => by
    have hn := nq_small hm q
    have e : ((q :: S).length : Int) = (S.length : Int) + 1 := by simp
    rw [e] at hS
    have hq0 := hq q List.mem_cons_self
    have hE : (st m s q).1.Eliminated = s.1.Eliminated + nq m q := by
      show IntKind.i64.wrap (s.1.Eliminated + nq m q) = _
      rw [wrapId (by omega) (by omega)]
    have hM : ∀ c, mget (st m s q).2 c 0 = mget s.2 c 0 + dq m c q := by
      intro c
      show mget (mupd (mupd s.2 (muts q.1).first (IntKind.i64.wrap ((mget s.2 (muts q.1).first 0) - (IntKind.i64.wrap ((muts q.1).sign * nq m q))))) (muts q.1).second (IntKind.i64.wrap ((mget (mupd s.2 (muts q.1).first (IntKind.i64.wrap ((mget s.2 (muts q.1).first 0) - (IntKind.i64.wrap ((muts q.1).sign * nq m q))))) (muts q.1).second 0) + (IntKind.i64.wrap ((muts q.1).sign * nq m q))))) c 0 = _
      have hi : q.1 = 0 ∨ q.1 = 1 := by omega
      have b1 := hb 140
      have b2 := hb 240
      have b3 := hb 440
      have b4 := hb 540
      unfold dq
      rcases hi with hi | hi
      · rw [hi, if_pos rfl]
        show mget (mupd (mupd s.2 140 (IntKind.i64.wrap ((mget s.2 140 0) - (IntKind.i64.wrap (1 * nq m q))))) 240 (IntKind.i64.wrap ((mget (mupd s.2 140 (IntKind.i64.wrap ((mget s.2 140 0) - (IntKind.i64.wrap (1 * nq m q))))) 240 0) + (IntKind.i64.wrap (1 * nq m q))))) c 0 = _
        rw [Int.one_mul, wrapId (n := nq m q) (by omega) (by omega), wrapId (n := mget s.2 140 0 - nq m q) (by omega) (by omega), mget_mupd, mget_mupd, mget_mupd]
        rw [if_neg (c := ((240 : Int) == 140) = true) (by decide), wrapId (n := mget s.2 240 0 + nq m q) (by omega) (by omega)]
        by_cases c1 : c = 240
        · subst c1; simp
        · rw [if_neg (by simpa using c1), if_neg c1]
          by_cases c2 : c = 140
          · subst c2; simp; omega
          · rw [if_neg (by simpa using c2), if_neg c2]; omega
      · rw [hi, if_neg (by omega)]
        show mget (mupd (mupd s.2 440 (IntKind.i64.wrap ((mget s.2 440 0) - (IntKind.i64.wrap (-1 * nq m q))))) 540 (IntKind.i64.wrap ((mget (mupd s.2 440 (IntKind.i64.wrap ((mget s.2 440 0) - (IntKind.i64.wrap (-1 * nq m q))))) 540 0) + (IntKind.i64.wrap (-1 * nq m q))))) c 0 = _
        rw [wrapId (n := -1 * nq m q) (by omega) (by omega), wrapId (n := mget s.2 440 0 - -1 * nq m q) (by omega) (by omega), mget_mupd, mget_mupd, mget_mupd]
        rw [if_neg (c := ((540 : Int) == 440) = true) (by decide), wrapId (n := mget s.2 540 0 + -1 * nq m q) (by omega) (by omega)]
        by_cases c1 : c = 540
        · subst c1; simp
        · rw [if_neg (by simpa using c1)]
          by_cases c2 : c = 440
          · subst c2; simp
          · rw [if_neg (by simpa using c2), if_neg c2, if_neg c1]; omega
    have hd : ∀ c, -(nq m q) ≤ dq m c q ∧ dq m c q ≤ nq m q := by
      intro c
      unfold dq
      split
      · split
        · omega
        · split <;> omega
      · split
        · omega
        · split <;> omega
    obtain ⟨h1, h2, h3, h4⟩ := fold_spec hm S (st m s q) (A + 400000000000000) (fun p hp => hq p (List.mem_cons_of_mem _ hp)) (by omega) (by omega) (fun c => by rw [hM c]; have := hb c; have := hd c; omega) (by omega) (by omega)
    refine ⟨h1, h2, ?_, fun c => ?_⟩
    · rw [List.foldl_cons, h3, hE]; simp only [sumQ]; omega
    · rw [List.foldl_cons, h4 c, hM c]; simp only [sumQ]; omega
end Go.Proofs.Ytkkdclpleghppaa

namespace Go.Proofs.Ytkkdclpleghppaa
open Go Go.TA

/-! ## Lists of balances -/
def balI (f : Int → Int) (i : Nat) : List TApiBalance := if f (i : Int) ≠ 0 then [⟨(i : Int), f (i : Int)⟩] else []
def balL (N : Nat) (f : Int → Int) : List TApiBalance := (List.range N).flatMap (balI f)
theorem balI_len (f : Int → Int) (i : Nat) : (balI f i).length ≤ 1 := by unfold balI; split <;> simp
theorem balL_len (N : Nat) (f : Int → Int) : (balL N f).length ≤ N := by
  have := flatMap_len (F := balI f) (c := 1) (g := List.range N) fun i _ => balI_len f i
  rw [List.length_range, Nat.mul_one] at this
  exact this

theorem F42_loop (mp : List (Int × Int)) (N : Nat) (hN : N ≤ 1000) : rangeM (F42_b1 mp) N 0 ([] : List TApiBalance) = some (.next (balL N fun n => mget mp n 0)) := by
  have h1 : rangeM (F42_b1 mp) N 0 ([] : List TApiBalance) = _ := rangeM_app (balI fun n => mget mp n 0) 1 (fun i _ => balI_len _ i) fun i s hi hs => by
    unfold F42_b1 balI
    simp only [List.length_nil, Nat.zero_add] at hs
    by_cases h : mget mp (i : Int) 0 ≠ 0
    · rw [if_pos (by simpa using h), if_pos h, guardP_pos (p := AllP [(s.length + 1) * (2 * 16) ≤ 2 ^ 48]) (And.intro (by omega) trivial)]
      rfl
    · rw [if_neg (by simpa using h), if_neg h]
      simp
  rw [h1, List.nil_append]
  rfl

theorem F42_spec (mp : List (Int × Int)) : F42 mp = some (balL 600 fun n => mget mp n 0) := by
  unfold F42
  rw [F42_loop mp 600 (by omega)]
  have hl := balL_len 600 fun n => mget mp n 0
  generalize (balL 600 fun n => mget mp n 0) = B at hl
  simp only [outM]
  rw [guardP_pos (by omega)]

theorem quads_len {R g : List Int} (hR : R.length ≤ 400) (hg : g.length ≤ 4) : (quads R g).length ≤ 12800 := by
  have h1 : ∀ i a b, (quadsB R i a b).length ≤ 400 := fun i a b => by unfold quadsB; split <;> simp <;> omega
  have h2 : ∀ i a, (g.flatMap fun b => quadsB R i a b).length ≤ 1600 := fun i a => by
    have := flatMap_len (F := fun b => quadsB R i a b) (c := 400) (g := g) fun b _ => h1 i a b
    omega
  have h3 : ∀ i, (g.flatMap fun a => g.flatMap fun b => quadsB R i a b).length ≤ 6400 := fun i => by
    have := flatMap_len (F := fun a => g.flatMap fun b => quadsB R i a b) (c := 1600) (g := g) fun a _ => h2 i a
    omega
  have := flatMap_len (F := fun i => g.flatMap fun a => g.flatMap fun b => quadsB R i a b) (c := 6400) (g := List.range 2) fun i _ => h3 i
  simpa [quads] using this

theorem quads_lt {R g : List Int} {q : Quad} (h : q ∈ quads R g) : q.1 < 2 := by
  unfold quads at h
  obtain ⟨i, hi, h⟩ := List.mem_flatMap.1 h
  obtain ⟨a, _, h⟩ := List.mem_flatMap.1 h
  obtain ⟨b, _, h⟩ := List.mem_flatMap.1 h
  unfold quadsB at h
  split at h
  · cases h
  · obtain ⟨r, _, rfl⟩ := List.mem_map.1 h
    simpa using hi

/-- What Whole knows. -/
structure WholeR (l : List TApiPosting) (g : List Int) (k : Int) (R : List Int) (m : MSpot) (mp : List (Int × Int)) (E : Int) : Prop where
  refs : Refs l R
  spot : ∀ s, mget m s 0 = tot (spotV k s) l
  small : Small m
  elim : E = sumQ (nq m) (quads R g)
  book : ∀ n, mget mp n 0 = tot (bookV g k n) l + sumQ (dq m n) (quads R g)

theorem F11_spec {l : List TApiPosting} (hl : Good l) {g : List Int} (hg : Grp g) (hg4 : g.length ≤ 4) {k : Int} (h0 : 0 ≤ k) (h1 : k ≤ 36000) :
    ∃ R m mp E, WholeR l g k R m mp E ∧ F11 ⟨l⟩ g k = some (⟨balL 600 fun n => mget mp n 0, E, difs m R g⟩, 0) := by
  obtain ⟨R, m, r1, r2, r3, r4, r5, r6⟩ := F17_spec hl hg h0 h1
  obtain ⟨b, b1, b2⟩ := F37_spec hl g k
  have hlen := hl.len
  have hRl := r1.len
  have hb : ∀ c, -400000000000000 ≤ mget b c 0 ∧ mget b c 0 ≤ 400000000000000 := fun c => by
    rw [b2 c]
    have := tot_bound (f := bookV g k c) (c := 1000000000000) (l := l) fun p hp => bookV_bound (good_mem hl hp)
    omega
  have hq := quads_len (R := R) (g := g) (by omega) hg4
  obtain ⟨f1, f2, f3, f4⟩ := fold_spec r5 (quads R g) (⟨[], 0, difs m R g⟩, b) 400000000000000 (fun q hq => quads_lt hq) (by omega) (by omega) hb (by simp) (by simp)
  refine ⟨R, m, ((quads R g).foldl (st m) (⟨[], 0, difs m R g⟩, b)).2, sumQ (nq m) (quads R g), ⟨r1, r4, r5, rfl, fun n => by rw [f4 n, b2 n]⟩, ?_⟩
  unfold F11
  rw [r6]
  simp only [Option.bind_some]
  rw [if_neg (by simp), b1]
  simp only [Option.bind_some]
  unfold F40_41 F59
  rw [r2, r3]
  simp only [Option.bind_some]
  have hd := F40_41_loops r5 R g (⟨[], 0, difs m R g⟩, b)
  unfold muts at hd
  rw [hd]
  show (F42 _).bind _ = _
  rw [F42_spec]
  simp only [Option.bind_some]
  rw [f3]
  simp only [Int.zero_add]
  rw [f2]

/-! ## Of -/
theorem bookV_acc {g : List Int} {k n : Int} {p : TApiPosting} (h : postOk p) (hn : ¬ accOk n) : bookV g k n p = 0 := by
  have h1 := h.2.2.2.2.1
  have h2 := h.2.2.2.2.2.1
  unfold bookV
  split
  · rw [if_neg (c := n = p.Debit) (fun e => hn (by rw [e]; exact h1)), if_neg (c := n = p.Credit) (fun e => hn (by rw [e]; exact h2))]; rfl
  · rfl

theorem F45_spec {l : List TApiPosting} (hl : Good l) {e : Int} (he : e ≠ 0) (k : Int) : ∃ f, F45 l e 0 k = some f ∧ ∀ j : Nat, f j = tot (bookV [e] k ((j : Int) + 100)) l := by
  unfold F45
  obtain ⟨f, h1, h2⟩ := rangeM_inv (body := F45_b1 l e 0 k) (n := l.length) (s0 := (fun _ => 0 : Nat → Int)) (fun i f => ∀ j : Nat, f j = tot (bookV [e] k ((j : Int) + 100)) (l.take i))
    (fun j => by simp [tot]) (fun i f hi hf => by
      unfold F45_b1
      have hp := hl.post i hi
      have hlen := hl.len
      have hb : ∀ j, -400000000000000 ≤ f j ∧ f j ≤ 400000000000000 := fun j => by
        rw [hf j]
        have := tot_bound (f := bookV [e] k ((j : Int) + 100)) (c := 1000000000000) (l := l.take i) fun p hp => bookV_bound (good_mem hl (List.mem_of_mem_take hp))
        have e : (l.take i).length = i := by simp; omega
        rw [e] at this
        omega
      have ha := hp.2.2.2.2.2.2.1
      have hdc := hp.2.2.2.1
      have hd := hp.2.2.2.2.1
      have hc := hp.2.2.2.2.2.1
      have hday := hp.2.1
      unfold accOk at hd hc
      show ∃ s', Option.bind (if (bif (bif (decide ((at' l i).Day < 0)) then true else (decide ((at' l i).Day > k))) then true else (bif (e != 0) then ((at' l i).Entity != e) else false)) = true then some f else
        guardP (AllP [(0 : Int) ≤ (IntKind.i64.wrap ((at' l i).Debit - 100)), ((IntKind.i64.wrap ((at' l i).Debit - 100))).toNat < 500]) <|
        guardP (AllP [(0 : Int) ≤ (IntKind.i64.wrap ((at' l i).Credit - 100)), ((IntKind.i64.wrap ((at' l i).Credit - 100))).toNat < 500]) <|
        some (fun j => if j = (IntKind.i64.wrap ((at' l i).Credit - 100)).toNat then IntKind.i64.wrap ((fun j => if j = (IntKind.i64.wrap ((at' l i).Debit - 100)).toNat then IntKind.i64.wrap (f (IntKind.i64.wrap ((at' l i).Debit - 100)).toNat + (at' l i).Amount) else f j) (IntKind.i64.wrap ((at' l i).Credit - 100)).toNat - (at' l i).Amount)
          else (fun j => if j = (IntKind.i64.wrap ((at' l i).Debit - 100)).toNat then IntKind.i64.wrap (f (IntKind.i64.wrap ((at' l i).Debit - 100)).toNat + (at' l i).Amount) else f j) j)) (fun s => some (Step.cont s)) = some (.cont s') ∧ _
      rw [cond_or, cond_or, cond_and]
      by_cases hcnd : (at' l i).Entity = e ∧ (at' l i).Day ≤ k
      · rw [if_neg (by simp; omega), wrapId (n := (at' l i).Debit - 100) (by omega) (by omega), wrapId (n := (at' l i).Credit - 100) (by omega) (by omega)]
        rw [guardP_pos (p := AllP [(0 : Int) ≤ ((at' l i).Debit - 100), (((at' l i).Debit - 100)).toNat < 500]) (And.intro (by omega) (And.intro (by omega) trivial)), guardP_pos (p := AllP [(0 : Int) ≤ ((at' l i).Credit - 100), (((at' l i).Credit - 100)).toNat < 500]) (And.intro (by omega) (And.intro (by omega) trivial))]
        refine ⟨_, rfl, fun j => ?_⟩
        have b1 := hb (((at' l i).Debit - 100)).toNat
        have b2 := hb (((at' l i).Credit - 100)).toNat
        simp only
        rw [if_neg (c := ((at' l i).Credit - 100).toNat = ((at' l i).Debit - 100).toNat) (by omega), wrapId (n := f ((at' l i).Credit - 100).toNat - (at' l i).Amount) (by omega) (by omega), wrapId (n := f ((at' l i).Debit - 100).toNat + (at' l i).Amount) (by omega) (by omega)]
        rw [tot_succ _ hi, ← hf j]
        unfold bookV
        rw [if_pos (c := (at' l i).Entity ∈ [e] ∧ (at' l i).Day ≤ k) ⟨by simp [hcnd.1], hcnd.2⟩]
        by_cases c1 : j = ((at' l i).Credit - 100).toNat
        · rw [if_pos c1, if_neg (c := (j : Int) + 100 = (at' l i).Debit) (by omega), if_pos (c := (j : Int) + 100 = (at' l i).Credit) (by omega), c1]; omega
        · rw [if_neg c1, if_neg (c := (j : Int) + 100 = (at' l i).Credit) (by omega)]
          by_cases c2 : j = ((at' l i).Debit - 100).toNat
          · rw [if_pos c2, if_pos (c := (j : Int) + 100 = (at' l i).Debit) (by omega), c2]; omega
          · rw [if_neg c2, if_neg (c := (j : Int) + 100 = (at' l i).Debit) (by omega)]; omega
      · rw [if_pos (by simp; omega)]
        refine ⟨_, rfl, fun j => ?_⟩
        rw [tot_succ _ hi, ← hf j]
        unfold bookV
        rw [if_neg (c := (at' l i).Entity ∈ [e] ∧ (at' l i).Day ≤ k) (fun h => hcnd ⟨by simpa using h.1, h.2⟩)]
        omega)
  rw [h1]
  exact ⟨f, rfl, fun j => by have := h2 j; rwa [List.take_length] at this⟩

theorem F12_spec {l : List TApiPosting} (hl : Good l) {e : Int} (he : e ≠ 0) (n k : Int) : F12 ⟨l⟩ e n k = some (tot (bookV [e] k n) l) := by
  unfold F12
  rw [F43_spec]
  simp only [Option.bind_some, chk_good.2 hl]
  rw [optP_pos (gs := [((0 : Int) != 0) = false]) (And.intro (by decide) trivial), F44_spec]
  simp only [Option.bind_some]
  by_cases hn : accOk n
  · have h1 : cls n ≠ 0 := cls_ne.2 hn
    rw [if_neg (by simp [h1])]
    obtain ⟨f, f1, f2⟩ := F45_spec hl he k
    rw [f1]
    unfold accOk at hn
    simp only [Option.bind_some]
    rw [wrapId (n := n - 100) (by omega) (by omega)]
    refine guardP_ok (And.intro (by omega) (And.intro (by omega) trivial)) ?_
    rw [f2, show ((n - 100).toNat : Int) + 100 = n by omega]
  · have h1 : cls n = 0 := by
      rcases Decidable.em (cls n = 0) with h | h
      · exact h
      · exact absurd (cls_ne.1 h) hn
    rw [if_pos (by simp [h1])]
    rw [tot_congr (g := fun _ => 0) fun p hp => bookV_acc (good_mem hl hp) hn, tot_zero]
end Go.Proofs.Ytkkdclpleghppaa
