/- A part of the proof: plain laws of what the functions compute. No condition. -/
import Derived.Test.YtkkdclpleghppaaP43K
namespace Go.Proofs.Ytkkdclpleghppaa
open Go Go.TA

/-! ## Ledgers in which both sides book everything -/
def mutAcc (c : Int) : Prop := c = 140 ∨ c = 240 ∨ c = 440 ∨ c = 540
structure PairOk (a b n r : Int) (x y : TApiPosting) : Prop where
  ab : 1 ≤ a ∧ a ≤ 3 ∧ 1 ≤ b ∧ b ≤ 3 ∧ a ≠ b
  n0 : 1 ≤ n
  x : x.Entity = a ∧ x.Debit = 140 ∧ x.Credit = 440 ∧ x.Amount = n ∧ x.Partner = b ∧ x.Ref = r
  y : y.Entity = b ∧ y.Debit = 540 ∧ y.Credit = 240 ∧ y.Amount = n ∧ y.Partner = a ∧ y.Ref = r
structure OneOk (p : TApiPosting) : Prop where
  part : p.Partner = 0
  ent : p.Entity = 1 ∨ p.Entity = 5
  d : ¬ mutAcc p.Debit
  c : ¬ mutAcc p.Credit

inductive AgrL : List TApiPosting → Prop
  | nil : AgrL []
  | pair (l : List TApiPosting) (a b n r : Int) (x y : TApiPosting) (h : AgrL l) (hp : PairOk a b n r x y) : AgrL (l ++ [x, y])
  | one (l : List TApiPosting) (p : TApiPosting) (h : AgrL l) (hp : OneOk p) : AgrL (l ++ [p])

def spot0 (s : TConsolidationSpot) (p : TApiPosting) : Int := (if (s == keyD p) = true then p.Amount else 0) - (if (s == keyC p) = true then p.Amount else 0)
def acctV (c : Int) (p : TApiPosting) : Int := (if p.Debit = c then p.Amount else 0) - (if p.Credit = c then p.Amount else 0)
def partV (p : TApiPosting) : Int := if p.Partner ≠ 0 then p.Amount else 0

theorem spot0_eq (c a b r : Int) (p : TApiPosting) : spot0 ⟨c, a, b, r⟩ p = if a = p.Entity ∧ b = p.Partner ∧ r = p.Ref then acctV c p else 0 := by
  unfold spot0 acctV keyD keyC
  have e : ∀ d : Int, ((⟨c, a, b, r⟩ : TConsolidationSpot) == ⟨d, p.Entity, p.Partner, p.Ref⟩) = true ↔ c = d ∧ a = p.Entity ∧ b = p.Partner ∧ r = p.Ref := fun d => by
    simp [BEq.beq]
  by_cases h : a = p.Entity ∧ b = p.Partner ∧ r = p.Ref
  · rw [if_pos h]
    congr 1
    · by_cases h2 : p.Debit = c
      · rw [if_pos h2, if_pos ((e _).2 ⟨h2.symm, h⟩)]
      · rw [if_neg h2, if_neg (fun q => h2 ((e _).1 q).1.symm)]
    · by_cases h2 : p.Credit = c
      · rw [if_pos h2, if_pos ((e _).2 ⟨h2.symm, h⟩)]
      · rw [if_neg h2, if_neg (fun q => h2 ((e _).1 q).1.symm)]
  · rw [if_neg h, if_neg (fun q => h ((e _).1 q).2), if_neg (fun q => h ((e _).1 q).2)]
    rfl

theorem acctV_one {p : TApiPosting} (h : OneOk p) {c : Int} (hc : mutAcc c) : acctV c p = 0 := by
  unfold acctV
  rw [if_neg (c := p.Debit = c) (fun e => h.d (by rw [e]; exact hc)), if_neg (c := p.Credit = c) (fun e => h.c (by rw [e]; exact hc))]
  rfl

theorem tot2 (f : TApiPosting → Int) (l : List TApiPosting) (x y : TApiPosting) : tot f (l ++ [x, y]) = tot f l + (f x + f y) := by
  rw [tot_app]; simp [tot]
theorem tot1 (f : TApiPosting → Int) (l : List TApiPosting) (x : TApiPosting) : tot f (l ++ [x]) = tot f l + f x := by
  rw [tot_app]; simp [tot]

/-- The accounts of a pair. -/
theorem pair_acct {a b n r : Int} {x y : TApiPosting} (h : PairOk a b n r x y) :
    (acctV 140 x = n ∧ acctV 240 x = 0 ∧ acctV 440 x = -n ∧ acctV 540 x = 0) ∧ (acctV 140 y = 0 ∧ acctV 240 y = -n ∧ acctV 440 y = 0 ∧ acctV 540 y = n) := by
  obtain ⟨_, x1, x2, x3, _, _⟩ := h.x
  obtain ⟨_, y1, y2, y3, _, _⟩ := h.y
  unfold acctV
  rw [x1, x2, x3, y1, y2, y3]
  refine ⟨⟨?_, ?_, ?_, ?_⟩, ?_, ?_, ?_, ?_⟩ <;> simp

theorem agr_spots {l : List TApiPosting} (h : AgrL l) : ∀ a b r : Int, tot (spot0 ⟨140, a, b, r⟩) l = -tot (spot0 ⟨240, b, a, r⟩) l ∧ tot (spot0 ⟨440, a, b, r⟩) l = -tot (spot0 ⟨540, b, a, r⟩) l ∧
    0 ≤ tot (spot0 ⟨140, a, b, r⟩) l ∧ tot (spot0 ⟨440, a, b, r⟩) l ≤ 0 := by
  induction h with
  | nil => intro a b r; simp [tot]
  | pair l a0 b0 n r0 x y _ hp ih =>
    intro a b r
    obtain ⟨i1, i2, i3, i4⟩ := ih a b r
    obtain ⟨⟨u1, u2, u3, u4⟩, v1, v2, v3, v4⟩ := pair_acct hp
    obtain ⟨x1, _, _, _, x2, x3⟩ := hp.x
    obtain ⟨y1, _, _, _, y2, y3⟩ := hp.y
    have hn := hp.n0
    simp only [tot2, spot0_eq, u1, u2, u3, u4, v1, v2, v3, v4, x1, x2, x3, y1, y2, y3]
    by_cases hq : a = a0 ∧ b = b0 ∧ r = r0
    · have hq' : b = b0 ∧ a = a0 ∧ r = r0 := ⟨hq.2.1, hq.1, hq.2.2⟩
      rw [if_pos hq, if_pos hq, if_pos hq', if_pos hq']
      simp only [ite_self]
      omega
    · have hq' : ¬ (b = b0 ∧ a = a0 ∧ r = r0) := fun h => hq ⟨h.2.1, h.1, h.2.2⟩
      rw [if_neg hq, if_neg hq, if_neg hq', if_neg hq']
      simp only [ite_self]
      omega
  | one l p _ hp ih =>
    intro a b r
    obtain ⟨i1, i2, i3, i4⟩ := ih a b r
    simp only [tot1, spot0_eq, acctV_one hp (c := 140) (.inl rfl), acctV_one hp (c := 240) (.inr (.inl rfl)), acctV_one hp (c := 440) (.inr (.inr (.inl rfl))), acctV_one hp (c := 540) (.inr (.inr (.inr rfl))), ite_self]
    omega

theorem agr_accts {l : List TApiPosting} (h : AgrL l) : tot (acctV 140) l = -tot (acctV 240) l ∧ tot (acctV 440) l = -tot (acctV 540) l ∧ tot (acctV 140) l - tot (acctV 440) l = tot partV l := by
  induction h with
  | nil => simp [tot]
  | pair l a0 b0 n r0 x y _ hp ih =>
    obtain ⟨i1, i2, i3⟩ := ih
    obtain ⟨⟨u1, u2, u3, u4⟩, v1, v2, v3, v4⟩ := pair_acct hp
    have px : partV x = n := by unfold partV; rw [hp.x.2.2.2.2.1, hp.x.2.2.2.1, if_pos (by have := hp.ab; omega)]
    have py : partV y = n := by unfold partV; rw [hp.y.2.2.2.2.1, hp.y.2.2.2.1, if_pos (by have := hp.ab; omega)]
    simp only [tot2, u1, u2, u3, u4, v1, v2, v3, v4, px, py]
    omega
  | one l p _ hp ih =>
    obtain ⟨i1, i2, i3⟩ := ih
    have pp : partV p = 0 := by unfold partV; rw [hp.part]; simp
    simp only [tot1, acctV_one hp (c := 140) (.inl rfl), acctV_one hp (c := 240) (.inr (.inl rfl)), acctV_one hp (c := 440) (.inr (.inr (.inl rfl))), acctV_one hp (c := 540) (.inr (.inr (.inr rfl))), pp]
    omega

/-- What is known of each posting. -/
theorem agr_mem {l : List TApiPosting} (h : AgrL l) : ∀ p ∈ l, (1 ≤ p.Entity ∧ p.Entity ≤ 3 ∧ 1 ≤ p.Partner ∧ p.Partner ≤ 3 ∧ p.Entity ≠ p.Partner) ∨ OneOk p := by
  induction h with
  | nil => intro p hp; cases hp
  | pair l a0 b0 n r0 x y _ hp ih =>
    intro p hm
    rcases List.mem_append.1 hm with hm | hm
    · exact ih p hm
    · have := hp.ab
      have hx := hp.x
      have hy := hp.y
      simp at hm
      rcases hm with rfl | rfl
      · left; omega
      · left; omega
  | one l q _ hp ih =>
    intro p hm
    rcases List.mem_append.1 hm with hm | hm
    · exact ih p hm
    · simp at hm
      subst hm
      exact .inr hp

/-! ## Sums over the pairs of three entities -/
def sumR (F : Int → Int) : List Int → Int
  | [] => 0
  | r :: R => F r + sumR F R
def sumP (R : List Int) (F : Int → Int → Int → Int) : Int := sumR (F 1 2) R + sumR (F 1 3) R + sumR (F 2 1) R + sumR (F 2 3) R + sumR (F 3 1) R + sumR (F 3 2) R

theorem sumQ_app (f : Quad → Int) : ∀ a b : List Quad, sumQ f (a ++ b) = sumQ f a + sumQ f b
  | [], b => by simp [sumQ]
  | q :: a, b => by simp [sumQ, sumQ_app f a b]; omega
theorem sumQ_map (f : Quad → Int) (i : Nat) (a b : Int) : ∀ R : List Int, sumQ f (R.map fun r => (i, a, b, r)) = sumR (fun r => f (i, a, b, r)) R
  | [] => rfl
  | r :: R => by simp [sumQ, sumR, sumQ_map f i a b R]
theorem sumQ_quads3 (f : Quad → Int) (R : List Int) : sumQ f (quads R [1, 2, 3]) = sumP R (fun a b r => f (0, a, b, r)) + sumP R (fun a b r => f (1, a, b, r)) := by
  unfold quads sumP
  simp [List.range_succ, quadsB, sumQ_app, sumQ_map]
  omega
theorem sumR_congr {F G : Int → Int} (h : ∀ r, F r = G r) : ∀ R, sumR F R = sumR G R
  | [] => rfl
  | r :: R => by simp [sumR, h r, sumR_congr h R]
theorem sumP_congr {R : List Int} {F G : Int → Int → Int → Int} (h : ∀ a b r, F a b r = G a b r) : sumP R F = sumP R G := by
  unfold sumP
  simp only [fun a b => sumR_congr (h a b) R]
theorem sumR_neg (F : Int → Int) : ∀ R, sumR (fun r => -F r) R = -sumR F R
  | [] => rfl
  | r :: R => by simp only [sumR, sumR_neg F R]; omega
theorem sumP_neg (R : List Int) (F : Int → Int → Int → Int) : sumP R (fun a b r => -F a b r) = -sumP R F := by
  unfold sumP
  simp only [sumR_neg]
  omega
theorem sumP_swap (R : List Int) (F : Int → Int → Int → Int) : sumP R (fun a b r => F b a r) = sumP R F := by
  have e : ∀ a b : Int, sumR ((fun a b r => F b a r) a b) R = sumR (F b a) R := fun _ _ => rfl
  unfold sumP
  simp only [e]
  omega
theorem sumR_tot (h : Int → TApiPosting → Int) (l : List TApiPosting) : ∀ R, sumR (fun r => tot (h r) l) R = tot (fun p => sumR (fun r => h r p) R) l
  | [] => by simp only [sumR]; exact (tot_zero l).symm
  | r :: R => by
    simp only [sumR]
    rw [sumR_tot h l R, tot_add]
theorem sumP_tot (R : List Int) (h : Int → Int → Int → TApiPosting → Int) (l : List TApiPosting) : sumP R (fun a b r => tot (h a b r) l) = tot (fun p => sumP R fun a b r => h a b r p) l := by
  unfold sumP
  simp only [sumR_tot, tot_add]
theorem sumR_none {t X : Int} : ∀ {R : List Int}, t ∉ R → sumR (fun r => if r = t then X else 0) R = 0
  | [], _ => rfl
  | r :: R, h => by
    simp only [sumR]
    rw [if_neg (c := r = t) (fun e => h (by rw [e]; exact List.mem_cons_self)), sumR_none fun e => h (List.mem_cons_of_mem _ e)]
    rfl
theorem sumR_one {t X : Int} : ∀ {R : List Int}, R.Pairwise (· < ·) → t ∈ R → sumR (fun r => if r = t then X else 0) R = X
  | [], _, h => by cases h
  | r :: R, ha, h => by
    simp only [sumR]
    obtain ⟨h1, h2⟩ := List.pairwise_cons.1 ha
    by_cases e : r = t
    · subst e
      rw [if_pos rfl, sumR_none (fun h => by have := h1 r h; omega)]
      omega
    · rw [if_neg e, sumR_one h2 (by rcases List.mem_cons.1 h with h | h; exact absurd h.symm e; exact h)]
      omega
theorem sumR_zero : ∀ R, sumR (fun _ => 0) R = 0
  | [] => rfl
  | r :: R => by simp [sumR, sumR_zero R]

theorem sumP_spot {R : List Int} (ha : R.Pairwise (· < ·)) {p : TApiPosting} (hr : p.Ref ∈ R) {c : Int} (h : (1 ≤ p.Entity ∧ p.Entity ≤ 3 ∧ 1 ≤ p.Partner ∧ p.Partner ≤ 3 ∧ p.Entity ≠ p.Partner) ∨ acctV c p = 0) :
    sumP R (fun a b r => spot0 ⟨c, a, b, r⟩ p) = acctV c p := by
  rw [sumP_congr fun a b r => spot0_eq c a b r p]
  rcases h with h | h
  · have key : ∀ a b : Int, sumR (fun r => if a = p.Entity ∧ b = p.Partner ∧ r = p.Ref then acctV c p else 0) R = if a = p.Entity ∧ b = p.Partner then acctV c p else 0 := fun a b => by
      by_cases hq : a = p.Entity ∧ b = p.Partner
      · rw [if_pos hq, sumR_congr (G := fun r => if r = p.Ref then acctV c p else 0) fun r => by simp [hq.1, hq.2], sumR_one ha hr]
      · rw [if_neg hq, sumR_congr (G := fun _ => 0) fun r => if_neg fun e => hq ⟨e.1, e.2.1⟩, sumR_zero]
    unfold sumP
    simp only [key]
    generalize acctV c p = X
    obtain ⟨h1, h2, h3, h4, h5⟩ := h
    have e1 : p.Entity = 1 ∨ p.Entity = 2 ∨ p.Entity = 3 := by omega
    have e2 : p.Partner = 1 ∨ p.Partner = 2 ∨ p.Partner = 3 := by omega
    rcases e1 with e1 | e1 | e1 <;> rcases e2 with e2 | e2 | e2 <;> first | (exfalso; omega) | (simp [e1, e2])
  · rw [h]
    simp only [ite_self]
    unfold sumP
    simp [sumR_zero]

/-- The positions of an account add up to it. -/
theorem agr_sum {l : List TApiPosting} (h : AgrL l) {R : List Int} (hR : Refs l R) {c : Int} (hc : mutAcc c) : sumP R (fun a b r => tot (spot0 ⟨c, a, b, r⟩) l) = tot (acctV c) l := by
  rw [sumP_tot]
  refine tot_congr fun p hp => sumP_spot hR.asc ((hR.mem _).2 ⟨p, hp, rfl⟩) ?_
  rcases agr_mem h p hp with h1 | h1
  · exact .inl h1
  · exact .inr (acctV_one h1 hc)
end Go.Proofs.Ytkkdclpleghppaa

namespace Go.Proofs.Ytkkdclpleghppaa
open Go Go.TA

theorem postR_ok {l : List TApiPosting} {p : TApiPosting} (hl : l.length < 400) (hp : postOk p) (hn : p.Number = (l.length : Int) + 1) (hd : lastDay l ≤ p.Day) : postR l p = (⟨l ++ [p]⟩, 0) := by
  unfold postR
  rw [if_neg (c := ¬ postOk p) (fun h => h hp), if_neg (by omega), if_neg (c := p.Number ≠ (l.length : Int) + 1) (fun h => h hn), if_neg (by omega)]
theorem lastDay_app (l : List TApiPosting) (p : TApiPosting) : lastDay (l ++ [p]) = p.Day := by
  unfold lastDay
  rw [if_pos (by simp), at'_app, if_neg (by simp), if_pos (by simp)]

structure AgrS (n0 : Int) (q : TTreasuryplaySrc × TApiLedger × Int × Int) : Prop where
  src : SrcOk q.1
  good : Good q.2.1.Postings
  agr : AgrL q.2.1.Postings
  last : lastDay q.2.1.Postings ≤ q.2.2.1
  day : 0 ≤ q.2.2.1 ∧ q.2.2.1 ≤ 2 * (n0 - q.2.2.2)
  days : ∀ p ∈ q.2.1.Postings, p.Day ≤ 60
  ents : ∀ p ∈ q.2.1.Postings, 1 ≤ p.Entity ∧ p.Entity ≤ 3
  len : (q.2.1.Postings.length : Int) ≤ 3 * (n0 - q.2.2.2)
  k : q.2.2.2 ≤ n0

theorem F14_round {n0 : Int} (hn : n0 ≤ 5) {q : TTreasuryplaySrc × TApiLedger × Int × Int} (h : AgrS n0 q) (hk : q.2.2.2 > 0) : ∃ q', F14_b1 q = some (.cont q') ∧ AgrS n0 q' ∧ q'.2.2.2 = q.2.2.2 - 1 := by
  obtain ⟨s, ⟨l⟩, day, k⟩ := q
  obtain ⟨i1, i2, i3, i4, i5, i6, i6e, i7, i8⟩ := h
  simp only at i1 i2 i3 i4 i5 i6 i6e i7 i8 hk
  unfold F14_b1
  rw [if_pos (by simpa using hk)]
  simp only
  obtain ⟨a, s1, e1, k1, a0, a1⟩ := Range_spec (lo := 1) (hi := 3) i1 (by omega) (by omega) (by omega)
  obtain ⟨n, s2, e2, k2, hn0⟩ := Pick_spec (l := [5, 40, 100]) k1 (by simp) (by simp)
  obtain ⟨r, s3, e3, k3, r0, r1⟩ := Range_spec (lo := 1) (hi := 3) k2 (by omega) (by omega) (by omega)
  have hn1 : 5 ≤ n ∧ n ≤ 100 := by
    simp only [List.mem_cons, List.not_mem_nil, or_false] at hn0
    omega
  rw [e1]; simp only [Option.bind_some]
  rw [e2]; simp only [Option.bind_some]
  rw [e3]; simp only [Option.bind_some]
  obtain ⟨b, hb, b0, b1, b2⟩ : ∃ b, IntKind.i64.wrap (a.tmod 3 + 1) = b ∧ 1 ≤ b ∧ b ≤ 3 ∧ a ≠ b := by
    have : a = 1 ∨ a = 2 ∨ a = 3 := by omega
    rcases this with rfl | rfl | rfl <;> exact ⟨_, rfl, by decide, by decide, by decide⟩
  rw [hb, wrapId (n := (l.length : Int) + 1) (by omega) (by omega), wrapId (n := (l.length : Int) + 1 + 1) (by omega) (by omega), wrapId (n := k - 1) (by omega) (by omega)]
  generalize hx : (⟨(l.length : Int) + 1, day, a, 140, 440, n, b, r⟩ : TApiPosting) = x
  generalize hy : (⟨(l.length : Int) + 1 + 1, day, b, 540, 240, n, a, r⟩ : TApiPosting) = y
  have hpx : postOk x := by subst hx; unfold postOk accOk; simp only; omega
  have hpy : postOk y := by subst hy; unfold postOk accOk; simp only; omega
  have hxd : x.Day = day := by subst hx; rfl
  have hyd : y.Day = day := by subst hy; rfl
  have hxn : x.Number = (l.length : Int) + 1 := by subst hx; rfl
  have hyn : y.Number = (l.length : Int) + 1 + 1 := by subst hy; rfl
  have hxe : x.Entity = a := by subst hx; rfl
  have hye : y.Entity = b := by subst hy; rfl
  have hpair : PairOk a b n r x y := by
    subst hx; subst hy
    exact ⟨by omega, by omega, ⟨rfl, rfl, rfl, rfl, rfl, rfl⟩, ⟨rfl, rfl, rfl, rfl, rfl, rfl⟩⟩
  have hR1 := postR_ok (l := l) (p := x) (by omega) hpx hxn (by omega)
  have g1 : Good (l ++ [x]) := i2.app (by omega) hpx hxn (by omega)
  have hR2 := postR_ok (l := l ++ [x]) (p := y) (by simp; omega) hpy (by rw [hyn]; simp) (by rw [lastDay_app]; omega)
  have g2 : Good (l ++ [x] ++ [y]) := g1.app (by simp; omega) hpy (by rw [hyn]; simp) (by rw [lastDay_app]; omega)
  rw [F16_spec i2, hR1]; simp only [Option.bind_some]
  rw [F16_spec g1, hR2]; simp only [Option.bind_some]
  obtain ⟨v, s4, e4, k4, v0, v1, _⟩ := N_spec (n := 3) k3 (by omega)
  have v1 := v1 (by omega)
  rw [e4]; simp only [Option.bind_some]
  have hlen2 : ((l ++ [x] ++ [y]).length : Int) = (l.length : Int) + 2 := by simp
  have hl2 : l ++ [x] ++ [y] = l ++ [x, y] := by simp
  rw [hlen2, wrapId (n := (l.length : Int) + 2 + 1) (by omega) (by omega), wrapId (n := day + v) (by omega) (by omega)]
  obtain ⟨p, s5, e5, k5, hp⟩ := F20_spec (a1 := (l.length : Int) + 2 + 1) (a2 := day + v) (a3 := 1) k4 (.inl rfl)
  rw [e5]; simp only [Option.bind_some]
  obtain ⟨w, s6, e6, k6, w0, w1, _⟩ := N_spec (n := 2) k5 (by omega)
  rw [e6]; simp only [Option.bind_some]
  have hag2 : AgrL (l ++ [x] ++ [y]) := by rw [hl2]; exact .pair l a b n r x y i3 hpair
  have hdays2 : ∀ z ∈ l ++ [x] ++ [y], z.Day ≤ 60 := fun z hz => by
    rw [hl2] at hz
    rcases List.mem_append.1 hz with hz | hz
    · exact i6 z hz
    · simp at hz; rcases hz with rfl | rfl <;> omega
  have hents2 : ∀ z ∈ l ++ [x] ++ [y], 1 ≤ z.Entity ∧ z.Entity ≤ 3 := fun z hz => by
    rw [hl2] at hz
    rcases List.mem_append.1 hz with hz | hz
    · exact i6e z hz
    · simp at hz; rcases hz with rfl | rfl <;> omega
  by_cases hw : w = 1
  · subst hw
    rw [if_pos (by decide)]
    obtain ⟨pa1, pa2, pa3⟩ := hp.alone rfl
    have hpp : postOk p := by
      have h1 := hp.num; have h2 := hp.day; have h3 := hp.ent; have h4 := hp.amount; have h5 := hp.ref; have h6 := hp.acc
      have h7 := hp.part
      exact ⟨by omega, by omega, by omega, h6.2.2, h6.1, h6.2.1, by omega, by omega, h7.2.2, by omega⟩
    have hR3 := postR_ok (l := l ++ [x] ++ [y]) (p := p) (by simp; omega) hpp (by rw [hp.num, hlen2]) (by rw [lastDay_app, hp.day]; omega)
    have g3 : Good (l ++ [x] ++ [y] ++ [p]) := g2.app (by simp; omega) hpp (by rw [hp.num, hlen2]) (by rw [lastDay_app, hp.day]; omega)
    rw [F16_spec g2, hR3]; simp only [Option.bind_some]
    refine ⟨_, rfl, ⟨k6, g3, .one _ p hag2 ⟨pa1, .inl ?_, ?_, ?_⟩, ?_, ?_, ?_, ?_, ?_, ?_⟩, rfl⟩
    · have := hp.ent; omega
    · simp only [List.mem_cons, List.not_mem_nil, or_false] at pa2
      unfold mutAcc
      omega
    · simp only [List.mem_cons, List.not_mem_nil, or_false] at pa3
      unfold mutAcc
      omega
    · rw [lastDay_app, hp.day]; exact Int.le_refl _
    · simp only; omega
    · intro z hz
      rcases List.mem_append.1 hz with hz | hz
      · exact hdays2 z hz
      · simp at hz; subst hz; rw [hp.day]; omega
    · intro z hz
      rcases List.mem_append.1 hz with hz | hz
      · exact hents2 z hz
      · simp at hz; subst hz; have := hp.ent; omega
    · simp only [List.length_append, List.length_cons, List.length_nil]; omega
    · simp only; omega
  · rw [if_neg (by simpa using hw)]
    refine ⟨_, rfl, ⟨k6, g2, hag2, ?_, ?_, hdays2, hents2, ?_, ?_⟩, rfl⟩
    · rw [lastDay_app]; simp only; omega
    · simp only; omega
    · simp only [List.length_append, List.length_cons, List.length_nil]; omega
    · simp only; omega

theorem F14_spec {n : Int} (h0 : 0 ≤ n) (hn : n ≤ 5) {s : TTreasuryplaySrc} (hs : SrcOk s) : ∃ l s', F14 n s = some (⟨l⟩, s') ∧ SrcOk s' ∧ Good l ∧ AgrL l ∧ (∀ p ∈ l, p.Day ≤ 60) ∧ (∀ p ∈ l, 1 ≤ p.Entity ∧ p.Entity ≤ 3) ∧ l.length ≤ 20 := by
  unfold F14
  rw [wrapId (n := n + 1) (by omega) (by omega)]
  obtain ⟨v, s1, e1, k1, v0, v1, _⟩ := N_spec (n := n + 1) hs (by omega)
  have v1 := v1 (by omega)
  rw [e1]; simp only [Option.bind_some]
  obtain ⟨q, h1, h2⟩ := iterM_inv (step := F14_b1) (fun q => q.2.2.2.toNat) (fun q => AgrS v q ∧ 0 ≤ q.2.2.2) (fun q => AgrS v q ∧ 0 ≤ q.2.2.2) (by
    rintro q ⟨hq, hq0⟩
    by_cases hk : q.2.2.2 > 0
    · left
      obtain ⟨q', a1, a2, a3⟩ := F14_round (by omega) hq hk
      exact ⟨q', a1, ⟨a2, by omega⟩, by omega⟩
    · right
      refine ⟨q, ?_, hq, hq0⟩
      unfold F14_b1
      rw [if_neg (by simpa using hk)]) 7 (s1, ⟨[]⟩, 0, v) (by simp only; omega)
      ⟨⟨k1, good_nil, .nil, by unfold lastDay; simp, by simp, fun p hp => by simp at hp, fun p hp => by simp at hp, by simp, by simp⟩, v0⟩
  rw [h1]
  obtain ⟨h2, h3⟩ := h2
  refine ⟨q.2.1.Postings, q.1, rfl, h2.src, h2.good, h2.agr, h2.days, h2.ents, ?_⟩
  have := h2.len
  omega

/-! ## What Whole makes of it -/
theorem spotV_days {l : List TApiPosting} {k : Int} (h : ∀ p ∈ l, p.Day ≤ k) (s : TConsolidationSpot) : tot (spotV k s) l = tot (spot0 s) l :=
  tot_congr fun p hp => by unfold spotV spot0; rw [if_pos (h p hp)]
theorem bookV_all {l : List TApiPosting} {k : Int} {g : List Int} (h : ∀ p ∈ l, p.Day ≤ k) (he : ∀ p ∈ l, p.Entity ∈ g) (n : Int) : tot (bookV g k n) l = tot (acctV n) l :=
  tot_congr fun p hp => by
    unfold bookV acctV
    rw [if_pos ⟨he p hp, h p hp⟩]
    congr 1
    · by_cases e : n = p.Debit
      · rw [if_pos e, if_pos e.symm]
      · rw [if_neg e, if_neg fun q => e q.symm]
    · by_cases e : n = p.Credit
      · rw [if_pos e, if_pos e.symm]
      · rw [if_neg e, if_neg fun q => e q.symm]

structure AgrW (l : List TApiPosting) (k : Int) (R : List Int) (m : MSpot) : Prop where
  agr : AgrL l
  refs : Refs l R
  spot : ∀ s, mget m s 0 = tot (spot0 s) l

theorem agrW_xy {l : List TApiPosting} {k : Int} {R : List Int} {m : MSpot} (h : AgrW l k R m) (a b r : Int) :
    xv m 0 a b r = tot (spot0 ⟨140, a, b, r⟩) l ∧ yv m 0 a b r = tot (spot0 ⟨140, a, b, r⟩) l ∧ 0 ≤ tot (spot0 ⟨140, a, b, r⟩) l ∧
    xv m 1 a b r = -tot (spot0 ⟨440, a, b, r⟩) l ∧ yv m 1 a b r = -tot (spot0 ⟨440, a, b, r⟩) l ∧ tot (spot0 ⟨440, a, b, r⟩) l ≤ 0 := by
  obtain ⟨i1, i2, i3, i4⟩ := agr_spots h.agr a b r
  have e1 : xv m 0 a b r = tot (spot0 ⟨140, a, b, r⟩) l := by unfold xv; rw [if_pos rfl, h.spot]
  have e2 : yv m 0 a b r = -tot (spot0 ⟨240, b, a, r⟩) l := by unfold yv; rw [if_pos rfl, h.spot]
  have e3 : xv m 1 a b r = -tot (spot0 ⟨440, a, b, r⟩) l := by unfold xv; rw [if_neg (by omega), h.spot]
  have e4 : yv m 1 a b r = tot (spot0 ⟨540, b, a, r⟩) l := by unfold yv; rw [if_neg (by omega), h.spot]
  rw [e1, e2, e3, e4]
  omega

theorem nn_same {x : Int} (h : 0 ≤ x) : nn x x = x := by
  unfold nn
  split
  · omega
  · split <;> omega
end Go.Proofs.Ytkkdclpleghppaa

namespace Go.Proofs.Ytkkdclpleghppaa
open Go Go.TA

/-! ## ConsolidationAgreed -/
theorem sumQ_congr {f g : Quad → Int} : ∀ {S : List Quad}, (∀ q ∈ S, f q = g q) → sumQ f S = sumQ g S
  | [], _ => rfl
  | q :: S, h => by simp [sumQ, h q List.mem_cons_self, sumQ_congr (S := S) fun p hp => h p (List.mem_cons_of_mem _ hp)]

theorem agrW_nq {l : List TApiPosting} {k : Int} {R : List Int} {m : MSpot} (h : AgrW l k R m) (a b r : Int) :
    nq m (0, a, b, r) = tot (spot0 ⟨140, a, b, r⟩) l ∧ nq m (1, a, b, r) = -tot (spot0 ⟨440, a, b, r⟩) l := by
  obtain ⟨e1, e2, e3, e4, e5, e6⟩ := agrW_xy h a b r
  unfold nq
  simp only
  rw [e1, e2, e4, e5, nn_same e3, nn_same (by omega)]
  exact ⟨rfl, rfl⟩

theorem agr_difs {l : List TApiPosting} {k : Int} {R : List Int} {m : MSpot} (h : AgrW l k R m) (g : List Int) : difs m R g = [] := by
  have h0 : ∀ i, i < 2 → ∀ a b r, dif m i a b r = [] := fun i hi a b r => by
    obtain ⟨e1, e2, _, e4, e5, _⟩ := agrW_xy h a b r
    unfold dif
    have : i = 0 ∨ i = 1 := by omega
    rcases this with rfl | rfl
    · rw [if_neg]; rw [e1, e2]; omega
    · rw [if_neg]; rw [e4, e5]; omega
  unfold difs
  rw [List.flatMap_eq_nil_iff]
  intro i hi
  rw [List.flatMap_eq_nil_iff]
  intro a _
  rw [List.flatMap_eq_nil_iff]
  intro b _
  unfold difB
  split
  · rfl
  · rw [List.flatMap_eq_nil_iff]
    exact fun r _ => h0 i (List.mem_range.1 hi) a b r

/-- All that is eliminated, and what it does to the four accounts. -/
theorem agr_sums {l : List TApiPosting} {k : Int} {R : List Int} {m : MSpot} (h : AgrW l k R m) :
    sumQ (nq m) (quads R [1, 2, 3]) = tot partV l ∧ (∀ c, mutAcc c → tot (acctV c) l + sumQ (dq m c) (quads R [1, 2, 3]) = 0) := by
  obtain ⟨a1, a2, a3⟩ := agr_accts h.agr
  have s1 : sumP R (fun a b r => nq m (0, a, b, r)) = tot (acctV 140) l := by
    rw [sumP_congr fun a b r => (agrW_nq h a b r).1, agr_sum h.agr h.refs (.inl rfl)]
  have s2 : sumP R (fun a b r => nq m (1, a, b, r)) = -tot (acctV 440) l := by
    rw [sumP_congr fun a b r => (agrW_nq h a b r).2, sumP_neg, agr_sum h.agr h.refs (.inr (.inr (.inl rfl)))]
  have z : sumP R (fun _ _ _ => 0) = 0 := by unfold sumP; simp [sumR_zero]
  refine ⟨?_, fun c hc => ?_⟩
  · rw [sumQ_quads3, s1, s2]; omega
  · rw [sumQ_quads3]
    rcases hc with rfl | rfl | rfl | rfl
    · rw [sumP_congr (F := fun a b r => dq m 140 (0, a, b, r)) (G := fun a b r => -nq m (0, a, b, r)) fun a b r => rfl, sumP_congr (F := fun a b r => dq m 140 (1, a, b, r)) (G := fun _ _ _ => 0) fun a b r => rfl, sumP_neg, s1, z]; omega
    · rw [sumP_congr (F := fun a b r => dq m 240 (0, a, b, r)) (G := fun a b r => nq m (0, a, b, r)) fun a b r => rfl, sumP_congr (F := fun a b r => dq m 240 (1, a, b, r)) (G := fun _ _ _ => 0) fun a b r => rfl, s1, z]; omega
    · rw [sumP_congr (F := fun a b r => dq m 440 (0, a, b, r)) (G := fun _ _ _ => 0) fun a b r => rfl, sumP_congr (F := fun a b r => dq m 440 (1, a, b, r)) (G := fun a b r => nq m (1, a, b, r)) fun a b r => rfl, s2, z]; omega
    · rw [sumP_congr (F := fun a b r => dq m 540 (0, a, b, r)) (G := fun _ _ _ => 0) fun a b r => rfl, sumP_congr (F := fun a b r => dq m 540 (1, a, b, r)) (G := fun a b r => -nq m (1, a, b, r)) fun a b r => rfl, sumP_neg, s2, z]; omega

theorem grp123 : Grp [1, 2, 3] := grp_of (by decide) (by decide) (by decide) (by decide)

theorem F4_spec (t : List Int) : F4 t = some true := by
  unfold F4
  obtain ⟨s, e1, k1⟩ := F9_spec t
  obtain ⟨l, s2, e2, k2, hl, hag, hdays, hents, hlen⟩ := F14_spec (n := 5) (by omega) (by omega) k1
  rw [e1]; simp only [Option.bind_some]
  rw [e2]; simp only [Option.bind_some]
  obtain ⟨R, m, mp, E, hw, h1⟩ := F11_spec hl grp123 (by decide) (k := 36000) (by omega) (by omega)
  have hd36 : ∀ p ∈ l, p.Day ≤ 36000 := fun p hp => by have := hdays p hp; omega
  have hW : AgrW l 36000 R m := ⟨hag, hw.refs, fun s => by rw [hw.spot, spotV_days hd36]⟩
  obtain ⟨q1, q2⟩ := agr_sums hW
  have hE : E = tot partV l := by rw [hw.elim, q1]
  have hdf := agr_difs hW [1, 2, 3]
  rw [h1]; simp only [Option.bind_some]
  rw [hdf, if_neg (by decide)]
  have hbook : ∀ c, mutAcc c → mget mp c 0 = 0 := fun c hc => by
    rw [hw.book, bookV_all hd36 (fun p hp => by have := hents p hp; have : p.Entity = 1 ∨ p.Entity = 2 ∨ p.Entity = 3 := by omega
                                                simpa using this)]
    exact q2 c hc
  obtain ⟨u, u1, u2⟩ := rangeM_inv (body := F4_b1 (⟨l⟩, s2)) (n := l.length) (s0 := (0 : Int)) (fun i s => s = tot partV (l.take i)) (by simp [tot]) (fun i v hi hv => by
    unfold F4_b1
    have hp := hl.post i hi
    have ha := hp.2.2.2.2.2.2.1
    have hb := tot_bound (f := partV) (c := 1000000000000) (l := l.take i) fun p hp => by
      have h1 := (good_mem hl (List.mem_of_mem_take hp)).2.2.2.2.2.2.1
      unfold partV
      split <;> omega
    have e : (l.take i).length = i := by simp; omega
    rw [e] at hb
    show ∃ s', Option.bind (if ((at' l i).Partner != 0) = true then some (IntKind.i64.wrap (v + (at' l i).Amount)) else some v) (fun s => some (Step.cont s)) = some (.cont s') ∧ _
    by_cases h0 : (at' l i).Partner ≠ 0
    · rw [if_pos (by simpa using h0), wrapId (n := v + (at' l i).Amount) (by omega) (by omega)]
      refine ⟨_, rfl, ?_⟩
      rw [tot_succ _ hi, hv]
      unfold partV
      rw [if_pos h0]
    · rw [if_neg (by simpa using h0)]
      refine ⟨_, rfl, ?_⟩
      rw [tot_succ _ hi, hv]
      unfold partV
      rw [if_neg h0]; omega)
  rw [u1]
  have hB : ∀ b ∈ balL 600 fun n => mget mp n 0, ¬ mutAcc b.Account := fun b hb hc => by
    obtain ⟨_, _, b1, b2⟩ := balL_mem hb
    rw [b1, hbook _ hc] at b2
    exact b2 rfl
  generalize (balL 600 fun n => mget mp n 0) = B at *
  have h2 : rangeM (F4_b2 (⟨B, E, []⟩, 0)) B.length 0 () = _ := rangeM_any (c := false) (fun _ => false) fun i hi => by
    unfold F4_b2
    have hm := hB _ (getD_mem hi)
    unfold mutAcc at hm
    have hc : (bif (bif (bif (((B.getD i default).Account) == 140) then true else (((B.getD i default).Account) == 240)) then true else (((B.getD i default).Account) == 440)) then true else (((B.getD i default).Account) == 540)) = false := by
      rw [cond_or, cond_or, cond_or]
      simp only [Bool.or_eq_false_iff, beq_eq_false_iff_ne, ne_eq]
      omega
    show outM (if (bif (bif (bif (((B.getD i default).Account) == 140) then true else (((B.getD i default).Account) == 240)) then true else (((B.getD i default).Account) == 440)) then true else (((B.getD i default).Account) == 540)) = true then _ else _) _ _ = _
    rw [hc]
    rfl
  have h3 : (List.range B.length).any (fun _ => false) = false := by rw [List.any_eq_false]; simp
  show outM (rangeM (F4_b2 (⟨B, E, []⟩, 0)) B.length 0 ()) _ _ = _
  rw [h2, h3]
  rw [List.take_length] at u2
  have hEu : (E == u) = true := by rw [hE, u2]; simp
  show (optP [(E == u) = true] F13).bind _ = _
  rw [optP_pos (gs := [(E == u) = true]) (And.intro hEu trivial), F13_spec]
  simp only [Option.bind_some]
  rw [hEu]
  rfl
end Go.Proofs.Ytkkdclpleghppaa
