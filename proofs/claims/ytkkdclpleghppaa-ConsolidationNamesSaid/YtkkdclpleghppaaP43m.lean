/- A part of the proof: plain laws of what the functions compute. No condition. -/
import Derived.Test.YtkkdclpleghppaaP43l
namespace Go.Proofs.Ytkkdclpleghppaa
open Go Go.TA

/-! ## Ledgers in which both sides book everything -/
def mutAcc (c : Int) : Prop := c = 140 ∨ c = 240 ∨ c = 440 ∨ c = 540
structure PairOk (a b n r : Int) (x y : TApiPosting) : Prop where
  ab : 1 ≤ a ∧ a ≤ 3 ∧ 1 ≤ b ∧ b ≤ 3 ∧ a ≠ b
  n0 : 1 ≤ n
  x : x.Entity = a ∧ x.Debit = 140 ∧ x.Credit = 440 ∧ x.Amount = n ∧ x.Partner = b ∧ x.Ref = r
  y : y.Entity = b ∧ y.Debit = 540 ∧ y.Credit = 240 ∧ y.Amount = n ∧ y.Partner = a ∧ y.Ref = r
structure OneOk (p : TApiPosting) : Prop where
  part : p.Partner = 0
  ent : p.Entity = 1 ∨ p.Entity = 5
  d : ¬ mutAcc p.Debit
  c : ¬ mutAcc p.Credit

inductive AgrL : List TApiPosting → Prop
  | nil : AgrL []
  | pair (l : List TApiPosting) (a b n r : Int) (x y : TApiPosting) (h : AgrL l) (hp : PairOk a b n r x y) : AgrL (l ++ [x, y])
  | one (l : List TApiPosting) (p : TApiPosting) (h : AgrL l) (hp : OneOk p) : AgrL (l ++ [p])

def spot0 (s : TConsolidationSpot) (p : TApiPosting) : Int := (if (s == keyD p) = true then p.Amount else 0) - (if (s == keyC p) = true then p.Amount else 0)
def acctV (c : Int) (p : TApiPosting) : Int := (if p.Debit = c then p.Amount else 0) - (if p.Credit = c then p.Amount else 0)
def partV (p : TApiPosting) : Int := if p.Partner ≠ 0 then p.Amount else 0

theorem spot0_eq (c a b r : Int) (p : TApiPosting) : spot0 ⟨c, a, b, r⟩ p = if a = p.Entity ∧ b = p.Partner ∧ r = p.Ref then acctV c p else 0 := by
  unfold spot0 acctV keyD keyC
  have e : ∀ d : Int, ((⟨c, a, b, r⟩ : TConsolidationSpot) == ⟨d, p.Entity, p.Partner, p.Ref⟩) = true ↔ c = d ∧ a = p.Entity ∧ b = p.Partner ∧ r = p.Ref := fun d => by
    simp [BEq.beq]
  by_cases h : a = p.Entity ∧ b = p.Partner ∧ r = p.Ref
  · rw [if_pos h]
    congr 1
    · by_cases h2 : p.Debit = c
      · rw [if_pos h2, if_pos ((e _).2 ⟨h2.symm, h⟩)]
      · rw [if_neg h2, if_neg (fun q => h2 ((e _).1 q).1.symm)]
    · by_cases h2 : p.Credit = c
      · rw [if_pos h2, if_pos ((e _).2 ⟨h2.symm, h⟩)]
      · rw [if_neg h2, if_neg (fun q => h2 ((e _).1 q).1.symm)]
  · rw [if_neg h, if_neg (fun q => h ((e _).1 q).2), if_neg (fun q => h ((e _).1 q).2)]
    rfl

theorem acctV_one {p : TApiPosting} (h : OneOk p) {c : Int} (hc : mutAcc c) : acctV c p = 0 := by
  unfold acctV
  rw [if_neg (c := p.Debit = c) (fun e => h.d (by rw [e]; exact hc)), if_neg (c := p.Credit = c) (fun e => h.c (by rw [e]; exact hc))]
  rfl

theorem tot2 (f : TApiPosting → Int) (l : List TApiPosting) (x y : TApiPosting) : tot f (l ++ [x, y]) = tot f l + (f x + f y) := by
  rw [tot_app]; simp [tot]
theorem tot1 (f : TApiPosting → Int) (l : List TApiPosting) (x : TApiPosting) : tot f (l ++ [x]) = tot f l + f x := by
  rw [tot_app]; simp [tot]

/-- The accounts of a pair. -/
theorem pair_acct {a b n r : Int} {x y : TApiPosting} (h : PairOk a b n r x y) :
    (acctV 140 x = n ∧ acctV 240 x = 0 ∧ acctV 440 x = -n ∧ acctV 540 x = 0) ∧ (acctV 140 y = 0 ∧ acctV 240 y = -n ∧ acctV 440 y = 0 ∧ acctV 540 y = n) := by
  obtain ⟨_, x1, x2, x3, _, _⟩ := h.x
  obtain ⟨_, y1, y2, y3, _, _⟩ := h.y
  unfold acctV
  rw [x1, x2, x3, y1, y2, y3]
  refine ⟨⟨?_, ?_, ?_, ?_⟩, ?_, ?_, ?_, ?_⟩ <;> simp

theorem agr_spots {l : List TApiPosting} (h : AgrL l) : ∀ a b r : Int, tot (spot0 ⟨140, a, b, r⟩) l = -tot (spot0 ⟨240, b, a, r⟩) l ∧ tot (spot0 ⟨440, a, b, r⟩) l = -tot (spot0 ⟨540, b, a, r⟩) l ∧
    0 ≤ tot (spot0 ⟨140, a, b, r⟩) l ∧ tot (spot0 ⟨440, a, b, r⟩) l ≤ 0 := by
  induction h with
  | nil => intro a b r; simp [tot]
  | pair l a0 b0 n r0 x y _ hp ih =>
    intro a b r
    obtain ⟨i1, i2, i3, i4⟩ := ih a b r
    obtain ⟨⟨u1, u2, u3, u4⟩, v1, v2, v3, v4⟩ := pair_acct hp
    obtain ⟨x1, _, _, _, x2, x3⟩ := hp.x
    obtain ⟨y1, _, _, _, y2, y3⟩ := hp.y
    have hn := hp.n0
    simp only [tot2, spot0_eq, u1, u2, u3, u4, v1, v2, v3, v4, x1, x2, x3, y1, y2, y3]
    by_cases hq : a = a0 ∧ b = b0 ∧ r = r0
    · have hq' : b = b0 ∧ a = a0 ∧ r = r0 := ⟨hq.2.1, hq.1, hq.2.2⟩
      rw [if_pos hq, if_pos hq, if_pos hq', if_pos hq']
      simp only [ite_self]
      omega
    · have hq' : ¬ (b = b0 ∧ a = a0 ∧ r = r0) := fun h => hq ⟨h.2.1, h.1, h.2.2⟩
      rw [if_neg hq, if_neg hq, if_neg hq', if_neg hq']
      simp only [ite_self]
      omega
  | one l p _ hp ih =>
    intro a b r
    obtain ⟨i1, i2, i3, i4⟩ := ih a b r
    simp only [tot1, spot0_eq, acctV_one hp (c := 140) (.inl rfl), acctV_one hp (c := 240) (.inr (.inl rfl)), acctV_one hp (c := 440) (.inr (.inr (.inl rfl))), acctV_one hp (c := 540) (.inr (.inr (.inr rfl))), ite_self]
    omega

theorem agr_accts {l : List TApiPosting} (h : AgrL l) : tot (acctV 140) l = -tot (acctV 240) l ∧ tot (acctV 440) l = -tot (acctV 540) l ∧ tot (acctV 140) l - tot (acctV 440) l = tot partV l := by
  induction h with
  | nil => simp [tot]
  | pair l a0 b0 n r0 x y _ hp ih =>
    obtain ⟨i1, i2, i3⟩ := ih
    obtain ⟨⟨u1, u2, u3, u4⟩, v1, v2, v3, v4⟩ := pair_acct hp
    have px : partV x = n := by unfold partV; rw [hp.x.2.2.2.2.1, hp.x.2.2.2.1, if_pos (by have := hp.ab; omega)]
    have py : partV y = n := by unfold partV; rw [hp.y.2.2.2.2.1, hp.y.2.2.2.1, if_pos (by have := hp.ab; omega)]
    simp only [tot2, u1, u2, u3, u4, v1, v2, v3, v4, px, py]
    omega
  | one l p _ hp ih =>
    obtain ⟨i1, i2, i3⟩ := ih
    have pp : partV p = 0 := by unfold partV; rw [hp.part]; simp
    simp only [tot1, acctV_one hp (c := 140) (.inl rfl), acctV_one hp (c := 240) (.inr (.inl rfl)), acctV_one hp (c := 440) (.inr (.inr (.inl rfl))), acctV_one hp (c := 540) (.inr (.inr (.inr rfl))), pp]
    omega

/-- What is known of each posting. -/
theorem agr_mem {l : List TApiPosting} (h : AgrL l) : ∀ p ∈ l, (1 ≤ p.Entity ∧ p.Entity ≤ 3 ∧ 1 ≤ p.Partner ∧ p.Partner ≤ 3 ∧ p.Entity ≠ p.Partner) ∨ OneOk p := by
  induction h with
  | nil => intro p hp; cases hp
  | pair l a0 b0 n r0 x y _ hp ih =>
    intro p hm
    rcases List.mem_append.1 hm with hm | hm
    · exact ih p hm
    · have := hp.ab
      have hx := hp.x
      have hy := hp.y
      simp at hm
      rcases hm with rfl | rfl
      · left; omega
      · left; omega
  | one l q _ hp ih =>
    intro p hm
    rcases List.mem_append.1 hm with hm | hm
    · exact ih p hm
    · simp at hm
      subst hm
      exact .inr hp

/-! ## Sums over the pairs of three entities -/
def sumR (F : Int → Int) : List Int → Int
  | [] => 0
  | r :: R => F r + sumR F R
def sumP (R : List Int) (F : Int → Int → Int → Int) : Int := sumR (F 1 2) R + sumR (F 1 3) R + sumR (F 2 1) R + sumR (F 2 3) R + sumR (F 3 1) R + sumR (F 3 2) R

theorem sumQ_app (f : Quad → Int) : ∀ a b : List Quad, sumQ f (a ++ b) = sumQ f a + sumQ f b
  | [], b => by simp [sumQ]
  | q :: a, b => by simp [sumQ, sumQ_app f a b]; omega
theorem sumQ_map (f : Quad → Int) (i : Nat) (a b : Int) : ∀ R : List Int, sumQ f (R.map fun r => (i, a, b, r)) = sumR (fun r => f (i, a, b, r)) R
  | [] => rfl
  | r :: R => by simp [sumQ, sumR, sumQ_map f i a b R]
theorem sumQ_quads3 (f : Quad → Int) (R : List Int) : sumQ f (quads R [1, 2, 3]) = sumP R (fun a b r => f (0, a, b, r)) + sumP R (fun a b r => f (1, a, b, r)) := by
  unfold quads sumP
  simp [List.range_succ, quadsB, sumQ_app, sumQ_map]
  omega
theorem sumR_congr {F G : Int → Int} (h : ∀ r, F r = G r) : ∀ R, sumR F R = sumR G R
  | [] => rfl
  | r :: R => by simp [sumR, h r, sumR_congr h R]
theorem sumP_congr {R : List Int} {F G : Int → Int → Int → Int} (h : ∀ a b r, F a b r = G a b r) : sumP R F = sumP R G := by
  unfold sumP
  simp only [fun a b => sumR_congr (h a b) R]
theorem sumR_neg (F : Int → Int) : ∀ R, sumR (fun r => -F r) R = -sumR F R
  | [] => rfl
  | r :: R => by simp only [sumR, sumR_neg F R]; omega
theorem sumP_neg (R : List Int) (F : Int → Int → Int → Int) : sumP R (fun a b r => -F a b r) = -sumP R F := by
  unfold sumP
  simp only [sumR_neg]
  omega
theorem sumP_swap (R : List Int) (F : Int → Int → Int → Int) : sumP R (fun a b r => F b a r) = sumP R F := by
  have e : ∀ a b : Int, sumR ((fun a b r => F b a r) a b) R = sumR (F b a) R := fun _ _ => rfl
  unfold sumP
  simp only [e]
  omega
theorem sumR_tot (h : Int → TApiPosting → Int) (l : List TApiPosting) : ∀ R, sumR (fun r => tot (h r) l) R = tot (fun p => sumR (fun r => h r p) R) l
  | [] => by simp only [sumR]; exact (tot_zero l).symm
  | r :: R => by
    simp only [sumR]
    rw [sumR_tot h l R, tot_add]
theorem sumP_tot (R : List Int) (h : Int → Int → Int → TApiPosting → Int) (l : List TApiPosting) : sumP R (fun a b r => tot (h a b r) l) = tot (fun p => sumP R fun a b r => h a b r p) l := by
  unfold sumP
  simp only [sumR_tot, tot_add]
theorem sumR_none {t X : Int} : ∀ {R : List Int}, t ∉ R → sumR (fun r => if r = t then X else 0) R = 0
  | [], _ => rfl
  | r :: R, h => by
    simp only [sumR]
    rw [if_neg (c := r = t) (fun e => h (by rw [e]; exact List.mem_cons_self)), sumR_none fun e => h (List.mem_cons_of_mem _ e)]
    rfl
theorem sumR_one {t X : Int} : ∀ {R : List Int}, R.Pairwise (· < ·) → t ∈ R → sumR (fun r => if r = t then X else 0) R = X
  | [], _, h => by cases h
  | r :: R, ha, h => by
    simp only [sumR]
    obtain ⟨h1, h2⟩ := List.pairwise_cons.1 ha
    by_cases e : r = t
    · subst e
      rw [if_pos rfl, sumR_none (fun h => by have := h1 r h; omega)]
      omega
    · rw [if_neg e, sumR_one h2 (by rcases List.mem_cons.1 h with h | h; exact absurd h.symm e; exact h)]
      omega
theorem sumR_zero : ∀ R, sumR (fun _ => 0) R = 0
  | [] => rfl
  | r :: R => by simp [sumR, sumR_zero R]

theorem sumP_spot {R : List Int} (ha : R.Pairwise (· < ·)) {p : TApiPosting} (hr : p.Ref ∈ R) {c : Int} (h : (1 ≤ p.Entity ∧ p.Entity ≤ 3 ∧ 1 ≤ p.Partner ∧ p.Partner ≤ 3 ∧ p.Entity ≠ p.Partner) ∨ acctV c p = 0) :
    sumP R (fun a b r => spot0 ⟨c, a, b, r⟩ p) = acctV c p := by
  rw [sumP_congr fun a b r => spot0_eq c a b r p]
  rcases h with h | h
  · have key : ∀ a b : Int, sumR (fun r => if a = p.Entity ∧ b = p.Partner ∧ r = p.Ref then acctV c p else 0) R = if a = p.Entity ∧ b = p.Partner then acctV c p else 0 := fun a b => by
      by_cases hq : a = p.Entity ∧ b = p.Partner
      · rw [if_pos hq, sumR_congr (G := fun r => if r = p.Ref then acctV c p else 0) fun r => by simp [hq.1, hq.2], sumR_one ha hr]
      · rw [if_neg hq, sumR_congr (G := fun _ => 0) fun r => if_neg fun e => hq ⟨e.1, e.2.1⟩, sumR_zero]
    unfold sumP
    simp only [key]
    generalize acctV c p = X
    obtain ⟨h1, h2, h3, h4, h5⟩ := h
    have e1 : p.Entity = 1 ∨ p.Entity = 2 ∨ p.Entity = 3 := by omega
    have e2 : p.Partner = 1 ∨ p.Partner = 2 ∨ p.Partner = 3 := by omega
    rcases e1 with e1 | e1 | e1 <;> rcases e2 with e2 | e2 | e2 <;> first | (exfalso; omega) | (simp [e1, e2])
  · rw [h]
    simp only [ite_self]
    unfold sumP
    simp [sumR_zero]

/-- The positions of an account add up to it. -/
theorem agr_sum {l : List TApiPosting} (h : AgrL l) {R : List Int} (hR : Refs l R) {c : Int} (hc : mutAcc c) : sumP R (fun a b r => tot (spot0 ⟨c, a, b, r⟩) l) = tot (acctV c) l := by
  rw [sumP_tot]
  refine tot_congr fun p hp => sumP_spot hR.asc ((hR.mem _).2 ⟨p, hp, rfl⟩) ?_
  rcases agr_mem h p hp with h1 | h1
  · exact .inl h1
  · exact .inr (acctV_one h1 hc)
end Go.Proofs.Ytkkdclpleghppaa
