/- A part of the proof: plain laws of what the functions compute. No condition. -/
import Derived.Test.YtkabfdfkegjfdaaGreatDoorP1
namespace Go.Proofs.YtkabfdfkegjfdaaGreatDoor
open Go Go.TA
/-- What is granted of what is free. -/
def gP (p : TApiPot) (k : Nat) (n : Int) : TApiPot := withG p (p.Granted.set k (p.Granted.getD k default + n))
def gT (t : TApiTreasury) (j k : Nat) (n : Int) : TApiTreasury := ⟨t.Offices, t.Pots.set j (gP (t.Pots.getD j default) k n)⟩
theorem grant_free {t : TApiTreasury} (h : TOk t) {j : Nat} (hj : j < t.Pots.length) (hs : (t.Pots.getD j default).Granted.sum ≤ 5000) {k n : Int} (hk : 1 ≤ k ∧ k ≤ t.Offices) (hn : 1 ≤ n ∧ n ≤ 5000)
    (hf : n ≤ (t.Pots.getD j default).Total - outV (t.Pots.getD j default)) :
    grantM t k (t.Pots.getD j default).Code (t.Pots.getD j default).Year n = (gT t j (k - 1).toNat n, 0) := by
  have hp := (h.2.2 j hj).1
  have l1 := hp.2.2.2.1.1.1
  rw [grant_at h hj hk (by omega), give_one (by omega), if_neg (show ¬ (t.Pots.getD j default).Total - outV (t.Pots.getD j default) < n by omega), if_neg (show ¬ 1000000000000000 < (t.Pots.getD j default).Granted.sum + n by omega), if_neg (show ¬ ((0 : Int) ≠ 0) from fun h => h rfl)]
  rfl
theorem gT_at {t : TApiTreasury} {j k : Nat} {n : Int} (hj : j < t.Pots.length) : (gT t j k n).Pots.getD j default = gP (t.Pots.getD j default) k n := by
  show (t.Pots.set j _).getD j default = _
  rw [getD_setP hj, if_pos rfl]
theorem gP_sum {p : TApiPot} {k : Nat} {n : Int} (hk : k < p.Granted.length) : (gP p k n).Granted.sum = p.Granted.sum + n := by
  show (p.Granted.set k _).sum = _
  rw [sum_set hk]; omega
theorem gP_gP {p : TApiPot} {k : Nat} {n m : Int} (hk : k < p.Granted.length) : gP (gP p k n) k m = gP p k (n + m) := by
  show withG (withG p _) ((p.Granted.set k (p.Granted.getD k default + n)).set k ((p.Granted.set k (p.Granted.getD k default + n)).getD k default + m)) = _
  rw [getD_set_int hk, if_pos rfl, List.set_set]
  unfold gP withG
  simp only [Int.add_assoc]
theorem grant_b1 {x : TApiTreasury} {s0 s : TTape} (hx : TOk x) (hl : Lim x 1500) (hs : TapeOk s) {j : Nat} (hj : j < x.Pots.length) :
    ∃ s', (S_w13_RightsGrant_b1 (x, s0) j s).den = some (.cont s') ∧ TapeOk s' := by
  have hp := (hx.2.2 j hj).1
  have hlj := hl j hj
  have ho := outV_nonneg hp
  have he := outV_eq hp
  have l1 := hp.2.2.2.1.1.1
  have hH := (sum_tot hp.2.2.2.1.2.1.2).1
  have ht := hp.2.2.1
  obtain ⟨v4, s1, q1, q2, q3⟩ := Range_spec (lo := 1) (hi := x.Offices) hs (by omega) hx.1.1 (by have := hx.1.2; omega)
  have hk : (v4 - 1).toNat < (x.Pots.getD j default).Granted.length := by omega
  simp only [S_w13_RightsGrant_b1, Scr.den, q1, obind, Free_eq]
  rw [wrapId (n := (x.Pots.getD j default).Total - outV (x.Pots.getD j default)) (by omega) (by omega)]
  generalize hn : (x.Pots.getD j default).Total - outV (x.Pots.getD j default) = n
  have hm : ((if 0 > n then 0 else n) : Int) + 1 = max n 0 + 1 := by rw [maxw]
  have h15 : grantM x v4 (x.Pots.getD j default).Code (x.Pots.getD j default).Year (max n 0 + 1) = (zT, 15) := by
    rw [grant_at hx hj q3 (by omega), give_one hk, hn, if_pos (show n < max n 0 + 1 by omega), if_pos (by simp)]
  rw [Grant_eq hx.small', show IntKind.i64.wrap ((if 0 > n then 0 else n) + 1) = max n 0 + 1 by rw [hm, wrapId (by omega) (by omega)], h15]
  simp only [obind]
  rw [if_neg (show ¬ ((15 : Int) != 15) = true by simp)]
  by_cases c1 : n < 1
  · rw [if_pos (show decide (n < 1) = true from decide_eq_true c1)]
    exact ⟨_, rfl, q2⟩
  · rw [if_neg (show ¬ decide (n < 1) = true by rw [decide_eq_true_eq]; exact c1)]
    have hy := grant_free hx hj (by omega) (k := v4) (n := n) q3 (by omega) (by omega)
    have hyk : TOk (gT x j (v4 - 1).toNat n) := by have := (grant_ok (t := x) (k := v4) (c := (x.Pots.getD j default).Code) (y := (x.Pots.getD j default).Year) (x := n) (by rw [hy])).2; rwa [hy] at this
    have hyl : j < (gT x j (v4 - 1).toNat n).Pots.length := by simpa [gT] using hj
    have hq := (hyk.2.2 j hyl).1
    obtain ⟨u1, u2⟩ := pot_uniq hyk hyl
    rw [gT_at hj] at u1 u2 hq
    have hqo := outV_eq hq
    rw [gP_sum hk] at hqo
    have hpot : potM (gT x j (v4 - 1).toNat n) (x.Pots.getD j default).Code (x.Pots.getD j default).Year = (gP (x.Pots.getD j default) (v4 - 1).toNat n, true) := by
      unfold potM potAt
      rw [if_pos (show hasP (gT x j (v4 - 1).toNat n).Pots (x.Pots.getD j default).Code (x.Pots.getD j default).Year = true from u1), show pix (gT x j (v4 - 1).toNat n).Pots (x.Pots.getD j default).Code (x.Pots.getD j default).Year = j from u2, gT_at hj]
    have hfree : (gP (x.Pots.getD j default) (v4 - 1).toNat n).Total - outV (gP (x.Pots.getD j default) (v4 - 1).toNat n) = 0 := by
      have e1 : (gP (x.Pots.getD j default) (v4 - 1).toNat n).Total = (x.Pots.getD j default).Total := rfl
      have e2 : (gP (x.Pots.getD j default) (v4 - 1).toNat n).Heard = (x.Pots.getD j default).Heard := rfl
      rw [e2] at hqo
      omega
    rw [Grant_eq hx.small', hy]
    simp only [obind]
    rw [Pot_eq hyk.small, hpot]
    simp only [obind, cond_or]
    rw [optD_pos (by exact ⟨rfl, trivial⟩), hfree, wrap_zero]
    simp only [obind]
    rw [optD_pos (by exact ⟨rfl, trivial⟩), Shortfall_eq, show outV (gP (x.Pots.getD j default) (v4 - 1).toNat n) - (gP (x.Pots.getD j default) (v4 - 1).toNat n).Total = 0 by omega, wrap_zero]
    simp only [obind]
    rw [optD_pos (by exact ⟨rfl, trivial⟩), r13_Valid_eq hyk.small', decide_eq_true hyk]
    simp only [obind]
    rw [if_neg (by decide)]
    by_cases c2 : 1 < n
    · rw [if_pos (show decide (n > 1) = true from decide_eq_true c2), wrapId (n := n - 1) (by omega) (by omega)]
      obtain ⟨a, s2, w1, w2, w3⟩ := Range_spec (lo := 1) (hi := n - 1) q2 (by omega) (by omega) (by omega)
      rw [w1]
      simp only [obind]
      have hu := grant_free hx hj (by omega) (k := v4) (n := a) q3 (by omega) (by omega)
      have huk : TOk (gT x j (v4 - 1).toNat a) := by have := (grant_ok (t := x) (k := v4) (c := (x.Pots.getD j default).Code) (y := (x.Pots.getD j default).Year) (x := a) (by rw [hu])).2; rwa [hu] at this
      have hul : j < (gT x j (v4 - 1).toNat a).Pots.length := by simpa [gT] using hj
      have hqu := (huk.2.2 j hul).1
      rw [gT_at hj] at hqu
      have hquo := outV_eq hqu
      rw [gP_sum hk] at hquo
      have hw := grant_free huk hul (k := v4) (n := n - a) (by rw [gT_at hj, gP_sum hk]; omega) q3 (by omega) (by
        rw [gT_at hj]
        have e1 : (gP (x.Pots.getD j default) (v4 - 1).toNat a).Total = (x.Pots.getD j default).Total := rfl
        have e2 : (gP (x.Pots.getD j default) (v4 - 1).toNat a).Heard = (x.Pots.getD j default).Heard := rfl
        rw [e2] at hquo
        omega)
      rw [gT_at hj] at hw
      have hww : gT (gT x j (v4 - 1).toNat a) j (v4 - 1).toNat (n - a) = gT x j (v4 - 1).toNat n := by
        show (⟨x.Offices, (x.Pots.set j _).set j (gP ((gT x j (v4 - 1).toNat a).Pots.getD j default) _ _)⟩ : TApiTreasury) = _
        rw [gT_at hj, gP_gP hk, List.set_set, show a + (n - a) = n by omega]
        rfl
      rw [Grant_eq hx.small', hu]
      simp only [obind]
      rw [wrapId (n := n - a) (by omega) (by omega), Grant_eq huk.small', show grantM (gT x j (v4 - 1).toNat a) v4 (x.Pots.getD j default).Code (x.Pots.getD j default).Year (n - a) = _ from hw, hww]
      simp only [obind]
      rw [optD_pos (by exact ⟨rfl, trivial⟩), Same_refl (by have := hyk.2.1; omega)]
      simp only [obind]
      rw [if_neg (by decide)]
      exact ⟨_, rfl, w2⟩
    · rw [if_neg (show ¬ decide (n > 1) = true by rw [decide_eq_true_eq]; exact c2)]
      exact ⟨_, rfl, q2⟩
theorem RightsGrant_eq (a : List Int) : F_w13_RightsGrant a = some true := by
  simp only [F_w13_RightsGrant, S_w13_RightsGrant, Scr.den]
  obtain ⟨s, h1, h2⟩ := New_spec a
  obtain ⟨k, s1, q1, q2, q3⟩ := Range_spec (lo := 1) (hi := 4) h2 (by omega) (by omega) (by omega)
  obtain ⟨x, s2, p1, p2, p3, p4, p5⟩ := mk_Treasury_spec q2 q3
  rw [h1]
  simp only [obind]
  rw [q1]
  simp only [obind]
  rw [p1]
  simp only [obind]
  obtain ⟨s', e, _⟩ := rangeM_inv (body := fun i s => (S_w13_RightsGrant_b1 (x, s2) i s).den) (n := x.Pots.length) (fun _ s => TapeOk s) (s0 := s2) p2 (fun i s hi hI => grant_b1 p3 p5 hI hi)
  rw [e]
  simp only [outM, awake_eq, obind]
theorem RightsGrant_true (a : List Int) : F_w13_RightsGrant a = some true := RightsGrant_eq a
end Go.Proofs.YtkabfdfkegjfdaaGreatDoor
namespace Go.Proofs.YtkabfdfkegjfdaaGreatDoor
open Go Go.TA
/-! ## Orders -/
def upTo (n : Nat) : List Int := (List.range n).map fun (i : Nat) => (i : Int)
theorem upTo_length {n : Nat} : (upTo n).length = n := by simp [upTo]
theorem mem_upTo {n : Nat} {x : Int} : x ∈ upTo n ↔ 0 ≤ x ∧ x < n := by
  simp only [upTo, List.mem_map, List.mem_range]
  constructor
  · rintro ⟨i, h, rfl⟩; omega
  · intro h; exact ⟨x.toNat, by omega, by omega⟩
theorem upTo_succ {n : Nat} : upTo (n + 1) = upTo n ++ [(n : Int)] := by simp [upTo, List.range_succ]
theorem order_first {n : Nat} (hn : n ≤ 1000) : iterM (fun s => (S_mk_Tape_Order_b1 (n : Int) s).den) (([] : List Int), (0 : Int)) = some (.next (upTo n, (n : Int))) := by
  obtain ⟨r, e, hJ⟩ := iterM_inv (step := fun s => (S_mk_Tape_Order_b1 (n : Int) s).den) (fun s : List Int × Int => ((n : Int) - s.2).toNat)
    (fun s => ∃ i : Nat, i ≤ n ∧ s = (upTo i, (i : Int))) (fun s => s = (upTo n, (n : Int))) (fun st hI => by
    obtain ⟨i, hi, rfl⟩ := hI
    simp only [S_mk_Tape_Order_b1, Scr.den]
    by_cases hc : i < n
    · left
      rw [if_pos (show decide ((i : Int) < n) = true from decide_eq_true (by omega)), guardP_pos (by simp only [AllP, and_true, upTo_length]; omega), wrapId (n := (i : Int) + 1) (by omega) (by omega)]
      exact ⟨_, rfl, ⟨i + 1, hc, by rw [upTo_succ]; rfl⟩, by show ((n : Int) - ((i : Int) + 1)).toNat < ((n : Int) - i).toNat; omega⟩
    · right
      obtain rfl : i = n := by omega
      rw [if_neg (show ¬ decide ((i : Int) < i) = true by simp)]
      exact ⟨_, rfl, rfl⟩) _ (([] : List Int), (0 : Int)) (Nat.lt_succ_self _) ⟨0, Nat.zero_le _, rfl⟩
  rw [e, hJ]
def swp (l : List Int) (i k : Nat) : List Int := (l.set i (l.getD k default)).set k (l.getD i default)
theorem swp_length {l : List Int} {i k : Nat} : (swp l i k).length = l.length := by simp [swp]
theorem swp_get {l : List Int} {i k j : Nat} (hj : j < l.length) : (swp l i k).getD j default = if j = k then l.getD i default else if j = i then l.getD k default else l.getD j default := by
  unfold swp
  rw [getD_set_int (by simpa using hj), getD_set_int hj]
theorem mem_swp {l : List Int} {i k : Nat} (hi : i < l.length) (hk : k < l.length) {x : Int} : x ∈ swp l i k ↔ x ∈ l := by
  constructor
  · intro h
    obtain ⟨j, hj, rfl⟩ := mem_getD h
    rw [swp_length] at hj
    rw [swp_get hj]
    split
    · exact getD_mem hi
    · split
      · exact getD_mem hk
      · exact getD_mem hj
  · intro h
    obtain ⟨j, hj, rfl⟩ := mem_getD h
    by_cases h1 : j = i
    · subst h1
      have := swp_get (l := l) (i := j) (k := k) hk
      rw [if_pos rfl] at this
      rw [← this]
      exact getD_mem (by rw [swp_length]; exact hk)
    · by_cases h2 : j = k
      · subst h2
        have := swp_get (l := l) (i := i) (k := j) hi
        rw [if_neg (fun e => h1 e.symm), if_pos rfl] at this
        rw [← this]
        exact getD_mem (by rw [swp_length]; exact hi)
      · have := swp_get (l := l) (i := i) (k := k) hj
        rw [if_neg h2, if_neg h1] at this
        rw [← this]
        exact getD_mem (by rw [swp_length]; exact hj)
theorem Order_spec {n : Nat} {s : TTape} (hs : TapeOk s) (hn : n ≤ 1000) : ∃ l s', F_mk_Tape_Order (n : Int) s = some (l, s') ∧ TapeOk s' ∧ l.length = n ∧ ∀ x, x ∈ l ↔ 0 ≤ x ∧ x < n := by
  simp only [F_mk_Tape_Order, S_mk_Tape_Order, Scr.den, order_first hn, outM]
  obtain ⟨r, e, hJ⟩ := iterM_inv (step := fun s => (S_mk_Tape_Order_b2 s).den) (fun s : TTape × List Int × Int => s.2.2.toNat)
    (fun s => TapeOk s.1 ∧ s.2.1.length = n ∧ (∀ x, x ∈ s.2.1 ↔ 0 ≤ x ∧ x < n) ∧ -1 ≤ s.2.2 ∧ s.2.2 < n)
    (fun s => TapeOk s.1 ∧ s.2.1.length = n ∧ ∀ x, x ∈ s.2.1 ↔ 0 ≤ x ∧ x < n) (fun st hI => by
    obtain ⟨t, l, i⟩ := st
    obtain ⟨i1, i2, i3, i4, i5⟩ := hI
    simp only at i1 i2 i3 i4 i5
    simp only [S_mk_Tape_Order_b2, Scr.den]
    by_cases hi : 0 < i
    · left
      rw [if_pos (show decide (i > 0) = true from decide_eq_true hi), wrapId (n := i + 1) (by omega) (by omega)]
      obtain ⟨v, t1, q1, q2, q3, q4⟩ := N_spec (n := i + 1) i1 (by omega) (by omega)
      rw [q1]
      simp only [obind, Nat.zero_add, List.length_set]
      rw [guardP_pos (by simp only [AllP, and_true]; omega), wrapId (n := i - 1) (by omega) (by omega)]
      refine ⟨_, rfl, ⟨q2, ?_, ?_, ?_, ?_⟩, ?_⟩
      · show (swp l i.toNat v.toNat).length = n
        rw [swp_length, i2]
      · intro x
        show x ∈ swp l i.toNat v.toNat ↔ _
        rw [mem_swp (by omega) (by omega), i3]
      · show -1 ≤ i - 1; omega
      · show i - 1 < n; omega
      · show (i - 1).toNat < i.toNat; omega
    · right
      rw [if_neg (show ¬ decide (i > 0) = true by rw [decide_eq_true_eq]; exact hi)]
      exact ⟨_, rfl, i1, i2, i3⟩) _ (s, upTo n, (n : Int) - 1) (Nat.lt_succ_self _)
    ⟨hs, upTo_length, fun x => mem_upTo, by show -1 ≤ (n : Int) - 1; omega, by show (n : Int) - 1 < n; omega⟩
  rw [wrapId (n := (n : Int) - 1) (by omega) (by omega), e]
  simp only
  obtain ⟨h1, h2, h3⟩ := hJ
  rw [guardP_pos (by simp only [AllP, and_true]; omega)]
  exact ⟨_, _, rfl, h1, h2, h3⟩
/-! ## The greatest of what is learnt -/
section
variable {σ ρ : Type}
theorem max_loop {body : Nat → σ → Option (Step σ ρ)} {n : Nat} (st : Int → σ) (f : Nat → Int) (g : Int) (hf : ∀ i, i < n → 0 ≤ f i ∧ f i ≤ g)
    (hb : ∀ i v, i < n → 0 ≤ v → v ≤ g → body i (st v) = some (.cont (st (max v (f i))))) {v0 : Int} (h0 : 0 ≤ v0 ∧ v0 ≤ g) :
    ∃ v, rangeM body n 0 (st v0) = some (.next (st v)) ∧ v0 ≤ v ∧ v ≤ g ∧ ∀ i, i < n → f i ≤ v := by
  obtain ⟨s, e, v, h1, h2, h3, h4⟩ := rangeM_inv (body := body) (n := n) (fun i s => ∃ v, s = st v ∧ v0 ≤ v ∧ v ≤ g ∧ ∀ j, j < i → f j ≤ v) (s0 := st v0) ⟨v0, rfl, Int.le_refl _, h0.2, fun j hj => by omega⟩ (fun i s hi hI => by
    obtain ⟨v, rfl, k1, k2, k3⟩ := hI
    have := hf i hi
    refine ⟨_, hb i v hi (by omega) k2, max v (f i), rfl, by omega, by omega, fun j hj => ?_⟩
    by_cases e : j = i
    · subst e; omega
    · have := k3 j (by omega); omega)
  subst h1
  exact ⟨v, e, h2, h3, h4⟩
theorem two_loop {step : TTape × σ × Int → Option (Step (TTape × σ × Int) ρ)} (st : Int → σ) (F : Nat → Int) (N : Nat) (g : Int) (h0 : 0 ≤ g) (hg : g = 0 ∨ ∃ i, i < N ∧ F i = g)
    (hstep : ∀ s v i, TapeOk s → 0 ≤ v → v ≤ g → 0 ≤ i → i < 2 → ∃ s' v', step (s, st v, i) = some (.cont (s', st v', i + 1)) ∧ TapeOk s' ∧ v ≤ v' ∧ v' ≤ g ∧ ∀ i, i < N → F i ≤ v')
    (hend : ∀ s x, step (s, x, 2) = some (.brk (s, x, 2))) {s : TTape} (hs : TapeOk s) : ∃ s', iterM step (s, st 0, 0) = some (.next (s', st g, 2)) ∧ TapeOk s' := by
  obtain ⟨r, e, s', h1, h2⟩ := iterM_inv (step := step) (fun s : TTape × σ × Int => (2 - s.2.2).toNat)
    (fun s => ∃ v, s.2.1 = st v ∧ TapeOk s.1 ∧ 0 ≤ s.2.2 ∧ s.2.2 ≤ 2 ∧ 0 ≤ v ∧ v ≤ g ∧ (s.2.2 = 0 ∨ v = g)) (fun s => ∃ s', s = (s', st g, 2) ∧ TapeOk s') (fun x hI => by
    obtain ⟨s, y, i⟩ := x
    obtain ⟨v, k1, k2, k3, k4, k5, k6, k7⟩ := hI
    simp only at k1 k2 k3 k4 k7
    subst k1
    by_cases hi : i < 2
    · left
      obtain ⟨s', v', e, j1, j2, j3, j4⟩ := hstep s v i k2 k5 k6 k3 hi
      refine ⟨_, e, ⟨v', rfl, j1, by show 0 ≤ i + 1; omega, by show i + 1 ≤ 2; omega, by omega, j3, .inr ?_⟩, by show (2 - (i + 1)).toNat < (2 - i).toNat; omega⟩
      rcases hg with hg | ⟨q, hq, hF⟩
      · omega
      · have := j4 q hq; omega
    · right
      obtain rfl : i = 2 := by omega
      obtain rfl : v = g := by rcases k7 with h | h; · exact absurd h (by decide)
                               · exact h
      exact ⟨_, hend s _, s, rfl, k2⟩) _ (s, st 0, 0) (Nat.lt_succ_self _) ⟨0, rfl, hs, by simp, by simp, by simp, h0, .inl rfl⟩
  subst h1
  exact ⟨s', e, h2⟩
end
end Go.Proofs.YtkabfdfkegjfdaaGreatDoor
namespace Go.Proofs.YtkabfdfkegjfdaaGreatDoor
open Go Go.TA
/-! ## Two offices, one pot -/
def xC (g h : Int) : TApiTreasury := xT (xP 5000 [g, 0] [h, 0] [0, 0] [0, 0])
theorem good1 : good [49] = true := by kernel_rfl
theorem row2 {a b : Int} (ha : tot a) (hb : tot b) : rowOk 2 [a, b] := ⟨rfl, fun x hx => by
  simp only [List.mem_cons, List.not_mem_nil, or_false] at hx
  rcases hx with rfl | rfl
  · exact ha
  · exact hb⟩
theorem leRow2 {a b c d : Int} (h1 : a ≤ c) (h2 : b ≤ d) : leRow [a, b] [c, d] := fun i hi => by
  match i, hi with
  | 0, _ => exact h1
  | 1, _ => exact h2
  | n + 2, h => simp only [List.length_cons, List.length_nil] at h; omega
theorem xC_ok {g h : Int} (h1 : 0 ≤ h) (h2 : h ≤ g) (h3 : g ≤ 5000) : TOk (xC g h) := by
  refine ⟨⟨by simp [xC, xT], by simp [xC, xT]⟩, by simp [xC, xT], fun i hi => ?_⟩
  obtain rfl : i = 0 := by simpa [xC, xT] using hi
  refine ⟨⟨good1, ⟨by show (0 : Int) ≤ 12; decide, by show (12 : Int) ≤ 99; decide⟩, ⟨by show (-1000000000000000 : Int) ≤ 5000; decide, by show (5000 : Int) ≤ 1000000000000000; decide⟩, ⟨row2 ⟨by omega, by omega⟩ tot_zero, row2 ⟨by omega, by omega⟩ tot_zero, row2 tot_zero tot_zero, row2 tot_zero tot_zero⟩, ⟨leRow2 h2 (Int.le_refl _), leRow2 (by omega) (Int.le_refl _)⟩, ?_⟩, fun h => absurd h (Nat.lt_irrefl 0)⟩
  show ([g, 0] : List Int).sum ≤ _
  simp
  omega
theorem xC_has {g h : Int} (h1 : 0 ≤ h) (h2 : h ≤ g) (h3 : g ≤ 5000) : hasP (xC g h).Pots [49] 12 = true ∧ pix (xC g h).Pots [49] 12 = 0 :=
  pot_uniq (xC_ok h1 h2 h3) (j := 0) (by simp [xC, xT])
theorem xC_small (g h : Int) : Small (xC g h) := xs _ rfl
theorem xC_pot {g h : Int} (h1 : 0 ≤ h) (h2 : h ≤ g) (h3 : g ≤ 5000) : potAt (xC g h) [49] 12 = xP 5000 [g, 0] [h, 0] [0, 0] [0, 0] := by
  unfold potAt
  rw [(xC_has h1 h2 h3).2]
  rfl
theorem xC_out {n g h : Int} {a u : List Int} : outV (xP n [g, 0] [h, 0] a u) = g - h := by
  show ([g, 0] : List Int).sum - ([h, 0] : List Int).sum = _
  simp
theorem c_set : setM ⟨2, []⟩ [49] 12 5000 = (xC 0 0, 0) := by kernel_rfl
theorem c_grant {g v : Int} (h1 : 0 ≤ g) (h2 : g ≤ 800) (h3 : 1 ≤ v ∧ v ≤ 200) : grantM (xC g 0) 1 [49] 12 v = (xC (g + v) 0, 0) :=
  grant_free (t := xC g 0) (j := 0) (k := 1) (n := v) (xC_ok (Int.le_refl 0) h1 (by omega)) (by simp [xC, xT]) (by show ([g, 0] : List Int).sum ≤ _; simp; omega) ⟨by decide, by show (1 : Int) ≤ 2; decide⟩ (by omega)
    (by show v ≤ 5000 - outV (xP 5000 [g, 0] [0, 0] [0, 0] [0, 0]); rw [xC_out]; omega)
def tm (g : Int) : TApiMessage := ⟨0, 1, [49], 12, g, 0, 0, 0⟩
def sm1 (r : Int) : TApiMessage := ⟨1, 0, [49], 12, 0, 0, r, 0⟩
theorem c_tell {g : Int} (h1 : 0 ≤ g) (h2 : g ≤ 5000) : tellM (xC g 0) 1 [49] 12 = (tm g, 0) := by
  unfold tellM
  rw [if_neg (show ¬ ¬ TOk (xC g 0) from fun h => h (xC_ok (Int.le_refl 0) h1 h2)), if_neg (show ¬ ¬ (hasP (xC g 0).Pots [49] 12 = true ∧ (1 : Int) ≤ 1 ∧ 1 ≤ (xC g 0).Offices) from fun h => h ⟨(xC_has (Int.le_refl 0) h1 h2).1, by decide, by show (1 : Int) ≤ 2; decide⟩), xC_pot (Int.le_refl 0) h1 h2]
  rfl
theorem c_hear {g h v : Int} (h1 : 0 ≤ h) (h2 : h ≤ g) (h3 : g ≤ 5000) (h4 : 0 ≤ v ∧ v ≤ g) : hearM (xC g h) (sm1 v) = (xC g (max h v), 0) := by
  unfold hearM
  rw [if_neg (show ¬ (sm1 v).To ≠ 0 from fun h => h rfl), if_neg (show ¬ ¬ TOk (xC g h) from fun k => k (xC_ok h1 h2 h3)), if_neg (show ¬ ¬ hasP (xC g h).Pots (sm1 v).Code (sm1 v).Year = true from fun k => k (xC_has h1 h2 h3).1),
    if_neg (show ¬ ¬ ((1 : Int) ≤ (sm1 v).From ∧ (sm1 v).From ≤ (xC g h).Offices) from fun k => k ⟨by show (1 : Int) ≤ 1; decide, by show (1 : Int) ≤ 2; decide⟩), show potAt (xC g h) (sm1 v).Code (sm1 v).Year = _ from xC_pot h1 h2 h3, if_neg (show ¬ ¬ ((0 ≤ (sm1 v).Returned ∧ (sm1 v).Returned ≤ nth (xP 5000 [g, 0] [h, 0] [0, 0] [0, 0]).Granted (sm1 v).From) ∧ tot (sm1 v).Used) from fun k => k ⟨h4, tot_zero⟩)]
  unfold putP
  rw [show pix (xC g h).Pots (sm1 v).Code (sm1 v).Year = 0 from (xC_has h1 h2 h3).2]
  rfl
theorem xR_ok {g a r : Int} (hg : 0 ≤ g ∧ g ≤ 5000) (ha : 0 ≤ a ∧ a ≤ 5000) (hr : 0 ≤ r ∧ r ≤ g) : RtOk (xR g a r) := ⟨good1, ⟨by show (0 : Int) ≤ 12; decide, by show (12 : Int) ≤ 99; decide⟩, ⟨hg.1, by show g ≤ _; omega⟩, ⟨ha.1, by show a ≤ _; omega⟩, hr⟩
theorem c_learn {v g : Int} (hv : 0 ≤ v ∧ v ≤ 5000) (hg : 0 ≤ g ∧ g ≤ 5000) : learnS (xR v 0 0) (tm g) = (xR (max v g) 0 0, 0) := by
  unfold learnS
  rw [if_neg (show ¬ ¬ (RtOk (xR v 0 0) ∧ (tm g).From = 0 ∧ (tm g).Code = (xR v 0 0).Code ∧ (tm g).Year = (xR v 0 0).Year) from fun h => h ⟨xR_ok hv (by decide) ⟨Int.le_refl 0, hv.1⟩, rfl, rfl, rfl⟩), if_neg (show ¬ ¬ (tot (tm g).Granted ∧ tot (tm g).Asked) from fun h => h ⟨⟨hg.1, by show g ≤ _; omega⟩, tot_zero⟩)]
  have e : (if (tm g).Granted > (xR v 0 0).Granted then (tm g).Granted else (xR v 0 0).Granted) = max v g := maxE g v
  rw [e]
  rfl
theorem c_return {g r n : Int} (hg : 0 ≤ g ∧ g ≤ 5000) (hr : 0 ≤ r ∧ r ≤ g) (hn : 1 ≤ n ∧ n ≤ 60) : returnS (xR g 0 r) 0 n = if n > g - r then (noR, 15) else (xR g 0 (r + n), 0) := by
  unfold returnS
  have e1 : IntKind.i64.wrap ((xR g 0 r).Granted - (xR g 0 r).Returned) = g - r := wrapId (by show _ ≤ g - r; omega) (by show g - r < _; omega)
  rw [e1, if_neg (show ¬ ¬ (RtOk (xR g 0 r) ∧ ((0 : Int) ≤ 0 ∧ 0 ≤ g - r)) from fun h => h ⟨xR_ok hg (by decide) hr, by decide, by omega⟩), if_neg (show ¬ ¬ (1 ≤ n ∧ n ≤ 1000000000000000) from fun h => h (by omega)), wrapId (n := g - r - 0) (by omega) (by omega), Int.sub_zero]
  split
  · rfl
  · have e2 : IntKind.i64.wrap ((xR g 0 r).Returned + n) = r + n := wrapId (by show _ ≤ r + n; omega) (by show r + n < _; omega)
    rw [e2]
    rfl
/-! ## What is told, what is said -/
def Told (f : Int → TApiMessage) (l : List TApiMessage) (g : Int) : Prop := (∀ m ∈ l, ∃ v, m = f v ∧ 0 ≤ v ∧ v ≤ g) ∧ (g = 0 ∨ f g ∈ l)
theorem told_nil (f : Int → TApiMessage) : Told f [] 0 := ⟨fun _m h => absurd h List.not_mem_nil, Or.inl rfl⟩
theorem Told.add {f : Int → TApiMessage} {l : List TApiMessage} {g g' : Int} (h : Told f l g) (h0 : 0 ≤ g) (hg : g ≤ g') : Told f (l ++ [f g']) g' := ⟨fun m hm => by
  rcases List.mem_append.1 hm with hm | hm
  · obtain ⟨v, h1, h2, h3⟩ := h.1 m hm
    exact ⟨v, h1, h2, by omega⟩
  · obtain rfl : m = f g' := by simpa using hm
    exact ⟨g', rfl, by omega, Int.le_refl _⟩, .inr (by simp)⟩
theorem told_loop {s : TTape} {k : Int} (hs : TapeOk s) (hk : 0 ≤ k ∧ k ≤ 5) :
    ∃ s' g told i, iterM (fun s => (S_w13_RightsCounters_b1 s).den) (s, xC 0 0, ([] : List TApiMessage), k) = some (.next (s', xC g 0, told, i)) ∧ TapeOk s' ∧ 0 ≤ g ∧ g ≤ 1000 ∧ Told tm told g ∧ told.length ≤ 5 := by
  obtain ⟨r, e, g, j1, j2, j3, j4, j5, j6⟩ := iterM_inv (step := fun s => (S_w13_RightsCounters_b1 s).den) (fun s : TTape × TApiTreasury × List TApiMessage × Int => s.2.2.2.toNat)
    (fun s => ∃ g, s.2.1 = xC g 0 ∧ TapeOk s.1 ∧ 0 ≤ g ∧ g ≤ 200 * (5 - s.2.2.2) ∧ Told tm s.2.2.1 g ∧ (s.2.2.1.length : Int) + s.2.2.2 ≤ 5 ∧ 0 ≤ s.2.2.2)
    (fun s => ∃ g, s.2.1 = xC g 0 ∧ TapeOk s.1 ∧ 0 ≤ g ∧ g ≤ 1000 ∧ Told tm s.2.2.1 g ∧ s.2.2.1.length ≤ 5) (fun st hI => by
    obtain ⟨s, x, told, i⟩ := st
    obtain ⟨g, k1, k2, k3, k4, k5, k6, k7⟩ := hI
    simp only at k1 k2 k4 k5 k6 k7
    subst k1
    simp only [S_w13_RightsCounters_b1, Scr.den, cond_or]
    by_cases hi : 0 < i
    · left
      obtain ⟨v, t1, q1, q2, q3⟩ := Range_spec (lo := 1) (hi := 200) k2 (by omega) (by omega) (by omega)
      rw [if_pos (show decide (i > 0) = true from decide_eq_true hi), q1]
      simp only [obind]
      rw [Grant_eq (xC_small _ _), c_grant k3 (by omega) q3]
      simp only [obind]
      rw [Tell_eq (xC_small _ _), c_tell (by omega) (by omega)]
      simp only [obind]
      rw [if_neg (by decide), guardP_pos (by simp only [AllP, and_true]; omega), wrapId (n := i - 1) (by omega) (by omega)]
      refine ⟨_, rfl, ⟨g + v, rfl, q2, by omega, by show g + v ≤ 200 * (5 - (i - 1)); omega, k5.add k3 (by omega), by show ((told ++ [tm (g + v)]).length : Int) + (i - 1) ≤ 5; simp only [List.length_append, List.length_cons, List.length_nil]; omega, by show 0 ≤ i - 1; omega⟩, by show (i - 1).toNat < i.toNat; omega⟩
    · right
      rw [if_neg (show ¬ decide (i > 0) = true by rw [decide_eq_true_eq]; exact hi)]
      exact ⟨_, rfl, g, rfl, k2, k3, by omega, k5, by show told.length ≤ 5; omega⟩) _ (s, xC 0 0, ([] : List TApiMessage), k) (Nat.lt_succ_self _) ⟨0, rfl, hs, Int.le_refl _, by show 0 ≤ 200 * (5 - k); omega, told_nil _, by show ((0 : Nat) : Int) + k ≤ 5; omega, hk.1⟩
  obtain ⟨s', x, told, i⟩ := r
  simp only at j1
  subst j1
  exact ⟨s', g, told, i, e, j2, j3, j4, j5, j6⟩
theorem said_loop {A : TTape × TApiTreasury × List TApiMessage × Int} {B : TTape × TApiRight × Int} {s : TTape} {k g : Int} (hs : TapeOk s) (hk : 0 ≤ k ∧ k ≤ 5) (hg : 0 ≤ g ∧ g ≤ 1000) :
    ∃ s' r said i, iterM (fun s => (S_w13_RightsCounters_b5 A B s).den) (s, xR g 0 0, ([] : List TApiMessage), k) = some (.next (s', xR g 0 r, said, i)) ∧ TapeOk s' ∧ 0 ≤ r ∧ r ≤ g ∧ Told sm1 said r ∧ said.length ≤ 5 := by
  obtain ⟨r, e, g', j1, j2, j3, j4, j5, j6⟩ := iterM_inv (step := fun s => (S_w13_RightsCounters_b5 A B s).den) (fun s : TTape × TApiRight × List TApiMessage × Int => s.2.2.2.toNat)
    (fun s => ∃ r, s.2.1 = xR g 0 r ∧ TapeOk s.1 ∧ 0 ≤ r ∧ r ≤ g ∧ Told sm1 s.2.2.1 r ∧ (s.2.2.1.length : Int) + s.2.2.2 ≤ 5 ∧ 0 ≤ s.2.2.2)
    (fun s => ∃ r, s.2.1 = xR g 0 r ∧ TapeOk s.1 ∧ 0 ≤ r ∧ r ≤ g ∧ Told sm1 s.2.2.1 r ∧ s.2.2.1.length ≤ 5) (fun st hI => by
    obtain ⟨s, x, said, i⟩ := st
    obtain ⟨r, k1, k2, k3, k4, k5, k6, k7⟩ := hI
    simp only at k1 k2 k5 k6 k7
    subst k1
    simp only [S_w13_RightsCounters_b5, Scr.den]
    by_cases hi : 0 < i
    · obtain ⟨v, t1, q1, q2, q3⟩ := Range_spec (lo := 1) (hi := 60) k2 (by omega) (by omega) (by omega)
      rw [if_pos (show decide (i > 0) = true from decide_eq_true hi), q1]
      simp only [obind]
      rw [rights_Return_eq (show ([49] : List UInt8).length ≤ 1000000 by simp), c_return (by omega) ⟨k3, k4⟩ q3]
      simp only [obind]
      by_cases hc : v > g - r
      · right
        rw [if_pos hc, if_pos (by decide)]
        exact ⟨_, rfl, r, rfl, q2, k3, k4, k5, by show said.length ≤ 5; omega⟩
      · left
        rw [if_neg hc]
        dsimp only
        rw [if_neg (by decide), guardP_pos (by simp only [AllP, and_true]; omega), wrapId (n := i - 1) (by omega) (by omega)]
        refine ⟨_, rfl, ⟨r + v, rfl, q2, by omega, by omega, (show Told sm1 (said ++ [sm1 (r + v)]) (r + v) from k5.add k3 (by omega)), by show ((said ++ [sm1 (r + v)]).length : Int) + (i - 1) ≤ 5; simp only [List.length_append, List.length_cons, List.length_nil]; omega, by show 0 ≤ i - 1; omega⟩, by show (i - 1).toNat < i.toNat; omega⟩
    · right
      rw [if_neg (show ¬ decide (i > 0) = true by rw [decide_eq_true_eq]; exact hi)]
      exact ⟨_, rfl, r, rfl, k2, k3, k4, k5, by show said.length ≤ 5; omega⟩) _ (s, xR g 0 0, ([] : List TApiMessage), k) (Nat.lt_succ_self _) ⟨0, rfl, hs, Int.le_refl _, hg.1, told_nil _, by show ((0 : Nat) : Int) + k ≤ 5; omega, hk.1⟩
  obtain ⟨s', x, said, i⟩ := r
  simp only at j1
  subst j1
  exact ⟨s', g', said, i, e, j2, j3, j4, j5, j6⟩
/-! ## In any order -/
theorem Told.at {f : Int → TApiMessage} {l : List TApiMessage} {g : Int} (h : Told f l g) {i : Nat} (hi : i < l.length) : ∃ v, l.getD i default = f v ∧ 0 ≤ v ∧ v ≤ g := h.1 _ (getD_mem hi)
theorem Told.ex {f : Int → TApiMessage} {l : List TApiMessage} {g : Int} (h : Told f l g) (F : TApiMessage → Int) (hF : ∀ v, F (f v) = v) : g = 0 ∨ ∃ i, i < l.length ∧ F (l.getD i default) = g := by
  rcases h.2 with h | h
  · exact .inl h
  · obtain ⟨i, hi, e⟩ := mem_getD h
    exact .inr ⟨i, hi, by rw [e]; exact hF g⟩
theorem learn_in {A : TTape × TApiTreasury × List TApiMessage × Int} {g : Int} (hg : 0 ≤ g ∧ g ≤ 1000) (hA : Told tm A.2.2.1 g) :
    rangeM (fun i s => (S_w13_RightsCounters_b2 A i s).den) A.2.2.1.length 0 (xR 0 0 0) = some (.next (xR g 0 0)) := by
  obtain ⟨v, e, h1, h2, h3⟩ := max_loop (body := fun i s => (S_w13_RightsCounters_b2 A i s).den) (n := A.2.2.1.length) (fun v => xR v 0 0) (fun i => (A.2.2.1.getD i default).Granted) g (fun i hi => by
    obtain ⟨v, e, h⟩ := hA.at hi
    rw [e]; exact h) (fun i v hi h0 h1 => by
    obtain ⟨w, e, k1, k2⟩ := hA.at hi
    simp only [S_w13_RightsCounters_b2, Scr.den, Nat.zero_add]
    rw [guardP_pos (by simp only [AllP, and_true]; exact hi), e, rights_Learn_eq (show ([49] : List UInt8).length ≤ 1000000 by simp), c_learn (by omega) (by omega)]
    simp only [obind]
    rw [if_neg (by decide)]
    rfl) (v0 := 0) ⟨Int.le_refl _, hg.1⟩
  have : v = g := by
    rcases hA.ex TApiMessage.Granted (fun _ => rfl) with h | ⟨i, hi, e⟩
    · omega
    · have := h3 i hi; rw [e] at this; omega
  rw [e, this]
theorem learn_any {A : TTape × TApiTreasury × List TApiMessage × Int} {g : Int} (hg : 0 ≤ g ∧ g ≤ 1000) (hA : Told tm A.2.2.1 g) (hl : A.2.2.1.length ≤ 5) {s : TTape} (hs : TapeOk s) :
    ∃ s', iterM (fun s => (S_w13_RightsCounters_b4 A s).den) (s, xR 0 0 0, 0) = some (.next (s', xR g 0 0, 2)) ∧ TapeOk s' := by
  refine two_loop (step := fun s => (S_w13_RightsCounters_b4 A s).den) (fun v => xR v 0 0) (fun i => (A.2.2.1.getD i default).Granted) A.2.2.1.length g hg.1 (hA.ex TApiMessage.Granted fun _ => rfl) (fun s v i hs h0 h1 h2 h3 => ?_) (fun s x => ?_) hs
  · obtain ⟨l, s', e, k1, k2, k3⟩ := Order_spec (n := A.2.2.1.length) hs (by omega)
    have hin : ∀ i, i < l.length → 0 ≤ l.getD i default ∧ (l.getD i default).toNat < A.2.2.1.length := fun i hi => by
      have := (k3 _).1 (getD_mem hi); omega
    obtain ⟨v', e2, j1, j2, j3⟩ := max_loop (body := fun i s => (S_w13_RightsCounters_b3 A (l, s') i s).den) (n := l.length) (fun v => xR v 0 0) (fun i => (A.2.2.1.getD (l.getD i default).toNat default).Granted) g (fun i hi => by
      obtain ⟨v, e, h⟩ := hA.at (hin i hi).2
      rw [e]; exact h) (fun i v hi h0 h1 => by
      obtain ⟨w, e, q1, q2⟩ := hA.at (hin i hi).2
      simp only [S_w13_RightsCounters_b3, Scr.den, Nat.zero_add]
      rw [e, rights_Learn_eq (show ([49] : List UInt8).length ≤ 1000000 by simp), c_learn (by omega) (by omega)]
      simp only [obind]
      rw [guardP_pos (by simp only [AllP, and_true]; exact ⟨(hin i hi).1, (hin i hi).2, (hin i hi).2⟩)]
      rfl) (v0 := v) ⟨h0, h1⟩
    refine ⟨s', v', ?_, k1, j1, j2, fun i hi => ?_⟩
    · simp only [S_w13_RightsCounters_b4, Scr.den]
      rw [if_pos (show decide (i < 2) = true from decide_eq_true h3), e]
      simp only [obind]
      rw [e2]
      simp only [outM]
      rw [wrapId (n := i + 1) (by omega) (by omega)]
    · obtain ⟨j, hj, ej⟩ := mem_getD ((k3 (i : Int)).2 (by omega))
      have := j3 j hj
      rw [ej, Int.toNat_natCast] at this
      exact this
  · simp only [S_w13_RightsCounters_b4, Scr.den]
    rw [if_neg (show ¬ decide ((2 : Int) < 2) = true by decide)]
end Go.Proofs.YtkabfdfkegjfdaaGreatDoor
namespace Go.Proofs.YtkabfdfkegjfdaaGreatDoor
open Go Go.TA
theorem hear_in {A : TTape × TApiRight × List TApiMessage × Int} {g r : Int} (hg : 0 ≤ g ∧ g ≤ 1000) (hr : 0 ≤ r ∧ r ≤ g) (hA : Told sm1 A.2.2.1 r) :
    rangeM (fun i s => (S_w13_RightsCounters_b6 A i s).den) A.2.2.1.length 0 (xC g 0) = some (.next (xC g r)) := by
  obtain ⟨v, e, h1, h2, h3⟩ := max_loop (body := fun i s => (S_w13_RightsCounters_b6 A i s).den) (n := A.2.2.1.length) (fun v => xC g v) (fun i => (A.2.2.1.getD i default).Returned) r (fun i hi => by
    obtain ⟨v, e, h⟩ := hA.at hi
    rw [e]; exact h) (fun i v hi h0 h1 => by
    obtain ⟨w, e, k1, k2⟩ := hA.at hi
    simp only [S_w13_RightsCounters_b6, Scr.den, Nat.zero_add]
    rw [guardP_pos (by simp only [AllP, and_true]; exact hi), e, Hear_eq (xC_small _ _), c_hear h0 (by omega) (by omega) (by omega)]
    rfl) (v0 := 0) ⟨Int.le_refl _, hr.1⟩
  have : v = r := by
    rcases hA.ex TApiMessage.Returned (fun _ => rfl) with h | ⟨i, hi, e⟩
    · omega
    · have := h3 i hi; rw [e] at this; omega
  rw [e, this]
theorem hear_any {A : TTape × TApiRight × List TApiMessage × Int} {g r : Int} (hg : 0 ≤ g ∧ g ≤ 1000) (hr : 0 ≤ r ∧ r ≤ g) (hA : Told sm1 A.2.2.1 r) (hl : A.2.2.1.length ≤ 5) {s : TTape} (hs : TapeOk s) :
    ∃ s', iterM (fun s => (S_w13_RightsCounters_b8 A s).den) (s, xC g 0, 0) = some (.next (s', xC g r, 2)) ∧ TapeOk s' := by
  refine two_loop (step := fun s => (S_w13_RightsCounters_b8 A s).den) (fun v => xC g v) (fun i => (A.2.2.1.getD i default).Returned) A.2.2.1.length r hr.1 (hA.ex TApiMessage.Returned fun _ => rfl) (fun s v i hs h0 h1 h2 h3 => ?_) (fun s x => ?_) hs
  · obtain ⟨l, s', e, k1, k2, k3⟩ := Order_spec (n := A.2.2.1.length) hs (by omega)
    have hin : ∀ i, i < l.length → 0 ≤ l.getD i default ∧ (l.getD i default).toNat < A.2.2.1.length := fun i hi => by
      have := (k3 _).1 (getD_mem hi); omega
    obtain ⟨v', e2, j1, j2, j3⟩ := max_loop (body := fun i s => (S_w13_RightsCounters_b7 A (l, s') i s).den) (n := l.length) (fun v => xC g v) (fun i => (A.2.2.1.getD (l.getD i default).toNat default).Returned) r (fun i hi => by
      obtain ⟨v, e, h⟩ := hA.at (hin i hi).2
      rw [e]; exact h) (fun i v hi h0 h1 => by
      obtain ⟨w, e, q1, q2⟩ := hA.at (hin i hi).2
      simp only [S_w13_RightsCounters_b7, Scr.den, Nat.zero_add]
      rw [e, Hear_eq (xC_small _ _), c_hear h0 (by omega) (by omega) (by omega)]
      simp only [obind]
      rw [guardP_pos (by simp only [AllP, and_true]; exact ⟨(hin i hi).1, (hin i hi).2, (hin i hi).2⟩)]
      rfl) (v0 := v) ⟨h0, h1⟩
    refine ⟨s', v', ?_, k1, j1, j2, fun i hi => ?_⟩
    · simp only [S_w13_RightsCounters_b8, Scr.den]
      rw [if_pos (show decide (i < 2) = true from decide_eq_true h3), e]
      simp only [obind]
      rw [e2]
      simp only [outM]
      rw [wrapId (n := i + 1) (by omega) (by omega)]
    · obtain ⟨j, hj, ej⟩ := mem_getD ((k3 (i : Int)).2 (by omega))
      have := j3 j hj
      rw [ej, Int.toNat_natCast] at this
      exact this
  · simp only [S_w13_RightsCounters_b8, Scr.den]
    rw [if_neg (show ¬ decide ((2 : Int) < 2) = true by decide)]
theorem RightsCounters_eq (a : List Int) : F_w13_RightsCounters a = some true := by
  simp only [F_w13_RightsCounters, S_w13_RightsCounters, Scr.den]
  obtain ⟨s, h1, h2⟩ := New_spec a
  rw [h1]
  simp only [obind]
  rw [Set_eq (t := ⟨2, []⟩) (fun p hp => by cases hp) (show ([49] : List UInt8).length ≤ 1000000 by simp), c_set]
  simp only [obind]
  rw [if_neg (by decide)]
  obtain ⟨k, s1, q1, q2, q3⟩ := Range_spec (lo := 1) (hi := 5) h2 (by omega) (by omega) (by omega)
  rw [q1]
  simp only [obind]
  obtain ⟨s2, g, told, i, e1, p1, p2, p3, p4, p5⟩ := told_loop (k := k) q2 (by omega)
  rw [e1]
  simp only [outM]
  rw [guardP_pos (by simp only [AllP, and_true]; omega)]
  have e2 := learn_in (A := (s2, xC g 0, told, i)) ⟨p2, p3⟩ p4
  rw [show (⟨[49], 12, 0, 0, 0⟩ : TApiRight) = xR 0 0 0 from rfl, e2]
  simp only
  obtain ⟨s3, e3, r1⟩ := learn_any (A := (s2, xC g 0, told, i)) ⟨p2, p3⟩ p4 p5 p1
  rw [e3]
  simp only
  rw [if_neg (by simp)]
  obtain ⟨k2, s4, u1, u2, u3, u4⟩ := N_spec (n := 5) r1 (by omega) (by omega)
  rw [u1]
  simp only [obind]
  obtain ⟨s5, r, said, j, e4, w1, w2, w3, w4, w5⟩ := said_loop (A := (s2, xC g 0, told, i)) (B := (s3, xR g 0 0, 2)) (k := k2) (g := g) u2 (by omega) ⟨p2, p3⟩
  rw [e4]
  simp only
  rw [guardP_pos (by simp only [AllP, and_true]; omega)]
  have e5 := hear_in (A := (s5, xR g 0 r, said, j)) ⟨p2, p3⟩ ⟨w2, w3⟩ w4
  rw [e5]
  simp only
  obtain ⟨s6, e6, z1⟩ := hear_any (A := (s5, xR g 0 r, said, j)) ⟨p2, p3⟩ ⟨w2, w3⟩ w4 w5 w1
  rw [e6]
  simp only
  have hok := xC_ok w2 w3 (show g ≤ 5000 by omega)
  rw [Pot_eq hok.small, show potM (xC g r) [49] 12 = (xP 5000 [g, 0] [r, 0] [0, 0] [0, 0], true) by unfold potM; rw [if_pos (xC_has w2 w3 (by omega)).1, xC_pot w2 w3 (by omega)]]
  simp only [obind]
  rw [optD_pos (by simp [AllP]), Same_refl (by simp [xC, xT])]
  simp only [obind]
  rw [optD_pos (by simp [AllP]), Out_eq, xC_out, wrapId (n := g - r) (by omega) (by omega)]
  simp only [obind]
  have e7 : IntKind.i64.wrap ((xR g 0 r).Granted - (xR g 0 r).Returned) = g - r := wrapId (by show _ ≤ g - r; omega) (by show g - r < _; omega)
  rw [e7, optD_pos (by simp [AllP]), awake_eq]
  simp
theorem RightsCounters_true (a : List Int) : F_w13_RightsCounters a = some true := RightsCounters_eq a
end Go.Proofs.YtkabfdfkegjfdaaGreatDoor
