/- A part of the proof: plain laws of what the functions compute. No condition. -/
import Derived.Test.YtkabfdfkegjfdaaGreatDoorP1
namespace Go.Proofs.YtkabfdfkegjfdaaGreatDoor
open Go Go.TA
/-- What is granted of what is free. -/
def gP (p : TApiPot) (k : Nat) (n : Int) : TApiPot := withG p (p.Granted.set k (p.Granted.getD k default + n))
def gT (t : TApiTreasury) (j k : Nat) (n : Int) : TApiTreasury := ⟨t.Offices, t.Pots.set j (gP (t.Pots.getD j default) k n)⟩
theorem grant_free {t : TApiTreasury} (h : TOk t) {j : Nat} (hj : j < t.Pots.length) (hs : (t.Pots.getD j default).Granted.sum ≤ 5000) {k n : Int} (hk : 1 ≤ k ∧ k ≤ t.Offices) (hn : 1 ≤ n ∧ n ≤ 5000)
    (hf : n ≤ (t.Pots.getD j default).Total - outV (t.Pots.getD j default)) :
    grantM t k (t.Pots.getD j default).Code (t.Pots.getD j default).Year n = (gT t j (k - 1).toNat n, 0) := by
  have hp := (h.2.2 j hj).1
  have l1 := hp.2.2.2.1.1.1
  rw [grant_at h hj hk (by omega), give_one (by omega), if_neg (show ¬ (t.Pots.getD j default).Total - outV (t.Pots.getD j default) < n by omega), if_neg (show ¬ 1000000000000000 < (t.Pots.getD j default).Granted.sum + n by omega), if_neg (show ¬ ((0 : Int) ≠ 0) from fun h => h rfl)]
  rfl
theorem gT_at {t : TApiTreasury} {j k : Nat} {n : Int} (hj : j < t.Pots.length) : (gT t j k n).Pots.getD j default = gP (t.Pots.getD j default) k n := by
  show (t.Pots.set j _).getD j default = _
  rw [getD_setP hj, if_pos rfl]
theorem gP_sum {p : TApiPot} {k : Nat} {n : Int} (hk : k < p.Granted.length) : (gP p k n).Granted.sum = p.Granted.sum + n := by
  show (p.Granted.set k _).sum = _
  rw [sum_set hk]; omega
theorem gP_gP {p : TApiPot} {k : Nat} {n m : Int} (hk : k < p.Granted.length) : gP (gP p k n) k m = gP p k (n + m) := by
  show withG (withG p _) ((p.Granted.set k (p.Granted.getD k default + n)).set k ((p.Granted.set k (p.Granted.getD k default + n)).getD k default + m)) = _
  rw [getD_set_int hk, if_pos rfl, List.set_set]
  unfold gP withG
  simp only [Int.add_assoc]
theorem grant_b1 {x : TApiTreasury} {s0 s : TTape} (hx : TOk x) (hl : Lim x 1500) (hs : TapeOk s) {j : Nat} (hj : j < x.Pots.length) :
    ∃ s', (S_w13_RightsGrant_b1 (x, s0) j s).den = some (.cont s') ∧ TapeOk s' := by
  have hp := (hx.2.2 j hj).1
  have hlj := hl j hj
  have ho := outV_nonneg hp
  have he := outV_eq hp
  have l1 := hp.2.2.2.1.1.1
  have hH := (sum_tot hp.2.2.2.1.2.1.2).1
  have ht := hp.2.2.1
  obtain ⟨v4, s1, q1, q2, q3⟩ := Range_spec (lo := 1) (hi := x.Offices) hs (by omega) hx.1.1 (by have := hx.1.2; omega)
  have hk : (v4 - 1).toNat < (x.Pots.getD j default).Granted.length := by omega
  simp only [S_w13_RightsGrant_b1, Scr.den, q1, obind, Free_eq]
  rw [wrapId (n := (x.Pots.getD j default).Total - outV (x.Pots.getD j default)) (by omega) (by omega)]
  generalize hn : (x.Pots.getD j default).Total - outV (x.Pots.getD j default) = n
  have hm : ((if 0 > n then 0 else n) : Int) + 1 = max n 0 + 1 := by rw [maxw]
  have h15 : grantM x v4 (x.Pots.getD j default).Code (x.Pots.getD j default).Year (max n 0 + 1) = (zT, 15) := by
    rw [grant_at hx hj q3 (by omega), give_one hk, hn, if_pos (show n < max n 0 + 1 by omega), if_pos (by simp)]
  rw [Grant_eq hx.small', show IntKind.i64.wrap ((if 0 > n then 0 else n) + 1) = max n 0 + 1 by rw [hm, wrapId (by omega) (by omega)], h15]
  simp only [obind]
  rw [if_neg (show ¬ ((15 : Int) != 15) = true by simp)]
  by_cases c1 : n < 1
  · rw [if_pos (show decide (n < 1) = true from decide_eq_true c1)]
    exact ⟨_, rfl, q2⟩
  · rw [if_neg (show ¬ decide (n < 1) = true by rw [decide_eq_true_eq]; exact c1)]
    have hy := grant_free hx hj (by omega) (k := v4) (n := n) q3 (by omega) (by omega)
    have hyk : TOk (gT x j (v4 - 1).toNat n) := by have := (grant_ok (t := x) (k := v4) (c := (x.Pots.getD j default).Code) (y := (x.Pots.getD j default).Year) (x := n) (by rw [hy])).2; rwa [hy] at this
    have hyl : j < (gT x j (v4 - 1).toNat n).Pots.length := by simpa [gT] using hj
    have hq := (hyk.2.2 j hyl).1
    obtain ⟨u1, u2⟩ := pot_uniq hyk hyl
    rw [gT_at hj] at u1 u2 hq
    have hqo := outV_eq hq
    rw [gP_sum hk] at hqo
    have hpot : potM (gT x j (v4 - 1).toNat n) (x.Pots.getD j default).Code (x.Pots.getD j default).Year = (gP (x.Pots.getD j default) (v4 - 1).toNat n, true) := by
      unfold potM potAt
      rw [if_pos (show hasP (gT x j (v4 - 1).toNat n).Pots (x.Pots.getD j default).Code (x.Pots.getD j default).Year = true from u1), show pix (gT x j (v4 - 1).toNat n).Pots (x.Pots.getD j default).Code (x.Pots.getD j default).Year = j from u2, gT_at hj]
    have hfree : (gP (x.Pots.getD j default) (v4 - 1).toNat n).Total - outV (gP (x.Pots.getD j default) (v4 - 1).toNat n) = 0 := by
      have e1 : (gP (x.Pots.getD j default) (v4 - 1).toNat n).Total = (x.Pots.getD j default).Total := rfl
      have e2 : (gP (x.Pots.getD j default) (v4 - 1).toNat n).Heard = (x.Pots.getD j default).Heard := rfl
      rw [e2] at hqo
      omega
    rw [Grant_eq hx.small', hy]
    simp only [obind]
    rw [Pot_eq hyk.small, hpot]
    simp only [obind, cond_or]
    rw [optD_pos (by exact ⟨rfl, trivial⟩), hfree, wrap_zero]
    simp only [obind]
    rw [optD_pos (by exact ⟨rfl, trivial⟩), Shortfall_eq, show outV (gP (x.Pots.getD j default) (v4 - 1).toNat n) - (gP (x.Pots.getD j default) (v4 - 1).toNat n).Total = 0 by omega, wrap_zero]
    simp only [obind]
    rw [optD_pos (by exact ⟨rfl, trivial⟩), r13_Valid_eq hyk.small', decide_eq_true hyk]
    simp only [obind]
    rw [if_neg (by decide)]
    by_cases c2 : 1 < n
    · rw [if_pos (show decide (n > 1) = true from decide_eq_true c2), wrapId (n := n - 1) (by omega) (by omega)]
      obtain ⟨a, s2, w1, w2, w3⟩ := Range_spec (lo := 1) (hi := n - 1) q2 (by omega) (by omega) (by omega)
      rw [w1]
      simp only [obind]
      have hu := grant_free hx hj (by omega) (k := v4) (n := a) q3 (by omega) (by omega)
      have huk : TOk (gT x j (v4 - 1).toNat a) := by have := (grant_ok (t := x) (k := v4) (c := (x.Pots.getD j default).Code) (y := (x.Pots.getD j default).Year) (x := a) (by rw [hu])).2; rwa [hu] at this
      have hul : j < (gT x j (v4 - 1).toNat a).Pots.length := by simpa [gT] using hj
      have hqu := (huk.2.2 j hul).1
      rw [gT_at hj] at hqu
      have hquo := outV_eq hqu
      rw [gP_sum hk] at hquo
      have hw := grant_free huk hul (k := v4) (n := n - a) (by rw [gT_at hj, gP_sum hk]; omega) q3 (by omega) (by
        rw [gT_at hj]
        have e1 : (gP (x.Pots.getD j default) (v4 - 1).toNat a).Total = (x.Pots.getD j default).Total := rfl
        have e2 : (gP (x.Pots.getD j default) (v4 - 1).toNat a).Heard = (x.Pots.getD j default).Heard := rfl
        rw [e2] at hquo
        omega)
      rw [gT_at hj] at hw
      have hww : gT (gT x j (v4 - 1).toNat a) j (v4 - 1).toNat (n - a) = gT x j (v4 - 1).toNat n := by
        show (⟨x.Offices, (x.Pots.set j _).set j (gP ((gT x j (v4 - 1).toNat a).Pots.getD j default) _ _)⟩ : TApiTreasury) = _
        rw [gT_at hj, gP_gP hk, List.set_set, show a + (n - a) = n by omega]
        rfl
      rw [Grant_eq hx.small', hu]
      simp only [obind]
      rw [wrapId (n := n - a) (by omega) (by omega), Grant_eq huk.small', show grantM (gT x j (v4 - 1).toNat a) v4 (x.Pots.getD j default).Code (x.Pots.getD j default).Year (n - a) = _ from hw, hww]
      simp only [obind]
      rw [optD_pos (by exact ⟨rfl, trivial⟩), Same_refl (by have := hyk.2.1; omega)]
      simp only [obind]
      rw [if_neg (by decide)]
      exact ⟨_, rfl, w2⟩
    · rw [if_neg (show ¬ decide (n > 1) = true by rw [decide_eq_true_eq]; exact c2)]
      exact ⟨_, rfl, q2⟩
theorem RightsGrant_eq (a : List Int) : F_w13_RightsGrant a = some true := by
  simp only [F_w13_RightsGrant, S_w13_RightsGrant, Scr.den]
  obtain ⟨s, h1, h2⟩ := New_spec a
  obtain ⟨k, s1, q1, q2, q3⟩ := Range_spec (lo := 1) (hi := 4) h2 (by omega) (by omega) (by omega)
  obtain ⟨x, s2, p1, p2, p3, p4, p5⟩ := mk_Treasury_spec q2 q3
  rw [h1]
  simp only [obind]
  rw [q1]
  simp only [obind]
  rw [p1]
  simp only [obind]
  obtain ⟨s', e, _⟩ := rangeM_inv (body := fun i s => (S_w13_RightsGrant_b1 (x, s2) i s).den) (n := x.Pots.length) (fun _ s => TapeOk s) (s0 := s2) p2 (fun i s hi hI => grant_b1 p3 p5 hI hi)
  rw [e]
  simp only [outM, awake_eq, obind]
theorem RightsGrant_true (a : List Int) : F_w13_RightsGrant a = some true := RightsGrant_eq a
end Go.Proofs.YtkabfdfkegjfdaaGreatDoor
namespace Go.Proofs.YtkabfdfkegjfdaaGreatDoor
open Go Go.TA
/-! ## Orders -/
def upTo (n : Nat) : List Int := (List.range n).map fun (i : Nat) => (i : Int)
theorem upTo_length {n : Nat} : (upTo n).length = n := by simp [upTo]
theorem mem_upTo {n : Nat} {x : Int} : x ∈ upTo n ↔ 0 ≤ x ∧ x < n := by
  simp only [upTo, List.mem_map, List.mem_range]
  constructor
  · rintro ⟨i, h, rfl⟩; omega
  · intro h; exact ⟨x.toNat, by omega, by omega⟩
theorem upTo_succ {n : Nat} : upTo (n + 1) = upTo n ++ [(n : Int)] := by simp [upTo, List.range_succ]
theorem order_first {n : Nat} (hn : n ≤ 1000) : iterM (fun s => (S_mk_Tape_Order_b1 (n : Int) s).den) (([] : List Int), (0 : Int)) = some (.next (upTo n, (n : Int))) := by
  obtain ⟨r, e, hJ⟩ := iterM_inv (step := fun s => (S_mk_Tape_Order_b1 (n : Int) s).den) (fun s : List Int × Int => ((n : Int) - s.2).toNat)
    (fun s => ∃ i : Nat, i ≤ n ∧ s = (upTo i, (i : Int))) (fun s => s = (upTo n, (n : Int))) (fun st hI => by
    obtain ⟨i, hi, rfl⟩ := hI
    simp only [S_mk_Tape_Order_b1, Scr.den]
    by_cases hc : i < n
    · left
      rw [if_pos (show decide ((i : Int) < n) = true from decide_eq_true (by omega)), guardP_pos (by simp only [AllP, and_true, upTo_length]; omega), wrapId (n := (i : Int) + 1) (by omega) (by omega)]
      exact ⟨_, rfl, ⟨i + 1, hc, by rw [upTo_succ]; rfl⟩, by show ((n : Int) - ((i : Int) + 1)).toNat < ((n : Int) - i).toNat; omega⟩
    · right
      obtain rfl : i = n := by omega
      rw [if_neg (show ¬ decide ((i : Int) < i) = true by simp)]
      exact ⟨_, rfl, rfl⟩) _ (([] : List Int), (0 : Int)) (Nat.lt_succ_self _) ⟨0, Nat.zero_le _, rfl⟩
  rw [e, hJ]
def swp (l : List Int) (i k : Nat) : List Int := (l.set i (l.getD k default)).set k (l.getD i default)
theorem swp_length {l : List Int} {i k : Nat} : (swp l i k).length = l.length := by simp [swp]
theorem swp_get {l : List Int} {i k j : Nat} (hj : j < l.length) : (swp l i k).getD j default = if j = k then l.getD i default else if j = i then l.getD k default else l.getD j default := by
  unfold swp
  rw [getD_set_int (by simpa using hj), getD_set_int hj]
theorem mem_swp {l : List Int} {i k : Nat} (hi : i < l.length) (hk : k < l.length) {x : Int} : x ∈ swp l i k ↔ x ∈ l := by
  constructor
  · intro h
    obtain ⟨j, hj, rfl⟩ := mem_getD h
    rw [swp_length] at hj
    rw [swp_get hj]
    split
    · exact getD_mem hi
    · split
      · exact getD_mem hk
      · exact getD_mem hj
  · intro h
    obtain ⟨j, hj, rfl⟩ := mem_getD h
    by_cases h1 : j = i
    · subst h1
      have := swp_get (l := l) (i := j) (k := k) hk
      rw [if_pos rfl] at this
      rw [← this]
      exact getD_mem (by rw [swp_length]; exact hk)
    · by_cases h2 : j = k
      · subst h2
        have := swp_get (l := l) (i := i) (k := j) hi
        rw [if_neg (fun e => h1 e.symm), if_pos rfl] at this
        rw [← this]
        exact getD_mem (by rw [swp_length]; exact hi)
      · have := swp_get (l := l) (i := i) (k := k) hj
        rw [if_neg h2, if_neg h1] at this
        rw [← this]
        exact getD_mem (by rw [swp_length]; exact hj)
theorem Order_spec {n : Nat} {s : TTape} (hs : TapeOk s) (hn : n ≤ 1000) : ∃ l s', F_mk_Tape_Order (n : Int) s = some (l, s') ∧ TapeOk s' ∧ l.length = n ∧ ∀ x, x ∈ l ↔ 0 ≤ x ∧ x < n := by
  simp only [F_mk_Tape_Order, S_mk_Tape_Order, Scr.den, order_first hn, outM]
  obtain ⟨r, e, hJ⟩ := iterM_inv (step := fun s => (S_mk_Tape_Order_b2 s).den) (fun s : TTape × List Int × Int => s.2.2.toNat)
    (fun s => TapeOk s.1 ∧ s.2.1.length = n ∧ (∀ x, x ∈ s.2.1 ↔ 0 ≤ x ∧ x < n) ∧ -1 ≤ s.2.2 ∧ s.2.2 < n)
    (fun s => TapeOk s.1 ∧ s.2.1.length = n ∧ ∀ x, x ∈ s.2.1 ↔ 0 ≤ x ∧ x < n) (fun st hI => by
    obtain ⟨t, l, i⟩ := st
    obtain ⟨i1, i2, i3, i4, i5⟩ := hI
    simp only at i1 i2 i3 i4 i5
    simp only [S_mk_Tape_Order_b2, Scr.den]
    by_cases hi : 0 < i
    · left
      rw [if_pos (show decide (i > 0) = true from decide_eq_true hi), wrapId (n := i + 1) (by omega) (by omega)]
      obtain ⟨v, t1, q1, q2, q3, q4⟩ := N_spec (n := i + 1) i1 (by omega) (by omega)
      rw [q1]
      simp only [obind, Nat.zero_add, List.length_set]
      rw [guardP_pos (by simp only [AllP, and_true]; omega), wrapId (n := i - 1) (by omega) (by omega)]
      refine ⟨_, rfl, ⟨q2, ?_, ?_, ?_, ?_⟩, ?_⟩
      · show (swp l i.toNat v.toNat).length = n
        rw [swp_length, i2]
      · intro x
        show x ∈ swp l i.toNat v.toNat ↔ _
        rw [mem_swp (by omega) (by omega), i3]
      · show -1 ≤ i - 1; omega
      · show i - 1 < n; omega
      · show (i - 1).toNat < i.toNat; omega
    · right
      rw [if_neg (show ¬ decide (i > 0) = true by rw [decide_eq_true_eq]; exact hi)]
      exact ⟨_, rfl, i1, i2, i3⟩) _ (s, upTo n, (n : Int) - 1) (Nat.lt_succ_self _)
    ⟨hs, upTo_length, fun x => mem_upTo, by show -1 ≤ (n : Int) - 1; omega, by show (n : Int) - 1 < n; omega⟩
  rw [wrapId (n := (n : Int) - 1) (by omega) (by omega), e]
  simp only
  obtain ⟨h1, h2, h3⟩ := hJ
  rw [guardP_pos (by simp only [AllP, and_true]; omega)]
  exact ⟨_, _, rfl, h1, h2, h3⟩
/-! ## The greatest of what is learnt -/
section
variable {σ ρ : Type}
theorem max_loop {body : Nat → σ → Option (Step σ ρ)} {n : Nat} (st : Int → σ) (f : Nat → Int) (g : Int) (hf : ∀ i, i < n → 0 ≤ f i ∧ f i ≤ g)
    (hb : ∀ i v, i < n → 0 ≤ v → v ≤ g → body i (st v) = some (.cont (st (max v (f i))))) {v0 : Int} (h0 : 0 ≤ v0 ∧ v0 ≤ g) :
    ∃ v, rangeM body n 0 (st v0) = some (.next (st v)) ∧ v0 ≤ v ∧ v ≤ g ∧ ∀ i, i < n → f i ≤ v := by
  obtain ⟨s, e, v, h1, h2, h3, h4⟩ := rangeM_inv (body := body) (n := n) (fun i s => ∃ v, s = st v ∧ v0 ≤ v ∧ v ≤ g ∧ ∀ j, j < i → f j ≤ v) (s0 := st v0) ⟨v0, rfl, Int.le_refl _, h0.2, fun j hj => by omega⟩ (fun i s hi hI => by
    obtain ⟨v, rfl, k1, k2, k3⟩ := hI
    have := hf i hi
    refine ⟨_, hb i v hi (by omega) k2, max v (f i), rfl, by omega, by omega, fun j hj => ?_⟩
    by_cases e : j = i
    · subst e; omega
    · have := k3 j (by omega); omega)
  subst h1
  exact ⟨v, e, h2, h3, h4⟩
theorem two_loop {step : TTape × σ × Int → Option (Step (TTape × σ × Int) ρ)} (st : Int → σ) (F : Nat → Int) (N : Nat) (g : Int) (h0 : 0 ≤ g) (hg : g = 0 ∨ ∃ i, i < N ∧ F i = g)
    (hstep : ∀ s v i, TapeOk s → 0 ≤ v → v ≤ g → 0 ≤ i → i < 2 → ∃ s' v', step (s, st v, i) = some (.cont (s', st v', i + 1)) ∧ TapeOk s' ∧ v ≤ v' ∧ v' ≤ g ∧ ∀ i, i < N → F i ≤ v')
    (hend : ∀ s x, step (s, x, 2) = some (.brk (s, x, 2))) {s : TTape} (hs : TapeOk s) : ∃ s', iterM step (s, st 0, 0) = some (.next (s', st g, 2)) ∧ TapeOk s' := by
  obtain ⟨r, e, s', h1, h2⟩ := iterM_inv (step := step) (fun s : TTape × σ × Int => (2 - s.2.2).toNat)
    (fun s => ∃ v, s.2.1 = st v ∧ TapeOk s.1 ∧ 0 ≤ s.2.2 ∧ s.2.2 ≤ 2 ∧ 0 ≤ v ∧ v ≤ g ∧ (s.2.2 = 0 ∨ v = g)) (fun s => ∃ s', s = (s', st g, 2) ∧ TapeOk s') (fun x hI => by
    obtain ⟨s, y, i⟩ := x
    obtain ⟨v, k1, k2, k3, k4, k5, k6, k7⟩ := hI
    simp only at k1 k2 k3 k4 k7
    subst k1
    by_cases hi : i < 2
    · left
      obtain ⟨s', v', e, j1, j2, j3, j4⟩ := hstep s v i k2 k5 k6 k3 hi
      refine ⟨_, e, ⟨v', rfl, j1, by show 0 ≤ i + 1; omega, by show i + 1 ≤ 2; omega, by omega, j3, .inr ?_⟩, by show (2 - (i + 1)).toNat < (2 - i).toNat; omega⟩
      rcases hg with hg | ⟨q, hq, hF⟩
      · omega
      · have := j4 q hq; omega
    · right
      obtain rfl : i = 2 := by omega
      obtain rfl : v = g := by rcases k7 with h | h; · exact absurd h (by decide)
                               · exact h
      exact ⟨_, hend s _, s, rfl, k2⟩) _ (s, st 0, 0) (Nat.lt_succ_self _) ⟨0, rfl, hs, by simp, by simp, by simp, h0, .inl rfl⟩
  subst h1
  exact ⟨s', e, h2⟩
end
end Go.Proofs.YtkabfdfkegjfdaaGreatDoor
namespace Go.Proofs.YtkabfdfkegjfdaaGreatDoor
open Go Go.TA
/-! ## One pot, its offices' rights -/
theorem good2 : good [50] = true := by kernel_rfl
def OffOk (p : TApiPot) (k : Nat) (r : TApiRight) : Prop := RtOk r ∧ r.Code = [50] ∧ r.Year = 12 ∧ r.Granted ≤ p.Granted.getD k default ∧ p.Heard.getD k default ≤ r.Returned
def KS (n : Int) (p : TApiPot) (off : List TApiRight) : Prop := TOk ⟨n, [p]⟩ ∧ p.Code = [50] ∧ p.Year = 12 ∧ (off.length : Int) = n ∧ ∀ k, k < off.length → OffOk p k (off.getD k default)
theorem KS.pot {n : Int} {p : TApiPot} {off : List TApiRight} (h : KS n p off) : PotOk n p := (h.1.2.2 0 (by show 0 < 1; omega)).1
theorem KS.has {n : Int} {p : TApiPot} {off : List TApiRight} (h : KS n p off) : hasP [p] [50] 12 = true ∧ pix [p] [50] 12 = 0 := by
  have := pot_uniq h.1 (j := 0) (by show 0 < 1; omega)
  rw [show ((⟨n, [p]⟩ : TApiTreasury).Pots.getD 0 default).Code = [50] from h.2.1, show ((⟨n, [p]⟩ : TApiTreasury).Pots.getD 0 default).Year = 12 from h.2.2.1] at this
  exact this
theorem KS.at {n : Int} {p : TApiPot} {off : List TApiRight} (h : KS n p off) : potAt ⟨n, [p]⟩ [50] 12 = p := by
  unfold potAt
  rw [show pix (⟨n, [p]⟩ : TApiTreasury).Pots [50] 12 = 0 from h.has.2]
  rfl
theorem KS.putE {n : Int} {p : TApiPot} {off : List TApiRight} (h : KS n p off) (p' : TApiPot) : putP ⟨n, [p]⟩ [50] 12 p' = ⟨n, [p']⟩ := by
  unfold putP
  rw [show pix (⟨n, [p]⟩ : TApiTreasury).Pots [50] 12 = 0 from h.has.2]
  rfl
theorem KS.small {n : Int} {p : TApiPot} {off : List TApiRight} (h : KS n p off) : Small ⟨n, [p]⟩ := h.1.small'
theorem getD_setR {l : List TApiRight} {i j : Nat} {x : TApiRight} (hj : j < l.length) : (l.set i x).getD j default = if j = i then x else l.getD j default := by
  rw [List.getD_eq_getElem?_getD, List.getElem?_set]
  by_cases h : i = j
  · subst h; simp [hj]
  · rw [if_neg h, if_neg fun e => h e.symm, List.getD_eq_getElem?_getD]
theorem KS.off {n : Int} {p : TApiPot} {off : List TApiRight} (h : KS n p off) {k : Nat} {r : TApiRight} (hr : OffOk p k r) : KS n p (off.set k r) := by
  refine ⟨h.1, h.2.1, h.2.2.1, by simpa using h.2.2.2.1, fun j hj => ?_⟩
  have hj' : j < off.length := by simpa using hj
  rw [getD_setR hj']
  split
  · rename_i e; subst e; exact hr
  · exact h.2.2.2.2 j hj'
theorem KS.put {n : Int} {p p' : TApiPot} {off : List TApiRight} (h : KS n p off) (h1 : TOk ⟨n, [p']⟩) (h2 : p'.Code = p.Code) (h3 : p'.Year = p.Year) (h4 : ∀ k, k < off.length → p.Granted.getD k default ≤ p'.Granted.getD k default)
    (h5 : ∀ k, k < off.length → p'.Heard.getD k default ≤ (off.getD k default).Returned) : KS n p' off :=
  ⟨h1, h2.trans h.2.1, h3.trans h.2.2.1, h.2.2.2.1, fun k hk => by
    obtain ⟨a1, a2, a3, a4, a5⟩ := h.2.2.2.2 k hk
    exact ⟨a1, a2, a3, Int.le_trans a4 (h4 k hk), h5 k hk⟩⟩
theorem KS.rt {n : Int} {p : TApiPot} {off : List TApiRight} (h : KS n p off) {k : Int} (hk : 0 ≤ k ∧ k < n) : OffOk p k.toNat (off.getD k.toNat default) ∧ k.toNat < off.length := by
  have := h.2.2.2.1
  exact ⟨h.2.2.2.2 _ (by omega), by omega⟩
theorem k_set {n : Int} {p : TApiPot} {off : List TApiRight} (h : KS n p off) {v : Int} (hv : 0 ≤ v ∧ v < 1000) : ∃ p', setM ⟨n, [p]⟩ [50] 12 v = (⟨n, [p']⟩, 0) ∧ KS n p' off := by
  have e : setM ⟨n, [p]⟩ [50] 12 v = (⟨n, [withT p v]⟩, 0) := by
    unfold setM
    rw [if_neg (show ¬ ¬ TOk ⟨n, [p]⟩ from fun k => k h.1), if_neg (show ¬ ¬ good [50] = true from fun k => k good2), if_neg (show ¬ ¬ (((0 : Int) ≤ 12 ∧ (12 : Int) ≤ 99) ∧ -1000000000000000 ≤ v ∧ v ≤ 1000000000000000) from fun k => k ⟨by decide, by omega⟩), if_pos (show hasP (⟨n, [p]⟩ : TApiTreasury).Pots [50] 12 = true from h.has.1), h.at, h.putE]
  refine ⟨_, e, h.put ?_ rfl rfl (fun _ _ => Int.le_refl _) (fun k hk => (h.2.2.2.2 k hk).2.2.2.2)⟩
  have := (set_ok (t := ⟨n, [p]⟩) (c := [50]) (y := 12) (x := v) (by rw [e])).2
  rwa [e] at this
theorem k_learn {n : Int} {p : TApiPot} {off : List TApiRight} (h : KS n p off) {k : Int} (hk : 0 ≤ k ∧ k < n) :
    ∃ m r, tellM ⟨n, [p]⟩ (k + 1) [50] 12 = (m, 0) ∧ learnS (off.getD k.toNat default) m = (r, 0) ∧ KS n p (off.set k.toNat r) := by
  obtain ⟨⟨a1, a2, a3, a4, a5⟩, hlt⟩ := h.rt hk
  have hp := h.pot
  have hk1 : 1 ≤ k + 1 ∧ k + 1 ≤ n := by omega
  have g1 := nth_tot hp.2.2.2.1.1 hk1
  have g2 := nth_tot hp.2.2.2.1.2.2.1 hk1
  have e1 : (k + 1 - 1).toNat = k.toNat := by omega
  generalize hr : off.getD k.toNat default = r at a1 a2 a3 a4 a5
  refine ⟨⟨0, k + 1, [50], 12, nth p.Granted (k + 1), nth p.Asked (k + 1), 0, 0⟩, _, ?_, ?_, h.off (k := k.toNat) (r := ⟨r.Code, r.Year, if nth p.Granted (k + 1) > r.Granted then nth p.Granted (k + 1) else r.Granted, if nth p.Asked (k + 1) > r.Asked then nth p.Asked (k + 1) else r.Asked, r.Returned⟩) ?_⟩
  · unfold tellM
    rw [if_neg (show ¬ ¬ TOk ⟨n, [p]⟩ from fun q => q h.1), if_neg (show ¬ ¬ (hasP (⟨n, [p]⟩ : TApiTreasury).Pots [50] 12 = true ∧ 1 ≤ k + 1 ∧ k + 1 ≤ (⟨n, [p]⟩ : TApiTreasury).Offices) from fun q => q ⟨h.has.1, hk1⟩), h.at]
  · unfold learnS
    rw [if_neg (fun q => q ⟨a1, rfl, a2.symm, a3.symm⟩), if_neg (fun q => q ⟨g1, g2⟩)]
  · have a4' : r.Granted ≤ nth p.Granted (k + 1) := by unfold nth; rw [e1]; exact a4
    obtain ⟨b1, b2, b3, b4, b5⟩ := a1
    unfold tot at g1 g2
    refine ⟨⟨b1, b2, ?_, ?_, ?_⟩, a2, a3, ?_, a5⟩
    · simp only [maxE]; omega
    · simp only [maxE]; omega
    · simp only [maxE]; omega
    · simp only [maxE]
      have : nth p.Granted (k + 1) = p.Granted.getD k.toNat default := by unfold nth; rw [e1]
      omega
theorem k_return {n : Int} {p : TApiPot} {off : List TApiRight} (h : KS n p off) {k : Int} (hk : 0 ≤ k ∧ k < n) {v : Int} (hv : 1 ≤ v ∧ v ≤ 100)
    (h0 : (returnS (off.getD k.toNat default) 0 v).2 = 0) : KS n p (off.set k.toNat (returnS (off.getD k.toNat default) 0 v).1) := by
  obtain ⟨⟨a1, a2, a3, a4, a5⟩, hlt⟩ := h.rt hk
  generalize off.getD k.toNat default = r at *
  obtain ⟨b1, b2, b3, b4, b5⟩ := a1
  refine h.off ?_
  unfold returnS at h0 ⊢
  rw [wrapId (n := r.Granted - r.Returned) (by omega) (by omega), wrapId (n := r.Granted - r.Returned - 0) (by omega) (by omega)] at *
  rw [if_neg (fun q => q ⟨⟨b1, b2, b3, b4, b5⟩, by omega⟩), if_neg (fun q => q (by omega))] at *
  by_cases hc : v > r.Granted - r.Returned - 0
  · rw [if_pos hc] at h0; cases h0
  · rw [if_neg hc, wrapId (n := r.Returned + v) (by omega) (by omega)]
    exact ⟨⟨b1, b2, b3, b4, by show 0 ≤ r.Returned + v ∧ r.Returned + v ≤ r.Granted; omega⟩, a2, a3, a4, by show _ ≤ r.Returned + v; omega⟩
theorem k_hear {n : Int} {p : TApiPot} {off : List TApiRight} (h : KS n p off) {k : Int} (hk : 0 ≤ k ∧ k < n) {v : Int} (hv : 0 ≤ v ∧ v ≤ (off.getD k.toNat default).Returned)
    (h0 : (hearM ⟨n, [p]⟩ ⟨k + 1, 0, [50], 12, 0, 0, v, 0⟩).2 = 0) : ∃ p', (hearM ⟨n, [p]⟩ ⟨k + 1, 0, [50], 12, 0, 0, v, 0⟩).1 = ⟨n, [p']⟩ ∧ KS n p' off := by
  obtain ⟨⟨a1, a2, a3, a4, a5⟩, hlt⟩ := h.rt hk
  have hok := (hear_ok h0).2
  have hp := h.pot
  have l2 := hp.2.2.2.1.2.1.1
  have hl := h.2.2.2.1
  have e1 : (k + 1 - 1).toNat = k.toNat := by omega
  have e : (hearM ⟨n, [p]⟩ ⟨k + 1, 0, [50], 12, 0, 0, v, 0⟩).1 = ⟨n, [withH p (upd p.Heard (k + 1) (max (nth p.Heard (k + 1)) v)) (upd p.Used (k + 1) 0)]⟩ := by
    unfold hearM at h0 ⊢
    simp only at h0 ⊢
    rw [if_neg (show ¬ ((0 : Int) ≠ 0) from fun q => q rfl), if_neg (show ¬ ¬ TOk ⟨n, [p]⟩ from fun q => q h.1), if_neg (show ¬ ¬ hasP [p] [50] 12 = true from fun q => q h.has.1), h.at, h.putE] at *
    split at h0
    · cases h0
    · rename_i c1
      rw [if_neg c1]
      split at h0
      · cases h0
      · rename_i c2
        rw [if_neg c2]
  rw [e] at hok
  refine ⟨_, e, h.put hok rfl rfl (fun _ _ => Int.le_refl _) fun j hj => ?_⟩
  show (upd p.Heard (k + 1) _).getD j default ≤ _
  rw [upd_get (by omega), e1]
  have hj := (h.2.2.2.2 j hj).2.2.2.2
  split
  · rename_i ej
    subst ej
    unfold nth
    rw [e1]
    omega
  · exact hj
theorem k_grant {n : Int} {p : TApiPot} {off : List TApiRight} (h : KS n p off) {k v : Int} (h0 : (grantM ⟨n, [p]⟩ k [50] 12 v).2 = 0) : ∃ p', (grantM ⟨n, [p]⟩ k [50] 12 v).1 = ⟨n, [p']⟩ ∧ KS n p' off := by
  have hok := (grant_ok h0).2
  have hp := h.pot
  have hl := h.2.2.2.1
  have l1 := hp.2.2.2.1.1.1
  have e : ∃ g, (grantM ⟨n, [p]⟩ k [50] 12 v).1 = ⟨n, [withG p g]⟩ ∧ ∀ j, j < p.Granted.length → p.Granted.getD j default ≤ g.getD j default := by
    unfold grantM at h0 ⊢
    rw [if_neg (show ¬ ¬ TOk ⟨n, [p]⟩ from fun q => q h.1), if_neg (show ¬ ¬ hasP (⟨n, [p]⟩ : TApiTreasury).Pots [50] 12 = true from fun q => q h.has.1), h.at, h.putE] at *
    split at h0
    · cases h0
    · rename_i c1
      rw [if_neg c1]
      split at h0
      · cases h0
      · rename_i c2
        rw [if_neg c2]
        split at h0
        · rename_i c3; exact absurd h0 c3
        · rename_i c3
          rw [if_neg c3]
          refine ⟨_, rfl, fun j hj => ?_⟩
          have c2' : 1 ≤ v ∧ v ≤ 1000000000000000 := Decidable.not_not.1 c2
          rw [(give_ok hp (oneHot_tot c2') oneHot_length (Decidable.not_not.1 c3)).1, addN_get hj]
          have ht := oneHot_tot (n := p.Granted.length) (k := (k - 1).toNat) c2' _ (getD_mem (l := oneHot p.Granted.length (k - 1).toNat v) (i := j) (by rw [oneHot_length]; exact hj))
          unfold tot at ht
          split <;> omega
  obtain ⟨g, e1, e2⟩ := e
  rw [e1] at hok
  exact ⟨_, e1, h.put hok rfl rfl (fun j hj => e2 j (by omega)) fun j hj => (h.2.2.2.2 j hj).2.2.2.2⟩
/-! ## What they may use together -/
theorem sum_take {l : List Int} {i : Nat} (h : i < l.length) : (l.take (i + 1)).sum = (l.take i).sum + l.getD i default := by
  rw [← List.take_append_getElem h, List.sum_append, getD_of h]
  simp
theorem keep_sum {n : Int} {p : TApiPot} {A : TTape × List TApiRight × TApiTreasury × Int} (h : KS n p A.2.1) : ∃ v, rangeM (fun i s => (S_w13_RightsKeep_b2 A i s).den) A.2.1.length 0 0 = some (.next v) ∧ v ≤ outV p := by
  have hp := h.pot
  have l1 := hp.2.2.2.1.1.1
  have l2 := hp.2.2.2.1.2.1.1
  have hl := h.2.2.2.1
  have hn := h.1.1.2
  obtain ⟨v, e, h1, h2, h3⟩ := rangeM_inv (body := fun i s => (S_w13_RightsKeep_b2 A i s).den) (n := A.2.1.length) (fun i s => 0 ≤ s ∧ s ≤ (i : Int) * 1000000000000000 ∧ s ≤ (p.Granted.take i).sum - (p.Heard.take i).sum) (s0 := 0) (by simp) (fun i s hi hI => by
    obtain ⟨k1, k2, k3⟩ := hI
    obtain ⟨⟨b1, b2, b3, b4, b5⟩, a2, a3, a4, a5⟩ := h.2.2.2.2 i hi
    simp only [S_w13_RightsKeep_b2, Scr.den, Nat.zero_add]
    have hn' : n ≤ 6 := hn
    rw [guardP_pos (by simp only [AllP, and_true]; exact hi), wrapId (n := (A.2.1.getD i default).Granted - (A.2.1.getD i default).Returned) (by omega) (by omega), wrapId (n := s + _) (by omega) (by omega)]
    refine ⟨_, rfl, by omega, by omega, ?_⟩
    rw [sum_take (by omega), sum_take (by omega)]
    omega)
  refine ⟨v, e, ?_⟩
  rw [outV_eq hp]
  rw [List.take_of_length_le (by omega), List.take_of_length_le (by omega)] at h3
  exact h3
end Go.Proofs.YtkabfdfkegjfdaaGreatDoor
namespace Go.Proofs.YtkabfdfkegjfdaaGreatDoor
open Go Go.TA
/-! ## Step by step -/
theorem cut_inv {σ ρ τ : Type} {x : Option (Out σ ρ)} {K : σ → Option τ} {r : ρ → Option τ} (P : σ → Prop) {Q : τ → Prop} (h1 : ∃ s, x = some (.next s) ∧ P s) (h2 : ∀ s, P s → ∃ s', K s = some s' ∧ Q s') : ∃ s', outM x K r = some s' ∧ Q s' := by
  obtain ⟨s, rfl, h⟩ := h1
  exact h2 s h
theorem keep_step {n : Int} {s1 : TTape} {A : TTape × TApiTreasury × List TApiRight × Int} {p : TApiPot} (hn : 1 ≤ n ∧ n ≤ 4) (hA : A.2.1 = ⟨n, [p]⟩) (hs : TapeOk A.1) (hK : KS n p A.2.2.1) (hi : 0 ≤ A.2.2.2 ∧ A.2.2.2 < 25) :
    ∃ r, (S_w13_RightsKeep_b3 (n, s1) A).den = some r ∧ ∃ s', r = .cont s' ∧ TapeOk s'.1 ∧ (∃ p', s'.2.1 = ⟨n, [p']⟩ ∧ KS n p' s'.2.2.1) ∧ s'.2.2.2 = A.2.2.2 + 1 := by
  obtain ⟨s, x, off, i⟩ := A
  simp only at hA hs hK hi
  subst hA
  obtain ⟨k, t1, q1, q2, q3, q4⟩ := N_spec (n := n) hs (by omega) (by omega)
  obtain ⟨c, t2, u1, u2, u3, u4⟩ := N_spec (n := 6) q2 (by omega) (by omega)
  obtain ⟨⟨a1, a2, a3, a4, a5⟩, hlt⟩ := hK.rt ⟨q3, q4⟩
  have hcl : (off.getD k.toNat default).Code.length ≤ 1000000 := by rw [a2]; simp
  have hb := a1
  obtain ⟨b1, b2, b3, b4, b5⟩ := hb
  simp only [S_w13_RightsKeep_b3, Scr.den, cond_or]
  rw [if_pos (show decide (i < 25) = true from decide_eq_true hi.2), q1]
  simp only [obind]
  rw [u1]
  simp only [obind, Nat.zero_add]
  rw [wrapId (n := k + 1) (by omega) (by omega)]
  refine cut_inv (fun z => TapeOk z.1 ∧ KS n p z.2.1 ∧ (z.2.2.2 = 0 → ∃ p', z.2.2.1 = ⟨n, [p']⟩ ∧ KS n p' z.2.1)) ?_ ?_
  · by_cases c0 : c = 0
    · rw [if_pos (show (c == 0) = true by simp [c0])]
      obtain ⟨v, t3, w1, w2, w3, w4⟩ := N_spec (n := 1000) u2 (by omega) (by omega)
      obtain ⟨p', e, hp'⟩ := k_set hK ⟨w3, w4⟩
      rw [w1]
      simp only [obind]
      rw [Set_eq hK.small (show ([50] : List UInt8).length ≤ 1000000 by simp), e]
      exact ⟨_, rfl, w2, hK, fun _ => ⟨p', rfl, hp'⟩⟩
    · rw [if_neg (show ¬ (c == 0) = true by simpa using c0)]
      by_cases c1 : c = 1
      · rw [if_pos (show (c == 1) = true by simp [c1])]
        obtain ⟨m, r, e1, e2, hr⟩ := k_learn hK ⟨q3, q4⟩
        rw [Tell_eq hK.small, e1]
        simp only [obind]
        rw [rights_Learn_eq hcl, e2]
        simp only [obind]
        rw [guardP_pos (by simp only [AllP, and_true]; exact ⟨q3, hlt, hlt⟩), if_pos (by rfl)]
        exact ⟨_, rfl, u2, hr, fun _ => ⟨p, rfl, hr⟩⟩
      · rw [if_neg (show ¬ (c == 1) = true by simpa using c1)]
        by_cases c2 : c = 2
        · rw [if_pos (show (c == 2) = true by simp [c2])]
          obtain ⟨v, t3, w1, w2, w3⟩ := Range_spec (lo := 1) (hi := 100) u2 (by omega) (by omega) (by omega)
          rw [w1]
          simp only [obind]
          rw [rights_Return_eq hcl]
          simp only [obind]
          rw [guardP_pos (by simp only [AllP, and_true]; exact ⟨q3, hlt, hlt⟩)]
          by_cases c5 : (returnS (off.getD k.toNat default) 0 v).2 = 0
          · rw [if_pos (by simpa using c5)]
            have hr := k_return hK ⟨q3, q4⟩ w3 c5
            exact ⟨_, rfl, w2, hr, fun _ => ⟨p, rfl, hr⟩⟩
          · rw [if_neg (by simpa using c5)]
            exact ⟨_, rfl, w2, hK, fun _ => ⟨p, rfl, hK⟩⟩
        · rw [if_neg (show ¬ (c == 2) = true by simpa using c2)]
          by_cases c3 : c = 3
          · rw [if_pos (show (c == 3) = true by simp [c3]), wrapId (n := (off.getD k.toNat default).Returned + 1) (by omega) (by omega)]
            obtain ⟨v, t3, w1, w2, w3, w4⟩ := N_spec (n := (off.getD k.toNat default).Returned + 1) u2 (by omega) (by omega)
            rw [w1]
            simp only [obind]
            rw [wrapId (n := (off.getD k.toNat default).Returned - v) (by omega) (by omega), Hear_eq hK.small]
            simp only [obind]
            rw [guardP_pos (by simp only [AllP, and_true]; exact ⟨q3, hlt, hlt⟩)]
            exact ⟨_, rfl, w2, hK, fun h => k_hear hK ⟨q3, q4⟩ (by omega) h⟩
          · rw [if_neg (show ¬ (c == 3) = true by simpa using c3)]
            obtain ⟨v, t3, w1, w2, w3⟩ := Range_spec (lo := 1) (hi := 300) u2 (by omega) (by omega) (by omega)
            rw [w1]
            simp only [obind]
            rw [Grant_eq hK.small]
            exact ⟨_, rfl, w2, hK, fun h => k_grant hK h⟩
  · rintro ⟨t, off', y, f⟩ ⟨h1, h2, h3⟩
    simp only at h1 h2 h3
    refine cut_inv (fun z => ∃ p', z = ⟨n, [p']⟩ ∧ KS n p' off') ?_ ?_
    · by_cases hf : f = 0
      · rw [if_pos (by simpa using hf)]
        exact ⟨_, rfl, h3 hf⟩
      · rw [if_neg (by simpa using hf)]
        exact ⟨_, rfl, p, rfl, h2⟩
    · rintro z ⟨p', rfl, hz⟩
      have hp := hz.pot
      have hl := hz.2.2.2.1
      obtain ⟨v, e, hv⟩ := keep_sum (A := (t, off', y, f)) hz
      have ho := out_bound hp (by omega)
      have ho2 := outV_nonneg hp
      have ht := hp.2.2.1
      have e1 : IntKind.i64.wrap (outV p') = outV p' := wrapId (by omega) (by omega)
      have e2 : max (IntKind.i64.wrap (outV p' - p'.Total)) 0 = max (outV p' - p'.Total) 0 := by rw [wrapId (n := outV p' - p'.Total) (by omega) (by omega)]
      have e3 : IntKind.i64.wrap (p'.Total + max (outV p' - p'.Total) 0) = p'.Total + max (outV p' - p'.Total) 0 := wrapId (by omega) (by omega)
      rw [Pot_eq hz.1.small, show potM ⟨n, [p']⟩ [50] 12 = (p', true) by unfold potM; rw [if_pos (show hasP (⟨n, [p']⟩ : TApiTreasury).Pots [50] 12 = true from hz.has.1), hz.at]]
      simp only [obind]
      rw [guardP_pos (by simp only [AllP, and_true]; omega), e]
      simp only [outM]
      rw [optD_pos (by simp [AllP]), r13_Valid_eq hz.small, decide_eq_true hz.1]
      simp only [obind]
      rw [optD_pos (by simp [AllP]), Out_eq, e1]
      simp only [obind]
      have hlt1 : decide (v > outV p') = false := decide_eq_false (by omega)
      rw [hlt1, optD_pos (by simp [AllP])]
      simp only [obind]
      rw [optD_pos (by simp [AllP]), Shortfall_eq, e2]
      simp only [obind]
      have hlt2 : decide (outV p' > p'.Total + max (outV p' - p'.Total) 0) = false := decide_eq_false (by omega)
      rw [e3, hlt2, optD_pos (by simp [AllP])]
      simp only [obind]
      rw [if_neg (by
        have : decide (max (outV p' - p'.Total) 0 < 0) = false := decide_eq_false (by omega)
        rw [this]; decide), wrapId (n := i + 1) (by omega) (by omega)]
      exact ⟨_, rfl, _, rfl, h1, ⟨p', rfl, hz⟩, rfl⟩
theorem keep_new {n : Int} {s1 s2 : TTape} {v : Int} {y : TApiTreasury × Int} (_hn : 1 ≤ n ∧ n ≤ 4) :
    rangeM (fun i s => (S_w13_RightsKeep_b1 (n, s1) (v, s2) y i s).den) n.toNat 0 (List.replicate n.toNat (⟨[], 0, 0, 0, 0⟩ : TApiRight)) = some (.next (List.replicate n.toNat (⟨[50], 12, 0, 0, 0⟩ : TApiRight))) := by
  obtain ⟨r, e, h1, h2⟩ := rangeM_inv (body := fun i s => (S_w13_RightsKeep_b1 (n, s1) (v, s2) y i s).den) (n := n.toNat) (fun i s => s.length = n.toNat ∧ ∀ j, j < i → s.getD j default = ⟨[50], 12, 0, 0, 0⟩) (s0 := List.replicate n.toNat (⟨[], 0, 0, 0, 0⟩ : TApiRight)) ⟨by simp, fun j hj => by omega⟩ (fun i s hi hI => by
    simp only [S_w13_RightsKeep_b1, Scr.den, Nat.zero_add]
    rw [guardP_pos (by simp only [AllP, and_true]; omega)]
    refine ⟨_, rfl, by simpa using hI.1, fun j hj => ?_⟩
    rw [getD_setR (by omega)]
    split
    · rfl
    · exact hI.2 j (by omega))
  rw [e]
  congr 2
  refine List.ext_getElem (by simpa using h1) fun j k1 k2 => ?_
  have := h2 j (by omega)
  rw [List.getD_eq_getElem?_getD, List.getElem?_eq_getElem k1, Option.getD_some] at this
  rw [this, List.getElem_replicate]
theorem RightsKeep_eq (a : List Int) : F_w13_RightsKeep a = some true := by
  simp only [F_w13_RightsKeep, S_w13_RightsKeep, Scr.den]
  obtain ⟨s, h1, h2⟩ := New_spec a
  rw [h1]
  simp only [obind]
  obtain ⟨n, s1, q1, q2, q3⟩ := Range_spec (lo := 1) (hi := 4) h2 (by omega) (by omega) (by omega)
  rw [q1]
  simp only [obind]
  obtain ⟨v, s2, u1, u2, u3, u4⟩ := N_spec (n := 1000) q2 (by omega) (by omega)
  rw [u1]
  simp only [obind]
  have h0 : TOk (⟨n, []⟩ : TApiTreasury) := ⟨⟨q3.1, by show n ≤ 6; omega⟩, by simp, fun i hi => by simp at hi⟩
  have es : setM ⟨n, []⟩ [50] 12 v = (⟨n, [newP n [50] 12 v]⟩, 0) := by
    unfold setM
    rw [if_neg (show ¬ ¬ TOk ⟨n, []⟩ from fun k => k h0), if_neg (show ¬ ¬ good [50] = true from fun k => k good2), if_neg (show ¬ ¬ (((0 : Int) ≤ 12 ∧ (12 : Int) ≤ 99) ∧ -1000000000000000 ≤ v ∧ v ≤ 1000000000000000) from fun k => k ⟨by decide, by omega⟩), if_neg (show ¬ hasP (⟨n, []⟩ : TApiTreasury).Pots [50] 12 = true by simp [hasP]), if_neg (show ¬ (⟨n, []⟩ : TApiTreasury).Pots.length = 60 by simp)]
    rfl
  have hok := (set_ok (t := ⟨n, []⟩) (c := [50]) (y := 12) (x := v) (by rw [es])).2
  rw [es] at hok
  rw [Set_eq h0.small' (show ([50] : List UInt8).length ≤ 1000000 by simp), es]
  simp only [obind]
  have hz : KS n (newP n [50] 12 v) (List.replicate n.toNat (⟨[50], 12, 0, 0, 0⟩ : TApiRight)) := by
    refine ⟨hok, rfl, rfl, by simp; omega, fun k hk => ?_⟩
    have hk' : k < n.toNat := by simpa using hk
    have e : (List.replicate n.toNat (⟨[50], 12, 0, 0, 0⟩ : TApiRight)).getD k default = ⟨[50], 12, 0, 0, 0⟩ := by simp [List.getD_eq_getElem?_getD, hk']
    have ez : (zeros n).getD k default = 0 := by simp [zeros, List.getD_eq_getElem?_getD, hk']
    rw [e]
    exact ⟨⟨good2, by decide, by decide, by decide, by decide⟩, rfl, rfl, by show 0 ≤ (zeros n).getD k default; rw [ez]; decide, by show (zeros n).getD k default ≤ 0; rw [ez]; decide⟩
  rw [if_neg (by decide), guardP_pos (by simp only [AllP, and_true]; omega), guardP_pos (by simp only [AllP, and_true, List.length_replicate]; omega)]
  simp only [List.length_replicate]
  rw [keep_new q3]
  simp only [outM]
  obtain ⟨r, e, _⟩ := iterM_inv (step := fun s => (S_w13_RightsKeep_b3 (n, s1) s).den) (fun s : TTape × TApiTreasury × List TApiRight × Int => (25 - s.2.2.2).toNat)
    (fun s => TapeOk s.1 ∧ (∃ p, s.2.1 = ⟨n, [p]⟩ ∧ KS n p s.2.2.1) ∧ 0 ≤ s.2.2.2 ∧ s.2.2.2 ≤ 25) (fun _ => True) (fun st hI => by
    obtain ⟨i1, ⟨p, i2, i3⟩, i4, i5⟩ := hI
    by_cases hi : st.2.2.2 < 25
    · left
      obtain ⟨r, e, s', rfl, k1, k2, k3⟩ := keep_step (s1 := s1) q3 i2 i1 i3 ⟨i4, hi⟩
      exact ⟨s', e, ⟨k1, k2, by omega, by omega⟩, by omega⟩
    · right
      simp only [S_w13_RightsKeep_b3, Scr.den]
      rw [if_neg (show ¬ decide (st.2.2.2 < 25) = true by rw [decide_eq_true_eq]; exact hi)]
      exact ⟨_, rfl, trivial⟩) _ (s2, ⟨n, [newP n [50] 12 v]⟩, List.replicate n.toNat (⟨[50], 12, 0, 0, 0⟩ : TApiRight), 0) (Nat.lt_succ_self _) ⟨u2, ⟨_, rfl, hz⟩, by simp, by simp⟩
  rw [e]
  simp only [awake_eq, obind]
theorem RightsKeep_true (a : List Int) : F_w13_RightsKeep a = some true := RightsKeep_eq a
end Go.Proofs.YtkabfdfkegjfdaaGreatDoor
