/- A part of the proof: plain laws of what the functions compute. No condition. -/
import Derived.Test.YtkabfdfkegjfdaaGreatDoorP1
namespace Go.Proofs.YtkabfdfkegjfdaaGreatDoor
open Go Go.TA
/-- What is granted of what is free. -/
def gP (p : TApiPot) (k : Nat) (n : Int) : TApiPot := withG p (p.Granted.set k (p.Granted.getD k default + n))
def gT (t : TApiTreasury) (j k : Nat) (n : Int) : TApiTreasury := ⟨t.Offices, t.Pots.set j (gP (t.Pots.getD j default) k n)⟩
theorem grant_free {t : TApiTreasury} (h : TOk t) {j : Nat} (hj : j < t.Pots.length) (hs : (t.Pots.getD j default).Granted.sum ≤ 5000) {k n : Int} (hk : 1 ≤ k ∧ k ≤ t.Offices) (hn : 1 ≤ n ∧ n ≤ 5000)
    (hf : n ≤ (t.Pots.getD j default).Total - outV (t.Pots.getD j default)) :
    grantM t k (t.Pots.getD j default).Code (t.Pots.getD j default).Year n = (gT t j (k - 1).toNat n, 0) := by
  have hp := (h.2.2 j hj).1
  have l1 := hp.2.2.2.1.1.1
  rw [grant_at h hj hk (by omega), give_one (by omega), if_neg (show ¬ (t.Pots.getD j default).Total - outV (t.Pots.getD j default) < n by omega), if_neg (show ¬ 1000000000000000 < (t.Pots.getD j default).Granted.sum + n by omega), if_neg (show ¬ ((0 : Int) ≠ 0) from fun h => h rfl)]
  rfl
theorem gT_at {t : TApiTreasury} {j k : Nat} {n : Int} (hj : j < t.Pots.length) : (gT t j k n).Pots.getD j default = gP (t.Pots.getD j default) k n := by
  show (t.Pots.set j _).getD j default = _
  rw [getD_setP hj, if_pos rfl]
theorem gP_sum {p : TApiPot} {k : Nat} {n : Int} (hk : k < p.Granted.length) : (gP p k n).Granted.sum = p.Granted.sum + n := by
  show (p.Granted.set k _).sum = _
  rw [sum_set hk]; omega
theorem gP_gP {p : TApiPot} {k : Nat} {n m : Int} (hk : k < p.Granted.length) : gP (gP p k n) k m = gP p k (n + m) := by
  show withG (withG p _) ((p.Granted.set k (p.Granted.getD k default + n)).set k ((p.Granted.set k (p.Granted.getD k default + n)).getD k default + m)) = _
  rw [getD_set_int hk, if_pos rfl, List.set_set]
  unfold gP withG
  simp only [Int.add_assoc]
theorem grant_b1 {x : TApiTreasury} {s0 s : TTape} (hx : TOk x) (hl : Lim x 1500) (hs : TapeOk s) {j : Nat} (hj : j < x.Pots.length) :
    ∃ s', (S_w13_RightsGrant_b1 (x, s0) j s).den = some (.cont s') ∧ TapeOk s' := by
  have hp := (hx.2.2 j hj).1
  have hlj := hl j hj
  have ho := outV_nonneg hp
  have he := outV_eq hp
  have l1 := hp.2.2.2.1.1.1
  have hH := (sum_tot hp.2.2.2.1.2.1.2).1
  have ht := hp.2.2.1
  obtain ⟨v4, s1, q1, q2, q3⟩ := Range_spec (lo := 1) (hi := x.Offices) hs (by omega) hx.1.1 (by have := hx.1.2; omega)
  have hk : (v4 - 1).toNat < (x.Pots.getD j default).Granted.length := by omega
  simp only [S_w13_RightsGrant_b1, Scr.den, q1, obind, Free_eq]
  rw [wrapId (n := (x.Pots.getD j default).Total - outV (x.Pots.getD j default)) (by omega) (by omega)]
  generalize hn : (x.Pots.getD j default).Total - outV (x.Pots.getD j default) = n
  have hm : ((if 0 > n then 0 else n) : Int) + 1 = max n 0 + 1 := by rw [maxw]
  have h15 : grantM x v4 (x.Pots.getD j default).Code (x.Pots.getD j default).Year (max n 0 + 1) = (zT, 15) := by
    rw [grant_at hx hj q3 (by omega), give_one hk, hn, if_pos (show n < max n 0 + 1 by omega), if_pos (by simp)]
  rw [Grant_eq hx.small', show IntKind.i64.wrap ((if 0 > n then 0 else n) + 1) = max n 0 + 1 by rw [hm, wrapId (by omega) (by omega)], h15]
  simp only [obind]
  rw [if_neg (show ¬ ((15 : Int) != 15) = true by simp)]
  by_cases c1 : n < 1
  · rw [if_pos (show decide (n < 1) = true from decide_eq_true c1)]
    exact ⟨_, rfl, q2⟩
  · rw [if_neg (show ¬ decide (n < 1) = true by rw [decide_eq_true_eq]; exact c1)]
    have hy := grant_free hx hj (by omega) (k := v4) (n := n) q3 (by omega) (by omega)
    have hyk : TOk (gT x j (v4 - 1).toNat n) := by have := (grant_ok (t := x) (k := v4) (c := (x.Pots.getD j default).Code) (y := (x.Pots.getD j default).Year) (x := n) (by rw [hy])).2; rwa [hy] at this
    have hyl : j < (gT x j (v4 - 1).toNat n).Pots.length := by simpa [gT] using hj
    have hq := (hyk.2.2 j hyl).1
    obtain ⟨u1, u2⟩ := pot_uniq hyk hyl
    rw [gT_at hj] at u1 u2 hq
    have hqo := outV_eq hq
    rw [gP_sum hk] at hqo
    have hpot : potM (gT x j (v4 - 1).toNat n) (x.Pots.getD j default).Code (x.Pots.getD j default).Year = (gP (x.Pots.getD j default) (v4 - 1).toNat n, true) := by
      unfold potM potAt
      rw [if_pos (show hasP (gT x j (v4 - 1).toNat n).Pots (x.Pots.getD j default).Code (x.Pots.getD j default).Year = true from u1), show pix (gT x j (v4 - 1).toNat n).Pots (x.Pots.getD j default).Code (x.Pots.getD j default).Year = j from u2, gT_at hj]
    have hfree : (gP (x.Pots.getD j default) (v4 - 1).toNat n).Total - outV (gP (x.Pots.getD j default) (v4 - 1).toNat n) = 0 := by
      have e1 : (gP (x.Pots.getD j default) (v4 - 1).toNat n).Total = (x.Pots.getD j default).Total := rfl
      have e2 : (gP (x.Pots.getD j default) (v4 - 1).toNat n).Heard = (x.Pots.getD j default).Heard := rfl
      rw [e2] at hqo
      omega
    rw [Grant_eq hx.small', hy]
    simp only [obind]
    rw [Pot_eq hyk.small, hpot]
    simp only [obind, cond_or]
    rw [optD_pos (by exact ⟨rfl, trivial⟩), hfree, wrap_zero]
    simp only [obind]
    rw [optD_pos (by exact ⟨rfl, trivial⟩), Shortfall_eq, show outV (gP (x.Pots.getD j default) (v4 - 1).toNat n) - (gP (x.Pots.getD j default) (v4 - 1).toNat n).Total = 0 by omega, wrap_zero]
    simp only [obind]
    rw [optD_pos (by exact ⟨rfl, trivial⟩), r13_Valid_eq hyk.small', decide_eq_true hyk]
    simp only [obind]
    rw [if_neg (by decide)]
    by_cases c2 : 1 < n
    · rw [if_pos (show decide (n > 1) = true from decide_eq_true c2), wrapId (n := n - 1) (by omega) (by omega)]
      obtain ⟨a, s2, w1, w2, w3⟩ := Range_spec (lo := 1) (hi := n - 1) q2 (by omega) (by omega) (by omega)
      rw [w1]
      simp only [obind]
      have hu := grant_free hx hj (by omega) (k := v4) (n := a) q3 (by omega) (by omega)
      have huk : TOk (gT x j (v4 - 1).toNat a) := by have := (grant_ok (t := x) (k := v4) (c := (x.Pots.getD j default).Code) (y := (x.Pots.getD j default).Year) (x := a) (by rw [hu])).2; rwa [hu] at this
      have hul : j < (gT x j (v4 - 1).toNat a).Pots.length := by simpa [gT] using hj
      have hqu := (huk.2.2 j hul).1
      rw [gT_at hj] at hqu
      have hquo := outV_eq hqu
      rw [gP_sum hk] at hquo
      have hw := grant_free huk hul (k := v4) (n := n - a) (by rw [gT_at hj, gP_sum hk]; omega) q3 (by omega) (by
        rw [gT_at hj]
        have e1 : (gP (x.Pots.getD j default) (v4 - 1).toNat a).Total = (x.Pots.getD j default).Total := rfl
        have e2 : (gP (x.Pots.getD j default) (v4 - 1).toNat a).Heard = (x.Pots.getD j default).Heard := rfl
        rw [e2] at hquo
        omega)
      rw [gT_at hj] at hw
      have hww : gT (gT x j (v4 - 1).toNat a) j (v4 - 1).toNat (n - a) = gT x j (v4 - 1).toNat n := by
        show (⟨x.Offices, (x.Pots.set j _).set j (gP ((gT x j (v4 - 1).toNat a).Pots.getD j default) _ _)⟩ : TApiTreasury) = _
        rw [gT_at hj, gP_gP hk, List.set_set, show a + (n - a) = n by omega]
        rfl
      rw [Grant_eq hx.small', hu]
      simp only [obind]
      rw [wrapId (n := n - a) (by omega) (by omega), Grant_eq huk.small', show grantM (gT x j (v4 - 1).toNat a) v4 (x.Pots.getD j default).Code (x.Pots.getD j default).Year (n - a) = _ from hw, hww]
      simp only [obind]
      rw [optD_pos (by exact ⟨rfl, trivial⟩), Same_refl (by have := hyk.2.1; omega)]
      simp only [obind]
      rw [if_neg (by decide)]
      exact ⟨_, rfl, w2⟩
    · rw [if_neg (show ¬ decide (n > 1) = true by rw [decide_eq_true_eq]; exact c2)]
      exact ⟨_, rfl, q2⟩
theorem RightsGrant_eq (a : List Int) : F_w13_RightsGrant a = some true := by
  simp only [F_w13_RightsGrant, S_w13_RightsGrant, Scr.den]
  obtain ⟨s, h1, h2⟩ := New_spec a
  obtain ⟨k, s1, q1, q2, q3⟩ := Range_spec (lo := 1) (hi := 4) h2 (by omega) (by omega) (by omega)
  obtain ⟨x, s2, p1, p2, p3, p4, p5⟩ := mk_Treasury_spec q2 q3
  rw [h1]
  simp only [obind]
  rw [q1]
  simp only [obind]
  rw [p1]
  simp only [obind]
  obtain ⟨s', e, _⟩ := rangeM_inv (body := fun i s => (S_w13_RightsGrant_b1 (x, s2) i s).den) (n := x.Pots.length) (fun _ s => TapeOk s) (s0 := s2) p2 (fun i s hi hI => grant_b1 p3 p5 hI hi)
  rw [e]
  simp only [outM, awake_eq, obind]
theorem RightsGrant_true (a : List Int) : F_w13_RightsGrant a = some true := RightsGrant_eq a
end Go.Proofs.YtkabfdfkegjfdaaGreatDoor
