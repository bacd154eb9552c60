/- A part of the proof: what the functions compute, and that their calls return it. No condition. -/
import Derived.Test.YteelhiohkbbdhaaGreatDoorPS
import Derived.Test.YteelhiohkbbdhaaGreatDoorG14P7
namespace Go.Proofs.YteelhiohkbbdhaaGreatDoor
open Go Go.TA

/-! ## Bent books -/
def SmN (k : Nat) (b : TApiBook) : Prop := (b.Reservations.length ≤ k ∧ b.Commitments.length ≤ k ∧ b.Verifications.length ≤ k ∧ b.Orders.length ≤ k) ∧ ∀ r ∈ b.Reservations, r.Code.length ≤ 1000
theorem SmN.small {k : Nat} {b : TApiBook} (h : SmN k b) (hk : k ≤ 1000) : Small b := by
  obtain ⟨⟨h1, h2, h3, h4⟩, hc⟩ := h
  exact ⟨⟨by omega, by omega, by omega, by omega⟩, fun r hr => by have := hc r hr; omega⟩
theorem VB.smN {b : TApiBook} (h : VB b) : SmN 200 b := by
  obtain ⟨⟨_, _, _, _, _, _, h1, h2, h3, h4⟩, hc⟩ := h
  exact ⟨⟨h1, h2, h3, h4⟩, fun r hr => by have := (hc r hr).1; omega⟩
theorem BadCode_spec {s : TTreasurymakeTape} (hs : TapeOk s) : ∃ c s', F_mk_BadCode s = some (c, s') ∧ TapeOk s' ∧ c.length ≤ 1000 := by
  simp only [F_mk_BadCode, S_mk_BadCode, Scr.den]
  obtain ⟨v, s', h3, h4, h5, h6⟩ := N_spec (n := 12) hs (by omega) (by omega)
  have h : ∀ c ∈ ([[], [48], [48, 49], [49, 46], [46, 49], [49, 46, 46, 50], [49, 48, 48], [49, 46, 50, 46, 51, 46, 52, 46, 53], [120], [49, 32], [57, 57, 46, 57, 57, 46, 57, 57, 46, 57, 57], [52]] : List (List UInt8)), c.length ≤ 1000 := by decide
  refine ⟨_, s', ?_, h4, h _ (getD_mem (show v.toNat < 12 by omega))⟩
  rw [h3, obind, guardP_pos ⟨by simpa using h5, by simp only; omega, trivial⟩]
theorem Code_nil {s : TTreasurymakeTape} (hs : TapeOk s) : ∃ c s', F_mk_Code [] s = some (c, s') ∧ TapeOk s' ∧ c.length ≤ 1000 := by
  simp only [F_mk_Code, S_mk_Code, Scr.den]
  rw [optD_none (by simp [AllP]), obind, if_pos (by simp)]
  obtain ⟨c, s', h1, h2, h3⟩ := BadCode_spec hs
  simp only [h1, obind]
  exact ⟨_, _, rfl, h2, h3⟩
theorem code_set {b : TApiBook} {k : Nat} (h : SmN k b) {i : Nat} (hi : i < b.Reservations.length) {x : TApiReservation} (hx : x.Code = (b.Reservations.getD i default).Code) : ∀ r ∈ b.Reservations.set i x, r.Code.length ≤ 1000 := fun r hr => by
  rcases List.mem_or_eq_of_mem_set hr with hr | rfl
  · exact h.2 r hr
  · rw [hx]; exact h.2 _ (getD_mem hi)
theorem BentBook_spec {b : TApiBook} {k : Nat} (h : SmN k b) (hk : k ≤ 1000) {s : TTreasurymakeTape} (hs : TapeOk s) : ∃ b' s', F_mk_BentBook b s = some (b', s') ∧ TapeOk s' ∧ SmN (k + 1) b' := by
  obtain ⟨⟨l1, l2, l3, l4⟩, hc⟩ := id h
  simp only [F_mk_BentBook, S_mk_BentBook, Scr.den, Nat.zero_add]
  rw [guardP_pos ⟨by omega, by omega, by omega, by omega, trivial⟩]
  obtain ⟨n, s1, e1, t1, _⟩ := Pick_spec (l := [-1, 0, 1, 77, 1000000000001]) hs (by decide) (by decide)
  obtain ⟨q, s2, e2, t2, q1, q2⟩ := N_spec (n := 12) t1 (by omega) (by omega)
  simp only [e1, e2, obind]
  generalize hK : (fun (s : TTreasurymakeTape × (List TApiReservation) × (List TApiCommitment) × (List TApiVerification) × (List TApiOrder)) => _) = K
  have fin : ∀ (s' : TTreasurymakeTape) (lR : List TApiReservation) (lC : List TApiCommitment) (lV : List TApiVerification) (lO : List TApiOrder), TapeOk s' → SmN (k + 1) ⟨lR, lC, lV, lO⟩ → ∃ b' s'', outM (some (Out.next (s', lR, lC, lV, lO))) K some = some (b', s'') ∧ TapeOk s'' ∧ SmN (k + 1) b' := fun s' lR lC lV lO ht hh => by
    obtain ⟨m1, m2, m3, m4⟩ := hh.1
    simp only at m1 m2 m3 m4
    simp only [outM, ← hK]
    rw [guardP_pos ⟨by omega, trivial⟩, guardP_pos ⟨by omega, trivial⟩, guardP_pos ⟨by omega, trivial⟩, guardP_pos ⟨by omega, trivial⟩]
    exact ⟨_, _, rfl, ht, hh⟩
  have same : SmN (k + 1) b := ⟨⟨by omega, by omega, by omega, by omega⟩, hc⟩
  by_cases c0 : (q == 0) = true
  · rw [if_pos c0]
    obtain ⟨a, s3, e3, t3, _, _⟩ := N_spec (n := 2) t2 (by omega) (by omega)
    obtain ⟨co, s4, e4, t4, hco⟩ := Code_nil t3
    simp only [e3, e4, obind]
    rw [guardP_pos ⟨by omega, trivial⟩]
    refine fin _ _ _ _ _ t4 ⟨⟨by simp only [List.length_append, List.length_singleton]; omega, by simp only; omega, by simp only; omega, by simp only; omega⟩, fun r hr => ?_⟩
    rw [List.mem_append, List.mem_singleton] at hr
    rcases hr with hr | rfl
    · exact hc r hr
    · exact hco
  rw [if_neg c0]
  by_cases c0 : (q == 1) = true
  · rw [if_pos c0]
    by_cases hp : decide ((b.Reservations.length : Int) > 0) = true
    · rw [if_pos hp]
      simp only [decide_eq_true_eq] at hp
      obtain ⟨i, s3, e3, t3, i1, i2⟩ := N_spec (n := (b.Reservations.length : Int)) t2 (by omega) (by omega)
      simp only [e3, obind]
      rw [guardP_pos ⟨by omega, by omega, by omega, trivial⟩]
      exact fin _ _ _ _ _ t3 ⟨⟨by simp only [List.length_set]; omega, by simp only; omega, by simp only; omega, by simp only; omega⟩, code_set h (by omega) rfl⟩
    · rw [if_neg hp]; exact fin _ _ _ _ _ t2 same
  rw [if_neg c0]
  by_cases c0 : (q == 2) = true
  · rw [if_pos c0]
    by_cases hp : decide ((b.Reservations.length : Int) > 0) = true
    · rw [if_pos hp]
      simp only [decide_eq_true_eq] at hp
      obtain ⟨d, s3, e3, t3, _⟩ := Pick_spec (l := [-1, 4320, 4679, 4680]) t2 (by decide) (by decide)
      simp only [e3, obind]
      rw [guardP_pos ⟨by omega, by omega, trivial⟩]
      exact fin _ _ _ _ _ t3 ⟨⟨by simp only [List.length_set]; omega, by simp only; omega, by simp only; omega, by simp only; omega⟩, code_set h (by omega) rfl⟩
    · rw [if_neg hp]; exact fin _ _ _ _ _ t2 same
  rw [if_neg c0]
  by_cases c0 : (q == 3) = true
  · rw [if_pos c0]
    by_cases hp : decide ((b.Reservations.length : Int) > 0) = true
    · rw [if_pos hp]
      simp only [decide_eq_true_eq] at hp
      rw [guardP_pos ⟨by omega, by omega, trivial⟩]
      exact fin _ _ _ _ _ t2 ⟨⟨by simp only [List.length_set]; omega, by simp only; omega, by simp only; omega, by simp only; omega⟩, code_set h (by omega) rfl⟩
    · rw [if_neg hp]; exact fin _ _ _ _ _ t2 same
  rw [if_neg c0]
  by_cases c0 : (q == 4) = true
  · rw [if_pos c0]
    obtain ⟨x1, s3, e3, t3, _, _⟩ := N_spec (n := 4) t2 (by omega) (by omega)
    obtain ⟨x2, s4, e4, t4, _⟩ := Pick_spec (l := [4400, 4679, 4680]) t3 (by decide) (by decide)
    obtain ⟨x3, s5, e5, t5, _, _⟩ := Range_spec (lo := 1) (hi := 9) t4 (by omega) (by omega) (by omega)
    obtain ⟨x4, s6, e6, t6, _, _⟩ := N_spec (n := 2) t5 (by omega) (by omega)
    simp only [e3, e4, e5, e6, obind]
    rw [guardP_pos ⟨by omega, trivial⟩]
    exact fin _ _ _ _ _ t6 ⟨⟨by simp only; omega, by simp only [List.length_append, List.length_singleton]; omega, by simp only; omega, by simp only; omega⟩, hc⟩
  rw [if_neg c0]
  by_cases c0 : (q == 5) = true
  · rw [if_pos c0]
    by_cases hp : decide ((b.Commitments.length : Int) > 0) = true
    · rw [if_pos hp]
      simp only [decide_eq_true_eq] at hp
      rw [guardP_pos ⟨by omega, by omega, trivial⟩]
      exact fin _ _ _ _ _ t2 ⟨⟨by simp only; omega, by simp only [List.length_set]; omega, by simp only; omega, by simp only; omega⟩, hc⟩
    · rw [if_neg hp]; exact fin _ _ _ _ _ t2 same
  rw [if_neg c0]
  by_cases c0 : (q == 6) = true
  · rw [if_pos c0]
    by_cases hp : decide ((b.Commitments.length : Int) > 0) = true
    · rw [if_pos hp]
      simp only [decide_eq_true_eq] at hp
      obtain ⟨i, s3, e3, t3, i1, i2⟩ := N_spec (n := (b.Commitments.length : Int)) t2 (by omega) (by omega)
      obtain ⟨x2, s4, e4, t4, _⟩ := Pick_spec (l := [1, 100, -1]) t3 (by decide) (by decide)
      simp only [e3, e4, obind]
      rw [guardP_pos ⟨by omega, by omega, by omega, trivial⟩]
      exact fin _ _ _ _ _ t4 ⟨⟨by simp only; omega, by simp only [List.length_set]; omega, by simp only; omega, by simp only; omega⟩, hc⟩
    · rw [if_neg hp]; exact fin _ _ _ _ _ t2 same
  rw [if_neg c0]
  by_cases c0 : (q == 7) = true
  · rw [if_pos c0]
    obtain ⟨x1, s3, e3, t3, _, _⟩ := N_spec (n := 4) t2 (by omega) (by omega)
    obtain ⟨x2, s4, e4, t4, _⟩ := Pick_spec (l := [4500, 5039, 5040]) t3 (by decide) (by decide)
    simp only [e3, e4, obind]
    rw [guardP_pos ⟨by omega, trivial⟩]
    exact fin _ _ _ _ _ t4 ⟨⟨by simp only; omega, by simp only; omega, by simp only [List.length_append, List.length_singleton]; omega, by simp only; omega⟩, hc⟩
  rw [if_neg c0]
  by_cases c0 : (q == 8) = true
  · rw [if_pos c0]
    by_cases hp : decide ((b.Verifications.length : Int) > 0) = true
    · rw [if_pos hp]
      simp only [decide_eq_true_eq] at hp
      obtain ⟨x2, s4, e4, t4, _⟩ := Pick_spec (l := [0, 5039, 5040]) t2 (by decide) (by decide)
      simp only [e4, obind]
      rw [guardP_pos ⟨by omega, by omega, trivial⟩]
      exact fin _ _ _ _ _ t4 ⟨⟨by simp only; omega, by simp only; omega, by simp only [List.length_set]; omega, by simp only; omega⟩, hc⟩
    · rw [if_neg hp]; exact fin _ _ _ _ _ t2 same
  rw [if_neg c0]
  by_cases c0 : (q == 9) = true
  · rw [if_pos c0]
    obtain ⟨x1, s3, e3, t3, _, _⟩ := N_spec (n := 4) t2 (by omega) (by omega)
    obtain ⟨x3, s5, e5, t5, _, _⟩ := Range_spec (lo := 0) (hi := 2) t3 (by omega) (by omega) (by omega)
    obtain ⟨x2, s4, e4, t4, _⟩ := Pick_spec (l := [4700, 5039, 5040]) t5 (by decide) (by decide)
    simp only [e3, e5, e4, obind]
    rw [guardP_pos ⟨by omega, trivial⟩]
    exact fin _ _ _ _ _ t4 ⟨⟨by simp only; omega, by simp only; omega, by simp only; omega, by simp only [List.length_append, List.length_singleton]; omega⟩, hc⟩
  rw [if_neg c0]
  by_cases c0 : (q == 10) = true
  · rw [if_pos c0]
    by_cases hp : decide ((b.Orders.length : Int) > 0) = true
    · rw [if_pos hp]
      simp only [decide_eq_true_eq] at hp
      rw [guardP_pos ⟨by omega, by omega, trivial⟩]
      exact fin _ _ _ _ _ t2 ⟨⟨by simp only; omega, by simp only; omega, by simp only; omega, by simp only [List.length_set]; omega⟩, hc⟩
    · rw [if_neg hp]; exact fin _ _ _ _ _ t2 same
  rw [if_neg c0]
  by_cases hp : decide ((b.Orders.length : Int) > 0) = true
  · rw [if_pos hp]
    simp only [decide_eq_true_eq] at hp
    obtain ⟨i, s3, e3, t3, i1, i2⟩ := N_spec (n := (b.Orders.length : Int)) t2 (by omega) (by omega)
    obtain ⟨x2, s4, e4, t4, _, _⟩ := N_spec (n := 2) t3 (by omega) (by omega)
    simp only [e3, e4, obind]
    rw [guardP_pos ⟨by omega, by omega, by omega, trivial⟩]
    exact fin _ _ _ _ _ t4 ⟨⟨by simp only; omega, by simp only; omega, by simp only; omega, by simp only [List.length_set]; omega⟩, hc⟩
  · rw [if_neg hp]; exact fin _ _ _ _ _ t2 same

theorem SmallBook_eq (b : TApiBook) : ∃ C, F_mk_SmallBook b = some C ∧ (C = true → SmN 40 b) := by
  simp only [F_mk_SmallBook, S_mk_SmallBook, Scr.den, cond_and]
  obtain ⟨h1, h2⟩ := rangeM_all (body := fun i s => (S_mk_SmallBook_b1 b i s).den) (n := b.Reservations.length) (c := false) (fun i => (b.Reservations.getD i default).Code.length ≤ 60) (fun i hi hp => by
    simp only [S_mk_SmallBook_b1, Scr.den]; rw [if_neg (by rw [decide_eq_true_eq]; omega)]) (fun i hi hp => by
    simp only [S_mk_SmallBook_b1, Scr.den]; rw [if_pos (by rw [decide_eq_true_eq]; omega)])
  by_cases h : ∀ j, j < b.Reservations.length → (b.Reservations.getD j default).Code.length ≤ 60
  · rw [h1 h]
    refine ⟨_, rfl, fun hc => ?_⟩
    simp only [Bool.and_eq_true, decide_eq_true_eq] at hc
    refine ⟨by omega, fun r hr => ?_⟩
    obtain ⟨i, hi, e⟩ := mem_getD hr
    have := h i hi
    rw [e] at this
    omega
  · rw [h2 h]
    exact ⟨false, rfl, fun h => by cases h⟩

/-! ## The law on steps -/
def Few2 (b : TApiBook) : Prop := b.Reservations.length ≤ 2000000 ∧ b.Commitments.length ≤ 2000000 ∧ b.Verifications.length ≤ 2000000 ∧ b.Orders.length ≤ 2000000
theorem Same_true {b : TApiBook} (h : Few2 b) : F_r14_Same b b = some true := by
  obtain ⟨h1, h2, h3, h4⟩ := h
  simp only [F_r14_Same, S_r14_Same, Scr.den, cond_or]
  rw [if_neg (by simp), guardP_pos ⟨by omega, trivial⟩]
  obtain ⟨_, e1, _⟩ := rangeM_inv (body := fun i s => (S_r14_Same_b1 b b i s).den) (n := b.Reservations.length) (fun _ _ => True) (s0 := ()) trivial (fun i s hi _ => ⟨(), by
    simp only [S_r14_Same_b1, Scr.den]; rw [guardP_pos ⟨hi, trivial⟩, if_neg (by simp)], trivial⟩)
  rw [e1]
  simp only [outM]
  rw [guardP_pos ⟨by omega, trivial⟩]
  obtain ⟨_, e1, _⟩ := rangeM_inv (body := fun i s => (S_r14_Same_b2 b b i s).den) (n := b.Commitments.length) (fun _ _ => True) (s0 := ()) trivial (fun i s hi _ => ⟨(), by
    simp only [S_r14_Same_b2, Scr.den]; rw [guardP_pos ⟨hi, trivial⟩, if_neg (by simp)], trivial⟩)
  rw [e1]
  skip
  rw [guardP_pos ⟨by omega, trivial⟩]
  obtain ⟨_, e1, _⟩ := rangeM_inv (body := fun i s => (S_r14_Same_b3 b b i s).den) (n := b.Verifications.length) (fun _ _ => True) (s0 := ()) trivial (fun i s hi _ => ⟨(), by
    simp only [S_r14_Same_b3, Scr.den]; rw [guardP_pos ⟨hi, trivial⟩, if_neg (by simp)], trivial⟩)
  rw [e1]
  skip
  rw [guardP_pos ⟨by omega, trivial⟩]
  obtain ⟨_, e1, _⟩ := rangeM_inv (body := fun i s => (S_r14_Same_b4 b b i s).den) (n := b.Orders.length) (fun _ _ => True) (s0 := ()) trivial (fun i s hi _ => ⟨(), by
    simp only [S_r14_Same_b4, Scr.den]; rw [guardP_pos ⟨hi, trivial⟩, if_neg (by simp)], trivial⟩)
  rw [e1]
theorem step_few {b : TApiBook} (hb : Small b) : (∀ code y d n, Few2 (reserveS b code y d n).1) ∧ (∀ r d n p u, Few2 (commitS b r d n p u).1) ∧ (∀ c d n, Few2 (verifyS b c d n).1) ∧ (∀ v d, Few2 (orderS b v d).1) ∧ (∀ r n, Few2 (releaseS b r n).1) ∧ (∀ c n, Few2 (dropS b c n).1) ∧ ∀ v, Few2 (backS b v).1 := by
  obtain ⟨h1, h2, h3, h4⟩ := hb.1
  refine ⟨fun code y d n => ?_, fun r d n p u => ?_, fun c d n => ?_, fun v d => ?_, fun r n => ?_, fun c n => ?_, fun v => ?_⟩
  · unfold reserveS; repeat' split
    all_goals simp [Few2, nb, withR]
    omega
  · unfold commitS; repeat' split
    all_goals simp [Few2, nb, withC]
    omega
  · unfold verifyS; repeat' split
    all_goals simp [Few2, nb, withV]
    omega
  · unfold orderS; repeat' split
    all_goals simp [Few2, nb, withO]
    omega
  · unfold releaseS; repeat' split
    all_goals simp [Few2, nb, withR]
    omega
  · unfold dropS; repeat' split
    all_goals simp [Few2, nb, withC]
    omega
  · unfold backS; repeat' split
    all_goals simp [Few2, nb, withO]
    omega
theorem step_want {b : TApiBook} (hb : Small b) (i : Int) {code : List UInt8} (hc : code.length ≤ 60) (k : Nat → Int) : ∃ x, F_w14_step b i code k = some x ∧ F_w14_want b i code k = some x ∧ Few2 x.1 := by
  obtain ⟨f1, f2, f3, f4, f5, f6, f7⟩ := step_few hb
  simp only [F_w14_step, S_w14_step, F_w14_want, S_w14_want, Scr.den]
  by_cases c0 : (i == 0) = true
  · simp only [if_pos c0]
    by_cases c1 : decide (k 3 > 1) = true
    · simp only [if_pos c1, outM, Reserve_eq hb (show ([49] : List UInt8).length ≤ 1000000 by decide), r14_Reserve_eq hb (show ([49] : List UInt8).length ≤ 1000000 by decide), obind]
      exact ⟨_, rfl, rfl, f1 _ _ _ _⟩
    · simp only [if_neg c1, outM, Reserve_eq hb (show code.length ≤ 1000000 by omega), r14_Reserve_eq hb (show code.length ≤ 1000000 by omega), obind]
      exact ⟨_, rfl, rfl, f1 _ _ _ _⟩
  simp only [if_neg c0]
  by_cases c0 : (i == 1) = true
  · simp only [if_pos c0, Commit_eq hb, r14_Commit_eq hb, obind]
    exact ⟨_, rfl, rfl, f2 _ _ _ _ _⟩
  simp only [if_neg c0]
  by_cases c0 : (i == 2) = true
  · simp only [if_pos c0, Verify_eq hb, r14_Verify_eq hb, obind]
    exact ⟨_, rfl, rfl, f3 _ _ _⟩
  simp only [if_neg c0]
  by_cases c0 : (i == 3) = true
  · simp only [if_pos c0, Order_eq hb, r14_Order_eq hb, obind]
    exact ⟨_, rfl, rfl, f4 _ _⟩
  simp only [if_neg c0]
  by_cases c0 : (i == 4) = true
  · simp only [if_pos c0, Release_eq hb, r14_Release_eq hb, obind]
    exact ⟨_, rfl, rfl, f5 _ _⟩
  simp only [if_neg c0]
  by_cases c0 : (i == 5) = true
  · simp only [if_pos c0, Drop_eq hb, r14_Drop_eq hb, obind]
    exact ⟨_, rfl, rfl, f6 _ _⟩
  simp only [if_neg c0, Back_eq hb, r14_Back_eq hb, obind]
  exact ⟨_, rfl, rfl, f7 _⟩
theorem steps_body {x : TApiBook} (hx : Small x) {code : List UInt8} (hc : code.length ≤ 60) {k : Nat → Int} {step : Int → Option (Step Int Bool)}
    (hs : ∀ i, step i = if decide (i < 7) = true then (F_w14_step x i code k).bind fun r => (F_w14_want x i code k).bind fun q => (optD [(r.2 != q.2) = false] (F_r14_Same r.1 q.1) default).bind fun e => if (bif (r.2 != q.2) then true else !e) = true then some (.ret false) else some (.cont (IntKind.i64.wrap (i + 1))) else some (.brk i)) :
    ∃ s, iterM step 0 = some (.next s) := by
  obtain ⟨s, h1, _⟩ := iterM_inv (step := step) (fun i => (7 - i).toNat) (fun i => 0 ≤ i ∧ i ≤ 7) (fun _ => True) (fun i hi => by
    rw [hs]
    by_cases h7 : i < 7
    · left
      obtain ⟨q, e1, e2, e3⟩ := step_want hx i hc k
      rw [if_pos (by simpa using h7), e1, obind, e2, obind, optD_pos (by simp [AllP]), Same_true e3, obind, if_neg (by simp), wrapId (by omega) (by omega)]
      exact ⟨_, rfl, by omega, by omega⟩
    · right
      rw [if_neg (by simpa using h7)]
      exact ⟨_, rfl, trivial⟩) _ 0 (Nat.lt_succ_self _) (by omega)
  exact ⟨s, h1⟩
theorem CommitmentSteps_true (t : List Int) (raw : TApiBook) (code : List UInt8) (a b c d e : Int) : F_w14_CommitmentSteps t raw code a b c d e = some true := by
  simp only [F_w14_CommitmentSteps, S_w14_CommitmentSteps, Scr.den, cond_or]
  obtain ⟨C, hC, hsm⟩ := SmallBook_eq raw
  rw [hC, obind]
  by_cases hg : (!C || decide ((code.length : Int) > 60)) = true
  · rw [if_pos hg, awake_true]; rfl
  · rw [if_neg hg]
    simp only [Bool.or_eq_true, Bool.not_eq_true', decide_eq_true_eq, not_or] at hg
    have hraw := hsm (by simpa using hg.1)
    have hcode : code.length ≤ 60 := by omega
    obtain ⟨s, e1, t1⟩ := New_spec t
    obtain ⟨bk, s', e2, t2, hb, hlen⟩ := Book_spec (n := 20) (by omega) (by omega) t1
    obtain ⟨bb, s2, e3, t3, hbb⟩ := BentBook_spec hb.smN (by omega) t2
    simp only [e1, e2, e3, obind]
    have h3 : ∀ i, i < 3 → Small (([bk, bb, raw] : List TApiBook).getD i default) := fun i hi => by
      have : i = 0 ∨ i = 1 ∨ i = 2 := by omega
      rcases this with rfl | rfl | rfl
      · exact hb.small
      · exact hbb.small (by omega)
      · exact hraw.small (by omega)
    obtain ⟨_, e4, _⟩ := rangeM_inv (body := fun i s => (S_w14_CommitmentSteps_b3 raw code a b c d e (bk, s') (bb, s2) i s).den) (n := 3) (fun _ s => TapeOk s) t3 (fun i s hi hs => by
      simp only [S_w14_CommitmentSteps_b3, Scr.den]
      obtain ⟨x1, s3, q1, t4, _, _⟩ := Range_spec (lo := 0) (hi := 4) hs (by omega) (by omega) (by omega)
      obtain ⟨x2, s4, q2, t5, _, _⟩ := N_spec (n := 800) t4 (by omega) (by omega)
      obtain ⟨x3, s5, q3, t6, _, _⟩ := N_spec (n := 200) t5 (by omega) (by omega)
      obtain ⟨x4, s6, q4, t7, _, _⟩ := Range_spec (lo := 0) (hi := 3) t6 (by omega) (by omega) (by omega)
      obtain ⟨x5, s7, q5, t8, _, _⟩ := N_spec (n := 400) t7 (by omega) (by omega)
      obtain ⟨x6, s8, q6, t9, _, _⟩ := Range_spec (lo := 1) (hi := 3) t8 (by omega) (by omega) (by omega)
      obtain ⟨x7, s9, q7, t10, _, _⟩ := Range_spec (lo := 1) (hi := 30) t9 (by omega) (by omega) (by omega)
      obtain ⟨x8, s10, q8, t11, _⟩ := Pick_spec (l := [-1, 35991, 4679, 4680, 5040]) t10 (by decide) (by decide)
      obtain ⟨x9, s11, q9, t12, _⟩ := Pick_spec (l := [-1, 4400, 36000]) t11 (by decide) (by decide)
      simp only [q1, q2, q3, q4, q5, q6, q7, q8, q9, obind]
      obtain ⟨_, e5, _⟩ := rangeM_inv (body := fun j s => (S_w14_CommitmentSteps_b2 raw code a b c d e (bk, s') (bb, s2) i (x1, s3) (x2, s4) (x3, s5) (x4, s6) (x5, s7) (x6, s8) (x7, s9) (x8, s10) (x9, s11) j s).den) (n := 4) (fun _ _ => True) (s0 := ()) trivial (fun j s hj _ => by
        simp only [S_w14_CommitmentSteps_b2, Scr.den]
        obtain ⟨s, h⟩ := steps_body (h3 i hi) hcode (step := fun s => (S_w14_CommitmentSteps_b1 raw code a b c d e (bk, s') (bb, s2) i (x1, s3) (x2, s4) (x3, s5) (x4, s6) (x5, s7) (x6, s8) (x7, s9) (x8, s10) (x9, s11) j s).den) (fun _ => rfl)
        rw [h]
        exact ⟨(), rfl, trivial⟩)
      rw [e5]
      exact ⟨_, rfl, t12⟩)
    rw [e4]
    simp only [outM, awake_true, obind]
end Go.Proofs.YteelhiohkbbdhaaGreatDoor
