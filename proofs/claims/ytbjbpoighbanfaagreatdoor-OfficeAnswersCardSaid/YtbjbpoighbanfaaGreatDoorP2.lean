/- A part of the proof: plain laws of what the functions compute. No condition. -/
import Derived.Test.YtbjbpoighbanfaaGreatDoorP1
namespace Go.Proofs.YtbjbpoighbanfaaGreatDoor
open Go Go.TA
/-! ## The place of a right -/
def posR (l : List TApiRight) (r : TApiRight) : Nat := l.findIdx (fun x => decide (0 ≤ cmpR x r))
def putL (l : List TApiRight) (r : TApiRight) : List TApiRight := if hasR l r.Code r.Year = true then l.set (rix l r.Code r.Year) r else insL l (posR l r) r
theorem getD_el {α : Type} [Inhabited α] {l : List α} {i : Nat} (hi : i < l.length) : l.getD i default = l[i] := by simp [List.getD_eq_getElem?_getD, List.getElem?_eq_getElem hi]
theorem posR_le (l : List TApiRight) (r : TApiRight) : posR l r ≤ l.length := List.findIdx_le_length
theorem posR_lt {l : List TApiRight} {r : TApiRight} {i : Nat} (hi : i < posR l r) : cmpR (l.getD i default) r < 0 := by
  have hl : i < l.length := Nat.lt_of_lt_of_le hi (posR_le l r)
  have := List.not_of_lt_findIdx hi
  rw [getD_el hl]
  simpa using this
theorem posR_at {l : List TApiRight} {r : TApiRight} (hi : posR l r < l.length) : 0 ≤ cmpR (l.getD (posR l r) default) r := by
  have := List.findIdx_getElem (xs := l) (p := fun x => decide (0 ≤ cmpR x r)) (w := hi)
  rw [getD_el hi]
  exact of_decide_eq_true this
theorem posR_ge {l : List TApiRight} {r : TApiRight} (hS : Srt l) (hg : ∀ x ∈ l, RtOk x) {i : Nat} (hi : i < l.length) (hp : posR l r ≤ i) : 0 ≤ cmpR (l.getD i default) r := by
  have h0 := posR_at (l := l) (r := r) (by omega)
  by_cases e : posR l r = i
  · rwa [e] at h0
  · have h1 := hS.lt hg (show posR l r < i by omega) hi
    by_cases h : cmpR (l.getD i default) r < 0
    · have := cmpR_trans (hg _ (getD_mem (by omega))).1 (hg _ (getD_mem hi)).1 h1 h
      omega
    · omega
theorem half_eq {i j : Nat} (h : i + j < 4611686018427387904) : IntKind.i64.wrap ((IntKind.u64.wrap (IntKind.i64.wrap ((i : Int) + (j : Int)))).fdiv (2 ^ (min (1 : Int).toNat IntKind.u64.bits))) = (((i + j) / 2 : Nat) : Int) := by
  rw [wrapId (n := (i : Int) + (j : Int)) (by omega) (by omega)]
  have e : IntKind.u64.wrap ((i : Int) + (j : Int)) = (i : Int) + (j : Int) := by
    simp only [IntKind.wrap, IntKind.bits, IntKind.signed]
    simp
    omega
  rw [e]
  have e2 : (2 : Int) ^ (min (1 : Int).toNat IntKind.u64.bits) = 2 := by decide
  rw [e2, Int.fdiv_eq_ediv_of_nonneg _ (by omega), wrapId (by omega) (by omega)]
  omega
theorem RtOk.len {r : TApiRight} (h : RtOk r) : r.Code.length ≤ 1000000 := by have := good_len h.1; omega
theorem getD_len {l : List TApiRight} (hg : ∀ x ∈ l, RtOk x) (k : Nat) : (l.getD k default).Code.length ≤ 1000000 := by
  by_cases h : k < l.length
  · exact (hg _ (getD_mem h)).len
  · rw [List.getD_eq_getElem?_getD, List.getElem?_eq_none (by omega)]; exact Nat.zero_le _
theorem bsearch_eq {l : List TApiRight} {r : TApiRight} (hl : l.length ≤ 1000000) (hS : Srt l) (hg : ∀ x ∈ l, RtOk x) (hr : RtOk r) :
    F_slices_BSF_Right_office_compare r l = some ((posR l r : Int), decide (posR l r < l.length) && (cmpR (l.getD (posR l r) default) r == 0)) := by
  have hc : ∀ k, F_office_compare (l.getD k default) r = some (cmpR (l.getD k default) r) := fun k => officeCompare_eq (getD_len hg k) hr.len
  have hp := posR_le l r
  simp only [F_slices_BSF_Right_office_compare, S_slices_BSF_Right_office_compare, Scr.den]
  obtain ⟨s, e, hJ⟩ := iterM_inv (step := fun s => (S_slices_BSF_Right_office_compare_b1 r l s).den) (fun s => (s.2 - s.1).toNat) (fun s => ∃ i j : Nat, s = ((i : Int), (j : Int)) ∧ i ≤ posR l r ∧ posR l r ≤ j ∧ j ≤ l.length) (fun s => s.1 = (posR l r : Int)) (fun s hI => by
    obtain ⟨i, j, rfl, h1, h2, h3⟩ := hI
    simp only [S_slices_BSF_Right_office_compare_b1, Scr.den, half_eq (show i + j < 4611686018427387904 by omega), hc, obind, Int.toNat_natCast]
    by_cases hij : i < j
    · left
      rw [if_pos (by simpa using hij), guardP_pos ⟨by omega, by omega, by omega, trivial⟩, Nat.zero_add]
      by_cases hlt : cmpR (l.getD ((i + j) / 2) default) r < 0
      · rw [if_pos (by simpa using hlt), wrapId (by omega) (by omega)]
        have : (i + j) / 2 < posR l r := by
          by_cases h : (i + j) / 2 < posR l r
          · exact h
          · have := posR_ge (r := r) hS hg (show (i + j) / 2 < l.length by omega) (by omega)
            omega
        exact ⟨_, rfl, ⟨(i + j) / 2 + 1, j, by simp, by omega, h2, h3⟩, by simp only; omega⟩
      · rw [if_neg (by simpa using hlt)]
        have : posR l r ≤ (i + j) / 2 := by
          by_cases h : posR l r ≤ (i + j) / 2
          · exact h
          · have := posR_lt (show (i + j) / 2 < posR l r by omega)
            omega
        exact ⟨_, rfl, ⟨i, (i + j) / 2, rfl, h1, this, by omega⟩, by simp only; omega⟩
    · right
      rw [if_neg (by simpa using hij)]
      exact ⟨_, rfl, by simp only; omega⟩) _ (0, (l.length : Int)) (Nat.lt_succ_self _) ⟨0, l.length, rfl, by omega, hp, by omega⟩
  rw [e]
  simp only [outM, hJ, Int.toNat_natCast, hc, cond_and, Nat.zero_add]
  by_cases h : posR l r < l.length
  · rw [optD_pos (by exact ⟨by simp; omega, trivial⟩), obind, guardP_pos ⟨fun _ => by omega, fun _ => h, fun _ => h, trivial⟩]
    simp [h]
  · rw [optD_none (by simp [AllP]; omega), obind, guardP_pos ⟨fun _ => by omega, fun h' => absurd h (by simp [AllP] at h'; omega), fun h' => absurd h (by simp [AllP] at h'; omega), trivial⟩]
    simp [h]
theorem has_pos {l : List TApiRight} {r : TApiRight} (hS : Srt l) (hg : ∀ x ∈ l, RtOk x) (hr : RtOk r) :
    (decide (posR l r < l.length) && (cmpR (l.getD (posR l r) default) r == 0)) = hasR l r.Code r.Year ∧ (hasR l r.Code r.Year = true → rix l r.Code r.Year = posR l r) := by
  have key : hasR l r.Code r.Year = true → rix l r.Code r.Year = posR l r := fun h => by
    obtain ⟨h1, h2, h3⟩ := rix_lt h
    have h4 := hg _ (getD_mem h1)
    have h5 : cmpR (l.getD (rix l r.Code r.Year) default) r = 0 := (cmpR_eq h4.1 hr.1).2 ⟨h2, h3⟩
    rcases Nat.lt_trichotomy (rix l r.Code r.Year) (posR l r) with h | h | h
    · have := posR_lt h; omega
    · exact h
    · have h6 := hS.lt hg h h1
      have h7 := posR_at (l := l) (r := r) (by omega)
      have h8 := hg _ (getD_mem (show posR l r < l.length by omega))
      have : cmpR (l.getD (posR l r) default) r < 0 := by
        rw [cmpR_lt (.inl h8.1)] at h6 ⊢
        rw [h2, h3] at h6
        exact h6
      omega
  refine ⟨?_, key⟩
  rw [Bool.eq_iff_iff]
  simp only [Bool.and_eq_true, decide_eq_true_eq, beq_iff_eq]
  constructor
  · rintro ⟨h1, h2⟩
    obtain ⟨h3, h4⟩ := (cmpR_eq (hg _ (getD_mem h1)).1 hr.1).1 h2
    exact has_iff.2 ⟨_, getD_mem h1, h3, h4⟩
  · intro h
    obtain ⟨h1, h2, h3⟩ := rix_lt h
    rw [key h] at h1 h2 h3
    exact ⟨h1, (cmpR_eq (hg _ (getD_mem h1)).1 hr.1).2 ⟨h2, h3⟩⟩
theorem cloneRt_rw {l : List TApiRight} (hl : l.length ≤ 1000000) : F_slices_Clone_Right_rw l = some l := by
  simp only [F_slices_Clone_Right_rw, S_slices_Clone_Right_rw, Scr.den]
  rw [guardP_pos ⟨by omega, trivial⟩]
theorem putL_len (l : List TApiRight) (r : TApiRight) : (putL l r).length ≤ l.length + 1 := by
  unfold putL
  split
  · rw [List.length_set]; omega
  · rw [insL_length]; omega
theorem put_eq {o : TApiOffice} {r : TApiRight} (hl : o.Rights.length ≤ 1000000) (hS : Srt o.Rights) (hg : ∀ x ∈ o.Rights, RtOk x) (hr : RtOk r) : F_office_put o r = some ⟨o.Number, putL o.Rights r, o.Book⟩ := by
  obtain ⟨h1, h2⟩ := has_pos hS hg hr
  have hp := posR_le o.Rights r
  have hlen := putL_len o.Rights r
  simp only [F_office_put, S_office_put, Scr.den, cloneRt_rw hl, bsearch_eq hl hS hg hr, obind, h1, Int.toNat_natCast, Nat.zero_add]
  unfold putL at hlen ⊢
  by_cases h : hasR o.Rights r.Code r.Year = true
  · have h3 := (rix_lt h).1
    rw [h2 h] at h3
    rw [if_pos h] at hlen
    rw [if_pos h, if_pos h, guardP_pos ⟨by omega, h3, h3, trivial⟩, h2 h]
    simp only [outM]
    rw [guardP_pos ⟨by rw [List.length_set]; omega, trivial⟩]
  · rw [if_neg h] at hlen
    rw [if_neg h, if_neg h]
    simp only [F_slices_Insert_Right, Int.toNat_natCast]
    rw [guardP_pos ⟨by omega, by omega, by omega⟩]
    simp only [obind, outM]
    rw [guardP_pos ⟨by omega, trivial⟩]
end Go.Proofs.YtbjbpoighbanfaaGreatDoor
namespace Go.Proofs.YtbjbpoighbanfaaGreatDoor
open Go Go.TA
/-! ## What an office does -/
def noO : TApiOffice := ⟨0, [], nb⟩
def msgOf (p : TApiOp) : TApiMessage := ⟨0, 0, p.Code, p.Year, p.Granted, p.AskedBack, 0, 0⟩
def hearS (o : TApiOffice) (p : TApiOp) : TApiOffice × Int :=
  if ¬ good p.Code = true then (noO, 5) else
  if p.Year < 0 ∨ p.Year > 99 then (noO, 2) else
  if hasR o.Rights p.Code p.Year = false ∧ (o.Rights.length : Int) = 60 then (noO, 3) else
  if (learnS (rightV o.Rights p.Code p.Year) (msgOf p)).2 ≠ 0 then (noO, (learnS (rightV o.Rights p.Code p.Year) (msgOf p)).2) else
  (⟨o.Number, putL o.Rights (learnS (rightV o.Rights p.Code p.Year) (msgOf p)).1, o.Book⟩, 0)
def giveS (o : TApiOffice) (p : TApiOp) : TApiOffice × Int :=
  if ¬ hasR o.Rights p.Code p.Year = true then (noO, 6) else
  if (returnS (rightV o.Rights p.Code p.Year) (usedV o.Book p.Code p.Year) p.Amount).2 ≠ 0 then (noO, (returnS (rightV o.Rights p.Code p.Year) (usedV o.Book p.Code p.Year) p.Amount).2) else
  (⟨o.Number, putL o.Rights (returnS (rightV o.Rights p.Code p.Year) (usedV o.Book p.Code p.Year) p.Amount).1, o.Book⟩, 0)
noncomputable def bookS (b : TApiBook) (p : TApiOp) : TApiBook × Int :=
  if p.Kind = 1 then reserveS b p.Code p.Year p.Day p.Amount else
  if p.Kind = 2 then commitS b p.Of p.Day p.Amount p.Payee p.Due else
  if p.Kind = 3 then verifyS b p.Of p.Day p.Amount else
  if p.Kind = 4 then orderS b p.Of p.Day else
  if p.Kind = 5 then releaseS b p.Of p.Amount else
  if p.Kind = 6 then dropS b p.Of p.Amount else backS b p.Of
noncomputable def stepS (o : TApiOffice) (p : TApiOp) : TApiOffice × Int :=
  if p.Kind = 8 then hearS o p else
  if p.Kind = 7 then giveS o p else
  if (bookS o.Book p).2 ≠ 0 then (noO, (bookS o.Book p).2) else
  if p.Kind = 1 ∧ p.Amount > unusedV o p.Code p.Year then (noO, 15) else
  (⟨o.Number, o.Rights, (bookS o.Book p).1⟩, 0)
open Classical in
noncomputable def doS (o : TApiOffice) (p : TApiOp) : TApiOffice × Int :=
  if ¬ VO o ∨ p.Kind < 1 ∨ p.Kind > 9 then (noO, 1) else stepS o p
theorem VO.srt {o : TApiOffice} (h : VO o) : Srt o.Rights := h.2.2.2.2.1
theorem VO.ok {o : TApiOffice} (h : VO o) : ∀ x ∈ o.Rights, RtOk x := h.2.2.2.1
theorem VO.val {o : TApiOffice} (h : VO o) : Val o.Book := h.2.2.1
theorem VO.len {o : TApiOffice} (h : VO o) : o.Rights.length ≤ 60 := h.2.1
theorem rightV_cy (l : List TApiRight) (c : List UInt8) (y : Int) : (rightV l c y).Code = c ∧ (rightV l c y).Year = y := by
  by_cases h : hasR l c y = true
  · exact (rightV_mem h).2
  · unfold rightV; rw [if_neg h]; exact ⟨rfl, rfl⟩
theorem rightV_len {l : List TApiRight} (_hg : ∀ x ∈ l, RtOk x) {c : List UInt8} (hc : c.length ≤ 1000000) (y : Int) : (rightV l c y).Code.length ≤ 1000000 := by
  rw [(rightV_cy l c y).1]; exact hc
theorem learnS_ok {r : TApiRight} {m : TApiMessage} (h : (learnS r m).2 = 0) : RtOk r ∧ tot m.Granted ∧ tot m.Asked ∧ (learnS r m).1 = ⟨r.Code, r.Year, if m.Granted > r.Granted then m.Granted else r.Granted, if m.Asked > r.Asked then m.Asked else r.Asked, r.Returned⟩ ∧ RtOk (learnS r m).1 := by
  unfold learnS at h ⊢
  split at h
  · cases h
  · rename_i h1
    split at h
    · cases h
    · rename_i h2
      have h1 := Classical.not_not.mp h1
      have h2 := Classical.not_not.mp h2
      rw [if_neg (fun k => k h1), if_neg (fun k => k h2)]
      refine ⟨h1.1, h2.1, h2.2, rfl, ?_⟩
      have h3 := h1.1
      unfold RtOk tot at *
      refine ⟨h3.1, h3.2.1, ?_, ?_, ?_⟩
      · simp only; split <;> omega
      · simp only; split <;> omega
      · simp only; split <;> omega
theorem returnS_ok {r : TApiRight} {u n : Int} (h : (returnS r u n).2 = 0) : RtOk r ∧ (0 ≤ u ∧ u ≤ r.Granted - r.Returned) ∧ 1 ≤ n ∧ n ≤ r.Granted - r.Returned - u ∧ (returnS r u n).1 = ⟨r.Code, r.Year, r.Granted, r.Asked, r.Returned + n⟩ ∧ RtOk (returnS r u n).1 := by
  unfold returnS at h ⊢
  split at h
  · cases h
  · rename_i h1
    split at h
    · cases h
    · rename_i h2
      split at h
      · cases h
      · rename_i h3
        have h1 := Classical.not_not.mp h1
        have h2 := Classical.not_not.mp h2
        have h4 := h1.1
        unfold RtOk at h4
        have w1 : IntKind.i64.wrap (r.Granted - r.Returned) = r.Granted - r.Returned := wrapId (by omega) (by omega)
        rw [if_neg (fun k => k h1), if_neg (fun k => k h2), if_neg h3]
        obtain ⟨h5, h6, h7⟩ := h1
        rw [w1] at h7 h3
        rw [wrapId (n := r.Granted - r.Returned - u) (by omega) (by omega)] at h3
        rw [wrapId (n := r.Returned + n) (by omega) (by omega)]
        refine ⟨h5, ⟨h6, h7⟩, h2.1, by omega, rfl, h4.1, h4.2.1, h4.2.2.1, h4.2.2.2.1, ?_⟩
        simp only; omega
theorem good_dec {l : List UInt8} : (((parts l).length : Int) == 0) = !good l := by
  rw [← good_parts, Bool.eq_iff_iff]; simp
theorem hear_eq {o : TApiOffice} (hv : VO o) {p : TApiOp} (hc : p.Code.length ≤ 1000000) : F_office_hear o p = some (hearS o p) := by
  have hl := hv.len
  have hr := rightV_len hv.ok hc p.Year
  simp only [F_office_hear, S_office_hear, Scr.den, Parts_eq (show p.Code.length ≤ 1099511627776 by omega), has_eq, Right_eq, rights_Learn_eq hr, obind, cond_or, cond_and, good_dec]
  unfold hearS
  refine st (by simp) (fun _ => rfl) fun _ => ?_
  refine st (by simp) (fun _ => rfl) fun _ => ?_
  refine st (by simp) (fun _ => rfl) fun _ => ?_
  refine st (by simp only [bne_iff_ne, ne_eq]; exact Iff.rfl) (fun _ => rfl) fun h => ?_
  have h := Classical.not_not.mp h
  have h1 := learnS_ok h
  rw [show (⟨0, 0, p.Code, p.Year, p.Granted, p.AskedBack, 0, 0⟩ : TApiMessage) = msgOf p from rfl, put_eq (by omega) hv.srt hv.ok h1.2.2.2.2]
  rfl
theorem give_eq {o : TApiOffice} (hv : VO o) {p : TApiOp} (hc : p.Code.length ≤ 1000000) : F_office_give o p = some (giveS o p) := by
  have hl := hv.len
  have hr := rightV_len hv.ok hc p.Year
  simp only [F_office_give, S_office_give, Scr.den, has_eq, Right_eq, Used_eq, rights_Return_eq hr, obind]
  unfold giveS
  refine st (by simp) (fun _ => rfl) fun _ => ?_
  refine st (by simp only [bne_iff_ne, ne_eq]) (fun _ => rfl) fun h => ?_
  have h := Classical.not_not.mp h
  have h1 := returnS_ok h
  rw [put_eq (by omega) hv.srt hv.ok h1.2.2.2.2.2]
  rfl
theorem book_eq {b : TApiBook} (hb : Small b) {p : TApiOp} (hc : p.Code.length ≤ 1000000) : F_office_book b p = some (bookS b p) := by
  simp only [F_office_book, S_office_book, Scr.den, Reserve_eq hb hc, Commit_eq hb, Verify_eq hb, Order_eq hb, Release_eq hb, Drop_eq hb, Back_eq hb, obind]
  unfold bookS
  refine st (by simp only [beq_iff_eq]) (fun _ => rfl) fun _ => ?_
  refine st (by simp only [beq_iff_eq]) (fun _ => rfl) fun _ => ?_
  refine st (by simp only [beq_iff_eq]) (fun _ => rfl) fun _ => ?_
  refine st (by simp only [beq_iff_eq]) (fun _ => rfl) fun _ => ?_
  refine st (by simp only [beq_iff_eq]) (fun _ => rfl) fun _ => ?_
  refine st (by simp only [beq_iff_eq]) (fun _ => rfl) fun _ => rfl
theorem and_gtd {a : Bool} {n x d : Int} {_ : Decidable (AllP [a = true])} : (a && decide (n > if AllP [a = true] then x else d)) = (a && decide (n > x)) := by
  cases a
  · rfl
  · rw [if_pos ⟨rfl, trivial⟩]
theorem step_eq {o : TApiOffice} (hv : VO o) (hs : SmO o) {p : TApiOp} (hc : p.Code.length ≤ 1000000) : F_office_Step o p = some (stepS o p) := by
  open Classical in simp only [F_office_Step, S_office_Step, Scr.den, hear_eq hv hc, give_eq hv hc, book_eq hs.1 hc, Unused_eq, optD_tot, obind, cond_and, and_gtd]
  unfold stepS
  refine st (by simp only [beq_iff_eq]) (fun _ => rfl) fun _ => ?_
  refine st (by simp only [beq_iff_eq]) (fun _ => rfl) fun _ => ?_
  refine st (by simp only [bne_iff_ne, ne_eq]) (fun _ => rfl) fun _ => ?_
  refine st (by simp only [Bool.and_eq_true, beq_iff_eq, decide_eq_true_eq]) (fun _ => rfl) fun _ => rfl
theorem cloneRt {l : List TApiRight} (hl : l.length ≤ 2000000) : F_slices_Clone_Right l = some l := by
  simp only [F_slices_Clone_Right, S_slices_Clone_Right, Scr.den]
  rw [guardP_pos ⟨by omega, trivial⟩]
theorem clone2O {l : List TApiOrder} (hl : l.length ≤ 2000000) : F_slices_Clone_Order l = some l := by
  simp only [F_slices_Clone_Order, S_slices_Clone_Order, Scr.den]
  rw [guardP_pos ⟨by omega, trivial⟩]
theorem clone2R {l : List TApiReservation} (hl : l.length ≤ 2000000) : F_slices_Clone_Reservation l = some l := by
  simp only [F_slices_Clone_Reservation, S_slices_Clone_Reservation, Scr.den]
  rw [guardP_pos ⟨by omega, trivial⟩]
theorem clone2C {l : List TApiCommitment} (hl : l.length ≤ 2000000) : F_slices_Clone_Commitment l = some l := by
  simp only [F_slices_Clone_Commitment, S_slices_Clone_Commitment, Scr.den]
  rw [guardP_pos ⟨by omega, trivial⟩]
theorem clone2V {l : List TApiVerification} (hl : l.length ≤ 2000000) : F_slices_Clone_Verification l = some l := by
  simp only [F_slices_Clone_Verification, S_slices_Clone_Verification, Scr.den]
  rw [guardP_pos ⟨by omega, trivial⟩]
def Few3 (o : TApiOffice) : Prop := o.Rights.length ≤ 2000000 ∧ Few2 o.Book
theorem fresh_eq {o : TApiOffice} (h : Few3 o) (e : Int) : F_office_fresh o e = some (o, e) := by
  simp only [F_office_fresh, S_office_fresh, Scr.den, cloneRt h.1, clone2R h.2.1, clone2C h.2.2.1, clone2V h.2.2.2.1, clone2O h.2.2.2.2, obind]
theorem nb_few : Few2 nb := by simp [Few2, nb]
theorem noO_few : Few3 noO := ⟨by simp [noO], nb_few⟩
theorem book_few {b : TApiBook} (hb : Small b) (p : TApiOp) : Few2 (bookS b p).1 := by
  obtain ⟨f1, f2, f3, f4, f5, f6, f7⟩ := step_few hb
  unfold bookS
  split
  · exact f1 _ _ _ _
  split
  · exact f2 _ _ _ _ _
  split
  · exact f3 _ _ _
  split
  · exact f4 _ _
  split
  · exact f5 _ _
  split
  · exact f6 _ _
  · exact f7 _
theorem SmO.few {o : TApiOffice} (hs : SmO o) : Few3 o := ⟨by have := hs.2.1; omega, by
  obtain ⟨h1, h2, h3, h4⟩ := hs.1.1
  exact ⟨by omega, by omega, by omega, by omega⟩⟩
theorem stepS_few {o : TApiOffice} (hs : SmO o) (p : TApiOp) : Few3 (stepS o p).1 := by
  have h1 := hs.2.1
  have h2 : ∀ r, Few3 ⟨o.Number, putL o.Rights r, o.Book⟩ := fun r => ⟨by have := putL_len o.Rights r; simp only; omega, hs.few.2⟩
  unfold stepS
  split
  · unfold hearS
    repeat' split
    all_goals first | exact noO_few | exact h2 _
  split
  · unfold giveS
    repeat' split
    all_goals first | exact noO_few | exact h2 _
  split
  · exact noO_few
  split
  · exact noO_few
  · exact ⟨by simp only; omega, book_few hs.1 p⟩
theorem doS_few {o : TApiOffice} (hs : SmO o) (p : TApiOp) : Few3 (doS o p).1 := by
  unfold doS
  split
  · exact noO_few
  · exact stepS_few hs p
theorem Do_eq {o : TApiOffice} (hs : SmO o) {p : TApiOp} (hc : p.Code.length ≤ 1000000) : F_office_Do o p = some (doS o p) := by
  simp only [F_office_Do, S_office_Do, Scr.den, officeValid_eq hs, obind, cond_or]
  unfold doS
  refine st (by simp only [Bool.or_eq_true, Bool.not_eq_true', decide_eq_false_iff_not, decide_eq_true_eq, gt_iff_lt, or_assoc]) (fun _ => rfl) fun h => ?_
  have hv : VO o := Classical.byContradiction fun k => h (.inl k)
  simp only [step_eq hv hs hc, obind, fresh_eq (stepS_few hs p)]
/-! ## The reference's -/
theorem copy_ins (l : List TApiRight) (p : Nat) (hp : p ≤ l.length) (z r : TApiRight) :
    (copyL (l ++ [z]) (0 + (p + 1)) (min ((l ++ [z]).length - p) ((l ++ [z]).length - (p + 1))) (fun i => (l ++ [z]).getD ((0 + p) + i) default)).set (0 + p) r = insL l p r := by
  refine List.ext_getElem (by simp [copyL, insL]; omega) fun i h1 h2 => ?_
  have hi : i < l.length + 1 := by rw [insL_length] at h2; exact h2
  rw [← getD_el h2, insL_get hp, List.getElem_set]
  by_cases e : i < p
  · rw [if_neg (by omega), if_pos e]
    simp only [copyL, List.getElem_map, List.getElem_range]
    rw [if_neg (by omega), List.getD_eq_getElem?_getD, List.getD_eq_getElem?_getD, List.getElem?_append_left (by omega)]
  · by_cases e2 : i = p
    · rw [if_pos (by omega), if_neg e, if_pos e2]
    · rw [if_neg (by omega), if_neg e, if_neg e2]
      simp only [copyL, List.getElem_map, List.getElem_range, List.length_append, List.length_singleton]
      rw [if_pos (by omega), show 0 + p + (i - (0 + (p + 1))) = i - 1 by omega, List.getD_eq_getElem?_getD, List.getD_eq_getElem?_getD, List.getElem?_append_left (by omega)]
theorem r15_place {o : TApiOffice} (hv : VO o) {q : R_r13_Learn} (hr : RtOk q.1) (hn : hasR o.Rights q.1.Code q.1.Year = false) :
    iterM (fun s => (S_r15_hear_b1 o q s).den) 0 = some (.next (posR o.Rights q.1 : Int)) := by
  have hl := hv.len
  have hp := posR_le o.Rights q.1
  obtain ⟨s, e, hJ⟩ := iterM_inv (step := fun s => (S_r15_hear_b1 o q s).den) (fun s => (61 - s).toNat) (fun s => 0 ≤ s ∧ s ≤ (posR o.Rights q.1 : Int)) (fun s => s = (posR o.Rights q.1 : Int)) (fun s hI => by
    obtain ⟨i, rfl⟩ := Int.eq_ofNat_of_zero_le hI.1
    have hi : i ≤ posR o.Rights q.1 := by omega
    simp only [S_r15_hear_b1, Scr.den, Int.toNat_natCast, Nat.zero_add, cond_or, cond_and]
    by_cases h : i < o.Rights.length
    · have hg := hv.ok _ (getD_mem h)
      rw [if_pos (by simp; omega), r03_Compare_eq hg.1 hr.1, obind, guardP_pos ⟨by omega, h, h, trivial⟩, guardP_pos ⟨fun _ => by omega, fun _ => h, fun _ => h, trivial⟩]
      have hc := cmpR_lt (a := o.Rights.getD i default) (b := q.1) (.inl hg.1)
      have hne : cmpR (o.Rights.getD i default) q.1 ≠ 0 := fun h0 => by
        obtain ⟨k1, k2⟩ := (cmpR_eq hg.1 hr.1).1 h0
        have : hasR o.Rights q.1.Code q.1.Year = true := has_iff.2 ⟨_, getD_mem h, k1, k2⟩
        rw [hn] at this; cases this
      by_cases hip : i < posR o.Rights q.1
      · left
        have hlt := hc.1 (posR_lt hip)
        rw [if_neg (by
          simp only [Bool.or_eq_true, Bool.and_eq_true, decide_eq_true_eq, beq_iff_eq]
          exact fun k => ltr hlt (k.imp id fun k => ⟨k.1, by omega⟩)), wrapId (by omega) (by omega)]
        exact ⟨_, rfl, ⟨by omega, by omega⟩, by omega⟩
      · right
        have hge : 0 ≤ cmpR (o.Rights.getD i default) q.1 := by
          have : i = posR o.Rights q.1 := by omega
          subst this; exact posR_at h
        rw [if_pos (by
          have k1 : ¬ _ := fun k => absurd (hc.2 k) (by omega)
          have k2 : ¬ (lexC (parts (o.Rights.getD i default).Code) (parts q.1.Code) = 0 ∧ (o.Rights.getD i default).Year = q.1.Year) := fun k => hne ((cmpR_eq hg.1 hr.1).2 ⟨parts_inj hg.1 hr.1 (lexC_eq k.1), k.2⟩)
          simp only [Bool.or_eq_true, Bool.and_eq_true, decide_eq_true_eq, beq_iff_eq]
          rcases ltr' k1 with k | ⟨k, k'⟩
          · exact .inl k
          · exact .inr ⟨k, by have : ¬ _ := fun e => k2 ⟨k, e⟩; omega⟩)]
        exact ⟨_, rfl, by omega⟩
    · right
      rw [if_neg (by simpa using h)]
      exact ⟨_, rfl, by omega⟩) _ 0 (Nat.lt_succ_self _) ⟨by omega, by omega⟩
  rw [e, hJ]
theorem r15_hear_eq {o : TApiOffice} (hv : VO o) {p : TApiOp} (hc : p.Code.length ≤ 1000000) : F_r15_hear o p = some (hearS o p) := by
  have hl := hv.len
  have hr := rightV_len hv.ok hc p.Year
  simp only [F_r15_hear, S_r15_hear, Scr.den, r03_Good_eq (show p.Code.length < 4611686018427387904 by omega), at_eq, r15_Right_eq, r13_Learn_eq hr, obind, cond_or, cond_and]
  unfold hearS
  refine st (by simp) (fun _ => rfl) fun _ => ?_
  refine st (by simp) (fun _ => rfl) fun _ => ?_
  refine st (by cases hh : hasR o.Rights p.Code p.Year <;> simp <;> (try exact fun h1 => absurd h1 (Int.not_lt.2 (Int.natCast_nonneg _)))) (fun _ => rfl) fun _ => ?_
  refine st (by simp only [bne_iff_ne, ne_eq]; exact Iff.rfl) (fun _ => rfl) fun h => ?_
  have h := Classical.not_not.mp h
  have h1 := learnS_ok h
  rw [show (⟨0, 0, p.Code, p.Year, p.Granted, p.AskedBack, 0, 0⟩ : TApiMessage) = msgOf p from rfl, guardP_pos ⟨by omega, trivial⟩]
  have hcy : (learnS (rightV o.Rights p.Code p.Year) (msgOf p)).1.Code = p.Code ∧ (learnS (rightV o.Rights p.Code p.Year) (msgOf p)).1.Year = p.Year := by rw [h1.2.2.2.1]; exact rightV_cy _ _ _
  generalize hq : learnS (rightV o.Rights p.Code p.Year) (msgOf p) = q at h h1 hcy ⊢
  have hlen := putL_len o.Rights q.1
  have hp := posR_le o.Rights q.1
  unfold putL at hlen ⊢
  rw [hcy.1, hcy.2] at hlen ⊢
  by_cases hh : hasR o.Rights p.Code p.Year = true
  · have h3 := (rix_lt hh).1
    rw [if_pos hh] at hlen
    simp only [if_pos hh]
    rw [if_neg (by simp)]
    simp only [outM, Int.toNat_natCast, Nat.zero_add]
    rw [guardP_pos ⟨by omega, h3, h3, trivial⟩, guardP_pos ⟨by rw [List.length_set]; omega, trivial⟩]
  · rw [if_neg hh] at hlen
    simp only [if_neg hh]
    have hn : hasR o.Rights q.1.Code q.1.Year = false := by rw [hcy.1, hcy.2]; simpa using hh
    have hw : (IntKind.i64.wrap ((posR o.Rights q.1 : Int) + 1)).toNat = posR o.Rights q.1 + 1 := by rw [wrapId (by omega) (by omega)]; omega
    have hw' : IntKind.i64.wrap ((posR o.Rights q.1 : Int) + 1) = (posR o.Rights q.1 : Int) + 1 := wrapId (by omega) (by omega)
    rw [if_pos (by decide), r15_place hv h1.2.2.2.2 hn]
    simp only [outM, Int.toNat_natCast, hw]
    rw [guardP_pos ⟨by omega, trivial⟩, guardP_pos ⟨by rw [hw']; omega, by rw [List.length_append, List.length_singleton]; omega, by omega, by rw [List.length_append, List.length_singleton]; omega, trivial⟩]
    simp only [Int.toNat_natCast]
    rw [copy_ins o.Rights (posR o.Rights q.1) hp]
    rw [insL_length] at hlen
    rw [guardP_pos ⟨by omega, by rw [copyL_length, List.length_append, List.length_singleton]; omega, by rw [copyL_length, List.length_append, List.length_singleton]; omega, trivial⟩, guardP_pos ⟨by rw [insL_length]; omega, trivial⟩]
theorem r15_Do_eq {o : TApiOffice} (hs : SmO o) {p : TApiOp} (hc : p.Code.length ≤ 1000000) : F_r15_Do o p = some (doS o p) := by
  simp only [F_r15_Do, S_r15_Do, Scr.den, r15_Valid_eq hs, r14_Reserve_eq hs.1 hc, r14_Commit_eq hs.1, r14_Verify_eq hs.1, r14_Order_eq hs.1, r14_Release_eq hs.1, r14_Drop_eq hs.1, r14_Back_eq hs.1, r15_Unused_eq, r14_Used_eq, at_eq, obind, cond_and]
  by_cases hv : VO o
  · rw [if_neg (by simp [hv])]
    have hl := hv.len
    have fin : ∀ x : TApiBook × Int, outM (some (Out.next (x.1, x.2))) (fun (s : TApiBook × Int) => if (s.2 != 0) = true then some (noO, s.2) else some ((⟨o.Number, o.Rights, s.1⟩ : TApiOffice), (0 : Int))) some = some (if x.2 ≠ 0 then (noO, x.2) else (⟨o.Number, o.Rights, x.1⟩, 0)) := fun x => by
      simp only [outM]
      by_cases h : x.2 = 0 <;> simp [h]
    have hd : ∀ {k : Int}, p.Kind = k → 1 ≤ k → k ≤ 9 → doS o p = stepS o p := fun h h1 h2 => by
      unfold doS; rw [if_neg (fun k => k.elim (fun k => k hv) fun k => by omega)]
    by_cases c1 : p.Kind = 1
    · rw [if_pos (by simpa using c1), hd c1 (by omega) (by omega)]
      unfold stepS bookS
      rw [if_neg (by omega), if_neg (by omega), if_pos c1]
      generalize reserveS o.Book p.Code p.Year p.Day p.Amount = x
      by_cases hx : x.2 = 0
      · rw [optD_pos (by exact ⟨by simp [hx], trivial⟩), obind]
        by_cases hu : p.Amount > unusedV o p.Code p.Year
        · rw [if_pos (by simp [hx]; exact hu), if_neg (by simp [hx]), if_pos ⟨c1, hu⟩]
          exact fin (x.1, 15)
        · rw [if_neg (by simp [hx]; exact Int.not_lt.1 hu), if_neg (by simp [hx]), if_neg (fun k => hu k.2)]
          rw [show (⟨o.Number, o.Rights, x.1⟩, (0 : Int)) = if x.2 ≠ 0 then (noO, x.2) else (⟨o.Number, o.Rights, x.1⟩, 0) by rw [if_neg (by simp [hx])]]
          exact fin x
      · rw [optD_none (by simp [AllP, hx]), obind, if_neg (by simp [hx]), if_pos hx]
        rw [show (noO, x.2) = if x.2 ≠ 0 then (noO, x.2) else (⟨o.Number, o.Rights, x.1⟩, 0) by rw [if_pos hx]]
        exact fin x
    rw [if_neg (by simpa using c1)]
    have hb : ∀ {k : Int} (x : TApiBook × Int), p.Kind = k → 2 ≤ k → k ≤ 9 → k ≠ 7 → k ≠ 8 → bookS o.Book p = x → outM (some (Out.next (x.1, x.2))) (fun (s : TApiBook × Int) => if (s.2 != 0) = true then some (noO, s.2) else some ((⟨o.Number, o.Rights, s.1⟩ : TApiOffice), (0 : Int))) some = some (doS o p) := fun x hk h1 h2 h3 h4 e => by
      have h5 : stepS o p = if x.2 ≠ 0 then (noO, x.2) else (⟨o.Number, o.Rights, x.1⟩, 0) := by
        unfold stepS
        rw [if_neg (show ¬ p.Kind = 8 by omega), if_neg (show ¬ p.Kind = 7 by omega), e, if_neg (fun k : p.Kind = 1 ∧ _ => c1 k.1)]
      rw [hd hk (by omega) h2, fin, h5]
    by_cases c2 : p.Kind = 2
    · rw [if_pos (by simpa using c2)]
      exact hb _ c2 (by omega) (by omega) (by omega) (by omega) (by unfold bookS; rw [if_neg c1, if_pos c2])
    rw [if_neg (by simpa using c2)]
    by_cases c3 : p.Kind = 3
    · rw [if_pos (by simpa using c3)]
      exact hb _ c3 (by omega) (by omega) (by omega) (by omega) (by unfold bookS; rw [if_neg c1, if_neg c2, if_pos c3])
    rw [if_neg (by simpa using c3)]
    by_cases c4 : p.Kind = 4
    · rw [if_pos (by simpa using c4)]
      exact hb _ c4 (by omega) (by omega) (by omega) (by omega) (by unfold bookS; rw [if_neg c1, if_neg c2, if_neg c3, if_pos c4])
    rw [if_neg (by simpa using c4)]
    by_cases c5 : p.Kind = 5
    · rw [if_pos (by simpa using c5)]
      exact hb _ c5 (by omega) (by omega) (by omega) (by omega) (by unfold bookS; rw [if_neg c1, if_neg c2, if_neg c3, if_neg c4, if_pos c5])
    rw [if_neg (by simpa using c5)]
    by_cases c6 : p.Kind = 6
    · rw [if_pos (by simpa using c6)]
      exact hb _ c6 (by omega) (by omega) (by omega) (by omega) (by unfold bookS; rw [if_neg c1, if_neg c2, if_neg c3, if_neg c4, if_neg c5, if_pos c6])
    rw [if_neg (by simpa using c6)]
    by_cases c9 : p.Kind = 9
    · rw [if_pos (by simpa using c9)]
      exact hb _ c9 (by omega) (by omega) (by omega) (by omega) (by unfold bookS; rw [if_neg c1, if_neg c2, if_neg c3, if_neg c4, if_neg c5, if_neg c6])
    rw [if_neg (by simpa using c9)]
    by_cases c8 : p.Kind = 8
    · rw [if_pos (by simpa using c8), r15_hear_eq hv hc, hd c8 (by omega) (by omega)]
      unfold stepS
      rw [if_pos c8]
      rfl
    rw [if_neg (by simpa using c8)]
    by_cases c7 : p.Kind = 7
    · rw [if_pos (by simpa using c7), hd c7 (by omega) (by omega)]
      unfold stepS giveS
      rw [if_neg c8, if_pos c7]
      by_cases hh : hasR o.Rights p.Code p.Year = true
      · have h3 := (rix_lt hh).1
        have hg := hv.ok _ (getD_mem h3)
        have hrt : o.Rights.getD (rix o.Rights p.Code p.Year) default = rightV o.Rights p.Code p.Year := by unfold rightV; rw [if_pos hh]
        simp only [if_pos hh, Int.toNat_natCast, Nat.zero_add, r13_Return_eq hg.len, obind]
        rw [if_neg (by simp), guardP_pos ⟨by omega, h3, trivial⟩, hrt, if_neg (show ¬ ¬ hasR o.Rights p.Code p.Year = true from fun k => k hh)]
        by_cases hx : (returnS (rightV o.Rights p.Code p.Year) (usedV o.Book p.Code p.Year) p.Amount).2 = 0
        · have h1 := returnS_ok hx
          have hcy : (returnS (rightV o.Rights p.Code p.Year) (usedV o.Book p.Code p.Year) p.Amount).1.Code = p.Code ∧ (returnS (rightV o.Rights p.Code p.Year) (usedV o.Book p.Code p.Year) p.Amount).1.Year = p.Year := by rw [h1.2.2.2.2.1]; exact rightV_cy _ _ _
          rw [if_neg (by simp [hx]), guardP_pos ⟨by omega, trivial⟩, guardP_pos ⟨h3, trivial⟩, guardP_pos ⟨by rw [List.length_set]; omega, trivial⟩, if_neg (by simp [hx])]
          unfold putL
          rw [hcy.1, hcy.2, if_pos hh]
          rfl
        · rw [if_pos (by simpa using hx), if_pos hx]
          rfl
      · simp only [if_neg hh]
        rw [if_pos (by decide), if_pos hh]
        rfl
    rw [if_neg (by simpa using c7)]
    have : doS o p = (noO, 1) := by
      unfold doS
      split
      · rfl
      · rename_i h
        exact absurd (by omega) h
    rw [this]
    rfl
  · rw [if_pos (by simp [hv])]
    unfold doS
    rw [if_pos (.inl hv)]
    rfl
end Go.Proofs.YtbjbpoighbanfaaGreatDoor
namespace Go.Proofs.YtbjbpoighbanfaaGreatDoor
open Go Go.TA
/-! ## What is used, without wrapping -/
def usedE (b : TApiBook) (c : List UInt8) (y : Int) : Int := sm b.Reservations (fun r => r.Code == c && r.Year == y) (fun r => r.Amount - r.Released - rel b r.Number)
theorem rel_bd {b : TApiBook} (h : Val b) (n : Int) : 0 ≤ rel b n ∧ rel b n ≤ cmt b n := by
  have hc : ∀ c ∈ b.Commitments, 0 ≤ c.Released ∧ c.Released ≤ c.Amount := fun c hc => (h.2.1.mem hc).1.2.2.2.2.1
  exact ⟨sm_nonneg fun c k => (hc c k).1, sm_mono fun c k => (hc c k).2⟩
theorem used_ex {b : TApiBook} (h : Val b) (c : List UInt8) (y : Int) : usedV b c y = usedE b c y ∧ 0 ≤ usedE b c y ∧ usedE b c y ≤ 200000000000000 := by
  have hb : 0 ≤ usedE b c y ∧ usedE b c y ≤ 200 * 1000000000000 := sm_bd (fun r hr => by
    have h1 := leftV_ex h hr
    have h2 := rel_bd h r.Number
    have h3 := (h.1.mem hr).1.2.2.2.2.2
    unfold amtP at h3
    omega) h.2.2.2.2.2.2.1 (by omega)
  refine ⟨?_, hb.1, by omega⟩
  unfold usedV
  change IntKind.i64.wrap (usedE b c y) = _
  exact wrapId (by omega) (by omega)
theorem rel_none {b : TApiBook} (h : Val b) {n : Int} (hn : (b.Reservations.length : Int) < n) : rel b n = 0 := by
  have h1 := rel_bd h n
  have h2 := cmt_none h hn
  omega
theorem reserveS_inv {b : TApiBook} {code : List UInt8} {y d n : Int} (h0 : (reserveS b code y d n).2 = 0) : Val b ∧ good code = true ∧ ((0 ≤ y ∧ y ≤ 99) ∧ dayP d ∧ amtP n) ∧ yr d = y ∧ (b.Reservations.length : Int) ≠ 200 ∧ (reserveS b code y d n).1 = withR b (b.Reservations ++ [⟨b.Reservations.length + 1, code, y, d, n, 0⟩]) := by
  unfold reserveS at h0 ⊢
  obtain ⟨e, c1⟩ := ite0 h0 (by decide); rw [e] at h0 ⊢; clear e
  obtain ⟨e, c2⟩ := ite0 h0 (by decide); rw [e] at h0 ⊢; clear e
  obtain ⟨e, c3⟩ := ite0 h0 (by decide); rw [e] at h0 ⊢; clear e
  obtain ⟨e, c4⟩ := ite0 h0 (by decide); rw [e] at h0 ⊢; clear e
  obtain ⟨e, c5⟩ := ite0 h0 (by decide); rw [e] at h0 ⊢; clear e
  exact ⟨Classical.not_not.mp c1, by simpa using c2, Classical.not_not.mp c3, Classical.not_not.mp c4, c5, rfl⟩
theorem reserveS_ok {b : TApiBook} (h : Val b) {code : List UInt8} {y d n : Int} (hg : good code = true) (hy : 0 ≤ y ∧ y ≤ 99) (hd : dayP d) (hn : amtP n) (hyr : yr d = y) (hl : (b.Reservations.length : Int) ≠ 200) : reserveS b code y d n = (withR b (b.Reservations ++ [⟨b.Reservations.length + 1, code, y, d, n, 0⟩]), 0) := by
  unfold reserveS
  rw [if_neg (fun k => k h), if_neg (by simp [hg]), if_neg (fun k => k ⟨hy, hd, hn⟩), if_neg (fun k => k hyr), if_neg hl]
theorem commitS_inv {b : TApiBook} {r d n p u : Int} (h0 : (commitS b r d n p u).2 = 0) : Val b ∧ Val (commitS b r d n p u).1 ∧ (commitS b r d n p u).1.Reservations = b.Reservations := by
  unfold commitS at h0 ⊢
  obtain ⟨e, c1⟩ := ite0 h0 (by decide); rw [e] at h0 ⊢; clear e
  obtain ⟨e, c2⟩ := ite0 h0 (by decide); rw [e] at h0 ⊢; clear e
  obtain ⟨e, c3⟩ := ite0 h0 (by decide); rw [e] at h0 ⊢; clear e
  obtain ⟨e, c4⟩ := ite0 h0 (by decide); rw [e] at h0 ⊢; clear e
  obtain ⟨e, c5⟩ := ite0 h0 (by decide); rw [e] at h0 ⊢; clear e
  obtain ⟨e, c6⟩ := ite0 h0 (by decide); rw [e] at h0 ⊢; clear e
  obtain ⟨e, c7⟩ := ite0 h0 (by decide); rw [e] at h0 ⊢; clear e
  have c3 := Classical.not_not.mp c3
  exact ⟨Classical.not_not.mp c1, commit_val (Classical.not_not.mp c1) (Classical.not_not.mp c2) c3.1 c3.2.1 c3.2.2.1 c3.2.2.2 (Classical.not_not.mp c4) (by omega) (by omega) c7, rfl⟩
theorem verifyS_inv {b : TApiBook} {c d n : Int} (h0 : (verifyS b c d n).2 = 0) : Val b ∧ Val (verifyS b c d n).1 ∧ (verifyS b c d n).1.Reservations = b.Reservations := by
  unfold verifyS at h0 ⊢
  obtain ⟨e, c1⟩ := ite0 h0 (by decide); rw [e] at h0 ⊢; clear e
  obtain ⟨e, c2⟩ := ite0 h0 (by decide); rw [e] at h0 ⊢; clear e
  obtain ⟨e, c3⟩ := ite0 h0 (by decide); rw [e] at h0 ⊢; clear e
  obtain ⟨e, c4⟩ := ite0 h0 (by decide); rw [e] at h0 ⊢; clear e
  obtain ⟨e, c5⟩ := ite0 h0 (by decide); rw [e] at h0 ⊢; clear e
  obtain ⟨e, c6⟩ := ite0 h0 (by decide); rw [e] at h0 ⊢; clear e
  obtain ⟨e, c7⟩ := ite0 h0 (by decide); rw [e] at h0 ⊢; clear e
  have c3 := Classical.not_not.mp c3
  exact ⟨Classical.not_not.mp c1, verify_val (Classical.not_not.mp c1) (Classical.not_not.mp c2) c3.1 c3.2 (by omega) (by omega) (by omega) c7, rfl⟩
theorem orderS_inv {b : TApiBook} {v d : Int} (h0 : (orderS b v d).2 = 0) : Val b ∧ Val (orderS b v d).1 ∧ (orderS b v d).1.Reservations = b.Reservations := by
  unfold orderS at h0 ⊢
  obtain ⟨e, c1⟩ := ite0 h0 (by decide); rw [e] at h0 ⊢; clear e
  obtain ⟨e, c2⟩ := ite0 h0 (by decide); rw [e] at h0 ⊢; clear e
  obtain ⟨e, c3⟩ := ite0 h0 (by decide); rw [e] at h0 ⊢; clear e
  obtain ⟨e, c4⟩ := ite0 h0 (by decide); rw [e] at h0 ⊢; clear e
  obtain ⟨e, c5⟩ := ite0 h0 (by decide); rw [e] at h0 ⊢; clear e
  obtain ⟨e, c6⟩ := ite0 h0 (by decide); rw [e] at h0 ⊢; clear e
  obtain ⟨e, c7⟩ := ite0 h0 (by decide); rw [e] at h0 ⊢; clear e
  refine ⟨Classical.not_not.mp c1, order_val (Classical.not_not.mp c1) (Classical.not_not.mp c2) (Classical.not_not.mp c3) (by omega) (by omega) (fun hl => ⟨?_, by omega⟩) c7, rfl⟩
  cases hb : (lastV b v).Back with
  | true => rfl
  | false => exact absurd ⟨hl, hb⟩ c5
theorem releaseS_inv {b : TApiBook} {r n : Int} (h0 : (releaseS b r n).2 = 0) : Val b ∧ Val (releaseS b r n).1 ∧ amtP n ∧ (1 ≤ r ∧ r ≤ b.Reservations.length) ∧ n ≤ leftN b r ∧ (releaseS b r n).1 = withR b (b.Reservations.set (r - 1).toNat ⟨(rAt b r).Number, (rAt b r).Code, (rAt b r).Year, (rAt b r).Day, (rAt b r).Amount, IntKind.i64.wrap ((rAt b r).Released + n)⟩) := by
  unfold releaseS at h0 ⊢
  obtain ⟨e, c1⟩ := ite0 h0 (by decide); rw [e] at h0 ⊢; clear e
  obtain ⟨e, c2⟩ := ite0 h0 (by decide); rw [e] at h0 ⊢; clear e
  obtain ⟨e, c3⟩ := ite0 h0 (by decide); rw [e] at h0 ⊢; clear e
  obtain ⟨e, c4⟩ := ite0 h0 (by decide); rw [e] at h0 ⊢; clear e
  exact ⟨Classical.not_not.mp c1, release_val (Classical.not_not.mp c1) (Classical.not_not.mp c2) (Classical.not_not.mp c3) (by omega), Classical.not_not.mp c3, Classical.not_not.mp c2, by omega, rfl⟩
theorem dropS_inv {b : TApiBook} {c n : Int} (h0 : (dropS b c n).2 = 0) : Val b ∧ Val (dropS b c n).1 ∧ amtP n ∧ (dropS b c n).1.Reservations = b.Reservations := by
  unfold dropS at h0 ⊢
  obtain ⟨e, c1⟩ := ite0 h0 (by decide); rw [e] at h0 ⊢; clear e
  obtain ⟨e, c2⟩ := ite0 h0 (by decide); rw [e] at h0 ⊢; clear e
  obtain ⟨e, c3⟩ := ite0 h0 (by decide); rw [e] at h0 ⊢; clear e
  obtain ⟨e, c4⟩ := ite0 h0 (by decide); rw [e] at h0 ⊢; clear e
  exact ⟨Classical.not_not.mp c1, drop_val (Classical.not_not.mp c1) (Classical.not_not.mp c2) (Classical.not_not.mp c3) (by omega), Classical.not_not.mp c3, rfl⟩
theorem backS_inv {b : TApiBook} {v : Int} (h0 : (backS b v).2 = 0) : Val b ∧ Val (backS b v).1 ∧ (backS b v).1.Reservations = b.Reservations ∧ (backS b v).1.Commitments = b.Commitments := by
  unfold backS at h0 ⊢
  obtain ⟨e, c1⟩ := ite0 h0 (by decide); rw [e] at h0 ⊢; clear e
  obtain ⟨e, c2⟩ := ite0 h0 (by decide); rw [e] at h0 ⊢; clear e
  obtain ⟨e, c3⟩ := ite0 h0 (by decide); rw [e] at h0 ⊢; clear e
  exact ⟨Classical.not_not.mp c1, back_val (Classical.not_not.mp c1) (by omega), rfl, rfl⟩
theorem releaseS_usedA {b : TApiBook} (h : Val b) {r n : Int} (hn0 : amtP n) (h0 : (releaseS b r n).2 = 0) (code : List UInt8) (y : Int) : (1 ≤ r ∧ r ≤ b.Reservations.length) ∧ usedV (releaseS b r n).1 code y = IntKind.i64.wrap (usedV b code y - if mt b code y r = true then n else 0) := by
  have hn : 1 ≤ n ∧ n ≤ 1000000000000 := hn0
  unfold releaseS at h0 ⊢
  obtain ⟨e, _⟩ := ite0 h0 (by decide); rw [e] at h0 ⊢; clear e
  obtain ⟨e, hr⟩ := ite0 h0 (by decide); rw [e] at h0 ⊢; clear e
  obtain ⟨e, _⟩ := ite0 h0 (by decide); rw [e] at h0 ⊢; clear e
  obtain ⟨e, _⟩ := ite0 h0 (by decide); rw [e] at h0 ⊢; clear e
  have hr := Classical.not_not.mp hr
  refine ⟨hr, ?_⟩
  have hk : (r - 1).toNat < b.Reservations.length := by omega
  have f := (h.1.at hr).2.2.2.2.2
  have f6 := f.1
  unfold amtP at f6
  have hw : IntKind.i64.wrap ((rAt b r).Released + n) = (rAt b r).Released + n := wrapId (by omega) (by omega)
  rw [hw]
  unfold usedV
  rw [wrap_subl]
  congr 1
  change sm (b.Reservations.set (r - 1).toNat _) _ (fun r => r.Amount - r.Released - rel b r.Number) = _
  rw [sm_set hk _ _ _ default]
  change _ - (if ((rAt b r).Code == code && (rAt b r).Year == y) = true then (rAt b r).Amount - (rAt b r).Released - rel b (rAt b r).Number else 0) + (if ((rAt b r).Code == code && (rAt b r).Year == y) = true then (rAt b r).Amount - ((rAt b r).Released + n) - rel b (rAt b r).Number else 0) = _ - (if ((rAt b r).Code == code && (rAt b r).Year == y) = true then n else 0)
  split <;> omega
theorem dropS_usedA {b : TApiBook} (h : Val b) {c n : Int} (hn0 : amtP n) (h0 : (dropS b c n).2 = 0) (code : List UInt8) (y : Int) : (1 ≤ c ∧ c ≤ b.Commitments.length) ∧ usedV (dropS b c n).1 code y = IntKind.i64.wrap (usedV b code y - if mt b code y (cAt b c).Reservation = true then n else 0) := by
  have hn : 1 ≤ n ∧ n ≤ 1000000000000 := hn0
  unfold dropS at h0 ⊢
  obtain ⟨e, _⟩ := ite0 h0 (by decide); rw [e] at h0 ⊢; clear e
  obtain ⟨e, hr⟩ := ite0 h0 (by decide); rw [e] at h0 ⊢; clear e
  obtain ⟨e, _⟩ := ite0 h0 (by decide); rw [e] at h0 ⊢; clear e
  obtain ⟨e, _⟩ := ite0 h0 (by decide); rw [e] at h0 ⊢; clear e
  have hr := Classical.not_not.mp hr
  refine ⟨hr, ?_⟩
  have hk : (c - 1).toNat < b.Commitments.length := by omega
  have f := (h.2.1.at hr)
  have f4 := f.2.2.2.1
  have f5 := f.2.2.2.2.1
  have f2 := f.2.1
  unfold amtP at f4
  have hw : IntKind.i64.wrap ((cAt b c).Released + n) = (cAt b c).Released + n := wrapId (by omega) (by omega)
  rw [hw]
  generalize hX : withC b (b.Commitments.set (c - 1).toNat ⟨(cAt b c).Number, (cAt b c).Reservation, (cAt b c).Day, (cAt b c).Amount, (cAt b c).Released + n, (cAt b c).Payee, (cAt b c).Due⟩) = X
  have hrel : ∀ m, rel X m = rel b m + if ((cAt b c).Reservation == m) = true then n else 0 := fun m => by
    rw [← hX]
    unfold rel withC
    simp only
    rw [sm_set hk _ _ _ default]
    change _ - (if ((cAt b c).Reservation == m) = true then (cAt b c).Released else 0) + (if ((cAt b c).Reservation == m) = true then (cAt b c).Released + n else 0) = _
    split <;> omega
  have e1 : usedV X code y = IntKind.i64.wrap (sm b.Reservations (fun r => r.Code == code && r.Year == y) (fun r => r.Amount - r.Released - rel X r.Number)) := by
    unfold usedV
    rw [show X.Reservations = b.Reservations by rw [← hX]; rfl]
  rw [e1]
  unfold usedV
  rw [wrap_subl]
  congr 1
  simp only [hrel]
  have e2 : ∀ r : TApiReservation, r.Amount - r.Released - (rel b r.Number + if ((cAt b c).Reservation == r.Number) = true then n else 0) = (r.Amount - r.Released - rel b r.Number) - (if ((cAt b c).Reservation == r.Number) = true then n else 0) := fun r => by omega
  simp only [e2]
  rw [sm_sub]
  congr 1
  have hi : ((cAt b c).Reservation - 1).toNat < b.Reservations.length := by omega
  have hnum : (b.Reservations.getD ((cAt b c).Reservation - 1).toNat default).Number = (cAt b c).Reservation := (h.1.at f2).1
  have := sm_one (num := fun r : TApiReservation => r.Number) (q := mt b code y) (p := fun r => r.Code == code && r.Year == y) n b.Reservations ((cAt b c).Reservation - 1).toNat hi (fun j hj hji => by
    have := (h.1 j hj).1
    rw [hnum]; omega) (mt_mem h code y (getD_mem hi)).symm
  simp only [hnum] at this
  exact this
/-- What an operation does with a book. -/
def Eff (b : TApiBook) (p : TApiOp) (b' : TApiBook) : Prop := Val b ∧ Val b' ∧
  (∀ c y, usedE b' c y ≤ usedE b c y + if p.Kind = 1 ∧ p.Code = c ∧ p.Year = y then p.Amount else 0) ∧
  (p.Kind = 1 → 1 ≤ p.Amount ∧ p.Amount ≤ 1000000000000 ∧ ∀ c y, usedE b' c y = usedE b c y + if p.Code = c ∧ p.Year = y then p.Amount else 0) ∧
  (∀ x ∈ b'.Reservations, (∃ z ∈ b.Reservations, z.Code = x.Code ∧ z.Year = x.Year) ∨ (p.Kind = 1 ∧ x.Code = p.Code ∧ x.Year = p.Year)) ∧
  b'.Reservations.length ≤ b.Reservations.length + 1
theorem eff_same {b b' : TApiBook} {p : TApiOp} (hv : Val b) (hv' : Val b') (hR : b'.Reservations = b.Reservations) (hk : p.Kind ≠ 1) (hu : ∀ c y, usedE b' c y ≤ usedE b c y) : Eff b p b' :=
  ⟨hv, hv', fun c y => by rw [if_neg (fun k => hk k.1)]; have := hu c y; omega, fun k => absurd k hk, fun x hx => by rw [hR] at hx; exact .inl ⟨x, hx, rfl, rfl⟩, by rw [hR]; omega⟩
theorem usedE_reserve {b : TApiBook} (h : Val b) (code : List UInt8) (y d n : Int) (c : List UInt8) (z : Int) : usedE (withR b (b.Reservations ++ [⟨b.Reservations.length + 1, code, y, d, n, 0⟩])) c z = usedE b c z + if code = c ∧ y = z then n else 0 := by
  unfold usedE
  have e : (withR b (b.Reservations ++ [⟨b.Reservations.length + 1, code, y, d, n, 0⟩])).Reservations = b.Reservations ++ [⟨b.Reservations.length + 1, code, y, d, n, 0⟩] := rfl
  have e2 : ∀ m, rel (withR b (b.Reservations ++ [⟨b.Reservations.length + 1, code, y, d, n, 0⟩])) m = rel b m := fun m => rfl
  simp only [e, e2]
  rw [sm_append, sm_cons, sm_nil]
  simp only [rel_none h (show (b.Reservations.length : Int) < (b.Reservations.length : Int) + 1 by omega), Bool.and_eq_true, beq_iff_eq]
  by_cases k : code = c ∧ y = z
  · rw [if_pos k, if_pos k]; omega
  · rw [if_neg k, if_neg k]; omega
theorem book_eff {b : TApiBook} {p : TApiOp} (h0 : (bookS b p).2 = 0) : Eff b p (bookS b p).1 := by
  unfold bookS at h0 ⊢
  by_cases c1 : p.Kind = 1
  · rw [if_pos c1] at h0 ⊢
    obtain ⟨hv, hg, ⟨hy, hd, hn⟩, hyr, hl, e⟩ := reserveS_inv h0
    rw [e]
    unfold amtP at hn
    have hu := usedE_reserve hv p.Code p.Year p.Day p.Amount
    refine ⟨hv, reserve_val hv hg hy hd hn hyr hl, fun c y => ?_, fun _ => ⟨hn.1, hn.2, hu⟩, fun x hx => ?_, by simp [withR]⟩
    · rw [hu]
      by_cases k : p.Code = c ∧ p.Year = y
      · rw [if_pos k, if_pos ⟨c1, k⟩]; omega
      · rw [if_neg k, if_neg (fun q => k q.2)]; omega
    · simp only [withR, List.mem_append, List.mem_singleton] at hx
      rcases hx with hx | rfl
      · exact .inl ⟨x, hx, rfl, rfl⟩
      · exact .inr ⟨c1, rfl, rfl⟩
  rw [if_neg c1] at h0 ⊢
  have conv : ∀ {b' : TApiBook}, Val b → Val b' → (∀ c y, usedV b' c y = usedV b c y) → ∀ c y, usedE b' c y ≤ usedE b c y := fun h h' e c y => by
    have h1 := used_ex h c y
    have h2 := used_ex h' c y
    have := e c y
    omega
  by_cases c2 : p.Kind = 2
  · rw [if_pos c2] at h0 ⊢
    obtain ⟨hv, hv', hR⟩ := commitS_inv h0
    exact eff_same hv hv' hR c1 (conv hv hv' fun c y => commitS_used h0 c y)
  rw [if_neg c2] at h0 ⊢
  by_cases c3 : p.Kind = 3
  · rw [if_pos c3] at h0 ⊢
    obtain ⟨hv, hv', hR⟩ := verifyS_inv h0
    exact eff_same hv hv' hR c1 (conv hv hv' fun c y => verifyS_used h0 c y)
  rw [if_neg c3] at h0 ⊢
  by_cases c4 : p.Kind = 4
  · rw [if_pos c4] at h0 ⊢
    obtain ⟨hv, hv', hR⟩ := orderS_inv h0
    exact eff_same hv hv' hR c1 (conv hv hv' fun c y => orderS_used h0 c y)
  rw [if_neg c4] at h0 ⊢
  by_cases c5 : p.Kind = 5
  · rw [if_pos c5] at h0 ⊢
    obtain ⟨hv, hv', hn, hr, hL, e⟩ := releaseS_inv h0
    have hu : ∀ c y, usedE (releaseS b p.Of p.Amount).1 c y ≤ usedE b c y := fun c y => by
      have h1 := used_ex hv c y
      have h2 := used_ex hv' c y
      have h3 := (releaseS_usedA hv hn h0 c y).2
      unfold amtP at hn
      split at h3
      · rw [wrapId (by omega) (by omega)] at h3; omega
      · rw [wrapId (by omega) (by omega)] at h3; omega
    refine ⟨hv, hv', fun c y => by rw [if_neg (fun k => c1 k.1)]; have := hu c y; omega, fun k => absurd k c1, fun x hx => ?_, by rw [e]; simp [withR]⟩
    rw [e] at hx
    left
    rcases List.mem_or_eq_of_mem_set hx with hx | rfl
    · exact ⟨x, hx, rfl, rfl⟩
    · exact ⟨rAt b p.Of, rAt_mem hr, rfl, rfl⟩
  rw [if_neg c5] at h0 ⊢
  by_cases c6 : p.Kind = 6
  · rw [if_pos c6] at h0 ⊢
    obtain ⟨hv, hv', hn, hR⟩ := dropS_inv h0
    refine eff_same hv hv' hR c1 fun c y => ?_
    have h1 := used_ex hv c y
    have h2 := used_ex hv' c y
    have h3 := (dropS_usedA hv hn h0 c y).2
    unfold amtP at hn
    split at h3
    · rw [wrapId (by omega) (by omega)] at h3; omega
    · rw [wrapId (by omega) (by omega)] at h3; omega
  rw [if_neg c6] at h0 ⊢
  obtain ⟨hv, hv', hR, hC⟩ := backS_inv h0
  refine eff_same hv hv' hR c1 (conv hv hv' fun c y => ?_)
  unfold usedV rel
  rw [hR, hC]
end Go.Proofs.YtbjbpoighbanfaaGreatDoor
namespace Go.Proofs.YtbjbpoighbanfaaGreatDoor
open Go Go.TA
/-! ## Rights in their order -/
theorem uniqR {l : List TApiRight} (hS : Srt l) (hg : ∀ x ∈ l, RtOk x) {x y : TApiRight} (hx : x ∈ l) (hy : y ∈ l) (h1 : x.Code = y.Code) (h2 : x.Year = y.Year) : x = y := by
  obtain ⟨i, hi, rfl⟩ := mem_getD hx
  obtain ⟨j, hj, rfl⟩ := mem_getD hy
  have h0 := (cmpR_eq (hg _ hx).1 (hg _ hy).1).2 ⟨h1, h2⟩
  rcases Nat.lt_trichotomy i j with h | h | h
  · have := hS.lt hg h hj; omega
  · rw [h]
  · have := hS.lt hg h hi
    have h3 := cmpR_anti (b := l.getD i default) (hg _ hy).1
    omega
theorem rightV_of {l : List TApiRight} (hS : Srt l) (hg : ∀ x ∈ l, RtOk x) {x : TApiRight} (hx : x ∈ l) : rightV l x.Code x.Year = x := by
  obtain ⟨h1, h2, h3⟩ := rightV_mem (has_iff.2 ⟨x, hx, rfl, rfl⟩ : hasR l x.Code x.Year = true)
  exact uniqR hS hg h1 hx h2 h3
theorem cmpR_congr {a a' b b' : TApiRight} (h1 : a.Code = a'.Code) (h2 : a.Year = a'.Year) (h3 : b.Code = b'.Code) (h4 : b.Year = b'.Year) : cmpR a b = cmpR a' b' := by
  unfold cmpR; rw [h1, h2, h3, h4]
theorem mem_put {l : List TApiRight} {r x : TApiRight} (h : x ∈ putL l r) : x = r ∨ x ∈ l := by
  unfold putL at h
  split at h
  · exact (List.mem_or_eq_of_mem_set h).symm
  · unfold insL at h
    simp only [List.mem_append, List.mem_cons] at h
    rcases h with h | h | h
    · exact .inr (List.mem_of_mem_take h)
    · exact .inl h
    · exact .inr (List.mem_of_mem_drop h)
theorem put_mem_self (l : List TApiRight) (r : TApiRight) : r ∈ putL l r := by
  unfold putL
  split
  · rename_i h
    exact List.mem_set (rix_lt h).1 _
  · unfold insL; simp
theorem put_mem {l : List TApiRight} {r x : TApiRight} (hx : x ∈ l) (h : ¬ (x.Code = r.Code ∧ x.Year = r.Year)) : x ∈ putL l r := by
  unfold putL
  split
  · rename_i hh
    obtain ⟨h1, h2, h3⟩ := rix_lt hh
    obtain ⟨i, hi, e⟩ := List.mem_iff_getElem.mp hx
    have hne : rix l r.Code r.Year ≠ i := fun k => h (by subst k; rw [getD_el h1, e] at h2 h3; exact ⟨h2, h3⟩)
    have h4 : (l.set (rix l r.Code r.Year) r)[i]'(by rw [List.length_set]; exact hi) = x := by rw [List.getElem_set, if_neg hne, e]
    rw [← h4]
    exact List.getElem_mem _
  · unfold insL
    rw [List.mem_append, List.mem_cons]
    have : x ∈ l.take (posR l r) ++ l.drop (posR l r) := by rw [List.take_append_drop]; exact hx
    rcases List.mem_append.1 this with h | h
    · exact .inl h
    · exact .inr (.inr h)
theorem put_ok {l : List TApiRight} {r : TApiRight} (hg : ∀ x ∈ l, RtOk x) (hr : RtOk r) : ∀ x ∈ putL l r, RtOk x := fun x hx => by
  rcases mem_put hx with rfl | h
  · exact hr
  · exact hg x h
theorem put_srt {l : List TApiRight} {r : TApiRight} (hS : Srt l) (hg : ∀ x ∈ l, RtOk x) (hr : RtOk r) : Srt (putL l r) := by
  unfold putL
  split
  · rename_i hh
    obtain ⟨h1, h2, h3⟩ := rix_lt hh
    intro i hi
    rw [List.length_set] at hi
    have key : ∀ j, (((l.set (rix l r.Code r.Year) r).getD j default).Code = (l.getD j default).Code) ∧ ((l.set (rix l r.Code r.Year) r).getD j default).Year = (l.getD j default).Year := fun j => by
      rw [getD_set _ _ _ _ h1]
      by_cases e : j = rix l r.Code r.Year
      · rw [if_pos e, e, h2, h3]; exact ⟨rfl, rfl⟩
      · rw [if_neg e]; exact ⟨rfl, rfl⟩
    refine (hS i hi).imp id fun k => ?_
    rw [cmpR_congr (key (i - 1)).1 (key (i - 1)).2 (key i).1 (key i).2]
    exact k
  · rename_i hh
    have hp := posR_le l r
    intro i hi
    rw [insL_length] at hi
    rw [insL_get hp, insL_get hp]
    by_cases h0 : i = 0
    · exact .inl h0
    right
    by_cases c1 : i < posR l r
    · rw [if_pos (by omega), if_pos c1]
      exact (hS i (by omega)).resolve_left h0
    · by_cases c2 : i = posR l r
      · rw [if_pos (by omega), if_neg c1, if_pos c2]
        exact posR_lt (by omega)
      · rw [if_neg c1, if_neg c2]
        by_cases c3 : i - 1 = posR l r
        · rw [if_neg (by omega), if_pos c3, c3]
          have h1 := posR_at (l := l) (r := r) (by omega)
          have hm : l.getD (posR l r) default ∈ l := getD_mem (by omega)
          have h2 : cmpR (l.getD (posR l r) default) r ≠ 0 := fun k => by
            obtain ⟨k1, k2⟩ := (cmpR_eq (hg _ hm).1 hr.1).1 k
            exact hh (has_iff.2 ⟨_, hm, k1, k2⟩)
          have h3 := cmpR_anti (b := r) (hg _ hm).1
          omega
        · rw [if_neg (by omega), if_neg c3]
          have := (hS (i - 1) (by omega)).resolve_left (by omega)
          exact this
theorem has_put {l : List TApiRight} {r : TApiRight} {c : List UInt8} {y : Int} (h : hasR l c y = true) : hasR (putL l r) c y = true := by
  obtain ⟨x, hx, h1, h2⟩ := has_iff.1 h
  by_cases k : x.Code = r.Code ∧ x.Year = r.Year
  · exact has_iff.2 ⟨r, put_mem_self l r, by rw [← k.1, h1], by rw [← k.2, h2]⟩
  · exact has_iff.2 ⟨x, put_mem hx k, h1, h2⟩
theorem rightV_put {l : List TApiRight} {r : TApiRight} (hS : Srt l) (hg : ∀ x ∈ l, RtOk x) (hr : RtOk r) (c : List UInt8) (y : Int) : rightV (putL l r) c y = if r.Code = c ∧ r.Year = y then r else rightV l c y := by
  have hS' := put_srt hS hg hr
  have hg' := put_ok hg hr
  by_cases k : r.Code = c ∧ r.Year = y
  · rw [if_pos k, ← k.1, ← k.2]
    exact rightV_of hS' hg' (put_mem_self l r)
  · rw [if_neg k]
    by_cases h : hasR l c y = true
    · obtain ⟨h1, h2, h3⟩ := rightV_mem h
      have := rightV_of hS' hg' (put_mem (r := r) h1 (by rw [h2, h3]; exact fun q => k ⟨q.1.symm, q.2.symm⟩))
      rwa [h2, h3] at this
    · have h' : ¬ hasR (putL l r) c y = true := fun q => by
        obtain ⟨x, hx, h1, h2⟩ := has_iff.1 q
        rcases mem_put hx with rfl | hx
        · exact k ⟨h1, h2⟩
        · exact h (has_iff.2 ⟨x, hx, h1, h2⟩)
      unfold rightV
      rw [if_neg h, if_neg h']
theorem put_len {l : List TApiRight} {r : TApiRight} (h : l.length ≤ 60) (h2 : hasR l r.Code r.Year = true ∨ (l.length : Int) ≠ 60) : (putL l r).length ≤ 60 := by
  unfold putL
  split
  · rw [List.length_set]; exact h
  · rename_i hh
    rw [insL_length]
    have := h2.resolve_left hh
    omega
/-! ## What is unused, without wrapping -/
theorem rightV_bd {l : List TApiRight} (hg : ∀ x ∈ l, RtOk x) (c : List UInt8) (y : Int) : 0 ≤ (rightV l c y).Returned ∧ (rightV l c y).Returned ≤ (rightV l c y).Granted ∧ (rightV l c y).Granted ≤ 1000000000000000 ∧ 0 ≤ (rightV l c y).Asked ∧ (rightV l c y).Asked ≤ 1000000000000000 := by
  by_cases h : hasR l c y = true
  · have := hg _ (rightV_mem h).1
    unfold RtOk at this
    omega
  · unfold rightV; rw [if_neg h]; simp
theorem unused_gen {o : TApiOffice} (hg : ∀ x ∈ o.Rights, RtOk x) (hv : Val o.Book) (c : List UInt8) (y : Int) : unusedV o c y = (rightV o.Rights c y).Granted - (rightV o.Rights c y).Returned - usedE o.Book c y := by
  have h1 := rightV_bd hg c y
  have h2 := used_ex hv c y
  unfold unusedV
  rw [wrapId (n := (rightV o.Rights c y).Granted - (rightV o.Rights c y).Returned) (by omega) (by omega), h2.1, wrapId (by omega) (by omega)]
theorem VO.unused {o : TApiOffice} (h : VO o) (c : List UInt8) (y : Int) : unusedV o c y = (rightV o.Rights c y).Granted - (rightV o.Rights c y).Returned - usedE o.Book c y := unused_gen h.ok h.val c y
theorem usedE_none {b : TApiBook} {c : List UInt8} {y : Int} (h : ∀ x ∈ b.Reservations, ¬ (x.Code = c ∧ x.Year = y)) : usedE b c y = 0 := by
  unfold usedE
  exact sm_none fun x hx => by
    have := h x hx
    simp only [Bool.and_eq_false_iff, beq_eq_false_iff_ne, ne_eq]
    by_cases h1 : x.Code = c
    · exact .inr fun h2 => this ⟨h1, h2⟩
    · exact .inl h1
theorem VO.unused_nn {o : TApiOffice} (h : VO o) (c : List UInt8) (y : Int) : 0 ≤ unusedV o c y := by
  by_cases hx : ∃ x ∈ o.Book.Reservations, x.Code = c ∧ x.Year = y
  · obtain ⟨x, hx, rfl, rfl⟩ := hx
    exact (h.2.2.2.2.2 x hx).2
  · rw [h.unused, usedE_none fun x hx' e => hx ⟨x, hx', e⟩]
    have := rightV_bd h.ok c y
    omega
theorem VO.smO {o : TApiOffice} (h : VO o) : SmO o := by
  have h1 := h.val
  have h2 := h1.2.2.2.2.2.2
  refine ⟨⟨⟨by omega, by omega, by omega, by omega⟩, fun r hr => ?_⟩, by have := h.len; omega, fun r hr => (h.ok r hr).len⟩
  have := good_len (h1.1.mem hr).1.2.1
  omega
/-! ## What an operation does -/
/-- An office stays valid; what it may use and has used. -/
theorem step_vo {o : TApiOffice} {p : TApiOp} (hv : VO o) (hk : p.Kind ≠ 7 ∧ p.Kind ≠ 8) (h0 : (stepS o p).2 = 0) :
    (stepS o p).1 = ⟨o.Number, o.Rights, (bookS o.Book p).1⟩ ∧ (bookS o.Book p).2 = 0 ∧ Eff o.Book p (bookS o.Book p).1 ∧ (p.Kind = 1 → p.Amount ≤ unusedV o p.Code p.Year) ∧ VO (stepS o p).1 := by
  unfold stepS at h0 ⊢
  rw [if_neg hk.2, if_neg hk.1] at h0 ⊢
  by_cases c1 : (bookS o.Book p).2 ≠ 0
  · rw [if_pos c1] at h0; exact absurd h0 c1
  rw [if_neg c1] at h0 ⊢
  by_cases c2 : p.Kind = 1 ∧ p.Amount > unusedV o p.Code p.Year
  · rw [if_pos c2] at h0; cases h0
  rw [if_neg c2]
  have c1 := Classical.not_not.mp c1
  have he := book_eff c1
  have hu : p.Kind = 1 → p.Amount ≤ unusedV o p.Code p.Year := fun k => Int.not_lt.1 fun q => c2 ⟨k, q⟩
  refine ⟨rfl, c1, he, hu, hv.1, hv.len, he.2.1, hv.ok, hv.srt, fun x hx => ?_⟩
  have hx := he.2.2.2.2.1 x hx
  have hh : hasR o.Rights x.Code x.Year = true := by
    rcases hx with ⟨z, hz, e1, e2⟩ | ⟨k, e1, e2⟩
    · rw [← e1, ← e2]; exact (hv.2.2.2.2.2 z hz).1
    · rw [e1, e2]
      have h1 := hu k
      have h2 := (he.2.2.2.1 k).1
      refine Classical.byContradiction fun q => ?_
      rw [hv.unused] at h1
      have h3 := used_ex hv.val p.Code p.Year
      unfold rightV at h1
      rw [if_neg q] at h1
      simp only at h1
      omega
  refine ⟨hh, ?_⟩
  rw [unused_gen (o := ⟨o.Number, o.Rights, (bookS o.Book p).1⟩) hv.ok he.2.1]
  have h1 := he.2.2.1 x.Code x.Year
  have h2 := hv.unused x.Code x.Year
  have h3 := hv.unused_nn x.Code x.Year
  by_cases k : p.Kind = 1 ∧ p.Code = x.Code ∧ p.Year = x.Year
  · rw [if_pos k] at h1
    have h4 := hu k.1
    rw [k.2.1, k.2.2] at h4
    simp only
    omega
  · rw [if_neg k] at h1
    simp only
    omega
theorem vo_put {o : TApiOffice} (hv : VO o) {r : TApiRight} (hr : RtOk r) (hl : hasR o.Rights r.Code r.Year = true ∨ (o.Rights.length : Int) ≠ 60) (hu : usedE o.Book r.Code r.Year ≤ r.Granted - r.Returned) : VO ⟨o.Number, putL o.Rights r, o.Book⟩ := by
  refine ⟨hv.1, put_len hv.len hl, hv.val, put_ok hv.ok hr, put_srt hv.srt hv.ok hr, fun x hx => ⟨has_put (hv.2.2.2.2.2 x hx).1, ?_⟩⟩
  rw [unused_gen (o := ⟨o.Number, putL o.Rights r, o.Book⟩) (put_ok hv.ok hr) hv.val]
  simp only
  rw [rightV_put hv.srt hv.ok hr]
  by_cases k : r.Code = x.Code ∧ r.Year = x.Year
  · rw [if_pos k, ← k.1, ← k.2]; omega
  · rw [if_neg k]
    have h2 := hv.unused x.Code x.Year
    have h3 := hv.unused_nn x.Code x.Year
    omega
theorem hear_vo {o : TApiOffice} {p : TApiOp} (hv : VO o) (h0 : (hearS o p).2 = 0) :
    ∃ r, (hearS o p).1 = ⟨o.Number, putL o.Rights r, o.Book⟩ ∧ RtOk r ∧ r.Code = p.Code ∧ r.Year = p.Year ∧ r = ⟨p.Code, p.Year, if p.Granted > (rightV o.Rights p.Code p.Year).Granted then p.Granted else (rightV o.Rights p.Code p.Year).Granted, if p.AskedBack > (rightV o.Rights p.Code p.Year).Asked then p.AskedBack else (rightV o.Rights p.Code p.Year).Asked, (rightV o.Rights p.Code p.Year).Returned⟩ ∧ VO (hearS o p).1 := by
  unfold hearS at h0 ⊢
  by_cases c1 : ¬ good p.Code = true
  · rw [if_pos c1] at h0; cases h0
  rw [if_neg c1] at h0 ⊢
  by_cases c2 : p.Year < 0 ∨ p.Year > 99
  · rw [if_pos c2] at h0; cases h0
  rw [if_neg c2] at h0 ⊢
  by_cases c3 : hasR o.Rights p.Code p.Year = false ∧ (o.Rights.length : Int) = 60
  · rw [if_pos c3] at h0; cases h0
  rw [if_neg c3] at h0 ⊢
  by_cases c4 : (learnS (rightV o.Rights p.Code p.Year) (msgOf p)).2 ≠ 0
  · rw [if_pos c4] at h0; exact absurd h0 c4
  rw [if_neg c4]
  have h1 := learnS_ok (Classical.not_not.mp c4)
  have hcy := rightV_cy o.Rights p.Code p.Year
  rw [hcy.1, hcy.2] at h1
  refine ⟨_, rfl, h1.2.2.2.2, by rw [h1.2.2.2.1], by rw [h1.2.2.2.1], h1.2.2.2.1, vo_put hv h1.2.2.2.2 ?_ ?_⟩
  · rw [h1.2.2.2.1]
    simp only
    by_cases k : hasR o.Rights p.Code p.Year = true
    · exact .inl k
    · exact .inr fun q => c3 ⟨by simpa using k, q⟩
  · rw [h1.2.2.2.1]
    have h2 := hv.unused p.Code p.Year
    have h3 := hv.unused_nn p.Code p.Year
    have h4 : (rightV o.Rights p.Code p.Year).Granted ≤ if (msgOf p).Granted > (rightV o.Rights p.Code p.Year).Granted then (msgOf p).Granted else (rightV o.Rights p.Code p.Year).Granted := by split <;> omega
    simp only
    omega
theorem give_vo {o : TApiOffice} {p : TApiOp} (hv : VO o) (h0 : (giveS o p).2 = 0) :
    hasR o.Rights p.Code p.Year = true ∧ 1 ≤ p.Amount ∧ p.Amount ≤ unusedV o p.Code p.Year ∧ ∃ r, (giveS o p).1 = ⟨o.Number, putL o.Rights r, o.Book⟩ ∧ RtOk r ∧ r = ⟨p.Code, p.Year, (rightV o.Rights p.Code p.Year).Granted, (rightV o.Rights p.Code p.Year).Asked, (rightV o.Rights p.Code p.Year).Returned + p.Amount⟩ ∧ VO (giveS o p).1 := by
  unfold giveS at h0 ⊢
  by_cases c1 : ¬ hasR o.Rights p.Code p.Year = true
  · rw [if_pos c1] at h0; cases h0
  rw [if_neg c1] at h0 ⊢
  by_cases c4 : (returnS (rightV o.Rights p.Code p.Year) (usedV o.Book p.Code p.Year) p.Amount).2 ≠ 0
  · rw [if_pos c4] at h0; exact absurd h0 c4
  rw [if_neg c4]
  have h1 := returnS_ok (Classical.not_not.mp c4)
  have hcy := rightV_cy o.Rights p.Code p.Year
  have hu := used_ex hv.val p.Code p.Year
  rw [hcy.1, hcy.2, hu.1] at h1
  have c1 := Classical.not_not.mp c1
  rw [hu.1]
  refine ⟨c1, h1.2.2.1, by rw [hv.unused]; exact h1.2.2.2.1, _, rfl, h1.2.2.2.2.2, h1.2.2.2.2.1, vo_put hv h1.2.2.2.2.2 (.inl ?_) ?_⟩
  · rw [h1.2.2.2.2.1]; exact c1
  · rw [h1.2.2.2.2.1]
    simp only
    omega
theorem doS_inv {o : TApiOffice} {p : TApiOp} (h0 : (doS o p).2 = 0) : VO o ∧ (1 ≤ p.Kind ∧ p.Kind ≤ 9) ∧ doS o p = stepS o p := by
  unfold doS at h0 ⊢
  split at h0
  · cases h0
  · rename_i h
    rw [if_neg h]
    exact ⟨Classical.byContradiction fun k => h (.inl k), by omega, rfl⟩
theorem doS_ok {o : TApiOffice} (hv : VO o) {p : TApiOp} (hk : 1 ≤ p.Kind ∧ p.Kind ≤ 9) : doS o p = stepS o p := by
  unfold doS
  rw [if_neg (fun k => k.elim (fun k => k hv) fun k => by omega)]
theorem do_vo {o : TApiOffice} {p : TApiOp} (h0 : (doS o p).2 = 0) : VO (doS o p).1 := by
  obtain ⟨hv, hk, e⟩ := doS_inv h0
  rw [e] at h0 ⊢
  by_cases c8 : p.Kind = 8
  · have e8 : stepS o p = hearS o p := by unfold stepS; rw [if_pos c8]
    rw [e8] at h0 ⊢
    obtain ⟨r, _, _, _, _, _, h⟩ := hear_vo hv h0
    exact h
  by_cases c7 : p.Kind = 7
  · have e7 : stepS o p = giveS o p := by unfold stepS; rw [if_neg c8, if_pos c7]
    rw [e7] at h0 ⊢
    obtain ⟨_, _, _, r, _, _, _, h⟩ := give_vo hv h0
    exact h
  exact (step_vo hv ⟨c7, c8⟩ h0).2.2.2.2
end Go.Proofs.YtbjbpoighbanfaaGreatDoor
namespace Go.Proofs.YtbjbpoighbanfaaGreatDoor
open Go Go.TA
/-! ## Offices that are made -/
theorem tot0 : tot 0 := by decide
theorem rightV_rtok {l : List TApiRight} (hg : ∀ x ∈ l, RtOk x) {c : List UInt8} {y : Int} (hc : good c = true) (hy : 0 ≤ y ∧ y ≤ 99) : RtOk (rightV l c y) := by
  by_cases h : hasR l c y = true
  · exact hg _ (rightV_mem h).1
  · unfold rightV; rw [if_neg h]; exact ⟨hc, hy, by simp, by simp, by simp⟩
theorem hear_succ {o : TApiOffice} (hv : VO o) {p : TApiOp} (hc : good p.Code = true) (hy : 0 ≤ p.Year ∧ p.Year ≤ 99) (hl : hasR o.Rights p.Code p.Year = true ∨ (o.Rights.length : Int) ≠ 60) (h1 : tot p.Granted) (h2 : tot p.AskedBack) : (hearS o p).2 = 0 := by
  have hr := rightV_rtok hv.ok hc hy
  have hcy := rightV_cy o.Rights p.Code p.Year
  have hk : (learnS (rightV o.Rights p.Code p.Year) (msgOf p)).2 = 0 := by
    unfold learnS
    rw [if_neg (fun k => k ⟨hr, rfl, hcy.1.symm, hcy.2.symm⟩), if_neg (fun k => k ⟨h1, h2⟩)]
  unfold hearS
  rw [if_neg (fun k => k hc), if_neg (by omega), if_neg (fun k => by
    rcases hl with h | h
    · rw [k.1] at h; cases h
    · exact h k.2), if_neg (fun k => k hk)]
def OI (k : Nat) (o : TApiOffice) : Prop := VO o ∧ o.Book.Reservations.length ≤ k ∧ o.Rights.length ≤ k ∧ ∀ r ∈ o.Rights, r.Granted ≤ 1000
theorem rightV_le {o : TApiOffice} (hG : ∀ r ∈ o.Rights, r.Granted ≤ 1000) (c : List UInt8) (y : Int) : (rightV o.Rights c y).Granted ≤ 1000 := by
  by_cases h : hasR o.Rights c y = true
  · exact hG _ (rightV_mem h).1
  · unfold rightV; rw [if_neg h]; simp
theorem do_oi {o : TApiOffice} {p : TApiOp} {k : Nat} (h : OI k o) (hp : p.Granted ≤ 1000) (h0 : (doS o p).2 = 0) : OI (k + 1) (doS o p).1 := by
  have hvo := do_vo h0
  obtain ⟨hv, hl1, hl2, hG⟩ := h
  obtain ⟨_, hk, e⟩ := doS_inv h0
  rw [e] at h0 hvo ⊢
  have hput : ∀ r : TApiRight, r.Granted ≤ 1000 → VO ⟨o.Number, putL o.Rights r, o.Book⟩ → OI (k + 1) ⟨o.Number, putL o.Rights r, o.Book⟩ := fun r hr hv' =>
    ⟨hv', by simp only; omega, by have := putL_len o.Rights r; simp only; omega, fun x hx => by
      rcases mem_put hx with rfl | hx
      · exact hr
      · exact hG x hx⟩
  by_cases c8 : p.Kind = 8
  · have e8 : stepS o p = hearS o p := by unfold stepS; rw [if_pos c8]
    rw [e8] at h0 hvo ⊢
    obtain ⟨r, e1, _, _, _, e2, _⟩ := hear_vo hv h0
    rw [e1] at hvo ⊢
    refine hput r ?_ hvo
    rw [e2]
    have := rightV_le hG p.Code p.Year
    simp only
    split <;> omega
  by_cases c7 : p.Kind = 7
  · have e7 : stepS o p = giveS o p := by unfold stepS; rw [if_neg c8, if_pos c7]
    rw [e7] at h0 hvo ⊢
    obtain ⟨_, _, _, r, e1, _, e2, _⟩ := give_vo hv h0
    rw [e1] at hvo ⊢
    refine hput r ?_ hvo
    rw [e2]
    exact rightV_le hG p.Code p.Year
  obtain ⟨e1, _, he, _, _⟩ := step_vo hv ⟨c7, c8⟩ h0
  rw [e1] at hvo ⊢
  exact ⟨hvo, by have := he.2.2.2.2.2; simp only; omega, by simp only; omega, hG⟩
theorem Op_spec {o : TApiOffice} (ho : Few o.Book) {s : TTape} (hs : TapeOk s) (day : Int) : ∃ p s', F_mk_Op o day s = some (p, s') ∧ TapeOk s' ∧ p.Code.length ≤ 60 ∧ p.Granted ≤ 1000 ∧ p.Amount ≤ 120 := by
  obtain ⟨l1, l2, l3, l4⟩ := ho
  obtain ⟨k, s1, e1, t1, k1⟩ := Pick_spec (l := [1, 1, 1, 2, 2, 2, 3, 3, 3, 4, 4, 5, 6, 7, 8, 8, 9]) hs (by decide) (by decide)
  obtain ⟨co, s2, e2, t2, hc, _⟩ := PotCode_spec t1
  obtain ⟨n1, s3, e3, t3, _, hn1⟩ := Range_spec (lo := 1) (hi := 120) t2 (by omega) (by omega) (by omega)
  obtain ⟨n2, s4, e4, t4, hn2⟩ := Pick_spec (l := [10, 50, n1]) t3 (by simp) (by simp)
  have hn2 : n2 ≤ 120 := by simp at hn2; omega
  simp only [F_mk_Op, S_mk_Op, Scr.den, e1, e2, e3, e4, obind]
  generalize IntKind.i64.wrap (day.tdiv 360) = yy
  have fin : ∀ (s5 : TTape) (p : TApiOp), TapeOk s5 → p.Code.length ≤ 60 → p.Granted ≤ 1000 → p.Amount ≤ 120 →
      ∃ p' s', outM (some (Out.next (s5, p) : Out (TTape × TApiOp) R_mk_Op)) (fun (sv5 : TTape × TApiOp) => outM (if (sv5.2.Kind == 2) = true then (F_mk_Tape_Range 1 4 sv5.1).bind fun rv17 => (F_mk_Tape_N 60 rv17.2).bind fun rv18 => some (Out.next (rv18.2, (⟨sv5.2.Kind, sv5.2.Code, sv5.2.Year, sv5.2.Day, sv5.2.Of, sv5.2.Amount, rv17.1, (IntKind.i64.wrap (day + rv18.1)), sv5.2.Granted, sv5.2.AskedBack⟩ : TApiOp)) : Out (TTape × TApiOp) R_mk_Op) else some (Out.next (sv5.1, sv5.2))) (fun (sv16 : TTape × TApiOp) => some (sv16.2, sv16.1)) some) some = some (p', s') ∧ TapeOk s' ∧ p'.Code.length ≤ 60 ∧ p'.Granted ≤ 1000 ∧ p'.Amount ≤ 120 := fun s5 p ht h1 h2 h3 => by
    simp only [outM]
    by_cases hk : (p.Kind == 2) = true
    · rw [if_pos hk]
      obtain ⟨x1, s6, q1, t6, _, _⟩ := Range_spec (lo := 1) (hi := 4) ht (by omega) (by omega) (by omega)
      obtain ⟨x2, s7, q2, t7, _, _⟩ := N_spec (n := 60) t6 (by omega) (by omega)
      simp only [q1, q2, obind]
      exact ⟨_, _, rfl, t7, h1, h2, h3⟩
    · rw [if_neg hk]
      exact ⟨_, _, rfl, ht, h1, h2, h3⟩
  have lm : ∀ {α : Type} (l : List α), l.length ≤ 1000000 → (1 : Int) ≤ (if (l.length : Int) > 1 then (l.length : Int) else 1) ∧ (if (l.length : Int) > 1 then (l.length : Int) else 1) ≤ 1000000 := fun l h => by split <;> omega
  have m1 := lm o.Book.Reservations l1
  have m2 := lm o.Book.Commitments l2
  have m3 := lm o.Book.Verifications l3
  have two : ∀ {c d : Bool} {P : Prop}, (c = true → P) → (d = true → P) → (c = false → d = false → P) → P := fun {c d P} h1 h2 h3 => by
    cases hc : c
    · cases hd : d
      · exact h3 hc hd
      · exact h2 hd
    · exact h1 hc
  have g1 : ∀ {β : Type} (c d : Bool), (c || d) = true → (if c = true then some (Out.next c) else some (Out.next d) : Option (Out Bool β)) = some (Out.next true) := fun {_} c d h => by cases c <;> cases d <;> first | rfl | cases h
  have g0 : ∀ {β : Type} (c d : Bool), (c || d) = false → (if c = true then some (Out.next c) else some (Out.next d) : Option (Out Bool β)) = some (Out.next false) := fun {_} c d h => by cases c <;> cases d <;> first | rfl | cases h
  by_cases c1 : ((k == 2) || (k == 5)) = true
  · rw [g1 _ _ c1]
    obtain ⟨x1, s5, q1, t5, _, _⟩ := Range_spec (lo := 1) (hi := (if (o.Book.Reservations.length : Int) > 1 then (o.Book.Reservations.length : Int) else 1)) t4 (by omega) m1.1 (by omega)
    simp only [outM, if_true, q1, obind]
    exact fin _ ⟨k, co, yy, day, x1, n2, 0, 0, 0, 0⟩ t5 hc (by show (0 : Int) ≤ 1000; decide) hn2
  have c1 : ((k == 2) || (k == 5)) = false := by simpa using c1
  rw [g0 _ _ c1]
  by_cases c2 : ((k == 3) || (k == 6)) = true
  · rw [g1 _ _ c2]
    obtain ⟨x1, s5, q1, t5, _, _⟩ := Range_spec (lo := 1) (hi := (if (o.Book.Commitments.length : Int) > 1 then (o.Book.Commitments.length : Int) else 1)) t4 (by omega) m2.1 (by omega)
    simp only [outM, Bool.false_eq_true, if_true, if_false, q1, obind]
    exact fin _ ⟨k, co, yy, day, x1, n2, 0, 0, 0, 0⟩ t5 hc (by show (0 : Int) ≤ 1000; decide) hn2
  have c2 : ((k == 3) || (k == 6)) = false := by simpa using c2
  rw [g0 _ _ c2]
  by_cases c3 : ((k == 4) || (k == 9)) = true
  · rw [g1 _ _ c3]
    obtain ⟨x1, s5, q1, t5, _, _⟩ := Range_spec (lo := 1) (hi := (if (o.Book.Verifications.length : Int) > 1 then (o.Book.Verifications.length : Int) else 1)) t4 (by omega) m3.1 (by omega)
    simp only [outM, Bool.false_eq_true, if_true, if_false, q1, obind]
    exact fin _ ⟨k, co, yy, day, x1, n2, 0, 0, 0, 0⟩ t5 hc (by show (0 : Int) ≤ 1000; decide) hn2
  have c3 : ((k == 4) || (k == 9)) = false := by simpa using c3
  rw [g0 _ _ c3]
  by_cases c4 : (k == 8) = true
  · obtain ⟨x1, s5, q1, t5, _, y1⟩ := N_spec (n := 1000) t4 (by omega) (by omega)
    obtain ⟨x2, s6, q2, t6, y2⟩ := Pick_spec (l := [100, 400, x1]) t5 (by simp) (by simp)
    obtain ⟨x3, s7, q3, t7, _, y3⟩ := N_spec (n := 200) t6 (by omega) (by omega)
    obtain ⟨x4, s8, q4, t8, y4⟩ := Pick_spec (l := [0, 0, x3]) t7 (by simp) (by simp)
    simp only [outM, Bool.false_eq_true, if_false, if_pos c4, q1, q2, q3, q4, obind]
    exact fin _ ⟨k, co, yy, day, 0, n2, 0, 0, x2, x4⟩ t8 hc (by simp at y2; show x2 ≤ 1000; omega) hn2
  · simp only [outM, Bool.false_eq_true, if_false, if_neg c4]
    exact fin _ ⟨k, co, yy, day, 0, n2, 0, 0, 0, 0⟩ t4 hc (by show (0 : Int) ≤ 1000; decide) hn2
theorem Op_spec' {o : TApiOffice} (hv : VO o) {s : TTape} (hs : TapeOk s) (day : Int) : ∃ p s', F_mk_Op o day s = some (p, s') ∧ TapeOk s' ∧ p.Code.length ≤ 60 ∧ p.Granted ≤ 1000 ∧ p.Amount ≤ 120 := Op_spec hv.smO.1.1 hs day
theorem r15_New_eq (n : Int) : F_r15_New n = some (if n < 1 ∨ n > 6 then (noO, 2) else (⟨n, [], nb⟩, 0)) := by
  simp only [F_r15_New, S_r15_New, Scr.den, cond_or]
  exact st (by simp only [Bool.or_eq_true, decide_eq_true_eq]) (fun _ => rfl) (fun _ => rfl)
theorem New_eq (n : Int) : F_office_New n = some (if n < 1 ∨ n > 6 then (noO, 2) else (⟨n, [], nb⟩, 0)) := by
  simp only [F_office_New, S_office_New, Scr.den, cond_or]
  exact st (by simp only [Bool.or_eq_true, decide_eq_true_eq]) (fun _ => rfl) (fun _ => rfl)
theorem new_oi {n : Int} (h1 : 1 ≤ n) (h2 : n ≤ 6) : OI 0 ⟨n, [], nb⟩ :=
  ⟨⟨⟨h1, h2⟩, (by simp), nb_val, (fun _ h => nomatch h), (fun i hi => absurd hi (by simp)), (fun x hx => nomatch hx)⟩, (by simp [nb]), (by simp), (fun _ h => nomatch h)⟩
theorem Office_spec {n : Int} (h0 : 0 ≤ n) (hn : n ≤ 40) {s : TTape} (hs : TapeOk s) : ∃ o s', F_mk_Office n s = some (o, s') ∧ TapeOk s' ∧ OI (n + 2).toNat o := by
  simp only [F_mk_Office, S_mk_Office, Scr.den]
  obtain ⟨k, s1, e1, t1, k1, k2⟩ := Range_spec (lo := 1) (hi := 3) hs (by omega) (by omega) (by omega)
  obtain ⟨d, s2, e2, t2, d1, d2⟩ := N_spec (n := 50) t1 (by omega) (by omega)
  simp only [e1, e2, r15_New_eq, obind]
  rw [if_neg (by omega)]
  obtain ⟨q, e3, t3, h3⟩ := iterM_inv (step := fun s => (S_mk_Office_b1 s).den) (fun s => (2 - s.2.2).toNat) (fun s => TapeOk s.1 ∧ 0 ≤ s.2.2 ∧ s.2.2 ≤ 2 ∧ OI s.2.2.toNat s.2.1) (fun s => TapeOk s.1 ∧ OI 2 s.2.1) (fun s hI => by
    obtain ⟨st, o, i⟩ := s
    obtain ⟨a1, a2, a3, a4⟩ := hI
    simp only at a1 a2 a3 a4
    simp only [S_mk_Office_b1, Scr.den]
    by_cases hi : i < 2
    · left
      rw [if_pos (by simpa using hi)]
      obtain ⟨n1, s5, e5, t5, _, z1⟩ := N_spec (n := 800) a1 (by omega) (by omega)
      obtain ⟨n2, s6, e6, t6, z2⟩ := Pick_spec (l := [300, n1]) t5 (by simp) (by simp)
      have hc : good (([[49], [50]] : List (List UInt8)).getD i.toNat default) = true ∧ (([[49], [50]] : List (List UInt8)).getD i.toNat default).length ≤ 60 := by
        have : i = 0 ∨ i = 1 := by omega
        rcases this with rfl | rfl <;> decide
      simp only [e5, e6, obind, r15_Do_eq a4.1.smO (p := ⟨8, ([[49], [50]] : List (List UInt8)).getD i.toNat default, 12, 0, 0, 0, 0, 0, n2, 0⟩) (by simp only; omega)]
      rw [guardP_pos ⟨by omega, by omega, trivial⟩, wrapId (by omega) (by omega)]
      have hz : 0 ≤ n2 ∧ n2 ≤ 800 := by simp at z2; omega
      have hs : (doS o ⟨8, ([[49], [50]] : List (List UInt8)).getD i.toNat default, 12, 0, 0, 0, 0, 0, n2, 0⟩).2 = 0 := by
        rw [doS_ok a4.1 (by simp only; omega)]
        unfold stepS
        rw [if_pos rfl]
        exact hear_succ a4.1 hc.1 (by simp only; omega) (.inr (by have := a4.2.2.1; omega)) ⟨hz.1, by simp only; omega⟩ tot0
      refine ⟨_, rfl, ⟨t6, by simp only; omega, by simp only; omega, ?_⟩, by simp only; omega⟩
      have := do_oi a4 (by simp only; omega) hs
      simp only
      rwa [show (i + 1).toNat = i.toNat + 1 by omega]
    · right
      rw [if_neg (by simpa using hi)]
      exact ⟨_, rfl, a1, by simp only; rwa [show i.toNat = 2 by omega] at a4⟩) _ (s2, ⟨k, [], nb⟩, 0) (Nat.lt_succ_self _) ⟨t2, by simp only; omega, by simp only; omega, new_oi (by omega) (by omega)⟩
  rw [e3]
  simp only [outM]
  rw [wrapId (n := n + 1) (by omega) (by omega)]
  obtain ⟨i, s3, e4, t4, i1, i2⟩ := N_spec (n := n + 1) t3 (by omega) (by omega)
  simp only [e4, obind]
  obtain ⟨q', e5, t5, h5⟩ := iterM_inv (step := fun s => (S_mk_Office_b2 s).den) (fun s => s.2.2.2.toNat) (fun s => TapeOk s.1 ∧ 0 ≤ s.2.2.2 ∧ s.2.2.2 ≤ n ∧ OI (n + 2 - s.2.2.2).toNat s.2.1) (fun s => TapeOk s.1 ∧ OI (n + 2).toNat s.2.1) (fun s hI => by
    obtain ⟨st, o, day, i⟩ := s
    obtain ⟨a1, a2, a3, a4⟩ := hI
    simp only at a1 a2 a3 a4
    simp only [S_mk_Office_b2, Scr.den]
    by_cases hi : i > 0
    · left
      rw [if_pos (by simpa using hi)]
      obtain ⟨n1, s5, e5, t5, _, _⟩ := N_spec (n := 25) a1 (by omega) (by omega)
      obtain ⟨n2, s6, e6, t6, _⟩ := Pick_spec (l := [0, 1, n1]) t5 (by simp) (by simp)
      obtain ⟨p, s7, e7, t7, p1, p2, _⟩ := Op_spec' a4.1 t6 (IntKind.i64.wrap (day + n2))
      simp only [e5, e6, e7, obind, r15_Do_eq a4.1.smO (p := p) (by omega)]
      rw [wrapId (n := i - 1) (by omega) (by omega)]
      have hle : ∀ o', OI (n + 2 - i).toNat o' → OI (n + 2 - (i - 1)).toNat o' := fun o' h => ⟨h.1, by have := h.2.1; omega, by have := h.2.2.1; omega, h.2.2.2⟩
      by_cases hd : (doS o p).2 = 0
      · rw [if_pos (by simp [hd])]
        refine ⟨_, rfl, ⟨t7, by simp only; omega, by simp only; omega, ?_⟩, by simp only; omega⟩
        have := do_oi a4 p2 hd
        simp only
        rwa [show (n + 2 - (i - 1)).toNat = (n + 2 - i).toNat + 1 by omega]
      · rw [if_neg (by simp [hd])]
        exact ⟨_, rfl, ⟨t7, by simp only; omega, by simp only; omega, hle _ a4⟩, by simp only; omega⟩
    · right
      rw [if_neg (by simpa using hi)]
      exact ⟨_, rfl, a1, by simp only; rwa [show (n + 2 - i).toNat = (n + 2).toNat by omega] at a4⟩) _ (s3, q.2.1, IntKind.i64.wrap (4320 + d), i) (Nat.lt_succ_self _) ⟨t4, i1, by simp only; omega, ⟨h3.1, by have := h3.2.1; simp only; omega, by have := h3.2.2.1; simp only; omega, h3.2.2.2⟩⟩
  rw [e5]
  exact ⟨_, _, rfl, t5, h5⟩
end Go.Proofs.YtbjbpoighbanfaaGreatDoor
namespace Go.Proofs.YtbjbpoighbanfaaGreatDoor
open Go Go.TA
/-! ## What is wanted, and the answer -/
def wantedS (r : TApiRight) (u : Int) : Int :=
  if RtOk r ∧ (0 ≤ u ∧ u ≤ r.Granted - r.Returned) then (if r.Granted - u < r.Asked then (if r.Granted - u - r.Returned > 0 then r.Granted - u - r.Returned else 0) else (if r.Asked - r.Returned > 0 then r.Asked - r.Returned else 0)) else 0
theorem wn1 {x : Int} : (if 0 > x then 0 else x) = (if x > 0 then x else 0) := by split <;> split <;> omega
theorem wn2 {x y : Int} (h : x = y) : (if x > 0 then x else 0) = (if y > 0 then y else 0) := by rw [h]
theorem rights_Wanted_eq {r : TApiRight} (h : r.Code.length ≤ 1000000) {u : Int} : F_rights_Wanted r u = some (wantedS r u) := by
  open Classical in simp only [F_rights_Wanted, S_rights_Wanted, Scr.den, rights_Right_eq h, rights_among_eq, optD_tot, obind, cond_or, or_not]
  unfold wantedS
  by_cases hR : RtOk r
  · have hR' := hR
    unfold RtOk at hR'
    have w1 : IntKind.i64.wrap (r.Granted - r.Returned) = r.Granted - r.Returned := wrapId (by omega) (by omega)
    rw [w1]
    by_cases hu : 0 ≤ u ∧ u ≤ r.Granted - r.Returned
    · rw [if_pos (show RtOk r ∧ (0 ≤ u ∧ u ≤ r.Granted - r.Returned) from ⟨hR, hu⟩), if_neg (by simp [hR, hu]), wrapId (n := r.Granted - u) (by omega) (by omega)]
      refine congrArg some ?_
      by_cases k : r.Granted - u < r.Asked
      · simp only [if_pos k]
        rw [wrapId (by omega) (by omega)]
        exact wn1
      · simp only [if_neg k]
        rw [wrapId (by omega) (by omega)]
        exact wn1
    · rw [if_pos (by simp [hR]; omega), if_neg (fun k => hu k.2)]
  · rw [if_pos (by simp [hR]), if_neg (fun k => hR k.1)]
theorem r13_Wanted_eq {r : TApiRight} (h : r.Code.length ≤ 1000000) {u : Int} : F_r13_Wanted r u = some (wantedS r u) := by
  simp only [F_r13_Wanted, S_r13_Wanted, Scr.den, r13_Right_eq h, obind, cond_or]
  unfold wantedS
  by_cases hR : RtOk r
  · have hR' := hR
    unfold RtOk at hR'
    have w1 : IntKind.i64.wrap (r.Granted - r.Returned) = r.Granted - r.Returned := wrapId (by omega) (by omega)
    rw [w1]
    by_cases hu : 0 ≤ u ∧ u ≤ r.Granted - r.Returned
    · rw [if_pos (show RtOk r ∧ (0 ≤ u ∧ u ≤ r.Granted - r.Returned) from ⟨hR, hu⟩), if_neg (by simp [hR]; omega), wrapId (n := r.Granted - r.Returned - u) (by omega) (by omega), wrapId (n := r.Asked - r.Returned) (by omega) (by omega)]
      refine congrArg some ?_
      by_cases k : r.Granted - u < r.Asked
      · rw [if_pos k]
        simp only [if_pos (show r.Granted - r.Returned - u < r.Asked - r.Returned by omega)]
        exact wn2 (by omega)
      · rw [if_neg k]
        simp only [if_neg (show ¬ (r.Granted - r.Returned - u < r.Asked - r.Returned) by omega)]
    · rw [if_pos (by simp [hR]; omega), if_neg (fun k => hu k.2)]
  · rw [if_pos (by simp [hR]), if_neg (fun k => hR k.1)]
def noP : TApiOp := ⟨0, [], 0, 0, 0, 0, 0, 0, 0, 0⟩
open Classical in
noncomputable def answerS (o : TApiOffice) (c : List UInt8) (y : Int) : TApiOp × Bool :=
  if ¬ VO o then (noP, false) else
  if wantedS (rightV o.Rights c y) (usedV o.Book c y) = 0 then (noP, false) else (⟨7, c, y, 0, 0, wantedS (rightV o.Rights c y) (usedV o.Book c y), 0, 0, 0, 0⟩, true)
theorem rightV_len' (l : List TApiRight) {c : List UInt8} (hc : c.length ≤ 1000000) (y : Int) : (rightV l c y).Code.length ≤ 1000000 := by
  rw [(rightV_cy l c y).1]; exact hc
theorem Answer_eq {o : TApiOffice} (hs : SmO o) {c : List UInt8} (hc : c.length ≤ 1000000) (y : Int) : F_office_Answer o c y = some (answerS o c y) := by
  simp only [F_office_Answer, S_office_Answer, Scr.den, officeValid_eq hs, Right_eq, Used_eq, rights_Wanted_eq (rightV_len' o.Rights hc y), obind]
  unfold answerS
  refine st (by simp) (fun _ => rfl) fun _ => ?_
  refine st (by simp only [beq_iff_eq]) (fun _ => rfl) fun _ => rfl
theorem r15_Answer_eq {o : TApiOffice} (hs : SmO o) {c : List UInt8} (hc : c.length ≤ 1000000) (y : Int) : F_r15_Answer o c y = some (answerS o c y) := by
  simp only [F_r15_Answer, S_r15_Answer, Scr.den, r15_Valid_eq hs, r15_Right_eq, r14_Used_eq, r13_Wanted_eq (rightV_len' o.Rights hc y), obind]
  unfold answerS
  refine st (by simp) (fun _ => rfl) fun _ => ?_
  refine st (by simp only [beq_iff_eq]) (fun _ => rfl) fun _ => rfl
def noM : TApiMessage := ⟨0, 0, [], 0, 0, 0, 0, 0⟩
open Classical in
noncomputable def reportS (o : TApiOffice) (c : List UInt8) (y : Int) : TApiMessage × Int :=
  if ¬ VO o then (noM, 1) else
  if ¬ hasR o.Rights c y = true then (noM, 6) else (⟨o.Number, 0, c, y, 0, 0, (rightV o.Rights c y).Returned, usedV o.Book c y⟩, 0)
theorem Report_eq {o : TApiOffice} (hs : SmO o) (c : List UInt8) (y : Int) : F_office_Report o c y = some (reportS o c y) := by
  simp only [F_office_Report, S_office_Report, Scr.den, officeValid_eq hs, has_eq, Right_eq, Used_eq, obind]
  unfold reportS
  refine st (by simp) (fun _ => rfl) fun _ => ?_
  refine st (by simp) (fun _ => rfl) fun _ => rfl
theorem r15_Report_eq {o : TApiOffice} (hs : SmO o) (c : List UInt8) (y : Int) : F_r15_Report o c y = some (reportS o c y) := by
  simp only [F_r15_Report, S_r15_Report, Scr.den, r15_Valid_eq hs, at_eq, r15_Right_eq, r14_Used_eq, obind]
  unfold reportS
  refine st (by simp) (fun _ => rfl) fun _ => ?_
  refine st (by cases hh : hasR o.Rights c y <;> simp <;> (try exact Int.not_lt.2 (Int.natCast_nonneg _))) (fun _ => rfl) fun _ => rfl
/-! ## The example -/
def a1 : TApiOffice := ⟨2, [], nb⟩
def a2 : TApiOffice := ⟨2, [⟨[49], 12, 100, 0, 0⟩], nb⟩
def aR : TApiReservation := ⟨1, [49], 12, 4330, 60, 0⟩
def a3 : TApiOffice := ⟨2, [⟨[49], 12, 100, 0, 0⟩], ⟨[aR], [], [], []⟩⟩
def a4 : TApiOffice := ⟨2, [⟨[49], 12, 100, 0, 40⟩], ⟨[aR], [], [], []⟩⟩
def q1 : TApiOp := ⟨8, [49], 12, 0, 0, 0, 0, 0, 100, 0⟩
def q2 : TApiOp := ⟨1, [49], 12, 4330, 0, 60, 0, 0, 0, 0⟩
def q3 : TApiOp := ⟨7, [49], 12, 0, 0, 40, 0, 0, 0, 0⟩
def q4 : TApiOp := ⟨1, [49], 12, 4330, 0, 1, 0, 0, 0, 0⟩
theorem va1 : VO a1 := (new_oi (by omega) (by omega)).1
theorem st1 : doS a1 q1 = (a2, 0) := by
  rw [doS_ok va1 (by decide)]
  unfold stepS
  rw [if_pos (by decide)]
  kernel_rfl
theorem va2 : VO a2 := by have := do_vo (o := a1) (p := q1) (by rw [st1]); rwa [st1] at this
theorem st2 : doS a2 q2 = (a3, 0) := by
  rw [doS_ok va2 (by decide)]
  unfold stepS
  have h : reserveS a2.Book q2.Code q2.Year q2.Day q2.Amount = (⟨[aR], [], [], []⟩, 0) :=
    reserveS_ok (b := nb) (code := [49]) (y := 12) (d := 4330) (n := 60) nb_val (by decide +kernel) (by decide) (by decide) (by decide) (by decide) (by decide)
  have hu : unusedV a2 q2.Code q2.Year = 100 := by decide +kernel
  have hb : bookS a2.Book q2 = (⟨[aR], [], [], []⟩, 0) := by unfold bookS; rw [if_pos (by decide), h]
  rw [if_neg (by decide), if_neg (by decide), hb, if_neg (by decide), if_neg (by rw [hu]; decide)]
  rfl
theorem va3 : VO a3 := by have := do_vo (o := a2) (p := q2) (by rw [st2]); rwa [st2] at this
theorem st3 : doS a3 q3 = (a4, 0) := by
  rw [doS_ok va3 (by decide)]
  unfold stepS
  rw [if_neg (by decide), if_pos (by decide)]
  kernel_rfl
theorem va4 : VO a4 := by have := do_vo (o := a3) (p := q3) (by rw [st3]); rwa [st3] at this
theorem st4 : doS a4 q4 = (noO, 15) := by
  rw [doS_ok va4 (by decide)]
  unfold stepS
  have h : (reserveS a4.Book q4.Code q4.Year q4.Day q4.Amount).2 = 0 := by
    have := reserveS_ok (b := a4.Book) (code := [49]) (y := 12) (d := 4330) (n := 1) va4.val (by decide +kernel) (by decide) (by decide) (by decide) (by decide) (by decide)
    exact congrArg Prod.snd this
  have hu : unusedV a4 q4.Code q4.Year = 0 := by decide +kernel
  have hb : (bookS a4.Book q4).2 = 0 := by unfold bookS; rw [if_pos (by decide), h]
  rw [if_neg (by decide), if_neg (by decide), if_neg (by rw [hb]; decide), if_pos (by rw [hu]; decide)]
theorem awake_true' : F_w15_awake = some true := by
  have h0 : F_office_New 2 = some (a1, 0) := by rw [New_eq]; rfl
  have h1 : F_office_Do a1 (⟨8, [49], 12, 0, 0, 0, 0, 0, 100, 0⟩ : TApiOp) = some (a2, 0) := by
    have := Do_eq va1.smO (p := q1) (by decide); rw [st1] at this; exact this
  have h2 : F_office_Do a2 (⟨1, [49], 12, 4330, 0, 60, 0, 0, 0, 0⟩ : TApiOp) = some (a3, 0) := by
    have := Do_eq va2.smO (p := q2) (by decide); rw [st2] at this; exact this
  have h3 : F_office_Do a3 (⟨7, [49], 12, 0, 0, 40, 0, 0, 0, 0⟩ : TApiOp) = some (a4, 0) := by
    have := Do_eq va3.smO (p := q3) (by decide); rw [st3] at this; exact this
  have h4 : F_office_Do a4 (⟨1, [49], 12, 4330, 0, 1, 0, 0, 0, 0⟩ : TApiOp) = some (noO, 15) := by
    have := Do_eq va4.smO (p := q4) (by decide); rw [st4] at this; exact this
  have h5 : F_office_Report a4 [49] 12 = some (⟨2, 0, [49], 12, 0, 0, 40, 60⟩, 0) := by
    rw [Report_eq va4.smO]
    unfold reportS
    rw [if_neg (fun k => k va4), if_neg (by decide +kernel)]
    have : usedV a4.Book [49] 12 = 60 := by decide +kernel
    rw [this]
    rfl
  simp only [F_w15_awake, S_w15_awake, Scr.den, h0, h1, h2, h3, h4, h5, obind]
  rfl
end Go.Proofs.YtbjbpoighbanfaaGreatDoor
namespace Go.Proofs.YtbjbpoighbanfaaGreatDoor
open Go Go.TA
/-! ## The law that an office keeps -/
/-! ## The law of uses -/
end Go.Proofs.YtbjbpoighbanfaaGreatDoor
namespace Go.Proofs.YtbjbpoighbanfaaGreatDoor
open Go Go.TA
/-! ## The law on reservations -/
end Go.Proofs.YtbjbpoighbanfaaGreatDoor
namespace Go.Proofs.YtbjbpoighbanfaaGreatDoor
open Go Go.TA
/-! ## The law on what is asked -/
end Go.Proofs.YtbjbpoighbanfaaGreatDoor
namespace Go.Proofs.YtbjbpoighbanfaaGreatDoor
open Go Go.TA
/-! ## Whether two are the same -/
theorem eq_loop {α : Type} [Inhabited α] {a b : List α} (hl : a.length = b.length) {E : α → α → Bool} (hE : ∀ x y, E x y = true ↔ x = y) {body : Nat → Unit → Option (Step Unit Bool)} (hb : ∀ i, i < a.length → body i () = if (!E (a.getD i default) (b.getD i default)) = true then some (.ret false) else some (.cont ())) :
    (a = b → rangeM body a.length 0 () = some (.next ())) ∧ (a ≠ b → rangeM body a.length 0 () = some (.ret false)) := by
  obtain ⟨h1, h2⟩ := rangeM_all (body := body) (n := a.length) (c := false) (fun i => a.getD i default = b.getD i default) (fun i hi h => by rw [hb i hi, if_neg (by rw [(hE _ _).2 h]; decide)]) (fun i hi h => by rw [hb i hi, if_pos (by
    cases e : E (a.getD i default) (b.getD i default)
    · rfl
    · exact absurd ((hE _ _).1 e) h)])
  have key : a = b ↔ ∀ i, i < a.length → a.getD i default = b.getD i default := ⟨fun h i _ => by rw [h], fun h => List.ext_getElem hl fun i i1 i2 => by
    have := h i i1
    rwa [getD_el i1, getD_el i2] at this⟩
  exact ⟨fun h => h1 (key.1 h), fun h => h2 fun k => h (key.2 k)⟩
def eqRight (x y : TApiRight) : Bool := ((x.Code == y.Code) && ((x.Year == y.Year) && ((x.Granted == y.Granted) && ((x.Asked == y.Asked) && ((x.Returned == y.Returned) && true)))))
theorem eqRight_iff (x y : TApiRight) : eqRight x y = true ↔ x = y := by cases x; cases y; simp [eqRight]
open Classical in
theorem equalRight (a b : List TApiRight) : F_slices_Equal_Right a b = some (decide (a = b)) := by
  simp only [F_slices_Equal_Right, S_slices_Equal_Right, Scr.den]
  by_cases hl : a.length = b.length
  · rw [if_neg (by simp [hl])]
    obtain ⟨h1, h2⟩ := eq_loop (a := a) (b := b) hl eqRight_iff (body := fun i s => (S_slices_Equal_Right_b1 a b i s).den) (fun i hi => by
      simp only [S_slices_Equal_Right_b1, Scr.den]
      rw [guardP_pos ⟨by omega, trivial⟩]
      rfl)
    by_cases e : a = b
    · rw [h1 e, decide_eq_true e]; rfl
    · rw [h2 e, decide_eq_false e]; rfl
  · rw [if_pos (by simp; omega), decide_eq_false (fun e => hl (by rw [e]))]
def eqReservation (x y : TApiReservation) : Bool := ((x.Number == y.Number) && ((x.Code == y.Code) && ((x.Year == y.Year) && ((x.Day == y.Day) && ((x.Amount == y.Amount) && ((x.Released == y.Released) && true))))))
theorem eqReservation_iff (x y : TApiReservation) : eqReservation x y = true ↔ x = y := by cases x; cases y; simp [eqReservation]
open Classical in
theorem equalReservation (a b : List TApiReservation) : F_slices_Equal_Reservation a b = some (decide (a = b)) := by
  simp only [F_slices_Equal_Reservation, S_slices_Equal_Reservation, Scr.den]
  by_cases hl : a.length = b.length
  · rw [if_neg (by simp [hl])]
    obtain ⟨h1, h2⟩ := eq_loop (a := a) (b := b) hl eqReservation_iff (body := fun i s => (S_slices_Equal_Reservation_b1 a b i s).den) (fun i hi => by
      simp only [S_slices_Equal_Reservation_b1, Scr.den]
      rw [guardP_pos ⟨by omega, trivial⟩]
      rfl)
    by_cases e : a = b
    · rw [h1 e, decide_eq_true e]; rfl
    · rw [h2 e, decide_eq_false e]; rfl
  · rw [if_pos (by simp; omega), decide_eq_false (fun e => hl (by rw [e]))]
def eqCommitment (x y : TApiCommitment) : Bool := ((x.Number == y.Number) && ((x.Reservation == y.Reservation) && ((x.Day == y.Day) && ((x.Amount == y.Amount) && ((x.Released == y.Released) && ((x.Payee == y.Payee) && ((x.Due == y.Due) && true)))))))
theorem eqCommitment_iff (x y : TApiCommitment) : eqCommitment x y = true ↔ x = y := by cases x; cases y; simp [eqCommitment]
open Classical in
theorem equalCommitment (a b : List TApiCommitment) : F_slices_Equal_Commitment a b = some (decide (a = b)) := by
  simp only [F_slices_Equal_Commitment, S_slices_Equal_Commitment, Scr.den]
  by_cases hl : a.length = b.length
  · rw [if_neg (by simp [hl])]
    obtain ⟨h1, h2⟩ := eq_loop (a := a) (b := b) hl eqCommitment_iff (body := fun i s => (S_slices_Equal_Commitment_b1 a b i s).den) (fun i hi => by
      simp only [S_slices_Equal_Commitment_b1, Scr.den]
      rw [guardP_pos ⟨by omega, trivial⟩]
      rfl)
    by_cases e : a = b
    · rw [h1 e, decide_eq_true e]; rfl
    · rw [h2 e, decide_eq_false e]; rfl
  · rw [if_pos (by simp; omega), decide_eq_false (fun e => hl (by rw [e]))]
def eqVerification (x y : TApiVerification) : Bool := ((x.Number == y.Number) && ((x.Commitment == y.Commitment) && ((x.Day == y.Day) && ((x.Amount == y.Amount) && true))))
theorem eqVerification_iff (x y : TApiVerification) : eqVerification x y = true ↔ x = y := by cases x; cases y; simp [eqVerification]
open Classical in
theorem equalVerification (a b : List TApiVerification) : F_slices_Equal_Verification a b = some (decide (a = b)) := by
  simp only [F_slices_Equal_Verification, S_slices_Equal_Verification, Scr.den]
  by_cases hl : a.length = b.length
  · rw [if_neg (by simp [hl])]
    obtain ⟨h1, h2⟩ := eq_loop (a := a) (b := b) hl eqVerification_iff (body := fun i s => (S_slices_Equal_Verification_b1 a b i s).den) (fun i hi => by
      simp only [S_slices_Equal_Verification_b1, Scr.den]
      rw [guardP_pos ⟨by omega, trivial⟩]
      rfl)
    by_cases e : a = b
    · rw [h1 e, decide_eq_true e]; rfl
    · rw [h2 e, decide_eq_false e]; rfl
  · rw [if_pos (by simp; omega), decide_eq_false (fun e => hl (by rw [e]))]
def eqOrder (x y : TApiOrder) : Bool := ((x.Number == y.Number) && ((x.Verification == y.Verification) && ((x.Attempt == y.Attempt) && ((x.Day == y.Day) && ((x.Back == y.Back) && true)))))
theorem eqOrder_iff (x y : TApiOrder) : eqOrder x y = true ↔ x = y := by cases x; cases y; simp [eqOrder]
open Classical in
theorem equalOrder (a b : List TApiOrder) : F_slices_Equal_Order a b = some (decide (a = b)) := by
  simp only [F_slices_Equal_Order, S_slices_Equal_Order, Scr.den]
  by_cases hl : a.length = b.length
  · rw [if_neg (by simp [hl])]
    obtain ⟨h1, h2⟩ := eq_loop (a := a) (b := b) hl eqOrder_iff (body := fun i s => (S_slices_Equal_Order_b1 a b i s).den) (fun i hi => by
      simp only [S_slices_Equal_Order_b1, Scr.den]
      rw [guardP_pos ⟨by omega, trivial⟩]
      rfl)
    by_cases e : a = b
    · rw [h1 e, decide_eq_true e]; rfl
    · rw [h2 e, decide_eq_false e]; rfl
  · rw [if_pos (by simp; omega), decide_eq_false (fun e => hl (by rw [e]))]
open Classical in
theorem r14_Same_eq {a : TApiBook} (h : Few2 a) (b : TApiBook) : F_r14_Same a b = some (decide (a = b)) := by
  obtain ⟨f1, f2, f3, f4⟩ := h
  simp only [F_r14_Same, S_r14_Same, Scr.den, cond_or]
  have hab : a = b ↔ a.Reservations = b.Reservations ∧ a.Commitments = b.Commitments ∧ a.Verifications = b.Verifications ∧ a.Orders = b.Orders := by cases a; cases b; simp
  by_cases hl : a.Reservations.length = b.Reservations.length ∧ a.Commitments.length = b.Commitments.length ∧ a.Verifications.length = b.Verifications.length ∧ a.Orders.length = b.Orders.length
  · obtain ⟨l1, l2, l3, l4⟩ := hl
    rw [if_neg (by simp [l1, l2, l3, l4])]
    rw [guardP_pos ⟨by omega, trivial⟩]
    obtain ⟨h1, k1⟩ := eq_loop (a := a.Reservations) (b := b.Reservations) l1 eqReservation_iff (body := fun i s => (S_r14_Same_b1 a b i s).den) (fun i hi => by
      simp only [S_r14_Same_b1, Scr.den]
      rw [guardP_pos ⟨by omega, trivial⟩]
      rfl)
    by_cases e1 : a.Reservations = b.Reservations
    · rw [h1 e1]
      simp only [outM]
      rw [guardP_pos ⟨by omega, trivial⟩]
      obtain ⟨h2, k2⟩ := eq_loop (a := a.Commitments) (b := b.Commitments) l2 eqCommitment_iff (body := fun i s => (S_r14_Same_b2 a b i s).den) (fun i hi => by
        simp only [S_r14_Same_b2, Scr.den]
        rw [guardP_pos ⟨by omega, trivial⟩]
        rfl)
      by_cases e2 : a.Commitments = b.Commitments
      · rw [h2 e2]
        simp only
        rw [guardP_pos ⟨by omega, trivial⟩]
        obtain ⟨h3, k3⟩ := eq_loop (a := a.Verifications) (b := b.Verifications) l3 eqVerification_iff (body := fun i s => (S_r14_Same_b3 a b i s).den) (fun i hi => by
          simp only [S_r14_Same_b3, Scr.den]
          rw [guardP_pos ⟨by omega, trivial⟩]
          rfl)
        by_cases e3 : a.Verifications = b.Verifications
        · rw [h3 e3]
          simp only
          rw [guardP_pos ⟨by omega, trivial⟩]
          obtain ⟨h4, k4⟩ := eq_loop (a := a.Orders) (b := b.Orders) l4 eqOrder_iff (body := fun i s => (S_r14_Same_b4 a b i s).den) (fun i hi => by
            simp only [S_r14_Same_b4, Scr.den]
            rw [guardP_pos ⟨by omega, trivial⟩]
            rfl)
          by_cases e4 : a.Orders = b.Orders
          · rw [h4 e4]
            simp only
            rw [decide_eq_true (hab.2 ⟨e1, e2, e3, e4⟩)]
          · rw [k4 e4, decide_eq_false (fun q => e4 (hab.1 q).2.2.2)]; rfl
        · rw [k3 e3, decide_eq_false (fun q => e3 (hab.1 q).2.2.1)]; rfl
      · rw [k2 e2, decide_eq_false (fun q => e2 (hab.1 q).2.1)]; rfl
    · rw [k1 e1, decide_eq_false (fun q => e1 (hab.1 q).1)]; rfl
  · rw [if_pos (by
      simp only [Bool.or_eq_true, bne_iff_ne, ne_eq]; omega), decide_eq_false (fun e => hl (by rw [e]; exact ⟨rfl, rfl, rfl, rfl⟩))]
open Classical in
theorem r15_Same_eq {a : TApiOffice} (h : Few3 a) (b : TApiOffice) : F_r15_Same a b = some (decide (a = b)) := by
  have hab : a = b ↔ a.Number = b.Number ∧ a.Rights = b.Rights ∧ a.Book = b.Book := by cases a; cases b; simp
  have f1 := h.1
  simp only [F_r15_Same, S_r15_Same, Scr.den, r14_Same_eq h.2, optD_tot, obind, cond_or, or_not]
  by_cases hl : a.Number = b.Number ∧ a.Rights.length = b.Rights.length ∧ a.Book = b.Book
  · obtain ⟨l1, l2, l3⟩ := hl
    rw [if_neg (by simp [l1, l2, l3]), guardP_pos ⟨by omega, trivial⟩]
    obtain ⟨h1, k1⟩ := eq_loop (a := a.Rights) (b := b.Rights) l2 eqRight_iff (body := fun i s => (S_r15_Same_b1 a b i s).den) (fun i hi => by
      simp only [S_r15_Same_b1, Scr.den]
      rw [guardP_pos ⟨by omega, trivial⟩]
      rfl)
    by_cases e1 : a.Rights = b.Rights
    · rw [h1 e1, decide_eq_true (hab.2 ⟨l1, e1, l3⟩)]; rfl
    · rw [k1 e1, decide_eq_false (fun q => e1 (hab.1 q).2.1)]; rfl
  · rw [if_pos, decide_eq_false (fun e => hl (by rw [e]; exact ⟨rfl, rfl, rfl⟩))]
    simp only [Bool.or_eq_true, bne_iff_ne, ne_eq, Bool.not_eq_true', decide_eq_false_iff_not]
    by_cases c1 : a.Number = b.Number
    · by_cases c2 : a.Rights.length = b.Rights.length
      · exact .inr fun q => hl ⟨c1, c2, q⟩
      · exact .inl (.inr (by omega))
    · exact .inl (.inl c1)
open Classical in
theorem Same_eq (a b : TApiOffice) : F_office_Same a b = some (decide (a = b)) := by
  have hab : a = b ↔ a.Number = b.Number ∧ a.Rights = b.Rights ∧ a.Book.Reservations = b.Book.Reservations ∧ a.Book.Commitments = b.Book.Commitments ∧ a.Book.Verifications = b.Book.Verifications ∧ a.Book.Orders = b.Book.Orders := by
    obtain ⟨n, r, ⟨x1, x2, x3, x4⟩⟩ := a
    obtain ⟨n', r', ⟨y1, y2, y3, y4⟩⟩ := b
    simp
  simp only [F_office_Same, S_office_Same, Scr.den, equalRight, equalReservation, equalCommitment, equalVerification, equalOrder, optD_tot, obind, cond_and, and_self']
  refine congrArg some ?_
  rw [Bool.eq_iff_iff]
  simp only [Bool.and_eq_true, decide_eq_true_eq, beq_iff_eq, hab, and_assoc]
/-! ## Offices that are bent -/
theorem BentBook_rw_spec {b : TApiBook} {k : Nat} (h : SmN k b) (hk : k ≤ 1000) {s : TTape} (hs : TapeOk s) : ∃ x, F_mk_BentBook_rw b s = some x ∧ TapeOk x.1 ∧ SmN (k + 1) ⟨x.2.1, x.2.2.1, x.2.2.2.1, x.2.2.2.2⟩ := by
  obtain ⟨⟨l1, l2, l3, l4⟩, hc⟩ := id h
  simp only [F_mk_BentBook_rw, S_mk_BentBook_rw, Scr.den, Nat.zero_add]
  rw [guardP_pos ⟨by omega, by omega, by omega, by omega, trivial⟩]
  obtain ⟨n, s1, e1, t1, _⟩ := Pick_spec (l := [-1, 0, 1, 77, 1000000000001]) hs (by decide) (by decide)
  obtain ⟨q, s2, e2, t2, q1, q2⟩ := N_spec (n := 12) t1 (by omega) (by omega)
  simp only [e1, e2, obind]
  generalize hK : (fun (s : TTape × (List TApiReservation) × (List TApiCommitment) × (List TApiVerification) × (List TApiOrder)) => (some (s.1, s.2.1, s.2.2.1, s.2.2.2.1, s.2.2.2.2) : Option R_mk_BentBook_rw)) = K
  have fin : ∀ (s' : TTape) (lR : List TApiReservation) (lC : List TApiCommitment) (lV : List TApiVerification) (lO : List TApiOrder), TapeOk s' → SmN (k + 1) ⟨lR, lC, lV, lO⟩ → ∃ x, outM (some (Out.next (s', lR, lC, lV, lO))) K some = some x ∧ TapeOk x.1 ∧ SmN (k + 1) ⟨x.2.1, x.2.2.1, x.2.2.2.1, x.2.2.2.2⟩ := fun s' lR lC lV lO ht hh => by
    simp only [outM, ← hK]
    exact ⟨_, rfl, ht, hh⟩
  have same : SmN (k + 1) b := ⟨⟨by omega, by omega, by omega, by omega⟩, hc⟩
  by_cases c0 : (q == 0) = true
  · rw [if_pos c0]
    obtain ⟨a, s3, e3, t3, _, _⟩ := N_spec (n := 2) t2 (by omega) (by omega)
    obtain ⟨co, s4, e4, t4, hco⟩ := Code_nil t3
    simp only [e3, e4, obind]
    rw [guardP_pos ⟨by omega, trivial⟩]
    refine fin _ _ _ _ _ t4 ⟨⟨by simp only [List.length_append, List.length_singleton]; omega, by simp only; omega, by simp only; omega, by simp only; omega⟩, fun r hr => ?_⟩
    rw [List.mem_append, List.mem_singleton] at hr
    rcases hr with hr | rfl
    · exact hc r hr
    · exact hco
  rw [if_neg c0]
  by_cases c0 : (q == 1) = true
  · rw [if_pos c0]
    by_cases hp : decide ((b.Reservations.length : Int) > 0) = true
    · rw [if_pos hp]
      simp only [decide_eq_true_eq] at hp
      obtain ⟨i, s3, e3, t3, i1, i2⟩ := N_spec (n := (b.Reservations.length : Int)) t2 (by omega) (by omega)
      simp only [e3, obind]
      rw [guardP_pos ⟨by omega, by omega, by omega, trivial⟩]
      exact fin _ _ _ _ _ t3 ⟨⟨by simp only [List.length_set]; omega, by simp only; omega, by simp only; omega, by simp only; omega⟩, code_set h (by omega) rfl⟩
    · rw [if_neg hp]; exact fin _ _ _ _ _ t2 same
  rw [if_neg c0]
  by_cases c0 : (q == 2) = true
  · rw [if_pos c0]
    by_cases hp : decide ((b.Reservations.length : Int) > 0) = true
    · rw [if_pos hp]
      simp only [decide_eq_true_eq] at hp
      obtain ⟨d, s3, e3, t3, _⟩ := Pick_spec (l := [-1, 4320, 4679, 4680]) t2 (by decide) (by decide)
      simp only [e3, obind]
      rw [guardP_pos ⟨by omega, by omega, trivial⟩]
      exact fin _ _ _ _ _ t3 ⟨⟨by simp only [List.length_set]; omega, by simp only; omega, by simp only; omega, by simp only; omega⟩, code_set h (by omega) rfl⟩
    · rw [if_neg hp]; exact fin _ _ _ _ _ t2 same
  rw [if_neg c0]
  by_cases c0 : (q == 3) = true
  · rw [if_pos c0]
    by_cases hp : decide ((b.Reservations.length : Int) > 0) = true
    · rw [if_pos hp]
      simp only [decide_eq_true_eq] at hp
      rw [guardP_pos ⟨by omega, by omega, trivial⟩]
      exact fin _ _ _ _ _ t2 ⟨⟨by simp only [List.length_set]; omega, by simp only; omega, by simp only; omega, by simp only; omega⟩, code_set h (by omega) rfl⟩
    · rw [if_neg hp]; exact fin _ _ _ _ _ t2 same
  rw [if_neg c0]
  by_cases c0 : (q == 4) = true
  · rw [if_pos c0]
    obtain ⟨x1, s3, e3, t3, _, _⟩ := N_spec (n := 4) t2 (by omega) (by omega)
    obtain ⟨x2, s4, e4, t4, _⟩ := Pick_spec (l := [4400, 4679, 4680]) t3 (by decide) (by decide)
    obtain ⟨x3, s5, e5, t5, _, _⟩ := Range_spec (lo := 1) (hi := 9) t4 (by omega) (by omega) (by omega)
    obtain ⟨x4, s6, e6, t6, _, _⟩ := N_spec (n := 2) t5 (by omega) (by omega)
    simp only [e3, e4, e5, e6, obind]
    rw [guardP_pos ⟨by omega, trivial⟩]
    exact fin _ _ _ _ _ t6 ⟨⟨by simp only; omega, by simp only [List.length_append, List.length_singleton]; omega, by simp only; omega, by simp only; omega⟩, hc⟩
  rw [if_neg c0]
  by_cases c0 : (q == 5) = true
  · rw [if_pos c0]
    by_cases hp : decide ((b.Commitments.length : Int) > 0) = true
    · rw [if_pos hp]
      simp only [decide_eq_true_eq] at hp
      rw [guardP_pos ⟨by omega, by omega, trivial⟩]
      exact fin _ _ _ _ _ t2 ⟨⟨by simp only; omega, by simp only [List.length_set]; omega, by simp only; omega, by simp only; omega⟩, hc⟩
    · rw [if_neg hp]; exact fin _ _ _ _ _ t2 same
  rw [if_neg c0]
  by_cases c0 : (q == 6) = true
  · rw [if_pos c0]
    by_cases hp : decide ((b.Commitments.length : Int) > 0) = true
    · rw [if_pos hp]
      simp only [decide_eq_true_eq] at hp
      obtain ⟨i, s3, e3, t3, i1, i2⟩ := N_spec (n := (b.Commitments.length : Int)) t2 (by omega) (by omega)
      obtain ⟨x2, s4, e4, t4, _⟩ := Pick_spec (l := [1, 100, -1]) t3 (by decide) (by decide)
      simp only [e3, e4, obind]
      rw [guardP_pos ⟨by omega, by omega, by omega, trivial⟩]
      exact fin _ _ _ _ _ t4 ⟨⟨by simp only; omega, by simp only [List.length_set]; omega, by simp only; omega, by simp only; omega⟩, hc⟩
    · rw [if_neg hp]; exact fin _ _ _ _ _ t2 same
  rw [if_neg c0]
  by_cases c0 : (q == 7) = true
  · rw [if_pos c0]
    obtain ⟨x1, s3, e3, t3, _, _⟩ := N_spec (n := 4) t2 (by omega) (by omega)
    obtain ⟨x2, s4, e4, t4, _⟩ := Pick_spec (l := [4500, 5039, 5040]) t3 (by decide) (by decide)
    simp only [e3, e4, obind]
    rw [guardP_pos ⟨by omega, trivial⟩]
    exact fin _ _ _ _ _ t4 ⟨⟨by simp only; omega, by simp only; omega, by simp only [List.length_append, List.length_singleton]; omega, by simp only; omega⟩, hc⟩
  rw [if_neg c0]
  by_cases c0 : (q == 8) = true
  · rw [if_pos c0]
    by_cases hp : decide ((b.Verifications.length : Int) > 0) = true
    · rw [if_pos hp]
      simp only [decide_eq_true_eq] at hp
      obtain ⟨x2, s4, e4, t4, _⟩ := Pick_spec (l := [0, 5039, 5040]) t2 (by decide) (by decide)
      simp only [e4, obind]
      rw [guardP_pos ⟨by omega, by omega, trivial⟩]
      exact fin _ _ _ _ _ t4 ⟨⟨by simp only; omega, by simp only; omega, by simp only [List.length_set]; omega, by simp only; omega⟩, hc⟩
    · rw [if_neg hp]; exact fin _ _ _ _ _ t2 same
  rw [if_neg c0]
  by_cases c0 : (q == 9) = true
  · rw [if_pos c0]
    obtain ⟨x1, s3, e3, t3, _, _⟩ := N_spec (n := 4) t2 (by omega) (by omega)
    obtain ⟨x3, s5, e5, t5, _, _⟩ := Range_spec (lo := 0) (hi := 2) t3 (by omega) (by omega) (by omega)
    obtain ⟨x2, s4, e4, t4, _⟩ := Pick_spec (l := [4700, 5039, 5040]) t5 (by decide) (by decide)
    simp only [e3, e5, e4, obind]
    rw [guardP_pos ⟨by omega, trivial⟩]
    exact fin _ _ _ _ _ t4 ⟨⟨by simp only; omega, by simp only; omega, by simp only; omega, by simp only [List.length_append, List.length_singleton]; omega⟩, hc⟩
  rw [if_neg c0]
  by_cases c0 : (q == 10) = true
  · rw [if_pos c0]
    by_cases hp : decide ((b.Orders.length : Int) > 0) = true
    · rw [if_pos hp]
      simp only [decide_eq_true_eq] at hp
      rw [guardP_pos ⟨by omega, by omega, trivial⟩]
      exact fin _ _ _ _ _ t2 ⟨⟨by simp only; omega, by simp only; omega, by simp only; omega, by simp only [List.length_set]; omega⟩, hc⟩
    · rw [if_neg hp]; exact fin _ _ _ _ _ t2 same
  rw [if_neg c0]
  by_cases hp : decide ((b.Orders.length : Int) > 0) = true
  · rw [if_pos hp]
    simp only [decide_eq_true_eq] at hp
    obtain ⟨i, s3, e3, t3, i1, i2⟩ := N_spec (n := (b.Orders.length : Int)) t2 (by omega) (by omega)
    obtain ⟨x2, s4, e4, t4, _, _⟩ := N_spec (n := 2) t3 (by omega) (by omega)
    simp only [e3, e4, obind]
    rw [guardP_pos ⟨by omega, by omega, by omega, trivial⟩]
    exact fin _ _ _ _ _ t4 ⟨⟨by simp only; omega, by simp only; omega, by simp only; omega, by simp only [List.length_set]; omega⟩, hc⟩
  · rw [if_neg hp]; exact fin _ _ _ _ _ t2 same
theorem SmallOffice_eq (o : TApiOffice) : ∃ C, F_mk_SmallOffice o = some C ∧ (C = true → SmO o ∧ o.Rights.length ≤ 70) := by
  simp only [F_mk_SmallOffice, S_mk_SmallOffice, Scr.den]
  obtain ⟨C, hC, hs⟩ := SmallBook_eq o.Book
  obtain ⟨h1, h2⟩ := rangeM_all (body := fun i s => (S_mk_SmallOffice_b1 o i s).den) (n := o.Rights.length) (c := false) (fun i => (o.Rights.getD i default).Code.length ≤ 60) (fun i hi hp => by
    simp only [S_mk_SmallOffice_b1, Scr.den]; rw [if_neg (by rw [decide_eq_true_eq]; omega)]) (fun i hi hp => by
    simp only [S_mk_SmallOffice_b1, Scr.den]; rw [if_pos (by rw [decide_eq_true_eq]; omega)])
  by_cases h : ∀ j, j < o.Rights.length → (o.Rights.getD j default).Code.length ≤ 60
  · rw [h1 h]
    simp only [outM, hC, cond_and]
    by_cases h70 : o.Rights.length ≤ 70
    · rw [optD_pos (by exact ⟨by simp; omega, trivial⟩), obind]
      refine ⟨_, rfl, fun hc => ?_⟩
      simp only [Bool.and_eq_true, decide_eq_true_eq] at hc
      refine ⟨⟨(hs hc.2).small (by omega), by omega, fun r hr => ?_⟩, h70⟩
      obtain ⟨i, hi, e⟩ := mem_getD hr
      have := h i hi
      rw [e] at this
      omega
    · rw [optD_none (by simp [AllP]; omega), obind]
      exact ⟨_, rfl, fun hc => by simp at hc⟩
  · rw [h2 h]
    exact ⟨false, rfl, fun h => by cases h⟩
theorem VO.smN {o : TApiOffice} (h : VO o) : SmN 200 o.Book := by
  have h1 := h.val
  have h2 := h1.2.2.2.2.2.2
  refine ⟨⟨by omega, by omega, by omega, by omega⟩, fun r hr => ?_⟩
  have := good_len (h1.1.mem hr).1.2.1
  omega
theorem BentOffice_spec {o : TApiOffice} (hv : VO o) {s : TTape} (hs : TapeOk s) : ∃ o' s', F_mk_BentOffice o s = some (o', s') ∧ TapeOk s' ∧ SmO o' := by
  have hl := hv.len
  have hsm := hv.smO
  simp only [F_mk_BentOffice, S_mk_BentOffice, Scr.den, Nat.zero_add]
  rw [guardP_pos ⟨by omega, trivial⟩]
  have sm : ∀ (n : Int) (l : List TApiRight), l.length ≤ 61 → (∀ r ∈ l, r.Code.length ≤ 1000000) → SmO ⟨n, l, o.Book⟩ := fun n l h1 h2 => ⟨hsm.1, by simp only; omega, h2⟩
  have st : ∀ (l : List TApiRight) (k : Nat) (x : TApiRight), (∀ r ∈ l, r.Code.length ≤ 1000000) → x.Code.length ≤ 1000000 → ∀ r ∈ l.set k x, r.Code.length ≤ 1000000 := fun l k x h1 h2 r hr => by
    rcases List.mem_or_eq_of_mem_set hr with hr | rfl
    · exact h1 r hr
    · exact h2
  have hcd := hsm.2.2
  by_cases hp : decide ((o.Rights.length : Int) > 0) = true
  · rw [if_pos hp]
    simp only [decide_eq_true_eq] at hp
    obtain ⟨i, s1, e1, t1, i1, i2⟩ := N_spec (n := (o.Rights.length : Int)) hs (by omega) (by omega)
    obtain ⟨q, s2, e2, t2, _, _⟩ := N_spec (n := 7) t1 (by omega) (by omega)
    have hi : i.toNat < o.Rights.length := by omega
    have hci : (o.Rights.getD i.toNat default).Code.length ≤ 1000000 := hcd _ (getD_mem hi)
    simp only [e1, e2, obind]
    by_cases c0 : (q == 0) = true
    · rw [if_pos c0]
      obtain ⟨x, s3, e3, t3, _⟩ := Pick_spec (l := [0, 1, 6, 7]) t2 (by decide) (by decide)
      simp only [e3, obind]
      rw [guardP_pos ⟨by omega, trivial⟩]
      exact ⟨_, _, rfl, t3, sm _ _ (by omega) hcd⟩
    rw [if_neg c0]
    by_cases c0 : (q == 1) = true
    · rw [if_pos c0]
      obtain ⟨x, s3, e3, t3, _⟩ := Pick_spec (l := [0, -1, 20, 1000000000000001]) t2 (by decide) (by decide)
      simp only [e3, obind]
      rw [guardP_pos ⟨i1, hi, hi, trivial⟩, guardP_pos ⟨by rw [List.length_set]; omega, trivial⟩]
      exact ⟨_, _, rfl, t3, sm _ _ (by rw [List.length_set]; omega) (st _ _ _ hcd hci)⟩
    rw [if_neg c0]
    by_cases c0 : (q == 2) = true
    · rw [if_pos c0]
      obtain ⟨x, s3, e3, t3, _⟩ := Pick_spec (l := [-1, 500, (o.Rights.getD i.toNat default).Granted]) t2 (by simp) (by simp)
      simp only [e3, obind]
      rw [guardP_pos ⟨i1, hi, hi, trivial⟩, guardP_pos ⟨by rw [List.length_set]; omega, trivial⟩]
      exact ⟨_, _, rfl, t3, sm _ _ (by rw [List.length_set]; omega) (st _ _ _ hcd hci)⟩
    rw [if_neg c0]
    by_cases c0 : (q == 3) = true
    · rw [if_pos c0]
      obtain ⟨x, s3, e3, t3, hx⟩ := BadCode_spec t2
      simp only [e3, obind]
      rw [guardP_pos ⟨i1, hi, hi, trivial⟩, guardP_pos ⟨by rw [List.length_set]; omega, trivial⟩]
      exact ⟨_, _, rfl, t3, sm _ _ (by rw [List.length_set]; omega) (st _ _ _ hcd (by simp only; omega))⟩
    rw [if_neg c0]
    by_cases c0 : (q == 4) = true
    · rw [if_pos c0]
      have h00 : 0 < o.Rights.length := by omega
      rw [guardP_pos ⟨h00, h00, by omega, trivial⟩, guardP_pos ⟨by rw [List.length_append, List.length_singleton]; omega, trivial⟩]
      refine ⟨_, _, rfl, t2, sm _ _ (by rw [List.length_append, List.length_singleton]; omega) fun r hr => ?_⟩
      rw [List.mem_append, List.mem_singleton] at hr
      rcases hr with hr | rfl
      · exact hcd r hr
      · exact hcd _ (getD_mem h00)
    rw [if_neg c0]
    by_cases c0 : (q == 5) = true
    · rw [if_pos c0]
      rw [guardP_pos ⟨by omega, trivial⟩, guardP_pos ⟨by omega, trivial⟩]
      exact ⟨_, _, rfl, t2, sm _ _ (by rw [List.length_drop]; omega) fun r hr => hcd r (List.mem_of_mem_drop hr)⟩
    rw [if_neg c0]
    obtain ⟨x, e3, t3, hx⟩ := BentBook_rw_spec hv.smN (by omega) t2
    have hx1 := hx.1
    simp only at hx1
    simp only [e3, obind]
    rw [guardP_pos ⟨by omega, trivial⟩, guardP_pos ⟨by omega, trivial⟩, guardP_pos ⟨by omega, trivial⟩, guardP_pos ⟨by omega, trivial⟩, guardP_pos ⟨by omega, trivial⟩]
    exact ⟨_, _, rfl, t3, hx.small (by omega), by simp only; omega, hcd⟩
  · rw [if_neg hp]
    obtain ⟨q, s2, e2, t2, _, _⟩ := N_spec (n := 7) hs (by omega) (by omega)
    simp only [e2, obind]
    have hz : ∀ r ∈ ([⟨[49], 0, 0, 0, 0⟩] : List TApiRight), r.Code.length ≤ 1000000 := by simp
    have hz1 : (([⟨[49], 0, 0, 0, 0⟩] : List TApiRight).getD 0 default).Code.length ≤ 1000000 := by simp
    have hz2 : ([⟨[49], 0, 0, 0, 0⟩] : List TApiRight).length = 1 := rfl
    generalize ([⟨[49], 0, 0, 0, 0⟩] : List TApiRight) = L at hz hz1 hz2 ⊢
    by_cases c0 : (q == 0) = true
    · rw [if_pos c0]
      obtain ⟨x, s3, e3, t3, _⟩ := Pick_spec (l := [0, 1, 6, 7]) t2 (by decide) (by decide)
      simp only [e3, obind]
      rw [guardP_pos ⟨by omega, trivial⟩]
      exact ⟨_, _, rfl, t3, sm _ _ (by omega) hz⟩
    rw [if_neg c0]
    by_cases c0 : (q == 1) = true
    · rw [if_pos c0]
      obtain ⟨x, s3, e3, t3, _⟩ := Pick_spec (l := [0, -1, 20, 1000000000000001]) t2 (by decide) (by decide)
      simp only [e3, obind]
      rw [guardP_pos ⟨by omega, by omega, trivial⟩, guardP_pos ⟨by rw [List.length_set]; omega, trivial⟩]
      exact ⟨_, _, rfl, t3, sm _ _ (by rw [List.length_set]; omega) (st _ _ _ hz hz1)⟩
    rw [if_neg c0]
    by_cases c0 : (q == 2) = true
    · rw [if_pos c0]
      obtain ⟨x, s3, e3, t3, _⟩ := Pick_spec (l := [-1, 500, (L.getD 0 default).Granted]) t2 (by simp) (by simp)
      simp only [e3, obind]
      rw [guardP_pos ⟨by omega, by omega, trivial⟩, guardP_pos ⟨by rw [List.length_set]; omega, trivial⟩]
      exact ⟨_, _, rfl, t3, sm _ _ (by rw [List.length_set]; omega) (st _ _ _ hz hz1)⟩
    rw [if_neg c0]
    by_cases c0 : (q == 3) = true
    · rw [if_pos c0]
      obtain ⟨x, s3, e3, t3, hx⟩ := BadCode_spec t2
      simp only [e3, obind]
      rw [guardP_pos ⟨by omega, by omega, trivial⟩, guardP_pos ⟨by rw [List.length_set]; omega, trivial⟩]
      exact ⟨_, _, rfl, t3, sm _ _ (by rw [List.length_set]; omega) (st _ _ _ hz (by simp only; omega))⟩
    rw [if_neg c0]
    by_cases c0 : (q == 4) = true
    · rw [if_pos c0]
      rw [guardP_pos ⟨by omega, by omega, by omega, trivial⟩, guardP_pos ⟨by rw [List.length_append, List.length_singleton]; omega, trivial⟩]
      refine ⟨_, _, rfl, t2, sm _ _ (by rw [List.length_append, List.length_singleton]; omega) fun r hr => ?_⟩
      rw [List.mem_append, List.mem_singleton] at hr
      rcases hr with hr | rfl
      · exact hz r hr
      · exact hz1
    rw [if_neg c0]
    by_cases c0 : (q == 5) = true
    · rw [if_pos c0]
      rw [guardP_pos ⟨by omega, trivial⟩, guardP_pos ⟨by omega, trivial⟩, guardP_pos ⟨by omega, trivial⟩]
      exact ⟨_, _, rfl, t2, sm _ _ (by rw [List.length_drop]; omega) fun r hr => hz r (List.mem_of_mem_drop hr)⟩
    rw [if_neg c0]
    obtain ⟨x, e3, t3, hx⟩ := BentBook_rw_spec hv.smN (by omega) t2
    have hx1 := hx.1
    simp only at hx1
    simp only [e3, obind]
    rw [guardP_pos ⟨by omega, trivial⟩, guardP_pos ⟨by omega, trivial⟩, guardP_pos ⟨by omega, trivial⟩, guardP_pos ⟨by omega, trivial⟩, guardP_pos ⟨by omega, trivial⟩]
    exact ⟨_, _, rfl, t3, hx.small (by omega), by simp only; omega, hz⟩
end Go.Proofs.YtbjbpoighbanfaaGreatDoor
namespace Go.Proofs.YtbjbpoighbanfaaGreatDoor
open Go Go.TA
/-! ## The law on answers -/
theorem answers_b1 {l : List TApiOffice} {ps : List TApiOp} {i j : Nat} (hl : ∀ i, SmO (l.getD i default)) (hp : ∀ j, (ps.getD j default).Code.length ≤ 1000000) :
    ((F_office_Do (l.getD i default) (ps.getD j default)).bind fun rv7 => (F_r15_Do (l.getD i default) (ps.getD j default)).bind fun rv8 =>
      (optD [(rv7.2 != rv8.2) = false] (F_r15_Same rv7.1 rv8.1) default).bind fun rv9 => if ((rv7.2 != rv8.2) || !rv9) = true then some (.ret false) else some (.cont ())) = (some (.cont ()) : Option (Step Unit Bool)) := by
  rw [Do_eq (hl i) (hp j), obind, r15_Do_eq (hl i) (hp j), obind, optD_pos (by simp [AllP]), r15_Same_eq (doS_few (hl i) _), obind]
  simp
theorem optD_T {α : Type} (x : Option α) (d : α) : optD [True] x d = x := optD_pos ⟨trivial, trivial⟩
theorem smO_default : SmO (default : TApiOffice) := by
  refine ⟨⟨⟨?_, ?_, ?_, ?_⟩, fun r hr => ?_⟩, ?_, fun r hr => ?_⟩
  · exact Nat.zero_le _
  · exact Nat.zero_le _
  · exact Nat.zero_le _
  · exact Nat.zero_le _
  · exact nomatch hr
  · exact Nat.zero_le _
  · exact nomatch hr
theorem OfficeAnswers_true (t : List Int) (raw : TApiOffice) (op : TApiOp) (code : List UInt8) (y number : Int) (hop : op.Code.length ≤ 281474976710656) (hco : code.length ≤ 281474976710656) : F_w15_OfficeAnswers t raw op code y number = some true := by
  simp only [F_w15_OfficeAnswers, S_w15_OfficeAnswers, Scr.den, cond_or]
  obtain ⟨C, hC, hsm⟩ := SmallOffice_eq raw
  rw [hC, obind, wrapId (by omega) (by omega)]
  by_cases hg : (!C || decide (((op.Code.length : Int) + (code.length : Int)) > 100)) = true
  · rw [if_pos hg, awake_true']; rfl
  · rw [if_neg hg]
    simp only [Bool.or_eq_true, Bool.not_eq_true', decide_eq_true_eq, not_or] at hg
    have hraw := (hsm (by simpa using hg.1)).1
    have hcode : code.length ≤ 100 ∧ op.Code.length ≤ 100 := by omega
    obtain ⟨s, e1, t1⟩ := New_spec t
    obtain ⟨o, s1, e2, t2, hoi⟩ := Office_spec (n := 14) (by omega) (by omega) t1
    have hv := hoi.1
    obtain ⟨n1, s2, e3, t3, _, _⟩ := N_spec (n := 300) t2 (by omega) (by omega)
    obtain ⟨p, s3, e4, t4, p1, p2, _⟩ := Op_spec' hv t3 (IntKind.i64.wrap (4500 + n1))
    obtain ⟨q, s4, e5, t5, _, _⟩ := N_spec (n := 5) t4 (by omega) (by omega)
    simp only [e1, e2, e3, e4, e5, obind]
    -- what comes behind the bent operation
    have rest : ∀ (sv3 : TTape × TApiOp), TapeOk sv3.1 → sv3.2.Code.length ≤ 1000 →
        ((F_mk_BentOffice o sv3.1).bind fun rv4 => outM (rangeM (fun i s => (S_w15_OfficeAnswers_b4 raw op code y (o, s1) (p, s3) sv3 rv4 i s).den) 3 0 rv4.2) (fun _ =>
          (F_office_New number).bind fun rv39 => (F_r15_New number).bind fun rv40 => (optD [(rv39.2 == rv40.2) = true] (F_r15_Same rv39.1 rv40.1) default).bind fun rv41 =>
            (optD [((rv39.2 == rv40.2) && rv41) = true] F_w15_awake default).bind fun rv42 => some (((rv39.2 == rv40.2) && rv41) && rv42)) (fun x => some (id x))) = some true := fun sv3 ht hc => by
      obtain ⟨o', s5, e6, t6, hbo⟩ := BentOffice_spec hv ht
      rw [e6, obind]
      have hl : ∀ i, SmO (([o, o', raw] : List TApiOffice).getD i default) := fun i => by
        match i with
        | 0 => exact hv.smO
        | 1 => exact hbo
        | 2 => exact hraw
        | k + 3 => exact smO_default
      have hp : ∀ j, (([p, sv3.2, op] : List TApiOp).getD j default).Code.length ≤ 1000000 := fun j => by
        match j with
        | 0 => show p.Code.length ≤ 1000000; omega
        | 1 => show sv3.2.Code.length ≤ 1000000; omega
        | 2 => show op.Code.length ≤ 1000000; omega
        | k + 3 => exact Nat.zero_le _
      obtain ⟨_, e7, _⟩ := rangeM_inv (body := fun i s => (S_w15_OfficeAnswers_b4 raw op code y (o, s1) (p, s3) sv3 (o', s5) i s).den) (n := 3) (fun _ s => TapeOk s) t6 (fun i st hi hst => by
        simp only [S_w15_OfficeAnswers_b4, Scr.den]
        obtain ⟨_, e8, _⟩ := rangeM_inv (body := fun j s => (S_w15_OfficeAnswers_b1 raw op (o, s1) (p, s3) sv3 (o', s5) i j s).den) (n := 3) (fun _ _ => True) (s0 := ()) trivial (fun j s hj _ => ⟨(), by
          simp only [S_w15_OfficeAnswers_b1, Scr.den, cond_or]
          exact answers_b1 hl hp, trivial⟩)
        rw [e8]
        simp only [outM]
        obtain ⟨co, s6, e9, t7, hco2, _⟩ := PotCode_spec hst
        simp only [e9, obind]
        have hcs : ∀ k, (([code, [49], co] : List (List UInt8)).getD k default).length ≤ 1000000 := fun k => by
          match k with
          | 0 => show code.length ≤ 1000000; omega
          | 1 => show ([49] : List UInt8).length ≤ 1000000; decide
          | 2 => show co.length ≤ 1000000; omega
          | k + 3 => exact Nat.zero_le _
        obtain ⟨_, e10, _⟩ := rangeM_inv (body := fun j s => (S_w15_OfficeAnswers_b3 raw code y (o, s1) (o', s5) i (co, s6) j s).den) (n := 3) (fun _ _ => True) (s0 := ()) trivial (fun j s hj _ => ⟨(), by
          simp only [S_w15_OfficeAnswers_b3, Scr.den]
          obtain ⟨_, e11, _⟩ := rangeM_inv (body := fun k s => (S_w15_OfficeAnswers_b2 raw code y (o, s1) (o', s5) i (co, s6) j k s).den) (n := 2) (fun _ _ => True) (s0 := ()) trivial (fun k s hk _ => ⟨(), by
            simp only [S_w15_OfficeAnswers_b2, Scr.den]
            have hx := hl i
            have hc' := hcs j
            generalize ([o, o', raw] : List TApiOffice).getD i default = x at hx ⊢
            generalize ([code, [49], co] : List (List UInt8)).getD j default = c at hc' ⊢
            generalize ([y, 12] : List Int).getD k default = z
            simp only [Answer_eq hx hc', r15_Answer_eq hx hc', Report_eq hx, r15_Report_eq hx, Right_eq, r15_Right_eq, Unused_eq, r15_Unused_eq, obind, beq_self_eq_true, bne_self_eq_false, Bool.and_self, Bool.not_true, cond_false]
            simp only [optD_T, obind, beq_self_eq_true, bne_self_eq_false, Bool.and_self, Bool.not_true, cond_false, Bool.false_eq_true, if_false], trivial⟩)
          rw [e11]
          rfl, trivial⟩)
        rw [e10]
        simp only
        have hx := hl i
        generalize ([o, o', raw] : List TApiOffice).getD i default = x at hx ⊢
        simp only [officeValid_eq hx, r15_Valid_eq hx, Same_eq, r15_Same_eq hx.few, r15_Same_eq hv.smO.few, obind, beq_self_eq_true, Bool.not_true, cond_false]
        simp only [optD_T, obind, beq_self_eq_true, Bool.not_true, cond_false, Bool.false_eq_true, if_false]
        exact ⟨_, rfl, t7⟩)
      rw [e7]
      simp only [outM, New_eq, r15_New_eq, obind, beq_self_eq_true, Bool.true_and]
      have hf : Few3 (if number < 1 ∨ number > 6 then (noO, (2 : Int)) else (⟨number, [], nb⟩, 0)).1 := by
        split
        · exact noO_few
        · exact ⟨by simp, nb_few⟩
      rw [optD_T, r15_Same_eq hf, obind, optD_pos (by simp [AllP]), awake_true', obind]
      simp
    have fin : ∀ (s' : TTape) (p' : TApiOp), TapeOk s' → p'.Code.length ≤ 1000 → ∀ K : (TTape × TApiOp) → Option Bool, (∀ sv, TapeOk sv.1 → sv.2.Code.length ≤ 1000 → K sv = some true) → outM (some (Out.next (s', p')) : Option (Out (TTape × TApiOp) Bool)) K some = some true := fun s' p' h1 h2 K hK => by
      simp only [outM]
      exact hK _ h1 h2
    have hK : ∀ x : Option (Out (TTape × TApiOp) Bool), (∃ s' p', x = some (Out.next (s', p')) ∧ TapeOk s' ∧ p'.Code.length ≤ 1000) → ∀ K : (TTape × TApiOp) → Option Bool, (∀ sv, TapeOk sv.1 → sv.2.Code.length ≤ 1000 → K sv = some true) → outM x K some = some true := fun x ⟨s', p', e, h1, h2⟩ K hK => by
      rw [e]; exact fin s' p' h1 h2 K hK
    refine hK _ ?_ _ fun sv h1 h2 => by simpa only [cond_and] using rest sv h1 h2
    by_cases c0 : (q == 0) = true
    · rw [if_pos c0]
      obtain ⟨x, s5, q1, t6, _, _⟩ := Range_spec (lo := 0) (hi := 10) t5 (by omega) (by omega) (by omega)
      simp only [q1, obind]
      exact ⟨_, _, rfl, t6, by simp only; omega⟩
    rw [if_neg c0]
    by_cases c0 : (q == 1) = true
    · rw [if_pos c0]
      obtain ⟨x, s5, q1, t6, _⟩ := Pick_spec (l := [-1, 0, 50]) t5 (by decide) (by decide)
      simp only [q1, obind]
      exact ⟨_, _, rfl, t6, by simp only; omega⟩
    rw [if_neg c0]
    by_cases c0 : (q == 2) = true
    · rw [if_pos c0]
      obtain ⟨x, s5, q1, t6, _⟩ := Pick_spec (l := [-1, 0, 10000]) t5 (by decide) (by decide)
      simp only [q1, obind]
      exact ⟨_, _, rfl, t6, by simp only; omega⟩
    rw [if_neg c0]
    by_cases c0 : (q == 3) = true
    · rw [if_pos c0]
      obtain ⟨x, s5, q1, t6, hx⟩ := BadCode_spec t5
      simp only [q1, obind]
      exact ⟨_, _, rfl, t6, by simp only; omega⟩
    rw [if_neg c0]
    obtain ⟨x, s5, q1, t6, _⟩ := Pick_spec (l := [-1, 13, 100]) t5 (by decide) (by decide)
    obtain ⟨z, s6, q2, t7, _⟩ := Pick_spec (l := [-1, 5]) t6 (by decide) (by decide)
    simp only [q1, q2, obind]
    exact ⟨_, _, rfl, t7, by simp only; omega⟩
end Go.Proofs.YtbjbpoighbanfaaGreatDoor
