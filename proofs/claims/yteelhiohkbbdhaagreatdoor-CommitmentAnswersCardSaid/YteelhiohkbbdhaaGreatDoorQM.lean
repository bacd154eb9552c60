/- A part of the proof: what the functions compute, and that their calls return it. No condition. -/
import Derived.Test.YteelhiohkbbdhaaGreatDoorQL
namespace Go.Proofs.YteelhiohkbbdhaaGreatDoor
open Go Go.TA

/-! ## Answers: the reference's -/
theorem r14_Used_eq (b : TApiBook) (code : List UInt8) (y : Int) : F_r14_Used b code y = some (usedV b code y) := by
  simp only [F_r14_Used, S_r14_Used, Scr.den]
  rw [rangeM_fold b.Reservations (fun (s : Int) r => if (r.Code == code && r.Year == y) = true then IntKind.i64.wrap (s + (r.Amount - r.Released - rel b r.Number)) else s)]
  · have := foldl_add b.Reservations (fun r => r.Code == code && r.Year == y) (fun r => r.Amount - r.Released - rel b r.Number) 0
    rw [wrap0] at this
    simp only [outM, this]
    simp [usedV]
  · intro i s hi
    simp only [S_r14_Used_b2, Scr.den, cond_or]
    obtain ⟨r, hr⟩ : ∃ r, b.Reservations.getD i default = r := ⟨_, rfl⟩
    simp only [hr]
    cases hp : (r.Code == code && r.Year == y)
    · rw [if_pos (by
        cases h1 : r.Code == code
        · rfl
        · rw [h1] at hp; simpa [bne] using hp)]
      rfl
    · simp only [Bool.and_eq_true] at hp
      rw [if_neg (by simp only [bne, hp.1, hp.2]; decide), wrap_addr]
      rw [rangeM_fold b.Commitments (fun (s : Int) c => if (c.Reservation == r.Number) = true then IntKind.i64.wrap (s - c.Released) else s)]
      · have := foldl_sub b.Commitments (fun c => c.Reservation == r.Number) (·.Released) (s + (r.Amount - r.Released))
        simp only [outM, this, if_true]
        unfold rel
        congr 3
        omega
      · intro j s hj
        simp only [S_r14_Used_b1, Scr.den, hr]
        split <;> rfl
theorem r14_Sums_eq {b : TApiBook} (hb : Small b) (h : Val b) (code : List UInt8) (y : Int) : F_r14_Sums b code y = some (IntKind.i64.wrap (sumL b code y), IntKind.i64.wrap (sumC b code y), IntKind.i64.wrap (sumV b code y), IntKind.i64.wrap (sumO b code y)) := by
  obtain ⟨h1, h3, h4, h5⟩ := hb.1
  open Classical in simp only [F_r14_Sums, S_r14_Sums, Scr.den, r14_Valid_eq hb, obind]
  rw [if_neg (by simpa using h)]
  rw [rangeM_fold b.Reservations (fun (s : Int) r => if mt b code y r.Number = true then IntKind.i64.wrap (s + leftV b r) else s)]
  · have e1 := foldl_add b.Reservations (fun r => mt b code y r.Number) (leftV b) 0
    rw [wrap0, Int.zero_add] at e1
    rw [e1]
    simp only [outM]
    rw [rangeM_fold b.Commitments (fun (s : Int) c => if mt b code y c.Reservation = true then IntKind.i64.wrap (s + (c.Amount - c.Released)) else s)]
    · have e1 := foldl_add b.Commitments (fun c => mt b code y c.Reservation) (fun c => c.Amount - c.Released) 0
      rw [wrap0, Int.zero_add] at e1
      rw [e1]
      simp only
      rw [rangeM_fold b.Verifications (fun (s : Int × Int) v => if mt b code y (cAt b v.Commitment).Reservation = true then (IntKind.i64.wrap (s.1 + v.Amount), if stands b v.Number = true then IntKind.i64.wrap (s.2 + v.Amount) else s.2) else s)]
      · have e1 := foldl_pair b.Verifications (fun v => mt b code y (cAt b v.Commitment).Reservation) (fun v => stands b v.Number) (·.Amount) 0 0
        rw [wrap0, Int.zero_add, Int.zero_add] at e1
        rw [e1]
        rfl
      · intro i s hi
        have hv := (h.2.2.2.1 i hi).2.1
        have hc := (h.2.1.at hv).2.1
        have hc' : 1 ≤ (b.Commitments.getD ((b.Verifications.getD i default).Commitment - 1).toNat default).Reservation ∧ (b.Commitments.getD ((b.Verifications.getD i default).Commitment - 1).toNat default).Reservation ≤ b.Reservations.length := hc
        simp only [S_r14_Sums_b3, Scr.den, last_eq h5, obind, cond_and, cond_or]
        rw [w_pred hv h3, w_pred hc' h1, guardP_pos ⟨by omega, by omega, by omega, by omega, trivial⟩]
        have hs : (decide (((ordersOf b.Orders (b.Verifications.getD i default).Number).length : Int) > 0) && !(lastV b (b.Verifications.getD i default).Number).Back) = stands b (b.Verifications.getD i default).Number := by
          rw [Bool.eq_iff_iff, stands_last h.2.2.2.2.2.1]
          simp
        rw [hs]
        have hm : (!((b.Reservations.getD ((b.Commitments.getD ((b.Verifications.getD i default).Commitment - 1).toNat default).Reservation - 1).toNat default).Code == code) || (b.Reservations.getD ((b.Commitments.getD ((b.Verifications.getD i default).Commitment - 1).toNat default).Reservation - 1).toNat default).Year != y) = !mt b code y (cAt b (b.Verifications.getD i default).Commitment).Reservation := by
          unfold mt rAt cAt
          simp only [bne, Bool.not_and]
        rw [hm]
        cases mt b code y (cAt b (b.Verifications.getD i default).Commitment).Reservation
        · simp
        · cases stands b (b.Verifications.getD i default).Number <;> simp
    · intro i s hi
      have hc := (h.2.1 i hi).2.1
      simp only [S_r14_Sums_b2, Scr.den, cond_and, wrap_addr]
      rw [w_pred hc h1, guardP_pos ⟨by omega, by omega, trivial⟩]
      change (if mt b code y _ = true then _ else _) = _
      split <;> rfl
  · intro i s hi
    have hr := h.1 i hi
    simp only [S_r14_Sums_b1, Scr.den, r14_Left_eq, obind, cond_and]
    have hl : leftN b (b.Reservations.getD i default).Number = leftV b (b.Reservations.getD i default) := by
      obtain ⟨_, f2, f3⟩ := h.1.mem (getD_mem hi)
      rw [leftN_at h.1 f3, ← f2]
    rw [hl, mt_mem h code y (getD_mem hi)]
    split <;> rfl
theorem sums_both {b : TApiBook} (hb : Small b) (code : List UInt8) (y : Int) : ∃ x, F_commitment_Sums b code y = some x ∧ F_r14_Sums b code y = some x := by
  by_cases h : Val b
  · exact ⟨_, Sums_eq hb h code y, r14_Sums_eq hb h code y⟩
  · open Classical in simp only [F_r14_Sums, S_r14_Sums, F_commitment_Sums, S_commitment_Sums, Scr.den, r14_Valid_eq hb, Valid_eq hb, obind]
    rw [if_pos (by simpa using h), if_pos (by simpa using h)]
    exact ⟨_, rfl, rfl⟩
theorem unpaid_both {b : TApiBook} (hb : Small b) (office : Int) : ∃ l, F_commitment_Unpaid b office = some l ∧ F_r14_Unpaid b office = some l := by
  by_cases h : Val b
  · exact ⟨_, Unpaid_eq hb h office, r14_Unpaid_eq hb h office⟩
  · open Classical in simp only [F_r14_Unpaid, S_r14_Unpaid, F_commitment_Unpaid, S_commitment_Unpaid, Scr.den, r14_Valid_eq hb, Valid_eq hb, obind]
    rw [if_pos (by simpa using h), if_pos (by simpa using h)]
    exact ⟨_, rfl, rfl⟩
def openP (b : TApiBook) (y : Int) (c : TApiCommitment) : Bool := (rAt b c.Reservation).Year == y && decide (restV b c > 0)
def openF (b : TApiBook) (office : Int) (c : TApiCommitment) : TApiOpen := ⟨office, c.Number, (rAt b c.Reservation).Code, (rAt b c.Reservation).Year, restV b c⟩
def openL (b : TApiBook) (office y : Int) (l : List TApiCommitment) : List TApiOpen := (l.filter (openP b y)).map (openF b office)
theorem open_take (b : TApiBook) (office y : Int) (l : List TApiCommitment) {i : Nat} (hi : i < l.length) : openL b office y (l.take (i + 1)) = openL b office y (l.take i) ++ if openP b y (l.getD i default) = true then [openF b office (l.getD i default)] else [] := by
  unfold openL
  rw [List.take_add_one, List.filter_append, List.map_append, List.getElem?_eq_getElem hi]
  congr 1
  simp only [Option.toList_some, List.getD_eq_getElem?_getD, List.getElem?_eq_getElem hi, Option.getD_some, List.filter_cons, List.filter_nil]
  cases openP b y l[i] <;> simp
theorem open_len (b : TApiBook) (office y : Int) (l : List TApiCommitment) : (openL b office y l).length ≤ l.length := by
  unfold openL
  rw [List.length_map]
  exact List.length_filter_le _ _
theorem open_both {b : TApiBook} (hb : Small b) (office y : Int) : ∃ l, F_commitment_Open b office y = some l ∧ F_r14_Open b office y = some l := by
  obtain ⟨h1, h3, h4, h5⟩ := hb.1
  by_cases h : Val b
  · open Classical in simp only [F_r14_Open, S_r14_Open, F_commitment_Open, S_commitment_Open, Scr.den, r14_Valid_eq hb, Valid_eq hb, obind]
    rw [if_neg (by simpa using h), if_neg (by simpa using h)]
    have hlen := open_len b office y b.Commitments
    have key : ∀ i, i < b.Commitments.length → (S_commitment_Open_b1 b office y i (openL b office y (b.Commitments.take i))).den = some (.cont (openL b office y (b.Commitments.take (i + 1)))) ∧ (S_r14_Open_b1 b office y i (openL b office y (b.Commitments.take i))).den = some (.cont (openL b office y (b.Commitments.take (i + 1)))) := fun i hi => by
      have hc := (h.2.1 i hi).2.1
      have hl := open_len b office y (b.Commitments.take i)
      rw [List.length_take] at hl
      rw [open_take b office y _ hi]
      simp only [S_commitment_Open_b1, S_r14_Open_b1, Scr.den, open_eq, r14_rest_eq, obind, cond_and]
      rw [w_pred hc h1, guardP_pos ⟨by omega, by omega, trivial⟩, guardP_pos ⟨by omega, trivial⟩]
      change (if openP b y _ = true then _ else _) = _ ∧ (if openP b y _ = true then _ else _) = _
      cases openP b y (b.Commitments.getD i default)
      · simp
      · exact ⟨rfl, rfl⟩
    refine ⟨openL b office y b.Commitments, ?_, ?_⟩
    · rw [show ([] : List TApiOpen) = openL b office y [] from rfl, rangeM_pre b.Commitments (openL b office y) fun i hi => (key i hi).1]
      simp only [outM]
      rw [guardP_pos ⟨by omega, trivial⟩]
    · rw [show ([] : List TApiOpen) = openL b office y [] from rfl, rangeM_pre b.Commitments (openL b office y) fun i hi => (key i hi).2]
      simp only [outM]
      rw [guardP_pos ⟨by omega, trivial⟩]
  · open Classical in simp only [F_r14_Open, S_r14_Open, F_commitment_Open, S_commitment_Open, Scr.den, r14_Valid_eq hb, Valid_eq hb, obind]
    rw [if_pos (by simpa using h), if_pos (by simpa using h)]
    exact ⟨_, rfl, rfl⟩
theorem opens_true (l : List TApiOpen) : F_w14_opens l l = some true := by
  simp only [F_w14_opens, S_w14_opens, Scr.den]
  rw [if_neg (by simp)]
  obtain ⟨_, e1, _⟩ := rangeM_inv (body := fun i s => (S_w14_opens_b1 l l i s).den) (n := l.length) (fun _ _ => True) (s0 := ()) trivial (fun i s hi _ => ⟨(), by
    simp only [S_w14_opens_b1, Scr.den]; rw [guardP_pos ⟨hi, trivial⟩, if_neg (by simp)], trivial⟩)
  rw [e1]
  rfl
theorem owed_true (l : List TApiOwed) : F_w14_owed l l = some true := by
  simp only [F_w14_owed, S_w14_owed, Scr.den]
  rw [if_neg (by simp)]
  obtain ⟨_, e1, _⟩ := rangeM_inv (body := fun i s => (S_w14_owed_b1 l l i s).den) (n := l.length) (fun _ _ => True) (s0 := ()) trivial (fun i s hi _ => ⟨(), by
    simp only [S_w14_owed_b1, Scr.den]; rw [guardP_pos ⟨hi, trivial⟩, if_neg (by simp)], trivial⟩)
  rw [e1]
  rfl

/-! ## The law on answers -/
theorem CommitmentAnswers_true (t : List Int) (raw : TApiBook) (code : List UInt8) (y office : Int) : F_w14_CommitmentAnswers t raw code y office = some true := by
  simp only [F_w14_CommitmentAnswers, S_w14_CommitmentAnswers, Scr.den, cond_or]
  obtain ⟨C, hC, hsm⟩ := SmallBook_eq raw
  rw [hC, obind]
  by_cases hg : (!C || decide ((code.length : Int) > 60)) = true
  · rw [if_pos hg, awake_true]; rfl
  · rw [if_neg hg]
    simp only [Bool.or_eq_true, Bool.not_eq_true', decide_eq_true_eq, not_or] at hg
    have hraw := hsm (by simpa using hg.1)
    obtain ⟨s, e1, t1⟩ := New_spec t
    obtain ⟨bk, s', e2, t2, hb, hlen⟩ := Book_spec (n := 20) (by omega) (by omega) t1
    obtain ⟨b1, s2, e3, t3, hb1⟩ := BentBook_spec hb.smN (by omega) t2
    obtain ⟨b2, s3, e4, t4, hb2⟩ := BentBook_spec hb.smN (by omega) t3
    obtain ⟨b3, s4, e5, t5, hb3⟩ := BentBook_spec hb2 (by omega) t4
    simp only [e1, e2, e3, e4, e5, obind]
    have h4 : ∀ i, i < 4 → Small (([bk, b1, b3, raw] : List TApiBook).getD i default) := fun i hi => by
      have : i = 0 ∨ i = 1 ∨ i = 2 ∨ i = 3 := by omega
      rcases this with rfl | rfl | rfl | rfl
      · exact hb.small
      · exact hb1.small (by omega)
      · exact hb3.small (by omega)
      · exact hraw.small (by omega)
    obtain ⟨_, e6, _⟩ := rangeM_inv (body := fun i s => (S_w14_CommitmentAnswers_b3 raw code y office (bk, s') (b1, s2) (b3, s4) i s).den) (n := 4) (fun _ s => TapeOk s) t5 (fun i s hi hs => by
      have hx := h4 i hi
      simp only [S_w14_CommitmentAnswers_b3, Scr.den, cond_or]
      obtain ⟨X, hX⟩ : ∃ X, ([bk, b1, b3, raw] : List TApiBook).getD i default = X := ⟨_, rfl⟩
      rw [hX] at hx
      obtain ⟨l, u1, u2⟩ := unpaid_both hx office
      open Classical in simp only [hX, Valid_eq hx, r14_Valid_eq hx, u1, u2, obind]
      rw [optD_pos (by simp [AllP]), obind, obind, owed_true, optD_pos (by simp [AllP]), obind, if_neg (by simp)]
      obtain ⟨s9, e7, t9⟩ := rangeM_inv (body := fun j s => (S_w14_CommitmentAnswers_b2 raw code y office (bk, s') (b1, s2) (b3, s4) i j s).den) (n := 3) (fun _ s => TapeOk s) hs (fun j s hj hs => by
        simp only [S_w14_CommitmentAnswers_b2, Scr.den, hX, cond_or, Left_eq, r14_Left_eq]
        obtain ⟨co, s5, q1, t6, _, _⟩ := PotCode_spec hs
        simp only [q1, obind]
        obtain ⟨_, e8, _⟩ := rangeM_inv (body := fun k s => (S_w14_CommitmentAnswers_b1 raw code y (bk, s') (b1, s2) (b3, s4) i j (co, s5) k s).den) (n := 2) (fun _ _ => True) (s0 := ()) trivial (fun k s hk _ => by
          simp only [S_w14_CommitmentAnswers_b1, Scr.den, hX, cond_or, Used_eq, r14_Used_eq]
          obtain ⟨x, w1, w2⟩ := sums_both hx (([code, co] : List (List UInt8)).getD k default) (([y, 12, 13] : List Int).getD j default)
          simp only [w1, w2, obind]
          rw [if_neg (by simp)]
          exact ⟨(), rfl, trivial⟩)
        rw [e8]
        simp only [outM]
        obtain ⟨m, s6, q2, t7, _, _⟩ := N_spec (n := 4) t6 (by omega) (by omega)
        obtain ⟨ol, o1, o2⟩ := open_both hx office (([y, 12, 13] : List Int).getD j default)
        simp only [q2, obind, o1, o2]
        rw [optD_pos (by simp [AllP]), obind, obind, optD_pos (by simp [AllP]), obind, obind, opens_true, optD_pos (by simp [AllP]), obind, if_neg (by simp)]
        exact ⟨_, rfl, t7⟩)
      rw [e7]
      exact ⟨_, rfl, t9⟩)
    rw [e6]
    simp only [outM, awake_true, obind]
end Go.Proofs.YteelhiohkbbdhaaGreatDoor
