/- A part of the proof: plain laws of what the functions compute. No condition. -/
import Derived.Test.YtbjbpoighbanfaaGreatDoorP1
namespace Go.Proofs.YtbjbpoighbanfaaGreatDoor
open Go Go.TA
/-! ## What is used, without wrapping -/
def usedE (b : TApiBook) (c : List UInt8) (y : Int) : Int := sm b.Reservations (fun r => r.Code == c && r.Year == y) (fun r => r.Amount - r.Released - rel b r.Number)
theorem rel_bd {b : TApiBook} (h : Val b) (n : Int) : 0 ≤ rel b n ∧ rel b n ≤ cmt b n := by
  have hc : ∀ c ∈ b.Commitments, 0 ≤ c.Released ∧ c.Released ≤ c.Amount := fun c hc => (h.2.1.mem hc).1.2.2.2.2.1
  exact ⟨sm_nonneg fun c k => (hc c k).1, sm_mono fun c k => (hc c k).2⟩
theorem used_ex {b : TApiBook} (h : Val b) (c : List UInt8) (y : Int) : usedV b c y = usedE b c y ∧ 0 ≤ usedE b c y ∧ usedE b c y ≤ 200000000000000 := by
  have hb : 0 ≤ usedE b c y ∧ usedE b c y ≤ 200 * 1000000000000 := sm_bd (fun r hr => by
    have h1 := leftV_ex h hr
    have h2 := rel_bd h r.Number
    have h3 := (h.1.mem hr).1.2.2.2.2.2
    unfold amtP at h3
    omega) h.2.2.2.2.2.2.1 (by omega)
  refine ⟨?_, hb.1, by omega⟩
  unfold usedV
  change IntKind.i64.wrap (usedE b c y) = _
  exact wrapId (by omega) (by omega)
theorem rel_none {b : TApiBook} (h : Val b) {n : Int} (hn : (b.Reservations.length : Int) < n) : rel b n = 0 := by
  have h1 := rel_bd h n
  have h2 := cmt_none h hn
  omega
theorem reserveS_inv {b : TApiBook} {code : List UInt8} {y d n : Int} (h0 : (reserveS b code y d n).2 = 0) : Val b ∧ good code = true ∧ ((0 ≤ y ∧ y ≤ 99) ∧ dayP d ∧ amtP n) ∧ yr d = y ∧ (b.Reservations.length : Int) ≠ 200 ∧ (reserveS b code y d n).1 = withR b (b.Reservations ++ [⟨b.Reservations.length + 1, code, y, d, n, 0⟩]) := by
  unfold reserveS at h0 ⊢
  obtain ⟨e, c1⟩ := ite0 h0 (by decide); rw [e] at h0 ⊢; clear e
  obtain ⟨e, c2⟩ := ite0 h0 (by decide); rw [e] at h0 ⊢; clear e
  obtain ⟨e, c3⟩ := ite0 h0 (by decide); rw [e] at h0 ⊢; clear e
  obtain ⟨e, c4⟩ := ite0 h0 (by decide); rw [e] at h0 ⊢; clear e
  obtain ⟨e, c5⟩ := ite0 h0 (by decide); rw [e] at h0 ⊢; clear e
  exact ⟨Classical.not_not.mp c1, by simpa using c2, Classical.not_not.mp c3, Classical.not_not.mp c4, c5, rfl⟩
theorem reserveS_ok {b : TApiBook} (h : Val b) {code : List UInt8} {y d n : Int} (hg : good code = true) (hy : 0 ≤ y ∧ y ≤ 99) (hd : dayP d) (hn : amtP n) (hyr : yr d = y) (hl : (b.Reservations.length : Int) ≠ 200) : reserveS b code y d n = (withR b (b.Reservations ++ [⟨b.Reservations.length + 1, code, y, d, n, 0⟩]), 0) := by
  unfold reserveS
  rw [if_neg (fun k => k h), if_neg (by simp [hg]), if_neg (fun k => k ⟨hy, hd, hn⟩), if_neg (fun k => k hyr), if_neg hl]
theorem commitS_inv {b : TApiBook} {r d n p u : Int} (h0 : (commitS b r d n p u).2 = 0) : Val b ∧ Val (commitS b r d n p u).1 ∧ (commitS b r d n p u).1.Reservations = b.Reservations := by
  unfold commitS at h0 ⊢
  obtain ⟨e, c1⟩ := ite0 h0 (by decide); rw [e] at h0 ⊢; clear e
  obtain ⟨e, c2⟩ := ite0 h0 (by decide); rw [e] at h0 ⊢; clear e
  obtain ⟨e, c3⟩ := ite0 h0 (by decide); rw [e] at h0 ⊢; clear e
  obtain ⟨e, c4⟩ := ite0 h0 (by decide); rw [e] at h0 ⊢; clear e
  obtain ⟨e, c5⟩ := ite0 h0 (by decide); rw [e] at h0 ⊢; clear e
  obtain ⟨e, c6⟩ := ite0 h0 (by decide); rw [e] at h0 ⊢; clear e
  obtain ⟨e, c7⟩ := ite0 h0 (by decide); rw [e] at h0 ⊢; clear e
  have c3 := Classical.not_not.mp c3
  exact ⟨Classical.not_not.mp c1, commit_val (Classical.not_not.mp c1) (Classical.not_not.mp c2) c3.1 c3.2.1 c3.2.2.1 c3.2.2.2 (Classical.not_not.mp c4) (by omega) (by omega) c7, rfl⟩
theorem verifyS_inv {b : TApiBook} {c d n : Int} (h0 : (verifyS b c d n).2 = 0) : Val b ∧ Val (verifyS b c d n).1 ∧ (verifyS b c d n).1.Reservations = b.Reservations := by
  unfold verifyS at h0 ⊢
  obtain ⟨e, c1⟩ := ite0 h0 (by decide); rw [e] at h0 ⊢; clear e
  obtain ⟨e, c2⟩ := ite0 h0 (by decide); rw [e] at h0 ⊢; clear e
  obtain ⟨e, c3⟩ := ite0 h0 (by decide); rw [e] at h0 ⊢; clear e
  obtain ⟨e, c4⟩ := ite0 h0 (by decide); rw [e] at h0 ⊢; clear e
  obtain ⟨e, c5⟩ := ite0 h0 (by decide); rw [e] at h0 ⊢; clear e
  obtain ⟨e, c6⟩ := ite0 h0 (by decide); rw [e] at h0 ⊢; clear e
  obtain ⟨e, c7⟩ := ite0 h0 (by decide); rw [e] at h0 ⊢; clear e
  have c3 := Classical.not_not.mp c3
  exact ⟨Classical.not_not.mp c1, verify_val (Classical.not_not.mp c1) (Classical.not_not.mp c2) c3.1 c3.2 (by omega) (by omega) (by omega) c7, rfl⟩
theorem orderS_inv {b : TApiBook} {v d : Int} (h0 : (orderS b v d).2 = 0) : Val b ∧ Val (orderS b v d).1 ∧ (orderS b v d).1.Reservations = b.Reservations := by
  unfold orderS at h0 ⊢
  obtain ⟨e, c1⟩ := ite0 h0 (by decide); rw [e] at h0 ⊢; clear e
  obtain ⟨e, c2⟩ := ite0 h0 (by decide); rw [e] at h0 ⊢; clear e
  obtain ⟨e, c3⟩ := ite0 h0 (by decide); rw [e] at h0 ⊢; clear e
  obtain ⟨e, c4⟩ := ite0 h0 (by decide); rw [e] at h0 ⊢; clear e
  obtain ⟨e, c5⟩ := ite0 h0 (by decide); rw [e] at h0 ⊢; clear e
  obtain ⟨e, c6⟩ := ite0 h0 (by decide); rw [e] at h0 ⊢; clear e
  obtain ⟨e, c7⟩ := ite0 h0 (by decide); rw [e] at h0 ⊢; clear e
  refine ⟨Classical.not_not.mp c1, order_val (Classical.not_not.mp c1) (Classical.not_not.mp c2) (Classical.not_not.mp c3) (by omega) (by omega) (fun hl => ⟨?_, by omega⟩) c7, rfl⟩
  cases hb : (lastV b v).Back with
  | true => rfl
  | false => exact absurd ⟨hl, hb⟩ c5
theorem releaseS_inv {b : TApiBook} {r n : Int} (h0 : (releaseS b r n).2 = 0) : Val b ∧ Val (releaseS b r n).1 ∧ amtP n ∧ (1 ≤ r ∧ r ≤ b.Reservations.length) ∧ n ≤ leftN b r ∧ (releaseS b r n).1 = withR b (b.Reservations.set (r - 1).toNat ⟨(rAt b r).Number, (rAt b r).Code, (rAt b r).Year, (rAt b r).Day, (rAt b r).Amount, IntKind.i64.wrap ((rAt b r).Released + n)⟩) := by
  unfold releaseS at h0 ⊢
  obtain ⟨e, c1⟩ := ite0 h0 (by decide); rw [e] at h0 ⊢; clear e
  obtain ⟨e, c2⟩ := ite0 h0 (by decide); rw [e] at h0 ⊢; clear e
  obtain ⟨e, c3⟩ := ite0 h0 (by decide); rw [e] at h0 ⊢; clear e
  obtain ⟨e, c4⟩ := ite0 h0 (by decide); rw [e] at h0 ⊢; clear e
  exact ⟨Classical.not_not.mp c1, release_val (Classical.not_not.mp c1) (Classical.not_not.mp c2) (Classical.not_not.mp c3) (by omega), Classical.not_not.mp c3, Classical.not_not.mp c2, by omega, rfl⟩
theorem dropS_inv {b : TApiBook} {c n : Int} (h0 : (dropS b c n).2 = 0) : Val b ∧ Val (dropS b c n).1 ∧ amtP n ∧ (dropS b c n).1.Reservations = b.Reservations := by
  unfold dropS at h0 ⊢
  obtain ⟨e, c1⟩ := ite0 h0 (by decide); rw [e] at h0 ⊢; clear e
  obtain ⟨e, c2⟩ := ite0 h0 (by decide); rw [e] at h0 ⊢; clear e
  obtain ⟨e, c3⟩ := ite0 h0 (by decide); rw [e] at h0 ⊢; clear e
  obtain ⟨e, c4⟩ := ite0 h0 (by decide); rw [e] at h0 ⊢; clear e
  exact ⟨Classical.not_not.mp c1, drop_val (Classical.not_not.mp c1) (Classical.not_not.mp c2) (Classical.not_not.mp c3) (by omega), Classical.not_not.mp c3, rfl⟩
theorem backS_inv {b : TApiBook} {v : Int} (h0 : (backS b v).2 = 0) : Val b ∧ Val (backS b v).1 ∧ (backS b v).1.Reservations = b.Reservations ∧ (backS b v).1.Commitments = b.Commitments := by
  unfold backS at h0 ⊢
  obtain ⟨e, c1⟩ := ite0 h0 (by decide); rw [e] at h0 ⊢; clear e
  obtain ⟨e, c2⟩ := ite0 h0 (by decide); rw [e] at h0 ⊢; clear e
  obtain ⟨e, c3⟩ := ite0 h0 (by decide); rw [e] at h0 ⊢; clear e
  exact ⟨Classical.not_not.mp c1, back_val (Classical.not_not.mp c1) (by omega), rfl, rfl⟩
theorem releaseS_usedA {b : TApiBook} (h : Val b) {r n : Int} (hn0 : amtP n) (h0 : (releaseS b r n).2 = 0) (code : List UInt8) (y : Int) : (1 ≤ r ∧ r ≤ b.Reservations.length) ∧ usedV (releaseS b r n).1 code y = IntKind.i64.wrap (usedV b code y - if mt b code y r = true then n else 0) := by
  have hn : 1 ≤ n ∧ n ≤ 1000000000000 := hn0
  unfold releaseS at h0 ⊢
  obtain ⟨e, _⟩ := ite0 h0 (by decide); rw [e] at h0 ⊢; clear e
  obtain ⟨e, hr⟩ := ite0 h0 (by decide); rw [e] at h0 ⊢; clear e
  obtain ⟨e, _⟩ := ite0 h0 (by decide); rw [e] at h0 ⊢; clear e
  obtain ⟨e, _⟩ := ite0 h0 (by decide); rw [e] at h0 ⊢; clear e
  have hr := Classical.not_not.mp hr
  refine ⟨hr, ?_⟩
  have hk : (r - 1).toNat < b.Reservations.length := by omega
  have f := (h.1.at hr).2.2.2.2.2
  have f6 := f.1
  unfold amtP at f6
  have hw : IntKind.i64.wrap ((rAt b r).Released + n) = (rAt b r).Released + n := wrapId (by omega) (by omega)
  rw [hw]
  unfold usedV
  rw [wrap_subl]
  congr 1
  change sm (b.Reservations.set (r - 1).toNat _) _ (fun r => r.Amount - r.Released - rel b r.Number) = _
  rw [sm_set hk _ _ _ default]
  change _ - (if ((rAt b r).Code == code && (rAt b r).Year == y) = true then (rAt b r).Amount - (rAt b r).Released - rel b (rAt b r).Number else 0) + (if ((rAt b r).Code == code && (rAt b r).Year == y) = true then (rAt b r).Amount - ((rAt b r).Released + n) - rel b (rAt b r).Number else 0) = _ - (if ((rAt b r).Code == code && (rAt b r).Year == y) = true then n else 0)
  split <;> omega
theorem dropS_usedA {b : TApiBook} (h : Val b) {c n : Int} (hn0 : amtP n) (h0 : (dropS b c n).2 = 0) (code : List UInt8) (y : Int) : (1 ≤ c ∧ c ≤ b.Commitments.length) ∧ usedV (dropS b c n).1 code y = IntKind.i64.wrap (usedV b code y - if mt b code y (cAt b c).Reservation = true then n else 0) := by
  have hn : 1 ≤ n ∧ n ≤ 1000000000000 := hn0
  unfold dropS at h0 ⊢
  obtain ⟨e, _⟩ := ite0 h0 (by decide); rw [e] at h0 ⊢; clear e
  obtain ⟨e, hr⟩ := ite0 h0 (by decide); rw [e] at h0 ⊢; clear e
  obtain ⟨e, _⟩ := ite0 h0 (by decide); rw [e] at h0 ⊢; clear e
  obtain ⟨e, _⟩ := ite0 h0 (by decide); rw [e] at h0 ⊢; clear e
  have hr := Classical.not_not.mp hr
  refine ⟨hr, ?_⟩
  have hk : (c - 1).toNat < b.Commitments.length := by omega
  have f := (h.2.1.at hr)
  have f4 := f.2.2.2.1
  have f5 := f.2.2.2.2.1
  have f2 := f.2.1
  unfold amtP at f4
  have hw : IntKind.i64.wrap ((cAt b c).Released + n) = (cAt b c).Released + n := wrapId (by omega) (by omega)
  rw [hw]
  generalize hX : withC b (b.Commitments.set (c - 1).toNat ⟨(cAt b c).Number, (cAt b c).Reservation, (cAt b c).Day, (cAt b c).Amount, (cAt b c).Released + n, (cAt b c).Payee, (cAt b c).Due⟩) = X
  have hrel : ∀ m, rel X m = rel b m + if ((cAt b c).Reservation == m) = true then n else 0 := fun m => by
    rw [← hX]
    unfold rel withC
    simp only
    rw [sm_set hk _ _ _ default]
    change _ - (if ((cAt b c).Reservation == m) = true then (cAt b c).Released else 0) + (if ((cAt b c).Reservation == m) = true then (cAt b c).Released + n else 0) = _
    split <;> omega
  have e1 : usedV X code y = IntKind.i64.wrap (sm b.Reservations (fun r => r.Code == code && r.Year == y) (fun r => r.Amount - r.Released - rel X r.Number)) := by
    unfold usedV
    rw [show X.Reservations = b.Reservations by rw [← hX]; rfl]
  rw [e1]
  unfold usedV
  rw [wrap_subl]
  congr 1
  simp only [hrel]
  have e2 : ∀ r : TApiReservation, r.Amount - r.Released - (rel b r.Number + if ((cAt b c).Reservation == r.Number) = true then n else 0) = (r.Amount - r.Released - rel b r.Number) - (if ((cAt b c).Reservation == r.Number) = true then n else 0) := fun r => by omega
  simp only [e2]
  rw [sm_sub]
  congr 1
  have hi : ((cAt b c).Reservation - 1).toNat < b.Reservations.length := by omega
  have hnum : (b.Reservations.getD ((cAt b c).Reservation - 1).toNat default).Number = (cAt b c).Reservation := (h.1.at f2).1
  have := sm_one (num := fun r : TApiReservation => r.Number) (q := mt b code y) (p := fun r => r.Code == code && r.Year == y) n b.Reservations ((cAt b c).Reservation - 1).toNat hi (fun j hj hji => by
    have := (h.1 j hj).1
    rw [hnum]; omega) (mt_mem h code y (getD_mem hi)).symm
  simp only [hnum] at this
  exact this
/-- What an operation does with a book. -/
def Eff (b : TApiBook) (p : TApiOp) (b' : TApiBook) : Prop := Val b ∧ Val b' ∧
  (∀ c y, usedE b' c y ≤ usedE b c y + if p.Kind = 1 ∧ p.Code = c ∧ p.Year = y then p.Amount else 0) ∧
  (p.Kind = 1 → 1 ≤ p.Amount ∧ p.Amount ≤ 1000000000000 ∧ ∀ c y, usedE b' c y = usedE b c y + if p.Code = c ∧ p.Year = y then p.Amount else 0) ∧
  (∀ x ∈ b'.Reservations, (∃ z ∈ b.Reservations, z.Code = x.Code ∧ z.Year = x.Year) ∨ (p.Kind = 1 ∧ x.Code = p.Code ∧ x.Year = p.Year)) ∧
  b'.Reservations.length ≤ b.Reservations.length + 1
theorem eff_same {b b' : TApiBook} {p : TApiOp} (hv : Val b) (hv' : Val b') (hR : b'.Reservations = b.Reservations) (hk : p.Kind ≠ 1) (hu : ∀ c y, usedE b' c y ≤ usedE b c y) : Eff b p b' :=
  ⟨hv, hv', fun c y => by rw [if_neg (fun k => hk k.1)]; have := hu c y; omega, fun k => absurd k hk, fun x hx => by rw [hR] at hx; exact .inl ⟨x, hx, rfl, rfl⟩, by rw [hR]; omega⟩
theorem usedE_reserve {b : TApiBook} (h : Val b) (code : List UInt8) (y d n : Int) (c : List UInt8) (z : Int) : usedE (withR b (b.Reservations ++ [⟨b.Reservations.length + 1, code, y, d, n, 0⟩])) c z = usedE b c z + if code = c ∧ y = z then n else 0 := by
  unfold usedE
  have e : (withR b (b.Reservations ++ [⟨b.Reservations.length + 1, code, y, d, n, 0⟩])).Reservations = b.Reservations ++ [⟨b.Reservations.length + 1, code, y, d, n, 0⟩] := rfl
  have e2 : ∀ m, rel (withR b (b.Reservations ++ [⟨b.Reservations.length + 1, code, y, d, n, 0⟩])) m = rel b m := fun m => rfl
  simp only [e, e2]
  rw [sm_append, sm_cons, sm_nil]
  simp only [rel_none h (show (b.Reservations.length : Int) < (b.Reservations.length : Int) + 1 by omega), Bool.and_eq_true, beq_iff_eq]
  by_cases k : code = c ∧ y = z
  · rw [if_pos k, if_pos k]; omega
  · rw [if_neg k, if_neg k]; omega
theorem book_eff {b : TApiBook} {p : TApiOp} (h0 : (bookS b p).2 = 0) : Eff b p (bookS b p).1 := by
  unfold bookS at h0 ⊢
  by_cases c1 : p.Kind = 1
  · rw [if_pos c1] at h0 ⊢
    obtain ⟨hv, hg, ⟨hy, hd, hn⟩, hyr, hl, e⟩ := reserveS_inv h0
    rw [e]
    unfold amtP at hn
    have hu := usedE_reserve hv p.Code p.Year p.Day p.Amount
    refine ⟨hv, reserve_val hv hg hy hd hn hyr hl, fun c y => ?_, fun _ => ⟨hn.1, hn.2, hu⟩, fun x hx => ?_, by simp [withR]⟩
    · rw [hu]
      by_cases k : p.Code = c ∧ p.Year = y
      · rw [if_pos k, if_pos ⟨c1, k⟩]; omega
      · rw [if_neg k, if_neg (fun q => k q.2)]; omega
    · simp only [withR, List.mem_append, List.mem_singleton] at hx
      rcases hx with hx | rfl
      · exact .inl ⟨x, hx, rfl, rfl⟩
      · exact .inr ⟨c1, rfl, rfl⟩
  rw [if_neg c1] at h0 ⊢
  have conv : ∀ {b' : TApiBook}, Val b → Val b' → (∀ c y, usedV b' c y = usedV b c y) → ∀ c y, usedE b' c y ≤ usedE b c y := fun h h' e c y => by
    have h1 := used_ex h c y
    have h2 := used_ex h' c y
    have := e c y
    omega
  by_cases c2 : p.Kind = 2
  · rw [if_pos c2] at h0 ⊢
    obtain ⟨hv, hv', hR⟩ := commitS_inv h0
    exact eff_same hv hv' hR c1 (conv hv hv' fun c y => commitS_used h0 c y)
  rw [if_neg c2] at h0 ⊢
  by_cases c3 : p.Kind = 3
  · rw [if_pos c3] at h0 ⊢
    obtain ⟨hv, hv', hR⟩ := verifyS_inv h0
    exact eff_same hv hv' hR c1 (conv hv hv' fun c y => verifyS_used h0 c y)
  rw [if_neg c3] at h0 ⊢
  by_cases c4 : p.Kind = 4
  · rw [if_pos c4] at h0 ⊢
    obtain ⟨hv, hv', hR⟩ := orderS_inv h0
    exact eff_same hv hv' hR c1 (conv hv hv' fun c y => orderS_used h0 c y)
  rw [if_neg c4] at h0 ⊢
  by_cases c5 : p.Kind = 5
  · rw [if_pos c5] at h0 ⊢
    obtain ⟨hv, hv', hn, hr, hL, e⟩ := releaseS_inv h0
    have hu : ∀ c y, usedE (releaseS b p.Of p.Amount).1 c y ≤ usedE b c y := fun c y => by
      have h1 := used_ex hv c y
      have h2 := used_ex hv' c y
      have h3 := (releaseS_usedA hv hn h0 c y).2
      unfold amtP at hn
      split at h3
      · rw [wrapId (by omega) (by omega)] at h3; omega
      · rw [wrapId (by omega) (by omega)] at h3; omega
    refine ⟨hv, hv', fun c y => by rw [if_neg (fun k => c1 k.1)]; have := hu c y; omega, fun k => absurd k c1, fun x hx => ?_, by rw [e]; simp [withR]⟩
    rw [e] at hx
    left
    rcases List.mem_or_eq_of_mem_set hx with hx | rfl
    · exact ⟨x, hx, rfl, rfl⟩
    · exact ⟨rAt b p.Of, rAt_mem hr, rfl, rfl⟩
  rw [if_neg c5] at h0 ⊢
  by_cases c6 : p.Kind = 6
  · rw [if_pos c6] at h0 ⊢
    obtain ⟨hv, hv', hn, hR⟩ := dropS_inv h0
    refine eff_same hv hv' hR c1 fun c y => ?_
    have h1 := used_ex hv c y
    have h2 := used_ex hv' c y
    have h3 := (dropS_usedA hv hn h0 c y).2
    unfold amtP at hn
    split at h3
    · rw [wrapId (by omega) (by omega)] at h3; omega
    · rw [wrapId (by omega) (by omega)] at h3; omega
  rw [if_neg c6] at h0 ⊢
  obtain ⟨hv, hv', hR, hC⟩ := backS_inv h0
  refine eff_same hv hv' hR c1 (conv hv hv' fun c y => ?_)
  unfold usedV rel
  rw [hR, hC]
end Go.Proofs.YtbjbpoighbanfaaGreatDoor
namespace Go.Proofs.YtbjbpoighbanfaaGreatDoor
open Go Go.TA
/-! ## Rights in their order -/
theorem uniqR {l : List TApiRight} (hS : Srt l) (hg : ∀ x ∈ l, RtOk x) {x y : TApiRight} (hx : x ∈ l) (hy : y ∈ l) (h1 : x.Code = y.Code) (h2 : x.Year = y.Year) : x = y := by
  obtain ⟨i, hi, rfl⟩ := mem_getD hx
  obtain ⟨j, hj, rfl⟩ := mem_getD hy
  have h0 := (cmpR_eq (hg _ hx).1 (hg _ hy).1).2 ⟨h1, h2⟩
  rcases Nat.lt_trichotomy i j with h | h | h
  · have := hS.lt hg h hj; omega
  · rw [h]
  · have := hS.lt hg h hi
    have h3 := cmpR_anti (b := l.getD i default) (hg _ hy).1
    omega
theorem rightV_of {l : List TApiRight} (hS : Srt l) (hg : ∀ x ∈ l, RtOk x) {x : TApiRight} (hx : x ∈ l) : rightV l x.Code x.Year = x := by
  obtain ⟨h1, h2, h3⟩ := rightV_mem (has_iff.2 ⟨x, hx, rfl, rfl⟩ : hasR l x.Code x.Year = true)
  exact uniqR hS hg h1 hx h2 h3
theorem cmpR_congr {a a' b b' : TApiRight} (h1 : a.Code = a'.Code) (h2 : a.Year = a'.Year) (h3 : b.Code = b'.Code) (h4 : b.Year = b'.Year) : cmpR a b = cmpR a' b' := by
  unfold cmpR; rw [h1, h2, h3, h4]
theorem mem_put {l : List TApiRight} {r x : TApiRight} (h : x ∈ putL l r) : x = r ∨ x ∈ l := by
  unfold putL at h
  split at h
  · exact (List.mem_or_eq_of_mem_set h).symm
  · unfold insL at h
    simp only [List.mem_append, List.mem_cons] at h
    rcases h with h | h | h
    · exact .inr (List.mem_of_mem_take h)
    · exact .inl h
    · exact .inr (List.mem_of_mem_drop h)
theorem put_mem_self (l : List TApiRight) (r : TApiRight) : r ∈ putL l r := by
  unfold putL
  split
  · rename_i h
    exact List.mem_set (rix_lt h).1 _
  · unfold insL; simp
theorem put_mem {l : List TApiRight} {r x : TApiRight} (hx : x ∈ l) (h : ¬ (x.Code = r.Code ∧ x.Year = r.Year)) : x ∈ putL l r := by
  unfold putL
  split
  · rename_i hh
    obtain ⟨h1, h2, h3⟩ := rix_lt hh
    obtain ⟨i, hi, e⟩ := List.mem_iff_getElem.mp hx
    have hne : rix l r.Code r.Year ≠ i := fun k => h (by subst k; rw [getD_el h1, e] at h2 h3; exact ⟨h2, h3⟩)
    have h4 : (l.set (rix l r.Code r.Year) r)[i]'(by rw [List.length_set]; exact hi) = x := by rw [List.getElem_set, if_neg hne, e]
    rw [← h4]
    exact List.getElem_mem _
  · unfold insL
    rw [List.mem_append, List.mem_cons]
    have : x ∈ l.take (posR l r) ++ l.drop (posR l r) := by rw [List.take_append_drop]; exact hx
    rcases List.mem_append.1 this with h | h
    · exact .inl h
    · exact .inr (.inr h)
theorem put_ok {l : List TApiRight} {r : TApiRight} (hg : ∀ x ∈ l, RtOk x) (hr : RtOk r) : ∀ x ∈ putL l r, RtOk x := fun x hx => by
  rcases mem_put hx with rfl | h
  · exact hr
  · exact hg x h
theorem put_srt {l : List TApiRight} {r : TApiRight} (hS : Srt l) (hg : ∀ x ∈ l, RtOk x) (hr : RtOk r) : Srt (putL l r) := by
  unfold putL
  split
  · rename_i hh
    obtain ⟨h1, h2, h3⟩ := rix_lt hh
    intro i hi
    rw [List.length_set] at hi
    have key : ∀ j, (((l.set (rix l r.Code r.Year) r).getD j default).Code = (l.getD j default).Code) ∧ ((l.set (rix l r.Code r.Year) r).getD j default).Year = (l.getD j default).Year := fun j => by
      rw [getD_set _ _ _ _ h1]
      by_cases e : j = rix l r.Code r.Year
      · rw [if_pos e, e, h2, h3]; exact ⟨rfl, rfl⟩
      · rw [if_neg e]; exact ⟨rfl, rfl⟩
    refine (hS i hi).imp id fun k => ?_
    rw [cmpR_congr (key (i - 1)).1 (key (i - 1)).2 (key i).1 (key i).2]
    exact k
  · rename_i hh
    have hp := posR_le l r
    intro i hi
    rw [insL_length] at hi
    rw [insL_get hp, insL_get hp]
    by_cases h0 : i = 0
    · exact .inl h0
    right
    by_cases c1 : i < posR l r
    · rw [if_pos (by omega), if_pos c1]
      exact (hS i (by omega)).resolve_left h0
    · by_cases c2 : i = posR l r
      · rw [if_pos (by omega), if_neg c1, if_pos c2]
        exact posR_lt (by omega)
      · rw [if_neg c1, if_neg c2]
        by_cases c3 : i - 1 = posR l r
        · rw [if_neg (by omega), if_pos c3, c3]
          have h1 := posR_at (l := l) (r := r) (by omega)
          have hm : l.getD (posR l r) default ∈ l := getD_mem (by omega)
          have h2 : cmpR (l.getD (posR l r) default) r ≠ 0 := fun k => by
            obtain ⟨k1, k2⟩ := (cmpR_eq (hg _ hm).1 hr.1).1 k
            exact hh (has_iff.2 ⟨_, hm, k1, k2⟩)
          have h3 := cmpR_anti (b := r) (hg _ hm).1
          omega
        · rw [if_neg (by omega), if_neg c3]
          have := (hS (i - 1) (by omega)).resolve_left (by omega)
          exact this
theorem has_put {l : List TApiRight} {r : TApiRight} {c : List UInt8} {y : Int} (h : hasR l c y = true) : hasR (putL l r) c y = true := by
  obtain ⟨x, hx, h1, h2⟩ := has_iff.1 h
  by_cases k : x.Code = r.Code ∧ x.Year = r.Year
  · exact has_iff.2 ⟨r, put_mem_self l r, by rw [← k.1, h1], by rw [← k.2, h2]⟩
  · exact has_iff.2 ⟨x, put_mem hx k, h1, h2⟩
theorem rightV_put {l : List TApiRight} {r : TApiRight} (hS : Srt l) (hg : ∀ x ∈ l, RtOk x) (hr : RtOk r) (c : List UInt8) (y : Int) : rightV (putL l r) c y = if r.Code = c ∧ r.Year = y then r else rightV l c y := by
  have hS' := put_srt hS hg hr
  have hg' := put_ok hg hr
  by_cases k : r.Code = c ∧ r.Year = y
  · rw [if_pos k, ← k.1, ← k.2]
    exact rightV_of hS' hg' (put_mem_self l r)
  · rw [if_neg k]
    by_cases h : hasR l c y = true
    · obtain ⟨h1, h2, h3⟩ := rightV_mem h
      have := rightV_of hS' hg' (put_mem (r := r) h1 (by rw [h2, h3]; exact fun q => k ⟨q.1.symm, q.2.symm⟩))
      rwa [h2, h3] at this
    · have h' : ¬ hasR (putL l r) c y = true := fun q => by
        obtain ⟨x, hx, h1, h2⟩ := has_iff.1 q
        rcases mem_put hx with rfl | hx
        · exact k ⟨h1, h2⟩
        · exact h (has_iff.2 ⟨x, hx, h1, h2⟩)
      unfold rightV
      rw [if_neg h, if_neg h']
theorem put_len {l : List TApiRight} {r : TApiRight} (h : l.length ≤ 60) (h2 : hasR l r.Code r.Year = true ∨ (l.length : Int) ≠ 60) : (putL l r).length ≤ 60 := by
  unfold putL
  split
  · rw [List.length_set]; exact h
  · rename_i hh
    rw [insL_length]
    have := h2.resolve_left hh
    omega
/-! ## What is unused, without wrapping -/
theorem rightV_bd {l : List TApiRight} (hg : ∀ x ∈ l, RtOk x) (c : List UInt8) (y : Int) : 0 ≤ (rightV l c y).Returned ∧ (rightV l c y).Returned ≤ (rightV l c y).Granted ∧ (rightV l c y).Granted ≤ 1000000000000000 ∧ 0 ≤ (rightV l c y).Asked ∧ (rightV l c y).Asked ≤ 1000000000000000 := by
  by_cases h : hasR l c y = true
  · have := hg _ (rightV_mem h).1
    unfold RtOk at this
    omega
  · unfold rightV; rw [if_neg h]; simp
theorem unused_gen {o : TApiOffice} (hg : ∀ x ∈ o.Rights, RtOk x) (hv : Val o.Book) (c : List UInt8) (y : Int) : unusedV o c y = (rightV o.Rights c y).Granted - (rightV o.Rights c y).Returned - usedE o.Book c y := by
  have h1 := rightV_bd hg c y
  have h2 := used_ex hv c y
  unfold unusedV
  rw [wrapId (n := (rightV o.Rights c y).Granted - (rightV o.Rights c y).Returned) (by omega) (by omega), h2.1, wrapId (by omega) (by omega)]
theorem VO.unused {o : TApiOffice} (h : VO o) (c : List UInt8) (y : Int) : unusedV o c y = (rightV o.Rights c y).Granted - (rightV o.Rights c y).Returned - usedE o.Book c y := unused_gen h.ok h.val c y
theorem usedE_none {b : TApiBook} {c : List UInt8} {y : Int} (h : ∀ x ∈ b.Reservations, ¬ (x.Code = c ∧ x.Year = y)) : usedE b c y = 0 := by
  unfold usedE
  exact sm_none fun x hx => by
    have := h x hx
    simp only [Bool.and_eq_false_iff, beq_eq_false_iff_ne, ne_eq]
    by_cases h1 : x.Code = c
    · exact .inr fun h2 => this ⟨h1, h2⟩
    · exact .inl h1
theorem VO.unused_nn {o : TApiOffice} (h : VO o) (c : List UInt8) (y : Int) : 0 ≤ unusedV o c y := by
  by_cases hx : ∃ x ∈ o.Book.Reservations, x.Code = c ∧ x.Year = y
  · obtain ⟨x, hx, rfl, rfl⟩ := hx
    exact (h.2.2.2.2.2 x hx).2
  · rw [h.unused, usedE_none fun x hx' e => hx ⟨x, hx', e⟩]
    have := rightV_bd h.ok c y
    omega
theorem VO.smO {o : TApiOffice} (h : VO o) : SmO o := by
  have h1 := h.val
  have h2 := h1.2.2.2.2.2.2
  refine ⟨⟨⟨by omega, by omega, by omega, by omega⟩, fun r hr => ?_⟩, by have := h.len; omega, fun r hr => (h.ok r hr).len⟩
  have := good_len (h1.1.mem hr).1.2.1
  omega
/-! ## What an operation does -/
/-- An office stays valid; what it may use and has used. -/
theorem step_vo {o : TApiOffice} {p : TApiOp} (hv : VO o) (hk : p.Kind ≠ 7 ∧ p.Kind ≠ 8) (h0 : (stepS o p).2 = 0) :
    (stepS o p).1 = ⟨o.Number, o.Rights, (bookS o.Book p).1⟩ ∧ (bookS o.Book p).2 = 0 ∧ Eff o.Book p (bookS o.Book p).1 ∧ (p.Kind = 1 → p.Amount ≤ unusedV o p.Code p.Year) ∧ VO (stepS o p).1 := by
  unfold stepS at h0 ⊢
  rw [if_neg hk.2, if_neg hk.1] at h0 ⊢
  by_cases c1 : (bookS o.Book p).2 ≠ 0
  · rw [if_pos c1] at h0; exact absurd h0 c1
  rw [if_neg c1] at h0 ⊢
  by_cases c2 : p.Kind = 1 ∧ p.Amount > unusedV o p.Code p.Year
  · rw [if_pos c2] at h0; cases h0
  rw [if_neg c2]
  have c1 := Classical.not_not.mp c1
  have he := book_eff c1
  have hu : p.Kind = 1 → p.Amount ≤ unusedV o p.Code p.Year := fun k => Int.not_lt.1 fun q => c2 ⟨k, q⟩
  refine ⟨rfl, c1, he, hu, hv.1, hv.len, he.2.1, hv.ok, hv.srt, fun x hx => ?_⟩
  have hx := he.2.2.2.2.1 x hx
  have hh : hasR o.Rights x.Code x.Year = true := by
    rcases hx with ⟨z, hz, e1, e2⟩ | ⟨k, e1, e2⟩
    · rw [← e1, ← e2]; exact (hv.2.2.2.2.2 z hz).1
    · rw [e1, e2]
      have h1 := hu k
      have h2 := (he.2.2.2.1 k).1
      refine Classical.byContradiction fun q => ?_
      rw [hv.unused] at h1
      have h3 := used_ex hv.val p.Code p.Year
      unfold rightV at h1
      rw [if_neg q] at h1
      simp only at h1
      omega
  refine ⟨hh, ?_⟩
  rw [unused_gen (o := ⟨o.Number, o.Rights, (bookS o.Book p).1⟩) hv.ok he.2.1]
  have h1 := he.2.2.1 x.Code x.Year
  have h2 := hv.unused x.Code x.Year
  have h3 := hv.unused_nn x.Code x.Year
  by_cases k : p.Kind = 1 ∧ p.Code = x.Code ∧ p.Year = x.Year
  · rw [if_pos k] at h1
    have h4 := hu k.1
    rw [k.2.1, k.2.2] at h4
    simp only
    omega
  · rw [if_neg k] at h1
    simp only
    omega
theorem vo_put {o : TApiOffice} (hv : VO o) {r : TApiRight} (hr : RtOk r) (hl : hasR o.Rights r.Code r.Year = true ∨ (o.Rights.length : Int) ≠ 60) (hu : usedE o.Book r.Code r.Year ≤ r.Granted - r.Returned) : VO ⟨o.Number, putL o.Rights r, o.Book⟩ := by
  refine ⟨hv.1, put_len hv.len hl, hv.val, put_ok hv.ok hr, put_srt hv.srt hv.ok hr, fun x hx => ⟨has_put (hv.2.2.2.2.2 x hx).1, ?_⟩⟩
  rw [unused_gen (o := ⟨o.Number, putL o.Rights r, o.Book⟩) (put_ok hv.ok hr) hv.val]
  simp only
  rw [rightV_put hv.srt hv.ok hr]
  by_cases k : r.Code = x.Code ∧ r.Year = x.Year
  · rw [if_pos k, ← k.1, ← k.2]; omega
  · rw [if_neg k]
    have h2 := hv.unused x.Code x.Year
    have h3 := hv.unused_nn x.Code x.Year
    omega
theorem hear_vo {o : TApiOffice} {p : TApiOp} (hv : VO o) (h0 : (hearS o p).2 = 0) :
    ∃ r, (hearS o p).1 = ⟨o.Number, putL o.Rights r, o.Book⟩ ∧ RtOk r ∧ r.Code = p.Code ∧ r.Year = p.Year ∧ r = ⟨p.Code, p.Year, if p.Granted > (rightV o.Rights p.Code p.Year).Granted then p.Granted else (rightV o.Rights p.Code p.Year).Granted, if p.AskedBack > (rightV o.Rights p.Code p.Year).Asked then p.AskedBack else (rightV o.Rights p.Code p.Year).Asked, (rightV o.Rights p.Code p.Year).Returned⟩ ∧ VO (hearS o p).1 := by
  unfold hearS at h0 ⊢
  by_cases c1 : ¬ good p.Code = true
  · rw [if_pos c1] at h0; cases h0
  rw [if_neg c1] at h0 ⊢
  by_cases c2 : p.Year < 0 ∨ p.Year > 99
  · rw [if_pos c2] at h0; cases h0
  rw [if_neg c2] at h0 ⊢
  by_cases c3 : hasR o.Rights p.Code p.Year = false ∧ (o.Rights.length : Int) = 60
  · rw [if_pos c3] at h0; cases h0
  rw [if_neg c3] at h0 ⊢
  by_cases c4 : (learnS (rightV o.Rights p.Code p.Year) (msgOf p)).2 ≠ 0
  · rw [if_pos c4] at h0; exact absurd h0 c4
  rw [if_neg c4]
  have h1 := learnS_ok (Classical.not_not.mp c4)
  have hcy := rightV_cy o.Rights p.Code p.Year
  rw [hcy.1, hcy.2] at h1
  refine ⟨_, rfl, h1.2.2.2.2, by rw [h1.2.2.2.1], by rw [h1.2.2.2.1], h1.2.2.2.1, vo_put hv h1.2.2.2.2 ?_ ?_⟩
  · rw [h1.2.2.2.1]
    simp only
    by_cases k : hasR o.Rights p.Code p.Year = true
    · exact .inl k
    · exact .inr fun q => c3 ⟨by simpa using k, q⟩
  · rw [h1.2.2.2.1]
    have h2 := hv.unused p.Code p.Year
    have h3 := hv.unused_nn p.Code p.Year
    have h4 : (rightV o.Rights p.Code p.Year).Granted ≤ if (msgOf p).Granted > (rightV o.Rights p.Code p.Year).Granted then (msgOf p).Granted else (rightV o.Rights p.Code p.Year).Granted := by split <;> omega
    simp only
    omega
theorem give_vo {o : TApiOffice} {p : TApiOp} (hv : VO o) (h0 : (giveS o p).2 = 0) :
    hasR o.Rights p.Code p.Year = true ∧ 1 ≤ p.Amount ∧ p.Amount ≤ unusedV o p.Code p.Year ∧ ∃ r, (giveS o p).1 = ⟨o.Number, putL o.Rights r, o.Book⟩ ∧ RtOk r ∧ r = ⟨p.Code, p.Year, (rightV o.Rights p.Code p.Year).Granted, (rightV o.Rights p.Code p.Year).Asked, (rightV o.Rights p.Code p.Year).Returned + p.Amount⟩ ∧ VO (giveS o p).1 := by
  unfold giveS at h0 ⊢
  by_cases c1 : ¬ hasR o.Rights p.Code p.Year = true
  · rw [if_pos c1] at h0; cases h0
  rw [if_neg c1] at h0 ⊢
  by_cases c4 : (returnS (rightV o.Rights p.Code p.Year) (usedV o.Book p.Code p.Year) p.Amount).2 ≠ 0
  · rw [if_pos c4] at h0; exact absurd h0 c4
  rw [if_neg c4]
  have h1 := returnS_ok (Classical.not_not.mp c4)
  have hcy := rightV_cy o.Rights p.Code p.Year
  have hu := used_ex hv.val p.Code p.Year
  rw [hcy.1, hcy.2, hu.1] at h1
  have c1 := Classical.not_not.mp c1
  rw [hu.1]
  refine ⟨c1, h1.2.2.1, by rw [hv.unused]; exact h1.2.2.2.1, _, rfl, h1.2.2.2.2.2, h1.2.2.2.2.1, vo_put hv h1.2.2.2.2.2 (.inl ?_) ?_⟩
  · rw [h1.2.2.2.2.1]; exact c1
  · rw [h1.2.2.2.2.1]
    simp only
    omega
theorem doS_inv {o : TApiOffice} {p : TApiOp} (h0 : (doS o p).2 = 0) : VO o ∧ (1 ≤ p.Kind ∧ p.Kind ≤ 9) ∧ doS o p = stepS o p := by
  unfold doS at h0 ⊢
  split at h0
  · cases h0
  · rename_i h
    rw [if_neg h]
    exact ⟨Classical.byContradiction fun k => h (.inl k), by omega, rfl⟩
theorem doS_ok {o : TApiOffice} (hv : VO o) {p : TApiOp} (hk : 1 ≤ p.Kind ∧ p.Kind ≤ 9) : doS o p = stepS o p := by
  unfold doS
  rw [if_neg (fun k => k.elim (fun k => k hv) fun k => by omega)]
theorem do_vo {o : TApiOffice} {p : TApiOp} (h0 : (doS o p).2 = 0) : VO (doS o p).1 := by
  obtain ⟨hv, hk, e⟩ := doS_inv h0
  rw [e] at h0 ⊢
  by_cases c8 : p.Kind = 8
  · have e8 : stepS o p = hearS o p := by unfold stepS; rw [if_pos c8]
    rw [e8] at h0 ⊢
    obtain ⟨r, _, _, _, _, _, h⟩ := hear_vo hv h0
    exact h
  by_cases c7 : p.Kind = 7
  · have e7 : stepS o p = giveS o p := by unfold stepS; rw [if_neg c8, if_pos c7]
    rw [e7] at h0 ⊢
    obtain ⟨_, _, _, r, _, _, _, h⟩ := give_vo hv h0
    exact h
  exact (step_vo hv ⟨c7, c8⟩ h0).2.2.2.2
end Go.Proofs.YtbjbpoighbanfaaGreatDoor
namespace Go.Proofs.YtbjbpoighbanfaaGreatDoor
open Go Go.TA
/-! ## Offices that are made -/
def OI (k : Nat) (o : TApiOffice) : Prop := VO o ∧ o.Book.Reservations.length ≤ k ∧ o.Rights.length ≤ k ∧ ∀ r ∈ o.Rights, r.Granted ≤ 1000
theorem Op_spec {o : TApiOffice} (ho : Few o.Book) {s : TTape} (hs : TapeOk s) (day : Int) : ∃ p s', F_mk_Op o day s = some (p, s') ∧ TapeOk s' ∧ p.Code.length ≤ 60 ∧ p.Granted ≤ 1000 ∧ p.Amount ≤ 120 := by
  obtain ⟨l1, l2, l3, l4⟩ := ho
  obtain ⟨k, s1, e1, t1, k1⟩ := Pick_spec (l := [1, 1, 1, 2, 2, 2, 3, 3, 3, 4, 4, 5, 6, 7, 8, 8, 9]) hs (by decide) (by decide)
  obtain ⟨co, s2, e2, t2, hc, _⟩ := PotCode_spec t1
  obtain ⟨n1, s3, e3, t3, _, hn1⟩ := Range_spec (lo := 1) (hi := 120) t2 (by omega) (by omega) (by omega)
  obtain ⟨n2, s4, e4, t4, hn2⟩ := Pick_spec (l := [10, 50, n1]) t3 (by simp) (by simp)
  have hn2 : n2 ≤ 120 := by simp at hn2; omega
  simp only [F_mk_Op, S_mk_Op, Scr.den, e1, e2, e3, e4, obind]
  generalize IntKind.i64.wrap (day.tdiv 360) = yy
  have fin : ∀ (s5 : TTape) (p : TApiOp), TapeOk s5 → p.Code.length ≤ 60 → p.Granted ≤ 1000 → p.Amount ≤ 120 →
      ∃ p' s', outM (some (Out.next (s5, p) : Out (TTape × TApiOp) R_mk_Op)) (fun (sv5 : TTape × TApiOp) => outM (if (sv5.2.Kind == 2) = true then (F_mk_Tape_Range 1 4 sv5.1).bind fun rv17 => (F_mk_Tape_N 60 rv17.2).bind fun rv18 => some (Out.next (rv18.2, (⟨sv5.2.Kind, sv5.2.Code, sv5.2.Year, sv5.2.Day, sv5.2.Of, sv5.2.Amount, rv17.1, (IntKind.i64.wrap (day + rv18.1)), sv5.2.Granted, sv5.2.AskedBack⟩ : TApiOp)) : Out (TTape × TApiOp) R_mk_Op) else some (Out.next (sv5.1, sv5.2))) (fun (sv16 : TTape × TApiOp) => some (sv16.2, sv16.1)) some) some = some (p', s') ∧ TapeOk s' ∧ p'.Code.length ≤ 60 ∧ p'.Granted ≤ 1000 ∧ p'.Amount ≤ 120 := fun s5 p ht h1 h2 h3 => by
    simp only [outM]
    by_cases hk : (p.Kind == 2) = true
    · rw [if_pos hk]
      obtain ⟨x1, s6, q1, t6, _, _⟩ := Range_spec (lo := 1) (hi := 4) ht (by omega) (by omega) (by omega)
      obtain ⟨x2, s7, q2, t7, _, _⟩ := N_spec (n := 60) t6 (by omega) (by omega)
      simp only [q1, q2, obind]
      exact ⟨_, _, rfl, t7, h1, h2, h3⟩
    · rw [if_neg hk]
      exact ⟨_, _, rfl, ht, h1, h2, h3⟩
  have lm : ∀ {α : Type} (l : List α), l.length ≤ 1000000 → (1 : Int) ≤ (if (l.length : Int) > 1 then (l.length : Int) else 1) ∧ (if (l.length : Int) > 1 then (l.length : Int) else 1) ≤ 1000000 := fun l h => by split <;> omega
  have m1 := lm o.Book.Reservations l1
  have m2 := lm o.Book.Commitments l2
  have m3 := lm o.Book.Verifications l3
  have two : ∀ {c d : Bool} {P : Prop}, (c = true → P) → (d = true → P) → (c = false → d = false → P) → P := fun {c d P} h1 h2 h3 => by
    cases hc : c
    · cases hd : d
      · exact h3 hc hd
      · exact h2 hd
    · exact h1 hc
  have g1 : ∀ {β : Type} (c d : Bool), (c || d) = true → (if c = true then some (Out.next c) else some (Out.next d) : Option (Out Bool β)) = some (Out.next true) := fun {_} c d h => by cases c <;> cases d <;> first | rfl | cases h
  have g0 : ∀ {β : Type} (c d : Bool), (c || d) = false → (if c = true then some (Out.next c) else some (Out.next d) : Option (Out Bool β)) = some (Out.next false) := fun {_} c d h => by cases c <;> cases d <;> first | rfl | cases h
  by_cases c1 : ((k == 2) || (k == 5)) = true
  · rw [g1 _ _ c1]
    obtain ⟨x1, s5, q1, t5, _, _⟩ := Range_spec (lo := 1) (hi := (if (o.Book.Reservations.length : Int) > 1 then (o.Book.Reservations.length : Int) else 1)) t4 (by omega) m1.1 (by omega)
    simp only [outM, if_true, q1, obind]
    exact fin _ ⟨k, co, yy, day, x1, n2, 0, 0, 0, 0⟩ t5 hc (by show (0 : Int) ≤ 1000; decide) hn2
  have c1 : ((k == 2) || (k == 5)) = false := by simpa using c1
  rw [g0 _ _ c1]
  by_cases c2 : ((k == 3) || (k == 6)) = true
  · rw [g1 _ _ c2]
    obtain ⟨x1, s5, q1, t5, _, _⟩ := Range_spec (lo := 1) (hi := (if (o.Book.Commitments.length : Int) > 1 then (o.Book.Commitments.length : Int) else 1)) t4 (by omega) m2.1 (by omega)
    simp only [outM, Bool.false_eq_true, if_true, if_false, q1, obind]
    exact fin _ ⟨k, co, yy, day, x1, n2, 0, 0, 0, 0⟩ t5 hc (by show (0 : Int) ≤ 1000; decide) hn2
  have c2 : ((k == 3) || (k == 6)) = false := by simpa using c2
  rw [g0 _ _ c2]
  by_cases c3 : ((k == 4) || (k == 9)) = true
  · rw [g1 _ _ c3]
    obtain ⟨x1, s5, q1, t5, _, _⟩ := Range_spec (lo := 1) (hi := (if (o.Book.Verifications.length : Int) > 1 then (o.Book.Verifications.length : Int) else 1)) t4 (by omega) m3.1 (by omega)
    simp only [outM, Bool.false_eq_true, if_true, if_false, q1, obind]
    exact fin _ ⟨k, co, yy, day, x1, n2, 0, 0, 0, 0⟩ t5 hc (by show (0 : Int) ≤ 1000; decide) hn2
  have c3 : ((k == 4) || (k == 9)) = false := by simpa using c3
  rw [g0 _ _ c3]
  by_cases c4 : (k == 8) = true
  · obtain ⟨x1, s5, q1, t5, _, y1⟩ := N_spec (n := 1000) t4 (by omega) (by omega)
    obtain ⟨x2, s6, q2, t6, y2⟩ := Pick_spec (l := [100, 400, x1]) t5 (by simp) (by simp)
    obtain ⟨x3, s7, q3, t7, _, y3⟩ := N_spec (n := 200) t6 (by omega) (by omega)
    obtain ⟨x4, s8, q4, t8, y4⟩ := Pick_spec (l := [0, 0, x3]) t7 (by simp) (by simp)
    simp only [outM, Bool.false_eq_true, if_false, if_pos c4, q1, q2, q3, q4, obind]
    exact fin _ ⟨k, co, yy, day, 0, n2, 0, 0, x2, x4⟩ t8 hc (by simp at y2; show x2 ≤ 1000; omega) hn2
  · simp only [outM, Bool.false_eq_true, if_false, if_neg c4]
    exact fin _ ⟨k, co, yy, day, 0, n2, 0, 0, 0, 0⟩ t4 hc (by show (0 : Int) ≤ 1000; decide) hn2
theorem Op_spec' {o : TApiOffice} (hv : VO o) {s : TTape} (hs : TapeOk s) (day : Int) : ∃ p s', F_mk_Op o day s = some (p, s') ∧ TapeOk s' ∧ p.Code.length ≤ 60 ∧ p.Granted ≤ 1000 ∧ p.Amount ≤ 120 := Op_spec hv.smO.1.1 hs day
theorem New_eq (n : Int) : F_office_New n = some (if n < 1 ∨ n > 6 then (noO, 2) else (⟨n, [], nb⟩, 0)) := by
  simp only [F_office_New, S_office_New, Scr.den, cond_or]
  exact st (by simp only [Bool.or_eq_true, decide_eq_true_eq]) (fun _ => rfl) (fun _ => rfl)
theorem new_oi {n : Int} (h1 : 1 ≤ n) (h2 : n ≤ 6) : OI 0 ⟨n, [], nb⟩ :=
  ⟨⟨⟨h1, h2⟩, (by simp), nb_val, (fun _ h => nomatch h), (fun i hi => absurd hi (by simp)), (fun x hx => nomatch hx)⟩, (by simp [nb]), (by simp), (fun _ h => nomatch h)⟩
end Go.Proofs.YtbjbpoighbanfaaGreatDoor
namespace Go.Proofs.YtbjbpoighbanfaaGreatDoor
open Go Go.TA
/-! ## What is wanted, and the answer -/
def noM : TApiMessage := ⟨0, 0, [], 0, 0, 0, 0, 0⟩
open Classical in
noncomputable def reportS (o : TApiOffice) (c : List UInt8) (y : Int) : TApiMessage × Int :=
  if ¬ VO o then (noM, 1) else
  if ¬ hasR o.Rights c y = true then (noM, 6) else (⟨o.Number, 0, c, y, 0, 0, (rightV o.Rights c y).Returned, usedV o.Book c y⟩, 0)
theorem Report_eq {o : TApiOffice} (hs : SmO o) (c : List UInt8) (y : Int) : F_office_Report o c y = some (reportS o c y) := by
  simp only [F_office_Report, S_office_Report, Scr.den, officeValid_eq hs, has_eq, Right_eq, Used_eq, obind]
  unfold reportS
  refine st (by simp) (fun _ => rfl) fun _ => ?_
  refine st (by simp) (fun _ => rfl) fun _ => rfl
/-! ## The example -/
def a1 : TApiOffice := ⟨2, [], nb⟩
def a2 : TApiOffice := ⟨2, [⟨[49], 12, 100, 0, 0⟩], nb⟩
def aR : TApiReservation := ⟨1, [49], 12, 4330, 60, 0⟩
def a3 : TApiOffice := ⟨2, [⟨[49], 12, 100, 0, 0⟩], ⟨[aR], [], [], []⟩⟩
def a4 : TApiOffice := ⟨2, [⟨[49], 12, 100, 0, 40⟩], ⟨[aR], [], [], []⟩⟩
def q1 : TApiOp := ⟨8, [49], 12, 0, 0, 0, 0, 0, 100, 0⟩
def q2 : TApiOp := ⟨1, [49], 12, 4330, 0, 60, 0, 0, 0, 0⟩
def q3 : TApiOp := ⟨7, [49], 12, 0, 0, 40, 0, 0, 0, 0⟩
def q4 : TApiOp := ⟨1, [49], 12, 4330, 0, 1, 0, 0, 0, 0⟩
theorem va1 : VO a1 := (new_oi (by omega) (by omega)).1
theorem st1 : doS a1 q1 = (a2, 0) := by
  rw [doS_ok va1 (by decide)]
  unfold stepS
  rw [if_pos (by decide)]
  kernel_rfl
theorem va2 : VO a2 := by have := do_vo (o := a1) (p := q1) (by rw [st1]); rwa [st1] at this
theorem st2 : doS a2 q2 = (a3, 0) := by
  rw [doS_ok va2 (by decide)]
  unfold stepS
  have h : reserveS a2.Book q2.Code q2.Year q2.Day q2.Amount = (⟨[aR], [], [], []⟩, 0) :=
    reserveS_ok (b := nb) (code := [49]) (y := 12) (d := 4330) (n := 60) nb_val (by decide +kernel) (by decide) (by decide) (by decide) (by decide) (by decide)
  have hu : unusedV a2 q2.Code q2.Year = 100 := by decide +kernel
  have hb : bookS a2.Book q2 = (⟨[aR], [], [], []⟩, 0) := by unfold bookS; rw [if_pos (by decide), h]
  rw [if_neg (by decide), if_neg (by decide), hb, if_neg (by decide), if_neg (by rw [hu]; decide)]
  rfl
theorem va3 : VO a3 := by have := do_vo (o := a2) (p := q2) (by rw [st2]); rwa [st2] at this
theorem st3 : doS a3 q3 = (a4, 0) := by
  rw [doS_ok va3 (by decide)]
  unfold stepS
  rw [if_neg (by decide), if_pos (by decide)]
  kernel_rfl
theorem va4 : VO a4 := by have := do_vo (o := a3) (p := q3) (by rw [st3]); rwa [st3] at this
theorem st4 : doS a4 q4 = (noO, 15) := by
  rw [doS_ok va4 (by decide)]
  unfold stepS
  have h : (reserveS a4.Book q4.Code q4.Year q4.Day q4.Amount).2 = 0 := by
    have := reserveS_ok (b := a4.Book) (code := [49]) (y := 12) (d := 4330) (n := 1) va4.val (by decide +kernel) (by decide) (by decide) (by decide) (by decide) (by decide)
    exact congrArg Prod.snd this
  have hu : unusedV a4 q4.Code q4.Year = 0 := by decide +kernel
  have hb : (bookS a4.Book q4).2 = 0 := by unfold bookS; rw [if_pos (by decide), h]
  rw [if_neg (by decide), if_neg (by decide), if_neg (by rw [hb]; decide), if_pos (by rw [hu]; decide)]
theorem awake_true' : F_w15_awake = some true := by
  have h0 : F_office_New 2 = some (a1, 0) := by rw [New_eq]; rfl
  have h1 : F_office_Do a1 (⟨8, [49], 12, 0, 0, 0, 0, 0, 100, 0⟩ : TApiOp) = some (a2, 0) := by
    have := Do_eq va1.smO (p := q1) (by decide); rw [st1] at this; exact this
  have h2 : F_office_Do a2 (⟨1, [49], 12, 4330, 0, 60, 0, 0, 0, 0⟩ : TApiOp) = some (a3, 0) := by
    have := Do_eq va2.smO (p := q2) (by decide); rw [st2] at this; exact this
  have h3 : F_office_Do a3 (⟨7, [49], 12, 0, 0, 40, 0, 0, 0, 0⟩ : TApiOp) = some (a4, 0) := by
    have := Do_eq va3.smO (p := q3) (by decide); rw [st3] at this; exact this
  have h4 : F_office_Do a4 (⟨1, [49], 12, 4330, 0, 1, 0, 0, 0, 0⟩ : TApiOp) = some (noO, 15) := by
    have := Do_eq va4.smO (p := q4) (by decide); rw [st4] at this; exact this
  have h5 : F_office_Report a4 [49] 12 = some (⟨2, 0, [49], 12, 0, 0, 40, 60⟩, 0) := by
    rw [Report_eq va4.smO]
    unfold reportS
    rw [if_neg (fun k => k va4), if_neg (by decide +kernel)]
    have : usedV a4.Book [49] 12 = 60 := by decide +kernel
    rw [this]
    rfl
  simp only [F_w15_awake, S_w15_awake, Scr.den, h0, h1, h2, h3, h4, h5, obind]
  rfl
end Go.Proofs.YtbjbpoighbanfaaGreatDoor
namespace Go.Proofs.YtbjbpoighbanfaaGreatDoor
open Go Go.TA
/-! ## The law that an office keeps -/
theorem keeps_rights {o : TApiOffice} (hv : VO o) (rv1 : R_office_Do) (e : rv1.1 = o) : rangeM (fun i s => (S_w15_OfficeKeeps_b1 rv1 i s).den) o.Rights.length 0 () = some (.next ()) := by
  obtain ⟨_, h, _⟩ := rangeM_inv (body := fun i s => (S_w15_OfficeKeeps_b1 rv1 i s).den) (n := o.Rights.length) (fun _ _ => True) (s0 := ()) trivial (fun i s hi _ => ⟨(), by
    have hm : o.Rights.getD i default ∈ o.Rights := getD_mem hi
    have hr := rightV_of hv.srt hv.ok hm
    have h1 := hv.unused_nn (o.Rights.getD i default).Code (o.Rights.getD i default).Year
    have h2 := hv.unused (o.Rights.getD i default).Code (o.Rights.getD i default).Year
    have h3 := used_ex hv.val (o.Rights.getD i default).Code (o.Rights.getD i default).Year
    have h4 := hv.ok _ hm
    unfold RtOk at h4
    rw [hr] at h2
    simp only [S_w15_OfficeKeeps_b1, Scr.den, e, r14_Used_eq, Unused_eq, obind, cond_or]
    generalize o.Rights.getD i default = r at *
    rw [wrapId (n := r.Granted - r.Returned) (by omega) (by omega), h3.1, optD_pos (by exact ⟨by simp; omega, trivial⟩), obind, if_neg (by simp; omega)], trivial⟩)
  exact h
theorem OfficeKeeps_true (t : List Int) : F_w15_OfficeKeeps t = some true := by
  simp only [F_w15_OfficeKeeps, S_w15_OfficeKeeps, Scr.den]
  obtain ⟨s, e1, t1⟩ := New_spec t
  simp only [e1, New_eq, obind]
  rw [if_neg (by decide)]
  rw [if_neg (by decide)]
  obtain ⟨q, e3, _⟩ := iterM_inv (step := fun s => (S_w15_OfficeKeeps_b2 s).den) (fun s => (22 - s.2.2.2).toNat) (fun s => TapeOk s.1 ∧ 0 ≤ s.2.2.2 ∧ s.2.2.2 ≤ 22 ∧ VO s.2.1) (fun _ => True) (fun s hI => by
    obtain ⟨st, o, day, i⟩ := s
    obtain ⟨a1, a2, a3, a4⟩ := hI
    simp only at a1 a2 a3 a4
    simp only [S_w15_OfficeKeeps_b2, Scr.den]
    by_cases hi : i < 22
    · left
      rw [if_pos (by simpa using hi)]
      obtain ⟨n1, s5, e5, t5, _, _⟩ := N_spec (n := 14) a1 (by omega) (by omega)
      obtain ⟨p, s7, e7, t7, p1, p2, _⟩ := Op_spec' a4 t5 (IntKind.i64.wrap (day + n1))
      simp only [e5, e7, obind, Do_eq a4.smO (p := p) (by omega)]
      rw [wrapId (n := i + 1) (by omega) (by omega)]
      by_cases hd : (doS o p).2 = 0
      · have hv' := do_vo hd
        rw [if_neg (by simp [hd])]
        simp only [officeValid_eq hv'.smO, r15_Valid_eq hv'.smO, obind]
        rw [optD_pos (by exact ⟨by simp [hv'], trivial⟩), obind, if_neg (by simp [hv']), keeps_rights hv' (doS o p) rfl]
        exact ⟨_, rfl, ⟨t7, by simp only; omega, by simp only; omega, hv'⟩, by simp only; omega⟩
      · rw [if_pos (by simp [hd])]
        exact ⟨_, rfl, ⟨t7, by simp only; omega, by simp only; omega, a4⟩, by simp only; omega⟩
    · right
      rw [if_neg (by simpa using hi)]
      exact ⟨_, rfl, trivial⟩) _ (s, ⟨1, [], nb⟩, 4320, 0) (Nat.lt_succ_self _) ⟨t1, by simp only; omega, by simp only; omega, (new_oi (by omega) (by omega)).1⟩
  rw [e3]
  simp only [outM, awake_true', obind]
/-! ## The law of uses -/
end Go.Proofs.YtbjbpoighbanfaaGreatDoor
namespace Go.Proofs.YtbjbpoighbanfaaGreatDoor
open Go Go.TA
/-! ## The law on reservations -/
end Go.Proofs.YtbjbpoighbanfaaGreatDoor
namespace Go.Proofs.YtbjbpoighbanfaaGreatDoor
open Go Go.TA
/-! ## The law on what is asked -/
end Go.Proofs.YtbjbpoighbanfaaGreatDoor
namespace Go.Proofs.YtbjbpoighbanfaaGreatDoor
open Go Go.TA
/-! ## Whether two are the same -/
/-! ## Offices that are bent -/
end Go.Proofs.YtbjbpoighbanfaaGreatDoor
namespace Go.Proofs.YtbjbpoighbanfaaGreatDoor
open Go Go.TA
/-! ## The law on answers -/
end Go.Proofs.YtbjbpoighbanfaaGreatDoor
