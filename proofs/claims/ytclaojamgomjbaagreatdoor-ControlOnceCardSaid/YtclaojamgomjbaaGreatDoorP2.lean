/- A part of the proof: plain laws of what the functions compute. No condition. -/
import Derived.Test.YtclaojamgomjbaaGreatDoorP1
import Derived.Lib.ItoaLen
namespace Go.Proofs.YtclaojamgomjbaaGreatDoor
open Go Go.TA
def usedE (b : TApiBook) (c : List UInt8) (y : Int) : Int := sm b.Reservations (fun r => r.Code == c && r.Year == y) (fun r => r.Amount - r.Released - rel b r.Number)
theorem rel_bd {b : TApiBook} (h : Val b) (n : Int) : 0 ≤ rel b n ∧ rel b n ≤ cmt b n := by
  have hc : ∀ c ∈ b.Commitments, 0 ≤ c.Released ∧ c.Released ≤ c.Amount := fun c hc => (h.2.1.mem hc).1.2.2.2.2.1
  exact ⟨sm_nonneg fun c k => (hc c k).1, sm_mono fun c k => (hc c k).2⟩
theorem used_ex {b : TApiBook} (h : Val b) (c : List UInt8) (y : Int) : usedV b c y = usedE b c y ∧ 0 ≤ usedE b c y ∧ usedE b c y ≤ 200000000000000 := by
  have hb : 0 ≤ usedE b c y ∧ usedE b c y ≤ 200 * 1000000000000 := sm_bd (fun r hr => by
    have h1 := leftV_ex h hr
    have h2 := rel_bd h r.Number
    have h3 := (h.1.mem hr).1.2.2.2.2.2
    unfold amtP at h3
    omega) h.2.2.2.2.2.2.1 (by omega)
  refine ⟨?_, hb.1, by omega⟩
  unfold usedV
  change IntKind.i64.wrap (usedE b c y) = _
  exact wrapId (by omega) (by omega)
theorem rel_none {b : TApiBook} (h : Val b) {n : Int} (hn : (b.Reservations.length : Int) < n) : rel b n = 0 := by
  have h1 := rel_bd h n
  have h2 := cmt_none h hn
  omega
theorem reserveS_inv {b : TApiBook} {code : List UInt8} {y d n : Int} (h0 : (reserveS b code y d n).2 = 0) : Val b ∧ good code = true ∧ ((0 ≤ y ∧ y ≤ 99) ∧ dayP d ∧ amtP n) ∧ yr d = y ∧ (b.Reservations.length : Int) ≠ 200 ∧ (reserveS b code y d n).1 = withR b (b.Reservations ++ [⟨b.Reservations.length + 1, code, y, d, n, 0⟩]) := by
  unfold reserveS at h0 ⊢
  obtain ⟨e, c1⟩ := ite0 h0 (by decide); rw [e] at h0 ⊢; clear e
  obtain ⟨e, c2⟩ := ite0 h0 (by decide); rw [e] at h0 ⊢; clear e
  obtain ⟨e, c3⟩ := ite0 h0 (by decide); rw [e] at h0 ⊢; clear e
  obtain ⟨e, c4⟩ := ite0 h0 (by decide); rw [e] at h0 ⊢; clear e
  obtain ⟨e, c5⟩ := ite0 h0 (by decide); rw [e] at h0 ⊢; clear e
  exact ⟨Classical.not_not.mp c1, by simpa using c2, Classical.not_not.mp c3, Classical.not_not.mp c4, c5, rfl⟩
theorem reserveS_ok {b : TApiBook} (h : Val b) {code : List UInt8} {y d n : Int} (hg : good code = true) (hy : 0 ≤ y ∧ y ≤ 99) (hd : dayP d) (hn : amtP n) (hyr : yr d = y) (hl : (b.Reservations.length : Int) ≠ 200) : reserveS b code y d n = (withR b (b.Reservations ++ [⟨b.Reservations.length + 1, code, y, d, n, 0⟩]), 0) := by
  unfold reserveS
  rw [if_neg (fun k => k h), if_neg (by simp [hg]), if_neg (fun k => k ⟨hy, hd, hn⟩), if_neg (fun k => k hyr), if_neg hl]
theorem commitS_inv {b : TApiBook} {r d n p u : Int} (h0 : (commitS b r d n p u).2 = 0) : Val b ∧ Val (commitS b r d n p u).1 ∧ (commitS b r d n p u).1.Reservations = b.Reservations := by
  unfold commitS at h0 ⊢
  obtain ⟨e, c1⟩ := ite0 h0 (by decide); rw [e] at h0 ⊢; clear e
  obtain ⟨e, c2⟩ := ite0 h0 (by decide); rw [e] at h0 ⊢; clear e
  obtain ⟨e, c3⟩ := ite0 h0 (by decide); rw [e] at h0 ⊢; clear e
  obtain ⟨e, c4⟩ := ite0 h0 (by decide); rw [e] at h0 ⊢; clear e
  obtain ⟨e, c5⟩ := ite0 h0 (by decide); rw [e] at h0 ⊢; clear e
  obtain ⟨e, c6⟩ := ite0 h0 (by decide); rw [e] at h0 ⊢; clear e
  obtain ⟨e, c7⟩ := ite0 h0 (by decide); rw [e] at h0 ⊢; clear e
  have c3 := Classical.not_not.mp c3
  exact ⟨Classical.not_not.mp c1, commit_val (Classical.not_not.mp c1) (Classical.not_not.mp c2) c3.1 c3.2.1 c3.2.2.1 c3.2.2.2 (Classical.not_not.mp c4) (by omega) (by omega) c7, rfl⟩
theorem verifyS_inv {b : TApiBook} {c d n : Int} (h0 : (verifyS b c d n).2 = 0) : Val b ∧ Val (verifyS b c d n).1 ∧ (verifyS b c d n).1.Reservations = b.Reservations := by
  unfold verifyS at h0 ⊢
  obtain ⟨e, c1⟩ := ite0 h0 (by decide); rw [e] at h0 ⊢; clear e
  obtain ⟨e, c2⟩ := ite0 h0 (by decide); rw [e] at h0 ⊢; clear e
  obtain ⟨e, c3⟩ := ite0 h0 (by decide); rw [e] at h0 ⊢; clear e
  obtain ⟨e, c4⟩ := ite0 h0 (by decide); rw [e] at h0 ⊢; clear e
  obtain ⟨e, c5⟩ := ite0 h0 (by decide); rw [e] at h0 ⊢; clear e
  obtain ⟨e, c6⟩ := ite0 h0 (by decide); rw [e] at h0 ⊢; clear e
  obtain ⟨e, c7⟩ := ite0 h0 (by decide); rw [e] at h0 ⊢; clear e
  have c3 := Classical.not_not.mp c3
  exact ⟨Classical.not_not.mp c1, verify_val (Classical.not_not.mp c1) (Classical.not_not.mp c2) c3.1 c3.2 (by omega) (by omega) (by omega) c7, rfl⟩
theorem orderS_inv {b : TApiBook} {v d : Int} (h0 : (orderS b v d).2 = 0) : Val b ∧ Val (orderS b v d).1 ∧ (orderS b v d).1.Reservations = b.Reservations := by
  unfold orderS at h0 ⊢
  obtain ⟨e, c1⟩ := ite0 h0 (by decide); rw [e] at h0 ⊢; clear e
  obtain ⟨e, c2⟩ := ite0 h0 (by decide); rw [e] at h0 ⊢; clear e
  obtain ⟨e, c3⟩ := ite0 h0 (by decide); rw [e] at h0 ⊢; clear e
  obtain ⟨e, c4⟩ := ite0 h0 (by decide); rw [e] at h0 ⊢; clear e
  obtain ⟨e, c5⟩ := ite0 h0 (by decide); rw [e] at h0 ⊢; clear e
  obtain ⟨e, c6⟩ := ite0 h0 (by decide); rw [e] at h0 ⊢; clear e
  obtain ⟨e, c7⟩ := ite0 h0 (by decide); rw [e] at h0 ⊢; clear e
  refine ⟨Classical.not_not.mp c1, order_val (Classical.not_not.mp c1) (Classical.not_not.mp c2) (Classical.not_not.mp c3) (by omega) (by omega) (fun hl => ⟨?_, by omega⟩) c7, rfl⟩
  cases hb : (lastV b v).Back with
  | true => rfl
  | false => exact absurd ⟨hl, hb⟩ c5
theorem releaseS_inv {b : TApiBook} {r n : Int} (h0 : (releaseS b r n).2 = 0) : Val b ∧ Val (releaseS b r n).1 ∧ amtP n ∧ (1 ≤ r ∧ r ≤ b.Reservations.length) ∧ n ≤ leftN b r ∧ (releaseS b r n).1 = withR b (b.Reservations.set (r - 1).toNat ⟨(rAt b r).Number, (rAt b r).Code, (rAt b r).Year, (rAt b r).Day, (rAt b r).Amount, IntKind.i64.wrap ((rAt b r).Released + n)⟩) := by
  unfold releaseS at h0 ⊢
  obtain ⟨e, c1⟩ := ite0 h0 (by decide); rw [e] at h0 ⊢; clear e
  obtain ⟨e, c2⟩ := ite0 h0 (by decide); rw [e] at h0 ⊢; clear e
  obtain ⟨e, c3⟩ := ite0 h0 (by decide); rw [e] at h0 ⊢; clear e
  obtain ⟨e, c4⟩ := ite0 h0 (by decide); rw [e] at h0 ⊢; clear e
  exact ⟨Classical.not_not.mp c1, release_val (Classical.not_not.mp c1) (Classical.not_not.mp c2) (Classical.not_not.mp c3) (by omega), Classical.not_not.mp c3, Classical.not_not.mp c2, by omega, rfl⟩
theorem dropS_inv {b : TApiBook} {c n : Int} (h0 : (dropS b c n).2 = 0) : Val b ∧ Val (dropS b c n).1 ∧ amtP n ∧ (dropS b c n).1.Reservations = b.Reservations := by
  unfold dropS at h0 ⊢
  obtain ⟨e, c1⟩ := ite0 h0 (by decide); rw [e] at h0 ⊢; clear e
  obtain ⟨e, c2⟩ := ite0 h0 (by decide); rw [e] at h0 ⊢; clear e
  obtain ⟨e, c3⟩ := ite0 h0 (by decide); rw [e] at h0 ⊢; clear e
  obtain ⟨e, c4⟩ := ite0 h0 (by decide); rw [e] at h0 ⊢; clear e
  exact ⟨Classical.not_not.mp c1, drop_val (Classical.not_not.mp c1) (Classical.not_not.mp c2) (Classical.not_not.mp c3) (by omega), Classical.not_not.mp c3, rfl⟩
theorem backS_inv {b : TApiBook} {v : Int} (h0 : (backS b v).2 = 0) : Val b ∧ Val (backS b v).1 ∧ (backS b v).1.Reservations = b.Reservations ∧ (backS b v).1.Commitments = b.Commitments := by
  unfold backS at h0 ⊢
  obtain ⟨e, c1⟩ := ite0 h0 (by decide); rw [e] at h0 ⊢; clear e
  obtain ⟨e, c2⟩ := ite0 h0 (by decide); rw [e] at h0 ⊢; clear e
  obtain ⟨e, c3⟩ := ite0 h0 (by decide); rw [e] at h0 ⊢; clear e
  exact ⟨Classical.not_not.mp c1, back_val (Classical.not_not.mp c1) (by omega), rfl, rfl⟩
theorem releaseS_usedA {b : TApiBook} (h : Val b) {r n : Int} (hn0 : amtP n) (h0 : (releaseS b r n).2 = 0) (code : List UInt8) (y : Int) : (1 ≤ r ∧ r ≤ b.Reservations.length) ∧ usedV (releaseS b r n).1 code y = IntKind.i64.wrap (usedV b code y - if mt b code y r = true then n else 0) := by
  have hn : 1 ≤ n ∧ n ≤ 1000000000000 := hn0
  unfold releaseS at h0 ⊢
  obtain ⟨e, _⟩ := ite0 h0 (by decide); rw [e] at h0 ⊢; clear e
  obtain ⟨e, hr⟩ := ite0 h0 (by decide); rw [e] at h0 ⊢; clear e
  obtain ⟨e, _⟩ := ite0 h0 (by decide); rw [e] at h0 ⊢; clear e
  obtain ⟨e, _⟩ := ite0 h0 (by decide); rw [e] at h0 ⊢; clear e
  have hr := Classical.not_not.mp hr
  refine ⟨hr, ?_⟩
  have hk : (r - 1).toNat < b.Reservations.length := by omega
  have f := (h.1.at hr).2.2.2.2.2
  have f6 := f.1
  unfold amtP at f6
  have hw : IntKind.i64.wrap ((rAt b r).Released + n) = (rAt b r).Released + n := wrapId (by omega) (by omega)
  rw [hw]
  unfold usedV
  rw [wrap_subl]
  congr 1
  change sm (b.Reservations.set (r - 1).toNat _) _ (fun r => r.Amount - r.Released - rel b r.Number) = _
  rw [sm_set hk _ _ _ default]
  change _ - (if ((rAt b r).Code == code && (rAt b r).Year == y) = true then (rAt b r).Amount - (rAt b r).Released - rel b (rAt b r).Number else 0) + (if ((rAt b r).Code == code && (rAt b r).Year == y) = true then (rAt b r).Amount - ((rAt b r).Released + n) - rel b (rAt b r).Number else 0) = _ - (if ((rAt b r).Code == code && (rAt b r).Year == y) = true then n else 0)
  split <;> omega
theorem dropS_usedA {b : TApiBook} (h : Val b) {c n : Int} (hn0 : amtP n) (h0 : (dropS b c n).2 = 0) (code : List UInt8) (y : Int) : (1 ≤ c ∧ c ≤ b.Commitments.length) ∧ usedV (dropS b c n).1 code y = IntKind.i64.wrap (usedV b code y - if mt b code y (cAt b c).Reservation = true then n else 0) := by
  have hn : 1 ≤ n ∧ n ≤ 1000000000000 := hn0
  unfold dropS at h0 ⊢
  obtain ⟨e, _⟩ := ite0 h0 (by decide); rw [e] at h0 ⊢; clear e
  obtain ⟨e, hr⟩ := ite0 h0 (by decide); rw [e] at h0 ⊢; clear e
  obtain ⟨e, _⟩ := ite0 h0 (by decide); rw [e] at h0 ⊢; clear e
  obtain ⟨e, _⟩ := ite0 h0 (by decide); rw [e] at h0 ⊢; clear e
  have hr := Classical.not_not.mp hr
  refine ⟨hr, ?_⟩
  have hk : (c - 1).toNat < b.Commitments.length := by omega
  have f := (h.2.1.at hr)
  have f4 := f.2.2.2.1
  have f5 := f.2.2.2.2.1
  have f2 := f.2.1
  unfold amtP at f4
  have hw : IntKind.i64.wrap ((cAt b c).Released + n) = (cAt b c).Released + n := wrapId (by omega) (by omega)
  rw [hw]
  generalize hX : withC b (b.Commitments.set (c - 1).toNat ⟨(cAt b c).Number, (cAt b c).Reservation, (cAt b c).Day, (cAt b c).Amount, (cAt b c).Released + n, (cAt b c).Payee, (cAt b c).Due⟩) = X
  have hrel : ∀ m, rel X m = rel b m + if ((cAt b c).Reservation == m) = true then n else 0 := fun m => by
    rw [← hX]
    unfold rel withC
    simp only
    rw [sm_set hk _ _ _ default]
    change _ - (if ((cAt b c).Reservation == m) = true then (cAt b c).Released else 0) + (if ((cAt b c).Reservation == m) = true then (cAt b c).Released + n else 0) = _
    split <;> omega
  have e1 : usedV X code y = IntKind.i64.wrap (sm b.Reservations (fun r => r.Code == code && r.Year == y) (fun r => r.Amount - r.Released - rel X r.Number)) := by
    unfold usedV
    rw [show X.Reservations = b.Reservations by rw [← hX]; rfl]
  rw [e1]
  unfold usedV
  rw [wrap_subl]
  congr 1
  simp only [hrel]
  have e2 : ∀ r : TApiReservation, r.Amount - r.Released - (rel b r.Number + if ((cAt b c).Reservation == r.Number) = true then n else 0) = (r.Amount - r.Released - rel b r.Number) - (if ((cAt b c).Reservation == r.Number) = true then n else 0) := fun r => by omega
  simp only [e2]
  rw [sm_sub]
  congr 1
  have hi : ((cAt b c).Reservation - 1).toNat < b.Reservations.length := by omega
  have hnum : (b.Reservations.getD ((cAt b c).Reservation - 1).toNat default).Number = (cAt b c).Reservation := (h.1.at f2).1
  have := sm_one (num := fun r : TApiReservation => r.Number) (q := mt b code y) (p := fun r => r.Code == code && r.Year == y) n b.Reservations ((cAt b c).Reservation - 1).toNat hi (fun j hj hji => by
    have := (h.1 j hj).1
    rw [hnum]; omega) (mt_mem h code y (getD_mem hi)).symm
  simp only [hnum] at this
  exact this
def Eff (b : TApiBook) (p : TApiOp) (b' : TApiBook) : Prop := Val b ∧ Val b' ∧
  (∀ c y, usedE b' c y ≤ usedE b c y + if p.Kind = 1 ∧ p.Code = c ∧ p.Year = y then p.Amount else 0) ∧
  (p.Kind = 1 → 1 ≤ p.Amount ∧ p.Amount ≤ 1000000000000 ∧ ∀ c y, usedE b' c y = usedE b c y + if p.Code = c ∧ p.Year = y then p.Amount else 0) ∧
  (∀ x ∈ b'.Reservations, (∃ z ∈ b.Reservations, z.Code = x.Code ∧ z.Year = x.Year) ∨ (p.Kind = 1 ∧ x.Code = p.Code ∧ x.Year = p.Year)) ∧
  b'.Reservations.length ≤ b.Reservations.length + 1
theorem eff_same {b b' : TApiBook} {p : TApiOp} (hv : Val b) (hv' : Val b') (hR : b'.Reservations = b.Reservations) (hk : p.Kind ≠ 1) (hu : ∀ c y, usedE b' c y ≤ usedE b c y) : Eff b p b' :=
  ⟨hv, hv', fun c y => by rw [if_neg (fun k => hk k.1)]; have := hu c y; omega, fun k => absurd k hk, fun x hx => by rw [hR] at hx; exact .inl ⟨x, hx, rfl, rfl⟩, by rw [hR]; omega⟩
theorem usedE_reserve {b : TApiBook} (h : Val b) (code : List UInt8) (y d n : Int) (c : List UInt8) (z : Int) : usedE (withR b (b.Reservations ++ [⟨b.Reservations.length + 1, code, y, d, n, 0⟩])) c z = usedE b c z + if code = c ∧ y = z then n else 0 := by
  unfold usedE
  have e : (withR b (b.Reservations ++ [⟨b.Reservations.length + 1, code, y, d, n, 0⟩])).Reservations = b.Reservations ++ [⟨b.Reservations.length + 1, code, y, d, n, 0⟩] := rfl
  have e2 : ∀ m, rel (withR b (b.Reservations ++ [⟨b.Reservations.length + 1, code, y, d, n, 0⟩])) m = rel b m := fun m => rfl
  simp only [e, e2]
  rw [sm_append, sm_cons, sm_nil]
  simp only [rel_none h (show (b.Reservations.length : Int) < (b.Reservations.length : Int) + 1 by omega), Bool.and_eq_true, beq_iff_eq]
  by_cases k : code = c ∧ y = z
  · rw [if_pos k, if_pos k]; omega
  · rw [if_neg k, if_neg k]; omega
theorem book_eff {b : TApiBook} {p : TApiOp} (h0 : (bookS b p).2 = 0) : Eff b p (bookS b p).1 := by
  unfold bookS at h0 ⊢
  by_cases c1 : p.Kind = 1
  · rw [if_pos c1] at h0 ⊢
    obtain ⟨hv, hg, ⟨hy, hd, hn⟩, hyr, hl, e⟩ := reserveS_inv h0
    rw [e]
    unfold amtP at hn
    have hu := usedE_reserve hv p.Code p.Year p.Day p.Amount
    refine ⟨hv, reserve_val hv hg hy hd hn hyr hl, fun c y => ?_, fun _ => ⟨hn.1, hn.2, hu⟩, fun x hx => ?_, by simp [withR]⟩
    · rw [hu]
      by_cases k : p.Code = c ∧ p.Year = y
      · rw [if_pos k, if_pos ⟨c1, k⟩]; omega
      · rw [if_neg k, if_neg (fun q => k q.2)]; omega
    · simp only [withR, List.mem_append, List.mem_singleton] at hx
      rcases hx with hx | rfl
      · exact .inl ⟨x, hx, rfl, rfl⟩
      · exact .inr ⟨c1, rfl, rfl⟩
  rw [if_neg c1] at h0 ⊢
  have conv : ∀ {b' : TApiBook}, Val b → Val b' → (∀ c y, usedV b' c y = usedV b c y) → ∀ c y, usedE b' c y ≤ usedE b c y := fun h h' e c y => by
    have h1 := used_ex h c y
    have h2 := used_ex h' c y
    have := e c y
    omega
  by_cases c2 : p.Kind = 2
  · rw [if_pos c2] at h0 ⊢
    obtain ⟨hv, hv', hR⟩ := commitS_inv h0
    exact eff_same hv hv' hR c1 (conv hv hv' fun c y => commitS_used h0 c y)
  rw [if_neg c2] at h0 ⊢
  by_cases c3 : p.Kind = 3
  · rw [if_pos c3] at h0 ⊢
    obtain ⟨hv, hv', hR⟩ := verifyS_inv h0
    exact eff_same hv hv' hR c1 (conv hv hv' fun c y => verifyS_used h0 c y)
  rw [if_neg c3] at h0 ⊢
  by_cases c4 : p.Kind = 4
  · rw [if_pos c4] at h0 ⊢
    obtain ⟨hv, hv', hR⟩ := orderS_inv h0
    exact eff_same hv hv' hR c1 (conv hv hv' fun c y => orderS_used h0 c y)
  rw [if_neg c4] at h0 ⊢
  by_cases c5 : p.Kind = 5
  · rw [if_pos c5] at h0 ⊢
    obtain ⟨hv, hv', hn, hr, hL, e⟩ := releaseS_inv h0
    have hu : ∀ c y, usedE (releaseS b p.Of p.Amount).1 c y ≤ usedE b c y := fun c y => by
      have h1 := used_ex hv c y
      have h2 := used_ex hv' c y
      have h3 := (releaseS_usedA hv hn h0 c y).2
      unfold amtP at hn
      split at h3
      · rw [wrapId (by omega) (by omega)] at h3; omega
      · rw [wrapId (by omega) (by omega)] at h3; omega
    refine ⟨hv, hv', fun c y => by rw [if_neg (fun k => c1 k.1)]; have := hu c y; omega, fun k => absurd k c1, fun x hx => ?_, by rw [e]; simp [withR]⟩
    rw [e] at hx
    left
    rcases List.mem_or_eq_of_mem_set hx with hx | rfl
    · exact ⟨x, hx, rfl, rfl⟩
    · exact ⟨rAt b p.Of, rAt_mem hr, rfl, rfl⟩
  rw [if_neg c5] at h0 ⊢
  by_cases c6 : p.Kind = 6
  · rw [if_pos c6] at h0 ⊢
    obtain ⟨hv, hv', hn, hR⟩ := dropS_inv h0
    refine eff_same hv hv' hR c1 fun c y => ?_
    have h1 := used_ex hv c y
    have h2 := used_ex hv' c y
    have h3 := (dropS_usedA hv hn h0 c y).2
    unfold amtP at hn
    split at h3
    · rw [wrapId (by omega) (by omega)] at h3; omega
    · rw [wrapId (by omega) (by omega)] at h3; omega
  rw [if_neg c6] at h0 ⊢
  obtain ⟨hv, hv', hR, hC⟩ := backS_inv h0
  refine eff_same hv hv' hR c1 (conv hv hv' fun c y => ?_)
  unfold usedV rel
  rw [hR, hC]
end Go.Proofs.YtclaojamgomjbaaGreatDoor
namespace Go.Proofs.YtclaojamgomjbaaGreatDoor
open Go Go.TA
theorem uniqR {l : List TApiRight} (hS : Srt l) (hg : ∀ x ∈ l, RtOk x) {x y : TApiRight} (hx : x ∈ l) (hy : y ∈ l) (h1 : x.Code = y.Code) (h2 : x.Year = y.Year) : x = y := by
  obtain ⟨i, hi, rfl⟩ := mem_getD hx
  obtain ⟨j, hj, rfl⟩ := mem_getD hy
  have h0 := (cmpR_eq (hg _ hx).1 (hg _ hy).1).2 ⟨h1, h2⟩
  rcases Nat.lt_trichotomy i j with h | h | h
  · have := hS.lt hg h hj; omega
  · rw [h]
  · have := hS.lt hg h hi
    have h3 := cmpR_anti (b := l.getD i default) (hg _ hy).1
    omega
theorem rightV_of {l : List TApiRight} (hS : Srt l) (hg : ∀ x ∈ l, RtOk x) {x : TApiRight} (hx : x ∈ l) : rightV l x.Code x.Year = x := by
  obtain ⟨h1, h2, h3⟩ := rightV_mem (has_iff.2 ⟨x, hx, rfl, rfl⟩ : hasR l x.Code x.Year = true)
  exact uniqR hS hg h1 hx h2 h3
theorem cmpR_congr {a a' b b' : TApiRight} (h1 : a.Code = a'.Code) (h2 : a.Year = a'.Year) (h3 : b.Code = b'.Code) (h4 : b.Year = b'.Year) : cmpR a b = cmpR a' b' := by
  unfold cmpR; rw [h1, h2, h3, h4]
theorem mem_put {l : List TApiRight} {r x : TApiRight} (h : x ∈ putL l r) : x = r ∨ x ∈ l := by
  unfold putL at h
  split at h
  · exact (List.mem_or_eq_of_mem_set h).symm
  · unfold insL at h
    simp only [List.mem_append, List.mem_cons] at h
    rcases h with h | h | h
    · exact .inr (List.mem_of_mem_take h)
    · exact .inl h
    · exact .inr (List.mem_of_mem_drop h)
theorem put_mem_self (l : List TApiRight) (r : TApiRight) : r ∈ putL l r := by
  unfold putL
  split
  · rename_i h
    exact List.mem_set (rix_lt h).1 _
  · unfold insL; simp
theorem put_mem {l : List TApiRight} {r x : TApiRight} (hx : x ∈ l) (h : ¬ (x.Code = r.Code ∧ x.Year = r.Year)) : x ∈ putL l r := by
  unfold putL
  split
  · rename_i hh
    obtain ⟨h1, h2, h3⟩ := rix_lt hh
    obtain ⟨i, hi, e⟩ := List.mem_iff_getElem.mp hx
    have hne : rix l r.Code r.Year ≠ i := fun k => h (by subst k; rw [getD_el h1, e] at h2 h3; exact ⟨h2, h3⟩)
    have h4 : (l.set (rix l r.Code r.Year) r)[i]'(by rw [List.length_set]; exact hi) = x := by rw [List.getElem_set, if_neg hne, e]
    rw [← h4]
    exact List.getElem_mem _
  · unfold insL
    rw [List.mem_append, List.mem_cons]
    have : x ∈ l.take (posR l r) ++ l.drop (posR l r) := by rw [List.take_append_drop]; exact hx
    rcases List.mem_append.1 this with h | h
    · exact .inl h
    · exact .inr (.inr h)
theorem put_ok {l : List TApiRight} {r : TApiRight} (hg : ∀ x ∈ l, RtOk x) (hr : RtOk r) : ∀ x ∈ putL l r, RtOk x := fun x hx => by
  rcases mem_put hx with rfl | h
  · exact hr
  · exact hg x h
theorem put_srt {l : List TApiRight} {r : TApiRight} (hS : Srt l) (hg : ∀ x ∈ l, RtOk x) (hr : RtOk r) : Srt (putL l r) := by
  unfold putL
  split
  · rename_i hh
    obtain ⟨h1, h2, h3⟩ := rix_lt hh
    intro i hi
    rw [List.length_set] at hi
    have key : ∀ j, (((l.set (rix l r.Code r.Year) r).getD j default).Code = (l.getD j default).Code) ∧ ((l.set (rix l r.Code r.Year) r).getD j default).Year = (l.getD j default).Year := fun j => by
      rw [getD_set _ _ _ _ h1]
      by_cases e : j = rix l r.Code r.Year
      · rw [if_pos e, e, h2, h3]; exact ⟨rfl, rfl⟩
      · rw [if_neg e]; exact ⟨rfl, rfl⟩
    refine (hS i hi).imp id fun k => ?_
    rw [cmpR_congr (key (i - 1)).1 (key (i - 1)).2 (key i).1 (key i).2]
    exact k
  · rename_i hh
    have hp := posR_le l r
    intro i hi
    rw [insL_length] at hi
    rw [insL_get hp, insL_get hp]
    by_cases h0 : i = 0
    · exact .inl h0
    right
    by_cases c1 : i < posR l r
    · rw [if_pos (by omega), if_pos c1]
      exact (hS i (by omega)).resolve_left h0
    · by_cases c2 : i = posR l r
      · rw [if_pos (by omega), if_neg c1, if_pos c2]
        exact posR_lt (by omega)
      · rw [if_neg c1, if_neg c2]
        by_cases c3 : i - 1 = posR l r
        · rw [if_neg (by omega), if_pos c3, c3]
          have h1 := posR_at (l := l) (r := r) (by omega)
          have hm : l.getD (posR l r) default ∈ l := getD_mem (by omega)
          have h2 : cmpR (l.getD (posR l r) default) r ≠ 0 := fun k => by
            obtain ⟨k1, k2⟩ := (cmpR_eq (hg _ hm).1 hr.1).1 k
            exact hh (has_iff.2 ⟨_, hm, k1, k2⟩)
          have h3 := cmpR_anti (b := r) (hg _ hm).1
          omega
        · rw [if_neg (by omega), if_neg c3]
          have := (hS (i - 1) (by omega)).resolve_left (by omega)
          exact this
theorem has_put {l : List TApiRight} {r : TApiRight} {c : List UInt8} {y : Int} (h : hasR l c y = true) : hasR (putL l r) c y = true := by
  obtain ⟨x, hx, h1, h2⟩ := has_iff.1 h
  by_cases k : x.Code = r.Code ∧ x.Year = r.Year
  · exact has_iff.2 ⟨r, put_mem_self l r, by rw [← k.1, h1], by rw [← k.2, h2]⟩
  · exact has_iff.2 ⟨x, put_mem hx k, h1, h2⟩
theorem rightV_put {l : List TApiRight} {r : TApiRight} (hS : Srt l) (hg : ∀ x ∈ l, RtOk x) (hr : RtOk r) (c : List UInt8) (y : Int) : rightV (putL l r) c y = if r.Code = c ∧ r.Year = y then r else rightV l c y := by
  have hS' := put_srt hS hg hr
  have hg' := put_ok hg hr
  by_cases k : r.Code = c ∧ r.Year = y
  · rw [if_pos k, ← k.1, ← k.2]
    exact rightV_of hS' hg' (put_mem_self l r)
  · rw [if_neg k]
    by_cases h : hasR l c y = true
    · obtain ⟨h1, h2, h3⟩ := rightV_mem h
      have := rightV_of hS' hg' (put_mem (r := r) h1 (by rw [h2, h3]; exact fun q => k ⟨q.1.symm, q.2.symm⟩))
      rwa [h2, h3] at this
    · have h' : ¬ hasR (putL l r) c y = true := fun q => by
        obtain ⟨x, hx, h1, h2⟩ := has_iff.1 q
        rcases mem_put hx with rfl | hx
        · exact k ⟨h1, h2⟩
        · exact h (has_iff.2 ⟨x, hx, h1, h2⟩)
      unfold rightV
      rw [if_neg h, if_neg h']
theorem put_len {l : List TApiRight} {r : TApiRight} (h : l.length ≤ 60) (h2 : hasR l r.Code r.Year = true ∨ (l.length : Int) ≠ 60) : (putL l r).length ≤ 60 := by
  unfold putL
  split
  · rw [List.length_set]; exact h
  · rename_i hh
    rw [insL_length]
    have := h2.resolve_left hh
    omega
theorem rightV_bd {l : List TApiRight} (hg : ∀ x ∈ l, RtOk x) (c : List UInt8) (y : Int) : 0 ≤ (rightV l c y).Returned ∧ (rightV l c y).Returned ≤ (rightV l c y).Granted ∧ (rightV l c y).Granted ≤ 1000000000000000 ∧ 0 ≤ (rightV l c y).Asked ∧ (rightV l c y).Asked ≤ 1000000000000000 := by
  by_cases h : hasR l c y = true
  · have := hg _ (rightV_mem h).1
    unfold RtOk at this
    omega
  · unfold rightV; rw [if_neg h]; simp
theorem unused_gen {o : TApiOffice} (hg : ∀ x ∈ o.Rights, RtOk x) (hv : Val o.Book) (c : List UInt8) (y : Int) : unusedV o c y = (rightV o.Rights c y).Granted - (rightV o.Rights c y).Returned - usedE o.Book c y := by
  have h1 := rightV_bd hg c y
  have h2 := used_ex hv c y
  unfold unusedV
  rw [wrapId (n := (rightV o.Rights c y).Granted - (rightV o.Rights c y).Returned) (by omega) (by omega), h2.1, wrapId (by omega) (by omega)]
theorem VO.unused {o : TApiOffice} (h : VO o) (c : List UInt8) (y : Int) : unusedV o c y = (rightV o.Rights c y).Granted - (rightV o.Rights c y).Returned - usedE o.Book c y := unused_gen h.ok h.val c y
theorem usedE_none {b : TApiBook} {c : List UInt8} {y : Int} (h : ∀ x ∈ b.Reservations, ¬ (x.Code = c ∧ x.Year = y)) : usedE b c y = 0 := by
  unfold usedE
  exact sm_none fun x hx => by
    have := h x hx
    simp only [Bool.and_eq_false_iff, beq_eq_false_iff_ne, ne_eq]
    by_cases h1 : x.Code = c
    · exact .inr fun h2 => this ⟨h1, h2⟩
    · exact .inl h1
theorem VO.unused_nn {o : TApiOffice} (h : VO o) (c : List UInt8) (y : Int) : 0 ≤ unusedV o c y := by
  by_cases hx : ∃ x ∈ o.Book.Reservations, x.Code = c ∧ x.Year = y
  · obtain ⟨x, hx, rfl, rfl⟩ := hx
    exact (h.2.2.2.2.2 x hx).2
  · rw [h.unused, usedE_none fun x hx' e => hx ⟨x, hx', e⟩]
    have := rightV_bd h.ok c y
    omega
theorem VO.smO {o : TApiOffice} (h : VO o) : SmO o := by
  have h1 := h.val
  have h2 := h1.2.2.2.2.2.2
  refine ⟨⟨⟨by omega, by omega, by omega, by omega⟩, fun r hr => ?_⟩, by have := h.len; omega, fun r hr => (h.ok r hr).len⟩
  have := good_len (h1.1.mem hr).1.2.1
  omega
theorem step_vo {o : TApiOffice} {p : TApiOp} (hv : VO o) (hk : p.Kind ≠ 7 ∧ p.Kind ≠ 8) (h0 : (stepS o p).2 = 0) :
    (stepS o p).1 = ⟨o.Number, o.Rights, (bookS o.Book p).1⟩ ∧ (bookS o.Book p).2 = 0 ∧ Eff o.Book p (bookS o.Book p).1 ∧ (p.Kind = 1 → p.Amount ≤ unusedV o p.Code p.Year) ∧ VO (stepS o p).1 := by
  unfold stepS at h0 ⊢
  rw [if_neg hk.2, if_neg hk.1] at h0 ⊢
  by_cases c1 : (bookS o.Book p).2 ≠ 0
  · rw [if_pos c1] at h0; exact absurd h0 c1
  rw [if_neg c1] at h0 ⊢
  by_cases c2 : p.Kind = 1 ∧ p.Amount > unusedV o p.Code p.Year
  · rw [if_pos c2] at h0; cases h0
  rw [if_neg c2]
  have c1 := Classical.not_not.mp c1
  have he := book_eff c1
  have hu : p.Kind = 1 → p.Amount ≤ unusedV o p.Code p.Year := fun k => Int.not_lt.1 fun q => c2 ⟨k, q⟩
  refine ⟨rfl, c1, he, hu, hv.1, hv.len, he.2.1, hv.ok, hv.srt, fun x hx => ?_⟩
  have hx := he.2.2.2.2.1 x hx
  have hh : hasR o.Rights x.Code x.Year = true := by
    rcases hx with ⟨z, hz, e1, e2⟩ | ⟨k, e1, e2⟩
    · rw [← e1, ← e2]; exact (hv.2.2.2.2.2 z hz).1
    · rw [e1, e2]
      have h1 := hu k
      have h2 := (he.2.2.2.1 k).1
      refine Classical.byContradiction fun q => ?_
      rw [hv.unused] at h1
      have h3 := used_ex hv.val p.Code p.Year
      unfold rightV at h1
      rw [if_neg q] at h1
      simp only at h1
      omega
  refine ⟨hh, ?_⟩
  rw [unused_gen (o := ⟨o.Number, o.Rights, (bookS o.Book p).1⟩) hv.ok he.2.1]
  have h1 := he.2.2.1 x.Code x.Year
  have h2 := hv.unused x.Code x.Year
  have h3 := hv.unused_nn x.Code x.Year
  by_cases k : p.Kind = 1 ∧ p.Code = x.Code ∧ p.Year = x.Year
  · rw [if_pos k] at h1
    have h4 := hu k.1
    rw [k.2.1, k.2.2] at h4
    simp only
    omega
  · rw [if_neg k] at h1
    simp only
    omega
theorem vo_put {o : TApiOffice} (hv : VO o) {r : TApiRight} (hr : RtOk r) (hl : hasR o.Rights r.Code r.Year = true ∨ (o.Rights.length : Int) ≠ 60) (hu : usedE o.Book r.Code r.Year ≤ r.Granted - r.Returned) : VO ⟨o.Number, putL o.Rights r, o.Book⟩ := by
  refine ⟨hv.1, put_len hv.len hl, hv.val, put_ok hv.ok hr, put_srt hv.srt hv.ok hr, fun x hx => ⟨has_put (hv.2.2.2.2.2 x hx).1, ?_⟩⟩
  rw [unused_gen (o := ⟨o.Number, putL o.Rights r, o.Book⟩) (put_ok hv.ok hr) hv.val]
  simp only
  rw [rightV_put hv.srt hv.ok hr]
  by_cases k : r.Code = x.Code ∧ r.Year = x.Year
  · rw [if_pos k, ← k.1, ← k.2]; omega
  · rw [if_neg k]
    have h2 := hv.unused x.Code x.Year
    have h3 := hv.unused_nn x.Code x.Year
    omega
theorem hear_vo {o : TApiOffice} {p : TApiOp} (hv : VO o) (h0 : (hearS o p).2 = 0) :
    ∃ r, (hearS o p).1 = ⟨o.Number, putL o.Rights r, o.Book⟩ ∧ RtOk r ∧ r.Code = p.Code ∧ r.Year = p.Year ∧ r = ⟨p.Code, p.Year, if p.Granted > (rightV o.Rights p.Code p.Year).Granted then p.Granted else (rightV o.Rights p.Code p.Year).Granted, if p.AskedBack > (rightV o.Rights p.Code p.Year).Asked then p.AskedBack else (rightV o.Rights p.Code p.Year).Asked, (rightV o.Rights p.Code p.Year).Returned⟩ ∧ VO (hearS o p).1 := by
  unfold hearS at h0 ⊢
  by_cases c1 : ¬ good p.Code = true
  · rw [if_pos c1] at h0; cases h0
  rw [if_neg c1] at h0 ⊢
  by_cases c2 : p.Year < 0 ∨ p.Year > 99
  · rw [if_pos c2] at h0; cases h0
  rw [if_neg c2] at h0 ⊢
  by_cases c3 : hasR o.Rights p.Code p.Year = false ∧ (o.Rights.length : Int) = 60
  · rw [if_pos c3] at h0; cases h0
  rw [if_neg c3] at h0 ⊢
  by_cases c4 : (learnS (rightV o.Rights p.Code p.Year) (msgOf p)).2 ≠ 0
  · rw [if_pos c4] at h0; exact absurd h0 c4
  rw [if_neg c4]
  have h1 := learnS_ok (Classical.not_not.mp c4)
  have hcy := rightV_cy o.Rights p.Code p.Year
  rw [hcy.1, hcy.2] at h1
  refine ⟨_, rfl, h1.2.2.2.2, by rw [h1.2.2.2.1], by rw [h1.2.2.2.1], h1.2.2.2.1, vo_put hv h1.2.2.2.2 ?_ ?_⟩
  · rw [h1.2.2.2.1]
    simp only
    by_cases k : hasR o.Rights p.Code p.Year = true
    · exact .inl k
    · exact .inr fun q => c3 ⟨by simpa using k, q⟩
  · rw [h1.2.2.2.1]
    have h2 := hv.unused p.Code p.Year
    have h3 := hv.unused_nn p.Code p.Year
    have h4 : (rightV o.Rights p.Code p.Year).Granted ≤ if (msgOf p).Granted > (rightV o.Rights p.Code p.Year).Granted then (msgOf p).Granted else (rightV o.Rights p.Code p.Year).Granted := by split <;> omega
    simp only
    omega
theorem give_vo {o : TApiOffice} {p : TApiOp} (hv : VO o) (h0 : (giveS o p).2 = 0) :
    hasR o.Rights p.Code p.Year = true ∧ 1 ≤ p.Amount ∧ p.Amount ≤ unusedV o p.Code p.Year ∧ ∃ r, (giveS o p).1 = ⟨o.Number, putL o.Rights r, o.Book⟩ ∧ RtOk r ∧ r = ⟨p.Code, p.Year, (rightV o.Rights p.Code p.Year).Granted, (rightV o.Rights p.Code p.Year).Asked, (rightV o.Rights p.Code p.Year).Returned + p.Amount⟩ ∧ VO (giveS o p).1 := by
  unfold giveS at h0 ⊢
  by_cases c1 : ¬ hasR o.Rights p.Code p.Year = true
  · rw [if_pos c1] at h0; cases h0
  rw [if_neg c1] at h0 ⊢
  by_cases c4 : (returnS (rightV o.Rights p.Code p.Year) (usedV o.Book p.Code p.Year) p.Amount).2 ≠ 0
  · rw [if_pos c4] at h0; exact absurd h0 c4
  rw [if_neg c4]
  have h1 := returnS_ok (Classical.not_not.mp c4)
  have hcy := rightV_cy o.Rights p.Code p.Year
  have hu := used_ex hv.val p.Code p.Year
  rw [hcy.1, hcy.2, hu.1] at h1
  have c1 := Classical.not_not.mp c1
  rw [hu.1]
  refine ⟨c1, h1.2.2.1, by rw [hv.unused]; exact h1.2.2.2.1, _, rfl, h1.2.2.2.2.2, h1.2.2.2.2.1, vo_put hv h1.2.2.2.2.2 (.inl ?_) ?_⟩
  · rw [h1.2.2.2.2.1]; exact c1
  · rw [h1.2.2.2.2.1]
    simp only
    omega
theorem doS_inv {o : TApiOffice} {p : TApiOp} (h0 : (doS o p).2 = 0) : VO o ∧ (1 ≤ p.Kind ∧ p.Kind ≤ 9) ∧ doS o p = stepS o p := by
  unfold doS at h0 ⊢
  split at h0
  · cases h0
  · rename_i h
    rw [if_neg h]
    exact ⟨Classical.byContradiction fun k => h (.inl k), by omega, rfl⟩
theorem doS_ok {o : TApiOffice} (hv : VO o) {p : TApiOp} (hk : 1 ≤ p.Kind ∧ p.Kind ≤ 9) : doS o p = stepS o p := by
  unfold doS
  rw [if_neg (fun k => k.elim (fun k => k hv) fun k => by omega)]
theorem do_vo {o : TApiOffice} {p : TApiOp} (h0 : (doS o p).2 = 0) : VO (doS o p).1 := by
  obtain ⟨hv, hk, e⟩ := doS_inv h0
  rw [e] at h0 ⊢
  by_cases c8 : p.Kind = 8
  · have e8 : stepS o p = hearS o p := by unfold stepS; rw [if_pos c8]
    rw [e8] at h0 ⊢
    obtain ⟨r, _, _, _, _, _, h⟩ := hear_vo hv h0
    exact h
  by_cases c7 : p.Kind = 7
  · have e7 : stepS o p = giveS o p := by unfold stepS; rw [if_neg c8, if_pos c7]
    rw [e7] at h0 ⊢
    obtain ⟨_, _, _, r, _, _, _, h⟩ := give_vo hv h0
    exact h
  exact (step_vo hv ⟨c7, c8⟩ h0).2.2.2.2
end Go.Proofs.YtclaojamgomjbaaGreatDoor
namespace Go.Proofs.YtclaojamgomjbaaGreatDoor
open Go Go.TA
theorem tot0 : tot 0 := by decide
theorem rightV_rtok {l : List TApiRight} (hg : ∀ x ∈ l, RtOk x) {c : List UInt8} {y : Int} (hc : good c = true) (hy : 0 ≤ y ∧ y ≤ 99) : RtOk (rightV l c y) := by
  by_cases h : hasR l c y = true
  · exact hg _ (rightV_mem h).1
  · unfold rightV; rw [if_neg h]; exact ⟨hc, hy, by simp, by simp, by simp⟩
theorem hear_succ {o : TApiOffice} (hv : VO o) {p : TApiOp} (hc : good p.Code = true) (hy : 0 ≤ p.Year ∧ p.Year ≤ 99) (hl : hasR o.Rights p.Code p.Year = true ∨ (o.Rights.length : Int) ≠ 60) (h1 : tot p.Granted) (h2 : tot p.AskedBack) : (hearS o p).2 = 0 := by
  have hr := rightV_rtok hv.ok hc hy
  have hcy := rightV_cy o.Rights p.Code p.Year
  have hk : (learnS (rightV o.Rights p.Code p.Year) (msgOf p)).2 = 0 := by
    unfold learnS
    rw [if_neg (fun k => k ⟨hr, rfl, hcy.1.symm, hcy.2.symm⟩), if_neg (fun k => k ⟨h1, h2⟩)]
  unfold hearS
  rw [if_neg (fun k => k hc), if_neg (by omega), if_neg (fun k => by
    rcases hl with h | h
    · rw [k.1] at h; cases h
    · exact h k.2), if_neg (fun k => k hk)]
def OI (k : Nat) (o : TApiOffice) : Prop := VO o ∧ o.Book.Reservations.length ≤ k ∧ o.Rights.length ≤ k ∧ ∀ r ∈ o.Rights, r.Granted ≤ 1000
theorem rightV_le {o : TApiOffice} (hG : ∀ r ∈ o.Rights, r.Granted ≤ 1000) (c : List UInt8) (y : Int) : (rightV o.Rights c y).Granted ≤ 1000 := by
  by_cases h : hasR o.Rights c y = true
  · exact hG _ (rightV_mem h).1
  · unfold rightV; rw [if_neg h]; simp
theorem do_oi {o : TApiOffice} {p : TApiOp} {k : Nat} (h : OI k o) (hp : p.Granted ≤ 1000) (h0 : (doS o p).2 = 0) : OI (k + 1) (doS o p).1 := by
  have hvo := do_vo h0
  obtain ⟨hv, hl1, hl2, hG⟩ := h
  obtain ⟨_, hk, e⟩ := doS_inv h0
  rw [e] at h0 hvo ⊢
  have hput : ∀ r : TApiRight, r.Granted ≤ 1000 → VO ⟨o.Number, putL o.Rights r, o.Book⟩ → OI (k + 1) ⟨o.Number, putL o.Rights r, o.Book⟩ := fun r hr hv' =>
    ⟨hv', by simp only; omega, by have := putL_len o.Rights r; simp only; omega, fun x hx => by
      rcases mem_put hx with rfl | hx
      · exact hr
      · exact hG x hx⟩
  by_cases c8 : p.Kind = 8
  · have e8 : stepS o p = hearS o p := by unfold stepS; rw [if_pos c8]
    rw [e8] at h0 hvo ⊢
    obtain ⟨r, e1, _, _, _, e2, _⟩ := hear_vo hv h0
    rw [e1] at hvo ⊢
    refine hput r ?_ hvo
    rw [e2]
    have := rightV_le hG p.Code p.Year
    simp only
    split <;> omega
  by_cases c7 : p.Kind = 7
  · have e7 : stepS o p = giveS o p := by unfold stepS; rw [if_neg c8, if_pos c7]
    rw [e7] at h0 hvo ⊢
    obtain ⟨_, _, _, r, e1, _, e2, _⟩ := give_vo hv h0
    rw [e1] at hvo ⊢
    refine hput r ?_ hvo
    rw [e2]
    exact rightV_le hG p.Code p.Year
  obtain ⟨e1, _, he, _, _⟩ := step_vo hv ⟨c7, c8⟩ h0
  rw [e1] at hvo ⊢
  exact ⟨hvo, by have := he.2.2.2.2.2; simp only; omega, by simp only; omega, hG⟩
theorem Op_spec {o : TApiOffice} (ho : Few o.Book) {s : TTape} (hs : TapeOk s) (day : Int) : ∃ p s', F_mk_Op o day s = some (p, s') ∧ TapeOk s' ∧ p.Code.length ≤ 60 ∧ p.Granted ≤ 1000 ∧ p.Amount ≤ 120 := by
  obtain ⟨l1, l2, l3, l4⟩ := ho
  obtain ⟨k, s1, e1, t1, k1⟩ := Pick_spec (l := [1, 1, 1, 2, 2, 2, 3, 3, 3, 4, 4, 5, 6, 7, 8, 8, 9]) hs (by decide) (by decide)
  obtain ⟨co, s2, e2, t2, hc, _⟩ := PotCode_spec t1
  obtain ⟨n1, s3, e3, t3, _, hn1⟩ := Range_spec (lo := 1) (hi := 120) t2 (by omega) (by omega) (by omega)
  obtain ⟨n2, s4, e4, t4, hn2⟩ := Pick_spec (l := [10, 50, n1]) t3 (by simp) (by simp)
  have hn2 : n2 ≤ 120 := by simp at hn2; omega
  simp only [F_mk_Op, S_mk_Op, Scr.den, e1, e2, e3, e4, obind]
  generalize IntKind.i64.wrap (day.tdiv 360) = yy
  have fin : ∀ (s5 : TTape) (p : TApiOp), TapeOk s5 → p.Code.length ≤ 60 → p.Granted ≤ 1000 → p.Amount ≤ 120 →
      ∃ p' s', outM (some (Out.next (s5, p) : Out (TTape × TApiOp) R_mk_Op)) (fun (sv5 : TTape × TApiOp) => outM (if (sv5.2.Kind == 2) = true then (F_mk_Tape_Range 1 4 sv5.1).bind fun rv17 => (F_mk_Tape_N 60 rv17.2).bind fun rv18 => some (Out.next (rv18.2, (⟨sv5.2.Kind, sv5.2.Code, sv5.2.Year, sv5.2.Day, sv5.2.Of, sv5.2.Amount, rv17.1, (IntKind.i64.wrap (day + rv18.1)), sv5.2.Granted, sv5.2.AskedBack⟩ : TApiOp)) : Out (TTape × TApiOp) R_mk_Op) else some (Out.next (sv5.1, sv5.2))) (fun (sv16 : TTape × TApiOp) => some (sv16.2, sv16.1)) some) some = some (p', s') ∧ TapeOk s' ∧ p'.Code.length ≤ 60 ∧ p'.Granted ≤ 1000 ∧ p'.Amount ≤ 120 := fun s5 p ht h1 h2 h3 => by
    simp only [outM]
    by_cases hk : (p.Kind == 2) = true
    · rw [if_pos hk]
      obtain ⟨x1, s6, q1, t6, _, _⟩ := Range_spec (lo := 1) (hi := 4) ht (by omega) (by omega) (by omega)
      obtain ⟨x2, s7, q2, t7, _, _⟩ := N_spec (n := 60) t6 (by omega) (by omega)
      simp only [q1, q2, obind]
      exact ⟨_, _, rfl, t7, h1, h2, h3⟩
    · rw [if_neg hk]
      exact ⟨_, _, rfl, ht, h1, h2, h3⟩
  have lm : ∀ {α : Type} (l : List α), l.length ≤ 1000000 → (1 : Int) ≤ (if (l.length : Int) > 1 then (l.length : Int) else 1) ∧ (if (l.length : Int) > 1 then (l.length : Int) else 1) ≤ 1000000 := fun l h => by split <;> omega
  have m1 := lm o.Book.Reservations l1
  have m2 := lm o.Book.Commitments l2
  have m3 := lm o.Book.Verifications l3
  have two : ∀ {c d : Bool} {P : Prop}, (c = true → P) → (d = true → P) → (c = false → d = false → P) → P := fun {c d P} h1 h2 h3 => by
    cases hc : c
    · cases hd : d
      · exact h3 hc hd
      · exact h2 hd
    · exact h1 hc
  have g1 : ∀ {β : Type} (c d : Bool), (c || d) = true → (if c = true then some (Out.next c) else some (Out.next d) : Option (Out Bool β)) = some (Out.next true) := fun {_} c d h => by cases c <;> cases d <;> first | rfl | cases h
  have g0 : ∀ {β : Type} (c d : Bool), (c || d) = false → (if c = true then some (Out.next c) else some (Out.next d) : Option (Out Bool β)) = some (Out.next false) := fun {_} c d h => by cases c <;> cases d <;> first | rfl | cases h
  by_cases c1 : ((k == 2) || (k == 5)) = true
  · rw [g1 _ _ c1]
    obtain ⟨x1, s5, q1, t5, _, _⟩ := Range_spec (lo := 1) (hi := (if (o.Book.Reservations.length : Int) > 1 then (o.Book.Reservations.length : Int) else 1)) t4 (by omega) m1.1 (by omega)
    simp only [outM, if_true, q1, obind]
    exact fin _ ⟨k, co, yy, day, x1, n2, 0, 0, 0, 0⟩ t5 hc (by show (0 : Int) ≤ 1000; decide) hn2
  have c1 : ((k == 2) || (k == 5)) = false := by simpa using c1
  rw [g0 _ _ c1]
  by_cases c2 : ((k == 3) || (k == 6)) = true
  · rw [g1 _ _ c2]
    obtain ⟨x1, s5, q1, t5, _, _⟩ := Range_spec (lo := 1) (hi := (if (o.Book.Commitments.length : Int) > 1 then (o.Book.Commitments.length : Int) else 1)) t4 (by omega) m2.1 (by omega)
    simp only [outM, Bool.false_eq_true, if_true, if_false, q1, obind]
    exact fin _ ⟨k, co, yy, day, x1, n2, 0, 0, 0, 0⟩ t5 hc (by show (0 : Int) ≤ 1000; decide) hn2
  have c2 : ((k == 3) || (k == 6)) = false := by simpa using c2
  rw [g0 _ _ c2]
  by_cases c3 : ((k == 4) || (k == 9)) = true
  · rw [g1 _ _ c3]
    obtain ⟨x1, s5, q1, t5, _, _⟩ := Range_spec (lo := 1) (hi := (if (o.Book.Verifications.length : Int) > 1 then (o.Book.Verifications.length : Int) else 1)) t4 (by omega) m3.1 (by omega)
    simp only [outM, Bool.false_eq_true, if_true, if_false, q1, obind]
    exact fin _ ⟨k, co, yy, day, x1, n2, 0, 0, 0, 0⟩ t5 hc (by show (0 : Int) ≤ 1000; decide) hn2
  have c3 : ((k == 4) || (k == 9)) = false := by simpa using c3
  rw [g0 _ _ c3]
  by_cases c4 : (k == 8) = true
  · obtain ⟨x1, s5, q1, t5, _, y1⟩ := N_spec (n := 1000) t4 (by omega) (by omega)
    obtain ⟨x2, s6, q2, t6, y2⟩ := Pick_spec (l := [100, 400, x1]) t5 (by simp) (by simp)
    obtain ⟨x3, s7, q3, t7, _, y3⟩ := N_spec (n := 200) t6 (by omega) (by omega)
    obtain ⟨x4, s8, q4, t8, y4⟩ := Pick_spec (l := [0, 0, x3]) t7 (by simp) (by simp)
    simp only [outM, Bool.false_eq_true, if_false, if_pos c4, q1, q2, q3, q4, obind]
    exact fin _ ⟨k, co, yy, day, 0, n2, 0, 0, x2, x4⟩ t8 hc (by simp at y2; show x2 ≤ 1000; omega) hn2
  · simp only [outM, Bool.false_eq_true, if_false, if_neg c4]
    exact fin _ ⟨k, co, yy, day, 0, n2, 0, 0, 0, 0⟩ t4 hc (by show (0 : Int) ≤ 1000; decide) hn2
theorem Op_spec' {o : TApiOffice} (hv : VO o) {s : TTape} (hs : TapeOk s) (day : Int) : ∃ p s', F_mk_Op o day s = some (p, s') ∧ TapeOk s' ∧ p.Code.length ≤ 60 ∧ p.Granted ≤ 1000 ∧ p.Amount ≤ 120 := Op_spec hv.smO.1.1 hs day
theorem r15_New_eq (n : Int) : F_r15_New n = some (if n < 1 ∨ n > 6 then (noO, 2) else (⟨n, [], nb⟩, 0)) := by
  simp only [F_r15_New, S_r15_New, Scr.den, cond_or]
  exact st (by simp only [Bool.or_eq_true, decide_eq_true_eq]) (fun _ => rfl) (fun _ => rfl)
theorem new_oi {n : Int} (h1 : 1 ≤ n) (h2 : n ≤ 6) : OI 0 ⟨n, [], nb⟩ :=
  ⟨⟨⟨h1, h2⟩, (by simp), nb_val, (fun _ h => nomatch h), (fun i hi => absurd hi (by simp)), (fun x hx => nomatch hx)⟩, (by simp [nb]), (by simp), (fun _ h => nomatch h)⟩
end Go.Proofs.YtclaojamgomjbaaGreatDoor
namespace Go.Proofs.YtclaojamgomjbaaGreatDoor
open Go Go.TA
def a1 : TApiOffice := ⟨2, [], nb⟩
def a2 : TApiOffice := ⟨2, [⟨[49], 12, 100, 0, 0⟩], nb⟩
def aR : TApiReservation := ⟨1, [49], 12, 4330, 60, 0⟩
def a3 : TApiOffice := ⟨2, [⟨[49], 12, 100, 0, 0⟩], ⟨[aR], [], [], []⟩⟩
def a4 : TApiOffice := ⟨2, [⟨[49], 12, 100, 0, 40⟩], ⟨[aR], [], [], []⟩⟩
def q1 : TApiOp := ⟨8, [49], 12, 0, 0, 0, 0, 0, 100, 0⟩
def q2 : TApiOp := ⟨1, [49], 12, 4330, 0, 60, 0, 0, 0, 0⟩
def q3 : TApiOp := ⟨7, [49], 12, 0, 0, 40, 0, 0, 0, 0⟩
def q4 : TApiOp := ⟨1, [49], 12, 4330, 0, 1, 0, 0, 0, 0⟩
theorem va1 : VO a1 := (new_oi (by omega) (by omega)).1
theorem st1 : doS a1 q1 = (a2, 0) := by
  rw [doS_ok va1 (by decide)]
  unfold stepS
  rw [if_pos (by decide)]
  kernel_rfl
theorem va2 : VO a2 := by have := do_vo (o := a1) (p := q1) (by rw [st1]); rwa [st1] at this
theorem st2 : doS a2 q2 = (a3, 0) := by
  rw [doS_ok va2 (by decide)]
  unfold stepS
  have h : reserveS a2.Book q2.Code q2.Year q2.Day q2.Amount = (⟨[aR], [], [], []⟩, 0) :=
    reserveS_ok (b := nb) (code := [49]) (y := 12) (d := 4330) (n := 60) nb_val (by decide +kernel) (by decide) (by decide) (by decide) (by decide) (by decide)
  have hu : unusedV a2 q2.Code q2.Year = 100 := by decide +kernel
  have hb : bookS a2.Book q2 = (⟨[aR], [], [], []⟩, 0) := by unfold bookS; rw [if_pos (by decide), h]
  rw [if_neg (by decide), if_neg (by decide), hb, if_neg (by decide), if_neg (by rw [hu]; decide)]
  rfl
theorem va3 : VO a3 := by have := do_vo (o := a2) (p := q2) (by rw [st2]); rwa [st2] at this
theorem st3 : doS a3 q3 = (a4, 0) := by
  rw [doS_ok va3 (by decide)]
  unfold stepS
  rw [if_neg (by decide), if_pos (by decide)]
  kernel_rfl
end Go.Proofs.YtclaojamgomjbaaGreatDoor
namespace Go.Proofs.YtclaojamgomjbaaGreatDoor
open Go Go.TA
def numP (n : Int) : Prop := 1 ≤ n ∧ n ≤ 1000000
instance (n : Int) : Decidable (numP n) := inferInstanceAs (Decidable (_ ∧ _))
instance (n : Int) : Decidable (dayP n) := inferInstanceAs (Decidable (_ ∧ _))
def WPl (w : TApiWarrant) : Prop := (numP w.Number ∧ numP w.Reservation ∧ numP w.Commitment ∧ numP w.Verification ∧ numP w.Attempt ∧ numP w.Payee) ∧ (1 ≤ w.Office ∧ w.Office ≤ 6) ∧ good w.Code = true ∧ (0 ≤ w.Year ∧ w.Year ≤ 99) ∧ (1 ≤ w.Amount ∧ w.Amount ≤ 1000000000000) ∧ dayP w.Day ∧ dayP w.Due
instance (w : TApiWarrant) : Decidable (WPl w) := by unfold WPl; infer_instance
theorem w_among (a b c : Int) : F_warrant_among a b c = some (decide (b ≤ a ∧ a ≤ c)) := by
  simp only [F_warrant_among, S_warrant_among, Scr.den, cond_and]
  congr 1
  rw [Bool.eq_iff_iff]
  simp only [Bool.and_eq_true, decide_eq_true_eq, ge_iff_le]
theorem w_number (n : Int) : F_warrant_number n = some (decide (numP n)) := by
  simp only [F_warrant_number, S_warrant_number, Scr.den, w_among, obind]
  rfl
theorem w_day (n : Int) : F_warrant_day n = some (decide (dayP n)) := by
  simp only [F_warrant_day, S_warrant_day, Scr.den, w_among, obind]
  rfl
theorem r19_num (n : Int) : F_r19_number n = some (decide (numP n)) := by
  simp only [F_r19_number, S_r19_number, Scr.den, cond_and]
  congr 1
  rw [Bool.eq_iff_iff]
  simp only [Bool.and_eq_true, decide_eq_true_eq, ge_iff_le]
  exact Iff.rfl
theorem all6 {p : Int → Prop} {a b c d e f : Int} : (∀ j, j < 6 → p (([a, b, c, d, e, f] : List Int).getD j default)) ↔ (p a ∧ p b ∧ p c ∧ p d ∧ p e ∧ p f) :=
  ⟨fun h => ⟨h 0 (by omega), h 1 (by omega), h 2 (by omega), h 3 (by omega), h 4 (by omega), h 5 (by omega)⟩, fun ⟨h0, h1, h2, h3, h4, h5⟩ j hj => by
    match j, hj with
    | 0, _ => exact h0
    | 1, _ => exact h1
    | 2, _ => exact h2
    | 3, _ => exact h3
    | 4, _ => exact h4
    | 5, _ => exact h5
    | n + 6, h => omega⟩
theorem all2 {p : Int → Prop} {a b : Int} : (∀ j, j < 2 → p (([a, b] : List Int).getD j default)) ↔ (p a ∧ p b) :=
  ⟨fun h => ⟨h 0 (by omega), h 1 (by omega)⟩, fun ⟨h0, h1⟩ j hj => by
    match j, hj with
    | 0, _ => exact h0
    | 1, _ => exact h1
    | n + 2, h => omega⟩
theorem and_len19 (a : Bool) (x d : List Int) [Decidable (AllP [a = true])] : (a && decide (((if AllP [a = true] then x else d).length : Int) > 0)) = (a && decide ((x.length : Int) > 0)) := by
  cases a <;> simp [AllP]
theorem Plain_eq {w : TApiWarrant} (hc : w.Code.length ≤ 1000000) : F_warrant_Plain w = some (decide (WPl w)) := by
  simp only [F_warrant_Plain, S_warrant_Plain, Scr.den]
  have ra := rangeM_all (ρ := R_warrant_Plain) (n := 6) (c := false) (body := fun i s => (S_warrant_Plain_b1 w i s).den) (fun i => numP (([w.Number, w.Reservation, w.Commitment, w.Verification, w.Attempt, w.Payee] : List Int).getD i default)) (fun i hi hp => by
    simp only [S_warrant_Plain_b1, Scr.den, w_number, obind]
    rw [decide_eq_true hp]
    rfl) (fun i hi hp => by
    simp only [S_warrant_Plain_b1, Scr.den, w_number, obind]
    rw [decide_eq_false hp]
    rfl)
  by_cases h6 : ∀ j, j < 6 → numP (([w.Number, w.Reservation, w.Commitment, w.Verification, w.Attempt, w.Payee] : List Int).getD j default)
  · rw [ra.1 h6]
    have h6' := all6.1 h6
    open Classical in simp only [outM, Parts_eq (show w.Code.length ≤ 1099511627776 by omega), w_among, w_day, optD_tot, obind, cond_and, and_self', and_len19]
    refine congrArg some ?_
    have e : decide (((parts w.Code).length : Int) > 0) = good w.Code := by rw [← good_parts]; rw [Bool.eq_iff_iff]; simp
    rw [e, Bool.eq_iff_iff]
    simp only [Bool.and_eq_true, decide_eq_true_eq]
    exact ⟨fun ⟨⟨⟨⟨⟨a, b⟩, c⟩, d⟩, f⟩, g⟩ => ⟨h6', a, b, c, d, f, g⟩, fun ⟨_, a, b, c, d, f, g⟩ => ⟨⟨⟨⟨⟨a, b⟩, c⟩, d⟩, f⟩, g⟩⟩
  · rw [ra.2 h6]
    show some false = _
    rw [decide_eq_false fun h : WPl w => h6 (all6.2 h.1)]
theorem r19_Plain_eq {w : TApiWarrant} (hc : w.Code.length ≤ 1000000) : F_r19_Plain w = some (decide (WPl w)) := by
  simp only [F_r19_Plain, S_r19_Plain, Scr.den]
  have ra := rangeM_all (ρ := R_r19_Plain) (n := 6) (c := false) (body := fun i s => (S_r19_Plain_b1 w i s).den) (fun i => numP (([w.Number, w.Reservation, w.Commitment, w.Verification, w.Attempt, w.Payee] : List Int).getD i default)) (fun i hi hp => by
    simp only [S_r19_Plain_b1, Scr.den, r19_num, obind]
    rw [decide_eq_true hp]
    rfl) (fun i hi hp => by
    simp only [S_r19_Plain_b1, Scr.den, r19_num, obind]
    rw [decide_eq_false hp]
    rfl)
  have rb := rangeM_all (ρ := R_r19_Plain) (n := 2) (c := false) (body := fun i s => (S_r19_Plain_b2 w i s).den) (fun i => dayP (([w.Day, w.Due] : List Int).getD i default)) (fun i hi hp => by
    simp only [S_r19_Plain_b2, Scr.den, cond_or]
    unfold dayP at hp
    rw [if_neg (by simp only [Bool.or_eq_true, decide_eq_true_eq]; omega)]) (fun i hi hp => by
    simp only [S_r19_Plain_b2, Scr.den, cond_or]
    unfold dayP at hp
    rw [if_pos (by simp only [Bool.or_eq_true, decide_eq_true_eq]; omega)])
  by_cases h6 : ∀ j, j < 6 → numP (([w.Number, w.Reservation, w.Commitment, w.Verification, w.Attempt, w.Payee] : List Int).getD j default)
  · rw [ra.1 h6]
    have h6' := all6.1 h6
    simp only [outM]
    by_cases h2 : ∀ j, j < 2 → dayP (([w.Day, w.Due] : List Int).getD j default)
    · rw [rb.1 h2]
      have h2' := all2.1 h2
      open Classical in simp only [r03_Good_eq (show w.Code.length < 4611686018427387904 by omega), optD_tot, obind, cond_and, and_self']
      refine congrArg some ?_
      rw [Bool.eq_iff_iff]
      simp only [Bool.and_eq_true, decide_eq_true_eq, ge_iff_le]
      exact ⟨fun ⟨⟨⟨⟨⟨a, b⟩, c⟩, d⟩, f⟩, g⟩ => ⟨h6', a, b, ⟨c, d⟩, ⟨f, g⟩, h2'⟩, fun ⟨_, a, b, c, d, f⟩ => ⟨⟨⟨⟨⟨a, b⟩, c.1⟩, c.2⟩, d.1⟩, d.2⟩⟩
    · rw [rb.2 h2]
      show some false = _
      rw [decide_eq_false fun h : WPl w => h2 (all2.2 h.2.2.2.2.2)]
  · rw [ra.2 h6]
    show some false = _
    rw [decide_eq_false fun h : WPl w => h6 (all6.2 h.1)]
theorem WPl.len {w : TApiWarrant} (h : WPl w) : w.Code.length ≤ 60 := by have := good_len h.2.2.1; omega
end Go.Proofs.YtclaojamgomjbaaGreatDoor
namespace Go.Proofs.YtclaojamgomjbaaGreatDoor
open Go Go.TA
theorem Itoa_eq {n : Int} (h0 : -9223372036854775808 ≤ n) (h1 : n ≤ 9223372036854775807) : F_strconv_Itoa n = some (Lib.itoa n) := guardP_pos ⟨h0, h1⟩
def restV19 (w : TApiWarrant) : List Int := [w.Year, w.Reservation, w.Commitment, w.Verification, w.Attempt, w.Amount, w.Payee, w.Day, w.Due]
def headV (w : TApiWarrant) : List (List UInt8) := [[119, 97, 114, 114, 97, 110, 116], Lib.itoa w.Number, Lib.itoa w.Office, w.Code]
def bytesV (w : TApiWarrant) : List UInt8 := Lib.join (headV w ++ (restV19 w).map Lib.itoa) [32]
def smI (n : Int) : Prop := -9223372036854775808 ≤ n ∧ n ≤ 9223372036854775807
theorem WPl.rest {w : TApiWarrant} (h : WPl w) : ∀ x ∈ restV19 w, smI x := by
  obtain ⟨⟨a, b, c, d, e, f⟩, g, _, i, j, k, l⟩ := h
  unfold numP at a b c d e f
  unfold dayP at k l
  intro x hx
  simp only [restV19, List.mem_cons, List.not_mem_nil, or_false] at hx
  unfold smI
  rcases hx with rfl | rfl | rfl | rfl | rfl | rfl | rfl | rfl | rfl <;> omega
theorem joinTail_len {B : Nat} {s : List UInt8} : ∀ {l : List (List UInt8)}, (∀ x ∈ l, x.length ≤ B) → (Lib.joinTail s l).length ≤ l.length * (s.length + B)
  | [], _ => by simp [Lib.joinTail]
  | x :: l, h => by
    have h1 := h x (by simp)
    have h2 := joinTail_len (s := s) (l := l) fun y hy => h y (by simp [hy])
    have e : Lib.joinTail s (x :: l) = (s ++ x) ++ Lib.joinTail s l := by simp [Lib.joinTail]
    rw [e, List.length_append, List.length_append, List.length_cons, Nat.succ_mul]
    omega
theorem bytesV_len {w : TApiWarrant} (h : WPl w) : (bytesV w).length ≤ 2000 := by
  have hn : smI w.Number ∧ smI w.Office := by
    obtain ⟨⟨a, _⟩, g, _⟩ := h
    unfold numP at a
    unfold smI
    omega
  have h1 : ∀ x, smI x → (Lib.itoa x).length ≤ 60 := fun x hx => by have := Lib.itoa_length_le x hx.1 hx.2; omega
  have hl := h.len
  show (Lib.join ([119, 97, 114, 114, 97, 110, 116] :: ([Lib.itoa w.Number, Lib.itoa w.Office, w.Code] ++ (restV19 w).map Lib.itoa)) [32]).length ≤ _
  rw [Lib.join_cons, List.length_append]
  have := joinTail_len (B := 60) (s := [32]) (l := [Lib.itoa w.Number, Lib.itoa w.Office, w.Code] ++ (restV19 w).map Lib.itoa) (fun x hx => by
    rcases List.mem_append.1 hx with hx | hx
    · simp only [List.mem_cons, List.not_mem_nil, or_false] at hx
      rcases hx with rfl | rfl | rfl
      · exact h1 _ hn.1
      · exact h1 _ hn.2
      · exact hl
    · obtain ⟨y, hy, rfl⟩ := List.mem_map.1 hx
      exact h1 _ (h.rest y hy))
  simp only [List.length_append, List.length_cons, List.length_nil, List.length_map, restV19] at this ⊢
  omega
theorem take_map_succ {α β : Type} [Inhabited α] {f : α → β} {l : List α} {i : Nat} (h : i < l.length) : (l.take (i + 1)).map f = (l.take i).map f ++ [f (l.getD i default)] := by
  rw [← List.take_append_getElem h, List.map_append, getD_el h]
  rfl
theorem Bytes_eq {w : TApiWarrant} (h : WPl w) : F_warrant_Bytes w = some (bytesV w) := by
  have hl := h.len
  have hn : smI w.Number ∧ smI w.Office := by
    obtain ⟨⟨a, _⟩, g, _⟩ := h
    unfold numP at a
    unfold smI
    omega
  have hb := bytesV_len h
  simp only [F_warrant_Bytes, S_warrant_Bytes, Scr.den, Plain_eq (show w.Code.length ≤ 1000000 by omega), obind, decide_eq_true h]
  rw [if_neg (by decide), Itoa_eq hn.1.1 hn.1.2]
  simp only [obind]
  rw [Itoa_eq hn.2.1 hn.2.2]
  simp only [obind]
  obtain ⟨s, e, h1⟩ := rangeM_inv (body := fun i s => (S_warrant_Bytes_b1 w i s).den) (n := 9) (fun i s => s = headV w ++ ((restV19 w).take i).map Lib.itoa) (s0 := headV w) (by simp) (fun i s hi hI => by
    subst hI
    have hr : smI ((restV19 w).getD i default) := h.rest _ (getD_mem (by simpa [restV19] using hi))
    simp only [S_warrant_Bytes_b1, Scr.den]
    rw [show ([w.Year, w.Reservation, w.Commitment, w.Verification, w.Attempt, w.Amount, w.Payee, w.Day, w.Due] : List Int) = restV19 w from rfl, Itoa_eq hr.1 hr.2]
    simp only [obind]
    rw [guardP_pos (by simp only [AllP, and_true, List.length_append, List.length_map, List.length_take, headV, restV19, List.length_cons, List.length_nil]; omega)]
    refine ⟨_, rfl, ?_⟩
    rw [take_map_succ (by simpa [restV19] using hi), List.append_assoc])
  subst h1
  rw [show ([[119, 97, 114, 114, 97, 110, 116], Lib.itoa w.Number, Lib.itoa w.Office, w.Code] : List (List UInt8)) = headV w from rfl, e]
  simp only [outM]
  have e9 : (restV19 w).take 9 = restV19 w := rfl
  rw [e9, guardP_pos (by simp only [AllP, and_true, List.length_append, List.length_map, headV, restV19, List.length_cons, List.length_nil]; omega), show F_strings_Join _ _ = some (bytesV w) from guardP_pos ⟨by simp [headV], by simp [headV, restV19], by show (bytesV w).length ≤ _; omega⟩]
  rfl
def hstep (h : Int) (c : UInt8) : Int := IntKind.u64.wrap ((IntKind.u64.wrap ((BitVec.ofInt IntKind.u64.bits h ^^^ BitVec.ofInt IntKind.u64.bits (IntKind.u64.wrap ((c.toNat : Int)))).toNat : Int)) * 1099511628211)
def hashV (l : List UInt8) : Int := l.foldl hstep 14695981039346656037
theorem Hash_eq {l : List UInt8} (hl : l.length < 9223372036854775808) : F_warrant_Hash l = some (hashV l) := by
  simp only [F_warrant_Hash, S_warrant_Hash, Scr.den]
  rw [guardP_pos (by simp only [AllP, and_true]; omega), rangeM_fold (ρ := R_warrant_Hash) (body := fun i s => (S_warrant_Hash_b1 l i s).den) l hstep (fun i s hi => rfl)]
  rfl
def kb (key : Int) (j : Nat) : Int := IntKind.u8.wrap (key.fdiv (2 ^ (min (IntKind.i64.wrap (56 - (IntKind.i64.wrap (8 * (j : Int))))).toNat IntKind.u64.bits)))
def keyB (key : Int) : List UInt8 := (List.range 8).map fun j => UInt8.ofNat (kb key j).toNat
def sigV (key : Int) (w : TApiWarrant) : Int := hashV (keyB key ++ bytesV w)
theorem signature_eq {w : TApiWarrant} (h : WPl w) (key : Int) : F_warrant_signature key w = some (sigV key w) := by
  have hb := bytesV_len h
  simp only [F_warrant_signature, S_warrant_signature, Scr.den]
  obtain ⟨s, e, h1⟩ := rangeM_inv (body := fun i s => (S_warrant_signature_b1 key i s).den) (n := 8) (fun i s => ∀ j, j < i → s j = kb key j) (s0 := fun _ => 0) (fun j hj => by omega) (fun i s hi hI => by
    simp only [S_warrant_signature_b1, Scr.den]
    rw [guardP_pos (by
      simp only [AllP, and_true]
      rw [wrapId (n := 8 * (i : Int)) (by omega) (by omega), wrapId (n := 56 - 8 * (i : Int)) (by omega) (by omega)]
      omega)]
    refine ⟨_, rfl, fun j hj => ?_⟩
    by_cases e : j = i
    · subst e; rw [if_pos rfl]; rfl
    · rw [if_neg e]; exact hI j (by omega))
  rw [e]
  simp only [outM, Bytes_eq h, obind]
  have e2 : ((List.range 8).map fun j => UInt8.ofNat (s j).toNat) = keyB key := List.map_congr_left fun j hj => by rw [h1 j (List.mem_range.1 hj)]
  rw [e2, Hash_eq (by simp only [List.length_append, keyB, List.length_map, List.length_range]; omega)]
  simp only [obind]
  rw [guardP_pos (by simp only [AllP, and_true, keyB, List.length_map, List.length_range]; omega)]
  rfl
def zW : TApiWarrant := ⟨0, 0, [], 0, 0, 0, 0, 0, 0, 0, 0, 0, 0, 0⟩
def with1 (w : TApiWarrant) (x : Int) : TApiWarrant := ⟨w.Number, w.Office, w.Code, w.Year, w.Verification, w.Attempt, w.Commitment, w.Reservation, w.Amount, w.Payee, w.Day, w.Due, x, w.Second⟩
def with2 (w : TApiWarrant) (x : Int) : TApiWarrant := ⟨w.Number, w.Office, w.Code, w.Year, w.Verification, w.Attempt, w.Commitment, w.Reservation, w.Amount, w.Payee, w.Day, w.Due, w.First, x⟩
def signV (keys : List Int) (w : TApiWarrant) (b : Bool) : TApiWarrant × Int :=
  if ¬ WPl w then (zW, 1) else
  if b = false ∧ 2 * (w.Office - 1) < (keys.length : Int) then (with1 w (sigV (keys.getD (2 * (w.Office - 1)).toNat default) w), 0) else
  if (keys.length : Int) ≤ 2 * (w.Office - 1) + 1 then (zW, 6) else
  if w.First ≠ sigV (keys.getD (2 * (w.Office - 1)).toNat default) w then (zW, 18) else
  (with2 w (sigV (keys.getD (2 * (w.Office - 1) + 1).toNat default) w), 0)
theorem Sign_eq {w : TApiWarrant} (hc : w.Code.length ≤ 1000000) (keys : List Int) (b : Bool) : F_warrant_Sign keys w b = some (signV keys w b) := by
  simp only [F_warrant_Sign, S_warrant_Sign, Scr.den, Plain_eq hc, obind, cond_and]
  unfold signV
  by_cases h : WPl w
  · have ho := h.2.1
    rw [decide_eq_true h, if_neg (by decide), if_neg (show ¬ ¬ WPl w from fun k => k h), wrapId (n := w.Office - 1) (by omega) (by omega), wrapId (n := 2 * (w.Office - 1)) (by omega) (by omega), wrapId (n := 2 * (w.Office - 1) + 1) (by omega) (by omega)]
    simp only [signature_eq h, obind]
    by_cases c1 : b = false ∧ 2 * (w.Office - 1) < (keys.length : Int)
    · rw [if_pos (by simp only [Bool.and_eq_true, Bool.not_eq_true', decide_eq_true_eq]; exact c1), if_pos c1, guardP_pos (by simp only [AllP, and_true]; omega)]
      rfl
    · rw [if_neg (by simp only [Bool.and_eq_true, Bool.not_eq_true', decide_eq_true_eq]; exact c1), if_neg c1]
      by_cases c2 : (keys.length : Int) ≤ 2 * (w.Office - 1) + 1
      · rw [if_pos (by simp only [decide_eq_true_eq, ge_iff_le]; exact c2), if_pos c2]
        rfl
      · rw [if_neg (by simp only [decide_eq_true_eq, ge_iff_le]; exact c2), if_neg c2, guardP_pos (by simp only [AllP, and_true]; omega)]
        by_cases c3 : w.First = sigV (keys.getD (2 * (w.Office - 1)).toNat default) w
        · rw [if_neg (show ¬ (w.First != sigV (keys.getD (2 * (w.Office - 1)).toNat default) w) = true by rw [← c3]; simp), if_neg (show ¬ w.First ≠ _ from fun k => k c3), guardP_pos (by simp only [AllP, and_true]; omega)]
          rfl
        · rw [if_pos (by simpa using c3), if_pos c3]
          rfl
  · rw [decide_eq_false h, if_pos (by decide), if_pos h]
    rfl
def checkV (keys : List Int) (w : TApiWarrant) : Int := if (signV keys w true).2 = 0 ∧ (signV keys w true).1.Second ≠ w.Second then 18 else (signV keys w true).2
theorem Check_eq {w : TApiWarrant} (hc : w.Code.length ≤ 1000000) (keys : List Int) : F_warrant_Check keys w = some (checkV keys w) := by
  simp only [F_warrant_Check, S_warrant_Check, Scr.den, Sign_eq hc, obind, cond_and]
  unfold checkV
  by_cases h : (signV keys w true).2 = 0 ∧ (signV keys w true).1.Second ≠ w.Second
  · rw [if_pos (by simpa using h), if_pos h]
  · rw [if_neg (by simpa using h), if_neg h]
end Go.Proofs.YtclaojamgomjbaaGreatDoor
namespace Go.Proofs.YtclaojamgomjbaaGreatDoor
open Go Go.TA
def SrtW (l : List TApiWarrant) : Prop := l.Pairwise fun x y => x.Number < y.Number
theorem SrtW.lt {l : List TApiWarrant} (h : SrtW l) {i j : Nat} (hij : i < j) (hj : j < l.length) : (l.getD i default).Number < (l.getD j default).Number := by
  have := List.pairwise_iff_getElem.1 h i j (by omega) hj hij
  rw [getD_el (show i < l.length by omega), getD_el hj]
  exact this
def posW (l : List TApiWarrant) (n : Int) : Nat := l.findIdx fun x => decide (n ≤ x.Number)
theorem posW_le (l : List TApiWarrant) (n : Int) : posW l n ≤ l.length := List.findIdx_le_length
theorem posW_lt {l : List TApiWarrant} {n : Int} {i : Nat} (hi : i < posW l n) : (l.getD i default).Number < n := by
  have hl : i < l.length := Nat.lt_of_lt_of_le hi (posW_le l n)
  have := List.not_of_lt_findIdx hi
  rw [getD_el hl]
  simpa using this
theorem posW_ge {l : List TApiWarrant} {n : Int} (hS : SrtW l) {i : Nat} (hi : i < l.length) (hp : posW l n ≤ i) : n ≤ (l.getD i default).Number := by
  have hlt : posW l n < l.length := by omega
  have h0 : n ≤ (l.getD (posW l n) default).Number := by
    have := List.findIdx_getElem (xs := l) (p := fun x : TApiWarrant => decide (n ≤ x.Number)) (w := hlt)
    rw [getD_el hlt]
    exact of_decide_eq_true this
  by_cases e : posW l n = i
  · rwa [e] at h0
  · have := hS.lt (show posW l n < i by omega) hi
    omega
theorem wcompare_eq (x y : TApiWarrant) : F_warrant_compare x y = some (cmpI x.Number y.Number) := by
  simp only [F_warrant_compare, S_warrant_compare, Scr.den, cmpI_eq, obind]
theorem cmpI_neg {a b : Int} : cmpI a b < 0 ↔ a < b := by
  unfold cmpI
  split
  · omega
  · split <;> omega
theorem cmpI_zero {a b : Int} : cmpI a b = 0 ↔ a = b := by
  unfold cmpI
  split
  · omega
  · split <;> omega
def hasN (l : List TApiWarrant) (n : Int) : Bool := l.any fun x => x.Number == n
theorem hasN_pos {l : List TApiWarrant} (hS : SrtW l) (n : Int) : (decide (posW l n < l.length) && ((l.getD (posW l n) default).Number == n)) = hasN l n := by
  have hp := posW_le l n
  unfold hasN
  rw [Bool.eq_iff_iff]
  simp only [Bool.and_eq_true, decide_eq_true_eq, beq_iff_eq, List.any_eq_true]
  constructor
  · rintro ⟨h1, h2⟩
    exact ⟨_, getD_mem h1, h2⟩
  · rintro ⟨x, hx, rfl⟩
    obtain ⟨j, hj, rfl⟩ := mem_getD hx
    have h1 : ¬ j < posW l (l.getD j default).Number := fun h => by have := posW_lt h; omega
    have h2 : posW l (l.getD j default).Number < l.length := by omega
    refine ⟨h2, ?_⟩
    have h3 := posW_ge hS h2 (Nat.le_refl _)
    rcases Nat.lt_or_ge (posW l (l.getD j default).Number) j with h | h
    · have := hS.lt h hj; omega
    · have : posW l (l.getD j default).Number = j := by omega
      rw [this]
theorem wsearch_eq {l : List TApiWarrant} {w : TApiWarrant} (hl : l.length ≤ 1000000) (hS : SrtW l) :
    F_slices_BSF_Warrant_warrant_compare l w = some ((posW l w.Number : Int), hasN l w.Number) := by
  have hp := posW_le l w.Number
  simp only [F_slices_BSF_Warrant_warrant_compare, S_slices_BSF_Warrant_warrant_compare, Scr.den]
  obtain ⟨s, e, hJ⟩ := iterM_inv (step := fun s => (S_slices_BSF_Warrant_warrant_compare_b1 l w s).den) (fun s => (s.2 - s.1).toNat) (fun s => ∃ i j : Nat, s = ((i : Int), (j : Int)) ∧ i ≤ posW l w.Number ∧ posW l w.Number ≤ j ∧ j ≤ l.length) (fun s => s.1 = posW l w.Number) (fun s hI => by
    obtain ⟨i, j, rfl, h1, h2, h3⟩ := hI
    simp only [S_slices_BSF_Warrant_warrant_compare_b1, Scr.den, half_eq (show i + j < 4611686018427387904 by omega), wcompare_eq, obind, Int.toNat_natCast]
    by_cases hij : i < j
    · left
      rw [if_pos (by simpa using hij), guardP_pos ⟨by omega, by omega, trivial⟩]
      by_cases hlt : (l.getD ((i + j) / 2) default).Number < w.Number
      · rw [if_pos (by simpa using cmpI_neg.2 hlt), wrapId (by omega) (by omega)]
        have : (i + j) / 2 < posW l w.Number := by
          by_cases h : (i + j) / 2 < posW l w.Number
          · exact h
          · have := posW_ge hS (n := w.Number) (show (i + j) / 2 < l.length by omega) (by omega)
            omega
        exact ⟨_, rfl, ⟨(i + j) / 2 + 1, j, by simp, by omega, h2, h3⟩, by simp only; omega⟩
      · rw [if_neg (by simpa using fun h => hlt (cmpI_neg.1 h))]
        have : posW l w.Number ≤ (i + j) / 2 := by
          by_cases h : posW l w.Number ≤ (i + j) / 2
          · exact h
          · have := posW_lt (show (i + j) / 2 < posW l w.Number by omega)
            omega
        exact ⟨_, rfl, ⟨i, (i + j) / 2, rfl, h1, this, by omega⟩, by simp only; omega⟩
    · right
      rw [if_neg (by simpa using hij)]
      exact ⟨_, rfl, by simp only; omega⟩) _ (0, (l.length : Int)) (Nat.lt_succ_self _) ⟨0, l.length, rfl, by omega, hp, by omega⟩
  rw [e]
  simp only [outM, hJ, Int.toNat_natCast, wcompare_eq, cond_and]
  rw [← hasN_pos hS]
  by_cases h : posW l w.Number < l.length
  · rw [optD_pos (by exact ⟨by simp; omega, trivial⟩), obind, guardP_pos ⟨fun _ => by omega, fun _ => h, trivial⟩]
    refine congrArg some (Prod.ext rfl ?_)
    rw [Bool.eq_iff_iff]
    simp [h, cmpI_zero]
  · rw [optD_none (by simp [AllP]; omega), obind, guardP_pos ⟨fun _ => by omega, fun h' => absurd h (by simp [AllP] at h'; omega), trivial⟩]
    simp [h]
theorem wclone_eq {l : List TApiWarrant} (hl : l.length ≤ 1000000) : F_slices_Clone_Warrant_rw l = some l := by
  simp only [F_slices_Clone_Warrant_rw, S_slices_Clone_Warrant_rw, Scr.den]
  rw [guardP_pos ⟨by omega, trivial⟩]
def sameB (x w : TApiWarrant) : Bool := (x.Office == w.Office && x.Verification == w.Verification) && x.Attempt == w.Attempt
theorem Same_eq19 (x w : TApiWarrant) : F_warrant_Same x w = some (sameB x w) := by
  simp only [F_warrant_Same, S_warrant_Same, Scr.den, cond_and]
  rfl
theorem wcontains_eq (l : List TApiWarrant) (w : TApiWarrant) : F_slices_CoF_Warrant_warrant_Add_1 l w = some (l.any fun x => sameB x w) := by
  have h : F_slices_IndexFunc_Warrant_warrant_Add_1 l w = some (if (l.any fun x => sameB x w) = true then ((l.findIdx fun x => sameB x w : Nat) : Int) else -1) := by
    simp only [F_slices_IndexFunc_Warrant_warrant_Add_1, S_slices_IndexFunc_Warrant_warrant_Add_1, Scr.den]
    rw [idx_loop l (fun x => sameB x w) (fun i => (i : Int)) (fun i hi => by
      simp only [S_slices_IndexFunc_Warrant_warrant_Add_1_b1, F_warrant_Add_1, S_warrant_Add_1, Scr.den, Same_eq19, obind]
      split <;> rfl)]
    cases (l.any fun x => sameB x w) <;> rfl
  simp only [F_slices_CoF_Warrant_warrant_Add_1, S_slices_CoF_Warrant_warrant_Add_1, Scr.den, h, obind]
  congr 1
  cases (l.any fun x => sameB x w) with
  | true => simp
  | false => rfl
def addV (l : List TApiWarrant) (w : TApiWarrant) : List TApiWarrant × Int :=
  if ¬ WPl w then ([], 1) else if hasN l w.Number = true then ([], 7) else if (l.any fun x => sameB x w) = true then ([], 20) else if 200 ≤ l.length then ([], 3) else (insL l (posW l w.Number) w, 0)
theorem Add_eq19 {l : List TApiWarrant} {w : TApiWarrant} (hl : l.length ≤ 1000) (hS : SrtW l) (hc : w.Code.length ≤ 1000000) : F_warrant_Add l w = some (addV l w) := by
  simp only [F_warrant_Add, S_warrant_Add, Scr.den, Plain_eq hc, obind]
  unfold addV
  by_cases h : WPl w
  · rw [decide_eq_true h, if_neg (by decide), if_neg (show ¬ ¬ WPl w from fun k => k h)]
    obtain ⟨s, e, _⟩ := iterM_inv (step := fun s => (S_warrant_Add_b1 l s).den) (fun s => ((l.length : Int) - s).toNat) (fun s => ∃ i : Nat, s = (i : Int) ∧ 1 ≤ i) (fun _ => True) (fun s hI => by
      obtain ⟨i, rfl, h1⟩ := hI
      simp only [S_warrant_Add_b1, Scr.den, wcompare_eq, obind, Int.toNat_natCast]
      by_cases hi : i < l.length
      · left
        have e1 : IntKind.i64.wrap ((i : Int) - 1) = ((i - 1 : Nat) : Int) := by rw [wrapId (by omega) (by omega)]; omega
        have hlt := hS.lt (show i - 1 < i by omega) hi
        rw [if_pos (by simpa using hi), e1, Int.toNat_natCast, guardP_pos ⟨by omega, by omega, by omega, hi, trivial⟩, if_neg (fun hh => absurd (cmpI_neg.2 hlt) (Int.not_lt.2 (of_decide_eq_true hh))), wrapId (n := (i : Int) + 1) (by omega) (by omega)]
        exact ⟨_, rfl, ⟨i + 1, rfl, by omega⟩, by show ((l.length : Int) - ((i : Int) + 1)).toNat < ((l.length : Int) - i).toNat; omega⟩
      · right
        rw [if_neg (by simpa using hi)]
        exact ⟨_, rfl, trivial⟩) _ 1 (Nat.lt_succ_self _) ⟨1, rfl, Nat.le_refl _⟩
    rw [e]
    simp only [outM]
    rw [wsearch_eq (by omega) hS]
    simp only [obind, wcontains_eq, wclone_eq (show l.length ≤ 1000000 by omega)]
    by_cases c1 : hasN l w.Number = true
    · rw [if_pos c1, if_pos c1]
    · rw [if_neg c1, if_neg c1]
      by_cases c2 : (l.any fun x => sameB x w) = true
      · rw [if_pos c2, if_pos c2]
      · rw [if_neg c2, if_neg c2]
        by_cases c3 : 200 ≤ l.length
        · rw [if_pos (by simp; omega), if_pos c3]
        · rw [if_neg (by simp; omega), if_neg c3]
          simp only [F_slices_Insert_Warrant, Int.toNat_natCast]
          rw [guardP_pos ⟨by omega, posW_le _ _, by omega⟩]
          simp only [obind]
          rw [guardP_pos (by simp only [AllP, and_true, insL_length]; omega)]
  · rw [decide_eq_false h, if_pos (by decide), if_pos h]
theorem insL_srt {l : List TApiWarrant} {w : TApiWarrant} (hS : SrtW l) (hn : ¬ hasN l w.Number = true) : SrtW (insL l (posW l w.Number) w) := by
  have hp := posW_le l w.Number
  have h1 : ∀ x ∈ l.take (posW l w.Number), x.Number < w.Number := fun x hx => by
    obtain ⟨i, hi, rfl⟩ := List.mem_take_iff_getElem.1 hx
    have := posW_lt (l := l) (n := w.Number) (i := i) (by omega)
    rwa [getD_el (by omega)] at this
  have h2 : ∀ x ∈ l.drop (posW l w.Number), w.Number < x.Number := fun x hx => by
    obtain ⟨i, hi, rfl⟩ := List.mem_drop_iff_getElem.1 hx
    have := posW_ge hS (n := w.Number) (i := posW l w.Number + i) (by omega) (by omega)
    rw [getD_el (by omega)] at this
    have hne : l[posW l w.Number + i].Number ≠ w.Number := fun e => hn (List.any_eq_true.2 ⟨_, List.getElem_mem (by omega), beq_iff_eq.2 e⟩)
    omega
  unfold insL SrtW
  refine List.pairwise_append.2 ⟨hS.sublist (List.take_sublist _ _), List.pairwise_cons.2 ⟨h2, hS.sublist (List.drop_sublist _ _)⟩, fun a ha b hb => ?_⟩
  rcases List.mem_cons.1 hb with rfl | hb
  · exact h1 a ha
  · have := h1 a ha; have := h2 b hb; omega
theorem insL_mem {l : List TApiWarrant} {p : Nat} {w x : TApiWarrant} : x ∈ insL l p w ↔ x = w ∨ x ∈ l := by
  unfold insL
  rw [List.mem_append, List.mem_cons]
  conv => rhs; rw [← List.take_append_drop p l, List.mem_append]
  constructor
  · rintro (h | h | h)
    · exact .inr (.inl h)
    · exact .inl h
    · exact .inr (.inr h)
  · rintro (h | h | h)
    · exact .inr (.inl h)
    · exact .inl h
    · exact .inr (.inr h)
end Go.Proofs.YtclaojamgomjbaaGreatDoor
namespace Go.Proofs.YtclaojamgomjbaaGreatDoor
open Go Go.TA
def mkW (o : TApiOffice) (x : TApiOrder) (n : Int) : TApiWarrant :=
  ⟨n, o.Number, (rAt o.Book (cAt o.Book (vAt o.Book x.Verification).Commitment).Reservation).Code, (rAt o.Book (cAt o.Book (vAt o.Book x.Verification).Commitment).Reservation).Year, (vAt o.Book x.Verification).Number, x.Attempt, (cAt o.Book (vAt o.Book x.Verification).Commitment).Number,
    (rAt o.Book (cAt o.Book (vAt o.Book x.Verification).Commitment).Reservation).Number, (vAt o.Book x.Verification).Amount, (cAt o.Book (vAt o.Book x.Verification).Commitment).Payee, x.Day, (cAt o.Book (vAt o.Book x.Verification).Commitment).Due, 0, 0⟩
theorem ordF {o : TApiOffice} (hv : VO o) {i : Nat} (hi : i < o.Book.Orders.length) : OFld o.Book (o.Book.Orders.getD i default) (o.Book.Orders.take i) (i + 1) := hv.val.2.2.2.2.2.1 i hi
theorem mkW_plain {o : TApiOffice} (hv : VO o) {i : Nat} (hi : i < o.Book.Orders.length) {n : Int} (hn : numP n) : WPl (mkW o (o.Book.Orders.getD i default) n) := by
  have ho := ordF hv hi
  obtain ⟨hR, hC, _, hV, _, _, l1, l2, l3, l4⟩ := hv.val
  generalize o.Book.Orders.getD i default = x at ho
  obtain ⟨_, o2, o3, _, _, o6, _⟩ := ho
  obtain ⟨v1, v2, v3, v4, _⟩ := hV.at o2
  obtain ⟨c1, c2, c3, c4, c5, c6, c7, _⟩ := hC.at v2
  obtain ⟨r1, r2, r3, r4, _⟩ := hR.at c2
  have hlen : (ordersOf (o.Book.Orders.take i) x.Verification).length ≤ 200 := by
    have h1 : (ordersOf (o.Book.Orders.take i) x.Verification).length ≤ (o.Book.Orders.take i).length := List.length_filter_le _ _
    rw [List.length_take] at h1
    omega
  unfold amtP at v4
  refine ⟨⟨hn, ?_, ?_, ?_, ?_, c6⟩, ?_, r2, r3, v4, o3, c7⟩
  · show numP _; rw [show (mkW o x n).Reservation = _ from r1]; unfold numP; omega
  · show numP _; rw [show (mkW o x n).Commitment = _ from c1]; unfold numP; omega
  · show numP _; rw [show (mkW o x n).Verification = _ from v1]; unfold numP; omega
  · show numP x.Attempt; rw [o6]; unfold numP; omega
  · exact hv.1
end Go.Proofs.YtclaojamgomjbaaGreatDoor
namespace Go.Proofs.YtclaojamgomjbaaGreatDoor
open Go Go.TA
def o19 : TApiOffice := ⟨1, [⟨[49], 12, 50, 0, 0⟩], ⟨[⟨1, [49], 12, 4320, 50, 0⟩], [⟨1, 1, 4320, 30, 0, 2, 4400⟩], [⟨1, 1, 4330, 30⟩], [⟨1, 1, 1, 4340, false⟩]⟩⟩
theorem good19 : good [49] = true := by kernel_rfl
theorem o19_val : Val o19.Book := by
  have hR : RAll o19.Book := fun i hi => by
    obtain rfl : i = 0 := by simpa [o19] using hi
    exact ⟨rfl, good19, by decide +kernel, by decide +kernel, by kernel_rfl, by decide +kernel, by decide +kernel⟩
  have hC : CAll o19.Book := fun i hi => by
    obtain rfl : i = 0 := by simpa [o19] using hi
    exact ⟨rfl, by decide +kernel, by decide +kernel, by decide +kernel, by decide +kernel, by decide +kernel, by decide +kernel, by decide +kernel, by kernel_rfl⟩
  refine ⟨hR, hC, fun r hr => ?_, fun i hi => ?_, fun c hc => ?_, fun i hi => ?_, by decide +kernel, by decide +kernel, by decide +kernel, by decide +kernel⟩
  · obtain rfl : r = ⟨1, [49], 12, 4320, 50, 0⟩ := by simpa [o19] using hr
    decide +kernel
  · obtain rfl : i = 0 := by simpa [o19] using hi
    exact ⟨rfl, by decide +kernel, by decide +kernel, by decide +kernel, by decide +kernel, by decide +kernel⟩
  · obtain rfl : c = ⟨1, 1, 4320, 30, 0, 2, 4400⟩ := by simpa [o19] using hc
    decide +kernel
  · obtain rfl : i = 0 := by simpa [o19] using hi
    exact ⟨rfl, by decide +kernel, by decide +kernel, by decide +kernel, by decide +kernel, by kernel_rfl, by kernel_rfl⟩
theorem o19_vo : VO o19 := by
  refine ⟨by decide +kernel, by decide +kernel, o19_val, fun r hr => ?_, fun i hi => ?_, fun x hx => ?_⟩
  · obtain rfl : r = ⟨[49], 12, 50, 0, 0⟩ := by simpa [o19] using hr
    exact ⟨good19, by decide +kernel, by decide +kernel, by decide +kernel, by decide +kernel⟩
  · obtain rfl : i = 0 := by simpa [o19] using hi
    exact .inl rfl
  · obtain rfl : x = ⟨1, [49], 12, 4320, 50, 0⟩ := by simpa [o19] using hx
    exact ⟨by kernel_rfl, by decide +kernel⟩
def w19 : TApiWarrant := ⟨7, 1, [49], 12, 1, 1, 1, 1, 30, 2, 4340, 4400, 0, 0⟩
theorem w19_plain : WPl w19 := of_decide_eq_true (by kernel_rfl)
theorem first_with1 (w : TApiWarrant) (x : Int) : (with1 w x).First = x := rfl
theorem first_with2 (w : TApiWarrant) (x : Int) : (with2 w x).First = w.First := rfl
theorem with2_with2 (w : TApiWarrant) (x y : Int) : with2 (with2 w x) y = with2 w y := rfl
theorem sig_with1 (k : Int) (w : TApiWarrant) (x : Int) : sigV k (with1 w x) = sigV k w := by
  unfold sigV
  rw [show bytesV (with1 w x) = bytesV w from rfl]
theorem sig_with2 (k : Int) (w : TApiWarrant) (x : Int) : sigV k (with2 w x) = sigV k w := by
  unfold sigV
  rw [show bytesV (with2 w x) = bytesV w from rfl]
end Go.Proofs.YtclaojamgomjbaaGreatDoor
namespace Go.Proofs.YtclaojamgomjbaaGreatDoor
open Go Go.TA
theorem joinTail_app {s : List UInt8} {a b : List (List UInt8)} : Lib.joinTail s (a ++ b) = Lib.joinTail s a ++ Lib.joinTail s b := by simp [Lib.joinTail]
theorem joinTail_one {s x : List UInt8} : Lib.joinTail s [x] = s ++ x := by simp [Lib.joinTail]
theorem r19_Bytes_eq {w : TApiWarrant} (h : WPl w) : F_r19_Bytes w = some (bytesV w) := by
  have hl := h.len
  have hn : smI w.Number ∧ smI w.Office := by
    obtain ⟨⟨a, _⟩, g, _⟩ := h
    unfold numP at a
    unfold smI
    omega
  have i1 := Lib.itoa_length_le w.Number hn.1.1 hn.1.2
  have i2 := Lib.itoa_length_le w.Office hn.2.1 hn.2.2
  simp only [F_r19_Bytes, S_r19_Bytes, Scr.den, r19_Plain_eq (show w.Code.length ≤ 1000000 by omega), obind, decide_eq_true h]
  rw [if_neg (by decide), Itoa_eq hn.1.1 hn.1.2]
  simp only [obind]
  rw [Itoa_eq hn.2.1 hn.2.2]
  simp only [obind]
  rw [guardP_pos (by simp only [AllP, and_true, List.length_append, List.length_cons, List.length_nil]; omega)]
  have e0 : (((((([119, 97, 114, 114, 97, 110, 116, 32] : List UInt8) ++ Lib.itoa w.Number) ++ [32]) ++ Lib.itoa w.Office) ++ [32]) ++ w.Code) = [119, 97, 114, 114, 97, 110, 116] ++ Lib.joinTail [32] [Lib.itoa w.Number, Lib.itoa w.Office, w.Code] := by simp [Lib.joinTail]
  obtain ⟨s, e, h1, h2⟩ := rangeM_inv (body := fun i s => (S_r19_Bytes_b1 w i s).den) (n := 9) (fun i s => s.length ≤ 1000 + 100 * i ∧ s = [119, 97, 114, 114, 97, 110, 116] ++ Lib.joinTail [32] ([Lib.itoa w.Number, Lib.itoa w.Office, w.Code] ++ ((restV19 w).take i).map Lib.itoa)) (s0 := (((((([119, 97, 114, 114, 97, 110, 116, 32] : List UInt8) ++ Lib.itoa w.Number) ++ [32]) ++ Lib.itoa w.Office) ++ [32]) ++ w.Code)) (⟨by simp only [List.length_append, List.length_cons, List.length_nil]; omega, by rw [e0]; rfl⟩) (fun i s hi hI => by
    have hr : smI ((restV19 w).getD i default) := h.rest _ (getD_mem (by simpa [restV19] using hi))
    have hlen := Lib.itoa_length_le _ hr.1 hr.2
    simp only [S_r19_Bytes_b1, Scr.den]
    rw [show ([w.Year, w.Reservation, w.Commitment, w.Verification, w.Attempt, w.Amount, w.Payee, w.Day, w.Due] : List Int) = restV19 w from rfl, Itoa_eq hr.1 hr.2]
    simp only [obind]
    rw [guardP_pos (by simp only [AllP, and_true, List.length_append, List.length_cons, List.length_nil]; omega)]
    refine ⟨_, rfl, by simp only [List.length_append, List.length_cons, List.length_nil]; omega, ?_⟩
    rw [take_map_succ (by simpa [restV19] using hi), hI.2, ← List.append_assoc [Lib.itoa w.Number, Lib.itoa w.Office, w.Code], joinTail_app (b := [_]), joinTail_one, List.append_assoc])
  rw [e]
  have e9 : (restV19 w).take 9 = restV19 w := rfl
  rw [e9] at h2
  rw [h2]
  show some _ = some (Lib.join ([119, 97, 114, 114, 97, 110, 116] :: ([Lib.itoa w.Number, Lib.itoa w.Office, w.Code] ++ (restV19 w).map Lib.itoa)) [32])
  rw [Lib.join_cons]
theorem take_fold {α β : Type} [Inhabited α] {f : β → α → β} {b : β} {l : List α} {i : Nat} (h : i < l.length) : (l.take (i + 1)).foldl f b = f ((l.take i).foldl f b) (l.getD i default) := by
  rw [← List.take_append_getElem h, List.foldl_append, getD_el h]
  rfl
theorem r19_Hash_eq {l : List UInt8} (hl : l.length ≤ 1000000) : F_r19_Hash l = some (hashV l) := by
  simp only [F_r19_Hash, S_r19_Hash, Scr.den]
  obtain ⟨s, e, h1⟩ := iterM_inv (step := fun s => (S_r19_Hash_b1 l s).den) (fun s : Int × Int => ((l.length : Int) - s.2).toNat) (fun s => ∃ i : Nat, s.2 = (i : Int) ∧ i ≤ l.length ∧ s.1 = (l.take i).foldl hstep 14695981039346656037) (fun s => s.1 = hashV l) (fun s hI => by
    obtain ⟨x, y⟩ := s
    obtain ⟨i, hi0, hil, hx⟩ := hI
    simp only at hi0 hx
    subst hi0
    simp only [S_r19_Hash_b1, Scr.den, Int.toNat_natCast]
    by_cases hi : i < l.length
    · left
      rw [if_pos (by simpa using hi), guardP_pos ⟨by omega, hi, trivial⟩, wrapId (n := (i : Int) + 1) (by omega) (by omega)]
      refine ⟨_, rfl, ⟨i + 1, rfl, by omega, ?_⟩, by show ((l.length : Int) - ((i : Int) + 1)).toNat < ((l.length : Int) - i).toNat; omega⟩
      rw [take_fold hi, ← hx]
      rfl
    · right
      rw [if_neg (by simpa using hi)]
      refine ⟨_, rfl, ?_⟩
      show x = hashV l
      rw [hx, List.take_of_length_le (by omega)]
      rfl) _ (14695981039346656037, 0) (Nat.lt_succ_self _) ⟨0, rfl, by omega, rfl⟩
  rw [e]
  simp only [outM]
  rw [h1]
theorem r19_signature_eq {w : TApiWarrant} (h : WPl w) (key : Int) : F_r19_signature key w = some (sigV key w) := by
  have hb := bytesV_len h
  simp only [F_r19_signature, S_r19_signature, Scr.den]
  obtain ⟨s, e, h1, h2⟩ := iterM_inv (step := fun s => (S_r19_signature_b1 key s).den) (fun s : List Int × Int => (s.2 + 8).toNat) (fun s => (s.1.length : Int) * 8 + s.2 = 56 ∧ -8 ≤ s.2 ∧ ∀ j, j < s.1.length → s.1.getD j default = kb key j) (fun s => s.1.length = 8 ∧ ∀ j, j < 8 → s.1.getD j default = kb key j) (fun s hI => by
    obtain ⟨l, y⟩ := s
    obtain ⟨k1, k2, k3⟩ := hI
    simp only at k1 k2 k3
    simp only [S_r19_signature_b1, Scr.den]
    by_cases hy : 0 ≤ y
    · left
      rw [if_pos (by simpa using hy), guardP_pos ⟨hy, by omega, trivial⟩, wrapId (n := y - 8) (by omega) (by omega)]
      refine ⟨_, rfl, ⟨by simp only [List.length_append, List.length_cons, List.length_nil]; omega, by show -8 ≤ y - 8; omega, fun j hj => ?_⟩, by show (y - 8 + 8).toNat < (y + 8).toNat; omega⟩
      simp only [List.length_append, List.length_cons, List.length_nil] at hj
      by_cases c : j < l.length
      · rw [← k3 j c]
        simp [List.getD, List.getElem?_append_left c]
      · obtain rfl : j = l.length := by omega
        unfold kb
        rw [wrapId (n := 8 * (l.length : Int)) (by omega) (by omega), show 56 - 8 * (l.length : Int) = y by omega, wrapId (n := y) (by omega) (by omega)]
        simp [List.getD]
    · right
      rw [if_neg (by simpa using hy)]
      have hl8 : l.length = 8 := by omega
      exact ⟨_, rfl, hl8, fun j hj => k3 j (by omega)⟩) _ (([] : List Int), 56) (Nat.lt_succ_self _) ⟨by simp, by simp, fun j hj => absurd hj (by simp)⟩
  rw [e]
  simp only [outM]
  rw [guardP_pos ⟨by omega, trivial⟩, r19_Bytes_eq h]
  simp only [obind]
  have e2 : ((List.range s.1.length).map fun j => UInt8.ofNat ((s.1.getD j default)).toNat) = keyB key := by
    rw [h1]
    exact List.map_congr_left fun j hj => by rw [h2 j (List.mem_range.1 hj)]
  rw [e2, r19_Hash_eq (by simp only [List.length_append, keyB, List.length_map, List.length_range]; omega)]
  simp only [obind]
  rw [guardP_pos ⟨by simp only [keyB, List.length_map, List.length_range]; omega, trivial⟩]
  rfl
theorem r19_Sign_eq {w : TApiWarrant} (hc : w.Code.length ≤ 1000000) (keys : List Int) (b : Bool) : F_r19_Sign keys w b = some (signV keys w b) := by
  simp only [F_r19_Sign, S_r19_Sign, Scr.den, r19_Plain_eq hc, obind]
  unfold signV
  by_cases h : WPl w
  · have ho := h.2.1
    rw [decide_eq_true h, if_neg (by decide), if_neg (show ¬ ¬ WPl w from fun k => k h), wrapId (n := w.Office - 1) (by omega) (by omega), wrapId (n := 2 * (w.Office - 1)) (by omega) (by omega), wrapId (n := 2 * (w.Office - 1) + 1) (by omega) (by omega)]
    cases b with
    | true =>
      rw [if_pos rfl, if_neg (show ¬ (true = false ∧ _) from fun k => by cases k.1)]
      simp only [outM]
      by_cases c2 : (keys.length : Int) ≤ 2 * (w.Office - 1) + 1
      · rw [if_pos (by simpa using c2), if_pos c2]
        rfl
      · rw [if_neg (by simpa using c2), if_neg c2, if_neg (by decide), wrapId (n := 2 * (w.Office - 1) + 1 - 1) (by omega) (by omega), show 2 * (w.Office - 1) + 1 - 1 = 2 * (w.Office - 1) by omega, r19_signature_eq h]
        simp only [obind]
        rw [guardP_pos ⟨by omega, by omega, trivial⟩]
        by_cases c3 : w.First = sigV (keys.getD (2 * (w.Office - 1)).toNat default) w
        · rw [if_neg (show ¬ (sigV (keys.getD (2 * (w.Office - 1)).toNat default) w != w.First) = true by rw [← c3]; simp), if_neg (show ¬ w.First ≠ _ from fun k => k c3), r19_signature_eq h]
          simp only [obind]
          rw [guardP_pos ⟨by omega, by omega, trivial⟩]
          rfl
        · rw [if_pos (by simpa using fun k => c3 k.symm), if_pos c3]
          rfl
    | false =>
      rw [if_neg (by decide)]
      simp only [outM]
      by_cases c2 : (keys.length : Int) ≤ 2 * (w.Office - 1)
      · rw [if_pos (by simpa using c2), if_neg (by omega), if_pos (by omega)]
        rfl
      · rw [if_neg (by simpa using c2), if_pos (by decide), if_pos (show True ∧ 2 * (w.Office - 1) < (keys.length : Int) from ⟨trivial, by omega⟩), r19_signature_eq h]
        simp only [obind]
        rw [guardP_pos ⟨by omega, by omega, trivial⟩]
        rfl
  · rw [decide_eq_false h, if_pos (by decide), if_pos h]
    rfl
def sg1 (keys : List Int) (w : TApiWarrant) : Int := sigV (keys.getD (2 * (w.Office - 1)).toNat default) w
def sg2 (keys : List Int) (w : TApiWarrant) : Int := sigV (keys.getD (2 * (w.Office - 1) + 1).toNat default) w
def signed (keys : List Int) (w : TApiWarrant) : TApiWarrant := with2 (with1 w (sg1 keys w)) (sg2 keys w)
theorem with1_plain {w : TApiWarrant} (h : WPl w) (x : Int) : WPl (with1 w x) := h
theorem with2_plain {w : TApiWarrant} (h : WPl w) (x : Int) : WPl (with2 w x) := h
theorem sign1 {keys : List Int} {w : TApiWarrant} (h : WPl w) (hk : 2 * (w.Office - 1) + 1 < (keys.length : Int)) : signV keys w false = (with1 w (sg1 keys w), 0) := by
  unfold signV sg1
  rw [if_neg (fun k => k h), if_pos ⟨rfl, by omega⟩]
theorem sign2 {keys : List Int} {w : TApiWarrant} (h : WPl w) (hk : 2 * (w.Office - 1) + 1 < (keys.length : Int)) : signV keys (with1 w (sg1 keys w)) true = (signed keys w, 0) := by
  unfold signV
  rw [if_neg (fun k => k (with1_plain h _)), if_neg (fun k => by cases k.1),
    if_neg (show ¬ (keys.length : Int) ≤ 2 * ((with1 w (sg1 keys w)).Office - 1) + 1 from (show ¬ (keys.length : Int) ≤ 2 * (w.Office - 1) + 1 by omega)),
    if_neg (show ¬ (with1 w (sg1 keys w)).First ≠ sigV (keys.getD (2 * ((with1 w (sg1 keys w)).Office - 1)).toNat default) (with1 w (sg1 keys w)) from fun k => k (by rw [first_with1, sig_with1]; rfl)), sig_with1]
  rfl
theorem check_signed {keys : List Int} {w : TApiWarrant} (h : WPl w) (hk : 2 * (w.Office - 1) + 1 < (keys.length : Int)) : checkV keys (signed keys w) = 0 := by
  have e : signV keys (signed keys w) true = (signed keys w, 0) := by
    unfold signV
    rw [if_neg (fun k => k (with2_plain (with1_plain h _) _)), if_neg (fun k => by cases k.1),
      if_neg (show ¬ (keys.length : Int) ≤ 2 * ((signed keys w).Office - 1) + 1 from (show ¬ (keys.length : Int) ≤ 2 * (w.Office - 1) + 1 by omega)),
      if_neg (show ¬ (signed keys w).First ≠ sigV (keys.getD (2 * ((signed keys w).Office - 1)).toNat default) (signed keys w) from fun k => k (by
        unfold signed
        rw [first_with2, first_with1, sig_with2, sig_with1]
        rfl))]
    unfold signed
    rw [sig_with2, sig_with1, with2_with2]
    rfl
  unfold checkV
  rw [e, if_neg (fun k => k.2 rfl)]
end Go.Proofs.YtclaojamgomjbaaGreatDoor
namespace Go.Proofs.YtclaojamgomjbaaGreatDoor
open Go Go.TA
def BK (k : Nat) (b : TApiBook) : Prop := (b.Verifications.length ≤ k ∧ b.Orders.length ≤ k) ∧ (∀ x ∈ b.Reservations, 1 ≤ x.Day ∧ x.Day ≤ 5000) ∧ (∀ c ∈ b.Commitments, 1 ≤ c.Due ∧ c.Payee ≤ 4) ∧ ∀ v ∈ b.Verifications, v.Amount ≤ 120
def OpB (p : TApiOp) : Prop := (p.Kind = 1 → 1 ≤ p.Day ∧ p.Day ≤ 5000) ∧ (p.Kind = 2 → 1 ≤ p.Due ∧ p.Payee ≤ 4) ∧ (p.Kind = 3 → p.Amount ≤ 120)
theorem BK.mono {k k' : Nat} {b : TApiBook} (h : BK k b) (hk : k ≤ k') : BK k' b := ⟨by have := h.1; omega, h.2⟩
theorem nb_bk : BK 0 nb := ⟨by simp [nb], fun _ h => (nomatch h), fun _ h => (nomatch h), fun _ h => (nomatch h)⟩
theorem commitS_is {b : TApiBook} {r d n p u : Int} (h0 : (commitS b r d n p u).2 = 0) : (commitS b r d n p u).1 = withC b (b.Commitments ++ [⟨b.Commitments.length + 1, r, d, n, 0, p, u⟩]) := by
  unfold commitS at h0 ⊢
  obtain ⟨e, _⟩ := ite0 h0 (by decide); rw [e] at h0 ⊢; clear e
  obtain ⟨e, _⟩ := ite0 h0 (by decide); rw [e] at h0 ⊢; clear e
  obtain ⟨e, _⟩ := ite0 h0 (by decide); rw [e] at h0 ⊢; clear e
  obtain ⟨e, _⟩ := ite0 h0 (by decide); rw [e] at h0 ⊢; clear e
  obtain ⟨e, _⟩ := ite0 h0 (by decide); rw [e] at h0 ⊢; clear e
  obtain ⟨e, _⟩ := ite0 h0 (by decide); rw [e] at h0 ⊢; clear e
  obtain ⟨e, _⟩ := ite0 h0 (by decide); rw [e] at h0 ⊢
theorem verifyS_is {b : TApiBook} {c d n : Int} (h0 : (verifyS b c d n).2 = 0) : (verifyS b c d n).1 = withV b (b.Verifications ++ [⟨b.Verifications.length + 1, c, d, n⟩]) := by
  unfold verifyS at h0 ⊢
  obtain ⟨e, _⟩ := ite0 h0 (by decide); rw [e] at h0 ⊢; clear e
  obtain ⟨e, _⟩ := ite0 h0 (by decide); rw [e] at h0 ⊢; clear e
  obtain ⟨e, _⟩ := ite0 h0 (by decide); rw [e] at h0 ⊢; clear e
  obtain ⟨e, _⟩ := ite0 h0 (by decide); rw [e] at h0 ⊢; clear e
  obtain ⟨e, _⟩ := ite0 h0 (by decide); rw [e] at h0 ⊢; clear e
  obtain ⟨e, _⟩ := ite0 h0 (by decide); rw [e] at h0 ⊢; clear e
  obtain ⟨e, _⟩ := ite0 h0 (by decide); rw [e] at h0 ⊢
theorem orderS_is {b : TApiBook} {v d : Int} (h0 : (orderS b v d).2 = 0) : ∃ l, (orderS b v d).1 = withO b l ∧ l.length = b.Orders.length + 1 := by
  unfold orderS at h0 ⊢
  obtain ⟨e, _⟩ := ite0 h0 (by decide); rw [e] at h0 ⊢; clear e
  obtain ⟨e, _⟩ := ite0 h0 (by decide); rw [e] at h0 ⊢; clear e
  obtain ⟨e, _⟩ := ite0 h0 (by decide); rw [e] at h0 ⊢; clear e
  obtain ⟨e, _⟩ := ite0 h0 (by decide); rw [e] at h0 ⊢; clear e
  obtain ⟨e, _⟩ := ite0 h0 (by decide); rw [e] at h0 ⊢; clear e
  obtain ⟨e, _⟩ := ite0 h0 (by decide); rw [e] at h0 ⊢; clear e
  obtain ⟨e, _⟩ := ite0 h0 (by decide); rw [e] at h0 ⊢; clear e
  exact ⟨_, rfl, by simp⟩
theorem dropS_is {b : TApiBook} {c n : Int} (h0 : (dropS b c n).2 = 0) : (1 ≤ c ∧ c ≤ b.Commitments.length) ∧ ∃ x, (dropS b c n).1 = withC b (b.Commitments.set (c - 1).toNat x) ∧ x.Payee = (cAt b c).Payee ∧ x.Due = (cAt b c).Due := by
  unfold dropS at h0 ⊢
  obtain ⟨e, _⟩ := ite0 h0 (by decide); rw [e] at h0 ⊢; clear e
  obtain ⟨e, c2⟩ := ite0 h0 (by decide); rw [e] at h0 ⊢; clear e
  obtain ⟨e, _⟩ := ite0 h0 (by decide); rw [e] at h0 ⊢; clear e
  obtain ⟨e, _⟩ := ite0 h0 (by decide); rw [e] at h0 ⊢; clear e
  exact ⟨Classical.not_not.mp c2, _, rfl, rfl, rfl⟩
theorem backS_is {b : TApiBook} {v : Int} (h0 : (backS b v).2 = 0) : ∃ l, (backS b v).1 = withO b l ∧ l.length = b.Orders.length := by
  unfold backS at h0 ⊢
  obtain ⟨e, _⟩ := ite0 h0 (by decide); rw [e] at h0 ⊢; clear e
  obtain ⟨e, _⟩ := ite0 h0 (by decide); rw [e] at h0 ⊢; clear e
  obtain ⟨e, _⟩ := ite0 h0 (by decide); rw [e] at h0 ⊢; clear e
  exact ⟨_, rfl, by simp⟩
theorem bk_O {k : Nat} {b : TApiBook} (h : BK k b) (l : List TApiOrder) (hl : l.length ≤ b.Orders.length + 1) : BK (k + 1) (withO b l) := ⟨by show b.Verifications.length ≤ k + 1 ∧ l.length ≤ k + 1; have := h.1; omega, h.2⟩
theorem all_app {α : Type} {l : List α} {x : α} {p : α → Prop} (h : ∀ y ∈ l, p y) (hx : p x) : ∀ y ∈ l ++ [x], p y := fun y hy => by
  rcases List.mem_append.1 hy with hy | hy
  · exact h y hy
  · rw [List.mem_singleton.1 hy]; exact hx
theorem all_set {α : Type} {l : List α} {i : Nat} {x : α} {p : α → Prop} (h : ∀ y ∈ l, p y) (hx : p x) : ∀ y ∈ l.set i x, p y := fun y hy => by
  rcases List.mem_or_eq_of_mem_set hy with hy | rfl
  · exact h y hy
  · exact hx
theorem book_bk {k : Nat} {b : TApiBook} {p : TApiOp} (h : BK k b) (hp : OpB p) (h0 : (bookS b p).2 = 0) : BK (k + 1) (bookS b p).1 := by
  obtain ⟨b1, b2, b3, b4⟩ := h
  unfold bookS at h0 ⊢
  by_cases c1 : p.Kind = 1
  · rw [if_pos c1] at h0 ⊢
    rw [(reserveS_inv h0).2.2.2.2.2]
    exact ⟨by show b.Verifications.length ≤ k + 1 ∧ b.Orders.length ≤ k + 1; omega, all_app b2 (hp.1 c1), b3, b4⟩
  rw [if_neg c1] at h0 ⊢
  by_cases c2 : p.Kind = 2
  · rw [if_pos c2] at h0 ⊢
    rw [commitS_is h0]
    exact ⟨by show b.Verifications.length ≤ k + 1 ∧ b.Orders.length ≤ k + 1; omega, b2, all_app b3 (hp.2.1 c2), b4⟩
  rw [if_neg c2] at h0 ⊢
  by_cases c3 : p.Kind = 3
  · rw [if_pos c3] at h0 ⊢
    rw [verifyS_is h0]
    exact ⟨by show (b.Verifications ++ [_]).length ≤ k + 1 ∧ b.Orders.length ≤ k + 1; rw [List.length_append]; simp only [List.length_cons, List.length_nil]; omega, b2, b3, all_app b4 (hp.2.2 c3)⟩
  rw [if_neg c3] at h0 ⊢
  by_cases c4 : p.Kind = 4
  · rw [if_pos c4] at h0 ⊢
    obtain ⟨l, e, el⟩ := orderS_is h0
    rw [e]
    exact bk_O ⟨b1, b2, b3, b4⟩ l (by omega)
  rw [if_neg c4] at h0 ⊢
  by_cases c5 : p.Kind = 5
  · rw [if_pos c5] at h0 ⊢
    obtain ⟨_, _, _, hr, _, e⟩ := releaseS_inv h0
    rw [e]
    exact ⟨by show b.Verifications.length ≤ k + 1 ∧ b.Orders.length ≤ k + 1; omega, all_set b2 (b2 (rAt b p.Of) (getD_mem (by omega))), b3, b4⟩
  rw [if_neg c5] at h0 ⊢
  by_cases c6 : p.Kind = 6
  · rw [if_pos c6] at h0 ⊢
    obtain ⟨hc, x, e, e1, e2⟩ := dropS_is h0
    rw [e]
    refine ⟨by show b.Verifications.length ≤ k + 1 ∧ b.Orders.length ≤ k + 1; omega, b2, all_set b3 ?_, b4⟩
    rw [e1, e2]
    exact b3 (cAt b p.Of) (getD_mem (by omega))
  rw [if_neg c6] at h0 ⊢
  obtain ⟨l, e, el⟩ := backS_is h0
  rw [e]
  exact bk_O ⟨b1, b2, b3, b4⟩ l (by omega)
theorem do_bk {k : Nat} {o : TApiOffice} {p : TApiOp} (h : BK k o.Book) (hp : OpB p) (h0 : (doS o p).2 = 0) : BK (k + 1) (doS o p).1.Book ∧ (doS o p).1.Number = o.Number := by
  obtain ⟨hv, _, e⟩ := doS_inv h0
  rw [e] at h0 ⊢
  by_cases c8 : p.Kind = 8
  · have e8 : stepS o p = hearS o p := by unfold stepS; rw [if_pos c8]
    rw [e8] at h0 ⊢
    obtain ⟨r, e1, _⟩ := hear_vo hv h0
    rw [e1]
    exact ⟨h.mono (by omega), rfl⟩
  by_cases c7 : p.Kind = 7
  · have e7 : stepS o p = giveS o p := by unfold stepS; rw [if_neg c8, if_pos c7]
    rw [e7] at h0 ⊢
    obtain ⟨_, _, _, r, e1, _⟩ := give_vo hv h0
    rw [e1]
    exact ⟨h.mono (by omega), rfl⟩
  obtain ⟨e1, e2, _⟩ := step_vo hv ⟨c7, c8⟩ h0
  rw [e1]
  exact ⟨book_bk h hp e2, rfl⟩
def GL (n : Int) (o : TApiOffice) : Prop := ∀ r ∈ o.Rights, r.Granted ≤ n
theorem rightV_gl {o : TApiOffice} {n : Int} (hn : 0 ≤ n) (hG : GL n o) (c : List UInt8) (y : Int) : (rightV o.Rights c y).Granted ≤ n := by
  by_cases h : hasR o.Rights c y = true
  · exact hG _ (rightV_mem h).1
  · unfold rightV; rw [if_neg h]; exact hn
theorem do_gl {o : TApiOffice} {p : TApiOp} {n : Int} (hn : 0 ≤ n) (h : GL n o) (hp : p.Granted ≤ n) (h0 : (doS o p).2 = 0) : GL n (doS o p).1 := by
  obtain ⟨hv, _, e⟩ := doS_inv h0
  rw [e] at h0 ⊢
  have hput : ∀ r : TApiRight, r.Granted ≤ n → GL n ⟨o.Number, putL o.Rights r, o.Book⟩ := fun r hr x hx => by
    rcases mem_put hx with rfl | hx
    · exact hr
    · exact h x hx
  by_cases c8 : p.Kind = 8
  · have e8 : stepS o p = hearS o p := by unfold stepS; rw [if_pos c8]
    rw [e8] at h0 ⊢
    obtain ⟨r, e1, _, _, _, e2, _⟩ := hear_vo hv h0
    rw [e1]
    refine hput r ?_
    rw [e2]
    have := rightV_gl hn h p.Code p.Year
    simp only
    split <;> omega
  by_cases c7 : p.Kind = 7
  · have e7 : stepS o p = giveS o p := by unfold stepS; rw [if_neg c8, if_pos c7]
    rw [e7] at h0 ⊢
    obtain ⟨_, _, _, r, e1, _, e2, _⟩ := give_vo hv h0
    rw [e1]
    refine hput r ?_
    rw [e2]
    exact rightV_gl hn h p.Code p.Year
  obtain ⟨e1, _⟩ := step_vo hv ⟨c7, c8⟩ h0
  rw [e1]
  exact h
end Go.Proofs.YtclaojamgomjbaaGreatDoor
namespace Go.Proofs.YtclaojamgomjbaaGreatDoor
open Go Go.TA
theorem Op_spec2 {o : TApiOffice} (ho : Few o.Book) {s : TTape} (hs : TapeOk s) (day : Int) : ∃ p s', F_mk_Op o day s = some (p, s') ∧ TapeOk s' ∧ p.Code.length ≤ 60 ∧ p.Granted ≤ 1000 ∧ p.Amount ≤ 120 ∧ p.Day = day ∧ (p.Kind = 2 → p.Payee ≤ 4 ∧ ∃ x : Int, 0 ≤ x ∧ x < 60 ∧ p.Due = IntKind.i64.wrap (day + x)) := by
  obtain ⟨l1, l2, l3, l4⟩ := ho
  obtain ⟨k, s1, e1, t1, k1⟩ := Pick_spec (l := [1, 1, 1, 2, 2, 2, 3, 3, 3, 4, 4, 5, 6, 7, 8, 8, 9]) hs (by decide) (by decide)
  obtain ⟨co, s2, e2, t2, hc, _⟩ := PotCode_spec t1
  obtain ⟨n1, s3, e3, t3, _, hn1⟩ := Range_spec (lo := 1) (hi := 120) t2 (by omega) (by omega) (by omega)
  obtain ⟨n2, s4, e4, t4, hn2⟩ := Pick_spec (l := [10, 50, n1]) t3 (by simp) (by simp)
  have hn2 : n2 ≤ 120 := by simp at hn2; omega
  simp only [F_mk_Op, S_mk_Op, Scr.den, e1, e2, e3, e4, obind]
  generalize IntKind.i64.wrap (day.tdiv 360) = yy
  have fin : ∀ (s5 : TTape) (p : TApiOp), TapeOk s5 → p.Code.length ≤ 60 → p.Granted ≤ 1000 → p.Amount ≤ 120 → p.Day = day →
      ∃ p' s', outM (some (Out.next (s5, p) : Out (TTape × TApiOp) R_mk_Op)) (fun (sv5 : TTape × TApiOp) => outM (if (sv5.2.Kind == 2) = true then (F_mk_Tape_Range 1 4 sv5.1).bind fun rv17 => (F_mk_Tape_N 60 rv17.2).bind fun rv18 => some (Out.next (rv18.2, (⟨sv5.2.Kind, sv5.2.Code, sv5.2.Year, sv5.2.Day, sv5.2.Of, sv5.2.Amount, rv17.1, (IntKind.i64.wrap (day + rv18.1)), sv5.2.Granted, sv5.2.AskedBack⟩ : TApiOp)) : Out (TTape × TApiOp) R_mk_Op) else some (Out.next (sv5.1, sv5.2))) (fun (sv16 : TTape × TApiOp) => some (sv16.2, sv16.1)) some) some = some (p', s') ∧ TapeOk s' ∧ p'.Code.length ≤ 60 ∧ p'.Granted ≤ 1000 ∧ p'.Amount ≤ 120 ∧ p'.Day = day ∧ (p'.Kind = 2 → p'.Payee ≤ 4 ∧ ∃ x : Int, 0 ≤ x ∧ x < 60 ∧ p'.Due = IntKind.i64.wrap (day + x)) := fun s5 p ht h1 h2 h3 h4 => by
    simp only [outM]
    by_cases hk : (p.Kind == 2) = true
    · rw [if_pos hk]
      obtain ⟨x1, s6, q1, t6, _, y1⟩ := Range_spec (lo := 1) (hi := 4) ht (by omega) (by omega) (by omega)
      obtain ⟨x2, s7, q2, t7, y2, y3⟩ := N_spec (n := 60) t6 (by omega) (by omega)
      simp only [q1, q2, obind]
      exact ⟨_, _, rfl, t7, h1, h2, h3, h4, fun _ => ⟨y1, x2, y2, y3, rfl⟩⟩
    · rw [if_neg hk]
      exact ⟨_, _, rfl, ht, h1, h2, h3, h4, fun k2 => absurd (show (p.Kind == 2) = true by have k3 : p.Kind = 2 := k2; rw [k3]; rfl) hk⟩
  have lm : ∀ {α : Type} (l : List α), l.length ≤ 1000000 → (1 : Int) ≤ (if (l.length : Int) > 1 then (l.length : Int) else 1) ∧ (if (l.length : Int) > 1 then (l.length : Int) else 1) ≤ 1000000 := fun l h => by split <;> omega
  have m1 := lm o.Book.Reservations l1
  have m2 := lm o.Book.Commitments l2
  have m3 := lm o.Book.Verifications l3
  have two : ∀ {c d : Bool} {P : Prop}, (c = true → P) → (d = true → P) → (c = false → d = false → P) → P := fun {c d P} h1 h2 h3 => by
    cases hc : c
    · cases hd : d
      · exact h3 hc hd
      · exact h2 hd
    · exact h1 hc
  have g1 : ∀ {β : Type} (c d : Bool), (c || d) = true → (if c = true then some (Out.next c) else some (Out.next d) : Option (Out Bool β)) = some (Out.next true) := fun {_} c d h => by cases c <;> cases d <;> first | rfl | cases h
  have g0 : ∀ {β : Type} (c d : Bool), (c || d) = false → (if c = true then some (Out.next c) else some (Out.next d) : Option (Out Bool β)) = some (Out.next false) := fun {_} c d h => by cases c <;> cases d <;> first | rfl | cases h
  by_cases c1 : ((k == 2) || (k == 5)) = true
  · rw [g1 _ _ c1]
    obtain ⟨x1, s5, q1, t5, _, _⟩ := Range_spec (lo := 1) (hi := (if (o.Book.Reservations.length : Int) > 1 then (o.Book.Reservations.length : Int) else 1)) t4 (by omega) m1.1 (by omega)
    simp only [outM, if_true, q1, obind]
    exact fin _ ⟨k, co, yy, day, x1, n2, 0, 0, 0, 0⟩ t5 hc (by show (0 : Int) ≤ 1000; decide) hn2 rfl
  have c1 : ((k == 2) || (k == 5)) = false := by simpa using c1
  rw [g0 _ _ c1]
  by_cases c2 : ((k == 3) || (k == 6)) = true
  · rw [g1 _ _ c2]
    obtain ⟨x1, s5, q1, t5, _, _⟩ := Range_spec (lo := 1) (hi := (if (o.Book.Commitments.length : Int) > 1 then (o.Book.Commitments.length : Int) else 1)) t4 (by omega) m2.1 (by omega)
    simp only [outM, Bool.false_eq_true, if_true, if_false, q1, obind]
    exact fin _ ⟨k, co, yy, day, x1, n2, 0, 0, 0, 0⟩ t5 hc (by show (0 : Int) ≤ 1000; decide) hn2 rfl
  have c2 : ((k == 3) || (k == 6)) = false := by simpa using c2
  rw [g0 _ _ c2]
  by_cases c3 : ((k == 4) || (k == 9)) = true
  · rw [g1 _ _ c3]
    obtain ⟨x1, s5, q1, t5, _, _⟩ := Range_spec (lo := 1) (hi := (if (o.Book.Verifications.length : Int) > 1 then (o.Book.Verifications.length : Int) else 1)) t4 (by omega) m3.1 (by omega)
    simp only [outM, Bool.false_eq_true, if_true, if_false, q1, obind]
    exact fin _ ⟨k, co, yy, day, x1, n2, 0, 0, 0, 0⟩ t5 hc (by show (0 : Int) ≤ 1000; decide) hn2 rfl
  have c3 : ((k == 4) || (k == 9)) = false := by simpa using c3
  rw [g0 _ _ c3]
  by_cases c4 : (k == 8) = true
  · obtain ⟨x1, s5, q1, t5, _, y1⟩ := N_spec (n := 1000) t4 (by omega) (by omega)
    obtain ⟨x2, s6, q2, t6, y2⟩ := Pick_spec (l := [100, 400, x1]) t5 (by simp) (by simp)
    obtain ⟨x3, s7, q3, t7, _, y3⟩ := N_spec (n := 200) t6 (by omega) (by omega)
    obtain ⟨x4, s8, q4, t8, y4⟩ := Pick_spec (l := [0, 0, x3]) t7 (by simp) (by simp)
    simp only [outM, Bool.false_eq_true, if_false, if_pos c4, q1, q2, q3, q4, obind]
    exact fin _ ⟨k, co, yy, day, 0, n2, 0, 0, x2, x4⟩ t8 hc (by simp at y2; show x2 ≤ 1000; omega) hn2 rfl
  · simp only [outM, Bool.false_eq_true, if_false, if_neg c4]
    exact fin _ ⟨k, co, yy, day, 0, n2, 0, 0, 0, 0⟩ t4 hc (by show (0 : Int) ≤ 1000; decide) hn2 rfl
def OJ (k : Nat) (o : TApiOffice) : Prop := OI k o ∧ BK k o.Book ∧ 1 ≤ o.Number ∧ o.Number ≤ 3
theorem OJ.mono {k k' : Nat} {o : TApiOffice} (h : OJ k o) (hk : k ≤ k') : OJ k' o :=
  ⟨⟨h.1.1, by have := h.1.2.1; omega, by have := h.1.2.2.1; omega, h.1.2.2.2⟩, h.2.1.mono hk, h.2.2⟩
theorem do_oj {o : TApiOffice} {p : TApiOp} {k : Nat} (h : OJ k o) (hp : p.Granted ≤ 1000) (hq : OpB p) (h0 : (doS o p).2 = 0) : OJ (k + 1) (doS o p).1 := by
  have h1 := do_oi h.1 hp h0
  obtain ⟨h2, h3⟩ := do_bk h.2.1 hq h0
  exact ⟨h1, h2, by rw [h3]; exact h.2.2.1, by rw [h3]; exact h.2.2.2⟩
theorem Office_spec2 {n : Int} (h0 : 0 ≤ n) (hn : n ≤ 18) {s : TTape} (hs : TapeOk s) : ∃ o s', F_mk_Office n s = some (o, s') ∧ TapeOk s' ∧ OJ (n + 2).toNat o := by
  simp only [F_mk_Office, S_mk_Office, Scr.den]
  obtain ⟨k, s1, e1, t1, k1, k2⟩ := Range_spec (lo := 1) (hi := 3) hs (by omega) (by omega) (by omega)
  obtain ⟨d, s2, e2, t2, d1, d2⟩ := N_spec (n := 50) t1 (by omega) (by omega)
  simp only [e1, e2, r15_New_eq, obind]
  rw [if_neg (by omega)]
  obtain ⟨q, e3, t3, h3⟩ := iterM_inv (step := fun s => (S_mk_Office_b1 s).den) (fun s => (2 - s.2.2).toNat) (fun s => TapeOk s.1 ∧ 0 ≤ s.2.2 ∧ s.2.2 ≤ 2 ∧ OJ s.2.2.toNat s.2.1) (fun s => TapeOk s.1 ∧ OJ 2 s.2.1) (fun s hI => by
    obtain ⟨st, o, i⟩ := s
    obtain ⟨a1, a2, a3, a4⟩ := hI
    simp only at a1 a2 a3 a4
    simp only [S_mk_Office_b1, Scr.den]
    by_cases hi : i < 2
    · left
      rw [if_pos (by simpa using hi)]
      obtain ⟨n1, s5, e5, t5, _, z1⟩ := N_spec (n := 800) a1 (by omega) (by omega)
      obtain ⟨n2, s6, e6, t6, z2⟩ := Pick_spec (l := [300, n1]) t5 (by simp) (by simp)
      have hc : good (([[49], [50]] : List (List UInt8)).getD i.toNat default) = true ∧ (([[49], [50]] : List (List UInt8)).getD i.toNat default).length ≤ 60 := by
        have : i = 0 ∨ i = 1 := by omega
        rcases this with rfl | rfl <;> decide
      simp only [e5, e6, obind, r15_Do_eq a4.1.1.smO (p := ⟨8, ([[49], [50]] : List (List UInt8)).getD i.toNat default, 12, 0, 0, 0, 0, 0, n2, 0⟩) (by simp only; omega)]
      rw [guardP_pos ⟨by omega, by omega, trivial⟩, wrapId (by omega) (by omega)]
      have hz : 0 ≤ n2 ∧ n2 ≤ 800 := by simp at z2; omega
      have hs : (doS o ⟨8, ([[49], [50]] : List (List UInt8)).getD i.toNat default, 12, 0, 0, 0, 0, 0, n2, 0⟩).2 = 0 := by
        rw [doS_ok a4.1.1 (by simp only; omega)]
        unfold stepS
        rw [if_pos rfl]
        exact hear_succ a4.1.1 hc.1 (by simp only; omega) (.inr (by have := a4.1.2.2.1; omega)) ⟨hz.1, by simp only; omega⟩ tot0
      refine ⟨_, rfl, ⟨t6, by simp only; omega, by simp only; omega, ?_⟩, by simp only; omega⟩
      have := do_oj a4 (by simp only; omega) ⟨fun h => absurd h (by simp), fun h => absurd h (by simp), fun h => absurd h (by simp)⟩ hs
      simp only
      rwa [show (i + 1).toNat = i.toNat + 1 by omega]
    · right
      rw [if_neg (by simpa using hi)]
      exact ⟨_, rfl, a1, by simp only; rwa [show i.toNat = 2 by omega] at a4⟩) _ (s2, ⟨k, [], nb⟩, 0) (Nat.lt_succ_self _) ⟨t2, by simp only; omega, by simp only; omega, ⟨new_oi (by omega) (by omega), nb_bk, k1, k2⟩⟩
  rw [e3]
  simp only [outM]
  rw [wrapId (n := n + 1) (by omega) (by omega)]
  obtain ⟨i, s3, e4, t4, i1, i2⟩ := N_spec (n := n + 1) t3 (by omega) (by omega)
  simp only [e4, obind]
  obtain ⟨q', e5, t5, h5⟩ := iterM_inv (step := fun s => (S_mk_Office_b2 s).den) (fun s => s.2.2.2.toNat) (fun s => TapeOk s.1 ∧ 0 ≤ s.2.2.2 ∧ s.2.2.2 ≤ n ∧ OJ (n + 2 - s.2.2.2).toNat s.2.1 ∧ 4320 ≤ s.2.2.1 ∧ s.2.2.1 ≤ 4369 + 25 * (n - s.2.2.2)) (fun s => TapeOk s.1 ∧ OJ (n + 2).toNat s.2.1) (fun s hI => by
    obtain ⟨st, o, day, i⟩ := s
    obtain ⟨a1, a2, a3, a4, d3, d4⟩ := hI
    simp only at a1 a2 a3 a4 d3 d4
    simp only [S_mk_Office_b2, Scr.den]
    by_cases hi : i > 0
    · left
      rw [if_pos (by simpa using hi)]
      obtain ⟨n1, s5, e5, t5, g1, g2⟩ := N_spec (n := 25) a1 (by omega) (by omega)
      obtain ⟨n2, s6, e6, t6, g3⟩ := Pick_spec (l := [0, 1, n1]) t5 (by simp) (by simp)
      have hn2 : 0 ≤ n2 ∧ n2 ≤ 25 := by simp at g3; omega
      obtain ⟨p, s7, e7, t7, p1, p2, p3, p4, p5⟩ := Op_spec2 a4.1.1.smO.1.1 t6 (IntKind.i64.wrap (day + n2))
      rw [wrapId (n := day + n2) (by omega) (by omega)] at e7 p4 p5
      have hop : OpB p := ⟨fun _ => by omega, fun h => by
        obtain ⟨q1, x, q2, q3, q4⟩ := p5 h
        rw [wrapId (by omega) (by omega)] at q4
        omega, fun _ => p3⟩
      rw [e5]
      simp only [obind]
      rw [e6]
      simp only [obind]
      rw [wrapId (n := day + n2) (by omega) (by omega), e7]
      simp only [obind, r15_Do_eq a4.1.1.smO (p := p) (by omega)]
      rw [wrapId (n := i - 1) (by omega) (by omega)]
      have hle : ∀ o', OJ (n + 2 - i).toNat o' → OJ (n + 2 - (i - 1)).toNat o' := fun o' h => h.mono (by omega)
      by_cases hd : (doS o p).2 = 0
      · rw [if_pos (by simp [hd])]
        refine ⟨_, rfl, ⟨t7, by simp only; omega, by simp only; omega, ?_, by simp only; omega, by simp only; omega⟩, by simp only; omega⟩
        have := do_oj a4 p2 hop hd
        simp only
        rwa [show (n + 2 - (i - 1)).toNat = (n + 2 - i).toNat + 1 by omega]
      · rw [if_neg (by simp [hd])]
        exact ⟨_, rfl, ⟨t7, by simp only; omega, by simp only; omega, hle _ a4, by simp only; omega, by simp only; omega⟩, by simp only; omega⟩
    · right
      rw [if_neg (by simpa using hi)]
      exact ⟨_, rfl, a1, by simp only; rwa [show (n + 2 - i).toNat = (n + 2).toNat by omega] at a4⟩) _ (s3, q.2.1, IntKind.i64.wrap (4320 + d), i) (Nat.lt_succ_self _) ⟨t4, i1, by simp only; omega, h3.mono (by simp only; omega), by simp only; rw [wrapId (by omega) (by omega)]; omega, by simp only; rw [wrapId (by omega) (by omega)]; omega⟩
  rw [e5]
  exact ⟨_, _, rfl, t5, h5⟩
end Go.Proofs.YtclaojamgomjbaaGreatDoor
namespace Go.Proofs.YtclaojamgomjbaaGreatDoor
open Go Go.TA
theorem Keys_spec2 {n : Int} (h0 : 0 ≤ n) (hn : n ≤ 10) {s : TTape} (hs : TapeOk s) : ∃ k s', F_mk_Keys n s = some (k, s') ∧ TapeOk s' ∧ (k.length : Int) = 2 * n := by
  simp only [F_mk_Keys, S_mk_Keys, Scr.den]
  obtain ⟨r, e, hJ⟩ := iterM_inv (step := fun s => (S_mk_Keys_b1 n s).den) (fun s : TTape × List Int × Int => (2 * n - s.2.2).toNat)
    (fun s => TapeOk s.1 ∧ (s.2.1.length : Int) = s.2.2 ∧ 0 ≤ s.2.2 ∧ s.2.2 ≤ 2 * n) (fun s => TapeOk s.1 ∧ (s.2.1.length : Int) = 2 * n) (fun st hI => by
    obtain ⟨t, l, i⟩ := st
    obtain ⟨i1, i2, i3, i4⟩ := hI
    simp only at i1 i2 i3 i4
    simp only [S_mk_Keys_b1, Scr.den]
    rw [wrapId (n := 2 * n) (by omega) (by omega)]
    by_cases hc : i < 2 * n
    · left
      obtain ⟨v, t1, q1, q2, _⟩ := N_spec (n := 1000) i1 (by omega) (by omega)
      rw [if_pos (show decide (i < 2 * n) = true from decide_eq_true hc), q1]
      simp only [obind]
      rw [guardP_pos ⟨by omega, trivial⟩, wrapId (n := i + 1) (by omega) (by omega)]
      exact ⟨_, rfl, ⟨q2, by simp only [List.length_append, List.length_cons, List.length_nil]; omega, by show 0 ≤ i + 1; omega, by show i + 1 ≤ 2 * n; omega⟩, by show (2 * n - (i + 1)).toNat < (2 * n - i).toNat; omega⟩
    · right
      rw [if_neg (show ¬ decide (i < 2 * n) = true by rw [decide_eq_true_eq]; exact hc)]
      exact ⟨_, rfl, i1, by show (l.length : Int) = 2 * n; omega⟩) _ (s, ([] : List Int), 0) (Nat.lt_succ_self _) ⟨hs, rfl, by simp, by simp; omega⟩
  rw [e]
  simp only [outM]
  rw [guardP_pos ⟨by have := hJ.2; omega, trivial⟩]
  exact ⟨_, _, rfl, hJ.1, hJ.2⟩
def CO (k : Nat) (o : TApiOffice) : Prop := VO o ∧ BK k o.Book ∧ GL 2000 o ∧ 1 ≤ o.Number ∧ o.Number ≤ 3
theorem CO.mono {k k' : Nat} {o : TApiOffice} (h : CO k o) (hk : k ≤ k') : CO k' o := ⟨h.1, h.2.1.mono hk, h.2.2⟩
theorem do_co {k : Nat} {o : TApiOffice} {p : TApiOp} (h : CO k o) (hp : p.Granted ≤ 2000) (hq : OpB p) (h0 : (doS o p).2 = 0) : CO (k + 1) (doS o p).1 := by
  obtain ⟨h2, h3⟩ := do_bk h.2.1 hq h0
  exact ⟨do_vo h0, h2, do_gl (by omega) h.2.2.1 hp h0, by rw [h3]; exact h.2.2.2.1, by rw [h3]; exact h.2.2.2.2⟩
def ord0 (o : TApiOffice) : TApiOrder := o.Book.Orders.getD 0 default
def CI (c : TTreasurymakeCase) : Prop := (c.Keys.length : Int) = 6 ∧ CO 25 c.Office ∧ c.Pot.Granted.length = 3 ∧ (∀ x ∈ c.Pot.Granted, 0 ≤ x ∧ x ≤ 1000000000000000) ∧ c.Pot.Heard = [0, 0, 0] ∧
  (0 < c.Office.Book.Orders.length → c.Pot.Code = (mkW c.Office (ord0 c.Office) 7).Code ∧ c.Pot.Year = (mkW c.Office (ord0 c.Office) 7).Year)
theorem outM_next {σ β γ : Type} {c : σ} {k : σ → Option γ} {f : β → Option γ} : outM (some (Out.next c)) k f = k c := rfl
theorem outM_ex {σ β γ : Type} {x : Option (Out σ β)} {k : σ → Option γ} {f : β → Option γ} {post : Option γ → Prop} (c : σ) (hx : x = some (.next c)) (h : post (k c)) : post (outM x k f) := by
  subst hx; exact h
theorem Control_spec {s : TTape} (hs : TapeOk s) : ∃ c s', F_mk_Control s = some (c, s') ∧ TapeOk s' ∧ CI c := by
  obtain ⟨o, s1, e1, t1, hj⟩ := Office_spec2 (n := 18) (by omega) (by omega) hs
  have hd : (doS o ⟨8, [49], 12, 0, 0, 0, 0, 0, 2000, 0⟩).2 = 0 := by
    rw [doS_ok hj.1.1 (by simp only; omega)]
    unfold stepS
    rw [if_pos rfl]
    exact hear_succ hj.1.1 good19 (by simp only; omega) (.inr (by have := hj.1.2.2.1; omega)) ⟨by simp only; omega, by simp only; omega⟩ tot0
  have hc1 : CO 21 (doS o ⟨8, [49], 12, 0, 0, 0, 0, 0, 2000, 0⟩).1 :=
    do_co (k := 20) ⟨hj.1.1, hj.2.1, fun r hr => by have := hj.1.2.2.2 r hr; omega, hj.2.2⟩ (by simp) ⟨fun h => absurd h (by simp), fun h => absurd h (by simp), fun h => absurd h (by simp)⟩ hd
  obtain ⟨a1, s2, e2, t2, x1, y1⟩ := N_spec (n := 100) t1 (by omega) (by omega)
  obtain ⟨a2, s3, e3, t3, x2, y2⟩ := N_spec (n := 40) t2 (by omega) (by omega)
  obtain ⟨a3, s4, e4, t4, x3, y3⟩ := N_spec (n := 20) t3 (by omega) (by omega)
  simp only [F_mk_Control, S_mk_Control, Scr.den, e1, e2, e3, e4, r15_Do_eq hj.1.1.smO (p := ⟨8, [49], 12, 0, 0, 0, 0, 0, 2000, 0⟩) (by simp), obind]
  generalize (doS o ⟨8, [49], 12, 0, 0, 0, 0, 0, 2000, 0⟩).1 = o1 at hc1
  obtain ⟨o2, e5, hc2⟩ := rangeM_inv (body := fun i s => (S_mk_Control_b1 (a1, s2) (a2, s3) (a3, s4) i s).den) (n := 4) (fun i s => CO (21 + i) s) (s0 := o1) hc1 (fun i s hi hI => by
    simp only [S_mk_Control_b1, Scr.den]
    rw [wrapId (n := 4400 + a1) (by omega) (by omega), wrapId (n := 4600 + a2) (by omega) (by omega), wrapId (n := 4650 + a3) (by omega) (by omega)]
    obtain ⟨p, hp⟩ : ∃ p, p = (([(⟨1, [49], 12, 4400 + a1, 0, 50, 0, 0, 0, 0⟩ : TApiOp), (⟨2, [], 0, 4600, 1, 5, 1, 4600 + a2, 0, 0⟩ : TApiOp), (⟨3, [], 0, 4640, 1, 2, 0, 0, 0, 0⟩ : TApiOp), (⟨4, [], 0, 4650 + a3, 1, 0, 0, 0, 0, 0⟩ : TApiOp)] : List TApiOp).getD i default) := ⟨_, rfl⟩
    rw [← hp]
    have hpp : p.Code.length ≤ 1000000 ∧ p.Granted ≤ 2000 ∧ OpB p := by
      have : i = 0 ∨ i = 1 ∨ i = 2 ∨ i = 3 := by omega
      rcases this with rfl | rfl | rfl | rfl <;> subst hp <;> simp [OpB, List.getD] <;> omega
    rw [r15_Do_eq hI.1.smO hpp.1]
    simp only [obind]
    by_cases h0 : (doS s p).2 = 0
    · rw [if_pos (by simp [h0])]
      exact ⟨_, rfl, do_co hI hpp.2.1 hpp.2.2 h0⟩
    · rw [if_neg (by simp [h0])]
      exact ⟨_, rfl, hI.mono (by omega)⟩)
  rw [e5]
  simp only [outM_next]
  obtain ⟨ks, s5, e6, t5, hk⟩ := Keys_spec2 (n := 3) (by omega) (by omega) t4
  obtain ⟨a4, s6, e7, t6, x4, y4⟩ := N_spec (n := 500) t5 (by omega) (by omega)
  simp only [e6, e7, obind]
  refine outM_ex (post := fun z => ∃ c s', z = some (c, s') ∧ TapeOk s' ∧ CI c) (if 0 < o2.Book.Orders.length then ((mkW o2 (ord0 o2) 7).Code, (mkW o2 (ord0 o2) 7).Year) else ([49], 12)) ?_ ?_
  · by_cases hl : 0 < o2.Book.Orders.length
    · have ho := ordF hc2.1 hl
      obtain ⟨hR, hC, _, hV, _, _, l1, l2, l3, l4⟩ := hc2.1.val
      rw [if_pos (by simpa using hl), if_pos hl]
      unfold ord0
      generalize o2.Book.Orders.getD 0 default = x at ho
      obtain ⟨_, v0, _⟩ := ho
      obtain ⟨_, v2, _⟩ := hV.at v0
      obtain ⟨_, c2, _⟩ := hC.at v2
      have w1 : IntKind.i64.wrap (x.Verification - 1) = x.Verification - 1 := wrapId (by omega) (by omega)
      simp only [w1]
      have w2 : IntKind.i64.wrap ((o2.Book.Verifications.getD (x.Verification - 1).toNat default).Commitment - 1) = (vAt o2.Book x.Verification).Commitment - 1 := wrapId (by show _ ≤ (vAt o2.Book x.Verification).Commitment - 1; omega) (by show (vAt o2.Book x.Verification).Commitment - 1 < _; omega)
      simp only [w2]
      have w3 : IntKind.i64.wrap ((o2.Book.Commitments.getD ((vAt o2.Book x.Verification).Commitment - 1).toNat default).Reservation - 1) = (cAt o2.Book (vAt o2.Book x.Verification).Commitment).Reservation - 1 := wrapId (by show _ ≤ (cAt o2.Book (vAt o2.Book x.Verification).Commitment).Reservation - 1; omega) (by show (cAt o2.Book (vAt o2.Book x.Verification).Commitment).Reservation - 1 < _; omega)
      simp only [w3]
      rw [guardP_pos ⟨hl, by omega, by omega, by omega, by omega, by omega, by omega, trivial⟩]
      rfl
    · rw [if_neg (by simpa using hl), if_neg hl]
  generalize hcy : (if 0 < o2.Book.Orders.length then ((mkW o2 (ord0 o2) 7).Code, (mkW o2 (ord0 o2) 7).Year) else (([49], 12) : List UInt8 × Int)) = cy
  have hu := used_ex hc2.1.val cy.1 cy.2
  simp only [r14_Used_eq, obind]
  rw [guardP_pos ⟨by simp, trivial⟩, wrapId (n := 4600 + a4) (by omega) (by omega)]
  generalize usedV o2.Book cy.1 cy.2 = n at hu
  obtain ⟨q, e9, g, t7, eq, hg1, hg2⟩ := rangeM_inv (body := fun i s => (S_mk_Control_b2 o2 n i s).den) (n := ([n, n, n] : List Int).length) (fun i q => ∃ g, TapeOk q.1 ∧ q = (q.1, ks, o2, cy.1, cy.2, 5000, ([0, 0, 0] : List Int), ([0, 0, 0] : List Int), ([n, n, n] : List Int), ([] : List TApiWarrant), 4600 + a4, g) ∧ g.length = 3 ∧ ∀ x ∈ g, 0 ≤ x ∧ x ≤ 300000000000000 + 50 * i)
    (s0 := (s6, ks, o2, cy.1, cy.2, 5000, ([0, 0, 0] : List Int), ([0, 0, 0] : List Int), ([n, n, n] : List Int), ([] : List TApiWarrant), 4600 + a4, ([n, n, n] : List Int)))
    ⟨_, t6, rfl, rfl, fun x hx => by simp at hx; omega⟩ (fun i q hi hI => by
    obtain ⟨g, t7, eq, hg1, hg2⟩ := hI
    obtain ⟨v, s8, e8, t8, hv⟩ := Pick_spec (l := [0, 50, 50]) t7 (by simp) (by simp)
    have hi3 : i < 3 := hi
    simp only [S_mk_Control_b2, Scr.den]
    rw [e8]
    simp only [obind]
    rw [eq]
    simp only
    have hx := hg2 (g.getD (0 + i) default) (getD_mem (by omega))
    have hv2 : v = 0 ∨ v = 50 := by simpa using hv
    rw [guardP_pos ⟨by omega, by omega, trivial⟩, wrapId (by omega) (by omega)]
    refine ⟨_, rfl, _, t8, rfl, by rw [List.length_set]; exact hg1, all_set (fun x hx => by have := hg2 x hx; omega) (by omega)⟩)
  rw [e9]
  simp only [outM_next]
  rw [eq]
  simp only
  rw [guardP_pos ⟨by omega, trivial⟩]
  refine ⟨_, _, rfl, t7, by simp only; omega, hc2, hg1, fun x hx => ?_, rfl, fun hl => ?_⟩
  · have := hg2 x hx
    simp at this
    omega
  · rw [if_pos hl] at hcy
    rw [← hcy]
    exact ⟨rfl, rfl⟩
end Go.Proofs.YtclaojamgomjbaaGreatDoor
namespace Go.Proofs.YtclaojamgomjbaaGreatDoor
open Go Go.TA
theorem r15_Valid_true {o : TApiOffice} (hv : VO o) : F_r15_Valid o = some true := (r15_Valid_eq hv.smO).trans (congrArg some (@decide_eq_true _ (_) hv))
theorem officeValid_true {o : TApiOffice} (hv : VO o) : F_office_Valid o = some true := (officeValid_eq hv.smO).trans (congrArg some (@decide_eq_true _ (_) hv))
theorem r19_Make_eq {o : TApiOffice} (hv : VO o) {i : Nat} (hi : i < o.Book.Orders.length) {n : Int} (hn : numP n) :
    F_r19_Make o ((i : Int) + 1) n = some (if (o.Book.Orders.getD i default).Back = true then (zW, 9) else (mkW o (o.Book.Orders.getD i default) n, 0)) := by
  have ho := ordF hv hi
  obtain ⟨hR, hC, _, hV, _, _, l1, l2, l3, l4⟩ := hv.val
  simp only [F_r19_Make, S_r19_Make, Scr.den, r15_Valid_true hv, r19_num, obind, cond_or]
  have e1 : IntKind.i64.wrap ((i : Int) + 1 - 1) = (i : Int) := by rw [wrapId (by omega) (by omega)]; omega
  rw [if_neg (by decide), if_neg (by simp only [Bool.or_eq_true, decide_eq_true_eq]; omega), e1, Int.toNat_natCast, guardP_pos ⟨by omega, hi, trivial⟩]
  generalize o.Book.Orders.getD i default = x at ho
  obtain ⟨_, o2, _⟩ := ho
  obtain ⟨v1, v2, _⟩ := hV.at o2
  obtain ⟨c1, c2, _⟩ := hC.at v2
  cases hx : x.Back with
  | true => rw [if_pos rfl, if_pos rfl]; rfl
  | false =>
    rw [if_neg (show ¬ false = true by decide), if_neg (show ¬ false = true by decide), decide_eq_true hn, if_neg (show ¬ (!true) = true by decide)]
    have w1 : IntKind.i64.wrap (x.Verification - 1) = x.Verification - 1 := wrapId (by omega) (by omega)
    rw [w1, guardP_pos ⟨by omega, by omega, trivial⟩]
    have w2 : IntKind.i64.wrap ((o.Book.Verifications.getD (x.Verification - 1).toNat default).Commitment - 1) = (vAt o.Book x.Verification).Commitment - 1 := wrapId (by show _ ≤ (vAt o.Book x.Verification).Commitment - 1; omega) (by show (vAt o.Book x.Verification).Commitment - 1 < _; omega)
    rw [w2, guardP_pos ⟨by omega, by omega, trivial⟩]
    have w3 : IntKind.i64.wrap ((o.Book.Commitments.getD ((vAt o.Book x.Verification).Commitment - 1).toNat default).Reservation - 1) = (cAt o.Book (vAt o.Book x.Verification).Commitment).Reservation - 1 := wrapId (by show _ ≤ (cAt o.Book (vAt o.Book x.Verification).Commitment).Reservation - 1; omega) (by show (cAt o.Book (vAt o.Book x.Verification).Commitment).Reservation - 1 < _; omega)
    rw [w3, guardP_pos ⟨by omega, by omega, trivial⟩]
    rfl
theorem zW_np : ¬ WPl zW := fun h => by have := h.1.1; unfold numP at this; simp [zW] at this
theorem sign_zW (keys : List Int) (b : Bool) : signV keys zW b = (zW, 1) := by
  unfold signV
  rw [if_pos zW_np]
def w0 (c : TTreasurymakeCase) : TApiWarrant := mkW c.Office (ord0 c.Office) 7
def nextV (d : Int) : Int := if d % 7 < 5 then d else d + (7 - d % 7)
theorem cal_Valid_eq (d : Int) : F_calendar_Valid d = some (decide (0 ≤ d ∧ d ≤ 36000)) := by
  simp only [F_calendar_Valid, S_calendar_Valid, Scr.den, cond_and]
  congr 1
  rw [Bool.eq_iff_iff]; simp
theorem tmod7 {d : Int} (h : 0 ≤ d) : d.tmod 7 = d % 7 := Int.tmod_eq_emod_of_nonneg h
theorem calNext_eq {d : Int} (h0 : 0 ≤ d) (h1 : d ≤ 35990) : F_calendar_Next d = some (nextV d, 0) := by
  have hs : ∀ x : Int, 0 ≤ x → x ≤ 36000 → (S_calendar_Next_b1 x).den = some (if x % 7 < 5 then Step.ret (x, 0) else Step.cont (x + 1)) := fun x a b => by
    simp only [S_calendar_Next_b1, Scr.den, F_calendar_Business, S_calendar_Business, cal_Valid_eq, obind, cond_and, tmod7 a]
    rw [decide_eq_true (show 0 ≤ x ∧ x ≤ 36000 from ⟨a, b⟩), if_pos rfl]
    by_cases c : x % 7 < 5
    · rw [if_pos (by simp [c]), if_pos c]
    · rw [if_neg (by simp [c]), if_neg c, wrapId (by omega) (by omega)]
  simp only [F_calendar_Next, S_calendar_Next, Scr.den]
  unfold nextV
  by_cases c : d % 7 < 5
  · rw [iterM_eq, hs d h0 (by omega), if_pos c, if_pos c]; rfl
  rw [iterM_eq, hs d h0 (by omega), if_neg c, if_neg c]
  simp only
  by_cases c2 : (d + 1) % 7 < 5
  · rw [iterM_eq, hs (d + 1) (by omega) (by omega), if_pos c2, show d + (7 - d % 7) = d + 1 by omega]; rfl
  rw [iterM_eq, hs (d + 1) (by omega) (by omega), if_neg c2]
  simp only
  rw [iterM_eq, hs (d + 1 + 1) (by omega) (by omega), if_pos (by omega), show d + (7 - d % 7) = d + 1 + 1 by omega]; rfl
def yearV (w : TApiWarrant) (d : Int) : Int := if (0 ≤ d ∧ d ≤ 36000) ∧ w.Day ≤ d ∧ d / 360 ≤ w.Year + 1 then 0 else 16
def dueV (w : TApiWarrant) (d : Int) : Int := if d < nextV w.Due then 21 else 0
def fundsV (o : TApiOffice) (w : TApiWarrant) (p : TApiPot) : Int := if usedV o.Book w.Code w.Year > p.Granted.getD (w.Office - 1).toNat default then 15 else 0
theorem optD_no {α : Type} {gs : List Prop} {k : Option α} {d : α} (h : ¬ AllP gs) : optD gs k d = some d := by unfold optD; rw [if_neg h]
theorem year_eq20 {w : TApiWarrant} (hw : WPl w) (d : Int) : F_control_year w d = some (yearV w d) := by
  have hy := hw.2.2.2.1
  simp only [F_control_year, S_control_year, Scr.den, cal_Valid_eq, obind, cond_or, Year_eq]
  rw [wrapId (n := w.Year + 1) (by omega) (by omega)]
  unfold yearV
  by_cases c : (0 ≤ d ∧ d ≤ 36000) ∧ w.Day ≤ d
  · rw [optD_pos (by simp [AllP, c.1]; omega)]
    simp only [obind]
    have e : yr d = d / 360 := by unfold yr; rw [if_pos c.1]
    rw [e]
    by_cases c2 : d / 360 ≤ w.Year + 1
    · rw [if_neg (by simp [c.1]; omega), if_pos ⟨c.1, c.2, c2⟩]
    · rw [if_pos (by simp only [Bool.or_eq_true, decide_eq_true_eq]; exact .inr (Int.not_le.1 c2)), if_neg (fun h => c2 h.2.2)]
  · have hb : ((!decide (0 ≤ d ∧ d ≤ 36000)) || decide (d < w.Day)) = true := by
      rw [Bool.or_eq_true, Bool.not_eq_true', decide_eq_false_iff_not, decide_eq_true_eq]
      by_cases k : 0 ≤ d ∧ d ≤ 36000
      · exact .inr (Int.not_le.1 fun q => c ⟨k, q⟩)
      · exact .inl k
    rw [optD_no (by simp only [AllP, and_true, hb]; decide)]
    simp only [obind]
    rw [hb, if_pos (by simp), if_neg (fun h => c ⟨h.1, h.2.1⟩)]
theorem due_eq20 {w : TApiWarrant} (hw : WPl w) (d : Int) : F_control_due w d = some (dueV w d) := by
  have hd : dayP w.Due := hw.2.2.2.2.2.2
  simp only [F_control_due, S_control_due, Scr.den, calNext_eq hd.1 hd.2, obind]
  unfold dueV
  by_cases c : d < nextV w.Due
  · rw [if_pos (by simpa using c), if_pos c]
  · rw [if_neg (by simpa using c), if_neg c]
theorem sum1 {g : Int} (h0 : 0 ≤ g) (h1 : g ≤ 1000000000000000) : F_rights_sum [g] = some g := by
  simp only [F_rights_sum, S_rights_sum, Scr.den, List.length_cons, List.length_nil, rangeM, S_rights_sum_b1]
  simp only [outM]
  rw [show IntKind.i64.wrap (0 + ([g] : List Int).getD 0 default) = g from (congrArg IntKind.i64.wrap (Int.zero_add g)).trans (wrapId (by omega) (by omega))]
theorem drop_take1 {l : List Int} {k : Nat} (h : k < l.length) : (l.drop k).take (k + 1 - k) = [l.getD k default] := by
  rw [show k + 1 - k = 1 by omega, List.drop_eq_getElem_cons h, getD_el h]
  rfl
theorem funds_eq20 {w : TApiWarrant} {o : TApiOffice} {p : TApiPot} (hG : ∀ x ∈ p.Granted, 0 ≤ x ∧ x ≤ 1000000000000000) (hH : p.Heard.length = p.Granted.length) (hH0 : ∀ x ∈ p.Heard, x = 0) (hc : p.Code = w.Code) (hy : p.Year = w.Year)
    (h1 : 1 ≤ w.Office) (h2 : w.Office ≤ (p.Granted.length : Int)) (h3 : w.Office ≤ 1000) : F_control_funds w o p = some (fundsV o w p) := by
  simp only [F_control_funds, S_control_funds, Scr.den, cond_or, Used_eq, obind]
  have hk0 : (w.Office - 1).toNat < p.Granted.length := by omega
  rw [wrapId (n := w.Office - 1) (by omega) (by omega), wrapId (n := w.Office - 1 + 1) (by omega) (by omega), hc, hy, hH, if_neg (by simp; omega)]
  have hk : (w.Office - 1 + 1).toNat = (w.Office - 1).toNat + 1 := by omega
  have hg := hG (p.Granted.getD (w.Office - 1).toNat default) (getD_mem hk0)
  rw [hk, drop_take1 hk0, drop_take1 (l := p.Heard) (by omega)]
  have hz : p.Heard.getD (w.Office - 1).toNat default = 0 := hH0 _ (getD_mem (by omega))
  have hO : ∀ g : Int, 0 ≤ g → g ≤ 1000000000000000 → F_rights_Out ⟨[], 0, 0, [g], [0], [], []⟩ = some g := fun g a b => by
    simp only [F_rights_Out, S_rights_Out, Scr.den]
    rw [show (([g] : List Int).take ((if (([0] : List Int).length : Int) < (([g] : List Int).length : Int) then (([0] : List Int).length : Int) else (([g] : List Int).length : Int))).toNat) = [g] from rfl, show (([0] : List Int).take ((if (([0] : List Int).length : Int) < (([g] : List Int).length : Int) then (([0] : List Int).length : Int) else (([g] : List Int).length : Int))).toNat) = [0] from rfl, sum1 a b]
    simp only [obind]
    rw [sum1 (by omega) (by omega)]
    simp only [obind]
    rw [guardP_pos (by simp [AllP]), wrapId (by omega) (by omega), Int.sub_zero]
  rw [hz, hO _ hg.1 hg.2]
  simp only [obind]
  rw [guardP_pos ⟨by omega, by omega, by omega, by omega, by omega, trivial⟩]
  unfold fundsV
  by_cases c : usedV o.Book w.Code w.Year > p.Granted.getD (w.Office - 1).toNat default
  · rw [if_pos (by simpa using c), if_pos c]
  · rw [if_neg (by simpa using c), if_neg c]
theorem twice_nil (w : TApiWarrant) : F_control_twice w [] = some 0 := rfl
end Go.Proofs.YtclaojamgomjbaaGreatDoor
namespace Go.Proofs.YtclaojamgomjbaaGreatDoor
open Go Go.TA
def pB (w : TApiWarrant) (x : TApiOrder) : Bool := (x.Verification == w.Verification && x.Attempt == w.Attempt) && !x.Back
theorem pB_iff {w : TApiWarrant} {x : TApiOrder} : pB w x = true ↔ x.Verification = w.Verification ∧ x.Attempt = w.Attempt ∧ x.Back = false := by simp [pB, and_assoc]
theorem idx_order (l : List TApiOrder) (w : TApiWarrant) : F_slices_IndexFunc_Order_control_basis_1 l w = some (if l.any (pB w) = true then (l.findIdx (pB w) : Int) else -1) := by
  simp only [F_slices_IndexFunc_Order_control_basis_1, S_slices_IndexFunc_Order_control_basis_1, Scr.den]
  rw [idx_loop l (pB w) (fun i => (i : Int))]
  · by_cases h : l.any (pB w) = true
    · rw [if_pos h, if_pos h]; rfl
    · rw [if_neg h, if_neg h]; rfl
  · intro i hi
    simp only [S_slices_IndexFunc_Order_control_basis_1_b1, F_control_basis_1, S_control_basis_1, Scr.den, obind, cond_and]
    unfold pB
    split <;> rfl
theorem findIdx_is {α : Type} [Inhabited α] {l : List α} {p : α → Bool} (h : l.any p = true) : l.findIdx p < l.length ∧ p (l.getD (l.findIdx p) default) = true := by
  obtain ⟨x, hx, hp⟩ := List.any_eq_true.1 h
  have hlt : l.findIdx p < l.length := List.findIdx_lt_length_of_exists ⟨x, hx, hp⟩
  have := List.findIdx_getElem (xs := l) (p := p) (w := hlt)
  rw [getD_el hlt]
  exact ⟨hlt, this⟩
def zC : TControlChain := ⟨⟨0, 0, 0, 0, false⟩, ⟨0, 0, 0, 0⟩, ⟨0, 0, 0, 0, 0, 0, 0⟩, ⟨0, [], 0, 0, 0, 0⟩⟩
def vW (o : TApiOffice) (w : TApiWarrant) : TApiVerification := vAt o.Book w.Verification
def cW (o : TApiOffice) (w : TApiWarrant) : TApiCommitment := cAt o.Book (vW o w).Commitment
def rW (o : TApiOffice) (w : TApiWarrant) : TApiReservation := rAt o.Book (cW o w).Reservation
def oW (o : TApiOffice) (w : TApiWarrant) : TApiOrder := o.Book.Orders.getD (o.Book.Orders.findIdx (pB w)) default
def basisV (o : TApiOffice) (w : TApiWarrant) : TControlChain × Int :=
  if o.Number ≠ w.Office ∨ o.Book.Orders.any (pB w) = false then (zC, 17) else
  if (cW o w).Number ≠ w.Commitment ∨ (rW o w).Number ≠ w.Reservation then (zC, 17) else (⟨oW o w, vW o w, cW o w, rW o w⟩, 0)
theorem basis_at {o : TApiOffice} (hv : VO o) {w : TApiWarrant} (ha : o.Book.Orders.any (pB w) = true) : (1 ≤ w.Verification ∧ w.Verification ≤ o.Book.Verifications.length) ∧ (1 ≤ (vW o w).Commitment ∧ (vW o w).Commitment ≤ o.Book.Commitments.length) ∧
    (1 ≤ (cW o w).Reservation ∧ (cW o w).Reservation ≤ o.Book.Reservations.length) ∧ (cW o w).Number = (vW o w).Commitment ∧ (rW o w).Number = (cW o w).Reservation := by
  obtain ⟨hlt, hp⟩ := findIdx_is ha
  have ho := ordF hv hlt
  rw [pB_iff] at hp
  obtain ⟨hR, hC, _, hV, _⟩ := hv.val
  obtain ⟨_, v0, _⟩ := ho
  rw [hp.1] at v0
  obtain ⟨_, v2, _⟩ := hV.at v0
  obtain ⟨c1, c2, _⟩ := hC.at v2
  obtain ⟨r1, _⟩ := hR.at c2
  exact ⟨v0, v2, c2, c1, r1⟩
theorem basis_eq20 {o : TApiOffice} (hv : VO o) (w : TApiWarrant) : F_control_basis w o = some (basisV o w) := by
  obtain ⟨_, _, _, _, _, _, l1, l2, l3, l4⟩ := hv.val
  simp only [F_control_basis, S_control_basis, Scr.den, officeValid_true hv, idx_order, obind, cond_or]
  rw [if_neg (by decide)]
  unfold basisV
  by_cases ha : o.Book.Orders.any (pB w) = true
  · obtain ⟨hlt, _⟩ := findIdx_is ha
    obtain ⟨v0, v2, c2, c1, r1⟩ := basis_at hv ha
    rw [if_pos ha]
    by_cases hn : o.Number = w.Office
    · have w1 : IntKind.i64.wrap (w.Verification - 1) = w.Verification - 1 := wrapId (by omega) (by omega)
      rw [if_neg (by simp [hn]), if_neg (show ¬ (o.Number ≠ w.Office ∨ o.Book.Orders.any (pB w) = false) from fun k => k.elim (fun q => q hn) (fun q => by rw [ha] at q; cases q)), w1, guardP_pos ⟨by omega, by omega, by omega, by omega, trivial⟩]
      have w2 : IntKind.i64.wrap ((o.Book.Verifications.getD (w.Verification - 1).toNat default).Commitment - 1) = (vW o w).Commitment - 1 := wrapId (by show _ ≤ (vW o w).Commitment - 1; omega) (by show (vW o w).Commitment - 1 < _; omega)
      rw [w2, guardP_pos ⟨by omega, by omega, trivial⟩]
      have w3 : IntKind.i64.wrap ((o.Book.Commitments.getD ((vW o w).Commitment - 1).toNat default).Reservation - 1) = (cW o w).Reservation - 1 := wrapId (by show _ ≤ (cW o w).Reservation - 1; omega) (by show (cW o w).Reservation - 1 < _; omega)
      rw [w3, guardP_pos ⟨by omega, by omega, trivial⟩]
      by_cases hc : (cW o w).Number ≠ w.Commitment ∨ (rW o w).Number ≠ w.Reservation
      · rw [if_pos (by
          rw [Bool.or_eq_true]
          rcases hc with k | k
          · exact .inl (bne_iff_ne.2 k)
          · exact .inr (bne_iff_ne.2 k)), if_pos hc]
        rfl
      · rw [if_neg (by
          rw [Bool.or_eq_true]
          rintro (k | k)
          · exact hc (.inl (bne_iff_ne.1 k))
          · exact hc (.inr (bne_iff_ne.1 k))), if_neg hc]
        rfl
    · rw [if_pos (by simp [hn]), if_pos (.inl hn)]
      rfl
  · have ha : o.Book.Orders.any (pB w) = false := by simpa using ha
    rw [ha, if_neg (show ¬ (false = true) by decide), if_pos (show (o.Number != w.Office || decide ((-1 : Int) < 0)) = true by simp), if_pos (show o.Number ≠ w.Office ∨ false = false from .inr rfl)]
    rfl
def amountV (o : TApiOffice) (w : TApiWarrant) : Int :=
  if (basisV o w).2 ≠ 0 then 17 else
  if w.Amount ≠ (vW o w).Amount ∨ w.Payee ≠ (cW o w).Payee ∨ w.Due ≠ (cW o w).Due ∨ w.Code ≠ (rW o w).Code ∨ w.Year ≠ (rW o w).Year ∨ w.Day ≠ (oW o w).Day then 15 else 0
theorem basisV_is {o : TApiOffice} {w : TApiWarrant} (h : (basisV o w).2 = 0) : basisV o w = (⟨oW o w, vW o w, cW o w, rW o w⟩, 0) := by
  unfold basisV at h ⊢
  by_cases c1 : o.Number ≠ w.Office ∨ o.Book.Orders.any (pB w) = false
  · rw [if_pos c1] at h; cases h
  · rw [if_neg c1] at h ⊢
    by_cases c2 : (cW o w).Number ≠ w.Commitment ∨ (rW o w).Number ≠ w.Reservation
    · rw [if_pos c2] at h; cases h
    · rw [if_neg c2]
theorem amount_eq20 {o : TApiOffice} (hv : VO o) (w : TApiWarrant) : F_control_amount w o = some (amountV o w) := by
  simp only [F_control_amount, S_control_amount, Scr.den, basis_eq20 hv, obind, cond_or]
  unfold amountV
  by_cases h : (basisV o w).2 = 0
  · rw [if_neg (show ¬ ((basisV o w).2 != 0) = true by simp [h]), if_neg (show ¬ (basisV o w).2 ≠ 0 from fun k => k h), basisV_is h]
    by_cases c : w.Amount ≠ (vW o w).Amount ∨ w.Payee ≠ (cW o w).Payee ∨ w.Due ≠ (cW o w).Due ∨ w.Code ≠ (rW o w).Code ∨ w.Year ≠ (rW o w).Year ∨ w.Day ≠ (oW o w).Day
    · rw [if_pos (by simpa [or_assoc] using c), if_pos c]
    · rw [if_neg (by simpa [or_assoc] using c), if_neg c]
  · rw [if_pos (by simpa using h), if_pos h]
def ctlL (a b c d e f g h : Int) : List TApiCheck := [⟨1, a⟩, ⟨2, b⟩, ⟨3, c⟩, ⟨4, d⟩, ⟨5, e⟩, ⟨6, f⟩, ⟨7, g⟩, ⟨8, h⟩]
def firstV : List TApiCheck → Int
  | [] => 0
  | c :: l => if c.Errs ≠ 0 then c.Errs else firstV l
theorem firstV_is : ∀ l : List TApiCheck, firstV l = if l.any (fun c => c.Errs != 0) = true then (l.getD (l.findIdx fun c => c.Errs != 0) default).Errs else 0
  | [] => rfl
  | c :: l => by
    have ih := firstV_is l
    by_cases h : c.Errs = 0
    · have hb : (c.Errs != 0) = false := by simp [h]
      rw [List.any_cons, hb, Bool.false_or, List.findIdx_cons, hb]
      show (if c.Errs ≠ 0 then c.Errs else firstV l) = _
      rw [if_neg (fun k => k h), ih]
      rfl
    · have hb : (c.Errs != 0) = true := by simp [h]
      rw [List.any_cons, hb, Bool.true_or, List.findIdx_cons, hb]
      show (if c.Errs ≠ 0 then c.Errs else firstV l) = _
      rw [if_pos h]
      rfl
theorem First_eq20 (l : List TApiCheck) : F_control_First l = some (firstV l) := by
  simp only [F_control_First, S_control_First, Scr.den]
  rw [idx_loop l (fun c => c.Errs != 0) (fun i => (l.getD i default).Errs), firstV_is]
  · by_cases h : l.any (fun c => c.Errs != 0) = true
    · rw [if_pos h, if_pos h]; rfl
    · rw [if_neg h, if_neg h]; rfl
  · intro i hi
    simp only [S_control_First_b1, Scr.den]
    split <;> rfl
theorem Control_eq20 {keys : List Int} {w : TApiWarrant} {o : TApiOffice} {p : TApiPot} {paid : List TApiWarrant} {t : Int} (ht : F_control_twice w paid = some t) (d : Int) (hw : WPl w) (hv : VO o) (hf : F_control_funds w o p = some (fundsV o w p)) :
    F_control_Control keys w o paid p d = some (ctlL 0 (checkV keys w) (basisV o w).2 (amountV o w) t (yearV w d) (dueV w d) (fundsV o w p)) := by
  have hc := hw.len
  have hp : F_warrant_Plain w = some true := (Plain_eq (by omega)).trans (congrArg some (@decide_eq_true _ (_) hw))
  have h1 : F_control_Control_1 = some 0 := rfl
  have h2 : F_control_Control_2 keys w = some (checkV keys w) := by
    simp only [F_control_Control_2, S_control_Control_2, Scr.den, Check_eq (show w.Code.length ≤ 1000000 by omega), obind]
  have h3 : F_control_Control_3 w o = some (basisV o w).2 := by
    simp only [F_control_Control_3, S_control_Control_3, F_control_rests, S_control_rests, Scr.den, basis_eq20 hv, obind]
  have h4 : F_control_Control_4 w o = some (amountV o w) := by
    simp only [F_control_Control_4, S_control_Control_4, Scr.den, amount_eq20 hv, obind]
  have h5 : F_control_Control_5 w paid = some t := by
    simp only [F_control_Control_5, S_control_Control_5, Scr.den, ht, obind]
  have h6 : F_control_Control_6 w d = some (yearV w d) := by
    simp only [F_control_Control_6, S_control_Control_6, Scr.den, year_eq20 hw, obind]
  have h7 : F_control_Control_7 w d = some (dueV w d) := by
    simp only [F_control_Control_7, S_control_Control_7, Scr.den, due_eq20 hw, obind]
  have h8 : F_control_Control_8 w o p = some (fundsV o w p) := by
    simp only [F_control_Control_8, S_control_Control_8, Scr.den, hf, obind]
  simp only [F_control_Control, S_control_Control, Scr.den, hp, h1, h2, h3, h4, h5, h6, h7, h8, obind, if_true, outM_next]
  rw [guardP_pos (by simp [AllP])]
  rw [guardP_pos (by simp [AllP])]
  rw [guardP_pos (by simp [AllP])]
  rw [guardP_pos (by simp [AllP])]
  rw [guardP_pos (by simp [AllP])]
  rw [guardP_pos (by simp [AllP])]
  rw [guardP_pos (by simp [AllP])]
  rfl
end Go.Proofs.YtclaojamgomjbaaGreatDoor
namespace Go.Proofs.YtclaojamgomjbaaGreatDoor
open Go Go.TA
end Go.Proofs.YtclaojamgomjbaaGreatDoor
namespace Go.Proofs.YtclaojamgomjbaaGreatDoor
open Go Go.TA
def pot20 : TApiPot := ⟨[49], 12, 50, [50], [0], [0], [0]⟩
def s20 : TApiWarrant := signed [3, 4] w19
def x20 : TApiWarrant := ⟨7, 1, [49], 12, 1, 1, 1, 1, 31, 2, 4340, 4400, s20.First, s20.Second⟩
theorem x20_plain : WPl x20 := of_decide_eq_true (by kernel_rfl)
theorem funds20 {w : TApiWarrant} (h1 : w.Office = 1) (h2 : w.Code = [49]) (h3 : w.Year = 12) : F_control_funds w o19 pot20 = some (fundsV o19 w pot20) :=
  funds_eq20 (fun x hx => by have : x = 50 := by simpa [pot20] using hx
                             omega) rfl (fun x hx => by simpa [pot20] using hx) h2.symm h3.symm (by omega) (by rw [h1]; decide) (by omega)
theorem fundsV20 {w : TApiWarrant} (h2 : w.Code = [49]) (h1 : w.Office = 1) (h3 : w.Year = 12) : fundsV o19 w pot20 = 0 := by
  unfold fundsV
  rw [h1, h2, h3]
  exact if_neg (by decide)
theorem yd20 {w : TApiWarrant} (h1 : w.Day = 4340) (h2 : w.Due = 4400) (h3 : w.Year = 12) : yearV w 4410 = 0 ∧ dueV w 4410 = 0 := by
  unfold yearV dueV
  rw [h1, h2, h3]
  decide
theorem two20 : 2 * ((1 : Int) - 1) + 1 < (([3, 4] : List Int).length : Int) := by decide
theorem ctl20 {t : Int} {paid : List TApiWarrant} (ht : F_control_twice s20 paid = some t) : F_control_Control [3, 4] s20 o19 paid pot20 4410 = some (ctlL 0 0 0 0 t 0 0 0) := by
  rw [Control_eq20 ht 4410 (with2_plain (with1_plain w19_plain _) _) o19_vo (funds20 rfl rfl rfl), show checkV [3, 4] s20 = 0 from check_signed w19_plain two20, fundsV20 rfl rfl rfl, (yd20 (w := s20) rfl rfl rfl).1, (yd20 (w := s20) rfl rfl rfl).2]
  rfl
theorem ctl20x : F_control_Control [3, 4] (signed [3, 4] x20) o19 [] pot20 4410 = some (ctlL 0 0 0 15 0 0 0 0) := by
  rw [Control_eq20 (w := signed [3, 4] x20) (twice_nil _) 4410 (with2_plain (with1_plain x20_plain _) _) o19_vo (funds20 rfl rfl rfl), check_signed x20_plain two20, fundsV20 rfl rfl rfl, (yd20 (w := signed [3, 4] x20) rfl rfl rfl).1, (yd20 (w := signed [3, 4] x20) rfl rfl rfl).2]
  rfl
theorem awake20 : F_w20_awake = some true := by
  have hc : w19.Code.length ≤ 1000000 := by decide
  have m0 : F_r19_Make o19 1 7 = some (w19, 0) := (r19_Make_eq o19_vo (i := 0) (n := 7) (by decide) (by decide)).trans (by rw [if_neg (by decide)]; rfl)
  have sg : F_mk_Signed ⟨[3, 4], o19, pot20, [], 4410⟩ 1 7 = some (s20, true) := by
    simp only [F_mk_Signed, S_mk_Signed, Scr.den, m0, obind, cond_and]
    rw [r19_Sign_eq hc, sign1 w19_plain two20]
    simp only [obind]
    rw [r19_Sign_eq (show (with1 w19 (sg1 [3, 4] w19)).Code.length ≤ 1000000 from hc), sign2 w19_plain two20]
    rfl
  have f0 : ∀ t, F_control_First (ctlL 0 0 0 0 t 0 0 0) = some t := fun t => by
    rw [First_eq20]
    simp [firstV, ctlL]
    exact fun h => h.symm
  have p1 : F_control_Pays [3, 4] s20 o19 [] pot20 4410 = some ([s20], 0) := by
    simp only [F_control_Pays, S_control_Pays, Scr.den, ctl20 (twice_nil _), f0, obind]
    rw [if_neg (by decide), Add_eq19 (by decide) List.Pairwise.nil (show s20.Code.length ≤ 1000000 from hc)]
    simp only [obind]
    unfold addV
    rw [if_neg (fun k => k (with2_plain (with1_plain w19_plain _) _))]
    rfl
  have p2 : ∃ l, F_control_Pays [3, 4] s20 o19 [s20] pot20 4410 = some (l, 7) := by
    simp only [F_control_Pays, S_control_Pays, Scr.den, ctl20 (paid := [s20]) (t := 7) rfl, f0, obind]
    rw [if_pos (by decide)]
    exact ⟨_, rfl⟩
  obtain ⟨l, p2⟩ := p2
  have sm : F_w20_small = some ⟨[3, 4], o19, pot20, [], 4410⟩ := rfl
  simp only [F_w20_awake, S_w20_awake, Scr.den, sm, sg, p1, p2, obind, cond_or]
  rw [show (⟨s20.Number, s20.Office, s20.Code, s20.Year, s20.Verification, s20.Attempt, s20.Commitment, s20.Reservation, IntKind.i64.wrap (s20.Amount + 1), s20.Payee, s20.Day, s20.Due, s20.First, s20.Second⟩ : TApiWarrant) = x20 from rfl,
    r19_Sign_eq (w := x20) hc, sign1 x20_plain two20]
  simp only [obind]
  rw [r19_Sign_eq (show (with1 x20 (sg1 [3, 4] x20)).Code.length ≤ 1000000 from hc), sign2 x20_plain two20]
  simp only [obind]
  rw [ctl20x]
  rfl
end Go.Proofs.YtclaojamgomjbaaGreatDoor
namespace Go.Proofs.YtclaojamgomjbaaGreatDoor
open Go Go.TA
theorem Delete_eq20 {l : List TApiWarrant} {i : Nat} (hi : i < l.length) (hl : l.length ≤ 1000000) : F_slices_Delete_Warrant (i : Int) ((i : Int) + 1) l = some (l.eraseIdx i) := by
  simp only [F_slices_Delete_Warrant, S_slices_Delete_Warrant, Scr.den]
  have e1 : ((i : Int) + 1).toNat = i + 1 := by omega
  simp only [e1, Int.toNat_natCast, Nat.sub_zero, Nat.zero_add]
  rw [guardP_pos ⟨by omega, by omega, by omega, by omega, trivial⟩, if_neg (by simp; omega), guardP_pos ⟨by omega, by omega, trivial⟩, guardP_pos ⟨by omega, by rw [copyL_length]; exact Nat.le_refl _, trivial⟩,
    guardP_pos ⟨by rw [clearL_length, copyL_length]; omega, trivial⟩, guardP_pos ⟨by rw [clearL_length, copyL_length]; omega, trivial⟩]
  congr 1
  refine List.ext_getElem ?_ fun j h1 h2 => ?_
  · rw [List.length_take, clearL_length, copyL_length, List.length_eraseIdx, if_pos hi]
    omega
  · rw [List.length_take, clearL_length, copyL_length] at h1
    rw [List.getElem_take, List.getElem_eraseIdx]
    simp only [clearL, List.getElem_mapIdx, copyL, List.getElem_map, List.getElem_range]
    rw [if_neg (by omega)]
    by_cases c : j < i
    · rw [if_neg (by omega), dif_pos c, getD_el (by omega)]
    · rw [if_pos (by omega), dif_neg c, getD_el (by omega)]
      congr 1
      omega
def numB (n : Int) (x : TApiWarrant) : Bool := x.Number == n
theorem Returned_eq20 {l : List TApiWarrant} (hl : l.length ≤ 1000000) (n : Int) : F_control_Returned l n = some (if l.any (numB n) = true then (l.eraseIdx (l.findIdx (numB n)), 0) else ([], 6)) := by
  have hx : F_slices_IndexFunc_Warrant_control_Returned_1 l n = some (if l.any (numB n) = true then (l.findIdx (numB n) : Int) else -1) := by
    simp only [F_slices_IndexFunc_Warrant_control_Returned_1, S_slices_IndexFunc_Warrant_control_Returned_1, Scr.den]
    rw [idx_loop l (numB n) (fun i => (i : Int))]
    · by_cases h : l.any (numB n) = true
      · rw [if_pos h, if_pos h]; rfl
      · rw [if_neg h, if_neg h]; rfl
    · intro i hi
      simp only [S_slices_IndexFunc_Warrant_control_Returned_1_b1, F_control_Returned_1, S_control_Returned_1, Scr.den, obind]
      unfold numB
      split <;> rfl
  simp only [F_control_Returned, S_control_Returned, Scr.den, hx, obind]
  by_cases h : l.any (numB n) = true
  · obtain ⟨hlt, _⟩ := findIdx_is h
    rw [if_pos h, if_pos h, if_neg (by simp), wclone_eq hl]
    simp only [obind]
    rw [wrapId (by omega) (by omega), Delete_eq20 hlt hl]
    rfl
  · rw [if_neg h, if_neg h, if_pos (by decide)]
end Go.Proofs.YtclaojamgomjbaaGreatDoor
namespace Go.Proofs.YtclaojamgomjbaaGreatDoor
open Go Go.TA
theorem r19_Make_out {o : TApiOffice} (hv : VO o) {k : Int} (hk : ¬ (1 ≤ k ∧ k ≤ o.Book.Orders.length)) (n : Int) : F_r19_Make o k n = some (zW, 6) := by
  simp only [F_r19_Make, S_r19_Make, Scr.den, r15_Valid_true hv, obind, cond_or]
  rw [if_neg (by decide), if_pos (by simp only [Bool.or_eq_true, decide_eq_true_eq]; omega)]
  rfl
theorem signed_no {c : TTreasurymakeCase} {k n e : Int} (he : e ≠ 0) (h : F_r19_Make c.Office k n = some (zW, e)) : F_mk_Signed c k n = some (zW, false) := by
  have hz : zW.Code.length ≤ 1000000 := by decide
  simp only [F_mk_Signed, S_mk_Signed, Scr.den, cond_and, h, obind]
  rw [r19_Sign_eq hz, sign_zW]
  simp only [obind]
  rw [r19_Sign_eq hz, sign_zW]
  have : (e == 0) = false := by simpa using he
  simp [this]
theorem signed_at {c : TTreasurymakeCase} (hv : VO c.Office) (hk : 2 * (c.Office.Number - 1) + 1 < (c.Keys.length : Int)) {i : Nat} (hi : i < c.Office.Book.Orders.length)
    (hb : (c.Office.Book.Orders.getD i default).Back = false) {n : Int} (hn : numP n) : F_mk_Signed c ((i : Int) + 1) n = some (signed c.Keys (mkW c.Office (c.Office.Book.Orders.getD i default) n), true) := by
  have hp := mkW_plain hv hi hn
  simp only [F_mk_Signed, S_mk_Signed, Scr.den, cond_and]
  rw [r19_Make_eq hv hi hn, if_neg (by rw [hb]; decide)]
  have hoff : 2 * ((mkW c.Office (c.Office.Book.Orders.getD i default) n).Office - 1) + 1 < (c.Keys.length : Int) := hk
  generalize mkW c.Office (c.Office.Book.Orders.getD i default) n = w at hp hoff
  have hc := hp.len
  simp only [obind]
  rw [r19_Sign_eq (by omega), sign1 hp hoff]
  simp only [obind]
  rw [r19_Sign_eq (show (with1 w (sg1 c.Keys w)).Code.length ≤ 1000000 by show w.Code.length ≤ _; omega), sign2 hp hoff]
  rfl
theorem Signed_any {c : TTreasurymakeCase} (hv : VO c.Office) (hk : 2 * (c.Office.Number - 1) + 1 < (c.Keys.length : Int)) (k : Int) {n : Int} (hn : numP n) : F_mk_Signed c k n = some (zW, false) ∨
    ∃ i, i < c.Office.Book.Orders.length ∧ k = (i : Int) + 1 ∧ (c.Office.Book.Orders.getD i default).Back = false ∧ F_mk_Signed c k n = some (signed c.Keys (mkW c.Office (c.Office.Book.Orders.getD i default) n), true) := by
  by_cases h : 1 ≤ k ∧ k ≤ c.Office.Book.Orders.length
  · obtain ⟨i, rfl⟩ : ∃ i : Nat, k = (i : Int) + 1 := ⟨(k - 1).toNat, by omega⟩
    have hi : i < c.Office.Book.Orders.length := by omega
    by_cases hb : (c.Office.Book.Orders.getD i default).Back = true
    · exact .inl (signed_no (by decide) ((r19_Make_eq hv hi hn).trans (congrArg some (if_pos hb))))
    · have hb : (c.Office.Book.Orders.getD i default).Back = false := by simpa using hb
      exact .inr ⟨i, hi, rfl, hb, signed_at hv hk hi hb hn⟩
  · exact .inl (signed_no (by decide) (r19_Make_out hv h n))
def twiceV (w : TApiWarrant) (paid : List TApiWarrant) : Int := if paid.any (fun x => x.Number == w.Number) = true then 7 else if paid.any (fun x => x.Office == w.Office && x.Verification == w.Verification) = true then 20 else 0
end Go.Proofs.YtclaojamgomjbaaGreatDoor
namespace Go.Proofs.YtclaojamgomjbaaGreatDoor
open Go Go.TA
theorem twice_eq20 (w : TApiWarrant) (paid : List TApiWarrant) : F_control_twice w paid = some (twiceV w paid) := by
  have h1 : F_slices_IndexFunc_Warrant_control_twice_1 paid w = some (if paid.any (fun x => x.Number == w.Number) = true then (paid.findIdx (fun x => x.Number == w.Number) : Int) else -1) := by
    simp only [F_slices_IndexFunc_Warrant_control_twice_1, S_slices_IndexFunc_Warrant_control_twice_1, Scr.den]
    rw [idx_loop paid (fun x => x.Number == w.Number) (fun i => (i : Int))]
    · by_cases h : paid.any (fun x => x.Number == w.Number) = true
      · rw [if_pos h, if_pos h]; rfl
      · rw [if_neg h, if_neg h]; rfl
    · intro i hi
      simp only [S_slices_IndexFunc_Warrant_control_twice_1_b1, F_control_twice_1, S_control_twice_1, Scr.den, obind]
      split <;> rfl
  have h2 : F_slices_IndexFunc_Warrant_control_twice_2 paid w = some (if paid.any (fun x => x.Office == w.Office && x.Verification == w.Verification) = true then (paid.findIdx (fun x => x.Office == w.Office && x.Verification == w.Verification) : Int) else -1) := by
    simp only [F_slices_IndexFunc_Warrant_control_twice_2, S_slices_IndexFunc_Warrant_control_twice_2, Scr.den]
    rw [idx_loop paid (fun x => x.Office == w.Office && x.Verification == w.Verification) (fun i => (i : Int))]
    · by_cases h : paid.any (fun x => x.Office == w.Office && x.Verification == w.Verification) = true
      · rw [if_pos h, if_pos h]; rfl
      · rw [if_neg h, if_neg h]; rfl
    · intro i hi
      simp only [S_slices_IndexFunc_Warrant_control_twice_2_b1, F_control_twice_2, S_control_twice_2, Scr.den, obind, cond_and]
      split <;> rfl
  simp only [F_control_twice, S_control_twice, Scr.den, F_slices_CoF_Warrant_control_twice_1, S_slices_CoF_Warrant_control_twice_1, F_slices_CoF_Warrant_control_twice_2, S_slices_CoF_Warrant_control_twice_2, h1, h2, obind]
  unfold twiceV
  by_cases c1 : paid.any (fun x => x.Number == w.Number) = true
  · rw [if_pos c1, if_pos c1, if_pos (by simp)]
  · rw [if_neg c1, if_neg c1, if_neg (by decide)]
    by_cases c2 : paid.any (fun x => x.Office == w.Office && x.Verification == w.Verification) = true
    · rw [if_pos c2, if_pos c2, if_pos (by simp)]
    · rw [if_neg c2, if_neg c2, if_neg (by decide)]
theorem Pays_of {keys : List Int} {w : TApiWarrant} {o : TApiOffice} {paid : List TApiWarrant} {p : TApiPot} {d : Int} {l : List TApiCheck} (h : F_control_Control keys w o paid p d = some l) (hl : paid.length ≤ 1000) (hS : SrtW paid) (hc : w.Code.length ≤ 1000000) :
    F_control_Pays keys w o paid p d = some (if firstV l ≠ 0 then ([], firstV l) else addV paid w) := by
  simp only [F_control_Pays, S_control_Pays, Scr.den, h, First_eq20, obind]
  by_cases c : firstV l = 0
  · rw [if_neg (by simp [c]), if_neg (fun k => k c), Add_eq19 hl hS hc]
    rfl
  · rw [if_pos (by simpa using c), if_pos c]
theorem srt_nil : SrtW [] := List.Pairwise.nil
end Go.Proofs.YtclaojamgomjbaaGreatDoor
namespace Go.Proofs.YtclaojamgomjbaaGreatDoor
open Go Go.TA
end Go.Proofs.YtclaojamgomjbaaGreatDoor
namespace Go.Proofs.YtclaojamgomjbaaGreatDoor
open Go Go.TA
theorem amountV_is {o : TApiOffice} {w : TApiWarrant} (hb : (basisV o w).2 = 0) (h : amountV o w = 0) : w.Amount = (vW o w).Amount ∧ w.Payee = (cW o w).Payee ∧ w.Due = (cW o w).Due ∧ w.Day = (oW o w).Day := by
  unfold amountV at h
  rw [if_neg (show ¬ (basisV o w).2 ≠ 0 from fun k => k hb)] at h
  by_cases c : w.Amount ≠ (vW o w).Amount ∨ w.Payee ≠ (cW o w).Payee ∨ w.Due ≠ (cW o w).Due ∨ w.Code ≠ (rW o w).Code ∨ w.Year ≠ (rW o w).Year ∨ w.Day ≠ (oW o w).Day
  · rw [if_pos c] at h; cases h
  · simp only [not_or, ne_eq, Classical.not_not] at c
    exact ⟨c.1, c.2.1, c.2.2.1, c.2.2.2.2.2⟩
end Go.Proofs.YtclaojamgomjbaaGreatDoor
namespace Go.Proofs.YtclaojamgomjbaaGreatDoor
open Go Go.TA
end Go.Proofs.YtclaojamgomjbaaGreatDoor
namespace Go.Proofs.YtclaojamgomjbaaGreatDoor
open Go Go.TA
theorem officeValid_false {o : TApiOffice} (hs : SmO o) (hn : ¬ VO o) : F_office_Valid o = some false := (officeValid_eq hs).trans (congrArg some (@decide_eq_false _ (_) hn))
open Classical in
noncomputable def basisG (o : TApiOffice) (w : TApiWarrant) : TControlChain × Int := if VO o then basisV o w else (zC, 1)
open Classical in
noncomputable def amountG (o : TApiOffice) (w : TApiWarrant) : Int := if VO o then amountV o w else 17
def fundsG (o : TApiOffice) (w : TApiWarrant) (p : TApiPot) : Int :=
  if p.Code ≠ w.Code ∨ p.Year ≠ w.Year ∨ w.Office > (p.Granted.length : Int) ∨ w.Office > (p.Heard.length : Int) then 6 else
  if usedV o.Book w.Code w.Year > IntKind.i64.wrap (p.Granted.getD (w.Office - 1).toNat default - p.Heard.getD (w.Office - 1).toNat default) then 15 else 0
open Classical in
noncomputable def controlG (keys : List Int) (w : TApiWarrant) (o : TApiOffice) (paid : List TApiWarrant) (p : TApiPot) (d : Int) : List TApiCheck :=
  if WPl w then ctlL 0 (checkV keys w) (basisG o w).2 (amountG o w) (twiceV w paid) (yearV w d) (dueV w d) (fundsG o w p) else ctlL 1 1 1 1 1 1 1 1
theorem basis_gen {o : TApiOffice} (hs : SmO o) (w : TApiWarrant) : F_control_basis w o = some (basisG o w) := by
  unfold basisG
  by_cases hv : VO o
  · rw [basis_eq20 hv, if_pos hv]
  · simp only [F_control_basis, S_control_basis, Scr.den, officeValid_false hs hv, obind]
    rw [if_pos (by decide), if_neg hv]
    rfl
theorem amount_gen {o : TApiOffice} (hs : SmO o) (w : TApiWarrant) : F_control_amount w o = some (amountG o w) := by
  unfold amountG
  by_cases hv : VO o
  · rw [amount_eq20 hv, if_pos hv]
  · simp only [F_control_amount, S_control_amount, Scr.den, basis_gen hs, obind]
    unfold basisG
    rw [if_neg hv, if_pos (by decide), if_neg hv]
theorem sumG (g : Int) : F_rights_sum [g] = some (IntKind.i64.wrap g) := by
  simp only [F_rights_sum, S_rights_sum, Scr.den, List.length_cons, List.length_nil, rangeM, S_rights_sum_b1]
  simp only [outM]
  rw [show IntKind.i64.wrap (0 + ([g] : List Int).getD 0 default) = IntKind.i64.wrap g from congrArg IntKind.i64.wrap (Int.zero_add g)]
theorem outG (g h : Int) : F_rights_Out ⟨[], 0, 0, [g], [h], [], []⟩ = some (IntKind.i64.wrap (g - h)) := by
  simp only [F_rights_Out, S_rights_Out, Scr.den]
  rw [show (([g] : List Int).take ((if (([h] : List Int).length : Int) < (([g] : List Int).length : Int) then (([h] : List Int).length : Int) else (([g] : List Int).length : Int))).toNat) = [g] from rfl, show (([h] : List Int).take ((if (([h] : List Int).length : Int) < (([g] : List Int).length : Int) then (([h] : List Int).length : Int) else (([g] : List Int).length : Int))).toNat) = [h] from rfl, sumG]
  simp only [obind]
  rw [sumG]
  simp only [obind]
  rw [guardP_pos (by simp [AllP]), wrap_subl, wrap_subr]
theorem funds_gen {w : TApiWarrant} (o : TApiOffice) (p : TApiPot) (h1 : 1 ≤ w.Office) (h3 : w.Office ≤ 6) : F_control_funds w o p = some (fundsG o w p) := by
  simp only [F_control_funds, S_control_funds, Scr.den, cond_or, Used_eq, obind]
  rw [wrapId (n := w.Office - 1) (by omega) (by omega), wrapId (n := w.Office - 1 + 1) (by omega) (by omega)]
  unfold fundsG
  by_cases c : p.Code ≠ w.Code ∨ p.Year ≠ w.Year ∨ w.Office > (p.Granted.length : Int) ∨ w.Office > (p.Heard.length : Int)
  · rw [if_pos (by
      simp only [Bool.or_eq_true, decide_eq_true_eq, bne_iff_ne, Bool.not_eq_true', beq_eq_false_iff_ne]
      rcases c with c | c | c | c
      · exact .inl (.inl (.inl c))
      · exact .inl (.inl (.inr c))
      · exact .inl (.inr (by omega))
      · exact .inr (by omega)), if_pos c]
  · simp only [not_or, ne_eq, Classical.not_not] at c
    obtain ⟨c1, c2, c3, c4⟩ := c
    have hk0 : (w.Office - 1).toNat < p.Granted.length := by omega
    have hk : (w.Office - 1 + 1).toNat = (w.Office - 1).toNat + 1 := by omega
    rw [if_neg (by
      simp only [Bool.or_eq_true, decide_eq_true_eq, bne_iff_ne, Bool.not_eq_true', beq_eq_false_iff_ne, not_or, ne_eq, Classical.not_not]
      exact ⟨⟨⟨c1, c2⟩, by omega⟩, by omega⟩), if_neg (by
      rintro (k | k | k | k)
      · exact k c1
      · exact k c2
      · exact c3 k
      · exact c4 k), hk, drop_take1 hk0, drop_take1 (l := p.Heard) (by omega), outG]
    simp only [obind]
    rw [guardP_pos ⟨by omega, by omega, by omega, by omega, by omega, trivial⟩]
    by_cases c : usedV o.Book w.Code w.Year > IntKind.i64.wrap (p.Granted.getD (w.Office - 1).toNat default - p.Heard.getD (w.Office - 1).toNat default)
    · rw [if_pos (by simpa using c), if_pos c]
    · rw [if_neg (by simpa using c), if_neg c]
theorem Control_gen {keys : List Int} {w : TApiWarrant} {o : TApiOffice} (paid : List TApiWarrant) (p : TApiPot) (d : Int) (hs : SmO o) (hc : w.Code.length ≤ 1000000) :
    F_control_Control keys w o paid p d = some (controlG keys w o paid p d) := by
  unfold controlG
  by_cases hw : WPl w
  · have hp : F_warrant_Plain w = some true := (Plain_eq (by omega)).trans (congrArg some (@decide_eq_true _ (_) hw))
    have h1 : F_control_Control_1 = some 0 := rfl
    have h2 : F_control_Control_2 keys w = some (checkV keys w) := by
      simp only [F_control_Control_2, S_control_Control_2, Scr.den, Check_eq hc, obind]
    have h3 : F_control_Control_3 w o = some (basisG o w).2 := by
      simp only [F_control_Control_3, S_control_Control_3, F_control_rests, S_control_rests, Scr.den, basis_gen hs, obind]
    have h4 : F_control_Control_4 w o = some (amountG o w) := by
      simp only [F_control_Control_4, S_control_Control_4, Scr.den, amount_gen hs, obind]
    have h5 : F_control_Control_5 w paid = some (twiceV w paid) := by
      simp only [F_control_Control_5, S_control_Control_5, Scr.den, twice_eq20, obind]
    have h6 : F_control_Control_6 w d = some (yearV w d) := by
      simp only [F_control_Control_6, S_control_Control_6, Scr.den, year_eq20 hw, obind]
    have h7 : F_control_Control_7 w d = some (dueV w d) := by
      simp only [F_control_Control_7, S_control_Control_7, Scr.den, due_eq20 hw, obind]
    have h8 : F_control_Control_8 w o p = some (fundsG o w p) := by
      simp only [F_control_Control_8, S_control_Control_8, Scr.den, funds_gen o p hw.2.1.1 hw.2.1.2, obind]
    rw [if_pos hw]
    simp only [F_control_Control, S_control_Control, Scr.den, hp, h1, h2, h3, h4, h5, h6, h7, h8, obind, if_true, outM_next]
    rw [guardP_pos (by simp [AllP])]
    rw [guardP_pos (by simp [AllP])]
    rw [guardP_pos (by simp [AllP])]
    rw [guardP_pos (by simp [AllP])]
    rw [guardP_pos (by simp [AllP])]
    rw [guardP_pos (by simp [AllP])]
    rw [guardP_pos (by simp [AllP])]
    rfl
  · have hp : F_warrant_Plain w = some false := (Plain_eq (by omega)).trans (congrArg some (@decide_eq_false _ (_) hw))
    rw [if_neg hw]
    simp only [F_control_Control, S_control_Control, Scr.den, hp, obind, Bool.false_eq_true, if_false, outM_next]
    rw [guardP_pos (by simp [AllP])]
    rw [guardP_pos (by simp [AllP])]
    rw [guardP_pos (by simp [AllP])]
    rw [guardP_pos (by simp [AllP])]
    rw [guardP_pos (by simp [AllP])]
    rw [guardP_pos (by simp [AllP])]
    rw [guardP_pos (by simp [AllP])]
    rfl
theorem firstV_zero {a b c d e f g h : Int} (k : firstV (ctlL a b c d e f g h) = 0) : a = 0 ∧ b = 0 ∧ c = 0 ∧ d = 0 ∧ e = 0 ∧ f = 0 ∧ g = 0 ∧ h = 0 := by
  unfold ctlL at k
  simp only [firstV] at k
  by_cases h1 : a = 0
  · by_cases h2 : b = 0
    · by_cases h3 : c = 0
      · by_cases h4 : d = 0
        · by_cases h5 : e = 0
          · by_cases h6 : f = 0
            · by_cases h7 : g = 0
              · by_cases h8 : h = 0
                · exact ⟨h1, h2, h3, h4, h5, h6, h7, h8⟩
                · simp [h1, h2, h3, h4, h5, h6, h7, h8] at k
              · simp [h1, h2, h3, h4, h5, h6, h7] at k
            · simp [h1, h2, h3, h4, h5, h6] at k
          · simp [h1, h2, h3, h4, h5] at k
        · simp [h1, h2, h3, h4] at k
      · simp [h1, h2, h3] at k
    · simp [h1, h2] at k
  · simp [h1] at k
theorem Pays_gen {keys : List Int} {w : TApiWarrant} {o : TApiOffice} {paid : List TApiWarrant} (p : TApiPot) (d : Int) (hs : SmO o) (hl : paid.length ≤ 1000) (hS : SrtW paid) (hc : w.Code.length ≤ 1000000) :
    F_control_Pays keys w o paid p d = some (if firstV (controlG keys w o paid p d) ≠ 0 then ([], firstV (controlG keys w o paid p d)) else addV paid w) := Pays_of (Control_gen paid p d hs hc) hl hS hc
theorem control_ok {keys : List Int} {w : TApiWarrant} {o : TApiOffice} {paid : List TApiWarrant} {p : TApiPot} {d : Int} (h : firstV (controlG keys w o paid p d) = 0) :
    WPl w ∧ VO o ∧ (basisV o w).2 = 0 ∧ amountV o w = 0 ∧ twiceV w paid = 0 := by
  unfold controlG at h
  by_cases hw : WPl w
  · rw [if_pos hw] at h
    obtain ⟨_, _, h3, h4, h5, _⟩ := firstV_zero h
    unfold basisG at h3
    unfold amountG at h4
    by_cases hv : VO o
    · rw [if_pos hv] at h3 h4
      exact ⟨hw, hv, h3, h4, h5⟩
    · rw [if_neg hv] at h4
      cases h4
  · rw [if_neg hw] at h
    cases h
def Paid20 (o : TApiOffice) (l : List TApiWarrant) : Prop := SrtW l ∧ (∀ x ∈ l, (1 ≤ x.Verification ∧ x.Verification ≤ o.Book.Verifications.length) ∧ (vAt o.Book x.Verification).Amount = x.Amount) ∧
  ∀ x ∈ l, ∀ y ∈ l, x.Office = y.Office → x.Verification = y.Verification → x.Number = y.Number
theorem paid_nil (o : TApiOffice) : Paid20 o [] := ⟨srt_nil, fun _ h => (nomatch h), fun _ h => (nomatch h)⟩
theorem paid_erase {o : TApiOffice} {l : List TApiWarrant} (h : Paid20 o l) (i : Nat) : Paid20 o (l.eraseIdx i) :=
  ⟨h.1.sublist (List.eraseIdx_sublist l i), fun x hx => h.2.1 x (List.mem_of_mem_eraseIdx hx), fun x hx y hy => h.2.2 x (List.mem_of_mem_eraseIdx hx) y (List.mem_of_mem_eraseIdx hy)⟩
theorem twice_zero {w : TApiWarrant} {l : List TApiWarrant} (h : twiceV w l = 0) : ∀ x ∈ l, ¬ (x.Office = w.Office ∧ x.Verification = w.Verification) := by
  unfold twiceV at h
  intro x hx hq
  by_cases c1 : l.any (fun x => x.Number == w.Number) = true
  · rw [if_pos c1] at h; cases h
  · rw [if_neg c1, if_pos (List.any_eq_true.2 ⟨x, hx, by simp [hq]⟩)] at h
    cases h
theorem paid_add {keys : List Int} {w : TApiWarrant} {o : TApiOffice} {l : List TApiWarrant} {p : TApiPot} {d : Int} (hP : Paid20 o l) (h : firstV (controlG keys w o l p d) = 0) (h0 : (addV l w).2 = 0) : Paid20 o (addV l w).1 ∧ (addV l w).1.length = l.length + 1 := by
  obtain ⟨hw, hv, hb, ha, ht⟩ := control_ok h
  have hany : o.Book.Orders.any (pB w) = true := by
    unfold basisV at hb
    by_cases c1 : o.Number ≠ w.Office ∨ o.Book.Orders.any (pB w) = false
    · rw [if_pos c1] at hb; cases hb
    · cases hh : o.Book.Orders.any (pB w) with
      | true => rfl
      | false => exact absurd (.inr hh) c1
  have hat := basis_at hv hany
  have ham := (amountV_is hb ha).1
  have htw := twice_zero ht
  unfold addV at h0 ⊢
  rw [if_neg (fun k => k hw)] at h0 ⊢
  by_cases c1 : hasN l w.Number = true
  · rw [if_pos c1] at h0; cases h0
  rw [if_neg c1] at h0 ⊢
  by_cases c2 : (l.any fun x => sameB x w) = true
  · rw [if_pos c2] at h0; cases h0
  rw [if_neg c2] at h0 ⊢
  by_cases c3 : 200 ≤ l.length
  · rw [if_pos c3] at h0; cases h0
  rw [if_neg c3]
  refine ⟨⟨insL_srt hP.1 c1, fun x hx => ?_, fun x hx y hy h1 h2 => ?_⟩, insL_length⟩
  · rcases insL_mem.1 hx with rfl | hx
    · exact ⟨hat.1, ham.symm⟩
    · exact hP.2.1 x hx
  · rcases insL_mem.1 hx with hx' | hx'
    · rcases insL_mem.1 hy with hy' | hy'
      · rw [hx', hy']
      · exact absurd ⟨(h1.symm.trans (congrArg _ hx')), h2.symm.trans (congrArg _ hx')⟩ (htw y hy')
    · rcases insL_mem.1 hy with hy' | hy'
      · exact absurd ⟨h1.trans (congrArg _ hy'), h2.trans (congrArg _ hy')⟩ (htw x hx')
      · exact hP.2.2 x hx' y hy' h1 h2
theorem book_grow {b : TApiBook} {p : TApiOp} (h0 : (bookS b p).2 = 0) : ∃ l, (bookS b p).1.Verifications = b.Verifications ++ l := by
  unfold bookS at h0 ⊢
  by_cases c1 : p.Kind = 1
  · rw [if_pos c1] at h0 ⊢
    rw [(reserveS_inv h0).2.2.2.2.2]
    exact ⟨[], (List.append_nil _).symm⟩
  rw [if_neg c1] at h0 ⊢
  by_cases c2 : p.Kind = 2
  · rw [if_pos c2] at h0 ⊢
    rw [commitS_is h0]
    exact ⟨[], (List.append_nil _).symm⟩
  rw [if_neg c2] at h0 ⊢
  by_cases c3 : p.Kind = 3
  · rw [if_pos c3] at h0 ⊢
    rw [verifyS_is h0]
    exact ⟨_, rfl⟩
  rw [if_neg c3] at h0 ⊢
  by_cases c4 : p.Kind = 4
  · rw [if_pos c4] at h0 ⊢
    obtain ⟨l, e, _⟩ := orderS_is h0
    rw [e]
    exact ⟨[], (List.append_nil _).symm⟩
  rw [if_neg c4] at h0 ⊢
  by_cases c5 : p.Kind = 5
  · rw [if_pos c5] at h0 ⊢
    obtain ⟨_, _, _, _, _, e⟩ := releaseS_inv h0
    rw [e]
    exact ⟨[], (List.append_nil _).symm⟩
  rw [if_neg c5] at h0 ⊢
  by_cases c6 : p.Kind = 6
  · rw [if_pos c6] at h0 ⊢
    obtain ⟨_, x, e, _⟩ := dropS_is h0
    rw [e]
    exact ⟨[], (List.append_nil _).symm⟩
  rw [if_neg c6] at h0 ⊢
  obtain ⟨l, e, _⟩ := backS_is h0
  rw [e]
  exact ⟨[], (List.append_nil _).symm⟩
theorem do_grow {o : TApiOffice} {p : TApiOp} (h0 : (doS o p).2 = 0) : (∃ l, (doS o p).1.Book.Verifications = o.Book.Verifications ++ l) ∧ (doS o p).1.Number = o.Number := by
  obtain ⟨hv, _, e⟩ := doS_inv h0
  rw [e] at h0 ⊢
  by_cases c8 : p.Kind = 8
  · have e8 : stepS o p = hearS o p := by unfold stepS; rw [if_pos c8]
    rw [e8] at h0 ⊢
    obtain ⟨r, e1, _⟩ := hear_vo hv h0
    rw [e1]
    exact ⟨⟨[], (List.append_nil _).symm⟩, rfl⟩
  by_cases c7 : p.Kind = 7
  · have e7 : stepS o p = giveS o p := by unfold stepS; rw [if_neg c8, if_pos c7]
    rw [e7] at h0 ⊢
    obtain ⟨_, _, _, r, e1, _⟩ := give_vo hv h0
    rw [e1]
    exact ⟨⟨[], (List.append_nil _).symm⟩, rfl⟩
  obtain ⟨e1, e2, _⟩ := step_vo hv ⟨c7, c8⟩ h0
  rw [e1]
  exact ⟨book_grow e2, rfl⟩
theorem paid_do {o : TApiOffice} {p : TApiOp} {l : List TApiWarrant} (h0 : (doS o p).2 = 0) (hP : Paid20 o l) : Paid20 (doS o p).1 l := by
  obtain ⟨⟨v, e⟩, _⟩ := do_grow h0
  refine ⟨hP.1, fun x hx => ?_, hP.2.2⟩
  obtain ⟨h1, h2⟩ := hP.2.1 x hx
  refine ⟨⟨h1.1, by rw [e, List.length_append]; omega⟩, ?_⟩
  rw [← h2]
  unfold vAt
  rw [e]
  congr 1
  simp only [List.getD_eq_getElem?_getD]
  rw [List.getElem?_append_left (by omega)]
end Go.Proofs.YtclaojamgomjbaaGreatDoor
namespace Go.Proofs.YtclaojamgomjbaaGreatDoor
open Go Go.TA
def CK (c : TTreasurymakeCase) : Prop := (c.Keys.length : Int) = 6 ∧ VO c.Office ∧ 1 ≤ c.Office.Number ∧ c.Office.Number ≤ 3
def OK20 (i : Int) (s : TTape × TTreasurymakeCase × List TApiWarrant × Int) : Prop :=
  TapeOk s.1 ∧ CK s.2.1 ∧ Paid20 s.2.1.Office s.2.2.1 ∧ (s.2.2.1.length : Int) ≤ i ∧ 0 ≤ s.2.2.2 ∧ s.2.2.2 ≤ i
theorem once_b1 {sv1 : TTape × TTreasurymakeCase × List TApiWarrant × Int} (hP : Paid20 sv1.2.1.Office sv1.2.2.1) {i j : Nat} (hi : i < sv1.2.2.1.length) (hj : j < (sv1.2.2.1.take i).length) :
    (S_w20_ControlOnce_b1 sv1 i j ()).den = some (.cont ()) := by
  simp only [S_w20_ControlOnce_b1, Scr.den, cond_or, cond_and]
  rw [List.length_take] at hj
  have hji : j < i := by omega
  have e : (sv1.2.2.1.take i).getD j default = sv1.2.2.1.getD j default := by
    simp only [List.getD_eq_getElem?_getD]
    rw [List.getElem?_take_of_lt hji]
  rw [e]
  have h1 := hP.1.lt hji hi
  have h2 := hP.2.2 _ (getD_mem hi) _ (getD_mem (show j < sv1.2.2.1.length by omega))
  refine if_neg ?_
  simp only [Bool.or_eq_true, Bool.and_eq_true, beq_iff_eq]
  rintro (k | ⟨k1, k2⟩)
  · omega
  · have := h2 k1 k2
    omega
theorem once_b2 {sv1 : TTape × TTreasurymakeCase × List TApiWarrant × Int} (hP : Paid20 sv1.2.1.Office sv1.2.2.1) (hv : VO sv1.2.1.Office) {i : Nat} (hi : i < sv1.2.2.1.length) :
    (S_w20_ControlOnce_b2 sv1 i ()).den = some (.cont ()) := by
  obtain ⟨u, e, _⟩ := rangeM_inv (body := fun j s => (S_w20_ControlOnce_b1 sv1 i j s).den) (n := (sv1.2.2.1.take i).length) (fun _ _ => True) (s0 := ()) trivial (fun j s hj _ => ⟨(), once_b1 hP hi hj, trivial⟩)
  obtain ⟨_, _, _, _, _, _, l1, l2, l3, l4⟩ := hv.val
  obtain ⟨h1, h2⟩ := hP.2.1 _ (getD_mem hi)
  simp only [S_w20_ControlOnce_b2, Scr.den, cond_or]
  rw [guardP_pos ⟨by omega, trivial⟩, e]
  simp only [outM_next]
  generalize sv1.2.2.1.getD i default = x at h1 h2
  rw [wrapId (n := x.Verification - 1) (by omega) (by omega), guardP_pos ⟨fun _ => by omega, fun _ => by omega, trivial⟩]
  have h2 : (sv1.2.1.Office.Book.Verifications.getD (x.Verification - 1).toNat default).Amount = x.Amount := h2
  refine if_neg ?_
  rw [h2]
  simp only [Bool.or_eq_true, decide_eq_true_eq, bne_self_eq_false, Bool.false_eq_true, or_false]
  omega
def Mid20 {ρ : Type} (i : Int) (x : Option (Out (TTape × TTreasurymakeCase × List TApiWarrant × Int) (Step (TTape × TTreasurymakeCase × List TApiWarrant × Int × Int) ρ))) : Prop :=
  (∃ s, x = some (.next s) ∧ OK20 (i + 1) s) ∨ ∃ s : TTape × TTreasurymakeCase × List TApiWarrant × Int, x = some (.ret (.cont (s.1, s.2.1, s.2.2.1, s.2.2.2, i + 1))) ∧ OK20 (i + 1) s
theorem once_fin {i : Int} (h0 : 0 ≤ i) (h1 : i < 16) {x : Option (Out (TTape × TTreasurymakeCase × List TApiWarrant × Int) (Step (TTape × TTreasurymakeCase × List TApiWarrant × Int × Int) R_w20_ControlOnce))} (h : Mid20 i x) :
    ∃ s : TTape × TTreasurymakeCase × List TApiWarrant × Int, outM x (fun sv1 => outM (rangeM (fun i s => (S_w20_ControlOnce_b2 sv1 i s).den) sv1.2.2.1.length 0 ()) (fun _ => some (Step.cont (sv1.1, sv1.2.1, sv1.2.2.1, sv1.2.2.2, IntKind.i64.wrap (i + 1)))) (fun x => some (Step.ret x))) some = some (.cont (s.1, s.2.1, s.2.2.1, s.2.2.2, i + 1)) ∧ OK20 (i + 1) s := by
  rcases h with ⟨s, rfl, hs⟩ | ⟨s, rfl, hs⟩
  · obtain ⟨u, e, _⟩ := rangeM_inv (body := fun j t => (S_w20_ControlOnce_b2 s j t).den) (n := s.2.2.1.length) (fun _ _ => True) (s0 := ()) trivial (fun j t hj _ => ⟨(), once_b2 hs.2.2.1 hs.2.1.2.1 hj, trivial⟩)
    refine ⟨s, ?_, hs⟩
    simp only [outM_next]
    rw [e, wrapId (n := i + 1) (by omega) (by omega)]
    rfl
  · exact ⟨s, rfl, hs⟩
theorem once_b3 {t : TTape} {c : TTreasurymakeCase} {paid : List TApiWarrant} {n i : Int} (hs : OK20 i (t, c, paid, n)) (h0 : 0 ≤ i) (h16 : i < 16) :
    ∃ s : TTape × TTreasurymakeCase × List TApiWarrant × Int, (S_w20_ControlOnce_b3 (t, c, paid, n, i)).den = some (.cont (s.1, s.2.1, s.2.2.1, s.2.2.2, i + 1)) ∧ OK20 (i + 1) s := by
  obtain ⟨t0, ⟨hk, hv, hn1, hn3⟩, hP, hl, g1, g2⟩ := hs
  simp only at t0 hk hv hn1 hn3 hP hl g1 g2
  obtain ⟨a1, s1, e1, t1, x1, y1⟩ := N_spec (n := 15) t0 (by omega) (by omega)
  obtain ⟨a2, s2, e2, t2, x2, y2⟩ := N_spec (n := 4) t1 (by omega) (by omega)
  simp only [S_w20_ControlOnce_b3, Scr.den, e1, obind]
  rw [if_pos (show decide (i < 16) = true by simpa using h16)]
  simp only [e2, obind]
  refine once_fin h0 h16 ?_
  obtain ⟨dd, hdd⟩ : ∃ dd, dd = IntKind.i64.wrap (c.Day + a1) := ⟨_, rfl⟩
  rw [← hdd]
  have hwi : IntKind.i64.wrap (i + 1) = i + 1 := wrapId (by omega) (by omega)
  have hwn : IntKind.i64.wrap (n + 1) = n + 1 := wrapId (by omega) (by omega)
  rw [hwi, hwn]
  have stay : ∀ {s : TTape} {m : Int}, TapeOk s → n ≤ m → m ≤ n + 1 → OK20 (i + 1) (s, (⟨c.Keys, c.Office, c.Pot, c.Paid, dd⟩ : TTreasurymakeCase), paid, m) := fun ht m1 m2 => ⟨ht, ⟨hk, hv, hn1, hn3⟩, hP, by simp only; omega, by simp only; omega, by simp only; omega⟩
  by_cases k0 : a2 = 0
  · rw [if_pos (show (a2 == 0) = true by simp [k0])]
    by_cases hl0 : paid.length = 0
    · rw [if_pos (show ((paid.length : Int) == 0) = true by simp [hl0])]
      exact .inr ⟨(s2, (⟨c.Keys, c.Office, c.Pot, c.Paid, dd⟩ : TTreasurymakeCase), paid, n), rfl, stay t2 (by omega) (by omega)⟩
    · rw [if_neg (show ¬ ((paid.length : Int) == 0) = true by simpa using hl0)]
      obtain ⟨a3, s3, e3, t3, x3, y3⟩ := N_spec (n := (paid.length : Int)) t2 (by omega) (by omega)
      have ha3 : a3.toNat < paid.length := by omega
      have hany : paid.any (numB (paid.getD a3.toNat default).Number) = true := List.any_eq_true.2 ⟨_, getD_mem ha3, by simp [numB]⟩
      obtain ⟨hlt, _⟩ := findIdx_is hany
      have hlen : (paid.eraseIdx (paid.findIdx (numB (paid.getD a3.toNat default).Number))).length = paid.length - 1 := by rw [List.length_eraseIdx, if_pos hlt]
      rw [e3]
      simp only [obind]
      rw [guardP_pos ⟨x3, ha3, trivial⟩, Returned_eq20 (by omega), if_pos hany]
      simp only [obind]
      rw [wrapId (n := (paid.length : Int) - 1) (by omega) (by omega), hlen, if_neg (by
        rw [show (((paid.length - 1 : Nat) : Int) != (paid.length : Int) - 1) = false by
          rw [bne_eq_false_iff_eq]; omega]
        decide), r15_Do_eq hv.smO (by simp)]
      simp only [obind]
      have hPe := paid_erase hP (paid.findIdx (numB (paid.getD a3.toNat default).Number))
      by_cases hd : (doS c.Office ⟨9, [], 0, 0, (paid.getD a3.toNat default).Verification, 0, 0, 0, 0, 0⟩).2 = 0
      · rw [if_pos (beq_iff_eq.2 hd)]
        have hg := do_grow hd
        refine .inl ⟨_, rfl, t3, ⟨hk, do_vo hd, ?_, ?_⟩, paid_do hd hPe, ?_, g1, ?_⟩
        · show 1 ≤ (doS c.Office _).1.Number; rw [hg.2]; exact hn1
        · show (doS c.Office _).1.Number ≤ 3; rw [hg.2]; exact hn3
        · show ((paid.eraseIdx _).length : Int) ≤ _; rw [hlen]; omega
        · show n ≤ i + 1; omega
      · rw [if_neg (fun k => hd (beq_iff_eq.1 k))]
        refine .inl ⟨_, rfl, t3, ⟨hk, hv, hn1, hn3⟩, hPe, ?_, g1, ?_⟩
        · show ((paid.eraseIdx _).length : Int) ≤ _; rw [hlen]; omega
        · show n ≤ i + 1; omega
  rw [if_neg (show ¬ (a2 == 0) = true by simpa using k0)]
  by_cases k1 : a2 = 1
  · rw [if_pos (show (a2 == 1) = true by simp [k1])]
    obtain ⟨p, s3, e3, t3, p1, _⟩ := Op_spec' hv t2 dd
    rw [e3]
    simp only [obind]
    rw [r15_Do_eq hv.smO (by omega)]
    simp only [obind]
    by_cases hd : (doS c.Office p).2 = 0
    · rw [if_pos (by simp [hd])]
      have hg := do_grow hd
      refine .inl ⟨_, rfl, t3, ⟨hk, do_vo hd, ?_, ?_⟩, paid_do hd hP, ?_, g1, ?_⟩
      · show 1 ≤ (doS c.Office _).1.Number; rw [hg.2]; exact hn1
      · show (doS c.Office _).1.Number ≤ 3; rw [hg.2]; exact hn3
      · show (paid.length : Int) ≤ i + 1; omega
      · show n ≤ i + 1; omega
    · rw [if_neg (by simp [hd])]
      exact .inl ⟨_, rfl, stay t3 (by omega) (by omega)⟩
  rw [if_neg (show ¬ (a2 == 1) = true by simpa using k1)]
  obtain ⟨_, _, _, _, _, _, l1, l2, l3, l4⟩ := hv.val
  obtain ⟨a3, s3, e3, t3, x3, y3⟩ := Range_spec (lo := 1) (hi := if (c.Office.Book.Orders.length : Int) > 1 then (c.Office.Book.Orders.length : Int) else 1) t2 (by omega) (by split <;> omega) (by split <;> omega)
  rw [e3]
  simp only [obind]
  obtain ⟨a4, s4, e4, t4, x4, y4⟩ := Range_spec (lo := 1) (hi := n + 1) t3 (by omega) (by omega) (by omega)
  rw [e4]
  simp only [obind]
  have hnum : numP a4 := by unfold numP; omega
  have hoff : 2 * (c.Office.Number - 1) + 1 < (c.Keys.length : Int) := by omega
  obtain e5 | ⟨k, hk5, hk1, hb, e5⟩ := Signed_any (c := ⟨c.Keys, c.Office, c.Pot, c.Paid, dd⟩) hv hoff a3 hnum
  · rw [e5]
    simp only [obind]
    rw [if_pos (by decide)]
    exact .inr ⟨(s4, (⟨c.Keys, c.Office, c.Pot, c.Paid, dd⟩ : TTreasurymakeCase), paid, n + 1), rfl, stay t4 (by omega) (by omega)⟩
  · have hp : WPl (mkW c.Office (c.Office.Book.Orders.getD k default) a4) := mkW_plain hv hk5 hnum
    have hlw := hp.len
    have e5 : F_mk_Signed ⟨c.Keys, c.Office, c.Pot, c.Paid, dd⟩ a3 a4 = some (signed c.Keys (mkW c.Office (c.Office.Book.Orders.getD k default) a4), true) := e5
    have hlw : (signed c.Keys (mkW c.Office (c.Office.Book.Orders.getD k default) a4)).Code.length ≤ 1000000 := by show (mkW c.Office (c.Office.Book.Orders.getD k default) a4).Code.length ≤ _; omega
    rw [e5]
    generalize signed c.Keys (mkW c.Office (c.Office.Book.Orders.getD k default) a4) = w at hlw
    simp only [obind]
    rw [if_neg (by decide), Pays_gen c.Pot dd hv.smO (by omega) hP.1 hlw]
    simp only [obind]
    by_cases hf : firstV (controlG c.Keys w c.Office paid c.Pot dd) = 0
    · rw [if_neg (show ¬ firstV (controlG c.Keys w c.Office paid c.Pot dd) ≠ 0 from fun k => k hf)]
      by_cases ha : (addV paid w).2 = 0
      · obtain ⟨hPa, hla⟩ := paid_add hP hf ha
        rw [if_pos (by simp [ha])]
        refine .inl ⟨_, rfl, t4, ⟨hk, hv, hn1, hn3⟩, hPa, ?_, ?_, ?_⟩
        · show ((addV paid w).1.length : Int) ≤ i + 1; rw [hla]; omega
        · show 0 ≤ n + 1; omega
        · show n + 1 ≤ i + 1; omega
      · rw [if_neg (by simp [ha])]
        exact .inl ⟨_, rfl, stay t4 (by omega) (by omega)⟩
    · rw [if_pos hf, if_neg (show ¬ (firstV (controlG c.Keys w c.Office paid c.Pot dd) == 0) = true by simpa using hf)]
      exact .inl ⟨_, rfl, stay t4 (by omega) (by omega)⟩
theorem ControlOnce_eq (a : List Int) : F_w20_ControlOnce a = some true := by
  obtain ⟨s, e1, t1⟩ := New_spec a
  obtain ⟨c, s2, e2, t2, hI⟩ := Control_spec t1
  simp only [F_w20_ControlOnce, S_w20_ControlOnce, Scr.den, e1, e2, awake20, obind]
  obtain ⟨r, e, _⟩ := iterM_inv (step := fun s => (S_w20_ControlOnce_b3 s).den) (fun s : TTape × TTreasurymakeCase × List TApiWarrant × Int × Int => (16 - s.2.2.2.2).toNat)
    (fun s => OK20 s.2.2.2.2 (s.1, s.2.1, s.2.2.1, s.2.2.2.1) ∧ 0 ≤ s.2.2.2.2 ∧ s.2.2.2.2 ≤ 16) (fun _ => True) (fun st hI => by
    obtain ⟨t, c, paid, n, i⟩ := st
    obtain ⟨h1, h2, h3⟩ := hI
    simp only at h1 h2 h3
    by_cases h16 : i < 16
    · left
      obtain ⟨s', e3, h4⟩ := once_b3 h1 h2 h16
      exact ⟨_, e3, ⟨h4, by show 0 ≤ i + 1; omega, by show i + 1 ≤ 16; omega⟩, by show (16 - (i + 1)).toNat < (16 - i).toNat; omega⟩
    · right
      simp only [S_w20_ControlOnce_b3, Scr.den]
      rw [if_neg (show ¬ decide (i < 16) = true by simpa using h16)]
      exact ⟨_, rfl, trivial⟩) _ (s2, c, ([] : List TApiWarrant), 0, 0) (Nat.lt_succ_self _) ⟨⟨t2, ⟨hI.1, hI.2.1.1, hI.2.1.2.2.2⟩, paid_nil _, by simp, by simp, by simp⟩, by simp, by simp⟩
  rw [e]
  rfl
theorem ControlOnce_true (a : List Int) : F_w20_ControlOnce a = some true := ControlOnce_eq a
end Go.Proofs.YtclaojamgomjbaaGreatDoor
