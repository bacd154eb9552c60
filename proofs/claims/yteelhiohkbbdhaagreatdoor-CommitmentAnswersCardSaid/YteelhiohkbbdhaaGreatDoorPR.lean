/- A part of the proof: plain laws of what the functions compute. No condition. -/
import Derived.Test.YteelhiohkbbdhaaGreatDoorPQ
namespace Go.Proofs.YteelhiohkbbdhaaGreatDoor
open Go Go.TA

/-! ## What is used: by the sums -/
theorem sm_zero {α : Type} (l : List α) (p : α → Bool) : sm l p (fun _ => 0) = 0 := by
  induction l with
  | nil => rfl
  | cons x l ih => rw [sm_cons, ih]; split <;> rfl
theorem sm_one {α : Type} [Inhabited α] {num : α → Int} {q : Int → Bool} {p : α → Bool} (a : Int) : ∀ (l : List α) (i : Nat), i < l.length → (∀ j, j < l.length → j ≠ i → num (l.getD j default) ≠ num (l.getD i default)) → p (l.getD i default) = q (num (l.getD i default)) →
    sm l p (fun x => if (num (l.getD i default) == num x) = true then a else 0) = if q (num (l.getD i default)) = true then a else 0
  | [], i, hi, _, _ => by simp at hi
  | x :: l, 0, hi, hd, hp => by
    rw [List.getD_cons_zero] at hp hd ⊢
    rw [sm_cons, hp]
    have : sm l p (fun y => if (num x == num y) = true then a else 0) = sm l p (fun _ => 0) := sm_congr fun y hy => by
      obtain ⟨j, hj, e⟩ := mem_getD hy
      have := hd (j + 1) (by simp; omega) (by omega)
      rw [List.getD_cons_succ, e] at this
      have e2 : (num x == num y) = false := by simpa using fun h => this h.symm
      rw [e2]; simp
    rw [this, sm_zero]
    simp
  | x :: l, i + 1, hi, hd, hp => by
    rw [List.getD_cons_succ] at hp hd ⊢
    rw [sm_cons, sm_one a l i (by simpa using hi) (fun j hj hji => by
      have := hd (j + 1) (by simp; omega) (by omega)
      rwa [List.getD_cons_succ] at this) hp]
    have := hd 0 (by simp) (by omega)
    rw [List.getD_cons_zero] at this
    have e2 : (num (l.getD i default) == num x) = false := by simpa using fun h => this h.symm
    rw [e2]; simp
/-- Sums over the entries of each member, and over all entries: the same, if each entry is one member's. -/
theorem sm_swap {α β : Type} [Inhabited α] {num : α → Int} {key : β → Int} {q : Int → Bool} {p : α → Bool} {f : β → Int} (l : List α) (hn : ∀ i, i < l.length → num (l.getD i default) = (i : Int) + 1) (hp : ∀ x ∈ l, p x = q (num x)) : ∀ (m : List β), (∀ y ∈ m, 1 ≤ key y ∧ key y ≤ l.length) →
    sm l p (fun x => sm m (fun y => key y == num x) f) = sm m (fun y => q (key y)) f
  | [], _ => by simp only [sm_nil]; exact sm_zero l p
  | y :: m, hm => by
    rw [sm_cons, ← sm_swap l hn hp m fun z hz => hm z (by simp [hz])]
    simp only [sm_cons]
    rw [sm_add]
    congr 1
    have hk := hm y (by simp)
    have hi : (key y - 1).toNat < l.length := by omega
    have e := hn _ hi
    have e' : num (l.getD (key y - 1).toNat default) = key y := by omega
    have := sm_one (num := num) (q := q) (p := p) (f y) l (key y - 1).toNat hi (fun j hj hji => by rw [hn j hj, e]; omega) (hp _ (getD_mem hi))
    rw [e'] at this
    exact this
theorem sm_and_le {α : Type} {l : List α} {p q : α → Bool} {f : α → Int} (h : ∀ x ∈ l, 0 ≤ f x) : sm l (fun x => p x && q x) f ≤ sm l p f := by
  induction l with
  | nil => simp [sm]
  | cons x l ih =>
    rw [sm_cons, sm_cons]
    have h1 := ih fun y hy => h y (by simp [hy])
    have h2 := h x (by simp)
    cases p x <;> cases q x <;> simp <;> omega

theorem mt_mem {b : TApiBook} (h : Val b) (code : List UInt8) (y : Int) {r : TApiReservation} (hr : r ∈ b.Reservations) : mt b code y r.Number = (r.Code == code && r.Year == y) := by
  unfold mt
  rw [← (h.1.mem hr).2.1]
def usedM (b : TApiBook) (code : List UInt8) (y : Int) : Int := sm b.Reservations (fun r => mt b code y r.Number) (fun r => r.Amount - r.Released - rel b r.Number)
theorem usedV_eq {b : TApiBook} (h : Val b) (code : List UInt8) (y : Int) : usedV b code y = IntKind.i64.wrap (usedM b code y) := by
  unfold usedV usedM
  congr 1
  exact sm_congr fun r hr => by rw [mt_mem h code y hr]
theorem swapR {b : TApiBook} (h : Val b) (code : List UInt8) (y : Int) (f : TApiCommitment → Int) : sm b.Reservations (fun r => mt b code y r.Number) (fun r => sm b.Commitments (fun c => c.Reservation == r.Number) f) = sm b.Commitments (fun c => mt b code y c.Reservation) f :=
  sm_swap (num := fun r : TApiReservation => r.Number) (key := fun c : TApiCommitment => c.Reservation) (q := mt b code y) b.Reservations (fun i hi => (h.1 i hi).1) (fun _ _ => rfl) b.Commitments fun _ hc => (h.2.1.mem hc).1.2.1
theorem used_sums {b : TApiBook} (h : Val b) (code : List UInt8) (y : Int) : usedM b code y = sumL b code y + sumC b code y := by
  unfold sumC
  rw [← swapR h code y]
  unfold sumL usedM
  rw [← sm_add]
  refine sm_congr fun r hr => ?_
  have e : sm b.Commitments (fun c => c.Reservation == r.Number) (fun c => c.Amount - c.Released) = cmt b r.Number - rel b r.Number := sm_sub _ _ _ _
  rw [(leftV_ex h hr).1, e]
  split
  · omega
  · rfl
theorem swapC {b : TApiBook} (h : Val b) (code : List UInt8) (y : Int) : sm b.Commitments (fun c => mt b code y c.Reservation) (fun c => ver b c.Number) = sumV b code y :=
  sm_swap (num := fun c : TApiCommitment => c.Number) (key := fun v : TApiVerification => v.Commitment) (q := fun k => mt b code y (cAt b k).Reservation) b.Commitments (fun i hi => (h.2.1 i hi).1) (fun c hc => by rw [← (h.2.1.mem hc).2.1]) b.Verifications fun v hv => (h.2.2.2.1.mem hv).1.2.1
theorem sums_order {b : TApiBook} (h : Val b) (code : List UInt8) (y : Int) : 0 ≤ sumL b code y ∧ sumL b code y ≤ 200000000000000 ∧ sumC b code y ≤ 200000000000000 ∧ sumV b code y ≤ sumC b code y ∧ sumO b code y ≤ sumV b code y ∧ 0 ≤ sumO b code y := by
  have hL : 0 ≤ sumL b code y ∧ sumL b code y ≤ 200 * 1000000000000 := sm_bd (fun r hr => by
    have h1 := leftV_ex h hr
    have h2 := cmt_bd h r.Number
    have h3 := (h.1.mem hr).1.2.2.2.2.2
    unfold amtP at h3
    omega) h.2.2.2.2.2.2.1 (by omega)
  have hC : 0 ≤ sumC b code y ∧ sumC b code y ≤ 200 * 1000000000000 := sm_bd (fun c hc => by
    have h3 := (h.2.1.mem hc).1
    have h4 := h3.2.2.2.1
    have h5 := h3.2.2.2.2.1
    unfold amtP at h4
    omega) h.2.2.2.2.2.2.2.1 (by omega)
  have hv : ∀ v ∈ b.Verifications, 0 ≤ v.Amount := fun v hv => by
    have h4 := (h.2.2.2.1.mem hv).1.2.2.2.1
    unfold amtP at h4
    omega
  refine ⟨hL.1, by omega, by omega, ?_, ?_, sm_nonneg hv⟩
  · rw [← swapC h]
    exact sm_mono fun c hc => by
      have := restV_ex h hc
      omega
  · unfold sumO sumV
    exact sm_and_le (l := b.Verifications) (p := fun v => mt b code y (cAt b v.Commitment).Reservation) (q := fun v => stands b v.Number) (f := fun v : TApiVerification => v.Amount) hv

theorem ite0 {P : Prop} {_ : Decidable P} {a b : TApiBook × Int} (h : (if P then a else b).2 = 0) (ha : a.2 ≠ 0) : (if P then a else b) = b ∧ ¬ P := by
  by_cases hp : P
  · rw [if_pos hp] at h; exact absurd h ha
  · exact ⟨if_neg hp, hp⟩
theorem commitS_used {b : TApiBook} {r d n p u : Int} (h0 : (commitS b r d n p u).2 = 0) (code : List UInt8) (y : Int) : usedV (commitS b r d n p u).1 code y = usedV b code y := by
  unfold commitS at h0 ⊢
  obtain ⟨e, _⟩ := ite0 h0 (by decide); rw [e] at h0 ⊢; clear e
  obtain ⟨e, _⟩ := ite0 h0 (by decide); rw [e] at h0 ⊢; clear e
  obtain ⟨e, _⟩ := ite0 h0 (by decide); rw [e] at h0 ⊢; clear e
  obtain ⟨e, _⟩ := ite0 h0 (by decide); rw [e] at h0 ⊢; clear e
  obtain ⟨e, _⟩ := ite0 h0 (by decide); rw [e] at h0 ⊢; clear e
  obtain ⟨e, _⟩ := ite0 h0 (by decide); rw [e] at h0 ⊢; clear e
  obtain ⟨e, _⟩ := ite0 h0 (by decide); rw [e] at h0 ⊢; clear e
  exact used_app _ _ rfl _ _
theorem verifyS_used {b : TApiBook} {c d n : Int} (h0 : (verifyS b c d n).2 = 0) (code : List UInt8) (y : Int) : usedV (verifyS b c d n).1 code y = usedV b code y := by
  unfold verifyS at h0 ⊢
  obtain ⟨e, _⟩ := ite0 h0 (by decide); rw [e] at h0 ⊢; clear e
  obtain ⟨e, _⟩ := ite0 h0 (by decide); rw [e] at h0 ⊢; clear e
  obtain ⟨e, _⟩ := ite0 h0 (by decide); rw [e] at h0 ⊢; clear e
  obtain ⟨e, _⟩ := ite0 h0 (by decide); rw [e] at h0 ⊢; clear e
  obtain ⟨e, _⟩ := ite0 h0 (by decide); rw [e] at h0 ⊢; clear e
  obtain ⟨e, _⟩ := ite0 h0 (by decide); rw [e] at h0 ⊢; clear e
  obtain ⟨e, _⟩ := ite0 h0 (by decide); rw [e] at h0 ⊢; clear e
  rfl
theorem orderS_used {b : TApiBook} {v d : Int} (h0 : (orderS b v d).2 = 0) (code : List UInt8) (y : Int) : usedV (orderS b v d).1 code y = usedV b code y := by
  unfold orderS at h0 ⊢
  obtain ⟨e, _⟩ := ite0 h0 (by decide); rw [e] at h0 ⊢; clear e
  obtain ⟨e, _⟩ := ite0 h0 (by decide); rw [e] at h0 ⊢; clear e
  obtain ⟨e, _⟩ := ite0 h0 (by decide); rw [e] at h0 ⊢; clear e
  obtain ⟨e, _⟩ := ite0 h0 (by decide); rw [e] at h0 ⊢; clear e
  obtain ⟨e, _⟩ := ite0 h0 (by decide); rw [e] at h0 ⊢; clear e
  obtain ⟨e, _⟩ := ite0 h0 (by decide); rw [e] at h0 ⊢; clear e
  obtain ⟨e, _⟩ := ite0 h0 (by decide); rw [e] at h0 ⊢; clear e
  rfl
theorem releaseS_used {b : TApiBook} (h : Val b) {r n : Int} (hn : 1 ≤ n ∧ n ≤ 60) (h0 : (releaseS b r n).2 = 0) (code : List UInt8) (y : Int) : (1 ≤ r ∧ r ≤ b.Reservations.length) ∧ usedV (releaseS b r n).1 code y = IntKind.i64.wrap (usedV b code y - if mt b code y r = true then n else 0) := by
  unfold releaseS at h0 ⊢
  obtain ⟨e, _⟩ := ite0 h0 (by decide); rw [e] at h0 ⊢; clear e
  obtain ⟨e, hr⟩ := ite0 h0 (by decide); rw [e] at h0 ⊢; clear e
  obtain ⟨e, _⟩ := ite0 h0 (by decide); rw [e] at h0 ⊢; clear e
  obtain ⟨e, _⟩ := ite0 h0 (by decide); rw [e] at h0 ⊢; clear e
  have hr := Classical.not_not.mp hr
  refine ⟨hr, ?_⟩
  have hk : (r - 1).toNat < b.Reservations.length := by omega
  have f := (h.1.at hr).2.2.2.2.2
  have f6 := f.1
  unfold amtP at f6
  have hw : IntKind.i64.wrap ((rAt b r).Released + n) = (rAt b r).Released + n := wrapId (by omega) (by omega)
  rw [hw]
  unfold usedV
  rw [wrap_subl]
  congr 1
  change sm (b.Reservations.set (r - 1).toNat _) _ (fun r => r.Amount - r.Released - rel b r.Number) = _
  rw [sm_set hk _ _ _ default]
  change _ - (if ((rAt b r).Code == code && (rAt b r).Year == y) = true then (rAt b r).Amount - (rAt b r).Released - rel b (rAt b r).Number else 0) + (if ((rAt b r).Code == code && (rAt b r).Year == y) = true then (rAt b r).Amount - ((rAt b r).Released + n) - rel b (rAt b r).Number else 0) = _ - (if ((rAt b r).Code == code && (rAt b r).Year == y) = true then n else 0)
  split <;> omega
theorem dropS_used {b : TApiBook} (h : Val b) {c n : Int} (hn : 1 ≤ n ∧ n ≤ 60) (h0 : (dropS b c n).2 = 0) (code : List UInt8) (y : Int) : (1 ≤ c ∧ c ≤ b.Commitments.length) ∧ usedV (dropS b c n).1 code y = IntKind.i64.wrap (usedV b code y - if mt b code y (cAt b c).Reservation = true then n else 0) := by
  unfold dropS at h0 ⊢
  obtain ⟨e, _⟩ := ite0 h0 (by decide); rw [e] at h0 ⊢; clear e
  obtain ⟨e, hr⟩ := ite0 h0 (by decide); rw [e] at h0 ⊢; clear e
  obtain ⟨e, _⟩ := ite0 h0 (by decide); rw [e] at h0 ⊢; clear e
  obtain ⟨e, _⟩ := ite0 h0 (by decide); rw [e] at h0 ⊢; clear e
  have hr := Classical.not_not.mp hr
  refine ⟨hr, ?_⟩
  have hk : (c - 1).toNat < b.Commitments.length := by omega
  have f := (h.2.1.at hr)
  have f4 := f.2.2.2.1
  have f5 := f.2.2.2.2.1
  have f2 := f.2.1
  unfold amtP at f4
  have hw : IntKind.i64.wrap ((cAt b c).Released + n) = (cAt b c).Released + n := wrapId (by omega) (by omega)
  rw [hw]
  generalize hX : withC b (b.Commitments.set (c - 1).toNat ⟨(cAt b c).Number, (cAt b c).Reservation, (cAt b c).Day, (cAt b c).Amount, (cAt b c).Released + n, (cAt b c).Payee, (cAt b c).Due⟩) = X
  have hrel : ∀ m, rel X m = rel b m + if ((cAt b c).Reservation == m) = true then n else 0 := fun m => by
    rw [← hX]
    unfold rel withC
    simp only
    rw [sm_set hk _ _ _ default]
    change _ - (if ((cAt b c).Reservation == m) = true then (cAt b c).Released else 0) + (if ((cAt b c).Reservation == m) = true then (cAt b c).Released + n else 0) = _
    split <;> omega
  have e1 : usedV X code y = IntKind.i64.wrap (sm b.Reservations (fun r => r.Code == code && r.Year == y) (fun r => r.Amount - r.Released - rel X r.Number)) := by
    unfold usedV
    rw [show X.Reservations = b.Reservations by rw [← hX]; rfl]
  rw [e1]
  unfold usedV
  rw [wrap_subl]
  congr 1
  simp only [hrel]
  have e2 : ∀ r : TApiReservation, r.Amount - r.Released - (rel b r.Number + if ((cAt b c).Reservation == r.Number) = true then n else 0) = (r.Amount - r.Released - rel b r.Number) - (if ((cAt b c).Reservation == r.Number) = true then n else 0) := fun r => by omega
  simp only [e2]
  rw [sm_sub]
  congr 1
  have hi : ((cAt b c).Reservation - 1).toNat < b.Reservations.length := by omega
  have hnum : (b.Reservations.getD ((cAt b c).Reservation - 1).toNat default).Number = (cAt b c).Reservation := (h.1.at f2).1
  have := sm_one (num := fun r : TApiReservation => r.Number) (q := mt b code y) (p := fun r => r.Code == code && r.Year == y) n b.Reservations ((cAt b c).Reservation - 1).toNat hi (fun j hj hji => by
    have := (h.1 j hj).1
    rw [hnum]; omega) (mt_mem h code y (getD_mem hi)).symm
  simp only [hnum] at this
  exact this
theorem mine_eq {b : TApiBook} (hb : Small b) {r : Int} (hr : 1 ≤ r ∧ r ≤ b.Reservations.length) (code : List UInt8) (n : Int) : F_w14_mine b r code n = some (if mt b code 12 r = true then n else 0) := by
  simp only [F_w14_mine, S_w14_mine, Scr.den, cond_and]
  rw [w_pred hr hb.1.1, guardP_pos ⟨by omega, by omega, trivial⟩]
  change (if mt b code 12 r = true then _ else _) = _
  split <;> rfl
theorem used_body {b : TApiBook} (h : VB b) {code : List UInt8} {u n k : Int} (hu : u = usedV b code 12) (hn : 1 ≤ n ∧ n ≤ 60) (hk : 1 ≤ k ∧ k ≤ 3) (rv1 : R_mk_Book) (e : rv1.1 = b) (rv2 : R_mk_PotCode) (e2 : rv2.1 = code) (rv4 : R_mk_Tape_N) (rv5 : R_mk_Tape_Range) (e5 : rv5.1 = n) :
    (S_w14_CommitmentUsed_b1 rv1 rv2 u rv4 rv5 k).den = some (.cont (k + 1)) := by
  have hsm := h.small
  obtain ⟨h1, h3, h4, h5⟩ := hsm.1
  open Classical in simp only [S_w14_CommitmentUsed_b1, Scr.den, e, e2, e5, Commit_eq hsm, Verify_eq hsm, Order_eq hsm, Release_eq hsm, Drop_eq hsm, Used_eq, obind, cond_and, optD_tot]
  rw [if_pos (by simp; omega)]
  have nb1 : ∀ {g : Bool} {x y : Int} {_ : Decidable (AllP [g = true])}, (g = true → x = u) → (g && ((if AllP [g = true] then x else y) != u)) = false := fun {g x y} _ hh => by
    cases g
    · rfl
    · simp [AllP, hh rfl]
  rw [nb1 fun hg => by rw [hu]; exact commitS_used (by simpa using hg) code 12]
  rw [if_neg (by simp)]
  rw [nb1 fun hg => by rw [hu]; exact verifyS_used (by simpa using hg) code 12]
  rw [if_neg (by simp)]
  rw [nb1 fun hg => by rw [hu]; exact orderS_used (by simpa using hg) code 12]
  rw [if_neg (by simp)]
  have hw : IntKind.i64.wrap (k - 1) = k - 1 := wrapId (by omega) (by omega)
  have hw2 : IntKind.i64.wrap (k + 1) = k + 1 := wrapId (by omega) (by omega)
  rw [hw, hw2]
  have nb2 : ∀ {g : Bool} {x y m m' : Int} {_ _ : Decidable (AllP [g = true])}, (g = true → x = IntKind.i64.wrap (u - m)) → (g && ((if AllP [g = true] then x else y) != IntKind.i64.wrap (u - (if AllP [g = true] then m else m')))) = false := fun {g x y m m'} _ _ hh => by
    cases g
    · rfl
    · simp [AllP, hh rfl]
  open Classical in rw [optD_part (y := if mt b code 12 k = true then n else 0) fun hg => by
    have hg := allP1.mp hg
    simp only [Bool.and_eq_true, beq_iff_eq, decide_eq_true_eq] at hg
    exact mine_eq hsm (by omega) code n]
  rw [obind]
  rw [nb2 fun hg => by
    simp only [Bool.and_eq_true, beq_iff_eq, decide_eq_true_eq] at hg
    rw [hu]; exact (releaseS_used h.1 hn hg.1 code 12).2]
  rw [if_neg (by simp)]
  open Classical in rw [optD_part (y := if mt b code 12 (cAt b k).Reservation = true then n else 0) fun hg => by
    have hg := allP1.mp hg
    simp only [Bool.and_eq_true, beq_iff_eq, decide_eq_true_eq] at hg
    exact mine_eq hsm (h.1.2.1.at (by omega)).2.1 code n]
  rw [obind, guardP_pos ⟨fun hg => by omega, fun hg => by
    have hg := allP1.mp hg
    simp only [Bool.and_eq_true, beq_iff_eq, decide_eq_true_eq] at hg
    omega, trivial⟩]
  rw [nb2 fun hg => by
    simp only [Bool.and_eq_true, beq_iff_eq, decide_eq_true_eq] at hg
    rw [hu]; exact (dropS_used h.1 hn hg.1 code 12).2]
  rw [if_neg (by simp)]
  all_goals exact Classical.propDecidable _

theorem CommitmentUsed_true (t : List Int) : F_w14_CommitmentUsed t = some true := by
  simp only [F_w14_CommitmentUsed, S_w14_CommitmentUsed, Scr.den]
  obtain ⟨s, e1, t1⟩ := New_spec t
  obtain ⟨b, s', e2, t2, hb, hlen⟩ := Book_spec (n := 20) (by omega) (by omega) t1
  obtain ⟨code, s2, e3, t3, hc, hg⟩ := PotCode_spec t2
  have hsm := hb.small
  rw [e1, obind, e2, obind]
  simp only [e3, obind, Sums_eq hsm hb.1, Used_eq, cond_or]
  obtain ⟨o1, o2, o3, o4, o5, o6⟩ := sums_order hb.1 code 12
  rw [wrapId (n := sumL b code 12) (by omega) (by omega), wrapId (n := sumC b code 12) (by omega) (by omega), wrapId (n := sumV b code 12) (by omega) (by omega), wrapId (n := sumO b code 12) (by omega) (by omega)]
  have hu : usedV b code 12 = IntKind.i64.wrap (sumL b code 12 + sumC b code 12) := by rw [usedV_eq hb.1, used_sums hb.1]
  rw [← hu, if_neg (by simp; omega)]
  obtain ⟨d, s3, e4, t4, d1, d2⟩ := N_spec (n := 360) t3 (by omega) (by omega)
  obtain ⟨n, s4, e5, t5, n1, n2⟩ := Range_spec (lo := 1) (hi := 60) t4 (by omega) (by omega) (by omega)
  simp only [e4, e5, obind]
  rw [wrapId (n := 4320 + d) (by omega) (by omega)]
  have hyr : yr (4320 + d) = 12 := by unfold yr; rw [if_pos (by omega)]; omega
  have hR : reserveS b code 12 (4320 + d) n = (withR b (b.Reservations ++ [⟨b.Reservations.length + 1, code, 12, 4320 + d, n, 0⟩]), 0) := by
    unfold reserveS
    rw [if_neg (not_not_intro hb.1), if_neg (by rw [hg]; simp), if_neg (not_not_intro ⟨by omega, by unfold dayP; omega, by unfold amtP; omega⟩), if_neg (not_not_intro hyr), if_neg (by omega)]
  rw [Reserve_eq hsm (by omega), obind, hR]
  simp only
  have hus : usedV (withR b (b.Reservations ++ [⟨b.Reservations.length + 1, code, 12, 4320 + d, n, 0⟩])) code 12 = IntKind.i64.wrap (usedV b code 12 + n) := by
    unfold usedV
    rw [wrap_addl]
    congr 1
    change sm (b.Reservations ++ _) _ (fun r => r.Amount - r.Released - rel b r.Number) = _
    rw [sm_append, sm_cons, sm_nil]
    have hr0 : rel b (b.Reservations.length + 1) = 0 := by
      unfold rel
      rw [sm_congr (q := fun _ => false) (g := fun _ => 0) fun c hc => by
        have := (hb.1.2.1.mem hc).1.2.1
        rw [if_neg (by simp; omega)]; rfl]
      exact sm_zero _ _
    simp only [hr0]
    simp
  rw [hus]
  rw [optD_pos (by simp [AllP]), obind, if_neg (by simp)]
  obtain ⟨k, e6, _⟩ := iterM_inv (step := fun k => (S_w14_CommitmentUsed_b1 (b, s') (code, s2) (usedV b code 12) (d, s3) (n, s4) k).den) (fun k => (4 - k).toNat) (fun k => 1 ≤ k ∧ k ≤ 4) (fun _ => True) (fun k hk => by
    by_cases h3 : k ≤ 3
    · left
      exact ⟨_, used_body hb rfl ⟨n1, n2⟩ ⟨hk.1, h3⟩ _ rfl _ rfl _ _ rfl, by omega, by omega⟩
    · right
      simp only [S_w14_CommitmentUsed_b1, Scr.den]
      rw [if_neg (by simpa using h3)]
      exact ⟨_, rfl, trivial⟩) _ 1 (Nat.lt_succ_self _) (by omega)
  rw [e6]
  simp only [outM, awake_true, obind]
end Go.Proofs.YteelhiohkbbdhaaGreatDoor
