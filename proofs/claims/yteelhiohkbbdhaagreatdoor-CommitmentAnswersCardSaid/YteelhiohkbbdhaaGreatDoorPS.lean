/- A part of the proof: plain laws of what the functions compute. No condition. -/
import Derived.Test.YteelhiohkbbdhaaGreatDoorPR
namespace Go.Proofs.YteelhiohkbbdhaaGreatDoor
open Go Go.TA

/-! ## Orders that stand -/
theorem sm_none {α : Type} {p : α → Bool} {f : α → Int} {l : List α} (h : ∀ x ∈ l, p x = false) : sm l p f = 0 := by
  induction l with
  | nil => rfl
  | cons x l ih => rw [sm_cons, h x (by simp), ih fun y hy => h y (by simp [hy])]; rfl
theorem sm_uniq {α : Type} [Inhabited α] {p : α → Bool} : ∀ (l : List α) (i : Nat), i < l.length → p (l.getD i default) = true → (∀ j, j < l.length → j ≠ i → p (l.getD j default) = false) → sm l p (fun _ => 1) = 1
  | [], i, hi, _, _ => by simp at hi
  | x :: l, 0, hi, hp, hd => by
    rw [List.getD_cons_zero] at hp
    rw [sm_cons, if_pos hp]
    rw [sm_none (l := l) fun y hy => by
      obtain ⟨j, hj, e⟩ := mem_getD hy
      have := hd (j + 1) (by simp; omega) (by omega)
      rwa [List.getD_cons_succ, e] at this]
    rfl
  | x :: l, i + 1, hi, hp, hd => by
    rw [List.getD_cons_succ] at hp
    have h0 := hd 0 (by simp) (by omega)
    rw [List.getD_cons_zero] at h0
    rw [sm_cons, sm_uniq l i (by simpa using hi) hp (fun j hj hji => by
      have := hd (j + 1) (by simp; omega) (by omega)
      rwa [List.getD_cons_succ] at this), h0]
    rfl
theorem stands_iff {b : TApiBook} {v : Int} : stands b v = true ↔ ∃ o ∈ b.Orders, o.Verification = v ∧ o.Back = false := by
  unfold stands
  rw [List.any_eq_true]
  constructor
  · rintro ⟨o, ho, hb⟩
    obtain ⟨h1, h2⟩ := mem_ordersOf.mp ho
    exact ⟨o, h1, h2, by simpa using hb⟩
  · rintro ⟨o, h1, h2, h3⟩
    exact ⟨o, mem_ordersOf.mpr ⟨h1, h2⟩, by simp [h3]⟩
theorem count_stands {b : TApiBook} (hO : OAll b) (v : Int) : sm b.Orders (fun o => o.Verification == v && !o.Back) (fun _ => 1) = if stands b v = true then 1 else 0 := by
  by_cases hs : stands b v = true
  · rw [if_pos hs]
    obtain ⟨o, ho, hv, hb⟩ := stands_iff.mp hs
    obtain ⟨j, hj, e⟩ := mem_getD ho
    refine sm_uniq _ j hj (by rw [e, hv, hb]; simp) fun i hi hij => ?_
    cases hx : ((b.Orders.getD i default).Verification == v && !(b.Orders.getD i default).Back) with
    | false => rfl
    | true =>
      exfalso
      simp only [Bool.and_eq_true, beq_iff_eq, Bool.not_eq_true'] at hx
      rcases Nat.lt_or_gt_of_ne hij with h | h
      · have := (before_back hO h hj (by rw [e, hv]; exact hx.1)).1
        rw [hx.2] at this; cases this
      · have := (before_back hO h hi (by rw [e, hv]; exact hx.1.symm)).1
        rw [e, hb] at this; cases this
  · rw [if_neg hs]
    exact sm_none fun o ho => by
      cases hx : (o.Verification == v && !o.Back) with
      | false => rfl
      | true =>
        simp only [Bool.and_eq_true, beq_iff_eq, Bool.not_eq_true'] at hx
        exact absurd (stands_iff.mpr ⟨o, ho, hx.1, hx.2⟩) hs
theorem stands_last {b : TApiBook} (hO : OAll b) (v : Int) : stands b v = true ↔ 0 < (ordersOf b.Orders v).length ∧ (lastV b v).Back = false := by
  constructor
  · intro hs
    obtain ⟨o, ho, hv, hb⟩ := stands_iff.mp hs
    have hpos : 0 < (ordersOf b.Orders v).length := List.length_pos_of_mem (mem_ordersOf.mpr ⟨ho, hv⟩)
    refine ⟨hpos, ?_⟩
    obtain ⟨i, hi, he, hlv, hd⟩ := last_at hpos
    obtain ⟨j, hj, e⟩ := mem_getD ho
    rcases Nat.lt_trichotomy j i with h | h | h
    · have := (before_back hO h hi (by rw [e, he, hv, hlv])).1
      rw [e, hb] at this; cases this
    · subst h
      rw [← he, e]; exact hb
    · exfalso
      have hm : o ∈ ordersOf (b.Orders.drop (i + 1)) v := by
        rw [mem_ordersOf]
        refine ⟨?_, hv⟩
        have e2 : o = (b.Orders.drop (i + 1)).getD (j - (i + 1)) default := by
          rw [← e]
          simp only [List.getD_eq_getElem?_getD, List.getElem?_drop]
          rw [show i + 1 + (j - (i + 1)) = j by omega]
        rw [e2]
        exact getD_mem (by rw [List.length_drop]; omega)
      rw [hd] at hm; cases hm
  · rintro ⟨hpos, hb⟩
    obtain ⟨i, hi, he, hlv, _⟩ := last_at hpos
    exact stands_iff.mpr ⟨lastV b v, by rw [← he]; exact getD_mem hi, hlv, hb⟩

/-! ## What is unpaid -/
def owe (b : TApiBook) (office : Int) (v : TApiVerification) : TApiOwed := ⟨office, v.Number, (ordersOf b.Orders v.Number).length + 1, (cAt b v.Commitment).Payee, v.Amount, (cAt b v.Commitment).Due⟩
def unpaidL (b : TApiBook) (office : Int) (l : List TApiVerification) : List TApiOwed := (l.filter (fun v => !stands b v.Number)).map (owe b office)
/-- A loop that goes through a list, with what holds. -/
theorem rangeM_pre {α σ ρ : Type} [Inhabited α] {body : Nat → σ → Option (Step σ ρ)} (l : List α) (F : List α → σ) (hs : ∀ i, i < l.length → body i (F (l.take i)) = some (.cont (F (l.take (i + 1))))) : rangeM body l.length 0 (F []) = some (.next (F l)) := by
  obtain ⟨s, h1, h2⟩ := rangeM_inv (body := body) (n := l.length) (s0 := F []) (fun i s => s = F (l.take i)) (by simp) (fun i s hi he => by
    subst he
    exact ⟨_, hs i hi, rfl⟩)
  rw [h1, h2, List.take_of_length_le (Nat.le_refl _)]
theorem unpaid_take (b : TApiBook) (office : Int) (l : List TApiVerification) {i : Nat} (hi : i < l.length) : unpaidL b office (l.take (i + 1)) = unpaidL b office (l.take i) ++ if stands b (l.getD i default).Number = true then [] else [owe b office (l.getD i default)] := by
  unfold unpaidL
  rw [List.take_add_one, List.filter_append, List.map_append, List.getElem?_eq_getElem hi]
  congr 1
  simp only [Option.toList_some, List.getD_eq_getElem?_getD, List.getElem?_eq_getElem hi, Option.getD_some, List.filter_cons, List.filter_nil]
  cases stands b l[i].Number <;> simp
theorem unpaid_len (b : TApiBook) (office : Int) (l : List TApiVerification) : (unpaidL b office l).length ≤ l.length := by
  unfold unpaidL
  rw [List.length_map]
  exact List.length_filter_le _ _
theorem Unpaid_eq {b : TApiBook} (hb : Small b) (h : Val b) (office : Int) : F_commitment_Unpaid b office = some (unpaidL b office b.Verifications) := by
  obtain ⟨h1, h3, h4, h5⟩ := hb.1
  open Classical in simp only [F_commitment_Unpaid, S_commitment_Unpaid, Scr.den, Valid_eq hb, obind]
  rw [if_neg (by simpa using h)]
  rw [show ([] : List TApiOwed) = unpaidL b office [] from rfl, rangeM_pre b.Verifications (unpaidL b office) fun i hi => ?_]
  · simp only [outM]
    have := unpaid_len b office b.Verifications
    rw [guardP_pos ⟨by omega, trivial⟩]
  · have hv := (h.2.2.2.1 i hi).2.1
    have hlen := unpaid_len b office (b.Verifications.take i)
    rw [List.length_take] at hlen
    have hol : (ordersOf b.Orders (b.Verifications.getD i default).Number).length ≤ b.Orders.length := List.length_filter_le _ _
    rw [unpaid_take b office _ hi]
    simp only [S_commitment_Unpaid_b1, Scr.den, standing_eq h5, obind]
    rw [w_pred hv h3, guardP_pos ⟨by omega, by omega, trivial⟩, wrapId (n := ((ordersOf b.Orders (b.Verifications.getD i default).Number).length : Int) + 1) (by omega) (by omega), guardP_pos ⟨by omega, trivial⟩]
    change (if (!stands b (b.Verifications.getD i default).Number) = true then _ else _) = _
    cases stands b (b.Verifications.getD i default).Number
    · rfl
    · simp
theorem r14_Unpaid_eq {b : TApiBook} (hb : Small b) (h : Val b) (office : Int) : F_r14_Unpaid b office = some (unpaidL b office b.Verifications) := by
  obtain ⟨h1, h3, h4, h5⟩ := hb.1
  open Classical in simp only [F_r14_Unpaid, S_r14_Unpaid, Scr.den, r14_Valid_eq hb, obind]
  rw [if_neg (by simpa using h)]
  rw [show ([] : List TApiOwed) = unpaidL b office [] from rfl, rangeM_pre b.Verifications (unpaidL b office) fun i hi => ?_]
  · simp only [outM]
    have := unpaid_len b office b.Verifications
    rw [guardP_pos ⟨by omega, trivial⟩]
  · have hv := (h.2.2.2.1 i hi).2.1
    have hlen := unpaid_len b office (b.Verifications.take i)
    rw [List.length_take] at hlen
    have hol : (ordersOf b.Orders (b.Verifications.getD i default).Number).length ≤ b.Orders.length := List.length_filter_le _ _
    rw [unpaid_take b office _ hi]
    simp only [S_r14_Unpaid_b1, Scr.den, last_eq h5, obind, cond_and]
    rw [w_pred hv h3, guardP_pos ⟨by omega, by omega, trivial⟩, wrapId (n := ((ordersOf b.Orders (b.Verifications.getD i default).Number).length : Int) + 1) (by omega) (by omega), guardP_pos ⟨by omega, trivial⟩]
    have hs : (decide (((ordersOf b.Orders (b.Verifications.getD i default).Number).length : Int) > 0) && !(lastV b (b.Verifications.getD i default).Number).Back) = stands b (b.Verifications.getD i default).Number := by
      rw [Bool.eq_iff_iff, stands_last h.2.2.2.2.2.1]
      simp
    rw [hs]
    cases stands b (b.Verifications.getD i default).Number
    · rfl
    · simp

/-! ## The law on the chain -/
theorem count_loop {α ρ : Type} [Inhabited α] {body : Nat → Int → Option (Step Int ρ)} (l : List α) (p : α → Bool) (hl : l.length ≤ 1000000) (hs : ∀ i s, i < l.length → body i s = some (.cont (if p (l.getD i default) = true then IntKind.i64.wrap (s + 1) else s))) : rangeM body l.length 0 0 = some (.next (sm l p (fun _ => 1))) := by
  rw [rangeM_fold l (fun (s : Int) x => if p x = true then IntKind.i64.wrap (s + 1) else s) hs]
  have e := foldl_add l p (fun _ => 1) 0
  rw [wrap0, Int.zero_add] at e
  rw [e]
  have h1 : 0 ≤ sm l p (fun _ => 1) := sm_nonneg fun _ _ => by omega
  have h2 : sm l p (fun _ => 1) ≤ l.length * 1 := sm_le (fun _ _ => by omega) (by omega)
  rw [wrapId (by omega) (by omega)]
theorem due_count {b : TApiBook} (h : Val b) {i : Nat} (hi : i < b.Verifications.length) : sm (unpaidL b 7 b.Verifications) (fun x => x.Verification == (b.Verifications.getD i default).Number && x.Amount == (b.Verifications.getD i default).Amount && x.Office == 7) (fun _ => 1) = if stands b (b.Verifications.getD i default).Number = true then 0 else 1 := by
  have key : ∀ l : List TApiVerification, sm (unpaidL b 7 l) (fun x => x.Verification == (b.Verifications.getD i default).Number && x.Amount == (b.Verifications.getD i default).Amount && x.Office == 7) (fun _ => 1) = sm l (fun w => !stands b w.Number && (w.Number == (b.Verifications.getD i default).Number && w.Amount == (b.Verifications.getD i default).Amount)) (fun _ => 1) := by
    intro l
    induction l with
    | nil => rfl
    | cons w l ih =>
      unfold unpaidL at ih ⊢
      rw [List.filter_cons, sm_cons]
      cases hs : stands b w.Number
      · simp only [Bool.not_false, if_true, List.map_cons, sm_cons, ih, Bool.true_and]
        simp [owe]
      · simp only [Bool.not_true, Bool.false_eq_true, if_false, ih, Bool.false_and]
        simp
  rw [key]
  have hnum := (h.2.2.2.1 i hi).1
  cases hs : stands b (b.Verifications.getD i default).Number
  · simp only [Bool.false_eq_true, if_false]
    refine sm_uniq _ i hi (by rw [hs]; simp) fun j hj hji => ?_
    have := (h.2.2.2.1 j hj).1
    have e : ((b.Verifications.getD j default).Number == (b.Verifications.getD i default).Number) = false := beq_eq_false_iff_ne.mpr (by omega)
    rw [e]; simp
  · simp only [if_true]
    refine sm_none fun w hw => ?_
    cases e : (w.Number == (b.Verifications.getD i default).Number)
    · simp
    · rw [eq_of_beq e, hs]; rfl
theorem chain_body {b : TApiBook} (h : VB b) {i : Nat} (hi : i < b.Verifications.length) (sv : TTreasurymakeTape × TApiBook × Int × Int) (e : sv.2.1 = b) (hd : 0 ≤ sv.2.2.1 ∧ sv.2.2.1 ≤ 35990) : (S_w14_CommitmentChain_b4 sv i ()).den = some (.cont ()) := by
  have hsm := h.small
  obtain ⟨h1, h3, h4, h5⟩ := hsm.1
  have hul := unpaid_len b 7 b.Verifications
  simp only [S_w14_CommitmentChain_b4, Scr.den, e]
  rw [count_loop b.Orders (fun o => o.Verification == (b.Verifications.getD i default).Number && !o.Back) h5 fun j s hj => by
    simp only [S_w14_CommitmentChain_b2, Scr.den, e, cond_and]; split <;> rfl]
  simp only [outM, Unpaid_eq hsm h.1, obind]
  rw [count_loop (unpaidL b 7 b.Verifications) (fun x => x.Verification == (b.Verifications.getD i default).Number && x.Amount == (b.Verifications.getD i default).Amount && x.Office == 7) (by omega) fun j s hj => by
    simp only [S_w14_CommitmentChain_b3, Scr.den, e, cond_and]; split <;> rfl]
  simp only [count_stands h.1.2.2.2.2.2.1, due_count h.1 hi, Order_eq hsm, obind, cond_or, cond_and]
  obtain ⟨f1, f2, f3, _⟩ := h.1.2.2.2.1 i hi
  generalize hN : (b.Verifications.getD i default).Number = N
  cases hs : stands b N
  · simp [wrapId]
  · have hdd : dayP (if (b.Verifications.getD i default).Day > sv.2.2.1 then (b.Verifications.getD i default).Day else sv.2.2.1) := by
      unfold dayP at f3 ⊢
      split <;> omega
    generalize (if (b.Verifications.getD i default).Day > sv.2.2.1 then (b.Verifications.getD i default).Day else sv.2.2.1) = d at hdd ⊢
    have hl := (stands_last h.1.2.2.2.2.2.1 N).mp hs
    have hout : (orderS b N d).2 = 20 ∨ (orderS b N d).2 = 16 := by
      unfold orderS
      rw [if_neg (not_not_intro h.1), if_neg (not_not_intro (by omega)), if_neg (not_not_intro hdd)]
      by_cases hyy : yearOf b (vAt b N).Commitment + 1 < yr d
      · right; rw [if_pos hyy]
      · left; rw [if_neg hyy, if_pos hl]
    have w1 : IntKind.i64.wrap (1 + 0) = 1 := wrapId (by omega) (by omega)
    simp only [if_true, w1]
    rcases hout with ho | ho <;> rw [ho] <;> simp
theorem CommitmentChain_true (t : List Int) : F_w14_CommitmentChain t = some true := by
  simp only [F_w14_CommitmentChain, S_w14_CommitmentChain, Scr.den]
  obtain ⟨s, e1, t1⟩ := New_spec t
  rw [e1, obind]
  obtain ⟨st, e2, t2, hb, hd⟩ := iterM_inv (step := fun s => (S_w14_CommitmentChain_b1 s).den) (fun s => (24 - s.2.2.2).toNat) (fun s => TapeOk s.1 ∧ VB s.2.1 ∧ (0 ≤ s.2.2.2 ∧ s.2.2.2 ≤ 24) ∧ (4320 ≤ s.2.2.1 ∧ s.2.2.1 ≤ 4320 + 12 * s.2.2.2)) (fun s => TapeOk s.1 ∧ VB s.2.1 ∧ (0 ≤ s.2.2.1 ∧ s.2.2.1 ≤ 35990)) (fun s hI => by
    obtain ⟨st, b, day, k⟩ := s
    obtain ⟨a1, a2, a3, a4⟩ := hI
    simp only at a1 a2 a3 a4
    simp only [S_w14_CommitmentChain_b1, Scr.den]
    by_cases hk : k < 24
    · left
      rw [if_pos (by simpa using hk)]
      obtain ⟨n1, s5, e5, t5, m1, m2⟩ := N_spec (n := 12) a1 (by omega) (by omega)
      obtain ⟨b', s7, e7, t7, hb', hlb⟩ := BookStep_spec a2 t5 (IntKind.i64.wrap (day + n1))
      have hd1 : (IntKind.i64.wrap (day + n1)) = day + n1 := wrapId (by omega) (by omega)
      rw [hd1] at e7
      open Classical in simp only [e5, e7, obind, hd1, Valid_eq hb'.small, r14_Valid_eq hb'.small, optD_tot]
      rw [wrapId (n := k + 1) (by omega) (by omega)]
      rw [if_neg (by simp [hb'.1, AllP])]
      exact ⟨_, rfl, ⟨t7, hb', by simp only; omega, by simp only; omega⟩, by simp only; omega⟩
    · right
      rw [if_neg (by simpa using hk)]
      exact ⟨_, rfl, a1, a2, by simp only; omega⟩) _ (s, nb, 4320, 0) (Nat.lt_succ_self _) ⟨t1, nb_vb, by simp only; omega, by simp only; omega⟩
  unfold nb at e2
  rw [e2]
  simp only [outM]
  obtain ⟨_, e3, _⟩ := rangeM_inv (body := fun i s => (S_w14_CommitmentChain_b4 st i s).den) (n := st.2.1.Verifications.length) (fun _ _ => True) (s0 := ()) trivial (fun i s hi _ => ⟨(), chain_body hb hi st rfl hd, trivial⟩)
  rw [e3]
  simp only [awake_true, obind]
end Go.Proofs.YteelhiohkbbdhaaGreatDoor
