/- A part of the proof: plain laws of what the functions compute. No condition. -/
import Derived.Test.YtfiljdbmhegjgaaGreatDoorG4
import Derived.Test.YtfiljdbmhegjgaaGreatDoorT8
import Derived.Test.YtfiljdbmhegjgaaGreatDoorT5
namespace Go.Proofs.YtfiljdbmhegjgaaGreatDoor
open Go Go.TA
/-! ## Codes -/
def goodR : List UInt8 → Nat → Nat → Bool
  | [], d, p => decide (0 < d) && decide (p ≤ 4)
  | c :: l, d, p => if c.toNat = 46 then (if d = 0 then false else goodR l 0 (p + 1)) else
    if c.toNat < 48 ∨ 57 < c.toNat ∨ (d = 0 ∧ c.toNat = 48) ∨ d = 2 then false else goodR l (d + 1) p
def dig (c : UInt8) : Prop := 48 ≤ c.toNat ∧ c.toNat ≤ 57
def preOk : List UInt8 → Prop
  | [] => True
  | [a] => dig a ∧ a.toNat ≠ 48
  | [a, b] => dig a ∧ a.toNat ≠ 48 ∧ dig b
  | _ => False
def cntOk (ws : List (List UInt8)) (p : Nat) : Bool := match nums ws with
  | none => false
  | some ns => decide (ns.length + p ≤ 5)
theorem cnt_cons (w : List UInt8) (ws : List (List UInt8)) (p : Nat) : cntOk (w :: ws) p = match pv w with
    | none => false
    | some _ => cntOk ws (p + 1) := by
  unfold cntOk
  simp only [nums]
  cases pv w with
  | none => rfl
  | some n =>
    cases nums ws with
    | none => rfl
    | some ns =>
      simp only [Option.map_some, List.length_cons]
      congr 1
      rw [eq_iff_iff]; omega
theorem pv_some_pre : ∀ {w : List UInt8}, preOk w → w ≠ [] → ∃ n, pv w = some n
  | [a], h, _ => ⟨_, by simp only [pv]; rw [if_pos ⟨by have := h.1.1; have := h.2; omega, h.1.2⟩]⟩
  | [a, b], h, _ => ⟨_, by simp only [pv]; rw [if_pos ⟨⟨by have := h.1.1; have := h.2.1; omega, h.1.2⟩, h.2.2⟩]⟩
  | [], _, h => absurd rfl h
  | _ :: _ :: _ :: _, h, _ => h.elim
theorem pv_none_nd {pre w : List UInt8} {c : UInt8} (hc : ¬ dig c) : pv (pre ++ c :: w) = none := by
  match pre, w with
  | [], [] => simp only [List.nil_append, pv]; rw [if_neg]; intro h; exact hc ⟨by omega, h.2⟩
  | [], [b] => simp only [List.nil_append, pv]; rw [if_neg]; intro h; exact hc ⟨by omega, h.1.2⟩
  | [], b :: d :: w => rfl
  | [a], [] => simp only [List.cons_append, List.nil_append, pv]; rw [if_neg]; intro h; exact hc h.2
  | [a], b :: w => rfl
  | [a, b], w => rfl
  | a :: b :: d :: pre, w => rfl
theorem pv_none_zero {w : List UInt8} {c : UInt8} (hc : c.toNat = 48) : pv (c :: w) = none := by
  match w with
  | [] => simp only [pv]; rw [if_neg]; omega
  | [b] => simp only [pv]; rw [if_neg]; omega
  | b :: d :: w => rfl
theorem goodR_cnt : ∀ (l pre p0 : List UInt8) (ps : List (List UInt8)) (p : Nat), preOk pre → pieces l = p0 :: ps → goodR l pre.length p = cntOk ((pre ++ p0) :: ps) p
  | [], pre, p0, ps, p, hp, he => by
    cases he
    rw [List.append_nil, cnt_cons]
    simp only [goodR]
    match pre, hp with
    | [], _ => rfl
    | a :: pre, hp =>
      obtain ⟨n, hn⟩ := pv_some_pre hp (by simp)
      rw [hn]
      simp [cntOk, nums]
  | c :: l, pre, p0, ps, p, hp, he => by
    rw [pieces_cons] at he
    simp only [goodR]
    by_cases hc : c.toNat = 46
    · rw [if_pos (by rw [show c = 46 from UInt8.toNat_inj.mp hc]; rfl)] at he
      cases he
      rw [if_pos hc, List.append_nil, cnt_cons]
      match pre, hp with
      | [], _ => rfl
      | a :: pre, hp =>
        obtain ⟨n, hn⟩ := pv_some_pre hp (by simp)
        rw [hn, if_neg (by simp)]
        simp only
        cases hl : pieces l with
        | nil => exact absurd hl (pieces_ne l)
        | cons q qs =>
          have := goodR_cnt l [] q qs (p + 1) trivial hl
          simpa using this
    · rw [if_neg (by intro h; rw [eq_of_beq h] at hc; exact hc rfl)] at he
      rw [if_neg hc]
      cases hl : pieces l with
      | nil => exact absurd hl (pieces_ne l)
      | cons q qs =>
        rw [hl] at he
        injection he with e1 e2
        subst e1
        subst e2
        have ih := goodR_cnt l (pre ++ [c]) q qs p
        by_cases hd : dig c
        · match pre, hp with
          | [], _ =>
            by_cases h0 : c.toNat = 48
            · rw [if_pos (by right; right; left; exact ⟨rfl, h0⟩), cnt_cons, List.nil_append, pv_none_zero h0]
            · rw [if_neg (by have := hd.1; have := hd.2; simp; omega)]
              exact ih ⟨hd, h0⟩ hl
          | [a], hp =>
            rw [if_neg (by have := hd.1; have := hd.2; simp; omega)]
            have := ih ⟨hp.1, hp.2, hd⟩ hl
            simpa using this
          | [a, b], hp =>
            rw [if_pos (by right; right; right; rfl), cnt_cons]
            rfl
          | _ :: _ :: _ :: _, hp => exact hp.elim
        · rw [if_pos (by unfold dig at hd; omega), cnt_cons, pv_none_nd hd]
theorem nums_len : ∀ {ws : List (List UInt8)} {ns : List Int}, nums ws = some ns → ns.length = ws.length
  | [], ns, h => by cases h; rfl
  | w :: ws, ns, h => by
    simp only [nums] at h
    split at h
    · cases h
    · cases hn : nums ws with
      | none => rw [hn] at h; cases h
      | some ms =>
        rw [hn] at h
        cases h
        simp [nums_len hn]
def good (l : List UInt8) : Bool := goodR l 0 1
theorem good_parts (l : List UInt8) : decide ((parts l).length > 0) = good l := by
  unfold good
  cases hl : pieces l with
  | nil => exact absurd hl (pieces_ne l)
  | cons q qs =>
    have := goodR_cnt l [] q qs 1 trivial hl
    simp only [List.length_nil, List.nil_append] at this
    rw [this]
    unfold parts cntOk
    rw [hl]
    cases hn : nums (q :: qs) with
    | none => rfl
    | some ns =>
      have h1 := nums_len hn
      simp only [List.length_cons] at h1
      simp only
      by_cases h4 : ns.length > 4
      · simp only [if_pos h4]; simp; omega
      · simp only [if_neg h4]; rw [Bool.eq_iff_iff]; simp; omega
theorem r03_Good_eq {l : List UInt8} (hl : l.length < 4611686018427387904) : F_r03_Good l = some (good l) := by
  simp only [F_r03_Good, S_r03_Good, Scr.den, cond_and]
  generalize hF : (fun s => (S_r03_Good_b1 l s).den) = F
  have key : ∀ (k i d p : Nat), i + k = l.length → d ≤ i → p ≤ i + 1 → outM (iterM F ((d : Int), (p : Int), (i : Int))) (fun s => some (decide (s.1 > 0) && decide (s.2.1 ≤ 4))) (fun x => some (id x)) = some (goodR (l.drop i) d p) := by
    intro k
    induction k with
    | zero =>
      intro i d p hk hd hp
      rw [iterM_eq, List.drop_of_length_le (by omega), ← hF]
      simp only [S_r03_Good_b1, Scr.den]
      rw [if_neg (by simp; omega)]
      simp only [outM, goodR]
      congr 1
      rw [Bool.eq_iff_iff]; simp; omega
    | succ k ih =>
      intro i d p hk hd hp
      have hi : i < l.length := by omega
      have ei : l.getD i 0 = l[i] := by simp [List.getD_eq_getElem?_getD, List.getElem?_eq_getElem hi]
      rw [iterM_eq, List.drop_eq_getElem_cons hi, ← congrFun hF]
      simp only [S_r03_Good_b1, Scr.den, Int.toNat_natCast, ei, cond_and, cond_or]
      generalize hcc : l[i] = c
      rw [if_pos (by simp; omega), guardP_pos ⟨by omega, hi, trivial⟩]
      have w1 : IntKind.i64.wrap ((p : Int) + 1) = ((p + 1 : Nat) : Int) := by rw [wrapId (by omega) (by omega)]; omega
      have w2 : IntKind.i64.wrap ((i : Int) + 1) = ((i + 1 : Nat) : Int) := by rw [wrapId (by omega) (by omega)]; omega
      have w3 : IntKind.i64.wrap ((d : Int) + 1) = ((d + 1 : Nat) : Int) := by rw [wrapId (by omega) (by omega)]; omega
      simp only [w1, w2, w3, goodR]
      by_cases hc : c.toNat = 46
      · rw [if_pos (by simp [hc]), if_pos hc]
        by_cases h0 : d = 0
        · rw [if_pos (by simp [h0]), if_pos h0]; rfl
        · rw [if_neg (by simpa using h0), if_neg h0]
          have h := ih (i + 1) 0 (p + 1) (by omega) (by omega) (by omega)
          rw [show ((0 : Nat) : Int) = 0 from rfl] at h
          exact h
      · rw [if_neg (by simp; omega), if_neg hc, guardP_pos ⟨fun _ => by omega, fun _ => hi, fun _ => by omega, fun _ => hi, trivial⟩]
        by_cases hb : c.toNat < 48 ∨ 57 < c.toNat ∨ (d = 0 ∧ c.toNat = 48) ∨ d = 2
        · rw [if_pos (by simp; omega), if_pos hb]; rfl
        · rw [if_neg (by simp; omega), if_neg hb]
          exact ih (i + 1) (d + 1) p (by omega) (by omega) (by omega)
  exact key l.length 0 0 1 (by omega) (by omega) (by omega)
theorem Parts_eq {l : List UInt8} (hl : l.length ≤ 1099511627776) : F_classification_Parts l = some (parts l) := by
  unfold F_classification_Parts
  exact guardP_ok hl rfl
end Go.Proofs.YtfiljdbmhegjgaaGreatDoor
namespace Go.Proofs.YtfiljdbmhegjgaaGreatDoor
open Go Go.TA
/-! ## The order of codes -/
def lexC : List Int → List Int → Int
  | [], [] => 0
  | [], _ :: _ => -1
  | _ :: _, [] => 1
  | a :: x, b :: y => if a < b then -1 else if a > b then 1 else lexC x y
theorem lexC_refl : ∀ x, lexC x x = 0
  | [] => rfl
  | a :: x => by simp [lexC, lexC_refl x]
theorem lexC_eq : ∀ {x y : List Int}, lexC x y = 0 → x = y
  | [], [], _ => rfl
  | [], _ :: _, h => by simp [lexC] at h
  | _ :: _, [], h => by simp [lexC] at h
  | a :: x, b :: y, h => by
    simp only [lexC] at h
    split at h
    · omega
    · split at h
      · omega
      · rw [lexC_eq h, show a = b by omega]
theorem lexC_anti : ∀ x y : List Int, lexC y x = -lexC x y
  | [], [] => rfl
  | [], _ :: _ => rfl
  | _ :: _, [] => rfl
  | a :: x, b :: y => by
    simp only [lexC]
    by_cases h1 : a < b
    · rw [if_pos h1, if_neg (by omega), if_pos (by omega)]; rfl
    · by_cases h2 : a > b
      · rw [if_pos (by omega), if_neg h1, if_pos h2]
      · rw [if_neg h1, if_neg h2, if_neg (by omega), if_neg (by omega), lexC_anti x y]
theorem lexC_trans : ∀ {x y z : List Int}, lexC x y < 0 → lexC y z < 0 → lexC x z < 0
  | [], _, [], h, h' => by
    rename_i y
    cases y with
    | nil => simp [lexC] at h
    | cons b y => simp [lexC] at h'
  | [], _, c :: z, _, _ => by simp [lexC]
  | a :: x, [], _, h, _ => by simp [lexC] at h
  | a :: x, b :: y, [], _, h' => by simp [lexC] at h'
  | a :: x, b :: y, c :: z, h, h' => by
    simp only [lexC] at h h' ⊢
    by_cases h1 : a < b
    · by_cases h2 : b < c
      · rw [if_pos (by omega)]; omega
      · rw [if_neg h2] at h'
        by_cases h3 : b > c
        · rw [if_pos h3] at h'; omega
        · rw [if_pos (by omega)]; omega
    · rw [if_neg h1] at h
      by_cases h2 : a > b
      · rw [if_pos h2] at h; omega
      · rw [if_neg h2] at h
        by_cases h3 : b < c
        · rw [if_pos (by omega)]; omega
        · rw [if_neg h3] at h'
          by_cases h4 : b > c
          · rw [if_pos h4] at h'; omega
          · rw [if_neg h4] at h'
            rw [if_neg (by omega), if_neg (by omega)]
            exact lexC_trans h h'
/-! ## A code is told by its parts -/
theorem pv_inj : ∀ {w w' : List UInt8} {n : Int}, pv w = some n → pv w' = some n → w = w'
  | [], _, _, h, _ => by simp [pv] at h
  | [a], [], _, _, h => by simp [pv] at h
  | [a, b], [], _, _, h => by simp [pv] at h
  | [a], [c], n, h, h' => by
    simp only [pv] at h h'
    split at h <;> split at h' <;> simp at h h'
    have : a.toNat = c.toNat := by omega
    rw [UInt8.toNat_inj.1 this]
  | [a], [c, d], n, h, h' => by
    simp only [pv] at h h'
    split at h <;> split at h' <;> simp at h h'
    omega
  | [a, b], [c], n, h, h' => by
    simp only [pv] at h h'
    split at h <;> split at h' <;> simp at h h'
    omega
  | [a, b], [c, d], n, h, h' => by
    simp only [pv] at h h'
    split at h <;> split at h' <;> simp at h h'
    have h1 : a.toNat = c.toNat := by omega
    have h2 : b.toNat = d.toNat := by omega
    rw [UInt8.toNat_inj.1 h1, UInt8.toNat_inj.1 h2]
  | _ :: _ :: _ :: _, _, _, h, _ => by simp [pv] at h
  | _, _ :: _ :: _ :: _, _, _, h => by simp [pv] at h
theorem nums_inj : ∀ {ws ws' : List (List UInt8)} {ns : List Int}, nums ws = some ns → nums ws' = some ns → ws = ws'
  | [], [], _, _, _ => rfl
  | [], w :: ws, ns, h, h' => by
    have h1 := nums_len h; have h2 := nums_len h'; simp only [List.length_nil, List.length_cons] at h1 h2; omega
  | w :: ws, [], ns, h, h' => by
    have h1 := nums_len h; have h2 := nums_len h'; simp only [List.length_nil, List.length_cons] at h1 h2; omega
  | w :: ws, w' :: ws', ns, h, h' => by
    simp only [nums] at h h'
    split at h
    · cases h
    · rename_i n hn
      split at h'
      · cases h'
      · rename_i n' hn'
        cases hm : nums ws with
        | none => rw [hm] at h; cases h
        | some ms =>
          cases hm' : nums ws' with
          | none => rw [hm'] at h'; cases h'
          | some ms' =>
            rw [hm] at h; rw [hm'] at h'
            simp only [Option.map_some, Option.some.injEq] at h h'
            rw [← h] at h'
            simp only [List.cons.injEq] at h'
            obtain ⟨rfl, rfl⟩ := h'
            rw [pv_inj hn hn', nums_inj hm hm']
theorem pieces_inj : ∀ {l l' : List UInt8}, pieces l = pieces l' → l = l'
  | [], [], _ => rfl
  | [], b :: m, h => by
    rw [pieces_cons] at h
    split at h
    · simp [pieces] at h; first | exact absurd h (pieces_ne m) | exact absurd h.symm (pieces_ne m)
    · split at h <;> simp [pieces] at h
  | b :: m, [], h => by
    rw [pieces_cons] at h
    split at h
    · simp [pieces] at h; first | exact absurd h (pieces_ne m) | exact absurd h.symm (pieces_ne m)
    · split at h <;> simp [pieces] at h
  | b :: l, c :: m, h => by
    rw [pieces_cons, pieces_cons] at h
    cases hl : pieces l with
    | nil => exact absurd hl (pieces_ne l)
    | cons p ps =>
      cases hm : pieces m with
      | nil => exact absurd hm (pieces_ne m)
      | cons q qs =>
        rw [hl, hm] at h
        by_cases hb : (b == 46) = true
        · by_cases hc : (c == 46) = true
          · rw [if_pos hb, if_pos hc] at h
            have e : pieces l = pieces m := by rw [hl, hm]; simpa using h
            rw [pieces_inj e, show b = c by rw [eq_of_beq hb, eq_of_beq hc]]
          · rw [if_pos hb, if_neg hc] at h; simp at h
        · by_cases hc : (c == 46) = true
          · rw [if_neg hb, if_pos hc] at h; simp at h
          · rw [if_neg hb, if_neg hc] at h
            simp only [List.cons.injEq] at h
            obtain ⟨⟨rfl, rfl⟩, rfl⟩ := h
            rw [pieces_inj (hl.trans hm.symm)]
theorem good_nums {l : List UInt8} (h : good l = true) : nums (pieces l) = some (parts l) ∧ 0 < (parts l).length ∧ (parts l).length ≤ 4 := by
  rw [← good_parts] at h
  have h0 : 0 < (parts l).length := by simpa using h
  unfold parts at h0 ⊢
  split at h0
  · simp at h0
  · rename_i ns hn
    split at h0
    · simp at h0
    · rename_i h4
      rw [hn]
      simp only [if_neg h4]
      exact ⟨trivial, h0, by omega⟩
theorem parts_inj {l l' : List UInt8} (h : good l = true) (h' : good l' = true) (e : parts l = parts l') : l = l' :=
  pieces_inj (nums_inj (good_nums h).1 (e ▸ (good_nums h').1))
/-! ## The reference's parts -/
def valW (w : List UInt8) : Int := w.foldl (fun n c => 10 * n + ((c.toNat : Int) - 48)) 0
theorem pv_val : ∀ {w : List UInt8} {n : Int}, pv w = some n → valW w = n ∧ 1 ≤ w.length ∧ w.length ≤ 2 ∧ (w.getD 0 0).toNat ≠ 48 ∧ ∀ c ∈ w, 48 ≤ c.toNat ∧ c.toNat ≤ 57
  | [], _, h => by simp [pv] at h
  | [a], n, h => by
    simp only [pv] at h
    split at h <;> simp at h
    rename_i h1
    refine ⟨by simp [valW]; omega, by simp, by simp, by simp; omega, fun c hc => by simp at hc; subst hc; omega⟩
  | [a, b], n, h => by
    simp only [pv] at h
    split at h <;> simp at h
    rename_i h1
    refine ⟨by simp [valW]; omega, by simp, by simp, by simp; omega, fun c hc => ?_⟩
    simp at hc
    rcases hc with rfl | rfl <;> omega
  | _ :: _ :: _ :: _, _, h => by simp [pv] at h
theorem good_len {l : List UInt8} (h : good l = true) : l.length ≤ 11 := by
  have key : ∀ (l : List UInt8) (ns : List Int), nums (pieces l) = some ns → l.length + 1 ≤ 3 * ns.length := by
    intro l
    suffices H : ∀ (l p0 : List UInt8) (ps : List (List UInt8)), pieces l = p0 :: ps → l.length = p0.length + (ps.map fun q => q.length + 1).sum by
      intro ns hn
      cases hp : pieces l with
      | nil => exact absurd hp (pieces_ne l)
      | cons p0 ps =>
        rw [hp] at hn
        rw [H l p0 ps hp]
        have hall : ∀ (ws : List (List UInt8)) (ms : List Int), nums ws = some ms → (ws.map fun q => q.length + 1).sum ≤ 3 * ms.length := by
          intro ws
          induction ws with
          | nil => intro ms hm; simp
          | cons w ws ih =>
            intro ms hm
            simp only [nums] at hm
            split at hm
            · cases hm
            · rename_i n hpv
              cases hw : nums ws with
              | none => rw [hw] at hm; cases hm
              | some ks =>
                rw [hw] at hm; cases hm
                have := ih ks hw
                have := (pv_val hpv).2.2.1
                simp only [List.map_cons, List.sum_cons, List.length_cons]
                omega
        have := hall _ _ hn
        simp only [List.map_cons, List.sum_cons] at this
        omega
    intro l
    induction l with
    | nil => intro p0 ps hp; simp [pieces] at hp; obtain ⟨rfl, rfl⟩ := hp; simp
    | cons b l ih =>
      intro p0 ps hp
      rw [pieces_cons] at hp
      cases hl : pieces l with
      | nil => exact absurd hl (pieces_ne l)
      | cons q qs =>
        have := ih q qs hl
        rw [hl] at hp
        split at hp
        · simp only [List.cons.injEq] at hp
          obtain ⟨rfl, rfl⟩ := hp
          simp only [List.length_cons, List.length_nil, List.map_cons, List.sum_cons]; omega
        · simp only [List.cons.injEq] at hp
          obtain ⟨rfl, rfl⟩ := hp
          simp only [List.length_cons]; omega
  obtain ⟨h1, h2, h3⟩ := good_nums h
  have := key l _ h1
  omega
end Go.Proofs.YtfiljdbmhegjgaaGreatDoor
namespace Go.Proofs.YtfiljdbmhegjgaaGreatDoor
open Go Go.TA
def cmpI (a b : Int) : Int := if a < b then -1 else if a > b then 1 else 0
theorem cmpI_eq (a b : Int) : F_cmp_Compare_int a b = some (cmpI a b) := by
  simp only [F_cmp_Compare_int, S_cmp_Compare_int, F_cmp_isNaN_int, S_cmp_isNaN_int, Scr.den, obind, cmpI, bne_self_eq_false, Bool.false_eq_true, if_false, decide_eq_true_eq]
  by_cases h1 : a < b
  · rw [if_pos h1, if_pos h1]
  · rw [if_neg h1, if_neg h1]
    by_cases h2 : a > b
    · rw [if_pos h2, if_pos h2]
    · rw [if_neg h2, if_neg h2]
theorem getD_of {l : List Int} {i : Nat} (hi : i < l.length) : l.getD i default = l[i] := by simp [List.getD_eq_getElem?_getD, List.getElem?_eq_getElem hi]
theorem slicesCompare_eq (x y : List Int) : F_slices_Compare_int x y = some (lexC x y) := by
  simp only [F_slices_Compare_int, S_slices_Compare_int, Scr.den]
  generalize hB : (fun i s => (S_slices_Compare_int_b1 x y i s).den) = B
  have key : ∀ (k i : Nat), i + k = x.length → i ≤ y.length → outM (rangeM B k i ()) (fun _ => if decide ((x.length : Int) < (y.length : Int)) = true then some (-1) else some 0) (fun r => some (id r)) = some (lexC (x.drop i) (y.drop i)) := by
    intro k
    induction k with
    | zero =>
      intro i hk hy
      rw [List.drop_of_length_le (by omega)]
      by_cases h : y.length ≤ i
      · rw [List.drop_of_length_le h]
        simp only [rangeM, outM]
        rw [if_neg (by simp; omega)]
        rfl
      · rw [List.drop_eq_getElem_cons (by omega : i < y.length)]
        simp only [rangeM, outM]
        rw [if_pos (by simp; omega)]
        rfl
    | succ k ih =>
      intro i hk hy
      have hi : i < x.length := by omega
      rw [List.drop_eq_getElem_cons hi]
      simp only [rangeM]
      rw [← congrFun (congrFun hB i) ()]
      simp only [S_slices_Compare_int_b1, Scr.den]
      by_cases h : y.length ≤ i
      · rw [if_pos (by simp; omega), List.drop_of_length_le h]
        rfl
      · have hj : i < y.length := by omega
        rw [if_neg (by simp; omega), guardP_pos ⟨hj, trivial⟩, List.drop_eq_getElem_cons hj]
        simp only [cmpI_eq, obind, getD_of hi, getD_of hj, lexC, cmpI]
        by_cases h1 : x[i] < y[i]
        · simp only [if_pos h1]; rfl
        · simp only [if_neg h1]
          by_cases h2 : x[i] > y[i]
          · simp only [if_pos h2]; rfl
          · simp only [if_neg h2]
            exact ih (i + 1) (by omega) (by omega)
  have := key x.length 0 (by omega) (by omega)
  simpa using this
def strC (a b : List UInt8) : Int := if Op.bytesLess a b = true then -1 else if (!(Op.bytesLess a b || a == b)) = true then 1 else 0
def cmpC (a b : List UInt8) : Int := if (parts a).length = 0 ∧ (parts b).length = 0 then strC a b else lexC (parts a) (parts b)
theorem Compare_eq {a b : List UInt8} (ha : a.length ≤ 1000000) (hb : b.length ≤ 1000000) : F_classification_Compare a b = some (cmpC a b) := by
  simp only [F_classification_Compare, S_classification_Compare, Scr.den, Parts_eq (show a.length ≤ 1099511627776 by omega), Parts_eq (show b.length ≤ 1099511627776 by omega), obind, cond_and, cmpC, slicesCompare_eq]
  by_cases h : (parts a).length = 0 ∧ (parts b).length = 0
  · rw [if_pos (by simp [h]), if_pos h]
    simp only [F_cmp_Compare_string, S_cmp_Compare_string, F_cmp_isNaN_string, S_cmp_isNaN_string, Scr.den, obind, beq_self_eq_true, Bool.not_true, Bool.false_eq_true, if_false, strC]
    by_cases h1 : Op.bytesLess a b = true
    · rw [if_pos h1, if_pos h1]; rfl
    · rw [if_neg h1, if_neg h1]
      by_cases h2 : (!(Op.bytesLess a b || a == b)) = true
      · rw [if_pos h2, if_pos h2]; rfl
      · rw [if_neg h2, if_neg h2]; rfl
  · rw [if_neg (by simpa using h), if_neg h]
theorem cmpC_good {a b : List UInt8} (h : good a = true ∨ good b = true) : cmpC a b = lexC (parts a) (parts b) := by
  unfold cmpC
  rw [if_neg]
  rintro ⟨h1, h2⟩
  rcases h with h | h
  · have := (good_nums h).2.1; omega
  · have := (good_nums h).2.1; omega
/-- The order of rights. -/
theorem r03_Parts_eq {l : List UInt8} (hg : good l = true) : F_r03_Parts l = some (parts l) := by
  obtain ⟨hn, h0, h4⟩ := good_nums hg
  have hlen := good_len hg
  simp only [F_r03_Parts, S_r03_Parts, Scr.den]
  rw [if_neg (by simp; omega)]
  generalize hF : (fun s => (S_r03_Parts_b1 l s).den) = F
  have w1 : ∀ i : Nat, i ≤ 11 → IntKind.i64.wrap ((i : Int) + 1) = ((i + 1 : Nat) : Int) := fun i hi => by rw [wrapId (by omega) (by omega)]; omega
  have flush : ∀ (i : Nat) (w : List UInt8) (out : List Int) (n : Int), i ≤ l.length → w.length ≤ i → (∀ j, j < w.length → l.getD (i - w.length + j) 0 = w.getD j 0) → pv w = some n → (i = l.length ∨ (l.getD i 0).toNat = 46) → out.length ≤ 4 →
      F (out, valW w, (w.length : Int), (i : Int)) = some (.cont (out ++ [n], 0, 0, ((i + 1 : Nat) : Int))) := by
    intro i w out n hi hw hg hpv hor ho
    obtain ⟨e1, e2, e3, e4, e5⟩ := pv_val hpv
    have hk : IntKind.i64.wrap ((i : Int) - (w.length : Int)) = ((i - w.length : Nat) : Int) := by rw [wrapId (by omega) (by omega)]; omega
    have h0 := hg 0 (by omega)
    rw [Nat.add_zero] at h0
    rw [← congrFun hF]
    simp only [S_r03_Parts_b1, Scr.den, Int.toNat_natCast, cond_or, hk, h0]
    rw [if_pos (by simp; omega), guardP_pos ⟨fun _ => by omega, fun h => by have h := h.1; simp at h; omega, trivial⟩, if_pos (by
      rcases hor with rfl | h
      · simp
      · simp only [Bool.or_eq_true, beq_iff_eq]; right; omega), guardP_pos ⟨fun _ => by omega, fun _ => by omega, trivial⟩, if_neg (by
        simp only [Bool.or_eq_true, beq_iff_eq, decide_eq_true_eq]; omega), guardP_pos ⟨by omega, trivial⟩, w1 i (by omega), e1]
  have digit : ∀ (i : Nat) (w : List UInt8) (out : List Int), i < l.length → (l.getD i 0).toNat ≠ 46 → 48 ≤ (l.getD i 0).toNat ∧ (l.getD i 0).toNat ≤ 57 → w.length ≤ 1 → (∀ c ∈ w, 48 ≤ c.toNat ∧ c.toNat ≤ 57) →
      F (out, valW w, (w.length : Int), (i : Int)) = some (.cont (out, valW (w ++ [l.getD i 0]), ((w ++ [l.getD i 0]).length : Int), ((i + 1 : Nat) : Int))) := by
    intro i w out hi h46 hd hw hall
    have hv : 0 ≤ valW w ∧ valW w ≤ 9 := by
      match w, hw with
      | [], _ => simp [valW]
      | [a], _ => have := hall a (by simp); simp [valW]; omega
    have e1 : valW (w ++ [l.getD i 0]) = 10 * valW w + (((l.getD i 0).toNat : Int) - 48) := by simp [valW]
    have e2 : IntKind.u8.wrap (((l.getD i 0).toNat : Int) - 48) = ((l.getD i 0).toNat : Int) - 48 := by
      generalize (l.getD i 0).toNat = m at hd
      simp only [IntKind.wrap, IntKind.bits, IntKind.signed]
      simp
      omega
    rw [← congrFun hF]
    simp only [S_r03_Parts_b1, Scr.den, Int.toNat_natCast, cond_or, e1, e2]
    rw [if_pos (by simp; omega), guardP_pos ⟨fun _ => by omega, fun _ => by omega, trivial⟩, if_neg (by simp only [Bool.or_eq_true, beq_iff_eq]; omega), guardP_pos ⟨by omega, hi, fun _ => by omega, fun _ => hi, trivial⟩, if_neg (by simp only [Bool.or_eq_true, decide_eq_true_eq]; omega), w1 i (by omega), w1 w.length (by omega),
      wrapId (n := 10 * valW w) (by omega) (by omega), wrapId (n := ((l.getD i 0).toNat : Int) - 48) (by omega) (by omega), wrapId (by omega) (by omega)]
    simp
  have key : ∀ (k i : Nat) (w p0 : List UInt8) (ps : List (List UInt8)) (out ns : List Int), i + k = l.length → w.length ≤ i → (∀ j, j < w.length → l.getD (i - w.length + j) 0 = w.getD j 0) → pieces (l.drop i) = p0 :: ps → nums ((w ++ p0) :: ps) = some ns → out.length + ns.length ≤ 4 →
      iterM F (out, valW w, (w.length : Int), (i : Int)) = some (.next (out ++ ns, 0, 0, ((l.length + 1 : Nat) : Int))) := by
    intro k
    induction k with
    | zero =>
      intro i w p0 ps out ns hk hw hgd hpc hnm ho
      obtain rfl : i = l.length := by omega
      rw [List.drop_of_length_le (Nat.le_refl _)] at hpc
      simp only [pieces, List.cons.injEq] at hpc
      obtain ⟨rfl, rfl⟩ := hpc
      simp only [List.append_nil, nums] at hnm
      split at hnm
      · cases hnm
      · rename_i n hpv
        simp only [Option.map_some, Option.some.injEq] at hnm
        subst hnm
        rw [iterM_eq, flush l.length w out n (Nat.le_refl _) hw hgd hpv (.inl rfl) (by simp at ho; omega)]
        simp only
        rw [iterM_eq, ← congrFun hF]
        simp only [S_r03_Parts_b1, Scr.den]
        rw [if_neg (by simp; omega)]
    | succ k ih =>
      intro i w p0 ps out ns hk hw hgd hpc hnm ho
      have hi : i < l.length := by omega
      have ei : l.getD i 0 = l[i] := by simp [List.getD_eq_getElem?_getD, List.getElem?_eq_getElem hi]
      rw [List.drop_eq_getElem_cons hi, pieces_cons] at hpc
      cases hq : pieces (l.drop (i + 1)) with
      | nil => exact absurd hq (pieces_ne _)
      | cons q qs =>
        rw [hq] at hpc
        by_cases hc : (l[i] == 46) = true
        · rw [if_pos hc] at hpc
          simp only [List.cons.injEq] at hpc
          obtain ⟨rfl, rfl⟩ := hpc
          simp only [List.append_nil, nums] at hnm
          split at hnm
          · cases hnm
          · rename_i n hpv
            cases hm : nums (q :: qs) with
            | none => simp only [nums] at hm; rw [hm] at hnm; cases hnm
            | some ms =>
              have hm' := hm
              simp only [nums] at hm'
              rw [hm'] at hnm
              simp only [Option.map_some, Option.some.injEq] at hnm
              subst hnm
              simp only [List.length_cons] at ho
              have h46 : (l.getD i 0).toNat = 46 := by rw [ei, eq_of_beq hc]; rfl
              rw [iterM_eq, flush i w out n (by omega) hw hgd hpv (.inr h46) (by omega)]
              simp only
              have := ih (i + 1) [] q qs (out ++ [n]) ms (by omega) (by simp) (by simp) hq (by simpa using hm) (by simp; omega)
              simpa [valW] using this
        · rw [if_neg hc] at hpc
          simp only [List.cons.injEq] at hpc
          obtain ⟨rfl, rfl⟩ := hpc
          have hpv : ∃ n, pv (w ++ l[i] :: q) = some n := by
            simp only [nums] at hnm
            split at hnm
            · cases hnm
            · rename_i n h; exact ⟨n, h⟩
          obtain ⟨n, hpv⟩ := hpv
          obtain ⟨_, _, g3, _, g5⟩ := pv_val hpv
          simp only [List.length_append, List.length_cons] at g3
          have hne : (l.getD i 0).toNat ≠ 46 := by
            rw [ei]; intro h; exact hc (by rw [UInt8.toNat_inj.1 (show l[i].toNat = (46 : UInt8).toNat from h)]; rfl)
          rw [iterM_eq, digit i w out hi hne (by rw [ei]; exact g5 l[i] (by simp)) (by omega) (fun c hc => g5 c (by simp [hc]))]
          simp only
          refine ih (i + 1) (w ++ [l.getD i 0]) q qs out ns (by omega) (by simp; omega) (fun j hj => ?_) hq (by rw [ei]; simpa using hnm) ho
          simp only [List.length_append, List.length_cons, List.length_nil] at hj ⊢
          by_cases hjw : j < w.length
          · have := hgd j hjw
            rw [show i + 1 - (w.length + (0 + 1)) + j = i - w.length + j by omega, this]
            simp [List.getD_eq_getElem?_getD, List.getElem?_append_left hjw]
          · obtain rfl : j = w.length := by omega
            rw [show i + 1 - (w.length + (0 + 1)) + w.length = i by omega]
            simp [List.getD_eq_getElem?_getD]
  cases hp : pieces l with
  | nil => exact absurd hp (pieces_ne l)
  | cons p0 ps =>
    rw [hp] at hn
    have h := key l.length 0 [] p0 ps [] (parts l) (by omega) (by simp) (by simp) (by simpa using hp) (by simpa using hn) (by simp; omega)
    have h' : iterM F (([] : List Int), (0 : Int), (0 : Int), (0 : Int)) = some (.next (parts l, 0, 0, ((l.length + 1 : Nat) : Int))) := by simpa [valW] using h
    rw [h']
    simp only [outM]
    rw [if_neg (by simp; omega), guardP_pos ⟨by omega, trivial⟩]
theorem r03_Compare_eq {a b : List UInt8} (ha : good a = true) (hb : good b = true) : F_r03_Compare a b = some (lexC (parts a) (parts b)) := by
  have h1 := (good_nums ha).2
  have h2 := (good_nums hb).2
  simp only [F_r03_Compare, S_r03_Compare, Scr.den, r03_Parts_eq ha, r03_Parts_eq hb, obind, cond_or]
  rw [if_neg (by simp only [Bool.or_eq_true, beq_iff_eq]; omega)]
  generalize parts a = x at h1
  generalize parts b = y at h2
  generalize hF : (fun s => (S_r03_Compare_b1 x y s).den) = F
  have key : ∀ (k i : Nat), i + k = x.length → i ≤ y.length → outM (iterM F (i : Int)) (fun _ => if decide ((x.length : Int) < (y.length : Int)) = true then some (-1) else if decide ((x.length : Int) > (y.length : Int)) = true then some 1 else some 0) (fun r => some (id r)) = some (lexC (x.drop i) (y.drop i)) := by
    intro k
    induction k with
    | zero =>
      intro i hk hy
      rw [iterM_eq, ← congrFun hF]
      simp only [S_r03_Compare_b1, Scr.den, cond_and]
      rw [if_neg (by simp only [Bool.and_eq_true, decide_eq_true_eq]; omega), List.drop_of_length_le (by omega)]
      simp only [outM]
      by_cases h : y.length ≤ i
      · rw [List.drop_of_length_le h, if_neg (by simp; omega), if_neg (by simp; omega)]; rfl
      · rw [List.drop_eq_getElem_cons (by omega : i < y.length), if_pos (by simp; omega)]; rfl
    | succ k ih =>
      intro i hk hy
      have hi : i < x.length := by omega
      rw [iterM_eq, ← congrFun hF, List.drop_eq_getElem_cons hi]
      simp only [S_r03_Compare_b1, Scr.den, cond_and]
      by_cases h : y.length ≤ i
      · rw [if_neg (by simp only [Bool.and_eq_true, decide_eq_true_eq]; omega), List.drop_of_length_le h]
        simp only [outM]
        rw [if_neg (by simp; omega), if_pos (by simp; omega)]; rfl
      · have hj : i < y.length := by omega
        have w1 : IntKind.i64.wrap ((i : Int) + 1) = ((i + 1 : Nat) : Int) := by rw [wrapId (by omega) (by omega)]; omega
        rw [if_pos (by simp only [Bool.and_eq_true, decide_eq_true_eq]; omega), guardP_pos ⟨by omega, by omega, by omega, trivial⟩, List.drop_eq_getElem_cons hj]
        simp only [Int.toNat_natCast, getD_of hi, getD_of hj, lexC]
        by_cases h1 : x[i] < y[i]
        · rw [if_pos (decide_eq_true h1), if_pos h1]; rfl
        · rw [if_neg (by simpa using h1), if_neg h1]
          by_cases h2 : x[i] > y[i]
          · rw [if_pos (decide_eq_true h2), if_pos h2]; rfl
          · rw [if_neg (by simpa using h2), if_neg h2, w1]
            exact ih (i + 1) (by omega) (by omega)
  have := key x.length 0 (by omega) (by omega)
  simpa using this
/-! ## Rights -/
theorem rights_among_eq (n a b : Int) : F_rights_among n a b = some (decide (a ≤ n ∧ n ≤ b)) := by
  simp only [F_rights_among, S_rights_among, Scr.den, cond_and, ge_iff_le, Bool.decide_and]
theorem rights_total_eq (n : Int) : F_rights_total n = some (decide (0 ≤ n ∧ n ≤ 1000000000000000)) := by
  simp only [F_rights_total, S_rights_total, Scr.den, rights_among_eq, obind]
theorem idx_loop {α ρ : Type} [Inhabited α] (l : List α) (p : α → Bool) (v : Nat → ρ) {body : Nat → Unit → Option (Step Unit ρ)} (hs : ∀ i, i < l.length → body i () = some (if p (l.getD i default) = true then .ret (v i) else .cont ())) :
    rangeM body l.length 0 () = some (if l.any p = true then .ret (v (l.findIdx p)) else .next ()) := by
  have key : ∀ (k i : Nat), i + k = l.length → rangeM body k i () = some (if (l.drop i).any p = true then .ret (v (i + (l.drop i).findIdx p)) else .next ()) := by
    intro k
    induction k with
    | zero => intro i hk; rw [List.drop_of_length_le (by omega)]; rfl
    | succ k ih =>
      intro i hk
      have hi : i < l.length := by omega
      have e : l.getD i default = l[i] := by simp [List.getD_eq_getElem?_getD, List.getElem?_eq_getElem hi]
      rw [List.drop_eq_getElem_cons hi]
      simp only [rangeM, hs i hi, e, List.any_cons, List.findIdx_cons]
      cases hp : p l[i] with
      | true => simp
      | false =>
        simp only [Bool.false_eq_true, if_false, Bool.false_or, cond_false]
        rw [ih (i + 1) (by omega), show i + 1 + (l.drop (i + 1)).findIdx p = i + ((l.drop (i + 1)).findIdx p + 1) by omega]
  have := key l.length 0 (by omega)
  simpa using this
end Go.Proofs.YtfiljdbmhegjgaaGreatDoor
namespace Go.Proofs.YtfiljdbmhegjgaaGreatDoor
open Go Go.TA
/-! ## Counters, rows, pots -/
def tot (n : Int) : Prop := 0 ≤ n ∧ n ≤ 1000000000000000
instance (n : Int) : Decidable (tot n) := by unfold tot; infer_instance
theorem foldl_wrap (l : List Int) (a : Int) : l.foldl (fun s x => IntKind.i64.wrap (s + x)) (IntKind.i64.wrap a) = IntKind.i64.wrap (a + l.sum) := by
  induction l generalizing a with
  | nil => simp
  | cons x l ih => rw [List.foldl_cons, wrap_addl, ih, List.sum_cons, Int.add_assoc]
theorem wrap_zero : IntKind.i64.wrap 0 = 0 := wrapId (by omega) (by omega)
theorem sum_eq (l : List Int) : F_rights_sum l = some (IntKind.i64.wrap l.sum) := by
  have e := foldl_wrap l 0
  rw [wrap_zero, Int.zero_add] at e
  simp only [F_rights_sum, S_rights_sum, Scr.den]
  rw [rangeM_fold (ρ := R_rights_sum) (body := fun i s => (S_rights_sum_b1 l i s).den) l (fun (s : Int) x => IntKind.i64.wrap (s + x)) (fun i s hi => rfl)]
  simp only [outM, e]
theorem place_eq {c : List UInt8} (hc : c.length ≤ 1000000) (y : Int) : F_rights_place c y = some (good c && decide (0 ≤ y ∧ y ≤ 99)) := by
  have hg := good_parts c
  simp only [F_rights_place, S_rights_place, Scr.den, Parts_eq (l := c) (by omega), obind, cond_and]
  have e : decide (((parts c).length : Int) > 0) = good c := by rw [← hg]; simp
  rw [e]
  cases good c with
  | true => rw [optD_pos (by simp [AllP])]; simp [rights_among_eq]
  | false => rw [optD_none (by simp [AllP])]; simp
theorem among_total (n : Int) : F_rights_total n = some (decide (tot n)) := by rw [rights_total_eq]; rfl
theorem r13_total_eq (n : Int) : F_r13_total n = some (decide (tot n)) := by
  simp only [F_r13_total, S_r13_total, Scr.den, cond_and]
  congr 1
  by_cases h : tot n
  · rw [decide_eq_true h, decide_eq_true h.1, decide_eq_true h.2]; rfl
  · rw [decide_eq_false h]
    unfold tot at h
    simp only [Bool.and_eq_false_iff, decide_eq_false_iff_not, ge_iff_le]
    omega
def rowT (l : List Int) : Bool := l.all fun x => decide (tot x)
theorem indexFunc_eq (l : List Int) : F_slices_IndexFunc_int_rights_valid_1 l = some (if rowT l = true then -1 else ((l.findIdx fun x => !decide (tot x) : Nat) : Int)) := by
  simp only [F_slices_IndexFunc_int_rights_valid_1, S_slices_IndexFunc_int_rights_valid_1, Scr.den]
  rw [idx_loop l (fun x => !decide (tot x)) (fun i => (i : Int)) (fun i hi => by
    simp only [S_slices_IndexFunc_int_rights_valid_1_b1, F_rights_valid_1, S_rights_valid_1, Scr.den, among_total, obind]
    split <;> rfl)]
  have e : (l.any fun x => !decide (tot x)) = !rowT l := by rw [rowT, List.all_eq_not_any_not, Bool.not_not]
  rw [e]
  cases rowT l <;> rfl
theorem contains_eq (l : List Int) : F_slices_CoF_int_rights_valid_1 l = some (!rowT l) := by
  simp only [F_slices_CoF_int_rights_valid_1, S_slices_CoF_int_rights_valid_1, Scr.den, indexFunc_eq, obind]
  congr 1
  cases rowT l with
  | true => rfl
  | false => simp
theorem rowT_iff {l : List Int} : rowT l = true ↔ ∀ x ∈ l, tot x := by simp [rowT]
/-- A pot's rows: as many as offices, all of them counters, none given back or asked that was not granted. -/
def rowOk (n : Int) (l : List Int) : Prop := (l.length : Int) = n ∧ ∀ x ∈ l, tot x
instance (n : Int) (l : List Int) : Decidable (rowOk n l) := by unfold rowOk; infer_instance
def leRow (a b : List Int) : Prop := ∀ i, i < b.length → a.getD i default ≤ b.getD i default
instance (a b : List Int) : Decidable (leRow a b) := by unfold leRow; infer_instance
def PotOk (n : Int) (p : TApiPot) : Prop := good p.Code = true ∧ (0 ≤ p.Year ∧ p.Year ≤ 99) ∧ (-1000000000000000 ≤ p.Total ∧ p.Total ≤ 1000000000000000) ∧
  (rowOk n p.Granted ∧ rowOk n p.Heard ∧ rowOk n p.Asked ∧ rowOk n p.Used) ∧ (leRow p.Heard p.Granted ∧ leRow p.Asked p.Granted) ∧ p.Granted.sum ≤ 1000000000000000
instance (n : Int) (p : TApiPot) : Decidable (PotOk n p) := by unfold PotOk; infer_instance
theorem sum_tot {l : List Int} (h : ∀ x ∈ l, tot x) : 0 ≤ l.sum ∧ l.sum ≤ l.length * 1000000000000000 := by
  induction l with
  | nil => simp
  | cons x l ih =>
    have h1 := h x (by simp)
    have h2 := ih fun y hy => h y (by simp [hy])
    unfold tot at h1
    simp only [List.sum_cons, List.length_cons]
    omega
theorem sum_wrap {l : List Int} {n : Int} (h : rowOk n l) (hn : n ≤ 6) : IntKind.i64.wrap l.sum = l.sum := by
  have := sum_tot h.2
  have := h.1
  exact wrapId (by omega) (by omega)
theorem rows_loop (p : TApiPot) (n : Int) : rangeM (fun i s => (S_rights_valid_b1 p n i s).den) 4 0 () =
    some (if rowOk n p.Granted ∧ rowOk n p.Heard ∧ rowOk n p.Asked ∧ rowOk n p.Used then .next () else .ret false) := by
  have one : ∀ i (l : List Int), ([p.Granted, p.Heard, p.Asked, p.Used] : List (List Int)).getD i default = l → (S_rights_valid_b1 p n i ()).den = some (if rowOk n l then .cont () else .ret false) := fun i l hl => by
    simp only [S_rights_valid_b1, Scr.den, hl, cond_or]
    by_cases h1 : (l.length : Int) = n
    · rw [optD_pos (by simp [AllP, h1]), contains_eq]
      simp only [obind, h1, bne_self_eq_false, Bool.false_or]
      by_cases h2 : rowT l = true
      · rw [h2, if_neg (by simp), if_pos ⟨h1, rowT_iff.1 h2⟩]
      · rw [if_pos (by simpa using h2), if_neg fun h => h2 (rowT_iff.2 h.2)]
    · rw [optD_none (by simp [AllP, h1])]
      simp only [obind]
      rw [if_pos (by simp [h1]), if_neg fun h => h1 h.1]
  rw [show (4 : Nat) = 0 + 1 + 1 + 1 + 1 from rfl]
  simp only [rangeM, one 0 p.Granted rfl, one (0 + 1) p.Heard rfl, one (0 + 1 + 1) p.Asked rfl, one (0 + 1 + 1 + 1) p.Used rfl]
  by_cases h1 : rowOk n p.Granted <;> by_cases h2 : rowOk n p.Heard <;> by_cases h3 : rowOk n p.Asked <;> by_cases h4 : rowOk n p.Used <;> simp [h1, h2, h3, h4]
theorem valid_eq {p : TApiPot} {n : Int} (hc : p.Code.length ≤ 1000000) (hn : n ≤ 6) : F_rights_valid p n = some (decide (PotOk n p)) := by
  simp only [F_rights_valid, S_rights_valid, Scr.den, place_eq hc, obind, cond_or]
  by_cases h1 : (good p.Code && decide (0 ≤ p.Year ∧ p.Year ≤ 99)) = true
  · rw [optD_pos (by rw [h1]; exact ⟨rfl, trivial⟩), rights_among_eq]
    simp only [obind, h1, Bool.not_true, Bool.false_or]
    by_cases h2 : -1000000000000000 ≤ p.Total ∧ p.Total ≤ 1000000000000000
    · rw [if_neg (by simpa using h2), rows_loop]
      by_cases h3 : rowOk n p.Granted ∧ rowOk n p.Heard ∧ rowOk n p.Asked ∧ rowOk n p.Used
      · rw [if_pos h3]
        simp only [outM]
        have l1 := h3.1.1; have l2 := h3.2.1.1; have l3 := h3.2.2.1.1
        have ra := rangeM_all (ρ := Bool) (n := p.Granted.length) (c := false) (body := fun i s => (S_rights_valid_b2 p i s).den) (fun i => p.Heard.getD i default ≤ p.Granted.getD i default ∧ p.Asked.getD i default ≤ p.Granted.getD i default) (fun i hi hp => by
          simp only [S_rights_valid_b2, Scr.den, cond_or]
          rw [guardP_pos (by simp only [AllP, and_true]; exact ⟨by omega, fun _ => by omega⟩), if_neg (by simp only [Bool.or_eq_true, decide_eq_true_eq]; omega)]) (fun i hi hp => by
          simp only [S_rights_valid_b2, Scr.den, cond_or]
          rw [guardP_pos (by simp only [AllP, and_true]; exact ⟨by omega, fun _ => by omega⟩), if_pos (by simp only [Bool.or_eq_true, decide_eq_true_eq]; omega)])
        by_cases h4 : ∀ j, j < p.Granted.length → p.Heard.getD j default ≤ p.Granted.getD j default ∧ p.Asked.getD j default ≤ p.Granted.getD j default
        · rw [ra.1 h4]
          simp only [sum_eq, obind, sum_wrap h3.1 hn]
          congr 1
          refine decide_eq_decide.2 ⟨fun h => ?_, fun h => h.2.2.2.2.2⟩
          simp only [Bool.and_eq_true, decide_eq_true_eq] at h1
          exact ⟨h1.1, h1.2, h2, h3, ⟨fun i hi => (h4 i hi).1, fun i hi => (h4 i hi).2⟩, h⟩
        · rw [ra.2 h4]
          show some false = _
          rw [decide_eq_false fun h => h4 fun j hj => ⟨h.2.2.2.2.1.1 j hj, h.2.2.2.2.1.2 j hj⟩]
      · rw [if_neg h3]
        simp only [outM]
        rw [decide_eq_false fun h => h3 h.2.2.2.1]
        rfl
    · rw [if_pos (by simp only [Bool.not_eq_true', decide_eq_false_iff_not]; exact h2), decide_eq_false fun h => h2 h.2.2.1]
  · rw [optD_none (by rw [Bool.not_eq_true] at h1; rw [h1]; simp [AllP])]
    simp only [obind]
    rw [if_pos (by rw [Bool.not_eq_true] at h1; rw [h1]; rfl), decide_eq_false fun h => h1 (by simp [h.1, h.2.1])]
end Go.Proofs.YtfiljdbmhegjgaaGreatDoor
namespace Go.Proofs.YtfiljdbmhegjgaaGreatDoor
open Go Go.TA
/-! ## The reference's pots; what is out -/
theorem rangeM_chk {α σ ρ : Type} [Inhabited α] {body : Nat → σ → Option (Step σ ρ)} (l : List α) (ok : Nat → Prop) [DecidablePred ok] (g : σ → α → σ) {c : ρ} {s0 : σ}
    (hs : ∀ i s, i < l.length → body i s = some (if ok i then .cont (g s (l.getD i default)) else .ret c)) :
    rangeM body l.length 0 s0 = some (if (∀ i, i < l.length → ok i) then .next (l.foldl g s0) else .ret c) := by
  by_cases h : ∀ i, i < l.length → ok i
  · rw [if_pos h]
    exact rangeM_fold l g fun i s hi => by rw [hs i s hi, if_pos (h i hi)]
  · rw [if_neg h]
    have key : ∀ (k i : Nat) (s : σ), i + k = l.length → (¬ ∀ j, i ≤ j → j < l.length → ok j) → rangeM body k i s = some (.ret c) := by
      intro k
      induction k with
      | zero => intro i s hk hn; exact absurd (fun j h1 h2 => by omega) hn
      | succ k ih =>
        intro i s hk hn
        simp only [rangeM, hs i s (by omega)]
        by_cases ho : ok i
        · rw [if_pos ho]
          refine ih (i + 1) _ (by omega) fun hall => hn fun j h1 h2 => ?_
          by_cases hj : j = i
          · subst hj; exact ho
          · exact hall j (by omega) h2
        · rw [if_neg ho]
    exact key l.length 0 s0 (by omega) fun hall => h fun i hi => hall i (by omega) hi
def okP (g h a u : Int) : Prop := tot g ∧ tot h ∧ tot a ∧ tot u ∧ h ≤ g ∧ a ≤ g
instance (g h a u : Int) : Decidable (okP g h a u) := by unfold okP; infer_instance
theorem pot_step {p : TApiPot} {i : Nat} {s : Int} (h1 : i < p.Heard.length) (h2 : i < p.Asked.length) (h3 : i < p.Used.length) :
    (S_r13_pot_b1 p i s).den = some (if okP (p.Granted.getD i default) (p.Heard.getD i default) (p.Asked.getD i default) (p.Used.getD i default) then .cont (IntKind.i64.wrap (s + p.Granted.getD i default)) else .ret false) := by
  simp only [S_r13_pot_b1, Scr.den, r13_total_eq, obind, cond_or]
  simp only [h1, h2, h3, implies_true]
  generalize p.Granted.getD i default = g
  generalize p.Heard.getD i default = h
  generalize p.Asked.getD i default = a
  generalize p.Used.getD i default = u
  by_cases hA : tot g
  · by_cases hB : tot h
    · by_cases hC : tot a
      · by_cases hD : tot u
        · by_cases hE : h ≤ g
          · by_cases hF : a ≤ g
            · rw [if_pos ⟨hA, hB, hC, hD, hE, hF⟩]
              simp [optD, AllP, hA, hB, hC, hD, guardP, Int.not_lt.2 hE, Int.not_lt.2 hF]
            · rw [if_neg fun h => hF h.2.2.2.2.2]
              simp [optD, AllP, hA, hB, hC, hD, guardP, Int.not_lt.2 hE, Int.not_le.1 hF]
          · rw [if_neg fun h => hE h.2.2.2.2.1]
            simp [optD, AllP, hA, hB, hC, hD, guardP, Int.not_le.1 hE]
        · rw [if_neg fun h => hD h.2.2.2.1]
          simp [optD, AllP, hA, hB, hC, hD, guardP]
      · rw [if_neg fun h => hC h.2.2.1]
        simp [optD, AllP, hA, hB, hC, guardP]
    · rw [if_neg fun h => hB h.2.1]
      simp [optD, AllP, hA, hB, guardP]
  · rw [if_neg fun h => hA h.1]
    simp [optD, AllP, hA, guardP]
theorem all_tot {l : List Int} : (∀ i, i < l.length → tot (l.getD i default)) ↔ ∀ x ∈ l, tot x :=
  ⟨fun h x hx => by obtain ⟨i, hi, rfl⟩ := mem_getD hx; exact h i hi, fun h i hi => h _ (getD_mem hi)⟩
theorem r13_pot_eq {p : TApiPot} {n : Int} (hc : p.Code.length ≤ 1000000) (h6 : n ≤ 6) : F_r13_pot p n = some (decide (PotOk n p)) := by
  simp only [F_r13_pot, S_r13_pot, Scr.den, r03_Good_eq (l := p.Code) (by omega), obind, cond_or]
  by_cases h1 : good p.Code = true ∧ (0 ≤ p.Year ∧ p.Year ≤ 99) ∧ (-1000000000000000 ≤ p.Total ∧ p.Total ≤ 1000000000000000)
  · rw [if_neg (by simp only [Bool.or_eq_true, Bool.not_eq_true', decide_eq_true_eq, h1.1, Bool.true_eq_false, false_or]; omega)]
    by_cases h2 : (p.Granted.length : Int) = n ∧ (p.Heard.length : Int) = n ∧ (p.Asked.length : Int) = n ∧ (p.Used.length : Int) = n
    · obtain ⟨l1, l2, l3, l4⟩ := h2
      rw [if_neg (by simp [l1, l2, l3, l4]), guardP_pos (by simp only [AllP, and_true]; omega)]
      rw [rangeM_chk (body := fun i s => (S_r13_pot_b1 p i s).den) p.Granted (fun i => okP (p.Granted.getD i default) (p.Heard.getD i default) (p.Asked.getD i default) (p.Used.getD i default)) (fun (s : Int) x => IntKind.i64.wrap (s + x))
        (fun i s hi => pot_step (by omega) (by omega) (by omega))]
      by_cases h3 : ∀ i, i < p.Granted.length → okP (p.Granted.getD i default) (p.Heard.getD i default) (p.Asked.getD i default) (p.Used.getD i default)
      · rw [if_pos h3]
        have g1 : rowOk n p.Granted := ⟨l1, all_tot.1 fun i hi => (h3 i hi).1⟩
        have g2 : rowOk n p.Heard := ⟨l2, all_tot.1 fun i hi => (h3 i (by omega)).2.1⟩
        have g3 : rowOk n p.Asked := ⟨l3, all_tot.1 fun i hi => (h3 i (by omega)).2.2.1⟩
        have g4 : rowOk n p.Used := ⟨l4, all_tot.1 fun i hi => (h3 i (by omega)).2.2.2.1⟩
        have e := foldl_wrap p.Granted 0
        rw [wrap_zero, Int.zero_add, sum_wrap g1 h6] at e
        show some (decide (_ ≤ _)) = _
        rw [e]
        congr 1
        exact decide_eq_decide.2 ⟨fun h => ⟨h1.1, h1.2.1, h1.2.2, ⟨g1, g2, g3, g4⟩, ⟨fun i hi => (h3 i hi).2.2.2.2.1, fun i hi => (h3 i hi).2.2.2.2.2⟩, h⟩, fun h => h.2.2.2.2.2⟩
      · rw [if_neg h3]
        show some false = _
        rw [decide_eq_false fun h => h3 fun i hi => ⟨all_tot.2 h.2.2.2.1.1.2 i hi, all_tot.2 h.2.2.2.1.2.1.2 i (by omega), all_tot.2 h.2.2.2.1.2.2.1.2 i (by omega), all_tot.2 h.2.2.2.1.2.2.2.2 i (by omega), h.2.2.2.2.1.1 i hi, h.2.2.2.2.1.2 i hi⟩]
    · rw [if_pos (by simp only [Bool.or_eq_true, bne_iff_ne]; omega), decide_eq_false fun h => h2 ⟨h.2.2.2.1.1.1, h.2.2.2.1.2.1.1, h.2.2.2.1.2.2.1.1, h.2.2.2.1.2.2.2.1⟩]
  · rw [if_pos (by
      simp only [Bool.or_eq_true, Bool.not_eq_true', decide_eq_true_eq]
      by_cases hg : good p.Code = true
      · have : ¬ ((0 ≤ p.Year ∧ p.Year ≤ 99) ∧ (-1000000000000000 ≤ p.Total ∧ p.Total ≤ 1000000000000000)) := fun h => h1 ⟨hg, h⟩
        omega
      · simp [Bool.not_eq_true] at hg; simp [hg]), decide_eq_false fun h => h1 ⟨h.1, h.2.1, h.2.2.1⟩]
/-! ## The order of pots, valid treasuries -/
def cmpP (a b : TApiPot) : Int := if cmpC a.Code b.Code ≠ 0 then cmpC a.Code b.Code else cmpI a.Year b.Year
theorem compare_eq {a b : TApiPot} (ha : a.Code.length ≤ 1000000) (hb : b.Code.length ≤ 1000000) : F_rights_compare a b = some (cmpP a b) := by
  simp only [F_rights_compare, S_rights_compare, Scr.den, Compare_eq ha hb, cmpI_eq, obind, F_cmp_Or_int, S_cmp_Or_int, S_cmp_Or_int_b1, cmpP]
  by_cases h : cmpC a.Code b.Code = 0
  · rw [if_neg (by simpa using h)]
    by_cases h2 : cmpI a.Year b.Year = 0
    · simp [rangeM, h, h2, outM]
    · simp [rangeM, h, h2, outM]
  · rw [if_pos h]
    simp [rangeM, h, outM]
/-- The codes are not too long to be looked at. -/
def Small (t : TApiTreasury) : Prop := ∀ p ∈ t.Pots, p.Code.length ≤ 1000000
def PotsOk (n : Int) (l : List TApiPot) : Prop := ∀ i, i < l.length → PotOk n (l.getD i default) ∧ (0 < i → cmpP (l.getD (i - 1) default) (l.getD i default) < 0)
instance (n : Int) (l : List TApiPot) : Decidable (PotsOk n l) := by unfold PotsOk; infer_instance
def TOk (t : TApiTreasury) : Prop := (1 ≤ t.Offices ∧ t.Offices ≤ 6) ∧ t.Pots.length ≤ 60 ∧ PotsOk t.Offices t.Pots
instance (t : TApiTreasury) : Decidable (TOk t) := by unfold TOk; infer_instance
end Go.Proofs.YtfiljdbmhegjgaaGreatDoor
namespace Go.Proofs.YtfiljdbmhegjgaaGreatDoor
open Go Go.TA
/-! ## Valid treasuries -/
theorem small_at {t : TApiTreasury} (h : Small t) {i : Nat} (hi : i < t.Pots.length) : (t.Pots.getD i default).Code.length ≤ 1000000 := h _ (getD_mem hi)
theorem wrapPred {i : Nat} (h0 : 0 < i) (h : i < 9223372036854775808) : IntKind.i64.wrap ((i : Int) - 1) = ((i - 1 : Nat) : Int) := by rw [wrapId (by omega) (by omega)]; omega
theorem Valid_eq {t : TApiTreasury} (hs : Small t) : F_rights_Valid t = some (decide (TOk t)) := by
  simp only [F_rights_Valid, S_rights_Valid, Scr.den, rights_among_eq, obind, cond_or]
  by_cases h1 : (1 ≤ t.Offices ∧ t.Offices ≤ 6) ∧ t.Pots.length ≤ 60
  · rw [if_neg (by simp only [Bool.or_eq_true, Bool.not_eq_true', decide_eq_false_iff_not, decide_eq_true_eq]; omega)]
    have step : ∀ i, i < t.Pots.length → (S_rights_Valid_b1 t i ()).den = some (if PotOk t.Offices (t.Pots.getD i default) ∧ (0 < i → cmpP (t.Pots.getD (i - 1) default) (t.Pots.getD i default) < 0) then .cont () else .ret false) := fun i hi => by
      simp only [S_rights_Valid_b1, Scr.den, valid_eq (small_at hs hi) h1.1.2, obind, cond_or, cond_and]
      by_cases h0 : 0 < i
      · rw [wrapPred h0 (by omega), Int.toNat_natCast, compare_eq (small_at hs (by omega)) (small_at hs hi)]
        have hgu : ∀ a : Prop, AllP [a → (0 : Int) ≤ ((i - 1 : Nat) : Int), a → i - 1 < t.Pots.length] := fun a => ⟨fun _ => by omega, fun _ => by omega, trivial⟩
        have e0 : decide ((i : Int) > 0) = true := decide_eq_true (by omega)
        by_cases h2 : PotOk t.Offices (t.Pots.getD i default)
        · rw [optD_pos (by simp only [AllP, e0, decide_eq_true h2, Bool.not_true, and_true])]
          simp only [obind]
          rw [guardP_pos (hgu _)]
          simp only [e0, decide_eq_true h2, Bool.not_true, Bool.false_or, Bool.true_and, decide_eq_true_eq]
          by_cases h3 : cmpP (t.Pots.getD (i - 1) default) (t.Pots.getD i default) < 0
          · rw [if_neg (Int.not_le.2 h3), if_pos ⟨h2, fun _ => h3⟩]
          · rw [if_pos (Int.not_lt.1 h3), if_neg fun h => h3 (h.2 h0)]
        · rw [optD_none (by simp only [AllP, decide_eq_false h2, Bool.not_false, Bool.true_eq_false, and_false, false_and, not_false_eq_true])]
          simp only [obind]
          rw [guardP_pos (hgu _)]
          simp only [decide_eq_false h2, Bool.not_false, Bool.true_or, if_true]
          rw [if_neg fun h => h2 h.1]
      · have hi0 : i = 0 := by omega
        subst hi0
        have e0 : decide (((0 : Nat) : Int) > 0) = false := rfl
        rw [optD_none (by simp only [AllP, e0, Bool.false_eq_true, false_and, not_false_eq_true])]
        simp only [obind, e0, Bool.false_and, Bool.or_false]
        rw [guardP_pos (by simp only [AllP, Bool.false_eq_true, false_and, false_implies, and_true])]
        by_cases h2 : PotOk t.Offices (t.Pots.getD 0 default)
        · rw [if_neg (by simp only [decide_eq_true h2, Bool.not_true, Bool.false_eq_true, not_false_eq_true]), if_pos ⟨h2, fun h => absurd h (by omega)⟩]
        · rw [if_pos (by simp only [decide_eq_false h2, Bool.not_false]), if_neg fun h => h2 h.1]
    have ra := rangeM_all (ρ := Bool) (n := t.Pots.length) (c := false) (body := fun i s => (S_rights_Valid_b1 t i s).den) (fun i => PotOk t.Offices (t.Pots.getD i default) ∧ (0 < i → cmpP (t.Pots.getD (i - 1) default) (t.Pots.getD i default) < 0))
      (fun i hi hp => by rw [step i hi, if_pos hp]) (fun i hi hp => by rw [step i hi, if_neg hp])
    by_cases h4 : PotsOk t.Offices t.Pots
    · rw [ra.1 h4, decide_eq_true (show TOk t from ⟨h1.1, h1.2, h4⟩)]; rfl
    · rw [ra.2 h4, decide_eq_false fun h : TOk t => h4 h.2.2]; rfl
  · rw [if_pos (by simp only [Bool.or_eq_true, Bool.not_eq_true', decide_eq_false_iff_not, decide_eq_true_eq]; omega), decide_eq_false fun h : TOk t => h1 ⟨h.1, h.2.1⟩]
theorem cmpP_good {a b : TApiPot} (ha : good a.Code = true) : cmpP a b < 0 ↔ lexC (parts a.Code) (parts b.Code) < 0 ∨ (lexC (parts a.Code) (parts b.Code) = 0 ∧ a.Year < b.Year) := by
  unfold cmpP
  rw [cmpC_good (.inl ha)]
  unfold cmpI
  split
  · omega
  · split
    · omega
    · split <;> omega
theorem chk (c y y' : Int) : ((decide (c > 0) || (c == 0 && decide (y ≥ y'))) = true) ↔ ¬ (c < 0 ∨ (c = 0 ∧ y < y')) := by
  simp only [Bool.or_eq_true, Bool.and_eq_true, decide_eq_true_eq, beq_iff_eq]; omega
theorem r13_Valid_eq {t : TApiTreasury} (hs : Small t) : F_r13_Valid t = some (decide (TOk t)) := by
  simp only [F_r13_Valid, S_r13_Valid, Scr.den, cond_or]
  by_cases h1 : (1 ≤ t.Offices ∧ t.Offices ≤ 6) ∧ t.Pots.length ≤ 60
  · rw [if_neg (by simp only [Bool.or_eq_true, decide_eq_true_eq]; omega)]
    have step : ∀ i, i < t.Pots.length → (0 < i → PotOk t.Offices (t.Pots.getD (i - 1) default)) → (S_r13_Valid_b1 t i ()).den =
        some (if PotOk t.Offices (t.Pots.getD i default) ∧ (0 < i → cmpP (t.Pots.getD (i - 1) default) (t.Pots.getD i default) < 0) then .cont () else .ret false) := fun i hi hp => by
      simp only [S_r13_Valid_b1, Scr.den, r13_pot_eq (small_at hs hi) h1.1.2, obind, cond_and, cond_or]
      by_cases h2 : PotOk t.Offices (t.Pots.getD i default)
      · rw [if_neg (by simp only [decide_eq_true h2, Bool.not_true, Bool.false_eq_true, not_false_eq_true])]
        by_cases h0 : 0 < i
        · have hp := hp h0
          rw [if_pos (decide_eq_true (by omega)), wrapPred h0 (by omega), Int.toNat_natCast, r03_Compare_eq hp.1 h2.1]
          simp only [obind]
          rw [guardP_pos (by simp only [AllP, and_true]; omega), guardP_pos (by simp only [AllP, and_true]; exact ⟨fun _ => by omega, fun _ => by omega⟩)]
          have hc := cmpP_good (a := t.Pots.getD (i - 1) default) (b := t.Pots.getD i default) hp.1
          by_cases h3 : cmpP (t.Pots.getD (i - 1) default) (t.Pots.getD i default) < 0
          · rw [if_neg fun h => (chk _ _ _).1 h (hc.1 h3), if_pos ⟨h2, fun _ => h3⟩]
          · rw [if_pos ((chk _ _ _).2 fun h => h3 (hc.2 h)), if_neg fun h => h3 (h.2 h0)]
        · rw [if_neg (by simp only [decide_eq_true_eq]; omega), if_pos ⟨h2, fun h => absurd h h0⟩]
      · rw [if_pos (by simp only [decide_eq_false h2, Bool.not_false]), if_neg fun h => h2 h.1]
    have key : ∀ (k i : Nat), i + k = t.Pots.length → (∀ j, j < i → PotOk t.Offices (t.Pots.getD j default) ∧ (0 < j → cmpP (t.Pots.getD (j - 1) default) (t.Pots.getD j default) < 0)) → rangeM (fun i s => (S_r13_Valid_b1 t i s).den) k i () = some (if PotsOk t.Offices t.Pots then .next () else .ret false) := by
      intro k
      induction k with
      | zero =>
        intro i hk hj
        rw [if_pos (show PotsOk t.Offices t.Pots from fun j h => hj j (by omega))]
        rfl
      | succ k ih =>
        intro i hk hj
        have hi : i < t.Pots.length := by omega
        simp only [rangeM, step i hi fun h0 => (hj (i - 1) (by omega)).1]
        by_cases h2 : PotOk t.Offices (t.Pots.getD i default) ∧ (0 < i → cmpP (t.Pots.getD (i - 1) default) (t.Pots.getD i default) < 0)
        · rw [if_pos h2]
          exact ih (i + 1) (by omega) fun j hj' => by
            by_cases e : j = i
            · subst e; exact h2
            · exact hj j (by omega)
        · rw [if_neg h2, if_neg fun hp : PotsOk t.Offices t.Pots => h2 (hp i hi)]
    rw [key t.Pots.length 0 (by omega) (fun j h => absurd h (by omega))]
    by_cases h4 : PotsOk t.Offices t.Pots
    · rw [if_pos h4, decide_eq_true (show TOk t from ⟨h1.1, h1.2, h4⟩)]; rfl
    · rw [if_neg h4, decide_eq_false fun h : TOk t => h4 h.2.2]; rfl
  · rw [if_pos (by simp only [Bool.or_eq_true, decide_eq_true_eq]; omega), decide_eq_false fun h : TOk t => h1 ⟨h.1, h.2.1⟩]
/-! ## Where a pot is -/
def isP (c : List UInt8) (y : Int) (p : TApiPot) : Bool := p.Code == c && p.Year == y
theorem isP_iff {c : List UInt8} {y : Int} {p : TApiPot} : isP c y p = true ↔ p.Code = c ∧ p.Year = y := by simp [isP]
def hasP (l : List TApiPot) (c : List UInt8) (y : Int) : Bool := l.any (isP c y)
def pix (l : List TApiPot) (c : List UInt8) (y : Int) : Nat := l.findIdx (isP c y)
theorem pix_lt {l : List TApiPot} {c : List UInt8} {y : Int} (h : hasP l c y = true) : pix l c y < l.length ∧ (l.getD (pix l c y) default).Code = c ∧ (l.getD (pix l c y) default).Year = y := by
  unfold hasP at h
  obtain ⟨x, hx, hp⟩ := List.any_eq_true.1 h
  have hlt : l.findIdx (isP c y) < l.length := List.findIdx_lt_length_of_exists ⟨x, hx, hp⟩
  have h1 := List.findIdx_getElem (w := hlt)
  have e : l.getD (l.findIdx (isP c y)) default = l[l.findIdx (isP c y)] := by simp [List.getD_eq_getElem?_getD, List.getElem?_eq_getElem hlt]
  exact ⟨hlt, by unfold pix; rw [e]; exact isP_iff.1 h1⟩
theorem find_eq (t : TApiTreasury) (c : List UInt8) (y : Int) : F_rights_find t c y = some (if hasP t.Pots c y = true then (pix t.Pots c y : Int) else -1) := by
  simp only [F_rights_find, S_rights_find, F_slices_IndexFunc_Pot_rights_find_1, S_slices_IndexFunc_Pot_rights_find_1, Scr.den]
  rw [idx_loop t.Pots (isP c y) (fun i => (i : Int))]
  · unfold hasP
    by_cases h : t.Pots.any (isP c y) = true
    · rw [if_pos h, if_pos h]; rfl
    · rw [if_neg h, if_neg h]; rfl
  · intro i hi
    simp only [S_slices_IndexFunc_Pot_rights_find_1_b1, F_rights_find_1, S_rights_find_1, Scr.den, obind, cond_and]
    unfold isP
    split <;> rfl
theorem at_eq (t : TApiTreasury) (c : List UInt8) (y : Int) : F_r13_at t c y = some (if hasP t.Pots c y = true then (pix t.Pots c y : Int) else -1) := by
  simp only [F_r13_at, S_r13_at, Scr.den]
  rw [idx_loop t.Pots (isP c y) (fun i => (i : Int))]
  · unfold hasP
    by_cases h : t.Pots.any (isP c y) = true
    · rw [if_pos h, if_pos h]; rfl
    · rw [if_neg h, if_neg h]; rfl
  · intro i hi
    simp only [S_r13_at_b1, Scr.den, cond_and]
    unfold isP
    split <;> rfl
end Go.Proofs.YtfiljdbmhegjgaaGreatDoor
namespace Go.Proofs.YtfiljdbmhegjgaaGreatDoor
open Go Go.TA
/-! ## What is out -/
def outV (p : TApiPot) : Int := (p.Granted.take (min p.Granted.length p.Heard.length)).sum - (p.Heard.take (min p.Granted.length p.Heard.length)).sum
theorem Out_eq (p : TApiPot) : F_rights_Out p = some (IntKind.i64.wrap (outV p)) := by
  have e : (if (p.Heard.length : Int) < (p.Granted.length : Int) then (p.Heard.length : Int) else (p.Granted.length : Int)) = ((min p.Granted.length p.Heard.length : Nat) : Int) := by split <;> omega
  simp only [F_rights_Out, S_rights_Out, Scr.den, e, Int.toNat_natCast, sum_eq, obind]
  rw [guardP_pos (by simp only [AllP, and_true]; omega), wrap_subl, wrap_subr]
  rfl
theorem r13_Out_eq {p : TApiPot} (hl : p.Granted.length < 4611686018427387904) : F_r13_Out p = some (IntKind.i64.wrap (outV p)) := by
  simp only [F_r13_Out, S_r13_Out, Scr.den]
  let m := min p.Granted.length p.Heard.length
  let S : Nat → Int := fun k => (p.Granted.take k).sum - (p.Heard.take k).sum
  have hS : ∀ k, k < m → S (k + 1) = S k + (p.Granted.getD k default - p.Heard.getD k default) := fun k hk => by
    have h1 : k < p.Granted.length := by omega
    have h2 : k < p.Heard.length := by omega
    simp only [S]
    rw [List.take_succ_eq_append_getElem h1, List.take_succ_eq_append_getElem h2, List.sum_append, List.sum_append, getD_of h1, getD_of h2]
    simp only [List.sum_cons, List.sum_nil]
    omega
  have stepT : ∀ (i : Nat) (s : Int), i < m → (S_r13_Out_b1 p (s, (i : Int))).den = some (.cont (IntKind.i64.wrap (s + (p.Granted.getD i default - p.Heard.getD i default)), ((i + 1 : Nat) : Int))) := fun i s hi => by
    simp only [S_r13_Out_b1, Scr.den, cond_and]
    rw [if_pos (by simp only [Bool.and_eq_true, decide_eq_true_eq]; omega), guardP_pos (by simp only [AllP, Int.toNat_natCast, and_true]; omega)]
    simp only [Int.toNat_natCast]
    rw [wrap_addr, wrapId (n := (i : Int) + 1) (by omega) (by omega)]
    rfl
  have stepF : ∀ s : Int, (S_r13_Out_b1 p (s, (m : Int))).den = some (.brk (s, (m : Int))) := fun s => by
    simp only [S_r13_Out_b1, Scr.den, cond_and]
    rw [if_neg (by simp only [Bool.and_eq_true, decide_eq_true_eq]; omega)]
  have key : ∀ (k i : Nat), i + k = m → iterM (fun s => (S_r13_Out_b1 p s).den) (IntKind.i64.wrap (S i), (i : Int)) = some (.next (IntKind.i64.wrap (S m), (m : Int))) := by
    intro k
    induction k with
    | zero =>
      intro i hk
      obtain rfl : i = m := by omega
      rw [iterM_eq]
      simp only [stepF]
    | succ k ih =>
      intro i hk
      rw [iterM_eq]
      simp only [stepT i _ (show i < m by omega)]
      rw [wrap_addl, ← hS i (by omega)]
      exact ih (i + 1) (by omega)
  have h0 := key m 0 (by omega)
  rw [show S 0 = 0 by simp [S], wrap_zero] at h0
  rw [show ((0 : Int), (0 : Int)) = (0, ((0 : Nat) : Int)) from rfl, h0]
  rfl
theorem r13_Free_eq {p : TApiPot} (hl : p.Granted.length < 4611686018427387904) : F_r13_Free p = some (IntKind.i64.wrap (p.Total - outV p)) := by
  simp only [F_r13_Free, S_r13_Free, Scr.den, r13_Out_eq hl, obind, wrap_subr]
theorem maxw (n : Int) : (if 0 > n then 0 else n) = max n 0 := by split <;> omega
theorem Shortfall_eq (p : TApiPot) : F_rights_Shortfall p = some (max (IntKind.i64.wrap (outV p - p.Total)) 0) := by
  simp only [F_rights_Shortfall, S_rights_Shortfall, Scr.den, Out_eq, obind, wrap_subl]
  congr 1
  exact maxw _
/-! ## Copies -/
theorem clone_eq {l : List Int} (h : l.length ≤ 1000000) : F_slices_Clone_int l = some l := by
  simp only [F_slices_Clone_int, S_slices_Clone_int, Scr.den]
  rw [guardP_pos (by simp only [AllP, and_true]; omega)]
theorem cloneRw_eq {l : List Int} (h : l.length ≤ 1000000) : F_slices_Clone_int_rw l = some l := by
  simp only [F_slices_Clone_int_rw, S_slices_Clone_int_rw, Scr.den]
  rw [guardP_pos (by simp only [AllP, and_true]; omega)]
/-- Not too large to be copied. -/
def PSmall (p : TApiPot) : Prop := p.Granted.length ≤ 1000000 ∧ p.Heard.length ≤ 1000000 ∧ p.Asked.length ≤ 1000000 ∧ p.Used.length ≤ 1000000
theorem PotOk.small {n : Int} {p : TApiPot} (h : PotOk n p) (hn : n ≤ 6) : PSmall p := by
  obtain ⟨_, _, _, ⟨⟨h1, _⟩, ⟨h2, _⟩, ⟨h3, _⟩, ⟨h4, _⟩⟩, _⟩ := h
  exact ⟨by omega, by omega, by omega, by omega⟩
theorem copied_eq {p : TApiPot} (h : PSmall p) : F_rights_copied p = some p := by
  obtain ⟨h1, h2, h3, h4⟩ := h
  simp only [F_rights_copied, S_rights_copied, Scr.den, clone_eq h1, clone_eq h2, clone_eq h3, clone_eq h4, obind]
theorem copiedRw_eq {p : TApiPot} (h : PSmall p) : F_rights_copied_rw p = some (p.Code, p.Year, p.Total, p.Granted, p.Heard, p.Asked, p.Used) := by
  obtain ⟨h1, h2, h3, h4⟩ := h
  simp only [F_rights_copied_rw, S_rights_copied_rw, Scr.den, cloneRw_eq h1, cloneRw_eq h2, cloneRw_eq h3, cloneRw_eq h4, obind]
def TSmall (t : TApiTreasury) : Prop := t.Pots.length ≤ 1000000 ∧ ∀ i, i < t.Pots.length → PSmall (t.Pots.getD i default)
theorem copy_loop {ρ : Type} {t : TApiTreasury} {body : Nat → Int × List TApiPot → Option (Step (Int × List TApiPot) ρ)}
    (hs : ∀ i (l : List TApiPot), i < t.Pots.length → l.length = i → body i (t.Offices, l) = some (.cont (t.Offices, l ++ [t.Pots.getD i default]))) :
    rangeM body t.Pots.length 0 (t.Offices, []) = some (.next (t.Offices, t.Pots)) := by
  obtain ⟨s, h1, h2⟩ := rangeM_inv (ρ := ρ) (body := body) (n := t.Pots.length) (fun i s => s = (t.Offices, t.Pots.take i)) (s0 := (t.Offices, [])) (by simp) (fun i s hi hI => by
    subst hI
    refine ⟨_, hs i _ hi (by simp; omega), ?_⟩
    rw [List.take_succ_eq_append_getElem hi]
    simp [List.getD_eq_getElem?_getD, List.getElem?_eq_getElem hi])
  rw [h1, h2, List.take_length]
theorem freshRw_eq {t : TApiTreasury} (h : TSmall t) : F_rights_fresh_rw t = some (t.Offices, t.Pots) := by
  simp only [F_rights_fresh_rw, S_rights_fresh_rw, Scr.den]
  rw [copy_loop (fun i l hi hl => by
    simp only [S_rights_fresh_rw_b1, Scr.den, copied_eq (h.2 i hi), obind]
    rw [guardP_pos (by have := h.1; simp only [AllP, and_true]; omega)])]
  rfl
theorem freshOp_eq {t : TApiTreasury} (h : TSmall t) {i0 : Nat} (hi0 : i0 < t.Pots.length)
    (hpos : 0 < (t.Pots.getD i0 default).Granted.length ∧ 0 < (t.Pots.getD i0 default).Heard.length ∧ 0 < (t.Pots.getD i0 default).Asked.length ∧ 0 < (t.Pots.getD i0 default).Used.length) :
    F_rights_fresh_op t i0 = some (t.Offices, t.Pots) := by
  simp only [F_rights_fresh_op, S_rights_fresh_op, Scr.den]
  rw [copy_loop (fun i l hi hl => by
    obtain ⟨q1, q2, q3, q4⟩ := h.2 i hi
    simp only [S_rights_fresh_op_b1, Scr.den, copiedRw_eq (h.2 i hi), obind]
    rw [guardP_pos (by have := h.1; simp only [AllP, and_true]; omega), guardP_pos (by
      simp only [AllP, and_true]
      exact ⟨fun e => by rw [hl] at e; subst e; exact hpos, by omega, by omega, by omega, by omega⟩)])]
  simp only [outM]
  rw [guardP_pos (by simp only [AllP, and_true]; exact hi0)]
theorem r13_copiedRw_eq {t : TApiTreasury} (h : TSmall t) : F_r13_copied_rw t = some (t.Offices, t.Pots) := by
  simp only [F_r13_copied_rw, S_r13_copied_rw, Scr.den]
  rw [copy_loop (fun i l hi hl => by
    obtain ⟨q1, q2, q3, q4⟩ := h.2 i hi
    simp only [S_r13_copied_rw_b1, Scr.den]
    iterate 5 rw [guardP_pos (by have := h.1; simp only [AllP, and_true]; omega)])]
  rfl
theorem r13_copiedOp_eq {t : TApiTreasury} (h : TSmall t) {i0 : Nat} (hi0 : i0 < t.Pots.length)
    (hpos : 0 < (t.Pots.getD i0 default).Granted.length ∧ 0 < (t.Pots.getD i0 default).Heard.length ∧ 0 < (t.Pots.getD i0 default).Asked.length ∧ 0 < (t.Pots.getD i0 default).Used.length) :
    F_r13_copied_op t i0 = some (t.Offices, t.Pots) := by
  simp only [F_r13_copied_op, S_r13_copied_op, Scr.den]
  rw [copy_loop (fun i l hi hl => by
    obtain ⟨q1, q2, q3, q4⟩ := h.2 i hi
    simp only [S_r13_copied_op_b1, Scr.den]
    iterate 5 rw [guardP_pos (by have := h.1; simp only [AllP, and_true]; omega)]
    rw [guardP_pos (by
      simp only [AllP, and_true]
      exact ⟨fun e => by rw [hl] at e; subst e; exact hpos, by omega, by omega, by omega, by omega⟩)])]
  simp only [outM]
  rw [guardP_pos (by simp only [AllP, and_true]; exact hi0)]
end Go.Proofs.YtfiljdbmhegjgaaGreatDoor
namespace Go.Proofs.YtfiljdbmhegjgaaGreatDoor
open Go Go.TA
/-! ## What is granted is added -/
def addN (G a : List Int) (i : Nat) : List Int := (List.range G.length).map fun j => if j < i then G.getD j default + a.getD j default else G.getD j default
theorem addN_length {G a : List Int} {i : Nat} : (addN G a i).length = G.length := by simp [addN]
theorem addN_get {G a : List Int} {i j : Nat} (hj : j < G.length) : (addN G a i).getD j default = if j < i then G.getD j default + a.getD j default else G.getD j default := by
  simp only [addN]
  rw [List.getD_eq_getElem?_getD (l := List.map _ _), List.getElem?_map, List.getElem?_range hj, Option.map_some, Option.getD_some]
theorem getD_ext {l l' : List Int} (h : l.length = l'.length) (he : ∀ j, j < l.length → l.getD j default = l'.getD j default) : l = l' := by
  apply List.ext_getElem h
  intro j h1 h2
  have := he j h1
  rw [getD_of h1, getD_of h2] at this
  exact this
theorem addN_zero {G a : List Int} : addN G a 0 = G := getD_ext addN_length fun j hj => by
  rw [addN_get (by simpa [addN_length] using hj), if_neg (by omega)]
theorem getD_set_int {l : List Int} {i j : Nat} {x : Int} (hj : j < l.length) : (l.set i x).getD j default = if j = i then x else l.getD j default := by
  rw [List.getD_eq_getElem?_getD, List.getElem?_set]
  by_cases h : i = j
  · subst h; simp [hj]
  · rw [if_neg h, if_neg fun e => h e.symm, List.getD_eq_getElem?_getD]
theorem addN_succ {G a : List Int} {i : Nat} (hi : i < G.length) : (addN G a i).set i ((addN G a i).getD i default + a.getD i default) = addN G a (i + 1) := by
  refine getD_ext (by simp [addN_length]) fun j hj => ?_
  have hj' : j < G.length := by simpa [addN_length] using hj
  rw [getD_set_int (by rw [addN_length]; exact hj'), addN_get hj', addN_get hi, addN_get hj', if_neg (Nat.lt_irrefl i)]
  by_cases h : j = i
  · subst h; rw [if_pos rfl, if_pos (by omega)]
  · rw [if_neg h]
    by_cases h2 : j < i
    · rw [if_pos h2, if_pos (by omega)]
    · rw [if_neg h2, if_neg (by omega)]
theorem add_loop {ρ : Type} {G a : List Int} {body : Nat → List Int → Option (Step (List Int) ρ)} (hl : a.length = G.length)
    (hs : ∀ i (s : List Int), i < G.length → s.length = G.length → body i s = some (.cont (s.set (0 + i) (IntKind.i64.wrap (s.getD (0 + i) default + a.getD i default)))))
    (hG : ∀ x ∈ G, tot x) (ha : ∀ x ∈ a, tot x) : rangeM body a.length 0 G = some (.next (addN G a a.length)) := by
  obtain ⟨s, h1, h2⟩ := rangeM_inv (ρ := ρ) (body := body) (n := a.length) (fun i s => s = addN G a i) (s0 := G) addN_zero.symm (fun i s hi hI => by
    subst hI
    have hi' : i < G.length := by omega
    refine ⟨_, hs i _ hi' addN_length, ?_⟩
    have t1 := hG _ (getD_mem hi')
    have t2 := ha _ (getD_mem hi)
    unfold tot at t1 t2
    rw [Nat.zero_add, wrapId (by rw [addN_get hi', if_neg (Nat.lt_irrefl i)]; omega) (by rw [addN_get hi', if_neg (Nat.lt_irrefl i)]; omega), addN_succ hi'])
  rw [h1, h2]
def giveV (total : Int) (p : TApiPot) (a : List Int) : Int × List Int :=
  if total - outV p < a.sum then (15, p.Granted) else if 1000000000000000 < p.Granted.sum + a.sum then (3, p.Granted) else (0, addN p.Granted a a.length)
theorem out_bound {n : Int} {p : TApiPot} (h : PotOk n p) (hn : n ≤ 6) : -6000000000000000 ≤ outV p ∧ outV p ≤ 6000000000000000 := by
  obtain ⟨_, _, _, ⟨h1, h2, _, _⟩, _⟩ := h
  have b1 := sum_tot (l := p.Granted.take (min p.Granted.length p.Heard.length)) fun x hx => h1.2 x (List.mem_of_mem_take hx)
  have b2 := sum_tot (l := p.Heard.take (min p.Granted.length p.Heard.length)) fun x hx => h2.2 x (List.mem_of_mem_take hx)
  have l1 := h1.1
  have l2 := h2.1
  simp only [List.length_take] at b1 b2
  unfold outV
  have e1 : (min (min p.Granted.length p.Heard.length) p.Granted.length : Nat) ≤ 6 := by omega
  have e2 : (min (min p.Granted.length p.Heard.length) p.Heard.length : Nat) ≤ 6 := by omega
  omega
end Go.Proofs.YtfiljdbmhegjgaaGreatDoor
namespace Go.Proofs.YtfiljdbmhegjgaaGreatDoor
open Go Go.TA
/-! ## Grants -/
abbrev zT : TApiTreasury := ⟨0, []⟩
def withG (p : TApiPot) (g : List Int) : TApiPot := ⟨p.Code, p.Year, p.Total, g, p.Heard, p.Asked, p.Used⟩
def oneHot (n k : Nat) (x : Int) : List Int := (List.replicate n (0 : Int)).set k x
def potAt (t : TApiTreasury) (c : List UInt8) (y : Int) : TApiPot := t.Pots.getD (pix t.Pots c y) default
def putP (t : TApiTreasury) (c : List UInt8) (y : Int) (p : TApiPot) : TApiTreasury := ⟨t.Offices, t.Pots.set (pix t.Pots c y) p⟩
def grantM (t : TApiTreasury) (k : Int) (c : List UInt8) (y x : Int) : TApiTreasury × Int :=
  if ¬ TOk t then (zT, 1) else if ¬ hasP t.Pots c y = true then (zT, 6) else if ¬ (1 ≤ k ∧ k ≤ t.Offices) then (zT, 6) else if ¬ (1 ≤ x ∧ x ≤ 1000000000000000) then (zT, 2) else
    if (giveV (potAt t c y).Total (potAt t c y) (oneHot (potAt t c y).Granted.length (k - 1).toNat x)).1 ≠ 0 then (zT, (giveV (potAt t c y).Total (potAt t c y) (oneHot (potAt t c y).Granted.length (k - 1).toNat x)).1)
    else (putP t c y (withG (potAt t c y) (giveV (potAt t c y).Total (potAt t c y) (oneHot (potAt t c y).Granted.length (k - 1).toNat x)).2), 0)
theorem oneHot_tot {n k : Nat} {x : Int} (hx : 1 ≤ x ∧ x ≤ 1000000000000000) : ∀ y ∈ oneHot n k x, tot y := fun y hy => by
  rcases List.mem_or_eq_of_mem_set hy with h | h
  · rw [List.eq_of_mem_replicate h]; exact ⟨by omega, by omega⟩
  · subst h; exact ⟨by omega, by omega⟩
theorem oneHot_length {n k : Nat} {x : Int} : (oneHot n k x).length = n := by simp [oneHot]
theorem TOk.potAt {t : TApiTreasury} (h : TOk t) {c : List UInt8} {y : Int} (hp : hasP t.Pots c y = true) : PotOk t.Offices (potAt t c y) := (h.2.2 _ (pix_lt hp).1).1
theorem TOk.small {t : TApiTreasury} (h : TOk t) : TSmall t := ⟨by have := h.2.1; omega, fun i hi => (h.2.2 i hi).1.small h.1.2⟩
theorem TOk.pos {t : TApiTreasury} (h : TOk t) {c : List UInt8} {y : Int} (hp : hasP t.Pots c y = true) :
    0 < (t.Pots.getD (pix t.Pots c y) default).Granted.length ∧ 0 < (t.Pots.getD (pix t.Pots c y) default).Heard.length ∧ 0 < (t.Pots.getD (pix t.Pots c y) default).Asked.length ∧ 0 < (t.Pots.getD (pix t.Pots c y) default).Used.length := by
  obtain ⟨_, _, _, ⟨⟨h1, _⟩, ⟨h2, _⟩, ⟨h3, _⟩, ⟨h4, _⟩⟩, _⟩ := h.potAt hp
  have := h.1
  exact ⟨by show 0 < (Go.Proofs.YtfiljdbmhegjgaaGreatDoor.potAt t c y).Granted.length; omega, by show 0 < (Go.Proofs.YtfiljdbmhegjgaaGreatDoor.potAt t c y).Heard.length; omega, by show 0 < (Go.Proofs.YtfiljdbmhegjgaaGreatDoor.potAt t c y).Asked.length; omega, by show 0 < (Go.Proofs.YtfiljdbmhegjgaaGreatDoor.potAt t c y).Used.length; omega⟩
end Go.Proofs.YtfiljdbmhegjgaaGreatDoor
namespace Go.Proofs.YtfiljdbmhegjgaaGreatDoor
open Go Go.TA
/-! ## Asking, hearing -/
def withA (p : TApiPot) (a : List Int) : TApiPot := ⟨p.Code, p.Year, p.Total, p.Granted, p.Heard, a, p.Used⟩
def withH (p : TApiPot) (h u : List Int) : TApiPot := ⟨p.Code, p.Year, p.Total, p.Granted, h, p.Asked, u⟩
def nth (l : List Int) (k : Int) : Int := l.getD (k - 1).toNat default
def upd (l : List Int) (k x : Int) : List Int := l.set (k - 1).toNat x
def askM (t : TApiTreasury) (k : Int) (c : List UInt8) (y x : Int) : TApiTreasury × Int :=
  if ¬ TOk t then (zT, 1) else if ¬ hasP t.Pots c y = true then (zT, 6) else if ¬ (1 ≤ k ∧ k ≤ t.Offices) then (zT, 6) else if ¬ (1 ≤ x ∧ x ≤ 1000000000000000) then (zT, 2) else
    if nth (potAt t c y).Granted k < nth (potAt t c y).Asked k + x then (zT, 15)
    else (putP t c y (withA (potAt t c y) (upd (potAt t c y).Asked k (nth (potAt t c y).Asked k + x))), 0)
def hearM (t : TApiTreasury) (m : TApiMessage) : TApiTreasury × Int :=
  if m.To ≠ 0 then (zT, 1) else if ¬ TOk t then (zT, 1) else if ¬ hasP t.Pots m.Code m.Year = true then (zT, 6) else if ¬ (1 ≤ m.From ∧ m.From ≤ t.Offices) then (zT, 6) else
    if ¬ ((0 ≤ m.Returned ∧ m.Returned ≤ nth (potAt t m.Code m.Year).Granted m.From) ∧ tot m.Used) then (zT, 2)
    else (putP t m.Code m.Year (withH (potAt t m.Code m.Year) (upd (potAt t m.Code m.Year).Heard m.From (max (nth (potAt t m.Code m.Year).Heard m.From) m.Returned)) (upd (potAt t m.Code m.Year).Used m.From m.Used)), 0)
theorem nth_tot {n : Int} {l : List Int} (h : rowOk n l) {k : Int} (hk : 1 ≤ k ∧ k ≤ n) : tot (nth l k) := by
  have := h.1
  exact h.2 _ (getD_mem (by omega))
theorem wrapK {k : Int} (hk : 1 ≤ k ∧ k ≤ 6) : IntKind.i64.wrap (k - 1) = (((k - 1).toNat : Nat) : Int) := by rw [wrapId (by omega) (by omega)]; omega
theorem Ask1_eq {n : Int} {p : TApiPot} (h : PotOk n p) (hn : n ≤ 6) {i : Nat} {l : List TApiPot} (hi : i < l.length) (k x : Int) :
    F_rights_Ask_1 i l p.Code p.Year p.Total k x p.Granted p.Heard p.Asked p.Used =
      some (if ¬ (1 ≤ k ∧ k ≤ n) then (6, p.Asked) else if ¬ (1 ≤ x ∧ x ≤ 1000000000000000) then (2, p.Asked) else if nth p.Granted k < nth p.Asked k + x then (15, p.Asked) else (0, upd p.Asked k (nth p.Asked k + x))) := by
  have l1 := h.2.2.2.1.1.1
  have l3 := h.2.2.2.1.2.2.1.1
  simp only [F_rights_Ask_1, S_rights_Ask_1, Scr.den, rights_among_eq, obind, l3]
  rw [guardP_pos (by simp only [AllP, and_true]; exact hi)]
  by_cases c1 : 1 ≤ k ∧ k ≤ n
  · rw [if_neg (show ¬ (!decide (1 ≤ k ∧ k ≤ n)) = true by rw [decide_eq_true c1]; simp), if_neg (show ¬ ¬ (1 ≤ k ∧ k ≤ n) from fun h => h c1)]
    by_cases c2 : 1 ≤ x ∧ x ≤ 1000000000000000
    · have t1 := nth_tot h.2.2.2.1.2.2.1 c1
      unfold tot at t1
      rw [if_neg (show ¬ (!decide (1 ≤ x ∧ x ≤ 1000000000000000)) = true by rw [decide_eq_true c2]; simp), if_neg (show ¬ ¬ (1 ≤ x ∧ x ≤ 1000000000000000) from fun h => h c2), wrapK (k := k) (by omega), Int.toNat_natCast, Nat.zero_add,
        guardP_pos (by simp only [AllP, and_true]; omega)]
      rw [show p.Asked.getD (k - 1).toNat default = nth p.Asked k from rfl, show p.Granted.getD (k - 1).toNat default = nth p.Granted k from rfl, wrapId (n := nth p.Asked k + x) (by omega) (by omega)]
      by_cases c3 : nth p.Granted k < nth p.Asked k + x
      · rw [if_pos (show decide (nth p.Asked k + x > nth p.Granted k) = true from decide_eq_true c3), if_pos c3]
      · rw [if_neg (show ¬ decide (nth p.Asked k + x > nth p.Granted k) = true by rw [decide_eq_true_eq]; exact c3), if_neg c3]
        rfl
    · rw [if_pos (show (!decide (1 ≤ x ∧ x ≤ 1000000000000000)) = true by rw [decide_eq_false c2]; simp), if_pos c2]
  · rw [if_pos (show (!decide (1 ≤ k ∧ k ≤ n)) = true by rw [decide_eq_false c1]; simp), if_pos c1]
theorem upd_length {l : List Int} {k x : Int} : (upd l k x).length = l.length := by simp [upd]
theorem Ask_eq {t : TApiTreasury} (hs : Small t) (k : Int) (c : List UInt8) (y x : Int) : F_rights_Ask t k c y x = some (askM t k c y x) := by
  simp only [F_rights_Ask, S_rights_Ask, Scr.den, F_rights_change_rights_Ask_1, S_rights_change_rights_Ask_1, Valid_eq hs, find_eq, obind]
  unfold askM
  by_cases h1 : TOk t
  · rw [if_neg (show ¬ (!decide (TOk t)) = true by rw [decide_eq_true h1]; simp), if_neg (show ¬ ¬ TOk t from fun h => h h1)]
    by_cases h2 : hasP t.Pots c y = true
    · have hlt := (pix_lt h2).1
      have hp := h1.potAt h2
      have l0 := h1.2.1
      rw [if_pos (show hasP t.Pots c y = true from h2), if_neg (show ¬ ¬ hasP t.Pots c y = true from fun h => h h2), if_neg (show ¬ decide (((pix t.Pots c y : Nat) : Int) < 0) = true by rw [decide_eq_true_eq]; omega), Int.toNat_natCast, freshOp_eq h1.small hlt (h1.pos h2)]
      simp only [obind]
      show ((F_rights_Ask_1 (pix t.Pots c y) t.Pots (potAt t c y).Code (potAt t c y).Year (potAt t c y).Total k x (potAt t c y).Granted (potAt t c y).Heard (potAt t c y).Asked (potAt t c y).Used).bind _).bind _ = _
      rw [Ask1_eq hp h1.1.2 hlt]
      simp only [obind]
      rw [guardP_pos (by simp only [AllP, and_true]; exact ⟨by omega, hlt⟩)]
      obtain ⟨q1, q2, q3, q4⟩ := hp.small h1.1.2
      by_cases h3 : 1 ≤ k ∧ k ≤ t.Offices
      · simp only [show ¬ ¬ (1 ≤ k ∧ k ≤ t.Offices) from fun h => h h3, if_false]
        by_cases h4 : 1 ≤ x ∧ x ≤ 1000000000000000
        · simp only [show ¬ ¬ (1 ≤ x ∧ x ≤ 1000000000000000) from fun h => h h4, if_false]
          by_cases h5 : nth (potAt t c y).Granted k < nth (potAt t c y).Asked k + x
          · simp only [h5, if_true]; rfl
          · simp only [h5, if_false]
            rw [if_neg (by simp), guardP_pos (by simp only [AllP, and_true]; exact upd_length), guardP_pos (by simp only [AllP, and_true]; exact ⟨Nat.lt_of_le_of_lt q1 (by omega), Nat.lt_of_le_of_lt q2 (by omega), by rw [upd_length]; exact Nat.lt_of_le_of_lt q3 (by omega), Nat.lt_of_le_of_lt q4 (by omega)⟩), guardP_pos (by simp only [AllP, and_true, List.length_set]; omega)]
            rfl
        · simp only [h4, not_false_eq_true, if_true]; rfl
      · simp only [h3, not_false_eq_true, if_true]; rfl
    · simp only [h2, if_neg, not_false_eq_true, if_true, Bool.false_eq_true]; rfl
  · rw [if_pos (show (!decide (TOk t)) = true by rw [decide_eq_false h1]; simp), if_pos (show ¬ TOk t from h1)]; rfl
end Go.Proofs.YtfiljdbmhegjgaaGreatDoor
namespace Go.Proofs.YtfiljdbmhegjgaaGreatDoor
open Go Go.TA
theorem maxE (a b : Int) : (if a > b then a else b) = max b a := by split <;> omega
/-! ## Pots read, told -/
def potM (t : TApiTreasury) (c : List UInt8) (y : Int) : TApiPot × Bool := if hasP t.Pots c y = true then (potAt t c y, true) else (⟨[], 0, 0, [], [], [], []⟩, false)
theorem Pot_eq {t : TApiTreasury} (hs : TSmall t) (c : List UInt8) (y : Int) : F_rights_Pot t c y = some (potM t c y) := by
  simp only [F_rights_Pot, S_rights_Pot, Scr.den, find_eq, obind]
  unfold potM
  by_cases h2 : hasP t.Pots c y = true
  · have hlt := (pix_lt h2).1
    have l0 := hs.1
    rw [if_pos (show hasP t.Pots c y = true from h2), if_pos (show hasP t.Pots c y = true from h2), if_neg (show ¬ decide (((pix t.Pots c y : Nat) : Int) < 0) = true by rw [decide_eq_true_eq]; omega), Int.toNat_natCast, copied_eq (hs.2 _ hlt)]
    simp only [obind]
    rw [guardP_pos (by simp only [AllP, and_true]; exact ⟨by omega, hlt⟩)]
    rfl
  · rw [if_neg h2, if_neg h2]; rfl
def tellM (t : TApiTreasury) (k : Int) (c : List UInt8) (y : Int) : TApiMessage × Int :=
  if ¬ TOk t then (⟨0, 0, [], 0, 0, 0, 0, 0⟩, 1) else if ¬ (hasP t.Pots c y = true ∧ 1 ≤ k ∧ k ≤ t.Offices) then (⟨0, 0, [], 0, 0, 0, 0, 0⟩, 6)
  else (⟨0, k, c, y, nth (potAt t c y).Granted k, nth (potAt t c y).Asked k, 0, 0⟩, 0)
theorem Tell_eq {t : TApiTreasury} (hs : Small t) (k : Int) (c : List UInt8) (y : Int) : F_rights_Tell t k c y = some (tellM t k c y) := by
  simp only [F_rights_Tell, S_rights_Tell, Scr.den, Valid_eq hs, obind, cond_or]
  unfold tellM
  by_cases h1 : TOk t
  · rw [if_neg (show ¬ (!decide (TOk t)) = true by rw [decide_eq_true h1]; simp), if_neg (show ¬ ¬ TOk t from fun h => h h1), Pot_eq h1.small]
    simp only [obind, rights_among_eq]
    unfold potM
    by_cases h2 : hasP t.Pots c y = true
    · rw [if_pos h2]
      rw [optD_pos (gs := [(!true) = false]) ⟨rfl, trivial⟩]
      simp only [obind, Bool.not_true, Bool.false_or]
      obtain ⟨_, _, _, ⟨g1, _, g3, _⟩, _⟩ := h1.potAt h2
      have e1 := g1.1
      have e3 := g3.1
      have e0 := h1.1
      by_cases h3 : 1 ≤ k ∧ k ≤ t.Offices
      · rw [if_neg (by rw [decide_eq_true h3]; simp), if_neg (show ¬ ¬ (hasP t.Pots c y = true ∧ 1 ≤ k ∧ k ≤ t.Offices) from fun h => h ⟨h2, h3⟩), wrapK (k := k) (by omega), Int.toNat_natCast, guardP_pos (by simp only [AllP, and_true]; omega)]
        rfl
      · rw [if_pos (by rw [decide_eq_false h3]; rfl), if_pos fun h => h3 h.2]
    · rw [if_neg h2, optD_none (by simp [AllP])]
      simp only [obind]
      rw [if_pos (by rfl), if_pos fun h => h2 h.1]
  · rw [if_pos (show (!decide (TOk t)) = true by rw [decide_eq_false h1]; simp), if_pos h1]
end Go.Proofs.YtfiljdbmhegjgaaGreatDoor
namespace Go.Proofs.YtfiljdbmhegjgaaGreatDoor
open Go Go.TA
/-! ## The reference -/
def findM (t : TApiTreasury) (k : Int) (c : List UInt8) (y : Int) : Int × Int :=
  if ¬ TOk t then (0, 1) else if ¬ (hasP t.Pots c y = true ∧ 1 ≤ k ∧ k ≤ t.Offices) then (0, 6) else ((pix t.Pots c y : Int), 0)
theorem r13_find_eq {t : TApiTreasury} (hs : Small t) (k : Int) (c : List UInt8) (y : Int) : F_r13_find t k c y = some (findM t k c y) := by
  simp only [F_r13_find, S_r13_find, Scr.den, r13_Valid_eq hs, at_eq, obind, cond_or]
  unfold findM
  by_cases h1 : TOk t
  · rw [if_neg (show ¬ (!decide (TOk t)) = true by rw [decide_eq_true h1]; simp), if_neg (show ¬ ¬ TOk t from fun h => h h1)]
    by_cases h2 : hasP t.Pots c y = true
    · rw [if_pos (show hasP t.Pots c y = true from h2)]
      by_cases h3 : 1 ≤ k ∧ k ≤ t.Offices
      · have hb : (decide (((pix t.Pots c y : Nat) : Int) < 0) || decide (k < 1) || decide (k > t.Offices)) = false := by
          simp only [Bool.or_eq_false_iff, decide_eq_false_iff_not]; omega
        rw [if_neg (by rw [hb]; simp), if_neg (show ¬ ¬ (hasP t.Pots c y = true ∧ 1 ≤ k ∧ k ≤ t.Offices) from fun h => h ⟨h2, h3⟩)]
      · rw [if_pos (by simp only [Bool.or_eq_true, decide_eq_true_eq]; omega), if_pos fun h => h3 h.2]
    · rw [if_neg (show ¬ hasP t.Pots c y = true from h2), if_pos (by rfl), if_pos fun h => h2 h.1]
  · rw [if_pos (show (!decide (TOk t)) = true by rw [decide_eq_false h1]; simp), if_pos h1]
theorem r13_Ask_eq {t : TApiTreasury} (hs : Small t) (k : Int) (c : List UInt8) (y x : Int) : F_r13_Ask t k c y x = some (askM t k c y x) := by
  simp only [F_r13_Ask, S_r13_Ask, Scr.den, r13_find_eq hs, obind, cond_or]
  unfold askM findM
  by_cases h1 : TOk t
  · simp only [show ¬ ¬ TOk t from fun h => h h1, if_false]
    by_cases h2 : hasP t.Pots c y = true
    · have hlt := (pix_lt h2).1
      have hp := h1.potAt h2
      have l0 := h1.2.1
      obtain ⟨q1, q2, q3, q4⟩ := hp.small h1.1.2
      have l1 := hp.2.2.2.1.1.1
      have l3 := hp.2.2.2.1.2.2.1.1
      have e0 := h1.1
      simp only [show ¬ ¬ hasP t.Pots c y = true from fun h => h h2, if_false]
      by_cases h3 : 1 ≤ k ∧ k ≤ t.Offices
      · simp only [show ¬ ¬ (1 ≤ k ∧ k ≤ t.Offices) from fun h => h h3, show ¬ ¬ (hasP t.Pots c y = true ∧ 1 ≤ k ∧ k ≤ t.Offices) from fun h => h ⟨h2, h3⟩, if_false]
        rw [if_neg (show ¬ ((0 : Int) != 0) = true by simp)]
        by_cases h4 : 1 ≤ x ∧ x ≤ 1000000000000000
        · have t1 := nth_tot hp.2.2.2.1.2.2.1 h3
          unfold tot at t1
          rw [if_neg (by simp only [Bool.or_eq_true, decide_eq_true_eq]; omega)]
          simp only [show ¬ ¬ (1 ≤ x ∧ x ≤ 1000000000000000) from fun h => h h4, if_false, wrapK (k := k) (by omega), Int.toNat_natCast]
          rw [r13_copiedOp_eq h1.small hlt (h1.pos h2)]
          simp only [obind, show t.Pots.getD (pix t.Pots c y) default = potAt t c y from rfl, Nat.zero_add, show (potAt t c y).Asked.getD (k - 1).toNat default = nth (potAt t c y).Asked k from rfl, show (potAt t c y).Granted.getD (k - 1).toNat default = nth (potAt t c y).Granted k from rfl]
          rw [guardP_pos (by simp only [AllP, and_true]; omega), wrapId (n := nth (potAt t c y).Asked k + x) (by omega) (by omega)]
          by_cases h5 : nth (potAt t c y).Granted k < nth (potAt t c y).Asked k + x
          · rw [if_pos (show decide (nth (potAt t c y).Asked k + x > nth (potAt t c y).Granted k) = true from decide_eq_true h5), if_pos h5]
          · rw [if_neg (show ¬ decide (nth (potAt t c y).Asked k + x > nth (potAt t c y).Granted k) = true by rw [decide_eq_true_eq]; exact h5), if_neg h5]
            rw [guardP_pos (by simp only [AllP, and_true]; omega), guardP_pos (by simp only [AllP, and_true, List.length_set]), guardP_pos (by simp only [AllP, and_true, List.length_set]; omega), guardP_pos (by simp only [AllP, and_true, List.length_set]; omega)]
            rfl
        · rw [if_pos (by simp only [Bool.or_eq_true, decide_eq_true_eq]; omega)]
          simp only [h4, not_false_eq_true, if_true]
      · simp only [h3, and_false, not_false_eq_true, if_true]; rfl
    · simp only [h2, false_and, not_false_eq_true, if_true, Bool.false_eq_true]; rfl
  · simp only [h1, not_false_eq_true, if_true]; rfl
theorem r13_Hear_eq {t : TApiTreasury} (hs : Small t) (m : TApiMessage) : F_r13_Hear t m = some (hearM t m) := by
  simp only [F_r13_Hear, S_r13_Hear, Scr.den, r13_Valid_eq hs, r13_find_eq hs, obind, cond_or]
  unfold hearM findM
  by_cases h0 : m.To = 0
  · rw [if_neg (show ¬ m.To ≠ 0 from fun h => h h0)]
    by_cases h1 : TOk t
    · rw [if_neg (by rw [decide_eq_true h1]; simp [h0])]
      simp only [show ¬ ¬ TOk t from fun h => h h1, if_false]
      by_cases h2 : hasP t.Pots m.Code m.Year = true
      · have hlt := (pix_lt h2).1
        have hp := h1.potAt h2
        have l0 := h1.2.1
        obtain ⟨q1, q2, q3, q4⟩ := hp.small h1.1.2
        have l1 := hp.2.2.2.1.1.1
        have l2 := hp.2.2.2.1.2.1.1
        have l4 := hp.2.2.2.1.2.2.2.1
        have e0 := h1.1
        simp only [show ¬ ¬ hasP t.Pots m.Code m.Year = true from fun h => h h2, if_false]
        by_cases h3 : 1 ≤ m.From ∧ m.From ≤ t.Offices
        · simp only [show ¬ ¬ (1 ≤ m.From ∧ m.From ≤ t.Offices) from fun h => h h3, show ¬ ¬ (hasP t.Pots m.Code m.Year = true ∧ 1 ≤ m.From ∧ m.From ≤ t.Offices) from fun h => h ⟨h2, h3⟩, if_false]
          rw [if_neg (show ¬ ((0 : Int) != 0) = true by simp)]
          simp only [wrapK (k := m.From) (by omega), Int.toNat_natCast, r13_total_eq, show t.Pots.getD (pix t.Pots m.Code m.Year) default = potAt t m.Code m.Year from rfl, show (potAt t m.Code m.Year).Granted.getD (m.From - 1).toNat default = nth (potAt t m.Code m.Year).Granted m.From from rfl]
          have hgu : ∀ a : Prop, AllP [a → (0 : Int) ≤ ((pix t.Pots m.Code m.Year : Nat) : Int), a → pix t.Pots m.Code m.Year < t.Pots.length, a → (0 : Int) ≤ (((m.From - 1).toNat : Nat) : Int), a → (m.From - 1).toNat < (potAt t m.Code m.Year).Granted.length] :=
            fun a => ⟨fun _ => by omega, fun _ => hlt, fun _ => by omega, fun _ => by omega, trivial⟩
          by_cases h4 : 0 ≤ m.Returned ∧ m.Returned ≤ nth (potAt t m.Code m.Year).Granted m.From
          · rw [optD_pos (by rw [decide_eq_false (show ¬ m.Returned < 0 by omega), decide_eq_false (show ¬ m.Returned > nth (potAt t m.Code m.Year).Granted m.From by omega)]; exact ⟨rfl, trivial⟩)]
            simp only [obind]
            rw [guardP_pos (hgu _)]
            by_cases h5 : tot m.Used
            · rw [if_neg (by rw [decide_eq_false (show ¬ m.Returned < 0 by omega), decide_eq_false (show ¬ m.Returned > nth (potAt t m.Code m.Year).Granted m.From by omega), decide_eq_true h5]; simp), if_neg (show ¬ ¬ ((0 ≤ m.Returned ∧ m.Returned ≤ nth (potAt t m.Code m.Year).Granted m.From) ∧ tot m.Used) from fun h => h ⟨h4, h5⟩)]
              rw [r13_copiedOp_eq h1.small hlt (h1.pos h2)]
              simp only [obind, show t.Pots.getD (pix t.Pots m.Code m.Year) default = potAt t m.Code m.Year from rfl, Nat.zero_add, show (potAt t m.Code m.Year).Heard.getD (m.From - 1).toNat default = nth (potAt t m.Code m.Year).Heard m.From from rfl, maxE]
              rw [guardP_pos (by simp only [AllP, and_true]; omega), guardP_pos (by simp only [AllP, and_true]; omega), guardP_pos (by simp only [AllP, List.length_set, and_self]), guardP_pos (by simp only [AllP, and_true, List.length_set]; omega), guardP_pos (by simp only [AllP, and_true, List.length_set]; omega)]
              rfl
            · rw [if_pos (by rw [decide_eq_false h5]; simp), if_pos (show ¬ ((0 ≤ m.Returned ∧ m.Returned ≤ nth (potAt t m.Code m.Year).Granted m.From) ∧ tot m.Used) from fun h => h5 h.2)]
          · have hb : (decide (m.Returned < 0) || decide (m.Returned > nth (potAt t m.Code m.Year).Granted m.From)) = true := by
              simp only [Bool.or_eq_true, decide_eq_true_eq]; omega
            rw [optD_none (by rw [hb]; simp [AllP])]
            simp only [obind]
            rw [guardP_pos (hgu _), if_pos (by rw [hb]; rfl), if_pos (show ¬ ((0 ≤ m.Returned ∧ m.Returned ≤ nth (potAt t m.Code m.Year).Granted m.From) ∧ tot m.Used) from fun h => h4 h.1)]
        · simp only [h3, and_false, not_false_eq_true, if_true]; rfl
      · simp only [h2, false_and, not_false_eq_true, if_true, Bool.false_eq_true]; rfl
    · rw [if_pos (by rw [decide_eq_false h1]; rfl)]
      simp only [h1, not_false_eq_true, if_true]
  · rw [if_pos (by simp [h0]), if_pos (show m.To ≠ 0 from h0)]
end Go.Proofs.YtfiljdbmhegjgaaGreatDoor
namespace Go.Proofs.YtfiljdbmhegjgaaGreatDoor
open Go Go.TA
/-! ## The reference's division, its grants -/
def divideM (t : TApiTreasury) (c : List UInt8) (y : Int) (a : List Int) : TApiTreasury × Int :=
  if ¬ TOk t then (zT, 1) else if ¬ hasP t.Pots c y = true then (zT, 6) else if ¬ (a.length : Int) = t.Offices then (zT, 6) else if ¬ rowT a = true then (zT, 2) else
    if (giveV (potAt t c y).Total (potAt t c y) a).1 ≠ 0 then (zT, (giveV (potAt t c y).Total (potAt t c y) a).1)
    else (putP t c y (withG (potAt t c y) (giveV (potAt t c y).Total (potAt t c y) a).2), 0)
theorem fold_zip : ∀ (a b : List Int) (u v : Int), a.length = b.length →
    (a.zip b).foldl (fun (s : Int × Int) x => (IntKind.i64.wrap (s.1 + x.1), IntKind.i64.wrap (s.2 + x.2))) (IntKind.i64.wrap u, IntKind.i64.wrap v) = (IntKind.i64.wrap (u + a.sum), IntKind.i64.wrap (v + b.sum))
  | [], [], u, v, _ => by simp
  | x :: a, y :: b, u, v, h => by
    simp only [List.zip_cons_cons, List.foldl_cons, wrap_addl, List.sum_cons]
    rw [fold_zip a b (u + x) (v + y) (by simpa using h), Int.add_assoc, Int.add_assoc]
  | [], _ :: _, _, _, h => by simp at h
  | _ :: _, [], _, _, h => by simp at h
theorem zip_getD {a b : List Int} {i : Nat} (h : a.length = b.length) (hi : i < a.length) : (a.zip b).getD i default = (a.getD i default, b.getD i default) := by
  rw [List.getD_eq_getElem?_getD, List.getElem?_eq_getElem (by simp; omega), List.getElem_zip, getD_of hi, getD_of (by omega)]
  rfl
theorem r13_Divide_eq {t : TApiTreasury} (hs : Small t) (c : List UInt8) (y : Int) (a : List Int) : F_r13_Divide t c y a = some (divideM t c y a) := by
  simp only [F_r13_Divide, S_r13_Divide, Scr.den, r13_find_eq hs, obind]
  unfold divideM
  by_cases h1 : TOk t
  · simp only [findM, show ¬ ¬ TOk t from fun h => h h1, if_false]
    by_cases h2 : hasP t.Pots c y = true
    · have hlt := (pix_lt h2).1
      have hp := h1.potAt h2
      have l0 := h1.2.1
      obtain ⟨q1, q2, q3, q4⟩ := hp.small h1.1.2
      have l1 := hp.2.2.2.1.1.1
      have e0 := h1.1
      have ho := out_bound hp h1.1.2
      have ht := hp.2.2.1
      simp only [show ¬ ¬ hasP t.Pots c y = true from fun h => h h2, show ¬ ¬ (hasP t.Pots c y = true ∧ (1 : Int) ≤ 1 ∧ 1 ≤ t.Offices) from fun h => h ⟨h2, by omega, by omega⟩, if_false]
      rw [if_neg (show ¬ ((0 : Int) != 0) = true by simp)]
      by_cases h3 : (a.length : Int) = t.Offices
      · rw [if_neg (show ¬ ((a.length : Int) != t.Offices) = true by simp [h3]), if_neg (show ¬ ¬ (a.length : Int) = t.Offices from fun h => h h3)]
        simp only [Int.toNat_natCast]
        have hl : a.length = (potAt t c y).Granted.length := by omega
        have hz : (a.zip (potAt t c y).Granted).length = a.length := by simp; omega
        have hch := rangeM_chk (ρ := R_r13_Divide) (body := fun i s => (S_r13_Divide_b1 t a ((pix t.Pots c y : Int), 0) i s).den) (a.zip (potAt t c y).Granted) (fun i => tot (a.getD i default))
          (fun (s : Int × Int) x => (IntKind.i64.wrap (s.1 + x.1), IntKind.i64.wrap (s.2 + x.2))) (c := (zT, 2)) (s0 := (0, 0)) (fun i s hi => by
            rw [hz] at hi
            simp only [S_r13_Divide_b1, Scr.den, r13_total_eq, obind, Int.toNat_natCast, show t.Pots.getD (pix t.Pots c y) default = potAt t c y from rfl, zip_getD hl hi]
            by_cases c1 : tot (a.getD i default)
            · rw [if_neg (by rw [decide_eq_true c1]; simp), if_pos c1, guardP_pos (by simp only [AllP, and_true]; omega)]
            · rw [if_pos (by rw [decide_eq_false c1]; rfl), if_neg c1])
        rw [hz] at hch
        rw [hch]
        by_cases h4 : rowT a = true
        · have ha := rowT_iff.1 h4
          have s1 := sum_tot ha
          have s2 := sum_tot hp.2.2.2.1.1.2
          have hf := fold_zip a (potAt t c y).Granted 0 0 hl
          rw [wrap_zero, Int.zero_add, Int.zero_add, wrapId (n := a.sum) (by omega) (by omega), wrapId (n := (potAt t c y).Granted.sum) (by omega) (by omega)] at hf
          rw [if_pos (all_tot.2 ha), hf, if_neg (show ¬ ¬ rowT a = true from fun h => h h4)]
          simp only [outM, show t.Pots.getD (pix t.Pots c y) default = potAt t c y from rfl]
          rw [r13_Free_eq (by omega)]
          simp only [obind]
          rw [guardP_pos (by simp only [AllP, and_true]; omega), wrapId (n := (potAt t c y).Total - outV (potAt t c y)) (by omega) (by omega), wrapId (n := a.sum + (potAt t c y).Granted.sum) (by omega) (by omega)]
          unfold giveV
          by_cases c1 : (potAt t c y).Total - outV (potAt t c y) < a.sum
          · rw [if_pos (show decide (a.sum > (potAt t c y).Total - outV (potAt t c y)) = true from decide_eq_true c1), if_pos c1]
            rfl
          · rw [if_neg (show ¬ decide (a.sum > (potAt t c y).Total - outV (potAt t c y)) = true by rw [decide_eq_true_eq]; exact c1), if_neg c1]
            by_cases c2 : 1000000000000000 < (potAt t c y).Granted.sum + a.sum
            · rw [if_pos (decide_eq_true (by omega)), if_pos c2]
              rfl
            · rw [if_neg (by rw [decide_eq_true_eq]; omega), if_neg c2, r13_copiedOp_eq h1.small hlt (h1.pos h2)]
              simp only [obind, show t.Pots.getD (pix t.Pots c y) default = potAt t c y from rfl]
              rw [add_loop (ρ := R_r13_Divide) (G := (potAt t c y).Granted) (a := a) (body := fun i s => (S_r13_Divide_b2 a ((pix t.Pots c y : Int), 0) (t.Offices, t.Pots) i s).den) hl (fun j s hj hs' => by
                simp only [S_r13_Divide_b2, Scr.den, Int.toNat_natCast, show t.Pots.getD (pix t.Pots c y) default = potAt t c y from rfl]
                rw [guardP_pos (by simp only [AllP, and_true]; omega)]) hp.2.2.2.1.1.2 ha]
              simp only
              rw [guardP_pos (by simp only [AllP, and_true]; exact addN_length), guardP_pos (by simp only [AllP, and_true]; exact ⟨by rw [addN_length]; omega, by omega, by omega, by omega⟩), guardP_pos (by simp only [AllP, and_true, List.length_set]; omega)]
              rfl
        · rw [if_neg fun h => h4 (rowT_iff.2 (all_tot.1 h)), if_pos (show ¬ rowT a = true from h4)]
          rfl
      · rw [if_pos (show ((a.length : Int) != t.Offices) = true by simp [h3]), if_pos (show ¬ (a.length : Int) = t.Offices from h3)]
    · simp only [h2, false_and, not_false_eq_true, if_true, Bool.false_eq_true]; rfl
  · simp only [findM, h1, not_false_eq_true, if_true]; rfl
theorem r13_Grant_eq {t : TApiTreasury} (hs : Small t) (k : Int) (c : List UInt8) (y x : Int) : F_r13_Grant t k c y x = some (grantM t k c y x) := by
  simp only [F_r13_Grant, S_r13_Grant, Scr.den, r13_find_eq hs, obind, cond_or]
  unfold grantM
  by_cases h1 : TOk t
  · simp only [findM, show ¬ ¬ TOk t from fun h => h h1, if_false]
    by_cases h2 : hasP t.Pots c y = true
    · have hp := h1.potAt h2
      have l1 := hp.2.2.2.1.1.1
      have e0 := h1.1
      simp only [show ¬ ¬ hasP t.Pots c y = true from fun h => h h2, if_false]
      by_cases h3 : 1 ≤ k ∧ k ≤ t.Offices
      · simp only [show ¬ ¬ (1 ≤ k ∧ k ≤ t.Offices) from fun h => h h3, show ¬ ¬ (hasP t.Pots c y = true ∧ 1 ≤ k ∧ k ≤ t.Offices) from fun h => h ⟨h2, h3⟩, if_false]
        rw [if_neg (show ¬ ((0 : Int) != 0) = true by simp)]
        by_cases h4 : 1 ≤ x ∧ x ≤ 1000000000000000
        · rw [if_neg (by simp only [Bool.or_eq_true, decide_eq_true_eq]; omega)]
          simp only [show ¬ ¬ (1 ≤ x ∧ x ≤ 1000000000000000) from fun h => h h4, if_false, wrapK (k := k) (by omega), Int.toNat_natCast, Nat.zero_add]
          have e2 : t.Offices.toNat = (potAt t c y).Granted.length := by omega
          rw [e2, guardP_pos (by simp only [AllP, and_true]; omega), guardP_pos (by simp only [AllP, and_true, List.length_replicate]; omega), guardP_pos (by simp only [AllP, and_true, List.length_set, List.length_replicate]; omega)]
          show (F_r13_Divide t c y (oneHot (potAt t c y).Granted.length (k - 1).toNat x)).bind _ = _
          rw [r13_Divide_eq hs]
          unfold divideM
          simp only [show ¬ ¬ TOk t from fun h => h h1, show ¬ ¬ hasP t.Pots c y = true from fun h => h h2, show ¬ ¬ (((oneHot (potAt t c y).Granted.length (k - 1).toNat x).length : Int) = t.Offices) from fun h => h (by rw [oneHot_length]; exact l1),
            show ¬ ¬ rowT (oneHot (potAt t c y).Granted.length (k - 1).toNat x) = true from fun h => h (rowT_iff.2 (oneHot_tot h4)), if_false]
          rfl
        · rw [if_pos (by simp only [Bool.or_eq_true, decide_eq_true_eq]; omega)]
          simp only [h4, not_false_eq_true, if_true]
      · simp only [h3, and_false, not_false_eq_true, if_true]; rfl
    · simp only [h2, false_and, not_false_eq_true, if_true, Bool.false_eq_true]; rfl
  · simp only [findM, h1, not_false_eq_true, if_true]; rfl
end Go.Proofs.YtfiljdbmhegjgaaGreatDoor
namespace Go.Proofs.YtfiljdbmhegjgaaGreatDoor
open Go Go.TA
/-! ## The order of pots; the place of one -/
def PGood (p : TApiPot) : Prop := good p.Code = true ∧ True
theorem has_iff {l : List TApiPot} {c : List UInt8} {y : Int} : hasP l c y = true ↔ ∃ x ∈ l, x.Code = c ∧ x.Year = y := by
  unfold hasP
  rw [List.any_eq_true]
  exact ⟨fun ⟨x, h1, h2⟩ => ⟨x, h1, isP_iff.1 h2⟩, fun ⟨x, h1, h2⟩ => ⟨x, h1, isP_iff.2 h2⟩⟩
def Srt (l : List TApiPot) : Prop := ∀ i, i < l.length → i = 0 ∨ cmpP (l.getD (i - 1) default) (l.getD i default) < 0
theorem cmpP_lt {a b : TApiPot} (h : good a.Code = true ∨ good b.Code = true) : cmpP a b < 0 ↔ lexC (parts a.Code) (parts b.Code) < 0 ∨ (lexC (parts a.Code) (parts b.Code) = 0 ∧ a.Year < b.Year) := by
  unfold cmpP
  rw [cmpC_good h]
  generalize lexC (parts a.Code) (parts b.Code) = c
  by_cases hc : c = 0
  · rw [if_neg (by simpa using hc)]
    unfold cmpI
    by_cases h1 : a.Year < b.Year
    · rw [if_pos h1]; simp [hc, h1]
    · rw [if_neg h1]
      split <;> simp [hc, h1]
  · rw [if_pos hc]; simp [hc]
theorem cmpP_eq {a b : TApiPot} (ha : good a.Code = true) (hb : good b.Code = true) : cmpP a b = 0 ↔ a.Code = b.Code ∧ a.Year = b.Year := by
  unfold cmpP
  rw [cmpC_good (.inl ha)]
  by_cases hc : lexC (parts a.Code) (parts b.Code) = 0
  · rw [if_neg (by simpa using hc)]
    have e := parts_inj ha hb (lexC_eq hc)
    unfold cmpI
    by_cases h1 : a.Year < b.Year
    · rw [if_pos h1]; simp; omega
    · rw [if_neg h1]
      by_cases h2 : a.Year > b.Year
      · rw [if_pos h2]; simp; omega
      · rw [if_neg h2]; simp [e]; omega
  · rw [if_pos hc]
    constructor
    · intro h; exact absurd h hc
    · rintro ⟨h1, _⟩
      exact absurd (by rw [h1]; exact lexC_refl _) hc
theorem cmpP_trans {a b c : TApiPot} (ha : good a.Code = true) (hb : good b.Code = true) (h : cmpP a b < 0) (h' : cmpP b c < 0) : cmpP a c < 0 := by
  rw [cmpP_lt (.inl ha)] at h ⊢
  rw [cmpP_lt (.inl hb)] at h'
  rcases h with h | ⟨h, h2⟩
  · rcases h' with h' | ⟨h', _⟩
    · exact .inl (lexC_trans h h')
    · rw [← lexC_eq h']; exact .inl h
  · rcases h' with h' | ⟨h', h3⟩
    · rw [lexC_eq h]; exact .inl h'
    · rw [lexC_eq h]; exact .inr ⟨h', by omega⟩
theorem cmpP_anti {a b : TApiPot} (ha : good a.Code = true) : cmpP b a = -cmpP a b := by
  unfold cmpP
  rw [cmpC_good (.inl ha), cmpC_good (.inr ha), lexC_anti (parts a.Code) (parts b.Code)]
  by_cases h : lexC (parts a.Code) (parts b.Code) = 0
  · rw [if_neg (by omega), if_neg (by omega)]
    unfold cmpI
    by_cases h1 : a.Year < b.Year
    · rw [if_neg (by omega), if_pos (by omega), if_pos h1]; rfl
    · by_cases h2 : b.Year < a.Year
      · rw [if_pos h2, if_neg h1, if_pos (by omega)]
      · rw [if_neg h2, if_neg (by omega), if_neg h1, if_neg (by omega)]; rfl
  · rw [if_pos (by omega), if_pos h]
theorem Srt.lt {l : List TApiPot} (h : Srt l) (hg : ∀ r ∈ l, PGood r) : ∀ {i j : Nat}, i < j → j < l.length → cmpP (l.getD i default) (l.getD j default) < 0 := by
  intro i j hij
  induction j with
  | zero => omega
  | succ j ih =>
    intro hj
    have h1 := (h (j + 1) hj).resolve_left (by omega)
    rw [show j + 1 - 1 = j by omega] at h1
    by_cases e : i = j
    · subst e; exact h1
    · exact cmpP_trans (hg _ (getD_mem (by omega))).1 (hg _ (getD_mem (by omega))).1 (ih (by omega) (by omega)) h1
def posP (l : List TApiPot) (r : TApiPot) : Nat := l.findIdx (fun x => decide (0 ≤ cmpP x r))
theorem getD_el {α : Type} [Inhabited α] {l : List α} {i : Nat} (hi : i < l.length) : l.getD i default = l[i] := by simp [List.getD_eq_getElem?_getD, List.getElem?_eq_getElem hi]
theorem posP_le (l : List TApiPot) (r : TApiPot) : posP l r ≤ l.length := List.findIdx_le_length
theorem posP_lt {l : List TApiPot} {r : TApiPot} {i : Nat} (hi : i < posP l r) : cmpP (l.getD i default) r < 0 := by
  have hl : i < l.length := Nat.lt_of_lt_of_le hi (posP_le l r)
  have := List.not_of_lt_findIdx hi
  rw [getD_el hl]
  simpa using this
theorem posP_at {l : List TApiPot} {r : TApiPot} (hi : posP l r < l.length) : 0 ≤ cmpP (l.getD (posP l r) default) r := by
  have := List.findIdx_getElem (xs := l) (p := fun x => decide (0 ≤ cmpP x r)) (w := hi)
  rw [getD_el hi]
  exact of_decide_eq_true this
theorem posP_ge {l : List TApiPot} {r : TApiPot} (hS : Srt l) (hg : ∀ x ∈ l, PGood x) {i : Nat} (hi : i < l.length) (hp : posP l r ≤ i) : 0 ≤ cmpP (l.getD i default) r := by
  have h0 := posP_at (l := l) (r := r) (by omega)
  by_cases e : posP l r = i
  · rwa [e] at h0
  · have h1 := hS.lt hg (show posP l r < i by omega) hi
    by_cases h : cmpP (l.getD i default) r < 0
    · have := cmpP_trans (hg _ (getD_mem (by omega))).1 (hg _ (getD_mem hi)).1 h1 h
      omega
    · omega
theorem half_eq {i j : Nat} (h : i + j < 4611686018427387904) : IntKind.i64.wrap ((IntKind.u64.wrap (IntKind.i64.wrap ((i : Int) + (j : Int)))).fdiv (2 ^ (min (1 : Int).toNat IntKind.u64.bits))) = (((i + j) / 2 : Nat) : Int) := by
  rw [wrapId (n := (i : Int) + (j : Int)) (by omega) (by omega)]
  have e : IntKind.u64.wrap ((i : Int) + (j : Int)) = (i : Int) + (j : Int) := by
    simp only [IntKind.wrap, IntKind.bits, IntKind.signed]
    simp
    omega
  rw [e]
  have e2 : (2 : Int) ^ (min (1 : Int).toNat IntKind.u64.bits) = 2 := by decide
  rw [e2, Int.fdiv_eq_ediv_of_nonneg _ (by omega), wrapId (by omega) (by omega)]
  omega
theorem PGood.len {r : TApiPot} (h : PGood r) : r.Code.length ≤ 1000000 := by have := good_len h.1; omega
theorem getD_len {l : List TApiPot} (hg : ∀ x ∈ l, PGood x) (k : Nat) : (l.getD k default).Code.length ≤ 1000000 := by
  by_cases h : k < l.length
  · exact (hg _ (getD_mem h)).len
  · rw [List.getD_eq_getElem?_getD, List.getElem?_eq_none (by omega)]; exact Nat.zero_le _
theorem bsearch_eq {l : List TApiPot} {r : TApiPot} (hl : l.length ≤ 1000000) (hS : Srt l) (hg : ∀ x ∈ l, PGood x) (hr : PGood r) :
    F_slices_BSF_Pot_rights_compare r l = some ((posP l r : Int), decide (posP l r < l.length) && (cmpP (l.getD (posP l r) default) r == 0)) := by
  have hc : ∀ k, F_rights_compare (l.getD k default) r = some (cmpP (l.getD k default) r) := fun k => compare_eq (getD_len hg k) hr.len
  have hp := posP_le l r
  simp only [F_slices_BSF_Pot_rights_compare, S_slices_BSF_Pot_rights_compare, Scr.den]
  obtain ⟨s, e, hJ⟩ := iterM_inv (step := fun s => (S_slices_BSF_Pot_rights_compare_b1 r l s).den) (fun s => (s.2 - s.1).toNat) (fun s => ∃ i j : Nat, s = ((i : Int), (j : Int)) ∧ i ≤ posP l r ∧ posP l r ≤ j ∧ j ≤ l.length) (fun s => s.1 = (posP l r : Int)) (fun s hI => by
    obtain ⟨i, j, rfl, h1, h2, h3⟩ := hI
    simp only [S_slices_BSF_Pot_rights_compare_b1, Scr.den, half_eq (show i + j < 4611686018427387904 by omega), hc, obind, Int.toNat_natCast]
    by_cases hij : i < j
    · left
      rw [if_pos (by simpa using hij), guardP_pos ⟨by omega, by omega, by omega, trivial⟩, Nat.zero_add]
      by_cases hlt : cmpP (l.getD ((i + j) / 2) default) r < 0
      · rw [if_pos (by simpa using hlt), wrapId (by omega) (by omega)]
        have : (i + j) / 2 < posP l r := by
          by_cases h : (i + j) / 2 < posP l r
          · exact h
          · have := posP_ge (r := r) hS hg (show (i + j) / 2 < l.length by omega) (by omega)
            omega
        exact ⟨_, rfl, ⟨(i + j) / 2 + 1, j, by simp, by omega, h2, h3⟩, by simp only; omega⟩
      · rw [if_neg (by simpa using hlt)]
        have : posP l r ≤ (i + j) / 2 := by
          by_cases h : posP l r ≤ (i + j) / 2
          · exact h
          · have := posP_lt (show (i + j) / 2 < posP l r by omega)
            omega
        exact ⟨_, rfl, ⟨i, (i + j) / 2, rfl, h1, this, by omega⟩, by simp only; omega⟩
    · right
      rw [if_neg (by simpa using hij)]
      exact ⟨_, rfl, by simp only; omega⟩) _ (0, (l.length : Int)) (Nat.lt_succ_self _) ⟨0, l.length, rfl, by omega, hp, by omega⟩
  rw [e]
  simp only [outM, hJ, Int.toNat_natCast, hc, cond_and, Nat.zero_add]
  by_cases h : posP l r < l.length
  · rw [optD_pos (by exact ⟨by simp; omega, trivial⟩), obind, guardP_pos ⟨fun _ => by omega, fun _ => h, fun _ => h, trivial⟩]
    simp [h]
  · rw [optD_none (by simp [AllP]; omega), obind, guardP_pos ⟨fun _ => by omega, fun h' => absurd h (by simp [AllP] at h'; omega), fun h' => absurd h (by simp [AllP] at h'; omega), trivial⟩]
    simp [h]
theorem has_pos {l : List TApiPot} {r : TApiPot} (hS : Srt l) (hg : ∀ x ∈ l, PGood x) (hr : PGood r) :
    (decide (posP l r < l.length) && (cmpP (l.getD (posP l r) default) r == 0)) = hasP l r.Code r.Year ∧ (hasP l r.Code r.Year = true → pix l r.Code r.Year = posP l r) := by
  have key : hasP l r.Code r.Year = true → pix l r.Code r.Year = posP l r := fun h => by
    obtain ⟨h1, h2, h3⟩ := pix_lt h
    have h4 := hg _ (getD_mem h1)
    have h5 : cmpP (l.getD (pix l r.Code r.Year) default) r = 0 := (cmpP_eq h4.1 hr.1).2 ⟨h2, h3⟩
    rcases Nat.lt_trichotomy (pix l r.Code r.Year) (posP l r) with h | h | h
    · have := posP_lt h; omega
    · exact h
    · have h6 := hS.lt hg h h1
      have h7 := posP_at (l := l) (r := r) (by omega)
      have h8 := hg _ (getD_mem (show posP l r < l.length by omega))
      have : cmpP (l.getD (posP l r) default) r < 0 := by
        rw [cmpP_lt (.inl h8.1)] at h6 ⊢
        rw [h2, h3] at h6
        exact h6
      omega
  refine ⟨?_, key⟩
  rw [Bool.eq_iff_iff]
  simp only [Bool.and_eq_true, decide_eq_true_eq, beq_iff_eq]
  constructor
  · rintro ⟨h1, h2⟩
    obtain ⟨h3, h4⟩ := (cmpP_eq (hg _ (getD_mem h1)).1 hr.1).1 h2
    exact has_iff.2 ⟨_, getD_mem h1, h3, h4⟩
  · intro h
    obtain ⟨h1, h2, h3⟩ := pix_lt h
    rw [key h] at h1 h2 h3
    exact ⟨h1, (cmpP_eq (hg _ (getD_mem h1)).1 hr.1).2 ⟨h2, h3⟩⟩
theorem copy_ins (l : List TApiPot) (p : Nat) (hp : p ≤ l.length) (z r : TApiPot) :
    (copyL (l ++ [z]) (0 + (p + 1)) (min ((l ++ [z]).length - p) ((l ++ [z]).length - (p + 1))) (fun i => (l ++ [z]).getD ((0 + p) + i) default)).set (0 + p) r = insL l p r := by
  refine List.ext_getElem (by simp [copyL, insL]; omega) fun i h1 h2 => ?_
  have hi : i < l.length + 1 := by rw [insL_length] at h2; exact h2
  rw [← getD_el h2, insL_get hp, List.getElem_set]
  by_cases e : i < p
  · rw [if_neg (by omega), if_pos e]
    simp only [copyL, List.getElem_map, List.getElem_range]
    rw [if_neg (by omega), List.getD_eq_getElem?_getD, List.getD_eq_getElem?_getD, List.getElem?_append_left (by omega)]
  · by_cases e2 : i = p
    · rw [if_pos (by omega), if_neg e, if_pos e2]
    · rw [if_neg (by omega), if_neg e, if_neg e2]
      simp only [copyL, List.getElem_map, List.getElem_range, List.length_append, List.length_singleton]
      rw [if_pos (by omega), show 0 + p + (i - (0 + (p + 1))) = i - 1 by omega, List.getD_eq_getElem?_getD, List.getD_eq_getElem?_getD, List.getElem?_append_left (by omega)]
end Go.Proofs.YtfiljdbmhegjgaaGreatDoor
namespace Go.Proofs.YtfiljdbmhegjgaaGreatDoor
open Go Go.TA
/-! ## Totals -/
def withT (p : TApiPot) (x : Int) : TApiPot := ⟨p.Code, p.Year, x, p.Granted, p.Heard, p.Asked, p.Used⟩
def zeros (n : Int) : List Int := List.replicate n.toNat (0 : Int)
def newP (n : Int) (c : List UInt8) (y x : Int) : TApiPot := ⟨c, y, x, zeros n, zeros n, zeros n, zeros n⟩
def setM (t : TApiTreasury) (c : List UInt8) (y x : Int) : TApiTreasury × Int :=
  if ¬ TOk t then (zT, 1) else if ¬ good c = true then (zT, 5) else if ¬ ((0 ≤ y ∧ y ≤ 99) ∧ -1000000000000000 ≤ x ∧ x ≤ 1000000000000000) then (zT, 2) else
    if hasP t.Pots c y = true then (putP t c y (withT (potAt t c y) x), 0) else if t.Pots.length = 60 then (zT, 3)
    else (⟨t.Offices, insL t.Pots (posP t.Pots (newP t.Offices c y x)) (newP t.Offices c y x)⟩, 0)
theorem insL_at {l : List TApiPot} {p : Nat} {z : TApiPot} (hp : p ≤ l.length) : (insL l p z).getD p default = z := by
  rw [insL_get hp, if_neg (Nat.lt_irrefl p), if_pos rfl]
theorem insL_set {l : List TApiPot} {p : Nat} {z r : TApiPot} (hp : p ≤ l.length) : (insL l p z).set p r = insL l p r := by
  refine List.ext_getElem (by simp [insL_length]) fun i h1 h2 => ?_
  have hi : i < l.length + 1 := by rw [insL_length] at h2; exact h2
  rw [List.getElem_set]
  by_cases e : p = i
  · subst e; rw [if_pos rfl, ← getD_el h2, insL_at hp]
  · rw [if_neg e, ← getD_el h2, ← getD_el (by rw [insL_length]; omega), insL_get hp, insL_get hp]
    split
    · rfl
    · rw [if_neg fun h => e h.symm, if_neg fun h => e h.symm]
theorem TOk.srt {t : TApiTreasury} (h : TOk t) : Srt t.Pots := fun i hi => by
  rcases Nat.eq_zero_or_pos i with h0 | h0
  · exact .inl h0
  · exact .inr ((h.2.2 i hi).2 h0)
theorem TOk.good {t : TApiTreasury} (h : TOk t) : ∀ p ∈ t.Pots, PGood p := fun p hp => by
  obtain ⟨i, hi, rfl⟩ := mem_getD hp
  exact ⟨(h.2.2 i hi).1.1, trivial⟩
theorem Set_eq {t : TApiTreasury} (hs : Small t) {c : List UInt8} (hc : c.length ≤ 1000000) (y x : Int) : F_rights_Set t c y x = some (setM t c y x) := by
  simp only [F_rights_Set, S_rights_Set, Scr.den, Valid_eq hs, Parts_eq (l := c) (by omega), place_eq hc, rights_among_eq, obind, cond_or]
  unfold setM
  by_cases h1 : TOk t
  · rw [if_neg (show ¬ (!decide (TOk t)) = true by rw [decide_eq_true h1]; simp), if_neg (show ¬ ¬ TOk t from fun h => h h1)]
    have hg := good_parts c
    by_cases h2 : good c = true
    · rw [h2, decide_eq_true_eq] at hg
      rw [if_neg (show ¬ (((parts c).length : Int) == 0) = true by simp only [beq_iff_eq]; omega), if_neg (show ¬ ¬ good c = true from fun h => h h2)]
      by_cases h3 : 0 ≤ y ∧ y ≤ 99
      · rw [h2, decide_eq_true h3, optD_pos (by exact ⟨rfl, trivial⟩)]
        simp only [obind]
        by_cases h4 : -1000000000000000 ≤ x ∧ x ≤ 1000000000000000
        · rw [if_neg (by rw [decide_eq_true h4]; simp), if_neg (show ¬ ¬ ((0 ≤ y ∧ y ≤ 99) ∧ -1000000000000000 ≤ x ∧ x ≤ 1000000000000000) from fun h => h ⟨h3, h4⟩)]
          have l0 := h1.2.1
          have e0 := h1.1
          have hr : PGood (⟨c, y, 0, [], [], [], []⟩ : TApiPot) := ⟨h2, trivial⟩
          obtain ⟨k1, k2⟩ := has_pos h1.srt h1.good hr
          have hp := posP_le t.Pots (⟨c, y, 0, [], [], [], []⟩ : TApiPot)
          rw [freshRw_eq h1.small]
          simp only [obind, bsearch_eq (show t.Pots.length ≤ 1000000 by omega) h1.srt h1.good hr, k1, Int.toNat_natCast, Nat.zero_add]
          by_cases h5 : hasP t.Pots c y = true
          · have hlt := (pix_lt h5).1
            have e := k2 h5
            rw [if_neg (show ¬ (!hasP t.Pots c y) = true by rw [h5]; simp), if_pos (show hasP t.Pots c y = true from h5)]
            simp only [outM]
            rw [← e, guardP_pos (by simp only [AllP, and_true]; exact ⟨by omega, hlt, hlt⟩), guardP_pos (by simp only [AllP, and_true, List.length_set]; omega)]
            rfl
          · rw [if_pos (show (!hasP t.Pots c y) = true by simpa using h5), if_neg (show ¬ hasP t.Pots c y = true from h5)]
            by_cases h6 : t.Pots.length = 60
            · rw [if_pos (show ((t.Pots.length : Int) == 60) = true by simp; omega), if_pos h6]
              rfl
            · rw [if_neg (show ¬ ((t.Pots.length : Int) == 60) = true by simp; omega), if_neg h6]
              have hz : PSmall (newP t.Offices c y 0) := by
                have : (zeros t.Offices).length ≤ 1000000 := by simp [zeros]; omega
                exact ⟨this, this, this, this⟩
              rw [guardP_pos (by simp only [AllP, and_true]; omega), guardP_pos (by simp only [AllP, and_true, List.length_replicate]; omega)]
              show outM ((F_rights_copied (newP t.Offices c y 0)).bind _) _ _ = _
              rw [copied_eq hz]
              simp only [obind, F_slices_Insert_Pot, Int.toNat_natCast]
              rw [guardP_pos ⟨by omega, hp, by omega⟩]
              simp only [obind, outM]
              rw [guardP_pos (by simp only [AllP, and_true, insL_length]; omega), guardP_pos (by simp only [AllP, and_true, List.length_set, insL_length]; omega), insL_at hp, insL_set hp]
              rfl
        · rw [if_pos (by rw [decide_eq_false h4]; simp), if_pos (show ¬ ((0 ≤ y ∧ y ≤ 99) ∧ -1000000000000000 ≤ x ∧ x ≤ 1000000000000000) from fun h => h4 h.2)]
      · rw [h2, decide_eq_false h3, optD_none (by simp [AllP])]
        simp only [obind]
        rw [if_pos (by rfl), if_pos (show ¬ ((0 ≤ y ∧ y ≤ 99) ∧ -1000000000000000 ≤ x ∧ x ≤ 1000000000000000) from fun h => h3 h.1)]
    · rw [Bool.not_eq_true] at h2
      rw [h2, decide_eq_false_iff_not] at hg
      rw [if_pos (show (((parts c).length : Int) == 0) = true by simp only [beq_iff_eq]; omega), if_pos (show ¬ good c = true by simp [h2])]
  · rw [if_pos (show (!decide (TOk t)) = true by rw [decide_eq_false h1]; simp), if_pos (show ¬ TOk t from h1)]
end Go.Proofs.YtfiljdbmhegjgaaGreatDoor
namespace Go.Proofs.YtfiljdbmhegjgaaGreatDoor
open Go Go.TA
theorem chk2 (c y y' : Int) : ((decide (c > 0) || (c == 0 && decide (y > y'))) = true) ↔ ¬ (c < 0 ∨ (c = 0 ∧ y ≤ y')) := by
  simp only [Bool.or_eq_true, Bool.and_eq_true, decide_eq_true_eq, beq_iff_eq]; omega
theorem r13_place {t : TApiTreasury} (h1 : TOk t) {c : List UInt8} {y x : Int} (hc : good c = true) (hn : ¬ hasP t.Pots c y = true) :
    iterM (fun s => (S_r13_Set_b1 c y (t.Offices, t.Pots) s).den) 0 = some (.next (posP t.Pots (newP t.Offices c y x) : Int)) := by
  have hl := h1.2.1
  have hp := posP_le t.Pots (newP t.Offices c y x)
  obtain ⟨s, e, hJ⟩ := iterM_inv (step := fun s => (S_r13_Set_b1 c y (t.Offices, t.Pots) s).den) (fun s => (61 - s).toNat) (fun s => 0 ≤ s ∧ s ≤ (posP t.Pots (newP t.Offices c y x) : Int)) (fun s => s = (posP t.Pots (newP t.Offices c y x) : Int)) (fun s hI => by
    obtain ⟨i, rfl⟩ := Int.eq_ofNat_of_zero_le hI.1
    have hi : i ≤ posP t.Pots (newP t.Offices c y x) := by omega
    simp only [S_r13_Set_b1, Scr.den, Int.toNat_natCast, Nat.zero_add, cond_or, cond_and]
    by_cases h : i < t.Pots.length
    · have hg := (h1.good _ (getD_mem h)).1
      rw [if_pos (by simp; omega), r03_Compare_eq hg hc, obind, guardP_pos ⟨by omega, h, h, trivial⟩, guardP_pos ⟨fun _ => by omega, fun _ => h, fun _ => h, trivial⟩]
      have hcm : cmpP (t.Pots.getD i default) (newP t.Offices c y x) < 0 ↔ lexC (parts (t.Pots.getD i default).Code) (parts c) < 0 ∨ (lexC (parts (t.Pots.getD i default).Code) (parts c) = 0 ∧ (t.Pots.getD i default).Year < y) := cmpP_lt (a := t.Pots.getD i default) (b := newP t.Offices c y x) (.inl hg)
      have hne : ¬ (lexC (parts (t.Pots.getD i default).Code) (parts c) = 0 ∧ (t.Pots.getD i default).Year = y) := fun k =>
        hn (has_iff.2 ⟨_, getD_mem h, parts_inj hg hc (lexC_eq k.1), k.2⟩)
      by_cases hip : i < posP t.Pots (newP t.Offices c y x)
      · left
        have hlt := hcm.1 (posP_lt hip)
        rw [if_neg fun k => (chk2 _ _ _).1 k (hlt.imp id fun k => ⟨k.1, Int.le_of_lt k.2⟩), wrapId (by omega) (by omega)]
        exact ⟨_, rfl, ⟨by omega, by omega⟩, by omega⟩
      · right
        have hge : ¬ cmpP (t.Pots.getD i default) (newP t.Offices c y x) < 0 := by
          have : i = posP t.Pots (newP t.Offices c y x) := by omega
          subst this; exact Int.not_lt.2 (posP_at h)
        rw [if_pos ((chk2 _ _ _).2 fun k => hge (hcm.2 (k.imp id fun k => ⟨k.1, Int.lt_iff_le_and_ne.2 ⟨k.2, fun e => hne ⟨k.1, e⟩⟩⟩)))]
        exact ⟨_, rfl, by omega⟩
    · right
      rw [if_neg (by simpa using h)]
      exact ⟨_, rfl, by omega⟩) _ 0 (Nat.lt_succ_self _) ⟨by omega, by omega⟩
  rw [e, hJ]
theorem r13_Set_eq {t : TApiTreasury} (hs : Small t) {c : List UInt8} (hc : c.length ≤ 1000000) (y x : Int) : F_r13_Set t c y x = some (setM t c y x) := by
  simp only [F_r13_Set, S_r13_Set, Scr.den, r13_Valid_eq hs, r03_Good_eq (l := c) (by omega), at_eq, obind, cond_or]
  unfold setM
  by_cases h1 : TOk t
  · rw [if_neg (show ¬ (!decide (TOk t)) = true by rw [decide_eq_true h1]; simp), if_neg (show ¬ ¬ TOk t from fun h => h h1)]
    by_cases h2 : good c = true
    · rw [if_neg (show ¬ (!good c) = true by rw [h2]; simp), if_neg (show ¬ ¬ good c = true from fun h => h h2)]
      by_cases h3 : (0 ≤ y ∧ y ≤ 99) ∧ -1000000000000000 ≤ x ∧ x ≤ 1000000000000000
      · have hb : (decide (y < 0) || decide (y > 99) || decide (x < -1000000000000000) || decide (x > 1000000000000000)) = false := by
          simp only [Bool.or_eq_false_iff, decide_eq_false_iff_not]; omega
        rw [if_neg (by rw [hb]; simp), if_neg (show ¬ ¬ ((0 ≤ y ∧ y ≤ 99) ∧ -1000000000000000 ≤ x ∧ x ≤ 1000000000000000) from fun h => h h3), r13_copiedRw_eq h1.small]
        simp only [obind]
        have l0 := h1.2.1
        have e0 := h1.1
        by_cases h5 : hasP t.Pots c y = true
        · have hlt := (pix_lt h5).1
          simp only [h5, if_true, Int.toNat_natCast, Nat.zero_add]
          rw [if_pos (decide_eq_true (Int.natCast_nonneg _)), guardP_pos (by simp only [AllP, and_true]; exact ⟨by omega, hlt, hlt⟩), guardP_pos (by simp only [AllP, and_true, List.length_set]; omega)]
          rfl
        · simp only [h5, if_false, Bool.false_eq_true]
          rw [if_neg (by decide)]
          by_cases h6 : t.Pots.length = 60
          · rw [if_pos (show ((t.Pots.length : Int) == 60) = true by simp; omega), if_pos h6]
          · rw [if_neg (show ¬ ((t.Pots.length : Int) == 60) = true by simp; omega), if_neg h6, guardP_pos (by simp only [AllP, and_true]; omega), r13_place (x := x) h1 h2 h5]
            have hp := posP_le t.Pots (newP t.Offices c y x)
            simp only [outM, Int.toNat_natCast]
            have hw : IntKind.i64.wrap ((posP t.Pots (newP t.Offices c y x) : Int) + 1) = ((posP t.Pots (newP t.Offices c y x) + 1 : Nat) : Int) := by rw [wrapId (by omega) (by omega)]; rfl
            rw [hw]
            simp only [Int.toNat_natCast]
            rw [guardP_pos (by simp only [AllP, and_true]; omega), guardP_pos (by simp only [AllP, and_true, List.length_append, List.length_singleton]; omega), guardP_pos (by simp only [AllP, and_true, copyL_length, List.length_append, List.length_singleton]; omega),
              guardP_pos (by simp only [AllP, and_true, List.length_set, copyL_length, List.length_append, List.length_singleton]; omega)]
            show some ((⟨t.Offices, (copyL (t.Pots ++ [_]) _ _ _).set _ (newP t.Offices c y x)⟩ : TApiTreasury), (0 : Int)) = _
            rw [copy_ins t.Pots _ hp _ (newP t.Offices c y x)]
      · have hb : (decide (y < 0) || decide (y > 99) || decide (x < -1000000000000000) || decide (x > 1000000000000000)) = true := by
          simp only [Bool.or_eq_true, decide_eq_true_eq]; omega
        rw [if_pos hb, if_pos (show ¬ ((0 ≤ y ∧ y ≤ 99) ∧ -1000000000000000 ≤ x ∧ x ≤ 1000000000000000) from h3)]
    · rw [if_pos (show (!good c) = true by simpa using h2), if_pos (show ¬ good c = true from h2)]
  · rw [if_pos (show (!decide (TOk t)) = true by rw [decide_eq_false h1]; simp), if_pos (show ¬ TOk t from h1)]
end Go.Proofs.YtfiljdbmhegjgaaGreatDoor
namespace Go.Proofs.YtfiljdbmhegjgaaGreatDoor
open Go Go.TA
/-! ## Valid stays valid -/
theorem getD_setP {l : List TApiPot} {i j : Nat} {x : TApiPot} (hj : j < l.length) : (l.set i x).getD j default = if j = i then x else l.getD j default := by
  rw [List.getD_eq_getElem?_getD, List.getElem?_set]
  by_cases h : i = j
  · subst h; simp [hj]
  · rw [if_neg h, if_neg fun e => h e.symm, List.getD_eq_getElem?_getD]
theorem cmpP_cong {a a' b b' : TApiPot} (h1 : a.Code = a'.Code) (h2 : a.Year = a'.Year) (h3 : b.Code = b'.Code) (h4 : b.Year = b'.Year) : cmpP a b = cmpP a' b' := by
  simp only [cmpP, h1, h2, h3, h4]
theorem put_ok {t : TApiTreasury} (h : TOk t) {c : List UInt8} {y : Int} (hp : hasP t.Pots c y = true) {p : TApiPot} (hk : PotOk t.Offices p) (hc : p.Code = c) (hy : p.Year = y) : TOk (putP t c y p) := by
  obtain ⟨k1, k2, k3⟩ := pix_lt hp
  refine ⟨h.1, by simpa [putP] using h.2.1, fun i hi => ?_⟩
  have hi' : i < t.Pots.length := by simpa [putP] using hi
  have same : ∀ j, j < t.Pots.length → ((t.Pots.set (pix t.Pots c y) p).getD j default).Code = (t.Pots.getD j default).Code ∧ ((t.Pots.set (pix t.Pots c y) p).getD j default).Year = (t.Pots.getD j default).Year := fun j hj => by
    rw [getD_setP hj]
    by_cases e : j = pix t.Pots c y
    · subst e; rw [if_pos rfl]; exact ⟨hc.trans k2.symm, hy.trans k3.symm⟩
    · rw [if_neg e]; exact ⟨rfl, rfl⟩
  constructor
  · show PotOk t.Offices ((t.Pots.set (pix t.Pots c y) p).getD i default)
    rw [getD_setP hi']
    split
    · exact hk
    · exact (h.2.2 i hi').1
  · intro h0
    show cmpP ((t.Pots.set (pix t.Pots c y) p).getD (i - 1) default) ((t.Pots.set (pix t.Pots c y) p).getD i default) < 0
    rw [cmpP_cong (same (i - 1) (by omega)).1 (same (i - 1) (by omega)).2 (same i hi').1 (same i hi').2]
    exact (h.2.2 i hi').2 h0
theorem potAt_cy {t : TApiTreasury} {c : List UInt8} {y : Int} (hp : hasP t.Pots c y = true) : (potAt t c y).Code = c ∧ (potAt t c y).Year = y := (pix_lt hp).2
theorem tot_zero : tot 0 := ⟨by omega, by omega⟩
theorem row_zeros {n : Int} (h : 0 ≤ n) : rowOk n (zeros n) := ⟨by simp [zeros]; omega, fun x hx => by rw [List.eq_of_mem_replicate hx]; exact tot_zero⟩
theorem upd_row {n : Int} {l : List Int} (h : rowOk n l) {k x : Int} (hx : tot x) : rowOk n (upd l k x) :=
  ⟨by rw [upd_length]; exact h.1, fun z hz => by
    rcases List.mem_or_eq_of_mem_set hz with h1 | h1
    · exact h.2 z h1
    · subst h1; exact hx⟩
theorem upd_get {l : List Int} {k x : Int} {j : Nat} (hj : j < l.length) : (upd l k x).getD j default = if j = (k - 1).toNat then x else l.getD j default := getD_set_int hj
theorem ask_ok {t : TApiTreasury} {k : Int} {c : List UInt8} {y x : Int} (h : (askM t k c y x).2 = 0) : TOk t ∧ TOk (askM t k c y x).1 := by
  unfold askM at h ⊢
  by_cases h1 : TOk t
  · simp only [show ¬ ¬ TOk t from fun h => h h1, if_false] at h ⊢
    by_cases h2 : hasP t.Pots c y = true
    · simp only [show ¬ ¬ hasP t.Pots c y = true from fun h => h h2, if_false] at h ⊢
      by_cases h3 : 1 ≤ k ∧ k ≤ t.Offices
      · simp only [show ¬ ¬ (1 ≤ k ∧ k ≤ t.Offices) from fun h => h h3, if_false] at h ⊢
        by_cases h4 : 1 ≤ x ∧ x ≤ 1000000000000000
        · simp only [show ¬ ¬ (1 ≤ x ∧ x ≤ 1000000000000000) from fun h => h h4, if_false] at h ⊢
          by_cases h5 : nth (potAt t c y).Granted k < nth (potAt t c y).Asked k + x
          · rw [if_pos h5] at h; cases h
          · rw [if_neg h5]
            have hp := h1.potAt h2
            have hcy := potAt_cy h2
            obtain ⟨g1, g2, g3, ⟨r1, r2, r3, r4⟩, ⟨o1, o2⟩, g6⟩ := hp
            have a1 := nth_tot r3 h3
            have a2 := nth_tot r1 h3
            unfold tot at a1 a2
            refine ⟨h1, put_ok h1 h2 (p := withA (potAt t c y) (upd (potAt t c y).Asked k (nth (potAt t c y).Asked k + x))) ⟨g1, g2, g3, ⟨r1, r2, upd_row r3 ⟨by omega, by omega⟩, r4⟩, ⟨o1, fun i hi => ?_⟩, g6⟩ hcy.1 hcy.2⟩
            have hi' : i < (potAt t c y).Asked.length := by have := r1.1; have := r3.1; have : i < (potAt t c y).Granted.length := hi; omega
            show (upd (potAt t c y).Asked k (nth (potAt t c y).Asked k + x)).getD i default ≤ (potAt t c y).Granted.getD i default
            rw [upd_get hi']
            split
            · rename_i e
              subst e
              exact Int.not_lt.1 h5
            · exact o2 i hi
        · simp only [h4, not_false_eq_true, if_true] at h; cases h
      · simp only [h3, not_false_eq_true, if_true] at h; cases h
    · simp only [h2, not_false_eq_true, if_true, Bool.false_eq_true] at h; cases h
  · simp only [h1, not_false_eq_true, if_true] at h; cases h
theorem hear_ok {t : TApiTreasury} {m : TApiMessage} (h : (hearM t m).2 = 0) : TOk t ∧ TOk (hearM t m).1 := by
  unfold hearM at h ⊢
  by_cases h0 : m.To = 0
  · simp only [show ¬ m.To ≠ 0 from fun h => h h0, if_false] at h ⊢
    by_cases h1 : TOk t
    · simp only [show ¬ ¬ TOk t from fun h => h h1, if_false] at h ⊢
      by_cases h2 : hasP t.Pots m.Code m.Year = true
      · simp only [show ¬ ¬ hasP t.Pots m.Code m.Year = true from fun h => h h2, if_false] at h ⊢
        by_cases h3 : 1 ≤ m.From ∧ m.From ≤ t.Offices
        · simp only [show ¬ ¬ (1 ≤ m.From ∧ m.From ≤ t.Offices) from fun h => h h3, if_false] at h ⊢
          by_cases h4 : (0 ≤ m.Returned ∧ m.Returned ≤ nth (potAt t m.Code m.Year).Granted m.From) ∧ tot m.Used
          · simp only [show ¬ ¬ ((0 ≤ m.Returned ∧ m.Returned ≤ nth (potAt t m.Code m.Year).Granted m.From) ∧ tot m.Used) from fun h => h h4, if_false] at h ⊢
            have hp := h1.potAt h2
            have hcy := potAt_cy h2
            obtain ⟨g1, g2, g3, ⟨r1, r2, r3, r4⟩, ⟨o1, o2⟩, g6⟩ := hp
            have a1 := nth_tot r2 h3
            have a2 := nth_tot r1 h3
            have l1 := r1.1
            have l2 := r2.1
            unfold tot at a1 a2
            have hle : nth (potAt t m.Code m.Year).Heard m.From ≤ nth (potAt t m.Code m.Year).Granted m.From := o1 _ (by omega)
            refine ⟨h1, put_ok h1 h2 (p := withH (potAt t m.Code m.Year) (upd (potAt t m.Code m.Year).Heard m.From (max (nth (potAt t m.Code m.Year).Heard m.From) m.Returned)) (upd (potAt t m.Code m.Year).Used m.From m.Used))
              ⟨g1, g2, g3, ⟨r1, upd_row r2 ⟨by omega, by omega⟩, r3, upd_row r4 h4.2⟩, ⟨fun i hi => ?_, o2⟩, g6⟩ hcy.1 hcy.2⟩
            have hi' : i < (potAt t m.Code m.Year).Heard.length := by have : i < (potAt t m.Code m.Year).Granted.length := hi; omega
            show (upd (potAt t m.Code m.Year).Heard m.From _).getD i default ≤ (potAt t m.Code m.Year).Granted.getD i default
            rw [upd_get hi']
            split
            · rename_i e
              subst e
              show max (nth (potAt t m.Code m.Year).Heard m.From) m.Returned ≤ nth (potAt t m.Code m.Year).Granted m.From
              omega
            · exact o1 i hi
          · simp only [h4, not_false_eq_true, if_true] at h; cases h
        · simp only [h3, not_false_eq_true, if_true] at h; cases h
      · simp only [h2, not_false_eq_true, if_true, Bool.false_eq_true] at h; cases h
    · simp only [h1, not_false_eq_true, if_true] at h; cases h
  · rw [if_pos (show m.To ≠ 0 from h0)] at h; cases h
end Go.Proofs.YtfiljdbmhegjgaaGreatDoor
namespace Go.Proofs.YtfiljdbmhegjgaaGreatDoor
open Go Go.TA
theorem ins_ok {t : TApiTreasury} (h : TOk t) {r : TApiPot} (hr : PotOk t.Offices r) (hn : ¬ hasP t.Pots r.Code r.Year = true) (hl : t.Pots.length ≠ 60) : TOk ⟨t.Offices, insL t.Pots (posP t.Pots r) r⟩ := by
  have hp := posP_le t.Pots r
  have l0 := h.2.1
  refine ⟨h.1, by show (insL t.Pots (posP t.Pots r) r).length ≤ 60; rw [insL_length]; omega, fun i hi => ?_⟩
  have hi' : i < t.Pots.length + 1 := by have : i < (insL t.Pots (posP t.Pots r) r).length := hi; rwa [insL_length] at this
  show PotOk t.Offices ((insL t.Pots (posP t.Pots r) r).getD i default) ∧ (0 < i → cmpP ((insL t.Pots (posP t.Pots r) r).getD (i - 1) default) ((insL t.Pots (posP t.Pots r) r).getD i default) < 0)
  rw [insL_get hp, insL_get hp]
  by_cases c1 : i < posP t.Pots r
  · rw [if_pos c1, if_pos (show i - 1 < posP t.Pots r by omega)]
    exact h.2.2 i (by omega)
  · by_cases c2 : i = posP t.Pots r
    · rw [if_neg c1, if_pos c2]
      refine ⟨hr, fun h0 => ?_⟩
      rw [if_pos (show i - 1 < posP t.Pots r by omega)]
      exact posP_lt (by omega)
    · rw [if_neg c1, if_neg c2]
      have hi2 : i - 1 < t.Pots.length := by omega
      refine ⟨(h.2.2 (i - 1) hi2).1, fun h0 => ?_⟩
      by_cases c3 : i - 1 = posP t.Pots r
      · rw [if_neg (show ¬ i - 1 < posP t.Pots r by omega), if_pos c3]
        have hg := (h.good _ (getD_mem hi2)).1
        have h1 : 0 ≤ cmpP (t.Pots.getD (i - 1) default) r := by rw [c3]; exact posP_at (by omega)
        have h2 : cmpP (t.Pots.getD (i - 1) default) r ≠ 0 := fun e => hn (has_iff.2 ⟨_, getD_mem hi2, (cmpP_eq hg hr.1).1 e⟩)
        rw [cmpP_anti hg]
        omega
      · rw [if_neg (show ¬ i - 1 < posP t.Pots r by omega), if_neg c3]
        exact (h.2.2 (i - 1) hi2).2 (by omega)
theorem newP_ok {n : Int} (hn : 1 ≤ n) {c : List UInt8} {y x : Int} (hc : good c = true) (hy : 0 ≤ y ∧ y ≤ 99) (hx : -1000000000000000 ≤ x ∧ x ≤ 1000000000000000) : PotOk n (newP n c y x) := by
  have hz := row_zeros (n := n) (by omega)
  refine ⟨hc, hy, hx, ⟨hz, hz, hz, hz⟩, ⟨fun i _ => Int.le_refl _, fun i _ => Int.le_refl _⟩, ?_⟩
  have := sum_tot (l := zeros n) hz.2
  have e : (zeros n).sum = 0 := by simp [zeros]
  show (zeros n).sum ≤ _
  omega
theorem set_ok {t : TApiTreasury} {c : List UInt8} {y x : Int} (h : (setM t c y x).2 = 0) : TOk t ∧ TOk (setM t c y x).1 := by
  unfold setM at h ⊢
  by_cases h1 : TOk t
  · simp only [show ¬ ¬ TOk t from fun h => h h1, if_false] at h ⊢
    by_cases h2 : good c = true
    · simp only [show ¬ ¬ good c = true from fun h => h h2, if_false] at h ⊢
      by_cases h3 : (0 ≤ y ∧ y ≤ 99) ∧ -1000000000000000 ≤ x ∧ x ≤ 1000000000000000
      · simp only [show ¬ ¬ ((0 ≤ y ∧ y ≤ 99) ∧ -1000000000000000 ≤ x ∧ x ≤ 1000000000000000) from fun h => h h3, if_false] at h ⊢
        by_cases h5 : hasP t.Pots c y = true
        · rw [if_pos h5]
          have hcy := potAt_cy h5
          obtain ⟨g1, g2, g3, g4, g5, g6⟩ := h1.potAt h5
          exact ⟨h1, put_ok h1 h5 (p := withT (potAt t c y) x) ⟨g1, g2, h3.2, g4, g5, g6⟩ hcy.1 hcy.2⟩
        · rw [if_neg h5] at h ⊢
          by_cases h6 : t.Pots.length = 60
          · rw [if_pos h6] at h; cases h
          · rw [if_neg h6]
            exact ⟨h1, ins_ok h1 (newP_ok h1.1.1 h2 h3.1 h3.2) h5 h6⟩
      · rw [if_pos h3] at h; cases h
    · rw [if_pos (show ¬ good c = true from h2)] at h; cases h
  · rw [if_pos h1] at h; cases h
/-! ## Grants keep it valid -/
theorem sum_addN {G a : List Int} (hl : a.length = G.length) : (addN G a a.length).sum = G.sum + a.sum := by
  have e : addN G a a.length = List.zipWith (· + ·) G a := getD_ext (by simp [addN_length]; omega) fun j hj => by
    have hj' : j < G.length := by simpa [addN_length] using hj
    rw [addN_get hj', if_pos (by omega), getD_of (show j < (List.zipWith (· + ·) G a).length by rw [List.length_zipWith]; omega), List.getElem_zipWith, getD_of hj', getD_of (by omega)]
  rw [e]
  clear e
  induction G generalizing a with
  | nil => cases a with | nil => rfl | cons _ _ => simp at hl
  | cons x G ih => cases a with
    | nil => simp at hl
    | cons z a =>
      simp only [List.zipWith_cons_cons, List.sum_cons]
      rw [ih (by simpa using hl)]
      omega
theorem mem_le_sum {l : List Int} (h : ∀ x ∈ l, 0 ≤ x) : ∀ x ∈ l, x ≤ l.sum := by
  induction l with
  | nil => simp
  | cons z l ih =>
    have h0 : 0 ≤ l.sum := by
      clear ih
      induction l with
      | nil => simp
      | cons w l ih2 =>
        have := h w (by simp)
        have := ih2 fun x hx => h x (by rcases List.mem_cons.1 hx with e | e <;> simp [e])
        simp only [List.sum_cons]; omega
    intro x hx
    have hz := h z (by simp)
    simp only [List.sum_cons]
    rcases List.mem_cons.1 hx with rfl | hx
    · omega
    · have := ih (fun y hy => h y (by simp [hy])) x hx
      omega
theorem give_ok {n : Int} {p : TApiPot} (h : PotOk n p) {a : List Int} (ha : ∀ x ∈ a, tot x) (hl : a.length = p.Granted.length) (h0 : (giveV p.Total p a).1 = 0) :
    (giveV p.Total p a).2 = addN p.Granted a a.length ∧ PotOk n (withG p (giveV p.Total p a).2) ∧ a.sum ≤ p.Total - outV p := by
  unfold giveV at h0 ⊢
  by_cases c1 : p.Total - outV p < a.sum
  · rw [if_pos c1] at h0; cases h0
  · rw [if_neg c1] at h0 ⊢
    by_cases c2 : 1000000000000000 < p.Granted.sum + a.sum
    · rw [if_pos c2] at h0; cases h0
    · rw [if_neg c2]
      obtain ⟨g1, g2, g3, ⟨r1, r2, r3, r4⟩, ⟨o1, o2⟩, g6⟩ := h
      have hs := sum_addN (G := p.Granted) hl
      have hge : ∀ j, j < p.Granted.length → p.Granted.getD j default ≤ (addN p.Granted a a.length).getD j default ∧ 0 ≤ (addN p.Granted a a.length).getD j default := fun j hj => by
        have t1 := r1.2 _ (getD_mem hj)
        have t2 := ha _ (getD_mem (show j < a.length by omega))
        unfold tot at t1 t2
        rw [addN_get hj, if_pos (by omega)]
        omega
      have hpos : ∀ x ∈ addN p.Granted a a.length, 0 ≤ x := fun x hx => by
        obtain ⟨j, hj, rfl⟩ := mem_getD hx
        exact (hge j (by rwa [addN_length] at hj)).2
      refine ⟨rfl, ⟨g1, g2, g3, ⟨⟨by show ((addN p.Granted a a.length).length : Int) = n; rw [addN_length]; exact r1.1, fun x hx => ⟨hpos x hx, ?_⟩⟩, r2, r3, r4⟩, ⟨fun i hi => ?_, fun i hi => ?_⟩, ?_⟩, by omega⟩
      · have := mem_le_sum hpos x hx
        omega
      · have hi' : i < p.Granted.length := by have : i < (addN p.Granted a a.length).length := hi; rwa [addN_length] at this
        exact Int.le_trans (o1 i hi') (hge i hi').1
      · have hi' : i < p.Granted.length := by have : i < (addN p.Granted a a.length).length := hi; rwa [addN_length] at this
        exact Int.le_trans (o2 i hi') (hge i hi').1
      · show (addN p.Granted a a.length).sum ≤ _
        omega
theorem grant_ok {t : TApiTreasury} {k : Int} {c : List UInt8} {y x : Int} (h : (grantM t k c y x).2 = 0) : TOk t ∧ TOk (grantM t k c y x).1 := by
  unfold grantM at h ⊢
  by_cases h1 : TOk t
  · simp only [show ¬ ¬ TOk t from fun h => h h1, if_false] at h ⊢
    by_cases h2 : hasP t.Pots c y = true
    · simp only [show ¬ ¬ hasP t.Pots c y = true from fun h => h h2, if_false] at h ⊢
      by_cases h3 : 1 ≤ k ∧ k ≤ t.Offices
      · simp only [show ¬ ¬ (1 ≤ k ∧ k ≤ t.Offices) from fun h => h h3, if_false] at h ⊢
        by_cases h4 : 1 ≤ x ∧ x ≤ 1000000000000000
        · simp only [show ¬ ¬ (1 ≤ x ∧ x ≤ 1000000000000000) from fun h => h h4, if_false] at h ⊢
          by_cases h5 : (giveV (potAt t c y).Total (potAt t c y) (oneHot (potAt t c y).Granted.length (k - 1).toNat x)).1 = 0
          · rw [if_neg (show ¬ _ ≠ _ from fun h => h h5)]
            have hcy := potAt_cy h2
            exact ⟨h1, put_ok h1 h2 (give_ok (h1.potAt h2) (oneHot_tot h4) oneHot_length h5).2.1 hcy.1 hcy.2⟩
          · rw [if_pos h5] at h; exact absurd h h5
        · simp only [h4, not_false_eq_true, if_true] at h; cases h
      · simp only [h3, not_false_eq_true, if_true] at h; cases h
    · simp only [h2, not_false_eq_true, if_true, Bool.false_eq_true] at h; cases h
  · simp only [h1, not_false_eq_true, if_true] at h; cases h
end Go.Proofs.YtfiljdbmhegjgaaGreatDoor
namespace Go.Proofs.YtfiljdbmhegjgaaGreatDoor
open Go Go.TA
/-! ## The division -/
end Go.Proofs.YtfiljdbmhegjgaaGreatDoor
namespace Go.Proofs.YtfiljdbmhegjgaaGreatDoor
open Go Go.TA
theorem st {α : Type} {c : Bool} {P : Prop} {_ : Decidable P} {x y : Option α} {a b : α} (h : c = true ↔ P) (hx : P → x = some a) (hy : ¬ P → y = some b) : (if c = true then x else y) = some (if P then a else b) := by
  by_cases hp : P
  · rw [if_pos (h.mpr hp), if_pos hp, hx hp]
  · rw [if_neg (fun hc => hp (h.mp hc)), if_neg hp, hy hp]
/-! ## Rights -/
/-! ## The tape -/
def TapeOk (s : TTape) : Prop := 0 ≤ s.at_ ∧ s.l.length ≤ 500 ∧ s.at_ ≤ s.l.length
theorem New_spec (t : List Int) : ∃ s, F_mk_New t = some s ∧ TapeOk s := by
  simp only [F_mk_New, S_mk_New, Scr.den]
  refine ⟨_, guardP_ok ⟨?_, ?_, trivial⟩ rfl, by simp, ?_, by simp⟩
  · split <;> omega
  · split <;> omega
  · simp only [List.length_take]
    split <;> omega
theorem N_spec {n : Int} {s : TTape} (hs : TapeOk s) (h1 : 1 ≤ n) (hn : n ≤ 4611686018427387904) : ∃ v s', F_mk_Tape_N n s = some (v, s') ∧ TapeOk s' ∧ 0 ≤ v ∧ v < n := by
  obtain ⟨a1, a2, a3⟩ := hs
  simp only [F_mk_Tape_N, S_mk_Tape_N, Scr.den]
  by_cases hc : s.at_ ≥ (s.l.length : Int)
  · rw [if_pos (by simp [hc])]
    exact ⟨0, s, rfl, ⟨a1, a2, a3⟩, by omega, by omega⟩
  · rw [if_neg (by simp; omega)]
    have e1 : IntKind.i64.wrap (s.at_ + 1) = s.at_ + 1 := wrapId (by omega) (by omega)
    rw [e1, guardP_pos ⟨by omega, by omega, by omega, trivial⟩]
    generalize s.l.getD s.at_.toNat default = x
    have t1 : x.tmod n < n := Int.tmod_lt_of_pos x (by omega)
    have t2 : -n < x.tmod n := Int.lt_tmod_of_pos x (by omega)
    have e3 : IntKind.i64.wrap (x.tmod n + n) = x.tmod n + n := wrapId (by omega) (by omega)
    rw [e3]
    have ht : TapeOk ⟨s.l, s.at_ + 1⟩ := ⟨by simp only; omega, a2, by simp only; omega⟩
    split
    · rename_i h
      simp only [decide_eq_true_eq] at h
      exact ⟨_, _, rfl, ht, by omega, by omega⟩
    · rename_i h
      simp only [decide_eq_true_eq] at h
      exact ⟨_, _, rfl, ht, by omega, by omega⟩
theorem Range_spec {lo hi : Int} {s : TTape} (hs : TapeOk s) (h0 : -1000000000000000 ≤ lo) (h1 : lo ≤ hi) (h2 : hi ≤ 1000000000000000) : ∃ v s', F_mk_Tape_Range lo hi s = some (v, s') ∧ TapeOk s' ∧ lo ≤ v ∧ v ≤ hi := by
  simp only [F_mk_Tape_Range, S_mk_Tape_Range, Scr.den]
  rw [wrapId (n := hi - lo) (by omega) (by omega), wrapId (n := hi - lo + 1) (by omega) (by omega)]
  obtain ⟨v, s', h3, h4, h5, h6⟩ := N_spec (n := hi - lo + 1) hs (by omega) (by omega)
  refine ⟨lo + v, s', ?_, h4, by omega, by omega⟩
  rw [h3, obind]
  simp only
  rw [wrapId (n := lo + v) (by omega) (by omega)]
theorem Pick_spec {l : List Int} {s : TTape} (hs : TapeOk s) (h0 : 1 ≤ l.length) (h1 : l.length ≤ 100) : ∃ v s', F_mk_Tape_Pick l s = some (v, s') ∧ TapeOk s' ∧ v ∈ l := by
  simp only [F_mk_Tape_Pick, S_mk_Tape_Pick, Scr.den]
  obtain ⟨v, s', h3, h4, h5, h6⟩ := N_spec (n := (l.length : Int)) hs (by omega) (by omega)
  refine ⟨_, s', ?_, h4, getD_mem (show v.toNat < l.length by omega)⟩
  rw [h3, obind, guardP_pos ⟨by simpa using h5, by simp only; omega, trivial⟩]
theorem PotCode_spec {s : TTape} (hs : TapeOk s) : ∃ c s', F_mk_PotCode s = some (c, s') ∧ TapeOk s' ∧ c.length ≤ 60 ∧ good c = true := by
  simp only [F_mk_PotCode, S_mk_PotCode, Scr.den]
  obtain ⟨v, s', h3, h4, h5, h6⟩ := N_spec (n := 3) hs (by omega) (by omega)
  have h : ∀ c ∈ ([[49], [49, 46, 50], [50]] : List (List UInt8)), c.length ≤ 60 ∧ good c = true := by decide
  refine ⟨_, s', ?_, h4, h _ (getD_mem (show v.toNat < 3 by omega))⟩
  rw [h3, obind, guardP_pos ⟨by simpa using h5, by simp only; omega, trivial⟩]
end Go.Proofs.YtfiljdbmhegjgaaGreatDoor
namespace Go.Proofs.YtfiljdbmhegjgaaGreatDoor
open Go Go.TA
/-! ## The example -/
def xP (n : Int) (g h a u : List Int) : TApiPot := ⟨[49], 12, n, g, h, a, u⟩
def xT (p : TApiPot) : TApiTreasury := ⟨2, [p]⟩
theorem a1 : setM ⟨2, []⟩ [49] 12 100 = (xT (xP 100 [0, 0] [0, 0] [0, 0] [0, 0]), 0) := by kernel_rfl
theorem a2 : divideM (xT (xP 100 [0, 0] [0, 0] [0, 0] [0, 0])) [49] 12 [60, 40] = (xT (xP 100 [60, 40] [0, 0] [0, 0] [0, 0]), 0) := by kernel_rfl
theorem a3 : setM (xT (xP 100 [60, 40] [0, 0] [0, 0] [0, 0])) [49] 12 90 = (xT (xP 90 [60, 40] [0, 0] [0, 0] [0, 0]), 0) := by kernel_rfl
theorem a4 : potM (xT (xP 90 [60, 40] [0, 0] [0, 0] [0, 0])) [49] 12 = (xP 90 [60, 40] [0, 0] [0, 0] [0, 0], true) := by kernel_rfl
theorem a5 : askM (xT (xP 90 [60, 40] [0, 0] [0, 0] [0, 0])) 1 [49] 12 10 = (xT (xP 90 [60, 40] [0, 0] [10, 0] [0, 0]), 0) := by kernel_rfl
theorem xs (p : TApiPot) (h : p.Code = [49]) : Small (xT p) := fun q hq => by
  obtain rfl : q = p := by simpa [xT] using hq
  rw [h]; simp
end Go.Proofs.YtfiljdbmhegjgaaGreatDoor
namespace Go.Proofs.YtfiljdbmhegjgaaGreatDoor
open Go Go.TA
/-! ## Treasuries that are made -/
def Lim (t : TApiTreasury) (B : Int) : Prop := ∀ i, i < t.Pots.length → (t.Pots.getD i default).Total ≤ 2000 ∧ (t.Pots.getD i default).Granted.sum ≤ B
theorem Lim.at {t : TApiTreasury} {B : Int} (h : Lim t B) {c : List UInt8} {y : Int} (hp : hasP t.Pots c y = true) : (potAt t c y).Total ≤ 2000 ∧ (potAt t c y).Granted.sum ≤ B := h _ (pix_lt hp).1
theorem Lim.put {t : TApiTreasury} {B B' : Int} (h : Lim t B) (hB : B ≤ B') {c : List UInt8} {y : Int} {p : TApiPot} (hp : p.Total ≤ 2000 ∧ p.Granted.sum ≤ B') : Lim (putP t c y p) B' := fun i hi => by
  have hi' : i < t.Pots.length := by simpa [putP] using hi
  show ((t.Pots.set (pix t.Pots c y) p).getD i default).Total ≤ 2000 ∧ ((t.Pots.set (pix t.Pots c y) p).getD i default).Granted.sum ≤ B'
  rw [getD_setP hi']
  split
  · exact hp
  · have := h i hi'; omega
theorem Lim.mono {t : TApiTreasury} {B B' : Int} (h : Lim t B) (hB : B ≤ B') : Lim t B' := fun i hi => by have := h i hi; omega
theorem TOk.small' {t : TApiTreasury} (h : TOk t) : Small t := fun p hp => by
  have := good_len (h.good p hp).1
  omega
theorem set_lim {t : TApiTreasury} {B : Int} (hB : 0 ≤ B) (hl : Lim t B) {c : List UInt8} {y x : Int} (hx : x ≤ 2000) (h : (setM t c y x).2 = 0) :
    Lim (setM t c y x).1 B ∧ (setM t c y x).1.Offices = t.Offices ∧ (setM t c y x).1.Pots.length ≤ t.Pots.length + 1 := by
  unfold setM at h ⊢
  by_cases h1 : TOk t
  · simp only [show ¬ ¬ TOk t from fun h => h h1, if_false] at h ⊢
    by_cases h2 : good c = true
    · simp only [show ¬ ¬ good c = true from fun h => h h2, if_false] at h ⊢
      by_cases h3 : (0 ≤ y ∧ y ≤ 99) ∧ -1000000000000000 ≤ x ∧ x ≤ 1000000000000000
      · simp only [show ¬ ¬ ((0 ≤ y ∧ y ≤ 99) ∧ -1000000000000000 ≤ x ∧ x ≤ 1000000000000000) from fun h => h h3, if_false] at h ⊢
        by_cases h5 : hasP t.Pots c y = true
        · rw [if_pos h5]
          exact ⟨hl.put (Int.le_refl _) ⟨hx, (hl.at h5).2⟩, rfl, by simp [putP]⟩
        · rw [if_neg h5] at h ⊢
          by_cases h6 : t.Pots.length = 60
          · rw [if_pos h6] at h; cases h
          · rw [if_neg h6]
            have hp := posP_le t.Pots (newP t.Offices c y x)
            refine ⟨fun i hi => ?_, rfl, by show (insL _ _ _).length ≤ _; rw [insL_length]; exact Nat.le_refl _⟩
            have hi' : i < t.Pots.length + 1 := by have : i < (insL t.Pots (posP t.Pots (newP t.Offices c y x)) (newP t.Offices c y x)).length := hi; rwa [insL_length] at this
            show ((insL t.Pots (posP t.Pots (newP t.Offices c y x)) (newP t.Offices c y x)).getD i default).Total ≤ 2000 ∧ ((insL t.Pots (posP t.Pots (newP t.Offices c y x)) (newP t.Offices c y x)).getD i default).Granted.sum ≤ B
            rw [insL_get hp]
            split
            · exact hl i (by omega)
            · split
              · have e : (zeros t.Offices).sum = 0 := by simp [zeros]
                exact ⟨hx, by show (zeros t.Offices).sum ≤ B; omega⟩
              · exact hl (i - 1) (by omega)
      · rw [if_pos h3] at h; cases h
    · rw [if_pos (show ¬ good c = true from h2)] at h; cases h
  · rw [if_pos h1] at h; cases h
theorem set_fine {t : TApiTreasury} (h : TOk t) (hl : t.Pots.length < 60) {c : List UInt8} {y x : Int} (hc : good c = true) (hy : 0 ≤ y ∧ y ≤ 99) (hx : -1000000000000000 ≤ x ∧ x ≤ 1000000000000000) : (setM t c y x).2 = 0 := by
  unfold setM
  rw [if_neg (show ¬ ¬ TOk t from fun k => k h), if_neg (show ¬ ¬ good c = true from fun k => k hc), if_neg (show ¬ ¬ ((0 ≤ y ∧ y ≤ 99) ∧ -1000000000000000 ≤ x ∧ x ≤ 1000000000000000) from fun k => k ⟨hy, hx⟩)]
  split
  · rfl
  · rw [if_neg (by omega)]
theorem ask_lim {t : TApiTreasury} {B : Int} (hl : Lim t B) {k : Int} {c : List UInt8} {y x : Int} (h : (askM t k c y x).2 = 0) : Lim (askM t k c y x).1 B ∧ (askM t k c y x).1.Offices = t.Offices ∧ (askM t k c y x).1.Pots.length = t.Pots.length := by
  unfold askM at h ⊢
  by_cases h1 : TOk t
  · simp only [show ¬ ¬ TOk t from fun h => h h1, if_false] at h ⊢
    by_cases h2 : hasP t.Pots c y = true
    · simp only [show ¬ ¬ hasP t.Pots c y = true from fun h => h h2, if_false] at h ⊢
      by_cases h3 : 1 ≤ k ∧ k ≤ t.Offices
      · simp only [show ¬ ¬ (1 ≤ k ∧ k ≤ t.Offices) from fun h => h h3, if_false] at h ⊢
        by_cases h4 : 1 ≤ x ∧ x ≤ 1000000000000000
        · simp only [show ¬ ¬ (1 ≤ x ∧ x ≤ 1000000000000000) from fun h => h h4, if_false] at h ⊢
          by_cases h5 : nth (potAt t c y).Granted k < nth (potAt t c y).Asked k + x
          · rw [if_pos h5] at h; cases h
          · rw [if_neg h5]
            exact ⟨hl.put (Int.le_refl _) (hl.at h2), rfl, by simp [putP]⟩
        · rw [if_pos h4] at h; cases h
      · rw [if_pos h3] at h; cases h
    · rw [if_pos (show ¬ hasP t.Pots c y = true from h2)] at h; cases h
  · rw [if_pos h1] at h; cases h
theorem hear_lim {t : TApiTreasury} {B : Int} (hl : Lim t B) {m : TApiMessage} (h : (hearM t m).2 = 0) : Lim (hearM t m).1 B ∧ (hearM t m).1.Offices = t.Offices ∧ (hearM t m).1.Pots.length = t.Pots.length := by
  unfold hearM at h ⊢
  by_cases h0 : m.To = 0
  · rw [if_neg (show ¬ m.To ≠ 0 from fun h => h h0)] at h ⊢
    by_cases h1 : TOk t
    · rw [if_neg (show ¬ ¬ TOk t from fun h => h h1)] at h ⊢
      by_cases h2 : hasP t.Pots m.Code m.Year = true
      · rw [if_neg (show ¬ ¬ hasP t.Pots m.Code m.Year = true from fun h => h h2)] at h ⊢
        split at h
        · cases h
        · rename_i h3
          rw [if_neg h3]
          split at h
          · cases h
          · rename_i h4
            rw [if_neg h4]
            exact ⟨hl.put (Int.le_refl _) (hl.at h2), rfl, by simp [putP]⟩
      · rw [if_pos (show ¬ hasP t.Pots m.Code m.Year = true from h2)] at h; cases h
    · rw [if_pos h1] at h; cases h
  · rw [if_pos (show m.To ≠ 0 from h0)] at h; cases h
theorem sum_oneHot : ∀ {n k : Nat} {x : Int}, k < n → (oneHot n k x).sum = x
  | 0, _, _, h => by omega
  | n + 1, 0, x, _ => by simp [oneHot, List.replicate_succ]
  | n + 1, k + 1, x, h => by
    have := sum_oneHot (n := n) (k := k) (x := x) (by omega)
    simp only [oneHot] at this ⊢
    rw [List.replicate_succ, List.set_cons_succ, List.sum_cons, this]
    omega
theorem grant_lim {t : TApiTreasury} {B : Int} (hl : Lim t B) {k : Int} {c : List UInt8} {y x : Int} (h : (grantM t k c y x).2 = 0) : Lim (grantM t k c y x).1 (B + x) ∧ (grantM t k c y x).1.Offices = t.Offices ∧ (grantM t k c y x).1.Pots.length = t.Pots.length := by
  unfold grantM at h ⊢
  by_cases h1 : TOk t
  · simp only [show ¬ ¬ TOk t from fun h => h h1, if_false] at h ⊢
    by_cases h2 : hasP t.Pots c y = true
    · simp only [show ¬ ¬ hasP t.Pots c y = true from fun h => h h2, if_false] at h ⊢
      by_cases h3 : 1 ≤ k ∧ k ≤ t.Offices
      · simp only [show ¬ ¬ (1 ≤ k ∧ k ≤ t.Offices) from fun h => h h3, if_false] at h ⊢
        by_cases h4 : 1 ≤ x ∧ x ≤ 1000000000000000
        · simp only [show ¬ ¬ (1 ≤ x ∧ x ≤ 1000000000000000) from fun h => h h4, if_false] at h ⊢
          by_cases h5 : (giveV (potAt t c y).Total (potAt t c y) (oneHot (potAt t c y).Granted.length (k - 1).toNat x)).1 = 0
          · rw [if_neg (show ¬ _ ≠ _ from fun h => h h5)]
            have hg := give_ok (h1.potAt h2) (oneHot_tot h4) oneHot_length h5
            have l1 := (h1.potAt h2).2.2.2.1.1.1
            have e := sum_addN (G := (potAt t c y).Granted) (a := oneHot (potAt t c y).Granted.length (k - 1).toNat x) oneHot_length
            rw [sum_oneHot (show (k - 1).toNat < (potAt t c y).Granted.length by omega)] at e
            have hat := hl.at h2
            refine ⟨hl.put (by omega) ⟨hat.1, ?_⟩, rfl, by simp [putP]⟩
            show (giveV _ _ _).2.sum ≤ B + x
            rw [hg.1, e]
            omega
          · rw [if_pos h5] at h; exact absurd h h5
        · rw [if_pos h4] at h; cases h
      · rw [if_pos h3] at h; cases h
    · rw [if_pos (show ¬ hasP t.Pots c y = true from h2)] at h; cases h
  · rw [if_pos h1] at h; cases h
end Go.Proofs.YtfiljdbmhegjgaaGreatDoor
namespace Go.Proofs.YtfiljdbmhegjgaaGreatDoor
open Go Go.TA
theorem mk_first {k : Int} {s : TTape} {n : Int} (hs : TapeOk s) (hk : 1 ≤ k ∧ k ≤ 4) (hn : 0 ≤ n ∧ n ≤ 3) :
    ∃ s' x, iterM (fun s => (S_mk_Treasury_b1 s).den) (s, (⟨k, []⟩ : TApiTreasury), n) = some (.next (s', x, 0)) ∧ TapeOk s' ∧ TOk x ∧ x.Offices = k ∧ Lim x 0 := by
  obtain ⟨r, e, hJ⟩ := iterM_inv (step := fun s => (S_mk_Treasury_b1 s).den) (fun s : TTape × TApiTreasury × Int => s.2.2.toNat)
    (fun s => TapeOk s.1 ∧ TOk s.2.1 ∧ s.2.1.Offices = k ∧ Lim s.2.1 0 ∧ 0 ≤ s.2.2 ∧ (s.2.1.Pots.length : Int) + s.2.2 ≤ 3)
    (fun s => s.2.2 = 0 ∧ TapeOk s.1 ∧ TOk s.2.1 ∧ s.2.1.Offices = k ∧ Lim s.2.1 0) (fun st hI => by
    obtain ⟨s, x, i⟩ := st
    obtain ⟨i1, i2, i3, i4, i5, i6⟩ := hI
    simp only at i1 i2 i3 i4 i5 i6
    simp only [S_mk_Treasury_b1, Scr.den]
    by_cases hi : 0 < i
    · left
      obtain ⟨c, s1, q1, q2, q3, q4⟩ := PotCode_spec i1
      obtain ⟨v2, s2, p1, p2, p3, p4⟩ := N_spec (n := 2) q2 (by omega) (by omega)
      obtain ⟨v3, s3, u1, u2, u3, u4⟩ := N_spec (n := 2000) p2 (by omega) (by omega)
      obtain ⟨v4, s4, w1, w2, w3, w4⟩ := N_spec (n := 50) u2 (by omega) (by omega)
      obtain ⟨v5, s5, z1, z2, z3⟩ := Pick_spec (l := [100, 500, v3, IntKind.i64.wrap (0 - v4)]) w2 (by simp) (by simp)
      have hv5 : -50 ≤ v5 ∧ v5 ≤ 2000 := by
        rw [wrapId (n := 0 - v4) (by omega) (by omega)] at z3
        simp only [List.mem_cons, List.not_mem_nil, or_false] at z3
        omega
      have hf := set_fine i2 (show x.Pots.length < 60 by omega) (x := v5) q4 (y := 12 + v2) (by omega) (by omega)
      obtain ⟨l1, l2, l3⟩ := set_lim (Int.le_refl 0) i4 (show v5 ≤ 2000 by omega) hf
      rw [if_pos (show decide (i > 0) = true from decide_eq_true hi), q1]
      simp only [obind]
      rw [p1]
      simp only [obind]
      rw [u1]
      simp only [obind]
      rw [w1]
      simp only [obind]
      rw [z1]
      simp only [obind]
      rw [wrapId (n := 12 + v2) (by omega) (by omega), r13_Set_eq i2.small' (by omega)]
      simp only [obind]
      rw [wrapId (n := i - 1) (by omega) (by omega)]
      exact ⟨_, rfl, ⟨z2, (set_ok hf).2, l2.trans i3, l1, by show 0 ≤ i - 1; omega, by show ((setM x c (12 + v2) v5).1.Pots.length : Int) + (i - 1) ≤ 3; omega⟩, by show (i - 1).toNat < i.toNat; omega⟩
    · right
      rw [if_neg (show ¬ decide (i > 0) = true by rw [decide_eq_true_eq]; exact hi)]
      exact ⟨_, rfl, by show i = 0; omega, i1, i2, i3, i4⟩) _ (s, (⟨k, []⟩ : TApiTreasury), n) (Nat.lt_succ_self _)
    ⟨hs, ⟨⟨hk.1, by show k ≤ 6; omega⟩, by simp, fun i hi => by simp at hi⟩, rfl, fun i hi => by simp at hi, hn.1, by simp; omega⟩
  obtain ⟨s', x, i⟩ := r
  obtain ⟨h0, h1, h2, h3, h4⟩ := hJ
  simp only at h0
  subst h0
  exact ⟨s', x, e, h1, h2, h3, h4⟩
end Go.Proofs.YtfiljdbmhegjgaaGreatDoor
namespace Go.Proofs.YtfiljdbmhegjgaaGreatDoor
open Go Go.TA
theorem mk_step {k : Int} {s : TTape} {x : TApiTreasury} {i B : Int} (hs : TapeOk s) (hx : TOk x) (hk : 1 ≤ k ∧ k ≤ 4) (ho : x.Offices = k) (hl : Lim x B) (hB : 0 ≤ B) (hi : 0 < i) (hi5 : i ≤ 5) (hn : 0 < x.Pots.length) :
    ∃ s' x', (S_mk_Treasury_b2 k (s, x, i)).den = some (.cont (s', x', i - 1)) ∧ TapeOk s' ∧ TOk x' ∧ x'.Offices = k ∧ Lim x' (B + 300) := by
  have h60 := hx.2.1
  simp only [S_mk_Treasury_b2, Scr.den, cond_and]
  obtain ⟨v9, s1, q1, q2, q3, q4⟩ := N_spec (n := (x.Pots.length : Int)) hs (by omega) (by omega)
  obtain ⟨v10, s2, p1, p2, p3⟩ := Range_spec (lo := 1) (hi := k) q2 (by omega) (by omega) (by omega)
  obtain ⟨v11, s3, u1, u2, u3, u4⟩ := N_spec (n := 4) p2 (by omega) (by omega)
  rw [if_pos (by simp only [Bool.and_eq_true, decide_eq_true_eq]; omega), q1]
  simp only [obind]
  rw [guardP_pos (by simp only [AllP, and_true]; omega), p1]
  simp only [obind]
  rw [u1]
  simp only [obind]
  have hv : v9.toNat < x.Pots.length := by omega
  have hpk := (hx.2.2 _ hv).1
  have hcl := small_at hx.small' hv
  generalize x.Pots.getD v9.toNat default = p at hpk hcl
  have hK : ∀ s' y e, TapeOk s' → (e = 0 → TOk y ∧ y.Offices = k ∧ Lim y (B + 300)) → ∃ s'' x', (if ((e : Int) == 0) = true then some (Step.cont (s', y, IntKind.i64.wrap (i - 1))) else some (Step.cont (s', x, IntKind.i64.wrap (i - 1))) : Option (Step (TTape × TApiTreasury × Int) R_mk_Treasury)) = some (.cont (s'', x', i - 1)) ∧ TapeOk s'' ∧ TOk x' ∧ x'.Offices = k ∧ Lim x' (B + 300) := fun s' y e h1 h2 => by
    by_cases he : e = 0
    · subst he
      obtain ⟨k1, k2, k3⟩ := h2 rfl
      rw [if_pos (show ((0 : Int) == 0) = true from rfl), wrapId (n := i - 1) (by omega) (by omega)]
      exact ⟨_, _, rfl, h1, k1, k2, k3⟩
    · rw [if_neg (show ¬ (e == 0) = true by simpa using he), wrapId (n := i - 1) (by omega) (by omega)]
      exact ⟨_, _, rfl, h1, hx, ho, hl.mono (by omega)⟩
  by_cases c0 : v11 = 0
  · rw [if_pos (show (v11 == 0) = true by simp [c0])]
    obtain ⟨a, s4, w1, w2, w3⟩ := Range_spec (lo := 1) (hi := 100) u2 (by omega) (by omega) (by omega)
    rw [w1]
    simp only [obind]
    rw [r13_Ask_eq hx.small']
    simp only [obind, outM]
    exact hK _ _ _ w2 fun h => ⟨(ask_ok h).2, (ask_lim hl h).2.1.trans ho, (ask_lim hl h).1.mono (by omega)⟩
  · rw [if_neg (show ¬ (v11 == 0) = true by simpa using c0)]
    by_cases c1 : v11 = 1
    · rw [if_pos (show (v11 == 1) = true by simp [c1])]
      have hv10 : 1 ≤ v10 ∧ v10 ≤ 6 := by omega
      have g := nth_tot hpk.2.2.2.1.1 (k := v10) (by omega)
      have l1 := hpk.2.2.2.1.1.1
      unfold tot at g
      rw [wrapK hv10]
      simp only [Int.toNat_natCast, show p.Granted.getD (v10 - 1).toNat default = nth p.Granted v10 from rfl]
      rw [wrapId (n := nth p.Granted v10 + 1) (by omega) (by omega)]
      obtain ⟨a, s4, w1, w2, w3, w4⟩ := N_spec (n := nth p.Granted v10 + 1) u2 (by omega) (by omega)
      obtain ⟨b, s5, z1, z2, z3, z4⟩ := N_spec (n := 200) w2 (by omega) (by omega)
      rw [w1]
      simp only [obind]
      rw [z1]
      simp only [obind]
      rw [r13_Hear_eq hx.small']
      simp only [obind]
      rw [guardP_pos (by simp only [AllP, and_true]; omega)]
      simp only [outM]
      exact hK _ _ _ z2 fun h => ⟨(hear_ok h).2, (hear_lim hl h).2.1.trans ho, (hear_lim hl h).1.mono (by omega)⟩
    · rw [if_neg (show ¬ (v11 == 1) = true by simpa using c1)]
      by_cases c2 : v11 = 2
      · rw [if_pos (show (v11 == 2) = true by simp [c2])]
        obtain ⟨a, s4, w1, w2, w3, w4⟩ := N_spec (n := 1000) u2 (by omega) (by omega)
        obtain ⟨b, s5, z1, z2, z3⟩ := Pick_spec (l := [0, 200, a]) w2 (by simp) (by simp)
        have hb : b ≤ 2000 := by
          simp only [List.mem_cons, List.not_mem_nil, or_false] at z3
          omega
        rw [w1]
        simp only [obind]
        rw [z1]
        simp only [obind]
        rw [r13_Set_eq hx.small' hcl]
        simp only [obind, outM]
        exact hK _ _ _ z2 fun h => ⟨(set_ok h).2, (set_lim hB hl hb h).2.1.trans ho, (set_lim hB hl hb h).1.mono (by omega)⟩
      · rw [if_neg (show ¬ (v11 == 2) = true by simpa using c2)]
        obtain ⟨a, s4, w1, w2, w3⟩ := Range_spec (lo := 1) (hi := 300) u2 (by omega) (by omega) (by omega)
        rw [w1]
        simp only [obind]
        rw [r13_Grant_eq hx.small']
        simp only [obind, outM]
        exact hK _ _ _ w2 fun h => ⟨(grant_ok h).2, (grant_lim hl h).2.1.trans ho, (grant_lim hl h).1.mono (by omega)⟩
end Go.Proofs.YtfiljdbmhegjgaaGreatDoor
namespace Go.Proofs.YtfiljdbmhegjgaaGreatDoor
open Go Go.TA
theorem mk_Treasury_spec {k : Int} {s : TTape} (hs : TapeOk s) (hk : 1 ≤ k ∧ k ≤ 4) : ∃ x s', F_mk_Treasury k s = some (x, s') ∧ TapeOk s' ∧ TOk x ∧ x.Offices = k ∧ Lim x 1500 := by
  simp only [F_mk_Treasury, S_mk_Treasury, Scr.den]
  obtain ⟨n, s1, q1, q2, q3, q4⟩ := N_spec (n := 4) hs (by omega) (by omega)
  obtain ⟨s2, x, p1, p2, p3, p4, p5⟩ := mk_first (n := n) q2 hk (by omega)
  obtain ⟨m, s3, u1, u2, u3, u4⟩ := N_spec (n := 6) p2 (by omega) (by omega)
  obtain ⟨r, e, hJ⟩ := iterM_inv (step := fun s => (S_mk_Treasury_b2 k s).den) (fun s : TTape × TApiTreasury × Int => s.2.2.toNat)
    (fun s => TapeOk s.1 ∧ TOk s.2.1 ∧ s.2.1.Offices = k ∧ Lim s.2.1 (300 * (5 - s.2.2)) ∧ 0 ≤ s.2.2 ∧ s.2.2 ≤ 5)
    (fun s => TapeOk s.1 ∧ TOk s.2.1 ∧ s.2.1.Offices = k ∧ Lim s.2.1 1500) (fun st hI => by
    obtain ⟨s, x, i⟩ := st
    obtain ⟨i1, i2, i3, i4, i5, i6⟩ := hI
    simp only at i1 i2 i3 i4 i5 i6
    by_cases hc : 0 < i ∧ 0 < x.Pots.length
    · left
      obtain ⟨s', x', h1, h2, h3, h4, h5⟩ := mk_step i1 i2 hk i3 i4 (by omega) hc.1 i6 hc.2
      exact ⟨_, h1, ⟨h2, h3, h4, h5.mono (by show 300 * (5 - i) + 300 ≤ 300 * (5 - (i - 1)); omega), by show 0 ≤ i - 1; omega, by show i - 1 ≤ 5; omega⟩, by show (i - 1).toNat < i.toNat; omega⟩
    · right
      simp only [S_mk_Treasury_b2, Scr.den, cond_and]
      rw [if_neg (by simp only [Bool.and_eq_true, decide_eq_true_eq]; omega)]
      exact ⟨_, rfl, i1, i2, i3, i4.mono (by omega)⟩) _ (s3, x, m) (Nat.lt_succ_self _) ⟨u2, p3, p4, p5.mono (by show 0 ≤ 300 * (5 - m); omega), u3, by show m ≤ 5; omega⟩
  obtain ⟨s', x', i'⟩ := r
  obtain ⟨h1, h2, h3, h4⟩ := hJ
  refine ⟨x', s', ?_, h1, h2, h3, h4⟩
  rw [q1]
  simp only [obind]
  rw [p1]
  simp only [outM]
  rw [u1]
  simp only [obind]
  rw [e]
/-! ## Of a pot of a valid treasury -/
theorem outV_eq {n : Int} {p : TApiPot} (h : PotOk n p) : outV p = p.Granted.sum - p.Heard.sum := by
  have l1 := h.2.2.2.1.1.1
  have l2 := h.2.2.2.1.2.1.1
  unfold outV
  rw [show min p.Granted.length p.Heard.length = p.Granted.length by omega, List.take_length, List.take_of_length_le (by omega)]
theorem sum_le_row : ∀ {a b : List Int}, a.length = b.length → leRow a b → a.sum ≤ b.sum
  | [], [], _, _ => by simp
  | x :: a, y :: b, hl, h => by
    have h0 := h 0 (by simp)
    have := sum_le_row (a := a) (b := b) (by simpa using hl) fun i hi => by
      have := h (i + 1) (by simp; omega)
      simpa using this
    simp only [List.sum_cons]
    have e1 : (x :: a).getD 0 default = x := rfl
    have e2 : (y :: b).getD 0 default = y := rfl
    rw [e1, e2] at h0
    omega
  | [], _ :: _, hl, _ => by simp at hl
  | _ :: _, [], hl, _ => by simp at hl
theorem outV_nonneg {n : Int} {p : TApiPot} (h : PotOk n p) : 0 ≤ outV p := by
  rw [outV_eq h]
  have l1 := h.2.2.2.1.1.1
  have l2 := h.2.2.2.1.2.1.1
  have := sum_le_row (a := p.Heard) (b := p.Granted) (by omega) h.2.2.2.2.1.1
  omega
end Go.Proofs.YtfiljdbmhegjgaaGreatDoor
namespace Go.Proofs.YtfiljdbmhegjgaaGreatDoor
open Go Go.TA
/-! ## What a grant of all that is free leaves -/
theorem sum_set {l : List Int} {k : Nat} (hk : k < l.length) (x : Int) : (l.set k x).sum = l.sum - l.getD k default + x := by
  induction l generalizing k with
  | nil => simp at hk
  | cons z l ih =>
    cases k with
    | zero => simp [List.sum_cons]; omega
    | succ k =>
      rw [List.set_cons_succ, List.sum_cons, ih (by simpa using hk), List.sum_cons]
      have : (z :: l).getD (k + 1) default = l.getD k default := rfl
      rw [this]; omega
/-! ## Equal treasuries are equal -/
end Go.Proofs.YtfiljdbmhegjgaaGreatDoor
namespace Go.Proofs.YtfiljdbmhegjgaaGreatDoor
open Go Go.TA
/-- What is granted of what is free. -/
def gP (p : TApiPot) (k : Nat) (n : Int) : TApiPot := withG p (p.Granted.set k (p.Granted.getD k default + n))
end Go.Proofs.YtfiljdbmhegjgaaGreatDoor
namespace Go.Proofs.YtfiljdbmhegjgaaGreatDoor
open Go Go.TA
/-! ## The greatest of a list, and its place -/
theorem Max_spec {l : List Int} (h0 : 0 < l.length) (h1 : l.length ≤ 1000000) : ∃ m : Int, F_slices_Max_int l = some m ∧ m ∈ l ∧ ∀ x ∈ l, x ≤ m := by
  simp only [F_slices_Max_int, S_slices_Max_int, Scr.den]
  rw [guardP_pos (by simp only [AllP, and_true, decide_eq_false_iff_not]; omega), guardP_pos (by simp only [AllP, and_true]; omega)]
  obtain ⟨r, e, hJ⟩ := iterM_inv (step := fun s => (S_slices_Max_int_b1 l s).den) (fun s : Int × Int => ((l.length : Int) - s.2).toNat)
    (fun s => ∃ i : Nat, s.2 = i ∧ 1 ≤ i ∧ i ≤ l.length ∧ s.1 ∈ l ∧ ∀ j, j < i → l.getD j default ≤ s.1) (fun s => s.1 ∈ l ∧ ∀ x ∈ l, x ≤ s.1) (fun st hI => by
    obtain ⟨m, z⟩ := st
    obtain ⟨i, hz, k1, k2, k3, k4⟩ := hI
    simp only at hz k3 k4
    subst hz
    simp only [S_slices_Max_int_b1, Scr.den]
    by_cases hc : i < l.length
    · left
      rw [if_pos (show decide ((i : Int) < (l.length : Int)) = true from decide_eq_true (by omega)), Int.toNat_natCast, Nat.zero_add, guardP_pos (by simp only [AllP, and_true]; omega), wrapId (n := (i : Int) + 1) (by omega) (by omega)]
      refine ⟨_, rfl, ⟨i + 1, rfl, by omega, by omega, ?_, fun j hj => ?_⟩, by show ((l.length : Int) - ((i : Int) + 1)).toNat < ((l.length : Int) - i).toNat; omega⟩
      · show (if l.getD i default > m then l.getD i default else m) ∈ l
        split
        · exact getD_mem hc
        · exact k3
      · show l.getD j default ≤ (if l.getD i default > m then l.getD i default else m)
        by_cases e : j = i
        · subst e; split <;> omega
        · have := k4 j (by omega); split <;> omega
    · right
      rw [if_neg (show ¬ decide ((i : Int) < (l.length : Int)) = true by rw [decide_eq_true_eq]; omega)]
      refine ⟨_, rfl, k3, fun x hx => ?_⟩
      obtain ⟨j, hj, rfl⟩ := mem_getD hx
      exact k4 j (by omega)) _ (l.getD (0 + 0) default, 1) (Nat.lt_succ_self _) ⟨1, rfl, Nat.le_refl _, h0, getD_mem h0, fun j hj => by
        obtain rfl : j = 0 := by omega
        exact Int.le_refl _⟩
  rw [e]
  exact ⟨_, rfl, hJ⟩
theorem Index_spec {l : List Int} {m : Int} (hm : m ∈ l) (h1 : l.length ≤ 1000000) : ∃ i : Nat, F_slices_Index_int m l = some (i : Int) ∧ i < l.length ∧ l.getD i default = m := by
  simp only [F_slices_Index_int, S_slices_Index_int, Scr.den]
  rw [guardP_pos (by simp only [AllP, and_true]; omega), idx_loop l (fun x => m == x) (fun i => (i : Int)) (fun i hi => by
    simp only [S_slices_Index_int_b1, Scr.den, Nat.zero_add]
    rw [guardP_pos (by simp only [AllP, and_true]; exact hi)]
    split <;> rfl)]
  have hany : (l.any fun x => m == x) = true := List.any_eq_true.2 ⟨m, hm, by simp⟩
  have hlt : l.findIdx (fun x => m == x) < l.length := List.findIdx_lt_length_of_exists ⟨m, hm, by simp⟩
  rw [if_pos hany]
  refine ⟨_, rfl, hlt, ?_⟩
  have := List.findIdx_getElem (w := hlt)
  simp only [beq_iff_eq] at this
  rw [getD_of hlt]
  exact this.symm
/-! ## Taking from those with the most -/
def Gr (I : List Int) (R : Int) (idle out : List Int) (rest : Int) : Prop :=
  (idle.length = I.length ∧ out.length = I.length) ∧
  (∀ k, k < I.length → (out.getD k default = 0 ∧ idle.getD k default = I.getD k default) ∨ (idle.getD k default = 0 ∧ (0 ≤ out.getD k default ∧ out.getD k default ≤ I.getD k default) ∧ (0 < rest → out.getD k default = I.getD k default))) ∧
  (∀ k, k < I.length → 0 < out.getD k default → ∀ j, j < I.length → I.getD k default < I.getD j default → out.getD j default = I.getD j default ∧ idle.getD j default = 0) ∧
  R = rest + out.sum ∧ (0 ≤ rest ∨ rest = R)
def PlanOk (I : List Int) (R : Int) (out : List Int) : Prop :=
  out.length = I.length ∧ (∀ k, k < I.length → 0 ≤ out.getD k default ∧ out.getD k default ≤ I.getD k default) ∧ out.sum = max 0 (min R I.sum) ∧
  ∀ k, k < I.length → 0 < out.getD k default → ∀ j, j < I.length → I.getD k default < I.getD j default → out.getD j default = I.getD j default
theorem sum_nonneg {l : List Int} (h : ∀ k, k < l.length → 0 ≤ l.getD k default) : 0 ≤ l.sum := by
  have := sum_le_row (a := List.replicate l.length (0 : Int)) (b := l) (by simp) fun i hi => by
    have := h i hi
    simpa [List.getD_eq_getElem?_getD, hi] using this
  simpa using this
theorem Gr.done {I : List Int} {R : Int} {idle out : List Int} {rest : Int} (h : Gr I R idle out rest) (hI : ∀ k, k < I.length → 0 ≤ I.getD k default) (he : rest ≤ 0 ∨ ∀ k, k < I.length → idle.getD k default ≤ 0) : PlanOk I R out := by
  obtain ⟨⟨l1, l2⟩, h1, h2, h3, h4⟩ := h
  have hb : ∀ k, k < I.length → 0 ≤ out.getD k default ∧ out.getD k default ≤ I.getD k default := fun k hk => by
    rcases h1 k hk with ⟨a, b⟩ | ⟨a, b, c⟩
    · have := hI k hk; omega
    · exact b
  have hI0 := sum_nonneg hI
  have ho0 := sum_nonneg (l := out) fun k hk => (hb k (by omega)).1
  have hle := sum_le_row (a := out) (b := I) l2 fun k hk => (hb k hk).2
  refine ⟨l2, hb, ?_, fun k hk hp j hj hlt => (h2 k hk hp j hj hlt).1⟩
  by_cases hr : rest ≤ 0
  · rcases h4 with h4 | h4 <;> omega
  · have hid : ∀ k, k < I.length → idle.getD k default ≤ 0 := by
      rcases he with he | he
      · exact absurd he hr
      · exact he
    have : out = I := getD_ext l2 fun k hk => by
      have hk' : k < I.length := by omega
      rcases h1 k hk' with ⟨a, b⟩ | ⟨a, b, c⟩
      · have := hid k hk'; have := hI k hk'; omega
      · exact c (by omega)
    rw [this] at h3 ⊢
    omega
theorem Gr.step {I : List Int} {R : Int} {idle out : List Int} {rest m : Int} {i : Nat} (h : Gr I R idle out rest) (_hI : ∀ k, k < I.length → 0 ≤ I.getD k default) (hr : 0 < rest) (hi : i < I.length) (hm : idle.getD i default = m) (h0 : 0 < m)
    (hmax : ∀ k, k < I.length → idle.getD k default ≤ m) : Gr I R (idle.set i 0) (out.set i (min m rest)) (rest - min m rest) := by
  obtain ⟨⟨l1, l2⟩, h1, h2, h3, h4⟩ := h
  have hii : out.getD i default = 0 ∧ idle.getD i default = I.getD i default := by
    rcases h1 i hi with h | ⟨a, _⟩
    · exact h
    · omega
  have gi : ∀ k, k < I.length → (idle.set i 0).getD k default = if k = i then 0 else idle.getD k default := fun k hk => getD_set_int (by omega)
  have go : ∀ k, k < I.length → (out.set i (min m rest)).getD k default = if k = i then min m rest else out.getD k default := fun k hk => getD_set_int (by omega)
  refine ⟨⟨by simpa using l1, by simpa using l2⟩, fun k hk => ?_, fun k hk hp j hj hlt => ?_, ?_, ?_⟩
  · rw [gi k hk, go k hk]
    by_cases e : k = i
    · subst e
      rw [if_pos rfl, if_pos rfl]
      exact .inr ⟨rfl, by omega, fun _ => by omega⟩
    · rw [if_neg e, if_neg e]
      rcases h1 k hk with h | ⟨a, b, c⟩
      · exact .inl h
      · exact .inr ⟨a, b, fun _ => c hr⟩
  · rw [go k hk] at hp
    rw [go j hj, gi j hj]
    by_cases e : k = i
    · subst e
      by_cases e2 : j = k
      · subst e2; omega
      · rw [if_neg e2, if_neg e2]
        have := hmax j hj
        rcases h1 j hj with ⟨a, b⟩ | ⟨a, b, c⟩
        · omega
        · exact ⟨c hr, a⟩
    · rw [if_neg e] at hp
      have := h2 k hk hp j hj hlt
      by_cases e2 : j = i
      · subst e2; omega
      · rw [if_neg e2, if_neg e2]; exact this
  · rw [sum_set (by omega)]; omega
  · left; omega
end Go.Proofs.YtfiljdbmhegjgaaGreatDoor
namespace Go.Proofs.YtfiljdbmhegjgaaGreatDoor
open Go Go.TA
theorem wrong18 (n : Int) : F_reduction_right_1 n = some (!decide (tot n)) := by
  simp only [F_reduction_right_1, S_reduction_right_1, Scr.den, cond_or]
  congr 1
  by_cases h : tot n
  · have h' := h
    unfold tot at h'
    rw [decide_eq_true h, decide_eq_false (by omega), decide_eq_false (by omega)]
    rfl
  · rw [decide_eq_false h]
    unfold tot at h
    simp only [Bool.not_false, Bool.or_eq_true, decide_eq_true_eq]
    omega
theorem contains18 (l : List Int) : F_slices_CoF_int_reduction_right_1 l = some (!rowT l) := by
  have h : F_slices_IndexFunc_int_reduction_right_1 l = some (if rowT l = true then -1 else ((l.findIdx fun x => !decide (tot x) : Nat) : Int)) := by
    simp only [F_slices_IndexFunc_int_reduction_right_1, S_slices_IndexFunc_int_reduction_right_1, Scr.den]
    rw [idx_loop l (fun x => !decide (tot x)) (fun i => (i : Int)) (fun i hi => by
      simp only [S_slices_IndexFunc_int_reduction_right_1_b1, Scr.den, wrong18, obind]
      split <;> rfl)]
    have e : (l.any fun x => !decide (tot x)) = !rowT l := by rw [rowT, List.all_eq_not_any_not, Bool.not_not]
    rw [e]
    cases rowT l <;> rfl
  simp only [F_slices_CoF_int_reduction_right_1, S_slices_CoF_int_reduction_right_1, Scr.den, h, obind]
  congr 1
  cases rowT l with
  | true => rfl
  | false => simp
theorem right18 {n : Int} {p : TApiPot} (hp : PotOk n p) : F_reduction_right p = some true := by
  obtain ⟨_, _, ht, ⟨r1, r2, r3, r4⟩, _⟩ := hp
  have l1 := r1.1; have l2 := r2.1; have l3 := r3.1; have l4 := r4.1
  have one : ∀ i (l : List Int), ([p.Granted, p.Heard, p.Asked, p.Used] : List (List Int)).getD i default = l → rowOk n l → (S_reduction_right_b1 p i ()).den = some (.cont ()) := fun i l hl hr => by
    have hlen := hr.1
    simp only [S_reduction_right_b1, Scr.den, hl, cond_or, contains18]
    have e : ((l.length : Int) != (p.Granted.length : Int)) = false := by simp; omega
    rw [e, optD_pos (by simp [AllP])]
    simp only [obind, rowT_iff.2 hr.2]
    rfl
  simp only [F_reduction_right, S_reduction_right, Scr.den, cond_and]
  rw [show (4 : Nat) = 0 + 1 + 1 + 1 + 1 from rfl]
  simp only [rangeM, one 0 p.Granted rfl r1, one (0 + 1) p.Heard rfl r2, one (0 + 1 + 1) p.Asked rfl r3, one (0 + 1 + 1 + 1) p.Used rfl r4, outM]
  congr 1
  simp only [Bool.and_eq_true, decide_eq_true_eq]
  omega
/-! ## What an office has open, and idle -/
def unusedV (p : TApiPot) (k : Nat) : Int := max (p.Granted.getD k default - p.Heard.getD k default - p.Used.getD k default) 0
def openV (p : TApiPot) (k : Nat) : Int := max (min (unusedV p k) (p.Asked.getD k default - p.Heard.getD k default)) 0
def idleV (p : TApiPot) (k : Nat) : Int := unusedV p k - openV p k
theorem max18 (x : Int) : (if 0 > x then 0 else x) = max x 0 := by split <;> omega
theorem max18' (x : Int) : (if x > 0 then x else 0) = max x 0 := by split <;> omega
theorem min18 (x y : Int) : (if x < y then x else y) = min y x := by split <;> omega
theorem at18 {n : Int} {p : TApiPot} (hp : PotOk n p) {k : Nat} (hk : k < p.Granted.length) :
    (tot (p.Granted.getD k default) ∧ tot (p.Heard.getD k default) ∧ tot (p.Asked.getD k default) ∧ tot (p.Used.getD k default)) ∧ (k < p.Heard.length ∧ k < p.Asked.length ∧ k < p.Used.length) := by
  obtain ⟨_, _, ht, ⟨r1, r2, r3, r4⟩, _⟩ := hp
  have l1 := r1.1; have l2 := r2.1; have l3 := r3.1; have l4 := r4.1
  exact ⟨⟨r1.2 _ (getD_mem hk), r2.2 _ (getD_mem (by omega)), r3.2 _ (getD_mem (by omega)), r4.2 _ (getD_mem (by omega))⟩, by omega, by omega, by omega⟩
theorem open_b {n : Int} {p : TApiPot} (hp : PotOk n p) {k : Nat} (hk : k < p.Granted.length) : (0 ≤ openV p k ∧ openV p k ≤ 1000000000000000) ∧ (0 ≤ idleV p k ∧ idleV p k ≤ 1000000000000000) := by
  obtain ⟨⟨a, b, c, d⟩, _⟩ := at18 hp hk
  unfold tot at a b c d
  unfold idleV openV unusedV
  omega
theorem look18 {n : Int} {p : TApiPot} (hp : PotOk n p) {k : Nat} (hk : k < p.Granted.length) : F_reduction_look p (k : Int) = some (openV p k, idleV p k) := by
  obtain ⟨⟨a, b, c, d⟩, q1, q2, q3⟩ := at18 hp hk
  simp only [F_reduction_look, S_reduction_look, Scr.den, Int.toNat_natCast]
  rw [guardP_pos (by simp only [AllP, and_true]; omega), guardP_pos (by simp only [AllP, and_true]; omega)]
  unfold idleV openV unusedV
  generalize p.Granted.getD k default = g at *
  generalize p.Heard.getD k default = h at *
  generalize p.Asked.getD k default = s at *
  generalize p.Used.getD k default = u at *
  unfold tot at a b c d
  rw [wrapId (n := g - h) (by omega) (by omega), wrapId (n := s - h) (by omega) (by omega), wrapId (n := g - h - u) (by omega) (by omega)]
  simp only [max18, min18]
  rw [wrapId (n := max (g - h - u) 0 - max (min (max (g - h - u) 0) (s - h)) 0) (by omega) (by omega)]
def idles (p : TApiPot) (n : Nat) : List Int := (List.range n).map (idleV p)
def opens (p : TApiPot) (n : Nat) : List Int := (List.range n).map (openV p)
theorem idles_succ {p : TApiPot} {n : Nat} : idles p (n + 1) = idles p n ++ [idleV p n] := by simp [idles, List.range_succ]
theorem opens_succ {p : TApiPot} {n : Nat} : opens p (n + 1) = opens p n ++ [openV p n] := by simp [opens, List.range_succ]
theorem idles_length {p : TApiPot} {n : Nat} : (idles p n).length = n := by simp [idles]
theorem idles_at {p : TApiPot} {n k : Nat} (hk : k < n) : (idles p n).getD k default = idleV p k := by simp [idles, List.getD_eq_getElem?_getD, hk]
theorem opens_b {n : Int} {p : TApiPot} (hp : PotOk n p) : ∀ {i : Nat}, i ≤ p.Granted.length → 0 ≤ (opens p i).sum ∧ (opens p i).sum ≤ i * 1000000000000000 ∧ 0 ≤ (idles p i).sum ∧ (idles p i).sum ≤ i * 1000000000000000
  | 0, _ => by simp [opens, idles]
  | i + 1, hi => by
    have := opens_b hp (i := i) (by omega)
    have := open_b hp (k := i) (by omega)
    rw [opens_succ, idles_succ, List.sum_append, List.sum_append]
    simp only [List.sum_cons, List.sum_nil]
    omega
def shortV (p : TApiPot) : Int := max (outV p - p.Total) 0
theorem Plan_spec {n : Int} {p : TApiPot} (hp : PotOk n p) (hn : n ≤ 6) : ∃ out, F_reduction_Plan p = some out ∧ PlanOk (idles p p.Granted.length) (shortV p - (opens p p.Granted.length).sum) out := by
  have hb := out_bound hp hn
  have ho := outV_nonneg hp
  have ht := hp.2.2.1
  have l1 := hp.2.2.2.1.1.1
  have hop := opens_b hp (Nat.le_refl _)
  have hs0 : 0 ≤ shortV p ∧ shortV p ≤ 7000000000000000 := by unfold shortV; omega
  simp only [F_reduction_Plan, S_reduction_Plan, Scr.den, right18 hp, obind, Shortfall_eq]
  rw [if_neg (by decide), guardP_pos (by simp only [AllP, and_true]; omega), show max (IntKind.i64.wrap (outV p - p.Total)) 0 = shortV p by rw [wrapId (n := outV p - p.Total) (by omega) (by omega)]; rfl]
  obtain ⟨r, e, h1⟩ := rangeM_inv (body := fun i s => (S_reduction_Plan_b1 p i s).den) (n := p.Granted.length) (fun i s => s = (idles p i, shortV p - (opens p i).sum)) (s0 := (([] : List Int), shortV p)) (by simp [idles, opens]) (fun i s hi hI => by
    subst hI
    have hbb := opens_b hp (i := i) (by omega)
    have hb2 := open_b hp hi
    simp only [S_reduction_Plan_b1, Scr.den, look18 hp hi, obind, idles_length]
    rw [guardP_pos (by simp only [AllP, and_true]; omega), wrapId (n := shortV p - (opens p i).sum - openV p i) (by omega) (by omega)]
    refine ⟨_, rfl, ?_⟩
    rw [idles_succ, opens_succ, List.sum_append]
    simp only [List.sum_cons, List.sum_nil]
    exact Prod.ext rfl (by show _ - _ - _ = _ - (_ + (_ + 0)); omega))
  subst h1
  rw [e]
  simp only [outM, idles_length]
  have hI : ∀ k, k < (idles p p.Granted.length).length → 0 ≤ (idles p p.Granted.length).getD k default ∧ (idles p p.Granted.length).getD k default ≤ 1000000000000000 := fun k hk => by
    rw [idles_length] at hk
    rw [idles_at hk]
    exact (open_b hp hk).2
  generalize hR : shortV p - (opens p p.Granted.length).sum = R
  generalize hii : idles p p.Granted.length = I at hI
  have hlI : I.length = p.Granted.length := by rw [← hii, idles_length]
  rw [guardP_pos (by simp only [AllP, and_true]; omega), Int.toNat_natCast]
  obtain ⟨r, e2, hJ⟩ := iterM_inv (step := fun s => (S_reduction_Plan_b2 p s).den) (fun s : List Int × List Int × Int => s.1.sum.toNat) (fun s => Gr I R s.1 s.2.1 s.2.2) (fun s => PlanOk I R s.2.1) (fun st hG => by
    obtain ⟨idle, out, rest⟩ := st
    simp only at hG
    have hG' := hG
    obtain ⟨⟨k1, k2⟩, k3, k4, k5, k6⟩ := hG'
    have hid : ∀ k, k < idle.length → 0 ≤ idle.getD k default ∧ idle.getD k default ≤ 1000000000000000 := fun k hk => by
      have := hI k (by omega)
      rcases k3 k (by omega) with h | h <;> omega
    simp only [S_reduction_Plan_b2, Scr.den, cond_and]
    by_cases hc : 0 < rest ∧ 0 < idle.length
    · rw [if_pos (by simp only [Bool.and_eq_true, decide_eq_true_eq]; omega)]
      obtain ⟨m, e3, hm, hmax⟩ := Max_spec hc.2 (by omega)
      rw [e3]
      simp only [obind]
      by_cases h0 : m = 0
      · right
        rw [if_pos (by simpa using h0)]
        refine ⟨_, rfl, hG.done (fun k hk => (hI k hk).1) (.inr fun k hk => ?_)⟩
        have := hmax _ (getD_mem (show k < idle.length by omega))
        omega
      · left
        obtain ⟨i, e4, hi, hmi⟩ := Index_spec hm (by omega)
        have him := hid i hi
        have hm0 : 0 < m := by omega
        rw [if_neg (by simpa using h0), e4]
        simp only [obind, Int.toNat_natCast, Nat.zero_add, List.length_set]
        rw [guardP_pos (by simp only [AllP, and_true]; omega), guardP_pos (by simp only [AllP, and_true]; omega), min18, getD_set_int (by omega), if_pos rfl]
        have hst := hG.step (fun k hk => (hI k hk).1) hc.1 (show i < I.length by omega) hmi hm0 (fun k hk => hmax _ (getD_mem (by omega)))
        have hsum0 := sum_nonneg (l := idle) fun k hk => (hid k hk).1
        have hsum1 := sum_nonneg (l := idle.set i 0) fun k hk => by
          rw [getD_set_int (by simpa using hk)]
          split
          · exact Int.le_refl _
          · exact (hid k (by simpa using hk)).1
        have hset := sum_set hi 0
        have hos := sum_nonneg (l := out) fun k hk => by
          rcases k3 k (by omega) with h | h <;> omega
        rw [wrapId (n := rest - min m rest) (by omega) (by omega)]
        exact ⟨_, rfl, hst, by show (idle.set i 0).sum.toNat < idle.sum.toNat; omega⟩
    · right
      rw [if_neg (by simp only [Bool.and_eq_true, decide_eq_true_eq]; omega)]
      refine ⟨_, rfl, hG.done (fun k hk => (hI k hk).1) ?_⟩
      by_cases hr : 0 < rest
      · exact .inr fun k hk => by omega
      · exact .inl (by omega)) _ (I, List.replicate p.Granted.length (0 : Int), R) (Nat.lt_succ_self _) ⟨⟨rfl, by simp [hlI]⟩, fun k hk => .inl ⟨by simp [List.getD_eq_getElem?_getD, ← hlI, hk], rfl⟩, fun k hk hp => by
        rw [show (List.replicate p.Granted.length (0 : Int)).getD k default = 0 by simp [List.getD_eq_getElem?_getD, ← hlI, hk]] at hp
        omega, by simp, .inr rfl⟩
  rw [e2]
  simp only
  have := hJ.1
  rw [guardP_pos (by simp only [AllP, and_true]; omega)]
  exact ⟨_, rfl, hJ⟩
end Go.Proofs.YtfiljdbmhegjgaaGreatDoor
namespace Go.Proofs.YtfiljdbmhegjgaaGreatDoor
open Go Go.TA
/-! ## The example of chapter 18 -/
def xB : TApiTreasury := xT (xP 100 [60, 40] [0, 0] [0, 0] [50, 10])
def xD (a b : Int) : TApiTreasury := xT (xP 55 [60, 40] [0, 0] [a, b] [50, 10])
theorem xB_small : Small xB := xs _ rfl
theorem xD_small (a b : Int) : Small (xD a b) := xs _ rfl
theorem b1 : setM xB [49] 12 55 = (xD 0 0, 0) := by kernel_rfl
theorem b2 : potM (xD 0 0) [49] 12 = (xP 55 [60, 40] [0, 0] [0, 0] [50, 10], true) := by kernel_rfl
theorem b7 : TOk (xD 0 0) := of_decide_eq_true (by kernel_rfl)
theorem b8 : TOk (xD 10 30) := of_decide_eq_true (by kernel_rfl)
theorem plan_ex : F_reduction_Plan (xP 55 [60, 40] [0, 0] [0, 0] [50, 10]) = some [10, 30] := by
  obtain ⟨out, e, h1, h2, h3, _⟩ := Plan_spec (n := 2) (p := xP 55 [60, 40] [0, 0] [0, 0] [50, 10]) (b7.2.2 0 (by simp [xD, xT])).1 (by omega)
  rw [e]
  rw [show idles (xP 55 [60, 40] [0, 0] [0, 0] [50, 10]) (xP 55 [60, 40] [0, 0] [0, 0] [50, 10]).Granted.length = [10, 30] by kernel_rfl] at h1 h2 h3
  rw [show shortV (xP 55 [60, 40] [0, 0] [0, 0] [50, 10]) - (opens (xP 55 [60, 40] [0, 0] [0, 0] [50, 10]) (xP 55 [60, 40] [0, 0] [0, 0] [50, 10]).Granted.length).sum = 45 by kernel_rfl] at h3
  match out, h1 with
  | [a, b], _ =>
    have q1 := h2 0 (by simp)
    have q2 := h2 1 (by simp)
    have e1 : ([a, b] : List Int).getD 0 default = a := rfl
    have e2 : ([a, b] : List Int).getD 1 default = b := rfl
    have e3 : ([10, 30] : List Int).getD 0 default = 10 := rfl
    have e4 : ([10, 30] : List Int).getD 1 default = 30 := rfl
    rw [e1, e3] at q1
    rw [e2, e4] at q2
    simp only [List.sum_cons, List.sum_nil] at h3
    obtain rfl : a = 10 := by omega
    obtain rfl : b = 30 := by omega
    rfl
theorem reduce_ex : F_reduction_Reduce xB [49] 12 55 = some (xD 10 30, [⟨0, 1, [49], 12, 60, 10, 0, 0⟩, ⟨0, 2, [49], 12, 40, 30, 0, 0⟩], 0) := by
  simp only [F_reduction_Reduce, S_reduction_Reduce, Scr.den]
  rw [Set_eq xB_small (show ([49] : List UInt8).length ≤ 1000000 by simp), b1]
  simp only [obind]
  rw [if_neg (by decide), Pot_eq b7.small, b2]
  simp only [obind]
  rw [plan_ex]
  simp only [obind]
  rw [show ([10, 30] : List Int).length = 0 + 1 + 1 from rfl]
  have s1 : (S_reduction_Reduce_b1 [49] 12 (xP 55 [60, 40] [0, 0] [0, 0] [50, 10], true) [10, 30] 0 (xD 0 0, [])).den = some (.cont (xD 10 0, [⟨0, 1, [49], 12, 60, 10, 0, 0⟩])) := by
    simp only [S_reduction_Reduce_b1, Scr.den]
    rw [if_neg (by decide)]
    refine bind_ok ((Ask_eq (xD_small _ _) _ _ _ _).trans (congrArg some (show askM _ _ _ _ _ = (xD 10 0, 0) by kernel_rfl))) ?_
    rw [guardP_pos (by simp only [AllP, and_true]; decide)]
    refine bind_ok ((Tell_eq (xD_small _ _) _ _ _).trans (congrArg some (show tellM _ _ _ _ = (⟨0, 1, [49], 12, 60, 10, 0, 0⟩, 0) by kernel_rfl))) ?_
    rw [guardP_pos (by simp only [AllP, and_true]; decide)]
    rfl
  have s2 : (S_reduction_Reduce_b1 [49] 12 (xP 55 [60, 40] [0, 0] [0, 0] [50, 10], true) [10, 30] (0 + 1) (xD 10 0, [⟨0, 1, [49], 12, 60, 10, 0, 0⟩])).den = some (.cont (xD 10 30, [⟨0, 1, [49], 12, 60, 10, 0, 0⟩, ⟨0, 2, [49], 12, 40, 30, 0, 0⟩])) := by
    simp only [S_reduction_Reduce_b1, Scr.den]
    rw [if_neg (by decide)]
    refine bind_ok ((Ask_eq (xD_small _ _) _ _ _ _).trans (congrArg some (show askM _ _ _ _ _ = (xD 10 30, 0) by kernel_rfl))) ?_
    rw [guardP_pos (by simp only [AllP, and_true]; decide)]
    refine bind_ok ((Tell_eq (xD_small _ _) _ _ _).trans (congrArg some (show tellM _ _ _ _ = (⟨0, 2, [49], 12, 40, 30, 0, 0⟩, 0) by kernel_rfl))) ?_
    rw [guardP_pos (by simp only [AllP, and_true]; decide)]
    rfl
  simp only [rangeM, s1, s2, outM]
  rw [guardP_pos (by simp only [AllP, and_true]; decide)]
theorem short_ex : F_reduction_Shortfalls (xD 10 30) = some [⟨[49], 12, 45⟩] := by
  simp only [F_reduction_Shortfalls, S_reduction_Shortfalls, Scr.den]
  rw [Valid_eq (xD_small _ _), decide_eq_true b8]
  simp only [obind]
  rw [if_neg (by decide), show (xD 10 30).Pots.length = 0 + 1 from rfl]
  have s1 : (S_reduction_Shortfalls_b1 (xD 10 30) 0 []).den = some (.cont [⟨[49], 12, 45⟩]) := by
    simp only [S_reduction_Shortfalls_b1, Scr.den, Shortfall_eq, obind]
    rw [show max (IntKind.i64.wrap (outV ((xD 10 30).Pots.getD 0 default) - ((xD 10 30).Pots.getD 0 default).Total)) 0 = 45 by kernel_rfl, if_pos (by decide), guardP_pos (by simp only [AllP, and_true]; decide)]
    rfl
  simp only [rangeM, s1, outM]
  rw [guardP_pos (by simp only [AllP, and_true]; decide)]
theorem awake18 : F_w18_awake = some true := by
  simp only [F_w18_awake, S_w18_awake, Scr.den]
  rw [show (⟨2, [⟨[49], 12, 100, [60, 40], [0, 0], [0, 0], [50, 10]⟩]⟩ : TApiTreasury) = xB from rfl, reduce_ex]
  simp only [obind]
  rw [short_ex]
  simp only [obind]
  rw [guardP_pos (by simp [AllP])]
  rfl
/-! ## The law -/
theorem r13_Short18 {p : TApiPot} (hl : p.Granted.length < 4611686018427387904) : F_r13_Shortfall p = some (max (IntKind.i64.wrap (outV p - p.Total)) 0) := by
  simp only [F_r13_Shortfall, S_r13_Shortfall, Scr.den, r13_Out_eq hl, obind, wrap_subl, max18']
theorem law_b1 {n : Int} {x : TApiTreasury} {s : TTape} {j i : Nat} {out : List Int} {il : List Int} {r u a : Int} (hp : PotOk n (x.Pots.getD j default)) (_hn : n ≤ 6) (hi : i < (x.Pots.getD j default).Granted.length)
    (ho : 0 ≤ out.getD i default ∧ out.getD i default ≤ idleV (x.Pots.getD j default) i) (hl : il.length ≤ 1000) (hr : -100000000000000000 ≤ r ∧ r ≤ 100000000000000000) (hu : 0 ≤ u ∧ u ≤ 100000000000000000) (ha : 0 ≤ a ∧ a ≤ 100000000000000000) :
    (S_w18_ReductionPlans_b1 (x, s) j out i (il, r, u, a)).den = some (.cont (il ++ [idleV (x.Pots.getD j default) i], r - openV (x.Pots.getD j default) i, u + out.getD i default, a + idleV (x.Pots.getD j default) i)) := by
  have hb := open_b hp hi
  obtain ⟨⟨a1, a2, a3, a4⟩, q1, q2, q3⟩ := at18 hp hi
  simp only [S_w18_ReductionPlans_b1, Scr.den, cond_or]
  generalize x.Pots.getD j default = p at *
  rw [guardP_pos (by simp only [AllP, and_true]; omega), guardP_pos (by simp only [AllP, and_true]; omega)]
  generalize out.getD i default = o at *
  unfold idleV openV unusedV at *
  generalize p.Granted.getD i default = g at *
  generalize p.Heard.getD i default = h at *
  generalize p.Asked.getD i default = s at *
  generalize p.Used.getD i default = w at *
  unfold tot at a1 a2 a3 a4
  rw [wrapId (n := g - h) (by omega) (by omega), wrapId (n := s - h) (by omega) (by omega), wrapId (n := g - h - w) (by omega) (by omega)]
  simp only [max18', min18]
  have e : min (max (s - h) 0) (max (g - h - w) 0) = max (min (max (g - h - w) 0) (s - h)) 0 := by omega
  rw [e]
  rw [wrapId (n := max (g - h - w) 0 - max (min (max (g - h - w) 0) (s - h)) 0) (by omega) (by omega), if_neg (by simp only [Bool.or_eq_true, decide_eq_true_eq]; omega), guardP_pos (by simp only [AllP, and_true]; omega),
    wrapId (n := r - max (min (max (g - h - w) 0) (s - h)) 0) (by omega) (by omega), wrapId (n := u + o) (by omega) (by omega), wrapId (n := a + (max (g - h - w) 0 - max (min (max (g - h - w) 0) (s - h)) 0)) (by omega) (by omega)]
theorem take_succ_sum {l : List Int} {i : Nat} (h : i < l.length) : (l.take (i + 1)).sum = (l.take i).sum + l.getD i default := by
  rw [← List.take_append_getElem h, List.sum_append, getD_of h]
  simp
theorem takes_b {l : List Int} (h : ∀ k, k < l.length → 0 ≤ l.getD k default ∧ l.getD k default ≤ 1000000000000000) : ∀ {i : Nat}, i ≤ l.length → 0 ≤ (l.take i).sum ∧ (l.take i).sum ≤ i * 1000000000000000
  | 0, _ => by simp
  | i + 1, hi => by
    have h1 := takes_b h (i := i) (by omega)
    have h2 := h i (by omega)
    rw [take_succ_sum (by omega)]
    omega
theorem plans_b4 {x : TApiTreasury} {s : TTape} (hx : TOk x) {j : Nat} (hj : j < x.Pots.length) : (S_w18_ReductionPlans_b4 (x, s) j ()).den = some (.cont ()) := by
  have hp := (hx.2.2 j hj).1
  have hn := hx.1.2
  have l1 := hp.2.2.2.1.1.1
  have hb := out_bound hp hn
  have ho := outV_nonneg hp
  have ht := hp.2.2.1
  obtain ⟨out, e, k1, k2, k3, k4⟩ := Plan_spec hp hn
  rw [idles_length] at k1 k2 k4
  have hs0 : 0 ≤ shortV (x.Pots.getD j default) ∧ shortV (x.Pots.getD j default) ≤ 7000000000000000 := by unfold shortV; omega
  have hob : ∀ k, k < out.length → 0 ≤ out.getD k default ∧ out.getD k default ≤ 1000000000000000 := fun k hk => by
    have h1 := k2 k (by omega)
    rw [idles_at (by omega)] at h1
    have h2 := (open_b hp (k := k) (by omega)).2
    omega
  simp only [S_w18_ReductionPlans_b4, Scr.den, e, obind]
  rw [if_neg (show ¬ ((out.length : Int) != x.Offices) = true by simp only [bne_iff_ne, ne_eq, Decidable.not_not]; omega), r13_Short18 (by omega), show max (IntKind.i64.wrap (outV (x.Pots.getD j default) - (x.Pots.getD j default).Total)) 0 = shortV (x.Pots.getD j default) by rw [wrapId (n := outV (x.Pots.getD j default) - (x.Pots.getD j default).Total) (by omega) (by omega)]; rfl]
  simp only [obind]
  obtain ⟨r, e2, h1⟩ := rangeM_inv (body := fun i s' => (S_w18_ReductionPlans_b1 (x, s) j out i s').den) (n := out.length) (fun i s' => s' = (idles (x.Pots.getD j default) i, shortV (x.Pots.getD j default) - (opens (x.Pots.getD j default) i).sum, (out.take i).sum, (idles (x.Pots.getD j default) i).sum))
    (s0 := (([] : List Int), shortV (x.Pots.getD j default), 0, 0)) (by simp [idles, opens]) (fun i s' hi hI => by
    subst hI
    have hi' : i < (x.Pots.getD j default).Granted.length := by omega
    have hbb := opens_b hp (i := i) (by omega)
    have hb2 := open_b hp hi'
    have htk := takes_b hob (i := i) (by omega)
    have h2 := k2 i hi'
    rw [idles_at hi'] at h2
    refine ⟨_, law_b1 hp hn hi' h2 (by rw [idles_length]; omega) (by omega) (by omega) (by omega), ?_⟩
    rw [idles_succ, opens_succ, List.sum_append, List.sum_append, take_succ_sum hi]
    simp only [List.sum_cons, List.sum_nil]
    refine Prod.ext rfl (Prod.ext ?_ (Prod.ext rfl ?_))
    · show _ - _ - _ = _ - (_ + (_ + 0)); omega
    · show _ + _ = _ + (_ + 0); omega)
  subst h1
  rw [e2]
  simp only [outM]
  have hlen : out.length = (x.Pots.getD j default).Granted.length := k1
  rw [List.take_length, hlen]
  rw [if_neg (show ¬ (out.sum != _) = true by
    rw [max18', min18, k3]
    simp only [bne_iff_ne, ne_eq, Decidable.not_not]
    omega)]
  have hfin : ∀ i, i < out.length → (S_w18_ReductionPlans_b3 out (idles (x.Pots.getD j default) (x.Pots.getD j default).Granted.length, shortV (x.Pots.getD j default) - (opens (x.Pots.getD j default) (x.Pots.getD j default).Granted.length).sum, out.sum, (idles (x.Pots.getD j default) (x.Pots.getD j default).Granted.length).sum) i ()).den = some (.cont ()) := fun i hi => by
    simp only [S_w18_ReductionPlans_b3, Scr.den]
    have ra := rangeM_all (ρ := R_w18_ReductionPlans) (n := out.length) (c := false) (body := fun k s' => (S_w18_ReductionPlans_b2 out (idles (x.Pots.getD j default) (x.Pots.getD j default).Granted.length, shortV (x.Pots.getD j default) - (opens (x.Pots.getD j default) (x.Pots.getD j default).Granted.length).sum, out.sum, (idles (x.Pots.getD j default) (x.Pots.getD j default).Granted.length).sum) i k s').den) (fun _ => True) (fun k hk _ => by
      simp only [S_w18_ReductionPlans_b2, Scr.den, cond_and, idles_length, Nat.zero_add]
      rw [guardP_pos (by simp only [AllP, and_true]; exact ⟨fun _ => by omega, fun _ => by omega, fun _ => by omega, fun _ => by omega, fun _ => by omega, fun _ => by omega⟩), if_neg (by
        simp only [Bool.and_eq_true, decide_eq_true_eq]
        rintro ⟨⟨c1, c2⟩, c3⟩
        have := k4 i (by omega) c1 k (by omega) c2
        omega)]) (fun k hk h => absurd trivial h)
    rw [ra.1 fun _ _ => trivial]
    rfl
  have rb := rangeM_all (ρ := R_w18_ReductionPlans) (n := out.length) (c := false) (body := fun k s' => (S_w18_ReductionPlans_b3 out (idles (x.Pots.getD j default) (x.Pots.getD j default).Granted.length, shortV (x.Pots.getD j default) - (opens (x.Pots.getD j default) (x.Pots.getD j default).Granted.length).sum, out.sum, (idles (x.Pots.getD j default) (x.Pots.getD j default).Granted.length).sum) k s').den) (fun _ => True) (fun k hk _ => hfin k hk) (fun k hk h => absurd trivial h)
  rw [hlen] at rb
  rw [rb.1 fun _ _ => trivial]
theorem ReductionPlans_eq (a : List Int) : F_w18_ReductionPlans a = some true := by
  simp only [F_w18_ReductionPlans, S_w18_ReductionPlans, Scr.den]
  obtain ⟨s, h1, h2⟩ := New_spec a
  obtain ⟨k, s1, q1, q2, q3⟩ := Range_spec (lo := 1) (hi := 4) h2 (by omega) (by omega) (by omega)
  obtain ⟨x, s2, p1, p2, p3, p4, p5⟩ := mk_Treasury_spec q2 q3
  rw [h1]
  simp only [obind]
  rw [q1]
  simp only [obind]
  rw [p1]
  simp only [obind]
  have ra := rangeM_all (ρ := R_w18_ReductionPlans) (n := x.Pots.length) (c := false) (body := fun i s => (S_w18_ReductionPlans_b4 (x, s2) i s).den) (fun _ => True) (fun j hj _ => plans_b4 p3 hj) (fun k hk h => absurd trivial h)
  rw [ra.1 fun _ _ => trivial]
  simp only [outM, awake18, obind]
theorem ReductionPlans_true (a : List Int) : F_w18_ReductionPlans a = some true := ReductionPlans_eq a
end Go.Proofs.YtfiljdbmhegjgaaGreatDoor
