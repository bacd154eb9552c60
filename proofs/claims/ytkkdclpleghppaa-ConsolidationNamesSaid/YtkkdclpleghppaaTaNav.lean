/- A part of the proof: laws over any program of the abstract machine. No condition. -/
import Derived.Test.YtkkdclpleghppaaTaCore
namespace Go.TA
open Go

mutual
def AV.wd : AV → Nat
  | .d x => x.wd
  | .agg fs => AV.wdL fs
  | _ => 1
def AV.wdL : List AV → Nat
  | [] => 0
  | x :: xs => x.wd + AV.wdL xs
end

mutual
theorem AV.Is.len {c : Cx} {x : AV} {cs : List Value} : AV.Is c x cs → cs.length = x.wd
  | .d x cs h => by simpa [AV.wd] using h.len
  | .full .. => rfl
  | .agg gs cs h => by simpa [AV.wd] using AV.IsL.len h
  | .ptr .. => rfl
  | .imm .. => rfl
  | .ref .. => rfl
  | .map .. => rfl
  | .fn .. => rfl
  | .bot v h => rfl
theorem AV.IsL.len {c : Cx} {xs : List AV} {cs : List Value} : AV.IsL c xs cs → cs.length = AV.wdL xs
  | .nil => rfl
  | .cons x xs c cs h ht => by simp [AV.wdL, h.len, ht.len]
end

/-- Cells from an offset on are just these. -/
def At (cs : List Value) (off : Nat) (k : List Value) : Prop := ∀ j, j < k.length → cs[off + j]? = k[j]?

theorem At.refl (cs : List Value) : At cs 0 cs := fun j _ => by simp
theorem At.trans {cs k l : List Value} {o o' : Nat} (h : At cs o k) (h' : At k o' l) : At cs (o + o') l := fun j hj => by
  have e := h' j hj
  have hlt : o' + j < k.length := by
    rcases Nat.lt_or_ge (o' + j) k.length with hl | hl
    · exact hl
    · rw [List.getElem?_eq_none hl, List.getElem?_eq_getElem hj] at e; cases e
  rw [Nat.add_assoc, h _ hlt, e]

theorem DV.IsL.at {M : Mem} {xs : List DV} {cs : List Value} (h : DV.IsL M xs cs) (k : Nat) (x : DV) (hx : xs[k]? = some x) :
    ∃ c, DV.Is M x c ∧ At cs (DV.wdL (xs.take k)) c := h.field k x hx

theorem AV.IsL.at {c : Cx} {xs : List AV} {cs : List Value} (h : AV.IsL c xs cs) : ∀ (k : Nat) (x : AV), xs[k]? = some x →
    ∃ l, AV.Is c x l ∧ At cs (AV.wdL (xs.take k)) l := by
  induction xs generalizing cs with
  | nil => intro k x hx; simp at hx
  | cons y ys ih =>
    cases h with
    | cons _ _ l ls h ht =>
    intro k x hx
    cases k with
    | zero =>
      simp at hx; subst hx
      exact ⟨l, h, fun j hj => by simp [AV.wdL, List.getElem?_append_left hj]⟩
    | succ k =>
      simp at hx
      obtain ⟨l', hl', hj'⟩ := ih ht k x hx
      refine ⟨l', hl', fun j hj => ?_⟩
      simp only [List.take_succ_cons, AV.wdL]
      rw [← h.len, Nat.add_assoc, List.getElem?_append_right (by omega), Nat.add_sub_cancel_left]
      exact hj' j hj

/-- One step into a value. -/
def AV.into : AV → Stp → Option AV
  | .d (.agg fs), .f i o => if DV.wdL (fs.take i) = o then (fs[i]?).map .d else none
  | .agg fs, .f i o => if AV.wdL (fs.take i) = o then fs[i]? else none
  | .d (.arr sz _ f), .x i sz' => if sz = sz' then some (.d (f i)) else none
  | _, _ => none

def AV.intoC : AV → Stp → Prop
  | .d (.arr _ n _), .x i _ => i < n
  | _, _ => True

theorem AV.into_is {c : Cx} {a x : AV} {cs : List Value} {s : Stp} (h : AV.Is c a cs) (hx : a.into s = some x) (hc : a.intoC s) :
    ∃ k, AV.Is c x k ∧ At cs s.off k := by
  unfold AV.into at hx
  split at hx
  · rename_i fs i o
    split at hx
    · rename_i ho
      cases hf : fs[i]? with
      | none => simp [hf] at hx
      | some y =>
        simp [hf] at hx; subst hx
        cases h with
        | d _ _ h =>
        cases h with
        | agg _ _ h =>
        obtain ⟨k, h1, h2⟩ := h.at i y hf
        exact ⟨k, .d _ _ h1, by simpa [Stp.off, ho] using h2⟩
    · cases hx
  · rename_i fs i o
    split at hx
    · rename_i ho
      cases h with
      | agg _ _ h =>
      obtain ⟨k, h1, h2⟩ := h.at i x hx
      exact ⟨k, h1, by simpa [Stp.off, ho] using h2⟩
    · cases hx
  · rename_i sz n f i sz'
    split at hx
    · rename_i hs
      subst hs
      cases hx
      cases h with
      | d _ _ h =>
      cases h with
      | arr _ _ _ ks h hl =>
      have hi : i < n := hc
      refine ⟨ks i, .d _ _ (h i hi), fun j hj => ?_⟩
      rw [hl i hi] at hj
      exact flatMap_range_getElem? n sz ks hl i j hi hj
    · cases hx
  · cases hx

def AV.get : AV → List Stp → Option AV
  | a, [] => some a
  | a, s :: r => (a.into s).bind fun x => x.get r

def AV.getC : AV → List Stp → Prop
  | _, [] => True
  | a, s :: r => a.intoC s ∧ match a.into s with
    | some x => x.getC r
    | none => True

theorem AV.get_is {c : Cx} : ∀ (p : List Stp) {a x : AV} {cs : List Value}, AV.Is c a cs → a.get p = some x → a.getC p → ∃ k, AV.Is c x k ∧ At cs (pathOff p) k
  | [], a, x, cs, h, hx, _ => by simp [AV.get] at hx; subst hx; exact ⟨cs, h, At.refl cs⟩
  | s :: r, a, x, cs, h, hx, hc => by
    simp only [AV.get] at hx
    cases hs : a.into s with
    | none => simp [hs] at hx
    | some y =>
      simp [hs] at hx
      simp only [AV.getC, hs] at hc
      obtain ⟨k, h1, h2⟩ := AV.into_is h hs hc.1
      obtain ⟨l, h3, h4⟩ := AV.get_is r h1 hx hc.2
      exact ⟨l, h3, h2.trans h4⟩

/-- Cells written over from an offset on. -/
def splice (cs : List Value) (off : Nat) (k : List Value) : List Value := cs.take off ++ k ++ cs.drop (off + k.length)

theorem splice_length {cs k : List Value} {off : Nat} (h : off + k.length ≤ cs.length) : (splice cs off k).length = cs.length := by
  simp [splice]; omega

theorem splice_getElem? {cs k : List Value} {off : Nat} (h : off + k.length ≤ cs.length) (j : Nat) :
    (splice cs off k)[j]? = if off ≤ j ∧ j < off + k.length then k[j - off]? else cs[j]? := by
  unfold splice
  by_cases h1 : j < off
  · rw [if_neg (by omega), List.append_assoc, List.getElem?_append_left (by simp; omega), List.getElem?_take_of_lt h1]
  · by_cases h2 : j < off + k.length
    · rw [if_pos ⟨by omega, h2⟩, List.append_assoc, List.getElem?_append_right (by simp; omega), List.getElem?_append_left (by simp; omega)]
      congr 1
      simp; omega
    · rw [if_neg (by omega), List.append_assoc, List.getElem?_append_right (by simp; omega), List.getElem?_append_right (by simp; omega)]
      simp only [List.length_take, List.getElem?_drop]
      congr 1
      omega

theorem At.le {cs k : List Value} {off : Nat} (h : At cs off k) (hk : 0 < k.length) : off + k.length ≤ cs.length := by
  have e := h (k.length - 1) (by omega)
  rcases Nat.lt_or_ge (off + (k.length - 1)) cs.length with hl | hl
  · omega
  · rw [List.getElem?_eq_none hl, List.getElem?_eq_getElem (by omega)] at e; cases e

theorem splice_nest {cs l k : List Value} {o o' : Nat} (h : At cs o l) (hl : o + l.length ≤ cs.length) (hk : o' + k.length ≤ l.length) :
    splice cs o (splice l o' k) = splice cs (o + o') k := by
  apply List.ext_getElem?
  intro j
  have hs := splice_length hk
  rw [splice_getElem? (cs := cs) (k := splice l o' k) (by omega), splice_getElem? (cs := cs) (k := k) (by omega), hs]
  by_cases h1 : o ≤ j ∧ j < o + l.length
  · rw [if_pos h1, splice_getElem? hk]
    by_cases h2 : o + o' ≤ j ∧ j < o + o' + k.length
    · rw [if_pos h2, if_pos (by omega)]; congr 1; omega
    · rw [if_neg h2, if_neg (by omega)]
      have := h (j - o) (by omega)
      rw [← this]; congr 1; omega
  · rw [if_neg h1, if_neg (by omega)]

theorem splice_self {cs k : List Value} (h : k.length = cs.length) : splice cs 0 k = k := by
  simp [splice, h]

/-- One step: put something else there. -/
def AV.over : AV → Stp → AV → Option AV
  | .d (.agg fs), .f i _, .d y => some (.d (.agg (fs.set i y)))
  | .d (.agg fs), .f i _, y => some (.agg ((fs.map AV.d).set i y))
  | .agg fs, .f i _, y => some (.agg (fs.set i y))
  | .d (.arr sz n f), .x i _, .d y => some (.d (.arr sz n (fun j => if j = i then y else f j)))
  | _, _, _ => none

theorem DV.IsL.set {M : Mem} : ∀ {xs : List DV} {cs : List Value}, DV.IsL M xs cs → ∀ (k : Nat) (x y : DV) (l : List Value), xs[k]? = some x → DV.Is M y l → y.wd = x.wd →
    DV.IsL M (xs.set k y) (splice cs (DV.wdL (xs.take k)) l)
  | [], _, _, k, x, y, l, hx, _, _ => by simp at hx
  | z :: zs, _, .cons _ _ c cs h ht, 0, x, y, l, hx, hy, hw => by
    simp at hx; subst hx
    have : splice (c ++ cs) (DV.wdL ([] : List DV)) l = l ++ cs := by
      have e : l.length = c.length := by rw [hy.len, h.len, hw]
      simp [splice, DV.wdL, e]
    simp only [List.take_zero, List.set_cons_zero]
    rw [this]
    exact .cons _ _ _ _ hy ht
  | z :: zs, _, .cons _ _ c cs h ht, k + 1, x, y, l, hx, hy, hw => by
    simp at hx
    have ih := DV.IsL.set ht k x y l hx hy hw
    have : splice (c ++ cs) (DV.wdL ((z :: zs).take (k + 1))) l = c ++ splice cs (DV.wdL (zs.take k)) l := by
      simp only [List.take_succ_cons, DV.wdL, splice]
      rw [← h.len, List.take_append, List.take_of_length_le (by omega), Nat.add_sub_cancel_left, List.drop_append, List.drop_of_length_le (by omega)]
      simp [Nat.add_assoc]
    rw [this, List.set_cons_succ]
    exact .cons _ _ _ _ h ih

theorem AV.IsL.set {c : Cx} : ∀ {xs : List AV} {cs : List Value}, AV.IsL c xs cs → ∀ (k : Nat) (x y : AV) (l : List Value), xs[k]? = some x → AV.Is c y l → y.wd = x.wd →
    AV.IsL c (xs.set k y) (splice cs (AV.wdL (xs.take k)) l)
  | [], _, _, k, x, y, l, hx, _, _ => by simp at hx
  | z :: zs, _, .cons _ _ c cs h ht, 0, x, y, l, hx, hy, hw => by
    simp at hx; subst hx
    have : splice (c ++ cs) (AV.wdL ([] : List AV)) l = l ++ cs := by
      have e : l.length = c.length := by rw [hy.len, h.len, hw]
      simp [splice, AV.wdL, e]
    simp only [List.take_zero, List.set_cons_zero]
    rw [this]
    exact .cons _ _ _ _ hy ht
  | z :: zs, _, .cons _ _ c cs h ht, k + 1, x, y, l, hx, hy, hw => by
    simp at hx
    have ih := AV.IsL.set ht k x y l hx hy hw
    have : splice (c ++ cs) (AV.wdL ((z :: zs).take (k + 1))) l = c ++ splice cs (AV.wdL (zs.take k)) l := by
      simp only [List.take_succ_cons, AV.wdL, splice]
      rw [← h.len, List.take_append, List.take_of_length_le (by omega), Nat.add_sub_cancel_left, List.drop_append, List.drop_of_length_le (by omega)]
      simp [Nat.add_assoc]
    rw [this, List.set_cons_succ]
    exact .cons _ _ _ _ h ih

theorem AV.IsL.of_d {c : Cx} : ∀ {xs : List DV} {cs : List Value}, DV.IsL c.M xs cs → AV.IsL c (xs.map AV.d) cs
  | [], _, .nil => .nil
  | _ :: _, _, .cons _ _ _ _ h ht => .cons _ _ _ _ (.d _ _ h) (AV.IsL.of_d ht)

theorem AV.wdL_d : ∀ (xs : List DV), AV.wdL (xs.map AV.d) = DV.wdL xs
  | [] => rfl
  | x :: xs => by simp [AV.wdL, DV.wdL, AV.wd, AV.wdL_d xs]

theorem flatMap_range_set (n sz : Nat) (cs : Nat → List Value) (hl : ∀ i, i < n → (cs i).length = sz) (i : Nat) (hi : i < n) (l : List Value) (hll : l.length = sz) :
    (List.range n).flatMap (fun j => if j = i then l else cs j) = splice ((List.range n).flatMap cs) (i * sz) l := by
  have hl' : ∀ j, j < n → ((fun j => if j = i then l else cs j) j).length = sz := fun j hj => by
    by_cases h : j = i
    · simp [h, hll]
    · simp [h, hl j hj]
  have hlen := flatMap_range_length n sz cs hl
  have hlen' := flatMap_range_length n sz _ hl'
  have hb : i * sz + l.length ≤ ((List.range n).flatMap cs).length := by
    rw [hlen, hll, ← Nat.succ_mul]
    exact Nat.mul_le_mul_right sz hi
  apply List.ext_getElem?
  intro p
  rw [splice_getElem? hb]
  by_cases hp : p < n * sz
  · have hsz : 0 < sz := by
      rcases Nat.eq_zero_or_pos sz with h | h
      · subst h; simp at hp
      · exact h
    have hq : p / sz < n := Nat.div_lt_of_lt_mul (by rw [Nat.mul_comm]; exact hp)
    have hr : p % sz < sz := Nat.mod_lt _ hsz
    have hpd : p = p / sz * sz + p % sz := by rw [Nat.mul_comm]; exact (Nat.div_add_mod p sz).symm
    have e1 := flatMap_range_getElem? n sz _ hl' (p / sz) (p % sz) hq hr
    have e2 := flatMap_range_getElem? n sz cs hl (p / sz) (p % sz) hq hr
    rw [← hpd] at e1 e2
    rw [e1, e2, hll]
    by_cases h : p / sz = i
    · rw [if_pos h, if_pos (by rw [← h]; omega)]
      congr 1
      rw [← h]; omega
    · rw [if_neg h, if_neg]
      intro ⟨h1, h2⟩
      apply h
      have h3 : i ≤ p / sz := (Nat.le_div_iff_mul_le hsz).2 h1
      have h4 : p / sz < i + 1 := Nat.div_lt_of_lt_mul (by rw [Nat.mul_comm, Nat.succ_mul]; exact h2)
      omega
  · rw [List.getElem?_eq_none (by omega), if_neg, List.getElem?_eq_none (by omega)]
    intro ⟨h1, h2⟩
    rw [hlen] at hb
    omega

theorem AV.over_is {c : Cx} {a x y a' : AV} {cs l : List Value} {s : Stp} (h : AV.Is c a cs) (hx : a.into s = some x) (hc : a.intoC s) (ho : a.over s y = some a')
    (hy : AV.Is c y l) (hw : y.wd = x.wd) : AV.Is c a' (splice cs s.off l) ∧ a'.wd = a.wd ∧ a'.isAgg = a.isAgg := by
  unfold AV.into at hx
  split at hx
  · rename_i fs i o
    split at hx
    · rename_i hof
      cases hf : fs[i]? with
      | none => simp [hf] at hx
      | some z =>
        simp [hf] at hx; subst hx
        cases h with
        | d _ _ h =>
        cases h with
        | agg _ _ h =>
        have hgen : AV.Is c (.agg ((fs.map AV.d).set i y)) (splice cs (Stp.f i o).off l) := by
          have := AV.IsL.set (AV.IsL.of_d h) i (.d z) y l (by simp [hf]) hy hw
          rw [← List.map_take, AV.wdL_d, hof] at this
          exact .agg _ _ this
        have hlen : (splice cs (Stp.f i o).off l).length = (AV.d (DV.agg fs)).wd := by
          obtain ⟨k, hk, hat⟩ := h.at i z hf
          have h1 : l.length = k.length := by rw [hy.len, hw, hk.len]; rfl
          rw [hof] at hat
          by_cases h0 : 0 < k.length
          · have := hat.le h0
            rw [splice_length (by simp [Stp.off]; omega), h.len]; rfl
          · have hl0 : l = [] := List.length_eq_zero_iff.1 (by omega)
            have := h.len
            simp [splice, hl0, Stp.off, AV.wd, DV.wd, this]
        cases y with
        | d y' =>
          simp only [AV.over, Option.some.injEq] at ho
          subst ho
          cases hy with
          | d _ _ hy =>
          have := DV.IsL.set h i z y' l hf hy hw
          rw [hof] at this
          have h' : AV.Is c (.d (.agg (fs.set i y'))) (splice cs (Stp.f i o).off l) := .d _ _ (.agg _ _ this)
          exact ⟨h', by rw [← h'.len, hlen], rfl⟩
        | _ =>
          simp only [AV.over, Option.some.injEq] at ho
          subst ho
          exact ⟨hgen, by rw [← hgen.len, hlen], rfl⟩
    · cases hx
  · rename_i fs i o
    split at hx
    · rename_i hof
      cases h with
      | agg _ _ h =>
      simp [AV.over] at ho; subst ho
      have := AV.IsL.set h i x y l hx hy hw
      rw [hof] at this
      have h' : AV.Is c (.agg (fs.set i y)) (splice cs (Stp.f i o).off l) := .agg _ _ this
      refine ⟨h', ?_, rfl⟩
      obtain ⟨k, hk, hat⟩ := h.at i x hx
      have h1 : l.length = k.length := by rw [hy.len, hw, hk.len]
      rw [hof] at hat
      rw [← h'.len]
      by_cases h0 : 0 < k.length
      · have := hat.le h0
        rw [splice_length (by simp [Stp.off]; omega), h.len]; rfl
      · have hl0 : l = [] := List.length_eq_zero_iff.1 (by omega)
        have := h.len
        simp [splice, hl0, Stp.off, AV.wd, this]
    · cases hx
  · rename_i sz n f i sz'
    split at hx
    · rename_i hs
      subst hs
      cases hx
      cases h with
      | d _ _ h =>
      cases h with
      | arr _ _ _ ks h hl =>
      have hi : i < n := hc
      cases y with
      | d y' =>
        simp only [AV.over, Option.some.injEq] at ho
        subst ho
        cases hy with
        | d _ _ hy =>
        have hll : l.length = sz := by
          rw [hy.len, ← hl i hi, (h i hi).len]; exact hw
        have h' : AV.Is c (.d (.arr sz n (fun j => if j = i then y' else f j))) (splice ((List.range n).flatMap ks) (Stp.x i sz).off l) := by
          rw [show (Stp.x i sz).off = i * sz from rfl, ← flatMap_range_set n sz ks hl i hi l hll]
          refine .d _ _ (.arr _ _ _ _ (fun j hj => ?_) (fun j hj => ?_))
          · by_cases hji : j = i
            · simp [hji, hy]
            · simp [hji, h j hj]
          · by_cases hji : j = i
            · simp [hji, hll]
            · simp [hji, hl j hj]
        exact ⟨h', rfl, rfl⟩
      | _ => simp [AV.over] at ho
    · cases hx
  · cases hx

def AV.set : AV → List Stp → AV → Option AV
  | a, [], y => if y.wd = a.wd then some y else none
  | a, s :: r, y => (a.into s).bind fun x => (x.set r y).bind fun x' => a.over s x'

theorem AV.set_is {c : Cx} : ∀ (p : List Stp) {a y a' : AV} {cs l : List Value}, AV.Is c a cs → a.set p y = some a' → a.getC p → AV.Is c y l →
    AV.Is c a' (splice cs (pathOff p) l) ∧ a'.wd = a.wd ∧ (l.length = 0 ∨ pathOff p + l.length ≤ cs.length)
  | [], a, y, a', cs, l, h, hs, _, hy => by
    simp only [AV.set] at hs
    split at hs
    · rename_i hw
      cases hs
      have : l.length = cs.length := by rw [hy.len, h.len, hw]
      rw [show pathOff [] = 0 from rfl, splice_self this]
      exact ⟨hy, hw, .inr (by omega)⟩
    · cases hs
  | s :: r, a, y, a', cs, l, h, hs, hc, hy => by
    simp only [AV.set] at hs
    cases hi : a.into s with
    | none => simp [hi] at hs
    | some x =>
      cases hx : x.set r y with
      | none => simp [hi, hx] at hs
      | some x' =>
        simp [hi, hx] at hs
        simp only [AV.getC, hi] at hc
        obtain ⟨k, hk, hat⟩ := AV.into_is h hi hc.1
        obtain ⟨h1, h2, h3⟩ := AV.set_is r hk hx hc.2 hy
        obtain ⟨h4, h5, _⟩ := AV.over_is h hi hc.1 hs h1 h2
        by_cases h0 : l.length = 0
        · have hl0 : l = [] := List.length_eq_zero_iff.1 h0
          subst hl0
          refine ⟨?_, h5, .inl rfl⟩
          have e1 : splice k (pathOff r) [] = k := by simp [splice]
          have e2 : splice cs (pathOff (s :: r)) [] = cs := by simp [splice]
          rw [e1] at h4
          rw [e2]
          have e3 : splice cs s.off k = cs := by
            by_cases hk0 : 0 < k.length
            · apply List.ext_getElem?
              intro j
              rw [splice_getElem? (hat.le hk0)]
              split
              · rename_i hj
                have := hat (j - s.off) (by omega)
                rw [← this]; congr 1; omega
              · rfl
            · have : k = [] := List.length_eq_zero_iff.1 (by omega)
              simp [splice, this]
          rwa [e3] at h4
        · have h3' := h3.resolve_left h0
          have hb := hat.le (by omega)
          rw [splice_nest hat hb h3'] at h4
          exact ⟨h4, h5, .inr (by simp only [pathOff]; omega)⟩
end Go.TA
