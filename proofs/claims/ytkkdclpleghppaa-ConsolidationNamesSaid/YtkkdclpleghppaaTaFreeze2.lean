/- A part of the proof: laws over any program of the abstract machine. No condition. -/
import Derived.Test.YtkkdclpleghppaaTaFreeze
namespace Go.TA
open Go

/-! ## What is known is said anew: a row becomes data, a nil slice a row -/
def TrV (H : Cx → Cx → Prop) (v v' : AV) : Prop := ∀ c c' : Cx, c.le c' → H c c' → ∀ cs, AV.Is c v cs → AV.Is c' v' cs
def TrL (H : Cx → Cx → Prop) (v v' : List AV) : Prop := ∀ c c' : Cx, c.le c' → H c c' → ∀ cs, AV.IsL c v cs → AV.IsL c' v' cs
/-- The same of slots. -/
def TrS (H : Cx → Cx → Prop) (v v' : AV) : Prop := ∀ c c' : Cx, c.le c' → H c c' → ∀ u, AV.IsV c v u → AV.IsV c' v' u

/-- The row o is data: any part of it that begins where it begins. -/
def FzH (o n : Nat) (g : Nat → DV) (c c' : Cx) : Prop := ∀ m u, m ≤ n → AV.Is c (.ref o n 0 m) [u] → AV.Is c' (.d (.sl m g)) [u]
/-- A nil slice is a row of its own. -/
def BnH (o : Nat) (c c' : Cx) : Prop := ∀ f u, AV.Is c (.full 0 f) [u] → AV.Is c' (.ref o 0 0 0) [u]
def NoH (_ _ : Cx) : Prop := True

theorem AV.IsL.to_d {c : Cx} : ∀ {xs : List DV} {cs : List Value}, AV.IsL c (xs.map AV.d) cs → DV.IsL c.M xs cs
  | [], _, h => by cases h; exact .nil
  | x :: xs, _, h => by
    cases h with
    | cons _ _ k ks h1 h2 =>
      cases h1 with
      | d _ _ h1 => exact .cons _ _ k ks h1 (AV.IsL.to_d h2)

section
variable {H : Cx → Cx → Prop}
theorem TrV.keep (v : AV) : TrV H v v := fun _ _ hc _ _ h => h.mono hc
theorem TrL.nil : TrL H [] [] := fun _ _ _ _ cs h => by cases h; exact .nil
theorem TrL.cons {x y : AV} {xs ys : List AV} (h : TrV H x y) (ht : TrL H xs ys) : TrL H (x :: xs) (y :: ys) := fun c c' hc hr cs hx => by
  cases hx with
  | cons _ _ k ks h1 h2 => exact .cons _ _ k ks (h c c' hc hr k h1) (ht c c' hc hr ks h2)
theorem TrV.agg {xs ys : List AV} (h : TrL H xs ys) : TrV H (.agg xs) (.agg ys) := fun c c' hc hr cs hx => by
  cases hx with
  | agg _ _ hx => exact .agg _ _ (h c c' hc hr cs hx)
theorem TrV.aggD {xs : List AV} {ys : List DV} (h : TrL H xs (ys.map AV.d)) : TrV H (.agg xs) (.d (.agg ys)) := fun c c' hc hr cs hx => by
  cases hx with
  | agg _ _ hx => exact .d _ _ (.agg _ _ (AV.IsL.to_d (h c c' hc hr cs hx)))
theorem TrV.dAgg {xs : List DV} : TrV H (.d (.agg xs)) (.agg (xs.map AV.d)) := fun c c' hc _ cs hx => by
  cases hx with
  | d _ _ hx => cases hx with
    | agg _ _ hx => exact .agg _ _ ((AV.IsL.of_d hx).mono hc)
theorem TrV.trans {x y z : AV} (h : TrV H x y) (h' : TrV NoH y z) : TrV H x z := fun c c' hc hr cs hx => h' c' c' (Cx.le.refl _) trivial cs (h c c' hc hr cs hx)
theorem TrV.trans' {x y z : AV} (h : TrV NoH x y) (h' : TrV H y z) : TrV H x z := fun c c' hc hr cs hx => h' c c' hc hr cs (h c c (Cx.le.refl _) trivial cs hx)
theorem TrV.full {f g : Nat → DV} : TrV H (.full 0 f) (.d (.sl 0 g)) := fun c c' hc _ cs hx => by
  cases hx with
  | full _ _ a hx =>
    refine .d _ _ ?_
    cases hx with
    | slNil => exact .slNil _
    | slEmpty => exact .slEmpty _ _ _
    | sl _ _ b off cap sz arr cs h1 h2 hb h hl hc => exact .slEmpty _ _ _
theorem TrS.keep (v : AV) : TrS H v v := fun _ _ hc _ _ h => h.mono hc
theorem TrS.of {v v' : AV} (ha : v.isAgg = v'.isAgg) (hs : v.isAgg = true ∨ v.solid = true) (h : TrV H v v') : TrS H v v' := fun c c' hc hr u hx => by
  cases hx with
  | agg _ cs h1 h2 => exact .agg _ cs (ha ▸ h1) (h c c' hc hr cs h2)
  | one _ _ h1 h2 => exact .one _ _ (ha ▸ h1) (h c c' hc hr _ h2)
  | tup vs us _ => rcases hs with hs | hs <;> cases hs
  | bot => rcases hs with hs | hs <;> cases hs
theorem TrV.ref {o n m : Nat} {g : Nat → DV} (hm : m ≤ n) : TrV (FzH o n g) (.ref o n 0 m) (.d (.sl m g)) := fun c _ _ hr cs h => by
  have : ∃ u, cs = [u] := by cases h with | ref _ _ _ _ v _ => exact ⟨v, rfl⟩
  obtain ⟨u, rfl⟩ := this
  exact hr m u hm h
theorem TrV.born {o : Nat} {f : Nat → DV} : TrV (BnH o) (.full 0 f) (.ref o 0 0 0) := fun c _ _ hr cs h => by
  have : ∃ u, cs = [u] := by cases h with | full _ _ a _ => exact ⟨_, rfl⟩
  obtain ⟨u, rfl⟩ := this
  exact hr f u h
end

/-- The objects: the o-th is dead, boxes are said anew. -/
inductive TrO (H : Cx → Cx → Prop) (o : Nat) : Nat → List Ob → List Ob → Prop
  | nil (k : Nat) : TrO H o k [] []
  | keep (k : Nat) (x : Ob) (r r' : List Ob) (hk : k ≠ o) (h : TrO H o (k + 1) r r') : TrO H o k (x :: r) (x :: r')
  | box (k : Nat) (x y : AV) (r r' : List Ob) (hk : k ≠ o) (hx : TrV H x y) (h : TrO H o (k + 1) r r') : TrO H o k (.box x :: r) (.box y :: r')
  | here (k : Nat) (x : Ob) (r r' : List Ob) (hk : k = o) (h : TrO H o (k + 1) r r') : TrO H o k (x :: r) (.dead :: r')

theorem TrO.get {H : Cx → Cx → Prop} {o k : Nat} {L L' : List Ob} (h : TrO H o k L L') : L.length = L'.length ∧ ∀ (i : Nat) (y : Ob), L'[i]? = some y →
    (k + i = o ∧ y = .dead) ∨ (k + i ≠ o ∧ ∃ x, L[i]? = some x ∧ (x = y ∨ ∃ a b, x = .box a ∧ y = .box b ∧ TrV H a b)) := by
  induction h with
  | nil k => exact ⟨rfl, fun i y e => by simp at e⟩
  | keep k x r r' hk h ih =>
    refine ⟨by simp [ih.1], fun i y e => ?_⟩
    cases i with
    | zero => simp at e; subst e; exact .inr ⟨by omega, x, rfl, .inl rfl⟩
    | succ i =>
      rcases ih.2 i y (by simpa using e) with ⟨h1, h2⟩ | ⟨h1, h2⟩
      · exact .inl ⟨by omega, h2⟩
      · exact .inr ⟨by omega, by simpa using h2⟩
  | box k x z r r' hk hx h ih =>
    refine ⟨by simp [ih.1], fun i y e => ?_⟩
    cases i with
    | zero => simp at e; subst e; exact .inr ⟨by omega, _, rfl, .inr ⟨x, z, rfl, rfl, hx⟩⟩
    | succ i =>
      rcases ih.2 i y (by simpa using e) with ⟨h1, h2⟩ | ⟨h1, h2⟩
      · exact .inl ⟨by omega, h2⟩
      · exact .inr ⟨by omega, by simpa using h2⟩
  | here k x r r' hk h ih =>
    refine ⟨by simp [ih.1], fun i y e => ?_⟩
    cases i with
    | zero => simp at e; subst e; exact .inl ⟨by omega, rfl⟩
    | succ i =>
      rcases ih.2 i y (by simpa using e) with ⟨h1, h2⟩ | ⟨h1, h2⟩
      · exact .inl ⟨by omega, h2⟩
      · exact .inr ⟨by omega, by simpa using h2⟩

theorem ref_dataG {X : Nat → Prop} {ms : Blocks} {L L' : List Ob} {w : World} (h : Rel X ms L w) {o sz n : Nat} {g : Nat → DV} (hL : L[o]? = some (.seq sz n fun j => .d (g j))) (hn : n < 2 ^ 63) :
    FzH o n g (cxOf X ms L w) (cxOf X (ms.set o none) L' w) := by
  intro m u hmn h1
  have ho : o < L.length := by
    rcases Nat.lt_or_ge o L.length with h' | h'
    · exact h'
    · rw [List.getElem?_eq_none h'] at hL; cases hL
  obtain ⟨_, _, hc⟩ := h.freeze ho
  cases h1 with
  | ref _ _ _ _ _ hr =>
  obtain ⟨_, _, _, h3⟩ := hr
  obtain ⟨_, h4⟩ := h3 sz _ hL
  refine .d _ _ ?_
  rcases h4 with ⟨h5, a, rfl⟩ | ⟨h5, _⟩ | ⟨b, tc, h5, h6, rfl⟩
  · have hob := h.obs o _ hL
    rcases hob with ⟨_, h0⟩ | ⟨b, tc, _, _, _, h6, _⟩
    · obtain rfl : m = 0 := by omega
      cases a with
      | none => exact .slNil _
      | some a => exact .slEmpty _ _ _
    · have := h5.symm.trans h6; cases this
  · exact absurd rfl h5
  · have hob := h.obs o _ hL
    rcases hob with ⟨h0, _⟩ | ⟨b', tc', arr, e, cs, k1, k2, k3, k4, k5, k6, k7⟩
    · have := h0.symm.trans h5; cases this
    · have e1 := k1.symm.trans h5
      cases e1
      have hlt' : o < ms.length := by rw [h.len]; exact ho
      have hb : memOf X (ms.set o none) w b = some arr := memOf_intro (h.lt b ⟨o, tc, h5⟩).2 (fun ⟨i, t, ei⟩ => by
        by_cases hio : o = i
        · subst hio
          rw [List.getElem?_set_self hlt'] at ei
          cases ei
        · rw [List.getElem?_set_ne hio] at ei
          exact hio (h.inj o i b tc t h5 ei)) k2
      refine .sl m g b (0 * sz) (tc - 0) sz arr cs (by omega) (by omega) hb (fun i hi => ?_) (fun i hi => k6 i (by omega)) (fun i hi j hj => ?_)
      · cases k5 i (by omega) with
        | d _ _ hx => exact hx.mono hc.M
      · rw [Nat.zero_mul, Nat.zero_add]; exact k7 i (by omega) j hj

/-- A change of what is said, the world as it is. -/
def Shifts (H : Cx → Cx → Prop) (L L' : List Ob) : Prop := ∀ (X : Nat → Prop) (ms : Blocks) (w : World), Rel X ms L w →
  ∃ ms', Rel X ms' L' w ∧ Ext ms w ms' w ∧ (cxOf X ms L w).le (cxOf X ms' L' w) ∧ H (cxOf X ms L w) (cxOf X ms' L' w)

theorem shift_freeze {o n sz : Nat} {g : Nat → DV} {L L' : List Ob} (hL : L[o]? = some (.seq sz n fun j => .d (g j))) (hn : n < 2 ^ 63) (hO : TrO (FzH o n g) o 0 L L') : Shifts (FzH o n g) L L' := by
  intro X ms w h
  have ho : o < L.length := by
    rcases Nat.lt_or_ge o L.length with h' | h'
    · exact h'
    · rw [List.getElem?_eq_none h'] at hL; cases hL
  obtain ⟨r1, e1, _⟩ := h.freeze ho
  obtain ⟨hlen, hget⟩ := hO.get
  have hm : ∀ i, i ≠ o → (ms.set o none)[i]? = ms[i]? := fun i hi => by rw [List.getElem?_set_ne (fun e => hi e.symm)]
  have hr := h.step (ms' := ms.set o none) (L' := L') (w' := w) e1 (by simp [h.len, hlen]) r1.lt r1.inj (by omega)
    (fun i y hi hl hs => by
      rcases hget i y hl with ⟨_, rfl⟩ | ⟨hk, x, hx, rfl | ⟨a, b, rfl, rfl, _⟩⟩
      · exact absurd rfl hs
      · exact ⟨x, hx, rfl, fun s hs => ⟨s, hs, Nat.le_refl _⟩, fun _ => hm i (by omega)⟩
      · exact ⟨_, hx, rfl, fun s hs => ⟨s, hs, Nat.le_refl _⟩, fun _ => hm i (by omega)⟩)
    (fun i y hl => by
      rcases hget i y hl with ⟨_, rfl⟩ | ⟨hk, x, hx, rfl | ⟨a, b, rfl, rfl, hfz⟩⟩
      · exact .inr fun _ => trivial
      · exact .inl ⟨hx, hm i (by omega), fun _ _ _ => rfl⟩
      · refine .inr fun hc => ?_
        rcases h.obs i _ hx with h1 | ⟨bb, tc, arr, e, h1, h2, h3⟩
        · exact .inl ((hm i (by omega)).trans h1)
        · exact .inr ⟨bb, tc, arr, e, (hm i (by omega)).trans h1, h2, hfz _ _ hc (ref_dataG h hL hn) _ h3⟩)
  exact ⟨_, hr.1, e1, hr.2, ref_dataG h hL hn⟩

theorem shift_kill {o : Nat} {L : List Ob} (ho : o < L.length) : Shifts NoH L (L.set o .dead) := fun _ _ _ h => by
  obtain ⟨r1, e1, c1⟩ := h.freeze ho
  exact ⟨_, r1, e1, c1, trivial⟩

theorem shift_unb {L : List Ob} : Shifts NoH L (L ++ [.unb]) := fun X ms w h => by
  obtain ⟨r1, e1, c1⟩ := h.push (Grow.refl w) (m := none) (obj := .unb) (fun b tc e => by cases e) (fun _ => by simp [ObIs, cxOf, ← h.len])
  exact ⟨_, r1, e1, c1, trivial⟩

/-- A row that is not yet born is added, then boxes are said anew. -/
theorem shift_born {sz : Nat} {f : Nat → AV} {L L' : List Ob} (hO : TrO (BnH L.length) L.length 0 L L') : Shifts (BnH L.length) L (L' ++ [.seq sz 0 f]) := by
  intro X ms w h
  obtain ⟨hlen, hget⟩ := hO.get
  obtain ⟨r1, e1, c1⟩ := h.push (Grow.refl w) (m := none) (obj := .seq sz 0 f) (fun b tc e => by cases e) (fun _ => .inl ⟨by simp [cxOf, ← h.len], rfl⟩)
  have hH : ∀ L'' : List Ob, L''.length = L.length → BnH L.length (cxOf X ms L w) (cxOf X (ms ++ [none]) (L'' ++ [.seq sz 0 f]) w) := fun L'' hl g u hu => by
    cases hu with
    | full _ _ ad hx =>
      refine .ref _ _ _ _ _ ⟨by simp [cxOf, hl], ⟨ad, 0, rfl⟩, fun obj s e1 e2 => by omega, fun sz' f' e => ?_⟩
      exact ⟨by omega, .inl ⟨by simp [cxOf, ← h.len], ad, rfl⟩⟩
  have hms : ∀ i, i < L.length → (ms ++ [none])[i]? = ms[i]? := fun i hi => by rw [List.getElem?_append_left (by rw [h.len]; exact hi)]
  have hltL : ∀ {i : Nat} {x : Ob}, L[i]? = some x → i < L.length := fun {i x} e => by
    rcases Nat.lt_or_ge i L.length with h' | h'
    · exact h'
    · rw [List.getElem?_eq_none h'] at e; cases e
  have hr := h.step (ms' := ms ++ [none]) (L' := L' ++ [.seq sz 0 f]) (w' := w) e1 (by simp [h.len, hlen]) r1.lt r1.inj (by simp; omega)
    (fun i y hi hl hs => by
      rw [List.getElem?_append_left (by omega)] at hl
      rcases hget i y hl with ⟨_, rfl⟩ | ⟨hk, x, hx, rfl | ⟨a, b, rfl, rfl, _⟩⟩
      · exact absurd rfl hs
      · exact ⟨x, hx, rfl, fun s hs => ⟨s, hs, Nat.le_refl _⟩, fun _ => hms i hi⟩
      · exact ⟨_, hx, rfl, fun s hs => ⟨s, hs, Nat.le_refl _⟩, fun _ => hms i hi⟩)
    (fun i y hl => by
      rcases getElem?_snoc hl with hl | ⟨rfl, rfl⟩
      · rcases hget i y hl with ⟨_, rfl⟩ | ⟨hk, x, hx, rfl | ⟨a, b, rfl, rfl, hfz⟩⟩
        · exact .inr fun _ => trivial
        · exact .inl ⟨hx, hms i (hltL hx), fun _ _ _ => rfl⟩
        · refine .inr fun hc => ?_
          rcases h.obs i _ hx with h1 | ⟨bb, tc, arr, e, h1, h2, h3⟩
          · exact .inl ((hms i (hltL hx)).trans h1)
          · exact .inr ⟨bb, tc, arr, e, (hms i (hltL hx)).trans h1, h2, hfz _ _ hc (hH L' hlen.symm) _ h3⟩
      · have hml : ms.length = L'.length := by rw [h.len, hlen]
        exact .inr fun _ => .inl ⟨by simp [cxOf, ← hml], rfl⟩)
  exact ⟨_, hr.1, e1, hr.2, hH L' hlen.symm⟩

/-- Boxes are said anew. -/
theorem shift_weak {L L' : List Ob} (hO : TrO NoH L.length 0 L L') : Shifts NoH L L' := by
  intro X ms w h
  obtain ⟨hlen, hget⟩ := hO.get
  have hr := h.step (ms' := ms) (L' := L') (w' := w) (Ext.refl _ _) (by simp [h.len, hlen]) h.lt h.inj (by omega)
    (fun i y hi hl hs => by
      rcases hget i y hl with ⟨_, rfl⟩ | ⟨hk, x, hx, rfl | ⟨a, b, rfl, rfl, _⟩⟩
      · exact absurd rfl hs
      · exact ⟨x, hx, rfl, fun s hs => ⟨s, hs, Nat.le_refl _⟩, fun _ => rfl⟩
      · exact ⟨_, hx, rfl, fun s hs => ⟨s, hs, Nat.le_refl _⟩, fun _ => rfl⟩)
    (fun i y hl => by
      rcases hget i y hl with ⟨_, rfl⟩ | ⟨hk, x, hx, rfl | ⟨a, b, rfl, rfl, hfz⟩⟩
      · exact .inr fun _ => trivial
      · exact .inl ⟨hx, rfl, fun _ _ _ => rfl⟩
      · refine .inr fun hc => ?_
        rcases h.obs i _ hx with h1 | ⟨bb, tc, arr, e, h1, h2, h3⟩
        · exact .inl h1
        · exact .inr ⟨bb, tc, arr, e, h1, h2, hfz _ _ hc trivial _ h3⟩)
  exact ⟨_, hr.1, Ext.refl _ _, hr.2, trivial⟩

section
variable {P : Program} {N : Nat} {Q : Post} {fr fr' fr1 fr2 : Fr} {L L' L1 L2 : List Ob} {c : Code} {cs : List Code} {H : Cx → Cx → Prop}

def TrF (H : Cx → Cx → Prop) (fr fr' : Fr) : Prop := ∀ x ∈ fr', ∃ v, (x.1, v) ∈ fr ∧ TrS H v x.2

theorem trF_nil : TrF H fr [] := fun x hx => by cases hx
theorem trF_at {k s : Nat} {v w : AV} {r : Fr} (hm : fr[k]? = some (s, v)) (h : TrS H v w) (hr : TrF H fr r) : TrF H fr ((s, w) :: r) := fun x hx => by
  rcases List.mem_cons.1 hx with rfl | hx
  · exact ⟨v, List.mem_of_getElem? hm, h⟩
  · exact hr x hx

theorem aws_shift (hs : Shifts H L L') (hfr : TrF H fr fr') (h : AWs P N (c :: cs) Q fr' L') : AWs P N (c :: cs) Q fr L := by
  intro X ms w a hr hf hN hd
  obtain ⟨ms', r1, e1, c1, hH⟩ := hs X ms w hr
  have hf' : FrIs (cxOf X ms' L' w) fr'.up a.tmps := by
    intro x hx
    obtain ⟨y, hy, rfl⟩ := List.mem_map.1 hx
    obtain ⟨v, hv, hfz⟩ := hfr y hy
    obtain ⟨k1, k2, k3⟩ := hf _ (List.mem_map.2 ⟨_, hv, rfl⟩)
    exact ⟨k1, fun hh => hfz _ _ c1 hH _ (k2 hh), k3⟩
  refine wp_mono (h X ms' w a r1 hf' hN hd) ?_
  rintro e a2 w2 ⟨ms2, fr2, L2, q2, r2, e2, c2, f2, n2, d2⟩
  exact ⟨ms2, fr2, L2, q2, r2, e1.trans e2, c1.trans c2, f2, n2, d2⟩

/-- The same behind a piece of code. -/
theorem aw_shiftQ (hs : Shifts H L1 L2) (hfr : TrF H fr1 fr2) (h : AW P N c (fun e fr L => e = .normal ∧ fr = fr1 ∧ L = L1) fr L) (hQ : Q .normal fr2 L2) : AW P N c Q fr L := by
  intro X ms w a hr hf hN hd
  refine wp_mono (h X ms w a hr hf hN hd) ?_
  rintro e a2 w2 ⟨ms2, _, _, ⟨rfl, rfl, rfl⟩, r2, e2, c2, f2, n2, d2⟩
  obtain ⟨ms3, r3, e3, c3, hH⟩ := hs X ms2 w2 r2
  refine ⟨_, fr2, L2, hQ, r3, e2.trans e3, c2.trans c3, fun x hx => ?_, n2, d2⟩
  obtain ⟨y, hy, rfl⟩ := List.mem_map.1 hx
  obtain ⟨v, hv, hfz⟩ := hfr y hy
  obtain ⟨k1, k2, k3⟩ := f2 _ (List.mem_map.2 ⟨_, hv, rfl⟩)
  exact ⟨k1, fun hh => hfz _ _ c3 hH _ (k2 hh), k3⟩

/-- A region, and a change of what is said behind it. -/
theorem aws_then (hs : Shifts H L1 L2) (hfr : TrF H fr1 fr2) (h : AW P N c (fun e fr L => e = .normal ∧ fr = fr1 ∧ L = L1) fr L) (hQ : AWs P N cs Q fr2 L2) : AWs P N (c :: cs) Q fr L :=
  aw_shiftQ hs hfr h hQ

theorem aw_then (hs : Shifts H L1 L2) (hfr : TrF H fr1 fr2) (h : AW P N c (fun e fr L => e = .normal ∧ fr = fr1 ∧ L = L1) fr L) : AW P N c (fun e fr L => e = .normal ∧ fr = fr2 ∧ L = L2) fr L :=
  aw_shiftQ hs hfr h ⟨rfl, rfl, rfl⟩

theorem aws_cast (h : AWs P N cs Q fr' L') (h1 : fr = fr') (h2 : L = L') : AWs P N cs Q fr L := by subst h1; subst h2; exact h
end
end Go.TA
