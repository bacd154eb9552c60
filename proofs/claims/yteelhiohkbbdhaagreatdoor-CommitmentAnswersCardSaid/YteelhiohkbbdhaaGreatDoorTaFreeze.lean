/- A part of the proof: laws over any program of the abstract machine. No condition. -/
import Derived.Test.YteelhiohkbbdhaaGreatDoorTaFn
namespace Go.TA
open Go
variable {z : Option Nat}

/-! ## a row that has grown becomes data; a row that is not there yet -/
section
variable {P : Program} {N : Nat} {Q : Post} {fr fr' : Fr} {L : List Ob}

theorem Rel.freeze {X : Nat → Prop} {ms : Blocks} {w : World} (h : Rel X ms L w) {o : Nat} (ho : o < L.length) :
    Rel X (ms.set o none) (L.set o .dead) w ∧ Ext ms w (ms.set o none) w ∧ (cxOf X ms L w).le (cxOf X (ms.set o none) (L.set o .dead) w) := by
  have hlt' : o < ms.length := by rw [h.len]; exact ho
  have hget : ∀ i b tc, (ms.set o none)[i]? = some (some (b, tc)) → i ≠ o ∧ ms[i]? = some (some (b, tc)) := fun i b tc e => by
    by_cases hio : o = i
    · subst hio
      rw [List.getElem?_set_self hlt'] at e
      cases e
    · rw [List.getElem?_set_ne hio] at e
      exact ⟨fun e' => hio e'.symm, e⟩
  have he : Ext ms w (ms.set o none) w := ⟨Nat.le_refl _, fun b _ hn => ⟨rfl, fun ⟨i, tc, e⟩ => hn ⟨i, tc, (hget i b tc e).2⟩⟩, SameOut.refl w⟩
  have hr := h.step (ms' := ms.set o none) (L' := L.set o .dead) (w' := w) he (by simp [h.len]) (fun b ⟨i, tc, e⟩ => h.lt b ⟨i, tc, (hget i b tc e).2⟩)
    (fun i j b t1 t2 e1 e2 => h.inj i j b t1 t2 (hget i b t1 e1).2 (hget j b t2 e2).2) (by simp)
    (fun i x hi hl hs => by
      by_cases hio : o = i
      · subst hio
        rw [List.getElem?_set_self ho] at hl
        cases hl
        exact absurd rfl hs
      · rw [List.getElem?_set_ne hio] at hl
        exact ⟨x, hl, rfl, fun s hs => ⟨s, hs, Nat.le_refl _⟩, fun _ => by rw [List.getElem?_set_ne hio]⟩)
    (fun i x hl => by
      by_cases hio : o = i
      · subst hio
        rw [List.getElem?_set_self ho] at hl
        cases hl
        exact .inr fun _ => trivial
      · rw [List.getElem?_set_ne hio] at hl
        exact .inl ⟨hl, by rw [List.getElem?_set_ne hio], fun _ _ _ => rfl⟩)
  exact ⟨hr.1, he, hr.2⟩

theorem ref_data {X : Nat → Prop} {ms : Blocks} {w : World} (h : Rel X ms L w) {o sz n : Nat} {g : Nat → DV} (hL : L[o]? = some (.seq sz n fun j => .d (g j))) (hn : n < 2 ^ 63) {u : Value}
    (hu : AV.IsV (cxOf X ms L w) (.ref o n 0 n) u) : AV.IsV (cxOf X (ms.set o none) (L.set o .dead) w) (.d (.sl n g)) u := by
  have ho : o < L.length := by
    rcases Nat.lt_or_ge o L.length with h' | h'
    · exact h'
    · rw [List.getElem?_eq_none h'] at hL; cases hL
  obtain ⟨_, _, hc⟩ := h.freeze ho
  have h1 := IsV.is1 rfl (by simp) (by simp) hu
  cases h1 with
  | ref _ _ _ _ _ hr =>
  obtain ⟨_, _, _, h3⟩ := hr
  obtain ⟨_, h4⟩ := h3 sz _ hL
  refine .one _ _ rfl (.d _ _ ?_)
  rcases h4 with ⟨h5, a, rfl⟩ | ⟨h5, _⟩ | ⟨b, tc, h5, h6, rfl⟩
  · have hob := h.obs o _ hL
    rcases hob with ⟨_, h0⟩ | ⟨b, tc, _, _, _, h6, _⟩
    · subst h0
      cases a with
      | none => exact .slNil _
      | some a => exact .slEmpty _ _ _
    · have := h5.symm.trans h6; cases this
  · exact absurd rfl h5
  · have hob := h.obs o _ hL
    rcases hob with ⟨h0, _⟩ | ⟨b', tc', arr, e, cs, k1, k2, k3, k4, k5, k6, k7⟩
    · have := h0.symm.trans h5; cases this
    · have e1 := k1.symm.trans h5
      cases e1
      have hlt' : o < ms.length := by rw [h.len]; exact ho
      have hb : memOf X (ms.set o none) w b = some arr := memOf_intro (h.lt b ⟨o, tc, h5⟩).2 (fun ⟨i, t, ei⟩ => by
        by_cases hio : o = i
        · subst hio
          rw [List.getElem?_set_self hlt'] at ei
          cases ei
        · rw [List.getElem?_set_ne hio] at ei
          exact hio (h.inj o i b tc t h5 ei)) k2
      refine .sl n g b (0 * sz) (tc - 0) sz arr cs (by omega) hn hb (fun i hi => ?_) k6 (fun i hi j hj => ?_)
      · cases k5 i hi with
        | d _ _ hx => exact hx.mono hc.M
      · rw [Nat.zero_mul, Nat.zero_add]; exact k7 i hi j hj

/-- The row o is data from here on. -/
theorem aws_freeze {cs : List Code} (o : Nat) {sz n : Nat} {g : Nat → DV} (hL : L[o]? = some (.seq sz n fun j => .d (g j))) (hn : n < 2 ^ 63) (hfr : ∀ x ∈ fr', x ∈ fr ∨ (x.2 = .d (.sl n g) ∧ (x.1, AV.ref o n 0 n) ∈ fr))
    (hne : cs ≠ []) (h : AWs z P N cs Q fr' (L.set o .dead)) : AWs z P N cs Q fr L := by
  cases cs with
  | nil => exact absurd rfl hne
  | cons c cs =>
    intro zn df X ms w a hr hf hN hd
    have ho : o < L.length := by
      rcases Nat.lt_or_ge o L.length with h' | h'
      · exact h'
      · rw [List.getElem?_eq_none h'] at hL; cases hL
    obtain ⟨r1, e1, c1⟩ := hr.freeze ho
    have hf' : FrIs (cxOf X (ms.set o none) (L.set o .dead) w) fr'.up a.tmps := by
      intro x hx
      obtain ⟨y, hy, rfl⟩ := List.mem_map.1 hx
      rcases hfr y hy with hy | ⟨hv, hy⟩
      · exact (hf.mono c1) _ (List.mem_map.2 ⟨y, hy, rfl⟩)
      · obtain ⟨k1, k2, k3⟩ := hf _ (List.mem_map.2 ⟨_, hy, rfl⟩)
        refine ⟨k1, fun hh => ?_, k3⟩
        show AV.IsV _ y.2 _
        rw [hv]
        exact ref_data hr hL hn (k2 hh)
    refine wpIn_mono (h zn df X (ms.set o none) w a r1 hf' hN hd) ?_
    rintro e a2 w2 ⟨ms2, fr2, L2, q2, r2, e2, c2, f2, n2, d2⟩
    exact ⟨ms2, fr2, L2, q2, r2, e1.trans e2, c1.trans c2, f2, n2, d2⟩

/-- A nil slice begins a row. -/
theorem aws_unborn {cs : List Code} (sz : Nat) (f : Nat → AV) (hfr : ∀ x ∈ fr', x ∈ fr ∨ (x.2 = .ref L.length 0 0 0 ∧ ∃ g, (x.1, AV.full 0 g) ∈ fr)) (hne : cs ≠ [])
    (h : AWs z P N cs Q fr' (L ++ [.seq sz 0 f])) : AWs z P N cs Q fr L := by
  cases cs with
  | nil => exact absurd rfl hne
  | cons c cs =>
    intro zn df X ms w a hr hf hN hd
    obtain ⟨r1, e1, c1⟩ := hr.push (Grow.refl w) (m := none) (obj := .seq sz 0 f) (fun b tc e => by cases e) (fun _ => .inl ⟨by simp [cxOf, ← hr.len], rfl⟩)
    have hf' : FrIs (cxOf X (ms ++ [none]) (L ++ [.seq sz 0 f]) w) fr'.up a.tmps := by
      intro x hx
      obtain ⟨y, hy, rfl⟩ := List.mem_map.1 hx
      rcases hfr y hy with hy | ⟨hv, g, hy⟩
      · exact (hf.mono c1) _ (List.mem_map.2 ⟨y, hy, rfl⟩)
      · obtain ⟨k1, k2, k3⟩ := hf _ (List.mem_map.2 ⟨_, hy, rfl⟩)
        refine ⟨k1, fun hh => ?_, k3⟩
        have k4 := IsV.is1 rfl (by simp) (by simp) (k2 hh)
        show AV.IsV _ y.2 _
        rw [hv]
        refine .one _ _ rfl ?_
        show AV.Is _ _ [a.tmps.getD y.1 undef]
        generalize hu : a.tmps.getD y.1 undef = u at k4
        have k5 : AV.Is (cxOf X ms L w) (.full 0 g) [u] := by rw [← hu]; exact IsV.is1 rfl (by simp) (by simp) (k2 hh)
        cases k5 with
        | full _ _ ad hx =>
        refine .ref _ _ _ _ _ ⟨by simp [cxOf], ⟨ad, 0, rfl⟩, fun obj s e1 e2 => by omega, fun sz' f' e => ?_⟩
        exact ⟨by omega, .inl ⟨by simp [cxOf, ← hr.len], ad, rfl⟩⟩
    refine wpIn_mono (h zn df X (ms ++ [none]) w a r1 hf' hN hd) ?_
    rintro e a2 w2 ⟨ms2, fr2, L2, q2, r2, e2, c2, f2, n2, d2⟩
    exact ⟨ms2, fr2, L2, q2, r2, e1.trans e2, c1.trans c2, f2, n2, d2⟩
end

section
variable {fr r : Fr} {o n : Nat} {g : Nat → DV}
theorem frz_nil {p : Nat × AV → Prop} : ∀ x ∈ ([] : Fr), p x := fun x hx => by cases hx
theorem frz_keep {p : Nat × AV → Prop} {y : Nat × AV} (k : Nat) (h : fr[k]? = some y) (hr : ∀ x ∈ r, x ∈ fr ∨ p x) : ∀ x ∈ y :: r, x ∈ fr ∨ p x := fun x hx => by
  rcases List.mem_cons.1 hx with rfl | hx
  · exact .inl (List.mem_of_getElem? h)
  · exact hr x hx
theorem frz_ref {s : Nat} (k : Nat) (h : fr[k]? = some (s, AV.ref o n 0 n)) (hr : ∀ x ∈ r, x ∈ fr ∨ (x.2 = .d (.sl n g) ∧ (x.1, AV.ref o n 0 n) ∈ fr)) :
    ∀ x ∈ (s, AV.d (.sl n g)) :: r, x ∈ fr ∨ (x.2 = .d (.sl n g) ∧ (x.1, AV.ref o n 0 n) ∈ fr) := fun x hx => by
  rcases List.mem_cons.1 hx with rfl | hx
  · exact .inr ⟨rfl, List.mem_of_getElem? h⟩
  · exact hr x hx
theorem frz_nilref {s m : Nat} {f : Nat → DV} (k : Nat) (h : fr[k]? = some (s, AV.full 0 f)) (hr : ∀ x ∈ r, x ∈ fr ∨ (x.2 = .ref m 0 0 0 ∧ ∃ g, (x.1, AV.full 0 g) ∈ fr)) :
    ∀ x ∈ (s, AV.ref m 0 0 0) :: r, x ∈ fr ∨ (x.2 = .ref m 0 0 0 ∧ ∃ g, (x.1, AV.full 0 g) ∈ fr) := fun x hx => by
  rcases List.mem_cons.1 hx with rfl | hx
  · exact .inr ⟨rfl, f, List.mem_of_getElem? h⟩
  · exact hr x hx
end
end Go.TA

namespace Go.TA
open Go
variable {z : Option Nat}

/-! ## What is known is said anew: a row becomes data, a nil slice a row -/
def TrV (H : Cx → Cx → Prop) (v v' : AV) : Prop := ∀ c c' : Cx, c.le c' → H c c' → ∀ cs, AV.Is c v cs → AV.Is c' v' cs
def TrL (H : Cx → Cx → Prop) (v v' : List AV) : Prop := ∀ c c' : Cx, c.le c' → H c c' → ∀ cs, AV.IsL c v cs → AV.IsL c' v' cs
/-- The same of slots. -/
def TrS (H : Cx → Cx → Prop) (v v' : AV) : Prop := ∀ c c' : Cx, c.le c' → H c c' → ∀ u, AV.IsV c v u → AV.IsV c' v' u

/-- The row o is data: any part of it that begins where it begins. -/
def FzH (o n : Nat) (g : Nat → DV) (c c' : Cx) : Prop := ∀ m u, m ≤ n → AV.Is c (.ref o n 0 m) [u] → AV.Is c' (.d (.sl m g)) [u]
/-- A nil slice is a row of its own. -/
def BnH (o : Nat) (c c' : Cx) : Prop := ∀ f u, AV.Is c (.full 0 f) [u] → AV.Is c' (.ref o 0 0 0) [u]
def NoH (_ _ : Cx) : Prop := True

theorem AV.IsL.to_d {c : Cx} : ∀ {xs : List DV} {cs : List Value}, AV.IsL c (xs.map AV.d) cs → DV.IsL c.M xs cs
  | [], _, h => by cases h; exact .nil
  | x :: xs, _, h => by
    cases h with
    | cons _ _ k ks h1 h2 =>
      cases h1 with
      | d _ _ h1 => exact .cons _ _ k ks h1 (AV.IsL.to_d h2)

section
variable {H : Cx → Cx → Prop}
theorem TrV.keep (v : AV) : TrV H v v := fun _ _ hc _ _ h => h.mono hc
theorem TrL.nil : TrL H [] [] := fun _ _ _ _ cs h => by cases h; exact .nil
theorem TrL.cons {x y : AV} {xs ys : List AV} (h : TrV H x y) (ht : TrL H xs ys) : TrL H (x :: xs) (y :: ys) := fun c c' hc hr cs hx => by
  cases hx with
  | cons _ _ k ks h1 h2 => exact .cons _ _ k ks (h c c' hc hr k h1) (ht c c' hc hr ks h2)
theorem TrV.agg {xs ys : List AV} (h : TrL H xs ys) : TrV H (.agg xs) (.agg ys) := fun c c' hc hr cs hx => by
  cases hx with
  | agg _ _ hx => exact .agg _ _ (h c c' hc hr cs hx)
theorem TrV.aggD {xs : List AV} {ys : List DV} (h : TrL H xs (ys.map AV.d)) : TrV H (.agg xs) (.d (.agg ys)) := fun c c' hc hr cs hx => by
  cases hx with
  | agg _ _ hx => exact .d _ _ (.agg _ _ (AV.IsL.to_d (h c c' hc hr cs hx)))
theorem TrV.dAgg {xs : List DV} : TrV H (.d (.agg xs)) (.agg (xs.map AV.d)) := fun c c' hc _ cs hx => by
  cases hx with
  | d _ _ hx => cases hx with
    | agg _ _ hx => exact .agg _ _ ((AV.IsL.of_d hx).mono hc)
theorem TrV.trans {x y z : AV} (h : TrV H x y) (h' : TrV NoH y z) : TrV H x z := fun c c' hc hr cs hx => h' c' c' (Cx.le.refl _) trivial cs (h c c' hc hr cs hx)
theorem TrV.trans' {x y z : AV} (h : TrV NoH x y) (h' : TrV H y z) : TrV H x z := fun c c' hc hr cs hx => h' c c' hc hr cs (h c c (Cx.le.refl _) trivial cs hx)
theorem TrV.full {f g : Nat → DV} : TrV H (.full 0 f) (.d (.sl 0 g)) := fun c c' hc _ cs hx => by
  cases hx with
  | full _ _ a hx =>
    refine .d _ _ ?_
    cases hx with
    | slNil => exact .slNil _
    | slEmpty => exact .slEmpty _ _ _
    | sl _ _ b off cap sz arr cs h1 h2 hb h hl hc => exact .slEmpty _ _ _
theorem TrS.keep (v : AV) : TrS H v v := fun _ _ hc _ _ h => h.mono hc
theorem TrS.of {v v' : AV} (ha : v.isAgg = v'.isAgg) (hs : v.isAgg = true ∨ v.solid = true) (h : TrV H v v') : TrS H v v' := fun c c' hc hr u hx => by
  cases hx with
  | agg _ cs h1 h2 => exact .agg _ cs (ha ▸ h1) (h c c' hc hr cs h2)
  | one _ _ h1 h2 => exact .one _ _ (ha ▸ h1) (h c c' hc hr _ h2)
  | tup vs us _ => rcases hs with hs | hs <;> cases hs
  | bot => rcases hs with hs | hs <;> cases hs
theorem TrV.ref {o n m : Nat} {g : Nat → DV} (hm : m ≤ n) : TrV (FzH o n g) (.ref o n 0 m) (.d (.sl m g)) := fun c _ _ hr cs h => by
  have : ∃ u, cs = [u] := by cases h with | ref _ _ _ _ v _ => exact ⟨v, rfl⟩
  obtain ⟨u, rfl⟩ := this
  exact hr m u hm h
theorem TrV.born {o : Nat} {f : Nat → DV} : TrV (BnH o) (.full 0 f) (.ref o 0 0 0) := fun c _ _ hr cs h => by
  have : ∃ u, cs = [u] := by cases h with | full _ _ a _ => exact ⟨_, rfl⟩
  obtain ⟨u, rfl⟩ := this
  exact hr f u h
end

/-- The objects: the o-th is dead, boxes are said anew. -/
inductive TrO (H : Cx → Cx → Prop) (o : Nat) : Nat → List Ob → List Ob → Prop
  | nil (k : Nat) : TrO H o k [] []
  | keep (k : Nat) (x : Ob) (r r' : List Ob) (hk : k ≠ o) (h : TrO H o (k + 1) r r') : TrO H o k (x :: r) (x :: r')
  | box (k : Nat) (x y : AV) (r r' : List Ob) (hk : k ≠ o) (hx : TrV H x y) (h : TrO H o (k + 1) r r') : TrO H o k (.box x :: r) (.box y :: r')
  | here (k : Nat) (x : Ob) (r r' : List Ob) (hk : k = o) (h : TrO H o (k + 1) r r') : TrO H o k (x :: r) (.dead :: r')

theorem TrO.get {H : Cx → Cx → Prop} {o k : Nat} {L L' : List Ob} (h : TrO H o k L L') : L.length = L'.length ∧ ∀ (i : Nat) (y : Ob), L'[i]? = some y →
    (k + i = o ∧ y = .dead) ∨ (k + i ≠ o ∧ ∃ x, L[i]? = some x ∧ (x = y ∨ ∃ a b, x = .box a ∧ y = .box b ∧ TrV H a b)) := by
  induction h with
  | nil k => exact ⟨rfl, fun i y e => by simp at e⟩
  | keep k x r r' hk h ih =>
    refine ⟨by simp [ih.1], fun i y e => ?_⟩
    cases i with
    | zero => simp at e; subst e; exact .inr ⟨by omega, x, rfl, .inl rfl⟩
    | succ i =>
      rcases ih.2 i y (by simpa using e) with ⟨h1, h2⟩ | ⟨h1, h2⟩
      · exact .inl ⟨by omega, h2⟩
      · exact .inr ⟨by omega, by simpa using h2⟩
  | box k x z r r' hk hx h ih =>
    refine ⟨by simp [ih.1], fun i y e => ?_⟩
    cases i with
    | zero => simp at e; subst e; exact .inr ⟨by omega, _, rfl, .inr ⟨x, z, rfl, rfl, hx⟩⟩
    | succ i =>
      rcases ih.2 i y (by simpa using e) with ⟨h1, h2⟩ | ⟨h1, h2⟩
      · exact .inl ⟨by omega, h2⟩
      · exact .inr ⟨by omega, by simpa using h2⟩
  | here k x r r' hk h ih =>
    refine ⟨by simp [ih.1], fun i y e => ?_⟩
    cases i with
    | zero => simp at e; subst e; exact .inl ⟨by omega, rfl⟩
    | succ i =>
      rcases ih.2 i y (by simpa using e) with ⟨h1, h2⟩ | ⟨h1, h2⟩
      · exact .inl ⟨by omega, h2⟩
      · exact .inr ⟨by omega, by simpa using h2⟩

theorem ref_dataG {X : Nat → Prop} {ms : Blocks} {L L' : List Ob} {w : World} (h : Rel X ms L w) {o sz n : Nat} {g : Nat → DV} (hL : L[o]? = some (.seq sz n fun j => .d (g j))) (hn : n < 2 ^ 63) :
    FzH o n g (cxOf X ms L w) (cxOf X (ms.set o none) L' w) := by
  intro m u hmn h1
  have ho : o < L.length := by
    rcases Nat.lt_or_ge o L.length with h' | h'
    · exact h'
    · rw [List.getElem?_eq_none h'] at hL; cases hL
  obtain ⟨_, _, hc⟩ := h.freeze ho
  cases h1 with
  | ref _ _ _ _ _ hr =>
  obtain ⟨_, _, _, h3⟩ := hr
  obtain ⟨_, h4⟩ := h3 sz _ hL
  refine .d _ _ ?_
  rcases h4 with ⟨h5, a, rfl⟩ | ⟨h5, _⟩ | ⟨b, tc, h5, h6, rfl⟩
  · have hob := h.obs o _ hL
    rcases hob with ⟨_, h0⟩ | ⟨b, tc, _, _, _, h6, _⟩
    · obtain rfl : m = 0 := by omega
      cases a with
      | none => exact .slNil _
      | some a => exact .slEmpty _ _ _
    · have := h5.symm.trans h6; cases this
  · exact absurd rfl h5
  · have hob := h.obs o _ hL
    rcases hob with ⟨h0, _⟩ | ⟨b', tc', arr, e, cs, k1, k2, k3, k4, k5, k6, k7⟩
    · have := h0.symm.trans h5; cases this
    · have e1 := k1.symm.trans h5
      cases e1
      have hlt' : o < ms.length := by rw [h.len]; exact ho
      have hb : memOf X (ms.set o none) w b = some arr := memOf_intro (h.lt b ⟨o, tc, h5⟩).2 (fun ⟨i, t, ei⟩ => by
        by_cases hio : o = i
        · subst hio
          rw [List.getElem?_set_self hlt'] at ei
          cases ei
        · rw [List.getElem?_set_ne hio] at ei
          exact hio (h.inj o i b tc t h5 ei)) k2
      refine .sl m g b (0 * sz) (tc - 0) sz arr cs (by omega) (by omega) hb (fun i hi => ?_) (fun i hi => k6 i (by omega)) (fun i hi j hj => ?_)
      · cases k5 i (by omega) with
        | d _ _ hx => exact hx.mono hc.M
      · rw [Nat.zero_mul, Nat.zero_add]; exact k7 i (by omega) j hj

/-- A change of what is said, the world as it is. -/
def Shifts (H : Cx → Cx → Prop) (L L' : List Ob) : Prop := ∀ (X : Nat → Prop) (ms : Blocks) (w : World), Rel X ms L w →
  ∃ ms', Rel X ms' L' w ∧ Ext ms w ms' w ∧ (cxOf X ms L w).le (cxOf X ms' L' w) ∧ H (cxOf X ms L w) (cxOf X ms' L' w)

theorem shift_freeze {o n sz : Nat} {g : Nat → DV} {L L' : List Ob} (hL : L[o]? = some (.seq sz n fun j => .d (g j))) (hn : n < 2 ^ 63) (hO : TrO (FzH o n g) o 0 L L') : Shifts (FzH o n g) L L' := by
  intro X ms w h
  have ho : o < L.length := by
    rcases Nat.lt_or_ge o L.length with h' | h'
    · exact h'
    · rw [List.getElem?_eq_none h'] at hL; cases hL
  obtain ⟨r1, e1, _⟩ := h.freeze ho
  obtain ⟨hlen, hget⟩ := hO.get
  have hm : ∀ i, i ≠ o → (ms.set o none)[i]? = ms[i]? := fun i hi => by rw [List.getElem?_set_ne (fun e => hi e.symm)]
  have hr := h.step (ms' := ms.set o none) (L' := L') (w' := w) e1 (by simp [h.len, hlen]) r1.lt r1.inj (by omega)
    (fun i y hi hl hs => by
      rcases hget i y hl with ⟨_, rfl⟩ | ⟨hk, x, hx, rfl | ⟨a, b, rfl, rfl, _⟩⟩
      · exact absurd rfl hs
      · exact ⟨x, hx, rfl, fun s hs => ⟨s, hs, Nat.le_refl _⟩, fun _ => hm i (by omega)⟩
      · exact ⟨_, hx, rfl, fun s hs => ⟨s, hs, Nat.le_refl _⟩, fun _ => hm i (by omega)⟩)
    (fun i y hl => by
      rcases hget i y hl with ⟨_, rfl⟩ | ⟨hk, x, hx, rfl | ⟨a, b, rfl, rfl, hfz⟩⟩
      · exact .inr fun _ => trivial
      · exact .inl ⟨hx, hm i (by omega), fun _ _ _ => rfl⟩
      · refine .inr fun hc => ?_
        rcases h.obs i _ hx with h1 | ⟨bb, tc, arr, e, h1, h2, h3⟩
        · exact .inl ((hm i (by omega)).trans h1)
        · exact .inr ⟨bb, tc, arr, e, (hm i (by omega)).trans h1, h2, hfz _ _ hc (ref_dataG h hL hn) _ h3⟩)
  exact ⟨_, hr.1, e1, hr.2, ref_dataG h hL hn⟩

theorem shift_kill {o : Nat} {L : List Ob} (ho : o < L.length) : Shifts NoH L (L.set o .dead) := fun _ _ _ h => by
  obtain ⟨r1, e1, c1⟩ := h.freeze ho
  exact ⟨_, r1, e1, c1, trivial⟩

theorem shift_unb {L : List Ob} : Shifts NoH L (L ++ [.unb]) := fun X ms w h => by
  obtain ⟨r1, e1, c1⟩ := h.push (Grow.refl w) (m := none) (obj := .unb) (fun b tc e => by cases e) (fun _ => by simp [ObIs, cxOf, ← h.len])
  exact ⟨_, r1, e1, c1, trivial⟩

/-- A row that is not yet born is added, then boxes are said anew. -/
theorem shift_born {sz : Nat} {f : Nat → AV} {L L' : List Ob} (hO : TrO (BnH L.length) L.length 0 L L') : Shifts (BnH L.length) L (L' ++ [.seq sz 0 f]) := by
  intro X ms w h
  obtain ⟨hlen, hget⟩ := hO.get
  obtain ⟨r1, e1, c1⟩ := h.push (Grow.refl w) (m := none) (obj := .seq sz 0 f) (fun b tc e => by cases e) (fun _ => .inl ⟨by simp [cxOf, ← h.len], rfl⟩)
  have hH : ∀ L'' : List Ob, L''.length = L.length → BnH L.length (cxOf X ms L w) (cxOf X (ms ++ [none]) (L'' ++ [.seq sz 0 f]) w) := fun L'' hl g u hu => by
    cases hu with
    | full _ _ ad hx =>
      refine .ref _ _ _ _ _ ⟨by simp [cxOf, hl], ⟨ad, 0, rfl⟩, fun obj s e1 e2 => by omega, fun sz' f' e => ?_⟩
      exact ⟨by omega, .inl ⟨by simp [cxOf, ← h.len], ad, rfl⟩⟩
  have hms : ∀ i, i < L.length → (ms ++ [none])[i]? = ms[i]? := fun i hi => by rw [List.getElem?_append_left (by rw [h.len]; exact hi)]
  have hltL : ∀ {i : Nat} {x : Ob}, L[i]? = some x → i < L.length := fun {i x} e => by
    rcases Nat.lt_or_ge i L.length with h' | h'
    · exact h'
    · rw [List.getElem?_eq_none h'] at e; cases e
  have hr := h.step (ms' := ms ++ [none]) (L' := L' ++ [.seq sz 0 f]) (w' := w) e1 (by simp [h.len, hlen]) r1.lt r1.inj (by simp; omega)
    (fun i y hi hl hs => by
      rw [List.getElem?_append_left (by omega)] at hl
      rcases hget i y hl with ⟨_, rfl⟩ | ⟨hk, x, hx, rfl | ⟨a, b, rfl, rfl, _⟩⟩
      · exact absurd rfl hs
      · exact ⟨x, hx, rfl, fun s hs => ⟨s, hs, Nat.le_refl _⟩, fun _ => hms i hi⟩
      · exact ⟨_, hx, rfl, fun s hs => ⟨s, hs, Nat.le_refl _⟩, fun _ => hms i hi⟩)
    (fun i y hl => by
      rcases getElem?_snoc hl with hl | ⟨rfl, rfl⟩
      · rcases hget i y hl with ⟨_, rfl⟩ | ⟨hk, x, hx, rfl | ⟨a, b, rfl, rfl, hfz⟩⟩
        · exact .inr fun _ => trivial
        · exact .inl ⟨hx, hms i (hltL hx), fun _ _ _ => rfl⟩
        · refine .inr fun hc => ?_
          rcases h.obs i _ hx with h1 | ⟨bb, tc, arr, e, h1, h2, h3⟩
          · exact .inl ((hms i (hltL hx)).trans h1)
          · exact .inr ⟨bb, tc, arr, e, (hms i (hltL hx)).trans h1, h2, hfz _ _ hc (hH L' hlen.symm) _ h3⟩
      · have hml : ms.length = L'.length := by rw [h.len, hlen]
        exact .inr fun _ => .inl ⟨by simp [cxOf, ← hml], rfl⟩)
  exact ⟨_, hr.1, e1, hr.2, hH L' hlen.symm⟩

/-- Boxes are said anew. -/
theorem shift_weak {L L' : List Ob} (hO : TrO NoH L.length 0 L L') : Shifts NoH L L' := by
  intro X ms w h
  obtain ⟨hlen, hget⟩ := hO.get
  have hr := h.step (ms' := ms) (L' := L') (w' := w) (Ext.refl _ _) (by simp [h.len, hlen]) h.lt h.inj (by omega)
    (fun i y hi hl hs => by
      rcases hget i y hl with ⟨_, rfl⟩ | ⟨hk, x, hx, rfl | ⟨a, b, rfl, rfl, _⟩⟩
      · exact absurd rfl hs
      · exact ⟨x, hx, rfl, fun s hs => ⟨s, hs, Nat.le_refl _⟩, fun _ => rfl⟩
      · exact ⟨_, hx, rfl, fun s hs => ⟨s, hs, Nat.le_refl _⟩, fun _ => rfl⟩)
    (fun i y hl => by
      rcases hget i y hl with ⟨_, rfl⟩ | ⟨hk, x, hx, rfl | ⟨a, b, rfl, rfl, hfz⟩⟩
      · exact .inr fun _ => trivial
      · exact .inl ⟨hx, rfl, fun _ _ _ => rfl⟩
      · refine .inr fun hc => ?_
        rcases h.obs i _ hx with h1 | ⟨bb, tc, arr, e, h1, h2, h3⟩
        · exact .inl h1
        · exact .inr ⟨bb, tc, arr, e, h1, h2, hfz _ _ hc trivial _ h3⟩)
  exact ⟨_, hr.1, Ext.refl _ _, hr.2, trivial⟩

section
variable {P : Program} {N : Nat} {Q : Post} {fr fr' fr1 fr2 : Fr} {L L' L1 L2 : List Ob} {c : Code} {cs : List Code} {H : Cx → Cx → Prop}

def TrF (H : Cx → Cx → Prop) (fr fr' : Fr) : Prop := ∀ x ∈ fr', ∃ v, (x.1, v) ∈ fr ∧ TrS H v x.2

theorem trF_nil : TrF H fr [] := fun x hx => by cases hx
theorem trF_at {k s : Nat} {v w : AV} {r : Fr} (hm : fr[k]? = some (s, v)) (h : TrS H v w) (hr : TrF H fr r) : TrF H fr ((s, w) :: r) := fun x hx => by
  rcases List.mem_cons.1 hx with rfl | hx
  · exact ⟨v, List.mem_of_getElem? hm, h⟩
  · exact hr x hx

theorem aws_shift (hs : Shifts H L L') (hfr : TrF H fr fr') (h : AWs z P N (c :: cs) Q fr' L') : AWs z P N (c :: cs) Q fr L := by
  intro zn df X ms w a hr hf hN hd
  obtain ⟨ms', r1, e1, c1, hH⟩ := hs X ms w hr
  have hf' : FrIs (cxOf X ms' L' w) fr'.up a.tmps := by
    intro x hx
    obtain ⟨y, hy, rfl⟩ := List.mem_map.1 hx
    obtain ⟨v, hv, hfz⟩ := hfr y hy
    obtain ⟨k1, k2, k3⟩ := hf _ (List.mem_map.2 ⟨_, hv, rfl⟩)
    exact ⟨k1, fun hh => hfz _ _ c1 hH _ (k2 hh), k3⟩
  refine wpIn_mono (h zn df X ms' w a r1 hf' hN hd) ?_
  rintro e a2 w2 ⟨ms2, fr2, L2, q2, r2, e2, c2, f2, n2, d2⟩
  exact ⟨ms2, fr2, L2, q2, r2, e1.trans e2, c1.trans c2, f2, n2, d2⟩

/-- The same behind a piece of code. -/
theorem aw_shiftQ (hs : Shifts H L1 L2) (hfr : TrF H fr1 fr2) (h : AW z P N c (fun e fr L => e = .normal ∧ fr = fr1 ∧ L = L1) fr L) (hQ : Q .normal fr2 L2) : AW z P N c Q fr L := by
  intro zn df X ms w a hr hf hN hd
  refine wpIn_mono (h zn df X ms w a hr hf hN hd) ?_
  rintro e a2 w2 ⟨ms2, _, _, ⟨rfl, rfl, rfl⟩, r2, e2, c2, f2, n2, d2⟩
  obtain ⟨ms3, r3, e3, c3, hH⟩ := hs X ms2 w2 r2
  refine ⟨_, fr2, L2, hQ, r3, e2.trans e3, c2.trans c3, fun x hx => ?_, n2, d2⟩
  obtain ⟨y, hy, rfl⟩ := List.mem_map.1 hx
  obtain ⟨v, hv, hfz⟩ := hfr y hy
  obtain ⟨k1, k2, k3⟩ := f2 _ (List.mem_map.2 ⟨_, hv, rfl⟩)
  exact ⟨k1, fun hh => hfz _ _ c3 hH _ (k2 hh), k3⟩

/-- A region, and a change of what is said behind it. -/
theorem aws_then (hs : Shifts H L1 L2) (hfr : TrF H fr1 fr2) (h : AW z P N c (fun e fr L => e = .normal ∧ fr = fr1 ∧ L = L1) fr L) (hQ : AWs z P N cs Q fr2 L2) : AWs z P N (c :: cs) Q fr L :=
  aw_shiftQ hs hfr h hQ

theorem aw_then (hs : Shifts H L1 L2) (hfr : TrF H fr1 fr2) (h : AW z P N c (fun e fr L => e = .normal ∧ fr = fr1 ∧ L = L1) fr L) : AW z P N c (fun e fr L => e = .normal ∧ fr = fr2 ∧ L = L2) fr L :=
  aw_shiftQ hs hfr h ⟨rfl, rfl, rfl⟩

theorem aws_cast (h : AWs z P N cs Q fr' L') (h1 : fr = fr') (h2 : L = L') : AWs z P N cs Q fr L := by subst h1; subst h2; exact h
end
end Go.TA

namespace Go.TA
open Go

theorem catF_eq {α : Type} (n : Nat) (f g : Nat → α) (i : Nat) : catF n f g i = if i < n then f i else g (i - n) := by
  cases n with
  | zero => simp [catF]
  | succ n => rfl

theorem oLe_seq {sz n m : Nat} {f g : Nat → AV} (hn : n = m) (h : ∀ i, i < n → f i = g i) : OLe (.seq sz n f) (.seq sz m g) where
  kind := rfl
  stamp := by subst hn; rfl
  is := fun c w o hx => by
    subst hn
    rcases hx with hx | ⟨b, tc, arr, e, cs, h1, h2, h3, h4, h5, h6, h7⟩
    · exact .inl hx
    · exact .inr ⟨b, tc, arr, e, cs, h1, h2, h3, h4, fun i hi => by rw [← h i hi]; exact h5 i hi, h6, h7⟩

section
variable {α : Type} [Inhabited α] {e : α → DV} {l x : List α}
theorem getD_app {i : Nat} : (l ++ x).getD i default = if i < l.length then l.getD i default else x.getD (i - l.length) default := by
  simp only [List.getD_eq_getElem?_getD]
  split
  · rw [List.getElem?_append_left (by assumption)]
  · rw [List.getElem?_append_right (by omega)]

theorem oLe_app {sz : Nat} : OLe (.seq sz (l.length + x.length) (catF l.length (fun j => .d (e (l.getD j default))) (fun j => .d (e (x.getD j default))))) (eS sz e (l ++ x)) :=
  oLe_seq (by simp) fun i _ => by
    rw [catF_eq, getD_app]
    split <;> rfl

theorem leV_app0 : LeV (.d (.sl (0 + x.length) fun j => e (x.getD j default))) (.d (eL e x)) := leV_sl (by omega) fun _ _ => rfl
end

theorem leV_app {α : Type} {l x : List α} {o : Nat} : LeV (.ref o (l.length + x.length) 0 (l.length + x.length)) (.ref o (l ++ x).length 0 (l ++ x).length) := by
  rw [List.length_append]
  exact LeV.refl _

theorem leV_dle {x y : DV} (ha : (AV.d x).isAgg = (AV.d y).isAgg) (h : DLe x y) : LeV (.d x) (.d y) := fun c u hu => by
  cases hu with
  | agg _ cs h1 h2 =>
    cases h2 with
    | d _ _ h2 => exact .agg _ cs (ha ▸ h1) (.d _ _ (h _ _ h2))
  | one _ _ h1 h2 =>
    cases h2 with
    | d _ _ h2 => exact .one _ _ (ha ▸ h1) (.d _ _ (h _ _ h2))

theorem leV_arr {α : Type} {e : α → DV} {sz n : Nat} {f : Nat → DV} {g : Nat → α} (h : ∀ i, i < n → f i = e (g i)) : LeV (.d (.arr sz n f)) (.d (eA sz n e g)) :=
  leV_dle rfl fun M cs hx => by
    cases hx with
    | arr _ _ _ cs hh hl => exact .arr _ _ _ cs (fun i hi => h i hi ▸ hh i hi) hl

theorem oLe_set {α : Type} [Inhabited α] {e : α → DV} {sz i : Nat} {l : List α} {x : α} {f : Nat → AV} (hf : ∀ j, f j = if j = i then .d (e x) else .d (e (l.getD j default))) : OLe (.seq sz l.length f) (eS sz e (l.set i x)) :=
  oLe_seq (by simp) fun j hj => by
    rw [hf]
    simp only [List.getD_eq_getElem?_getD]
    by_cases h : j = i
    · subst h
      rw [if_pos rfl, List.getElem?_set_self hj]
      rfl
    · rw [if_neg h, List.getElem?_set_ne (fun e => h e.symm)]

section
variable {α : Type} [Inhabited α] {e : α → DV} {l : List α} {H : Cx → Cx → Prop}
/-- A row's first part, as a list. -/
theorem trV_take {m : Nat} (hm : m ≤ l.length) : TrV H (.d (.sl m fun j => e (l.getD j default))) (.d (eL e (l.take m))) := fun c c' hc _ cs hx => by
  have h : LeV (.d (.sl m fun j => e (l.getD j default))) (.d (eL e (l.take m))) := by
    have := leV_take (e := e) hm
    simpa using this
  cases hx with
  | d _ _ hx =>
    have h1 : ∃ u, cs = [u] := by cases hx <;> exact ⟨_, rfl⟩
    obtain ⟨u, rfl⟩ := h1
    have := IsV.is1 rfl (by simp) (by simp) (h c u (.one _ _ rfl (.d _ _ hx)))
    exact this.mono hc
end
theorem leV_tr {v v' : AV} (ha : v.isAgg = v'.isAgg) (hs : v.isAgg = true ∨ v.solid = true) (h : TrV NoH v v') : LeV v v' := fun c u hu => TrS.of ha hs h c c (Cx.le.refl _) trivial u hu
theorem trF_refl {H : Cx → Cx → Prop} (fr : Fr) : TrF H fr fr := fun x hx => ⟨x.2, hx, TrS.keep _⟩
theorem eM_lt {α β : Type} (eK : α → DV) (eV : β → DV) (l : List (α × β)) (n : Nat) : (eM eK eV l).lt n := trivial
theorem dLe_arrSet {α : Type} {e : α → DV} {sz n i : Nat} {x : α} {g : Nat → α} : DLe (.arr sz n fun j => if j = i then e x else e (g j)) (eA sz n e fun j => if j = i then x else g j) := fun M cs hx => by
  cases hx with
  | arr _ _ _ cs hh hl =>
    refine .arr _ _ _ cs (fun k hk => ?_) hl
    have := hh k hk
    by_cases h : k = i
    · simpa [h] using this
    · simpa [h] using this
def LeVs (vs ws : List AV) : Prop := ∀ c us, AV.IsVs c vs us → AV.IsVs c ws us
theorem LeVs.nil : LeVs [] [] := fun _ _ h => h
theorem LeVs.cons {v w : AV} {vs ws : List AV} (h : LeV v w) (ht : LeVs vs ws) : LeVs (v :: vs) (w :: ws) := fun c us hu => by
  cases hu with
  | cons _ _ u us h1 h2 => exact .cons _ _ u us (h c u h1) (ht c us h2)
theorem LeV.tup {vs ws : List AV} (h : LeVs vs ws) : LeV (.tup vs) (.tup ws) := fun c u hu => by
  cases hu with
  | tup _ us hu => exact .tup _ us (h c us hu)
  | agg _ _ ha _ => cases ha
  | one _ _ _ hx => cases hx
end Go.TA
