/- A part of the proof: laws over any program of the abstract machine. No condition. -/
import Derived.Test.YtkkdclpleghppaaTaFn3
namespace Go.TA
open Go

/-! ## a row that has grown becomes data; a row that is not there yet -/
section
variable {P : Program} {N : Nat} {Q : Post} {fr fr' : Fr} {L : List Ob}

theorem Rel.freeze {X : Nat → Prop} {ms : Blocks} {w : World} (h : Rel X ms L w) {o : Nat} (ho : o < L.length) :
    Rel X (ms.set o none) (L.set o .dead) w ∧ Ext ms w (ms.set o none) w ∧ (cxOf X ms L w).le (cxOf X (ms.set o none) (L.set o .dead) w) := by
  have hlt' : o < ms.length := by rw [h.len]; exact ho
  have hget : ∀ i b tc, (ms.set o none)[i]? = some (some (b, tc)) → i ≠ o ∧ ms[i]? = some (some (b, tc)) := fun i b tc e => by
    by_cases hio : o = i
    · subst hio
      rw [List.getElem?_set_self hlt'] at e
      cases e
    · rw [List.getElem?_set_ne hio] at e
      exact ⟨fun e' => hio e'.symm, e⟩
  have he : Ext ms w (ms.set o none) w := ⟨Nat.le_refl _, fun b _ hn => ⟨rfl, fun ⟨i, tc, e⟩ => hn ⟨i, tc, (hget i b tc e).2⟩⟩, SameOut.refl w⟩
  have hr := h.step (ms' := ms.set o none) (L' := L.set o .dead) (w' := w) he (by simp [h.len]) (fun b ⟨i, tc, e⟩ => h.lt b ⟨i, tc, (hget i b tc e).2⟩)
    (fun i j b t1 t2 e1 e2 => h.inj i j b t1 t2 (hget i b t1 e1).2 (hget j b t2 e2).2) (by simp)
    (fun i x hi hl hs => by
      by_cases hio : o = i
      · subst hio
        rw [List.getElem?_set_self ho] at hl
        cases hl
        exact absurd rfl hs
      · rw [List.getElem?_set_ne hio] at hl
        exact ⟨x, hl, rfl, fun s hs => ⟨s, hs, Nat.le_refl _⟩, fun _ => by rw [List.getElem?_set_ne hio]⟩)
    (fun i x hl => by
      by_cases hio : o = i
      · subst hio
        rw [List.getElem?_set_self ho] at hl
        cases hl
        exact .inr fun _ => trivial
      · rw [List.getElem?_set_ne hio] at hl
        exact .inl ⟨hl, by rw [List.getElem?_set_ne hio], fun _ _ _ => rfl⟩)
  exact ⟨hr.1, he, hr.2⟩

theorem ref_data {X : Nat → Prop} {ms : Blocks} {w : World} (h : Rel X ms L w) {o sz n : Nat} {g : Nat → DV} (hL : L[o]? = some (.seq sz n fun j => .d (g j))) (hn : n < 2 ^ 63) {u : Value}
    (hu : AV.IsV (cxOf X ms L w) (.ref o n 0 n) u) : AV.IsV (cxOf X (ms.set o none) (L.set o .dead) w) (.d (.sl n g)) u := by
  have ho : o < L.length := by
    rcases Nat.lt_or_ge o L.length with h' | h'
    · exact h'
    · rw [List.getElem?_eq_none h'] at hL; cases hL
  obtain ⟨_, _, hc⟩ := h.freeze ho
  have h1 := IsV.is1 rfl (by simp) (by simp) hu
  cases h1 with
  | ref _ _ _ _ _ hr =>
  obtain ⟨_, _, _, h3⟩ := hr
  obtain ⟨_, h4⟩ := h3 sz _ hL
  refine .one _ _ rfl (.d _ _ ?_)
  rcases h4 with ⟨h5, a, rfl⟩ | ⟨h5, _⟩ | ⟨b, tc, h5, h6, rfl⟩
  · have hob := h.obs o _ hL
    rcases hob with ⟨_, h0⟩ | ⟨b, tc, _, _, _, h6, _⟩
    · subst h0
      cases a with
      | none => exact .slNil _
      | some a => exact .slEmpty _ _ _
    · have := h5.symm.trans h6; cases this
  · exact absurd rfl h5
  · have hob := h.obs o _ hL
    rcases hob with ⟨h0, _⟩ | ⟨b', tc', arr, e, cs, k1, k2, k3, k4, k5, k6, k7⟩
    · have := h0.symm.trans h5; cases this
    · have e1 := k1.symm.trans h5
      cases e1
      have hlt' : o < ms.length := by rw [h.len]; exact ho
      have hb : memOf X (ms.set o none) w b = some arr := memOf_intro (h.lt b ⟨o, tc, h5⟩).2 (fun ⟨i, t, ei⟩ => by
        by_cases hio : o = i
        · subst hio
          rw [List.getElem?_set_self hlt'] at ei
          cases ei
        · rw [List.getElem?_set_ne hio] at ei
          exact hio (h.inj o i b tc t h5 ei)) k2
      refine .sl n g b (0 * sz) (tc - 0) sz arr cs (by omega) hn hb (fun i hi => ?_) k6 (fun i hi j hj => ?_)
      · cases k5 i hi with
        | d _ _ hx => exact hx.mono hc.M
      · rw [Nat.zero_mul, Nat.zero_add]; exact k7 i hi j hj

/-- The row o is data from here on. -/
theorem aws_freeze {cs : List Code} (o : Nat) {sz n : Nat} {g : Nat → DV} (hL : L[o]? = some (.seq sz n fun j => .d (g j))) (hn : n < 2 ^ 63) (hfr : ∀ x ∈ fr', x ∈ fr ∨ (x.2 = .d (.sl n g) ∧ (x.1, AV.ref o n 0 n) ∈ fr))
    (hne : cs ≠ []) (h : AWs P N cs Q fr' (L.set o .dead)) : AWs P N cs Q fr L := by
  cases cs with
  | nil => exact absurd rfl hne
  | cons c cs =>
    intro X ms w a hr hf hN hd
    have ho : o < L.length := by
      rcases Nat.lt_or_ge o L.length with h' | h'
      · exact h'
      · rw [List.getElem?_eq_none h'] at hL; cases hL
    obtain ⟨r1, e1, c1⟩ := hr.freeze ho
    have hf' : FrIs (cxOf X (ms.set o none) (L.set o .dead) w) fr'.up a.tmps := by
      intro x hx
      obtain ⟨y, hy, rfl⟩ := List.mem_map.1 hx
      rcases hfr y hy with hy | ⟨hv, hy⟩
      · exact (hf.mono c1) _ (List.mem_map.2 ⟨y, hy, rfl⟩)
      · obtain ⟨k1, k2, k3⟩ := hf _ (List.mem_map.2 ⟨_, hy, rfl⟩)
        refine ⟨k1, fun hh => ?_, k3⟩
        show AV.IsV _ y.2 _
        rw [hv]
        exact ref_data hr hL hn (k2 hh)
    refine wp_mono (h X (ms.set o none) w a r1 hf' hN hd) ?_
    rintro e a2 w2 ⟨ms2, fr2, L2, q2, r2, e2, c2, f2, n2, d2⟩
    exact ⟨ms2, fr2, L2, q2, r2, e1.trans e2, c1.trans c2, f2, n2, d2⟩

/-- A nil slice begins a row. -/
theorem aws_unborn {cs : List Code} (sz : Nat) (f : Nat → AV) (hfr : ∀ x ∈ fr', x ∈ fr ∨ (x.2 = .ref L.length 0 0 0 ∧ ∃ g, (x.1, AV.full 0 g) ∈ fr)) (hne : cs ≠ [])
    (h : AWs P N cs Q fr' (L ++ [.seq sz 0 f])) : AWs P N cs Q fr L := by
  cases cs with
  | nil => exact absurd rfl hne
  | cons c cs =>
    intro X ms w a hr hf hN hd
    obtain ⟨r1, e1, c1⟩ := hr.push (Grow.refl w) (m := none) (obj := .seq sz 0 f) (fun b tc e => by cases e) (fun _ => .inl ⟨by simp [cxOf, ← hr.len], rfl⟩)
    have hf' : FrIs (cxOf X (ms ++ [none]) (L ++ [.seq sz 0 f]) w) fr'.up a.tmps := by
      intro x hx
      obtain ⟨y, hy, rfl⟩ := List.mem_map.1 hx
      rcases hfr y hy with hy | ⟨hv, g, hy⟩
      · exact (hf.mono c1) _ (List.mem_map.2 ⟨y, hy, rfl⟩)
      · obtain ⟨k1, k2, k3⟩ := hf _ (List.mem_map.2 ⟨_, hy, rfl⟩)
        refine ⟨k1, fun hh => ?_, k3⟩
        have k4 := IsV.is1 rfl (by simp) (by simp) (k2 hh)
        show AV.IsV _ y.2 _
        rw [hv]
        refine .one _ _ rfl ?_
        show AV.Is _ _ [a.tmps.getD y.1 undef]
        generalize hu : a.tmps.getD y.1 undef = u at k4
        have k5 : AV.Is (cxOf X ms L w) (.full 0 g) [u] := by rw [← hu]; exact IsV.is1 rfl (by simp) (by simp) (k2 hh)
        cases k5 with
        | full _ _ ad hx =>
        refine .ref _ _ _ _ _ ⟨by simp [cxOf], ⟨ad, 0, rfl⟩, fun obj s e1 e2 => by omega, fun sz' f' e => ?_⟩
        exact ⟨by omega, .inl ⟨by simp [cxOf, ← hr.len], ad, rfl⟩⟩
    refine wp_mono (h X (ms ++ [none]) w a r1 hf' hN hd) ?_
    rintro e a2 w2 ⟨ms2, fr2, L2, q2, r2, e2, c2, f2, n2, d2⟩
    exact ⟨ms2, fr2, L2, q2, r2, e1.trans e2, c1.trans c2, f2, n2, d2⟩
end

section
variable {fr r : Fr} {o n : Nat} {g : Nat → DV}
theorem frz_nil {p : Nat × AV → Prop} : ∀ x ∈ ([] : Fr), p x := fun x hx => by cases hx
theorem frz_keep {p : Nat × AV → Prop} {y : Nat × AV} (k : Nat) (h : fr[k]? = some y) (hr : ∀ x ∈ r, x ∈ fr ∨ p x) : ∀ x ∈ y :: r, x ∈ fr ∨ p x := fun x hx => by
  rcases List.mem_cons.1 hx with rfl | hx
  · exact .inl (List.mem_of_getElem? h)
  · exact hr x hx
theorem frz_ref {s : Nat} (k : Nat) (h : fr[k]? = some (s, AV.ref o n 0 n)) (hr : ∀ x ∈ r, x ∈ fr ∨ (x.2 = .d (.sl n g) ∧ (x.1, AV.ref o n 0 n) ∈ fr)) :
    ∀ x ∈ (s, AV.d (.sl n g)) :: r, x ∈ fr ∨ (x.2 = .d (.sl n g) ∧ (x.1, AV.ref o n 0 n) ∈ fr) := fun x hx => by
  rcases List.mem_cons.1 hx with rfl | hx
  · exact .inr ⟨rfl, List.mem_of_getElem? h⟩
  · exact hr x hx
theorem frz_nilref {s m : Nat} {f : Nat → DV} (k : Nat) (h : fr[k]? = some (s, AV.full 0 f)) (hr : ∀ x ∈ r, x ∈ fr ∨ (x.2 = .ref m 0 0 0 ∧ ∃ g, (x.1, AV.full 0 g) ∈ fr)) :
    ∀ x ∈ (s, AV.ref m 0 0 0) :: r, x ∈ fr ∨ (x.2 = .ref m 0 0 0 ∧ ∃ g, (x.1, AV.full 0 g) ∈ fr) := fun x hx => by
  rcases List.mem_cons.1 hx with rfl | hx
  · exact .inr ⟨rfl, f, List.mem_of_getElem? h⟩
  · exact hr x hx
end
end Go.TA
