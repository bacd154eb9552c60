/- A part of the proof: laws over any program of the abstract machine. No condition. -/
import Derived.Test.YtkkdclpleghppaaTaOp8
import Derived.Below
namespace Go.TA
open Go

/-! ## How the relation goes on -/
theorem EntsIs.mono {c c' : Cx} (hc : c.le c') : ∀ {es : List (DV × DV)} {r : List MapEntry}, EntsIs c es r → EntsIs c' es r
  | [], [], _ => trivial
  | (_, _) :: _, _ :: _, h => ⟨h.1.mono hc, h.2.1.mono hc, EntsIs.mono hc h.2.2⟩
  | [], _ :: _, h => h.elim
  | _ :: _, [], h => h.elim

theorem ObIs.mono {c c' : Cx} {w w' : World} {o : Nat} {obj : Ob} (hc : c.le c') (hm : c'.ms[o]? = c.ms[o]?)
    (hb : ∀ b tc, c.ms[o]? = some (some (b, tc)) → w'.heap[b]? = w.heap[b]?) (h : ObIs c w o obj) : ObIs c' w' o obj := by
  cases obj with
  | box x =>
    rcases h with h | ⟨b, tc, arr, e, h1, h2, h3⟩
    · exact .inl (hm.trans h)
    · exact .inr ⟨b, tc, arr, e, hm.trans h1, (hb b tc h1).trans h2, h3.mono hc⟩
  | seq sz n f =>
    rcases h with h | ⟨b, tc, arr, e, cs, h1, h2, h3, h4, h5, h6⟩
    · exact .inl ⟨hm.trans h.1, h.2⟩
    · exact .inr ⟨b, tc, arr, e, cs, hm.trans h1, (hb b tc h1).trans h2, h3, h4, fun i hi => (h5 i hi).mono hc, h6⟩
  | map es =>
    obtain ⟨b, tc, ents, clock, h1, h2, h3, h4⟩ := h
    exact ⟨b, tc, ents, clock, hm.trans h1, (hb b tc h1).trans h2, h3.mono hc, h4⟩
  | dead => trivial
  | unb => exact hm.trans h

section
variable {X : Nat → Prop} {ms ms' : Blocks} {L L' : List Ob} {w w' : World}

/-- **The step of the relation.** -/
theorem Rel.step (h : Rel X ms L w) (he : Ext ms w ms' w') (hlen : ms'.length = L'.length) (hlt : ∀ b, owned ms' b → b < w'.heap.size ∧ ¬ X b)
    (hinj : ∀ (o o' b tc tc' : Nat), ms'[o]? = some (some (b, tc)) → ms'[o']? = some (some (b, tc')) → o = o') (hL : L.length ≤ L'.length)
    (hob : ∀ o obj', o < L.length → L'[o]? = some obj' → obj'.stamp ≠ none → ∃ obj, L[o]? = some obj ∧ obj.kind = obj'.kind ∧
      (∀ s, obj.stamp = some s → ∃ s', obj'.stamp = some s' ∧ s ≤ s') ∧ (obj.stamp = obj'.stamp → ms'[o]? = ms[o]?))
    (hobs : ∀ o obj', L'[o]? = some obj' → (L[o]? = some obj' ∧ ms'[o]? = ms[o]? ∧ ∀ b tc, ms[o]? = some (some (b, tc)) → w'.heap[b]? = w.heap[b]?) ∨
      ((cxOf X ms L w).le (cxOf X ms' L' w') → ObIs (cxOf X ms' L' w') w' o obj')) :
    Rel X ms' L' w' ∧ (cxOf X ms L w).le (cxOf X ms' L' w') := by
  have hc : (cxOf X ms L w).le (cxOf X ms' L' w') := ⟨he.memLe, hL, hob⟩
  refine ⟨⟨hlen, hlt, fun b hb => Nat.lt_of_lt_of_le (h.xlt b hb) he.size, hinj, fun o obj' ho => ?_⟩, hc⟩
  rcases hobs o obj' ho with ⟨h1, h2, h3⟩ | h1
  · exact (h.obs o obj' h1).mono hc h2 h3
  · exact h1 hc

/-- Old blocks as they were. -/
structure Grow (w w' : World) : Prop where
  size : w.heap.size ≤ w'.heap.size
  same : ∀ b, b < w.heap.size → w'.heap[b]? = w.heap[b]?
  out : SameOut w w'

theorem Grow.refl (w : World) : Grow w w := ⟨Nat.le_refl _, fun _ _ => rfl, SameOut.refl w⟩
theorem Grow.alloc (w : World) (o : Obj) : Grow w (w.alloc o) := ⟨by simp, fun b hb => Go.RowKit.Below.heap_alloc w o b hb, ⟨rfl, rfl, rfl⟩⟩
theorem Grow.drew (w : World) : Grow w w.drew := ⟨Nat.le_refl _, fun _ _ => rfl, ⟨rfl, rfl, rfl⟩⟩
theorem Grow.trans {w w' w'' : World} (h : Grow w w') (h' : Grow w' w'') : Grow w w'' :=
  ⟨Nat.le_trans h.size h'.size, fun b hb => (h'.same b (Nat.lt_of_lt_of_le hb h.size)).trans (h.same b hb), h.out.trans h'.out⟩

theorem Grow.ext (h : Grow w w') (ms : Blocks) : Ext ms w ms w' := ⟨h.size, fun b hb ho => ⟨h.same b hb, ho⟩, h.out⟩

/-- Nothing of ours has changed. -/
theorem Rel.grow (h : Rel X ms L w) (hg : Grow w w') : Rel X ms L w' ∧ (cxOf X ms L w).le (cxOf X ms L w') :=
  h.step (hg.ext ms) h.len (fun b hb => ⟨Nat.lt_of_lt_of_le (h.lt b hb).1 hg.size, (h.lt b hb).2⟩) h.inj (Nat.le_refl _)
    (fun _ obj' _ hl _ => ⟨obj', hl, rfl, fun s hs => ⟨s, hs, Nat.le_refl _⟩, fun _ => rfl⟩)
    (fun _ _ hl => .inl ⟨hl, rfl, fun b tc hb => hg.same b (h.lt b ⟨_, tc, hb⟩).1⟩)

theorem getElem?_snoc {α : Type} {l : List α} {x y : α} {i : Nat} (h : (l ++ [x])[i]? = some y) : l[i]? = some y ∨ (i = l.length ∧ y = x) := by
  rcases Nat.lt_or_ge i l.length with hi | hi
  · rw [List.getElem?_append_left hi] at h; exact .inl h
  · rw [List.getElem?_append_right hi] at h
    have : i - l.length = 0 := by
      rcases Nat.eq_zero_or_pos (i - l.length) with h0 | h0
      · exact h0
      · rw [List.getElem?_eq_none (by simp; omega)] at h; cases h
    rw [this] at h
    simp at h
    exact .inr ⟨by omega, h.symm⟩

/-- One object more: on a new block, or on none yet. -/
theorem Rel.push (h : Rel X ms L w) (hg : Grow w w') {m : Option (Nat × Nat)} {obj : Ob} (hm : ∀ b tc, m = some (b, tc) → w.heap.size ≤ b ∧ b < w'.heap.size)
    (ho : (cxOf X ms L w).le (cxOf X (ms ++ [m]) (L ++ [obj]) w') → ObIs (cxOf X (ms ++ [m]) (L ++ [obj]) w') w' L.length obj) :
    Rel X (ms ++ [m]) (L ++ [obj]) w' ∧ Ext ms w (ms ++ [m]) w' ∧ (cxOf X ms L w).le (cxOf X (ms ++ [m]) (L ++ [obj]) w') := by
  have hown : ∀ b, owned (ms ++ [m]) b → owned ms b ∨ ∃ tc, m = some (b, tc) := fun b ⟨o, tc, e⟩ => by
    rcases getElem?_snoc e with e | ⟨_, e⟩
    · exact .inl ⟨o, tc, e⟩
    · exact .inr ⟨tc, e.symm⟩
  have he : Ext ms w (ms ++ [m]) w' := ⟨hg.size, fun b hb ho' => ⟨hg.same b hb, fun hn => by
    rcases hown b hn with h1 | ⟨tc, h1⟩
    · exact ho' h1
    · have := (hm b tc h1).1; omega⟩, hg.out⟩
  have hr := h.step (ms' := ms ++ [m]) (L' := L ++ [obj]) he (by simp [h.len]) (fun b hb => by
      rcases hown b hb with h1 | ⟨tc, h1⟩
      · exact ⟨Nat.lt_of_lt_of_le (h.lt b h1).1 hg.size, (h.lt b h1).2⟩
      · have := hm b tc h1
        exact ⟨this.2, fun hx => by have := h.xlt b hx; omega⟩)
    (fun o o' b tc tc' h1 h2 => by
      rcases getElem?_snoc h1 with h1 | ⟨e1, h1⟩ <;> rcases getElem?_snoc h2 with h2 | ⟨e2, h2⟩
      · exact h.inj o o' b tc tc' h1 h2
      · have := (h.lt b ⟨o, tc, h1⟩).1
        have := (hm b tc' h2.symm).1; omega
      · have := (h.lt b ⟨o', tc', h2⟩).1
        have := (hm b tc h1.symm).1; omega
      · omega) (by simp)
    (fun o obj' hlt hl hs => by
      rw [List.getElem?_append_left hlt] at hl
      exact ⟨obj', hl, rfl, fun s hs => ⟨s, hs, Nat.le_refl _⟩, fun _ => by rw [List.getElem?_append_left (by rw [h.len]; exact hlt)]⟩)
    (fun o obj' hl => by
      rcases getElem?_snoc hl with hl | ⟨e, hx⟩
      · have hlt : o < L.length := by
          rcases Nat.lt_or_ge o L.length with h' | h'
          · exact h'
          · rw [List.getElem?_eq_none h'] at hl; cases hl
        exact .inl ⟨hl, by rw [List.getElem?_append_left (by rw [h.len]; exact hlt)], fun b tc hb => hg.same b (h.lt b ⟨o, tc, hb⟩).1⟩
      · subst e; subst hx
        exact .inr ho)
  exact ⟨hr.1, he, hr.2⟩

/-- One object changed where it lies. -/
theorem Rel.setOb (h : Rel X ms L w) {o b tc : Nat} {obj obj' : Ob} (hL : L[o]? = some obj) (hmo : ms[o]? = some (some (b, tc))) (hsize : w'.heap.size = w.heap.size)
    (hsame0 : SameOut w w' ∧ ∀ b', b' ≠ b → w'.heap[b']? = w.heap[b']?) (hk : obj.kind = obj'.kind) (hst : ∀ s, obj.stamp = some s → ∃ s', obj'.stamp = some s' ∧ s ≤ s')
    (ho : (cxOf X ms L w).le (cxOf X ms (L.set o obj') w') → ObIs (cxOf X ms (L.set o obj') w') w' o obj') :
    Rel X ms (L.set o obj') w' ∧ Ext ms w ms w' ∧ (cxOf X ms L w).le (cxOf X ms (L.set o obj') w') := by
  have hlt : o < L.length := by
    rcases Nat.lt_or_ge o L.length with h' | h'
    · exact h'
    · rw [List.getElem?_eq_none h'] at hL; cases hL
  obtain ⟨hout, hsame⟩ := hsame0
  have he : Ext ms w ms w' := ⟨by omega, fun b' _ ho' => ⟨hsame b' (fun e => ho' (e ▸ ⟨o, tc, hmo⟩)), ho'⟩, hout⟩
  have hr := h.step (ms' := ms) (L' := L.set o obj') he (by simp [h.len]) (fun b hb => by rw [hsize]; exact h.lt b hb) h.inj (by simp)
    (fun i x hi hl hs => by
      by_cases hio : o = i
      · subst hio
        rw [List.getElem?_set_self hlt] at hl
        cases hl
        exact ⟨obj, hL, hk, hst, fun _ => rfl⟩
      · rw [List.getElem?_set_ne hio] at hl
        exact ⟨x, hl, rfl, fun s hs => ⟨s, hs, Nat.le_refl _⟩, fun _ => rfl⟩)
    (fun i x hl => by
      by_cases hio : o = i
      · subst hio
        rw [List.getElem?_set_self hlt] at hl
        cases hl
        exact .inr ho
      · rw [List.getElem?_set_ne hio] at hl
        exact .inl ⟨hl, rfl, fun b' tc' hb => hsame b' (fun e => hio (h.inj o i b tc tc' hmo (e ▸ hb)))⟩)
  exact ⟨hr.1, he, hr.2⟩

/-- One object moved to a new block (it has grown). -/
theorem Rel.moveOb (h : Rel X ms L w) (hg : Grow w w') {o b tc : Nat} {obj obj' : Ob} (hL : L[o]? = some obj) (hb : w.heap.size ≤ b ∧ b < w'.heap.size)
    (hk : obj.kind = obj'.kind) (hst : ∃ s s', obj.stamp = some s ∧ obj'.stamp = some s' ∧ s < s')
    (ho : (cxOf X ms L w).le (cxOf X (ms.set o (some (b, tc))) (L.set o obj') w') → ObIs (cxOf X (ms.set o (some (b, tc))) (L.set o obj') w') w' o obj') :
    Rel X (ms.set o (some (b, tc))) (L.set o obj') w' ∧ Ext ms w (ms.set o (some (b, tc))) w' ∧ (cxOf X ms L w).le (cxOf X (ms.set o (some (b, tc))) (L.set o obj') w') := by
  have hlt : o < L.length := by
    rcases Nat.lt_or_ge o L.length with h' | h'
    · exact h'
    · rw [List.getElem?_eq_none h'] at hL; cases hL
  have hlt' : o < ms.length := by rw [h.len]; exact hlt
  have hget : ∀ i b' tc', (ms.set o (some (b, tc)))[i]? = some (some (b', tc')) → (i = o ∧ b' = b ∧ tc' = tc) ∨ (i ≠ o ∧ ms[i]? = some (some (b', tc'))) := fun i b' tc' e => by
    by_cases hio : o = i
    · subst hio
      rw [List.getElem?_set_self hlt'] at e
      cases e
      exact .inl ⟨rfl, rfl, rfl⟩
    · rw [List.getElem?_set_ne hio] at e
      exact .inr ⟨fun e' => hio e'.symm, e⟩
  have he : Ext ms w (ms.set o (some (b, tc))) w' := ⟨hg.size, fun b' hb' ho' => ⟨hg.same b' hb', fun ⟨i, tc', e⟩ => by
    rcases hget i b' tc' e with ⟨_, rfl, _⟩ | ⟨_, e⟩
    · omega
    · exact ho' ⟨i, tc', e⟩⟩, hg.out⟩
  have hr := h.step (ms' := ms.set o (some (b, tc))) (L' := L.set o obj') he (by simp [h.len]) (fun b' ⟨i, tc', e⟩ => by
      rcases hget i b' tc' e with ⟨_, rfl, _⟩ | ⟨_, e⟩
      · exact ⟨hb.2, fun hx => by have := h.xlt _ hx; omega⟩
      · have := h.lt b' ⟨i, tc', e⟩
        exact ⟨Nat.lt_of_lt_of_le this.1 hg.size, this.2⟩)
    (fun i j b' t1 t2 e1 e2 => by
      rcases hget i b' t1 e1 with ⟨i1, i2, _⟩ | ⟨i1, i2⟩ <;> rcases hget j b' t2 e2 with ⟨j1, j2, _⟩ | ⟨j1, j2⟩
      · omega
      · have := (h.lt b' ⟨j, t2, j2⟩).1; omega
      · have := (h.lt b' ⟨i, t1, i2⟩).1; omega
      · exact h.inj i j b' t1 t2 i2 j2) (by simp)
    (fun i x hi hl hs => by
      by_cases hio : o = i
      · subst hio
        rw [List.getElem?_set_self hlt] at hl
        cases hl
        obtain ⟨s, s', h1, h2, h3⟩ := hst
        exact ⟨obj, hL, hk, fun s1 hs1 => ⟨s', h2, by rw [h1] at hs1; cases hs1; omega⟩, fun e => by rw [h1, h2] at e; cases e; omega⟩
      · rw [List.getElem?_set_ne hio] at hl
        exact ⟨x, hl, rfl, fun s hs => ⟨s, hs, Nat.le_refl _⟩, fun _ => by rw [List.getElem?_set_ne hio]⟩)
    (fun i x hl => by
      by_cases hio : o = i
      · subst hio
        rw [List.getElem?_set_self hlt] at hl
        cases hl
        exact .inr ho
      · rw [List.getElem?_set_ne hio] at hl
        exact .inl ⟨hl, by rw [List.getElem?_set_ne hio], fun b' tc' hb => hg.same b' (h.lt b' ⟨i, tc', hb⟩).1⟩)
  exact ⟨hr.1, he, hr.2⟩
end

/-- **What an operation does**: in every state that is so, it yields 'v' and leaves 'L''. -/
def OpOk (P : Program) (G : GFr) (ch : Chain) (L : List Ob) (o : Oper) (v : AV) (L' : List Ob) : Prop :=
  ∀ (X : Nat → Prop) (ms : Blocks) (w : World) (a : Act) (K : Act → World → Prop) (Q : Exit → Act → World → Prop),
    Rel X ms L w → FrIs (cxOf X ms L w) G a.tmps → holds ch a.tmps →
    (∀ u ms' w', Rel X ms' L' w' → Ext ms w ms' w' → (cxOf X ms L w).le (cxOf X ms' L' w') → AV.IsV (cxOf X ms' L' w') v u → K (a.put o.dst u) w') →
    o.wp P a w K Q

theorem aval_op {P : Program} {L : List Ob} {G : GFr} {ch : Chain} {o : Oper} {av : AV} {C : List Prop} (h : aval P G ch L o = some (av, C)) (hc : AllP C) : OpOk P G ch L o av L := by
  intro X ms w a K Q hr hf hh hK
  obtain ⟨u, h1, h2⟩ := aval_ok h hc hr hf hh
  unfold Oper.wp
  rw [h1]
  exact hK u ms w hr (Ext.refl _ _) (Cx.le.refl _) h2

theorem OpOk.value {P : Program} {o : Oper} {a : Act} {w w' : World} {K : Act → World → Prop} {Q : Exit → Act → World → Prop} {u : Value}
    (h : (execOp a.eval o).run P w = .ok (.value u) w') (hK : K (a.put o.dst u) w') : o.wp P a w K Q := by
  unfold Oper.wp; rw [h]; exact hK
theorem OpOk.skip {P : Program} {o : Oper} {a : Act} {w w' : World} {K : Act → World → Prop} {Q : Exit → Act → World → Prop}
    (h : (execOp a.eval o).run P w = .ok .skip w') (hK : K (a.put o.dst undef) w') : o.wp P a w K Q := by
  unfold Oper.wp; rw [h]; exact hK
end Go.TA
