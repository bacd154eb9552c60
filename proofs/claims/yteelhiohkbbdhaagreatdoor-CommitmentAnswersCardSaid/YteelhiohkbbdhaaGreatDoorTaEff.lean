/- A part of the proof: laws over any program of the abstract machine. No condition. -/
import Derived.Test.YteelhiohkbbdhaaGreatDoorTaOp
import Derived.Below
import Derived.OrdersIn
import Derived.CallsIn
namespace Go.TA
open Go

/-! ## How the relation goes on -/
theorem EntsIs.mono {c c' : Cx} (hc : c.le c') : ∀ {es : List (DV × DV)} {r : List MapEntry}, EntsIs c es r → EntsIs c' es r
  | [], [], _ => trivial
  | (_, _) :: _, _ :: _, h => ⟨h.1.mono hc, h.2.1.mono hc, EntsIs.mono hc h.2.2⟩
  | [], _ :: _, h => h.elim
  | _ :: _, [], h => h.elim

theorem ObIs.mono {c c' : Cx} {w w' : World} {o : Nat} {obj : Ob} (hc : c.le c') (hm : c'.ms[o]? = c.ms[o]?)
    (hb : ∀ b tc, c.ms[o]? = some (some (b, tc)) → w'.heap[b]? = w.heap[b]?) (h : ObIs c w o obj) : ObIs c' w' o obj := by
  cases obj with
  | box x =>
    rcases h with h | ⟨b, tc, arr, e, h1, h2, h3⟩
    · exact .inl (hm.trans h)
    · exact .inr ⟨b, tc, arr, e, hm.trans h1, (hb b tc h1).trans h2, h3.mono hc⟩
  | seq sz n f =>
    rcases h with h | ⟨b, tc, arr, e, cs, h1, h2, h3, h4, h5, h6⟩
    · exact .inl ⟨hm.trans h.1, h.2⟩
    · exact .inr ⟨b, tc, arr, e, cs, hm.trans h1, (hb b tc h1).trans h2, h3, h4, fun i hi => (h5 i hi).mono hc, h6⟩
  | map es =>
    obtain ⟨b, tc, ents, clock, h1, h2, h3, h4⟩ := h
    exact ⟨b, tc, ents, clock, hm.trans h1, (hb b tc h1).trans h2, h3.mono hc, h4⟩
  | dead => trivial
  | unb => exact hm.trans h

section
variable {X : Nat → Prop} {ms ms' : Blocks} {L L' : List Ob} {w w' : World}

/-- **The step of the relation.** -/
theorem Rel.step (h : Rel X ms L w) (he : Ext ms w ms' w') (hlen : ms'.length = L'.length) (hlt : ∀ b, owned ms' b → b < w'.heap.size ∧ ¬ X b)
    (hinj : ∀ (o o' b tc tc' : Nat), ms'[o]? = some (some (b, tc)) → ms'[o']? = some (some (b, tc')) → o = o') (hL : L.length ≤ L'.length)
    (hob : ∀ o obj', o < L.length → L'[o]? = some obj' → obj'.stamp ≠ none → ∃ obj, L[o]? = some obj ∧ obj.kind = obj'.kind ∧
      (∀ s, obj.stamp = some s → ∃ s', obj'.stamp = some s' ∧ s ≤ s') ∧ (obj.stamp = obj'.stamp → ms'[o]? = ms[o]?))
    (hobs : ∀ o obj', L'[o]? = some obj' → (L[o]? = some obj' ∧ ms'[o]? = ms[o]? ∧ ∀ b tc, ms[o]? = some (some (b, tc)) → w'.heap[b]? = w.heap[b]?) ∨
      ((cxOf X ms L w).le (cxOf X ms' L' w') → ObIs (cxOf X ms' L' w') w' o obj')) :
    Rel X ms' L' w' ∧ (cxOf X ms L w).le (cxOf X ms' L' w') := by
  have hc : (cxOf X ms L w).le (cxOf X ms' L' w') := ⟨he.memLe, hL, hob⟩
  refine ⟨⟨hlen, hlt, fun b hb => Nat.lt_of_lt_of_le (h.xlt b hb) he.size, hinj, fun o obj' ho => ?_, ?_⟩, hc⟩
  · rcases hobs o obj' ho with ⟨h1, h2, h3⟩ | h1
    · exact (h.obs o obj' h1).mono hc h2 h3
    · exact h1 hc
  · exact h.glob.mono hc.M

/-- Old blocks as they were. -/
structure Grow (w w' : World) : Prop where
  size : w.heap.size ≤ w'.heap.size
  same : ∀ b, b < w.heap.size → w'.heap[b]? = w.heap[b]?
  out : SameOut w w'

theorem Grow.refl (w : World) : Grow w w := ⟨Nat.le_refl _, fun _ _ => rfl, SameOut.refl w⟩
theorem Grow.alloc (w : World) (o : Obj) : Grow w (w.alloc o) := ⟨by simp, fun b hb => Go.RowKit.Below.heap_alloc w o b hb, ⟨rfl, rfl, rfl⟩⟩
theorem Grow.drew (w : World) : Grow w w.drew := ⟨Nat.le_refl _, fun _ _ => rfl, ⟨rfl, rfl, rfl⟩⟩
theorem Grow.trans {w w' w'' : World} (h : Grow w w') (h' : Grow w' w'') : Grow w w'' :=
  ⟨Nat.le_trans h.size h'.size, fun b hb => (h'.same b (Nat.lt_of_lt_of_le hb h.size)).trans (h.same b hb), h.out.trans h'.out⟩

theorem Grow.ext (h : Grow w w') (ms : Blocks) : Ext ms w ms w' := ⟨h.size, fun b hb ho => ⟨h.same b hb, ho⟩, h.out⟩

/-- Nothing of ours has changed. -/
theorem Rel.grow (h : Rel X ms L w) (hg : Grow w w') : Rel X ms L w' ∧ (cxOf X ms L w).le (cxOf X ms L w') :=
  h.step (hg.ext ms) h.len (fun b hb => ⟨Nat.lt_of_lt_of_le (h.lt b hb).1 hg.size, (h.lt b hb).2⟩) h.inj (Nat.le_refl _)
    (fun _ obj' _ hl _ => ⟨obj', hl, rfl, fun s hs => ⟨s, hs, Nat.le_refl _⟩, fun _ => rfl⟩)
    (fun _ _ hl => .inl ⟨hl, rfl, fun b tc hb => hg.same b (h.lt b ⟨_, tc, hb⟩).1⟩)

theorem getElem?_snoc {α : Type} {l : List α} {x y : α} {i : Nat} (h : (l ++ [x])[i]? = some y) : l[i]? = some y ∨ (i = l.length ∧ y = x) := by
  rcases Nat.lt_or_ge i l.length with hi | hi
  · rw [List.getElem?_append_left hi] at h; exact .inl h
  · rw [List.getElem?_append_right hi] at h
    have : i - l.length = 0 := by
      rcases Nat.eq_zero_or_pos (i - l.length) with h0 | h0
      · exact h0
      · rw [List.getElem?_eq_none (by simp; omega)] at h; cases h
    rw [this] at h
    simp at h
    exact .inr ⟨by omega, h.symm⟩

/-- One object more: on a new block, or on none yet. -/
theorem Rel.push (h : Rel X ms L w) (hg : Grow w w') {m : Option (Nat × Nat)} {obj : Ob} (hm : ∀ b tc, m = some (b, tc) → w.heap.size ≤ b ∧ b < w'.heap.size)
    (ho : (cxOf X ms L w).le (cxOf X (ms ++ [m]) (L ++ [obj]) w') → ObIs (cxOf X (ms ++ [m]) (L ++ [obj]) w') w' L.length obj) :
    Rel X (ms ++ [m]) (L ++ [obj]) w' ∧ Ext ms w (ms ++ [m]) w' ∧ (cxOf X ms L w).le (cxOf X (ms ++ [m]) (L ++ [obj]) w') := by
  have hown : ∀ b, owned (ms ++ [m]) b → owned ms b ∨ ∃ tc, m = some (b, tc) := fun b ⟨o, tc, e⟩ => by
    rcases getElem?_snoc e with e | ⟨_, e⟩
    · exact .inl ⟨o, tc, e⟩
    · exact .inr ⟨tc, e.symm⟩
  have he : Ext ms w (ms ++ [m]) w' := ⟨hg.size, fun b hb ho' => ⟨hg.same b hb, fun hn => by
    rcases hown b hn with h1 | ⟨tc, h1⟩
    · exact ho' h1
    · have := (hm b tc h1).1; omega⟩, hg.out⟩
  have hr := h.step (ms' := ms ++ [m]) (L' := L ++ [obj]) he (by simp [h.len]) (fun b hb => by
      rcases hown b hb with h1 | ⟨tc, h1⟩
      · exact ⟨Nat.lt_of_lt_of_le (h.lt b h1).1 hg.size, (h.lt b h1).2⟩
      · have := hm b tc h1
        exact ⟨this.2, fun hx => by have := h.xlt b hx; omega⟩)
    (fun o o' b tc tc' h1 h2 => by
      rcases getElem?_snoc h1 with h1 | ⟨e1, h1⟩ <;> rcases getElem?_snoc h2 with h2 | ⟨e2, h2⟩
      · exact h.inj o o' b tc tc' h1 h2
      · have := (h.lt b ⟨o, tc, h1⟩).1
        have := (hm b tc' h2.symm).1; omega
      · have := (h.lt b ⟨o', tc', h2⟩).1
        have := (hm b tc h1.symm).1; omega
      · omega) (by simp)
    (fun o obj' hlt hl hs => by
      rw [List.getElem?_append_left hlt] at hl
      exact ⟨obj', hl, rfl, fun s hs => ⟨s, hs, Nat.le_refl _⟩, fun _ => by rw [List.getElem?_append_left (by rw [h.len]; exact hlt)]⟩)
    (fun o obj' hl => by
      rcases getElem?_snoc hl with hl | ⟨e, hx⟩
      · have hlt : o < L.length := by
          rcases Nat.lt_or_ge o L.length with h' | h'
          · exact h'
          · rw [List.getElem?_eq_none h'] at hl; cases hl
        exact .inl ⟨hl, by rw [List.getElem?_append_left (by rw [h.len]; exact hlt)], fun b tc hb => hg.same b (h.lt b ⟨o, tc, hb⟩).1⟩
      · subst e; subst hx
        exact .inr ho)
  exact ⟨hr.1, he, hr.2⟩

/-- One object changed where it lies. -/
theorem Rel.setOb (h : Rel X ms L w) {o b tc : Nat} {obj obj' : Ob} (hL : L[o]? = some obj) (hmo : ms[o]? = some (some (b, tc))) (hsize : w'.heap.size = w.heap.size)
    (hsame0 : SameOut w w' ∧ ∀ b', b' ≠ b → w'.heap[b']? = w.heap[b']?) (hk : obj.kind = obj'.kind) (hst : ∀ s, obj.stamp = some s → ∃ s', obj'.stamp = some s' ∧ s ≤ s')
    (ho : (cxOf X ms L w).le (cxOf X ms (L.set o obj') w') → ObIs (cxOf X ms (L.set o obj') w') w' o obj') :
    Rel X ms (L.set o obj') w' ∧ Ext ms w ms w' ∧ (cxOf X ms L w).le (cxOf X ms (L.set o obj') w') := by
  have hlt : o < L.length := by
    rcases Nat.lt_or_ge o L.length with h' | h'
    · exact h'
    · rw [List.getElem?_eq_none h'] at hL; cases hL
  obtain ⟨hout, hsame⟩ := hsame0
  have he : Ext ms w ms w' := ⟨by omega, fun b' _ ho' => ⟨hsame b' (fun e => ho' (e ▸ ⟨o, tc, hmo⟩)), ho'⟩, hout⟩
  have hr := h.step (ms' := ms) (L' := L.set o obj') he (by simp [h.len]) (fun b hb => by rw [hsize]; exact h.lt b hb) h.inj (by simp)
    (fun i x hi hl hs => by
      by_cases hio : o = i
      · subst hio
        rw [List.getElem?_set_self hlt] at hl
        cases hl
        exact ⟨obj, hL, hk, hst, fun _ => rfl⟩
      · rw [List.getElem?_set_ne hio] at hl
        exact ⟨x, hl, rfl, fun s hs => ⟨s, hs, Nat.le_refl _⟩, fun _ => rfl⟩)
    (fun i x hl => by
      by_cases hio : o = i
      · subst hio
        rw [List.getElem?_set_self hlt] at hl
        cases hl
        exact .inr ho
      · rw [List.getElem?_set_ne hio] at hl
        exact .inl ⟨hl, rfl, fun b' tc' hb => hsame b' (fun e => hio (h.inj o i b tc tc' hmo (e ▸ hb)))⟩)
  exact ⟨hr.1, he, hr.2⟩

/-- One object moved to a new block (it has grown). -/
theorem Rel.moveOb (h : Rel X ms L w) (hg : Grow w w') {o b tc : Nat} {obj obj' : Ob} (hL : L[o]? = some obj) (hb : w.heap.size ≤ b ∧ b < w'.heap.size)
    (hk : obj.kind = obj'.kind) (hst : ∃ s s', obj.stamp = some s ∧ obj'.stamp = some s' ∧ s < s')
    (ho : (cxOf X ms L w).le (cxOf X (ms.set o (some (b, tc))) (L.set o obj') w') → ObIs (cxOf X (ms.set o (some (b, tc))) (L.set o obj') w') w' o obj') :
    Rel X (ms.set o (some (b, tc))) (L.set o obj') w' ∧ Ext ms w (ms.set o (some (b, tc))) w' ∧ (cxOf X ms L w).le (cxOf X (ms.set o (some (b, tc))) (L.set o obj') w') := by
  have hlt : o < L.length := by
    rcases Nat.lt_or_ge o L.length with h' | h'
    · exact h'
    · rw [List.getElem?_eq_none h'] at hL; cases hL
  have hlt' : o < ms.length := by rw [h.len]; exact hlt
  have hget : ∀ i b' tc', (ms.set o (some (b, tc)))[i]? = some (some (b', tc')) → (i = o ∧ b' = b ∧ tc' = tc) ∨ (i ≠ o ∧ ms[i]? = some (some (b', tc'))) := fun i b' tc' e => by
    by_cases hio : o = i
    · subst hio
      rw [List.getElem?_set_self hlt'] at e
      cases e
      exact .inl ⟨rfl, rfl, rfl⟩
    · rw [List.getElem?_set_ne hio] at e
      exact .inr ⟨fun e' => hio e'.symm, e⟩
  have he : Ext ms w (ms.set o (some (b, tc))) w' := ⟨hg.size, fun b' hb' ho' => ⟨hg.same b' hb', fun ⟨i, tc', e⟩ => by
    rcases hget i b' tc' e with ⟨_, rfl, _⟩ | ⟨_, e⟩
    · omega
    · exact ho' ⟨i, tc', e⟩⟩, hg.out⟩
  have hr := h.step (ms' := ms.set o (some (b, tc))) (L' := L.set o obj') he (by simp [h.len]) (fun b' ⟨i, tc', e⟩ => by
      rcases hget i b' tc' e with ⟨_, rfl, _⟩ | ⟨_, e⟩
      · exact ⟨hb.2, fun hx => by have := h.xlt _ hx; omega⟩
      · have := h.lt b' ⟨i, tc', e⟩
        exact ⟨Nat.lt_of_lt_of_le this.1 hg.size, this.2⟩)
    (fun i j b' t1 t2 e1 e2 => by
      rcases hget i b' t1 e1 with ⟨i1, i2, _⟩ | ⟨i1, i2⟩ <;> rcases hget j b' t2 e2 with ⟨j1, j2, _⟩ | ⟨j1, j2⟩
      · omega
      · have := (h.lt b' ⟨j, t2, j2⟩).1; omega
      · have := (h.lt b' ⟨i, t1, i2⟩).1; omega
      · exact h.inj i j b' t1 t2 i2 j2) (by simp)
    (fun i x hi hl hs => by
      by_cases hio : o = i
      · subst hio
        rw [List.getElem?_set_self hlt] at hl
        cases hl
        obtain ⟨s, s', h1, h2, h3⟩ := hst
        exact ⟨obj, hL, hk, fun s1 hs1 => ⟨s', h2, by rw [h1] at hs1; cases hs1; omega⟩, fun e => by rw [h1, h2] at e; cases e; omega⟩
      · rw [List.getElem?_set_ne hio] at hl
        exact ⟨x, hl, rfl, fun s hs => ⟨s, hs, Nat.le_refl _⟩, fun _ => by rw [List.getElem?_set_ne hio]⟩)
    (fun i x hl => by
      by_cases hio : o = i
      · subst hio
        rw [List.getElem?_set_self hlt] at hl
        cases hl
        exact .inr ho
      · rw [List.getElem?_set_ne hio] at hl
        exact .inl ⟨hl, by rw [List.getElem?_set_ne hio], fun b' tc' hb => hg.same b' (h.lt b' ⟨i, tc', hb⟩).1⟩)
  exact ⟨hr.1, he, hr.2⟩
end

/-! ## A function's own code, and a round's of a range over a function -/
def fenceOf : Option Nat → Fence
  | none => Fence.wide
  | some l => Fence.wide.inRound l
theorem fence_fn (z : Option Nat) (f : FuncId) : (fenceOf z).fn f := by cases z <;> trivial
theorem fence_depth (z : Option Nat) (n : Nat) : (fenceOf z).depth.isSome = true → 1 ≤ n := by cases z <;> intro h <;> cases h
theorem callsIn_fence {z : Option Nat} {n : Nat} {P : Program} {f : FuncId} {args : Array Value} {w : World} {R : Ending → World → Prop} (h : Calls P f args w R) : CallsIn (fenceOf z) n P f args w R := by
  cases z with
  | none => exact callsIn_wide.2 h
  | some l => exact (callsIn_wide (n := n)).2 h
theorem semAt_of {z : Option Nat} {ρ : Operand → Value} {o : Oper} {P : Program} {w w' : World} {x : Next} (h : (execOp ρ o).run P w = .ok x w') (hx : ∀ d, x ≠ .defer d) : (o.semAt (fenceOf z).round ρ).run P w = .ok x w' := by
  by_cases hd : ∃ c, o.op = .defer c
  · obtain ⟨c, hc⟩ := hd
    obtain ⟨dst, op, ty, pos, after, guard⟩ := o
    subst hc
    simp only [execOp, Sem.run_bind] at h
    cases hr : (resolve ρ c ty).run P w with
    | ok d w1 => simp [hr] at h; exact absurd h.1.symm (hx d)
    | halt x' w1 => simp [hr] at h
  · rw [Oper.semAt_eq _ _ _ (fun c hc => hd ⟨c, hc⟩)]; exact h

/-- **What an operation does**: in every state that is so, it yields 'v' and leaves 'L''. -/
def OpOk (P : Program) (G : GFr) (ch : Chain) (L : List Ob) (o : Oper) (v : AV) (L' : List Ob) : Prop :=
  ∀ (z : Option Nat) (zn : Nat) (X : Nat → Prop) (ms : Blocks) (w : World) (a : Act) (K : Act → World → Prop) (Q : Exit → Act → World → Prop),
    Rel X ms L w → FrIs (cxOf X ms L w) G a.tmps → holds ch a.tmps →
    (∀ u ms' w', Rel X ms' L' w' → Ext ms w ms' w' → (cxOf X ms L w).le (cxOf X ms' L' w') → AV.IsV (cxOf X ms' L' w') v u → K (a.put o.dst u) w') →
    o.wpIn (fenceOf z) zn P a w K Q

theorem aval_op {P : Program} {L : List Ob} {G : GFr} {ch : Chain} {o : Oper} {av : AV} {C : List Prop} (h : aval P G ch L o = some (av, C)) (hc : AllP C) : OpOk P G ch L o av L := by
  intro z zn X ms w a K Q hr hf hh hK
  obtain ⟨u, h1, h2⟩ := aval_ok h hc hr hf hh
  refine ⟨fun f _ => fence_fn z f, ?_⟩
  rw [semAt_of h1 (by simp)]
  exact hK u ms w hr (Ext.refl _ _) (Cx.le.refl _) h2

theorem OpOk.value {z : Option Nat} {zn : Nat} {P : Program} {o : Oper} {a : Act} {w w' : World} {K : Act → World → Prop} {Q : Exit → Act → World → Prop} {u : Value}
    (h : (execOp a.eval o).run P w = .ok (.value u) w') (hK : K (a.put o.dst u) w') : o.wpIn (fenceOf z) zn P a w K Q := by
  refine ⟨fun f _ => fence_fn z f, ?_⟩; rw [semAt_of h (by simp)]; exact hK
theorem OpOk.skip {z : Option Nat} {zn : Nat} {P : Program} {o : Oper} {a : Act} {w w' : World} {K : Act → World → Prop} {Q : Exit → Act → World → Prop}
    (h : (execOp a.eval o).run P w = .ok .skip w') (hK : K (a.put o.dst undef) w') : o.wpIn (fenceOf z) zn P a w K Q := by
  refine ⟨fun f _ => fence_fn z f, ?_⟩; rw [semAt_of h (by simp)]; exact hK
end Go.TA

namespace Go.TA
open Go

/-! ## alloc, box -/
theorem run_newVar {P : Program} {w : World} {t : TypeId} {v : Value} :
    (newVar t v).run P w = .ok ⟨w.heap.size, 0, none⟩ (w.alloc (.cells v.cells t)) := rfl

theorem heap_new (w : World) (o : Obj) : (w.alloc o).heap[w.heap.size]? = some o := heap_alloc_new w o

theorem push_box {X : Nat → Prop} {ms : Blocks} {L : List Ob} {w : World} (h : Rel X ms L w) {x : AV} {v : Value} {t : TypeId} (hs : x.solid = true) (hv : AV.IsV (cxOf X ms L w) x v) :
    Rel X (ms ++ [some (w.heap.size, 0)]) (L ++ [.box x]) (w.alloc (.cells v.cells t)) ∧ Ext ms w (ms ++ [some (w.heap.size, 0)]) (w.alloc (.cells v.cells t)) ∧
      (cxOf X ms L w).le (cxOf X (ms ++ [some (w.heap.size, 0)]) (L ++ [.box x]) (w.alloc (.cells v.cells t))) ∧
      AV.IsV (cxOf X (ms ++ [some (w.heap.size, 0)]) (L ++ [.box x]) (w.alloc (.cells v.cells t))) (.ptr L.length 1 []) (.pointer (some ⟨w.heap.size, 0, none⟩)) := by
  obtain ⟨h1, h2, h3⟩ := h.push (w' := w.alloc (.cells v.cells t)) (m := some (w.heap.size, 0)) (obj := .box x) (Grow.alloc w _)
    (fun b tc e => by cases e; exact ⟨Nat.le_refl _, by simp⟩)
    (fun hc => .inr ⟨w.heap.size, 0, v.cells, t, by simp [cxOf, ← h.len], heap_new w _, (IsV.cells hs hv).mono hc⟩)
  refine ⟨h1, h2, h3, .one _ _ rfl (.ptr _ _ _ _ ⟨by simp [cxOf], ⟨_, rfl⟩, fun obj s ho hst => by simp [cxOf] at ho; subst ho; simp [Ob.stamp] at hst; omega, fun obj _ _ => ⟨w.heap.size, 0, ?_, rfl⟩⟩)⟩
  simp [cxOf, ← h.len]

/-! Zero values whose slices are known to be nil -/
mutual
def DV.hasSl : DV → Bool
  | .sl _ _ => true
  | .agg fs => DV.hasSlL fs
  | _ => false
def DV.hasSlL : List DV → Bool
  | [] => false
  | x :: r => x.hasSl || DV.hasSlL r
end
mutual
def fullZ : DV → AV
  | .sl 0 f => .full 0 f
  | .agg fs => if DV.hasSlL fs then .agg (fullZL fs) else .d (.agg fs)
  | x => .d x
def fullZL : List DV → List AV
  | [] => []
  | x :: r => fullZ x :: fullZL r
end
def nilB : Value → Bool
  | .slice none 0 0 => true
  | .slice _ _ _ => false
  | _ => true
mutual
theorem fullZ_is {c : Cx} : ∀ {x : DV} {cs : List Value}, DV.Is c.M x cs → (∀ v ∈ cs, nilB v = true) → AV.Is c (fullZ x) cs
  | _, _, .b x, _ => .d _ _ (.b x)
  | _, _, .i k n, _ => .d _ _ (.i k n)
  | _, _, .str l, _ => .d _ _ (.str l)
  | _, _, .lit v h, _ => .d _ _ (.lit v h)
  | _, _, .agg fs cs hl, h => by
    unfold fullZ
    split
    · exact .agg _ _ (fullZL_is hl h)
    · exact .d _ _ (.agg fs cs hl)
  | _, _, .arr sz n f cs h1 h2, _ => .d _ _ (.arr sz n f cs h1 h2)
  | _, _, .slNil f, _ => .full 0 f none (.slNil f)
  | _, _, .slEmpty f a cap, h => absurd (h _ (List.mem_singleton.2 rfl)) (by simp [nilB])
  | _, _, .sl n f b off cap sz arr cs h1 h2 hb h3 hl hc, h => absurd (h _ (List.mem_singleton.2 rfl)) (by simp [nilB])
theorem fullZL_is {c : Cx} : ∀ {xs : List DV} {cs : List Value}, DV.IsL c.M xs cs → (∀ v ∈ cs, nilB v = true) → AV.IsL c (fullZL xs) cs
  | _, _, .nil, _ => .nil
  | _, _, .cons x xs k ks h1 h2, h => .cons _ _ _ _ (fullZ_is h1 fun v hv => h v (List.mem_append_left _ hv)) (fullZL_is h2 fun v hv => h v (List.mem_append_right _ hv))
end
theorem fullZ_isAgg (x : DV) : (fullZ x).isAgg = (AV.d x).isAgg := by
  unfold fullZ
  split
  · rfl
  · split <;> rfl
  · rfl
theorem fullZ_solid (x : DV) : (fullZ x).solid = true := by
  unfold fullZ
  split
  · rfl
  · split <;> rfl
  · rfl
theorem fullZ_isV {c : Cx} {x : DV} {v : Value} (h : AV.IsV c (.d x) v) (hn : ∀ u ∈ v.cells.toList, nilB u = true) : AV.IsV c (fullZ x) v := by
  have hc := IsV.cells rfl h
  cases hc with
  | d _ _ hd =>
  have h2 := fullZ_is hd hn
  by_cases ha : (AV.d x).isAgg = true
  · obtain ⟨cs, rfl, _⟩ := IsV.is ha h
    exact .agg _ cs (by rw [fullZ_isAgg]; exact ha) (by simpa [Value.cells] using h2)
  · have h1 := IsV.is1 (by simpa using ha) (by simp) (by simp) h
    have : v.cells.toList = [v] := by
      cases h1 with
      | d _ _ h1 =>
      have h3 := h1.one v (by simp)
      cases v <;> first | rfl | cases h3
    rw [this] at h2
    exact .one _ _ (by rw [fullZ_isAgg]; simpa using ha) h2

def zeroA (P : Program) (t : TypeId) (full : Bool) : Option AV :=
  match zeroOf P t, full with
  | some z, false => some (.d z)
  | some z, true => match (P.info? t).bind (·.zero) with
    | some v => if v.cells.toList.all nilB then some (fullZ z) else none
    | none => none
  | none, _ => none

theorem zeroA_is {P : Program} {t : TypeId} {full : Bool} {x : AV} (h : zeroA P t full = some x) : x.solid = true ∧ ∃ z, (∀ w, (zeroValue t).run P w = .ok z w) ∧ (∀ c, AV.IsV c x z) := by
  unfold zeroA at h
  split at h
  · rename_i z hz
    cases h
    exact ⟨rfl, zeroOf_is hz⟩
  · rename_i z hz
    split at h
    · rename_i v hv
      split at h
      · rename_i hn
        cases h
        refine ⟨fullZ_solid _, ?_⟩
        obtain ⟨zv, h1, h2⟩ := zeroOf_is hz
        have e : zv = v := by
          have := h1 default
          cases hi : P.info? t with
          | none => simp [hi] at hv
          | some i =>
            simp [hi] at hv
            simp [zeroValue, typeInfo, hi, hv] at this
            exact this.symm
        subst e
        exact ⟨zv, h1, fun c => fullZ_isV (h2 c) (List.all_eq_true.1 hn)⟩
      · cases h
    · cases h
  · cases h

def eAlloc (P : Program) (L : List Ob) (t : TypeId) (full : Bool) : Option (AV × List Ob) :=
  (zeroA P t full).map fun z => (.ptr L.length 1 [], L ++ [.box z])

theorem alloc_op {P : Program} {L L' : List Ob} {G : GFr} {ch : Chain} {o : Oper} {t : TypeId} {full : Bool} {av : AV} (ho : o.op = .alloc t) (h : eAlloc P L t full = some (av, L')) : OpOk P G ch L o av L' := by
  intro z zn X ms w a K Q hr hf hh hK
  unfold eAlloc at h
  cases hz : zeroA P t full with
  | none => simp [hz] at h
  | some z =>
    simp [hz] at h
    obtain ⟨rfl, rfl⟩ := h
    obtain ⟨hs, zv, h1, h2⟩ := zeroA_is hz
    obtain ⟨k1, k2, k3, k4⟩ := push_box (t := t) hr hs (h2 _)
    refine OpOk.value (u := .pointer (some ⟨w.heap.size, 0, none⟩)) (w' := w.alloc (.cells zv.cells t)) ?_ (hK _ _ _ k1 k2 k3 k4)
    obtain ⟨dst, op, ty, pos, after, guard⟩ := o
    subst ho
    exact run_v (by simp [Instr.alloc, h1, run_newVar])

/-- A box that was told of before is born. -/
def eBorn (P : Program) (L : List Ob) (t : TypeId) (k : Nat) (full : Bool) : Option (AV × List Ob) :=
  match L[k]?, zeroA P t full with
  | some .unb, some z => some (.ptr k 1 [], L.set k (.box z))
  | _, _ => none

theorem born_op {P : Program} {L L' : List Ob} {G : GFr} {ch : Chain} {o : Oper} {t : TypeId} {k : Nat} {full : Bool} {av : AV} (ho : o.op = .alloc t) (h : eBorn P L t k full = some (av, L')) : OpOk P G ch L o av L' := by
  intro z zn X ms w a K Q hr hf hh hK
  unfold eBorn at h
  split at h
  · rename_i z hL hz
    cases h
    obtain ⟨hs, zv, h1, h2⟩ := zeroA_is hz
    have hlt : k < L.length := by
      rcases Nat.lt_or_ge k L.length with h' | h'
      · exact h'
      · rw [List.getElem?_eq_none h'] at hL; cases hL
    have hltm : k < ms.length := by rw [hr.len]; exact hlt
    obtain ⟨k1, k2, k3⟩ := hr.moveOb (w' := w.alloc (.cells zv.cells t)) (b := w.heap.size) (tc := 0) (obj' := .box z) (Grow.alloc w _) hL ⟨Nat.le_refl _, by simp⟩ rfl ⟨0, 1, rfl, rfl, Nat.zero_lt_one⟩
      (fun hc => .inr ⟨w.heap.size, 0, zv.cells, t, by simp [cxOf, hltm], heap_new w _, IsV.cells hs (h2 _)⟩)
    refine OpOk.value (u := .pointer (some ⟨w.heap.size, 0, none⟩)) (w' := w.alloc (.cells zv.cells t)) ?_ (hK _ _ _ k1 k2 k3 (.one _ _ rfl (.ptr _ _ _ _ ⟨by simpa [cxOf] using hlt, ⟨_, rfl⟩, fun obj s ho hst => ?_, fun obj _ _ => ⟨w.heap.size, 0, ?_, rfl⟩⟩)))
    · obtain ⟨dst, op, ty, pos, after, guard⟩ := o
      subst ho
      exact run_v (by simp [Instr.alloc, h1, run_newVar])
    · simp [cxOf, List.getElem?_set_self hlt] at ho
      subst ho
      simp [Ob.stamp] at hst
      omega
    · simp [cxOf, hltm]
  · cases h

def eBox (L : List Ob) (x : AV) : Option (AV × List Ob) :=
  if x.solid then some (.ptr L.length 1 [], L ++ [.box x]) else none

theorem box_op {P : Program} {L L' : List Ob} {G : GFr} {ch : Chain} {o : Oper} {t : TypeId} {x : Operand} {av xv : AV} (ho : o.op = .box t x) (hx : opnd G ch x = some xv)
    (h : eBox L xv = some (av, L')) : OpOk P G ch L o av L' := by
  intro z zn X ms w a K Q hr hf hh hK
  unfold eBox at h
  split at h
  · rename_i hs
    cases h
    obtain ⟨k1, k2, k3, k4⟩ := push_box (t := t) hr hs (opnd_is hx hf hh)
    refine OpOk.value (u := .pointer (some ⟨w.heap.size, 0, none⟩)) (w' := w.alloc (.cells (a.eval x).cells t)) ?_ (hK _ _ _ k1 k2 k3 k4)
    obtain ⟨dst, op, ty, pos, after, guard⟩ := o
    subst ho
    exact run_v (by simp [Instr.box, run_newVar])
  · cases h

/-! ## store -/
def Ob.put : Ob → List Stp → AV → Option Ob
  | .box a, p, v => (a.set p v).map .box
  | .seq sz n f, .x i sz' :: r, v => if sz = sz' then ((f i).set r v).map fun y => .seq sz n (fun j => if j = i then y else f j) else none
  | _, _, _ => none

theorem setRow_same {w : World} {b : Nat} {arr arr' : Array Value} {e : TypeId} (h : w.heap[b]? = some (.cells arr e (0, 0))) :
    (w.setRow b arr').heap[b]? = some (.cells arr' e (0, 0)) := setRow_heap w b arr arr' e (0, 0) h

theorem run_storeCells_at {P : Program} {b : Nat} {e : TypeId} : ∀ (vs : List Value) (off i : Nat) (cur : List Value) (w : World), w.heap[b]? = some (.cells cur.toArray e (0, 0)) →
    off + i + vs.length ≤ cur.length → (∀ v ∈ vs, v.oneCell' = true) →
    ∃ w', (storeCells ⟨b, off, none⟩ vs i).run P w = .ok () w' ∧ w'.heap[b]? = some (.cells (splice cur (off + i) vs).toArray e (0, 0)) ∧ w'.heap.size = w.heap.size ∧
      SameOut w w' ∧ ∀ b', b' ≠ b → w'.heap[b']? = w.heap[b']?
  | [], off, i, cur, w, hb, _, _ => ⟨w, rfl, by simpa [splice] using hb, rfl, SameOut.refl w, fun _ _ => rfl⟩
  | v :: vs, off, i, cur, w, hb, hl, h1 => by
    simp only [List.length_cons] at hl
    have hcell : w.cell? ⟨b, off + i, none⟩ = some (cur[off + i]'(by omega)) := by
      rw [cell_mk hb]; simp
    have hfro : w.frozen? ⟨b, off + i, none⟩ = false := by simp [World.frozen?, hb]
    have hst : (store ((⟨b, off, none⟩ : Addr).add i) v).run P w = .ok () (w.setCell ⟨b, off + i, none⟩ v) := by
      rw [add_mk, run_store P w _ v _ (h1 v (by simp)), hcell]
      simp [hfro]
    have hb' : (w.setCell ⟨b, off + i, none⟩ v).heap[b]? = some (.cells (cur.set (off + i) v).toArray e (0, 0)) := by
      have := heap_setCell_same w b (off + i) cur.toArray e v hb
      rw [this]; simp
    obtain ⟨w', k1, k2, k3, k5, k4⟩ := run_storeCells_at (P := P) (b := b) (e := e) vs off (i + 1) (cur.set (off + i) v) _ hb' (by simp; omega) (fun x hx => h1 x (by simp [hx]))
    refine ⟨w', ?_, ?_, by simpa using k3, SameOut.trans (w' := w.setCell ⟨b, off + i, none⟩ v) ⟨rfl, rfl, rfl⟩ k5, fun b' hne => ?_⟩
    · simp only [storeCells, Sem.run_bind, hst, Result.andThen_ok, k1]
    · rw [k2]
      congr 3
      apply List.ext_getElem?
      intro j
      rw [splice_getElem? (cs := cur.set (off + i) v) (k := vs) (by simp; omega), splice_getElem? (cs := cur) (k := v :: vs) (by simp; omega)]
      simp only [List.length_cons]
      by_cases hj : off + i ≤ j ∧ j < off + i + (vs.length + 1)
      · rw [if_pos hj]
        by_cases h2 : j = off + i
        · subst h2
          rw [if_neg (by omega), List.getElem?_set_self (by omega), Nat.sub_self]; rfl
        · rw [if_pos (by omega), show j - (off + i) = (j - (off + (i + 1))) + 1 by omega]; simp
      · rw [if_neg hj, if_neg (by omega), List.getElem?_set_ne (by omega)]
    · rw [k4 b' hne, heap_setCell_other w _ b' v hne]

theorem run_storeVar_at {P : Program} {b off : Nat} {e t : TypeId} {cur : List Value} {v : Value} {w : World} (hb : w.heap[b]? = some (.cells cur.toArray e (0, 0)))
    (hsz : szOf P t = some v.cells.toList.length) (hl : off + v.cells.toList.length ≤ cur.length) (h1 : ∀ u ∈ v.cells.toList, u.oneCell' = true) :
    ∃ w', (storeVar t ⟨b, off, none⟩ v).run P w = .ok () w' ∧ w'.heap[b]? = some (.cells (splice cur off v.cells.toList).toArray e (0, 0)) ∧ w'.heap.size = w.heap.size ∧
      SameOut w w' ∧ ∀ b', b' ≠ b → w'.heap[b']? = w.heap[b']? := by
  obtain ⟨w', k1, k2, k3⟩ := run_storeCells_at (P := P) v.cells.toList off 0 cur w hb (by omega) h1
  refine ⟨w', ?_, by simpa using k2, k3⟩
  simp [storeVar, run_sz hsz w, k1]

theorem Rel.put {P : Program} {X : Nat → Prop} {ms : Blocks} {L : List Ob} {w : World} (h : Rel X ms L w) {o b tc : Nat} {obj obj' : Ob} {p : List Stp} {x : AV} {v : Value} {t : TypeId}
    (hL : L[o]? = some obj) (hm : ms[o]? = some (some (b, tc))) (hp : obj.put p x = some obj') (hc : obj.getC p) (hs : x.solid = true) (hw : 0 < x.wd)
    (hsz : szOf P t = some x.wd) (hv : AV.IsV (cxOf X ms L w) x v) :
    ∃ w', (storeVar t ⟨b, pathOff p, none⟩ v).run P w = .ok () w' ∧ Rel X ms (L.set o obj') w' ∧ Ext ms w ms w' ∧ (cxOf X ms L w).le (cxOf X ms (L.set o obj') w') := by
  have hcv := IsV.cells hs hv
  have hcl := hcv.len
  unfold Ob.put at hp
  split at hp
  · rename_i a
    cases hset : a.set p x with
    | none => simp [hset] at hp
    | some a' =>
      simp [hset] at hp
      subst hp
      obtain ⟨arr, e, h1, h2⟩ := h.box hL hm
      obtain ⟨k1, k2, k3⟩ := AV.set_is p h2 hset hc hcv
      have hl := k3.resolve_left (by omega)
      obtain ⟨w', r1, r2, r3, r4⟩ := run_storeVar_at (P := P) (t := t) (cur := arr.toList) (off := pathOff p) (v := v) (by simpa using h1) (by rw [hcl]; exact hsz) hl hcv.one
      refine ⟨w', r1, h.setOb hL hm r3 r4 rfl (fun s hs => ⟨s, hs, Nat.le_refl _⟩) (fun hcx => .inr ⟨b, tc, _, e, hm, r2, ?_⟩)⟩
      simpa using k1.mono hcx
  · rename_i sz n f i sz' r
    split at hp
    · rename_i hsz'
      subst hsz'
      cases hset : (f i).set r x with
      | none => simp [hset] at hp
      | some y =>
        simp [hset] at hp
        subst hp
        obtain ⟨arr, e, cs, h1, h2, h3, h4, h5, h6⟩ := h.seq hL hm
        obtain ⟨hi, hc⟩ := hc
        obtain ⟨k1, k2, k3⟩ := AV.set_is r (h4 i hi) hset hc hcv
        have hl := k3.resolve_left (by omega)
        rw [h5 i hi] at hl
        have hbound : i * sz + sz ≤ arr.size := by
          rw [h3, ← Nat.succ_mul]; exact Nat.mul_le_mul_right sz (by omega)
        have hbl : i * sz + pathOff r + v.cells.toList.length ≤ arr.toList.length := by rw [Array.length_toList (xs := arr)]; omega
        obtain ⟨w', r1, r2, r3, r4⟩ := run_storeVar_at (P := P) (t := t) (cur := arr.toList) (off := i * sz + pathOff r) (v := v) (by simpa using h1) (by rw [hcl]; exact hsz) hbl hcv.one
        refine ⟨w', r1, h.setOb hL hm r3 r4 rfl (fun s hs => ⟨s, hs, Nat.le_refl _⟩) (fun hcx => .inr ⟨b, tc, _, e, fun j => if j = i then splice (cs i) (pathOff r) v.cells.toList else cs j, hm, r2, h2, ?_, ?_, ?_, ?_⟩)⟩
        · have : (splice arr.toList (i * sz + pathOff r) v.cells.toList).length = arr.size := by rw [splice_length hbl]; simp
          simpa [this] using h3
        · intro j hj
          by_cases hji : j = i
          · subst hji; simpa using k1.mono hcx
          · simpa [hji] using (h4 j hj).mono hcx
        · intro j hj
          by_cases hji : j = i
          · subst hji; simp [splice_length (by rw [h5 j hj]; omega : pathOff r + v.cells.toList.length ≤ (cs j).length), h5 j hj]
          · simp [hji, h5 j hj]
        · intro j hj q hq
          simp only [List.getElem?_toArray]
          rw [splice_getElem? hbl]
          by_cases hji : j = i
          · subst hji
            simp only [if_true]
            rw [splice_getElem? (by rw [h5 j hj]; omega)]
            by_cases h7 : pathOff r ≤ q ∧ q < pathOff r + v.cells.toList.length
            · rw [if_pos h7, if_pos (by omega)]; congr 1; omega
            · rw [if_neg h7, if_neg (by omega), Array.getElem?_toList]; exact h6 j hj q hq
          · rw [if_neg hji, if_neg, Array.getElem?_toList]
            · exact h6 j hj q hq
            · intro ⟨q1, q2⟩
              rcases Nat.lt_or_gt_of_ne hji with hlt | hgt
              · have : (j + 1) * sz ≤ i * sz := Nat.mul_le_mul_right sz hlt
                rw [Nat.succ_mul] at this; omega
              · have : (i + 1) * sz ≤ j * sz := Nat.mul_le_mul_right sz hgt
                rw [Nat.succ_mul] at this; omega
    · cases hp
  · cases hp

def eStore (P : Program) (L : List Ob) (t : TypeId) (p x : AV) : Option (AV × List Ob × List Prop) :=
  match p with
  | .ptr o st path => match L[o]? with
    | some obj => match obj.put path x with
      | some obj' => if x.solid = true ∧ 0 < x.wd ∧ szOf P t = some x.wd then some (.bot, L.set o obj', obj.live st ++ obj.getL path) else none
      | none => none
    | none => none
  | _ => none

theorem store_op {P : Program} {L L' : List Ob} {G : GFr} {ch : Chain} {o : Oper} {t : TypeId} {p x : Operand} {av pv xv : AV} {C : List Prop} (ho : o.op = .store t p x)
    (hp : opnd G ch p = some pv) (hx : opnd G ch x = some xv) (h : eStore P L t pv xv = some (av, L', C)) (hc : AllP C) : OpOk P G ch L o av L' := by
  intro z zn X ms w a K Q hr hf hh hK
  unfold eStore at h
  split at h
  · rename_i i st path
    split at h
    · rename_i obj hL
      split at h
      · rename_i obj' hput
        split at h
        · rename_i hty
          cases h
          obtain ⟨hc1, hc2⟩ := AllP_append.1 hc
          have hp' := IsV.is1 rfl (by simp) (by simp) (opnd_is hp hf hh)
          generalize hu : a.eval p = u at hp'
          cases hp' with
          | ptr _ _ _ _ hp' =>
          obtain ⟨_, _, _, p3⟩ := hp'
          obtain ⟨b, tc, hm, rfl⟩ := p3 obj hL (Ob.live_C hc1)
          obtain ⟨w', k1, k2, k3, k4⟩ := hr.put (P := P) (t := t) hL hm hput (Ob.getL_C hc2) hty.1 hty.2.1 hty.2.2 (opnd_is hx hf hh)
          refine OpOk.skip (w' := w') ?_ (hK _ _ _ k2 k3 k4 (.bot _))
          obtain ⟨dst, op, ty, pos, after, guard⟩ := o
          subst ho
          simp only [execOp, hu, Instr.storeAt, Instr.sureAddr, Sem.run_bind, Sem.run_pure, Result.andThen_ok, k1]
        · cases h
      · cases h
    · cases h
  · cases h
end Go.TA

namespace Go.TA
open Go

/-! ## Reading a slice's cells -/
/-- The elements of a slice, as far as they are known. -/
def elemsOf (L : List Ob) : AV → Option (Nat × (Nat → AV) × List Prop)
  | .d (.sl n f) => some (n, fun i => .d (f i), [])
  | .full n f => some (n, fun i => .d (f i), [])
  | .ref o st 0 n => match L[o]? with
    | some (.seq _ m f) => some (n, f, [m = st])
    | _ => none
  | .ref o st off n => match L[o]? with
    | some (.seq _ m f) => some (n, fun i => f (off + i), [m = st])
    | _ => none
  | _ => none

theorem flat_get {n sz : Nat} {ks : Nat → List Value} (hl : ∀ i, i < n → (ks i).length = sz) {j : Nat} {v : Value} (h : ((List.range n).flatMap ks)[j]? = some v) :
    0 < sz ∧ j / sz < n ∧ (ks (j / sz))[j % sz]? = some v := by
  have hlen := flatMap_range_length n sz ks hl
  have hj : j < n * sz := by
    rcases Nat.lt_or_ge j (n * sz) with h' | h'
    · exact h'
    · rw [List.getElem?_eq_none (by omega)] at h; cases h
  have hsz : 0 < sz := by
    rcases Nat.eq_zero_or_pos sz with h0 | h0
    · subst h0; simp at hj
    · exact h0
  have hq : j / sz < n := Nat.div_lt_of_lt_mul (by rw [Nat.mul_comm]; exact hj)
  refine ⟨hsz, hq, ?_⟩
  have e := flatMap_range_getElem? n sz ks hl (j / sz) (j % sz) hq (Nat.mod_lt _ hsz)
  have : j / sz * sz + j % sz = j := by rw [Nat.mul_comm]; exact Nat.div_add_mod j sz
  rw [this] at e
  rw [← e]; exact h

theorem run_firstCells {P : Program} {w w1 : World} (hw1 : w1.heap = w.heap) {b off n sz cap : Nat} {ks : Nat → List Value} {arr : Array Value} {e : TypeId} {fz : Nat × Nat} (hb : w.heap[b]? = some (.cells arr e fz))
    (hl : ∀ i, i < n → (ks i).length = sz) (hc : ∀ i, i < n → ∀ j, j < sz → arr[off + i * sz + j]? = (ks i)[j]?) (len' : Nat) :
    (Builtin.firstCells sz n (.slice (some ⟨b, off, none⟩) len' cap)).run P w1 = .ok ((List.range n).flatMap ks).toArray w1 := by
  have hlen := flatMap_range_length n sz ks hl
  rw [← hw1] at hb
  have := run_loadCells_list (P := P) w1 ⟨b, off, none⟩ ((List.range n).flatMap ks) (fun j v hv => by
    obtain ⟨hsz, hq, hr⟩ := flat_get hl hv
    rw [add_mk, cell_mk hb, ← hr, ← hc (j / sz) hq (j % sz) (Nat.mod_lt _ hsz), Nat.add_assoc]
    congr 2
    rw [Nat.mul_comm]; exact (Nat.div_add_mod j sz).symm)
  rw [hlen] at this
  exact this

/-- What a slice is in the world. -/
theorem slice_read {P : Program} {X : Nat → Prop} {ms : Blocks} {L : List Ob} {w : World} (hr : Rel X ms L w) {x : AV} {n sz : Nat} {f : Nat → AV} {C : List Prop} {u : Value}
    (h : elemsOf L x = some (n, f, C)) (hc : AllP C) (hu : AV.IsV (cxOf X ms L w) x u) (hw : ∀ i, i < n → (f i).wd = sz) :
    ∃ a cap ks, u = .slice a n cap ∧ (∀ i, i < n → AV.Is (cxOf X ms L w) (f i) (ks i)) ∧ (∀ i, i < n → (ks i).length = sz) ∧
      ∀ w1 : World, w1.heap = w.heap → (Builtin.firstCells sz n u).run P w1 = .ok ((List.range n).flatMap ks).toArray w1 := by
  have hsl : ∀ (g : Nat → DV), f = (fun i => AV.d (g i)) → DV.Is (cxOf X ms L w).M (.sl n g) [u] →
      ∃ a cap ks, u = .slice a n cap ∧ (∀ i, i < n → AV.Is (cxOf X ms L w) (f i) (ks i)) ∧ (∀ i, i < n → (ks i).length = sz) ∧
        ∀ w1 : World, w1.heap = w.heap → (Builtin.firstCells sz n u).run P w1 = .ok ((List.range n).flatMap ks).toArray w1 := fun g hg hd => by
    subst hg
    cases hd with
    | slNil => exact ⟨_, _, fun _ => [], rfl, fun i hi => by omega, fun i hi => by omega, fun w1 _ => by simp [Builtin.firstCells]⟩
    | slEmpty _ a cap =>
      refine ⟨_, _, fun _ => [], rfl, fun i hi => by omega, fun i hi => by omega, fun w1 _ => ?_⟩
      simp [Builtin.firstCells, loadCells, loadCellsFrom]
    | sl _ _ b off cap sz' arr cs h1 h2 hb hh hl hcs =>
      obtain ⟨_, _, e, fz, hheap⟩ := memOf_some hb
      have hs : ∀ i, i < n → (cs i).length = sz := fun i hi => by rw [(hh i hi).len]; exact hw i hi
      by_cases h0 : n = 0
      · subst h0
        exact ⟨_, _, cs, rfl, fun i hi => by omega, fun i hi => by omega, fun w1 _ => by simp [Builtin.firstCells, loadCells, loadCellsFrom]⟩
      · have hsz : sz' = sz := by rw [← hl 0 (by omega), hs 0 (by omega)]
        subst hsz
        exact ⟨_, _, cs, rfl, fun i hi => .d _ _ (hh i hi), hs, fun w1 hw1 => run_firstCells hw1 hheap hs hcs n⟩
  have href : ∀ (o st off : Nat) (g : Nat → AV) (sz' m : Nat), x = .ref o st off n → L[o]? = some (.seq sz' m g) → m = st → (∀ i, f i = g (off + i)) →
      ∃ a cap ks, u = .slice a n cap ∧ (∀ i, i < n → AV.Is (cxOf X ms L w) (f i) (ks i)) ∧ (∀ i, i < n → (ks i).length = sz) ∧
        ∀ w1 : World, w1.heap = w.heap → (Builtin.firstCells sz n u).run P w1 = .ok ((List.range n).flatMap ks).toArray w1 := fun o st off g sz' m hx hL hm hf => by
    subst hx; subst hm
    have hu' := IsV.is1 rfl (by simp) (by simp) hu
    cases hu' with
    | ref _ _ _ _ _ hr' =>
    obtain ⟨r1, ⟨ra, rcap, rfl⟩, r3, r4⟩ := hr'
    obtain ⟨r5, r6⟩ := r4 sz' g hL
    rcases r6 with ⟨r7, ra', r6⟩ | ⟨_, r6⟩ | ⟨b, tc, r6, r7, r8⟩
    · cases r6
      refine ⟨_, _, fun _ => [], rfl, fun i hi => by omega, fun i hi => by omega, fun w1 _ => ?_⟩
      cases ra <;> simp [Builtin.firstCells, loadCells, loadCellsFrom]
    · subst r6
      refine ⟨_, _, fun _ => [], rfl, fun i hi => by omega, fun i hi => by omega, fun w1 _ => ?_⟩
      cases ra <;> simp [Builtin.firstCells, loadCells, loadCellsFrom]
    · cases r8
      obtain ⟨arr, e, cs, h1, h2, h3, h4, h5, h6⟩ := hr.seq hL r6
      have hs : ∀ i, i < n → (cs (off + i)).length = sz := fun i hi => by rw [(h4 (off + i) (by omega)).len, ← hf i]; exact hw i hi
      by_cases h0 : n = 0
      · subst h0
        refine ⟨_, _, fun i => cs (off + i), rfl, fun i hi => by omega, fun i hi => by omega, fun w1 _ => ?_⟩
        simp [Builtin.firstCells, loadCells, loadCellsFrom]
      · have hsz : sz' = sz := by rw [← h5 (off + 0) (by omega), hs 0 (by omega)]
        subst hsz
        refine ⟨_, _, fun i => cs (off + i), rfl, fun i hi => by rw [hf i]; exact h4 _ (by omega), hs, fun w1 hw1 => run_firstCells hw1 h1 hs (fun i hi j hj => ?_) n⟩
        have := h6 (off + i) (by omega) j hj
        rw [← this]; congr 1; rw [Nat.add_mul]
  unfold elemsOf at h
  split at h
  · cases h
    have hu' := IsV.is1 rfl (by simp) (by simp) hu
    cases hu' with
    | d _ _ hd => exact hsl _ rfl hd
  · cases h
    have hu' := IsV.is1 rfl (by simp) (by simp) hu
    cases hu' with
    | full _ _ _ hd => exact hsl _ rfl hd
  · split at h
    · rename_i hL
      cases h
      exact href _ _ 0 _ _ _ rfl hL hc.1 (fun i => by simp)
    · cases h
  · split at h
    · rename_i hL
      cases h
      exact href _ _ _ _ _ _ rfl hL hc.1 (fun i => rfl)
    · cases h
  · cases h

/-! ## append -/
theorem growBy_le (need : Nat) : ∀ (r c : Nat), c ≤ need → 256 ≤ c → Builtin.growBy need r c ≤ 2 * need
  | 0, c, h, _ => by simp [Builtin.growBy]; omega
  | r + 1, c, h, h' => by
    simp only [Builtin.growBy]
    split
    · omega
    · by_cases h2 : c + (c + 768) / 4 ≤ need
      · exact growBy_le need r _ h2 (by omega)
      · cases r with
        | zero => simp [Builtin.growBy]; omega
        | succ r => simp only [Builtin.growBy]; rw [if_pos (by omega)]; omega

theorem nextslicecap_le {need old : Nat} (h : old < need) : Builtin.nextslicecap need old ≤ 2 * need := by
  unfold Builtin.nextslicecap
  split
  · omega
  · split
    · omega
    · exact growBy_le need 4 old (by omega) (by omega)

/-- What append does: in place, or on a new block. -/
theorem run_append {P : Program} {w : World} {st elem ty : TypeId} {i : TypeInfo} {z : Value} {a : Option Addr} {n cap m : Nat} {x : Value} {new old : List Value}
    (hst : P.underlying st = some (.slice elem)) (hi : P.info? elem = some i) (hz : i.zero = some z)
    (hx : ∃ b c, x = .slice b m c) (hnew : ∀ w1 : World, w1.heap = w.heap → (Builtin.firstCells i.size m x).run P w1 = .ok new.toArray w1)
    (hold : ∀ w1 : World, w1.heap = w.heap → (Builtin.firstCells i.size n (.slice a n cap)).run P w1 = .ok old.toArray w1)
    (hlen : (n + m) * (2 * i.bytes) ≤ 2 ^ 48) (hcap : ¬ n + m ≤ cap) (hb : 0 < i.bytes) :
    ∃ nc w', n + m ≤ nc ∧ (Builtin.append_ #[st, st] ty #[.slice a n cap, x]).run P w = .ok (.slice (some ⟨w.heap.size, 0, none⟩) (n + m) nc) w' ∧ Grow w w' ∧
      w'.heap[w.heap.size]? = some (.cells (old.toArray ++ new.toArray ++ Builtin.zeroCells z.cells (nc - (n + m))) elem (0, 0)) ∧ w.heap.size < w'.heap.size := by
  obtain ⟨b, c, rfl⟩ := hx
  have hsz : szOf P elem = some i.size := by simp [szOf, hi]
  have hnc := nextslicecap_le (need := n + m) (old := cap) (by omega)
  have hbig : ¬ Builtin.nextslicecap (n + m) cap * i.bytes > 2 ^ 48 := by
    have := Nat.mul_le_mul_right i.bytes hnc
    have e : 2 * (n + m) * i.bytes = (n + m) * (2 * i.bytes) := by rw [Nat.mul_comm 2 (n + m), Nat.mul_assoc]
    omega
  have hti : ∀ w : World, (typeInfo elem).run P w = .ok i w := fun w => by simp [typeInfo, hi]
  have hzero : ∀ w : World, (zeroValue elem).run P w = .ok z w := fun w => by simp [zeroValue, hti, hz]
  refine ⟨n + m + w.tape w.drawn (.appendCap (n + m) cap elem) % (2 ^ 63 - (n + m)), (w.drew).alloc (.cells (old.toArray ++ new.toArray ++ Builtin.zeroCells z.cells (w.tape w.drawn (.appendCap (n + m) cap elem) % (2 ^ 63 - (n + m)))) elem), by omega, ?_, (Grow.drew w).trans (Grow.alloc _ _), ?_, by simp⟩
  · have hold' := hold w.drew rfl
    have hnew' := hnew w.drew rfl
    have hb0 : ¬ i.bytes = 0 := by omega
    simp [Builtin.append_, run_und hst, run_sz hsz, Builtin.lenOf, hcap, hti, hb0, hbig, Question.forced, Question.cut, hold', hnew', hzero, newRow]
    congr 2
    apply Array.ext'
    simp
  · have := heap_new w.drew (.cells (old.toArray ++ new.toArray ++ Builtin.zeroCells z.cells (w.tape w.drawn (.appendCap (n + m) cap elem) % (2 ^ 63 - (n + m)))) elem)
    rw [show w.drew.heap.size = w.heap.size from rfl] at this
    rw [this]
    congr 4
    omega
def elemInfo (P : Program) (t : TypeId) : Option (TypeId × TypeInfo) := match P.underlying t with
  | some (.slice elem) => (P.info? elem).map fun i => (elem, i)
  | _ => none

theorem elemInfo_spec {P : Program} {t elem : TypeId} {i : TypeInfo} (h : elemInfo P t = some (elem, i)) : P.underlying t = some (.slice elem) ∧ P.info? elem = some i := by
  unfold elemInfo at h
  split at h
  · rename_i e hu
    cases hi : P.info? e with
    | none => simp [hi] at h
    | some j => simp [hi] at h; obtain ⟨rfl, rfl⟩ := h; exact ⟨hu, hi⟩
  · cases h

def catF {α : Type} (n : Nat) (f g : Nat → α) : Nat → α := match n with
  | 0 => g
  | n + 1 => fun i => if i < n + 1 then f i else g (i - (n + 1))

theorem catF_lt {α : Type} {n : Nat} {f g : Nat → α} {i : Nat} (h : i < n) : catF n f g i = f i := by
  cases n with
  | zero => omega
  | succ n => simp [catF, h]
theorem catF_ge {α : Type} {n : Nat} {f g : Nat → α} {i : Nat} (h : n ≤ i) : catF n f g i = g (i - n) := by
  cases n with
  | zero => rfl
  | succ n => simp only [catF]; rw [if_neg (by omega)]

def dataF (f : Nat → AV) : Nat → DV := fun i => match f i with
  | .d x => x
  | _ => .b false

theorem run_append_same {P : Program} {w : World} {st elem ty : TypeId} {i : TypeInfo} {a : Option Addr} {n cap : Nat} {x : Value}
    (hst : P.underlying st = some (.slice elem)) (hi : P.info? elem = some i) (hx : ∃ b c, x = .slice b 0 c) (hcap : n ≤ cap) (hnew : ∀ w1 : World, w1.heap = w.heap → (Builtin.firstCells i.size 0 x).run P w1 = .ok #[] w1) :
    (Builtin.append_ #[st, st] ty #[.slice a n cap, x]).run P w = .ok (.slice a n cap) w := by
  obtain ⟨b, c, rfl⟩ := hx
  have hsz : szOf P elem = some i.size := by simp [szOf, hi]
  have := hnew w rfl
  cases a <;> simp [Builtin.append_, run_und hst, run_sz hsz, Builtin.lenOf, hcap, this, storeCells]

/-- Onto a slice that is full, what comes of it read-only. -/
def eAppImm (P : Program) (L : List Ob) (t : TypeId) (n : Nat) (f : Nat → DV) (x : AV) : Option (AV × List Prop) :=
  match elemInfo P t, elemsOf L x with
  | some (_, i), some (m, g, C) =>
    if 0 < i.bytes ∧ i.zero.isSome then some (.d (.sl (n + m) (catF n f (dataF g))), C ++ [∀ k, k < m → g k = .d (dataF g k) ∧ (dataF g k).wd = i.size, ∀ k, k < n → (f k).wd = i.size, (n + m) * (2 * i.bytes) ≤ 2 ^ 48]) else none
  | _, _ => none

theorem appImm_op {P : Program} {L : List Ob} {G : GFr} {ch : Chain} {o : Oper} {s x : Operand} {t : TypeId} {av xv : AV} {n : Nat} {f : Nat → DV} {C : List Prop}
    (ho : o.op = .call ⟨.builtin .append, #[s, x], #[t, t]⟩) (hs : opnd G ch s = some (.full n f)) (hx : opnd G ch x = some xv)
    (h : eAppImm P L t n f xv = some (av, C)) (hc : AllP C) : OpOk P G ch L o av L := by
  intro z zn X ms w a K Q hr hf hh hK
  unfold eAppImm at h
  split at h
  · rename_i elem i m g C' he hm
    split at h
    · rename_i hz
      cases h
      obtain ⟨hz0, hz1⟩ := hz
      obtain ⟨z, hz⟩ := Option.isSome_iff_exists.1 hz1
      obtain ⟨hc1, hc2, hc3, hc4, _⟩ := AllP_append.1 hc
      obtain ⟨hu, hi⟩ := elemInfo_spec he
      have hsv := opnd_is hs hf hh
      have hxv := opnd_is hx hf hh
      obtain ⟨xa, xc, ks, e1, e2, e3, e4⟩ := slice_read (P := P) hr (sz := i.size) hm hc1 hxv (fun k hk => by rw [(hc2 k hk).1]; exact (hc2 k hk).2)
      have hsr := IsV.is1 rfl (by simp) (by simp) hsv
      obtain ⟨sa, hse⟩ : ∃ sa, a.eval s = .slice sa n n ∧ DV.Is (cxOf X ms L w).M (.sl n f) [.slice sa n n] := by
        generalize a.eval s = u at hsr
        cases hsr with
        | full _ _ sa hd => exact ⟨sa, rfl, hd⟩
      obtain ⟨hse, hsd⟩ := hse
      obtain ⟨_, _, js, d1, d2, d3, d4⟩ := slice_read (P := P) hr (sz := i.size) (x := .full n f) (u := .slice sa n n) (C := []) rfl trivial (.one _ _ rfl (.full _ _ _ hsd)) (fun k hk => hc3 k hk)
      have hexec : ∀ v w', (Builtin.append_ #[t, t] o.type #[.slice sa n n, a.eval x]).run P w = .ok v w' → (execOp a.eval o).run P w = .ok (.value v) w' := fun v w' hv => by
        obtain ⟨dst, op, ty, pos, after, guard⟩ := o
        subst ho
        exact run_v (s := Builtin.append_ #[t, t] ty (#[s, x].map a.eval)) (by simpa [hse] using hv)
      by_cases hm0 : m = 0
      · subst hm0
        have hrun := run_append_same (P := P) (w := w) (ty := o.type) (a := sa) (n := n) (cap := n) (x := a.eval x) hu hi ⟨_, _, e1⟩ (Nat.le_refl _) (fun w1 hw1 => by simpa using e4 w1 hw1)
        refine OpOk.value (hexec _ _ hrun) (hK _ ms w hr (Ext.refl _ _) (Cx.le.refl _) (.one _ _ rfl (.d _ _ ?_)))
        have : DV.Is (cxOf X ms L w).M (.sl n (catF n f (dataF g))) [.slice sa n n] := by
          cases hsd with
          | slNil => exact .slNil _
          | slEmpty => exact .slEmpty _ _ _
          | sl _ _ b off cap sz arr cs h1 h2 hb hh' hl hcs =>
            exact .sl n _ b off _ sz arr cs h1 h2 hb (fun k hk => by rw [catF_lt hk]; exact hh' k hk) hl hcs
        simpa using this
      · obtain ⟨nc, w', r1, r2, r3, r4, r5⟩ := run_append (P := P) (w := w) (ty := o.type) (a := sa) (n := n) (cap := n) (m := m) (x := a.eval x) hu hi hz ⟨_, _, e1⟩ e4 d4 hc4 (by omega) hz0
        obtain ⟨k1, k2⟩ := hr.grow r3
        refine OpOk.value (hexec _ _ r2) (hK _ ms w' k1 (r3.ext ms) k2 (.one _ _ rfl (.d _ _ ?_)))
        have hM : (cxOf X ms L w').M w.heap.size = some (((List.range n).flatMap js).toArray ++ ((List.range m).flatMap ks).toArray ++ Builtin.zeroCells z.cells (nc - (n + m))) :=
          memOf_intro (fun hx => by have := hr.xlt _ hx; omega) (fun ho => by have := (hr.lt _ ho).1; omega) r4
        have hjl := flatMap_range_length n i.size js d3
        have hkl := flatMap_range_length m i.size ks e3
        have hbytes : (n + m) < 2 ^ 63 := by
          have : n + m ≤ (n + m) * (2 * i.bytes) := Nat.le_mul_of_pos_right _ (by omega)
          omega
        refine .sl _ _ w.heap.size 0 nc i.size _ (catF n js ks) r1 hbytes hM (fun k hk => ?_) (fun k hk => ?_) (fun k hk j hj => ?_)
        · by_cases hkn : k < n
          · rw [catF_lt hkn, catF_lt hkn]
            have := (d2 k hkn).mono k2
            cases this with
            | d _ _ h => exact h
          · rw [catF_ge (by omega), catF_ge (by omega)]
            have := (e2 (k - n) (by omega)).mono k2
            rw [(hc2 (k - n) (by omega)).1] at this
            cases this with
            | d _ _ h => exact h
        · by_cases hkn : k < n
          · rw [catF_lt hkn]; exact d3 k hkn
          · rw [catF_ge (by omega)]; exact e3 _ (by omega)
        · rw [Nat.zero_add, ← Array.getElem?_toList]
          simp only [Array.toList_append, List.append_assoc]
          by_cases hkn : k < n
          · rw [catF_lt hkn, List.getElem?_append_left (by
              rw [hjl]
              have : (k + 1) * i.size ≤ n * i.size := Nat.mul_le_mul_right _ hkn
              rw [Nat.succ_mul] at this; omega)]
            exact flatMap_range_getElem? n i.size js d3 k j hkn hj
          · have hk' : k - n < m := by omega
            have hkm : (k - n) * i.size + n * i.size = k * i.size := by rw [← Nat.add_mul]; congr 1; omega
            rw [catF_ge (by omega), List.getElem?_append_right (by rw [hjl]; omega), hjl, List.getElem?_append_left (by
              rw [hkl]
              have : (k - n + 1) * i.size ≤ m * i.size := Nat.mul_le_mul_right _ hk'
              rw [Nat.succ_mul] at this; omega)]
            have := flatMap_range_getElem? m i.size ks e3 (k - n) j hk' hj
            rw [← this]; congr 1; omega
    · cases h
  · cases h
end Go.TA

namespace Go.TA
open Go

theorem cells_cat {n m sz : Nat} {js ks : Nat → List Value} (hj : ∀ k, k < n → (js k).length = sz) (hk : ∀ k, k < m → (ks k).length = sz) {rest : List Value} (k : Nat) (hkk : k < n + m) (j : Nat) (hjj : j < sz) :
    ((List.range n).flatMap js ++ ((List.range m).flatMap ks ++ rest))[k * sz + j]? = (catF n js ks k)[j]? := by
  have hjl := flatMap_range_length n sz js hj
  have hkl := flatMap_range_length m sz ks hk
  by_cases hkn : k < n
  · rw [catF_lt hkn, List.getElem?_append_left (by
      rw [hjl]
      have : (k + 1) * sz ≤ n * sz := Nat.mul_le_mul_right _ hkn
      rw [Nat.succ_mul] at this; omega)]
    exact flatMap_range_getElem? n sz js hj k j hkn hjj
  · have hk' : k - n < m := by omega
    have hkm : (k - n) * sz + n * sz = k * sz := by rw [← Nat.add_mul]; congr 1; omega
    rw [catF_ge (by omega), List.getElem?_append_right (by rw [hjl]; omega), hjl, List.getElem?_append_left (by
      rw [hkl]
      have : (k - n + 1) * sz ≤ m * sz := Nat.mul_le_mul_right _ hk'
      rw [Nat.succ_mul] at this; omega)]
    have := flatMap_range_getElem? m sz ks hk (k - n) j hk' hjj
    rw [← this]; congr 1; omega

/-- Onto a row of ours. -/
def eAppRef (P : Program) (L : List Ob) (t : TypeId) (o st n : Nat) (x : AV) : Option (AV × List Ob × List Prop) :=
  match elemInfo P t, elemsOf L x, L[o]? with
  | some (_, i), some (m, g, C), some (.seq sz m' f) =>
    if 0 < i.bytes ∧ i.zero.isSome ∧ i.size = sz ∧ ((i.zero.map fun z => z.cells.size) = some sz) then
      some (.ref o (n + m) 0 (n + m), L.set o (.seq sz (n + m) (catF n f g)), C ++ [m' = st, n = st, ∀ k, k < m → (g k).wd = sz, (n + m) * (2 * i.bytes) ≤ 2 ^ 48]) else none
  | _, _, _ => none

theorem appRef_op {P : Program} {L L' : List Ob} {G : GFr} {ch : Chain} {o : Oper} {s x : Operand} {t : TypeId} {av xv : AV} {r st n : Nat} {C : List Prop}
    (ho : o.op = .call ⟨.builtin .append, #[s, x], #[t, t]⟩) (hs : opnd G ch s = some (.ref r st 0 n)) (hx : opnd G ch x = some xv)
    (h : eAppRef P L t r st n xv = some (av, L', C)) (hc : AllP C) : OpOk P G ch L o av L' := by
  intro zz zn X ms w a K Q hr hf hh hK
  unfold eAppRef at h
  split at h
  · rename_i elem i m g C' sz m' f he hm hL
    split at h
    · rename_i hz
      cases h
      obtain ⟨hz0, hz1, rfl, hz3⟩ := hz
      obtain ⟨z, hz⟩ := Option.isSome_iff_exists.1 hz1
      have hzs : z.cells.size = i.size := by simpa [hz] using hz3
      obtain ⟨hc1, hms, hns, hc2, hc4, _⟩ := AllP_append.1 hc
      subst hms
      subst hns
      obtain ⟨hu, hi⟩ := elemInfo_spec he
      have hsv := opnd_is hs hf hh
      have hxv := opnd_is hx hf hh
      obtain ⟨xa, xc, ks, e1, e2, e3, e4⟩ := slice_read (P := P) hr (sz := i.size) hm hc1 hxv hc2
      have hro : r < L.length := by
        rcases Nat.lt_or_ge r L.length with h' | h'
        · exact h'
        · rw [List.getElem?_eq_none h'] at hL; cases hL
      have hsr := IsV.is1 rfl (by simp) (by simp) hsv
      have hexec : ∀ u v w', a.eval s = u → (Builtin.append_ #[t, t] o.type #[u, a.eval x]).run P w = .ok v w' → (execOp a.eval o).run P w = .ok (.value v) w' := fun u v w' hse hv => by
        obtain ⟨dst, op, ty, pos, after, guard⟩ := o
        subst ho
        exact run_v (s := Builtin.append_ #[t, t] ty (#[s, x].map a.eval)) (by simpa [hse] using hv)
      generalize hse : a.eval s = u at hsr
      cases hsr with
      | ref _ _ _ _ _ hrr =>
      obtain ⟨r1, ⟨ra, rcap, rfl⟩, r3, r4⟩ := hrr
      obtain ⟨r5, r6⟩ := r4 i.size f hL
      -- the value that is left, if the object lies in a block
      have mkRef : ∀ (msn : Blocks) (wn : World) (b tc : Nat), msn[r]? = some (some (b, tc)) → n + m ≤ tc →
          AV.IsV (cxOf X msn (L.set r (.seq i.size (n + m) (catF n f g))) wn) (.ref r (n + m) 0 (n + m)) (.slice (some ⟨b, 0, none⟩) (n + m) tc) := fun msn wn b tc h1 h2 => by
        refine .one _ _ rfl (.ref _ _ _ _ _ ⟨by simpa [cxOf] using hro, ⟨_, _, rfl⟩, fun obj s' ho' hs' => ?_, fun sz' f' hL' => ⟨by omega, .inr (.inr ⟨b, tc, h1, h2, by simp⟩)⟩⟩)
        simp only [cxOf] at ho'
        rw [List.getElem?_set_self hro] at ho'
        cases ho'
        simp [Ob.stamp] at hs'; omega
      -- growing: to a new block
      have grow : ∀ (js : Nat → List Value), (∀ k, k < n → AV.Is (cxOf X ms L w) (f k) (js k)) → (∀ k, k < n → (js k).length = i.size) →
          (∀ w1 : World, w1.heap = w.heap → (Builtin.firstCells i.size n (.slice ra n rcap)).run P w1 = .ok ((List.range n).flatMap js).toArray w1) → ¬ n + m ≤ rcap → 0 < m →
          o.wpIn (fenceOf zz) zn P a w K Q := fun js d2 d3 d4 hno hm0 => by
        obtain ⟨nc, w', k1, k2, k3, k4, k5⟩ := run_append (P := P) (w := w) (ty := o.type) (a := ra) (n := n) (cap := rcap) (m := m) (x := a.eval x) hu hi hz ⟨_, _, e1⟩ e4 d4 hc4 hno hz0
        have hsize : (((List.range n).flatMap js).toArray ++ ((List.range m).flatMap ks).toArray ++ Builtin.zeroCells z.cells (nc - (n + m))).size = nc * i.size := by
          have h1 := flatMap_range_length n i.size js d3
          have h2 := flatMap_range_length m i.size ks e3
          have h3 := size_zeroCells z.cells (nc - (n + m))
          rw [Array.size_append, Array.size_append, List.size_toArray, List.size_toArray, h1, h2, h3, hzs, ← Nat.add_mul, ← Nat.add_mul]
          congr 1; omega
        obtain ⟨q1, q2, q3⟩ := hr.moveOb (obj' := .seq i.size (n + m) (catF n f g)) (tc := nc) k3 hL (b := w.heap.size) ⟨Nat.le_refl _, k5⟩ rfl ⟨n, n + m, rfl, rfl, by omega⟩ (fun hcx => by
          refine .inr ⟨w.heap.size, nc, _, elem, catF n js ks, by simp [cxOf, hr.len, hro], k4, k1, hsize, fun k hk => ?_, fun k hk => ?_, fun k hk j hj => ?_⟩
          · by_cases hkn : k < n
            · rw [catF_lt hkn, catF_lt hkn]; exact (d2 k hkn).mono hcx
            · rw [catF_ge (by omega), catF_ge (by omega)]; exact (e2 _ (by omega)).mono hcx
          · by_cases hkn : k < n
            · rw [catF_lt hkn]; exact d3 k hkn
            · rw [catF_ge (by omega)]; exact e3 _ (by omega)
          · rw [← Array.getElem?_toList]
            simp only [Array.toList_append, List.append_assoc]
            exact cells_cat d3 e3 k hk j hj)
        exact OpOk.value (hexec _ _ _ hse k2) (hK _ _ _ q1 q2 q3 (mkRef _ _ _ _ (by simp [hr.len, hro]) k1))
      rcases r6 with ⟨r7, ra', r6⟩ | ⟨r7, _⟩ | ⟨b, tc, r6, r7, r8⟩
      · -- nothing yet
        simp only [Value.slice.injEq] at r6
        obtain ⟨rfl, rfl, rfl⟩ := r6
        by_cases hm0 : m = 0
        · subst hm0
          have hrun := run_append_same (P := P) (w := w) (ty := o.type) (a := ra) (n := 0) (cap := 0) (x := a.eval x) hu hi ⟨_, _, e1⟩ (Nat.le_refl _) (fun w1 hw1 => by simpa using e4 w1 hw1)
          have hcxx : (cxOf X ms L w).le (cxOf X ms (L.set r (.seq i.size (0 + 0) (catF 0 f g))) w) := ⟨fun _ _ h => h, by simp [cxOf], fun j obj' hj hl hs' => by
            simp only [cxOf] at hl ⊢
            by_cases hjr : r = j
            · subst hjr
              rw [List.getElem?_set_self hro] at hl
              cases hl
              exact ⟨_, hL, rfl, fun s' hs' => ⟨s', hs', Nat.le_refl _⟩, fun _ => trivial⟩
            · rw [List.getElem?_set_ne hjr] at hl
              exact ⟨obj', hl, rfl, fun s' hs' => ⟨s', hs', Nat.le_refl _⟩, fun _ => trivial⟩⟩
          have hrel := hr.step (ms' := ms) (L' := L.set r (.seq i.size (0 + 0) (catF 0 f g))) (w' := w) (Ext.refl _ _) (by simp [hr.len]) hr.lt hr.inj (by simp) hcxx.ob (fun j obj' hl => by
            by_cases hjr : r = j
            · subst hjr
              rw [List.getElem?_set_self hro] at hl
              cases hl
              exact .inr fun _ => .inl ⟨r7, rfl⟩
            · rw [List.getElem?_set_ne hjr] at hl
              exact .inl ⟨hl, rfl, fun _ _ _ => rfl⟩)
          refine OpOk.value (hexec _ _ _ hse hrun) (hK _ _ _ hrel.1 (Ext.refl _ _) hrel.2 (.one _ _ rfl (.ref _ _ _ _ _ ⟨by simpa [cxOf] using hro, ⟨_, _, rfl⟩, fun _ _ _ _ => Nat.zero_le _, fun sz' f' _ => ⟨Nat.le_refl _, .inl ⟨r7, _, rfl⟩⟩⟩)))
        · exact grow (fun _ => []) (fun k hk => by omega) (fun k hk => by omega) (fun w1 _ => by cases ra <;> simp [Builtin.firstCells, loadCells, loadCellsFrom]) (by omega) (by omega)
      · omega
      · simp only [Value.slice.injEq, Nat.zero_mul, Nat.sub_zero] at r8
        obtain ⟨rfl, _, rfl⟩ := r8
        obtain ⟨arr, e, cs, h1, h2, h3, h4, h5, h6⟩ := hr.seq hL r6
        by_cases hfit : n + m ≤ rcap
        · -- in place
          have hroom := run_storeCells_at (P := P) (b := b) (e := e) ((List.range m).flatMap ks) (n * i.size) 0 arr.toList w (by simpa using h1) (by
            rw [flatMap_range_length m i.size ks e3, Array.length_toList (xs := arr), h3, Nat.add_zero, ← Nat.add_mul]
            exact Nat.mul_le_mul_right _ hfit) (fun v hv => by
              obtain ⟨k, hk, hvk⟩ := List.mem_flatMap.1 hv
              exact (e2 k (List.mem_range.1 hk)).one v hvk)
          obtain ⟨w', k1, k2, k3, k4⟩ := hroom
          have hkl := flatMap_range_length m i.size ks e3
          have hbl : n * i.size + ((List.range m).flatMap ks).length ≤ arr.toList.length := by
            rw [hkl, Array.length_toList (xs := arr), h3, ← Nat.add_mul]
            exact Nat.mul_le_mul_right _ hfit
          have hrun : (Builtin.append_ #[t, t] o.type #[.slice (some ⟨b, 0, none⟩) n rcap, a.eval x]).run P w = .ok (.slice (some ⟨b, 0, none⟩) (n + m) rcap) w' := by
            have hsz : szOf P elem = some i.size := by simp [szOf, hi]
            have h4' := e4 w rfl
            rw [e1] at h4' ⊢
            simp [Builtin.append_, run_und hu, run_sz hsz, Builtin.lenOf, hfit, h4', add_mk, k1]
          obtain ⟨q1, q2, q3⟩ := hr.setOb (obj' := .seq i.size (n + m) (catF n f g)) hL r6 k3 k4 rfl (fun s' hs' => ⟨n + m, rfl, by simp [Ob.stamp] at hs'; omega⟩) (fun hcx => by
            refine .inr ⟨b, rcap, _, e, catF n cs ks, r6, k2, hfit, ?_, fun k hk => ?_, fun k hk => ?_, fun k hk j hj => ?_⟩
            · have : (splice arr.toList (n * i.size) ((List.range m).flatMap ks)).length = arr.size := by rw [splice_length hbl]; simp
              simpa [this] using h3
            · by_cases hkn : k < n
              · rw [catF_lt hkn, catF_lt hkn]; exact (h4 k hkn).mono hcx
              · rw [catF_ge (by omega), catF_ge (by omega)]; exact (e2 _ (by omega)).mono hcx
            · by_cases hkn : k < n
              · rw [catF_lt hkn]; exact h5 k hkn
              · rw [catF_ge (by omega)]; exact e3 _ (by omega)
            · simp only [List.getElem?_toArray, Nat.add_zero]
              rw [splice_getElem? hbl]
              by_cases hkn : k < n
              · rw [catF_lt hkn, if_neg, Array.getElem?_toList]
                · exact h6 k hkn j hj
                · intro ⟨q, _⟩
                  have : (k + 1) * i.size ≤ n * i.size := Nat.mul_le_mul_right _ hkn
                  rw [Nat.succ_mul] at this; omega
              · have hk' : k - n < m := by omega
                have hkm : (k - n) * i.size + n * i.size = k * i.size := by rw [← Nat.add_mul]; congr 1; omega
                rw [catF_ge (by omega), if_pos]
                · have := flatMap_range_getElem? m i.size ks e3 (k - n) j hk' hj
                  rw [← this]; congr 1; omega
                · rw [hkl]
                  have : (k - n + 1) * i.size ≤ m * i.size := Nat.mul_le_mul_right _ hk'
                  rw [Nat.succ_mul] at this; omega)
          exact OpOk.value (hexec _ _ _ hse hrun) (hK _ _ _ q1 q2 q3 (mkRef _ _ _ _ r6 hfit))
        · exact grow cs h4 h5 (fun w1 hw1 => run_firstCells hw1 h1 h5 (fun k hk j hj => by simpa using h6 k hk j hj) n) hfit (by omega)
    · cases h
  · cases h
end Go.TA

namespace Go.TA
open Go

/-! ## append onto nothing: a row of ours -/
def eAppNew (P : Program) (L : List Ob) (t : TypeId) (x : AV) : Option (AV × List Ob × List Prop) :=
  match elemInfo P t, elemsOf L x with
  | some (_, i), some (m, g, C) =>
    if 0 < i.bytes ∧ i.zero.isSome ∧ ((i.zero.map fun z => z.cells.size) = some i.size) then
      some (.ref L.length m 0 m, L ++ [.seq i.size m g], C ++ [∀ k, k < m → (g k).wd = i.size, m * (2 * i.bytes) ≤ 2 ^ 48]) else none
  | _, _ => none

/-- A fresh row's value. -/
theorem ref_new {X : Nat → Prop} {ms : Blocks} {L : List Ob} {w' : World} {sz n b tc : Nat} {f : Nat → AV} (hl : ms.length = L.length) (hle : n ≤ tc) :
    AV.IsV (cxOf X (ms ++ [some (b, tc)]) (L ++ [.seq sz n f]) w') (.ref L.length n 0 n) (.slice (some ⟨b, 0, none⟩) n tc) := by
  refine .one _ _ rfl (.ref _ _ _ _ _ ⟨by simp [cxOf], ⟨_, _, rfl⟩, fun obj s ho hs => ?_, fun sz' f' _ => ⟨by omega, .inr (.inr ⟨b, tc, by simp [cxOf, ← hl], hle, by simp⟩)⟩⟩)
  simp [cxOf] at ho
  subst ho
  simp [Ob.stamp] at hs
  omega

theorem appNew_op {P : Program} {L L' : List Ob} {G : GFr} {ch : Chain} {o : Oper} {s x : Operand} {t : TypeId} {av xv : AV} {f : Nat → DV} {C : List Prop}
    (ho : o.op = .call ⟨.builtin .append, #[s, x], #[t, t]⟩) (hs : opnd G ch s = some (.full 0 f)) (hx : opnd G ch x = some xv)
    (h : eAppNew P L t xv = some (av, L', C)) (hc : AllP C) : OpOk P G ch L o av L' := by
  intro z zn X ms w a K Q hr hf hh hK
  unfold eAppNew at h
  split at h
  · rename_i elem i m g C' he hm
    split at h
    · rename_i hz
      cases h
      obtain ⟨hz0, hz1, hz3⟩ := hz
      obtain ⟨z, hz⟩ := Option.isSome_iff_exists.1 hz1
      have hzs : z.cells.size = i.size := by simpa [hz] using hz3
      obtain ⟨hc1, hc2, hc4, _⟩ := AllP_append.1 hc
      obtain ⟨hu, hi⟩ := elemInfo_spec he
      have hsv := opnd_is hs hf hh
      have hxv := opnd_is hx hf hh
      obtain ⟨xa, xc, ks, e1, e2, e3, e4⟩ := slice_read (P := P) hr (sz := i.size) hm hc1 hxv hc2
      have hsr := IsV.is1 rfl (by simp) (by simp) hsv
      obtain ⟨sa, hse⟩ : ∃ sa, a.eval s = .slice sa 0 0 := by
        generalize a.eval s = u at hsr
        cases hsr with
        | full _ _ sa hd => exact ⟨sa, rfl⟩
      have hexec : ∀ v w', (Builtin.append_ #[t, t] o.type #[.slice sa 0 0, a.eval x]).run P w = .ok v w' → (execOp a.eval o).run P w = .ok (.value v) w' := fun v w' hv => by
        obtain ⟨dst, op, ty, pos, after, guard⟩ := o
        subst ho
        exact run_v (s := Builtin.append_ #[t, t] ty (#[s, x].map a.eval)) (by simpa [hse] using hv)
      by_cases hm0 : m = 0
      · subst hm0
        have hrun := run_append_same (P := P) (w := w) (ty := o.type) (a := sa) (n := 0) (cap := 0) (x := a.eval x) hu hi ⟨_, _, e1⟩ (Nat.le_refl _) (fun w1 hw1 => by simpa using e4 w1 hw1)
        obtain ⟨k1, k2, k3⟩ := hr.push (m := none) (obj := .seq i.size 0 g) (Grow.refl w) (fun b tc e => by cases e) (fun _ => .inl ⟨by simp [cxOf, ← hr.len], rfl⟩)
        refine OpOk.value (hexec _ _ hrun) (hK _ _ _ k1 k2 k3 (.one _ _ rfl (.ref _ _ _ _ _ ⟨by simp [cxOf], ⟨_, _, rfl⟩, fun _ _ _ _ => Nat.zero_le _, fun sz' f' _ => ⟨Nat.le_refl _, .inl ⟨by simp [cxOf, ← hr.len], _, rfl⟩⟩⟩)))
      · obtain ⟨nc, w', k1, k2, k3, k4, k5⟩ := run_append (P := P) (w := w) (ty := o.type) (a := sa) (n := 0) (cap := 0) (m := m) (old := []) (x := a.eval x) hu hi hz ⟨_, _, e1⟩ e4
          (fun w1 _ => by cases sa <;> simp [Builtin.firstCells, loadCells, loadCellsFrom]) (by simpa using hc4) (by omega) hz0
        rw [Nat.zero_add] at k1 k2 k4
        have hkl := flatMap_range_length m i.size ks e3
        have hsize : (([] : List Value).toArray ++ ((List.range m).flatMap ks).toArray ++ Builtin.zeroCells z.cells (nc - m)).size = nc * i.size := by
          rw [Array.size_append, Array.size_append, List.size_toArray, List.size_toArray, hkl, size_zeroCells, hzs, List.length_nil, Nat.zero_add, ← Nat.add_mul]
          congr 1; omega
        obtain ⟨q1, q2, q3⟩ := hr.push (m := some (w.heap.size, nc)) (obj := .seq i.size m g) k3 (fun b tc e => by cases e; exact ⟨Nat.le_refl _, k5⟩) (fun hcx => by
          refine .inr ⟨w.heap.size, nc, _, elem, ks, by simp [cxOf, ← hr.len], k4, k1, hsize, fun k hk => (e2 k hk).mono hcx, e3, fun k hk j hj => ?_⟩
          rw [← Array.getElem?_toList]
          simp only [Array.toList_append, List.nil_append]
          rw [List.getElem?_append_left (by
            rw [hkl]
            have : (k + 1) * i.size ≤ m * i.size := Nat.mul_le_mul_right _ hk
            rw [Nat.succ_mul] at this; omega)]
          exact flatMap_range_getElem? m i.size ks e3 k j hk hj)
        exact OpOk.value (hexec _ _ k2) (hK _ _ _ q1 q2 q3 (ref_new hr.len k1))
    · cases h
  · cases h

/-! ## buildSlice, makeSlice, makeMap -/
theorem zeros_flat (zc : List Value) (n : Nat) (h : 0 < zc.length) :
    (Array.range (n * zc.length)).map (fun i => zc.toArray[i % zc.toArray.size]!) = ((List.range n).flatMap fun _ => zc).toArray := by
  have hl := flatMap_range_length n zc.length (fun _ => zc) (fun _ _ => rfl)
  apply Array.ext
  · simp [hl]
  · intro j h1 h2
    simp only [Array.getElem_map, Array.getElem_range, List.size_toArray, List.getElem_toArray]
    have hj : j < n * zc.length := by simpa using h1
    have hq : j / zc.length < n := Nat.div_lt_of_lt_mul (by rw [Nat.mul_comm]; exact hj)
    have hm : j % zc.length < zc.length := Nat.mod_lt _ h
    have e := flatMap_range_getElem? n zc.length (fun _ => zc) (fun _ _ => rfl) (j / zc.length) (j % zc.length) hq hm
    have : j / zc.length * zc.length + j % zc.length = j := by rw [Nat.mul_comm]; exact Nat.div_add_mod j _
    rw [this, List.getElem?_eq_getElem (by simpa using h2), List.getElem?_eq_getElem hm] at e
    rw [Option.some.inj e]
    simp [hm]

theorem replicate_is {c : Cx} {x : AV} {zc : List Value} (h : AV.Is c x zc) : ∀ n, AV.IsL c (List.replicate n x) ((List.range n).flatMap fun _ => zc)
  | 0 => .nil
  | n + 1 => by
    rw [List.replicate_succ, List.range_succ_eq_map, List.flatMap_cons, List.flatMap_map]
    exact .cons _ _ _ _ h (replicate_is h n)

def listF {α : Type} (d : α) (l : List α) : Nat → α := fun i => l.getD i d

def bsOffs (len sz : Nat) (i : Nat) : Option (Stp × Nat) := if i < len then some (.f i (i * sz), sz) else none

/-- The elements of a slice literal. -/
def bsParts (P : Program) (t : TypeId) (len : Nat) (parts : List (Nat × AV)) : Option (Nat × List AV) :=
  match elemInfo P t with
  | some (elem, i) => match zeroOf P elem with
    | some z => if z.wd = i.size ∧ 0 < i.size ∧ len * i.size ≤ 2 ^ 24 then match setParts (bsOffs len i.size) parts (.agg (List.replicate len (.d z))) with
        | some (.agg xs) => if xs.length = len ∧ xs.all (fun x => x.wd == i.size) then some (i.size, xs) else none
        | _ => none
      else none
    | none => none
  | none => none

theorem AV.IsL.cells {c : Cx} {sz : Nat} : ∀ {xs : List AV} {cs : List Value}, AV.IsL c xs cs → xs.all (fun x => x.wd == sz) = true → ∀ (k : Nat) (x : AV), xs[k]? = some x →
    ∃ l, AV.Is c x l ∧ l.length = sz ∧ ∀ j, j < sz → cs[k * sz + j]? = l[j]?
  | _, _, .nil, _, k, x, hx => by simp at hx
  | _, _, .cons y ys l ls h ht, hall, 0, x, hx => by
    simp at hx; subst hx
    simp only [List.all_cons, Bool.and_eq_true, beq_iff_eq] at hall
    have hl : l.length = sz := by rw [h.len]; exact hall.1
    exact ⟨l, h, hl, fun j hj => by rw [Nat.zero_mul, Nat.zero_add, List.getElem?_append_left (by omega)]⟩
  | _, _, .cons y ys l ls h ht, hall, k + 1, x, hx => by
    simp at hx
    simp only [List.all_cons, Bool.and_eq_true, beq_iff_eq] at hall
    have hl : l.length = sz := by rw [h.len]; exact hall.1
    obtain ⟨l', h1, h2, h3⟩ := AV.IsL.cells ht hall.2 k x hx
    refine ⟨l', h1, h2, fun j hj => ?_⟩
    rw [List.getElem?_append_right (by rw [hl, Nat.succ_mul]; omega), hl, ← h3 j hj]
    congr 1
    rw [Nat.succ_mul]; omega

theorem partsL_f {offs : Nat → Option (Stp × Nat)} (ho : ∀ i s n, offs i = some (s, n) → ∃ k o, s = .f k o) : ∀ (parts : List (Nat × AV)) (a : AV), AllP (partsL offs parts a)
  | [], _ => trivial
  | (i, v) :: r, a => by
    simp only [partsL]
    cases h : offs i with
    | none => trivial
    | some p =>
      obtain ⟨s, n⟩ := p
      obtain ⟨k, o, rfl⟩ := ho i s n h
      rw [AllP_append]
      refine ⟨?_, ?_⟩
      · simp only [AV.getL, AllP_append]
        refine ⟨?_, ?_⟩
        · unfold AV.intoL
          split
          · rename_i he; cases he
          · trivial
        · split <;> trivial
      · split
        · exact partsL_f ho r _
        · trivial

theorem bs_run {P : Program} {c : Cx} {w : World} {t : TypeId} {len sz : Nat} {parts : List (Nat × AV)} {xs : List AV} {vs : Array (Nat × Value)} (h : bsParts P t len parts = some (sz, xs))
    (hp : PartsIs c parts vs.toList) :
    ∃ cs elem, (Instr.buildSlice t len vs).run P w = .ok (.slice (some ⟨w.heap.size, 0, none⟩) len len) (w.alloc (.cells cs.toArray elem)) ∧ AV.IsL c xs cs ∧ xs.length = len ∧
      xs.all (fun x => x.wd == sz) = true ∧ cs.length = len * sz ∧ 0 < sz := by
  unfold bsParts at h
  split at h
  · rename_i elem i he
    split at h
    · rename_i z hz
      split at h
      · rename_i hty
        obtain ⟨h1, h2, h3⟩ := hty
        split at h
        · rename_i ys hs
          split at h
          · rename_i hl
            cases h
            obtain ⟨hu, hi⟩ := elemInfo_spec he
            obtain ⟨zv, z1, z2⟩ := zeroOf_is hz
            have hzc := IsV.cells (c := c) (av := .d z) rfl (z2 c)
            have hzl : zv.cells.toList.length = i.size := by rw [hzc.len]; exact h1
            have hsz : szOf P elem = some i.size := by simp [szOf, hi]
            obtain ⟨cs', f1, f2⟩ := setParts_fill (c := c) (place := fun k => some (k * i.size, i.size)) (offs := bsOffs len i.size) (by
              intro k s n ho
              unfold bsOffs at ho
              split at ho
              · cases ho; rfl
              · cases ho) parts vs.toList _ _ _ hp (.agg _ _ (replicate_is hzc len)) hs (partsL_f (fun k s n ho => by
                unfold bsOffs at ho
                split at ho
                · cases ho; exact ⟨_, _, rfl⟩
                · cases ho) parts _)
            cases f2 with
            | agg _ _ f2 =>
            have hcl : cs'.length = len * i.size := by
              have hw : ∀ (l : List AV), l.all (fun x => x.wd == i.size) = true → AV.wdL l = l.length * i.size := by
                intro l
                induction l with
                | nil => intro _; simp [AV.wdL]
                | cons x l ih =>
                  intro hx
                  simp only [List.all_cons, Bool.and_eq_true, beq_iff_eq] at hx
                  simp only [AV.wdL, List.length_cons, hx.1, ih hx.2, Nat.succ_mul]; omega
              rw [f2.len, hw xs hl.2, hl.1]
            refine ⟨cs', elem, ?_, f2, hl.1, hl.2, hcl, h2⟩
            have hzf := zeros_flat zv.cells.toList len (by omega)
            rw [hzl] at hzf
            simp only [Array.toArray_toList] at hzf f1
            have hno : ¬ len * i.size > 2 ^ 24 := by omega
            by_cases h0 : len * i.size = 0
            · have hlen : len = 0 := by
                rcases Nat.mul_eq_zero.1 h0 with h | h
                · exact h
                · omega
              subst hlen
              simp at f1
              simp [Instr.buildSlice, run_und hu w, run_sz hsz w, show Array.range 0 = #[] from rfl, f1, newRow]
            · have hzf' : Array.map (fun j => zv.cells[j % zv.cells.size]!) (Array.range (len * i.size)) = (List.flatMap (fun _ => zv.cells.toList) (List.range len)).toArray := hzf
              simp only [Instr.buildSlice, Sem.run_bind, run_und hu w, Result.andThen_ok, run_sz hsz w, if_neg hno, if_neg h0, z1, Sem.run_pure, hzf', f1]
              simp [newRow]
          · cases h
        · cases h
      · cases h
    · cases h
  · cases h
def allD : List AV → Option (List DV)
  | [] => some []
  | .d x :: r => (allD r).map (x :: ·)
  | _ :: _ => none

theorem allD_map : ∀ {xs : List AV} {ds : List DV}, allD xs = some ds → xs = ds.map AV.d
  | [], ds, h => by simp [allD] at h; subst h; rfl
  | x :: r, ds, h => by
    cases x with
    | d y =>
      simp only [allD] at h
      cases hr : allD r with
      | none => simp [hr] at h
      | some es =>
        simp [hr] at h
        subst h
        simp [allD_map hr]
    | _ => simp [allD] at h

/-- A slice literal, read-only. -/
def eBsImm (P : Program) (t : TypeId) (len : Nat) (parts : List (Nat × AV)) : Option AV :=
  match bsParts P t len parts with
  | some (_, xs) => (allD xs).map fun ds => if len = 0 then .full 0 fun _ => .b false else .d (.sl len (listF (.b false) ds))
  | none => none

theorem bsImm_op {P : Program} {L : List Ob} {G : GFr} {ch : Chain} {o : Oper} {t : TypeId} {len : Nat} {ps : Array (Nat × Operand)} {pv : List (Nat × AV)} {av : AV}
    (ho : o.op = .buildSlice t len ps) (hp : partsO G ch ps.toList = some pv) (h : eBsImm P t len pv = some av) (hb : len < 2 ^ 63) : OpOk P G ch L o av L := by
  intro z zn X ms w a K Q hr hf hh hK
  unfold eBsImm at h
  split at h
  · rename_i sz xs hbs
    cases hd : allD xs with
    | none => simp [hd] at h
    | some ds =>
      simp [hd] at h
      subst h
      have hpv := partsO_is hf hh hp
      obtain ⟨cs, elem, r1, r2, r3, r4, r5, r6⟩ := bs_run (P := P) (w := w) (vs := ps.map fun (i, x) => (i, a.eval x)) hbs (by simpa using hpv)
      have hexec : (execOp a.eval o).run P w = .ok (.value (.slice (some ⟨w.heap.size, 0, none⟩) len len)) (w.alloc (.cells cs.toArray elem)) := by
        obtain ⟨dst, op, ty, pos, after, guard⟩ := o
        subst ho
        exact run_v r1
      obtain ⟨k1, k2⟩ := hr.grow (Grow.alloc w (.cells cs.toArray elem))
      by_cases hz : len = 0
      · subst hz
        exact OpOk.value hexec (hK _ ms _ k1 ((Grow.alloc w _).ext ms) k2 (.one _ _ rfl (.full 0 _ _ (.slEmpty _ _ _))))
      rw [if_neg hz] at hK
      refine OpOk.value hexec (hK _ ms _ k1 ((Grow.alloc w _).ext ms) k2 (.one _ _ rfl (.d _ _ ?_)))
      have hM : (cxOf X ms L (w.alloc (.cells cs.toArray elem))).M w.heap.size = some cs.toArray :=
        memOf_intro (fun hx => by have := hr.xlt _ hx; omega) (fun ho => by have := (hr.lt _ ho).1; omega) (heap_new w _)
      have hxs := allD_map hd
      have hch : ∀ k, k < len → ∃ l, DV.Is (cxOf X ms L (w.alloc (.cells cs.toArray elem))).M (listF (.b false) ds k) l ∧ l.length = sz ∧ ∀ j, j < sz → cs[k * sz + j]? = l[j]? := fun k hk => by
        have hk' : k < ds.length := by rw [hxs, List.length_map] at r3; omega
        obtain ⟨l, l1, l2, l3⟩ := r2.cells r4 k (.d ds[k]) (by rw [hxs]; simp [hk'])
        have := l1.mono k2
        cases this with
        | d _ _ h =>
        refine ⟨l, ?_, l2, l3⟩
        rw [show listF (.b false) ds k = ds[k] by simp [listF, List.getD, hk']]
        exact h
      refine .sl len _ w.heap.size 0 len sz _ (fun k => if h : k < len then (hch k h).choose else []) (Nat.le_refl _) hb hM (fun k hk => ?_) (fun k hk => ?_) (fun k hk j hj => ?_)
      · simp only [hk, dif_pos]; exact (hch k hk).choose_spec.1
      · simp only [hk, dif_pos]; exact (hch k hk).choose_spec.2.1
      · simp only [hk, dif_pos, Nat.zero_add, List.getElem?_toArray]; exact (hch k hk).choose_spec.2.2 j hj
  · cases h

/-- A slice literal, a row of ours. -/
def eBsObj (P : Program) (L : List Ob) (t : TypeId) (len : Nat) (parts : List (Nat × AV)) : Option (AV × List Ob) :=
  match bsParts P t len parts with
  | some (sz, xs) => some (.ref L.length len 0 len, L ++ [.seq sz len (listF .bot xs)])
  | none => none

theorem bsObj_op {P : Program} {L L' : List Ob} {G : GFr} {ch : Chain} {o : Oper} {t : TypeId} {len : Nat} {ps : Array (Nat × Operand)} {pv : List (Nat × AV)} {av : AV}
    (ho : o.op = .buildSlice t len ps) (hp : partsO G ch ps.toList = some pv) (h : eBsObj P L t len pv = some (av, L')) : OpOk P G ch L o av L' := by
  intro z zn X ms w a K Q hr hf hh hK
  unfold eBsObj at h
  split at h
  · rename_i sz xs hbs
    cases h
    have hpv := partsO_is hf hh hp
    obtain ⟨cs, elem, r1, r2, r3, r4, r5, r6⟩ := bs_run (P := P) (w := w) (vs := ps.map fun (i, x) => (i, a.eval x)) hbs (by simpa using hpv)
    have hexec : (execOp a.eval o).run P w = .ok (.value (.slice (some ⟨w.heap.size, 0, none⟩) len len)) (w.alloc (.cells cs.toArray elem)) := by
      obtain ⟨dst, op, ty, pos, after, guard⟩ := o
      subst ho
      exact run_v r1
    have hch : ∀ k, k < len → ∃ l, AV.Is (cxOf X ms L w) (listF .bot xs k) l ∧ l.length = sz ∧ ∀ j, j < sz → cs[k * sz + j]? = l[j]? := fun k hk => by
      obtain ⟨l, l1, l2, l3⟩ := r2.cells r4 k (xs[k]'(by omega)) (by simp)
      refine ⟨l, ?_, l2, l3⟩
      rw [show listF .bot xs k = xs[k]'(by omega) by simp [listF, List.getD, r3, hk]]
      exact l1
    obtain ⟨q1, q2, q3⟩ := hr.push (m := some (w.heap.size, len)) (obj := .seq sz len (listF .bot xs)) (Grow.alloc w (.cells cs.toArray elem)) (fun b tc e => by cases e; exact ⟨Nat.le_refl _, by simp⟩) (fun hcx => by
      refine .inr ⟨w.heap.size, len, _, elem, fun k => if h : k < len then (hch k h).choose else [], by simp [cxOf, ← hr.len], heap_new w _, Nat.le_refl _, by simpa using r5, fun k hk => ?_, fun k hk => ?_, fun k hk j hj => ?_⟩
      · simp only [hk, dif_pos]; exact (hch k hk).choose_spec.1.mono hcx
      · simp only [hk, dif_pos]; exact (hch k hk).choose_spec.2.1
      · simp only [hk, dif_pos, List.getElem?_toArray]; exact (hch k hk).choose_spec.2.2 j hj)
    exact OpOk.value hexec (hK _ _ _ q1 q2 q3 (ref_new hr.len (Nat.le_refl _)))
  · cases h

/-- make([]T, n). -/
def eMake (P : Program) (L : List Ob) (t : TypeId) (l c : AV) : Option (AV × List Ob × List Prop) :=
  match elemInfo P t, l, c with
  | some (elem, i), .d (.i .i64 n), .d (.i .i64 m) => match zeroOf P elem with
    | some z => if z.wd = i.size ∧ 0 < i.size ∧ 0 < i.bytes then
        some (.ref L.length n.toNat 0 n.toNat, L ++ [.seq i.size n.toNat fun _ => .d z], [0 ≤ n, n ≤ m, m * i.bytes ≤ 2 ^ 47]) else none
    | none => none
  | _, _, _ => none

theorem make_op {P : Program} {L L' : List Ob} {G : GFr} {ch : Chain} {o : Oper} {t : TypeId} {l c : Operand} {lv cv av : AV} {C : List Prop}
    (ho : o.op = .makeSlice t l c) (hl : opnd G ch l = some lv) (hcv : opnd G ch c = some cv) (h : eMake P L t lv cv = some (av, L', C)) (hc : AllP C) : OpOk P G ch L o av L' := by
  intro z zn X ms w a K Q hr hf hh hK
  unfold eMake at h
  split at h
  · rename_i elem i n m he
    split at h
    · rename_i z hz
      split at h
      · rename_i hty
        cases h
        obtain ⟨h0, h1, h2⟩ := hty
        obtain ⟨c0, c1, c2, _⟩ := hc
        obtain ⟨hu, hi⟩ := elemInfo_spec he
        obtain ⟨zv, z1, z2⟩ := zeroOf_is hz
        have hzc := IsV.cells (c := cxOf X ms L w) (av := .d z) rfl (z2 _)
        have hzl : zv.cells.toList.length = i.size := by rw [hzc.len]; exact h0
        have hsz : szOf P elem = some i.size := by simp [szOf, hi]
        have hel := IsV.i (opnd_is hl hf hh)
        have hec := IsV.i (opnd_is hcv hf hh)
        have hti : (typeInfo elem).run P w = .ok i w := by simp [typeInfo, hi]
        have hmb : m ≤ 2 ^ 47 := by
          have : m * 1 ≤ m * i.bytes := Int.mul_le_mul_of_nonneg_left (by omega) (by omega)
          omega
        have wn : IntKind.i64.wrap n = n := IntWalk.i64_in _ (by omega)
        have wm : IntKind.i64.wrap m = m := IntWalk.i64_in _ (by omega)
        have hbm : ¬ ((i.bytes : Int) * m > 2 ^ 48) := by rw [Int.mul_comm]; omega
        have hzf := zeros_flat zv.cells.toList m.toNat (by omega)
        rw [hzl] at hzf
        have hrun : (Instr.makeSlice t (.int .i64 n) (.int .i64 m)).run P w = .ok (.slice (some ⟨w.heap.size, 0, none⟩) n.toNat m.toNat)
            (w.alloc (.cells ((List.range m.toNat).flatMap fun _ => zv.cells.toList).toArray elem)) := by
          have hcond : ((decide (m < 0) || decide ((i.bytes : Int) * m > 2 ^ 48)) || decide (n < 0) || decide (n > m)) = false := by
            simp only [Bool.or_eq_false_iff, decide_eq_false_iff_not]
            exact ⟨⟨⟨by omega, hbm⟩, by omega⟩, by omega⟩
          have hzf' : Array.map (fun j => zv.cells[j % zv.cells.size]!) (Array.range (m.toNat * i.size)) = (List.flatMap (fun _ => zv.cells.toList) (List.range m.toNat)).toArray := hzf
          simp only [Instr.makeSlice, Sem.run_bind, run_und hu w, Result.andThen_ok, asInt, asIntOf, Sem.run_pure, hti, wn, wm, hcond, Bool.false_eq_true, if_false, run_askRoom, run_sz hsz w]
          by_cases hm0 : m.toNat * i.size = 0
          · rw [if_pos hm0]
            rw [hm0] at hzf' ⊢
            rw [← hzf']
            have e0 : ∀ f : Nat → Value, Array.map f (Array.range 0) = #[] := fun f => by rw [show Array.range 0 = #[] from rfl]; simp
            simp [newRow, e0]
          · rw [if_neg hm0]
            simp only [Sem.run_bind, z1, Result.andThen_ok, Sem.run_pure, hzf']
            rfl
        have hexec : (execOp a.eval o).run P w = .ok (.value (.slice (some ⟨w.heap.size, 0, none⟩) n.toNat m.toNat)) (w.alloc (.cells ((List.range m.toNat).flatMap fun _ => zv.cells.toList).toArray elem)) := by
          obtain ⟨dst, op, ty, pos, after, guard⟩ := o
          subst ho
          exact run_v (s := Instr.makeSlice t (a.eval l) (a.eval c)) (by rw [hel, hec]; exact hrun)
        have hfl := flatMap_range_length m.toNat i.size (fun _ => zv.cells.toList) (fun _ _ => hzl)
        obtain ⟨q1, q2, q3⟩ := hr.push (m := some (w.heap.size, m.toNat)) (obj := .seq i.size n.toNat fun _ => .d z) (Grow.alloc w (.cells ((List.range m.toNat).flatMap fun _ => zv.cells.toList).toArray elem))
          (fun b tc e => by cases e; exact ⟨Nat.le_refl _, by simp⟩) (fun hcx => by
          refine .inr ⟨w.heap.size, m.toNat, _, elem, fun _ => zv.cells.toList, by simp [cxOf, ← hr.len], heap_new w _, by omega, by simpa using hfl, fun k hk => hzc.mono hcx, fun _ _ => hzl, fun k hk j hj => ?_⟩
          rw [List.getElem?_toArray]
          exact flatMap_range_getElem? m.toNat i.size (fun _ => zv.cells.toList) (fun _ _ => hzl) k j (by omega) hj)
        exact OpOk.value hexec (hK _ _ _ q1 q2 q3 (ref_new hr.len (by omega)))
      · cases h
    · cases h
  · cases h
end Go.TA

namespace Go.TA
open Go

/-! ## clear -/
theorem zeroCells_get {z : Array Value} {n : Nat} {i j : Nat} (hi : i < n) (hj : j < z.size) : (Builtin.zeroCells z n).toList[i * z.size + j]? = z.toList[j]? := by
  have hlt : i * z.size + j < n * z.size := by
    have : (i + 1) * z.size ≤ n * z.size := Nat.mul_le_mul_right _ hi
    rw [Nat.succ_mul] at this; omega
  have hm : (i * z.size + j) % z.size = j := by
    rw [Nat.mul_comm, Nat.mul_add_mod, Nat.mod_eq_of_lt hj]
  simp only [Builtin.zeroCells, Array.toList_map, Array.toList_range, List.getElem?_map, List.getElem?_range hlt, Option.map_some, hm]
  simp [hj]

theorem set_self {α : Type} {L : List α} {i : Nat} {x : α} (h : L[i]? = some x) : L.set i x = L := by
  apply List.ext_getElem?
  intro j
  by_cases hj : i = j
  · subst hj
    have hlt : i < L.length := by
      rcases Nat.lt_or_ge i L.length with h' | h'
      · exact h'
      · rw [List.getElem?_eq_none h'] at h; cases h
    rw [List.getElem?_set_self hlt, h]
  · rw [List.getElem?_set_ne hj]

def eClear (P : Program) (L : List Ob) (t : TypeId) (x : AV) : Option (AV × List Ob × List Prop) :=
  match P.underlying t, x with
  | some (.slice elem), .ref o st off n => match L[o]?, zeroOf P elem with
    | some (.seq sz m f), some z => if 0 < sz ∧ z.wd = sz then some (.bot, L.set o (.seq sz m fun j => if off ≤ j ∧ j < off + n then .d z else f j), [m = st]) else none
    | _, _ => none
  | _, _ => none

theorem clear_op {P : Program} {L L' : List Ob} {G : GFr} {ch : Chain} {o : Oper} {x : Operand} {t : TypeId} {av xv : AV} {C : List Prop} (ho : o.op = .call ⟨.builtin .clear, #[x], #[t]⟩)
    (hx : opnd G ch x = some xv) (h : eClear P L t xv = some (av, L', C)) (hc : AllP C) : OpOk P G ch L o av L' := by
  intro z zn X ms w a K Q hr hf hh hK
  unfold eClear at h
  split at h
  · rename_i elem i st off n ht
    split at h
    · rename_i sz m f z hL hz
      split at h
      · rename_i hsz
        cases h
        obtain ⟨hs0, hwd⟩ := hsz
        obtain ⟨rfl, _⟩ := hc
        have hxv := IsV.is1 rfl (by simp) (by simp) (opnd_is hx hf hh)
        have hexec : ∀ w', (Builtin.clear_ #[t] o.type #[a.eval x]).run P w = .ok (.tuple #[]) w' → (execOp a.eval o).run P w = .ok (.value (.tuple #[])) w' := fun w' hv => by
          obtain ⟨dst, op, ty, pos, after, guard⟩ := o
          subst ho
          exact run_v (s := Builtin.clear_ #[t] ty (#[x].map a.eval)) (by simpa using hv)
        generalize hse : a.eval x = u at hxv
        rw [hse] at hexec
        obtain ⟨zv, hz1, hz2⟩ := zeroOf_is hz
        have hzc : DV.Is (fun _ => none) z zv.cells.toList := by
          have := IsV.cells (av := .d z) rfl (hz2 ⟨[], fun _ => none, []⟩)
          cases this with
          | d _ _ h => exact h
        have hzl : zv.cells.size = sz := by have := hzc.len; rw [hwd] at this; simpa using this
        cases hxv with
        | ref _ _ _ _ _ hx' =>
        obtain ⟨h1, ⟨ad, cap, rfl⟩, h0, h3⟩ := hx'
        have hsame : n = 0 → (fun j => if off ≤ j ∧ j < off + n then AV.d z else f j) = f := fun hn => by
          funext j; rw [if_neg (by omega)]
        by_cases hn : n = 0
        · subst hn
          rw [hsame rfl, set_self hL] at hK
          refine OpOk.value (hexec w ?_) (hK _ ms w hr (Ext.refl _ _) (Cx.le.refl _) (.bot _))
          cases ad <;> simp [Builtin.clear_, run_und ht w]
        · obtain ⟨hb, hcase⟩ := h3 sz f hL
          rcases hcase with ⟨_, a', he⟩ | ⟨_, he⟩ | ⟨b, tc, hms, hle, he⟩
          · cases he; exact absurd rfl hn
          · exact absurd he hn
          · cases he
            obtain ⟨arr, e, cs, g1, g2, g3, g4, g5, g6⟩ := hr.seq hL hms
            have hzs := size_zeroCells zv.cells n
            have hbl : off * sz + (Builtin.zeroCells zv.cells n).toList.length ≤ arr.toList.length := by
              rw [Array.length_toList, Array.length_toList, hzs, hzl, g3, ← Nat.add_mul]
              exact Nat.mul_le_mul_right sz (by omega)
            have hone : ∀ v ∈ (Builtin.zeroCells zv.cells n).toList, v.oneCell' = true := fun v hv => by
              obtain ⟨q, hq, e⟩ := List.getElem_of_mem hv
              have hq' : q < n * zv.cells.size := by rw [Array.length_toList, hzs] at hq; exact hq
              have hpos : 0 < zv.cells.size := by omega
              have hj := Nat.mod_lt q hpos
              have hi : q / zv.cells.size < n := Nat.div_lt_of_lt_mul (by rw [Nat.mul_comm]; exact hq')
              have h := zeroCells_get (z := zv.cells) hi hj
              rw [Nat.mul_comm (q / zv.cells.size), Nat.div_add_mod, List.getElem?_eq_getElem hq, e] at h
              exact hzc.one v (List.mem_of_getElem? h.symm)
            obtain ⟨w', r1, r2, r3, r4⟩ := run_storeCells_at (P := P) (Builtin.zeroCells zv.cells n).toList (off * sz) 0 arr.toList w (by simpa using g1) (by omega) hone
            obtain ⟨q1, q2, q3⟩ := hr.setOb (w' := w') (obj' := .seq sz m fun j => if off ≤ j ∧ j < off + n then .d z else f j) hL hms r3 r4 rfl (fun s hs => ⟨s, hs, Nat.le_refl _⟩) (fun hcx => by
              refine .inr ⟨b, tc, _, e, fun j => if off ≤ j ∧ j < off + n then zv.cells.toList else cs j, hms, r2, g2, ?_, ?_, ?_, ?_⟩
              · have : (splice arr.toList (off * sz + 0) (Builtin.zeroCells zv.cells n).toList).length = arr.size := by rw [splice_length (by simpa using hbl)]; simp
                rw [List.size_toArray, this]; exact g3
              · intro j hj
                by_cases hjo : off ≤ j ∧ j < off + n
                · simp only [if_pos hjo]
                  exact .d _ _ (hzc.mono (fun _ _ h => by cases h))
                · simp only [if_neg hjo]
                  exact (g4 j hj).mono hcx
              · intro j hj
                by_cases hjo : off ≤ j ∧ j < off + n
                · simp only [if_pos hjo]; rw [Array.length_toList]; exact hzl
                · simp only [if_neg hjo]; exact g5 j hj
              · intro j hj q hq
                simp only [List.getElem?_toArray, Nat.add_zero]
                rw [splice_getElem? hbl]
                by_cases hjo : off ≤ j ∧ j < off + n
                · have k1 : off * sz ≤ j * sz := Nat.mul_le_mul_right sz hjo.1
                  have k2 : (j + 1) * sz ≤ (off + n) * sz := Nat.mul_le_mul_right sz (by omega)
                  rw [Nat.succ_mul, Nat.add_mul] at k2
                  rw [if_pos (by rw [Array.length_toList, hzs, hzl]; omega)]
                  simp only [if_pos hjo]
                  have k3 : j * sz + q - off * sz = (j - off) * sz + q := by rw [Nat.sub_mul]; omega
                  rw [k3]
                  have := zeroCells_get (z := zv.cells) (n := n) (i := j - off) (j := q) (by omega) (by omega)
                  rw [hzl] at this
                  exact this
                · rw [if_neg, Array.getElem?_toList]
                  · simp only [if_neg hjo]; exact g6 j hj q hq
                  · rw [Array.length_toList, hzs, hzl]
                    intro ⟨q1, q2⟩
                    rcases Nat.lt_or_ge j off with hlt | hge
                    · have : (j + 1) * sz ≤ off * sz := Nat.mul_le_mul_right sz hlt
                      rw [Nat.succ_mul] at this; omega
                    · have : (off + n) * sz ≤ j * sz := Nat.mul_le_mul_right sz (by omega)
                      rw [Nat.add_mul] at this; omega)
            refine OpOk.value (hexec w' ?_) (hK _ _ _ q1 q2 q3 (.bot _))
            obtain ⟨n', rfl⟩ := Nat.exists_eq_succ_of_ne_zero hn
            simp [Builtin.clear_, run_und ht w, hz1, r1]
      · cases h
    · cases h
  · cases h
end Go.TA
