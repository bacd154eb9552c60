/- A part of the proof: laws over any program of the abstract machine. No condition. -/
import Derived.Test.YtkkdclpleghppaaTaEff4
namespace Go.TA
open Go

/-! ## append onto nothing: a row of ours -/
def eAppNew (P : Program) (L : List Ob) (t : TypeId) (x : AV) : Option (AV × List Ob × List Prop) :=
  match elemInfo P t, elemsOf L x with
  | some (_, i), some (m, g, C) =>
    if 0 < i.bytes ∧ i.zero.isSome ∧ ((i.zero.map fun z => z.cells.size) = some i.size) then
      some (.ref L.length m 0 m, L ++ [.seq i.size m g], C ++ [∀ k, k < m → (g k).wd = i.size, m * (2 * i.bytes) ≤ 2 ^ 48]) else none
  | _, _ => none

/-- A fresh row's value. -/
theorem ref_new {X : Nat → Prop} {ms : Blocks} {L : List Ob} {w' : World} {sz n b tc : Nat} {f : Nat → AV} (hl : ms.length = L.length) (hle : n ≤ tc) :
    AV.IsV (cxOf X (ms ++ [some (b, tc)]) (L ++ [.seq sz n f]) w') (.ref L.length n 0 n) (.slice (some ⟨b, 0, none⟩) n tc) := by
  refine .one _ _ rfl (.ref _ _ _ _ _ ⟨by simp [cxOf], ⟨_, _, rfl⟩, fun obj s ho hs => ?_, fun sz' f' _ => ⟨by omega, .inr (.inr ⟨b, tc, by simp [cxOf, ← hl], hle, by simp⟩)⟩⟩)
  simp [cxOf] at ho
  subst ho
  simp [Ob.stamp] at hs
  omega

theorem appNew_op {P : Program} {L L' : List Ob} {G : GFr} {ch : Chain} {o : Oper} {s x : Operand} {t : TypeId} {av xv : AV} {f : Nat → DV} {C : List Prop}
    (ho : o.op = .call ⟨.builtin .append, #[s, x], #[t, t]⟩) (hs : opnd G ch s = some (.full 0 f)) (hx : opnd G ch x = some xv)
    (h : eAppNew P L t xv = some (av, L', C)) (hc : AllP C) : OpOk P G ch L o av L' := by
  intro X ms w a K Q hr hf hh hK
  unfold eAppNew at h
  split at h
  · rename_i elem i m g C' he hm
    split at h
    · rename_i hz
      cases h
      obtain ⟨hz0, hz1, hz3⟩ := hz
      obtain ⟨z, hz⟩ := Option.isSome_iff_exists.1 hz1
      have hzs : z.cells.size = i.size := by simpa [hz] using hz3
      obtain ⟨hc1, hc2, hc4, _⟩ := AllP_append.1 hc
      obtain ⟨hu, hi⟩ := elemInfo_spec he
      have hsv := opnd_is hs hf hh
      have hxv := opnd_is hx hf hh
      obtain ⟨xa, xc, ks, e1, e2, e3, e4⟩ := slice_read (P := P) hr (sz := i.size) hm hc1 hxv hc2
      have hsr := IsV.is1 rfl (by simp) (by simp) hsv
      obtain ⟨sa, hse⟩ : ∃ sa, a.eval s = .slice sa 0 0 := by
        generalize a.eval s = u at hsr
        cases hsr with
        | full _ _ sa hd => exact ⟨sa, rfl⟩
      have hexec : ∀ v w', (Builtin.append_ #[t, t] o.type #[.slice sa 0 0, a.eval x]).run P w = .ok v w' → (execOp a.eval o).run P w = .ok (.value v) w' := fun v w' hv => by
        obtain ⟨dst, op, ty, pos, after, guard⟩ := o
        subst ho
        exact run_v (s := Builtin.append_ #[t, t] ty (#[s, x].map a.eval)) (by simpa [hse] using hv)
      by_cases hm0 : m = 0
      · subst hm0
        have hrun := run_append_same (P := P) (w := w) (ty := o.type) (a := sa) (n := 0) (cap := 0) (x := a.eval x) hu hi ⟨_, _, e1⟩ (Nat.le_refl _) (fun w1 hw1 => by simpa using e4 w1 hw1)
        obtain ⟨k1, k2, k3⟩ := hr.push (m := none) (obj := .seq i.size 0 g) (Grow.refl w) (fun b tc e => by cases e) (fun _ => .inl ⟨by simp [cxOf, ← hr.len], rfl⟩)
        refine OpOk.value (hexec _ _ hrun) (hK _ _ _ k1 k2 k3 (.one _ _ rfl (.ref _ _ _ _ _ ⟨by simp [cxOf], ⟨_, _, rfl⟩, fun _ _ _ _ => Nat.zero_le _, fun sz' f' _ => ⟨Nat.le_refl _, .inl ⟨by simp [cxOf, ← hr.len], _, rfl⟩⟩⟩)))
      · obtain ⟨nc, w', k1, k2, k3, k4, k5⟩ := run_append (P := P) (w := w) (ty := o.type) (a := sa) (n := 0) (cap := 0) (m := m) (old := []) (x := a.eval x) hu hi hz ⟨_, _, e1⟩ e4
          (fun w1 _ => by cases sa <;> simp [Builtin.firstCells, loadCells, loadCellsFrom]) (by simpa using hc4) (by omega) hz0
        rw [Nat.zero_add] at k1 k2 k4
        have hkl := flatMap_range_length m i.size ks e3
        have hsize : (([] : List Value).toArray ++ ((List.range m).flatMap ks).toArray ++ Builtin.zeroCells z.cells (nc - m)).size = nc * i.size := by
          rw [Array.size_append, Array.size_append, List.size_toArray, List.size_toArray, hkl, size_zeroCells, hzs, List.length_nil, Nat.zero_add, ← Nat.add_mul]
          congr 1; omega
        obtain ⟨q1, q2, q3⟩ := hr.push (m := some (w.heap.size, nc)) (obj := .seq i.size m g) k3 (fun b tc e => by cases e; exact ⟨Nat.le_refl _, k5⟩) (fun hcx => by
          refine .inr ⟨w.heap.size, nc, _, elem, ks, by simp [cxOf, ← hr.len], k4, k1, hsize, fun k hk => (e2 k hk).mono hcx, e3, fun k hk j hj => ?_⟩
          rw [← Array.getElem?_toList]
          simp only [Array.toList_append, List.nil_append]
          rw [List.getElem?_append_left (by
            rw [hkl]
            have : (k + 1) * i.size ≤ m * i.size := Nat.mul_le_mul_right _ hk
            rw [Nat.succ_mul] at this; omega)]
          exact flatMap_range_getElem? m i.size ks e3 k j hk hj)
        exact OpOk.value (hexec _ _ k2) (hK _ _ _ q1 q2 q3 (ref_new hr.len k1))
    · cases h
  · cases h

/-! ## buildSlice, makeSlice, makeMap -/
theorem zeros_flat (zc : List Value) (n : Nat) (h : 0 < zc.length) :
    (Array.range (n * zc.length)).map (fun i => zc.toArray[i % zc.toArray.size]!) = ((List.range n).flatMap fun _ => zc).toArray := by
  have hl := flatMap_range_length n zc.length (fun _ => zc) (fun _ _ => rfl)
  apply Array.ext
  · simp [hl]
  · intro j h1 h2
    simp only [Array.getElem_map, Array.getElem_range, List.size_toArray, List.getElem_toArray]
    have hj : j < n * zc.length := by simpa using h1
    have hq : j / zc.length < n := Nat.div_lt_of_lt_mul (by rw [Nat.mul_comm]; exact hj)
    have hm : j % zc.length < zc.length := Nat.mod_lt _ h
    have e := flatMap_range_getElem? n zc.length (fun _ => zc) (fun _ _ => rfl) (j / zc.length) (j % zc.length) hq hm
    have : j / zc.length * zc.length + j % zc.length = j := by rw [Nat.mul_comm]; exact Nat.div_add_mod j _
    rw [this, List.getElem?_eq_getElem (by simpa using h2), List.getElem?_eq_getElem hm] at e
    rw [Option.some.inj e]
    simp [hm]

theorem replicate_is {c : Cx} {x : AV} {zc : List Value} (h : AV.Is c x zc) : ∀ n, AV.IsL c (List.replicate n x) ((List.range n).flatMap fun _ => zc)
  | 0 => .nil
  | n + 1 => by
    rw [List.replicate_succ, List.range_succ_eq_map, List.flatMap_cons, List.flatMap_map]
    exact .cons _ _ _ _ h (replicate_is h n)

def listF {α : Type} (d : α) (l : List α) : Nat → α := fun i => l.getD i d

def bsOffs (len sz : Nat) (i : Nat) : Option (Stp × Nat) := if i < len then some (.f i (i * sz), sz) else none

/-- The elements of a slice literal. -/
def bsParts (P : Program) (t : TypeId) (len : Nat) (parts : List (Nat × AV)) : Option (Nat × List AV) :=
  match elemInfo P t with
  | some (elem, i) => match zeroOf P elem with
    | some z => if z.wd = i.size ∧ 0 < i.size ∧ len * i.size ≤ 2 ^ 24 then match setParts (bsOffs len i.size) parts (.agg (List.replicate len (.d z))) with
        | some (.agg xs) => if xs.length = len ∧ xs.all (fun x => x.wd == i.size) then some (i.size, xs) else none
        | _ => none
      else none
    | none => none
  | none => none

theorem AV.IsL.cells {c : Cx} {sz : Nat} : ∀ {xs : List AV} {cs : List Value}, AV.IsL c xs cs → xs.all (fun x => x.wd == sz) = true → ∀ (k : Nat) (x : AV), xs[k]? = some x →
    ∃ l, AV.Is c x l ∧ l.length = sz ∧ ∀ j, j < sz → cs[k * sz + j]? = l[j]?
  | _, _, .nil, _, k, x, hx => by simp at hx
  | _, _, .cons y ys l ls h ht, hall, 0, x, hx => by
    simp at hx; subst hx
    simp only [List.all_cons, Bool.and_eq_true, beq_iff_eq] at hall
    have hl : l.length = sz := by rw [h.len]; exact hall.1
    exact ⟨l, h, hl, fun j hj => by rw [Nat.zero_mul, Nat.zero_add, List.getElem?_append_left (by omega)]⟩
  | _, _, .cons y ys l ls h ht, hall, k + 1, x, hx => by
    simp at hx
    simp only [List.all_cons, Bool.and_eq_true, beq_iff_eq] at hall
    have hl : l.length = sz := by rw [h.len]; exact hall.1
    obtain ⟨l', h1, h2, h3⟩ := AV.IsL.cells ht hall.2 k x hx
    refine ⟨l', h1, h2, fun j hj => ?_⟩
    rw [List.getElem?_append_right (by rw [hl, Nat.succ_mul]; omega), hl, ← h3 j hj]
    congr 1
    rw [Nat.succ_mul]; omega

theorem partsL_f {offs : Nat → Option (Stp × Nat)} (ho : ∀ i s n, offs i = some (s, n) → ∃ k o, s = .f k o) : ∀ (parts : List (Nat × AV)) (a : AV), AllP (partsL offs parts a)
  | [], _ => trivial
  | (i, v) :: r, a => by
    simp only [partsL]
    cases h : offs i with
    | none => trivial
    | some p =>
      obtain ⟨s, n⟩ := p
      obtain ⟨k, o, rfl⟩ := ho i s n h
      rw [AllP_append]
      refine ⟨?_, ?_⟩
      · simp only [AV.getL, AllP_append]
        refine ⟨?_, ?_⟩
        · unfold AV.intoL
          split
          · rename_i he; cases he
          · trivial
        · split <;> trivial
      · split
        · exact partsL_f ho r _
        · trivial

theorem bs_run {P : Program} {c : Cx} {w : World} {t : TypeId} {len sz : Nat} {parts : List (Nat × AV)} {xs : List AV} {vs : Array (Nat × Value)} (h : bsParts P t len parts = some (sz, xs))
    (hp : PartsIs c parts vs.toList) :
    ∃ cs elem, (Instr.buildSlice t len vs).run P w = .ok (.slice (some ⟨w.heap.size, 0, none⟩) len len) (w.alloc (.cells cs.toArray elem)) ∧ AV.IsL c xs cs ∧ xs.length = len ∧
      xs.all (fun x => x.wd == sz) = true ∧ cs.length = len * sz ∧ 0 < sz := by
  unfold bsParts at h
  split at h
  · rename_i elem i he
    split at h
    · rename_i z hz
      split at h
      · rename_i hty
        obtain ⟨h1, h2, h3⟩ := hty
        split at h
        · rename_i ys hs
          split at h
          · rename_i hl
            cases h
            obtain ⟨hu, hi⟩ := elemInfo_spec he
            obtain ⟨zv, z1, z2⟩ := zeroOf_is hz
            have hzc := IsV.cells (c := c) (av := .d z) rfl (z2 c)
            have hzl : zv.cells.toList.length = i.size := by rw [hzc.len]; exact h1
            have hsz : szOf P elem = some i.size := by simp [szOf, hi]
            obtain ⟨cs', f1, f2⟩ := setParts_fill (c := c) (place := fun k => some (k * i.size, i.size)) (offs := bsOffs len i.size) (by
              intro k s n ho
              unfold bsOffs at ho
              split at ho
              · cases ho; rfl
              · cases ho) parts vs.toList _ _ _ hp (.agg _ _ (replicate_is hzc len)) hs (partsL_f (fun k s n ho => by
                unfold bsOffs at ho
                split at ho
                · cases ho; exact ⟨_, _, rfl⟩
                · cases ho) parts _)
            cases f2 with
            | agg _ _ f2 =>
            have hcl : cs'.length = len * i.size := by
              have hw : ∀ (l : List AV), l.all (fun x => x.wd == i.size) = true → AV.wdL l = l.length * i.size := by
                intro l
                induction l with
                | nil => intro _; simp [AV.wdL]
                | cons x l ih =>
                  intro hx
                  simp only [List.all_cons, Bool.and_eq_true, beq_iff_eq] at hx
                  simp only [AV.wdL, List.length_cons, hx.1, ih hx.2, Nat.succ_mul]; omega
              rw [f2.len, hw xs hl.2, hl.1]
            refine ⟨cs', elem, ?_, f2, hl.1, hl.2, hcl, h2⟩
            have hzf := zeros_flat zv.cells.toList len (by omega)
            rw [hzl] at hzf
            simp only [Array.toArray_toList] at hzf f1
            have hno : ¬ len * i.size > 2 ^ 24 := by omega
            by_cases h0 : len * i.size = 0
            · have hlen : len = 0 := by
                rcases Nat.mul_eq_zero.1 h0 with h | h
                · exact h
                · omega
              subst hlen
              simp at f1
              simp [Instr.buildSlice, run_und hu w, run_sz hsz w, show Array.range 0 = #[] from rfl, f1, newRow]
            · have hzf' : Array.map (fun j => zv.cells[j % zv.cells.size]!) (Array.range (len * i.size)) = (List.flatMap (fun _ => zv.cells.toList) (List.range len)).toArray := hzf
              simp only [Instr.buildSlice, Sem.run_bind, run_und hu w, Result.andThen_ok, run_sz hsz w, if_neg hno, if_neg h0, z1, Sem.run_pure, hzf', f1]
              simp [newRow]
          · cases h
        · cases h
      · cases h
    · cases h
  · cases h
def allD : List AV → Option (List DV)
  | [] => some []
  | .d x :: r => (allD r).map (x :: ·)
  | _ :: _ => none

theorem allD_map : ∀ {xs : List AV} {ds : List DV}, allD xs = some ds → xs = ds.map AV.d
  | [], ds, h => by simp [allD] at h; subst h; rfl
  | x :: r, ds, h => by
    cases x with
    | d y =>
      simp only [allD] at h
      cases hr : allD r with
      | none => simp [hr] at h
      | some es =>
        simp [hr] at h
        subst h
        simp [allD_map hr]
    | _ => simp [allD] at h

/-- A slice literal, read-only. -/
def eBsImm (P : Program) (t : TypeId) (len : Nat) (parts : List (Nat × AV)) : Option AV :=
  match bsParts P t len parts with
  | some (_, xs) => (allD xs).map fun ds => .d (.sl len (listF (.b false) ds))
  | none => none

theorem bsImm_op {P : Program} {L : List Ob} {G : GFr} {ch : Chain} {o : Oper} {t : TypeId} {len : Nat} {ps : Array (Nat × Operand)} {pv : List (Nat × AV)} {av : AV}
    (ho : o.op = .buildSlice t len ps) (hp : partsO G ch ps.toList = some pv) (h : eBsImm P t len pv = some av) (hb : len < 2 ^ 63) : OpOk P G ch L o av L := by
  intro X ms w a K Q hr hf hh hK
  unfold eBsImm at h
  split at h
  · rename_i sz xs hbs
    cases hd : allD xs with
    | none => simp [hd] at h
    | some ds =>
      simp [hd] at h
      subst h
      have hpv := partsO_is hf hh hp
      obtain ⟨cs, elem, r1, r2, r3, r4, r5, r6⟩ := bs_run (P := P) (w := w) (vs := ps.map fun (i, x) => (i, a.eval x)) hbs (by simpa using hpv)
      have hexec : (execOp a.eval o).run P w = .ok (.value (.slice (some ⟨w.heap.size, 0, none⟩) len len)) (w.alloc (.cells cs.toArray elem)) := by
        obtain ⟨dst, op, ty, pos, after, guard⟩ := o
        subst ho
        exact run_v r1
      obtain ⟨k1, k2⟩ := hr.grow (Grow.alloc w (.cells cs.toArray elem))
      refine OpOk.value hexec (hK _ ms _ k1 ((Grow.alloc w _).ext ms) k2 (.one _ _ rfl (.d _ _ ?_)))
      have hM : (cxOf X ms L (w.alloc (.cells cs.toArray elem))).M w.heap.size = some cs.toArray :=
        memOf_intro (fun hx => by have := hr.xlt _ hx; omega) (fun ho => by have := (hr.lt _ ho).1; omega) (heap_new w _)
      have hxs := allD_map hd
      have hch : ∀ k, k < len → ∃ l, DV.Is (cxOf X ms L (w.alloc (.cells cs.toArray elem))).M (listF (.b false) ds k) l ∧ l.length = sz ∧ ∀ j, j < sz → cs[k * sz + j]? = l[j]? := fun k hk => by
        have hk' : k < ds.length := by rw [hxs, List.length_map] at r3; omega
        obtain ⟨l, l1, l2, l3⟩ := r2.cells r4 k (.d ds[k]) (by rw [hxs]; simp [hk'])
        have := l1.mono k2
        cases this with
        | d _ _ h =>
        refine ⟨l, ?_, l2, l3⟩
        rw [show listF (.b false) ds k = ds[k] by simp [listF, List.getD, hk']]
        exact h
      refine .sl len _ w.heap.size 0 len sz _ (fun k => if h : k < len then (hch k h).choose else []) (Nat.le_refl _) hb hM (fun k hk => ?_) (fun k hk => ?_) (fun k hk j hj => ?_)
      · simp only [hk, dif_pos]; exact (hch k hk).choose_spec.1
      · simp only [hk, dif_pos]; exact (hch k hk).choose_spec.2.1
      · simp only [hk, dif_pos, Nat.zero_add, List.getElem?_toArray]; exact (hch k hk).choose_spec.2.2 j hj
  · cases h

/-- A slice literal, a row of ours. -/
def eBsObj (P : Program) (L : List Ob) (t : TypeId) (len : Nat) (parts : List (Nat × AV)) : Option (AV × List Ob) :=
  match bsParts P t len parts with
  | some (sz, xs) => some (.ref L.length len 0 len, L ++ [.seq sz len (listF .bot xs)])
  | none => none

theorem bsObj_op {P : Program} {L L' : List Ob} {G : GFr} {ch : Chain} {o : Oper} {t : TypeId} {len : Nat} {ps : Array (Nat × Operand)} {pv : List (Nat × AV)} {av : AV}
    (ho : o.op = .buildSlice t len ps) (hp : partsO G ch ps.toList = some pv) (h : eBsObj P L t len pv = some (av, L')) : OpOk P G ch L o av L' := by
  intro X ms w a K Q hr hf hh hK
  unfold eBsObj at h
  split at h
  · rename_i sz xs hbs
    cases h
    have hpv := partsO_is hf hh hp
    obtain ⟨cs, elem, r1, r2, r3, r4, r5, r6⟩ := bs_run (P := P) (w := w) (vs := ps.map fun (i, x) => (i, a.eval x)) hbs (by simpa using hpv)
    have hexec : (execOp a.eval o).run P w = .ok (.value (.slice (some ⟨w.heap.size, 0, none⟩) len len)) (w.alloc (.cells cs.toArray elem)) := by
      obtain ⟨dst, op, ty, pos, after, guard⟩ := o
      subst ho
      exact run_v r1
    have hch : ∀ k, k < len → ∃ l, AV.Is (cxOf X ms L w) (listF .bot xs k) l ∧ l.length = sz ∧ ∀ j, j < sz → cs[k * sz + j]? = l[j]? := fun k hk => by
      obtain ⟨l, l1, l2, l3⟩ := r2.cells r4 k (xs[k]'(by omega)) (by simp)
      refine ⟨l, ?_, l2, l3⟩
      rw [show listF .bot xs k = xs[k]'(by omega) by simp [listF, List.getD, r3, hk]]
      exact l1
    obtain ⟨q1, q2, q3⟩ := hr.push (m := some (w.heap.size, len)) (obj := .seq sz len (listF .bot xs)) (Grow.alloc w (.cells cs.toArray elem)) (fun b tc e => by cases e; exact ⟨Nat.le_refl _, by simp⟩) (fun hcx => by
      refine .inr ⟨w.heap.size, len, _, elem, fun k => if h : k < len then (hch k h).choose else [], by simp [cxOf, ← hr.len], heap_new w _, Nat.le_refl _, by simpa using r5, fun k hk => ?_, fun k hk => ?_, fun k hk j hj => ?_⟩
      · simp only [hk, dif_pos]; exact (hch k hk).choose_spec.1.mono hcx
      · simp only [hk, dif_pos]; exact (hch k hk).choose_spec.2.1
      · simp only [hk, dif_pos, List.getElem?_toArray]; exact (hch k hk).choose_spec.2.2 j hj)
    exact OpOk.value hexec (hK _ _ _ q1 q2 q3 (ref_new hr.len (Nat.le_refl _)))
  · cases h

/-- make([]T, n). -/
def eMake (P : Program) (L : List Ob) (t : TypeId) (l c : AV) : Option (AV × List Ob × List Prop) :=
  match elemInfo P t, l, c with
  | some (elem, i), .d (.i .i64 n), .d (.i .i64 m) => match zeroOf P elem with
    | some z => if z.wd = i.size ∧ 0 < i.size ∧ 0 < i.bytes then
        some (.ref L.length n.toNat 0 n.toNat, L ++ [.seq i.size n.toNat fun _ => .d z], [0 ≤ n, n ≤ m, m * i.bytes ≤ 2 ^ 47]) else none
    | none => none
  | _, _, _ => none

theorem make_op {P : Program} {L L' : List Ob} {G : GFr} {ch : Chain} {o : Oper} {t : TypeId} {l c : Operand} {lv cv av : AV} {C : List Prop}
    (ho : o.op = .makeSlice t l c) (hl : opnd G ch l = some lv) (hcv : opnd G ch c = some cv) (h : eMake P L t lv cv = some (av, L', C)) (hc : AllP C) : OpOk P G ch L o av L' := by
  intro X ms w a K Q hr hf hh hK
  unfold eMake at h
  split at h
  · rename_i elem i n m he
    split at h
    · rename_i z hz
      split at h
      · rename_i hty
        cases h
        obtain ⟨h0, h1, h2⟩ := hty
        obtain ⟨c0, c1, c2, _⟩ := hc
        obtain ⟨hu, hi⟩ := elemInfo_spec he
        obtain ⟨zv, z1, z2⟩ := zeroOf_is hz
        have hzc := IsV.cells (c := cxOf X ms L w) (av := .d z) rfl (z2 _)
        have hzl : zv.cells.toList.length = i.size := by rw [hzc.len]; exact h0
        have hsz : szOf P elem = some i.size := by simp [szOf, hi]
        have hel := IsV.i (opnd_is hl hf hh)
        have hec := IsV.i (opnd_is hcv hf hh)
        have hti : (typeInfo elem).run P w = .ok i w := by simp [typeInfo, hi]
        have hmb : m ≤ 2 ^ 47 := by
          have : m * 1 ≤ m * i.bytes := Int.mul_le_mul_of_nonneg_left (by omega) (by omega)
          omega
        have wn : IntKind.i64.wrap n = n := IntWalk.i64_in _ (by omega)
        have wm : IntKind.i64.wrap m = m := IntWalk.i64_in _ (by omega)
        have hbm : ¬ ((i.bytes : Int) * m > 2 ^ 48) := by rw [Int.mul_comm]; omega
        have hzf := zeros_flat zv.cells.toList m.toNat (by omega)
        rw [hzl] at hzf
        have hrun : (Instr.makeSlice t (.int .i64 n) (.int .i64 m)).run P w = .ok (.slice (some ⟨w.heap.size, 0, none⟩) n.toNat m.toNat)
            (w.alloc (.cells ((List.range m.toNat).flatMap fun _ => zv.cells.toList).toArray elem)) := by
          have hcond : ((decide (m < 0) || decide ((i.bytes : Int) * m > 2 ^ 48)) || decide (n < 0) || decide (n > m)) = false := by
            simp only [Bool.or_eq_false_iff, decide_eq_false_iff_not]
            exact ⟨⟨⟨by omega, hbm⟩, by omega⟩, by omega⟩
          have hzf' : Array.map (fun j => zv.cells[j % zv.cells.size]!) (Array.range (m.toNat * i.size)) = (List.flatMap (fun _ => zv.cells.toList) (List.range m.toNat)).toArray := hzf
          simp only [Instr.makeSlice, Sem.run_bind, run_und hu w, Result.andThen_ok, asInt, asIntOf, Sem.run_pure, hti, wn, wm, hcond, Bool.false_eq_true, if_false, run_askRoom, run_sz hsz w]
          by_cases hm0 : m.toNat * i.size = 0
          · rw [if_pos hm0]
            rw [hm0] at hzf' ⊢
            rw [← hzf']
            have e0 : ∀ f : Nat → Value, Array.map f (Array.range 0) = #[] := fun f => by rw [show Array.range 0 = #[] from rfl]; simp
            simp [newRow, e0]
          · rw [if_neg hm0]
            simp only [Sem.run_bind, z1, Result.andThen_ok, Sem.run_pure, hzf']
            rfl
        have hexec : (execOp a.eval o).run P w = .ok (.value (.slice (some ⟨w.heap.size, 0, none⟩) n.toNat m.toNat)) (w.alloc (.cells ((List.range m.toNat).flatMap fun _ => zv.cells.toList).toArray elem)) := by
          obtain ⟨dst, op, ty, pos, after, guard⟩ := o
          subst ho
          exact run_v (s := Instr.makeSlice t (a.eval l) (a.eval c)) (by rw [hel, hec]; exact hrun)
        have hfl := flatMap_range_length m.toNat i.size (fun _ => zv.cells.toList) (fun _ _ => hzl)
        obtain ⟨q1, q2, q3⟩ := hr.push (m := some (w.heap.size, m.toNat)) (obj := .seq i.size n.toNat fun _ => .d z) (Grow.alloc w (.cells ((List.range m.toNat).flatMap fun _ => zv.cells.toList).toArray elem))
          (fun b tc e => by cases e; exact ⟨Nat.le_refl _, by simp⟩) (fun hcx => by
          refine .inr ⟨w.heap.size, m.toNat, _, elem, fun _ => zv.cells.toList, by simp [cxOf, ← hr.len], heap_new w _, by omega, by simpa using hfl, fun k hk => hzc.mono hcx, fun _ _ => hzl, fun k hk j hj => ?_⟩
          rw [List.getElem?_toArray]
          exact flatMap_range_getElem? m.toNat i.size (fun _ => zv.cells.toList) (fun _ _ => hzl) k j (by omega) hj)
        exact OpOk.value hexec (hK _ _ _ q1 q2 q3 (ref_new hr.len (by omega)))
      · cases h
    · cases h
  · cases h
end Go.TA
