/- A part of the proof: laws over any program of the abstract machine. No condition. -/
import Derived.Test.YtkkdclpleghppaaTaEff2
namespace Go.TA
open Go

/-! ## Reading a slice's cells -/
/-- The elements of a slice, as far as they are known. -/
def elemsOf (L : List Ob) : AV → Option (Nat × (Nat → AV) × List Prop)
  | .d (.sl n f) => some (n, fun i => .d (f i), [])
  | .full n f => some (n, fun i => .d (f i), [])
  | .ref o st 0 n => match L[o]? with
    | some (.seq _ m f) => some (n, f, [m = st])
    | _ => none
  | .ref o st off n => match L[o]? with
    | some (.seq _ m f) => some (n, fun i => f (off + i), [m = st])
    | _ => none
  | _ => none

theorem flat_get {n sz : Nat} {ks : Nat → List Value} (hl : ∀ i, i < n → (ks i).length = sz) {j : Nat} {v : Value} (h : ((List.range n).flatMap ks)[j]? = some v) :
    0 < sz ∧ j / sz < n ∧ (ks (j / sz))[j % sz]? = some v := by
  have hlen := flatMap_range_length n sz ks hl
  have hj : j < n * sz := by
    rcases Nat.lt_or_ge j (n * sz) with h' | h'
    · exact h'
    · rw [List.getElem?_eq_none (by omega)] at h; cases h
  have hsz : 0 < sz := by
    rcases Nat.eq_zero_or_pos sz with h0 | h0
    · subst h0; simp at hj
    · exact h0
  have hq : j / sz < n := Nat.div_lt_of_lt_mul (by rw [Nat.mul_comm]; exact hj)
  refine ⟨hsz, hq, ?_⟩
  have e := flatMap_range_getElem? n sz ks hl (j / sz) (j % sz) hq (Nat.mod_lt _ hsz)
  have : j / sz * sz + j % sz = j := by rw [Nat.mul_comm]; exact Nat.div_add_mod j sz
  rw [this] at e
  rw [← e]; exact h

theorem run_firstCells {P : Program} {w w1 : World} (hw1 : w1.heap = w.heap) {b off n sz cap : Nat} {ks : Nat → List Value} {arr : Array Value} {e : TypeId} {fz : Nat × Nat} (hb : w.heap[b]? = some (.cells arr e fz))
    (hl : ∀ i, i < n → (ks i).length = sz) (hc : ∀ i, i < n → ∀ j, j < sz → arr[off + i * sz + j]? = (ks i)[j]?) (len' : Nat) :
    (Builtin.firstCells sz n (.slice (some ⟨b, off, none⟩) len' cap)).run P w1 = .ok ((List.range n).flatMap ks).toArray w1 := by
  have hlen := flatMap_range_length n sz ks hl
  rw [← hw1] at hb
  have := run_loadCells_list (P := P) w1 ⟨b, off, none⟩ ((List.range n).flatMap ks) (fun j v hv => by
    obtain ⟨hsz, hq, hr⟩ := flat_get hl hv
    rw [add_mk, cell_mk hb, ← hr, ← hc (j / sz) hq (j % sz) (Nat.mod_lt _ hsz), Nat.add_assoc]
    congr 2
    rw [Nat.mul_comm]; exact (Nat.div_add_mod j sz).symm)
  rw [hlen] at this
  exact this

/-- What a slice is in the world. -/
theorem slice_read {P : Program} {X : Nat → Prop} {ms : Blocks} {L : List Ob} {w : World} (hr : Rel X ms L w) {x : AV} {n sz : Nat} {f : Nat → AV} {C : List Prop} {u : Value}
    (h : elemsOf L x = some (n, f, C)) (hc : AllP C) (hu : AV.IsV (cxOf X ms L w) x u) (hw : ∀ i, i < n → (f i).wd = sz) :
    ∃ a cap ks, u = .slice a n cap ∧ (∀ i, i < n → AV.Is (cxOf X ms L w) (f i) (ks i)) ∧ (∀ i, i < n → (ks i).length = sz) ∧
      ∀ w1 : World, w1.heap = w.heap → (Builtin.firstCells sz n u).run P w1 = .ok ((List.range n).flatMap ks).toArray w1 := by
  have hsl : ∀ (g : Nat → DV), f = (fun i => AV.d (g i)) → DV.Is (cxOf X ms L w).M (.sl n g) [u] →
      ∃ a cap ks, u = .slice a n cap ∧ (∀ i, i < n → AV.Is (cxOf X ms L w) (f i) (ks i)) ∧ (∀ i, i < n → (ks i).length = sz) ∧
        ∀ w1 : World, w1.heap = w.heap → (Builtin.firstCells sz n u).run P w1 = .ok ((List.range n).flatMap ks).toArray w1 := fun g hg hd => by
    subst hg
    cases hd with
    | slNil => exact ⟨_, _, fun _ => [], rfl, fun i hi => by omega, fun i hi => by omega, fun w1 _ => by simp [Builtin.firstCells]⟩
    | slEmpty _ a cap =>
      refine ⟨_, _, fun _ => [], rfl, fun i hi => by omega, fun i hi => by omega, fun w1 _ => ?_⟩
      simp [Builtin.firstCells, loadCells, loadCellsFrom]
    | sl _ _ b off cap sz' arr cs h1 h2 hb hh hl hcs =>
      obtain ⟨_, _, e, fz, hheap⟩ := memOf_some hb
      have hs : ∀ i, i < n → (cs i).length = sz := fun i hi => by rw [(hh i hi).len]; exact hw i hi
      by_cases h0 : n = 0
      · subst h0
        exact ⟨_, _, cs, rfl, fun i hi => by omega, fun i hi => by omega, fun w1 _ => by simp [Builtin.firstCells, loadCells, loadCellsFrom]⟩
      · have hsz : sz' = sz := by rw [← hl 0 (by omega), hs 0 (by omega)]
        subst hsz
        exact ⟨_, _, cs, rfl, fun i hi => .d _ _ (hh i hi), hs, fun w1 hw1 => run_firstCells hw1 hheap hs hcs n⟩
  have href : ∀ (o st off : Nat) (g : Nat → AV) (sz' m : Nat), x = .ref o st off n → L[o]? = some (.seq sz' m g) → m = st → (∀ i, f i = g (off + i)) →
      ∃ a cap ks, u = .slice a n cap ∧ (∀ i, i < n → AV.Is (cxOf X ms L w) (f i) (ks i)) ∧ (∀ i, i < n → (ks i).length = sz) ∧
        ∀ w1 : World, w1.heap = w.heap → (Builtin.firstCells sz n u).run P w1 = .ok ((List.range n).flatMap ks).toArray w1 := fun o st off g sz' m hx hL hm hf => by
    subst hx; subst hm
    have hu' := IsV.is1 rfl (by simp) (by simp) hu
    cases hu' with
    | ref _ _ _ _ _ hr' =>
    obtain ⟨r1, ⟨ra, rcap, rfl⟩, r3, r4⟩ := hr'
    obtain ⟨r5, r6⟩ := r4 sz' g hL
    rcases r6 with ⟨r7, ra', r6⟩ | ⟨_, r6⟩ | ⟨b, tc, r6, r7, r8⟩
    · cases r6
      refine ⟨_, _, fun _ => [], rfl, fun i hi => by omega, fun i hi => by omega, fun w1 _ => ?_⟩
      cases ra <;> simp [Builtin.firstCells, loadCells, loadCellsFrom]
    · subst r6
      refine ⟨_, _, fun _ => [], rfl, fun i hi => by omega, fun i hi => by omega, fun w1 _ => ?_⟩
      cases ra <;> simp [Builtin.firstCells, loadCells, loadCellsFrom]
    · cases r8
      obtain ⟨arr, e, cs, h1, h2, h3, h4, h5, h6⟩ := hr.seq hL r6
      have hs : ∀ i, i < n → (cs (off + i)).length = sz := fun i hi => by rw [(h4 (off + i) (by omega)).len, ← hf i]; exact hw i hi
      by_cases h0 : n = 0
      · subst h0
        refine ⟨_, _, fun i => cs (off + i), rfl, fun i hi => by omega, fun i hi => by omega, fun w1 _ => ?_⟩
        simp [Builtin.firstCells, loadCells, loadCellsFrom]
      · have hsz : sz' = sz := by rw [← h5 (off + 0) (by omega), hs 0 (by omega)]
        subst hsz
        refine ⟨_, _, fun i => cs (off + i), rfl, fun i hi => by rw [hf i]; exact h4 _ (by omega), hs, fun w1 hw1 => run_firstCells hw1 h1 hs (fun i hi j hj => ?_) n⟩
        have := h6 (off + i) (by omega) j hj
        rw [← this]; congr 1; rw [Nat.add_mul]
  unfold elemsOf at h
  split at h
  · cases h
    have hu' := IsV.is1 rfl (by simp) (by simp) hu
    cases hu' with
    | d _ _ hd => exact hsl _ rfl hd
  · cases h
    have hu' := IsV.is1 rfl (by simp) (by simp) hu
    cases hu' with
    | full _ _ _ hd => exact hsl _ rfl hd
  · split at h
    · rename_i hL
      cases h
      exact href _ _ 0 _ _ _ rfl hL hc.1 (fun i => by simp)
    · cases h
  · split at h
    · rename_i hL
      cases h
      exact href _ _ _ _ _ _ rfl hL hc.1 (fun i => rfl)
    · cases h
  · cases h

/-! ## append -/
theorem growBy_le (need : Nat) : ∀ (r c : Nat), c ≤ need → 256 ≤ c → Builtin.growBy need r c ≤ 2 * need
  | 0, c, h, _ => by simp [Builtin.growBy]; omega
  | r + 1, c, h, h' => by
    simp only [Builtin.growBy]
    split
    · omega
    · by_cases h2 : c + (c + 768) / 4 ≤ need
      · exact growBy_le need r _ h2 (by omega)
      · cases r with
        | zero => simp [Builtin.growBy]; omega
        | succ r => simp only [Builtin.growBy]; rw [if_pos (by omega)]; omega

theorem nextslicecap_le {need old : Nat} (h : old < need) : Builtin.nextslicecap need old ≤ 2 * need := by
  unfold Builtin.nextslicecap
  split
  · omega
  · split
    · omega
    · exact growBy_le need 4 old (by omega) (by omega)

/-- What append does: in place, or on a new block. -/
theorem run_append {P : Program} {w : World} {st elem ty : TypeId} {i : TypeInfo} {z : Value} {a : Option Addr} {n cap m : Nat} {x : Value} {new old : List Value}
    (hst : P.underlying st = some (.slice elem)) (hi : P.info? elem = some i) (hz : i.zero = some z)
    (hx : ∃ b c, x = .slice b m c) (hnew : ∀ w1 : World, w1.heap = w.heap → (Builtin.firstCells i.size m x).run P w1 = .ok new.toArray w1)
    (hold : ∀ w1 : World, w1.heap = w.heap → (Builtin.firstCells i.size n (.slice a n cap)).run P w1 = .ok old.toArray w1)
    (hlen : (n + m) * (2 * i.bytes) ≤ 2 ^ 48) (hcap : ¬ n + m ≤ cap) (hb : 0 < i.bytes) :
    ∃ nc w', n + m ≤ nc ∧ (Builtin.append_ #[st, st] ty #[.slice a n cap, x]).run P w = .ok (.slice (some ⟨w.heap.size, 0, none⟩) (n + m) nc) w' ∧ Grow w w' ∧
      w'.heap[w.heap.size]? = some (.cells (old.toArray ++ new.toArray ++ Builtin.zeroCells z.cells (nc - (n + m))) elem (0, 0)) ∧ w.heap.size < w'.heap.size := by
  obtain ⟨b, c, rfl⟩ := hx
  have hsz : szOf P elem = some i.size := by simp [szOf, hi]
  have hnc := nextslicecap_le (need := n + m) (old := cap) (by omega)
  have hbig : ¬ Builtin.nextslicecap (n + m) cap * i.bytes > 2 ^ 48 := by
    have := Nat.mul_le_mul_right i.bytes hnc
    have e : 2 * (n + m) * i.bytes = (n + m) * (2 * i.bytes) := by rw [Nat.mul_comm 2 (n + m), Nat.mul_assoc]
    omega
  have hti : ∀ w : World, (typeInfo elem).run P w = .ok i w := fun w => by simp [typeInfo, hi]
  have hzero : ∀ w : World, (zeroValue elem).run P w = .ok z w := fun w => by simp [zeroValue, hti, hz]
  refine ⟨n + m + w.tape w.drawn (.appendCap (n + m) cap elem) % (2 ^ 63 - (n + m)), (w.drew).alloc (.cells (old.toArray ++ new.toArray ++ Builtin.zeroCells z.cells (w.tape w.drawn (.appendCap (n + m) cap elem) % (2 ^ 63 - (n + m)))) elem), by omega, ?_, (Grow.drew w).trans (Grow.alloc _ _), ?_, by simp⟩
  · have hold' := hold w.drew rfl
    have hnew' := hnew w.drew rfl
    have hb0 : ¬ i.bytes = 0 := by omega
    simp [Builtin.append_, run_und hst, run_sz hsz, Builtin.lenOf, hcap, hti, hb0, hbig, Question.forced, Question.cut, hold', hnew', hzero, newRow]
    congr 2
    apply Array.ext'
    simp
  · have := heap_new w.drew (.cells (old.toArray ++ new.toArray ++ Builtin.zeroCells z.cells (w.tape w.drawn (.appendCap (n + m) cap elem) % (2 ^ 63 - (n + m)))) elem)
    rw [show w.drew.heap.size = w.heap.size from rfl] at this
    rw [this]
    congr 4
    omega
def elemInfo (P : Program) (t : TypeId) : Option (TypeId × TypeInfo) := match P.underlying t with
  | some (.slice elem) => (P.info? elem).map fun i => (elem, i)
  | _ => none

theorem elemInfo_spec {P : Program} {t elem : TypeId} {i : TypeInfo} (h : elemInfo P t = some (elem, i)) : P.underlying t = some (.slice elem) ∧ P.info? elem = some i := by
  unfold elemInfo at h
  split at h
  · rename_i e hu
    cases hi : P.info? e with
    | none => simp [hi] at h
    | some j => simp [hi] at h; obtain ⟨rfl, rfl⟩ := h; exact ⟨hu, hi⟩
  · cases h

def catF {α : Type} (n : Nat) (f g : Nat → α) : Nat → α := match n with
  | 0 => g
  | n + 1 => fun i => if i < n + 1 then f i else g (i - (n + 1))

theorem catF_lt {α : Type} {n : Nat} {f g : Nat → α} {i : Nat} (h : i < n) : catF n f g i = f i := by
  cases n with
  | zero => omega
  | succ n => simp [catF, h]
theorem catF_ge {α : Type} {n : Nat} {f g : Nat → α} {i : Nat} (h : n ≤ i) : catF n f g i = g (i - n) := by
  cases n with
  | zero => rfl
  | succ n => simp only [catF]; rw [if_neg (by omega)]

def dataF (f : Nat → AV) : Nat → DV := fun i => match f i with
  | .d x => x
  | _ => .b false

theorem run_append_same {P : Program} {w : World} {st elem ty : TypeId} {i : TypeInfo} {a : Option Addr} {n cap : Nat} {x : Value}
    (hst : P.underlying st = some (.slice elem)) (hi : P.info? elem = some i) (hx : ∃ b c, x = .slice b 0 c) (hcap : n ≤ cap) (hnew : ∀ w1 : World, w1.heap = w.heap → (Builtin.firstCells i.size 0 x).run P w1 = .ok #[] w1) :
    (Builtin.append_ #[st, st] ty #[.slice a n cap, x]).run P w = .ok (.slice a n cap) w := by
  obtain ⟨b, c, rfl⟩ := hx
  have hsz : szOf P elem = some i.size := by simp [szOf, hi]
  have := hnew w rfl
  cases a <;> simp [Builtin.append_, run_und hst, run_sz hsz, Builtin.lenOf, hcap, this, storeCells]

/-- Onto a slice that is full, what comes of it read-only. -/
def eAppImm (P : Program) (L : List Ob) (t : TypeId) (n : Nat) (f : Nat → DV) (x : AV) : Option (AV × List Prop) :=
  match elemInfo P t, elemsOf L x with
  | some (_, i), some (m, g, C) =>
    if 0 < i.bytes ∧ i.zero.isSome then some (.d (.sl (n + m) (catF n f (dataF g))), C ++ [∀ k, k < m → g k = .d (dataF g k) ∧ (dataF g k).wd = i.size, ∀ k, k < n → (f k).wd = i.size, (n + m) * (2 * i.bytes) ≤ 2 ^ 48]) else none
  | _, _ => none

theorem appImm_op {P : Program} {L : List Ob} {G : GFr} {ch : Chain} {o : Oper} {s x : Operand} {t : TypeId} {av xv : AV} {n : Nat} {f : Nat → DV} {C : List Prop}
    (ho : o.op = .call ⟨.builtin .append, #[s, x], #[t, t]⟩) (hs : opnd G ch s = some (.full n f)) (hx : opnd G ch x = some xv)
    (h : eAppImm P L t n f xv = some (av, C)) (hc : AllP C) : OpOk P G ch L o av L := by
  intro X ms w a K Q hr hf hh hK
  unfold eAppImm at h
  split at h
  · rename_i elem i m g C' he hm
    split at h
    · rename_i hz
      cases h
      obtain ⟨hz0, hz1⟩ := hz
      obtain ⟨z, hz⟩ := Option.isSome_iff_exists.1 hz1
      obtain ⟨hc1, hc2, hc3, hc4, _⟩ := AllP_append.1 hc
      obtain ⟨hu, hi⟩ := elemInfo_spec he
      have hsv := opnd_is hs hf hh
      have hxv := opnd_is hx hf hh
      obtain ⟨xa, xc, ks, e1, e2, e3, e4⟩ := slice_read (P := P) hr (sz := i.size) hm hc1 hxv (fun k hk => by rw [(hc2 k hk).1]; exact (hc2 k hk).2)
      have hsr := IsV.is1 rfl (by simp) (by simp) hsv
      obtain ⟨sa, hse⟩ : ∃ sa, a.eval s = .slice sa n n ∧ DV.Is (cxOf X ms L w).M (.sl n f) [.slice sa n n] := by
        generalize a.eval s = u at hsr
        cases hsr with
        | full _ _ sa hd => exact ⟨sa, rfl, hd⟩
      obtain ⟨hse, hsd⟩ := hse
      obtain ⟨_, _, js, d1, d2, d3, d4⟩ := slice_read (P := P) hr (sz := i.size) (x := .full n f) (u := .slice sa n n) (C := []) rfl trivial (.one _ _ rfl (.full _ _ _ hsd)) (fun k hk => hc3 k hk)
      have hexec : ∀ v w', (Builtin.append_ #[t, t] o.type #[.slice sa n n, a.eval x]).run P w = .ok v w' → (execOp a.eval o).run P w = .ok (.value v) w' := fun v w' hv => by
        obtain ⟨dst, op, ty, pos, after, guard⟩ := o
        subst ho
        exact run_v (s := Builtin.append_ #[t, t] ty (#[s, x].map a.eval)) (by simpa [hse] using hv)
      by_cases hm0 : m = 0
      · subst hm0
        have hrun := run_append_same (P := P) (w := w) (ty := o.type) (a := sa) (n := n) (cap := n) (x := a.eval x) hu hi ⟨_, _, e1⟩ (Nat.le_refl _) (fun w1 hw1 => by simpa using e4 w1 hw1)
        refine OpOk.value (hexec _ _ hrun) (hK _ ms w hr (Ext.refl _ _) (Cx.le.refl _) (.one _ _ rfl (.d _ _ ?_)))
        have : DV.Is (cxOf X ms L w).M (.sl n (catF n f (dataF g))) [.slice sa n n] := by
          cases hsd with
          | slNil => exact .slNil _
          | slEmpty => exact .slEmpty _ _ _
          | sl _ _ b off cap sz arr cs h1 h2 hb hh' hl hcs =>
            exact .sl n _ b off _ sz arr cs h1 h2 hb (fun k hk => by rw [catF_lt hk]; exact hh' k hk) hl hcs
        simpa using this
      · obtain ⟨nc, w', r1, r2, r3, r4, r5⟩ := run_append (P := P) (w := w) (ty := o.type) (a := sa) (n := n) (cap := n) (m := m) (x := a.eval x) hu hi hz ⟨_, _, e1⟩ e4 d4 hc4 (by omega) hz0
        obtain ⟨k1, k2⟩ := hr.grow r3
        refine OpOk.value (hexec _ _ r2) (hK _ ms w' k1 (r3.ext ms) k2 (.one _ _ rfl (.d _ _ ?_)))
        have hM : (cxOf X ms L w').M w.heap.size = some (((List.range n).flatMap js).toArray ++ ((List.range m).flatMap ks).toArray ++ Builtin.zeroCells z.cells (nc - (n + m))) :=
          memOf_intro (fun hx => by have := hr.xlt _ hx; omega) (fun ho => by have := (hr.lt _ ho).1; omega) r4
        have hjl := flatMap_range_length n i.size js d3
        have hkl := flatMap_range_length m i.size ks e3
        have hbytes : (n + m) < 2 ^ 63 := by
          have : n + m ≤ (n + m) * (2 * i.bytes) := Nat.le_mul_of_pos_right _ (by omega)
          omega
        refine .sl _ _ w.heap.size 0 nc i.size _ (catF n js ks) r1 hbytes hM (fun k hk => ?_) (fun k hk => ?_) (fun k hk j hj => ?_)
        · by_cases hkn : k < n
          · rw [catF_lt hkn, catF_lt hkn]
            have := (d2 k hkn).mono k2
            cases this with
            | d _ _ h => exact h
          · rw [catF_ge (by omega), catF_ge (by omega)]
            have := (e2 (k - n) (by omega)).mono k2
            rw [(hc2 (k - n) (by omega)).1] at this
            cases this with
            | d _ _ h => exact h
        · by_cases hkn : k < n
          · rw [catF_lt hkn]; exact d3 k hkn
          · rw [catF_ge (by omega)]; exact e3 _ (by omega)
        · rw [Nat.zero_add, ← Array.getElem?_toList]
          simp only [Array.toList_append, List.append_assoc]
          by_cases hkn : k < n
          · rw [catF_lt hkn, List.getElem?_append_left (by
              rw [hjl]
              have : (k + 1) * i.size ≤ n * i.size := Nat.mul_le_mul_right _ hkn
              rw [Nat.succ_mul] at this; omega)]
            exact flatMap_range_getElem? n i.size js d3 k j hkn hj
          · have hk' : k - n < m := by omega
            have hkm : (k - n) * i.size + n * i.size = k * i.size := by rw [← Nat.add_mul]; congr 1; omega
            rw [catF_ge (by omega), List.getElem?_append_right (by rw [hjl]; omega), hjl, List.getElem?_append_left (by
              rw [hkl]
              have : (k - n + 1) * i.size ≤ m * i.size := Nat.mul_le_mul_right _ hk'
              rw [Nat.succ_mul] at this; omega)]
            have := flatMap_range_getElem? m i.size ks e3 (k - n) j hk' hj
            rw [← this]; congr 1; omega
    · cases h
  · cases h
end Go.TA
