/- A part of the proof: laws over any program of the abstract machine. No condition. -/
import Derived.Test.YteelhiohkbbdhaaGreatDoorTaFreeze
import Derived.Sort.OwnSortedInts
import Derived.Lib.SlicesCompact
namespace Go.TA
open Go Go.Sort Go.RowKit

/-! ## slices.Sort and slices.Compact at []int, out of the library's contracts -/
section
variable {X : Nat → Prop} {ms : Blocks} {L : List Ob} {w w' : World}

/-- One object changed where it lies, and the heap has grown. -/
theorem Rel.setObG (h : Rel X ms L w) {o b tc : Nat} {obj obj' : Ob} (hL : L[o]? = some obj) (hmo : ms[o]? = some (some (b, tc))) (hsize : w.heap.size ≤ w'.heap.size)
    (hout : SameOut w w') (hsame : ∀ b', b' ≠ b → b' < w.heap.size → w'.heap[b']? = w.heap[b']?) (hk : obj.kind = obj'.kind) (hst : ∀ s, obj.stamp = some s → ∃ s', obj'.stamp = some s' ∧ s ≤ s')
    (ho : (cxOf X ms L w).le (cxOf X ms (L.set o obj') w') → ObIs (cxOf X ms (L.set o obj') w') w' o obj') :
    Rel X ms (L.set o obj') w' ∧ Ext ms w ms w' ∧ (cxOf X ms L w).le (cxOf X ms (L.set o obj') w') := by
  have hlt : o < L.length := by
    rcases Nat.lt_or_ge o L.length with h' | h'
    · exact h'
    · rw [List.getElem?_eq_none h'] at hL; cases hL
  have he : Ext ms w ms w' := ⟨hsize, fun b' hb' ho' => ⟨hsame b' (fun e => ho' (e ▸ ⟨o, tc, hmo⟩)) hb', ho'⟩, hout⟩
  have hr := h.step (ms' := ms) (L' := L.set o obj') he (by simp [h.len]) (fun b hb => ⟨Nat.lt_of_lt_of_le (h.lt b hb).1 hsize, (h.lt b hb).2⟩) h.inj (by simp)
    (fun i x hi hl hs => by
      by_cases hio : o = i
      · subst hio
        rw [List.getElem?_set_self hlt] at hl
        cases hl
        exact ⟨obj, hL, hk, hst, fun _ => rfl⟩
      · rw [List.getElem?_set_ne hio] at hl
        exact ⟨x, hl, rfl, fun s hs => ⟨s, hs, Nat.le_refl _⟩, fun _ => rfl⟩)
    (fun i x hl => by
      by_cases hio : o = i
      · subst hio
        rw [List.getElem?_set_self hlt] at hl
        cases hl
        exact .inr ho
      · rw [List.getElem?_set_ne hio] at hl
        exact .inl ⟨hl, rfl, fun b' tc' hb => hsame b' (fun e => hio (h.inj o i b tc tc' hmo (e ▸ hb))) (h.lt b' ⟨i, tc', hb⟩).1⟩)
  exact ⟨hr.1, he, hr.2⟩
end

theorem row_cells {c : Cx} {zs : List Int} {arr : Array Value} {cs : Nat → List Value} (h5 : ∀ i, i < zs.length → AV.Is c (.d (DV.i .i64 (zs.getD i default))) (cs i)) (h7 : ∀ i, i < zs.length → ∀ j, j < 1 → arr[i * 1 + j]? = (cs i)[j]?) :
    arr.toList.take zs.length = zs.map (Value.int .i64) := by
  apply List.ext_getElem?
  intro i
  rcases Nat.lt_or_ge i zs.length with hi | hi
  · rw [List.getElem?_take_of_lt hi]
    have h1 := h5 i hi
    have h2 := h7 i hi 0 (by omega)
    cases h1 with
    | d _ _ h1 =>
    generalize hci : cs i = ci at h1 h2
    cases h1
    simp at h2
    simp [h2, List.getElem?_eq_getElem hi]
  · rw [List.getElem?_take_eq_none hi, List.getElem?_eq_none (by simp; omega)]

theorem row_of_cells {c : Cx} {ts : List Int} {arr : Array Value} (h : arr.toList.take ts.length = ts.map (Value.int .i64)) :
    ∀ i, i < ts.length → AV.Is c (.d (DV.i .i64 (ts.getD i default))) [.int .i64 (ts.getD i default)] ∧ ∀ j, j < 1 → arr[i * 1 + j]? = ([.int .i64 (ts.getD i default)] : List Value)[j]? := by
  intro i hi
  refine ⟨.d _ _ (.i _ _), fun j hj => ?_⟩
  obtain rfl : j = 0 := by omega
  have h1 : (arr.toList.take ts.length)[i]? = (ts.map (Value.int .i64))[i]? := by rw [h]
  rw [List.getElem?_take_of_lt hi] at h1
  simp [hi] at h1
  simp [h1, hi]

def isort (l : List Int) : List Int := l.mergeSort fun x y => decide (x ≤ y)
theorem isort_length (l : List Int) : (isort l).length = l.length := List.length_mergeSort l

theorem callOk_sort {P : Program} {f : FuncId}
    (hs : ∀ (blk off cap : Nat) (zs : List Int) (w : World), Holds (Value.int .i64) w blk off zs.toArray → blk < w.heap.size → zs.length < 4611686018427387904 →
      Calls P f #[.slice (some ⟨blk, off, none⟩) zs.length cap] w fun e w' => e = .returned (.tuple #[]) ∧
        ∃ n os, w' = grow (putRow (Value.int .i64) (Sort.ahead w n) blk off (zs.mergeSort fun x y => decide (x ≤ y)).toArray) os)
    (hn : ∀ (p : Option Addr) (cap : Nat) (w : World), Calls P f #[.slice p 0 cap] w fun e w' => e = .returned (.tuple #[]) ∧ w' = w)
    {l : List Int} (hl : l.length < 4611686018427387904) : CallOk P f [.ref 0 l.length 0 l.length] [eS 1 (DV.i .i64) l] (.tup []) [eS 1 (DV.i .i64) (isort l)] := by
  intro X ms w us hr hu
  cases hu with
  | cons _ _ u _ h1 h2 =>
  cases h2
  have h1' := IsV.is1 rfl (by simp) (by simp) h1
  cases h1' with
  | ref _ _ _ _ _ hrf =>
  obtain ⟨_, ⟨ad, cap, rfl⟩, _, h3⟩ := hrf
  obtain ⟨_, h4⟩ := h3 1 (fun j => .d (DV.i .i64 (l.getD j default))) rfl
  have hob := hr.obs 0 (eS 1 (DV.i .i64) l) rfl
  rcases h4 with ⟨h5, a, hv⟩ | ⟨h5, _⟩ | ⟨b, tc, h5, h6, hv⟩
  · have h0 : l.length = 0 := by
      rcases hob with ⟨_, h0⟩ | ⟨b, tc, _, _, _, h6, _⟩
      · exact h0
      · have := h5.symm.trans h6; cases this
    have hl0 : l = [] := by simpa using h0
    subst hl0
    refine (hn ad cap w).mono fun e w' ⟨h1, h2⟩ => ?_
    subst h1; subst h2
    exact ⟨_, ms, rfl, by simpa [isort] using hr, Ext.refl _ _, by simpa [isort] using Cx.le.refl _, .tup [] [] .nil⟩
  · exact absurd rfl h5
  · rcases hob with ⟨h0, _⟩ | ⟨b', tc', arr, e, cs, k1, k2, k3, k4, k5, k6, k7⟩
    · have := h0.symm.trans h5; cases this
    have e1 := k1.symm.trans h5
    cases e1
    cases hv
    have htake := row_cells k5 k7
    have hH : Holds (Value.int .i64) w b 0 l.toArray := holds_of_blockI k2 htake
    have hc := hs b 0 (tc - 0) l w hH (lt_of_heap k2) hl
    simp only [Nat.zero_mul]
    refine hc.mono fun e' w' ⟨h1, n, os, h2⟩ => ?_
    subst h1
    have hlen : (isort l).length = l.length := isort_length l
    have hbw := heap_sortedI (w := w) (n := n) (os := os) (isort l).toArray k2
    have hsz : w.heap.size ≤ w'.heap.size := by
      subst h2
      simp [grow, putRow, mapBlock, Sort.ahead]
    have hsame : ∀ b', b' ≠ b → b' < w.heap.size → w'.heap[b']? = w.heap[b']? := fun b' hne hlt => by
      subst h2
      rw [heap_grow_old _ _ (by simpa [putRow, mapBlock, Sort.ahead] using hlt)]
      simp [putRow, mapBlock, Sort.ahead, Array.getElem?_modify, Ne.symm hne]
    have htk := take_putCellsI arr (isort l) (by rw [hlen, k4]; omega)
    obtain ⟨r1, r2, r3⟩ := hr.setObG (w' := w') (obj' := eS 1 (DV.i .i64) (isort l)) (o := 0) rfl h5 hsz (by subst h2; exact ⟨rfl, rfl, rfl⟩) hsame rfl (fun s hs => ⟨(isort l).length, rfl, by simp [eS, Ob.stamp] at hs; omega⟩)
      (fun hcx => .inr ⟨b, tc, _, e, fun i => [.int .i64 ((isort l).getD i default)], h5, by subst h2; exact hbw, by rw [hlen]; exact k3, by simpa [putCells] using k4,
        fun i hi => (row_of_cells htk i hi).1, fun i hi => rfl, fun i hi => (row_of_cells (c := ⟨[], fun _ => none, []⟩) htk i hi).2⟩)
    exact ⟨_, ms, rfl, r1, r2, r3, .tup [] [] .nil⟩

theorem callOk_compact {P : Program} {f : FuncId}
    (hs : ∀ (blk off cap : Nat) (zs : List Int) (w : World), Holds (Value.int .i64) w blk off zs.toArray → zs.length ≤ 9223372036854775807 → zs.length ≤ cap →
      Calls P f #[.slice (some ⟨blk, off, none⟩) zs.length cap] w fun e w' => e = .returned (.slice (some ⟨blk, off, none⟩) (Lib.compact zs).length cap) ∧
        ∃ q, w' = putRow (Value.int .i64) (Sort.ahead w q) blk off (Lib.compact zs ++ List.replicate (zs.length - (Lib.compact zs).length) 0).toArray)
    (hn : ∀ (p : Option Addr) (cap : Nat) (w : World), Calls P f #[.slice p 0 cap] w fun e w' => e = .returned (.slice p 0 cap) ∧ w' = w)
    {l : List Int} (hl : l.length < 4611686018427387904) : CallOk P f [.ref 0 l.length 0 l.length] [eS 1 (DV.i .i64) l] (.d (eL (DV.i .i64) (Lib.compact l))) [.dead] := by
  intro X ms w us hr hu
  cases hu with
  | cons _ _ u _ h1 h2 =>
  cases h2
  have h1' := IsV.is1 rfl (by simp) (by simp) h1
  cases h1' with
  | ref _ _ _ _ _ hrf =>
  obtain ⟨_, ⟨ad, cap, rfl⟩, _, h3⟩ := hrf
  obtain ⟨_, h4⟩ := h3 1 (fun j => .d (DV.i .i64 (l.getD j default))) rfl
  have hob := hr.obs 0 (eS 1 (DV.i .i64) l) rfl
  have hcl : (Lib.compact l).length ≤ l.length := by
    have : (Lib.compactUpTo l.toArray l.length).length ≤ l.length := by
      unfold Lib.compactUpTo
      rw [List.length_map]
      exact Nat.le_trans (List.length_filter_le _ _) (by simp)
    simpa [Lib.compact] using this
  rcases h4 with ⟨h5, a, hv⟩ | ⟨h5, _⟩ | ⟨b, tc, h5, h6, hv⟩
  · have h0 : l.length = 0 := by
      rcases hob with ⟨_, h0⟩ | ⟨b, tc, _, _, _, h6, _⟩
      · exact h0
      · have := h5.symm.trans h6; cases this
    have hl0 : l = [] := by simpa using h0
    subst hl0
    cases hv
    refine (hn ad 0 w).mono fun e w' ⟨h1, h2⟩ => ?_
    subst h1; subst h2
    obtain ⟨r1, e1, c1⟩ := hr.freeze (o := 0) (by simp)
    refine ⟨_, _, rfl, r1, e1, c1, .one _ _ rfl (.d _ _ ?_)⟩
    cases ad with
    | none => exact .slNil _
    | some a => exact .slEmpty _ _ _
  · exact absurd rfl h5
  · rcases hob with ⟨h0, _⟩ | ⟨b', tc', arr, e, cs, k1, k2, k3, k4, k5, k6, k7⟩
    · have := h0.symm.trans h5; cases this
    have e1 := k1.symm.trans h5
    cases e1
    cases hv
    have htake := row_cells k5 k7
    have hH : Holds (Value.int .i64) w b 0 l.toArray := holds_of_blockI k2 htake
    have hc := hs b 0 (tc - 0) l w hH (by omega) (by omega)
    simp only [Nat.zero_mul]
    refine hc.mono fun e' w' ⟨h1, n, h2⟩ => ?_
    subst h1
    generalize hrow : Lib.compact l ++ List.replicate (l.length - (Lib.compact l).length) 0 = row at h2
    have hlen : row.length = l.length := by rw [← hrow]; simp; omega
    have hbw := heap_sortedI (w := w) (n := n) (os := #[]) row.toArray k2
    rw [grow_empty] at hbw
    have hsz : w.heap.size ≤ w'.heap.size := by
      subst h2
      simp [putRow, mapBlock, Sort.ahead]
    have hsame : ∀ b', b' ≠ b → b' < w.heap.size → w'.heap[b']? = w.heap[b']? := fun b' hne hlt => by
      subst h2
      simp [putRow, mapBlock, Sort.ahead, Array.getElem?_modify, Ne.symm hne]
    have htk := take_putCellsI arr row (by rw [hlen, k4]; omega)
    obtain ⟨r1, r2, r3⟩ := hr.setObG (w' := w') (obj' := eS 1 (DV.i .i64) row) (o := 0) rfl h5 hsz (by subst h2; exact ⟨rfl, rfl, rfl⟩) hsame rfl (fun s hs => ⟨row.length, rfl, by simp [eS, Ob.stamp] at hs; omega⟩)
      (fun hcx => .inr ⟨b, tc, _, e, fun i => [.int .i64 (row.getD i default)], h5, by subst h2; exact hbw, by rw [hlen]; exact k3, by simpa [putCells] using k4,
        fun i hi => (row_of_cells htk i hi).1, fun i hi => rfl, fun i hi => (row_of_cells (c := ⟨[], fun _ => none, []⟩) htk i hi).2⟩)
    have hms : (ms : Blocks)[0]? = some (some (b, tc)) := h5
    obtain ⟨r4, e4, c4⟩ := r1.freeze (o := 0) (by simp)
    have hfz := ref_dataG (L' := [.dead]) r1 (o := 0) (sz := 1) (n := row.length) (g := fun j => DV.i .i64 (row.getD j default)) rfl (by omega)
    have href : AV.Is (cxOf X ms [eS 1 (DV.i .i64) row] w') (.ref 0 row.length 0 (Lib.compact l).length) [.slice (some ⟨b, 0, none⟩) (Lib.compact l).length (tc - 0)] := by
      refine .ref _ _ _ _ _ ⟨by simp [cxOf], ⟨_, _, rfl⟩, fun obj s h1 h2 => ?_, fun sz f h1 => ?_⟩
      · simp [cxOf] at h1
        subst h1
        simp [eS, Ob.stamp] at h2
        omega
      · simp [cxOf, eS] at h1
        obtain ⟨rfl, _, _⟩ := h1
        exact ⟨by omega, .inr (.inr ⟨b, tc, hms, by omega, by simp⟩)⟩
    have h7 := hfz _ _ (by omega) href
    have h8 := trV_take (H := NoH) (e := DV.i .i64) (l := row) (m := (Lib.compact l).length) (by omega) _ _ (Cx.le.refl _) trivial _ h7
    have h9 : row.take (Lib.compact l).length = Lib.compact l := by rw [← hrow]; simp
    rw [h9] at h8
    exact ⟨_, _, rfl, r4, r2.trans e4, r3.trans c4, .one _ _ rfl h8⟩
end Go.TA
