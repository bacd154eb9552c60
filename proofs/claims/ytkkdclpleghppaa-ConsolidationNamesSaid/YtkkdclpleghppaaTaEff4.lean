/- A part of the proof: laws over any program of the abstract machine. No condition. -/
import Derived.Test.YtkkdclpleghppaaTaEff3
namespace Go.TA
open Go

theorem cells_cat {n m sz : Nat} {js ks : Nat → List Value} (hj : ∀ k, k < n → (js k).length = sz) (hk : ∀ k, k < m → (ks k).length = sz) {rest : List Value} (k : Nat) (hkk : k < n + m) (j : Nat) (hjj : j < sz) :
    ((List.range n).flatMap js ++ ((List.range m).flatMap ks ++ rest))[k * sz + j]? = (catF n js ks k)[j]? := by
  have hjl := flatMap_range_length n sz js hj
  have hkl := flatMap_range_length m sz ks hk
  by_cases hkn : k < n
  · rw [catF_lt hkn, List.getElem?_append_left (by
      rw [hjl]
      have : (k + 1) * sz ≤ n * sz := Nat.mul_le_mul_right _ hkn
      rw [Nat.succ_mul] at this; omega)]
    exact flatMap_range_getElem? n sz js hj k j hkn hjj
  · have hk' : k - n < m := by omega
    have hkm : (k - n) * sz + n * sz = k * sz := by rw [← Nat.add_mul]; congr 1; omega
    rw [catF_ge (by omega), List.getElem?_append_right (by rw [hjl]; omega), hjl, List.getElem?_append_left (by
      rw [hkl]
      have : (k - n + 1) * sz ≤ m * sz := Nat.mul_le_mul_right _ hk'
      rw [Nat.succ_mul] at this; omega)]
    have := flatMap_range_getElem? m sz ks hk (k - n) j hk' hjj
    rw [← this]; congr 1; omega

/-- Onto a row of ours. -/
def eAppRef (P : Program) (L : List Ob) (t : TypeId) (o st n : Nat) (x : AV) : Option (AV × List Ob × List Prop) :=
  match elemInfo P t, elemsOf L x, L[o]? with
  | some (_, i), some (m, g, C), some (.seq sz m' f) =>
    if 0 < i.bytes ∧ i.zero.isSome ∧ i.size = sz ∧ ((i.zero.map fun z => z.cells.size) = some sz) then
      some (.ref o (n + m) 0 (n + m), L.set o (.seq sz (n + m) (catF n f g)), C ++ [m' = st, n = st, ∀ k, k < m → (g k).wd = sz, (n + m) * (2 * i.bytes) ≤ 2 ^ 48]) else none
  | _, _, _ => none

theorem appRef_op {P : Program} {L L' : List Ob} {G : GFr} {ch : Chain} {o : Oper} {s x : Operand} {t : TypeId} {av xv : AV} {r st n : Nat} {C : List Prop}
    (ho : o.op = .call ⟨.builtin .append, #[s, x], #[t, t]⟩) (hs : opnd G ch s = some (.ref r st 0 n)) (hx : opnd G ch x = some xv)
    (h : eAppRef P L t r st n xv = some (av, L', C)) (hc : AllP C) : OpOk P G ch L o av L' := by
  intro X ms w a K Q hr hf hh hK
  unfold eAppRef at h
  split at h
  · rename_i elem i m g C' sz m' f he hm hL
    split at h
    · rename_i hz
      cases h
      obtain ⟨hz0, hz1, rfl, hz3⟩ := hz
      obtain ⟨z, hz⟩ := Option.isSome_iff_exists.1 hz1
      have hzs : z.cells.size = i.size := by simpa [hz] using hz3
      obtain ⟨hc1, hms, hns, hc2, hc4, _⟩ := AllP_append.1 hc
      subst hms
      subst hns
      obtain ⟨hu, hi⟩ := elemInfo_spec he
      have hsv := opnd_is hs hf hh
      have hxv := opnd_is hx hf hh
      obtain ⟨xa, xc, ks, e1, e2, e3, e4⟩ := slice_read (P := P) hr (sz := i.size) hm hc1 hxv hc2
      have hro : r < L.length := by
        rcases Nat.lt_or_ge r L.length with h' | h'
        · exact h'
        · rw [List.getElem?_eq_none h'] at hL; cases hL
      have hsr := IsV.is1 rfl (by simp) (by simp) hsv
      have hexec : ∀ u v w', a.eval s = u → (Builtin.append_ #[t, t] o.type #[u, a.eval x]).run P w = .ok v w' → (execOp a.eval o).run P w = .ok (.value v) w' := fun u v w' hse hv => by
        obtain ⟨dst, op, ty, pos, after, guard⟩ := o
        subst ho
        exact run_v (s := Builtin.append_ #[t, t] ty (#[s, x].map a.eval)) (by simpa [hse] using hv)
      generalize hse : a.eval s = u at hsr
      cases hsr with
      | ref _ _ _ _ _ hrr =>
      obtain ⟨r1, ⟨ra, rcap, rfl⟩, r3, r4⟩ := hrr
      obtain ⟨r5, r6⟩ := r4 i.size f hL
      -- the value that is left, if the object lies in a block
      have mkRef : ∀ (msn : Blocks) (wn : World) (b tc : Nat), msn[r]? = some (some (b, tc)) → n + m ≤ tc →
          AV.IsV (cxOf X msn (L.set r (.seq i.size (n + m) (catF n f g))) wn) (.ref r (n + m) 0 (n + m)) (.slice (some ⟨b, 0, none⟩) (n + m) tc) := fun msn wn b tc h1 h2 => by
        refine .one _ _ rfl (.ref _ _ _ _ _ ⟨by simpa [cxOf] using hro, ⟨_, _, rfl⟩, fun obj s' ho' hs' => ?_, fun sz' f' hL' => ⟨by omega, .inr (.inr ⟨b, tc, h1, h2, by simp⟩)⟩⟩)
        simp only [cxOf] at ho'
        rw [List.getElem?_set_self hro] at ho'
        cases ho'
        simp [Ob.stamp] at hs'; omega
      -- growing: to a new block
      have grow : ∀ (js : Nat → List Value), (∀ k, k < n → AV.Is (cxOf X ms L w) (f k) (js k)) → (∀ k, k < n → (js k).length = i.size) →
          (∀ w1 : World, w1.heap = w.heap → (Builtin.firstCells i.size n (.slice ra n rcap)).run P w1 = .ok ((List.range n).flatMap js).toArray w1) → ¬ n + m ≤ rcap → 0 < m →
          o.wp P a w K Q := fun js d2 d3 d4 hno hm0 => by
        obtain ⟨nc, w', k1, k2, k3, k4, k5⟩ := run_append (P := P) (w := w) (ty := o.type) (a := ra) (n := n) (cap := rcap) (m := m) (x := a.eval x) hu hi hz ⟨_, _, e1⟩ e4 d4 hc4 hno hz0
        have hsize : (((List.range n).flatMap js).toArray ++ ((List.range m).flatMap ks).toArray ++ Builtin.zeroCells z.cells (nc - (n + m))).size = nc * i.size := by
          have h1 := flatMap_range_length n i.size js d3
          have h2 := flatMap_range_length m i.size ks e3
          have h3 := size_zeroCells z.cells (nc - (n + m))
          rw [Array.size_append, Array.size_append, List.size_toArray, List.size_toArray, h1, h2, h3, hzs, ← Nat.add_mul, ← Nat.add_mul]
          congr 1; omega
        obtain ⟨q1, q2, q3⟩ := hr.moveOb (obj' := .seq i.size (n + m) (catF n f g)) (tc := nc) k3 hL (b := w.heap.size) ⟨Nat.le_refl _, k5⟩ rfl ⟨n, n + m, rfl, rfl, by omega⟩ (fun hcx => by
          refine .inr ⟨w.heap.size, nc, _, elem, catF n js ks, by simp [cxOf, hr.len, hro], k4, k1, hsize, fun k hk => ?_, fun k hk => ?_, fun k hk j hj => ?_⟩
          · by_cases hkn : k < n
            · rw [catF_lt hkn, catF_lt hkn]; exact (d2 k hkn).mono hcx
            · rw [catF_ge (by omega), catF_ge (by omega)]; exact (e2 _ (by omega)).mono hcx
          · by_cases hkn : k < n
            · rw [catF_lt hkn]; exact d3 k hkn
            · rw [catF_ge (by omega)]; exact e3 _ (by omega)
          · rw [← Array.getElem?_toList]
            simp only [Array.toList_append, List.append_assoc]
            exact cells_cat d3 e3 k hk j hj)
        exact OpOk.value (hexec _ _ _ hse k2) (hK _ _ _ q1 q2 q3 (mkRef _ _ _ _ (by simp [hr.len, hro]) k1))
      rcases r6 with ⟨r7, ra', r6⟩ | ⟨r7, _⟩ | ⟨b, tc, r6, r7, r8⟩
      · -- nothing yet
        simp only [Value.slice.injEq] at r6
        obtain ⟨rfl, rfl, rfl⟩ := r6
        by_cases hm0 : m = 0
        · subst hm0
          have hrun := run_append_same (P := P) (w := w) (ty := o.type) (a := ra) (n := 0) (cap := 0) (x := a.eval x) hu hi ⟨_, _, e1⟩ (Nat.le_refl _) (fun w1 hw1 => by simpa using e4 w1 hw1)
          have hcxx : (cxOf X ms L w).le (cxOf X ms (L.set r (.seq i.size (0 + 0) (catF 0 f g))) w) := ⟨fun _ _ h => h, by simp [cxOf], fun j obj' hj hl hs' => by
            simp only [cxOf] at hl ⊢
            by_cases hjr : r = j
            · subst hjr
              rw [List.getElem?_set_self hro] at hl
              cases hl
              exact ⟨_, hL, rfl, fun s' hs' => ⟨s', hs', Nat.le_refl _⟩, fun _ => trivial⟩
            · rw [List.getElem?_set_ne hjr] at hl
              exact ⟨obj', hl, rfl, fun s' hs' => ⟨s', hs', Nat.le_refl _⟩, fun _ => trivial⟩⟩
          have hrel := hr.step (ms' := ms) (L' := L.set r (.seq i.size (0 + 0) (catF 0 f g))) (w' := w) (Ext.refl _ _) (by simp [hr.len]) hr.lt hr.inj (by simp) hcxx.ob (fun j obj' hl => by
            by_cases hjr : r = j
            · subst hjr
              rw [List.getElem?_set_self hro] at hl
              cases hl
              exact .inr fun _ => .inl ⟨r7, rfl⟩
            · rw [List.getElem?_set_ne hjr] at hl
              exact .inl ⟨hl, rfl, fun _ _ _ => rfl⟩)
          refine OpOk.value (hexec _ _ _ hse hrun) (hK _ _ _ hrel.1 (Ext.refl _ _) hrel.2 (.one _ _ rfl (.ref _ _ _ _ _ ⟨by simpa [cxOf] using hro, ⟨_, _, rfl⟩, fun _ _ _ _ => Nat.zero_le _, fun sz' f' _ => ⟨Nat.le_refl _, .inl ⟨r7, _, rfl⟩⟩⟩)))
        · exact grow (fun _ => []) (fun k hk => by omega) (fun k hk => by omega) (fun w1 _ => by cases ra <;> simp [Builtin.firstCells, loadCells, loadCellsFrom]) (by omega) (by omega)
      · omega
      · simp only [Value.slice.injEq, Nat.zero_mul, Nat.sub_zero] at r8
        obtain ⟨rfl, _, rfl⟩ := r8
        obtain ⟨arr, e, cs, h1, h2, h3, h4, h5, h6⟩ := hr.seq hL r6
        by_cases hfit : n + m ≤ rcap
        · -- in place
          have hroom := run_storeCells_at (P := P) (b := b) (e := e) ((List.range m).flatMap ks) (n * i.size) 0 arr.toList w (by simpa using h1) (by
            rw [flatMap_range_length m i.size ks e3, Array.length_toList (xs := arr), h3, Nat.add_zero, ← Nat.add_mul]
            exact Nat.mul_le_mul_right _ hfit) (fun v hv => by
              obtain ⟨k, hk, hvk⟩ := List.mem_flatMap.1 hv
              exact (e2 k (List.mem_range.1 hk)).one v hvk)
          obtain ⟨w', k1, k2, k3, k4⟩ := hroom
          have hkl := flatMap_range_length m i.size ks e3
          have hbl : n * i.size + ((List.range m).flatMap ks).length ≤ arr.toList.length := by
            rw [hkl, Array.length_toList (xs := arr), h3, ← Nat.add_mul]
            exact Nat.mul_le_mul_right _ hfit
          have hrun : (Builtin.append_ #[t, t] o.type #[.slice (some ⟨b, 0, none⟩) n rcap, a.eval x]).run P w = .ok (.slice (some ⟨b, 0, none⟩) (n + m) rcap) w' := by
            have hsz : szOf P elem = some i.size := by simp [szOf, hi]
            have h4' := e4 w rfl
            rw [e1] at h4' ⊢
            simp [Builtin.append_, run_und hu, run_sz hsz, Builtin.lenOf, hfit, h4', add_mk, k1]
          obtain ⟨q1, q2, q3⟩ := hr.setOb (obj' := .seq i.size (n + m) (catF n f g)) hL r6 k3 k4 rfl (fun s' hs' => ⟨n + m, rfl, by simp [Ob.stamp] at hs'; omega⟩) (fun hcx => by
            refine .inr ⟨b, rcap, _, e, catF n cs ks, r6, k2, hfit, ?_, fun k hk => ?_, fun k hk => ?_, fun k hk j hj => ?_⟩
            · have : (splice arr.toList (n * i.size) ((List.range m).flatMap ks)).length = arr.size := by rw [splice_length hbl]; simp
              simpa [this] using h3
            · by_cases hkn : k < n
              · rw [catF_lt hkn, catF_lt hkn]; exact (h4 k hkn).mono hcx
              · rw [catF_ge (by omega), catF_ge (by omega)]; exact (e2 _ (by omega)).mono hcx
            · by_cases hkn : k < n
              · rw [catF_lt hkn]; exact h5 k hkn
              · rw [catF_ge (by omega)]; exact e3 _ (by omega)
            · simp only [List.getElem?_toArray, Nat.add_zero]
              rw [splice_getElem? hbl]
              by_cases hkn : k < n
              · rw [catF_lt hkn, if_neg, Array.getElem?_toList]
                · exact h6 k hkn j hj
                · intro ⟨q, _⟩
                  have : (k + 1) * i.size ≤ n * i.size := Nat.mul_le_mul_right _ hkn
                  rw [Nat.succ_mul] at this; omega
              · have hk' : k - n < m := by omega
                have hkm : (k - n) * i.size + n * i.size = k * i.size := by rw [← Nat.add_mul]; congr 1; omega
                rw [catF_ge (by omega), if_pos]
                · have := flatMap_range_getElem? m i.size ks e3 (k - n) j hk' hj
                  rw [← this]; congr 1; omega
                · rw [hkl]
                  have : (k - n + 1) * i.size ≤ m * i.size := Nat.mul_le_mul_right _ hk'
                  rw [Nat.succ_mul] at this; omega)
          exact OpOk.value (hexec _ _ _ hse hrun) (hK _ _ _ q1 q2 q3 (mkRef _ _ _ _ r6 hfit))
        · exact grow cs h4 h5 (fun w1 hw1 => run_firstCells hw1 h1 h5 (fun k hk j hj => by simpa using h6 k hk j hj) n) hfit (by omega)
    · cases h
  · cases h
end Go.TA
