/- A part of the proof: laws over any program of the abstract machine. No condition. -/
import Derived.Test.YtkkdclpleghppaaTaEff
namespace Go.TA
open Go

/-! ## alloc, box -/
theorem run_newVar {P : Program} {w : World} {t : TypeId} {v : Value} :
    (newVar t v).run P w = .ok ⟨w.heap.size, 0, none⟩ (w.alloc (.cells v.cells t)) := rfl

theorem heap_new (w : World) (o : Obj) : (w.alloc o).heap[w.heap.size]? = some o := heap_alloc_new w o

theorem push_box {X : Nat → Prop} {ms : Blocks} {L : List Ob} {w : World} (h : Rel X ms L w) {x : AV} {v : Value} {t : TypeId} (hs : x.solid = true) (hv : AV.IsV (cxOf X ms L w) x v) :
    Rel X (ms ++ [some (w.heap.size, 0)]) (L ++ [.box x]) (w.alloc (.cells v.cells t)) ∧ Ext ms w (ms ++ [some (w.heap.size, 0)]) (w.alloc (.cells v.cells t)) ∧
      (cxOf X ms L w).le (cxOf X (ms ++ [some (w.heap.size, 0)]) (L ++ [.box x]) (w.alloc (.cells v.cells t))) ∧
      AV.IsV (cxOf X (ms ++ [some (w.heap.size, 0)]) (L ++ [.box x]) (w.alloc (.cells v.cells t))) (.ptr L.length 1 []) (.pointer (some ⟨w.heap.size, 0, none⟩)) := by
  obtain ⟨h1, h2, h3⟩ := h.push (w' := w.alloc (.cells v.cells t)) (m := some (w.heap.size, 0)) (obj := .box x) (Grow.alloc w _)
    (fun b tc e => by cases e; exact ⟨Nat.le_refl _, by simp⟩)
    (fun hc => .inr ⟨w.heap.size, 0, v.cells, t, by simp [cxOf, ← h.len], heap_new w _, (IsV.cells hs hv).mono hc⟩)
  refine ⟨h1, h2, h3, .one _ _ rfl (.ptr _ _ _ _ ⟨by simp [cxOf], ⟨_, rfl⟩, fun obj s ho hst => by simp [cxOf] at ho; subst ho; simp [Ob.stamp] at hst; omega, fun obj _ _ => ⟨w.heap.size, 0, ?_, rfl⟩⟩)⟩
  simp [cxOf, ← h.len]

/-! Zero values whose slices are known to be nil -/
mutual
def DV.hasSl : DV → Bool
  | .sl _ _ => true
  | .agg fs => DV.hasSlL fs
  | _ => false
def DV.hasSlL : List DV → Bool
  | [] => false
  | x :: r => x.hasSl || DV.hasSlL r
end
mutual
def fullZ : DV → AV
  | .sl 0 f => .full 0 f
  | .agg fs => if DV.hasSlL fs then .agg (fullZL fs) else .d (.agg fs)
  | x => .d x
def fullZL : List DV → List AV
  | [] => []
  | x :: r => fullZ x :: fullZL r
end
def nilB : Value → Bool
  | .slice none 0 0 => true
  | .slice _ _ _ => false
  | _ => true
mutual
theorem fullZ_is {c : Cx} : ∀ {x : DV} {cs : List Value}, DV.Is c.M x cs → (∀ v ∈ cs, nilB v = true) → AV.Is c (fullZ x) cs
  | _, _, .b x, _ => .d _ _ (.b x)
  | _, _, .i k n, _ => .d _ _ (.i k n)
  | _, _, .str l, _ => .d _ _ (.str l)
  | _, _, .lit v h, _ => .d _ _ (.lit v h)
  | _, _, .agg fs cs hl, h => by
    unfold fullZ
    split
    · exact .agg _ _ (fullZL_is hl h)
    · exact .d _ _ (.agg fs cs hl)
  | _, _, .arr sz n f cs h1 h2, _ => .d _ _ (.arr sz n f cs h1 h2)
  | _, _, .slNil f, _ => .full 0 f none (.slNil f)
  | _, _, .slEmpty f a cap, h => absurd (h _ (List.mem_singleton.2 rfl)) (by simp [nilB])
  | _, _, .sl n f b off cap sz arr cs h1 h2 hb h3 hl hc, h => absurd (h _ (List.mem_singleton.2 rfl)) (by simp [nilB])
theorem fullZL_is {c : Cx} : ∀ {xs : List DV} {cs : List Value}, DV.IsL c.M xs cs → (∀ v ∈ cs, nilB v = true) → AV.IsL c (fullZL xs) cs
  | _, _, .nil, _ => .nil
  | _, _, .cons x xs k ks h1 h2, h => .cons _ _ _ _ (fullZ_is h1 fun v hv => h v (List.mem_append_left _ hv)) (fullZL_is h2 fun v hv => h v (List.mem_append_right _ hv))
end
theorem fullZ_isAgg (x : DV) : (fullZ x).isAgg = (AV.d x).isAgg := by
  unfold fullZ
  split
  · rfl
  · split <;> rfl
  · rfl
theorem fullZ_solid (x : DV) : (fullZ x).solid = true := by
  unfold fullZ
  split
  · rfl
  · split <;> rfl
  · rfl
theorem fullZ_isV {c : Cx} {x : DV} {v : Value} (h : AV.IsV c (.d x) v) (hn : ∀ u ∈ v.cells.toList, nilB u = true) : AV.IsV c (fullZ x) v := by
  have hc := IsV.cells rfl h
  cases hc with
  | d _ _ hd =>
  have h2 := fullZ_is hd hn
  by_cases ha : (AV.d x).isAgg = true
  · obtain ⟨cs, rfl, _⟩ := IsV.is ha h
    exact .agg _ cs (by rw [fullZ_isAgg]; exact ha) (by simpa [Value.cells] using h2)
  · have h1 := IsV.is1 (by simpa using ha) (by simp) (by simp) h
    have : v.cells.toList = [v] := by
      cases h1 with
      | d _ _ h1 =>
      have h3 := h1.one v (by simp)
      cases v <;> first | rfl | cases h3
    rw [this] at h2
    exact .one _ _ (by rw [fullZ_isAgg]; simpa using ha) h2

def zeroA (P : Program) (t : TypeId) (full : Bool) : Option AV :=
  match zeroOf P t, full with
  | some z, false => some (.d z)
  | some z, true => match (P.info? t).bind (·.zero) with
    | some v => if v.cells.toList.all nilB then some (fullZ z) else none
    | none => none
  | none, _ => none

theorem zeroA_is {P : Program} {t : TypeId} {full : Bool} {x : AV} (h : zeroA P t full = some x) : x.solid = true ∧ ∃ z, (∀ w, (zeroValue t).run P w = .ok z w) ∧ (∀ c, AV.IsV c x z) := by
  unfold zeroA at h
  split at h
  · rename_i z hz
    cases h
    exact ⟨rfl, zeroOf_is hz⟩
  · rename_i z hz
    split at h
    · rename_i v hv
      split at h
      · rename_i hn
        cases h
        refine ⟨fullZ_solid _, ?_⟩
        obtain ⟨zv, h1, h2⟩ := zeroOf_is hz
        have e : zv = v := by
          have := h1 default
          cases hi : P.info? t with
          | none => simp [hi] at hv
          | some i =>
            simp [hi] at hv
            simp [zeroValue, typeInfo, hi, hv] at this
            exact this.symm
        subst e
        exact ⟨zv, h1, fun c => fullZ_isV (h2 c) (List.all_eq_true.1 hn)⟩
      · cases h
    · cases h
  · cases h

def eAlloc (P : Program) (L : List Ob) (t : TypeId) (full : Bool) : Option (AV × List Ob) :=
  (zeroA P t full).map fun z => (.ptr L.length 1 [], L ++ [.box z])

theorem alloc_op {P : Program} {L L' : List Ob} {G : GFr} {ch : Chain} {o : Oper} {t : TypeId} {full : Bool} {av : AV} (ho : o.op = .alloc t) (h : eAlloc P L t full = some (av, L')) : OpOk P G ch L o av L' := by
  intro X ms w a K Q hr hf hh hK
  unfold eAlloc at h
  cases hz : zeroA P t full with
  | none => simp [hz] at h
  | some z =>
    simp [hz] at h
    obtain ⟨rfl, rfl⟩ := h
    obtain ⟨hs, zv, h1, h2⟩ := zeroA_is hz
    obtain ⟨k1, k2, k3, k4⟩ := push_box (t := t) hr hs (h2 _)
    refine OpOk.value (u := .pointer (some ⟨w.heap.size, 0, none⟩)) (w' := w.alloc (.cells zv.cells t)) ?_ (hK _ _ _ k1 k2 k3 k4)
    obtain ⟨dst, op, ty, pos, after, guard⟩ := o
    subst ho
    exact run_v (by simp [Instr.alloc, h1, run_newVar])

/-- A box that was told of before is born. -/
def eBorn (P : Program) (L : List Ob) (t : TypeId) (k : Nat) (full : Bool) : Option (AV × List Ob) :=
  match L[k]?, zeroA P t full with
  | some .unb, some z => some (.ptr k 1 [], L.set k (.box z))
  | _, _ => none

theorem born_op {P : Program} {L L' : List Ob} {G : GFr} {ch : Chain} {o : Oper} {t : TypeId} {k : Nat} {full : Bool} {av : AV} (ho : o.op = .alloc t) (h : eBorn P L t k full = some (av, L')) : OpOk P G ch L o av L' := by
  intro X ms w a K Q hr hf hh hK
  unfold eBorn at h
  split at h
  · rename_i z hL hz
    cases h
    obtain ⟨hs, zv, h1, h2⟩ := zeroA_is hz
    have hlt : k < L.length := by
      rcases Nat.lt_or_ge k L.length with h' | h'
      · exact h'
      · rw [List.getElem?_eq_none h'] at hL; cases hL
    have hltm : k < ms.length := by rw [hr.len]; exact hlt
    obtain ⟨k1, k2, k3⟩ := hr.moveOb (w' := w.alloc (.cells zv.cells t)) (b := w.heap.size) (tc := 0) (obj' := .box z) (Grow.alloc w _) hL ⟨Nat.le_refl _, by simp⟩ rfl ⟨0, 1, rfl, rfl, Nat.zero_lt_one⟩
      (fun hc => .inr ⟨w.heap.size, 0, zv.cells, t, by simp [cxOf, hltm], heap_new w _, IsV.cells hs (h2 _)⟩)
    refine OpOk.value (u := .pointer (some ⟨w.heap.size, 0, none⟩)) (w' := w.alloc (.cells zv.cells t)) ?_ (hK _ _ _ k1 k2 k3 (.one _ _ rfl (.ptr _ _ _ _ ⟨by simpa [cxOf] using hlt, ⟨_, rfl⟩, fun obj s ho hst => ?_, fun obj _ _ => ⟨w.heap.size, 0, ?_, rfl⟩⟩)))
    · obtain ⟨dst, op, ty, pos, after, guard⟩ := o
      subst ho
      exact run_v (by simp [Instr.alloc, h1, run_newVar])
    · simp [cxOf, List.getElem?_set_self hlt] at ho
      subst ho
      simp [Ob.stamp] at hst
      omega
    · simp [cxOf, hltm]
  · cases h

def eBox (L : List Ob) (x : AV) : Option (AV × List Ob) :=
  if x.solid then some (.ptr L.length 1 [], L ++ [.box x]) else none

theorem box_op {P : Program} {L L' : List Ob} {G : GFr} {ch : Chain} {o : Oper} {t : TypeId} {x : Operand} {av xv : AV} (ho : o.op = .box t x) (hx : opnd G ch x = some xv)
    (h : eBox L xv = some (av, L')) : OpOk P G ch L o av L' := by
  intro X ms w a K Q hr hf hh hK
  unfold eBox at h
  split at h
  · rename_i hs
    cases h
    obtain ⟨k1, k2, k3, k4⟩ := push_box (t := t) hr hs (opnd_is hx hf hh)
    refine OpOk.value (u := .pointer (some ⟨w.heap.size, 0, none⟩)) (w' := w.alloc (.cells (a.eval x).cells t)) ?_ (hK _ _ _ k1 k2 k3 k4)
    obtain ⟨dst, op, ty, pos, after, guard⟩ := o
    subst ho
    exact run_v (by simp [Instr.box, run_newVar])
  · cases h

/-! ## store -/
def Ob.put : Ob → List Stp → AV → Option Ob
  | .box a, p, v => (a.set p v).map .box
  | .seq sz n f, .x i sz' :: r, v => if sz = sz' then ((f i).set r v).map fun y => .seq sz n (fun j => if j = i then y else f j) else none
  | _, _, _ => none

theorem setRow_same {w : World} {b : Nat} {arr arr' : Array Value} {e : TypeId} (h : w.heap[b]? = some (.cells arr e (0, 0))) :
    (w.setRow b arr').heap[b]? = some (.cells arr' e (0, 0)) := setRow_heap w b arr arr' e (0, 0) h

theorem run_storeCells_at {P : Program} {b : Nat} {e : TypeId} : ∀ (vs : List Value) (off i : Nat) (cur : List Value) (w : World), w.heap[b]? = some (.cells cur.toArray e (0, 0)) →
    off + i + vs.length ≤ cur.length → (∀ v ∈ vs, v.oneCell' = true) →
    ∃ w', (storeCells ⟨b, off, none⟩ vs i).run P w = .ok () w' ∧ w'.heap[b]? = some (.cells (splice cur (off + i) vs).toArray e (0, 0)) ∧ w'.heap.size = w.heap.size ∧
      SameOut w w' ∧ ∀ b', b' ≠ b → w'.heap[b']? = w.heap[b']?
  | [], off, i, cur, w, hb, _, _ => ⟨w, rfl, by simpa [splice] using hb, rfl, SameOut.refl w, fun _ _ => rfl⟩
  | v :: vs, off, i, cur, w, hb, hl, h1 => by
    simp only [List.length_cons] at hl
    have hcell : w.cell? ⟨b, off + i, none⟩ = some (cur[off + i]'(by omega)) := by
      rw [cell_mk hb]; simp
    have hfro : w.frozen? ⟨b, off + i, none⟩ = false := by simp [World.frozen?, hb]
    have hst : (store ((⟨b, off, none⟩ : Addr).add i) v).run P w = .ok () (w.setCell ⟨b, off + i, none⟩ v) := by
      rw [add_mk, run_store P w _ v _ (h1 v (by simp)), hcell]
      simp [hfro]
    have hb' : (w.setCell ⟨b, off + i, none⟩ v).heap[b]? = some (.cells (cur.set (off + i) v).toArray e (0, 0)) := by
      have := heap_setCell_same w b (off + i) cur.toArray e v hb
      rw [this]; simp
    obtain ⟨w', k1, k2, k3, k5, k4⟩ := run_storeCells_at (P := P) (b := b) (e := e) vs off (i + 1) (cur.set (off + i) v) _ hb' (by simp; omega) (fun x hx => h1 x (by simp [hx]))
    refine ⟨w', ?_, ?_, by simpa using k3, SameOut.trans (w' := w.setCell ⟨b, off + i, none⟩ v) ⟨rfl, rfl, rfl⟩ k5, fun b' hne => ?_⟩
    · simp only [storeCells, Sem.run_bind, hst, Result.andThen_ok, k1]
    · rw [k2]
      congr 3
      apply List.ext_getElem?
      intro j
      rw [splice_getElem? (cs := cur.set (off + i) v) (k := vs) (by simp; omega), splice_getElem? (cs := cur) (k := v :: vs) (by simp; omega)]
      simp only [List.length_cons]
      by_cases hj : off + i ≤ j ∧ j < off + i + (vs.length + 1)
      · rw [if_pos hj]
        by_cases h2 : j = off + i
        · subst h2
          rw [if_neg (by omega), List.getElem?_set_self (by omega), Nat.sub_self]; rfl
        · rw [if_pos (by omega), show j - (off + i) = (j - (off + (i + 1))) + 1 by omega]; simp
      · rw [if_neg hj, if_neg (by omega), List.getElem?_set_ne (by omega)]
    · rw [k4 b' hne, heap_setCell_other w _ b' v hne]

theorem run_storeVar_at {P : Program} {b off : Nat} {e t : TypeId} {cur : List Value} {v : Value} {w : World} (hb : w.heap[b]? = some (.cells cur.toArray e (0, 0)))
    (hsz : szOf P t = some v.cells.toList.length) (hl : off + v.cells.toList.length ≤ cur.length) (h1 : ∀ u ∈ v.cells.toList, u.oneCell' = true) :
    ∃ w', (storeVar t ⟨b, off, none⟩ v).run P w = .ok () w' ∧ w'.heap[b]? = some (.cells (splice cur off v.cells.toList).toArray e (0, 0)) ∧ w'.heap.size = w.heap.size ∧
      SameOut w w' ∧ ∀ b', b' ≠ b → w'.heap[b']? = w.heap[b']? := by
  obtain ⟨w', k1, k2, k3⟩ := run_storeCells_at (P := P) v.cells.toList off 0 cur w hb (by omega) h1
  refine ⟨w', ?_, by simpa using k2, k3⟩
  simp [storeVar, run_sz hsz w, k1]

theorem Rel.put {P : Program} {X : Nat → Prop} {ms : Blocks} {L : List Ob} {w : World} (h : Rel X ms L w) {o b tc : Nat} {obj obj' : Ob} {p : List Stp} {x : AV} {v : Value} {t : TypeId}
    (hL : L[o]? = some obj) (hm : ms[o]? = some (some (b, tc))) (hp : obj.put p x = some obj') (hc : obj.getC p) (hs : x.solid = true) (hw : 0 < x.wd)
    (hsz : szOf P t = some x.wd) (hv : AV.IsV (cxOf X ms L w) x v) :
    ∃ w', (storeVar t ⟨b, pathOff p, none⟩ v).run P w = .ok () w' ∧ Rel X ms (L.set o obj') w' ∧ Ext ms w ms w' ∧ (cxOf X ms L w).le (cxOf X ms (L.set o obj') w') := by
  have hcv := IsV.cells hs hv
  have hcl := hcv.len
  unfold Ob.put at hp
  split at hp
  · rename_i a
    cases hset : a.set p x with
    | none => simp [hset] at hp
    | some a' =>
      simp [hset] at hp
      subst hp
      obtain ⟨arr, e, h1, h2⟩ := h.box hL hm
      obtain ⟨k1, k2, k3⟩ := AV.set_is p h2 hset hc hcv
      have hl := k3.resolve_left (by omega)
      obtain ⟨w', r1, r2, r3, r4⟩ := run_storeVar_at (P := P) (t := t) (cur := arr.toList) (off := pathOff p) (v := v) (by simpa using h1) (by rw [hcl]; exact hsz) hl hcv.one
      refine ⟨w', r1, h.setOb hL hm r3 r4 rfl (fun s hs => ⟨s, hs, Nat.le_refl _⟩) (fun hcx => .inr ⟨b, tc, _, e, hm, r2, ?_⟩)⟩
      simpa using k1.mono hcx
  · rename_i sz n f i sz' r
    split at hp
    · rename_i hsz'
      subst hsz'
      cases hset : (f i).set r x with
      | none => simp [hset] at hp
      | some y =>
        simp [hset] at hp
        subst hp
        obtain ⟨arr, e, cs, h1, h2, h3, h4, h5, h6⟩ := h.seq hL hm
        obtain ⟨hi, hc⟩ := hc
        obtain ⟨k1, k2, k3⟩ := AV.set_is r (h4 i hi) hset hc hcv
        have hl := k3.resolve_left (by omega)
        rw [h5 i hi] at hl
        have hbound : i * sz + sz ≤ arr.size := by
          rw [h3, ← Nat.succ_mul]; exact Nat.mul_le_mul_right sz (by omega)
        have hbl : i * sz + pathOff r + v.cells.toList.length ≤ arr.toList.length := by rw [Array.length_toList (xs := arr)]; omega
        obtain ⟨w', r1, r2, r3, r4⟩ := run_storeVar_at (P := P) (t := t) (cur := arr.toList) (off := i * sz + pathOff r) (v := v) (by simpa using h1) (by rw [hcl]; exact hsz) hbl hcv.one
        refine ⟨w', r1, h.setOb hL hm r3 r4 rfl (fun s hs => ⟨s, hs, Nat.le_refl _⟩) (fun hcx => .inr ⟨b, tc, _, e, fun j => if j = i then splice (cs i) (pathOff r) v.cells.toList else cs j, hm, r2, h2, ?_, ?_, ?_, ?_⟩)⟩
        · have : (splice arr.toList (i * sz + pathOff r) v.cells.toList).length = arr.size := by rw [splice_length hbl]; simp
          simpa [this] using h3
        · intro j hj
          by_cases hji : j = i
          · subst hji; simpa using k1.mono hcx
          · simpa [hji] using (h4 j hj).mono hcx
        · intro j hj
          by_cases hji : j = i
          · subst hji; simp [splice_length (by rw [h5 j hj]; omega : pathOff r + v.cells.toList.length ≤ (cs j).length), h5 j hj]
          · simp [hji, h5 j hj]
        · intro j hj q hq
          simp only [List.getElem?_toArray]
          rw [splice_getElem? hbl]
          by_cases hji : j = i
          · subst hji
            simp only [if_true]
            rw [splice_getElem? (by rw [h5 j hj]; omega)]
            by_cases h7 : pathOff r ≤ q ∧ q < pathOff r + v.cells.toList.length
            · rw [if_pos h7, if_pos (by omega)]; congr 1; omega
            · rw [if_neg h7, if_neg (by omega), Array.getElem?_toList]; exact h6 j hj q hq
          · rw [if_neg hji, if_neg, Array.getElem?_toList]
            · exact h6 j hj q hq
            · intro ⟨q1, q2⟩
              rcases Nat.lt_or_gt_of_ne hji with hlt | hgt
              · have : (j + 1) * sz ≤ i * sz := Nat.mul_le_mul_right sz hlt
                rw [Nat.succ_mul] at this; omega
              · have : (i + 1) * sz ≤ j * sz := Nat.mul_le_mul_right sz hgt
                rw [Nat.succ_mul] at this; omega
    · cases hp
  · cases hp

def eStore (P : Program) (L : List Ob) (t : TypeId) (p x : AV) : Option (AV × List Ob × List Prop) :=
  match p with
  | .ptr o st path => match L[o]? with
    | some obj => match obj.put path x with
      | some obj' => if x.solid = true ∧ 0 < x.wd ∧ szOf P t = some x.wd then some (.bot, L.set o obj', obj.live st ++ obj.getL path) else none
      | none => none
    | none => none
  | _ => none

theorem store_op {P : Program} {L L' : List Ob} {G : GFr} {ch : Chain} {o : Oper} {t : TypeId} {p x : Operand} {av pv xv : AV} {C : List Prop} (ho : o.op = .store t p x)
    (hp : opnd G ch p = some pv) (hx : opnd G ch x = some xv) (h : eStore P L t pv xv = some (av, L', C)) (hc : AllP C) : OpOk P G ch L o av L' := by
  intro X ms w a K Q hr hf hh hK
  unfold eStore at h
  split at h
  · rename_i i st path
    split at h
    · rename_i obj hL
      split at h
      · rename_i obj' hput
        split at h
        · rename_i hty
          cases h
          obtain ⟨hc1, hc2⟩ := AllP_append.1 hc
          have hp' := IsV.is1 rfl (by simp) (by simp) (opnd_is hp hf hh)
          generalize hu : a.eval p = u at hp'
          cases hp' with
          | ptr _ _ _ _ hp' =>
          obtain ⟨_, _, _, p3⟩ := hp'
          obtain ⟨b, tc, hm, rfl⟩ := p3 obj hL (Ob.live_C hc1)
          obtain ⟨w', k1, k2, k3, k4⟩ := hr.put (P := P) (t := t) hL hm hput (Ob.getL_C hc2) hty.1 hty.2.1 hty.2.2 (opnd_is hx hf hh)
          refine OpOk.skip (w' := w') ?_ (hK _ _ _ k2 k3 k4 (.bot _))
          obtain ⟨dst, op, ty, pos, after, guard⟩ := o
          subst ho
          simp only [execOp, hu, Instr.storeAt, Instr.sureAddr, Sem.run_bind, Sem.run_pure, Result.andThen_ok, k1]
        · cases h
      · cases h
    · cases h
  · cases h
end Go.TA
