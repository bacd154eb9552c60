/- A part of the proof: laws over any program of the abstract machine. No condition. -/
import Derived.Test.YtkkdclpleghppaaTaOp5
namespace Go.TA
open Go

/-! ## zero values -/
def zeroD (P : Program) : Nat → TypeId → DV
  | 0, _ => .b false
  | n + 1, t => match P.underlying t with
    | some .bool => .b false
    | some (.int k) => .i k 0
    | some .string => .str []
    | some (.pointer _) => .lit (.pointer none)
    | some (.slice _) => .sl 0 fun _ => .b false
    | some (.map _ _) => .lit (.map none)
    | some (.func _ _ _) => .lit .nilFunc
    | some (.interface _) => .lit .nilIface
    | some (.struct fs) => .agg (fs.toList.map fun f => zeroD P n f.type)
    | some (.array len e) => .arr (zeroD P n e).wd len fun _ => zeroD P n e
    | _ => .b false

def catO : List (Option (List Value)) → Option (List Value)
  | [] => some []
  | some c :: r => match catO r with
    | some cs => some (c ++ cs)
    | none => none
  | none :: _ => none

/-- The cells of a zero value. -/
def zeroC (P : Program) : Nat → TypeId → Option (List Value)
  | 0, _ => none
  | n + 1, t => match P.underlying t with
    | some .bool => some [.bool false]
    | some (.int k) => some [.int k 0]
    | some .string => some [.string ⟨#[]⟩]
    | some (.pointer _) => some [.pointer none]
    | some (.slice _) => some [.slice none 0 0]
    | some (.map _ _) => some [.map none]
    | some (.func _ _ _) => some [.nilFunc]
    | some (.interface _) => some [.nilIface]
    | some (.struct fs) => catO (fs.toList.map fun f => zeroC P n f.type)
    | some (.array len e) => match zeroC P n e with
      | some c => some ((List.range len).flatMap fun _ => c)
      | none => none
    | _ => none

theorem catO_is {M : Mem} {α : Type} (g : α → DV) (h : α → Option (List Value)) (hh : ∀ a c, h a = some c → DV.Is M (g a) c) : ∀ (l : List α) (cs : List Value),
    catO (l.map h) = some cs → DV.IsL M (l.map g) cs
  | [], cs, e => by simp [catO] at e; subst e; exact .nil
  | a :: l, cs, e => by
    simp only [List.map_cons] at e
    cases ha : h a with
    | none => simp [catO, ha] at e
    | some c =>
      simp only [ha, catO] at e
      cases hr : catO (l.map h) with
      | none => simp [hr] at e
      | some r =>
        simp [hr] at e
        subst e
        exact .cons _ _ _ _ (hh a c ha) (catO_is g h hh l r hr)

theorem zeroC_is {P : Program} {M : Mem} : ∀ (n : Nat) (t : TypeId) (cs : List Value), zeroC P n t = some cs → DV.Is M (zeroD P n t) cs
  | 0, t, cs, h => by simp [zeroC] at h
  | n + 1, t, cs, h => by
    unfold zeroC at h
    unfold zeroD
    split at h
    case h_11 => cases h
    case h_9 fs _ =>
      exact .agg _ _ (catO_is _ _ (fun f c hc => zeroC_is n f.type c hc) _ _ h)
    case h_10 len e _ =>
      split at h
      · rename_i c hc
        cases h
        have := zeroC_is (M := M) n e c hc
        exact .arr _ _ _ (fun _ => c) (fun _ _ => this) (fun _ _ => this.len)
      · cases h
    all_goals
      cases h
    · exact .b false
    · exact .i _ 0
    · exact .str []
    · exact .lit _ rfl
    · exact .slNil _
    · exact .lit _ rfl
    · exact .lit _ rfl
    · exact .lit _ rfl

def valEqB : Value → Value → Bool
  | .bool a, .bool b => a == b
  | .int k a, .int k' b => k == k' && a == b
  | .string a, .string b => a.data.toList == b.data.toList
  | .pointer none, .pointer none => true
  | .map none, .map none => true
  | .slice none 0 0, .slice none 0 0 => true
  | .nilFunc, .nilFunc => true
  | .nilIface, .nilIface => true
  | _, _ => false

theorem valEqB_eq {a b : Value} (h : valEqB a b = true) : a = b := by
  unfold valEqB at h
  split at h <;> first | rfl | (cases h; done) | skip
  · rw [beq_iff_eq] at h; rw [h]
  · rw [Bool.and_eq_true, beq_iff_eq, beq_iff_eq] at h; rw [h.1, h.2]
  · rename_i a b
    rw [beq_iff_eq] at h
    obtain ⟨⟨a⟩⟩ := a
    obtain ⟨⟨b⟩⟩ := b
    simp only at h
    rw [h]

def valsEqB : List Value → List Value → Bool
  | [], [] => true
  | a :: as, b :: bs => valEqB a b && valsEqB as bs
  | _, _ => false

theorem valsEqB_eq : ∀ {a b : List Value}, valsEqB a b = true → a = b
  | [], [], _ => rfl
  | a :: as, b :: bs, h => by
    simp only [valsEqB, Bool.and_eq_true] at h
    rw [valEqB_eq h.1, valsEqB_eq h.2]
  | [], _ :: _, h => by cases h
  | _ :: _, [], h => by cases h

def isAggV : Value → Bool
  | .agg _ => true
  | _ => false

/-- The zero value of a type, if the table's is that. -/
def zeroOf (P : Program) (t : TypeId) : Option DV :=
  match (P.info? t).bind (·.zero), zeroC P 12 t with
  | some z, some cs => if valsEqB z.cells.toList cs && (isAggV z == (AV.d (zeroD P 12 t)).isAgg) then some (zeroD P 12 t) else none
  | _, _ => none

theorem zeroOf_is {P : Program} {t : TypeId} {x : DV} (h : zeroOf P t = some x) : ∃ z, (∀ w, (zeroValue t).run P w = .ok z w) ∧ (∀ c, AV.IsV c (.d x) z) := by
  unfold zeroOf at h
  split at h
  · rename_i z cs hz hcs
    split at h
    · rename_i hb
      cases h
      rw [Bool.and_eq_true] at hb
      have e := valsEqB_eq hb.1
      have ea : isAggV z = (AV.d (zeroD P 12 t)).isAgg := by simpa using hb.2
      refine ⟨z, fun w => ?_, fun c => ?_⟩
      · cases hi : P.info? t with
        | none => simp [hi] at hz
        | some i =>
          simp [hi] at hz
          simp [zeroValue, typeInfo, hi, hz]
      · have hd : DV.Is c.M (zeroD P 12 t) z.cells.toList := by rw [e]; exact zeroC_is 12 t cs hcs
        cases hg : (AV.d (zeroD P 12 t)).isAgg with
        | true =>
          rw [hg] at ea
          cases z <;> simp [isAggV] at ea
          rename_i cells
          have := AV.IsV.agg (c := c) _ _ hg (.d _ _ hd)
          simpa [Value.cells] using this
        | false =>
          rw [hg] at ea
          have hz1 : z.cells = #[z] := by cases z <;> first | rfl | simp [isAggV] at ea
          rw [hz1] at hd
          exact .one _ _ hg (.d _ _ (by simpa using hd))
    · cases h
  · cases h

/-! ## build -/
def setParts (offs : Nat → Option (Stp × Nat)) : List (Nat × AV) → AV → Option AV
  | [], a => some a
  | (i, v) :: r, a => match offs i with
    | some (s, sz) => if v.solid = true ∧ v.wd = sz ∧ 0 < sz then (a.set [s] v).bind (setParts offs r) else none
    | none => none

def partsL (offs : Nat → Option (Stp × Nat)) : List (Nat × AV) → AV → List Prop
  | [], _ => []
  | (i, v) :: r, a => match offs i with
    | some (s, _) => a.getL [s] ++ match a.set [s] v with
      | some a' => partsL offs r a'
      | none => []
    | none => []

theorem foldl_splice (l : List Value) (cs : List Value) (off : Nat) (h : off + l.length ≤ cs.length) :
    (l.toArray.zipIdx.foldl (fun (cs : Array Value) (x : Value × Nat) => cs.setIfInBounds (off + x.2) x.1) cs.toArray) = (splice cs off l).toArray := by
  have key : ∀ (l : List Value) (k : Nat) (cs : List Value), off + k + l.length ≤ cs.length →
      ((l.zipIdx k).foldl (fun (cs : Array Value) (x : Value × Nat) => cs.setIfInBounds (off + x.2) x.1) cs.toArray) = (splice cs (off + k) l).toArray := by
    intro l
    induction l with
    | nil => intro k cs _; simp [splice]
    | cons v l ih =>
      intro k cs hk
      simp only [List.zipIdx_cons, List.foldl_cons]
      have e1 : cs.toArray.setIfInBounds (off + k) v = (cs.set (off + k) v).toArray := by simp
      rw [e1, ih (k + 1) (cs.set (off + k) v) (by simp at hk ⊢; omega)]
      congr 1
      apply List.ext_getElem?
      intro j
      simp only [List.length_cons] at hk
      rw [splice_getElem? (cs := cs.set (off + k) v) (k := l) (by simp; omega), splice_getElem? (cs := cs) (k := v :: l) (by simp; omega)]
      simp only [List.length_cons]
      by_cases h1 : off + k ≤ j ∧ j < off + k + (l.length + 1)
      · rw [if_pos h1]
        by_cases h2 : j = off + k
        · subst h2
          rw [if_neg (by omega), List.getElem?_set_self (by omega), Nat.sub_self]
          rfl
        · rw [if_pos (by omega), show j - (off + k) = (j - (off + (k + 1))) + 1 by omega]
          simp
      · rw [if_neg h1, if_neg (by omega), List.getElem?_set_ne (by omega)]
  have := key l 0 cs (by simpa using h)
  simpa using this

/-- Parts: their numbers, what they are, what they are in the run. -/
def PartsIs (c : Cx) : List (Nat × AV) → List (Nat × Value) → Prop
  | [], [] => True
  | (i, av) :: r, (j, v) :: s => i = j ∧ AV.IsV c av v ∧ PartsIs c r s
  | _, _ => False

theorem setParts_fill {c : Cx} {place : Nat → Option (Nat × Nat)} {offs : Nat → Option (Stp × Nat)}
    (hp : ∀ i s sz, offs i = some (s, sz) → place i = some (s.off, sz)) : ∀ (parts : List (Nat × AV)) (vs : List (Nat × Value)) (a a' : AV) (cs : List Value),
    PartsIs c parts vs → AV.Is c a cs → setParts offs parts a = some a' → AllP (partsL offs parts a) →
    ∃ cs', Instr.fill place cs.toArray vs = some cs'.toArray ∧ AV.Is c a' cs'
  | [], [], a, a', cs, _, ha, hs, _ => by
    simp [setParts] at hs; subst hs
    exact ⟨cs, rfl, ha⟩
  | (i, v) :: r, (j, u) :: s, a, a', cs, ⟨hij, hv, hr⟩, ha, hs, hc => by
    subst hij
    simp only [setParts] at hs
    simp only [partsL] at hc
    cases ho : offs i with
    | none => simp [ho] at hs
    | some p =>
      obtain ⟨st, sz⟩ := p
      simp only [ho] at hs hc
      split at hs
      · rename_i hty
        obtain ⟨h1, h2, h3⟩ := hty
        cases hset : a.set [st] v with
        | none => simp [hset] at hs
        | some a1 =>
          simp only [hset, Option.bind_some] at hs hc
          obtain ⟨hc1, hc2⟩ := AllP_append.1 hc
          have hvc := IsV.cells h1 hv
          have hlen := hvc.len
          obtain ⟨k1, k2, k3⟩ := AV.set_is [st] ha hset (AV.getL_C hc1) hvc
          have hoff : pathOff [st] = st.off := by simp [pathOff]
          rw [hoff] at k1 k3
          have hb : st.off + u.cells.toList.length ≤ cs.length := by
            rcases k3 with k3 | k3
            · omega
            · exact k3
          obtain ⟨cs', h4, h5⟩ := setParts_fill hp r s a1 a' _ hr k1 hs hc2
          refine ⟨cs', ?_, h5⟩
          have hsz : u.cells.size = sz := by rw [← h2, ← hlen]; simp
          simp only [Instr.fill, hp i st sz ho]
          rw [if_neg (by simp at hb; simp [hsz]; omega)]
          have := foldl_splice u.cells.toList cs st.off hb
          simp only [Array.toArray_toList] at this
          rw [this]
          exact h4
      · cases hs
  | [], _ :: _, _, _, _, h, _, _, _ => h.elim
  | _ :: _, [], _, _, _, h, _, _, _ => h.elim

def vBuild (P : Program) (t : TypeId) (parts : List (Nat × AV)) : Option (AV × List Prop) :=
  match zeroOf P t, P.underlying t with
  | some z, some (.struct fields) =>
    let offs : Nat → Option (Stp × Nat) := fun i => (fields[i]?).bind fun f => (szOf P f.type).map fun n => (Stp.f i f.offset, n)
    if fields.toList.all (fun f => (szOf P f.type).isSome) then
      (setParts offs parts (.d z)).bind fun av => if av.isAgg then some (av, partsL offs parts (.d z)) else none
    else none
  | some z, some (.array n elem) => match szOf P elem with
    | some sz => let offs : Nat → Option (Stp × Nat) := fun i => if i < n then some (.x i sz, sz) else none
      (setParts offs parts (.d z)).bind fun av => if av.isAgg then some (av, partsL offs parts (.d z)) else none
    | none => none
  | _, _ => none

theorem mapM_sizes {P : Program} {w : World} : ∀ (fs : List Field), fs.all (fun f => (szOf P f.type).isSome) = true →
    (fs.mapM (fun f => do pure (f.offset, ← sizeOf f.type) : Field → Sem (Nat × Nat))).run P w = .ok (fs.map fun f => (f.offset, (szOf P f.type).getD 0)) w
  | [], _ => rfl
  | f :: fs, h => by
    simp only [List.all_cons, Bool.and_eq_true] at h
    have ih := mapM_sizes (P := P) (w := w) fs h.2
    obtain ⟨n, hn⟩ := Option.isSome_iff_exists.1 h.1
    simp only [List.mapM_cons, Sem.run_bind, run_sz hn w, Result.andThen_ok, Sem.run_pure, ih, List.map_cons, hn, Option.getD_some]

theorem vBuild_ok {P : Program} {c : Cx} {w : World} {t : TypeId} {parts : List (Nat × AV)} {av : AV} {C : List Prop} {vs : Array (Nat × Value)}
    (hv : vBuild P t parts = some (av, C)) (hc : AllP C) (hp : PartsIs c parts vs.toList) :
    ∃ v, (Instr.build t vs).run P w = .ok v w ∧ AV.IsV c av v := by
  unfold vBuild at hv
  split at hv
  · rename_i z fields hz hu
    simp only at hv
    split at hv
    · rename_i hall
      cases hs : setParts (fun i => (fields[i]?).bind fun f => (szOf P f.type).map fun n => (Stp.f i f.offset, n)) parts (.d z) with
      | none => simp [hs] at hv
      | some a' =>
        simp only [hs, Option.bind_some] at hv
        split at hv
        · rename_i hag
          cases hv
          obtain ⟨zv, h1, h2⟩ := zeroOf_is hz
          have hzc := IsV.cells (c := c) (av := .d z) rfl (h2 c)
          have hm := mapM_sizes (P := P) (w := w) fields.toList hall
          obtain ⟨cs', h3, h4⟩ := setParts_fill (c := c) (place := fun i => ((fields.toList.map fun f => (f.offset, (szOf P f.type).getD 0)).toArray)[i]?) (by
            intro i s sz ho
            cases hf : fields[i]? with
            | none => simp [hf] at ho
            | some f =>
              cases hn : szOf P f.type with
              | none => simp [hf, hn] at ho
              | some n =>
                simp [hf, hn] at ho
                obtain ⟨rfl, rfl⟩ := ho
                simp [hf, hn, Stp.off]) parts vs.toList _ _ _ hp hzc hs hc
          refine ⟨.agg cs'.toArray, ?_, .agg _ _ hag h4⟩
          have hm' : (fields.mapM (fun f => do pure (f.offset, ← sizeOf f.type) : Field → Sem (Nat × Nat))).run P w =
              .ok (fields.toList.map fun f => (f.offset, (szOf P f.type).getD 0)).toArray w := by
            rw [Array.mapM_eq_mapM_toList, Sem.run_map, hm, Result.andThen_ok]
          simp only [Array.toArray_toList] at h3
          simp only [Instr.build, Sem.run_bind, h1, Result.andThen_ok, run_und hu w, hm', h3]
          rfl
        · cases hv
    · cases hv
  · rename_i z n elem hz hu
    split at hv
    · rename_i sz hsz
      simp only at hv
      cases hs : setParts (fun i => if i < n then some (Stp.x i sz, sz) else none) parts (.d z) with
      | none => simp [hs] at hv
      | some a' =>
        simp only [hs, Option.bind_some] at hv
        split at hv
        · rename_i hag
          cases hv
          obtain ⟨zv, h1, h2⟩ := zeroOf_is hz
          have hzc := IsV.cells (c := c) (av := .d z) rfl (h2 c)
          obtain ⟨cs', h3, h4⟩ := setParts_fill (c := c) (place := fun i => some (i * sz, sz)) (by
            intro i s sz' ho
            split at ho
            · cases ho; rfl
            · cases ho) parts vs.toList _ _ _ hp hzc hs hc
          refine ⟨.agg cs'.toArray, ?_, .agg _ _ hag h4⟩
          simp [Instr.build, h1, run_und hu w, run_sz hsz w, h3]
        · cases hv
    · cases hv
  · cases hv
end Go.TA
