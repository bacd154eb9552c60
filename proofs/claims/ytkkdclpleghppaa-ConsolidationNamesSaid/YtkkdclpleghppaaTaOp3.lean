/- A part of the proof: laws over any program of the abstract machine. No condition. -/
import Derived.Test.YtkkdclpleghppaaTaOp2
namespace Go.TA
open Go

theorem add_mk (b off j : Nat) : (⟨b, off, none⟩ : Addr).add j = ⟨b, off + j, none⟩ := by
  unfold Addr.add
  split <;> simp_all

theorem cell_mk {w : World} {b : Nat} {arr : Array Value} {e : TypeId} {fz : Nat × Nat} (h : w.heap[b]? = some (.cells arr e fz)) (i : Nat) :
    w.cell? ⟨b, i, none⟩ = arr[i]? := by
  simp [World.cell?, h]

section
variable {P : Program} {w : World}

theorem loadVar_ok {t : TypeId} {g : Bool} {k : List Value} {b off : Nat} (hag : aggTy P t = some g) (hsz : szOf P t = some k.length)
    (hc : ∀ j, j < k.length → w.cell? ⟨b, off + j, none⟩ = k[j]?) (h1 : g = false → ∃ v, k = [v]) :
    ∃ u, (loadVar t ⟨b, off, none⟩).run P w = .ok u w ∧ ((g = true ∧ u = .agg k.toArray) ∨ (g = false ∧ k = [u])) := by
  cases g with
  | true =>
    refine ⟨.agg k.toArray, ?_, .inl ⟨rfl, rfl⟩⟩
    have hl := run_loadCells_list (P := P) w ⟨b, off, none⟩ k (fun j v hv => by
      rw [add_mk]
      have hj : j < k.length := by
        rcases Nat.lt_or_ge j k.length with h | h
        · exact h
        · rw [List.getElem?_eq_none h] at hv; cases hv
      rw [hc j hj, hv])
    simp [loadVar, run_agg hag w, run_sz hsz w, hl]
  | false =>
    obtain ⟨v, rfl⟩ := h1 rfl
    refine ⟨v, ?_, .inr ⟨rfl, rfl⟩⟩
    have := hc 0 (by simp)
    simp only [Nat.add_zero, List.getElem?_cons_zero] at this
    simp [loadVar, run_agg hag w, this]

theorem isV_of_load {c : Cx} {av : AV} {k : List Value} {u : Value} {g : Bool} (hk : AV.Is c av k) (hg : av.isAgg = g)
    (hu : (g = true ∧ u = .agg k.toArray) ∨ (g = false ∧ k = [u])) : AV.IsV c av u := by
  rcases hu with ⟨rfl, rfl⟩ | ⟨rfl, rfl⟩
  · exact .agg _ _ hg hk
  · exact .one _ _ hg hk

theorem nonAgg_one {c : Cx} {av : AV} {k : List Value} (hk : AV.Is c av k) (hg : av.isAgg = false) : ∃ v, k = [v] := by
  cases hk with
  | d x cs h =>
    cases h <;> first | exact ⟨_, rfl⟩ | cases hg
  | agg _ _ _ => cases hg
  | _ => exact ⟨_, rfl⟩
end

/-! ## Objects -/
section
variable {X : Nat → Prop} {ms : Blocks} {L : List Ob} {w : World}

theorem Rel.box {o : Nat} {x : AV} {b tc : Nat} (h : Rel X ms L w) (hL : L[o]? = some (.box x)) (hm : ms[o]? = some (some (b, tc))) :
    ∃ arr e, w.heap[b]? = some (.cells arr e (0, 0)) ∧ AV.Is (cxOf X ms L w) x arr.toList := by
  rcases h.obs o _ hL with h' | ⟨b', tc', arr, e, h1, h2, h3⟩
  · exact absurd (hm.symm.trans h') (by simp)
  · have : some (some (b, tc)) = some (some (b', tc')) := hm.symm.trans h1
    cases this
    exact ⟨arr, e, h2, h3⟩

theorem Rel.seq {o sz n : Nat} {f : Nat → AV} {b tc : Nat} (h : Rel X ms L w) (hL : L[o]? = some (.seq sz n f)) (hm : ms[o]? = some (some (b, tc))) :
    ∃ arr e, ∃ cs : Nat → List Value, w.heap[b]? = some (.cells arr e (0, 0)) ∧ n ≤ tc ∧ arr.size = tc * sz ∧ (∀ i, i < n → AV.Is (cxOf X ms L w) (f i) (cs i)) ∧
      (∀ i, i < n → (cs i).length = sz) ∧ (∀ i, i < n → ∀ j, j < sz → arr[i * sz + j]? = (cs i)[j]?) := by
  rcases h.obs o _ hL with ⟨h', _⟩ | ⟨b', tc', arr, e, cs, h1, h2, h3⟩
  · exact absurd (hm.symm.trans h') (by simp)
  · have : some (some (b, tc)) = some (some (b', tc')) := hm.symm.trans h1
    cases this
    exact ⟨arr, e, cs, h2, h3⟩
end

/-- What lies in an object, behind a path. -/
def Ob.get : Ob → List Stp → Option AV
  | .box a, p => a.get p
  | .seq sz _ f, .x i sz' :: r => if sz = sz' then (f i).get r else none
  | _, _ => none

def Ob.getC : Ob → List Stp → Prop
  | .box a, p => a.getC p
  | .seq _ n f, .x i _ :: r => i < n ∧ (f i).getC r
  | _, _ => True

theorem Rel.get {X : Nat → Prop} {ms : Blocks} {L : List Ob} {w : World} (h : Rel X ms L w) {o : Nat} {obj : Ob} {b tc : Nat} {p : List Stp} {x : AV}
    (hL : L[o]? = some obj) (hm : ms[o]? = some (some (b, tc))) (hx : obj.get p = some x) (hc : obj.getC p) :
    ∃ arr e k, w.heap[b]? = some (.cells arr e (0, 0)) ∧ AV.Is (cxOf X ms L w) x k ∧ At arr.toList (pathOff p) k := by
  unfold Ob.get at hx
  split at hx
  · rename_i a
    obtain ⟨arr, e, h1, h2⟩ := h.box hL hm
    obtain ⟨k, h3, h4⟩ := AV.get_is p h2 hx hc
    exact ⟨arr, e, k, h1, h3, h4⟩
  · rename_i sz n f i sz' r
    split at hx
    · rename_i hs
      subst hs
      obtain ⟨arr, e, cs, h1, h2, h3, h4, h5, h6⟩ := h.seq hL hm
      obtain ⟨hi, hc⟩ := hc
      obtain ⟨k, h7, h8⟩ := AV.get_is r (h4 i hi) hx hc
      refine ⟨arr, e, k, h1, h7, ?_⟩
      have : At arr.toList (i * sz) (cs i) := fun j hj => by
        rw [Array.getElem?_toList]
        exact h6 i hi j (by rw [h5 i hi] at hj; exact hj)
      exact this.trans h8
    · cases hx
  · cases hx

/-! ## The conditions as lists, the idle ones left out -/
def AV.intoL : AV → Stp → List Prop
  | .d (.arr _ n _), .x i _ => [i < n]
  | _, _ => []
def AV.getL : AV → List Stp → List Prop
  | _, [] => []
  | a, s :: r => a.intoL s ++ match a.into s with
    | some x => x.getL r
    | none => []
theorem AV.intoL_C {a : AV} {s : Stp} (h : AllP (a.intoL s)) : a.intoC s := by
  unfold AV.intoC
  split
  · exact h.1
  · trivial
theorem AV.getL_C : ∀ {p : List Stp} {a : AV}, AllP (a.getL p) → a.getC p
  | [], _, _ => trivial
  | s :: r, a, h => by
    simp only [AV.getL, AllP_append] at h
    refine ⟨AV.intoL_C h.1, ?_⟩
    cases hs : a.into s with
    | none => trivial
    | some x => simp only [hs] at h; exact AV.getL_C h.2
def Ob.getL : Ob → List Stp → List Prop
  | .box a, p => a.getL p
  | .seq _ n f, .x i _ :: r => [i < n] ++ (f i).getL r
  | _, _ => []
theorem Ob.getL_C {o : Ob} {p : List Stp} (h : AllP (o.getL p)) : o.getC p := by
  cases o with
  | box a => exact AV.getL_C h
  | seq sz n f =>
    cases p with
    | nil => trivial
    | cons s r =>
      cases s with
      | f i o => trivial
      | x i s =>
        have := AllP_append.1 h
        exact ⟨this.1.1, AV.getL_C this.2⟩
  | map es => trivial
  | dead => trivial
  | unb => trivial
def Ob.live : Ob → Nat → List Prop
  | .box _, 1 => []
  | .map _, 0 => []
  | .seq _ n _, st => [n = st]
  | _, _ => [False]
theorem Ob.live_C {o : Ob} {st : Nat} (h : AllP (o.live st)) : o.stamp = some st := by
  unfold Ob.live at h
  split at h
  · rfl
  · rfl
  · rw [← h.1]; rfl
  · exact h.1.elim

/-! ## load -/
def vLoad (P : Program) (L : List Ob) (t : TypeId) : AV → Option (AV × List Prop)
  | .imm y => if aggTy P t = some (AV.d y).isAgg ∧ szOf P t = some y.wd then some (.d y, []) else none
  | .ptr o st p => match L[o]? with
    | some obj => match obj.get p with
        | some x => if aggTy P t = some x.isAgg ∧ szOf P t = some x.wd then some (x, obj.live st ++ obj.getL p) else none
        | none => none
    | none => none
  | _ => none

theorem vLoad_ok {P : Program} {X : Nat → Prop} {ms : Blocks} {L : List Ob} {w : World} (h : Rel X ms L w) {t : TypeId} {a av : AV} {C : List Prop} {u : Value}
    (hv : vLoad P L t a = some (av, C)) (hc : AllP C) (ha : AV.IsV (cxOf X ms L w) a u) :
    ∃ v, (Instr.loadAt t u).run P w = .ok v w ∧ AV.IsV (cxOf X ms L w) av v := by
  unfold vLoad at hv
  split at hv
  · rename_i y
    split at hv
    · rename_i hty
      cases hv
      have ha' := IsV.is1 (av := .imm y) rfl (by simp) (by simp) ha
      cases ha' with
      | imm _ b off arr cs hb hy hcs =>
      obtain ⟨_, _, e, fz, hh⟩ := memOf_some hb
      have hl := hy.len
      obtain ⟨v, h1, h2⟩ := loadVar_ok (P := P) (w := w) (k := cs) (b := b) (off := off) hty.1 (by rw [hty.2, hl])
        (fun j hj => by rw [cell_mk hh]; exact hcs j hj) (fun hg => nonAgg_one (.d _ _ hy) hg)
      exact ⟨v, by simpa [Instr.loadAt, Instr.sureAddr] using h1, isV_of_load (.d _ _ hy) rfl h2⟩
    · cases hv
  · rename_i o st p
    split at hv
    · rename_i obj hL
      split at hv
      · rename_i x hx
        split at hv
        · rename_i hty
          cases hv
          have hst := Ob.live_C (AllP_append.1 hc).1
          have ha' := IsV.is1 (av := .ptr o st p) rfl (by simp) (by simp) ha
          cases ha' with
          | ptr _ _ _ _ hp =>
          obtain ⟨_, _, _, hp⟩ := hp
          obtain ⟨b, tc, hm, rfl⟩ := hp obj hL hst
          obtain ⟨arr, e, k, h1, h2, h3⟩ := h.get hL hm hx (Ob.getL_C (AllP_append.1 hc).2)
          obtain ⟨v, h4, h5⟩ := loadVar_ok (P := P) (w := w) (k := k) (b := b) (off := pathOff p) hty.1 (by rw [hty.2, h2.len])
            (fun j hj => by rw [cell_mk h1, ← Array.getElem?_toList]; exact h3 j hj) (fun hg => nonAgg_one h2 hg)
          exact ⟨v, by simpa [Instr.loadAt, Instr.sureAddr] using h4, isV_of_load h2 rfl h5⟩
        · cases hv
      · cases hv
    · cases hv
  · cases hv

/-! ## fieldAddr, indexAddr, field, index -/
def fieldOf (P : Program) (s : TypeId) (f : Nat) : Option Field := match P.underlying s with
  | some (.struct fields) => fields[f]?
  | _ => none

def vFieldAddr (P : Program) (L : List Ob) (s : TypeId) (f : Nat) (a : AV) : Option (AV × List Prop) :=
  match fieldOf P s f with
  | some fd => if szOf P fd.type = some 0 ∨ szOf P fd.type = none then none else match a with
    | .imm y => match (AV.d y).into (.f f fd.offset) with
      | some (.d z) => some (.imm z, [])
      | _ => none
    | .ptr o st p => match L[o]? with
      | some obj => some (.ptr o st (p ++ [.f f fd.offset]), obj.live st)
      | none => none
    | _ => none
  | none => none

theorem pathOff_append (p q : List Stp) : pathOff (p ++ q) = pathOff p + pathOff q := by
  induction p with
  | nil => simp [pathOff]
  | cons s r ih => simp [pathOff, ih, Nat.add_assoc]

theorem run_fieldAt {P : Program} {w : World} {s : TypeId} {f : Nat} {fd : Field} {b off : Nat} (h : fieldOf P s f = some fd) (hz : ¬ (szOf P fd.type = some 0 ∨ szOf P fd.type = none)) :
    (Instr.fieldAt s (.pointer (some ⟨b, off, none⟩)) f).run P w = .ok (.pointer (some ⟨b, off + fd.offset, none⟩)) w := by
  unfold fieldOf at h
  split at h
  · rename_i fields hu
    cases hs : szOf P fd.type with
    | none => exact absurd (.inr hs) hz
    | some n =>
      have hn : n ≠ 0 := fun e => hz (.inl (by rw [hs, e]))
      simp [Instr.fieldAt, run_und hu w, h, Instr.sureAddr, fieldPlace, run_sz hs w, hn, add_mk]
  · cases h

theorem vFieldAddr_ok {P : Program} {c : Cx} {w : World} {s : TypeId} {f : Nat} {a av : AV} {C : List Prop} {u : Value}
    (hv : vFieldAddr P c.L s f a = some (av, C)) (hc : AllP C) (ha : AV.IsV c a u) :
    ∃ v, (Instr.fieldAt s u f).run P w = .ok v w ∧ AV.IsV c av v := by
  unfold vFieldAddr at hv
  split at hv
  · rename_i fd hfd
    split at hv
    · cases hv
    · rename_i hz
      split at hv
      · rename_i y
        have ha' := IsV.is1 (av := .imm y) rfl (by simp) (by simp) ha
        cases ha' with
        | imm _ b off arr cs hb hy hcs =>
        split at hv
        · rename_i z hz'
          cases hv
          obtain ⟨k, h1, h2⟩ := AV.into_is (c := c) (.d _ _ hy) hz' (by unfold AV.intoC; split <;> first | trivial | (rename_i he; cases he))
          cases h1 with
          | d _ _ h1 =>
          refine ⟨_, run_fieldAt hfd hz, .one _ _ rfl (.imm z b (off + fd.offset) arr k hb h1 (fun j hj => ?_))⟩
          have hat : At arr.toList off cs := fun j hj => by rw [Array.getElem?_toList]; exact hcs j hj
          have := hat.trans h2 j hj
          rw [Array.getElem?_toList] at this
          exact this
        · cases hv
      · rename_i o st p
        split at hv
        · rename_i obj hL
          cases hv
          have hst := Ob.live_C hc
          have ha' := IsV.is1 (av := .ptr o st p) rfl (by simp) (by simp) ha
          cases ha' with
          | ptr _ _ _ _ hp =>
          obtain ⟨h1, h2, h0, h3⟩ := hp
          obtain ⟨b, tc, hm, rfl⟩ := h3 obj hL hst
          refine ⟨_, run_fieldAt hfd hz, .one _ _ rfl (.ptr _ _ _ _ ⟨h1, ⟨_, rfl⟩, h0, fun obj hL hst => ?_⟩)⟩
          obtain ⟨b', tc', hm', he⟩ := h3 obj hL hst
          cases he
          exact ⟨b, tc', hm', by rw [pathOff_append]; simp [pathOff, Stp.off]⟩
        · cases hv
      · cases hv
  · cases hv
end Go.TA
