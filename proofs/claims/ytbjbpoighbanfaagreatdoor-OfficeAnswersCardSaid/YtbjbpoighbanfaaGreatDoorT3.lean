/- A part of the proof: laws over any program of the abstract machine. No condition. -/
import Derived.Test.YtbjbpoighbanfaaGreatDoorT2
import Derived.ProofKit
import Derived.OpenShut
import Derived.ChangeSlices
import Derived.Below
import Derived.Carry
import Derived.Sort.Row
import Derived.Deep.Slices
namespace Go.TA
open Go
variable {z : Option Nat}
/-! ## functions that may have no answer -/
open Classical in
noncomputable def guardP {α : Type} (p : Prop) (k : Option α) : Option α := if p then k else none
theorem guardP_some {α : Type} {p : Prop} {k : Option α} {r : α} (h : guardP p k = some r) : p ∧ k = some r := by
  unfold guardP at h
  split at h
  · exact ⟨by assumption, h⟩
  · cases h
theorem guardP_pos {α : Type} {p : Prop} {k : Option α} (h : p) : guardP p k = k := by
  unfold guardP; rw [if_pos h]
theorem bind_some' {α β : Type} {x : Option α} {f : α → Option β} {r : β} (h : x.bind f = some r) : ∃ a, x = some a ∧ f a = some r := by
  cases x with
  | none => cases h
  | some a => exact ⟨a, rfl, h⟩
inductive Step (σ ρ : Type) where
  | cont (s : σ)
  | brk (s : σ)
  | ret (r : ρ)
inductive Out (σ ρ : Type) where
  | next (s : σ)
  | ret (r : ρ)
section
variable {σ ρ : Type}
def rangeM (body : Nat → σ → Option (Step σ ρ)) : Nat → Nat → σ → Option (Out σ ρ)
  | 0, _, s => some (.next s)
  | k + 1, i, s => match body i s with
    | none => none
    | some (.cont s') => rangeM body k (i + 1) s'
    | some (.brk s') => some (.next s')
    | some (.ret r) => some (.ret r)
def iterN (step : σ → Option (Step σ ρ)) : Nat → σ → Option (Out σ ρ)
  | 0, _ => none
  | k + 1, s => match step s with
    | none => none
    | some (.cont s') => iterN step k s'
    | some (.brk s') => some (.next s')
    | some (.ret r) => some (.ret r)
theorem iterN_le {step : σ → Option (Step σ ρ)} {r : Out σ ρ} : ∀ {k : Nat} {s : σ}, iterN step k s = some r → ∀ {k' : Nat}, k ≤ k' → iterN step k' s = some r
  | k + 1, s, h, k' + 1, hk => by
    simp only [iterN] at h ⊢
    split at h
    · cases h
    · exact iterN_le h (by omega)
    · exact h
    · exact h
open Classical in
noncomputable def iterM (step : σ → Option (Step σ ρ)) (s : σ) : Option (Out σ ρ) := if h : ∃ r k, iterN step k s = some r then some h.choose else none
theorem iterM_some {step : σ → Option (Step σ ρ)} {s : σ} {r : Out σ ρ} (h : iterM step s = some r) : ∃ k, iterN step k s = some r := by
  unfold iterM at h
  split at h
  · rename_i he
    cases h
    exact he.choose_spec
  · cases h
theorem iterM_of {step : σ → Option (Step σ ρ)} {s : σ} {r : Out σ ρ} {k : Nat} (h : iterN step k s = some r) : iterM step s = some r := by
  have he : ∃ r k, iterN step k s = some r := ⟨r, k, h⟩
  unfold iterM
  rw [dif_pos he]
  obtain ⟨k', h'⟩ := he.choose_spec
  have h1 := iterN_le h (Nat.le_max_left k k')
  have h2 := iterN_le h' (Nat.le_max_right k k')
  rw [h1] at h2
  exact h2.symm
theorem iterM_eq (step : σ → Option (Step σ ρ)) (s : σ) : iterM step s = match step s with
    | none => none
    | some (.cont s') => iterM step s'
    | some (.brk s') => some (.next s')
    | some (.ret r) => some (.ret r) := by
  cases hs : step s with
  | none =>
    cases hm : iterM step s with
    | none => rfl
    | some r =>
      obtain ⟨k, hk⟩ := iterM_some hm
      cases k with
      | zero => cases hk
      | succ k => simp only [iterN, hs] at hk; cases hk
  | some x =>
    cases x with
    | brk s' => exact iterM_of (k := 1) (by simp [iterN, hs])
    | ret r => exact iterM_of (k := 1) (by simp [iterN, hs])
    | cont s' =>
      simp only
      cases hm : iterM step s' with
      | some r =>
        obtain ⟨k, hk⟩ := iterM_some hm
        exact iterM_of (k := k + 1) (by simp [iterN, hs, hk])
      | none =>
        cases hm' : iterM step s with
        | none => rfl
        | some r =>
          obtain ⟨k, hk⟩ := iterM_some hm'
          cases k with
          | zero => cases hk
          | succ k =>
            simp only [iterN, hs] at hk
            rw [iterM_of hk] at hm; cases hm
end
/-! ## code before code -/
section
variable {P : Program} {N : Nat} {Q : Post} {fr : Fr} {L : List Ob} {x y : Code} {cs : List Code}
end
/-! ## loops -/
section
variable {P : Program} {N : Nat} {σ ρ : Type}
def StepQ (A : Nat) (I : σ → Fr) (LI : σ → List Ob) (J : σ → Fr → List Ob → Prop) (R : ρ → Fr → List Ob → Prop) (r : Step σ ρ) : Post
  | .normal, fr, L => ∃ s, r = .cont s ∧ StLe fr L (I s) (LI s)
  | .exit j, fr, L => j = A ∧ ∃ s, r = .brk s ∧ J s fr L
  | .ret, fr, L => ∃ x, r = .ret x ∧ R x fr L
  | _, _, _ => False
def OutQ (A : Nat) (J : σ → Fr → List Ob → Prop) (R : ρ → Fr → List Ob → Prop) (r : Out σ ρ) : Post
  | .exit j, fr, L => j = A ∧ ∃ s, r = .next s ∧ J s fr L
  | .ret, fr, L => ∃ x, r = .ret x ∧ R x fr L
  | _, _, _ => False
theorem aw_range {c : Code} {A n : Nat} {I : Nat → σ → Fr} {LI : Nat → σ → List Ob} {J : σ → Fr → List Ob → Prop} {R : ρ → Fr → List Ob → Prop} {body : Nat → σ → Option (Step σ ρ)} {m : Nat}
    (hround : ∀ i s r, i < n → body i s = some r → AW z P N c (StepQ A (I (i + 1)) (LI (i + 1)) J R r) (I i s) (LI i s))
    (hend : ∀ s, AW z P N c (StepQ A (I (n + 1)) (LI (n + 1)) J R (.brk s)) (I n s) (LI n s)) (hm : ∀ i s, (LI i s).length = m)
    {fr : Fr} {L : List Ob} {k i : Nat} {s : σ} {out : Out σ ρ} (hi : i + k = n) (h : rangeM body k i s = some out) (hfr : StLe fr L (I i s) (LI i s)) (hL : L.length ≤ m) :
    AW z P N (.loop c) (OutQ A J R out) fr L := by
  refine aw_loop (σ := { q : Nat × Nat × σ // q.2.1 + q.1 = n ∧ rangeM body q.1 q.2.1 q.2.2 = some out }) (fun q => I q.1.2.1 q.1.2.2) (fun q => LI q.1.2.1 q.1.2.2) (fun _ => True)
    (fun _ => OutQ A J R out) (fun q => q.1.1) ?_ ⟨(k, i, s), hi, h⟩ trivial hfr (by rw [hm]; exact hL) (fun _ _ _ h => h)
  rintro ⟨⟨k, i, s⟩, hki, hr⟩ _
  simp only at hki hr ⊢
  cases k with
  | zero =>
    simp only [rangeM, Option.some.injEq] at hr
    have : i = n := by omega
    subst this
    refine aw_mono (hend s) fun e fr L hq => ?_
    subst hr
    cases e with
    | normal => obtain ⟨s', hs, _⟩ := hq; cases hs
    | exit j => obtain ⟨h1, s', h2, h3⟩ := hq; cases h2; exact ⟨h1, s, rfl, h3⟩
    | ret => obtain ⟨x, hx, _⟩ := hq; cases hx
    | goto l => exact hq.elim
    | panic ch => exact hq.elim
    | outgrown => exact hq.elim
  | succ k =>
    simp only [rangeM] at hr
    cases hb : body i s with
    | none => simp [hb] at hr
    | some r =>
      refine aw_mono (hround i s r (by omega) hb) fun e fr L hq => ?_
      cases e with
      | normal =>
        obtain ⟨s', rfl, hst⟩ := hq
        simp only [hb] at hr
        exact ⟨⟨(k, i + 1, s'), by simp only; omega, hr⟩, trivial, hst, by simp, by rw [hm, hm], fun _ _ _ h => h⟩
      | exit j =>
        obtain ⟨h1, s', rfl, h3⟩ := hq
        simp only [hb, Option.some.injEq] at hr
        subst hr
        exact ⟨h1, s', rfl, h3⟩
      | ret =>
        obtain ⟨x, rfl, h3⟩ := hq
        simp only [hb, Option.some.injEq] at hr
        subst hr
        exact ⟨x, rfl, h3⟩
      | goto l => exact hq.elim
      | panic ch => exact hq.elim
      | outgrown => exact hq.elim
theorem aw_iter {c : Code} {A : Nat} {I : σ → Fr} {LI : σ → List Ob} {J : σ → Fr → List Ob → Prop} {R : ρ → Fr → List Ob → Prop} {step : σ → Option (Step σ ρ)} {m : Nat}
    (hround : ∀ s r, step s = some r → AW z P N c (StepQ A I LI J R r) (I s) (LI s)) (hm : ∀ s, (LI s).length = m)
    {fr : Fr} {L : List Ob} {s : σ} {out : Out σ ρ} (h : iterM step s = some out) (hfr : StLe fr L (I s) (LI s)) (hL : L.length ≤ m) :
    AW z P N (.loop c) (OutQ A J R out) fr L := by
  obtain ⟨k, hk⟩ := iterM_some h
  refine aw_loop (σ := { q : Nat × σ // iterN step q.1 q.2 = some out }) (fun q => I q.1.2) (fun q => LI q.1.2) (fun _ => True)
    (fun _ => OutQ A J R out) (fun q => q.1.1) ?_ ⟨(k, s), hk⟩ trivial hfr (by rw [hm]; exact hL) (fun _ _ _ h => h)
  rintro ⟨⟨k, s⟩, hr⟩ _
  simp only at hr ⊢
  cases k with
  | zero => cases hr
  | succ k =>
    simp only [iterN] at hr
    cases hb : step s with
    | none => simp [hb] at hr
    | some r =>
      refine aw_mono (hround s r hb) fun e fr L hq => ?_
      cases e with
      | normal =>
        obtain ⟨s', rfl, hst⟩ := hq
        simp only [hb] at hr
        exact ⟨⟨(k, s'), hr⟩, trivial, hst, by simp, by rw [hm, hm], fun _ _ _ h => h⟩
      | exit j =>
        obtain ⟨h1, s', rfl, h3⟩ := hq
        simp only [hb, Option.some.injEq] at hr
        subst hr
        exact ⟨h1, s', rfl, h3⟩
      | ret =>
        obtain ⟨x, rfl, h3⟩ := hq
        simp only [hb, Option.some.injEq] at hr
        subst hr
        exact ⟨x, rfl, h3⟩
      | goto l => exact hq.elim
      | panic ch => exact hq.elim
      | outgrown => exact hq.elim
end
end Go.TA
namespace Go.TA
open Go
variable {z : Option Nat}
section
variable {P : Program} {N : Nat} {Q : Post} {fr : Fr} {L : List Ob} {x y : Code} {cs : List Code}
/-- Objects that were not there at the start may be forgotten behind a piece of code. -/
theorem aw_forget {c : Code} {Q0 : Post} (h : AW z P N c Q0 fr L) (hq : ∀ e fr1 L1, L.length ≤ L1.length → Q0 e fr1 L1 → ∃ fr2 L2, StLe fr1 L1 fr2 L2 ∧ L.length ≤ L2.length ∧ Q e fr2 L2) : AW z P N c Q fr L := by
  intro zn df X ms w a hr hf hN hd
  refine wpIn_mono (h zn df X ms w a hr hf hN hd) ?_
  rintro e a1 w1 ⟨ms1, fr1, L1, q1, r1, e1, c1, f1, n1, d1⟩
  obtain ⟨fr2, L2, st, hl, q2⟩ := hq e fr1 L1 c1.L q1
  obtain ⟨ms2, k1, k2, k3, k4⟩ := st.rel hl r1 e1 c1 f1
  exact ⟨ms2, fr2, L2, q2, k1, k2, k3, k4, n1, d1⟩
/-! ## saying less of slots -/
theorem frLe_nil : FrLe fr [] := fun x hx => by cases hx
theorem frLe_cons {s : Nat} {v w : AV} {r : Fr} (hm : (s, v) ∈ fr) (h : LeV v w) (hr : FrLe fr r) : FrLe fr ((s, w) :: r) := fun x hx => by
  rcases List.mem_cons.1 hx with rfl | hx
  · exact ⟨v, hm, h⟩
  · exact hr x hx
theorem LeV.of_eq {v w : AV} (h : v = w) : LeV v w := h ▸ LeV.refl _
theorem leV_sl {n m : Nat} {f g : Nat → DV} (hn : n = m) (h : ∀ i, i < n → f i = g i) : LeV (.d (.sl n f)) (.d (.sl m g)) := by
  subst hn
  intro c u hu
  cases hu with
  | agg _ _ ha => cases ha
  | one _ _ _ hx =>
    refine .one _ _ rfl ?_
    cases hx with
    | d _ _ hx =>
      refine .d _ _ ?_
      cases hx with
      | slNil => exact .slNil _
      | slEmpty => exact .slEmpty _ _ _
      | sl _ _ b off cap sz arr cs h1 h2 hb hh hl hc => exact .sl _ _ b off cap sz arr cs h1 h2 hb (fun i hi => by rw [← h i hi]; exact hh i hi) hl hc
theorem leV_full {n m : Nat} {f g : Nat → DV} (hn : n = m) (h : ∀ i, i < n → f i = g i) : LeV (.full n f) (.d (.sl m g)) := by
  intro c u hu
  refine leV_sl hn h c u ?_
  cases hu with
  | agg _ _ ha => cases ha
  | one _ _ _ hx =>
    cases hx with
    | full _ _ a hx => exact .one _ _ rfl (.d _ _ hx)
end
end Go.TA
namespace Go.TA
open Go
variable {z : Option Nat}
def outM {σ ρ α : Type} (x : Option (Out σ ρ)) (k : σ → Option α) (kr : ρ → Option α) : Option α :=
  match x with
  | none => none
  | some (.next s) => k s
  | some (.ret r) => kr r
def outK {σ ρ α : Type} (k : σ → Option α) (kr : ρ → Option α) : Out σ ρ → Option α
  | .next s => k s
  | .ret r => kr r
theorem outM_some {σ ρ α : Type} {x : Option (Out σ ρ)} {k : σ → Option α} {kr : ρ → Option α} {r : α} (h : outM x k kr = some r) : ∃ o, x = some o ∧ outK k kr o = some r := by
  unfold outM at h
  split at h
  · cases h
  · exact ⟨_, rfl, h⟩
  · exact ⟨_, rfl, h⟩
open Classical in
noncomputable def optD {α : Type} (gs : List Prop) (k : Option α) (d : α) : Option α := if AllP gs then k else some d
theorem optD_some {α : Type} {gs : List Prop} {k : Option α} {d r : α} (h : optD gs k d = some r) (hg : AllP gs) : k = some r := by
  unfold optD at h
  rwa [if_pos hg] at h
theorem optD_neg {α : Type} {gs : List Prop} {k : Option α} {d r : α} (h : optD gs k d = some r) (hg : ¬ AllP gs) : d = r := by
  unfold optD at h
  rw [if_neg hg] at h
  exact Option.some.inj h
/-- What a function hands back. -/
def FR (P : Program) (fn : Func) (v : AV) (L' : List Ob) (fr : Fr) (L : List Ob) : Prop := ∃ v1 C J, resV P fn fr L = some (v1, C) ∧ AllP C ∧ LeV v1 v ∧ L = L' ++ J
def FQ (P : Program) (fn : Func) (v : AV) (L' : List Ob) : Post := fun e fr L => (e = .normal ∨ e = .ret) ∧ FR P fn v L' fr L
def LsOk (n : Nat) : List Ob → Prop
  | [] => True
  | x :: r => x.lt n ∧ LsOk n r
theorem lsOk {n : Nat} : ∀ {L : List Ob}, LsOk n L → ∀ (o : Nat) (obj : Ob), L[o]? = some obj → obj.lt n
  | [], _, o, obj, h => by simp at h
  | x :: r, hk, 0, obj, h => by simp at h; subst h; exact hk.1
  | x :: r, hk, o + 1, obj, h => lsOk hk.2 o obj (by simpa using h)
/-! ## lists and arrays as data -/
def eL {α : Type} [Inhabited α] (e : α → DV) (l : List α) : DV := .sl l.length fun j => e (l.getD j default)
def eA {α : Type} (sz n : Nat) (e : α → DV) (f : Nat → α) : DV := .arr sz n fun j => e (f j)
def eS {α : Type} [Inhabited α] (sz : Nat) (e : α → DV) (l : List α) : Ob := .seq sz l.length fun j => .d (e (l.getD j default))
section
variable {α : Type} [Inhabited α] {e : α → DV} {l : List α}
theorem leV_nil {f : Nat → DV} : LeV (.full 0 f) (.d (eL e ([] : List α))) := leV_full rfl fun i hi => by omega
theorem leV_take {h : Nat} (hh : h ≤ l.length) : LeV (.d (.sl (h - 0) fun j => e (l.getD j default))) (.d (eL e (l.take h))) :=
  leV_sl (by simp; omega) fun i hi => by
    have : (l.take h).getD i default = l.getD i default := by
      simp only [List.getD_eq_getElem?_getD]
      rw [List.getElem?_take_of_lt (by omega)]
    rw [this]
theorem leV_drop {n : Nat} : LeV (.d (.sl (l.length - n) fun j => e (l.getD (n + j) default))) (.d (eL e (l.drop n))) :=
  leV_sl (by simp) fun i _ => by
    have : (l.drop n).getD i default = l.getD (n + i) default := by simp [List.getD_eq_getElem?_getD]
    rw [this]
theorem leV_lit (e : α → DV) (l : List α) : LeV (.d (.sl l.length (listF (.b false) (l.map e)))) (.d (eL e l)) :=
  leV_sl rfl fun i hi => by
    simp [listF, List.getD_eq_getElem?_getD, List.getElem?_eq_getElem hi]
end
theorem wrap_i64 {n : Int} (h1 : -(2 ^ 63) ≤ n) (h2 : n < 2 ^ 63) : IntKind.i64.wrap n = n := by
  have e1 : IntKind.i64.bits = 64 := rfl
  have e2 : IntKind.i64.signed = true := rfl
  simp only [IntKind.wrap, e1, e2, Bool.true_and, decide_eq_true_eq]
  split <;> omega
theorem wrap_succ {i : Nat} (h : i + 1 < 2 ^ 63) : IntKind.i64.wrap ((i : Int) + 1) = ((i + 1 : Nat) : Int) := by
  rw [wrap_i64 (by omega) (by omega)]
  omega
/-! ## data said otherwise -/
def DLe (x y : DV) : Prop := ∀ M cs, DV.Is M x cs → DV.Is M y cs
def DLeL (xs ys : List DV) : Prop := ∀ M cs, DV.IsL M xs cs → DV.IsL M ys cs
theorem DLe.refl (x : DV) : DLe x x := fun _ _ h => h
theorem DLe.sl0 {f g : Nat → DV} : DLe (.sl 0 f) (.sl 0 g) := fun _ _ h => by
  cases h with
  | slNil => exact .slNil _
  | slEmpty => exact .slEmpty _ _ _
  | sl _ _ b off cap sz arr cs h1 h2 hb hh hl hc => exact .sl _ _ b off cap sz arr cs h1 h2 hb (fun i hi => by omega) hl hc
theorem DLe.agg {xs ys : List DV} (h : DLeL xs ys) : DLe (.agg xs) (.agg ys) := fun M cs hx => by
  cases hx with
  | agg _ _ hx => exact .agg _ _ (h M cs hx)
theorem DLeL.nil : DLeL [] [] := fun _ _ h => h
theorem DLeL.cons {x y : DV} {xs ys : List DV} (h : DLe x y) (ht : DLeL xs ys) : DLeL (x :: xs) (y :: ys) := fun M cs hx => by
  cases hx with
  | cons _ _ c cs h1 h2 => exact .cons _ _ c cs (h M c h1) (ht M cs h2)
theorem oLe_box {x y : DV} (h : DLe x y) : OLe (.box (.d x)) (.box (.d y)) where
  kind := rfl
  stamp := rfl
  is := fun c w o hx => by
    rcases hx with hx | ⟨b, tc, arr, e, h1, h2, h3⟩
    · exact .inl hx
    · refine .inr ⟨b, tc, arr, e, h1, h2, ?_⟩
      cases h3 with
      | d _ _ h3 => exact .d _ _ (h _ _ h3)
end Go.TA
namespace Go.TA
open Go
variable {z : Option Nat}
/-! ## a row that has grown becomes data; a row that is not there yet -/
section
variable {P : Program} {N : Nat} {Q : Post} {fr fr' : Fr} {L : List Ob}
theorem Rel.freeze {X : Nat → Prop} {ms : Blocks} {w : World} (h : Rel X ms L w) {o : Nat} (ho : o < L.length) :
    Rel X (ms.set o none) (L.set o .dead) w ∧ Ext ms w (ms.set o none) w ∧ (cxOf X ms L w).le (cxOf X (ms.set o none) (L.set o .dead) w) := by
  have hlt' : o < ms.length := by rw [h.len]; exact ho
  have hget : ∀ i b tc, (ms.set o none)[i]? = some (some (b, tc)) → i ≠ o ∧ ms[i]? = some (some (b, tc)) := fun i b tc e => by
    by_cases hio : o = i
    · subst hio
      rw [List.getElem?_set_self hlt'] at e
      cases e
    · rw [List.getElem?_set_ne hio] at e
      exact ⟨fun e' => hio e'.symm, e⟩
  have he : Ext ms w (ms.set o none) w := ⟨Nat.le_refl _, fun b _ hn => ⟨rfl, fun ⟨i, tc, e⟩ => hn ⟨i, tc, (hget i b tc e).2⟩⟩, SameOut.refl w⟩
  have hr := h.step (ms' := ms.set o none) (L' := L.set o .dead) (w' := w) he (by simp [h.len]) (fun b ⟨i, tc, e⟩ => h.lt b ⟨i, tc, (hget i b tc e).2⟩)
    (fun i j b t1 t2 e1 e2 => h.inj i j b t1 t2 (hget i b t1 e1).2 (hget j b t2 e2).2) (by simp)
    (fun i x hi hl hs => by
      by_cases hio : o = i
      · subst hio
        rw [List.getElem?_set_self ho] at hl
        cases hl
        exact absurd rfl hs
      · rw [List.getElem?_set_ne hio] at hl
        exact ⟨x, hl, rfl, fun s hs => ⟨s, hs, Nat.le_refl _⟩, fun _ => by rw [List.getElem?_set_ne hio]⟩)
    (fun i x hl => by
      by_cases hio : o = i
      · subst hio
        rw [List.getElem?_set_self ho] at hl
        cases hl
        exact .inr fun _ => trivial
      · rw [List.getElem?_set_ne hio] at hl
        exact .inl ⟨hl, by rw [List.getElem?_set_ne hio], fun _ _ _ => rfl⟩)
  exact ⟨hr.1, he, hr.2⟩
end
section
variable {fr r : Fr} {o n : Nat} {g : Nat → DV}
end
end Go.TA
namespace Go.TA
open Go
variable {z : Option Nat}
/-! ## What is known is said anew: a row becomes data, a nil slice a row -/
def TrV (H : Cx → Cx → Prop) (v v' : AV) : Prop := ∀ c c' : Cx, c.le c' → H c c' → ∀ cs, AV.Is c v cs → AV.Is c' v' cs
def TrL (H : Cx → Cx → Prop) (v v' : List AV) : Prop := ∀ c c' : Cx, c.le c' → H c c' → ∀ cs, AV.IsL c v cs → AV.IsL c' v' cs
/-- The same of slots. -/
def TrS (H : Cx → Cx → Prop) (v v' : AV) : Prop := ∀ c c' : Cx, c.le c' → H c c' → ∀ u, AV.IsV c v u → AV.IsV c' v' u
/-- The row o is data: any part of it that begins where it begins. -/
def FzH (o n : Nat) (g : Nat → DV) (c c' : Cx) : Prop := ∀ m u, m ≤ n → AV.Is c (.ref o n 0 m) [u] → AV.Is c' (.d (.sl m g)) [u]
/-- A nil slice is a row of its own. -/
def BnH (o : Nat) (c c' : Cx) : Prop := ∀ f u, AV.Is c (.full 0 f) [u] → AV.Is c' (.ref o 0 0 0) [u]
def NoH (_ _ : Cx) : Prop := True
theorem AV.IsL.to_d {c : Cx} : ∀ {xs : List DV} {cs : List Value}, AV.IsL c (xs.map AV.d) cs → DV.IsL c.M xs cs
  | [], _, h => by cases h; exact .nil
  | x :: xs, _, h => by
    cases h with
    | cons _ _ k ks h1 h2 =>
      cases h1 with
      | d _ _ h1 => exact .cons _ _ k ks h1 (AV.IsL.to_d h2)
section
variable {H : Cx → Cx → Prop}
theorem TrV.keep (v : AV) : TrV H v v := fun _ _ hc _ _ h => h.mono hc
theorem TrL.nil : TrL H [] [] := fun _ _ _ _ cs h => by cases h; exact .nil
theorem TrL.cons {x y : AV} {xs ys : List AV} (h : TrV H x y) (ht : TrL H xs ys) : TrL H (x :: xs) (y :: ys) := fun c c' hc hr cs hx => by
  cases hx with
  | cons _ _ k ks h1 h2 => exact .cons _ _ k ks (h c c' hc hr k h1) (ht c c' hc hr ks h2)
theorem TrV.agg {xs ys : List AV} (h : TrL H xs ys) : TrV H (.agg xs) (.agg ys) := fun c c' hc hr cs hx => by
  cases hx with
  | agg _ _ hx => exact .agg _ _ (h c c' hc hr cs hx)
theorem TrV.aggD {xs : List AV} {ys : List DV} (h : TrL H xs (ys.map AV.d)) : TrV H (.agg xs) (.d (.agg ys)) := fun c c' hc hr cs hx => by
  cases hx with
  | agg _ _ hx => exact .d _ _ (.agg _ _ (AV.IsL.to_d (h c c' hc hr cs hx)))
theorem TrV.trans {x y z : AV} (h : TrV H x y) (h' : TrV NoH y z) : TrV H x z := fun c c' hc hr cs hx => h' c' c' (Cx.le.refl _) trivial cs (h c c' hc hr cs hx)
theorem TrV.full {f g : Nat → DV} : TrV H (.full 0 f) (.d (.sl 0 g)) := fun c c' hc _ cs hx => by
  cases hx with
  | full _ _ a hx =>
    refine .d _ _ ?_
    cases hx with
    | slNil => exact .slNil _
    | slEmpty => exact .slEmpty _ _ _
    | sl _ _ b off cap sz arr cs h1 h2 hb h hl hc => exact .slEmpty _ _ _
theorem TrS.keep (v : AV) : TrS H v v := fun _ _ hc _ _ h => h.mono hc
theorem TrS.of {v v' : AV} (ha : v.isAgg = v'.isAgg) (hs : v.isAgg = true ∨ v.solid = true) (h : TrV H v v') : TrS H v v' := fun c c' hc hr u hx => by
  cases hx with
  | agg _ cs h1 h2 => exact .agg _ cs (ha ▸ h1) (h c c' hc hr cs h2)
  | one _ _ h1 h2 => exact .one _ _ (ha ▸ h1) (h c c' hc hr _ h2)
  | tup vs us _ => rcases hs with hs | hs <;> cases hs
  | bot => rcases hs with hs | hs <;> cases hs
theorem TrV.ref {o n m : Nat} {g : Nat → DV} (hm : m ≤ n) : TrV (FzH o n g) (.ref o n 0 m) (.d (.sl m g)) := fun c _ _ hr cs h => by
  have : ∃ u, cs = [u] := by cases h with | ref _ _ _ _ v _ => exact ⟨v, rfl⟩
  obtain ⟨u, rfl⟩ := this
  exact hr m u hm h
theorem TrV.born {o : Nat} {f : Nat → DV} : TrV (BnH o) (.full 0 f) (.ref o 0 0 0) := fun c _ _ hr cs h => by
  have : ∃ u, cs = [u] := by cases h with | full _ _ a _ => exact ⟨_, rfl⟩
  obtain ⟨u, rfl⟩ := this
  exact hr f u h
end
/-- The objects: the o-th is dead, boxes are said anew. -/
inductive TrO (H : Cx → Cx → Prop) (o : Nat) : Nat → List Ob → List Ob → Prop
  | nil (k : Nat) : TrO H o k [] []
  | keep (k : Nat) (x : Ob) (r r' : List Ob) (hk : k ≠ o) (h : TrO H o (k + 1) r r') : TrO H o k (x :: r) (x :: r')
  | box (k : Nat) (x y : AV) (r r' : List Ob) (hk : k ≠ o) (hx : TrV H x y) (h : TrO H o (k + 1) r r') : TrO H o k (.box x :: r) (.box y :: r')
  | here (k : Nat) (x : Ob) (r r' : List Ob) (hk : k = o) (h : TrO H o (k + 1) r r') : TrO H o k (x :: r) (.dead :: r')
theorem TrO.get {H : Cx → Cx → Prop} {o k : Nat} {L L' : List Ob} (h : TrO H o k L L') : L.length = L'.length ∧ ∀ (i : Nat) (y : Ob), L'[i]? = some y →
    (k + i = o ∧ y = .dead) ∨ (k + i ≠ o ∧ ∃ x, L[i]? = some x ∧ (x = y ∨ ∃ a b, x = .box a ∧ y = .box b ∧ TrV H a b)) := by
  induction h with
  | nil k => exact ⟨rfl, fun i y e => by simp at e⟩
  | keep k x r r' hk h ih =>
    refine ⟨by simp [ih.1], fun i y e => ?_⟩
    cases i with
    | zero => simp at e; subst e; exact .inr ⟨by omega, x, rfl, .inl rfl⟩
    | succ i =>
      rcases ih.2 i y (by simpa using e) with ⟨h1, h2⟩ | ⟨h1, h2⟩
      · exact .inl ⟨by omega, h2⟩
      · exact .inr ⟨by omega, by simpa using h2⟩
  | box k x z r r' hk hx h ih =>
    refine ⟨by simp [ih.1], fun i y e => ?_⟩
    cases i with
    | zero => simp at e; subst e; exact .inr ⟨by omega, _, rfl, .inr ⟨x, z, rfl, rfl, hx⟩⟩
    | succ i =>
      rcases ih.2 i y (by simpa using e) with ⟨h1, h2⟩ | ⟨h1, h2⟩
      · exact .inl ⟨by omega, h2⟩
      · exact .inr ⟨by omega, by simpa using h2⟩
  | here k x r r' hk h ih =>
    refine ⟨by simp [ih.1], fun i y e => ?_⟩
    cases i with
    | zero => simp at e; subst e; exact .inl ⟨by omega, rfl⟩
    | succ i =>
      rcases ih.2 i y (by simpa using e) with ⟨h1, h2⟩ | ⟨h1, h2⟩
      · exact .inl ⟨by omega, h2⟩
      · exact .inr ⟨by omega, by simpa using h2⟩
theorem ref_dataG {X : Nat → Prop} {ms : Blocks} {L L' : List Ob} {w : World} (h : Rel X ms L w) {o sz n : Nat} {g : Nat → DV} (hL : L[o]? = some (.seq sz n fun j => .d (g j))) (hn : n < 2 ^ 63) :
    FzH o n g (cxOf X ms L w) (cxOf X (ms.set o none) L' w) := by
  intro m u hmn h1
  have ho : o < L.length := by
    rcases Nat.lt_or_ge o L.length with h' | h'
    · exact h'
    · rw [List.getElem?_eq_none h'] at hL; cases hL
  obtain ⟨_, _, hc⟩ := h.freeze ho
  cases h1 with
  | ref _ _ _ _ _ hr =>
  obtain ⟨_, _, _, h3⟩ := hr
  obtain ⟨_, h4⟩ := h3 sz _ hL
  refine .d _ _ ?_
  rcases h4 with ⟨h5, a, rfl⟩ | ⟨h5, _⟩ | ⟨b, tc, h5, h6, rfl⟩
  · have hob := h.obs o _ hL
    rcases hob with ⟨_, h0⟩ | ⟨b, tc, _, _, _, h6, _⟩
    · obtain rfl : m = 0 := by omega
      cases a with
      | none => exact .slNil _
      | some a => exact .slEmpty _ _ _
    · have := h5.symm.trans h6; cases this
  · exact absurd rfl h5
  · have hob := h.obs o _ hL
    rcases hob with ⟨h0, _⟩ | ⟨b', tc', arr, e, cs, k1, k2, k3, k4, k5, k6, k7⟩
    · have := h0.symm.trans h5; cases this
    · have e1 := k1.symm.trans h5
      cases e1
      have hlt' : o < ms.length := by rw [h.len]; exact ho
      have hb : memOf X (ms.set o none) w b = some arr := memOf_intro (h.lt b ⟨o, tc, h5⟩).2 (fun ⟨i, t, ei⟩ => by
        by_cases hio : o = i
        · subst hio
          rw [List.getElem?_set_self hlt'] at ei
          cases ei
        · rw [List.getElem?_set_ne hio] at ei
          exact hio (h.inj o i b tc t h5 ei)) k2
      refine .sl m g b (0 * sz) (tc - 0) sz arr cs (by omega) (by omega) hb (fun i hi => ?_) (fun i hi => k6 i (by omega)) (fun i hi j hj => ?_)
      · cases k5 i (by omega) with
        | d _ _ hx => exact hx.mono hc.M
      · rw [Nat.zero_mul, Nat.zero_add]; exact k7 i (by omega) j hj
/-- A change of what is said, the world as it is. -/
def Shifts (H : Cx → Cx → Prop) (L L' : List Ob) : Prop := ∀ (X : Nat → Prop) (ms : Blocks) (w : World), Rel X ms L w →
  ∃ ms', Rel X ms' L' w ∧ Ext ms w ms' w ∧ (cxOf X ms L w).le (cxOf X ms' L' w) ∧ H (cxOf X ms L w) (cxOf X ms' L' w)
theorem shift_freeze {o n sz : Nat} {g : Nat → DV} {L L' : List Ob} (hL : L[o]? = some (.seq sz n fun j => .d (g j))) (hn : n < 2 ^ 63) (hO : TrO (FzH o n g) o 0 L L') : Shifts (FzH o n g) L L' := by
  intro X ms w h
  have ho : o < L.length := by
    rcases Nat.lt_or_ge o L.length with h' | h'
    · exact h'
    · rw [List.getElem?_eq_none h'] at hL; cases hL
  obtain ⟨r1, e1, _⟩ := h.freeze ho
  obtain ⟨hlen, hget⟩ := hO.get
  have hm : ∀ i, i ≠ o → (ms.set o none)[i]? = ms[i]? := fun i hi => by rw [List.getElem?_set_ne (fun e => hi e.symm)]
  have hr := h.step (ms' := ms.set o none) (L' := L') (w' := w) e1 (by simp [h.len, hlen]) r1.lt r1.inj (by omega)
    (fun i y hi hl hs => by
      rcases hget i y hl with ⟨_, rfl⟩ | ⟨hk, x, hx, rfl | ⟨a, b, rfl, rfl, _⟩⟩
      · exact absurd rfl hs
      · exact ⟨x, hx, rfl, fun s hs => ⟨s, hs, Nat.le_refl _⟩, fun _ => hm i (by omega)⟩
      · exact ⟨_, hx, rfl, fun s hs => ⟨s, hs, Nat.le_refl _⟩, fun _ => hm i (by omega)⟩)
    (fun i y hl => by
      rcases hget i y hl with ⟨_, rfl⟩ | ⟨hk, x, hx, rfl | ⟨a, b, rfl, rfl, hfz⟩⟩
      · exact .inr fun _ => trivial
      · exact .inl ⟨hx, hm i (by omega), fun _ _ _ => rfl⟩
      · refine .inr fun hc => ?_
        rcases h.obs i _ hx with h1 | ⟨bb, tc, arr, e, h1, h2, h3⟩
        · exact .inl ((hm i (by omega)).trans h1)
        · exact .inr ⟨bb, tc, arr, e, (hm i (by omega)).trans h1, h2, hfz _ _ hc (ref_dataG h hL hn) _ h3⟩)
  exact ⟨_, hr.1, e1, hr.2, ref_dataG h hL hn⟩
theorem shift_kill {o : Nat} {L : List Ob} (ho : o < L.length) : Shifts NoH L (L.set o .dead) := fun _ _ _ h => by
  obtain ⟨r1, e1, c1⟩ := h.freeze ho
  exact ⟨_, r1, e1, c1, trivial⟩
theorem shift_unb {L : List Ob} : Shifts NoH L (L ++ [.unb]) := fun X ms w h => by
  obtain ⟨r1, e1, c1⟩ := h.push (Grow.refl w) (m := none) (obj := .unb) (fun b tc e => by cases e) (fun _ => by simp [ObIs, cxOf, ← h.len])
  exact ⟨_, r1, e1, c1, trivial⟩
/-- A row that is not yet born is added, then boxes are said anew. -/
theorem shift_born {sz : Nat} {f : Nat → AV} {L L' : List Ob} (hO : TrO (BnH L.length) L.length 0 L L') : Shifts (BnH L.length) L (L' ++ [.seq sz 0 f]) := by
  intro X ms w h
  obtain ⟨hlen, hget⟩ := hO.get
  obtain ⟨r1, e1, c1⟩ := h.push (Grow.refl w) (m := none) (obj := .seq sz 0 f) (fun b tc e => by cases e) (fun _ => .inl ⟨by simp [cxOf, ← h.len], rfl⟩)
  have hH : ∀ L'' : List Ob, L''.length = L.length → BnH L.length (cxOf X ms L w) (cxOf X (ms ++ [none]) (L'' ++ [.seq sz 0 f]) w) := fun L'' hl g u hu => by
    cases hu with
    | full _ _ ad hx =>
      refine .ref _ _ _ _ _ ⟨by simp [cxOf, hl], ⟨ad, 0, rfl⟩, fun obj s e1 e2 => by omega, fun sz' f' e => ?_⟩
      exact ⟨by omega, .inl ⟨by simp [cxOf, ← h.len], ad, rfl⟩⟩
  have hms : ∀ i, i < L.length → (ms ++ [none])[i]? = ms[i]? := fun i hi => by rw [List.getElem?_append_left (by rw [h.len]; exact hi)]
  have hltL : ∀ {i : Nat} {x : Ob}, L[i]? = some x → i < L.length := fun {i x} e => by
    rcases Nat.lt_or_ge i L.length with h' | h'
    · exact h'
    · rw [List.getElem?_eq_none h'] at e; cases e
  have hr := h.step (ms' := ms ++ [none]) (L' := L' ++ [.seq sz 0 f]) (w' := w) e1 (by simp [h.len, hlen]) r1.lt r1.inj (by simp; omega)
    (fun i y hi hl hs => by
      rw [List.getElem?_append_left (by omega)] at hl
      rcases hget i y hl with ⟨_, rfl⟩ | ⟨hk, x, hx, rfl | ⟨a, b, rfl, rfl, _⟩⟩
      · exact absurd rfl hs
      · exact ⟨x, hx, rfl, fun s hs => ⟨s, hs, Nat.le_refl _⟩, fun _ => hms i hi⟩
      · exact ⟨_, hx, rfl, fun s hs => ⟨s, hs, Nat.le_refl _⟩, fun _ => hms i hi⟩)
    (fun i y hl => by
      rcases getElem?_snoc hl with hl | ⟨rfl, rfl⟩
      · rcases hget i y hl with ⟨_, rfl⟩ | ⟨hk, x, hx, rfl | ⟨a, b, rfl, rfl, hfz⟩⟩
        · exact .inr fun _ => trivial
        · exact .inl ⟨hx, hms i (hltL hx), fun _ _ _ => rfl⟩
        · refine .inr fun hc => ?_
          rcases h.obs i _ hx with h1 | ⟨bb, tc, arr, e, h1, h2, h3⟩
          · exact .inl ((hms i (hltL hx)).trans h1)
          · exact .inr ⟨bb, tc, arr, e, (hms i (hltL hx)).trans h1, h2, hfz _ _ hc (hH L' hlen.symm) _ h3⟩
      · have hml : ms.length = L'.length := by rw [h.len, hlen]
        exact .inr fun _ => .inl ⟨by simp [cxOf, ← hml], rfl⟩)
  exact ⟨_, hr.1, e1, hr.2, hH L' hlen.symm⟩
/-- Boxes are said anew. -/
theorem shift_weak {L L' : List Ob} (hO : TrO NoH L.length 0 L L') : Shifts NoH L L' := by
  intro X ms w h
  obtain ⟨hlen, hget⟩ := hO.get
  have hr := h.step (ms' := ms) (L' := L') (w' := w) (Ext.refl _ _) (by simp [h.len, hlen]) h.lt h.inj (by omega)
    (fun i y hi hl hs => by
      rcases hget i y hl with ⟨_, rfl⟩ | ⟨hk, x, hx, rfl | ⟨a, b, rfl, rfl, _⟩⟩
      · exact absurd rfl hs
      · exact ⟨x, hx, rfl, fun s hs => ⟨s, hs, Nat.le_refl _⟩, fun _ => rfl⟩
      · exact ⟨_, hx, rfl, fun s hs => ⟨s, hs, Nat.le_refl _⟩, fun _ => rfl⟩)
    (fun i y hl => by
      rcases hget i y hl with ⟨_, rfl⟩ | ⟨hk, x, hx, rfl | ⟨a, b, rfl, rfl, hfz⟩⟩
      · exact .inr fun _ => trivial
      · exact .inl ⟨hx, rfl, fun _ _ _ => rfl⟩
      · refine .inr fun hc => ?_
        rcases h.obs i _ hx with h1 | ⟨bb, tc, arr, e, h1, h2, h3⟩
        · exact .inl h1
        · exact .inr ⟨bb, tc, arr, e, h1, h2, hfz _ _ hc trivial _ h3⟩)
  exact ⟨_, hr.1, Ext.refl _ _, hr.2, trivial⟩
section
variable {P : Program} {N : Nat} {Q : Post} {fr fr' fr1 fr2 : Fr} {L L' L1 L2 : List Ob} {c : Code} {cs : List Code} {H : Cx → Cx → Prop}
def TrF (H : Cx → Cx → Prop) (fr fr' : Fr) : Prop := ∀ x ∈ fr', ∃ v, (x.1, v) ∈ fr ∧ TrS H v x.2
theorem trF_nil : TrF H fr [] := fun x hx => by cases hx
theorem trF_at {k s : Nat} {v w : AV} {r : Fr} (hm : fr[k]? = some (s, v)) (h : TrS H v w) (hr : TrF H fr r) : TrF H fr ((s, w) :: r) := fun x hx => by
  rcases List.mem_cons.1 hx with rfl | hx
  · exact ⟨v, List.mem_of_getElem? hm, h⟩
  · exact hr x hx
end
end Go.TA
namespace Go.TA
open Go
theorem catF_eq {α : Type} (n : Nat) (f g : Nat → α) (i : Nat) : catF n f g i = if i < n then f i else g (i - n) := by
  cases n with
  | zero => simp [catF]
  | succ n => rfl
theorem oLe_seq {sz n m : Nat} {f g : Nat → AV} (hn : n = m) (h : ∀ i, i < n → f i = g i) : OLe (.seq sz n f) (.seq sz m g) where
  kind := rfl
  stamp := by subst hn; rfl
  is := fun c w o hx => by
    subst hn
    rcases hx with hx | ⟨b, tc, arr, e, cs, h1, h2, h3, h4, h5, h6, h7⟩
    · exact .inl hx
    · exact .inr ⟨b, tc, arr, e, cs, h1, h2, h3, h4, fun i hi => by rw [← h i hi]; exact h5 i hi, h6, h7⟩
section
variable {α : Type} [Inhabited α] {e : α → DV} {l x : List α}
theorem getD_app {i : Nat} : (l ++ x).getD i default = if i < l.length then l.getD i default else x.getD (i - l.length) default := by
  simp only [List.getD_eq_getElem?_getD]
  split
  · rw [List.getElem?_append_left (by assumption)]
  · rw [List.getElem?_append_right (by omega)]
theorem oLe_app {sz : Nat} : OLe (.seq sz (l.length + x.length) (catF l.length (fun j => .d (e (l.getD j default))) (fun j => .d (e (x.getD j default))))) (eS sz e (l ++ x)) :=
  oLe_seq (by simp) fun i _ => by
    rw [catF_eq, getD_app]
    split <;> rfl
theorem leV_app0 : LeV (.d (.sl (0 + x.length) fun j => e (x.getD j default))) (.d (eL e x)) := leV_sl (by omega) fun _ _ => rfl
end
theorem leV_app {α : Type} {l x : List α} {o : Nat} : LeV (.ref o (l.length + x.length) 0 (l.length + x.length)) (.ref o (l ++ x).length 0 (l ++ x).length) := by
  rw [List.length_append]
  exact LeV.refl _
theorem leV_dle {x y : DV} (ha : (AV.d x).isAgg = (AV.d y).isAgg) (h : DLe x y) : LeV (.d x) (.d y) := fun c u hu => by
  cases hu with
  | agg _ cs h1 h2 =>
    cases h2 with
    | d _ _ h2 => exact .agg _ cs (ha ▸ h1) (.d _ _ (h _ _ h2))
  | one _ _ h1 h2 =>
    cases h2 with
    | d _ _ h2 => exact .one _ _ (ha ▸ h1) (.d _ _ (h _ _ h2))
theorem oLe_set {α : Type} [Inhabited α] {e : α → DV} {sz i : Nat} {l : List α} {x : α} {f : Nat → AV} (hf : ∀ j, f j = if j = i then .d (e x) else .d (e (l.getD j default))) : OLe (.seq sz l.length f) (eS sz e (l.set i x)) :=
  oLe_seq (by simp) fun j hj => by
    rw [hf]
    simp only [List.getD_eq_getElem?_getD]
    by_cases h : j = i
    · subst h
      rw [if_pos rfl, List.getElem?_set_self hj]
      rfl
    · rw [if_neg h, List.getElem?_set_ne (fun e => h e.symm)]
section
variable {α : Type} [Inhabited α] {e : α → DV} {l : List α} {H : Cx → Cx → Prop}
end
theorem trF_refl {H : Cx → Cx → Prop} (fr : Fr) : TrF H fr fr := fun x hx => ⟨x.2, hx, TrS.keep _⟩
def LeVs (vs ws : List AV) : Prop := ∀ c us, AV.IsVs c vs us → AV.IsVs c ws us
theorem LeVs.nil : LeVs [] [] := fun _ _ h => h
theorem LeVs.cons {v w : AV} {vs ws : List AV} (h : LeV v w) (ht : LeVs vs ws) : LeVs (v :: vs) (w :: ws) := fun c us hu => by
  cases hu with
  | cons _ _ u us h1 h2 => exact .cons _ _ u us (h c u h1) (ht c us h2)
theorem LeV.tup {vs ws : List AV} (h : LeVs vs ws) : LeV (.tup vs) (.tup ws) := fun c u hu => by
  cases hu with
  | tup _ us hu => exact .tup _ us (h c us hu)
  | agg _ _ ha _ => cases ha
  | one _ _ _ hx => cases hx
end Go.TA
namespace Go.TA
open Go Go.ChangeShapes Go.WideShapes Go.ChangeAt Go.RowKit
/-! ## From the reading of arguments to data -/
def noX : Nat → Prop := fun _ => False
theorem rel_start {W : World} (hg : GlobOk (memOf noX [] W)) : Rel noX [] [] W :=
  ⟨rfl, fun b ⟨o, tc, h⟩ => by simp at h, fun b h => h.elim, fun o o' b tc tc' h => by simp at h, fun o obj h => by simp at h, hg⟩
noncomputable def cx0 (W : World) : Cx := cxOf noX [] [] W
theorem mem0 {W : World} {b : Nat} {arr : Array Value} {e : TypeId} {fz : Nat × Nat} (h : W.heap[b]? = some (.cells arr e fz)) : (cx0 W).M b = some arr :=
  memOf_intro (fun h => h) (fun ⟨o, tc, h⟩ => by simp at h) h
theorem cell_heap {W : World} {a : Addr} {v : Value} (h : W.cell? a = some v) : a.spot = none ∧ ∃ c e fr, W.heap[a.block]? = some (.cells c e fr) ∧ c[a.off]? = some v := by
  have hs := World.cell?_spot h
  obtain ⟨b, off, sp⟩ := a
  simp only at hs
  subst hs
  exact ⟨rfl, Go.Sort.cells_of_cell? h⟩
section
variable {H : Type} {enc : TypeId × Value → H} {P : Program} {W : World} {base : Nat} {spare : Nat → Bool} {held : Bool}
theorem int_read {t : TypeId} {k : IntKind} {r : Reach} {b0 : Nat} {v : Value} {d : DataW H} {ps : List MemPlace} (ht : P.underlying t = some (.int k)) (hval : Value.okWide P W r b0 t v)
    (hd : DataW.Trod enc P W base spare held t v d ps) : ∃ n : Int, AV.IsV (cx0 W) (.d (.i k n)) v ∧ (Lit.int k n).wf = true := by
  obtain ⟨n, rfl, _, _, hw⟩ := open_int ht hval hd
  exact ⟨n, mk_i k n, hw⟩
end
/-- The call, in the row's words: nothing that was there has changed, and it returns true. -/
theorem calls_true {P : Program} {f : FuncId} {as : List AV} {us : List Value} {W : World} (h : CallOk P f as [] (.d (.b true)) []) (hg : GlobOk (memOf noX [] W)) (hu : AV.IsVs (cx0 W) as us) :
    Calls P f us.toArray W fun e W' => e = .returned (.bool true) ∧ Below W.heap.size W W' := by
  refine (h noX [] W us (rel_start hg) hu).mono fun e W' ⟨u, ms', h1, h2, h3, h4, h5⟩ => ?_
  refine ⟨by rw [h1, IsV.b h5], h3.out.os, h3.out.tape, h3.out.output, h3.size, fun k hk => (h3.keep k hk (fun ⟨o, tc, e⟩ => by simp at e)).1⟩
end Go.TA
namespace Go.TA
open Go Go.ChangeShapes Go.WideShapes Go.ChangeAt Go.RowKit
/-! ## What an argument's cells are, by its type -/
section
variable {H : Type} (enc : TypeId × Value → H) (P : Program) (W : World) (base : Nat) (spare : Nat → Bool) (held : Bool)
def Reads (t : TypeId) (sz : Nat) {α : Type} (e : α → DV) (ok : α → Prop) : Prop :=
  ∀ (fuel : Nat) (cs : List Value) (x : DataW H × List MemPlace), DataW.trod enc P W base spare held fuel t cs = some x → ∃ a, DV.Is (cx0 W).M (e a) cs ∧ cs.length = sz ∧ ok a
def ReadsL (fs : List Field) (off total : Nat) (Q : List DV → Prop) : Prop :=
  ∀ cs : List Value, cs.length = total → (∀ f ∈ fs, ∃ fuel x, DataW.trod enc P W base spare held fuel f.type ((cs.drop f.offset).take (P.cellsOf f.type)) = some x) → ∃ ds, DV.IsL (cx0 W).M ds (cs.drop off) ∧ Q ds
end
section
variable {H : Type} {enc : TypeId × Value → H} {P : Program} {W : World} {base : Nat} {spare : Nat → Bool} {held : Bool}
theorem reads_int {t : TypeId} {k : IntKind} (ht : P.underlying t = some (.int k)) : Reads enc P W base spare held t 1 (DV.i k) (fun n => (Lit.int k n).wf = true) := fun fuel cs x h => by
  obtain ⟨n, rfl, _, hw⟩ := DataW.trod_int ht h
  exact ⟨n, .i k n, rfl, hw⟩
theorem reads_bool {t : TypeId} (ht : P.underlying t = some .bool) : Reads enc P W base spare held t 1 DV.b (fun _ => True) := fun fuel cs x h => by
  obtain ⟨n, rfl, _⟩ := DataW.trod_bool ht h
  exact ⟨n, .b n, rfl, trivial⟩
theorem reads_str {t : TypeId} (ht : P.underlying t = some .string) : Reads enc P W base spare held t 1 DV.str (fun l => l.length ≤ maxLen) := fun fuel cs x h => by
  obtain ⟨s, rfl, _, hw⟩ := DataW.trod_string ht h
  refine ⟨s.data.toList, ?_, rfl, by simpa using hw⟩
  have : s = ⟨s.data.toList.toArray⟩ := by simp
  rw [this]
  exact .str _
theorem reads_slice {t e : TypeId} {sz : Nat} {α : Type} [Inhabited α] {f : α → DV} {ok : α → Prop} (ht : P.underlying t = some (.slice e)) (hc : P.cellsOf e = sz) (hpos : 0 < sz) (h : Reads enc P W base spare held e sz f ok) :
    Reads enc P W base spare held t 1 (eL f) (fun l => l.length ≤ maxLen ∧ ∀ a ∈ l, ok a) := fun fuel cs x hx => by
  rcases Deep.open_slice ht hx with ⟨rfl, _⟩ | ⟨a, len, cap, m, n, D, Pl, rfl, _, hl, hm, hmm, _, hel⟩
  · exact ⟨[], .slNil _, rfl, by simp, fun a ha => by cases ha⟩
  · have hlm : len ≤ m := by rw [hmm]; split <;> omega
    obtain ⟨A, hA⟩ := Deep.choose_lt (α := α × List Value) (n := len) (p := fun i y => W.cells? base (a.add (i * P.cellsOf e)) (P.cellsOf e) = some y.2 ∧ DV.Is (cx0 W).M (f y.1) y.2 ∧ y.2.length = sz ∧ ok y.1) (fun i hi => by
      obtain ⟨cs', h1, h2⟩ := hel i (by omega)
      obtain ⟨b, b1, b2, b3⟩ := h _ _ _ h2
      exact ⟨(b, cs'), h1, b1, b2, b3⟩)
    refine ⟨(List.range len).map fun i => (A i).1, ?_, rfl, by simp; omega, fun b hb => ?_⟩
    · have hll : ((List.range len).map fun i => (A i).1).length = len := by simp
      unfold eL
      rw [hll]
      rcases Nat.eq_zero_or_pos len with h0 | h0
      · subst h0
        exact .slEmpty _ _ _
      · obtain ⟨b, off, sp⟩ := a
        obtain ⟨_, _, hcell⟩ := World.cells?_some (hA 0 h0).1
        rw [hc] at hcell
        have c0 := hcell 0 hpos
        have l0 := (hA 0 h0).2.2.1
        rw [List.getElem?_eq_getElem (by omega)] at c0
        obtain ⟨s0, c, e', fr, hb, _⟩ := cell_heap c0
        simp [Addr.add] at s0 hb
        subst s0
        refine .sl len _ b off cap sz c (fun i => (A i).2) hl (by have := hm; unfold maxLen at this; omega) (mem0 hb) (fun i hi => ?_) (fun i hi => (hA i hi).2.2.1) (fun i hi j hj => ?_)
        · have : ((List.range len).map fun i => (A i).1).getD i default = (A i).1 := by simp [hi]
          rw [this]
          exact (hA i hi).2.1
        · obtain ⟨_, _, hcell⟩ := World.cells?_some (hA i hi).1
          rw [hc] at hcell
          have ci := hcell j hj
          have li := (hA i hi).2.2.1
          rw [List.getElem?_eq_getElem (by omega)] at ci
          rw [add_mk, add_mk] at ci
          obtain ⟨_, c', e'', fr', hb', hc'⟩ := cell_heap ci
          simp only at hb' hc'
          rw [hb] at hb'
          cases hb'
          rw [hc', List.getElem?_eq_getElem (by omega)]
    · obtain ⟨i, hi, rfl⟩ := List.mem_map.1 hb
      exact (hA i (List.mem_range.1 hi)).2.2.2
theorem readsL_nil {total : Nat} : ReadsL enc P W base spare held [] total total (fun ds => ds = []) := fun cs hl _ =>
  ⟨[], by rw [← hl, List.drop_length]; exact .nil, rfl⟩
theorem readsL_cons {f : Field} {fs : List Field} {off total sz : Nat} {α : Type} {e : α → DV} {ok : α → Prop} {Q : List DV → Prop} (hf : f.offset = off) (hc : P.cellsOf f.type = sz) (h : Reads enc P W base spare held f.type sz e ok)
    (ht : ReadsL enc P W base spare held fs (off + sz) total Q) : ReadsL enc P W base spare held (f :: fs) off total (fun ds => ∃ a ds', ds = e a :: ds' ∧ ok a ∧ Q ds') := fun cs hl hx => by
  obtain ⟨fuel, x, h1⟩ := hx f List.mem_cons_self
  rw [hf, hc] at h1
  obtain ⟨a, a1, a2, a3⟩ := h _ _ _ h1
  obtain ⟨ds, d1, d2⟩ := ht cs hl fun g hg => hx g (List.mem_cons_of_mem _ hg)
  refine ⟨e a :: ds, ?_, a, ds, rfl, a3, d2⟩
  have e1 : cs.drop off = (cs.drop off).take sz ++ cs.drop (off + sz) := by
    conv => lhs; rw [← List.take_append_drop sz (cs.drop off)]
    rw [List.drop_drop]
  rw [e1]
  exact .cons _ _ _ _ a1 d1
theorem reads_struct {t : TypeId} {fs : Array Field} {total : Nat} {α : Type} {e : α → DV} {ok : α → Prop} {Q : List DV → Prop} (ht : P.underlying t = some (.struct fs)) (hc : P.cellsOf t = total) (h : ReadsL enc P W base spare held fs.toList 0 total Q)
    (hQ : ∀ ds, Q ds → ∃ a, DV.agg ds = e a ∧ ok a) : Reads enc P W base spare held t total e ok := fun fuel cs x hx => by
  obtain ⟨xs, n, _, _, hl, hlen, hf⟩ := DataW.trod_struct ht hx
  obtain ⟨ds, d1, d2⟩ := h cs (by rw [hl, hc]) fun f hfm => by
    obtain ⟨i, hi, rfl⟩ := List.getElem_of_mem hfm
    have hi' : i < fs.size := by simpa using hi
    have := hf i fs[i] (by simp [hi'])
    rw [List.getElem?_eq_getElem (by omega)] at this
    exact ⟨n, _, by simpa using this⟩
  obtain ⟨a, a1, a2⟩ := hQ ds d2
  rw [List.drop_zero] at d1
  exact ⟨a, a1 ▸ .agg _ _ d1, by rw [hl, hc], a2⟩
theorem below_all {W' : World} (hl : laidOutB P = true) (hb : Below W.heap.size W W') : ∀ {ts : List TypeId} {vs : List Value} {ds : List (DataW H)} {p : List MemPlace}, (∀ t ∈ ts, P.readableRec t = true ∧ t < P.types.size) →
    DataW.TrodAll enc P W 0 (fun _ => true) true ts vs ds p → (∀ x ∈ p, x.block < W.heap.size) → DataW.TrodAll enc P W' 0 (fun b => decide (b < W.heap.size)) true ts vs ds p
  | [], _, _, _, _, h, _ => by
    obtain ⟨rfl, rfl, rfl⟩ := trodAll_nil h
    rfl
  | t :: ts, _, _, _, ht, h, hx => by
    obtain ⟨v, vs, d, ds, a, b, rfl, rfl, rfl, h1, h2⟩ := trodAll_cons h
    exact trodAll_cons_mk (Below.trod hl (ht t List.mem_cons_self).1 (ht t List.mem_cons_self).2 h1 hb fun x hx' => hx x (List.mem_append_left _ hx'))
      (below_all hl hb (fun t' ht' => ht t' (List.mem_cons_of_mem _ ht')) h2 fun x hx' => hx x (List.mem_append_right _ hx'))
theorem args_of {args : Array Value} {l : List Value} (h : args.toList = l) : args = l.toArray := by rw [← h]
end
end Go.TA
