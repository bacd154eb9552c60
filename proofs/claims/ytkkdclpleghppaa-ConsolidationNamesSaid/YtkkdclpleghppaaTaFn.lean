/- A part of the proof: laws over any program of the abstract machine. No condition. -/
import Derived.Test.YtkkdclpleghppaaTaDraw2
namespace Go.TA
open Go

/-! ## functions that may have no answer -/
open Classical in
noncomputable def guardP {α : Type} (p : Prop) (k : Option α) : Option α := if p then k else none

theorem guardP_some {α : Type} {p : Prop} {k : Option α} {r : α} (h : guardP p k = some r) : p ∧ k = some r := by
  unfold guardP at h
  split at h
  · exact ⟨by assumption, h⟩
  · cases h
theorem guardP_pos {α : Type} {p : Prop} {k : Option α} (h : p) : guardP p k = k := by
  unfold guardP; rw [if_pos h]

theorem bind_some' {α β : Type} {x : Option α} {f : α → Option β} {r : β} (h : x.bind f = some r) : ∃ a, x = some a ∧ f a = some r := by
  cases x with
  | none => cases h
  | some a => exact ⟨a, rfl, h⟩

/-- A call that is made under a condition alone. -/
def optIf {α : Type} [Inhabited α] (p : Bool) (k : Option α) : Option α := bif p then k else some default

inductive Step (σ ρ : Type) where
  | cont (s : σ)
  | brk (s : σ)
  | ret (r : ρ)
inductive Out (σ ρ : Type) where
  | next (s : σ)
  | ret (r : ρ)

section
variable {σ ρ : Type}
def rangeM (body : Nat → σ → Option (Step σ ρ)) : Nat → Nat → σ → Option (Out σ ρ)
  | 0, _, s => some (.next s)
  | k + 1, i, s => match body i s with
    | none => none
    | some (.cont s') => rangeM body k (i + 1) s'
    | some (.brk s') => some (.next s')
    | some (.ret r) => some (.ret r)

def iterN (step : σ → Option (Step σ ρ)) : Nat → σ → Option (Out σ ρ)
  | 0, _ => none
  | k + 1, s => match step s with
    | none => none
    | some (.cont s') => iterN step k s'
    | some (.brk s') => some (.next s')
    | some (.ret r) => some (.ret r)

theorem iterN_le {step : σ → Option (Step σ ρ)} {r : Out σ ρ} : ∀ {k : Nat} {s : σ}, iterN step k s = some r → ∀ {k' : Nat}, k ≤ k' → iterN step k' s = some r
  | k + 1, s, h, k' + 1, hk => by
    simp only [iterN] at h ⊢
    split at h
    · cases h
    · exact iterN_le h (by omega)
    · exact h
    · exact h

open Classical in
noncomputable def iterM (step : σ → Option (Step σ ρ)) (s : σ) : Option (Out σ ρ) := if h : ∃ r k, iterN step k s = some r then some h.choose else none

theorem iterM_some {step : σ → Option (Step σ ρ)} {s : σ} {r : Out σ ρ} (h : iterM step s = some r) : ∃ k, iterN step k s = some r := by
  unfold iterM at h
  split at h
  · rename_i he
    cases h
    exact he.choose_spec
  · cases h

theorem iterM_of {step : σ → Option (Step σ ρ)} {s : σ} {r : Out σ ρ} {k : Nat} (h : iterN step k s = some r) : iterM step s = some r := by
  have he : ∃ r k, iterN step k s = some r := ⟨r, k, h⟩
  unfold iterM
  rw [dif_pos he]
  obtain ⟨k', h'⟩ := he.choose_spec
  have h1 := iterN_le h (Nat.le_max_left k k')
  have h2 := iterN_le h' (Nat.le_max_right k k')
  rw [h1] at h2
  exact h2.symm

theorem iterM_eq (step : σ → Option (Step σ ρ)) (s : σ) : iterM step s = match step s with
    | none => none
    | some (.cont s') => iterM step s'
    | some (.brk s') => some (.next s')
    | some (.ret r) => some (.ret r) := by
  cases hs : step s with
  | none =>
    cases hm : iterM step s with
    | none => rfl
    | some r =>
      obtain ⟨k, hk⟩ := iterM_some hm
      cases k with
      | zero => cases hk
      | succ k => simp only [iterN, hs] at hk; cases hk
  | some x =>
    cases x with
    | brk s' => exact iterM_of (k := 1) (by simp [iterN, hs])
    | ret r => exact iterM_of (k := 1) (by simp [iterN, hs])
    | cont s' =>
      simp only
      cases hm : iterM step s' with
      | some r =>
        obtain ⟨k, hk⟩ := iterM_some hm
        exact iterM_of (k := k + 1) (by simp [iterN, hs, hk])
      | none =>
        cases hm' : iterM step s with
        | none => rfl
        | some r =>
          obtain ⟨k, hk⟩ := iterM_some hm'
          cases k with
          | zero => cases hk
          | succ k =>
            simp only [iterN, hs] at hk
            rw [iterM_of hk] at hm; cases hm
end

/-! ## code before code -/
def AWs (P : Program) (N : Nat) : List Code → Post → Fr → List Ob → Prop
  | [], Q, fr, L => Q .normal fr L
  | c :: cs, Q, fr, L => AW P N c (thenP (fun fr L => AWs P N cs Q fr L) Q) fr L

section
variable {P : Program} {N : Nat} {Q : Post} {fr : Fr} {L : List Ob} {x y : Code} {cs : List Code}

theorem aw_of (h : AWs P N [x] Q fr L) : AW P N x Q fr L := aw_mono h fun e fr L hq => by cases e <;> exact hq

theorem aws_nil (h : Q .normal fr L) : AWs P N [] Q fr L := h
theorem aws_skip (h : AWs P N cs Q fr L) : AWs P N (.skip :: cs) Q fr L := aw_skip h
theorem aws_ret (h : Q .ret fr L) : AWs P N (.ret :: cs) Q fr L := aw_ret h
theorem aws_exit {i : Nat} (h : Q (.exit i) fr L) : AWs P N (.exit i :: cs) Q fr L := aw_exit h

theorem aws_seq (h : AWs P N (x :: y :: cs) Q fr L) : AWs P N (.seq x y :: cs) Q fr L := by
  refine aw_seq (aw_mono h fun e fr L hq => ?_)
  cases e <;> exact hq

theorem aws_cond {o : Operand} {b : Bool} (hb : opnd fr.up [] o = some (.d (.b b))) (ht : b = true → AWs P N (x :: cs) Q fr L) (hf : b = false → AWs P N (y :: cs) Q fr L) :
    AWs P N (.cond o x y :: cs) Q fr L := aw_cond hb ht hf

theorem aws_region {id : Nat} {ops : Array Oper} {hs : List (Nat × HE)} {live : List Nat} {fr' : Fr} {L' : List Ob} {C : List Prop}
    (h : regionRun P ops N hs live fr L = some (fr', L', C)) (hc : AllP C) (hy : AWs P N cs Q fr' L') : AWs P N (.region id ops false :: cs) Q fr L := aw_region h hc hy

theorem aws_drawn {id : Nat} {ops : Array Oper} {hs : List (Nat × HE)} {D : DS} {live : List Nat} {fr' : Fr} {L' : List Ob} {C : List Prop}
    (hm : P.follows .mixedOrders = true) (h : drawnRun P ops N hs D live fr L = some (fr', L', C)) (hj : drawnL P ops hs D fr L = drawnR P ops hs D fr L) (hc : AllP C) (hy : AWs P N cs Q fr' L') :
    AWs P N (.region id ops true :: cs) Q fr L := aw_drawn hm h hj hc hy

/-- A block whose end is told. -/
theorem aws_block {i : Nat} (J : Fr → List Ob → Prop) (hx : AWs P N [x] (fun e fr L => match e with
    | .normal => J fr L
    | .exit j => if j = i then J fr L else Q (.exit j) fr L
    | e => Q e fr L) fr L) (hy : ∀ fr L, J fr L → AWs P N cs Q fr L) : AWs P N (.block i x :: cs) Q fr L := by
  refine aw_block (aw_mono (aw_of hx) fun e fr L hq => ?_)
  cases e with
  | normal => exact hy fr L hq
  | exit j =>
    simp only [blockP] at hq ⊢
    split
    · rename_i h; rw [if_pos h] at hq; exact hy fr L hq
    · rename_i h; rw [if_neg h] at hq; exact hq
  | goto l => exact hq
  | ret => exact hq
  | panic ch => exact hq
  | outgrown => exact hq

theorem aws_scope (hx : AWs P N (x :: cs) Q fr L) (hg : ∀ l fr L, ¬ Q (.goto l) fr L) : AWs P N (.scope x :: cs) Q fr L :=
  aw_scope hx fun l fr L => hg l fr L

/-- What is told between. -/
theorem aws_cut (J : Fr → List Ob → Prop) (hx : AWs P N [x] (fun e fr L => match e with
    | .normal => J fr L
    | e => Q e fr L) fr L) (hy : ∀ fr L, J fr L → AWs P N cs Q fr L) : AWs P N (x :: cs) Q fr L := by
  refine aw_mono (aw_of hx) fun e fr L hq => ?_
  cases e with
  | normal => exact hy fr L hq
  | _ => exact hq

theorem aws_weaken {fr' : Fr} (h : AWs P N cs Q fr' L) (hle : FrLe fr fr') (hne : cs ≠ []) : AWs P N cs Q fr L := by
  cases cs with
  | nil => exact absurd rfl hne
  | cons c cs => exact aw_weaken h hle

end

/-! ## loops -/
section
variable {P : Program} {N : Nat} {σ ρ : Type}

def StepQ (A : Nat) (I : σ → Fr) (LI : σ → List Ob) (J : σ → Fr → List Ob → Prop) (R : ρ → Fr → List Ob → Prop) (r : Step σ ρ) : Post
  | .normal, fr, L => ∃ s, r = .cont s ∧ StLe fr L (I s) (LI s)
  | .exit j, fr, L => j = A ∧ ∃ s, r = .brk s ∧ J s fr L
  | .ret, fr, L => ∃ x, r = .ret x ∧ R x fr L
  | _, _, _ => False

def OutQ (A : Nat) (J : σ → Fr → List Ob → Prop) (R : ρ → Fr → List Ob → Prop) (r : Out σ ρ) : Post
  | .exit j, fr, L => j = A ∧ ∃ s, r = .next s ∧ J s fr L
  | .ret, fr, L => ∃ x, r = .ret x ∧ R x fr L
  | _, _, _ => False

theorem aw_range {c : Code} {A n : Nat} {I : Nat → σ → Fr} {LI : Nat → σ → List Ob} {J : σ → Fr → List Ob → Prop} {R : ρ → Fr → List Ob → Prop} {body : Nat → σ → Option (Step σ ρ)} {m : Nat}
    (hround : ∀ i s r, i < n → body i s = some r → AW P N c (StepQ A (I (i + 1)) (LI (i + 1)) J R r) (I i s) (LI i s))
    (hend : ∀ s, AW P N c (StepQ A (I (n + 1)) (LI (n + 1)) J R (.brk s)) (I n s) (LI n s)) (hm : ∀ i s, (LI i s).length = m)
    {fr : Fr} {L : List Ob} {k i : Nat} {s : σ} {out : Out σ ρ} (hi : i + k = n) (h : rangeM body k i s = some out) (hfr : StLe fr L (I i s) (LI i s)) (hL : L.length ≤ m) :
    AW P N (.loop c) (OutQ A J R out) fr L := by
  refine aw_loop (σ := { q : Nat × Nat × σ // q.2.1 + q.1 = n ∧ rangeM body q.1 q.2.1 q.2.2 = some out }) (fun q => I q.1.2.1 q.1.2.2) (fun q => LI q.1.2.1 q.1.2.2) (fun _ => True)
    (fun _ => OutQ A J R out) (fun q => q.1.1) ?_ ⟨(k, i, s), hi, h⟩ trivial hfr (by rw [hm]; exact hL) (fun _ _ _ h => h)
  rintro ⟨⟨k, i, s⟩, hki, hr⟩ _
  simp only at hki hr ⊢
  cases k with
  | zero =>
    simp only [rangeM, Option.some.injEq] at hr
    have : i = n := by omega
    subst this
    refine aw_mono (hend s) fun e fr L hq => ?_
    subst hr
    cases e with
    | normal => obtain ⟨s', hs, _⟩ := hq; cases hs
    | exit j => obtain ⟨h1, s', h2, h3⟩ := hq; cases h2; exact ⟨h1, s, rfl, h3⟩
    | ret => obtain ⟨x, hx, _⟩ := hq; cases hx
    | goto l => exact hq.elim
    | panic ch => exact hq.elim
    | outgrown => exact hq.elim
  | succ k =>
    simp only [rangeM] at hr
    cases hb : body i s with
    | none => simp [hb] at hr
    | some r =>
      refine aw_mono (hround i s r (by omega) hb) fun e fr L hq => ?_
      cases e with
      | normal =>
        obtain ⟨s', rfl, hst⟩ := hq
        simp only [hb] at hr
        exact ⟨⟨(k, i + 1, s'), by simp only; omega, hr⟩, trivial, hst, by simp, by rw [hm, hm], fun _ _ _ h => h⟩
      | exit j =>
        obtain ⟨h1, s', rfl, h3⟩ := hq
        simp only [hb, Option.some.injEq] at hr
        subst hr
        exact ⟨h1, s', rfl, h3⟩
      | ret =>
        obtain ⟨x, rfl, h3⟩ := hq
        simp only [hb, Option.some.injEq] at hr
        subst hr
        exact ⟨x, rfl, h3⟩
      | goto l => exact hq.elim
      | panic ch => exact hq.elim
      | outgrown => exact hq.elim

theorem aw_iter {c : Code} {A : Nat} {I : σ → Fr} {LI : σ → List Ob} {J : σ → Fr → List Ob → Prop} {R : ρ → Fr → List Ob → Prop} {step : σ → Option (Step σ ρ)} {m : Nat}
    (hround : ∀ s r, step s = some r → AW P N c (StepQ A I LI J R r) (I s) (LI s)) (hm : ∀ s, (LI s).length = m)
    {fr : Fr} {L : List Ob} {s : σ} {out : Out σ ρ} (h : iterM step s = some out) (hfr : StLe fr L (I s) (LI s)) (hL : L.length ≤ m) :
    AW P N (.loop c) (OutQ A J R out) fr L := by
  obtain ⟨k, hk⟩ := iterM_some h
  refine aw_loop (σ := { q : Nat × σ // iterN step q.1 q.2 = some out }) (fun q => I q.1.2) (fun q => LI q.1.2) (fun _ => True)
    (fun _ => OutQ A J R out) (fun q => q.1.1) ?_ ⟨(k, s), hk⟩ trivial hfr (by rw [hm]; exact hL) (fun _ _ _ h => h)
  rintro ⟨⟨k, s⟩, hr⟩ _
  simp only at hr ⊢
  cases k with
  | zero => cases hr
  | succ k =>
    simp only [iterN] at hr
    cases hb : step s with
    | none => simp [hb] at hr
    | some r =>
      refine aw_mono (hround s r hb) fun e fr L hq => ?_
      cases e with
      | normal =>
        obtain ⟨s', rfl, hst⟩ := hq
        simp only [hb] at hr
        exact ⟨⟨(k, s'), hr⟩, trivial, hst, by simp, by rw [hm, hm], fun _ _ _ h => h⟩
      | exit j =>
        obtain ⟨h1, s', rfl, h3⟩ := hq
        simp only [hb, Option.some.injEq] at hr
        subst hr
        exact ⟨h1, s', rfl, h3⟩
      | ret =>
        obtain ⟨x, rfl, h3⟩ := hq
        simp only [hb, Option.some.injEq] at hr
        subst hr
        exact ⟨x, rfl, h3⟩
      | goto l => exact hq.elim
      | panic ch => exact hq.elim
      | outgrown => exact hq.elim
end
end Go.TA
