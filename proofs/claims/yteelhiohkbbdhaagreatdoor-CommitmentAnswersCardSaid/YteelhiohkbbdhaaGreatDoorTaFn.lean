/- A part of the proof: laws over any program of the abstract machine. No condition. -/
import Derived.Test.YteelhiohkbbdhaaGreatDoorTaDraw
namespace Go.TA
open Go
variable {z : Option Nat}

/-! ## functions that may have no answer -/
open Classical in
noncomputable def guardP {α : Type} (p : Prop) (k : Option α) : Option α := if p then k else none

theorem guardP_some {α : Type} {p : Prop} {k : Option α} {r : α} (h : guardP p k = some r) : p ∧ k = some r := by
  unfold guardP at h
  split at h
  · exact ⟨by assumption, h⟩
  · cases h
theorem guardP_pos {α : Type} {p : Prop} {k : Option α} (h : p) : guardP p k = k := by
  unfold guardP; rw [if_pos h]

theorem bind_some' {α β : Type} {x : Option α} {f : α → Option β} {r : β} (h : x.bind f = some r) : ∃ a, x = some a ∧ f a = some r := by
  cases x with
  | none => cases h
  | some a => exact ⟨a, rfl, h⟩

/-- A call that is made under a condition alone. -/
def optIf {α : Type} [Inhabited α] (p : Bool) (k : Option α) : Option α := bif p then k else some default

inductive Step (σ ρ : Type) where
  | cont (s : σ)
  | brk (s : σ)
  | ret (r : ρ)
inductive Out (σ ρ : Type) where
  | next (s : σ)
  | ret (r : ρ)

section
variable {σ ρ : Type}
def rangeM (body : Nat → σ → Option (Step σ ρ)) : Nat → Nat → σ → Option (Out σ ρ)
  | 0, _, s => some (.next s)
  | k + 1, i, s => match body i s with
    | none => none
    | some (.cont s') => rangeM body k (i + 1) s'
    | some (.brk s') => some (.next s')
    | some (.ret r) => some (.ret r)

def iterN (step : σ → Option (Step σ ρ)) : Nat → σ → Option (Out σ ρ)
  | 0, _ => none
  | k + 1, s => match step s with
    | none => none
    | some (.cont s') => iterN step k s'
    | some (.brk s') => some (.next s')
    | some (.ret r) => some (.ret r)

theorem iterN_le {step : σ → Option (Step σ ρ)} {r : Out σ ρ} : ∀ {k : Nat} {s : σ}, iterN step k s = some r → ∀ {k' : Nat}, k ≤ k' → iterN step k' s = some r
  | k + 1, s, h, k' + 1, hk => by
    simp only [iterN] at h ⊢
    split at h
    · cases h
    · exact iterN_le h (by omega)
    · exact h
    · exact h

open Classical in
noncomputable def iterM (step : σ → Option (Step σ ρ)) (s : σ) : Option (Out σ ρ) := if h : ∃ r k, iterN step k s = some r then some h.choose else none

theorem iterM_some {step : σ → Option (Step σ ρ)} {s : σ} {r : Out σ ρ} (h : iterM step s = some r) : ∃ k, iterN step k s = some r := by
  unfold iterM at h
  split at h
  · rename_i he
    cases h
    exact he.choose_spec
  · cases h

theorem iterM_of {step : σ → Option (Step σ ρ)} {s : σ} {r : Out σ ρ} {k : Nat} (h : iterN step k s = some r) : iterM step s = some r := by
  have he : ∃ r k, iterN step k s = some r := ⟨r, k, h⟩
  unfold iterM
  rw [dif_pos he]
  obtain ⟨k', h'⟩ := he.choose_spec
  have h1 := iterN_le h (Nat.le_max_left k k')
  have h2 := iterN_le h' (Nat.le_max_right k k')
  rw [h1] at h2
  exact h2.symm

theorem iterM_eq (step : σ → Option (Step σ ρ)) (s : σ) : iterM step s = match step s with
    | none => none
    | some (.cont s') => iterM step s'
    | some (.brk s') => some (.next s')
    | some (.ret r) => some (.ret r) := by
  cases hs : step s with
  | none =>
    cases hm : iterM step s with
    | none => rfl
    | some r =>
      obtain ⟨k, hk⟩ := iterM_some hm
      cases k with
      | zero => cases hk
      | succ k => simp only [iterN, hs] at hk; cases hk
  | some x =>
    cases x with
    | brk s' => exact iterM_of (k := 1) (by simp [iterN, hs])
    | ret r => exact iterM_of (k := 1) (by simp [iterN, hs])
    | cont s' =>
      simp only
      cases hm : iterM step s' with
      | some r =>
        obtain ⟨k, hk⟩ := iterM_some hm
        exact iterM_of (k := k + 1) (by simp [iterN, hs, hk])
      | none =>
        cases hm' : iterM step s with
        | none => rfl
        | some r =>
          obtain ⟨k, hk⟩ := iterM_some hm'
          cases k with
          | zero => cases hk
          | succ k =>
            simp only [iterN, hs] at hk
            rw [iterM_of hk] at hm; cases hm
end

/-! ## code before code -/
def AWs (z : Option Nat) (P : Program) (N : Nat) : List Code → Post → Fr → List Ob → Prop
  | [], Q, fr, L => Q .normal fr L
  | c :: cs, Q, fr, L => AW z P N c (thenP (fun fr L => AWs z P N cs Q fr L) Q) fr L

section
variable {P : Program} {N : Nat} {Q : Post} {fr : Fr} {L : List Ob} {x y : Code} {cs : List Code}

theorem aw_of (h : AWs z P N [x] Q fr L) : AW z P N x Q fr L := aw_mono h fun e fr L hq => by cases e <;> exact hq

theorem aws_nil (h : Q .normal fr L) : AWs z P N [] Q fr L := h
theorem aws_skip (h : AWs z P N cs Q fr L) : AWs z P N (.skip :: cs) Q fr L := aw_skip h
theorem aws_ret (h : Q .ret fr L) : AWs z P N (.ret :: cs) Q fr L := aw_ret h
theorem aws_exit {i : Nat} (h : Q (.exit i) fr L) : AWs z P N (.exit i :: cs) Q fr L := aw_exit h

theorem aws_seq (h : AWs z P N (x :: y :: cs) Q fr L) : AWs z P N (.seq x y :: cs) Q fr L := by
  refine aw_seq (aw_mono h fun e fr L hq => ?_)
  cases e <;> exact hq

theorem aws_cond {o : Operand} {b : Bool} (hb : opnd fr.up [] o = some (.d (.b b))) (ht : b = true → AWs z P N (x :: cs) Q fr L) (hf : b = false → AWs z P N (y :: cs) Q fr L) :
    AWs z P N (.cond o x y :: cs) Q fr L := aw_cond hb ht hf

theorem aws_region {id : Nat} {ops : Array Oper} {hs : List (Nat × HE)} {fr' : Fr} {L' : List Ob} {C : List Prop}
    (h : regionRun P ops N hs fr L = some (fr', L', C)) (hc : AllP C) (hy : AWs z P N cs Q fr' L') : AWs z P N (.region id ops false :: cs) Q fr L := aw_region h hc hy

theorem aws_drawn {id : Nat} {ops : Array Oper} {hs : List (Nat × HE)} {D : DS} {fr' : Fr} {L' : List Ob} {C : List Prop}
    (hm : P.follows .mixedOrders = true) (h : drawnRun P ops N hs D fr L = some (fr', L', C)) (hj : drawnL P ops hs D fr L = drawnR P ops hs D fr L) (hc : AllP C) (hy : AWs z P N cs Q fr' L') :
    AWs z P N (.region id ops true :: cs) Q fr L := aw_drawn hm h hj hc hy

/-- A block whose end is told. -/
theorem aws_block {i : Nat} (J : Fr → List Ob → Prop) (hx : AWs z P N [x] (fun e fr L => match e with
    | .normal => J fr L
    | .exit j => if j = i then J fr L else Q (.exit j) fr L
    | e => Q e fr L) fr L) (hy : ∀ fr L, J fr L → AWs z P N cs Q fr L) : AWs z P N (.block i x :: cs) Q fr L := by
  refine aw_block (aw_mono (aw_of hx) fun e fr L hq => ?_)
  cases e with
  | normal => exact hy fr L hq
  | exit j =>
    simp only [blockP] at hq ⊢
    split
    · rename_i h; rw [if_pos h] at hq; exact hy fr L hq
    · rename_i h; rw [if_neg h] at hq; exact hq
  | goto l => exact hq
  | ret => exact hq
  | panic ch => exact hq
  | outgrown => exact hq

/-- What is told between. -/
theorem aws_cut (J : Fr → List Ob → Prop) (hx : AWs z P N [x] (fun e fr L => match e with
    | .normal => J fr L
    | e => Q e fr L) fr L) (hy : ∀ fr L, J fr L → AWs z P N cs Q fr L) : AWs z P N (x :: cs) Q fr L := by
  refine aw_mono (aw_of hx) fun e fr L hq => ?_
  cases e with
  | normal => exact hy fr L hq
  | _ => exact hq

theorem aws_weaken {fr' : Fr} (h : AWs z P N cs Q fr' L) (hle : FrLe fr fr') (hne : cs ≠ []) : AWs z P N cs Q fr L := by
  cases cs with
  | nil => exact absurd rfl hne
  | cons c cs => exact aw_weaken h hle

end

/-! ## loops -/
section
variable {P : Program} {N : Nat} {σ ρ : Type}

def StepQ (A : Nat) (I : σ → Fr) (LI : σ → List Ob) (J : σ → Fr → List Ob → Prop) (R : ρ → Fr → List Ob → Prop) (r : Step σ ρ) : Post
  | .normal, fr, L => ∃ s, r = .cont s ∧ StLe fr L (I s) (LI s)
  | .exit j, fr, L => j = A ∧ ∃ s, r = .brk s ∧ J s fr L
  | .ret, fr, L => ∃ x, r = .ret x ∧ R x fr L
  | _, _, _ => False

def OutQ (A : Nat) (J : σ → Fr → List Ob → Prop) (R : ρ → Fr → List Ob → Prop) (r : Out σ ρ) : Post
  | .exit j, fr, L => j = A ∧ ∃ s, r = .next s ∧ J s fr L
  | .ret, fr, L => ∃ x, r = .ret x ∧ R x fr L
  | _, _, _ => False

theorem aw_range {c : Code} {A n : Nat} {I : Nat → σ → Fr} {LI : Nat → σ → List Ob} {J : σ → Fr → List Ob → Prop} {R : ρ → Fr → List Ob → Prop} {body : Nat → σ → Option (Step σ ρ)} {m : Nat}
    (hround : ∀ i s r, i < n → body i s = some r → AW z P N c (StepQ A (I (i + 1)) (LI (i + 1)) J R r) (I i s) (LI i s))
    (hend : ∀ s, AW z P N c (StepQ A (I (n + 1)) (LI (n + 1)) J R (.brk s)) (I n s) (LI n s)) (hm : ∀ i s, (LI i s).length = m)
    {fr : Fr} {L : List Ob} {k i : Nat} {s : σ} {out : Out σ ρ} (hi : i + k = n) (h : rangeM body k i s = some out) (hfr : StLe fr L (I i s) (LI i s)) (hL : L.length ≤ m) :
    AW z P N (.loop c) (OutQ A J R out) fr L := by
  refine aw_loop (σ := { q : Nat × Nat × σ // q.2.1 + q.1 = n ∧ rangeM body q.1 q.2.1 q.2.2 = some out }) (fun q => I q.1.2.1 q.1.2.2) (fun q => LI q.1.2.1 q.1.2.2) (fun _ => True)
    (fun _ => OutQ A J R out) (fun q => q.1.1) ?_ ⟨(k, i, s), hi, h⟩ trivial hfr (by rw [hm]; exact hL) (fun _ _ _ h => h)
  rintro ⟨⟨k, i, s⟩, hki, hr⟩ _
  simp only at hki hr ⊢
  cases k with
  | zero =>
    simp only [rangeM, Option.some.injEq] at hr
    have : i = n := by omega
    subst this
    refine aw_mono (hend s) fun e fr L hq => ?_
    subst hr
    cases e with
    | normal => obtain ⟨s', hs, _⟩ := hq; cases hs
    | exit j => obtain ⟨h1, s', h2, h3⟩ := hq; cases h2; exact ⟨h1, s, rfl, h3⟩
    | ret => obtain ⟨x, hx, _⟩ := hq; cases hx
    | goto l => exact hq.elim
    | panic ch => exact hq.elim
    | outgrown => exact hq.elim
  | succ k =>
    simp only [rangeM] at hr
    cases hb : body i s with
    | none => simp [hb] at hr
    | some r =>
      refine aw_mono (hround i s r (by omega) hb) fun e fr L hq => ?_
      cases e with
      | normal =>
        obtain ⟨s', rfl, hst⟩ := hq
        simp only [hb] at hr
        exact ⟨⟨(k, i + 1, s'), by simp only; omega, hr⟩, trivial, hst, by simp, by rw [hm, hm], fun _ _ _ h => h⟩
      | exit j =>
        obtain ⟨h1, s', rfl, h3⟩ := hq
        simp only [hb, Option.some.injEq] at hr
        subst hr
        exact ⟨h1, s', rfl, h3⟩
      | ret =>
        obtain ⟨x, rfl, h3⟩ := hq
        simp only [hb, Option.some.injEq] at hr
        subst hr
        exact ⟨x, rfl, h3⟩
      | goto l => exact hq.elim
      | panic ch => exact hq.elim
      | outgrown => exact hq.elim

theorem aw_iter {c : Code} {A : Nat} {I : σ → Fr} {LI : σ → List Ob} {J : σ → Fr → List Ob → Prop} {R : ρ → Fr → List Ob → Prop} {step : σ → Option (Step σ ρ)} {m : Nat}
    (hround : ∀ s r, step s = some r → AW z P N c (StepQ A I LI J R r) (I s) (LI s)) (hm : ∀ s, (LI s).length = m)
    {fr : Fr} {L : List Ob} {s : σ} {out : Out σ ρ} (h : iterM step s = some out) (hfr : StLe fr L (I s) (LI s)) (hL : L.length ≤ m) :
    AW z P N (.loop c) (OutQ A J R out) fr L := by
  obtain ⟨k, hk⟩ := iterM_some h
  refine aw_loop (σ := { q : Nat × σ // iterN step q.1 q.2 = some out }) (fun q => I q.1.2) (fun q => LI q.1.2) (fun _ => True)
    (fun _ => OutQ A J R out) (fun q => q.1.1) ?_ ⟨(k, s), hk⟩ trivial hfr (by rw [hm]; exact hL) (fun _ _ _ h => h)
  rintro ⟨⟨k, s⟩, hr⟩ _
  simp only at hr ⊢
  cases k with
  | zero => cases hr
  | succ k =>
    simp only [iterN] at hr
    cases hb : step s with
    | none => simp [hb] at hr
    | some r =>
      refine aw_mono (hround s r hb) fun e fr L hq => ?_
      cases e with
      | normal =>
        obtain ⟨s', rfl, hst⟩ := hq
        simp only [hb] at hr
        exact ⟨⟨(k, s'), hr⟩, trivial, hst, by simp, by rw [hm, hm], fun _ _ _ h => h⟩
      | exit j =>
        obtain ⟨h1, s', rfl, h3⟩ := hq
        simp only [hb, Option.some.injEq] at hr
        subst hr
        exact ⟨h1, s', rfl, h3⟩
      | ret =>
        obtain ⟨x, rfl, h3⟩ := hq
        simp only [hb, Option.some.injEq] at hr
        subst hr
        exact ⟨x, rfl, h3⟩
      | goto l => exact hq.elim
      | panic ch => exact hq.elim
      | outgrown => exact hq.elim
end
end Go.TA

namespace Go.TA
open Go
variable {z : Option Nat}

section
variable {P : Program} {N : Nat} {Q : Post} {fr : Fr} {L : List Ob} {x y : Code} {cs : List Code}

/-- Objects that were not there at the start may be forgotten behind a piece of code. -/
theorem aw_forget {c : Code} {Q0 : Post} (h : AW z P N c Q0 fr L) (hq : ∀ e fr1 L1, L.length ≤ L1.length → Q0 e fr1 L1 → ∃ fr2 L2, StLe fr1 L1 fr2 L2 ∧ L.length ≤ L2.length ∧ Q e fr2 L2) : AW z P N c Q fr L := by
  intro zn df X ms w a hr hf hN hd
  refine wpIn_mono (h zn df X ms w a hr hf hN hd) ?_
  rintro e a1 w1 ⟨ms1, fr1, L1, q1, r1, e1, c1, f1, n1, d1⟩
  obtain ⟨fr2, L2, st, hl, q2⟩ := hq e fr1 L1 c1.L q1
  obtain ⟨ms2, k1, k2, k3, k4⟩ := st.rel hl r1 e1 c1 f1
  exact ⟨ms2, fr2, L2, q2, k1, k2, k3, k4, n1, d1⟩

/-- What is told at a block's end. -/
theorem aws_blockS {σ : Type} {i : Nat} (E : σ → Fr) (LE : σ → List Ob) (ok : σ → Prop) (hx : AWs z P N [x] (fun e fr L => match e with
    | .normal => ∃ s, ok s ∧ StLe fr L (E s) (LE s)
    | .exit j => if j = i then ∃ s, ok s ∧ StLe fr L (E s) (LE s) else Q (.exit j) fr L
    | e => Q e fr L) fr L) (hl : ∀ s, L.length ≤ (LE s).length) (hy : ∀ s, ok s → AWs z P N cs Q (E s) (LE s)) :
    AWs z P N (.block i x :: cs) Q fr L := by
  refine aws_block (fun fr' L' => ∃ s, ok s ∧ fr' = E s ∧ L' = LE s) ?_ (fun fr' L' ⟨s, hs, h1, h2⟩ => h1 ▸ h2 ▸ hy s hs)
  refine aw_forget (Q0 := _) (aw_of hx) fun e fr1 L1 hl1 q => ?_
  cases e with
  | normal =>
    obtain ⟨s, hs, st⟩ := q
    exact ⟨_, _, st, hl s, s, hs, rfl, rfl⟩
  | exit j =>
    by_cases hj : j = i
    · simp only [if_pos hj] at q
      obtain ⟨s, hs, st⟩ := q
      refine ⟨_, _, st, hl s, ?_⟩
      simp only [thenP, if_pos hj]
      exact ⟨s, hs, rfl, rfl⟩
    · simp only [if_neg hj] at q
      refine ⟨fr1, L1, StLe.refl _ _, hl1, ?_⟩
      simp only [thenP, if_neg hj]
      exact q
  | goto l => exact ⟨fr1, L1, StLe.refl _ _, hl1, q⟩
  | ret => exact ⟨fr1, L1, StLe.refl _ _, hl1, q⟩
  | panic ch => exact ⟨fr1, L1, StLe.refl _ _, hl1, q⟩
  | outgrown => exact ⟨fr1, L1, StLe.refl _ _, hl1, q⟩

theorem aws_cutS {σ : Type} (E : σ → Fr) (LE : σ → List Ob) (ok : σ → Prop) (hx : AWs z P N [x] (fun e fr L => match e with
    | .normal => ∃ s, ok s ∧ StLe fr L (E s) (LE s)
    | e => Q e fr L) fr L) (hl : ∀ s, L.length ≤ (LE s).length) (hy : ∀ s, ok s → AWs z P N cs Q (E s) (LE s)) : AWs z P N (x :: cs) Q fr L := by
  refine aws_cut (fun fr' L' => ∃ s, ok s ∧ fr' = E s ∧ L' = LE s) ?_ (fun fr' L' ⟨s, hs, h1, h2⟩ => h1 ▸ h2 ▸ hy s hs)
  refine aw_forget (Q0 := _) (aw_of hx) fun e fr1 L1 hl1 q => ?_
  cases e with
  | normal =>
    obtain ⟨s, hs, st⟩ := q
    exact ⟨_, _, st, hl s, s, hs, rfl, rfl⟩
  | exit j => exact ⟨fr1, L1, StLe.refl _ _, hl1, q⟩
  | goto l => exact ⟨fr1, L1, StLe.refl _ _, hl1, q⟩
  | ret => exact ⟨fr1, L1, StLe.refl _ _, hl1, q⟩
  | panic ch => exact ⟨fr1, L1, StLe.refl _ _, hl1, q⟩
  | outgrown => exact ⟨fr1, L1, StLe.refl _ _, hl1, q⟩

theorem aws_loop {σ ρ : Type} {A : Nat} {c : Code} {E : σ → Fr} {LE : σ → List Ob} {R : ρ → Fr → List Ob → Prop} {out : Out σ ρ}
    (h : AW z P N (.loop c) (OutQ A (fun s fr L => StLe fr L (E s) (LE s)) R out) fr L) (hl : ∀ s, L.length ≤ (LE s).length) (hR : ∀ x fr L, out = .ret x → R x fr L → Q .ret fr L)
    (hy : ∀ s, out = .next s → AWs z P N cs Q (E s) (LE s)) : AWs z P N (.block A (.loop c) :: cs) Q fr L := by
  refine aws_blockS E LE (fun s => out = .next s) (aw_mono h fun e fr1 L1 q => ?_) hl hy
  cases e with
  | normal => exact q.elim
  | exit j =>
    obtain ⟨rfl, s, hs, st⟩ := q
    simp only [thenP, if_true]
    exact ⟨s, hs, st⟩
  | goto l => exact q.elim
  | ret =>
    obtain ⟨x, hx, hr⟩ := q
    exact hR x _ _ hx hr
  | panic ch => exact q.elim
  | outgrown => exact q.elim

/-- A list in a slot is not too long. -/
theorem aws_len {t n : Nat} {f : Nat → DV} (hm : (t, AV.d (.sl n f)) ∈ fr) (hne : cs ≠ []) (h : n < 2 ^ 63 → AWs z P N cs Q fr L) : AWs z P N cs Q fr L := by
  cases cs with
  | nil => exact absurd rfl hne
  | cons c cs =>
    intro zn df X ms w a hr hf hN hd
    refine h ?_ zn df X ms w a hr hf hN hd
    have := (hf (t, [], .d (.sl n f)) (List.mem_map.2 ⟨_, hm, rfl⟩)).2.1 (fun y hy => by cases hy)
    generalize a.tmps.getD t undef = u at this
    cases this with
    | agg _ _ ha => cases ha
    | one _ _ _ h =>
      cases h with
      | d _ _ h =>
        cases h with
        | slNil => omega
        | slEmpty => omega
        | sl => assumption

/-! ## saying less of slots -/
theorem frLe_nil : FrLe fr [] := fun x hx => by cases hx
theorem frLe_cons {s : Nat} {v w : AV} {r : Fr} (hm : (s, v) ∈ fr) (h : LeV v w) (hr : FrLe fr r) : FrLe fr ((s, w) :: r) := fun x hx => by
  rcases List.mem_cons.1 hx with rfl | hx
  · exact ⟨v, hm, h⟩
  · exact hr x hx
theorem LeV.of_eq {v w : AV} (h : v = w) : LeV v w := h ▸ LeV.refl _

theorem leV_sl {n m : Nat} {f g : Nat → DV} (hn : n = m) (h : ∀ i, i < n → f i = g i) : LeV (.d (.sl n f)) (.d (.sl m g)) := by
  subst hn
  intro c u hu
  cases hu with
  | agg _ _ ha => cases ha
  | one _ _ _ hx =>
    refine .one _ _ rfl ?_
    cases hx with
    | d _ _ hx =>
      refine .d _ _ ?_
      cases hx with
      | slNil => exact .slNil _
      | slEmpty => exact .slEmpty _ _ _
      | sl _ _ b off cap sz arr cs h1 h2 hb hh hl hc => exact .sl _ _ b off cap sz arr cs h1 h2 hb (fun i hi => by rw [← h i hi]; exact hh i hi) hl hc

theorem leV_full {n m : Nat} {f g : Nat → DV} (hn : n = m) (h : ∀ i, i < n → f i = g i) : LeV (.full n f) (.d (.sl m g)) := by
  intro c u hu
  refine leV_sl hn h c u ?_
  cases hu with
  | agg _ _ ha => cases ha
  | one _ _ _ hx =>
    cases hx with
    | full _ _ a hx => exact .one _ _ rfl (.d _ _ hx)
end
end Go.TA

namespace Go.TA
open Go
variable {z : Option Nat}

theorem iteT {α : Type} {b : Bool} {x y : Option α} {r : α} (hb : b = true) (h : (if b = true then x else y) = some r) : x = some r := by rwa [if_pos hb] at h
theorem iteF {α : Type} {b : Bool} {x y : Option α} {r : α} (hb : b = false) (h : (if b = true then x else y) = some r) : y = some r := by
  rwa [if_neg (by rw [hb]; exact Bool.false_ne_true)] at h

def outM {σ ρ α : Type} (x : Option (Out σ ρ)) (k : σ → Option α) (kr : ρ → Option α) : Option α :=
  match x with
  | none => none
  | some (.next s) => k s
  | some (.ret r) => kr r

def outK {σ ρ α : Type} (k : σ → Option α) (kr : ρ → Option α) : Out σ ρ → Option α
  | .next s => k s
  | .ret r => kr r

theorem outM_some {σ ρ α : Type} {x : Option (Out σ ρ)} {k : σ → Option α} {kr : ρ → Option α} {r : α} (h : outM x k kr = some r) : ∃ o, x = some o ∧ outK k kr o = some r := by
  unfold outM at h
  split at h
  · cases h
  · exact ⟨_, rfl, h⟩
  · exact ⟨_, rfl, h⟩

open Classical in
noncomputable def optP {α : Type} [Inhabited α] (gs : List Prop) (k : Option α) : Option α := if AllP gs then k else some default
theorem optP_some {α : Type} [Inhabited α] {gs : List Prop} {k : Option α} {r : α} (h : optP gs k = some r) (hg : AllP gs) : k = some r := by
  unfold optP at h
  rwa [if_pos hg] at h

open Classical in
noncomputable def optD {α : Type} (gs : List Prop) (k : Option α) (d : α) : Option α := if AllP gs then k else some d
theorem optD_some {α : Type} {gs : List Prop} {k : Option α} {d r : α} (h : optD gs k d = some r) (hg : AllP gs) : k = some r := by
  unfold optD at h
  rwa [if_pos hg] at h
theorem optD_neg {α : Type} {gs : List Prop} {k : Option α} {d r : α} (h : optD gs k d = some r) (hg : ¬ AllP gs) : d = r := by
  unfold optD at h
  rw [if_neg hg] at h
  exact Option.some.inj h

/-- What a function hands back. -/
def FR (P : Program) (fn : Func) (v : AV) (L' : List Ob) (fr : Fr) (L : List Ob) : Prop := ∃ v1 C J, resV P fn fr L = some (v1, C) ∧ AllP C ∧ LeV v1 v ∧ L = L' ++ J
def FQ (P : Program) (fn : Func) (v : AV) (L' : List Ob) : Post := fun e fr L => (e = .normal ∨ e = .ret) ∧ FR P fn v L' fr L

theorem frLe_at {fr r : Fr} {k s : Nat} {v w : AV} (hm : fr[k]? = some (s, v)) (h : LeV v w) (hr : FrLe fr r) : FrLe fr ((s, w) :: r) := frLe_cons (List.mem_of_getElem? hm) h hr

def LsOk (n : Nat) : List Ob → Prop
  | [] => True
  | x :: r => x.lt n ∧ LsOk n r
theorem lsOk {n : Nat} : ∀ {L : List Ob}, LsOk n L → ∀ (o : Nat) (obj : Ob), L[o]? = some obj → obj.lt n
  | [], _, o, obj, h => by simp at h
  | x :: r, hk, 0, obj, h => by simp at h; subst h; exact hk.1
  | x :: r, hk, o + 1, obj, h => lsOk hk.2 o obj (by simpa using h)

/-! ## lists and arrays as data -/
def eL {α : Type} [Inhabited α] (e : α → DV) (l : List α) : DV := .sl l.length fun j => e (l.getD j default)
def eA {α : Type} (sz n : Nat) (e : α → DV) (f : Nat → α) : DV := .arr sz n fun j => e (f j)
def eS {α : Type} [Inhabited α] (sz : Nat) (e : α → DV) (l : List α) : Ob := .seq sz l.length fun j => .d (e (l.getD j default))

section
variable {α : Type} [Inhabited α] {e : α → DV} {l : List α}
theorem leV_nil {f : Nat → DV} : LeV (.full 0 f) (.d (eL e ([] : List α))) := leV_full rfl fun i hi => by omega
theorem leV_fullL {n : Nat} {f : Nat → DV} (hn : n = l.length) (h : ∀ i, i < n → f i = e (l.getD i default)) : LeV (.full n f) (.d (eL e l)) := leV_full hn h
theorem leV_take {h : Nat} (hh : h ≤ l.length) : LeV (.d (.sl (h - 0) fun j => e (l.getD j default))) (.d (eL e (l.take h))) :=
  leV_sl (by simp; omega) fun i hi => by
    have : (l.take h).getD i default = l.getD i default := by
      simp only [List.getD_eq_getElem?_getD]
      rw [List.getElem?_take_of_lt (by omega)]
    rw [this]
theorem leV_drop {n : Nat} : LeV (.d (.sl (l.length - n) fun j => e (l.getD (n + j) default))) (.d (eL e (l.drop n))) :=
  leV_sl (by simp) fun i _ => by
    have : (l.drop n).getD i default = l.getD (n + i) default := by simp [List.getD_eq_getElem?_getD]
    rw [this]
theorem leV_cut {a b : Nat} (hab : a ≤ b) (hb : b ≤ l.length) : LeV (.d (.sl (b - a) fun j => e (l.getD (a + j) default))) (.d (eL e ((l.drop a).take (b - a)))) :=
  leV_sl (by simp; omega) fun i hi => by
    have : ((l.drop a).take (b - a)).getD i default = l.getD (a + i) default := by
      simp only [List.getD_eq_getElem?_getD]
      rw [List.getElem?_take_of_lt (by omega), List.getElem?_drop]
    rw [this]
theorem leV_lit (e : α → DV) (l : List α) : LeV (.d (.sl l.length (listF (.b false) (l.map e)))) (.d (eL e l)) :=
  leV_sl rfl fun i hi => by
    simp [listF, List.getD_eq_getElem?_getD, List.getElem?_eq_getElem hi]

/-- A list in a slot is not too long. -/
theorem aws_lenL {P : Program} {N : Nat} {Q : Post} {fr : Fr} {L : List Ob} {cs : List Code} {t k : Nat} (hm : fr[k]? = some (t, AV.d (eL e l))) (hne : cs ≠ []) (h : l.length < 2 ^ 63 → AWs z P N cs Q fr L) :
    AWs z P N cs Q fr L := aws_len (List.mem_of_getElem? hm) hne h
end

theorem wrap_i64 {n : Int} (h1 : -(2 ^ 63) ≤ n) (h2 : n < 2 ^ 63) : IntKind.i64.wrap n = n := by
  have e1 : IntKind.i64.bits = 64 := rfl
  have e2 : IntKind.i64.signed = true := rfl
  simp only [IntKind.wrap, e1, e2, Bool.true_and, decide_eq_true_eq]
  split <;> omega

theorem wrap_succ {i : Nat} (h : i + 1 < 2 ^ 63) : IntKind.i64.wrap ((i : Int) + 1) = ((i + 1 : Nat) : Int) := by
  rw [wrap_i64 (by omega) (by omega)]
  omega

/-! ## data said otherwise -/
def DLe (x y : DV) : Prop := ∀ M cs, DV.Is M x cs → DV.Is M y cs
def DLeL (xs ys : List DV) : Prop := ∀ M cs, DV.IsL M xs cs → DV.IsL M ys cs
theorem DLe.refl (x : DV) : DLe x x := fun _ _ h => h
theorem DLe.sl0 {f g : Nat → DV} : DLe (.sl 0 f) (.sl 0 g) := fun _ _ h => by
  cases h with
  | slNil => exact .slNil _
  | slEmpty => exact .slEmpty _ _ _
  | sl _ _ b off cap sz arr cs h1 h2 hb hh hl hc => exact .sl _ _ b off cap sz arr cs h1 h2 hb (fun i hi => by omega) hl hc
theorem DLe.agg {xs ys : List DV} (h : DLeL xs ys) : DLe (.agg xs) (.agg ys) := fun M cs hx => by
  cases hx with
  | agg _ _ hx => exact .agg _ _ (h M cs hx)
theorem DLeL.nil : DLeL [] [] := fun _ _ h => h
theorem DLeL.cons {x y : DV} {xs ys : List DV} (h : DLe x y) (ht : DLeL xs ys) : DLeL (x :: xs) (y :: ys) := fun M cs hx => by
  cases hx with
  | cons _ _ c cs h1 h2 => exact .cons _ _ c cs (h M c h1) (ht M cs h2)

theorem oLe_box {x y : DV} (h : DLe x y) : OLe (.box (.d x)) (.box (.d y)) where
  kind := rfl
  stamp := rfl
  is := fun c w o hx => by
    rcases hx with hx | ⟨b, tc, arr, e, h1, h2, h3⟩
    · exact .inl hx
    · refine .inr ⟨b, tc, arr, e, h1, h2, ?_⟩
      cases h3 with
      | d _ _ h3 => exact .d _ _ (h _ _ h3)

end Go.TA
