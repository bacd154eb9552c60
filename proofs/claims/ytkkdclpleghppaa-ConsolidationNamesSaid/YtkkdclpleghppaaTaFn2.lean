/- A part of the proof: laws over any program of the abstract machine. No condition. -/
import Derived.Test.YtkkdclpleghppaaTaFn
namespace Go.TA
open Go

section
variable {P : Program} {N : Nat} {Q : Post} {fr : Fr} {L : List Ob} {x y : Code} {cs : List Code}

/-- Objects that were not there at the start may be forgotten behind a piece of code. -/
theorem aw_forget {c : Code} {Q0 : Post} (h : AW P N c Q0 fr L) (hq : ∀ e fr1 L1, L.length ≤ L1.length → Q0 e fr1 L1 → ∃ fr2 L2, StLe fr1 L1 fr2 L2 ∧ L.length ≤ L2.length ∧ Q e fr2 L2) : AW P N c Q fr L := by
  intro X ms w a hr hf hN hd
  refine wp_mono (h X ms w a hr hf hN hd) ?_
  rintro e a1 w1 ⟨ms1, fr1, L1, q1, r1, e1, c1, f1, n1, d1⟩
  obtain ⟨fr2, L2, st, hl, q2⟩ := hq e fr1 L1 c1.L q1
  obtain ⟨ms2, k1, k2, k3, k4⟩ := st.rel hl r1 e1 c1 f1
  exact ⟨ms2, fr2, L2, q2, k1, k2, k3, k4, n1, d1⟩

/-- What is told at a block's end. -/
theorem aws_blockS {σ : Type} {i : Nat} (E : σ → Fr) (LE : σ → List Ob) (ok : σ → Prop) (hx : AWs P N [x] (fun e fr L => match e with
    | .normal => ∃ s, ok s ∧ StLe fr L (E s) (LE s)
    | .exit j => if j = i then ∃ s, ok s ∧ StLe fr L (E s) (LE s) else Q (.exit j) fr L
    | e => Q e fr L) fr L) (hl : ∀ s, L.length ≤ (LE s).length) (hy : ∀ s, ok s → AWs P N cs Q (E s) (LE s)) :
    AWs P N (.block i x :: cs) Q fr L := by
  refine aws_block (fun fr' L' => ∃ s, ok s ∧ fr' = E s ∧ L' = LE s) ?_ (fun fr' L' ⟨s, hs, h1, h2⟩ => h1 ▸ h2 ▸ hy s hs)
  refine aw_forget (Q0 := _) (aw_of hx) fun e fr1 L1 hl1 q => ?_
  cases e with
  | normal =>
    obtain ⟨s, hs, st⟩ := q
    exact ⟨_, _, st, hl s, s, hs, rfl, rfl⟩
  | exit j =>
    by_cases hj : j = i
    · simp only [if_pos hj] at q
      obtain ⟨s, hs, st⟩ := q
      refine ⟨_, _, st, hl s, ?_⟩
      simp only [thenP, if_pos hj]
      exact ⟨s, hs, rfl, rfl⟩
    · simp only [if_neg hj] at q
      refine ⟨fr1, L1, StLe.refl _ _, hl1, ?_⟩
      simp only [thenP, if_neg hj]
      exact q
  | goto l => exact ⟨fr1, L1, StLe.refl _ _, hl1, q⟩
  | ret => exact ⟨fr1, L1, StLe.refl _ _, hl1, q⟩
  | panic ch => exact ⟨fr1, L1, StLe.refl _ _, hl1, q⟩
  | outgrown => exact ⟨fr1, L1, StLe.refl _ _, hl1, q⟩

theorem aws_cutS {σ : Type} (E : σ → Fr) (LE : σ → List Ob) (ok : σ → Prop) (hx : AWs P N [x] (fun e fr L => match e with
    | .normal => ∃ s, ok s ∧ StLe fr L (E s) (LE s)
    | e => Q e fr L) fr L) (hl : ∀ s, L.length ≤ (LE s).length) (hy : ∀ s, ok s → AWs P N cs Q (E s) (LE s)) : AWs P N (x :: cs) Q fr L := by
  refine aws_cut (fun fr' L' => ∃ s, ok s ∧ fr' = E s ∧ L' = LE s) ?_ (fun fr' L' ⟨s, hs, h1, h2⟩ => h1 ▸ h2 ▸ hy s hs)
  refine aw_forget (Q0 := _) (aw_of hx) fun e fr1 L1 hl1 q => ?_
  cases e with
  | normal =>
    obtain ⟨s, hs, st⟩ := q
    exact ⟨_, _, st, hl s, s, hs, rfl, rfl⟩
  | exit j => exact ⟨fr1, L1, StLe.refl _ _, hl1, q⟩
  | goto l => exact ⟨fr1, L1, StLe.refl _ _, hl1, q⟩
  | ret => exact ⟨fr1, L1, StLe.refl _ _, hl1, q⟩
  | panic ch => exact ⟨fr1, L1, StLe.refl _ _, hl1, q⟩
  | outgrown => exact ⟨fr1, L1, StLe.refl _ _, hl1, q⟩

theorem aws_loop {σ ρ : Type} {A : Nat} {c : Code} {E : σ → Fr} {LE : σ → List Ob} {R : ρ → Fr → List Ob → Prop} {out : Out σ ρ}
    (h : AW P N (.loop c) (OutQ A (fun s fr L => StLe fr L (E s) (LE s)) R out) fr L) (hl : ∀ s, L.length ≤ (LE s).length) (hR : ∀ x fr L, out = .ret x → R x fr L → Q .ret fr L)
    (hy : ∀ s, out = .next s → AWs P N cs Q (E s) (LE s)) : AWs P N (.block A (.loop c) :: cs) Q fr L := by
  refine aws_blockS E LE (fun s => out = .next s) (aw_mono h fun e fr1 L1 q => ?_) hl hy
  cases e with
  | normal => exact q.elim
  | exit j =>
    obtain ⟨rfl, s, hs, st⟩ := q
    simp only [thenP, if_true]
    exact ⟨s, hs, st⟩
  | goto l => exact q.elim
  | ret =>
    obtain ⟨x, hx, hr⟩ := q
    exact hR x _ _ hx hr
  | panic ch => exact q.elim
  | outgrown => exact q.elim

/-- A list in a slot is not too long. -/
theorem aws_len {t n : Nat} {f : Nat → DV} (hm : (t, AV.d (.sl n f)) ∈ fr) (hne : cs ≠ []) (h : n < 2 ^ 63 → AWs P N cs Q fr L) : AWs P N cs Q fr L := by
  cases cs with
  | nil => exact absurd rfl hne
  | cons c cs =>
    intro X ms w a hr hf hN hd
    refine h ?_ X ms w a hr hf hN hd
    have := (hf (t, [], .d (.sl n f)) (List.mem_map.2 ⟨_, hm, rfl⟩)).2.1 (fun y hy => by cases hy)
    generalize a.tmps.getD t undef = u at this
    cases this with
    | agg _ _ ha => cases ha
    | one _ _ _ h =>
      cases h with
      | d _ _ h =>
        cases h with
        | slNil => omega
        | slEmpty => omega
        | sl => assumption

/-! ## saying less of slots -/
theorem frLe_nil : FrLe fr [] := fun x hx => by cases hx
theorem frLe_cons {s : Nat} {v w : AV} {r : Fr} (hm : (s, v) ∈ fr) (h : LeV v w) (hr : FrLe fr r) : FrLe fr ((s, w) :: r) := fun x hx => by
  rcases List.mem_cons.1 hx with rfl | hx
  · exact ⟨v, hm, h⟩
  · exact hr x hx
theorem LeV.of_eq {v w : AV} (h : v = w) : LeV v w := h ▸ LeV.refl _

theorem leV_sl {n m : Nat} {f g : Nat → DV} (hn : n = m) (h : ∀ i, i < n → f i = g i) : LeV (.d (.sl n f)) (.d (.sl m g)) := by
  subst hn
  intro c u hu
  cases hu with
  | agg _ _ ha => cases ha
  | one _ _ _ hx =>
    refine .one _ _ rfl ?_
    cases hx with
    | d _ _ hx =>
      refine .d _ _ ?_
      cases hx with
      | slNil => exact .slNil _
      | slEmpty => exact .slEmpty _ _ _
      | sl _ _ b off cap sz arr cs h1 h2 hb hh hl hc => exact .sl _ _ b off cap sz arr cs h1 h2 hb (fun i hi => by rw [← h i hi]; exact hh i hi) hl hc

theorem leV_full {n m : Nat} {f g : Nat → DV} (hn : n = m) (h : ∀ i, i < n → f i = g i) : LeV (.full n f) (.d (.sl m g)) := by
  intro c u hu
  refine leV_sl hn h c u ?_
  cases hu with
  | agg _ _ ha => cases ha
  | one _ _ _ hx =>
    cases hx with
    | full _ _ a hx => exact .one _ _ rfl (.d _ _ hx)
end
end Go.TA
