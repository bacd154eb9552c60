/- A part of the proof: laws over any program of the abstract machine. No condition. -/
import Derived.Test.YteelhiohkbbdhaaGreatDoorTaRun
import Derived.Scope
namespace Go.TA
open Go
variable {z : Option Nat}

abbrev Fr := List (Nat × AV)
def Fr.up (fr : Fr) : GFr := fr.map fun x => (x.1, [], x.2)
abbrev Post := Exit → Fr → List Ob → Prop

/-- **A piece of code, abstractly.** -/
def AW (z : Option Nat) (P : Program) (N : Nat) (c : Code) (Q : Post) (fr : Fr) (L : List Ob) : Prop :=
  ∀ (zn : Nat) (df : List Deferred) (X : Nat → Prop) (ms : Blocks) (w : World) (a : Act), Rel X ms L w → FrIs (cxOf X ms L w) fr.up a.tmps → a.tmps.size = N → a.defers = df →
    c.wpIn (fenceOf z) zn P (fun e a' w' => ∃ ms' fr' L', Q e fr' L' ∧ Rel X ms' L' w' ∧ Ext ms w ms' w' ∧ (cxOf X ms L w).le (cxOf X ms' L' w') ∧ FrIs (cxOf X ms' L' w') fr'.up a'.tmps ∧
      a'.tmps.size = N ∧ a'.defers = df) a w

section
variable {P : Program} {N : Nat} {Q : Post} {fr : Fr} {L : List Ob}

theorem aw_mono {c : Code} {Q' : Post} (h : AW z P N c Q' fr L) (hq : ∀ e fr L, Q' e fr L → Q e fr L) : AW z P N c Q fr L :=
  fun zn df X ms w a hr hf hN hd => wpIn_mono (h zn df X ms w a hr hf hN hd) fun _ _ _ ⟨ms', fr', L', hQ, rest⟩ => ⟨ms', fr', L', hq _ _ _ hQ, rest⟩

theorem aw_skip (h : Q .normal fr L) : AW z P N .skip Q fr L :=
  fun _ _ _ ms _ _ hr hf hN hd => wpIn_skip ⟨ms, fr, L, h, hr, Ext.refl _ _, Cx.le.refl _, hf, hN, hd⟩
theorem aw_ret (h : Q .ret fr L) : AW z P N .ret Q fr L :=
  fun _ _ _ ms _ _ hr hf hN hd => wpIn_ret ⟨ms, fr, L, h, hr, Ext.refl _ _, Cx.le.refl _, hf, hN, hd⟩
theorem aw_exit {i : Nat} (h : Q (.exit i) fr L) : AW z P N (.exit i) Q fr L :=
  fun _ _ _ ms _ _ hr hf hN hd => wpIn_exit ⟨ms, fr, L, h, hr, Ext.refl _ _, Cx.le.refl _, hf, hN, hd⟩

def thenP (k : Fr → List Ob → Prop) (Q : Post) : Post
  | .normal, fr, L => k fr L
  | e, fr, L => Q e fr L

theorem aw_seq {x y : Code} (h : AW z P N x (thenP (fun fr L => AW z P N y Q fr L) Q) fr L) : AW z P N (.seq x y) Q fr L := by
  intro zn df X ms w a hr hf hN hd
  refine wpIn_seq (wpIn_mono (h zn df X ms w a hr hf hN hd) ?_)
  rintro e a1 w1 ⟨ms1, fr1, L1, hq, hr1, he1, hc1, hf1, hN1, hd1⟩
  cases e with
  | normal =>
    refine wpIn_mono (hq zn df X ms1 w1 a1 hr1 hf1 hN1 hd1) ?_
    rintro e a2 w2 ⟨ms2, fr2, L2, hq2, hr2, he2, hc2, hf2, hN2, hd2⟩
    exact ⟨ms2, fr2, L2, hq2, hr2, he1.trans he2, hc1.trans hc2, hf2, hN2, hd2⟩
  | exit i => exact ⟨ms1, fr1, L1, hq, hr1, he1, hc1, hf1, hN1, hd1⟩
  | goto l => exact ⟨ms1, fr1, L1, hq, hr1, he1, hc1, hf1, hN1, hd1⟩
  | ret => exact ⟨ms1, fr1, L1, hq, hr1, he1, hc1, hf1, hN1, hd1⟩
  | panic ch => exact ⟨ms1, fr1, L1, hq, hr1, he1, hc1, hf1, hN1, hd1⟩
  | outgrown => exact ⟨ms1, fr1, L1, hq, hr1, he1, hc1, hf1, hN1, hd1⟩

def blockP (id : Nat) (Q : Post) : Post
  | .exit i, fr, L => if i = id then Q .normal fr L else Q (.exit i) fr L
  | e, fr, L => Q e fr L

theorem aw_block {i : Nat} {c : Code} (h : AW z P N c (blockP i Q) fr L) : AW z P N (.block i c) Q fr L := by
  intro zn df X ms w a hr hf hN hd
  refine wpIn_block (wpIn_mono (h zn df X ms w a hr hf hN hd) ?_)
  rintro e a1 w1 ⟨ms1, fr1, L1, hq, rest⟩
  cases e with
  | exit j =>
    by_cases hj : j = i
    · simp only [blockP, hj, if_true] at hq
      simp only [Exit.inBlock, hj, if_true]
      exact ⟨ms1, fr1, L1, hq, rest⟩
    · simp only [blockP, if_neg hj] at hq
      simp only [Exit.inBlock, if_neg hj]
      exact ⟨ms1, fr1, L1, hq, rest⟩
  | normal => exact ⟨ms1, fr1, L1, hq, rest⟩
  | goto l => exact ⟨ms1, fr1, L1, hq, rest⟩
  | ret => exact ⟨ms1, fr1, L1, hq, rest⟩
  | panic ch => exact ⟨ms1, fr1, L1, hq, rest⟩
  | outgrown => exact ⟨ms1, fr1, L1, hq, rest⟩

theorem aw_cond {o : Operand} {x y : Code} {b : Bool} (hb : opnd fr.up [] o = some (.d (.b b))) (ht : b = true → AW z P N x Q fr L) (hf' : b = false → AW z P N y Q fr L) :
    AW z P N (.cond o x y) Q fr L := by
  intro zn df X ms w a hr hf hN hd
  have e := IsV.b (opnd_is hb hf (fun y hy => by cases hy))
  cases b with
  | true => exact wpIn_cond_true e (ht rfl zn df X ms w a hr hf hN hd)
  | false => exact wpIn_cond_false e (hf' rfl zn df X ms w a hr hf hN hd)

/-- The slots that hold something in any case. -/
def frOf : GFr → Fr
  | [] => []
  | (t, [], v) :: r => (t, v) :: frOf r
  | (_, _ :: _, _) :: r => frOf r
theorem frOf_mem : ∀ {G : GFr} {t : Nat} {v : AV}, (t, v) ∈ frOf G → (t, [], v) ∈ G
  | [], _, _, h => by cases h
  | (s, [], u) :: r, t, v, h => by
    rcases List.mem_cons.1 h with e | h
    · cases e; exact List.mem_cons_self
    · exact List.mem_cons_of_mem _ (frOf_mem h)
  | (_, _ :: _, _) :: r, t, v, h => List.mem_cons_of_mem _ (frOf_mem (G := r) h)
theorem frOf_is {c : Cx} {G : GFr} {tmps : Array Value} (hf : FrIs c G tmps) : FrIs c (frOf G).up tmps := fun x hx => by
  obtain ⟨y, hy, rfl⟩ := List.mem_map.1 hx
  exact hf _ (frOf_mem hy)

/-- What a region does, run in the order of its text. -/
def regionRun (P : Program) (ops : Array Oper) (N : Nat) (hs : List (Nat × HE)) (fr : Fr) (L : List Ob) : Option (Fr × List Ob × List Prop) :=
  match runOps P ops N hs (List.range ops.size) fr.up L with
  | some (G, L', C) => some (frOf G, L', C)
  | none => none

theorem aw_region {id : Nat} {ops : Array Oper} {hs : List (Nat × HE)} {fr' : Fr} {L' : List Ob} {C : List Prop}
    (h : regionRun P ops N hs fr L = some (fr', L', C)) (hc : AllP C) (hQ : Q .normal fr' L') : AW z P N (.region id ops false) Q fr L := by
  intro zn df X ms w a hr hf hN hd
  unfold regionRun at h
  split at h
  · rename_i G L1 C1 hrun
    cases h
    refine wpIn_region (runOps_ok z zn _ _ _ _ _ _ ms w a hrun hc hr hf hN fun a' ms' w' q1 q2 q3 q4 q5 q6 => ?_)
    exact ⟨ms', frOf G, L', hQ, q1, q2, q3, frOf_is q4, q5, q6.trans hd⟩
  · cases h

/-! ## saying less -/
def Fr.get? : Fr → Nat → Option AV
  | [], _ => none
  | (s, v) :: r, t => if s == t then some v else Fr.get? r t
def FrLe (fr fr' : Fr) : Prop := ∀ x ∈ fr', ∃ v, (x.1, v) ∈ fr ∧ LeV v x.2

theorem FrLe.refl (fr : Fr) : FrLe fr fr := fun x hx => ⟨x.2, hx, LeV.refl _⟩

theorem FrLe.is {c : Cx} {fr fr' : Fr} {tmps : Array Value} (h : FrLe fr fr') (hf : FrIs c fr.up tmps) : FrIs c fr'.up tmps := by
  intro x hx
  obtain ⟨y, hy, rfl⟩ := List.mem_map.1 hx
  obtain ⟨v, hv, hle⟩ := h y hy
  obtain ⟨h1, h2, h3⟩ := hf (y.1, [], v) (List.mem_map.2 ⟨(y.1, v), hv, rfl⟩)
  exact ⟨h1, fun hh => hle c _ (h2 hh), fun hh => absurd (fun z hz => by cases hz) hh⟩

theorem aw_weaken {c : Code} {fr' : Fr} (h : AW z P N c Q fr' L) (hle : FrLe fr fr') : AW z P N c Q fr L :=
  fun zn df X ms w a hr hf hN hd => h zn df X ms w a hr (hle.is hf) hN hd
end

/-! ## forgetting objects -/
mutual
def AV.lt (n : Nat) : AV → Bool
  | .agg fs => AV.ltL n fs
  | .ptr o _ _ => decide (o < n)
  | .ref o _ _ _ => decide (o < n)
  | .map o => decide (o < n)
  | .fn _ caps => AV.ltL n caps
  | .tup vs => AV.ltL n vs
  | _ => true
def AV.ltL (n : Nat) : List AV → Bool
  | [] => true
  | x :: xs => x.lt n && AV.ltL n xs
end

def Ob.lt (n : Nat) : Ob → Prop
  | .box x => x.lt n = true
  | .seq _ m f => ∀ i, i < m → (f i).lt n = true
  | .map _ => True
  | .dead => True
  | .unb => True

/-- c' knows the first n objects of c. -/
structure Cx.cut (c c' : Cx) (n : Nat) : Prop where
  M : c.M.le c'.M
  len : n ≤ c'.L.length
  L : ∀ o, o < n → c'.L[o]? = c.L[o]?
  ms : ∀ o, o < n → c'.ms[o]? = c.ms[o]?

mutual
theorem AV.Is.cut {c c' : Cx} {n : Nat} (hc : c.cut c' n) {x : AV} {cs : List Value} : AV.Is c x cs → x.lt n = true → AV.Is c' x cs
  | .d x cs h, _ => .d x cs (h.mono hc.M)
  | .full n f a h, _ => .full n f a (h.mono hc.M)
  | .nq b n f v h hb, _ => .nq b n f v (h.mono hc.M) hb
  | .err b v h, _ => .err b v h
  | .agg gs cs h, hb => .agg gs cs (AV.IsL.cut hc h (by simpa [AV.lt] using hb))
  | .ptr o st path v h, hb => .ptr o st path v (by
    have ho : o < n := by simpa [AV.lt] using hb
    unfold PtrOk at *
    rw [hc.L o ho, hc.ms o ho]
    exact ⟨Nat.lt_of_lt_of_le ho hc.len, h.2⟩)
  | .imm x b off ar cs hb h hc', _ => .imm x b off ar cs (hc.M _ _ hb) (h.mono hc.M) hc'
  | .ref o st off n v h, hb => .ref o st off n v (by
    have ho := by simpa [AV.lt] using hb
    unfold RefOk at *
    rw [hc.L o ho, hc.ms o ho]
    exact ⟨Nat.lt_of_lt_of_le ho hc.len, h.2⟩)
  | .map o v h, hb => .map o v (by
    have ho := by simpa [AV.lt] using hb
    unfold MapOk at *
    rw [hc.L o ho, hc.ms o ho]
    exact ⟨Nat.lt_of_lt_of_le ho hc.len, h.2⟩)
  | .fn f caps vs h, hb => .fn f caps vs (AV.IsVs.cut hc h (by simpa [AV.lt] using hb))
  | .bot v h, _ => .bot v h
theorem AV.IsL.cut {c c' : Cx} {n : Nat} (hc : c.cut c' n) {xs : List AV} {cs : List Value} : AV.IsL c xs cs → AV.ltL n xs = true → AV.IsL c' xs cs
  | .nil, _ => .nil
  | .cons x xs k ks h ht, hb => by
    simp only [AV.ltL, Bool.and_eq_true] at hb
    exact .cons x xs k ks (AV.Is.cut hc h hb.1) (AV.IsL.cut hc ht hb.2)
theorem AV.IsV.cut {c c' : Cx} {n : Nat} (hc : c.cut c' n) {x : AV} {v : Value} : AV.IsV c x v → x.lt n = true → AV.IsV c' x v
  | .agg av cs ha h, hb => .agg av cs ha (AV.Is.cut hc h hb)
  | .one av v ha h, hb => .one av v ha (AV.Is.cut hc h hb)
  | .tup vs us h, hb => .tup vs us (AV.IsVs.cut hc h (by simpa [AV.lt] using hb))
  | .bot v, _ => .bot v
theorem AV.IsVs.cut {c c' : Cx} {n : Nat} (hc : c.cut c' n) {xs : List AV} {vs : List Value} : AV.IsVs c xs vs → AV.ltL n xs = true → AV.IsVs c' xs vs
  | .nil, _ => .nil
  | .cons x xs v vs h ht, hb => by
    simp only [AV.ltL, Bool.and_eq_true] at hb
    exact .cons x xs v vs (AV.IsV.cut hc h hb.1) (AV.IsVs.cut hc ht hb.2)
end

theorem EntsIs.cut {c c' : Cx} {n : Nat} (hc : c.cut c' n) : ∀ {es : List (DV × DV)} {r : List MapEntry}, EntsIs c es r → EntsIs c' es r
  | [], [], _ => trivial
  | (_, _) :: _, _ :: _, h => ⟨h.1.cut hc rfl, h.2.1.cut hc rfl, EntsIs.cut hc h.2.2⟩
  | [], _ :: _, h => h.elim
  | _ :: _, [], h => h.elim

theorem ObIs.cut {c c' : Cx} {n : Nat} (hc : c.cut c' n) {w : World} {o : Nat} {obj : Ob} (ho : o < n) (hb : obj.lt n) (h : ObIs c w o obj) : ObIs c' w o obj := by
  cases obj with
  | box x =>
    rcases h with h | ⟨b, tc, arr, e, h1, h2, h3⟩
    · exact .inl ((hc.ms o ho).trans h)
    · exact .inr ⟨b, tc, arr, e, (hc.ms o ho).trans h1, h2, h3.cut hc hb⟩
  | seq sz m f =>
    rcases h with h | ⟨b, tc, arr, e, cs, h1, h2, h3, h4, h5, h6⟩
    · exact .inl ⟨(hc.ms o ho).trans h.1, h.2⟩
    · exact .inr ⟨b, tc, arr, e, cs, (hc.ms o ho).trans h1, h2, h3, h4, fun i hi => (h5 i hi).cut hc (hb i hi), h6⟩
  | map es =>
    obtain ⟨b, tc, ents, clock, h1, h2, h3, h4⟩ := h
    exact ⟨b, tc, ents, clock, (hc.ms o ho).trans h1, h2, h3.cut hc, h4⟩
  | dead => trivial
  | unb => exact (hc.ms o ho).trans h

theorem cut_of {X : Nat → Prop} {ms : Blocks} {L J : List Ob} {w : World} : (cxOf X ms (L ++ J) w).cut (cxOf X (ms.take L.length) L w) L.length where
  M := fun b arr h => by
    obtain ⟨h1, h2, e, fz, h3⟩ := memOf_some h
    exact memOf_intro h1 (fun ⟨o, tc, ho⟩ => h2 ⟨o, tc, by
      by_cases hlt : o < L.length
      · rw [List.getElem?_take_of_lt hlt] at ho; exact ho
      · rw [List.getElem?_eq_none (by simp; omega)] at ho; cases ho⟩) h3
  len := Nat.le_refl _
  L := fun o ho => by simp [cxOf, List.getElem?_append_left ho]
  ms := fun o ho => by simp [cxOf, List.getElem?_take_of_lt ho]

theorem Rel.forget {X : Nat → Prop} {ms : Blocks} {L J : List Ob} {w : World} (h : Rel X ms (L ++ J) w) (hb : ∀ (o : Nat) (obj : Ob), L[o]? = some obj → obj.lt L.length) :
    Rel X (ms.take L.length) L w := by
  have hget : ∀ (o : Nat) b tc, (ms.take L.length)[o]? = some (some (b, tc)) → ms[o]? = some (some (b, tc)) := fun o b tc e => by
    by_cases hlt : o < L.length
    · rw [List.getElem?_take_of_lt hlt] at e; exact e
    · rw [List.getElem?_eq_none (by simp; omega)] at e; cases e
  refine ⟨?_, fun b ⟨o, tc, e⟩ => h.lt b ⟨o, tc, hget o b tc e⟩, h.xlt, fun o o' b tc tc' e e' => h.inj o o' b tc tc' (hget _ _ _ e) (hget _ _ _ e'), fun o obj ho => ?_, h.glob.mono (cut_of (J := J)).M⟩
  · have := h.len
    simp at this
    simp; omega
  · have hlt : o < L.length := by
      rcases Nat.lt_or_ge o L.length with h' | h'
      · exact h'
      · rw [List.getElem?_eq_none h'] at ho; cases ho
    exact (h.obs o obj (by rw [List.getElem?_append_left hlt]; exact ho)).cut cut_of hlt (hb o obj ho)

theorem Ext.forget {ms ms' : Blocks} {w w' : World} (h : Ext ms w ms' w') (n : Nat) : Ext ms w (ms'.take n) w' :=
  ⟨h.size, fun b hb ho => ⟨(h.keep b hb ho).1, fun ⟨o, tc, e⟩ => (h.keep b hb ho).2 ⟨o, tc, by
    by_cases hlt : o < n
    · rw [List.getElem?_take_of_lt hlt] at e; exact e
    · rw [List.getElem?_eq_none (by simp; omega)] at e; cases e⟩⟩, h.out⟩

theorem Cx.le.forget {c : Cx} {X : Nat → Prop} {ms' : Blocks} {L J : List Ob} {w' : World} (h : c.le (cxOf X ms' (L ++ J) w')) (hl : c.L.length ≤ L.length) :
    c.le (cxOf X (ms'.take L.length) L w') where
  M := h.M.trans (cut_of (J := J)).M
  L := hl
  ob := fun o obj' ho hl' hs => by
    have hlt : o < L.length := Nat.lt_of_lt_of_le ho hl
    obtain ⟨obj, k1, k2, k3, k4⟩ := h.ob o obj' ho (by simp only [cxOf] at hl' ⊢; rw [List.getElem?_append_left hlt]; exact hl') hs
    exact ⟨obj, k1, k2, k3, fun e => by rw [← k4 e]; simp [cxOf, List.getElem?_take_of_lt hlt]⟩
end Go.TA

namespace Go.TA
open Go
variable {z : Option Nat}

/-! ## loops -/
/-- What is left of objects at a loop's head. -/
def LLe (L L' : List Ob) : Prop := ∃ J, L = L' ++ J ∧ ∀ (o : Nat) (obj : Ob), L'[o]? = some obj → obj.lt L'.length
/-- Slots and objects said less of: what is named lies among the first objects. -/
def StLe (fr : Fr) (L : List Ob) (fr' : Fr) (L' : List Ob) : Prop :=
  FrLe fr fr' ∧ (L = L' ∨ (LLe L L' ∧ ∀ x ∈ fr', x.2.lt L'.length = true))

theorem StLe.refl (fr : Fr) (L : List Ob) : StLe fr L fr L := ⟨FrLe.refl _, .inl rfl⟩

theorem StLe.rel {X : Nat → Prop} {ms0 ms : Blocks} {L0 L L' : List Ob} {fr fr' : Fr} {w0 w : World} {tmps : Array Value} (h : StLe fr L fr' L') (hl : L0.length ≤ L'.length)
    (hr : Rel X ms L w) (he : Ext ms0 w0 ms w) (hc : (cxOf X ms0 L0 w0).le (cxOf X ms L w)) (hf : FrIs (cxOf X ms L w) fr.up tmps) :
    ∃ ms', Rel X ms' L' w ∧ Ext ms0 w0 ms' w ∧ (cxOf X ms0 L0 w0).le (cxOf X ms' L' w) ∧ FrIs (cxOf X ms' L' w) fr'.up tmps := by
  obtain ⟨h1, h2⟩ := h
  have hf' := h1.is hf
  rcases h2 with rfl | ⟨⟨J, rfl, hb⟩, hlt⟩
  · exact ⟨ms, hr, he, hc, hf'⟩
  · refine ⟨ms.take L'.length, hr.forget hb, he.forget _, hc.forget hl, fun x hx => ?_⟩
    obtain ⟨y, hy, rfl⟩ := List.mem_map.1 hx
    obtain ⟨k1, k2, k3⟩ := hf' _ hx
    exact ⟨k1, fun hh => (k2 hh).cut cut_of (hlt y hy), k3⟩

section
variable {P : Program} {N : Nat} {Q : Post} {fr : Fr} {L : List Ob}

theorem wpIn_loop_in {F : Fence} {n : Nat} {P : Program} {c : Code} {Q : Exit → Act → World → Prop} {σ : Type} (R : σ → Act → World → Prop) (μ : σ → Nat)
    (round : ∀ s a w, R s a w → c.wpIn F n P (Exit.then (fun a' w' => ∃ s', R s' a' w' ∧ μ s' < μ s) Q) a w) (s : σ) (a : Act) (w : World) (h : R s a w) : (Code.loop c).wpIn F n P Q a w := by
  intro b k cs hro hb hr
  have key : ∀ m s a w, μ s = m → R s a w → ∃ e a' w', Q e a' w' ∧ ArrivesIn (Machine.fenced P F) P (lone (b.atR a (.code c :: .inLoop c :: k)) cs w) b k cs e a' w' := by
    intro m
    induction m using Nat.strongRecOn with
    | _ m ih =>
      intro s a w hn hI
      obtain ⟨e, a₁, w₁, hq, harr⟩ := round s a w hI b (.inLoop c :: k) cs hro hb hr
      cases e with
      | normal =>
        obtain ⟨s', hI₁, hlt⟩ := hq
        obtain ⟨e₂, a₂, w₂, hq₂, harr₂⟩ := ih (μ s') (hn ▸ hlt) s' a₁ w₁ rfl hI₁
        exact ⟨e₂, a₂, w₂, hq₂, .of_steps (StepsIn.trans harr (.one (fenced_calm hb hr rfl) stepR_inLoop)) harr₂⟩
      | exit id => exact ⟨_, a₁, w₁, hq, .pass (x := .inLoop c) rfl (fun _ _ => .inl (by simp)) harr⟩
      | goto l => exact ⟨_, a₁, w₁, hq, .pass (x := .inLoop c) rfl (fun _ _ => .inl (by simp)) harr⟩
      | ret => exact ⟨_, a₁, w₁, hq, .pass (x := .inLoop c) rfl (fun _ _ => .inl (by simp)) harr⟩
      | panic ch => exact ⟨_, a₁, w₁, hq, .pass (x := .inLoop c) rfl (fun _ _ => .inl (by simp)) harr⟩
      | outgrown => exact ⟨_, a₁, w₁, hq, .pass (x := .inLoop c) rfl (fun _ _ => .inl (by simp)) harr⟩
  obtain ⟨e, a', w', hq, harr⟩ := key _ s a w rfl h
  exact ⟨e, a', w', hq, .of_steps (.one (fenced_calm hb hr rfl) stepR_loop) harr⟩

/-- **A loop**: what is known at its head is a function of a state s; every round lowers a measure of it. -/
theorem aw_loop {c : Code} {σ : Type} (I : σ → Fr) (LI : σ → List Ob) (ok : σ → Prop) (Qs : σ → Post) (μ : σ → Nat)
    (round : ∀ s, ok s → AW z P N c (fun e fr' L' => match e with
      | .normal => ∃ s', ok s' ∧ StLe fr' L' (I s') (LI s') ∧ μ s' < μ s ∧ (LI s).length = (LI s').length ∧ ∀ e fr L, Qs s' e fr L → Qs s e fr L
      | e => Qs s e fr' L') (I s) (LI s))
    (s : σ) (hs : ok s) (hfr : StLe fr L (I s) (LI s)) (hlen : L.length ≤ (LI s).length) (hQ : ∀ e fr L, Qs s e fr L → Q e fr L) : AW z P N (.loop c) Q fr L := by
  intro zn df X ms w a hr hf hN hd
  refine wpIn_loop_in (σ := σ) (fun s' a' w' => ok s' ∧ (LI s).length = (LI s').length ∧ (∀ e fr L, Qs s' e fr L → Qs s e fr L) ∧ ∃ ms', Rel X ms' (LI s') w' ∧ Ext ms w ms' w' ∧ (cxOf X ms L w).le (cxOf X ms' (LI s') w') ∧
    FrIs (cxOf X ms' (LI s') w') (I s').up a'.tmps ∧ a'.tmps.size = N ∧ a'.defers = df) μ ?_ s a w ?_
  · rintro s1 a1 w1 ⟨hok, hll, hqs, ms1, r1, e1, c1, f1, n1, d1⟩
    refine wpIn_mono (round s1 hok zn df X ms1 w1 a1 r1 f1 n1 d1) ?_
    rintro e a2 w2 ⟨ms2, fr2, L2, q2, r2, e2, c2, f2, n2, d2⟩
    cases e with
    | normal =>
      obtain ⟨s3, ok3, st3, m3, l3, q3⟩ := q2
      obtain ⟨ms3, k1, k2, k3, k4⟩ := st3.rel (by have := c1.L; simp only [cxOf] at this; omega) r2 (e1.trans e2) (c1.trans c2) f2
      exact ⟨s3, ⟨ok3, by omega, fun e fr L h => hqs e fr L (q3 e fr L h), ms3, k1, k2, k3, k4, n2, d2⟩, m3⟩
    | exit id => exact ⟨ms2, fr2, L2, hQ _ _ _ (hqs _ _ _ q2), r2, e1.trans e2, c1.trans c2, f2, n2, d2⟩
    | goto id => exact ⟨ms2, fr2, L2, hQ _ _ _ (hqs _ _ _ q2), r2, e1.trans e2, c1.trans c2, f2, n2, d2⟩
    | ret => exact ⟨ms2, fr2, L2, hQ _ _ _ (hqs _ _ _ q2), r2, e1.trans e2, c1.trans c2, f2, n2, d2⟩
    | panic id => exact ⟨ms2, fr2, L2, hQ _ _ _ (hqs _ _ _ q2), r2, e1.trans e2, c1.trans c2, f2, n2, d2⟩
    | outgrown => exact ⟨ms2, fr2, L2, hQ _ _ _ (hqs _ _ _ q2), r2, e1.trans e2, c1.trans c2, f2, n2, d2⟩
  · obtain ⟨ms', k1, k2, k3, k4⟩ := hfr.rel hlen hr (Ext.refl _ _) (Cx.le.refl _) hf
    exact ⟨hs, rfl, fun _ _ _ h => h, ms', k1, k2, k3, k4, hN, hd⟩
end

/-! ## what a function returns -/
def resL (P : Program) (fr : Fr) (L : List Ob) : List ResultVar → Option (List AV × List Prop)
  | [] => some ([], [])
  | .tmp t :: r => match opnd fr.up [] (.tmp t), resL P fr L r with
    | some v, some (vs, C) => some (v :: vs, C)
    | _, _ => none
  | .cell a t :: r => match (opnd fr.up [] (.tmp a)).bind (vLoad P L t), resL P fr L r with
    | some (v, C1), some (vs, C) => some (v :: vs, C1 ++ C)
    | _, _ => none

def resV (P : Program) (fn : Func) (fr : Fr) (L : List Ob) : Option (AV × List Prop) :=
  match resL P fr L fn.results.toList with
  | some ([v], C) => some (v, C)
  | some (vs, C) => some (.tup vs, C)
  | none => none

theorem run_asAddr {P : Program} {w : World} {a : Addr} : (asAddr (.pointer (some a))).run P w = .ok a w := rfl

def resRead (tmps : Array Value) : ResultVar → Sem Value
  | .tmp t => pure (tmps.getD t undef)
  | .cell x t => do loadVar t (← asAddr (tmps.getD x undef))

theorem resL_ok {P : Program} {X : Nat → Prop} {ms : Blocks} {L : List Ob} {w : World} {fr : Fr} {a : Act} (hr : Rel X ms L w) (hf : FrIs (cxOf X ms L w) fr.up a.tmps) :
    ∀ {l : List ResultVar} {vs : List AV} {C : List Prop}, resL P fr L l = some (vs, C) → AllP C →
    ∃ us, (l.mapM (resRead a.tmps)).run P w = .ok us w ∧ AV.IsVs (cxOf X ms L w) vs us
  | [], vs, C, h, _ => by simp [resL] at h; obtain ⟨rfl, rfl⟩ := h; exact ⟨[], rfl, .nil⟩
  | .tmp t :: r, vs, C, h, hc => by
    simp only [resL] at h
    split at h
    · rename_i v vs' C' ho hrest
      cases h
      obtain ⟨us, k1, k2⟩ := resL_ok hr hf hrest hc
      have := opnd_is ho hf (fun y hy => by cases hy)
      refine ⟨a.tmps.getD t undef :: us, ?_, .cons _ _ _ _ this k2⟩
      simp only [List.mapM_cons, resRead, Sem.run_bind, Sem.run_pure, Result.andThen_ok, k1]
    · cases h
  | .cell x t :: r, vs, C, h, hc => by
    simp only [resL] at h
    split at h
    · rename_i v C1 vs' C' ho hrest
      cases h
      obtain ⟨hc1, hc2⟩ := AllP_append.1 hc
      obtain ⟨us, k1, k2⟩ := resL_ok hr hf hrest hc2
      cases hx : opnd fr.up [] (.tmp x) with
      | none => simp [hx] at ho
      | some xv =>
        simp [hx] at ho
        have hxv := opnd_is hx hf (fun y hy => by cases hy)
        obtain ⟨u, l1, l2⟩ := vLoad_ok (P := P) hr ho hc1 hxv
        refine ⟨u :: us, ?_, .cons _ _ _ _ l2 k2⟩
        have hptr : ∃ ad, a.eval (.tmp x) = .pointer (some ad) := by
          generalize hu : a.eval (.tmp x) = u0 at l1
          cases u0 with
          | pointer p =>
            cases p with
            | none => simp [Instr.loadAt, Instr.sureAddr] at l1
            | some ad => exact ⟨ad, rfl⟩
          | _ => simp [Instr.loadAt, Instr.sureAddr] at l1
        obtain ⟨ad, had⟩ := hptr
        rw [had] at l1
        have had' : a.tmps.getD x undef = .pointer (some ad) := had
        simp only [Instr.loadAt, Instr.sureAddr, Sem.run_bind, Sem.run_pure, Result.andThen_ok] at l1
        simp only [List.mapM_cons, resRead, Sem.run_bind, had', run_asAddr, Result.andThen_ok, l1, k1, Sem.run_pure]
    · cases h

theorem resV_ok {P : Program} {X : Nat → Prop} {ms : Blocks} {L : List Ob} {w : World} {fr : Fr} {a : Act} {fn : Func} {v : AV} {C : List Prop} (hr : Rel X ms L w) (hf : FrIs (cxOf X ms L w) fr.up a.tmps)
    (h : resV P fn fr L = some (v, C)) (hc : AllP C) : ∃ u, (results fn a.tmps).run P w = .ok u w ∧ AV.IsV (cxOf X ms L w) v u := by
  unfold resV at h
  have hrun : ∀ us, (fn.results.toList.mapM (resRead a.tmps)).run P w = .ok us w →
      (results fn a.tmps).run P w = .ok (if h : us.length = 1 then us[0] else .tuple us.toArray) w := fun us e => by
    have hres : results fn a.tmps = (fn.results.mapM (resRead a.tmps) >>= fun vs => pure (if h : vs.size = 1 then vs[0] else .tuple vs)) := rfl
    rw [hres, Array.mapM_eq_mapM_toList]
    simp only [Sem.run_bind, Sem.run_map, e, Result.andThen_ok, Sem.run_pure]
    congr 1
  split at h
  · rename_i v' C' hl
    cases h
    obtain ⟨us, k1, k2⟩ := resL_ok hr hf hl hc
    cases k2 with
    | cons _ _ u us' h1 h2 =>
    cases h2
    exact ⟨u, by rw [hrun _ k1]; simp, h1⟩
  · rename_i vs C' hne hl
    cases h
    obtain ⟨us, k1, k2⟩ := resL_ok hr hf hl hc
    refine ⟨.tuple us.toArray, ?_, .tup _ _ k2⟩
    rw [hrun _ k1, dif_neg]
    intro h1
    cases k2 with
    | nil => simp at h1
    | cons x xs u us' h2 h3 =>
      cases h3 with
      | nil => exact hne x rfl
      | cons => simp at h1
  · cases h

/-- What is known when a function is entered. -/
def argFr : List AV → Nat → Fr
  | [], _ => []
  | v :: r, i => (i, v) :: argFr r (i + 1)

theorem argFr_is {c : Cx} : ∀ {as : List AV} {us : List Value} (i : Nat) (tmps : Array Value), AV.IsVs c as us → (∀ k, k < us.length → tmps.getD (i + k) undef = us.getD k undef ∧ i + k < tmps.size) →
    FrIs c (argFr as i).up tmps
  | _, _, i, tmps, .nil, _ => fun x hx => by cases hx
  | _, _, i, tmps, .cons v vs u us h ht, hk => by
    intro x hx
    rcases List.mem_cons.1 hx with rfl | hx
    · have := hk 0 (by simp)
      simp at this
      refine ⟨this.2, fun _ => ?_, fun hh => absurd (fun y hy => by cases hy) hh⟩
      show AV.IsV c v (tmps.getD i undef)
      have e : tmps.getD i undef = u := by simpa using this.1
      rw [e]; exact h
    · refine argFr_is (i + 1) tmps ht (fun k hk' => ?_) x hx
      have := hk (k + 1) (by simpa using hk')
      rw [Nat.add_assoc, Nat.add_comm 1 k]
      simpa using this

/-- **A function's contract out of its body.** -/
theorem callOk_of_aw {P : Program} {f : FuncId} {fn : Func} {c : Code} {args : List AV} {L L' : List Ob} {v : AV} (hf : P.funcs[f]? = some fn) (hb : fn.body = some c) (hn : args.length ≤ fn.ntmps)
    (hl : L.length ≤ L'.length) (hv : v.lt L'.length = true) (hLb : ∀ (o : Nat) (obj : Ob), L'[o]? = some obj → obj.lt L'.length)
    (h : AW none P fn.ntmps c (fun e fr1 L1 => (e = .normal ∨ e = .ret) ∧ ∃ v1 C J, resV P fn fr1 L1 = some (v1, C) ∧ AllP C ∧ LeV v1 v ∧ L1 = L' ++ J) (argFr args 0) L) :
    CallOk P f args L v L' := by
  intro X ms w us hr hu
  refine calls_of_wp hf hb (wpIn_wide (n := 0).1 ?_)
  have hlen : ∀ {as : List AV} {us : List Value}, AV.IsVs (cxOf X ms L w) as us → us.length = as.length := by
    intro as us h
    induction as generalizing us with
    | nil => cases h; rfl
    | cons x xs ih => cases h with | cons _ _ _ _ _ ht => simp [ih ht]
  have hul := hlen hu
  have hfr : FrIs (cxOf X ms L w) (argFr args 0).up (us.toArray ++ Array.replicate (fn.ntmps - us.toArray.size) undef) :=
    argFr_is 0 _ hu (fun k hk => by
      refine ⟨?_, by simp; omega⟩
      simp only [Nat.zero_add, Array.getD_eq_getD_getElem?]
      rw [Array.getElem?_append_left (by simpa using hk)]
      simp [List.getD])
  refine wpIn_mono (h 0 [] X ms w _ hr hfr (by simp; omega) rfl) ?_
  rintro e a1 w1 ⟨ms1, fr1, L1, ⟨he, v1, C, J, hres, hC, hle, rfl⟩, r1, e1, c1, f1, _, d1⟩
  obtain ⟨u, k1, k2⟩ := resV_ok r1 f1 hres hC
  have hpost : ∃ v', (results fn a1.tmps).run P w1 = .ok v' w1 ∧ ∃ u ms', Ending.returned v' = .returned u ∧ Rel X ms' L' w1 ∧ Ext ms w ms' w1 ∧ (cxOf X ms L w).le (cxOf X ms' L' w1) ∧ AV.IsV (cxOf X ms' L' w1) v u :=
    ⟨u, k1, u, ms1.take L'.length, rfl, r1.forget hLb, e1.forget _, c1.forget hl, (hle _ _ k2).cut cut_of hv⟩
  rcases he with rfl | rfl
  · exact ⟨d1, hpost⟩
  · exact ⟨d1, hpost⟩
end Go.TA
