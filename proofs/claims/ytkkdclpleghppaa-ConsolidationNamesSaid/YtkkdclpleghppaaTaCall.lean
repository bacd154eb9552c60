/- A part of the proof: laws over any program of the abstract machine. No condition. -/
import Derived.Test.YtkkdclpleghppaaTaCode
namespace Go.TA
open Go

/-! ## loops -/
/-- What is left of objects at a loop's head. -/
def LLe (L L' : List Ob) : Prop := ∃ J, L = L' ++ J ∧ ∀ (o : Nat) (obj : Ob), L'[o]? = some obj → obj.lt L'.length
/-- Slots and objects said less of: what is named lies among the first objects. -/
def StLe (fr : Fr) (L : List Ob) (fr' : Fr) (L' : List Ob) : Prop :=
  FrLe fr fr' ∧ (L = L' ∨ (LLe L L' ∧ ∀ x ∈ fr', x.2.lt L'.length = true))

theorem StLe.refl (fr : Fr) (L : List Ob) : StLe fr L fr L := ⟨FrLe.refl _, .inl rfl⟩

theorem StLe.rel {X : Nat → Prop} {ms0 ms : Blocks} {L0 L L' : List Ob} {fr fr' : Fr} {w0 w : World} {tmps : Array Value} (h : StLe fr L fr' L') (hl : L0.length ≤ L'.length)
    (hr : Rel X ms L w) (he : Ext ms0 w0 ms w) (hc : (cxOf X ms0 L0 w0).le (cxOf X ms L w)) (hf : FrIs (cxOf X ms L w) fr.up tmps) :
    ∃ ms', Rel X ms' L' w ∧ Ext ms0 w0 ms' w ∧ (cxOf X ms0 L0 w0).le (cxOf X ms' L' w) ∧ FrIs (cxOf X ms' L' w) fr'.up tmps := by
  obtain ⟨h1, h2⟩ := h
  have hf' := h1.is hf
  rcases h2 with rfl | ⟨⟨J, rfl, hb⟩, hlt⟩
  · exact ⟨ms, hr, he, hc, hf'⟩
  · refine ⟨ms.take L'.length, hr.forget hb, he.forget _, hc.forget hl, fun x hx => ?_⟩
    obtain ⟨y, hy, rfl⟩ := List.mem_map.1 hx
    obtain ⟨k1, k2, k3⟩ := hf' _ hx
    exact ⟨k1, fun hh => (k2 hh).cut cut_of (hlt y hy), k3⟩

section
variable {P : Program} {N : Nat} {Q : Post} {fr : Fr} {L : List Ob}

theorem wp_loop_in {P : Program} {c : Code} {Q : Exit → Act → World → Prop} {σ : Type} (R : σ → Act → World → Prop) (μ : σ → Nat)
    (round : ∀ s a w, R s a w → c.wp P (Exit.then (fun a' w' => ∃ s', R s' a' w' ∧ μ s' < μ s) Q) a w) (s : σ) (a : Act) (w : World) (h : R s a w) : (Code.loop c).wp P Q a w := by
  intro b k cs
  have key : ∀ n s a w, μ s = n → R s a w → ∃ e a' w', Q e a' w' ∧ Arrives P (lone (b.at a (.code c :: .inLoop c :: k)) cs w) b k cs e a' w' := by
    intro n
    induction n using Nat.strongRecOn with
    | _ n ih =>
      intro s a w hn hI
      obtain ⟨e, a₁, w₁, hq, harr⟩ := round s a w hI b (.inLoop c :: k) cs
      cases e with
      | normal =>
        obtain ⟨s', hI₁, hlt⟩ := hq
        obtain ⟨e₂, a₂, w₂, hq₂, harr₂⟩ := ih (μ s') (hn ▸ hlt) s' a₁ w₁ rfl hI₁
        exact ⟨e₂, a₂, w₂, hq₂, .of_steps (Steps.trans harr (.one step_inLoop)) harr₂⟩
      | exit id => exact ⟨_, a₁, w₁, hq, .pass (x := .inLoop c) rfl (fun _ _ => .inl (by simp)) harr⟩
      | goto l => exact ⟨_, a₁, w₁, hq, .pass (x := .inLoop c) rfl (fun _ _ => .inl (by simp)) harr⟩
      | ret => exact ⟨_, a₁, w₁, hq, .pass (x := .inLoop c) rfl (fun _ _ => .inl (by simp)) harr⟩
      | panic ch => exact ⟨_, a₁, w₁, hq, .pass (x := .inLoop c) rfl (fun _ _ => .inl (by simp)) harr⟩
      | outgrown => exact ⟨_, a₁, w₁, hq, .pass (x := .inLoop c) rfl (fun _ _ => .inl (by simp)) harr⟩
  obtain ⟨e, a', w', hq, harr⟩ := key _ s a w rfl h
  exact ⟨e, a', w', hq, .of_steps (.one step_loop) harr⟩

/-- **A loop**: what is known at its head is a function of a state s; every round lowers a measure of it. -/
theorem aw_loop {c : Code} {σ : Type} (I : σ → Fr) (LI : σ → List Ob) (ok : σ → Prop) (Qs : σ → Post) (μ : σ → Nat)
    (round : ∀ s, ok s → AW P N c (fun e fr' L' => match e with
      | .normal => ∃ s', ok s' ∧ StLe fr' L' (I s') (LI s') ∧ μ s' < μ s ∧ (LI s).length = (LI s').length ∧ ∀ e fr L, Qs s' e fr L → Qs s e fr L
      | e => Qs s e fr' L') (I s) (LI s))
    (s : σ) (hs : ok s) (hfr : StLe fr L (I s) (LI s)) (hlen : L.length ≤ (LI s).length) (hQ : ∀ e fr L, Qs s e fr L → Q e fr L) : AW P N (.loop c) Q fr L := by
  intro X ms w a hr hf hN hd
  refine wp_loop_in (σ := σ) (fun s' a' w' => ok s' ∧ (LI s).length = (LI s').length ∧ (∀ e fr L, Qs s' e fr L → Qs s e fr L) ∧ ∃ ms', Rel X ms' (LI s') w' ∧ Ext ms w ms' w' ∧ (cxOf X ms L w).le (cxOf X ms' (LI s') w') ∧
    FrIs (cxOf X ms' (LI s') w') (I s').up a'.tmps ∧ a'.tmps.size = N ∧ a'.defers = []) μ ?_ s a w ?_
  · rintro s1 a1 w1 ⟨hok, hll, hqs, ms1, r1, e1, c1, f1, n1, d1⟩
    refine wp_mono (round s1 hok X ms1 w1 a1 r1 f1 n1 d1) ?_
    rintro e a2 w2 ⟨ms2, fr2, L2, q2, r2, e2, c2, f2, n2, d2⟩
    cases e with
    | normal =>
      obtain ⟨s3, ok3, st3, m3, l3, q3⟩ := q2
      obtain ⟨ms3, k1, k2, k3, k4⟩ := st3.rel (by have := c1.L; simp only [cxOf] at this; omega) r2 (e1.trans e2) (c1.trans c2) f2
      exact ⟨s3, ⟨ok3, by omega, fun e fr L h => hqs e fr L (q3 e fr L h), ms3, k1, k2, k3, k4, n2, d2⟩, m3⟩
    | exit id => exact ⟨ms2, fr2, L2, hQ _ _ _ (hqs _ _ _ q2), r2, e1.trans e2, c1.trans c2, f2, n2, d2⟩
    | goto id => exact ⟨ms2, fr2, L2, hQ _ _ _ (hqs _ _ _ q2), r2, e1.trans e2, c1.trans c2, f2, n2, d2⟩
    | ret => exact ⟨ms2, fr2, L2, hQ _ _ _ (hqs _ _ _ q2), r2, e1.trans e2, c1.trans c2, f2, n2, d2⟩
    | panic id => exact ⟨ms2, fr2, L2, hQ _ _ _ (hqs _ _ _ q2), r2, e1.trans e2, c1.trans c2, f2, n2, d2⟩
    | outgrown => exact ⟨ms2, fr2, L2, hQ _ _ _ (hqs _ _ _ q2), r2, e1.trans e2, c1.trans c2, f2, n2, d2⟩
  · obtain ⟨ms', k1, k2, k3, k4⟩ := hfr.rel hlen hr (Ext.refl _ _) (Cx.le.refl _) hf
    exact ⟨hs, rfl, fun _ _ _ h => h, ms', k1, k2, k3, k4, hN, hd⟩
end

/-! ## what a function returns -/
def resL (P : Program) (fr : Fr) (L : List Ob) : List ResultVar → Option (List AV × List Prop)
  | [] => some ([], [])
  | .tmp t :: r => match opnd fr.up [] (.tmp t), resL P fr L r with
    | some v, some (vs, C) => some (v :: vs, C)
    | _, _ => none
  | .cell a t :: r => match (opnd fr.up [] (.tmp a)).bind (vLoad P L t), resL P fr L r with
    | some (v, C1), some (vs, C) => some (v :: vs, C1 ++ C)
    | _, _ => none

def resV (P : Program) (fn : Func) (fr : Fr) (L : List Ob) : Option (AV × List Prop) :=
  match resL P fr L fn.results.toList with
  | some ([v], C) => some (v, C)
  | some (vs, C) => some (.tup vs, C)
  | none => none

theorem run_asAddr {P : Program} {w : World} {a : Addr} : (asAddr (.pointer (some a))).run P w = .ok a w := rfl

def resRead (tmps : Array Value) : ResultVar → Sem Value
  | .tmp t => pure (tmps.getD t undef)
  | .cell x t => do loadVar t (← asAddr (tmps.getD x undef))

theorem resL_ok {P : Program} {X : Nat → Prop} {ms : Blocks} {L : List Ob} {w : World} {fr : Fr} {a : Act} (hr : Rel X ms L w) (hf : FrIs (cxOf X ms L w) fr.up a.tmps) :
    ∀ {l : List ResultVar} {vs : List AV} {C : List Prop}, resL P fr L l = some (vs, C) → AllP C →
    ∃ us, (l.mapM (resRead a.tmps)).run P w = .ok us w ∧ AV.IsVs (cxOf X ms L w) vs us
  | [], vs, C, h, _ => by simp [resL] at h; obtain ⟨rfl, rfl⟩ := h; exact ⟨[], rfl, .nil⟩
  | .tmp t :: r, vs, C, h, hc => by
    simp only [resL] at h
    split at h
    · rename_i v vs' C' ho hrest
      cases h
      obtain ⟨us, k1, k2⟩ := resL_ok hr hf hrest hc
      have := opnd_is ho hf (fun y hy => by cases hy)
      refine ⟨a.tmps.getD t undef :: us, ?_, .cons _ _ _ _ this k2⟩
      simp only [List.mapM_cons, resRead, Sem.run_bind, Sem.run_pure, Result.andThen_ok, k1]
    · cases h
  | .cell x t :: r, vs, C, h, hc => by
    simp only [resL] at h
    split at h
    · rename_i v C1 vs' C' ho hrest
      cases h
      obtain ⟨hc1, hc2⟩ := AllP_append.1 hc
      obtain ⟨us, k1, k2⟩ := resL_ok hr hf hrest hc2
      cases hx : opnd fr.up [] (.tmp x) with
      | none => simp [hx] at ho
      | some xv =>
        simp [hx] at ho
        have hxv := opnd_is hx hf (fun y hy => by cases hy)
        obtain ⟨u, l1, l2⟩ := vLoad_ok (P := P) hr ho hc1 hxv
        refine ⟨u :: us, ?_, .cons _ _ _ _ l2 k2⟩
        have hptr : ∃ ad, a.eval (.tmp x) = .pointer (some ad) := by
          generalize hu : a.eval (.tmp x) = u0 at l1
          cases u0 with
          | pointer p =>
            cases p with
            | none => simp [Instr.loadAt, Instr.sureAddr] at l1
            | some ad => exact ⟨ad, rfl⟩
          | _ => simp [Instr.loadAt, Instr.sureAddr] at l1
        obtain ⟨ad, had⟩ := hptr
        rw [had] at l1
        have had' : a.tmps.getD x undef = .pointer (some ad) := had
        simp only [Instr.loadAt, Instr.sureAddr, Sem.run_bind, Sem.run_pure, Result.andThen_ok] at l1
        simp only [List.mapM_cons, resRead, Sem.run_bind, had', run_asAddr, Result.andThen_ok, l1, k1, Sem.run_pure]
    · cases h

theorem resV_ok {P : Program} {X : Nat → Prop} {ms : Blocks} {L : List Ob} {w : World} {fr : Fr} {a : Act} {fn : Func} {v : AV} {C : List Prop} (hr : Rel X ms L w) (hf : FrIs (cxOf X ms L w) fr.up a.tmps)
    (h : resV P fn fr L = some (v, C)) (hc : AllP C) : ∃ u, (results fn a.tmps).run P w = .ok u w ∧ AV.IsV (cxOf X ms L w) v u := by
  unfold resV at h
  have hrun : ∀ us, (fn.results.toList.mapM (resRead a.tmps)).run P w = .ok us w →
      (results fn a.tmps).run P w = .ok (if h : us.length = 1 then us[0] else .tuple us.toArray) w := fun us e => by
    have hres : results fn a.tmps = (fn.results.mapM (resRead a.tmps) >>= fun vs => pure (if h : vs.size = 1 then vs[0] else .tuple vs)) := rfl
    rw [hres, Array.mapM_eq_mapM_toList]
    simp only [Sem.run_bind, Sem.run_map, e, Result.andThen_ok, Sem.run_pure]
    congr 1
  split at h
  · rename_i v' C' hl
    cases h
    obtain ⟨us, k1, k2⟩ := resL_ok hr hf hl hc
    cases k2 with
    | cons _ _ u us' h1 h2 =>
    cases h2
    exact ⟨u, by rw [hrun _ k1]; simp, h1⟩
  · rename_i vs C' hne hl
    cases h
    obtain ⟨us, k1, k2⟩ := resL_ok hr hf hl hc
    refine ⟨.tuple us.toArray, ?_, .tup _ _ k2⟩
    rw [hrun _ k1, dif_neg]
    intro h1
    cases k2 with
    | nil => simp at h1
    | cons x xs u us' h2 h3 =>
      cases h3 with
      | nil => exact hne x rfl
      | cons => simp at h1
  · cases h

/-- What is known when a function is entered. -/
def argFr : List AV → Nat → Fr
  | [], _ => []
  | v :: r, i => (i, v) :: argFr r (i + 1)

theorem argFr_is {c : Cx} : ∀ {as : List AV} {us : List Value} (i : Nat) (tmps : Array Value), AV.IsVs c as us → (∀ k, k < us.length → tmps.getD (i + k) undef = us.getD k undef ∧ i + k < tmps.size) →
    FrIs c (argFr as i).up tmps
  | _, _, i, tmps, .nil, _ => fun x hx => by cases hx
  | _, _, i, tmps, .cons v vs u us h ht, hk => by
    intro x hx
    rcases List.mem_cons.1 hx with rfl | hx
    · have := hk 0 (by simp)
      simp at this
      refine ⟨this.2, fun _ => ?_, fun hh => absurd (fun y hy => by cases hy) hh⟩
      show AV.IsV c v (tmps.getD i undef)
      have e : tmps.getD i undef = u := by simpa using this.1
      rw [e]; exact h
    · refine argFr_is (i + 1) tmps ht (fun k hk' => ?_) x hx
      have := hk (k + 1) (by simpa using hk')
      rw [Nat.add_assoc, Nat.add_comm 1 k]
      simpa using this

/-- **A function's contract out of its body.** -/
theorem callOk_of_aw {P : Program} {f : FuncId} {fn : Func} {c : Code} {args : List AV} {L L' : List Ob} {v : AV} (hf : P.funcs[f]? = some fn) (hb : fn.body = some c) (hn : args.length ≤ fn.ntmps)
    (hl : L.length ≤ L'.length) (hv : v.lt L'.length = true) (hLb : ∀ (o : Nat) (obj : Ob), L'[o]? = some obj → obj.lt L'.length)
    (h : AW P fn.ntmps c (fun e fr1 L1 => (e = .normal ∨ e = .ret) ∧ ∃ v1 C J, resV P fn fr1 L1 = some (v1, C) ∧ AllP C ∧ LeV v1 v ∧ L1 = L' ++ J) (argFr args 0) L) :
    CallOk P f args L v L' := by
  intro X ms w us hr hu
  refine calls_of_wp hf hb ?_
  have hlen : ∀ {as : List AV} {us : List Value}, AV.IsVs (cxOf X ms L w) as us → us.length = as.length := by
    intro as us h
    induction as generalizing us with
    | nil => cases h; rfl
    | cons x xs ih => cases h with | cons _ _ _ _ _ ht => simp [ih ht]
  have hul := hlen hu
  have hfr : FrIs (cxOf X ms L w) (argFr args 0).up (us.toArray ++ Array.replicate (fn.ntmps - us.toArray.size) undef) :=
    argFr_is 0 _ hu (fun k hk => by
      refine ⟨?_, by simp; omega⟩
      simp only [Nat.zero_add, Array.getD_eq_getD_getElem?]
      rw [Array.getElem?_append_left (by simpa using hk)]
      simp [List.getD])
  refine wp_mono (h X ms w _ hr hfr (by simp; omega) rfl) ?_
  rintro e a1 w1 ⟨ms1, fr1, L1, ⟨he, v1, C, J, hres, hC, hle, rfl⟩, r1, e1, c1, f1, _, d1⟩
  obtain ⟨u, k1, k2⟩ := resV_ok r1 f1 hres hC
  have hpost : ∃ v', (results fn a1.tmps).run P w1 = .ok v' w1 ∧ ∃ u ms', Ending.returned v' = .returned u ∧ Rel X ms' L' w1 ∧ Ext ms w ms' w1 ∧ (cxOf X ms L w).le (cxOf X ms' L' w1) ∧ AV.IsV (cxOf X ms' L' w1) v u :=
    ⟨u, k1, u, ms1.take L'.length, rfl, r1.forget hLb, e1.forget _, c1.forget hl, (hle _ _ k2).cut cut_of hv⟩
  rcases he with rfl | rfl
  · exact ⟨d1, hpost⟩
  · exact ⟨d1, hpost⟩
end Go.TA
