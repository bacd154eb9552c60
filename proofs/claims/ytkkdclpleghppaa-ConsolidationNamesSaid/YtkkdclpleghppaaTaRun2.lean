/- A part of the proof: laws over any program of the abstract machine. No condition. -/
import Derived.Test.YtkkdclpleghppaaTaRun
namespace Go.TA
open Go

structure HE where
  h : Hint := .none
  cast : Option AV := none
  obs : List (Nat × Ob) := []

def hintOf : List (Nat × HE) → Nat → HE
  | [], _ => {}
  | (j, h) :: r, i => if j == i then h else hintOf r i

/-- Under which guards an operation runs. -/
def guardCh (ops : Array Oper) (G : GFr) (o : Oper) : Option Chain :=
  match o.guard with
  | none => some []
  | some (j, want) => match (ops[j]?).bind (·.dst) with
    | some t => match G.get t with
      | some (ch, .d (.b _)) => some ((t, want) :: ch)
      | _ => none
    | none => none

def gP (G : GFr) : Chain → List Prop
  | [] => []
  | (s, want) :: r => (match G.get s with
    | some (_, .d (.b p)) => [p = want]
    | _ => []) ++ gP G r

/-- The guards of a chain are told. -/
def chainOk (G : GFr) : Chain → Bool
  | [] => true
  | (s, _) :: r => (match G.get s with
    | some (ch, .d (.b _)) => ch.all fun y => r.contains y
    | _ => false) && chainOk G r

def underG (G : GFr) (ch : Chain) (C : List Prop) : List Prop := match ch with
  | [] => C
  | _ => C.map fun c => AllP (gP G ch) → c

def castV (v : AV) : Option AV → AV × List Prop
  | none => (v, [])
  | some v' => (v', [LeV v v'])

def castObs : List (Nat × Ob) → List Ob → Option (List Ob × List Prop)
  | [], L => some (L, [])
  | (o, y) :: r, L => match L[o]? with
    | some x => match castObs r (L.set o y) with
      | some (L', C) => some (L', OLe x y :: C)
      | none => none
    | none => none

def putG (G : GFr) (N : Nat) (dst : Option Tmp) (ch : Chain) (v : AV) : Option GFr :=
  match dst with
  | none => some G
  | some t => if t < N ∧ ch.all (fun y => y.1 != t) = true then some (G.put t ch v) else none

def runOps (P : Program) (ops : Array Oper) (N : Nat) (hs : List (Nat × HE)) : List Nat → GFr → List Ob → Option (GFr × List Ob × List Prop)
  | [], G, L => some (G, L, [])
  | i :: r, G, L => match ops[i]? with
    | none => none
    | some o => match guardCh ops G o with
      | none => none
      | some ch => let e := hintOf hs i
        match astep P G ch L o e.h with
        | none => none
        | some (.val v C) =>
          let p := castV v e.cast
          match putG G N o.dst ch p.1 with
          | none => none
          | some G1 => match runOps P ops N hs r G1 L with
            | none => none
            | some (G', L', C') => some (G', L', underG G ch (C ++ p.2) ++ C')
        | some (.eff v L1 C) => match ch with
          | y :: ys =>
            let p := castV v e.cast
            if chainOk G (y :: ys) = true ∧ e.obs.length = 0 then match putG G N o.dst (y :: ys) p.1 with
              | none => none
              | some G1 => match runOps P ops N hs r G1 L1 with
                | none => none
                | some (G', L', C') => some (G', L', underG G (y :: ys) (C ++ p.2) ++ ((¬ AllP (gP G (y :: ys)) → L = L1) :: C'))
            else none
          | [] =>
            let p := castV v e.cast
            match castObs e.obs L1 with
            | none => none
            | some (L2, C2) => match putG G N o.dst [] p.1 with
              | none => none
              | some G1 => match runOps P ops N hs r G1 L2 with
                | none => none
                | some (G', L', C') => some (G', L', C ++ (p.2 ++ (C2 ++ C')))

theorem gP_holds {c : Cx} {G : GFr} {tmps : Array Value} (hf : FrIs c G tmps) : ∀ {ch : Chain}, holds ch tmps → AllP (gP G ch)
  | [], _ => trivial
  | (s, want) :: r, h => by
    simp only [gP]
    rw [AllP_append]
    refine ⟨?_, gP_holds hf (fun y hy => h y (List.mem_cons_of_mem _ hy))⟩
    have h0 := h (s, want) List.mem_cons_self
    split
    · rename_i ch' p hg
      have hs := hf _ (GFr.get_mem hg)
      by_cases hh : holds ch' tmps
      · have e := IsV.b (hs.2.1 hh)
        have : Value.bool p = Value.bool want := e.symm.trans h0
        cases this
        exact ⟨rfl, trivial⟩
      · have e := hs.2.2 hh
        have : undef = Value.bool want := e.symm.trans h0
        cases this
    · trivial

theorem gP_conv {c : Cx} {G : GFr} {tmps : Array Value} (hf : FrIs c G tmps) : ∀ {ch : Chain}, chainOk G ch = true → AllP (gP G ch) → holds ch tmps
  | [], _, _ => fun y hy => by cases hy
  | (s, want) :: r, hk, h => by
    simp only [chainOk, Bool.and_eq_true] at hk
    simp only [gP] at h
    rw [AllP_append] at h
    have ih := gP_conv hf hk.2 h.2
    intro y hy
    rcases List.mem_cons.1 hy with rfl | hy
    · have h1 := hk.1
      split at h1
      · rename_i ch0 p hg
        have hs := hf _ (GFr.get_mem hg)
        have e := IsV.b (hs.2.1 (holds_sub h1 ih))
        simp only [hg] at h
        have hp : p = want := h.1.1
        subst hp
        exact e
      · cases h1
    · exact ih y hy

theorem underG_all {c : Cx} {G : GFr} {tmps : Array Value} {ch : Chain} {C : List Prop} (hf : FrIs c G tmps) (hh : holds ch tmps) (h : AllP (underG G ch C)) : AllP C := by
  unfold underG at h
  split at h
  · exact h
  · have hg := gP_holds hf hh
    clear hh hf
    induction C with
    | nil => trivial
    | cons x r ih => exact ⟨h.1 hg, ih h.2⟩

theorem guard_wanted {c : Cx} {ops : Array Oper} {G : GFr} {o : Oper} {ch : Chain} {tmps : Array Value} (h : guardCh ops G o = some ch) (hf : FrIs c G tmps) :
    Region.wanted o (yielded ops tmps) = true ↔ holds ch tmps := by
  unfold guardCh at h
  split at h
  · rename_i hg
    cases h
    simp [Region.wanted, hg, holds]
  · rename_i j want hg
    split at h
    · rename_i t ht
      split at h
      · rename_i ch0 p hgt
        cases h
        obtain ⟨h1, h2, h3⟩ := hf _ (GFr.get_mem hgt)
        simp only at h1 h2 h3
        have hget : tmps[t]? = some (tmps.getD t undef) := by simp [Array.getD_eq_getD_getElem?, h1]
        simp only [Region.wanted, hg, yielded, ht, Option.bind_some, hget]
        by_cases hh : holds ch0 tmps
        · have e := IsV.b (h2 hh)
          rw [e]
          simp only [beq_iff_eq, Option.some.injEq]
          constructor
          · rintro rfl y hy
            rcases List.mem_cons.1 hy with rfl | hy
            · exact e
            · exact hh y hy
          · intro hh'
            have := hh' (t, want) List.mem_cons_self
            simp only [e] at this
            cases this; rfl
        · have e := h3 hh
          rw [e]
          simp only [undef]
          constructor
          · intro h; cases h
          · intro hh'
            exact absurd (fun y hy => hh' y (List.mem_cons_of_mem _ hy)) hh
      · cases h
    · cases h

theorem castV_is {v : AV} {k : Option AV} {c : Cx} {u : Value} (h : AllP (castV v k).2) (hv : AV.IsV c v u) : AV.IsV c (castV v k).1 u := by
  cases k with
  | none => exact hv
  | some v' => exact h.1 c u hv

theorem castObs_rel {X : Nat → Prop} {ms : Blocks} {w : World} : ∀ {l : List (Nat × Ob)} {L L' : List Ob} {C : List Prop}, castObs l L = some (L', C) → AllP C → Rel X ms L w →
    Rel X ms L' w ∧ (cxOf X ms L w).le (cxOf X ms L' w)
  | [], L, L', C, h, _, hr => by simp [castObs] at h; obtain ⟨rfl, rfl⟩ := h; exact ⟨hr, Cx.le.refl _⟩
  | (o, y) :: r, L, L', C, h, hc, hr => by
    simp only [castObs] at h
    split at h
    · rename_i x hx
      split at h
      · rename_i L1 C1 h1
        cases h
        obtain ⟨k1, k2⟩ := hr.recast hx hc.1
        obtain ⟨k3, k4⟩ := castObs_rel h1 hc.2 k1
        exact ⟨k3, k2.trans k4⟩
      · cases h
    · cases h

theorem putG_is {c : Cx} {G G1 : GFr} {N : Nat} {dst : Option Tmp} {ch : Chain} {v : AV} {a : Act} {u : Value} (h : putG G N dst ch v = some G1) (hN : a.tmps.size = N) (hf : FrIs c G a.tmps)
    (hv : holds ch a.tmps → AV.IsV c v u) (hu : ¬ holds ch a.tmps → u = undef) : FrIs c G1 (a.put dst u).tmps ∧ (a.put dst u).tmps.size = N ∧ (a.put dst u).defers = a.defers := by
  unfold putG at h
  cases dst with
  | none => cases h; exact ⟨hf, hN, rfl⟩
  | some t =>
    simp only at h
    split at h
    · rename_i ht
      cases h
      refine ⟨hf.put (by rw [hN]; exact ht.1) ht.2 hv hu, by simp [Act.put, hN], rfl⟩
    · cases h

/-- **A region in the order of its text.** -/
theorem runOps_ok {P : Program} {ops : Array Oper} {N : Nat} {hs : List (Nat × HE)} {Q : Exit → Act → World → Prop} {X : Nat → Prop} : ∀ (l : List Nat) (G : GFr) (L : List Ob) (G' : GFr) (L' : List Ob) (C : List Prop)
    (ms : Blocks) (w : World) (a : Act), runOps P ops N hs l G L = some (G', L', C) → AllP C → Rel X ms L w → FrIs (cxOf X ms L w) G a.tmps → a.tmps.size = N →
    (∀ a' ms' w', Rel X ms' L' w' → Ext ms w ms' w' → (cxOf X ms L w).le (cxOf X ms' L' w') → FrIs (cxOf X ms' L' w') G' a'.tmps → a'.tmps.size = N → a'.defers = a.defers → Q .normal a' w') →
    wpOps P ops Q l a w
  | [], G, L, G', L', C, ms, w, a, h, _, hr, hf, hN, hQ => by
    simp only [runOps, Option.some.injEq, Prod.mk.injEq] at h
    obtain ⟨rfl, rfl, rfl⟩ := h
    exact hQ a ms w hr (Ext.refl _ _) (Cx.le.refl _) hf hN rfl
  | i :: r, G, L, G', L', C, ms, w, a, h, hc, hr, hf, hN, hQ => by
    simp only [runOps] at h
    cases ho : ops[i]? with
    | none => simp [ho] at h
    | some o =>
      simp only [ho] at h
      cases hg : guardCh ops G o with
      | none => simp [hg] at h
      | some ch =>
        simp only [hg] at h
        have hw := guard_wanted hg hf
        simp only [wpOps, ho]
        cases hst : astep P G ch L o (hintOf hs i).h with
        | none => simp [hst] at h
        | some res =>
          have hok := astep_ok hst
          cases res with
          | val v C1 =>
            simp only [hst] at h
            cases hp : putG G N o.dst ch (castV v (hintOf hs i).cast).1 with
            | none => simp [hp] at h
            | some G1 =>
              simp only [hp] at h
              cases hrun : runOps P ops N hs r G1 L with
              | none => simp [hrun] at h
              | some q =>
                obtain ⟨G2, L2, C2⟩ := q
                simp only [hrun, Option.some.injEq, Prod.mk.injEq] at h
                obtain ⟨rfl, rfl, rfl⟩ := h
                obtain ⟨hc1, hc2⟩ := AllP_append.1 hc
                by_cases hh : holds ch a.tmps
                · rw [if_pos (hw.2 hh)]
                  left
                  obtain ⟨hc3, hc4⟩ := AllP_append.1 (underG_all hf hh hc1)
                  refine hok hc3 X ms w a _ Q hr hf hh fun u ms1 w1 k1 k2 k3 k4 => ?_
                  obtain ⟨p1, p2, p3⟩ := putG_is hp hN (hf.mono k3) (fun _ => castV_is hc4 k4) (fun h => absurd hh h)
                  exact runOps_ok r G1 L G2 L2 C2 ms1 w1 _ hrun hc2 k1 p1 p2 (fun a' ms' w' q1 q2 q3 q4 q5 q6 => hQ a' ms' w' q1 (k2.trans q2) (k3.trans q3) q4 q5 (q6.trans p3))
                · rw [if_neg (fun h => hh (hw.1 h))]
                  obtain ⟨p1, p2, p3⟩ := putG_is hp hN hf (u := undef) (fun h => absurd h hh) (fun _ => rfl)
                  exact runOps_ok r G1 L G2 L2 C2 ms w _ hrun hc2 hr p1 p2 (fun a' ms' w' q1 q2 q3 q4 q5 q6 => hQ a' ms' w' q1 q2 q3 q4 q5 (q6.trans p3))
          | eff v L1 C1 =>
            simp only [hst] at h
            cases ch with
            | cons y ys =>
              simp only at h
              split at h
              · rename_i hco
                cases hp : putG G N o.dst (y :: ys) (castV v (hintOf hs i).cast).1 with
                | none => simp [hp] at h
                | some G1 =>
                  simp only [hp] at h
                  cases hrun : runOps P ops N hs r G1 L1 with
                  | none => simp [hrun] at h
                  | some q =>
                    obtain ⟨G3, L3, C3⟩ := q
                    simp only [hrun, Option.some.injEq, Prod.mk.injEq] at h
                    obtain ⟨rfl, rfl, rfl⟩ := h
                    obtain ⟨hc1, hc2, hc3⟩ := AllP_append.1 hc
                    by_cases hh : holds (y :: ys) a.tmps
                    · rw [if_pos (hw.2 hh)]
                      left
                      obtain ⟨hc4, hc5⟩ := AllP_append.1 (underG_all hf hh hc1)
                      refine hok hc4 X ms w a _ Q hr hf hh fun u ms1 w1 k1 k2 k3 k4 => ?_
                      obtain ⟨p1, p2, p3⟩ := putG_is hp hN (hf.mono k3) (fun _ => castV_is hc5 k4) (fun h => absurd hh h)
                      exact runOps_ok r G1 L1 G3 L3 C3 ms1 w1 _ hrun hc3 k1 p1 p2 (fun a' ms' w' q1 q2 q3 q4 q5 q6 => hQ a' ms' w' q1 (k2.trans q2) (k3.trans q3) q4 q5 (q6.trans p3))
                    · rw [if_neg (fun h => hh (hw.1 h))]
                      have hLL := hc2 fun hg => hh (gP_conv hf hco.1 hg)
                      subst hLL
                      obtain ⟨p1, p2, p3⟩ := putG_is hp hN hf (u := undef) (fun h => absurd h hh) (fun _ => rfl)
                      exact runOps_ok r G1 L G3 L3 C3 ms w _ hrun hc3 hr p1 p2 (fun a' ms' w' q1 q2 q3 q4 q5 q6 => hQ a' ms' w' q1 q2 q3 q4 q5 (q6.trans p3))
              · cases h
            | nil =>
              simp only at h
              cases hco : castObs (hintOf hs i).obs L1 with
              | none => simp [hco] at h
              | some q0 =>
                obtain ⟨L2, C2⟩ := q0
                simp only [hco] at h
                cases hp : putG G N o.dst [] (castV v (hintOf hs i).cast).1 with
                | none => simp [hp] at h
                | some G1 =>
                  simp only [hp] at h
                  cases hrun : runOps P ops N hs r G1 L2 with
                  | none => simp [hrun] at h
                  | some q =>
                    obtain ⟨G3, L3, C3⟩ := q
                    simp only [hrun, Option.some.injEq, Prod.mk.injEq] at h
                    obtain ⟨rfl, rfl, rfl⟩ := h
                    obtain ⟨hc1, hc2⟩ := AllP_append.1 hc
                    obtain ⟨hc3, hc4⟩ := AllP_append.1 hc2
                    obtain ⟨hc5, hc6⟩ := AllP_append.1 hc4
                    have hh : holds [] a.tmps := fun y hy => by cases hy
                    rw [if_pos (hw.2 hh)]
                    left
                    refine hok hc1 X ms w a _ Q hr hf hh fun u ms1 w1 k1 k2 k3 k4 => ?_
                    obtain ⟨r1, r2⟩ := castObs_rel hco hc5 k1
                    obtain ⟨p1, p2, p3⟩ := putG_is hp hN ((hf.mono k3).mono r2) (fun _ => (castV_is hc3 k4).mono r2) (fun h => absurd hh h)
                    exact runOps_ok r G1 L2 G3 L3 C3 ms1 w1 _ hrun hc6 r1 p1 p2 (fun a' ms' w' q1 q2 q3 q4 q5 q6 => hQ a' ms' w' q1 (k2.trans q2) ((k3.trans r2).trans q3) q4 q5 (q6.trans p3))
end Go.TA
