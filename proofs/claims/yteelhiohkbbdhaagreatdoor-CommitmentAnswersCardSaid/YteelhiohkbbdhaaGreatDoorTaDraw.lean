/- A part of the proof: laws over any program of the abstract machine. No condition. -/
import Derived.Test.YteelhiohkbbdhaaGreatDoorTaCode
namespace Go.TA
open Go

/-! ## regions that draw their order -/
def dpreds (ops : Array Oper) (j : Nat) : List Nat := match ops[j]? with
  | some o => (o.after.toList.filter (Region.binds .any)).map (·.on)
  | none => []

/-- What must go before what, and which operations change objects. -/
structure DS where
  ps : List (List Nat)
  effs : List Nat

def DS.p (D : DS) (j : Nat) : List Nat := (D.ps[j]?).getD []

def wrs (ops : Array Oper) (t : Nat) : List Nat := (List.range ops.size).filter fun k => match (ops[k]?).bind (·.dst) with
  | some t' => t' == t
  | none => false

def okBase (ops : Array Oper) (D : DS) (j t : Nat) : Bool := (wrs ops t).all fun k => k == j || (D.p k).contains j
def okFact (ops : Array Oper) (D : DS) (j i t : Nat) : Bool := (D.p j).contains i && (wrs ops t).all fun k => k == i || (D.p i).contains k || k == j || (D.p k).contains j

abbrev VS := List (Chain × AV)
abbrev HS := List (List Nat × List Ob)

def factOf (ops : Array Oper) (vs : VS) (i : Nat) : Option (Nat × Chain × AV) := match (ops[i]?).bind (·.dst), vs[i]? with
  | some t, some (ch, v) => some (t, ch, v)
  | _, _ => none

def gmin (ops : Array Oper) (D : DS) (vs : VS) (base : GFr) (j : Nat) : GFr :=
  base.filter (fun x => okBase ops D j x.1) ++ (List.range vs.length).filterMap fun i => match factOf ops vs i with
    | some x => if okFact ops D j i x.1 then some x else none
    | none => none

def gfin (ops : Array Oper) (D : DS) (vs : VS) (base : GFr) : GFr :=
  base.filter (fun x => (wrs ops x.1).isEmpty) ++ (List.range vs.length).filterMap fun i => match factOf ops vs i with
    | some x => if (wrs ops x.1).all fun k => k == i || (D.p i).contains k then some x else none
    | none => none

def stepD (P : Program) (G : GFr) (ch : Chain) (L : List Ob) (o : Oper) (e : HE) : Option ((AV × List Ob) × List Prop) :=
  match astep P G ch L o e.h with
  | some (.val v C) => some (((castV v e.cast).1, L), underG G ch (C ++ (castV v e.cast).2))
  | some (.eff v L1 C) => match ch with
    | [] => match castObs e.obs L1 with
      | some (L2, C2) => some (((castV v e.cast).1, L2), C ++ ((castV v e.cast).2 ++ C2))
      | none => none
    | y :: ys => if chainOk G (y :: ys) = true ∧ e.obs.length = 0 then some (((castV v e.cast).1, L1), underG G (y :: ys) (C ++ (castV v e.cast).2) ++ [¬ AllP (gP G (y :: ys)) → L = L1]) else none
  | none => none

def consB (D : DS) (j : Nat) (K : List Nat) : Bool := !K.contains j && (D.p j).all (fun i => !D.effs.contains i || K.contains i) && K.all fun k => !(D.p k).contains j
def keyAdd (D : DS) (K : List Nat) (j : Nat) : List Nat := D.effs.filter fun e => K.contains e || e == j
def lookH : HS → List Nat → Option (List Ob)
  | [], _ => none
  | (K, L) :: r, K' => if K == K' then some L else lookH r K'

def run1 (P : Program) (ops : Array Oper) (hs : List (Nat × HE)) (D : DS) (base : GFr) : List Nat → VS → HS → Option (VS × HS)
  | [], vs, H => some (vs, H)
  | j :: r, vs, H => match ops[j]? with
    | none => none
    | some o => match guardCh ops (gmin ops D vs base j) o with
      | none => none
      | some ch => match H.find? fun h => consB D j h.1 with
        | none => none
        | some h => match stepD P (gmin ops D vs base j) ch h.2 o (hintOf hs j) with
          | none => none
          | some q => run1 P ops hs D base r (vs ++ [(ch, q.1.1)]) (H ++ if D.effs.contains j then H.filterMap (fun h => if consB D j h.1 then match stepD P (gmin ops D vs base j) ch h.2 o (hintOf hs j) with
            | some q => some (keyAdd D h.1 j, q.1.2)
            | none => none else none) else [])

def stepJ (P : Program) (ops : Array Oper) (hs : List (Nat × HE)) (D : DS) (base : GFr) (vs : VS) (j : Nat) (L : List Ob) : Option ((AV × List Ob) × List Prop) :=
  match ops[j]?, vs[j]? with
  | some o, some (ch, _) => if guardCh ops (gmin ops D vs base j) o = some ch then stepD P (gmin ops D vs base j) ch L o (hintOf hs j) else none
  | _, _ => none

def jobsD (D : DS) (H : HS) (n : Nat) : List (Nat × List Nat × List Ob) := (List.range n).flatMap fun j => (H.filter fun h => consB D j h.1).map fun h => (j, h.1, h.2)

def wantD (D : DS) (vs : VS) (H : HS) (j : Nat) (K : List Nat) (L : List Ob) : Option (AV × List Ob) :=
  match vs[j]?, (if D.effs.contains j then lookH H (keyAdd D K j) else some L) with
  | some (_, v), some L' => some (v, L')
  | _, _ => none

def condsD (P : Program) (ops : Array Oper) (hs : List (Nat × HE)) (D : DS) (base : GFr) (vs : VS) (H : HS) : List Prop :=
  (jobsD D H ops.size).flatMap fun q => match stepJ P ops hs D base vs q.1 q.2.2 with
    | some r => r.2
    | none => []

def dchk (ops : Array Oper) (N : Nat) (D : DS) (vs : VS) : Bool :=
  (vs.length == ops.size) && D.effs.all (fun e => decide (e < ops.size)) && (List.range ops.size).all fun j =>
    ((D.p j).all fun i => decide (i < j) && ((dpreds ops j).contains i || (dpreds ops j).any fun m => (D.p m).contains i)) &&
    ((dpreds ops j).all fun i => (D.p j).contains i) &&
    (match factOf ops vs j with
      | some x => decide (x.1 < N) && x.2.1.all (fun y => y.1 != x.1 && (wrs ops y.1).all fun k => (D.p j).contains k)
      | none => true)

def drawnRun (P : Program) (ops : Array Oper) (N : Nat) (hs : List (Nat × HE)) (D : DS) (fr : Fr) (L : List Ob) : Option (Fr × List Ob × List Prop) :=
  match run1 P ops hs D fr.up (List.range ops.size) [] [([], L)] with
  | some (vs, H) => if dchk ops N D vs = true ∧ ((jobsD D H ops.size).all fun q => (stepJ P ops hs D fr.up vs q.1 q.2.2).isSome) = true then match lookH H D.effs with
      | some L' => some (frOf (gfin ops D vs fr.up), L', condsD P ops hs D fr.up vs H)
      | none => none
    else none
  | none => none

def drawnL (P : Program) (ops : Array Oper) (hs : List (Nat × HE)) (D : DS) (fr : Fr) (L : List Ob) : List (Option (AV × List Ob)) :=
  match run1 P ops hs D fr.up (List.range ops.size) [] [([], L)] with
  | some (vs, H) => (jobsD D H ops.size).map fun q => (stepJ P ops hs D fr.up vs q.1 q.2.2).map (·.1)
  | none => []
def drawnR (P : Program) (ops : Array Oper) (hs : List (Nat × HE)) (D : DS) (fr : Fr) (L : List Ob) : List (Option (AV × List Ob)) :=
  match run1 P ops hs D fr.up (List.range ops.size) [] [([], L)] with
  | some (vs, H) => (jobsD D H ops.size).map fun q => wantD D vs H q.1 q.2.1 q.2.2
  | none => []

def Fact (c : Cx) (x : Nat × Chain × AV) (tmps : Array Value) : Prop :=
  x.1 < tmps.size ∧ (holds x.2.1 tmps → AV.IsV c x.2.2 (tmps.getD x.1 undef)) ∧ (¬ holds x.2.1 tmps → tmps.getD x.1 undef = undef)

/-- Where a region that draws its order may be. -/
structure Inv (ops : Array Oper) (N : Nat) (D : DS) (vs : VS) (H : HS) (base : GFr) (X : Nat → Prop) (ms0 : Blocks) (L0 : List Ob) (w0 : World) (a0 : Act) (listed : Array Bool) (a : Act) (ms : Blocks) (L : List Ob) (w : World) : Prop where
  size : listed.size = ops.size
  down : ∀ j, listed.getD j false = true → ∀ i ∈ D.p j, listed.getD i false = true
  key : lookH H (D.effs.filter fun e => listed.getD e false) = some L
  rel : Rel X ms L w
  ext : Ext ms0 w0 ms w
  le : (cxOf X ms0 L0 w0).le (cxOf X ms L w)
  base : ∀ x ∈ base, (∀ k ∈ wrs ops x.1, listed.getD k false = false) → Fact (cxOf X ms L w) x a.tmps
  facts : ∀ i x, listed.getD i false = true → factOf ops vs i = some x → (∀ k ∈ wrs ops x.1, k ≠ i → listed.getD k false = true → k ∈ D.p i) → Fact (cxOf X ms L w) x a.tmps
  tmps : a.tmps.size = N
  defers : a.defers = a0.defers

theorem mem_wrs {ops : Array Oper} {t k : Nat} : k ∈ wrs ops t ↔ ∃ o, ops[k]? = some o ∧ o.dst = some t := by
  unfold wrs
  rw [List.mem_filter, List.mem_range]
  cases ho : ops[k]? with
  | none => simp
  | some o =>
    have : k < ops.size := (Array.getElem?_eq_some_iff.1 ho).1
    cases hd : o.dst with
    | none => simp [hd]
    | some t' => simp [hd, this]

theorem Fact.mono {c c' : Cx} (hc : c.le c') {x : Nat × Chain × AV} {tmps : Array Value} (h : Fact c x tmps) : Fact c' x tmps := ⟨h.1, fun hh => (h.2.1 hh).mono hc, h.2.2⟩

theorem Fact.put {c : Cx} {x : Nat × Chain × AV} {a : Act} (h : Fact c x a.tmps) {dst : Option Tmp} {u : Value} (h1 : ∀ t, dst = some t → t ≠ x.1) (h2 : ∀ t, dst = some t → ∀ y ∈ x.2.1, y.1 ≠ t) : Fact c x (a.put dst u).tmps := by
  cases dst with
  | none => exact h
  | some t =>
    have hne := h1 t rfl
    have hch := h2 t rfl
    have hget : ∀ s, s ≠ t → (a.put (some t) u).tmps.getD s undef = a.tmps.getD s undef := fun s hs => by
      simp only [Act.put, Array.getD_eq_getD_getElem?]
      rw [Array.getElem?_setIfInBounds_ne (fun e => hs e.symm)]
    have hh : holds x.2.1 (a.put (some t) u).tmps ↔ holds x.2.1 a.tmps := by
      constructor
      · intro q y hy
        have := q y hy
        rwa [hget y.1 (hch y hy)] at this
      · intro q y hy
        rw [hget y.1 (hch y hy)]
        exact q y hy
    refine ⟨by simpa [Act.put] using h.1, fun q => ?_, fun q => ?_⟩
    · rw [hget x.1 (Ne.symm hne)]; exact h.2.1 (hh.1 q)
    · rw [hget x.1 (Ne.symm hne)]; exact h.2.2 (fun q' => q (hh.2 q'))

end Go.TA

namespace Go.TA
open Go
variable {z : Option Nat}

theorem stepD_ok {P : Program} {G : GFr} {ch : Chain} {L L' : List Ob} {o : Oper} {e : HE} {v : AV} {C : List Prop} (h : stepD P G ch L o e = some ((v, L'), C)) {X : Nat → Prop} {ms : Blocks} {w : World} {a : Act}
    {K : Act → World → Prop} {Q : Exit → Act → World → Prop} (hc : AllP C) (hr : Rel X ms L w) (hf : FrIs (cxOf X ms L w) G a.tmps) (hh : holds ch a.tmps)
    (hK : ∀ u ms' w', Rel X ms' L' w' → Ext ms w ms' w' → (cxOf X ms L w).le (cxOf X ms' L' w') → AV.IsV (cxOf X ms' L' w') v u → K (a.put o.dst u) w') (zn : Nat) : o.wpIn (fenceOf z) zn P a w K Q := by
  unfold stepD at h
  split at h
  · rename_i v1 C1 hs
    simp only [Option.some.injEq, Prod.mk.injEq] at h
    obtain ⟨⟨rfl, rfl⟩, rfl⟩ := h
    obtain ⟨hc1, hc2⟩ := AllP_append.1 (underG_all hf hh hc)
    exact astep_ok hs hc1 z zn X ms w a K Q hr hf hh fun u ms1 w1 k1 k2 k3 k4 => hK u ms1 w1 k1 k2 k3 (castV_is hc2 k4)
  · rename_i v1 L1 C1 hs
    split at h
    · split at h
      · rename_i L2 C2 hco
        simp only [Option.some.injEq, Prod.mk.injEq] at h
        obtain ⟨⟨rfl, rfl⟩, rfl⟩ := h
        obtain ⟨hc1, hc2⟩ := AllP_append.1 hc
        obtain ⟨hc3, hc4⟩ := AllP_append.1 hc2
        refine astep_ok hs hc1 z zn X ms w a K Q hr hf hh fun u ms1 w1 k1 k2 k3 k4 => ?_
        obtain ⟨r1, r2⟩ := castObs_rel hco hc4 k1
        exact hK u ms1 w1 r1 k2 (k3.trans r2) ((castV_is hc3 k4).mono r2)
      · cases h
    · split at h
      · simp only [Option.some.injEq, Prod.mk.injEq] at h
        obtain ⟨⟨rfl, rfl⟩, rfl⟩ := h
        obtain ⟨hc1, hc2⟩ := AllP_append.1 hc
        obtain ⟨hc4, hc5⟩ := AllP_append.1 (underG_all hf hh hc1)
        exact astep_ok hs hc4 z zn X ms w a K Q hr hf hh fun u ms1 w1 k1 k2 k3 k4 => hK u ms1 w1 k1 k2 k3 (castV_is hc5 k4)
      · cases h
  · cases h

theorem stepD_not {P : Program} {G : GFr} {ch : Chain} {L L' : List Ob} {o : Oper} {e : HE} {v : AV} {C : List Prop} (h : stepD P G ch L o e = some ((v, L'), C)) (hc : AllP C) {c : Cx} {tmps : Array Value} (hf : FrIs c G tmps)
    (hh : ¬ holds ch tmps) : L' = L := by
  unfold stepD at h
  split at h
  · simp only [Option.some.injEq, Prod.mk.injEq] at h
    exact h.1.2.symm
  · split at h
    · exact absurd (fun y hy => by cases hy) hh
    · split at h
      · rename_i hco
        simp only [Option.some.injEq, Prod.mk.injEq] at h
        obtain ⟨⟨rfl, rfl⟩, rfl⟩ := h
        exact ((AllP_append.1 hc).2.1 fun hg => hh (gP_conv hf hco.1 hg)).symm
      · cases h
  · cases h

theorem lookH_mem : ∀ {H : HS} {K : List Nat} {L : List Ob}, lookH H K = some L → (K, L) ∈ H
  | [], K, L, h => by cases h
  | (K0, L0) :: r, K, L, h => by
    simp only [lookH] at h
    split at h
    · rename_i he
      cases h
      rw [beq_iff_eq.1 he]
      exact List.mem_cons_self
    · exact List.mem_cons_of_mem _ (lookH_mem h)

section
variable {P : Program} {ops : Array Oper} {N : Nat} {hs : List (Nat × HE)} {D : DS} {base : GFr} {vs : VS} {H : HS} {X : Nat → Prop} {ms0 : Blocks} {L0 : List Ob} {w0 : World} {a0 : Act}

structure DChk (ops : Array Oper) (N : Nat) (D : DS) (vs : VS) : Prop where
  len : vs.length = ops.size
  eff : ∀ e ∈ D.effs, e < ops.size
  cl : ∀ j, j < ops.size → ∀ i ∈ D.p j, i < j ∧ (i ∈ dpreds ops j ∨ ∃ m ∈ dpreds ops j, i ∈ D.p m)
  di : ∀ j, j < ops.size → ∀ i ∈ dpreds ops j, i ∈ D.p j
  sl : ∀ j, j < ops.size → ∀ x, factOf ops vs j = some x → x.1 < N ∧ ∀ y ∈ x.2.1, y.1 ≠ x.1 ∧ ∀ k ∈ wrs ops y.1, k ∈ D.p j

theorem dchk_spec (h : dchk ops N D vs = true) : DChk ops N D vs := by
  simp only [dchk, Bool.and_eq_true, beq_iff_eq, List.all_eq_true, List.mem_range, decide_eq_true_eq, Bool.or_eq_true, List.contains_iff_mem, List.any_eq_true] at h
  obtain ⟨⟨h1, h0⟩, h2⟩ := h
  refine ⟨h1, h0, fun j hj i hi => (h2 j hj).1.1 i hi, fun j hj i hi => (h2 j hj).1.2 i hi, fun j hj x hx => ?_⟩
  have h3 := (h2 j hj).2
  rw [hx] at h3
  simp only [Bool.and_eq_true, decide_eq_true_eq, List.all_eq_true, bne_iff_ne, ne_eq, List.contains_iff_mem] at h3
  exact h3

theorem unlisted_set {l : Array Bool} {j : Nat} (h : l.getD j true = false) : (l.setIfInBounds j true).toList.countP (!·) < l.toList.countP (!·) := by
  have hlt : j < l.size := by
    rcases Nat.lt_or_ge j l.size with h' | h'
    · exact h'
    · simp [Array.getElem?_eq_none h'] at h
  have e : l.toList[j]'(by simpa using hlt) = false := by simpa [hlt] using h
  rw [Array.toList_setIfInBounds, List.countP_set (by simpa using hlt)]
  have hpos : 0 < l.toList.countP (!·) := List.countP_pos_iff.2 ⟨false, by rw [← e]; exact List.getElem_mem _, rfl⟩
  generalize l.toList.countP (!·) = n at hpos ⊢
  simp only [e, Bool.not_false, Bool.not_true, if_true]
  simp
  omega

theorem all_listed {l : Array Bool} (h : l.toList.countP (!·) ≤ 0) (j : Nat) (hj : j < l.size) : l.getD j false = true := by
  have h0 : l.toList.countP (!·) = 0 := by omega
  rw [List.countP_eq_zero] at h0
  have := h0 (l.toList[j]'(by simpa using hj)) (List.getElem_mem _)
  simpa [hj] using this

theorem getD_tf {l : Array Bool} {j : Nat} (hj : j < l.size) : l.getD j true = l.getD j false := by simp [hj]

theorem not_ready_all (hd : DChk ops N D vs) {l : Array Bool} (hs : l.size = ops.size) (h : Region.ready .any ops l = []) : ∀ j, j < ops.size → l.getD j false = true := by
  intro j
  induction j using Nat.strongRecOn with
  | _ j ih =>
    intro hj
    cases hl : l.getD j false with
    | true => rfl
    | false =>
      have : j ∈ Region.ready .any ops l := mem_ready.2 ⟨by rw [getD_tf (by omega)]; exact hl, ops[j], Array.getElem?_eq_getElem hj, fun e he hb => by
        have hp : e.on ∈ dpreds ops j := by
          unfold dpreds
          rw [Array.getElem?_eq_getElem hj]
          exact List.mem_map.2 ⟨e, List.mem_filter.2 ⟨by simpa using he, hb⟩, rfl⟩
        have hlt := (hd.cl j hj _ (hd.di j hj _ hp)).1
        exact ih _ hlt (by omega)⟩
      rw [h] at this
      cases this

theorem Inv.final {listed : Array Bool} {a : Act} {ms : Blocks} {L : List Ob} {w : World} (hi : Inv ops N D vs H base X ms0 L0 w0 a0 listed a ms L w) (hd : DChk ops N D vs)
    (heff : ∀ e ∈ D.effs, e < ops.size) (h : ∀ j, j < ops.size → listed.getD j false = true) : lookH H D.effs = some L ∧ FrIs (cxOf X ms L w) (gfin ops D vs base) a.tmps := by
  constructor
  · have := hi.key
    rwa [List.filter_eq_self.2 (fun e he => h e (heff e he))] at this
  · intro x hx
    rcases List.mem_append.1 hx with hx | hx
    · obtain ⟨h1, h2⟩ := List.mem_filter.1 hx
      refine hi.base x h1 fun k hk => ?_
      rw [List.isEmpty_iff.1 h2] at hk
      cases hk
    · obtain ⟨i, hi1, hi2⟩ := List.mem_filterMap.1 hx
      cases hf : factOf ops vs i with
      | none => rw [hf] at hi2; cases hi2
      | some y =>
        rw [hf] at hi2
        simp only at hi2
        split at hi2
        · rename_i hall
          cases hi2
          have hlt : i < ops.size := by rw [← hd.len]; exact List.mem_range.1 hi1
          refine hi.facts i x (h i hlt) hf fun k hk hne _ => ?_
          simp only [List.all_eq_true, Bool.or_eq_true, beq_iff_eq, List.contains_iff_mem] at hall
          exact (hall k hk).resolve_left hne
        · cases hi2

theorem Inv.gmin {listed : Array Bool} {a : Act} {ms : Blocks} {L : List Ob} {w : World} (hi : Inv ops N D vs H base X ms0 L0 w0 a0 listed a ms L w) {j : Nat} (hj : listed.getD j false = false)
    (hp : ∀ i ∈ D.p j, listed.getD i false = true) : FrIs (cxOf X ms L w) (gmin ops D vs base j) a.tmps := by
  intro x hx
  rcases List.mem_append.1 hx with hx | hx
  · obtain ⟨h1, h2⟩ := List.mem_filter.1 hx
    refine hi.base x h1 fun k hk => ?_
    simp only [okBase, List.all_eq_true, Bool.or_eq_true, beq_iff_eq, List.contains_iff_mem] at h2
    rcases h2 k hk with rfl | h2
    · exact hj
    · cases hl : listed.getD k false with
      | false => rfl
      | true => rw [hi.down k hl j h2] at hj; cases hj
  · obtain ⟨i, hi1, hi2⟩ := List.mem_filterMap.1 hx
    cases hf : factOf ops vs i with
    | none => rw [hf] at hi2; cases hi2
    | some y =>
      rw [hf] at hi2
      simp only at hi2
      split at hi2
      · rename_i hall
        cases hi2
        simp only [okFact, Bool.and_eq_true, List.all_eq_true, Bool.or_eq_true, beq_iff_eq, List.contains_iff_mem] at hall
        obtain ⟨h1, h2⟩ := hall
        refine hi.facts i x (hp i h1) hf fun k hk hne hl => ?_
        rcases h2 k hk with ((h2 | h2) | h2) | h2
        · exact absurd h2 hne
        · exact h2
        · subst h2; rw [hl] at hj; cases hj
        · rw [hi.down k hl j h2] at hj; cases hj
      · cases hi2

/-- One operation further. -/
theorem Inv.step {listed : Array Bool} {a : Act} {ms ms' : Blocks} {L L' : List Ob} {w w' : World} (hi : Inv ops N D vs H base X ms0 L0 w0 a0 listed a ms L w) (hd : DChk ops N D vs) (hb0 : ∀ x ∈ base, x.2.1 = [])
    {j : Nat} {o : Oper} {ch : Chain} {v : AV} {u : Value} (ho : ops[j]? = some o) (hv : vs[j]? = some (ch, v)) (hj : listed.getD j false = false) (hp : ∀ i ∈ D.p j, listed.getD i false = true)
    (hkey : wantD D vs H j (D.effs.filter fun e => listed.getD e false) L = some (v, L')) (r : Rel X ms' L' w') (e : Ext ms w ms' w') (c : (cxOf X ms L w).le (cxOf X ms' L' w'))
    (hu : holds ch a.tmps → AV.IsV (cxOf X ms' L' w') v u) (hn : ¬ holds ch a.tmps → u = undef) :
    Inv ops N D vs H base X ms0 L0 w0 a0 (listed.setIfInBounds j true) (a.put o.dst u) ms' L' w' := by
  have hjlt : j < ops.size := (Array.getElem?_eq_some_iff.1 ho).1
  have hset : ∀ k, (listed.setIfInBounds j true).getD k false = true ↔ (listed.getD k false = true ∨ k = j) := fun k => by
    by_cases hjk : j = k
    · subst hjk
      simp [hi.size, hjlt]
    · rw [getD_set_ne false hjk]
      exact ⟨.inl, fun h => h.resolve_right (fun e => hjk e.symm)⟩
  have hdst : ∀ t, o.dst = some t → factOf ops vs j = some (t, ch, v) := fun t ht => by simp [factOf, ho, ht, hv]
  have hwj : ∀ t, o.dst = some t → j ∈ wrs ops t := fun t ht => mem_wrs.2 ⟨o, ho, ht⟩
  have hfilt : (D.effs.filter fun e => (listed.setIfInBounds j true).getD e false) = if D.effs.contains j then keyAdd D (D.effs.filter fun e => listed.getD e false) j else D.effs.filter fun e => listed.getD e false := by
    split
    · unfold keyAdd
      refine List.filter_congr fun x hx => ?_
      rw [Bool.eq_iff_iff, hset]
      simp only [Bool.or_eq_true, List.contains_iff_mem, List.mem_filter, beq_iff_eq]
      exact ⟨fun h => h.imp (fun h => ⟨hx, h⟩) id, fun h => h.imp (fun h => h.2) id⟩
    · rename_i hne
      refine List.filter_congr fun x hx => ?_
      rw [Bool.eq_iff_iff, hset]
      exact ⟨fun h => h.resolve_right (fun e => hne (by subst e; exact List.contains_iff_mem.2 hx)), .inl⟩
  refine ⟨by simp [hi.size], fun k hk i hik => ?_, ?_, r, hi.ext.trans e, hi.le.trans c, fun x hx hw => ?_, fun i x hl hf hw => ?_, ?_, ?_⟩
  · rw [hset] at hk ⊢
    rcases hk with hk | rfl
    · exact .inl (hi.down k hk i hik)
    · exact .inl (hp i hik)
  · rw [hfilt]
    unfold wantD at hkey
    split at hkey
    · rename_i v' L'' h1 h2
      cases hkey
      split at h2
      · rename_i hc
        rw [if_pos hc]; exact h2
      · rename_i hc
        cases h2
        rw [if_neg hc]; exact hi.key
    · cases hkey
  · have hold := hi.base x hx fun k hk => by
      cases hl : listed.getD k false with
      | false => rfl
      | true =>
        have h1 := (hset k).2 (.inl hl)
        rw [hw k hk] at h1; cases h1
    refine (hold.mono c).put (fun t ht e => ?_) (fun t _ y hy => by rw [hb0 x hx] at hy; cases hy)
    subst e
    have h1 := (hset j).2 (.inr rfl)
    rw [hw j (hwj _ ht)] at h1; cases h1
  · by_cases hij : i = j
    · subst hij
      cases hd0 : o.dst with
      | none => simp [factOf, ho, hd0] at hf
      | some t =>
        have e1 := hdst t hd0
        rw [e1] at hf
        cases hf
        obtain ⟨s1, s2⟩ := hd.sl i hjlt _ e1
        simp only at s1 s2
        have hget : ∀ s, s ≠ t → (a.put (some t) u).tmps.getD s undef = a.tmps.getD s undef := fun s hs => by
          simp only [Act.put, Array.getD_eq_getD_getElem?]
          rw [Array.getElem?_setIfInBounds_ne (fun e => hs e.symm)]
        have hself : (a.put (some t) u).tmps.getD t undef = u := by
          simp only [Act.put, Array.getD_eq_getD_getElem?]
          rw [Array.getElem?_setIfInBounds_self_of_lt (by rw [hi.tmps]; exact s1)]
          rfl
        have hh : holds ch (a.put (some t) u).tmps ↔ holds ch a.tmps := by
          constructor
          · intro q y hy
            have := q y hy
            rwa [hget y.1 (s2 y hy).1] at this
          · intro q y hy
            rw [hget y.1 (s2 y hy).1]
            exact q y hy
        refine ⟨by simpa [Act.put, hi.tmps] using s1, fun q => ?_, fun q => ?_⟩
        · rw [hself]; exact hu (hh.1 q)
        · rw [hself]; exact hn (fun q' => q (hh.2 q'))
    · have hl0 : listed.getD i false = true := ((hset i).1 hl).resolve_right hij
      have hilt : i < ops.size := by
        rcases Nat.lt_or_ge i listed.size with h' | h'
        · rw [← hi.size]; exact h'
        · simp [Array.getElem?_eq_none h'] at hl0
      have hold := hi.facts i x hl0 hf fun k hk hne hlk => hw k hk hne ((hset k).2 (.inl hlk))
      refine (hold.mono c).put (fun t ht e => ?_) (fun t ht y hy e => ?_)
      · subst e
        have h1 := hw j (hwj _ ht) (fun e => hij e.symm) ((hset j).2 (.inr rfl))
        rw [hi.down i hl0 j h1] at hj; cases hj
      · subst e
        have h1 := ((hd.sl i hilt x hf).2 y hy).2 j (hwj _ ht)
        rw [hi.down i hl0 j h1] at hj; cases hj
  · cases o.dst <;> simp [Act.put, hi.tmps]
  · cases o.dst <;> exact hi.defers

/-- **Any order is as good as another.** -/
theorem drawn_any (zn : Nat) {Q : Exit → Act → World → Prop} (hd : DChk ops N D vs) (hb0 : ∀ x ∈ base, x.2.1 = []) (heff : ∀ e ∈ D.effs, e < ops.size)
    (hj : ∀ j K L, j < ops.size → lookH H K = some L → consB D j K = true → ∃ r C, stepJ P ops hs D base vs j L = some (r, C) ∧ AllP C ∧ wantD D vs H j K L = some r)
    (hQ : ∀ a ms L w, lookH H D.effs = some L → Rel X ms L w → Ext ms0 w0 ms w → (cxOf X ms0 L0 w0).le (cxOf X ms L w) → FrIs (cxOf X ms L w) (gfin ops D vs base) a.tmps → a.tmps.size = N →
      a.defers = a0.defers → Q .normal a w) :
    ∀ (fuel : Nat) (listed : Array Bool) (a : Act) (ms : Blocks) (L : List Ob) (w : World), listed.toList.countP (!·) ≤ fuel → Inv ops N D vs H base X ms0 L0 w0 a0 listed a ms L w →
      wpAnyIn (fenceOf z) zn P .any ops Q fuel listed a w := by
  have hfin : ∀ (listed : Array Bool) (a : Act) (ms : Blocks) (L : List Ob) (w : World), Inv ops N D vs H base X ms0 L0 w0 a0 listed a ms L w →
      (∀ j, j < ops.size → listed.getD j false = true) → Q .normal a w := fun listed a ms L w hi hall => by
    obtain ⟨h1, h2⟩ := hi.final hd heff hall
    exact hQ a ms L w h1 hi.rel hi.ext hi.le h2 hi.tmps hi.defers
  intro fuel
  induction fuel with
  | zero =>
    intro listed a ms L w hc hi
    have hall : ∀ j, j < ops.size → listed.getD j false = true := fun j hj => all_listed hc j (by rw [hi.size]; exact hj)
    refine ⟨?_, hfin _ _ _ _ _ hi hall⟩
    apply List.eq_nil_iff_forall_not_mem.2
    intro j hjr
    obtain ⟨h0, o, ho, _⟩ := mem_ready.1 hjr
    have hjlt : j < ops.size := (Array.getElem?_eq_some_iff.1 ho).1
    rw [getD_tf (by rw [hi.size]; exact hjlt), hall j hjlt] at h0
    cases h0
  | succ fuel ih =>
    intro listed a ms L w hc hi
    refine ⟨fun hnil => hfin _ _ _ _ _ hi (not_ready_all hd hi.size hnil), fun j hjr => ?_⟩
    obtain ⟨h0, o, ho, hall⟩ := mem_ready.1 hjr
    have hjlt : j < ops.size := (Array.getElem?_eq_some_iff.1 ho).1
    have hj0 : listed.getD j false = false := by rw [← getD_tf (by rw [hi.size]; exact hjlt)]; exact h0
    have hdp : ∀ i ∈ dpreds ops j, listed.getD i false = true := fun i hi' => by
      unfold dpreds at hi'
      rw [ho] at hi'
      obtain ⟨e, he, rfl⟩ := List.mem_map.1 hi'
      obtain ⟨h1, h2⟩ := List.mem_filter.1 he
      exact hall e (by simpa using h1) h2
    have hp : ∀ i ∈ D.p j, listed.getD i false = true := fun i hip => by
      rcases (hd.cl j hjlt i hip).2 with h | ⟨m, hm, hm'⟩
      · exact hdp i h
      · exact hi.down m (hdp m hm) i hm'
    have hcons : consB D j (D.effs.filter fun e => listed.getD e false) = true := by
      simp only [consB, Bool.and_eq_true, Bool.not_eq_true', List.all_eq_true, Bool.or_eq_true]
      refine ⟨⟨?_, fun i hip => ?_⟩, fun k hk => ?_⟩
      · rw [Bool.eq_false_iff]
        intro hc'
        have := (List.mem_filter.1 (List.contains_iff_mem.1 hc')).2
        rw [hj0] at this; cases this
      · by_cases hie : D.effs.contains i = true
        · exact .inr (List.contains_iff_mem.2 (List.mem_filter.2 ⟨List.contains_iff_mem.1 hie, hp i hip⟩))
        · exact .inl (by simpa using hie)
      · rw [Bool.eq_false_iff]
        intro hc'
        have := hi.down k (List.mem_filter.1 hk).2 j (List.contains_iff_mem.1 hc')
        rw [hj0] at this; cases this
    obtain ⟨⟨v, L'⟩, C, h1, h2, h3⟩ := hj j _ L hjlt hi.key hcons
    have hcount : (listed.setIfInBounds j true).toList.countP (!·) ≤ fuel := by
      have := unlisted_set h0; omega
    unfold stepJ at h1
    rw [ho] at h1
    split at h1
    · rename_i o' ch v' e1 hv
      cases e1
      split at h1
      · rename_i hg
        have hv' : vs[j]? = some (ch, v) := by
          unfold wantD at h3
          split at h3
          · rename_i ch2 v2 L2 hv2 _
            rw [hv] at hv2
            cases hv2
            cases h3
            exact hv
          · cases h3
        have hgm := hi.gmin hj0 hp
        have hw := guard_wanted hg hgm
        unfold wpOpIn
        rw [ho]
        simp only
        by_cases hh : holds ch a.tmps
        · rw [if_pos (hw.2 hh)]
          refine stepD_ok h1 h2 hi.rel hgm hh (fun u ms1 w1 k1 k2 k3 k4 => ?_) zn
          exact ih _ _ ms1 L' w1 hcount (hi.step hd hb0 ho hv' hj0 hp h3 k1 k2 k3 (fun _ => k4) (fun h => absurd hh h))
        · rw [if_neg (fun h => hh (hw.1 h))]
          refine ⟨fun f _ => fence_fn z f, ?_⟩
          have hLL := stepD_not h1 h2 hgm hh
          subst hLL
          exact ih _ _ ms L' w hcount (hi.step hd hb0 ho hv' hj0 hp h3 hi.rel (Ext.refl _ _) (Cx.le.refl _) (fun h => absurd h hh) (fun _ => rfl))
      · cases h1
    · cases h1
end

theorem run1_key {P : Program} {ops : Array Oper} {hs : List (Nat × HE)} {D : DS} {base : GFr} : ∀ (l : List Nat) (vs : VS) (H : HS) (vs' : VS) (H' : HS), run1 P ops hs D base l vs H = some (vs', H') → ∃ J, H' = H ++ J
  | [], vs, H, vs', H', h => by
    simp only [run1, Option.some.injEq, Prod.mk.injEq] at h
    exact ⟨[], by simp [h.2]⟩
  | j :: r, vs, H, vs', H', h => by
    simp only [run1] at h
    split at h
    · cases h
    · split at h
      · cases h
      · split at h
        · cases h
        · split at h
          · cases h
          · obtain ⟨J, e⟩ := run1_key r _ _ _ _ h
            exact ⟨_, by rw [e, List.append_assoc]⟩

theorem AllP_flatMap {α : Type} {l : List α} {f : α → List Prop} (h : AllP (l.flatMap f)) {x : α} (hx : x ∈ l) : AllP (f x) := by
  induction l with
  | nil => cases hx
  | cons y r ih =>
    rw [List.flatMap_cons, AllP_append] at h
    rcases List.mem_cons.1 hx with rfl | hx
    · exact h.1
    · exact ih h.2 hx

theorem aw_drawn {P : Program} {N : Nat} {Q : Post} {fr : Fr} {L : List Ob} {id : Nat} {ops : Array Oper} {hs : List (Nat × HE)} {D : DS} {fr' : Fr} {L' : List Ob} {C : List Prop}
    (hm : P.follows .mixedOrders = true) (h : drawnRun P ops N hs D fr L = some (fr', L', C)) (hj : drawnL P ops hs D fr L = drawnR P ops hs D fr L) (hc : AllP C) (hQ : Q .normal fr' L') :
    AW z P N (.region id ops true) Q fr L := by
  intro zn df X ms w a hr hf hN hd
  refine wpIn_region_any hm ?_
  unfold drawnRun at h
  unfold drawnL drawnR at hj
  split at h
  · rename_i vs H hrun
    rw [hrun] at hj
    simp only at hj
    split at h
    · rename_i hchk
      split at h
      · rename_i L1 hl
        cases h
        obtain ⟨r1, c1⟩ := hr.grow (w' := { w with drawn := w.drawn + 1 }) (Grow.drew w)
        have hdc := dchk_spec hchk.1
        obtain ⟨J, hJ⟩ := run1_key _ _ _ _ _ hrun
        have hempty : ∀ j, (Array.replicate ops.size false).getD j false = false := fun j => by
          rw [Array.getD_eq_getD_getElem?]
          cases he : (Array.replicate ops.size false)[j]? with
          | none => rfl
          | some b => exact (Array.mem_replicate.1 (Array.mem_of_getElem? he)).2
        refine drawn_any zn (hs := hs) (D := D) (base := fr.up) (vs := vs) (H := H) (N := N) (ms0 := ms) (L0 := L) (w0 := w) (a0 := a) hdc (fun x hx => ?_) hdc.eff (fun j K L2 hjl hlk hcb => ?_)
          (fun a2 ms2 L2 w2 k0 k1 k2 k3 k4 k5 k6 => ?_) _ _ _ ms L _ ?_ ⟨by simp, fun j hj' => ?_, ?_, r1, Grow.ext (Grow.drew w) ms, c1, fun x hx _ => ?_, fun i x hl' => ?_, hN, rfl⟩
        · obtain ⟨y, _, rfl⟩ := List.mem_map.1 hx
          rfl
        · have hmem : (j, K, L2) ∈ jobsD D H ops.size := List.mem_flatMap.2 ⟨j, List.mem_range.2 hjl, List.mem_map.2 ⟨(K, L2), List.mem_filter.2 ⟨lookH_mem hlk, hcb⟩, rfl⟩⟩
          have hsome := List.all_eq_true.1 hchk.2 _ hmem
          have heq := List.map_inj_left.1 hj _ hmem
          have hcj := AllP_flatMap hc hmem
          simp only at hsome heq hcj
          cases hst : stepJ P ops hs D fr.up vs j L2 with
          | none => rw [hst] at hsome; cases hsome
          | some rc =>
            rw [hst] at heq hcj
            exact ⟨rc.1, rc.2, rfl, hcj, heq.symm⟩
        · rw [hl] at k0
          cases k0
          exact ⟨ms2, _, L', hQ, k1, k2, k3, frOf_is k4, k5, k6.trans hd⟩
        · refine Nat.le_trans List.countP_le_length (by simp)
        · rw [hempty] at hj'; cases hj'
        · rw [List.filter_eq_nil_iff.2 (fun e _ => by rw [hempty]; simp), hJ]
          rfl
        · exact (hf.mono c1) x hx
        · rw [hempty] at hl'; cases hl'
      · cases h
    · cases h
  · cases h
end Go.TA
