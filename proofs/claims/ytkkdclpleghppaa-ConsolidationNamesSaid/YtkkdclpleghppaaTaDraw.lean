/- A part of the proof: laws over any program of the abstract machine. No condition. -/
import Derived.Test.YtkkdclpleghppaaTaFrame2
namespace Go.TA
open Go

/-! ## regions that draw their order -/
def dpreds (ops : Array Oper) (j : Nat) : List Nat := match ops[j]? with
  | some o => (o.after.toList.filter (Region.binds .any)).map (·.on)
  | none => []

/-- What must go before what, and which operations change objects. -/
structure DS where
  ps : List (List Nat)
  effs : List Nat

def DS.p (D : DS) (j : Nat) : List Nat := (D.ps[j]?).getD []

def wrs (ops : Array Oper) (t : Nat) : List Nat := (List.range ops.size).filter fun k => match (ops[k]?).bind (·.dst) with
  | some t' => t' == t
  | none => false

def okBase (ops : Array Oper) (D : DS) (j t : Nat) : Bool := (wrs ops t).all fun k => k == j || (D.p k).contains j
def okFact (ops : Array Oper) (D : DS) (j i t : Nat) : Bool := (D.p j).contains i && (wrs ops t).all fun k => k == i || (D.p i).contains k || k == j || (D.p k).contains j

abbrev VS := List (Chain × AV)
abbrev HS := List (List Nat × List Ob)

def factOf (ops : Array Oper) (vs : VS) (i : Nat) : Option (Nat × Chain × AV) := match (ops[i]?).bind (·.dst), vs[i]? with
  | some t, some (ch, v) => some (t, ch, v)
  | _, _ => none

def gmin (ops : Array Oper) (D : DS) (vs : VS) (base : GFr) (j : Nat) : GFr :=
  base.filter (fun x => okBase ops D j x.1) ++ (List.range vs.length).filterMap fun i => match factOf ops vs i with
    | some x => if okFact ops D j i x.1 then some x else none
    | none => none

def gfin (ops : Array Oper) (D : DS) (vs : VS) (base : GFr) : GFr :=
  base.filter (fun x => (wrs ops x.1).isEmpty) ++ (List.range vs.length).filterMap fun i => match factOf ops vs i with
    | some x => if (wrs ops x.1).all fun k => k == i || (D.p i).contains k then some x else none
    | none => none

def stepD (P : Program) (G : GFr) (ch : Chain) (L : List Ob) (o : Oper) (e : HE) : Option ((AV × List Ob) × List Prop) :=
  match astep P G ch L o e.h with
  | some (.val v C) => some (((castV v e.cast).1, L), underG G ch (C ++ (castV v e.cast).2))
  | some (.eff v L1 C) => match ch with
    | [] => match castObs e.obs L1 with
      | some (L2, C2) => some (((castV v e.cast).1, L2), C ++ ((castV v e.cast).2 ++ C2))
      | none => none
    | y :: ys => if chainOk G (y :: ys) = true ∧ e.obs.length = 0 then some (((castV v e.cast).1, L1), underG G (y :: ys) (C ++ (castV v e.cast).2) ++ [¬ AllP (gP G (y :: ys)) → L = L1]) else none
  | none => none

def consB (D : DS) (j : Nat) (K : List Nat) : Bool := !K.contains j && (D.p j).all (fun i => !D.effs.contains i || K.contains i) && K.all fun k => !(D.p k).contains j
def keyAdd (D : DS) (K : List Nat) (j : Nat) : List Nat := D.effs.filter fun e => K.contains e || e == j
def lookH : HS → List Nat → Option (List Ob)
  | [], _ => none
  | (K, L) :: r, K' => if K == K' then some L else lookH r K'

def run1 (P : Program) (ops : Array Oper) (hs : List (Nat × HE)) (D : DS) (base : GFr) : List Nat → VS → HS → Option (VS × HS)
  | [], vs, H => some (vs, H)
  | j :: r, vs, H => match ops[j]? with
    | none => none
    | some o => match guardCh ops (gmin ops D vs base j) o with
      | none => none
      | some ch => match H.find? fun h => consB D j h.1 with
        | none => none
        | some h => match stepD P (gmin ops D vs base j) ch h.2 o (hintOf hs j) with
          | none => none
          | some q => run1 P ops hs D base r (vs ++ [(ch, q.1.1)]) (H ++ if D.effs.contains j then H.filterMap (fun h => if consB D j h.1 then match stepD P (gmin ops D vs base j) ch h.2 o (hintOf hs j) with
            | some q => some (keyAdd D h.1 j, q.1.2)
            | none => none else none) else [])

def stepJ (P : Program) (ops : Array Oper) (hs : List (Nat × HE)) (D : DS) (base : GFr) (vs : VS) (j : Nat) (L : List Ob) : Option ((AV × List Ob) × List Prop) :=
  match ops[j]?, vs[j]? with
  | some o, some (ch, _) => if guardCh ops (gmin ops D vs base j) o = some ch then stepD P (gmin ops D vs base j) ch L o (hintOf hs j) else none
  | _, _ => none

def jobsD (D : DS) (H : HS) (n : Nat) : List (Nat × List Nat × List Ob) := (List.range n).flatMap fun j => (H.filter fun h => consB D j h.1).map fun h => (j, h.1, h.2)

def wantD (D : DS) (vs : VS) (H : HS) (j : Nat) (K : List Nat) (L : List Ob) : Option (AV × List Ob) :=
  match vs[j]?, (if D.effs.contains j then lookH H (keyAdd D K j) else some L) with
  | some (_, v), some L' => some (v, L')
  | _, _ => none

def condsD (P : Program) (ops : Array Oper) (hs : List (Nat × HE)) (D : DS) (base : GFr) (vs : VS) (H : HS) : List Prop :=
  (jobsD D H ops.size).flatMap fun q => match stepJ P ops hs D base vs q.1 q.2.2 with
    | some r => r.2
    | none => []

def dchk (ops : Array Oper) (N : Nat) (D : DS) (vs : VS) : Bool :=
  (vs.length == ops.size) && D.effs.all (fun e => decide (e < ops.size)) && (List.range ops.size).all fun j =>
    ((D.p j).all fun i => decide (i < j) && ((dpreds ops j).contains i || (dpreds ops j).any fun m => (D.p m).contains i)) &&
    ((dpreds ops j).all fun i => (D.p j).contains i) &&
    (match factOf ops vs j with
      | some x => decide (x.1 < N) && x.2.1.all (fun y => y.1 != x.1 && (wrs ops y.1).all fun k => (D.p j).contains k)
      | none => true)

def drawnRun (P : Program) (ops : Array Oper) (N : Nat) (hs : List (Nat × HE)) (D : DS) (live : List Nat) (fr : Fr) (L : List Ob) : Option (Fr × List Ob × List Prop) :=
  match run1 P ops hs D fr.up (List.range ops.size) [] [([], L)] with
  | some (vs, H) => if dchk ops N D vs = true ∧ ((jobsD D H ops.size).all fun q => (stepJ P ops hs D fr.up vs q.1 q.2.2).isSome) = true then match lookH H D.effs, keepG (gfin ops D vs fr.up) live with
      | some L', some fr' => some (fr', L', condsD P ops hs D fr.up vs H)
      | _, _ => none
    else none
  | none => none

def drawnL (P : Program) (ops : Array Oper) (hs : List (Nat × HE)) (D : DS) (fr : Fr) (L : List Ob) : List (Option (AV × List Ob)) :=
  match run1 P ops hs D fr.up (List.range ops.size) [] [([], L)] with
  | some (vs, H) => (jobsD D H ops.size).map fun q => (stepJ P ops hs D fr.up vs q.1 q.2.2).map (·.1)
  | none => []
def drawnR (P : Program) (ops : Array Oper) (hs : List (Nat × HE)) (D : DS) (fr : Fr) (L : List Ob) : List (Option (AV × List Ob)) :=
  match run1 P ops hs D fr.up (List.range ops.size) [] [([], L)] with
  | some (vs, H) => (jobsD D H ops.size).map fun q => wantD D vs H q.1 q.2.1 q.2.2
  | none => []

def Fact (c : Cx) (x : Nat × Chain × AV) (tmps : Array Value) : Prop :=
  x.1 < tmps.size ∧ (holds x.2.1 tmps → AV.IsV c x.2.2 (tmps.getD x.1 undef)) ∧ (¬ holds x.2.1 tmps → tmps.getD x.1 undef = undef)

/-- Where a region that draws its order may be. -/
structure Inv (ops : Array Oper) (N : Nat) (D : DS) (vs : VS) (H : HS) (base : GFr) (X : Nat → Prop) (ms0 : Blocks) (L0 : List Ob) (w0 : World) (a0 : Act) (listed : Array Bool) (a : Act) (ms : Blocks) (L : List Ob) (w : World) : Prop where
  size : listed.size = ops.size
  down : ∀ j, listed.getD j false = true → ∀ i ∈ D.p j, listed.getD i false = true
  key : lookH H (D.effs.filter fun e => listed.getD e false) = some L
  rel : Rel X ms L w
  ext : Ext ms0 w0 ms w
  le : (cxOf X ms0 L0 w0).le (cxOf X ms L w)
  base : ∀ x ∈ base, (∀ k ∈ wrs ops x.1, listed.getD k false = false) → Fact (cxOf X ms L w) x a.tmps
  facts : ∀ i x, listed.getD i false = true → factOf ops vs i = some x → (∀ k ∈ wrs ops x.1, k ≠ i → listed.getD k false = true → k ∈ D.p i) → Fact (cxOf X ms L w) x a.tmps
  tmps : a.tmps.size = N
  defers : a.defers = a0.defers

theorem mem_wrs {ops : Array Oper} {t k : Nat} : k ∈ wrs ops t ↔ ∃ o, ops[k]? = some o ∧ o.dst = some t := by
  unfold wrs
  rw [List.mem_filter, List.mem_range]
  cases ho : ops[k]? with
  | none => simp
  | some o =>
    have : k < ops.size := (Array.getElem?_eq_some_iff.1 ho).1
    cases hd : o.dst with
    | none => simp [hd]
    | some t' => simp [hd, this]

theorem Fact.mono {c c' : Cx} (hc : c.le c') {x : Nat × Chain × AV} {tmps : Array Value} (h : Fact c x tmps) : Fact c' x tmps := ⟨h.1, fun hh => (h.2.1 hh).mono hc, h.2.2⟩

theorem Fact.put {c : Cx} {x : Nat × Chain × AV} {a : Act} (h : Fact c x a.tmps) {dst : Option Tmp} {u : Value} (h1 : ∀ t, dst = some t → t ≠ x.1) (h2 : ∀ t, dst = some t → ∀ y ∈ x.2.1, y.1 ≠ t) : Fact c x (a.put dst u).tmps := by
  cases dst with
  | none => exact h
  | some t =>
    have hne := h1 t rfl
    have hch := h2 t rfl
    have hget : ∀ s, s ≠ t → (a.put (some t) u).tmps.getD s undef = a.tmps.getD s undef := fun s hs => by
      simp only [Act.put, Array.getD_eq_getD_getElem?]
      rw [Array.getElem?_setIfInBounds_ne (fun e => hs e.symm)]
    have hh : holds x.2.1 (a.put (some t) u).tmps ↔ holds x.2.1 a.tmps := by
      constructor
      · intro q y hy
        have := q y hy
        rwa [hget y.1 (hch y hy)] at this
      · intro q y hy
        rw [hget y.1 (hch y hy)]
        exact q y hy
    refine ⟨by simpa [Act.put] using h.1, fun q => ?_, fun q => ?_⟩
    · rw [hget x.1 (Ne.symm hne)]; exact h.2.1 (hh.1 q)
    · rw [hget x.1 (Ne.symm hne)]; exact h.2.2 (fun q' => q (hh.2 q'))

end Go.TA
