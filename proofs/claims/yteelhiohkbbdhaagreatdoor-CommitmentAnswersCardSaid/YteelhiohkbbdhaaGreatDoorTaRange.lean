/- A part of the proof: laws over any program of the abstract machine. No condition. -/
import Derived.RangeFuncNested
import Derived.RangeFuncCalls
import Derived.RangeFuncLeaves
import Derived.Below
import Derived.Test.YteelhiohkbbdhaaGreatDoorTaCore
import Derived.Test.YteelhiohkbbdhaaGreatDoorTaVc
namespace Go.TA
open Go Go.RowKit

/-! ## A range over a function that keeps its state in a block of its own -/
/-- All is as it was but for the blocks of T, and new ones. -/
structure Turn (T : Nat → Prop) (A B : World) : Prop where
  out : SameOut A B
  size : A.heap.size ≤ B.heap.size
  same : ∀ k, k < A.heap.size → ¬ T k → B.heap[k]? = A.heap[k]?

theorem Turn.refl (T : Nat → Prop) (A : World) : Turn T A A := ⟨SameOut.refl A, Nat.le_refl _, fun _ _ _ => rfl⟩
theorem Turn.trans {T : Nat → Prop} {A B C : World} (h : Turn T A B) (k : Turn T B C) : Turn T A C :=
  ⟨h.out.trans k.out, Nat.le_trans h.size k.size, fun i hi ht => (k.same i (Nat.lt_of_lt_of_le hi h.size) ht).trans (h.same i hi ht)⟩
theorem Turn.mono {T U : Nat → Prop} {A B : World} (h : Turn T A B) (hu : ∀ k, T k → U k) : Turn U A B := ⟨h.out, h.size, fun k hk hn => h.same k hk fun ht => hn (hu k ht)⟩
theorem Turn.put {T : Nat → Prop} {A : World} {l : Nat} (hl : T l) (o : Obj) : Turn T A (A.putObj l o) :=
  ⟨⟨rfl, rfl, rfl⟩, by simp, fun k _ hn => World.putObj_heap_other (fun e => hn (e ▸ hl))⟩

def Keeps (caps : List Nat) (A B : World) : Prop := A.heap.size ≤ B.heap.size ∧ ∀ k ∈ caps, B.heap[k]? = A.heap[k]?

/-- What the iterator promises, whatever the loop's body is. -/
def SeqT {α : Type} (P : Program) (n gf : Nat) (lb : Array Value) (enc : α → Value) (T : Nat → Prop) (caps : List Nat) (w : World) (S Pr : List α → Prop) : Prop :=
  ∀ (l : Nat) (J Jx : List α → World → Prop) (W : World), w.heap.size ≤ W.heap.size → (∀ k ∈ caps, W.heap[k]? = w.heap[k]?) →
    (∀ pre A B, J pre A → Turn T A B → J pre B) → (∀ pre A B, Jx pre A → Turn T A B → Jx pre B) →
    (∀ pre x W1, Pr (pre ++ [x]) → J pre W1 → YieldAt Fence.wide n P l #[enc x] W1 fun e W' => (e = .returned (.bool true) ∧ J (pre ++ [x]) W' ∧ Keeps caps W1 W') ∨ (e = .returned (.bool false) ∧ Jx (pre ++ [x]) W')) → J [] W →
    CallsIn Fence.wide n P gf (#[.func (.yield l) #[] #[]] ++ lb) W fun e W' => (∃ v, e = .returned v) ∧ ((∃ xs, S xs ∧ J xs W') ∨ ∃ pre, Jx pre W')

/-- How a round may end. -/
def roundEnd {α : Type} (l D : Nat) (caps : List Nat) (I : List α → World → Prop) (Ix : Code → List α → World → Prop) (xs : List α) (W : World) : Exit → Act → World → Prop
  | .normal, _, W' => (W'.heap[l]? = W.heap[l]? ∧ W'.heap[D]? = W.heap[D]?) ∧ Keeps caps W W' ∧ I xs W'
  | .ret, _, W' => (W'.heap[l]? = W.heap[l]? ∧ W'.heap[D]? = W.heap[D]?) ∧ Ix .ret xs W'
  | _, _, _ => False

theorem range_turn {α : Type} {P : Program} {n : Nat} {g : Operand} {ps : Array Tmp} {assign body : Code} {Q : Exit → Act → World → Prop} {a : Act} {w : World} {gf : Nat} {lb : Array Value}
    (hg : a.eval g = .func (.func gf) #[] lb) (eg : ∀ args w, (callFunc gf args).run P w = .ok (.enter gf args) w) {enc : α → Value} {T : Nat → Prop} {caps : List Nat} {S Pr : List α → Prop}
    (hcaps : ∀ k ∈ caps, k < w.heap.size) (hseq : SeqT P n gf lb enc T caps w S Pr) (hT : ∀ k, T k → k < w.heap.size) (hps : ps.size = 1)
    (I : List α → World → Prop) (Ix : Code → List α → World → Prop)
    (hI : ∀ pre A B, I pre A → Turn (fun k => T k ∨ k = w.heap.size ∨ k = w.heap.size + 1) A B → I pre B)
    (hIx : ∀ c pre A B, Ix c pre A → Turn (fun k => T k ∨ k = w.heap.size ∨ k = w.heap.size + 1) A B → Ix c pre B) (h0 : I [] w) (a₁ : α → Act)
    (hassign : ∀ (l : Nat) (x : α) (W : World) (K : Act → World → Prop), K (a₁ x) W →
      assign.wpIn (Fence.wide.inRound l) n P (Exit.then K (fun _ _ _ => False)) { tmps := (ps.zip #[enc x]).foldl (fun t (p, v) => t.setIfInBounds p v) a.tmps, defers := [] } W)
    (hbody : ∀ (l : Nat) (pre : List α) (x : α) (W : World), l = w.heap.size + 1 → l < W.heap.size → Pr (pre ++ [x]) → I pre W → body.wpIn (Fence.wide.inRound l) n P (roundEnd l w.heap.size caps I Ix (pre ++ [x]) W) (a₁ x) W)
    (hdone : ∀ (xs : List α) (W : World), S xs → I xs W → W.heap[w.heap.size]? = some (.deferred (some [])) → Q .normal { a with defers := { target := .collected w.heap.size, args := #[] } :: a.defers } W)
    (hstop : ∀ (c : Code) (pre : List α) (W : World), Ix c pre W → W.heap[w.heap.size]? = some (.deferred (some [])) → c.wpIn Fence.wide (n + 1) P Q { a with defers := { target := .collected w.heap.size, args := #[] } :: a.defers } W) :
    (Code.rangeFunc g ps assign body).wpIn Fence.wide (n + 1) P Q a w := by
  refine wpIn_rangeFunc fun fn hfn => ?_
  let rec' : LoopState → Option Code → Loop := fun st pe => { state := st, pending := pe, fn, tmps := a.tmps, params := ps, assign, body, defers := w.heap.size }
  obtain ⟨W1, hW1⟩ : ∃ W1, (w.alloc (.deferred (some []))).alloc (.loop (rec' .ready none)) = W1 := ⟨_, rfl⟩
  have hL1 : W1.heap[w.heap.size + 1]? = some (.loop (rec' .ready none)) := by
    rw [← hW1]; have := World.alloc_heap_new (w.alloc (.deferred (some []))) (.loop (rec' .ready none)); rwa [World.size_alloc] at this
  have hK1 : W1.heap[w.heap.size]? = some (.deferred (some [])) := by
    rw [← hW1]; exact (Below.heap_alloc _ _ _ (by simp)).trans (World.alloc_heap_new w _)
  have hold : ∀ k, k < w.heap.size → W1.heap[k]? = w.heap[k]? := fun k hk => by
    rw [← hW1]; exact (Below.heap_alloc _ _ _ (by simp; omega)).trans (Below.heap_alloc _ _ _ hk)
  have hsz : w.heap.size ≤ W1.heap.size := by rw [← hW1]; simp; omega
  have hT1 : Turn (fun k => T k ∨ k = w.heap.size ∨ k = w.heap.size + 1) w W1 := ⟨by rw [← hW1]; exact ⟨rfl, rfl, rfl⟩, hsz, fun k hk _ => hold k hk⟩
  refine ⟨w.heap.size + 1, [{ target := .collected w.heap.size, args := #[] }], W1, { target := .fn (.func gf) lb, args := #[.func (.yield (w.heap.size + 1)) #[] #[]] }, W1, gf,
    #[.func (.yield (w.heap.size + 1)) #[] #[]] ++ lb, W1, ?_, ?_, fun _ _ => trivial, ?_, fun h => (by cases h), ?_⟩
  · rw [← hW1]; exact run_enterLoop_outer _ _ _ _ _
  · simp only [resolve, hg]
    simp [go_sem]
  · simp [invoke, go_sem, eg]
  · have hput : ∀ {W : World} (o : Obj), Turn (fun k => T k ∨ k = w.heap.size ∨ k = w.heap.size + 1) W (W.putObj (w.heap.size + 1) o) := fun o => Turn.put (.inr (.inr rfl)) o
    have hne : ∀ {A B : World} (k : Nat), Turn T A B → (k = w.heap.size ∨ k = w.heap.size + 1) → ∀ {o : Obj}, A.heap[k]? = some o → B.heap[k]? = some o := fun {A B} k ht hk {o} ho => by
      have hlt := (Array.getElem?_eq_some_iff.1 ho).1
      exact (ht.same k hlt fun h => by have := hT k h; omega).trans ho
    refine (hseq (w.heap.size + 1)
      (fun pre W => I pre W ∧ W.heap[w.heap.size + 1]? = some (.loop (rec' .ready none)) ∧ W.heap[w.heap.size]? = some (.deferred (some [])))
      (fun pre W => ∃ c, Ix c pre W ∧ W.heap[w.heap.size + 1]? = some (.loop (rec' .done (some c))) ∧ W.heap[w.heap.size]? = some (.deferred (some [])))
      W1 hsz (fun k hk => hold k (hcaps k hk))
      (fun pre A B ⟨h1, h2, h3⟩ ht => ⟨hI pre A B h1 (ht.mono fun k hk => .inl hk), hne _ ht (.inr rfl) h2, hne _ ht (.inl rfl) h3⟩)
      (fun pre A B ⟨c, h1, h2, h3⟩ ht => ⟨c, hIx c pre A B h1 (ht.mono fun k hk => .inl hk), hne _ ht (.inr rfl) h2, hne _ ht (.inl rfl) h3⟩)
      ?_ ⟨hI _ _ _ h0 hT1, hL1, hK1⟩).mono ?_
    · rintro pre x W hpr ⟨hi, hl, hk⟩
      have hlt : w.heap.size + 1 < W.heap.size := (Array.getElem?_eq_some_iff.1 hl).1
      have hy := run_yield (P := P) (args := #[enc x]) hl (by simp [rec', hps])
      refine ⟨fn, _, assign, body, hy, roundIn_of_wpIn hfn (hassign _ x W _ ⟨_, run_beginRound hl rfl, ?_⟩)⟩
      obtain ⟨W2, hW2⟩ : ∃ W2, W.putObj (w.heap.size + 1) (.loop { rec' .ready none with state := .busy }) = W2 := ⟨_, rfl⟩
      have hl2 : W2.heap[w.heap.size + 1]? = some (.loop { rec' .ready none with state := .busy }) := by rw [← hW2]; exact World.putObj_heap_same hlt
      have hk2 : W2.heap[w.heap.size]? = some (.deferred (some [])) := by rw [← hW2]; exact (World.putObj_heap_other (by omega)).trans hk
      have hi2 : I pre W2 := by rw [← hW2]; exact hI _ _ _ hi (hput _)
      have hsz2 : W2.heap.size = W.heap.size := by rw [← hW2]; simp
      have hkeep : ∀ (A : World) (o : Obj), Keeps caps A (A.putObj (w.heap.size + 1) o) := fun A o => ⟨by simp, fun k hk => World.putObj_heap_other (by have := hcaps k hk; omega)⟩
      show body.wpIn _ _ _ _ _ (W.putObj (w.heap.size + 1) (.loop { rec' .ready none with state := .busy }))
      rw [hW2]
      refine wpIn_mono (hbody _ pre x W2 rfl (by omega) hpr hi2) ?_
      have hfin : ∀ (jump : Option Code) (W3 : World), W3.heap[w.heap.size + 1]? = W2.heap[w.heap.size + 1]? → W3.heap[w.heap.size]? = W2.heap[w.heap.size]? →
          (Instr.endRound (w.heap.size + 1) jump).run P W3 = .ok (.bool jump.isNone) (W3.putObj (w.heap.size + 1) (.loop (rec' (if jump.isNone then .ready else .done) jump))) ∧
          (W3.putObj (w.heap.size + 1) (.loop (rec' (if jump.isNone then .ready else .done) jump))).heap[w.heap.size + 1]? = some (.loop (rec' (if jump.isNone then .ready else .done) jump)) ∧
          (W3.putObj (w.heap.size + 1) (.loop (rec' (if jump.isNone then .ready else .done) jump))).heap[w.heap.size]? = some (.deferred (some [])) := fun jump W3 e1 e2 => by
        have hl3 := e1.trans hl2
        exact ⟨run_endRound (P := P) jump hl3, World.putObj_heap_same (Array.getElem?_eq_some_iff.1 hl3).1, (World.putObj_heap_other (by omega)).trans (e2.trans hk2)⟩
      rintro e a3 W3 hp
      cases e with
      | normal =>
        obtain ⟨⟨e1, e2⟩, hkp, hi3⟩ := hp
        obtain ⟨r1, r2, r3⟩ := hfin none W3 e1 e2
        refine ⟨_, _, r1, .inl ⟨rfl, ⟨hI _ _ _ hi3 (hput _), r2, r3⟩, ?_⟩⟩
        have hb := hkeep W3 (.loop (rec' .ready none))
        have ha := hkeep W (.loop { rec' .ready none with state := .busy })
        rw [hW2] at ha
        exact ⟨Nat.le_trans ha.1 (Nat.le_trans hkp.1 hb.1), fun k hk => (hb.2 k hk).trans ((hkp.2 k hk).trans (ha.2 k hk))⟩
      | ret =>
        obtain ⟨⟨e1, e2⟩, hi3⟩ := hp
        obtain ⟨r1, r2, r3⟩ := hfin (some .ret) W3 e1 e2
        exact ⟨_, _, r1, .inr ⟨rfl, .ret, hIx _ _ _ _ hi3 (hput _), r2, r3⟩⟩
      | exit id => exact hp.elim
      | goto t => exact hp.elim
      | panic ch => exact hp.elim
      | outgrown => exact hp.elim
    · rintro e W2 ⟨⟨v, rfl⟩, (⟨xs, hS, hi, hl, hk⟩ | ⟨pre, c, hi, hl, hk⟩)⟩
      · exact ⟨none, _, run_endLoop (P := P) hl (by simp [rec']), hdone xs _ hS (hI _ _ _ hi (hput _)) ((World.putObj_heap_other (by omega)).trans hk)⟩
      · exact ⟨some c, _, run_endLoop (P := P) hl (by simp [rec']), hstop c pre _ (hIx c _ _ _ hi (hput _)) ((World.putObj_heap_other (by omega)).trans hk)⟩
end Go.TA

namespace Go.TA
open Go Go.RowKit

/-! ## A range over a function, on the objects -/
theorem relTurn {X Y : Nat → Prop} {ms : Blocks} {L : List Ob} {A B : World} {T : Nat → Prop} (h : Rel X ms L A) (ht : Turn T A B) (hT : ∀ k, T k → k < A.heap.size → X k)
    (hYX : ∀ k, Y k → X k ∨ A.heap.size ≤ k) (hY : ∀ k, Y k → k < B.heap.size) :
    Rel Y ms L B ∧ (cxOf X ms L A).le (cxOf Y ms L B) := by
  have hM : (memOf X ms A).le (memOf Y ms B) := fun b arr e => by
    obtain ⟨h1, h2, e', fz, h3⟩ := memOf_some e
    have hlt : b < A.heap.size := (Array.getElem?_eq_some_iff.1 h3).1
    refine memOf_intro (fun hy => ?_) h2 ((ht.same b hlt fun hk => h1 (hT b hk hlt)).trans h3)
    rcases hYX b hy with hx | hx
    · exact h1 hx
    · omega
  have hc : (cxOf X ms L A).le (cxOf Y ms L B) := ⟨hM, Nat.le_refl _, fun _ obj' _ hl _ => ⟨obj', hl, rfl, fun s hs => ⟨s, hs, Nat.le_refl _⟩, fun _ => rfl⟩⟩
  refine ⟨⟨h.len, fun b hb => ?_, hY, h.inj, fun o obj ho => ?_, h.glob.mono hM⟩, hc⟩
  · obtain ⟨h1, h2⟩ := h.lt b hb
    refine ⟨Nat.lt_of_lt_of_le h1 ht.size, fun hy => ?_⟩
    rcases hYX b hy with hx | hx
    · exact h2 hx
    · omega
  · exact (h.obs o obj ho).mono hc rfl fun b tc hb => by
      obtain ⟨h1, h2⟩ := h.lt b ⟨o, tc, hb⟩
      exact ht.same b h1 fun hk => h2 (hT b hk h1)

/-- What a loop over a list comes to; a round may return. -/
def foldR {α σ ρ : Type} (step : α → σ → Option (Step σ ρ)) : List α → σ → Option (Out σ ρ)
  | [], s => some (.next s)
  | x :: xs, s => match step x s with
    | some (.cont s') => foldR step xs s'
    | some (.ret r) => some (.ret r)
    | _ => none

theorem foldR_app {α σ ρ : Type} {step : α → σ → Option (Step σ ρ)} : ∀ {pre zs : List α} {s0 s : σ}, foldR step pre s0 = some (.next s) → foldR step (pre ++ zs) s0 = foldR step zs s
  | [], _, s0, s, h => by simp [foldR] at h; subst h; rfl
  | x :: pre, zs, s0, s, h => by
    simp only [foldR, List.cons_append] at h ⊢
    cases hx : step x s0 with
    | none => simp [hx] at h
    | some r =>
      cases r with
      | cont s' => simp only [hx] at h ⊢; exact foldR_app h
      | brk s' => simp [hx] at h
      | ret r => simp [hx] at h

section
variable {P : Program} {N n : Nat} {X : Nat → Prop} {ms1 : Blocks} {w1 w2 : World} {a : Act} {fr1 : Fr} {L1 : List Ob} {α σ ρ : Type}

/-- The blocks that the loop keeps for itself. -/
def XY (X : Nat → Prop) (k0 m : Nat) (W : World) (k : Nat) : Prop := X k ∨ (k0 ≤ k ∧ k < k0 + m ∧ k < W.heap.size)

/-- How things stand between rounds. -/
def RInv (X : Nat → Prop) (ms1 : Blocks) (L1 : List Ob) (w1 : World) (m : Nat) (Q : List Ob → Prop) (W : World) : Prop :=
  ∃ ms' L', Q L' ∧ Rel (XY X w1.heap.size m W) ms' L' W ∧ Ext ms1 w1 ms' W ∧ (cxOf X ms1 L1 w1).le (cxOf (XY X w1.heap.size m W) ms' L' W)

theorem RInv.turn {m : Nat} {Q : List Ob → Prop} {A B : World} {T : Nat → Prop} (h : RInv X ms1 L1 w1 m Q A) (ht : Turn T A B) (hT : ∀ k, T k → w1.heap.size ≤ k ∧ k < w1.heap.size + m) : RInv X ms1 L1 w1 m Q B := by
  obtain ⟨ms', L', q, r, e, c⟩ := h
  obtain ⟨r2, c2⟩ := relTurn (Y := XY X w1.heap.size m B) r ht (fun k hk hlt => .inr ⟨(hT k hk).1, (hT k hk).2, hlt⟩)
    (fun k hk => by
      rcases hk with hk | ⟨h1, h2, h3⟩
      · exact .inl (.inl hk)
      · rcases Nat.lt_or_ge k A.heap.size with h4 | h4
        · exact .inl (.inr ⟨h1, h2, h4⟩)
        · exact .inr h4)
    (fun k hk => by
      rcases hk with hk | ⟨_, _, h3⟩
      · exact Nat.lt_of_lt_of_le (r.xlt k (.inl hk)) ht.size
      · exact h3)
  refine ⟨ms', L', q, r2, ⟨Nat.le_trans e.size ht.size, fun b hb ho => ?_, e.out.trans ht.out⟩, c.trans c2⟩
  obtain ⟨h1, h2⟩ := e.keep b hb ho
  exact ⟨(ht.same b (Nat.lt_of_lt_of_le hb e.size) fun hk => by have := (hT b hk).1; omega).trans h1, h2⟩

theorem rangeF_wp {g : Operand} {ps : Array Tmp} {assign body : Code} {gf : Nat} {lb : Array Value} {enc : α → Value} {T : Nat → Prop} {caps : List Nat} {S Pr : List α → Prop}
    (hr : Rel X ms1 L1 w1) (hf : FrIs (cxOf X ms1 L1 w1) fr1.up a.tmps) (_hd : a.defers = []) {m : Nat} (hgrow : Grow w1 w2) (hsz : w2.heap.size + 2 = w1.heap.size + m)
    (hT : ∀ k, T k → w1.heap.size ≤ k ∧ k < w2.heap.size) (hcaps : ∀ k ∈ caps, w1.heap.size ≤ k ∧ k < w2.heap.size) (hseq : SeqT P n gf lb enc T caps w2 S Pr)
    (hg : a.eval g = .func (.func gf) #[] lb) (eg : ∀ args w, (callFunc gf args).run P w = .ok (.enter gf args) w) (hps : ps.size = 1)
    (step : α → σ → Option (Step σ ρ)) (ys : List α) (hS : ∀ xs, S xs → xs = ys) (hPr : ∀ pre, Pr pre → ∃ zs, ys = pre ++ zs) (s0 : σ) (out : Out σ ρ) (hout : foldR step ys s0 = some out)
    (LI : σ → List Ob) (h0 : L1 = LI s0) (hlen : ∀ s, (LI s).length = L1.length) (a₁ : α → Act)
    (hassign : ∀ (l : Nat) (x : α) (W : World) (K : Act → World → Prop), K (a₁ x) W →
      assign.wpIn (Fence.wide.inRound l) n P (Exit.then K (fun _ _ _ => False)) { tmps := (ps.zip #[enc x]).foldl (fun t (p, v) => t.setIfInBounds p v) a.tmps, defers := [] } W)
    (frb : α → Fr) (hfrb : ∀ (c : Cx) (x : α), FrIs c fr1.up a.tmps → FrIs c (frb x).up (a₁ x).tmps) (hab : ∀ x, (a₁ x).tmps.size = N ∧ (a₁ x).defers = []) (R : ρ → Fr → List Ob → Prop)
    (hbody : ∀ (l : Nat) (x : α) (s : σ) (r : Step σ ρ), step x s = some r → AW (some l) P N body (fun e fr L => match e with
      | .normal => ∃ s', r = .cont s' ∧ StLe fr L [] (LI s')
      | .ret => ∃ y, r = .ret y ∧ R y fr1 L
      | _ => False) (frb x) (LI s))
    (Q : Exit → Act → World → Prop)
    (hQn : ∀ s W, out = .next s → RInv X ms1 L1 w1 m (fun L => L = LI s) W → w2.heap.size < W.heap.size → W.heap[w2.heap.size]? = some (.deferred (some [])) →
      Q .normal { a with defers := { target := .collected w2.heap.size, args := #[] } :: a.defers } W)
    (hQr : ∀ y W, out = .ret y → RInv X ms1 L1 w1 m (fun L => R y fr1 L) W → w2.heap.size < W.heap.size → W.heap[w2.heap.size]? = some (.deferred (some [])) →
      Q .ret { a with defers := { target := .collected w2.heap.size, args := #[] } :: a.defers } W) :
    (Code.rangeFunc g ps assign body).wpIn Fence.wide (n + 1) P Q a w2 := by
  have hw12 := hgrow.size
  have hTT : ∀ k, (T k ∨ k = w2.heap.size ∨ k = w2.heap.size + 1) → w1.heap.size ≤ k ∧ k < w1.heap.size + m := fun k hk => by
    rcases hk with hk | rfl | rfl
    · have := hT k hk; omega
    · omega
    · omega
  have hlt : ∀ {W : World} {o : Obj}, W.heap[w2.heap.size]? = some o → w2.heap.size < W.heap.size := fun h => (Array.getElem?_eq_some_iff.1 h).1
  refine range_turn hg eg (fun k hk => (hcaps k hk).2) hseq (fun k hk => (hT k hk).2) hps
    (fun pre W => RInv X ms1 L1 w1 m (fun L => ∃ s, foldR step pre s0 = some (.next s) ∧ L = LI s) W)
    (fun c pre W => c = .ret ∧ RInv X ms1 L1 w1 m (fun L => ∃ y, out = .ret y ∧ R y fr1 L) W)
    (fun pre A B h ht => h.turn ht hTT) (fun c pre A B h ht => ⟨h.1, h.2.turn ht hTT⟩) ?_ a₁ hassign ?_ ?_ ?_
  · -- the start
    obtain ⟨r2, c2⟩ := relTurn (Y := XY X w1.heap.size m w2) hr (B := w2) (T := fun _ => False) ⟨hgrow.out, hgrow.size, fun k hk _ => hgrow.same k hk⟩ (fun k hk => hk.elim)
      (fun k hk => hk.elim .inl fun h => .inr h.1) (fun k hk => by
        rcases hk with hk | ⟨_, _, h3⟩
        · exact Nat.lt_of_lt_of_le (hr.xlt k hk) hgrow.size
        · exact h3)
    exact ⟨ms1, L1, ⟨s0, rfl, h0⟩, r2, hgrow.ext ms1, c2⟩
  · -- a round
    intro l pre x W hl hlW hpr ⟨ms', L', ⟨s, hs, hL⟩, r, e, c⟩
    subst hL
    obtain ⟨zs, hzs⟩ := hPr _ hpr
    have hfold : foldR step ([x] ++ zs) s = some out := by
      rw [← foldR_app (zs := [x] ++ zs) hs, ← List.append_assoc, ← hzs]; exact hout
    simp only [List.singleton_append, foldR] at hfold
    cases hst : step x s with
    | none => simp [hst] at hfold
    | some rr =>
      have hX : ∀ k, w1.heap.size ≤ k → k < w1.heap.size + m → k < W.heap.size → XY X w1.heap.size m W k := fun k h1 h2 h3 => .inr ⟨h1, h2, h3⟩
      have hnot : ∀ k, XY X w1.heap.size m W k → ¬ owned ms' k := fun k hk ho => (r.lt k ho).2 hk
      refine wpIn_mono (hbody l x s rr hst n [] _ ms' W (a₁ x) r (hfrb _ x ((hf.mono c))) (hab x).1 (hab x).2) ?_
      rintro ex a3 W3 ⟨ms3, fr3, L3, q3, r3, e3, c3, f3, n3, d3⟩
      have hsame : ∀ k, XY X w1.heap.size m W k → W3.heap[k]? = W.heap[k]? := fun k hk => (e3.keep k (r.xlt k hk) (hnot k hk)).1
      have hXe : XY X w1.heap.size m W3 = XY X w1.heap.size m W := by
        funext k
        apply propext
        constructor
        · rintro (hk | ⟨h1, h2, h3⟩)
          · exact .inl hk
          · exact .inr ⟨h1, h2, by omega⟩
        · rintro (hk | ⟨h1, h2, h3⟩)
          · exact .inl hk
          · exact .inr ⟨h1, h2, Nat.lt_of_lt_of_le h3 e3.size⟩
      have hls : W3.heap[l]? = W.heap[l]? := hsame l (hX l (by omega) (by omega) hlW)
      have hDs : W3.heap[w2.heap.size]? = W.heap[w2.heap.size]? := hsame _ (hX _ (by omega) (by omega) (by omega))
      cases ex with
      | normal =>
        obtain ⟨s', rfl, st⟩ := q3
        have hlen3 : (LI s).length ≤ (LI s').length := by rw [hlen, hlen]; exact Nat.le_refl _
        obtain ⟨ms4, k1, k2, k3, _⟩ := st.rel hlen3 r3 e3 c3 f3
        refine ⟨⟨hls, hDs⟩, ⟨e3.size, fun k hk => hsame k (hX k (hcaps k hk).1 (by have := (hcaps k hk).2; omega) (by have := (hcaps k hk).2; omega))⟩, ms4, LI s', ⟨s', ?_, rfl⟩, ?_, e.trans k2, ?_⟩
        · rw [foldR_app hs]; simp [foldR, hst]
        · rw [hXe]; exact k1
        · rw [hXe]; exact c.trans k3
      | ret =>
        obtain ⟨y, rfl, hy⟩ := q3
        simp only [hst, Option.some.injEq] at hfold
        refine ⟨⟨hls, hDs⟩, rfl, ms3, L3, ⟨y, hfold.symm, hy⟩, ?_, e.trans e3, ?_⟩
        · rw [hXe]; exact r3
        · rw [hXe]; exact c.trans c3
      | _ => exact q3.elim
  · intro xs W hSx hI hD
    obtain ⟨ms', L', ⟨s, hs, hL⟩, r, e, c⟩ := hI
    have hxs := hS xs hSx
    subst hxs
    rw [hout] at hs
    exact hQn s W (Option.some.inj hs) ⟨ms', L', hL, r, e, c⟩ (hlt hD) hD
  · rintro cc pre W ⟨rfl, ms', L', ⟨y, hy, hR⟩, r, e, c⟩ hD
    exact wpIn_ret (hQr y W hy ⟨ms', L', hR, r, e, c⟩ (hlt hD) hD)
end
end Go.TA
