/- A part of the proof: laws over any program of the abstract machine. No condition. -/
import Derived.Test.YteelhiohkbbdhaaGreatDoorTaMap
namespace Go.TA
open Go

/-! ## calls -/
/-- **What a call does**, in every state that is so. -/
def CallOk (P : Program) (f : FuncId) (args : List AV) (L : List Ob) (v : AV) (L' : List Ob) : Prop :=
  ∀ (X : Nat → Prop) (ms : Blocks) (w : World) (us : List Value), Rel X ms L w → AV.IsVs (cxOf X ms L w) args us →
    Calls P f us.toArray w fun e w' => ∃ u ms', e = .returned u ∧ Rel X ms' L' w' ∧ Ext ms w ms' w' ∧ (cxOf X ms L w).le (cxOf X ms' L' w') ∧ AV.IsV (cxOf X ms' L' w') v u

def callable (P : Program) (f : FuncId) : Bool := match P.funcs[f]? with
  | some fn => !(fn.name == "runtime.NumGoroutine") && fn.body.isSome
  | none => false

theorem AV.IsVs.append {c : Cx} : ∀ {as : List AV} {us : List Value} {bs : List AV} {vs : List Value}, AV.IsVs c as us → AV.IsVs c bs vs → AV.IsVs c (as ++ bs) (us ++ vs)
  | _, _, _, _, .nil, h => h
  | _, _, _, _, .cons _ _ _ _ h ht, h' => .cons _ _ _ _ h (AV.IsVs.append ht h')

theorem call_op {P : Program} {L L' : List Ob} {G : GFr} {ch : Chain} {o : Oper} {fo : Operand} {args : Array Operand} {ts : Array TypeId} {f : FuncId} {caps as : List AV} {v : AV}
    (ho : o.op = .call ⟨.value fo, args, ts⟩) (hf0 : opnd G ch fo = some (.fn f caps)) (ha : opnds G ch args.toList = some as) (hcall : callable P f = true)
    (h : CallOk P f (as ++ caps) L v L') : OpOk P G ch L o v L' := by
  intro z zn X ms w a K Q hr hf hh hK
  have hfv := IsV.is1 rfl (by simp) (by simp) (opnd_is hf0 hf hh)
  have hav := opnds_is hf hh ha
  generalize hfo : a.eval fo = u at hfv
  cases hfv with
  | fn _ _ vs hvs =>
  unfold callable at hcall
  split at hcall
  · rename_i fn hfn
    simp only [Bool.and_eq_true, Bool.not_eq_true', beq_eq_false_iff_ne, ne_eq] at hcall
    have hexec : (execOp a.eval o).run P w = .ok (.enter f (args.toList.map a.eval ++ vs).toArray) w := by
      obtain ⟨dst, op, ty, pos, after, guard⟩ := o
      subst ho
      have hb : fn.body.isNone = false := by
        cases hbd : fn.body with
        | none => simp [hbd] at hcall
        | some _ => rfl
      simp only [execOp, resolve, hfo, Deferred.ofValue, Sem.run_bind, Sem.run_pure, Result.andThen_ok, invoke, callFunc, run_program, hfn, hb, Bool.false_eq_true, if_false]
      rw [if_neg (by simpa using hcall.1)]
      simp
    refine ⟨fun f _ => fence_fn z f, ?_⟩
    rw [semAt_of hexec (by simp)]
    refine ⟨fence_depth z zn, callsIn_fence ?_⟩
    refine (h X ms w _ hr (hav.append hvs)).mono fun e w' ⟨u, ms', he, h1, h2, h3, h4⟩ => ?_
    subst he
    exact hK u ms' w' h1 h2 h3 h4
  · cases hcall

/-! ## what is known may be said less of -/
def LeV (v v' : AV) : Prop := ∀ c u, AV.IsV c v u → AV.IsV c v' u
theorem LeV.refl (v : AV) : LeV v v := fun _ _ h => h

/-- The same object, said otherwise. -/
structure OLe (x y : Ob) : Prop where
  kind : x.kind = y.kind
  stamp : x.stamp = y.stamp
  is : ∀ c w o, ObIs c w o x → ObIs c w o y

theorem OLe.refl (x : Ob) : OLe x x := ⟨rfl, rfl, fun _ _ _ h => h⟩

theorem Rel.recast {X : Nat → Prop} {ms : Blocks} {L : List Ob} {w : World} (h : Rel X ms L w) {o : Nat} {x y : Ob} (hL : L[o]? = some x) (hxy : OLe x y) :
    Rel X ms (L.set o y) w ∧ (cxOf X ms L w).le (cxOf X ms (L.set o y) w) := by
  have hlt : o < L.length := by
    rcases Nat.lt_or_ge o L.length with h' | h'
    · exact h'
    · rw [List.getElem?_eq_none h'] at hL; cases hL
  have hr := h.step (ms' := ms) (L' := L.set o y) (w' := w) (Ext.refl _ _) (by simp [h.len]) h.lt h.inj (by simp) (fun i x' hi hl hs => by
    by_cases hio : o = i
    · subst hio
      rw [List.getElem?_set_self hlt] at hl
      cases hl
      exact ⟨x, hL, hxy.kind, fun s hs => ⟨s, by rw [← hxy.stamp]; exact hs, Nat.le_refl _⟩, fun _ => rfl⟩
    · rw [List.getElem?_set_ne hio] at hl
      exact ⟨x', hl, rfl, fun s hs => ⟨s, hs, Nat.le_refl _⟩, fun _ => rfl⟩) (fun i x' hl => by
    by_cases hio : o = i
    · subst hio
      rw [List.getElem?_set_self hlt] at hl
      cases hl
      exact .inr fun hc => hxy.is _ _ _ ((h.obs o x hL).mono hc rfl (fun _ _ _ => rfl))
    · rw [List.getElem?_set_ne hio] at hl
      exact .inl ⟨hl, rfl, fun _ _ _ => rfl⟩)
  exact hr

end Go.TA

namespace Go.TA
open Go

/-! ## renaming objects -/
mutual
def AV.ren (ρ : Nat → Nat) : AV → AV
  | .agg fs => .agg (AV.renL ρ fs)
  | .ptr o st p => .ptr (ρ o) st p
  | .ref o st off n => .ref (ρ o) st off n
  | .map o => .map (ρ o)
  | .fn f caps => .fn f (AV.renL ρ caps)
  | .tup vs => .tup (AV.renL ρ vs)
  | .d x => .d x
  | .full n f => .full n f
  | .nq b n f => .nq b n f
  | .err b => .err b
  | .imm x => .imm x
  | .bot => .bot
def AV.renL (ρ : Nat → Nat) : List AV → List AV
  | [] => []
  | x :: xs => x.ren ρ :: AV.renL ρ xs
end

def Ob.ren (ρ : Nat → Nat) : Ob → Ob
  | .box x => .box (x.ren ρ)
  | .seq sz n f => .seq sz n fun i => (f i).ren ρ
  | .map es => .map es
  | .dead => .dead
  | .unb => .unb

theorem Ob.ren_stamp (ρ : Nat → Nat) (o : Ob) : (o.ren ρ).stamp = o.stamp := by cases o <;> rfl
theorem Ob.ren_kind (ρ : Nat → Nat) (o : Ob) : (o.ren ρ).kind = o.kind := by cases o <;> rfl
theorem AV.ren_isAgg (ρ : Nat → Nat) (x : AV) : (x.ren ρ).isAgg = x.isAgg := by
  cases x <;> simp [AV.ren, AV.isAgg]

/-- One context inside another. -/
structure Ren (cc c : Cx) (ρ : Nat → Nat) : Prop where
  M : cc.M = c.M
  lt : ∀ k, k < cc.L.length → ρ k < c.L.length
  ge : ∀ k, cc.L.length ≤ k → c.L.length ≤ ρ k
  L : ∀ k, k < cc.L.length → c.L[ρ k]? = (cc.L[k]?).map (Ob.ren ρ)
  ms : ∀ k, k < cc.L.length → c.ms[ρ k]? = cc.ms[k]?

section
variable {cc c : Cx} {ρ : Nat → Nat}

theorem Ren.bound (h : Ren cc c ρ) {o : Nat} : ρ o < c.L.length ↔ o < cc.L.length :=
  ⟨fun ho => by
    rcases Nat.lt_or_ge o cc.L.length with h' | h'
    · exact h'
    · have := h.ge o h'; omega, h.lt o⟩

theorem Ren.ptr (h : Ren cc c ρ) {o st : Nat} {p : List Stp} {v : Value} : PtrOk c (ρ o) st p v ↔ PtrOk cc o st p v := by
  unfold PtrOk
  rw [h.bound]
  constructor
  · rintro ⟨h1, h2, h3, h4⟩
    refine ⟨h1, h2, fun obj s ho hs => h3 (obj.ren ρ) s (by rw [h.L o h1, ho]; rfl) (by rw [Ob.ren_stamp]; exact hs), fun obj ho hs => ?_⟩
    rw [← h.ms o h1]
    exact h4 (obj.ren ρ) (by rw [h.L o h1, ho]; rfl) (by rw [Ob.ren_stamp]; exact hs)
  · rintro ⟨h1, h2, h3, h4⟩
    refine ⟨h1, h2, fun obj s ho hs => ?_, fun obj ho hs => ?_⟩
    · rw [h.L o h1] at ho
      cases hk : cc.L[o]? with
      | none => rw [hk] at ho; cases ho
      | some x =>
        rw [hk] at ho; cases ho
        exact h3 x s hk (by rw [← Ob.ren_stamp ρ]; exact hs)
    · rw [h.L o h1] at ho
      cases hk : cc.L[o]? with
      | none => rw [hk] at ho; cases ho
      | some x =>
        rw [hk] at ho; cases ho
        rw [h.ms o h1]
        exact h4 x hk (by rw [← Ob.ren_stamp ρ]; exact hs)

theorem Ren.ref (h : Ren cc c ρ) {o st off n : Nat} {v : Value} : RefOk c (ρ o) st off n v ↔ RefOk cc o st off n v := by
  unfold RefOk
  rw [h.bound]
  constructor
  · rintro ⟨h1, h2, h3, h4⟩
    refine ⟨h1, h2, fun obj s ho hs => h3 (obj.ren ρ) s (by rw [h.L o h1, ho]; rfl) (by rw [Ob.ren_stamp]; exact hs), fun sz f ho => ?_⟩
    rw [← h.ms o h1]
    exact h4 sz _ (by rw [h.L o h1, ho]; rfl)
  · rintro ⟨h1, h2, h3, h4⟩
    refine ⟨h1, h2, fun obj s ho hs => ?_, fun sz f ho => ?_⟩
    · rw [h.L o h1] at ho
      cases hk : cc.L[o]? with
      | none => rw [hk] at ho; cases ho
      | some x =>
        rw [hk] at ho; cases ho
        exact h3 x s hk (by rw [← Ob.ren_stamp ρ]; exact hs)
    · rw [h.L o h1] at ho
      cases hk : cc.L[o]? with
      | none => rw [hk] at ho; cases ho
      | some x =>
        rw [hk] at ho
        cases x <;> simp [Ob.ren] at ho
        obtain ⟨rfl, rfl, _⟩ := ho
        rw [h.ms o h1]
        exact h4 _ _ hk

theorem Ren.map (h : Ren cc c ρ) {o : Nat} {v : Value} : MapOk c (ρ o) v ↔ MapOk cc o v := by
  unfold MapOk
  rw [h.bound]
  constructor
  · rintro ⟨h1, h2, h3⟩
    refine ⟨h1, h2, fun es ho => ?_⟩
    rw [← h.ms o h1]
    exact h3 _ (by rw [h.L o h1, ho]; rfl)
  · rintro ⟨h1, h2, h3⟩
    refine ⟨h1, h2, fun es ho => ?_⟩
    rw [h.L o h1] at ho
    cases hk : cc.L[o]? with
    | none => rw [hk] at ho; cases ho
    | some x =>
      rw [hk] at ho
      cases x <;> simp [Ob.ren] at ho
      rw [h.ms o h1]
      exact h3 _ hk

mutual
theorem AV.Is.out (h : Ren cc c ρ) {x : AV} {cs : List Value} : AV.Is cc x cs → AV.Is c (x.ren ρ) cs
  | .d x cs hx => by rw [AV.ren]; exact .d x cs (h.M ▸ hx)
  | .full n f a hx => by rw [AV.ren]; exact .full n f a (h.M ▸ hx)
  | .nq b n f v hx hb => by rw [AV.ren]; exact .nq b n f v (h.M ▸ hx) hb
  | .err b v hx => by rw [AV.ren]; exact .err b v hx
  | .agg gs cs hx => by rw [AV.ren]; exact .agg _ cs (AV.IsL.out h hx)
  | .ptr o st path v hx => by rw [AV.ren]; exact .ptr _ st path v (h.ptr.2 hx)
  | .imm x b off ar cs hb hx hc' => by rw [AV.ren]; exact .imm x b off ar cs (h.M ▸ hb) (h.M ▸ hx) hc'
  | .ref o st off n v hx => by rw [AV.ren]; exact .ref _ st off n v (h.ref.2 hx)
  | .map o v hx => by rw [AV.ren]; exact .map _ v (h.map.2 hx)
  | .fn f caps vs hx => by rw [AV.ren]; exact .fn f _ vs (AV.IsVs.out h hx)
  | .bot v hx => by rw [AV.ren]; exact .bot v hx
theorem AV.IsL.out (h : Ren cc c ρ) {xs : List AV} {cs : List Value} : AV.IsL cc xs cs → AV.IsL c (AV.renL ρ xs) cs
  | .nil => by rw [AV.renL]; exact .nil
  | .cons x xs k ks hx ht => by rw [AV.renL]; exact .cons _ _ k ks (AV.Is.out h hx) (AV.IsL.out h ht)
theorem AV.IsV.out (h : Ren cc c ρ) {x : AV} {v : Value} : AV.IsV cc x v → AV.IsV c (x.ren ρ) v
  | .agg av cs ha hx => .agg _ cs (by rw [AV.ren_isAgg]; exact ha) (AV.Is.out h hx)
  | .one av v ha hx => .one _ v (by rw [AV.ren_isAgg]; exact ha) (AV.Is.out h hx)
  | .tup vs us hx => by rw [AV.ren]; exact .tup _ us (AV.IsVs.out h hx)
  | .bot v => by rw [AV.ren]; exact .bot v
theorem AV.IsVs.out (h : Ren cc c ρ) {xs : List AV} {vs : List Value} : AV.IsVs cc xs vs → AV.IsVs c (AV.renL ρ xs) vs
  | .nil => by rw [AV.renL]; exact .nil
  | .cons x xs v vs hx ht => by rw [AV.renL]; exact .cons _ _ v vs (AV.IsV.out h hx) (AV.IsVs.out h ht)
end

theorem AV.IsV.into1 (x : AV) (v : Value) (h1 : ∀ vs, x ≠ .tup vs) (h2 : x ≠ .bot) (hi : ∀ cs, AV.Is c (x.ren ρ) cs → AV.Is cc x cs) (hx : AV.IsV c (x.ren ρ) v) : AV.IsV cc x v := by
  generalize hy : x.ren ρ = y at hx
  cases hx with
  | agg _ cs ha hx => subst hy; exact .agg _ cs (by rw [← AV.ren_isAgg ρ]; exact ha) (hi cs hx)
  | one _ _ ha hx => subst hy; exact .one _ _ (by rw [← AV.ren_isAgg ρ]; exact ha) (hi _ hx)
  | tup vs us _ => cases x <;> simp [AV.ren] at hy; exact absurd rfl (h1 _)
  | bot => cases x <;> simp [AV.ren] at hy; exact absurd rfl h2

mutual
theorem AV.Is.into (h : Ren cc c ρ) : ∀ (x : AV) (cs : List Value), AV.Is c (x.ren ρ) cs → AV.Is cc x cs
  | .d x, cs, hx => by
    rw [AV.ren] at hx
    cases hx with
    | d _ _ hx => exact .d _ _ (h.M ▸ hx)
  | .full n f, cs, hx => by
    rw [AV.ren] at hx
    cases hx with
    | full _ _ a hx => exact .full _ _ a (h.M ▸ hx)
  | .nq b n f, cs, hx => by
    rw [AV.ren] at hx
    cases hx with
    | nq _ _ _ v hx hb => exact .nq _ _ _ v (h.M ▸ hx) hb
  | .err b, cs, hx => by
    rw [AV.ren] at hx
    cases hx with
    | err _ v hx => exact .err _ v hx
  | .agg gs, cs, hx => by
    rw [AV.ren] at hx
    cases hx with
    | agg _ _ hx => exact .agg _ _ (AV.IsL.into h gs cs hx)
  | .ptr o st p, cs, hx => by
    rw [AV.ren] at hx
    cases hx with
    | ptr _ _ _ v hx => exact .ptr _ _ _ v (h.ptr.1 hx)
  | .imm x, cs, hx => by
    rw [AV.ren] at hx
    cases hx with
    | imm _ b off ar ks hb hx hc => exact .imm _ b off ar ks (h.M ▸ hb) (h.M ▸ hx) hc
  | .ref o st off n, cs, hx => by
    rw [AV.ren] at hx
    cases hx with
    | ref _ _ _ _ v hx => exact .ref _ _ _ _ v (h.ref.1 hx)
  | .map o, cs, hx => by
    rw [AV.ren] at hx
    cases hx with
    | map _ v hx => exact .map _ v (h.map.1 hx)
  | .fn f caps, cs, hx => by
    rw [AV.ren] at hx
    cases hx with
    | fn _ _ vs hx => exact .fn _ _ vs (AV.IsVs.into h caps vs hx)
  | .tup vs, cs, hx => by
    rw [AV.ren] at hx
    cases hx
  | .bot, cs, hx => by
    rw [AV.ren] at hx
    cases hx with
    | bot v hx => exact .bot v hx
theorem AV.IsL.into (h : Ren cc c ρ) : ∀ (xs : List AV) (cs : List Value), AV.IsL c (AV.renL ρ xs) cs → AV.IsL cc xs cs
  | [], cs, hx => by
    rw [AV.renL] at hx
    cases hx
    exact .nil
  | x :: xs, cs, hx => by
    rw [AV.renL] at hx
    cases hx with
    | cons _ _ k ks hx ht => exact .cons _ _ k ks (AV.Is.into h x k hx) (AV.IsL.into h xs ks ht)
theorem AV.IsV.into (h : Ren cc c ρ) : ∀ (x : AV) (v : Value), AV.IsV c (x.ren ρ) v → AV.IsV cc x v
  | .tup vs, v, hx => by
    rw [AV.ren] at hx
    cases hx with
    | agg _ _ ha => cases ha
    | one _ _ ha hx => cases hx
    | tup _ us hx => exact .tup _ us (AV.IsVs.into h vs us hx)
  | .bot, v, hx => .bot v
  | .d x, v, hx => AV.IsV.into1 (.d x) v (by simp) (by simp) (fun cs => AV.Is.into h (.d x) cs) hx
  | .err b, v, hx => AV.IsV.into1 (.err b) v (by simp) (by simp) (fun cs => AV.Is.into h (.err b) cs) hx
  | .nq b n f, v, hx => AV.IsV.into1 (.nq b n f) v (by simp) (by simp) (fun cs => AV.Is.into h (.nq b n f) cs) hx
  | .full n f, v, hx => AV.IsV.into1 (.full n f) v (by simp) (by simp) (fun cs => AV.Is.into h (.full n f) cs) hx
  | .agg gs, v, hx => AV.IsV.into1 (.agg gs) v (by simp) (by simp) (fun cs => AV.Is.into h (.agg gs) cs) hx
  | .ptr o st p, v, hx => AV.IsV.into1 (.ptr o st p) v (by simp) (by simp) (fun cs => AV.Is.into h (.ptr o st p) cs) hx
  | .imm x, v, hx => AV.IsV.into1 (.imm x) v (by simp) (by simp) (fun cs => AV.Is.into h (.imm x) cs) hx
  | .ref o st off n, v, hx => AV.IsV.into1 (.ref o st off n) v (by simp) (by simp) (fun cs => AV.Is.into h (.ref o st off n) cs) hx
  | .map o, v, hx => AV.IsV.into1 (.map o) v (by simp) (by simp) (fun cs => AV.Is.into h (.map o) cs) hx
  | .fn f caps, v, hx => AV.IsV.into1 (.fn f caps) v (by simp) (by simp) (fun cs => AV.Is.into h (.fn f caps) cs) hx
theorem AV.IsVs.into (h : Ren cc c ρ) : ∀ (xs : List AV) (vs : List Value), AV.IsVs c (AV.renL ρ xs) vs → AV.IsVs cc xs vs
  | [], vs, hx => by
    rw [AV.renL] at hx
    cases hx
    exact .nil
  | x :: xs, vs, hx => by
    rw [AV.renL] at hx
    cases hx with
    | cons _ _ v vs hx ht => exact .cons _ _ v vs (AV.IsV.into h x v hx) (AV.IsVs.into h xs vs ht)
end
end
end Go.TA

namespace Go.TA
open Go

def setAll {α : Type} : List α → List Nat → List α → List α
  | L, [], _ => L
  | L, i :: σ, x :: xs => setAll (L.set i x) σ xs
  | L, _ :: _, [] => L

theorem setAll_length {α : Type} : ∀ (σ : List Nat) (xs L : List α), (setAll L σ xs).length = L.length
  | [], xs, L => by simp [setAll]
  | i :: σ, [], L => by simp [setAll]
  | i :: σ, x :: xs, L => by simp [setAll, setAll_length σ xs]

theorem setAll_not {α : Type} : ∀ (σ : List Nat) (xs L : List α) (i : Nat), i ∉ σ → (setAll L σ xs)[i]? = L[i]?
  | [], xs, L, i, _ => by simp [setAll]
  | j :: σ, [], L, i, _ => by simp [setAll]
  | j :: σ, x :: xs, L, i, h => by
    simp only [List.mem_cons, not_or] at h
    rw [setAll, setAll_not σ xs _ i h.2, List.getElem?_set_ne (fun e => h.1 e.symm)]

theorem setAll_mem {α : Type} : ∀ (σ : List Nat) (xs L : List α) (k i : Nat), σ.Nodup → σ[k]? = some i → k < xs.length → i < L.length → (setAll L σ xs)[i]? = xs[k]?
  | [], xs, L, k, i, _, h, _, _ => by simp at h
  | j :: σ, [], L, k, i, _, _, h, _ => by simp at h
  | j :: σ, x :: xs, L, 0, i, hn, h, _, hi => by
    simp at h; subst h
    rw [setAll, setAll_not σ xs _ j (List.nodup_cons.1 hn).1, List.getElem?_set_self hi]
    simp
  | j :: σ, x :: xs, L, k + 1, i, hn, h, hk, hi => by
    rw [setAll, setAll_mem σ xs _ k i (List.nodup_cons.1 hn).2 (by simpa using h) (by simpa using hk) (by simpa using hi)]
    simp

/-- The callee's objects put into the caller's. -/
def glue {α : Type} (L : List α) (σ : List Nat) (xs : List α) : List α := setAll L σ xs ++ xs.drop σ.length

def rho (σ : List Nat) (n k : Nat) : Nat := (σ[k]?).getD (n + (k - σ.length))

theorem rho_lt {σ : List Nat} {n k : Nat} (hk : k < σ.length) : σ[k]? = some (rho σ n k) := by
  simp [rho, List.getElem?_eq_getElem hk]
theorem rho_ge {σ : List Nat} {n k : Nat} (hk : σ.length ≤ k) : rho σ n k = n + (k - σ.length) := by
  simp [rho, List.getElem?_eq_none hk]

theorem glue_rho {α : Type} {L xs : List α} {σ : List Nat} (hn : σ.Nodup) (hlt : ∀ i ∈ σ, i < L.length) {k : Nat} (hk : k < xs.length) :
    (glue L σ xs)[rho σ L.length k]? = xs[k]? := by
  unfold glue
  rcases Nat.lt_or_ge k σ.length with h | h
  · have e := rho_lt (n := L.length) h
    have := hlt _ (List.mem_of_getElem? e)
    rw [List.getElem?_append_left (by rw [setAll_length]; exact this), setAll_mem σ xs L k _ hn e hk this]
  · rw [rho_ge h, List.getElem?_append_right (by rw [setAll_length]; omega), setAll_length, List.getElem?_drop]
    congr 1; omega

theorem glue_length {α : Type} {L xs : List α} {σ : List Nat} : (glue L σ xs).length = L.length + (xs.length - σ.length) := by simp [glue, setAll_length]

theorem glue_not {α : Type} {L xs : List α} {σ : List Nat} {i : Nat} (h : i ∉ σ) (hi : i < L.length) : (glue L σ xs)[i]? = L[i]? := by
  unfold glue
  rw [List.getElem?_append_left (by rw [setAll_length]; exact hi), setAll_not _ _ _ _ h]

theorem rho_bound {α : Type} {L xs : List α} {σ : List Nat} (hlt : ∀ i ∈ σ, i < L.length) {k : Nat} (hk : k < xs.length) : rho σ L.length k < L.length + (xs.length - σ.length) := by
  rcases Nat.lt_or_ge k σ.length with h | h
  · have := hlt _ (List.mem_of_getElem? (rho_lt (n := L.length) h)); omega
  · rw [rho_ge h]; omega

theorem glue_cases {α : Type} {L xs : List α} {σ : List Nat} (hl : σ.length ≤ xs.length) {i : Nat} (hi : i < L.length + (xs.length - σ.length)) : (∃ k, k < xs.length ∧ i = rho σ L.length k) ∨ (i < L.length ∧ i ∉ σ) := by
  by_cases h : i ∈ σ
  · obtain ⟨k, hk, e⟩ := List.getElem_of_mem h
    exact .inl ⟨k, by omega, by simp [rho, List.getElem?_eq_getElem hk, e]⟩
  · rcases Nat.lt_or_ge i L.length with h' | h'
    · exact .inr ⟨h', h⟩
    · exact .inl ⟨σ.length + (i - L.length), by omega, by rw [rho_ge (by omega)]; omega⟩

/-- The blocks that are not the callee's. -/
def xOf (X : Nat → Prop) (ms : Blocks) (σ : List Nat) (b : Nat) : Prop := X b ∨ ∃ o tc : Nat, o ∉ σ ∧ ms[o]? = some (some (b, tc))

theorem owned_glue {X : Nat → Prop} {ms ks : Blocks} {σ : List Nat} (hn : σ.Nodup) (hlt : ∀ i ∈ σ, i < ms.length) (hl : σ.length ≤ ks.length) (b : Nat) :
    (X b ∨ owned (glue ms σ ks) b) ↔ (xOf X ms σ b ∨ owned ks b) := by
  constructor
  · rintro (h | ⟨o, tc, h⟩)
    · exact .inl (.inl h)
    · have hi : o < ms.length + (ks.length - σ.length) := by
        rw [← glue_length]
        rcases Nat.lt_or_ge o (glue ms σ ks).length with h' | h'
        · exact h'
        · rw [List.getElem?_eq_none h'] at h; cases h
      rcases glue_cases hl hi with ⟨k, hk, rfl⟩ | ⟨h1, h2⟩
      · rw [glue_rho hn hlt hk] at h
        exact .inr ⟨k, tc, h⟩
      · rw [glue_not h2 h1] at h
        exact .inl (.inr ⟨o, tc, h2, h⟩)
  · rintro ((h | ⟨o, tc, h1, h2⟩) | ⟨k, tc, h⟩)
    · exact .inl h
    · have hi : o < ms.length := by
        rcases Nat.lt_or_ge o ms.length with h' | h'
        · exact h'
        · rw [List.getElem?_eq_none h'] at h2; cases h2
      exact .inr ⟨o, tc, by rw [glue_not h1 hi]; exact h2⟩
    · have hk : k < ks.length := by
        rcases Nat.lt_or_ge k ks.length with h' | h'
        · exact h'
        · rw [List.getElem?_eq_none h'] at h; cases h
      exact .inr ⟨_, tc, by rw [glue_rho hn hlt hk]; exact h⟩

theorem memOf_congr {X Y : Nat → Prop} {ms ks : Blocks} {w : World} (h : ∀ b, (X b ∨ owned ms b) ↔ (Y b ∨ owned ks b)) : memOf X ms w = memOf Y ks w := by
  funext b
  unfold memOf
  by_cases hb : X b ∨ owned ms b
  · rw [if_pos hb, if_pos ((h b).1 hb)]
  · rw [if_neg hb, if_neg (fun h' => hb ((h b).2 h'))]

theorem glue_self {α : Type} {L : List α} {σ : List Nat} {xs : List α} (hn : σ.Nodup) (hlt : ∀ i ∈ σ, i < L.length) (hl : σ.length = xs.length)
    (h : ∀ k i : Nat, σ[k]? = some i → L[i]? = xs[k]?) : glue L σ xs = L := by
  apply List.ext_getElem?
  intro i
  rcases Nat.lt_or_ge i L.length with hi | hi
  · by_cases hm : i ∈ σ
    · obtain ⟨k, hk, e⟩ := List.getElem_of_mem hm
      have e1 : σ[k]? = some i := by rw [List.getElem?_eq_getElem hk, e]
      have e2 : rho σ L.length k = i := by simp [rho, e1]
      rw [← e2, glue_rho hn hlt (by omega), e2]
      exact (h k i e1).symm
    · exact glue_not hm hi
  · rw [List.getElem?_eq_none hi, List.getElem?_eq_none (by rw [glue_length]; omega)]

theorem EntsIs.into {cc c : Cx} {ρ : Nat → Nat} (h : Ren cc c ρ) : ∀ {es : List (DV × DV)} {r : List MapEntry}, EntsIs c es r → EntsIs cc es r
  | [], [], _ => trivial
  | (k, v) :: es, e :: r, hx => ⟨AV.IsV.into h (.d k) _ (by rw [AV.ren]; exact hx.1), AV.IsV.into h (.d v) _ (by rw [AV.ren]; exact hx.2.1), EntsIs.into h hx.2.2⟩
  | [], _ :: _, hx => hx.elim
  | _ :: _, [], hx => hx.elim
theorem EntsIs.out {cc c : Cx} {ρ : Nat → Nat} (h : Ren cc c ρ) : ∀ {es : List (DV × DV)} {r : List MapEntry}, EntsIs cc es r → EntsIs c es r
  | [], [], _ => trivial
  | (k, v) :: es, e :: r, hx => ⟨by have := hx.1.out h; rw [AV.ren] at this; exact this, by have := hx.2.1.out h; rw [AV.ren] at this; exact this, EntsIs.out h hx.2.2⟩
  | [], _ :: _, hx => hx.elim
  | _ :: _, [], hx => hx.elim

theorem ObIs.into {cc c : Cx} {ρ : Nat → Nat} (h : Ren cc c ρ) {w : World} {k : Nat} (hk : k < cc.L.length) {obj : Ob} (hx : ObIs c w (ρ k) (obj.ren ρ)) : ObIs cc w k obj := by
  have hm := h.ms k hk
  cases obj with
  | box x =>
    rcases hx with hx | ⟨b, tc, arr, e, h1, h2, h3⟩
    · exact .inl (hm ▸ hx)
    · exact .inr ⟨b, tc, arr, e, hm ▸ h1, h2, AV.Is.into h _ _ h3⟩
  | seq sz m f =>
    rcases hx with hx | ⟨b, tc, arr, e, cs, h1, h2, h3, h4, h5, h6⟩
    · exact .inl ⟨hm ▸ hx.1, hx.2⟩
    · exact .inr ⟨b, tc, arr, e, cs, hm ▸ h1, h2, h3, h4, fun i hi => AV.Is.into h _ _ (h5 i hi), h6⟩
  | map es =>
    obtain ⟨b, tc, ents, clock, h1, h2, h3, h4⟩ := hx
    exact ⟨b, tc, ents, clock, hm ▸ h1, h2, EntsIs.into h h3, h4⟩
  | dead => trivial
  | unb => exact hm.symm.trans hx

theorem ObIs.out {cc c : Cx} {ρ : Nat → Nat} (h : Ren cc c ρ) {w : World} {k : Nat} (hk : k < cc.L.length) {obj : Ob} (hx : ObIs cc w k obj) : ObIs c w (ρ k) (obj.ren ρ) := by
  have hm := h.ms k hk
  cases obj with
  | box x =>
    rcases hx with hx | ⟨b, tc, arr, e, h1, h2, h3⟩
    · exact .inl (hm.trans hx)
    · exact .inr ⟨b, tc, arr, e, hm.trans h1, h2, h3.out h⟩
  | seq sz m f =>
    rcases hx with hx | ⟨b, tc, arr, e, cs, h1, h2, h3, h4, h5, h6⟩
    · exact .inl ⟨hm.trans hx.1, hx.2⟩
    · exact .inr ⟨b, tc, arr, e, cs, hm.trans h1, h2, h3, h4, fun i hi => (h5 i hi).out h, h6⟩
  | map es =>
    obtain ⟨b, tc, ents, clock, h1, h2, h3, h4⟩ := hx
    exact ⟨b, tc, ents, clock, hm.trans h1, h2, h3.out h, h4⟩
  | dead => trivial
  | unb => exact hm.trans hx

/-- **A contract in a greater state**: σ says which objects of the caller are the callee's. -/
theorem CallOk.frame {P : Program} {f : FuncId} {as : List AV} {Lc Lc' : List Ob} {v : AV} (h : CallOk P f as Lc v Lc') {L : List Ob} (σ : List Nat) (hn : σ.Nodup) (hlt : ∀ i ∈ σ, i < L.length)
    (hlen : σ.length = Lc.length) (hlen' : Lc.length ≤ Lc'.length) (hL : ∀ k i : Nat, σ[k]? = some i → L[i]? = (Lc[k]?).map (Ob.ren (rho σ L.length))) :
    CallOk P f (AV.renL (rho σ L.length) as) L (v.ren (rho σ L.length)) (glue L σ (Lc'.map (Ob.ren (rho σ L.length)))) := by
  intro X ms w us hr hu
  have hltm : ∀ i ∈ σ, i < ms.length := fun i hi => by rw [hr.len]; exact hlt i hi
  have hml : ms.length = L.length := hr.len
  -- the callee's view
  let ks : Blocks := σ.map fun i => (ms[i]?).getD none
  have hks : ∀ k i : Nat, σ[k]? = some i → ks[k]? = ms[i]? := fun k i e => by
    have := hltm i (List.mem_of_getElem? e)
    simp [ks, List.getElem?_map, e, List.getElem?_eq_getElem this]
  have hkl : ks.length = σ.length := by simp [ks]
  have hself : glue ms σ ks = ms := glue_self hn hltm hkl.symm (fun k i e => (hks k i e).symm)
  have hown := owned_glue (X := X) hn hltm (Nat.le_of_eq hkl.symm)
  rw [hself] at hown
  have hmem : memOf (xOf X ms σ) ks w = memOf X ms w := (memOf_congr hown).symm
  have hren : Ren (cxOf (xOf X ms σ) ks Lc w) (cxOf X ms L w) (rho σ L.length) := by
    refine ⟨hmem, fun k hk => ?_, fun k hk => ?_, fun k hk => ?_, fun k hk => ?_⟩
    · simp only [cxOf] at hk
      exact hlt _ (List.mem_of_getElem? (rho_lt (n := L.length) (by omega)))
    · simp only [cxOf] at hk ⊢
      rw [rho_ge (by omega)]; omega
    · simp only [cxOf] at hk ⊢
      exact hL k _ (rho_lt (by omega))
    · simp only [cxOf] at hk ⊢
      exact (hks k _ (rho_lt (by omega))).symm
  have hrc : Rel (xOf X ms σ) ks Lc w := by
    refine ⟨by omega, fun b hb => ?_, fun b hb => ?_, fun o o' b tc tc' h1 h2 => ?_, fun k obj hk => ?_, by rw [hmem]; exact hr.glob⟩
    · obtain ⟨k, tc, e⟩ := hb
      have hk : k < σ.length := by
        rcases Nat.lt_or_ge k ks.length with h' | h'
        · omega
        · rw [List.getElem?_eq_none h'] at e; cases e
      have e1 := hks k _ (rho_lt (n := L.length) hk)
      rw [e] at e1
      obtain ⟨l1, l2⟩ := hr.lt b ⟨_, tc, e1.symm⟩
      refine ⟨l1, ?_⟩
      rintro (hx | ⟨o, tc', h1, h2⟩)
      · exact l2 hx
      · have := hr.inj _ _ b tc' tc h2 e1.symm
        subst this
        exact h1 (List.mem_of_getElem? (rho_lt (n := L.length) hk))
    · rcases hb with hb | ⟨o, tc, _, h2⟩
      · exact hr.xlt b hb
      · exact (hr.lt b ⟨o, tc, h2⟩).1
    · have hk : o < σ.length := by
        rcases Nat.lt_or_ge o ks.length with h' | h'
        · omega
        · rw [List.getElem?_eq_none h'] at h1; cases h1
      have hk' : o' < σ.length := by
        rcases Nat.lt_or_ge o' ks.length with h' | h'
        · omega
        · rw [List.getElem?_eq_none h'] at h2; cases h2
      have e1 := hks o _ (rho_lt (n := L.length) hk)
      have e2 := hks o' _ (rho_lt (n := L.length) hk')
      rw [h1] at e1; rw [h2] at e2
      have := hr.inj _ _ b tc tc' e1.symm e2.symm
      have e3 := rho_lt (n := L.length) hk
      have e4 := rho_lt (n := L.length) hk'
      rw [this] at e3
      have g1 : σ[o] = rho σ L.length o' := by rw [List.getElem?_eq_getElem hk] at e3; exact Option.some.inj e3
      have g2 : σ[o'] = rho σ L.length o' := by rw [List.getElem?_eq_getElem hk'] at e4; exact Option.some.inj e4
      exact (List.getElem_inj hn).1 (g1.trans g2.symm)
    · have hkl' : k < Lc.length := by
        rcases Nat.lt_or_ge k Lc.length with h' | h'
        · exact h'
        · rw [List.getElem?_eq_none h'] at hk; cases hk
      refine ObIs.into hren hkl' ?_
      refine hr.obs _ _ ?_
      rw [hL k _ (rho_lt (by omega)), hk]; rfl
  refine (h (xOf X ms σ) ks w us hrc (AV.IsVs.into hren as us hu)).mono ?_
  rintro e w' ⟨u, ks', rfl, r1, e1, c1, v1⟩
  have hkl' : ks'.length = Lc'.length := r1.len
  have hsk : σ.length ≤ ks'.length := by omega
  have hsl : σ.length ≤ (Lc'.map (Ob.ren (rho σ L.length))).length := by simp; omega
  have hown' := owned_glue (X := X) hn hltm hsk
  have hmem' : memOf (xOf X ms σ) ks' w' = memOf X (glue ms σ ks') w' := (memOf_congr hown').symm
  have hglen : (glue ms σ ks').length = (glue L σ (Lc'.map (Ob.ren (rho σ L.length)))).length := by
    rw [glue_length, glue_length]; simp; omega
  have hgL : (glue L σ (Lc'.map (Ob.ren (rho σ L.length)))).length = L.length + (Lc'.length - σ.length) := by rw [glue_length]; simp
  have hren' : Ren (cxOf (xOf X ms σ) ks' Lc' w') (cxOf X (glue ms σ ks') (glue L σ (Lc'.map (Ob.ren (rho σ L.length)))) w') (rho σ L.length) := by
    refine ⟨hmem', fun k hk => ?_, fun k hk => ?_, fun k hk => ?_, fun k hk => ?_⟩
    · simp only [cxOf] at hk ⊢
      rw [glue_length]
      exact rho_bound hlt (by simpa using hk)
    · simp only [cxOf] at hk ⊢
      rw [hgL, rho_ge (by omega)]; omega
    · simp only [cxOf] at hk ⊢
      rw [glue_rho hn hlt (by simpa using hk), List.getElem?_map]
    · simp only [cxOf] at hk ⊢
      rw [← hml, glue_rho hn hltm (by omega)]
  have hkeep : ∀ b, b < w.heap.size → ¬ owned ms b → w'.heap[b]? = w.heap[b]? ∧ ¬ owned (glue ms σ ks') b := fun b hb hb' => by
    have hkn : ¬ owned ks b := fun ⟨k, tc, e⟩ => by
      have hk : k < σ.length := by
        rcases Nat.lt_or_ge k ks.length with h' | h'
        · omega
        · rw [List.getElem?_eq_none h'] at e; cases e
      have e1 := hks k _ (rho_lt (n := L.length) hk)
      rw [e] at e1
      exact hb' ⟨_, tc, e1.symm⟩
    obtain ⟨g1, g2⟩ := e1.keep b hb hkn
    refine ⟨g1, fun ho => ?_⟩
    obtain ⟨o, tc, ho⟩ := ho
    have hi : o < ms.length + (ks'.length - σ.length) := by
      rw [← glue_length]
      rcases Nat.lt_or_ge o (glue ms σ ks').length with h' | h'
      · exact h'
      · rw [List.getElem?_eq_none h'] at ho; cases ho
    rcases glue_cases hsk hi with ⟨k, hk, rfl⟩ | ⟨l1, l2⟩
    · rw [glue_rho hn hltm hk] at ho
      exact g2 ⟨k, tc, ho⟩
    · rw [glue_not l2 l1] at ho
      exact hb' ⟨o, tc, ho⟩
  have hext : Ext ms w (glue ms σ ks') w' := ⟨e1.size, hkeep, e1.out⟩
  have hle : (cxOf X ms L w).le (cxOf X (glue ms σ ks') (glue L σ (Lc'.map (Ob.ren (rho σ L.length)))) w') := by
    refine ⟨hext.memLe, by simp only [cxOf]; omega, fun o obj' ho hl hs => ?_⟩
    simp only [cxOf] at ho hl ⊢
    by_cases hm : o ∈ σ
    · obtain ⟨k, hk, e⟩ := List.getElem_of_mem hm
      have e2 : σ[k]? = some o := by rw [List.getElem?_eq_getElem hk, e]
      have e3 : rho σ L.length k = o := by simp [rho, e2]
      have hk' : k < (Lc'.map (Ob.ren (rho σ L.length))).length := by simp; omega
      have g := glue_rho hn hlt hk'
      rw [e3] at g
      rw [g, List.getElem?_map] at hl
      cases hc' : Lc'[k]? with
      | none => rw [hc'] at hl; cases hl
      | some oc' =>
        rw [hc'] at hl
        simp only [Option.map_some, Option.some.injEq] at hl
        subst hl
        obtain ⟨oc, p1, p2, p3, p4⟩ := c1.ob k oc' (by simp only [cxOf]; omega) hc' (by rw [Ob.ren_stamp] at hs; exact hs)
        simp only [cxOf] at p1 p4
        refine ⟨oc.ren (rho σ L.length), by rw [hL k o e2, p1]; rfl, by rw [Ob.ren_kind, Ob.ren_kind]; exact p2, fun s hs => ?_, fun es => ?_⟩
        · rw [Ob.ren_stamp] at hs ⊢
          exact p3 s hs
        · rw [Ob.ren_stamp, Ob.ren_stamp] at es
          have g' := glue_rho (L := ms) (xs := ks') hn hltm (k := k) (by simp at hk'; omega)
          rw [hml, e3] at g'
          rw [g', p4 es, hks k o e2]
    · rw [glue_not hm ho] at hl
      exact ⟨obj', hl, rfl, fun s hs => ⟨s, hs, Nat.le_refl _⟩, fun _ => glue_not hm (by omega)⟩
  refine ⟨u, glue ms σ ks', rfl, ⟨hglen, fun b hb => ?_, fun b hb => Nat.lt_of_lt_of_le (hr.xlt b hb) e1.size, fun o o' b tc tc' h1 h2 => ?_, fun o obj ho => ?_, by rw [← hmem']; exact r1.glob⟩, hext, hle, v1.out hren'⟩
  · have h1 := (hown' b).1 (.inr hb)
    rcases h1 with h1 | h1
    · have hlt' : b < w'.heap.size := Nat.lt_of_lt_of_le (hrc.xlt b h1) e1.size
      refine ⟨hlt', fun hx => ?_⟩
      exact (hkeep b (hr.xlt b hx) (fun ho => (hr.lt b ho).2 hx)).2 hb
    · exact ⟨(r1.lt b h1).1, fun hx => (r1.lt b h1).2 (.inl hx)⟩
  · have hin : ∀ {o tc}, (glue ms σ ks')[o]? = some (some (b, tc)) → (∃ k, k < ks'.length ∧ o = rho σ ms.length k ∧ ks'[k]? = some (some (b, tc))) ∨ (o ∉ σ ∧ ms[o]? = some (some (b, tc))) := by
      intro o tc e
      have hi : o < ms.length + (ks'.length - σ.length) := by
        rw [← glue_length]
        rcases Nat.lt_or_ge o (glue ms σ ks').length with h' | h'
        · exact h'
        · rw [List.getElem?_eq_none h'] at e; cases e
      rcases glue_cases hsk hi with ⟨k, hk, rfl⟩ | ⟨l1, l2⟩
      · exact .inl ⟨k, hk, rfl, by rw [← glue_rho hn hltm hk]; exact e⟩
      · exact .inr ⟨l2, by rw [← glue_not l2 l1]; exact e⟩
    rcases hin h1 with ⟨k, _, rfl, p1⟩ | ⟨p0, p1⟩ <;> rcases hin h2 with ⟨k', _, rfl, q1⟩ | ⟨q0, q1⟩
    · rw [r1.inj k k' b tc tc' p1 q1]
    · exact absurd (.inr ⟨o', tc', q0, q1⟩) (r1.lt b ⟨k, tc, p1⟩).2
    · exact absurd (.inr ⟨o, tc, p0, p1⟩) (r1.lt b ⟨k', tc', q1⟩).2
    · exact hr.inj o o' b tc tc' p1 q1
  · have hi : o < L.length + ((Lc'.map (Ob.ren (rho σ L.length))).length - σ.length) := by
      rw [← glue_length]
      rcases Nat.lt_or_ge o (glue L σ (Lc'.map (Ob.ren (rho σ L.length)))).length with h' | h'
      · exact h'
      · rw [List.getElem?_eq_none h'] at ho; cases ho
    rcases glue_cases hsl hi with ⟨k, hk, rfl⟩ | ⟨l1, l2⟩
    · rw [glue_rho hn hlt hk, List.getElem?_map] at ho
      cases hc' : Lc'[k]? with
      | none => rw [hc'] at ho; cases ho
      | some oc' =>
        rw [hc'] at ho; cases ho
        exact ObIs.out hren' (by simpa [cxOf] using hk) (r1.obs k oc' hc')
    · rw [glue_not l2 l1] at ho
      refine (hr.obs o obj ho).mono hle (glue_not l2 (by omega)) fun b tc hb => ?_
      have hb' : ms[o]? = some (some (b, tc)) := hb
      refine (e1.keep b (hr.lt b ⟨o, tc, hb'⟩).1 fun ⟨k, tc', ek⟩ => ?_).1
      exact (hrc.lt b ⟨k, tc', ek⟩).2 (.inr ⟨o, tc, l2, hb'⟩)

/-- A contract that knows no object holds everywhere. -/
theorem CallOk.pure {P : Program} {f : FuncId} {as : List AV} {v : AV} (h : CallOk P f as [] v []) (ha : ∀ ρ, AV.renL ρ as = as) (hv : ∀ ρ, v.ren ρ = v) (L : List Ob) : CallOk P f as L v L := by
  have := h.frame (L := L) [] List.nodup_nil (fun i hi => by cases hi) rfl (Nat.le_refl _) (fun k i e => by simp at e)
  rw [ha, hv] at this
  simpa [glue, setAll] using this
/-- A contract at a call. -/
theorem CallOk.at {P : Program} {f : FuncId} {as as' : List AV} {Lc Lc' L L' : List Ob} {v v' : AV} (h : CallOk P f as Lc v Lc') (σ : List Nat) (hn : σ.Nodup) (hlt : σ.all (fun i => Nat.blt i L.length) = true)
    (hlen : σ.length = Lc.length) (hlen' : Lc.length ≤ Lc'.length) (hL : σ.map (fun i => L[i]?) = Lc.map (fun x => some (x.ren (rho σ L.length)))) (ha : AV.renL (rho σ L.length) as = as')
    (hv : v.ren (rho σ L.length) = v') (hg : glue L σ (Lc'.map (Ob.ren (rho σ L.length))) = L') : CallOk P f as' L v' L' := by
  subst ha; subst hv; subst hg
  refine h.frame σ hn (fun i hi => ?_) hlen hlen' fun k i e => ?_
  · have := List.all_eq_true.1 hlt i hi
    exact Nat.le_of_ble_eq_true this
  · have h1 : (σ.map (fun i => L[i]?))[k]? = some (L[i]?) := by rw [List.getElem?_map, e]; rfl
    rw [hL, List.getElem?_map] at h1
    cases hk : Lc[k]? with
    | none => rw [hk] at h1; cases h1
    | some x => rw [hk] at h1; exact (Option.some.inj h1).symm
end Go.TA

namespace Go.TA
open Go

/-! ## one operation -/
/-- A call's contract, in its own numbers. -/
structure CR where
  f : FuncId
  as : List AV
  L : List Ob
  v : AV
  L' : List Ob

def rdP (c : CR) : Bool → Prop
  | true => c.L' = c.L
  | false => True
def CR.at (P : Program) (c : CR) (as : List AV) (L : List Ob) (σ : List Nat) (rd : Bool) : Prop :=
  CallOk P c.f c.as c.L c.v c.L' ∧ AV.renL (rho σ L.length) c.as = as ∧ σ.map (fun i => L[i]?) = c.L.map (fun x => some (x.ren (rho σ L.length))) ∧ rdP c rd
def CR.fits (c : CR) (f : FuncId) (L : List Ob) (σ : List Nat) : Bool :=
  Nat.beq c.f f && (decide σ.Nodup && (σ.all (fun i => Nat.blt i L.length) && (Nat.beq σ.length c.L.length && Nat.ble c.L.length c.L'.length)))

theorem CR.ok {P : Program} {c : CR} {f : FuncId} {as : List AV} {L : List Ob} {σ : List Nat} {rd : Bool} (hf : c.fits f L σ = true) (h : c.at P as L σ rd) :
    CallOk P f as L (c.v.ren (rho σ L.length)) (glue L σ (c.L'.map (Ob.ren (rho σ L.length)))) := by
  unfold CR.fits at hf
  simp only [Bool.and_eq_true] at hf
  obtain ⟨h1, h2, h3, h4, h5⟩ := hf
  obtain ⟨k1, k2, k3, _⟩ := h
  have e : c.f = f := Nat.eq_of_beq_eq_true h1
  subst e
  exact k1.at σ (of_decide_eq_true h2) h3 (Nat.eq_of_beq_eq_true h4) (Nat.le_of_ble_eq_true h5) k3 k2 rfl rfl

theorem CR.okR {P : Program} {c : CR} {f : FuncId} {as : List AV} {L : List Ob} {σ : List Nat} (hf : c.fits f L σ = true) (h : c.at P as L σ true) :
    CallOk P f as L (c.v.ren (rho σ L.length)) L := by
  have h0 := h
  obtain ⟨_, _, k3, k4⟩ := h
  have h1 := CR.ok hf h0
  have e : glue L σ (c.L'.map (Ob.ren (rho σ L.length))) = L := by
    have k4' : c.L' = c.L := k4
    rw [k4']
    unfold CR.fits at hf
    simp only [Bool.and_eq_true] at hf
    obtain ⟨_, h2, h3, h4, _⟩ := hf
    refine glue_self (of_decide_eq_true h2) (fun i hi => Nat.le_of_ble_eq_true (List.all_eq_true.1 h3 i hi)) (by simpa using Nat.eq_of_beq_eq_true h4) fun k i hk => ?_
    have := congrArg (fun l : List (Option Ob) => l[k]?) k3
    simp only [List.getElem?_map, hk, Option.map_some] at this
    cases hc : c.L[k]? with
    | none => rw [hc] at this; cases this
    | some x =>
      rw [hc] at this
      simp only [Option.map_some, Option.some.injEq] at this
      rw [this, List.getElem?_map, hc]; rfl
  rwa [e] at h1

/-- A nil slice where a contract speaks of a list without elements. -/
def fitA : AV → AV → AV
  | .full 0 _, .d (.sl 0 g) => .d (.sl 0 g)
  | a, _ => a
def fitL : List AV → List AV → List AV
  | a :: as, b :: bs => fitA a b :: fitL as bs
  | as, _ => as
theorem fitA_is {c : Cx} {a b : AV} {v : Value} (h : AV.IsV c a v) : AV.IsV c (fitA a b) v := by
  unfold fitA
  split
  · have h' := IsV.is1 rfl (by simp) (by simp) h
    cases h' with
    | full _ _ a hd =>
      refine .one _ _ rfl (.d _ _ ?_)
      cases hd with
      | slNil => exact .slNil _
      | slEmpty => exact .slEmpty _ _ _
      | sl _ _ b off cap sz arr cs h1 h2 hb hh hl hc => exact .sl _ _ b off 0 sz arr cs h1 h2 hb (fun i hi => by omega) hl hc
  · exact h
theorem fitL_is {c : Cx} : ∀ {as bs : List AV} {us : List Value}, AV.IsVs c as us → AV.IsVs c (fitL as bs) us
  | [], _, _, h => h
  | _ :: _, [], _, h => h
  | _ :: _, _ :: _, _, .cons _ _ _ _ h ht => .cons _ _ _ _ (fitA_is h) (fitL_is ht)
theorem CallOk.fit {P : Program} {f : FuncId} {as bs : List AV} {L L' : List Ob} {v : AV} (h : CallOk P f (fitL as bs) L v L') : CallOk P f as L v L' :=
  fun X ms w us hr hu => h X ms w us hr (fitL_is hu)

inductive Hint where
  | none
  | imm
  | obj
  | call (v : AV) (L' : List Ob)
  | callq (v : AV)
  | callr (v : AV)
  | born (k : Nat) (full : Bool)
  | callw (v : AV) (ups : List (Nat × Ob)) (new : List Ob)
  | callc (c : CR) (σ : List Nat) (rd : Bool)

def applyUps (L : List Ob) (ups : List (Nat × Ob)) : List Ob := ups.foldl (fun L u => L.set u.1 u.2) L

inductive Res where
  | val (v : AV) (C : List Prop)
  | eff (v : AV) (L' : List Ob) (C : List Prop)

def astep (P : Program) (G : GFr) (ch : Chain) (L : List Ob) (o : Oper) (h : Hint) : Option Res :=
  match o.op with
  | .alloc t => match h with
    | .born k full => (eBorn P L t k full).map fun p => .eff p.1 p.2 []
    | .obj => (eAlloc P L t true).map fun p => .eff p.1 p.2 []
    | _ => (eAlloc P L t false).map fun p => .eff p.1 p.2 []
  | .box _ x => (opnd G ch x).bind fun v => (eBox L v).map fun p => .eff p.1 p.2 []
  | .store t p x => (opnd G ch p).bind fun pv => (opnd G ch x).bind fun xv => (eStore P L t pv xv).map fun q => .eff q.1 q.2.1 q.2.2
  | .buildSlice t len ps => (partsO G ch ps.toList).bind fun pv => match h with
    | .obj => (eBsObj P L t len pv).map fun p => .eff p.1 p.2 []
    | _ => if len < 2 ^ 63 then (eBsImm P t len pv).map fun v => .val v [] else none
  | .makeSlice t l c => (opnd G ch l).bind fun lv => (opnd G ch c).bind fun cv => (eMake P L t lv cv).map fun q => .eff q.1 q.2.1 q.2.2
  | .call ⟨.value fo, args, _⟩ => match opnd G ch fo, opnds G ch args.toList with
    | some (.fn f caps), some as => if callable P f then match h with
        | .call v L' => some (.eff v L' [CallOk P f (as ++ caps) L v L'])
        | .callw v ups new => some (.eff v (applyUps L ups ++ new) [CallOk P f (as ++ caps) L v (applyUps L ups ++ new)])
        | .callq v => some (.val v [∀ L, CallOk P f (as ++ caps) L v L])
        | .callr v => some (.val v [CallOk P f (as ++ caps) L v L])
        | .callc c σ true => if c.fits f L σ = true then some (.val (c.v.ren (rho σ L.length)) [c.at P (fitL (as ++ caps) c.as) L σ true]) else none
        | .callc c σ false => if c.fits f L σ = true then some (.eff (c.v.ren (rho σ L.length)) (glue L σ (c.L'.map (Ob.ren (rho σ L.length)))) [c.at P (fitL (as ++ caps) c.as) L σ false]) else none
        | _ => none
      else none
    | _, _ => none
  | .call ⟨.builtin .append, args, ts⟩ => match args.toList, ts.toList with
    | [s, x], [t, t'] => if t = t' then (opnd G ch x).bind fun xv => match opnd G ch s, h with
        | some (.full 0 _), .obj => (eAppNew P L t xv).map fun q => .eff q.1 q.2.1 q.2.2
        | some (.full n f), _ => (eAppImm P L t n f xv).map fun q => .val q.1 q.2
        | some (.ref r st 0 n), _ => (eAppRef P L t r st n xv).map fun q => .eff q.1 q.2.1 q.2.2
        | _, _ => none
      else none
    | _, _ => none
  | .call ⟨.builtin .clear, args, ts⟩ => match args.toList, ts.toList with
    | [x], [t] => (opnd G ch x).bind fun xv => (eClear P L t xv).map fun q => .eff q.1 q.2.1 q.2.2
    | _, _ => none
  | .makeMap _ none => some (.eff (.map L.length) (L ++ [.map []]) [])
  | .lookup t x k ok => (opnd G ch x).bind fun xv => (opnd G ch k).bind fun kv => match h with
    | .callr v => some (.val v [LookOk P L t xv kv ok v])
    | _ => none
  | .mapEntry t m k => (opnd G ch m).bind fun mv => (opnd G ch k).bind fun kv => match h with
    | .call v L' => some (.eff v L' [EntOk P L t mv kv v L'])
    | _ => none
  | .entryStore t m s x => (opnd G ch m).bind fun mv => (opnd G ch s).bind fun sv => (opnd G ch x).bind fun xv => match h with
    | .call v L' => if v.isBot ∧ xv.solid then some (.eff v L' [StoOk P L t mv sv xv L']) else none
    | _ => none
  | .mapUpdate t m k x => (opnd G ch m).bind fun mv => (opnd G ch k).bind fun kv => (opnd G ch x).bind fun xv => match h with
    | .call v L' => if v.isBot ∧ xv.solid then some (.eff v L' [UpdOk P L t mv kv xv L']) else none
    | _ => none
  | _ => (aval P G ch L o).map fun p => .val p.1 p.2

def Res.ok (P : Program) (G : GFr) (ch : Chain) (L : List Ob) (o : Oper) : Res → Prop
  | .val v C => AllP C → OpOk P G ch L o v L
  | .eff v L' C => AllP C → OpOk P G ch L o v L'

theorem astep_ok {P : Program} {G : GFr} {ch : Chain} {L : List Ob} {o : Oper} {h : Hint} {r : Res} (hs : astep P G ch L o h = some r) : r.ok P G ch L o := by
  unfold astep at hs
  split at hs
  case h_1 t ho =>
    split at hs
    · rename_i k full
      cases he : eBorn P L t k full with
      | none => simp [he] at hs
      | some p => simp [he] at hs; subst hs; exact fun _ => born_op ho he
    · cases he : eAlloc P L t true with
      | none => simp [he] at hs
      | some p => simp [he] at hs; subst hs; exact fun _ => alloc_op ho he
    · cases he : eAlloc P L t false with
      | none => simp [he] at hs
      | some p => simp [he] at hs; subst hs; exact fun _ => alloc_op ho he
  case h_2 t x ho =>
    cases hx : opnd G ch x with
    | none => simp [hx] at hs
    | some v =>
      cases he : eBox L v with
      | none => simp [hx, he] at hs
      | some p => simp [hx, he] at hs; subst hs; exact fun _ => box_op ho hx he
  case h_3 t p x ho =>
    cases hp : opnd G ch p with
    | none => simp [hp] at hs
    | some pv =>
      cases hx : opnd G ch x with
      | none => simp [hp, hx] at hs
      | some xv =>
        cases he : eStore P L t pv xv with
        | none => simp [hp, hx, he] at hs
        | some q => simp [hp, hx, he] at hs; subst hs; exact fun hc => store_op ho hp hx he hc
  case h_4 t len ps ho =>
    cases hp : partsO G ch ps.toList with
    | none => simp [hp] at hs
    | some pv =>
      simp only [hp, Option.bind_some] at hs
      split at hs
      · cases he : eBsObj P L t len pv with
        | none => simp [he] at hs
        | some p => simp [he] at hs; subst hs; exact fun _ => bsObj_op ho hp he
      · split at hs
        · rename_i hlt
          cases he : eBsImm P t len pv with
          | none => simp [he] at hs
          | some p => simp [he] at hs; subst hs; exact fun _ => bsImm_op ho hp he hlt
        · cases hs
  case h_5 t l c ho =>
    cases hl : opnd G ch l with
    | none => simp [hl] at hs
    | some lv =>
      cases hc : opnd G ch c with
      | none => simp [hl, hc] at hs
      | some cv =>
        cases he : eMake P L t lv cv with
        | none => simp [hl, hc, he] at hs
        | some q => simp [hl, hc, he] at hs; subst hs; exact fun hc' => make_op ho hl hc he hc'
  case h_6 fo args ts ho =>
    split at hs
    · rename_i f caps as hfo has
      split at hs
      · rename_i hcl
        split at hs
        · cases hs
          exact fun hc => call_op ho hfo has hcl hc.1
        · cases hs
          exact fun hc => call_op ho hfo has hcl hc.1
        · cases hs
          exact fun hc => call_op ho hfo has hcl (hc.1 L)
        · cases hs
          exact fun hc => call_op ho hfo has hcl hc.1
        · split at hs
          · rename_i hfit
            cases hs
            exact fun hc => call_op ho hfo has hcl (CR.okR hfit hc.1).fit
          · cases hs
        · split at hs
          · rename_i hfit
            cases hs
            exact fun hc => call_op ho hfo has hcl (CR.ok hfit hc.1).fit
          · cases hs
        · cases hs
      · cases hs
    · cases hs
  case h_7 args ts ho =>
    split at hs
    · rename_i s x t t' hargs hts
      split at hs
      · rename_i ht
        subst ht
        have e1 : args = #[s, x] := by rw [← Array.toList_inj]; simpa using hargs
        have e2 : ts = #[t, t] := by rw [← Array.toList_inj]; simpa using hts
        subst e1; subst e2
        cases hx : opnd G ch x with
        | none => simp [hx] at hs
        | some xv =>
          simp only [hx, Option.bind_some] at hs
          split at hs
          · rename_i hso
            cases he : eAppNew P L t xv with
            | none => simp [he] at hs
            | some q => simp [he] at hs; subst hs; exact fun hc => appNew_op ho hso hx he hc
          · rename_i n' f' hso _
            cases he : eAppImm P L t n' f' xv with
            | none => simp [he] at hs
            | some q => simp [he] at hs; subst hs; exact fun hc => appImm_op ho hso hx he hc
          · rename_i r' st' n' hso
            cases he : eAppRef P L t r' st' n' xv with
            | none => simp [he] at hs
            | some q => simp [he] at hs; subst hs; exact fun hc => appRef_op ho hso hx he hc
          · cases hs
      · cases hs
    · cases hs
  case h_8 args ts ho =>
    split at hs
    · rename_i x t hargs hts
      have e1 : args = #[x] := by rw [← Array.toList_inj]; simpa using hargs
      have e2 : ts = #[t] := by rw [← Array.toList_inj]; simpa using hts
      subst e1; subst e2
      cases hx : opnd G ch x with
      | none => simp [hx] at hs
      | some xv =>
        cases he : eClear P L t xv with
        | none => simp [hx, he] at hs
        | some q => simp [hx, he] at hs; subst hs; exact fun hc => clear_op ho hx he hc
    · cases hs
  case h_9 t ho =>
    cases hs
    exact fun _ => makeMap_op ho
  case h_10 t x k ok ho =>
    cases hx : opnd G ch x with
    | none => simp [hx] at hs
    | some xv =>
      cases hk : opnd G ch k with
      | none => simp [hx, hk] at hs
      | some kv =>
        simp only [hx, hk, Option.bind_some] at hs
        split at hs
        · cases hs; exact fun hc => look_op ho hx hk hc.1
        · cases hs
  case h_11 t m k ho =>
    cases hx : opnd G ch m with
    | none => simp [hx] at hs
    | some xv =>
      cases hk : opnd G ch k with
      | none => simp [hx, hk] at hs
      | some kv =>
        simp only [hx, hk, Option.bind_some] at hs
        split at hs
        · cases hs; exact fun hc => ent_op ho hx hk hc.1
        · cases hs
  case h_12 t m s x ho =>
    cases hm : opnd G ch m with
    | none => simp [hm] at hs
    | some mv =>
      cases hk : opnd G ch s with
      | none => simp [hm, hk] at hs
      | some sv =>
        cases hx : opnd G ch x with
        | none => simp [hm, hk, hx] at hs
        | some xv =>
          simp only [hm, hk, hx, Option.bind_some] at hs
          split at hs
          · split at hs
            · rename_i hb
              cases hs; exact fun hc => sto_op ho hm hk hx hb.1 hc.1
            · cases hs
          · cases hs
  case h_13 t m s x ho =>
    cases hm : opnd G ch m with
    | none => simp [hm] at hs
    | some mv =>
      cases hk : opnd G ch s with
      | none => simp [hm, hk] at hs
      | some sv =>
        cases hx : opnd G ch x with
        | none => simp [hm, hk, hx] at hs
        | some xv =>
          simp only [hm, hk, hx, Option.bind_some] at hs
          split at hs
          · split at hs
            · rename_i hb
              cases hs; exact fun hc => upd_op ho hm hk hx hb.1 hc.1
            · cases hs
          · cases hs
  case h_14 =>
    cases he : aval P G ch L o with
    | none => simp [he] at hs
    | some p => simp [he] at hs; subst hs; exact fun hc => aval_op he hc
end Go.TA

namespace Go.TA
open Go

structure HE where
  h : Hint := .none
  cast : Option AV := none
  obs : List (Nat × Ob) := []

def hintOf : List (Nat × HE) → Nat → HE
  | [], _ => {}
  | (j, h) :: r, i => if j == i then h else hintOf r i

/-- Under which guards an operation runs. -/
def guardCh (ops : Array Oper) (G : GFr) (o : Oper) : Option Chain :=
  match o.guard with
  | none => some []
  | some (j, want) => match (ops[j]?).bind (·.dst) with
    | some t => match G.get t with
      | some (ch, .d (.b _)) => some ((t, want) :: ch)
      | _ => none
    | none => none

def gP (G : GFr) : Chain → List Prop
  | [] => []
  | (s, want) :: r => (match G.get s with
    | some (_, .d (.b p)) => [p = want]
    | _ => []) ++ gP G r

/-- The guards of a chain are told. -/
def chainOk (G : GFr) : Chain → Bool
  | [] => true
  | (s, _) :: r => (match G.get s with
    | some (ch, .d (.b _)) => ch.all fun y => r.contains y
    | _ => false) && chainOk G r

def underG (G : GFr) (ch : Chain) (C : List Prop) : List Prop := match ch with
  | [] => C
  | _ => C.map fun c => AllP (gP G ch) → c

def castV (v : AV) : Option AV → AV × List Prop
  | none => (v, [])
  | some v' => (v', [LeV v v'])

def castObs : List (Nat × Ob) → List Ob → Option (List Ob × List Prop)
  | [], L => some (L, [])
  | (o, y) :: r, L => match L[o]? with
    | some x => match castObs r (L.set o y) with
      | some (L', C) => some (L', OLe x y :: C)
      | none => none
    | none => none

def putG (G : GFr) (N : Nat) (dst : Option Tmp) (ch : Chain) (v : AV) : Option GFr :=
  match dst with
  | none => some G
  | some t => if t < N ∧ ch.all (fun y => y.1 != t) = true then some (G.put t ch v) else none

def runOps (P : Program) (ops : Array Oper) (N : Nat) (hs : List (Nat × HE)) : List Nat → GFr → List Ob → Option (GFr × List Ob × List Prop)
  | [], G, L => some (G, L, [])
  | i :: r, G, L => match ops[i]? with
    | none => none
    | some o => match guardCh ops G o with
      | none => none
      | some ch => let e := hintOf hs i
        match astep P G ch L o e.h with
        | none => none
        | some (.val v C) =>
          let p := castV v e.cast
          match putG G N o.dst ch p.1 with
          | none => none
          | some G1 => match runOps P ops N hs r G1 L with
            | none => none
            | some (G', L', C') => some (G', L', underG G ch (C ++ p.2) ++ C')
        | some (.eff v L1 C) => match ch with
          | y :: ys =>
            let p := castV v e.cast
            if chainOk G (y :: ys) = true ∧ e.obs.length = 0 then match putG G N o.dst (y :: ys) p.1 with
              | none => none
              | some G1 => match runOps P ops N hs r G1 L1 with
                | none => none
                | some (G', L', C') => some (G', L', underG G (y :: ys) (C ++ p.2) ++ ((¬ AllP (gP G (y :: ys)) → L = L1) :: C'))
            else none
          | [] =>
            let p := castV v e.cast
            match castObs e.obs L1 with
            | none => none
            | some (L2, C2) => match putG G N o.dst [] p.1 with
              | none => none
              | some G1 => match runOps P ops N hs r G1 L2 with
                | none => none
                | some (G', L', C') => some (G', L', C ++ (p.2 ++ (C2 ++ C')))

theorem gP_holds {c : Cx} {G : GFr} {tmps : Array Value} (hf : FrIs c G tmps) : ∀ {ch : Chain}, holds ch tmps → AllP (gP G ch)
  | [], _ => trivial
  | (s, want) :: r, h => by
    simp only [gP]
    rw [AllP_append]
    refine ⟨?_, gP_holds hf (fun y hy => h y (List.mem_cons_of_mem _ hy))⟩
    have h0 := h (s, want) List.mem_cons_self
    split
    · rename_i ch' p hg
      have hs := hf _ (GFr.get_mem hg)
      by_cases hh : holds ch' tmps
      · have e := IsV.b (hs.2.1 hh)
        have : Value.bool p = Value.bool want := e.symm.trans h0
        cases this
        exact ⟨rfl, trivial⟩
      · have e := hs.2.2 hh
        have : undef = Value.bool want := e.symm.trans h0
        cases this
    · trivial

theorem gP_conv {c : Cx} {G : GFr} {tmps : Array Value} (hf : FrIs c G tmps) : ∀ {ch : Chain}, chainOk G ch = true → AllP (gP G ch) → holds ch tmps
  | [], _, _ => fun y hy => by cases hy
  | (s, want) :: r, hk, h => by
    simp only [chainOk, Bool.and_eq_true] at hk
    simp only [gP] at h
    rw [AllP_append] at h
    have ih := gP_conv hf hk.2 h.2
    intro y hy
    rcases List.mem_cons.1 hy with rfl | hy
    · have h1 := hk.1
      split at h1
      · rename_i ch0 p hg
        have hs := hf _ (GFr.get_mem hg)
        have e := IsV.b (hs.2.1 (holds_sub h1 ih))
        simp only [hg] at h
        have hp : p = want := h.1.1
        subst hp
        exact e
      · cases h1
    · exact ih y hy

theorem underG_all {c : Cx} {G : GFr} {tmps : Array Value} {ch : Chain} {C : List Prop} (hf : FrIs c G tmps) (hh : holds ch tmps) (h : AllP (underG G ch C)) : AllP C := by
  unfold underG at h
  split at h
  · exact h
  · have hg := gP_holds hf hh
    clear hh hf
    induction C with
    | nil => trivial
    | cons x r ih => exact ⟨h.1 hg, ih h.2⟩

theorem guard_wanted {c : Cx} {ops : Array Oper} {G : GFr} {o : Oper} {ch : Chain} {tmps : Array Value} (h : guardCh ops G o = some ch) (hf : FrIs c G tmps) :
    Region.wanted o (yielded ops tmps) = true ↔ holds ch tmps := by
  unfold guardCh at h
  split at h
  · rename_i hg
    cases h
    simp [Region.wanted, hg, holds]
  · rename_i j want hg
    split at h
    · rename_i t ht
      split at h
      · rename_i ch0 p hgt
        cases h
        obtain ⟨h1, h2, h3⟩ := hf _ (GFr.get_mem hgt)
        simp only at h1 h2 h3
        have hget : tmps[t]? = some (tmps.getD t undef) := by simp [Array.getD_eq_getD_getElem?, h1]
        simp only [Region.wanted, hg, yielded, ht, Option.bind_some, hget]
        by_cases hh : holds ch0 tmps
        · have e := IsV.b (h2 hh)
          rw [e]
          simp only [beq_iff_eq, Option.some.injEq]
          constructor
          · rintro rfl y hy
            rcases List.mem_cons.1 hy with rfl | hy
            · exact e
            · exact hh y hy
          · intro hh'
            have := hh' (t, want) List.mem_cons_self
            simp only [e] at this
            cases this; rfl
        · have e := h3 hh
          rw [e]
          simp only [undef]
          constructor
          · intro h; cases h
          · intro hh'
            exact absurd (fun y hy => hh' y (List.mem_cons_of_mem _ hy)) hh
      · cases h
    · cases h

theorem castV_is {v : AV} {k : Option AV} {c : Cx} {u : Value} (h : AllP (castV v k).2) (hv : AV.IsV c v u) : AV.IsV c (castV v k).1 u := by
  cases k with
  | none => exact hv
  | some v' => exact h.1 c u hv

theorem castObs_rel {X : Nat → Prop} {ms : Blocks} {w : World} : ∀ {l : List (Nat × Ob)} {L L' : List Ob} {C : List Prop}, castObs l L = some (L', C) → AllP C → Rel X ms L w →
    Rel X ms L' w ∧ (cxOf X ms L w).le (cxOf X ms L' w)
  | [], L, L', C, h, _, hr => by simp [castObs] at h; obtain ⟨rfl, rfl⟩ := h; exact ⟨hr, Cx.le.refl _⟩
  | (o, y) :: r, L, L', C, h, hc, hr => by
    simp only [castObs] at h
    split at h
    · rename_i x hx
      split at h
      · rename_i L1 C1 h1
        cases h
        obtain ⟨k1, k2⟩ := hr.recast hx hc.1
        obtain ⟨k3, k4⟩ := castObs_rel h1 hc.2 k1
        exact ⟨k3, k2.trans k4⟩
      · cases h
    · cases h

theorem putG_is {c : Cx} {G G1 : GFr} {N : Nat} {dst : Option Tmp} {ch : Chain} {v : AV} {a : Act} {u : Value} (h : putG G N dst ch v = some G1) (hN : a.tmps.size = N) (hf : FrIs c G a.tmps)
    (hv : holds ch a.tmps → AV.IsV c v u) (hu : ¬ holds ch a.tmps → u = undef) : FrIs c G1 (a.put dst u).tmps ∧ (a.put dst u).tmps.size = N ∧ (a.put dst u).defers = a.defers := by
  unfold putG at h
  cases dst with
  | none => cases h; exact ⟨hf, hN, rfl⟩
  | some t =>
    simp only at h
    split at h
    · rename_i ht
      cases h
      refine ⟨hf.put (by rw [hN]; exact ht.1) ht.2 hv hu, by simp [Act.put, hN], rfl⟩
    · cases h

/-- **A region in the order of its text.** -/
theorem runOps_ok {P : Program} {ops : Array Oper} {N : Nat} {hs : List (Nat × HE)} {Q : Exit → Act → World → Prop} {X : Nat → Prop} (z : Option Nat) (zn : Nat) : ∀ (l : List Nat) (G : GFr) (L : List Ob) (G' : GFr) (L' : List Ob) (C : List Prop)
    (ms : Blocks) (w : World) (a : Act), runOps P ops N hs l G L = some (G', L', C) → AllP C → Rel X ms L w → FrIs (cxOf X ms L w) G a.tmps → a.tmps.size = N →
    (∀ a' ms' w', Rel X ms' L' w' → Ext ms w ms' w' → (cxOf X ms L w).le (cxOf X ms' L' w') → FrIs (cxOf X ms' L' w') G' a'.tmps → a'.tmps.size = N → a'.defers = a.defers → Q .normal a' w') →
    wpOpsIn (fenceOf z) zn P ops Q l a w
  | [], G, L, G', L', C, ms, w, a, h, _, hr, hf, hN, hQ => by
    simp only [runOps, Option.some.injEq, Prod.mk.injEq] at h
    obtain ⟨rfl, rfl, rfl⟩ := h
    exact hQ a ms w hr (Ext.refl _ _) (Cx.le.refl _) hf hN rfl
  | i :: r, G, L, G', L', C, ms, w, a, h, hc, hr, hf, hN, hQ => by
    simp only [runOps] at h
    cases ho : ops[i]? with
    | none => simp [ho] at h
    | some o =>
      simp only [ho] at h
      cases hg : guardCh ops G o with
      | none => simp [hg] at h
      | some ch =>
        simp only [hg] at h
        have hw := guard_wanted hg hf
        simp only [wpOpsIn, ho]
        cases hst : astep P G ch L o (hintOf hs i).h with
        | none => simp [hst] at h
        | some res =>
          have hok := astep_ok hst
          cases res with
          | val v C1 =>
            simp only [hst] at h
            cases hp : putG G N o.dst ch (castV v (hintOf hs i).cast).1 with
            | none => simp [hp] at h
            | some G1 =>
              simp only [hp] at h
              cases hrun : runOps P ops N hs r G1 L with
              | none => simp [hrun] at h
              | some q =>
                obtain ⟨G2, L2, C2⟩ := q
                simp only [hrun, Option.some.injEq, Prod.mk.injEq] at h
                obtain ⟨rfl, rfl, rfl⟩ := h
                obtain ⟨hc1, hc2⟩ := AllP_append.1 hc
                by_cases hh : holds ch a.tmps
                · rw [if_pos (hw.2 hh)]
                  obtain ⟨hc3, hc4⟩ := AllP_append.1 (underG_all hf hh hc1)
                  refine hok hc3 z zn X ms w a _ Q hr hf hh fun u ms1 w1 k1 k2 k3 k4 => ?_
                  obtain ⟨p1, p2, p3⟩ := putG_is hp hN (hf.mono k3) (fun _ => castV_is hc4 k4) (fun h => absurd hh h)
                  exact runOps_ok z zn r G1 L G2 L2 C2 ms1 w1 _ hrun hc2 k1 p1 p2 (fun a' ms' w' q1 q2 q3 q4 q5 q6 => hQ a' ms' w' q1 (k2.trans q2) (k3.trans q3) q4 q5 (q6.trans p3))
                · rw [if_neg (fun h => hh (hw.1 h))]
                  refine ⟨fun f _ => fence_fn z f, ?_⟩
                  obtain ⟨p1, p2, p3⟩ := putG_is hp hN hf (u := undef) (fun h => absurd h hh) (fun _ => rfl)
                  exact runOps_ok z zn r G1 L G2 L2 C2 ms w _ hrun hc2 hr p1 p2 (fun a' ms' w' q1 q2 q3 q4 q5 q6 => hQ a' ms' w' q1 q2 q3 q4 q5 (q6.trans p3))
          | eff v L1 C1 =>
            simp only [hst] at h
            cases ch with
            | cons y ys =>
              simp only at h
              split at h
              · rename_i hco
                cases hp : putG G N o.dst (y :: ys) (castV v (hintOf hs i).cast).1 with
                | none => simp [hp] at h
                | some G1 =>
                  simp only [hp] at h
                  cases hrun : runOps P ops N hs r G1 L1 with
                  | none => simp [hrun] at h
                  | some q =>
                    obtain ⟨G3, L3, C3⟩ := q
                    simp only [hrun, Option.some.injEq, Prod.mk.injEq] at h
                    obtain ⟨rfl, rfl, rfl⟩ := h
                    obtain ⟨hc1, hc2, hc3⟩ := AllP_append.1 hc
                    by_cases hh : holds (y :: ys) a.tmps
                    · rw [if_pos (hw.2 hh)]
                      obtain ⟨hc4, hc5⟩ := AllP_append.1 (underG_all hf hh hc1)
                      refine hok hc4 z zn X ms w a _ Q hr hf hh fun u ms1 w1 k1 k2 k3 k4 => ?_
                      obtain ⟨p1, p2, p3⟩ := putG_is hp hN (hf.mono k3) (fun _ => castV_is hc5 k4) (fun h => absurd hh h)
                      exact runOps_ok z zn r G1 L1 G3 L3 C3 ms1 w1 _ hrun hc3 k1 p1 p2 (fun a' ms' w' q1 q2 q3 q4 q5 q6 => hQ a' ms' w' q1 (k2.trans q2) (k3.trans q3) q4 q5 (q6.trans p3))
                    · rw [if_neg (fun h => hh (hw.1 h))]
                      refine ⟨fun f _ => fence_fn z f, ?_⟩
                      have hLL := hc2 fun hg => hh (gP_conv hf hco.1 hg)
                      subst hLL
                      obtain ⟨p1, p2, p3⟩ := putG_is hp hN hf (u := undef) (fun h => absurd h hh) (fun _ => rfl)
                      exact runOps_ok z zn r G1 L G3 L3 C3 ms w _ hrun hc3 hr p1 p2 (fun a' ms' w' q1 q2 q3 q4 q5 q6 => hQ a' ms' w' q1 q2 q3 q4 q5 (q6.trans p3))
              · cases h
            | nil =>
              simp only at h
              cases hco : castObs (hintOf hs i).obs L1 with
              | none => simp [hco] at h
              | some q0 =>
                obtain ⟨L2, C2⟩ := q0
                simp only [hco] at h
                cases hp : putG G N o.dst [] (castV v (hintOf hs i).cast).1 with
                | none => simp [hp] at h
                | some G1 =>
                  simp only [hp] at h
                  cases hrun : runOps P ops N hs r G1 L2 with
                  | none => simp [hrun] at h
                  | some q =>
                    obtain ⟨G3, L3, C3⟩ := q
                    simp only [hrun, Option.some.injEq, Prod.mk.injEq] at h
                    obtain ⟨rfl, rfl, rfl⟩ := h
                    obtain ⟨hc1, hc2⟩ := AllP_append.1 hc
                    obtain ⟨hc3, hc4⟩ := AllP_append.1 hc2
                    obtain ⟨hc5, hc6⟩ := AllP_append.1 hc4
                    have hh : holds [] a.tmps := fun y hy => by cases hy
                    rw [if_pos (hw.2 hh)]
                    refine hok hc1 z zn X ms w a _ Q hr hf hh fun u ms1 w1 k1 k2 k3 k4 => ?_
                    obtain ⟨r1, r2⟩ := castObs_rel hco hc5 k1
                    obtain ⟨p1, p2, p3⟩ := putG_is hp hN ((hf.mono k3).mono r2) (fun _ => (castV_is hc3 k4).mono r2) (fun h => absurd hh h)
                    exact runOps_ok z zn r G1 L2 G3 L3 C3 ms1 w1 _ hrun hc6 r1 p1 p2 (fun a' ms' w' q1 q2 q3 q4 q5 q6 => hQ a' ms' w' q1 (k2.trans q2) ((k3.trans r2).trans q3) q4 q5 (q6.trans p3))
end Go.TA
