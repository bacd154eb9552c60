/- A part of the proof: laws over any program of the abstract machine. No condition. -/
import Derived.Test.YtkkdclpleghppaaTaCall
namespace Go.TA
open Go

/-! ## renaming objects -/
mutual
def AV.ren (ρ : Nat → Nat) : AV → AV
  | .agg fs => .agg (AV.renL ρ fs)
  | .ptr o st p => .ptr (ρ o) st p
  | .ref o st off n => .ref (ρ o) st off n
  | .map o => .map (ρ o)
  | .fn f caps => .fn f (AV.renL ρ caps)
  | .tup vs => .tup (AV.renL ρ vs)
  | .d x => .d x
  | .full n f => .full n f
  | .imm x => .imm x
  | .bot => .bot
def AV.renL (ρ : Nat → Nat) : List AV → List AV
  | [] => []
  | x :: xs => x.ren ρ :: AV.renL ρ xs
end

def Ob.ren (ρ : Nat → Nat) : Ob → Ob
  | .box x => .box (x.ren ρ)
  | .seq sz n f => .seq sz n fun i => (f i).ren ρ
  | .map es => .map es
  | .dead => .dead
  | .unb => .unb

theorem Ob.ren_stamp (ρ : Nat → Nat) (o : Ob) : (o.ren ρ).stamp = o.stamp := by cases o <;> rfl
theorem Ob.ren_kind (ρ : Nat → Nat) (o : Ob) : (o.ren ρ).kind = o.kind := by cases o <;> rfl
theorem AV.ren_isAgg (ρ : Nat → Nat) (x : AV) : (x.ren ρ).isAgg = x.isAgg := by
  cases x <;> simp [AV.ren, AV.isAgg]

/-- One context inside another. -/
structure Ren (cc c : Cx) (ρ : Nat → Nat) : Prop where
  M : cc.M = c.M
  lt : ∀ k, k < cc.L.length → ρ k < c.L.length
  ge : ∀ k, cc.L.length ≤ k → c.L.length ≤ ρ k
  L : ∀ k, k < cc.L.length → c.L[ρ k]? = (cc.L[k]?).map (Ob.ren ρ)
  ms : ∀ k, k < cc.L.length → c.ms[ρ k]? = cc.ms[k]?

section
variable {cc c : Cx} {ρ : Nat → Nat}

theorem Ren.bound (h : Ren cc c ρ) {o : Nat} : ρ o < c.L.length ↔ o < cc.L.length :=
  ⟨fun ho => by
    rcases Nat.lt_or_ge o cc.L.length with h' | h'
    · exact h'
    · have := h.ge o h'; omega, h.lt o⟩

theorem Ren.ptr (h : Ren cc c ρ) {o st : Nat} {p : List Stp} {v : Value} : PtrOk c (ρ o) st p v ↔ PtrOk cc o st p v := by
  unfold PtrOk
  rw [h.bound]
  constructor
  · rintro ⟨h1, h2, h3, h4⟩
    refine ⟨h1, h2, fun obj s ho hs => h3 (obj.ren ρ) s (by rw [h.L o h1, ho]; rfl) (by rw [Ob.ren_stamp]; exact hs), fun obj ho hs => ?_⟩
    rw [← h.ms o h1]
    exact h4 (obj.ren ρ) (by rw [h.L o h1, ho]; rfl) (by rw [Ob.ren_stamp]; exact hs)
  · rintro ⟨h1, h2, h3, h4⟩
    refine ⟨h1, h2, fun obj s ho hs => ?_, fun obj ho hs => ?_⟩
    · rw [h.L o h1] at ho
      cases hk : cc.L[o]? with
      | none => rw [hk] at ho; cases ho
      | some x =>
        rw [hk] at ho; cases ho
        exact h3 x s hk (by rw [← Ob.ren_stamp ρ]; exact hs)
    · rw [h.L o h1] at ho
      cases hk : cc.L[o]? with
      | none => rw [hk] at ho; cases ho
      | some x =>
        rw [hk] at ho; cases ho
        rw [h.ms o h1]
        exact h4 x hk (by rw [← Ob.ren_stamp ρ]; exact hs)

theorem Ren.ref (h : Ren cc c ρ) {o st off n : Nat} {v : Value} : RefOk c (ρ o) st off n v ↔ RefOk cc o st off n v := by
  unfold RefOk
  rw [h.bound]
  constructor
  · rintro ⟨h1, h2, h3, h4⟩
    refine ⟨h1, h2, fun obj s ho hs => h3 (obj.ren ρ) s (by rw [h.L o h1, ho]; rfl) (by rw [Ob.ren_stamp]; exact hs), fun sz f ho => ?_⟩
    rw [← h.ms o h1]
    exact h4 sz _ (by rw [h.L o h1, ho]; rfl)
  · rintro ⟨h1, h2, h3, h4⟩
    refine ⟨h1, h2, fun obj s ho hs => ?_, fun sz f ho => ?_⟩
    · rw [h.L o h1] at ho
      cases hk : cc.L[o]? with
      | none => rw [hk] at ho; cases ho
      | some x =>
        rw [hk] at ho; cases ho
        exact h3 x s hk (by rw [← Ob.ren_stamp ρ]; exact hs)
    · rw [h.L o h1] at ho
      cases hk : cc.L[o]? with
      | none => rw [hk] at ho; cases ho
      | some x =>
        rw [hk] at ho
        cases x <;> simp [Ob.ren] at ho
        obtain ⟨rfl, rfl, _⟩ := ho
        rw [h.ms o h1]
        exact h4 _ _ hk

theorem Ren.map (h : Ren cc c ρ) {o : Nat} {v : Value} : MapOk c (ρ o) v ↔ MapOk cc o v := by
  unfold MapOk
  rw [h.bound]
  constructor
  · rintro ⟨h1, h2, h3⟩
    refine ⟨h1, h2, fun es ho => ?_⟩
    rw [← h.ms o h1]
    exact h3 _ (by rw [h.L o h1, ho]; rfl)
  · rintro ⟨h1, h2, h3⟩
    refine ⟨h1, h2, fun es ho => ?_⟩
    rw [h.L o h1] at ho
    cases hk : cc.L[o]? with
    | none => rw [hk] at ho; cases ho
    | some x =>
      rw [hk] at ho
      cases x <;> simp [Ob.ren] at ho
      rw [h.ms o h1]
      exact h3 _ hk

mutual
theorem AV.Is.out (h : Ren cc c ρ) {x : AV} {cs : List Value} : AV.Is cc x cs → AV.Is c (x.ren ρ) cs
  | .d x cs hx => by rw [AV.ren]; exact .d x cs (h.M ▸ hx)
  | .full n f a hx => by rw [AV.ren]; exact .full n f a (h.M ▸ hx)
  | .agg gs cs hx => by rw [AV.ren]; exact .agg _ cs (AV.IsL.out h hx)
  | .ptr o st path v hx => by rw [AV.ren]; exact .ptr _ st path v (h.ptr.2 hx)
  | .imm x b off ar cs hb hx hc' => by rw [AV.ren]; exact .imm x b off ar cs (h.M ▸ hb) (h.M ▸ hx) hc'
  | .ref o st off n v hx => by rw [AV.ren]; exact .ref _ st off n v (h.ref.2 hx)
  | .map o v hx => by rw [AV.ren]; exact .map _ v (h.map.2 hx)
  | .fn f caps vs hx => by rw [AV.ren]; exact .fn f _ vs (AV.IsVs.out h hx)
  | .bot v hx => by rw [AV.ren]; exact .bot v hx
theorem AV.IsL.out (h : Ren cc c ρ) {xs : List AV} {cs : List Value} : AV.IsL cc xs cs → AV.IsL c (AV.renL ρ xs) cs
  | .nil => by rw [AV.renL]; exact .nil
  | .cons x xs k ks hx ht => by rw [AV.renL]; exact .cons _ _ k ks (AV.Is.out h hx) (AV.IsL.out h ht)
theorem AV.IsV.out (h : Ren cc c ρ) {x : AV} {v : Value} : AV.IsV cc x v → AV.IsV c (x.ren ρ) v
  | .agg av cs ha hx => .agg _ cs (by rw [AV.ren_isAgg]; exact ha) (AV.Is.out h hx)
  | .one av v ha hx => .one _ v (by rw [AV.ren_isAgg]; exact ha) (AV.Is.out h hx)
  | .tup vs us hx => by rw [AV.ren]; exact .tup _ us (AV.IsVs.out h hx)
  | .bot v => by rw [AV.ren]; exact .bot v
theorem AV.IsVs.out (h : Ren cc c ρ) {xs : List AV} {vs : List Value} : AV.IsVs cc xs vs → AV.IsVs c (AV.renL ρ xs) vs
  | .nil => by rw [AV.renL]; exact .nil
  | .cons x xs v vs hx ht => by rw [AV.renL]; exact .cons _ _ v vs (AV.IsV.out h hx) (AV.IsVs.out h ht)
end

theorem AV.IsV.into1 (x : AV) (v : Value) (h1 : ∀ vs, x ≠ .tup vs) (h2 : x ≠ .bot) (hi : ∀ cs, AV.Is c (x.ren ρ) cs → AV.Is cc x cs) (hx : AV.IsV c (x.ren ρ) v) : AV.IsV cc x v := by
  generalize hy : x.ren ρ = y at hx
  cases hx with
  | agg _ cs ha hx => subst hy; exact .agg _ cs (by rw [← AV.ren_isAgg ρ]; exact ha) (hi cs hx)
  | one _ _ ha hx => subst hy; exact .one _ _ (by rw [← AV.ren_isAgg ρ]; exact ha) (hi _ hx)
  | tup vs us _ => cases x <;> simp [AV.ren] at hy; exact absurd rfl (h1 _)
  | bot => cases x <;> simp [AV.ren] at hy; exact absurd rfl h2

mutual
theorem AV.Is.into (h : Ren cc c ρ) : ∀ (x : AV) (cs : List Value), AV.Is c (x.ren ρ) cs → AV.Is cc x cs
  | .d x, cs, hx => by
    rw [AV.ren] at hx
    cases hx with
    | d _ _ hx => exact .d _ _ (h.M ▸ hx)
  | .full n f, cs, hx => by
    rw [AV.ren] at hx
    cases hx with
    | full _ _ a hx => exact .full _ _ a (h.M ▸ hx)
  | .agg gs, cs, hx => by
    rw [AV.ren] at hx
    cases hx with
    | agg _ _ hx => exact .agg _ _ (AV.IsL.into h gs cs hx)
  | .ptr o st p, cs, hx => by
    rw [AV.ren] at hx
    cases hx with
    | ptr _ _ _ v hx => exact .ptr _ _ _ v (h.ptr.1 hx)
  | .imm x, cs, hx => by
    rw [AV.ren] at hx
    cases hx with
    | imm _ b off ar ks hb hx hc => exact .imm _ b off ar ks (h.M ▸ hb) (h.M ▸ hx) hc
  | .ref o st off n, cs, hx => by
    rw [AV.ren] at hx
    cases hx with
    | ref _ _ _ _ v hx => exact .ref _ _ _ _ v (h.ref.1 hx)
  | .map o, cs, hx => by
    rw [AV.ren] at hx
    cases hx with
    | map _ v hx => exact .map _ v (h.map.1 hx)
  | .fn f caps, cs, hx => by
    rw [AV.ren] at hx
    cases hx with
    | fn _ _ vs hx => exact .fn _ _ vs (AV.IsVs.into h caps vs hx)
  | .tup vs, cs, hx => by
    rw [AV.ren] at hx
    cases hx
  | .bot, cs, hx => by
    rw [AV.ren] at hx
    cases hx with
    | bot v hx => exact .bot v hx
theorem AV.IsL.into (h : Ren cc c ρ) : ∀ (xs : List AV) (cs : List Value), AV.IsL c (AV.renL ρ xs) cs → AV.IsL cc xs cs
  | [], cs, hx => by
    rw [AV.renL] at hx
    cases hx
    exact .nil
  | x :: xs, cs, hx => by
    rw [AV.renL] at hx
    cases hx with
    | cons _ _ k ks hx ht => exact .cons _ _ k ks (AV.Is.into h x k hx) (AV.IsL.into h xs ks ht)
theorem AV.IsV.into (h : Ren cc c ρ) : ∀ (x : AV) (v : Value), AV.IsV c (x.ren ρ) v → AV.IsV cc x v
  | .tup vs, v, hx => by
    rw [AV.ren] at hx
    cases hx with
    | agg _ _ ha => cases ha
    | one _ _ ha hx => cases hx
    | tup _ us hx => exact .tup _ us (AV.IsVs.into h vs us hx)
  | .bot, v, hx => .bot v
  | .d x, v, hx => AV.IsV.into1 (.d x) v (by simp) (by simp) (fun cs => AV.Is.into h (.d x) cs) hx
  | .full n f, v, hx => AV.IsV.into1 (.full n f) v (by simp) (by simp) (fun cs => AV.Is.into h (.full n f) cs) hx
  | .agg gs, v, hx => AV.IsV.into1 (.agg gs) v (by simp) (by simp) (fun cs => AV.Is.into h (.agg gs) cs) hx
  | .ptr o st p, v, hx => AV.IsV.into1 (.ptr o st p) v (by simp) (by simp) (fun cs => AV.Is.into h (.ptr o st p) cs) hx
  | .imm x, v, hx => AV.IsV.into1 (.imm x) v (by simp) (by simp) (fun cs => AV.Is.into h (.imm x) cs) hx
  | .ref o st off n, v, hx => AV.IsV.into1 (.ref o st off n) v (by simp) (by simp) (fun cs => AV.Is.into h (.ref o st off n) cs) hx
  | .map o, v, hx => AV.IsV.into1 (.map o) v (by simp) (by simp) (fun cs => AV.Is.into h (.map o) cs) hx
  | .fn f caps, v, hx => AV.IsV.into1 (.fn f caps) v (by simp) (by simp) (fun cs => AV.Is.into h (.fn f caps) cs) hx
theorem AV.IsVs.into (h : Ren cc c ρ) : ∀ (xs : List AV) (vs : List Value), AV.IsVs c (AV.renL ρ xs) vs → AV.IsVs cc xs vs
  | [], vs, hx => by
    rw [AV.renL] at hx
    cases hx
    exact .nil
  | x :: xs, vs, hx => by
    rw [AV.renL] at hx
    cases hx with
    | cons _ _ v vs hx ht => exact .cons _ _ v vs (AV.IsV.into h x v hx) (AV.IsVs.into h xs vs ht)
end
end
end Go.TA
