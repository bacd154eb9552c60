/- A part of the proof: laws over any program of the abstract machine. No condition. -/
import Derived.Test.YtkkdclpleghppaaTaCode
namespace Go.TA
open Go

/-! ## renaming objects -/
mutual
def AV.ren (ρ : Nat → Nat) : AV → AV
  | .agg fs => .agg (AV.renL ρ fs)
  | .ptr o st p => .ptr (ρ o) st p
  | .ref o st off n => .ref (ρ o) st off n
  | .map o => .map (ρ o)
  | .fn f caps => .fn f (AV.renL ρ caps)
  | .tup vs => .tup (AV.renL ρ vs)
  | .d x => .d x
  | .full n f => .full n f
  | .imm x => .imm x
  | .bot => .bot
def AV.renL (ρ : Nat → Nat) : List AV → List AV
  | [] => []
  | x :: xs => x.ren ρ :: AV.renL ρ xs
end

def Ob.ren (ρ : Nat → Nat) : Ob → Ob
  | .box x => .box (x.ren ρ)
  | .seq sz n f => .seq sz n fun i => (f i).ren ρ
  | .map es => .map es
  | .dead => .dead
  | .unb => .unb

theorem Ob.ren_stamp (ρ : Nat → Nat) (o : Ob) : (o.ren ρ).stamp = o.stamp := by cases o <;> rfl
theorem Ob.ren_kind (ρ : Nat → Nat) (o : Ob) : (o.ren ρ).kind = o.kind := by cases o <;> rfl
theorem AV.ren_isAgg (ρ : Nat → Nat) (x : AV) : (x.ren ρ).isAgg = x.isAgg := by
  cases x <;> simp [AV.ren, AV.isAgg]

/-- One context inside another. -/
structure Ren (cc c : Cx) (ρ : Nat → Nat) : Prop where
  M : cc.M = c.M
  lt : ∀ k, k < cc.L.length → ρ k < c.L.length
  ge : ∀ k, cc.L.length ≤ k → c.L.length ≤ ρ k
  L : ∀ k, k < cc.L.length → c.L[ρ k]? = (cc.L[k]?).map (Ob.ren ρ)
  ms : ∀ k, k < cc.L.length → c.ms[ρ k]? = cc.ms[k]?

section
variable {cc c : Cx} {ρ : Nat → Nat}

theorem Ren.bound (h : Ren cc c ρ) {o : Nat} : ρ o < c.L.length ↔ o < cc.L.length :=
  ⟨fun ho => by
    rcases Nat.lt_or_ge o cc.L.length with h' | h'
    · exact h'
    · have := h.ge o h'; omega, h.lt o⟩

theorem Ren.ptr (h : Ren cc c ρ) {o st : Nat} {p : List Stp} {v : Value} : PtrOk c (ρ o) st p v ↔ PtrOk cc o st p v := by
  unfold PtrOk
  rw [h.bound]
  constructor
  · rintro ⟨h1, h2, h3, h4⟩
    refine ⟨h1, h2, fun obj s ho hs => h3 (obj.ren ρ) s (by rw [h.L o h1, ho]; rfl) (by rw [Ob.ren_stamp]; exact hs), fun obj ho hs => ?_⟩
    rw [← h.ms o h1]
    exact h4 (obj.ren ρ) (by rw [h.L o h1, ho]; rfl) (by rw [Ob.ren_stamp]; exact hs)
  · rintro ⟨h1, h2, h3, h4⟩
    refine ⟨h1, h2, fun obj s ho hs => ?_, fun obj ho hs => ?_⟩
    · rw [h.L o h1] at ho
      cases hk : cc.L[o]? with
      | none => rw [hk] at ho; cases ho
      | some x =>
        rw [hk] at ho; cases ho
        exact h3 x s hk (by rw [← Ob.ren_stamp ρ]; exact hs)
    · rw [h.L o h1] at ho
      cases hk : cc.L[o]? with
      | none => rw [hk] at ho; cases ho
      | some x =>
        rw [hk] at ho; cases ho
        rw [h.ms o h1]
        exact h4 x hk (by rw [← Ob.ren_stamp ρ]; exact hs)

theorem Ren.ref (h : Ren cc c ρ) {o st off n : Nat} {v : Value} : RefOk c (ρ o) st off n v ↔ RefOk cc o st off n v := by
  unfold RefOk
  rw [h.bound]
  constructor
  · rintro ⟨h1, h2, h3, h4⟩
    refine ⟨h1, h2, fun obj s ho hs => h3 (obj.ren ρ) s (by rw [h.L o h1, ho]; rfl) (by rw [Ob.ren_stamp]; exact hs), fun sz f ho => ?_⟩
    rw [← h.ms o h1]
    exact h4 sz _ (by rw [h.L o h1, ho]; rfl)
  · rintro ⟨h1, h2, h3, h4⟩
    refine ⟨h1, h2, fun obj s ho hs => ?_, fun sz f ho => ?_⟩
    · rw [h.L o h1] at ho
      cases hk : cc.L[o]? with
      | none => rw [hk] at ho; cases ho
      | some x =>
        rw [hk] at ho; cases ho
        exact h3 x s hk (by rw [← Ob.ren_stamp ρ]; exact hs)
    · rw [h.L o h1] at ho
      cases hk : cc.L[o]? with
      | none => rw [hk] at ho; cases ho
      | some x =>
        rw [hk] at ho
        cases x <;> simp [Ob.ren] at ho
        obtain ⟨rfl, rfl, _⟩ := ho
        rw [h.ms o h1]
        exact h4 _ _ hk

theorem Ren.map (h : Ren cc c ρ) {o : Nat} {v : Value} : MapOk c (ρ o) v ↔ MapOk cc o v := by
  unfold MapOk
  rw [h.bound]
  constructor
  · rintro ⟨h1, h2, h3⟩
    refine ⟨h1, h2, fun es ho => ?_⟩
    rw [← h.ms o h1]
    exact h3 _ (by rw [h.L o h1, ho]; rfl)
  · rintro ⟨h1, h2, h3⟩
    refine ⟨h1, h2, fun es ho => ?_⟩
    rw [h.L o h1] at ho
    cases hk : cc.L[o]? with
    | none => rw [hk] at ho; cases ho
    | some x =>
      rw [hk] at ho
      cases x <;> simp [Ob.ren] at ho
      rw [h.ms o h1]
      exact h3 _ hk

mutual
theorem AV.Is.out (h : Ren cc c ρ) {x : AV} {cs : List Value} : AV.Is cc x cs → AV.Is c (x.ren ρ) cs
  | .d x cs hx => by rw [AV.ren]; exact .d x cs (h.M ▸ hx)
  | .full n f a hx => by rw [AV.ren]; exact .full n f a (h.M ▸ hx)
  | .agg gs cs hx => by rw [AV.ren]; exact .agg _ cs (AV.IsL.out h hx)
  | .ptr o st path v hx => by rw [AV.ren]; exact .ptr _ st path v (h.ptr.2 hx)
  | .imm x b off ar cs hb hx hc' => by rw [AV.ren]; exact .imm x b off ar cs (h.M ▸ hb) (h.M ▸ hx) hc'
  | .ref o st off n v hx => by rw [AV.ren]; exact .ref _ st off n v (h.ref.2 hx)
  | .map o v hx => by rw [AV.ren]; exact .map _ v (h.map.2 hx)
  | .fn f caps vs hx => by rw [AV.ren]; exact .fn f _ vs (AV.IsVs.out h hx)
  | .bot v hx => by rw [AV.ren]; exact .bot v hx
theorem AV.IsL.out (h : Ren cc c ρ) {xs : List AV} {cs : List Value} : AV.IsL cc xs cs → AV.IsL c (AV.renL ρ xs) cs
  | .nil => by rw [AV.renL]; exact .nil
  | .cons x xs k ks hx ht => by rw [AV.renL]; exact .cons _ _ k ks (AV.Is.out h hx) (AV.IsL.out h ht)
theorem AV.IsV.out (h : Ren cc c ρ) {x : AV} {v : Value} : AV.IsV cc x v → AV.IsV c (x.ren ρ) v
  | .agg av cs ha hx => .agg _ cs (by rw [AV.ren_isAgg]; exact ha) (AV.Is.out h hx)
  | .one av v ha hx => .one _ v (by rw [AV.ren_isAgg]; exact ha) (AV.Is.out h hx)
  | .tup vs us hx => by rw [AV.ren]; exact .tup _ us (AV.IsVs.out h hx)
  | .bot v => by rw [AV.ren]; exact .bot v
theorem AV.IsVs.out (h : Ren cc c ρ) {xs : List AV} {vs : List Value} : AV.IsVs cc xs vs → AV.IsVs c (AV.renL ρ xs) vs
  | .nil => by rw [AV.renL]; exact .nil
  | .cons x xs v vs hx ht => by rw [AV.renL]; exact .cons _ _ v vs (AV.IsV.out h hx) (AV.IsVs.out h ht)
end

theorem AV.IsV.into1 (x : AV) (v : Value) (h1 : ∀ vs, x ≠ .tup vs) (h2 : x ≠ .bot) (hi : ∀ cs, AV.Is c (x.ren ρ) cs → AV.Is cc x cs) (hx : AV.IsV c (x.ren ρ) v) : AV.IsV cc x v := by
  generalize hy : x.ren ρ = y at hx
  cases hx with
  | agg _ cs ha hx => subst hy; exact .agg _ cs (by rw [← AV.ren_isAgg ρ]; exact ha) (hi cs hx)
  | one _ _ ha hx => subst hy; exact .one _ _ (by rw [← AV.ren_isAgg ρ]; exact ha) (hi _ hx)
  | tup vs us _ => cases x <;> simp [AV.ren] at hy; exact absurd rfl (h1 _)
  | bot => cases x <;> simp [AV.ren] at hy; exact absurd rfl h2

mutual
theorem AV.Is.into (h : Ren cc c ρ) : ∀ (x : AV) (cs : List Value), AV.Is c (x.ren ρ) cs → AV.Is cc x cs
  | .d x, cs, hx => by
    rw [AV.ren] at hx
    cases hx with
    | d _ _ hx => exact .d _ _ (h.M ▸ hx)
  | .full n f, cs, hx => by
    rw [AV.ren] at hx
    cases hx with
    | full _ _ a hx => exact .full _ _ a (h.M ▸ hx)
  | .agg gs, cs, hx => by
    rw [AV.ren] at hx
    cases hx with
    | agg _ _ hx => exact .agg _ _ (AV.IsL.into h gs cs hx)
  | .ptr o st p, cs, hx => by
    rw [AV.ren] at hx
    cases hx with
    | ptr _ _ _ v hx => exact .ptr _ _ _ v (h.ptr.1 hx)
  | .imm x, cs, hx => by
    rw [AV.ren] at hx
    cases hx with
    | imm _ b off ar ks hb hx hc => exact .imm _ b off ar ks (h.M ▸ hb) (h.M ▸ hx) hc
  | .ref o st off n, cs, hx => by
    rw [AV.ren] at hx
    cases hx with
    | ref _ _ _ _ v hx => exact .ref _ _ _ _ v (h.ref.1 hx)
  | .map o, cs, hx => by
    rw [AV.ren] at hx
    cases hx with
    | map _ v hx => exact .map _ v (h.map.1 hx)
  | .fn f caps, cs, hx => by
    rw [AV.ren] at hx
    cases hx with
    | fn _ _ vs hx => exact .fn _ _ vs (AV.IsVs.into h caps vs hx)
  | .tup vs, cs, hx => by
    rw [AV.ren] at hx
    cases hx
  | .bot, cs, hx => by
    rw [AV.ren] at hx
    cases hx with
    | bot v hx => exact .bot v hx
theorem AV.IsL.into (h : Ren cc c ρ) : ∀ (xs : List AV) (cs : List Value), AV.IsL c (AV.renL ρ xs) cs → AV.IsL cc xs cs
  | [], cs, hx => by
    rw [AV.renL] at hx
    cases hx
    exact .nil
  | x :: xs, cs, hx => by
    rw [AV.renL] at hx
    cases hx with
    | cons _ _ k ks hx ht => exact .cons _ _ k ks (AV.Is.into h x k hx) (AV.IsL.into h xs ks ht)
theorem AV.IsV.into (h : Ren cc c ρ) : ∀ (x : AV) (v : Value), AV.IsV c (x.ren ρ) v → AV.IsV cc x v
  | .tup vs, v, hx => by
    rw [AV.ren] at hx
    cases hx with
    | agg _ _ ha => cases ha
    | one _ _ ha hx => cases hx
    | tup _ us hx => exact .tup _ us (AV.IsVs.into h vs us hx)
  | .bot, v, hx => .bot v
  | .d x, v, hx => AV.IsV.into1 (.d x) v (by simp) (by simp) (fun cs => AV.Is.into h (.d x) cs) hx
  | .full n f, v, hx => AV.IsV.into1 (.full n f) v (by simp) (by simp) (fun cs => AV.Is.into h (.full n f) cs) hx
  | .agg gs, v, hx => AV.IsV.into1 (.agg gs) v (by simp) (by simp) (fun cs => AV.Is.into h (.agg gs) cs) hx
  | .ptr o st p, v, hx => AV.IsV.into1 (.ptr o st p) v (by simp) (by simp) (fun cs => AV.Is.into h (.ptr o st p) cs) hx
  | .imm x, v, hx => AV.IsV.into1 (.imm x) v (by simp) (by simp) (fun cs => AV.Is.into h (.imm x) cs) hx
  | .ref o st off n, v, hx => AV.IsV.into1 (.ref o st off n) v (by simp) (by simp) (fun cs => AV.Is.into h (.ref o st off n) cs) hx
  | .map o, v, hx => AV.IsV.into1 (.map o) v (by simp) (by simp) (fun cs => AV.Is.into h (.map o) cs) hx
  | .fn f caps, v, hx => AV.IsV.into1 (.fn f caps) v (by simp) (by simp) (fun cs => AV.Is.into h (.fn f caps) cs) hx
theorem AV.IsVs.into (h : Ren cc c ρ) : ∀ (xs : List AV) (vs : List Value), AV.IsVs c (AV.renL ρ xs) vs → AV.IsVs cc xs vs
  | [], vs, hx => by
    rw [AV.renL] at hx
    cases hx
    exact .nil
  | x :: xs, vs, hx => by
    rw [AV.renL] at hx
    cases hx with
    | cons _ _ v vs hx ht => exact .cons _ _ v vs (AV.IsV.into h x v hx) (AV.IsVs.into h xs vs ht)
end
end
end Go.TA

namespace Go.TA
open Go

def setAll {α : Type} : List α → List Nat → List α → List α
  | L, [], _ => L
  | L, i :: σ, x :: xs => setAll (L.set i x) σ xs
  | L, _ :: _, [] => L

theorem setAll_length {α : Type} : ∀ (σ : List Nat) (xs L : List α), (setAll L σ xs).length = L.length
  | [], xs, L => by simp [setAll]
  | i :: σ, [], L => by simp [setAll]
  | i :: σ, x :: xs, L => by simp [setAll, setAll_length σ xs]

theorem setAll_not {α : Type} : ∀ (σ : List Nat) (xs L : List α) (i : Nat), i ∉ σ → (setAll L σ xs)[i]? = L[i]?
  | [], xs, L, i, _ => by simp [setAll]
  | j :: σ, [], L, i, _ => by simp [setAll]
  | j :: σ, x :: xs, L, i, h => by
    simp only [List.mem_cons, not_or] at h
    rw [setAll, setAll_not σ xs _ i h.2, List.getElem?_set_ne (fun e => h.1 e.symm)]

theorem setAll_mem {α : Type} : ∀ (σ : List Nat) (xs L : List α) (k i : Nat), σ.Nodup → σ[k]? = some i → k < xs.length → i < L.length → (setAll L σ xs)[i]? = xs[k]?
  | [], xs, L, k, i, _, h, _, _ => by simp at h
  | j :: σ, [], L, k, i, _, _, h, _ => by simp at h
  | j :: σ, x :: xs, L, 0, i, hn, h, _, hi => by
    simp at h; subst h
    rw [setAll, setAll_not σ xs _ j (List.nodup_cons.1 hn).1, List.getElem?_set_self hi]
    simp
  | j :: σ, x :: xs, L, k + 1, i, hn, h, hk, hi => by
    rw [setAll, setAll_mem σ xs _ k i (List.nodup_cons.1 hn).2 (by simpa using h) (by simpa using hk) (by simpa using hi)]
    simp

/-- The callee's objects put into the caller's. -/
def glue {α : Type} (L : List α) (σ : List Nat) (xs : List α) : List α := setAll L σ xs ++ xs.drop σ.length

def rho (σ : List Nat) (n k : Nat) : Nat := (σ[k]?).getD (n + (k - σ.length))

theorem rho_lt {σ : List Nat} {n k : Nat} (hk : k < σ.length) : σ[k]? = some (rho σ n k) := by
  simp [rho, List.getElem?_eq_getElem hk]
theorem rho_ge {σ : List Nat} {n k : Nat} (hk : σ.length ≤ k) : rho σ n k = n + (k - σ.length) := by
  simp [rho, List.getElem?_eq_none hk]

theorem glue_rho {α : Type} {L xs : List α} {σ : List Nat} (hn : σ.Nodup) (hlt : ∀ i ∈ σ, i < L.length) {k : Nat} (hk : k < xs.length) :
    (glue L σ xs)[rho σ L.length k]? = xs[k]? := by
  unfold glue
  rcases Nat.lt_or_ge k σ.length with h | h
  · have e := rho_lt (n := L.length) h
    have := hlt _ (List.mem_of_getElem? e)
    rw [List.getElem?_append_left (by rw [setAll_length]; exact this), setAll_mem σ xs L k _ hn e hk this]
  · rw [rho_ge h, List.getElem?_append_right (by rw [setAll_length]; omega), setAll_length, List.getElem?_drop]
    congr 1; omega

theorem glue_length {α : Type} {L xs : List α} {σ : List Nat} : (glue L σ xs).length = L.length + (xs.length - σ.length) := by simp [glue, setAll_length]

theorem glue_not {α : Type} {L xs : List α} {σ : List Nat} {i : Nat} (h : i ∉ σ) (hi : i < L.length) : (glue L σ xs)[i]? = L[i]? := by
  unfold glue
  rw [List.getElem?_append_left (by rw [setAll_length]; exact hi), setAll_not _ _ _ _ h]

theorem rho_bound {α : Type} {L xs : List α} {σ : List Nat} (hlt : ∀ i ∈ σ, i < L.length) {k : Nat} (hk : k < xs.length) : rho σ L.length k < L.length + (xs.length - σ.length) := by
  rcases Nat.lt_or_ge k σ.length with h | h
  · have := hlt _ (List.mem_of_getElem? (rho_lt (n := L.length) h)); omega
  · rw [rho_ge h]; omega

theorem glue_cases {α : Type} {L xs : List α} {σ : List Nat} (hl : σ.length ≤ xs.length) {i : Nat} (hi : i < L.length + (xs.length - σ.length)) : (∃ k, k < xs.length ∧ i = rho σ L.length k) ∨ (i < L.length ∧ i ∉ σ) := by
  by_cases h : i ∈ σ
  · obtain ⟨k, hk, e⟩ := List.getElem_of_mem h
    exact .inl ⟨k, by omega, by simp [rho, List.getElem?_eq_getElem hk, e]⟩
  · rcases Nat.lt_or_ge i L.length with h' | h'
    · exact .inr ⟨h', h⟩
    · exact .inl ⟨σ.length + (i - L.length), by omega, by rw [rho_ge (by omega)]; omega⟩

/-- The blocks that are not the callee's. -/
def xOf (X : Nat → Prop) (ms : Blocks) (σ : List Nat) (b : Nat) : Prop := X b ∨ ∃ o tc : Nat, o ∉ σ ∧ ms[o]? = some (some (b, tc))

theorem owned_glue {X : Nat → Prop} {ms ks : Blocks} {σ : List Nat} (hn : σ.Nodup) (hlt : ∀ i ∈ σ, i < ms.length) (hl : σ.length ≤ ks.length) (b : Nat) :
    (X b ∨ owned (glue ms σ ks) b) ↔ (xOf X ms σ b ∨ owned ks b) := by
  constructor
  · rintro (h | ⟨o, tc, h⟩)
    · exact .inl (.inl h)
    · have hi : o < ms.length + (ks.length - σ.length) := by
        rw [← glue_length]
        rcases Nat.lt_or_ge o (glue ms σ ks).length with h' | h'
        · exact h'
        · rw [List.getElem?_eq_none h'] at h; cases h
      rcases glue_cases hl hi with ⟨k, hk, rfl⟩ | ⟨h1, h2⟩
      · rw [glue_rho hn hlt hk] at h
        exact .inr ⟨k, tc, h⟩
      · rw [glue_not h2 h1] at h
        exact .inl (.inr ⟨o, tc, h2, h⟩)
  · rintro ((h | ⟨o, tc, h1, h2⟩) | ⟨k, tc, h⟩)
    · exact .inl h
    · have hi : o < ms.length := by
        rcases Nat.lt_or_ge o ms.length with h' | h'
        · exact h'
        · rw [List.getElem?_eq_none h'] at h2; cases h2
      exact .inr ⟨o, tc, by rw [glue_not h1 hi]; exact h2⟩
    · have hk : k < ks.length := by
        rcases Nat.lt_or_ge k ks.length with h' | h'
        · exact h'
        · rw [List.getElem?_eq_none h'] at h; cases h
      exact .inr ⟨_, tc, by rw [glue_rho hn hlt hk]; exact h⟩

theorem memOf_congr {X Y : Nat → Prop} {ms ks : Blocks} {w : World} (h : ∀ b, (X b ∨ owned ms b) ↔ (Y b ∨ owned ks b)) : memOf X ms w = memOf Y ks w := by
  funext b
  unfold memOf
  by_cases hb : X b ∨ owned ms b
  · rw [if_pos hb, if_pos ((h b).1 hb)]
  · rw [if_neg hb, if_neg (fun h' => hb ((h b).2 h'))]

theorem glue_self {α : Type} {L : List α} {σ : List Nat} {xs : List α} (hn : σ.Nodup) (hlt : ∀ i ∈ σ, i < L.length) (hl : σ.length = xs.length)
    (h : ∀ k i : Nat, σ[k]? = some i → L[i]? = xs[k]?) : glue L σ xs = L := by
  apply List.ext_getElem?
  intro i
  rcases Nat.lt_or_ge i L.length with hi | hi
  · by_cases hm : i ∈ σ
    · obtain ⟨k, hk, e⟩ := List.getElem_of_mem hm
      have e1 : σ[k]? = some i := by rw [List.getElem?_eq_getElem hk, e]
      have e2 : rho σ L.length k = i := by simp [rho, e1]
      rw [← e2, glue_rho hn hlt (by omega), e2]
      exact (h k i e1).symm
    · exact glue_not hm hi
  · rw [List.getElem?_eq_none hi, List.getElem?_eq_none (by rw [glue_length]; omega)]

theorem EntsIs.into {cc c : Cx} {ρ : Nat → Nat} (h : Ren cc c ρ) : ∀ {es : List (DV × DV)} {r : List MapEntry}, EntsIs c es r → EntsIs cc es r
  | [], [], _ => trivial
  | (k, v) :: es, e :: r, hx => ⟨AV.IsV.into h (.d k) _ (by rw [AV.ren]; exact hx.1), AV.IsV.into h (.d v) _ (by rw [AV.ren]; exact hx.2.1), EntsIs.into h hx.2.2⟩
  | [], _ :: _, hx => hx.elim
  | _ :: _, [], hx => hx.elim
theorem EntsIs.out {cc c : Cx} {ρ : Nat → Nat} (h : Ren cc c ρ) : ∀ {es : List (DV × DV)} {r : List MapEntry}, EntsIs cc es r → EntsIs c es r
  | [], [], _ => trivial
  | (k, v) :: es, e :: r, hx => ⟨by have := hx.1.out h; rw [AV.ren] at this; exact this, by have := hx.2.1.out h; rw [AV.ren] at this; exact this, EntsIs.out h hx.2.2⟩
  | [], _ :: _, hx => hx.elim
  | _ :: _, [], hx => hx.elim

theorem ObIs.into {cc c : Cx} {ρ : Nat → Nat} (h : Ren cc c ρ) {w : World} {k : Nat} (hk : k < cc.L.length) {obj : Ob} (hx : ObIs c w (ρ k) (obj.ren ρ)) : ObIs cc w k obj := by
  have hm := h.ms k hk
  cases obj with
  | box x =>
    rcases hx with hx | ⟨b, tc, arr, e, h1, h2, h3⟩
    · exact .inl (hm ▸ hx)
    · exact .inr ⟨b, tc, arr, e, hm ▸ h1, h2, AV.Is.into h _ _ h3⟩
  | seq sz m f =>
    rcases hx with hx | ⟨b, tc, arr, e, cs, h1, h2, h3, h4, h5, h6⟩
    · exact .inl ⟨hm ▸ hx.1, hx.2⟩
    · exact .inr ⟨b, tc, arr, e, cs, hm ▸ h1, h2, h3, h4, fun i hi => AV.Is.into h _ _ (h5 i hi), h6⟩
  | map es =>
    obtain ⟨b, tc, ents, clock, h1, h2, h3, h4⟩ := hx
    exact ⟨b, tc, ents, clock, hm ▸ h1, h2, EntsIs.into h h3, h4⟩
  | dead => trivial
  | unb => exact hm.symm.trans hx

theorem ObIs.out {cc c : Cx} {ρ : Nat → Nat} (h : Ren cc c ρ) {w : World} {k : Nat} (hk : k < cc.L.length) {obj : Ob} (hx : ObIs cc w k obj) : ObIs c w (ρ k) (obj.ren ρ) := by
  have hm := h.ms k hk
  cases obj with
  | box x =>
    rcases hx with hx | ⟨b, tc, arr, e, h1, h2, h3⟩
    · exact .inl (hm.trans hx)
    · exact .inr ⟨b, tc, arr, e, hm.trans h1, h2, h3.out h⟩
  | seq sz m f =>
    rcases hx with hx | ⟨b, tc, arr, e, cs, h1, h2, h3, h4, h5, h6⟩
    · exact .inl ⟨hm.trans hx.1, hx.2⟩
    · exact .inr ⟨b, tc, arr, e, cs, hm.trans h1, h2, h3, h4, fun i hi => (h5 i hi).out h, h6⟩
  | map es =>
    obtain ⟨b, tc, ents, clock, h1, h2, h3, h4⟩ := hx
    exact ⟨b, tc, ents, clock, hm.trans h1, h2, h3.out h, h4⟩
  | dead => trivial
  | unb => exact hm.trans hx

/-- **A contract in a greater state**: σ says which objects of the caller are the callee's. -/
theorem CallOk.frame {P : Program} {f : FuncId} {as : List AV} {Lc Lc' : List Ob} {v : AV} (h : CallOk P f as Lc v Lc') {L : List Ob} (σ : List Nat) (hn : σ.Nodup) (hlt : ∀ i ∈ σ, i < L.length)
    (hlen : σ.length = Lc.length) (hlen' : Lc.length ≤ Lc'.length) (hL : ∀ k i : Nat, σ[k]? = some i → L[i]? = (Lc[k]?).map (Ob.ren (rho σ L.length))) :
    CallOk P f (AV.renL (rho σ L.length) as) L (v.ren (rho σ L.length)) (glue L σ (Lc'.map (Ob.ren (rho σ L.length)))) := by
  intro X ms w us hr hu
  have hltm : ∀ i ∈ σ, i < ms.length := fun i hi => by rw [hr.len]; exact hlt i hi
  have hml : ms.length = L.length := hr.len
  -- the callee's view
  let ks : Blocks := σ.map fun i => (ms[i]?).getD none
  have hks : ∀ k i : Nat, σ[k]? = some i → ks[k]? = ms[i]? := fun k i e => by
    have := hltm i (List.mem_of_getElem? e)
    simp [ks, List.getElem?_map, e, List.getElem?_eq_getElem this]
  have hkl : ks.length = σ.length := by simp [ks]
  have hself : glue ms σ ks = ms := glue_self hn hltm hkl.symm (fun k i e => (hks k i e).symm)
  have hown := owned_glue (X := X) hn hltm (Nat.le_of_eq hkl.symm)
  rw [hself] at hown
  have hmem : memOf (xOf X ms σ) ks w = memOf X ms w := (memOf_congr hown).symm
  have hren : Ren (cxOf (xOf X ms σ) ks Lc w) (cxOf X ms L w) (rho σ L.length) := by
    refine ⟨hmem, fun k hk => ?_, fun k hk => ?_, fun k hk => ?_, fun k hk => ?_⟩
    · simp only [cxOf] at hk
      exact hlt _ (List.mem_of_getElem? (rho_lt (n := L.length) (by omega)))
    · simp only [cxOf] at hk ⊢
      rw [rho_ge (by omega)]; omega
    · simp only [cxOf] at hk ⊢
      exact hL k _ (rho_lt (by omega))
    · simp only [cxOf] at hk ⊢
      exact (hks k _ (rho_lt (by omega))).symm
  have hrc : Rel (xOf X ms σ) ks Lc w := by
    refine ⟨by omega, fun b hb => ?_, fun b hb => ?_, fun o o' b tc tc' h1 h2 => ?_, fun k obj hk => ?_⟩
    · obtain ⟨k, tc, e⟩ := hb
      have hk : k < σ.length := by
        rcases Nat.lt_or_ge k ks.length with h' | h'
        · omega
        · rw [List.getElem?_eq_none h'] at e; cases e
      have e1 := hks k _ (rho_lt (n := L.length) hk)
      rw [e] at e1
      obtain ⟨l1, l2⟩ := hr.lt b ⟨_, tc, e1.symm⟩
      refine ⟨l1, ?_⟩
      rintro (hx | ⟨o, tc', h1, h2⟩)
      · exact l2 hx
      · have := hr.inj _ _ b tc' tc h2 e1.symm
        subst this
        exact h1 (List.mem_of_getElem? (rho_lt (n := L.length) hk))
    · rcases hb with hb | ⟨o, tc, _, h2⟩
      · exact hr.xlt b hb
      · exact (hr.lt b ⟨o, tc, h2⟩).1
    · have hk : o < σ.length := by
        rcases Nat.lt_or_ge o ks.length with h' | h'
        · omega
        · rw [List.getElem?_eq_none h'] at h1; cases h1
      have hk' : o' < σ.length := by
        rcases Nat.lt_or_ge o' ks.length with h' | h'
        · omega
        · rw [List.getElem?_eq_none h'] at h2; cases h2
      have e1 := hks o _ (rho_lt (n := L.length) hk)
      have e2 := hks o' _ (rho_lt (n := L.length) hk')
      rw [h1] at e1; rw [h2] at e2
      have := hr.inj _ _ b tc tc' e1.symm e2.symm
      have e3 := rho_lt (n := L.length) hk
      have e4 := rho_lt (n := L.length) hk'
      rw [this] at e3
      have g1 : σ[o] = rho σ L.length o' := by rw [List.getElem?_eq_getElem hk] at e3; exact Option.some.inj e3
      have g2 : σ[o'] = rho σ L.length o' := by rw [List.getElem?_eq_getElem hk'] at e4; exact Option.some.inj e4
      exact (List.getElem_inj hn).1 (g1.trans g2.symm)
    · have hkl' : k < Lc.length := by
        rcases Nat.lt_or_ge k Lc.length with h' | h'
        · exact h'
        · rw [List.getElem?_eq_none h'] at hk; cases hk
      refine ObIs.into hren hkl' ?_
      refine hr.obs _ _ ?_
      rw [hL k _ (rho_lt (by omega)), hk]; rfl
  refine (h (xOf X ms σ) ks w us hrc (AV.IsVs.into hren as us hu)).mono ?_
  rintro e w' ⟨u, ks', rfl, r1, e1, c1, v1⟩
  have hkl' : ks'.length = Lc'.length := r1.len
  have hsk : σ.length ≤ ks'.length := by omega
  have hsl : σ.length ≤ (Lc'.map (Ob.ren (rho σ L.length))).length := by simp; omega
  have hown' := owned_glue (X := X) hn hltm hsk
  have hmem' : memOf (xOf X ms σ) ks' w' = memOf X (glue ms σ ks') w' := (memOf_congr hown').symm
  have hglen : (glue ms σ ks').length = (glue L σ (Lc'.map (Ob.ren (rho σ L.length)))).length := by
    rw [glue_length, glue_length]; simp; omega
  have hgL : (glue L σ (Lc'.map (Ob.ren (rho σ L.length)))).length = L.length + (Lc'.length - σ.length) := by rw [glue_length]; simp
  have hren' : Ren (cxOf (xOf X ms σ) ks' Lc' w') (cxOf X (glue ms σ ks') (glue L σ (Lc'.map (Ob.ren (rho σ L.length)))) w') (rho σ L.length) := by
    refine ⟨hmem', fun k hk => ?_, fun k hk => ?_, fun k hk => ?_, fun k hk => ?_⟩
    · simp only [cxOf] at hk ⊢
      rw [glue_length]
      exact rho_bound hlt (by simpa using hk)
    · simp only [cxOf] at hk ⊢
      rw [hgL, rho_ge (by omega)]; omega
    · simp only [cxOf] at hk ⊢
      rw [glue_rho hn hlt (by simpa using hk), List.getElem?_map]
    · simp only [cxOf] at hk ⊢
      rw [← hml, glue_rho hn hltm (by omega)]
  have hkeep : ∀ b, b < w.heap.size → ¬ owned ms b → w'.heap[b]? = w.heap[b]? ∧ ¬ owned (glue ms σ ks') b := fun b hb hb' => by
    have hkn : ¬ owned ks b := fun ⟨k, tc, e⟩ => by
      have hk : k < σ.length := by
        rcases Nat.lt_or_ge k ks.length with h' | h'
        · omega
        · rw [List.getElem?_eq_none h'] at e; cases e
      have e1 := hks k _ (rho_lt (n := L.length) hk)
      rw [e] at e1
      exact hb' ⟨_, tc, e1.symm⟩
    obtain ⟨g1, g2⟩ := e1.keep b hb hkn
    refine ⟨g1, fun ho => ?_⟩
    obtain ⟨o, tc, ho⟩ := ho
    have hi : o < ms.length + (ks'.length - σ.length) := by
      rw [← glue_length]
      rcases Nat.lt_or_ge o (glue ms σ ks').length with h' | h'
      · exact h'
      · rw [List.getElem?_eq_none h'] at ho; cases ho
    rcases glue_cases hsk hi with ⟨k, hk, rfl⟩ | ⟨l1, l2⟩
    · rw [glue_rho hn hltm hk] at ho
      exact g2 ⟨k, tc, ho⟩
    · rw [glue_not l2 l1] at ho
      exact hb' ⟨o, tc, ho⟩
  have hext : Ext ms w (glue ms σ ks') w' := ⟨e1.size, hkeep, e1.out⟩
  have hle : (cxOf X ms L w).le (cxOf X (glue ms σ ks') (glue L σ (Lc'.map (Ob.ren (rho σ L.length)))) w') := by
    refine ⟨hext.memLe, by simp only [cxOf]; omega, fun o obj' ho hl hs => ?_⟩
    simp only [cxOf] at ho hl ⊢
    by_cases hm : o ∈ σ
    · obtain ⟨k, hk, e⟩ := List.getElem_of_mem hm
      have e2 : σ[k]? = some o := by rw [List.getElem?_eq_getElem hk, e]
      have e3 : rho σ L.length k = o := by simp [rho, e2]
      have hk' : k < (Lc'.map (Ob.ren (rho σ L.length))).length := by simp; omega
      have g := glue_rho hn hlt hk'
      rw [e3] at g
      rw [g, List.getElem?_map] at hl
      cases hc' : Lc'[k]? with
      | none => rw [hc'] at hl; cases hl
      | some oc' =>
        rw [hc'] at hl
        simp only [Option.map_some, Option.some.injEq] at hl
        subst hl
        obtain ⟨oc, p1, p2, p3, p4⟩ := c1.ob k oc' (by simp only [cxOf]; omega) hc' (by rw [Ob.ren_stamp] at hs; exact hs)
        simp only [cxOf] at p1 p4
        refine ⟨oc.ren (rho σ L.length), by rw [hL k o e2, p1]; rfl, by rw [Ob.ren_kind, Ob.ren_kind]; exact p2, fun s hs => ?_, fun es => ?_⟩
        · rw [Ob.ren_stamp] at hs ⊢
          exact p3 s hs
        · rw [Ob.ren_stamp, Ob.ren_stamp] at es
          have g' := glue_rho (L := ms) (xs := ks') hn hltm (k := k) (by simp at hk'; omega)
          rw [hml, e3] at g'
          rw [g', p4 es, hks k o e2]
    · rw [glue_not hm ho] at hl
      exact ⟨obj', hl, rfl, fun s hs => ⟨s, hs, Nat.le_refl _⟩, fun _ => glue_not hm (by omega)⟩
  refine ⟨u, glue ms σ ks', rfl, ⟨hglen, fun b hb => ?_, fun b hb => Nat.lt_of_lt_of_le (hr.xlt b hb) e1.size, fun o o' b tc tc' h1 h2 => ?_, fun o obj ho => ?_⟩, hext, hle, v1.out hren'⟩
  · have h1 := (hown' b).1 (.inr hb)
    rcases h1 with h1 | h1
    · have hlt' : b < w'.heap.size := Nat.lt_of_lt_of_le (hrc.xlt b h1) e1.size
      refine ⟨hlt', fun hx => ?_⟩
      exact (hkeep b (hr.xlt b hx) (fun ho => (hr.lt b ho).2 hx)).2 hb
    · exact ⟨(r1.lt b h1).1, fun hx => (r1.lt b h1).2 (.inl hx)⟩
  · have hin : ∀ {o tc}, (glue ms σ ks')[o]? = some (some (b, tc)) → (∃ k, k < ks'.length ∧ o = rho σ ms.length k ∧ ks'[k]? = some (some (b, tc))) ∨ (o ∉ σ ∧ ms[o]? = some (some (b, tc))) := by
      intro o tc e
      have hi : o < ms.length + (ks'.length - σ.length) := by
        rw [← glue_length]
        rcases Nat.lt_or_ge o (glue ms σ ks').length with h' | h'
        · exact h'
        · rw [List.getElem?_eq_none h'] at e; cases e
      rcases glue_cases hsk hi with ⟨k, hk, rfl⟩ | ⟨l1, l2⟩
      · exact .inl ⟨k, hk, rfl, by rw [← glue_rho hn hltm hk]; exact e⟩
      · exact .inr ⟨l2, by rw [← glue_not l2 l1]; exact e⟩
    rcases hin h1 with ⟨k, _, rfl, p1⟩ | ⟨p0, p1⟩ <;> rcases hin h2 with ⟨k', _, rfl, q1⟩ | ⟨q0, q1⟩
    · rw [r1.inj k k' b tc tc' p1 q1]
    · exact absurd (.inr ⟨o', tc', q0, q1⟩) (r1.lt b ⟨k, tc, p1⟩).2
    · exact absurd (.inr ⟨o, tc, p0, p1⟩) (r1.lt b ⟨k', tc', q1⟩).2
    · exact hr.inj o o' b tc tc' p1 q1
  · have hi : o < L.length + ((Lc'.map (Ob.ren (rho σ L.length))).length - σ.length) := by
      rw [← glue_length]
      rcases Nat.lt_or_ge o (glue L σ (Lc'.map (Ob.ren (rho σ L.length)))).length with h' | h'
      · exact h'
      · rw [List.getElem?_eq_none h'] at ho; cases ho
    rcases glue_cases hsl hi with ⟨k, hk, rfl⟩ | ⟨l1, l2⟩
    · rw [glue_rho hn hlt hk, List.getElem?_map] at ho
      cases hc' : Lc'[k]? with
      | none => rw [hc'] at ho; cases ho
      | some oc' =>
        rw [hc'] at ho; cases ho
        exact ObIs.out hren' (by simpa [cxOf] using hk) (r1.obs k oc' hc')
    · rw [glue_not l2 l1] at ho
      refine (hr.obs o obj ho).mono hle (glue_not l2 (by omega)) fun b tc hb => ?_
      have hb' : ms[o]? = some (some (b, tc)) := hb
      refine (e1.keep b (hr.lt b ⟨o, tc, hb'⟩).1 fun ⟨k, tc', ek⟩ => ?_).1
      exact (hrc.lt b ⟨k, tc', ek⟩).2 (.inr ⟨o, tc, l2, hb'⟩)

/-- A contract that knows no object holds everywhere. -/
theorem CallOk.pure {P : Program} {f : FuncId} {as : List AV} {v : AV} (h : CallOk P f as [] v []) (ha : ∀ ρ, AV.renL ρ as = as) (hv : ∀ ρ, v.ren ρ = v) (L : List Ob) : CallOk P f as L v L := by
  have := h.frame (L := L) [] List.nodup_nil (fun i hi => by cases hi) rfl (Nat.le_refl _) (fun k i e => by simp at e)
  rw [ha, hv] at this
  simpa [glue, setAll] using this
end Go.TA
