/- A part of the proof: laws over any program of the abstract machine. No condition. -/
import Derived.Test.YtkkdclpleghppaaTaFn2
namespace Go.TA
open Go

theorem iteT {α : Type} {b : Bool} {x y : Option α} {r : α} (hb : b = true) (h : (if b = true then x else y) = some r) : x = some r := by rwa [if_pos hb] at h
theorem iteF {α : Type} {b : Bool} {x y : Option α} {r : α} (hb : b = false) (h : (if b = true then x else y) = some r) : y = some r := by
  rwa [if_neg (by rw [hb]; exact Bool.false_ne_true)] at h

def outM {σ ρ α : Type} (x : Option (Out σ ρ)) (k : σ → Option α) (kr : ρ → Option α) : Option α :=
  match x with
  | none => none
  | some (.next s) => k s
  | some (.ret r) => kr r

def outK {σ ρ α : Type} (k : σ → Option α) (kr : ρ → Option α) : Out σ ρ → Option α
  | .next s => k s
  | .ret r => kr r

theorem outM_some {σ ρ α : Type} {x : Option (Out σ ρ)} {k : σ → Option α} {kr : ρ → Option α} {r : α} (h : outM x k kr = some r) : ∃ o, x = some o ∧ outK k kr o = some r := by
  unfold outM at h
  split at h
  · cases h
  · exact ⟨_, rfl, h⟩
  · exact ⟨_, rfl, h⟩

open Classical in
noncomputable def optP {α : Type} [Inhabited α] (gs : List Prop) (k : Option α) : Option α := if AllP gs then k else some default
theorem optP_some {α : Type} [Inhabited α] {gs : List Prop} {k : Option α} {r : α} (h : optP gs k = some r) (hg : AllP gs) : k = some r := by
  unfold optP at h
  rwa [if_pos hg] at h

open Classical in
noncomputable def optD {α : Type} (gs : List Prop) (k : Option α) (d : α) : Option α := if AllP gs then k else some d
theorem optD_some {α : Type} {gs : List Prop} {k : Option α} {d r : α} (h : optD gs k d = some r) (hg : AllP gs) : k = some r := by
  unfold optD at h
  rwa [if_pos hg] at h
theorem optD_neg {α : Type} {gs : List Prop} {k : Option α} {d r : α} (h : optD gs k d = some r) (hg : ¬ AllP gs) : d = r := by
  unfold optD at h
  rw [if_neg hg] at h
  exact Option.some.inj h

/-- What a function hands back. -/
def FR (P : Program) (fn : Func) (v : AV) (L' : List Ob) (fr : Fr) (L : List Ob) : Prop := ∃ v1 C J, resV P fn fr L = some (v1, C) ∧ AllP C ∧ LeV v1 v ∧ L = L' ++ J
def FQ (P : Program) (fn : Func) (v : AV) (L' : List Ob) : Post := fun e fr L => (e = .normal ∨ e = .ret) ∧ FR P fn v L' fr L

theorem frLe_at {fr r : Fr} {k s : Nat} {v w : AV} (hm : fr[k]? = some (s, v)) (h : LeV v w) (hr : FrLe fr r) : FrLe fr ((s, w) :: r) := frLe_cons (List.mem_of_getElem? hm) h hr

def LsOk (n : Nat) : List Ob → Prop
  | [] => True
  | x :: r => x.lt n ∧ LsOk n r
theorem lsOk {n : Nat} : ∀ {L : List Ob}, LsOk n L → ∀ (o : Nat) (obj : Ob), L[o]? = some obj → obj.lt n
  | [], _, o, obj, h => by simp at h
  | x :: r, hk, 0, obj, h => by simp at h; subst h; exact hk.1
  | x :: r, hk, o + 1, obj, h => lsOk hk.2 o obj (by simpa using h)

/-! ## lists and arrays as data -/
def eL {α : Type} [Inhabited α] (e : α → DV) (l : List α) : DV := .sl l.length fun j => e (l.getD j default)
def eA {α : Type} (sz n : Nat) (e : α → DV) (f : Nat → α) : DV := .arr sz n fun j => e (f j)
def eS {α : Type} [Inhabited α] (sz : Nat) (e : α → DV) (l : List α) : Ob := .seq sz l.length fun j => .d (e (l.getD j default))

section
variable {α : Type} [Inhabited α] {e : α → DV} {l : List α}
theorem leV_nil {f : Nat → DV} : LeV (.full 0 f) (.d (eL e ([] : List α))) := leV_full rfl fun i hi => by omega
theorem leV_fullL {n : Nat} {f : Nat → DV} (hn : n = l.length) (h : ∀ i, i < n → f i = e (l.getD i default)) : LeV (.full n f) (.d (eL e l)) := leV_full hn h
theorem leV_take {h : Nat} (hh : h ≤ l.length) : LeV (.d (.sl (h - 0) fun j => e (l.getD j default))) (.d (eL e (l.take h))) :=
  leV_sl (by simp; omega) fun i hi => by
    have : (l.take h).getD i default = l.getD i default := by
      simp only [List.getD_eq_getElem?_getD]
      rw [List.getElem?_take_of_lt (by omega)]
    rw [this]
theorem leV_drop {n : Nat} : LeV (.d (.sl (l.length - n) fun j => e (l.getD (n + j) default))) (.d (eL e (l.drop n))) :=
  leV_sl (by simp) fun i _ => by
    have : (l.drop n).getD i default = l.getD (n + i) default := by simp [List.getD_eq_getElem?_getD]
    rw [this]
theorem leV_cut {a b : Nat} (hab : a ≤ b) (hb : b ≤ l.length) : LeV (.d (.sl (b - a) fun j => e (l.getD (a + j) default))) (.d (eL e ((l.drop a).take (b - a)))) :=
  leV_sl (by simp; omega) fun i hi => by
    have : ((l.drop a).take (b - a)).getD i default = l.getD (a + i) default := by
      simp only [List.getD_eq_getElem?_getD]
      rw [List.getElem?_take_of_lt (by omega), List.getElem?_drop]
    rw [this]
theorem leV_lit (e : α → DV) (l : List α) : LeV (.d (.sl l.length (listF (.b false) (l.map e)))) (.d (eL e l)) :=
  leV_sl rfl fun i hi => by
    simp [listF, List.getD_eq_getElem?_getD, List.getElem?_eq_getElem hi]

/-- A list in a slot is not too long. -/
theorem aws_lenL {P : Program} {N : Nat} {Q : Post} {fr : Fr} {L : List Ob} {cs : List Code} {t k : Nat} (hm : fr[k]? = some (t, AV.d (eL e l))) (hne : cs ≠ []) (h : l.length < 2 ^ 63 → AWs P N cs Q fr L) :
    AWs P N cs Q fr L := aws_len (List.mem_of_getElem? hm) hne h
end

theorem wrap_i64 {n : Int} (h1 : -(2 ^ 63) ≤ n) (h2 : n < 2 ^ 63) : IntKind.i64.wrap n = n := by
  have e1 : IntKind.i64.bits = 64 := rfl
  have e2 : IntKind.i64.signed = true := rfl
  simp only [IntKind.wrap, e1, e2, Bool.true_and, decide_eq_true_eq]
  split <;> omega

theorem wrap_succ {i : Nat} (h : i + 1 < 2 ^ 63) : IntKind.i64.wrap ((i : Int) + 1) = ((i + 1 : Nat) : Int) := by
  rw [wrap_i64 (by omega) (by omega)]
  omega

/-! ## data said otherwise -/
def DLe (x y : DV) : Prop := ∀ M cs, DV.Is M x cs → DV.Is M y cs
def DLeL (xs ys : List DV) : Prop := ∀ M cs, DV.IsL M xs cs → DV.IsL M ys cs
theorem DLe.refl (x : DV) : DLe x x := fun _ _ h => h
theorem DLe.sl0 {f g : Nat → DV} : DLe (.sl 0 f) (.sl 0 g) := fun _ _ h => by
  cases h with
  | slNil => exact .slNil _
  | slEmpty => exact .slEmpty _ _ _
  | sl _ _ b off cap sz arr cs h1 h2 hb hh hl hc => exact .sl _ _ b off cap sz arr cs h1 h2 hb (fun i hi => by omega) hl hc
theorem DLe.agg {xs ys : List DV} (h : DLeL xs ys) : DLe (.agg xs) (.agg ys) := fun M cs hx => by
  cases hx with
  | agg _ _ hx => exact .agg _ _ (h M cs hx)
theorem DLeL.nil : DLeL [] [] := fun _ _ h => h
theorem DLeL.cons {x y : DV} {xs ys : List DV} (h : DLe x y) (ht : DLeL xs ys) : DLeL (x :: xs) (y :: ys) := fun M cs hx => by
  cases hx with
  | cons _ _ c cs h1 h2 => exact .cons _ _ c cs (h M c h1) (ht M cs h2)

theorem oLe_box {x y : DV} (h : DLe x y) : OLe (.box (.d x)) (.box (.d y)) where
  kind := rfl
  stamp := rfl
  is := fun c w o hx => by
    rcases hx with hx | ⟨b, tc, arr, e, h1, h2, h3⟩
    · exact .inl hx
    · refine .inr ⟨b, tc, arr, e, h1, h2, ?_⟩
      cases h3 with
      | d _ _ h3 => exact .d _ _ (h _ _ h3)

/-- A contract at a call. -/
theorem CallOk.at {P : Program} {f : FuncId} {as as' : List AV} {Lc Lc' L L' : List Ob} {v v' : AV} (h : CallOk P f as Lc v Lc') (σ : List Nat) (hn : σ.Nodup) (hlt : σ.all (fun i => Nat.blt i L.length) = true)
    (hlen : σ.length = Lc.length) (hlen' : Lc.length ≤ Lc'.length) (hL : σ.map (fun i => L[i]?) = Lc.map (fun x => some (x.ren (rho σ L.length)))) (ha : AV.renL (rho σ L.length) as = as')
    (hv : v.ren (rho σ L.length) = v') (hg : glue L σ (Lc'.map (Ob.ren (rho σ L.length))) = L') : CallOk P f as' L v' L' := by
  subst ha; subst hv; subst hg
  refine h.frame σ hn (fun i hi => ?_) hlen hlen' fun k i e => ?_
  · have := List.all_eq_true.1 hlt i hi
    exact Nat.le_of_ble_eq_true this
  · have h1 : (σ.map (fun i => L[i]?))[k]? = some (L[i]?) := by rw [List.getElem?_map, e]; rfl
    rw [hL, List.getElem?_map] at h1
    cases hk : Lc[k]? with
    | none => rw [hk] at h1; cases h1
    | some x => rw [hk] at h1; exact (Option.some.inj h1).symm
end Go.TA
