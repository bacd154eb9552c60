/- A part of the proof: laws over any program of the abstract machine. No condition. -/
import Derived.Test.YtkkdclpleghppaaTaFreeze2
namespace Go.TA
open Go

theorem catF_eq {α : Type} (n : Nat) (f g : Nat → α) (i : Nat) : catF n f g i = if i < n then f i else g (i - n) := by
  cases n with
  | zero => simp [catF]
  | succ n => rfl

theorem oLe_seq {sz n m : Nat} {f g : Nat → AV} (hn : n = m) (h : ∀ i, i < n → f i = g i) : OLe (.seq sz n f) (.seq sz m g) where
  kind := rfl
  stamp := by subst hn; rfl
  is := fun c w o hx => by
    subst hn
    rcases hx with hx | ⟨b, tc, arr, e, cs, h1, h2, h3, h4, h5, h6, h7⟩
    · exact .inl hx
    · exact .inr ⟨b, tc, arr, e, cs, h1, h2, h3, h4, fun i hi => by rw [← h i hi]; exact h5 i hi, h6, h7⟩

section
variable {α : Type} [Inhabited α] {e : α → DV} {l x : List α}
theorem getD_app {i : Nat} : (l ++ x).getD i default = if i < l.length then l.getD i default else x.getD (i - l.length) default := by
  simp only [List.getD_eq_getElem?_getD]
  split
  · rw [List.getElem?_append_left (by assumption)]
  · rw [List.getElem?_append_right (by omega)]

theorem oLe_app {sz : Nat} : OLe (.seq sz (l.length + x.length) (catF l.length (fun j => .d (e (l.getD j default))) (fun j => .d (e (x.getD j default))))) (eS sz e (l ++ x)) :=
  oLe_seq (by simp) fun i _ => by
    rw [catF_eq, getD_app]
    split <;> rfl

theorem leV_app0 : LeV (.d (.sl (0 + x.length) fun j => e (x.getD j default))) (.d (eL e x)) := leV_sl (by omega) fun _ _ => rfl
end

theorem leV_app {α : Type} {l x : List α} {o : Nat} : LeV (.ref o (l.length + x.length) 0 (l.length + x.length)) (.ref o (l ++ x).length 0 (l ++ x).length) := by
  rw [List.length_append]
  exact LeV.refl _

theorem leV_dle {x y : DV} (ha : (AV.d x).isAgg = (AV.d y).isAgg) (h : DLe x y) : LeV (.d x) (.d y) := fun c u hu => by
  cases hu with
  | agg _ cs h1 h2 =>
    cases h2 with
    | d _ _ h2 => exact .agg _ cs (ha ▸ h1) (.d _ _ (h _ _ h2))
  | one _ _ h1 h2 =>
    cases h2 with
    | d _ _ h2 => exact .one _ _ (ha ▸ h1) (.d _ _ (h _ _ h2))

theorem leV_arr {α : Type} {e : α → DV} {sz n : Nat} {f : Nat → DV} {g : Nat → α} (h : ∀ i, i < n → f i = e (g i)) : LeV (.d (.arr sz n f)) (.d (eA sz n e g)) :=
  leV_dle rfl fun M cs hx => by
    cases hx with
    | arr _ _ _ cs hh hl => exact .arr _ _ _ cs (fun i hi => h i hi ▸ hh i hi) hl

theorem oLe_set {α : Type} [Inhabited α] {e : α → DV} {sz i : Nat} {l : List α} {x : α} {f : Nat → AV} (hf : ∀ j, f j = if j = i then .d (e x) else .d (e (l.getD j default))) : OLe (.seq sz l.length f) (eS sz e (l.set i x)) :=
  oLe_seq (by simp) fun j hj => by
    rw [hf]
    simp only [List.getD_eq_getElem?_getD]
    by_cases h : j = i
    · subst h
      rw [if_pos rfl, List.getElem?_set_self hj]
      rfl
    · rw [if_neg h, List.getElem?_set_ne (fun e => h e.symm)]

section
variable {α : Type} [Inhabited α] {e : α → DV} {l : List α} {H : Cx → Cx → Prop}
/-- A row's first part, as a list. -/
theorem trV_take {m : Nat} (hm : m ≤ l.length) : TrV H (.d (.sl m fun j => e (l.getD j default))) (.d (eL e (l.take m))) := fun c c' hc _ cs hx => by
  have h : LeV (.d (.sl m fun j => e (l.getD j default))) (.d (eL e (l.take m))) := by
    have := leV_take (e := e) hm
    simpa using this
  cases hx with
  | d _ _ hx =>
    have h1 : ∃ u, cs = [u] := by cases hx <;> exact ⟨_, rfl⟩
    obtain ⟨u, rfl⟩ := h1
    have := IsV.is1 rfl (by simp) (by simp) (h c u (.one _ _ rfl (.d _ _ hx)))
    exact this.mono hc
end
theorem leV_tr {v v' : AV} (ha : v.isAgg = v'.isAgg) (hs : v.isAgg = true ∨ v.solid = true) (h : TrV NoH v v') : LeV v v' := fun c u hu => TrS.of ha hs h c c (Cx.le.refl _) trivial u hu
theorem trF_refl {H : Cx → Cx → Prop} (fr : Fr) : TrF H fr fr := fun x hx => ⟨x.2, hx, TrS.keep _⟩
theorem eM_lt {α β : Type} (eK : α → DV) (eV : β → DV) (l : List (α × β)) (n : Nat) : (eM eK eV l).lt n := trivial
theorem dLe_arrSet {α : Type} {e : α → DV} {sz n i : Nat} {x : α} {g : Nat → α} : DLe (.arr sz n fun j => if j = i then e x else e (g j)) (eA sz n e fun j => if j = i then x else g j) := fun M cs hx => by
  cases hx with
  | arr _ _ _ cs hh hl =>
    refine .arr _ _ _ cs (fun k hk => ?_) hl
    have := hh k hk
    by_cases h : k = i
    · simpa [h] using this
    · simpa [h] using this
def LeVs (vs ws : List AV) : Prop := ∀ c us, AV.IsVs c vs us → AV.IsVs c ws us
theorem LeVs.nil : LeVs [] [] := fun _ _ h => h
theorem LeVs.cons {v w : AV} {vs ws : List AV} (h : LeV v w) (ht : LeVs vs ws) : LeVs (v :: vs) (w :: ws) := fun c us hu => by
  cases hu with
  | cons _ _ u us h1 h2 => exact .cons _ _ u us (h c u h1) (ht c us h2)
theorem LeV.tup {vs ws : List AV} (h : LeVs vs ws) : LeV (.tup vs) (.tup ws) := fun c u hu => by
  cases hu with
  | tup _ us hu => exact .tup _ us (h c us hu)
  | agg _ _ ha _ => cases ha
  | one _ _ _ hx => cases hx
end Go.TA
