/- A part of the proof: laws over any program of the abstract machine. No condition. -/
import Derived.Test.YtkkdclpleghppaaTaNav
import Derived.WalkKit
import Derived.WalkLawsBesides
namespace Go.TA
open Go

/-! ## Frames -/
abbrev Chain := List (Nat × Bool)
/-- What is known of the slots: (slot, under which guards it was written, what it holds). -/
abbrev GFr := List (Nat × Chain × AV)

def GFr.get : GFr → Nat → Option (Chain × AV)
  | [], _ => none
  | (s, e) :: r, t => if s == t then some e else GFr.get r t

def GFr.rm (G : GFr) (t : Nat) : GFr := G.filter fun x => x.1 != t && x.2.1.all fun y => y.1 != t
def GFr.put (G : GFr) (t : Nat) (ch : Chain) (av : AV) : GFr := (t, ch, av) :: G.rm t

def holds (ch : Chain) (tmps : Array Value) : Prop := ∀ y ∈ ch, tmps.getD y.1 undef = .bool y.2

def SlotIs (c : Cx) (tmps : Array Value) (x : Nat × Chain × AV) : Prop :=
  x.1 < tmps.size ∧ (holds x.2.1 tmps → AV.IsV c x.2.2 (tmps.getD x.1 undef)) ∧ (¬ holds x.2.1 tmps → tmps.getD x.1 undef = undef)

def FrIs (c : Cx) (G : GFr) (tmps : Array Value) : Prop := ∀ x ∈ G, SlotIs c tmps x

theorem GFr.get_mem {G : GFr} {t : Nat} {e : Chain × AV} (h : G.get t = some e) : (t, e) ∈ G := by
  induction G with
  | nil => simp [GFr.get] at h
  | cons x r ih =>
    obtain ⟨s, e'⟩ := x
    simp only [GFr.get] at h
    split at h
    · rename_i hs
      cases h
      rw [beq_iff_eq] at hs; subst hs
      exact List.mem_cons_self
    · exact List.mem_cons_of_mem _ (ih h)

theorem FrIs.mono {c c' : Cx} (hc : c.le c') {G : GFr} {tmps : Array Value} (h : FrIs c G tmps) : FrIs c' G tmps :=
  fun x hx => ⟨(h x hx).1, fun hh => ((h x hx).2.1 hh).mono hc, (h x hx).2.2⟩

theorem getD_set_self {tmps : Array Value} {t : Nat} {v : Value} (h : t < tmps.size) : (tmps.setIfInBounds t v).getD t undef = v := by
  simp [Array.getD_eq_getD_getElem?, h]
theorem getD_set_other {tmps : Array Value} {t s : Nat} {v : Value} (h : s ≠ t) : (tmps.setIfInBounds t v).getD s undef = tmps.getD s undef := by
  simp only [Array.getD_eq_getD_getElem?]
  rw [Array.getElem?_setIfInBounds_ne (Ne.symm h)]

theorem holds_set {ch : Chain} {tmps : Array Value} {t : Nat} {v : Value} (h : ch.all (fun y => y.1 != t) = true) : holds ch (tmps.setIfInBounds t v) ↔ holds ch tmps := by
  unfold holds
  constructor <;> intro hh y hy
  · have := hh y hy
    rwa [getD_set_other (by simpa using (List.all_eq_true.1 h) y hy)] at this
  · rw [getD_set_other (by simpa using (List.all_eq_true.1 h) y hy)]
    exact hh y hy

/-- Behind a write of slot t, whatever was written. -/
theorem FrIs.rm {c : Cx} {G : GFr} {tmps : Array Value} (h : FrIs c G tmps) (t : Nat) (v : Value) : FrIs c (G.rm t) (tmps.setIfInBounds t v) := by
  intro x hx
  simp only [GFr.rm, List.mem_filter, Bool.and_eq_true] at hx
  obtain ⟨hm, h1, h2⟩ := hx
  have hne : x.1 ≠ t := by simpa using h1
  obtain ⟨k1, k2, k3⟩ := h x hm
  refine ⟨by simpa using k1, fun hh => ?_, fun hh => ?_⟩
  · rw [getD_set_other hne]; exact k2 ((holds_set h2).1 hh)
  · rw [getD_set_other hne]; exact k3 (fun h' => hh ((holds_set h2).2 h'))

theorem FrIs.put {c : Cx} {G : GFr} {tmps : Array Value} (h : FrIs c G tmps) {t : Nat} (ht : t < tmps.size) {ch : Chain} {av : AV} {v : Value}
    (hch : ch.all (fun y => y.1 != t) = true) (hv : holds ch tmps → AV.IsV c av v) (hu : ¬ holds ch tmps → v = undef) : FrIs c (G.put t ch av) (tmps.setIfInBounds t v) := by
  intro x hx
  rcases List.mem_cons.1 hx with rfl | hx
  · refine ⟨by simpa using ht, fun hh => ?_, fun hh => ?_⟩
    · show AV.IsV c av _
      rw [getD_set_self ht]; exact hv ((holds_set hch).1 hh)
    · show (tmps.setIfInBounds t v).getD t undef = undef
      rw [getD_set_self ht]; exact hu (fun h' => hh ((holds_set hch).2 h'))
  · exact h.rm t v x hx

/-! ## Operands -/
def constD : Value → Option DV
  | .bool b => some (.b b)
  | .int k n => some (.i k n)
  | .string s => some (.str s.data.toList)
  | .pointer none => some (.lit (.pointer none))
  | .map none => some (.lit (.map none))
  | .chan none => some (.lit (.chan none))
  | .nilFunc => some (.lit .nilFunc)
  | .nilIface => some (.lit .nilIface)
  | _ => none

def constAV : Value → Option AV
  | .slice none 0 0 => some (.full 0 fun _ => .b false)
  | v => (constD v).map .d

def opnd (G : GFr) (ch : Chain) : Operand → Option AV
  | .tmp t => match G.get t with
    | some (ch', av) => if ch'.all (fun y => ch.contains y) then some av else none
    | none => none
  | .const v => constAV v
  | .func f => some (.fn f [])
  | .global _ => none

theorem constD_is {M : Mem} {v : Value} {x : DV} (h : constD v = some x) : DV.Is M x [v] ∧ v.cells = #[v] ∧ (AV.d x).isAgg = false := by
  unfold constD at h
  split at h <;> first | (cases h; done) | (cases h; first | exact ⟨.b _, rfl, rfl⟩ | exact ⟨.i _ _, rfl, rfl⟩ | exact ⟨.lit _ rfl, rfl, rfl⟩ | (refine ⟨?_, rfl, rfl⟩; exact .str _))

theorem constAV_is {c : Cx} {v : Value} {x : AV} (h : constAV v = some x) : AV.IsV c x v := by
  unfold constAV at h
  split at h
  · cases h
    exact .one _ _ rfl (.full 0 _ none (.slNil _))
  · cases hd : constD v with
    | none => simp [hd] at h
    | some y =>
      simp [hd] at h; subst h
      obtain ⟨h1, h2, h3⟩ := constD_is (M := c.M) hd
      exact .one _ _ h3 (.d _ _ h1)

theorem holds_sub {ch ch' : Chain} {tmps : Array Value} (h : ch'.all (fun y => ch.contains y) = true) (hh : holds ch tmps) : holds ch' tmps :=
  fun y hy => hh y (by simpa using (List.all_eq_true.1 h) y hy)

theorem opnd_is {c : Cx} {G : GFr} {ch : Chain} {a : Act} {o : Operand} {av : AV} (h : opnd G ch o = some av) (hf : FrIs c G a.tmps) (hh : holds ch a.tmps) :
    AV.IsV c av (a.eval o) := by
  cases o with
  | tmp t =>
    simp only [opnd] at h
    split at h
    · rename_i ch' av' hg
      split at h
      · rename_i hs
        cases h
        exact ((hf _ (GFr.get_mem hg)).2.1) (holds_sub hs hh)
      · cases h
    · cases h
  | const v => exact constAV_is h
  | func f =>
    cases h
    exact .one _ _ rfl (.fn f [] [] .nil)
  | global g => cases h

/-! ## Inversions -/
section
variable {c : Cx} {v : Value}
theorem IsV.i {k : IntKind} {n : Int} (h : AV.IsV c (.d (.i k n)) v) : v = .int k n := by
  cases h with
  | agg _ _ ha => cases ha
  | one _ _ _ h => cases h with | d _ _ h => cases h; rfl
theorem IsV.b {x : Bool} (h : AV.IsV c (.d (.b x)) v) : v = .bool x := by
  cases h with
  | agg _ _ ha => cases ha
  | one _ _ _ h => cases h with | d _ _ h => cases h; rfl
theorem IsV.str {l : List UInt8} (h : AV.IsV c (.d (.str l)) v) : v = .string ⟨l.toArray⟩ := by
  cases h with
  | agg _ _ ha => cases ha
  | one _ _ _ h => cases h with | d _ _ h => cases h; rfl
theorem IsV.is {av : AV} (ha : av.isAgg = true) (h : AV.IsV c av v) : ∃ cs, v = .agg cs.toArray ∧ AV.Is c av cs := by
  cases h with
  | agg _ cs _ h => exact ⟨cs, rfl, h⟩
  | one _ _ h' => rw [h'] at ha; cases ha
  | tup _ _ _ => cases ha
  | bot _ => cases ha
theorem IsV.is1 {av : AV} (ha : av.isAgg = false) (ht : ∀ l, av ≠ .tup l) (hb : av ≠ .bot) (h : AV.IsV c av v) : AV.Is c av [v] := by
  cases h with
  | agg _ cs h' h => rw [h'] at ha; cases ha
  | one _ _ h' h => exact h
  | tup vs _ _ => exact absurd rfl (ht vs)
  | bot _ => exact absurd rfl hb
theorem mk_i (k : IntKind) (n : Int) : AV.IsV c (.d (.i k n)) (.int k n) := .one _ _ rfl (.d _ _ (.i k n))
theorem mk_b (x : Bool) : AV.IsV c (.d (.b x)) (.bool x) := .one _ _ rfl (.d _ _ (.b x))
theorem mk_str (l : List UInt8) : AV.IsV c (.d (.str l)) (.string ⟨l.toArray⟩) := .one _ _ rfl (.d _ _ (.str l))
/-- Neither unknown nor a tuple. -/
def AV.solid : AV → Bool
  | .bot | .tup _ => false
  | _ => true
theorem IsV.cells {av : AV} (hs : av.solid = true) (h : AV.IsV c av v) : AV.Is c av v.cells.toList := by
  cases h with
  | agg _ cs h' h => simpa [Value.cells] using h
  | one _ _ h' h =>
    have h1 := h.one v (by simp)
    have : v.cells = #[v] := by cases v <;> first | rfl | cases h1
    rw [this]; exact h
  | tup vs _ _ => cases hs
  | bot _ => cases hs
/-- A value out of cells. -/
theorem IsV.of_cells1 {av : AV} (ha : av.isAgg = false) (h : AV.Is c av [v]) : AV.IsV c av v := .one _ _ ha h
end
end Go.TA
