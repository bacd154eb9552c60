/- A part of the proof: laws over any program of the abstract machine. No condition. -/
import Derived.Test.YteelhiohkbbdhaaGreatDoorTaCore
import Derived.WalkKit
import Derived.WalkLawsBesides
namespace Go.TA
open Go

/-! ## Frames -/
abbrev Chain := List (Nat × Bool)
/-- What is known of the slots: (slot, under which guards it was written, what it holds). -/
abbrev GFr := List (Nat × Chain × AV)

def GFr.get : GFr → Nat → Option (Chain × AV)
  | [], _ => none
  | (s, e) :: r, t => if s == t then some e else GFr.get r t

def GFr.rm (G : GFr) (t : Nat) : GFr := G.filter fun x => x.1 != t && x.2.1.all fun y => y.1 != t
def GFr.put (G : GFr) (t : Nat) (ch : Chain) (av : AV) : GFr := (t, ch, av) :: G.rm t

def holds (ch : Chain) (tmps : Array Value) : Prop := ∀ y ∈ ch, tmps.getD y.1 undef = .bool y.2

def SlotIs (c : Cx) (tmps : Array Value) (x : Nat × Chain × AV) : Prop :=
  x.1 < tmps.size ∧ (holds x.2.1 tmps → AV.IsV c x.2.2 (tmps.getD x.1 undef)) ∧ (¬ holds x.2.1 tmps → tmps.getD x.1 undef = undef)

def FrIs (c : Cx) (G : GFr) (tmps : Array Value) : Prop := ∀ x ∈ G, SlotIs c tmps x

theorem GFr.get_mem {G : GFr} {t : Nat} {e : Chain × AV} (h : G.get t = some e) : (t, e) ∈ G := by
  induction G with
  | nil => simp [GFr.get] at h
  | cons x r ih =>
    obtain ⟨s, e'⟩ := x
    simp only [GFr.get] at h
    split at h
    · rename_i hs
      cases h
      rw [beq_iff_eq] at hs; subst hs
      exact List.mem_cons_self
    · exact List.mem_cons_of_mem _ (ih h)

theorem FrIs.mono {c c' : Cx} (hc : c.le c') {G : GFr} {tmps : Array Value} (h : FrIs c G tmps) : FrIs c' G tmps :=
  fun x hx => ⟨(h x hx).1, fun hh => ((h x hx).2.1 hh).mono hc, (h x hx).2.2⟩

theorem getD_set_self {tmps : Array Value} {t : Nat} {v : Value} (h : t < tmps.size) : (tmps.setIfInBounds t v).getD t undef = v := by
  simp [Array.getD_eq_getD_getElem?, h]
theorem getD_set_other {tmps : Array Value} {t s : Nat} {v : Value} (h : s ≠ t) : (tmps.setIfInBounds t v).getD s undef = tmps.getD s undef := by
  simp only [Array.getD_eq_getD_getElem?]
  rw [Array.getElem?_setIfInBounds_ne (Ne.symm h)]

theorem holds_set {ch : Chain} {tmps : Array Value} {t : Nat} {v : Value} (h : ch.all (fun y => y.1 != t) = true) : holds ch (tmps.setIfInBounds t v) ↔ holds ch tmps := by
  unfold holds
  constructor <;> intro hh y hy
  · have := hh y hy
    rwa [getD_set_other (by simpa using (List.all_eq_true.1 h) y hy)] at this
  · rw [getD_set_other (by simpa using (List.all_eq_true.1 h) y hy)]
    exact hh y hy

/-- Behind a write of slot t, whatever was written. -/
theorem FrIs.rm {c : Cx} {G : GFr} {tmps : Array Value} (h : FrIs c G tmps) (t : Nat) (v : Value) : FrIs c (G.rm t) (tmps.setIfInBounds t v) := by
  intro x hx
  simp only [GFr.rm, List.mem_filter, Bool.and_eq_true] at hx
  obtain ⟨hm, h1, h2⟩ := hx
  have hne : x.1 ≠ t := by simpa using h1
  obtain ⟨k1, k2, k3⟩ := h x hm
  refine ⟨by simpa using k1, fun hh => ?_, fun hh => ?_⟩
  · rw [getD_set_other hne]; exact k2 ((holds_set h2).1 hh)
  · rw [getD_set_other hne]; exact k3 (fun h' => hh ((holds_set h2).2 h'))

theorem FrIs.put {c : Cx} {G : GFr} {tmps : Array Value} (h : FrIs c G tmps) {t : Nat} (ht : t < tmps.size) {ch : Chain} {av : AV} {v : Value}
    (hch : ch.all (fun y => y.1 != t) = true) (hv : holds ch tmps → AV.IsV c av v) (hu : ¬ holds ch tmps → v = undef) : FrIs c (G.put t ch av) (tmps.setIfInBounds t v) := by
  intro x hx
  rcases List.mem_cons.1 hx with rfl | hx
  · refine ⟨by simpa using ht, fun hh => ?_, fun hh => ?_⟩
    · show AV.IsV c av _
      rw [getD_set_self ht]; exact hv ((holds_set hch).1 hh)
    · show (tmps.setIfInBounds t v).getD t undef = undef
      rw [getD_set_self ht]; exact hu (fun h' => hh ((holds_set hch).2 h'))
  · exact h.rm t v x hx

/-! ## Operands -/
def constD : Value → Option DV
  | .bool b => some (.b b)
  | .int k n => some (.i k n)
  | .string s => some (.str s.data.toList)
  | .pointer none => some (.lit (.pointer none))
  | .map none => some (.lit (.map none))
  | .chan none => some (.lit (.chan none))
  | .nilFunc => some (.lit .nilFunc)
  | .nilIface => some (.lit .nilIface)
  | _ => none

def constAV : Value → Option AV
  | .slice none 0 0 => some (.full 0 fun _ => .b false)
  | v => (constD v).map .d

def opnd (G : GFr) (ch : Chain) : Operand → Option AV
  | .tmp t => match G.get t with
    | some (ch', av) => if ch'.all (fun y => ch.contains y) then some av else none
    | none => none
  | .const v => constAV v
  | .func f => some (.fn f [])
  | .global _ => none

theorem constD_is {M : Mem} {v : Value} {x : DV} (h : constD v = some x) : DV.Is M x [v] ∧ v.cells = #[v] ∧ (AV.d x).isAgg = false := by
  unfold constD at h
  split at h <;> first | (cases h; done) | (cases h; first | exact ⟨.b _, rfl, rfl⟩ | exact ⟨.i _ _, rfl, rfl⟩ | exact ⟨.lit _ rfl, rfl, rfl⟩ | (refine ⟨?_, rfl, rfl⟩; exact .str _))

theorem constAV_is {c : Cx} {v : Value} {x : AV} (h : constAV v = some x) : AV.IsV c x v := by
  unfold constAV at h
  split at h
  · cases h
    exact .one _ _ rfl (.full 0 _ none (.slNil _))
  · cases hd : constD v with
    | none => simp [hd] at h
    | some y =>
      simp [hd] at h; subst h
      obtain ⟨h1, h2, h3⟩ := constD_is (M := c.M) hd
      exact .one _ _ h3 (.d _ _ h1)

theorem holds_sub {ch ch' : Chain} {tmps : Array Value} (h : ch'.all (fun y => ch.contains y) = true) (hh : holds ch tmps) : holds ch' tmps :=
  fun y hy => hh y (by simpa using (List.all_eq_true.1 h) y hy)

theorem opnd_is {c : Cx} {G : GFr} {ch : Chain} {a : Act} {o : Operand} {av : AV} (h : opnd G ch o = some av) (hf : FrIs c G a.tmps) (hh : holds ch a.tmps) :
    AV.IsV c av (a.eval o) := by
  cases o with
  | tmp t =>
    simp only [opnd] at h
    split at h
    · rename_i ch' av' hg
      split at h
      · rename_i hs
        cases h
        exact ((hf _ (GFr.get_mem hg)).2.1) (holds_sub hs hh)
      · cases h
    · cases h
  | const v => exact constAV_is h
  | func f =>
    cases h
    exact .one _ _ rfl (.fn f [] [] .nil)
  | global g => cases h

/-! ## Inversions -/
section
variable {c : Cx} {v : Value}
theorem IsV.i {k : IntKind} {n : Int} (h : AV.IsV c (.d (.i k n)) v) : v = .int k n := by
  cases h with
  | agg _ _ ha => cases ha
  | one _ _ _ h => cases h with | d _ _ h => cases h; rfl
theorem IsV.b {x : Bool} (h : AV.IsV c (.d (.b x)) v) : v = .bool x := by
  cases h with
  | agg _ _ ha => cases ha
  | one _ _ _ h => cases h with | d _ _ h => cases h; rfl
theorem IsV.str {l : List UInt8} (h : AV.IsV c (.d (.str l)) v) : v = .string ⟨l.toArray⟩ := by
  cases h with
  | agg _ _ ha => cases ha
  | one _ _ _ h => cases h with | d _ _ h => cases h; rfl
theorem IsV.is {av : AV} (ha : av.isAgg = true) (h : AV.IsV c av v) : ∃ cs, v = .agg cs.toArray ∧ AV.Is c av cs := by
  cases h with
  | agg _ cs _ h => exact ⟨cs, rfl, h⟩
  | one _ _ h' => rw [h'] at ha; cases ha
  | tup _ _ _ => cases ha
  | bot _ => cases ha
theorem IsV.is1 {av : AV} (ha : av.isAgg = false) (ht : ∀ l, av ≠ .tup l) (hb : av ≠ .bot) (h : AV.IsV c av v) : AV.Is c av [v] := by
  cases h with
  | agg _ cs h' h => rw [h'] at ha; cases ha
  | one _ _ h' h => exact h
  | tup vs _ _ => exact absurd rfl (ht vs)
  | bot _ => exact absurd rfl hb
theorem mk_i (k : IntKind) (n : Int) : AV.IsV c (.d (.i k n)) (.int k n) := .one _ _ rfl (.d _ _ (.i k n))
theorem mk_b (x : Bool) : AV.IsV c (.d (.b x)) (.bool x) := .one _ _ rfl (.d _ _ (.b x))
theorem mk_str (l : List UInt8) : AV.IsV c (.d (.str l)) (.string ⟨l.toArray⟩) := .one _ _ rfl (.d _ _ (.str l))
/-- Neither unknown nor a tuple. -/
def AV.solid : AV → Bool
  | .bot | .tup _ => false
  | _ => true
theorem IsV.cells {av : AV} (hs : av.solid = true) (h : AV.IsV c av v) : AV.Is c av v.cells.toList := by
  cases h with
  | agg _ cs h' h => simpa [Value.cells] using h
  | one _ _ h' h =>
    have h1 := h.one v (by simp)
    have : v.cells = #[v] := by cases v <;> first | rfl | cases h1
    rw [this]; exact h
  | tup vs _ _ => cases hs
  | bot _ => cases hs
/-- A value out of cells. -/
theorem IsV.of_cells1 {av : AV} (ha : av.isAgg = false) (h : AV.Is c av [v]) : AV.IsV c av v := .one _ _ ha h
end
end Go.TA

namespace Go.TA
open Go

def szOf (P : Program) (t : TypeId) : Option Nat := (P.info? t).map (·.size)
def aggTy (P : Program) (t : TypeId) : Option Bool := (P.underlying t).map fun d => match d with
  | .struct _ | .array _ _ => true
  | _ => false

section
variable {P : Program}
theorem run_und {t : TypeId} {d : TypeDesc} (h : P.underlying t = some d) (w : World) : (underlying t).run P w = .ok d w := run_underlying h w
theorem run_sz {t : TypeId} {n : Nat} (h : szOf P t = some n) (w : World) : (sizeOf t).run P w = .ok n w := by
  unfold szOf at h
  cases hi : P.info? t with
  | none => simp [hi] at h
  | some i =>
    simp [hi] at h
    simp [sizeOf, typeInfo, hi, h]
theorem run_agg {t : TypeId} {b : Bool} (h : aggTy P t = some b) (w : World) : (isAgg t).run P w = .ok b w := by
  unfold aggTy at h
  cases hd : P.underlying t with
  | none => simp [hd] at h
  | some d =>
    simp only [hd, Option.map_some, Option.some.injEq] at h
    unfold isAgg
    rw [Sem.run_bind, run_und hd w, Result.andThen_ok]
    subst h
    cases d <;> rfl
end

/-- What an integer operation gives, and on what condition. -/
def binI (op : BinOp) (k k' : IntKind) (a b : Int) : Option (DV × List Prop) :=
  match op with
  | .shl => some (.i k (k.wrap (a * 2 ^ (min b.toNat k.bits))), [0 ≤ b])
  | .shr => some (.i k (a.fdiv (2 ^ (min b.toNat k.bits))), [0 ≤ b])
  | _ => if k = k' then match op with
    | .add => some (.i k (k.wrap (a + b)), [])
    | .sub => some (.i k (k.wrap (a - b)), [])
    | .mul => some (.i k (k.wrap (a * b)), [])
    | .quo => some (.i k (k.wrap (a.tdiv b)), [b ≠ 0])
    | .rem => some (.i k (a.tmod b), [b ≠ 0])
    | .and => some (.i k (k.wrap (BitVec.ofInt k.bits a &&& BitVec.ofInt k.bits b).toNat), [])
    | .or => some (.i k (k.wrap (BitVec.ofInt k.bits a ||| BitVec.ofInt k.bits b).toNat), [])
    | .xor => some (.i k (k.wrap (BitVec.ofInt k.bits a ^^^ BitVec.ofInt k.bits b).toNat), [])
    | .andNot => some (.i k (k.wrap (BitVec.ofInt k.bits a &&& ~~~ BitVec.ofInt k.bits b).toNat), [])
    | .eql => some (.b (a == b), [])
    | .neq => some (.b (a != b), [])
    | .lss => some (.b (decide (a < b)), [])
    | .leq => some (.b (decide (a ≤ b)), [])
    | .gtr => some (.b (decide (a > b)), [])
    | .geq => some (.b (decide (a ≥ b)), [])
    | _ => none
    else none

def binS (op : BinOp) (a b : List UInt8) : Option (DV × List Prop) :=
  match op with
  | .add => some (.str (a ++ b), [a.length + b.length < 2 ^ 63])
  | .eql => some (.b (a == b), [])
  | .neq => some (.b (!(a == b)), [])
  | .lss => some (.b (Op.bytesLess a b), [])
  | .leq => some (.b (Op.bytesLess a b || a == b), [])
  | .gtr => some (.b (!(Op.bytesLess a b || a == b)), [])
  | .geq => some (.b (!Op.bytesLess a b), [])
  | _ => none

def AllP : List Prop → Prop
  | [] => True
  | p :: r => p ∧ AllP r

theorem AllP_append {a b : List Prop} : AllP (a ++ b) ↔ AllP a ∧ AllP b := by
  induction a with
  | nil => simp [AllP]
  | cons x r ih => simp [AllP, ih, and_assoc]

theorem binI_run {P : Program} {w : World} {op : BinOp} {t : TypeId} {k k' : IntKind} {a b : Int} {x : DV} {C : List Prop} (h : binI op k k' a b = some (x, C)) (hc : AllP C) :
    ∃ v, (binOp op t (.int k a) (.int k' b)).run P w = .ok v w ∧ ∀ M, DV.Is M x [v] ∧ (AV.d x).isAgg = false := by
  unfold binI at h
  split at h
  · cases h
    have h0 : ¬ b < 0 := by have := hc.1; omega
    exact ⟨_, by simp [binOp, Op.shift, h0], fun M => ⟨.i _ _, rfl⟩⟩
  · cases h
    have h0 : ¬ b < 0 := by have := hc.1; omega
    exact ⟨_, by simp [binOp, Op.shift, h0], fun M => ⟨.i _ _, rfl⟩⟩
  · rename_i hn1 hn2
    split at h
    · rename_i hk
      subst hk
      split at h
      case h_16 => cases h
      all_goals
        cases h
      case h_4 =>
        have h0 : b ≠ 0 := hc.1
        exact ⟨_, by simp [binOp, Op.intDiv, h0], fun M => ⟨.i _ _, rfl⟩⟩
      case h_5 =>
        have h0 : b ≠ 0 := hc.1
        exact ⟨_, by simp [binOp, Op.intDiv, h0], fun M => ⟨.i _ _, rfl⟩⟩
      all_goals first
        | exact ⟨.int k _, (by show Sem.run P (if k ≠ k then _ else _) w = _; rw [if_neg (by simp)]; rfl), fun M => ⟨.i _ _, rfl⟩⟩
        | exact ⟨.bool _, (by show Sem.run P (if k ≠ k then _ else _) w = _; rw [if_neg (by simp)]; rfl), fun M => ⟨.b _, rfl⟩⟩
    · cases h

theorem binS_run {P : Program} {w : World} {op : BinOp} {t : TypeId} {a b : List UInt8} {x : DV} {C : List Prop} (h : binS op a b = some (x, C)) (hc : AllP C) :
    ∃ v, (binOp op t (.string ⟨a.toArray⟩) (.string ⟨b.toArray⟩)).run P w = .ok v w ∧ ∀ M, DV.Is M x [v] ∧ (AV.d x).isAgg = false := by
  unfold binS at h
  split at h
  case h_8 => cases h
  case h_1 =>
    cases h
    have h0 : a.length + b.length < 2 ^ 63 := hc.1
    have h1 : ¬ (((ByteArray.mk a.toArray).size + (ByteArray.mk b.toArray).size : Nat) : Int) > IntKind.i64.max := by
      have e1 : (ByteArray.mk a.toArray).size = a.length := by simp [ByteArray.size]
      have e2 : (ByteArray.mk b.toArray).size = b.length := by simp [ByteArray.size]
      have e3 : IntKind.i64.max = 9223372036854775807 := by decide
      rw [e1, e2, e3]; omega
    refine ⟨.string ⟨(a ++ b).toArray⟩, ?_, fun M => ⟨.str _, rfl⟩⟩
    simp only [binOp, Op.stringOp, h1, if_false, Sem.run_pure]
    congr 2
  all_goals
    cases h
    exact ⟨_, by simp [binOp, Op.stringOp], fun M => ⟨.b _, rfl⟩⟩

theorem eqGuard_plain {P : Program} {w : World} {op : BinOp} {t : TypeId} {x y : Operand} {a b : Value} (h1 : a ≠ .nilIface) (h2 : ∀ cs, a ≠ .agg cs) :
    (eqGuard op t x y a b).run P w = .ok () w := by
  unfold eqGuard
  cases a <;> first
    | exact absurd rfl h1
    | exact absurd rfl (h2 _)
    | (split <;> first | rfl | (simp; done))
end Go.TA

namespace Go.TA
open Go

theorem add_mk (b off j : Nat) : (⟨b, off, none⟩ : Addr).add j = ⟨b, off + j, none⟩ := by
  unfold Addr.add
  split <;> simp_all

theorem cell_mk {w : World} {b : Nat} {arr : Array Value} {e : TypeId} {fz : Nat × Nat} (h : w.heap[b]? = some (.cells arr e fz)) (i : Nat) :
    w.cell? ⟨b, i, none⟩ = arr[i]? := by
  simp [World.cell?, h]

section
variable {P : Program} {w : World}

theorem loadVar_ok {t : TypeId} {g : Bool} {k : List Value} {b off : Nat} (hag : aggTy P t = some g) (hsz : szOf P t = some k.length)
    (hc : ∀ j, j < k.length → w.cell? ⟨b, off + j, none⟩ = k[j]?) (h1 : g = false → ∃ v, k = [v]) :
    ∃ u, (loadVar t ⟨b, off, none⟩).run P w = .ok u w ∧ ((g = true ∧ u = .agg k.toArray) ∨ (g = false ∧ k = [u])) := by
  cases g with
  | true =>
    refine ⟨.agg k.toArray, ?_, .inl ⟨rfl, rfl⟩⟩
    have hl := run_loadCells_list (P := P) w ⟨b, off, none⟩ k (fun j v hv => by
      rw [add_mk]
      have hj : j < k.length := by
        rcases Nat.lt_or_ge j k.length with h | h
        · exact h
        · rw [List.getElem?_eq_none h] at hv; cases hv
      rw [hc j hj, hv])
    simp [loadVar, run_agg hag w, run_sz hsz w, hl]
  | false =>
    obtain ⟨v, rfl⟩ := h1 rfl
    refine ⟨v, ?_, .inr ⟨rfl, rfl⟩⟩
    have := hc 0 (by simp)
    simp only [Nat.add_zero, List.getElem?_cons_zero] at this
    simp [loadVar, run_agg hag w, this]

theorem isV_of_load {c : Cx} {av : AV} {k : List Value} {u : Value} {g : Bool} (hk : AV.Is c av k) (hg : av.isAgg = g)
    (hu : (g = true ∧ u = .agg k.toArray) ∨ (g = false ∧ k = [u])) : AV.IsV c av u := by
  rcases hu with ⟨rfl, rfl⟩ | ⟨rfl, rfl⟩
  · exact .agg _ _ hg hk
  · exact .one _ _ hg hk

theorem nonAgg_one {c : Cx} {av : AV} {k : List Value} (hk : AV.Is c av k) (hg : av.isAgg = false) : ∃ v, k = [v] := by
  cases hk with
  | d x cs h =>
    cases h <;> first | exact ⟨_, rfl⟩ | cases hg
  | agg _ _ _ => cases hg
  | _ => exact ⟨_, rfl⟩
end

/-! ## Objects -/
section
variable {X : Nat → Prop} {ms : Blocks} {L : List Ob} {w : World}

theorem Rel.box {o : Nat} {x : AV} {b tc : Nat} (h : Rel X ms L w) (hL : L[o]? = some (.box x)) (hm : ms[o]? = some (some (b, tc))) :
    ∃ arr e, w.heap[b]? = some (.cells arr e (0, 0)) ∧ AV.Is (cxOf X ms L w) x arr.toList := by
  rcases h.obs o _ hL with h' | ⟨b', tc', arr, e, h1, h2, h3⟩
  · exact absurd (hm.symm.trans h') (by simp)
  · have : some (some (b, tc)) = some (some (b', tc')) := hm.symm.trans h1
    cases this
    exact ⟨arr, e, h2, h3⟩

theorem Rel.seq {o sz n : Nat} {f : Nat → AV} {b tc : Nat} (h : Rel X ms L w) (hL : L[o]? = some (.seq sz n f)) (hm : ms[o]? = some (some (b, tc))) :
    ∃ arr e, ∃ cs : Nat → List Value, w.heap[b]? = some (.cells arr e (0, 0)) ∧ n ≤ tc ∧ arr.size = tc * sz ∧ (∀ i, i < n → AV.Is (cxOf X ms L w) (f i) (cs i)) ∧
      (∀ i, i < n → (cs i).length = sz) ∧ (∀ i, i < n → ∀ j, j < sz → arr[i * sz + j]? = (cs i)[j]?) := by
  rcases h.obs o _ hL with ⟨h', _⟩ | ⟨b', tc', arr, e, cs, h1, h2, h3⟩
  · exact absurd (hm.symm.trans h') (by simp)
  · have : some (some (b, tc)) = some (some (b', tc')) := hm.symm.trans h1
    cases this
    exact ⟨arr, e, cs, h2, h3⟩
end

/-- What lies in an object, behind a path. -/
def Ob.get : Ob → List Stp → Option AV
  | .box a, p => a.get p
  | .seq sz _ f, .x i sz' :: r => if sz = sz' then (f i).get r else none
  | _, _ => none

def Ob.getC : Ob → List Stp → Prop
  | .box a, p => a.getC p
  | .seq _ n f, .x i _ :: r => i < n ∧ (f i).getC r
  | _, _ => True

theorem Rel.get {X : Nat → Prop} {ms : Blocks} {L : List Ob} {w : World} (h : Rel X ms L w) {o : Nat} {obj : Ob} {b tc : Nat} {p : List Stp} {x : AV}
    (hL : L[o]? = some obj) (hm : ms[o]? = some (some (b, tc))) (hx : obj.get p = some x) (hc : obj.getC p) :
    ∃ arr e k, w.heap[b]? = some (.cells arr e (0, 0)) ∧ AV.Is (cxOf X ms L w) x k ∧ At arr.toList (pathOff p) k := by
  unfold Ob.get at hx
  split at hx
  · rename_i a
    obtain ⟨arr, e, h1, h2⟩ := h.box hL hm
    obtain ⟨k, h3, h4⟩ := AV.get_is p h2 hx hc
    exact ⟨arr, e, k, h1, h3, h4⟩
  · rename_i sz n f i sz' r
    split at hx
    · rename_i hs
      subst hs
      obtain ⟨arr, e, cs, h1, h2, h3, h4, h5, h6⟩ := h.seq hL hm
      obtain ⟨hi, hc⟩ := hc
      obtain ⟨k, h7, h8⟩ := AV.get_is r (h4 i hi) hx hc
      refine ⟨arr, e, k, h1, h7, ?_⟩
      have : At arr.toList (i * sz) (cs i) := fun j hj => by
        rw [Array.getElem?_toList]
        exact h6 i hi j (by rw [h5 i hi] at hj; exact hj)
      exact this.trans h8
    · cases hx
  · cases hx

/-! ## The conditions as lists, the idle ones left out -/
def AV.intoL : AV → Stp → List Prop
  | .d (.arr _ n _), .x i _ => [i < n]
  | _, _ => []
def AV.getL : AV → List Stp → List Prop
  | _, [] => []
  | a, s :: r => a.intoL s ++ match a.into s with
    | some x => x.getL r
    | none => []
theorem AV.intoL_C {a : AV} {s : Stp} (h : AllP (a.intoL s)) : a.intoC s := by
  unfold AV.intoC
  split
  · exact h.1
  · trivial
theorem AV.getL_C : ∀ {p : List Stp} {a : AV}, AllP (a.getL p) → a.getC p
  | [], _, _ => trivial
  | s :: r, a, h => by
    simp only [AV.getL, AllP_append] at h
    refine ⟨AV.intoL_C h.1, ?_⟩
    cases hs : a.into s with
    | none => trivial
    | some x => simp only [hs] at h; exact AV.getL_C h.2
def Ob.getL : Ob → List Stp → List Prop
  | .box a, p => a.getL p
  | .seq _ n f, .x i _ :: r => [i < n] ++ (f i).getL r
  | _, _ => []
theorem Ob.getL_C {o : Ob} {p : List Stp} (h : AllP (o.getL p)) : o.getC p := by
  cases o with
  | box a => exact AV.getL_C h
  | seq sz n f =>
    cases p with
    | nil => trivial
    | cons s r =>
      cases s with
      | f i o => trivial
      | x i s =>
        have := AllP_append.1 h
        exact ⟨this.1.1, AV.getL_C this.2⟩
  | map es => trivial
  | dead => trivial
  | unb => trivial
def Ob.live : Ob → Nat → List Prop
  | .box _, 1 => []
  | .map _, 0 => []
  | .seq _ n _, st => [n = st]
  | _, _ => [False]
theorem Ob.live_C {o : Ob} {st : Nat} (h : AllP (o.live st)) : o.stamp = some st := by
  unfold Ob.live at h
  split at h
  · rfl
  · rfl
  · rw [← h.1]; rfl
  · exact h.1.elim

/-! ## load -/
def vLoad (P : Program) (L : List Ob) (t : TypeId) : AV → Option (AV × List Prop)
  | .imm y => if aggTy P t = some (AV.d y).isAgg ∧ szOf P t = some y.wd then some (.d y, []) else none
  | .ptr o st p => match L[o]? with
    | some obj => match obj.get p with
        | some x => if aggTy P t = some x.isAgg ∧ szOf P t = some x.wd then some (x, obj.live st ++ obj.getL p) else none
        | none => none
    | none => none
  | _ => none

theorem vLoad_ok {P : Program} {X : Nat → Prop} {ms : Blocks} {L : List Ob} {w : World} (h : Rel X ms L w) {t : TypeId} {a av : AV} {C : List Prop} {u : Value}
    (hv : vLoad P L t a = some (av, C)) (hc : AllP C) (ha : AV.IsV (cxOf X ms L w) a u) :
    ∃ v, (Instr.loadAt t u).run P w = .ok v w ∧ AV.IsV (cxOf X ms L w) av v := by
  unfold vLoad at hv
  split at hv
  · rename_i y
    split at hv
    · rename_i hty
      cases hv
      have ha' := IsV.is1 (av := .imm y) rfl (by simp) (by simp) ha
      cases ha' with
      | imm _ b off arr cs hb hy hcs =>
      obtain ⟨_, _, e, fz, hh⟩ := memOf_some hb
      have hl := hy.len
      obtain ⟨v, h1, h2⟩ := loadVar_ok (P := P) (w := w) (k := cs) (b := b) (off := off) hty.1 (by rw [hty.2, hl])
        (fun j hj => by rw [cell_mk hh]; exact hcs j hj) (fun hg => nonAgg_one (.d _ _ hy) hg)
      exact ⟨v, by simpa [Instr.loadAt, Instr.sureAddr] using h1, isV_of_load (.d _ _ hy) rfl h2⟩
    · cases hv
  · rename_i o st p
    split at hv
    · rename_i obj hL
      split at hv
      · rename_i x hx
        split at hv
        · rename_i hty
          cases hv
          have hst := Ob.live_C (AllP_append.1 hc).1
          have ha' := IsV.is1 (av := .ptr o st p) rfl (by simp) (by simp) ha
          cases ha' with
          | ptr _ _ _ _ hp =>
          obtain ⟨_, _, _, hp⟩ := hp
          obtain ⟨b, tc, hm, rfl⟩ := hp obj hL hst
          obtain ⟨arr, e, k, h1, h2, h3⟩ := h.get hL hm hx (Ob.getL_C (AllP_append.1 hc).2)
          obtain ⟨v, h4, h5⟩ := loadVar_ok (P := P) (w := w) (k := k) (b := b) (off := pathOff p) hty.1 (by rw [hty.2, h2.len])
            (fun j hj => by rw [cell_mk h1, ← Array.getElem?_toList]; exact h3 j hj) (fun hg => nonAgg_one h2 hg)
          exact ⟨v, by simpa [Instr.loadAt, Instr.sureAddr] using h4, isV_of_load h2 rfl h5⟩
        · cases hv
      · cases hv
    · cases hv
  · cases hv

/-! ## fieldAddr, indexAddr, field, index -/
def fieldOf (P : Program) (s : TypeId) (f : Nat) : Option Field := match P.underlying s with
  | some (.struct fields) => fields[f]?
  | _ => none

def vFieldAddr (P : Program) (L : List Ob) (s : TypeId) (f : Nat) (a : AV) : Option (AV × List Prop) :=
  match fieldOf P s f with
  | some fd => if szOf P fd.type = some 0 ∨ szOf P fd.type = none then none else match a with
    | .imm y => match (AV.d y).into (.f f fd.offset) with
      | some (.d z) => some (.imm z, [])
      | _ => none
    | .ptr o st p => match L[o]? with
      | some obj => some (.ptr o st (p ++ [.f f fd.offset]), obj.live st)
      | none => none
    | _ => none
  | none => none

theorem pathOff_append (p q : List Stp) : pathOff (p ++ q) = pathOff p + pathOff q := by
  induction p with
  | nil => simp [pathOff]
  | cons s r ih => simp [pathOff, ih, Nat.add_assoc]

theorem run_fieldAt {P : Program} {w : World} {s : TypeId} {f : Nat} {fd : Field} {b off : Nat} (h : fieldOf P s f = some fd) (hz : ¬ (szOf P fd.type = some 0 ∨ szOf P fd.type = none)) :
    (Instr.fieldAt s (.pointer (some ⟨b, off, none⟩)) f).run P w = .ok (.pointer (some ⟨b, off + fd.offset, none⟩)) w := by
  unfold fieldOf at h
  split at h
  · rename_i fields hu
    cases hs : szOf P fd.type with
    | none => exact absurd (.inr hs) hz
    | some n =>
      have hn : n ≠ 0 := fun e => hz (.inl (by rw [hs, e]))
      simp [Instr.fieldAt, run_und hu w, h, Instr.sureAddr, fieldPlace, run_sz hs w, hn, add_mk]
  · cases h

theorem vFieldAddr_ok {P : Program} {c : Cx} {w : World} {s : TypeId} {f : Nat} {a av : AV} {C : List Prop} {u : Value}
    (hv : vFieldAddr P c.L s f a = some (av, C)) (hc : AllP C) (ha : AV.IsV c a u) :
    ∃ v, (Instr.fieldAt s u f).run P w = .ok v w ∧ AV.IsV c av v := by
  unfold vFieldAddr at hv
  split at hv
  · rename_i fd hfd
    split at hv
    · cases hv
    · rename_i hz
      split at hv
      · rename_i y
        have ha' := IsV.is1 (av := .imm y) rfl (by simp) (by simp) ha
        cases ha' with
        | imm _ b off arr cs hb hy hcs =>
        split at hv
        · rename_i z hz'
          cases hv
          obtain ⟨k, h1, h2⟩ := AV.into_is (c := c) (.d _ _ hy) hz' (by unfold AV.intoC; split <;> first | trivial | (rename_i he; cases he))
          cases h1 with
          | d _ _ h1 =>
          refine ⟨_, run_fieldAt hfd hz, .one _ _ rfl (.imm z b (off + fd.offset) arr k hb h1 (fun j hj => ?_))⟩
          have hat : At arr.toList off cs := fun j hj => by rw [Array.getElem?_toList]; exact hcs j hj
          have := hat.trans h2 j hj
          rw [Array.getElem?_toList] at this
          exact this
        · cases hv
      · rename_i o st p
        split at hv
        · rename_i obj hL
          cases hv
          have hst := Ob.live_C hc
          have ha' := IsV.is1 (av := .ptr o st p) rfl (by simp) (by simp) ha
          cases ha' with
          | ptr _ _ _ _ hp =>
          obtain ⟨h1, h2, h0, h3⟩ := hp
          obtain ⟨b, tc, hm, rfl⟩ := h3 obj hL hst
          refine ⟨_, run_fieldAt hfd hz, .one _ _ rfl (.ptr _ _ _ _ ⟨h1, ⟨_, rfl⟩, h0, fun obj hL hst => ?_⟩)⟩
          obtain ⟨b', tc', hm', he⟩ := h3 obj hL hst
          cases he
          exact ⟨b, tc', hm', by rw [pathOff_append]; simp [pathOff, Stp.off]⟩
        · cases hv
      · cases hv
  · cases hv
end Go.TA

namespace Go.TA
open Go

/-! ## indexAddr -/
def vIndexAddr (P : Program) (L : List Ob) (t : TypeId) (x : AV) (i : Int) : Option (AV × List Prop) :=
  match P.underlying t with
  | some (.slice elem) => match szOf P elem with
    | some sz => match x with
      | .d (.sl n f) => if (f i.toNat).wd = sz then some (.imm (f i.toNat), [0 ≤ i, i.toNat < n]) else none
      | .full n f => if (f i.toNat).wd = sz then some (.imm (f i.toNat), [0 ≤ i, i.toNat < n]) else none
      | .ref o st off n => match L[o]? with
        | some (.seq sz' m _) => if sz' = sz then some (.ptr o st [.x (off + i.toNat) sz], [m = st, 0 ≤ i, i.toNat < n]) else none
        | _ => none
      | _ => none
    | none => none
  | some (.array len elem) => match szOf P elem with
    | some sz => match x with
      | .imm (.arr sz' n f) => if sz' = sz ∧ n = len then some (.imm (f i.toNat), [0 ≤ i, i.toNat < len]) else none
      | .ptr o st p => match L[o]? with
        | some obj => some (.ptr o st (p ++ [.x i.toNat sz]), obj.live st ++ [0 ≤ i, i.toNat < len])
        | none => none
      | _ => none
    | none => none
  | _ => none

theorem run_indexAt_slice {P : Program} {w : World} {t elem : TypeId} {sz n cap b off : Nat} {k : IntKind} {i : Int} (hu : P.underlying t = some (.slice elem)) (hs : szOf P elem = some sz)
    (h0 : 0 ≤ i) (h1 : i.toNat < n) :
    (Instr.indexAt t (.slice (some ⟨b, off, none⟩) n cap) (.int k i)).run P w = .ok (.pointer (some ⟨b, off + i.toNat * sz, none⟩)) w := by
  have h2 : 0 ≤ i ∧ i < (n : Int) := ⟨h0, by omega⟩
  simp [Instr.indexAt, asIntOf, run_und hu w, run_sz hs w, h2, add_mk]

theorem run_indexAt_array {P : Program} {w : World} {t elem : TypeId} {sz len b off : Nat} {k : IntKind} {i : Int} (hu : P.underlying t = some (.array len elem)) (hs : szOf P elem = some sz)
    (h0 : 0 ≤ i) (h1 : i.toNat < len) :
    (Instr.indexAt t (.pointer (some ⟨b, off, none⟩)) (.int k i)).run P w = .ok (.pointer (some ⟨b, off + i.toNat * sz, none⟩)) w := by
  have h2 : 0 ≤ i ∧ i < (len : Int) := ⟨h0, by omega⟩
  simp [Instr.indexAt, asIntOf, run_und hu w, run_sz hs w, h2, add_mk, Instr.sureAddr]

/-- An element of an immutable slice. -/
theorem sl_elem {M : Mem} {n i : Nat} {f : Nat → DV} {v : Value} (h : DV.Is M (.sl n f) [v]) (hi : i < n) :
    ∃ b off cap arr cs, v = .slice (some ⟨b, off, none⟩) n cap ∧ n ≤ cap ∧ M b = some arr ∧ DV.Is M (f i) cs ∧ At arr.toList (off + i * (f i).wd) cs := by
  cases h with
  | slNil => omega
  | slEmpty => omega
  | sl _ _ b off cap sz arr cs h1 h2 hb h hl hc =>
    have hw : sz = (f i).wd := by rw [← hl i hi, (h i hi).len]
    subst hw
    refine ⟨b, off, cap, arr, cs i, rfl, h1, hb, h i hi, fun j hj => ?_⟩
    rw [Array.getElem?_toList]
    exact hc i hi j (by rw [hl i hi] at hj; exact hj)

theorem vIndexAddr_sl {P : Program} {c : Cx} {w : World} {t elem : TypeId} {n sz : Nat} {f : Nat → DV} {u : Value} {k : IntKind} {i : Int} (hu : P.underlying t = some (.slice elem))
    (hs : szOf P elem = some sz) (hw : (f i.toNat).wd = sz) (h0 : 0 ≤ i) (h1 : i.toNat < n) (ha : DV.Is c.M (.sl n f) [u]) :
    ∃ v, (Instr.indexAt t u (.int k i)).run P w = .ok v w ∧ AV.IsV c (.imm (f i.toNat)) v := by
  obtain ⟨b, off, cap, arr, cs, rfl, _, hb, he, hat⟩ := sl_elem ha h1
  refine ⟨_, run_indexAt_slice hu hs h0 h1, .one _ _ rfl (.imm _ b _ arr cs hb he (fun j hj => ?_))⟩
  rw [← hw, ← Array.getElem?_toList]
  exact hat j hj

theorem vIndexAddr_ok {P : Program} {c : Cx} {w : World} {t : TypeId} {a av : AV} {k : IntKind} {i : Int} {C : List Prop} {u : Value}
    (hv : vIndexAddr P c.L t a i = some (av, C)) (hc : AllP C) (ha : AV.IsV c a u) :
    ∃ v, (Instr.indexAt t u (.int k i)).run P w = .ok v w ∧ AV.IsV c av v := by
  unfold vIndexAddr at hv
  split at hv
  · rename_i elem hu
    split at hv
    · rename_i sz hs
      split at hv
      · split at hv
        · rename_i hw
          cases hv
          have ha' := IsV.is1 rfl (by simp) (by simp) ha
          cases ha' with
          | d _ _ ha' => exact vIndexAddr_sl hu hs hw hc.1 hc.2.1 ha'
        · cases hv
      · split at hv
        · rename_i hw
          cases hv
          have ha' := IsV.is1 rfl (by simp) (by simp) ha
          cases ha' with
          | full _ _ _ ha' => exact vIndexAddr_sl hu hs hw hc.1 hc.2.1 ha'
        · cases hv
      · rename_i o st off n
        split at hv
        · rename_i sz' m g hL
          split at hv
          · rename_i hsz
            subst hsz
            cases hv
            obtain ⟨rfl, h0, h1, _⟩ := hc
            have ha' := IsV.is1 rfl (by simp) (by simp) ha
            cases ha' with
            | ref _ _ _ _ _ hr =>
            obtain ⟨r1, ⟨ra, rcap, r2⟩, r3, r4⟩ := hr
            obtain ⟨r5, r6⟩ := r4 sz' g hL
            rcases r6 with ⟨_, ra', r6⟩ | ⟨_, r6⟩ | ⟨b, tc, r6, r7, r8⟩
            · rw [r6] at r2; cases r2; omega
            · omega
            · subst r8
              refine ⟨_, run_indexAt_slice hu hs h0 h1, .one _ _ rfl (.ptr _ _ _ _ ⟨r1, ⟨_, rfl⟩, r3, fun obj hL' hst => ⟨b, tc, r6, ?_⟩⟩)⟩
              simp [pathOff, Stp.off, Nat.add_mul]
          · cases hv
        · cases hv
      · cases hv
    · cases hv
  · rename_i len elem hu
    split at hv
    · rename_i sz hs
      split at hv
      · rename_i sz' n f
        split at hv
        · rename_i hsz
          obtain ⟨rfl, rfl⟩ := hsz
          cases hv
          have ha' := IsV.is1 rfl (by simp) (by simp) ha
          cases ha' with
          | imm _ b off arr cs hb hy hcs =>
          obtain ⟨l, h1, h2⟩ := AV.into_is (c := c) (s := .x i.toNat sz') (x := .d (f i.toNat)) (.d _ _ hy) (by simp [AV.into]) hc.2.1
          cases h1 with
          | d _ _ h1 =>
          refine ⟨_, run_indexAt_array hu hs hc.1 hc.2.1, .one _ _ rfl (.imm _ b _ arr l hb h1 (fun j hj => ?_))⟩
          have hat : At arr.toList off cs := fun j hj => by rw [Array.getElem?_toList]; exact hcs j hj
          have := hat.trans h2 j hj
          rw [Array.getElem?_toList] at this
          exact this
        · cases hv
      · rename_i o st p
        split at hv
        · rename_i obj hL
          cases hv
          obtain ⟨hl, h0, h1, _⟩ := AllP_append.1 hc
          have hst := Ob.live_C hl
          have ha' := IsV.is1 rfl (by simp) (by simp) ha
          cases ha' with
          | ptr _ _ _ _ hp =>
          obtain ⟨p1, p2, p0, p3⟩ := hp
          obtain ⟨b, tc, hm, rfl⟩ := p3 obj hL hst
          refine ⟨_, run_indexAt_array hu hs h0 h1, .one _ _ rfl (.ptr _ _ _ _ ⟨p1, ⟨_, rfl⟩, p0, fun obj hL hst => ?_⟩)⟩
          obtain ⟨b', tc', hm', he⟩ := p3 obj hL hst
          cases he
          exact ⟨b, tc', hm', by rw [pathOff_append]; simp [pathOff, Stp.off]⟩
        · cases hv
      · cases hv
    · cases hv
  · cases hv

/-! ## field, index: of values -/
theorem part_ok {P : Program} {w : World} {t : TypeId} {cs k : List Value} {off : Nat} {g : Bool} (hag : aggTy P t = some g) (hsz : szOf P t = some k.length)
    (hat : At cs off k) (h1 : g = false → ∃ v, k = [v]) (hle : off + k.length ≤ cs.length) :
    ∃ u, (part t cs.toArray off).run P w = .ok u w ∧ ((g = true ∧ u = .agg k.toArray) ∨ (g = false ∧ k = [u])) := by
  cases g with
  | true =>
    refine ⟨.agg k.toArray, ?_, .inl ⟨rfl, rfl⟩⟩
    have : (cs.drop off).take k.length = k := by
      apply List.ext_getElem?
      intro j
      by_cases hj : j < k.length
      · rw [List.getElem?_take_of_lt hj, List.getElem?_drop]
        exact hat j hj
      · rw [List.getElem?_eq_none (by simp; omega), List.getElem?_eq_none (by omega)]
    simp [part, run_agg hag w, run_sz hsz w, this]
  | false =>
    obtain ⟨v, rfl⟩ := h1 rfl
    refine ⟨v, ?_, .inr ⟨rfl, rfl⟩⟩
    have := hat 0 (by simp)
    simp only [Nat.add_zero, List.getElem?_cons_zero] at this
    simp [part, run_agg hag w, this]

def vField (P : Program) (t : TypeId) (f : Nat) (a : AV) : Option (AV × List Prop) :=
  match fieldOf P t f with
  | some fd => match a.into (.f f fd.offset) with
    | some x => if aggTy P fd.type = some x.isAgg ∧ szOf P fd.type = some x.wd ∧ a.isAgg = true ∧ 0 < x.wd then some (x, []) else none
    | none => none
  | none => none

theorem into_f_C {a x : AV} {f o : Nat} (_h : a.into (.f f o) = some x) : a.intoC (.f f o) := by
  unfold AV.intoC
  split
  · rename_i he; cases he
  · trivial

theorem vField_ok {P : Program} {c : Cx} {w : World} {t : TypeId} {f : Nat} {a av : AV} {C : List Prop} {u : Value}
    (hv : vField P t f a = some (av, C)) (ha : AV.IsV c a u) :
    ∃ v, (Instr.field t u f).run P w = .ok v w ∧ AV.IsV c av v := by
  unfold vField at hv
  split at hv
  · rename_i fd hfd
    split at hv
    · rename_i x hx
      split at hv
      · rename_i hty
        cases hv
        obtain ⟨h1, h2, h3, h4⟩ := hty
        obtain ⟨cs, rfl, hcs⟩ := IsV.is h3 ha
        obtain ⟨k, hk, hat⟩ := AV.into_is hcs hx (into_f_C hx)
        have hkl := hk.len
        obtain ⟨v, h5, h6⟩ := part_ok (P := P) (w := w) (cs := cs) (off := fd.offset) h1 (by rw [h2, hkl]) hat (fun hg => nonAgg_one hk hg) (hat.le (by omega))
        refine ⟨v, ?_, isV_of_load hk rfl h6⟩
        unfold fieldOf at hfd
        split at hfd
        · rename_i fields hu
          simp [Instr.field, run_und hu w, hfd, asAgg, h5]
        · cases hfd
      · cases hv
    · cases hv
  · cases hv

def vIndex (P : Program) (t : TypeId) (a : AV) (i : Int) : Option (AV × List Prop) :=
  match P.underlying t with
  | some (.array len elem) => match a with
    | .d (.arr sz n f) => if szOf P elem = some sz ∧ n = len ∧ aggTy P elem = some (AV.d (f i.toNat)).isAgg ∧ 0 < sz then some (.d (f i.toNat), [0 ≤ i, i.toNat < len]) else none
    | _ => none
  | some .string => match a with
    | .d (.str l) => some (.d (.i .u8 (l.getD i.toNat 0).toNat), [0 ≤ i, i.toNat < l.length])
    | _ => none
  | _ => none

theorem vIndex_ok {P : Program} {c : Cx} {w : World} {t : TypeId} {a av : AV} {k : IntKind} {i : Int} {C : List Prop} {u : Value}
    (hv : vIndex P t a i = some (av, C)) (hc : AllP C) (ha : AV.IsV c a u) :
    ∃ v, (Instr.index t u (.int k i)).run P w = .ok v w ∧ AV.IsV c av v := by
  unfold vIndex at hv
  split at hv
  · rename_i len elem hu
    split at hv
    · rename_i sz n f
      split at hv
      · rename_i hty
        obtain ⟨h1, rfl, h2, h3⟩ := hty
        cases hv
        obtain ⟨h0, h4, _⟩ := hc
        obtain ⟨cs, rfl, hcs⟩ := IsV.is rfl ha
        obtain ⟨l, hl, hat⟩ := AV.into_is (s := .x i.toNat sz) (x := .d (f i.toNat)) hcs (by simp [AV.into]) h4
        have hll : l.length = sz := by
          cases hcs with
          | d _ _ hcs =>
          cases hcs with
          | arr _ _ _ ks h hl' =>
          cases hl with
          | d _ _ hl => rw [hl.len, ← (h _ h4).len, hl' _ h4]
        obtain ⟨v, h5, h6⟩ := part_ok (P := P) (w := w) (cs := cs) (off := i.toNat * sz) h2 (by rw [h1, hll]) hat (fun hg => nonAgg_one hl hg) (hat.le (by omega))
        refine ⟨v, ?_, isV_of_load hl rfl h6⟩
        have h7 : 0 ≤ i ∧ i < (n : Int) := ⟨h0, by omega⟩
        simp [Instr.index, asIntOf, run_und hu w, run_sz h1 w, h7, h5]
      · cases hv
    · cases hv
  · rename_i hu
    split at hv
    · rename_i l
      cases hv
      obtain ⟨h0, h4, _⟩ := hc
      rw [IsV.str ha]
      refine ⟨_, ?_, mk_i _ _⟩
      have h5 : (ByteArray.mk l.toArray)[i.toNat]? = some (l.getD i.toNat 0) := by
        have hsz : i.toNat < (ByteArray.mk l.toArray).size := by simpa [ByteArray.size] using h4
        rw [ByteArray.getElem?_lt' _ _ hsz]
        simp [List.getD_eq_getElem?_getD, List.getElem?_eq_getElem h4]
        rfl
      simp [Instr.index, asIntOf, run_und hu w, h0, h5]
    · cases hv
  · cases hv
end Go.TA

namespace Go.TA
open Go

/-! ## slices of slices and strings -/
def loN : Option Int → Nat
  | some v => v.toNat
  | none => 0
def hiN (n : Nat) : Option Int → Nat
  | some v => v.toNat
  | none => n
def signC : Option Int → List Prop
  | some v => [0 ≤ v]
  | none => []
def cutF {α : Type} (f : Nat → α) : Option Int → Nat → α
  | some v => fun j => f (v.toNat + j)
  | none => f
def boundC (n : Nat) (lo hi : Option Int) : List Prop :=
  signC lo ++ (signC hi ++ ((if lo.isSome then [loN lo ≤ hiN n hi] else []) ++ (if hi.isSome then [hiN n hi ≤ n] else [])))

theorem boundC_spec {n : Nat} {lo hi : Option Int} (h : AllP (boundC n lo hi)) :
    (∀ v, lo = some v → 0 ≤ v) ∧ (∀ v, hi = some v → 0 ≤ v) ∧ loN lo ≤ hiN n hi ∧ hiN n hi ≤ n := by
  unfold boundC at h
  rw [AllP_append, AllP_append, AllP_append] at h
  obtain ⟨h1, h2, h3, h4⟩ := h
  refine ⟨fun v e => ?_, fun v e => ?_, ?_, ?_⟩
  · subst e; exact h1.1
  · subst e; exact h2.1
  · cases lo with
    | none => exact Nat.zero_le _
    | some v => simpa [AllP] using h3
  · cases hi with
    | none => exact Nat.le_refl _
    | some v => simpa [AllP] using h4

theorem run_sliceBound {P : Program} {w : World} {k : IntKind} {v : Int} {y : Nat} {code : BoundsCode} (h : 0 ≤ v) (h' : v.toNat ≤ y) :
    (Instr.sliceBound (.int k v) y code).run P w = .ok v.toNat w := by
  have h2 : 0 ≤ v ∧ v ≤ (y : Int) := ⟨h, by omega⟩
  simp [Instr.sliceBound, asIntOf, h2]

theorem run_sliceBounds {P : Program} {w : World} {s : Bool} {n cap : Nat} {lo hi mx : Option Int} {kl kh km : IntKind}
    (hlo : ∀ v, lo = some v → 0 ≤ v) (hhi : ∀ v, hi = some v → 0 ≤ v) (h1 : loN lo ≤ hiN n hi) (h2 : hiN n hi ≤ n) (h3 : n ≤ cap)
    (hm : ∀ v, mx = some v → 0 ≤ v ∧ hiN n hi ≤ v.toNat ∧ v.toNat ≤ cap ∧ hi.isSome = true) :
    (Instr.sliceBounds s n cap (lo.map (Value.int kl)) (hi.map (Value.int kh)) (mx.map (Value.int km))).run P w = .ok (loN lo, hiN n hi, hiN cap mx) w := by
  unfold Instr.sliceBounds
  cases mx with
  | none =>
    cases hi with
    | none =>
      cases lo with
      | none => simp [loN, hiN]
      | some l =>
        have := run_sliceBound (P := P) (w := w) (k := kl) (code := .sliceB) (hlo l rfl) (y := n) (by simpa [loN, hiN] using h1)
        simp [loN, hiN, this]
    | some u =>
      have hu := run_sliceBound (P := P) (w := w) (k := kh) (code := if s then .sliceAcap else .sliceAlen) (hhi u rfl) (y := cap) (by simp [hiN] at h2; omega)
      cases lo with
      | none => simp [loN, hiN, hu]
      | some l =>
        have := run_sliceBound (P := P) (w := w) (k := kl) (code := .sliceB) (hlo l rfl) (y := u.toNat) (by simpa [loN, hiN] using h1)
        simp [loN, hiN, this, hu]
  | some m =>
    obtain ⟨m0, m1, m2, m3⟩ := hm m rfl
    have hm' := run_sliceBound (P := P) (w := w) (k := km) (code := if s then .slice3Acap else .slice3Alen) m0 m2
    cases hi with
    | none => cases m3
    | some u =>
      have hu := run_sliceBound (P := P) (w := w) (k := kh) (code := .slice3B) (hhi u rfl) (y := m.toNat) (by simpa [hiN] using m1)
      cases lo with
      | none => simp [loN, hiN, hm', hu]
      | some l =>
        have := run_sliceBound (P := P) (w := w) (k := kl) (code := .slice3C) (hlo l rfl) (y := u.toNat) (by simpa [loN, hiN] using h1)
        simp [loN, hiN, this, hm', hu]

def sliceOne (P : Program) (elem : TypeId) (lo hi mx : Option Int) (n : Nat) (f : Nat → DV) : Option (AV × List Prop) :=
  if szOf P elem = some (f (loN lo)).wd then match mx with
    | none => some (.d (.sl (hiN n hi - loN lo) (cutF f lo)), boundC n lo hi)
    | some m => match hi with
      | some h => some (.full (hiN n hi - loN lo) (cutF f lo), boundC n lo hi ++ [m = h])
      | none => none
  else none

def vSlice (P : Program) (L : List Ob) (t : TypeId) (x : AV) (lo hi mx : Option Int) : Option (AV × List Prop) :=
  match P.underlying t with
  | some .string => match x, mx with
    | .d (.str l), none => some (.d (.str ((l.drop (loN lo)).take (hiN l.length hi - loN lo))), boundC l.length lo hi)
    | _, _ => none
  | some (.slice elem) => match x with
    | .d (.sl n f) => sliceOne P elem lo hi mx n f
    | .full n f => sliceOne P elem lo hi mx n f
    | .ref o st off n => match mx with
      | none => match L[o]? with
        | some (.seq sz m _) => if szOf P elem = some sz then some (.ref o st (off + loN lo) (hiN n hi - loN lo), boundC n lo hi ++ [m = st]) else none
        | _ => none
      | some _ => none
    | _ => none
  | _ => none

theorem cutF_eq {α : Type} (f : Nat → α) (lo : Option Int) (j : Nat) : cutF f lo j = f (loN lo + j) := by
  cases lo with
  | none => simp [cutF, loN]
  | some v => rfl

theorem sl_full_len {M : Mem} {n : Nat} {f : Nat → DV} {v : Value} (h : DV.Is M (.sl n f) [v]) : ∃ a cap, v = .slice a n cap ∧ n ≤ cap := by
  cases h with
  | slNil => exact ⟨_, _, rfl, Nat.le_refl _⟩
  | slEmpty _ a cap => exact ⟨_, _, rfl, Nat.zero_le _⟩
  | sl _ _ b off cap sz arr cs h1 => exact ⟨_, _, rfl, h1⟩

theorem sl_cut {M : Mem} {n : Nat} {f : Nat → DV} {a : Option Addr} {cap : Nat} {lo hi : Option Int} {sz m : Nat} (h : DV.Is M (.sl n f) [.slice a n cap])
    (h1 : loN lo ≤ hiN n hi) (h2 : hiN n hi ≤ n) (hsz : sz = (f (loN lo)).wd) (hm1 : hiN n hi ≤ m) (hm2 : m ≤ cap) :
    DV.Is M (.sl (hiN n hi - loN lo) (cutF f lo)) [.slice (if m = loN lo then a else a.map (·.add (loN lo * sz))) (hiN n hi - loN lo) (m - loN lo)] := by
  by_cases h0 : hiN n hi - loN lo = 0
  · rw [h0]
    cases a with
    | none =>
      have hn : n = 0 := by cases h; rfl
      have hc : cap = 0 := by cases h; rfl
      have hml : m = loN lo := by omega
      simp [hml]; exact .slNil _
    | some ad =>
      by_cases hml : m = loN lo
      · simp only [if_pos hml]; exact .slEmpty _ _ _
      · simp only [if_neg hml, Option.map_some]; exact .slEmpty _ _ _
  · cases h with
    | slNil => simp [hiN] at h0 h2; omega
    | slEmpty => omega
    | sl _ _ b off cap sz' arr cs k1 k2 hb hh hl hc =>
      have hlt : loN lo < n := by omega
      have hs' : sz' = sz := by rw [hsz, ← hl _ hlt, (hh _ hlt).len]
      subst hs'
      rw [if_neg (by omega)]
      simp only [Option.map_some, add_mk]
      refine .sl _ _ b _ _ sz' arr (fun j => cs (loN lo + j)) (by omega) (by omega) hb (fun i hi' => ?_) (fun i hi' => ?_) (fun i hi' j hj => ?_)
      · rw [cutF_eq]; exact hh _ (by omega)
      · exact hl _ (by omega)
      · have := hc (loN lo + i) (by omega) j hj
        rw [← this]; congr 1
        rw [Nat.add_mul]; omega
theorem loN_of {lo : Option Int} : loN lo = loN lo := rfl

theorem vSlice_one {P : Program} {c : Cx} {w : World} {t elem : TypeId} {n : Nat} {f : Nat → DV} {lo hi mx : Option Int} {av : AV} {kl kh km : IntKind} {C : List Prop} {u : Value}
    (hu : P.underlying t = some (.slice elem)) (ha : DV.Is c.M (.sl n f) [u])
    (hv0 : sliceOne P elem lo hi mx n f = some (av, C)) (hc : AllP C) :
    ∃ v, (Instr.slice t u (lo.map (Value.int kl)) (hi.map (Value.int kh)) (mx.map (Value.int km))).run P w = .ok v w ∧ AV.IsV c av v := by
  unfold sliceOne at hv0
  split at hv0
  case isFalse => cases hv0
  rename_i hs
  have hv := hv0
  obtain ⟨a, cap, rfl, hcap⟩ := sl_full_len ha
  have hrun : ∀ (l h m : Nat), (Instr.sliceBounds true n cap (lo.map (Value.int kl)) (hi.map (Value.int kh)) (mx.map (Value.int km))).run P w = .ok (l, h, m) w →
      (Instr.slice t (.slice a n cap) (lo.map (Value.int kl)) (hi.map (Value.int kh)) (mx.map (Value.int km))).run P w =
        .ok (.slice (if m = l then a else a.map (·.add (l * (f (loN lo)).wd))) (h - l) (m - l)) w := fun l h m e => by
    simp [Instr.slice, run_und hu w, e, run_sz hs w]
  cases mx with
  | none =>
    simp only [Option.some.injEq, Prod.mk.injEq] at hv
    obtain ⟨rfl, rfl⟩ := hv
    obtain ⟨b1, b2, b3, b4⟩ := boundC_spec hc
    have hb := run_sliceBounds (P := P) (w := w) (s := true) (n := n) (cap := cap) (lo := lo) (hi := hi) (mx := none) (kl := kl) (kh := kh) (km := km) b1 b2 b3 b4 hcap (by simp)
    exact ⟨_, hrun _ _ _ hb, .one _ _ rfl (.d _ _ (sl_cut ha b3 b4 rfl (by simpa [hiN] using Nat.le_trans b4 hcap) (Nat.le_refl _)))⟩
  | some m =>
    cases hi with
    | none => cases hv
    | some h =>
      simp only [Option.some.injEq, Prod.mk.injEq] at hv
      obtain ⟨rfl, rfl⟩ := hv
      obtain ⟨hc1, hmh, _⟩ := AllP_append.1 hc
      subst hmh
      obtain ⟨b1, b2, b3, b4⟩ := boundC_spec hc1
      have hb := run_sliceBounds (P := P) (w := w) (s := true) (n := n) (cap := cap) (lo := lo) (hi := some m) (mx := some m) (kl := kl) (kh := kh) (km := km) b1 b2 b3 b4 hcap
        (fun v e => by cases e; exact ⟨b2 _ rfl, by simp [hiN], by simp [hiN] at b4; omega, rfl⟩)
      have hd := sl_cut ha b3 b4 rfl (m := hiN n (some m)) (Nat.le_refl _) (Nat.le_trans b4 hcap)
      exact ⟨_, hrun _ _ _ hb, .one _ _ rfl (.full _ _ _ hd)⟩

theorem vSlice_ok {P : Program} {c : Cx} {w : World} {t : TypeId} {a av : AV} {lo hi mx : Option Int} {kl kh km : IntKind} {C : List Prop} {u : Value}
    (hv : vSlice P c.L t a lo hi mx = some (av, C)) (hc : AllP C) (ha : AV.IsV c a u) :
    ∃ v, (Instr.slice t u (lo.map (Value.int kl)) (hi.map (Value.int kh)) (mx.map (Value.int km))).run P w = .ok v w ∧ AV.IsV c av v := by
  unfold vSlice at hv
  split at hv
  · rename_i hu
    split at hv
    · rename_i l
      cases hv
      rw [IsV.str ha]
      obtain ⟨b1, b2, b3, b4⟩ := boundC_spec hc
      have hsz : (ByteArray.mk l.toArray).size = l.length := by simp [ByteArray.size]
      have hb := run_sliceBounds (P := P) (w := w) (s := false) (n := l.length) (cap := l.length) (lo := lo) (hi := hi) (mx := none) (kl := kl) (kh := kh) (km := km) b1 b2 b3 b4 (Nat.le_refl _) (by simp)
      refine ⟨.string ((ByteArray.mk l.toArray).extract (loN lo) (hiN l.length hi)), ?_, ?_⟩
      · simp only [Option.map_none] at hb
        simp [Instr.slice, run_und hu w, hsz, hb]
      · rw [ByteArray.extract_mk]
        exact mk_str _
    · cases hv
  · rename_i elem hu
    split at hv
    · have ha' := IsV.is1 rfl (by simp) (by simp) ha
      cases ha' with
      | d _ _ ha' => exact vSlice_one hu ha' hv hc
    · have ha' := IsV.is1 rfl (by simp) (by simp) ha
      cases ha' with
      | full _ _ _ ha' => exact vSlice_one hu ha' hv hc
    · rename_i o st off n
      split at hv
      · split at hv
        · rename_i sz m g hL
          split at hv
          · rename_i hsz
            cases hv
            obtain ⟨hc1, rfl, _⟩ := AllP_append.1 hc
            obtain ⟨b1, b2, b3, b4⟩ := boundC_spec hc1
            have ha' := IsV.is1 rfl (by simp) (by simp) ha
            cases ha' with
            | ref _ _ _ _ _ hr =>
            obtain ⟨r1, ⟨ra, rcap, r2⟩, r3, r4⟩ := hr
            obtain ⟨r5, r6⟩ := r4 sz g hL
            subst r2
            have hcap : n ≤ rcap := by
              rcases r6 with ⟨_, ra', r6⟩ | ⟨_, r6⟩ | ⟨b, tc, r6, r7, r8⟩
              · cases r6; exact Nat.le_refl _
              · omega
              · cases r8; omega
            have hb := run_sliceBounds (P := P) (w := w) (s := true) (n := n) (cap := rcap) (lo := lo) (hi := hi) (mx := none) (kl := kl) (kh := kh) (km := km) b1 b2 b3 b4 hcap (by simp)
            refine ⟨.slice (if rcap = loN lo then ra else ra.map (·.add (loN lo * sz))) (hiN n hi - loN lo) (rcap - loN lo), ?_, .one _ _ rfl (.ref _ _ _ _ _ ?_)⟩
            · simp only [Option.map_none] at hb
              simp only [hiN] at hb
              simp [Instr.slice, run_und hu w, hb, run_sz hsz w]
              rfl
            · refine ⟨r1, ⟨_, _, rfl⟩, r3, fun sz' g' hL' => ⟨by omega, ?_⟩⟩
              rw [hL] at hL'
              cases hL'
              rcases r6 with ⟨r7, ra', r6⟩ | ⟨_, r6⟩ | ⟨b, tc, r6, r7, r8⟩
              · cases r6
                left
                have e1 : loN lo = 0 := by omega
                have e2 : hiN 0 hi = 0 := by omega
                exact ⟨r7, by simp [e1, e2]⟩
              · right; left
                omega
              · cases r8
                right
                by_cases h0 : tc - off = loN lo
                · by_cases h1 : off + loN lo = 0
                  · right
                    refine ⟨b, tc, r6, r7, ?_⟩
                    have e1 : off = 0 := by omega
                    have e2 : loN lo = 0 := by omega
                    simp [e1, e2, add_mk]
                  · left; omega
                · right
                  refine ⟨b, tc, r6, r7, ?_⟩
                  simp only [if_neg h0, Option.map_some, add_mk, ← Nat.add_mul, Nat.sub_sub]
          · cases hv
        · cases hv
      · cases hv
    · cases hv
  · cases hv

/-! ## len -/
def vLen (P : Program) (L : List Ob) (t : TypeId) (x : AV) : Option (AV × List Prop) :=
  match P.underlying t, x with
  | some .string, .d (.str l) => some (.d (.i .i64 l.length), [])
  | some (.slice _), .d (.sl n _) => some (.d (.i .i64 n), [])
  | some (.slice _), .full n _ => some (.d (.i .i64 n), [])
  | some (.slice _), .ref _ _ _ n => some (.d (.i .i64 n), [])
  | some (.array n _), _ => some (.d (.i .i64 n), [])
  | some (.map _ _), .d (.lit (.map none)) => some (.d (.i .i64 0), [])
  | some (.map _ _), .map o => match L[o]? with
    | some (.map es) => some (.d (.i .i64 es.length), [])
    | _ => none
  | _, _ => none

theorem EntsIs.length {c : Cx} : ∀ {es : List (DV × DV)} {r : List MapEntry}, EntsIs c es r → r.length = es.length
  | [], [], _ => rfl
  | _ :: es, _ :: r, h => by simp [EntsIs.length h.2.2]
  | [], _ :: _, h => h.elim
  | _ :: _, [], h => h.elim

theorem Rel.mapAt {X : Nat → Prop} {ms : Blocks} {L : List Ob} {w : World} (h : Rel X ms L w) {o : Nat} {es : List (DV × DV)} {b tc : Nat} (hL : L[o]? = some (.map es)) (hm : ms[o]? = some (some (b, tc))) :
    ∃ ents clock, w.heap[b]? = some (.map ents clock) ∧ EntsIs (cxOf X ms L w) es ents.toList ∧ Born es.length clock ents.toList := by
  obtain ⟨b', tc', ents, clock, h1, h2, h3⟩ := h.obs o _ hL
  have : some (some (b, tc)) = some (some (b', tc')) := hm.symm.trans h1
  cases this
  exact ⟨ents, clock, h2, h3⟩

theorem vLen_ok {P : Program} {X : Nat → Prop} {ms : Blocks} {L : List Ob} {w : World} (hr : Rel X ms L w) {t ty : TypeId} {a av : AV} {C : List Prop} {u : Value}
    (hv : vLen P L t a = some (av, C)) (ha : AV.IsV (cxOf X ms L w) a u) :
    ∃ v, (Builtin.len_ #[t] ty #[u]).run P w = .ok v w ∧ AV.IsV (cxOf X ms L w) av v := by
  unfold vLen at hv
  split at hv
  · rename_i l hu
    cases hv
    rw [IsV.str ha]
    refine ⟨.int .i64 l.length, ?_, mk_i _ _⟩
    have hsz : (ByteArray.mk l.toArray).size = l.length := by simp [ByteArray.size]
    simp [Builtin.len_, run_und hu w, goInt, hsz]
  · rename_i n f hu
    cases hv
    have ha' := IsV.is1 rfl (by simp) (by simp) ha
    cases ha' with
    | d _ _ ha' =>
    obtain ⟨a, cap, rfl, _⟩ := sl_full_len ha'
    exact ⟨.int .i64 n, by simp [Builtin.len_, run_und hu w, goInt], mk_i _ _⟩
  · rename_i n f hu
    cases hv
    have ha' := IsV.is1 rfl (by simp) (by simp) ha
    cases ha' with
    | full _ _ _ ha' => exact ⟨.int .i64 n, by simp [Builtin.len_, run_und hu w, goInt], mk_i _ _⟩
  · rename_i o st off n hu
    cases hv
    have ha' := IsV.is1 rfl (by simp) (by simp) ha
    cases ha' with
    | ref _ _ _ _ _ hr =>
    obtain ⟨r1, ⟨ra, rcap, rfl⟩, _⟩ := hr
    exact ⟨.int .i64 n, by simp [Builtin.len_, run_und hu w, goInt], mk_i _ _⟩
  · rename_i n e hu
    cases hv
    refine ⟨.int .i64 n, ?_, mk_i _ _⟩
    simp only [Builtin.len_]
    simp [run_und hu w, goInt]
  · rename_i hu
    cases hv
    have ha' := IsV.is1 rfl (by simp) (by simp) ha
    cases ha' with
    | d _ _ ha' =>
    cases ha'
    exact ⟨.int .i64 0, by simp [Builtin.len_, run_und hu w, goInt], mk_i _ _⟩
  · rename_i o hu
    split at hv
    · rename_i es hL
      cases hv
      have ha' := IsV.is1 rfl (by simp) (by simp) ha
      cases ha' with
      | map _ _ hm =>
      obtain ⟨_, _, hm⟩ := hm
      obtain ⟨b, tc, hm', rfl⟩ := hm es hL
      obtain ⟨ents, clock, h1, h2, _⟩ := hr.mapAt hL hm'
      refine ⟨.int .i64 es.length, ?_, mk_i _ _⟩
      have : (getObj b).run P w = .ok (.map ents clock) w := by simp [getObj, Sem.run, h1]
      have hl := h2.length
      simp only [Array.length_toList] at hl
      simp [Builtin.len_, run_und hu w, goInt, this, hl]
    · cases hv
  · cases hv
end Go.TA

namespace Go.TA
open Go

/-! ## zero values -/
def zeroD (P : Program) : Nat → TypeId → DV
  | 0, _ => .b false
  | n + 1, t => match P.underlying t with
    | some .bool => .b false
    | some (.int k) => .i k 0
    | some .string => .str []
    | some (.pointer _) => .lit (.pointer none)
    | some (.slice _) => .sl 0 fun _ => .b false
    | some (.map _ _) => .lit (.map none)
    | some (.func _ _ _) => .lit .nilFunc
    | some (.interface _) => .lit .nilIface
    | some (.struct fs) => .agg (fs.toList.map fun f => zeroD P n f.type)
    | some (.array len e) => .arr (zeroD P n e).wd len fun _ => zeroD P n e
    | _ => .b false

def catO : List (Option (List Value)) → Option (List Value)
  | [] => some []
  | some c :: r => match catO r with
    | some cs => some (c ++ cs)
    | none => none
  | none :: _ => none

/-- The cells of a zero value. -/
def zeroC (P : Program) : Nat → TypeId → Option (List Value)
  | 0, _ => none
  | n + 1, t => match P.underlying t with
    | some .bool => some [.bool false]
    | some (.int k) => some [.int k 0]
    | some .string => some [.string ⟨#[]⟩]
    | some (.pointer _) => some [.pointer none]
    | some (.slice _) => some [.slice none 0 0]
    | some (.map _ _) => some [.map none]
    | some (.func _ _ _) => some [.nilFunc]
    | some (.interface _) => some [.nilIface]
    | some (.struct fs) => catO (fs.toList.map fun f => zeroC P n f.type)
    | some (.array len e) => match zeroC P n e with
      | some c => some ((List.range len).flatMap fun _ => c)
      | none => none
    | _ => none

theorem catO_is {M : Mem} {α : Type} (g : α → DV) (h : α → Option (List Value)) (hh : ∀ a c, h a = some c → DV.Is M (g a) c) : ∀ (l : List α) (cs : List Value),
    catO (l.map h) = some cs → DV.IsL M (l.map g) cs
  | [], cs, e => by simp [catO] at e; subst e; exact .nil
  | a :: l, cs, e => by
    simp only [List.map_cons] at e
    cases ha : h a with
    | none => simp [catO, ha] at e
    | some c =>
      simp only [ha, catO] at e
      cases hr : catO (l.map h) with
      | none => simp [hr] at e
      | some r =>
        simp [hr] at e
        subst e
        exact .cons _ _ _ _ (hh a c ha) (catO_is g h hh l r hr)

theorem zeroC_is {P : Program} {M : Mem} : ∀ (n : Nat) (t : TypeId) (cs : List Value), zeroC P n t = some cs → DV.Is M (zeroD P n t) cs
  | 0, t, cs, h => by simp [zeroC] at h
  | n + 1, t, cs, h => by
    unfold zeroC at h
    unfold zeroD
    split at h
    case h_11 => cases h
    case h_9 fs _ =>
      exact .agg _ _ (catO_is _ _ (fun f c hc => zeroC_is n f.type c hc) _ _ h)
    case h_10 len e _ =>
      split at h
      · rename_i c hc
        cases h
        have := zeroC_is (M := M) n e c hc
        exact .arr _ _ _ (fun _ => c) (fun _ _ => this) (fun _ _ => this.len)
      · cases h
    all_goals
      cases h
    · exact .b false
    · exact .i _ 0
    · exact .str []
    · exact .lit _ rfl
    · exact .slNil _
    · exact .lit _ rfl
    · exact .lit _ rfl
    · exact .lit _ rfl

def valEqB : Value → Value → Bool
  | .bool a, .bool b => a == b
  | .int k a, .int k' b => k == k' && a == b
  | .string a, .string b => a.data.toList == b.data.toList
  | .pointer none, .pointer none => true
  | .map none, .map none => true
  | .slice none 0 0, .slice none 0 0 => true
  | .nilFunc, .nilFunc => true
  | .nilIface, .nilIface => true
  | _, _ => false

theorem valEqB_eq {a b : Value} (h : valEqB a b = true) : a = b := by
  unfold valEqB at h
  split at h <;> first | rfl | (cases h; done) | skip
  · rw [beq_iff_eq] at h; rw [h]
  · rw [Bool.and_eq_true, beq_iff_eq, beq_iff_eq] at h; rw [h.1, h.2]
  · rename_i a b
    rw [beq_iff_eq] at h
    obtain ⟨⟨a⟩⟩ := a
    obtain ⟨⟨b⟩⟩ := b
    simp only at h
    rw [h]

def valsEqB : List Value → List Value → Bool
  | [], [] => true
  | a :: as, b :: bs => valEqB a b && valsEqB as bs
  | _, _ => false

theorem valsEqB_eq : ∀ {a b : List Value}, valsEqB a b = true → a = b
  | [], [], _ => rfl
  | a :: as, b :: bs, h => by
    simp only [valsEqB, Bool.and_eq_true] at h
    rw [valEqB_eq h.1, valsEqB_eq h.2]
  | [], _ :: _, h => by cases h
  | _ :: _, [], h => by cases h

def isAggV : Value → Bool
  | .agg _ => true
  | _ => false

/-- The zero value of a type, if the table's is that. -/
def zeroOf (P : Program) (t : TypeId) : Option DV :=
  match (P.info? t).bind (·.zero), zeroC P 12 t with
  | some z, some cs => if valsEqB z.cells.toList cs && (isAggV z == (AV.d (zeroD P 12 t)).isAgg) then some (zeroD P 12 t) else none
  | _, _ => none

theorem zeroOf_is {P : Program} {t : TypeId} {x : DV} (h : zeroOf P t = some x) : ∃ z, (∀ w, (zeroValue t).run P w = .ok z w) ∧ (∀ c, AV.IsV c (.d x) z) := by
  unfold zeroOf at h
  split at h
  · rename_i z cs hz hcs
    split at h
    · rename_i hb
      cases h
      rw [Bool.and_eq_true] at hb
      have e := valsEqB_eq hb.1
      have ea : isAggV z = (AV.d (zeroD P 12 t)).isAgg := by simpa using hb.2
      refine ⟨z, fun w => ?_, fun c => ?_⟩
      · cases hi : P.info? t with
        | none => simp [hi] at hz
        | some i =>
          simp [hi] at hz
          simp [zeroValue, typeInfo, hi, hz]
      · have hd : DV.Is c.M (zeroD P 12 t) z.cells.toList := by rw [e]; exact zeroC_is 12 t cs hcs
        cases hg : (AV.d (zeroD P 12 t)).isAgg with
        | true =>
          rw [hg] at ea
          cases z <;> simp [isAggV] at ea
          rename_i cells
          have := AV.IsV.agg (c := c) _ _ hg (.d _ _ hd)
          simpa [Value.cells] using this
        | false =>
          rw [hg] at ea
          have hz1 : z.cells = #[z] := by cases z <;> first | rfl | simp [isAggV] at ea
          rw [hz1] at hd
          exact .one _ _ hg (.d _ _ (by simpa using hd))
    · cases h
  · cases h

/-! ## build -/
def setParts (offs : Nat → Option (Stp × Nat)) : List (Nat × AV) → AV → Option AV
  | [], a => some a
  | (i, v) :: r, a => match offs i with
    | some (s, sz) => if v.solid = true ∧ v.wd = sz ∧ 0 < sz then (a.set [s] v).bind (setParts offs r) else none
    | none => none

def partsL (offs : Nat → Option (Stp × Nat)) : List (Nat × AV) → AV → List Prop
  | [], _ => []
  | (i, v) :: r, a => match offs i with
    | some (s, _) => a.getL [s] ++ match a.set [s] v with
      | some a' => partsL offs r a'
      | none => []
    | none => []

theorem foldl_splice (l : List Value) (cs : List Value) (off : Nat) (h : off + l.length ≤ cs.length) :
    (l.toArray.zipIdx.foldl (fun (cs : Array Value) (x : Value × Nat) => cs.setIfInBounds (off + x.2) x.1) cs.toArray) = (splice cs off l).toArray := by
  have key : ∀ (l : List Value) (k : Nat) (cs : List Value), off + k + l.length ≤ cs.length →
      ((l.zipIdx k).foldl (fun (cs : Array Value) (x : Value × Nat) => cs.setIfInBounds (off + x.2) x.1) cs.toArray) = (splice cs (off + k) l).toArray := by
    intro l
    induction l with
    | nil => intro k cs _; simp [splice]
    | cons v l ih =>
      intro k cs hk
      simp only [List.zipIdx_cons, List.foldl_cons]
      have e1 : cs.toArray.setIfInBounds (off + k) v = (cs.set (off + k) v).toArray := by simp
      rw [e1, ih (k + 1) (cs.set (off + k) v) (by simp at hk ⊢; omega)]
      congr 1
      apply List.ext_getElem?
      intro j
      simp only [List.length_cons] at hk
      rw [splice_getElem? (cs := cs.set (off + k) v) (k := l) (by simp; omega), splice_getElem? (cs := cs) (k := v :: l) (by simp; omega)]
      simp only [List.length_cons]
      by_cases h1 : off + k ≤ j ∧ j < off + k + (l.length + 1)
      · rw [if_pos h1]
        by_cases h2 : j = off + k
        · subst h2
          rw [if_neg (by omega), List.getElem?_set_self (by omega), Nat.sub_self]
          rfl
        · rw [if_pos (by omega), show j - (off + k) = (j - (off + (k + 1))) + 1 by omega]
          simp
      · rw [if_neg h1, if_neg (by omega), List.getElem?_set_ne (by omega)]
  have := key l 0 cs (by simpa using h)
  simpa using this

/-- Parts: their numbers, what they are, what they are in the run. -/
def PartsIs (c : Cx) : List (Nat × AV) → List (Nat × Value) → Prop
  | [], [] => True
  | (i, av) :: r, (j, v) :: s => i = j ∧ AV.IsV c av v ∧ PartsIs c r s
  | _, _ => False

theorem setParts_fill {c : Cx} {place : Nat → Option (Nat × Nat)} {offs : Nat → Option (Stp × Nat)}
    (hp : ∀ i s sz, offs i = some (s, sz) → place i = some (s.off, sz)) : ∀ (parts : List (Nat × AV)) (vs : List (Nat × Value)) (a a' : AV) (cs : List Value),
    PartsIs c parts vs → AV.Is c a cs → setParts offs parts a = some a' → AllP (partsL offs parts a) →
    ∃ cs', Instr.fill place cs.toArray vs = some cs'.toArray ∧ AV.Is c a' cs'
  | [], [], a, a', cs, _, ha, hs, _ => by
    simp [setParts] at hs; subst hs
    exact ⟨cs, rfl, ha⟩
  | (i, v) :: r, (j, u) :: s, a, a', cs, ⟨hij, hv, hr⟩, ha, hs, hc => by
    subst hij
    simp only [setParts] at hs
    simp only [partsL] at hc
    cases ho : offs i with
    | none => simp [ho] at hs
    | some p =>
      obtain ⟨st, sz⟩ := p
      simp only [ho] at hs hc
      split at hs
      · rename_i hty
        obtain ⟨h1, h2, h3⟩ := hty
        cases hset : a.set [st] v with
        | none => simp [hset] at hs
        | some a1 =>
          simp only [hset, Option.bind_some] at hs hc
          obtain ⟨hc1, hc2⟩ := AllP_append.1 hc
          have hvc := IsV.cells h1 hv
          have hlen := hvc.len
          obtain ⟨k1, k2, k3⟩ := AV.set_is [st] ha hset (AV.getL_C hc1) hvc
          have hoff : pathOff [st] = st.off := by simp [pathOff]
          rw [hoff] at k1 k3
          have hb : st.off + u.cells.toList.length ≤ cs.length := by
            rcases k3 with k3 | k3
            · omega
            · exact k3
          obtain ⟨cs', h4, h5⟩ := setParts_fill hp r s a1 a' _ hr k1 hs hc2
          refine ⟨cs', ?_, h5⟩
          have hsz : u.cells.size = sz := by rw [← h2, ← hlen]; simp
          simp only [Instr.fill, hp i st sz ho]
          rw [if_neg (by simp at hb; simp [hsz]; omega)]
          have := foldl_splice u.cells.toList cs st.off hb
          simp only [Array.toArray_toList] at this
          rw [this]
          exact h4
      · cases hs
  | [], _ :: _, _, _, _, h, _, _, _ => h.elim
  | _ :: _, [], _, _, _, h, _, _, _ => h.elim

def vBuild (P : Program) (t : TypeId) (parts : List (Nat × AV)) : Option (AV × List Prop) :=
  match zeroOf P t, P.underlying t with
  | some z, some (.struct fields) =>
    let offs : Nat → Option (Stp × Nat) := fun i => (fields[i]?).bind fun f => (szOf P f.type).map fun n => (Stp.f i f.offset, n)
    if fields.toList.all (fun f => (szOf P f.type).isSome) then
      (setParts offs parts (.d z)).bind fun av => if av.isAgg then some (av, partsL offs parts (.d z)) else none
    else none
  | some z, some (.array n elem) => match szOf P elem with
    | some sz => let offs : Nat → Option (Stp × Nat) := fun i => if i < n then some (.x i sz, sz) else none
      (setParts offs parts (.d z)).bind fun av => if av.isAgg then some (av, partsL offs parts (.d z)) else none
    | none => none
  | _, _ => none

theorem mapM_sizes {P : Program} {w : World} : ∀ (fs : List Field), fs.all (fun f => (szOf P f.type).isSome) = true →
    (fs.mapM (fun f => do pure (f.offset, ← sizeOf f.type) : Field → Sem (Nat × Nat))).run P w = .ok (fs.map fun f => (f.offset, (szOf P f.type).getD 0)) w
  | [], _ => rfl
  | f :: fs, h => by
    simp only [List.all_cons, Bool.and_eq_true] at h
    have ih := mapM_sizes (P := P) (w := w) fs h.2
    obtain ⟨n, hn⟩ := Option.isSome_iff_exists.1 h.1
    simp only [List.mapM_cons, Sem.run_bind, run_sz hn w, Result.andThen_ok, Sem.run_pure, ih, List.map_cons, hn, Option.getD_some]

theorem vBuild_ok {P : Program} {c : Cx} {w : World} {t : TypeId} {parts : List (Nat × AV)} {av : AV} {C : List Prop} {vs : Array (Nat × Value)}
    (hv : vBuild P t parts = some (av, C)) (hc : AllP C) (hp : PartsIs c parts vs.toList) :
    ∃ v, (Instr.build t vs).run P w = .ok v w ∧ AV.IsV c av v := by
  unfold vBuild at hv
  split at hv
  · rename_i z fields hz hu
    simp only at hv
    split at hv
    · rename_i hall
      cases hs : setParts (fun i => (fields[i]?).bind fun f => (szOf P f.type).map fun n => (Stp.f i f.offset, n)) parts (.d z) with
      | none => simp [hs] at hv
      | some a' =>
        simp only [hs, Option.bind_some] at hv
        split at hv
        · rename_i hag
          cases hv
          obtain ⟨zv, h1, h2⟩ := zeroOf_is hz
          have hzc := IsV.cells (c := c) (av := .d z) rfl (h2 c)
          have hm := mapM_sizes (P := P) (w := w) fields.toList hall
          obtain ⟨cs', h3, h4⟩ := setParts_fill (c := c) (place := fun i => ((fields.toList.map fun f => (f.offset, (szOf P f.type).getD 0)).toArray)[i]?) (by
            intro i s sz ho
            cases hf : fields[i]? with
            | none => simp [hf] at ho
            | some f =>
              cases hn : szOf P f.type with
              | none => simp [hf, hn] at ho
              | some n =>
                simp [hf, hn] at ho
                obtain ⟨rfl, rfl⟩ := ho
                simp [hf, hn, Stp.off]) parts vs.toList _ _ _ hp hzc hs hc
          refine ⟨.agg cs'.toArray, ?_, .agg _ _ hag h4⟩
          have hm' : (fields.mapM (fun f => do pure (f.offset, ← sizeOf f.type) : Field → Sem (Nat × Nat))).run P w =
              .ok (fields.toList.map fun f => (f.offset, (szOf P f.type).getD 0)).toArray w := by
            rw [Array.mapM_eq_mapM_toList, Sem.run_map, hm, Result.andThen_ok]
          simp only [Array.toArray_toList] at h3
          simp only [Instr.build, Sem.run_bind, h1, Result.andThen_ok, run_und hu w, hm', h3]
          rfl
        · cases hv
    · cases hv
  · rename_i z n elem hz hu
    split at hv
    · rename_i sz hsz
      simp only at hv
      cases hs : setParts (fun i => if i < n then some (Stp.x i sz, sz) else none) parts (.d z) with
      | none => simp [hs] at hv
      | some a' =>
        simp only [hs, Option.bind_some] at hv
        split at hv
        · rename_i hag
          cases hv
          obtain ⟨zv, h1, h2⟩ := zeroOf_is hz
          have hzc := IsV.cells (c := c) (av := .d z) rfl (h2 c)
          obtain ⟨cs', h3, h4⟩ := setParts_fill (c := c) (place := fun i => some (i * sz, sz)) (by
            intro i s sz' ho
            split at ho
            · cases ho; rfl
            · cases ho) parts vs.toList _ _ _ hp hzc hs hc
          refine ⟨.agg cs'.toArray, ?_, .agg _ _ hag h4⟩
          simp [Instr.build, h1, run_und hu w, run_sz hsz w, h3]
        · cases hv
    · cases hv
  · cases hv
end Go.TA

namespace Go.TA
open Go

/-! ## equality of data -/
def fieldD (P : Program) (xs : List DV) (i : Nat) (f : Field) : Option DV :=
  if DV.wdL (xs.take i) = f.offset then match xs[i]? with
    | some x => if szOf P f.type = some x.wd ∧ aggTy P f.type = some (AV.d x).isAgg ∧ 0 < x.wd then some x else none
    | none => none
  else none

def eqFs (P : Program) (g : TypeId → DV → DV → Option Bool) (xs ys : List DV) : List Field → Nat → Option Bool
  | [], _ => some true
  | f :: r, i => if f.name = "_" then none else match fieldD P xs i f, fieldD P ys i f with
    | some x, some y => match g f.type x y with
      | some b => match eqFs P g xs ys r (i + 1) with
        | some c => some (b && c)
        | none => none
      | none => none
    | _, _ => none

def eqD (P : Program) : Nat → TypeId → DV → DV → Option Bool
  | 0, _, _, _ => none
  | n + 1, t, x, y => match P.underlying t with
    | some .bool => match x, y with
      | .b a, .b b => some (a == b)
      | _, _ => none
    | some (.int _) => match x, y with
      | .i k a, .i k' b => if k = k' then some (a == b) else none
      | _, _ => none
    | some .string => match x, y with
      | .str a, .str b => some (a == b)
      | _, _ => none
    | some (.struct fs) => match x, y with
      | .agg xs, .agg ys => if P.stoodInHeld t then none else eqFs P (eqD P n) xs ys fs.toList 0
      | _, _ => none
    | _ => none

theorem fieldD_part {P : Program} {w : World} {c : Cx} {xs : List DV} {i : Nat} {f : Field} {x : DV} {cs : List Value} (h : fieldD P xs i f = some x) (hx : AV.Is c (.d (.agg xs)) cs) :
    ∃ v, (part f.type cs.toArray f.offset).run P w = .ok v w ∧ AV.IsV c (.d x) v := by
  unfold fieldD at h
  split at h
  · rename_i ho
    split at h
    · rename_i y hy
      split at h
      · rename_i hty
        cases h
        obtain ⟨h1, h2, h3⟩ := hty
        obtain ⟨k, hk, hat⟩ := AV.into_is (s := .f i f.offset) (x := .d x) hx (by simp [AV.into, ho, hy]) trivial
        have hkl := hk.len
        obtain ⟨v, h5, h6⟩ := part_ok (P := P) (w := w) (cs := cs) (off := f.offset) h2 (by rw [h1, hkl]; rfl) hat (fun hg => nonAgg_one hk hg)
          (hat.le (by rw [hkl]; exact h3))
        exact ⟨v, h5, isV_of_load hk rfl h6⟩
      · cases h
    · cases h
  · cases h

theorem eqD_run {P : Program} {w : World} {c : Cx} : ∀ (n d : Nat) (t : TypeId) (x y : DV) (r : Bool) (u v : Value), eqD P n t x y = some r → n ≤ d → AV.IsV c (.d x) u → AV.IsV c (.d y) v →
    (Op.equalIn d t u v).run P w = .ok r w
  | 0, d, t, x, y, r, u, v, h, _, _, _ => by simp [eqD] at h
  | n + 1, 0, t, x, y, r, u, v, h, hd, _, _ => by omega
  | n + 1, d + 1, t, x, y, r, u, v, h, hd, hu, hv => by
    unfold eqD at h
    split at h
    · rename_i hty
      split at h
      · cases h
        rw [IsV.b hu, IsV.b hv]
        exact run_equalIn_bool w d t _ _ hty
      · cases h
    · rename_i hty
      split at h
      · split at h
        · rename_i hk
          cases h; cases hk
          rw [IsV.i hu, IsV.i hv]
          exact run_equalIn_int w d t _ _ _ _ hty
        · cases h
      · cases h
    · rename_i hty
      split at h
      · cases h
        rw [IsV.str hu, IsV.str hv]
        rw [run_equalIn_string w d t _ _ hty]
        simp
      · cases h
    · rename_i fs hty
      split at h
      · rename_i xs ys
        split at h
        · cases h
        · rename_i hst
          obtain ⟨cs, rfl, hcs⟩ := IsV.is rfl hu
          obtain ⟨ks, rfl, hks⟩ := IsV.is rfl hv
          have hf : P.fieldsOf t = fs := by simp [Program.fieldsOf, hty]
          rw [run_equalIn_struct w d t _ _ (by rw [hf]; exact hty) (by simpa using hst), hf]
          generalize fs.toList = l at h
          generalize 0 = i at h
          clear hty hf
          induction l generalizing i r with
          | nil => simp [eqFs] at h; subst h; rfl
          | cons f l ih =>
            simp only [eqFs] at h
            split at h
            · cases h
            · rename_i hname
              split at h
              · rename_i x y hx hy
                split at h
                · rename_i b hb
                  split at h
                  · rename_i c' hc'
                    cases h
                    obtain ⟨v1, p1, q1⟩ := fieldD_part (P := P) (w := w) hx hcs
                    obtain ⟨v2, p2, q2⟩ := fieldD_part (P := P) (w := w) hy hks
                    have e := eqD_run (w := w) n d f.type x y b v1 v2 hb (by omega) q1 q2
                    have ihh := ih _ _ hc'
                    simp only [Op.eqFields, ne_eq, hname, not_false_eq_true, if_true, Sem.run_bind, p1, p2, e, Result.andThen_ok, Sem.run_ite]
                    cases b with
                    | true => simpa using ihh
                    | false => simp
                  · cases h
                · cases h
              · cases h
      · cases h
    · cases h

/-! ## binary operations -/
theorem equalIn_nil {P : Program} {w : World} {t elem : TypeId} (d : Nat) (a : Option Addr) (n c : Nat) (ht : P.underlying t = some (.slice elem)) :
    (Op.equalIn (d + 1) t (.slice a n c) (.slice none 0 0)).run P w = .ok a.isNone w := by
  cases a <;> simp [Op.equalIn, run_und ht w]
theorem equal_nil {P : Program} {w : World} {t elem : TypeId} {u : Value} {n : Nat} {f : Nat → DV} {M : Mem} (ht : P.underlying t = some (.slice elem)) (hd : DV.Is M (.sl n f) [u]) :
    (Op.equal t u (.slice none 0 0)).run P w = .ok (nilV u) w := by
  cases hd with
  | slNil => exact equalIn_nil 9999 none 0 0 ht
  | slEmpty _ a cap => exact equalIn_nil 9999 (some a) 0 cap ht
  | sl _ _ b off cap => exact equalIn_nil 9999 (some _) _ _ ht

/-- The constant nil, told apart from other slices without elements. -/
def nilq : Operand → AV → AV
  | .const (.slice none 0 0), _ => .nq true 0 fun _ => .b false
  | _, v => v
theorem nilq_is {c : Cx} {o : Operand} {v : AV} {a : Act} (h : AV.IsV c v (a.eval o)) : AV.IsV c (nilq o v) (a.eval o) := by
  unfold nilq
  split
  · exact .one _ _ rfl (.nq _ _ _ _ (.slNil _) rfl)
  · exact h
def vBin (P : Program) (op : BinOp) (t : TypeId) (x y : AV) : Option (AV × List Prop) :=
  match x, y with
  | .d (.i k a), .d (.i k' b) => (binI op k k' a b).map fun p => (.d p.1, p.2)
  | .d (.str a), .d (.str b) => (binS op a b).map fun p => (.d p.1, p.2)
  | .d (.b a), .d (.b b) => match P.underlying t, op with
    | some .bool, .eql => some (.d (.b (a == b)), [])
    | some .bool, .neq => some (.d (.b (!(a == b))), [])
    | _, _ => none
  | .d (.agg xs), .d (.agg ys) => if P.eqGuardType P.depth t then none else match eqD P 8 t (.agg xs) (.agg ys), op with
    | some r, .eql => some (.d (.b r), [])
    | some r, .neq => some (.d (.b (!r)), [])
    | _, _ => none
  | .ptr _ _ _, .d (.lit (.pointer none)) => match P.underlying t, op with
    | some (.pointer _), .eql => some (.d (.b false), [])
    | some (.pointer _), .neq => some (.d (.b true), [])
    | _, _ => none
  | .d (.lit (.pointer none)), .d (.lit (.pointer none)) => match P.underlying t, op with
    | some (.pointer _), .eql => some (.d (.b true), [])
    | some (.pointer _), .neq => some (.d (.b false), [])
    | _, _ => none
  | .nq b _ _, .nq true 0 _ => match P.underlying t, op with
    | some (.slice _), .eql => some (.d (.b b), [])
    | some (.slice _), .neq => some (.d (.b (!b)), [])
    | _, _ => none
  | _, _ => none

theorem run_eqGuard_int {P : Program} {w : World} {op : BinOp} {t : TypeId} {x y : Operand} {k : IntKind} {n : Int} {b : Value} :
    (eqGuard op t x y (.int k n) b).run P w = .ok () w := eqGuard_plain (by simp) (by simp)

theorem vBin_ok {P : Program} {c : Cx} {w : World} {op : BinOp} {t : TypeId} {ox oy : Operand} {x y av : AV} {C : List Prop} {u v : Value}
    (h : vBin P op t x y = some (av, C)) (hc : AllP C) (hu : AV.IsV c x u) (hv : AV.IsV c y v) :
    ∃ r, (do eqGuard op t ox oy u v; binOp op t u v : Sem Value).run P w = .ok r w ∧ AV.IsV c av r := by
  unfold vBin at h
  split at h
  · rename_i k a k' b
    cases hb : binI op k k' a b with
    | none => simp [hb] at h
    | some p =>
      obtain ⟨d, D⟩ := p
      simp [hb] at h
      obtain ⟨rfl, rfl⟩ := h
      rw [IsV.i hu, IsV.i hv]
      obtain ⟨r, h1, h2⟩ := binI_run (P := P) (w := w) (t := t) hb hc
      refine ⟨r, ?_, .one _ _ (h2 c.M).2 (.d _ _ (h2 c.M).1)⟩
      rw [Sem.run_bind, eqGuard_plain (by simp) (by simp), Result.andThen_ok, h1]
  · rename_i a b
    cases hb : binS op a b with
    | none => simp [hb] at h
    | some p =>
      obtain ⟨d, D⟩ := p
      simp [hb] at h
      obtain ⟨rfl, rfl⟩ := h
      rw [IsV.str hu, IsV.str hv]
      obtain ⟨r, h1, h2⟩ := binS_run (P := P) (w := w) (t := t) hb hc
      refine ⟨r, ?_, .one _ _ (h2 c.M).2 (.d _ _ (h2 c.M).1)⟩
      rw [Sem.run_bind, eqGuard_plain (by simp) (by simp), Result.andThen_ok, h1]
  · rename_i a b
    rw [IsV.b hu, IsV.b hv]
    split at h
    · rename_i ht
      cases h
      exact ⟨_, by rw [Sem.run_bind, eqGuard_plain (by simp) (by simp), Result.andThen_ok, run_eql_bool w t a b ht], mk_b _⟩
    · rename_i ht
      cases h
      exact ⟨_, by rw [Sem.run_bind, eqGuard_plain (by simp) (by simp), Result.andThen_ok, run_neq_bool w t a b ht], mk_b _⟩
    · cases h
  · rename_i xs ys
    split at h
    · cases h
    · rename_i hg
      obtain ⟨cs, rfl, hcs⟩ := IsV.is rfl hu
      obtain ⟨ks, rfl, hks⟩ := IsV.is rfl hv
      split at h
      · rename_i r he
        cases h
        have := eqD_run (P := P) (w := w) (c := c) 8 10000 t _ _ r _ _ he (by omega) hu hv
        refine ⟨.bool r, ?_, mk_b _⟩
        rw [Sem.run_bind, run_eqGuard_agg w _ t _ _ _ _ (by simpa using hg), Result.andThen_ok, run_eql_struct, this]
        rfl
      · rename_i r he
        cases h
        have := eqD_run (P := P) (w := w) (c := c) 8 10000 t _ _ r _ _ he (by omega) hu hv
        refine ⟨.bool (!r), ?_, mk_b _⟩
        rw [Sem.run_bind, run_eqGuard_agg w _ t _ _ _ _ (by simpa using hg), Result.andThen_ok, run_neq_struct, this]
        rfl
      · cases h
  · rename_i o st p
    have hu' := IsV.is1 rfl (by simp) (by simp) hu
    have hv' := IsV.is1 rfl (by simp) (by simp) hv
    cases hu' with
    | ptr _ _ _ _ hp =>
    obtain ⟨_, ⟨a, rfl⟩, _⟩ := hp
    cases hv' with
    | d _ _ hv' =>
    cases hv'
    split at h
    · rename_i e ht
      cases h
      refine ⟨.bool false, ?_, mk_b _⟩
      rw [Sem.run_bind, eqGuard_plain (by simp) (by simp), Result.andThen_ok, run_eql_pointer_nil w t _ (by simp [Program.pointee, ht])]
      rfl
    · rename_i e ht
      cases h
      refine ⟨.bool true, ?_, mk_b _⟩
      rw [Sem.run_bind, eqGuard_plain (by simp) (by simp), Result.andThen_ok, run_neq_pointer_nil w t _ (by simp [Program.pointee, ht])]
      rfl
    · cases h
  · have hu' := IsV.is1 rfl (by simp) (by simp) hu
    have hv' := IsV.is1 rfl (by simp) (by simp) hv
    cases hu' with
    | d _ _ hu' =>
    cases hu'
    cases hv' with
    | d _ _ hv' =>
    cases hv'
    split at h
    · rename_i e ht
      cases h
      refine ⟨.bool true, ?_, mk_b _⟩
      rw [Sem.run_bind, eqGuard_plain (by simp) (by simp), Result.andThen_ok, run_eql_pointer_nil w t _ (by simp [Program.pointee, ht])]
      rfl
    · rename_i e ht
      cases h
      refine ⟨.bool false, ?_, mk_b _⟩
      rw [Sem.run_bind, eqGuard_plain (by simp) (by simp), Result.andThen_ok, run_neq_pointer_nil w t _ (by simp [Program.pointee, ht])]
      rfl
    · cases h
  · have hu' := IsV.is1 rfl (by simp) (by simp) hu
    have hv' := IsV.is1 rfl (by simp) (by simp) hv
    cases hv' with
    | nq _ _ _ _ hd hb =>
    have hvn : v = .slice none 0 0 := by
      cases hd with
      | slNil => rfl
      | slEmpty => cases hb
      | sl => cases hb
    subst hvn
    cases hu' with
    | nq _ _ _ _ hd' hb' =>
    have hne1 : u ≠ .nilIface := by cases hd' <;> simp
    have hne2 : ∀ xs, u ≠ .agg xs := by cases hd' <;> simp
    split at h
    · rename_i e ht
      cases h
      refine ⟨.bool (nilV u), ?_, hb' ▸ mk_b _⟩
      rw [Sem.run_bind, eqGuard_plain hne1 hne2, Result.andThen_ok]
      have := equal_nil (w := w) ht hd'
      cases hd' <;> simp [binOp, this]
    · rename_i e ht
      cases h
      refine ⟨.bool (!(nilV u)), ?_, hb' ▸ mk_b _⟩
      rw [Sem.run_bind, eqGuard_plain hne1 hne2, Result.andThen_ok]
      have := equal_nil (w := w) ht hd'
      cases hd' <;> simp [binOp, this]
    · cases h
  · cases h

theorem equalIn_iface {P : Program} {w : World} {t : TypeId} {ms : _} (d : Nat) {u : Value} {b : Bool} (hu : ifB u = some b) (ht : P.underlying t = some (.interface ms)) :
    (Op.equalIn (d + 1) t u .nilIface).run P w = .ok (!b) w := by
  unfold ifB at hu
  split at hu
  · cases hu; simp [Op.equalIn, run_und ht w]
  · cases hu; simp [Op.equalIn, run_und ht w]
  · cases hu

/-- A comparison, the second operand as it is written. -/
def vBin2 (P : Program) (op : BinOp) (t : TypeId) (y : Operand) (a b : AV) : Option (AV × List Prop) := match y, a with
  | .const .nilIface, .err e => match P.underlying t, op with
    | some (.interface _), .eql => some (.d (.b (!e)), [])
    | some (.interface _), .neq => some (.d (.b e), [])
    | _, _ => none
  | _, _ => vBin P op t a (nilq y b)

theorem vBin2_ok {P : Program} {c : Cx} {w : World} {op : BinOp} {t : TypeId} {ox oy : Operand} {x y av : AV} {C : List Prop} {u : Value} {ac : Act}
    (h : vBin2 P op t oy x y = some (av, C)) (hc : AllP C) (hu : AV.IsV c x u) (hv : AV.IsV c y (ac.eval oy)) :
    ∃ r, (do eqGuard op t ox oy u (ac.eval oy); binOp op t u (ac.eval oy) : Sem Value).run P w = .ok r w ∧ AV.IsV c av r := by
  unfold vBin2 at h
  split at h
  · rename_i e
    have hu' := IsV.is1 rfl (by simp) (by simp) hu
    cases hu' with
    | err _ _ he =>
    have hguard : ∀ op', (eqGuard op' t ox (.const .nilIface) u .nilIface).run P w = .ok () w := fun op' => by
      unfold ifB at he
      split at he
      · cases op' <;> simp [eqGuard]
      · cases op' <;> simp [eqGuard]
      · cases he
    split at h
    · rename_i ms ht
      cases h
      refine ⟨.bool (!e), ?_, mk_b _⟩
      show (do eqGuard .eql t ox (.const .nilIface) u .nilIface; binOp .eql t u .nilIface : Sem Value).run P w = _
      rw [Sem.run_bind, hguard, Result.andThen_ok]
      have := equalIn_iface (P := P) (w := w) 9999 he ht
      unfold ifB at he
      split at he <;> first | (cases he; done) | (simp only [binOp, Sem.run_bind]; rw [show (Op.equal t _ .nilIface).run P w = _ from this]; rfl)
    · rename_i ms ht
      cases h
      refine ⟨.bool e, ?_, mk_b _⟩
      show (do eqGuard .neq t ox (.const .nilIface) u .nilIface; binOp .neq t u .nilIface : Sem Value).run P w = _
      rw [Sem.run_bind, hguard, Result.andThen_ok]
      have := equalIn_iface (P := P) (w := w) 9999 he ht
      unfold ifB at he
      split at he <;> first | (cases he; done) | (simp only [binOp, Sem.run_bind]; rw [show (Op.equal t _ .nilIface).run P w = _ from this]; simp)
    · cases h
  · exact vBin_ok h hc hu (nilq_is hv)

/-! ## the small ones -/
def vUn (op : UnOp) (x : AV) : Option (AV × List Prop) :=
  match op, x with
  | .not, .d (.b a) => some (.d (.b (!a)), [])
  | .neg, .d (.i k n) => some (.d (.i k (k.wrap (0 - n))), [])
  | _, _ => none

theorem vUn_ok {P : Program} {c : Cx} {w : World} {op : UnOp} {x av : AV} {C : List Prop} {u : Value} (h : vUn op x = some (av, C)) (hu : AV.IsV c x u) :
    ∃ r, (Op.unary op u).run P w = .ok r w ∧ AV.IsV c av r := by
  unfold vUn at h
  split at h
  · cases h
    rw [IsV.b hu]
    exact ⟨_, rfl, mk_b _⟩
  · cases h
    rw [IsV.i hu]
    exact ⟨_, rfl, mk_i _ _⟩
  · cases h

def vConv (P : Program) (src dst : TypeId) (x : AV) : Option (AV × List Prop) :=
  match P.underlying src, P.underlying dst, x with
  | some _, some (.int k), .d (.i _ n) => some (.d (.i k (k.wrap n)), [])
  | some .string, some .string, .d (.str l) => some (.d (.str l), [])
  | _, _, _ => none

theorem vConv_ok {P : Program} {c : Cx} {w : World} {s d : TypeId} {x av : AV} {C : List Prop} {u : Value} (h : vConv P s d x = some (av, C)) (hu : AV.IsV c x u) :
    ∃ r, (convert s d u).run P w = .ok r w ∧ AV.IsV c av r := by
  unfold vConv at h
  split at h
  · rename_i ds k k' n h1 h2
    cases h
    rw [IsV.i hu]
    refine ⟨.int k (k.wrap n), ?_, mk_i _ _⟩
    simp [convert, run_und h1 w, run_und h2 w, Conv.intToInt]
  · rename_i l h1 h2
    cases h
    rw [IsV.str hu]
    refine ⟨.string ⟨l.toArray⟩, ?_, mk_str _⟩
    simp [convert, run_und h1 w, run_und h2 w]
  · cases h

theorem AV.IsVs.get {c : Cx} : ∀ {vs : List AV} {us : List Value}, AV.IsVs c vs us → ∀ (i : Nat) (x : AV), vs[i]? = some x → ∃ u, us[i]? = some u ∧ AV.IsV c x u
  | _, _, .nil, i, x, h => by simp at h
  | _, _, .cons y ys v vs h0 ht, 0, x, h => by simp at h; subst h; exact ⟨v, rfl, h0⟩
  | _, _, .cons y ys v vs h0 ht, i + 1, x, h => by simp at h; simpa using AV.IsVs.get ht i x h

def vExtract (x : AV) (i : Nat) : Option (AV × List Prop) :=
  match x with
  | .tup vs => (vs[i]?).map fun v => (v, [])
  | _ => none

theorem vExtract_ok {P : Program} {c : Cx} {w : World} {x av : AV} {i : Nat} {C : List Prop} {u : Value} (h : vExtract x i = some (av, C)) (hu : AV.IsV c x u) :
    ∃ r, (Instr.extract u i).run P w = .ok r w ∧ AV.IsV c av r := by
  unfold vExtract at h
  split at h
  · rename_i vs
    cases hv : vs[i]? with
    | none => simp [hv] at h
    | some y =>
      simp [hv] at h
      obtain ⟨rfl, rfl⟩ := h
      cases hu with
      | agg _ _ ha => cases ha
      | one _ _ _ h => cases h
      | tup _ us hs =>
      obtain ⟨r, h1, h2⟩ := hs.get i y hv
      exact ⟨r, by simp [Instr.extract, h1], h2⟩
  · cases h

def vNil (x : AV) : Option (AV × List Prop) :=
  match x with
  | .ptr o st p => some (.ptr o st p, [])
  | .imm y => some (.imm y, [])
  | .fn f cs => some (.fn f cs, [])
  | _ => none

def avMinMax (mx : Bool) : AV → List AV → Option AV
  | .d (.i k x), .d (.i _ y) :: r => avMinMax mx (.d (.i k (if mx then (if y > x then y else x) else (if y < x then y else x)))) r
  | x, [] => match x with
    | .d (.i k n) => some (.d (.i k n))
    | _ => none
  | _, _ => none

theorem avMin_ok {P : Program} {c : Cx} {w : World} : ∀ (r : List AV) (x av : AV) (u : Value) (us : List Value), avMinMax false x r = some av → AV.IsV c x u → AV.IsVs c r us →
    ∃ v, (us.foldlM Builtin.min2 u).run P w = .ok v w ∧ AV.IsV c av v
  | [], x, av, u, us, h, hu, hs => by
    cases hs
    cases x with
    | d y =>
      cases y with
      | i k n => simp [avMinMax] at h; subst h; exact ⟨u, rfl, hu⟩
      | _ => simp [avMinMax] at h
    | _ => simp [avMinMax] at h
  | y :: r, x, av, u, us, h, hu, hs => by
    cases hs with
    | cons _ _ v vs hv ht =>
    unfold avMinMax at h
    split at h
    · rename_i k a k' b r' he
      cases he
      rw [IsV.i hu, IsV.i hv]
      obtain ⟨z, h1, h2⟩ := avMin_ok r _ av (.int k (if b < a then b else a)) vs h (mk_i _ _) ht
      exact ⟨z, by simpa [List.foldlM_cons, Builtin.min2] using h1, h2⟩
    · rename_i he; cases he
    · cases h

theorem avMax_ok {P : Program} {c : Cx} {w : World} : ∀ (r : List AV) (x av : AV) (u : Value) (us : List Value), avMinMax true x r = some av → AV.IsV c x u → AV.IsVs c r us →
    ∃ v, (us.foldlM Builtin.max2 u).run P w = .ok v w ∧ AV.IsV c av v
  | [], x, av, u, us, h, hu, hs => by
    cases hs
    cases x with
    | d y =>
      cases y with
      | i k n => simp [avMinMax] at h; subst h; exact ⟨u, rfl, hu⟩
      | _ => simp [avMinMax] at h
    | _ => simp [avMinMax] at h
  | y :: r, x, av, u, us, h, hu, hs => by
    cases hs with
    | cons _ _ v vs hv ht =>
    unfold avMinMax at h
    split at h
    · rename_i k a k' b r' he
      cases he
      rw [IsV.i hu, IsV.i hv]
      obtain ⟨z, h1, h2⟩ := avMax_ok r _ av (.int k (if b > a then b else a)) vs h (mk_i _ _) ht
      exact ⟨z, by simpa [List.foldlM_cons, Builtin.max2] using h1, h2⟩
    · rename_i he; cases he
    · cases h
end Go.TA

namespace Go.TA
open Go

def opnds (G : GFr) (ch : Chain) : List Operand → Option (List AV)
  | [] => some []
  | x :: r => match opnd G ch x, opnds G ch r with
    | some a, some as => some (a :: as)
    | _, _ => none

theorem opnds_is {c : Cx} {G : GFr} {ch : Chain} {a : Act} (hf : FrIs c G a.tmps) (hh : holds ch a.tmps) : ∀ {l : List Operand} {as : List AV}, opnds G ch l = some as →
    AV.IsVs c as (l.map a.eval)
  | [], as, h => by simp [opnds] at h; subst h; exact .nil
  | x :: r, as, h => by
    simp only [opnds] at h
    cases h1 : opnd G ch x with
    | none => simp [h1] at h
    | some y =>
      cases h2 : opnds G ch r with
      | none => simp [h1, h2] at h
      | some ys =>
        simp [h1, h2] at h
        subst h
        exact .cons _ _ _ _ (opnd_is h1 hf hh) (opnds_is hf hh h2)

def partsO (G : GFr) (ch : Chain) : List (Nat × Operand) → Option (List (Nat × AV))
  | [] => some []
  | (i, x) :: r => match opnd G ch x, partsO G ch r with
    | some a, some as => some ((i, a) :: as)
    | _, _ => none

theorem partsO_is {c : Cx} {G : GFr} {ch : Chain} {a : Act} (hf : FrIs c G a.tmps) (hh : holds ch a.tmps) : ∀ {l : List (Nat × Operand)} {as : List (Nat × AV)}, partsO G ch l = some as →
    PartsIs c as (l.map fun p => (p.1, a.eval p.2))
  | [], as, h => by simp [partsO] at h; subst h; trivial
  | (i, x) :: r, as, h => by
    simp only [partsO] at h
    cases h1 : opnd G ch x with
    | none => simp [h1] at h
    | some y =>
      cases h2 : partsO G ch r with
      | none => simp [h1, h2] at h
      | some ys =>
        simp [h1, h2] at h
        subst h
        exact ⟨rfl, opnd_is h1 hf hh, partsO_is hf hh h2⟩

def intO (G : GFr) (ch : Chain) : Option Operand → Option (Option Int)
  | none => some none
  | some x => match opnd G ch x with
    | some (.d (.i _ n)) => some (some n)
    | _ => none

theorem intO_is {c : Cx} {G : GFr} {ch : Chain} {a : Act} (hf : FrIs c G a.tmps) (hh : holds ch a.tmps) {o : Option Operand} {r : Option Int} (h : intO G ch o = some r) :
    ∃ k, o.map a.eval = r.map (Value.int k) := by
  unfold intO at h
  split at h
  · cases h; exact ⟨.i64, rfl⟩
  · split at h
    · rename_i x k n hx
      cases h
      exact ⟨k, by simp [IsV.i (opnd_is hx hf hh)]⟩
    · cases h

def pick3 (G : GFr) (ch : Chain) (x y z : Operand) : Option (AV × List Prop) :=
  match opnd G ch x with
  | some (.d (.b p)) => match x with
    | .tmp t => match opnd G ((t, true) :: ch) y, opnd G ((t, false) :: ch) z with
      | some (.d (.b q)), some (.d (.b r)) => some (.d (.b (bif p then q else r)), [])
      | _, _ => none
    | _ => none
  | _ => none

/-- What an operation yields that leaves the world alone. -/
def aval (P : Program) (G : GFr) (ch : Chain) (L : List Ob) (o : Oper) : Option (AV × List Prop) :=
  match o.op with
  | .move x => (opnd G ch x).map fun a => (a, [])
  | .assign x => (opnd G ch x).map fun a => (a, [])
  | .pick x y z => pick3 G ch x y z
  | .build t ps => (partsO G ch ps.toList).bind (vBuild P t)
  | .load t x => (opnd G ch x).bind (vLoad P L t)
  | .nilCheck x => (opnd G ch x).bind vNil
  | .binOp op t x y _ => (opnd G ch x).bind fun a => (opnd G ch y).bind fun b => vBin2 P op t y a b
  | .unOp op _ x => (opnd G ch x).bind (vUn op)
  | .convert s d x => (opnd G ch x).bind (vConv P s d)
  | .makeFunc (.func f) first caps => if first.size = 0 then (opnds G ch caps.toList).map fun as => (.fn f as, []) else none
  | .slice t x lo hi mx => (opnd G ch x).bind fun a => (intO G ch lo).bind fun l => (intO G ch hi).bind fun h => (intO G ch mx).bind fun m => match P.underlying t with
    | some (.array _ _) => none
    | _ => vSlice P L t a l h m
  | .fieldAddr s x f => (opnd G ch x).bind (vFieldAddr P L s f)
  | .field t x f => (opnd G ch x).bind (vField P t f)
  | .indexAddr t x i => (opnd G ch x).bind fun a => match opnd G ch i with
    | some (.d (.i _ n)) => vIndexAddr P L t a n
    | _ => none
  | .index t x i => (opnd G ch x).bind fun a => match opnd G ch i with
    | some (.d (.i _ n)) => vIndex P t a n
    | _ => none
  | .extract x i => (opnd G ch x).bind fun a => vExtract a i
  | .call ⟨.builtin .len, args, ts⟩ => match args.toList, ts.toList with
    | [x], [t] => (opnd G ch x).bind (vLen P L t)
    | _, _ => none
  | .call ⟨.builtin .min, args, _⟩ => match opnds G ch args.toList with
    | some (x :: r) => (avMinMax false x r).map fun a => (a, [])
    | _ => none
  | .call ⟨.builtin .max, args, _⟩ => match opnds G ch args.toList with
    | some (x :: r) => (avMinMax true x r).map fun a => (a, [])
    | _ => none
  | _ => none

theorem run_builtin {P : Program} {w : World} {ρ : Operand → Value} {b : Builtin} {args : Array Operand} {ts : Array TypeId} {ty : TypeId} :
    (do let d ← resolve ρ ⟨.builtin b, args, ts⟩ ty; invoke d.target d.args : Sem Next).run P w =
      (builtin b ts ty (args.map fun | .const _ => true | _ => false) (args.map ρ)).run P w := rfl

theorem run_v {P : Program} {w w' : World} {s : Sem Value} {v : Value} (h : s.run P w = .ok v w') : (do pure (.value (← s)) : Sem Next).run P w = .ok (.value v) w' := by
  simp [h]

theorem aval_ok {P : Program} {X : Nat → Prop} {ms : Blocks} {L : List Ob} {w : World} {G : GFr} {ch : Chain} {o : Oper} {a : Act} {av : AV} {C : List Prop}
    (h : aval P G ch L o = some (av, C)) (hc : AllP C) (hr : Rel X ms L w) (hf : FrIs (cxOf X ms L w) G a.tmps) (hh : holds ch a.tmps) :
    ∃ u, (execOp a.eval o).run P w = .ok (.value u) w ∧ AV.IsV (cxOf X ms L w) av u := by
  obtain ⟨dst, op, ty, pos, after, guard⟩ := o
  unfold aval at h
  simp only at h
  split at h
  case h_1 x =>
    cases hx : opnd G ch x with
    | none => simp [hx] at h
    | some y =>
      simp [hx] at h; obtain ⟨rfl, rfl⟩ := h
      exact ⟨_, rfl, opnd_is hx hf hh⟩
  case h_2 x =>
    cases hx : opnd G ch x with
    | none => simp [hx] at h
    | some y =>
      simp [hx] at h; obtain ⟨rfl, rfl⟩ := h
      exact ⟨_, rfl, opnd_is hx hf hh⟩
  case h_3 x y z =>
    unfold pick3 at h
    split at h
    · rename_i p hx
      split at h
      · rename_i t
        split at h
        · rename_i q r hq hr'
          cases h
          have e := IsV.b (opnd_is hx hf hh)
          have et : a.tmps.getD t undef = .bool p := e
          cases p with
          | true =>
            have hh' : holds ((t, true) :: ch) a.tmps := fun y hy => by
              rcases List.mem_cons.1 hy with rfl | hy
              · exact et
              · exact hh y hy
            exact ⟨a.eval y, by simp [execOp, e, asBool], opnd_is hq hf hh'⟩
          | false =>
            have hh' : holds ((t, false) :: ch) a.tmps := fun y hy => by
              rcases List.mem_cons.1 hy with rfl | hy
              · exact et
              · exact hh y hy
            exact ⟨a.eval z, by simp [execOp, e, asBool], opnd_is hr' hf hh'⟩
        · cases h
      · cases h
    · cases h
  case h_4 t ps =>
    cases hx : partsO G ch ps.toList with
    | none => simp [hx] at h
    | some as =>
      simp [hx] at h
      have := partsO_is hf hh hx
      obtain ⟨v, h1, h2⟩ := vBuild_ok (P := P) (w := w) (vs := ps.map fun (i, x) => (i, a.eval x)) h hc (by simpa using this)
      exact ⟨v, run_v h1, h2⟩
  case h_5 t x =>
    cases hx : opnd G ch x with
    | none => simp [hx] at h
    | some y =>
      simp [hx] at h
      obtain ⟨v, h1, h2⟩ := vLoad_ok hr h hc (opnd_is hx hf hh)
      exact ⟨v, run_v h1, h2⟩
  case h_6 x =>
    cases hx : opnd G ch x with
    | none => simp [hx] at h
    | some y =>
      simp [hx] at h
      have hv := opnd_is hx hf hh
      refine ⟨a.eval x, ?_, ?_⟩
      · unfold vNil at h
        have hrun : ∀ u, a.eval x = u → (∃ ad, u = .pointer (some ad)) ∨ (∃ f b c, u = .func (.func f) b c) →
            (execOp a.eval { dst, op := .nilCheck x, type := ty, pos, after, guard }).run P w = .ok (.value u) w := by
          rintro u hu (⟨ad, rfl⟩ | ⟨f, b, c, rfl⟩) <;> (simp only [execOp, hu]; rfl)
        split at h
        · have hv' := IsV.is1 rfl (by simp) (by simp) hv
          refine hrun _ rfl (.inl ?_)
          generalize a.eval x = u at *
          cases hv' with
          | ptr _ _ _ _ hp => exact hp.2.1
        · have hv' := IsV.is1 rfl (by simp) (by simp) hv
          refine hrun _ rfl (.inl ?_)
          generalize a.eval x = u at *
          cases hv' with
          | imm => exact ⟨_, rfl⟩
        · have hv' := IsV.is1 rfl (by simp) (by simp) hv
          refine hrun _ rfl (.inr ?_)
          generalize a.eval x = u at *
          cases hv' with
          | fn => exact ⟨_, _, _, rfl⟩
        · cases h
      · unfold vNil at h
        split at h <;> first | (cases h; exact hv) | cases h
  case h_7 op t x y yt =>
    cases hx : opnd G ch x with
    | none => simp [hx] at h
    | some x' =>
      cases hy : opnd G ch y with
      | none => simp [hx, hy] at h
      | some y' =>
        simp [hx, hy] at h
        obtain ⟨v, h1, h2⟩ := vBin2_ok (P := P) (w := w) (ox := x) h hc (opnd_is hx hf hh) (opnd_is hy hf hh)
        exact ⟨v, run_v h1, h2⟩
  case h_8 op t x =>
    cases hx : opnd G ch x with
    | none => simp [hx] at h
    | some x' =>
      simp [hx] at h
      obtain ⟨v, h1, h2⟩ := vUn_ok (P := P) (w := w) h (opnd_is hx hf hh)
      exact ⟨v, run_v h1, h2⟩
  case h_9 s d x =>
    cases hx : opnd G ch x with
    | none => simp [hx] at h
    | some x' =>
      simp [hx] at h
      obtain ⟨v, h1, h2⟩ := vConv_ok (P := P) (w := w) h (opnd_is hx hf hh)
      exact ⟨v, run_v h1, h2⟩
  case h_10 f first caps =>
    split at h
    · rename_i h0
      cases hx : opnds G ch caps.toList with
      | none => simp [hx] at h
      | some as =>
        simp [hx] at h
        obtain ⟨rfl, rfl⟩ := h
        have := opnds_is hf hh hx
        refine ⟨.func (.func f) #[] (caps.toList.map a.eval).toArray, ?_, .one _ _ rfl (.fn _ _ _ this)⟩
        have e : first = #[] := Array.eq_empty_of_size_eq_zero h0
        subst e
        simp only [execOp, Instr.makeFunc, Array.map_empty, Sem.run_bind, Sem.run_pure, Result.andThen_ok]
        rw [← Array.toList_map, Array.toArray_toList]
    · cases h
  case h_11 t x lo hi mx =>
    cases hx : opnd G ch x with
    | none => simp [hx] at h
    | some x' =>
      cases hl : intO G ch lo with
      | none => simp [hx, hl] at h
      | some l =>
        cases hhi : intO G ch hi with
        | none => simp [hx, hl, hhi] at h
        | some hi' =>
          cases hm : intO G ch mx with
          | none => simp [hx, hl, hhi, hm] at h
          | some m =>
            simp only [hx, hl, hhi, hm, Option.bind_some] at h
            split at h
            · cases h
            · rename_i hna
              obtain ⟨kl, e1⟩ := intO_is hf hh hl
              obtain ⟨kh, e2⟩ := intO_is hf hh hhi
              obtain ⟨km, e3⟩ := intO_is hf hh hm
              obtain ⟨v, h1, h2⟩ := vSlice_ok (P := P) (c := cxOf X ms L w) (w := w) (kl := kl) (kh := kh) (km := km) h hc (opnd_is hx hf hh)
              refine ⟨v, run_v ?_, h2⟩
              have hu : ∃ d, P.underlying t = some d := by
                unfold vSlice at h
                cases hd : P.underlying t with
                | none => simp [hd] at h
                | some d => exact ⟨d, rfl⟩
              obtain ⟨d, hd⟩ := hu
              rw [e1, e2, e3]
              unfold Instr.sliceAt
              rw [Sem.run_bind, run_und hd w, Result.andThen_ok]
              split
              · rename_i n e
                exact absurd hd (hna n e)
              · exact h1
  case h_12 s x f =>
    cases hx : opnd G ch x with
    | none => simp [hx] at h
    | some x' =>
      simp [hx] at h
      obtain ⟨v, h1, h2⟩ := vFieldAddr_ok (P := P) (w := w) (c := cxOf X ms L w) h hc (opnd_is hx hf hh)
      exact ⟨v, run_v h1, h2⟩
  case h_13 t x f =>
    cases hx : opnd G ch x with
    | none => simp [hx] at h
    | some x' =>
      simp [hx] at h
      obtain ⟨v, h1, h2⟩ := vField_ok (P := P) (w := w) h (opnd_is hx hf hh)
      exact ⟨v, run_v h1, h2⟩
  case h_14 t x i =>
    cases hx : opnd G ch x with
    | none => simp [hx] at h
    | some x' =>
      simp only [hx, Option.bind_some] at h
      split at h
      · rename_i k n hi
        obtain ⟨v, h1, h2⟩ := vIndexAddr_ok (P := P) (w := w) (c := cxOf X ms L w) (k := k) h hc (opnd_is hx hf hh)
        refine ⟨v, run_v ?_, h2⟩
        rw [IsV.i (opnd_is hi hf hh)]
        exact h1
      · cases h
  case h_15 t x i =>
    cases hx : opnd G ch x with
    | none => simp [hx] at h
    | some x' =>
      simp only [hx, Option.bind_some] at h
      split at h
      · rename_i k n hi
        obtain ⟨v, h1, h2⟩ := vIndex_ok (P := P) (w := w) (k := k) h hc (opnd_is hx hf hh)
        refine ⟨v, run_v ?_, h2⟩
        rw [IsV.i (opnd_is hi hf hh)]
        exact h1
      · cases h
  case h_16 x i =>
    cases hx : opnd G ch x with
    | none => simp [hx] at h
    | some x' =>
      simp [hx] at h
      obtain ⟨v, h1, h2⟩ := vExtract_ok (P := P) (w := w) h (opnd_is hx hf hh)
      exact ⟨v, run_v h1, h2⟩
  case h_17 args ts =>
    split at h
    · rename_i x t hxs hts
      cases hx : opnd G ch x with
      | none => simp [hx] at h
      | some x' =>
        simp [hx] at h
        obtain ⟨v, h1, h2⟩ := vLen_ok (P := P) (ty := ty) hr h (opnd_is hx hf hh)
        refine ⟨v, ?_, h2⟩
        have e1 : args = #[x] := by rw [← Array.toList_inj]; simpa using hxs
        have e2 : ts = #[t] := by rw [← Array.toList_inj]; simpa using hts
        subst e1; subst e2
        exact run_v (s := Builtin.len_ #[t] ty (#[x].map a.eval)) (by simpa using h1)
    · cases h
  case h_18 args ts =>
    split at h
    · rename_i x r hx
      cases hm : avMinMax false x r with
      | none => simp [hm] at h
      | some y =>
        simp [hm] at h
        obtain ⟨rfl, rfl⟩ := h
        have hv := opnds_is hf hh hx
        generalize hvs : args.toList.map a.eval = vs at hv
        cases hv with
        | cons _ _ u us hu hus =>
        obtain ⟨v, h1, h2⟩ := avMin_ok (P := P) (w := w) r x y u us hm hu hus
        refine ⟨v, ?_, h2⟩
        have e : (args.map a.eval).toList = u :: us := by simpa using hvs
        exact run_v (s := Builtin.min_ ts ty (args.map a.eval)) (by simp only [Builtin.min_, e]; exact h1)
    · cases h
  case h_19 args ts =>
    split at h
    · rename_i x r hx
      cases hm : avMinMax true x r with
      | none => simp [hm] at h
      | some y =>
        simp [hm] at h
        obtain ⟨rfl, rfl⟩ := h
        have hv := opnds_is hf hh hx
        generalize hvs : args.toList.map a.eval = vs at hv
        cases hv with
        | cons _ _ u us hu hus =>
        obtain ⟨v, h1, h2⟩ := avMax_ok (P := P) (w := w) r x y u us hm hu hus
        refine ⟨v, ?_, h2⟩
        have e : (args.map a.eval).toList = u :: us := by simpa using hvs
        exact run_v (s := Builtin.max_ ts ty (args.map a.eval)) (by simp only [Builtin.max_, e]; exact h1)
    · cases h
  case h_20 => cases h
end Go.TA
