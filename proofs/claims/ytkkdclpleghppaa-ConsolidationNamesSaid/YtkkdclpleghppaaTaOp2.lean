/- A part of the proof: laws over any program of the abstract machine. No condition. -/
import Derived.Test.YtkkdclpleghppaaTaOp1
namespace Go.TA
open Go

def szOf (P : Program) (t : TypeId) : Option Nat := (P.info? t).map (·.size)
def aggTy (P : Program) (t : TypeId) : Option Bool := (P.underlying t).map fun d => match d with
  | .struct _ | .array _ _ => true
  | _ => false

section
variable {P : Program}
theorem run_und {t : TypeId} {d : TypeDesc} (h : P.underlying t = some d) (w : World) : (underlying t).run P w = .ok d w := run_underlying h w
theorem run_sz {t : TypeId} {n : Nat} (h : szOf P t = some n) (w : World) : (sizeOf t).run P w = .ok n w := by
  unfold szOf at h
  cases hi : P.info? t with
  | none => simp [hi] at h
  | some i =>
    simp [hi] at h
    simp [sizeOf, typeInfo, hi, h]
theorem run_agg {t : TypeId} {b : Bool} (h : aggTy P t = some b) (w : World) : (isAgg t).run P w = .ok b w := by
  unfold aggTy at h
  cases hd : P.underlying t with
  | none => simp [hd] at h
  | some d =>
    simp only [hd, Option.map_some, Option.some.injEq] at h
    unfold isAgg
    rw [Sem.run_bind, run_und hd w, Result.andThen_ok]
    subst h
    cases d <;> rfl
end

/-- What an integer operation gives, and on what condition. -/
def binI (op : BinOp) (k k' : IntKind) (a b : Int) : Option (DV × List Prop) :=
  match op with
  | .shl => some (.i k (k.wrap (a * 2 ^ (min b.toNat k.bits))), [0 ≤ b])
  | .shr => some (.i k (a.fdiv (2 ^ (min b.toNat k.bits))), [0 ≤ b])
  | _ => if k = k' then match op with
    | .add => some (.i k (k.wrap (a + b)), [])
    | .sub => some (.i k (k.wrap (a - b)), [])
    | .mul => some (.i k (k.wrap (a * b)), [])
    | .quo => some (.i k (k.wrap (a.tdiv b)), [b ≠ 0])
    | .rem => some (.i k (a.tmod b), [b ≠ 0])
    | .and => some (.i k (k.wrap (BitVec.ofInt k.bits a &&& BitVec.ofInt k.bits b).toNat), [])
    | .or => some (.i k (k.wrap (BitVec.ofInt k.bits a ||| BitVec.ofInt k.bits b).toNat), [])
    | .xor => some (.i k (k.wrap (BitVec.ofInt k.bits a ^^^ BitVec.ofInt k.bits b).toNat), [])
    | .andNot => some (.i k (k.wrap (BitVec.ofInt k.bits a &&& ~~~ BitVec.ofInt k.bits b).toNat), [])
    | .eql => some (.b (a == b), [])
    | .neq => some (.b (a != b), [])
    | .lss => some (.b (decide (a < b)), [])
    | .leq => some (.b (decide (a ≤ b)), [])
    | .gtr => some (.b (decide (a > b)), [])
    | .geq => some (.b (decide (a ≥ b)), [])
    | _ => none
    else none

def binS (op : BinOp) (a b : List UInt8) : Option (DV × List Prop) :=
  match op with
  | .add => some (.str (a ++ b), [a.length + b.length < 2 ^ 63])
  | .eql => some (.b (a == b), [])
  | .neq => some (.b (!(a == b)), [])
  | .lss => some (.b (Op.bytesLess a b), [])
  | .leq => some (.b (Op.bytesLess a b || a == b), [])
  | .gtr => some (.b (!(Op.bytesLess a b || a == b)), [])
  | .geq => some (.b (!Op.bytesLess a b), [])
  | _ => none

def AllP : List Prop → Prop
  | [] => True
  | p :: r => p ∧ AllP r

theorem AllP_append {a b : List Prop} : AllP (a ++ b) ↔ AllP a ∧ AllP b := by
  induction a with
  | nil => simp [AllP]
  | cons x r ih => simp [AllP, ih, and_assoc]

theorem binI_run {P : Program} {w : World} {op : BinOp} {t : TypeId} {k k' : IntKind} {a b : Int} {x : DV} {C : List Prop} (h : binI op k k' a b = some (x, C)) (hc : AllP C) :
    ∃ v, (binOp op t (.int k a) (.int k' b)).run P w = .ok v w ∧ ∀ M, DV.Is M x [v] ∧ (AV.d x).isAgg = false := by
  unfold binI at h
  split at h
  · cases h
    have h0 : ¬ b < 0 := by have := hc.1; omega
    exact ⟨_, by simp [binOp, Op.shift, h0], fun M => ⟨.i _ _, rfl⟩⟩
  · cases h
    have h0 : ¬ b < 0 := by have := hc.1; omega
    exact ⟨_, by simp [binOp, Op.shift, h0], fun M => ⟨.i _ _, rfl⟩⟩
  · rename_i hn1 hn2
    split at h
    · rename_i hk
      subst hk
      split at h
      case h_16 => cases h
      all_goals
        cases h
      case h_4 =>
        have h0 : b ≠ 0 := hc.1
        exact ⟨_, by simp [binOp, Op.intDiv, h0], fun M => ⟨.i _ _, rfl⟩⟩
      case h_5 =>
        have h0 : b ≠ 0 := hc.1
        exact ⟨_, by simp [binOp, Op.intDiv, h0], fun M => ⟨.i _ _, rfl⟩⟩
      all_goals first
        | exact ⟨.int k _, (by show Sem.run P (if k ≠ k then _ else _) w = _; rw [if_neg (by simp)]; rfl), fun M => ⟨.i _ _, rfl⟩⟩
        | exact ⟨.bool _, (by show Sem.run P (if k ≠ k then _ else _) w = _; rw [if_neg (by simp)]; rfl), fun M => ⟨.b _, rfl⟩⟩
    · cases h

theorem binS_run {P : Program} {w : World} {op : BinOp} {t : TypeId} {a b : List UInt8} {x : DV} {C : List Prop} (h : binS op a b = some (x, C)) (hc : AllP C) :
    ∃ v, (binOp op t (.string ⟨a.toArray⟩) (.string ⟨b.toArray⟩)).run P w = .ok v w ∧ ∀ M, DV.Is M x [v] ∧ (AV.d x).isAgg = false := by
  unfold binS at h
  split at h
  case h_8 => cases h
  case h_1 =>
    cases h
    have h0 : a.length + b.length < 2 ^ 63 := hc.1
    have h1 : ¬ (((ByteArray.mk a.toArray).size + (ByteArray.mk b.toArray).size : Nat) : Int) > IntKind.i64.max := by
      have e1 : (ByteArray.mk a.toArray).size = a.length := by simp [ByteArray.size]
      have e2 : (ByteArray.mk b.toArray).size = b.length := by simp [ByteArray.size]
      have e3 : IntKind.i64.max = 9223372036854775807 := by decide
      rw [e1, e2, e3]; omega
    refine ⟨.string ⟨(a ++ b).toArray⟩, ?_, fun M => ⟨.str _, rfl⟩⟩
    simp only [binOp, Op.stringOp, h1, if_false, Sem.run_pure]
    congr 2
  all_goals
    cases h
    exact ⟨_, by simp [binOp, Op.stringOp], fun M => ⟨.b _, rfl⟩⟩

theorem eqGuard_plain {P : Program} {w : World} {op : BinOp} {t : TypeId} {x y : Operand} {a b : Value} (h1 : a ≠ .nilIface) (h2 : ∀ cs, a ≠ .agg cs) :
    (eqGuard op t x y a b).run P w = .ok () w := by
  unfold eqGuard
  cases a <;> first
    | exact absurd rfl h1
    | exact absurd rfl (h2 _)
    | (split <;> first | rfl | (simp; done))
end Go.TA
