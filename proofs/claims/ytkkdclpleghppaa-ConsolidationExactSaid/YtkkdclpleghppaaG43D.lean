/- A part of the proof: what the functions compute, and that their calls return it. No condition. -/
import Derived.Test.YtkkdclpleghppaaTaSort
import Derived.Test.YtkkdclpleghppaaProg
/- What the functions compute, as Lean functions (none: a check failed). No condition. -/
namespace Go.Proofs.Ytkkdclpleghppaa
open Go Go.TA

structure TTreasuryplaySrc where
  L : (List Int)
  At : Int
  deriving Inhabited
def TTreasuryplaySrc.e (x : TTreasuryplaySrc) : DV := .agg [(eL (DV.i .i64) x.L), (DV.i .i64 x.At)]
structure TApiPosting where
  Number : Int
  Day : Int
  Entity : Int
  Debit : Int
  Credit : Int
  Amount : Int
  Partner : Int
  Ref : Int
  deriving Inhabited
def TApiPosting.e (x : TApiPosting) : DV := .agg [(DV.i .i64 x.Number), (DV.i .i64 x.Day), (DV.i .i64 x.Entity), (DV.i .i64 x.Debit), (DV.i .i64 x.Credit), (DV.i .i64 x.Amount), (DV.i .i64 x.Partner), (DV.i .i64 x.Ref)]
structure TApiLedger where
  Postings : (List TApiPosting)
  deriving Inhabited
def TApiLedger.e (x : TApiLedger) : DV := .agg [(eL TApiPosting.e x.Postings)]
structure TApiBalance where
  Account : Int
  Amount : Int
  deriving Inhabited
def TApiBalance.e (x : TApiBalance) : DV := .agg [(DV.i .i64 x.Account), (DV.i .i64 x.Amount)]
structure TApiDifference where
  Kind : Int
  A : Int
  B : Int
  Ref : Int
  Amount : Int
  deriving Inhabited
def TApiDifference.e (x : TApiDifference) : DV := .agg [(DV.i .i64 x.Kind), (DV.i .i64 x.A), (DV.i .i64 x.B), (DV.i .i64 x.Ref), (DV.i .i64 x.Amount)]
structure TApiWhole where
  Balances : (List TApiBalance)
  Eliminated : Int
  Differences : (List TApiDifference)
  deriving Inhabited
def TApiWhole.e (x : TApiWhole) : DV := .agg [(eL TApiBalance.e x.Balances), (DV.i .i64 x.Eliminated), (eL TApiDifference.e x.Differences)]
structure TConsolidationSpot where
  account : Int
  entity : Int
  partner : Int
  ref : Int
  deriving Inhabited
def TConsolidationSpot.e (x : TConsolidationSpot) : DV := .agg [(DV.i .i64 x.account), (DV.i .i64 x.entity), (DV.i .i64 x.partner), (DV.i .i64 x.ref)]
structure TConsolidationMutual where
  kind : Int
  first : Int
  second : Int
  sign : Int
  deriving Inhabited
def TConsolidationMutual.e (x : TConsolidationMutual) : DV := .agg [(DV.i .i64 x.kind), (DV.i .i64 x.first), (DV.i .i64 x.second), (DV.i .i64 x.sign)]
instance : BEq TConsolidationSpot := ⟨fun a b => ((a.account == b.account) && ((a.entity == b.entity) && ((a.partner == b.partner) && ((a.ref == b.ref) && true))))⟩
instance : LawfulBEq TConsolidationSpot where
  eq_of_beq {a b} h := by
    obtain ⟨a0, a1, a2, a3⟩ := a
    obtain ⟨b0, b1, b2, b3⟩ := b
    simp only [BEq.beq, Bool.and_eq_true, decide_eq_true_eq] at h
    obtain ⟨h0, h1, h2, h3, _⟩ := h
    subst h0
    subst h1
    subst h2
    subst h3
    rfl
  rfl {a} := by simp [BEq.beq]
theorem keyEq92 : ∀ a b : TConsolidationSpot, eqD Try.prog 8 92 (TConsolidationSpot.e a) (TConsolidationSpot.e b) = some (a == b) := fun a b => by kernel_rfl
theorem keyEq3 : ∀ a b : Int, eqD Try.prog 8 3 ((DV.i .i64) a) ((DV.i .i64) b) = some (a == b) := fun a b => by kernel_rfl

/-! 9 -/
abbrev R9 := TTreasuryplaySrc
def V9 (_ : R9) : AV := (AV.ptr 0 1 [])
def L9 (x : R9) : List Ob := [(Ob.box (AV.d (TTreasuryplaySrc.e x)))]
noncomputable def F9 (a0 : (List Int)) : Option R9 :=
  guardP (AllP [(0 : Int) ≤ (if 900 < (a0.length : Int) then 900 else (a0.length : Int)), ((if 900 < (a0.length : Int) then 900 else (a0.length : Int))).toNat ≤ a0.length]) <|
  some (⟨(a0.take (((if 900 < (a0.length : Int) then 900 else (a0.length : Int))).toNat)), 0⟩ : TTreasuryplaySrc)



/-! 19 -/
abbrev R19 := Int × TTreasuryplaySrc
def V19 (x : R19) : AV := (AV.d (DV.i .i64 x.1))
def L19 (x : R19) : List Ob := [(Ob.box (AV.d (TTreasuryplaySrc.e x.2)))]
noncomputable def F19 (a1 : Int) (p0 : TTreasuryplaySrc) : Option R19 :=
  if (bif (decide (p0.At ≥ (p0.L.length : Int))) then true else (decide (a1 < 1))) = true then (
  some (0, p0))
  else (
  guardP (AllP [(0 : Int) ≤ (IntKind.i64.wrap ((IntKind.i64.wrap (p0.At + 1)) - 1)), ((IntKind.i64.wrap ((IntKind.i64.wrap (p0.At + 1)) - 1))).toNat < p0.L.length, (a1 : Int) ≠ 0]) <|
  some (((IntKind.i64.wrap (((p0.L.getD (((IntKind.i64.wrap ((IntKind.i64.wrap (p0.At + 1)) - 1))).toNat) default).tmod a1) + a1)).tmod a1), (⟨p0.L, (IntKind.i64.wrap (p0.At + 1))⟩ : TTreasuryplaySrc)))



/-! 23 -/
abbrev R23 := Int × TTreasuryplaySrc
def V23 (x : R23) : AV := (AV.d (DV.i .i64 x.1))
def L23 (x : R23) : List Ob := [(Ob.box (AV.d (TTreasuryplaySrc.e x.2)))]
noncomputable def F23 (a1 : Int) (a2 : Int) (p0 : TTreasuryplaySrc) : Option R23 :=
  (F19 (IntKind.i64.wrap ((IntKind.i64.wrap (a2 - a1)) + 1)) p0).bind fun r23 =>
  some ((IntKind.i64.wrap (a1 + r23.1)), r23.2)



/-! 15 -/
abbrev R15 := Int × TTreasuryplaySrc
def V15 (x : R15) : AV := (AV.d (DV.i .i64 x.1))
def L15 (x : R15) : List Ob := [(Ob.box (AV.d (TTreasuryplaySrc.e x.2)))]
noncomputable def F15 (a1 : (List Int)) (p0 : TTreasuryplaySrc) : Option R15 :=
  (F19 (a1.length : Int) p0).bind fun r31 =>
  guardP (AllP [(0 : Int) ≤ r31.1, (r31.1).toNat < a1.length]) <|
  some ((a1.getD ((r31.1).toNat) default), r31.2)



/-! 20 -/
abbrev R20 := TApiPosting × TTreasuryplaySrc
def V20 (x : R20) : AV := (AV.d (TApiPosting.e x.1))
def L20 (x : R20) : List Ob := [(Ob.box (AV.d (TTreasuryplaySrc.e x.2)))]
noncomputable def F20 (a1 : Int) (a2 : Int) (a3 : Int) (p0 : TTreasuryplaySrc) : Option R20 :=
  (F23 1 a3 p0).bind fun r74 =>
  (F15 ([110, 120, 210, 300, 410, 510, 520] : List Int) r74.2).bind fun r76 =>
  (F15 ([111, 119, 220, 310, 420, 530] : List Int) r76.2).bind fun r78 =>
  (F15 ([1, 20, 100, 1000] : List Int) r78.2).bind fun r80 =>
  (F19 4 r80.2).bind fun r82 =>
  (optD [(decide (a3 > 1)) = true] (F19 2 r82.2) (default, r82.2)).bind fun r84 =>
  Option.bind (α := TTreasuryplaySrc × TApiPosting) (
  if (bif (decide (a3 > 1)) then (r84.1 == 1) else false) = true then (
  guardP (AllP [(a3 : Int) ≠ 0]) <|
  (F19 4 r84.2).bind fun r104 =>
  Option.bind (α := TApiPosting) (
  if (r104.1 == 0) = true then (
  some (⟨a1, a2, r74.1, 140, 440, r80.1, (IntKind.i64.wrap ((r74.1.tmod a3) + 1)), r82.1⟩ : TApiPosting))
  else (
  if (r104.1 == 1) = true then (
  some (⟨a1, a2, r74.1, 540, 240, r80.1, (IntKind.i64.wrap ((r74.1.tmod a3) + 1)), r82.1⟩ : TApiPosting))
  else (
  if (r104.1 == 2) = true then (
  some (⟨a1, a2, r74.1, 240, 110, r80.1, (IntKind.i64.wrap ((r74.1.tmod a3) + 1)), r82.1⟩ : TApiPosting))
  else (
  some (⟨a1, a2, r74.1, 110, 140, r80.1, (IntKind.i64.wrap ((r74.1.tmod a3) + 1)), r82.1⟩ : TApiPosting))))) fun s109 =>
  some (r104.2, s109))
  else (
  some (r84.2, (⟨a1, a2, r74.1, r76.1, r78.1, r80.1, 0, r82.1⟩ : TApiPosting)))) fun s99 =>
  some (s99.2, s99.1)



/-! 60 -/
abbrev R60 := Bool
def V60 (x : R60) : AV := (AV.d (DV.b x))
def L60 (_ : R60) : List Ob := []
noncomputable def F60 (a0 : Int) : Option R60 :=
  some (bif (decide (a0 ≥ 0)) then (decide (a0 ≤ 36000)) else false)



/-! 44 -/
abbrev R44 := Int
def V44 (x : R44) : AV := (AV.d (DV.i .i64 x))
def L44 (_ : R44) : List Ob := []
noncomputable def F44 (a0 : Int) : Option R44 :=
  if (bif (decide (a0 < 100)) then true else (decide (a0 > 599))) = true then (
  some 0)
  else (
  some (IntKind.i64.wrap (a0.tdiv 100)))



/-! 46 -/
abbrev R46 := Bool
def V46 (x : R46) : AV := (AV.d (DV.b x))
def L46 (_ : R46) : List Ob := []
noncomputable def F46 (a0 : TApiPosting) : Option R46 :=
  (optP [(bif (decide (a0.Number ≥ 1)) then (decide (a0.Number ≤ 1000000)) else false) = true] (F60 a0.Day)).bind fun r127 =>
  (optP [(bif (bif (bif (bif (bif (decide (a0.Number ≥ 1)) then (decide (a0.Number ≤ 1000000)) else false) then r127 else false) then (decide (a0.Entity ≥ 1)) else false) then (decide (a0.Entity ≤ 10)) else false) then (a0.Debit != a0.Credit) else false) = true] (F44 a0.Debit)).bind fun r129 =>
  (optP [(bif (bif (bif (bif (bif (bif (decide (a0.Number ≥ 1)) then (decide (a0.Number ≤ 1000000)) else false) then r127 else false) then (decide (a0.Entity ≥ 1)) else false) then (decide (a0.Entity ≤ 10)) else false) then (a0.Debit != a0.Credit) else false) then (r129 != 0) else false) = true] (F44 a0.Credit)).bind fun r131 =>
  some (bif (bif (bif (bif (bif (bif (bif (bif (bif (bif (bif (bif (bif (bif (decide (a0.Number ≥ 1)) then (decide (a0.Number ≤ 1000000)) else false) then r127 else false) then (decide (a0.Entity ≥ 1)) else false) then (decide (a0.Entity ≤ 10)) else false) then (a0.Debit != a0.Credit) else false) then (r129 != 0) else false) then (r131 != 0) else false) then (decide (a0.Amount ≥ 1)) else false) then (decide (a0.Amount ≤ 1000000000000)) else false) then (decide (a0.Partner ≥ 0)) else false) then (decide (a0.Partner ≤ 10)) else false) then (a0.Partner != a0.Entity) else false) then (decide (a0.Ref ≥ 0)) else false) then (decide (a0.Ref ≤ 1000000)) else false)



/-! 43 -/
abbrev R43 := Int
def V43 (x : R43) : AV := (AV.d (DV.i .i64 x))
def L43 (_ : R43) : List Ob := []
noncomputable def F43_b1 (a0 : TApiLedger) (i184 : Nat) (_ : Unit) : Option (Step (Unit) R43) :=
  outM (σ := Unit) (ρ := (Step (Unit) R43)) (
  (F46 (a0.Postings.getD i184 default)).bind fun r203 =>
  if (!r203) = true then (
  some (Out.ret (Step.ret 85)))
  else (
  some (Out.next ()))) (fun _ =>
  some (Step.cont ())) (fun x => some x)

noncomputable def F43_b2 (a0 : TApiLedger) (i208 : Nat) (_ : Unit) : Option (Step (Unit) R43) :=
  outM (σ := Unit) (ρ := (Step (Unit) R43)) (
  guardP (AllP [AllP [(decide ((i208 : Int) > 0)) = true, (((a0.Postings.getD i208 default).Number) != (IntKind.i64.wrap ((i208 : Int) + 1))) = false] → ((0 : Int) ≤ (IntKind.i64.wrap ((i208 : Int) - 1))), AllP [(decide ((i208 : Int) > 0)) = true, (((a0.Postings.getD i208 default).Number) != (IntKind.i64.wrap ((i208 : Int) + 1))) = false] → (((IntKind.i64.wrap ((i208 : Int) - 1))).toNat < a0.Postings.length)]) <|
  if (bif (((a0.Postings.getD i208 default).Number) != (IntKind.i64.wrap ((i208 : Int) + 1))) then true else (bif (decide ((i208 : Int) > 0)) then (decide (((a0.Postings.getD (((IntKind.i64.wrap ((i208 : Int) - 1))).toNat) default).Day) > ((a0.Postings.getD i208 default).Day))) else false)) = true then (
  some (Out.ret (Step.ret 86)))
  else (
  some (Out.next ()))) (fun _ =>
  some (Step.cont ())) (fun x => some x)

noncomputable def F43 (a0 : TApiLedger) : Option R43 :=
  if (decide ((a0.Postings.length : Int) > 400)) = true then (
  some 3)
  else (
  outM (σ := Unit) (ρ := R43) (rangeM (F43_b1 a0) a0.Postings.length 0 ()) (fun _ =>
  outM (σ := Unit) (ρ := R43) (rangeM (F43_b2 a0) a0.Postings.length 0 ()) (fun _ =>
  some 0) (fun x => some x)) (fun x => some x))



/-! 16 -/
abbrev R16 := TApiLedger × Int
def V16 (x : R16) : AV := (AV.tup [(AV.d (TApiLedger.e x.1)), (AV.d (DV.i .i64 x.2))])
def L16 (_ : R16) : List Ob := []
noncomputable def F16 (a0 : TApiLedger) (a1 : TApiPosting) : Option R16 :=
  (F43 a0).bind fun r261 =>
  if (r261 != 0) = true then (
  some ((⟨[]⟩ : TApiLedger), r261))
  else (
  outM (σ := Unit) (ρ := R16) (
  (F46 a1).bind fun r275 =>
  if (!r275) = true then (
  some (Out.ret ((⟨[]⟩ : TApiLedger), 85)))
  else (
  if ((a0.Postings.length : Int) == 400) = true then (
  some (Out.ret ((⟨[]⟩ : TApiLedger), 3)))
  else (
  if (a1.Number != (IntKind.i64.wrap ((a0.Postings.length : Int) + 1))) = true then (
  some (Out.ret ((⟨[]⟩ : TApiLedger), 65)))
  else (
  guardP (AllP [AllP [(decide ((a0.Postings.length : Int) > 0)) = true] → ((0 : Int) ≤ (IntKind.i64.wrap ((a0.Postings.length : Int) - 1))), AllP [(decide ((a0.Postings.length : Int) > 0)) = true] → (((IntKind.i64.wrap ((a0.Postings.length : Int) - 1))).toNat < a0.Postings.length)]) <|
  if (bif (decide ((a0.Postings.length : Int) > 0)) then (decide (a1.Day < ((a0.Postings.getD (((IntKind.i64.wrap ((a0.Postings.length : Int) - 1))).toNat) default).Day))) else false) = true then (
  some (Out.ret ((⟨[]⟩ : TApiLedger), 8)))
  else (
  some (Out.next ())))))) (fun _ =>
  guardP (AllP [a0.Postings.length * (2 * 64) ≤ 2 ^ 48, (a0.Postings.length + 1) * (2 * 64) ≤ 2 ^ 48]) <|
  guardP ((a0.Postings ++ ([a1] : List TApiPosting)).length < 2 ^ 63) <|
  some ((⟨(a0.Postings ++ ([a1] : List TApiPosting))⟩ : TApiLedger), 0)) (fun x => some x))



/-! 10 -/
abbrev R10 := TApiLedger × TTreasuryplaySrc
def V10 (x : R10) : AV := (AV.d (TApiLedger.e x.1))
def L10 (x : R10) : List Ob := [(Ob.box (AV.d (TTreasuryplaySrc.e x.2)))]
noncomputable def F10_b1 (a2 : Int) (a3 : Int) (s399 : TTreasuryplaySrc × TApiLedger × Int × Int) : Option (Step (TTreasuryplaySrc × TApiLedger × Int × Int) R10) :=
  if (decide (s399.2.2.2 > 0)) = true then (
  Option.bind (α := TTreasuryplaySrc × TApiLedger × Int) (
  (F19 (IntKind.i64.wrap ((IntKind.i64.wrap (a3.tdiv 4)) + 2)) s399.1).bind fun r413 =>
  (F20 (IntKind.i64.wrap ((s399.2.1.Postings.length : Int) + 1)) (if a3 < (IntKind.i64.wrap (s399.2.2.1 + r413.1)) then a3 else (IntKind.i64.wrap (s399.2.2.1 + r413.1))) a2 r413.2).bind fun r417 =>
  (F16 s399.2.1 r417.1).bind fun r418 =>
  if (r418.2 == 0) = true then (
  some (r417.2, r418.1, (if a3 < (IntKind.i64.wrap (s399.2.2.1 + r413.1)) then a3 else (IntKind.i64.wrap (s399.2.2.1 + r413.1)))))
  else (
  some (r417.2, s399.2.1, (if a3 < (IntKind.i64.wrap (s399.2.2.1 + r413.1)) then a3 else (IntKind.i64.wrap (s399.2.2.1 + r413.1)))))) fun s410 =>
  some (Step.cont (s410.1, s410.2.1, s410.2.2, (IntKind.i64.wrap (s399.2.2.2 - 1)))))
  else (
  some (Step.brk (s399.1, s399.2.1, s399.2.2.1, s399.2.2.2)))

noncomputable def F10 (a1 : Int) (a2 : Int) (a3 : Int) (p0 : TTreasuryplaySrc) : Option R10 :=
  (F19 (IntKind.i64.wrap (a1 + 1)) p0).bind fun r352 =>
  outM (σ := TTreasuryplaySrc × TApiLedger × Int × Int) (ρ := R10) (iterM (F10_b1 a2 a3) (r352.2, (⟨[]⟩ : TApiLedger), 0, r352.1)) (fun s399 =>
  some (s399.2.1, s399.1)) (fun _ => none)



/-! 67 -/
abbrev R67 := Bool
def V67 (x : R67) : AV := (AV.d (DV.b x))
def L67 (_ : R67) : List Ob := []
noncomputable def F67 (a0 : Int) (a1 : Int) (a2 : Int) : Option R67 :=
  some (bif (decide (a0 ≥ a1)) then (decide (a0 ≤ a2)) else false)



/-! 68 -/
abbrev R68 := Bool
def V68 (x : R68) : AV := (AV.d (DV.b x))
def L68 (_ : R68) : List Ob := []
noncomputable def F68 (a0 : Int) : Option R68 :=
  (F67 a0 1 10).bind fun r438 =>
  some r438



/-! 69 -/
abbrev R69 := Int
def V69 (x : R69) : AV := (AV.d (DV.i .i64 x))
def L69 (_ : R69) : List Ob := []
noncomputable def F69 (a0 : Int) : Option R69 :=
  (F67 a0 100 599).bind fun r445 =>
  if (!r445) = true then (
  some 0)
  else (
  some (IntKind.i64.wrap (a0.tdiv 100)))



/-! 63 -/
abbrev R63 := Bool
def V63 (x : R63) : AV := (AV.d (DV.b x))
def L63 (_ : R63) : List Ob := []
noncomputable def F63 (a0 : TApiPosting) : Option R63 :=
  (F67 a0.Number 1 1000000).bind fun r458 =>
  (optP [r458 = true] (F67 a0.Day 0 36000)).bind fun r460 =>
  (optP [(bif r458 then r460 else false) = true] (F68 a0.Entity)).bind fun r462 =>
  (optP [(bif (bif r458 then r460 else false) then r462 else false) = true] (F69 a0.Debit)).bind fun r464 =>
  (optP [(bif (bif (bif r458 then r460 else false) then r462 else false) then (decide (r464 > 0)) else false) = true] (F69 a0.Credit)).bind fun r466 =>
  (optP [(bif (bif (bif (bif (bif r458 then r460 else false) then r462 else false) then (decide (r464 > 0)) else false) then (decide (r466 > 0)) else false) then (a0.Debit != a0.Credit) else false) = true] (F67 a0.Amount 1 1000000000000)).bind fun r468 =>
  (optP [(bif (bif (bif (bif (bif (bif r458 then r460 else false) then r462 else false) then (decide (r464 > 0)) else false) then (decide (r466 > 0)) else false) then (a0.Debit != a0.Credit) else false) then r468 else false) = true] (F67 a0.Partner 0 10)).bind fun r470 =>
  (optP [(bif (bif (bif (bif (bif (bif (bif (bif r458 then r460 else false) then r462 else false) then (decide (r464 > 0)) else false) then (decide (r466 > 0)) else false) then (a0.Debit != a0.Credit) else false) then r468 else false) then r470 else false) then (a0.Partner != a0.Entity) else false) = true] (F67 a0.Ref 0 1000000)).bind fun r472 =>
  some (bif (bif (bif (bif (bif (bif (bif (bif (bif r458 then r460 else false) then r462 else false) then (decide (r464 > 0)) else false) then (decide (r466 > 0)) else false) then (a0.Debit != a0.Credit) else false) then r468 else false) then r470 else false) then (a0.Partner != a0.Entity) else false) then r472 else false)



/-! 62 -/
abbrev R62 := Bool
def V62 (x : R62) : AV := (AV.d (DV.b x))
def L62 (_ : R62) : List Ob := []
noncomputable def F62 (a0 : TApiPosting) : Option R62 :=
  (F63 a0).bind fun r476 =>
  some (!r476)



/-! 66 -/
abbrev R66_62 := Int
def V66_62 (x : R66_62) : AV := (AV.d (DV.i .i64 x))
def L66_62 (_ : R66_62) : List Ob := []
noncomputable def F66_62_b1 (a0 : (List TApiPosting)) (i502 : Nat) (_ : Unit) : Option (Step (Unit) R66_62) :=
  outM (σ := Unit) (ρ := (Step (Unit) R66_62)) (
  (F62 (a0.getD i502 default)).bind fun r521 =>
  if r521 = true then (
  some (Out.ret (Step.ret (i502 : Int))))
  else (
  some (Out.next ()))) (fun _ =>
  some (Step.cont ())) (fun x => some x)

noncomputable def F66_62 (a0 : (List TApiPosting)) : Option R66_62 :=
  outM (σ := Unit) (ρ := R66_62) (rangeM (F66_62_b1 a0) a0.length 0 ()) (fun _ =>
  some (-1)) (fun x => some x)



/-! 61 -/
abbrev R61_62 := Bool
def V61_62 (x : R61_62) : AV := (AV.d (DV.b x))
def L61_62 (_ : R61_62) : List Ob := []
noncomputable def F61_62 (a0 : (List TApiPosting)) : Option R61_62 :=
  (F66_62 a0).bind fun r530 =>
  some (decide (r530 ≥ 0))



/-! 50 -/
abbrev R50 := Int
def V50 (x : R50) : AV := (AV.d (DV.i .i64 x))
def L50 (_ : R50) : List Ob := []
noncomputable def F50_b1 (a0 : TApiLedger) (i579 : Nat) (_ : Unit) : Option (Step (Unit) R50) :=
  outM (σ := Unit) (ρ := (Step (Unit) R50)) (
  guardP (AllP [AllP [(decide ((i579 : Int) > 0)) = true, (((a0.Postings.getD i579 default).Number) != (IntKind.i64.wrap ((i579 : Int) + 1))) = false] → ((0 : Int) ≤ (IntKind.i64.wrap ((i579 : Int) - 1))), AllP [(decide ((i579 : Int) > 0)) = true, (((a0.Postings.getD i579 default).Number) != (IntKind.i64.wrap ((i579 : Int) + 1))) = false] → (((IntKind.i64.wrap ((i579 : Int) - 1))).toNat < a0.Postings.length)]) <|
  if (bif (((a0.Postings.getD i579 default).Number) != (IntKind.i64.wrap ((i579 : Int) + 1))) then true else (bif (decide ((i579 : Int) > 0)) then (decide (((a0.Postings.getD (((IntKind.i64.wrap ((i579 : Int) - 1))).toNat) default).Day) > ((a0.Postings.getD i579 default).Day))) else false)) = true then (
  some (Out.ret (Step.ret 86)))
  else (
  some (Out.next ()))) (fun _ =>
  some (Step.cont ())) (fun x => some x)

noncomputable def F50 (a0 : TApiLedger) : Option R50 :=
  outM (σ := Unit) (ρ := R50) (
  if (decide ((a0.Postings.length : Int) > 400)) = true then (
  some (Out.ret 3))
  else (
  (F61_62 a0.Postings).bind fun r576 =>
  if r576 = true then (
  some (Out.ret 85))
  else (
  some (Out.next ())))) (fun _ =>
  outM (σ := Unit) (ρ := R50) (rangeM (F50_b1 a0) a0.Postings.length 0 ()) (fun _ =>
  some 0) (fun x => some x)) (fun x => some x)



/-! 24 -/
abbrev R24 := Int
def V24 (x : R24) : AV := (AV.d (DV.i .i64 x))
def L24 (_ : R24) : List Ob := []
noncomputable def F24_b1 (a1 : (List Int)) (i638 : Nat) (_ : Unit) : Option (Step (Unit) R24) :=
  outM (σ := Unit) (ρ := (Step (Unit) R24)) (
  guardP (AllP [AllP [(decide ((i638 : Int) > 0)) = true, (bif (decide ((a1.getD i638 default) < 1)) then true else (decide ((a1.getD i638 default) > 10))) = false] → ((0 : Int) ≤ (IntKind.i64.wrap ((i638 : Int) - 1))), AllP [(decide ((i638 : Int) > 0)) = true, (bif (decide ((a1.getD i638 default) < 1)) then true else (decide ((a1.getD i638 default) > 10))) = false] → (((IntKind.i64.wrap ((i638 : Int) - 1))).toNat < a1.length)]) <|
  if (bif (bif (decide ((a1.getD i638 default) < 1)) then true else (decide ((a1.getD i638 default) > 10))) then true else (bif (decide ((i638 : Int) > 0)) then (decide ((a1.getD (((IntKind.i64.wrap ((i638 : Int) - 1))).toNat) default) ≥ (a1.getD i638 default))) else false)) = true then (
  some (Out.ret (Step.ret 89)))
  else (
  some (Out.next ()))) (fun _ =>
  some (Step.cont ())) (fun x => some x)

noncomputable def F24 (a0 : TApiLedger) (a1 : (List Int)) : Option R24 :=
  (F50 a0).bind fun r635 =>
  if (r635 != 0) = true then (
  some r635)
  else (
  outM (σ := Unit) (ρ := R24) (rangeM (F24_b1 a1) a1.length 0 ()) (fun _ =>
  if ((a1.length : Int) == 0) = true then (
  some 89)
  else (
  some 0)) (fun x => some x))



/-! 47 -/
abbrev R47 := Int
def V47 (x : R47) : AV := (AV.d (DV.i .i64 x))
def L47 (_ : R47) : List Ob := []
noncomputable def F47 (a0 : TApiLedger) (a1 : (List Int)) (a2 : Int) : Option R47 :=
  (F24 a0 a1).bind fun r672 =>
  Option.bind (α := Int) (
  if (bif (r672 == 0) then (bif (decide (a2 < 0)) then true else (decide (a2 > 36000))) else false) = true then (
  some 2)
  else (
  some r672)) fun s675 =>
  some s675



/-! 64 -/
abbrev R64 := List Int
def V64 (_ : R64) : AV := .tup []
def L64 (x : R64) : List Ob := [eS 1 (DV.i .i64) x]
noncomputable def F64 (p0 : List Int) : Option R64 := guardP (p0.length < 4611686018427387904) (some (isort p0))


/-! 65 -/
abbrev R65 := List Int
def V65 (x : R65) : AV := .d (eL (DV.i .i64) x)
def L65 (_ : R65) : List Ob := [.dead]
noncomputable def F65 (p0 : List Int) : Option R65 := guardP (p0.length < 4611686018427387904) (some (Lib.compact p0))


/-! 58 -/
abbrev R58 := (List Int)
def V58 (x : R58) : AV := (AV.d (eL (DV.i .i64) x))
def L58 (_ : R58) : List Ob := []
noncomputable def F58_b1 (a0 : TApiLedger) (i709 : Nat) (s720 : (List Int)) : Option (Step ((List Int)) R58) :=
  Option.bind (α := (List Int)) (
  guardP (AllP [(s720.length + 1) * (2 * 8) ≤ 2 ^ 48]) <|
  some (s720 ++ ([(a0.Postings.getD i709 default).Ref] : List Int))) fun s723 =>
  some (Step.cont s723)

noncomputable def F58 (a0 : TApiLedger) : Option R58 :=
  outM (σ := (List Int)) (ρ := R58) (rangeM (F58_b1 a0) a0.Postings.length 0 ([] : List Int)) (fun s720 =>
  (F64 s720).bind fun r729 =>
  guardP (r729.length = s720.length) <|
  (F65 r729).bind fun r732 =>
  some r732) (fun _ => none)



/-! 55 -/
abbrev R55 := (List (TConsolidationSpot × Int))
def V55 (_ : R55) : AV := (AV.map 1)
def L55 (x : R55) : List Ob := [Ob.dead, (eM TConsolidationSpot.e (DV.i .i64) x)]
noncomputable def F55_b1 (a0 : TApiLedger) (a1 : Int) (i767 : Nat) (s780 : (List (TConsolidationSpot × Int))) : Option (Step ((List (TConsolidationSpot × Int))) R55) :=
  Option.bind (α := (List (TConsolidationSpot × Int))) (
  if (decide (((a0.Postings.getD i767 default).Day) ≤ a1)) = true then (
  some (mupd (mupd s780 (⟨(a0.Postings.getD i767 default).Debit, (a0.Postings.getD i767 default).Entity, (a0.Postings.getD i767 default).Partner, (a0.Postings.getD i767 default).Ref⟩ : TConsolidationSpot) (IntKind.i64.wrap ((mget s780 (⟨(a0.Postings.getD i767 default).Debit, (a0.Postings.getD i767 default).Entity, (a0.Postings.getD i767 default).Partner, (a0.Postings.getD i767 default).Ref⟩ : TConsolidationSpot) 0) + ((a0.Postings.getD i767 default).Amount)))) (⟨(a0.Postings.getD i767 default).Credit, (a0.Postings.getD i767 default).Entity, (a0.Postings.getD i767 default).Partner, (a0.Postings.getD i767 default).Ref⟩ : TConsolidationSpot) (IntKind.i64.wrap ((mget (mupd s780 (⟨(a0.Postings.getD i767 default).Debit, (a0.Postings.getD i767 default).Entity, (a0.Postings.getD i767 default).Partner, (a0.Postings.getD i767 default).Ref⟩ : TConsolidationSpot) (IntKind.i64.wrap ((mget s780 (⟨(a0.Postings.getD i767 default).Debit, (a0.Postings.getD i767 default).Entity, (a0.Postings.getD i767 default).Partner, (a0.Postings.getD i767 default).Ref⟩ : TConsolidationSpot) 0) + ((a0.Postings.getD i767 default).Amount)))) (⟨(a0.Postings.getD i767 default).Credit, (a0.Postings.getD i767 default).Entity, (a0.Postings.getD i767 default).Partner, (a0.Postings.getD i767 default).Ref⟩ : TConsolidationSpot) 0) - ((a0.Postings.getD i767 default).Amount)))))
  else (
  some s780)) fun s783 =>
  some (Step.cont s783)

noncomputable def F55 (a0 : TApiLedger) (a1 : Int) : Option R55 :=
  (F50 a0).bind fun r764 =>
  if (r764 != 0) = true then (
  some ([] : (List (TConsolidationSpot × Int))))
  else (
  outM (σ := (List (TConsolidationSpot × Int))) (ρ := R55) (rangeM (F55_b1 a0 a1) a0.Postings.length 0 ([] : (List (TConsolidationSpot × Int)))) (fun s780 =>
  some s780) (fun _ => none))



/-! 59 -/
abbrev R59 := (Nat → TConsolidationMutual)
def V59 (x : R59) : AV := (AV.d (eA 4 2 TConsolidationMutual.e x))
def L59 (_ : R59) : List Ob := []
noncomputable def F59 : Option R59 :=
  some (fun j => ([(⟨1, 140, 240, 1⟩ : TConsolidationMutual), (⟨2, 440, 540, (-1)⟩ : TConsolidationMutual)] : List TConsolidationMutual).getD j default)



/-! 48 -/
abbrev R48 := (List TApiDifference)
def V48 (_ : R48) : AV := (AV.tup [])
def L48 (x : R48) : List Ob := [(Ob.box (AV.ref 1 x.length 0 x.length)), (eS 5 TApiDifference.e x)]
noncomputable def F48 (_ : TConsolidationMutual) (a1 : TApiDifference) (a2 : Int) (a3 : Int) (p1 : (List TApiDifference)) : Option R48 :=
  if ((IntKind.i64.wrap (a2 - a3)) != 0) = true then (
  guardP (AllP [(p1.length + 1) * (2 * 40) ≤ 2 ^ 48]) <|
  some (p1 ++ ([(⟨a1.Kind, a1.A, a1.B, a1.Ref, (IntKind.i64.wrap (a2 - a3))⟩ : TApiDifference)] : List TApiDifference)))
  else (
  some p1)



/-! 40 -/
abbrev R40_48 := (List TApiDifference)
def V40_48 (_ : R40_48) : AV := (AV.tup [])
def L40_48 (x : R40_48) : List Ob := [(Ob.box (AV.ref 1 x.length 0 x.length)), (eS 5 TApiDifference.e x)]
noncomputable def F40_48_b1 (a1 : (List Int)) (r8270 : R58) (r8271 : R55) (r8274 : R59) (i8276 : Nat) (i14500 : Nat) (i15534 : Nat) (i15704 : Nat) (s15721 : (List TApiDifference)) : Option (Step ((List TApiDifference)) R40_48) :=
  Option.bind (α := (List TApiDifference)) (
  (F48 (r8274 i8276) (⟨(r8274 i8276).kind, (a1.getD i14500 default), (a1.getD i15534 default), (r8270.getD i15704 default), 0⟩ : TApiDifference) (IntKind.i64.wrap (((r8274 i8276).sign) * (mget r8271 (⟨(r8274 i8276).first, (a1.getD i14500 default), (a1.getD i15534 default), (r8270.getD i15704 default)⟩ : TConsolidationSpot) 0))) (IntKind.i64.wrap ((IntKind.i64.wrap (0 - ((r8274 i8276).sign))) * (mget r8271 (⟨(r8274 i8276).second, (a1.getD i15534 default), (a1.getD i14500 default), (r8270.getD i15704 default)⟩ : TConsolidationSpot) 0))) s15721).bind fun r15728 =>
  some r15728) fun s15725 =>
  some (Step.cont s15725)

noncomputable def F40_48_b2 (a1 : (List Int)) (r8270 : R58) (r8271 : R55) (r8274 : R59) (i8276 : Nat) (i14500 : Nat) (i15534 : Nat) (s15667 : (List TApiDifference)) : Option (Step ((List TApiDifference)) R40_48) :=
  Option.bind (α := (List TApiDifference)) (
  if ((a1.getD i14500 default) == (a1.getD i15534 default)) = true then (
  some s15667)
  else (
  outM (σ := (List TApiDifference)) (ρ := R40_48) (rangeM (F40_48_b1 a1 r8270 r8271 r8274 i8276 i14500 i15534) r8270.length 0 s15667) (fun s15721 =>
  some s15721) (fun _ => none))) fun s15700 =>
  some (Step.cont s15700)

noncomputable def F40_48_b3 (a1 : (List Int)) (r8270 : R58) (r8271 : R55) (r8274 : R59) (i8276 : Nat) (i14500 : Nat) (s15325 : (List TApiDifference)) : Option (Step ((List TApiDifference)) R40_48) :=
  Option.bind (α := (List TApiDifference)) (
  outM (σ := (List TApiDifference)) (ρ := R40_48) (rangeM (F40_48_b2 a1 r8270 r8271 r8274 i8276 i14500) a1.length 0 s15325) (fun s15667 =>
  some s15667) (fun _ => none)) fun s15531 =>
  some (Step.cont s15531)

noncomputable def F40_48_b4 (a1 : (List Int)) (r8270 : R58) (r8271 : R55) (r8274 : R59) (i8276 : Nat) (s13253 : (List TApiDifference)) : Option (Step ((List TApiDifference)) R40_48) :=
  Option.bind (α := (List TApiDifference)) (
  outM (σ := (List TApiDifference)) (ρ := R40_48) (rangeM (F40_48_b3 a1 r8270 r8271 r8274 i8276) a1.length 0 s13253) (fun s15325 =>
  some s15325) (fun _ => none)) fun s14497 =>
  some (Step.cont s14497)

noncomputable def F40_48 (a0 : TApiLedger) (a1 : (List Int)) (a2 : Int) (p1 : (List TApiDifference)) : Option R40_48 :=
  (F58 a0).bind fun r8270 =>
  (F55 a0 a2).bind fun r8271 =>
  (F59).bind fun r8274 =>
  outM (σ := (List TApiDifference)) (ρ := R40_48) (rangeM (F40_48_b4 a1 r8270 r8271 r8274) 2 0 p1) (fun s13253 =>
  some s13253) (fun _ => none)



/-! 17 -/
abbrev R17 := (List TApiDifference) × Int
def V17 (x : R17) : AV := (AV.tup [(AV.d (eL TApiDifference.e x.1)), (AV.d (DV.i .i64 x.2))])
def L17 (_ : R17) : List Ob := []
noncomputable def F17 (a0 : TApiLedger) (a1 : (List Int)) (a2 : Int) : Option R17 :=
  (F47 a0 a1 a2).bind fun r15748 =>
  if (r15748 != 0) = true then (
  some ([], r15748))
  else (
  (F40_48 a0 a1 a2 ([] : List TApiDifference)).bind fun r15751 =>
  guardP (r15751.length < 2 ^ 63) <|
  some (r15751, 0))



/-! 57 -/
abbrev R57 := Int
def V57 (x : R57) : AV := (AV.d (DV.i .i64 x))
def L57 (_ : R57) : List Ob := []
noncomputable def F57_b1 (a0 : (List Int)) (a1 : Int) (i15777 : Nat) (_ : Unit) : Option (Step (Unit) R57) :=
  outM (σ := Unit) (ρ := (Step (Unit) R57)) (
  if (a1 == (a0.getD i15777 default)) = true then (
  some (Out.ret (Step.ret (i15777 : Int))))
  else (
  some (Out.next ()))) (fun _ =>
  some (Step.cont ())) (fun x => some x)

noncomputable def F57 (a0 : (List Int)) (a1 : Int) : Option R57 :=
  outM (σ := Unit) (ρ := R57) (rangeM (F57_b1 a0 a1) a0.length 0 ()) (fun _ =>
  some (-1)) (fun x => some x)



/-! 39 -/
abbrev R39 := Bool
def V39 (x : R39) : AV := (AV.d (DV.b x))
def L39 (_ : R39) : List Ob := []
noncomputable def F39 (a0 : (List Int)) (a1 : Int) : Option R39 :=
  (F57 a0 a1).bind fun r15797 =>
  some (decide (r15797 ≥ 0))



/-! 38 -/
abbrev R38 := Bool
def V38 (x : R38) : AV := (AV.d (DV.b x))
def L38 (p0 : (List Int)) (p1 : Int) (_ : R38) : List Ob := [(Ob.box (AV.d (eL (DV.i .i64) p0))), (Ob.box (AV.d (DV.i .i64 p1)))]
noncomputable def F38 (a0 : TApiPosting) (p0 : (List Int)) (p1 : Int) : Option R38 :=
  (F39 p0 a0.Entity).bind fun r15801 =>
  some (bif r15801 then (decide (a0.Day ≤ p1)) else false)



/-! 37 -/
abbrev R37_38 := (List (Int × Int))
def V37_38 (_ : R37_38) : AV := (AV.map 2)
def L37_38 (p0 : (List Int)) (p1 : Int) (x : R37_38) : List Ob := [(Ob.box (AV.d (eL (DV.i .i64) p0))), (Ob.box (AV.d (DV.i .i64 p1))), (eM (DV.i .i64) (DV.i .i64) x)]
noncomputable def F37_38_b1 (a0 : (List TApiPosting)) (p0 : (List Int)) (p1 : Int) (i15837 : Nat) (s15858 : (List (Int × Int))) : Option (Step ((List (Int × Int))) R37_38) :=
  Option.bind (α := (List (Int × Int))) (
  (F38 (a0.getD i15837 default) p0 p1).bind fun r15866 =>
  if r15866 = true then (
  some (mupd (mupd s15858 ((a0.getD i15837 default).Debit) (IntKind.i64.wrap ((mget s15858 ((a0.getD i15837 default).Debit) 0) + ((a0.getD i15837 default).Amount)))) ((a0.getD i15837 default).Credit) (IntKind.i64.wrap ((mget (mupd s15858 ((a0.getD i15837 default).Debit) (IntKind.i64.wrap ((mget s15858 ((a0.getD i15837 default).Debit) 0) + ((a0.getD i15837 default).Amount)))) ((a0.getD i15837 default).Credit) 0) - ((a0.getD i15837 default).Amount)))))
  else (
  some s15858)) fun s15863 =>
  some (Step.cont s15863)

noncomputable def F37_38 (a0 : (List TApiPosting)) (p0 : (List Int)) (p1 : Int) : Option R37_38 :=
  outM (σ := (List (Int × Int))) (ρ := R37_38) (rangeM (F37_38_b1 a0 p0 p1) a0.length 0 ([] : (List (Int × Int)))) (fun s15858 =>
  some s15858) (fun _ => none)



/-! 41 -/
abbrev R41 := TApiWhole × (List (Int × Int))
def V41 (_ : R41) : AV := (AV.tup [])
def L41 (x : R41) : List Ob := [(Ob.box (AV.map 2)), (Ob.box (AV.d (TApiWhole.e x.1))), (eM (DV.i .i64) (DV.i .i64) x.2)]
noncomputable def F41 (a0 : TConsolidationMutual) (_ : TApiDifference) (a2 : Int) (a3 : Int) (p1 : TApiWhole) (p2 : (List (Int × Int))) : Option R41 :=
  some ((⟨p1.Balances, (IntKind.i64.wrap (p1.Eliminated + (if 0 > (if a3 < a2 then a3 else a2) then 0 else (if a3 < a2 then a3 else a2)))), p1.Differences⟩ : TApiWhole), (mupd (mupd p2 a0.first (IntKind.i64.wrap ((mget p2 a0.first 0) - (IntKind.i64.wrap (a0.sign * (if 0 > (if a3 < a2 then a3 else a2) then 0 else (if a3 < a2 then a3 else a2))))))) a0.second (IntKind.i64.wrap ((mget (mupd p2 a0.first (IntKind.i64.wrap ((mget p2 a0.first 0) - (IntKind.i64.wrap (a0.sign * (if 0 > (if a3 < a2 then a3 else a2) then 0 else (if a3 < a2 then a3 else a2))))))) a0.second 0) + (IntKind.i64.wrap (a0.sign * (if 0 > (if a3 < a2 then a3 else a2) then 0 else (if a3 < a2 then a3 else a2))))))))



/-! 40 -/
abbrev R40_41 := TApiWhole × (List (Int × Int))
def V40_41 (_ : R40_41) : AV := (AV.tup [])
def L40_41 (x : R40_41) : List Ob := [(Ob.box (AV.map 2)), (Ob.box (AV.d (TApiWhole.e x.1))), (eM (DV.i .i64) (DV.i .i64) x.2)]
noncomputable def F40_41_b1 (a1 : (List Int)) (r23351 : R58) (r23352 : R55) (r23355 : R59) (i23357 : Nat) (i29581 : Nat) (i30615 : Nat) (i30785 : Nat) (s30802 : TApiWhole × (List (Int × Int))) : Option (Step (TApiWhole × (List (Int × Int))) R40_41) :=
  Option.bind (α := TApiWhole × (List (Int × Int))) (
  (F41 (r23355 i23357) (⟨(r23355 i23357).kind, (a1.getD i29581 default), (a1.getD i30615 default), (r23351.getD i30785 default), 0⟩ : TApiDifference) (IntKind.i64.wrap (((r23355 i23357).sign) * (mget r23352 (⟨(r23355 i23357).first, (a1.getD i29581 default), (a1.getD i30615 default), (r23351.getD i30785 default)⟩ : TConsolidationSpot) 0))) (IntKind.i64.wrap ((IntKind.i64.wrap (0 - ((r23355 i23357).sign))) * (mget r23352 (⟨(r23355 i23357).second, (a1.getD i30615 default), (a1.getD i29581 default), (r23351.getD i30785 default)⟩ : TConsolidationSpot) 0))) s30802.1 s30802.2).bind fun r30809 =>
  some (r30809.1, r30809.2)) fun s30806 =>
  some (Step.cont (s30806.1, s30806.2))

noncomputable def F40_41_b2 (a1 : (List Int)) (r23351 : R58) (r23352 : R55) (r23355 : R59) (i23357 : Nat) (i29581 : Nat) (i30615 : Nat) (s30748 : TApiWhole × (List (Int × Int))) : Option (Step (TApiWhole × (List (Int × Int))) R40_41) :=
  Option.bind (α := TApiWhole × (List (Int × Int))) (
  if ((a1.getD i29581 default) == (a1.getD i30615 default)) = true then (
  some (s30748.1, s30748.2))
  else (
  outM (σ := TApiWhole × (List (Int × Int))) (ρ := R40_41) (rangeM (F40_41_b1 a1 r23351 r23352 r23355 i23357 i29581 i30615) r23351.length 0 (s30748.1, s30748.2)) (fun s30802 =>
  some (s30802.1, s30802.2)) (fun _ => none))) fun s30781 =>
  some (Step.cont (s30781.1, s30781.2))

noncomputable def F40_41_b3 (a1 : (List Int)) (r23351 : R58) (r23352 : R55) (r23355 : R59) (i23357 : Nat) (i29581 : Nat) (s30406 : TApiWhole × (List (Int × Int))) : Option (Step (TApiWhole × (List (Int × Int))) R40_41) :=
  Option.bind (α := TApiWhole × (List (Int × Int))) (
  outM (σ := TApiWhole × (List (Int × Int))) (ρ := R40_41) (rangeM (F40_41_b2 a1 r23351 r23352 r23355 i23357 i29581) a1.length 0 (s30406.1, s30406.2)) (fun s30748 =>
  some (s30748.1, s30748.2)) (fun _ => none)) fun s30612 =>
  some (Step.cont (s30612.1, s30612.2))

noncomputable def F40_41_b4 (a1 : (List Int)) (r23351 : R58) (r23352 : R55) (r23355 : R59) (i23357 : Nat) (s28334 : TApiWhole × (List (Int × Int))) : Option (Step (TApiWhole × (List (Int × Int))) R40_41) :=
  Option.bind (α := TApiWhole × (List (Int × Int))) (
  outM (σ := TApiWhole × (List (Int × Int))) (ρ := R40_41) (rangeM (F40_41_b3 a1 r23351 r23352 r23355 i23357) a1.length 0 (s28334.1, s28334.2)) (fun s30406 =>
  some (s30406.1, s30406.2)) (fun _ => none)) fun s29578 =>
  some (Step.cont (s29578.1, s29578.2))

noncomputable def F40_41 (a0 : TApiLedger) (a1 : (List Int)) (a2 : Int) (p1 : TApiWhole) (p2 : (List (Int × Int))) : Option R40_41 :=
  (F58 a0).bind fun r23351 =>
  (F55 a0 a2).bind fun r23352 =>
  (F59).bind fun r23355 =>
  outM (σ := TApiWhole × (List (Int × Int))) (ρ := R40_41) (rangeM (F40_41_b4 a1 r23351 r23352 r23355) 2 0 (p1, p2)) (fun s28334 =>
  some (s28334.1, s28334.2)) (fun _ => none)



/-! 42 -/
abbrev R42 := (List TApiBalance)
def V42 (x : R42) : AV := (AV.d (eL TApiBalance.e x))
def L42 (p0 : (List (Int × Int))) (_ : R42) : List Ob := [(eM (DV.i .i64) (DV.i .i64) p0)]
noncomputable def F42_b1 (p0 : (List (Int × Int))) (i30858 : Nat) (s30873 : (List TApiBalance)) : Option (Step ((List TApiBalance)) R42) :=
  Option.bind (α := (List TApiBalance)) (
  if ((mget p0 (i30858 : Int) 0) != 0) = true then (
  guardP (AllP [(s30873.length + 1) * (2 * 16) ≤ 2 ^ 48]) <|
  some (s30873 ++ ([(⟨(i30858 : Int), (mget p0 (i30858 : Int) 0)⟩ : TApiBalance)] : List TApiBalance)))
  else (
  some s30873)) fun s30877 =>
  some (Step.cont s30877)

noncomputable def F42 (p0 : (List (Int × Int))) : Option R42 :=
  outM (σ := (List TApiBalance)) (ρ := R42) (rangeM (F42_b1 p0) 600 0 ([] : List TApiBalance)) (fun s30873 =>
  guardP (s30873.length < 2 ^ 63) <|
  some s30873) (fun _ => none)



/-! 11 -/
abbrev R11 := TApiWhole × Int
def V11 (x : R11) : AV := (AV.tup [(AV.d (TApiWhole.e x.1)), (AV.d (DV.i .i64 x.2))])
def L11 (_ : R11) : List Ob := []
noncomputable def F11 (a0 : TApiLedger) (a1 : (List Int)) (a2 : Int) : Option R11 :=
  (F17 a0 a1 a2).bind fun r30889 =>
  if (r30889.2 != 0) = true then (
  some ((⟨[], 0, []⟩ : TApiWhole), r30889.2))
  else (
  (F37_38 a0.Postings a1 a2).bind fun r30892 =>
  (F40_41 a0 a1 a2 (⟨[], 0, r30889.1⟩ : TApiWhole) r30892).bind fun r30894 =>
  (F42 r30894.2).bind fun r30896 =>
  some ((⟨r30896, r30894.1.Eliminated, r30894.1.Differences⟩ : TApiWhole), 0))



/-! 45 -/
abbrev R45 := (Nat → Int)
def V45 (x : R45) : AV := (AV.d (eA 1 500 (DV.i .i64) x))
def L45 (_ : R45) : List Ob := []
noncomputable def F45_b1 (a0 : (List TApiPosting)) (a1 : Int) (a2 : Int) (a3 : Int) (i30961 : Nat) (s30990 : (Nat → Int)) : Option (Step ((Nat → Int)) R45) :=
  Option.bind (α := (Nat → Int)) (
  if (bif (bif (decide (((a0.getD i30961 default).Day) < a2)) then true else (decide (((a0.getD i30961 default).Day) > a3))) then true else (bif (a1 != 0) then (((a0.getD i30961 default).Entity) != a1) else false)) = true then (
  some s30990)
  else (
  guardP (AllP [(0 : Int) ≤ (IntKind.i64.wrap (((a0.getD i30961 default).Debit) - 100)), ((IntKind.i64.wrap (((a0.getD i30961 default).Debit) - 100))).toNat < 500]) <|
  guardP (AllP [(0 : Int) ≤ (IntKind.i64.wrap (((a0.getD i30961 default).Credit) - 100)), ((IntKind.i64.wrap (((a0.getD i30961 default).Credit) - 100))).toNat < 500]) <|
  some (fun j => if j = ((IntKind.i64.wrap (((a0.getD i30961 default).Credit) - 100))).toNat then (IntKind.i64.wrap (((fun j => if j = ((IntKind.i64.wrap (((a0.getD i30961 default).Debit) - 100))).toNat then (IntKind.i64.wrap ((s30990 (((IntKind.i64.wrap (((a0.getD i30961 default).Debit) - 100))).toNat)) + ((a0.getD i30961 default).Amount))) else s30990 j) (((IntKind.i64.wrap (((a0.getD i30961 default).Credit) - 100))).toNat)) - ((a0.getD i30961 default).Amount))) else (fun j => if j = ((IntKind.i64.wrap (((a0.getD i30961 default).Debit) - 100))).toNat then (IntKind.i64.wrap ((s30990 (((IntKind.i64.wrap (((a0.getD i30961 default).Debit) - 100))).toNat)) + ((a0.getD i30961 default).Amount))) else s30990 j) j))) fun s30997 =>
  some (Step.cont s30997)

noncomputable def F45 (a0 : (List TApiPosting)) (a1 : Int) (a2 : Int) (a3 : Int) : Option R45 :=
  outM (σ := (Nat → Int)) (ρ := R45) (rangeM (F45_b1 a0 a1 a2 a3) a0.length 0 (fun j => 0)) (fun s30990 =>
  some s30990) (fun _ => none)



/-! 12 -/
abbrev R12 := Int
def V12 (x : R12) : AV := (AV.d (DV.i .i64 x))
def L12 (_ : R12) : List Ob := []
noncomputable def F12 (a0 : TApiLedger) (a1 : Int) (a2 : Int) (a3 : Int) : Option R12 :=
  (F43 a0).bind fun r31013 =>
  (optP [(r31013 != 0) = false] (F44 a2)).bind fun r31015 =>
  if (bif (r31013 != 0) then true else (r31015 == 0)) = true then (
  some 0)
  else (
  (F45 a0.Postings a1 0 a3).bind fun r31018 =>
  guardP (AllP [(0 : Int) ≤ (IntKind.i64.wrap (a2 - 100)), ((IntKind.i64.wrap (a2 - 100))).toNat < 500]) <|
  some (r31018 (((IntKind.i64.wrap (a2 - 100))).toNat)))



/-! 21 -/
abbrev R21 := TApiLedger
def V21 (x : R21) : AV := (AV.d (TApiLedger.e x))
def L21 (_ : R21) : List Ob := []
noncomputable def F21 : Option R21 :=
  (F16 (⟨[]⟩ : TApiLedger) (⟨1, 0, 1, 140, 110, 100, 2, 7⟩ : TApiPosting)).bind fun r31514 =>
  (F16 r31514.1 (⟨2, 0, 2, 110, 240, 80, 1, 7⟩ : TApiPosting)).bind fun r31516 =>
  some r31516.1



/-! 18 -/
abbrev R18 := Bool
def V18 (x : R18) : AV := (AV.d (DV.b x))
def L18 (_ : R18) : List Ob := []
noncomputable def F18_b1 (a0 : (List TApiDifference)) (a1 : (List TApiDifference)) (i31546 : Nat) (_ : Unit) : Option (Step (Unit) R18) :=
  outM (σ := Unit) (ρ := (Step (Unit) R18)) (
  guardP (AllP [i31546 < a1.length]) <|
  if (!((((a0.getD i31546 default).Kind) == ((a1.getD i31546 default).Kind)) && ((((a0.getD i31546 default).A) == ((a1.getD i31546 default).A)) && ((((a0.getD i31546 default).B) == ((a1.getD i31546 default).B)) && ((((a0.getD i31546 default).Ref) == ((a1.getD i31546 default).Ref)) && ((((a0.getD i31546 default).Amount) == ((a1.getD i31546 default).Amount)) && true)))))) = true then (
  some (Out.ret (Step.ret false)))
  else (
  some (Out.next ()))) (fun _ =>
  some (Step.cont ())) (fun x => some x)

noncomputable def F18 (a0 : (List TApiDifference)) (a1 : (List TApiDifference)) : Option R18 :=
  if ((a0.length : Int) != (a1.length : Int)) = true then (
  some false)
  else (
  outM (σ := Unit) (ρ := R18) (rangeM (F18_b1 a0 a1) a0.length 0 ()) (fun _ =>
  some true) (fun x => some x))



/-! 13 -/
abbrev R13 := Bool
def V13 (x : R13) : AV := (AV.d (DV.b x))
def L13 (_ : R13) : List Ob := []
noncomputable def F13 : Option R13 :=
  (F21).bind fun r31570 =>
  (F11 r31570 ([1, 2] : List Int) 0).bind fun r31572 =>
  (optP [(bif (r31572.2 == 0) then (r31572.1.Eliminated == 80) else false) = true] (F18 r31572.1.Differences ([(⟨1, 1, 2, 7, 20⟩ : TApiDifference)] : List TApiDifference))).bind fun r31574 =>
  some (bif (bif (r31572.2 == 0) then (r31572.1.Eliminated == 80) else false) then r31574 else false)



/-! 3 -/
abbrev R3 := Bool
def V3 (x : R3) : AV := (AV.d (DV.b x))
def L3 (_ : R3) : List Ob := []
noncomputable def F3_b1 (a1 : Int) (r31582 : R10) (i31584 : Nat) (r31960 : R11) (i31963 : Nat) (i32054 : Nat) (s32063 : Int) : Option (Step (Int) R3) :=
  Option.bind (α := Int) (
  (F12 r31582.1 (((fun j => ([([1, 2, 3] : List Int), ([1, 2] : List Int), ([1, 3] : List Int), ([2] : List Int)] : List (List Int)).getD j default) i31584).getD i32054 default) ((r31960.1.Balances.getD i31963 default).Account) ((IntKind.i64.wrap a1).tmod 70)).bind fun r32070 =>
  some (IntKind.i64.wrap (s32063 + r32070))) fun s32067 =>
  some (Step.cont s32067)

noncomputable def F3_b2 (a1 : Int) (r31582 : R10) (i31584 : Nat) (r31960 : R11) (i31963 : Nat) (s32020 : Int) : Option (Step (Int) R3) :=
  outM (σ := Int) (ρ := (Step (Int) R3)) (
  guardP (AllP [AllP [(decide ((i31963 : Int) > 0)) = true] → ((0 : Int) ≤ (IntKind.i64.wrap ((i31963 : Int) - 1))), AllP [(decide ((i31963 : Int) > 0)) = true] → (((IntKind.i64.wrap ((i31963 : Int) - 1))).toNat < r31960.1.Balances.length)]) <|
  if (bif (decide ((i31963 : Int) > 0)) then (decide (((r31960.1.Balances.getD (((IntKind.i64.wrap ((i31963 : Int) - 1))).toNat) default).Account) ≥ ((r31960.1.Balances.getD i31963 default).Account))) else false) = true then (
  some (Out.ret (Step.ret false)))
  else (
  outM (σ := Int) (ρ := R3) (rangeM (F3_b1 a1 r31582 i31584 r31960 i31963) (((fun j => ([([1, 2, 3] : List Int), ([1, 2] : List Int), ([1, 3] : List Int), ([2] : List Int)] : List (List Int)).getD j default) i31584).length) 0 0) (fun s32063 =>
  if (bif (!(bif (bif (bif (((r31960.1.Balances.getD i31963 default).Account) == 140) then true else (((r31960.1.Balances.getD i31963 default).Account) == 240)) then true else (((r31960.1.Balances.getD i31963 default).Account) == 440)) then true else (((r31960.1.Balances.getD i31963 default).Account) == 540))) then (s32063 != ((r31960.1.Balances.getD i31963 default).Amount)) else false) = true then (
  some (Out.ret (Step.ret false)))
  else (
  some (Out.next (IntKind.i64.wrap (s32020 + ((r31960.1.Balances.getD i31963 default).Amount)))))) (fun _ => none))) (fun s32048 =>
  some (Step.cont s32048)) (fun x => some x)

noncomputable def F3_b3 (a1 : Int) (r31582 : R10) (i31584 : Nat) (_ : Unit) : Option (Step (Unit) R3) :=
  outM (σ := Unit) (ρ := (Step (Unit) R3)) (
  (F11 r31582.1 ((fun j => ([([1, 2, 3] : List Int), ([1, 2] : List Int), ([1, 3] : List Int), ([2] : List Int)] : List (List Int)).getD j default) i31584) ((IntKind.i64.wrap a1).tmod 70)).bind fun r31960 =>
  if (r31960.2 != 0) = true then (
  some (Out.ret (Step.ret false)))
  else (
  outM (σ := Int) (ρ := R3) (rangeM (F3_b2 a1 r31582 i31584 r31960) r31960.1.Balances.length 0 0) (fun s32020 =>
  if (bif (s32020 != 0) then true else (bif ((((fun j => ([([1, 2, 3] : List Int), ([1, 2] : List Int), ([1, 3] : List Int), ([2] : List Int)] : List (List Int)).getD j default) i31584).length : Int) == 1) then (bif (r31960.1.Eliminated != 0) then true else ((r31960.1.Differences.length : Int) != 0)) else false)) = true then (
  some (Out.ret (Step.ret false)))
  else (
  some (Out.next ()))) (fun x => some (Out.ret (Step.ret x))))) (fun _ =>
  some (Step.cont ())) (fun x => some x)

noncomputable def F3 (a0 : (List Int)) (a1 : Int) : Option R3 :=
  (F9 a0).bind fun r31580 =>
  (F10 12 3 60 r31580).bind fun r31582 =>
  outM (σ := Unit) (ρ := R3) (rangeM (F3_b3 a1 r31582) 4 0 ()) (fun _ =>
  (F13).bind fun r32084 =>
  some r32084) (fun x => some x)



/-! 14 -/
abbrev R14 := TApiLedger × TTreasuryplaySrc
def V14 (x : R14) : AV := (AV.d (TApiLedger.e x.1))
def L14 (x : R14) : List Ob := [(Ob.box (AV.d (TTreasuryplaySrc.e x.2)))]
noncomputable def F14_b1 (s32310 : TTreasuryplaySrc × TApiLedger × Int × Int) : Option (Step (TTreasuryplaySrc × TApiLedger × Int × Int) R14) :=
  if (decide (s32310.2.2.2 > 0)) = true then (
  Option.bind (α := TTreasuryplaySrc × TApiLedger × Int) (
  (F23 1 3 s32310.1).bind fun r32334 =>
  (F15 ([5, 40, 100] : List Int) r32334.2).bind fun r32336 =>
  (F23 1 3 r32336.2).bind fun r32338 =>
  (F16 s32310.2.1 (⟨(IntKind.i64.wrap ((s32310.2.1.Postings.length : Int) + 1)), s32310.2.2.1, r32334.1, 140, 440, r32336.1, (IntKind.i64.wrap ((r32334.1.tmod 3) + 1)), r32338.1⟩ : TApiPosting)).bind fun r32340 =>
  (F16 r32340.1 (⟨(IntKind.i64.wrap ((IntKind.i64.wrap ((s32310.2.1.Postings.length : Int) + 1)) + 1)), s32310.2.2.1, (IntKind.i64.wrap ((r32334.1.tmod 3) + 1)), 540, 240, r32336.1, r32334.1, r32338.1⟩ : TApiPosting)).bind fun r32342 =>
  (F19 3 r32338.2).bind fun r32344 =>
  (F20 (IntKind.i64.wrap ((r32342.1.Postings.length : Int) + 1)) (IntKind.i64.wrap (s32310.2.2.1 + r32344.1)) 1 r32344.2).bind fun r32346 =>
  (F19 2 r32346.2).bind fun r32348 =>
  if (r32348.1 == 1) = true then (
  (F16 r32342.1 r32346.1).bind fun r32351 =>
  some (r32348.2, r32351.1, (IntKind.i64.wrap (s32310.2.2.1 + r32344.1))))
  else (
  some (r32348.2, r32342.1, (IntKind.i64.wrap (s32310.2.2.1 + r32344.1))))) fun s32331 =>
  some (Step.cont (s32331.1, s32331.2.1, s32331.2.2, (IntKind.i64.wrap (s32310.2.2.2 - 1)))))
  else (
  some (Step.brk (s32310.1, s32310.2.1, s32310.2.2.1, s32310.2.2.2)))

noncomputable def F14 (a1 : Int) (p0 : TTreasuryplaySrc) : Option R14 :=
  (F19 (IntKind.i64.wrap (a1 + 1)) p0).bind fun r32223 =>
  outM (σ := TTreasuryplaySrc × TApiLedger × Int × Int) (ρ := R14) (iterM (F14_b1) (r32223.2, (⟨[]⟩ : TApiLedger), 0, r32223.1)) (fun s32310 =>
  some (s32310.2.1, s32310.1)) (fun _ => none)



/-! 4 -/
abbrev R4 := Bool
def V4 (x : R4) : AV := (AV.d (DV.b x))
def L4 (_ : R4) : List Ob := []
noncomputable def F4_b1 (r32401 : R14) (i32406 : Nat) (s32413 : Int) : Option (Step (Int) R4) :=
  Option.bind (α := Int) (
  if (((r32401.1.Postings.getD i32406 default).Partner) != 0) = true then (
  some (IntKind.i64.wrap (s32413 + ((r32401.1.Postings.getD i32406 default).Amount))))
  else (
  some s32413)) fun s32416 =>
  some (Step.cont s32416)

noncomputable def F4_b2 (r32403 : R11) (i32422 : Nat) (_ : Unit) : Option (Step (Unit) R4) :=
  outM (σ := Unit) (ρ := (Step (Unit) R4)) (
  if (bif (bif (bif (((r32403.1.Balances.getD i32422 default).Account) == 140) then true else (((r32403.1.Balances.getD i32422 default).Account) == 240)) then true else (((r32403.1.Balances.getD i32422 default).Account) == 440)) then true else (((r32403.1.Balances.getD i32422 default).Account) == 540)) = true then (
  some (Out.ret (Step.ret false)))
  else (
  some (Out.next ()))) (fun _ =>
  some (Step.cont ())) (fun x => some x)

noncomputable def F4 (a0 : (List Int)) : Option R4 :=
  (F9 a0).bind fun r32399 =>
  (F14 5 r32399).bind fun r32401 =>
  (F11 r32401.1 ([1, 2, 3] : List Int) 36000).bind fun r32403 =>
  if (bif (r32403.2 != 0) then true else ((r32403.1.Differences.length : Int) != 0)) = true then (
  some false)
  else (
  outM (σ := Int) (ρ := R4) (rangeM (F4_b1 r32401) r32401.1.Postings.length 0 0) (fun s32413 =>
  outM (σ := Unit) (ρ := R4) (rangeM (F4_b2 r32403) r32403.1.Balances.length 0 ()) (fun _ =>
  (optP [(r32403.1.Eliminated == s32413) = true] (F13)).bind fun r32438 =>
  some (bif (r32403.1.Eliminated == s32413) then r32438 else false)) (fun x => some x)) (fun _ => none))



/-! 5 -/
abbrev R5 := Bool
def V5 (x : R5) : AV := (AV.d (DV.b x))
def L5 (_ : R5) : List Ob := []
noncomputable def F5 (a0 : (List Int)) : Option R5 :=
  (F9 a0).bind fun r32458 =>
  (F14 4 r32458).bind fun r32460 =>
  (F15 ([1, 15, 60] : List Int) r32460.2).bind fun r32462 =>
  (F16 r32460.1 (⟨(IntKind.i64.wrap ((r32460.1.Postings.length : Int) + 1)), 60, 2, 140, 110, r32462.1, 3, 2⟩ : TApiPosting)).bind fun r32464 =>
  (F17 r32464.1 ([1, 2, 3] : List Int) 60).bind fun r32466 =>
  (optP [(bif (r32464.2 == 0) then (r32466.2 == 0) else false) = true] (F18 r32466.1 ([(⟨1, 2, 3, 2, r32462.1⟩ : TApiDifference)] : List TApiDifference))).bind fun r32468 =>
  (optP [(bif (bif (r32464.2 == 0) then (r32466.2 == 0) else false) then r32468 else false) = true] (F13)).bind fun r32470 =>
  some (bif (bif (bif (r32464.2 == 0) then (r32466.2 == 0) else false) then r32468 else false) then r32470 else false)



/-! 6 -/
abbrev R6 := Bool
def V6 (x : R6) : AV := (AV.d (DV.b x))
def L6 (_ : R6) : List Ob := []
noncomputable def F6_b1 (s32792 : TTreasuryplaySrc × TApiLedger × Int) : Option (Step (TTreasuryplaySrc × TApiLedger × Int) R6) :=
  if (decide (s32792.2.2 > 0)) = true then (
  Option.bind (α := TTreasuryplaySrc × TApiLedger) (
  (F20 (IntKind.i64.wrap ((s32792.2.1.Postings.length : Int) + 1)) 70 1 s32792.1).bind fun r32801 =>
  (F16 s32792.2.1 (⟨r32801.1.Number, r32801.1.Day, 5, r32801.1.Debit, r32801.1.Credit, r32801.1.Amount, r32801.1.Partner, r32801.1.Ref⟩ : TApiPosting)).bind fun r32803 =>
  some (r32801.2, r32803.1)) fun s32798 =>
  some (Step.cont (s32798.1, s32798.2, (IntKind.i64.wrap (s32792.2.2 - 1)))))
  else (
  some (Step.brk (s32792.1, s32792.2.1, s32792.2.2)))

noncomputable def F6_b2 (r32807 : R11) (s32929 : Int) (i32989 : Nat) (s32996 : Int) : Option (Step (Int) R6) :=
  Option.bind (α := Int) (
  if (((r32807.1.Balances.getD i32989 default).Account) == s32929) = true then (
  some (IntKind.i64.wrap (s32996 + ((r32807.1.Balances.getD i32989 default).Amount))))
  else (
  some s32996)) fun s32999 =>
  some (Step.cont s32999)

noncomputable def F6_b3 (r32811 : R11) (s32929 : Int) (i33005 : Nat) (s33012 : Int) : Option (Step (Int) R6) :=
  Option.bind (α := Int) (
  if (((r32811.1.Balances.getD i33005 default).Account) == s32929) = true then (
  some (IntKind.i64.wrap (s33012 + ((r32811.1.Balances.getD i33005 default).Amount))))
  else (
  some s33012)) fun s33015 =>
  some (Step.cont s33015)

noncomputable def F6_b4 (r32809 : R11) (s32929 : Int) (i33021 : Nat) (s33028 : Int) : Option (Step (Int) R6) :=
  Option.bind (α := Int) (
  if (((r32809.1.Balances.getD i33021 default).Account) == s32929) = true then (
  some (IntKind.i64.wrap (s33028 - ((r32809.1.Balances.getD i33021 default).Amount))))
  else (
  some s33028)) fun s33031 =>
  some (Step.cont s33031)

noncomputable def F6_b5 (r32807 : R11) (r32809 : R11) (r32811 : R11) (s32929 : Int) : Option (Step (Int) R6) :=
  if (decide (s32929 < 600)) = true then (
  outM (σ := Unit) (ρ := (Step (Int) R6)) (
  outM (σ := Int) (ρ := R6) (rangeM (F6_b2 r32807 s32929) r32807.1.Balances.length 0 0) (fun s32996 =>
  outM (σ := Int) (ρ := R6) (rangeM (F6_b3 r32811 s32929) r32811.1.Balances.length 0 s32996) (fun s33012 =>
  outM (σ := Int) (ρ := R6) (rangeM (F6_b4 r32809 s32929) r32809.1.Balances.length 0 s33012) (fun s33028 =>
  if (s33028 != 0) = true then (
  some (Out.ret (Step.ret false)))
  else (
  some (Out.next ()))) (fun _ => none)) (fun _ => none)) (fun _ => none)) (fun _ =>
  some (Step.cont (IntKind.i64.wrap (s32929 + 1)))) (fun x => some x))
  else (
  some (Step.brk s32929))

noncomputable def F6 (a0 : (List Int)) : Option R6 :=
  (F9 a0).bind fun r32761 =>
  (F14 3 r32761).bind fun r32763 =>
  (F19 4 r32763.2).bind fun r32765 =>
  outM (σ := TTreasuryplaySrc × TApiLedger × Int) (ρ := R6) (iterM (F6_b1) (r32765.2, r32763.1, r32765.1)) (fun s32792 =>
  (F11 s32792.2.1 ([1, 2, 3] : List Int) 70).bind fun r32807 =>
  (F11 s32792.2.1 ([1, 2, 3, 5] : List Int) 70).bind fun r32809 =>
  (F11 s32792.2.1 ([5] : List Int) 70).bind fun r32811 =>
  if (bif (bif (bif (bif (bif (r32807.2 != 0) then true else (r32809.2 != 0)) then true else (r32811.2 != 0)) then true else (r32807.1.Eliminated != r32809.1.Eliminated)) then true else (r32811.1.Eliminated != 0)) then true else ((r32809.1.Differences.length : Int) != 0)) = true then (
  some false)
  else (
  outM (σ := Int) (ρ := R6) (iterM (F6_b5 r32807 r32809 r32811) 100) (fun _ =>
  (F13).bind fun r33046 =>
  some r33046) (fun x => some x))) (fun _ => none)



/-! 29 -/
abbrev R29 := Int
def V29 (x : R29) : AV := (AV.d (DV.i .i64 x))
def L29 (_ : R29) : List Ob := []
noncomputable def F29 (a0 : TApiLedger) (a1 : Int) (a2 : Int) (a3 : Int) (a4 : Int) : Option R29 :=
  (F55 a0 a4).bind fun r33065 =>
  some (mget r33065 (⟨140, a1, a2, a3⟩ : TConsolidationSpot) 0)



/-! 31 -/
abbrev R31 := Int
def V31 (x : R31) : AV := (AV.d (DV.i .i64 x))
def L31 (_ : R31) : List Ob := []
noncomputable def F31 (a0 : TApiLedger) (a1 : Int) (a2 : Int) (a3 : Int) (a4 : Int) : Option R31 :=
  (F55 a0 a4).bind fun r33070 =>
  some (IntKind.i64.wrap (0 - (mget r33070 (⟨240, a1, a2, a3⟩ : TConsolidationSpot) 0)))



/-! 33 -/
abbrev R33 := Int
def V33 (x : R33) : AV := (AV.d (DV.i .i64 x))
def L33 (_ : R33) : List Ob := []
noncomputable def F33 (a0 : TApiLedger) (a1 : Int) (a2 : Int) (a3 : Int) (a4 : Int) : Option R33 :=
  (F55 a0 a4).bind fun r33077 =>
  some (IntKind.i64.wrap (0 - (mget r33077 (⟨440, a1, a2, a3⟩ : TConsolidationSpot) 0)))



/-! 35 -/
abbrev R35 := Int
def V35 (x : R35) : AV := (AV.d (DV.i .i64 x))
def L35 (_ : R35) : List Ob := []
noncomputable def F35 (a0 : TApiLedger) (a1 : Int) (a2 : Int) (a3 : Int) (a4 : Int) : Option R35 :=
  (F55 a0 a4).bind fun r33082 =>
  some (mget r33082 (⟨540, a1, a2, a3⟩ : TConsolidationSpot) 0)



/-! 8 -/
abbrev R8 := Bool
def V8 (x : R8) : AV := (AV.d (DV.b x))
def L8 (_ : R8) : List Ob := []
noncomputable def F8_b1 (r35656 : R17) (s36946 : Int × Int) (s37911 : Int × Int) (s38150 : Int × Int) (r38191 : R29) (r38192 : R31) (r38195 : R33) (r38196 : R35) (i38199 : Nat) (s38208 : Int) : Option (Step (Int) R8) :=
  outM (σ := Int) (ρ := (Step (Int) R8)) (
  if (bif (bif (((r35656.1.getD i38199 default).A) != s36946.2) then true else (((r35656.1.getD i38199 default).B) != s37911.2)) then true else (((r35656.1.getD i38199 default).Ref) != s38150.2)) = true then (
  some (Out.next s38208))
  else (
  if (bif (bif (bif (((r35656.1.getD i38199 default).Kind) == 1) then (((r35656.1.getD i38199 default).Amount) != (IntKind.i64.wrap (r38191 - r38192))) else false) then true else (bif (((r35656.1.getD i38199 default).Kind) == 2) then (((r35656.1.getD i38199 default).Amount) != (IntKind.i64.wrap (r38195 - r38196))) else false)) then true else (((r35656.1.getD i38199 default).Amount) == 0)) = true then (
  some (Out.ret (Step.ret false)))
  else (
  some (Out.next (IntKind.i64.wrap (s38208 + 1)))))) (fun s38212 =>
  some (Step.cont s38212)) (fun x => some x)

noncomputable def F8_b2 (r35654 : R10) (r35656 : R17) (s36946 : Int × Int) (s37911 : Int × Int) (s38150 : Int × Int) : Option (Step (Int × Int) R8) :=
  if (bif (decide (s38150.2 ≤ 3)) then (s36946.2 != s37911.2) else false) = true then (
  outM (σ := Int) (ρ := (Step (Int × Int) R8)) (
  (F29 r35654.1 s36946.2 s37911.2 s38150.2 60).bind fun r38191 =>
  (F31 r35654.1 s37911.2 s36946.2 s38150.2 60).bind fun r38192 =>
  (F33 r35654.1 s36946.2 s37911.2 s38150.2 60).bind fun r38195 =>
  (F35 r35654.1 s37911.2 s36946.2 s38150.2 60).bind fun r38196 =>
  outM (σ := Int) (ρ := R8) (rangeM (F8_b1 r35656 s36946 s37911 s38150 r38191 r38192 r38195 r38196) r35656.1.length 0 s38150.1) (fun s38208 =>
  Option.bind (α := Int) (
  if ((IntKind.i64.wrap (r38191 - r38192)) != 0) = true then (
  some (IntKind.i64.wrap (s38208 - 1)))
  else (
  some s38208)) fun s38220 =>
  if ((IntKind.i64.wrap (r38195 - r38196)) != 0) = true then (
  some (Out.next (IntKind.i64.wrap (s38220 - 1))))
  else (
  some (Out.next s38220))) (fun x => some (Out.ret (Step.ret x)))) (fun s38188 =>
  some (Step.cont (s38188, (IntKind.i64.wrap (s38150.2 + 1))))) (fun x => some x))
  else (
  some (Step.brk (s38150.1, s38150.2)))

noncomputable def F8_b3 (r35654 : R10) (r35656 : R17) (s36946 : Int × Int) (s37911 : Int × Int) : Option (Step (Int × Int) R8) :=
  if (decide (s37911.2 ≤ 3)) = true then (
  outM (σ := Int) (ρ := (Step (Int × Int) R8)) (
  outM (σ := Int × Int) (ρ := R8) (iterM (F8_b2 r35654 r35656 s36946 s37911) (s37911.1, 0)) (fun s38150 =>
  some (Out.next s38150.1)) (fun x => some (Out.ret (Step.ret x)))) (fun s38070 =>
  some (Step.cont (s38070, (IntKind.i64.wrap (s37911.2 + 1))))) (fun x => some x))
  else (
  some (Step.brk (s37911.1, s37911.2)))

noncomputable def F8_b4 (r35654 : R10) (r35656 : R17) (s36946 : Int × Int) : Option (Step (Int × Int) R8) :=
  if (decide (s36946.2 ≤ 3)) = true then (
  outM (σ := Int) (ρ := (Step (Int × Int) R8)) (
  outM (σ := Int × Int) (ρ := R8) (iterM (F8_b3 r35654 r35656 s36946) (s36946.1, 1)) (fun s37911 =>
  some (Out.next s37911.1)) (fun x => some (Out.ret (Step.ret x)))) (fun s37589 =>
  some (Step.cont (s37589, (IntKind.i64.wrap (s36946.2 + 1))))) (fun x => some x))
  else (
  some (Step.brk (s36946.1, s36946.2)))

noncomputable def F8 (a0 : (List Int)) : Option R8 :=
  (F9 a0).bind fun r35652 =>
  (F10 12 3 60 r35652).bind fun r35654 =>
  (F17 r35654.1 ([1, 2, 3] : List Int) 60).bind fun r35656 =>
  if (r35656.2 != 0) = true then (
  some false)
  else (
  outM (σ := Int × Int) (ρ := R8) (iterM (F8_b4 r35654 r35656) (0, 1)) (fun s36946 =>
  (optP [(s36946.1 == 0) = true] (F13)).bind fun r38235 =>
  some (bif (s36946.1 == 0) then r38235 else false)) (fun x => some x))



/-! 49 -/
abbrev R49 := Int × TTreasuryplaySrc
def V49 (x : R49) : AV := (AV.d (DV.i .i64 x.1))
def L49 (x : R49) : List Ob := [(Ob.box (AV.d (TTreasuryplaySrc.e x.2)))]
noncomputable def F49 (p0 : TTreasuryplaySrc) : Option R49 :=
  (F15 ([(-1), 0, 1, 2, 9223372036854775807, (-9223372036854775808), 1000000000000, 1000000000001, 1000000000000000, 1000000000000001, 36000, 36001, 35991, 1000000, 1000001, 1000, 1001, 360] : List Int) p0).bind fun r38262 =>
  some (r38262.1, r38262.2)



/-! 22 -/
abbrev R22 := TApiLedger × TTreasuryplaySrc
def V22 (x : R22) : AV := (AV.d (TApiLedger.e x.1))
def L22 (x : R22) : List Ob := [(Ob.box (AV.d (TTreasuryplaySrc.e x.2)))]
noncomputable def F22 (a1 : TApiLedger) (p0 : TTreasuryplaySrc) : Option R22 :=
  guardP (AllP [a1.Postings.length * (2 * 64) ≤ 2 ^ 48]) <|
  if ((a1.Postings.length : Int) == 0) = true then (
  some ((⟨([(⟨2, 0, 0, 0, 0, 0, 0, 0⟩ : TApiPosting)] : List TApiPosting)⟩ : TApiLedger), p0))
  else (
  (F19 (a1.Postings.length : Int) p0).bind fun r38310 =>
  guardP (AllP [(0 : Int) ≤ r38310.1, (r38310.1).toNat < a1.Postings.length]) <|
  (F19 6 r38310.2).bind fun r38314 =>
  Option.bind (α := TTreasuryplaySrc × (List TApiPosting)) (
  if (r38314.1 == 0) = true then (
  (F15 ([0, 3, 1000001] : List Int) r38314.2).bind fun r38343 =>
  guardP (AllP [(0 + (r38310.1).toNat) < a1.Postings.length]) <|
  some (r38343.2, (a1.Postings.set (0 + (r38310.1).toNat) (⟨r38343.1, (a1.Postings.getD (0 + (r38310.1).toNat) default).Day, (a1.Postings.getD (0 + (r38310.1).toNat) default).Entity, (a1.Postings.getD (0 + (r38310.1).toNat) default).Debit, (a1.Postings.getD (0 + (r38310.1).toNat) default).Credit, (a1.Postings.getD (0 + (r38310.1).toNat) default).Amount, (a1.Postings.getD (0 + (r38310.1).toNat) default).Partner, (a1.Postings.getD (0 + (r38310.1).toNat) default).Ref⟩ : TApiPosting))))
  else (
  if (r38314.1 == 1) = true then (
  (F49 r38314.2).bind fun r38347 =>
  guardP (AllP [(0 + (r38310.1).toNat) < a1.Postings.length]) <|
  some (r38347.2, (a1.Postings.set (0 + (r38310.1).toNat) (⟨(a1.Postings.getD (0 + (r38310.1).toNat) default).Number, r38347.1, (a1.Postings.getD (0 + (r38310.1).toNat) default).Entity, (a1.Postings.getD (0 + (r38310.1).toNat) default).Debit, (a1.Postings.getD (0 + (r38310.1).toNat) default).Credit, (a1.Postings.getD (0 + (r38310.1).toNat) default).Amount, (a1.Postings.getD (0 + (r38310.1).toNat) default).Partner, (a1.Postings.getD (0 + (r38310.1).toNat) default).Ref⟩ : TApiPosting))))
  else (
  if (r38314.1 == 2) = true then (
  (F49 r38314.2).bind fun r38351 =>
  guardP (AllP [(0 + (r38310.1).toNat) < a1.Postings.length]) <|
  some (r38351.2, (a1.Postings.set (0 + (r38310.1).toNat) (⟨(a1.Postings.getD (0 + (r38310.1).toNat) default).Number, (a1.Postings.getD (0 + (r38310.1).toNat) default).Day, (a1.Postings.getD (0 + (r38310.1).toNat) default).Entity, (a1.Postings.getD (0 + (r38310.1).toNat) default).Debit, (a1.Postings.getD (0 + (r38310.1).toNat) default).Credit, r38351.1, (a1.Postings.getD (0 + (r38310.1).toNat) default).Partner, (a1.Postings.getD (0 + (r38310.1).toNat) default).Ref⟩ : TApiPosting))))
  else (
  if (r38314.1 == 3) = true then (
  (F15 ([99, 100, 599, 600] : List Int) r38314.2).bind fun r38355 =>
  guardP (AllP [(0 + (r38310.1).toNat) < a1.Postings.length]) <|
  some (r38355.2, (a1.Postings.set (0 + (r38310.1).toNat) (⟨(a1.Postings.getD (0 + (r38310.1).toNat) default).Number, (a1.Postings.getD (0 + (r38310.1).toNat) default).Day, (a1.Postings.getD (0 + (r38310.1).toNat) default).Entity, r38355.1, (a1.Postings.getD (0 + (r38310.1).toNat) default).Credit, (a1.Postings.getD (0 + (r38310.1).toNat) default).Amount, (a1.Postings.getD (0 + (r38310.1).toNat) default).Partner, (a1.Postings.getD (0 + (r38310.1).toNat) default).Ref⟩ : TApiPosting))))
  else (
  if (r38314.1 == 4) = true then (
  (F15 ([(-1), (a1.Postings.getD (0 + (r38310.1).toNat) default).Entity, 10, 11] : List Int) r38314.2).bind fun r38360 =>
  guardP (AllP [(0 + (r38310.1).toNat) < a1.Postings.length]) <|
  some (r38360.2, (a1.Postings.set (0 + (r38310.1).toNat) (⟨(a1.Postings.getD (0 + (r38310.1).toNat) default).Number, (a1.Postings.getD (0 + (r38310.1).toNat) default).Day, (a1.Postings.getD (0 + (r38310.1).toNat) default).Entity, (a1.Postings.getD (0 + (r38310.1).toNat) default).Debit, (a1.Postings.getD (0 + (r38310.1).toNat) default).Credit, (a1.Postings.getD (0 + (r38310.1).toNat) default).Amount, r38360.1, (a1.Postings.getD (0 + (r38310.1).toNat) default).Ref⟩ : TApiPosting))))
  else (
  (F15 ([0, 10, 11] : List Int) r38314.2).bind fun r38362 =>
  guardP (AllP [(0 + (r38310.1).toNat) < a1.Postings.length]) <|
  some (r38362.2, (a1.Postings.set (0 + (r38310.1).toNat) (⟨(a1.Postings.getD (0 + (r38310.1).toNat) default).Number, (a1.Postings.getD (0 + (r38310.1).toNat) default).Day, r38362.1, (a1.Postings.getD (0 + (r38310.1).toNat) default).Debit, (a1.Postings.getD (0 + (r38310.1).toNat) default).Credit, (a1.Postings.getD (0 + (r38310.1).toNat) default).Amount, (a1.Postings.getD (0 + (r38310.1).toNat) default).Partner, (a1.Postings.getD (0 + (r38310.1).toNat) default).Ref⟩ : TApiPosting))))))))) fun s38339 =>
  guardP (s38339.2.length < 2 ^ 63) <|
  some ((⟨s38339.2⟩ : TApiLedger), s38339.1))



/-! 25 -/
abbrev R25 := Int
def V25 (x : R25) : AV := (AV.d (DV.i .i64 x))
def L25 (_ : R25) : List Ob := []
noncomputable def F25_b1 (a1 : (List Int)) (i38412 : Nat) (_ : Unit) : Option (Step (Unit) R25) :=
  outM (σ := Unit) (ρ := (Step (Unit) R25)) (
  guardP (AllP [AllP [(decide ((i38412 : Int) > 0)) = true, (bif (decide ((a1.getD i38412 default) < 1)) then true else (decide ((a1.getD i38412 default) > 10))) = false] → ((0 : Int) ≤ (IntKind.i64.wrap ((i38412 : Int) - 1))), AllP [(decide ((i38412 : Int) > 0)) = true, (bif (decide ((a1.getD i38412 default) < 1)) then true else (decide ((a1.getD i38412 default) > 10))) = false] → (((IntKind.i64.wrap ((i38412 : Int) - 1))).toNat < a1.length)]) <|
  if (bif (bif (decide ((a1.getD i38412 default) < 1)) then true else (decide ((a1.getD i38412 default) > 10))) then true else (bif (decide ((i38412 : Int) > 0)) then (decide ((a1.getD (((IntKind.i64.wrap ((i38412 : Int) - 1))).toNat) default) ≥ (a1.getD i38412 default))) else false)) = true then (
  some (Out.ret (Step.ret 89)))
  else (
  some (Out.next ()))) (fun _ =>
  some (Step.cont ())) (fun x => some x)

noncomputable def F25 (a0 : TApiLedger) (a1 : (List Int)) : Option R25 :=
  (F43 a0).bind fun r38409 =>
  if (r38409 != 0) = true then (
  some r38409)
  else (
  outM (σ := Unit) (ρ := R25) (rangeM (F25_b1 a1) a1.length 0 ()) (fun _ =>
  if ((a1.length : Int) == 0) = true then (
  some 89)
  else (
  some 0)) (fun x => some x))



/-! 51 -/
abbrev R51 := (List Int)
def V51 (x : R51) : AV := (AV.d (eL (DV.i .i64) x))
def L51 (_ : R51) : List Ob := []
noncomputable def F51_b1 (a0 : TApiLedger) (s38764 : (List Int)) (i38707 : Nat) (s38802 : Int) : Option (Step (Int) R51) :=
  guardP (AllP [AllP [(decide (s38802 < (s38764.length : Int))) = true] → ((0 : Int) ≤ s38802), AllP [(decide (s38802 < (s38764.length : Int))) = true] → ((s38802).toNat < s38764.length)]) <|
  if (bif (decide (s38802 < (s38764.length : Int))) then (decide ((s38764.getD ((s38802).toNat) default) < ((a0.Postings.getD i38707 default).Ref))) else false) = true then (
  Option.bind (α := Int) (
  some (IntKind.i64.wrap (s38802 + 1))) fun s38806 =>
  some (Step.cont s38806))
  else (
  some (Step.brk s38802))

noncomputable def F51_b2 (a0 : TApiLedger) (i38707 : Nat) (s38764 : (List Int)) : Option (Step ((List Int)) R51) :=
  Option.bind (α := (List Int)) (
  outM (σ := Int) (ρ := R51) (iterM (F51_b1 a0 s38764 i38707) 0) (fun s38802 =>
  guardP (AllP [AllP [(s38802 == (s38764.length : Int)) = false] → ((0 : Int) ≤ s38802), AllP [(s38802 == (s38764.length : Int)) = false] → ((s38802).toNat < s38764.length)]) <|
  if (bif (s38802 == (s38764.length : Int)) then true else ((s38764.getD ((s38802).toNat) default) != ((a0.Postings.getD i38707 default).Ref))) = true then (
  guardP (AllP [(0 : Int) ≤ s38802, (s38802).toNat ≤ s38764.length, (s38764.take ((s38802).toNat)).length * (2 * 8) ≤ 2 ^ 48, ((s38764.take ((s38802).toNat)).length + 1) * (2 * 8) ≤ 2 ^ 48, (((s38764.take ((s38802).toNat)) ++ ([(a0.Postings.getD i38707 default).Ref] : List Int)).length + (s38764.drop ((s38802).toNat)).length) * (2 * 8) ≤ 2 ^ 48]) <|
  guardP ((((s38764.take ((s38802).toNat)) ++ ([(a0.Postings.getD i38707 default).Ref] : List Int)) ++ (s38764.drop ((s38802).toNat))).length < 2 ^ 63) <|
  some (((s38764.take ((s38802).toNat)) ++ ([(a0.Postings.getD i38707 default).Ref] : List Int)) ++ (s38764.drop ((s38802).toNat))))
  else (
  some s38764)) (fun _ => none)) fun s38792 =>
  some (Step.cont s38792)

noncomputable def F51 (a0 : TApiLedger) : Option R51 :=
  outM (σ := (List Int)) (ρ := R51) (rangeM (F51_b2 a0) a0.Postings.length 0 ([])) (fun s38764 =>
  some s38764) (fun _ => none)



/-! 52 -/
abbrev R52 := Int
def V52 (x : R52) : AV := (AV.d (DV.i .i64 x))
def L52 (_ : R52) : List Ob := []
noncomputable def F52_b1 (a0 : TApiLedger) (a1 : Int) (a2 : Int) (a3 : Int) (a4 : Int) (a5 : Int) (i38878 : Nat) (s38897 : Int) : Option (Step (Int) R52) :=
  Option.bind (α := Int) (
  if (bif (bif (bif (((a0.Postings.getD i38878 default).Entity) != a2) then true else (((a0.Postings.getD i38878 default).Partner) != a3)) then true else (((a0.Postings.getD i38878 default).Ref) != a4)) then true else (decide (((a0.Postings.getD i38878 default).Day) > a5))) = true then (
  some s38897)
  else (
  Option.bind (α := Int) (
  if (((a0.Postings.getD i38878 default).Debit) == a1) = true then (
  some (IntKind.i64.wrap (s38897 + ((a0.Postings.getD i38878 default).Amount))))
  else (
  some s38897)) fun s38911 =>
  if (((a0.Postings.getD i38878 default).Credit) == a1) = true then (
  some (IntKind.i64.wrap (s38911 - ((a0.Postings.getD i38878 default).Amount))))
  else (
  some s38911))) fun s38906 =>
  some (Step.cont s38906)

noncomputable def F52 (a0 : TApiLedger) (a1 : Int) (a2 : Int) (a3 : Int) (a4 : Int) (a5 : Int) : Option R52 :=
  outM (σ := Int) (ρ := R52) (rangeM (F52_b1 a0 a1 a2 a3 a4 a5) a0.Postings.length 0 0) (fun s38897 =>
  some s38897) (fun _ => none)



/-! 53 -/
abbrev R53 := (List TApiBalance)
def V53 (x : R53) : AV := (AV.d (eL TApiBalance.e x))
def L53 (_ : R53) : List Ob := []
noncomputable def F53_b1 (a0 : (Nat → Int)) (i85272 : Nat) (s85287 : (List TApiBalance)) : Option (Step ((List TApiBalance)) R53) :=
  Option.bind (α := (List TApiBalance)) (
  if ((a0 i85272) != 0) = true then (
  guardP (AllP [(s85287.length + 1) * (2 * 16) ≤ 2 ^ 48]) <|
  some (s85287 ++ ([(⟨(IntKind.i64.wrap ((i85272 : Int) + 100)), (a0 i85272)⟩ : TApiBalance)] : List TApiBalance)))
  else (
  some s85287)) fun s85291 =>
  some (Step.cont s85291)

noncomputable def F53 (a0 : (Nat → Int)) : Option R53 :=
  outM (σ := (List TApiBalance)) (ρ := R53) (rangeM (F53_b1 a0) 500 0 ([] : List TApiBalance)) (fun s85287 =>
  guardP (s85287.length < 2 ^ 63) <|
  some s85287) (fun _ => none)



/-! 26 -/
abbrev R26 := TApiWhole × Int
def V26 (x : R26) : AV := (AV.tup [(AV.d (TApiWhole.e x.1)), (AV.d (DV.i .i64 x.2))])
def L26 (_ : R26) : List Ob := []
noncomputable def F26_b1 (r85425 : R45) (i85427 : Nat) (s85436 : (Nat → Int)) : Option (Step ((Nat → Int)) R26) :=
  Option.bind (α := (Nat → Int)) (
  some (fun j => if j = i85427 then (IntKind.i64.wrap ((s85436 i85427) + (r85425 i85427))) else s85436 j)) fun s85438 =>
  some (Step.cont s85438)

noncomputable def F26_b2 (a0 : TApiLedger) (a1 : (List Int)) (a2 : Int) (i85311 : Nat) (s85400 : (Nat → Int)) : Option (Step ((Nat → Int)) R26) :=
  Option.bind (α := (Nat → Int)) (
  (F45 a0.Postings (a1.getD i85311 default) 0 a2).bind fun r85425 =>
  outM (σ := (Nat → Int)) (ρ := R26) (rangeM (F26_b1 r85425) 500 0 s85400) (fun s85436 =>
  some s85436) (fun _ => none)) fun s85422 =>
  some (Step.cont s85422)

noncomputable def F26_b3 (a0 : TApiLedger) (a1 : (List Int)) (a2 : Int) (r85447 : R51) (i85449 : Nat) (i124057 : Nat) (i130491 : Nat) (i131561 : Nat) (s131698 : (Nat → Int) × (List TApiBalance) × Int × (List TApiDifference)) : Option (Step ((Nat → Int) × (List TApiBalance) × Int × (List TApiDifference)) R26) :=
  Option.bind (α := (Nat → Int) × (List TApiBalance) × Int × (List TApiDifference)) (
  (F52 a0 140 (a1.getD i124057 default) (a1.getD i130491 default) (r85447.getD i131561 default) a2).bind fun r131735 =>
  (F52 a0 240 (a1.getD i130491 default) (a1.getD i124057 default) (r85447.getD i131561 default) a2).bind fun r131736 =>
  Option.bind (α := Int × Int) (
  if ((i85449 : Int) == 1) = true then (
  (F52 a0 440 (a1.getD i124057 default) (a1.getD i130491 default) (r85447.getD i131561 default) a2).bind fun r131748 =>
  (F52 a0 540 (a1.getD i130491 default) (a1.getD i124057 default) (r85447.getD i131561 default) a2).bind fun r131749 =>
  some ((IntKind.i64.wrap (0 - r131748)), r131749))
  else (
  some (r131735, (IntKind.i64.wrap (0 - r131736))))) fun s131744 =>
  Option.bind (α := (Nat → Int) × (List TApiBalance) × Int) (
  if (decide ((if s131744.2 < s131744.1 then s131744.2 else s131744.1) > 0)) = true then (
  guardP (AllP [(0 : Int) ≤ (IntKind.i64.wrap ((((fun j => ([(fun j => ([140, 240] : List Int).getD j default), (fun j => ([540, 440] : List Int).getD j default)] : List (Nat → Int)).getD j default) i85449) 0) - 100)), ((IntKind.i64.wrap ((((fun j => ([(fun j => ([140, 240] : List Int).getD j default), (fun j => ([540, 440] : List Int).getD j default)] : List (Nat → Int)).getD j default) i85449) 0) - 100))).toNat < 500]) <|
  guardP (AllP [(0 : Int) ≤ (IntKind.i64.wrap ((((fun j => ([(fun j => ([140, 240] : List Int).getD j default), (fun j => ([540, 440] : List Int).getD j default)] : List (Nat → Int)).getD j default) i85449) 1) - 100)), ((IntKind.i64.wrap ((((fun j => ([(fun j => ([140, 240] : List Int).getD j default), (fun j => ([540, 440] : List Int).getD j default)] : List (Nat → Int)).getD j default) i85449) 1) - 100))).toNat < 500]) <|
  some ((fun j => if j = ((IntKind.i64.wrap ((((fun j => ([(fun j => ([140, 240] : List Int).getD j default), (fun j => ([540, 440] : List Int).getD j default)] : List (Nat → Int)).getD j default) i85449) 1) - 100))).toNat then (IntKind.i64.wrap (((fun j => if j = ((IntKind.i64.wrap ((((fun j => ([(fun j => ([140, 240] : List Int).getD j default), (fun j => ([540, 440] : List Int).getD j default)] : List (Nat → Int)).getD j default) i85449) 0) - 100))).toNat then (IntKind.i64.wrap ((s131698.1 (((IntKind.i64.wrap ((((fun j => ([(fun j => ([140, 240] : List Int).getD j default), (fun j => ([540, 440] : List Int).getD j default)] : List (Nat → Int)).getD j default) i85449) 0) - 100))).toNat)) - (if s131744.2 < s131744.1 then s131744.2 else s131744.1))) else s131698.1 j) (((IntKind.i64.wrap ((((fun j => ([(fun j => ([140, 240] : List Int).getD j default), (fun j => ([540, 440] : List Int).getD j default)] : List (Nat → Int)).getD j default) i85449) 1) - 100))).toNat)) + (if s131744.2 < s131744.1 then s131744.2 else s131744.1))) else (fun j => if j = ((IntKind.i64.wrap ((((fun j => ([(fun j => ([140, 240] : List Int).getD j default), (fun j => ([540, 440] : List Int).getD j default)] : List (Nat → Int)).getD j default) i85449) 0) - 100))).toNat then (IntKind.i64.wrap ((s131698.1 (((IntKind.i64.wrap ((((fun j => ([(fun j => ([140, 240] : List Int).getD j default), (fun j => ([540, 440] : List Int).getD j default)] : List (Nat → Int)).getD j default) i85449) 0) - 100))).toNat)) - (if s131744.2 < s131744.1 then s131744.2 else s131744.1))) else s131698.1 j) j), s131698.2.1, (IntKind.i64.wrap (s131698.2.2.1 + (if s131744.2 < s131744.1 then s131744.2 else s131744.1)))))
  else (
  some (s131698.1, s131698.2.1, s131698.2.2.1))) fun s131757 =>
  if (s131744.1 != s131744.2) = true then (
  guardP (AllP [(s131698.2.2.2.length + 1) * (2 * 40) ≤ 2 ^ 48]) <|
  some (s131757.1, s131757.2.1, s131757.2.2, (s131698.2.2.2 ++ ([(⟨(IntKind.i64.wrap ((i85449 : Int) + 1)), (a1.getD i124057 default), (a1.getD i130491 default), (r85447.getD i131561 default), (IntKind.i64.wrap (s131744.1 - s131744.2))⟩ : TApiDifference)] : List TApiDifference))))
  else (
  some (s131757.1, s131757.2.1, s131757.2.2, s131698.2.2.2))) fun s131732 =>
  some (Step.cont (s131732.1, s131732.2.1, s131732.2.2.1, s131732.2.2.2))

noncomputable def F26_b4 (a0 : TApiLedger) (a1 : (List Int)) (a2 : Int) (r85447 : R51) (i85449 : Nat) (i124057 : Nat) (i130491 : Nat) (s131344 : (Nat → Int) × (List TApiBalance) × Int × (List TApiDifference)) : Option (Step ((Nat → Int) × (List TApiBalance) × Int × (List TApiDifference)) R26) :=
  Option.bind (α := (Nat → Int) × (List TApiBalance) × Int × (List TApiDifference)) (
  if ((a1.getD i124057 default) == (a1.getD i130491 default)) = true then (
  some (s131344.1, s131344.2.1, s131344.2.2.1, s131344.2.2.2))
  else (
  outM (σ := (Nat → Int) × (List TApiBalance) × Int × (List TApiDifference)) (ρ := R26) (rangeM (F26_b3 a0 a1 a2 r85447 i85449 i124057 i130491) r85447.length 0 (s131344.1, s131344.2.1, s131344.2.2.1, s131344.2.2.2)) (fun s131698 =>
  some (s131698.1, s131698.2.1, s131698.2.2.1, s131698.2.2.2)) (fun _ => none))) fun s131557 =>
  some (Step.cont (s131557.1, s131557.2.1, s131557.2.2.1, s131557.2.2.2))

noncomputable def F26_b5 (a0 : TApiLedger) (a1 : (List Int)) (a2 : Int) (r85447 : R51) (i85449 : Nat) (i124057 : Nat) (s129202 : (Nat → Int) × (List TApiBalance) × Int × (List TApiDifference)) : Option (Step ((Nat → Int) × (List TApiBalance) × Int × (List TApiDifference)) R26) :=
  Option.bind (α := (Nat → Int) × (List TApiBalance) × Int × (List TApiDifference)) (
  outM (σ := (Nat → Int) × (List TApiBalance) × Int × (List TApiDifference)) (ρ := R26) (rangeM (F26_b4 a0 a1 a2 r85447 i85449 i124057) a1.length 0 (s129202.1, s129202.2.1, s129202.2.2.1, s129202.2.2.2)) (fun s131344 =>
  some (s131344.1, s131344.2.1, s131344.2.2.1, s131344.2.2.2)) (fun _ => none)) fun s130488 =>
  some (Step.cont (s130488.1, s130488.2.1, s130488.2.2.1, s130488.2.2.2))

noncomputable def F26_b6 (a0 : TApiLedger) (a1 : (List Int)) (a2 : Int) (r85447 : R51) (i85449 : Nat) (s116330 : (Nat → Int) × (List TApiBalance) × Int × (List TApiDifference)) : Option (Step ((Nat → Int) × (List TApiBalance) × Int × (List TApiDifference)) R26) :=
  Option.bind (α := (Nat → Int) × (List TApiBalance) × Int × (List TApiDifference)) (
  outM (σ := (Nat → Int) × (List TApiBalance) × Int × (List TApiDifference)) (ρ := R26) (rangeM (F26_b5 a0 a1 a2 r85447 i85449) a1.length 0 (s116330.1, s116330.2.1, s116330.2.2.1, s116330.2.2.2)) (fun s129202 =>
  some (s129202.1, s129202.2.1, s129202.2.2.1, s129202.2.2.2)) (fun _ => none)) fun s124054 =>
  some (Step.cont (s124054.1, s124054.2.1, s124054.2.2.1, s124054.2.2.2))

noncomputable def F26 (a0 : TApiLedger) (a1 : (List Int)) (a2 : Int) : Option R26 :=
  (F25 a0 a1).bind fun r85307 =>
  if (r85307 != 0) = true then (
  some ((⟨[], 0, []⟩ : TApiWhole), r85307))
  else (
  if (bif (decide (a2 < 0)) then true else (decide (a2 > 36000))) = true then (
  some ((⟨[], 0, []⟩ : TApiWhole), 2))
  else (
  outM (σ := (Nat → Int)) (ρ := R26) (rangeM (F26_b2 a0 a1 a2) a1.length 0 (fun j => 0)) (fun s85400 =>
  (F51 a0).bind fun r85447 =>
  outM (σ := (Nat → Int) × (List TApiBalance) × Int × (List TApiDifference)) (ρ := R26) (rangeM (F26_b6 a0 a1 a2 r85447) 2 0 (s85400, ([] : List TApiBalance), 0, ([] : List TApiDifference))) (fun s116330 =>
  (F53 s116330.1).bind fun r131781 =>
  guardP (s116330.2.2.2.length < 2 ^ 63) <|
  some ((⟨r131781, s116330.2.2.1, s116330.2.2.2⟩ : TApiWhole), 0)) (fun _ => none)) (fun _ => none)))



/-! 27 -/
abbrev R27 := (List TApiDifference) × Int
def V27 (x : R27) : AV := (AV.tup [(AV.d (eL TApiDifference.e x.1)), (AV.d (DV.i .i64 x.2))])
def L27 (_ : R27) : List Ob := []
noncomputable def F27 (a0 : TApiLedger) (a1 : (List Int)) (a2 : Int) : Option R27 :=
  (F26 a0 a1 a2).bind fun r131794 =>
  some (r131794.1.Differences, r131794.2)



/-! 54 -/
abbrev R54 := Bool
def V54 (x : R54) : AV := (AV.d (DV.b x))
def L54 (_ : R54) : List Ob := []
noncomputable def F54_b1 (a0 : (List TApiBalance)) (a1 : (List TApiBalance)) (i131822 : Nat) (_ : Unit) : Option (Step (Unit) R54) :=
  outM (σ := Unit) (ρ := (Step (Unit) R54)) (
  guardP (AllP [i131822 < a1.length]) <|
  if (!((((a0.getD i131822 default).Account) == ((a1.getD i131822 default).Account)) && ((((a0.getD i131822 default).Amount) == ((a1.getD i131822 default).Amount)) && true))) = true then (
  some (Out.ret (Step.ret false)))
  else (
  some (Out.next ()))) (fun _ =>
  some (Step.cont ())) (fun x => some x)

noncomputable def F54 (a0 : (List TApiBalance)) (a1 : (List TApiBalance)) : Option R54 :=
  if ((a0.length : Int) != (a1.length : Int)) = true then (
  some false)
  else (
  outM (σ := Unit) (ρ := R54) (rangeM (F54_b1 a0 a1) a0.length 0 ()) (fun _ =>
  some true) (fun x => some x))



/-! 28 -/
abbrev R28 := Bool
def V28 (x : R28) : AV := (AV.d (DV.b x))
def L28 (_ : R28) : List Ob := []
noncomputable def F28 (a0 : TApiWhole) (a1 : TApiWhole) : Option R28 :=
  (F54 a0.Balances a1.Balances).bind fun r131848 =>
  (optP [(bif r131848 then (a0.Eliminated == a1.Eliminated) else false) = true] (F18 a0.Differences a1.Differences)).bind fun r131850 =>
  some (bif (bif r131848 then (a0.Eliminated == a1.Eliminated) else false) then r131850 else false)



/-! 56 -/
abbrev R56 := Int
def V56 (x : R56) : AV := (AV.d (DV.i .i64 x))
def L56 (_ : R56) : List Ob := []
noncomputable def F56 (a0 : TApiLedger) (a1 : Int) (a2 : Int) (a3 : Int) (a4 : Int) (a5 : Int) : Option R56 :=
  (F43 a0).bind fun r132303 =>
  if (r132303 != 0) = true then (
  some 0)
  else (
  (F52 a0 a1 a2 a3 a4 a5).bind fun r132306 =>
  some r132306)



/-! 30 -/
abbrev R30 := Int
def V30 (x : R30) : AV := (AV.d (DV.i .i64 x))
def L30 (_ : R30) : List Ob := []
noncomputable def F30 (a0 : TApiLedger) (a1 : Int) (a2 : Int) (a3 : Int) (a4 : Int) : Option R30 :=
  (F56 a0 140 a1 a2 a3 a4).bind fun r132310 =>
  some r132310



/-! 32 -/
abbrev R32 := Int
def V32 (x : R32) : AV := (AV.d (DV.i .i64 x))
def L32 (_ : R32) : List Ob := []
noncomputable def F32 (a0 : TApiLedger) (a1 : Int) (a2 : Int) (a3 : Int) (a4 : Int) : Option R32 :=
  (F56 a0 240 a1 a2 a3 a4).bind fun r132316 =>
  some (IntKind.i64.wrap (0 - r132316))



/-! 34 -/
abbrev R34 := Int
def V34 (x : R34) : AV := (AV.d (DV.i .i64 x))
def L34 (_ : R34) : List Ob := []
noncomputable def F34 (a0 : TApiLedger) (a1 : Int) (a2 : Int) (a3 : Int) (a4 : Int) : Option R34 :=
  (F56 a0 440 a1 a2 a3 a4).bind fun r132322 =>
  some (IntKind.i64.wrap (0 - r132322))



/-! 36 -/
abbrev R36 := Int
def V36 (x : R36) : AV := (AV.d (DV.i .i64 x))
def L36 (_ : R36) : List Ob := []
noncomputable def F36 (a0 : TApiLedger) (a1 : Int) (a2 : Int) (a3 : Int) (a4 : Int) : Option R36 :=
  (F56 a0 540 a1 a2 a3 a4).bind fun r132328 =>
  some r132328



/-! 7 -/
abbrev R7 := Bool
def V7 (x : R7) : AV := (AV.d (DV.b x))
def L7 (_ : R7) : List Ob := []
noncomputable def F7_b1 (a1 : TApiLedger) (a2 : (List Int)) (a6 : Int) (r135178 : R10) (r135180 : R14) (r135181 : R21) (r135182 : R22) (i135186 : Nat) (r137950 : R23) (r137952 : R23) (i137954 : Nat) (r138338 : R19) (i138340 : Nat) (_ : Unit) : Option (Step (Unit) R7) :=
  outM (σ := Unit) (ρ := (Step (Unit) R7)) (
  (F11 ((fun j => ([r135178.1, r135180.1, r135181, r135182.1, a1] : List TApiLedger).getD j default) i135186) ((fun j => ([a2, ([1, 2, 3] : List Int), ([r137950.1, r137952.1] : List Int), ([2] : List Int)] : List (List Int)).getD j default) i137954) ((fun j => ([a6, r138338.1] : List Int).getD j default) i138340)).bind fun r138389 =>
  (F26 ((fun j => ([r135178.1, r135180.1, r135181, r135182.1, a1] : List TApiLedger).getD j default) i135186) ((fun j => ([a2, ([1, 2, 3] : List Int), ([r137950.1, r137952.1] : List Int), ([2] : List Int)] : List (List Int)).getD j default) i137954) ((fun j => ([a6, r138338.1] : List Int).getD j default) i138340)).bind fun r138391 =>
  (F17 ((fun j => ([r135178.1, r135180.1, r135181, r135182.1, a1] : List TApiLedger).getD j default) i135186) ((fun j => ([a2, ([1, 2, 3] : List Int), ([r137950.1, r137952.1] : List Int), ([2] : List Int)] : List (List Int)).getD j default) i137954) ((fun j => ([a6, r138338.1] : List Int).getD j default) i138340)).bind fun r138393 =>
  (F27 ((fun j => ([r135178.1, r135180.1, r135181, r135182.1, a1] : List TApiLedger).getD j default) i135186) ((fun j => ([a2, ([1, 2, 3] : List Int), ([r137950.1, r137952.1] : List Int), ([2] : List Int)] : List (List Int)).getD j default) i137954) ((fun j => ([a6, r138338.1] : List Int).getD j default) i138340)).bind fun r138395 =>
  (F28 r138389.1 r138391.1).bind fun r138397 =>
  (optP [(bif (!r138397) then true else (r138389.2 != r138391.2)) = false] (F18 r138393.1 r138395.1)).bind fun r138399 =>
  if (bif (bif (bif (!r138397) then true else (r138389.2 != r138391.2)) then true else (!r138399)) then true else (r138393.2 != r138395.2)) = true then (
  some (Out.ret (Step.ret false)))
  else (
  some (Out.next ()))) (fun _ =>
  some (Step.cont ())) (fun x => some x)

noncomputable def F7_b2 (a1 : TApiLedger) (a2 : (List Int)) (a6 : Int) (r135178 : R10) (r135180 : R14) (r135181 : R21) (r135182 : R22) (i135186 : Nat) (r137950 : R23) (r137952 : R23) (i137954 : Nat) (s138255 : TTreasuryplaySrc) : Option (Step (TTreasuryplaySrc) R7) :=
  outM (σ := TTreasuryplaySrc) (ρ := (Step (TTreasuryplaySrc) R7)) (
  (F24 ((fun j => ([r135178.1, r135180.1, r135181, r135182.1, a1] : List TApiLedger).getD j default) i135186) ((fun j => ([a2, ([1, 2, 3] : List Int), ([r137950.1, r137952.1] : List Int), ([2] : List Int)] : List (List Int)).getD j default) i137954)).bind fun r138333 =>
  (F25 ((fun j => ([r135178.1, r135180.1, r135181, r135182.1, a1] : List TApiLedger).getD j default) i135186) ((fun j => ([a2, ([1, 2, 3] : List Int), ([r137950.1, r137952.1] : List Int), ([2] : List Int)] : List (List Int)).getD j default) i137954)).bind fun r138334 =>
  if (r138333 != r138334) = true then (
  some (Out.ret (Step.ret false)))
  else (
  (F19 70 s138255).bind fun r138338 =>
  outM (σ := Unit) (ρ := R7) (rangeM (F7_b1 a1 a2 a6 r135178 r135180 r135181 r135182 i135186 r137950 r137952 i137954 r138338) 2 0 ()) (fun _ =>
  some (Out.next r138338.2)) (fun x => some (Out.ret (Step.ret x))))) (fun s138330 =>
  some (Step.cont s138330)) (fun x => some x)

noncomputable def F7_b3 (a1 : TApiLedger) (a3 : Int) (a4 : Int) (a5 : Int) (a6 : Int) (r135178 : R10) (r135180 : R14) (r135181 : R21) (r135182 : R22) (i135186 : Nat) (r138408 : R23) (r138410 : R23) (r138412 : R19) (r138414 : R19) (i138416 : Nat) (_ : Unit) : Option (Step (Unit) R7) :=
  outM (σ := Unit) (ρ := (Step (Unit) R7)) (
  (F29 ((fun j => ([r135178.1, r135180.1, r135181, r135182.1, a1] : List TApiLedger).getD j default) i135186) (((fun j => ([(fun j => ([a3, a4, a5, a6] : List Int).getD j default), (fun j => ([r138408.1, r138410.1, r138412.1, r138414.1] : List Int).getD j default)] : List (Nat → Int)).getD j default) i138416) 0) (((fun j => ([(fun j => ([a3, a4, a5, a6] : List Int).getD j default), (fun j => ([r138408.1, r138410.1, r138412.1, r138414.1] : List Int).getD j default)] : List (Nat → Int)).getD j default) i138416) 1) (((fun j => ([(fun j => ([a3, a4, a5, a6] : List Int).getD j default), (fun j => ([r138408.1, r138410.1, r138412.1, r138414.1] : List Int).getD j default)] : List (Nat → Int)).getD j default) i138416) 2) (((fun j => ([(fun j => ([a3, a4, a5, a6] : List Int).getD j default), (fun j => ([r138408.1, r138410.1, r138412.1, r138414.1] : List Int).getD j default)] : List (Nat → Int)).getD j default) i138416) 3)).bind fun r138477 =>
  (F30 ((fun j => ([r135178.1, r135180.1, r135181, r135182.1, a1] : List TApiLedger).getD j default) i135186) (((fun j => ([(fun j => ([a3, a4, a5, a6] : List Int).getD j default), (fun j => ([r138408.1, r138410.1, r138412.1, r138414.1] : List Int).getD j default)] : List (Nat → Int)).getD j default) i138416) 0) (((fun j => ([(fun j => ([a3, a4, a5, a6] : List Int).getD j default), (fun j => ([r138408.1, r138410.1, r138412.1, r138414.1] : List Int).getD j default)] : List (Nat → Int)).getD j default) i138416) 1) (((fun j => ([(fun j => ([a3, a4, a5, a6] : List Int).getD j default), (fun j => ([r138408.1, r138410.1, r138412.1, r138414.1] : List Int).getD j default)] : List (Nat → Int)).getD j default) i138416) 2) (((fun j => ([(fun j => ([a3, a4, a5, a6] : List Int).getD j default), (fun j => ([r138408.1, r138410.1, r138412.1, r138414.1] : List Int).getD j default)] : List (Nat → Int)).getD j default) i138416) 3)).bind fun r138478 =>
  (optP [(r138477 != r138478) = false] (F31 ((fun j => ([r135178.1, r135180.1, r135181, r135182.1, a1] : List TApiLedger).getD j default) i135186) (((fun j => ([(fun j => ([a3, a4, a5, a6] : List Int).getD j default), (fun j => ([r138408.1, r138410.1, r138412.1, r138414.1] : List Int).getD j default)] : List (Nat → Int)).getD j default) i138416) 0) (((fun j => ([(fun j => ([a3, a4, a5, a6] : List Int).getD j default), (fun j => ([r138408.1, r138410.1, r138412.1, r138414.1] : List Int).getD j default)] : List (Nat → Int)).getD j default) i138416) 1) (((fun j => ([(fun j => ([a3, a4, a5, a6] : List Int).getD j default), (fun j => ([r138408.1, r138410.1, r138412.1, r138414.1] : List Int).getD j default)] : List (Nat → Int)).getD j default) i138416) 2) (((fun j => ([(fun j => ([a3, a4, a5, a6] : List Int).getD j default), (fun j => ([r138408.1, r138410.1, r138412.1, r138414.1] : List Int).getD j default)] : List (Nat → Int)).getD j default) i138416) 3))).bind fun r138479 =>
  (optP [(r138477 != r138478) = false] (F32 ((fun j => ([r135178.1, r135180.1, r135181, r135182.1, a1] : List TApiLedger).getD j default) i135186) (((fun j => ([(fun j => ([a3, a4, a5, a6] : List Int).getD j default), (fun j => ([r138408.1, r138410.1, r138412.1, r138414.1] : List Int).getD j default)] : List (Nat → Int)).getD j default) i138416) 0) (((fun j => ([(fun j => ([a3, a4, a5, a6] : List Int).getD j default), (fun j => ([r138408.1, r138410.1, r138412.1, r138414.1] : List Int).getD j default)] : List (Nat → Int)).getD j default) i138416) 1) (((fun j => ([(fun j => ([a3, a4, a5, a6] : List Int).getD j default), (fun j => ([r138408.1, r138410.1, r138412.1, r138414.1] : List Int).getD j default)] : List (Nat → Int)).getD j default) i138416) 2) (((fun j => ([(fun j => ([a3, a4, a5, a6] : List Int).getD j default), (fun j => ([r138408.1, r138410.1, r138412.1, r138414.1] : List Int).getD j default)] : List (Nat → Int)).getD j default) i138416) 3))).bind fun r138480 =>
  (optP [(bif (r138477 != r138478) then true else (r138479 != r138480)) = false] (F33 ((fun j => ([r135178.1, r135180.1, r135181, r135182.1, a1] : List TApiLedger).getD j default) i135186) (((fun j => ([(fun j => ([a3, a4, a5, a6] : List Int).getD j default), (fun j => ([r138408.1, r138410.1, r138412.1, r138414.1] : List Int).getD j default)] : List (Nat → Int)).getD j default) i138416) 0) (((fun j => ([(fun j => ([a3, a4, a5, a6] : List Int).getD j default), (fun j => ([r138408.1, r138410.1, r138412.1, r138414.1] : List Int).getD j default)] : List (Nat → Int)).getD j default) i138416) 1) (((fun j => ([(fun j => ([a3, a4, a5, a6] : List Int).getD j default), (fun j => ([r138408.1, r138410.1, r138412.1, r138414.1] : List Int).getD j default)] : List (Nat → Int)).getD j default) i138416) 2) (((fun j => ([(fun j => ([a3, a4, a5, a6] : List Int).getD j default), (fun j => ([r138408.1, r138410.1, r138412.1, r138414.1] : List Int).getD j default)] : List (Nat → Int)).getD j default) i138416) 3))).bind fun r138481 =>
  (optP [(bif (r138477 != r138478) then true else (r138479 != r138480)) = false] (F34 ((fun j => ([r135178.1, r135180.1, r135181, r135182.1, a1] : List TApiLedger).getD j default) i135186) (((fun j => ([(fun j => ([a3, a4, a5, a6] : List Int).getD j default), (fun j => ([r138408.1, r138410.1, r138412.1, r138414.1] : List Int).getD j default)] : List (Nat → Int)).getD j default) i138416) 0) (((fun j => ([(fun j => ([a3, a4, a5, a6] : List Int).getD j default), (fun j => ([r138408.1, r138410.1, r138412.1, r138414.1] : List Int).getD j default)] : List (Nat → Int)).getD j default) i138416) 1) (((fun j => ([(fun j => ([a3, a4, a5, a6] : List Int).getD j default), (fun j => ([r138408.1, r138410.1, r138412.1, r138414.1] : List Int).getD j default)] : List (Nat → Int)).getD j default) i138416) 2) (((fun j => ([(fun j => ([a3, a4, a5, a6] : List Int).getD j default), (fun j => ([r138408.1, r138410.1, r138412.1, r138414.1] : List Int).getD j default)] : List (Nat → Int)).getD j default) i138416) 3))).bind fun r138482 =>
  (optP [(bif (bif (r138477 != r138478) then true else (r138479 != r138480)) then true else (r138481 != r138482)) = false] (F35 ((fun j => ([r135178.1, r135180.1, r135181, r135182.1, a1] : List TApiLedger).getD j default) i135186) (((fun j => ([(fun j => ([a3, a4, a5, a6] : List Int).getD j default), (fun j => ([r138408.1, r138410.1, r138412.1, r138414.1] : List Int).getD j default)] : List (Nat → Int)).getD j default) i138416) 0) (((fun j => ([(fun j => ([a3, a4, a5, a6] : List Int).getD j default), (fun j => ([r138408.1, r138410.1, r138412.1, r138414.1] : List Int).getD j default)] : List (Nat → Int)).getD j default) i138416) 1) (((fun j => ([(fun j => ([a3, a4, a5, a6] : List Int).getD j default), (fun j => ([r138408.1, r138410.1, r138412.1, r138414.1] : List Int).getD j default)] : List (Nat → Int)).getD j default) i138416) 2) (((fun j => ([(fun j => ([a3, a4, a5, a6] : List Int).getD j default), (fun j => ([r138408.1, r138410.1, r138412.1, r138414.1] : List Int).getD j default)] : List (Nat → Int)).getD j default) i138416) 3))).bind fun r138483 =>
  (optP [(bif (bif (r138477 != r138478) then true else (r138479 != r138480)) then true else (r138481 != r138482)) = false] (F36 ((fun j => ([r135178.1, r135180.1, r135181, r135182.1, a1] : List TApiLedger).getD j default) i135186) (((fun j => ([(fun j => ([a3, a4, a5, a6] : List Int).getD j default), (fun j => ([r138408.1, r138410.1, r138412.1, r138414.1] : List Int).getD j default)] : List (Nat → Int)).getD j default) i138416) 0) (((fun j => ([(fun j => ([a3, a4, a5, a6] : List Int).getD j default), (fun j => ([r138408.1, r138410.1, r138412.1, r138414.1] : List Int).getD j default)] : List (Nat → Int)).getD j default) i138416) 1) (((fun j => ([(fun j => ([a3, a4, a5, a6] : List Int).getD j default), (fun j => ([r138408.1, r138410.1, r138412.1, r138414.1] : List Int).getD j default)] : List (Nat → Int)).getD j default) i138416) 2) (((fun j => ([(fun j => ([a3, a4, a5, a6] : List Int).getD j default), (fun j => ([r138408.1, r138410.1, r138412.1, r138414.1] : List Int).getD j default)] : List (Nat → Int)).getD j default) i138416) 3))).bind fun r138484 =>
  if (bif (bif (bif (r138477 != r138478) then true else (r138479 != r138480)) then true else (r138481 != r138482)) then true else (r138483 != r138484)) = true then (
  some (Out.ret (Step.ret false)))
  else (
  some (Out.next ()))) (fun _ =>
  some (Step.cont ())) (fun x => some x)

noncomputable def F7_b4 (a1 : TApiLedger) (a2 : (List Int)) (a3 : Int) (a4 : Int) (a5 : Int) (a6 : Int) (r135178 : R10) (r135180 : R14) (r135181 : R21) (r135182 : R22) (i135186 : Nat) (s137395 : TTreasuryplaySrc) : Option (Step (TTreasuryplaySrc) R7) :=
  outM (σ := TTreasuryplaySrc) (ρ := (Step (TTreasuryplaySrc) R7)) (
  (F23 0 2 s137395).bind fun r137950 =>
  (F23 2 4 r137950.2).bind fun r137952 =>
  outM (σ := TTreasuryplaySrc) (ρ := R7) (rangeM (F7_b2 a1 a2 a6 r135178 r135180 r135181 r135182 i135186 r137950 r137952) 4 0 r137952.2) (fun s138255 =>
  (F23 1 3 s138255).bind fun r138408 =>
  (F23 1 3 r138408.2).bind fun r138410 =>
  (F19 4 r138410.2).bind fun r138412 =>
  (F19 70 r138412.2).bind fun r138414 =>
  outM (σ := Unit) (ρ := R7) (rangeM (F7_b3 a1 a3 a4 a5 a6 r135178 r135180 r135181 r135182 i135186 r138408 r138410 r138412 r138414) 2 0 ()) (fun _ =>
  some (Out.next r138414.2)) (fun x => some (Out.ret (Step.ret x)))) (fun x => some (Out.ret (Step.ret x)))) (fun s137947 =>
  some (Step.cont s137947)) (fun x => some x)

noncomputable def F7 (a0 : (List Int)) (a1 : TApiLedger) (a2 : (List Int)) (a3 : Int) (a4 : Int) (a5 : Int) (a6 : Int) : Option R7 :=
  if (bif (decide ((a1.Postings.length : Int) > 15)) then true else (decide ((a2.length : Int) > 12))) = true then (
  (F13).bind fun r135174 =>
  some r135174)
  else (
  (F9 a0).bind fun r135176 =>
  (F10 12 3 60 r135176).bind fun r135178 =>
  (F14 4 r135178.2).bind fun r135180 =>
  (F21).bind fun r135181 =>
  (F22 r135178.1 r135180.2).bind fun r135182 =>
  outM (σ := TTreasuryplaySrc) (ρ := R7) (rangeM (F7_b4 a1 a2 a3 a4 a5 a6 r135178 r135180 r135181 r135182) 5 0 r135182.2) (fun _ =>
  (F13).bind fun r138502 =>
  some r138502) (fun x => some x))



end Go.Proofs.Ytkkdclpleghppaa
