/- A part of the proof: laws over any program of the abstract machine. No condition. -/
import Derived.Test.YtkkdclpleghppaaTaOp7
namespace Go.TA
open Go

def opnds (G : GFr) (ch : Chain) : List Operand → Option (List AV)
  | [] => some []
  | x :: r => match opnd G ch x, opnds G ch r with
    | some a, some as => some (a :: as)
    | _, _ => none

theorem opnds_is {c : Cx} {G : GFr} {ch : Chain} {a : Act} (hf : FrIs c G a.tmps) (hh : holds ch a.tmps) : ∀ {l : List Operand} {as : List AV}, opnds G ch l = some as →
    AV.IsVs c as (l.map a.eval)
  | [], as, h => by simp [opnds] at h; subst h; exact .nil
  | x :: r, as, h => by
    simp only [opnds] at h
    cases h1 : opnd G ch x with
    | none => simp [h1] at h
    | some y =>
      cases h2 : opnds G ch r with
      | none => simp [h1, h2] at h
      | some ys =>
        simp [h1, h2] at h
        subst h
        exact .cons _ _ _ _ (opnd_is h1 hf hh) (opnds_is hf hh h2)

def partsO (G : GFr) (ch : Chain) : List (Nat × Operand) → Option (List (Nat × AV))
  | [] => some []
  | (i, x) :: r => match opnd G ch x, partsO G ch r with
    | some a, some as => some ((i, a) :: as)
    | _, _ => none

theorem partsO_is {c : Cx} {G : GFr} {ch : Chain} {a : Act} (hf : FrIs c G a.tmps) (hh : holds ch a.tmps) : ∀ {l : List (Nat × Operand)} {as : List (Nat × AV)}, partsO G ch l = some as →
    PartsIs c as (l.map fun p => (p.1, a.eval p.2))
  | [], as, h => by simp [partsO] at h; subst h; trivial
  | (i, x) :: r, as, h => by
    simp only [partsO] at h
    cases h1 : opnd G ch x with
    | none => simp [h1] at h
    | some y =>
      cases h2 : partsO G ch r with
      | none => simp [h1, h2] at h
      | some ys =>
        simp [h1, h2] at h
        subst h
        exact ⟨rfl, opnd_is h1 hf hh, partsO_is hf hh h2⟩

def intO (G : GFr) (ch : Chain) : Option Operand → Option (Option Int)
  | none => some none
  | some x => match opnd G ch x with
    | some (.d (.i _ n)) => some (some n)
    | _ => none

theorem intO_is {c : Cx} {G : GFr} {ch : Chain} {a : Act} (hf : FrIs c G a.tmps) (hh : holds ch a.tmps) {o : Option Operand} {r : Option Int} (h : intO G ch o = some r) :
    ∃ k, o.map a.eval = r.map (Value.int k) := by
  unfold intO at h
  split at h
  · cases h; exact ⟨.i64, rfl⟩
  · split at h
    · rename_i x k n hx
      cases h
      exact ⟨k, by simp [IsV.i (opnd_is hx hf hh)]⟩
    · cases h

def pick3 (G : GFr) (ch : Chain) (x y z : Operand) : Option (AV × List Prop) :=
  match opnd G ch x with
  | some (.d (.b p)) => match x with
    | .tmp t => match opnd G ((t, true) :: ch) y, opnd G ((t, false) :: ch) z with
      | some (.d (.b q)), some (.d (.b r)) => some (.d (.b (bif p then q else r)), [])
      | _, _ => none
    | _ => none
  | _ => none

/-- What an operation yields that leaves the world alone. -/
def aval (P : Program) (G : GFr) (ch : Chain) (L : List Ob) (o : Oper) : Option (AV × List Prop) :=
  match o.op with
  | .move x => (opnd G ch x).map fun a => (a, [])
  | .assign x => (opnd G ch x).map fun a => (a, [])
  | .pick x y z => pick3 G ch x y z
  | .build t ps => (partsO G ch ps.toList).bind (vBuild P t)
  | .load t x => (opnd G ch x).bind (vLoad P L t)
  | .nilCheck x => (opnd G ch x).bind vNil
  | .binOp op t x y _ => (opnd G ch x).bind fun a => (opnd G ch y).bind fun b => vBin P op t a b
  | .unOp op _ x => (opnd G ch x).bind (vUn op)
  | .convert s d x => (opnd G ch x).bind (vConv P s d)
  | .makeFunc (.func f) first caps => if first.size = 0 then (opnds G ch caps.toList).map fun as => (.fn f as, []) else none
  | .slice t x lo hi mx => (opnd G ch x).bind fun a => (intO G ch lo).bind fun l => (intO G ch hi).bind fun h => (intO G ch mx).bind fun m => match P.underlying t with
    | some (.array _ _) => none
    | _ => vSlice P L t a l h m
  | .fieldAddr s x f => (opnd G ch x).bind (vFieldAddr P L s f)
  | .field t x f => (opnd G ch x).bind (vField P t f)
  | .indexAddr t x i => (opnd G ch x).bind fun a => match opnd G ch i with
    | some (.d (.i _ n)) => vIndexAddr P L t a n
    | _ => none
  | .index t x i => (opnd G ch x).bind fun a => match opnd G ch i with
    | some (.d (.i _ n)) => vIndex P t a n
    | _ => none
  | .extract x i => (opnd G ch x).bind fun a => vExtract a i
  | .call ⟨.builtin .len, args, ts⟩ => match args.toList, ts.toList with
    | [x], [t] => (opnd G ch x).bind (vLen P L t)
    | _, _ => none
  | .call ⟨.builtin .min, args, _⟩ => match opnds G ch args.toList with
    | some (x :: r) => (avMinMax false x r).map fun a => (a, [])
    | _ => none
  | .call ⟨.builtin .max, args, _⟩ => match opnds G ch args.toList with
    | some (x :: r) => (avMinMax true x r).map fun a => (a, [])
    | _ => none
  | _ => none

theorem run_builtin {P : Program} {w : World} {ρ : Operand → Value} {b : Builtin} {args : Array Operand} {ts : Array TypeId} {ty : TypeId} :
    (do let d ← resolve ρ ⟨.builtin b, args, ts⟩ ty; invoke d.target d.args : Sem Next).run P w =
      (builtin b ts ty (args.map fun | .const _ => true | _ => false) (args.map ρ)).run P w := rfl

theorem run_v {P : Program} {w w' : World} {s : Sem Value} {v : Value} (h : s.run P w = .ok v w') : (do pure (.value (← s)) : Sem Next).run P w = .ok (.value v) w' := by
  simp [h]

theorem aval_ok {P : Program} {X : Nat → Prop} {ms : Blocks} {L : List Ob} {w : World} {G : GFr} {ch : Chain} {o : Oper} {a : Act} {av : AV} {C : List Prop}
    (h : aval P G ch L o = some (av, C)) (hc : AllP C) (hr : Rel X ms L w) (hf : FrIs (cxOf X ms L w) G a.tmps) (hh : holds ch a.tmps) :
    ∃ u, (execOp a.eval o).run P w = .ok (.value u) w ∧ AV.IsV (cxOf X ms L w) av u := by
  obtain ⟨dst, op, ty, pos, after, guard⟩ := o
  unfold aval at h
  simp only at h
  split at h
  case h_1 x =>
    cases hx : opnd G ch x with
    | none => simp [hx] at h
    | some y =>
      simp [hx] at h; obtain ⟨rfl, rfl⟩ := h
      exact ⟨_, rfl, opnd_is hx hf hh⟩
  case h_2 x =>
    cases hx : opnd G ch x with
    | none => simp [hx] at h
    | some y =>
      simp [hx] at h; obtain ⟨rfl, rfl⟩ := h
      exact ⟨_, rfl, opnd_is hx hf hh⟩
  case h_3 x y z =>
    unfold pick3 at h
    split at h
    · rename_i p hx
      split at h
      · rename_i t
        split at h
        · rename_i q r hq hr'
          cases h
          have e := IsV.b (opnd_is hx hf hh)
          have et : a.tmps.getD t undef = .bool p := e
          cases p with
          | true =>
            have hh' : holds ((t, true) :: ch) a.tmps := fun y hy => by
              rcases List.mem_cons.1 hy with rfl | hy
              · exact et
              · exact hh y hy
            exact ⟨a.eval y, by simp [execOp, e, asBool], opnd_is hq hf hh'⟩
          | false =>
            have hh' : holds ((t, false) :: ch) a.tmps := fun y hy => by
              rcases List.mem_cons.1 hy with rfl | hy
              · exact et
              · exact hh y hy
            exact ⟨a.eval z, by simp [execOp, e, asBool], opnd_is hr' hf hh'⟩
        · cases h
      · cases h
    · cases h
  case h_4 t ps =>
    cases hx : partsO G ch ps.toList with
    | none => simp [hx] at h
    | some as =>
      simp [hx] at h
      have := partsO_is hf hh hx
      obtain ⟨v, h1, h2⟩ := vBuild_ok (P := P) (w := w) (vs := ps.map fun (i, x) => (i, a.eval x)) h hc (by simpa using this)
      exact ⟨v, run_v h1, h2⟩
  case h_5 t x =>
    cases hx : opnd G ch x with
    | none => simp [hx] at h
    | some y =>
      simp [hx] at h
      obtain ⟨v, h1, h2⟩ := vLoad_ok hr h hc (opnd_is hx hf hh)
      exact ⟨v, run_v h1, h2⟩
  case h_6 x =>
    cases hx : opnd G ch x with
    | none => simp [hx] at h
    | some y =>
      simp [hx] at h
      have hv := opnd_is hx hf hh
      refine ⟨a.eval x, ?_, ?_⟩
      · unfold vNil at h
        have hrun : ∀ u, a.eval x = u → (∃ ad, u = .pointer (some ad)) ∨ (∃ f b c, u = .func (.func f) b c) →
            (execOp a.eval { dst, op := .nilCheck x, type := ty, pos, after, guard }).run P w = .ok (.value u) w := by
          rintro u hu (⟨ad, rfl⟩ | ⟨f, b, c, rfl⟩) <;> (simp only [execOp, hu]; rfl)
        split at h
        · have hv' := IsV.is1 rfl (by simp) (by simp) hv
          refine hrun _ rfl (.inl ?_)
          generalize a.eval x = u at *
          cases hv' with
          | ptr _ _ _ _ hp => exact hp.2.1
        · have hv' := IsV.is1 rfl (by simp) (by simp) hv
          refine hrun _ rfl (.inl ?_)
          generalize a.eval x = u at *
          cases hv' with
          | imm => exact ⟨_, rfl⟩
        · have hv' := IsV.is1 rfl (by simp) (by simp) hv
          refine hrun _ rfl (.inr ?_)
          generalize a.eval x = u at *
          cases hv' with
          | fn => exact ⟨_, _, _, rfl⟩
        · cases h
      · unfold vNil at h
        split at h <;> first | (cases h; exact hv) | cases h
  case h_7 op t x y yt =>
    cases hx : opnd G ch x with
    | none => simp [hx] at h
    | some x' =>
      cases hy : opnd G ch y with
      | none => simp [hx, hy] at h
      | some y' =>
        simp [hx, hy] at h
        obtain ⟨v, h1, h2⟩ := vBin_ok (P := P) (w := w) (ox := x) (oy := y) h hc (opnd_is hx hf hh) (opnd_is hy hf hh)
        exact ⟨v, run_v h1, h2⟩
  case h_8 op t x =>
    cases hx : opnd G ch x with
    | none => simp [hx] at h
    | some x' =>
      simp [hx] at h
      obtain ⟨v, h1, h2⟩ := vUn_ok (P := P) (w := w) h (opnd_is hx hf hh)
      exact ⟨v, run_v h1, h2⟩
  case h_9 s d x =>
    cases hx : opnd G ch x with
    | none => simp [hx] at h
    | some x' =>
      simp [hx] at h
      obtain ⟨v, h1, h2⟩ := vConv_ok (P := P) (w := w) h (opnd_is hx hf hh)
      exact ⟨v, run_v h1, h2⟩
  case h_10 f first caps =>
    split at h
    · rename_i h0
      cases hx : opnds G ch caps.toList with
      | none => simp [hx] at h
      | some as =>
        simp [hx] at h
        obtain ⟨rfl, rfl⟩ := h
        have := opnds_is hf hh hx
        refine ⟨.func (.func f) #[] (caps.toList.map a.eval).toArray, ?_, .one _ _ rfl (.fn _ _ _ this)⟩
        have e : first = #[] := Array.eq_empty_of_size_eq_zero h0
        subst e
        simp only [execOp, Instr.makeFunc, Array.map_empty, Sem.run_bind, Sem.run_pure, Result.andThen_ok]
        rw [← Array.toList_map, Array.toArray_toList]
    · cases h
  case h_11 t x lo hi mx =>
    cases hx : opnd G ch x with
    | none => simp [hx] at h
    | some x' =>
      cases hl : intO G ch lo with
      | none => simp [hx, hl] at h
      | some l =>
        cases hhi : intO G ch hi with
        | none => simp [hx, hl, hhi] at h
        | some hi' =>
          cases hm : intO G ch mx with
          | none => simp [hx, hl, hhi, hm] at h
          | some m =>
            simp only [hx, hl, hhi, hm, Option.bind_some] at h
            split at h
            · cases h
            · rename_i hna
              obtain ⟨kl, e1⟩ := intO_is hf hh hl
              obtain ⟨kh, e2⟩ := intO_is hf hh hhi
              obtain ⟨km, e3⟩ := intO_is hf hh hm
              obtain ⟨v, h1, h2⟩ := vSlice_ok (P := P) (c := cxOf X ms L w) (w := w) (kl := kl) (kh := kh) (km := km) h hc (opnd_is hx hf hh)
              refine ⟨v, run_v ?_, h2⟩
              have hu : ∃ d, P.underlying t = some d := by
                unfold vSlice at h
                cases hd : P.underlying t with
                | none => simp [hd] at h
                | some d => exact ⟨d, rfl⟩
              obtain ⟨d, hd⟩ := hu
              rw [e1, e2, e3]
              unfold Instr.sliceAt
              rw [Sem.run_bind, run_und hd w, Result.andThen_ok]
              split
              · rename_i n e
                exact absurd hd (hna n e)
              · exact h1
  case h_12 s x f =>
    cases hx : opnd G ch x with
    | none => simp [hx] at h
    | some x' =>
      simp [hx] at h
      obtain ⟨v, h1, h2⟩ := vFieldAddr_ok (P := P) (w := w) (c := cxOf X ms L w) h hc (opnd_is hx hf hh)
      exact ⟨v, run_v h1, h2⟩
  case h_13 t x f =>
    cases hx : opnd G ch x with
    | none => simp [hx] at h
    | some x' =>
      simp [hx] at h
      obtain ⟨v, h1, h2⟩ := vField_ok (P := P) (w := w) h (opnd_is hx hf hh)
      exact ⟨v, run_v h1, h2⟩
  case h_14 t x i =>
    cases hx : opnd G ch x with
    | none => simp [hx] at h
    | some x' =>
      simp only [hx, Option.bind_some] at h
      split at h
      · rename_i k n hi
        obtain ⟨v, h1, h2⟩ := vIndexAddr_ok (P := P) (w := w) (c := cxOf X ms L w) (k := k) h hc (opnd_is hx hf hh)
        refine ⟨v, run_v ?_, h2⟩
        rw [IsV.i (opnd_is hi hf hh)]
        exact h1
      · cases h
  case h_15 t x i =>
    cases hx : opnd G ch x with
    | none => simp [hx] at h
    | some x' =>
      simp only [hx, Option.bind_some] at h
      split at h
      · rename_i k n hi
        obtain ⟨v, h1, h2⟩ := vIndex_ok (P := P) (w := w) (k := k) h hc (opnd_is hx hf hh)
        refine ⟨v, run_v ?_, h2⟩
        rw [IsV.i (opnd_is hi hf hh)]
        exact h1
      · cases h
  case h_16 x i =>
    cases hx : opnd G ch x with
    | none => simp [hx] at h
    | some x' =>
      simp [hx] at h
      obtain ⟨v, h1, h2⟩ := vExtract_ok (P := P) (w := w) h (opnd_is hx hf hh)
      exact ⟨v, run_v h1, h2⟩
  case h_17 args ts =>
    split at h
    · rename_i x t hxs hts
      cases hx : opnd G ch x with
      | none => simp [hx] at h
      | some x' =>
        simp [hx] at h
        obtain ⟨v, h1, h2⟩ := vLen_ok (P := P) (ty := ty) hr h (opnd_is hx hf hh)
        refine ⟨v, ?_, h2⟩
        have e1 : args = #[x] := by rw [← Array.toList_inj]; simpa using hxs
        have e2 : ts = #[t] := by rw [← Array.toList_inj]; simpa using hts
        subst e1; subst e2
        exact run_v (s := Builtin.len_ #[t] ty (#[x].map a.eval)) (by simpa using h1)
    · cases h
  case h_18 args ts =>
    split at h
    · rename_i x r hx
      cases hm : avMinMax false x r with
      | none => simp [hm] at h
      | some y =>
        simp [hm] at h
        obtain ⟨rfl, rfl⟩ := h
        have hv := opnds_is hf hh hx
        generalize hvs : args.toList.map a.eval = vs at hv
        cases hv with
        | cons _ _ u us hu hus =>
        obtain ⟨v, h1, h2⟩ := avMin_ok (P := P) (w := w) r x y u us hm hu hus
        refine ⟨v, ?_, h2⟩
        have e : (args.map a.eval).toList = u :: us := by simpa using hvs
        exact run_v (s := Builtin.min_ ts ty (args.map a.eval)) (by simp only [Builtin.min_, e]; exact h1)
    · cases h
  case h_19 args ts =>
    split at h
    · rename_i x r hx
      cases hm : avMinMax true x r with
      | none => simp [hm] at h
      | some y =>
        simp [hm] at h
        obtain ⟨rfl, rfl⟩ := h
        have hv := opnds_is hf hh hx
        generalize hvs : args.toList.map a.eval = vs at hv
        cases hv with
        | cons _ _ u us hu hus =>
        obtain ⟨v, h1, h2⟩ := avMax_ok (P := P) (w := w) r x y u us hm hu hus
        refine ⟨v, ?_, h2⟩
        have e : (args.map a.eval).toList = u :: us := by simpa using hvs
        exact run_v (s := Builtin.max_ ts ty (args.map a.eval)) (by simp only [Builtin.max_, e]; exact h1)
    · cases h
  case h_20 => cases h
end Go.TA
