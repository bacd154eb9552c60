/- A part of the proof: laws over any program of the abstract machine. No condition. -/
import Derived.Test.YtkkdclpleghppaaTaMap
namespace Go.TA
open Go

/-! ## calls -/
/-- **What a call does**, in every state that is so. -/
def CallOk (P : Program) (f : FuncId) (args : List AV) (L : List Ob) (v : AV) (L' : List Ob) : Prop :=
  ∀ (X : Nat → Prop) (ms : Blocks) (w : World) (us : List Value), Rel X ms L w → AV.IsVs (cxOf X ms L w) args us →
    Calls P f us.toArray w fun e w' => ∃ u ms', e = .returned u ∧ Rel X ms' L' w' ∧ Ext ms w ms' w' ∧ (cxOf X ms L w).le (cxOf X ms' L' w') ∧ AV.IsV (cxOf X ms' L' w') v u

def callable (P : Program) (f : FuncId) : Bool := match P.funcs[f]? with
  | some fn => !(fn.name == "runtime.NumGoroutine") && fn.body.isSome
  | none => false

theorem AV.IsVs.append {c : Cx} : ∀ {as : List AV} {us : List Value} {bs : List AV} {vs : List Value}, AV.IsVs c as us → AV.IsVs c bs vs → AV.IsVs c (as ++ bs) (us ++ vs)
  | _, _, _, _, .nil, h => h
  | _, _, _, _, .cons _ _ _ _ h ht, h' => .cons _ _ _ _ h (AV.IsVs.append ht h')

theorem call_op {P : Program} {L L' : List Ob} {G : GFr} {ch : Chain} {o : Oper} {fo : Operand} {args : Array Operand} {ts : Array TypeId} {f : FuncId} {caps as : List AV} {v : AV}
    (ho : o.op = .call ⟨.value fo, args, ts⟩) (hf0 : opnd G ch fo = some (.fn f caps)) (ha : opnds G ch args.toList = some as) (hcall : callable P f = true)
    (h : CallOk P f (as ++ caps) L v L') : OpOk P G ch L o v L' := by
  intro X ms w a K Q hr hf hh hK
  have hfv := IsV.is1 rfl (by simp) (by simp) (opnd_is hf0 hf hh)
  have hav := opnds_is hf hh ha
  generalize hfo : a.eval fo = u at hfv
  cases hfv with
  | fn _ _ vs hvs =>
  unfold callable at hcall
  split at hcall
  · rename_i fn hfn
    simp only [Bool.and_eq_true, Bool.not_eq_true', beq_eq_false_iff_ne, ne_eq] at hcall
    have hexec : (execOp a.eval o).run P w = .ok (.enter f (args.toList.map a.eval ++ vs).toArray) w := by
      obtain ⟨dst, op, ty, pos, after, guard⟩ := o
      subst ho
      have hb : fn.body.isNone = false := by
        cases hbd : fn.body with
        | none => simp [hbd] at hcall
        | some _ => rfl
      simp only [execOp, resolve, hfo, Deferred.ofValue, Sem.run_bind, Sem.run_pure, Result.andThen_ok, invoke, callFunc, run_program, hfn, hb, Bool.false_eq_true, if_false]
      rw [if_neg (by simpa using hcall.1)]
      simp
    unfold Oper.wp
    rw [hexec]
    refine (h X ms w _ hr (hav.append hvs)).mono fun e w' ⟨u, ms', he, h1, h2, h3, h4⟩ => ?_
    subst he
    exact hK u ms' w' h1 h2 h3 h4
  · cases hcall

/-! ## what is known may be said less of -/
def LeV (v v' : AV) : Prop := ∀ c u, AV.IsV c v u → AV.IsV c v' u
theorem LeV.refl (v : AV) : LeV v v := fun _ _ h => h

/-- The same object, said otherwise. -/
structure OLe (x y : Ob) : Prop where
  kind : x.kind = y.kind
  stamp : x.stamp = y.stamp
  is : ∀ c w o, ObIs c w o x → ObIs c w o y

theorem OLe.refl (x : Ob) : OLe x x := ⟨rfl, rfl, fun _ _ _ h => h⟩

theorem Rel.recast {X : Nat → Prop} {ms : Blocks} {L : List Ob} {w : World} (h : Rel X ms L w) {o : Nat} {x y : Ob} (hL : L[o]? = some x) (hxy : OLe x y) :
    Rel X ms (L.set o y) w ∧ (cxOf X ms L w).le (cxOf X ms (L.set o y) w) := by
  have hlt : o < L.length := by
    rcases Nat.lt_or_ge o L.length with h' | h'
    · exact h'
    · rw [List.getElem?_eq_none h'] at hL; cases hL
  have hr := h.step (ms' := ms) (L' := L.set o y) (w' := w) (Ext.refl _ _) (by simp [h.len]) h.lt h.inj (by simp) (fun i x' hi hl hs => by
    by_cases hio : o = i
    · subst hio
      rw [List.getElem?_set_self hlt] at hl
      cases hl
      exact ⟨x, hL, hxy.kind, fun s hs => ⟨s, by rw [← hxy.stamp]; exact hs, Nat.le_refl _⟩, fun _ => rfl⟩
    · rw [List.getElem?_set_ne hio] at hl
      exact ⟨x', hl, rfl, fun s hs => ⟨s, hs, Nat.le_refl _⟩, fun _ => rfl⟩) (fun i x' hl => by
    by_cases hio : o = i
    · subst hio
      rw [List.getElem?_set_self hlt] at hl
      cases hl
      exact .inr fun hc => hxy.is _ _ _ ((h.obs o x hL).mono hc rfl (fun _ _ _ => rfl))
    · rw [List.getElem?_set_ne hio] at hl
      exact .inl ⟨hl, rfl, fun _ _ _ => rfl⟩)
  exact hr

/-! ## one operation -/
inductive Hint where
  | none
  | imm
  | obj
  | call (v : AV) (L' : List Ob)
  | callq (v : AV)
  | callr (v : AV)
  | born (k : Nat) (full : Bool)
  | callw (v : AV) (ups : List (Nat × Ob)) (new : List Ob)

def applyUps (L : List Ob) (ups : List (Nat × Ob)) : List Ob := ups.foldl (fun L u => L.set u.1 u.2) L

inductive Res where
  | val (v : AV) (C : List Prop)
  | eff (v : AV) (L' : List Ob) (C : List Prop)

def astep (P : Program) (G : GFr) (ch : Chain) (L : List Ob) (o : Oper) (h : Hint) : Option Res :=
  match o.op with
  | .alloc t => match h with
    | .born k full => (eBorn P L t k full).map fun p => .eff p.1 p.2 []
    | .obj => (eAlloc P L t true).map fun p => .eff p.1 p.2 []
    | _ => (eAlloc P L t false).map fun p => .eff p.1 p.2 []
  | .box _ x => (opnd G ch x).bind fun v => (eBox L v).map fun p => .eff p.1 p.2 []
  | .store t p x => (opnd G ch p).bind fun pv => (opnd G ch x).bind fun xv => (eStore P L t pv xv).map fun q => .eff q.1 q.2.1 q.2.2
  | .buildSlice t len ps => (partsO G ch ps.toList).bind fun pv => match h with
    | .obj => (eBsObj P L t len pv).map fun p => .eff p.1 p.2 []
    | _ => if len < 2 ^ 63 then (eBsImm P t len pv).map fun v => .val v [] else none
  | .makeSlice t l c => (opnd G ch l).bind fun lv => (opnd G ch c).bind fun cv => (eMake P L t lv cv).map fun q => .eff q.1 q.2.1 q.2.2
  | .call ⟨.value fo, args, _⟩ => match opnd G ch fo, opnds G ch args.toList with
    | some (.fn f caps), some as => if callable P f then match h with
        | .call v L' => some (.eff v L' [CallOk P f (as ++ caps) L v L'])
        | .callw v ups new => some (.eff v (applyUps L ups ++ new) [CallOk P f (as ++ caps) L v (applyUps L ups ++ new)])
        | .callq v => some (.val v [∀ L, CallOk P f (as ++ caps) L v L])
        | .callr v => some (.val v [CallOk P f (as ++ caps) L v L])
        | _ => none
      else none
    | _, _ => none
  | .call ⟨.builtin .append, args, ts⟩ => match args.toList, ts.toList with
    | [s, x], [t, t'] => if t = t' then (opnd G ch x).bind fun xv => match opnd G ch s, h with
        | some (.full 0 _), .obj => (eAppNew P L t xv).map fun q => .eff q.1 q.2.1 q.2.2
        | some (.full n f), _ => (eAppImm P L t n f xv).map fun q => .val q.1 q.2
        | some (.ref r st 0 n), _ => (eAppRef P L t r st n xv).map fun q => .eff q.1 q.2.1 q.2.2
        | _, _ => none
      else none
    | _, _ => none
  | .makeMap _ none => some (.eff (.map L.length) (L ++ [.map []]) [])
  | .lookup t x k ok => (opnd G ch x).bind fun xv => (opnd G ch k).bind fun kv => match h with
    | .callr v => some (.val v [LookOk P L t xv kv ok v])
    | _ => none
  | .mapEntry t m k => (opnd G ch m).bind fun mv => (opnd G ch k).bind fun kv => match h with
    | .call v L' => some (.eff v L' [EntOk P L t mv kv v L'])
    | _ => none
  | .entryStore t m s x => (opnd G ch m).bind fun mv => (opnd G ch s).bind fun sv => (opnd G ch x).bind fun xv => match h with
    | .call v L' => if v.isBot ∧ xv.solid then some (.eff v L' [StoOk P L t mv sv xv L']) else none
    | _ => none
  | .mapUpdate t m k x => (opnd G ch m).bind fun mv => (opnd G ch k).bind fun kv => (opnd G ch x).bind fun xv => match h with
    | .call v L' => if v.isBot ∧ xv.solid then some (.eff v L' [UpdOk P L t mv kv xv L']) else none
    | _ => none
  | _ => (aval P G ch L o).map fun p => .val p.1 p.2

def Res.ok (P : Program) (G : GFr) (ch : Chain) (L : List Ob) (o : Oper) : Res → Prop
  | .val v C => AllP C → OpOk P G ch L o v L
  | .eff v L' C => AllP C → OpOk P G ch L o v L'

theorem astep_ok {P : Program} {G : GFr} {ch : Chain} {L : List Ob} {o : Oper} {h : Hint} {r : Res} (hs : astep P G ch L o h = some r) : r.ok P G ch L o := by
  unfold astep at hs
  split at hs
  case h_1 t ho =>
    split at hs
    · rename_i k full
      cases he : eBorn P L t k full with
      | none => simp [he] at hs
      | some p => simp [he] at hs; subst hs; exact fun _ => born_op ho he
    · cases he : eAlloc P L t true with
      | none => simp [he] at hs
      | some p => simp [he] at hs; subst hs; exact fun _ => alloc_op ho he
    · cases he : eAlloc P L t false with
      | none => simp [he] at hs
      | some p => simp [he] at hs; subst hs; exact fun _ => alloc_op ho he
  case h_2 t x ho =>
    cases hx : opnd G ch x with
    | none => simp [hx] at hs
    | some v =>
      cases he : eBox L v with
      | none => simp [hx, he] at hs
      | some p => simp [hx, he] at hs; subst hs; exact fun _ => box_op ho hx he
  case h_3 t p x ho =>
    cases hp : opnd G ch p with
    | none => simp [hp] at hs
    | some pv =>
      cases hx : opnd G ch x with
      | none => simp [hp, hx] at hs
      | some xv =>
        cases he : eStore P L t pv xv with
        | none => simp [hp, hx, he] at hs
        | some q => simp [hp, hx, he] at hs; subst hs; exact fun hc => store_op ho hp hx he hc
  case h_4 t len ps ho =>
    cases hp : partsO G ch ps.toList with
    | none => simp [hp] at hs
    | some pv =>
      simp only [hp, Option.bind_some] at hs
      split at hs
      · cases he : eBsObj P L t len pv with
        | none => simp [he] at hs
        | some p => simp [he] at hs; subst hs; exact fun _ => bsObj_op ho hp he
      · split at hs
        · rename_i hlt
          cases he : eBsImm P t len pv with
          | none => simp [he] at hs
          | some p => simp [he] at hs; subst hs; exact fun _ => bsImm_op ho hp he hlt
        · cases hs
  case h_5 t l c ho =>
    cases hl : opnd G ch l with
    | none => simp [hl] at hs
    | some lv =>
      cases hc : opnd G ch c with
      | none => simp [hl, hc] at hs
      | some cv =>
        cases he : eMake P L t lv cv with
        | none => simp [hl, hc, he] at hs
        | some q => simp [hl, hc, he] at hs; subst hs; exact fun hc' => make_op ho hl hc he hc'
  case h_6 fo args ts ho =>
    split at hs
    · rename_i f caps as hfo has
      split at hs
      · rename_i hcl
        split at hs
        · cases hs
          exact fun hc => call_op ho hfo has hcl hc.1
        · cases hs
          exact fun hc => call_op ho hfo has hcl hc.1
        · cases hs
          exact fun hc => call_op ho hfo has hcl (hc.1 L)
        · cases hs
          exact fun hc => call_op ho hfo has hcl hc.1
        · cases hs
      · cases hs
    · cases hs
  case h_7 args ts ho =>
    split at hs
    · rename_i s x t t' hargs hts
      split at hs
      · rename_i ht
        subst ht
        have e1 : args = #[s, x] := by rw [← Array.toList_inj]; simpa using hargs
        have e2 : ts = #[t, t] := by rw [← Array.toList_inj]; simpa using hts
        subst e1; subst e2
        cases hx : opnd G ch x with
        | none => simp [hx] at hs
        | some xv =>
          simp only [hx, Option.bind_some] at hs
          split at hs
          · rename_i hso
            cases he : eAppNew P L t xv with
            | none => simp [he] at hs
            | some q => simp [he] at hs; subst hs; exact fun hc => appNew_op ho hso hx he hc
          · rename_i n' f' hso _
            cases he : eAppImm P L t n' f' xv with
            | none => simp [he] at hs
            | some q => simp [he] at hs; subst hs; exact fun hc => appImm_op ho hso hx he hc
          · rename_i r' st' n' hso
            cases he : eAppRef P L t r' st' n' xv with
            | none => simp [he] at hs
            | some q => simp [he] at hs; subst hs; exact fun hc => appRef_op ho hso hx he hc
          · cases hs
      · cases hs
    · cases hs
  case h_8 t ho =>
    cases hs
    exact fun _ => makeMap_op ho
  case h_9 t x k ok ho =>
    cases hx : opnd G ch x with
    | none => simp [hx] at hs
    | some xv =>
      cases hk : opnd G ch k with
      | none => simp [hx, hk] at hs
      | some kv =>
        simp only [hx, hk, Option.bind_some] at hs
        split at hs
        · cases hs; exact fun hc => look_op ho hx hk hc.1
        · cases hs
  case h_10 t m k ho =>
    cases hx : opnd G ch m with
    | none => simp [hx] at hs
    | some xv =>
      cases hk : opnd G ch k with
      | none => simp [hx, hk] at hs
      | some kv =>
        simp only [hx, hk, Option.bind_some] at hs
        split at hs
        · cases hs; exact fun hc => ent_op ho hx hk hc.1
        · cases hs
  case h_11 t m s x ho =>
    cases hm : opnd G ch m with
    | none => simp [hm] at hs
    | some mv =>
      cases hk : opnd G ch s with
      | none => simp [hm, hk] at hs
      | some sv =>
        cases hx : opnd G ch x with
        | none => simp [hm, hk, hx] at hs
        | some xv =>
          simp only [hm, hk, hx, Option.bind_some] at hs
          split at hs
          · split at hs
            · rename_i hb
              cases hs; exact fun hc => sto_op ho hm hk hx hb.1 hc.1
            · cases hs
          · cases hs
  case h_12 t m s x ho =>
    cases hm : opnd G ch m with
    | none => simp [hm] at hs
    | some mv =>
      cases hk : opnd G ch s with
      | none => simp [hm, hk] at hs
      | some sv =>
        cases hx : opnd G ch x with
        | none => simp [hm, hk, hx] at hs
        | some xv =>
          simp only [hm, hk, hx, Option.bind_some] at hs
          split at hs
          · split at hs
            · rename_i hb
              cases hs; exact fun hc => upd_op ho hm hk hx hb.1 hc.1
            · cases hs
          · cases hs
  case h_13 =>
    cases he : aval P G ch L o with
    | none => simp [he] at hs
    | some p => simp [he] at hs; subst hs; exact fun hc => aval_op he hc
end Go.TA
