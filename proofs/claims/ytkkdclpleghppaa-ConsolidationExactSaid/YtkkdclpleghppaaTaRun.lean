/- A part of the proof: laws over any program of the abstract machine. No condition. -/
import Derived.Test.YtkkdclpleghppaaTaMap
namespace Go.TA
open Go

/-! ## calls -/
/-- **What a call does**, in every state that is so. -/
def CallOk (P : Program) (f : FuncId) (args : List AV) (L : List Ob) (v : AV) (L' : List Ob) : Prop :=
  ∀ (X : Nat → Prop) (ms : Blocks) (w : World) (us : List Value), Rel X ms L w → AV.IsVs (cxOf X ms L w) args us →
    Calls P f us.toArray w fun e w' => ∃ u ms', e = .returned u ∧ Rel X ms' L' w' ∧ Ext ms w ms' w' ∧ (cxOf X ms L w).le (cxOf X ms' L' w') ∧ AV.IsV (cxOf X ms' L' w') v u

def callable (P : Program) (f : FuncId) : Bool := match P.funcs[f]? with
  | some fn => !(fn.name == "runtime.NumGoroutine") && fn.body.isSome
  | none => false

theorem AV.IsVs.append {c : Cx} : ∀ {as : List AV} {us : List Value} {bs : List AV} {vs : List Value}, AV.IsVs c as us → AV.IsVs c bs vs → AV.IsVs c (as ++ bs) (us ++ vs)
  | _, _, _, _, .nil, h => h
  | _, _, _, _, .cons _ _ _ _ h ht, h' => .cons _ _ _ _ h (AV.IsVs.append ht h')

theorem call_op {P : Program} {L L' : List Ob} {G : GFr} {ch : Chain} {o : Oper} {fo : Operand} {args : Array Operand} {ts : Array TypeId} {f : FuncId} {caps as : List AV} {v : AV}
    (ho : o.op = .call ⟨.value fo, args, ts⟩) (hf0 : opnd G ch fo = some (.fn f caps)) (ha : opnds G ch args.toList = some as) (hcall : callable P f = true)
    (h : CallOk P f (as ++ caps) L v L') : OpOk P G ch L o v L' := by
  intro X ms w a K Q hr hf hh hK
  have hfv := IsV.is1 rfl (by simp) (by simp) (opnd_is hf0 hf hh)
  have hav := opnds_is hf hh ha
  generalize hfo : a.eval fo = u at hfv
  cases hfv with
  | fn _ _ vs hvs =>
  unfold callable at hcall
  split at hcall
  · rename_i fn hfn
    simp only [Bool.and_eq_true, Bool.not_eq_true', beq_eq_false_iff_ne, ne_eq] at hcall
    have hexec : (execOp a.eval o).run P w = .ok (.enter f (args.toList.map a.eval ++ vs).toArray) w := by
      obtain ⟨dst, op, ty, pos, after, guard⟩ := o
      subst ho
      have hb : fn.body.isNone = false := by
        cases hbd : fn.body with
        | none => simp [hbd] at hcall
        | some _ => rfl
      simp only [execOp, resolve, hfo, Deferred.ofValue, Sem.run_bind, Sem.run_pure, Result.andThen_ok, invoke, callFunc, run_program, hfn, hb, Bool.false_eq_true, if_false]
      rw [if_neg (by simpa using hcall.1)]
      simp
    unfold Oper.wp
    rw [hexec]
    refine (h X ms w _ hr (hav.append hvs)).mono fun e w' ⟨u, ms', he, h1, h2, h3, h4⟩ => ?_
    subst he
    exact hK u ms' w' h1 h2 h3 h4
  · cases hcall

/-! ## what is known may be said less of -/
def LeV (v v' : AV) : Prop := ∀ c u, AV.IsV c v u → AV.IsV c v' u
theorem LeV.refl (v : AV) : LeV v v := fun _ _ h => h

/-- The same object, said otherwise. -/
structure OLe (x y : Ob) : Prop where
  kind : x.kind = y.kind
  stamp : x.stamp = y.stamp
  is : ∀ c w o, ObIs c w o x → ObIs c w o y

theorem OLe.refl (x : Ob) : OLe x x := ⟨rfl, rfl, fun _ _ _ h => h⟩

theorem Rel.recast {X : Nat → Prop} {ms : Blocks} {L : List Ob} {w : World} (h : Rel X ms L w) {o : Nat} {x y : Ob} (hL : L[o]? = some x) (hxy : OLe x y) :
    Rel X ms (L.set o y) w ∧ (cxOf X ms L w).le (cxOf X ms (L.set o y) w) := by
  have hlt : o < L.length := by
    rcases Nat.lt_or_ge o L.length with h' | h'
    · exact h'
    · rw [List.getElem?_eq_none h'] at hL; cases hL
  have hr := h.step (ms' := ms) (L' := L.set o y) (w' := w) (Ext.refl _ _) (by simp [h.len]) h.lt h.inj (by simp) (fun i x' hi hl hs => by
    by_cases hio : o = i
    · subst hio
      rw [List.getElem?_set_self hlt] at hl
      cases hl
      exact ⟨x, hL, hxy.kind, fun s hs => ⟨s, by rw [← hxy.stamp]; exact hs, Nat.le_refl _⟩, fun _ => rfl⟩
    · rw [List.getElem?_set_ne hio] at hl
      exact ⟨x', hl, rfl, fun s hs => ⟨s, hs, Nat.le_refl _⟩, fun _ => rfl⟩) (fun i x' hl => by
    by_cases hio : o = i
    · subst hio
      rw [List.getElem?_set_self hlt] at hl
      cases hl
      exact .inr fun hc => hxy.is _ _ _ ((h.obs o x hL).mono hc rfl (fun _ _ _ => rfl))
    · rw [List.getElem?_set_ne hio] at hl
      exact .inl ⟨hl, rfl, fun _ _ _ => rfl⟩)
  exact hr

/-! ## one operation -/
inductive Hint where
  | none
  | imm
  | obj
  | call (v : AV) (L' : List Ob)
  | callq (v : AV)
  | callr (v : AV)
  | born (k : Nat) (full : Bool)
  | callw (v : AV) (ups : List (Nat × Ob)) (new : List Ob)

def applyUps (L : List Ob) (ups : List (Nat × Ob)) : List Ob := ups.foldl (fun L u => L.set u.1 u.2) L

inductive Res where
  | val (v : AV) (C : List Prop)
  | eff (v : AV) (L' : List Ob) (C : List Prop)

def astep (P : Program) (G : GFr) (ch : Chain) (L : List Ob) (o : Oper) (h : Hint) : Option Res :=
  match o.op with
  | .alloc t => match h with
    | .born k full => (eBorn P L t k full).map fun p => .eff p.1 p.2 []
    | .obj => (eAlloc P L t true).map fun p => .eff p.1 p.2 []
    | _ => (eAlloc P L t false).map fun p => .eff p.1 p.2 []
  | .box _ x => (opnd G ch x).bind fun v => (eBox L v).map fun p => .eff p.1 p.2 []
  | .store t p x => (opnd G ch p).bind fun pv => (opnd G ch x).bind fun xv => (eStore P L t pv xv).map fun q => .eff q.1 q.2.1 q.2.2
  | .buildSlice t len ps => (partsO G ch ps.toList).bind fun pv => match h with
    | .obj => (eBsObj P L t len pv).map fun p => .eff p.1 p.2 []
    | _ => if len < 2 ^ 63 then (eBsImm P t len pv).map fun v => .val v [] else none
  | .makeSlice t l c => (opnd G ch l).bind fun lv => (opnd G ch c).bind fun cv => (eMake P L t lv cv).map fun q => .eff q.1 q.2.1 q.2.2
  | .call ⟨.value fo, args, _⟩ => match opnd G ch fo, opnds G ch args.toList with
    | some (.fn f caps), some as => if callable P f then match h with
        | .call v L' => some (.eff v L' [CallOk P f (as ++ caps) L v L'])
        | .callw v ups new => some (.eff v (applyUps L ups ++ new) [CallOk P f (as ++ caps) L v (applyUps L ups ++ new)])
        | .callq v => some (.val v [∀ L, CallOk P f (as ++ caps) L v L])
        | .callr v => some (.val v [CallOk P f (as ++ caps) L v L])
        | _ => none
      else none
    | _, _ => none
  | .call ⟨.builtin .append, args, ts⟩ => match args.toList, ts.toList with
    | [s, x], [t, t'] => if t = t' then (opnd G ch x).bind fun xv => match opnd G ch s, h with
        | some (.full 0 _), .obj => (eAppNew P L t xv).map fun q => .eff q.1 q.2.1 q.2.2
        | some (.full n f), _ => (eAppImm P L t n f xv).map fun q => .val q.1 q.2
        | some (.ref r st 0 n), _ => (eAppRef P L t r st n xv).map fun q => .eff q.1 q.2.1 q.2.2
        | _, _ => none
      else none
    | _, _ => none
  | .makeMap _ none => some (.eff (.map L.length) (L ++ [.map []]) [])
  | .lookup t x k ok => (opnd G ch x).bind fun xv => (opnd G ch k).bind fun kv => match h with
    | .callr v => some (.val v [LookOk P L t xv kv ok v])
    | _ => none
  | .mapEntry t m k => (opnd G ch m).bind fun mv => (opnd G ch k).bind fun kv => match h with
    | .call v L' => some (.eff v L' [EntOk P L t mv kv v L'])
    | _ => none
  | .entryStore t m s x => (opnd G ch m).bind fun mv => (opnd G ch s).bind fun sv => (opnd G ch x).bind fun xv => match h with
    | .call v L' => if v.isBot ∧ xv.solid then some (.eff v L' [StoOk P L t mv sv xv L']) else none
    | _ => none
  | .mapUpdate t m k x => (opnd G ch m).bind fun mv => (opnd G ch k).bind fun kv => (opnd G ch x).bind fun xv => match h with
    | .call v L' => if v.isBot ∧ xv.solid then some (.eff v L' [UpdOk P L t mv kv xv L']) else none
    | _ => none
  | _ => (aval P G ch L o).map fun p => .val p.1 p.2

def Res.ok (P : Program) (G : GFr) (ch : Chain) (L : List Ob) (o : Oper) : Res → Prop
  | .val v C => AllP C → OpOk P G ch L o v L
  | .eff v L' C => AllP C → OpOk P G ch L o v L'

theorem astep_ok {P : Program} {G : GFr} {ch : Chain} {L : List Ob} {o : Oper} {h : Hint} {r : Res} (hs : astep P G ch L o h = some r) : r.ok P G ch L o := by
  unfold astep at hs
  split at hs
  case h_1 t ho =>
    split at hs
    · rename_i k full
      cases he : eBorn P L t k full with
      | none => simp [he] at hs
      | some p => simp [he] at hs; subst hs; exact fun _ => born_op ho he
    · cases he : eAlloc P L t true with
      | none => simp [he] at hs
      | some p => simp [he] at hs; subst hs; exact fun _ => alloc_op ho he
    · cases he : eAlloc P L t false with
      | none => simp [he] at hs
      | some p => simp [he] at hs; subst hs; exact fun _ => alloc_op ho he
  case h_2 t x ho =>
    cases hx : opnd G ch x with
    | none => simp [hx] at hs
    | some v =>
      cases he : eBox L v with
      | none => simp [hx, he] at hs
      | some p => simp [hx, he] at hs; subst hs; exact fun _ => box_op ho hx he
  case h_3 t p x ho =>
    cases hp : opnd G ch p with
    | none => simp [hp] at hs
    | some pv =>
      cases hx : opnd G ch x with
      | none => simp [hp, hx] at hs
      | some xv =>
        cases he : eStore P L t pv xv with
        | none => simp [hp, hx, he] at hs
        | some q => simp [hp, hx, he] at hs; subst hs; exact fun hc => store_op ho hp hx he hc
  case h_4 t len ps ho =>
    cases hp : partsO G ch ps.toList with
    | none => simp [hp] at hs
    | some pv =>
      simp only [hp, Option.bind_some] at hs
      split at hs
      · cases he : eBsObj P L t len pv with
        | none => simp [he] at hs
        | some p => simp [he] at hs; subst hs; exact fun _ => bsObj_op ho hp he
      · split at hs
        · rename_i hlt
          cases he : eBsImm P t len pv with
          | none => simp [he] at hs
          | some p => simp [he] at hs; subst hs; exact fun _ => bsImm_op ho hp he hlt
        · cases hs
  case h_5 t l c ho =>
    cases hl : opnd G ch l with
    | none => simp [hl] at hs
    | some lv =>
      cases hc : opnd G ch c with
      | none => simp [hl, hc] at hs
      | some cv =>
        cases he : eMake P L t lv cv with
        | none => simp [hl, hc, he] at hs
        | some q => simp [hl, hc, he] at hs; subst hs; exact fun hc' => make_op ho hl hc he hc'
  case h_6 fo args ts ho =>
    split at hs
    · rename_i f caps as hfo has
      split at hs
      · rename_i hcl
        split at hs
        · cases hs
          exact fun hc => call_op ho hfo has hcl hc.1
        · cases hs
          exact fun hc => call_op ho hfo has hcl hc.1
        · cases hs
          exact fun hc => call_op ho hfo has hcl (hc.1 L)
        · cases hs
          exact fun hc => call_op ho hfo has hcl hc.1
        · cases hs
      · cases hs
    · cases hs
  case h_7 args ts ho =>
    split at hs
    · rename_i s x t t' hargs hts
      split at hs
      · rename_i ht
        subst ht
        have e1 : args = #[s, x] := by rw [← Array.toList_inj]; simpa using hargs
        have e2 : ts = #[t, t] := by rw [← Array.toList_inj]; simpa using hts
        subst e1; subst e2
        cases hx : opnd G ch x with
        | none => simp [hx] at hs
        | some xv =>
          simp only [hx, Option.bind_some] at hs
          split at hs
          · rename_i hso
            cases he : eAppNew P L t xv with
            | none => simp [he] at hs
            | some q => simp [he] at hs; subst hs; exact fun hc => appNew_op ho hso hx he hc
          · rename_i n' f' hso _
            cases he : eAppImm P L t n' f' xv with
            | none => simp [he] at hs
            | some q => simp [he] at hs; subst hs; exact fun hc => appImm_op ho hso hx he hc
          · rename_i r' st' n' hso
            cases he : eAppRef P L t r' st' n' xv with
            | none => simp [he] at hs
            | some q => simp [he] at hs; subst hs; exact fun hc => appRef_op ho hso hx he hc
          · cases hs
      · cases hs
    · cases hs
  case h_8 t ho =>
    cases hs
    exact fun _ => makeMap_op ho
  case h_9 t x k ok ho =>
    cases hx : opnd G ch x with
    | none => simp [hx] at hs
    | some xv =>
      cases hk : opnd G ch k with
      | none => simp [hx, hk] at hs
      | some kv =>
        simp only [hx, hk, Option.bind_some] at hs
        split at hs
        · cases hs; exact fun hc => look_op ho hx hk hc.1
        · cases hs
  case h_10 t m k ho =>
    cases hx : opnd G ch m with
    | none => simp [hx] at hs
    | some xv =>
      cases hk : opnd G ch k with
      | none => simp [hx, hk] at hs
      | some kv =>
        simp only [hx, hk, Option.bind_some] at hs
        split at hs
        · cases hs; exact fun hc => ent_op ho hx hk hc.1
        · cases hs
  case h_11 t m s x ho =>
    cases hm : opnd G ch m with
    | none => simp [hm] at hs
    | some mv =>
      cases hk : opnd G ch s with
      | none => simp [hm, hk] at hs
      | some sv =>
        cases hx : opnd G ch x with
        | none => simp [hm, hk, hx] at hs
        | some xv =>
          simp only [hm, hk, hx, Option.bind_some] at hs
          split at hs
          · split at hs
            · rename_i hb
              cases hs; exact fun hc => sto_op ho hm hk hx hb.1 hc.1
            · cases hs
          · cases hs
  case h_12 t m s x ho =>
    cases hm : opnd G ch m with
    | none => simp [hm] at hs
    | some mv =>
      cases hk : opnd G ch s with
      | none => simp [hm, hk] at hs
      | some sv =>
        cases hx : opnd G ch x with
        | none => simp [hm, hk, hx] at hs
        | some xv =>
          simp only [hm, hk, hx, Option.bind_some] at hs
          split at hs
          · split at hs
            · rename_i hb
              cases hs; exact fun hc => upd_op ho hm hk hx hb.1 hc.1
            · cases hs
          · cases hs
  case h_13 =>
    cases he : aval P G ch L o with
    | none => simp [he] at hs
    | some p => simp [he] at hs; subst hs; exact fun hc => aval_op he hc
end Go.TA

namespace Go.TA
open Go

structure HE where
  h : Hint := .none
  cast : Option AV := none
  obs : List (Nat × Ob) := []

def hintOf : List (Nat × HE) → Nat → HE
  | [], _ => {}
  | (j, h) :: r, i => if j == i then h else hintOf r i

/-- Under which guards an operation runs. -/
def guardCh (ops : Array Oper) (G : GFr) (o : Oper) : Option Chain :=
  match o.guard with
  | none => some []
  | some (j, want) => match (ops[j]?).bind (·.dst) with
    | some t => match G.get t with
      | some (ch, .d (.b _)) => some ((t, want) :: ch)
      | _ => none
    | none => none

def gP (G : GFr) : Chain → List Prop
  | [] => []
  | (s, want) :: r => (match G.get s with
    | some (_, .d (.b p)) => [p = want]
    | _ => []) ++ gP G r

/-- The guards of a chain are told. -/
def chainOk (G : GFr) : Chain → Bool
  | [] => true
  | (s, _) :: r => (match G.get s with
    | some (ch, .d (.b _)) => ch.all fun y => r.contains y
    | _ => false) && chainOk G r

def underG (G : GFr) (ch : Chain) (C : List Prop) : List Prop := match ch with
  | [] => C
  | _ => C.map fun c => AllP (gP G ch) → c

def castV (v : AV) : Option AV → AV × List Prop
  | none => (v, [])
  | some v' => (v', [LeV v v'])

def castObs : List (Nat × Ob) → List Ob → Option (List Ob × List Prop)
  | [], L => some (L, [])
  | (o, y) :: r, L => match L[o]? with
    | some x => match castObs r (L.set o y) with
      | some (L', C) => some (L', OLe x y :: C)
      | none => none
    | none => none

def putG (G : GFr) (N : Nat) (dst : Option Tmp) (ch : Chain) (v : AV) : Option GFr :=
  match dst with
  | none => some G
  | some t => if t < N ∧ ch.all (fun y => y.1 != t) = true then some (G.put t ch v) else none

def runOps (P : Program) (ops : Array Oper) (N : Nat) (hs : List (Nat × HE)) : List Nat → GFr → List Ob → Option (GFr × List Ob × List Prop)
  | [], G, L => some (G, L, [])
  | i :: r, G, L => match ops[i]? with
    | none => none
    | some o => match guardCh ops G o with
      | none => none
      | some ch => let e := hintOf hs i
        match astep P G ch L o e.h with
        | none => none
        | some (.val v C) =>
          let p := castV v e.cast
          match putG G N o.dst ch p.1 with
          | none => none
          | some G1 => match runOps P ops N hs r G1 L with
            | none => none
            | some (G', L', C') => some (G', L', underG G ch (C ++ p.2) ++ C')
        | some (.eff v L1 C) => match ch with
          | y :: ys =>
            let p := castV v e.cast
            if chainOk G (y :: ys) = true ∧ e.obs.length = 0 then match putG G N o.dst (y :: ys) p.1 with
              | none => none
              | some G1 => match runOps P ops N hs r G1 L1 with
                | none => none
                | some (G', L', C') => some (G', L', underG G (y :: ys) (C ++ p.2) ++ ((¬ AllP (gP G (y :: ys)) → L = L1) :: C'))
            else none
          | [] =>
            let p := castV v e.cast
            match castObs e.obs L1 with
            | none => none
            | some (L2, C2) => match putG G N o.dst [] p.1 with
              | none => none
              | some G1 => match runOps P ops N hs r G1 L2 with
                | none => none
                | some (G', L', C') => some (G', L', C ++ (p.2 ++ (C2 ++ C')))

theorem gP_holds {c : Cx} {G : GFr} {tmps : Array Value} (hf : FrIs c G tmps) : ∀ {ch : Chain}, holds ch tmps → AllP (gP G ch)
  | [], _ => trivial
  | (s, want) :: r, h => by
    simp only [gP]
    rw [AllP_append]
    refine ⟨?_, gP_holds hf (fun y hy => h y (List.mem_cons_of_mem _ hy))⟩
    have h0 := h (s, want) List.mem_cons_self
    split
    · rename_i ch' p hg
      have hs := hf _ (GFr.get_mem hg)
      by_cases hh : holds ch' tmps
      · have e := IsV.b (hs.2.1 hh)
        have : Value.bool p = Value.bool want := e.symm.trans h0
        cases this
        exact ⟨rfl, trivial⟩
      · have e := hs.2.2 hh
        have : undef = Value.bool want := e.symm.trans h0
        cases this
    · trivial

theorem gP_conv {c : Cx} {G : GFr} {tmps : Array Value} (hf : FrIs c G tmps) : ∀ {ch : Chain}, chainOk G ch = true → AllP (gP G ch) → holds ch tmps
  | [], _, _ => fun y hy => by cases hy
  | (s, want) :: r, hk, h => by
    simp only [chainOk, Bool.and_eq_true] at hk
    simp only [gP] at h
    rw [AllP_append] at h
    have ih := gP_conv hf hk.2 h.2
    intro y hy
    rcases List.mem_cons.1 hy with rfl | hy
    · have h1 := hk.1
      split at h1
      · rename_i ch0 p hg
        have hs := hf _ (GFr.get_mem hg)
        have e := IsV.b (hs.2.1 (holds_sub h1 ih))
        simp only [hg] at h
        have hp : p = want := h.1.1
        subst hp
        exact e
      · cases h1
    · exact ih y hy

theorem underG_all {c : Cx} {G : GFr} {tmps : Array Value} {ch : Chain} {C : List Prop} (hf : FrIs c G tmps) (hh : holds ch tmps) (h : AllP (underG G ch C)) : AllP C := by
  unfold underG at h
  split at h
  · exact h
  · have hg := gP_holds hf hh
    clear hh hf
    induction C with
    | nil => trivial
    | cons x r ih => exact ⟨h.1 hg, ih h.2⟩

theorem guard_wanted {c : Cx} {ops : Array Oper} {G : GFr} {o : Oper} {ch : Chain} {tmps : Array Value} (h : guardCh ops G o = some ch) (hf : FrIs c G tmps) :
    Region.wanted o (yielded ops tmps) = true ↔ holds ch tmps := by
  unfold guardCh at h
  split at h
  · rename_i hg
    cases h
    simp [Region.wanted, hg, holds]
  · rename_i j want hg
    split at h
    · rename_i t ht
      split at h
      · rename_i ch0 p hgt
        cases h
        obtain ⟨h1, h2, h3⟩ := hf _ (GFr.get_mem hgt)
        simp only at h1 h2 h3
        have hget : tmps[t]? = some (tmps.getD t undef) := by simp [Array.getD_eq_getD_getElem?, h1]
        simp only [Region.wanted, hg, yielded, ht, Option.bind_some, hget]
        by_cases hh : holds ch0 tmps
        · have e := IsV.b (h2 hh)
          rw [e]
          simp only [beq_iff_eq, Option.some.injEq]
          constructor
          · rintro rfl y hy
            rcases List.mem_cons.1 hy with rfl | hy
            · exact e
            · exact hh y hy
          · intro hh'
            have := hh' (t, want) List.mem_cons_self
            simp only [e] at this
            cases this; rfl
        · have e := h3 hh
          rw [e]
          simp only [undef]
          constructor
          · intro h; cases h
          · intro hh'
            exact absurd (fun y hy => hh' y (List.mem_cons_of_mem _ hy)) hh
      · cases h
    · cases h

theorem castV_is {v : AV} {k : Option AV} {c : Cx} {u : Value} (h : AllP (castV v k).2) (hv : AV.IsV c v u) : AV.IsV c (castV v k).1 u := by
  cases k with
  | none => exact hv
  | some v' => exact h.1 c u hv

theorem castObs_rel {X : Nat → Prop} {ms : Blocks} {w : World} : ∀ {l : List (Nat × Ob)} {L L' : List Ob} {C : List Prop}, castObs l L = some (L', C) → AllP C → Rel X ms L w →
    Rel X ms L' w ∧ (cxOf X ms L w).le (cxOf X ms L' w)
  | [], L, L', C, h, _, hr => by simp [castObs] at h; obtain ⟨rfl, rfl⟩ := h; exact ⟨hr, Cx.le.refl _⟩
  | (o, y) :: r, L, L', C, h, hc, hr => by
    simp only [castObs] at h
    split at h
    · rename_i x hx
      split at h
      · rename_i L1 C1 h1
        cases h
        obtain ⟨k1, k2⟩ := hr.recast hx hc.1
        obtain ⟨k3, k4⟩ := castObs_rel h1 hc.2 k1
        exact ⟨k3, k2.trans k4⟩
      · cases h
    · cases h

theorem putG_is {c : Cx} {G G1 : GFr} {N : Nat} {dst : Option Tmp} {ch : Chain} {v : AV} {a : Act} {u : Value} (h : putG G N dst ch v = some G1) (hN : a.tmps.size = N) (hf : FrIs c G a.tmps)
    (hv : holds ch a.tmps → AV.IsV c v u) (hu : ¬ holds ch a.tmps → u = undef) : FrIs c G1 (a.put dst u).tmps ∧ (a.put dst u).tmps.size = N ∧ (a.put dst u).defers = a.defers := by
  unfold putG at h
  cases dst with
  | none => cases h; exact ⟨hf, hN, rfl⟩
  | some t =>
    simp only at h
    split at h
    · rename_i ht
      cases h
      refine ⟨hf.put (by rw [hN]; exact ht.1) ht.2 hv hu, by simp [Act.put, hN], rfl⟩
    · cases h

/-- **A region in the order of its text.** -/
theorem runOps_ok {P : Program} {ops : Array Oper} {N : Nat} {hs : List (Nat × HE)} {Q : Exit → Act → World → Prop} {X : Nat → Prop} : ∀ (l : List Nat) (G : GFr) (L : List Ob) (G' : GFr) (L' : List Ob) (C : List Prop)
    (ms : Blocks) (w : World) (a : Act), runOps P ops N hs l G L = some (G', L', C) → AllP C → Rel X ms L w → FrIs (cxOf X ms L w) G a.tmps → a.tmps.size = N →
    (∀ a' ms' w', Rel X ms' L' w' → Ext ms w ms' w' → (cxOf X ms L w).le (cxOf X ms' L' w') → FrIs (cxOf X ms' L' w') G' a'.tmps → a'.tmps.size = N → a'.defers = a.defers → Q .normal a' w') →
    wpOps P ops Q l a w
  | [], G, L, G', L', C, ms, w, a, h, _, hr, hf, hN, hQ => by
    simp only [runOps, Option.some.injEq, Prod.mk.injEq] at h
    obtain ⟨rfl, rfl, rfl⟩ := h
    exact hQ a ms w hr (Ext.refl _ _) (Cx.le.refl _) hf hN rfl
  | i :: r, G, L, G', L', C, ms, w, a, h, hc, hr, hf, hN, hQ => by
    simp only [runOps] at h
    cases ho : ops[i]? with
    | none => simp [ho] at h
    | some o =>
      simp only [ho] at h
      cases hg : guardCh ops G o with
      | none => simp [hg] at h
      | some ch =>
        simp only [hg] at h
        have hw := guard_wanted hg hf
        simp only [wpOps, ho]
        cases hst : astep P G ch L o (hintOf hs i).h with
        | none => simp [hst] at h
        | some res =>
          have hok := astep_ok hst
          cases res with
          | val v C1 =>
            simp only [hst] at h
            cases hp : putG G N o.dst ch (castV v (hintOf hs i).cast).1 with
            | none => simp [hp] at h
            | some G1 =>
              simp only [hp] at h
              cases hrun : runOps P ops N hs r G1 L with
              | none => simp [hrun] at h
              | some q =>
                obtain ⟨G2, L2, C2⟩ := q
                simp only [hrun, Option.some.injEq, Prod.mk.injEq] at h
                obtain ⟨rfl, rfl, rfl⟩ := h
                obtain ⟨hc1, hc2⟩ := AllP_append.1 hc
                by_cases hh : holds ch a.tmps
                · rw [if_pos (hw.2 hh)]
                  left
                  obtain ⟨hc3, hc4⟩ := AllP_append.1 (underG_all hf hh hc1)
                  refine hok hc3 X ms w a _ Q hr hf hh fun u ms1 w1 k1 k2 k3 k4 => ?_
                  obtain ⟨p1, p2, p3⟩ := putG_is hp hN (hf.mono k3) (fun _ => castV_is hc4 k4) (fun h => absurd hh h)
                  exact runOps_ok r G1 L G2 L2 C2 ms1 w1 _ hrun hc2 k1 p1 p2 (fun a' ms' w' q1 q2 q3 q4 q5 q6 => hQ a' ms' w' q1 (k2.trans q2) (k3.trans q3) q4 q5 (q6.trans p3))
                · rw [if_neg (fun h => hh (hw.1 h))]
                  obtain ⟨p1, p2, p3⟩ := putG_is hp hN hf (u := undef) (fun h => absurd h hh) (fun _ => rfl)
                  exact runOps_ok r G1 L G2 L2 C2 ms w _ hrun hc2 hr p1 p2 (fun a' ms' w' q1 q2 q3 q4 q5 q6 => hQ a' ms' w' q1 q2 q3 q4 q5 (q6.trans p3))
          | eff v L1 C1 =>
            simp only [hst] at h
            cases ch with
            | cons y ys =>
              simp only at h
              split at h
              · rename_i hco
                cases hp : putG G N o.dst (y :: ys) (castV v (hintOf hs i).cast).1 with
                | none => simp [hp] at h
                | some G1 =>
                  simp only [hp] at h
                  cases hrun : runOps P ops N hs r G1 L1 with
                  | none => simp [hrun] at h
                  | some q =>
                    obtain ⟨G3, L3, C3⟩ := q
                    simp only [hrun, Option.some.injEq, Prod.mk.injEq] at h
                    obtain ⟨rfl, rfl, rfl⟩ := h
                    obtain ⟨hc1, hc2, hc3⟩ := AllP_append.1 hc
                    by_cases hh : holds (y :: ys) a.tmps
                    · rw [if_pos (hw.2 hh)]
                      left
                      obtain ⟨hc4, hc5⟩ := AllP_append.1 (underG_all hf hh hc1)
                      refine hok hc4 X ms w a _ Q hr hf hh fun u ms1 w1 k1 k2 k3 k4 => ?_
                      obtain ⟨p1, p2, p3⟩ := putG_is hp hN (hf.mono k3) (fun _ => castV_is hc5 k4) (fun h => absurd hh h)
                      exact runOps_ok r G1 L1 G3 L3 C3 ms1 w1 _ hrun hc3 k1 p1 p2 (fun a' ms' w' q1 q2 q3 q4 q5 q6 => hQ a' ms' w' q1 (k2.trans q2) (k3.trans q3) q4 q5 (q6.trans p3))
                    · rw [if_neg (fun h => hh (hw.1 h))]
                      have hLL := hc2 fun hg => hh (gP_conv hf hco.1 hg)
                      subst hLL
                      obtain ⟨p1, p2, p3⟩ := putG_is hp hN hf (u := undef) (fun h => absurd h hh) (fun _ => rfl)
                      exact runOps_ok r G1 L G3 L3 C3 ms w _ hrun hc3 hr p1 p2 (fun a' ms' w' q1 q2 q3 q4 q5 q6 => hQ a' ms' w' q1 q2 q3 q4 q5 (q6.trans p3))
              · cases h
            | nil =>
              simp only at h
              cases hco : castObs (hintOf hs i).obs L1 with
              | none => simp [hco] at h
              | some q0 =>
                obtain ⟨L2, C2⟩ := q0
                simp only [hco] at h
                cases hp : putG G N o.dst [] (castV v (hintOf hs i).cast).1 with
                | none => simp [hp] at h
                | some G1 =>
                  simp only [hp] at h
                  cases hrun : runOps P ops N hs r G1 L2 with
                  | none => simp [hrun] at h
                  | some q =>
                    obtain ⟨G3, L3, C3⟩ := q
                    simp only [hrun, Option.some.injEq, Prod.mk.injEq] at h
                    obtain ⟨rfl, rfl, rfl⟩ := h
                    obtain ⟨hc1, hc2⟩ := AllP_append.1 hc
                    obtain ⟨hc3, hc4⟩ := AllP_append.1 hc2
                    obtain ⟨hc5, hc6⟩ := AllP_append.1 hc4
                    have hh : holds [] a.tmps := fun y hy => by cases hy
                    rw [if_pos (hw.2 hh)]
                    left
                    refine hok hc1 X ms w a _ Q hr hf hh fun u ms1 w1 k1 k2 k3 k4 => ?_
                    obtain ⟨r1, r2⟩ := castObs_rel hco hc5 k1
                    obtain ⟨p1, p2, p3⟩ := putG_is hp hN ((hf.mono k3).mono r2) (fun _ => (castV_is hc3 k4).mono r2) (fun h => absurd hh h)
                    exact runOps_ok r G1 L2 G3 L3 C3 ms1 w1 _ hrun hc6 r1 p1 p2 (fun a' ms' w' q1 q2 q3 q4 q5 q6 => hQ a' ms' w' q1 (k2.trans q2) ((k3.trans r2).trans q3) q4 q5 (q6.trans p3))
end Go.TA
