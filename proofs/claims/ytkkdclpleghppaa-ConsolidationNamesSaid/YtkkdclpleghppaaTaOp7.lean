/- A part of the proof: laws over any program of the abstract machine. No condition. -/
import Derived.Test.YtkkdclpleghppaaTaOp6
namespace Go.TA
open Go

/-! ## equality of data -/
def fieldD (P : Program) (xs : List DV) (i : Nat) (f : Field) : Option DV :=
  if DV.wdL (xs.take i) = f.offset then match xs[i]? with
    | some x => if szOf P f.type = some x.wd ∧ aggTy P f.type = some (AV.d x).isAgg ∧ 0 < x.wd then some x else none
    | none => none
  else none

def eqFs (P : Program) (g : TypeId → DV → DV → Option Bool) (xs ys : List DV) : List Field → Nat → Option Bool
  | [], _ => some true
  | f :: r, i => if f.name = "_" then none else match fieldD P xs i f, fieldD P ys i f with
    | some x, some y => match g f.type x y with
      | some b => match eqFs P g xs ys r (i + 1) with
        | some c => some (b && c)
        | none => none
      | none => none
    | _, _ => none

def eqD (P : Program) : Nat → TypeId → DV → DV → Option Bool
  | 0, _, _, _ => none
  | n + 1, t, x, y => match P.underlying t with
    | some .bool => match x, y with
      | .b a, .b b => some (a == b)
      | _, _ => none
    | some (.int _) => match x, y with
      | .i k a, .i k' b => if k = k' then some (a == b) else none
      | _, _ => none
    | some .string => match x, y with
      | .str a, .str b => some (a == b)
      | _, _ => none
    | some (.struct fs) => match x, y with
      | .agg xs, .agg ys => if P.stoodInHeld t then none else eqFs P (eqD P n) xs ys fs.toList 0
      | _, _ => none
    | _ => none

theorem fieldD_part {P : Program} {w : World} {c : Cx} {xs : List DV} {i : Nat} {f : Field} {x : DV} {cs : List Value} (h : fieldD P xs i f = some x) (hx : AV.Is c (.d (.agg xs)) cs) :
    ∃ v, (part f.type cs.toArray f.offset).run P w = .ok v w ∧ AV.IsV c (.d x) v := by
  unfold fieldD at h
  split at h
  · rename_i ho
    split at h
    · rename_i y hy
      split at h
      · rename_i hty
        cases h
        obtain ⟨h1, h2, h3⟩ := hty
        obtain ⟨k, hk, hat⟩ := AV.into_is (s := .f i f.offset) (x := .d x) hx (by simp [AV.into, ho, hy]) trivial
        have hkl := hk.len
        obtain ⟨v, h5, h6⟩ := part_ok (P := P) (w := w) (cs := cs) (off := f.offset) h2 (by rw [h1, hkl]; rfl) hat (fun hg => nonAgg_one hk hg)
          (hat.le (by rw [hkl]; exact h3))
        exact ⟨v, h5, isV_of_load hk rfl h6⟩
      · cases h
    · cases h
  · cases h

theorem eqD_run {P : Program} {w : World} {c : Cx} : ∀ (n d : Nat) (t : TypeId) (x y : DV) (r : Bool) (u v : Value), eqD P n t x y = some r → n ≤ d → AV.IsV c (.d x) u → AV.IsV c (.d y) v →
    (Op.equalIn d t u v).run P w = .ok r w
  | 0, d, t, x, y, r, u, v, h, _, _, _ => by simp [eqD] at h
  | n + 1, 0, t, x, y, r, u, v, h, hd, _, _ => by omega
  | n + 1, d + 1, t, x, y, r, u, v, h, hd, hu, hv => by
    unfold eqD at h
    split at h
    · rename_i hty
      split at h
      · cases h
        rw [IsV.b hu, IsV.b hv]
        exact run_equalIn_bool w d t _ _ hty
      · cases h
    · rename_i hty
      split at h
      · split at h
        · rename_i hk
          cases h; cases hk
          rw [IsV.i hu, IsV.i hv]
          exact run_equalIn_int w d t _ _ _ _ hty
        · cases h
      · cases h
    · rename_i hty
      split at h
      · cases h
        rw [IsV.str hu, IsV.str hv]
        rw [run_equalIn_string w d t _ _ hty]
        simp
      · cases h
    · rename_i fs hty
      split at h
      · rename_i xs ys
        split at h
        · cases h
        · rename_i hst
          obtain ⟨cs, rfl, hcs⟩ := IsV.is rfl hu
          obtain ⟨ks, rfl, hks⟩ := IsV.is rfl hv
          have hf : P.fieldsOf t = fs := by simp [Program.fieldsOf, hty]
          rw [run_equalIn_struct w d t _ _ (by rw [hf]; exact hty) (by simpa using hst), hf]
          generalize fs.toList = l at h
          generalize 0 = i at h
          clear hty hf
          induction l generalizing i r with
          | nil => simp [eqFs] at h; subst h; rfl
          | cons f l ih =>
            simp only [eqFs] at h
            split at h
            · cases h
            · rename_i hname
              split at h
              · rename_i x y hx hy
                split at h
                · rename_i b hb
                  split at h
                  · rename_i c' hc'
                    cases h
                    obtain ⟨v1, p1, q1⟩ := fieldD_part (P := P) (w := w) hx hcs
                    obtain ⟨v2, p2, q2⟩ := fieldD_part (P := P) (w := w) hy hks
                    have e := eqD_run (w := w) n d f.type x y b v1 v2 hb (by omega) q1 q2
                    have ihh := ih _ _ hc'
                    simp only [Op.eqFields, ne_eq, hname, not_false_eq_true, if_true, Sem.run_bind, p1, p2, e, Result.andThen_ok, Sem.run_ite]
                    cases b with
                    | true => simpa using ihh
                    | false => simp
                  · cases h
                · cases h
              · cases h
      · cases h
    · cases h

/-! ## binary operations -/
def vBin (P : Program) (op : BinOp) (t : TypeId) (x y : AV) : Option (AV × List Prop) :=
  match x, y with
  | .d (.i k a), .d (.i k' b) => (binI op k k' a b).map fun p => (.d p.1, p.2)
  | .d (.str a), .d (.str b) => (binS op a b).map fun p => (.d p.1, p.2)
  | .d (.b a), .d (.b b) => match P.underlying t, op with
    | some .bool, .eql => some (.d (.b (a == b)), [])
    | some .bool, .neq => some (.d (.b (!(a == b))), [])
    | _, _ => none
  | .d (.agg xs), .d (.agg ys) => if P.eqGuardType P.depth t then none else match eqD P 8 t (.agg xs) (.agg ys), op with
    | some r, .eql => some (.d (.b r), [])
    | some r, .neq => some (.d (.b (!r)), [])
    | _, _ => none
  | .ptr _ _ _, .d (.lit (.pointer none)) => match P.underlying t, op with
    | some (.pointer _), .eql => some (.d (.b false), [])
    | some (.pointer _), .neq => some (.d (.b true), [])
    | _, _ => none
  | .d (.lit (.pointer none)), .d (.lit (.pointer none)) => match P.underlying t, op with
    | some (.pointer _), .eql => some (.d (.b true), [])
    | some (.pointer _), .neq => some (.d (.b false), [])
    | _, _ => none
  | _, _ => none

theorem run_eqGuard_int {P : Program} {w : World} {op : BinOp} {t : TypeId} {x y : Operand} {k : IntKind} {n : Int} {b : Value} :
    (eqGuard op t x y (.int k n) b).run P w = .ok () w := eqGuard_plain (by simp) (by simp)

theorem vBin_ok {P : Program} {c : Cx} {w : World} {op : BinOp} {t : TypeId} {ox oy : Operand} {x y av : AV} {C : List Prop} {u v : Value}
    (h : vBin P op t x y = some (av, C)) (hc : AllP C) (hu : AV.IsV c x u) (hv : AV.IsV c y v) :
    ∃ r, (do eqGuard op t ox oy u v; binOp op t u v : Sem Value).run P w = .ok r w ∧ AV.IsV c av r := by
  unfold vBin at h
  split at h
  · rename_i k a k' b
    cases hb : binI op k k' a b with
    | none => simp [hb] at h
    | some p =>
      obtain ⟨d, D⟩ := p
      simp [hb] at h
      obtain ⟨rfl, rfl⟩ := h
      rw [IsV.i hu, IsV.i hv]
      obtain ⟨r, h1, h2⟩ := binI_run (P := P) (w := w) (t := t) hb hc
      refine ⟨r, ?_, .one _ _ (h2 c.M).2 (.d _ _ (h2 c.M).1)⟩
      rw [Sem.run_bind, eqGuard_plain (by simp) (by simp), Result.andThen_ok, h1]
  · rename_i a b
    cases hb : binS op a b with
    | none => simp [hb] at h
    | some p =>
      obtain ⟨d, D⟩ := p
      simp [hb] at h
      obtain ⟨rfl, rfl⟩ := h
      rw [IsV.str hu, IsV.str hv]
      obtain ⟨r, h1, h2⟩ := binS_run (P := P) (w := w) (t := t) hb hc
      refine ⟨r, ?_, .one _ _ (h2 c.M).2 (.d _ _ (h2 c.M).1)⟩
      rw [Sem.run_bind, eqGuard_plain (by simp) (by simp), Result.andThen_ok, h1]
  · rename_i a b
    rw [IsV.b hu, IsV.b hv]
    split at h
    · rename_i ht
      cases h
      exact ⟨_, by rw [Sem.run_bind, eqGuard_plain (by simp) (by simp), Result.andThen_ok, run_eql_bool w t a b ht], mk_b _⟩
    · rename_i ht
      cases h
      exact ⟨_, by rw [Sem.run_bind, eqGuard_plain (by simp) (by simp), Result.andThen_ok, run_neq_bool w t a b ht], mk_b _⟩
    · cases h
  · rename_i xs ys
    split at h
    · cases h
    · rename_i hg
      obtain ⟨cs, rfl, hcs⟩ := IsV.is rfl hu
      obtain ⟨ks, rfl, hks⟩ := IsV.is rfl hv
      split at h
      · rename_i r he
        cases h
        have := eqD_run (P := P) (w := w) (c := c) 8 10000 t _ _ r _ _ he (by omega) hu hv
        refine ⟨.bool r, ?_, mk_b _⟩
        rw [Sem.run_bind, run_eqGuard_agg w _ t _ _ _ _ (by simpa using hg), Result.andThen_ok, run_eql_struct, this]
        rfl
      · rename_i r he
        cases h
        have := eqD_run (P := P) (w := w) (c := c) 8 10000 t _ _ r _ _ he (by omega) hu hv
        refine ⟨.bool (!r), ?_, mk_b _⟩
        rw [Sem.run_bind, run_eqGuard_agg w _ t _ _ _ _ (by simpa using hg), Result.andThen_ok, run_neq_struct, this]
        rfl
      · cases h
  · rename_i o st p
    have hu' := IsV.is1 rfl (by simp) (by simp) hu
    have hv' := IsV.is1 rfl (by simp) (by simp) hv
    cases hu' with
    | ptr _ _ _ _ hp =>
    obtain ⟨_, ⟨a, rfl⟩, _⟩ := hp
    cases hv' with
    | d _ _ hv' =>
    cases hv'
    split at h
    · rename_i e ht
      cases h
      refine ⟨.bool false, ?_, mk_b _⟩
      rw [Sem.run_bind, eqGuard_plain (by simp) (by simp), Result.andThen_ok, run_eql_pointer_nil w t _ (by simp [Program.pointee, ht])]
      rfl
    · rename_i e ht
      cases h
      refine ⟨.bool true, ?_, mk_b _⟩
      rw [Sem.run_bind, eqGuard_plain (by simp) (by simp), Result.andThen_ok, run_neq_pointer_nil w t _ (by simp [Program.pointee, ht])]
      rfl
    · cases h
  · have hu' := IsV.is1 rfl (by simp) (by simp) hu
    have hv' := IsV.is1 rfl (by simp) (by simp) hv
    cases hu' with
    | d _ _ hu' =>
    cases hu'
    cases hv' with
    | d _ _ hv' =>
    cases hv'
    split at h
    · rename_i e ht
      cases h
      refine ⟨.bool true, ?_, mk_b _⟩
      rw [Sem.run_bind, eqGuard_plain (by simp) (by simp), Result.andThen_ok, run_eql_pointer_nil w t _ (by simp [Program.pointee, ht])]
      rfl
    · rename_i e ht
      cases h
      refine ⟨.bool false, ?_, mk_b _⟩
      rw [Sem.run_bind, eqGuard_plain (by simp) (by simp), Result.andThen_ok, run_neq_pointer_nil w t _ (by simp [Program.pointee, ht])]
      rfl
    · cases h
  · cases h

/-! ## the small ones -/
def vUn (op : UnOp) (x : AV) : Option (AV × List Prop) :=
  match op, x with
  | .not, .d (.b a) => some (.d (.b (!a)), [])
  | .neg, .d (.i k n) => some (.d (.i k (k.wrap (0 - n))), [])
  | _, _ => none

theorem vUn_ok {P : Program} {c : Cx} {w : World} {op : UnOp} {x av : AV} {C : List Prop} {u : Value} (h : vUn op x = some (av, C)) (hu : AV.IsV c x u) :
    ∃ r, (Op.unary op u).run P w = .ok r w ∧ AV.IsV c av r := by
  unfold vUn at h
  split at h
  · cases h
    rw [IsV.b hu]
    exact ⟨_, rfl, mk_b _⟩
  · cases h
    rw [IsV.i hu]
    exact ⟨_, rfl, mk_i _ _⟩
  · cases h

def vConv (P : Program) (src dst : TypeId) (x : AV) : Option (AV × List Prop) :=
  match P.underlying src, P.underlying dst, x with
  | some _, some (.int k), .d (.i _ n) => some (.d (.i k (k.wrap n)), [])
  | some .string, some .string, .d (.str l) => some (.d (.str l), [])
  | _, _, _ => none

theorem vConv_ok {P : Program} {c : Cx} {w : World} {s d : TypeId} {x av : AV} {C : List Prop} {u : Value} (h : vConv P s d x = some (av, C)) (hu : AV.IsV c x u) :
    ∃ r, (convert s d u).run P w = .ok r w ∧ AV.IsV c av r := by
  unfold vConv at h
  split at h
  · rename_i ds k k' n h1 h2
    cases h
    rw [IsV.i hu]
    refine ⟨.int k (k.wrap n), ?_, mk_i _ _⟩
    simp [convert, run_und h1 w, run_und h2 w, Conv.intToInt]
  · rename_i l h1 h2
    cases h
    rw [IsV.str hu]
    refine ⟨.string ⟨l.toArray⟩, ?_, mk_str _⟩
    simp [convert, run_und h1 w, run_und h2 w]
  · cases h

theorem AV.IsVs.get {c : Cx} : ∀ {vs : List AV} {us : List Value}, AV.IsVs c vs us → ∀ (i : Nat) (x : AV), vs[i]? = some x → ∃ u, us[i]? = some u ∧ AV.IsV c x u
  | _, _, .nil, i, x, h => by simp at h
  | _, _, .cons y ys v vs h0 ht, 0, x, h => by simp at h; subst h; exact ⟨v, rfl, h0⟩
  | _, _, .cons y ys v vs h0 ht, i + 1, x, h => by simp at h; simpa using AV.IsVs.get ht i x h

def vExtract (x : AV) (i : Nat) : Option (AV × List Prop) :=
  match x with
  | .tup vs => (vs[i]?).map fun v => (v, [])
  | _ => none

theorem vExtract_ok {P : Program} {c : Cx} {w : World} {x av : AV} {i : Nat} {C : List Prop} {u : Value} (h : vExtract x i = some (av, C)) (hu : AV.IsV c x u) :
    ∃ r, (Instr.extract u i).run P w = .ok r w ∧ AV.IsV c av r := by
  unfold vExtract at h
  split at h
  · rename_i vs
    cases hv : vs[i]? with
    | none => simp [hv] at h
    | some y =>
      simp [hv] at h
      obtain ⟨rfl, rfl⟩ := h
      cases hu with
      | agg _ _ ha => cases ha
      | one _ _ _ h => cases h
      | tup _ us hs =>
      obtain ⟨r, h1, h2⟩ := hs.get i y hv
      exact ⟨r, by simp [Instr.extract, h1], h2⟩
  · cases h

def vNil (x : AV) : Option (AV × List Prop) :=
  match x with
  | .ptr o st p => some (.ptr o st p, [])
  | .imm y => some (.imm y, [])
  | .fn f cs => some (.fn f cs, [])
  | _ => none

def avMinMax (mx : Bool) : AV → List AV → Option AV
  | .d (.i k x), .d (.i _ y) :: r => avMinMax mx (.d (.i k (if mx then (if y > x then y else x) else (if y < x then y else x)))) r
  | x, [] => match x with
    | .d (.i k n) => some (.d (.i k n))
    | _ => none
  | _, _ => none

theorem avMin_ok {P : Program} {c : Cx} {w : World} : ∀ (r : List AV) (x av : AV) (u : Value) (us : List Value), avMinMax false x r = some av → AV.IsV c x u → AV.IsVs c r us →
    ∃ v, (us.foldlM Builtin.min2 u).run P w = .ok v w ∧ AV.IsV c av v
  | [], x, av, u, us, h, hu, hs => by
    cases hs
    cases x with
    | d y =>
      cases y with
      | i k n => simp [avMinMax] at h; subst h; exact ⟨u, rfl, hu⟩
      | _ => simp [avMinMax] at h
    | _ => simp [avMinMax] at h
  | y :: r, x, av, u, us, h, hu, hs => by
    cases hs with
    | cons _ _ v vs hv ht =>
    unfold avMinMax at h
    split at h
    · rename_i k a k' b r' he
      cases he
      rw [IsV.i hu, IsV.i hv]
      obtain ⟨z, h1, h2⟩ := avMin_ok r _ av (.int k (if b < a then b else a)) vs h (mk_i _ _) ht
      exact ⟨z, by simpa [List.foldlM_cons, Builtin.min2] using h1, h2⟩
    · rename_i he; cases he
    · cases h

theorem avMax_ok {P : Program} {c : Cx} {w : World} : ∀ (r : List AV) (x av : AV) (u : Value) (us : List Value), avMinMax true x r = some av → AV.IsV c x u → AV.IsVs c r us →
    ∃ v, (us.foldlM Builtin.max2 u).run P w = .ok v w ∧ AV.IsV c av v
  | [], x, av, u, us, h, hu, hs => by
    cases hs
    cases x with
    | d y =>
      cases y with
      | i k n => simp [avMinMax] at h; subst h; exact ⟨u, rfl, hu⟩
      | _ => simp [avMinMax] at h
    | _ => simp [avMinMax] at h
  | y :: r, x, av, u, us, h, hu, hs => by
    cases hs with
    | cons _ _ v vs hv ht =>
    unfold avMinMax at h
    split at h
    · rename_i k a k' b r' he
      cases he
      rw [IsV.i hu, IsV.i hv]
      obtain ⟨z, h1, h2⟩ := avMax_ok r _ av (.int k (if b > a then b else a)) vs h (mk_i _ _) ht
      exact ⟨z, by simpa [List.foldlM_cons, Builtin.max2] using h1, h2⟩
    · rename_i he; cases he
    · cases h
end Go.TA
