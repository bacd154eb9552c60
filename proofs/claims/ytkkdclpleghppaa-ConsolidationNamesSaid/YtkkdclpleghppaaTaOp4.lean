/- A part of the proof: laws over any program of the abstract machine. No condition. -/
import Derived.Test.YtkkdclpleghppaaTaOp3
namespace Go.TA
open Go

/-! ## indexAddr -/
def vIndexAddr (P : Program) (L : List Ob) (t : TypeId) (x : AV) (i : Int) : Option (AV × List Prop) :=
  match P.underlying t with
  | some (.slice elem) => match szOf P elem with
    | some sz => match x with
      | .d (.sl n f) => if (f i.toNat).wd = sz then some (.imm (f i.toNat), [0 ≤ i, i.toNat < n]) else none
      | .full n f => if (f i.toNat).wd = sz then some (.imm (f i.toNat), [0 ≤ i, i.toNat < n]) else none
      | .ref o st off n => match L[o]? with
        | some (.seq sz' m _) => if sz' = sz then some (.ptr o st [.x (off + i.toNat) sz], [m = st, 0 ≤ i, i.toNat < n]) else none
        | _ => none
      | _ => none
    | none => none
  | some (.array len elem) => match szOf P elem with
    | some sz => match x with
      | .imm (.arr sz' n f) => if sz' = sz ∧ n = len then some (.imm (f i.toNat), [0 ≤ i, i.toNat < len]) else none
      | .ptr o st p => match L[o]? with
        | some obj => some (.ptr o st (p ++ [.x i.toNat sz]), obj.live st ++ [0 ≤ i, i.toNat < len])
        | none => none
      | _ => none
    | none => none
  | _ => none

theorem run_indexAt_slice {P : Program} {w : World} {t elem : TypeId} {sz n cap b off : Nat} {k : IntKind} {i : Int} (hu : P.underlying t = some (.slice elem)) (hs : szOf P elem = some sz)
    (h0 : 0 ≤ i) (h1 : i.toNat < n) :
    (Instr.indexAt t (.slice (some ⟨b, off, none⟩) n cap) (.int k i)).run P w = .ok (.pointer (some ⟨b, off + i.toNat * sz, none⟩)) w := by
  have h2 : 0 ≤ i ∧ i < (n : Int) := ⟨h0, by omega⟩
  simp [Instr.indexAt, asIntOf, run_und hu w, run_sz hs w, h2, add_mk]

theorem run_indexAt_array {P : Program} {w : World} {t elem : TypeId} {sz len b off : Nat} {k : IntKind} {i : Int} (hu : P.underlying t = some (.array len elem)) (hs : szOf P elem = some sz)
    (h0 : 0 ≤ i) (h1 : i.toNat < len) :
    (Instr.indexAt t (.pointer (some ⟨b, off, none⟩)) (.int k i)).run P w = .ok (.pointer (some ⟨b, off + i.toNat * sz, none⟩)) w := by
  have h2 : 0 ≤ i ∧ i < (len : Int) := ⟨h0, by omega⟩
  simp [Instr.indexAt, asIntOf, run_und hu w, run_sz hs w, h2, add_mk, Instr.sureAddr]

/-- An element of an immutable slice. -/
theorem sl_elem {M : Mem} {n i : Nat} {f : Nat → DV} {v : Value} (h : DV.Is M (.sl n f) [v]) (hi : i < n) :
    ∃ b off cap arr cs, v = .slice (some ⟨b, off, none⟩) n cap ∧ n ≤ cap ∧ M b = some arr ∧ DV.Is M (f i) cs ∧ At arr.toList (off + i * (f i).wd) cs := by
  cases h with
  | slNil => omega
  | slEmpty => omega
  | sl _ _ b off cap sz arr cs h1 h2 hb h hl hc =>
    have hw : sz = (f i).wd := by rw [← hl i hi, (h i hi).len]
    subst hw
    refine ⟨b, off, cap, arr, cs i, rfl, h1, hb, h i hi, fun j hj => ?_⟩
    rw [Array.getElem?_toList]
    exact hc i hi j (by rw [hl i hi] at hj; exact hj)

theorem vIndexAddr_sl {P : Program} {c : Cx} {w : World} {t elem : TypeId} {n sz : Nat} {f : Nat → DV} {u : Value} {k : IntKind} {i : Int} (hu : P.underlying t = some (.slice elem))
    (hs : szOf P elem = some sz) (hw : (f i.toNat).wd = sz) (h0 : 0 ≤ i) (h1 : i.toNat < n) (ha : DV.Is c.M (.sl n f) [u]) :
    ∃ v, (Instr.indexAt t u (.int k i)).run P w = .ok v w ∧ AV.IsV c (.imm (f i.toNat)) v := by
  obtain ⟨b, off, cap, arr, cs, rfl, _, hb, he, hat⟩ := sl_elem ha h1
  refine ⟨_, run_indexAt_slice hu hs h0 h1, .one _ _ rfl (.imm _ b _ arr cs hb he (fun j hj => ?_))⟩
  rw [← hw, ← Array.getElem?_toList]
  exact hat j hj

theorem vIndexAddr_ok {P : Program} {c : Cx} {w : World} {t : TypeId} {a av : AV} {k : IntKind} {i : Int} {C : List Prop} {u : Value}
    (hv : vIndexAddr P c.L t a i = some (av, C)) (hc : AllP C) (ha : AV.IsV c a u) :
    ∃ v, (Instr.indexAt t u (.int k i)).run P w = .ok v w ∧ AV.IsV c av v := by
  unfold vIndexAddr at hv
  split at hv
  · rename_i elem hu
    split at hv
    · rename_i sz hs
      split at hv
      · split at hv
        · rename_i hw
          cases hv
          have ha' := IsV.is1 rfl (by simp) (by simp) ha
          cases ha' with
          | d _ _ ha' => exact vIndexAddr_sl hu hs hw hc.1 hc.2.1 ha'
        · cases hv
      · split at hv
        · rename_i hw
          cases hv
          have ha' := IsV.is1 rfl (by simp) (by simp) ha
          cases ha' with
          | full _ _ _ ha' => exact vIndexAddr_sl hu hs hw hc.1 hc.2.1 ha'
        · cases hv
      · rename_i o st off n
        split at hv
        · rename_i sz' m g hL
          split at hv
          · rename_i hsz
            subst hsz
            cases hv
            obtain ⟨rfl, h0, h1, _⟩ := hc
            have ha' := IsV.is1 rfl (by simp) (by simp) ha
            cases ha' with
            | ref _ _ _ _ _ hr =>
            obtain ⟨r1, ⟨ra, rcap, r2⟩, r3, r4⟩ := hr
            obtain ⟨r5, r6⟩ := r4 sz' g hL
            rcases r6 with ⟨_, ra', r6⟩ | ⟨_, r6⟩ | ⟨b, tc, r6, r7, r8⟩
            · rw [r6] at r2; cases r2; omega
            · omega
            · subst r8
              refine ⟨_, run_indexAt_slice hu hs h0 h1, .one _ _ rfl (.ptr _ _ _ _ ⟨r1, ⟨_, rfl⟩, r3, fun obj hL' hst => ⟨b, tc, r6, ?_⟩⟩)⟩
              simp [pathOff, Stp.off, Nat.add_mul]
          · cases hv
        · cases hv
      · cases hv
    · cases hv
  · rename_i len elem hu
    split at hv
    · rename_i sz hs
      split at hv
      · rename_i sz' n f
        split at hv
        · rename_i hsz
          obtain ⟨rfl, rfl⟩ := hsz
          cases hv
          have ha' := IsV.is1 rfl (by simp) (by simp) ha
          cases ha' with
          | imm _ b off arr cs hb hy hcs =>
          obtain ⟨l, h1, h2⟩ := AV.into_is (c := c) (s := .x i.toNat sz') (x := .d (f i.toNat)) (.d _ _ hy) (by simp [AV.into]) hc.2.1
          cases h1 with
          | d _ _ h1 =>
          refine ⟨_, run_indexAt_array hu hs hc.1 hc.2.1, .one _ _ rfl (.imm _ b _ arr l hb h1 (fun j hj => ?_))⟩
          have hat : At arr.toList off cs := fun j hj => by rw [Array.getElem?_toList]; exact hcs j hj
          have := hat.trans h2 j hj
          rw [Array.getElem?_toList] at this
          exact this
        · cases hv
      · rename_i o st p
        split at hv
        · rename_i obj hL
          cases hv
          obtain ⟨hl, h0, h1, _⟩ := AllP_append.1 hc
          have hst := Ob.live_C hl
          have ha' := IsV.is1 rfl (by simp) (by simp) ha
          cases ha' with
          | ptr _ _ _ _ hp =>
          obtain ⟨p1, p2, p0, p3⟩ := hp
          obtain ⟨b, tc, hm, rfl⟩ := p3 obj hL hst
          refine ⟨_, run_indexAt_array hu hs h0 h1, .one _ _ rfl (.ptr _ _ _ _ ⟨p1, ⟨_, rfl⟩, p0, fun obj hL hst => ?_⟩)⟩
          obtain ⟨b', tc', hm', he⟩ := p3 obj hL hst
          cases he
          exact ⟨b, tc', hm', by rw [pathOff_append]; simp [pathOff, Stp.off]⟩
        · cases hv
      · cases hv
    · cases hv
  · cases hv

/-! ## field, index: of values -/
theorem part_ok {P : Program} {w : World} {t : TypeId} {cs k : List Value} {off : Nat} {g : Bool} (hag : aggTy P t = some g) (hsz : szOf P t = some k.length)
    (hat : At cs off k) (h1 : g = false → ∃ v, k = [v]) (hle : off + k.length ≤ cs.length) :
    ∃ u, (part t cs.toArray off).run P w = .ok u w ∧ ((g = true ∧ u = .agg k.toArray) ∨ (g = false ∧ k = [u])) := by
  cases g with
  | true =>
    refine ⟨.agg k.toArray, ?_, .inl ⟨rfl, rfl⟩⟩
    have : (cs.drop off).take k.length = k := by
      apply List.ext_getElem?
      intro j
      by_cases hj : j < k.length
      · rw [List.getElem?_take_of_lt hj, List.getElem?_drop]
        exact hat j hj
      · rw [List.getElem?_eq_none (by simp; omega), List.getElem?_eq_none (by omega)]
    simp [part, run_agg hag w, run_sz hsz w, this]
  | false =>
    obtain ⟨v, rfl⟩ := h1 rfl
    refine ⟨v, ?_, .inr ⟨rfl, rfl⟩⟩
    have := hat 0 (by simp)
    simp only [Nat.add_zero, List.getElem?_cons_zero] at this
    simp [part, run_agg hag w, this]

def vField (P : Program) (t : TypeId) (f : Nat) (a : AV) : Option (AV × List Prop) :=
  match fieldOf P t f with
  | some fd => match a.into (.f f fd.offset) with
    | some x => if aggTy P fd.type = some x.isAgg ∧ szOf P fd.type = some x.wd ∧ a.isAgg = true ∧ 0 < x.wd then some (x, []) else none
    | none => none
  | none => none

theorem into_f_C {a x : AV} {f o : Nat} (_h : a.into (.f f o) = some x) : a.intoC (.f f o) := by
  unfold AV.intoC
  split
  · rename_i he; cases he
  · trivial

theorem vField_ok {P : Program} {c : Cx} {w : World} {t : TypeId} {f : Nat} {a av : AV} {C : List Prop} {u : Value}
    (hv : vField P t f a = some (av, C)) (ha : AV.IsV c a u) :
    ∃ v, (Instr.field t u f).run P w = .ok v w ∧ AV.IsV c av v := by
  unfold vField at hv
  split at hv
  · rename_i fd hfd
    split at hv
    · rename_i x hx
      split at hv
      · rename_i hty
        cases hv
        obtain ⟨h1, h2, h3, h4⟩ := hty
        obtain ⟨cs, rfl, hcs⟩ := IsV.is h3 ha
        obtain ⟨k, hk, hat⟩ := AV.into_is hcs hx (into_f_C hx)
        have hkl := hk.len
        obtain ⟨v, h5, h6⟩ := part_ok (P := P) (w := w) (cs := cs) (off := fd.offset) h1 (by rw [h2, hkl]) hat (fun hg => nonAgg_one hk hg) (hat.le (by omega))
        refine ⟨v, ?_, isV_of_load hk rfl h6⟩
        unfold fieldOf at hfd
        split at hfd
        · rename_i fields hu
          simp [Instr.field, run_und hu w, hfd, asAgg, h5]
        · cases hfd
      · cases hv
    · cases hv
  · cases hv

def vIndex (P : Program) (t : TypeId) (a : AV) (i : Int) : Option (AV × List Prop) :=
  match P.underlying t with
  | some (.array len elem) => match a with
    | .d (.arr sz n f) => if szOf P elem = some sz ∧ n = len ∧ aggTy P elem = some (AV.d (f i.toNat)).isAgg ∧ 0 < sz then some (.d (f i.toNat), [0 ≤ i, i.toNat < len]) else none
    | _ => none
  | some .string => match a with
    | .d (.str l) => some (.d (.i .u8 (l.getD i.toNat 0).toNat), [0 ≤ i, i.toNat < l.length])
    | _ => none
  | _ => none

theorem vIndex_ok {P : Program} {c : Cx} {w : World} {t : TypeId} {a av : AV} {k : IntKind} {i : Int} {C : List Prop} {u : Value}
    (hv : vIndex P t a i = some (av, C)) (hc : AllP C) (ha : AV.IsV c a u) :
    ∃ v, (Instr.index t u (.int k i)).run P w = .ok v w ∧ AV.IsV c av v := by
  unfold vIndex at hv
  split at hv
  · rename_i len elem hu
    split at hv
    · rename_i sz n f
      split at hv
      · rename_i hty
        obtain ⟨h1, rfl, h2, h3⟩ := hty
        cases hv
        obtain ⟨h0, h4, _⟩ := hc
        obtain ⟨cs, rfl, hcs⟩ := IsV.is rfl ha
        obtain ⟨l, hl, hat⟩ := AV.into_is (s := .x i.toNat sz) (x := .d (f i.toNat)) hcs (by simp [AV.into]) h4
        have hll : l.length = sz := by
          cases hcs with
          | d _ _ hcs =>
          cases hcs with
          | arr _ _ _ ks h hl' =>
          cases hl with
          | d _ _ hl => rw [hl.len, ← (h _ h4).len, hl' _ h4]
        obtain ⟨v, h5, h6⟩ := part_ok (P := P) (w := w) (cs := cs) (off := i.toNat * sz) h2 (by rw [h1, hll]) hat (fun hg => nonAgg_one hl hg) (hat.le (by omega))
        refine ⟨v, ?_, isV_of_load hl rfl h6⟩
        have h7 : 0 ≤ i ∧ i < (n : Int) := ⟨h0, by omega⟩
        simp [Instr.index, asIntOf, run_und hu w, run_sz h1 w, h7, h5]
      · cases hv
    · cases hv
  · rename_i hu
    split at hv
    · rename_i l
      cases hv
      obtain ⟨h0, h4, _⟩ := hc
      rw [IsV.str ha]
      refine ⟨_, ?_, mk_i _ _⟩
      have h5 : (ByteArray.mk l.toArray)[i.toNat]? = some (l.getD i.toNat 0) := by
        have hsz : i.toNat < (ByteArray.mk l.toArray).size := by simpa [ByteArray.size] using h4
        rw [ByteArray.getElem?_lt' _ _ hsz]
        simp [List.getD_eq_getElem?_getD, List.getElem?_eq_getElem h4]
        rfl
      simp [Instr.index, asIntOf, run_und hu w, h0, h5]
    · cases hv
  · cases hv
end Go.TA
