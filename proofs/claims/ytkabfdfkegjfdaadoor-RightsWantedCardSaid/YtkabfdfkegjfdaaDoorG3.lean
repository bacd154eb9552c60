/- A part of the proof: what the functions compute, and that their calls return it. No condition. -/
import Derived.Test.YtkabfdfkegjfdaaDoorT6
import Derived.Lib.AppendZerosOnto
import Derived.Test.YtkabfdfkegjfdaaDoorProg
import Derived.Test.YtkabfdfkegjfdaaDoorT4
import Derived.Test.YtkabfdfkegjfdaaDoorG2
/- slices.Insert of one element. No condition. -/
namespace Go.Proofs.YtkabfdfkegjfdaaDoor
namespace Ins29
open Go Go.TA
def cL : Code → Code
  | .seq x _ => x
  | _ => .skip
def cR : Code → Code
  | .seq _ y => y
  | _ => .skip
def cT : Code → Code
  | .cond _ x _ => x
  | _ => .skip
noncomputable def regOps : Code → Array Oper
  | .region _ ops _ => ops
  | _ => #[]
noncomputable def opAt (ops : Array Oper) (i : Nat) : Oper := (ops[i]?).getD { dst := none, op := .move (.tmp 0), type := 0, pos := "", after := #[], guard := none }
noncomputable def ci : Code := Tryd.f29.body.getD .skip
noncomputable def R0 : Code := cL ci
noncomputable def R1 : Code := cL (cR ci)
noncomputable def R2 : Code := cL (cR (cR ci))
noncomputable def X3 : Code := cL (cR (cR (cR ci)))
noncomputable def R5 : Code := cL (cR (cR (cR (cR ci))))
noncomputable def X6 : Code := cL (cR (cR (cR (cR (cR ci)))))
noncomputable def T8 : Code := cR (cR (cR (cR (cR (cR ci)))))
noncomputable def R8 : Code := cL (cL T8)
noncomputable def B9 : Code := cT (cR (cL T8))
noncomputable def R9 : Code := cL B9
noncomputable def B10 : Code := cR B9
noncomputable def C13 : Code := cR T8
theorem ci_eq : Tryd.f29.body = some (.seq R0 (.seq R1 (.seq R2 (.seq (.seq (cL X3) (.cond (.tmp 16) (cT (cR X3)) .skip)) (.seq R5 (.seq (.seq (cL X6) (.cond (.tmp 22) (cT (cR X6)) .skip)) (.seq (.seq R8 (.cond (.tmp 31) (.seq R9 B10) .skip)) C13))))))) := by kernel_rfl
theorem r8_eq : R8 = .region 8 (regOps R8) false := by kernel_rfl
theorem r9_eq : R9 = .region 9 (regOps R9) false := by kernel_rfl
section
variable {α : Type} [Inhabited α] {e : α → DV}
/-! no room: the new row -/
def gB (e : α → DV) (l : List α) (i : Nat) : Nat → AV := fun j => if j < i then .d (e (l.getD j default)) else garb 7
noncomputable def sB (l : List α) (x : α) (i : Nat) (n1 : (0 : Int) ≤ i) (h1 : i ≤ l.length + 1) (w0 : 0 ≤ IntKind.i64.wrap ((i : Int) + 1)) (w1 : (IntKind.i64.wrap ((i : Int) + 1)).toNat ≤ l.length + 1) (h2 : i ≤ l.length)
    (hx : ∀ k, k < 1 → (AV.d (e ([x].getD (0 + k) default))).wd = 7) (hl : ∀ k, k < l.length - i → (AV.d (e (l.getD (0 + i + k) default))).wd = 7)
    (ho : OLe (.seq 7 (l.length + 1) fun j => if 0 + (IntKind.i64.wrap ((i : Int) + 1)).toNat ≤ j ∧ j < 0 + (IntKind.i64.wrap ((i : Int) + 1)).toNat + min (l.length - i) (l.length + 1 - (IntKind.i64.wrap ((i : Int) + 1)).toNat) then .d (e (l.getD (0 + i + (j - (0 + (IntKind.i64.wrap ((i : Int) + 1)).toNat))) default))
      else if 0 + i ≤ j ∧ j < 0 + i + min 1 (l.length + 1 - i) then .d (e ([x].getD (0 + (j - (0 + i))) default)) else gB e l i j) (eS 7 e (insL l i x))) : Scr Tryd.prog Unit Unit :=
  .reg 10 [] [] [.pf n1, .pf h1, .pf (Eq.refl (l.length + 1)), .pf (Eq.refl 1), .pf (Eq.refl (l.length + 1)), .pf hx] <|
  .reg 11 [8] [(8, { obs := [(2, eS 7 e (insL l i x))] })] [.pf w0, .pf w1, .pf (Eq.refl (l.length + 1)), .pf n1, .pf h2, .pf (Eq.refl l.length), .pf (Eq.refl l.length), .pf (Eq.refl (l.length + 1)), .pf hl, .pf ho] <|
  .ret [] ()
/-- The frame behind the capacity's test. -/
def frI (n i : Nat) (s : AV) : Fr := [(7, .d (.i .i64 1)), (8, .d (.i .i64 (n : Int))), (2, .ref 1 1 0 1), (1, .d (.i .i64 (i : Int))), (0, s)]
theorem tailB (he : ∀ x, (e x).wd = 7) {l : List α} {i : Nat} {x : α} (hi : i < l.length) (hl : l.length < 100000000000000) :
    AW none Tryd.prog Tryd.f29.ntmps B10 (fun e1 fr L => e1 = .ret ∧ FR Tryd.prog Tryd.f29 (.ref 2 (l.length + 1) 0 (l.length + 1)) [eS 7 e l, eS 7 e [x], eS 7 e (insL l i x)] fr L)
      ((9, .ref 2 (l.length + 1) 0 (l.length + 1)) :: frI l.length i (.ref 0 l.length 0 l.length)) [eS 7 e l, eS 7 e [x], .seq 7 (l.length + 1) (gB e l i)] := by
  have hw : IntKind.i64.wrap ((i : Int) + 1) = (i : Int) + 1 := by rw [wrap_i64] <;> omega
  exact pTailR (ρ := Unit) (V := fun _ => .ref 2 (l.length + 1) 0 (l.length + 1)) (Lr := fun _ => [eS 7 e l, eS 7 e [x], eS 7 e (insL l i x)]) (r := ())
    (s := sB (e := e) l x i (by omega) (by omega) (by rw [hw]; omega) (by rw [hw]; omega) (by omega) (fun k _ => he _) (fun k _ => he _) (by
      rw [hw]
      refine oLe_seq insL_length.symm fun j hj => ?_
      rw [insL_get (by omega), show ((i : Int) + 1).toNat = i + 1 by omega]
      by_cases h1 : j < i
      · rw [if_neg (by omega), if_neg (by omega), if_pos h1, gB, if_pos h1]
      · by_cases h2 : j = i
        · subst h2
          rw [if_neg (by omega), if_pos (by omega), if_neg h1, if_pos rfl, show 0 + (j - (0 + j)) = 0 by omega]
          rfl
        · rw [if_pos (by omega), if_neg h1, if_neg h2]
          congr 3; omega)) (by kernel_rfl) rfl
/-! room: in place -/
def gC (e : α → DV) (l : List α) : Nat → AV := fun j => if j < l.length then .d (e (l.getD j default)) else garb 7
noncomputable def sC (l : List α) (x : α) (i : Nat) (a0 : (0 : Int) ≤ IntKind.i64.wrap ((l.length : Int) + 1)) (a1 : (IntKind.i64.wrap ((l.length : Int) + 1)).toNat ≤ l.length + 1) (a2 : (IntKind.i64.wrap ((l.length : Int) + 1)).toNat = l.length + 1)
    (w0 : (0 : Int) ≤ IntKind.i64.wrap ((i : Int) + 1)) (w1 : (IntKind.i64.wrap ((i : Int) + 1)).toNat ≤ l.length + 1) (n1 : (0 : Int) ≤ i) (h1 : i ≤ l.length + 1)
    (hx : ExtOk Tryd.prog 47 [.ref 1 1 0 1, .ref 0 (l.length + 1) (0 + (IntKind.i64.wrap ((i : Int) + 1)).toNat) (l.length + 1 - (IntKind.i64.wrap ((i : Int) + 1)).toNat)] [.seq 7 (l.length + 1) (gC e l), eS 7 e [x]] (.d (.b false)))
    (hg : ∀ k, k < l.length + 1 - i → (gC e l (0 + i + k)).wd = 7) (hy : ∀ k, k < 1 → (AV.d (e ([x].getD (0 + k) default))).wd = 7)
    (ho : OLe (.seq 7 (l.length + 1) fun j => if 0 + i ≤ j ∧ j < 0 + i + min 1 (l.length + 1 - i) then .d (e ([x].getD (0 + (j - (0 + i))) default))
      else if 0 + (IntKind.i64.wrap ((i : Int) + 1)).toNat ≤ j ∧ j < 0 + (IntKind.i64.wrap ((i : Int) + 1)).toNat + min (l.length + 1 - i) (l.length + 1 - (IntKind.i64.wrap ((i : Int) + 1)).toNat) then gC e l (0 + i + (j - (0 + (IntKind.i64.wrap ((i : Int) + 1)).toNat)))
      else gC e l j) (eS 7 e (insL l i x))) : Scr Tryd.prog Unit Unit :=
  .reg 13 [] [] [.pf a0, .pf a1, .pf (Eq.refl (l.length + 1))] <|
  .cst (A := (IntKind.i64.wrap ((l.length : Int) + 1)).toNat = l.length + 1) (.pf a2) [(0, .ref 0 (l.length + 1) (0 + 0) ((IntKind.i64.wrap ((l.length : Int) + 1)).toNat - 0)), (1, .d (.i .i64 (i : Int))), (2, .ref 1 1 0 1), (7, .d (.i .i64 1))]
    [(0, .ref 0 (l.length + 1) 0 (l.length + 1)), (1, .d (.i .i64 (i : Int))), (2, .ref 1 1 0 1), (7, .d (.i .i64 1))]
    [.seq 7 (l.length + 1) (gC e l), eS 7 e [x]] [.seq 7 (l.length + 1) (gC e l), eS 7 e [x]] (fun h => ⟨by rw [h]; rfl, rfl⟩) <|
  .reg 14 [] [(6, { h := .callr (.d (.b false)) })] [.pf w0, .pf w1, .pf (Eq.refl (l.length + 1)), .pf hx] <|
  .br true (.pf (p := (!false) = true) rfl) <|
  .reg 15 [8] [] [.pf w0, .pf w1, .pf (Eq.refl (l.length + 1)), .pf n1, .pf h1, .pf (Eq.refl (l.length + 1)), .pf (Eq.refl (l.length + 1)), .pf (Eq.refl (l.length + 1)), .pf hg] <|
  .reg 16 [] [(4, { obs := [(0, eS 7 e (insL l i x))] })] [.pf n1, .pf h1, .pf (Eq.refl (l.length + 1)), .pf (Eq.refl 1), .pf (Eq.refl (l.length + 1)), .pf hy, .pf ho] <|
  .reg 17 [] [] [] <|
  .ret [] ()
theorem tailC (he : ∀ x, (e x).wd = 7) {l : List α} {i : Nat} {x : α} (hi : i < l.length) (hl : l.length < 100000000000000) :
    AW none Tryd.prog Tryd.f29.ntmps C13 (FQ Tryd.prog Tryd.f29 (.ref 0 (l.length + 1) 0 (l.length + 1)) [eS 7 e (insL l i x), eS 7 e [x]])
      (frI l.length i (.ref 0 (l.length + 1) 0 l.length)) [.seq 7 (l.length + 1) (gC e l), eS 7 e [x]] := by
  have hw : IntKind.i64.wrap ((i : Int) + 1) = (i : Int) + 1 := by rw [wrap_i64] <;> omega
  have hw2 : IntKind.i64.wrap ((l.length : Int) + 1) = (l.length : Int) + 1 := by rw [wrap_i64] <;> omega
  have hwd : ∀ k, (gC e l k).wd = 7 := fun k => by
    unfold gC
    split
    · exact he _
    · rfl
  exact pTailG (ρ := Unit) (V := fun _ => .ref 0 (l.length + 1) 0 (l.length + 1)) (Lr := fun _ => [eS 7 e (insL l i x), eS 7 e [x]]) (r := ())
    (s := sC (e := e) l x i (by rw [hw2]; omega) (by rw [hw2]; omega) (by rw [hw2]; omega) (by rw [hw]; omega) (by rw [hw]; omega) (by omega) (by omega)
      (overlaps_ok (fn := Tryd.f47) (tR := 4) (te := 47) (sz := 7) (z1 := 7) (z2 := 7) Tryd.func47 (by kernel_rfl) (by kernel_rfl) (by kernel_rfl) (by kernel_rfl) Tryd.underlying40 Tryd.sizeOf47 (by decide) rfl rfl (by decide) rfl (by rw [hw]; omega) (by rw [hw]; omega) (by decide))
      (fun k _ => hwd _) (fun k _ => he _) (by
      rw [hw]
      refine oLe_seq insL_length.symm fun j hj => ?_
      rw [insL_get (by omega), show ((i : Int) + 1).toNat = i + 1 by omega]
      by_cases h2 : j = i
      · subst h2
        rw [if_pos (by omega), if_neg (by omega), if_pos rfl, show 0 + (j - (0 + j)) = 0 by omega]
        rfl
      · rw [if_neg (by omega), if_neg h2]
        by_cases h1 : j < i
        · rw [if_neg (by omega), if_pos h1, gC, if_pos (by omega)]
        · rw [if_pos (by omega), if_neg h1, gC, if_pos (by omega)]
          congr 3; omega)) (by kernel_rfl) rfl
theorem get_slot {c : Cx} {G : GFr} {a : Act} {t : Nat} {v : AV} (hf : FrIs c G a.tmps) (h : (t, [], v) ∈ G) : AV.IsV c v (a.tmps.getD t undef) := (hf _ h).2.1 (fun z hz => by cases hz)
/-- The capacity's test. -/
theorem r8_wp {l : List α} {i : Nat} {x : α} (h0 : 0 < l.length) {Q : Exit → Act → World → Prop} {X : Nat → Prop} {ms : Blocks} {w : World} {a : Act} {zn : Nat} (hr : Rel X ms [eS 7 e l, eS 7 e [x]] w)
    (hf : FrIs (cxOf X ms [eS 7 e l, eS 7 e [x]] w) (frI l.length i (.ref 0 l.length 0 l.length)).up a.tmps) (hN : a.tmps.size = Tryd.f29.ntmps)
    (hQ : ∀ a' ms' w' b tc, Rel X ms' [eS 7 e l, eS 7 e [x]] w' → Ext ms w ms' w' → (cxOf X ms [eS 7 e l, eS 7 e [x]] w).le (cxOf X ms' [eS 7 e l, eS 7 e [x]] w') → FrIs (cxOf X ms' [eS 7 e l, eS 7 e [x]] w') (frI l.length i (.ref 0 l.length 0 l.length)).up a'.tmps →
      a'.tmps.size = Tryd.f29.ntmps → a'.defers = a.defers → ms'[0]? = some (some (b, tc)) → l.length ≤ tc → a'.eval (.tmp 0) = .slice (some ⟨b, 0, none⟩) l.length tc → a'.eval (.tmp 31) = .bool (decide (IntKind.i64.wrap ((l.length : Int) + 1) > (tc : Int))) → Q .normal a' w') :
    R8.wpIn (fenceOf none) zn Tryd.prog Q a w := by
  rw [r8_eq]
  refine wpIn_region ?_
  rw [show List.range (regOps R8).size = [0, 1, 2, 3] ++ [4, 5] by kernel_rfl]
  refine wpOps_pre (hs := []) (C := []) (L1 := [eS 7 e l, eS 7 e [x]]) (G1 := [(29, [], .ref 0 l.length 0 l.length), (28, [], .d (.i .i64 (IntKind.i64.wrap ((l.length : Int) + 1)))), (27, [], .d (.i .i64 1)), (26, [], .d (.i .i64 (l.length : Int))),
    (7, [], .d (.i .i64 1)), (8, [], .d (.i .i64 (l.length : Int))), (2, [], .ref 1 1 0 1), (1, [], .d (.i .i64 (i : Int))), (0, [], .ref 0 l.length 0 l.length)]) (by kernel_rfl) trivial hr hf hN fun a1 ms1 w1 r1 e1 c1 f1 n1 d1 => ?_
  have k1 := IsV.is1 rfl (by simp) (by simp) (get_slot f1 (t := 29) (v := .ref 0 l.length 0 l.length) (by simp))
  have k0 := IsV.is1 rfl (by simp) (by simp) (get_slot f1 (t := 0) (v := .ref 0 l.length 0 l.length) (by simp))
  have at0 : ∀ {t : Nat} {v : Value}, a1.tmps.getD t undef = v → AV.Is (cxOf X ms1 [eS 7 e l, eS 7 e [x]] w1) (.ref 0 l.length 0 l.length) [v] → ∃ b tc, ms1[0]? = some (some (b, tc)) ∧ l.length ≤ tc ∧ v = .slice (some ⟨b, 0, none⟩) l.length tc := fun {t v} _ h => by
    cases h with
    | ref _ _ _ _ _ h =>
    obtain ⟨_, ⟨_, _, rfl⟩, _, h⟩ := h
    obtain ⟨_, h⟩ := h 7 _ rfl
    rcases h with ⟨_, _, h⟩ | ⟨h, _⟩ | ⟨b, tc, m, h1, h2⟩
    · simp only [Value.slice.injEq] at h; omega
    · exact absurd rfl h
    · exact ⟨b, tc, m, h1, by simpa using h2⟩
  obtain ⟨b, tc, m1, hle, h29⟩ := at0 rfl k1
  obtain ⟨b', tc', m1', _, h0'⟩ := at0 rfl k0
  have e1' := m1'.symm.trans m1
  cases e1'
  refine ops_one (o := opAt (regOps R8) 4) (by kernel_rfl) (by kernel_rfl) (OpOk.value (cap_run (x := .tmp 29) (t := 40) (by kernel_rfl) Tryd.underlying40 h29) ?_)
  rw [show (opAt (regOps R8) 4).dst = some 30 by kernel_rfl]
  obtain ⟨p1, p2, p3⟩ := putG_is (dst := some 30) (ch := []) (v := .d (.i .i64 (tc : Int))) (u := .int .i64 tc) (G := [(29, [], .ref 0 l.length 0 l.length), (28, [], .d (.i .i64 (IntKind.i64.wrap ((l.length : Int) + 1)))), (27, [], .d (.i .i64 1)), (26, [], .d (.i .i64 (l.length : Int))),
    (7, [], .d (.i .i64 1)), (8, [], .d (.i .i64 (l.length : Int))), (2, [], .ref 1 1 0 1), (1, [], .d (.i .i64 (i : Int))), (0, [], .ref 0 l.length 0 l.length)]) (G1 := (30, [], .d (.i .i64 (tc : Int))) :: [(29, [], .ref 0 l.length 0 l.length), (28, [], .d (.i .i64 (IntKind.i64.wrap ((l.length : Int) + 1)))), (27, [], .d (.i .i64 1)), (26, [], .d (.i .i64 (l.length : Int))),
    (7, [], .d (.i .i64 1)), (8, [], .d (.i .i64 (l.length : Int))), (2, [], .ref 1 1 0 1), (1, [], .d (.i .i64 (i : Int))), (0, [], .ref 0 l.length 0 l.length)]) (N := Tryd.f29.ntmps) (by kernel_rfl) n1 f1 (fun _ => .one _ _ rfl (.d _ _ (.i _ _))) (fun h => absurd (fun z hz => by cases hz) h)
  refine runOps_ok (hs := []) none zn [5] _ _ ([(31, [], .d (.b (decide (IntKind.i64.wrap ((l.length : Int) + 1) > (tc : Int)))))] ++ (30, [], .d (.i .i64 (tc : Int))) :: [(29, [], .ref 0 l.length 0 l.length), (28, [], .d (.i .i64 (IntKind.i64.wrap ((l.length : Int) + 1)))), (27, [], .d (.i .i64 1)), (26, [], .d (.i .i64 (l.length : Int))),
    (7, [], .d (.i .i64 1)), (8, [], .d (.i .i64 (l.length : Int))), (2, [], .ref 1 1 0 1), (1, [], .d (.i .i64 (i : Int))), (0, [], .ref 0 l.length 0 l.length)]) [eS 7 e l, eS 7 e [x]] [] ms1 w1 _ (by kernel_rfl) trivial r1 p1 p2 fun a2 ms2 w2 r2 e2 c2 f2 n2 d2 => ?_
  have m2 : ms2[0]? = some (some (b, tc)) := by
    obtain ⟨_, h1, _, _, h2⟩ := c2.ob 0 (eS 7 e l) (by simp [cxOf]) rfl (by simp [eS, Ob.stamp])
    obtain rfl : _ = eS 7 e l := Option.some.inj h1.symm
    exact (h2 rfl).trans m1
  have k0' := IsV.is1 rfl (by simp) (by simp) (get_slot f2 (t := 0) (v := .ref 0 l.length 0 l.length) (by simp))
  have h0'' : a2.tmps.getD 0 undef = .slice (some ⟨b, 0, none⟩) l.length tc := by
    generalize a2.tmps.getD 0 undef = v at k0'
    cases k0' with
    | ref _ _ _ _ _ h =>
    obtain ⟨_, ⟨_, _, rfl⟩, _, h⟩ := h
    obtain ⟨_, h⟩ := h 7 _ rfl
    rcases h with ⟨_, _, h⟩ | ⟨h, _⟩ | ⟨b'', tc'', m, h1, h2⟩
    · simp only [Value.slice.injEq] at h; omega
    · exact absurd rfl h
    · have e := m2.symm.trans m
      cases e
      simpa using h2
  exact hQ a2 ms2 w2 b tc r2 (e1.trans e2) (c1.trans c2) (fun q hq => f2 q (by
    simp only [frI, Fr.up, List.map_cons, List.map_nil, List.mem_cons, List.not_mem_nil, or_false] at hq
    rcases hq with rfl | rfl | rfl | rfl | rfl <;> simp)) n2 (d2.trans (p3.trans d1)) m2 hle h0'' (IsV.b (get_slot f2 (t := 31) (v := .d (.b (decide (IntKind.i64.wrap ((l.length : Int) + 1) > (tc : Int))))) (by simp)))
/-- No room: a new row. -/
theorem r9_wp {l : List α} {i : Nat} {x : α} (hi : i < l.length) (hl : (l.length + 1) * (4 * 128) ≤ 2 ^ 48) {Q : Exit → Act → World → Prop} {X : Nat → Prop} {ms : Blocks} {w : World} {a : Act} {zn b : Nat} (hr : Rel X ms [eS 7 e l, eS 7 e [x]] w)
    (hf : FrIs (cxOf X ms [eS 7 e l, eS 7 e [x]] w) (frI l.length i (.ref 0 l.length 0 l.length)).up a.tmps) (hN : a.tmps.size = Tryd.f29.ntmps) (hm : ms[0]? = some (some (b, l.length)))
    (hQ : ∀ a' ms' w', Rel X ms' [eS 7 e l, eS 7 e [x], .seq 7 (l.length + 1) (gB e l i)] w' → Ext ms w ms' w' → (cxOf X ms [eS 7 e l, eS 7 e [x]] w).le (cxOf X ms' [eS 7 e l, eS 7 e [x], .seq 7 (l.length + 1) (gB e l i)] w') →
      FrIs (cxOf X ms' [eS 7 e l, eS 7 e [x], .seq 7 (l.length + 1) (gB e l i)] w') (Fr.up ((9, .ref 2 (l.length + 1) 0 (l.length + 1)) :: frI l.length i (.ref 0 l.length 0 l.length))) a'.tmps →
      a'.tmps.size = Tryd.f29.ntmps → a'.defers = a.defers → Q .normal a' w') :
    R9.wpIn (fenceOf none) zn Tryd.prog Q a w := by
  have hn : l.length < 100000000000000 := by omega
  have hw2 : IntKind.i64.wrap ((l.length : Int) + 1) = (l.length : Int) + 1 := by rw [wrap_i64] <;> omega
  have hw3 : IntKind.i64.wrap (IntKind.i64.wrap ((l.length : Int) + 1) - (i : Int)) = ((l.length + 1 - i : Nat) : Int) := by rw [hw2, wrap_i64] <;> omega
  rw [r9_eq]
  refine wpIn_region ?_
  rw [show List.range (regOps R9).size = [0, 1, 2, 3, 4, 5, 6, 7] ++ [8, 9] by kernel_rfl]
  refine wpOps_pre (hs := []) (C := [(0 : Int) ≤ (i : Int), i ≤ l.length, l.length = l.length]) (L1 := [eS 7 e l, eS 7 e [x]]) (G1 := [(39, [], .d (.i .i64 (IntKind.i64.wrap (IntKind.i64.wrap ((l.length : Int) + 1) - (i : Int))))), (38, [], .d (.i .i64 (i : Int))), (37, [], .d (.i .i64 (IntKind.i64.wrap ((l.length : Int) + 1)))),
    (36, [], .d (.i .i64 1)), (35, [], .d (.i .i64 (l.length : Int))), (34, [], .ref 0 l.length (0 + 0) (i - 0)), (33, [], .d (.i .i64 (i : Int))), (32, [], .ref 0 l.length 0 l.length),
    (7, [], .d (.i .i64 1)), (8, [], .d (.i .i64 (l.length : Int))), (2, [], .ref 1 1 0 1), (1, [], .d (.i .i64 (i : Int))), (0, [], .ref 0 l.length 0 l.length)]) (by kernel_rfl) ⟨by omega, by omega, rfl, trivial⟩ hr hf hN fun a1 ms1 w1 r1 e1 c1 f1 n1 d1 => ?_
  have m1 : ms1[0]? = some (some (b, l.length)) := by
    obtain ⟨_, h1, _, _, h2⟩ := c1.ob 0 (eS 7 e l) (by simp [cxOf]) rfl (by simp [eS, Ob.stamp])
    obtain rfl : _ = eS 7 e l := Option.some.inj h1.symm
    exact (h2 rfl).trans hm
  have k34 := IsV.is1 rfl (by simp) (by simp) (get_slot f1 (t := 34) (v := .ref 0 l.length (0 + 0) (i - 0)) (by simp))
  have h34 : a1.eval (.tmp 34) = .slice (some ⟨b, 0, none⟩) i l.length := by
    show a1.tmps.getD 34 undef = _
    generalize a1.tmps.getD 34 undef = v at k34
    cases k34 with
    | ref _ _ _ _ _ h =>
    obtain ⟨_, ⟨_, _, rfl⟩, _, h⟩ := h
    obtain ⟨_, h⟩ := h 7 _ rfl
    rcases h with ⟨h, _⟩ | ⟨h, _⟩ | ⟨b'', tc'', m, h1, h2⟩
    · have e : some (none : Option (Nat × Nat)) = some (some (b, l.length)) := h.symm.trans m1
      cases e
    · exact absurd rfl h
    · have e := m1.symm.trans m
      cases e
      simpa using h2
  have h39 : a1.eval (.tmp 39) = .int .i64 ((l.length + 1 - i : Nat) : Int) := by
    have := IsV.i (get_slot f1 (t := 39) (v := .d (.i .i64 (IntKind.i64.wrap (IntKind.i64.wrap ((l.length : Int) + 1) - (i : Int))))) (by simp))
    rw [hw3] at this
    exact this
  obtain ⟨arr, ty, cs, g1, g2, g3, g4, g5, g6⟩ := r1.seq (o := 0) rfl m1
  obtain ⟨info, hinf⟩ : ∃ info, Tryd.prog.info? 47 = some info := ⟨_, Option.eq_some_of_isSome (by kernel_rfl)⟩
  have hsz : info.size = 7 := by
    have : (Tryd.prog.info? 47).map (·.size) = some 7 := by kernel_rfl
    rw [hinf] at this; simpa using this
  have hby : info.bytes = 128 := by
    have : (Tryd.prog.info? 47).map (·.bytes) = some 128 := by kernel_rfl
    rw [hinf] at this; simpa using this
  obtain ⟨z, hz⟩ : ∃ z, info.zero = some z := by
    have : ((Tryd.prog.info? 47).bind (·.zero)).isSome = true := by kernel_rfl
    rw [hinf] at this
    exact Option.isSome_iff_exists.1 this
  have hzs : z.cells.size = 7 := by
    have : ((Tryd.prog.info? 47).bind (·.zero)).map (fun z => z.cells.size) = some 7 := by kernel_rfl
    rw [hinf] at this
    simpa [hz] using this
  have hzone : ∀ v ∈ z.cells.toList, v.oneCell' = true := by
    have : ((Tryd.prog.info? 47).bind (·.zero)).map (fun z => z.cells.toList.all fun v => v.oneCell') = some true := by kernel_rfl
    rw [hinf] at this
    have h : z.cells.toList.all (fun v => v.oneCell') = true := by simpa [hz] using this
    exact List.all_eq_true.1 h
  have hcsi : ∀ k, k < i → (cs k).length = 7 := fun k hk => g5 k (by omega)
  have hold : (Builtin.firstCells info.size i (.slice (some ⟨b, 0, none⟩) i l.length)).run Tryd.prog w1.drew = .ok ((List.range i).flatMap cs).toArray w1.drew := by
    rw [hsz]
    exact run_firstCells (w := w1) (w1 := w1.drew) (off := 0) (cap := l.length) rfl g1 hcsi (fun k hk j hj => by simpa using g6 k (by omega) j hj) i
  have hfit : Builtin.nextslicecap (i + (l.length + 1 - i)) l.length * info.bytes ≤ 281474976710656 := by
    have h1 := nextslicecap_le (need := i + (l.length + 1 - i)) (old := l.length) (by omega)
    rw [hby]
    omega
  have hap := Lib.run_append_grow_zeros (P := Tryd.prog) w1 40 3 (opAt (regOps R9) 8).type 47 info z .i64 .i64 Tryd.underlying40 Tryd.underlying3 hinf hz (some ⟨b, 0, none⟩) i l.length ((List.range i).flatMap cs) hold (l.length + 1 - i) (by omega) (by omega) (by omega) (by omega) (by rw [hby]; omega) hfit
  rw [show i + (l.length + 1 - i) = l.length + 1 by omega] at hap
  obtain ⟨nc, hnc⟩ : ∃ nc, nc = grownCap w1 (l.length + 1) l.length 47 := ⟨_, rfl⟩
  have hge := grownCap_ge w1 (l.length + 1) l.length 47
  rw [← hnc] at hap hge
  obtain ⟨row, hrow⟩ : ∃ row : Array Value, row = ((List.range i).flatMap cs).toArray ++ Builtin.zeroCells z.cells (l.length + 1 - i) ++ Builtin.zeroCells z.cells (nc - (l.length + 1)) := ⟨_, rfl⟩
  rw [← hrow] at hap
  have hkl := flatMap_range_length i 7 cs hcsi
  have hrs : row.size = nc * 7 := by
    rw [hrow, Array.size_append, Array.size_append, List.size_toArray, hkl, size_zeroCells, size_zeroCells, hzs]
    omega
  have hone : ∀ v ∈ row.toList, v.oneCell' = true := by
    rw [hrow]
    simp only [Array.toList_append, List.mem_append]
    rintro v ((hv | hv) | hv)
    · exact flat_one (fun k (hk : k < i) => g4 k (by omega)) v hv
    · exact zeroCells_one hzone _ v hv
    · exact zeroCells_one hzone _ v hv
  have hget : ∀ k, k < i → ∀ j, j < 7 → row[k * 7 + j]? = (cs k)[j]? := fun k hk j hj => by
    rw [hrow, ← Array.getElem?_toList]
    simp only [Array.toList_append, List.append_assoc]
    rw [List.getElem?_append_left (by rw [hkl]; omega)]
    exact flatMap_range_getElem? i 7 cs hcsi k j hk hj
  have hcl : ∀ j, j < l.length + 1 → ((row.toList.drop (j * 7)).take 7).length = 7 := fun j hj => by
    simp only [List.length_take, List.length_drop, Array.length_toList, hrs]
    omega
  obtain ⟨w2, hw⟩ : ∃ w2, w2 = w1.drew.alloc (.cells row 47) := ⟨_, rfl⟩
  rw [← hw] at hap
  have hgrow : Grow w1 w2 := by rw [hw]; exact (Grow.drew w1).trans (Grow.alloc _ _)
  have hhp : w2.heap[w1.heap.size]? = some (.cells row 47 (0, 0)) := by rw [hw]; exact heap_new w1.drew _
  have hsize : w1.heap.size < w2.heap.size := lt_of_heap hhp
  obtain ⟨q1, q2, q3⟩ := r1.push (m := some (w1.heap.size, nc)) (obj := .seq 7 (l.length + 1) (gB e l i)) hgrow (fun b tc e => by cases e; exact ⟨Nat.le_refl _, hsize⟩) (fun hcx => by
    refine .inr ⟨w1.heap.size, nc, row, 47, fun j => if j < i then cs j else (row.toList.drop (j * 7)).take 7, by simp [cxOf, ← r1.len], hhp, hge, ⟨hrs, hone⟩, fun j hj => ?_, fun j hj => ?_, fun j hj q hq => ?_⟩
    · by_cases hji : j < i
      · simp only [gB, if_pos hji]; exact (g4 j (by omega)).mono hcx
      · simp only [gB, if_neg hji, garb]
        have := garb_is (c := cxOf X (ms1 ++ [some (w1.heap.size, nc)]) ([eS 7 e l, eS 7 e [x]] ++ [.seq 7 (l.length + 1) (gB e l i)]) w2) (l := (row.toList.drop (j * 7)).take 7) fun v hv => hone v (List.mem_of_mem_drop (List.mem_of_mem_take hv))
        rw [hcl j hj] at this
        exact .agg _ _ this
    · by_cases hji : j < i
      · simp only [if_pos hji]; exact g5 j (by omega)
      · simp only [if_neg hji]; exact hcl j hj
    · by_cases hji : j < i
      · simp only [if_pos hji]; exact hget j hji q hq
      · simp only [if_neg hji]
        rw [List.getElem?_take_of_lt hq, List.getElem?_drop, Array.getElem?_toList])
  have hexec : (execOp a1.eval (opAt (regOps R9) 8)).run Tryd.prog w1 = .ok (.value (.slice (some ⟨w1.heap.size, 0, none⟩) (l.length + 1) nc)) w2 := by
    have hop : (opAt (regOps R9) 8).op = .call ⟨.builtin .append, #[.tmp 34, .tmp 39], #[40, 3]⟩ := by kernel_rfl
    generalize opAt (regOps R9) 8 = o at hop hap
    obtain ⟨dst, op, ty, pos, after, guard⟩ := o
    subst hop
    refine run_v (s := Builtin.append_ #[40, 3] ty (#[.tmp 34, .tmp 39].map a1.eval)) ?_
    have ha : (#[.tmp 34, .tmp 39] : Array Operand).map a1.eval = #[.slice (some ⟨b, 0, none⟩) i l.length, .int .i64 ((l.length + 1 - i : Nat) : Int)] := by
      simp [h34, h39]
    rw [ha]
    exact hap
  refine ops_one (o := opAt (regOps R9) 8) (by kernel_rfl) (by kernel_rfl) (OpOk.value hexec ?_)
  rw [show (opAt (regOps R9) 8).dst = some 40 by kernel_rfl]
  obtain ⟨p1, p2, p3⟩ := putG_is (dst := some 40) (ch := []) (v := .ref 2 (l.length + 1) 0 (l.length + 1)) (u := .slice (some ⟨w1.heap.size, 0, none⟩) (l.length + 1) nc) (G := (frI l.length i (.ref 0 l.length 0 l.length)).up)
    (G1 := (40, [], .ref 2 (l.length + 1) 0 (l.length + 1)) :: (frI l.length i (.ref 0 l.length 0 l.length)).up) (N := Tryd.f29.ntmps) (by kernel_rfl) n1 (fun q hq => (f1.mono q3) q (by
    simp only [frI, Fr.up, List.map_cons, List.map_nil, List.mem_cons, List.not_mem_nil, or_false] at hq
    rcases hq with rfl | rfl | rfl | rfl | rfl <;> simp)) (fun _ => ref_new r1.len hge) (fun h => absurd (fun z hz => by cases hz) h)
  refine runOps_ok (hs := []) none zn [9] _ _ ((9, [], .ref 2 (l.length + 1) 0 (l.length + 1)) :: (40, [], .ref 2 (l.length + 1) 0 (l.length + 1)) :: (frI l.length i (.ref 0 l.length 0 l.length)).up) [eS 7 e l, eS 7 e [x], .seq 7 (l.length + 1) (gB e l i)] [] _ w2 _ (by kernel_rfl) trivial q1 p1 p2 fun a2 ms2 w3 r2 e2 c2 f2 n2 d2 => ?_
  exact hQ a2 ms2 w3 r2 ((e1.trans q2).trans e2) ((c1.trans q3).trans c2) (fun q hq => f2 q (by
    rcases List.mem_cons.1 (show q ∈ (9, [], AV.ref 2 (l.length + 1) 0 (l.length + 1)) :: (frI l.length i (.ref 0 l.length 0 l.length)).up from hq) with hq | hq
    · exact List.mem_cons.2 (.inl hq)
    · exact List.mem_cons.2 (.inr (List.mem_cons.2 (.inr hq))))) n2 (d2.trans (p3.trans d1))
theorem regc {N : Nat} {Q : Post} {fr fr' fr2 : Fr} {L L' : List Ob} {id : Nat} {c : Code} {C : List Prop} (hq : c = .region id (regOps c) false) (h : regionRun Tryd.prog (regOps c) N [] fr L = some (fr', L', C)) (hc : AllP C)
    (hm : ∀ q ∈ fr2, q ∈ fr') (k : Q .normal fr2 L') : AW none Tryd.prog N c Q fr L := by
  have := gst_reg (id := id) (Q := Q) h hc hm k
  rwa [← hq] at this
theorem head (_he : ∀ x, (e x).wd = 7) {l : List α} {i : Nat} {x : α} (hi : i < l.length) (Q : Post) (h : AW none Tryd.prog Tryd.f29.ntmps (.seq (.seq R8 (.cond (.tmp 31) (.seq R9 B10) .skip)) C13) Q (frI l.length i (.ref 0 l.length 0 l.length)) [eS 7 e l, eS 7 e [x]]) :
    AW none Tryd.prog Tryd.f29.ntmps (.seq R0 (.seq R1 (.seq R2 (.seq (.seq (cL X3) (.cond (.tmp 16) (cT (cR X3)) .skip)) (.seq R5 (.seq (.seq (cL X6) (.cond (.tmp 22) (cT (cR X6)) .skip)) (.seq (.seq R8 (.cond (.tmp 31) (.seq R9 B10) .skip)) C13))))))) Q
      (argFr [.ref 0 l.length 0 l.length, .d (.i .i64 (i : Int)), .ref 1 1 0 1] 0) [eS 7 e l, eS 7 e [x]] := by
  have hne : ((i : Int) == (l.length : Int)) = false := by simp; omega
  refine aw_seq (regc (L' := [eS 7 e l, eS 7 e [x]]) (id := 0) (C := []) (fr' := (6, .full 0 fun _ => .b false) :: argFr [.ref 0 l.length 0 l.length, .d (.i .i64 (i : Int)), .ref 1 1 0 1] 0) (fr2 := argFr [.ref 0 l.length 0 l.length, .d (.i .i64 (i : Int)), .ref 1 1 0 1] 0)
    (by kernel_rfl) (by kernel_rfl) trivial (fun q hq => List.mem_cons_of_mem _ hq) ?_)
  refine aw_seq (regc (L' := [eS 7 e l, eS 7 e [x]]) (id := 1) (C := [(0 : Int) ≤ (i : Int), i ≤ l.length, l.length = l.length]) (fr' := (12, .ref 0 l.length (0 + i) (l.length - i)) :: (11, .d (.i .i64 (i : Int))) :: (10, .ref 0 l.length 0 l.length) :: argFr [.ref 0 l.length 0 l.length, .d (.i .i64 (i : Int)), .ref 1 1 0 1] 0)
    (fr2 := argFr [.ref 0 l.length 0 l.length, .d (.i .i64 (i : Int)), .ref 1 1 0 1] 0)
    (by kernel_rfl) (by kernel_rfl) ⟨by omega, by omega, rfl, trivial⟩ (fun q hq => List.mem_cons_of_mem _ (List.mem_cons_of_mem _ (List.mem_cons_of_mem _ hq))) ?_)
  refine aw_seq (regc (L' := [eS 7 e l, eS 7 e [x]]) (id := 2) (C := []) (fr' := (7, .d (.i .i64 1)) :: (14, .d (.i .i64 1)) :: (13, .ref 1 1 0 1) :: argFr [.ref 0 l.length 0 l.length, .d (.i .i64 (i : Int)), .ref 1 1 0 1] 0)
    (fr2 := [(7, .d (.i .i64 1)), (2, .ref 1 1 0 1), (1, .d (.i .i64 (i : Int))), (0, .ref 0 l.length 0 l.length)])
    (by kernel_rfl) (by kernel_rfl) trivial (fun q hq => by
      simp only [List.mem_cons, List.not_mem_nil, or_false] at hq
      simp only [argFr, List.mem_cons, List.not_mem_nil, or_false]
      rcases hq with rfl | rfl | rfl | rfl <;> simp) ?_)
  refine aw_seq (aw_seq (regc (L' := [eS 7 e l, eS 7 e [x]]) (id := 3) (C := []) (fr' := (16, .d (.b false)) :: (15, .d (.i .i64 1)) :: [(7, .d (.i .i64 1)), (2, .ref 1 1 0 1), (1, .d (.i .i64 (i : Int))), (0, .ref 0 l.length 0 l.length)])
    (fr2 := [(16, .d (.b false)), (7, .d (.i .i64 1)), (2, .ref 1 1 0 1), (1, .d (.i .i64 (i : Int))), (0, .ref 0 l.length 0 l.length)])
    (by kernel_rfl) (by kernel_rfl) trivial (fun q hq => by
      simp only [List.mem_cons, List.not_mem_nil, or_false] at hq ⊢
      rcases hq with rfl | rfl | rfl | rfl | rfl <;> simp) ?_))
  refine aw_cond (b := false) rfl (fun h => by cases h) fun _ => aw_skip ?_
  refine aw_seq (regc (L' := [eS 7 e l, eS 7 e [x]]) (id := 5) (C := []) (fr' := (8, .d (.i .i64 (l.length : Int))) :: (19, .d (.i .i64 (l.length : Int))) :: (18, .ref 0 l.length 0 l.length) :: [(16, .d (.b false)), (7, .d (.i .i64 1)), (2, .ref 1 1 0 1), (1, .d (.i .i64 (i : Int))), (0, .ref 0 l.length 0 l.length)])
    (fr2 := frI l.length i (.ref 0 l.length 0 l.length))
    (by kernel_rfl) (by kernel_rfl) trivial (fun q hq => by
      simp only [frI, List.mem_cons, List.not_mem_nil, or_false] at hq ⊢
      rcases hq with rfl | rfl | rfl | rfl | rfl <;> simp) ?_)
  refine aw_seq (aw_seq (regc (L' := [eS 7 e l, eS 7 e [x]]) (id := 6) (C := []) (fr' := (22, .d (.b ((i : Int) == (l.length : Int)))) :: (21, .d (.i .i64 (l.length : Int))) :: (20, .d (.i .i64 (i : Int))) :: frI l.length i (.ref 0 l.length 0 l.length))
    (fr2 := (22, .d (.b ((i : Int) == (l.length : Int)))) :: frI l.length i (.ref 0 l.length 0 l.length))
    (by kernel_rfl) (by kernel_rfl) trivial (fun q hq => by
      rcases List.mem_cons.1 hq with rfl | hq
      · exact List.mem_cons_self
      · exact List.mem_cons_of_mem _ (List.mem_cons_of_mem _ (List.mem_cons_of_mem _ hq))) ?_))
  refine aw_cond (b := ((i : Int) == (l.length : Int))) rfl (fun h => by rw [hne] at h; cases h) fun _ => aw_skip ?_
  exact aw_weaken h fun q hq => ⟨q.2, List.mem_cons_of_mem _ hq, LeV.refl _⟩
theorem tail8 (he : ∀ x, (e x).wd = 7) {l : List α} {i : Nat} {x : α} (hi : i < l.length) (hl : (l.length + 1) * (4 * 128) ≤ 2 ^ 48) :
    AW none Tryd.prog Tryd.f29.ntmps (.seq (.seq R8 (.cond (.tmp 31) (.seq R9 B10) .skip)) C13)
      (fun e1 fr L => FQ Tryd.prog Tryd.f29 (.ref 0 (l.length + 1) 0 (l.length + 1)) [eS 7 e (insL l i x), eS 7 e [x]] e1 fr L ∨
        FQ Tryd.prog Tryd.f29 (.ref 2 (l.length + 1) 0 (l.length + 1)) [eS 7 e l, eS 7 e [x], eS 7 e (insL l i x)] e1 fr L)
      (frI l.length i (.ref 0 l.length 0 l.length)) [eS 7 e l, eS 7 e [x]] := by
  have hn : l.length < 100000000000000 := by omega
  have hw2 : IntKind.i64.wrap ((l.length : Int) + 1) = (l.length : Int) + 1 := by rw [wrap_i64] <;> omega
  intro zn df X ms w a hr hf hN hd
  refine wpIn_seq (wpIn_seq (r8_wp (by omega) hr hf hN fun a1 ms1 w1 b tc r1 e1 c1 f1 n1 d1 m1 hle h0e h31 => ?_))
  by_cases hcap : l.length + 1 ≤ tc
  · refine wpIn_cond_false (h31.trans (by rw [hw2]; simp; omega)) (wpIn_skip ?_)
    obtain ⟨q1, q3⟩ := r1.room (o := 0) (n' := l.length + 1) rfl m1 (by omega) hcap
    refine wpIn_mono (tailC he hi hn zn df X ms1 w1 a1 q1 (fun q hq => ?_) n1 (d1.trans hd)) ?_
    · simp only [frI, Fr.up, List.map_cons, List.map_nil, List.mem_cons, List.not_mem_nil, or_false] at hq
      have f1' := f1.mono q3
      rcases hq with rfl | rfl | rfl | rfl | rfl
      · exact f1' _ (by simp [frI, Fr.up])
      · exact f1' _ (by simp [frI, Fr.up])
      · exact f1' _ (by simp [frI, Fr.up])
      · exact f1' _ (by simp [frI, Fr.up])
      · obtain ⟨s1, s2, s3⟩ := f1 (0, [], .ref 0 l.length 0 l.length) (by simp [frI, Fr.up])
        refine ⟨s1, fun _ => ?_, s3⟩
        have h0e' : a1.tmps.getD 0 undef = .slice (some ⟨b, 0, none⟩) l.length tc := h0e
        rw [h0e']
        refine .one _ _ rfl (.ref _ _ _ _ _ ⟨by simp [cxOf], ⟨_, _, rfl⟩, fun obj s ho hs => ?_, fun sz' f' hL' => ⟨by omega, .inr (.inr ⟨b, tc, m1, hcap, by simp⟩)⟩⟩)
        obtain rfl := Option.some.inj ho
        simp [Ob.stamp] at hs; omega
    · rintro e2 a2 w2 ⟨ms2, fr2, L2, hq, r2, e3, c3, f3, n3, d3⟩
      exact ⟨ms2, fr2, L2, .inl hq, r2, e1.trans e3, (c1.trans q3).trans c3, f3, n3, d3⟩
  · have htc : tc = l.length := by omega
    subst htc
    refine wpIn_cond_true (h31.trans (by rw [hw2]; simp; omega)) (wpIn_seq (r9_wp hi hl r1 f1 n1 m1 fun a2 ms2 w2 r2 e2 c2 f2 n2 d2 => ?_))
    refine wpIn_mono (tailB he hi hn zn df X ms2 w2 a2 r2 f2 n2 ((d2.trans d1).trans hd)) ?_
    rintro e3 a3 w3 ⟨ms3, fr3, L3, ⟨rfl, hq⟩, r3, e3, c3, f3, n3, d3⟩
    exact ⟨ms3, fr3, L3, .inr ⟨.inr rfl, hq⟩, r3, (e1.trans e2).trans e3, (c1.trans c2).trans c3, f3, n3, d3⟩
theorem ins_lt (he : ∀ x, (e x).wd = 7) {l : List α} {i : Nat} {x : α} (hi : i < l.length) (hl : (l.length + 1) * (4 * 128) ≤ 2 ^ 48) :
    CallOk Tryd.prog 29 [.ref 0 l.length 0 l.length, .d (.i .i64 (i : Int)), .ref 1 1 0 1] [eS 7 e l, eS 7 e [x]] (.ref 0 (l.length + 1) 0 (l.length + 1)) [eS 7 e (insL l i x), eS 7 e [x]] := by
  intro X ms w us hr hu
  have hlen := insL_length (l := l) (i := i) (x := x)
  refine (calls_or (L := [eS 7 e l, eS 7 e [x]]) (v := .ref 0 (l.length + 1) 0 (l.length + 1)) (v3 := .ref 2 (l.length + 1) 0 (l.length + 1)) Tryd.func29 ci_eq (Nat.le_of_ble_eq_true (by kernel_rfl)) (by simp) rfl (lsOk (n := 2) (L := [eS 7 e (insL l i x), eS 7 e [x]]) ⟨fun _ _ => rfl, fun _ _ => rfl, trivial⟩)
    (by simp) rfl (lsOk (n := 3) (L := [eS 7 e l, eS 7 e [x], eS 7 e (insL l i x)]) ⟨fun _ _ => rfl, fun _ _ => rfl, fun _ _ => rfl, trivial⟩) (head (x := x) he hi _ (tail8 he hi hl)) hr hu).mono fun e1 w1 h => ?_
  rcases h with h | ⟨u, ms1, rfl, h1, h2, h3, h4⟩
  · exact h
  · rw [← hlen] at h4 ⊢
    obtain ⟨ms2, k1, k2, k3, k4⟩ := third hr hlen h1 h2 h3 h4
    exact ⟨u, ms2, rfl, k1, k2, k3, k4⟩
/-! at the end -/
noncomputable def sE (l : List α) (x : α) (a1 : (0 : Int) ≤ (l.length : Int)) (a2 : l.length ≤ l.length) (a3 : ((l.length : Int) == (l.length : Int)) = true)
    (hx : ∀ k, k < 1 → (AV.d (e ([x].getD k default))).wd = 7) (hs : (l.length + 1) * (2 * 128) ≤ 2 ^ 48)
    (ho : OLe (.seq 7 (l.length + 1) (catF l.length (fun j => .d (e (l.getD j default))) (fun j => .d (e ([x].getD j default))))) (eS 7 e (insL l l.length x))) : Scr Tryd.prog Unit Unit :=
  .reg 0 [] [] [] <|
  .reg 1 [] [] [.pf a1, .pf a2, .pf (Eq.refl l.length)] <|
  .reg 2 [] [] [] <|
  .reg 3 [] [] [] <|
  .br false (.pf (p := ((1 : Int) == 0) = false) (by decide)) <|
  .reg 5 [] [] [] <|
  .reg 6 [] [] [] <|
  .br true (.pf a3) <|
  .reg 7 [] [(2, { obs := [(0, eS 7 e (insL l l.length x))] })] [.pf (Eq.refl 1), .pf (Eq.refl l.length), .pf (Eq.refl l.length), .pf hx, .pf hs, .pf ho] <|
  .ret [] ()
set_option maxRecDepth 100000 in
theorem ins_eq (he : ∀ x, (e x).wd = 7) {l : List α} {x : α} (hl : (l.length + 1) * (4 * 128) ≤ 2 ^ 48) :
    CallOk Tryd.prog 29 [.ref 0 l.length 0 l.length, .d (.i .i64 (l.length : Int)), .ref 1 1 0 1] [eS 7 e l, eS 7 e [x]] (.ref 0 (l.length + 1) 0 (l.length + 1)) [eS 7 e (insL l l.length x), eS 7 e [x]] :=
  fOk (ρ := Unit) (V := fun _ => .ref 0 (l.length + 1) 0 (l.length + 1)) (Lr := fun _ => [eS 7 e (insL l l.length x), eS 7 e [x]]) (r := ())
    (s := sE (e := e) l x (by omega) (Nat.le_refl _) (by simp) (fun k _ => he _) (by omega) (by
      refine oLe_seq insL_length.symm fun j hj => ?_
      rw [insL_get (Nat.le_refl _)]
      by_cases h1 : j < l.length
      · rw [catF_lt h1, if_pos h1]
      · have h2 : j = l.length := by omega
        subst h2
        rw [catF_ge (by omega), if_neg (by omega), if_pos rfl, Nat.sub_self]
        rfl)) Tryd.func29 ci_eq (by kernel_rfl) rfl
theorem ins_ok (he : ∀ x, (e x).wd = 7) {l : List α} {i : Nat} {x : α} (hi : i ≤ l.length) (hl : (l.length + 1) * (4 * 128) ≤ 2 ^ 48) :
    CallOk Tryd.prog 29 [.ref 0 l.length 0 l.length, .d (.i .i64 (i : Int)), .ref 1 1 0 1] [eS 7 e l, eS 7 e [x]] (.ref 0 (insL l i x).length 0 (insL l i x).length) [eS 7 e (insL l i x), eS 7 e [x]] := by
  rw [insL_length]
  rcases Nat.lt_or_ge i l.length with h | h
  · exact ins_lt he h hl
  · obtain rfl : i = l.length := by omega
    exact ins_eq he hl
end
end Ins29
end Go.Proofs.YtkabfdfkegjfdaaDoor
/- The shapes of data. No condition. -/
namespace Go.Proofs.YtkabfdfkegjfdaaDoor
open Go Go.TA
/-- A slice of nothing. -/
abbrev Z0 : DV := DV.sl 0 fun _ => DV.b false
structure TTape where
  l : (List Int)
  at_ : Int
  deriving Inhabited
def TTape.e (x : TTape) : DV := .agg [(eL (DV.i .i64) x.l), (DV.i .i64 x.at_)]
structure TApiRight where
  Code : List UInt8
  Year : Int
  Granted : Int
  Asked : Int
  Returned : Int
  deriving Inhabited
def TApiRight.e (x : TApiRight) : DV := .agg [(DV.str x.Code), (DV.i .i64 x.Year), (DV.i .i64 x.Granted), (DV.i .i64 x.Asked), (DV.i .i64 x.Returned)]
structure TApiPot where
  Code : List UInt8
  Year : Int
  Total : Int
  Granted : (List Int)
  Heard : (List Int)
  Asked : (List Int)
  Used : (List Int)
  deriving Inhabited
def TApiPot.e (x : TApiPot) : DV := .agg [(DV.str x.Code), (DV.i .i64 x.Year), (DV.i .i64 x.Total), (eL (DV.i .i64) x.Granted), (eL (DV.i .i64) x.Heard), (eL (DV.i .i64) x.Asked), (eL (DV.i .i64) x.Used)]
structure TApiTreasury where
  Offices : Int
  Pots : (List TApiPot)
  deriving Inhabited
def TApiTreasury.e (x : TApiTreasury) : DV := .agg [(DV.i .i64 x.Offices), (eL TApiPot.e x.Pots)]
structure TApiMessage where
  From : Int
  To : Int
  Code : List UInt8
  Year : Int
  Granted : Int
  Asked : Int
  Returned : Int
  Used : Int
  deriving Inhabited
def TApiMessage.e (x : TApiMessage) : DV := .agg [(DV.i .i64 x.From), (DV.i .i64 x.To), (DV.str x.Code), (DV.i .i64 x.Year), (DV.i .i64 x.Granted), (DV.i .i64 x.Asked), (DV.i .i64 x.Returned), (DV.i .i64 x.Used)]
end Go.Proofs.YtkabfdfkegjfdaaDoor
/- What the functions compute, and that their calls return it. No condition. -/
namespace Go.Proofs.YtkabfdfkegjfdaaDoor
open Go Go.TA
noncomputable section
/-! 4 -/
abbrev R_mk_New := TTape
def V_mk_New (_ : R_mk_New) : AV := (vp 0)
def L_mk_New (x : R_mk_New) : List Ob := [(bx (TTape.e x))]
def S_mk_New (a0 : (List Int)) : Scr Tryd.prog R_mk_New R_mk_New :=
.guard [(0 : Int) ≤ (if 500 < (a0.length : Int) then 500 else (a0.length : Int)), ((if 500 < (a0.length : Int) then 500 else (a0.length : Int))).toNat ≤ a0.length] <|
.reg 1 [] [(4, hv (vl (a0.take (((if 500 < (a0.length : Int) then 500 else (a0.length : Int))).toNat))))] [.ev 0, .ev 1, .der (fun (h0 : ((if 500 < (a0.length : Int) then 500 else (a0.length : Int))).toNat ≤ a0.length) => lvT (DV.i .i64) a0 h0) 1] <|
.ret [] (⟨(a0.take (((if 500 < (a0.length : Int) then 500 else (a0.length : Int))).toNat)), 0⟩ : TTape)
def F_mk_New (a0 : (List Int)) : Option R_mk_New := (S_mk_New a0).den
set_option maxRecDepth 100000 in
theorem F_mk_New_ok {a0 : (List Int)} (r : R_mk_New) (h : F_mk_New a0 = some r) : CallOk Tryd.prog 4 [(vl a0)] [] (V_mk_New r) (L_mk_New r) := fOk (s := S_mk_New a0) Tryd.func4 rfl (by kernel_rfl) h
/-! 6 -/
abbrev R_mk_Tape_N := Int × TTape
def V_mk_Tape_N (x : R_mk_Tape_N) : AV := (vi x.1)
def L_mk_Tape_N (x : R_mk_Tape_N) : List Ob := [(bx (TTape.e x.2))]
def S_mk_Tape_N (a1 : Int) (p0 : TTape) : Scr Tryd.prog R_mk_Tape_N R_mk_Tape_N :=
.ite (decide (p0.at_ ≥ (p0.l.length : Int))) (
.ret [] (0, p0)) (
.guard [(0 : Int) ≤ p0.at_, (p0.at_).toNat < p0.l.length, (a1 : Int) ≠ 0] <|
.reg 3 [] [] [.ev 0, .ev 1, .ev 2] <|
.ite (decide (((p0.l.getD ((p0.at_).toNat) default).tmod a1) < 0)) (
.ret [] ((IntKind.i64.wrap (((p0.l.getD ((p0.at_).toNat) default).tmod a1) + a1)), (⟨p0.l, (IntKind.i64.wrap (p0.at_ + 1))⟩ : TTape))) (
.ret [] (((p0.l.getD ((p0.at_).toNat) default).tmod a1), (⟨p0.l, (IntKind.i64.wrap (p0.at_ + 1))⟩ : TTape))))
def F_mk_Tape_N (a1 : Int) (p0 : TTape) : Option R_mk_Tape_N := (S_mk_Tape_N a1 p0).den
set_option maxRecDepth 100000 in
theorem F_mk_Tape_N_ok {a1 : Int} {p0 : TTape} (r : R_mk_Tape_N) (h : F_mk_Tape_N a1 p0 = some r) : CallOk Tryd.prog 6 [(vp 0), (vi a1)] [(bx (TTape.e p0))] (V_mk_Tape_N r) (L_mk_Tape_N r) := fOk (s := S_mk_Tape_N a1 p0) Tryd.func6 rfl (by kernel_rfl) h
/-! 10 -/
abbrev R_mk_PotCode := List UInt8 × TTape
def V_mk_PotCode (x : R_mk_PotCode) : AV := (AV.d (DV.str x.1))
def L_mk_PotCode (x : R_mk_PotCode) : List Ob := [(bx (TTape.e x.2))]
def S_mk_PotCode (p0 : TTape) : Scr Tryd.prog R_mk_PotCode R_mk_PotCode :=
.call (@F_mk_Tape_N_ok 3 p0) fun r4 c4 =>
.guard [(0 : Int) ≤ r4.1, (r4.1).toNat < 3] <|
.reg 1 [] [(0, hv (AV.d (eL DV.str ([[49], [49, 46, 50], [50]] : List (List UInt8))))), (2, hc c4 [0] false)] [.pf (leV_lit DV.str ([[49], [49, 46, 50], [50]] : List (List UInt8))), .cl 2 c4 [0] 1 false, .ev 0, .ev 1] <|
.ret [] ((([[49], [49, 46, 50], [50]] : List (List UInt8)).getD ((r4.1).toNat) default), r4.2)
def F_mk_PotCode (p0 : TTape) : Option R_mk_PotCode := (S_mk_PotCode p0).den
set_option maxRecDepth 100000 in
theorem F_mk_PotCode_ok {p0 : TTape} (r : R_mk_PotCode) (h : F_mk_PotCode p0 = some r) : CallOk Tryd.prog 10 [(vp 0)] [(bx (TTape.e p0))] (V_mk_PotCode r) (L_mk_PotCode r) := fOk (s := S_mk_PotCode p0) Tryd.func10 rfl (by kernel_rfl) h
/-! 5 -/
abbrev R_mk_Right := TApiRight × TTape
def V_mk_Right (x : R_mk_Right) : AV := (AV.d (TApiRight.e x.1))
def L_mk_Right (x : R_mk_Right) : List Ob := [(bx (TTape.e x.2))]
def S_mk_Right (p0 : TTape) : Scr Tryd.prog R_mk_Right R_mk_Right :=
.call (@F_mk_Tape_N_ok 500 p0) fun r9 c9 =>
.reg 1 [] [(1, hc c9 [0] false)] [.cl 0 c9 [0] 2 false] <|
.call (@F_mk_PotCode_ok r9.2) fun rv1 cv1 =>
.call (@F_mk_Tape_N_ok 2 rv1.2) fun rv2 cv2 =>
.call (@F_mk_Tape_N_ok 400 rv2.2) fun rv3 cv3 =>
.call (@F_mk_Tape_N_ok (IntKind.i64.wrap (r9.1 + 1)) rv3.2) fun rv4 cv4 =>
.reg 2 [] [(1, hc cv1 [0] false), (3, hc cv2 [0] false), (7, hc cv3 [0] false), (11, hc cv4 [0] false)] [.cl 3 cv1 [0] 2 false, .cl 2 cv2 [0] 2 false, .cl 1 cv3 [0] 2 false, .cl 0 cv4 [0] 2 false] <|
.ret [] ((⟨rv1.1, (IntKind.i64.wrap (12 + rv2.1)), r9.1, rv3.1, rv4.1⟩ : TApiRight), rv4.2)
def F_mk_Right (p0 : TTape) : Option R_mk_Right := (S_mk_Right p0).den
set_option maxRecDepth 100000 in
theorem F_mk_Right_ok {p0 : TTape} (r : R_mk_Right) (h : F_mk_Right p0 = some r) : CallOk Tryd.prog 5 [(vp 0)] [(bx (TTape.e p0))] (V_mk_Right r) (L_mk_Right r) := fOk (s := S_mk_Right p0) Tryd.func5 rfl (by kernel_rfl) h
/-! 12 -/
abbrev R_rights_among := Bool
def V_rights_among (x : R_rights_among) : AV := (vb x)
def L_rights_among (_ : R_rights_among) : List Ob := []
def S_rights_among (a0 : Int) (a1 : Int) (a2 : Int) : Scr Tryd.prog R_rights_among R_rights_among :=
.ret [] (bif (decide (a0 ≥ a1)) then (decide (a0 ≤ a2)) else false)
def F_rights_among (a0 : Int) (a1 : Int) (a2 : Int) : Option R_rights_among := (S_rights_among a0 a1 a2).den
set_option maxRecDepth 100000 in
theorem F_rights_among_ok {a0 : Int} {a1 : Int} {a2 : Int} (r : R_rights_among) (h : F_rights_among a0 a1 a2 = some r) : CallOk Tryd.prog 12 [(vi a0), (vi a1), (vi a2)] [] (V_rights_among r) (L_rights_among r) := fOk (s := S_rights_among a0 a1 a2) Tryd.func12 rfl (by kernel_rfl) h
/-! 22 -/
abbrev R_rights_place := Bool
def V_rights_place (x : R_rights_place) : AV := (vb x)
def L_rights_place (_ : R_rights_place) : List Ob := []
def S_rights_place (a0 : List UInt8) (a1 : Int) : Scr Tryd.prog R_rights_place R_rights_place :=
.call (@F_classification_Parts_ok a0) fun rv1 cv1 =>
.calld [(decide ((rv1.length : Int) > 0)) = true] default (@F_rights_among_ok a1 0 99) fun rv2 cv2 =>
.reg 1 [] [(1, hc cv1 [] true), (6, hc cv2 [] true)] [.cl 2 cv1 [] 0 true, .clg 0 [(decide ((rv1.length : Int) > 0)) = true] cv2 [] 0 true] <|
.ret [] (bif (decide ((rv1.length : Int) > 0)) then rv2 else false)
def F_rights_place (a0 : List UInt8) (a1 : Int) : Option R_rights_place := (S_rights_place a0 a1).den
set_option maxRecDepth 100000 in
theorem F_rights_place_ok {a0 : List UInt8} {a1 : Int} (r : R_rights_place) (h : F_rights_place a0 a1 = some r) : CallOk Tryd.prog 22 [(AV.d (DV.str a0)), (vi a1)] [] (V_rights_place r) (L_rights_place r) := fOk (s := S_rights_place a0 a1) Tryd.func22 rfl (by kernel_rfl) h
/-! 23 -/
abbrev R_rights_total := Bool
def V_rights_total (x : R_rights_total) : AV := (vb x)
def L_rights_total (_ : R_rights_total) : List Ob := []
def S_rights_total (a0 : Int) : Scr Tryd.prog R_rights_total R_rights_total :=
.call (@F_rights_among_ok a0 0 1000000000000000) fun rv1 cv1 =>
.reg 1 [] [(1, hc cv1 [] true)] [.cl 0 cv1 [] 0 true] <|
.ret [] rv1
def F_rights_total (a0 : Int) : Option R_rights_total := (S_rights_total a0).den
set_option maxRecDepth 100000 in
theorem F_rights_total_ok {a0 : Int} (r : R_rights_total) (h : F_rights_total a0 = some r) : CallOk Tryd.prog 23 [(vi a0)] [] (V_rights_total r) (L_rights_total r) := fOk (s := S_rights_total a0) Tryd.func23 rfl (by kernel_rfl) h
/-! 11 -/
abbrev R_rights_Right := Bool
def V_rights_Right (x : R_rights_Right) : AV := (vb x)
def L_rights_Right (_ : R_rights_Right) : List Ob := []
def S_rights_Right (a0 : TApiRight) : Scr Tryd.prog R_rights_Right R_rights_Right :=
.call (@F_rights_place_ok a0.Code a0.Year) fun rv1 cv1 =>
.calld [rv1 = true] default (@F_rights_total_ok a0.Granted) fun rv2 cv2 =>
.calld [(bif rv1 then rv2 else false) = true] default (@F_rights_total_ok a0.Asked) fun rv3 cv3 =>
.calld [(bif (bif rv1 then rv2 else false) then rv3 else false) = true] default (@F_rights_among_ok a0.Returned 0 a0.Granted) fun rv4 cv4 =>
.reg 1 [] [(4, hc cv1 [] true), (8, hc cv2 [] true), (13, hc cv3 [] true), (20, hc cv4 [] true)] [.cl 6 cv1 [] 1 true, .clg 4 [rv1 = true] cv2 [] 1 true, .clg 2 [(bif rv1 then rv2 else false) = true] cv3 [] 1 true, .clg 0 [(bif (bif rv1 then rv2 else false) then rv3 else false) = true] cv4 [] 1 true] <|
.ret [] (bif (bif (bif rv1 then rv2 else false) then rv3 else false) then rv4 else false)
def F_rights_Right (a0 : TApiRight) : Option R_rights_Right := (S_rights_Right a0).den
set_option maxRecDepth 100000 in
theorem F_rights_Right_ok {a0 : TApiRight} (r : R_rights_Right) (h : F_rights_Right a0 = some r) : CallOk Tryd.prog 11 [(AV.d (TApiRight.e a0))] [] (V_rights_Right r) (L_rights_Right r) := fOk (s := S_rights_Right a0) Tryd.func11 rfl (by kernel_rfl) h
/-! 7 -/
abbrev R_rights_Wanted := Int
def V_rights_Wanted (x : R_rights_Wanted) : AV := (vi x)
def L_rights_Wanted (_ : R_rights_Wanted) : List Ob := []
def S_rights_Wanted (a0 : TApiRight) (a1 : Int) : Scr Tryd.prog R_rights_Wanted R_rights_Wanted :=
.call (@F_rights_Right_ok a0) fun rv1 cv1 =>
.calld [(!rv1) = false] default (@F_rights_among_ok a1 0 (IntKind.i64.wrap (a0.Granted - a0.Returned))) fun rv2 cv2 =>
.reg 1 [] [(1, hc cv1 [] true), (10, hc cv2 [] true)] [.cl 2 cv1 [] 1 true, .clg 0 [(!rv1) = false] cv2 [] 1 true] <|
.ite (bif (!rv1) then true else (!rv2)) (
.ret [] 0) (
.ret [] (if 0 > (IntKind.i64.wrap ((if (IntKind.i64.wrap (a0.Granted - a1)) < a0.Asked then (IntKind.i64.wrap (a0.Granted - a1)) else a0.Asked) - a0.Returned)) then 0 else (IntKind.i64.wrap ((if (IntKind.i64.wrap (a0.Granted - a1)) < a0.Asked then (IntKind.i64.wrap (a0.Granted - a1)) else a0.Asked) - a0.Returned))))
def F_rights_Wanted (a0 : TApiRight) (a1 : Int) : Option R_rights_Wanted := (S_rights_Wanted a0 a1).den
set_option maxRecDepth 100000 in
theorem F_rights_Wanted_ok {a0 : TApiRight} {a1 : Int} (r : R_rights_Wanted) (h : F_rights_Wanted a0 a1 = some r) : CallOk Tryd.prog 7 [(AV.d (TApiRight.e a0)), (vi a1)] [] (V_rights_Wanted r) (L_rights_Wanted r) := fOk (s := S_rights_Wanted a0 a1) Tryd.func7 rfl (by kernel_rfl) h
/-! 8 -/
abbrev R_rights_Return := TApiRight × Int
def V_rights_Return (x : R_rights_Return) : AV := (AV.tup [(AV.d (TApiRight.e x.1)), (vi x.2)])
def L_rights_Return (_ : R_rights_Return) : List Ob := []
def S_rights_Return (a0 : TApiRight) (a1 : Int) (a2 : Int) : Scr Tryd.prog R_rights_Return R_rights_Return :=
.call (@F_rights_Right_ok a0) fun rv1 cv1 =>
.calld [(!rv1) = false] default (@F_rights_among_ok a1 0 (IntKind.i64.wrap (a0.Granted - a0.Returned))) fun rv2 cv2 =>
.reg 1 [] [(1, hc cv1 [] true), (10, hc cv2 [] true)] [.cl 2 cv1 [] 2 true, .clg 0 [(!rv1) = false] cv2 [] 2 true] <|
.ite (bif (!rv1) then true else (!rv2)) (
.ret [] ((⟨[], 0, 0, 0, 0⟩ : TApiRight), 1)) (
.call (@F_rights_among_ok a2 1 1000000000000000) fun rv3 cv3 =>
.reg 3 [] [(1, hc cv3 [] true)] [.cl 0 cv3 [] 2 true] <|
.ite (!rv3) (
.ret [] ((⟨[], 0, 0, 0, 0⟩ : TApiRight), 2)) (
.ite (decide (a2 > (IntKind.i64.wrap ((IntKind.i64.wrap (a0.Granted - a0.Returned)) - a1)))) (
.ret [] ((⟨[], 0, 0, 0, 0⟩ : TApiRight), 15)) (
.ret [] ((⟨a0.Code, a0.Year, a0.Granted, a0.Asked, (IntKind.i64.wrap (a0.Returned + a2))⟩ : TApiRight), 0))))
def F_rights_Return (a0 : TApiRight) (a1 : Int) (a2 : Int) : Option R_rights_Return := (S_rights_Return a0 a1 a2).den
set_option maxRecDepth 100000 in
theorem F_rights_Return_ok {a0 : TApiRight} {a1 : Int} {a2 : Int} (r : R_rights_Return) (h : F_rights_Return a0 a1 a2 = some r) : CallOk Tryd.prog 8 [(AV.d (TApiRight.e a0)), (vi a1), (vi a2)] [] (V_rights_Return r) (L_rights_Return r) := fOk (s := S_rights_Return a0 a1 a2) Tryd.func8 rfl (by kernel_rfl) h
/-! 54 -/
abbrev R_rights_valid_1 := Bool
def V_rights_valid_1 (x : R_rights_valid_1) : AV := (vb x)
def L_rights_valid_1 (_ : R_rights_valid_1) : List Ob := []
def S_rights_valid_1 (a0 : Int) : Scr Tryd.prog R_rights_valid_1 R_rights_valid_1 :=
.call (@F_rights_total_ok a0) fun rv1 cv1 =>
.reg 1 [] [(1, hc cv1 [] true)] [.cl 0 cv1 [] 0 true] <|
.ret [] (!rv1)
def F_rights_valid_1 (a0 : Int) : Option R_rights_valid_1 := (S_rights_valid_1 a0).den
set_option maxRecDepth 100000 in
theorem F_rights_valid_1_ok {a0 : Int} (r : R_rights_valid_1) (h : F_rights_valid_1 a0 = some r) : CallOk Tryd.prog 54 [(vi a0)] [] (V_rights_valid_1 r) (L_rights_valid_1 r) := fOk (s := S_rights_valid_1 a0) Tryd.func54 rfl (by kernel_rfl) h
/-! 50 -/
abbrev R_slices_IndexFunc_int_rights_valid_1 := Int
def V_slices_IndexFunc_int_rights_valid_1 (x : R_slices_IndexFunc_int_rights_valid_1) : AV := (vi x)
def L_slices_IndexFunc_int_rights_valid_1 (_ : R_slices_IndexFunc_int_rights_valid_1) : List Ob := []
def S_slices_IndexFunc_int_rights_valid_1_b1 (a0 : (List Int)) (iv1 : Nat) (_ : Unit) : Scr Tryd.prog R_slices_IndexFunc_int_rights_valid_1 (Step (Unit) R_slices_IndexFunc_int_rights_valid_1) :=
.call (@F_rights_valid_1_ok (a0.getD iv1 default)) fun rv2 cv2 =>
.reg 4 [] [(5, hc cv2 [] true)] [.pf (nn iv1), .ev 1, .cl 0 cv2 [] 0 true] <|
.ite rv2 (
.ret [] (.ret (iv1 : Int))) (
.ret [] (.cont ()))
def S_slices_IndexFunc_int_rights_valid_1 (a0 : (List Int)) : Scr Tryd.prog R_slices_IndexFunc_int_rights_valid_1 R_slices_IndexFunc_int_rights_valid_1 :=
.range (a0.length : Int) a0.length rfl (.slot 0) 8 [0, 1, 7] (fun (_ : Unit) => []) (fun (_ : Unit) => []) () (S_slices_IndexFunc_int_rights_valid_1_b1 a0) (fun (_ : Unit) => 
.ret [] (-1)) id
def F_slices_IndexFunc_int_rights_valid_1 (a0 : (List Int)) : Option R_slices_IndexFunc_int_rights_valid_1 := (S_slices_IndexFunc_int_rights_valid_1 a0).den
set_option maxRecDepth 100000 in
theorem F_slices_IndexFunc_int_rights_valid_1_ok {a0 : (List Int)} (r : R_slices_IndexFunc_int_rights_valid_1) (h : F_slices_IndexFunc_int_rights_valid_1 a0 = some r) : CallOk Tryd.prog 50 [(vl a0), (AV.fn 54 [])] [] (V_slices_IndexFunc_int_rights_valid_1 r) (L_slices_IndexFunc_int_rights_valid_1 r) := fOk (s := S_slices_IndexFunc_int_rights_valid_1 a0) Tryd.func50 rfl (by kernel_rfl) h
/-! 33 -/
abbrev R_slices_CoF_int_rights_valid_1 := Bool
def V_slices_CoF_int_rights_valid_1 (x : R_slices_CoF_int_rights_valid_1) : AV := (vb x)
def L_slices_CoF_int_rights_valid_1 (_ : R_slices_CoF_int_rights_valid_1) : List Ob := []
def S_slices_CoF_int_rights_valid_1 (a0 : (List Int)) : Scr Tryd.prog R_slices_CoF_int_rights_valid_1 R_slices_CoF_int_rights_valid_1 :=
.call (@F_slices_IndexFunc_int_rights_valid_1_ok a0) fun rv1 cv1 =>
.reg 1 [] [(2, hc cv1 [] true)] [.cl 0 cv1 [] 0 true] <|
.ret [] (decide (rv1 ≥ 0))
def F_slices_CoF_int_rights_valid_1 (a0 : (List Int)) : Option R_slices_CoF_int_rights_valid_1 := (S_slices_CoF_int_rights_valid_1 a0).den
set_option maxRecDepth 100000 in
theorem F_slices_CoF_int_rights_valid_1_ok {a0 : (List Int)} (r : R_slices_CoF_int_rights_valid_1) (h : F_slices_CoF_int_rights_valid_1 a0 = some r) : CallOk Tryd.prog 33 [(vl a0), (AV.fn 54 [])] [] (V_slices_CoF_int_rights_valid_1 r) (L_slices_CoF_int_rights_valid_1 r) := fOk (s := S_slices_CoF_int_rights_valid_1 a0) Tryd.func33 rfl (by kernel_rfl) h
/-! 39 -/
abbrev R_rights_sum := Int
def V_rights_sum (x : R_rights_sum) : AV := (vi x)
def L_rights_sum (_ : R_rights_sum) : List Ob := []
def S_rights_sum_b1 (a0 : (List Int)) (iv1 : Nat) (sv2 : Int) : Scr Tryd.prog R_rights_sum (Step (Int) R_rights_sum) :=
.reg 4 [] [] [.pf (nn iv1), .ev 0] <|
.ret [] (.cont (IntKind.i64.wrap (sv2 + (a0.getD iv1 default))))
def S_rights_sum (a0 : (List Int)) : Scr Tryd.prog R_rights_sum R_rights_sum :=
.range (a0.length : Int) a0.length rfl (.slot 6) 8 [6, 7] (fun (sv2 : Int) => [(3, (vi sv2))]) (fun (_ : Int) => []) 0 (S_rights_sum_b1 a0) (fun (sv2 : Int) => 
.ret [] sv2) id
def F_rights_sum (a0 : (List Int)) : Option R_rights_sum := (S_rights_sum a0).den
set_option maxRecDepth 100000 in
theorem F_rights_sum_ok {a0 : (List Int)} (r : R_rights_sum) (h : F_rights_sum a0 = some r) : CallOk Tryd.prog 39 [(vl a0)] [] (V_rights_sum r) (L_rights_sum r) := fOk (s := S_rights_sum a0) Tryd.func39 rfl (by kernel_rfl) h
/-! 40 -/
abbrev R_rights_valid := Bool
def V_rights_valid (x : R_rights_valid) : AV := (vb x)
def L_rights_valid (_ : R_rights_valid) : List Ob := []
def S_rights_valid_b1 (a0 : TApiPot) (a1 : Int) (iv1 : Nat) (_ : Unit) : Scr Tryd.prog R_rights_valid (Step (Unit) R_rights_valid) :=
.reg 6 [] [] [.pf (nn iv1), .ev 0] <|
.calld [(((([a0.Granted, a0.Heard, a0.Asked, a0.Used] : List (List Int)).getD iv1 default).length : Int) != a1) = false] default (@F_slices_CoF_int_rights_valid_1_ok (([a0.Granted, a0.Heard, a0.Asked, a0.Used] : List (List Int)).getD iv1 default)) fun rv2 cv2 =>
.reg 7 [] [(7, hc cv2 [] true)] [.clg 0 [(((([a0.Granted, a0.Heard, a0.Asked, a0.Used] : List (List Int)).getD iv1 default).length : Int) != a1) = false] cv2 [] 1 true] <|
.ite (bif (((([a0.Granted, a0.Heard, a0.Asked, a0.Used] : List (List Int)).getD iv1 default).length : Int) != a1) then true else rv2) (
.ret [] (.ret false)) (
.ret [] (.cont ()))
def S_rights_valid_b2 (a0 : TApiPot) (iv3 : Nat) (_ : Unit) : Scr Tryd.prog R_rights_valid (Step (Unit) R_rights_valid) :=
.reg 12 [] [] [.pf (nn iv3), .ev 0] <|
.guard [iv3 < a0.Heard.length, AllP [(decide ((a0.Heard.getD iv3 default) > (a0.Granted.getD iv3 default))) = false] → (iv3 < a0.Asked.length)] <|
.reg 13 [] [] [.pf (nn iv3), .ev 0, .pf (p := AllP [(decide ((a0.Heard.getD iv3 default) > (a0.Granted.getD iv3 default))) = false] → ((0 : Int) ≤ (iv3 : Int))) (fun _ => (Int.natCast_nonneg _)), .ev 1] <|
.ite (bif (decide ((a0.Heard.getD iv3 default) > (a0.Granted.getD iv3 default))) then true else (decide ((a0.Asked.getD iv3 default) > (a0.Granted.getD iv3 default)))) (
.ret [] (.ret false)) (
.ret [] (.cont ()))
def S_rights_valid (a0 : TApiPot) (a1 : Int) : Scr Tryd.prog R_rights_valid R_rights_valid :=
.call (@F_rights_place_ok a0.Code a0.Year) fun rv4 cv4 =>
.calld [(!rv4) = false] default (@F_rights_among_ok a0.Total (-1000000000000000) 1000000000000000) fun rv5 cv5 =>
.reg 1 [] [(4, hc cv4 [] true), (9, hc cv5 [] true)] [.cl 2 cv4 [] 1 true, .clg 0 [(!rv4) = false] cv5 [] 1 true] <|
.ite (bif (!rv4) then true else (!rv5)) (
.ret [] false) (
.reg 4 [] [(8, hv (AV.d (eL (eL (DV.i .i64)) ([a0.Granted, a0.Heard, a0.Asked, a0.Used] : List (List Int)))))] [.pf (leV_lit (eL (DV.i .i64)) ([a0.Granted, a0.Heard, a0.Asked, a0.Used] : List (List Int)))] <|
.range 4 4 rfl (.why (.pf (p := 4 < 2 ^ 63) (by decide))) 32 [1, 2, 5, 30, 31] (fun (_ : Unit) => []) (fun (_ : Unit) => []) () (S_rights_valid_b1 a0 a1) (fun (_ : Unit) => 
.range (a0.Granted.length : Int) a0.Granted.length rfl (.slot 47) 49 [2, 47, 48] (fun (_ : Unit) => []) (fun (_ : Unit) => []) () (S_rights_valid_b2 a0) (fun (_ : Unit) => 
.call (@F_rights_sum_ok a0.Granted) fun rv6 cv6 =>
.reg 16 [] [(2, hc cv6 [] true)] [.cl 0 cv6 [] 1 true] <|
.ret [] (decide (rv6 ≤ 1000000000000000))) id) id)
def F_rights_valid (a0 : TApiPot) (a1 : Int) : Option R_rights_valid := (S_rights_valid a0 a1).den
set_option maxRecDepth 100000 in
theorem F_rights_valid_ok {a0 : TApiPot} {a1 : Int} (r : R_rights_valid) (h : F_rights_valid a0 a1 = some r) : CallOk Tryd.prog 40 [(AV.d (TApiPot.e a0)), (vi a1)] [] (V_rights_valid r) (L_rights_valid r) := fOk (s := S_rights_valid a0 a1) Tryd.func40 rfl (by kernel_rfl) h
/-! 72 -/
abbrev R_cmp_isNaN_string := Bool
def V_cmp_isNaN_string (x : R_cmp_isNaN_string) : AV := (vb x)
def L_cmp_isNaN_string (_ : R_cmp_isNaN_string) : List Ob := []
def S_cmp_isNaN_string (a0 : List UInt8) : Scr Tryd.prog R_cmp_isNaN_string R_cmp_isNaN_string :=
.ret [] (!(a0 == a0))
def F_cmp_isNaN_string (a0 : List UInt8) : Option R_cmp_isNaN_string := (S_cmp_isNaN_string a0).den
set_option maxRecDepth 100000 in
theorem F_cmp_isNaN_string_ok {a0 : List UInt8} (r : R_cmp_isNaN_string) (h : F_cmp_isNaN_string a0 = some r) : CallOk Tryd.prog 72 [(AV.d (DV.str a0))] [] (V_cmp_isNaN_string r) (L_cmp_isNaN_string r) := fOk (s := S_cmp_isNaN_string a0) Tryd.func72 rfl (by kernel_rfl) h
/-! 59 -/
abbrev R_cmp_Compare_string := Int
def V_cmp_Compare_string (x : R_cmp_Compare_string) : AV := (vi x)
def L_cmp_Compare_string (_ : R_cmp_Compare_string) : List Ob := []
def S_cmp_Compare_string (a0 : List UInt8) (a1 : List UInt8) : Scr Tryd.prog R_cmp_Compare_string R_cmp_Compare_string :=
.call (@F_cmp_isNaN_string_ok a0) fun rv1 cv1 =>
.reg 1 [] [(1, hc cv1 [] true)] [.cl 0 cv1 [] 0 true] <|
.call (@F_cmp_isNaN_string_ok a1) fun rv2 cv2 =>
.reg 2 [] [(1, hc cv2 [] true)] [.cl 0 cv2 [] 0 true] <|
.ite rv1 (
.ite rv2 (
.ret [] 0) (
.ret [] (-1))) (
.ite rv2 (
.ret [] 1) (
.ite (Op.bytesLess a0 a1) (
.ret [] (-1)) (
.ite (!(Op.bytesLess a0 a1 || a0 == a1)) (
.ret [] 1) (
.ret [] 0))))
def F_cmp_Compare_string (a0 : List UInt8) (a1 : List UInt8) : Option R_cmp_Compare_string := (S_cmp_Compare_string a0 a1).den
set_option maxRecDepth 100000 in
theorem F_cmp_Compare_string_ok {a0 : List UInt8} {a1 : List UInt8} (r : R_cmp_Compare_string) (h : F_cmp_Compare_string a0 a1 = some r) : CallOk Tryd.prog 59 [(AV.d (DV.str a0)), (AV.d (DV.str a1))] [] (V_cmp_Compare_string r) (L_cmp_Compare_string r) := fOk (s := S_cmp_Compare_string a0 a1) Tryd.func59 rfl (by kernel_rfl) h
/-! 61 -/
abbrev R_cmp_isNaN_int := Bool
def V_cmp_isNaN_int (x : R_cmp_isNaN_int) : AV := (vb x)
def L_cmp_isNaN_int (_ : R_cmp_isNaN_int) : List Ob := []
def S_cmp_isNaN_int (a0 : Int) : Scr Tryd.prog R_cmp_isNaN_int R_cmp_isNaN_int :=
.ret [] (a0 != a0)
def F_cmp_isNaN_int (a0 : Int) : Option R_cmp_isNaN_int := (S_cmp_isNaN_int a0).den
set_option maxRecDepth 100000 in
theorem F_cmp_isNaN_int_ok {a0 : Int} (r : R_cmp_isNaN_int) (h : F_cmp_isNaN_int a0 = some r) : CallOk Tryd.prog 61 [(vi a0)] [] (V_cmp_isNaN_int r) (L_cmp_isNaN_int r) := fOk (s := S_cmp_isNaN_int a0) Tryd.func61 rfl (by kernel_rfl) h
/-! 46 -/
abbrev R_cmp_Compare_int := Int
def V_cmp_Compare_int (x : R_cmp_Compare_int) : AV := (vi x)
def L_cmp_Compare_int (_ : R_cmp_Compare_int) : List Ob := []
def S_cmp_Compare_int (a0 : Int) (a1 : Int) : Scr Tryd.prog R_cmp_Compare_int R_cmp_Compare_int :=
.call (@F_cmp_isNaN_int_ok a0) fun rv1 cv1 =>
.reg 1 [] [(1, hc cv1 [] true)] [.cl 0 cv1 [] 0 true] <|
.call (@F_cmp_isNaN_int_ok a1) fun rv2 cv2 =>
.reg 2 [] [(1, hc cv2 [] true)] [.cl 0 cv2 [] 0 true] <|
.ite rv1 (
.ite rv2 (
.ret [] 0) (
.ret [] (-1))) (
.ite rv2 (
.ret [] 1) (
.ite (decide (a0 < a1)) (
.ret [] (-1)) (
.ite (decide (a0 > a1)) (
.ret [] 1) (
.ret [] 0))))
def F_cmp_Compare_int (a0 : Int) (a1 : Int) : Option R_cmp_Compare_int := (S_cmp_Compare_int a0 a1).den
set_option maxRecDepth 100000 in
theorem F_cmp_Compare_int_ok {a0 : Int} {a1 : Int} (r : R_cmp_Compare_int) (h : F_cmp_Compare_int a0 a1 = some r) : CallOk Tryd.prog 46 [(vi a0), (vi a1)] [] (V_cmp_Compare_int r) (L_cmp_Compare_int r) := fOk (s := S_cmp_Compare_int a0 a1) Tryd.func46 rfl (by kernel_rfl) h
/-! 60 -/
abbrev R_slices_Compare_int := Int
def V_slices_Compare_int (x : R_slices_Compare_int) : AV := (vi x)
def L_slices_Compare_int (_ : R_slices_Compare_int) : List Ob := []
def S_slices_Compare_int_b1 (a0 : (List Int)) (a1 : (List Int)) (iv1 : Nat) (_ : Unit) : Scr Tryd.prog R_slices_Compare_int (Step (Unit) R_slices_Compare_int) :=
.reg 3 [] [] [.pf (nn iv1), .ev 0] <|
.ite (decide ((iv1 : Int) ≥ (a1.length : Int))) (
.ret [] (.ret 1)) (
.guard [iv1 < a1.length] <|
.reg 6 [] [] [.pf (nn iv1), .ev 0] <|
.call (@F_cmp_Compare_int_ok (a0.getD iv1 default) (a1.getD iv1 default)) fun rv2 cv2 =>
.reg 7 [] [(2, hc cv2 [] true)] [.cl 0 cv2 [] 0 true] <|
.ite (rv2 != 0) (
.ret [] (.ret rv2)) (
.ret [] (.cont ())))
def S_slices_Compare_int (a0 : (List Int)) (a1 : (List Int)) : Scr Tryd.prog R_slices_Compare_int R_slices_Compare_int :=
.range (a0.length : Int) a0.length rfl (.slot 0) 11 [0, 1, 9, 10] (fun (_ : Unit) => []) (fun (_ : Unit) => []) () (S_slices_Compare_int_b1 a0 a1) (fun (_ : Unit) => 
.ite (decide ((a0.length : Int) < (a1.length : Int))) (
.ret [] (-1)) (
.ret [] 0)) id
def F_slices_Compare_int (a0 : (List Int)) (a1 : (List Int)) : Option R_slices_Compare_int := (S_slices_Compare_int a0 a1).den
set_option maxRecDepth 100000 in
theorem F_slices_Compare_int_ok {a0 : (List Int)} {a1 : (List Int)} (r : R_slices_Compare_int) (h : F_slices_Compare_int a0 a1 = some r) : CallOk Tryd.prog 60 [(vl a0), (vl a1)] [] (V_slices_Compare_int r) (L_slices_Compare_int r) := fOk (s := S_slices_Compare_int a0 a1) Tryd.func60 rfl (by kernel_rfl) h
/-! 45 -/
abbrev R_classification_Compare := Int
def V_classification_Compare (x : R_classification_Compare) : AV := (vi x)
def L_classification_Compare (_ : R_classification_Compare) : List Ob := []
def S_classification_Compare (a0 : List UInt8) (a1 : List UInt8) : Scr Tryd.prog R_classification_Compare R_classification_Compare :=
.call (@F_classification_Parts_ok a0) fun rv1 cv1 =>
.call (@F_classification_Parts_ok a1) fun rv2 cv2 =>
.reg 1 [] [(1, hc cv1 [] true), (3, hc cv2 [] true)] [.cl 1 cv1 [] 0 true, .cl 0 cv2 [] 0 true] <|
.ite (bif ((rv1.length : Int) == 0) then ((rv2.length : Int) == 0) else false) (
.call (@F_cmp_Compare_string_ok a0 a1) fun rv3 cv3 =>
.reg 3 [] [(2, hc cv3 [] true)] [.cl 0 cv3 [] 0 true] <|
.ret [] rv3) (
.call (@F_slices_Compare_int_ok rv1 rv2) fun rv4 cv4 =>
.reg 4 [] [(2, hc cv4 [] true)] [.cl 0 cv4 [] 0 true] <|
.ret [] rv4)
def F_classification_Compare (a0 : List UInt8) (a1 : List UInt8) : Option R_classification_Compare := (S_classification_Compare a0 a1).den
set_option maxRecDepth 100000 in
theorem F_classification_Compare_ok {a0 : List UInt8} {a1 : List UInt8} (r : R_classification_Compare) (h : F_classification_Compare a0 a1 = some r) : CallOk Tryd.prog 45 [(AV.d (DV.str a0)), (AV.d (DV.str a1))] [] (V_classification_Compare r) (L_classification_Compare r) := fOk (s := S_classification_Compare a0 a1) Tryd.func45 rfl (by kernel_rfl) h
/-! 44 -/
abbrev R_cmp_Or_int := Int
def V_cmp_Or_int (x : R_cmp_Or_int) : AV := (vi x)
def L_cmp_Or_int (_ : R_cmp_Or_int) : List Ob := []
def S_cmp_Or_int_b1 (a0 : (List Int)) (iv1 : Nat) (_ : Unit) : Scr Tryd.prog R_cmp_Or_int (Step (Unit) R_cmp_Or_int) :=
.reg 4 [] [] [.pf (nn iv1), .ev 0] <|
.ite ((a0.getD iv1 default) != 0) (
.ret [] (.ret (a0.getD iv1 default))) (
.ret [] (.cont ()))
def S_cmp_Or_int (a0 : (List Int)) : Scr Tryd.prog R_cmp_Or_int R_cmp_Or_int :=
.range (a0.length : Int) a0.length rfl (.slot 6) 8 [3, 6, 7] (fun (_ : Unit) => []) (fun (_ : Unit) => []) () (S_cmp_Or_int_b1 a0) (fun (_ : Unit) => 
.ret [] 0) id
def F_cmp_Or_int (a0 : (List Int)) : Option R_cmp_Or_int := (S_cmp_Or_int a0).den
set_option maxRecDepth 100000 in
theorem F_cmp_Or_int_ok {a0 : (List Int)} (r : R_cmp_Or_int) (h : F_cmp_Or_int a0 = some r) : CallOk Tryd.prog 44 [(vl a0)] [] (V_cmp_Or_int r) (L_cmp_Or_int r) := fOk (s := S_cmp_Or_int a0) Tryd.func44 rfl (by kernel_rfl) h
/-! 28 -/
abbrev R_rights_compare := Int
def V_rights_compare (x : R_rights_compare) : AV := (vi x)
def L_rights_compare (_ : R_rights_compare) : List Ob := []
def S_rights_compare (a0 : TApiPot) (a1 : TApiPot) : Scr Tryd.prog R_rights_compare R_rights_compare :=
.call (@F_classification_Compare_ok a0.Code a1.Code) fun rv1 cv1 =>
.call (@F_cmp_Compare_int_ok a0.Year a1.Year) fun rv2 cv2 =>
.call (@F_cmp_Or_int_ok ([rv1, rv2] : List Int)) fun rv3 cv3 =>
.reg 1 [] [(4, hc cv1 [] true), (9, hc cv2 [] true), (10, hv (vl ([rv1, rv2] : List Int))), (11, hc cv3 [] true)] [.cl 2 cv1 [] 2 true, .cl 1 cv2 [] 2 true, .pf (leV_lit (DV.i .i64) ([rv1, rv2] : List Int)), .cl 0 cv3 [] 2 true] <|
.ret [] rv3
def F_rights_compare (a0 : TApiPot) (a1 : TApiPot) : Option R_rights_compare := (S_rights_compare a0 a1).den
set_option maxRecDepth 100000 in
theorem F_rights_compare_ok {a0 : TApiPot} {a1 : TApiPot} (r : R_rights_compare) (h : F_rights_compare a0 a1 = some r) : CallOk Tryd.prog 28 [(AV.d (TApiPot.e a0)), (AV.d (TApiPot.e a1))] [] (V_rights_compare r) (L_rights_compare r) := fOk (s := S_rights_compare a0 a1) Tryd.func28 rfl (by kernel_rfl) h
/-! 24 -/
theorem cz1 : OLe (bx (DV.agg [(DV.str ([])), (DV.i .i64 0), (DV.i .i64 0), Z0, Z0, Z0, Z0])) (bx (TApiPot.e (⟨[], 0, 0, [], [], [], []⟩ : TApiPot))) := oLe_box (DLe.agg (DLeL.cons (DLe.refl _) (DLeL.cons (DLe.refl _) (DLeL.cons (DLe.refl _) (DLeL.cons DLe.sl0 (DLeL.cons DLe.sl0 (DLeL.cons DLe.sl0 (DLeL.cons DLe.sl0 DLeL.nil))))))))
abbrev R_rights_Valid := Bool
def V_rights_Valid (x : R_rights_Valid) : AV := (vb x)
def L_rights_Valid (_ : R_rights_Valid) : List Ob := []
def S_rights_Valid_b1 (a0 : TApiTreasury) (iv1 : Nat) (_ : Unit) : Scr Tryd.prog R_rights_Valid (Step (Unit) R_rights_Valid) :=
.reg 5 [] [(3, { obs := [(1, (bx (TApiPot.e (⟨[], 0, 0, [], [], [], []⟩ : TApiPot))))] })] [.pf (nn iv1), .ev 0, .pf cz1] <|
.call (@F_rights_valid_ok (a0.Pots.getD iv1 default) a0.Offices) fun rv2 cv2 =>
.calld [(decide ((iv1 : Int) > 0)) = true, (!rv2) = false] default (@F_rights_compare_ok (a0.Pots.getD (((IntKind.i64.wrap ((iv1 : Int) - 1))).toNat) default) (a0.Pots.getD iv1 default)) fun rv3 cv3 =>
.guard [AllP [(decide ((iv1 : Int) > 0)) = true, (!rv2) = false] → ((0 : Int) ≤ (IntKind.i64.wrap ((iv1 : Int) - 1))), AllP [(decide ((iv1 : Int) > 0)) = true, (!rv2) = false] → (((IntKind.i64.wrap ((iv1 : Int) - 1))).toNat < a0.Pots.length)] <|
.reg 6 [] [(3, hc cv2 [] true), (16, hc cv3 [] true)] [.cl 4 cv2 [] 2 true, .ev 0, .ev 1, .clg 2 [(decide ((iv1 : Int) > 0)) = true, (!rv2) = false] cv3 [] 2 true] <|
.ite (bif (!rv2) then true else (bif (decide ((iv1 : Int) > 0)) then (decide (rv3 ≥ 0)) else false)) (
.ret [] (.ret false)) (
.ret [] (.cont ()))
def S_rights_Valid (a0 : TApiTreasury) : Scr Tryd.prog R_rights_Valid R_rights_Valid :=
.call (@F_rights_among_ok a0.Offices 1 6) fun rv4 cv4 =>
.reg 1 [] [(2, hc cv4 [] true)] [.cl 0 cv4 [] 1 true] <|
.ite (bif (!rv4) then true else (decide ((a0.Pots.length : Int) > 60))) (
.ret [] false) (
.range (a0.Pots.length : Int) a0.Pots.length rfl (.slot 16) 18 [1, 16, 17] (fun (_ : Unit) => []) (fun (_ : Unit) => []) () (S_rights_Valid_b1 a0) (fun (_ : Unit) => 
.ret [] true) id)
def F_rights_Valid (a0 : TApiTreasury) : Option R_rights_Valid := (S_rights_Valid a0).den
set_option maxRecDepth 100000 in
theorem F_rights_Valid_ok {a0 : TApiTreasury} (r : R_rights_Valid) (h : F_rights_Valid a0 = some r) : CallOk Tryd.prog 24 [(AV.d (TApiTreasury.e a0))] [] (V_rights_Valid r) (L_rights_Valid r) := fOk (s := S_rights_Valid a0) Tryd.func24 rfl (by kernel_rfl) h
/-! 49 -/
theorem cz2 : ∀ k, k < 0 → (DV.b false).wd = 1 := fun _ h => absurd h (Nat.not_lt_zero _)
abbrev R_slices_Clone_int := (List Int)
def V_slices_Clone_int (x : R_slices_Clone_int) : AV := (vl x)
def L_slices_Clone_int (_ : R_slices_Clone_int) : List Ob := []
def S_slices_Clone_int (a0 : (List Int)) : Scr Tryd.prog R_slices_Clone_int R_slices_Clone_int :=
.reg 0 [] [] [] <|
.nils 0 (
.guard [(0 + a0.length) * (2 * 8) ≤ 2 ^ 48] <|
.reg 1 [] [] [] <|
.lev 0 (vl a0) (.pf (lvQ true a0.length fun j => (DV.i .i64 (a0.getD j default)))) <|
.br true (.pf (p := true = true) rfl) <|
.reg 2 [] [] [] <|
.lev 2 (vl a0) (.der (fun (h : a0.length = 0) => lvZ (DV.i .i64) a0 h) 1) <|
.ret [] a0) (
.reg 1 [] [] [] <|
.lev 0 (vl a0) (.pf (lvQ false a0.length fun j => (DV.i .i64 (a0.getD j default)))) <|
.br false (.pf (p := false = false) rfl) <|
.guard [(0 + a0.length) * (2 * 8) ≤ 2 ^ 48] <|
.reg 3 [] [(2, hv (vl a0))] [.pf (p := ∀ k, k < a0.length → AV.d ((DV.i .i64) (a0.getD k default)) = AV.d ((DV.i .i64) (a0.getD k default)) ∧ ((DV.i .i64) (a0.getD k default)).wd = 1) (fun _ _ => ⟨rfl, rfl⟩), .pf cz2, .ev 0, .pf (leV_app0 (e := (DV.i .i64)) (x := a0))] <|
.ret [] a0)
def F_slices_Clone_int (a0 : (List Int)) : Option R_slices_Clone_int := (S_slices_Clone_int a0).den
set_option maxRecDepth 100000 in
theorem F_slices_Clone_int_ok {a0 : (List Int)} (r : R_slices_Clone_int) (h : F_slices_Clone_int a0 = some r) : CallOk Tryd.prog 49 [(vl a0)] [] (V_slices_Clone_int r) (L_slices_Clone_int r) := fOk (s := S_slices_Clone_int a0) Tryd.func49 rfl (by kernel_rfl) h
/-! 30 -/
abbrev R_rights_copied := TApiPot
def V_rights_copied (x : R_rights_copied) : AV := (AV.d (TApiPot.e x))
def L_rights_copied (_ : R_rights_copied) : List Ob := []
def S_rights_copied (a0 : TApiPot) : Scr Tryd.prog R_rights_copied R_rights_copied :=
.reg 0 [] [(1, { obs := [(1, (bx (TApiPot.e (⟨[], 0, 0, [], [], [], []⟩ : TApiPot))))] })] [.pf cz1] <|
.call (@F_slices_Clone_int_ok a0.Granted) fun rv1 cv1 =>
.call (@F_slices_Clone_int_ok a0.Heard) fun rv2 cv2 =>
.call (@F_slices_Clone_int_ok a0.Asked) fun rv3 cv3 =>
.call (@F_slices_Clone_int_ok a0.Used) fun rv4 cv4 =>
.reg 1 [13, 15, 17, 19] [(2, hc cv1 [] true), (5, hc cv2 [] true), (8, hc cv3 [] true), (11, hc cv4 [] true)] [.cl 3 cv1 [] 2 true, .cl 2 cv2 [] 2 true, .cl 1 cv3 [] 2 true, .cl 0 cv4 [] 2 true] <|
.ret [] (⟨a0.Code, a0.Year, a0.Total, rv1, rv2, rv3, rv4⟩ : TApiPot)
def F_rights_copied (a0 : TApiPot) : Option R_rights_copied := (S_rights_copied a0).den
set_option maxRecDepth 100000 in
theorem F_rights_copied_ok {a0 : TApiPot} (r : R_rights_copied) (h : F_rights_copied a0 = some r) : CallOk Tryd.prog 30 [(AV.d (TApiPot.e a0))] [] (V_rights_copied r) (L_rights_copied r) := fOk (s := S_rights_copied a0) Tryd.func30 rfl (by kernel_rfl) h
/-! 26 -/
theorem cz3 : OLe (bx (DV.agg [(DV.i .i64 0), Z0])) (bx (TApiTreasury.e (⟨0, []⟩ : TApiTreasury))) := oLe_box (DLe.agg (DLeL.cons (DLe.refl _) (DLeL.cons DLe.sl0 DLeL.nil)))
abbrev R_rights_fresh_rw := Int × (List TApiPot)
def V_rights_fresh_rw (x : R_rights_fresh_rw) : AV := (AV.agg [(vi x.1), (AV.ref 2 x.2.length 0 x.2.length)])
def L_rights_fresh_rw (x : R_rights_fresh_rw) : List Ob := [Ob.dead, (Ob.box (AV.agg [(vi x.1), (AV.ref 2 x.2.length 0 x.2.length)])), (eS 7 TApiPot.e x.2)]
def S_rights_fresh_rw_b1 (a0 : TApiTreasury) (iv1 : Nat) (sv2 : Int × (List TApiPot)) : Scr Tryd.prog R_rights_fresh_rw (Step (Int × (List TApiPot)) R_rights_fresh_rw) :=
.reg 5 [] [(2, { obs := [(3, (bx (TApiPot.e (⟨[], 0, 0, [], [], [], []⟩ : TApiPot))))] })] [.pf (nn iv1), .ev 0, .pf cz1] <|
.call (@F_rights_copied_ok (a0.Pots.getD iv1 default)) fun rv3 cv3 =>
.guard [(sv2.2.length + 1) * (2 * 128) ≤ 2 ^ 48] <|
.reg 6 [5, 7] [(3, hc cv3 [] true), (4, hv (AV.d (eL TApiPot.e ([rv3] : List TApiPot)))), (5, { h := .obj, cast := some (AV.ref 2 ((sv2.2 ++ ([rv3] : List TApiPot)).length) 0 ((sv2.2 ++ ([rv3] : List TApiPot)).length)), obs := [(2, (eS 7 TApiPot.e (sv2.2 ++ ([rv3] : List TApiPot))))] })] [.cl 1 cv3 [] 4 true, .pf (leV_lit TApiPot.e ([rv3] : List TApiPot)), .pf (Eq.refl sv2.2.length), .pf (Eq.refl sv2.2.length), .pf (p := ∀ k, k < 1 → (AV.d (TApiPot.e (([rv3] : List TApiPot).getD k default))).wd = 7) (fun _ _ => rfl), .ev 0, .pf (leV_app (o := 2) (l := sv2.2) (x := ([rv3] : List TApiPot))), .pf (oLe_app (sz := 7) (e := TApiPot.e) (l := sv2.2) (x := ([rv3] : List TApiPot)))] <|
.ret [] (.cont (sv2.1, (sv2.2 ++ ([rv3] : List TApiPot))))
def S_rights_fresh_rw (a0 : TApiTreasury) : Scr Tryd.prog R_rights_fresh_rw R_rights_fresh_rw :=
.reg 0 [] [(1, { obs := [(1, (bx (TApiTreasury.e (⟨0, []⟩ : TApiTreasury))))] })] [.pf cz3] <|
.reg 2 [] [] [] <|
.sh (A := True) (.pf trivial) [(1, (vp 0)), (2, (vp 1)), (3, (AV.d (eL TApiPot.e a0.Pots)))] [(1, (vp 0)), (2, (vp 1)), (3, (AV.d (eL TApiPot.e a0.Pots)))] [(Ob.box (AV.agg [(vi a0.Offices), (AV.full 0 fun _ => DV.b false)])), (bx (TApiTreasury.e (⟨0, []⟩ : TApiTreasury)))] [(Ob.box (AV.agg [(vi a0.Offices), (AV.ref 2 0 0 0)])), (bx (TApiTreasury.e (⟨0, []⟩ : TApiTreasury))), (eS 7 TApiPot.e ([] : List TApiPot))] (fun _ => (shift_born (sz := 7) (f := fun j => AV.d (TApiPot.e (([] : List TApiPot).getD j default))) (.box _ _ _ _ _ (Nat.ne_of_beq_eq_false rfl) (TrV.agg (TrL.cons (TrV.keep _) (TrL.cons TrV.born TrL.nil))) (.keep _ _ _ _ (Nat.ne_of_beq_eq_false rfl) (.nil _))))) (trF_at (k := 0) rfl (TrS.keep _) (trF_at (k := 1) rfl (TrS.keep _) (trF_at (k := 2) rfl (TrS.keep _) trF_nil))) <|
.range (a0.Pots.length : Int) a0.Pots.length rfl (.slot 9) 11 [1, 2, 9, 10] (fun (_ : Int × (List TApiPot)) => []) (fun (sv2 : Int × (List TApiPot)) => [(0, (Ob.box (AV.agg [(vi sv2.1), (AV.ref 2 sv2.2.length 0 sv2.2.length)]))), (2, (eS 7 TApiPot.e sv2.2))]) (a0.Offices, ([] : List TApiPot)) (S_rights_fresh_rw_b1 a0) (fun (sv2 : Int × (List TApiPot)) => 
.reg 8 [] [] [] <|
.kill 0 <|
.ret [] (sv2.1, sv2.2)) id
def F_rights_fresh_rw (a0 : TApiTreasury) : Option R_rights_fresh_rw := (S_rights_fresh_rw a0).den
set_option maxRecDepth 100000 in
theorem F_rights_fresh_rw_ok {a0 : TApiTreasury} (r : R_rights_fresh_rw) (h : F_rights_fresh_rw a0 = some r) : CallOk Tryd.prog 26 [(AV.d (TApiTreasury.e a0))] [] (V_rights_fresh_rw r) (L_rights_fresh_rw r) := fOk (s := S_rights_fresh_rw a0) Tryd.func26 rfl (by kernel_rfl) h
/-! 27 -/
abbrev R_slices_BSF_Pot_rights_compare := Int × Bool
def V_slices_BSF_Pot_rights_compare (x : R_slices_BSF_Pot_rights_compare) : AV := (AV.tup [(vi x.1), (vb x.2)])
def L_slices_BSF_Pot_rights_compare (p0 : (List TApiPot)) (_ : R_slices_BSF_Pot_rights_compare) : List Ob := [(eS 7 TApiPot.e p0)]
def S_slices_BSF_Pot_rights_compare_b1 (a1 : TApiPot) (p0 : (List TApiPot)) (sv1 : Int × Int) : Scr Tryd.prog R_slices_BSF_Pot_rights_compare (Step (Int × Int) R_slices_BSF_Pot_rights_compare) :=
.ite (decide (sv1.1 < sv1.2)) (
.reg 4 [] [] [.pf (p := (0 : Int) ≤ 1) (by decide)] <|
.call (@F_rights_compare_ok (p0.getD (0 + ((IntKind.i64.wrap ((IntKind.u64.wrap (IntKind.i64.wrap (sv1.1 + sv1.2))).fdiv (2 ^ (min (1 : Int).toNat IntKind.u64.bits))))).toNat) default) a1) fun rv2 cv2 =>
.guard [(0 : Int) ≤ (IntKind.i64.wrap ((IntKind.u64.wrap (IntKind.i64.wrap (sv1.1 + sv1.2))).fdiv (2 ^ (min (1 : Int).toNat IntKind.u64.bits)))), ((IntKind.i64.wrap ((IntKind.u64.wrap (IntKind.i64.wrap (sv1.1 + sv1.2))).fdiv (2 ^ (min (1 : Int).toNat IntKind.u64.bits))))).toNat < p0.length, (0 + ((IntKind.i64.wrap ((IntKind.u64.wrap (IntKind.i64.wrap (sv1.1 + sv1.2))).fdiv (2 ^ (min (1 : Int).toNat IntKind.u64.bits))))).toNat) < p0.length] <|
.reg 5 [] [(6, hc cv2 [] true)] [.pf (Eq.refl p0.length), .ev 0, .ev 1, .pf (Eq.refl p0.length), .ev 2, .cl 3 cv2 [] 2 true] <|
.ite (decide (rv2 < 0)) (
.ret [] (.cont ((IntKind.i64.wrap ((IntKind.i64.wrap ((IntKind.u64.wrap (IntKind.i64.wrap (sv1.1 + sv1.2))).fdiv (2 ^ (min (1 : Int).toNat IntKind.u64.bits)))) + 1)), sv1.2))) (
.ret [] (.cont (sv1.1, (IntKind.i64.wrap ((IntKind.u64.wrap (IntKind.i64.wrap (sv1.1 + sv1.2))).fdiv (2 ^ (min (1 : Int).toNat IntKind.u64.bits)))))))) (
.ret [] (.brk (sv1.1, sv1.2)))
def S_slices_BSF_Pot_rights_compare (a1 : TApiPot) (p0 : (List TApiPot)) : Scr Tryd.prog R_slices_BSF_Pot_rights_compare R_slices_BSF_Pot_rights_compare :=
.iter [0, 2, 4, 8] (fun (sv1 : Int × Int) => [(9, (vi sv1.1)), (10, (vi sv1.2))]) (fun (_ : Int × Int) => []) (0, (p0.length : Int)) (S_slices_BSF_Pot_rights_compare_b1 a1 p0) (fun (sv1 : Int × Int) =>
.calld [(decide (sv1.1 < (p0.length : Int))) = true] default (@F_rights_compare_ok (p0.getD (0 + (sv1.1).toNat) default) a1) fun rv3 cv3 =>
.guard [AllP [(decide (sv1.1 < (p0.length : Int))) = true] → ((0 : Int) ≤ sv1.1), AllP [(decide (sv1.1 < (p0.length : Int))) = true] → ((sv1.1).toNat < p0.length), AllP [(decide (sv1.1 < (p0.length : Int))) = true] → ((0 + (sv1.1).toNat) < p0.length)] <|
.reg 8 [] [(11, hc cv3 [] true)] [.pf (p := AllP [(decide (sv1.1 < (p0.length : Int))) = true] → (p0.length = p0.length)) (fun _ => rfl), .ev 0, .ev 1, .pf (p := AllP [(decide (sv1.1 < (p0.length : Int))) = true] → (p0.length = p0.length)) (fun _ => rfl), .ev 2, .clg 3 [(decide (sv1.1 < (p0.length : Int))) = true] cv3 [] 2 true] <|
.ret [] (sv1.1, (bif (decide (sv1.1 < (p0.length : Int))) then (rv3 == 0) else false))) id
def F_slices_BSF_Pot_rights_compare (a1 : TApiPot) (p0 : (List TApiPot)) : Option R_slices_BSF_Pot_rights_compare := (S_slices_BSF_Pot_rights_compare a1 p0).den
set_option maxRecDepth 100000 in
theorem F_slices_BSF_Pot_rights_compare_ok {a1 : TApiPot} {p0 : (List TApiPot)} (r : R_slices_BSF_Pot_rights_compare) (h : F_slices_BSF_Pot_rights_compare a1 p0 = some r) : CallOk Tryd.prog 27 [(AV.ref 0 p0.length 0 p0.length), (AV.d (TApiPot.e a1)), (AV.fn 28 [])] [(eS 7 TApiPot.e p0)] (V_slices_BSF_Pot_rights_compare r) (L_slices_BSF_Pot_rights_compare p0 r) := fOk (s := S_slices_BSF_Pot_rights_compare a1 p0) Tryd.func27 rfl (by kernel_rfl) h
/-! 29 -/
abbrev R_slices_Insert_Pot := List TApiPot
def V_slices_Insert_Pot (x : R_slices_Insert_Pot) : AV := .ref 0 x.length 0 x.length
def L_slices_Insert_Pot (p1 : List TApiPot) (x : R_slices_Insert_Pot) : List Ob := [eS 7 TApiPot.e x, eS 7 TApiPot.e p1]
def F_slices_Insert_Pot (a1 : Int) (p0 p1 : List TApiPot) : Option R_slices_Insert_Pot := match p1 with
  | [y] => guardP (0 ≤ a1 ∧ a1.toNat ≤ p0.length ∧ (p0.length + 1) * (4 * 128) ≤ 2 ^ 48) (some (insL p0 a1.toNat y))
  | _ => none
theorem F_slices_Insert_Pot_ok {a1 : Int} {p0 p1 : List TApiPot} (r : R_slices_Insert_Pot) (h : F_slices_Insert_Pot a1 p0 p1 = some r) : CallOk Tryd.prog 29 [(AV.ref 0 p0.length 0 p0.length), (AV.d (.i .i64 a1)), (AV.ref 1 p1.length 0 p1.length)] [(eS 7 TApiPot.e p0), (eS 7 TApiPot.e p1)] (V_slices_Insert_Pot r) (L_slices_Insert_Pot p1 r) := by
  unfold F_slices_Insert_Pot at h
  split at h
  · rename_i y
    obtain ⟨⟨h1, h2, h3⟩, h⟩ := guardP_some h
    obtain rfl := Option.some.inj h
    obtain ⟨i, rfl⟩ : ∃ i : Nat, a1 = (i : Int) := ⟨a1.toNat, (Int.toNat_of_nonneg h1).symm⟩
    exact Ins29.ins_ok (fun _ => rfl) h2 h3
  · cases h
/-! 13 -/
theorem cz4 : LeV (AV.d (DV.agg [(DV.i .i64 0), Z0])) (AV.d (TApiTreasury.e (⟨0, []⟩ : TApiTreasury))) := leV_dle rfl (DLe.agg (DLeL.cons (DLe.refl _) (DLeL.cons DLe.sl0 DLeL.nil)))
abbrev R_rights_Set := TApiTreasury × Int
def V_rights_Set (x : R_rights_Set) : AV := (AV.tup [(AV.d (TApiTreasury.e x.1)), (vi x.2)])
def L_rights_Set (_ : R_rights_Set) : List Ob := []
def S_rights_Set (a0 : TApiTreasury) (a1 : List UInt8) (a2 : Int) (a3 : Int) : Scr Tryd.prog R_rights_Set R_rights_Set :=
.reg 0 [] [(1, { obs := [(1, (bx (TApiTreasury.e (⟨0, []⟩ : TApiTreasury))))] })] [.pf cz3] <|
.call (@F_rights_Valid_ok a0) fun rv1 cv1 =>
.reg 1 [] [(1, hc cv1 [] true)] [.cl 0 cv1 [] 2 true] <|
.ite (!rv1) (
.reg 2 [] [(0, hv (AV.d (TApiTreasury.e (⟨0, []⟩ : TApiTreasury))))] [.pf cz4] <|
.ret [] ((⟨0, []⟩ : TApiTreasury), 1)) (
.call (@F_classification_Parts_ok a1) fun rv2 cv2 =>
.reg 3 [] [(1, hc cv2 [] true)] [.cl 0 cv2 [] 2 true] <|
.ite ((rv2.length : Int) == 0) (
.reg 4 [] [(0, hv (AV.d (TApiTreasury.e (⟨0, []⟩ : TApiTreasury))))] [.pf cz4] <|
.ret [] ((⟨0, []⟩ : TApiTreasury), 5)) (
.call (@F_rights_place_ok a1 a2) fun rv3 cv3 =>
.calld [(!rv3) = false] default (@F_rights_among_ok a3 (-1000000000000000) 1000000000000000) fun rv4 cv4 =>
.reg 5 [] [(2, hc cv3 [] true), (6, hc cv4 [] true)] [.cl 2 cv3 [] 2 true, .clg 0 [(!rv3) = false] cv4 [] 2 true] <|
.ite (bif (!rv3) then true else (!rv4)) (
.reg 6 [] [(0, hv (AV.d (TApiTreasury.e (⟨0, []⟩ : TApiTreasury))))] [.pf cz4] <|
.ret [] ((⟨0, []⟩ : TApiTreasury), 2)) (
.call (@F_rights_fresh_rw_ok a0) fun rv5 cv5 =>
.reg 7 [] [(1, hc cv5 [] false)] [.cl 0 cv5 [] 2 false] <|
.kill 3 <|
.reg 8 [] [(2, hv (AV.d (TApiPot.e (⟨a1, a2, 0, [], [], [], []⟩ : TApiPot)))), (3, { obs := [(5, (bx (TApiPot.e (⟨[], 0, 0, [], [], [], []⟩ : TApiPot))))] })] [.pf (p := LeV (AV.d (DV.agg [(DV.str a1), (DV.i .i64 a2), (DV.i .i64 0), Z0, Z0, Z0, Z0])) (AV.d (TApiPot.e (⟨a1, a2, 0, [], [], [], []⟩ : TApiPot)))) (leV_dle rfl (DLe.agg (DLeL.cons (DLe.refl _) (DLeL.cons (DLe.refl _) (DLeL.cons (DLe.refl _) (DLeL.cons DLe.sl0 (DLeL.cons DLe.sl0 (DLeL.cons DLe.sl0 (DLeL.cons DLe.sl0 DLeL.nil))))))))), .pf cz1] <|
.call (@F_slices_BSF_Pot_rights_compare_ok (⟨a1, a2, 0, [], [], [], []⟩ : TApiPot) rv5.2) fun rv6 cv6 =>
.reg 9 [] [(3, hc cv6 [4] true)] [.cl 0 cv6 [4] 6 true] <|
.cut none [3, 4, 8, 11] (fun (_ : Int × (List TApiPot) × TApiPot) => []) (fun (sv7 : Int × (List TApiPot) × TApiPot) => [(0, (Ob.box (AV.agg [(vi sv7.1), (AV.ref 4 sv7.2.1.length 0 sv7.2.1.length)]))), (4, (eS 7 TApiPot.e sv7.2.1)), (5, (bx (TApiPot.e sv7.2.2)))]) (
.ite (!rv6.2) (
.ite ((rv5.2.length : Int) == 60) (
.reg 12 [] [(0, hv (AV.d (TApiTreasury.e (⟨0, []⟩ : TApiTreasury))))] [.pf cz4] <|
.ret [] (.ret ((⟨0, []⟩ : TApiTreasury), 3))) (
.guard [(0 : Int) ≤ rv5.1, rv5.1 * 8 ≤ 2 ^ 47] <|
.reg 13 [] [(2, { cast := some (AV.ref 6 ((List.replicate rv5.1.toNat (0 : Int)).length) 0 ((List.replicate rv5.1.toNat (0 : Int)).length)), obs := [(6, (eS 1 (DV.i .i64) (List.replicate rv5.1.toNat (0 : Int))))] })] [.ev 0, .pf (p := rv5.1 ≤ rv5.1) (Int.le_refl _), .ev 1, .pf (leV_rep (o := 6) (k := rv5.1.toNat) (z := (0 : Int))), .pf (oLe_rep (sz := 1) (k := rv5.1.toNat) (e := (DV.i .i64)) (z := (0 : Int)))] <|
.guard [(List.replicate rv5.1.toNat (0 : Int)).length < 2 ^ 63] <|
.frz 6 (.ev 0) none [13] [] <|
.call (@F_rights_copied_ok (⟨(⟨a1, a2, 0, [], [], [], []⟩ : TApiPot).Code, (⟨a1, a2, 0, [], [], [], []⟩ : TApiPot).Year, (⟨a1, a2, 0, [], [], [], []⟩ : TApiPot).Total, (List.replicate rv5.1.toNat (0 : Int)), (List.replicate rv5.1.toNat (0 : Int)), (List.replicate rv5.1.toNat (0 : Int)), (List.replicate rv5.1.toNat (0 : Int))⟩ : TApiPot)) fun rv8 cv8 =>
.call (@F_slices_Insert_Pot_ok rv6.1 rv5.2 ([rv8] : List TApiPot)) fun rv9 cv9 =>
.reg 15 [5, 6, 8] [(4, hc cv8 [] true), (5, { h := .obj, obs := [(7, (eS 7 TApiPot.e ([rv8] : List TApiPot)))] }), (6, hc cv9 [4, 7] false)] [.cl 1 cv8 [] 7 true, .pf (oLe_lit (sz := 7) (e := TApiPot.e) (l := ([rv8] : List TApiPot))), .cl 0 cv9 [4, 7] 8 false] <|
.ret [] (.next (rv5.1, rv9, (⟨(⟨a1, a2, 0, [], [], [], []⟩ : TApiPot).Code, (⟨a1, a2, 0, [], [], [], []⟩ : TApiPot).Year, (⟨a1, a2, 0, [], [], [], []⟩ : TApiPot).Total, (List.replicate rv5.1.toNat (0 : Int)), (List.replicate rv5.1.toNat (0 : Int)), (List.replicate rv5.1.toNat (0 : Int)), (List.replicate rv5.1.toNat (0 : Int))⟩ : TApiPot))))) (
.ret [] (.next (rv5.1, rv5.2, (⟨a1, a2, 0, [], [], [], []⟩ : TApiPot))))) fun (sv7 : Int × (List TApiPot) × TApiPot) =>
.guard [(0 : Int) ≤ rv6.1, (rv6.1).toNat < sv7.2.1.length, (0 + (rv6.1).toNat) < sv7.2.1.length] <|
.reg 16 [] [(6, { obs := [(4, (eS 7 TApiPot.e (sv7.2.1.set (0 + (rv6.1).toNat) (⟨(sv7.2.1.getD (0 + (rv6.1).toNat) default).Code, (sv7.2.1.getD (0 + (rv6.1).toNat) default).Year, a3, (sv7.2.1.getD (0 + (rv6.1).toNat) default).Granted, (sv7.2.1.getD (0 + (rv6.1).toNat) default).Heard, (sv7.2.1.getD (0 + (rv6.1).toNat) default).Asked, (sv7.2.1.getD (0 + (rv6.1).toNat) default).Used⟩ : TApiPot))))] })] [.pf (Eq.refl sv7.2.1.length), .ev 0, .ev 1, .pf (Eq.refl sv7.2.1.length), .pf (Eq.refl sv7.2.1.length), .ev 2, .pf (oLe_set (sz := 7) (e := TApiPot.e) (l := sv7.2.1) (i := (0 + (rv6.1).toNat)) (x := (⟨(sv7.2.1.getD (0 + (rv6.1).toNat) default).Code, (sv7.2.1.getD (0 + (rv6.1).toNat) default).Year, a3, (sv7.2.1.getD (0 + (rv6.1).toNat) default).Granted, (sv7.2.1.getD (0 + (rv6.1).toNat) default).Heard, (sv7.2.1.getD (0 + (rv6.1).toNat) default).Asked, (sv7.2.1.getD (0 + (rv6.1).toNat) default).Used⟩ : TApiPot)) (fun _ => rfl))] <|
.cst (A := True) (.pf trivial) [(4, (vp 0)), (8, (vp 1))] [(4, (vp 0)), (8, (vp 1))] [(Ob.box (AV.agg [(vi sv7.1), (AV.ref 4 sv7.2.1.length 0 sv7.2.1.length)])), (bx (TApiTreasury.e (⟨0, []⟩ : TApiTreasury))), Ob.dead, Ob.dead, (eS 7 TApiPot.e (sv7.2.1.set (0 + (rv6.1).toNat) (⟨(sv7.2.1.getD (0 + (rv6.1).toNat) default).Code, (sv7.2.1.getD (0 + (rv6.1).toNat) default).Year, a3, (sv7.2.1.getD (0 + (rv6.1).toNat) default).Granted, (sv7.2.1.getD (0 + (rv6.1).toNat) default).Heard, (sv7.2.1.getD (0 + (rv6.1).toNat) default).Asked, (sv7.2.1.getD (0 + (rv6.1).toNat) default).Used⟩ : TApiPot))), (bx (TApiPot.e sv7.2.2))] [(Ob.box (AV.agg [(vi sv7.1), (AV.ref 4 ((sv7.2.1.set (0 + (rv6.1).toNat) (⟨(sv7.2.1.getD (0 + (rv6.1).toNat) default).Code, (sv7.2.1.getD (0 + (rv6.1).toNat) default).Year, a3, (sv7.2.1.getD (0 + (rv6.1).toNat) default).Granted, (sv7.2.1.getD (0 + (rv6.1).toNat) default).Heard, (sv7.2.1.getD (0 + (rv6.1).toNat) default).Asked, (sv7.2.1.getD (0 + (rv6.1).toNat) default).Used⟩ : TApiPot)).length) 0 ((sv7.2.1.set (0 + (rv6.1).toNat) (⟨(sv7.2.1.getD (0 + (rv6.1).toNat) default).Code, (sv7.2.1.getD (0 + (rv6.1).toNat) default).Year, a3, (sv7.2.1.getD (0 + (rv6.1).toNat) default).Granted, (sv7.2.1.getD (0 + (rv6.1).toNat) default).Heard, (sv7.2.1.getD (0 + (rv6.1).toNat) default).Asked, (sv7.2.1.getD (0 + (rv6.1).toNat) default).Used⟩ : TApiPot)).length))])), (bx (TApiTreasury.e (⟨0, []⟩ : TApiTreasury))), Ob.dead, Ob.dead, (eS 7 TApiPot.e (sv7.2.1.set (0 + (rv6.1).toNat) (⟨(sv7.2.1.getD (0 + (rv6.1).toNat) default).Code, (sv7.2.1.getD (0 + (rv6.1).toNat) default).Year, a3, (sv7.2.1.getD (0 + (rv6.1).toNat) default).Granted, (sv7.2.1.getD (0 + (rv6.1).toNat) default).Heard, (sv7.2.1.getD (0 + (rv6.1).toNat) default).Asked, (sv7.2.1.getD (0 + (rv6.1).toNat) default).Used⟩ : TApiPot))), (bx (TApiPot.e sv7.2.2))] (fun _ => ⟨by simp only, by simp only [List.length_set]⟩) <|
.guard [(sv7.2.1.set (0 + (rv6.1).toNat) (⟨(sv7.2.1.getD (0 + (rv6.1).toNat) default).Code, (sv7.2.1.getD (0 + (rv6.1).toNat) default).Year, a3, (sv7.2.1.getD (0 + (rv6.1).toNat) default).Granted, (sv7.2.1.getD (0 + (rv6.1).toNat) default).Heard, (sv7.2.1.getD (0 + (rv6.1).toNat) default).Asked, (sv7.2.1.getD (0 + (rv6.1).toNat) default).Used⟩ : TApiPot)).length < 2 ^ 63] <|
.reg 17 [] [] [] <|
.frz 4 (.ev 0) none [] [0, 1] <|
.ret [] ((⟨sv7.1, (sv7.2.1.set (0 + (rv6.1).toNat) (⟨(sv7.2.1.getD (0 + (rv6.1).toNat) default).Code, (sv7.2.1.getD (0 + (rv6.1).toNat) default).Year, a3, (sv7.2.1.getD (0 + (rv6.1).toNat) default).Granted, (sv7.2.1.getD (0 + (rv6.1).toNat) default).Heard, (sv7.2.1.getD (0 + (rv6.1).toNat) default).Asked, (sv7.2.1.getD (0 + (rv6.1).toNat) default).Used⟩ : TApiPot))⟩ : TApiTreasury), 0))))
def F_rights_Set (a0 : TApiTreasury) (a1 : List UInt8) (a2 : Int) (a3 : Int) : Option R_rights_Set := (S_rights_Set a0 a1 a2 a3).den
set_option maxRecDepth 100000 in
theorem F_rights_Set_ok {a0 : TApiTreasury} {a1 : List UInt8} {a2 : Int} {a3 : Int} (r : R_rights_Set) (h : F_rights_Set a0 a1 a2 a3 = some r) : CallOk Tryd.prog 13 [(AV.d (TApiTreasury.e a0)), (AV.d (DV.str a1)), (vi a2), (vi a3)] [] (V_rights_Set r) (L_rights_Set r) := fOk (s := S_rights_Set a0 a1 a2 a3) Tryd.func13 rfl (by kernel_rfl) h
/-! 53 -/
abbrev R_rights_find_1 := Bool
def V_rights_find_1 (x : R_rights_find_1) : AV := (vb x)
def L_rights_find_1 (p0 : List UInt8) (p1 : Int) (_ : R_rights_find_1) : List Ob := [(bx (DV.str p0)), (Ob.box (vi p1))]
def S_rights_find_1 (a0 : TApiPot) (p0 : List UInt8) (p1 : Int) : Scr Tryd.prog R_rights_find_1 R_rights_find_1 :=
.ret [] (bif (a0.Code == p0) then (a0.Year == p1) else false)
def F_rights_find_1 (a0 : TApiPot) (p0 : List UInt8) (p1 : Int) : Option R_rights_find_1 := (S_rights_find_1 a0 p0 p1).den
set_option maxRecDepth 100000 in
theorem F_rights_find_1_ok {a0 : TApiPot} {p0 : List UInt8} {p1 : Int} (r : R_rights_find_1) (h : F_rights_find_1 a0 p0 p1 = some r) : CallOk Tryd.prog 53 [(AV.d (TApiPot.e a0)), (vp 0), (vp 1)] [(bx (DV.str p0)), (Ob.box (vi p1))] (V_rights_find_1 r) (L_rights_find_1 p0 p1 r) := fOk (s := S_rights_find_1 a0 p0 p1) Tryd.func53 rfl (by kernel_rfl) h
/-! 52 -/
abbrev R_slices_IndexFunc_Pot_rights_find_1 := Int
def V_slices_IndexFunc_Pot_rights_find_1 (x : R_slices_IndexFunc_Pot_rights_find_1) : AV := (vi x)
def L_slices_IndexFunc_Pot_rights_find_1 (p0 : List UInt8) (p1 : Int) (_ : R_slices_IndexFunc_Pot_rights_find_1) : List Ob := [(bx (DV.str p0)), (Ob.box (vi p1))]
def S_slices_IndexFunc_Pot_rights_find_1_b1 (a0 : (List TApiPot)) (p0 : List UInt8) (p1 : Int) (iv1 : Nat) (_ : Unit) : Scr Tryd.prog R_slices_IndexFunc_Pot_rights_find_1 (Step (Unit) R_slices_IndexFunc_Pot_rights_find_1) :=
.call (@F_rights_find_1_ok (a0.getD iv1 default) p0 p1) fun rv2 cv2 =>
.reg 4 [] [(5, hc cv2 [0, 1] true)] [.pf (nn iv1), .ev 1, .cl 0 cv2 [0, 1] 2 true] <|
.ite rv2 (
.ret [] (.ret (iv1 : Int))) (
.ret [] (.cont ()))
def S_slices_IndexFunc_Pot_rights_find_1 (a0 : (List TApiPot)) (p0 : List UInt8) (p1 : Int) : Scr Tryd.prog R_slices_IndexFunc_Pot_rights_find_1 R_slices_IndexFunc_Pot_rights_find_1 :=
.range (a0.length : Int) a0.length rfl (.slot 0) 8 [0, 1, 7] (fun (_ : Unit) => []) (fun (_ : Unit) => []) () (S_slices_IndexFunc_Pot_rights_find_1_b1 a0 p0 p1) (fun (_ : Unit) => 
.ret [] (-1)) id
def F_slices_IndexFunc_Pot_rights_find_1 (a0 : (List TApiPot)) (p0 : List UInt8) (p1 : Int) : Option R_slices_IndexFunc_Pot_rights_find_1 := (S_slices_IndexFunc_Pot_rights_find_1 a0 p0 p1).den
set_option maxRecDepth 100000 in
theorem F_slices_IndexFunc_Pot_rights_find_1_ok {a0 : (List TApiPot)} {p0 : List UInt8} {p1 : Int} (r : R_slices_IndexFunc_Pot_rights_find_1) (h : F_slices_IndexFunc_Pot_rights_find_1 a0 p0 p1 = some r) : CallOk Tryd.prog 52 [(AV.d (eL TApiPot.e a0)), (AV.fn 53 [(vp 0), (vp 1)])] [(bx (DV.str p0)), (Ob.box (vi p1))] (V_slices_IndexFunc_Pot_rights_find_1 r) (L_slices_IndexFunc_Pot_rights_find_1 p0 p1 r) := fOk (s := S_slices_IndexFunc_Pot_rights_find_1 a0 p0 p1) Tryd.func52 rfl (by kernel_rfl) h
/-! 36 -/
abbrev R_rights_find := Int
def V_rights_find (x : R_rights_find) : AV := (vi x)
def L_rights_find (_ : R_rights_find) : List Ob := []
def S_rights_find (a0 : TApiTreasury) (a1 : List UInt8) (a2 : Int) : Scr Tryd.prog R_rights_find R_rights_find :=
.call (@F_slices_IndexFunc_Pot_rights_find_1_ok a0.Pots a1 a2) fun rv1 cv1 =>
.reg 1 [] [(3, hc cv1 [1, 2] true)] [.cl 0 cv1 [1, 2] 3 true] <|
.ret [] rv1
def F_rights_find (a0 : TApiTreasury) (a1 : List UInt8) (a2 : Int) : Option R_rights_find := (S_rights_find a0 a1 a2).den
set_option maxRecDepth 100000 in
theorem F_rights_find_ok {a0 : TApiTreasury} {a1 : List UInt8} {a2 : Int} (r : R_rights_find) (h : F_rights_find a0 a1 a2 = some r) : CallOk Tryd.prog 36 [(AV.d (TApiTreasury.e a0)), (AV.d (DV.str a1)), (vi a2)] [] (V_rights_find r) (L_rights_find r) := fOk (s := S_rights_find a0 a1 a2) Tryd.func36 rfl (by kernel_rfl) h
/-! 0 -/
def oTApiPot : Opn TApiPot where
  sz := 7
  T := fun a b c d x => .agg [.d (.str x.Code), vi x.Year, vi x.Total, a, b, c, d]
  e := TApiPot.e
  g1 := TApiPot.Granted
  g2 := TApiPot.Heard
  g3 := TApiPot.Asked
  g4 := TApiPot.Used
  tr := fun _ h1 h2 h3 h4 => TrV.agg (.cons (.keep _) (.cons (.keep _) (.cons (.keep _) (.cons h1 (.cons h2 (.cons h3 (.cons h4 .nil)))))))
  cl := fun x => TrV.aggD (ys := [.str x.Code, .i .i64 x.Year, .i .i64 x.Total, eL (.i .i64) x.Granted, eL (.i .i64) x.Heard, eL (.i .i64) x.Asked, eL (.i .i64) x.Used])
    (.cons (.keep _) (.cons (.keep _) (.cons (.keep _) (.cons (.keep _) (.cons (.keep _) (.cons (.keep _) (.cons (.keep _) .nil)))))))
  wd := fun _ h1 h2 h3 h4 => by simp [AV.wd, AV.wdL, DV.wd, h1, h2, h3, h4]
end
end Go.Proofs.YtkabfdfkegjfdaaDoor
/- What the functions compute, and that their calls return it. No condition. -/
namespace Go.Proofs.YtkabfdfkegjfdaaDoor
open Go Go.TA
noncomputable section
/-! 49 -/
abbrev R_slices_Clone_int_rw := (List Int)
def V_slices_Clone_int_rw (x : R_slices_Clone_int_rw) : AV := (AV.ref 0 x.length 0 x.length)
def L_slices_Clone_int_rw (x : R_slices_Clone_int_rw) : List Ob := [(eS 1 (DV.i .i64) x)]
def S_slices_Clone_int_rw (a0 : (List Int)) : Scr Tryd.prog R_slices_Clone_int_rw R_slices_Clone_int_rw :=
.reg 0 [] [] [] <|
.nils 0 (
.guard [a0.length * (2 * 8) ≤ 2 ^ 48] <|
.reg 1 [] [] [] <|
.lev 0 (vl a0) (.pf (lvQ true a0.length fun j => (DV.i .i64 (a0.getD j default)))) <|
.br true (.pf (p := true = true) rfl) <|
.reg 2 [] [] [] <|
.bor 1 (fun j => AV.d ((DV.i .i64) (a0.getD j default))) [2] <|
.cst (A := a0.length = 0) (.ev 1) [(2, AV.ref 0 0 0 0)] [(2, (AV.ref 0 a0.length 0 a0.length))] [(Ob.seq 1 0 fun j => AV.d ((DV.i .i64) (a0.getD j default)))] [(eS 1 (DV.i .i64) a0)] (fun h => ⟨by rw [h], by unfold eS; rw [h]⟩) <|
.ret [] a0) (
.reg 1 [] [] [] <|
.lev 0 (vl a0) (.pf (lvQ false a0.length fun j => (DV.i .i64 (a0.getD j default)))) <|
.br false (.pf (p := false = false) rfl) <|
.guard [a0.length * (2 * 8) ≤ 2 ^ 48] <|
.reg 3 [] [(2, { h := .obj })] [.pf (p := ∀ k, k < a0.length → (AV.d ((DV.i .i64) (a0.getD k default))).wd = 1) (fun _ _ => rfl), .ev 0] <|
.ret [] a0)
def F_slices_Clone_int_rw (a0 : (List Int)) : Option R_slices_Clone_int_rw := (S_slices_Clone_int_rw a0).den
set_option maxRecDepth 100000 in
theorem F_slices_Clone_int_rw_ok {a0 : (List Int)} (r : R_slices_Clone_int_rw) (h : F_slices_Clone_int_rw a0 = some r) : CallOk Tryd.prog 49 [(vl a0)] [] (V_slices_Clone_int_rw r) (L_slices_Clone_int_rw r) := fOk (s := S_slices_Clone_int_rw a0) Tryd.func49 rfl (by kernel_rfl) h
/-! 30 -/
abbrev R_rights_copied_rw := List UInt8 × Int × Int × (List Int) × (List Int) × (List Int) × (List Int)
def V_rights_copied_rw (x : R_rights_copied_rw) : AV := (AV.agg [(AV.d (DV.str x.1)), (vi x.2.1), (vi x.2.2.1), (AV.ref 2 x.2.2.2.1.length 0 x.2.2.2.1.length), (AV.ref 3 x.2.2.2.2.1.length 0 x.2.2.2.2.1.length), (AV.ref 4 x.2.2.2.2.2.1.length 0 x.2.2.2.2.2.1.length), (AV.ref 5 x.2.2.2.2.2.2.length 0 x.2.2.2.2.2.2.length)])
def L_rights_copied_rw (x : R_rights_copied_rw) : List Ob := [Ob.dead, (Ob.box (AV.agg [(AV.d (DV.str x.1)), (vi x.2.1), (vi x.2.2.1), (AV.ref 2 x.2.2.2.1.length 0 x.2.2.2.1.length), (AV.ref 3 x.2.2.2.2.1.length 0 x.2.2.2.2.1.length), (AV.ref 4 x.2.2.2.2.2.1.length 0 x.2.2.2.2.2.1.length), (AV.ref 5 x.2.2.2.2.2.2.length 0 x.2.2.2.2.2.2.length)])), (eS 1 (DV.i .i64) x.2.2.2.1), (eS 1 (DV.i .i64) x.2.2.2.2.1), (eS 1 (DV.i .i64) x.2.2.2.2.2.1), (eS 1 (DV.i .i64) x.2.2.2.2.2.2)]
def S_rights_copied_rw (a0 : TApiPot) : Scr Tryd.prog R_rights_copied_rw R_rights_copied_rw :=
.reg 0 [] [(1, { obs := [(1, (bx (TApiPot.e (⟨[], 0, 0, [], [], [], []⟩ : TApiPot))))] })] [.pf cz1] <|
.call (@F_slices_Clone_int_rw_ok a0.Granted) fun rv1 cv1 =>
.call (@F_slices_Clone_int_rw_ok a0.Heard) fun rv2 cv2 =>
.call (@F_slices_Clone_int_rw_ok a0.Asked) fun rv3 cv3 =>
.call (@F_slices_Clone_int_rw_ok a0.Used) fun rv4 cv4 =>
.reg 1 [2, 5, 8, 11, 13, 15, 17, 19] [(2, hc cv1 [] false), (5, hc cv2 [] false), (8, hc cv3 [] false), (11, hc cv4 [] false)] [.cl 3 cv1 [] 2 false, .cl 2 cv2 [] 3 false, .cl 1 cv3 [] 4 false, .cl 0 cv4 [] 5 false] <|
.reg 2 [] [] [] <|
.kill 0 <|
.ret [] (a0.Code, a0.Year, a0.Total, rv1, rv2, rv3, rv4)
def F_rights_copied_rw (a0 : TApiPot) : Option R_rights_copied_rw := (S_rights_copied_rw a0).den
set_option maxRecDepth 100000 in
theorem F_rights_copied_rw_ok {a0 : TApiPot} (r : R_rights_copied_rw) (h : F_rights_copied_rw a0 = some r) : CallOk Tryd.prog 30 [(AV.d (TApiPot.e a0))] [] (V_rights_copied_rw r) (L_rights_copied_rw r) := fOk (s := S_rights_copied_rw a0) Tryd.func30 rfl (by kernel_rfl) h
/-! 26 -/
abbrev R_rights_fresh_op := Int × (List TApiPot)
def V_rights_fresh_op (x : R_rights_fresh_op) : AV := (AV.agg [(vi x.1), (AV.ref 2 x.2.length 0 x.2.length)])
def L_rights_fresh_op (i0 : Nat) (x : R_rights_fresh_op) : List Ob := [Ob.dead, (Ob.box (AV.agg [(vi x.1), (AV.ref 2 x.2.length 0 x.2.length)])), (opS 7 TApiPot.e i0 (AV.agg [(AV.d (DV.str (x.2.getD i0 default).Code)), (vi (x.2.getD i0 default).Year), (vi (x.2.getD i0 default).Total), (rr 3 (x.2.getD i0 default).Granted), (rr 4 (x.2.getD i0 default).Heard), (rr 5 (x.2.getD i0 default).Asked), (rr 6 (x.2.getD i0 default).Used)]) x.2), (eQ (x.2.getD i0 default).Granted), (eQ (x.2.getD i0 default).Heard), (eQ (x.2.getD i0 default).Asked), (eQ (x.2.getD i0 default).Used)]
def S_rights_fresh_op_b1 (a0 : TApiTreasury) (i0 : Nat) (iv1 : Nat) (sv2 : Int × (List TApiPot)) : Scr Tryd.prog R_rights_fresh_op (Step (Int × (List TApiPot)) R_rights_fresh_op) :=
.reg 5 [] [(2, { obs := [(7, (bx (TApiPot.e (⟨[], 0, 0, [], [], [], []⟩ : TApiPot))))] })] [.pf (nn iv1), .ev 0, .pf cz1] <|
.call (@F_rights_copied_rw_ok (a0.Pots.getD iv1 default)) fun rv3 cv3 =>
.guard [(sv2.2.length + 1) * (2 * 128) ≤ 2 ^ 48] <|
.reg 6 [3, 4, 5, 7] [(3, hc cv3 [] false), (4, { h := .obj }), (5, { h := .obj, cast := some (AV.ref 2 ((sv2.2 ++ [(⟨rv3.1, rv3.2.1, rv3.2.2.1, rv3.2.2.2.1, rv3.2.2.2.2.1, rv3.2.2.2.2.2.1, rv3.2.2.2.2.2.2⟩ : TApiPot)]).length) 0 ((sv2.2 ++ [(⟨rv3.1, rv3.2.1, rv3.2.2.1, rv3.2.2.2.1, rv3.2.2.2.2.1, rv3.2.2.2.2.2.1, rv3.2.2.2.2.2.2⟩ : TApiPot)]).length)), obs := [(2, (Ob.seq 7 ((sv2.2 ++ [(⟨rv3.1, rv3.2.1, rv3.2.2.1, rv3.2.2.2.1, rv3.2.2.2.2.1, rv3.2.2.2.2.2.1, rv3.2.2.2.2.2.2⟩ : TApiPot)]).length) (catF sv2.2.length (fun j => AV.sel (decide (j = i0)) 7 (AV.agg [(AV.d (DV.str (sv2.2.getD i0 default).Code)), (vi (sv2.2.getD i0 default).Year), (vi (sv2.2.getD i0 default).Total), (rr 3 (sv2.2.getD i0 default).Granted), (rr 4 (sv2.2.getD i0 default).Heard), (rr 5 (sv2.2.getD i0 default).Asked), (rr 6 (sv2.2.getD i0 default).Used)]) (AV.d (TApiPot.e (sv2.2.getD j default)))) (listF AV.bot [(AV.agg [(AV.d (DV.str rv3.1)), (vi rv3.2.1), (vi rv3.2.2.1), (rr 10 rv3.2.2.2.1), (rr 11 rv3.2.2.2.2.1), (rr 12 rv3.2.2.2.2.2.1), (rr 13 rv3.2.2.2.2.2.2)])]))))] })] [.cl 1 cv3 [] 8 false, .pf (Eq.refl 1), .pf (Eq.refl sv2.2.length), .pf (Eq.refl sv2.2.length), .pf (p := ∀ k, k < 1 → (listF AV.bot [(AV.agg [(AV.d (DV.str rv3.1)), (vi rv3.2.1), (vi rv3.2.2.1), (rr 10 rv3.2.2.2.1), (rr 11 rv3.2.2.2.2.1), (rr 12 rv3.2.2.2.2.2.1), (rr 13 rv3.2.2.2.2.2.2)])] k).wd = 7) (fun k hk => by obtain rfl : k = 0 := (by omega); rfl), .ev 0, .pf (leV_app (o := 2) (l := sv2.2) (x := [(⟨rv3.1, rv3.2.1, rv3.2.2.1, rv3.2.2.2.1, rv3.2.2.2.2.1, rv3.2.2.2.2.2.1, rv3.2.2.2.2.2.2⟩ : TApiPot)])), .pf (p := OLe (Ob.seq 7 (sv2.2.length + 1) (catF sv2.2.length (fun j => AV.sel (decide (j = i0)) 7 (AV.agg [(AV.d (DV.str (sv2.2.getD i0 default).Code)), (vi (sv2.2.getD i0 default).Year), (vi (sv2.2.getD i0 default).Total), (rr 3 (sv2.2.getD i0 default).Granted), (rr 4 (sv2.2.getD i0 default).Heard), (rr 5 (sv2.2.getD i0 default).Asked), (rr 6 (sv2.2.getD i0 default).Used)]) (AV.d (TApiPot.e (sv2.2.getD j default)))) (listF AV.bot [(AV.agg [(AV.d (DV.str rv3.1)), (vi rv3.2.1), (vi rv3.2.2.1), (rr 10 rv3.2.2.2.1), (rr 11 rv3.2.2.2.2.1), (rr 12 rv3.2.2.2.2.2.1), (rr 13 rv3.2.2.2.2.2.2)])]))) (Ob.seq 7 ((sv2.2 ++ [(⟨rv3.1, rv3.2.1, rv3.2.2.1, rv3.2.2.2.1, rv3.2.2.2.2.1, rv3.2.2.2.2.2.1, rv3.2.2.2.2.2.2⟩ : TApiPot)]).length) (catF sv2.2.length (fun j => AV.sel (decide (j = i0)) 7 (AV.agg [(AV.d (DV.str (sv2.2.getD i0 default).Code)), (vi (sv2.2.getD i0 default).Year), (vi (sv2.2.getD i0 default).Total), (rr 3 (sv2.2.getD i0 default).Granted), (rr 4 (sv2.2.getD i0 default).Heard), (rr 5 (sv2.2.getD i0 default).Asked), (rr 6 (sv2.2.getD i0 default).Used)]) (AV.d (TApiPot.e (sv2.2.getD j default)))) (listF AV.bot [(AV.agg [(AV.d (DV.str rv3.1)), (vi rv3.2.1), (vi rv3.2.2.1), (rr 10 rv3.2.2.2.1), (rr 11 rv3.2.2.2.2.1), (rr 12 rv3.2.2.2.2.2.1), (rr 13 rv3.2.2.2.2.2.2)])])))) (oLe_len (by simp))] <|
.guard [((sv2.2.length = i0 → 0 < (⟨rv3.1, rv3.2.1, rv3.2.2.1, rv3.2.2.2.1, rv3.2.2.2.2.1, rv3.2.2.2.2.2.1, rv3.2.2.2.2.2.2⟩ : TApiPot).Granted.length ∧ 0 < (⟨rv3.1, rv3.2.1, rv3.2.2.1, rv3.2.2.2.1, rv3.2.2.2.2.1, rv3.2.2.2.2.2.1, rv3.2.2.2.2.2.2⟩ : TApiPot).Heard.length ∧ 0 < (⟨rv3.1, rv3.2.1, rv3.2.2.1, rv3.2.2.2.1, rv3.2.2.2.2.1, rv3.2.2.2.2.2.1, rv3.2.2.2.2.2.2⟩ : TApiPot).Asked.length ∧ 0 < (⟨rv3.1, rv3.2.1, rv3.2.2.1, rv3.2.2.2.1, rv3.2.2.2.2.1, rv3.2.2.2.2.2.1, rv3.2.2.2.2.2.2⟩ : TApiPot).Used.length) ∧ ((⟨rv3.1, rv3.2.1, rv3.2.2.1, rv3.2.2.2.1, rv3.2.2.2.2.1, rv3.2.2.2.2.2.1, rv3.2.2.2.2.2.2⟩ : TApiPot).Granted.length < 2 ^ 63 ∧ (⟨rv3.1, rv3.2.1, rv3.2.2.1, rv3.2.2.2.1, rv3.2.2.2.2.1, rv3.2.2.2.2.2.1, rv3.2.2.2.2.2.2⟩ : TApiPot).Heard.length < 2 ^ 63 ∧ (⟨rv3.1, rv3.2.1, rv3.2.2.1, rv3.2.2.2.1, rv3.2.2.2.2.1, rv3.2.2.2.2.2.1, rv3.2.2.2.2.2.2⟩ : TApiPot).Asked.length < 2 ^ 63 ∧ (⟨rv3.1, rv3.2.1, rv3.2.2.1, rv3.2.2.2.1, rv3.2.2.2.2.1, rv3.2.2.2.2.2.1, rv3.2.2.2.2.2.2⟩ : TApiPot).Used.length < 2 ^ 63))] <|
.sh (A := ((sv2.2.length = i0 → 0 < (⟨rv3.1, rv3.2.1, rv3.2.2.1, rv3.2.2.2.1, rv3.2.2.2.2.1, rv3.2.2.2.2.2.1, rv3.2.2.2.2.2.2⟩ : TApiPot).Granted.length ∧ 0 < (⟨rv3.1, rv3.2.1, rv3.2.2.1, rv3.2.2.2.1, rv3.2.2.2.2.1, rv3.2.2.2.2.2.1, rv3.2.2.2.2.2.2⟩ : TApiPot).Heard.length ∧ 0 < (⟨rv3.1, rv3.2.1, rv3.2.2.1, rv3.2.2.2.1, rv3.2.2.2.2.1, rv3.2.2.2.2.2.1, rv3.2.2.2.2.2.2⟩ : TApiPot).Asked.length ∧ 0 < (⟨rv3.1, rv3.2.1, rv3.2.2.1, rv3.2.2.2.1, rv3.2.2.2.2.1, rv3.2.2.2.2.2.1, rv3.2.2.2.2.2.2⟩ : TApiPot).Used.length) ∧ ((⟨rv3.1, rv3.2.1, rv3.2.2.1, rv3.2.2.2.1, rv3.2.2.2.2.1, rv3.2.2.2.2.2.1, rv3.2.2.2.2.2.2⟩ : TApiPot).Granted.length < 2 ^ 63 ∧ (⟨rv3.1, rv3.2.1, rv3.2.2.1, rv3.2.2.2.1, rv3.2.2.2.2.1, rv3.2.2.2.2.2.1, rv3.2.2.2.2.2.2⟩ : TApiPot).Heard.length < 2 ^ 63 ∧ (⟨rv3.1, rv3.2.1, rv3.2.2.1, rv3.2.2.2.1, rv3.2.2.2.2.1, rv3.2.2.2.2.2.1, rv3.2.2.2.2.2.2⟩ : TApiPot).Asked.length < 2 ^ 63 ∧ (⟨rv3.1, rv3.2.1, rv3.2.2.1, rv3.2.2.2.1, rv3.2.2.2.2.1, rv3.2.2.2.2.2.1, rv3.2.2.2.2.2.2⟩ : TApiPot).Used.length < 2 ^ 63))) (.ev 0) [(1, (vp 0)), (2, (vp 1)), (9, (AV.d (eL TApiPot.e a0.Pots))), (10, (vi (a0.Pots.length : Int))), (11, (vi (iv1 : Int)))] [(1, (vp 0)), (2, (vp 1)), (9, (AV.d (eL TApiPot.e a0.Pots))), (10, (vi (a0.Pots.length : Int))), (11, (vi (iv1 : Int)))] [(Ob.box (AV.agg [(vi sv2.1), (AV.ref 2 ((sv2.2 ++ [(⟨rv3.1, rv3.2.1, rv3.2.2.1, rv3.2.2.2.1, rv3.2.2.2.2.1, rv3.2.2.2.2.2.1, rv3.2.2.2.2.2.2⟩ : TApiPot)]).length) 0 ((sv2.2 ++ [(⟨rv3.1, rv3.2.1, rv3.2.2.1, rv3.2.2.2.1, rv3.2.2.2.2.1, rv3.2.2.2.2.2.1, rv3.2.2.2.2.2.2⟩ : TApiPot)]).length))])), (bx (TApiTreasury.e (⟨0, []⟩ : TApiTreasury))), (Ob.seq 7 (sv2.2 ++ [(⟨rv3.1, rv3.2.1, rv3.2.2.1, rv3.2.2.2.1, rv3.2.2.2.2.1, rv3.2.2.2.2.2.1, rv3.2.2.2.2.2.2⟩ : TApiPot)]).length (catF sv2.2.length (fun j => AV.sel (decide (j = i0)) 7 (AV.agg [(AV.d (DV.str (sv2.2.getD i0 default).Code)), (vi (sv2.2.getD i0 default).Year), (vi (sv2.2.getD i0 default).Total), (rr 3 (sv2.2.getD i0 default).Granted), (rr 4 (sv2.2.getD i0 default).Heard), (rr 5 (sv2.2.getD i0 default).Asked), (rr 6 (sv2.2.getD i0 default).Used)]) (AV.d (TApiPot.e (sv2.2.getD j default)))) (listF AV.bot [(AV.agg [(AV.d (DV.str rv3.1)), (vi rv3.2.1), (vi rv3.2.2.1), (rr 10 rv3.2.2.2.1), (rr 11 rv3.2.2.2.2.1), (rr 12 rv3.2.2.2.2.2.1), (rr 13 rv3.2.2.2.2.2.2)])]))), (eQ (opQ TApiPot.Granted i0 sv2.2)), (eQ (opQ TApiPot.Heard i0 sv2.2)), (eQ (opQ TApiPot.Asked i0 sv2.2)), (eQ (opQ TApiPot.Used i0 sv2.2)), (bx (TApiPot.e (a0.Pots.getD iv1 default))), Ob.dead, (Ob.box (AV.agg [(AV.d (DV.str rv3.1)), (vi rv3.2.1), (vi rv3.2.2.1), (rr 10 rv3.2.2.2.1), (rr 11 rv3.2.2.2.2.1), (rr 12 rv3.2.2.2.2.2.1), (rr 13 rv3.2.2.2.2.2.2)])), (eQ (⟨rv3.1, rv3.2.1, rv3.2.2.1, rv3.2.2.2.1, rv3.2.2.2.2.1, rv3.2.2.2.2.2.1, rv3.2.2.2.2.2.2⟩ : TApiPot).Granted), (eQ (⟨rv3.1, rv3.2.1, rv3.2.2.1, rv3.2.2.2.1, rv3.2.2.2.2.1, rv3.2.2.2.2.2.1, rv3.2.2.2.2.2.2⟩ : TApiPot).Heard), (eQ (⟨rv3.1, rv3.2.1, rv3.2.2.1, rv3.2.2.2.1, rv3.2.2.2.2.1, rv3.2.2.2.2.2.1, rv3.2.2.2.2.2.2⟩ : TApiPot).Asked), (eQ (⟨rv3.1, rv3.2.1, rv3.2.2.1, rv3.2.2.2.1, rv3.2.2.2.2.1, rv3.2.2.2.2.2.1, rv3.2.2.2.2.2.2⟩ : TApiPot).Used), (Ob.seq 7 1 (listF AV.bot [(AV.agg [(AV.d (DV.str rv3.1)), (vi rv3.2.1), (vi rv3.2.2.1), (rr 10 rv3.2.2.2.1), (rr 11 rv3.2.2.2.2.1), (rr 12 rv3.2.2.2.2.2.1), (rr 13 rv3.2.2.2.2.2.2)])]))] [(Ob.box (AV.agg [(vi sv2.1), (AV.ref 2 ((sv2.2 ++ [(⟨rv3.1, rv3.2.1, rv3.2.2.1, rv3.2.2.2.1, rv3.2.2.2.2.1, rv3.2.2.2.2.2.1, rv3.2.2.2.2.2.2⟩ : TApiPot)]).length) 0 ((sv2.2 ++ [(⟨rv3.1, rv3.2.1, rv3.2.2.1, rv3.2.2.2.1, rv3.2.2.2.2.1, rv3.2.2.2.2.2.1, rv3.2.2.2.2.2.2⟩ : TApiPot)]).length))])), (bx (TApiTreasury.e (⟨0, []⟩ : TApiTreasury))), (oTApiPot.R 3 i0 (sv2.2 ++ [(⟨rv3.1, rv3.2.1, rv3.2.2.1, rv3.2.2.2.1, rv3.2.2.2.2.1, rv3.2.2.2.2.2.1, rv3.2.2.2.2.2.2⟩ : TApiPot)])), (eQ (opQ TApiPot.Granted i0 (sv2.2 ++ [(⟨rv3.1, rv3.2.1, rv3.2.2.1, rv3.2.2.2.1, rv3.2.2.2.2.1, rv3.2.2.2.2.2.1, rv3.2.2.2.2.2.2⟩ : TApiPot)]))), (eQ (opQ TApiPot.Heard i0 (sv2.2 ++ [(⟨rv3.1, rv3.2.1, rv3.2.2.1, rv3.2.2.2.1, rv3.2.2.2.2.1, rv3.2.2.2.2.2.1, rv3.2.2.2.2.2.2⟩ : TApiPot)]))), (eQ (opQ TApiPot.Asked i0 (sv2.2 ++ [(⟨rv3.1, rv3.2.1, rv3.2.2.1, rv3.2.2.2.1, rv3.2.2.2.2.1, rv3.2.2.2.2.2.1, rv3.2.2.2.2.2.2⟩ : TApiPot)]))), (eQ (opQ TApiPot.Used i0 (sv2.2 ++ [(⟨rv3.1, rv3.2.1, rv3.2.2.1, rv3.2.2.2.1, rv3.2.2.2.2.1, rv3.2.2.2.2.2.1, rv3.2.2.2.2.2.2⟩ : TApiPot)]))), (bx (TApiPot.e (a0.Pots.getD iv1 default))), Ob.dead, (Ob.box (AV.agg [(AV.d (DV.str rv3.1)), (vi rv3.2.1), (vi rv3.2.2.1), (rr 10 rv3.2.2.2.1), (rr 11 rv3.2.2.2.2.1), (rr 12 rv3.2.2.2.2.2.1), (rr 13 rv3.2.2.2.2.2.2)])), Ob.dead, Ob.dead, Ob.dead, Ob.dead, (Ob.seq 7 1 (listF AV.bot [(AV.agg [(AV.d (DV.str rv3.1)), (vi rv3.2.1), (vi rv3.2.2.1), (rr 10 rv3.2.2.2.1), (rr 11 rv3.2.2.2.2.1), (rr 12 rv3.2.2.2.2.2.1), (rr 13 rv3.2.2.2.2.2.2)])]))] (fun h => shift_settle oTApiPot (P := [(Ob.box (AV.agg [(vi sv2.1), (AV.ref 2 ((sv2.2 ++ [(⟨rv3.1, rv3.2.1, rv3.2.2.1, rv3.2.2.2.1, rv3.2.2.2.2.1, rv3.2.2.2.2.2.1, rv3.2.2.2.2.2.2⟩ : TApiPot)]).length) 0 ((sv2.2 ++ [(⟨rv3.1, rv3.2.1, rv3.2.2.1, rv3.2.2.2.1, rv3.2.2.2.2.1, rv3.2.2.2.2.2.1, rv3.2.2.2.2.2.2⟩ : TApiPot)]).length))])), (bx (TApiTreasury.e (⟨0, []⟩ : TApiTreasury)))]) (D := [(bx (TApiPot.e (a0.Pots.getD iv1 default))), Ob.dead, (Ob.box (AV.agg [(AV.d (DV.str rv3.1)), (vi rv3.2.1), (vi rv3.2.2.1), (rr 10 rv3.2.2.2.1), (rr 11 rv3.2.2.2.2.1), (rr 12 rv3.2.2.2.2.2.1), (rr 13 rv3.2.2.2.2.2.2)]))]) (E := [(Ob.seq 7 1 (listF AV.bot [(AV.agg [(AV.d (DV.str rv3.1)), (vi rv3.2.1), (vi rv3.2.2.1), (rr 10 rv3.2.2.2.1), (rr 11 rv3.2.2.2.2.1), (rr 12 rv3.2.2.2.2.2.1), (rr 13 rv3.2.2.2.2.2.2)])]))]) (i := i0) (l := sv2.2) (x := (⟨rv3.1, rv3.2.1, rv3.2.2.1, rv3.2.2.2.1, rv3.2.2.2.2.1, rv3.2.2.2.2.2.1, rv3.2.2.2.2.2.2⟩ : TApiPot)) rfl rfl (fun j hj => catF_lt hj) (by rw [catF_ge (Nat.le_refl _), Nat.sub_self]; rfl) h.1 h.2) (trF_refl _) <|
.ret [] (.cont (sv2.1, sv2.2 ++ [(⟨rv3.1, rv3.2.1, rv3.2.2.1, rv3.2.2.2.1, rv3.2.2.2.2.1, rv3.2.2.2.2.2.1, rv3.2.2.2.2.2.2⟩ : TApiPot)]))
def S_rights_fresh_op (a0 : TApiTreasury) (i0 : Nat) : Scr Tryd.prog R_rights_fresh_op R_rights_fresh_op :=
.reg 0 [] [(1, { obs := [(1, (bx (TApiTreasury.e (⟨0, []⟩ : TApiTreasury))))] })] [.pf cz3] <|
.reg 2 [] [] [] <|
.sh (A := True) (.pf trivial) [(1, (vp 0)), (2, (vp 1)), (3, (AV.d (eL TApiPot.e a0.Pots)))] [(1, (vp 0)), (2, (vp 1)), (3, (AV.d (eL TApiPot.e a0.Pots)))] [(Ob.box (AV.agg [(vi a0.Offices), (AV.full 0 fun _ => DV.b false)])), (bx (TApiTreasury.e (⟨0, []⟩ : TApiTreasury)))] [(Ob.box (AV.agg [(vi a0.Offices), (AV.ref 2 0 0 0)])), (bx (TApiTreasury.e (⟨0, []⟩ : TApiTreasury))), (oTApiPot.R 3 i0 [])] (fun _ => (shift_born (sz := 7) (f := (fun j => AV.sel (decide (j = i0)) 7 (AV.agg [(AV.d (DV.str (([] : List TApiPot).getD i0 default).Code)), (vi (([] : List TApiPot).getD i0 default).Year), (vi (([] : List TApiPot).getD i0 default).Total), (rr 3 (([] : List TApiPot).getD i0 default).Granted), (rr 4 (([] : List TApiPot).getD i0 default).Heard), (rr 5 (([] : List TApiPot).getD i0 default).Asked), (rr 6 (([] : List TApiPot).getD i0 default).Used)]) (AV.d (TApiPot.e (([] : List TApiPot).getD j default))))) (.box _ _ _ _ _ (Nat.ne_of_beq_eq_false rfl) (TrV.agg (TrL.cons (TrV.keep _) (TrL.cons TrV.born TrL.nil))) (.keep _ _ _ _ (Nat.ne_of_beq_eq_false rfl) (.nil _))))) (trF_at (k := 0) rfl (TrS.keep _) (trF_at (k := 1) rfl (TrS.keep _) (trF_at (k := 2) rfl (TrS.keep _) trF_nil))) <|
.sh (A := True) (.pf trivial) [(1, (vp 0)), (2, (vp 1)), (3, (AV.d (eL TApiPot.e a0.Pots)))] [(1, (vp 0)), (2, (vp 1)), (3, (AV.d (eL TApiPot.e a0.Pots)))] [(Ob.box (AV.agg [(vi a0.Offices), (AV.ref 2 0 0 0)])), (bx (TApiTreasury.e (⟨0, []⟩ : TApiTreasury))), (oTApiPot.R 3 i0 [])] [(Ob.box (AV.agg [(vi a0.Offices), (AV.ref 2 0 0 0)])), (bx (TApiTreasury.e (⟨0, []⟩ : TApiTreasury))), (oTApiPot.R 3 i0 []), (eQ (opQ TApiPot.Granted i0 ([] : List TApiPot))), (eQ (opQ TApiPot.Heard i0 ([] : List TApiPot))), (eQ (opQ TApiPot.Asked i0 ([] : List TApiPot))), (eQ (opQ TApiPot.Used i0 ([] : List TApiPot)))] (fun _ => shift_born4) (trF_refl _) <|
.range (a0.Pots.length : Int) a0.Pots.length rfl (.slot 9) 11 [1, 2, 9, 10] (fun (_ : Int × (List TApiPot)) => []) (fun (sv2 : Int × (List TApiPot)) => [(0, (Ob.box (AV.agg [(vi sv2.1), (AV.ref 2 sv2.2.length 0 sv2.2.length)]))), (2, (oTApiPot.R 3 i0 sv2.2)), (3, (eQ (opQ TApiPot.Granted i0 sv2.2))), (4, (eQ (opQ TApiPot.Heard i0 sv2.2))), (5, (eQ (opQ TApiPot.Asked i0 sv2.2))), (6, (eQ (opQ TApiPot.Used i0 sv2.2)))]) (a0.Offices, ([] : List TApiPot)) (S_rights_fresh_op_b1 a0 i0) (fun (sv2 : Int × (List TApiPot)) => 
.reg 8 [] [] [] <|
.kill 0 <|
.guard [i0 < sv2.2.length] <|
.cst (A := i0 < sv2.2.length) (.ev 0) [(2, (vp 1))] [(2, (vp 1))] [Ob.dead, (Ob.box (AV.agg [(vi sv2.1), (AV.ref 2 sv2.2.length 0 sv2.2.length)])), (oTApiPot.R 3 i0 sv2.2), (eQ (opQ TApiPot.Granted i0 sv2.2)), (eQ (opQ TApiPot.Heard i0 sv2.2)), (eQ (opQ TApiPot.Asked i0 sv2.2)), (eQ (opQ TApiPot.Used i0 sv2.2))] [Ob.dead, (Ob.box (AV.agg [(vi sv2.1), (AV.ref 2 sv2.2.length 0 sv2.2.length)])), (oTApiPot.R 3 i0 sv2.2), (eQ (sv2.2.getD i0 default).Granted), (eQ (sv2.2.getD i0 default).Heard), (eQ (sv2.2.getD i0 default).Asked), (eQ (sv2.2.getD i0 default).Used)] (fun h => ⟨rfl, by simp only [opQ_at h]⟩) <|
.ret [] (sv2.1, sv2.2)) id
def F_rights_fresh_op (a0 : TApiTreasury) (i0 : Nat) : Option R_rights_fresh_op := (S_rights_fresh_op a0 i0).den
set_option maxRecDepth 100000 in
theorem F_rights_fresh_op_ok {a0 : TApiTreasury} {i0 : Nat} (r : R_rights_fresh_op) (h : F_rights_fresh_op a0 i0 = some r) : CallOk Tryd.prog 26 [(AV.d (TApiTreasury.e a0))] [] (V_rights_fresh_op r) (L_rights_fresh_op i0 r) := fOk (s := S_rights_fresh_op a0 i0) Tryd.func26 rfl (by kernel_rfl) h
/-! 34 -/
abbrev R_rights_Divide_1_1 := Bool
def V_rights_Divide_1_1 (x : R_rights_Divide_1_1) : AV := (vb x)
def L_rights_Divide_1_1 (_ : R_rights_Divide_1_1) : List Ob := []
def S_rights_Divide_1_1 (a0 : Int) : Scr Tryd.prog R_rights_Divide_1_1 R_rights_Divide_1_1 :=
.call (@F_rights_total_ok a0) fun rv1 cv1 =>
.reg 1 [] [(1, hc cv1 [] true)] [.cl 0 cv1 [] 0 true] <|
.ret [] (!rv1)
def F_rights_Divide_1_1 (a0 : Int) : Option R_rights_Divide_1_1 := (S_rights_Divide_1_1 a0).den
set_option maxRecDepth 100000 in
theorem F_rights_Divide_1_1_ok {a0 : Int} (r : R_rights_Divide_1_1) (h : F_rights_Divide_1_1 a0 = some r) : CallOk Tryd.prog 34 [(vi a0)] [] (V_rights_Divide_1_1 r) (L_rights_Divide_1_1 r) := fOk (s := S_rights_Divide_1_1 a0) Tryd.func34 rfl (by kernel_rfl) h
/-! 50 -/
abbrev R_slices_IndexFunc_int_rights_Divide_1_1 := Int
def V_slices_IndexFunc_int_rights_Divide_1_1 (x : R_slices_IndexFunc_int_rights_Divide_1_1) : AV := (vi x)
def L_slices_IndexFunc_int_rights_Divide_1_1 (_ : R_slices_IndexFunc_int_rights_Divide_1_1) : List Ob := []
def S_slices_IndexFunc_int_rights_Divide_1_1_b1 (a0 : (List Int)) (iv1 : Nat) (_ : Unit) : Scr Tryd.prog R_slices_IndexFunc_int_rights_Divide_1_1 (Step (Unit) R_slices_IndexFunc_int_rights_Divide_1_1) :=
.call (@F_rights_Divide_1_1_ok (a0.getD iv1 default)) fun rv2 cv2 =>
.reg 4 [] [(5, hc cv2 [] true)] [.pf (nn iv1), .ev 1, .cl 0 cv2 [] 0 true] <|
.ite rv2 (
.ret [] (.ret (iv1 : Int))) (
.ret [] (.cont ()))
def S_slices_IndexFunc_int_rights_Divide_1_1 (a0 : (List Int)) : Scr Tryd.prog R_slices_IndexFunc_int_rights_Divide_1_1 R_slices_IndexFunc_int_rights_Divide_1_1 :=
.range (a0.length : Int) a0.length rfl (.slot 0) 8 [0, 1, 7] (fun (_ : Unit) => []) (fun (_ : Unit) => []) () (S_slices_IndexFunc_int_rights_Divide_1_1_b1 a0) (fun (_ : Unit) => 
.ret [] (-1)) id
def F_slices_IndexFunc_int_rights_Divide_1_1 (a0 : (List Int)) : Option R_slices_IndexFunc_int_rights_Divide_1_1 := (S_slices_IndexFunc_int_rights_Divide_1_1 a0).den
set_option maxRecDepth 100000 in
theorem F_slices_IndexFunc_int_rights_Divide_1_1_ok {a0 : (List Int)} (r : R_slices_IndexFunc_int_rights_Divide_1_1) (h : F_slices_IndexFunc_int_rights_Divide_1_1 a0 = some r) : CallOk Tryd.prog 50 [(vl a0), (AV.fn 34 [])] [] (V_slices_IndexFunc_int_rights_Divide_1_1 r) (L_slices_IndexFunc_int_rights_Divide_1_1 r) := fOk (s := S_slices_IndexFunc_int_rights_Divide_1_1 a0) Tryd.func50 rfl (by kernel_rfl) h
/-! 33 -/
abbrev R_slices_CoF_int_rights_Divide_1_1 := Bool
def V_slices_CoF_int_rights_Divide_1_1 (x : R_slices_CoF_int_rights_Divide_1_1) : AV := (vb x)
def L_slices_CoF_int_rights_Divide_1_1 (_ : R_slices_CoF_int_rights_Divide_1_1) : List Ob := []
def S_slices_CoF_int_rights_Divide_1_1 (a0 : (List Int)) : Scr Tryd.prog R_slices_CoF_int_rights_Divide_1_1 R_slices_CoF_int_rights_Divide_1_1 :=
.call (@F_slices_IndexFunc_int_rights_Divide_1_1_ok a0) fun rv1 cv1 =>
.reg 1 [] [(2, hc cv1 [] true)] [.cl 0 cv1 [] 0 true] <|
.ret [] (decide (rv1 ≥ 0))
def F_slices_CoF_int_rights_Divide_1_1 (a0 : (List Int)) : Option R_slices_CoF_int_rights_Divide_1_1 := (S_slices_CoF_int_rights_Divide_1_1 a0).den
set_option maxRecDepth 100000 in
theorem F_slices_CoF_int_rights_Divide_1_1_ok {a0 : (List Int)} (r : R_slices_CoF_int_rights_Divide_1_1) (h : F_slices_CoF_int_rights_Divide_1_1 a0 = some r) : CallOk Tryd.prog 33 [(vl a0), (AV.fn 34 [])] [] (V_slices_CoF_int_rights_Divide_1_1 r) (L_slices_CoF_int_rights_Divide_1_1 r) := fOk (s := S_slices_CoF_int_rights_Divide_1_1 a0) Tryd.func33 rfl (by kernel_rfl) h
/-! 21 -/
abbrev R_rights_Out := Int
def V_rights_Out (x : R_rights_Out) : AV := (vi x)
def L_rights_Out (_ : R_rights_Out) : List Ob := []
def S_rights_Out (a0 : TApiPot) : Scr Tryd.prog R_rights_Out R_rights_Out :=
.call (@F_rights_sum_ok (a0.Granted.take (((if (a0.Heard.length : Int) < (a0.Granted.length : Int) then (a0.Heard.length : Int) else (a0.Granted.length : Int))).toNat))) fun rv1 cv1 =>
.call (@F_rights_sum_ok (a0.Heard.take (((if (a0.Heard.length : Int) < (a0.Granted.length : Int) then (a0.Heard.length : Int) else (a0.Granted.length : Int))).toNat))) fun rv2 cv2 =>
.guard [(0 : Int) ≤ (if (a0.Heard.length : Int) < (a0.Granted.length : Int) then (a0.Heard.length : Int) else (a0.Granted.length : Int)), ((if (a0.Heard.length : Int) < (a0.Granted.length : Int) then (a0.Heard.length : Int) else (a0.Granted.length : Int))).toNat ≤ a0.Granted.length, ((if (a0.Heard.length : Int) < (a0.Granted.length : Int) then (a0.Heard.length : Int) else (a0.Granted.length : Int))).toNat ≤ a0.Heard.length] <|
.reg 2 [] [(3, hv (vl (a0.Granted.take (((if (a0.Heard.length : Int) < (a0.Granted.length : Int) then (a0.Heard.length : Int) else (a0.Granted.length : Int))).toNat)))), (4, hc cv1 [] true), (8, hv (vl (a0.Heard.take (((if (a0.Heard.length : Int) < (a0.Granted.length : Int) then (a0.Heard.length : Int) else (a0.Granted.length : Int))).toNat)))), (9, hc cv2 [] true)] [.ev 0, .ev 1, .der (fun (h0 : ((if (a0.Heard.length : Int) < (a0.Granted.length : Int) then (a0.Heard.length : Int) else (a0.Granted.length : Int))).toNat ≤ a0.Granted.length) => lvT (DV.i .i64) a0.Granted h0) 1, .cl 4 cv1 [] 1 true, .ev 0, .ev 2, .der (fun (h0 : ((if (a0.Heard.length : Int) < (a0.Granted.length : Int) then (a0.Heard.length : Int) else (a0.Granted.length : Int))).toNat ≤ a0.Heard.length) => lvT (DV.i .i64) a0.Heard h0) 2, .cl 3 cv2 [] 1 true] <|
.ret [] (IntKind.i64.wrap (rv1 - rv2))
def F_rights_Out (a0 : TApiPot) : Option R_rights_Out := (S_rights_Out a0).den
set_option maxRecDepth 100000 in
theorem F_rights_Out_ok {a0 : TApiPot} (r : R_rights_Out) (h : F_rights_Out a0 = some r) : CallOk Tryd.prog 21 [(AV.d (TApiPot.e a0))] [] (V_rights_Out r) (L_rights_Out r) := fOk (s := S_rights_Out a0) Tryd.func21 rfl (by kernel_rfl) h
/-! 51 -/
abbrev R_rights_Free := Int
def V_rights_Free (x : R_rights_Free) : AV := (vi x)
def L_rights_Free (_ : R_rights_Free) : List Ob := []
def S_rights_Free (a0 : TApiPot) : Scr Tryd.prog R_rights_Free R_rights_Free :=
.call (@F_rights_Out_ok a0) fun rv1 cv1 =>
.reg 1 [] [(3, hc cv1 [] true)] [.cl 0 cv1 [] 1 true] <|
.ret [] (IntKind.i64.wrap (a0.Total - rv1))
def F_rights_Free (a0 : TApiPot) : Option R_rights_Free := (S_rights_Free a0).den
set_option maxRecDepth 100000 in
theorem F_rights_Free_ok {a0 : TApiPot} (r : R_rights_Free) (h : F_rights_Free a0 = some r) : CallOk Tryd.prog 51 [(AV.d (TApiPot.e a0))] [] (V_rights_Free r) (L_rights_Free r) := fOk (s := S_rights_Free a0) Tryd.func51 rfl (by kernel_rfl) h
/-! 35 -/
abbrev R_rights_give := Int × (List Int)
def V_rights_give (x : R_rights_give) : AV := (vi x.1)
def L_rights_give (p0_0 : Nat) (p0_1 : (List TApiPot)) (p0_2 : List UInt8) (p0_3 : Int) (p0_4 : Int) (p1 : (List Int)) (p2 : (List Int)) (p3 : (List Int)) (p4 : (List Int)) (x : R_rights_give) : List Ob := [(opS 7 TApiPot.e p0_0 (AV.agg [(AV.d (DV.str p0_2)), (vi p0_3), (vi p0_4), (AV.ref 1 p1.length 0 p1.length), (AV.ref 2 p2.length 0 p2.length), (AV.ref 3 p3.length 0 p3.length), (AV.ref 4 p4.length 0 p4.length)]) p0_1), (eS 1 (DV.i .i64) x.2), (eS 1 (DV.i .i64) p2), (eS 1 (DV.i .i64) p3), (eS 1 (DV.i .i64) p4)]
def S_rights_give_b1 (a1 : (List Int)) (p0_0 : Nat) (p0_1 : (List TApiPot)) (p1 : (List Int)) (iv1 : Nat) (sv2 : (List Int)) : Scr Tryd.prog R_rights_give (Step ((List Int)) R_rights_give) :=
.reg 8 [] [] [.pf (nn iv1), .ev 0] <|
.guard [sv2.length = p1.length, iv1 < p1.length, (0 + iv1) < sv2.length] <|
.reg 9 [] [(10, { obs := [(1, (eS 1 (DV.i .i64) (sv2.set (0 + iv1) (IntKind.i64.wrap ((sv2.getD (0 + iv1) default) + (a1.getD iv1 default))))))] })] [.pf (Eq.refl p0_1.length), .pf (Eq.refl p0_1.length), .ev 8, .pf (p := decide (p0_0 = p0_0) = true) (decide_eq_true rfl), .ev 0, .pf (nn iv1), .ev 1, .ev 0, .ev 2, .ev 0, .pf (nn iv1), .ev 1, .ev 0, .ev 2, .pf (oLe_set (sz := 1) (e := (DV.i .i64)) (l := sv2) (i := (0 + iv1)) (x := (IntKind.i64.wrap ((sv2.getD (0 + iv1) default) + (a1.getD iv1 default)))) (fun _ => rfl))] <|
.ret [] (.cont (sv2.set (0 + iv1) (IntKind.i64.wrap ((sv2.getD (0 + iv1) default) + (a1.getD iv1 default)))))
def S_rights_give (a1 : (List Int)) (p0_0 : Nat) (p0_1 : (List TApiPot)) (p0_2 : List UInt8) (p0_3 : Int) (p0_4 : Int) (p1 : (List Int)) (p2 : (List Int)) (p3 : (List Int)) (p4 : (List Int)) : Scr Tryd.prog R_rights_give R_rights_give :=
.call (@F_rights_sum_ok a1) fun rv3 cv3 =>
.reg 1 [] [(1, hc cv3 [] true)] [.cl 0 cv3 [] 5 true] <|
.call (lendOk (xs := [(AV.agg [(AV.d (DV.str p0_2)), (vi p0_3), (vi p0_4), (AV.ref 0 p1.length 0 p1.length), (AV.ref 1 p2.length 0 p2.length), (AV.ref 2 p3.length 0 p3.length), (AV.ref 3 p4.length 0 p4.length)])]) (L := [(eS 1 (DV.i .i64) p1), (eS 1 (DV.i .i64) p2), (eS 1 (DV.i .i64) p3), (eS 1 (DV.i .i64) p4)]) (g := p1.length < 2 ^ 63 ∧ p2.length < 2 ^ 63 ∧ p3.length < 2 ^ 63 ∧ p4.length < 2 ^ 63) (@F_rights_Free_ok (⟨p0_2, p0_3, p0_4, p1, p2, p3, p4⟩ : TApiPot)) (fun _ => rfl) (fun hg => (LendVs.cons (LendS.agg (ys := [(DV.str p0_2), (DV.i .i64 p0_3), (DV.i .i64 p0_4), (eL (DV.i .i64) p1), (eL (DV.i .i64) p2), (eL (DV.i .i64) p3), (eL (DV.i .i64) p4)]) (LendL.cons LendV.d (LendL.cons LendV.d (LendL.cons LendV.d (LendL.cons (LendV.ref (sz := 1) (g := fun j => (DV.i .i64) (p1.getD j default)) rfl hg.1) (LendL.cons (LendV.ref (sz := 1) (g := fun j => (DV.i .i64) (p2.getD j default)) rfl hg.2.1) (LendL.cons (LendV.ref (sz := 1) (g := fun j => (DV.i .i64) (p3.getD j default)) rfl hg.2.2.1) (LendL.cons (LendV.ref (sz := 1) (g := fun j => (DV.i .i64) (p4.getD j default)) rfl hg.2.2.2) LendL.nil)))))))) LendVs.nil)) (fun _ => FlatV.i)) fun rv4 cv4 =>
.guard [p0_0 < p0_1.length] <|
.reg 2 [] [(4, hc cv4 [1, 2, 3, 4] true)] [.pf (Eq.refl p0_1.length), .ev 0, .pf (p := decide (p0_0 = p0_0) = true) (decide_eq_true rfl), .cl 1 cv4 [1, 2, 3, 4] 5 true] <|
.ite (decide (rv3 > rv4)) (
.ret [] (15, p1)) (
.call (lendOk (xs := [(AV.ref 0 p1.length 0 p1.length)]) (L := [(eS 1 (DV.i .i64) p1)]) (g := p1.length < 2 ^ 63) (@F_rights_sum_ok p1) (fun _ => rfl) (fun hg => (LendVs.cons (LendS.one rfl rfl rfl (LendV.ref (sz := 1) (g := fun j => (DV.i .i64) (p1.getD j default)) rfl hg)) LendVs.nil)) (fun _ => FlatV.i)) fun rv5 cv5 =>
.reg 4 [] [(4, hc cv5 [1] true)] [.pf (Eq.refl p0_1.length), .pf (Eq.refl p0_1.length), .ev 2, .pf (p := decide (p0_0 = p0_0) = true) (decide_eq_true rfl), .cl 0 cv5 [1] 5 true] <|
.ite (decide ((IntKind.i64.wrap (rv5 + rv3)) > 1000000000000000)) (
.ret [] (3, p1)) (
.range (a1.length : Int) a1.length rfl (.slot 26) 28 [0, 26, 27] (fun (_ : (List Int)) => []) (fun (sv2 : (List Int)) => [(1, (eS 1 (DV.i .i64) sv2))]) p1 (S_rights_give_b1 a1 p0_0 p0_1 p1) (fun (sv2 : (List Int)) => 
.ret [] (0, sv2)) id))
def F_rights_give (a1 : (List Int)) (p0_0 : Nat) (p0_1 : (List TApiPot)) (p0_2 : List UInt8) (p0_3 : Int) (p0_4 : Int) (p1 : (List Int)) (p2 : (List Int)) (p3 : (List Int)) (p4 : (List Int)) : Option R_rights_give := (S_rights_give a1 p0_0 p0_1 p0_2 p0_3 p0_4 p1 p2 p3 p4).den
set_option maxRecDepth 100000 in
theorem F_rights_give_ok {a1 : (List Int)} {p0_0 : Nat} {p0_1 : (List TApiPot)} {p0_2 : List UInt8} {p0_3 : Int} {p0_4 : Int} {p1 : (List Int)} {p2 : (List Int)} {p3 : (List Int)} {p4 : (List Int)} (r : R_rights_give) (h : F_rights_give a1 p0_0 p0_1 p0_2 p0_3 p0_4 p1 p2 p3 p4 = some r) : CallOk Tryd.prog 35 [(AV.ptr 0 p0_1.length [.x p0_0 7]), (vl a1)] [(opS 7 TApiPot.e p0_0 (AV.agg [(AV.d (DV.str p0_2)), (vi p0_3), (vi p0_4), (AV.ref 1 p1.length 0 p1.length), (AV.ref 2 p2.length 0 p2.length), (AV.ref 3 p3.length 0 p3.length), (AV.ref 4 p4.length 0 p4.length)]) p0_1), (eS 1 (DV.i .i64) p1), (eS 1 (DV.i .i64) p2), (eS 1 (DV.i .i64) p3), (eS 1 (DV.i .i64) p4)] (V_rights_give r) (L_rights_give p0_0 p0_1 p0_2 p0_3 p0_4 p1 p2 p3 p4 r) := fOk (s := S_rights_give a1 p0_0 p0_1 p0_2 p0_3 p0_4 p1 p2 p3 p4) Tryd.func35 rfl (by kernel_rfl) h
/-! 32 -/
abbrev R_rights_Divide_1 := Int × (List Int)
def V_rights_Divide_1 (x : R_rights_Divide_1) : AV := (vi x.1)
def L_rights_Divide_1 (p0_0 : Nat) (p0_1 : (List TApiPot)) (p0_2 : List UInt8) (p0_3 : Int) (p0_4 : Int) (p1 : (List Int)) (p2 : (List Int)) (p3 : (List Int)) (p4 : (List Int)) (p5 : (List Int)) (x : R_rights_Divide_1) : List Ob := [(opS 7 TApiPot.e p0_0 (AV.agg [(AV.d (DV.str p0_2)), (vi p0_3), (vi p0_4), (AV.ref 2 p2.length 0 p2.length), (AV.ref 3 p3.length 0 p3.length), (AV.ref 4 p4.length 0 p4.length), (AV.ref 5 p5.length 0 p5.length)]) p0_1), (Ob.box (vl p1)), (eS 1 (DV.i .i64) x.2), (eS 1 (DV.i .i64) p3), (eS 1 (DV.i .i64) p4), (eS 1 (DV.i .i64) p5)]
def S_rights_Divide_1 (p0_0 : Nat) (p0_1 : (List TApiPot)) (p0_2 : List UInt8) (p0_3 : Int) (p0_4 : Int) (p1 : (List Int)) (p2 : (List Int)) (p3 : (List Int)) (p4 : (List Int)) (p5 : (List Int)) : Scr Tryd.prog R_rights_Divide_1 R_rights_Divide_1 :=
.guard [p0_0 < p0_1.length] <|
.reg 1 [] [] [.pf (Eq.refl p0_1.length), .pf (Eq.refl p0_1.length), .ev 0, .pf (p := decide (p0_0 = p0_0) = true) (decide_eq_true rfl)] <|
.ite ((p1.length : Int) != (p2.length : Int)) (
.ret [] (6, p2)) (
.call (@F_slices_CoF_int_rights_Divide_1_1_ok p1) fun rv1 cv1 =>
.reg 3 [] [(1, hc cv1 [] true)] [.cl 0 cv1 [] 6 true] <|
.ite rv1 (
.ret [] (2, p2)) (
.call (@F_rights_give_ok p1 p0_0 p0_1 p0_2 p0_3 p0_4 p2 p3 p4 p5) fun rv2 cv2 =>
.reg 5 [] [(2, hc cv2 [0, 2, 3, 4, 5] false)] [.cl 0 cv2 [0, 2, 3, 4, 5] 6 false] <|
.ret [] (rv2.1, rv2.2)))
def F_rights_Divide_1 (p0_0 : Nat) (p0_1 : (List TApiPot)) (p0_2 : List UInt8) (p0_3 : Int) (p0_4 : Int) (p1 : (List Int)) (p2 : (List Int)) (p3 : (List Int)) (p4 : (List Int)) (p5 : (List Int)) : Option R_rights_Divide_1 := (S_rights_Divide_1 p0_0 p0_1 p0_2 p0_3 p0_4 p1 p2 p3 p4 p5).den
set_option maxRecDepth 100000 in
theorem F_rights_Divide_1_ok {p0_0 : Nat} {p0_1 : (List TApiPot)} {p0_2 : List UInt8} {p0_3 : Int} {p0_4 : Int} {p1 : (List Int)} {p2 : (List Int)} {p3 : (List Int)} {p4 : (List Int)} {p5 : (List Int)} (r : R_rights_Divide_1) (h : F_rights_Divide_1 p0_0 p0_1 p0_2 p0_3 p0_4 p1 p2 p3 p4 p5 = some r) : CallOk Tryd.prog 32 [(AV.ptr 0 p0_1.length [.x p0_0 7]), (vp 1)] [(opS 7 TApiPot.e p0_0 (AV.agg [(AV.d (DV.str p0_2)), (vi p0_3), (vi p0_4), (AV.ref 2 p2.length 0 p2.length), (AV.ref 3 p3.length 0 p3.length), (AV.ref 4 p4.length 0 p4.length), (AV.ref 5 p5.length 0 p5.length)]) p0_1), (Ob.box (vl p1)), (eS 1 (DV.i .i64) p2), (eS 1 (DV.i .i64) p3), (eS 1 (DV.i .i64) p4), (eS 1 (DV.i .i64) p5)] (V_rights_Divide_1 r) (L_rights_Divide_1 p0_0 p0_1 p0_2 p0_3 p0_4 p1 p2 p3 p4 p5 r) := fOk (s := S_rights_Divide_1 p0_0 p0_1 p0_2 p0_3 p0_4 p1 p2 p3 p4 p5) Tryd.func32 rfl (by kernel_rfl) h
/-! 31 -/
abbrev R_rights_change_rights_Divide_1 := TApiTreasury × Int
def V_rights_change_rights_Divide_1 (x : R_rights_change_rights_Divide_1) : AV := (AV.tup [(AV.d (TApiTreasury.e x.1)), (vi x.2)])
def L_rights_change_rights_Divide_1 (p0 : (List Int)) (_ : R_rights_change_rights_Divide_1) : List Ob := [(Ob.box (vl p0))]
def S_rights_change_rights_Divide_1 (a0 : TApiTreasury) (a1 : List UInt8) (a2 : Int) (p0 : (List Int)) : Scr Tryd.prog R_rights_change_rights_Divide_1 R_rights_change_rights_Divide_1 :=
.reg 0 [] [(1, { obs := [(2, (bx (TApiTreasury.e (⟨0, []⟩ : TApiTreasury))))] })] [.pf cz3] <|
.call (@F_rights_Valid_ok a0) fun rv1 cv1 =>
.reg 1 [] [(1, hc cv1 [] true)] [.cl 0 cv1 [] 3 true] <|
.ite (!rv1) (
.reg 2 [] [(0, hv (AV.d (TApiTreasury.e (⟨0, []⟩ : TApiTreasury))))] [.pf cz4] <|
.ret [] ((⟨0, []⟩ : TApiTreasury), 1)) (
.call (@F_rights_find_ok a0 a1 a2) fun rv2 cv2 =>
.reg 3 [] [(3, hc cv2 [] true)] [.cl 0 cv2 [] 3 true] <|
.ite (decide (rv2 < 0)) (
.reg 5 [] [(0, hv (AV.d (TApiTreasury.e (⟨0, []⟩ : TApiTreasury))))] [.pf cz4] <|
.ret [] ((⟨0, []⟩ : TApiTreasury), 6)) (
.call (@F_rights_fresh_op_ok a0 ((rv2).toNat)) fun rv3 cv3 =>
.reg 6 [] [(1, hc cv3 [] false)] [.cl 0 cv3 [] 3 false] <|
.kill 4 <|
.call (@F_rights_Divide_1_ok ((rv2).toNat) rv3.2 ((rv3.2.getD ((rv2).toNat) default).Code) ((rv3.2.getD ((rv2).toNat) default).Year) ((rv3.2.getD ((rv2).toNat) default).Total) p0 ((rv3.2.getD ((rv2).toNat) default).Granted) ((rv3.2.getD ((rv2).toNat) default).Heard) ((rv3.2.getD ((rv2).toNat) default).Asked) ((rv3.2.getD ((rv2).toNat) default).Used)) fun rv4 cv4 =>
.guard [(0 : Int) ≤ rv2, (rv2).toNat < rv3.2.length] <|
.reg 7 [] [(4, hv (AV.ptr 5 rv3.2.length [.x ((rv2).toNat) 7])), (5, hc cv4 [5, 0, 6, 7, 8, 9] false)] [.pf (Eq.refl rv3.2.length), .ev 0, .ev 1, .pf (p := LeV (AV.ptr 5 rv3.2.length [.x (0 + ((rv2).toNat)) 7]) (AV.ptr 5 rv3.2.length [.x ((rv2).toNat) 7])) (leV_ix), .cl 2 cv4 [5, 0, 6, 7, 8, 9] 10 false] <|
.ite (rv4.1 != 0) (
.reg 9 [] [(0, hv (AV.d (TApiTreasury.e (⟨0, []⟩ : TApiTreasury))))] [.pf cz4] <|
.ret [] ((⟨0, []⟩ : TApiTreasury), rv4.1)) (
.reg 10 [] [] [] <|
.guard [rv4.2.length = ((rv3.2.getD ((rv2).toNat) default).Granted).length] <|
.cst (A := rv4.2.length = ((rv3.2.getD ((rv2).toNat) default).Granted).length) (.ev 0) [(8, (vp 2)), (9, (vi 0))] [(8, (vp 2)), (9, (vi 0))] [(Ob.box (vl p0)), (Ob.box (AV.agg [(vi rv3.1), (AV.ref 5 rv3.2.length 0 rv3.2.length)])), (Ob.box (AV.agg [(vi rv3.1), (AV.ref 5 rv3.2.length 0 rv3.2.length)])), Ob.dead, Ob.dead, (opS 7 TApiPot.e ((rv2).toNat) (AV.agg [(AV.d (DV.str ((rv3.2.getD ((rv2).toNat) default).Code))), (vi ((rv3.2.getD ((rv2).toNat) default).Year)), (vi ((rv3.2.getD ((rv2).toNat) default).Total)), (AV.ref 6 (((rv3.2.getD ((rv2).toNat) default).Granted).length) 0 (((rv3.2.getD ((rv2).toNat) default).Granted).length)), (AV.ref 7 (((rv3.2.getD ((rv2).toNat) default).Heard).length) 0 (((rv3.2.getD ((rv2).toNat) default).Heard).length)), (AV.ref 8 (((rv3.2.getD ((rv2).toNat) default).Asked).length) 0 (((rv3.2.getD ((rv2).toNat) default).Asked).length)), (AV.ref 9 (((rv3.2.getD ((rv2).toNat) default).Used).length) 0 (((rv3.2.getD ((rv2).toNat) default).Used).length))]) rv3.2), (eS 1 (DV.i .i64) rv4.2), (eS 1 (DV.i .i64) ((rv3.2.getD ((rv2).toNat) default).Heard)), (eS 1 (DV.i .i64) ((rv3.2.getD ((rv2).toNat) default).Asked)), (eS 1 (DV.i .i64) ((rv3.2.getD ((rv2).toNat) default).Used))] [(Ob.box (vl p0)), (Ob.box (AV.agg [(vi rv3.1), (AV.ref 5 rv3.2.length 0 rv3.2.length)])), (Ob.box (AV.agg [(vi rv3.1), (AV.ref 5 rv3.2.length 0 rv3.2.length)])), Ob.dead, Ob.dead, (opS 7 TApiPot.e ((rv2).toNat) (AV.agg [(AV.d (DV.str ((rv3.2.getD ((rv2).toNat) default).Code))), (vi ((rv3.2.getD ((rv2).toNat) default).Year)), (vi ((rv3.2.getD ((rv2).toNat) default).Total)), (AV.ref 6 rv4.2.length 0 rv4.2.length), (AV.ref 7 (((rv3.2.getD ((rv2).toNat) default).Heard).length) 0 (((rv3.2.getD ((rv2).toNat) default).Heard).length)), (AV.ref 8 (((rv3.2.getD ((rv2).toNat) default).Asked).length) 0 (((rv3.2.getD ((rv2).toNat) default).Asked).length)), (AV.ref 9 (((rv3.2.getD ((rv2).toNat) default).Used).length) 0 (((rv3.2.getD ((rv2).toNat) default).Used).length))]) rv3.2), (eS 1 (DV.i .i64) rv4.2), (eS 1 (DV.i .i64) ((rv3.2.getD ((rv2).toNat) default).Heard)), (eS 1 (DV.i .i64) ((rv3.2.getD ((rv2).toNat) default).Asked)), (eS 1 (DV.i .i64) ((rv3.2.getD ((rv2).toNat) default).Used))] (fun h => ⟨rfl, by rw [h]⟩) <|
.guard [rv4.2.length < 2 ^ 63 ∧ ((rv3.2.getD ((rv2).toNat) default).Heard).length < 2 ^ 63 ∧ ((rv3.2.getD ((rv2).toNat) default).Asked).length < 2 ^ 63 ∧ ((rv3.2.getD ((rv2).toNat) default).Used).length < 2 ^ 63] <|
.sh (A := rv4.2.length < 2 ^ 63 ∧ ((rv3.2.getD ((rv2).toNat) default).Heard).length < 2 ^ 63 ∧ ((rv3.2.getD ((rv2).toNat) default).Asked).length < 2 ^ 63 ∧ ((rv3.2.getD ((rv2).toNat) default).Used).length < 2 ^ 63) (.ev 0) [(8, (vp 2)), (9, (vi 0))] [(8, (vp 2)), (9, (vi 0))] [(Ob.box (vl p0)), (Ob.box (AV.agg [(vi rv3.1), (AV.ref 5 rv3.2.length 0 rv3.2.length)])), (Ob.box (AV.agg [(vi rv3.1), (AV.ref 5 rv3.2.length 0 rv3.2.length)])), Ob.dead, Ob.dead, (opS 7 TApiPot.e ((rv2).toNat) (AV.agg [(AV.d (DV.str ((rv3.2.getD ((rv2).toNat) default).Code))), (vi ((rv3.2.getD ((rv2).toNat) default).Year)), (vi ((rv3.2.getD ((rv2).toNat) default).Total)), (AV.ref 6 rv4.2.length 0 rv4.2.length), (AV.ref 7 (((rv3.2.getD ((rv2).toNat) default).Heard).length) 0 (((rv3.2.getD ((rv2).toNat) default).Heard).length)), (AV.ref 8 (((rv3.2.getD ((rv2).toNat) default).Asked).length) 0 (((rv3.2.getD ((rv2).toNat) default).Asked).length)), (AV.ref 9 (((rv3.2.getD ((rv2).toNat) default).Used).length) 0 (((rv3.2.getD ((rv2).toNat) default).Used).length))]) rv3.2), (eS 1 (DV.i .i64) rv4.2), (eS 1 (DV.i .i64) ((rv3.2.getD ((rv2).toNat) default).Heard)), (eS 1 (DV.i .i64) ((rv3.2.getD ((rv2).toNat) default).Asked)), (eS 1 (DV.i .i64) ((rv3.2.getD ((rv2).toNat) default).Used))] [(Ob.box (vl p0)), (Ob.box (AV.agg [(vi rv3.1), (AV.ref 5 rv3.2.length 0 rv3.2.length)])), (Ob.box (AV.agg [(vi rv3.1), (AV.ref 5 rv3.2.length 0 rv3.2.length)])), Ob.dead, Ob.dead, (eS 7 TApiPot.e (rv3.2.set ((rv2).toNat) (⟨(rv3.2.getD ((rv2).toNat) default).Code, (rv3.2.getD ((rv2).toNat) default).Year, (rv3.2.getD ((rv2).toNat) default).Total, rv4.2, (rv3.2.getD ((rv2).toNat) default).Heard, (rv3.2.getD ((rv2).toNat) default).Asked, (rv3.2.getD ((rv2).toNat) default).Used⟩ : TApiPot))), Ob.dead, Ob.dead, Ob.dead, Ob.dead] (fun h => shift_close oTApiPot (P := [(Ob.box (vl p0)), (Ob.box (AV.agg [(vi rv3.1), (AV.ref 5 rv3.2.length 0 rv3.2.length)])), (Ob.box (AV.agg [(vi rv3.1), (AV.ref 5 rv3.2.length 0 rv3.2.length)])), Ob.dead, Ob.dead]) (D := []) rfl (⟨(rv3.2.getD ((rv2).toNat) default).Code, (rv3.2.getD ((rv2).toNat) default).Year, (rv3.2.getD ((rv2).toNat) default).Total, [], [], [], []⟩ : TApiPot) (⟨(rv3.2.getD ((rv2).toNat) default).Code, (rv3.2.getD ((rv2).toNat) default).Year, (rv3.2.getD ((rv2).toNat) default).Total, rv4.2, (rv3.2.getD ((rv2).toNat) default).Heard, (rv3.2.getD ((rv2).toNat) default).Asked, (rv3.2.getD ((rv2).toNat) default).Used⟩ : TApiPot) h rfl) (trF_refl _) <|
.cst (A := True) (.pf trivial) [(8, (vp 2)), (9, (vi 0))] [(8, (vp 2)), (9, (vi 0))] [(Ob.box (vl p0)), (Ob.box (AV.agg [(vi rv3.1), (AV.ref 5 rv3.2.length 0 rv3.2.length)])), (Ob.box (AV.agg [(vi rv3.1), (AV.ref 5 rv3.2.length 0 rv3.2.length)])), Ob.dead, Ob.dead, (eS 7 TApiPot.e (rv3.2.set ((rv2).toNat) (⟨(rv3.2.getD ((rv2).toNat) default).Code, (rv3.2.getD ((rv2).toNat) default).Year, (rv3.2.getD ((rv2).toNat) default).Total, rv4.2, (rv3.2.getD ((rv2).toNat) default).Heard, (rv3.2.getD ((rv2).toNat) default).Asked, (rv3.2.getD ((rv2).toNat) default).Used⟩ : TApiPot))), Ob.dead, Ob.dead, Ob.dead, Ob.dead] [(Ob.box (vl p0)), (Ob.box (AV.agg [(vi rv3.1), (AV.ref 5 ((rv3.2.set ((rv2).toNat) (⟨(rv3.2.getD ((rv2).toNat) default).Code, (rv3.2.getD ((rv2).toNat) default).Year, (rv3.2.getD ((rv2).toNat) default).Total, rv4.2, (rv3.2.getD ((rv2).toNat) default).Heard, (rv3.2.getD ((rv2).toNat) default).Asked, (rv3.2.getD ((rv2).toNat) default).Used⟩ : TApiPot)).length) 0 ((rv3.2.set ((rv2).toNat) (⟨(rv3.2.getD ((rv2).toNat) default).Code, (rv3.2.getD ((rv2).toNat) default).Year, (rv3.2.getD ((rv2).toNat) default).Total, rv4.2, (rv3.2.getD ((rv2).toNat) default).Heard, (rv3.2.getD ((rv2).toNat) default).Asked, (rv3.2.getD ((rv2).toNat) default).Used⟩ : TApiPot)).length))])), (Ob.box (AV.agg [(vi rv3.1), (AV.ref 5 ((rv3.2.set ((rv2).toNat) (⟨(rv3.2.getD ((rv2).toNat) default).Code, (rv3.2.getD ((rv2).toNat) default).Year, (rv3.2.getD ((rv2).toNat) default).Total, rv4.2, (rv3.2.getD ((rv2).toNat) default).Heard, (rv3.2.getD ((rv2).toNat) default).Asked, (rv3.2.getD ((rv2).toNat) default).Used⟩ : TApiPot)).length) 0 ((rv3.2.set ((rv2).toNat) (⟨(rv3.2.getD ((rv2).toNat) default).Code, (rv3.2.getD ((rv2).toNat) default).Year, (rv3.2.getD ((rv2).toNat) default).Total, rv4.2, (rv3.2.getD ((rv2).toNat) default).Heard, (rv3.2.getD ((rv2).toNat) default).Asked, (rv3.2.getD ((rv2).toNat) default).Used⟩ : TApiPot)).length))])), Ob.dead, Ob.dead, (eS 7 TApiPot.e (rv3.2.set ((rv2).toNat) (⟨(rv3.2.getD ((rv2).toNat) default).Code, (rv3.2.getD ((rv2).toNat) default).Year, (rv3.2.getD ((rv2).toNat) default).Total, rv4.2, (rv3.2.getD ((rv2).toNat) default).Heard, (rv3.2.getD ((rv2).toNat) default).Asked, (rv3.2.getD ((rv2).toNat) default).Used⟩ : TApiPot))), Ob.dead, Ob.dead, Ob.dead, Ob.dead] (fun _ => ⟨by simp only, by simp only [List.length_set]⟩) <|
.guard [(rv3.2.set ((rv2).toNat) (⟨(rv3.2.getD ((rv2).toNat) default).Code, (rv3.2.getD ((rv2).toNat) default).Year, (rv3.2.getD ((rv2).toNat) default).Total, rv4.2, (rv3.2.getD ((rv2).toNat) default).Heard, (rv3.2.getD ((rv2).toNat) default).Asked, (rv3.2.getD ((rv2).toNat) default).Used⟩ : TApiPot)).length < 2 ^ 63] <|
.frz 5 (.ev 0) none [] [1, 2] <|
.ret [] ((⟨rv3.1, (rv3.2.set ((rv2).toNat) (⟨(rv3.2.getD ((rv2).toNat) default).Code, (rv3.2.getD ((rv2).toNat) default).Year, (rv3.2.getD ((rv2).toNat) default).Total, rv4.2, (rv3.2.getD ((rv2).toNat) default).Heard, (rv3.2.getD ((rv2).toNat) default).Asked, (rv3.2.getD ((rv2).toNat) default).Used⟩ : TApiPot))⟩ : TApiTreasury), 0))))
def F_rights_change_rights_Divide_1 (a0 : TApiTreasury) (a1 : List UInt8) (a2 : Int) (p0 : (List Int)) : Option R_rights_change_rights_Divide_1 := (S_rights_change_rights_Divide_1 a0 a1 a2 p0).den
set_option maxRecDepth 100000 in
theorem F_rights_change_rights_Divide_1_ok {a0 : TApiTreasury} {a1 : List UInt8} {a2 : Int} {p0 : (List Int)} (r : R_rights_change_rights_Divide_1) (h : F_rights_change_rights_Divide_1 a0 a1 a2 p0 = some r) : CallOk Tryd.prog 31 [(AV.d (TApiTreasury.e a0)), (AV.d (DV.str a1)), (vi a2), (AV.fn 32 [(vp 0)])] [(Ob.box (vl p0))] (V_rights_change_rights_Divide_1 r) (L_rights_change_rights_Divide_1 p0 r) := fOk (s := S_rights_change_rights_Divide_1 a0 a1 a2 p0) Tryd.func31 rfl (by kernel_rfl) h
/-! 14 -/
abbrev R_rights_Divide := TApiTreasury × Int
def V_rights_Divide (x : R_rights_Divide) : AV := (AV.tup [(AV.d (TApiTreasury.e x.1)), (vi x.2)])
def L_rights_Divide (_ : R_rights_Divide) : List Ob := []
def S_rights_Divide (a0 : TApiTreasury) (a1 : List UInt8) (a2 : Int) (a3 : (List Int)) : Scr Tryd.prog R_rights_Divide R_rights_Divide :=
.reg 0 [] [(2, { obs := [(2, (bx (TApiTreasury.e (⟨0, []⟩ : TApiTreasury))))] })] [.pf cz3] <|
.call (@F_rights_change_rights_Divide_1_ok a0 a1 a2 a3) fun rv1 cv1 =>
.reg 1 [] [(4, hc cv1 [1] true)] [.cl 0 cv1 [1] 3 true] <|
.ret [] (rv1.1, rv1.2)
def F_rights_Divide (a0 : TApiTreasury) (a1 : List UInt8) (a2 : Int) (a3 : (List Int)) : Option R_rights_Divide := (S_rights_Divide a0 a1 a2 a3).den
set_option maxRecDepth 100000 in
theorem F_rights_Divide_ok {a0 : TApiTreasury} {a1 : List UInt8} {a2 : Int} {a3 : (List Int)} (r : R_rights_Divide) (h : F_rights_Divide a0 a1 a2 a3 = some r) : CallOk Tryd.prog 14 [(AV.d (TApiTreasury.e a0)), (AV.d (DV.str a1)), (vi a2), (vl a3)] [] (V_rights_Divide r) (L_rights_Divide r) := fOk (s := S_rights_Divide a0 a1 a2 a3) Tryd.func14 rfl (by kernel_rfl) h
/-! 15 -/
theorem cz5 : LeV (AV.d (DV.agg [(DV.str ([])), (DV.i .i64 0), (DV.i .i64 0), Z0, Z0, Z0, Z0])) (AV.d (TApiPot.e (⟨[], 0, 0, [], [], [], []⟩ : TApiPot))) := leV_dle rfl (DLe.agg (DLeL.cons (DLe.refl _) (DLeL.cons (DLe.refl _) (DLeL.cons (DLe.refl _) (DLeL.cons DLe.sl0 (DLeL.cons DLe.sl0 (DLeL.cons DLe.sl0 (DLeL.cons DLe.sl0 DLeL.nil))))))))
abbrev R_rights_Pot := TApiPot × Bool
def V_rights_Pot (x : R_rights_Pot) : AV := (AV.tup [(AV.d (TApiPot.e x.1)), (vb x.2)])
def L_rights_Pot (_ : R_rights_Pot) : List Ob := []
def S_rights_Pot (a0 : TApiTreasury) (a1 : List UInt8) (a2 : Int) : Scr Tryd.prog R_rights_Pot R_rights_Pot :=
.reg 0 [] [(1, { obs := [(1, (bx (TApiPot.e (⟨[], 0, 0, [], [], [], []⟩ : TApiPot))))] })] [.pf cz1] <|
.call (@F_rights_find_ok a0 a1 a2) fun rv1 cv1 =>
.reg 1 [] [(3, hc cv1 [] true)] [.cl 0 cv1 [] 2 true] <|
.ite (decide (rv1 < 0)) (
.reg 3 [] [(0, hv (AV.d (TApiPot.e (⟨[], 0, 0, [], [], [], []⟩ : TApiPot))))] [.pf cz5] <|
.ret [] ((⟨[], 0, 0, [], [], [], []⟩ : TApiPot), false)) (
.call (@F_rights_copied_ok (a0.Pots.getD ((rv1).toNat) default)) fun rv2 cv2 =>
.guard [(0 : Int) ≤ rv1, (rv1).toNat < a0.Pots.length] <|
.reg 4 [] [(5, hc cv2 [] true)] [.ev 0, .ev 1, .cl 2 cv2 [] 2 true] <|
.ret [] (rv2, true))
def F_rights_Pot (a0 : TApiTreasury) (a1 : List UInt8) (a2 : Int) : Option R_rights_Pot := (S_rights_Pot a0 a1 a2).den
set_option maxRecDepth 100000 in
theorem F_rights_Pot_ok {a0 : TApiTreasury} {a1 : List UInt8} {a2 : Int} (r : R_rights_Pot) (h : F_rights_Pot a0 a1 a2 = some r) : CallOk Tryd.prog 15 [(AV.d (TApiTreasury.e a0)), (AV.d (DV.str a1)), (vi a2)] [] (V_rights_Pot r) (L_rights_Pot r) := fOk (s := S_rights_Pot a0 a1 a2) Tryd.func15 rfl (by kernel_rfl) h
/-! 16 -/
abbrev R_rights_Shortfall := Int
def V_rights_Shortfall (x : R_rights_Shortfall) : AV := (vi x)
def L_rights_Shortfall (_ : R_rights_Shortfall) : List Ob := []
def S_rights_Shortfall (a0 : TApiPot) : Scr Tryd.prog R_rights_Shortfall R_rights_Shortfall :=
.call (@F_rights_Out_ok a0) fun rv1 cv1 =>
.reg 1 [] [(1, hc cv1 [] true)] [.cl 0 cv1 [] 1 true] <|
.ret [] (if 0 > (IntKind.i64.wrap (rv1 - a0.Total)) then 0 else (IntKind.i64.wrap (rv1 - a0.Total)))
def F_rights_Shortfall (a0 : TApiPot) : Option R_rights_Shortfall := (S_rights_Shortfall a0).den
set_option maxRecDepth 100000 in
theorem F_rights_Shortfall_ok {a0 : TApiPot} (r : R_rights_Shortfall) (h : F_rights_Shortfall a0 = some r) : CallOk Tryd.prog 16 [(AV.d (TApiPot.e a0))] [] (V_rights_Shortfall r) (L_rights_Shortfall r) := fOk (s := S_rights_Shortfall a0) Tryd.func16 rfl (by kernel_rfl) h
/-! 37 -/
abbrev R_rights_Ask_1 := Int × (List Int)
def V_rights_Ask_1 (x : R_rights_Ask_1) : AV := (vi x.1)
def L_rights_Ask_1 (p0_0 : Nat) (p0_1 : (List TApiPot)) (p0_2 : List UInt8) (p0_3 : Int) (p0_4 : Int) (p1 : Int) (p2 : Int) (p3 : (List Int)) (p4 : (List Int)) (p5 : (List Int)) (p6 : (List Int)) (x : R_rights_Ask_1) : List Ob := [(opS 7 TApiPot.e p0_0 (AV.agg [(AV.d (DV.str p0_2)), (vi p0_3), (vi p0_4), (AV.ref 3 p3.length 0 p3.length), (AV.ref 4 p4.length 0 p4.length), (AV.ref 5 p5.length 0 p5.length), (AV.ref 6 p6.length 0 p6.length)]) p0_1), (Ob.box (vi p1)), (Ob.box (vi p2)), (eS 1 (DV.i .i64) p3), (eS 1 (DV.i .i64) p4), (eS 1 (DV.i .i64) x.2), (eS 1 (DV.i .i64) p6)]
def S_rights_Ask_1 (p0_0 : Nat) (p0_1 : (List TApiPot)) (_ : List UInt8) (_ : Int) (_ : Int) (p1 : Int) (p2 : Int) (p3 : (List Int)) (_ : (List Int)) (p5 : (List Int)) (_ : (List Int)) : Scr Tryd.prog R_rights_Ask_1 R_rights_Ask_1 :=
.call (@F_rights_among_ok p1 1 (p5.length : Int)) fun rv1 cv1 =>
.guard [p0_0 < p0_1.length] <|
.reg 1 [] [(6, hc cv1 [] true)] [.pf (Eq.refl p0_1.length), .pf (Eq.refl p0_1.length), .ev 0, .pf (p := decide (p0_0 = p0_0) = true) (decide_eq_true rfl), .cl 1 cv1 [] 7 true] <|
.ite (!rv1) (
.ret [] (6, p5)) (
.call (@F_rights_among_ok p2 1 1000000000000000) fun rv2 cv2 =>
.reg 3 [] [(1, hc cv2 [] true)] [.cl 0 cv2 [] 7 true] <|
.ite (!rv2) (
.ret [] (2, p5)) (
.guard [(0 : Int) ≤ (IntKind.i64.wrap (p1 - 1)), ((IntKind.i64.wrap (p1 - 1))).toNat < p5.length, (0 + ((IntKind.i64.wrap (p1 - 1))).toNat) < p5.length, ((IntKind.i64.wrap (p1 - 1))).toNat < p3.length, (0 + ((IntKind.i64.wrap (p1 - 1))).toNat) < p3.length] <|
.reg 5 [] [] [.pf (Eq.refl p0_1.length), .pf (Eq.refl p0_1.length), .ev 8, .pf (p := decide (p0_0 = p0_0) = true) (decide_eq_true rfl), .pf (Eq.refl p5.length), .ev 0, .ev 1, .pf (Eq.refl p5.length), .ev 2, .pf (Eq.refl p0_1.length), .pf (Eq.refl p0_1.length), .ev 8, .pf (p := decide (p0_0 = p0_0) = true) (decide_eq_true rfl), .pf (Eq.refl p3.length), .ev 0, .ev 3, .pf (Eq.refl p3.length), .ev 4] <|
.ite (decide ((IntKind.i64.wrap ((p5.getD (0 + ((IntKind.i64.wrap (p1 - 1))).toNat) default) + p2)) > (p3.getD (0 + ((IntKind.i64.wrap (p1 - 1))).toNat) default))) (
.ret [] (15, p5)) (
.reg 7 [11] [(11, { obs := [(5, (eS 1 (DV.i .i64) (p5.set (0 + ((IntKind.i64.wrap (p1 - 1))).toNat) (IntKind.i64.wrap ((p5.getD (0 + ((IntKind.i64.wrap (p1 - 1))).toNat) default) + p2)))))] })] [.pf (Eq.refl p0_1.length), .pf (Eq.refl p0_1.length), .ev 9, .pf (p := decide (p0_0 = p0_0) = true) (decide_eq_true rfl), .pf (Eq.refl p5.length), .ev 1, .ev 2, .pf (Eq.refl p5.length), .ev 3, .pf (Eq.refl p5.length), .ev 1, .ev 2, .pf (Eq.refl p5.length), .ev 3, .pf (oLe_set (sz := 1) (e := (DV.i .i64)) (l := p5) (i := (0 + ((IntKind.i64.wrap (p1 - 1))).toNat)) (x := (IntKind.i64.wrap ((p5.getD (0 + ((IntKind.i64.wrap (p1 - 1))).toNat) default) + p2))) (fun _ => rfl))] <|
.ret [] (0, (p5.set (0 + ((IntKind.i64.wrap (p1 - 1))).toNat) (IntKind.i64.wrap ((p5.getD (0 + ((IntKind.i64.wrap (p1 - 1))).toNat) default) + p2)))))))
def F_rights_Ask_1 (p0_0 : Nat) (p0_1 : (List TApiPot)) (p0_2 : List UInt8) (p0_3 : Int) (p0_4 : Int) (p1 : Int) (p2 : Int) (p3 : (List Int)) (p4 : (List Int)) (p5 : (List Int)) (p6 : (List Int)) : Option R_rights_Ask_1 := (S_rights_Ask_1 p0_0 p0_1 p0_2 p0_3 p0_4 p1 p2 p3 p4 p5 p6).den
set_option maxRecDepth 100000 in
theorem F_rights_Ask_1_ok {p0_0 : Nat} {p0_1 : (List TApiPot)} {p0_2 : List UInt8} {p0_3 : Int} {p0_4 : Int} {p1 : Int} {p2 : Int} {p3 : (List Int)} {p4 : (List Int)} {p5 : (List Int)} {p6 : (List Int)} (r : R_rights_Ask_1) (h : F_rights_Ask_1 p0_0 p0_1 p0_2 p0_3 p0_4 p1 p2 p3 p4 p5 p6 = some r) : CallOk Tryd.prog 37 [(AV.ptr 0 p0_1.length [.x p0_0 7]), (vp 1), (vp 2)] [(opS 7 TApiPot.e p0_0 (AV.agg [(AV.d (DV.str p0_2)), (vi p0_3), (vi p0_4), (AV.ref 3 p3.length 0 p3.length), (AV.ref 4 p4.length 0 p4.length), (AV.ref 5 p5.length 0 p5.length), (AV.ref 6 p6.length 0 p6.length)]) p0_1), (Ob.box (vi p1)), (Ob.box (vi p2)), (eS 1 (DV.i .i64) p3), (eS 1 (DV.i .i64) p4), (eS 1 (DV.i .i64) p5), (eS 1 (DV.i .i64) p6)] (V_rights_Ask_1 r) (L_rights_Ask_1 p0_0 p0_1 p0_2 p0_3 p0_4 p1 p2 p3 p4 p5 p6 r) := fOk (s := S_rights_Ask_1 p0_0 p0_1 p0_2 p0_3 p0_4 p1 p2 p3 p4 p5 p6) Tryd.func37 rfl (by kernel_rfl) h
end
end Go.Proofs.YtkabfdfkegjfdaaDoor
/- What the functions compute, and that their calls return it. No condition. -/
namespace Go.Proofs.YtkabfdfkegjfdaaDoor
open Go Go.TA
noncomputable section
/-! 31 -/
abbrev R_rights_change_rights_Ask_1 := TApiTreasury × Int
def V_rights_change_rights_Ask_1 (x : R_rights_change_rights_Ask_1) : AV := (AV.tup [(AV.d (TApiTreasury.e x.1)), (vi x.2)])
def L_rights_change_rights_Ask_1 (p0 : Int) (p1 : Int) (_ : R_rights_change_rights_Ask_1) : List Ob := [(Ob.box (vi p0)), (Ob.box (vi p1))]
def S_rights_change_rights_Ask_1 (a0 : TApiTreasury) (a1 : List UInt8) (a2 : Int) (p0 : Int) (p1 : Int) : Scr Tryd.prog R_rights_change_rights_Ask_1 R_rights_change_rights_Ask_1 :=
.reg 0 [] [(1, { obs := [(3, (bx (TApiTreasury.e (⟨0, []⟩ : TApiTreasury))))] })] [.pf cz3] <|
.call (@F_rights_Valid_ok a0) fun rv1 cv1 =>
.reg 1 [] [(1, hc cv1 [] true)] [.cl 0 cv1 [] 4 true] <|
.ite (!rv1) (
.reg 2 [] [(0, hv (AV.d (TApiTreasury.e (⟨0, []⟩ : TApiTreasury))))] [.pf cz4] <|
.ret [] ((⟨0, []⟩ : TApiTreasury), 1)) (
.call (@F_rights_find_ok a0 a1 a2) fun rv2 cv2 =>
.reg 3 [] [(3, hc cv2 [] true)] [.cl 0 cv2 [] 4 true] <|
.ite (decide (rv2 < 0)) (
.reg 5 [] [(0, hv (AV.d (TApiTreasury.e (⟨0, []⟩ : TApiTreasury))))] [.pf cz4] <|
.ret [] ((⟨0, []⟩ : TApiTreasury), 6)) (
.call (@F_rights_fresh_op_ok a0 ((rv2).toNat)) fun rv3 cv3 =>
.reg 6 [] [(1, hc cv3 [] false)] [.cl 0 cv3 [] 4 false] <|
.kill 5 <|
.call (@F_rights_Ask_1_ok ((rv2).toNat) rv3.2 ((rv3.2.getD ((rv2).toNat) default).Code) ((rv3.2.getD ((rv2).toNat) default).Year) ((rv3.2.getD ((rv2).toNat) default).Total) p0 p1 ((rv3.2.getD ((rv2).toNat) default).Granted) ((rv3.2.getD ((rv2).toNat) default).Heard) ((rv3.2.getD ((rv2).toNat) default).Asked) ((rv3.2.getD ((rv2).toNat) default).Used)) fun rv4 cv4 =>
.guard [(0 : Int) ≤ rv2, (rv2).toNat < rv3.2.length] <|
.reg 7 [] [(4, hv (AV.ptr 6 rv3.2.length [.x ((rv2).toNat) 7])), (5, hc cv4 [6, 0, 1, 7, 8, 9, 10] false)] [.pf (Eq.refl rv3.2.length), .ev 0, .ev 1, .pf (p := LeV (AV.ptr 6 rv3.2.length [.x (0 + ((rv2).toNat)) 7]) (AV.ptr 6 rv3.2.length [.x ((rv2).toNat) 7])) (leV_ix), .cl 2 cv4 [6, 0, 1, 7, 8, 9, 10] 11 false] <|
.ite (rv4.1 != 0) (
.reg 9 [] [(0, hv (AV.d (TApiTreasury.e (⟨0, []⟩ : TApiTreasury))))] [.pf cz4] <|
.ret [] ((⟨0, []⟩ : TApiTreasury), rv4.1)) (
.reg 10 [] [] [] <|
.guard [rv4.2.length = ((rv3.2.getD ((rv2).toNat) default).Asked).length] <|
.cst (A := rv4.2.length = ((rv3.2.getD ((rv2).toNat) default).Asked).length) (.ev 0) [(8, (vp 3)), (9, (vi 0))] [(8, (vp 3)), (9, (vi 0))] [(Ob.box (vi p0)), (Ob.box (vi p1)), (Ob.box (AV.agg [(vi rv3.1), (AV.ref 6 rv3.2.length 0 rv3.2.length)])), (Ob.box (AV.agg [(vi rv3.1), (AV.ref 6 rv3.2.length 0 rv3.2.length)])), Ob.dead, Ob.dead, (opS 7 TApiPot.e ((rv2).toNat) (AV.agg [(AV.d (DV.str ((rv3.2.getD ((rv2).toNat) default).Code))), (vi ((rv3.2.getD ((rv2).toNat) default).Year)), (vi ((rv3.2.getD ((rv2).toNat) default).Total)), (AV.ref 7 (((rv3.2.getD ((rv2).toNat) default).Granted).length) 0 (((rv3.2.getD ((rv2).toNat) default).Granted).length)), (AV.ref 8 (((rv3.2.getD ((rv2).toNat) default).Heard).length) 0 (((rv3.2.getD ((rv2).toNat) default).Heard).length)), (AV.ref 9 (((rv3.2.getD ((rv2).toNat) default).Asked).length) 0 (((rv3.2.getD ((rv2).toNat) default).Asked).length)), (AV.ref 10 (((rv3.2.getD ((rv2).toNat) default).Used).length) 0 (((rv3.2.getD ((rv2).toNat) default).Used).length))]) rv3.2), (eS 1 (DV.i .i64) ((rv3.2.getD ((rv2).toNat) default).Granted)), (eS 1 (DV.i .i64) ((rv3.2.getD ((rv2).toNat) default).Heard)), (eS 1 (DV.i .i64) rv4.2), (eS 1 (DV.i .i64) ((rv3.2.getD ((rv2).toNat) default).Used))] [(Ob.box (vi p0)), (Ob.box (vi p1)), (Ob.box (AV.agg [(vi rv3.1), (AV.ref 6 rv3.2.length 0 rv3.2.length)])), (Ob.box (AV.agg [(vi rv3.1), (AV.ref 6 rv3.2.length 0 rv3.2.length)])), Ob.dead, Ob.dead, (opS 7 TApiPot.e ((rv2).toNat) (AV.agg [(AV.d (DV.str ((rv3.2.getD ((rv2).toNat) default).Code))), (vi ((rv3.2.getD ((rv2).toNat) default).Year)), (vi ((rv3.2.getD ((rv2).toNat) default).Total)), (AV.ref 7 (((rv3.2.getD ((rv2).toNat) default).Granted).length) 0 (((rv3.2.getD ((rv2).toNat) default).Granted).length)), (AV.ref 8 (((rv3.2.getD ((rv2).toNat) default).Heard).length) 0 (((rv3.2.getD ((rv2).toNat) default).Heard).length)), (AV.ref 9 rv4.2.length 0 rv4.2.length), (AV.ref 10 (((rv3.2.getD ((rv2).toNat) default).Used).length) 0 (((rv3.2.getD ((rv2).toNat) default).Used).length))]) rv3.2), (eS 1 (DV.i .i64) ((rv3.2.getD ((rv2).toNat) default).Granted)), (eS 1 (DV.i .i64) ((rv3.2.getD ((rv2).toNat) default).Heard)), (eS 1 (DV.i .i64) rv4.2), (eS 1 (DV.i .i64) ((rv3.2.getD ((rv2).toNat) default).Used))] (fun h => ⟨rfl, by rw [h]⟩) <|
.guard [((rv3.2.getD ((rv2).toNat) default).Granted).length < 2 ^ 63 ∧ ((rv3.2.getD ((rv2).toNat) default).Heard).length < 2 ^ 63 ∧ rv4.2.length < 2 ^ 63 ∧ ((rv3.2.getD ((rv2).toNat) default).Used).length < 2 ^ 63] <|
.sh (A := ((rv3.2.getD ((rv2).toNat) default).Granted).length < 2 ^ 63 ∧ ((rv3.2.getD ((rv2).toNat) default).Heard).length < 2 ^ 63 ∧ rv4.2.length < 2 ^ 63 ∧ ((rv3.2.getD ((rv2).toNat) default).Used).length < 2 ^ 63) (.ev 0) [(8, (vp 3)), (9, (vi 0))] [(8, (vp 3)), (9, (vi 0))] [(Ob.box (vi p0)), (Ob.box (vi p1)), (Ob.box (AV.agg [(vi rv3.1), (AV.ref 6 rv3.2.length 0 rv3.2.length)])), (Ob.box (AV.agg [(vi rv3.1), (AV.ref 6 rv3.2.length 0 rv3.2.length)])), Ob.dead, Ob.dead, (opS 7 TApiPot.e ((rv2).toNat) (AV.agg [(AV.d (DV.str ((rv3.2.getD ((rv2).toNat) default).Code))), (vi ((rv3.2.getD ((rv2).toNat) default).Year)), (vi ((rv3.2.getD ((rv2).toNat) default).Total)), (AV.ref 7 (((rv3.2.getD ((rv2).toNat) default).Granted).length) 0 (((rv3.2.getD ((rv2).toNat) default).Granted).length)), (AV.ref 8 (((rv3.2.getD ((rv2).toNat) default).Heard).length) 0 (((rv3.2.getD ((rv2).toNat) default).Heard).length)), (AV.ref 9 rv4.2.length 0 rv4.2.length), (AV.ref 10 (((rv3.2.getD ((rv2).toNat) default).Used).length) 0 (((rv3.2.getD ((rv2).toNat) default).Used).length))]) rv3.2), (eS 1 (DV.i .i64) ((rv3.2.getD ((rv2).toNat) default).Granted)), (eS 1 (DV.i .i64) ((rv3.2.getD ((rv2).toNat) default).Heard)), (eS 1 (DV.i .i64) rv4.2), (eS 1 (DV.i .i64) ((rv3.2.getD ((rv2).toNat) default).Used))] [(Ob.box (vi p0)), (Ob.box (vi p1)), (Ob.box (AV.agg [(vi rv3.1), (AV.ref 6 rv3.2.length 0 rv3.2.length)])), (Ob.box (AV.agg [(vi rv3.1), (AV.ref 6 rv3.2.length 0 rv3.2.length)])), Ob.dead, Ob.dead, (eS 7 TApiPot.e (rv3.2.set ((rv2).toNat) (⟨(rv3.2.getD ((rv2).toNat) default).Code, (rv3.2.getD ((rv2).toNat) default).Year, (rv3.2.getD ((rv2).toNat) default).Total, (rv3.2.getD ((rv2).toNat) default).Granted, (rv3.2.getD ((rv2).toNat) default).Heard, rv4.2, (rv3.2.getD ((rv2).toNat) default).Used⟩ : TApiPot))), Ob.dead, Ob.dead, Ob.dead, Ob.dead] (fun h => shift_close oTApiPot (P := [(Ob.box (vi p0)), (Ob.box (vi p1)), (Ob.box (AV.agg [(vi rv3.1), (AV.ref 6 rv3.2.length 0 rv3.2.length)])), (Ob.box (AV.agg [(vi rv3.1), (AV.ref 6 rv3.2.length 0 rv3.2.length)])), Ob.dead, Ob.dead]) (D := []) rfl (⟨(rv3.2.getD ((rv2).toNat) default).Code, (rv3.2.getD ((rv2).toNat) default).Year, (rv3.2.getD ((rv2).toNat) default).Total, [], [], [], []⟩ : TApiPot) (⟨(rv3.2.getD ((rv2).toNat) default).Code, (rv3.2.getD ((rv2).toNat) default).Year, (rv3.2.getD ((rv2).toNat) default).Total, (rv3.2.getD ((rv2).toNat) default).Granted, (rv3.2.getD ((rv2).toNat) default).Heard, rv4.2, (rv3.2.getD ((rv2).toNat) default).Used⟩ : TApiPot) h rfl) (trF_refl _) <|
.cst (A := True) (.pf trivial) [(8, (vp 3)), (9, (vi 0))] [(8, (vp 3)), (9, (vi 0))] [(Ob.box (vi p0)), (Ob.box (vi p1)), (Ob.box (AV.agg [(vi rv3.1), (AV.ref 6 rv3.2.length 0 rv3.2.length)])), (Ob.box (AV.agg [(vi rv3.1), (AV.ref 6 rv3.2.length 0 rv3.2.length)])), Ob.dead, Ob.dead, (eS 7 TApiPot.e (rv3.2.set ((rv2).toNat) (⟨(rv3.2.getD ((rv2).toNat) default).Code, (rv3.2.getD ((rv2).toNat) default).Year, (rv3.2.getD ((rv2).toNat) default).Total, (rv3.2.getD ((rv2).toNat) default).Granted, (rv3.2.getD ((rv2).toNat) default).Heard, rv4.2, (rv3.2.getD ((rv2).toNat) default).Used⟩ : TApiPot))), Ob.dead, Ob.dead, Ob.dead, Ob.dead] [(Ob.box (vi p0)), (Ob.box (vi p1)), (Ob.box (AV.agg [(vi rv3.1), (AV.ref 6 ((rv3.2.set ((rv2).toNat) (⟨(rv3.2.getD ((rv2).toNat) default).Code, (rv3.2.getD ((rv2).toNat) default).Year, (rv3.2.getD ((rv2).toNat) default).Total, (rv3.2.getD ((rv2).toNat) default).Granted, (rv3.2.getD ((rv2).toNat) default).Heard, rv4.2, (rv3.2.getD ((rv2).toNat) default).Used⟩ : TApiPot)).length) 0 ((rv3.2.set ((rv2).toNat) (⟨(rv3.2.getD ((rv2).toNat) default).Code, (rv3.2.getD ((rv2).toNat) default).Year, (rv3.2.getD ((rv2).toNat) default).Total, (rv3.2.getD ((rv2).toNat) default).Granted, (rv3.2.getD ((rv2).toNat) default).Heard, rv4.2, (rv3.2.getD ((rv2).toNat) default).Used⟩ : TApiPot)).length))])), (Ob.box (AV.agg [(vi rv3.1), (AV.ref 6 ((rv3.2.set ((rv2).toNat) (⟨(rv3.2.getD ((rv2).toNat) default).Code, (rv3.2.getD ((rv2).toNat) default).Year, (rv3.2.getD ((rv2).toNat) default).Total, (rv3.2.getD ((rv2).toNat) default).Granted, (rv3.2.getD ((rv2).toNat) default).Heard, rv4.2, (rv3.2.getD ((rv2).toNat) default).Used⟩ : TApiPot)).length) 0 ((rv3.2.set ((rv2).toNat) (⟨(rv3.2.getD ((rv2).toNat) default).Code, (rv3.2.getD ((rv2).toNat) default).Year, (rv3.2.getD ((rv2).toNat) default).Total, (rv3.2.getD ((rv2).toNat) default).Granted, (rv3.2.getD ((rv2).toNat) default).Heard, rv4.2, (rv3.2.getD ((rv2).toNat) default).Used⟩ : TApiPot)).length))])), Ob.dead, Ob.dead, (eS 7 TApiPot.e (rv3.2.set ((rv2).toNat) (⟨(rv3.2.getD ((rv2).toNat) default).Code, (rv3.2.getD ((rv2).toNat) default).Year, (rv3.2.getD ((rv2).toNat) default).Total, (rv3.2.getD ((rv2).toNat) default).Granted, (rv3.2.getD ((rv2).toNat) default).Heard, rv4.2, (rv3.2.getD ((rv2).toNat) default).Used⟩ : TApiPot))), Ob.dead, Ob.dead, Ob.dead, Ob.dead] (fun _ => ⟨by simp only, by simp only [List.length_set]⟩) <|
.guard [(rv3.2.set ((rv2).toNat) (⟨(rv3.2.getD ((rv2).toNat) default).Code, (rv3.2.getD ((rv2).toNat) default).Year, (rv3.2.getD ((rv2).toNat) default).Total, (rv3.2.getD ((rv2).toNat) default).Granted, (rv3.2.getD ((rv2).toNat) default).Heard, rv4.2, (rv3.2.getD ((rv2).toNat) default).Used⟩ : TApiPot)).length < 2 ^ 63] <|
.frz 6 (.ev 0) none [] [2, 3] <|
.ret [] ((⟨rv3.1, (rv3.2.set ((rv2).toNat) (⟨(rv3.2.getD ((rv2).toNat) default).Code, (rv3.2.getD ((rv2).toNat) default).Year, (rv3.2.getD ((rv2).toNat) default).Total, (rv3.2.getD ((rv2).toNat) default).Granted, (rv3.2.getD ((rv2).toNat) default).Heard, rv4.2, (rv3.2.getD ((rv2).toNat) default).Used⟩ : TApiPot))⟩ : TApiTreasury), 0))))
def F_rights_change_rights_Ask_1 (a0 : TApiTreasury) (a1 : List UInt8) (a2 : Int) (p0 : Int) (p1 : Int) : Option R_rights_change_rights_Ask_1 := (S_rights_change_rights_Ask_1 a0 a1 a2 p0 p1).den
set_option maxRecDepth 100000 in
theorem F_rights_change_rights_Ask_1_ok {a0 : TApiTreasury} {a1 : List UInt8} {a2 : Int} {p0 : Int} {p1 : Int} (r : R_rights_change_rights_Ask_1) (h : F_rights_change_rights_Ask_1 a0 a1 a2 p0 p1 = some r) : CallOk Tryd.prog 31 [(AV.d (TApiTreasury.e a0)), (AV.d (DV.str a1)), (vi a2), (AV.fn 37 [(vp 0), (vp 1)])] [(Ob.box (vi p0)), (Ob.box (vi p1))] (V_rights_change_rights_Ask_1 r) (L_rights_change_rights_Ask_1 p0 p1 r) := fOk (s := S_rights_change_rights_Ask_1 a0 a1 a2 p0 p1) Tryd.func31 rfl (by kernel_rfl) h
/-! 17 -/
abbrev R_rights_Ask := TApiTreasury × Int
def V_rights_Ask (x : R_rights_Ask) : AV := (AV.tup [(AV.d (TApiTreasury.e x.1)), (vi x.2)])
def L_rights_Ask (_ : R_rights_Ask) : List Ob := []
def S_rights_Ask (a0 : TApiTreasury) (a1 : Int) (a2 : List UInt8) (a3 : Int) (a4 : Int) : Scr Tryd.prog R_rights_Ask R_rights_Ask :=
.reg 0 [] [(3, { obs := [(3, (bx (TApiTreasury.e (⟨0, []⟩ : TApiTreasury))))] })] [.pf cz3] <|
.call (@F_rights_change_rights_Ask_1_ok a0 a2 a3 a1 a4) fun rv1 cv1 =>
.reg 1 [] [(4, hc cv1 [1, 2] true)] [.cl 0 cv1 [1, 2] 4 true] <|
.ret [] (rv1.1, rv1.2)
def F_rights_Ask (a0 : TApiTreasury) (a1 : Int) (a2 : List UInt8) (a3 : Int) (a4 : Int) : Option R_rights_Ask := (S_rights_Ask a0 a1 a2 a3 a4).den
set_option maxRecDepth 100000 in
theorem F_rights_Ask_ok {a0 : TApiTreasury} {a1 : Int} {a2 : List UInt8} {a3 : Int} {a4 : Int} (r : R_rights_Ask) (h : F_rights_Ask a0 a1 a2 a3 a4 = some r) : CallOk Tryd.prog 17 [(AV.d (TApiTreasury.e a0)), (vi a1), (AV.d (DV.str a2)), (vi a3), (vi a4)] [] (V_rights_Ask r) (L_rights_Ask r) := fOk (s := S_rights_Ask a0 a1 a2 a3 a4) Tryd.func17 rfl (by kernel_rfl) h
/-! 18 -/
abbrev R_rights_Tell := TApiMessage × Int
def V_rights_Tell (x : R_rights_Tell) : AV := (AV.tup [(AV.d (TApiMessage.e x.1)), (vi x.2)])
def L_rights_Tell (_ : R_rights_Tell) : List Ob := []
def S_rights_Tell (a0 : TApiTreasury) (a1 : Int) (a2 : List UInt8) (a3 : Int) : Scr Tryd.prog R_rights_Tell R_rights_Tell :=
.call (@F_rights_Valid_ok a0) fun rv1 cv1 =>
.reg 1 [] [(1, hc cv1 [] true)] [.cl 0 cv1 [] 2 true] <|
.ite (!rv1) (
.ret [] ((⟨0, 0, [], 0, 0, 0, 0, 0⟩ : TApiMessage), 1)) (
.call (@F_rights_Pot_ok a0 a2 a3) fun rv2 cv2 =>
.reg 3 [] [(3, hc cv2 [] true), (7, { obs := [(2, (bx (TApiPot.e (⟨[], 0, 0, [], [], [], []⟩ : TApiPot))))] })] [.cl 0 cv2 [] 2 true, .pf cz1] <|
.calld [(!rv2.2) = false] default (@F_rights_among_ok a1 1 a0.Offices) fun rv3 cv3 =>
.reg 4 [] [(6, hc cv3 [] true)] [.clg 0 [(!rv2.2) = false] cv3 [] 3 true] <|
.ite (bif (!rv2.2) then true else (!rv3)) (
.ret [] ((⟨0, 0, [], 0, 0, 0, 0, 0⟩ : TApiMessage), 6)) (
.guard [(0 : Int) ≤ (IntKind.i64.wrap (a1 - 1)), ((IntKind.i64.wrap (a1 - 1))).toNat < rv2.1.Granted.length, ((IntKind.i64.wrap (a1 - 1))).toNat < rv2.1.Asked.length] <|
.reg 6 [16] [] [.ev 0, .ev 1, .ev 0, .ev 2] <|
.ret [] ((⟨0, a1, a2, a3, (rv2.1.Granted.getD (((IntKind.i64.wrap (a1 - 1))).toNat) default), (rv2.1.Asked.getD (((IntKind.i64.wrap (a1 - 1))).toNat) default), 0, 0⟩ : TApiMessage), 0)))
def F_rights_Tell (a0 : TApiTreasury) (a1 : Int) (a2 : List UInt8) (a3 : Int) : Option R_rights_Tell := (S_rights_Tell a0 a1 a2 a3).den
set_option maxRecDepth 100000 in
theorem F_rights_Tell_ok {a0 : TApiTreasury} {a1 : Int} {a2 : List UInt8} {a3 : Int} (r : R_rights_Tell) (h : F_rights_Tell a0 a1 a2 a3 = some r) : CallOk Tryd.prog 18 [(AV.d (TApiTreasury.e a0)), (vi a1), (AV.d (DV.str a2)), (vi a3)] [] (V_rights_Tell r) (L_rights_Tell r) := fOk (s := S_rights_Tell a0 a1 a2 a3) Tryd.func18 rfl (by kernel_rfl) h
/-! 19 -/
abbrev R_rights_Learn := TApiRight × Int
def V_rights_Learn (x : R_rights_Learn) : AV := (AV.tup [(AV.d (TApiRight.e x.1)), (vi x.2)])
def L_rights_Learn (_ : R_rights_Learn) : List Ob := []
def S_rights_Learn (a0 : TApiRight) (a1 : TApiMessage) : Scr Tryd.prog R_rights_Learn R_rights_Learn :=
.call (@F_rights_Right_ok a0) fun rv1 cv1 =>
.reg 1 [] [(1, hc cv1 [] true)] [.cl 0 cv1 [] 3 true] <|
.ite (bif (bif (bif (!rv1) then true else (a1.From != 0)) then true else (!(a1.Code == a0.Code))) then true else (a1.Year != a0.Year)) (
.ret [] ((⟨[], 0, 0, 0, 0⟩ : TApiRight), 1)) (
.call (@F_rights_total_ok a1.Granted) fun rv2 cv2 =>
.calld [(!rv2) = false] default (@F_rights_total_ok a1.Asked) fun rv3 cv3 =>
.reg 3 [] [(2, hc cv2 [] true), (7, hc cv3 [] true)] [.cl 2 cv2 [] 3 true, .clg 0 [(!rv2) = false] cv3 [] 3 true] <|
.ite (bif (!rv2) then true else (!rv3)) (
.ret [] ((⟨[], 0, 0, 0, 0⟩ : TApiRight), 2)) (
.reg 5 [11, 13] [] [] <|
.ret [] ((⟨a0.Code, a0.Year, (if a1.Granted > a0.Granted then a1.Granted else a0.Granted), (if a1.Asked > a0.Asked then a1.Asked else a0.Asked), a0.Returned⟩ : TApiRight), 0)))
def F_rights_Learn (a0 : TApiRight) (a1 : TApiMessage) : Option R_rights_Learn := (S_rights_Learn a0 a1).den
set_option maxRecDepth 100000 in
theorem F_rights_Learn_ok {a0 : TApiRight} {a1 : TApiMessage} (r : R_rights_Learn) (h : F_rights_Learn a0 a1 = some r) : CallOk Tryd.prog 19 [(AV.d (TApiRight.e a0)), (AV.d (TApiMessage.e a1))] [] (V_rights_Learn r) (L_rights_Learn r) := fOk (s := S_rights_Learn a0 a1) Tryd.func19 rfl (by kernel_rfl) h
/-! 38 -/
abbrev R_rights_Hear_1 := Int × (List Int) × (List Int)
def V_rights_Hear_1 (x : R_rights_Hear_1) : AV := (vi x.1)
def L_rights_Hear_1 (p0_0 : Nat) (p0_1 : (List TApiPot)) (p0_2 : List UInt8) (p0_3 : Int) (p0_4 : Int) (p1 : TApiMessage) (p2 : (List Int)) (p3 : (List Int)) (p4 : (List Int)) (p5 : (List Int)) (x : R_rights_Hear_1) : List Ob := [(opS 7 TApiPot.e p0_0 (AV.agg [(AV.d (DV.str p0_2)), (vi p0_3), (vi p0_4), (AV.ref 2 p2.length 0 p2.length), (AV.ref 3 p3.length 0 p3.length), (AV.ref 4 p4.length 0 p4.length), (AV.ref 5 p5.length 0 p5.length)]) p0_1), (bx (TApiMessage.e p1)), (eS 1 (DV.i .i64) p2), (eS 1 (DV.i .i64) x.2.1), (eS 1 (DV.i .i64) p4), (eS 1 (DV.i .i64) x.2.2)]
def S_rights_Hear_1 (p0_0 : Nat) (p0_1 : (List TApiPot)) (_ : List UInt8) (_ : Int) (_ : Int) (p1 : TApiMessage) (p2 : (List Int)) (p3 : (List Int)) (_ : (List Int)) (p5 : (List Int)) : Scr Tryd.prog R_rights_Hear_1 R_rights_Hear_1 :=
.call (@F_rights_among_ok p1.From 1 (p3.length : Int)) fun rv1 cv1 =>
.guard [p0_0 < p0_1.length] <|
.reg 2 [] [(7, hc cv1 [] true)] [.pf (Eq.refl p0_1.length), .pf (Eq.refl p0_1.length), .ev 0, .pf (p := decide (p0_0 = p0_0) = true) (decide_eq_true rfl), .cl 1 cv1 [] 6 true] <|
.ite (!rv1) (
.ret [] (6, p3, p5)) (
.call (@F_rights_among_ok p1.Returned 0 (p2.getD (0 + ((IntKind.i64.wrap (p1.From - 1))).toNat) default)) fun rv2 cv2 =>
.calld [(!rv2) = false] default (@F_rights_total_ok p1.Used) fun rv3 cv3 =>
.guard [(0 : Int) ≤ (IntKind.i64.wrap (p1.From - 1)), ((IntKind.i64.wrap (p1.From - 1))).toNat < p2.length, (0 + ((IntKind.i64.wrap (p1.From - 1))).toNat) < p2.length] <|
.reg 4 [] [(9, hc cv2 [] true), (14, hc cv3 [] true)] [.pf (Eq.refl p0_1.length), .pf (Eq.refl p0_1.length), .ev 7, .pf (p := decide (p0_0 = p0_0) = true) (decide_eq_true rfl), .pf (Eq.refl p2.length), .ev 0, .ev 1, .pf (Eq.refl p2.length), .ev 2, .cl 5 cv2 [] 6 true, .clg 3 [(!rv2) = false] cv3 [] 6 true] <|
.ite (bif (!rv2) then true else (!rv3)) (
.ret [] (2, p3, p5)) (
.guard [((IntKind.i64.wrap (p1.From - 1))).toNat < p3.length, (0 + ((IntKind.i64.wrap (p1.From - 1))).toNat) < p3.length, ((IntKind.i64.wrap (p1.From - 1))).toNat < p5.length, (0 + ((IntKind.i64.wrap (p1.From - 1))).toNat) < p5.length] <|
.reg 6 [23, 25] [(23, { obs := [(3, (eS 1 (DV.i .i64) (p3.set (0 + ((IntKind.i64.wrap (p1.From - 1))).toNat) (if p1.Returned > (p3.getD (0 + ((IntKind.i64.wrap (p1.From - 1))).toNat) default) then p1.Returned else (p3.getD (0 + ((IntKind.i64.wrap (p1.From - 1))).toNat) default)))))] }), (25, { obs := [(5, (eS 1 (DV.i .i64) (p5.set (0 + ((IntKind.i64.wrap (p1.From - 1))).toNat) p1.Used)))] })] [.pf (Eq.refl p0_1.length), .pf (Eq.refl p0_1.length), .ev 12, .pf (p := decide (p0_0 = p0_0) = true) (decide_eq_true rfl), .pf (Eq.refl p0_1.length), .pf (Eq.refl p0_1.length), .ev 12, .pf (p := decide (p0_0 = p0_0) = true) (decide_eq_true rfl), .pf (Eq.refl p0_1.length), .pf (Eq.refl p0_1.length), .ev 12, .pf (p := decide (p0_0 = p0_0) = true) (decide_eq_true rfl), .pf (Eq.refl p3.length), .ev 5, .ev 0, .pf (Eq.refl p3.length), .ev 1, .pf (Eq.refl p3.length), .ev 5, .ev 0, .pf (Eq.refl p3.length), .ev 1, .pf (oLe_set (sz := 1) (e := (DV.i .i64)) (l := p3) (i := (0 + ((IntKind.i64.wrap (p1.From - 1))).toNat)) (x := (if p1.Returned > (p3.getD (0 + ((IntKind.i64.wrap (p1.From - 1))).toNat) default) then p1.Returned else (p3.getD (0 + ((IntKind.i64.wrap (p1.From - 1))).toNat) default))) (fun _ => rfl)), .pf (Eq.refl p5.length), .ev 5, .ev 2, .pf (Eq.refl p5.length), .ev 3, .pf (oLe_set (sz := 1) (e := (DV.i .i64)) (l := p5) (i := (0 + ((IntKind.i64.wrap (p1.From - 1))).toNat)) (x := p1.Used) (fun _ => rfl))] <|
.ret [] (0, (p3.set (0 + ((IntKind.i64.wrap (p1.From - 1))).toNat) (if p1.Returned > (p3.getD (0 + ((IntKind.i64.wrap (p1.From - 1))).toNat) default) then p1.Returned else (p3.getD (0 + ((IntKind.i64.wrap (p1.From - 1))).toNat) default))), (p5.set (0 + ((IntKind.i64.wrap (p1.From - 1))).toNat) p1.Used))))
def F_rights_Hear_1 (p0_0 : Nat) (p0_1 : (List TApiPot)) (p0_2 : List UInt8) (p0_3 : Int) (p0_4 : Int) (p1 : TApiMessage) (p2 : (List Int)) (p3 : (List Int)) (p4 : (List Int)) (p5 : (List Int)) : Option R_rights_Hear_1 := (S_rights_Hear_1 p0_0 p0_1 p0_2 p0_3 p0_4 p1 p2 p3 p4 p5).den
set_option maxRecDepth 100000 in
theorem F_rights_Hear_1_ok {p0_0 : Nat} {p0_1 : (List TApiPot)} {p0_2 : List UInt8} {p0_3 : Int} {p0_4 : Int} {p1 : TApiMessage} {p2 : (List Int)} {p3 : (List Int)} {p4 : (List Int)} {p5 : (List Int)} (r : R_rights_Hear_1) (h : F_rights_Hear_1 p0_0 p0_1 p0_2 p0_3 p0_4 p1 p2 p3 p4 p5 = some r) : CallOk Tryd.prog 38 [(AV.ptr 0 p0_1.length [.x p0_0 7]), (vp 1)] [(opS 7 TApiPot.e p0_0 (AV.agg [(AV.d (DV.str p0_2)), (vi p0_3), (vi p0_4), (AV.ref 2 p2.length 0 p2.length), (AV.ref 3 p3.length 0 p3.length), (AV.ref 4 p4.length 0 p4.length), (AV.ref 5 p5.length 0 p5.length)]) p0_1), (bx (TApiMessage.e p1)), (eS 1 (DV.i .i64) p2), (eS 1 (DV.i .i64) p3), (eS 1 (DV.i .i64) p4), (eS 1 (DV.i .i64) p5)] (V_rights_Hear_1 r) (L_rights_Hear_1 p0_0 p0_1 p0_2 p0_3 p0_4 p1 p2 p3 p4 p5 r) := fOk (s := S_rights_Hear_1 p0_0 p0_1 p0_2 p0_3 p0_4 p1 p2 p3 p4 p5) Tryd.func38 rfl (by kernel_rfl) h
/-! 31 -/
abbrev R_rights_change_rights_Hear_1 := TApiTreasury × Int
def V_rights_change_rights_Hear_1 (x : R_rights_change_rights_Hear_1) : AV := (AV.tup [(AV.d (TApiTreasury.e x.1)), (vi x.2)])
def L_rights_change_rights_Hear_1 (p0 : TApiMessage) (_ : R_rights_change_rights_Hear_1) : List Ob := [(bx (TApiMessage.e p0))]
def S_rights_change_rights_Hear_1 (a0 : TApiTreasury) (a1 : List UInt8) (a2 : Int) (p0 : TApiMessage) : Scr Tryd.prog R_rights_change_rights_Hear_1 R_rights_change_rights_Hear_1 :=
.reg 0 [] [(1, { obs := [(2, (bx (TApiTreasury.e (⟨0, []⟩ : TApiTreasury))))] })] [.pf cz3] <|
.call (@F_rights_Valid_ok a0) fun rv1 cv1 =>
.reg 1 [] [(1, hc cv1 [] true)] [.cl 0 cv1 [] 3 true] <|
.ite (!rv1) (
.reg 2 [] [(0, hv (AV.d (TApiTreasury.e (⟨0, []⟩ : TApiTreasury))))] [.pf cz4] <|
.ret [] ((⟨0, []⟩ : TApiTreasury), 1)) (
.call (@F_rights_find_ok a0 a1 a2) fun rv2 cv2 =>
.reg 3 [] [(3, hc cv2 [] true)] [.cl 0 cv2 [] 3 true] <|
.ite (decide (rv2 < 0)) (
.reg 5 [] [(0, hv (AV.d (TApiTreasury.e (⟨0, []⟩ : TApiTreasury))))] [.pf cz4] <|
.ret [] ((⟨0, []⟩ : TApiTreasury), 6)) (
.call (@F_rights_fresh_op_ok a0 ((rv2).toNat)) fun rv3 cv3 =>
.reg 6 [] [(1, hc cv3 [] false)] [.cl 0 cv3 [] 3 false] <|
.kill 4 <|
.call (@F_rights_Hear_1_ok ((rv2).toNat) rv3.2 ((rv3.2.getD ((rv2).toNat) default).Code) ((rv3.2.getD ((rv2).toNat) default).Year) ((rv3.2.getD ((rv2).toNat) default).Total) p0 ((rv3.2.getD ((rv2).toNat) default).Granted) ((rv3.2.getD ((rv2).toNat) default).Heard) ((rv3.2.getD ((rv2).toNat) default).Asked) ((rv3.2.getD ((rv2).toNat) default).Used)) fun rv4 cv4 =>
.guard [(0 : Int) ≤ rv2, (rv2).toNat < rv3.2.length] <|
.reg 7 [] [(4, hv (AV.ptr 5 rv3.2.length [.x ((rv2).toNat) 7])), (5, hc cv4 [5, 0, 6, 7, 8, 9] false)] [.pf (Eq.refl rv3.2.length), .ev 0, .ev 1, .pf (p := LeV (AV.ptr 5 rv3.2.length [.x (0 + ((rv2).toNat)) 7]) (AV.ptr 5 rv3.2.length [.x ((rv2).toNat) 7])) (leV_ix), .cl 2 cv4 [5, 0, 6, 7, 8, 9] 10 false] <|
.ite (rv4.1 != 0) (
.reg 9 [] [(0, hv (AV.d (TApiTreasury.e (⟨0, []⟩ : TApiTreasury))))] [.pf cz4] <|
.ret [] ((⟨0, []⟩ : TApiTreasury), rv4.1)) (
.reg 10 [] [] [] <|
.guard [rv4.2.1.length = ((rv3.2.getD ((rv2).toNat) default).Heard).length ∧ rv4.2.2.length = ((rv3.2.getD ((rv2).toNat) default).Used).length] <|
.cst (A := rv4.2.1.length = ((rv3.2.getD ((rv2).toNat) default).Heard).length ∧ rv4.2.2.length = ((rv3.2.getD ((rv2).toNat) default).Used).length) (.ev 0) [(8, (vp 2)), (9, (vi 0))] [(8, (vp 2)), (9, (vi 0))] [(bx (TApiMessage.e p0)), (Ob.box (AV.agg [(vi rv3.1), (AV.ref 5 rv3.2.length 0 rv3.2.length)])), (Ob.box (AV.agg [(vi rv3.1), (AV.ref 5 rv3.2.length 0 rv3.2.length)])), Ob.dead, Ob.dead, (opS 7 TApiPot.e ((rv2).toNat) (AV.agg [(AV.d (DV.str ((rv3.2.getD ((rv2).toNat) default).Code))), (vi ((rv3.2.getD ((rv2).toNat) default).Year)), (vi ((rv3.2.getD ((rv2).toNat) default).Total)), (AV.ref 6 (((rv3.2.getD ((rv2).toNat) default).Granted).length) 0 (((rv3.2.getD ((rv2).toNat) default).Granted).length)), (AV.ref 7 (((rv3.2.getD ((rv2).toNat) default).Heard).length) 0 (((rv3.2.getD ((rv2).toNat) default).Heard).length)), (AV.ref 8 (((rv3.2.getD ((rv2).toNat) default).Asked).length) 0 (((rv3.2.getD ((rv2).toNat) default).Asked).length)), (AV.ref 9 (((rv3.2.getD ((rv2).toNat) default).Used).length) 0 (((rv3.2.getD ((rv2).toNat) default).Used).length))]) rv3.2), (eS 1 (DV.i .i64) ((rv3.2.getD ((rv2).toNat) default).Granted)), (eS 1 (DV.i .i64) rv4.2.1), (eS 1 (DV.i .i64) ((rv3.2.getD ((rv2).toNat) default).Asked)), (eS 1 (DV.i .i64) rv4.2.2)] [(bx (TApiMessage.e p0)), (Ob.box (AV.agg [(vi rv3.1), (AV.ref 5 rv3.2.length 0 rv3.2.length)])), (Ob.box (AV.agg [(vi rv3.1), (AV.ref 5 rv3.2.length 0 rv3.2.length)])), Ob.dead, Ob.dead, (opS 7 TApiPot.e ((rv2).toNat) (AV.agg [(AV.d (DV.str ((rv3.2.getD ((rv2).toNat) default).Code))), (vi ((rv3.2.getD ((rv2).toNat) default).Year)), (vi ((rv3.2.getD ((rv2).toNat) default).Total)), (AV.ref 6 (((rv3.2.getD ((rv2).toNat) default).Granted).length) 0 (((rv3.2.getD ((rv2).toNat) default).Granted).length)), (AV.ref 7 rv4.2.1.length 0 rv4.2.1.length), (AV.ref 8 (((rv3.2.getD ((rv2).toNat) default).Asked).length) 0 (((rv3.2.getD ((rv2).toNat) default).Asked).length)), (AV.ref 9 rv4.2.2.length 0 rv4.2.2.length)]) rv3.2), (eS 1 (DV.i .i64) ((rv3.2.getD ((rv2).toNat) default).Granted)), (eS 1 (DV.i .i64) rv4.2.1), (eS 1 (DV.i .i64) ((rv3.2.getD ((rv2).toNat) default).Asked)), (eS 1 (DV.i .i64) rv4.2.2)] (fun h => ⟨rfl, by rw [h.1, h.2]⟩) <|
.guard [((rv3.2.getD ((rv2).toNat) default).Granted).length < 2 ^ 63 ∧ rv4.2.1.length < 2 ^ 63 ∧ ((rv3.2.getD ((rv2).toNat) default).Asked).length < 2 ^ 63 ∧ rv4.2.2.length < 2 ^ 63] <|
.sh (A := ((rv3.2.getD ((rv2).toNat) default).Granted).length < 2 ^ 63 ∧ rv4.2.1.length < 2 ^ 63 ∧ ((rv3.2.getD ((rv2).toNat) default).Asked).length < 2 ^ 63 ∧ rv4.2.2.length < 2 ^ 63) (.ev 0) [(8, (vp 2)), (9, (vi 0))] [(8, (vp 2)), (9, (vi 0))] [(bx (TApiMessage.e p0)), (Ob.box (AV.agg [(vi rv3.1), (AV.ref 5 rv3.2.length 0 rv3.2.length)])), (Ob.box (AV.agg [(vi rv3.1), (AV.ref 5 rv3.2.length 0 rv3.2.length)])), Ob.dead, Ob.dead, (opS 7 TApiPot.e ((rv2).toNat) (AV.agg [(AV.d (DV.str ((rv3.2.getD ((rv2).toNat) default).Code))), (vi ((rv3.2.getD ((rv2).toNat) default).Year)), (vi ((rv3.2.getD ((rv2).toNat) default).Total)), (AV.ref 6 (((rv3.2.getD ((rv2).toNat) default).Granted).length) 0 (((rv3.2.getD ((rv2).toNat) default).Granted).length)), (AV.ref 7 rv4.2.1.length 0 rv4.2.1.length), (AV.ref 8 (((rv3.2.getD ((rv2).toNat) default).Asked).length) 0 (((rv3.2.getD ((rv2).toNat) default).Asked).length)), (AV.ref 9 rv4.2.2.length 0 rv4.2.2.length)]) rv3.2), (eS 1 (DV.i .i64) ((rv3.2.getD ((rv2).toNat) default).Granted)), (eS 1 (DV.i .i64) rv4.2.1), (eS 1 (DV.i .i64) ((rv3.2.getD ((rv2).toNat) default).Asked)), (eS 1 (DV.i .i64) rv4.2.2)] [(bx (TApiMessage.e p0)), (Ob.box (AV.agg [(vi rv3.1), (AV.ref 5 rv3.2.length 0 rv3.2.length)])), (Ob.box (AV.agg [(vi rv3.1), (AV.ref 5 rv3.2.length 0 rv3.2.length)])), Ob.dead, Ob.dead, (eS 7 TApiPot.e (rv3.2.set ((rv2).toNat) (⟨(rv3.2.getD ((rv2).toNat) default).Code, (rv3.2.getD ((rv2).toNat) default).Year, (rv3.2.getD ((rv2).toNat) default).Total, (rv3.2.getD ((rv2).toNat) default).Granted, rv4.2.1, (rv3.2.getD ((rv2).toNat) default).Asked, rv4.2.2⟩ : TApiPot))), Ob.dead, Ob.dead, Ob.dead, Ob.dead] (fun h => shift_close oTApiPot (P := [(bx (TApiMessage.e p0)), (Ob.box (AV.agg [(vi rv3.1), (AV.ref 5 rv3.2.length 0 rv3.2.length)])), (Ob.box (AV.agg [(vi rv3.1), (AV.ref 5 rv3.2.length 0 rv3.2.length)])), Ob.dead, Ob.dead]) (D := []) rfl (⟨(rv3.2.getD ((rv2).toNat) default).Code, (rv3.2.getD ((rv2).toNat) default).Year, (rv3.2.getD ((rv2).toNat) default).Total, [], [], [], []⟩ : TApiPot) (⟨(rv3.2.getD ((rv2).toNat) default).Code, (rv3.2.getD ((rv2).toNat) default).Year, (rv3.2.getD ((rv2).toNat) default).Total, (rv3.2.getD ((rv2).toNat) default).Granted, rv4.2.1, (rv3.2.getD ((rv2).toNat) default).Asked, rv4.2.2⟩ : TApiPot) h rfl) (trF_refl _) <|
.cst (A := True) (.pf trivial) [(8, (vp 2)), (9, (vi 0))] [(8, (vp 2)), (9, (vi 0))] [(bx (TApiMessage.e p0)), (Ob.box (AV.agg [(vi rv3.1), (AV.ref 5 rv3.2.length 0 rv3.2.length)])), (Ob.box (AV.agg [(vi rv3.1), (AV.ref 5 rv3.2.length 0 rv3.2.length)])), Ob.dead, Ob.dead, (eS 7 TApiPot.e (rv3.2.set ((rv2).toNat) (⟨(rv3.2.getD ((rv2).toNat) default).Code, (rv3.2.getD ((rv2).toNat) default).Year, (rv3.2.getD ((rv2).toNat) default).Total, (rv3.2.getD ((rv2).toNat) default).Granted, rv4.2.1, (rv3.2.getD ((rv2).toNat) default).Asked, rv4.2.2⟩ : TApiPot))), Ob.dead, Ob.dead, Ob.dead, Ob.dead] [(bx (TApiMessage.e p0)), (Ob.box (AV.agg [(vi rv3.1), (AV.ref 5 ((rv3.2.set ((rv2).toNat) (⟨(rv3.2.getD ((rv2).toNat) default).Code, (rv3.2.getD ((rv2).toNat) default).Year, (rv3.2.getD ((rv2).toNat) default).Total, (rv3.2.getD ((rv2).toNat) default).Granted, rv4.2.1, (rv3.2.getD ((rv2).toNat) default).Asked, rv4.2.2⟩ : TApiPot)).length) 0 ((rv3.2.set ((rv2).toNat) (⟨(rv3.2.getD ((rv2).toNat) default).Code, (rv3.2.getD ((rv2).toNat) default).Year, (rv3.2.getD ((rv2).toNat) default).Total, (rv3.2.getD ((rv2).toNat) default).Granted, rv4.2.1, (rv3.2.getD ((rv2).toNat) default).Asked, rv4.2.2⟩ : TApiPot)).length))])), (Ob.box (AV.agg [(vi rv3.1), (AV.ref 5 ((rv3.2.set ((rv2).toNat) (⟨(rv3.2.getD ((rv2).toNat) default).Code, (rv3.2.getD ((rv2).toNat) default).Year, (rv3.2.getD ((rv2).toNat) default).Total, (rv3.2.getD ((rv2).toNat) default).Granted, rv4.2.1, (rv3.2.getD ((rv2).toNat) default).Asked, rv4.2.2⟩ : TApiPot)).length) 0 ((rv3.2.set ((rv2).toNat) (⟨(rv3.2.getD ((rv2).toNat) default).Code, (rv3.2.getD ((rv2).toNat) default).Year, (rv3.2.getD ((rv2).toNat) default).Total, (rv3.2.getD ((rv2).toNat) default).Granted, rv4.2.1, (rv3.2.getD ((rv2).toNat) default).Asked, rv4.2.2⟩ : TApiPot)).length))])), Ob.dead, Ob.dead, (eS 7 TApiPot.e (rv3.2.set ((rv2).toNat) (⟨(rv3.2.getD ((rv2).toNat) default).Code, (rv3.2.getD ((rv2).toNat) default).Year, (rv3.2.getD ((rv2).toNat) default).Total, (rv3.2.getD ((rv2).toNat) default).Granted, rv4.2.1, (rv3.2.getD ((rv2).toNat) default).Asked, rv4.2.2⟩ : TApiPot))), Ob.dead, Ob.dead, Ob.dead, Ob.dead] (fun _ => ⟨by simp only, by simp only [List.length_set]⟩) <|
.guard [(rv3.2.set ((rv2).toNat) (⟨(rv3.2.getD ((rv2).toNat) default).Code, (rv3.2.getD ((rv2).toNat) default).Year, (rv3.2.getD ((rv2).toNat) default).Total, (rv3.2.getD ((rv2).toNat) default).Granted, rv4.2.1, (rv3.2.getD ((rv2).toNat) default).Asked, rv4.2.2⟩ : TApiPot)).length < 2 ^ 63] <|
.frz 5 (.ev 0) none [] [1, 2] <|
.ret [] ((⟨rv3.1, (rv3.2.set ((rv2).toNat) (⟨(rv3.2.getD ((rv2).toNat) default).Code, (rv3.2.getD ((rv2).toNat) default).Year, (rv3.2.getD ((rv2).toNat) default).Total, (rv3.2.getD ((rv2).toNat) default).Granted, rv4.2.1, (rv3.2.getD ((rv2).toNat) default).Asked, rv4.2.2⟩ : TApiPot))⟩ : TApiTreasury), 0))))
def F_rights_change_rights_Hear_1 (a0 : TApiTreasury) (a1 : List UInt8) (a2 : Int) (p0 : TApiMessage) : Option R_rights_change_rights_Hear_1 := (S_rights_change_rights_Hear_1 a0 a1 a2 p0).den
set_option maxRecDepth 100000 in
theorem F_rights_change_rights_Hear_1_ok {a0 : TApiTreasury} {a1 : List UInt8} {a2 : Int} {p0 : TApiMessage} (r : R_rights_change_rights_Hear_1) (h : F_rights_change_rights_Hear_1 a0 a1 a2 p0 = some r) : CallOk Tryd.prog 31 [(AV.d (TApiTreasury.e a0)), (AV.d (DV.str a1)), (vi a2), (AV.fn 38 [(vp 0)])] [(bx (TApiMessage.e p0))] (V_rights_change_rights_Hear_1 r) (L_rights_change_rights_Hear_1 p0 r) := fOk (s := S_rights_change_rights_Hear_1 a0 a1 a2 p0) Tryd.func31 rfl (by kernel_rfl) h
/-! 20 -/
abbrev R_rights_Hear := TApiTreasury × Int
def V_rights_Hear (x : R_rights_Hear) : AV := (AV.tup [(AV.d (TApiTreasury.e x.1)), (vi x.2)])
def L_rights_Hear (_ : R_rights_Hear) : List Ob := []
def S_rights_Hear (a0 : TApiTreasury) (a1 : TApiMessage) : Scr Tryd.prog R_rights_Hear R_rights_Hear :=
.reg 0 [] [(2, { obs := [(2, (bx (TApiTreasury.e (⟨0, []⟩ : TApiTreasury))))] })] [.pf cz3] <|
.ite (a1.To != 0) (
.reg 2 [] [(0, hv (AV.d (TApiTreasury.e (⟨0, []⟩ : TApiTreasury))))] [.pf cz4] <|
.ret [] ((⟨0, []⟩ : TApiTreasury), 1)) (
.call (@F_rights_change_rights_Hear_1_ok a0 a1.Code a1.Year a1) fun rv1 cv1 =>
.reg 3 [] [(6, hc cv1 [1] true)] [.cl 0 cv1 [1] 3 true] <|
.ret [] (rv1.1, rv1.2))
def F_rights_Hear (a0 : TApiTreasury) (a1 : TApiMessage) : Option R_rights_Hear := (S_rights_Hear a0 a1).den
set_option maxRecDepth 100000 in
theorem F_rights_Hear_ok {a0 : TApiTreasury} {a1 : TApiMessage} (r : R_rights_Hear) (h : F_rights_Hear a0 a1 = some r) : CallOk Tryd.prog 20 [(AV.d (TApiTreasury.e a0)), (AV.d (TApiMessage.e a1))] [] (V_rights_Hear r) (L_rights_Hear r) := fOk (s := S_rights_Hear a0 a1) Tryd.func20 rfl (by kernel_rfl) h
/-! 9 -/
theorem cz6 : LeV (AV.d (DV.agg [(DV.i .i64 2), Z0])) (AV.d (TApiTreasury.e (⟨2, []⟩ : TApiTreasury))) := leV_dle rfl (DLe.agg (DLeL.cons (DLe.refl _) (DLeL.cons DLe.sl0 DLeL.nil)))
abbrev R_w13_awake := Bool
def V_w13_awake (x : R_w13_awake) : AV := (vb x)
def L_w13_awake (_ : R_w13_awake) : List Ob := []
def S_w13_awake : Scr Tryd.prog R_w13_awake R_w13_awake :=
.call (@F_rights_Set_ok (⟨2, []⟩ : TApiTreasury) ([49]) 12 100) fun rv1 cv1 =>
.reg 1 [] [(0, hv (AV.d (TApiTreasury.e (⟨2, []⟩ : TApiTreasury)))), (1, hc cv1 [] true), (5, { obs := [(0, (bx (TApiTreasury.e (⟨0, []⟩ : TApiTreasury))))] })] [.pf cz6, .cl 0 cv1 [] 0 true, .pf cz3] <|
.call (@F_rights_Divide_ok rv1.1 ([49]) 12 ([60, 40] : List Int)) fun rv2 cv2 =>
.reg 2 [] [(1, hv (vl ([60, 40] : List Int))), (2, hc cv2 [] true)] [.pf (leV_lit (DV.i .i64) ([60, 40] : List Int)), .cl 0 cv2 [] 1 true] <|
.call (@F_rights_Set_ok rv2.1 ([49]) 12 90) fun rv3 cv3 =>
.reg 3 [] [(1, hc cv3 [] true)] [.cl 0 cv3 [] 1 true] <|
.call (@F_rights_Pot_ok rv3.1 ([49]) 12) fun rv4 cv4 =>
.reg 4 [] [(1, hc cv4 [] true), (5, { obs := [(1, (bx (TApiPot.e (⟨[], 0, 0, [], [], [], []⟩ : TApiPot))))] })] [.cl 0 cv4 [] 1 true, .pf cz1] <|
.calld [(bif (bif (bif (rv1.2 != 0) then true else (rv2.2 != 0)) then true else (rv3.2 != 0)) then true else (!rv4.2)) = false] default (@F_rights_Shortfall_ok rv4.1) fun rv5 cv5 =>
.reg 5 [] [(16, hc cv5 [] true)] [.clg 0 [(bif (bif (bif (rv1.2 != 0) then true else (rv2.2 != 0)) then true else (rv3.2 != 0)) then true else (!rv4.2)) = false] cv5 [] 2 true] <|
.ite (bif (bif (bif (bif (rv1.2 != 0) then true else (rv2.2 != 0)) then true else (rv3.2 != 0)) then true else (!rv4.2)) then true else (rv5 != 10)) (
.ret [] false) (
.call (@F_rights_Ask_ok rv3.1 1 ([49]) 12 10) fun rv6 cv6 =>
.reg 7 [] [(1, hc cv6 [] true)] [.cl 0 cv6 [] 2 true] <|
.call (@F_rights_Tell_ok rv6.1 1 ([49]) 12) fun rv7 cv7 =>
.reg 8 [] [(1, hc cv7 [] true)] [.cl 0 cv7 [] 2 true] <|
.call (@F_rights_Learn_ok (⟨[49], 12, 0, 0, 0⟩ : TApiRight) rv7.1) fun rv8 cv8 =>
.reg 9 [] [(2, hc cv8 [] true)] [.cl 0 cv8 [] 3 true] <|
.call (@F_rights_Wanted_ok rv8.1 20) fun rv9 cv9 =>
.reg 10 [] [(1, hc cv9 [] true)] [.cl 0 cv9 [] 4 true] <|
.call (@F_rights_Return_ok rv8.1 20 rv9) fun rv10 cv10 =>
.reg 11 [] [(2, hc cv10 [] true)] [.cl 0 cv10 [] 4 true] <|
.call (@F_rights_Hear_ok rv6.1 (⟨1, 0, [49], 12, 0, 0, rv10.1.Returned, 20⟩ : TApiMessage)) fun rv11 cv11 =>
.reg 12 [] [(4, hc cv11 [] true)] [.cl 0 cv11 [] 4 true] <|
.call (@F_rights_Pot_ok rv11.1 ([49]) 12) fun rv12 cv12 =>
.reg 13 [] [(1, hc cv12 [] true)] [.cl 0 cv12 [] 4 true] <|
.calld [(bif (bif (bif (bif (bif (rv6.2 == 0) then (rv7.2 == 0) else false) then (rv8.2 == 0) else false) then (rv10.2 == 0) else false) then (rv11.2 == 0) else false) then (rv9 == 10) else false) = true] default (@F_rights_Shortfall_ok rv12.1) fun rv13 cv13 =>
.calld [(bif (bif (bif (bif (bif (bif (rv6.2 == 0) then (rv7.2 == 0) else false) then (rv8.2 == 0) else false) then (rv10.2 == 0) else false) then (rv11.2 == 0) else false) then (rv9 == 10) else false) then (rv13 == 0) else false) = true] default (@F_rights_Out_ok rv12.1) fun rv14 cv14 =>
.reg 14 [] [(24, hc cv13 [] true), (29, hc cv14 [] true)] [.clg 2 [(bif (bif (bif (bif (bif (rv6.2 == 0) then (rv7.2 == 0) else false) then (rv8.2 == 0) else false) then (rv10.2 == 0) else false) then (rv11.2 == 0) else false) then (rv9 == 10) else false) = true] cv13 [] 4 true, .clg 0 [(bif (bif (bif (bif (bif (bif (rv6.2 == 0) then (rv7.2 == 0) else false) then (rv8.2 == 0) else false) then (rv10.2 == 0) else false) then (rv11.2 == 0) else false) then (rv9 == 10) else false) then (rv13 == 0) else false) = true] cv14 [] 4 true] <|
.ret [] (bif (bif (bif (bif (bif (bif (bif (rv6.2 == 0) then (rv7.2 == 0) else false) then (rv8.2 == 0) else false) then (rv10.2 == 0) else false) then (rv11.2 == 0) else false) then (rv9 == 10) else false) then (rv13 == 0) else false) then (rv14 == 90) else false))
def F_w13_awake : Option R_w13_awake := (S_w13_awake).den
set_option maxRecDepth 100000 in
theorem F_w13_awake_ok (r : R_w13_awake) (h : F_w13_awake = some r) : CallOk Tryd.prog 9 [] [] (V_w13_awake r) (L_w13_awake r) := fOk (s := S_w13_awake) Tryd.func9 rfl (by kernel_rfl) h
/-! 3 -/
abbrev R_w13_RightsWanted := Bool
def V_w13_RightsWanted (x : R_w13_RightsWanted) : AV := (vb x)
def L_w13_RightsWanted (_ : R_w13_RightsWanted) : List Ob := []
def S_w13_RightsWanted (a0 : (List Int)) : Scr Tryd.prog R_w13_RightsWanted R_w13_RightsWanted :=
.call (@F_mk_New_ok a0) fun rv1 cv1 =>
.reg 1 [] [(1, hc cv1 [] false)] [.cl 0 cv1 [] 0 false] <|
.call (@F_mk_Right_ok rv1) fun rv2 cv2 =>
.reg 2 [] [(1, hc cv2 [0] false)] [.cl 0 cv2 [0] 1 false] <|
.call (@F_mk_Tape_N_ok (IntKind.i64.wrap ((IntKind.i64.wrap (rv2.1.Granted - rv2.1.Returned)) + 1)) rv2.2) fun rv3 cv3 =>
.reg 3 [] [(7, hc cv3 [0] false)] [.cl 0 cv3 [0] 2 false] <|
.call (@F_rights_Wanted_ok rv2.1 rv3.1) fun rv4 cv4 =>
.reg 4 [] [(2, hc cv4 [] true)] [.cl 0 cv4 [] 2 true] <|
.call (@F_rights_Return_ok rv2.1 rv3.1 (IntKind.i64.wrap ((IntKind.i64.wrap ((IntKind.i64.wrap (rv2.1.Granted - rv2.1.Returned)) - rv3.1)) + 1))) fun rv5 cv5 =>
.reg 5 [] [(10, hc cv5 [] true)] [.cl 0 cv5 [] 2 true] <|
.ite (rv5.2 != 15) (
.ret [] false) (
.ite (rv4 == 0) (
.calld [(bif (decide (rv2.1.Asked ≤ rv2.1.Returned)) then true else (rv3.1 == (IntKind.i64.wrap (rv2.1.Granted - rv2.1.Returned)))) = true] default (@F_w13_awake_ok) fun rv6 cv6 =>
.reg 9 [] [(15, hc cv6 [] true)] [.clg 0 [(bif (decide (rv2.1.Asked ≤ rv2.1.Returned)) then true else (rv3.1 == (IntKind.i64.wrap (rv2.1.Granted - rv2.1.Returned)))) = true] cv6 [] 3 true] <|
.ret [] (bif (bif (decide (rv2.1.Asked ≤ rv2.1.Returned)) then true else (rv3.1 == (IntKind.i64.wrap (rv2.1.Granted - rv2.1.Returned)))) then rv6 else false)) (
.call (@F_rights_Return_ok rv2.1 rv3.1 rv4) fun rv7 cv7 =>
.reg 10 [] [(3, hc cv7 [] true)] [.cl 0 cv7 [] 3 true] <|
.calld [(rv7.2 == 0) = true] default (@F_rights_Wanted_ok rv7.1 rv3.1) fun rv8 cv8 =>
.calld [(bif (bif (bif (rv7.2 == 0) then (rv8 == 0) else false) then (rv7.1.Returned == (IntKind.i64.wrap (rv2.1.Returned + rv4))) else false) then (bif (rv7.1.Returned == rv2.1.Asked) then true else (rv3.1 == (IntKind.i64.wrap (rv7.1.Granted - rv7.1.Returned)))) else false) = true] default (@F_w13_awake_ok) fun rv9 cv9 =>
.reg 11 [] [(5, hc cv8 [] true), (34, hc cv9 [] true)] [.clg 2 [(rv7.2 == 0) = true] cv8 [] 4 true, .clg 0 [(bif (bif (bif (rv7.2 == 0) then (rv8 == 0) else false) then (rv7.1.Returned == (IntKind.i64.wrap (rv2.1.Returned + rv4))) else false) then (bif (rv7.1.Returned == rv2.1.Asked) then true else (rv3.1 == (IntKind.i64.wrap (rv7.1.Granted - rv7.1.Returned)))) else false) = true] cv9 [] 4 true] <|
.ret [] (bif (bif (bif (bif (rv7.2 == 0) then (rv8 == 0) else false) then (rv7.1.Returned == (IntKind.i64.wrap (rv2.1.Returned + rv4))) else false) then (bif (rv7.1.Returned == rv2.1.Asked) then true else (rv3.1 == (IntKind.i64.wrap (rv7.1.Granted - rv7.1.Returned)))) else false) then rv9 else false)))
def F_w13_RightsWanted (a0 : (List Int)) : Option R_w13_RightsWanted := (S_w13_RightsWanted a0).den
set_option maxRecDepth 100000 in
theorem F_w13_RightsWanted_ok {a0 : (List Int)} (r : R_w13_RightsWanted) (h : F_w13_RightsWanted a0 = some r) : CallOk Tryd.prog 3 [(vl a0)] [] (V_w13_RightsWanted r) (L_w13_RightsWanted r) := fOk (s := S_w13_RightsWanted a0) Tryd.func3 rfl (by kernel_rfl) h
end
end Go.Proofs.YtkabfdfkegjfdaaDoor
