/- A part of the proof: what the functions compute, and that their calls return it. No condition. -/
import Derived.Test.YtdenfihabhhnhaaGreatDoorT7
import Derived.Lib.AppendZerosOnto
import Derived.Test.YtdenfihabhhnhaaGreatDoorProg
import Derived.Test.YtdenfihabhhnhaaGreatDoorT4
import Derived.Test.YtdenfihabhhnhaaGreatDoorG2
import Derived.Test.YtdenfihabhhnhaaGreatDoorG3
/- slices.Insert of one element. No condition. -/
namespace Go.Proofs.YtdenfihabhhnhaaGreatDoor
namespace Ins32
open Go Go.TA
def cL : Code → Code
  | .seq x _ => x
  | _ => .skip
def cR : Code → Code
  | .seq _ y => y
  | _ => .skip
def cT : Code → Code
  | .cond _ x _ => x
  | _ => .skip
noncomputable def regOps : Code → Array Oper
  | .region _ ops _ => ops
  | _ => #[]
noncomputable def opAt (ops : Array Oper) (i : Nat) : Oper := (ops[i]?).getD { dst := none, op := .move (.tmp 0), type := 0, pos := "", after := #[], guard := none }
noncomputable def ci : Code := Tryz.f32.body.getD .skip
noncomputable def R0 : Code := cL ci
noncomputable def R1 : Code := cL (cR ci)
noncomputable def R2 : Code := cL (cR (cR ci))
noncomputable def X3 : Code := cL (cR (cR (cR ci)))
noncomputable def R5 : Code := cL (cR (cR (cR (cR ci))))
noncomputable def X6 : Code := cL (cR (cR (cR (cR (cR ci)))))
noncomputable def T8 : Code := cR (cR (cR (cR (cR (cR ci)))))
noncomputable def R8 : Code := cL (cL T8)
noncomputable def B9 : Code := cT (cR (cL T8))
noncomputable def R9 : Code := cL B9
noncomputable def B10 : Code := cR B9
noncomputable def C13 : Code := cR T8
theorem ci_eq : Tryz.f32.body = some (.seq R0 (.seq R1 (.seq R2 (.seq (.seq (cL X3) (.cond (.tmp 16) (cT (cR X3)) .skip)) (.seq R5 (.seq (.seq (cL X6) (.cond (.tmp 22) (cT (cR X6)) .skip)) (.seq (.seq R8 (.cond (.tmp 31) (.seq R9 B10) .skip)) C13))))))) := by kernel_rfl
theorem r8_eq : R8 = .region 8 (regOps R8) false := by kernel_rfl
theorem r9_eq : R9 = .region 9 (regOps R9) false := by kernel_rfl
section
variable {α : Type} [Inhabited α] {e : α → DV}
/-! no room: the new row -/
def gB (e : α → DV) (l : List α) (i : Nat) : Nat → AV := fun j => if j < i then .d (e (l.getD j default)) else garb 14
noncomputable def sB (l : List α) (x : α) (i : Nat) (n1 : (0 : Int) ≤ i) (h1 : i ≤ l.length + 1) (w0 : 0 ≤ IntKind.i64.wrap ((i : Int) + 1)) (w1 : (IntKind.i64.wrap ((i : Int) + 1)).toNat ≤ l.length + 1) (h2 : i ≤ l.length)
    (hx : ∀ k, k < 1 → (AV.d (e ([x].getD (0 + k) default))).wd = 14) (hl : ∀ k, k < l.length - i → (AV.d (e (l.getD (0 + i + k) default))).wd = 14)
    (ho : OLe (.seq 14 (l.length + 1) fun j => if 0 + (IntKind.i64.wrap ((i : Int) + 1)).toNat ≤ j ∧ j < 0 + (IntKind.i64.wrap ((i : Int) + 1)).toNat + min (l.length - i) (l.length + 1 - (IntKind.i64.wrap ((i : Int) + 1)).toNat) then .d (e (l.getD (0 + i + (j - (0 + (IntKind.i64.wrap ((i : Int) + 1)).toNat))) default))
      else if 0 + i ≤ j ∧ j < 0 + i + min 1 (l.length + 1 - i) then .d (e ([x].getD (0 + (j - (0 + i))) default)) else gB e l i j) (eS 14 e (insL l i x))) : Scr Tryz.prog Unit Unit :=
  .reg 10 [] [] [.pf n1, .pf h1, .pf (Eq.refl (l.length + 1)), .pf (Eq.refl 1), .pf (Eq.refl (l.length + 1)), .pf hx] <|
  .reg 11 [8] [(8, { obs := [(2, eS 14 e (insL l i x))] })] [.pf w0, .pf w1, .pf (Eq.refl (l.length + 1)), .pf n1, .pf h2, .pf (Eq.refl l.length), .pf (Eq.refl l.length), .pf (Eq.refl (l.length + 1)), .pf hl, .pf ho] <|
  .ret [] ()
/-- The frame behind the capacity's test. -/
def frI (n i : Nat) (s : AV) : Fr := [(7, .d (.i .i64 1)), (8, .d (.i .i64 (n : Int))), (2, .ref 1 1 0 1), (1, .d (.i .i64 (i : Int))), (0, s)]
theorem tailB (he : ∀ x, (e x).wd = 14) {l : List α} {i : Nat} {x : α} (hi : i < l.length) (hl : l.length < 100000000000000) :
    AW none Tryz.prog Tryz.f32.ntmps B10 (fun e1 fr L => e1 = .ret ∧ FR Tryz.prog Tryz.f32 (.ref 2 (l.length + 1) 0 (l.length + 1)) [eS 14 e l, eS 14 e [x], eS 14 e (insL l i x)] fr L)
      ((9, .ref 2 (l.length + 1) 0 (l.length + 1)) :: frI l.length i (.ref 0 l.length 0 l.length)) [eS 14 e l, eS 14 e [x], .seq 14 (l.length + 1) (gB e l i)] := by
  have hw : IntKind.i64.wrap ((i : Int) + 1) = (i : Int) + 1 := by rw [wrap_i64] <;> omega
  exact pTailR (ρ := Unit) (V := fun _ => .ref 2 (l.length + 1) 0 (l.length + 1)) (Lr := fun _ => [eS 14 e l, eS 14 e [x], eS 14 e (insL l i x)]) (r := ())
    (s := sB (e := e) l x i (by omega) (by omega) (by rw [hw]; omega) (by rw [hw]; omega) (by omega) (fun k _ => he _) (fun k _ => he _) (by
      rw [hw]
      refine oLe_seq insL_length.symm fun j hj => ?_
      rw [insL_get (by omega), show ((i : Int) + 1).toNat = i + 1 by omega]
      by_cases h1 : j < i
      · rw [if_neg (by omega), if_neg (by omega), if_pos h1, gB, if_pos h1]
      · by_cases h2 : j = i
        · subst h2
          rw [if_neg (by omega), if_pos (by omega), if_neg h1, if_pos rfl, show 0 + (j - (0 + j)) = 0 by omega]
          rfl
        · rw [if_pos (by omega), if_neg h1, if_neg h2]
          congr 3; omega)) (by kernel_rfl) rfl
/-! room: in place -/
def gC (e : α → DV) (l : List α) : Nat → AV := fun j => if j < l.length then .d (e (l.getD j default)) else garb 14
noncomputable def sC (l : List α) (x : α) (i : Nat) (a0 : (0 : Int) ≤ IntKind.i64.wrap ((l.length : Int) + 1)) (a1 : (IntKind.i64.wrap ((l.length : Int) + 1)).toNat ≤ l.length + 1) (a2 : (IntKind.i64.wrap ((l.length : Int) + 1)).toNat = l.length + 1)
    (w0 : (0 : Int) ≤ IntKind.i64.wrap ((i : Int) + 1)) (w1 : (IntKind.i64.wrap ((i : Int) + 1)).toNat ≤ l.length + 1) (n1 : (0 : Int) ≤ i) (h1 : i ≤ l.length + 1)
    (hx : ExtOk Tryz.prog 63 [.ref 1 1 0 1, .ref 0 (l.length + 1) (0 + (IntKind.i64.wrap ((i : Int) + 1)).toNat) (l.length + 1 - (IntKind.i64.wrap ((i : Int) + 1)).toNat)] [.seq 14 (l.length + 1) (gC e l), eS 14 e [x]] (.d (.b false)))
    (hg : ∀ k, k < l.length + 1 - i → (gC e l (0 + i + k)).wd = 14) (hy : ∀ k, k < 1 → (AV.d (e ([x].getD (0 + k) default))).wd = 14)
    (ho : OLe (.seq 14 (l.length + 1) fun j => if 0 + i ≤ j ∧ j < 0 + i + min 1 (l.length + 1 - i) then .d (e ([x].getD (0 + (j - (0 + i))) default))
      else if 0 + (IntKind.i64.wrap ((i : Int) + 1)).toNat ≤ j ∧ j < 0 + (IntKind.i64.wrap ((i : Int) + 1)).toNat + min (l.length + 1 - i) (l.length + 1 - (IntKind.i64.wrap ((i : Int) + 1)).toNat) then gC e l (0 + i + (j - (0 + (IntKind.i64.wrap ((i : Int) + 1)).toNat)))
      else gC e l j) (eS 14 e (insL l i x))) : Scr Tryz.prog Unit Unit :=
  .reg 13 [] [] [.pf a0, .pf a1, .pf (Eq.refl (l.length + 1))] <|
  .cst (A := (IntKind.i64.wrap ((l.length : Int) + 1)).toNat = l.length + 1) (.pf a2) [(0, .ref 0 (l.length + 1) (0 + 0) ((IntKind.i64.wrap ((l.length : Int) + 1)).toNat - 0)), (1, .d (.i .i64 (i : Int))), (2, .ref 1 1 0 1), (7, .d (.i .i64 1))]
    [(0, .ref 0 (l.length + 1) 0 (l.length + 1)), (1, .d (.i .i64 (i : Int))), (2, .ref 1 1 0 1), (7, .d (.i .i64 1))]
    [.seq 14 (l.length + 1) (gC e l), eS 14 e [x]] [.seq 14 (l.length + 1) (gC e l), eS 14 e [x]] (fun h => ⟨by rw [h]; rfl, rfl⟩) <|
  .reg 14 [] [(6, { h := .callr (.d (.b false)) })] [.pf w0, .pf w1, .pf (Eq.refl (l.length + 1)), .pf hx] <|
  .br true (.pf (p := (!false) = true) rfl) <|
  .reg 15 [8] [] [.pf w0, .pf w1, .pf (Eq.refl (l.length + 1)), .pf n1, .pf h1, .pf (Eq.refl (l.length + 1)), .pf (Eq.refl (l.length + 1)), .pf (Eq.refl (l.length + 1)), .pf hg] <|
  .reg 16 [] [(4, { obs := [(0, eS 14 e (insL l i x))] })] [.pf n1, .pf h1, .pf (Eq.refl (l.length + 1)), .pf (Eq.refl 1), .pf (Eq.refl (l.length + 1)), .pf hy, .pf ho] <|
  .reg 17 [] [] [] <|
  .ret [] ()
theorem tailC (he : ∀ x, (e x).wd = 14) {l : List α} {i : Nat} {x : α} (hi : i < l.length) (hl : l.length < 100000000000000) :
    AW none Tryz.prog Tryz.f32.ntmps C13 (FQ Tryz.prog Tryz.f32 (.ref 0 (l.length + 1) 0 (l.length + 1)) [eS 14 e (insL l i x), eS 14 e [x]])
      (frI l.length i (.ref 0 (l.length + 1) 0 l.length)) [.seq 14 (l.length + 1) (gC e l), eS 14 e [x]] := by
  have hw : IntKind.i64.wrap ((i : Int) + 1) = (i : Int) + 1 := by rw [wrap_i64] <;> omega
  have hw2 : IntKind.i64.wrap ((l.length : Int) + 1) = (l.length : Int) + 1 := by rw [wrap_i64] <;> omega
  have hwd : ∀ k, (gC e l k).wd = 14 := fun k => by
    unfold gC
    split
    · exact he _
    · rfl
  exact pTailG (ρ := Unit) (V := fun _ => .ref 0 (l.length + 1) 0 (l.length + 1)) (Lr := fun _ => [eS 14 e (insL l i x), eS 14 e [x]]) (r := ())
    (s := sC (e := e) l x i (by rw [hw2]; omega) (by rw [hw2]; omega) (by rw [hw2]; omega) (by rw [hw]; omega) (by rw [hw]; omega) (by omega) (by omega)
      (overlaps_ok (fn := Tryz.f63) (tR := 4) (te := 40) (sz := 14) (z1 := 14) (z2 := 14) Tryz.func63 (by kernel_rfl) (by kernel_rfl) (by kernel_rfl) (by kernel_rfl) Tryz.underlying35 Tryz.sizeOf40 (by decide) rfl rfl (by decide) rfl (by rw [hw]; omega) (by rw [hw]; omega) (by decide))
      (fun k _ => hwd _) (fun k _ => he _) (by
      rw [hw]
      refine oLe_seq insL_length.symm fun j hj => ?_
      rw [insL_get (by omega), show ((i : Int) + 1).toNat = i + 1 by omega]
      by_cases h2 : j = i
      · subst h2
        rw [if_pos (by omega), if_neg (by omega), if_pos rfl, show 0 + (j - (0 + j)) = 0 by omega]
        rfl
      · rw [if_neg (by omega), if_neg h2]
        by_cases h1 : j < i
        · rw [if_neg (by omega), if_pos h1, gC, if_pos (by omega)]
        · rw [if_pos (by omega), if_neg h1, gC, if_pos (by omega)]
          congr 3; omega)) (by kernel_rfl) rfl
theorem get_slot {c : Cx} {G : GFr} {a : Act} {t : Nat} {v : AV} (hf : FrIs c G a.tmps) (h : (t, [], v) ∈ G) : AV.IsV c v (a.tmps.getD t undef) := (hf _ h).2.1 (fun z hz => by cases hz)
/-- The capacity's test. -/
theorem r8_wp {l : List α} {i : Nat} {x : α} (h0 : 0 < l.length) {Q : Exit → Act → World → Prop} {X : Nat → Prop} {ms : Blocks} {w : World} {a : Act} {zn : Nat} (hr : Rel X ms [eS 14 e l, eS 14 e [x]] w)
    (hf : FrIs (cxOf X ms [eS 14 e l, eS 14 e [x]] w) (frI l.length i (.ref 0 l.length 0 l.length)).up a.tmps) (hN : a.tmps.size = Tryz.f32.ntmps)
    (hQ : ∀ a' ms' w' b tc, Rel X ms' [eS 14 e l, eS 14 e [x]] w' → Ext ms w ms' w' → (cxOf X ms [eS 14 e l, eS 14 e [x]] w).le (cxOf X ms' [eS 14 e l, eS 14 e [x]] w') → FrIs (cxOf X ms' [eS 14 e l, eS 14 e [x]] w') (frI l.length i (.ref 0 l.length 0 l.length)).up a'.tmps →
      a'.tmps.size = Tryz.f32.ntmps → a'.defers = a.defers → ms'[0]? = some (some (b, tc)) → l.length ≤ tc → a'.eval (.tmp 0) = .slice (some ⟨b, 0, none⟩) l.length tc → a'.eval (.tmp 31) = .bool (decide (IntKind.i64.wrap ((l.length : Int) + 1) > (tc : Int))) → Q .normal a' w') :
    R8.wpIn (fenceOf none) zn Tryz.prog Q a w := by
  rw [r8_eq]
  refine wpIn_region ?_
  rw [show List.range (regOps R8).size = [0, 1, 2, 3] ++ [4, 5] by kernel_rfl]
  refine wpOps_pre (hs := []) (C := []) (L1 := [eS 14 e l, eS 14 e [x]]) (G1 := [(29, [], .ref 0 l.length 0 l.length), (28, [], .d (.i .i64 (IntKind.i64.wrap ((l.length : Int) + 1)))), (27, [], .d (.i .i64 1)), (26, [], .d (.i .i64 (l.length : Int))),
    (7, [], .d (.i .i64 1)), (8, [], .d (.i .i64 (l.length : Int))), (2, [], .ref 1 1 0 1), (1, [], .d (.i .i64 (i : Int))), (0, [], .ref 0 l.length 0 l.length)]) (by kernel_rfl) trivial hr hf hN fun a1 ms1 w1 r1 e1 c1 f1 n1 d1 => ?_
  have k1 := IsV.is1 rfl (by simp) (by simp) (get_slot f1 (t := 29) (v := .ref 0 l.length 0 l.length) (by simp))
  have k0 := IsV.is1 rfl (by simp) (by simp) (get_slot f1 (t := 0) (v := .ref 0 l.length 0 l.length) (by simp))
  have at0 : ∀ {t : Nat} {v : Value}, a1.tmps.getD t undef = v → AV.Is (cxOf X ms1 [eS 14 e l, eS 14 e [x]] w1) (.ref 0 l.length 0 l.length) [v] → ∃ b tc, ms1[0]? = some (some (b, tc)) ∧ l.length ≤ tc ∧ v = .slice (some ⟨b, 0, none⟩) l.length tc := fun {t v} _ h => by
    cases h with
    | ref _ _ _ _ _ h =>
    obtain ⟨_, ⟨_, _, rfl⟩, _, h⟩ := h
    obtain ⟨_, h⟩ := h 14 _ rfl
    rcases h with ⟨_, _, h⟩ | ⟨h, _⟩ | ⟨b, tc, m, h1, h2⟩
    · simp only [Value.slice.injEq] at h; omega
    · exact absurd rfl h
    · exact ⟨b, tc, m, h1, by simpa using h2⟩
  obtain ⟨b, tc, m1, hle, h29⟩ := at0 rfl k1
  obtain ⟨b', tc', m1', _, h0'⟩ := at0 rfl k0
  have e1' := m1'.symm.trans m1
  cases e1'
  refine ops_one (o := opAt (regOps R8) 4) (by kernel_rfl) (by kernel_rfl) (OpOk.value (cap_run (x := .tmp 29) (t := 35) (by kernel_rfl) Tryz.underlying35 h29) ?_)
  rw [show (opAt (regOps R8) 4).dst = some 30 by kernel_rfl]
  obtain ⟨p1, p2, p3⟩ := putG_is (dst := some 30) (ch := []) (v := .d (.i .i64 (tc : Int))) (u := .int .i64 tc) (G := [(29, [], .ref 0 l.length 0 l.length), (28, [], .d (.i .i64 (IntKind.i64.wrap ((l.length : Int) + 1)))), (27, [], .d (.i .i64 1)), (26, [], .d (.i .i64 (l.length : Int))),
    (7, [], .d (.i .i64 1)), (8, [], .d (.i .i64 (l.length : Int))), (2, [], .ref 1 1 0 1), (1, [], .d (.i .i64 (i : Int))), (0, [], .ref 0 l.length 0 l.length)]) (G1 := (30, [], .d (.i .i64 (tc : Int))) :: [(29, [], .ref 0 l.length 0 l.length), (28, [], .d (.i .i64 (IntKind.i64.wrap ((l.length : Int) + 1)))), (27, [], .d (.i .i64 1)), (26, [], .d (.i .i64 (l.length : Int))),
    (7, [], .d (.i .i64 1)), (8, [], .d (.i .i64 (l.length : Int))), (2, [], .ref 1 1 0 1), (1, [], .d (.i .i64 (i : Int))), (0, [], .ref 0 l.length 0 l.length)]) (N := Tryz.f32.ntmps) (by kernel_rfl) n1 f1 (fun _ => .one _ _ rfl (.d _ _ (.i _ _))) (fun h => absurd (fun z hz => by cases hz) h)
  refine runOps_ok (hs := []) none zn [5] _ _ ([(31, [], .d (.b (decide (IntKind.i64.wrap ((l.length : Int) + 1) > (tc : Int)))))] ++ (30, [], .d (.i .i64 (tc : Int))) :: [(29, [], .ref 0 l.length 0 l.length), (28, [], .d (.i .i64 (IntKind.i64.wrap ((l.length : Int) + 1)))), (27, [], .d (.i .i64 1)), (26, [], .d (.i .i64 (l.length : Int))),
    (7, [], .d (.i .i64 1)), (8, [], .d (.i .i64 (l.length : Int))), (2, [], .ref 1 1 0 1), (1, [], .d (.i .i64 (i : Int))), (0, [], .ref 0 l.length 0 l.length)]) [eS 14 e l, eS 14 e [x]] [] ms1 w1 _ (by kernel_rfl) trivial r1 p1 p2 fun a2 ms2 w2 r2 e2 c2 f2 n2 d2 => ?_
  have m2 : ms2[0]? = some (some (b, tc)) := by
    obtain ⟨_, h1, _, _, h2⟩ := c2.ob 0 (eS 14 e l) (by simp [cxOf]) rfl (by simp [eS, Ob.stamp])
    obtain rfl : _ = eS 14 e l := Option.some.inj h1.symm
    exact (h2 rfl).trans m1
  have k0' := IsV.is1 rfl (by simp) (by simp) (get_slot f2 (t := 0) (v := .ref 0 l.length 0 l.length) (by simp))
  have h0'' : a2.tmps.getD 0 undef = .slice (some ⟨b, 0, none⟩) l.length tc := by
    generalize a2.tmps.getD 0 undef = v at k0'
    cases k0' with
    | ref _ _ _ _ _ h =>
    obtain ⟨_, ⟨_, _, rfl⟩, _, h⟩ := h
    obtain ⟨_, h⟩ := h 14 _ rfl
    rcases h with ⟨_, _, h⟩ | ⟨h, _⟩ | ⟨b'', tc'', m, h1, h2⟩
    · simp only [Value.slice.injEq] at h; omega
    · exact absurd rfl h
    · have e := m2.symm.trans m
      cases e
      simpa using h2
  exact hQ a2 ms2 w2 b tc r2 (e1.trans e2) (c1.trans c2) (fun q hq => f2 q (by
    simp only [frI, Fr.up, List.map_cons, List.map_nil, List.mem_cons, List.not_mem_nil, or_false] at hq
    rcases hq with rfl | rfl | rfl | rfl | rfl <;> simp)) n2 (d2.trans (p3.trans d1)) m2 hle h0'' (IsV.b (get_slot f2 (t := 31) (v := .d (.b (decide (IntKind.i64.wrap ((l.length : Int) + 1) > (tc : Int))))) (by simp)))
/-- No room: a new row. -/
theorem r9_wp {l : List α} {i : Nat} {x : α} (hi : i < l.length) (hl : (l.length + 1) * (4 * 120) ≤ 2 ^ 48) {Q : Exit → Act → World → Prop} {X : Nat → Prop} {ms : Blocks} {w : World} {a : Act} {zn b : Nat} (hr : Rel X ms [eS 14 e l, eS 14 e [x]] w)
    (hf : FrIs (cxOf X ms [eS 14 e l, eS 14 e [x]] w) (frI l.length i (.ref 0 l.length 0 l.length)).up a.tmps) (hN : a.tmps.size = Tryz.f32.ntmps) (hm : ms[0]? = some (some (b, l.length)))
    (hQ : ∀ a' ms' w', Rel X ms' [eS 14 e l, eS 14 e [x], .seq 14 (l.length + 1) (gB e l i)] w' → Ext ms w ms' w' → (cxOf X ms [eS 14 e l, eS 14 e [x]] w).le (cxOf X ms' [eS 14 e l, eS 14 e [x], .seq 14 (l.length + 1) (gB e l i)] w') →
      FrIs (cxOf X ms' [eS 14 e l, eS 14 e [x], .seq 14 (l.length + 1) (gB e l i)] w') (Fr.up ((9, .ref 2 (l.length + 1) 0 (l.length + 1)) :: frI l.length i (.ref 0 l.length 0 l.length))) a'.tmps →
      a'.tmps.size = Tryz.f32.ntmps → a'.defers = a.defers → Q .normal a' w') :
    R9.wpIn (fenceOf none) zn Tryz.prog Q a w := by
  have hn : l.length < 100000000000000 := by omega
  have hw2 : IntKind.i64.wrap ((l.length : Int) + 1) = (l.length : Int) + 1 := by rw [wrap_i64] <;> omega
  have hw3 : IntKind.i64.wrap (IntKind.i64.wrap ((l.length : Int) + 1) - (i : Int)) = ((l.length + 1 - i : Nat) : Int) := by rw [hw2, wrap_i64] <;> omega
  rw [r9_eq]
  refine wpIn_region ?_
  rw [show List.range (regOps R9).size = [0, 1, 2, 3, 4, 5, 6, 7] ++ [8, 9] by kernel_rfl]
  refine wpOps_pre (hs := []) (C := [(0 : Int) ≤ (i : Int), i ≤ l.length, l.length = l.length]) (L1 := [eS 14 e l, eS 14 e [x]]) (G1 := [(39, [], .d (.i .i64 (IntKind.i64.wrap (IntKind.i64.wrap ((l.length : Int) + 1) - (i : Int))))), (38, [], .d (.i .i64 (i : Int))), (37, [], .d (.i .i64 (IntKind.i64.wrap ((l.length : Int) + 1)))),
    (36, [], .d (.i .i64 1)), (35, [], .d (.i .i64 (l.length : Int))), (34, [], .ref 0 l.length (0 + 0) (i - 0)), (33, [], .d (.i .i64 (i : Int))), (32, [], .ref 0 l.length 0 l.length),
    (7, [], .d (.i .i64 1)), (8, [], .d (.i .i64 (l.length : Int))), (2, [], .ref 1 1 0 1), (1, [], .d (.i .i64 (i : Int))), (0, [], .ref 0 l.length 0 l.length)]) (by kernel_rfl) ⟨by omega, by omega, rfl, trivial⟩ hr hf hN fun a1 ms1 w1 r1 e1 c1 f1 n1 d1 => ?_
  have m1 : ms1[0]? = some (some (b, l.length)) := by
    obtain ⟨_, h1, _, _, h2⟩ := c1.ob 0 (eS 14 e l) (by simp [cxOf]) rfl (by simp [eS, Ob.stamp])
    obtain rfl : _ = eS 14 e l := Option.some.inj h1.symm
    exact (h2 rfl).trans hm
  have k34 := IsV.is1 rfl (by simp) (by simp) (get_slot f1 (t := 34) (v := .ref 0 l.length (0 + 0) (i - 0)) (by simp))
  have h34 : a1.eval (.tmp 34) = .slice (some ⟨b, 0, none⟩) i l.length := by
    show a1.tmps.getD 34 undef = _
    generalize a1.tmps.getD 34 undef = v at k34
    cases k34 with
    | ref _ _ _ _ _ h =>
    obtain ⟨_, ⟨_, _, rfl⟩, _, h⟩ := h
    obtain ⟨_, h⟩ := h 14 _ rfl
    rcases h with ⟨h, _⟩ | ⟨h, _⟩ | ⟨b'', tc'', m, h1, h2⟩
    · have e : some (none : Option (Nat × Nat)) = some (some (b, l.length)) := h.symm.trans m1
      cases e
    · exact absurd rfl h
    · have e := m1.symm.trans m
      cases e
      simpa using h2
  have h39 : a1.eval (.tmp 39) = .int .i64 ((l.length + 1 - i : Nat) : Int) := by
    have := IsV.i (get_slot f1 (t := 39) (v := .d (.i .i64 (IntKind.i64.wrap (IntKind.i64.wrap ((l.length : Int) + 1) - (i : Int))))) (by simp))
    rw [hw3] at this
    exact this
  obtain ⟨arr, ty, cs, g1, g2, g3, g4, g5, g6⟩ := r1.seq (o := 0) rfl m1
  obtain ⟨info, hinf⟩ : ∃ info, Tryz.prog.info? 40 = some info := ⟨_, Option.eq_some_of_isSome (by kernel_rfl)⟩
  have hsz : info.size = 14 := by
    have : (Tryz.prog.info? 40).map (·.size) = some 14 := by kernel_rfl
    rw [hinf] at this; simpa using this
  have hby : info.bytes = 120 := by
    have : (Tryz.prog.info? 40).map (·.bytes) = some 120 := by kernel_rfl
    rw [hinf] at this; simpa using this
  obtain ⟨z, hz⟩ : ∃ z, info.zero = some z := by
    have : ((Tryz.prog.info? 40).bind (·.zero)).isSome = true := by kernel_rfl
    rw [hinf] at this
    exact Option.isSome_iff_exists.1 this
  have hzs : z.cells.size = 14 := by
    have : ((Tryz.prog.info? 40).bind (·.zero)).map (fun z => z.cells.size) = some 14 := by kernel_rfl
    rw [hinf] at this
    simpa [hz] using this
  have hzone : ∀ v ∈ z.cells.toList, v.oneCell' = true := by
    have : ((Tryz.prog.info? 40).bind (·.zero)).map (fun z => z.cells.toList.all fun v => v.oneCell') = some true := by kernel_rfl
    rw [hinf] at this
    have h : z.cells.toList.all (fun v => v.oneCell') = true := by simpa [hz] using this
    exact List.all_eq_true.1 h
  have hcsi : ∀ k, k < i → (cs k).length = 14 := fun k hk => g5 k (by omega)
  have hold : (Builtin.firstCells info.size i (.slice (some ⟨b, 0, none⟩) i l.length)).run Tryz.prog w1.drew = .ok ((List.range i).flatMap cs).toArray w1.drew := by
    rw [hsz]
    exact run_firstCells (w := w1) (w1 := w1.drew) (off := 0) (cap := l.length) rfl g1 hcsi (fun k hk j hj => by simpa using g6 k (by omega) j hj) i
  have hfit : Builtin.nextslicecap (i + (l.length + 1 - i)) l.length * info.bytes ≤ 281474976710656 := by
    have h1 := nextslicecap_le (need := i + (l.length + 1 - i)) (old := l.length) (by omega)
    rw [hby]
    omega
  have hap := Lib.run_append_grow_zeros (P := Tryz.prog) w1 35 3 (opAt (regOps R9) 8).type 40 info z .i64 .i64 Tryz.underlying35 Tryz.underlying3 hinf hz (some ⟨b, 0, none⟩) i l.length ((List.range i).flatMap cs) hold (l.length + 1 - i) (by omega) (by omega) (by omega) (by omega) (by rw [hby]; omega) hfit
  rw [show i + (l.length + 1 - i) = l.length + 1 by omega] at hap
  obtain ⟨nc, hnc⟩ : ∃ nc, nc = grownCap w1 (l.length + 1) l.length 40 := ⟨_, rfl⟩
  have hge := grownCap_ge w1 (l.length + 1) l.length 40
  rw [← hnc] at hap hge
  obtain ⟨row, hrow⟩ : ∃ row : Array Value, row = ((List.range i).flatMap cs).toArray ++ Builtin.zeroCells z.cells (l.length + 1 - i) ++ Builtin.zeroCells z.cells (nc - (l.length + 1)) := ⟨_, rfl⟩
  rw [← hrow] at hap
  have hkl := flatMap_range_length i 14 cs hcsi
  have hrs : row.size = nc * 14 := by
    rw [hrow, Array.size_append, Array.size_append, List.size_toArray, hkl, size_zeroCells, size_zeroCells, hzs]
    omega
  have hone : ∀ v ∈ row.toList, v.oneCell' = true := by
    rw [hrow]
    simp only [Array.toList_append, List.mem_append]
    rintro v ((hv | hv) | hv)
    · exact flat_one (fun k (hk : k < i) => g4 k (by omega)) v hv
    · exact zeroCells_one hzone _ v hv
    · exact zeroCells_one hzone _ v hv
  have hget : ∀ k, k < i → ∀ j, j < 14 → row[k * 14 + j]? = (cs k)[j]? := fun k hk j hj => by
    rw [hrow, ← Array.getElem?_toList]
    simp only [Array.toList_append, List.append_assoc]
    rw [List.getElem?_append_left (by rw [hkl]; omega)]
    exact flatMap_range_getElem? i 14 cs hcsi k j hk hj
  have hcl : ∀ j, j < l.length + 1 → ((row.toList.drop (j * 14)).take 14).length = 14 := fun j hj => by
    simp only [List.length_take, List.length_drop, Array.length_toList, hrs]
    omega
  obtain ⟨w2, hw⟩ : ∃ w2, w2 = w1.drew.alloc (.cells row 40) := ⟨_, rfl⟩
  rw [← hw] at hap
  have hgrow : Grow w1 w2 := by rw [hw]; exact (Grow.drew w1).trans (Grow.alloc _ _)
  have hhp : w2.heap[w1.heap.size]? = some (.cells row 40 (0, 0)) := by rw [hw]; exact heap_new w1.drew _
  have hsize : w1.heap.size < w2.heap.size := lt_of_heap hhp
  obtain ⟨q1, q2, q3⟩ := r1.push (m := some (w1.heap.size, nc)) (obj := .seq 14 (l.length + 1) (gB e l i)) hgrow (fun b tc e => by cases e; exact ⟨Nat.le_refl _, hsize⟩) (fun hcx => by
    refine .inr ⟨w1.heap.size, nc, row, 40, fun j => if j < i then cs j else (row.toList.drop (j * 14)).take 14, by simp [cxOf, ← r1.len], hhp, hge, ⟨hrs, hone⟩, fun j hj => ?_, fun j hj => ?_, fun j hj q hq => ?_⟩
    · by_cases hji : j < i
      · simp only [gB, if_pos hji]; exact (g4 j (by omega)).mono hcx
      · simp only [gB, if_neg hji, garb]
        have := garb_is (c := cxOf X (ms1 ++ [some (w1.heap.size, nc)]) ([eS 14 e l, eS 14 e [x]] ++ [.seq 14 (l.length + 1) (gB e l i)]) w2) (l := (row.toList.drop (j * 14)).take 14) fun v hv => hone v (List.mem_of_mem_drop (List.mem_of_mem_take hv))
        rw [hcl j hj] at this
        exact .agg _ _ this
    · by_cases hji : j < i
      · simp only [if_pos hji]; exact g5 j (by omega)
      · simp only [if_neg hji]; exact hcl j hj
    · by_cases hji : j < i
      · simp only [if_pos hji]; exact hget j hji q hq
      · simp only [if_neg hji]
        rw [List.getElem?_take_of_lt hq, List.getElem?_drop, Array.getElem?_toList])
  have hexec : (execOp a1.eval (opAt (regOps R9) 8)).run Tryz.prog w1 = .ok (.value (.slice (some ⟨w1.heap.size, 0, none⟩) (l.length + 1) nc)) w2 := by
    have hop : (opAt (regOps R9) 8).op = .call ⟨.builtin .append, #[.tmp 34, .tmp 39], #[35, 3]⟩ := by kernel_rfl
    generalize opAt (regOps R9) 8 = o at hop hap
    obtain ⟨dst, op, ty, pos, after, guard⟩ := o
    subst hop
    refine run_v (s := Builtin.append_ #[35, 3] ty (#[.tmp 34, .tmp 39].map a1.eval)) ?_
    have ha : (#[.tmp 34, .tmp 39] : Array Operand).map a1.eval = #[.slice (some ⟨b, 0, none⟩) i l.length, .int .i64 ((l.length + 1 - i : Nat) : Int)] := by
      simp [h34, h39]
    rw [ha]
    exact hap
  refine ops_one (o := opAt (regOps R9) 8) (by kernel_rfl) (by kernel_rfl) (OpOk.value hexec ?_)
  rw [show (opAt (regOps R9) 8).dst = some 40 by kernel_rfl]
  obtain ⟨p1, p2, p3⟩ := putG_is (dst := some 40) (ch := []) (v := .ref 2 (l.length + 1) 0 (l.length + 1)) (u := .slice (some ⟨w1.heap.size, 0, none⟩) (l.length + 1) nc) (G := (frI l.length i (.ref 0 l.length 0 l.length)).up)
    (G1 := (40, [], .ref 2 (l.length + 1) 0 (l.length + 1)) :: (frI l.length i (.ref 0 l.length 0 l.length)).up) (N := Tryz.f32.ntmps) (by kernel_rfl) n1 (fun q hq => (f1.mono q3) q (by
    simp only [frI, Fr.up, List.map_cons, List.map_nil, List.mem_cons, List.not_mem_nil, or_false] at hq
    rcases hq with rfl | rfl | rfl | rfl | rfl <;> simp)) (fun _ => ref_new r1.len hge) (fun h => absurd (fun z hz => by cases hz) h)
  refine runOps_ok (hs := []) none zn [9] _ _ ((9, [], .ref 2 (l.length + 1) 0 (l.length + 1)) :: (40, [], .ref 2 (l.length + 1) 0 (l.length + 1)) :: (frI l.length i (.ref 0 l.length 0 l.length)).up) [eS 14 e l, eS 14 e [x], .seq 14 (l.length + 1) (gB e l i)] [] _ w2 _ (by kernel_rfl) trivial q1 p1 p2 fun a2 ms2 w3 r2 e2 c2 f2 n2 d2 => ?_
  exact hQ a2 ms2 w3 r2 ((e1.trans q2).trans e2) ((c1.trans q3).trans c2) (fun q hq => f2 q (by
    rcases List.mem_cons.1 (show q ∈ (9, [], AV.ref 2 (l.length + 1) 0 (l.length + 1)) :: (frI l.length i (.ref 0 l.length 0 l.length)).up from hq) with hq | hq
    · exact List.mem_cons.2 (.inl hq)
    · exact List.mem_cons.2 (.inr (List.mem_cons.2 (.inr hq))))) n2 (d2.trans (p3.trans d1))
theorem regc {N : Nat} {Q : Post} {fr fr' fr2 : Fr} {L L' : List Ob} {id : Nat} {c : Code} {C : List Prop} (hq : c = .region id (regOps c) false) (h : regionRun Tryz.prog (regOps c) N [] fr L = some (fr', L', C)) (hc : AllP C)
    (hm : ∀ q ∈ fr2, q ∈ fr') (k : Q .normal fr2 L') : AW none Tryz.prog N c Q fr L := by
  have := gst_reg (id := id) (Q := Q) h hc hm k
  rwa [← hq] at this
theorem head (_he : ∀ x, (e x).wd = 14) {l : List α} {i : Nat} {x : α} (hi : i < l.length) (Q : Post) (h : AW none Tryz.prog Tryz.f32.ntmps (.seq (.seq R8 (.cond (.tmp 31) (.seq R9 B10) .skip)) C13) Q (frI l.length i (.ref 0 l.length 0 l.length)) [eS 14 e l, eS 14 e [x]]) :
    AW none Tryz.prog Tryz.f32.ntmps (.seq R0 (.seq R1 (.seq R2 (.seq (.seq (cL X3) (.cond (.tmp 16) (cT (cR X3)) .skip)) (.seq R5 (.seq (.seq (cL X6) (.cond (.tmp 22) (cT (cR X6)) .skip)) (.seq (.seq R8 (.cond (.tmp 31) (.seq R9 B10) .skip)) C13))))))) Q
      (argFr [.ref 0 l.length 0 l.length, .d (.i .i64 (i : Int)), .ref 1 1 0 1] 0) [eS 14 e l, eS 14 e [x]] := by
  have hne : ((i : Int) == (l.length : Int)) = false := by simp; omega
  refine aw_seq (regc (L' := [eS 14 e l, eS 14 e [x]]) (id := 0) (C := []) (fr' := (6, .full 0 fun _ => .b false) :: argFr [.ref 0 l.length 0 l.length, .d (.i .i64 (i : Int)), .ref 1 1 0 1] 0) (fr2 := argFr [.ref 0 l.length 0 l.length, .d (.i .i64 (i : Int)), .ref 1 1 0 1] 0)
    (by kernel_rfl) (by kernel_rfl) trivial (fun q hq => List.mem_cons_of_mem _ hq) ?_)
  refine aw_seq (regc (L' := [eS 14 e l, eS 14 e [x]]) (id := 1) (C := [(0 : Int) ≤ (i : Int), i ≤ l.length, l.length = l.length]) (fr' := (12, .ref 0 l.length (0 + i) (l.length - i)) :: (11, .d (.i .i64 (i : Int))) :: (10, .ref 0 l.length 0 l.length) :: argFr [.ref 0 l.length 0 l.length, .d (.i .i64 (i : Int)), .ref 1 1 0 1] 0)
    (fr2 := argFr [.ref 0 l.length 0 l.length, .d (.i .i64 (i : Int)), .ref 1 1 0 1] 0)
    (by kernel_rfl) (by kernel_rfl) ⟨by omega, by omega, rfl, trivial⟩ (fun q hq => List.mem_cons_of_mem _ (List.mem_cons_of_mem _ (List.mem_cons_of_mem _ hq))) ?_)
  refine aw_seq (regc (L' := [eS 14 e l, eS 14 e [x]]) (id := 2) (C := []) (fr' := (7, .d (.i .i64 1)) :: (14, .d (.i .i64 1)) :: (13, .ref 1 1 0 1) :: argFr [.ref 0 l.length 0 l.length, .d (.i .i64 (i : Int)), .ref 1 1 0 1] 0)
    (fr2 := [(7, .d (.i .i64 1)), (2, .ref 1 1 0 1), (1, .d (.i .i64 (i : Int))), (0, .ref 0 l.length 0 l.length)])
    (by kernel_rfl) (by kernel_rfl) trivial (fun q hq => by
      simp only [List.mem_cons, List.not_mem_nil, or_false] at hq
      simp only [argFr, List.mem_cons, List.not_mem_nil, or_false]
      rcases hq with rfl | rfl | rfl | rfl <;> simp) ?_)
  refine aw_seq (aw_seq (regc (L' := [eS 14 e l, eS 14 e [x]]) (id := 3) (C := []) (fr' := (16, .d (.b false)) :: (15, .d (.i .i64 1)) :: [(7, .d (.i .i64 1)), (2, .ref 1 1 0 1), (1, .d (.i .i64 (i : Int))), (0, .ref 0 l.length 0 l.length)])
    (fr2 := [(16, .d (.b false)), (7, .d (.i .i64 1)), (2, .ref 1 1 0 1), (1, .d (.i .i64 (i : Int))), (0, .ref 0 l.length 0 l.length)])
    (by kernel_rfl) (by kernel_rfl) trivial (fun q hq => by
      simp only [List.mem_cons, List.not_mem_nil, or_false] at hq ⊢
      rcases hq with rfl | rfl | rfl | rfl | rfl <;> simp) ?_))
  refine aw_cond (b := false) rfl (fun h => by cases h) fun _ => aw_skip ?_
  refine aw_seq (regc (L' := [eS 14 e l, eS 14 e [x]]) (id := 5) (C := []) (fr' := (8, .d (.i .i64 (l.length : Int))) :: (19, .d (.i .i64 (l.length : Int))) :: (18, .ref 0 l.length 0 l.length) :: [(16, .d (.b false)), (7, .d (.i .i64 1)), (2, .ref 1 1 0 1), (1, .d (.i .i64 (i : Int))), (0, .ref 0 l.length 0 l.length)])
    (fr2 := frI l.length i (.ref 0 l.length 0 l.length))
    (by kernel_rfl) (by kernel_rfl) trivial (fun q hq => by
      simp only [frI, List.mem_cons, List.not_mem_nil, or_false] at hq ⊢
      rcases hq with rfl | rfl | rfl | rfl | rfl <;> simp) ?_)
  refine aw_seq (aw_seq (regc (L' := [eS 14 e l, eS 14 e [x]]) (id := 6) (C := []) (fr' := (22, .d (.b ((i : Int) == (l.length : Int)))) :: (21, .d (.i .i64 (l.length : Int))) :: (20, .d (.i .i64 (i : Int))) :: frI l.length i (.ref 0 l.length 0 l.length))
    (fr2 := (22, .d (.b ((i : Int) == (l.length : Int)))) :: frI l.length i (.ref 0 l.length 0 l.length))
    (by kernel_rfl) (by kernel_rfl) trivial (fun q hq => by
      rcases List.mem_cons.1 hq with rfl | hq
      · exact List.mem_cons_self
      · exact List.mem_cons_of_mem _ (List.mem_cons_of_mem _ (List.mem_cons_of_mem _ hq))) ?_))
  refine aw_cond (b := ((i : Int) == (l.length : Int))) rfl (fun h => by rw [hne] at h; cases h) fun _ => aw_skip ?_
  exact aw_weaken h fun q hq => ⟨q.2, List.mem_cons_of_mem _ hq, LeV.refl _⟩
theorem tail8 (he : ∀ x, (e x).wd = 14) {l : List α} {i : Nat} {x : α} (hi : i < l.length) (hl : (l.length + 1) * (4 * 120) ≤ 2 ^ 48) :
    AW none Tryz.prog Tryz.f32.ntmps (.seq (.seq R8 (.cond (.tmp 31) (.seq R9 B10) .skip)) C13)
      (fun e1 fr L => FQ Tryz.prog Tryz.f32 (.ref 0 (l.length + 1) 0 (l.length + 1)) [eS 14 e (insL l i x), eS 14 e [x]] e1 fr L ∨
        FQ Tryz.prog Tryz.f32 (.ref 2 (l.length + 1) 0 (l.length + 1)) [eS 14 e l, eS 14 e [x], eS 14 e (insL l i x)] e1 fr L)
      (frI l.length i (.ref 0 l.length 0 l.length)) [eS 14 e l, eS 14 e [x]] := by
  have hn : l.length < 100000000000000 := by omega
  have hw2 : IntKind.i64.wrap ((l.length : Int) + 1) = (l.length : Int) + 1 := by rw [wrap_i64] <;> omega
  intro zn df X ms w a hr hf hN hd
  refine wpIn_seq (wpIn_seq (r8_wp (by omega) hr hf hN fun a1 ms1 w1 b tc r1 e1 c1 f1 n1 d1 m1 hle h0e h31 => ?_))
  by_cases hcap : l.length + 1 ≤ tc
  · refine wpIn_cond_false (h31.trans (by rw [hw2]; simp; omega)) (wpIn_skip ?_)
    obtain ⟨q1, q3⟩ := r1.room (o := 0) (n' := l.length + 1) rfl m1 (by omega) hcap
    refine wpIn_mono (tailC he hi hn zn df X ms1 w1 a1 q1 (fun q hq => ?_) n1 (d1.trans hd)) ?_
    · simp only [frI, Fr.up, List.map_cons, List.map_nil, List.mem_cons, List.not_mem_nil, or_false] at hq
      have f1' := f1.mono q3
      rcases hq with rfl | rfl | rfl | rfl | rfl
      · exact f1' _ (by simp [frI, Fr.up])
      · exact f1' _ (by simp [frI, Fr.up])
      · exact f1' _ (by simp [frI, Fr.up])
      · exact f1' _ (by simp [frI, Fr.up])
      · obtain ⟨s1, s2, s3⟩ := f1 (0, [], .ref 0 l.length 0 l.length) (by simp [frI, Fr.up])
        refine ⟨s1, fun _ => ?_, s3⟩
        have h0e' : a1.tmps.getD 0 undef = .slice (some ⟨b, 0, none⟩) l.length tc := h0e
        rw [h0e']
        refine .one _ _ rfl (.ref _ _ _ _ _ ⟨by simp [cxOf], ⟨_, _, rfl⟩, fun obj s ho hs => ?_, fun sz' f' hL' => ⟨by omega, .inr (.inr ⟨b, tc, m1, hcap, by simp⟩)⟩⟩)
        obtain rfl := Option.some.inj ho
        simp [Ob.stamp] at hs; omega
    · rintro e2 a2 w2 ⟨ms2, fr2, L2, hq, r2, e3, c3, f3, n3, d3⟩
      exact ⟨ms2, fr2, L2, .inl hq, r2, e1.trans e3, (c1.trans q3).trans c3, f3, n3, d3⟩
  · have htc : tc = l.length := by omega
    subst htc
    refine wpIn_cond_true (h31.trans (by rw [hw2]; simp; omega)) (wpIn_seq (r9_wp hi hl r1 f1 n1 m1 fun a2 ms2 w2 r2 e2 c2 f2 n2 d2 => ?_))
    refine wpIn_mono (tailB he hi hn zn df X ms2 w2 a2 r2 f2 n2 ((d2.trans d1).trans hd)) ?_
    rintro e3 a3 w3 ⟨ms3, fr3, L3, ⟨rfl, hq⟩, r3, e3, c3, f3, n3, d3⟩
    exact ⟨ms3, fr3, L3, .inr ⟨.inr rfl, hq⟩, r3, (e1.trans e2).trans e3, (c1.trans c2).trans c3, f3, n3, d3⟩
theorem ins_lt (he : ∀ x, (e x).wd = 14) {l : List α} {i : Nat} {x : α} (hi : i < l.length) (hl : (l.length + 1) * (4 * 120) ≤ 2 ^ 48) :
    CallOk Tryz.prog 32 [.ref 0 l.length 0 l.length, .d (.i .i64 (i : Int)), .ref 1 1 0 1] [eS 14 e l, eS 14 e [x]] (.ref 0 (l.length + 1) 0 (l.length + 1)) [eS 14 e (insL l i x), eS 14 e [x]] := by
  intro X ms w us hr hu
  have hlen := insL_length (l := l) (i := i) (x := x)
  refine (calls_or (L := [eS 14 e l, eS 14 e [x]]) (v := .ref 0 (l.length + 1) 0 (l.length + 1)) (v3 := .ref 2 (l.length + 1) 0 (l.length + 1)) Tryz.func32 ci_eq (Nat.le_of_ble_eq_true (by kernel_rfl)) (by simp) rfl (lsOk (n := 2) (L := [eS 14 e (insL l i x), eS 14 e [x]]) ⟨fun _ _ => rfl, fun _ _ => rfl, trivial⟩)
    (by simp) rfl (lsOk (n := 3) (L := [eS 14 e l, eS 14 e [x], eS 14 e (insL l i x)]) ⟨fun _ _ => rfl, fun _ _ => rfl, fun _ _ => rfl, trivial⟩) (head (x := x) he hi _ (tail8 he hi hl)) hr hu).mono fun e1 w1 h => ?_
  rcases h with h | ⟨u, ms1, rfl, h1, h2, h3, h4⟩
  · exact h
  · rw [← hlen] at h4 ⊢
    obtain ⟨ms2, k1, k2, k3, k4⟩ := third hr hlen h1 h2 h3 h4
    exact ⟨u, ms2, rfl, k1, k2, k3, k4⟩
/-! at the end -/
noncomputable def sE (l : List α) (x : α) (a1 : (0 : Int) ≤ (l.length : Int)) (a2 : l.length ≤ l.length) (a3 : ((l.length : Int) == (l.length : Int)) = true)
    (hx : ∀ k, k < 1 → (AV.d (e ([x].getD k default))).wd = 14) (hs : (l.length + 1) * (2 * 120) ≤ 2 ^ 48)
    (ho : OLe (.seq 14 (l.length + 1) (catF l.length (fun j => .d (e (l.getD j default))) (fun j => .d (e ([x].getD j default))))) (eS 14 e (insL l l.length x))) : Scr Tryz.prog Unit Unit :=
  .reg 0 [] [] [] <|
  .reg 1 [] [] [.pf a1, .pf a2, .pf (Eq.refl l.length)] <|
  .reg 2 [] [] [] <|
  .reg 3 [] [] [] <|
  .br false (.pf (p := ((1 : Int) == 0) = false) (by decide)) <|
  .reg 5 [] [] [] <|
  .reg 6 [] [] [] <|
  .br true (.pf a3) <|
  .reg 7 [] [(2, { obs := [(0, eS 14 e (insL l l.length x))] })] [.pf (Eq.refl 1), .pf (Eq.refl l.length), .pf (Eq.refl l.length), .pf hx, .pf hs, .pf ho] <|
  .ret [] ()
set_option maxRecDepth 100000 in
theorem ins_eq (he : ∀ x, (e x).wd = 14) {l : List α} {x : α} (hl : (l.length + 1) * (4 * 120) ≤ 2 ^ 48) :
    CallOk Tryz.prog 32 [.ref 0 l.length 0 l.length, .d (.i .i64 (l.length : Int)), .ref 1 1 0 1] [eS 14 e l, eS 14 e [x]] (.ref 0 (l.length + 1) 0 (l.length + 1)) [eS 14 e (insL l l.length x), eS 14 e [x]] :=
  fOk (ρ := Unit) (V := fun _ => .ref 0 (l.length + 1) 0 (l.length + 1)) (Lr := fun _ => [eS 14 e (insL l l.length x), eS 14 e [x]]) (r := ())
    (s := sE (e := e) l x (by omega) (Nat.le_refl _) (by simp) (fun k _ => he _) (by omega) (by
      refine oLe_seq insL_length.symm fun j hj => ?_
      rw [insL_get (Nat.le_refl _)]
      by_cases h1 : j < l.length
      · rw [catF_lt h1, if_pos h1]
      · have h2 : j = l.length := by omega
        subst h2
        rw [catF_ge (by omega), if_neg (by omega), if_pos rfl, Nat.sub_self]
        rfl)) Tryz.func32 ci_eq (by kernel_rfl) rfl
theorem ins_ok (he : ∀ x, (e x).wd = 14) {l : List α} {i : Nat} {x : α} (hi : i ≤ l.length) (hl : (l.length + 1) * (4 * 120) ≤ 2 ^ 48) :
    CallOk Tryz.prog 32 [.ref 0 l.length 0 l.length, .d (.i .i64 (i : Int)), .ref 1 1 0 1] [eS 14 e l, eS 14 e [x]] (.ref 0 (insL l i x).length 0 (insL l i x).length) [eS 14 e (insL l i x), eS 14 e [x]] := by
  rw [insL_length]
  rcases Nat.lt_or_ge i l.length with h | h
  · exact ins_lt he h hl
  · obtain rfl : i = l.length := by omega
    exact ins_eq he hl
end
end Ins32
end Go.Proofs.YtdenfihabhhnhaaGreatDoor
/- The shapes of data. No condition. -/
namespace Go.Proofs.YtdenfihabhhnhaaGreatDoor
open Go Go.TA
/-- A slice of nothing. -/
abbrev Z0 : DV := DV.sl 0 fun _ => DV.b false
structure TTape where
  l : (List Int)
  at_ : Int
  deriving Inhabited
def TTape.e (x : TTape) : DV := .agg [(eL (DV.i .i64) x.l), (DV.i .i64 x.at_)]
structure TApiReservation where
  Number : Int
  Code : List UInt8
  Year : Int
  Day : Int
  Amount : Int
  Released : Int
  deriving Inhabited
def TApiReservation.e (x : TApiReservation) : DV := .agg [(DV.i .i64 x.Number), (DV.str x.Code), (DV.i .i64 x.Year), (DV.i .i64 x.Day), (DV.i .i64 x.Amount), (DV.i .i64 x.Released)]
structure TApiCommitment where
  Number : Int
  Reservation : Int
  Day : Int
  Amount : Int
  Released : Int
  Payee : Int
  Due : Int
  deriving Inhabited
def TApiCommitment.e (x : TApiCommitment) : DV := .agg [(DV.i .i64 x.Number), (DV.i .i64 x.Reservation), (DV.i .i64 x.Day), (DV.i .i64 x.Amount), (DV.i .i64 x.Released), (DV.i .i64 x.Payee), (DV.i .i64 x.Due)]
structure TApiVerification where
  Number : Int
  Commitment : Int
  Day : Int
  Amount : Int
  deriving Inhabited
def TApiVerification.e (x : TApiVerification) : DV := .agg [(DV.i .i64 x.Number), (DV.i .i64 x.Commitment), (DV.i .i64 x.Day), (DV.i .i64 x.Amount)]
structure TApiOrder where
  Number : Int
  Verification : Int
  Attempt : Int
  Day : Int
  Back : Bool
  deriving Inhabited
def TApiOrder.e (x : TApiOrder) : DV := .agg [(DV.i .i64 x.Number), (DV.i .i64 x.Verification), (DV.i .i64 x.Attempt), (DV.i .i64 x.Day), (DV.b x.Back)]
structure TApiBook where
  Reservations : (List TApiReservation)
  Commitments : (List TApiCommitment)
  Verifications : (List TApiVerification)
  Orders : (List TApiOrder)
  deriving Inhabited
def TApiBook.e (x : TApiBook) : DV := .agg [(eL TApiReservation.e x.Reservations), (eL TApiCommitment.e x.Commitments), (eL TApiVerification.e x.Verifications), (eL TApiOrder.e x.Orders)]
structure TApiRight where
  Code : List UInt8
  Year : Int
  Granted : Int
  Asked : Int
  Returned : Int
  deriving Inhabited
def TApiRight.e (x : TApiRight) : DV := .agg [(DV.str x.Code), (DV.i .i64 x.Year), (DV.i .i64 x.Granted), (DV.i .i64 x.Asked), (DV.i .i64 x.Returned)]
structure TApiOffice where
  Number : Int
  Rights : (List TApiRight)
  Book : TApiBook
  deriving Inhabited
def TApiOffice.e (x : TApiOffice) : DV := .agg [(DV.i .i64 x.Number), (eL TApiRight.e x.Rights), (TApiBook.e x.Book)]
structure TApiOp where
  Kind : Int
  Code : List UInt8
  Year : Int
  Day : Int
  Of : Int
  Amount : Int
  Payee : Int
  Due : Int
  Granted : Int
  AskedBack : Int
  deriving Inhabited
def TApiOp.e (x : TApiOp) : DV := .agg [(DV.i .i64 x.Kind), (DV.str x.Code), (DV.i .i64 x.Year), (DV.i .i64 x.Day), (DV.i .i64 x.Of), (DV.i .i64 x.Amount), (DV.i .i64 x.Payee), (DV.i .i64 x.Due), (DV.i .i64 x.Granted), (DV.i .i64 x.AskedBack)]
structure TApiMessage where
  From : Int
  To : Int
  Code : List UInt8
  Year : Int
  Granted : Int
  Asked : Int
  Returned : Int
  Used : Int
  deriving Inhabited
def TApiMessage.e (x : TApiMessage) : DV := .agg [(DV.i .i64 x.From), (DV.i .i64 x.To), (DV.str x.Code), (DV.i .i64 x.Year), (DV.i .i64 x.Granted), (DV.i .i64 x.Asked), (DV.i .i64 x.Returned), (DV.i .i64 x.Used)]
structure TApiWarrant where
  Number : Int
  Office : Int
  Code : List UInt8
  Year : Int
  Verification : Int
  Attempt : Int
  Commitment : Int
  Reservation : Int
  Amount : Int
  Payee : Int
  Day : Int
  Due : Int
  First : Int
  Second : Int
  deriving Inhabited
def TApiWarrant.e (x : TApiWarrant) : DV := .agg [(DV.i .i64 x.Number), (DV.i .i64 x.Office), (DV.str x.Code), (DV.i .i64 x.Year), (DV.i .i64 x.Verification), (DV.i .i64 x.Attempt), (DV.i .i64 x.Commitment), (DV.i .i64 x.Reservation), (DV.i .i64 x.Amount), (DV.i .i64 x.Payee), (DV.i .i64 x.Day), (DV.i .i64 x.Due), (DV.i .u64 x.First), (DV.i .u64 x.Second)]
end Go.Proofs.YtdenfihabhhnhaaGreatDoor
/- What the functions compute, and that their calls return it. No condition. -/
namespace Go.Proofs.YtdenfihabhhnhaaGreatDoor
open Go Go.TA
noncomputable section
/-! 5 -/
abbrev R_mk_New := TTape
def V_mk_New (_ : R_mk_New) : AV := (vp 0)
def L_mk_New (x : R_mk_New) : List Ob := [(bx (TTape.e x))]
def S_mk_New (a0 : (List Int)) : Scr Tryz.prog R_mk_New R_mk_New :=
.guard [(0 : Int) ≤ (if 500 < (a0.length : Int) then 500 else (a0.length : Int)), ((if 500 < (a0.length : Int) then 500 else (a0.length : Int))).toNat ≤ a0.length] <|
.reg 1 [] [(4, hv (vl (a0.take (((if 500 < (a0.length : Int) then 500 else (a0.length : Int))).toNat))))] [.ev 0, .ev 1, .der (fun (h0 : ((if 500 < (a0.length : Int) then 500 else (a0.length : Int))).toNat ≤ a0.length) => lvT (DV.i .i64) a0 h0) 1] <|
.ret [] (⟨(a0.take (((if 500 < (a0.length : Int) then 500 else (a0.length : Int))).toNat)), 0⟩ : TTape)
def F_mk_New (a0 : (List Int)) : Option R_mk_New := (S_mk_New a0).den
set_option maxRecDepth 100000 in
theorem F_mk_New_ok {a0 : (List Int)} (r : R_mk_New) (h : F_mk_New a0 = some r) : CallOk Tryz.prog 5 [(vl a0)] [] (V_mk_New r) (L_mk_New r) := fOk (s := S_mk_New a0) Tryz.func5 rfl (by kernel_rfl) h
/-! 16 -/
abbrev R_mk_Tape_N := Int × TTape
def V_mk_Tape_N (x : R_mk_Tape_N) : AV := (vi x.1)
def L_mk_Tape_N (x : R_mk_Tape_N) : List Ob := [(bx (TTape.e x.2))]
def S_mk_Tape_N (a1 : Int) (p0 : TTape) : Scr Tryz.prog R_mk_Tape_N R_mk_Tape_N :=
.ite (decide (p0.at_ ≥ (p0.l.length : Int))) (
.ret [] (0, p0)) (
.guard [(0 : Int) ≤ p0.at_, (p0.at_).toNat < p0.l.length, (a1 : Int) ≠ 0] <|
.reg 3 [] [] [.ev 0, .ev 1, .ev 2] <|
.ite (decide (((p0.l.getD ((p0.at_).toNat) default).tmod a1) < 0)) (
.ret [] ((IntKind.i64.wrap (((p0.l.getD ((p0.at_).toNat) default).tmod a1) + a1)), (⟨p0.l, (IntKind.i64.wrap (p0.at_ + 1))⟩ : TTape))) (
.ret [] (((p0.l.getD ((p0.at_).toNat) default).tmod a1), (⟨p0.l, (IntKind.i64.wrap (p0.at_ + 1))⟩ : TTape))))
def F_mk_Tape_N (a1 : Int) (p0 : TTape) : Option R_mk_Tape_N := (S_mk_Tape_N a1 p0).den
set_option maxRecDepth 100000 in
theorem F_mk_Tape_N_ok {a1 : Int} {p0 : TTape} (r : R_mk_Tape_N) (h : F_mk_Tape_N a1 p0 = some r) : CallOk Tryz.prog 16 [(vp 0), (vi a1)] [(bx (TTape.e p0))] (V_mk_Tape_N r) (L_mk_Tape_N r) := fOk (s := S_mk_Tape_N a1 p0) Tryz.func16 rfl (by kernel_rfl) h
/-! 18 -/
abbrev R_mk_Tape_Range := Int × TTape
def V_mk_Tape_Range (x : R_mk_Tape_Range) : AV := (vi x.1)
def L_mk_Tape_Range (x : R_mk_Tape_Range) : List Ob := [(bx (TTape.e x.2))]
def S_mk_Tape_Range (a1 : Int) (a2 : Int) (p0 : TTape) : Scr Tryz.prog R_mk_Tape_Range R_mk_Tape_Range :=
.call (@F_mk_Tape_N_ok (IntKind.i64.wrap ((IntKind.i64.wrap (a2 - a1)) + 1)) p0) fun r3 c3 =>
.reg 1 [] [(6, hc c3 [0] false)] [.cl 0 c3 [0] 1 false] <|
.ret [] ((IntKind.i64.wrap (a1 + r3.1)), r3.2)
def F_mk_Tape_Range (a1 : Int) (a2 : Int) (p0 : TTape) : Option R_mk_Tape_Range := (S_mk_Tape_Range a1 a2 p0).den
set_option maxRecDepth 100000 in
theorem F_mk_Tape_Range_ok {a1 : Int} {a2 : Int} {p0 : TTape} (r : R_mk_Tape_Range) (h : F_mk_Tape_Range a1 a2 p0 = some r) : CallOk Tryz.prog 18 [(vp 0), (vi a1), (vi a2)] [(bx (TTape.e p0))] (V_mk_Tape_Range r) (L_mk_Tape_Range r) := fOk (s := S_mk_Tape_Range a1 a2 p0) Tryz.func18 rfl (by kernel_rfl) h
/-! 17 -/
theorem cz1 : OLe (bx (DV.agg [(DV.i .i64 0), Z0, (DV.agg [Z0, Z0, Z0, Z0])])) (bx (TApiOffice.e (⟨0, [], (⟨[], [], [], []⟩ : TApiBook)⟩ : TApiOffice))) := oLe_box (DLe.agg (DLeL.cons (DLe.refl _) (DLeL.cons DLe.sl0 (DLeL.cons (DLe.agg (DLeL.cons DLe.sl0 (DLeL.cons DLe.sl0 (DLeL.cons DLe.sl0 (DLeL.cons DLe.sl0 DLeL.nil))))) DLeL.nil))))
/-! 20 -/
/-! 26 -/
abbrev R_r03_Good := Bool
def V_r03_Good (x : R_r03_Good) : AV := (vb x)
def L_r03_Good (_ : R_r03_Good) : List Ob := []
def S_r03_Good_b1 (a0 : List UInt8) (sv1 : Int × Int × Int) : Scr Tryz.prog R_r03_Good (Step (Int × Int × Int) R_r03_Good) :=
.ite (decide (sv1.2.2 < (a0.length : Int))) (
.guard [(0 : Int) ≤ sv1.2.2, (sv1.2.2).toNat < a0.length] <|
.reg 6 [] [] [.ev 0, .ev 1] <|
.ite (((a0.getD ((sv1.2.2).toNat) 0).toNat : Int) == 46) (
.ite (sv1.1 == 0) (
.ret [] (.ret false)) (
.ret [] (.cont (0, (IntKind.i64.wrap (sv1.2.1 + 1)), (IntKind.i64.wrap (sv1.2.2 + 1)))))) (
.guard [AllP [(decide (((a0.getD ((sv1.2.2).toNat) 0).toNat : Int) < 48)) = false] → ((0 : Int) ≤ sv1.2.2), AllP [(decide (((a0.getD ((sv1.2.2).toNat) 0).toNat : Int) < 48)) = false] → ((sv1.2.2).toNat < a0.length), AllP [(sv1.1 == 0) = true, (bif (decide (((a0.getD ((sv1.2.2).toNat) 0).toNat : Int) < 48)) then true else (decide (((a0.getD ((sv1.2.2).toNat) 0).toNat : Int) > 57))) = false] → ((0 : Int) ≤ sv1.2.2), AllP [(sv1.1 == 0) = true, (bif (decide (((a0.getD ((sv1.2.2).toNat) 0).toNat : Int) < 48)) then true else (decide (((a0.getD ((sv1.2.2).toNat) 0).toNat : Int) > 57))) = false] → ((sv1.2.2).toNat < a0.length)] <|
.reg 11 [] [] [.ev 5, .ev 6, .ev 0, .ev 1, .ev 2, .ev 3] <|
.ite (bif (bif (bif (decide (((a0.getD ((sv1.2.2).toNat) 0).toNat : Int) < 48)) then true else (decide (((a0.getD ((sv1.2.2).toNat) 0).toNat : Int) > 57))) then true else (bif (sv1.1 == 0) then (((a0.getD ((sv1.2.2).toNat) 0).toNat : Int) == 48) else false)) then true else (sv1.1 == 2)) (
.ret [] (.ret false)) (
.ret [] (.cont ((IntKind.i64.wrap (sv1.1 + 1)), sv1.2.1, (IntKind.i64.wrap (sv1.2.2 + 1))))))) (
.ret [] (.brk (sv1.1, sv1.2.1, sv1.2.2)))
def S_r03_Good (a0 : List UInt8) : Scr Tryz.prog R_r03_Good R_r03_Good :=
.iter [0] (fun (sv1 : Int × Int × Int) => [(3, (vi sv1.1)), (4, (vi sv1.2.1)), (5, (vi sv1.2.2))]) (fun (_ : Int × Int × Int) => []) (0, 1, 0) (S_r03_Good_b1 a0) (fun (sv1 : Int × Int × Int) =>
.ret [] (bif (decide (sv1.1 > 0)) then (decide (sv1.2.1 ≤ 4)) else false)) id
def F_r03_Good (a0 : List UInt8) : Option R_r03_Good := (S_r03_Good a0).den
set_option maxRecDepth 100000 in
theorem F_r03_Good_ok {a0 : List UInt8} (r : R_r03_Good) (h : F_r03_Good a0 = some r) : CallOk Tryz.prog 26 [(AV.d (DV.str a0))] [] (V_r03_Good r) (L_r03_Good r) := fOk (s := S_r03_Good a0) Tryz.func26 rfl (by kernel_rfl) h
/-! 73 -/
/-! 110 -/
/-! 75 -/
/-! 74 -/
/-! 105 -/
/-! 78 -/
/-! 106 -/
/-! 79 -/
/-! 80 -/
/-! 107 -/
/-! 70 -/
/-! 108 -/
/-! 71 -/
/-! 50 -/
/-! 77 -/
/-! 52 -/
/-! 42 -/
/-! 109 -/
/-! 72 -/
/-! 40 -/
end
end Go.Proofs.YtdenfihabhhnhaaGreatDoor
/- What the functions compute, and that their calls return it. No condition. -/
namespace Go.Proofs.YtdenfihabhhnhaaGreatDoor
open Go Go.TA
noncomputable section
/-! 76 -/
/-! 41 -/
/-! 43 -/
/-! 44 -/
/-! 81 -/
/-! 45 -/
/-! 46 -/
/-! 47 -/
end
end Go.Proofs.YtdenfihabhhnhaaGreatDoor
/- What the functions compute, and that their calls return it. No condition. -/
namespace Go.Proofs.YtdenfihabhhnhaaGreatDoor
open Go Go.TA
noncomputable section
/-! 48 -/
/-! 82 -/
/-! 49 -/
/-! 51 -/
/-! 19 -/
/-! 53 -/
abbrev R_mk_PotCode := List UInt8 × TTape
def V_mk_PotCode (x : R_mk_PotCode) : AV := (AV.d (DV.str x.1))
def L_mk_PotCode (x : R_mk_PotCode) : List Ob := [(bx (TTape.e x.2))]
def S_mk_PotCode (p0 : TTape) : Scr Tryz.prog R_mk_PotCode R_mk_PotCode :=
.call (@F_mk_Tape_N_ok 3 p0) fun rv1 cv1 =>
.guard [(0 : Int) ≤ rv1.1, (rv1.1).toNat < 3] <|
.reg 1 [] [(0, hv (AV.d (eL DV.str ([[49], [49, 46, 50], [50]] : List (List UInt8))))), (2, hc cv1 [0] false)] [.pf (leV_lit DV.str ([[49], [49, 46, 50], [50]] : List (List UInt8))), .cl 2 cv1 [0] 1 false, .ev 0, .ev 1] <|
.ret [] ((([[49], [49, 46, 50], [50]] : List (List UInt8)).getD ((rv1.1).toNat) default), rv1.2)
def F_mk_PotCode (p0 : TTape) : Option R_mk_PotCode := (S_mk_PotCode p0).den
set_option maxRecDepth 100000 in
theorem F_mk_PotCode_ok {p0 : TTape} (r : R_mk_PotCode) (h : F_mk_PotCode p0 = some r) : CallOk Tryz.prog 53 [(vp 0)] [(bx (TTape.e p0))] (V_mk_PotCode r) (L_mk_PotCode r) := fOk (s := S_mk_PotCode p0) Tryz.func53 rfl (by kernel_rfl) h
/-! 21 -/
/-! 6 -/
/-! 111 -/
abbrev R_commitment_among := Bool
def V_commitment_among (x : R_commitment_among) : AV := (vb x)
def L_commitment_among (_ : R_commitment_among) : List Ob := []
def S_commitment_among (a0 : Int) (a1 : Int) (a2 : Int) : Scr Tryz.prog R_commitment_among R_commitment_among :=
.ret [] (bif (decide (a0 ≥ a1)) then (decide (a0 ≤ a2)) else false)
def F_commitment_among (a0 : Int) (a1 : Int) (a2 : Int) : Option R_commitment_among := (S_commitment_among a0 a1 a2).den
set_option maxRecDepth 100000 in
theorem F_commitment_among_ok {a0 : Int} {a1 : Int} {a2 : Int} (r : R_commitment_among) (h : F_commitment_among a0 a1 a2 = some r) : CallOk Tryz.prog 111 [(vi a0), (vi a1), (vi a2)] [] (V_commitment_among r) (L_commitment_among r) := fOk (s := S_commitment_among a0 a1 a2) Tryz.func111 rfl (by kernel_rfl) h
/-! 112 -/
abbrev R_commitment_day := Bool
def V_commitment_day (x : R_commitment_day) : AV := (vb x)
def L_commitment_day (_ : R_commitment_day) : List Ob := []
def S_commitment_day (a0 : Int) : Scr Tryz.prog R_commitment_day R_commitment_day :=
.call (@F_commitment_among_ok a0 0 35990) fun rv1 cv1 =>
.reg 1 [] [(1, hc cv1 [] true)] [.cl 0 cv1 [] 0 true] <|
.ret [] rv1
def F_commitment_day (a0 : Int) : Option R_commitment_day := (S_commitment_day a0).den
set_option maxRecDepth 100000 in
theorem F_commitment_day_ok {a0 : Int} (r : R_commitment_day) (h : F_commitment_day a0 = some r) : CallOk Tryz.prog 112 [(vi a0)] [] (V_commitment_day r) (L_commitment_day r) := fOk (s := S_commitment_day a0) Tryz.func112 rfl (by kernel_rfl) h
/-! 135 -/
abbrev R_calendar_Valid := Bool
def V_calendar_Valid (x : R_calendar_Valid) : AV := (vb x)
def L_calendar_Valid (_ : R_calendar_Valid) : List Ob := []
def S_calendar_Valid (a0 : Int) : Scr Tryz.prog R_calendar_Valid R_calendar_Valid :=
.ret [] (bif (decide (a0 ≥ 0)) then (decide (a0 ≤ 36000)) else false)
def F_calendar_Valid (a0 : Int) : Option R_calendar_Valid := (S_calendar_Valid a0).den
set_option maxRecDepth 100000 in
theorem F_calendar_Valid_ok {a0 : Int} (r : R_calendar_Valid) (h : F_calendar_Valid a0 = some r) : CallOk Tryz.prog 135 [(vi a0)] [] (V_calendar_Valid r) (L_calendar_Valid r) := fOk (s := S_calendar_Valid a0) Tryz.func135 rfl (by kernel_rfl) h
/-! 113 -/
abbrev R_calendar_Year := Int
def V_calendar_Year (x : R_calendar_Year) : AV := (vi x)
def L_calendar_Year (_ : R_calendar_Year) : List Ob := []
def S_calendar_Year (a0 : Int) : Scr Tryz.prog R_calendar_Year R_calendar_Year :=
.call (@F_calendar_Valid_ok a0) fun rv1 cv1 =>
.reg 1 [] [(1, hc cv1 [] true)] [.cl 0 cv1 [] 0 true] <|
.ite (!rv1) (
.ret [] (-1)) (
.reg 3 [] [] [.pf (p := (360 : Int) ≠ 0) (by decide)] <|
.ret [] (IntKind.i64.wrap (a0.tdiv 360)))
def F_calendar_Year (a0 : Int) : Option R_calendar_Year := (S_calendar_Year a0).den
set_option maxRecDepth 100000 in
theorem F_calendar_Year_ok {a0 : Int} (r : R_calendar_Year) (h : F_calendar_Year a0 = some r) : CallOk Tryz.prog 113 [(vi a0)] [] (V_calendar_Year r) (L_calendar_Year r) := fOk (s := S_calendar_Year a0) Tryz.func113 rfl (by kernel_rfl) h
/-! 114 -/
abbrev R_commitment_amount := Bool
def V_commitment_amount (x : R_commitment_amount) : AV := (vb x)
def L_commitment_amount (_ : R_commitment_amount) : List Ob := []
def S_commitment_amount (a0 : Int) : Scr Tryz.prog R_commitment_amount R_commitment_amount :=
.call (@F_commitment_among_ok a0 1 1000000000000) fun rv1 cv1 =>
.reg 1 [] [(1, hc cv1 [] true)] [.cl 0 cv1 [] 0 true] <|
.ret [] rv1
def F_commitment_amount (a0 : Int) : Option R_commitment_amount := (S_commitment_amount a0).den
set_option maxRecDepth 100000 in
theorem F_commitment_amount_ok {a0 : Int} (r : R_commitment_amount) (h : F_commitment_amount a0 = some r) : CallOk Tryz.prog 114 [(vi a0)] [] (V_commitment_amount r) (L_commitment_amount r) := fOk (s := S_commitment_amount a0) Tryz.func114 rfl (by kernel_rfl) h
/-! 125 -/
abbrev R_commitment_committed := Int × Int
def V_commitment_committed (x : R_commitment_committed) : AV := (AV.tup [(vi x.1), (vi x.2)])
def L_commitment_committed (_ : R_commitment_committed) : List Ob := []
def S_commitment_committed_b1 (a0 : TApiBook) (a1 : Int) (iv1 : Nat) (sv2 : Int × Int) : Scr Tryz.prog R_commitment_committed (Step (Int × Int) R_commitment_committed) :=
.reg 3 [] [] [.pf (nn iv1), .ev 0] <|
.ite (((a0.Commitments.getD iv1 default).Reservation) == a1) (
.ret [] (.cont ((IntKind.i64.wrap (sv2.1 + ((a0.Commitments.getD iv1 default).Amount))), (IntKind.i64.wrap (sv2.2 + ((a0.Commitments.getD iv1 default).Released)))))) (
.ret [] (.cont (sv2.1, sv2.2)))
def S_commitment_committed (a0 : TApiBook) (a1 : Int) : Scr Tryz.prog R_commitment_committed R_commitment_committed :=
.range (a0.Commitments.length : Int) a0.Commitments.length rfl (.slot 9) 11 [1, 9, 10] (fun (sv2 : Int × Int) => [(4, (vi sv2.1)), (5, (vi sv2.2))]) (fun (_ : Int × Int) => []) (0, 0) (S_commitment_committed_b1 a0 a1) (fun (sv2 : Int × Int) => 
.ret [] (sv2.1, sv2.2)) id
def F_commitment_committed (a0 : TApiBook) (a1 : Int) : Option R_commitment_committed := (S_commitment_committed a0 a1).den
set_option maxRecDepth 100000 in
theorem F_commitment_committed_ok {a0 : TApiBook} {a1 : Int} (r : R_commitment_committed) (h : F_commitment_committed a0 a1 = some r) : CallOk Tryz.prog 125 [(AV.d (TApiBook.e a0)), (vi a1)] [] (V_commitment_committed r) (L_commitment_committed r) := fOk (s := S_commitment_committed a0 a1) Tryz.func125 rfl (by kernel_rfl) h
/-! 115 -/
abbrev R_commitment_reserved := Int
def V_commitment_reserved (x : R_commitment_reserved) : AV := (vi x)
def L_commitment_reserved (_ : R_commitment_reserved) : List Ob := []
def S_commitment_reserved (a0 : TApiBook) (a1 : TApiReservation) : Scr Tryz.prog R_commitment_reserved R_commitment_reserved :=
.call (@F_commitment_committed_ok a0 a1.Number) fun rv1 cv1 =>
.reg 1 [] [(3, hc cv1 [] true)] [.cl 0 cv1 [] 2 true] <|
.ret [] (IntKind.i64.wrap ((IntKind.i64.wrap (a1.Amount - a1.Released)) - rv1.1))
def F_commitment_reserved (a0 : TApiBook) (a1 : TApiReservation) : Option R_commitment_reserved := (S_commitment_reserved a0 a1).den
set_option maxRecDepth 100000 in
theorem F_commitment_reserved_ok {a0 : TApiBook} {a1 : TApiReservation} (r : R_commitment_reserved) (h : F_commitment_reserved a0 a1 = some r) : CallOk Tryz.prog 115 [(AV.d (TApiBook.e a0)), (AV.d (TApiReservation.e a1))] [] (V_commitment_reserved r) (L_commitment_reserved r) := fOk (s := S_commitment_reserved a0 a1) Tryz.func115 rfl (by kernel_rfl) h
end
end Go.Proofs.YtdenfihabhhnhaaGreatDoor
/- What the functions compute, and that their calls return it. No condition. -/
namespace Go.Proofs.YtdenfihabhhnhaaGreatDoor
open Go Go.TA
noncomputable section
/-! 84 -/
abbrev R_commitment_reservation := Bool
def V_commitment_reservation (x : R_commitment_reservation) : AV := (vb x)
def L_commitment_reservation (_ : R_commitment_reservation) : List Ob := []
def S_commitment_reservation (a0 : TApiBook) (a1 : Int) : Scr Tryz.prog R_commitment_reservation R_commitment_reservation :=
.guard [(0 : Int) ≤ a1, (a1).toNat < a0.Reservations.length] <|
.reg 1 [] [] [.ev 0, .ev 1] <|
.calld [(((a0.Reservations.getD ((a1).toNat) default).Number) == (IntKind.i64.wrap (a1 + 1))) = true] default (@F_classification_Parts_ok ((a0.Reservations.getD ((a1).toNat) default).Code)) fun rv1 cv1 =>
.calld [(bif (((a0.Reservations.getD ((a1).toNat) default).Number) == (IntKind.i64.wrap (a1 + 1))) then (decide ((rv1.length : Int) > 0)) else false) = true] default (@F_commitment_among_ok ((a0.Reservations.getD ((a1).toNat) default).Year) 0 99) fun rv2 cv2 =>
.calld [(bif (bif (((a0.Reservations.getD ((a1).toNat) default).Number) == (IntKind.i64.wrap (a1 + 1))) then (decide ((rv1.length : Int) > 0)) else false) then rv2 else false) = true] default (@F_commitment_day_ok ((a0.Reservations.getD ((a1).toNat) default).Day)) fun rv3 cv3 =>
.calld [(bif (bif (bif (((a0.Reservations.getD ((a1).toNat) default).Number) == (IntKind.i64.wrap (a1 + 1))) then (decide ((rv1.length : Int) > 0)) else false) then rv2 else false) then rv3 else false) = true] default (@F_calendar_Year_ok ((a0.Reservations.getD ((a1).toNat) default).Day)) fun rv4 cv4 =>
.calld [(bif (bif (bif (bif (((a0.Reservations.getD ((a1).toNat) default).Number) == (IntKind.i64.wrap (a1 + 1))) then (decide ((rv1.length : Int) > 0)) else false) then rv2 else false) then rv3 else false) then (rv4 == ((a0.Reservations.getD ((a1).toNat) default).Year)) else false) = true] default (@F_commitment_amount_ok ((a0.Reservations.getD ((a1).toNat) default).Amount)) fun rv5 cv5 =>
.calld [(bif (bif (bif (bif (bif (((a0.Reservations.getD ((a1).toNat) default).Number) == (IntKind.i64.wrap (a1 + 1))) then (decide ((rv1.length : Int) > 0)) else false) then rv2 else false) then rv3 else false) then (rv4 == ((a0.Reservations.getD ((a1).toNat) default).Year)) else false) then rv5 else false) = true] default (@F_commitment_among_ok ((a0.Reservations.getD ((a1).toNat) default).Released) 0 ((a0.Reservations.getD ((a1).toNat) default).Amount)) fun rv6 cv6 =>
.calld [(bif (bif (bif (bif (bif (bif (((a0.Reservations.getD ((a1).toNat) default).Number) == (IntKind.i64.wrap (a1 + 1))) then (decide ((rv1.length : Int) > 0)) else false) then rv2 else false) then rv3 else false) then (rv4 == ((a0.Reservations.getD ((a1).toNat) default).Year)) else false) then rv5 else false) then rv6 else false) = true] default (@F_commitment_reserved_ok a0 (a0.Reservations.getD ((a1).toNat) default)) fun rv7 cv7 =>
.reg 2 [] [(8, hc cv1 [] true), (15, hc cv2 [] true), (20, hc cv3 [] true), (25, hc cv4 [] true), (33, hc cv5 [] true), (40, hc cv6 [] true), (45, hc cv7 [] true)] [.clg 12 [(((a0.Reservations.getD ((a1).toNat) default).Number) == (IntKind.i64.wrap (a1 + 1))) = true] cv1 [] 2 true, .clg 10 [(bif (((a0.Reservations.getD ((a1).toNat) default).Number) == (IntKind.i64.wrap (a1 + 1))) then (decide ((rv1.length : Int) > 0)) else false) = true] cv2 [] 2 true, .clg 8 [(bif (bif (((a0.Reservations.getD ((a1).toNat) default).Number) == (IntKind.i64.wrap (a1 + 1))) then (decide ((rv1.length : Int) > 0)) else false) then rv2 else false) = true] cv3 [] 2 true, .clg 6 [(bif (bif (bif (((a0.Reservations.getD ((a1).toNat) default).Number) == (IntKind.i64.wrap (a1 + 1))) then (decide ((rv1.length : Int) > 0)) else false) then rv2 else false) then rv3 else false) = true] cv4 [] 2 true, .clg 4 [(bif (bif (bif (bif (((a0.Reservations.getD ((a1).toNat) default).Number) == (IntKind.i64.wrap (a1 + 1))) then (decide ((rv1.length : Int) > 0)) else false) then rv2 else false) then rv3 else false) then (rv4 == ((a0.Reservations.getD ((a1).toNat) default).Year)) else false) = true] cv5 [] 2 true, .clg 2 [(bif (bif (bif (bif (bif (((a0.Reservations.getD ((a1).toNat) default).Number) == (IntKind.i64.wrap (a1 + 1))) then (decide ((rv1.length : Int) > 0)) else false) then rv2 else false) then rv3 else false) then (rv4 == ((a0.Reservations.getD ((a1).toNat) default).Year)) else false) then rv5 else false) = true] cv6 [] 2 true, .clg 0 [(bif (bif (bif (bif (bif (bif (((a0.Reservations.getD ((a1).toNat) default).Number) == (IntKind.i64.wrap (a1 + 1))) then (decide ((rv1.length : Int) > 0)) else false) then rv2 else false) then rv3 else false) then (rv4 == ((a0.Reservations.getD ((a1).toNat) default).Year)) else false) then rv5 else false) then rv6 else false) = true] cv7 [] 2 true] <|
.ret [] (bif (bif (bif (bif (bif (bif (bif (((a0.Reservations.getD ((a1).toNat) default).Number) == (IntKind.i64.wrap (a1 + 1))) then (decide ((rv1.length : Int) > 0)) else false) then rv2 else false) then rv3 else false) then (rv4 == ((a0.Reservations.getD ((a1).toNat) default).Year)) else false) then rv5 else false) then rv6 else false) then (decide (rv7 ≥ 0)) else false)
def F_commitment_reservation (a0 : TApiBook) (a1 : Int) : Option R_commitment_reservation := (S_commitment_reservation a0 a1).den
set_option maxRecDepth 100000 in
theorem F_commitment_reservation_ok {a0 : TApiBook} {a1 : Int} (r : R_commitment_reservation) (h : F_commitment_reservation a0 a1 = some r) : CallOk Tryz.prog 84 [(AV.d (TApiBook.e a0)), (vi a1)] [] (V_commitment_reservation r) (L_commitment_reservation r) := fOk (s := S_commitment_reservation a0 a1) Tryz.func84 rfl (by kernel_rfl) h
/-! 83 -/
abbrev R_commitment_all_commitment_reservation := Bool
def V_commitment_all_commitment_reservation (x : R_commitment_all_commitment_reservation) : AV := (vb x)
def L_commitment_all_commitment_reservation (_ : R_commitment_all_commitment_reservation) : List Ob := []
def S_commitment_all_commitment_reservation_b1 (a0 : TApiBook) (iv1 : Nat) (_ : Unit) : Scr Tryz.prog R_commitment_all_commitment_reservation (Step (Unit) R_commitment_all_commitment_reservation) :=
.call (@F_commitment_reservation_ok a0 (iv1 : Int)) fun rv2 cv2 =>
.reg 4 [] [(3, hc cv2 [] true)] [.cl 0 cv2 [] 1 true] <|
.ite (!rv2) (
.ret [] (.ret false)) (
.ret [] (.cont ()))
def S_commitment_all_commitment_reservation (a0 : TApiBook) (a1 : Int) : Scr Tryz.prog R_commitment_all_commitment_reservation R_commitment_all_commitment_reservation :=
.guard [(a1).toNat < 2 ^ 63] <|
.range a1 ((a1).toNat) rfl (.why (.ev 0)) 9 [1, 2, 3, 8] (fun (_ : Unit) => []) (fun (_ : Unit) => []) () (S_commitment_all_commitment_reservation_b1 a0) (fun (_ : Unit) => 
.ret [] (decide (a1 ≤ 200))) id
def F_commitment_all_commitment_reservation (a0 : TApiBook) (a1 : Int) : Option R_commitment_all_commitment_reservation := (S_commitment_all_commitment_reservation a0 a1).den
set_option maxRecDepth 100000 in
theorem F_commitment_all_commitment_reservation_ok {a0 : TApiBook} {a1 : Int} (r : R_commitment_all_commitment_reservation) (h : F_commitment_all_commitment_reservation a0 a1 = some r) : CallOk Tryz.prog 83 [(AV.d (TApiBook.e a0)), (vi a1), (AV.fn 84 [])] [] (V_commitment_all_commitment_reservation r) (L_commitment_all_commitment_reservation r) := fOk (s := S_commitment_all_commitment_reservation a0 a1) Tryz.func83 rfl (by kernel_rfl) h
/-! 136 -/
abbrev R_commitment_verified := Int
def V_commitment_verified (x : R_commitment_verified) : AV := (vi x)
def L_commitment_verified (_ : R_commitment_verified) : List Ob := []
def S_commitment_verified_b1 (a0 : TApiBook) (a1 : Int) (iv1 : Nat) (sv2 : Int) : Scr Tryz.prog R_commitment_verified (Step (Int) R_commitment_verified) :=
.reg 4 [] [] [.pf (nn iv1), .ev 0] <|
.ite (((a0.Verifications.getD iv1 default).Commitment) == a1) (
.ret [] (.cont (IntKind.i64.wrap (sv2 + ((a0.Verifications.getD iv1 default).Amount))))) (
.ret [] (.cont sv2))
def S_commitment_verified (a0 : TApiBook) (a1 : Int) : Scr Tryz.prog R_commitment_verified R_commitment_verified :=
.range (a0.Verifications.length : Int) a0.Verifications.length rfl (.slot 9) 11 [1, 9, 10] (fun (sv2 : Int) => [(5, (vi sv2))]) (fun (_ : Int) => []) 0 (S_commitment_verified_b1 a0 a1) (fun (sv2 : Int) => 
.ret [] sv2) id
def F_commitment_verified (a0 : TApiBook) (a1 : Int) : Option R_commitment_verified := (S_commitment_verified a0 a1).den
set_option maxRecDepth 100000 in
theorem F_commitment_verified_ok {a0 : TApiBook} {a1 : Int} (r : R_commitment_verified) (h : F_commitment_verified a0 a1 = some r) : CallOk Tryz.prog 136 [(AV.d (TApiBook.e a0)), (vi a1)] [] (V_commitment_verified r) (L_commitment_verified r) := fOk (s := S_commitment_verified a0 a1) Tryz.func136 rfl (by kernel_rfl) h
/-! 116 -/
abbrev R_commitment_open := Int
def V_commitment_open (x : R_commitment_open) : AV := (vi x)
def L_commitment_open (_ : R_commitment_open) : List Ob := []
def S_commitment_open (a0 : TApiBook) (a1 : TApiCommitment) : Scr Tryz.prog R_commitment_open R_commitment_open :=
.call (@F_commitment_verified_ok a0 a1.Number) fun rv1 cv1 =>
.reg 1 [] [(8, hc cv1 [] true)] [.cl 0 cv1 [] 2 true] <|
.ret [] (IntKind.i64.wrap ((IntKind.i64.wrap (a1.Amount - a1.Released)) - rv1))
def F_commitment_open (a0 : TApiBook) (a1 : TApiCommitment) : Option R_commitment_open := (S_commitment_open a0 a1).den
set_option maxRecDepth 100000 in
theorem F_commitment_open_ok {a0 : TApiBook} {a1 : TApiCommitment} (r : R_commitment_open) (h : F_commitment_open a0 a1 = some r) : CallOk Tryz.prog 116 [(AV.d (TApiBook.e a0)), (AV.d (TApiCommitment.e a1))] [] (V_commitment_open r) (L_commitment_open r) := fOk (s := S_commitment_open a0 a1) Tryz.func116 rfl (by kernel_rfl) h
/-! 85 -/
abbrev R_commitment_commitment := Bool
def V_commitment_commitment (x : R_commitment_commitment) : AV := (vb x)
def L_commitment_commitment (_ : R_commitment_commitment) : List Ob := []
def S_commitment_commitment (a0 : TApiBook) (a1 : Int) : Scr Tryz.prog R_commitment_commitment R_commitment_commitment :=
.guard [(0 : Int) ≤ a1, (a1).toNat < a0.Commitments.length] <|
.reg 1 [] [] [.ev 0, .ev 1] <|
.calld [(((a0.Commitments.getD ((a1).toNat) default).Number) != (IntKind.i64.wrap (a1 + 1))) = false] default (@F_commitment_among_ok ((a0.Commitments.getD ((a1).toNat) default).Reservation) 1 (a0.Reservations.length : Int)) fun rv1 cv1 =>
.reg 2 [] [(11, hc cv1 [] true)] [.clg 0 [(((a0.Commitments.getD ((a1).toNat) default).Number) != (IntKind.i64.wrap (a1 + 1))) = false] cv1 [] 2 true] <|
.ite (bif (((a0.Commitments.getD ((a1).toNat) default).Number) != (IntKind.i64.wrap (a1 + 1))) then true else (!rv1)) (
.ret [] false) (
.guard [(0 : Int) ≤ (IntKind.i64.wrap (((a0.Commitments.getD ((a1).toNat) default).Reservation) - 1)), ((IntKind.i64.wrap (((a0.Commitments.getD ((a1).toNat) default).Reservation) - 1))).toNat < a0.Reservations.length] <|
.reg 4 [] [] [.ev 0, .ev 1] <|
.call (@F_commitment_day_ok ((a0.Commitments.getD ((a1).toNat) default).Day)) fun rv2 cv2 =>
.calld [(bif rv2 then (decide (((a0.Commitments.getD ((a1).toNat) default).Day) ≥ ((a0.Reservations.getD (((IntKind.i64.wrap (((a0.Commitments.getD ((a1).toNat) default).Reservation) - 1))).toNat) default).Day))) else false) = true] default (@F_calendar_Year_ok ((a0.Commitments.getD ((a1).toNat) default).Day)) fun rv3 cv3 =>
.calld [(bif (bif rv2 then (decide (((a0.Commitments.getD ((a1).toNat) default).Day) ≥ ((a0.Reservations.getD (((IntKind.i64.wrap (((a0.Commitments.getD ((a1).toNat) default).Reservation) - 1))).toNat) default).Day))) else false) then (rv3 == ((a0.Reservations.getD (((IntKind.i64.wrap (((a0.Commitments.getD ((a1).toNat) default).Reservation) - 1))).toNat) default).Year)) else false) = true] default (@F_commitment_amount_ok ((a0.Commitments.getD ((a1).toNat) default).Amount)) fun rv4 cv4 =>
.calld [(bif (bif (bif rv2 then (decide (((a0.Commitments.getD ((a1).toNat) default).Day) ≥ ((a0.Reservations.getD (((IntKind.i64.wrap (((a0.Commitments.getD ((a1).toNat) default).Reservation) - 1))).toNat) default).Day))) else false) then (rv3 == ((a0.Reservations.getD (((IntKind.i64.wrap (((a0.Commitments.getD ((a1).toNat) default).Reservation) - 1))).toNat) default).Year)) else false) then rv4 else false) = true] default (@F_commitment_among_ok ((a0.Commitments.getD ((a1).toNat) default).Released) 0 ((a0.Commitments.getD ((a1).toNat) default).Amount)) fun rv5 cv5 =>
.calld [(bif (bif (bif (bif rv2 then (decide (((a0.Commitments.getD ((a1).toNat) default).Day) ≥ ((a0.Reservations.getD (((IntKind.i64.wrap (((a0.Commitments.getD ((a1).toNat) default).Reservation) - 1))).toNat) default).Day))) else false) then (rv3 == ((a0.Reservations.getD (((IntKind.i64.wrap (((a0.Commitments.getD ((a1).toNat) default).Reservation) - 1))).toNat) default).Year)) else false) then rv4 else false) then rv5 else false) = true] default (@F_commitment_among_ok ((a0.Commitments.getD ((a1).toNat) default).Payee) 1 1000000) fun rv6 cv6 =>
.calld [(bif (bif (bif (bif (bif rv2 then (decide (((a0.Commitments.getD ((a1).toNat) default).Day) ≥ ((a0.Reservations.getD (((IntKind.i64.wrap (((a0.Commitments.getD ((a1).toNat) default).Reservation) - 1))).toNat) default).Day))) else false) then (rv3 == ((a0.Reservations.getD (((IntKind.i64.wrap (((a0.Commitments.getD ((a1).toNat) default).Reservation) - 1))).toNat) default).Year)) else false) then rv4 else false) then rv5 else false) then rv6 else false) = true] default (@F_commitment_day_ok ((a0.Commitments.getD ((a1).toNat) default).Due)) fun rv7 cv7 =>
.calld [(bif (bif (bif (bif (bif (bif rv2 then (decide (((a0.Commitments.getD ((a1).toNat) default).Day) ≥ ((a0.Reservations.getD (((IntKind.i64.wrap (((a0.Commitments.getD ((a1).toNat) default).Reservation) - 1))).toNat) default).Day))) else false) then (rv3 == ((a0.Reservations.getD (((IntKind.i64.wrap (((a0.Commitments.getD ((a1).toNat) default).Reservation) - 1))).toNat) default).Year)) else false) then rv4 else false) then rv5 else false) then rv6 else false) then rv7 else false) = true] default (@F_commitment_open_ok a0 (a0.Commitments.getD ((a1).toNat) default)) fun rv8 cv8 =>
.reg 5 [] [(2, hc cv2 [] true), (13, hc cv3 [] true), (21, hc cv4 [] true), (28, hc cv5 [] true), (33, hc cv6 [] true), (38, hc cv7 [] true), (43, hc cv8 [] true)] [.cl 12 cv2 [] 3 true, .clg 10 [(bif rv2 then (decide (((a0.Commitments.getD ((a1).toNat) default).Day) ≥ ((a0.Reservations.getD (((IntKind.i64.wrap (((a0.Commitments.getD ((a1).toNat) default).Reservation) - 1))).toNat) default).Day))) else false) = true] cv3 [] 3 true, .clg 8 [(bif (bif rv2 then (decide (((a0.Commitments.getD ((a1).toNat) default).Day) ≥ ((a0.Reservations.getD (((IntKind.i64.wrap (((a0.Commitments.getD ((a1).toNat) default).Reservation) - 1))).toNat) default).Day))) else false) then (rv3 == ((a0.Reservations.getD (((IntKind.i64.wrap (((a0.Commitments.getD ((a1).toNat) default).Reservation) - 1))).toNat) default).Year)) else false) = true] cv4 [] 3 true, .clg 6 [(bif (bif (bif rv2 then (decide (((a0.Commitments.getD ((a1).toNat) default).Day) ≥ ((a0.Reservations.getD (((IntKind.i64.wrap (((a0.Commitments.getD ((a1).toNat) default).Reservation) - 1))).toNat) default).Day))) else false) then (rv3 == ((a0.Reservations.getD (((IntKind.i64.wrap (((a0.Commitments.getD ((a1).toNat) default).Reservation) - 1))).toNat) default).Year)) else false) then rv4 else false) = true] cv5 [] 3 true, .clg 4 [(bif (bif (bif (bif rv2 then (decide (((a0.Commitments.getD ((a1).toNat) default).Day) ≥ ((a0.Reservations.getD (((IntKind.i64.wrap (((a0.Commitments.getD ((a1).toNat) default).Reservation) - 1))).toNat) default).Day))) else false) then (rv3 == ((a0.Reservations.getD (((IntKind.i64.wrap (((a0.Commitments.getD ((a1).toNat) default).Reservation) - 1))).toNat) default).Year)) else false) then rv4 else false) then rv5 else false) = true] cv6 [] 3 true, .clg 2 [(bif (bif (bif (bif (bif rv2 then (decide (((a0.Commitments.getD ((a1).toNat) default).Day) ≥ ((a0.Reservations.getD (((IntKind.i64.wrap (((a0.Commitments.getD ((a1).toNat) default).Reservation) - 1))).toNat) default).Day))) else false) then (rv3 == ((a0.Reservations.getD (((IntKind.i64.wrap (((a0.Commitments.getD ((a1).toNat) default).Reservation) - 1))).toNat) default).Year)) else false) then rv4 else false) then rv5 else false) then rv6 else false) = true] cv7 [] 3 true, .clg 0 [(bif (bif (bif (bif (bif (bif rv2 then (decide (((a0.Commitments.getD ((a1).toNat) default).Day) ≥ ((a0.Reservations.getD (((IntKind.i64.wrap (((a0.Commitments.getD ((a1).toNat) default).Reservation) - 1))).toNat) default).Day))) else false) then (rv3 == ((a0.Reservations.getD (((IntKind.i64.wrap (((a0.Commitments.getD ((a1).toNat) default).Reservation) - 1))).toNat) default).Year)) else false) then rv4 else false) then rv5 else false) then rv6 else false) then rv7 else false) = true] cv8 [] 3 true] <|
.ret [] (bif (bif (bif (bif (bif (bif (bif rv2 then (decide (((a0.Commitments.getD ((a1).toNat) default).Day) ≥ ((a0.Reservations.getD (((IntKind.i64.wrap (((a0.Commitments.getD ((a1).toNat) default).Reservation) - 1))).toNat) default).Day))) else false) then (rv3 == ((a0.Reservations.getD (((IntKind.i64.wrap (((a0.Commitments.getD ((a1).toNat) default).Reservation) - 1))).toNat) default).Year)) else false) then rv4 else false) then rv5 else false) then rv6 else false) then rv7 else false) then (decide (rv8 ≥ 0)) else false))
def F_commitment_commitment (a0 : TApiBook) (a1 : Int) : Option R_commitment_commitment := (S_commitment_commitment a0 a1).den
set_option maxRecDepth 100000 in
theorem F_commitment_commitment_ok {a0 : TApiBook} {a1 : Int} (r : R_commitment_commitment) (h : F_commitment_commitment a0 a1 = some r) : CallOk Tryz.prog 85 [(AV.d (TApiBook.e a0)), (vi a1)] [] (V_commitment_commitment r) (L_commitment_commitment r) := fOk (s := S_commitment_commitment a0 a1) Tryz.func85 rfl (by kernel_rfl) h
/-! 83 -/
abbrev R_commitment_all_commitment_commitment := Bool
def V_commitment_all_commitment_commitment (x : R_commitment_all_commitment_commitment) : AV := (vb x)
def L_commitment_all_commitment_commitment (_ : R_commitment_all_commitment_commitment) : List Ob := []
def S_commitment_all_commitment_commitment_b1 (a0 : TApiBook) (iv1 : Nat) (_ : Unit) : Scr Tryz.prog R_commitment_all_commitment_commitment (Step (Unit) R_commitment_all_commitment_commitment) :=
.call (@F_commitment_commitment_ok a0 (iv1 : Int)) fun rv2 cv2 =>
.reg 4 [] [(3, hc cv2 [] true)] [.cl 0 cv2 [] 1 true] <|
.ite (!rv2) (
.ret [] (.ret false)) (
.ret [] (.cont ()))
def S_commitment_all_commitment_commitment (a0 : TApiBook) (a1 : Int) : Scr Tryz.prog R_commitment_all_commitment_commitment R_commitment_all_commitment_commitment :=
.guard [(a1).toNat < 2 ^ 63] <|
.range a1 ((a1).toNat) rfl (.why (.ev 0)) 9 [1, 2, 3, 8] (fun (_ : Unit) => []) (fun (_ : Unit) => []) () (S_commitment_all_commitment_commitment_b1 a0) (fun (_ : Unit) => 
.ret [] (decide (a1 ≤ 200))) id
def F_commitment_all_commitment_commitment (a0 : TApiBook) (a1 : Int) : Option R_commitment_all_commitment_commitment := (S_commitment_all_commitment_commitment a0 a1).den
set_option maxRecDepth 100000 in
theorem F_commitment_all_commitment_commitment_ok {a0 : TApiBook} {a1 : Int} (r : R_commitment_all_commitment_commitment) (h : F_commitment_all_commitment_commitment a0 a1 = some r) : CallOk Tryz.prog 83 [(AV.d (TApiBook.e a0)), (vi a1), (AV.fn 85 [])] [] (V_commitment_all_commitment_commitment r) (L_commitment_all_commitment_commitment r) := fOk (s := S_commitment_all_commitment_commitment a0 a1) Tryz.func83 rfl (by kernel_rfl) h
/-! 117 -/
abbrev R_commitment_year := Int
def V_commitment_year (x : R_commitment_year) : AV := (vi x)
def L_commitment_year (_ : R_commitment_year) : List Ob := []
def S_commitment_year (a0 : TApiBook) (a1 : TApiCommitment) : Scr Tryz.prog R_commitment_year R_commitment_year :=
.guard [(0 : Int) ≤ (IntKind.i64.wrap (a1.Reservation - 1)), ((IntKind.i64.wrap (a1.Reservation - 1))).toNat < a0.Reservations.length] <|
.reg 1 [] [] [.ev 0, .ev 1] <|
.ret [] ((a0.Reservations.getD (((IntKind.i64.wrap (a1.Reservation - 1))).toNat) default).Year)
def F_commitment_year (a0 : TApiBook) (a1 : TApiCommitment) : Option R_commitment_year := (S_commitment_year a0 a1).den
set_option maxRecDepth 100000 in
theorem F_commitment_year_ok {a0 : TApiBook} {a1 : TApiCommitment} (r : R_commitment_year) (h : F_commitment_year a0 a1 = some r) : CallOk Tryz.prog 117 [(AV.d (TApiBook.e a0)), (AV.d (TApiCommitment.e a1))] [] (V_commitment_year r) (L_commitment_year r) := fOk (s := S_commitment_year a0 a1) Tryz.func117 rfl (by kernel_rfl) h
/-! 86 -/
abbrev R_commitment_verification := Bool
def V_commitment_verification (x : R_commitment_verification) : AV := (vb x)
def L_commitment_verification (_ : R_commitment_verification) : List Ob := []
def S_commitment_verification (a0 : TApiBook) (a1 : Int) : Scr Tryz.prog R_commitment_verification R_commitment_verification :=
.guard [(0 : Int) ≤ a1, (a1).toNat < a0.Verifications.length] <|
.reg 1 [] [] [.ev 0, .ev 1] <|
.calld [(((a0.Verifications.getD ((a1).toNat) default).Number) != (IntKind.i64.wrap (a1 + 1))) = false] default (@F_commitment_among_ok ((a0.Verifications.getD ((a1).toNat) default).Commitment) 1 (a0.Commitments.length : Int)) fun rv1 cv1 =>
.reg 2 [] [(11, hc cv1 [] true)] [.clg 0 [(((a0.Verifications.getD ((a1).toNat) default).Number) != (IntKind.i64.wrap (a1 + 1))) = false] cv1 [] 2 true] <|
.ite (bif (((a0.Verifications.getD ((a1).toNat) default).Number) != (IntKind.i64.wrap (a1 + 1))) then true else (!rv1)) (
.ret [] false) (
.guard [(0 : Int) ≤ (IntKind.i64.wrap (((a0.Verifications.getD ((a1).toNat) default).Commitment) - 1)), ((IntKind.i64.wrap (((a0.Verifications.getD ((a1).toNat) default).Commitment) - 1))).toNat < a0.Commitments.length] <|
.reg 4 [] [] [.ev 0, .ev 1] <|
.call (@F_commitment_day_ok ((a0.Verifications.getD ((a1).toNat) default).Day)) fun rv2 cv2 =>
.calld [(bif rv2 then (decide (((a0.Verifications.getD ((a1).toNat) default).Day) ≥ ((a0.Commitments.getD (((IntKind.i64.wrap (((a0.Verifications.getD ((a1).toNat) default).Commitment) - 1))).toNat) default).Day))) else false) = true] default (@F_calendar_Year_ok ((a0.Verifications.getD ((a1).toNat) default).Day)) fun rv3 cv3 =>
.calld [(bif rv2 then (decide (((a0.Verifications.getD ((a1).toNat) default).Day) ≥ ((a0.Commitments.getD (((IntKind.i64.wrap (((a0.Verifications.getD ((a1).toNat) default).Commitment) - 1))).toNat) default).Day))) else false) = true] default (@F_commitment_year_ok a0 (a0.Commitments.getD (((IntKind.i64.wrap (((a0.Verifications.getD ((a1).toNat) default).Commitment) - 1))).toNat) default)) fun rv4 cv4 =>
.calld [(bif (bif rv2 then (decide (((a0.Verifications.getD ((a1).toNat) default).Day) ≥ ((a0.Commitments.getD (((IntKind.i64.wrap (((a0.Verifications.getD ((a1).toNat) default).Commitment) - 1))).toNat) default).Day))) else false) then (decide (rv3 ≤ (IntKind.i64.wrap (rv4 + 1)))) else false) = true] default (@F_commitment_amount_ok ((a0.Verifications.getD ((a1).toNat) default).Amount)) fun rv5 cv5 =>
.reg 5 [] [(2, hc cv2 [] true), (13, hc cv3 [] true), (16, hc cv4 [] true), (23, hc cv5 [] true)] [.cl 6 cv2 [] 3 true, .clg 4 [(bif rv2 then (decide (((a0.Verifications.getD ((a1).toNat) default).Day) ≥ ((a0.Commitments.getD (((IntKind.i64.wrap (((a0.Verifications.getD ((a1).toNat) default).Commitment) - 1))).toNat) default).Day))) else false) = true] cv3 [] 3 true, .clg 2 [(bif rv2 then (decide (((a0.Verifications.getD ((a1).toNat) default).Day) ≥ ((a0.Commitments.getD (((IntKind.i64.wrap (((a0.Verifications.getD ((a1).toNat) default).Commitment) - 1))).toNat) default).Day))) else false) = true] cv4 [] 3 true, .clg 0 [(bif (bif rv2 then (decide (((a0.Verifications.getD ((a1).toNat) default).Day) ≥ ((a0.Commitments.getD (((IntKind.i64.wrap (((a0.Verifications.getD ((a1).toNat) default).Commitment) - 1))).toNat) default).Day))) else false) then (decide (rv3 ≤ (IntKind.i64.wrap (rv4 + 1)))) else false) = true] cv5 [] 3 true] <|
.ret [] (bif (bif (bif rv2 then (decide (((a0.Verifications.getD ((a1).toNat) default).Day) ≥ ((a0.Commitments.getD (((IntKind.i64.wrap (((a0.Verifications.getD ((a1).toNat) default).Commitment) - 1))).toNat) default).Day))) else false) then (decide (rv3 ≤ (IntKind.i64.wrap (rv4 + 1)))) else false) then rv5 else false))
def F_commitment_verification (a0 : TApiBook) (a1 : Int) : Option R_commitment_verification := (S_commitment_verification a0 a1).den
set_option maxRecDepth 100000 in
theorem F_commitment_verification_ok {a0 : TApiBook} {a1 : Int} (r : R_commitment_verification) (h : F_commitment_verification a0 a1 = some r) : CallOk Tryz.prog 86 [(AV.d (TApiBook.e a0)), (vi a1)] [] (V_commitment_verification r) (L_commitment_verification r) := fOk (s := S_commitment_verification a0 a1) Tryz.func86 rfl (by kernel_rfl) h
/-! 83 -/
abbrev R_commitment_all_commitment_verification := Bool
def V_commitment_all_commitment_verification (x : R_commitment_all_commitment_verification) : AV := (vb x)
def L_commitment_all_commitment_verification (_ : R_commitment_all_commitment_verification) : List Ob := []
def S_commitment_all_commitment_verification_b1 (a0 : TApiBook) (iv1 : Nat) (_ : Unit) : Scr Tryz.prog R_commitment_all_commitment_verification (Step (Unit) R_commitment_all_commitment_verification) :=
.call (@F_commitment_verification_ok a0 (iv1 : Int)) fun rv2 cv2 =>
.reg 4 [] [(3, hc cv2 [] true)] [.cl 0 cv2 [] 1 true] <|
.ite (!rv2) (
.ret [] (.ret false)) (
.ret [] (.cont ()))
def S_commitment_all_commitment_verification (a0 : TApiBook) (a1 : Int) : Scr Tryz.prog R_commitment_all_commitment_verification R_commitment_all_commitment_verification :=
.guard [(a1).toNat < 2 ^ 63] <|
.range a1 ((a1).toNat) rfl (.why (.ev 0)) 9 [1, 2, 3, 8] (fun (_ : Unit) => []) (fun (_ : Unit) => []) () (S_commitment_all_commitment_verification_b1 a0) (fun (_ : Unit) => 
.ret [] (decide (a1 ≤ 200))) id
def F_commitment_all_commitment_verification (a0 : TApiBook) (a1 : Int) : Option R_commitment_all_commitment_verification := (S_commitment_all_commitment_verification a0 a1).den
set_option maxRecDepth 100000 in
theorem F_commitment_all_commitment_verification_ok {a0 : TApiBook} {a1 : Int} (r : R_commitment_all_commitment_verification) (h : F_commitment_all_commitment_verification a0 a1 = some r) : CallOk Tryz.prog 83 [(AV.d (TApiBook.e a0)), (vi a1), (AV.fn 86 [])] [] (V_commitment_all_commitment_verification r) (L_commitment_all_commitment_verification r) := fOk (s := S_commitment_all_commitment_verification a0 a1) Tryz.func83 rfl (by kernel_rfl) h
/-! 138 -/
abbrev R_slices_Clone_Order_rw := (List TApiOrder)
def V_slices_Clone_Order_rw (x : R_slices_Clone_Order_rw) : AV := (AV.ref 0 x.length 0 x.length)
def L_slices_Clone_Order_rw (x : R_slices_Clone_Order_rw) : List Ob := [(eS 5 TApiOrder.e x)]
def S_slices_Clone_Order_rw (a0 : (List TApiOrder)) : Scr Tryz.prog R_slices_Clone_Order_rw R_slices_Clone_Order_rw :=
.reg 0 [] [] [] <|
.nils 0 (
.guard [a0.length * (2 * 40) ≤ 2 ^ 48] <|
.reg 1 [] [] [] <|
.lev 0 (AV.d (eL TApiOrder.e a0)) (.pf (lvQ true a0.length fun j => (TApiOrder.e (a0.getD j default)))) <|
.br true (.pf (p := true = true) rfl) <|
.reg 2 [] [] [] <|
.bor 5 (fun j => AV.d (TApiOrder.e (a0.getD j default))) [2] <|
.cst (A := a0.length = 0) (.ev 1) [(2, AV.ref 0 0 0 0)] [(2, (AV.ref 0 a0.length 0 a0.length))] [(Ob.seq 5 0 fun j => AV.d (TApiOrder.e (a0.getD j default)))] [(eS 5 TApiOrder.e a0)] (fun h => ⟨by rw [h], by unfold eS; rw [h]⟩) <|
.ret [] a0) (
.reg 1 [] [] [] <|
.lev 0 (AV.d (eL TApiOrder.e a0)) (.pf (lvQ false a0.length fun j => (TApiOrder.e (a0.getD j default)))) <|
.br false (.pf (p := false = false) rfl) <|
.guard [a0.length * (2 * 40) ≤ 2 ^ 48] <|
.reg 3 [] [(2, { h := .obj })] [.pf (p := ∀ k, k < a0.length → (AV.d (TApiOrder.e (a0.getD k default))).wd = 5) (fun _ _ => rfl), .ev 0] <|
.ret [] a0)
def F_slices_Clone_Order_rw (a0 : (List TApiOrder)) : Option R_slices_Clone_Order_rw := (S_slices_Clone_Order_rw a0).den
set_option maxRecDepth 100000 in
theorem F_slices_Clone_Order_rw_ok {a0 : (List TApiOrder)} (r : R_slices_Clone_Order_rw) (h : F_slices_Clone_Order_rw a0 = some r) : CallOk Tryz.prog 138 [(AV.d (eL TApiOrder.e a0))] [] (V_slices_Clone_Order_rw r) (L_slices_Clone_Order_rw r) := fOk (s := S_slices_Clone_Order_rw a0) Tryz.func138 rfl (by kernel_rfl) h
/-! 139 -/
abbrev R_commitment_orders_1 := Bool
def V_commitment_orders_1 (x : R_commitment_orders_1) : AV := (vb x)
def L_commitment_orders_1 (p0 : Int) (_ : R_commitment_orders_1) : List Ob := [(Ob.box (vi p0))]
def S_commitment_orders_1 (a0 : TApiOrder) (p0 : Int) : Scr Tryz.prog R_commitment_orders_1 R_commitment_orders_1 :=
.ret [] (a0.Verification != p0)
def F_commitment_orders_1 (a0 : TApiOrder) (p0 : Int) : Option R_commitment_orders_1 := (S_commitment_orders_1 a0 p0).den
set_option maxRecDepth 100000 in
theorem F_commitment_orders_1_ok {a0 : TApiOrder} {p0 : Int} (r : R_commitment_orders_1) (h : F_commitment_orders_1 a0 p0 = some r) : CallOk Tryz.prog 139 [(AV.d (TApiOrder.e a0)), (vp 0)] [(Ob.box (vi p0))] (V_commitment_orders_1 r) (L_commitment_orders_1 p0 r) := fOk (s := S_commitment_orders_1 a0 p0) Tryz.func139 rfl (by kernel_rfl) h
/-! 140 -/
abbrev R_slices_IndexFunc_Order_commitment_orders_1 := Int
def V_slices_IndexFunc_Order_commitment_orders_1 (x : R_slices_IndexFunc_Order_commitment_orders_1) : AV := (vi x)
def L_slices_IndexFunc_Order_commitment_orders_1 (p0 : (List TApiOrder)) (p1 : Int) (_ : R_slices_IndexFunc_Order_commitment_orders_1) : List Ob := [(eS 5 TApiOrder.e p0), (Ob.box (vi p1))]
def S_slices_IndexFunc_Order_commitment_orders_1_b1 (p0 : (List TApiOrder)) (p1 : Int) (iv1 : Nat) (_ : Unit) : Scr Tryz.prog R_slices_IndexFunc_Order_commitment_orders_1 (Step (Unit) R_slices_IndexFunc_Order_commitment_orders_1) :=
.call (@F_commitment_orders_1_ok (p0.getD (0 + iv1) default) p1) fun rv2 cv2 =>
.guard [(0 + iv1) < p0.length] <|
.reg 4 [] [(5, hc cv2 [1] true)] [.pf (Eq.refl p0.length), .pf (nn iv1), .ev 2, .pf (Eq.refl p0.length), .ev 0, .cl 1 cv2 [1] 2 true] <|
.ite rv2 (
.ret [] (.ret (iv1 : Int))) (
.ret [] (.cont ()))
def S_slices_IndexFunc_Order_commitment_orders_1 (p0 : (List TApiOrder)) (p1 : Int) : Scr Tryz.prog R_slices_IndexFunc_Order_commitment_orders_1 R_slices_IndexFunc_Order_commitment_orders_1 :=
.guard [p0.length < 2 ^ 63] <|
.range (p0.length : Int) p0.length rfl (.why (.ev 0)) 8 [0, 1, 7] (fun (_ : Unit) => []) (fun (_ : Unit) => []) () (S_slices_IndexFunc_Order_commitment_orders_1_b1 p0 p1) (fun (_ : Unit) => 
.ret [] (-1)) id
def F_slices_IndexFunc_Order_commitment_orders_1 (p0 : (List TApiOrder)) (p1 : Int) : Option R_slices_IndexFunc_Order_commitment_orders_1 := (S_slices_IndexFunc_Order_commitment_orders_1 p0 p1).den
set_option maxRecDepth 100000 in
theorem F_slices_IndexFunc_Order_commitment_orders_1_ok {p0 : (List TApiOrder)} {p1 : Int} (r : R_slices_IndexFunc_Order_commitment_orders_1) (h : F_slices_IndexFunc_Order_commitment_orders_1 p0 p1 = some r) : CallOk Tryz.prog 140 [(AV.ref 0 p0.length 0 p0.length), (AV.fn 139 [(vp 1)])] [(eS 5 TApiOrder.e p0), (Ob.box (vi p1))] (V_slices_IndexFunc_Order_commitment_orders_1 r) (L_slices_IndexFunc_Order_commitment_orders_1 p0 p1 r) := fOk (s := S_slices_IndexFunc_Order_commitment_orders_1 p0 p1) Tryz.func140 rfl (by kernel_rfl) h
/-! 137 -/
abbrev R_slices_DeleteFunc_Order_commitment_orders_1 := (List TApiOrder)
def V_slices_DeleteFunc_Order_commitment_orders_1 (x : R_slices_DeleteFunc_Order_commitment_orders_1) : AV := (AV.d (eL TApiOrder.e x))
def L_slices_DeleteFunc_Order_commitment_orders_1 (p1 : Int) (_ : R_slices_DeleteFunc_Order_commitment_orders_1) : List Ob := [Ob.dead, (Ob.box (vi p1))]
def S_slices_DeleteFunc_Order_commitment_orders_1_b1 (p1 : Int) (sv1 : (List TApiOrder) × Int × Int) : Scr Tryz.prog R_slices_DeleteFunc_Order_commitment_orders_1 (Step ((List TApiOrder) × Int × Int) R_slices_DeleteFunc_Order_commitment_orders_1) :=
.ite (decide (sv1.2.2 < (sv1.1.length : Int))) (
.guard [(0 : Int) ≤ sv1.2.2, (sv1.2.2).toNat < sv1.1.length, (0 + (sv1.2.2).toNat) < sv1.1.length] <|
.reg 7 [] [] [.pf (Eq.refl sv1.1.length), .ev 0, .ev 1, .pf (Eq.refl sv1.1.length), .ev 2] <|
.call (@F_commitment_orders_1_ok (sv1.1.getD (0 + (sv1.2.2).toNat) default) p1) fun rv2 cv2 =>
.reg 8 [] [(2, hc cv2 [1] true)] [.cl 0 cv2 [1] 3 true] <|
.ite (!rv2) (
.guard [(0 : Int) ≤ sv1.2.1, (sv1.2.1).toNat < sv1.1.length, (0 + (sv1.2.1).toNat) < sv1.1.length] <|
.reg 9 [] [(4, { obs := [(0, (eS 5 TApiOrder.e (sv1.1.set (0 + (sv1.2.1).toNat) (sv1.1.getD (0 + (sv1.2.2).toNat) default))))] })] [.pf (Eq.refl sv1.1.length), .ev 0, .ev 1, .pf (Eq.refl sv1.1.length), .ev 2, .pf (oLe_set (sz := 5) (e := TApiOrder.e) (l := sv1.1) (i := (0 + (sv1.2.1).toNat)) (x := (sv1.1.getD (0 + (sv1.2.2).toNat) default)) (fun _ => rfl))] <|
.cst (A := True) (.pf trivial) [(0, (AV.ref 0 sv1.1.length 0 sv1.1.length)), (1, (AV.fn 139 [(vp 1)])), (5, (vi sv1.2.1)), (6, (vi sv1.2.2))] [(0, (AV.ref 0 ((sv1.1.set (0 + (sv1.2.1).toNat) (sv1.1.getD (0 + (sv1.2.2).toNat) default)).length) 0 ((sv1.1.set (0 + (sv1.2.1).toNat) (sv1.1.getD (0 + (sv1.2.2).toNat) default)).length))), (1, (AV.fn 139 [(vp 1)])), (5, (vi sv1.2.1)), (6, (vi sv1.2.2))] [(eS 5 TApiOrder.e (sv1.1.set (0 + (sv1.2.1).toNat) (sv1.1.getD (0 + (sv1.2.2).toNat) default))), (Ob.box (vi p1)), (bx (TApiOrder.e (sv1.1.getD (0 + (sv1.2.2).toNat) default)))] [(eS 5 TApiOrder.e (sv1.1.set (0 + (sv1.2.1).toNat) (sv1.1.getD (0 + (sv1.2.2).toNat) default))), (Ob.box (vi p1)), (bx (TApiOrder.e (sv1.1.getD (0 + (sv1.2.2).toNat) default)))] (fun _ => ⟨by simp only [List.length_set], by rfl⟩) <|
.ret [] (.cont ((sv1.1.set (0 + (sv1.2.1).toNat) (sv1.1.getD (0 + (sv1.2.2).toNat) default)), (IntKind.i64.wrap (sv1.2.1 + 1)), (IntKind.i64.wrap (sv1.2.2 + 1))))) (
.ret [] (.cont (sv1.1, sv1.2.1, (IntKind.i64.wrap (sv1.2.2 + 1)))))) (
.ret [] (.brk (sv1.1, sv1.2.1, sv1.2.2)))
def S_slices_DeleteFunc_Order_commitment_orders_1 (p0 : (List TApiOrder)) (p1 : Int) : Scr Tryz.prog R_slices_DeleteFunc_Order_commitment_orders_1 R_slices_DeleteFunc_Order_commitment_orders_1 :=
.call (@F_slices_IndexFunc_Order_commitment_orders_1_ok p0 p1) fun rv3 cv3 =>
.reg 1 [] [(2, hc cv3 [0, 1] true)] [.cl 0 cv3 [0, 1] 2 true] <|
.ite (rv3 == (-1)) (
.guard [p0.length < 2 ^ 63] <|
.reg 3 [] [] [] <|
.frz 0 (.ev 0) none [4] [] <|
.ret [] p0) (
.iter [1] (fun (sv1 : (List TApiOrder) × Int × Int) => [(0, (AV.ref 0 sv1.1.length 0 sv1.1.length)), (5, (vi sv1.2.1)), (6, (vi sv1.2.2))]) (fun (sv1 : (List TApiOrder) × Int × Int) => [(0, (eS 5 TApiOrder.e sv1.1))]) (p0, rv3, (IntKind.i64.wrap (rv3 + 1))) (S_slices_DeleteFunc_Order_commitment_orders_1_b1 p1) (fun (sv1 : (List TApiOrder) × Int × Int) =>
.guard [(0 : Int) ≤ sv1.2.1, (sv1.2.1).toNat ≤ sv1.1.length] <|
.reg 11 [] [(3, { obs := [(0, (eS 5 TApiOrder.e (clearL sv1.1 (0 + (sv1.2.1).toNat) (sv1.1.length - (sv1.2.1).toNat) (⟨0, 0, 0, 0, false⟩ : TApiOrder))))] })] [.ev 0, .ev 1, .pf (Eq.refl sv1.1.length), .pf (Eq.refl sv1.1.length), .pf (oLe_clear (sz := 5) (e := TApiOrder.e) (l := sv1.1) (off := (0 + (sv1.2.1).toNat)) (n := (sv1.1.length - (sv1.2.1).toNat)) (z := (⟨0, 0, 0, 0, false⟩ : TApiOrder)))] <|
.cst (A := True) (.pf trivial) [(0, (AV.ref 0 sv1.1.length 0 sv1.1.length)), (5, (vi sv1.2.1))] [(0, (AV.ref 0 ((clearL sv1.1 (0 + (sv1.2.1).toNat) (sv1.1.length - (sv1.2.1).toNat) (⟨0, 0, 0, 0, false⟩ : TApiOrder)).length) 0 ((clearL sv1.1 (0 + (sv1.2.1).toNat) (sv1.1.length - (sv1.2.1).toNat) (⟨0, 0, 0, 0, false⟩ : TApiOrder)).length))), (5, (vi sv1.2.1))] [(eS 5 TApiOrder.e (clearL sv1.1 (0 + (sv1.2.1).toNat) (sv1.1.length - (sv1.2.1).toNat) (⟨0, 0, 0, 0, false⟩ : TApiOrder))), (Ob.box (vi p1))] [(eS 5 TApiOrder.e (clearL sv1.1 (0 + (sv1.2.1).toNat) (sv1.1.length - (sv1.2.1).toNat) (⟨0, 0, 0, 0, false⟩ : TApiOrder))), (Ob.box (vi p1))] (fun _ => ⟨by simp only [clearL_length], by rfl⟩) <|
.guard [(sv1.2.1).toNat ≤ (clearL sv1.1 (0 + (sv1.2.1).toNat) (sv1.1.length - (sv1.2.1).toNat) (⟨0, 0, 0, 0, false⟩ : TApiOrder)).length] <|
.reg 12 [] [] [.ev 1, .ev 0, .pf (Eq.refl ((clearL sv1.1 (0 + (sv1.2.1).toNat) (sv1.1.length - (sv1.2.1).toNat) (⟨0, 0, 0, 0, false⟩ : TApiOrder)).length))] <|
.guard [(clearL sv1.1 (0 + (sv1.2.1).toNat) (sv1.1.length - (sv1.2.1).toNat) (⟨0, 0, 0, 0, false⟩ : TApiOrder)).length < 2 ^ 63] <|
.frz 0 (.ev 0) (some (.der (fun (h : (sv1.2.1).toNat ≤ (clearL sv1.1 (0 + (sv1.2.1).toNat) (sv1.1.length - (sv1.2.1).toNat) (⟨0, 0, 0, 0, false⟩ : TApiOrder)).length) => (Nat.le_trans (Nat.sub_le _ _) h : ((sv1.2.1).toNat - 0) ≤ (clearL sv1.1 (0 + (sv1.2.1).toNat) (sv1.1.length - (sv1.2.1).toNat) (⟨0, 0, 0, 0, false⟩ : TApiOrder)).length)) 1)) [4] [] <|
.lev 4 (AV.d (eL TApiOrder.e ((clearL sv1.1 (0 + (sv1.2.1).toNat) (sv1.1.length - (sv1.2.1).toNat) (⟨0, 0, 0, 0, false⟩ : TApiOrder)).take ((sv1.2.1).toNat)))) (.der (fun (h : (sv1.2.1).toNat ≤ (clearL sv1.1 (0 + (sv1.2.1).toNat) (sv1.1.length - (sv1.2.1).toNat) (⟨0, 0, 0, 0, false⟩ : TApiOrder)).length) => lvT TApiOrder.e (clearL sv1.1 (0 + (sv1.2.1).toNat) (sv1.1.length - (sv1.2.1).toNat) (⟨0, 0, 0, 0, false⟩ : TApiOrder)) h) 1) <|
.ret [] ((clearL sv1.1 (0 + (sv1.2.1).toNat) (sv1.1.length - (sv1.2.1).toNat) (⟨0, 0, 0, 0, false⟩ : TApiOrder)).take ((sv1.2.1).toNat))) id)
def F_slices_DeleteFunc_Order_commitment_orders_1 (p0 : (List TApiOrder)) (p1 : Int) : Option R_slices_DeleteFunc_Order_commitment_orders_1 := (S_slices_DeleteFunc_Order_commitment_orders_1 p0 p1).den
set_option maxRecDepth 100000 in
theorem F_slices_DeleteFunc_Order_commitment_orders_1_ok {p0 : (List TApiOrder)} {p1 : Int} (r : R_slices_DeleteFunc_Order_commitment_orders_1) (h : F_slices_DeleteFunc_Order_commitment_orders_1 p0 p1 = some r) : CallOk Tryz.prog 137 [(AV.ref 0 p0.length 0 p0.length), (AV.fn 139 [(vp 1)])] [(eS 5 TApiOrder.e p0), (Ob.box (vi p1))] (V_slices_DeleteFunc_Order_commitment_orders_1 r) (L_slices_DeleteFunc_Order_commitment_orders_1 p1 r) := fOk (s := S_slices_DeleteFunc_Order_commitment_orders_1 p0 p1) Tryz.func137 rfl (by kernel_rfl) h
/-! 118 -/
abbrev R_commitment_orders := (List TApiOrder)
def V_commitment_orders (x : R_commitment_orders) : AV := (AV.d (eL TApiOrder.e x))
def L_commitment_orders (_ : R_commitment_orders) : List Ob := []
def S_commitment_orders (a0 : TApiBook) (a1 : Int) : Scr Tryz.prog R_commitment_orders R_commitment_orders :=
.call (@F_slices_Clone_Order_rw_ok a0.Orders) fun rv1 cv1 =>
.call (@F_slices_DeleteFunc_Order_commitment_orders_1_ok rv1 a1) fun rv2 cv2 =>
.reg 1 [] [(2, hc cv1 [] false), (4, hc cv2 [2, 1] false)] [.cl 1 cv1 [] 2 false, .cl 0 cv2 [2, 1] 3 false] <|
.ret [] rv2
def F_commitment_orders (a0 : TApiBook) (a1 : Int) : Option R_commitment_orders := (S_commitment_orders a0 a1).den
set_option maxRecDepth 100000 in
theorem F_commitment_orders_ok {a0 : TApiBook} {a1 : Int} (r : R_commitment_orders) (h : F_commitment_orders a0 a1 = some r) : CallOk Tryz.prog 118 [(AV.d (TApiBook.e a0)), (vi a1)] [] (V_commitment_orders r) (L_commitment_orders r) := fOk (s := S_commitment_orders a0 a1) Tryz.func118 rfl (by kernel_rfl) h
/-! 119 -/
abbrev R_commitment_order_1 := Bool
def V_commitment_order_1 (x : R_commitment_order_1) : AV := (vb x)
def L_commitment_order_1 (p0 : TApiOrder) (_ : R_commitment_order_1) : List Ob := [(bx (TApiOrder.e p0))]
def S_commitment_order_1 (a0 : TApiOrder) (p0 : TApiOrder) : Scr Tryz.prog R_commitment_order_1 R_commitment_order_1 :=
.ret [] (bif (!a0.Back) then true else (decide (a0.Day > p0.Day)))
def F_commitment_order_1 (a0 : TApiOrder) (p0 : TApiOrder) : Option R_commitment_order_1 := (S_commitment_order_1 a0 p0).den
set_option maxRecDepth 100000 in
theorem F_commitment_order_1_ok {a0 : TApiOrder} {p0 : TApiOrder} (r : R_commitment_order_1) (h : F_commitment_order_1 a0 p0 = some r) : CallOk Tryz.prog 119 [(AV.d (TApiOrder.e a0)), (vp 0)] [(bx (TApiOrder.e p0))] (V_commitment_order_1 r) (L_commitment_order_1 p0 r) := fOk (s := S_commitment_order_1 a0 p0) Tryz.func119 rfl (by kernel_rfl) h
/-! 140 -/
abbrev R_slices_IndexFunc_Order_commitment_order_1 := Int
def V_slices_IndexFunc_Order_commitment_order_1 (x : R_slices_IndexFunc_Order_commitment_order_1) : AV := (vi x)
def L_slices_IndexFunc_Order_commitment_order_1 (p0 : TApiOrder) (_ : R_slices_IndexFunc_Order_commitment_order_1) : List Ob := [(bx (TApiOrder.e p0))]
def S_slices_IndexFunc_Order_commitment_order_1_b1 (a0 : (List TApiOrder)) (p0 : TApiOrder) (iv1 : Nat) (_ : Unit) : Scr Tryz.prog R_slices_IndexFunc_Order_commitment_order_1 (Step (Unit) R_slices_IndexFunc_Order_commitment_order_1) :=
.call (@F_commitment_order_1_ok (a0.getD iv1 default) p0) fun rv2 cv2 =>
.reg 4 [] [(5, hc cv2 [0] true)] [.pf (nn iv1), .ev 1, .cl 0 cv2 [0] 1 true] <|
.ite rv2 (
.ret [] (.ret (iv1 : Int))) (
.ret [] (.cont ()))
def S_slices_IndexFunc_Order_commitment_order_1 (a0 : (List TApiOrder)) (p0 : TApiOrder) : Scr Tryz.prog R_slices_IndexFunc_Order_commitment_order_1 R_slices_IndexFunc_Order_commitment_order_1 :=
.range (a0.length : Int) a0.length rfl (.slot 0) 8 [0, 1, 7] (fun (_ : Unit) => []) (fun (_ : Unit) => []) () (S_slices_IndexFunc_Order_commitment_order_1_b1 a0 p0) (fun (_ : Unit) => 
.ret [] (-1)) id
def F_slices_IndexFunc_Order_commitment_order_1 (a0 : (List TApiOrder)) (p0 : TApiOrder) : Option R_slices_IndexFunc_Order_commitment_order_1 := (S_slices_IndexFunc_Order_commitment_order_1 a0 p0).den
set_option maxRecDepth 100000 in
theorem F_slices_IndexFunc_Order_commitment_order_1_ok {a0 : (List TApiOrder)} {p0 : TApiOrder} (r : R_slices_IndexFunc_Order_commitment_order_1) (h : F_slices_IndexFunc_Order_commitment_order_1 a0 p0 = some r) : CallOk Tryz.prog 140 [(AV.d (eL TApiOrder.e a0)), (AV.fn 119 [(vp 0)])] [(bx (TApiOrder.e p0))] (V_slices_IndexFunc_Order_commitment_order_1 r) (L_slices_IndexFunc_Order_commitment_order_1 p0 r) := fOk (s := S_slices_IndexFunc_Order_commitment_order_1 a0 p0) Tryz.func140 rfl (by kernel_rfl) h
/-! 120 -/
abbrev R_slices_CoF_Order_commitment_order_1 := Bool
def V_slices_CoF_Order_commitment_order_1 (x : R_slices_CoF_Order_commitment_order_1) : AV := (vb x)
def L_slices_CoF_Order_commitment_order_1 (p0 : TApiOrder) (_ : R_slices_CoF_Order_commitment_order_1) : List Ob := [(bx (TApiOrder.e p0))]
def S_slices_CoF_Order_commitment_order_1 (a0 : (List TApiOrder)) (p0 : TApiOrder) : Scr Tryz.prog R_slices_CoF_Order_commitment_order_1 R_slices_CoF_Order_commitment_order_1 :=
.call (@F_slices_IndexFunc_Order_commitment_order_1_ok a0 p0) fun rv1 cv1 =>
.reg 1 [] [(2, hc cv1 [0] true)] [.cl 0 cv1 [0] 1 true] <|
.ret [] (decide (rv1 ≥ 0))
def F_slices_CoF_Order_commitment_order_1 (a0 : (List TApiOrder)) (p0 : TApiOrder) : Option R_slices_CoF_Order_commitment_order_1 := (S_slices_CoF_Order_commitment_order_1 a0 p0).den
set_option maxRecDepth 100000 in
theorem F_slices_CoF_Order_commitment_order_1_ok {a0 : (List TApiOrder)} {p0 : TApiOrder} (r : R_slices_CoF_Order_commitment_order_1) (h : F_slices_CoF_Order_commitment_order_1 a0 p0 = some r) : CallOk Tryz.prog 120 [(AV.d (eL TApiOrder.e a0)), (AV.fn 119 [(vp 0)])] [(bx (TApiOrder.e p0))] (V_slices_CoF_Order_commitment_order_1 r) (L_slices_CoF_Order_commitment_order_1 p0 r) := fOk (s := S_slices_CoF_Order_commitment_order_1 a0 p0) Tryz.func120 rfl (by kernel_rfl) h
/-! 87 -/
abbrev R_commitment_order := Bool
def V_commitment_order (x : R_commitment_order) : AV := (vb x)
def L_commitment_order (_ : R_commitment_order) : List Ob := []
def S_commitment_order (a0 : TApiBook) (a1 : Int) : Scr Tryz.prog R_commitment_order R_commitment_order :=
.guard [(0 : Int) ≤ a1, (a1).toNat < a0.Orders.length] <|
.reg 1 [] [] [.ev 0, .ev 1] <|
.calld [(((a0.Orders.getD ((a1).toNat) default).Number) != (IntKind.i64.wrap (a1 + 1))) = false] default (@F_commitment_among_ok ((a0.Orders.getD ((a1).toNat) default).Verification) 1 (a0.Verifications.length : Int)) fun rv1 cv1 =>
.reg 2 [] [(11, hc cv1 [] true)] [.clg 0 [(((a0.Orders.getD ((a1).toNat) default).Number) != (IntKind.i64.wrap (a1 + 1))) = false] cv1 [] 2 true] <|
.ite (bif (((a0.Orders.getD ((a1).toNat) default).Number) != (IntKind.i64.wrap (a1 + 1))) then true else (!rv1)) (
.ret [] false) (
.guard [(0 : Int) ≤ (IntKind.i64.wrap (((a0.Orders.getD ((a1).toNat) default).Verification) - 1)), ((IntKind.i64.wrap (((a0.Orders.getD ((a1).toNat) default).Verification) - 1))).toNat < a0.Verifications.length] <|
.reg 4 [] [] [.ev 0, .ev 1] <|
.call (@F_commitment_orders_ok (⟨[], [], [], (a0.Orders.take ((a1).toNat))⟩ : TApiBook) ((a0.Orders.getD ((a1).toNat) default).Verification)) fun rv2 cv2 =>
.guard [(a1).toNat ≤ a0.Orders.length] <|
.reg 5 [] [(3, hv (AV.d (eL TApiOrder.e (a0.Orders.take ((a1).toNat))))), (4, hv (AV.d (TApiBook.e (⟨[], [], [], (a0.Orders.take ((a1).toNat))⟩ : TApiBook)))), (7, hc cv2 [] true)] [.ev 7, .ev 0, .der (fun (h0 : (a1).toNat ≤ a0.Orders.length) => lvT TApiOrder.e a0.Orders h0) 0, .pf (p := LeV (AV.d (DV.agg [Z0, Z0, Z0, (eL TApiOrder.e (a0.Orders.take ((a1).toNat)))])) (AV.d (TApiBook.e (⟨[], [], [], (a0.Orders.take ((a1).toNat))⟩ : TApiBook)))) (leV_dle rfl (DLe.agg (DLeL.cons DLe.sl0 (DLeL.cons DLe.sl0 (DLeL.cons DLe.sl0 (DLeL.cons (DLe.refl _) DLeL.nil)))))), .cl 1 cv2 [] 3 true] <|
.call (@F_commitment_day_ok ((a0.Orders.getD ((a1).toNat) default).Day)) fun rv3 cv3 =>
.calld [(bif rv3 then (decide (((a0.Orders.getD ((a1).toNat) default).Day) ≥ ((a0.Verifications.getD (((IntKind.i64.wrap (((a0.Orders.getD ((a1).toNat) default).Verification) - 1))).toNat) default).Day))) else false) = true] default (@F_calendar_Year_ok ((a0.Orders.getD ((a1).toNat) default).Day)) fun rv4 cv4 =>
.calld [(bif rv3 then (decide (((a0.Orders.getD ((a1).toNat) default).Day) ≥ ((a0.Verifications.getD (((IntKind.i64.wrap (((a0.Orders.getD ((a1).toNat) default).Verification) - 1))).toNat) default).Day))) else false) = true] default (@F_commitment_year_ok a0 (a0.Commitments.getD (((IntKind.i64.wrap (((a0.Verifications.getD (((IntKind.i64.wrap (((a0.Orders.getD ((a1).toNat) default).Verification) - 1))).toNat) default).Commitment) - 1))).toNat) default)) fun rv5 cv5 =>
.calld [(bif (bif (bif rv3 then (decide (((a0.Orders.getD ((a1).toNat) default).Day) ≥ ((a0.Verifications.getD (((IntKind.i64.wrap (((a0.Orders.getD ((a1).toNat) default).Verification) - 1))).toNat) default).Day))) else false) then (decide (rv4 ≤ (IntKind.i64.wrap (rv5 + 1)))) else false) then (((a0.Orders.getD ((a1).toNat) default).Attempt) == (IntKind.i64.wrap ((rv2.length : Int) + 1))) else false) = true] default (@F_slices_CoF_Order_commitment_order_1_ok rv2 (a0.Orders.getD ((a1).toNat) default)) fun rv6 cv6 =>
.guard [AllP [(bif rv3 then (decide (((a0.Orders.getD ((a1).toNat) default).Day) ≥ ((a0.Verifications.getD (((IntKind.i64.wrap (((a0.Orders.getD ((a1).toNat) default).Verification) - 1))).toNat) default).Day))) else false) = true] → ((0 : Int) ≤ (IntKind.i64.wrap (((a0.Verifications.getD (((IntKind.i64.wrap (((a0.Orders.getD ((a1).toNat) default).Verification) - 1))).toNat) default).Commitment) - 1))), AllP [(bif rv3 then (decide (((a0.Orders.getD ((a1).toNat) default).Day) ≥ ((a0.Verifications.getD (((IntKind.i64.wrap (((a0.Orders.getD ((a1).toNat) default).Verification) - 1))).toNat) default).Day))) else false) = true] → (((IntKind.i64.wrap (((a0.Verifications.getD (((IntKind.i64.wrap (((a0.Orders.getD ((a1).toNat) default).Verification) - 1))).toNat) default).Commitment) - 1))).toNat < a0.Commitments.length)] <|
.reg 7 [] [(2, hc cv3 [] true), (13, hc cv4 [] true), (22, hc cv5 [] true), (37, hc cv6 [1] true)] [.cl 8 cv3 [] 3 true, .clg 6 [(bif rv3 then (decide (((a0.Orders.getD ((a1).toNat) default).Day) ≥ ((a0.Verifications.getD (((IntKind.i64.wrap (((a0.Orders.getD ((a1).toNat) default).Verification) - 1))).toNat) default).Day))) else false) = true] cv4 [] 3 true, .ev 0, .ev 1, .clg 4 [(bif rv3 then (decide (((a0.Orders.getD ((a1).toNat) default).Day) ≥ ((a0.Verifications.getD (((IntKind.i64.wrap (((a0.Orders.getD ((a1).toNat) default).Verification) - 1))).toNat) default).Day))) else false) = true] cv5 [] 3 true, .clg 2 [(bif (bif (bif rv3 then (decide (((a0.Orders.getD ((a1).toNat) default).Day) ≥ ((a0.Verifications.getD (((IntKind.i64.wrap (((a0.Orders.getD ((a1).toNat) default).Verification) - 1))).toNat) default).Day))) else false) then (decide (rv4 ≤ (IntKind.i64.wrap (rv5 + 1)))) else false) then (((a0.Orders.getD ((a1).toNat) default).Attempt) == (IntKind.i64.wrap ((rv2.length : Int) + 1))) else false) = true] cv6 [1] 3 true] <|
.ret [] (bif (bif (bif (bif rv3 then (decide (((a0.Orders.getD ((a1).toNat) default).Day) ≥ ((a0.Verifications.getD (((IntKind.i64.wrap (((a0.Orders.getD ((a1).toNat) default).Verification) - 1))).toNat) default).Day))) else false) then (decide (rv4 ≤ (IntKind.i64.wrap (rv5 + 1)))) else false) then (((a0.Orders.getD ((a1).toNat) default).Attempt) == (IntKind.i64.wrap ((rv2.length : Int) + 1))) else false) then (!rv6) else false))
def F_commitment_order (a0 : TApiBook) (a1 : Int) : Option R_commitment_order := (S_commitment_order a0 a1).den
set_option maxRecDepth 100000 in
theorem F_commitment_order_ok {a0 : TApiBook} {a1 : Int} (r : R_commitment_order) (h : F_commitment_order a0 a1 = some r) : CallOk Tryz.prog 87 [(AV.d (TApiBook.e a0)), (vi a1)] [] (V_commitment_order r) (L_commitment_order r) := fOk (s := S_commitment_order a0 a1) Tryz.func87 rfl (by kernel_rfl) h
/-! 83 -/
abbrev R_commitment_all_commitment_order := Bool
def V_commitment_all_commitment_order (x : R_commitment_all_commitment_order) : AV := (vb x)
def L_commitment_all_commitment_order (_ : R_commitment_all_commitment_order) : List Ob := []
def S_commitment_all_commitment_order_b1 (a0 : TApiBook) (iv1 : Nat) (_ : Unit) : Scr Tryz.prog R_commitment_all_commitment_order (Step (Unit) R_commitment_all_commitment_order) :=
.call (@F_commitment_order_ok a0 (iv1 : Int)) fun rv2 cv2 =>
.reg 4 [] [(3, hc cv2 [] true)] [.cl 0 cv2 [] 1 true] <|
.ite (!rv2) (
.ret [] (.ret false)) (
.ret [] (.cont ()))
def S_commitment_all_commitment_order (a0 : TApiBook) (a1 : Int) : Scr Tryz.prog R_commitment_all_commitment_order R_commitment_all_commitment_order :=
.guard [(a1).toNat < 2 ^ 63] <|
.range a1 ((a1).toNat) rfl (.why (.ev 0)) 9 [1, 2, 3, 8] (fun (_ : Unit) => []) (fun (_ : Unit) => []) () (S_commitment_all_commitment_order_b1 a0) (fun (_ : Unit) => 
.ret [] (decide (a1 ≤ 200))) id
def F_commitment_all_commitment_order (a0 : TApiBook) (a1 : Int) : Option R_commitment_all_commitment_order := (S_commitment_all_commitment_order a0 a1).den
set_option maxRecDepth 100000 in
theorem F_commitment_all_commitment_order_ok {a0 : TApiBook} {a1 : Int} (r : R_commitment_all_commitment_order) (h : F_commitment_all_commitment_order a0 a1 = some r) : CallOk Tryz.prog 83 [(AV.d (TApiBook.e a0)), (vi a1), (AV.fn 87 [])] [] (V_commitment_all_commitment_order r) (L_commitment_all_commitment_order r) := fOk (s := S_commitment_all_commitment_order a0 a1) Tryz.func83 rfl (by kernel_rfl) h
/-! 54 -/
abbrev R_commitment_Valid := Bool
def V_commitment_Valid (x : R_commitment_Valid) : AV := (vb x)
def L_commitment_Valid (_ : R_commitment_Valid) : List Ob := []
def S_commitment_Valid (a0 : TApiBook) : Scr Tryz.prog R_commitment_Valid R_commitment_Valid :=
.call (@F_commitment_all_commitment_reservation_ok a0 (a0.Reservations.length : Int)) fun rv1 cv1 =>
.calld [rv1 = true] default (@F_commitment_all_commitment_commitment_ok a0 (a0.Commitments.length : Int)) fun rv2 cv2 =>
.calld [(bif rv1 then rv2 else false) = true] default (@F_commitment_all_commitment_verification_ok a0 (a0.Verifications.length : Int)) fun rv3 cv3 =>
.calld [(bif (bif rv1 then rv2 else false) then rv3 else false) = true] default (@F_commitment_all_commitment_order_ok a0 (a0.Orders.length : Int)) fun rv4 cv4 =>
.reg 1 [] [(4, hc cv1 [] true), (10, hc cv2 [] true), (17, hc cv3 [] true), (24, hc cv4 [] true)] [.cl 6 cv1 [] 1 true, .clg 4 [rv1 = true] cv2 [] 1 true, .clg 2 [(bif rv1 then rv2 else false) = true] cv3 [] 1 true, .clg 0 [(bif (bif rv1 then rv2 else false) then rv3 else false) = true] cv4 [] 1 true] <|
.ret [] (bif (bif (bif rv1 then rv2 else false) then rv3 else false) then rv4 else false)
def F_commitment_Valid (a0 : TApiBook) : Option R_commitment_Valid := (S_commitment_Valid a0).den
set_option maxRecDepth 100000 in
theorem F_commitment_Valid_ok {a0 : TApiBook} (r : R_commitment_Valid) (h : F_commitment_Valid a0 = some r) : CallOk Tryz.prog 54 [(AV.d (TApiBook.e a0))] [] (V_commitment_Valid r) (L_commitment_Valid r) := fOk (s := S_commitment_Valid a0) Tryz.func54 rfl (by kernel_rfl) h
/-! 90 -/
abbrev R_rights_among := Bool
def V_rights_among (x : R_rights_among) : AV := (vb x)
def L_rights_among (_ : R_rights_among) : List Ob := []
def S_rights_among (a0 : Int) (a1 : Int) (a2 : Int) : Scr Tryz.prog R_rights_among R_rights_among :=
.ret [] (bif (decide (a0 ≥ a1)) then (decide (a0 ≤ a2)) else false)
def F_rights_among (a0 : Int) (a1 : Int) (a2 : Int) : Option R_rights_among := (S_rights_among a0 a1 a2).den
set_option maxRecDepth 100000 in
theorem F_rights_among_ok {a0 : Int} {a1 : Int} {a2 : Int} (r : R_rights_among) (h : F_rights_among a0 a1 a2 = some r) : CallOk Tryz.prog 90 [(vi a0), (vi a1), (vi a2)] [] (V_rights_among r) (L_rights_among r) := fOk (s := S_rights_among a0 a1 a2) Tryz.func90 rfl (by kernel_rfl) h
/-! 88 -/
abbrev R_rights_place := Bool
def V_rights_place (x : R_rights_place) : AV := (vb x)
def L_rights_place (_ : R_rights_place) : List Ob := []
def S_rights_place (a0 : List UInt8) (a1 : Int) : Scr Tryz.prog R_rights_place R_rights_place :=
.call (@F_classification_Parts_ok a0) fun rv1 cv1 =>
.calld [(decide ((rv1.length : Int) > 0)) = true] default (@F_rights_among_ok a1 0 99) fun rv2 cv2 =>
.reg 1 [] [(1, hc cv1 [] true), (6, hc cv2 [] true)] [.cl 2 cv1 [] 0 true, .clg 0 [(decide ((rv1.length : Int) > 0)) = true] cv2 [] 0 true] <|
.ret [] (bif (decide ((rv1.length : Int) > 0)) then rv2 else false)
def F_rights_place (a0 : List UInt8) (a1 : Int) : Option R_rights_place := (S_rights_place a0 a1).den
set_option maxRecDepth 100000 in
theorem F_rights_place_ok {a0 : List UInt8} {a1 : Int} (r : R_rights_place) (h : F_rights_place a0 a1 = some r) : CallOk Tryz.prog 88 [(AV.d (DV.str a0)), (vi a1)] [] (V_rights_place r) (L_rights_place r) := fOk (s := S_rights_place a0 a1) Tryz.func88 rfl (by kernel_rfl) h
/-! 89 -/
abbrev R_rights_total := Bool
def V_rights_total (x : R_rights_total) : AV := (vb x)
def L_rights_total (_ : R_rights_total) : List Ob := []
def S_rights_total (a0 : Int) : Scr Tryz.prog R_rights_total R_rights_total :=
.call (@F_rights_among_ok a0 0 1000000000000000) fun rv1 cv1 =>
.reg 1 [] [(1, hc cv1 [] true)] [.cl 0 cv1 [] 0 true] <|
.ret [] rv1
def F_rights_total (a0 : Int) : Option R_rights_total := (S_rights_total a0).den
set_option maxRecDepth 100000 in
theorem F_rights_total_ok {a0 : Int} (r : R_rights_total) (h : F_rights_total a0 = some r) : CallOk Tryz.prog 89 [(vi a0)] [] (V_rights_total r) (L_rights_total r) := fOk (s := S_rights_total a0) Tryz.func89 rfl (by kernel_rfl) h
/-! 55 -/
abbrev R_rights_Right := Bool
def V_rights_Right (x : R_rights_Right) : AV := (vb x)
def L_rights_Right (_ : R_rights_Right) : List Ob := []
def S_rights_Right (a0 : TApiRight) : Scr Tryz.prog R_rights_Right R_rights_Right :=
.call (@F_rights_place_ok a0.Code a0.Year) fun rv1 cv1 =>
.calld [rv1 = true] default (@F_rights_total_ok a0.Granted) fun rv2 cv2 =>
.calld [(bif rv1 then rv2 else false) = true] default (@F_rights_total_ok a0.Asked) fun rv3 cv3 =>
.calld [(bif (bif rv1 then rv2 else false) then rv3 else false) = true] default (@F_rights_among_ok a0.Returned 0 a0.Granted) fun rv4 cv4 =>
.reg 1 [] [(4, hc cv1 [] true), (8, hc cv2 [] true), (13, hc cv3 [] true), (20, hc cv4 [] true)] [.cl 6 cv1 [] 1 true, .clg 4 [rv1 = true] cv2 [] 1 true, .clg 2 [(bif rv1 then rv2 else false) = true] cv3 [] 1 true, .clg 0 [(bif (bif rv1 then rv2 else false) then rv3 else false) = true] cv4 [] 1 true] <|
.ret [] (bif (bif (bif rv1 then rv2 else false) then rv3 else false) then rv4 else false)
def F_rights_Right (a0 : TApiRight) : Option R_rights_Right := (S_rights_Right a0).den
set_option maxRecDepth 100000 in
theorem F_rights_Right_ok {a0 : TApiRight} (r : R_rights_Right) (h : F_rights_Right a0 = some r) : CallOk Tryz.prog 55 [(AV.d (TApiRight.e a0))] [] (V_rights_Right r) (L_rights_Right r) := fOk (s := S_rights_Right a0) Tryz.func55 rfl (by kernel_rfl) h
/-! 141 -/
abbrev R_cmp_isNaN_string := Bool
def V_cmp_isNaN_string (x : R_cmp_isNaN_string) : AV := (vb x)
def L_cmp_isNaN_string (_ : R_cmp_isNaN_string) : List Ob := []
def S_cmp_isNaN_string (a0 : List UInt8) : Scr Tryz.prog R_cmp_isNaN_string R_cmp_isNaN_string :=
.ret [] (!(a0 == a0))
def F_cmp_isNaN_string (a0 : List UInt8) : Option R_cmp_isNaN_string := (S_cmp_isNaN_string a0).den
set_option maxRecDepth 100000 in
theorem F_cmp_isNaN_string_ok {a0 : List UInt8} (r : R_cmp_isNaN_string) (h : F_cmp_isNaN_string a0 = some r) : CallOk Tryz.prog 141 [(AV.d (DV.str a0))] [] (V_cmp_isNaN_string r) (L_cmp_isNaN_string r) := fOk (s := S_cmp_isNaN_string a0) Tryz.func141 rfl (by kernel_rfl) h
/-! 121 -/
abbrev R_cmp_Compare_string := Int
def V_cmp_Compare_string (x : R_cmp_Compare_string) : AV := (vi x)
def L_cmp_Compare_string (_ : R_cmp_Compare_string) : List Ob := []
def S_cmp_Compare_string (a0 : List UInt8) (a1 : List UInt8) : Scr Tryz.prog R_cmp_Compare_string R_cmp_Compare_string :=
.call (@F_cmp_isNaN_string_ok a0) fun rv1 cv1 =>
.reg 1 [] [(1, hc cv1 [] true)] [.cl 0 cv1 [] 0 true] <|
.call (@F_cmp_isNaN_string_ok a1) fun rv2 cv2 =>
.reg 2 [] [(1, hc cv2 [] true)] [.cl 0 cv2 [] 0 true] <|
.ite rv1 (
.ite rv2 (
.ret [] 0) (
.ret [] (-1))) (
.ite rv2 (
.ret [] 1) (
.ite (Op.bytesLess a0 a1) (
.ret [] (-1)) (
.ite (!(Op.bytesLess a0 a1 || a0 == a1)) (
.ret [] 1) (
.ret [] 0))))
def F_cmp_Compare_string (a0 : List UInt8) (a1 : List UInt8) : Option R_cmp_Compare_string := (S_cmp_Compare_string a0 a1).den
set_option maxRecDepth 100000 in
theorem F_cmp_Compare_string_ok {a0 : List UInt8} {a1 : List UInt8} (r : R_cmp_Compare_string) (h : F_cmp_Compare_string a0 a1 = some r) : CallOk Tryz.prog 121 [(AV.d (DV.str a0)), (AV.d (DV.str a1))] [] (V_cmp_Compare_string r) (L_cmp_Compare_string r) := fOk (s := S_cmp_Compare_string a0 a1) Tryz.func121 rfl (by kernel_rfl) h
end
end Go.Proofs.YtdenfihabhhnhaaGreatDoor
/- What the functions compute, and that their calls return it. No condition. -/
namespace Go.Proofs.YtdenfihabhhnhaaGreatDoor
open Go Go.TA
noncomputable section
/-! 98 -/
abbrev R_cmp_isNaN_int := Bool
def V_cmp_isNaN_int (x : R_cmp_isNaN_int) : AV := (vb x)
def L_cmp_isNaN_int (_ : R_cmp_isNaN_int) : List Ob := []
def S_cmp_isNaN_int (a0 : Int) : Scr Tryz.prog R_cmp_isNaN_int R_cmp_isNaN_int :=
.ret [] (a0 != a0)
def F_cmp_isNaN_int (a0 : Int) : Option R_cmp_isNaN_int := (S_cmp_isNaN_int a0).den
set_option maxRecDepth 100000 in
theorem F_cmp_isNaN_int_ok {a0 : Int} (r : R_cmp_isNaN_int) (h : F_cmp_isNaN_int a0 = some r) : CallOk Tryz.prog 98 [(vi a0)] [] (V_cmp_isNaN_int r) (L_cmp_isNaN_int r) := fOk (s := S_cmp_isNaN_int a0) Tryz.func98 rfl (by kernel_rfl) h
/-! 61 -/
abbrev R_cmp_Compare_int := Int
def V_cmp_Compare_int (x : R_cmp_Compare_int) : AV := (vi x)
def L_cmp_Compare_int (_ : R_cmp_Compare_int) : List Ob := []
def S_cmp_Compare_int (a0 : Int) (a1 : Int) : Scr Tryz.prog R_cmp_Compare_int R_cmp_Compare_int :=
.call (@F_cmp_isNaN_int_ok a0) fun rv1 cv1 =>
.reg 1 [] [(1, hc cv1 [] true)] [.cl 0 cv1 [] 0 true] <|
.call (@F_cmp_isNaN_int_ok a1) fun rv2 cv2 =>
.reg 2 [] [(1, hc cv2 [] true)] [.cl 0 cv2 [] 0 true] <|
.ite rv1 (
.ite rv2 (
.ret [] 0) (
.ret [] (-1))) (
.ite rv2 (
.ret [] 1) (
.ite (decide (a0 < a1)) (
.ret [] (-1)) (
.ite (decide (a0 > a1)) (
.ret [] 1) (
.ret [] 0))))
def F_cmp_Compare_int (a0 : Int) (a1 : Int) : Option R_cmp_Compare_int := (S_cmp_Compare_int a0 a1).den
set_option maxRecDepth 100000 in
theorem F_cmp_Compare_int_ok {a0 : Int} {a1 : Int} (r : R_cmp_Compare_int) (h : F_cmp_Compare_int a0 a1 = some r) : CallOk Tryz.prog 61 [(vi a0), (vi a1)] [] (V_cmp_Compare_int r) (L_cmp_Compare_int r) := fOk (s := S_cmp_Compare_int a0 a1) Tryz.func61 rfl (by kernel_rfl) h
/-! 122 -/
abbrev R_slices_Compare_int := Int
def V_slices_Compare_int (x : R_slices_Compare_int) : AV := (vi x)
def L_slices_Compare_int (_ : R_slices_Compare_int) : List Ob := []
def S_slices_Compare_int_b1 (a0 : (List Int)) (a1 : (List Int)) (iv1 : Nat) (_ : Unit) : Scr Tryz.prog R_slices_Compare_int (Step (Unit) R_slices_Compare_int) :=
.reg 3 [] [] [.pf (nn iv1), .ev 0] <|
.ite (decide ((iv1 : Int) ≥ (a1.length : Int))) (
.ret [] (.ret 1)) (
.guard [iv1 < a1.length] <|
.reg 6 [] [] [.pf (nn iv1), .ev 0] <|
.call (@F_cmp_Compare_int_ok (a0.getD iv1 default) (a1.getD iv1 default)) fun rv2 cv2 =>
.reg 7 [] [(2, hc cv2 [] true)] [.cl 0 cv2 [] 0 true] <|
.ite (rv2 != 0) (
.ret [] (.ret rv2)) (
.ret [] (.cont ())))
def S_slices_Compare_int (a0 : (List Int)) (a1 : (List Int)) : Scr Tryz.prog R_slices_Compare_int R_slices_Compare_int :=
.range (a0.length : Int) a0.length rfl (.slot 0) 11 [0, 1, 9, 10] (fun (_ : Unit) => []) (fun (_ : Unit) => []) () (S_slices_Compare_int_b1 a0 a1) (fun (_ : Unit) => 
.ite (decide ((a0.length : Int) < (a1.length : Int))) (
.ret [] (-1)) (
.ret [] 0)) id
def F_slices_Compare_int (a0 : (List Int)) (a1 : (List Int)) : Option R_slices_Compare_int := (S_slices_Compare_int a0 a1).den
set_option maxRecDepth 100000 in
theorem F_slices_Compare_int_ok {a0 : (List Int)} {a1 : (List Int)} (r : R_slices_Compare_int) (h : F_slices_Compare_int a0 a1 = some r) : CallOk Tryz.prog 122 [(vl a0), (vl a1)] [] (V_slices_Compare_int r) (L_slices_Compare_int r) := fOk (s := S_slices_Compare_int a0 a1) Tryz.func122 rfl (by kernel_rfl) h
/-! 92 -/
abbrev R_classification_Compare := Int
def V_classification_Compare (x : R_classification_Compare) : AV := (vi x)
def L_classification_Compare (_ : R_classification_Compare) : List Ob := []
def S_classification_Compare (a0 : List UInt8) (a1 : List UInt8) : Scr Tryz.prog R_classification_Compare R_classification_Compare :=
.call (@F_classification_Parts_ok a0) fun rv1 cv1 =>
.call (@F_classification_Parts_ok a1) fun rv2 cv2 =>
.reg 1 [] [(1, hc cv1 [] true), (3, hc cv2 [] true)] [.cl 1 cv1 [] 0 true, .cl 0 cv2 [] 0 true] <|
.ite (bif ((rv1.length : Int) == 0) then ((rv2.length : Int) == 0) else false) (
.call (@F_cmp_Compare_string_ok a0 a1) fun rv3 cv3 =>
.reg 3 [] [(2, hc cv3 [] true)] [.cl 0 cv3 [] 0 true] <|
.ret [] rv3) (
.call (@F_slices_Compare_int_ok rv1 rv2) fun rv4 cv4 =>
.reg 4 [] [(2, hc cv4 [] true)] [.cl 0 cv4 [] 0 true] <|
.ret [] rv4)
def F_classification_Compare (a0 : List UInt8) (a1 : List UInt8) : Option R_classification_Compare := (S_classification_Compare a0 a1).den
set_option maxRecDepth 100000 in
theorem F_classification_Compare_ok {a0 : List UInt8} {a1 : List UInt8} (r : R_classification_Compare) (h : F_classification_Compare a0 a1 = some r) : CallOk Tryz.prog 92 [(AV.d (DV.str a0)), (AV.d (DV.str a1))] [] (V_classification_Compare r) (L_classification_Compare r) := fOk (s := S_classification_Compare a0 a1) Tryz.func92 rfl (by kernel_rfl) h
/-! 91 -/
abbrev R_cmp_Or_int := Int
def V_cmp_Or_int (x : R_cmp_Or_int) : AV := (vi x)
def L_cmp_Or_int (_ : R_cmp_Or_int) : List Ob := []
def S_cmp_Or_int_b1 (a0 : (List Int)) (iv1 : Nat) (_ : Unit) : Scr Tryz.prog R_cmp_Or_int (Step (Unit) R_cmp_Or_int) :=
.reg 4 [] [] [.pf (nn iv1), .ev 0] <|
.ite ((a0.getD iv1 default) != 0) (
.ret [] (.ret (a0.getD iv1 default))) (
.ret [] (.cont ()))
def S_cmp_Or_int (a0 : (List Int)) : Scr Tryz.prog R_cmp_Or_int R_cmp_Or_int :=
.range (a0.length : Int) a0.length rfl (.slot 6) 8 [3, 6, 7] (fun (_ : Unit) => []) (fun (_ : Unit) => []) () (S_cmp_Or_int_b1 a0) (fun (_ : Unit) => 
.ret [] 0) id
def F_cmp_Or_int (a0 : (List Int)) : Option R_cmp_Or_int := (S_cmp_Or_int a0).den
set_option maxRecDepth 100000 in
theorem F_cmp_Or_int_ok {a0 : (List Int)} (r : R_cmp_Or_int) (h : F_cmp_Or_int a0 = some r) : CallOk Tryz.prog 91 [(vl a0)] [] (V_cmp_Or_int r) (L_cmp_Or_int r) := fOk (s := S_cmp_Or_int a0) Tryz.func91 rfl (by kernel_rfl) h
/-! 56 -/
abbrev R_office_compare := Int
def V_office_compare (x : R_office_compare) : AV := (vi x)
def L_office_compare (_ : R_office_compare) : List Ob := []
def S_office_compare (a0 : TApiRight) (a1 : TApiRight) : Scr Tryz.prog R_office_compare R_office_compare :=
.call (@F_classification_Compare_ok a0.Code a1.Code) fun rv1 cv1 =>
.call (@F_cmp_Compare_int_ok a0.Year a1.Year) fun rv2 cv2 =>
.call (@F_cmp_Or_int_ok ([rv1, rv2] : List Int)) fun rv3 cv3 =>
.reg 1 [] [(4, hc cv1 [] true), (9, hc cv2 [] true), (10, hv (vl ([rv1, rv2] : List Int))), (11, hc cv3 [] true)] [.cl 2 cv1 [] 2 true, .cl 1 cv2 [] 2 true, .pf (leV_lit (DV.i .i64) ([rv1, rv2] : List Int)), .cl 0 cv3 [] 2 true] <|
.ret [] rv3
def F_office_compare (a0 : TApiRight) (a1 : TApiRight) : Option R_office_compare := (S_office_compare a0 a1).den
set_option maxRecDepth 100000 in
theorem F_office_compare_ok {a0 : TApiRight} {a1 : TApiRight} (r : R_office_compare) (h : F_office_compare a0 a1 = some r) : CallOk Tryz.prog 56 [(AV.d (TApiRight.e a0)), (AV.d (TApiRight.e a1))] [] (V_office_compare r) (L_office_compare r) := fOk (s := S_office_compare a0 a1) Tryz.func56 rfl (by kernel_rfl) h
/-! 124 -/
abbrev R_office_find_1 := Bool
def V_office_find_1 (x : R_office_find_1) : AV := (vb x)
def L_office_find_1 (p0 : List UInt8) (p1 : Int) (_ : R_office_find_1) : List Ob := [(bx (DV.str p0)), (Ob.box (vi p1))]
def S_office_find_1 (a0 : TApiRight) (p0 : List UInt8) (p1 : Int) : Scr Tryz.prog R_office_find_1 R_office_find_1 :=
.ret [] (bif (a0.Code == p0) then (a0.Year == p1) else false)
def F_office_find_1 (a0 : TApiRight) (p0 : List UInt8) (p1 : Int) : Option R_office_find_1 := (S_office_find_1 a0 p0 p1).den
set_option maxRecDepth 100000 in
theorem F_office_find_1_ok {a0 : TApiRight} {p0 : List UInt8} {p1 : Int} (r : R_office_find_1) (h : F_office_find_1 a0 p0 p1 = some r) : CallOk Tryz.prog 124 [(AV.d (TApiRight.e a0)), (vp 0), (vp 1)] [(bx (DV.str p0)), (Ob.box (vi p1))] (V_office_find_1 r) (L_office_find_1 p0 p1 r) := fOk (s := S_office_find_1 a0 p0 p1) Tryz.func124 rfl (by kernel_rfl) h
/-! 123 -/
abbrev R_slices_IndexFunc_Right_office_find_1 := Int
def V_slices_IndexFunc_Right_office_find_1 (x : R_slices_IndexFunc_Right_office_find_1) : AV := (vi x)
def L_slices_IndexFunc_Right_office_find_1 (p0 : List UInt8) (p1 : Int) (_ : R_slices_IndexFunc_Right_office_find_1) : List Ob := [(bx (DV.str p0)), (Ob.box (vi p1))]
def S_slices_IndexFunc_Right_office_find_1_b1 (a0 : (List TApiRight)) (p0 : List UInt8) (p1 : Int) (iv1 : Nat) (_ : Unit) : Scr Tryz.prog R_slices_IndexFunc_Right_office_find_1 (Step (Unit) R_slices_IndexFunc_Right_office_find_1) :=
.call (@F_office_find_1_ok (a0.getD iv1 default) p0 p1) fun rv2 cv2 =>
.reg 4 [] [(5, hc cv2 [0, 1] true)] [.pf (nn iv1), .ev 1, .cl 0 cv2 [0, 1] 2 true] <|
.ite rv2 (
.ret [] (.ret (iv1 : Int))) (
.ret [] (.cont ()))
def S_slices_IndexFunc_Right_office_find_1 (a0 : (List TApiRight)) (p0 : List UInt8) (p1 : Int) : Scr Tryz.prog R_slices_IndexFunc_Right_office_find_1 R_slices_IndexFunc_Right_office_find_1 :=
.range (a0.length : Int) a0.length rfl (.slot 0) 8 [0, 1, 7] (fun (_ : Unit) => []) (fun (_ : Unit) => []) () (S_slices_IndexFunc_Right_office_find_1_b1 a0 p0 p1) (fun (_ : Unit) => 
.ret [] (-1)) id
def F_slices_IndexFunc_Right_office_find_1 (a0 : (List TApiRight)) (p0 : List UInt8) (p1 : Int) : Option R_slices_IndexFunc_Right_office_find_1 := (S_slices_IndexFunc_Right_office_find_1 a0 p0 p1).den
set_option maxRecDepth 100000 in
theorem F_slices_IndexFunc_Right_office_find_1_ok {a0 : (List TApiRight)} {p0 : List UInt8} {p1 : Int} (r : R_slices_IndexFunc_Right_office_find_1) (h : F_slices_IndexFunc_Right_office_find_1 a0 p0 p1 = some r) : CallOk Tryz.prog 123 [(AV.d (eL TApiRight.e a0)), (AV.fn 124 [(vp 0), (vp 1)])] [(bx (DV.str p0)), (Ob.box (vi p1))] (V_slices_IndexFunc_Right_office_find_1 r) (L_slices_IndexFunc_Right_office_find_1 p0 p1 r) := fOk (s := S_slices_IndexFunc_Right_office_find_1 a0 p0 p1) Tryz.func123 rfl (by kernel_rfl) h
/-! 93 -/
abbrev R_office_find := Int
def V_office_find (x : R_office_find) : AV := (vi x)
def L_office_find (_ : R_office_find) : List Ob := []
def S_office_find (a0 : TApiOffice) (a1 : List UInt8) (a2 : Int) : Scr Tryz.prog R_office_find R_office_find :=
.call (@F_slices_IndexFunc_Right_office_find_1_ok a0.Rights a1 a2) fun rv1 cv1 =>
.reg 1 [] [(3, hc cv1 [1, 2] true)] [.cl 0 cv1 [1, 2] 3 true] <|
.ret [] rv1
def F_office_find (a0 : TApiOffice) (a1 : List UInt8) (a2 : Int) : Option R_office_find := (S_office_find a0 a1 a2).den
set_option maxRecDepth 100000 in
theorem F_office_find_ok {a0 : TApiOffice} {a1 : List UInt8} {a2 : Int} (r : R_office_find) (h : F_office_find a0 a1 a2 = some r) : CallOk Tryz.prog 93 [(AV.d (TApiOffice.e a0)), (AV.d (DV.str a1)), (vi a2)] [] (V_office_find r) (L_office_find r) := fOk (s := S_office_find a0 a1 a2) Tryz.func93 rfl (by kernel_rfl) h
/-! 57 -/
abbrev R_office_has := Bool
def V_office_has (x : R_office_has) : AV := (vb x)
def L_office_has (_ : R_office_has) : List Ob := []
def S_office_has (a0 : TApiOffice) (a1 : List UInt8) (a2 : Int) : Scr Tryz.prog R_office_has R_office_has :=
.call (@F_office_find_ok a0 a1 a2) fun rv1 cv1 =>
.reg 1 [] [(3, hc cv1 [] true)] [.cl 0 cv1 [] 1 true] <|
.ret [] (decide (rv1 ≥ 0))
def F_office_has (a0 : TApiOffice) (a1 : List UInt8) (a2 : Int) : Option R_office_has := (S_office_has a0 a1 a2).den
set_option maxRecDepth 100000 in
theorem F_office_has_ok {a0 : TApiOffice} {a1 : List UInt8} {a2 : Int} (r : R_office_has) (h : F_office_has a0 a1 a2 = some r) : CallOk Tryz.prog 57 [(AV.d (TApiOffice.e a0)), (AV.d (DV.str a1)), (vi a2)] [] (V_office_has r) (L_office_has r) := fOk (s := S_office_has a0 a1 a2) Tryz.func57 rfl (by kernel_rfl) h
/-! 94 -/
abbrev R_office_Right := TApiRight
def V_office_Right (x : R_office_Right) : AV := (AV.d (TApiRight.e x))
def L_office_Right (_ : R_office_Right) : List Ob := []
def S_office_Right (a0 : TApiOffice) (a1 : List UInt8) (a2 : Int) : Scr Tryz.prog R_office_Right R_office_Right :=
.call (@F_office_find_ok a0 a1 a2) fun rv1 cv1 =>
.reg 1 [] [(3, hc cv1 [] true)] [.cl 0 cv1 [] 2 true] <|
.ite (decide (rv1 ≥ 0)) (
.guard [(0 : Int) ≤ rv1, (rv1).toNat < a0.Rights.length] <|
.reg 3 [] [] [.ev 0, .ev 1] <|
.ret [] (a0.Rights.getD ((rv1).toNat) default)) (
.ret [] (⟨a1, a2, 0, 0, 0⟩ : TApiRight))
def F_office_Right (a0 : TApiOffice) (a1 : List UInt8) (a2 : Int) : Option R_office_Right := (S_office_Right a0 a1 a2).den
set_option maxRecDepth 100000 in
theorem F_office_Right_ok {a0 : TApiOffice} {a1 : List UInt8} {a2 : Int} (r : R_office_Right) (h : F_office_Right a0 a1 a2 = some r) : CallOk Tryz.prog 94 [(AV.d (TApiOffice.e a0)), (AV.d (DV.str a1)), (vi a2)] [] (V_office_Right r) (L_office_Right r) := fOk (s := S_office_Right a0 a1 a2) Tryz.func94 rfl (by kernel_rfl) h
/-! 95 -/
abbrev R_commitment_Used := Int
def V_commitment_Used (x : R_commitment_Used) : AV := (vi x)
def L_commitment_Used (_ : R_commitment_Used) : List Ob := []
def S_commitment_Used_b1 (a0 : TApiBook) (a1 : List UInt8) (a2 : Int) (iv1 : Nat) (sv2 : Int) : Scr Tryz.prog R_commitment_Used (Step (Int) R_commitment_Used) :=
.reg 4 [] [] [.pf (nn iv1), .ev 0] <|
.ite (bif (((a0.Reservations.getD iv1 default).Code) == a1) then (((a0.Reservations.getD iv1 default).Year) == a2) else false) (
.call (@F_commitment_committed_ok a0 ((a0.Reservations.getD iv1 default).Number)) fun rv3 cv3 =>
.reg 6 [] [(3, hc cv3 [] true)] [.cl 0 cv3 [] 2 true] <|
.ret [] (.cont (IntKind.i64.wrap (sv2 + (IntKind.i64.wrap ((IntKind.i64.wrap (((a0.Reservations.getD iv1 default).Amount) - ((a0.Reservations.getD iv1 default).Released))) - rv3.2)))))) (
.ret [] (.cont sv2))
def S_commitment_Used (a0 : TApiBook) (a1 : List UInt8) (a2 : Int) : Scr Tryz.prog R_commitment_Used R_commitment_Used :=
.range (a0.Reservations.length : Int) a0.Reservations.length rfl (.slot 13) 15 [1, 2, 3, 13, 14] (fun (sv2 : Int) => [(7, (vi sv2))]) (fun (_ : Int) => []) 0 (S_commitment_Used_b1 a0 a1 a2) (fun (sv2 : Int) => 
.ret [] sv2) id
def F_commitment_Used (a0 : TApiBook) (a1 : List UInt8) (a2 : Int) : Option R_commitment_Used := (S_commitment_Used a0 a1 a2).den
set_option maxRecDepth 100000 in
theorem F_commitment_Used_ok {a0 : TApiBook} {a1 : List UInt8} {a2 : Int} (r : R_commitment_Used) (h : F_commitment_Used a0 a1 a2 = some r) : CallOk Tryz.prog 95 [(AV.d (TApiBook.e a0)), (AV.d (DV.str a1)), (vi a2)] [] (V_commitment_Used r) (L_commitment_Used r) := fOk (s := S_commitment_Used a0 a1 a2) Tryz.func95 rfl (by kernel_rfl) h
/-! 58 -/
abbrev R_office_Unused := Int
def V_office_Unused (x : R_office_Unused) : AV := (vi x)
def L_office_Unused (_ : R_office_Unused) : List Ob := []
def S_office_Unused (a0 : TApiOffice) (a1 : List UInt8) (a2 : Int) : Scr Tryz.prog R_office_Unused R_office_Unused :=
.call (@F_office_Right_ok a0 a1 a2) fun rv1 cv1 =>
.reg 1 [] [(3, hc cv1 [] true)] [.cl 0 cv1 [] 1 true] <|
.call (@F_commitment_Used_ok a0.Book a1 a2) fun rv2 cv2 =>
.reg 2 [] [(9, hc cv2 [] true)] [.cl 0 cv2 [] 2 true] <|
.ret [] (IntKind.i64.wrap ((IntKind.i64.wrap (rv1.Granted - rv1.Returned)) - rv2))
def F_office_Unused (a0 : TApiOffice) (a1 : List UInt8) (a2 : Int) : Option R_office_Unused := (S_office_Unused a0 a1 a2).den
set_option maxRecDepth 100000 in
theorem F_office_Unused_ok {a0 : TApiOffice} {a1 : List UInt8} {a2 : Int} (r : R_office_Unused) (h : F_office_Unused a0 a1 a2 = some r) : CallOk Tryz.prog 58 [(AV.d (TApiOffice.e a0)), (AV.d (DV.str a1)), (vi a2)] [] (V_office_Unused r) (L_office_Unused r) := fOk (s := S_office_Unused a0 a1 a2) Tryz.func58 rfl (by kernel_rfl) h
/-! 22 -/
abbrev R_office_Valid := Bool
def V_office_Valid (x : R_office_Valid) : AV := (vb x)
def L_office_Valid (_ : R_office_Valid) : List Ob := []
def S_office_Valid_b1 (a0 : TApiOffice) (iv1 : Nat) (_ : Unit) : Scr Tryz.prog R_office_Valid (Step (Unit) R_office_Valid) :=
.reg 5 [] [] [.pf (nn iv1), .ev 0] <|
.call (@F_rights_Right_ok (a0.Rights.getD iv1 default)) fun rv2 cv2 =>
.calld [(decide ((iv1 : Int) > 0)) = true, (!rv2) = false] default (@F_office_compare_ok (a0.Rights.getD (((IntKind.i64.wrap ((iv1 : Int) - 1))).toNat) default) (a0.Rights.getD iv1 default)) fun rv3 cv3 =>
.guard [AllP [(decide ((iv1 : Int) > 0)) = true, (!rv2) = false] → ((0 : Int) ≤ (IntKind.i64.wrap ((iv1 : Int) - 1))), AllP [(decide ((iv1 : Int) > 0)) = true, (!rv2) = false] → (((IntKind.i64.wrap ((iv1 : Int) - 1))).toNat < a0.Rights.length)] <|
.reg 6 [] [(1, hc cv2 [] true), (14, hc cv3 [] true)] [.cl 4 cv2 [] 2 true, .ev 0, .ev 1, .clg 2 [(decide ((iv1 : Int) > 0)) = true, (!rv2) = false] cv3 [] 2 true] <|
.ite (bif (!rv2) then true else (bif (decide ((iv1 : Int) > 0)) then (decide (rv3 ≥ 0)) else false)) (
.ret [] (.ret false)) (
.ret [] (.cont ()))
def S_office_Valid_b2 (a0 : TApiOffice) (iv4 : Nat) (_ : Unit) : Scr Tryz.prog R_office_Valid (Step (Unit) R_office_Valid) :=
.reg 11 [] [] [.pf (nn iv4), .ev 0] <|
.call (@F_office_has_ok a0 ((a0.Book.Reservations.getD iv4 default).Code) ((a0.Book.Reservations.getD iv4 default).Year)) fun rv5 cv5 =>
.calld [(!rv5) = false] default (@F_office_Unused_ok a0 ((a0.Book.Reservations.getD iv4 default).Code) ((a0.Book.Reservations.getD iv4 default).Year)) fun rv6 cv6 =>
.reg 12 [] [(5, hc cv5 [] true), (13, hc cv6 [] true)] [.cl 2 cv5 [] 2 true, .clg 0 [(!rv5) = false] cv6 [] 2 true] <|
.ite (bif (!rv5) then true else (decide (rv6 < 0))) (
.ret [] (.ret false)) (
.ret [] (.cont ()))
def S_office_Valid (a0 : TApiOffice) : Scr Tryz.prog R_office_Valid R_office_Valid :=
.calld [(bif (bif (decide (a0.Number < 1)) then true else (decide (a0.Number > 6))) then true else (decide ((a0.Rights.length : Int) > 60))) = false] default (@F_commitment_Valid_ok a0.Book) fun rv7 cv7 =>
.reg 1 [] [(17, hc cv7 [] true)] [.clg 0 [(bif (bif (decide (a0.Number < 1)) then true else (decide (a0.Number > 6))) then true else (decide ((a0.Rights.length : Int) > 60))) = false] cv7 [] 1 true] <|
.ite (bif (bif (bif (decide (a0.Number < 1)) then true else (decide (a0.Number > 6))) then true else (decide ((a0.Rights.length : Int) > 60))) then true else (!rv7)) (
.ret [] false) (
.range (a0.Rights.length : Int) a0.Rights.length rfl (.slot 28) 30 [1, 28, 29] (fun (_ : Unit) => []) (fun (_ : Unit) => []) () (S_office_Valid_b1 a0) (fun (_ : Unit) => 
.range (a0.Book.Reservations.length : Int) a0.Book.Reservations.length rfl (.slot 56) 58 [1, 56, 57] (fun (_ : Unit) => []) (fun (_ : Unit) => []) () (S_office_Valid_b2 a0) (fun (_ : Unit) => 
.ret [] true) id) id)
def F_office_Valid (a0 : TApiOffice) : Option R_office_Valid := (S_office_Valid a0).den
set_option maxRecDepth 100000 in
theorem F_office_Valid_ok {a0 : TApiOffice} (r : R_office_Valid) (h : F_office_Valid a0 = some r) : CallOk Tryz.prog 22 [(AV.d (TApiOffice.e a0))] [] (V_office_Valid r) (L_office_Valid r) := fOk (s := S_office_Valid a0) Tryz.func22 rfl (by kernel_rfl) h
/-! 23 -/
abbrev R_warrant_among := Bool
def V_warrant_among (x : R_warrant_among) : AV := (vb x)
def L_warrant_among (_ : R_warrant_among) : List Ob := []
def S_warrant_among (a0 : Int) (a1 : Int) (a2 : Int) : Scr Tryz.prog R_warrant_among R_warrant_among :=
.ret [] (bif (decide (a0 ≥ a1)) then (decide (a0 ≤ a2)) else false)
def F_warrant_among (a0 : Int) (a1 : Int) (a2 : Int) : Option R_warrant_among := (S_warrant_among a0 a1 a2).den
set_option maxRecDepth 100000 in
theorem F_warrant_among_ok {a0 : Int} {a1 : Int} {a2 : Int} (r : R_warrant_among) (h : F_warrant_among a0 a1 a2 = some r) : CallOk Tryz.prog 23 [(vi a0), (vi a1), (vi a2)] [] (V_warrant_among r) (L_warrant_among r) := fOk (s := S_warrant_among a0 a1 a2) Tryz.func23 rfl (by kernel_rfl) h
/-! 24 -/
abbrev R_warrant_number := Bool
def V_warrant_number (x : R_warrant_number) : AV := (vb x)
def L_warrant_number (_ : R_warrant_number) : List Ob := []
def S_warrant_number (a0 : Int) : Scr Tryz.prog R_warrant_number R_warrant_number :=
.call (@F_warrant_among_ok a0 1 1000000) fun rv1 cv1 =>
.reg 1 [] [(1, hc cv1 [] true)] [.cl 0 cv1 [] 0 true] <|
.ret [] rv1
def F_warrant_number (a0 : Int) : Option R_warrant_number := (S_warrant_number a0).den
set_option maxRecDepth 100000 in
theorem F_warrant_number_ok {a0 : Int} (r : R_warrant_number) (h : F_warrant_number a0 = some r) : CallOk Tryz.prog 24 [(vi a0)] [] (V_warrant_number r) (L_warrant_number r) := fOk (s := S_warrant_number a0) Tryz.func24 rfl (by kernel_rfl) h
/-! 7 -/
abbrev R_warrant_Make := TApiWarrant × Int
def V_warrant_Make (x : R_warrant_Make) : AV := (AV.tup [(AV.d (TApiWarrant.e x.1)), (vi x.2)])
def L_warrant_Make (_ : R_warrant_Make) : List Ob := []
def S_warrant_Make (a0 : TApiOffice) (a1 : Int) (a2 : Int) : Scr Tryz.prog R_warrant_Make R_warrant_Make :=
.call (@F_office_Valid_ok a0) fun rv1 cv1 =>
.reg 1 [] [(1, hc cv1 [] true)] [.cl 0 cv1 [] 2 true] <|
.ite (!rv1) (
.ret [] ((⟨0, 0, [], 0, 0, 0, 0, 0, 0, 0, 0, 0, 0, 0⟩ : TApiWarrant), 1)) (
.call (@F_warrant_among_ok a1 1 (a0.Book.Orders.length : Int)) fun rv2 cv2 =>
.reg 3 [] [(5, hc cv2 [] true)] [.cl 0 cv2 [] 2 true] <|
.ite (!rv2) (
.ret [] ((⟨0, 0, [], 0, 0, 0, 0, 0, 0, 0, 0, 0, 0, 0⟩ : TApiWarrant), 6)) (
.guard [(0 : Int) ≤ (IntKind.i64.wrap (a1 - 1)), ((IntKind.i64.wrap (a1 - 1))).toNat < a0.Book.Orders.length] <|
.reg 5 [] [] [.ev 0, .ev 1] <|
.ite ((a0.Book.Orders.getD (((IntKind.i64.wrap (a1 - 1))).toNat) default).Back) (
.ret [] ((⟨0, 0, [], 0, 0, 0, 0, 0, 0, 0, 0, 0, 0, 0⟩ : TApiWarrant), 9)) (
.call (@F_warrant_number_ok a2) fun rv3 cv3 =>
.reg 7 [] [(1, hc cv3 [] true)] [.cl 0 cv3 [] 2 true] <|
.ite (!rv3) (
.ret [] ((⟨0, 0, [], 0, 0, 0, 0, 0, 0, 0, 0, 0, 0, 0⟩ : TApiWarrant), 2)) (
.reg 9 [] [] [.ev 3, .ev 4] <|
.guard [(0 : Int) ≤ (IntKind.i64.wrap (((a0.Book.Orders.getD (((IntKind.i64.wrap (a1 - 1))).toNat) default).Verification) - 1)), ((IntKind.i64.wrap (((a0.Book.Orders.getD (((IntKind.i64.wrap (a1 - 1))).toNat) default).Verification) - 1))).toNat < a0.Book.Verifications.length] <|
.reg 10 [] [] [.ev 0, .ev 1] <|
.guard [(0 : Int) ≤ (IntKind.i64.wrap (((a0.Book.Verifications.getD (((IntKind.i64.wrap (((a0.Book.Orders.getD (((IntKind.i64.wrap (a1 - 1))).toNat) default).Verification) - 1))).toNat) default).Commitment) - 1)), ((IntKind.i64.wrap (((a0.Book.Verifications.getD (((IntKind.i64.wrap (((a0.Book.Orders.getD (((IntKind.i64.wrap (a1 - 1))).toNat) default).Verification) - 1))).toNat) default).Commitment) - 1))).toNat < a0.Book.Commitments.length] <|
.reg 11 [] [] [.ev 0, .ev 1] <|
.guard [(0 : Int) ≤ (IntKind.i64.wrap (((a0.Book.Commitments.getD (((IntKind.i64.wrap (((a0.Book.Verifications.getD (((IntKind.i64.wrap (((a0.Book.Orders.getD (((IntKind.i64.wrap (a1 - 1))).toNat) default).Verification) - 1))).toNat) default).Commitment) - 1))).toNat) default).Reservation) - 1)), ((IntKind.i64.wrap (((a0.Book.Commitments.getD (((IntKind.i64.wrap (((a0.Book.Verifications.getD (((IntKind.i64.wrap (((a0.Book.Orders.getD (((IntKind.i64.wrap (a1 - 1))).toNat) default).Verification) - 1))).toNat) default).Commitment) - 1))).toNat) default).Reservation) - 1))).toNat < a0.Book.Reservations.length] <|
.reg 12 [] [] [.ev 0, .ev 1] <|
.ret [] ((⟨a2, a0.Number, (a0.Book.Reservations.getD (((IntKind.i64.wrap (((a0.Book.Commitments.getD (((IntKind.i64.wrap (((a0.Book.Verifications.getD (((IntKind.i64.wrap (((a0.Book.Orders.getD (((IntKind.i64.wrap (a1 - 1))).toNat) default).Verification) - 1))).toNat) default).Commitment) - 1))).toNat) default).Reservation) - 1))).toNat) default).Code, (a0.Book.Reservations.getD (((IntKind.i64.wrap (((a0.Book.Commitments.getD (((IntKind.i64.wrap (((a0.Book.Verifications.getD (((IntKind.i64.wrap (((a0.Book.Orders.getD (((IntKind.i64.wrap (a1 - 1))).toNat) default).Verification) - 1))).toNat) default).Commitment) - 1))).toNat) default).Reservation) - 1))).toNat) default).Year, (a0.Book.Verifications.getD (((IntKind.i64.wrap (((a0.Book.Orders.getD (((IntKind.i64.wrap (a1 - 1))).toNat) default).Verification) - 1))).toNat) default).Number, (a0.Book.Orders.getD (((IntKind.i64.wrap (a1 - 1))).toNat) default).Attempt, (a0.Book.Commitments.getD (((IntKind.i64.wrap (((a0.Book.Verifications.getD (((IntKind.i64.wrap (((a0.Book.Orders.getD (((IntKind.i64.wrap (a1 - 1))).toNat) default).Verification) - 1))).toNat) default).Commitment) - 1))).toNat) default).Number, (a0.Book.Reservations.getD (((IntKind.i64.wrap (((a0.Book.Commitments.getD (((IntKind.i64.wrap (((a0.Book.Verifications.getD (((IntKind.i64.wrap (((a0.Book.Orders.getD (((IntKind.i64.wrap (a1 - 1))).toNat) default).Verification) - 1))).toNat) default).Commitment) - 1))).toNat) default).Reservation) - 1))).toNat) default).Number, (a0.Book.Verifications.getD (((IntKind.i64.wrap (((a0.Book.Orders.getD (((IntKind.i64.wrap (a1 - 1))).toNat) default).Verification) - 1))).toNat) default).Amount, (a0.Book.Commitments.getD (((IntKind.i64.wrap (((a0.Book.Verifications.getD (((IntKind.i64.wrap (((a0.Book.Orders.getD (((IntKind.i64.wrap (a1 - 1))).toNat) default).Verification) - 1))).toNat) default).Commitment) - 1))).toNat) default).Payee, (a0.Book.Orders.getD (((IntKind.i64.wrap (a1 - 1))).toNat) default).Day, (a0.Book.Commitments.getD (((IntKind.i64.wrap (((a0.Book.Verifications.getD (((IntKind.i64.wrap (((a0.Book.Orders.getD (((IntKind.i64.wrap (a1 - 1))).toNat) default).Verification) - 1))).toNat) default).Commitment) - 1))).toNat) default).Due, 0, 0⟩ : TApiWarrant), 0)))))
def F_warrant_Make (a0 : TApiOffice) (a1 : Int) (a2 : Int) : Option R_warrant_Make := (S_warrant_Make a0 a1 a2).den
set_option maxRecDepth 100000 in
theorem F_warrant_Make_ok {a0 : TApiOffice} {a1 : Int} {a2 : Int} (r : R_warrant_Make) (h : F_warrant_Make a0 a1 a2 = some r) : CallOk Tryz.prog 7 [(AV.d (TApiOffice.e a0)), (vi a1), (vi a2)] [] (V_warrant_Make r) (L_warrant_Make r) := fOk (s := S_warrant_Make a0 a1 a2) Tryz.func7 rfl (by kernel_rfl) h
/-! 25 -/
abbrev R_r19_number := Bool
def V_r19_number (x : R_r19_number) : AV := (vb x)
def L_r19_number (_ : R_r19_number) : List Ob := []
def S_r19_number (a0 : Int) : Scr Tryz.prog R_r19_number R_r19_number :=
.ret [] (bif (decide (a0 ≥ 1)) then (decide (a0 ≤ 1000000)) else false)
def F_r19_number (a0 : Int) : Option R_r19_number := (S_r19_number a0).den
set_option maxRecDepth 100000 in
theorem F_r19_number_ok {a0 : Int} (r : R_r19_number) (h : F_r19_number a0 = some r) : CallOk Tryz.prog 25 [(vi a0)] [] (V_r19_number r) (L_r19_number r) := fOk (s := S_r19_number a0) Tryz.func25 rfl (by kernel_rfl) h
/-! 8 -/
abbrev R_r19_Plain := Bool
def V_r19_Plain (x : R_r19_Plain) : AV := (vb x)
def L_r19_Plain (_ : R_r19_Plain) : List Ob := []
def S_r19_Plain_b1 (a0 : TApiWarrant) (iv1 : Nat) (_ : Unit) : Scr Tryz.prog R_r19_Plain (Step (Unit) R_r19_Plain) :=
.reg 3 [] [] [.pf (nn iv1), .ev 0] <|
.call (@F_r19_number_ok (([a0.Number, a0.Reservation, a0.Commitment, a0.Verification, a0.Attempt, a0.Payee] : List Int).getD iv1 default)) fun rv2 cv2 =>
.reg 4 [] [(1, hc cv2 [] true)] [.cl 0 cv2 [] 1 true] <|
.ite (!rv2) (
.ret [] (.ret false)) (
.ret [] (.cont ()))
def S_r19_Plain_b2 (a0 : TApiWarrant) (iv3 : Nat) (_ : Unit) : Scr Tryz.prog R_r19_Plain (Step (Unit) R_r19_Plain) :=
.reg 9 [] [] [.pf (nn iv3), .ev 0] <|
.ite (bif (decide ((([a0.Day, a0.Due] : List Int).getD iv3 default) < 0)) then true else (decide ((([a0.Day, a0.Due] : List Int).getD iv3 default) > 35990))) (
.ret [] (.ret false)) (
.ret [] (.cont ()))
def S_r19_Plain (a0 : TApiWarrant) : Scr Tryz.prog R_r19_Plain R_r19_Plain :=
.reg 1 [] [(12, hv (vl ([a0.Number, a0.Reservation, a0.Commitment, a0.Verification, a0.Attempt, a0.Payee] : List Int)))] [.pf (leV_lit (DV.i .i64) ([a0.Number, a0.Reservation, a0.Commitment, a0.Verification, a0.Attempt, a0.Payee] : List Int))] <|
.range 6 6 rfl (.why (.pf (p := 6 < 2 ^ 63) (by decide))) 21 [1, 19, 20] (fun (_ : Unit) => []) (fun (_ : Unit) => []) () (S_r19_Plain_b1 a0) (fun (_ : Unit) => 
.reg 7 [] [(4, hv (vl ([a0.Day, a0.Due] : List Int)))] [.pf (leV_lit (DV.i .i64) ([a0.Day, a0.Due] : List Int))] <|
.range 2 2 rfl (.why (.pf (p := 2 < 2 ^ 63) (by decide))) 35 [1, 33, 34] (fun (_ : Unit) => []) (fun (_ : Unit) => []) () (S_r19_Plain_b2 a0) (fun (_ : Unit) => 
.calld [(bif (decide (a0.Office ≥ 1)) then (decide (a0.Office ≤ 6)) else false) = true] default (@F_r03_Good_ok a0.Code) fun rv4 cv4 =>
.reg 13 [] [(11, hc cv4 [] true)] [.clg 0 [(bif (decide (a0.Office ≥ 1)) then (decide (a0.Office ≤ 6)) else false) = true] cv4 [] 1 true] <|
.ret [] (bif (bif (bif (bif (bif (bif (decide (a0.Office ≥ 1)) then (decide (a0.Office ≤ 6)) else false) then rv4 else false) then (decide (a0.Year ≥ 0)) else false) then (decide (a0.Year ≤ 99)) else false) then (decide (a0.Amount ≥ 1)) else false) then (decide (a0.Amount ≤ 1000000000000)) else false)) id) id
def F_r19_Plain (a0 : TApiWarrant) : Option R_r19_Plain := (S_r19_Plain a0).den
set_option maxRecDepth 100000 in
theorem F_r19_Plain_ok {a0 : TApiWarrant} (r : R_r19_Plain) (h : F_r19_Plain a0 = some r) : CallOk Tryz.prog 8 [(AV.d (TApiWarrant.e a0))] [] (V_r19_Plain r) (L_r19_Plain r) := fOk (s := S_r19_Plain a0) Tryz.func8 rfl (by kernel_rfl) h
/-! 60 -/
abbrev R_warrant_day := Bool
def V_warrant_day (x : R_warrant_day) : AV := (vb x)
def L_warrant_day (_ : R_warrant_day) : List Ob := []
def S_warrant_day (a0 : Int) : Scr Tryz.prog R_warrant_day R_warrant_day :=
.call (@F_warrant_among_ok a0 0 35990) fun rv1 cv1 =>
.reg 1 [] [(1, hc cv1 [] true)] [.cl 0 cv1 [] 0 true] <|
.ret [] rv1
def F_warrant_day (a0 : Int) : Option R_warrant_day := (S_warrant_day a0).den
set_option maxRecDepth 100000 in
theorem F_warrant_day_ok {a0 : Int} (r : R_warrant_day) (h : F_warrant_day a0 = some r) : CallOk Tryz.prog 60 [(vi a0)] [] (V_warrant_day r) (L_warrant_day r) := fOk (s := S_warrant_day a0) Tryz.func60 rfl (by kernel_rfl) h
/-! 27 -/
abbrev R_warrant_Plain := Bool
def V_warrant_Plain (x : R_warrant_Plain) : AV := (vb x)
def L_warrant_Plain (_ : R_warrant_Plain) : List Ob := []
def S_warrant_Plain_b1 (a0 : TApiWarrant) (iv1 : Nat) (_ : Unit) : Scr Tryz.prog R_warrant_Plain (Step (Unit) R_warrant_Plain) :=
.reg 3 [] [] [.pf (nn iv1), .ev 0] <|
.call (@F_warrant_number_ok (([a0.Number, a0.Reservation, a0.Commitment, a0.Verification, a0.Attempt, a0.Payee] : List Int).getD iv1 default)) fun rv2 cv2 =>
.reg 4 [] [(1, hc cv2 [] true)] [.cl 0 cv2 [] 1 true] <|
.ite (!rv2) (
.ret [] (.ret false)) (
.ret [] (.cont ()))
def S_warrant_Plain (a0 : TApiWarrant) : Scr Tryz.prog R_warrant_Plain R_warrant_Plain :=
.reg 1 [] [(12, hv (vl ([a0.Number, a0.Reservation, a0.Commitment, a0.Verification, a0.Attempt, a0.Payee] : List Int)))] [.pf (leV_lit (DV.i .i64) ([a0.Number, a0.Reservation, a0.Commitment, a0.Verification, a0.Attempt, a0.Payee] : List Int))] <|
.range 6 6 rfl (.why (.pf (p := 6 < 2 ^ 63) (by decide))) 19 [1, 17, 18] (fun (_ : Unit) => []) (fun (_ : Unit) => []) () (S_warrant_Plain_b1 a0) (fun (_ : Unit) => 
.call (@F_warrant_among_ok a0.Office 1 6) fun rv3 cv3 =>
.calld [rv3 = true] default (@F_classification_Parts_ok a0.Code) fun rv4 cv4 =>
.calld [(bif rv3 then (decide ((rv4.length : Int) > 0)) else false) = true] default (@F_warrant_among_ok a0.Year 0 99) fun rv5 cv5 =>
.calld [(bif (bif rv3 then (decide ((rv4.length : Int) > 0)) else false) then rv5 else false) = true] default (@F_warrant_among_ok a0.Amount 1 1000000000000) fun rv6 cv6 =>
.calld [(bif (bif (bif rv3 then (decide ((rv4.length : Int) > 0)) else false) then rv5 else false) then rv6 else false) = true] default (@F_warrant_day_ok a0.Day) fun rv7 cv7 =>
.calld [(bif (bif (bif (bif rv3 then (decide ((rv4.length : Int) > 0)) else false) then rv5 else false) then rv6 else false) then rv7 else false) = true] default (@F_warrant_day_ok a0.Due) fun rv8 cv8 =>
.reg 7 [] [(2, hc cv3 [] true), (6, hc cv4 [] true), (13, hc cv5 [] true), (18, hc cv6 [] true), (23, hc cv7 [] true), (28, hc cv8 [] true)] [.cl 10 cv3 [] 1 true, .clg 8 [rv3 = true] cv4 [] 1 true, .clg 6 [(bif rv3 then (decide ((rv4.length : Int) > 0)) else false) = true] cv5 [] 1 true, .clg 4 [(bif (bif rv3 then (decide ((rv4.length : Int) > 0)) else false) then rv5 else false) = true] cv6 [] 1 true, .clg 2 [(bif (bif (bif rv3 then (decide ((rv4.length : Int) > 0)) else false) then rv5 else false) then rv6 else false) = true] cv7 [] 1 true, .clg 0 [(bif (bif (bif (bif rv3 then (decide ((rv4.length : Int) > 0)) else false) then rv5 else false) then rv6 else false) then rv7 else false) = true] cv8 [] 1 true] <|
.ret [] (bif (bif (bif (bif (bif rv3 then (decide ((rv4.length : Int) > 0)) else false) then rv5 else false) then rv6 else false) then rv7 else false) then rv8 else false)) id
def F_warrant_Plain (a0 : TApiWarrant) : Option R_warrant_Plain := (S_warrant_Plain a0).den
set_option maxRecDepth 100000 in
theorem F_warrant_Plain_ok {a0 : TApiWarrant} (r : R_warrant_Plain) (h : F_warrant_Plain a0 = some r) : CallOk Tryz.prog 27 [(AV.d (TApiWarrant.e a0))] [] (V_warrant_Plain r) (L_warrant_Plain r) := fOk (s := S_warrant_Plain a0) Tryz.func27 rfl (by kernel_rfl) h
/-! 28 -/
abbrev R_warrant_compare := Int
def V_warrant_compare (x : R_warrant_compare) : AV := (vi x)
def L_warrant_compare (_ : R_warrant_compare) : List Ob := []
def S_warrant_compare (a0 : TApiWarrant) (a1 : TApiWarrant) : Scr Tryz.prog R_warrant_compare R_warrant_compare :=
.call (@F_cmp_Compare_int_ok a0.Number a1.Number) fun rv1 cv1 =>
.reg 1 [] [(4, hc cv1 [] true)] [.cl 0 cv1 [] 2 true] <|
.ret [] rv1
def F_warrant_compare (a0 : TApiWarrant) (a1 : TApiWarrant) : Option R_warrant_compare := (S_warrant_compare a0 a1).den
set_option maxRecDepth 100000 in
theorem F_warrant_compare_ok {a0 : TApiWarrant} {a1 : TApiWarrant} (r : R_warrant_compare) (h : F_warrant_compare a0 a1 = some r) : CallOk Tryz.prog 28 [(AV.d (TApiWarrant.e a0)), (AV.d (TApiWarrant.e a1))] [] (V_warrant_compare r) (L_warrant_compare r) := fOk (s := S_warrant_compare a0 a1) Tryz.func28 rfl (by kernel_rfl) h
/-! 29 -/
abbrev R_slices_BSF_Warrant_warrant_compare := Int × Bool
def V_slices_BSF_Warrant_warrant_compare (x : R_slices_BSF_Warrant_warrant_compare) : AV := (AV.tup [(vi x.1), (vb x.2)])
def L_slices_BSF_Warrant_warrant_compare (_ : R_slices_BSF_Warrant_warrant_compare) : List Ob := []
def S_slices_BSF_Warrant_warrant_compare_b1 (a0 : (List TApiWarrant)) (a1 : TApiWarrant) (sv1 : Int × Int) : Scr Tryz.prog R_slices_BSF_Warrant_warrant_compare (Step (Int × Int) R_slices_BSF_Warrant_warrant_compare) :=
.ite (decide (sv1.1 < sv1.2)) (
.reg 4 [] [] [.pf (p := (0 : Int) ≤ 1) (by decide)] <|
.call (@F_warrant_compare_ok (a0.getD (((IntKind.i64.wrap ((IntKind.u64.wrap (IntKind.i64.wrap (sv1.1 + sv1.2))).fdiv (2 ^ (min (1 : Int).toNat IntKind.u64.bits))))).toNat) default) a1) fun rv2 cv2 =>
.guard [(0 : Int) ≤ (IntKind.i64.wrap ((IntKind.u64.wrap (IntKind.i64.wrap (sv1.1 + sv1.2))).fdiv (2 ^ (min (1 : Int).toNat IntKind.u64.bits)))), ((IntKind.i64.wrap ((IntKind.u64.wrap (IntKind.i64.wrap (sv1.1 + sv1.2))).fdiv (2 ^ (min (1 : Int).toNat IntKind.u64.bits))))).toNat < a0.length] <|
.reg 5 [] [(6, hc cv2 [] true)] [.ev 0, .ev 1, .cl 2 cv2 [] 1 true] <|
.ite (decide (rv2 < 0)) (
.ret [] (.cont ((IntKind.i64.wrap ((IntKind.i64.wrap ((IntKind.u64.wrap (IntKind.i64.wrap (sv1.1 + sv1.2))).fdiv (2 ^ (min (1 : Int).toNat IntKind.u64.bits)))) + 1)), sv1.2))) (
.ret [] (.cont (sv1.1, (IntKind.i64.wrap ((IntKind.u64.wrap (IntKind.i64.wrap (sv1.1 + sv1.2))).fdiv (2 ^ (min (1 : Int).toNat IntKind.u64.bits)))))))) (
.ret [] (.brk (sv1.1, sv1.2)))
def S_slices_BSF_Warrant_warrant_compare (a0 : (List TApiWarrant)) (a1 : TApiWarrant) : Scr Tryz.prog R_slices_BSF_Warrant_warrant_compare R_slices_BSF_Warrant_warrant_compare :=
.iter [0, 2, 4, 8] (fun (sv1 : Int × Int) => [(9, (vi sv1.1)), (10, (vi sv1.2))]) (fun (_ : Int × Int) => []) (0, (a0.length : Int)) (S_slices_BSF_Warrant_warrant_compare_b1 a0 a1) (fun (sv1 : Int × Int) =>
.calld [(decide (sv1.1 < (a0.length : Int))) = true] default (@F_warrant_compare_ok (a0.getD ((sv1.1).toNat) default) a1) fun rv3 cv3 =>
.guard [AllP [(decide (sv1.1 < (a0.length : Int))) = true] → ((0 : Int) ≤ sv1.1), AllP [(decide (sv1.1 < (a0.length : Int))) = true] → ((sv1.1).toNat < a0.length)] <|
.reg 8 [] [(11, hc cv3 [] true)] [.ev 0, .ev 1, .clg 2 [(decide (sv1.1 < (a0.length : Int))) = true] cv3 [] 1 true] <|
.ret [] (sv1.1, (bif (decide (sv1.1 < (a0.length : Int))) then (rv3 == 0) else false))) id
def F_slices_BSF_Warrant_warrant_compare (a0 : (List TApiWarrant)) (a1 : TApiWarrant) : Option R_slices_BSF_Warrant_warrant_compare := (S_slices_BSF_Warrant_warrant_compare a0 a1).den
set_option maxRecDepth 100000 in
theorem F_slices_BSF_Warrant_warrant_compare_ok {a0 : (List TApiWarrant)} {a1 : TApiWarrant} (r : R_slices_BSF_Warrant_warrant_compare) (h : F_slices_BSF_Warrant_warrant_compare a0 a1 = some r) : CallOk Tryz.prog 29 [(AV.d (eL TApiWarrant.e a0)), (AV.d (TApiWarrant.e a1)), (AV.fn 28 [])] [] (V_slices_BSF_Warrant_warrant_compare r) (L_slices_BSF_Warrant_warrant_compare r) := fOk (s := S_slices_BSF_Warrant_warrant_compare a0 a1) Tryz.func29 rfl (by kernel_rfl) h
/-! 10 -/
abbrev R_warrant_Same := Bool
def V_warrant_Same (x : R_warrant_Same) : AV := (vb x)
def L_warrant_Same (_ : R_warrant_Same) : List Ob := []
def S_warrant_Same (a0 : TApiWarrant) (a1 : TApiWarrant) : Scr Tryz.prog R_warrant_Same R_warrant_Same :=
.ret [] (bif (bif (a0.Office == a1.Office) then (a0.Verification == a1.Verification) else false) then (a0.Attempt == a1.Attempt) else false)
def F_warrant_Same (a0 : TApiWarrant) (a1 : TApiWarrant) : Option R_warrant_Same := (S_warrant_Same a0 a1).den
set_option maxRecDepth 100000 in
theorem F_warrant_Same_ok {a0 : TApiWarrant} {a1 : TApiWarrant} (r : R_warrant_Same) (h : F_warrant_Same a0 a1 = some r) : CallOk Tryz.prog 10 [(AV.d (TApiWarrant.e a0)), (AV.d (TApiWarrant.e a1))] [] (V_warrant_Same r) (L_warrant_Same r) := fOk (s := S_warrant_Same a0 a1) Tryz.func10 rfl (by kernel_rfl) h
/-! 31 -/
abbrev R_warrant_Add_1 := Bool
def V_warrant_Add_1 (x : R_warrant_Add_1) : AV := (vb x)
def L_warrant_Add_1 (p0 : TApiWarrant) (_ : R_warrant_Add_1) : List Ob := [(bx (TApiWarrant.e p0))]
def S_warrant_Add_1 (a0 : TApiWarrant) (p0 : TApiWarrant) : Scr Tryz.prog R_warrant_Add_1 R_warrant_Add_1 :=
.call (@F_warrant_Same_ok a0 p0) fun rv1 cv1 =>
.reg 1 [] [(2, hc cv1 [] true)] [.cl 0 cv1 [] 2 true] <|
.ret [] rv1
def F_warrant_Add_1 (a0 : TApiWarrant) (p0 : TApiWarrant) : Option R_warrant_Add_1 := (S_warrant_Add_1 a0 p0).den
set_option maxRecDepth 100000 in
theorem F_warrant_Add_1_ok {a0 : TApiWarrant} {p0 : TApiWarrant} (r : R_warrant_Add_1) (h : F_warrant_Add_1 a0 p0 = some r) : CallOk Tryz.prog 31 [(AV.d (TApiWarrant.e a0)), (vp 0)] [(bx (TApiWarrant.e p0))] (V_warrant_Add_1 r) (L_warrant_Add_1 p0 r) := fOk (s := S_warrant_Add_1 a0 p0) Tryz.func31 rfl (by kernel_rfl) h
/-! 62 -/
abbrev R_slices_IndexFunc_Warrant_warrant_Add_1 := Int
def V_slices_IndexFunc_Warrant_warrant_Add_1 (x : R_slices_IndexFunc_Warrant_warrant_Add_1) : AV := (vi x)
def L_slices_IndexFunc_Warrant_warrant_Add_1 (p0 : TApiWarrant) (_ : R_slices_IndexFunc_Warrant_warrant_Add_1) : List Ob := [(bx (TApiWarrant.e p0))]
def S_slices_IndexFunc_Warrant_warrant_Add_1_b1 (a0 : (List TApiWarrant)) (p0 : TApiWarrant) (iv1 : Nat) (_ : Unit) : Scr Tryz.prog R_slices_IndexFunc_Warrant_warrant_Add_1 (Step (Unit) R_slices_IndexFunc_Warrant_warrant_Add_1) :=
.call (@F_warrant_Add_1_ok (a0.getD iv1 default) p0) fun rv2 cv2 =>
.reg 4 [] [(5, hc cv2 [0] true)] [.pf (nn iv1), .ev 1, .cl 0 cv2 [0] 1 true] <|
.ite rv2 (
.ret [] (.ret (iv1 : Int))) (
.ret [] (.cont ()))
def S_slices_IndexFunc_Warrant_warrant_Add_1 (a0 : (List TApiWarrant)) (p0 : TApiWarrant) : Scr Tryz.prog R_slices_IndexFunc_Warrant_warrant_Add_1 R_slices_IndexFunc_Warrant_warrant_Add_1 :=
.range (a0.length : Int) a0.length rfl (.slot 0) 8 [0, 1, 7] (fun (_ : Unit) => []) (fun (_ : Unit) => []) () (S_slices_IndexFunc_Warrant_warrant_Add_1_b1 a0 p0) (fun (_ : Unit) => 
.ret [] (-1)) id
def F_slices_IndexFunc_Warrant_warrant_Add_1 (a0 : (List TApiWarrant)) (p0 : TApiWarrant) : Option R_slices_IndexFunc_Warrant_warrant_Add_1 := (S_slices_IndexFunc_Warrant_warrant_Add_1 a0 p0).den
set_option maxRecDepth 100000 in
theorem F_slices_IndexFunc_Warrant_warrant_Add_1_ok {a0 : (List TApiWarrant)} {p0 : TApiWarrant} (r : R_slices_IndexFunc_Warrant_warrant_Add_1) (h : F_slices_IndexFunc_Warrant_warrant_Add_1 a0 p0 = some r) : CallOk Tryz.prog 62 [(AV.d (eL TApiWarrant.e a0)), (AV.fn 31 [(vp 0)])] [(bx (TApiWarrant.e p0))] (V_slices_IndexFunc_Warrant_warrant_Add_1 r) (L_slices_IndexFunc_Warrant_warrant_Add_1 p0 r) := fOk (s := S_slices_IndexFunc_Warrant_warrant_Add_1 a0 p0) Tryz.func62 rfl (by kernel_rfl) h
/-! 30 -/
abbrev R_slices_CoF_Warrant_warrant_Add_1 := Bool
def V_slices_CoF_Warrant_warrant_Add_1 (x : R_slices_CoF_Warrant_warrant_Add_1) : AV := (vb x)
def L_slices_CoF_Warrant_warrant_Add_1 (p0 : TApiWarrant) (_ : R_slices_CoF_Warrant_warrant_Add_1) : List Ob := [(bx (TApiWarrant.e p0))]
def S_slices_CoF_Warrant_warrant_Add_1 (a0 : (List TApiWarrant)) (p0 : TApiWarrant) : Scr Tryz.prog R_slices_CoF_Warrant_warrant_Add_1 R_slices_CoF_Warrant_warrant_Add_1 :=
.call (@F_slices_IndexFunc_Warrant_warrant_Add_1_ok a0 p0) fun rv1 cv1 =>
.reg 1 [] [(2, hc cv1 [0] true)] [.cl 0 cv1 [0] 1 true] <|
.ret [] (decide (rv1 ≥ 0))
def F_slices_CoF_Warrant_warrant_Add_1 (a0 : (List TApiWarrant)) (p0 : TApiWarrant) : Option R_slices_CoF_Warrant_warrant_Add_1 := (S_slices_CoF_Warrant_warrant_Add_1 a0 p0).den
set_option maxRecDepth 100000 in
theorem F_slices_CoF_Warrant_warrant_Add_1_ok {a0 : (List TApiWarrant)} {p0 : TApiWarrant} (r : R_slices_CoF_Warrant_warrant_Add_1) (h : F_slices_CoF_Warrant_warrant_Add_1 a0 p0 = some r) : CallOk Tryz.prog 30 [(AV.d (eL TApiWarrant.e a0)), (AV.fn 31 [(vp 0)])] [(bx (TApiWarrant.e p0))] (V_slices_CoF_Warrant_warrant_Add_1 r) (L_slices_CoF_Warrant_warrant_Add_1 p0 r) := fOk (s := S_slices_CoF_Warrant_warrant_Add_1 a0 p0) Tryz.func30 rfl (by kernel_rfl) h
/-! 33 -/
abbrev R_slices_Clone_Warrant_rw := (List TApiWarrant)
def V_slices_Clone_Warrant_rw (x : R_slices_Clone_Warrant_rw) : AV := (AV.ref 0 x.length 0 x.length)
def L_slices_Clone_Warrant_rw (x : R_slices_Clone_Warrant_rw) : List Ob := [(eS 14 TApiWarrant.e x)]
def S_slices_Clone_Warrant_rw (a0 : (List TApiWarrant)) : Scr Tryz.prog R_slices_Clone_Warrant_rw R_slices_Clone_Warrant_rw :=
.reg 0 [] [] [] <|
.nils 0 (
.guard [a0.length * (2 * 120) ≤ 2 ^ 48] <|
.reg 1 [] [] [] <|
.lev 0 (AV.d (eL TApiWarrant.e a0)) (.pf (lvQ true a0.length fun j => (TApiWarrant.e (a0.getD j default)))) <|
.br true (.pf (p := true = true) rfl) <|
.reg 2 [] [] [] <|
.bor 14 (fun j => AV.d (TApiWarrant.e (a0.getD j default))) [2] <|
.cst (A := a0.length = 0) (.ev 1) [(2, AV.ref 0 0 0 0)] [(2, (AV.ref 0 a0.length 0 a0.length))] [(Ob.seq 14 0 fun j => AV.d (TApiWarrant.e (a0.getD j default)))] [(eS 14 TApiWarrant.e a0)] (fun h => ⟨by rw [h], by unfold eS; rw [h]⟩) <|
.ret [] a0) (
.reg 1 [] [] [] <|
.lev 0 (AV.d (eL TApiWarrant.e a0)) (.pf (lvQ false a0.length fun j => (TApiWarrant.e (a0.getD j default)))) <|
.br false (.pf (p := false = false) rfl) <|
.guard [a0.length * (2 * 120) ≤ 2 ^ 48] <|
.reg 3 [] [(2, { h := .obj })] [.pf (p := ∀ k, k < a0.length → (AV.d (TApiWarrant.e (a0.getD k default))).wd = 14) (fun _ _ => rfl), .ev 0] <|
.ret [] a0)
def F_slices_Clone_Warrant_rw (a0 : (List TApiWarrant)) : Option R_slices_Clone_Warrant_rw := (S_slices_Clone_Warrant_rw a0).den
set_option maxRecDepth 100000 in
theorem F_slices_Clone_Warrant_rw_ok {a0 : (List TApiWarrant)} (r : R_slices_Clone_Warrant_rw) (h : F_slices_Clone_Warrant_rw a0 = some r) : CallOk Tryz.prog 33 [(AV.d (eL TApiWarrant.e a0))] [] (V_slices_Clone_Warrant_rw r) (L_slices_Clone_Warrant_rw r) := fOk (s := S_slices_Clone_Warrant_rw a0) Tryz.func33 rfl (by kernel_rfl) h
/-! 32 -/
abbrev R_slices_Insert_Warrant := List TApiWarrant
def V_slices_Insert_Warrant (x : R_slices_Insert_Warrant) : AV := .ref 0 x.length 0 x.length
def L_slices_Insert_Warrant (p1 : List TApiWarrant) (x : R_slices_Insert_Warrant) : List Ob := [eS 14 TApiWarrant.e x, eS 14 TApiWarrant.e p1]
def F_slices_Insert_Warrant (a1 : Int) (p0 p1 : List TApiWarrant) : Option R_slices_Insert_Warrant := match p1 with
  | [y] => guardP (0 ≤ a1 ∧ a1.toNat ≤ p0.length ∧ (p0.length + 1) * (4 * 120) ≤ 2 ^ 48) (some (insL p0 a1.toNat y))
  | _ => none
theorem F_slices_Insert_Warrant_ok {a1 : Int} {p0 p1 : List TApiWarrant} (r : R_slices_Insert_Warrant) (h : F_slices_Insert_Warrant a1 p0 p1 = some r) : CallOk Tryz.prog 32 [(AV.ref 0 p0.length 0 p0.length), (AV.d (.i .i64 a1)), (AV.ref 1 p1.length 0 p1.length)] [(eS 14 TApiWarrant.e p0), (eS 14 TApiWarrant.e p1)] (V_slices_Insert_Warrant r) (L_slices_Insert_Warrant p1 r) := by
  unfold F_slices_Insert_Warrant at h
  split at h
  · rename_i y
    obtain ⟨⟨h1, h2, h3⟩, h⟩ := guardP_some h
    obtain rfl := Option.some.inj h
    obtain ⟨i, rfl⟩ : ∃ i : Nat, a1 = (i : Int) := ⟨a1.toNat, (Int.toNat_of_nonneg h1).symm⟩
    exact Ins32.ins_ok (fun _ => rfl) h2 h3
  · cases h
/-! 9 -/
theorem cz7 : LeV (AV.tup [(AV.full 0 fun _ => DV.b false), (vi 1)]) (AV.tup [(AV.d (eL TApiWarrant.e ([]))), (vi 1)]) := LeV.tup (LeVs.cons (lvN TApiWarrant.e) (LeVs.cons (LeV.refl _) LeVs.nil))
theorem cz8 : LeV (AV.tup [(AV.full 0 fun _ => DV.b false), (vi 7)]) (AV.tup [(AV.d (eL TApiWarrant.e ([]))), (vi 7)]) := LeV.tup (LeVs.cons (lvN TApiWarrant.e) (LeVs.cons (LeV.refl _) LeVs.nil))
theorem cz9 : LeV (AV.tup [(AV.full 0 fun _ => DV.b false), (vi 20)]) (AV.tup [(AV.d (eL TApiWarrant.e ([]))), (vi 20)]) := LeV.tup (LeVs.cons (lvN TApiWarrant.e) (LeVs.cons (LeV.refl _) LeVs.nil))
theorem cz10 : LeV (AV.tup [(AV.full 0 fun _ => DV.b false), (vi 3)]) (AV.tup [(AV.d (eL TApiWarrant.e ([]))), (vi 3)]) := LeV.tup (LeVs.cons (lvN TApiWarrant.e) (LeVs.cons (LeV.refl _) LeVs.nil))
abbrev R_warrant_Add := (List TApiWarrant) × Int
def V_warrant_Add (x : R_warrant_Add) : AV := (AV.tup [(AV.d (eL TApiWarrant.e x.1)), (vi x.2)])
def L_warrant_Add (_ : R_warrant_Add) : List Ob := []
def S_warrant_Add_b1 (a0 : (List TApiWarrant)) (sv1 : Int) : Scr Tryz.prog R_warrant_Add (Step (Int) R_warrant_Add) :=
.ite (decide (sv1 < (a0.length : Int))) (
.call (@F_warrant_compare_ok (a0.getD (((IntKind.i64.wrap (sv1 - 1))).toNat) default) (a0.getD ((sv1).toNat) default)) fun rv2 cv2 =>
.guard [(0 : Int) ≤ (IntKind.i64.wrap (sv1 - 1)), ((IntKind.i64.wrap (sv1 - 1))).toNat < a0.length, (0 : Int) ≤ sv1, (sv1).toNat < a0.length] <|
.reg 6 [] [(9, hc cv2 [] true)] [.ev 0, .ev 1, .ev 2, .ev 3, .cl 4 cv2 [] 1 true] <|
.ite (decide (rv2 ≥ 0)) (
.ret [.pf cz7] (.ret ([], 1))) (
.ret [] (.cont (IntKind.i64.wrap (sv1 + 1))))) (
.ret [] (.brk sv1))
def S_warrant_Add (a0 : (List TApiWarrant)) (a1 : TApiWarrant) : Scr Tryz.prog R_warrant_Add R_warrant_Add :=
.call (@F_warrant_Plain_ok a1) fun rv3 cv3 =>
.reg 1 [] [(1, hc cv3 [] true)] [.cl 0 cv3 [] 1 true] <|
.ite (!rv3) (
.ret [.pf cz7] ([], 1)) (
.iter [0, 3] (fun (sv1 : Int) => [(6, (vi sv1))]) (fun (_ : Int) => []) 1 (S_warrant_Add_b1 a0) (fun (_ : Int) =>
.call (@F_slices_BSF_Warrant_warrant_compare_ok a0 a1) fun rv4 cv4 =>
.reg 8 [] [(2, hc cv4 [] true)] [.cl 0 cv4 [] 1 true] <|
.ite rv4.2 (
.ret [.pf cz8] ([], 7)) (
.call (@F_slices_CoF_Warrant_warrant_Add_1_ok a0 a1) fun rv5 cv5 =>
.reg 11 [] [(2, hc cv5 [0] true)] [.cl 0 cv5 [0] 1 true] <|
.ite rv5 (
.ret [.pf cz9] ([], 20)) (
.ite (decide ((a0.length : Int) ≥ 200)) (
.ret [.pf cz10] ([], 3)) (
.bor 14 (fun _ => AV.bot) [] <|
.call (@F_slices_Clone_Warrant_rw_ok a0) fun rv6 cv6 =>
.call (@F_slices_Insert_Warrant_ok rv4.1 rv6 ([a1] : List TApiWarrant)) fun rv7 cv7 =>
.reg 15 [1, 4, 5] [(1, hc cv6 [] false), (4, { h := .born 1 true, obs := [(1, (eS 14 TApiWarrant.e ([a1] : List TApiWarrant)))] }), (5, hc cv7 [2, 1] false)] [.cl 1 cv6 [] 2 false, .cl 1 cv6 [] 2 false, .pf (oLe_lit (sz := 14) (e := TApiWarrant.e) (l := ([a1] : List TApiWarrant))), .pf (oLe_lit (sz := 14) (e := TApiWarrant.e) (l := ([a1] : List TApiWarrant))), .cl 0 cv7 [2, 1] 3 false] <|
.guard [rv7.length < 2 ^ 63] <|
.frz 2 (.ev 0) none [4] [] <|
.ret [] (rv7, 0))))) id)
def F_warrant_Add (a0 : (List TApiWarrant)) (a1 : TApiWarrant) : Option R_warrant_Add := (S_warrant_Add a0 a1).den
set_option maxRecDepth 100000 in
theorem F_warrant_Add_ok {a0 : (List TApiWarrant)} {a1 : TApiWarrant} (r : R_warrant_Add) (h : F_warrant_Add a0 a1 = some r) : CallOk Tryz.prog 9 [(AV.d (eL TApiWarrant.e a0)), (AV.d (TApiWarrant.e a1))] [] (V_warrant_Add r) (L_warrant_Add r) := fOk (s := S_warrant_Add a0 a1) Tryz.func9 rfl (by kernel_rfl) h
/-! 36 -/
abbrev R_warrant_Bytes := List UInt8
def V_warrant_Bytes (x : R_warrant_Bytes) : AV := (AV.d (DV.str x))
def L_warrant_Bytes (_ : R_warrant_Bytes) : List Ob := []
def S_warrant_Bytes_b1 (a0 : TApiWarrant) (iv1 : Nat) (sv2 : (List (List UInt8))) : Scr Tryz.prog R_warrant_Bytes (Step ((List (List UInt8))) R_warrant_Bytes) :=
.reg 6 [] [] [.pf (nn iv1), .ev 0] <|
.call (@F_strconv_Itoa_ok (([a0.Year, a0.Reservation, a0.Commitment, a0.Verification, a0.Attempt, a0.Amount, a0.Payee, a0.Day, a0.Due] : List Int).getD iv1 default)) fun rv3 cv3 =>
.guard [(sv2.length + 1) * (2 * 16) ≤ 2 ^ 48] <|
.reg 7 [] [(2, hc cv3 [] true), (3, hv (AV.d (eL DV.str ([rv3] : List (List UInt8))))), (4, { h := .obj, cast := some (AV.ref 1 ((sv2 ++ ([rv3] : List (List UInt8))).length) 0 ((sv2 ++ ([rv3] : List (List UInt8))).length)), obs := [(1, (eS 1 DV.str (sv2 ++ ([rv3] : List (List UInt8)))))] })] [.cl 1 cv3 [] 2 true, .pf (leV_lit DV.str ([rv3] : List (List UInt8))), .pf (Eq.refl sv2.length), .pf (Eq.refl sv2.length), .pf (p := ∀ k, k < 1 → (AV.d (DV.str (([rv3] : List (List UInt8)).getD k default))).wd = 1) (fun _ _ => rfl), .ev 0, .pf (leV_app (o := 1) (l := sv2) (x := ([rv3] : List (List UInt8)))), .pf (oLe_app (sz := 1) (e := DV.str) (l := sv2) (x := ([rv3] : List (List UInt8))))] <|
.ret [] (.cont (sv2 ++ ([rv3] : List (List UInt8))))
def S_warrant_Bytes (a0 : TApiWarrant) : Scr Tryz.prog R_warrant_Bytes R_warrant_Bytes :=
.call (@F_warrant_Plain_ok a0) fun rv4 cv4 =>
.reg 1 [] [(1, hc cv4 [] true)] [.cl 0 cv4 [] 1 true] <|
.ite (!rv4) (
.ret [] ([])) (
.call (@F_strconv_Itoa_ok a0.Number) fun rv5 cv5 =>
.call (@F_strconv_Itoa_ok a0.Office) fun rv6 cv6 =>
.reg 3 [8] [(2, hc cv5 [] true), (5, hc cv6 [] true), (8, { h := .obj, obs := [(1, (eS 1 DV.str ([[119, 97, 114, 114, 97, 110, 116], rv5, rv6, a0.Code] : List (List UInt8))))] })] [.cl 1 cv5 [] 1 true, .cl 0 cv6 [] 1 true, .pf (oLe_lit (sz := 1) (e := DV.str) (l := ([[119, 97, 114, 114, 97, 110, 116], rv5, rv6, a0.Code] : List (List UInt8))))] <|
.reg 4 [] [(18, hv (vl ([a0.Year, a0.Reservation, a0.Commitment, a0.Verification, a0.Attempt, a0.Amount, a0.Payee, a0.Day, a0.Due] : List Int)))] [.pf (leV_lit (DV.i .i64) ([a0.Year, a0.Reservation, a0.Commitment, a0.Verification, a0.Attempt, a0.Amount, a0.Payee, a0.Day, a0.Due] : List Int))] <|
.range 9 9 rfl (.why (.pf (p := 9 < 2 ^ 63) (by decide))) 38 [36, 37] (fun (sv2 : (List (List UInt8))) => [(3, (AV.ref 1 sv2.length 0 sv2.length))]) (fun (sv2 : (List (List UInt8))) => [(1, (eS 1 DV.str sv2))]) ([[119, 97, 114, 114, 97, 110, 116], rv5, rv6, a0.Code] : List (List UInt8)) (S_warrant_Bytes_b1 a0) (fun (sv2 : (List (List UInt8))) => 
.guard [sv2.length < 2 ^ 63] <|
.frz 1 (.ev 0) none [3] [] <|
.call (@F_strings_Join_ok sv2 ([32])) fun rv7 cv7 =>
.reg 9 [] [(1, hc cv7 [] true)] [.cl 0 cv7 [] 2 true] <|
.ret [] rv7) id)
def F_warrant_Bytes (a0 : TApiWarrant) : Option R_warrant_Bytes := (S_warrant_Bytes a0).den
set_option maxRecDepth 100000 in
theorem F_warrant_Bytes_ok {a0 : TApiWarrant} (r : R_warrant_Bytes) (h : F_warrant_Bytes a0 = some r) : CallOk Tryz.prog 36 [(AV.d (TApiWarrant.e a0))] [] (V_warrant_Bytes r) (L_warrant_Bytes r) := fOk (s := S_warrant_Bytes a0) Tryz.func36 rfl (by kernel_rfl) h
/-! 37 -/
abbrev R_warrant_Hash := Int
def V_warrant_Hash (x : R_warrant_Hash) : AV := (AV.d (DV.i .u64 x))
def L_warrant_Hash (_ : R_warrant_Hash) : List Ob := []
def S_warrant_Hash_b1 (a0 : List UInt8) (iv1 : Nat) (sv2 : Int) : Scr Tryz.prog R_warrant_Hash (Step (Int) R_warrant_Hash) :=
.reg 5 [] [] [.pf (nn iv1), .ev 0] <|
.ret [] (.cont (IntKind.u64.wrap ((IntKind.u64.wrap ((BitVec.ofInt IntKind.u64.bits sv2 ^^^ BitVec.ofInt IntKind.u64.bits (IntKind.u64.wrap ((a0.getD iv1 0).toNat : Int))).toNat : Int)) * 1099511628211)))
def S_warrant_Hash (a0 : List UInt8) : Scr Tryz.prog R_warrant_Hash R_warrant_Hash :=
.guard [a0.length < 2 ^ 63] <|
.range (a0.length : Int) a0.length rfl (.why (.ev 0)) 7 [0, 6] (fun (sv2 : Int) => [(3, (AV.d (DV.i .u64 sv2)))]) (fun (_ : Int) => []) 14695981039346656037 (S_warrant_Hash_b1 a0) (fun (sv2 : Int) => 
.ret [] sv2) id
def F_warrant_Hash (a0 : List UInt8) : Option R_warrant_Hash := (S_warrant_Hash a0).den
set_option maxRecDepth 100000 in
theorem F_warrant_Hash_ok {a0 : List UInt8} (r : R_warrant_Hash) (h : F_warrant_Hash a0 = some r) : CallOk Tryz.prog 37 [(AV.d (DV.str a0))] [] (V_warrant_Hash r) (L_warrant_Hash r) := fOk (s := S_warrant_Hash a0) Tryz.func37 rfl (by kernel_rfl) h
/-! 65 -/
abbrev R_warrant_signature := Int
def V_warrant_signature (x : R_warrant_signature) : AV := (AV.d (DV.i .u64 x))
def L_warrant_signature (_ : R_warrant_signature) : List Ob := []
def S_warrant_signature_b1 (a0 : Int) (iv1 : Nat) (sv2 : (Nat → Int)) : Scr Tryz.prog R_warrant_signature (Step ((Nat → Int)) R_warrant_signature) :=
.guard [(0 : Int) ≤ (IntKind.i64.wrap (56 - (IntKind.i64.wrap (8 * (iv1 : Int)))))] <|
.reg 5 [] [(8, { obs := [(1, (bx (eA 1 8 (DV.i .u8) (fun j => if j = iv1 then (IntKind.u8.wrap (a0.fdiv (2 ^ (min (IntKind.i64.wrap (56 - (IntKind.i64.wrap (8 * (iv1 : Int))))).toNat IntKind.u64.bits)))) else sv2 j))))] })] [.ev 0, .pf (nn iv1), .ev 1, .ev 1, .pf (p := OLe (bx (DV.arr 1 8 fun j => if j = iv1 then (DV.i .u8 (IntKind.u8.wrap (a0.fdiv (2 ^ (min (IntKind.i64.wrap (56 - (IntKind.i64.wrap (8 * (iv1 : Int))))).toNat IntKind.u64.bits))))) else (DV.i .u8) (sv2 j))) (bx (eA 1 8 (DV.i .u8) (fun j => if j = iv1 then (IntKind.u8.wrap (a0.fdiv (2 ^ (min (IntKind.i64.wrap (56 - (IntKind.i64.wrap (8 * (iv1 : Int))))).toNat IntKind.u64.bits)))) else sv2 j)))) (oLe_box (dLe_arrSet (e := (DV.i .u8)) (i := iv1) (x := (IntKind.u8.wrap (a0.fdiv (2 ^ (min (IntKind.i64.wrap (56 - (IntKind.i64.wrap (8 * (iv1 : Int))))).toNat IntKind.u64.bits))))) (g := sv2)))] <|
.ret [] (.cont (fun j => if j = iv1 then (IntKind.u8.wrap (a0.fdiv (2 ^ (min (IntKind.i64.wrap (56 - (IntKind.i64.wrap (8 * (iv1 : Int))))).toNat IntKind.u64.bits)))) else sv2 j))
def S_warrant_signature (a0 : Int) (a1 : TApiWarrant) : Scr Tryz.prog R_warrant_signature R_warrant_signature :=
.range 8 8 rfl (.why (.pf (p := 8 < 2 ^ 63) (by decide))) 7 [0, 3, 5] (fun (_ : (Nat → Int)) => []) (fun (sv2 : (Nat → Int)) => [(1, (bx (eA 1 8 (DV.i .u8) sv2)))]) (fun j => 0) (S_warrant_signature_b1 a0) (fun (sv2 : (Nat → Int)) => 
.sh (H := FbH 1 (eA 1 8 (DV.i .u8) sv2)) (A := True) (.pf trivial) [(0, (AV.d (DV.i .u64 a0))), (3, (vp 0)), (5, (vp 1))] [(0, (AV.d (DV.i .u64 a0))), (3, (vp 0)), (5, (AV.imm (eA 1 8 (DV.i .u8) sv2)))] [(bx (TApiWarrant.e a1)), (bx (eA 1 8 (DV.i .u8) sv2))] [(bx (TApiWarrant.e a1)), Ob.dead] (fun _ => shift_arr (P := [(bx (TApiWarrant.e a1))]) (D := []) rfl) (trF_at (k := 0) rfl (TrS.keep _) (trF_at (k := 1) rfl (TrS.keep _) (trF_at (k := 2) rfl TrS.fb trF_nil))) <|
.call (@F_warrant_Bytes_ok a1) fun rv3 cv3 =>
.call (@F_warrant_Hash_ok (((List.range 8).map fun j => UInt8.ofNat ((sv2 j)).toNat) ++ rv3)) fun rv4 cv4 =>
.guard [((List.range 8).map fun j => UInt8.ofNat ((sv2 j)).toNat).length + rv3.length < 2 ^ 63] <|
.reg 7 [] [(3, hc cv3 [] true), (5, hc cv4 [] true)] [.pf (p := 8 = 8) rfl, .pf (p := 8 < 2 ^ 63) (by decide), .pf (p := ∀ j, j < 8 → ∃ k, (DV.i .u8 (sv2 j)) = DV.i .u8 k) (fun _ _ => ⟨_, rfl⟩), .cl 2 cv3 [] 2 true, .ev 0, .cl 1 cv4 [] 2 true] <|
.ret [] rv4) id
def F_warrant_signature (a0 : Int) (a1 : TApiWarrant) : Option R_warrant_signature := (S_warrant_signature a0 a1).den
set_option maxRecDepth 100000 in
theorem F_warrant_signature_ok {a0 : Int} {a1 : TApiWarrant} (r : R_warrant_signature) (h : F_warrant_signature a0 a1 = some r) : CallOk Tryz.prog 65 [(AV.d (DV.i .u64 a0)), (AV.d (TApiWarrant.e a1))] [] (V_warrant_signature r) (L_warrant_signature r) := fOk (s := S_warrant_signature a0 a1) Tryz.func65 rfl (by kernel_rfl) h
end
end Go.Proofs.YtdenfihabhhnhaaGreatDoor
