/- A part of the proof: what the functions compute, and that their calls return it. No condition. -/
import Derived.Test.YtfiljdbmhegjgaaGreatDoorT6
import Derived.Lib.AppendZerosOnto
import Derived.Test.YtfiljdbmhegjgaaGreatDoorProg
import Derived.Test.YtfiljdbmhegjgaaGreatDoorT4
import Derived.Test.YtfiljdbmhegjgaaGreatDoorG2
/- slices.Insert of one element. No condition. -/
namespace Go.Proofs.YtfiljdbmhegjgaaGreatDoor
namespace Ins52
open Go Go.TA
def cL : Code → Code
  | .seq x _ => x
  | _ => .skip
def cR : Code → Code
  | .seq _ y => y
  | _ => .skip
def cT : Code → Code
  | .cond _ x _ => x
  | _ => .skip
noncomputable def regOps : Code → Array Oper
  | .region _ ops _ => ops
  | _ => #[]
noncomputable def opAt (ops : Array Oper) (i : Nat) : Oper := (ops[i]?).getD { dst := none, op := .move (.tmp 0), type := 0, pos := "", after := #[], guard := none }
noncomputable def ci : Code := Tryz.f52.body.getD .skip
noncomputable def R0 : Code := cL ci
noncomputable def R1 : Code := cL (cR ci)
noncomputable def R2 : Code := cL (cR (cR ci))
noncomputable def X3 : Code := cL (cR (cR (cR ci)))
noncomputable def R5 : Code := cL (cR (cR (cR (cR ci))))
noncomputable def X6 : Code := cL (cR (cR (cR (cR (cR ci)))))
noncomputable def T8 : Code := cR (cR (cR (cR (cR (cR ci)))))
noncomputable def R8 : Code := cL (cL T8)
noncomputable def B9 : Code := cT (cR (cL T8))
noncomputable def R9 : Code := cL B9
noncomputable def B10 : Code := cR B9
noncomputable def C13 : Code := cR T8
theorem ci_eq : Tryz.f52.body = some (.seq R0 (.seq R1 (.seq R2 (.seq (.seq (cL X3) (.cond (.tmp 16) (cT (cR X3)) .skip)) (.seq R5 (.seq (.seq (cL X6) (.cond (.tmp 22) (cT (cR X6)) .skip)) (.seq (.seq R8 (.cond (.tmp 31) (.seq R9 B10) .skip)) C13))))))) := by kernel_rfl
theorem r8_eq : R8 = .region 8 (regOps R8) false := by kernel_rfl
theorem r9_eq : R9 = .region 9 (regOps R9) false := by kernel_rfl
section
variable {α : Type} [Inhabited α] {e : α → DV}
/-! no room: the new row -/
def gB (e : α → DV) (l : List α) (i : Nat) : Nat → AV := fun j => if j < i then .d (e (l.getD j default)) else garb 7
noncomputable def sB (l : List α) (x : α) (i : Nat) (n1 : (0 : Int) ≤ i) (h1 : i ≤ l.length + 1) (w0 : 0 ≤ IntKind.i64.wrap ((i : Int) + 1)) (w1 : (IntKind.i64.wrap ((i : Int) + 1)).toNat ≤ l.length + 1) (h2 : i ≤ l.length)
    (hx : ∀ k, k < 1 → (AV.d (e ([x].getD (0 + k) default))).wd = 7) (hl : ∀ k, k < l.length - i → (AV.d (e (l.getD (0 + i + k) default))).wd = 7)
    (ho : OLe (.seq 7 (l.length + 1) fun j => if 0 + (IntKind.i64.wrap ((i : Int) + 1)).toNat ≤ j ∧ j < 0 + (IntKind.i64.wrap ((i : Int) + 1)).toNat + min (l.length - i) (l.length + 1 - (IntKind.i64.wrap ((i : Int) + 1)).toNat) then .d (e (l.getD (0 + i + (j - (0 + (IntKind.i64.wrap ((i : Int) + 1)).toNat))) default))
      else if 0 + i ≤ j ∧ j < 0 + i + min 1 (l.length + 1 - i) then .d (e ([x].getD (0 + (j - (0 + i))) default)) else gB e l i j) (eS 7 e (insL l i x))) : Scr Tryz.prog Unit Unit :=
  .reg 10 [] [] [.pf n1, .pf h1, .pf (Eq.refl (l.length + 1)), .pf (Eq.refl 1), .pf (Eq.refl (l.length + 1)), .pf hx] <|
  .reg 11 [8] [(8, { obs := [(2, eS 7 e (insL l i x))] })] [.pf w0, .pf w1, .pf (Eq.refl (l.length + 1)), .pf n1, .pf h2, .pf (Eq.refl l.length), .pf (Eq.refl l.length), .pf (Eq.refl (l.length + 1)), .pf hl, .pf ho] <|
  .ret [] ()
/-- The frame behind the capacity's test. -/
def frI (n i : Nat) (s : AV) : Fr := [(7, .d (.i .i64 1)), (8, .d (.i .i64 (n : Int))), (2, .ref 1 1 0 1), (1, .d (.i .i64 (i : Int))), (0, s)]
theorem tailB (he : ∀ x, (e x).wd = 7) {l : List α} {i : Nat} {x : α} (hi : i < l.length) (hl : l.length < 100000000000000) :
    AW none Tryz.prog Tryz.f52.ntmps B10 (fun e1 fr L => e1 = .ret ∧ FR Tryz.prog Tryz.f52 (.ref 2 (l.length + 1) 0 (l.length + 1)) [eS 7 e l, eS 7 e [x], eS 7 e (insL l i x)] fr L)
      ((9, .ref 2 (l.length + 1) 0 (l.length + 1)) :: frI l.length i (.ref 0 l.length 0 l.length)) [eS 7 e l, eS 7 e [x], .seq 7 (l.length + 1) (gB e l i)] := by
  have hw : IntKind.i64.wrap ((i : Int) + 1) = (i : Int) + 1 := by rw [wrap_i64] <;> omega
  exact pTailR (ρ := Unit) (V := fun _ => .ref 2 (l.length + 1) 0 (l.length + 1)) (Lr := fun _ => [eS 7 e l, eS 7 e [x], eS 7 e (insL l i x)]) (r := ())
    (s := sB (e := e) l x i (by omega) (by omega) (by rw [hw]; omega) (by rw [hw]; omega) (by omega) (fun k _ => he _) (fun k _ => he _) (by
      rw [hw]
      refine oLe_seq insL_length.symm fun j hj => ?_
      rw [insL_get (by omega), show ((i : Int) + 1).toNat = i + 1 by omega]
      by_cases h1 : j < i
      · rw [if_neg (by omega), if_neg (by omega), if_pos h1, gB, if_pos h1]
      · by_cases h2 : j = i
        · subst h2
          rw [if_neg (by omega), if_pos (by omega), if_neg h1, if_pos rfl, show 0 + (j - (0 + j)) = 0 by omega]
          rfl
        · rw [if_pos (by omega), if_neg h1, if_neg h2]
          congr 3; omega)) (by kernel_rfl) rfl
/-! room: in place -/
def gC (e : α → DV) (l : List α) : Nat → AV := fun j => if j < l.length then .d (e (l.getD j default)) else garb 7
noncomputable def sC (l : List α) (x : α) (i : Nat) (a0 : (0 : Int) ≤ IntKind.i64.wrap ((l.length : Int) + 1)) (a1 : (IntKind.i64.wrap ((l.length : Int) + 1)).toNat ≤ l.length + 1) (a2 : (IntKind.i64.wrap ((l.length : Int) + 1)).toNat = l.length + 1)
    (w0 : (0 : Int) ≤ IntKind.i64.wrap ((i : Int) + 1)) (w1 : (IntKind.i64.wrap ((i : Int) + 1)).toNat ≤ l.length + 1) (n1 : (0 : Int) ≤ i) (h1 : i ≤ l.length + 1)
    (hx : ExtOk Tryz.prog 64 [.ref 1 1 0 1, .ref 0 (l.length + 1) (0 + (IntKind.i64.wrap ((i : Int) + 1)).toNat) (l.length + 1 - (IntKind.i64.wrap ((i : Int) + 1)).toNat)] [.seq 7 (l.length + 1) (gC e l), eS 7 e [x]] (.d (.b false)))
    (hg : ∀ k, k < l.length + 1 - i → (gC e l (0 + i + k)).wd = 7) (hy : ∀ k, k < 1 → (AV.d (e ([x].getD (0 + k) default))).wd = 7)
    (ho : OLe (.seq 7 (l.length + 1) fun j => if 0 + i ≤ j ∧ j < 0 + i + min 1 (l.length + 1 - i) then .d (e ([x].getD (0 + (j - (0 + i))) default))
      else if 0 + (IntKind.i64.wrap ((i : Int) + 1)).toNat ≤ j ∧ j < 0 + (IntKind.i64.wrap ((i : Int) + 1)).toNat + min (l.length + 1 - i) (l.length + 1 - (IntKind.i64.wrap ((i : Int) + 1)).toNat) then gC e l (0 + i + (j - (0 + (IntKind.i64.wrap ((i : Int) + 1)).toNat)))
      else gC e l j) (eS 7 e (insL l i x))) : Scr Tryz.prog Unit Unit :=
  .reg 13 [] [] [.pf a0, .pf a1, .pf (Eq.refl (l.length + 1))] <|
  .cst (A := (IntKind.i64.wrap ((l.length : Int) + 1)).toNat = l.length + 1) (.pf a2) [(0, .ref 0 (l.length + 1) (0 + 0) ((IntKind.i64.wrap ((l.length : Int) + 1)).toNat - 0)), (1, .d (.i .i64 (i : Int))), (2, .ref 1 1 0 1), (7, .d (.i .i64 1))]
    [(0, .ref 0 (l.length + 1) 0 (l.length + 1)), (1, .d (.i .i64 (i : Int))), (2, .ref 1 1 0 1), (7, .d (.i .i64 1))]
    [.seq 7 (l.length + 1) (gC e l), eS 7 e [x]] [.seq 7 (l.length + 1) (gC e l), eS 7 e [x]] (fun h => ⟨by rw [h]; rfl, rfl⟩) <|
  .reg 14 [] [(6, { h := .callr (.d (.b false)) })] [.pf w0, .pf w1, .pf (Eq.refl (l.length + 1)), .pf hx] <|
  .br true (.pf (p := (!false) = true) rfl) <|
  .reg 15 [8] [] [.pf w0, .pf w1, .pf (Eq.refl (l.length + 1)), .pf n1, .pf h1, .pf (Eq.refl (l.length + 1)), .pf (Eq.refl (l.length + 1)), .pf (Eq.refl (l.length + 1)), .pf hg] <|
  .reg 16 [] [(4, { obs := [(0, eS 7 e (insL l i x))] })] [.pf n1, .pf h1, .pf (Eq.refl (l.length + 1)), .pf (Eq.refl 1), .pf (Eq.refl (l.length + 1)), .pf hy, .pf ho] <|
  .reg 17 [] [] [] <|
  .ret [] ()
theorem tailC (he : ∀ x, (e x).wd = 7) {l : List α} {i : Nat} {x : α} (hi : i < l.length) (hl : l.length < 100000000000000) :
    AW none Tryz.prog Tryz.f52.ntmps C13 (FQ Tryz.prog Tryz.f52 (.ref 0 (l.length + 1) 0 (l.length + 1)) [eS 7 e (insL l i x), eS 7 e [x]])
      (frI l.length i (.ref 0 (l.length + 1) 0 l.length)) [.seq 7 (l.length + 1) (gC e l), eS 7 e [x]] := by
  have hw : IntKind.i64.wrap ((i : Int) + 1) = (i : Int) + 1 := by rw [wrap_i64] <;> omega
  have hw2 : IntKind.i64.wrap ((l.length : Int) + 1) = (l.length : Int) + 1 := by rw [wrap_i64] <;> omega
  have hwd : ∀ k, (gC e l k).wd = 7 := fun k => by
    unfold gC
    split
    · exact he _
    · rfl
  exact pTailG (ρ := Unit) (V := fun _ => .ref 0 (l.length + 1) 0 (l.length + 1)) (Lr := fun _ => [eS 7 e (insL l i x), eS 7 e [x]]) (r := ())
    (s := sC (e := e) l x i (by rw [hw2]; omega) (by rw [hw2]; omega) (by rw [hw2]; omega) (by rw [hw]; omega) (by rw [hw]; omega) (by omega) (by omega)
      (overlaps_ok (fn := Tryz.f64) (tR := 4) (te := 31) (sz := 7) (z1 := 7) (z2 := 7) Tryz.func64 (by kernel_rfl) (by kernel_rfl) (by kernel_rfl) (by kernel_rfl) Tryz.underlying25 Tryz.sizeOf31 (by decide) rfl rfl (by decide) rfl (by rw [hw]; omega) (by rw [hw]; omega) (by decide))
      (fun k _ => hwd _) (fun k _ => he _) (by
      rw [hw]
      refine oLe_seq insL_length.symm fun j hj => ?_
      rw [insL_get (by omega), show ((i : Int) + 1).toNat = i + 1 by omega]
      by_cases h2 : j = i
      · subst h2
        rw [if_pos (by omega), if_neg (by omega), if_pos rfl, show 0 + (j - (0 + j)) = 0 by omega]
        rfl
      · rw [if_neg (by omega), if_neg h2]
        by_cases h1 : j < i
        · rw [if_neg (by omega), if_pos h1, gC, if_pos (by omega)]
        · rw [if_pos (by omega), if_neg h1, gC, if_pos (by omega)]
          congr 3; omega)) (by kernel_rfl) rfl
theorem get_slot {c : Cx} {G : GFr} {a : Act} {t : Nat} {v : AV} (hf : FrIs c G a.tmps) (h : (t, [], v) ∈ G) : AV.IsV c v (a.tmps.getD t undef) := (hf _ h).2.1 (fun z hz => by cases hz)
/-- The capacity's test. -/
theorem r8_wp {l : List α} {i : Nat} {x : α} (h0 : 0 < l.length) {Q : Exit → Act → World → Prop} {X : Nat → Prop} {ms : Blocks} {w : World} {a : Act} {zn : Nat} (hr : Rel X ms [eS 7 e l, eS 7 e [x]] w)
    (hf : FrIs (cxOf X ms [eS 7 e l, eS 7 e [x]] w) (frI l.length i (.ref 0 l.length 0 l.length)).up a.tmps) (hN : a.tmps.size = Tryz.f52.ntmps)
    (hQ : ∀ a' ms' w' b tc, Rel X ms' [eS 7 e l, eS 7 e [x]] w' → Ext ms w ms' w' → (cxOf X ms [eS 7 e l, eS 7 e [x]] w).le (cxOf X ms' [eS 7 e l, eS 7 e [x]] w') → FrIs (cxOf X ms' [eS 7 e l, eS 7 e [x]] w') (frI l.length i (.ref 0 l.length 0 l.length)).up a'.tmps →
      a'.tmps.size = Tryz.f52.ntmps → a'.defers = a.defers → ms'[0]? = some (some (b, tc)) → l.length ≤ tc → a'.eval (.tmp 0) = .slice (some ⟨b, 0, none⟩) l.length tc → a'.eval (.tmp 31) = .bool (decide (IntKind.i64.wrap ((l.length : Int) + 1) > (tc : Int))) → Q .normal a' w') :
    R8.wpIn (fenceOf none) zn Tryz.prog Q a w := by
  rw [r8_eq]
  refine wpIn_region ?_
  rw [show List.range (regOps R8).size = [0, 1, 2, 3] ++ [4, 5] by kernel_rfl]
  refine wpOps_pre (hs := []) (C := []) (L1 := [eS 7 e l, eS 7 e [x]]) (G1 := [(29, [], .ref 0 l.length 0 l.length), (28, [], .d (.i .i64 (IntKind.i64.wrap ((l.length : Int) + 1)))), (27, [], .d (.i .i64 1)), (26, [], .d (.i .i64 (l.length : Int))),
    (7, [], .d (.i .i64 1)), (8, [], .d (.i .i64 (l.length : Int))), (2, [], .ref 1 1 0 1), (1, [], .d (.i .i64 (i : Int))), (0, [], .ref 0 l.length 0 l.length)]) (by kernel_rfl) trivial hr hf hN fun a1 ms1 w1 r1 e1 c1 f1 n1 d1 => ?_
  have k1 := IsV.is1 rfl (by simp) (by simp) (get_slot f1 (t := 29) (v := .ref 0 l.length 0 l.length) (by simp))
  have k0 := IsV.is1 rfl (by simp) (by simp) (get_slot f1 (t := 0) (v := .ref 0 l.length 0 l.length) (by simp))
  have at0 : ∀ {t : Nat} {v : Value}, a1.tmps.getD t undef = v → AV.Is (cxOf X ms1 [eS 7 e l, eS 7 e [x]] w1) (.ref 0 l.length 0 l.length) [v] → ∃ b tc, ms1[0]? = some (some (b, tc)) ∧ l.length ≤ tc ∧ v = .slice (some ⟨b, 0, none⟩) l.length tc := fun {t v} _ h => by
    cases h with
    | ref _ _ _ _ _ h =>
    obtain ⟨_, ⟨_, _, rfl⟩, _, h⟩ := h
    obtain ⟨_, h⟩ := h 7 _ rfl
    rcases h with ⟨_, _, h⟩ | ⟨h, _⟩ | ⟨b, tc, m, h1, h2⟩
    · simp only [Value.slice.injEq] at h; omega
    · exact absurd rfl h
    · exact ⟨b, tc, m, h1, by simpa using h2⟩
  obtain ⟨b, tc, m1, hle, h29⟩ := at0 rfl k1
  obtain ⟨b', tc', m1', _, h0'⟩ := at0 rfl k0
  have e1' := m1'.symm.trans m1
  cases e1'
  refine ops_one (o := opAt (regOps R8) 4) (by kernel_rfl) (by kernel_rfl) (OpOk.value (cap_run (x := .tmp 29) (t := 25) (by kernel_rfl) Tryz.underlying25 h29) ?_)
  rw [show (opAt (regOps R8) 4).dst = some 30 by kernel_rfl]
  obtain ⟨p1, p2, p3⟩ := putG_is (dst := some 30) (ch := []) (v := .d (.i .i64 (tc : Int))) (u := .int .i64 tc) (G := [(29, [], .ref 0 l.length 0 l.length), (28, [], .d (.i .i64 (IntKind.i64.wrap ((l.length : Int) + 1)))), (27, [], .d (.i .i64 1)), (26, [], .d (.i .i64 (l.length : Int))),
    (7, [], .d (.i .i64 1)), (8, [], .d (.i .i64 (l.length : Int))), (2, [], .ref 1 1 0 1), (1, [], .d (.i .i64 (i : Int))), (0, [], .ref 0 l.length 0 l.length)]) (G1 := (30, [], .d (.i .i64 (tc : Int))) :: [(29, [], .ref 0 l.length 0 l.length), (28, [], .d (.i .i64 (IntKind.i64.wrap ((l.length : Int) + 1)))), (27, [], .d (.i .i64 1)), (26, [], .d (.i .i64 (l.length : Int))),
    (7, [], .d (.i .i64 1)), (8, [], .d (.i .i64 (l.length : Int))), (2, [], .ref 1 1 0 1), (1, [], .d (.i .i64 (i : Int))), (0, [], .ref 0 l.length 0 l.length)]) (N := Tryz.f52.ntmps) (by kernel_rfl) n1 f1 (fun _ => .one _ _ rfl (.d _ _ (.i _ _))) (fun h => absurd (fun z hz => by cases hz) h)
  refine runOps_ok (hs := []) none zn [5] _ _ ([(31, [], .d (.b (decide (IntKind.i64.wrap ((l.length : Int) + 1) > (tc : Int)))))] ++ (30, [], .d (.i .i64 (tc : Int))) :: [(29, [], .ref 0 l.length 0 l.length), (28, [], .d (.i .i64 (IntKind.i64.wrap ((l.length : Int) + 1)))), (27, [], .d (.i .i64 1)), (26, [], .d (.i .i64 (l.length : Int))),
    (7, [], .d (.i .i64 1)), (8, [], .d (.i .i64 (l.length : Int))), (2, [], .ref 1 1 0 1), (1, [], .d (.i .i64 (i : Int))), (0, [], .ref 0 l.length 0 l.length)]) [eS 7 e l, eS 7 e [x]] [] ms1 w1 _ (by kernel_rfl) trivial r1 p1 p2 fun a2 ms2 w2 r2 e2 c2 f2 n2 d2 => ?_
  have m2 : ms2[0]? = some (some (b, tc)) := by
    obtain ⟨_, h1, _, _, h2⟩ := c2.ob 0 (eS 7 e l) (by simp [cxOf]) rfl (by simp [eS, Ob.stamp])
    obtain rfl : _ = eS 7 e l := Option.some.inj h1.symm
    exact (h2 rfl).trans m1
  have k0' := IsV.is1 rfl (by simp) (by simp) (get_slot f2 (t := 0) (v := .ref 0 l.length 0 l.length) (by simp))
  have h0'' : a2.tmps.getD 0 undef = .slice (some ⟨b, 0, none⟩) l.length tc := by
    generalize a2.tmps.getD 0 undef = v at k0'
    cases k0' with
    | ref _ _ _ _ _ h =>
    obtain ⟨_, ⟨_, _, rfl⟩, _, h⟩ := h
    obtain ⟨_, h⟩ := h 7 _ rfl
    rcases h with ⟨_, _, h⟩ | ⟨h, _⟩ | ⟨b'', tc'', m, h1, h2⟩
    · simp only [Value.slice.injEq] at h; omega
    · exact absurd rfl h
    · have e := m2.symm.trans m
      cases e
      simpa using h2
  exact hQ a2 ms2 w2 b tc r2 (e1.trans e2) (c1.trans c2) (fun q hq => f2 q (by
    simp only [frI, Fr.up, List.map_cons, List.map_nil, List.mem_cons, List.not_mem_nil, or_false] at hq
    rcases hq with rfl | rfl | rfl | rfl | rfl <;> simp)) n2 (d2.trans (p3.trans d1)) m2 hle h0'' (IsV.b (get_slot f2 (t := 31) (v := .d (.b (decide (IntKind.i64.wrap ((l.length : Int) + 1) > (tc : Int))))) (by simp)))
/-- No room: a new row. -/
theorem r9_wp {l : List α} {i : Nat} {x : α} (hi : i < l.length) (hl : (l.length + 1) * (4 * 128) ≤ 2 ^ 48) {Q : Exit → Act → World → Prop} {X : Nat → Prop} {ms : Blocks} {w : World} {a : Act} {zn b : Nat} (hr : Rel X ms [eS 7 e l, eS 7 e [x]] w)
    (hf : FrIs (cxOf X ms [eS 7 e l, eS 7 e [x]] w) (frI l.length i (.ref 0 l.length 0 l.length)).up a.tmps) (hN : a.tmps.size = Tryz.f52.ntmps) (hm : ms[0]? = some (some (b, l.length)))
    (hQ : ∀ a' ms' w', Rel X ms' [eS 7 e l, eS 7 e [x], .seq 7 (l.length + 1) (gB e l i)] w' → Ext ms w ms' w' → (cxOf X ms [eS 7 e l, eS 7 e [x]] w).le (cxOf X ms' [eS 7 e l, eS 7 e [x], .seq 7 (l.length + 1) (gB e l i)] w') →
      FrIs (cxOf X ms' [eS 7 e l, eS 7 e [x], .seq 7 (l.length + 1) (gB e l i)] w') (Fr.up ((9, .ref 2 (l.length + 1) 0 (l.length + 1)) :: frI l.length i (.ref 0 l.length 0 l.length))) a'.tmps →
      a'.tmps.size = Tryz.f52.ntmps → a'.defers = a.defers → Q .normal a' w') :
    R9.wpIn (fenceOf none) zn Tryz.prog Q a w := by
  have hn : l.length < 100000000000000 := by omega
  have hw2 : IntKind.i64.wrap ((l.length : Int) + 1) = (l.length : Int) + 1 := by rw [wrap_i64] <;> omega
  have hw3 : IntKind.i64.wrap (IntKind.i64.wrap ((l.length : Int) + 1) - (i : Int)) = ((l.length + 1 - i : Nat) : Int) := by rw [hw2, wrap_i64] <;> omega
  rw [r9_eq]
  refine wpIn_region ?_
  rw [show List.range (regOps R9).size = [0, 1, 2, 3, 4, 5, 6, 7] ++ [8, 9] by kernel_rfl]
  refine wpOps_pre (hs := []) (C := [(0 : Int) ≤ (i : Int), i ≤ l.length, l.length = l.length]) (L1 := [eS 7 e l, eS 7 e [x]]) (G1 := [(39, [], .d (.i .i64 (IntKind.i64.wrap (IntKind.i64.wrap ((l.length : Int) + 1) - (i : Int))))), (38, [], .d (.i .i64 (i : Int))), (37, [], .d (.i .i64 (IntKind.i64.wrap ((l.length : Int) + 1)))),
    (36, [], .d (.i .i64 1)), (35, [], .d (.i .i64 (l.length : Int))), (34, [], .ref 0 l.length (0 + 0) (i - 0)), (33, [], .d (.i .i64 (i : Int))), (32, [], .ref 0 l.length 0 l.length),
    (7, [], .d (.i .i64 1)), (8, [], .d (.i .i64 (l.length : Int))), (2, [], .ref 1 1 0 1), (1, [], .d (.i .i64 (i : Int))), (0, [], .ref 0 l.length 0 l.length)]) (by kernel_rfl) ⟨by omega, by omega, rfl, trivial⟩ hr hf hN fun a1 ms1 w1 r1 e1 c1 f1 n1 d1 => ?_
  have m1 : ms1[0]? = some (some (b, l.length)) := by
    obtain ⟨_, h1, _, _, h2⟩ := c1.ob 0 (eS 7 e l) (by simp [cxOf]) rfl (by simp [eS, Ob.stamp])
    obtain rfl : _ = eS 7 e l := Option.some.inj h1.symm
    exact (h2 rfl).trans hm
  have k34 := IsV.is1 rfl (by simp) (by simp) (get_slot f1 (t := 34) (v := .ref 0 l.length (0 + 0) (i - 0)) (by simp))
  have h34 : a1.eval (.tmp 34) = .slice (some ⟨b, 0, none⟩) i l.length := by
    show a1.tmps.getD 34 undef = _
    generalize a1.tmps.getD 34 undef = v at k34
    cases k34 with
    | ref _ _ _ _ _ h =>
    obtain ⟨_, ⟨_, _, rfl⟩, _, h⟩ := h
    obtain ⟨_, h⟩ := h 7 _ rfl
    rcases h with ⟨h, _⟩ | ⟨h, _⟩ | ⟨b'', tc'', m, h1, h2⟩
    · have e : some (none : Option (Nat × Nat)) = some (some (b, l.length)) := h.symm.trans m1
      cases e
    · exact absurd rfl h
    · have e := m1.symm.trans m
      cases e
      simpa using h2
  have h39 : a1.eval (.tmp 39) = .int .i64 ((l.length + 1 - i : Nat) : Int) := by
    have := IsV.i (get_slot f1 (t := 39) (v := .d (.i .i64 (IntKind.i64.wrap (IntKind.i64.wrap ((l.length : Int) + 1) - (i : Int))))) (by simp))
    rw [hw3] at this
    exact this
  obtain ⟨arr, ty, cs, g1, g2, g3, g4, g5, g6⟩ := r1.seq (o := 0) rfl m1
  obtain ⟨info, hinf⟩ : ∃ info, Tryz.prog.info? 31 = some info := ⟨_, Option.eq_some_of_isSome (by kernel_rfl)⟩
  have hsz : info.size = 7 := by
    have : (Tryz.prog.info? 31).map (·.size) = some 7 := by kernel_rfl
    rw [hinf] at this; simpa using this
  have hby : info.bytes = 128 := by
    have : (Tryz.prog.info? 31).map (·.bytes) = some 128 := by kernel_rfl
    rw [hinf] at this; simpa using this
  obtain ⟨z, hz⟩ : ∃ z, info.zero = some z := by
    have : ((Tryz.prog.info? 31).bind (·.zero)).isSome = true := by kernel_rfl
    rw [hinf] at this
    exact Option.isSome_iff_exists.1 this
  have hzs : z.cells.size = 7 := by
    have : ((Tryz.prog.info? 31).bind (·.zero)).map (fun z => z.cells.size) = some 7 := by kernel_rfl
    rw [hinf] at this
    simpa [hz] using this
  have hzone : ∀ v ∈ z.cells.toList, v.oneCell' = true := by
    have : ((Tryz.prog.info? 31).bind (·.zero)).map (fun z => z.cells.toList.all fun v => v.oneCell') = some true := by kernel_rfl
    rw [hinf] at this
    have h : z.cells.toList.all (fun v => v.oneCell') = true := by simpa [hz] using this
    exact List.all_eq_true.1 h
  have hcsi : ∀ k, k < i → (cs k).length = 7 := fun k hk => g5 k (by omega)
  have hold : (Builtin.firstCells info.size i (.slice (some ⟨b, 0, none⟩) i l.length)).run Tryz.prog w1.drew = .ok ((List.range i).flatMap cs).toArray w1.drew := by
    rw [hsz]
    exact run_firstCells (w := w1) (w1 := w1.drew) (off := 0) (cap := l.length) rfl g1 hcsi (fun k hk j hj => by simpa using g6 k (by omega) j hj) i
  have hfit : Builtin.nextslicecap (i + (l.length + 1 - i)) l.length * info.bytes ≤ 281474976710656 := by
    have h1 := nextslicecap_le (need := i + (l.length + 1 - i)) (old := l.length) (by omega)
    rw [hby]
    omega
  have hap := Lib.run_append_grow_zeros (P := Tryz.prog) w1 25 3 (opAt (regOps R9) 8).type 31 info z .i64 .i64 Tryz.underlying25 Tryz.underlying3 hinf hz (some ⟨b, 0, none⟩) i l.length ((List.range i).flatMap cs) hold (l.length + 1 - i) (by omega) (by omega) (by omega) (by omega) (by rw [hby]; omega) hfit
  rw [show i + (l.length + 1 - i) = l.length + 1 by omega] at hap
  obtain ⟨nc, hnc⟩ : ∃ nc, nc = grownCap w1 (l.length + 1) l.length 31 := ⟨_, rfl⟩
  have hge := grownCap_ge w1 (l.length + 1) l.length 31
  rw [← hnc] at hap hge
  obtain ⟨row, hrow⟩ : ∃ row : Array Value, row = ((List.range i).flatMap cs).toArray ++ Builtin.zeroCells z.cells (l.length + 1 - i) ++ Builtin.zeroCells z.cells (nc - (l.length + 1)) := ⟨_, rfl⟩
  rw [← hrow] at hap
  have hkl := flatMap_range_length i 7 cs hcsi
  have hrs : row.size = nc * 7 := by
    rw [hrow, Array.size_append, Array.size_append, List.size_toArray, hkl, size_zeroCells, size_zeroCells, hzs]
    omega
  have hone : ∀ v ∈ row.toList, v.oneCell' = true := by
    rw [hrow]
    simp only [Array.toList_append, List.mem_append]
    rintro v ((hv | hv) | hv)
    · exact flat_one (fun k (hk : k < i) => g4 k (by omega)) v hv
    · exact zeroCells_one hzone _ v hv
    · exact zeroCells_one hzone _ v hv
  have hget : ∀ k, k < i → ∀ j, j < 7 → row[k * 7 + j]? = (cs k)[j]? := fun k hk j hj => by
    rw [hrow, ← Array.getElem?_toList]
    simp only [Array.toList_append, List.append_assoc]
    rw [List.getElem?_append_left (by rw [hkl]; omega)]
    exact flatMap_range_getElem? i 7 cs hcsi k j hk hj
  have hcl : ∀ j, j < l.length + 1 → ((row.toList.drop (j * 7)).take 7).length = 7 := fun j hj => by
    simp only [List.length_take, List.length_drop, Array.length_toList, hrs]
    omega
  obtain ⟨w2, hw⟩ : ∃ w2, w2 = w1.drew.alloc (.cells row 31) := ⟨_, rfl⟩
  rw [← hw] at hap
  have hgrow : Grow w1 w2 := by rw [hw]; exact (Grow.drew w1).trans (Grow.alloc _ _)
  have hhp : w2.heap[w1.heap.size]? = some (.cells row 31 (0, 0)) := by rw [hw]; exact heap_new w1.drew _
  have hsize : w1.heap.size < w2.heap.size := lt_of_heap hhp
  obtain ⟨q1, q2, q3⟩ := r1.push (m := some (w1.heap.size, nc)) (obj := .seq 7 (l.length + 1) (gB e l i)) hgrow (fun b tc e => by cases e; exact ⟨Nat.le_refl _, hsize⟩) (fun hcx => by
    refine .inr ⟨w1.heap.size, nc, row, 31, fun j => if j < i then cs j else (row.toList.drop (j * 7)).take 7, by simp [cxOf, ← r1.len], hhp, hge, ⟨hrs, hone⟩, fun j hj => ?_, fun j hj => ?_, fun j hj q hq => ?_⟩
    · by_cases hji : j < i
      · simp only [gB, if_pos hji]; exact (g4 j (by omega)).mono hcx
      · simp only [gB, if_neg hji, garb]
        have := garb_is (c := cxOf X (ms1 ++ [some (w1.heap.size, nc)]) ([eS 7 e l, eS 7 e [x]] ++ [.seq 7 (l.length + 1) (gB e l i)]) w2) (l := (row.toList.drop (j * 7)).take 7) fun v hv => hone v (List.mem_of_mem_drop (List.mem_of_mem_take hv))
        rw [hcl j hj] at this
        exact .agg _ _ this
    · by_cases hji : j < i
      · simp only [if_pos hji]; exact g5 j (by omega)
      · simp only [if_neg hji]; exact hcl j hj
    · by_cases hji : j < i
      · simp only [if_pos hji]; exact hget j hji q hq
      · simp only [if_neg hji]
        rw [List.getElem?_take_of_lt hq, List.getElem?_drop, Array.getElem?_toList])
  have hexec : (execOp a1.eval (opAt (regOps R9) 8)).run Tryz.prog w1 = .ok (.value (.slice (some ⟨w1.heap.size, 0, none⟩) (l.length + 1) nc)) w2 := by
    have hop : (opAt (regOps R9) 8).op = .call ⟨.builtin .append, #[.tmp 34, .tmp 39], #[25, 3]⟩ := by kernel_rfl
    generalize opAt (regOps R9) 8 = o at hop hap
    obtain ⟨dst, op, ty, pos, after, guard⟩ := o
    subst hop
    refine run_v (s := Builtin.append_ #[25, 3] ty (#[.tmp 34, .tmp 39].map a1.eval)) ?_
    have ha : (#[.tmp 34, .tmp 39] : Array Operand).map a1.eval = #[.slice (some ⟨b, 0, none⟩) i l.length, .int .i64 ((l.length + 1 - i : Nat) : Int)] := by
      simp [h34, h39]
    rw [ha]
    exact hap
  refine ops_one (o := opAt (regOps R9) 8) (by kernel_rfl) (by kernel_rfl) (OpOk.value hexec ?_)
  rw [show (opAt (regOps R9) 8).dst = some 40 by kernel_rfl]
  obtain ⟨p1, p2, p3⟩ := putG_is (dst := some 40) (ch := []) (v := .ref 2 (l.length + 1) 0 (l.length + 1)) (u := .slice (some ⟨w1.heap.size, 0, none⟩) (l.length + 1) nc) (G := (frI l.length i (.ref 0 l.length 0 l.length)).up)
    (G1 := (40, [], .ref 2 (l.length + 1) 0 (l.length + 1)) :: (frI l.length i (.ref 0 l.length 0 l.length)).up) (N := Tryz.f52.ntmps) (by kernel_rfl) n1 (fun q hq => (f1.mono q3) q (by
    simp only [frI, Fr.up, List.map_cons, List.map_nil, List.mem_cons, List.not_mem_nil, or_false] at hq
    rcases hq with rfl | rfl | rfl | rfl | rfl <;> simp)) (fun _ => ref_new r1.len hge) (fun h => absurd (fun z hz => by cases hz) h)
  refine runOps_ok (hs := []) none zn [9] _ _ ((9, [], .ref 2 (l.length + 1) 0 (l.length + 1)) :: (40, [], .ref 2 (l.length + 1) 0 (l.length + 1)) :: (frI l.length i (.ref 0 l.length 0 l.length)).up) [eS 7 e l, eS 7 e [x], .seq 7 (l.length + 1) (gB e l i)] [] _ w2 _ (by kernel_rfl) trivial q1 p1 p2 fun a2 ms2 w3 r2 e2 c2 f2 n2 d2 => ?_
  exact hQ a2 ms2 w3 r2 ((e1.trans q2).trans e2) ((c1.trans q3).trans c2) (fun q hq => f2 q (by
    rcases List.mem_cons.1 (show q ∈ (9, [], AV.ref 2 (l.length + 1) 0 (l.length + 1)) :: (frI l.length i (.ref 0 l.length 0 l.length)).up from hq) with hq | hq
    · exact List.mem_cons.2 (.inl hq)
    · exact List.mem_cons.2 (.inr (List.mem_cons.2 (.inr hq))))) n2 (d2.trans (p3.trans d1))
theorem regc {N : Nat} {Q : Post} {fr fr' fr2 : Fr} {L L' : List Ob} {id : Nat} {c : Code} {C : List Prop} (hq : c = .region id (regOps c) false) (h : regionRun Tryz.prog (regOps c) N [] fr L = some (fr', L', C)) (hc : AllP C)
    (hm : ∀ q ∈ fr2, q ∈ fr') (k : Q .normal fr2 L') : AW none Tryz.prog N c Q fr L := by
  have := gst_reg (id := id) (Q := Q) h hc hm k
  rwa [← hq] at this
theorem head (_he : ∀ x, (e x).wd = 7) {l : List α} {i : Nat} {x : α} (hi : i < l.length) (Q : Post) (h : AW none Tryz.prog Tryz.f52.ntmps (.seq (.seq R8 (.cond (.tmp 31) (.seq R9 B10) .skip)) C13) Q (frI l.length i (.ref 0 l.length 0 l.length)) [eS 7 e l, eS 7 e [x]]) :
    AW none Tryz.prog Tryz.f52.ntmps (.seq R0 (.seq R1 (.seq R2 (.seq (.seq (cL X3) (.cond (.tmp 16) (cT (cR X3)) .skip)) (.seq R5 (.seq (.seq (cL X6) (.cond (.tmp 22) (cT (cR X6)) .skip)) (.seq (.seq R8 (.cond (.tmp 31) (.seq R9 B10) .skip)) C13))))))) Q
      (argFr [.ref 0 l.length 0 l.length, .d (.i .i64 (i : Int)), .ref 1 1 0 1] 0) [eS 7 e l, eS 7 e [x]] := by
  have hne : ((i : Int) == (l.length : Int)) = false := by simp; omega
  refine aw_seq (regc (L' := [eS 7 e l, eS 7 e [x]]) (id := 0) (C := []) (fr' := (6, .full 0 fun _ => .b false) :: argFr [.ref 0 l.length 0 l.length, .d (.i .i64 (i : Int)), .ref 1 1 0 1] 0) (fr2 := argFr [.ref 0 l.length 0 l.length, .d (.i .i64 (i : Int)), .ref 1 1 0 1] 0)
    (by kernel_rfl) (by kernel_rfl) trivial (fun q hq => List.mem_cons_of_mem _ hq) ?_)
  refine aw_seq (regc (L' := [eS 7 e l, eS 7 e [x]]) (id := 1) (C := [(0 : Int) ≤ (i : Int), i ≤ l.length, l.length = l.length]) (fr' := (12, .ref 0 l.length (0 + i) (l.length - i)) :: (11, .d (.i .i64 (i : Int))) :: (10, .ref 0 l.length 0 l.length) :: argFr [.ref 0 l.length 0 l.length, .d (.i .i64 (i : Int)), .ref 1 1 0 1] 0)
    (fr2 := argFr [.ref 0 l.length 0 l.length, .d (.i .i64 (i : Int)), .ref 1 1 0 1] 0)
    (by kernel_rfl) (by kernel_rfl) ⟨by omega, by omega, rfl, trivial⟩ (fun q hq => List.mem_cons_of_mem _ (List.mem_cons_of_mem _ (List.mem_cons_of_mem _ hq))) ?_)
  refine aw_seq (regc (L' := [eS 7 e l, eS 7 e [x]]) (id := 2) (C := []) (fr' := (7, .d (.i .i64 1)) :: (14, .d (.i .i64 1)) :: (13, .ref 1 1 0 1) :: argFr [.ref 0 l.length 0 l.length, .d (.i .i64 (i : Int)), .ref 1 1 0 1] 0)
    (fr2 := [(7, .d (.i .i64 1)), (2, .ref 1 1 0 1), (1, .d (.i .i64 (i : Int))), (0, .ref 0 l.length 0 l.length)])
    (by kernel_rfl) (by kernel_rfl) trivial (fun q hq => by
      simp only [List.mem_cons, List.not_mem_nil, or_false] at hq
      simp only [argFr, List.mem_cons, List.not_mem_nil, or_false]
      rcases hq with rfl | rfl | rfl | rfl <;> simp) ?_)
  refine aw_seq (aw_seq (regc (L' := [eS 7 e l, eS 7 e [x]]) (id := 3) (C := []) (fr' := (16, .d (.b false)) :: (15, .d (.i .i64 1)) :: [(7, .d (.i .i64 1)), (2, .ref 1 1 0 1), (1, .d (.i .i64 (i : Int))), (0, .ref 0 l.length 0 l.length)])
    (fr2 := [(16, .d (.b false)), (7, .d (.i .i64 1)), (2, .ref 1 1 0 1), (1, .d (.i .i64 (i : Int))), (0, .ref 0 l.length 0 l.length)])
    (by kernel_rfl) (by kernel_rfl) trivial (fun q hq => by
      simp only [List.mem_cons, List.not_mem_nil, or_false] at hq ⊢
      rcases hq with rfl | rfl | rfl | rfl | rfl <;> simp) ?_))
  refine aw_cond (b := false) rfl (fun h => by cases h) fun _ => aw_skip ?_
  refine aw_seq (regc (L' := [eS 7 e l, eS 7 e [x]]) (id := 5) (C := []) (fr' := (8, .d (.i .i64 (l.length : Int))) :: (19, .d (.i .i64 (l.length : Int))) :: (18, .ref 0 l.length 0 l.length) :: [(16, .d (.b false)), (7, .d (.i .i64 1)), (2, .ref 1 1 0 1), (1, .d (.i .i64 (i : Int))), (0, .ref 0 l.length 0 l.length)])
    (fr2 := frI l.length i (.ref 0 l.length 0 l.length))
    (by kernel_rfl) (by kernel_rfl) trivial (fun q hq => by
      simp only [frI, List.mem_cons, List.not_mem_nil, or_false] at hq ⊢
      rcases hq with rfl | rfl | rfl | rfl | rfl <;> simp) ?_)
  refine aw_seq (aw_seq (regc (L' := [eS 7 e l, eS 7 e [x]]) (id := 6) (C := []) (fr' := (22, .d (.b ((i : Int) == (l.length : Int)))) :: (21, .d (.i .i64 (l.length : Int))) :: (20, .d (.i .i64 (i : Int))) :: frI l.length i (.ref 0 l.length 0 l.length))
    (fr2 := (22, .d (.b ((i : Int) == (l.length : Int)))) :: frI l.length i (.ref 0 l.length 0 l.length))
    (by kernel_rfl) (by kernel_rfl) trivial (fun q hq => by
      rcases List.mem_cons.1 hq with rfl | hq
      · exact List.mem_cons_self
      · exact List.mem_cons_of_mem _ (List.mem_cons_of_mem _ (List.mem_cons_of_mem _ hq))) ?_))
  refine aw_cond (b := ((i : Int) == (l.length : Int))) rfl (fun h => by rw [hne] at h; cases h) fun _ => aw_skip ?_
  exact aw_weaken h fun q hq => ⟨q.2, List.mem_cons_of_mem _ hq, LeV.refl _⟩
theorem tail8 (he : ∀ x, (e x).wd = 7) {l : List α} {i : Nat} {x : α} (hi : i < l.length) (hl : (l.length + 1) * (4 * 128) ≤ 2 ^ 48) :
    AW none Tryz.prog Tryz.f52.ntmps (.seq (.seq R8 (.cond (.tmp 31) (.seq R9 B10) .skip)) C13)
      (fun e1 fr L => FQ Tryz.prog Tryz.f52 (.ref 0 (l.length + 1) 0 (l.length + 1)) [eS 7 e (insL l i x), eS 7 e [x]] e1 fr L ∨
        FQ Tryz.prog Tryz.f52 (.ref 2 (l.length + 1) 0 (l.length + 1)) [eS 7 e l, eS 7 e [x], eS 7 e (insL l i x)] e1 fr L)
      (frI l.length i (.ref 0 l.length 0 l.length)) [eS 7 e l, eS 7 e [x]] := by
  have hn : l.length < 100000000000000 := by omega
  have hw2 : IntKind.i64.wrap ((l.length : Int) + 1) = (l.length : Int) + 1 := by rw [wrap_i64] <;> omega
  intro zn df X ms w a hr hf hN hd
  refine wpIn_seq (wpIn_seq (r8_wp (by omega) hr hf hN fun a1 ms1 w1 b tc r1 e1 c1 f1 n1 d1 m1 hle h0e h31 => ?_))
  by_cases hcap : l.length + 1 ≤ tc
  · refine wpIn_cond_false (h31.trans (by rw [hw2]; simp; omega)) (wpIn_skip ?_)
    obtain ⟨q1, q3⟩ := r1.room (o := 0) (n' := l.length + 1) rfl m1 (by omega) hcap
    refine wpIn_mono (tailC he hi hn zn df X ms1 w1 a1 q1 (fun q hq => ?_) n1 (d1.trans hd)) ?_
    · simp only [frI, Fr.up, List.map_cons, List.map_nil, List.mem_cons, List.not_mem_nil, or_false] at hq
      have f1' := f1.mono q3
      rcases hq with rfl | rfl | rfl | rfl | rfl
      · exact f1' _ (by simp [frI, Fr.up])
      · exact f1' _ (by simp [frI, Fr.up])
      · exact f1' _ (by simp [frI, Fr.up])
      · exact f1' _ (by simp [frI, Fr.up])
      · obtain ⟨s1, s2, s3⟩ := f1 (0, [], .ref 0 l.length 0 l.length) (by simp [frI, Fr.up])
        refine ⟨s1, fun _ => ?_, s3⟩
        have h0e' : a1.tmps.getD 0 undef = .slice (some ⟨b, 0, none⟩) l.length tc := h0e
        rw [h0e']
        refine .one _ _ rfl (.ref _ _ _ _ _ ⟨by simp [cxOf], ⟨_, _, rfl⟩, fun obj s ho hs => ?_, fun sz' f' hL' => ⟨by omega, .inr (.inr ⟨b, tc, m1, hcap, by simp⟩)⟩⟩)
        obtain rfl := Option.some.inj ho
        simp [Ob.stamp] at hs; omega
    · rintro e2 a2 w2 ⟨ms2, fr2, L2, hq, r2, e3, c3, f3, n3, d3⟩
      exact ⟨ms2, fr2, L2, .inl hq, r2, e1.trans e3, (c1.trans q3).trans c3, f3, n3, d3⟩
  · have htc : tc = l.length := by omega
    subst htc
    refine wpIn_cond_true (h31.trans (by rw [hw2]; simp; omega)) (wpIn_seq (r9_wp hi hl r1 f1 n1 m1 fun a2 ms2 w2 r2 e2 c2 f2 n2 d2 => ?_))
    refine wpIn_mono (tailB he hi hn zn df X ms2 w2 a2 r2 f2 n2 ((d2.trans d1).trans hd)) ?_
    rintro e3 a3 w3 ⟨ms3, fr3, L3, ⟨rfl, hq⟩, r3, e3, c3, f3, n3, d3⟩
    exact ⟨ms3, fr3, L3, .inr ⟨.inr rfl, hq⟩, r3, (e1.trans e2).trans e3, (c1.trans c2).trans c3, f3, n3, d3⟩
theorem ins_lt (he : ∀ x, (e x).wd = 7) {l : List α} {i : Nat} {x : α} (hi : i < l.length) (hl : (l.length + 1) * (4 * 128) ≤ 2 ^ 48) :
    CallOk Tryz.prog 52 [.ref 0 l.length 0 l.length, .d (.i .i64 (i : Int)), .ref 1 1 0 1] [eS 7 e l, eS 7 e [x]] (.ref 0 (l.length + 1) 0 (l.length + 1)) [eS 7 e (insL l i x), eS 7 e [x]] := by
  intro X ms w us hr hu
  have hlen := insL_length (l := l) (i := i) (x := x)
  refine (calls_or (L := [eS 7 e l, eS 7 e [x]]) (v := .ref 0 (l.length + 1) 0 (l.length + 1)) (v3 := .ref 2 (l.length + 1) 0 (l.length + 1)) Tryz.func52 ci_eq (Nat.le_of_ble_eq_true (by kernel_rfl)) (by simp) rfl (lsOk (n := 2) (L := [eS 7 e (insL l i x), eS 7 e [x]]) ⟨fun _ _ => rfl, fun _ _ => rfl, trivial⟩)
    (by simp) rfl (lsOk (n := 3) (L := [eS 7 e l, eS 7 e [x], eS 7 e (insL l i x)]) ⟨fun _ _ => rfl, fun _ _ => rfl, fun _ _ => rfl, trivial⟩) (head (x := x) he hi _ (tail8 he hi hl)) hr hu).mono fun e1 w1 h => ?_
  rcases h with h | ⟨u, ms1, rfl, h1, h2, h3, h4⟩
  · exact h
  · rw [← hlen] at h4 ⊢
    obtain ⟨ms2, k1, k2, k3, k4⟩ := third hr hlen h1 h2 h3 h4
    exact ⟨u, ms2, rfl, k1, k2, k3, k4⟩
/-! at the end -/
noncomputable def sE (l : List α) (x : α) (a1 : (0 : Int) ≤ (l.length : Int)) (a2 : l.length ≤ l.length) (a3 : ((l.length : Int) == (l.length : Int)) = true)
    (hx : ∀ k, k < 1 → (AV.d (e ([x].getD k default))).wd = 7) (hs : (l.length + 1) * (2 * 128) ≤ 2 ^ 48)
    (ho : OLe (.seq 7 (l.length + 1) (catF l.length (fun j => .d (e (l.getD j default))) (fun j => .d (e ([x].getD j default))))) (eS 7 e (insL l l.length x))) : Scr Tryz.prog Unit Unit :=
  .reg 0 [] [] [] <|
  .reg 1 [] [] [.pf a1, .pf a2, .pf (Eq.refl l.length)] <|
  .reg 2 [] [] [] <|
  .reg 3 [] [] [] <|
  .br false (.pf (p := ((1 : Int) == 0) = false) (by decide)) <|
  .reg 5 [] [] [] <|
  .reg 6 [] [] [] <|
  .br true (.pf a3) <|
  .reg 7 [] [(2, { obs := [(0, eS 7 e (insL l l.length x))] })] [.pf (Eq.refl 1), .pf (Eq.refl l.length), .pf (Eq.refl l.length), .pf hx, .pf hs, .pf ho] <|
  .ret [] ()
set_option maxRecDepth 100000 in
theorem ins_eq (he : ∀ x, (e x).wd = 7) {l : List α} {x : α} (hl : (l.length + 1) * (4 * 128) ≤ 2 ^ 48) :
    CallOk Tryz.prog 52 [.ref 0 l.length 0 l.length, .d (.i .i64 (l.length : Int)), .ref 1 1 0 1] [eS 7 e l, eS 7 e [x]] (.ref 0 (l.length + 1) 0 (l.length + 1)) [eS 7 e (insL l l.length x), eS 7 e [x]] :=
  fOk (ρ := Unit) (V := fun _ => .ref 0 (l.length + 1) 0 (l.length + 1)) (Lr := fun _ => [eS 7 e (insL l l.length x), eS 7 e [x]]) (r := ())
    (s := sE (e := e) l x (by omega) (Nat.le_refl _) (by simp) (fun k _ => he _) (by omega) (by
      refine oLe_seq insL_length.symm fun j hj => ?_
      rw [insL_get (Nat.le_refl _)]
      by_cases h1 : j < l.length
      · rw [catF_lt h1, if_pos h1]
      · have h2 : j = l.length := by omega
        subst h2
        rw [catF_ge (by omega), if_neg (by omega), if_pos rfl, Nat.sub_self]
        rfl)) Tryz.func52 ci_eq (by kernel_rfl) rfl
theorem ins_ok (he : ∀ x, (e x).wd = 7) {l : List α} {i : Nat} {x : α} (hi : i ≤ l.length) (hl : (l.length + 1) * (4 * 128) ≤ 2 ^ 48) :
    CallOk Tryz.prog 52 [.ref 0 l.length 0 l.length, .d (.i .i64 (i : Int)), .ref 1 1 0 1] [eS 7 e l, eS 7 e [x]] (.ref 0 (insL l i x).length 0 (insL l i x).length) [eS 7 e (insL l i x), eS 7 e [x]] := by
  rw [insL_length]
  rcases Nat.lt_or_ge i l.length with h | h
  · exact ins_lt he h hl
  · obtain rfl : i = l.length := by omega
    exact ins_eq he hl
end
end Ins52
end Go.Proofs.YtfiljdbmhegjgaaGreatDoor
/- The shapes of data. No condition. -/
namespace Go.Proofs.YtfiljdbmhegjgaaGreatDoor
open Go Go.TA
/-- A slice of nothing. -/
abbrev Z0 : DV := DV.sl 0 fun _ => DV.b false
structure TTape where
  l : (List Int)
  at_ : Int
  deriving Inhabited
def TTape.e (x : TTape) : DV := .agg [(eL (DV.i .i64) x.l), (DV.i .i64 x.at_)]
structure TApiPot where
  Code : List UInt8
  Year : Int
  Total : Int
  Granted : (List Int)
  Heard : (List Int)
  Asked : (List Int)
  Used : (List Int)
  deriving Inhabited
def TApiPot.e (x : TApiPot) : DV := .agg [(DV.str x.Code), (DV.i .i64 x.Year), (DV.i .i64 x.Total), (eL (DV.i .i64) x.Granted), (eL (DV.i .i64) x.Heard), (eL (DV.i .i64) x.Asked), (eL (DV.i .i64) x.Used)]
structure TApiTreasury where
  Offices : Int
  Pots : (List TApiPot)
  deriving Inhabited
def TApiTreasury.e (x : TApiTreasury) : DV := .agg [(DV.i .i64 x.Offices), (eL TApiPot.e x.Pots)]
structure TApiMessage where
  From : Int
  To : Int
  Code : List UInt8
  Year : Int
  Granted : Int
  Asked : Int
  Returned : Int
  Used : Int
  deriving Inhabited
def TApiMessage.e (x : TApiMessage) : DV := .agg [(DV.i .i64 x.From), (DV.i .i64 x.To), (DV.str x.Code), (DV.i .i64 x.Year), (DV.i .i64 x.Granted), (DV.i .i64 x.Asked), (DV.i .i64 x.Returned), (DV.i .i64 x.Used)]
structure TApiLine where
  Code : List UInt8
  Year : Int
  Amount : Int
  deriving Inhabited
def TApiLine.e (x : TApiLine) : DV := .agg [(DV.str x.Code), (DV.i .i64 x.Year), (DV.i .i64 x.Amount)]
end Go.Proofs.YtfiljdbmhegjgaaGreatDoor
/- What the functions compute, and that their calls return it. No condition. -/
namespace Go.Proofs.YtfiljdbmhegjgaaGreatDoor
open Go Go.TA
noncomputable section
/-! 4 -/
abbrev R_mk_New := TTape
def V_mk_New (_ : R_mk_New) : AV := (vp 0)
def L_mk_New (x : R_mk_New) : List Ob := [(bx (TTape.e x))]
def S_mk_New (a0 : (List Int)) : Scr Tryz.prog R_mk_New R_mk_New :=
.guard [(0 : Int) ≤ (if 500 < (a0.length : Int) then 500 else (a0.length : Int)), ((if 500 < (a0.length : Int) then 500 else (a0.length : Int))).toNat ≤ a0.length] <|
.reg 1 [] [(4, hv (vl (a0.take (((if 500 < (a0.length : Int) then 500 else (a0.length : Int))).toNat))))] [.ev 0, .ev 1, .der (fun (h0 : ((if 500 < (a0.length : Int) then 500 else (a0.length : Int))).toNat ≤ a0.length) => lvT (DV.i .i64) a0 h0) 1] <|
.ret [] (⟨(a0.take (((if 500 < (a0.length : Int) then 500 else (a0.length : Int))).toNat)), 0⟩ : TTape)
def F_mk_New (a0 : (List Int)) : Option R_mk_New := (S_mk_New a0).den
set_option maxRecDepth 100000 in
theorem F_mk_New_ok {a0 : (List Int)} (r : R_mk_New) (h : F_mk_New a0 = some r) : CallOk Tryz.prog 4 [(vl a0)] [] (V_mk_New r) (L_mk_New r) := fOk (s := S_mk_New a0) Tryz.func4 rfl (by kernel_rfl) h
/-! 10 -/
abbrev R_mk_Tape_N := Int × TTape
def V_mk_Tape_N (x : R_mk_Tape_N) : AV := (vi x.1)
def L_mk_Tape_N (x : R_mk_Tape_N) : List Ob := [(bx (TTape.e x.2))]
def S_mk_Tape_N (a1 : Int) (p0 : TTape) : Scr Tryz.prog R_mk_Tape_N R_mk_Tape_N :=
.ite (decide (p0.at_ ≥ (p0.l.length : Int))) (
.ret [] (0, p0)) (
.guard [(0 : Int) ≤ p0.at_, (p0.at_).toNat < p0.l.length, (a1 : Int) ≠ 0] <|
.reg 3 [] [] [.ev 0, .ev 1, .ev 2] <|
.ite (decide (((p0.l.getD ((p0.at_).toNat) default).tmod a1) < 0)) (
.ret [] ((IntKind.i64.wrap (((p0.l.getD ((p0.at_).toNat) default).tmod a1) + a1)), (⟨p0.l, (IntKind.i64.wrap (p0.at_ + 1))⟩ : TTape))) (
.ret [] (((p0.l.getD ((p0.at_).toNat) default).tmod a1), (⟨p0.l, (IntKind.i64.wrap (p0.at_ + 1))⟩ : TTape))))
def F_mk_Tape_N (a1 : Int) (p0 : TTape) : Option R_mk_Tape_N := (S_mk_Tape_N a1 p0).den
set_option maxRecDepth 100000 in
theorem F_mk_Tape_N_ok {a1 : Int} {p0 : TTape} (r : R_mk_Tape_N) (h : F_mk_Tape_N a1 p0 = some r) : CallOk Tryz.prog 10 [(vp 0), (vi a1)] [(bx (TTape.e p0))] (V_mk_Tape_N r) (L_mk_Tape_N r) := fOk (s := S_mk_Tape_N a1 p0) Tryz.func10 rfl (by kernel_rfl) h
/-! 6 -/
abbrev R_mk_Tape_Range := Int × TTape
def V_mk_Tape_Range (x : R_mk_Tape_Range) : AV := (vi x.1)
def L_mk_Tape_Range (x : R_mk_Tape_Range) : List Ob := [(bx (TTape.e x.2))]
def S_mk_Tape_Range (a1 : Int) (a2 : Int) (p0 : TTape) : Scr Tryz.prog R_mk_Tape_Range R_mk_Tape_Range :=
.call (@F_mk_Tape_N_ok (IntKind.i64.wrap ((IntKind.i64.wrap (a2 - a1)) + 1)) p0) fun r3 c3 =>
.reg 1 [] [(6, hc c3 [0] false)] [.cl 0 c3 [0] 1 false] <|
.ret [] ((IntKind.i64.wrap (a1 + r3.1)), r3.2)
def F_mk_Tape_Range (a1 : Int) (a2 : Int) (p0 : TTape) : Option R_mk_Tape_Range := (S_mk_Tape_Range a1 a2 p0).den
set_option maxRecDepth 100000 in
theorem F_mk_Tape_Range_ok {a1 : Int} {a2 : Int} {p0 : TTape} (r : R_mk_Tape_Range) (h : F_mk_Tape_Range a1 a2 p0 = some r) : CallOk Tryz.prog 6 [(vp 0), (vi a1), (vi a2)] [(bx (TTape.e p0))] (V_mk_Tape_Range r) (L_mk_Tape_Range r) := fOk (s := S_mk_Tape_Range a1 a2 p0) Tryz.func6 rfl (by kernel_rfl) h
/-! 12 -/
abbrev R_mk_PotCode := List UInt8 × TTape
def V_mk_PotCode (x : R_mk_PotCode) : AV := (AV.d (DV.str x.1))
def L_mk_PotCode (x : R_mk_PotCode) : List Ob := [(bx (TTape.e x.2))]
def S_mk_PotCode (p0 : TTape) : Scr Tryz.prog R_mk_PotCode R_mk_PotCode :=
.call (@F_mk_Tape_N_ok 3 p0) fun r8 c8 =>
.guard [(0 : Int) ≤ r8.1, (r8.1).toNat < 3] <|
.reg 1 [] [(0, hv (AV.d (eL DV.str ([[49], [49, 46, 50], [50]] : List (List UInt8))))), (2, hc c8 [0] false)] [.pf (leV_lit DV.str ([[49], [49, 46, 50], [50]] : List (List UInt8))), .cl 2 c8 [0] 1 false, .ev 0, .ev 1] <|
.ret [] ((([[49], [49, 46, 50], [50]] : List (List UInt8)).getD ((r8.1).toNat) default), r8.2)
def F_mk_PotCode (p0 : TTape) : Option R_mk_PotCode := (S_mk_PotCode p0).den
set_option maxRecDepth 100000 in
theorem F_mk_PotCode_ok {p0 : TTape} (r : R_mk_PotCode) (h : F_mk_PotCode p0 = some r) : CallOk Tryz.prog 12 [(vp 0)] [(bx (TTape.e p0))] (V_mk_PotCode r) (L_mk_PotCode r) := fOk (s := S_mk_PotCode p0) Tryz.func12 rfl (by kernel_rfl) h
/-! 13 -/
abbrev R_mk_Tape_Pick := Int × TTape
def V_mk_Tape_Pick (x : R_mk_Tape_Pick) : AV := (vi x.1)
def L_mk_Tape_Pick (x : R_mk_Tape_Pick) : List Ob := [(bx (TTape.e x.2))]
def S_mk_Tape_Pick (a1 : (List Int)) (p0 : TTape) : Scr Tryz.prog R_mk_Tape_Pick R_mk_Tape_Pick :=
.call (@F_mk_Tape_N_ok (a1.length : Int) p0) fun rv1 cv1 =>
.guard [(0 : Int) ≤ rv1.1, (rv1.1).toNat < a1.length] <|
.reg 1 [] [(4, hc cv1 [0] false)] [.cl 2 cv1 [0] 1 false, .ev 0, .ev 1] <|
.ret [] ((a1.getD ((rv1.1).toNat) default), rv1.2)
def F_mk_Tape_Pick (a1 : (List Int)) (p0 : TTape) : Option R_mk_Tape_Pick := (S_mk_Tape_Pick a1 p0).den
set_option maxRecDepth 100000 in
theorem F_mk_Tape_Pick_ok {a1 : (List Int)} {p0 : TTape} (r : R_mk_Tape_Pick) (h : F_mk_Tape_Pick a1 p0 = some r) : CallOk Tryz.prog 13 [(vp 0), (vl a1)] [(bx (TTape.e p0))] (V_mk_Tape_Pick r) (L_mk_Tape_Pick r) := fOk (s := S_mk_Tape_Pick a1 p0) Tryz.func13 rfl (by kernel_rfl) h
/-! 26 -/
abbrev R_r03_Good := Bool
def V_r03_Good (x : R_r03_Good) : AV := (vb x)
def L_r03_Good (_ : R_r03_Good) : List Ob := []
def S_r03_Good_b1 (a0 : List UInt8) (sv1 : Int × Int × Int) : Scr Tryz.prog R_r03_Good (Step (Int × Int × Int) R_r03_Good) :=
.ite (decide (sv1.2.2 < (a0.length : Int))) (
.guard [(0 : Int) ≤ sv1.2.2, (sv1.2.2).toNat < a0.length] <|
.reg 6 [] [] [.ev 0, .ev 1] <|
.ite (((a0.getD ((sv1.2.2).toNat) 0).toNat : Int) == 46) (
.ite (sv1.1 == 0) (
.ret [] (.ret false)) (
.ret [] (.cont (0, (IntKind.i64.wrap (sv1.2.1 + 1)), (IntKind.i64.wrap (sv1.2.2 + 1)))))) (
.guard [AllP [(decide (((a0.getD ((sv1.2.2).toNat) 0).toNat : Int) < 48)) = false] → ((0 : Int) ≤ sv1.2.2), AllP [(decide (((a0.getD ((sv1.2.2).toNat) 0).toNat : Int) < 48)) = false] → ((sv1.2.2).toNat < a0.length), AllP [(sv1.1 == 0) = true, (bif (decide (((a0.getD ((sv1.2.2).toNat) 0).toNat : Int) < 48)) then true else (decide (((a0.getD ((sv1.2.2).toNat) 0).toNat : Int) > 57))) = false] → ((0 : Int) ≤ sv1.2.2), AllP [(sv1.1 == 0) = true, (bif (decide (((a0.getD ((sv1.2.2).toNat) 0).toNat : Int) < 48)) then true else (decide (((a0.getD ((sv1.2.2).toNat) 0).toNat : Int) > 57))) = false] → ((sv1.2.2).toNat < a0.length)] <|
.reg 11 [] [] [.ev 5, .ev 6, .ev 0, .ev 1, .ev 2, .ev 3] <|
.ite (bif (bif (bif (decide (((a0.getD ((sv1.2.2).toNat) 0).toNat : Int) < 48)) then true else (decide (((a0.getD ((sv1.2.2).toNat) 0).toNat : Int) > 57))) then true else (bif (sv1.1 == 0) then (((a0.getD ((sv1.2.2).toNat) 0).toNat : Int) == 48) else false)) then true else (sv1.1 == 2)) (
.ret [] (.ret false)) (
.ret [] (.cont ((IntKind.i64.wrap (sv1.1 + 1)), sv1.2.1, (IntKind.i64.wrap (sv1.2.2 + 1))))))) (
.ret [] (.brk (sv1.1, sv1.2.1, sv1.2.2)))
def S_r03_Good (a0 : List UInt8) : Scr Tryz.prog R_r03_Good R_r03_Good :=
.iter [0] (fun (sv1 : Int × Int × Int) => [(3, (vi sv1.1)), (4, (vi sv1.2.1)), (5, (vi sv1.2.2))]) (fun (_ : Int × Int × Int) => []) (0, 1, 0) (S_r03_Good_b1 a0) (fun (sv1 : Int × Int × Int) =>
.ret [] (bif (decide (sv1.1 > 0)) then (decide (sv1.2.1 ≤ 4)) else false)) id
def F_r03_Good (a0 : List UInt8) : Option R_r03_Good := (S_r03_Good a0).den
set_option maxRecDepth 100000 in
theorem F_r03_Good_ok {a0 : List UInt8} (r : R_r03_Good) (h : F_r03_Good a0 = some r) : CallOk Tryz.prog 26 [(AV.d (DV.str a0))] [] (V_r03_Good r) (L_r03_Good r) := fOk (s := S_r03_Good a0) Tryz.func26 rfl (by kernel_rfl) h
/-! 31 -/
abbrev R_r13_total := Bool
def V_r13_total (x : R_r13_total) : AV := (vb x)
def L_r13_total (_ : R_r13_total) : List Ob := []
def S_r13_total (a0 : Int) : Scr Tryz.prog R_r13_total R_r13_total :=
.ret [] (bif (decide (a0 ≥ 0)) then (decide (a0 ≤ 1000000000000000)) else false)
def F_r13_total (a0 : Int) : Option R_r13_total := (S_r13_total a0).den
set_option maxRecDepth 100000 in
theorem F_r13_total_ok {a0 : Int} (r : R_r13_total) (h : F_r13_total a0 = some r) : CallOk Tryz.prog 31 [(vi a0)] [] (V_r13_total r) (L_r13_total r) := fOk (s := S_r13_total a0) Tryz.func31 rfl (by kernel_rfl) h
/-! 41 -/
abbrev R_r13_pot := Bool
def V_r13_pot (x : R_r13_pot) : AV := (vb x)
def L_r13_pot (_ : R_r13_pot) : List Ob := []
def S_r13_pot_b1 (a0 : TApiPot) (iv1 : Nat) (sv2 : Int) : Scr Tryz.prog R_r13_pot (Step (Int) R_r13_pot) :=
.call (@F_r13_total_ok (a0.Granted.getD iv1 default)) fun rv3 cv3 =>
.calld [(!rv3) = false] default (@F_r13_total_ok (a0.Heard.getD iv1 default)) fun rv4 cv4 =>
.calld [(bif (!rv3) then true else (!rv4)) = false] default (@F_r13_total_ok (a0.Asked.getD iv1 default)) fun rv5 cv5 =>
.calld [(bif (bif (!rv3) then true else (!rv4)) then true else (!rv5)) = false] default (@F_r13_total_ok (a0.Used.getD iv1 default)) fun rv6 cv6 =>
.guard [AllP [(!rv3) = false] → (iv1 < a0.Heard.length), AllP [(bif (!rv3) then true else (!rv4)) = false] → (iv1 < a0.Asked.length), AllP [(bif (bif (!rv3) then true else (!rv4)) then true else (!rv5)) = false] → (iv1 < a0.Used.length), AllP [(bif (bif (bif (!rv3) then true else (!rv4)) then true else (!rv5)) then true else (!rv6)) = false] → (iv1 < a0.Heard.length), AllP [(bif (bif (bif (bif (!rv3) then true else (!rv4)) then true else (!rv5)) then true else (!rv6)) then true else (decide ((a0.Heard.getD iv1 default) > (a0.Granted.getD iv1 default)))) = false] → (iv1 < a0.Asked.length)] <|
.reg 9 [] [(5, hc cv3 [] true), (13, hc cv4 [] true), (22, hc cv5 [] true), (31, hc cv6 [] true)] [.pf (nn iv1), .ev 12, .cl 11 cv3 [] 1 true, .pf (p := AllP [(!rv3) = false] → ((0 : Int) ≤ (iv1 : Int))) (fun _ => (Int.natCast_nonneg _)), .ev 0, .clg 9 [(!rv3) = false] cv4 [] 1 true, .pf (p := AllP [(bif (!rv3) then true else (!rv4)) = false] → ((0 : Int) ≤ (iv1 : Int))) (fun _ => (Int.natCast_nonneg _)), .ev 1, .clg 7 [(bif (!rv3) then true else (!rv4)) = false] cv5 [] 1 true, .pf (p := AllP [(bif (bif (!rv3) then true else (!rv4)) then true else (!rv5)) = false] → ((0 : Int) ≤ (iv1 : Int))) (fun _ => (Int.natCast_nonneg _)), .ev 2, .clg 5 [(bif (bif (!rv3) then true else (!rv4)) then true else (!rv5)) = false] cv6 [] 1 true, .pf (p := AllP [(bif (bif (bif (!rv3) then true else (!rv4)) then true else (!rv5)) then true else (!rv6)) = false] → ((0 : Int) ≤ (iv1 : Int))) (fun _ => (Int.natCast_nonneg _)), .ev 3, .pf (p := AllP [(bif (bif (bif (!rv3) then true else (!rv4)) then true else (!rv5)) then true else (!rv6)) = false] → ((0 : Int) ≤ (iv1 : Int))) (fun _ => (Int.natCast_nonneg _)), .der (fun (h : iv1 < a0.Granted.length) (_ : AllP [(bif (bif (bif (!rv3) then true else (!rv4)) then true else (!rv5)) then true else (!rv6)) = false]) => h) 12, .pf (p := AllP [(bif (bif (bif (bif (!rv3) then true else (!rv4)) then true else (!rv5)) then true else (!rv6)) then true else (decide ((a0.Heard.getD iv1 default) > (a0.Granted.getD iv1 default)))) = false] → ((0 : Int) ≤ (iv1 : Int))) (fun _ => (Int.natCast_nonneg _)), .ev 4, .pf (p := AllP [(bif (bif (bif (bif (!rv3) then true else (!rv4)) then true else (!rv5)) then true else (!rv6)) then true else (decide ((a0.Heard.getD iv1 default) > (a0.Granted.getD iv1 default)))) = false] → ((0 : Int) ≤ (iv1 : Int))) (fun _ => (Int.natCast_nonneg _)), .der (fun (h : iv1 < a0.Granted.length) (_ : AllP [(bif (bif (bif (bif (!rv3) then true else (!rv4)) then true else (!rv5)) then true else (!rv6)) then true else (decide ((a0.Heard.getD iv1 default) > (a0.Granted.getD iv1 default)))) = false]) => h) 12] <|
.ite (bif (bif (bif (bif (bif (!rv3) then true else (!rv4)) then true else (!rv5)) then true else (!rv6)) then true else (decide ((a0.Heard.getD iv1 default) > (a0.Granted.getD iv1 default)))) then true else (decide ((a0.Asked.getD iv1 default) > (a0.Granted.getD iv1 default)))) (
.ret [] (.ret false)) (
.reg 11 [] [] [.pf (nn iv1), .ev 13] <|
.ret [] (.cont (IntKind.i64.wrap (sv2 + (a0.Granted.getD iv1 default)))))
def S_r13_pot (a0 : TApiPot) (a1 : Int) : Scr Tryz.prog R_r13_pot R_r13_pot :=
.call (@F_r03_Good_ok a0.Code) fun rv7 cv7 =>
.reg 1 [] [(2, hc cv7 [] true)] [.cl 0 cv7 [] 1 true] <|
.ite (bif (bif (bif (bif (!rv7) then true else (decide (a0.Year < 0))) then true else (decide (a0.Year > 99))) then true else (decide (a0.Total < (-1000000000000000)))) then true else (decide (a0.Total > 1000000000000000))) (
.ret [] false) (
.ite (bif (bif (bif ((a0.Granted.length : Int) != a1) then true else ((a0.Heard.length : Int) != a1)) then true else ((a0.Asked.length : Int) != a1)) then true else ((a0.Used.length : Int) != a1)) (
.ret [] false) (
.guard [a0.Granted.length < 2 ^ 63] <|
.range (a0.Granted.length : Int) a0.Granted.length rfl (.why (.ev 0)) 60 [2, 59] (fun (sv2 : Int) => [(5, (vi sv2))]) (fun (_ : Int) => []) 0 (S_r13_pot_b1 a0) (fun (sv2 : Int) => 
.ret [] (decide (sv2 ≤ 1000000000000000))) id))
def F_r13_pot (a0 : TApiPot) (a1 : Int) : Option R_r13_pot := (S_r13_pot a0 a1).den
set_option maxRecDepth 100000 in
theorem F_r13_pot_ok {a0 : TApiPot} {a1 : Int} (r : R_r13_pot) (h : F_r13_pot a0 a1 = some r) : CallOk Tryz.prog 41 [(AV.d (TApiPot.e a0)), (vi a1)] [] (V_r13_pot r) (L_r13_pot r) := fOk (s := S_r13_pot a0 a1) Tryz.func41 rfl (by kernel_rfl) h
/-! 42 -/
theorem cz1 : LeV (AV.full 0 fun _ => DV.b false) (vl ([])) := lvN (DV.i .i64)
abbrev R_r03_Parts := (List Int)
def V_r03_Parts (x : R_r03_Parts) : AV := (vl x)
def L_r03_Parts (_ : R_r03_Parts) : List Ob := []
def S_r03_Parts_b1 (a0 : List UInt8) (sv1 : (List Int) × Int × Int × Int) : Scr Tryz.prog R_r03_Parts (Step ((List Int) × Int × Int × Int) R_r03_Parts) :=
.ite (decide (sv1.2.2.2 ≤ (a0.length : Int))) (
.guard [AllP [(sv1.2.2.2 == (a0.length : Int)) = false] → ((0 : Int) ≤ sv1.2.2.2), AllP [(sv1.2.2.2 == (a0.length : Int)) = false] → ((sv1.2.2.2).toNat < a0.length)] <|
.reg 8 [] [] [.ev 0, .ev 1] <|
.ite (bif (sv1.2.2.2 == (a0.length : Int)) then true else (((a0.getD ((sv1.2.2.2).toNat) 0).toNat : Int) == 46)) (
.guard [AllP [(bif (sv1.2.2.1 == 0) then true else (decide (sv1.2.2.1 > 2))) = false] → ((0 : Int) ≤ (IntKind.i64.wrap (sv1.2.2.2 - sv1.2.2.1))), AllP [(bif (sv1.2.2.1 == 0) then true else (decide (sv1.2.2.1 > 2))) = false] → (((IntKind.i64.wrap (sv1.2.2.2 - sv1.2.2.1))).toNat < a0.length)] <|
.reg 9 [] [] [.ev 0, .ev 1] <|
.ite (bif (bif (sv1.2.2.1 == 0) then true else (decide (sv1.2.2.1 > 2))) then true else (((a0.getD (((IntKind.i64.wrap (sv1.2.2.2 - sv1.2.2.1))).toNat) 0).toNat : Int) == 48)) (
.ret [.pf cz1] (.ret ([]))) (
.guard [(sv1.1.length + 1) * (2 * 8) ≤ 2 ^ 48] <|
.reg 11 [] [(2, hv (vl ([sv1.2.1] : List Int))), (3, { h := .obj, cast := some (AV.ref 0 ((sv1.1 ++ ([sv1.2.1] : List Int)).length) 0 ((sv1.1 ++ ([sv1.2.1] : List Int)).length)), obs := [(0, (eS 1 (DV.i .i64) (sv1.1 ++ ([sv1.2.1] : List Int))))] })] [.pf (leV_lit (DV.i .i64) ([sv1.2.1] : List Int)), .pf (Eq.refl sv1.1.length), .pf (Eq.refl sv1.1.length), .pf (p := ∀ k, k < 1 → (AV.d ((DV.i .i64) (([sv1.2.1] : List Int).getD k default))).wd = 1) (fun _ _ => rfl), .ev 0, .pf (leV_app (o := 0) (l := sv1.1) (x := ([sv1.2.1] : List Int))), .pf (oLe_app (sz := 1) (e := (DV.i .i64)) (l := sv1.1) (x := ([sv1.2.1] : List Int)))] <|
.ret [] (.cont ((sv1.1 ++ ([sv1.2.1] : List Int)), 0, 0, (IntKind.i64.wrap (sv1.2.2.2 + 1)))))) (
.guard [(0 : Int) ≤ sv1.2.2.2, (sv1.2.2.2).toNat < a0.length, AllP [(decide (((a0.getD ((sv1.2.2.2).toNat) 0).toNat : Int) < 48)) = false] → ((0 : Int) ≤ sv1.2.2.2), AllP [(decide (((a0.getD ((sv1.2.2.2).toNat) 0).toNat : Int) < 48)) = false] → ((sv1.2.2.2).toNat < a0.length)] <|
.reg 13 [] [] [.ev 0, .ev 1, .ev 2, .ev 3] <|
.ite (bif (decide (((a0.getD ((sv1.2.2.2).toNat) 0).toNat : Int) < 48)) then true else (decide (((a0.getD ((sv1.2.2.2).toNat) 0).toNat : Int) > 57))) (
.ret [.pf cz1] (.ret ([]))) (
.reg 15 [] [] [.ev 1, .ev 2] <|
.ret [] (.cont (sv1.1, (IntKind.i64.wrap ((IntKind.i64.wrap (10 * sv1.2.1)) + (IntKind.i64.wrap (IntKind.u8.wrap (((a0.getD ((sv1.2.2.2).toNat) 0).toNat : Int) - 48))))), (IntKind.i64.wrap (sv1.2.2.1 + 1)), (IntKind.i64.wrap (sv1.2.2.2 + 1))))))) (
.ret [] (.brk (sv1.1, sv1.2.1, sv1.2.2.1, sv1.2.2.2)))
def S_r03_Parts (a0 : List UInt8) : Scr Tryz.prog R_r03_Parts R_r03_Parts :=
.ite (decide ((a0.length : Int) > 12)) (
.ret [.pf cz1] ([])) (
.reg 5 [] [] [] <|
.bor 1 (fun j => AV.d ((DV.i .i64) (([] : List Int).getD j default))) [3] <|
.iter [0] (fun (sv1 : (List Int) × Int × Int × Int) => [(3, (AV.ref 0 sv1.1.length 0 sv1.1.length)), (4, (vi sv1.2.1)), (5, (vi sv1.2.2.1)), (6, (vi sv1.2.2.2))]) (fun (sv1 : (List Int) × Int × Int × Int) => [(0, (eS 1 (DV.i .i64) sv1.1))]) (([] : List Int), 0, 0, 0) (S_r03_Parts_b1 a0) (fun (sv1 : (List Int) × Int × Int × Int) =>
.ite (decide ((sv1.1.length : Int) > 4)) (
.ret [.pf cz1] ([])) (
.guard [sv1.1.length < 2 ^ 63] <|
.reg 18 [] [] [] <|
.frz 0 (.ev 0) none [2] [] <|
.ret [] sv1.1)) id)
def F_r03_Parts (a0 : List UInt8) : Option R_r03_Parts := (S_r03_Parts a0).den
set_option maxRecDepth 100000 in
theorem F_r03_Parts_ok {a0 : List UInt8} (r : R_r03_Parts) (h : F_r03_Parts a0 = some r) : CallOk Tryz.prog 42 [(AV.d (DV.str a0))] [] (V_r03_Parts r) (L_r03_Parts r) := fOk (s := S_r03_Parts a0) Tryz.func42 rfl (by kernel_rfl) h
/-! 29 -/
abbrev R_r03_Compare := Int
def V_r03_Compare (x : R_r03_Compare) : AV := (vi x)
def L_r03_Compare (_ : R_r03_Compare) : List Ob := []
def S_r03_Compare_b1 (rv1 : R_r03_Parts) (rv2 : R_r03_Parts) (sv3 : Int) : Scr Tryz.prog R_r03_Compare (Step (Int) R_r03_Compare) :=
.ite (bif (decide (sv3 < (rv1.length : Int))) then (decide (sv3 < (rv2.length : Int))) else false) (
.guard [(0 : Int) ≤ sv3, (sv3).toNat < rv1.length, (sv3).toNat < rv2.length] <|
.reg 15 [] [] [.ev 0, .ev 1, .ev 0, .ev 2] <|
.ite (decide ((rv1.getD ((sv3).toNat) default) < (rv2.getD ((sv3).toNat) default))) (
.ret [] (.ret (-1))) (
.reg 17 [] [] [.ev 1, .ev 2, .ev 1, .ev 3] <|
.ite (decide ((rv1.getD ((sv3).toNat) default) > (rv2.getD ((sv3).toNat) default))) (
.ret [] (.ret 1)) (
.ret [] (.cont (IntKind.i64.wrap (sv3 + 1)))))) (
.ret [] (.brk sv3))
def S_r03_Compare (a0 : List UInt8) (a1 : List UInt8) : Scr Tryz.prog R_r03_Compare R_r03_Compare :=
.call (@F_r03_Parts_ok a0) fun rv1 cv1 =>
.call (@F_r03_Parts_ok a1) fun rv2 cv2 =>
.reg 1 [] [(1, hc cv1 [] true), (3, hc cv2 [] true)] [.cl 1 cv1 [] 0 true, .cl 0 cv2 [] 0 true] <|
.ite (bif ((rv1.length : Int) == 0) then true else ((rv2.length : Int) == 0)) (
.ite (decide ((rv1.length : Int) > 0)) (
.ret [] 1) (
.ite (decide ((rv2.length : Int) > 0)) (
.ret [] (-1)) (
.ite (Op.bytesLess a0 a1) (
.ret [] (-1)) (
.ite (!(Op.bytesLess a0 a1 || a0 == a1)) (
.ret [] 1) (
.ret [] 0))))) (
.iter [5, 6] (fun (sv3 : Int) => [(7, (vi sv3))]) (fun (_ : Int) => []) 0 (S_r03_Compare_b1 rv1 rv2) (fun (_ : Int) =>
.ite (decide ((rv1.length : Int) < (rv2.length : Int))) (
.ret [] (-1)) (
.ite (decide ((rv1.length : Int) > (rv2.length : Int))) (
.ret [] 1) (
.ret [] 0))) id)
def F_r03_Compare (a0 : List UInt8) (a1 : List UInt8) : Option R_r03_Compare := (S_r03_Compare a0 a1).den
set_option maxRecDepth 100000 in
theorem F_r03_Compare_ok {a0 : List UInt8} {a1 : List UInt8} (r : R_r03_Compare) (h : F_r03_Compare a0 a1 = some r) : CallOk Tryz.prog 29 [(AV.d (DV.str a0)), (AV.d (DV.str a1))] [] (V_r03_Compare r) (L_r03_Compare r) := fOk (s := S_r03_Compare a0 a1) Tryz.func29 rfl (by kernel_rfl) h
/-! 25 -/
theorem cz2 : OLe (bx (DV.agg [(DV.str ([])), (DV.i .i64 0), (DV.i .i64 0), Z0, Z0, Z0, Z0])) (bx (TApiPot.e (⟨[], 0, 0, [], [], [], []⟩ : TApiPot))) := oLe_box (DLe.agg (DLeL.cons (DLe.refl _) (DLeL.cons (DLe.refl _) (DLeL.cons (DLe.refl _) (DLeL.cons DLe.sl0 (DLeL.cons DLe.sl0 (DLeL.cons DLe.sl0 (DLeL.cons DLe.sl0 DLeL.nil))))))))
abbrev R_r13_Valid := Bool
def V_r13_Valid (x : R_r13_Valid) : AV := (vb x)
def L_r13_Valid (_ : R_r13_Valid) : List Ob := []
def S_r13_Valid_b1 (a0 : TApiTreasury) (iv1 : Nat) (_ : Unit) : Scr Tryz.prog R_r13_Valid (Step (Unit) R_r13_Valid) :=
.reg 5 [] [(3, { obs := [(1, (bx (TApiPot.e (⟨[], 0, 0, [], [], [], []⟩ : TApiPot))))] })] [.pf (nn iv1), .ev 0, .pf cz2] <|
.call (@F_r13_pot_ok (a0.Pots.getD iv1 default) a0.Offices) fun rv2 cv2 =>
.reg 6 [] [(3, hc cv2 [] true)] [.cl 0 cv2 [] 2 true] <|
.ite (!rv2) (
.ret [] (.ret false)) (
.ite (decide ((iv1 : Int) > 0)) (
.call (@F_r03_Compare_ok ((a0.Pots.getD (((IntKind.i64.wrap ((iv1 : Int) - 1))).toNat) default).Code) ((a0.Pots.getD iv1 default).Code)) fun rv3 cv3 =>
.guard [(0 : Int) ≤ (IntKind.i64.wrap ((iv1 : Int) - 1)), ((IntKind.i64.wrap ((iv1 : Int) - 1))).toNat < a0.Pots.length] <|
.reg 9 [] [(9, hc cv3 [] true)] [.ev 0, .ev 1, .cl 2 cv3 [] 2 true] <|
.guard [AllP [(rv3 == 0) = true, (decide (rv3 > 0)) = false] → ((0 : Int) ≤ (IntKind.i64.wrap ((iv1 : Int) - 1))), AllP [(rv3 == 0) = true, (decide (rv3 > 0)) = false] → (((IntKind.i64.wrap ((iv1 : Int) - 1))).toNat < a0.Pots.length)] <|
.reg 10 [] [] [.ev 0, .ev 1] <|
.ite (bif (decide (rv3 > 0)) then true else (bif (rv3 == 0) then (decide (((a0.Pots.getD (((IntKind.i64.wrap ((iv1 : Int) - 1))).toNat) default).Year) ≥ ((a0.Pots.getD iv1 default).Year))) else false)) (
.ret [] (.ret false)) (
.ret [] (.cont ()))) (
.ret [] (.cont ())))
def S_r13_Valid (a0 : TApiTreasury) : Scr Tryz.prog R_r13_Valid R_r13_Valid :=
.ite (bif (bif (decide (a0.Offices < 1)) then true else (decide (a0.Offices > 6))) then true else (decide ((a0.Pots.length : Int) > 60))) (
.ret [] false) (
.range (a0.Pots.length : Int) a0.Pots.length rfl (.slot 21) 23 [1, 21, 22] (fun (_ : Unit) => []) (fun (_ : Unit) => []) () (S_r13_Valid_b1 a0) (fun (_ : Unit) => 
.ret [] true) id)
def F_r13_Valid (a0 : TApiTreasury) : Option R_r13_Valid := (S_r13_Valid a0).den
set_option maxRecDepth 100000 in
theorem F_r13_Valid_ok {a0 : TApiTreasury} (r : R_r13_Valid) (h : F_r13_Valid a0 = some r) : CallOk Tryz.prog 25 [(AV.d (TApiTreasury.e a0))] [] (V_r13_Valid r) (L_r13_Valid r) := fOk (s := S_r13_Valid a0) Tryz.func25 rfl (by kernel_rfl) h
/-! 27 -/
theorem cz3 : ∀ k, k < 0 → (DV.b false).wd = 1 := fun _ h => absurd h (Nat.not_lt_zero _)
theorem cz4 : OLe (bx (DV.agg [(DV.i .i64 0), Z0])) (bx (TApiTreasury.e (⟨0, []⟩ : TApiTreasury))) := oLe_box (DLe.agg (DLeL.cons (DLe.refl _) (DLeL.cons DLe.sl0 DLeL.nil)))
abbrev R_r13_copied_rw := Int × (List TApiPot)
def V_r13_copied_rw (x : R_r13_copied_rw) : AV := (AV.agg [(vi x.1), (AV.ref 3 x.2.length 0 x.2.length)])
def L_r13_copied_rw (x : R_r13_copied_rw) : List Ob := [Ob.dead, (Ob.box (AV.agg [(vi x.1), (AV.ref 3 x.2.length 0 x.2.length)])), Ob.dead, (eS 7 TApiPot.e x.2)]
def S_r13_copied_rw_b1 (a0 : TApiTreasury) (iv1 : Nat) (sv2 : Int × (List TApiPot)) : Scr Tryz.prog R_r13_copied_rw (Step (Int × (List TApiPot)) R_r13_copied_rw) :=
.reg 4 [] [(2, { obs := [(4, (bx (TApiPot.e (⟨[], 0, 0, [], [], [], []⟩ : TApiPot))))] })] [.pf (nn iv1), .ev 0, .pf cz2] <|
.guard [(0 + ((a0.Pots.getD iv1 default).Granted).length) * (2 * 8) ≤ 2 ^ 48] <|
.reg 5 [] [(3, hv (vl ((a0.Pots.getD iv1 default).Granted)))] [.pf (p := ∀ k, k < ((a0.Pots.getD iv1 default).Granted).length → AV.d ((DV.i .i64) (((a0.Pots.getD iv1 default).Granted).getD k default)) = AV.d ((DV.i .i64) (((a0.Pots.getD iv1 default).Granted).getD k default)) ∧ ((DV.i .i64) (((a0.Pots.getD iv1 default).Granted).getD k default)).wd = 1) (fun _ _ => ⟨rfl, rfl⟩), .pf cz3, .ev 0, .pf (leV_app0 (e := (DV.i .i64)) (x := ((a0.Pots.getD iv1 default).Granted)))] <|
.guard [(0 + ((a0.Pots.getD iv1 default).Heard).length) * (2 * 8) ≤ 2 ^ 48] <|
.reg 6 [] [(3, hv (vl ((a0.Pots.getD iv1 default).Heard)))] [.pf (p := ∀ k, k < ((a0.Pots.getD iv1 default).Heard).length → AV.d ((DV.i .i64) (((a0.Pots.getD iv1 default).Heard).getD k default)) = AV.d ((DV.i .i64) (((a0.Pots.getD iv1 default).Heard).getD k default)) ∧ ((DV.i .i64) (((a0.Pots.getD iv1 default).Heard).getD k default)).wd = 1) (fun _ _ => ⟨rfl, rfl⟩), .pf cz3, .ev 0, .pf (leV_app0 (e := (DV.i .i64)) (x := ((a0.Pots.getD iv1 default).Heard)))] <|
.guard [(0 + ((a0.Pots.getD iv1 default).Asked).length) * (2 * 8) ≤ 2 ^ 48] <|
.reg 7 [] [(3, hv (vl ((a0.Pots.getD iv1 default).Asked)))] [.pf (p := ∀ k, k < ((a0.Pots.getD iv1 default).Asked).length → AV.d ((DV.i .i64) (((a0.Pots.getD iv1 default).Asked).getD k default)) = AV.d ((DV.i .i64) (((a0.Pots.getD iv1 default).Asked).getD k default)) ∧ ((DV.i .i64) (((a0.Pots.getD iv1 default).Asked).getD k default)).wd = 1) (fun _ _ => ⟨rfl, rfl⟩), .pf cz3, .ev 0, .pf (leV_app0 (e := (DV.i .i64)) (x := ((a0.Pots.getD iv1 default).Asked)))] <|
.guard [(0 + ((a0.Pots.getD iv1 default).Used).length) * (2 * 8) ≤ 2 ^ 48] <|
.reg 8 [] [(3, hv (vl ((a0.Pots.getD iv1 default).Used)))] [.pf (p := ∀ k, k < ((a0.Pots.getD iv1 default).Used).length → AV.d ((DV.i .i64) (((a0.Pots.getD iv1 default).Used).getD k default)) = AV.d ((DV.i .i64) (((a0.Pots.getD iv1 default).Used).getD k default)) ∧ ((DV.i .i64) (((a0.Pots.getD iv1 default).Used).getD k default)).wd = 1) (fun _ _ => ⟨rfl, rfl⟩), .pf cz3, .ev 0, .pf (leV_app0 (e := (DV.i .i64)) (x := ((a0.Pots.getD iv1 default).Used)))] <|
.guard [(sv2.2.length + 1) * (2 * 128) ≤ 2 ^ 48] <|
.reg 9 [] [(3, hv (AV.d (eL TApiPot.e ([(⟨(a0.Pots.getD iv1 default).Code, (a0.Pots.getD iv1 default).Year, (a0.Pots.getD iv1 default).Total, (a0.Pots.getD iv1 default).Granted, (a0.Pots.getD iv1 default).Heard, (a0.Pots.getD iv1 default).Asked, (a0.Pots.getD iv1 default).Used⟩ : TApiPot)] : List TApiPot)))), (4, { h := .obj, cast := some (AV.ref 3 ((sv2.2 ++ ([(⟨(a0.Pots.getD iv1 default).Code, (a0.Pots.getD iv1 default).Year, (a0.Pots.getD iv1 default).Total, (a0.Pots.getD iv1 default).Granted, (a0.Pots.getD iv1 default).Heard, (a0.Pots.getD iv1 default).Asked, (a0.Pots.getD iv1 default).Used⟩ : TApiPot)] : List TApiPot)).length) 0 ((sv2.2 ++ ([(⟨(a0.Pots.getD iv1 default).Code, (a0.Pots.getD iv1 default).Year, (a0.Pots.getD iv1 default).Total, (a0.Pots.getD iv1 default).Granted, (a0.Pots.getD iv1 default).Heard, (a0.Pots.getD iv1 default).Asked, (a0.Pots.getD iv1 default).Used⟩ : TApiPot)] : List TApiPot)).length)), obs := [(3, (eS 7 TApiPot.e (sv2.2 ++ ([(⟨(a0.Pots.getD iv1 default).Code, (a0.Pots.getD iv1 default).Year, (a0.Pots.getD iv1 default).Total, (a0.Pots.getD iv1 default).Granted, (a0.Pots.getD iv1 default).Heard, (a0.Pots.getD iv1 default).Asked, (a0.Pots.getD iv1 default).Used⟩ : TApiPot)] : List TApiPot))))] })] [.pf (leV_lit TApiPot.e ([(⟨(a0.Pots.getD iv1 default).Code, (a0.Pots.getD iv1 default).Year, (a0.Pots.getD iv1 default).Total, (a0.Pots.getD iv1 default).Granted, (a0.Pots.getD iv1 default).Heard, (a0.Pots.getD iv1 default).Asked, (a0.Pots.getD iv1 default).Used⟩ : TApiPot)] : List TApiPot)), .pf (Eq.refl sv2.2.length), .pf (Eq.refl sv2.2.length), .pf (p := ∀ k, k < 1 → (AV.d (TApiPot.e (([(⟨(a0.Pots.getD iv1 default).Code, (a0.Pots.getD iv1 default).Year, (a0.Pots.getD iv1 default).Total, (a0.Pots.getD iv1 default).Granted, (a0.Pots.getD iv1 default).Heard, (a0.Pots.getD iv1 default).Asked, (a0.Pots.getD iv1 default).Used⟩ : TApiPot)] : List TApiPot).getD k default))).wd = 7) (fun _ _ => rfl), .ev 0, .pf (leV_app (o := 3) (l := sv2.2) (x := ([(⟨(a0.Pots.getD iv1 default).Code, (a0.Pots.getD iv1 default).Year, (a0.Pots.getD iv1 default).Total, (a0.Pots.getD iv1 default).Granted, (a0.Pots.getD iv1 default).Heard, (a0.Pots.getD iv1 default).Asked, (a0.Pots.getD iv1 default).Used⟩ : TApiPot)] : List TApiPot))), .pf (oLe_app (sz := 7) (e := TApiPot.e) (l := sv2.2) (x := ([(⟨(a0.Pots.getD iv1 default).Code, (a0.Pots.getD iv1 default).Year, (a0.Pots.getD iv1 default).Total, (a0.Pots.getD iv1 default).Granted, (a0.Pots.getD iv1 default).Heard, (a0.Pots.getD iv1 default).Asked, (a0.Pots.getD iv1 default).Used⟩ : TApiPot)] : List TApiPot)))] <|
.ret [] (.cont (sv2.1, (sv2.2 ++ ([(⟨(a0.Pots.getD iv1 default).Code, (a0.Pots.getD iv1 default).Year, (a0.Pots.getD iv1 default).Total, (a0.Pots.getD iv1 default).Granted, (a0.Pots.getD iv1 default).Heard, (a0.Pots.getD iv1 default).Asked, (a0.Pots.getD iv1 default).Used⟩ : TApiPot)] : List TApiPot))))
def S_r13_copied_rw (a0 : TApiTreasury) : Scr Tryz.prog R_r13_copied_rw R_r13_copied_rw :=
.reg 0 [] [(1, { obs := [(1, (bx (TApiTreasury.e (⟨0, []⟩ : TApiTreasury))))] })] [.pf cz4] <|
.reg 1 [] [(2, { h := .obj }), (3, { h := .obj })] [] <|
.sh (A := True) (.pf trivial) [(1, (vp 0)), (2, (vp 1)), (3, (vp 2))] [(1, (vp 0)), (2, (vp 1)), (3, (vp 2))] [(bx (TApiTreasury.e a0)), (bx (TApiTreasury.e (⟨0, []⟩ : TApiTreasury))), (Ob.box (AV.agg [(vi a0.Offices), (AV.full 0 fun _ => DV.b false)]))] [(bx (TApiTreasury.e a0)), (bx (TApiTreasury.e (⟨0, []⟩ : TApiTreasury))), (Ob.box (AV.agg [(vi a0.Offices), (AV.ref 3 0 0 0)])), (eS 7 TApiPot.e ([] : List TApiPot))] (fun _ => (shift_born (sz := 7) (f := fun j => AV.d (TApiPot.e (([] : List TApiPot).getD j default))) (.keep _ _ _ _ (Nat.ne_of_beq_eq_false rfl) (.keep _ _ _ _ (Nat.ne_of_beq_eq_false rfl) (.box _ _ _ _ _ (Nat.ne_of_beq_eq_false rfl) (TrV.agg (TrL.cons (TrV.keep _) (TrL.cons TrV.born TrL.nil))) (.nil _)))))) (trF_at (k := 0) rfl (TrS.keep _) (trF_at (k := 1) rfl (TrS.keep _) (trF_at (k := 2) rfl (TrS.keep _) trF_nil))) <|
.range (a0.Pots.length : Int) a0.Pots.length rfl (.slot 10) 12 [2, 3, 10, 11] (fun (_ : Int × (List TApiPot)) => []) (fun (sv2 : Int × (List TApiPot)) => [(2, (Ob.box (AV.agg [(vi sv2.1), (AV.ref 3 sv2.2.length 0 sv2.2.length)]))), (3, (eS 7 TApiPot.e sv2.2))]) (a0.Offices, ([] : List TApiPot)) (S_r13_copied_rw_b1 a0) (fun (sv2 : Int × (List TApiPot)) => 
.reg 11 [] [] [] <|
.kill 0 <|
.kill 2 <|
.ret [] (sv2.1, sv2.2)) id
def F_r13_copied_rw (a0 : TApiTreasury) : Option R_r13_copied_rw := (S_r13_copied_rw a0).den
set_option maxRecDepth 100000 in
theorem F_r13_copied_rw_ok {a0 : TApiTreasury} (r : R_r13_copied_rw) (h : F_r13_copied_rw a0 = some r) : CallOk Tryz.prog 27 [(AV.d (TApiTreasury.e a0))] [] (V_r13_copied_rw r) (L_r13_copied_rw r) := fOk (s := S_r13_copied_rw a0) Tryz.func27 rfl (by kernel_rfl) h
/-! 28 -/
abbrev R_r13_at := Int
def V_r13_at (x : R_r13_at) : AV := (vi x)
def L_r13_at (_ : R_r13_at) : List Ob := []
def S_r13_at_b1 (a0 : TApiTreasury) (a1 : List UInt8) (a2 : Int) (iv1 : Nat) (_ : Unit) : Scr Tryz.prog R_r13_at (Step (Unit) R_r13_at) :=
.reg 3 [] [(3, { obs := [(1, (bx (TApiPot.e (⟨[], 0, 0, [], [], [], []⟩ : TApiPot))))] })] [.pf (nn iv1), .ev 0, .pf cz2] <|
.ite (bif (((a0.Pots.getD iv1 default).Code) == a1) then (((a0.Pots.getD iv1 default).Year) == a2) else false) (
.ret [] (.ret (iv1 : Int))) (
.ret [] (.cont ()))
def S_r13_at (a0 : TApiTreasury) (a1 : List UInt8) (a2 : Int) : Scr Tryz.prog R_r13_at R_r13_at :=
.range (a0.Pots.length : Int) a0.Pots.length rfl (.slot 10) 12 [1, 2, 10, 11] (fun (_ : Unit) => []) (fun (_ : Unit) => []) () (S_r13_at_b1 a0 a1 a2) (fun (_ : Unit) => 
.ret [] (-1)) id
def F_r13_at (a0 : TApiTreasury) (a1 : List UInt8) (a2 : Int) : Option R_r13_at := (S_r13_at a0 a1 a2).den
set_option maxRecDepth 100000 in
theorem F_r13_at_ok {a0 : TApiTreasury} {a1 : List UInt8} {a2 : Int} (r : R_r13_at) (h : F_r13_at a0 a1 a2 = some r) : CallOk Tryz.prog 28 [(AV.d (TApiTreasury.e a0)), (AV.d (DV.str a1)), (vi a2)] [] (V_r13_at r) (L_r13_at r) := fOk (s := S_r13_at a0 a1 a2) Tryz.func28 rfl (by kernel_rfl) h
end
end Go.Proofs.YtfiljdbmhegjgaaGreatDoor
/- What the functions compute, and that their calls return it. No condition. -/
namespace Go.Proofs.YtfiljdbmhegjgaaGreatDoor
open Go Go.TA
noncomputable section
/-! 11 -/
theorem cz5 : LeV (AV.d (DV.agg [(DV.i .i64 0), Z0])) (AV.d (TApiTreasury.e (⟨0, []⟩ : TApiTreasury))) := leV_dle rfl (DLe.agg (DLeL.cons (DLe.refl _) (DLeL.cons DLe.sl0 DLeL.nil)))
theorem cz6 : LeV (AV.d (DV.agg [(DV.str ([])), (DV.i .i64 0), (DV.i .i64 0), Z0, Z0, Z0, Z0])) (AV.d (TApiPot.e (⟨[], 0, 0, [], [], [], []⟩ : TApiPot))) := leV_dle rfl (DLe.agg (DLeL.cons (DLe.refl _) (DLeL.cons (DLe.refl _) (DLeL.cons (DLe.refl _) (DLeL.cons DLe.sl0 (DLeL.cons DLe.sl0 (DLeL.cons DLe.sl0 (DLeL.cons DLe.sl0 DLeL.nil))))))))
theorem cz7 : ∀ k, k < 1 → (AV.d (TApiPot.e (([(⟨[], 0, 0, [], [], [], []⟩ : TApiPot)] : List TApiPot).getD k default))).wd = 7 := fun _ _ => rfl
abbrev R_r13_Set := TApiTreasury × Int
def V_r13_Set (x : R_r13_Set) : AV := (AV.tup [(AV.d (TApiTreasury.e x.1)), (vi x.2)])
def L_r13_Set (_ : R_r13_Set) : List Ob := []
def S_r13_Set_b1 (a1 : List UInt8) (a2 : Int) (rv1 : R_r13_copied_rw) (sv2 : Int) : Scr Tryz.prog R_r13_Set (Step (Int) R_r13_Set) :=
.ite (decide (sv2 < (rv1.2.length : Int))) (
.call (@F_r03_Compare_ok ((rv1.2.getD (0 + (sv2).toNat) default).Code) a1) fun rv3 cv3 =>
.guard [(0 : Int) ≤ sv2, (sv2).toNat < rv1.2.length, (0 + (sv2).toNat) < rv1.2.length] <|
.reg 17 [] [(7, hc cv3 [] true)] [.pf (Eq.refl rv1.2.length), .ev 0, .ev 1, .pf (Eq.refl rv1.2.length), .pf (Eq.refl rv1.2.length), .ev 2, .cl 3 cv3 [] 8 true] <|
.guard [AllP [(rv3 == 0) = true, (decide (rv3 > 0)) = false] → ((0 : Int) ≤ sv2), AllP [(rv3 == 0) = true, (decide (rv3 > 0)) = false] → ((sv2).toNat < rv1.2.length), AllP [(rv3 == 0) = true, (decide (rv3 > 0)) = false] → ((0 + (sv2).toNat) < rv1.2.length)] <|
.reg 18 [] [] [.pf (p := AllP [(rv3 == 0) = true, (decide (rv3 > 0)) = false] → (rv1.2.length = rv1.2.length)) (fun _ => rfl), .ev 0, .ev 1, .pf (p := AllP [(rv3 == 0) = true, (decide (rv3 > 0)) = false] → (rv1.2.length = rv1.2.length)) (fun _ => rfl), .pf (p := AllP [(rv3 == 0) = true, (decide (rv3 > 0)) = false] → (rv1.2.length = rv1.2.length)) (fun _ => rfl), .ev 2] <|
.ite (bif (decide (rv3 > 0)) then true else (bif (rv3 == 0) then (decide (((rv1.2.getD (0 + (sv2).toNat) default).Year) > a2)) else false)) (
.ret [] (.brk sv2)) (
.ret [] (.cont (IntKind.i64.wrap (sv2 + 1))))) (
.ret [] (.brk sv2))
def S_r13_Set (a0 : TApiTreasury) (a1 : List UInt8) (a2 : Int) (a3 : Int) : Scr Tryz.prog R_r13_Set R_r13_Set :=
.reg 0 [] [(1, { obs := [(1, (bx (TApiTreasury.e (⟨0, []⟩ : TApiTreasury))))] })] [.pf cz4] <|
.call (@F_r13_Valid_ok a0) fun rv4 cv4 =>
.reg 1 [] [(1, hc cv4 [] true)] [.cl 0 cv4 [] 2 true] <|
.ite (!rv4) (
.reg 2 [] [(0, hv (AV.d (TApiTreasury.e (⟨0, []⟩ : TApiTreasury))))] [.pf cz5] <|
.ret [] ((⟨0, []⟩ : TApiTreasury), 1)) (
.call (@F_r03_Good_ok a1) fun rv5 cv5 =>
.reg 3 [] [(1, hc cv5 [] true)] [.cl 0 cv5 [] 2 true] <|
.ite (!rv5) (
.reg 4 [] [(0, hv (AV.d (TApiTreasury.e (⟨0, []⟩ : TApiTreasury))))] [.pf cz5] <|
.ret [] ((⟨0, []⟩ : TApiTreasury), 5)) (
.ite (bif (bif (bif (decide (a2 < 0)) then true else (decide (a2 > 99))) then true else (decide (a3 < (-1000000000000000)))) then true else (decide (a3 > 1000000000000000))) (
.reg 6 [] [(0, hv (AV.d (TApiTreasury.e (⟨0, []⟩ : TApiTreasury))))] [.pf cz5] <|
.ret [] ((⟨0, []⟩ : TApiTreasury), 2)) (
.call (@F_r13_copied_rw_ok a0) fun rv1 cv1 =>
.reg 7 [] [(1, hc cv1 [] false), (2, { h := .obj })] [.cl 0 cv1 [] 2 false] <|
.kill 3 <|
.call (@F_r13_at_ok a0 a1 a2) fun rv6 cv6 =>
.reg 8 [] [(3, hc cv6 [] true)] [.cl 0 cv6 [] 7 true] <|
.ite (decide (rv6 ≥ 0)) (
.guard [(0 : Int) ≤ rv6, (rv6).toNat < rv1.2.length, (0 + (rv6).toNat) < rv1.2.length] <|
.reg 10 [] [(6, { obs := [(5, (eS 7 TApiPot.e (rv1.2.set (0 + (rv6).toNat) (⟨(rv1.2.getD (0 + (rv6).toNat) default).Code, (rv1.2.getD (0 + (rv6).toNat) default).Year, a3, (rv1.2.getD (0 + (rv6).toNat) default).Granted, (rv1.2.getD (0 + (rv6).toNat) default).Heard, (rv1.2.getD (0 + (rv6).toNat) default).Asked, (rv1.2.getD (0 + (rv6).toNat) default).Used⟩ : TApiPot))))] })] [.pf (Eq.refl rv1.2.length), .ev 0, .ev 1, .pf (Eq.refl rv1.2.length), .pf (Eq.refl rv1.2.length), .ev 2, .pf (oLe_set (sz := 7) (e := TApiPot.e) (l := rv1.2) (i := (0 + (rv6).toNat)) (x := (⟨(rv1.2.getD (0 + (rv6).toNat) default).Code, (rv1.2.getD (0 + (rv6).toNat) default).Year, a3, (rv1.2.getD (0 + (rv6).toNat) default).Granted, (rv1.2.getD (0 + (rv6).toNat) default).Heard, (rv1.2.getD (0 + (rv6).toNat) default).Asked, (rv1.2.getD (0 + (rv6).toNat) default).Used⟩ : TApiPot)) (fun _ => rfl))] <|
.cst (A := True) (.pf trivial) [(8, (vp 1)), (10, (vp 6))] [(8, (vp 1)), (10, (vp 6))] [(bx (TApiTreasury.e a0)), (bx (TApiTreasury.e (⟨0, []⟩ : TApiTreasury))), Ob.dead, Ob.dead, Ob.dead, (eS 7 TApiPot.e (rv1.2.set (0 + (rv6).toNat) (⟨(rv1.2.getD (0 + (rv6).toNat) default).Code, (rv1.2.getD (0 + (rv6).toNat) default).Year, a3, (rv1.2.getD (0 + (rv6).toNat) default).Granted, (rv1.2.getD (0 + (rv6).toNat) default).Heard, (rv1.2.getD (0 + (rv6).toNat) default).Asked, (rv1.2.getD (0 + (rv6).toNat) default).Used⟩ : TApiPot))), (Ob.box (AV.agg [(vi rv1.1), (AV.ref 5 rv1.2.length 0 rv1.2.length)]))] [(bx (TApiTreasury.e a0)), (bx (TApiTreasury.e (⟨0, []⟩ : TApiTreasury))), Ob.dead, Ob.dead, Ob.dead, (eS 7 TApiPot.e (rv1.2.set (0 + (rv6).toNat) (⟨(rv1.2.getD (0 + (rv6).toNat) default).Code, (rv1.2.getD (0 + (rv6).toNat) default).Year, a3, (rv1.2.getD (0 + (rv6).toNat) default).Granted, (rv1.2.getD (0 + (rv6).toNat) default).Heard, (rv1.2.getD (0 + (rv6).toNat) default).Asked, (rv1.2.getD (0 + (rv6).toNat) default).Used⟩ : TApiPot))), (Ob.box (AV.agg [(vi rv1.1), (AV.ref 5 ((rv1.2.set (0 + (rv6).toNat) (⟨(rv1.2.getD (0 + (rv6).toNat) default).Code, (rv1.2.getD (0 + (rv6).toNat) default).Year, a3, (rv1.2.getD (0 + (rv6).toNat) default).Granted, (rv1.2.getD (0 + (rv6).toNat) default).Heard, (rv1.2.getD (0 + (rv6).toNat) default).Asked, (rv1.2.getD (0 + (rv6).toNat) default).Used⟩ : TApiPot)).length) 0 ((rv1.2.set (0 + (rv6).toNat) (⟨(rv1.2.getD (0 + (rv6).toNat) default).Code, (rv1.2.getD (0 + (rv6).toNat) default).Year, a3, (rv1.2.getD (0 + (rv6).toNat) default).Granted, (rv1.2.getD (0 + (rv6).toNat) default).Heard, (rv1.2.getD (0 + (rv6).toNat) default).Asked, (rv1.2.getD (0 + (rv6).toNat) default).Used⟩ : TApiPot)).length))]))] (fun _ => ⟨by simp only, by simp only [List.length_set]⟩) <|
.guard [(rv1.2.set (0 + (rv6).toNat) (⟨(rv1.2.getD (0 + (rv6).toNat) default).Code, (rv1.2.getD (0 + (rv6).toNat) default).Year, a3, (rv1.2.getD (0 + (rv6).toNat) default).Granted, (rv1.2.getD (0 + (rv6).toNat) default).Heard, (rv1.2.getD (0 + (rv6).toNat) default).Asked, (rv1.2.getD (0 + (rv6).toNat) default).Used⟩ : TApiPot)).length < 2 ^ 63] <|
.reg 11 [] [] [] <|
.frz 5 (.ev 0) none [] [1, 6] <|
.ret [] ((⟨rv1.1, (rv1.2.set (0 + (rv6).toNat) (⟨(rv1.2.getD (0 + (rv6).toNat) default).Code, (rv1.2.getD (0 + (rv6).toNat) default).Year, a3, (rv1.2.getD (0 + (rv6).toNat) default).Granted, (rv1.2.getD (0 + (rv6).toNat) default).Heard, (rv1.2.getD (0 + (rv6).toNat) default).Asked, (rv1.2.getD (0 + (rv6).toNat) default).Used⟩ : TApiPot))⟩ : TApiTreasury), 0)) (
.ite ((a0.Pots.length : Int) == 60) (
.reg 13 [] [(0, hv (AV.d (TApiTreasury.e (⟨0, []⟩ : TApiTreasury))))] [.pf cz5] <|
.ret [] ((⟨0, []⟩ : TApiTreasury), 3)) (
.guard [(0 : Int) ≤ a0.Offices, a0.Offices * 8 ≤ 2 ^ 47] <|
.reg 14 [16, 17] [(5, { h := .imm, cast := some (vl (List.replicate a0.Offices.toNat (0 : Int))) }), (8, { h := .imm, cast := some (vl (List.replicate a0.Offices.toNat (0 : Int))) }), (11, { h := .imm, cast := some (vl (List.replicate a0.Offices.toNat (0 : Int))) }), (14, { h := .imm, cast := some (vl (List.replicate a0.Offices.toNat (0 : Int))) }), (16, { obs := [(7, (bx (TApiPot.e (⟨[], 0, 0, [], [], [], []⟩ : TApiPot))))] })] [.ev 0, .pf (p := a0.Offices ≤ a0.Offices) (Int.le_refl _), .ev 1, .pf (leV_repD (e := (DV.i .i64)) (k := a0.Offices.toNat) (z := (0 : Int))), .ev 0, .pf (p := a0.Offices ≤ a0.Offices) (Int.le_refl _), .ev 1, .pf (leV_repD (e := (DV.i .i64)) (k := a0.Offices.toNat) (z := (0 : Int))), .ev 0, .pf (p := a0.Offices ≤ a0.Offices) (Int.le_refl _), .ev 1, .pf (leV_repD (e := (DV.i .i64)) (k := a0.Offices.toNat) (z := (0 : Int))), .ev 0, .pf (p := a0.Offices ≤ a0.Offices) (Int.le_refl _), .ev 1, .pf (leV_repD (e := (DV.i .i64)) (k := a0.Offices.toNat) (z := (0 : Int))), .ev 0, .pf (p := a0.Offices ≤ a0.Offices) (Int.le_refl _), .ev 1, .pf (leV_repD (e := (DV.i .i64)) (k := a0.Offices.toNat) (z := (0 : Int))), .ev 0, .pf (p := a0.Offices ≤ a0.Offices) (Int.le_refl _), .ev 1, .pf (leV_repD (e := (DV.i .i64)) (k := a0.Offices.toNat) (z := (0 : Int))), .ev 0, .pf (p := a0.Offices ≤ a0.Offices) (Int.le_refl _), .ev 1, .pf (leV_repD (e := (DV.i .i64)) (k := a0.Offices.toNat) (z := (0 : Int))), .ev 0, .pf (p := a0.Offices ≤ a0.Offices) (Int.le_refl _), .ev 1, .pf (leV_repD (e := (DV.i .i64)) (k := a0.Offices.toNat) (z := (0 : Int))), .pf cz2] <|
.iter [1, 2, 8, 10, 12] (fun (sv2 : Int) => [(13, (vi sv2))]) (fun (_ : Int) => []) 0 (S_r13_Set_b1 a1 a2 rv1) (fun (sv2 : Int) =>
.guard [(rv1.2.length + 1) * (2 * 128) ≤ 2 ^ 48] <|
.reg 20 [] [(2, hv (AV.d (TApiPot.e (⟨[], 0, 0, [], [], [], []⟩ : TApiPot)))), (3, hv (AV.d (eL TApiPot.e ([(⟨[], 0, 0, [], [], [], []⟩ : TApiPot)] : List TApiPot)))), (4, { h := .obj, cast := some (AV.ref 5 ((rv1.2 ++ ([(⟨[], 0, 0, [], [], [], []⟩ : TApiPot)] : List TApiPot)).length) 0 ((rv1.2 ++ ([(⟨[], 0, 0, [], [], [], []⟩ : TApiPot)] : List TApiPot)).length)), obs := [(5, (eS 7 TApiPot.e (rv1.2 ++ ([(⟨[], 0, 0, [], [], [], []⟩ : TApiPot)] : List TApiPot))))] })] [.pf cz6, .pf (leV_lit TApiPot.e ([(⟨[], 0, 0, [], [], [], []⟩ : TApiPot)] : List TApiPot)), .pf (Eq.refl rv1.2.length), .pf (Eq.refl rv1.2.length), .pf cz7, .ev 0, .pf (leV_app (o := 5) (l := rv1.2) (x := ([(⟨[], 0, 0, [], [], [], []⟩ : TApiPot)] : List TApiPot))), .pf (oLe_app (sz := 7) (e := TApiPot.e) (l := rv1.2) (x := ([(⟨[], 0, 0, [], [], [], []⟩ : TApiPot)] : List TApiPot)))] <|
.guard [(0 : Int) ≤ (IntKind.i64.wrap (sv2 + 1)), ((IntKind.i64.wrap (sv2 + 1))).toNat ≤ (rv1.2 ++ ([(⟨[], 0, 0, [], [], [], []⟩ : TApiPot)] : List TApiPot)).length, (0 : Int) ≤ sv2, (sv2).toNat ≤ (rv1.2 ++ ([(⟨[], 0, 0, [], [], [], []⟩ : TApiPot)] : List TApiPot)).length] <|
.reg 21 [9] [(9, { obs := [(5, (eS 7 TApiPot.e (copyL (rv1.2 ++ ([(⟨[], 0, 0, [], [], [], []⟩ : TApiPot)] : List TApiPot)) (0 + ((IntKind.i64.wrap (sv2 + 1))).toNat) (min ((rv1.2 ++ ([(⟨[], 0, 0, [], [], [], []⟩ : TApiPot)] : List TApiPot)).length - (sv2).toNat) ((rv1.2 ++ ([(⟨[], 0, 0, [], [], [], []⟩ : TApiPot)] : List TApiPot)).length - ((IntKind.i64.wrap (sv2 + 1))).toNat)) (fun i => ((rv1.2 ++ ([(⟨[], 0, 0, [], [], [], []⟩ : TApiPot)] : List TApiPot)).getD ((0 + (sv2).toNat) + i) default)))))] })] [.ev 0, .ev 1, .pf (Eq.refl ((rv1.2 ++ ([(⟨[], 0, 0, [], [], [], []⟩ : TApiPot)] : List TApiPot)).length)), .ev 2, .ev 3, .pf (Eq.refl ((rv1.2 ++ ([(⟨[], 0, 0, [], [], [], []⟩ : TApiPot)] : List TApiPot)).length)), .pf (Eq.refl ((rv1.2 ++ ([(⟨[], 0, 0, [], [], [], []⟩ : TApiPot)] : List TApiPot)).length)), .pf (Eq.refl ((rv1.2 ++ ([(⟨[], 0, 0, [], [], [], []⟩ : TApiPot)] : List TApiPot)).length)), .pf (p := ∀ k, k < ((rv1.2 ++ ([(⟨[], 0, 0, [], [], [], []⟩ : TApiPot)] : List TApiPot)).length - (sv2).toNat) → (AV.d (TApiPot.e ((rv1.2 ++ ([(⟨[], 0, 0, [], [], [], []⟩ : TApiPot)] : List TApiPot)).getD ((0 + (sv2).toNat) + k) default))).wd = 7) (fun _ _ => rfl), .pf (oLe_copy (sz := 7) (e := TApiPot.e) (l := (rv1.2 ++ ([(⟨[], 0, 0, [], [], [], []⟩ : TApiPot)] : List TApiPot))) (off := (0 + ((IntKind.i64.wrap (sv2 + 1))).toNat)) (k := (min ((rv1.2 ++ ([(⟨[], 0, 0, [], [], [], []⟩ : TApiPot)] : List TApiPot)).length - (sv2).toNat) ((rv1.2 ++ ([(⟨[], 0, 0, [], [], [], []⟩ : TApiPot)] : List TApiPot)).length - ((IntKind.i64.wrap (sv2 + 1))).toNat))) (s := (fun i => ((rv1.2 ++ ([(⟨[], 0, 0, [], [], [], []⟩ : TApiPot)] : List TApiPot)).getD ((0 + (sv2).toNat) + i) default))))] <|
.cst (A := True) (.pf trivial) [(8, (vp 1)), (10, (vp 6)), (12, (vp 7)), (13, (vi sv2))] [(8, (vp 1)), (10, (vp 6)), (12, (vp 7)), (13, (vi sv2))] [(bx (TApiTreasury.e a0)), (bx (TApiTreasury.e (⟨0, []⟩ : TApiTreasury))), Ob.dead, Ob.dead, Ob.dead, (eS 7 TApiPot.e (copyL (rv1.2 ++ ([(⟨[], 0, 0, [], [], [], []⟩ : TApiPot)] : List TApiPot)) (0 + ((IntKind.i64.wrap (sv2 + 1))).toNat) (min ((rv1.2 ++ ([(⟨[], 0, 0, [], [], [], []⟩ : TApiPot)] : List TApiPot)).length - (sv2).toNat) ((rv1.2 ++ ([(⟨[], 0, 0, [], [], [], []⟩ : TApiPot)] : List TApiPot)).length - ((IntKind.i64.wrap (sv2 + 1))).toNat)) (fun i => ((rv1.2 ++ ([(⟨[], 0, 0, [], [], [], []⟩ : TApiPot)] : List TApiPot)).getD ((0 + (sv2).toNat) + i) default)))), (Ob.box (AV.agg [(vi rv1.1), (AV.ref 5 ((rv1.2 ++ ([(⟨[], 0, 0, [], [], [], []⟩ : TApiPot)] : List TApiPot)).length) 0 ((rv1.2 ++ ([(⟨[], 0, 0, [], [], [], []⟩ : TApiPot)] : List TApiPot)).length))])), (bx (DV.agg [(DV.str a1), (DV.i .i64 a2), (DV.i .i64 a3), (eL (DV.i .i64) (List.replicate a0.Offices.toNat (0 : Int))), (eL (DV.i .i64) (List.replicate a0.Offices.toNat (0 : Int))), (eL (DV.i .i64) (List.replicate a0.Offices.toNat (0 : Int))), (eL (DV.i .i64) (List.replicate a0.Offices.toNat (0 : Int)))]))] [(bx (TApiTreasury.e a0)), (bx (TApiTreasury.e (⟨0, []⟩ : TApiTreasury))), Ob.dead, Ob.dead, Ob.dead, (eS 7 TApiPot.e (copyL (rv1.2 ++ ([(⟨[], 0, 0, [], [], [], []⟩ : TApiPot)] : List TApiPot)) (0 + ((IntKind.i64.wrap (sv2 + 1))).toNat) (min ((rv1.2 ++ ([(⟨[], 0, 0, [], [], [], []⟩ : TApiPot)] : List TApiPot)).length - (sv2).toNat) ((rv1.2 ++ ([(⟨[], 0, 0, [], [], [], []⟩ : TApiPot)] : List TApiPot)).length - ((IntKind.i64.wrap (sv2 + 1))).toNat)) (fun i => ((rv1.2 ++ ([(⟨[], 0, 0, [], [], [], []⟩ : TApiPot)] : List TApiPot)).getD ((0 + (sv2).toNat) + i) default)))), (Ob.box (AV.agg [(vi rv1.1), (AV.ref 5 ((copyL (rv1.2 ++ ([(⟨[], 0, 0, [], [], [], []⟩ : TApiPot)] : List TApiPot)) (0 + ((IntKind.i64.wrap (sv2 + 1))).toNat) (min ((rv1.2 ++ ([(⟨[], 0, 0, [], [], [], []⟩ : TApiPot)] : List TApiPot)).length - (sv2).toNat) ((rv1.2 ++ ([(⟨[], 0, 0, [], [], [], []⟩ : TApiPot)] : List TApiPot)).length - ((IntKind.i64.wrap (sv2 + 1))).toNat)) (fun i => ((rv1.2 ++ ([(⟨[], 0, 0, [], [], [], []⟩ : TApiPot)] : List TApiPot)).getD ((0 + (sv2).toNat) + i) default))).length) 0 ((copyL (rv1.2 ++ ([(⟨[], 0, 0, [], [], [], []⟩ : TApiPot)] : List TApiPot)) (0 + ((IntKind.i64.wrap (sv2 + 1))).toNat) (min ((rv1.2 ++ ([(⟨[], 0, 0, [], [], [], []⟩ : TApiPot)] : List TApiPot)).length - (sv2).toNat) ((rv1.2 ++ ([(⟨[], 0, 0, [], [], [], []⟩ : TApiPot)] : List TApiPot)).length - ((IntKind.i64.wrap (sv2 + 1))).toNat)) (fun i => ((rv1.2 ++ ([(⟨[], 0, 0, [], [], [], []⟩ : TApiPot)] : List TApiPot)).getD ((0 + (sv2).toNat) + i) default))).length))])), (bx (DV.agg [(DV.str a1), (DV.i .i64 a2), (DV.i .i64 a3), (eL (DV.i .i64) (List.replicate a0.Offices.toNat (0 : Int))), (eL (DV.i .i64) (List.replicate a0.Offices.toNat (0 : Int))), (eL (DV.i .i64) (List.replicate a0.Offices.toNat (0 : Int))), (eL (DV.i .i64) (List.replicate a0.Offices.toNat (0 : Int)))]))] (fun _ => ⟨by simp only, by simp only [copyL_length]⟩) <|
.guard [(sv2).toNat < (copyL (rv1.2 ++ ([(⟨[], 0, 0, [], [], [], []⟩ : TApiPot)] : List TApiPot)) (0 + ((IntKind.i64.wrap (sv2 + 1))).toNat) (min ((rv1.2 ++ ([(⟨[], 0, 0, [], [], [], []⟩ : TApiPot)] : List TApiPot)).length - (sv2).toNat) ((rv1.2 ++ ([(⟨[], 0, 0, [], [], [], []⟩ : TApiPot)] : List TApiPot)).length - ((IntKind.i64.wrap (sv2 + 1))).toNat)) (fun i => ((rv1.2 ++ ([(⟨[], 0, 0, [], [], [], []⟩ : TApiPot)] : List TApiPot)).getD ((0 + (sv2).toNat) + i) default))).length, (0 + (sv2).toNat) < (copyL (rv1.2 ++ ([(⟨[], 0, 0, [], [], [], []⟩ : TApiPot)] : List TApiPot)) (0 + ((IntKind.i64.wrap (sv2 + 1))).toNat) (min ((rv1.2 ++ ([(⟨[], 0, 0, [], [], [], []⟩ : TApiPot)] : List TApiPot)).length - (sv2).toNat) ((rv1.2 ++ ([(⟨[], 0, 0, [], [], [], []⟩ : TApiPot)] : List TApiPot)).length - ((IntKind.i64.wrap (sv2 + 1))).toNat)) (fun i => ((rv1.2 ++ ([(⟨[], 0, 0, [], [], [], []⟩ : TApiPot)] : List TApiPot)).getD ((0 + (sv2).toNat) + i) default))).length] <|
.reg 22 [] [(5, { obs := [(5, (eS 7 TApiPot.e ((copyL (rv1.2 ++ ([(⟨[], 0, 0, [], [], [], []⟩ : TApiPot)] : List TApiPot)) (0 + ((IntKind.i64.wrap (sv2 + 1))).toNat) (min ((rv1.2 ++ ([(⟨[], 0, 0, [], [], [], []⟩ : TApiPot)] : List TApiPot)).length - (sv2).toNat) ((rv1.2 ++ ([(⟨[], 0, 0, [], [], [], []⟩ : TApiPot)] : List TApiPot)).length - ((IntKind.i64.wrap (sv2 + 1))).toNat)) (fun i => ((rv1.2 ++ ([(⟨[], 0, 0, [], [], [], []⟩ : TApiPot)] : List TApiPot)).getD ((0 + (sv2).toNat) + i) default))).set (0 + (sv2).toNat) (⟨a1, a2, a3, (List.replicate a0.Offices.toNat (0 : Int)), (List.replicate a0.Offices.toNat (0 : Int)), (List.replicate a0.Offices.toNat (0 : Int)), (List.replicate a0.Offices.toNat (0 : Int))⟩ : TApiPot))))] })] [.pf (Eq.refl ((copyL (rv1.2 ++ ([(⟨[], 0, 0, [], [], [], []⟩ : TApiPot)] : List TApiPot)) (0 + ((IntKind.i64.wrap (sv2 + 1))).toNat) (min ((rv1.2 ++ ([(⟨[], 0, 0, [], [], [], []⟩ : TApiPot)] : List TApiPot)).length - (sv2).toNat) ((rv1.2 ++ ([(⟨[], 0, 0, [], [], [], []⟩ : TApiPot)] : List TApiPot)).length - ((IntKind.i64.wrap (sv2 + 1))).toNat)) (fun i => ((rv1.2 ++ ([(⟨[], 0, 0, [], [], [], []⟩ : TApiPot)] : List TApiPot)).getD ((0 + (sv2).toNat) + i) default))).length)), .ev 4, .ev 0, .pf (Eq.refl ((copyL (rv1.2 ++ ([(⟨[], 0, 0, [], [], [], []⟩ : TApiPot)] : List TApiPot)) (0 + ((IntKind.i64.wrap (sv2 + 1))).toNat) (min ((rv1.2 ++ ([(⟨[], 0, 0, [], [], [], []⟩ : TApiPot)] : List TApiPot)).length - (sv2).toNat) ((rv1.2 ++ ([(⟨[], 0, 0, [], [], [], []⟩ : TApiPot)] : List TApiPot)).length - ((IntKind.i64.wrap (sv2 + 1))).toNat)) (fun i => ((rv1.2 ++ ([(⟨[], 0, 0, [], [], [], []⟩ : TApiPot)] : List TApiPot)).getD ((0 + (sv2).toNat) + i) default))).length)), .ev 1, .pf (oLe_set (sz := 7) (e := TApiPot.e) (l := (copyL (rv1.2 ++ ([(⟨[], 0, 0, [], [], [], []⟩ : TApiPot)] : List TApiPot)) (0 + ((IntKind.i64.wrap (sv2 + 1))).toNat) (min ((rv1.2 ++ ([(⟨[], 0, 0, [], [], [], []⟩ : TApiPot)] : List TApiPot)).length - (sv2).toNat) ((rv1.2 ++ ([(⟨[], 0, 0, [], [], [], []⟩ : TApiPot)] : List TApiPot)).length - ((IntKind.i64.wrap (sv2 + 1))).toNat)) (fun i => ((rv1.2 ++ ([(⟨[], 0, 0, [], [], [], []⟩ : TApiPot)] : List TApiPot)).getD ((0 + (sv2).toNat) + i) default)))) (i := (0 + (sv2).toNat)) (x := (⟨a1, a2, a3, (List.replicate a0.Offices.toNat (0 : Int)), (List.replicate a0.Offices.toNat (0 : Int)), (List.replicate a0.Offices.toNat (0 : Int)), (List.replicate a0.Offices.toNat (0 : Int))⟩ : TApiPot)) (fun _ => rfl))] <|
.cst (A := True) (.pf trivial) [(8, (vp 1)), (10, (vp 6))] [(8, (vp 1)), (10, (vp 6))] [(bx (TApiTreasury.e a0)), (bx (TApiTreasury.e (⟨0, []⟩ : TApiTreasury))), Ob.dead, Ob.dead, Ob.dead, (eS 7 TApiPot.e ((copyL (rv1.2 ++ ([(⟨[], 0, 0, [], [], [], []⟩ : TApiPot)] : List TApiPot)) (0 + ((IntKind.i64.wrap (sv2 + 1))).toNat) (min ((rv1.2 ++ ([(⟨[], 0, 0, [], [], [], []⟩ : TApiPot)] : List TApiPot)).length - (sv2).toNat) ((rv1.2 ++ ([(⟨[], 0, 0, [], [], [], []⟩ : TApiPot)] : List TApiPot)).length - ((IntKind.i64.wrap (sv2 + 1))).toNat)) (fun i => ((rv1.2 ++ ([(⟨[], 0, 0, [], [], [], []⟩ : TApiPot)] : List TApiPot)).getD ((0 + (sv2).toNat) + i) default))).set (0 + (sv2).toNat) (⟨a1, a2, a3, (List.replicate a0.Offices.toNat (0 : Int)), (List.replicate a0.Offices.toNat (0 : Int)), (List.replicate a0.Offices.toNat (0 : Int)), (List.replicate a0.Offices.toNat (0 : Int))⟩ : TApiPot))), (Ob.box (AV.agg [(vi rv1.1), (AV.ref 5 ((copyL (rv1.2 ++ ([(⟨[], 0, 0, [], [], [], []⟩ : TApiPot)] : List TApiPot)) (0 + ((IntKind.i64.wrap (sv2 + 1))).toNat) (min ((rv1.2 ++ ([(⟨[], 0, 0, [], [], [], []⟩ : TApiPot)] : List TApiPot)).length - (sv2).toNat) ((rv1.2 ++ ([(⟨[], 0, 0, [], [], [], []⟩ : TApiPot)] : List TApiPot)).length - ((IntKind.i64.wrap (sv2 + 1))).toNat)) (fun i => ((rv1.2 ++ ([(⟨[], 0, 0, [], [], [], []⟩ : TApiPot)] : List TApiPot)).getD ((0 + (sv2).toNat) + i) default))).length) 0 ((copyL (rv1.2 ++ ([(⟨[], 0, 0, [], [], [], []⟩ : TApiPot)] : List TApiPot)) (0 + ((IntKind.i64.wrap (sv2 + 1))).toNat) (min ((rv1.2 ++ ([(⟨[], 0, 0, [], [], [], []⟩ : TApiPot)] : List TApiPot)).length - (sv2).toNat) ((rv1.2 ++ ([(⟨[], 0, 0, [], [], [], []⟩ : TApiPot)] : List TApiPot)).length - ((IntKind.i64.wrap (sv2 + 1))).toNat)) (fun i => ((rv1.2 ++ ([(⟨[], 0, 0, [], [], [], []⟩ : TApiPot)] : List TApiPot)).getD ((0 + (sv2).toNat) + i) default))).length))])), (bx (DV.agg [(DV.str a1), (DV.i .i64 a2), (DV.i .i64 a3), (eL (DV.i .i64) (List.replicate a0.Offices.toNat (0 : Int))), (eL (DV.i .i64) (List.replicate a0.Offices.toNat (0 : Int))), (eL (DV.i .i64) (List.replicate a0.Offices.toNat (0 : Int))), (eL (DV.i .i64) (List.replicate a0.Offices.toNat (0 : Int)))]))] [(bx (TApiTreasury.e a0)), (bx (TApiTreasury.e (⟨0, []⟩ : TApiTreasury))), Ob.dead, Ob.dead, Ob.dead, (eS 7 TApiPot.e ((copyL (rv1.2 ++ ([(⟨[], 0, 0, [], [], [], []⟩ : TApiPot)] : List TApiPot)) (0 + ((IntKind.i64.wrap (sv2 + 1))).toNat) (min ((rv1.2 ++ ([(⟨[], 0, 0, [], [], [], []⟩ : TApiPot)] : List TApiPot)).length - (sv2).toNat) ((rv1.2 ++ ([(⟨[], 0, 0, [], [], [], []⟩ : TApiPot)] : List TApiPot)).length - ((IntKind.i64.wrap (sv2 + 1))).toNat)) (fun i => ((rv1.2 ++ ([(⟨[], 0, 0, [], [], [], []⟩ : TApiPot)] : List TApiPot)).getD ((0 + (sv2).toNat) + i) default))).set (0 + (sv2).toNat) (⟨a1, a2, a3, (List.replicate a0.Offices.toNat (0 : Int)), (List.replicate a0.Offices.toNat (0 : Int)), (List.replicate a0.Offices.toNat (0 : Int)), (List.replicate a0.Offices.toNat (0 : Int))⟩ : TApiPot))), (Ob.box (AV.agg [(vi rv1.1), (AV.ref 5 (((copyL (rv1.2 ++ ([(⟨[], 0, 0, [], [], [], []⟩ : TApiPot)] : List TApiPot)) (0 + ((IntKind.i64.wrap (sv2 + 1))).toNat) (min ((rv1.2 ++ ([(⟨[], 0, 0, [], [], [], []⟩ : TApiPot)] : List TApiPot)).length - (sv2).toNat) ((rv1.2 ++ ([(⟨[], 0, 0, [], [], [], []⟩ : TApiPot)] : List TApiPot)).length - ((IntKind.i64.wrap (sv2 + 1))).toNat)) (fun i => ((rv1.2 ++ ([(⟨[], 0, 0, [], [], [], []⟩ : TApiPot)] : List TApiPot)).getD ((0 + (sv2).toNat) + i) default))).set (0 + (sv2).toNat) (⟨a1, a2, a3, (List.replicate a0.Offices.toNat (0 : Int)), (List.replicate a0.Offices.toNat (0 : Int)), (List.replicate a0.Offices.toNat (0 : Int)), (List.replicate a0.Offices.toNat (0 : Int))⟩ : TApiPot)).length) 0 (((copyL (rv1.2 ++ ([(⟨[], 0, 0, [], [], [], []⟩ : TApiPot)] : List TApiPot)) (0 + ((IntKind.i64.wrap (sv2 + 1))).toNat) (min ((rv1.2 ++ ([(⟨[], 0, 0, [], [], [], []⟩ : TApiPot)] : List TApiPot)).length - (sv2).toNat) ((rv1.2 ++ ([(⟨[], 0, 0, [], [], [], []⟩ : TApiPot)] : List TApiPot)).length - ((IntKind.i64.wrap (sv2 + 1))).toNat)) (fun i => ((rv1.2 ++ ([(⟨[], 0, 0, [], [], [], []⟩ : TApiPot)] : List TApiPot)).getD ((0 + (sv2).toNat) + i) default))).set (0 + (sv2).toNat) (⟨a1, a2, a3, (List.replicate a0.Offices.toNat (0 : Int)), (List.replicate a0.Offices.toNat (0 : Int)), (List.replicate a0.Offices.toNat (0 : Int)), (List.replicate a0.Offices.toNat (0 : Int))⟩ : TApiPot)).length))])), (bx (DV.agg [(DV.str a1), (DV.i .i64 a2), (DV.i .i64 a3), (eL (DV.i .i64) (List.replicate a0.Offices.toNat (0 : Int))), (eL (DV.i .i64) (List.replicate a0.Offices.toNat (0 : Int))), (eL (DV.i .i64) (List.replicate a0.Offices.toNat (0 : Int))), (eL (DV.i .i64) (List.replicate a0.Offices.toNat (0 : Int)))]))] (fun _ => ⟨by simp only, by simp only [List.length_set, copyL_length]⟩) <|
.guard [((copyL (rv1.2 ++ ([(⟨[], 0, 0, [], [], [], []⟩ : TApiPot)] : List TApiPot)) (0 + ((IntKind.i64.wrap (sv2 + 1))).toNat) (min ((rv1.2 ++ ([(⟨[], 0, 0, [], [], [], []⟩ : TApiPot)] : List TApiPot)).length - (sv2).toNat) ((rv1.2 ++ ([(⟨[], 0, 0, [], [], [], []⟩ : TApiPot)] : List TApiPot)).length - ((IntKind.i64.wrap (sv2 + 1))).toNat)) (fun i => ((rv1.2 ++ ([(⟨[], 0, 0, [], [], [], []⟩ : TApiPot)] : List TApiPot)).getD ((0 + (sv2).toNat) + i) default))).set (0 + (sv2).toNat) (⟨a1, a2, a3, (List.replicate a0.Offices.toNat (0 : Int)), (List.replicate a0.Offices.toNat (0 : Int)), (List.replicate a0.Offices.toNat (0 : Int)), (List.replicate a0.Offices.toNat (0 : Int))⟩ : TApiPot)).length < 2 ^ 63] <|
.reg 23 [] [] [] <|
.frz 5 (.ev 0) none [] [1, 6] <|
.ret [] ((⟨rv1.1, ((copyL (rv1.2 ++ ([(⟨[], 0, 0, [], [], [], []⟩ : TApiPot)] : List TApiPot)) (0 + ((IntKind.i64.wrap (sv2 + 1))).toNat) (min ((rv1.2 ++ ([(⟨[], 0, 0, [], [], [], []⟩ : TApiPot)] : List TApiPot)).length - (sv2).toNat) ((rv1.2 ++ ([(⟨[], 0, 0, [], [], [], []⟩ : TApiPot)] : List TApiPot)).length - ((IntKind.i64.wrap (sv2 + 1))).toNat)) (fun i => ((rv1.2 ++ ([(⟨[], 0, 0, [], [], [], []⟩ : TApiPot)] : List TApiPot)).getD ((0 + (sv2).toNat) + i) default))).set (0 + (sv2).toNat) (⟨a1, a2, a3, (List.replicate a0.Offices.toNat (0 : Int)), (List.replicate a0.Offices.toNat (0 : Int)), (List.replicate a0.Offices.toNat (0 : Int)), (List.replicate a0.Offices.toNat (0 : Int))⟩ : TApiPot))⟩ : TApiTreasury), 0)) id)))))
def F_r13_Set (a0 : TApiTreasury) (a1 : List UInt8) (a2 : Int) (a3 : Int) : Option R_r13_Set := (S_r13_Set a0 a1 a2 a3).den
set_option maxRecDepth 100000 in
theorem F_r13_Set_ok {a0 : TApiTreasury} {a1 : List UInt8} {a2 : Int} {a3 : Int} (r : R_r13_Set) (h : F_r13_Set a0 a1 a2 a3 = some r) : CallOk Tryz.prog 11 [(AV.d (TApiTreasury.e a0)), (AV.d (DV.str a1)), (vi a2), (vi a3)] [] (V_r13_Set r) (L_r13_Set r) := fOk (s := S_r13_Set a0 a1 a2 a3) Tryz.func11 rfl (by kernel_rfl) h
/-! 30 -/
abbrev R_r13_find := Int × Int
def V_r13_find (x : R_r13_find) : AV := (AV.tup [(vi x.1), (vi x.2)])
def L_r13_find (_ : R_r13_find) : List Ob := []
def S_r13_find (a0 : TApiTreasury) (a1 : Int) (a2 : List UInt8) (a3 : Int) : Scr Tryz.prog R_r13_find R_r13_find :=
.call (@F_r13_Valid_ok a0) fun rv1 cv1 =>
.reg 1 [] [(1, hc cv1 [] true)] [.cl 0 cv1 [] 1 true] <|
.ite (!rv1) (
.ret [] (0, 1)) (
.call (@F_r13_at_ok a0 a2 a3) fun rv2 cv2 =>
.reg 3 [] [(3, hc cv2 [] true)] [.cl 0 cv2 [] 1 true] <|
.ite (bif (bif (decide (rv2 < 0)) then true else (decide (a1 < 1))) then true else (decide (a1 > a0.Offices))) (
.ret [] (0, 6)) (
.ret [] (rv2, 0)))
def F_r13_find (a0 : TApiTreasury) (a1 : Int) (a2 : List UInt8) (a3 : Int) : Option R_r13_find := (S_r13_find a0 a1 a2 a3).den
set_option maxRecDepth 100000 in
theorem F_r13_find_ok {a0 : TApiTreasury} {a1 : Int} {a2 : List UInt8} {a3 : Int} (r : R_r13_find) (h : F_r13_find a0 a1 a2 a3 = some r) : CallOk Tryz.prog 30 [(AV.d (TApiTreasury.e a0)), (vi a1), (AV.d (DV.str a2)), (vi a3)] [] (V_r13_find r) (L_r13_find r) := fOk (s := S_r13_find a0 a1 a2 a3) Tryz.func30 rfl (by kernel_rfl) h
/-! 0 -/
def oTApiPot : Opn TApiPot where
  sz := 7
  T := fun a b c d x => .agg [.d (.str x.Code), vi x.Year, vi x.Total, a, b, c, d]
  e := TApiPot.e
  g1 := TApiPot.Granted
  g2 := TApiPot.Heard
  g3 := TApiPot.Asked
  g4 := TApiPot.Used
  tr := fun _ h1 h2 h3 h4 => TrV.agg (.cons (.keep _) (.cons (.keep _) (.cons (.keep _) (.cons h1 (.cons h2 (.cons h3 (.cons h4 .nil)))))))
  cl := fun x => TrV.aggD (ys := [.str x.Code, .i .i64 x.Year, .i .i64 x.Total, eL (.i .i64) x.Granted, eL (.i .i64) x.Heard, eL (.i .i64) x.Asked, eL (.i .i64) x.Used])
    (.cons (.keep _) (.cons (.keep _) (.cons (.keep _) (.cons (.keep _) (.cons (.keep _) (.cons (.keep _) (.cons (.keep _) .nil)))))))
  wd := fun _ h1 h2 h3 h4 => by simp [AV.wd, AV.wdL, DV.wd, h1, h2, h3, h4]
/-! 27 -/
abbrev R_r13_copied_op := Int × (List TApiPot)
def V_r13_copied_op (x : R_r13_copied_op) : AV := (AV.agg [(vi x.1), (AV.ref 3 x.2.length 0 x.2.length)])
def L_r13_copied_op (i0 : Nat) (x : R_r13_copied_op) : List Ob := [Ob.dead, (Ob.box (AV.agg [(vi x.1), (AV.ref 3 x.2.length 0 x.2.length)])), Ob.dead, (opS 7 TApiPot.e i0 (AV.agg [(AV.d (DV.str (x.2.getD i0 default).Code)), (vi (x.2.getD i0 default).Year), (vi (x.2.getD i0 default).Total), (rr 4 (x.2.getD i0 default).Granted), (rr 5 (x.2.getD i0 default).Heard), (rr 6 (x.2.getD i0 default).Asked), (rr 7 (x.2.getD i0 default).Used)]) x.2), (eQ (x.2.getD i0 default).Granted), (eQ (x.2.getD i0 default).Heard), (eQ (x.2.getD i0 default).Asked), (eQ (x.2.getD i0 default).Used)]
def S_r13_copied_op_b1 (a0 : TApiTreasury) (i0 : Nat) (iv1 : Nat) (sv2 : Int × (List TApiPot)) : Scr Tryz.prog R_r13_copied_op (Step (Int × (List TApiPot)) R_r13_copied_op) :=
.reg 4 [] [(2, { obs := [(8, (bx (TApiPot.e (⟨[], 0, 0, [], [], [], []⟩ : TApiPot))))] })] [.pf (nn iv1), .ev 0, .pf cz2] <|
.guard [(a0.Pots.getD iv1 default).Granted.length * (2 * 8) ≤ 2 ^ 48] <|
.reg 5 [] [(3, { h := .obj })] [.pf (p := ∀ k, k < (a0.Pots.getD iv1 default).Granted.length → (AV.d ((DV.i .i64) ((a0.Pots.getD iv1 default).Granted.getD k default))).wd = 1) (fun _ _ => rfl), .ev 0] <|
.guard [(a0.Pots.getD iv1 default).Heard.length * (2 * 8) ≤ 2 ^ 48] <|
.reg 6 [] [(3, { h := .obj })] [.pf (p := ∀ k, k < (a0.Pots.getD iv1 default).Heard.length → (AV.d ((DV.i .i64) ((a0.Pots.getD iv1 default).Heard.getD k default))).wd = 1) (fun _ _ => rfl), .ev 0] <|
.guard [(a0.Pots.getD iv1 default).Asked.length * (2 * 8) ≤ 2 ^ 48] <|
.reg 7 [] [(3, { h := .obj })] [.pf (p := ∀ k, k < (a0.Pots.getD iv1 default).Asked.length → (AV.d ((DV.i .i64) ((a0.Pots.getD iv1 default).Asked.getD k default))).wd = 1) (fun _ _ => rfl), .ev 0] <|
.guard [(a0.Pots.getD iv1 default).Used.length * (2 * 8) ≤ 2 ^ 48] <|
.reg 8 [] [(3, { h := .obj })] [.pf (p := ∀ k, k < (a0.Pots.getD iv1 default).Used.length → (AV.d ((DV.i .i64) ((a0.Pots.getD iv1 default).Used.getD k default))).wd = 1) (fun _ _ => rfl), .ev 0] <|
.guard [(sv2.2.length + 1) * (2 * 128) ≤ 2 ^ 48] <|
.reg 9 [] [(3, { h := .obj }), (4, { h := .obj, cast := some (AV.ref 3 ((sv2.2 ++ [(⟨(a0.Pots.getD iv1 default).Code, (a0.Pots.getD iv1 default).Year, (a0.Pots.getD iv1 default).Total, (a0.Pots.getD iv1 default).Granted, (a0.Pots.getD iv1 default).Heard, (a0.Pots.getD iv1 default).Asked, (a0.Pots.getD iv1 default).Used⟩ : TApiPot)]).length) 0 ((sv2.2 ++ [(⟨(a0.Pots.getD iv1 default).Code, (a0.Pots.getD iv1 default).Year, (a0.Pots.getD iv1 default).Total, (a0.Pots.getD iv1 default).Granted, (a0.Pots.getD iv1 default).Heard, (a0.Pots.getD iv1 default).Asked, (a0.Pots.getD iv1 default).Used⟩ : TApiPot)]).length)), obs := [(3, (Ob.seq 7 ((sv2.2 ++ [(⟨(a0.Pots.getD iv1 default).Code, (a0.Pots.getD iv1 default).Year, (a0.Pots.getD iv1 default).Total, (a0.Pots.getD iv1 default).Granted, (a0.Pots.getD iv1 default).Heard, (a0.Pots.getD iv1 default).Asked, (a0.Pots.getD iv1 default).Used⟩ : TApiPot)]).length) (catF sv2.2.length (fun j => AV.sel (decide (j = i0)) 7 (AV.agg [(AV.d (DV.str (sv2.2.getD i0 default).Code)), (vi (sv2.2.getD i0 default).Year), (vi (sv2.2.getD i0 default).Total), (rr 4 (sv2.2.getD i0 default).Granted), (rr 5 (sv2.2.getD i0 default).Heard), (rr 6 (sv2.2.getD i0 default).Asked), (rr 7 (sv2.2.getD i0 default).Used)]) (AV.d (TApiPot.e (sv2.2.getD j default)))) (listF AV.bot [(AV.agg [(AV.d (DV.str (a0.Pots.getD iv1 default).Code)), (vi (a0.Pots.getD iv1 default).Year), (vi (a0.Pots.getD iv1 default).Total), (rr 9 (a0.Pots.getD iv1 default).Granted), (rr 10 (a0.Pots.getD iv1 default).Heard), (rr 11 (a0.Pots.getD iv1 default).Asked), (rr 12 (a0.Pots.getD iv1 default).Used)])]))))] })] [.pf (Eq.refl 1), .pf (Eq.refl sv2.2.length), .pf (Eq.refl sv2.2.length), .pf (p := ∀ k, k < 1 → (listF AV.bot [(AV.agg [(AV.d (DV.str (a0.Pots.getD iv1 default).Code)), (vi (a0.Pots.getD iv1 default).Year), (vi (a0.Pots.getD iv1 default).Total), (rr 9 (a0.Pots.getD iv1 default).Granted), (rr 10 (a0.Pots.getD iv1 default).Heard), (rr 11 (a0.Pots.getD iv1 default).Asked), (rr 12 (a0.Pots.getD iv1 default).Used)])] k).wd = 7) (fun k hk => by obtain rfl : k = 0 := (by omega); rfl), .ev 0, .pf (leV_app (o := 3) (l := sv2.2) (x := [(⟨(a0.Pots.getD iv1 default).Code, (a0.Pots.getD iv1 default).Year, (a0.Pots.getD iv1 default).Total, (a0.Pots.getD iv1 default).Granted, (a0.Pots.getD iv1 default).Heard, (a0.Pots.getD iv1 default).Asked, (a0.Pots.getD iv1 default).Used⟩ : TApiPot)])), .pf (p := OLe (Ob.seq 7 (sv2.2.length + 1) (catF sv2.2.length (fun j => AV.sel (decide (j = i0)) 7 (AV.agg [(AV.d (DV.str (sv2.2.getD i0 default).Code)), (vi (sv2.2.getD i0 default).Year), (vi (sv2.2.getD i0 default).Total), (rr 4 (sv2.2.getD i0 default).Granted), (rr 5 (sv2.2.getD i0 default).Heard), (rr 6 (sv2.2.getD i0 default).Asked), (rr 7 (sv2.2.getD i0 default).Used)]) (AV.d (TApiPot.e (sv2.2.getD j default)))) (listF AV.bot [(AV.agg [(AV.d (DV.str (a0.Pots.getD iv1 default).Code)), (vi (a0.Pots.getD iv1 default).Year), (vi (a0.Pots.getD iv1 default).Total), (rr 9 (a0.Pots.getD iv1 default).Granted), (rr 10 (a0.Pots.getD iv1 default).Heard), (rr 11 (a0.Pots.getD iv1 default).Asked), (rr 12 (a0.Pots.getD iv1 default).Used)])]))) (Ob.seq 7 ((sv2.2 ++ [(⟨(a0.Pots.getD iv1 default).Code, (a0.Pots.getD iv1 default).Year, (a0.Pots.getD iv1 default).Total, (a0.Pots.getD iv1 default).Granted, (a0.Pots.getD iv1 default).Heard, (a0.Pots.getD iv1 default).Asked, (a0.Pots.getD iv1 default).Used⟩ : TApiPot)]).length) (catF sv2.2.length (fun j => AV.sel (decide (j = i0)) 7 (AV.agg [(AV.d (DV.str (sv2.2.getD i0 default).Code)), (vi (sv2.2.getD i0 default).Year), (vi (sv2.2.getD i0 default).Total), (rr 4 (sv2.2.getD i0 default).Granted), (rr 5 (sv2.2.getD i0 default).Heard), (rr 6 (sv2.2.getD i0 default).Asked), (rr 7 (sv2.2.getD i0 default).Used)]) (AV.d (TApiPot.e (sv2.2.getD j default)))) (listF AV.bot [(AV.agg [(AV.d (DV.str (a0.Pots.getD iv1 default).Code)), (vi (a0.Pots.getD iv1 default).Year), (vi (a0.Pots.getD iv1 default).Total), (rr 9 (a0.Pots.getD iv1 default).Granted), (rr 10 (a0.Pots.getD iv1 default).Heard), (rr 11 (a0.Pots.getD iv1 default).Asked), (rr 12 (a0.Pots.getD iv1 default).Used)])])))) (oLe_len (by simp))] <|
.guard [((sv2.2.length = i0 → 0 < (⟨(a0.Pots.getD iv1 default).Code, (a0.Pots.getD iv1 default).Year, (a0.Pots.getD iv1 default).Total, (a0.Pots.getD iv1 default).Granted, (a0.Pots.getD iv1 default).Heard, (a0.Pots.getD iv1 default).Asked, (a0.Pots.getD iv1 default).Used⟩ : TApiPot).Granted.length ∧ 0 < (⟨(a0.Pots.getD iv1 default).Code, (a0.Pots.getD iv1 default).Year, (a0.Pots.getD iv1 default).Total, (a0.Pots.getD iv1 default).Granted, (a0.Pots.getD iv1 default).Heard, (a0.Pots.getD iv1 default).Asked, (a0.Pots.getD iv1 default).Used⟩ : TApiPot).Heard.length ∧ 0 < (⟨(a0.Pots.getD iv1 default).Code, (a0.Pots.getD iv1 default).Year, (a0.Pots.getD iv1 default).Total, (a0.Pots.getD iv1 default).Granted, (a0.Pots.getD iv1 default).Heard, (a0.Pots.getD iv1 default).Asked, (a0.Pots.getD iv1 default).Used⟩ : TApiPot).Asked.length ∧ 0 < (⟨(a0.Pots.getD iv1 default).Code, (a0.Pots.getD iv1 default).Year, (a0.Pots.getD iv1 default).Total, (a0.Pots.getD iv1 default).Granted, (a0.Pots.getD iv1 default).Heard, (a0.Pots.getD iv1 default).Asked, (a0.Pots.getD iv1 default).Used⟩ : TApiPot).Used.length) ∧ ((⟨(a0.Pots.getD iv1 default).Code, (a0.Pots.getD iv1 default).Year, (a0.Pots.getD iv1 default).Total, (a0.Pots.getD iv1 default).Granted, (a0.Pots.getD iv1 default).Heard, (a0.Pots.getD iv1 default).Asked, (a0.Pots.getD iv1 default).Used⟩ : TApiPot).Granted.length < 2 ^ 63 ∧ (⟨(a0.Pots.getD iv1 default).Code, (a0.Pots.getD iv1 default).Year, (a0.Pots.getD iv1 default).Total, (a0.Pots.getD iv1 default).Granted, (a0.Pots.getD iv1 default).Heard, (a0.Pots.getD iv1 default).Asked, (a0.Pots.getD iv1 default).Used⟩ : TApiPot).Heard.length < 2 ^ 63 ∧ (⟨(a0.Pots.getD iv1 default).Code, (a0.Pots.getD iv1 default).Year, (a0.Pots.getD iv1 default).Total, (a0.Pots.getD iv1 default).Granted, (a0.Pots.getD iv1 default).Heard, (a0.Pots.getD iv1 default).Asked, (a0.Pots.getD iv1 default).Used⟩ : TApiPot).Asked.length < 2 ^ 63 ∧ (⟨(a0.Pots.getD iv1 default).Code, (a0.Pots.getD iv1 default).Year, (a0.Pots.getD iv1 default).Total, (a0.Pots.getD iv1 default).Granted, (a0.Pots.getD iv1 default).Heard, (a0.Pots.getD iv1 default).Asked, (a0.Pots.getD iv1 default).Used⟩ : TApiPot).Used.length < 2 ^ 63))] <|
.sh (A := ((sv2.2.length = i0 → 0 < (⟨(a0.Pots.getD iv1 default).Code, (a0.Pots.getD iv1 default).Year, (a0.Pots.getD iv1 default).Total, (a0.Pots.getD iv1 default).Granted, (a0.Pots.getD iv1 default).Heard, (a0.Pots.getD iv1 default).Asked, (a0.Pots.getD iv1 default).Used⟩ : TApiPot).Granted.length ∧ 0 < (⟨(a0.Pots.getD iv1 default).Code, (a0.Pots.getD iv1 default).Year, (a0.Pots.getD iv1 default).Total, (a0.Pots.getD iv1 default).Granted, (a0.Pots.getD iv1 default).Heard, (a0.Pots.getD iv1 default).Asked, (a0.Pots.getD iv1 default).Used⟩ : TApiPot).Heard.length ∧ 0 < (⟨(a0.Pots.getD iv1 default).Code, (a0.Pots.getD iv1 default).Year, (a0.Pots.getD iv1 default).Total, (a0.Pots.getD iv1 default).Granted, (a0.Pots.getD iv1 default).Heard, (a0.Pots.getD iv1 default).Asked, (a0.Pots.getD iv1 default).Used⟩ : TApiPot).Asked.length ∧ 0 < (⟨(a0.Pots.getD iv1 default).Code, (a0.Pots.getD iv1 default).Year, (a0.Pots.getD iv1 default).Total, (a0.Pots.getD iv1 default).Granted, (a0.Pots.getD iv1 default).Heard, (a0.Pots.getD iv1 default).Asked, (a0.Pots.getD iv1 default).Used⟩ : TApiPot).Used.length) ∧ ((⟨(a0.Pots.getD iv1 default).Code, (a0.Pots.getD iv1 default).Year, (a0.Pots.getD iv1 default).Total, (a0.Pots.getD iv1 default).Granted, (a0.Pots.getD iv1 default).Heard, (a0.Pots.getD iv1 default).Asked, (a0.Pots.getD iv1 default).Used⟩ : TApiPot).Granted.length < 2 ^ 63 ∧ (⟨(a0.Pots.getD iv1 default).Code, (a0.Pots.getD iv1 default).Year, (a0.Pots.getD iv1 default).Total, (a0.Pots.getD iv1 default).Granted, (a0.Pots.getD iv1 default).Heard, (a0.Pots.getD iv1 default).Asked, (a0.Pots.getD iv1 default).Used⟩ : TApiPot).Heard.length < 2 ^ 63 ∧ (⟨(a0.Pots.getD iv1 default).Code, (a0.Pots.getD iv1 default).Year, (a0.Pots.getD iv1 default).Total, (a0.Pots.getD iv1 default).Granted, (a0.Pots.getD iv1 default).Heard, (a0.Pots.getD iv1 default).Asked, (a0.Pots.getD iv1 default).Used⟩ : TApiPot).Asked.length < 2 ^ 63 ∧ (⟨(a0.Pots.getD iv1 default).Code, (a0.Pots.getD iv1 default).Year, (a0.Pots.getD iv1 default).Total, (a0.Pots.getD iv1 default).Granted, (a0.Pots.getD iv1 default).Heard, (a0.Pots.getD iv1 default).Asked, (a0.Pots.getD iv1 default).Used⟩ : TApiPot).Used.length < 2 ^ 63))) (.ev 0) [(2, (vp 1)), (3, (vp 2)), (10, (AV.d (eL TApiPot.e a0.Pots))), (11, (vi (a0.Pots.length : Int))), (12, (vi (iv1 : Int)))] [(2, (vp 1)), (3, (vp 2)), (10, (AV.d (eL TApiPot.e a0.Pots))), (11, (vi (a0.Pots.length : Int))), (12, (vi (iv1 : Int)))] [(bx (TApiTreasury.e a0)), (bx (TApiTreasury.e (⟨0, []⟩ : TApiTreasury))), (Ob.box (AV.agg [(vi sv2.1), (AV.ref 3 ((sv2.2 ++ [(⟨(a0.Pots.getD iv1 default).Code, (a0.Pots.getD iv1 default).Year, (a0.Pots.getD iv1 default).Total, (a0.Pots.getD iv1 default).Granted, (a0.Pots.getD iv1 default).Heard, (a0.Pots.getD iv1 default).Asked, (a0.Pots.getD iv1 default).Used⟩ : TApiPot)]).length) 0 ((sv2.2 ++ [(⟨(a0.Pots.getD iv1 default).Code, (a0.Pots.getD iv1 default).Year, (a0.Pots.getD iv1 default).Total, (a0.Pots.getD iv1 default).Granted, (a0.Pots.getD iv1 default).Heard, (a0.Pots.getD iv1 default).Asked, (a0.Pots.getD iv1 default).Used⟩ : TApiPot)]).length))])), (Ob.seq 7 (sv2.2 ++ [(⟨(a0.Pots.getD iv1 default).Code, (a0.Pots.getD iv1 default).Year, (a0.Pots.getD iv1 default).Total, (a0.Pots.getD iv1 default).Granted, (a0.Pots.getD iv1 default).Heard, (a0.Pots.getD iv1 default).Asked, (a0.Pots.getD iv1 default).Used⟩ : TApiPot)]).length (catF sv2.2.length (fun j => AV.sel (decide (j = i0)) 7 (AV.agg [(AV.d (DV.str (sv2.2.getD i0 default).Code)), (vi (sv2.2.getD i0 default).Year), (vi (sv2.2.getD i0 default).Total), (rr 4 (sv2.2.getD i0 default).Granted), (rr 5 (sv2.2.getD i0 default).Heard), (rr 6 (sv2.2.getD i0 default).Asked), (rr 7 (sv2.2.getD i0 default).Used)]) (AV.d (TApiPot.e (sv2.2.getD j default)))) (listF AV.bot [(AV.agg [(AV.d (DV.str (a0.Pots.getD iv1 default).Code)), (vi (a0.Pots.getD iv1 default).Year), (vi (a0.Pots.getD iv1 default).Total), (rr 9 (a0.Pots.getD iv1 default).Granted), (rr 10 (a0.Pots.getD iv1 default).Heard), (rr 11 (a0.Pots.getD iv1 default).Asked), (rr 12 (a0.Pots.getD iv1 default).Used)])]))), (eQ (opQ TApiPot.Granted i0 sv2.2)), (eQ (opQ TApiPot.Heard i0 sv2.2)), (eQ (opQ TApiPot.Asked i0 sv2.2)), (eQ (opQ TApiPot.Used i0 sv2.2)), (Ob.box (AV.agg [(AV.d (DV.str (a0.Pots.getD iv1 default).Code)), (vi (a0.Pots.getD iv1 default).Year), (vi (a0.Pots.getD iv1 default).Total), (rr 9 (a0.Pots.getD iv1 default).Granted), (rr 10 (a0.Pots.getD iv1 default).Heard), (rr 11 (a0.Pots.getD iv1 default).Asked), (rr 12 (a0.Pots.getD iv1 default).Used)])), (eQ (⟨(a0.Pots.getD iv1 default).Code, (a0.Pots.getD iv1 default).Year, (a0.Pots.getD iv1 default).Total, (a0.Pots.getD iv1 default).Granted, (a0.Pots.getD iv1 default).Heard, (a0.Pots.getD iv1 default).Asked, (a0.Pots.getD iv1 default).Used⟩ : TApiPot).Granted), (eQ (⟨(a0.Pots.getD iv1 default).Code, (a0.Pots.getD iv1 default).Year, (a0.Pots.getD iv1 default).Total, (a0.Pots.getD iv1 default).Granted, (a0.Pots.getD iv1 default).Heard, (a0.Pots.getD iv1 default).Asked, (a0.Pots.getD iv1 default).Used⟩ : TApiPot).Heard), (eQ (⟨(a0.Pots.getD iv1 default).Code, (a0.Pots.getD iv1 default).Year, (a0.Pots.getD iv1 default).Total, (a0.Pots.getD iv1 default).Granted, (a0.Pots.getD iv1 default).Heard, (a0.Pots.getD iv1 default).Asked, (a0.Pots.getD iv1 default).Used⟩ : TApiPot).Asked), (eQ (⟨(a0.Pots.getD iv1 default).Code, (a0.Pots.getD iv1 default).Year, (a0.Pots.getD iv1 default).Total, (a0.Pots.getD iv1 default).Granted, (a0.Pots.getD iv1 default).Heard, (a0.Pots.getD iv1 default).Asked, (a0.Pots.getD iv1 default).Used⟩ : TApiPot).Used), (Ob.seq 7 1 (listF AV.bot [(AV.agg [(AV.d (DV.str (a0.Pots.getD iv1 default).Code)), (vi (a0.Pots.getD iv1 default).Year), (vi (a0.Pots.getD iv1 default).Total), (rr 9 (a0.Pots.getD iv1 default).Granted), (rr 10 (a0.Pots.getD iv1 default).Heard), (rr 11 (a0.Pots.getD iv1 default).Asked), (rr 12 (a0.Pots.getD iv1 default).Used)])]))] [(bx (TApiTreasury.e a0)), (bx (TApiTreasury.e (⟨0, []⟩ : TApiTreasury))), (Ob.box (AV.agg [(vi sv2.1), (AV.ref 3 ((sv2.2 ++ [(⟨(a0.Pots.getD iv1 default).Code, (a0.Pots.getD iv1 default).Year, (a0.Pots.getD iv1 default).Total, (a0.Pots.getD iv1 default).Granted, (a0.Pots.getD iv1 default).Heard, (a0.Pots.getD iv1 default).Asked, (a0.Pots.getD iv1 default).Used⟩ : TApiPot)]).length) 0 ((sv2.2 ++ [(⟨(a0.Pots.getD iv1 default).Code, (a0.Pots.getD iv1 default).Year, (a0.Pots.getD iv1 default).Total, (a0.Pots.getD iv1 default).Granted, (a0.Pots.getD iv1 default).Heard, (a0.Pots.getD iv1 default).Asked, (a0.Pots.getD iv1 default).Used⟩ : TApiPot)]).length))])), (oTApiPot.R 4 i0 (sv2.2 ++ [(⟨(a0.Pots.getD iv1 default).Code, (a0.Pots.getD iv1 default).Year, (a0.Pots.getD iv1 default).Total, (a0.Pots.getD iv1 default).Granted, (a0.Pots.getD iv1 default).Heard, (a0.Pots.getD iv1 default).Asked, (a0.Pots.getD iv1 default).Used⟩ : TApiPot)])), (eQ (opQ TApiPot.Granted i0 (sv2.2 ++ [(⟨(a0.Pots.getD iv1 default).Code, (a0.Pots.getD iv1 default).Year, (a0.Pots.getD iv1 default).Total, (a0.Pots.getD iv1 default).Granted, (a0.Pots.getD iv1 default).Heard, (a0.Pots.getD iv1 default).Asked, (a0.Pots.getD iv1 default).Used⟩ : TApiPot)]))), (eQ (opQ TApiPot.Heard i0 (sv2.2 ++ [(⟨(a0.Pots.getD iv1 default).Code, (a0.Pots.getD iv1 default).Year, (a0.Pots.getD iv1 default).Total, (a0.Pots.getD iv1 default).Granted, (a0.Pots.getD iv1 default).Heard, (a0.Pots.getD iv1 default).Asked, (a0.Pots.getD iv1 default).Used⟩ : TApiPot)]))), (eQ (opQ TApiPot.Asked i0 (sv2.2 ++ [(⟨(a0.Pots.getD iv1 default).Code, (a0.Pots.getD iv1 default).Year, (a0.Pots.getD iv1 default).Total, (a0.Pots.getD iv1 default).Granted, (a0.Pots.getD iv1 default).Heard, (a0.Pots.getD iv1 default).Asked, (a0.Pots.getD iv1 default).Used⟩ : TApiPot)]))), (eQ (opQ TApiPot.Used i0 (sv2.2 ++ [(⟨(a0.Pots.getD iv1 default).Code, (a0.Pots.getD iv1 default).Year, (a0.Pots.getD iv1 default).Total, (a0.Pots.getD iv1 default).Granted, (a0.Pots.getD iv1 default).Heard, (a0.Pots.getD iv1 default).Asked, (a0.Pots.getD iv1 default).Used⟩ : TApiPot)]))), (Ob.box (AV.agg [(AV.d (DV.str (a0.Pots.getD iv1 default).Code)), (vi (a0.Pots.getD iv1 default).Year), (vi (a0.Pots.getD iv1 default).Total), (rr 9 (a0.Pots.getD iv1 default).Granted), (rr 10 (a0.Pots.getD iv1 default).Heard), (rr 11 (a0.Pots.getD iv1 default).Asked), (rr 12 (a0.Pots.getD iv1 default).Used)])), Ob.dead, Ob.dead, Ob.dead, Ob.dead, (Ob.seq 7 1 (listF AV.bot [(AV.agg [(AV.d (DV.str (a0.Pots.getD iv1 default).Code)), (vi (a0.Pots.getD iv1 default).Year), (vi (a0.Pots.getD iv1 default).Total), (rr 9 (a0.Pots.getD iv1 default).Granted), (rr 10 (a0.Pots.getD iv1 default).Heard), (rr 11 (a0.Pots.getD iv1 default).Asked), (rr 12 (a0.Pots.getD iv1 default).Used)])]))] (fun h => shift_settle oTApiPot (P := [(bx (TApiTreasury.e a0)), (bx (TApiTreasury.e (⟨0, []⟩ : TApiTreasury))), (Ob.box (AV.agg [(vi sv2.1), (AV.ref 3 ((sv2.2 ++ [(⟨(a0.Pots.getD iv1 default).Code, (a0.Pots.getD iv1 default).Year, (a0.Pots.getD iv1 default).Total, (a0.Pots.getD iv1 default).Granted, (a0.Pots.getD iv1 default).Heard, (a0.Pots.getD iv1 default).Asked, (a0.Pots.getD iv1 default).Used⟩ : TApiPot)]).length) 0 ((sv2.2 ++ [(⟨(a0.Pots.getD iv1 default).Code, (a0.Pots.getD iv1 default).Year, (a0.Pots.getD iv1 default).Total, (a0.Pots.getD iv1 default).Granted, (a0.Pots.getD iv1 default).Heard, (a0.Pots.getD iv1 default).Asked, (a0.Pots.getD iv1 default).Used⟩ : TApiPot)]).length))]))]) (D := [(Ob.box (AV.agg [(AV.d (DV.str (a0.Pots.getD iv1 default).Code)), (vi (a0.Pots.getD iv1 default).Year), (vi (a0.Pots.getD iv1 default).Total), (rr 9 (a0.Pots.getD iv1 default).Granted), (rr 10 (a0.Pots.getD iv1 default).Heard), (rr 11 (a0.Pots.getD iv1 default).Asked), (rr 12 (a0.Pots.getD iv1 default).Used)]))]) (E := [(Ob.seq 7 1 (listF AV.bot [(AV.agg [(AV.d (DV.str (a0.Pots.getD iv1 default).Code)), (vi (a0.Pots.getD iv1 default).Year), (vi (a0.Pots.getD iv1 default).Total), (rr 9 (a0.Pots.getD iv1 default).Granted), (rr 10 (a0.Pots.getD iv1 default).Heard), (rr 11 (a0.Pots.getD iv1 default).Asked), (rr 12 (a0.Pots.getD iv1 default).Used)])]))]) (i := i0) (l := sv2.2) (x := (⟨(a0.Pots.getD iv1 default).Code, (a0.Pots.getD iv1 default).Year, (a0.Pots.getD iv1 default).Total, (a0.Pots.getD iv1 default).Granted, (a0.Pots.getD iv1 default).Heard, (a0.Pots.getD iv1 default).Asked, (a0.Pots.getD iv1 default).Used⟩ : TApiPot)) rfl rfl (fun j hj => catF_lt hj) (by rw [catF_ge (Nat.le_refl _), Nat.sub_self]; rfl) h.1 h.2) (trF_refl _) <|
.ret [] (.cont (sv2.1, sv2.2 ++ [(⟨(a0.Pots.getD iv1 default).Code, (a0.Pots.getD iv1 default).Year, (a0.Pots.getD iv1 default).Total, (a0.Pots.getD iv1 default).Granted, (a0.Pots.getD iv1 default).Heard, (a0.Pots.getD iv1 default).Asked, (a0.Pots.getD iv1 default).Used⟩ : TApiPot)]))
def S_r13_copied_op (a0 : TApiTreasury) (i0 : Nat) : Scr Tryz.prog R_r13_copied_op R_r13_copied_op :=
.reg 0 [] [(1, { obs := [(1, (bx (TApiTreasury.e (⟨0, []⟩ : TApiTreasury))))] })] [.pf cz4] <|
.reg 1 [] [(2, { h := .obj }), (3, { h := .obj })] [] <|
.sh (A := True) (.pf trivial) [(1, (vp 0)), (2, (vp 1)), (3, (vp 2))] [(1, (vp 0)), (2, (vp 1)), (3, (vp 2))] [(bx (TApiTreasury.e a0)), (bx (TApiTreasury.e (⟨0, []⟩ : TApiTreasury))), (Ob.box (AV.agg [(vi a0.Offices), (AV.full 0 fun _ => DV.b false)]))] [(bx (TApiTreasury.e a0)), (bx (TApiTreasury.e (⟨0, []⟩ : TApiTreasury))), (Ob.box (AV.agg [(vi a0.Offices), (AV.ref 3 0 0 0)])), (oTApiPot.R 4 i0 [])] (fun _ => (shift_born (sz := 7) (f := (fun j => AV.sel (decide (j = i0)) 7 (AV.agg [(AV.d (DV.str (([] : List TApiPot).getD i0 default).Code)), (vi (([] : List TApiPot).getD i0 default).Year), (vi (([] : List TApiPot).getD i0 default).Total), (rr 4 (([] : List TApiPot).getD i0 default).Granted), (rr 5 (([] : List TApiPot).getD i0 default).Heard), (rr 6 (([] : List TApiPot).getD i0 default).Asked), (rr 7 (([] : List TApiPot).getD i0 default).Used)]) (AV.d (TApiPot.e (([] : List TApiPot).getD j default))))) (.keep _ _ _ _ (Nat.ne_of_beq_eq_false rfl) (.keep _ _ _ _ (Nat.ne_of_beq_eq_false rfl) (.box _ _ _ _ _ (Nat.ne_of_beq_eq_false rfl) (TrV.agg (TrL.cons (TrV.keep _) (TrL.cons TrV.born TrL.nil))) (.nil _)))))) (trF_at (k := 0) rfl (TrS.keep _) (trF_at (k := 1) rfl (TrS.keep _) (trF_at (k := 2) rfl (TrS.keep _) trF_nil))) <|
.sh (A := True) (.pf trivial) [(1, (vp 0)), (2, (vp 1)), (3, (vp 2))] [(1, (vp 0)), (2, (vp 1)), (3, (vp 2))] [(bx (TApiTreasury.e a0)), (bx (TApiTreasury.e (⟨0, []⟩ : TApiTreasury))), (Ob.box (AV.agg [(vi a0.Offices), (AV.ref 3 0 0 0)])), (oTApiPot.R 4 i0 [])] [(bx (TApiTreasury.e a0)), (bx (TApiTreasury.e (⟨0, []⟩ : TApiTreasury))), (Ob.box (AV.agg [(vi a0.Offices), (AV.ref 3 0 0 0)])), (oTApiPot.R 4 i0 []), (eQ (opQ TApiPot.Granted i0 ([] : List TApiPot))), (eQ (opQ TApiPot.Heard i0 ([] : List TApiPot))), (eQ (opQ TApiPot.Asked i0 ([] : List TApiPot))), (eQ (opQ TApiPot.Used i0 ([] : List TApiPot)))] (fun _ => shift_born4) (trF_refl _) <|
.range (a0.Pots.length : Int) a0.Pots.length rfl (.slot 10) 12 [2, 3, 10, 11] (fun (_ : Int × (List TApiPot)) => []) (fun (sv2 : Int × (List TApiPot)) => [(2, (Ob.box (AV.agg [(vi sv2.1), (AV.ref 3 sv2.2.length 0 sv2.2.length)]))), (3, (oTApiPot.R 4 i0 sv2.2)), (4, (eQ (opQ TApiPot.Granted i0 sv2.2))), (5, (eQ (opQ TApiPot.Heard i0 sv2.2))), (6, (eQ (opQ TApiPot.Asked i0 sv2.2))), (7, (eQ (opQ TApiPot.Used i0 sv2.2)))]) (a0.Offices, ([] : List TApiPot)) (S_r13_copied_op_b1 a0 i0) (fun (sv2 : Int × (List TApiPot)) => 
.reg 11 [] [] [] <|
.kill 0 <|
.kill 2 <|
.guard [i0 < sv2.2.length] <|
.cst (A := i0 < sv2.2.length) (.ev 0) [(2, (vp 1))] [(2, (vp 1))] [Ob.dead, (Ob.box (AV.agg [(vi sv2.1), (AV.ref 3 sv2.2.length 0 sv2.2.length)])), Ob.dead, (oTApiPot.R 4 i0 sv2.2), (eQ (opQ TApiPot.Granted i0 sv2.2)), (eQ (opQ TApiPot.Heard i0 sv2.2)), (eQ (opQ TApiPot.Asked i0 sv2.2)), (eQ (opQ TApiPot.Used i0 sv2.2))] [Ob.dead, (Ob.box (AV.agg [(vi sv2.1), (AV.ref 3 sv2.2.length 0 sv2.2.length)])), Ob.dead, (oTApiPot.R 4 i0 sv2.2), (eQ (sv2.2.getD i0 default).Granted), (eQ (sv2.2.getD i0 default).Heard), (eQ (sv2.2.getD i0 default).Asked), (eQ (sv2.2.getD i0 default).Used)] (fun h => ⟨rfl, by simp only [opQ_at h]⟩) <|
.ret [] (sv2.1, sv2.2)) id
def F_r13_copied_op (a0 : TApiTreasury) (i0 : Nat) : Option R_r13_copied_op := (S_r13_copied_op a0 i0).den
set_option maxRecDepth 100000 in
theorem F_r13_copied_op_ok {a0 : TApiTreasury} {i0 : Nat} (r : R_r13_copied_op) (h : F_r13_copied_op a0 i0 = some r) : CallOk Tryz.prog 27 [(AV.d (TApiTreasury.e a0))] [] (V_r13_copied_op r) (L_r13_copied_op i0 r) := fOk (s := S_r13_copied_op a0 i0) Tryz.func27 rfl (by kernel_rfl) h
end
end Go.Proofs.YtfiljdbmhegjgaaGreatDoor
/- What the functions compute, and that their calls return it. No condition. -/
namespace Go.Proofs.YtfiljdbmhegjgaaGreatDoor
open Go Go.TA
noncomputable section
/-! 14 -/
abbrev R_r13_Ask := TApiTreasury × Int
def V_r13_Ask (x : R_r13_Ask) : AV := (AV.tup [(AV.d (TApiTreasury.e x.1)), (vi x.2)])
def L_r13_Ask (_ : R_r13_Ask) : List Ob := []
def S_r13_Ask (a0 : TApiTreasury) (a1 : Int) (a2 : List UInt8) (a3 : Int) (a4 : Int) : Scr Tryz.prog R_r13_Ask R_r13_Ask :=
.reg 0 [] [(1, { obs := [(1, (bx (TApiTreasury.e (⟨0, []⟩ : TApiTreasury))))] })] [.pf cz4] <|
.call (@F_r13_find_ok a0 a1 a2 a3) fun rv1 cv1 =>
.reg 1 [] [(4, hc cv1 [] true)] [.cl 0 cv1 [] 2 true] <|
.ite (rv1.2 != 0) (
.reg 3 [] [(0, hv (AV.d (TApiTreasury.e (⟨0, []⟩ : TApiTreasury))))] [.pf cz5] <|
.ret [] ((⟨0, []⟩ : TApiTreasury), rv1.2)) (
.ite (bif (decide (a4 < 1)) then true else (decide (a4 > 1000000000000000))) (
.reg 5 [] [(0, hv (AV.d (TApiTreasury.e (⟨0, []⟩ : TApiTreasury))))] [.pf cz5] <|
.ret [] ((⟨0, []⟩ : TApiTreasury), 2)) (
.guard [(0 : Int) ≤ rv1.1, (rv1.1).toNat < a0.Pots.length, (0 : Int) ≤ (IntKind.i64.wrap (a1 - 1)), ((IntKind.i64.wrap (a1 - 1))).toNat < ((a0.Pots.getD ((rv1.1).toNat) default).Asked).length, ((IntKind.i64.wrap (a1 - 1))).toNat < ((a0.Pots.getD ((rv1.1).toNat) default).Granted).length] <|
.reg 6 [] [] [.ev 0, .ev 1, .ev 2, .ev 3, .ev 0, .ev 1, .ev 2, .ev 4] <|
.ite (decide ((IntKind.i64.wrap ((((a0.Pots.getD ((rv1.1).toNat) default).Asked).getD (((IntKind.i64.wrap (a1 - 1))).toNat) default) + a4)) > (((a0.Pots.getD ((rv1.1).toNat) default).Granted).getD (((IntKind.i64.wrap (a1 - 1))).toNat) default))) (
.reg 7 [] [(0, hv (AV.d (TApiTreasury.e (⟨0, []⟩ : TApiTreasury))))] [.pf cz5] <|
.ret [] ((⟨0, []⟩ : TApiTreasury), 15)) (
.call (@F_r13_copied_op_ok a0 ((rv1.1).toNat)) fun rv2 cv2 =>
.reg 8 [] [(1, hc cv2 [] false), (2, { obs := [(10, (bx (TApiTreasury.e (⟨0, []⟩ : TApiTreasury))))] })] [.cl 0 cv2 [] 2 false, .pf cz4] <|
.kill 3 <|
.guard [(rv1.1).toNat < rv2.2.length, ((IntKind.i64.wrap (a1 - 1))).toNat < ((rv2.2.getD ((rv1.1).toNat) default).Asked).length, (0 + ((IntKind.i64.wrap (a1 - 1))).toNat) < ((rv2.2.getD ((rv1.1).toNat) default).Asked).length] <|
.reg 9 [] [(3, hv (AV.ptr 5 rv2.2.length [.x ((rv1.1).toNat) 7])), (13, { obs := [(8, (eS 1 (DV.i .i64) (((rv2.2.getD ((rv1.1).toNat) default).Asked).set (0 + ((IntKind.i64.wrap (a1 - 1))).toNat) (IntKind.i64.wrap ((((rv2.2.getD ((rv1.1).toNat) default).Asked).getD (0 + ((IntKind.i64.wrap (a1 - 1))).toNat) default) + a4)))))] })] [.pf (Eq.refl rv2.2.length), .ev 5, .ev 0, .pf (p := LeV (AV.ptr 5 rv2.2.length [.x (0 + ((rv1.1).toNat)) 7]) (AV.ptr 5 rv2.2.length [.x ((rv1.1).toNat) 7])) (leV_ix), .pf (Eq.refl rv2.2.length), .pf (Eq.refl rv2.2.length), .ev 0, .pf (p := decide ((rv1.1).toNat = (rv1.1).toNat) = true) (decide_eq_true rfl), .pf (Eq.refl (((rv2.2.getD ((rv1.1).toNat) default).Asked).length)), .ev 7, .ev 1, .pf (Eq.refl (((rv2.2.getD ((rv1.1).toNat) default).Asked).length)), .ev 2, .pf (Eq.refl (((rv2.2.getD ((rv1.1).toNat) default).Asked).length)), .ev 7, .ev 1, .pf (Eq.refl (((rv2.2.getD ((rv1.1).toNat) default).Asked).length)), .ev 2, .pf (oLe_set (sz := 1) (e := (DV.i .i64)) (l := ((rv2.2.getD ((rv1.1).toNat) default).Asked)) (i := (0 + ((IntKind.i64.wrap (a1 - 1))).toNat)) (x := (IntKind.i64.wrap ((((rv2.2.getD ((rv1.1).toNat) default).Asked).getD (0 + ((IntKind.i64.wrap (a1 - 1))).toNat) default) + a4))) (fun _ => rfl))] <|
.reg 10 [] [] [] <|
.guard [(((rv2.2.getD ((rv1.1).toNat) default).Asked).set (0 + ((IntKind.i64.wrap (a1 - 1))).toNat) (IntKind.i64.wrap ((((rv2.2.getD ((rv1.1).toNat) default).Asked).getD (0 + ((IntKind.i64.wrap (a1 - 1))).toNat) default) + a4))).length = ((rv2.2.getD ((rv1.1).toNat) default).Asked).length] <|
.cst (A := (((rv2.2.getD ((rv1.1).toNat) default).Asked).set (0 + ((IntKind.i64.wrap (a1 - 1))).toNat) (IntKind.i64.wrap ((((rv2.2.getD ((rv1.1).toNat) default).Asked).getD (0 + ((IntKind.i64.wrap (a1 - 1))).toNat) default) + a4))).length = ((rv2.2.getD ((rv1.1).toNat) default).Asked).length) (.ev 0) [(10, (vp 1)), (11, (vi 0))] [(10, (vp 1)), (11, (vi 0))] [(bx (TApiTreasury.e a0)), (Ob.box (AV.agg [(vi rv2.1), (AV.ref 5 rv2.2.length 0 rv2.2.length)])), Ob.dead, Ob.dead, Ob.dead, (opS 7 TApiPot.e ((rv1.1).toNat) (AV.agg [(AV.d (DV.str ((rv2.2.getD ((rv1.1).toNat) default).Code))), (vi ((rv2.2.getD ((rv1.1).toNat) default).Year)), (vi ((rv2.2.getD ((rv1.1).toNat) default).Total)), (AV.ref 6 (((rv2.2.getD ((rv1.1).toNat) default).Granted).length) 0 (((rv2.2.getD ((rv1.1).toNat) default).Granted).length)), (AV.ref 7 (((rv2.2.getD ((rv1.1).toNat) default).Heard).length) 0 (((rv2.2.getD ((rv1.1).toNat) default).Heard).length)), (AV.ref 8 (((rv2.2.getD ((rv1.1).toNat) default).Asked).length) 0 (((rv2.2.getD ((rv1.1).toNat) default).Asked).length)), (AV.ref 9 (((rv2.2.getD ((rv1.1).toNat) default).Used).length) 0 (((rv2.2.getD ((rv1.1).toNat) default).Used).length))]) rv2.2), (eS 1 (DV.i .i64) ((rv2.2.getD ((rv1.1).toNat) default).Granted)), (eS 1 (DV.i .i64) ((rv2.2.getD ((rv1.1).toNat) default).Heard)), (eS 1 (DV.i .i64) (((rv2.2.getD ((rv1.1).toNat) default).Asked).set (0 + ((IntKind.i64.wrap (a1 - 1))).toNat) (IntKind.i64.wrap ((((rv2.2.getD ((rv1.1).toNat) default).Asked).getD (0 + ((IntKind.i64.wrap (a1 - 1))).toNat) default) + a4)))), (eS 1 (DV.i .i64) ((rv2.2.getD ((rv1.1).toNat) default).Used)), (Ob.box (AV.agg [(vi rv2.1), (AV.ref 5 rv2.2.length 0 rv2.2.length)]))] [(bx (TApiTreasury.e a0)), (Ob.box (AV.agg [(vi rv2.1), (AV.ref 5 rv2.2.length 0 rv2.2.length)])), Ob.dead, Ob.dead, Ob.dead, (opS 7 TApiPot.e ((rv1.1).toNat) (AV.agg [(AV.d (DV.str ((rv2.2.getD ((rv1.1).toNat) default).Code))), (vi ((rv2.2.getD ((rv1.1).toNat) default).Year)), (vi ((rv2.2.getD ((rv1.1).toNat) default).Total)), (AV.ref 6 (((rv2.2.getD ((rv1.1).toNat) default).Granted).length) 0 (((rv2.2.getD ((rv1.1).toNat) default).Granted).length)), (AV.ref 7 (((rv2.2.getD ((rv1.1).toNat) default).Heard).length) 0 (((rv2.2.getD ((rv1.1).toNat) default).Heard).length)), (AV.ref 8 ((((rv2.2.getD ((rv1.1).toNat) default).Asked).set (0 + ((IntKind.i64.wrap (a1 - 1))).toNat) (IntKind.i64.wrap ((((rv2.2.getD ((rv1.1).toNat) default).Asked).getD (0 + ((IntKind.i64.wrap (a1 - 1))).toNat) default) + a4))).length) 0 ((((rv2.2.getD ((rv1.1).toNat) default).Asked).set (0 + ((IntKind.i64.wrap (a1 - 1))).toNat) (IntKind.i64.wrap ((((rv2.2.getD ((rv1.1).toNat) default).Asked).getD (0 + ((IntKind.i64.wrap (a1 - 1))).toNat) default) + a4))).length)), (AV.ref 9 (((rv2.2.getD ((rv1.1).toNat) default).Used).length) 0 (((rv2.2.getD ((rv1.1).toNat) default).Used).length))]) rv2.2), (eS 1 (DV.i .i64) ((rv2.2.getD ((rv1.1).toNat) default).Granted)), (eS 1 (DV.i .i64) ((rv2.2.getD ((rv1.1).toNat) default).Heard)), (eS 1 (DV.i .i64) (((rv2.2.getD ((rv1.1).toNat) default).Asked).set (0 + ((IntKind.i64.wrap (a1 - 1))).toNat) (IntKind.i64.wrap ((((rv2.2.getD ((rv1.1).toNat) default).Asked).getD (0 + ((IntKind.i64.wrap (a1 - 1))).toNat) default) + a4)))), (eS 1 (DV.i .i64) ((rv2.2.getD ((rv1.1).toNat) default).Used)), (Ob.box (AV.agg [(vi rv2.1), (AV.ref 5 rv2.2.length 0 rv2.2.length)]))] (fun h => ⟨rfl, by rw [h]⟩) <|
.guard [((rv2.2.getD ((rv1.1).toNat) default).Granted).length < 2 ^ 63 ∧ ((rv2.2.getD ((rv1.1).toNat) default).Heard).length < 2 ^ 63 ∧ (((rv2.2.getD ((rv1.1).toNat) default).Asked).set (0 + ((IntKind.i64.wrap (a1 - 1))).toNat) (IntKind.i64.wrap ((((rv2.2.getD ((rv1.1).toNat) default).Asked).getD (0 + ((IntKind.i64.wrap (a1 - 1))).toNat) default) + a4))).length < 2 ^ 63 ∧ ((rv2.2.getD ((rv1.1).toNat) default).Used).length < 2 ^ 63] <|
.sh (A := ((rv2.2.getD ((rv1.1).toNat) default).Granted).length < 2 ^ 63 ∧ ((rv2.2.getD ((rv1.1).toNat) default).Heard).length < 2 ^ 63 ∧ (((rv2.2.getD ((rv1.1).toNat) default).Asked).set (0 + ((IntKind.i64.wrap (a1 - 1))).toNat) (IntKind.i64.wrap ((((rv2.2.getD ((rv1.1).toNat) default).Asked).getD (0 + ((IntKind.i64.wrap (a1 - 1))).toNat) default) + a4))).length < 2 ^ 63 ∧ ((rv2.2.getD ((rv1.1).toNat) default).Used).length < 2 ^ 63) (.ev 0) [(10, (vp 1)), (11, (vi 0))] [(10, (vp 1)), (11, (vi 0))] [(bx (TApiTreasury.e a0)), (Ob.box (AV.agg [(vi rv2.1), (AV.ref 5 rv2.2.length 0 rv2.2.length)])), Ob.dead, Ob.dead, Ob.dead, (opS 7 TApiPot.e ((rv1.1).toNat) (AV.agg [(AV.d (DV.str ((rv2.2.getD ((rv1.1).toNat) default).Code))), (vi ((rv2.2.getD ((rv1.1).toNat) default).Year)), (vi ((rv2.2.getD ((rv1.1).toNat) default).Total)), (AV.ref 6 (((rv2.2.getD ((rv1.1).toNat) default).Granted).length) 0 (((rv2.2.getD ((rv1.1).toNat) default).Granted).length)), (AV.ref 7 (((rv2.2.getD ((rv1.1).toNat) default).Heard).length) 0 (((rv2.2.getD ((rv1.1).toNat) default).Heard).length)), (AV.ref 8 ((((rv2.2.getD ((rv1.1).toNat) default).Asked).set (0 + ((IntKind.i64.wrap (a1 - 1))).toNat) (IntKind.i64.wrap ((((rv2.2.getD ((rv1.1).toNat) default).Asked).getD (0 + ((IntKind.i64.wrap (a1 - 1))).toNat) default) + a4))).length) 0 ((((rv2.2.getD ((rv1.1).toNat) default).Asked).set (0 + ((IntKind.i64.wrap (a1 - 1))).toNat) (IntKind.i64.wrap ((((rv2.2.getD ((rv1.1).toNat) default).Asked).getD (0 + ((IntKind.i64.wrap (a1 - 1))).toNat) default) + a4))).length)), (AV.ref 9 (((rv2.2.getD ((rv1.1).toNat) default).Used).length) 0 (((rv2.2.getD ((rv1.1).toNat) default).Used).length))]) rv2.2), (eS 1 (DV.i .i64) ((rv2.2.getD ((rv1.1).toNat) default).Granted)), (eS 1 (DV.i .i64) ((rv2.2.getD ((rv1.1).toNat) default).Heard)), (eS 1 (DV.i .i64) (((rv2.2.getD ((rv1.1).toNat) default).Asked).set (0 + ((IntKind.i64.wrap (a1 - 1))).toNat) (IntKind.i64.wrap ((((rv2.2.getD ((rv1.1).toNat) default).Asked).getD (0 + ((IntKind.i64.wrap (a1 - 1))).toNat) default) + a4)))), (eS 1 (DV.i .i64) ((rv2.2.getD ((rv1.1).toNat) default).Used)), (Ob.box (AV.agg [(vi rv2.1), (AV.ref 5 rv2.2.length 0 rv2.2.length)]))] [(bx (TApiTreasury.e a0)), (Ob.box (AV.agg [(vi rv2.1), (AV.ref 5 rv2.2.length 0 rv2.2.length)])), Ob.dead, Ob.dead, Ob.dead, (eS 7 TApiPot.e (rv2.2.set ((rv1.1).toNat) (⟨(rv2.2.getD ((rv1.1).toNat) default).Code, (rv2.2.getD ((rv1.1).toNat) default).Year, (rv2.2.getD ((rv1.1).toNat) default).Total, (rv2.2.getD ((rv1.1).toNat) default).Granted, (rv2.2.getD ((rv1.1).toNat) default).Heard, (((rv2.2.getD ((rv1.1).toNat) default).Asked).set (0 + ((IntKind.i64.wrap (a1 - 1))).toNat) (IntKind.i64.wrap ((((rv2.2.getD ((rv1.1).toNat) default).Asked).getD (0 + ((IntKind.i64.wrap (a1 - 1))).toNat) default) + a4))), (rv2.2.getD ((rv1.1).toNat) default).Used⟩ : TApiPot))), Ob.dead, Ob.dead, Ob.dead, Ob.dead, (Ob.box (AV.agg [(vi rv2.1), (AV.ref 5 rv2.2.length 0 rv2.2.length)]))] (fun h => shift_close oTApiPot (P := [(bx (TApiTreasury.e a0)), (Ob.box (AV.agg [(vi rv2.1), (AV.ref 5 rv2.2.length 0 rv2.2.length)])), Ob.dead, Ob.dead, Ob.dead]) (D := [(Ob.box (AV.agg [(vi rv2.1), (AV.ref 5 rv2.2.length 0 rv2.2.length)]))]) rfl (⟨(rv2.2.getD ((rv1.1).toNat) default).Code, (rv2.2.getD ((rv1.1).toNat) default).Year, (rv2.2.getD ((rv1.1).toNat) default).Total, [], [], [], []⟩ : TApiPot) (⟨(rv2.2.getD ((rv1.1).toNat) default).Code, (rv2.2.getD ((rv1.1).toNat) default).Year, (rv2.2.getD ((rv1.1).toNat) default).Total, (rv2.2.getD ((rv1.1).toNat) default).Granted, (rv2.2.getD ((rv1.1).toNat) default).Heard, (((rv2.2.getD ((rv1.1).toNat) default).Asked).set (0 + ((IntKind.i64.wrap (a1 - 1))).toNat) (IntKind.i64.wrap ((((rv2.2.getD ((rv1.1).toNat) default).Asked).getD (0 + ((IntKind.i64.wrap (a1 - 1))).toNat) default) + a4))), (rv2.2.getD ((rv1.1).toNat) default).Used⟩ : TApiPot) h rfl) (trF_refl _) <|
.cst (A := True) (.pf trivial) [(10, (vp 1)), (11, (vi 0))] [(10, (vp 1)), (11, (vi 0))] [(bx (TApiTreasury.e a0)), (Ob.box (AV.agg [(vi rv2.1), (AV.ref 5 rv2.2.length 0 rv2.2.length)])), Ob.dead, Ob.dead, Ob.dead, (eS 7 TApiPot.e (rv2.2.set ((rv1.1).toNat) (⟨(rv2.2.getD ((rv1.1).toNat) default).Code, (rv2.2.getD ((rv1.1).toNat) default).Year, (rv2.2.getD ((rv1.1).toNat) default).Total, (rv2.2.getD ((rv1.1).toNat) default).Granted, (rv2.2.getD ((rv1.1).toNat) default).Heard, (((rv2.2.getD ((rv1.1).toNat) default).Asked).set (0 + ((IntKind.i64.wrap (a1 - 1))).toNat) (IntKind.i64.wrap ((((rv2.2.getD ((rv1.1).toNat) default).Asked).getD (0 + ((IntKind.i64.wrap (a1 - 1))).toNat) default) + a4))), (rv2.2.getD ((rv1.1).toNat) default).Used⟩ : TApiPot))), Ob.dead, Ob.dead, Ob.dead, Ob.dead, (Ob.box (AV.agg [(vi rv2.1), (AV.ref 5 rv2.2.length 0 rv2.2.length)]))] [(bx (TApiTreasury.e a0)), (Ob.box (AV.agg [(vi rv2.1), (AV.ref 5 ((rv2.2.set ((rv1.1).toNat) (⟨(rv2.2.getD ((rv1.1).toNat) default).Code, (rv2.2.getD ((rv1.1).toNat) default).Year, (rv2.2.getD ((rv1.1).toNat) default).Total, (rv2.2.getD ((rv1.1).toNat) default).Granted, (rv2.2.getD ((rv1.1).toNat) default).Heard, (((rv2.2.getD ((rv1.1).toNat) default).Asked).set (0 + ((IntKind.i64.wrap (a1 - 1))).toNat) (IntKind.i64.wrap ((((rv2.2.getD ((rv1.1).toNat) default).Asked).getD (0 + ((IntKind.i64.wrap (a1 - 1))).toNat) default) + a4))), (rv2.2.getD ((rv1.1).toNat) default).Used⟩ : TApiPot)).length) 0 ((rv2.2.set ((rv1.1).toNat) (⟨(rv2.2.getD ((rv1.1).toNat) default).Code, (rv2.2.getD ((rv1.1).toNat) default).Year, (rv2.2.getD ((rv1.1).toNat) default).Total, (rv2.2.getD ((rv1.1).toNat) default).Granted, (rv2.2.getD ((rv1.1).toNat) default).Heard, (((rv2.2.getD ((rv1.1).toNat) default).Asked).set (0 + ((IntKind.i64.wrap (a1 - 1))).toNat) (IntKind.i64.wrap ((((rv2.2.getD ((rv1.1).toNat) default).Asked).getD (0 + ((IntKind.i64.wrap (a1 - 1))).toNat) default) + a4))), (rv2.2.getD ((rv1.1).toNat) default).Used⟩ : TApiPot)).length))])), Ob.dead, Ob.dead, Ob.dead, (eS 7 TApiPot.e (rv2.2.set ((rv1.1).toNat) (⟨(rv2.2.getD ((rv1.1).toNat) default).Code, (rv2.2.getD ((rv1.1).toNat) default).Year, (rv2.2.getD ((rv1.1).toNat) default).Total, (rv2.2.getD ((rv1.1).toNat) default).Granted, (rv2.2.getD ((rv1.1).toNat) default).Heard, (((rv2.2.getD ((rv1.1).toNat) default).Asked).set (0 + ((IntKind.i64.wrap (a1 - 1))).toNat) (IntKind.i64.wrap ((((rv2.2.getD ((rv1.1).toNat) default).Asked).getD (0 + ((IntKind.i64.wrap (a1 - 1))).toNat) default) + a4))), (rv2.2.getD ((rv1.1).toNat) default).Used⟩ : TApiPot))), Ob.dead, Ob.dead, Ob.dead, Ob.dead, (Ob.box (AV.agg [(vi rv2.1), (AV.ref 5 ((rv2.2.set ((rv1.1).toNat) (⟨(rv2.2.getD ((rv1.1).toNat) default).Code, (rv2.2.getD ((rv1.1).toNat) default).Year, (rv2.2.getD ((rv1.1).toNat) default).Total, (rv2.2.getD ((rv1.1).toNat) default).Granted, (rv2.2.getD ((rv1.1).toNat) default).Heard, (((rv2.2.getD ((rv1.1).toNat) default).Asked).set (0 + ((IntKind.i64.wrap (a1 - 1))).toNat) (IntKind.i64.wrap ((((rv2.2.getD ((rv1.1).toNat) default).Asked).getD (0 + ((IntKind.i64.wrap (a1 - 1))).toNat) default) + a4))), (rv2.2.getD ((rv1.1).toNat) default).Used⟩ : TApiPot)).length) 0 ((rv2.2.set ((rv1.1).toNat) (⟨(rv2.2.getD ((rv1.1).toNat) default).Code, (rv2.2.getD ((rv1.1).toNat) default).Year, (rv2.2.getD ((rv1.1).toNat) default).Total, (rv2.2.getD ((rv1.1).toNat) default).Granted, (rv2.2.getD ((rv1.1).toNat) default).Heard, (((rv2.2.getD ((rv1.1).toNat) default).Asked).set (0 + ((IntKind.i64.wrap (a1 - 1))).toNat) (IntKind.i64.wrap ((((rv2.2.getD ((rv1.1).toNat) default).Asked).getD (0 + ((IntKind.i64.wrap (a1 - 1))).toNat) default) + a4))), (rv2.2.getD ((rv1.1).toNat) default).Used⟩ : TApiPot)).length))]))] (fun _ => ⟨by simp only, by simp only [List.length_set]⟩) <|
.guard [(rv2.2.set ((rv1.1).toNat) (⟨(rv2.2.getD ((rv1.1).toNat) default).Code, (rv2.2.getD ((rv1.1).toNat) default).Year, (rv2.2.getD ((rv1.1).toNat) default).Total, (rv2.2.getD ((rv1.1).toNat) default).Granted, (rv2.2.getD ((rv1.1).toNat) default).Heard, (((rv2.2.getD ((rv1.1).toNat) default).Asked).set (0 + ((IntKind.i64.wrap (a1 - 1))).toNat) (IntKind.i64.wrap ((((rv2.2.getD ((rv1.1).toNat) default).Asked).getD (0 + ((IntKind.i64.wrap (a1 - 1))).toNat) default) + a4))), (rv2.2.getD ((rv1.1).toNat) default).Used⟩ : TApiPot)).length < 2 ^ 63] <|
.frz 5 (.ev 0) none [] [1, 10] <|
.ret [] ((⟨rv2.1, (rv2.2.set ((rv1.1).toNat) (⟨(rv2.2.getD ((rv1.1).toNat) default).Code, (rv2.2.getD ((rv1.1).toNat) default).Year, (rv2.2.getD ((rv1.1).toNat) default).Total, (rv2.2.getD ((rv1.1).toNat) default).Granted, (rv2.2.getD ((rv1.1).toNat) default).Heard, (((rv2.2.getD ((rv1.1).toNat) default).Asked).set (0 + ((IntKind.i64.wrap (a1 - 1))).toNat) (IntKind.i64.wrap ((((rv2.2.getD ((rv1.1).toNat) default).Asked).getD (0 + ((IntKind.i64.wrap (a1 - 1))).toNat) default) + a4))), (rv2.2.getD ((rv1.1).toNat) default).Used⟩ : TApiPot))⟩ : TApiTreasury), 0))))
def F_r13_Ask (a0 : TApiTreasury) (a1 : Int) (a2 : List UInt8) (a3 : Int) (a4 : Int) : Option R_r13_Ask := (S_r13_Ask a0 a1 a2 a3 a4).den
set_option maxRecDepth 100000 in
theorem F_r13_Ask_ok {a0 : TApiTreasury} {a1 : Int} {a2 : List UInt8} {a3 : Int} {a4 : Int} (r : R_r13_Ask) (h : F_r13_Ask a0 a1 a2 a3 a4 = some r) : CallOk Tryz.prog 14 [(AV.d (TApiTreasury.e a0)), (vi a1), (AV.d (DV.str a2)), (vi a3), (vi a4)] [] (V_r13_Ask r) (L_r13_Ask r) := fOk (s := S_r13_Ask a0 a1 a2 a3 a4) Tryz.func14 rfl (by kernel_rfl) h
/-! 15 -/
abbrev R_r13_Hear := TApiTreasury × Int
def V_r13_Hear (x : R_r13_Hear) : AV := (AV.tup [(AV.d (TApiTreasury.e x.1)), (vi x.2)])
def L_r13_Hear (_ : R_r13_Hear) : List Ob := []
def S_r13_Hear (a0 : TApiTreasury) (a1 : TApiMessage) : Scr Tryz.prog R_r13_Hear R_r13_Hear :=
.reg 0 [] [(2, { obs := [(2, (bx (TApiTreasury.e (⟨0, []⟩ : TApiTreasury))))] })] [.pf cz4] <|
.call (@F_r13_Valid_ok a0) fun rv1 cv1 =>
.reg 1 [] [(1, hc cv1 [] true)] [.cl 0 cv1 [] 3 true] <|
.ite (bif (!rv1) then true else (a1.To != 0)) (
.reg 2 [] [(0, hv (AV.d (TApiTreasury.e (⟨0, []⟩ : TApiTreasury))))] [.pf cz5] <|
.ret [] ((⟨0, []⟩ : TApiTreasury), 1)) (
.call (@F_r13_find_ok a0 a1.From a1.Code a1.Year) fun rv2 cv2 =>
.reg 3 [] [(7, hc cv2 [] true)] [.cl 0 cv2 [] 3 true] <|
.ite (rv2.2 != 0) (
.reg 5 [] [(0, hv (AV.d (TApiTreasury.e (⟨0, []⟩ : TApiTreasury))))] [.pf cz5] <|
.ret [] ((⟨0, []⟩ : TApiTreasury), rv2.2)) (
.calld [(bif (decide (a1.Returned < 0)) then true else (decide (a1.Returned > (((a0.Pots.getD ((rv2.1).toNat) default).Granted).getD (((IntKind.i64.wrap (a1.From - 1))).toNat) default)))) = false] default (@F_r13_total_ok a1.Used) fun rv3 cv3 =>
.guard [AllP [(decide (a1.Returned < 0)) = false] → ((0 : Int) ≤ rv2.1), AllP [(decide (a1.Returned < 0)) = false] → ((rv2.1).toNat < a0.Pots.length), AllP [(decide (a1.Returned < 0)) = false] → ((0 : Int) ≤ (IntKind.i64.wrap (a1.From - 1))), AllP [(decide (a1.Returned < 0)) = false] → (((IntKind.i64.wrap (a1.From - 1))).toNat < ((a0.Pots.getD ((rv2.1).toNat) default).Granted).length)] <|
.reg 6 [] [(22, hc cv3 [] true)] [.ev 0, .ev 1, .ev 2, .ev 3, .clg 4 [(bif (decide (a1.Returned < 0)) then true else (decide (a1.Returned > (((a0.Pots.getD ((rv2.1).toNat) default).Granted).getD (((IntKind.i64.wrap (a1.From - 1))).toNat) default)))) = false] cv3 [] 3 true] <|
.ite (bif (bif (decide (a1.Returned < 0)) then true else (decide (a1.Returned > (((a0.Pots.getD ((rv2.1).toNat) default).Granted).getD (((IntKind.i64.wrap (a1.From - 1))).toNat) default)))) then true else (!rv3)) (
.reg 7 [] [(0, hv (AV.d (TApiTreasury.e (⟨0, []⟩ : TApiTreasury))))] [.pf cz5] <|
.ret [] ((⟨0, []⟩ : TApiTreasury), 2)) (
.call (@F_r13_copied_op_ok a0 ((rv2.1).toNat)) fun rv4 cv4 =>
.reg 8 [] [(1, hc cv4 [] false), (2, { obs := [(11, (bx (TApiTreasury.e (⟨0, []⟩ : TApiTreasury))))] })] [.cl 0 cv4 [] 3 false, .pf cz4] <|
.kill 4 <|
.guard [(0 : Int) ≤ rv2.1, (rv2.1).toNat < rv4.2.length, (0 : Int) ≤ (IntKind.i64.wrap (a1.From - 1)), ((IntKind.i64.wrap (a1.From - 1))).toNat < ((rv4.2.getD ((rv2.1).toNat) default).Heard).length, (0 + ((IntKind.i64.wrap (a1.From - 1))).toNat) < ((rv4.2.getD ((rv2.1).toNat) default).Heard).length] <|
.reg 9 [24] [(3, hv (AV.ptr 6 rv4.2.length [.x ((rv2.1).toNat) 7])), (12, hv (AV.ptr 6 rv4.2.length [.x ((rv2.1).toNat) 7])), (24, { obs := [(8, (eS 1 (DV.i .i64) (((rv4.2.getD ((rv2.1).toNat) default).Heard).set (0 + ((IntKind.i64.wrap (a1.From - 1))).toNat) (if a1.Returned > (((rv4.2.getD ((rv2.1).toNat) default).Heard).getD (0 + ((IntKind.i64.wrap (a1.From - 1))).toNat) default) then a1.Returned else (((rv4.2.getD ((rv2.1).toNat) default).Heard).getD (0 + ((IntKind.i64.wrap (a1.From - 1))).toNat) default)))))] })] [.pf (Eq.refl rv4.2.length), .ev 0, .ev 1, .pf (p := LeV (AV.ptr 6 rv4.2.length [.x (0 + ((rv2.1).toNat)) 7]) (AV.ptr 6 rv4.2.length [.x ((rv2.1).toNat) 7])) (leV_ix), .pf (Eq.refl rv4.2.length), .pf (Eq.refl rv4.2.length), .ev 1, .pf (p := decide ((rv2.1).toNat = (rv2.1).toNat) = true) (decide_eq_true rfl), .pf (Eq.refl rv4.2.length), .ev 0, .ev 1, .pf (p := LeV (AV.ptr 6 rv4.2.length [.x (0 + ((rv2.1).toNat)) 7]) (AV.ptr 6 rv4.2.length [.x ((rv2.1).toNat) 7])) (leV_ix), .pf (Eq.refl rv4.2.length), .pf (Eq.refl rv4.2.length), .ev 1, .pf (p := decide ((rv2.1).toNat = (rv2.1).toNat) = true) (decide_eq_true rfl), .pf (Eq.refl (((rv4.2.getD ((rv2.1).toNat) default).Heard).length)), .ev 2, .ev 3, .pf (Eq.refl (((rv4.2.getD ((rv2.1).toNat) default).Heard).length)), .ev 4, .pf (Eq.refl (((rv4.2.getD ((rv2.1).toNat) default).Heard).length)), .ev 2, .ev 3, .pf (Eq.refl (((rv4.2.getD ((rv2.1).toNat) default).Heard).length)), .ev 4, .pf (oLe_set (sz := 1) (e := (DV.i .i64)) (l := ((rv4.2.getD ((rv2.1).toNat) default).Heard)) (i := (0 + ((IntKind.i64.wrap (a1.From - 1))).toNat)) (x := (if a1.Returned > (((rv4.2.getD ((rv2.1).toNat) default).Heard).getD (0 + ((IntKind.i64.wrap (a1.From - 1))).toNat) default) then a1.Returned else (((rv4.2.getD ((rv2.1).toNat) default).Heard).getD (0 + ((IntKind.i64.wrap (a1.From - 1))).toNat) default))) (fun _ => rfl))] <|
.guard [((IntKind.i64.wrap (a1.From - 1))).toNat < ((rv4.2.getD ((rv2.1).toNat) default).Used).length, (0 + ((IntKind.i64.wrap (a1.From - 1))).toNat) < ((rv4.2.getD ((rv2.1).toNat) default).Used).length] <|
.reg 10 [12] [(3, hv (AV.ptr 6 rv4.2.length [.x ((rv2.1).toNat) 7])), (12, { obs := [(10, (eS 1 (DV.i .i64) (((rv4.2.getD ((rv2.1).toNat) default).Used).set (0 + ((IntKind.i64.wrap (a1.From - 1))).toNat) a1.Used)))] })] [.pf (Eq.refl rv4.2.length), .ev 2, .ev 3, .pf (p := LeV (AV.ptr 6 rv4.2.length [.x (0 + ((rv2.1).toNat)) 7]) (AV.ptr 6 rv4.2.length [.x ((rv2.1).toNat) 7])) (leV_ix), .pf (Eq.refl rv4.2.length), .pf (Eq.refl rv4.2.length), .ev 3, .pf (p := decide ((rv2.1).toNat = (rv2.1).toNat) = true) (decide_eq_true rfl), .pf (Eq.refl (((rv4.2.getD ((rv2.1).toNat) default).Used).length)), .ev 4, .ev 0, .pf (Eq.refl (((rv4.2.getD ((rv2.1).toNat) default).Used).length)), .ev 1, .pf (oLe_set (sz := 1) (e := (DV.i .i64)) (l := ((rv4.2.getD ((rv2.1).toNat) default).Used)) (i := (0 + ((IntKind.i64.wrap (a1.From - 1))).toNat)) (x := a1.Used) (fun _ => rfl))] <|
.reg 11 [] [] [] <|
.guard [(((rv4.2.getD ((rv2.1).toNat) default).Heard).set (0 + ((IntKind.i64.wrap (a1.From - 1))).toNat) (if a1.Returned > (((rv4.2.getD ((rv2.1).toNat) default).Heard).getD (0 + ((IntKind.i64.wrap (a1.From - 1))).toNat) default) then a1.Returned else (((rv4.2.getD ((rv2.1).toNat) default).Heard).getD (0 + ((IntKind.i64.wrap (a1.From - 1))).toNat) default))).length = ((rv4.2.getD ((rv2.1).toNat) default).Heard).length ∧ (((rv4.2.getD ((rv2.1).toNat) default).Used).set (0 + ((IntKind.i64.wrap (a1.From - 1))).toNat) a1.Used).length = ((rv4.2.getD ((rv2.1).toNat) default).Used).length] <|
.cst (A := (((rv4.2.getD ((rv2.1).toNat) default).Heard).set (0 + ((IntKind.i64.wrap (a1.From - 1))).toNat) (if a1.Returned > (((rv4.2.getD ((rv2.1).toNat) default).Heard).getD (0 + ((IntKind.i64.wrap (a1.From - 1))).toNat) default) then a1.Returned else (((rv4.2.getD ((rv2.1).toNat) default).Heard).getD (0 + ((IntKind.i64.wrap (a1.From - 1))).toNat) default))).length = ((rv4.2.getD ((rv2.1).toNat) default).Heard).length ∧ (((rv4.2.getD ((rv2.1).toNat) default).Used).set (0 + ((IntKind.i64.wrap (a1.From - 1))).toNat) a1.Used).length = ((rv4.2.getD ((rv2.1).toNat) default).Used).length) (.ev 0) [(4, (vp 2)), (5, (vi 0))] [(4, (vp 2)), (5, (vi 0))] [(bx (TApiTreasury.e a0)), (bx (TApiMessage.e a1)), (Ob.box (AV.agg [(vi rv4.1), (AV.ref 6 rv4.2.length 0 rv4.2.length)])), Ob.dead, Ob.dead, Ob.dead, (opS 7 TApiPot.e ((rv2.1).toNat) (AV.agg [(AV.d (DV.str ((rv4.2.getD ((rv2.1).toNat) default).Code))), (vi ((rv4.2.getD ((rv2.1).toNat) default).Year)), (vi ((rv4.2.getD ((rv2.1).toNat) default).Total)), (AV.ref 7 (((rv4.2.getD ((rv2.1).toNat) default).Granted).length) 0 (((rv4.2.getD ((rv2.1).toNat) default).Granted).length)), (AV.ref 8 (((rv4.2.getD ((rv2.1).toNat) default).Heard).length) 0 (((rv4.2.getD ((rv2.1).toNat) default).Heard).length)), (AV.ref 9 (((rv4.2.getD ((rv2.1).toNat) default).Asked).length) 0 (((rv4.2.getD ((rv2.1).toNat) default).Asked).length)), (AV.ref 10 (((rv4.2.getD ((rv2.1).toNat) default).Used).length) 0 (((rv4.2.getD ((rv2.1).toNat) default).Used).length))]) rv4.2), (eS 1 (DV.i .i64) ((rv4.2.getD ((rv2.1).toNat) default).Granted)), (eS 1 (DV.i .i64) (((rv4.2.getD ((rv2.1).toNat) default).Heard).set (0 + ((IntKind.i64.wrap (a1.From - 1))).toNat) (if a1.Returned > (((rv4.2.getD ((rv2.1).toNat) default).Heard).getD (0 + ((IntKind.i64.wrap (a1.From - 1))).toNat) default) then a1.Returned else (((rv4.2.getD ((rv2.1).toNat) default).Heard).getD (0 + ((IntKind.i64.wrap (a1.From - 1))).toNat) default)))), (eS 1 (DV.i .i64) ((rv4.2.getD ((rv2.1).toNat) default).Asked)), (eS 1 (DV.i .i64) (((rv4.2.getD ((rv2.1).toNat) default).Used).set (0 + ((IntKind.i64.wrap (a1.From - 1))).toNat) a1.Used)), (Ob.box (AV.agg [(vi rv4.1), (AV.ref 6 rv4.2.length 0 rv4.2.length)]))] [(bx (TApiTreasury.e a0)), (bx (TApiMessage.e a1)), (Ob.box (AV.agg [(vi rv4.1), (AV.ref 6 rv4.2.length 0 rv4.2.length)])), Ob.dead, Ob.dead, Ob.dead, (opS 7 TApiPot.e ((rv2.1).toNat) (AV.agg [(AV.d (DV.str ((rv4.2.getD ((rv2.1).toNat) default).Code))), (vi ((rv4.2.getD ((rv2.1).toNat) default).Year)), (vi ((rv4.2.getD ((rv2.1).toNat) default).Total)), (AV.ref 7 (((rv4.2.getD ((rv2.1).toNat) default).Granted).length) 0 (((rv4.2.getD ((rv2.1).toNat) default).Granted).length)), (AV.ref 8 ((((rv4.2.getD ((rv2.1).toNat) default).Heard).set (0 + ((IntKind.i64.wrap (a1.From - 1))).toNat) (if a1.Returned > (((rv4.2.getD ((rv2.1).toNat) default).Heard).getD (0 + ((IntKind.i64.wrap (a1.From - 1))).toNat) default) then a1.Returned else (((rv4.2.getD ((rv2.1).toNat) default).Heard).getD (0 + ((IntKind.i64.wrap (a1.From - 1))).toNat) default))).length) 0 ((((rv4.2.getD ((rv2.1).toNat) default).Heard).set (0 + ((IntKind.i64.wrap (a1.From - 1))).toNat) (if a1.Returned > (((rv4.2.getD ((rv2.1).toNat) default).Heard).getD (0 + ((IntKind.i64.wrap (a1.From - 1))).toNat) default) then a1.Returned else (((rv4.2.getD ((rv2.1).toNat) default).Heard).getD (0 + ((IntKind.i64.wrap (a1.From - 1))).toNat) default))).length)), (AV.ref 9 (((rv4.2.getD ((rv2.1).toNat) default).Asked).length) 0 (((rv4.2.getD ((rv2.1).toNat) default).Asked).length)), (AV.ref 10 ((((rv4.2.getD ((rv2.1).toNat) default).Used).set (0 + ((IntKind.i64.wrap (a1.From - 1))).toNat) a1.Used).length) 0 ((((rv4.2.getD ((rv2.1).toNat) default).Used).set (0 + ((IntKind.i64.wrap (a1.From - 1))).toNat) a1.Used).length))]) rv4.2), (eS 1 (DV.i .i64) ((rv4.2.getD ((rv2.1).toNat) default).Granted)), (eS 1 (DV.i .i64) (((rv4.2.getD ((rv2.1).toNat) default).Heard).set (0 + ((IntKind.i64.wrap (a1.From - 1))).toNat) (if a1.Returned > (((rv4.2.getD ((rv2.1).toNat) default).Heard).getD (0 + ((IntKind.i64.wrap (a1.From - 1))).toNat) default) then a1.Returned else (((rv4.2.getD ((rv2.1).toNat) default).Heard).getD (0 + ((IntKind.i64.wrap (a1.From - 1))).toNat) default)))), (eS 1 (DV.i .i64) ((rv4.2.getD ((rv2.1).toNat) default).Asked)), (eS 1 (DV.i .i64) (((rv4.2.getD ((rv2.1).toNat) default).Used).set (0 + ((IntKind.i64.wrap (a1.From - 1))).toNat) a1.Used)), (Ob.box (AV.agg [(vi rv4.1), (AV.ref 6 rv4.2.length 0 rv4.2.length)]))] (fun h => ⟨rfl, by rw [h.1, h.2]⟩) <|
.guard [((rv4.2.getD ((rv2.1).toNat) default).Granted).length < 2 ^ 63 ∧ (((rv4.2.getD ((rv2.1).toNat) default).Heard).set (0 + ((IntKind.i64.wrap (a1.From - 1))).toNat) (if a1.Returned > (((rv4.2.getD ((rv2.1).toNat) default).Heard).getD (0 + ((IntKind.i64.wrap (a1.From - 1))).toNat) default) then a1.Returned else (((rv4.2.getD ((rv2.1).toNat) default).Heard).getD (0 + ((IntKind.i64.wrap (a1.From - 1))).toNat) default))).length < 2 ^ 63 ∧ ((rv4.2.getD ((rv2.1).toNat) default).Asked).length < 2 ^ 63 ∧ (((rv4.2.getD ((rv2.1).toNat) default).Used).set (0 + ((IntKind.i64.wrap (a1.From - 1))).toNat) a1.Used).length < 2 ^ 63] <|
.sh (A := ((rv4.2.getD ((rv2.1).toNat) default).Granted).length < 2 ^ 63 ∧ (((rv4.2.getD ((rv2.1).toNat) default).Heard).set (0 + ((IntKind.i64.wrap (a1.From - 1))).toNat) (if a1.Returned > (((rv4.2.getD ((rv2.1).toNat) default).Heard).getD (0 + ((IntKind.i64.wrap (a1.From - 1))).toNat) default) then a1.Returned else (((rv4.2.getD ((rv2.1).toNat) default).Heard).getD (0 + ((IntKind.i64.wrap (a1.From - 1))).toNat) default))).length < 2 ^ 63 ∧ ((rv4.2.getD ((rv2.1).toNat) default).Asked).length < 2 ^ 63 ∧ (((rv4.2.getD ((rv2.1).toNat) default).Used).set (0 + ((IntKind.i64.wrap (a1.From - 1))).toNat) a1.Used).length < 2 ^ 63) (.ev 0) [(4, (vp 2)), (5, (vi 0))] [(4, (vp 2)), (5, (vi 0))] [(bx (TApiTreasury.e a0)), (bx (TApiMessage.e a1)), (Ob.box (AV.agg [(vi rv4.1), (AV.ref 6 rv4.2.length 0 rv4.2.length)])), Ob.dead, Ob.dead, Ob.dead, (opS 7 TApiPot.e ((rv2.1).toNat) (AV.agg [(AV.d (DV.str ((rv4.2.getD ((rv2.1).toNat) default).Code))), (vi ((rv4.2.getD ((rv2.1).toNat) default).Year)), (vi ((rv4.2.getD ((rv2.1).toNat) default).Total)), (AV.ref 7 (((rv4.2.getD ((rv2.1).toNat) default).Granted).length) 0 (((rv4.2.getD ((rv2.1).toNat) default).Granted).length)), (AV.ref 8 ((((rv4.2.getD ((rv2.1).toNat) default).Heard).set (0 + ((IntKind.i64.wrap (a1.From - 1))).toNat) (if a1.Returned > (((rv4.2.getD ((rv2.1).toNat) default).Heard).getD (0 + ((IntKind.i64.wrap (a1.From - 1))).toNat) default) then a1.Returned else (((rv4.2.getD ((rv2.1).toNat) default).Heard).getD (0 + ((IntKind.i64.wrap (a1.From - 1))).toNat) default))).length) 0 ((((rv4.2.getD ((rv2.1).toNat) default).Heard).set (0 + ((IntKind.i64.wrap (a1.From - 1))).toNat) (if a1.Returned > (((rv4.2.getD ((rv2.1).toNat) default).Heard).getD (0 + ((IntKind.i64.wrap (a1.From - 1))).toNat) default) then a1.Returned else (((rv4.2.getD ((rv2.1).toNat) default).Heard).getD (0 + ((IntKind.i64.wrap (a1.From - 1))).toNat) default))).length)), (AV.ref 9 (((rv4.2.getD ((rv2.1).toNat) default).Asked).length) 0 (((rv4.2.getD ((rv2.1).toNat) default).Asked).length)), (AV.ref 10 ((((rv4.2.getD ((rv2.1).toNat) default).Used).set (0 + ((IntKind.i64.wrap (a1.From - 1))).toNat) a1.Used).length) 0 ((((rv4.2.getD ((rv2.1).toNat) default).Used).set (0 + ((IntKind.i64.wrap (a1.From - 1))).toNat) a1.Used).length))]) rv4.2), (eS 1 (DV.i .i64) ((rv4.2.getD ((rv2.1).toNat) default).Granted)), (eS 1 (DV.i .i64) (((rv4.2.getD ((rv2.1).toNat) default).Heard).set (0 + ((IntKind.i64.wrap (a1.From - 1))).toNat) (if a1.Returned > (((rv4.2.getD ((rv2.1).toNat) default).Heard).getD (0 + ((IntKind.i64.wrap (a1.From - 1))).toNat) default) then a1.Returned else (((rv4.2.getD ((rv2.1).toNat) default).Heard).getD (0 + ((IntKind.i64.wrap (a1.From - 1))).toNat) default)))), (eS 1 (DV.i .i64) ((rv4.2.getD ((rv2.1).toNat) default).Asked)), (eS 1 (DV.i .i64) (((rv4.2.getD ((rv2.1).toNat) default).Used).set (0 + ((IntKind.i64.wrap (a1.From - 1))).toNat) a1.Used)), (Ob.box (AV.agg [(vi rv4.1), (AV.ref 6 rv4.2.length 0 rv4.2.length)]))] [(bx (TApiTreasury.e a0)), (bx (TApiMessage.e a1)), (Ob.box (AV.agg [(vi rv4.1), (AV.ref 6 rv4.2.length 0 rv4.2.length)])), Ob.dead, Ob.dead, Ob.dead, (eS 7 TApiPot.e (rv4.2.set ((rv2.1).toNat) (⟨(rv4.2.getD ((rv2.1).toNat) default).Code, (rv4.2.getD ((rv2.1).toNat) default).Year, (rv4.2.getD ((rv2.1).toNat) default).Total, (rv4.2.getD ((rv2.1).toNat) default).Granted, (((rv4.2.getD ((rv2.1).toNat) default).Heard).set (0 + ((IntKind.i64.wrap (a1.From - 1))).toNat) (if a1.Returned > (((rv4.2.getD ((rv2.1).toNat) default).Heard).getD (0 + ((IntKind.i64.wrap (a1.From - 1))).toNat) default) then a1.Returned else (((rv4.2.getD ((rv2.1).toNat) default).Heard).getD (0 + ((IntKind.i64.wrap (a1.From - 1))).toNat) default))), (rv4.2.getD ((rv2.1).toNat) default).Asked, (((rv4.2.getD ((rv2.1).toNat) default).Used).set (0 + ((IntKind.i64.wrap (a1.From - 1))).toNat) a1.Used)⟩ : TApiPot))), Ob.dead, Ob.dead, Ob.dead, Ob.dead, (Ob.box (AV.agg [(vi rv4.1), (AV.ref 6 rv4.2.length 0 rv4.2.length)]))] (fun h => shift_close oTApiPot (P := [(bx (TApiTreasury.e a0)), (bx (TApiMessage.e a1)), (Ob.box (AV.agg [(vi rv4.1), (AV.ref 6 rv4.2.length 0 rv4.2.length)])), Ob.dead, Ob.dead, Ob.dead]) (D := [(Ob.box (AV.agg [(vi rv4.1), (AV.ref 6 rv4.2.length 0 rv4.2.length)]))]) rfl (⟨(rv4.2.getD ((rv2.1).toNat) default).Code, (rv4.2.getD ((rv2.1).toNat) default).Year, (rv4.2.getD ((rv2.1).toNat) default).Total, [], [], [], []⟩ : TApiPot) (⟨(rv4.2.getD ((rv2.1).toNat) default).Code, (rv4.2.getD ((rv2.1).toNat) default).Year, (rv4.2.getD ((rv2.1).toNat) default).Total, (rv4.2.getD ((rv2.1).toNat) default).Granted, (((rv4.2.getD ((rv2.1).toNat) default).Heard).set (0 + ((IntKind.i64.wrap (a1.From - 1))).toNat) (if a1.Returned > (((rv4.2.getD ((rv2.1).toNat) default).Heard).getD (0 + ((IntKind.i64.wrap (a1.From - 1))).toNat) default) then a1.Returned else (((rv4.2.getD ((rv2.1).toNat) default).Heard).getD (0 + ((IntKind.i64.wrap (a1.From - 1))).toNat) default))), (rv4.2.getD ((rv2.1).toNat) default).Asked, (((rv4.2.getD ((rv2.1).toNat) default).Used).set (0 + ((IntKind.i64.wrap (a1.From - 1))).toNat) a1.Used)⟩ : TApiPot) h rfl) (trF_refl _) <|
.cst (A := True) (.pf trivial) [(4, (vp 2)), (5, (vi 0))] [(4, (vp 2)), (5, (vi 0))] [(bx (TApiTreasury.e a0)), (bx (TApiMessage.e a1)), (Ob.box (AV.agg [(vi rv4.1), (AV.ref 6 rv4.2.length 0 rv4.2.length)])), Ob.dead, Ob.dead, Ob.dead, (eS 7 TApiPot.e (rv4.2.set ((rv2.1).toNat) (⟨(rv4.2.getD ((rv2.1).toNat) default).Code, (rv4.2.getD ((rv2.1).toNat) default).Year, (rv4.2.getD ((rv2.1).toNat) default).Total, (rv4.2.getD ((rv2.1).toNat) default).Granted, (((rv4.2.getD ((rv2.1).toNat) default).Heard).set (0 + ((IntKind.i64.wrap (a1.From - 1))).toNat) (if a1.Returned > (((rv4.2.getD ((rv2.1).toNat) default).Heard).getD (0 + ((IntKind.i64.wrap (a1.From - 1))).toNat) default) then a1.Returned else (((rv4.2.getD ((rv2.1).toNat) default).Heard).getD (0 + ((IntKind.i64.wrap (a1.From - 1))).toNat) default))), (rv4.2.getD ((rv2.1).toNat) default).Asked, (((rv4.2.getD ((rv2.1).toNat) default).Used).set (0 + ((IntKind.i64.wrap (a1.From - 1))).toNat) a1.Used)⟩ : TApiPot))), Ob.dead, Ob.dead, Ob.dead, Ob.dead, (Ob.box (AV.agg [(vi rv4.1), (AV.ref 6 rv4.2.length 0 rv4.2.length)]))] [(bx (TApiTreasury.e a0)), (bx (TApiMessage.e a1)), (Ob.box (AV.agg [(vi rv4.1), (AV.ref 6 ((rv4.2.set ((rv2.1).toNat) (⟨(rv4.2.getD ((rv2.1).toNat) default).Code, (rv4.2.getD ((rv2.1).toNat) default).Year, (rv4.2.getD ((rv2.1).toNat) default).Total, (rv4.2.getD ((rv2.1).toNat) default).Granted, (((rv4.2.getD ((rv2.1).toNat) default).Heard).set (0 + ((IntKind.i64.wrap (a1.From - 1))).toNat) (if a1.Returned > (((rv4.2.getD ((rv2.1).toNat) default).Heard).getD (0 + ((IntKind.i64.wrap (a1.From - 1))).toNat) default) then a1.Returned else (((rv4.2.getD ((rv2.1).toNat) default).Heard).getD (0 + ((IntKind.i64.wrap (a1.From - 1))).toNat) default))), (rv4.2.getD ((rv2.1).toNat) default).Asked, (((rv4.2.getD ((rv2.1).toNat) default).Used).set (0 + ((IntKind.i64.wrap (a1.From - 1))).toNat) a1.Used)⟩ : TApiPot)).length) 0 ((rv4.2.set ((rv2.1).toNat) (⟨(rv4.2.getD ((rv2.1).toNat) default).Code, (rv4.2.getD ((rv2.1).toNat) default).Year, (rv4.2.getD ((rv2.1).toNat) default).Total, (rv4.2.getD ((rv2.1).toNat) default).Granted, (((rv4.2.getD ((rv2.1).toNat) default).Heard).set (0 + ((IntKind.i64.wrap (a1.From - 1))).toNat) (if a1.Returned > (((rv4.2.getD ((rv2.1).toNat) default).Heard).getD (0 + ((IntKind.i64.wrap (a1.From - 1))).toNat) default) then a1.Returned else (((rv4.2.getD ((rv2.1).toNat) default).Heard).getD (0 + ((IntKind.i64.wrap (a1.From - 1))).toNat) default))), (rv4.2.getD ((rv2.1).toNat) default).Asked, (((rv4.2.getD ((rv2.1).toNat) default).Used).set (0 + ((IntKind.i64.wrap (a1.From - 1))).toNat) a1.Used)⟩ : TApiPot)).length))])), Ob.dead, Ob.dead, Ob.dead, (eS 7 TApiPot.e (rv4.2.set ((rv2.1).toNat) (⟨(rv4.2.getD ((rv2.1).toNat) default).Code, (rv4.2.getD ((rv2.1).toNat) default).Year, (rv4.2.getD ((rv2.1).toNat) default).Total, (rv4.2.getD ((rv2.1).toNat) default).Granted, (((rv4.2.getD ((rv2.1).toNat) default).Heard).set (0 + ((IntKind.i64.wrap (a1.From - 1))).toNat) (if a1.Returned > (((rv4.2.getD ((rv2.1).toNat) default).Heard).getD (0 + ((IntKind.i64.wrap (a1.From - 1))).toNat) default) then a1.Returned else (((rv4.2.getD ((rv2.1).toNat) default).Heard).getD (0 + ((IntKind.i64.wrap (a1.From - 1))).toNat) default))), (rv4.2.getD ((rv2.1).toNat) default).Asked, (((rv4.2.getD ((rv2.1).toNat) default).Used).set (0 + ((IntKind.i64.wrap (a1.From - 1))).toNat) a1.Used)⟩ : TApiPot))), Ob.dead, Ob.dead, Ob.dead, Ob.dead, (Ob.box (AV.agg [(vi rv4.1), (AV.ref 6 ((rv4.2.set ((rv2.1).toNat) (⟨(rv4.2.getD ((rv2.1).toNat) default).Code, (rv4.2.getD ((rv2.1).toNat) default).Year, (rv4.2.getD ((rv2.1).toNat) default).Total, (rv4.2.getD ((rv2.1).toNat) default).Granted, (((rv4.2.getD ((rv2.1).toNat) default).Heard).set (0 + ((IntKind.i64.wrap (a1.From - 1))).toNat) (if a1.Returned > (((rv4.2.getD ((rv2.1).toNat) default).Heard).getD (0 + ((IntKind.i64.wrap (a1.From - 1))).toNat) default) then a1.Returned else (((rv4.2.getD ((rv2.1).toNat) default).Heard).getD (0 + ((IntKind.i64.wrap (a1.From - 1))).toNat) default))), (rv4.2.getD ((rv2.1).toNat) default).Asked, (((rv4.2.getD ((rv2.1).toNat) default).Used).set (0 + ((IntKind.i64.wrap (a1.From - 1))).toNat) a1.Used)⟩ : TApiPot)).length) 0 ((rv4.2.set ((rv2.1).toNat) (⟨(rv4.2.getD ((rv2.1).toNat) default).Code, (rv4.2.getD ((rv2.1).toNat) default).Year, (rv4.2.getD ((rv2.1).toNat) default).Total, (rv4.2.getD ((rv2.1).toNat) default).Granted, (((rv4.2.getD ((rv2.1).toNat) default).Heard).set (0 + ((IntKind.i64.wrap (a1.From - 1))).toNat) (if a1.Returned > (((rv4.2.getD ((rv2.1).toNat) default).Heard).getD (0 + ((IntKind.i64.wrap (a1.From - 1))).toNat) default) then a1.Returned else (((rv4.2.getD ((rv2.1).toNat) default).Heard).getD (0 + ((IntKind.i64.wrap (a1.From - 1))).toNat) default))), (rv4.2.getD ((rv2.1).toNat) default).Asked, (((rv4.2.getD ((rv2.1).toNat) default).Used).set (0 + ((IntKind.i64.wrap (a1.From - 1))).toNat) a1.Used)⟩ : TApiPot)).length))]))] (fun _ => ⟨by simp only, by simp only [List.length_set]⟩) <|
.guard [(rv4.2.set ((rv2.1).toNat) (⟨(rv4.2.getD ((rv2.1).toNat) default).Code, (rv4.2.getD ((rv2.1).toNat) default).Year, (rv4.2.getD ((rv2.1).toNat) default).Total, (rv4.2.getD ((rv2.1).toNat) default).Granted, (((rv4.2.getD ((rv2.1).toNat) default).Heard).set (0 + ((IntKind.i64.wrap (a1.From - 1))).toNat) (if a1.Returned > (((rv4.2.getD ((rv2.1).toNat) default).Heard).getD (0 + ((IntKind.i64.wrap (a1.From - 1))).toNat) default) then a1.Returned else (((rv4.2.getD ((rv2.1).toNat) default).Heard).getD (0 + ((IntKind.i64.wrap (a1.From - 1))).toNat) default))), (rv4.2.getD ((rv2.1).toNat) default).Asked, (((rv4.2.getD ((rv2.1).toNat) default).Used).set (0 + ((IntKind.i64.wrap (a1.From - 1))).toNat) a1.Used)⟩ : TApiPot)).length < 2 ^ 63] <|
.frz 6 (.ev 0) none [] [2, 11] <|
.ret [] ((⟨rv4.1, (rv4.2.set ((rv2.1).toNat) (⟨(rv4.2.getD ((rv2.1).toNat) default).Code, (rv4.2.getD ((rv2.1).toNat) default).Year, (rv4.2.getD ((rv2.1).toNat) default).Total, (rv4.2.getD ((rv2.1).toNat) default).Granted, (((rv4.2.getD ((rv2.1).toNat) default).Heard).set (0 + ((IntKind.i64.wrap (a1.From - 1))).toNat) (if a1.Returned > (((rv4.2.getD ((rv2.1).toNat) default).Heard).getD (0 + ((IntKind.i64.wrap (a1.From - 1))).toNat) default) then a1.Returned else (((rv4.2.getD ((rv2.1).toNat) default).Heard).getD (0 + ((IntKind.i64.wrap (a1.From - 1))).toNat) default))), (rv4.2.getD ((rv2.1).toNat) default).Asked, (((rv4.2.getD ((rv2.1).toNat) default).Used).set (0 + ((IntKind.i64.wrap (a1.From - 1))).toNat) a1.Used)⟩ : TApiPot))⟩ : TApiTreasury), 0))))
def F_r13_Hear (a0 : TApiTreasury) (a1 : TApiMessage) : Option R_r13_Hear := (S_r13_Hear a0 a1).den
set_option maxRecDepth 100000 in
theorem F_r13_Hear_ok {a0 : TApiTreasury} {a1 : TApiMessage} (r : R_r13_Hear) (h : F_r13_Hear a0 a1 = some r) : CallOk Tryz.prog 15 [(AV.d (TApiTreasury.e a0)), (AV.d (TApiMessage.e a1))] [] (V_r13_Hear r) (L_r13_Hear r) := fOk (s := S_r13_Hear a0 a1) Tryz.func15 rfl (by kernel_rfl) h
/-! 22 -/
abbrev R_r13_Out := Int
def V_r13_Out (x : R_r13_Out) : AV := (vi x)
def L_r13_Out (_ : R_r13_Out) : List Ob := []
def S_r13_Out_b1 (a0 : TApiPot) (sv1 : Int × Int) : Scr Tryz.prog R_r13_Out (Step (Int × Int) R_r13_Out) :=
.ite (bif (decide (sv1.2 < (a0.Granted.length : Int))) then (decide (sv1.2 < (a0.Heard.length : Int))) else false) (
.guard [(0 : Int) ≤ sv1.2, (sv1.2).toNat < a0.Granted.length, (sv1.2).toNat < a0.Heard.length] <|
.reg 5 [] [] [.ev 0, .ev 1, .ev 0, .ev 2] <|
.ret [] (.cont ((IntKind.i64.wrap (sv1.1 + (IntKind.i64.wrap ((a0.Granted.getD ((sv1.2).toNat) default) - (a0.Heard.getD ((sv1.2).toNat) default))))), (IntKind.i64.wrap (sv1.2 + 1))))) (
.ret [] (.brk (sv1.1, sv1.2)))
def S_r13_Out (a0 : TApiPot) : Scr Tryz.prog R_r13_Out R_r13_Out :=
.iter [1] (fun (sv1 : Int × Int) => [(3, (vi sv1.1)), (4, (vi sv1.2))]) (fun (_ : Int × Int) => []) (0, 0) (S_r13_Out_b1 a0) (fun (sv1 : Int × Int) =>
.ret [] sv1.1) id
def F_r13_Out (a0 : TApiPot) : Option R_r13_Out := (S_r13_Out a0).den
set_option maxRecDepth 100000 in
theorem F_r13_Out_ok {a0 : TApiPot} (r : R_r13_Out) (h : F_r13_Out a0 = some r) : CallOk Tryz.prog 22 [(AV.d (TApiPot.e a0))] [] (V_r13_Out r) (L_r13_Out r) := fOk (s := S_r13_Out a0) Tryz.func22 rfl (by kernel_rfl) h
/-! 43 -/
abbrev R_r13_Free := Int
def V_r13_Free (x : R_r13_Free) : AV := (vi x)
def L_r13_Free (_ : R_r13_Free) : List Ob := []
def S_r13_Free (a0 : TApiPot) : Scr Tryz.prog R_r13_Free R_r13_Free :=
.call (@F_r13_Out_ok a0) fun rv1 cv1 =>
.reg 1 [] [(3, hc cv1 [] true)] [.cl 0 cv1 [] 1 true] <|
.ret [] (IntKind.i64.wrap (a0.Total - rv1))
def F_r13_Free (a0 : TApiPot) : Option R_r13_Free := (S_r13_Free a0).den
set_option maxRecDepth 100000 in
theorem F_r13_Free_ok {a0 : TApiPot} (r : R_r13_Free) (h : F_r13_Free a0 = some r) : CallOk Tryz.prog 43 [(AV.d (TApiPot.e a0))] [] (V_r13_Free r) (L_r13_Free r) := fOk (s := S_r13_Free a0) Tryz.func43 rfl (by kernel_rfl) h
/-! 32 -/
abbrev R_r13_Divide := TApiTreasury × Int
def V_r13_Divide (x : R_r13_Divide) : AV := (AV.tup [(AV.d (TApiTreasury.e x.1)), (vi x.2)])
def L_r13_Divide (_ : R_r13_Divide) : List Ob := []
def S_r13_Divide_b1 (a0 : TApiTreasury) (a3 : (List Int)) (rv1 : R_r13_find) (iv2 : Nat) (sv3 : Int × Int) : Scr Tryz.prog R_r13_Divide (Step (Int × Int) R_r13_Divide) :=
.reg 9 [] [] [.pf (nn iv2), .ev 0] <|
.call (@F_r13_total_ok (a3.getD iv2 default)) fun rv4 cv4 =>
.reg 10 [] [(1, hc cv4 [] true)] [.cl 0 cv4 [] 2 true] <|
.ite (!rv4) (
.reg 11 [] [(0, hv (AV.d (TApiTreasury.e (⟨0, []⟩ : TApiTreasury))))] [.pf cz5] <|
.ret [] (.ret ((⟨0, []⟩ : TApiTreasury), 2))) (
.guard [(0 : Int) ≤ rv1.1, (rv1.1).toNat < a0.Pots.length, iv2 < ((a0.Pots.getD ((rv1.1).toNat) default).Granted).length] <|
.reg 13 [] [] [.ev 0, .ev 1, .pf (nn iv2), .ev 2] <|
.ret [] (.cont ((IntKind.i64.wrap (sv3.1 + (a3.getD iv2 default))), (IntKind.i64.wrap (sv3.2 + (((a0.Pots.getD ((rv1.1).toNat) default).Granted).getD iv2 default))))))
def S_r13_Divide_b2 (a3 : (List Int)) (rv1 : R_r13_find) (rv5 : R_r13_copied_op) (iv6 : Nat) (sv7 : (List Int)) : Scr Tryz.prog R_r13_Divide (Step ((List Int)) R_r13_Divide) :=
.reg 22 [] [] [.pf (nn iv6), .ev 0] <|
.guard [(rv1.1).toNat < rv5.2.length, sv7.length = ((rv5.2.getD ((rv1.1).toNat) default).Granted).length, iv6 < ((rv5.2.getD ((rv1.1).toNat) default).Granted).length, (0 + iv6) < sv7.length] <|
.reg 23 [] [(3, hv (AV.ptr 5 rv5.2.length [.x ((rv1.1).toNat) 7])), (12, { obs := [(6, (eS 1 (DV.i .i64) (sv7.set (0 + iv6) (IntKind.i64.wrap ((sv7.getD (0 + iv6) default) + (a3.getD iv6 default))))))] })] [.pf (Eq.refl rv5.2.length), .ev 9, .ev 0, .pf (p := LeV (AV.ptr 5 rv5.2.length [.x (0 + ((rv1.1).toNat)) 7]) (AV.ptr 5 rv5.2.length [.x ((rv1.1).toNat) 7])) (leV_ix), .pf (Eq.refl rv5.2.length), .pf (Eq.refl rv5.2.length), .ev 0, .pf (p := decide ((rv1.1).toNat = (rv1.1).toNat) = true) (decide_eq_true rfl), .ev 1, .pf (nn iv6), .ev 2, .ev 1, .ev 3, .ev 1, .pf (nn iv6), .ev 2, .ev 1, .ev 3, .pf (oLe_set (sz := 1) (e := (DV.i .i64)) (l := sv7) (i := (0 + iv6)) (x := (IntKind.i64.wrap ((sv7.getD (0 + iv6) default) + (a3.getD iv6 default)))) (fun _ => rfl))] <|
.ret [] (.cont (sv7.set (0 + iv6) (IntKind.i64.wrap ((sv7.getD (0 + iv6) default) + (a3.getD iv6 default)))))
def S_r13_Divide (a0 : TApiTreasury) (a1 : List UInt8) (a2 : Int) (a3 : (List Int)) : Scr Tryz.prog R_r13_Divide R_r13_Divide :=
.reg 0 [] [(1, { obs := [(1, (bx (TApiTreasury.e (⟨0, []⟩ : TApiTreasury))))] })] [.pf cz4] <|
.call (@F_r13_find_ok a0 1 a1 a2) fun rv1 cv1 =>
.reg 1 [] [(3, hc cv1 [] true)] [.cl 0 cv1 [] 2 true] <|
.ite (rv1.2 != 0) (
.reg 3 [] [(0, hv (AV.d (TApiTreasury.e (⟨0, []⟩ : TApiTreasury))))] [.pf cz5] <|
.ret [] ((⟨0, []⟩ : TApiTreasury), rv1.2)) (
.ite ((a3.length : Int) != a0.Offices) (
.reg 5 [] [(0, hv (AV.d (TApiTreasury.e (⟨0, []⟩ : TApiTreasury))))] [.pf cz5] <|
.ret [] ((⟨0, []⟩ : TApiTreasury), 6)) (
.range (a3.length : Int) a3.length rfl (.slot 3) 38 [3, 4, 8, 10, 36, 37] (fun (sv3 : Int × Int) => [(12, (vi sv3.1)), (13, (vi sv3.2))]) (fun (_ : Int × Int) => []) (0, 0) (S_r13_Divide_b1 a0 a3 rv1) (fun (sv3 : Int × Int) => 
.call (@F_r13_Free_ok (a0.Pots.getD ((rv1.1).toNat) default)) fun rv8 cv8 =>
.guard [(0 : Int) ≤ rv1.1, (rv1.1).toNat < a0.Pots.length] <|
.reg 15 [] [(6, hc cv8 [] true)] [.ev 0, .ev 1, .cl 2 cv8 [] 2 true] <|
.ite (decide (sv3.1 > rv8)) (
.reg 16 [] [(0, hv (AV.d (TApiTreasury.e (⟨0, []⟩ : TApiTreasury))))] [.pf cz5] <|
.ret [] ((⟨0, []⟩ : TApiTreasury), 15)) (
.ite (decide ((IntKind.i64.wrap (sv3.1 + sv3.2)) > 1000000000000000)) (
.reg 18 [] [(0, hv (AV.d (TApiTreasury.e (⟨0, []⟩ : TApiTreasury))))] [.pf cz5] <|
.ret [] ((⟨0, []⟩ : TApiTreasury), 3)) (
.call (@F_r13_copied_op_ok a0 ((rv1.1).toNat)) fun rv5 cv5 =>
.reg 19 [] [(1, hc cv5 [] false), (2, { obs := [(10, (bx (TApiTreasury.e (⟨0, []⟩ : TApiTreasury))))] })] [.cl 0 cv5 [] 2 false, .pf cz4] <|
.kill 3 <|
.range (a3.length : Int) a3.length rfl (.slot 78) 80 [8, 10, 16, 78, 79] (fun (_ : (List Int)) => []) (fun (sv7 : (List Int)) => [(6, (eS 1 (DV.i .i64) sv7))]) ((rv5.2.getD ((rv1.1).toNat) default).Granted) (S_r13_Divide_b2 a3 rv1 rv5) (fun (sv7 : (List Int)) => 
.reg 25 [] [] [] <|
.guard [sv7.length = ((rv5.2.getD ((rv1.1).toNat) default).Granted).length] <|
.cst (A := sv7.length = ((rv5.2.getD ((rv1.1).toNat) default).Granted).length) (.ev 0) [(8, (vp 1)), (9, (vi 0))] [(8, (vp 1)), (9, (vi 0))] [(bx (TApiTreasury.e a0)), (Ob.box (AV.agg [(vi rv5.1), (AV.ref 5 rv5.2.length 0 rv5.2.length)])), Ob.dead, Ob.dead, Ob.dead, (opS 7 TApiPot.e ((rv1.1).toNat) (AV.agg [(AV.d (DV.str ((rv5.2.getD ((rv1.1).toNat) default).Code))), (vi ((rv5.2.getD ((rv1.1).toNat) default).Year)), (vi ((rv5.2.getD ((rv1.1).toNat) default).Total)), (AV.ref 6 (((rv5.2.getD ((rv1.1).toNat) default).Granted).length) 0 (((rv5.2.getD ((rv1.1).toNat) default).Granted).length)), (AV.ref 7 (((rv5.2.getD ((rv1.1).toNat) default).Heard).length) 0 (((rv5.2.getD ((rv1.1).toNat) default).Heard).length)), (AV.ref 8 (((rv5.2.getD ((rv1.1).toNat) default).Asked).length) 0 (((rv5.2.getD ((rv1.1).toNat) default).Asked).length)), (AV.ref 9 (((rv5.2.getD ((rv1.1).toNat) default).Used).length) 0 (((rv5.2.getD ((rv1.1).toNat) default).Used).length))]) rv5.2), (eS 1 (DV.i .i64) sv7), (eS 1 (DV.i .i64) ((rv5.2.getD ((rv1.1).toNat) default).Heard)), (eS 1 (DV.i .i64) ((rv5.2.getD ((rv1.1).toNat) default).Asked)), (eS 1 (DV.i .i64) ((rv5.2.getD ((rv1.1).toNat) default).Used)), (Ob.box (AV.agg [(vi rv5.1), (AV.ref 5 rv5.2.length 0 rv5.2.length)]))] [(bx (TApiTreasury.e a0)), (Ob.box (AV.agg [(vi rv5.1), (AV.ref 5 rv5.2.length 0 rv5.2.length)])), Ob.dead, Ob.dead, Ob.dead, (opS 7 TApiPot.e ((rv1.1).toNat) (AV.agg [(AV.d (DV.str ((rv5.2.getD ((rv1.1).toNat) default).Code))), (vi ((rv5.2.getD ((rv1.1).toNat) default).Year)), (vi ((rv5.2.getD ((rv1.1).toNat) default).Total)), (AV.ref 6 sv7.length 0 sv7.length), (AV.ref 7 (((rv5.2.getD ((rv1.1).toNat) default).Heard).length) 0 (((rv5.2.getD ((rv1.1).toNat) default).Heard).length)), (AV.ref 8 (((rv5.2.getD ((rv1.1).toNat) default).Asked).length) 0 (((rv5.2.getD ((rv1.1).toNat) default).Asked).length)), (AV.ref 9 (((rv5.2.getD ((rv1.1).toNat) default).Used).length) 0 (((rv5.2.getD ((rv1.1).toNat) default).Used).length))]) rv5.2), (eS 1 (DV.i .i64) sv7), (eS 1 (DV.i .i64) ((rv5.2.getD ((rv1.1).toNat) default).Heard)), (eS 1 (DV.i .i64) ((rv5.2.getD ((rv1.1).toNat) default).Asked)), (eS 1 (DV.i .i64) ((rv5.2.getD ((rv1.1).toNat) default).Used)), (Ob.box (AV.agg [(vi rv5.1), (AV.ref 5 rv5.2.length 0 rv5.2.length)]))] (fun h => ⟨rfl, by rw [h]⟩) <|
.guard [sv7.length < 2 ^ 63 ∧ ((rv5.2.getD ((rv1.1).toNat) default).Heard).length < 2 ^ 63 ∧ ((rv5.2.getD ((rv1.1).toNat) default).Asked).length < 2 ^ 63 ∧ ((rv5.2.getD ((rv1.1).toNat) default).Used).length < 2 ^ 63] <|
.sh (A := sv7.length < 2 ^ 63 ∧ ((rv5.2.getD ((rv1.1).toNat) default).Heard).length < 2 ^ 63 ∧ ((rv5.2.getD ((rv1.1).toNat) default).Asked).length < 2 ^ 63 ∧ ((rv5.2.getD ((rv1.1).toNat) default).Used).length < 2 ^ 63) (.ev 0) [(8, (vp 1)), (9, (vi 0))] [(8, (vp 1)), (9, (vi 0))] [(bx (TApiTreasury.e a0)), (Ob.box (AV.agg [(vi rv5.1), (AV.ref 5 rv5.2.length 0 rv5.2.length)])), Ob.dead, Ob.dead, Ob.dead, (opS 7 TApiPot.e ((rv1.1).toNat) (AV.agg [(AV.d (DV.str ((rv5.2.getD ((rv1.1).toNat) default).Code))), (vi ((rv5.2.getD ((rv1.1).toNat) default).Year)), (vi ((rv5.2.getD ((rv1.1).toNat) default).Total)), (AV.ref 6 sv7.length 0 sv7.length), (AV.ref 7 (((rv5.2.getD ((rv1.1).toNat) default).Heard).length) 0 (((rv5.2.getD ((rv1.1).toNat) default).Heard).length)), (AV.ref 8 (((rv5.2.getD ((rv1.1).toNat) default).Asked).length) 0 (((rv5.2.getD ((rv1.1).toNat) default).Asked).length)), (AV.ref 9 (((rv5.2.getD ((rv1.1).toNat) default).Used).length) 0 (((rv5.2.getD ((rv1.1).toNat) default).Used).length))]) rv5.2), (eS 1 (DV.i .i64) sv7), (eS 1 (DV.i .i64) ((rv5.2.getD ((rv1.1).toNat) default).Heard)), (eS 1 (DV.i .i64) ((rv5.2.getD ((rv1.1).toNat) default).Asked)), (eS 1 (DV.i .i64) ((rv5.2.getD ((rv1.1).toNat) default).Used)), (Ob.box (AV.agg [(vi rv5.1), (AV.ref 5 rv5.2.length 0 rv5.2.length)]))] [(bx (TApiTreasury.e a0)), (Ob.box (AV.agg [(vi rv5.1), (AV.ref 5 rv5.2.length 0 rv5.2.length)])), Ob.dead, Ob.dead, Ob.dead, (eS 7 TApiPot.e (rv5.2.set ((rv1.1).toNat) (⟨(rv5.2.getD ((rv1.1).toNat) default).Code, (rv5.2.getD ((rv1.1).toNat) default).Year, (rv5.2.getD ((rv1.1).toNat) default).Total, sv7, (rv5.2.getD ((rv1.1).toNat) default).Heard, (rv5.2.getD ((rv1.1).toNat) default).Asked, (rv5.2.getD ((rv1.1).toNat) default).Used⟩ : TApiPot))), Ob.dead, Ob.dead, Ob.dead, Ob.dead, (Ob.box (AV.agg [(vi rv5.1), (AV.ref 5 rv5.2.length 0 rv5.2.length)]))] (fun h => shift_close oTApiPot (P := [(bx (TApiTreasury.e a0)), (Ob.box (AV.agg [(vi rv5.1), (AV.ref 5 rv5.2.length 0 rv5.2.length)])), Ob.dead, Ob.dead, Ob.dead]) (D := [(Ob.box (AV.agg [(vi rv5.1), (AV.ref 5 rv5.2.length 0 rv5.2.length)]))]) rfl (⟨(rv5.2.getD ((rv1.1).toNat) default).Code, (rv5.2.getD ((rv1.1).toNat) default).Year, (rv5.2.getD ((rv1.1).toNat) default).Total, [], [], [], []⟩ : TApiPot) (⟨(rv5.2.getD ((rv1.1).toNat) default).Code, (rv5.2.getD ((rv1.1).toNat) default).Year, (rv5.2.getD ((rv1.1).toNat) default).Total, sv7, (rv5.2.getD ((rv1.1).toNat) default).Heard, (rv5.2.getD ((rv1.1).toNat) default).Asked, (rv5.2.getD ((rv1.1).toNat) default).Used⟩ : TApiPot) h rfl) (trF_refl _) <|
.cst (A := True) (.pf trivial) [(8, (vp 1)), (9, (vi 0))] [(8, (vp 1)), (9, (vi 0))] [(bx (TApiTreasury.e a0)), (Ob.box (AV.agg [(vi rv5.1), (AV.ref 5 rv5.2.length 0 rv5.2.length)])), Ob.dead, Ob.dead, Ob.dead, (eS 7 TApiPot.e (rv5.2.set ((rv1.1).toNat) (⟨(rv5.2.getD ((rv1.1).toNat) default).Code, (rv5.2.getD ((rv1.1).toNat) default).Year, (rv5.2.getD ((rv1.1).toNat) default).Total, sv7, (rv5.2.getD ((rv1.1).toNat) default).Heard, (rv5.2.getD ((rv1.1).toNat) default).Asked, (rv5.2.getD ((rv1.1).toNat) default).Used⟩ : TApiPot))), Ob.dead, Ob.dead, Ob.dead, Ob.dead, (Ob.box (AV.agg [(vi rv5.1), (AV.ref 5 rv5.2.length 0 rv5.2.length)]))] [(bx (TApiTreasury.e a0)), (Ob.box (AV.agg [(vi rv5.1), (AV.ref 5 ((rv5.2.set ((rv1.1).toNat) (⟨(rv5.2.getD ((rv1.1).toNat) default).Code, (rv5.2.getD ((rv1.1).toNat) default).Year, (rv5.2.getD ((rv1.1).toNat) default).Total, sv7, (rv5.2.getD ((rv1.1).toNat) default).Heard, (rv5.2.getD ((rv1.1).toNat) default).Asked, (rv5.2.getD ((rv1.1).toNat) default).Used⟩ : TApiPot)).length) 0 ((rv5.2.set ((rv1.1).toNat) (⟨(rv5.2.getD ((rv1.1).toNat) default).Code, (rv5.2.getD ((rv1.1).toNat) default).Year, (rv5.2.getD ((rv1.1).toNat) default).Total, sv7, (rv5.2.getD ((rv1.1).toNat) default).Heard, (rv5.2.getD ((rv1.1).toNat) default).Asked, (rv5.2.getD ((rv1.1).toNat) default).Used⟩ : TApiPot)).length))])), Ob.dead, Ob.dead, Ob.dead, (eS 7 TApiPot.e (rv5.2.set ((rv1.1).toNat) (⟨(rv5.2.getD ((rv1.1).toNat) default).Code, (rv5.2.getD ((rv1.1).toNat) default).Year, (rv5.2.getD ((rv1.1).toNat) default).Total, sv7, (rv5.2.getD ((rv1.1).toNat) default).Heard, (rv5.2.getD ((rv1.1).toNat) default).Asked, (rv5.2.getD ((rv1.1).toNat) default).Used⟩ : TApiPot))), Ob.dead, Ob.dead, Ob.dead, Ob.dead, (Ob.box (AV.agg [(vi rv5.1), (AV.ref 5 ((rv5.2.set ((rv1.1).toNat) (⟨(rv5.2.getD ((rv1.1).toNat) default).Code, (rv5.2.getD ((rv1.1).toNat) default).Year, (rv5.2.getD ((rv1.1).toNat) default).Total, sv7, (rv5.2.getD ((rv1.1).toNat) default).Heard, (rv5.2.getD ((rv1.1).toNat) default).Asked, (rv5.2.getD ((rv1.1).toNat) default).Used⟩ : TApiPot)).length) 0 ((rv5.2.set ((rv1.1).toNat) (⟨(rv5.2.getD ((rv1.1).toNat) default).Code, (rv5.2.getD ((rv1.1).toNat) default).Year, (rv5.2.getD ((rv1.1).toNat) default).Total, sv7, (rv5.2.getD ((rv1.1).toNat) default).Heard, (rv5.2.getD ((rv1.1).toNat) default).Asked, (rv5.2.getD ((rv1.1).toNat) default).Used⟩ : TApiPot)).length))]))] (fun _ => ⟨by simp only, by simp only [List.length_set]⟩) <|
.guard [(rv5.2.set ((rv1.1).toNat) (⟨(rv5.2.getD ((rv1.1).toNat) default).Code, (rv5.2.getD ((rv1.1).toNat) default).Year, (rv5.2.getD ((rv1.1).toNat) default).Total, sv7, (rv5.2.getD ((rv1.1).toNat) default).Heard, (rv5.2.getD ((rv1.1).toNat) default).Asked, (rv5.2.getD ((rv1.1).toNat) default).Used⟩ : TApiPot)).length < 2 ^ 63] <|
.frz 5 (.ev 0) none [] [1, 10] <|
.ret [] ((⟨rv5.1, (rv5.2.set ((rv1.1).toNat) (⟨(rv5.2.getD ((rv1.1).toNat) default).Code, (rv5.2.getD ((rv1.1).toNat) default).Year, (rv5.2.getD ((rv1.1).toNat) default).Total, sv7, (rv5.2.getD ((rv1.1).toNat) default).Heard, (rv5.2.getD ((rv1.1).toNat) default).Asked, (rv5.2.getD ((rv1.1).toNat) default).Used⟩ : TApiPot))⟩ : TApiTreasury), 0)) id))) id))
def F_r13_Divide (a0 : TApiTreasury) (a1 : List UInt8) (a2 : Int) (a3 : (List Int)) : Option R_r13_Divide := (S_r13_Divide a0 a1 a2 a3).den
set_option maxRecDepth 100000 in
theorem F_r13_Divide_ok {a0 : TApiTreasury} {a1 : List UInt8} {a2 : Int} {a3 : (List Int)} (r : R_r13_Divide) (h : F_r13_Divide a0 a1 a2 a3 = some r) : CallOk Tryz.prog 32 [(AV.d (TApiTreasury.e a0)), (AV.d (DV.str a1)), (vi a2), (vl a3)] [] (V_r13_Divide r) (L_r13_Divide r) := fOk (s := S_r13_Divide a0 a1 a2 a3) Tryz.func32 rfl (by kernel_rfl) h
end
end Go.Proofs.YtfiljdbmhegjgaaGreatDoor
