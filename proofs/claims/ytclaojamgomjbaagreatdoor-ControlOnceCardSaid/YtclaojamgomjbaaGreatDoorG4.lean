/- A part of the proof: what the functions compute, and that their calls return it. No condition. -/
import Derived.Test.YtclaojamgomjbaaGreatDoorT7
import Derived.Lib.AppendZerosOnto
import Derived.Test.YtclaojamgomjbaaGreatDoorProg
import Derived.Test.YtclaojamgomjbaaGreatDoorT4
import Derived.Test.YtclaojamgomjbaaGreatDoorG2
import Derived.Test.YtclaojamgomjbaaGreatDoorG3
/- slices.Insert of one element. No condition. -/
namespace Go.Proofs.YtclaojamgomjbaaGreatDoor
namespace Ins114
open Go Go.TA
def cL : Code → Code
  | .seq x _ => x
  | _ => .skip
def cR : Code → Code
  | .seq _ y => y
  | _ => .skip
def cT : Code → Code
  | .cond _ x _ => x
  | _ => .skip
noncomputable def regOps : Code → Array Oper
  | .region _ ops _ => ops
  | _ => #[]
noncomputable def opAt (ops : Array Oper) (i : Nat) : Oper := (ops[i]?).getD { dst := none, op := .move (.tmp 0), type := 0, pos := "", after := #[], guard := none }
noncomputable def ci : Code := Tryz.f114.body.getD .skip
noncomputable def R0 : Code := cL ci
noncomputable def R1 : Code := cL (cR ci)
noncomputable def R2 : Code := cL (cR (cR ci))
noncomputable def X3 : Code := cL (cR (cR (cR ci)))
noncomputable def R5 : Code := cL (cR (cR (cR (cR ci))))
noncomputable def X6 : Code := cL (cR (cR (cR (cR (cR ci)))))
noncomputable def T8 : Code := cR (cR (cR (cR (cR (cR ci)))))
noncomputable def R8 : Code := cL (cL T8)
noncomputable def B9 : Code := cT (cR (cL T8))
noncomputable def R9 : Code := cL B9
noncomputable def B10 : Code := cR B9
noncomputable def C13 : Code := cR T8
theorem ci_eq : Tryz.f114.body = some (.seq R0 (.seq R1 (.seq R2 (.seq (.seq (cL X3) (.cond (.tmp 16) (cT (cR X3)) .skip)) (.seq R5 (.seq (.seq (cL X6) (.cond (.tmp 22) (cT (cR X6)) .skip)) (.seq (.seq R8 (.cond (.tmp 31) (.seq R9 B10) .skip)) C13))))))) := by kernel_rfl
theorem r8_eq : R8 = .region 8 (regOps R8) false := by kernel_rfl
theorem r9_eq : R9 = .region 9 (regOps R9) false := by kernel_rfl
section
variable {α : Type} [Inhabited α] {e : α → DV}
def gB (e : α → DV) (l : List α) (i : Nat) : Nat → AV := fun j => if j < i then .d (e (l.getD j default)) else garb 14
noncomputable def sB (l : List α) (x : α) (i : Nat) (n1 : (0 : Int) ≤ i) (h1 : i ≤ l.length + 1) (w0 : 0 ≤ IntKind.i64.wrap ((i : Int) + 1)) (w1 : (IntKind.i64.wrap ((i : Int) + 1)).toNat ≤ l.length + 1) (h2 : i ≤ l.length)
    (hx : ∀ k, k < 1 → (AV.d (e ([x].getD (0 + k) default))).wd = 14) (hl : ∀ k, k < l.length - i → (AV.d (e (l.getD (0 + i + k) default))).wd = 14)
    (ho : OLe (.seq 14 (l.length + 1) fun j => if 0 + (IntKind.i64.wrap ((i : Int) + 1)).toNat ≤ j ∧ j < 0 + (IntKind.i64.wrap ((i : Int) + 1)).toNat + min (l.length - i) (l.length + 1 - (IntKind.i64.wrap ((i : Int) + 1)).toNat) then .d (e (l.getD (0 + i + (j - (0 + (IntKind.i64.wrap ((i : Int) + 1)).toNat))) default))
      else if 0 + i ≤ j ∧ j < 0 + i + min 1 (l.length + 1 - i) then .d (e ([x].getD (0 + (j - (0 + i))) default)) else gB e l i j) (eS 14 e (insL l i x))) : Scr Tryz.prog Unit Unit :=
  .reg 10 [] [] [.pf n1, .pf h1, .pf (Eq.refl (l.length + 1)), .pf (Eq.refl 1), .pf (Eq.refl (l.length + 1)), .pf hx] <|
  .reg 11 [8] [(8, { obs := [(2, eS 14 e (insL l i x))] })] [.pf w0, .pf w1, .pf (Eq.refl (l.length + 1)), .pf n1, .pf h2, .pf (Eq.refl l.length), .pf (Eq.refl l.length), .pf (Eq.refl (l.length + 1)), .pf hl, .pf ho] <|
  .ret [] ()
def frI (n i : Nat) (s : AV) : Fr := [(7, .d (.i .i64 1)), (8, .d (.i .i64 (n : Int))), (2, .ref 1 1 0 1), (1, .d (.i .i64 (i : Int))), (0, s)]
theorem tailB (he : ∀ x, (e x).wd = 14) {l : List α} {i : Nat} {x : α} (hi : i < l.length) (hl : l.length < 100000000000000) :
    AW none Tryz.prog Tryz.f114.ntmps B10 (fun e1 fr L => e1 = .ret ∧ FR Tryz.prog Tryz.f114 (.ref 2 (l.length + 1) 0 (l.length + 1)) [eS 14 e l, eS 14 e [x], eS 14 e (insL l i x)] fr L)
      ((9, .ref 2 (l.length + 1) 0 (l.length + 1)) :: frI l.length i (.ref 0 l.length 0 l.length)) [eS 14 e l, eS 14 e [x], .seq 14 (l.length + 1) (gB e l i)] := by
  have hw : IntKind.i64.wrap ((i : Int) + 1) = (i : Int) + 1 := by rw [wrap_i64] <;> omega
  exact pTailR (ρ := Unit) (V := fun _ => .ref 2 (l.length + 1) 0 (l.length + 1)) (Lr := fun _ => [eS 14 e l, eS 14 e [x], eS 14 e (insL l i x)]) (r := ())
    (s := sB (e := e) l x i (by omega) (by omega) (by rw [hw]; omega) (by rw [hw]; omega) (by omega) (fun k _ => he _) (fun k _ => he _) (by
      rw [hw]
      refine oLe_seq insL_length.symm fun j hj => ?_
      rw [insL_get (by omega), show ((i : Int) + 1).toNat = i + 1 by omega]
      by_cases h1 : j < i
      · rw [if_neg (by omega), if_neg (by omega), if_pos h1, gB, if_pos h1]
      · by_cases h2 : j = i
        · subst h2
          rw [if_neg (by omega), if_pos (by omega), if_neg h1, if_pos rfl, show 0 + (j - (0 + j)) = 0 by omega]
          rfl
        · rw [if_pos (by omega), if_neg h1, if_neg h2]
          congr 3; omega)) (by kernel_rfl) rfl
def gC (e : α → DV) (l : List α) : Nat → AV := fun j => if j < l.length then .d (e (l.getD j default)) else garb 14
noncomputable def sC (l : List α) (x : α) (i : Nat) (a0 : (0 : Int) ≤ IntKind.i64.wrap ((l.length : Int) + 1)) (a1 : (IntKind.i64.wrap ((l.length : Int) + 1)).toNat ≤ l.length + 1) (a2 : (IntKind.i64.wrap ((l.length : Int) + 1)).toNat = l.length + 1)
    (w0 : (0 : Int) ≤ IntKind.i64.wrap ((i : Int) + 1)) (w1 : (IntKind.i64.wrap ((i : Int) + 1)).toNat ≤ l.length + 1) (n1 : (0 : Int) ≤ i) (h1 : i ≤ l.length + 1)
    (hx : ExtOk Tryz.prog 138 [.ref 1 1 0 1, .ref 0 (l.length + 1) (0 + (IntKind.i64.wrap ((i : Int) + 1)).toNat) (l.length + 1 - (IntKind.i64.wrap ((i : Int) + 1)).toNat)] [.seq 14 (l.length + 1) (gC e l), eS 14 e [x]] (.d (.b false)))
    (hg : ∀ k, k < l.length + 1 - i → (gC e l (0 + i + k)).wd = 14) (hy : ∀ k, k < 1 → (AV.d (e ([x].getD (0 + k) default))).wd = 14)
    (ho : OLe (.seq 14 (l.length + 1) fun j => if 0 + i ≤ j ∧ j < 0 + i + min 1 (l.length + 1 - i) then .d (e ([x].getD (0 + (j - (0 + i))) default))
      else if 0 + (IntKind.i64.wrap ((i : Int) + 1)).toNat ≤ j ∧ j < 0 + (IntKind.i64.wrap ((i : Int) + 1)).toNat + min (l.length + 1 - i) (l.length + 1 - (IntKind.i64.wrap ((i : Int) + 1)).toNat) then gC e l (0 + i + (j - (0 + (IntKind.i64.wrap ((i : Int) + 1)).toNat)))
      else gC e l j) (eS 14 e (insL l i x))) : Scr Tryz.prog Unit Unit :=
  .reg 13 [] [] [.pf a0, .pf a1, .pf (Eq.refl (l.length + 1))] <|
  .cst (A := (IntKind.i64.wrap ((l.length : Int) + 1)).toNat = l.length + 1) (.pf a2) [(0, .ref 0 (l.length + 1) (0 + 0) ((IntKind.i64.wrap ((l.length : Int) + 1)).toNat - 0)), (1, .d (.i .i64 (i : Int))), (2, .ref 1 1 0 1), (7, .d (.i .i64 1))]
    [(0, .ref 0 (l.length + 1) 0 (l.length + 1)), (1, .d (.i .i64 (i : Int))), (2, .ref 1 1 0 1), (7, .d (.i .i64 1))]
    [.seq 14 (l.length + 1) (gC e l), eS 14 e [x]] [.seq 14 (l.length + 1) (gC e l), eS 14 e [x]] (fun h => ⟨by rw [h]; rfl, rfl⟩) <|
  .reg 14 [] [(6, { h := .callr (.d (.b false)) })] [.pf w0, .pf w1, .pf (Eq.refl (l.length + 1)), .pf hx] <|
  .br true (.pf (p := (!false) = true) rfl) <|
  .reg 15 [8] [] [.pf w0, .pf w1, .pf (Eq.refl (l.length + 1)), .pf n1, .pf h1, .pf (Eq.refl (l.length + 1)), .pf (Eq.refl (l.length + 1)), .pf (Eq.refl (l.length + 1)), .pf hg] <|
  .reg 16 [] [(4, { obs := [(0, eS 14 e (insL l i x))] })] [.pf n1, .pf h1, .pf (Eq.refl (l.length + 1)), .pf (Eq.refl 1), .pf (Eq.refl (l.length + 1)), .pf hy, .pf ho] <|
  .reg 17 [] [] [] <|
  .ret [] ()
theorem tailC (he : ∀ x, (e x).wd = 14) {l : List α} {i : Nat} {x : α} (hi : i < l.length) (hl : l.length < 100000000000000) :
    AW none Tryz.prog Tryz.f114.ntmps C13 (FQ Tryz.prog Tryz.f114 (.ref 0 (l.length + 1) 0 (l.length + 1)) [eS 14 e (insL l i x), eS 14 e [x]])
      (frI l.length i (.ref 0 (l.length + 1) 0 l.length)) [.seq 14 (l.length + 1) (gC e l), eS 14 e [x]] := by
  have hw : IntKind.i64.wrap ((i : Int) + 1) = (i : Int) + 1 := by rw [wrap_i64] <;> omega
  have hw2 : IntKind.i64.wrap ((l.length : Int) + 1) = (l.length : Int) + 1 := by rw [wrap_i64] <;> omega
  have hwd : ∀ k, (gC e l k).wd = 14 := fun k => by
    unfold gC
    split
    · exact he _
    · rfl
  exact pTailG (ρ := Unit) (V := fun _ => .ref 0 (l.length + 1) 0 (l.length + 1)) (Lr := fun _ => [eS 14 e (insL l i x), eS 14 e [x]]) (r := ())
    (s := sC (e := e) l x i (by rw [hw2]; omega) (by rw [hw2]; omega) (by rw [hw2]; omega) (by rw [hw]; omega) (by rw [hw]; omega) (by omega) (by omega)
      (overlaps_ok (fn := Tryz.f138) (tR := 4) (te := 43) (sz := 14) (z1 := 14) (z2 := 14) Tryz.func138 (by kernel_rfl) (by kernel_rfl) (by kernel_rfl) (by kernel_rfl) Tryz.underlying37 Tryz.sizeOf43 (by decide) rfl rfl (by decide) rfl (by rw [hw]; omega) (by rw [hw]; omega) (by decide))
      (fun k _ => hwd _) (fun k _ => he _) (by
      rw [hw]
      refine oLe_seq insL_length.symm fun j hj => ?_
      rw [insL_get (by omega), show ((i : Int) + 1).toNat = i + 1 by omega]
      by_cases h2 : j = i
      · subst h2
        rw [if_pos (by omega), if_neg (by omega), if_pos rfl, show 0 + (j - (0 + j)) = 0 by omega]
        rfl
      · rw [if_neg (by omega), if_neg h2]
        by_cases h1 : j < i
        · rw [if_neg (by omega), if_pos h1, gC, if_pos (by omega)]
        · rw [if_pos (by omega), if_neg h1, gC, if_pos (by omega)]
          congr 3; omega)) (by kernel_rfl) rfl
theorem get_slot {c : Cx} {G : GFr} {a : Act} {t : Nat} {v : AV} (hf : FrIs c G a.tmps) (h : (t, [], v) ∈ G) : AV.IsV c v (a.tmps.getD t undef) := (hf _ h).2.1 (fun z hz => by cases hz)
theorem r8_wp {l : List α} {i : Nat} {x : α} (h0 : 0 < l.length) {Q : Exit → Act → World → Prop} {X : Nat → Prop} {ms : Blocks} {w : World} {a : Act} {zn : Nat} (hr : Rel X ms [eS 14 e l, eS 14 e [x]] w)
    (hf : FrIs (cxOf X ms [eS 14 e l, eS 14 e [x]] w) (frI l.length i (.ref 0 l.length 0 l.length)).up a.tmps) (hN : a.tmps.size = Tryz.f114.ntmps)
    (hQ : ∀ a' ms' w' b tc, Rel X ms' [eS 14 e l, eS 14 e [x]] w' → Ext ms w ms' w' → (cxOf X ms [eS 14 e l, eS 14 e [x]] w).le (cxOf X ms' [eS 14 e l, eS 14 e [x]] w') → FrIs (cxOf X ms' [eS 14 e l, eS 14 e [x]] w') (frI l.length i (.ref 0 l.length 0 l.length)).up a'.tmps →
      a'.tmps.size = Tryz.f114.ntmps → a'.defers = a.defers → ms'[0]? = some (some (b, tc)) → l.length ≤ tc → a'.eval (.tmp 0) = .slice (some ⟨b, 0, none⟩) l.length tc → a'.eval (.tmp 31) = .bool (decide (IntKind.i64.wrap ((l.length : Int) + 1) > (tc : Int))) → Q .normal a' w') :
    R8.wpIn (fenceOf none) zn Tryz.prog Q a w := by
  rw [r8_eq]
  refine wpIn_region ?_
  rw [show List.range (regOps R8).size = [0, 1, 2, 3] ++ [4, 5] by kernel_rfl]
  refine wpOps_pre (hs := []) (C := []) (L1 := [eS 14 e l, eS 14 e [x]]) (G1 := [(29, [], .ref 0 l.length 0 l.length), (28, [], .d (.i .i64 (IntKind.i64.wrap ((l.length : Int) + 1)))), (27, [], .d (.i .i64 1)), (26, [], .d (.i .i64 (l.length : Int))),
    (7, [], .d (.i .i64 1)), (8, [], .d (.i .i64 (l.length : Int))), (2, [], .ref 1 1 0 1), (1, [], .d (.i .i64 (i : Int))), (0, [], .ref 0 l.length 0 l.length)]) (by kernel_rfl) trivial hr hf hN fun a1 ms1 w1 r1 e1 c1 f1 n1 d1 => ?_
  have k1 := IsV.is1 rfl (by simp) (by simp) (get_slot f1 (t := 29) (v := .ref 0 l.length 0 l.length) (by simp))
  have k0 := IsV.is1 rfl (by simp) (by simp) (get_slot f1 (t := 0) (v := .ref 0 l.length 0 l.length) (by simp))
  have at0 : ∀ {t : Nat} {v : Value}, a1.tmps.getD t undef = v → AV.Is (cxOf X ms1 [eS 14 e l, eS 14 e [x]] w1) (.ref 0 l.length 0 l.length) [v] → ∃ b tc, ms1[0]? = some (some (b, tc)) ∧ l.length ≤ tc ∧ v = .slice (some ⟨b, 0, none⟩) l.length tc := fun {t v} _ h => by
    cases h with
    | ref _ _ _ _ _ h =>
    obtain ⟨_, ⟨_, _, rfl⟩, _, h⟩ := h
    obtain ⟨_, h⟩ := h 14 _ rfl
    rcases h with ⟨_, _, h⟩ | ⟨h, _⟩ | ⟨b, tc, m, h1, h2⟩
    · simp only [Value.slice.injEq] at h; omega
    · exact absurd rfl h
    · exact ⟨b, tc, m, h1, by simpa using h2⟩
  obtain ⟨b, tc, m1, hle, h29⟩ := at0 rfl k1
  obtain ⟨b', tc', m1', _, h0'⟩ := at0 rfl k0
  have e1' := m1'.symm.trans m1
  cases e1'
  refine ops_one (o := opAt (regOps R8) 4) (by kernel_rfl) (by kernel_rfl) (OpOk.value (cap_run (x := .tmp 29) (t := 37) (by kernel_rfl) Tryz.underlying37 h29) ?_)
  rw [show (opAt (regOps R8) 4).dst = some 30 by kernel_rfl]
  obtain ⟨p1, p2, p3⟩ := putG_is (dst := some 30) (ch := []) (v := .d (.i .i64 (tc : Int))) (u := .int .i64 tc) (G := [(29, [], .ref 0 l.length 0 l.length), (28, [], .d (.i .i64 (IntKind.i64.wrap ((l.length : Int) + 1)))), (27, [], .d (.i .i64 1)), (26, [], .d (.i .i64 (l.length : Int))),
    (7, [], .d (.i .i64 1)), (8, [], .d (.i .i64 (l.length : Int))), (2, [], .ref 1 1 0 1), (1, [], .d (.i .i64 (i : Int))), (0, [], .ref 0 l.length 0 l.length)]) (G1 := (30, [], .d (.i .i64 (tc : Int))) :: [(29, [], .ref 0 l.length 0 l.length), (28, [], .d (.i .i64 (IntKind.i64.wrap ((l.length : Int) + 1)))), (27, [], .d (.i .i64 1)), (26, [], .d (.i .i64 (l.length : Int))),
    (7, [], .d (.i .i64 1)), (8, [], .d (.i .i64 (l.length : Int))), (2, [], .ref 1 1 0 1), (1, [], .d (.i .i64 (i : Int))), (0, [], .ref 0 l.length 0 l.length)]) (N := Tryz.f114.ntmps) (by kernel_rfl) n1 f1 (fun _ => .one _ _ rfl (.d _ _ (.i _ _))) (fun h => absurd (fun z hz => by cases hz) h)
  refine runOps_ok (hs := []) none zn [5] _ _ ([(31, [], .d (.b (decide (IntKind.i64.wrap ((l.length : Int) + 1) > (tc : Int)))))] ++ (30, [], .d (.i .i64 (tc : Int))) :: [(29, [], .ref 0 l.length 0 l.length), (28, [], .d (.i .i64 (IntKind.i64.wrap ((l.length : Int) + 1)))), (27, [], .d (.i .i64 1)), (26, [], .d (.i .i64 (l.length : Int))),
    (7, [], .d (.i .i64 1)), (8, [], .d (.i .i64 (l.length : Int))), (2, [], .ref 1 1 0 1), (1, [], .d (.i .i64 (i : Int))), (0, [], .ref 0 l.length 0 l.length)]) [eS 14 e l, eS 14 e [x]] [] ms1 w1 _ (by kernel_rfl) trivial r1 p1 p2 fun a2 ms2 w2 r2 e2 c2 f2 n2 d2 => ?_
  have m2 : ms2[0]? = some (some (b, tc)) := by
    obtain ⟨_, h1, _, _, h2⟩ := c2.ob 0 (eS 14 e l) (by simp [cxOf]) rfl (by simp [eS, Ob.stamp])
    obtain rfl : _ = eS 14 e l := Option.some.inj h1.symm
    exact (h2 rfl).trans m1
  have k0' := IsV.is1 rfl (by simp) (by simp) (get_slot f2 (t := 0) (v := .ref 0 l.length 0 l.length) (by simp))
  have h0'' : a2.tmps.getD 0 undef = .slice (some ⟨b, 0, none⟩) l.length tc := by
    generalize a2.tmps.getD 0 undef = v at k0'
    cases k0' with
    | ref _ _ _ _ _ h =>
    obtain ⟨_, ⟨_, _, rfl⟩, _, h⟩ := h
    obtain ⟨_, h⟩ := h 14 _ rfl
    rcases h with ⟨_, _, h⟩ | ⟨h, _⟩ | ⟨b'', tc'', m, h1, h2⟩
    · simp only [Value.slice.injEq] at h; omega
    · exact absurd rfl h
    · have e := m2.symm.trans m
      cases e
      simpa using h2
  exact hQ a2 ms2 w2 b tc r2 (e1.trans e2) (c1.trans c2) (fun q hq => f2 q (by
    simp only [frI, Fr.up, List.map_cons, List.map_nil, List.mem_cons, List.not_mem_nil, or_false] at hq
    rcases hq with rfl | rfl | rfl | rfl | rfl <;> simp)) n2 (d2.trans (p3.trans d1)) m2 hle h0'' (IsV.b (get_slot f2 (t := 31) (v := .d (.b (decide (IntKind.i64.wrap ((l.length : Int) + 1) > (tc : Int))))) (by simp)))
theorem r9_wp {l : List α} {i : Nat} {x : α} (hi : i < l.length) (hl : (l.length + 1) * (4 * 120) ≤ 2 ^ 48) {Q : Exit → Act → World → Prop} {X : Nat → Prop} {ms : Blocks} {w : World} {a : Act} {zn b : Nat} (hr : Rel X ms [eS 14 e l, eS 14 e [x]] w)
    (hf : FrIs (cxOf X ms [eS 14 e l, eS 14 e [x]] w) (frI l.length i (.ref 0 l.length 0 l.length)).up a.tmps) (hN : a.tmps.size = Tryz.f114.ntmps) (hm : ms[0]? = some (some (b, l.length)))
    (hQ : ∀ a' ms' w', Rel X ms' [eS 14 e l, eS 14 e [x], .seq 14 (l.length + 1) (gB e l i)] w' → Ext ms w ms' w' → (cxOf X ms [eS 14 e l, eS 14 e [x]] w).le (cxOf X ms' [eS 14 e l, eS 14 e [x], .seq 14 (l.length + 1) (gB e l i)] w') →
      FrIs (cxOf X ms' [eS 14 e l, eS 14 e [x], .seq 14 (l.length + 1) (gB e l i)] w') (Fr.up ((9, .ref 2 (l.length + 1) 0 (l.length + 1)) :: frI l.length i (.ref 0 l.length 0 l.length))) a'.tmps →
      a'.tmps.size = Tryz.f114.ntmps → a'.defers = a.defers → Q .normal a' w') :
    R9.wpIn (fenceOf none) zn Tryz.prog Q a w := by
  have hn : l.length < 100000000000000 := by omega
  have hw2 : IntKind.i64.wrap ((l.length : Int) + 1) = (l.length : Int) + 1 := by rw [wrap_i64] <;> omega
  have hw3 : IntKind.i64.wrap (IntKind.i64.wrap ((l.length : Int) + 1) - (i : Int)) = ((l.length + 1 - i : Nat) : Int) := by rw [hw2, wrap_i64] <;> omega
  rw [r9_eq]
  refine wpIn_region ?_
  rw [show List.range (regOps R9).size = [0, 1, 2, 3, 4, 5, 6, 7] ++ [8, 9] by kernel_rfl]
  refine wpOps_pre (hs := []) (C := [(0 : Int) ≤ (i : Int), i ≤ l.length, l.length = l.length]) (L1 := [eS 14 e l, eS 14 e [x]]) (G1 := [(39, [], .d (.i .i64 (IntKind.i64.wrap (IntKind.i64.wrap ((l.length : Int) + 1) - (i : Int))))), (38, [], .d (.i .i64 (i : Int))), (37, [], .d (.i .i64 (IntKind.i64.wrap ((l.length : Int) + 1)))),
    (36, [], .d (.i .i64 1)), (35, [], .d (.i .i64 (l.length : Int))), (34, [], .ref 0 l.length (0 + 0) (i - 0)), (33, [], .d (.i .i64 (i : Int))), (32, [], .ref 0 l.length 0 l.length),
    (7, [], .d (.i .i64 1)), (8, [], .d (.i .i64 (l.length : Int))), (2, [], .ref 1 1 0 1), (1, [], .d (.i .i64 (i : Int))), (0, [], .ref 0 l.length 0 l.length)]) (by kernel_rfl) ⟨by omega, by omega, rfl, trivial⟩ hr hf hN fun a1 ms1 w1 r1 e1 c1 f1 n1 d1 => ?_
  have m1 : ms1[0]? = some (some (b, l.length)) := by
    obtain ⟨_, h1, _, _, h2⟩ := c1.ob 0 (eS 14 e l) (by simp [cxOf]) rfl (by simp [eS, Ob.stamp])
    obtain rfl : _ = eS 14 e l := Option.some.inj h1.symm
    exact (h2 rfl).trans hm
  have k34 := IsV.is1 rfl (by simp) (by simp) (get_slot f1 (t := 34) (v := .ref 0 l.length (0 + 0) (i - 0)) (by simp))
  have h34 : a1.eval (.tmp 34) = .slice (some ⟨b, 0, none⟩) i l.length := by
    show a1.tmps.getD 34 undef = _
    generalize a1.tmps.getD 34 undef = v at k34
    cases k34 with
    | ref _ _ _ _ _ h =>
    obtain ⟨_, ⟨_, _, rfl⟩, _, h⟩ := h
    obtain ⟨_, h⟩ := h 14 _ rfl
    rcases h with ⟨h, _⟩ | ⟨h, _⟩ | ⟨b'', tc'', m, h1, h2⟩
    · have e : some (none : Option (Nat × Nat)) = some (some (b, l.length)) := h.symm.trans m1
      cases e
    · exact absurd rfl h
    · have e := m1.symm.trans m
      cases e
      simpa using h2
  have h39 : a1.eval (.tmp 39) = .int .i64 ((l.length + 1 - i : Nat) : Int) := by
    have := IsV.i (get_slot f1 (t := 39) (v := .d (.i .i64 (IntKind.i64.wrap (IntKind.i64.wrap ((l.length : Int) + 1) - (i : Int))))) (by simp))
    rw [hw3] at this
    exact this
  obtain ⟨arr, ty, cs, g1, g2, g3, g4, g5, g6⟩ := r1.seq (o := 0) rfl m1
  obtain ⟨info, hinf⟩ : ∃ info, Tryz.prog.info? 43 = some info := ⟨_, Option.eq_some_of_isSome (by kernel_rfl)⟩
  have hsz : info.size = 14 := by
    have : (Tryz.prog.info? 43).map (·.size) = some 14 := by kernel_rfl
    rw [hinf] at this; simpa using this
  have hby : info.bytes = 120 := by
    have : (Tryz.prog.info? 43).map (·.bytes) = some 120 := by kernel_rfl
    rw [hinf] at this; simpa using this
  obtain ⟨z, hz⟩ : ∃ z, info.zero = some z := by
    have : ((Tryz.prog.info? 43).bind (·.zero)).isSome = true := by kernel_rfl
    rw [hinf] at this
    exact Option.isSome_iff_exists.1 this
  have hzs : z.cells.size = 14 := by
    have : ((Tryz.prog.info? 43).bind (·.zero)).map (fun z => z.cells.size) = some 14 := by kernel_rfl
    rw [hinf] at this
    simpa [hz] using this
  have hzone : ∀ v ∈ z.cells.toList, v.oneCell' = true := by
    have : ((Tryz.prog.info? 43).bind (·.zero)).map (fun z => z.cells.toList.all fun v => v.oneCell') = some true := by kernel_rfl
    rw [hinf] at this
    have h : z.cells.toList.all (fun v => v.oneCell') = true := by simpa [hz] using this
    exact List.all_eq_true.1 h
  have hcsi : ∀ k, k < i → (cs k).length = 14 := fun k hk => g5 k (by omega)
  have hold : (Builtin.firstCells info.size i (.slice (some ⟨b, 0, none⟩) i l.length)).run Tryz.prog w1.drew = .ok ((List.range i).flatMap cs).toArray w1.drew := by
    rw [hsz]
    exact run_firstCells (w := w1) (w1 := w1.drew) (off := 0) (cap := l.length) rfl g1 hcsi (fun k hk j hj => by simpa using g6 k (by omega) j hj) i
  have hfit : Builtin.nextslicecap (i + (l.length + 1 - i)) l.length * info.bytes ≤ 281474976710656 := by
    have h1 := nextslicecap_le (need := i + (l.length + 1 - i)) (old := l.length) (by omega)
    rw [hby]
    omega
  have hap := Lib.run_append_grow_zeros (P := Tryz.prog) w1 37 3 (opAt (regOps R9) 8).type 43 info z .i64 .i64 Tryz.underlying37 Tryz.underlying3 hinf hz (some ⟨b, 0, none⟩) i l.length ((List.range i).flatMap cs) hold (l.length + 1 - i) (by omega) (by omega) (by omega) (by omega) (by rw [hby]; omega) hfit
  rw [show i + (l.length + 1 - i) = l.length + 1 by omega] at hap
  obtain ⟨nc, hnc⟩ : ∃ nc, nc = grownCap w1 (l.length + 1) l.length 43 := ⟨_, rfl⟩
  have hge := grownCap_ge w1 (l.length + 1) l.length 43
  rw [← hnc] at hap hge
  obtain ⟨row, hrow⟩ : ∃ row : Array Value, row = ((List.range i).flatMap cs).toArray ++ Builtin.zeroCells z.cells (l.length + 1 - i) ++ Builtin.zeroCells z.cells (nc - (l.length + 1)) := ⟨_, rfl⟩
  rw [← hrow] at hap
  have hkl := flatMap_range_length i 14 cs hcsi
  have hrs : row.size = nc * 14 := by
    rw [hrow, Array.size_append, Array.size_append, List.size_toArray, hkl, size_zeroCells, size_zeroCells, hzs]
    omega
  have hone : ∀ v ∈ row.toList, v.oneCell' = true := by
    rw [hrow]
    simp only [Array.toList_append, List.mem_append]
    rintro v ((hv | hv) | hv)
    · exact flat_one (fun k (hk : k < i) => g4 k (by omega)) v hv
    · exact zeroCells_one hzone _ v hv
    · exact zeroCells_one hzone _ v hv
  have hget : ∀ k, k < i → ∀ j, j < 14 → row[k * 14 + j]? = (cs k)[j]? := fun k hk j hj => by
    rw [hrow, ← Array.getElem?_toList]
    simp only [Array.toList_append, List.append_assoc]
    rw [List.getElem?_append_left (by rw [hkl]; omega)]
    exact flatMap_range_getElem? i 14 cs hcsi k j hk hj
  have hcl : ∀ j, j < l.length + 1 → ((row.toList.drop (j * 14)).take 14).length = 14 := fun j hj => by
    simp only [List.length_take, List.length_drop, Array.length_toList, hrs]
    omega
  obtain ⟨w2, hw⟩ : ∃ w2, w2 = w1.drew.alloc (.cells row 43) := ⟨_, rfl⟩
  rw [← hw] at hap
  have hgrow : Grow w1 w2 := by rw [hw]; exact (Grow.drew w1).trans (Grow.alloc _ _)
  have hhp : w2.heap[w1.heap.size]? = some (.cells row 43 (0, 0)) := by rw [hw]; exact heap_new w1.drew _
  have hsize : w1.heap.size < w2.heap.size := lt_of_heap hhp
  obtain ⟨q1, q2, q3⟩ := r1.push (m := some (w1.heap.size, nc)) (obj := .seq 14 (l.length + 1) (gB e l i)) hgrow (fun b tc e => by cases e; exact ⟨Nat.le_refl _, hsize⟩) (fun hcx => by
    refine .inr ⟨w1.heap.size, nc, row, 43, fun j => if j < i then cs j else (row.toList.drop (j * 14)).take 14, by simp [cxOf, ← r1.len], hhp, hge, ⟨hrs, hone⟩, fun j hj => ?_, fun j hj => ?_, fun j hj q hq => ?_⟩
    · by_cases hji : j < i
      · simp only [gB, if_pos hji]; exact (g4 j (by omega)).mono hcx
      · simp only [gB, if_neg hji, garb]
        have := garb_is (c := cxOf X (ms1 ++ [some (w1.heap.size, nc)]) ([eS 14 e l, eS 14 e [x]] ++ [.seq 14 (l.length + 1) (gB e l i)]) w2) (l := (row.toList.drop (j * 14)).take 14) fun v hv => hone v (List.mem_of_mem_drop (List.mem_of_mem_take hv))
        rw [hcl j hj] at this
        exact .agg _ _ this
    · by_cases hji : j < i
      · simp only [if_pos hji]; exact g5 j (by omega)
      · simp only [if_neg hji]; exact hcl j hj
    · by_cases hji : j < i
      · simp only [if_pos hji]; exact hget j hji q hq
      · simp only [if_neg hji]
        rw [List.getElem?_take_of_lt hq, List.getElem?_drop, Array.getElem?_toList])
  have hexec : (execOp a1.eval (opAt (regOps R9) 8)).run Tryz.prog w1 = .ok (.value (.slice (some ⟨w1.heap.size, 0, none⟩) (l.length + 1) nc)) w2 := by
    have hop : (opAt (regOps R9) 8).op = .call ⟨.builtin .append, #[.tmp 34, .tmp 39], #[37, 3]⟩ := by kernel_rfl
    generalize opAt (regOps R9) 8 = o at hop hap
    obtain ⟨dst, op, ty, pos, after, guard⟩ := o
    subst hop
    refine run_v (s := Builtin.append_ #[37, 3] ty (#[.tmp 34, .tmp 39].map a1.eval)) ?_
    have ha : (#[.tmp 34, .tmp 39] : Array Operand).map a1.eval = #[.slice (some ⟨b, 0, none⟩) i l.length, .int .i64 ((l.length + 1 - i : Nat) : Int)] := by
      simp [h34, h39]
    rw [ha]
    exact hap
  refine ops_one (o := opAt (regOps R9) 8) (by kernel_rfl) (by kernel_rfl) (OpOk.value hexec ?_)
  rw [show (opAt (regOps R9) 8).dst = some 40 by kernel_rfl]
  obtain ⟨p1, p2, p3⟩ := putG_is (dst := some 40) (ch := []) (v := .ref 2 (l.length + 1) 0 (l.length + 1)) (u := .slice (some ⟨w1.heap.size, 0, none⟩) (l.length + 1) nc) (G := (frI l.length i (.ref 0 l.length 0 l.length)).up)
    (G1 := (40, [], .ref 2 (l.length + 1) 0 (l.length + 1)) :: (frI l.length i (.ref 0 l.length 0 l.length)).up) (N := Tryz.f114.ntmps) (by kernel_rfl) n1 (fun q hq => (f1.mono q3) q (by
    simp only [frI, Fr.up, List.map_cons, List.map_nil, List.mem_cons, List.not_mem_nil, or_false] at hq
    rcases hq with rfl | rfl | rfl | rfl | rfl <;> simp)) (fun _ => ref_new r1.len hge) (fun h => absurd (fun z hz => by cases hz) h)
  refine runOps_ok (hs := []) none zn [9] _ _ ((9, [], .ref 2 (l.length + 1) 0 (l.length + 1)) :: (40, [], .ref 2 (l.length + 1) 0 (l.length + 1)) :: (frI l.length i (.ref 0 l.length 0 l.length)).up) [eS 14 e l, eS 14 e [x], .seq 14 (l.length + 1) (gB e l i)] [] _ w2 _ (by kernel_rfl) trivial q1 p1 p2 fun a2 ms2 w3 r2 e2 c2 f2 n2 d2 => ?_
  exact hQ a2 ms2 w3 r2 ((e1.trans q2).trans e2) ((c1.trans q3).trans c2) (fun q hq => f2 q (by
    rcases List.mem_cons.1 (show q ∈ (9, [], AV.ref 2 (l.length + 1) 0 (l.length + 1)) :: (frI l.length i (.ref 0 l.length 0 l.length)).up from hq) with hq | hq
    · exact List.mem_cons.2 (.inl hq)
    · exact List.mem_cons.2 (.inr (List.mem_cons.2 (.inr hq))))) n2 (d2.trans (p3.trans d1))
theorem regc {N : Nat} {Q : Post} {fr fr' fr2 : Fr} {L L' : List Ob} {id : Nat} {c : Code} {C : List Prop} (hq : c = .region id (regOps c) false) (h : regionRun Tryz.prog (regOps c) N [] fr L = some (fr', L', C)) (hc : AllP C)
    (hm : ∀ q ∈ fr2, q ∈ fr') (k : Q .normal fr2 L') : AW none Tryz.prog N c Q fr L := by
  have := gst_reg (id := id) (Q := Q) h hc hm k
  rwa [← hq] at this
theorem head (_he : ∀ x, (e x).wd = 14) {l : List α} {i : Nat} {x : α} (hi : i < l.length) (Q : Post) (h : AW none Tryz.prog Tryz.f114.ntmps (.seq (.seq R8 (.cond (.tmp 31) (.seq R9 B10) .skip)) C13) Q (frI l.length i (.ref 0 l.length 0 l.length)) [eS 14 e l, eS 14 e [x]]) :
    AW none Tryz.prog Tryz.f114.ntmps (.seq R0 (.seq R1 (.seq R2 (.seq (.seq (cL X3) (.cond (.tmp 16) (cT (cR X3)) .skip)) (.seq R5 (.seq (.seq (cL X6) (.cond (.tmp 22) (cT (cR X6)) .skip)) (.seq (.seq R8 (.cond (.tmp 31) (.seq R9 B10) .skip)) C13))))))) Q
      (argFr [.ref 0 l.length 0 l.length, .d (.i .i64 (i : Int)), .ref 1 1 0 1] 0) [eS 14 e l, eS 14 e [x]] := by
  have hne : ((i : Int) == (l.length : Int)) = false := by simp; omega
  refine aw_seq (regc (L' := [eS 14 e l, eS 14 e [x]]) (id := 0) (C := []) (fr' := (6, .full 0 fun _ => .b false) :: argFr [.ref 0 l.length 0 l.length, .d (.i .i64 (i : Int)), .ref 1 1 0 1] 0) (fr2 := argFr [.ref 0 l.length 0 l.length, .d (.i .i64 (i : Int)), .ref 1 1 0 1] 0)
    (by kernel_rfl) (by kernel_rfl) trivial (fun q hq => List.mem_cons_of_mem _ hq) ?_)
  refine aw_seq (regc (L' := [eS 14 e l, eS 14 e [x]]) (id := 1) (C := [(0 : Int) ≤ (i : Int), i ≤ l.length, l.length = l.length]) (fr' := (12, .ref 0 l.length (0 + i) (l.length - i)) :: (11, .d (.i .i64 (i : Int))) :: (10, .ref 0 l.length 0 l.length) :: argFr [.ref 0 l.length 0 l.length, .d (.i .i64 (i : Int)), .ref 1 1 0 1] 0)
    (fr2 := argFr [.ref 0 l.length 0 l.length, .d (.i .i64 (i : Int)), .ref 1 1 0 1] 0)
    (by kernel_rfl) (by kernel_rfl) ⟨by omega, by omega, rfl, trivial⟩ (fun q hq => List.mem_cons_of_mem _ (List.mem_cons_of_mem _ (List.mem_cons_of_mem _ hq))) ?_)
  refine aw_seq (regc (L' := [eS 14 e l, eS 14 e [x]]) (id := 2) (C := []) (fr' := (7, .d (.i .i64 1)) :: (14, .d (.i .i64 1)) :: (13, .ref 1 1 0 1) :: argFr [.ref 0 l.length 0 l.length, .d (.i .i64 (i : Int)), .ref 1 1 0 1] 0)
    (fr2 := [(7, .d (.i .i64 1)), (2, .ref 1 1 0 1), (1, .d (.i .i64 (i : Int))), (0, .ref 0 l.length 0 l.length)])
    (by kernel_rfl) (by kernel_rfl) trivial (fun q hq => by
      simp only [List.mem_cons, List.not_mem_nil, or_false] at hq
      simp only [argFr, List.mem_cons, List.not_mem_nil, or_false]
      rcases hq with rfl | rfl | rfl | rfl <;> simp) ?_)
  refine aw_seq (aw_seq (regc (L' := [eS 14 e l, eS 14 e [x]]) (id := 3) (C := []) (fr' := (16, .d (.b false)) :: (15, .d (.i .i64 1)) :: [(7, .d (.i .i64 1)), (2, .ref 1 1 0 1), (1, .d (.i .i64 (i : Int))), (0, .ref 0 l.length 0 l.length)])
    (fr2 := [(16, .d (.b false)), (7, .d (.i .i64 1)), (2, .ref 1 1 0 1), (1, .d (.i .i64 (i : Int))), (0, .ref 0 l.length 0 l.length)])
    (by kernel_rfl) (by kernel_rfl) trivial (fun q hq => by
      simp only [List.mem_cons, List.not_mem_nil, or_false] at hq ⊢
      rcases hq with rfl | rfl | rfl | rfl | rfl <;> simp) ?_))
  refine aw_cond (b := false) rfl (fun h => by cases h) fun _ => aw_skip ?_
  refine aw_seq (regc (L' := [eS 14 e l, eS 14 e [x]]) (id := 5) (C := []) (fr' := (8, .d (.i .i64 (l.length : Int))) :: (19, .d (.i .i64 (l.length : Int))) :: (18, .ref 0 l.length 0 l.length) :: [(16, .d (.b false)), (7, .d (.i .i64 1)), (2, .ref 1 1 0 1), (1, .d (.i .i64 (i : Int))), (0, .ref 0 l.length 0 l.length)])
    (fr2 := frI l.length i (.ref 0 l.length 0 l.length))
    (by kernel_rfl) (by kernel_rfl) trivial (fun q hq => by
      simp only [frI, List.mem_cons, List.not_mem_nil, or_false] at hq ⊢
      rcases hq with rfl | rfl | rfl | rfl | rfl <;> simp) ?_)
  refine aw_seq (aw_seq (regc (L' := [eS 14 e l, eS 14 e [x]]) (id := 6) (C := []) (fr' := (22, .d (.b ((i : Int) == (l.length : Int)))) :: (21, .d (.i .i64 (l.length : Int))) :: (20, .d (.i .i64 (i : Int))) :: frI l.length i (.ref 0 l.length 0 l.length))
    (fr2 := (22, .d (.b ((i : Int) == (l.length : Int)))) :: frI l.length i (.ref 0 l.length 0 l.length))
    (by kernel_rfl) (by kernel_rfl) trivial (fun q hq => by
      rcases List.mem_cons.1 hq with rfl | hq
      · exact List.mem_cons_self
      · exact List.mem_cons_of_mem _ (List.mem_cons_of_mem _ (List.mem_cons_of_mem _ hq))) ?_))
  refine aw_cond (b := ((i : Int) == (l.length : Int))) rfl (fun h => by rw [hne] at h; cases h) fun _ => aw_skip ?_
  exact aw_weaken h fun q hq => ⟨q.2, List.mem_cons_of_mem _ hq, LeV.refl _⟩
theorem tail8 (he : ∀ x, (e x).wd = 14) {l : List α} {i : Nat} {x : α} (hi : i < l.length) (hl : (l.length + 1) * (4 * 120) ≤ 2 ^ 48) :
    AW none Tryz.prog Tryz.f114.ntmps (.seq (.seq R8 (.cond (.tmp 31) (.seq R9 B10) .skip)) C13)
      (fun e1 fr L => FQ Tryz.prog Tryz.f114 (.ref 0 (l.length + 1) 0 (l.length + 1)) [eS 14 e (insL l i x), eS 14 e [x]] e1 fr L ∨
        FQ Tryz.prog Tryz.f114 (.ref 2 (l.length + 1) 0 (l.length + 1)) [eS 14 e l, eS 14 e [x], eS 14 e (insL l i x)] e1 fr L)
      (frI l.length i (.ref 0 l.length 0 l.length)) [eS 14 e l, eS 14 e [x]] := by
  have hn : l.length < 100000000000000 := by omega
  have hw2 : IntKind.i64.wrap ((l.length : Int) + 1) = (l.length : Int) + 1 := by rw [wrap_i64] <;> omega
  intro zn df X ms w a hr hf hN hd
  refine wpIn_seq (wpIn_seq (r8_wp (by omega) hr hf hN fun a1 ms1 w1 b tc r1 e1 c1 f1 n1 d1 m1 hle h0e h31 => ?_))
  by_cases hcap : l.length + 1 ≤ tc
  · refine wpIn_cond_false (h31.trans (by rw [hw2]; simp; omega)) (wpIn_skip ?_)
    obtain ⟨q1, q3⟩ := r1.room (o := 0) (n' := l.length + 1) rfl m1 (by omega) hcap
    refine wpIn_mono (tailC he hi hn zn df X ms1 w1 a1 q1 (fun q hq => ?_) n1 (d1.trans hd)) ?_
    · simp only [frI, Fr.up, List.map_cons, List.map_nil, List.mem_cons, List.not_mem_nil, or_false] at hq
      have f1' := f1.mono q3
      rcases hq with rfl | rfl | rfl | rfl | rfl
      · exact f1' _ (by simp [frI, Fr.up])
      · exact f1' _ (by simp [frI, Fr.up])
      · exact f1' _ (by simp [frI, Fr.up])
      · exact f1' _ (by simp [frI, Fr.up])
      · obtain ⟨s1, s2, s3⟩ := f1 (0, [], .ref 0 l.length 0 l.length) (by simp [frI, Fr.up])
        refine ⟨s1, fun _ => ?_, s3⟩
        have h0e' : a1.tmps.getD 0 undef = .slice (some ⟨b, 0, none⟩) l.length tc := h0e
        rw [h0e']
        refine .one _ _ rfl (.ref _ _ _ _ _ ⟨by simp [cxOf], ⟨_, _, rfl⟩, fun obj s ho hs => ?_, fun sz' f' hL' => ⟨by omega, .inr (.inr ⟨b, tc, m1, hcap, by simp⟩)⟩⟩)
        obtain rfl := Option.some.inj ho
        simp [Ob.stamp] at hs; omega
    · rintro e2 a2 w2 ⟨ms2, fr2, L2, hq, r2, e3, c3, f3, n3, d3⟩
      exact ⟨ms2, fr2, L2, .inl hq, r2, e1.trans e3, (c1.trans q3).trans c3, f3, n3, d3⟩
  · have htc : tc = l.length := by omega
    subst htc
    refine wpIn_cond_true (h31.trans (by rw [hw2]; simp; omega)) (wpIn_seq (r9_wp hi hl r1 f1 n1 m1 fun a2 ms2 w2 r2 e2 c2 f2 n2 d2 => ?_))
    refine wpIn_mono (tailB he hi hn zn df X ms2 w2 a2 r2 f2 n2 ((d2.trans d1).trans hd)) ?_
    rintro e3 a3 w3 ⟨ms3, fr3, L3, ⟨rfl, hq⟩, r3, e3, c3, f3, n3, d3⟩
    exact ⟨ms3, fr3, L3, .inr ⟨.inr rfl, hq⟩, r3, (e1.trans e2).trans e3, (c1.trans c2).trans c3, f3, n3, d3⟩
theorem ins_lt (he : ∀ x, (e x).wd = 14) {l : List α} {i : Nat} {x : α} (hi : i < l.length) (hl : (l.length + 1) * (4 * 120) ≤ 2 ^ 48) :
    CallOk Tryz.prog 114 [.ref 0 l.length 0 l.length, .d (.i .i64 (i : Int)), .ref 1 1 0 1] [eS 14 e l, eS 14 e [x]] (.ref 0 (l.length + 1) 0 (l.length + 1)) [eS 14 e (insL l i x), eS 14 e [x]] := by
  intro X ms w us hr hu
  have hlen := insL_length (l := l) (i := i) (x := x)
  refine (calls_or (L := [eS 14 e l, eS 14 e [x]]) (v := .ref 0 (l.length + 1) 0 (l.length + 1)) (v3 := .ref 2 (l.length + 1) 0 (l.length + 1)) Tryz.func114 ci_eq (Nat.le_of_ble_eq_true (by kernel_rfl)) (by simp) rfl (lsOk (n := 2) (L := [eS 14 e (insL l i x), eS 14 e [x]]) ⟨fun _ _ => rfl, fun _ _ => rfl, trivial⟩)
    (by simp) rfl (lsOk (n := 3) (L := [eS 14 e l, eS 14 e [x], eS 14 e (insL l i x)]) ⟨fun _ _ => rfl, fun _ _ => rfl, fun _ _ => rfl, trivial⟩) (head (x := x) he hi _ (tail8 he hi hl)) hr hu).mono fun e1 w1 h => ?_
  rcases h with h | ⟨u, ms1, rfl, h1, h2, h3, h4⟩
  · exact h
  · rw [← hlen] at h4 ⊢
    obtain ⟨ms2, k1, k2, k3, k4⟩ := third hr hlen h1 h2 h3 h4
    exact ⟨u, ms2, rfl, k1, k2, k3, k4⟩
noncomputable def sE (l : List α) (x : α) (a1 : (0 : Int) ≤ (l.length : Int)) (a2 : l.length ≤ l.length) (a3 : ((l.length : Int) == (l.length : Int)) = true)
    (hx : ∀ k, k < 1 → (AV.d (e ([x].getD k default))).wd = 14) (hs : (l.length + 1) * (2 * 120) ≤ 2 ^ 48)
    (ho : OLe (.seq 14 (l.length + 1) (catF l.length (fun j => .d (e (l.getD j default))) (fun j => .d (e ([x].getD j default))))) (eS 14 e (insL l l.length x))) : Scr Tryz.prog Unit Unit :=
  .reg 0 [] [] [] <|
  .reg 1 [] [] [.pf a1, .pf a2, .pf (Eq.refl l.length)] <|
  .reg 2 [] [] [] <|
  .reg 3 [] [] [] <|
  .br false (.pf (p := ((1 : Int) == 0) = false) (by decide)) <|
  .reg 5 [] [] [] <|
  .reg 6 [] [] [] <|
  .br true (.pf a3) <|
  .reg 7 [] [(2, { obs := [(0, eS 14 e (insL l l.length x))] })] [.pf (Eq.refl 1), .pf (Eq.refl l.length), .pf (Eq.refl l.length), .pf hx, .pf hs, .pf ho] <|
  .ret [] ()
set_option maxRecDepth 100000 in
theorem ins_eq (he : ∀ x, (e x).wd = 14) {l : List α} {x : α} (hl : (l.length + 1) * (4 * 120) ≤ 2 ^ 48) :
    CallOk Tryz.prog 114 [.ref 0 l.length 0 l.length, .d (.i .i64 (l.length : Int)), .ref 1 1 0 1] [eS 14 e l, eS 14 e [x]] (.ref 0 (l.length + 1) 0 (l.length + 1)) [eS 14 e (insL l l.length x), eS 14 e [x]] :=
  fOk (ρ := Unit) (V := fun _ => .ref 0 (l.length + 1) 0 (l.length + 1)) (Lr := fun _ => [eS 14 e (insL l l.length x), eS 14 e [x]]) (r := ())
    (s := sE (e := e) l x (by omega) (Nat.le_refl _) (by simp) (fun k _ => he _) (by omega) (by
      refine oLe_seq insL_length.symm fun j hj => ?_
      rw [insL_get (Nat.le_refl _)]
      by_cases h1 : j < l.length
      · rw [catF_lt h1, if_pos h1]
      · have h2 : j = l.length := by omega
        subst h2
        rw [catF_ge (by omega), if_neg (by omega), if_pos rfl, Nat.sub_self]
        rfl)) Tryz.func114 ci_eq (by kernel_rfl) rfl
theorem ins_ok (he : ∀ x, (e x).wd = 14) {l : List α} {i : Nat} {x : α} (hi : i ≤ l.length) (hl : (l.length + 1) * (4 * 120) ≤ 2 ^ 48) :
    CallOk Tryz.prog 114 [.ref 0 l.length 0 l.length, .d (.i .i64 (i : Int)), .ref 1 1 0 1] [eS 14 e l, eS 14 e [x]] (.ref 0 (insL l i x).length 0 (insL l i x).length) [eS 14 e (insL l i x), eS 14 e [x]] := by
  rw [insL_length]
  rcases Nat.lt_or_ge i l.length with h | h
  · exact ins_lt he h hl
  · obtain rfl : i = l.length := by omega
    exact ins_eq he hl
end
end Ins114
end Go.Proofs.YtclaojamgomjbaaGreatDoor
/- The shapes of data. No condition. -/
namespace Go.Proofs.YtclaojamgomjbaaGreatDoor
open Go Go.TA
abbrev Z0 : DV := DV.sl 0 fun _ => DV.b false
structure TTape where
  l : (List Int)
  at_ : Int
  deriving Inhabited
def TTape.e (x : TTape) : DV := .agg [(eL (DV.i .i64) x.l), (DV.i .i64 x.at_)]
structure TApiReservation where
  Number : Int
  Code : List UInt8
  Year : Int
  Day : Int
  Amount : Int
  Released : Int
  deriving Inhabited
def TApiReservation.e (x : TApiReservation) : DV := .agg [(DV.i .i64 x.Number), (DV.str x.Code), (DV.i .i64 x.Year), (DV.i .i64 x.Day), (DV.i .i64 x.Amount), (DV.i .i64 x.Released)]
structure TApiCommitment where
  Number : Int
  Reservation : Int
  Day : Int
  Amount : Int
  Released : Int
  Payee : Int
  Due : Int
  deriving Inhabited
def TApiCommitment.e (x : TApiCommitment) : DV := .agg [(DV.i .i64 x.Number), (DV.i .i64 x.Reservation), (DV.i .i64 x.Day), (DV.i .i64 x.Amount), (DV.i .i64 x.Released), (DV.i .i64 x.Payee), (DV.i .i64 x.Due)]
structure TApiVerification where
  Number : Int
  Commitment : Int
  Day : Int
  Amount : Int
  deriving Inhabited
def TApiVerification.e (x : TApiVerification) : DV := .agg [(DV.i .i64 x.Number), (DV.i .i64 x.Commitment), (DV.i .i64 x.Day), (DV.i .i64 x.Amount)]
structure TApiOrder where
  Number : Int
  Verification : Int
  Attempt : Int
  Day : Int
  Back : Bool
  deriving Inhabited
def TApiOrder.e (x : TApiOrder) : DV := .agg [(DV.i .i64 x.Number), (DV.i .i64 x.Verification), (DV.i .i64 x.Attempt), (DV.i .i64 x.Day), (DV.b x.Back)]
structure TApiBook where
  Reservations : (List TApiReservation)
  Commitments : (List TApiCommitment)
  Verifications : (List TApiVerification)
  Orders : (List TApiOrder)
  deriving Inhabited
def TApiBook.e (x : TApiBook) : DV := .agg [(eL TApiReservation.e x.Reservations), (eL TApiCommitment.e x.Commitments), (eL TApiVerification.e x.Verifications), (eL TApiOrder.e x.Orders)]
structure TApiRight where
  Code : List UInt8
  Year : Int
  Granted : Int
  Asked : Int
  Returned : Int
  deriving Inhabited
def TApiRight.e (x : TApiRight) : DV := .agg [(DV.str x.Code), (DV.i .i64 x.Year), (DV.i .i64 x.Granted), (DV.i .i64 x.Asked), (DV.i .i64 x.Returned)]
structure TApiOffice where
  Number : Int
  Rights : (List TApiRight)
  Book : TApiBook
  deriving Inhabited
def TApiOffice.e (x : TApiOffice) : DV := .agg [(DV.i .i64 x.Number), (eL TApiRight.e x.Rights), (TApiBook.e x.Book)]
structure TApiPot where
  Code : List UInt8
  Year : Int
  Total : Int
  Granted : (List Int)
  Heard : (List Int)
  Asked : (List Int)
  Used : (List Int)
  deriving Inhabited
def TApiPot.e (x : TApiPot) : DV := .agg [(DV.str x.Code), (DV.i .i64 x.Year), (DV.i .i64 x.Total), (eL (DV.i .i64) x.Granted), (eL (DV.i .i64) x.Heard), (eL (DV.i .i64) x.Asked), (eL (DV.i .i64) x.Used)]
structure TApiWarrant where
  Number : Int
  Office : Int
  Code : List UInt8
  Year : Int
  Verification : Int
  Attempt : Int
  Commitment : Int
  Reservation : Int
  Amount : Int
  Payee : Int
  Day : Int
  Due : Int
  First : Int
  Second : Int
  deriving Inhabited
def TApiWarrant.e (x : TApiWarrant) : DV := .agg [(DV.i .i64 x.Number), (DV.i .i64 x.Office), (DV.str x.Code), (DV.i .i64 x.Year), (DV.i .i64 x.Verification), (DV.i .i64 x.Attempt), (DV.i .i64 x.Commitment), (DV.i .i64 x.Reservation), (DV.i .i64 x.Amount), (DV.i .i64 x.Payee), (DV.i .i64 x.Day), (DV.i .i64 x.Due), (DV.i .u64 x.First), (DV.i .u64 x.Second)]
structure TTreasurymakeCase where
  Keys : (List Int)
  Office : TApiOffice
  Pot : TApiPot
  Paid : (List TApiWarrant)
  Day : Int
  deriving Inhabited
def TTreasurymakeCase.e (x : TTreasurymakeCase) : DV := .agg [(eL (DV.i .u64) x.Keys), (TApiOffice.e x.Office), (TApiPot.e x.Pot), (eL TApiWarrant.e x.Paid), (DV.i .i64 x.Day)]
structure TApiOp where
  Kind : Int
  Code : List UInt8
  Year : Int
  Day : Int
  Of : Int
  Amount : Int
  Payee : Int
  Due : Int
  Granted : Int
  AskedBack : Int
  deriving Inhabited
def TApiOp.e (x : TApiOp) : DV := .agg [(DV.i .i64 x.Kind), (DV.str x.Code), (DV.i .i64 x.Year), (DV.i .i64 x.Day), (DV.i .i64 x.Of), (DV.i .i64 x.Amount), (DV.i .i64 x.Payee), (DV.i .i64 x.Due), (DV.i .i64 x.Granted), (DV.i .i64 x.AskedBack)]
structure TApiMessage where
  From : Int
  To : Int
  Code : List UInt8
  Year : Int
  Granted : Int
  Asked : Int
  Returned : Int
  Used : Int
  deriving Inhabited
def TApiMessage.e (x : TApiMessage) : DV := .agg [(DV.i .i64 x.From), (DV.i .i64 x.To), (DV.str x.Code), (DV.i .i64 x.Year), (DV.i .i64 x.Granted), (DV.i .i64 x.Asked), (DV.i .i64 x.Returned), (DV.i .i64 x.Used)]
structure TApiCheck where
  Kind : Int
  Errs : Int
  deriving Inhabited
def TApiCheck.e (x : TApiCheck) : DV := .agg [(DV.i .i64 x.Kind), (DV.i .i64 x.Errs)]
structure TControlChain where
  order : TApiOrder
  verification : TApiVerification
  commitment : TApiCommitment
  reservation : TApiReservation
  deriving Inhabited
def TControlChain.e (x : TControlChain) : DV := .agg [(TApiOrder.e x.order), (TApiVerification.e x.verification), (TApiCommitment.e x.commitment), (TApiReservation.e x.reservation)]
structure TApiTreasury where
  Offices : Int
  Pots : (List TApiPot)
  deriving Inhabited
def TApiTreasury.e (x : TApiTreasury) : DV := .agg [(DV.i .i64 x.Offices), (eL TApiPot.e x.Pots)]
structure TApiHeading where
  Code : List UInt8
  Name : List UInt8
  deriving Inhabited
def TApiHeading.e (x : TApiHeading) : DV := .agg [(DV.str x.Code), (DV.str x.Name)]
abbrev ck1 (k e : Int) : List TApiCheck := [⟨k, e⟩]
end Go.Proofs.YtclaojamgomjbaaGreatDoor
/- What the functions compute, and that their calls return it. No condition. -/
namespace Go.Proofs.YtclaojamgomjbaaGreatDoor
open Go Go.TA
noncomputable section
set_option maxRecDepth 100000
abbrev R_mk_New := TTape
def V_mk_New (_ : R_mk_New) : AV := (vp 0)
def L_mk_New (x : R_mk_New) : List Ob := [(bx (TTape.e x))]
def S_mk_New (a0 : (List Int)) : Scr Tryz.prog R_mk_New R_mk_New :=
.guard [(0 : Int) ≤ (if 500 < (a0.length : Int) then 500 else (a0.length : Int)), ((if 500 < (a0.length : Int) then 500 else (a0.length : Int))).toNat ≤ a0.length] <|
.reg 1 [] [(4, hv (vl (a0.take (((if 500 < (a0.length : Int) then 500 else (a0.length : Int))).toNat))))] [.ev 0, .ev 1, .der (fun (h0 : ((if 500 < (a0.length : Int) then 500 else (a0.length : Int))).toNat ≤ a0.length) => lvT (DV.i .i64) a0 h0) 1] <|
.ret [] (⟨(a0.take (((if 500 < (a0.length : Int) then 500 else (a0.length : Int))).toNat)), 0⟩ : TTape)
def F_mk_New (a0 : (List Int)) : Option R_mk_New := (S_mk_New a0).den
theorem F_mk_New_ok {a0 : (List Int)} (r : R_mk_New) (h : F_mk_New a0 = some r) : CallOk Tryz.prog 8 [(vl a0)] [] (V_mk_New r) (L_mk_New r) := fOk (s := S_mk_New a0) Tryz.func8 rfl (by kernel_rfl) h
abbrev R_mk_Tape_N := Int × TTape
def V_mk_Tape_N (x : R_mk_Tape_N) : AV := (vi x.1)
def L_mk_Tape_N (x : R_mk_Tape_N) : List Ob := [(bx (TTape.e x.2))]
def S_mk_Tape_N (a1 : Int) (p0 : TTape) : Scr Tryz.prog R_mk_Tape_N R_mk_Tape_N :=
.ite (decide (p0.at_ ≥ (p0.l.length : Int))) (
.ret [] (0, p0)) (
.guard [(0 : Int) ≤ p0.at_, (p0.at_).toNat < p0.l.length, (a1 : Int) ≠ 0] <|
.reg 3 [] [] [.ev 0, .ev 1, .ev 2] <|
.ite (decide (((p0.l.getD ((p0.at_).toNat) default).tmod a1) < 0)) (
.ret [] ((IntKind.i64.wrap (((p0.l.getD ((p0.at_).toNat) default).tmod a1) + a1)), (⟨p0.l, (IntKind.i64.wrap (p0.at_ + 1))⟩ : TTape))) (
.ret [] (((p0.l.getD ((p0.at_).toNat) default).tmod a1), (⟨p0.l, (IntKind.i64.wrap (p0.at_ + 1))⟩ : TTape))))
def F_mk_Tape_N (a1 : Int) (p0 : TTape) : Option R_mk_Tape_N := (S_mk_Tape_N a1 p0).den
theorem F_mk_Tape_N_ok {a1 : Int} {p0 : TTape} (r : R_mk_Tape_N) (h : F_mk_Tape_N a1 p0 = some r) : CallOk Tryz.prog 14 [(vp 0), (vi a1)] [(bx (TTape.e p0))] (V_mk_Tape_N r) (L_mk_Tape_N r) := fOk (s := S_mk_Tape_N a1 p0) Tryz.func14 rfl (by kernel_rfl) h
abbrev R_mk_Tape_Range := Int × TTape
def V_mk_Tape_Range (x : R_mk_Tape_Range) : AV := (vi x.1)
def L_mk_Tape_Range (x : R_mk_Tape_Range) : List Ob := [(bx (TTape.e x.2))]
def S_mk_Tape_Range (a1 : Int) (a2 : Int) (p0 : TTape) : Scr Tryz.prog R_mk_Tape_Range R_mk_Tape_Range :=
.call (@F_mk_Tape_N_ok (IntKind.i64.wrap ((IntKind.i64.wrap (a2 - a1)) + 1)) p0) fun r3 c3 =>
.reg 1 [] [(6, hc c3 [0] false)] [.cl 0 c3 [0] 1 false] <|
.ret [] ((IntKind.i64.wrap (a1 + r3.1)), r3.2)
def F_mk_Tape_Range (a1 : Int) (a2 : Int) (p0 : TTape) : Option R_mk_Tape_Range := (S_mk_Tape_Range a1 a2 p0).den
theorem F_mk_Tape_Range_ok {a1 : Int} {a2 : Int} {p0 : TTape} (r : R_mk_Tape_Range) (h : F_mk_Tape_Range a1 a2 p0 = some r) : CallOk Tryz.prog 22 [(vp 0), (vi a1), (vi a2)] [(bx (TTape.e p0))] (V_mk_Tape_Range r) (L_mk_Tape_Range r) := fOk (s := S_mk_Tape_Range a1 a2 p0) Tryz.func22 rfl (by kernel_rfl) h
theorem cz1 : OLe (bx (DV.agg [(DV.i .i64 0), Z0, (DV.agg [Z0, Z0, Z0, Z0])])) (bx (TApiOffice.e (⟨0, [], (⟨[], [], [], []⟩ : TApiBook)⟩ : TApiOffice))) := oLe_box (DLe.agg (DLeL.cons (DLe.refl _) (DLeL.cons DLe.sl0 (DLeL.cons (DLe.agg (DLeL.cons DLe.sl0 (DLeL.cons DLe.sl0 (DLeL.cons DLe.sl0 (DLeL.cons DLe.sl0 DLeL.nil))))) DLeL.nil))))
theorem cz2 : LeV (AV.d (DV.agg [(DV.i .i64 0), Z0, (DV.agg [Z0, Z0, Z0, Z0])])) (AV.d (TApiOffice.e (⟨0, [], (⟨[], [], [], []⟩ : TApiBook)⟩ : TApiOffice))) := leV_dle rfl (DLe.agg (DLeL.cons (DLe.refl _) (DLeL.cons DLe.sl0 (DLeL.cons (DLe.agg (DLeL.cons DLe.sl0 (DLeL.cons DLe.sl0 (DLeL.cons DLe.sl0 (DLeL.cons DLe.sl0 DLeL.nil))))) DLeL.nil))))
abbrev R_r15_New := TApiOffice × Int
def V_r15_New (x : R_r15_New) : AV := (AV.tup [(AV.d (TApiOffice.e x.1)), (vi x.2)])
def L_r15_New (_ : R_r15_New) : List Ob := []
def S_r15_New (a0 : Int) : Scr Tryz.prog R_r15_New R_r15_New :=
.reg 0 [] [(0, { obs := [(0, (bx (TApiOffice.e (⟨0, [], (⟨[], [], [], []⟩ : TApiBook)⟩ : TApiOffice))))] })] [.pf cz1] <|
.ite (bif (decide (a0 < 1)) then true else (decide (a0 > 6))) (
.reg 2 [] [(0, hv (AV.d (TApiOffice.e (⟨0, [], (⟨[], [], [], []⟩ : TApiBook)⟩ : TApiOffice))))] [.pf cz2] <|
.ret [] ((⟨0, [], (⟨[], [], [], []⟩ : TApiBook)⟩ : TApiOffice), 2)) (
.reg 3 [] [(1, hv (AV.d (TApiOffice.e (⟨a0, [], (⟨[], [], [], []⟩ : TApiBook)⟩ : TApiOffice))))] [.pf (p := LeV (AV.d (DV.agg [(DV.i .i64 a0), Z0, (DV.agg [Z0, Z0, Z0, Z0])])) (AV.d (TApiOffice.e (⟨a0, [], (⟨[], [], [], []⟩ : TApiBook)⟩ : TApiOffice)))) (leV_dle rfl (DLe.agg (DLeL.cons (DLe.refl _) (DLeL.cons DLe.sl0 (DLeL.cons (DLe.agg (DLeL.cons DLe.sl0 (DLeL.cons DLe.sl0 (DLeL.cons DLe.sl0 (DLeL.cons DLe.sl0 DLeL.nil))))) DLeL.nil)))))] <|
.ret [] ((⟨a0, [], (⟨[], [], [], []⟩ : TApiBook)⟩ : TApiOffice), 0))
def F_r15_New (a0 : Int) : Option R_r15_New := (S_r15_New a0).den
theorem F_r15_New_ok {a0 : Int} (r : R_r15_New) (h : F_r15_New a0 = some r) : CallOk Tryz.prog 89 [(vi a0)] [] (V_r15_New r) (L_r15_New r) := fOk (s := S_r15_New a0) Tryz.func89 rfl (by kernel_rfl) h
abbrev R_mk_Tape_Pick := Int × TTape
def V_mk_Tape_Pick (x : R_mk_Tape_Pick) : AV := (vi x.1)
def L_mk_Tape_Pick (x : R_mk_Tape_Pick) : List Ob := [(bx (TTape.e x.2))]
def S_mk_Tape_Pick (a1 : (List Int)) (p0 : TTape) : Scr Tryz.prog R_mk_Tape_Pick R_mk_Tape_Pick :=
.call (@F_mk_Tape_N_ok (a1.length : Int) p0) fun rv1 cv1 =>
.guard [(0 : Int) ≤ rv1.1, (rv1.1).toNat < a1.length] <|
.reg 1 [] [(4, hc cv1 [0] false)] [.cl 2 cv1 [0] 1 false, .ev 0, .ev 1] <|
.ret [] ((a1.getD ((rv1.1).toNat) default), rv1.2)
def F_mk_Tape_Pick (a1 : (List Int)) (p0 : TTape) : Option R_mk_Tape_Pick := (S_mk_Tape_Pick a1 p0).den
theorem F_mk_Tape_Pick_ok {a1 : (List Int)} {p0 : TTape} (r : R_mk_Tape_Pick) (h : F_mk_Tape_Pick a1 p0 = some r) : CallOk Tryz.prog 37 [(vp 0), (vl a1)] [(bx (TTape.e p0))] (V_mk_Tape_Pick r) (L_mk_Tape_Pick r) := fOk (s := S_mk_Tape_Pick a1 p0) Tryz.func37 rfl (by kernel_rfl) h
abbrev R_r03_Good := Bool
def V_r03_Good (x : R_r03_Good) : AV := (vb x)
def L_r03_Good (_ : R_r03_Good) : List Ob := []
def S_r03_Good_b1 (a0 : List UInt8) (sv1 : Int × Int × Int) : Scr Tryz.prog R_r03_Good (Step (Int × Int × Int) R_r03_Good) :=
.ite (decide (sv1.2.2 < (a0.length : Int))) (
.guard [(0 : Int) ≤ sv1.2.2, (sv1.2.2).toNat < a0.length] <|
.reg 6 [] [] [.ev 0, .ev 1] <|
.ite (((a0.getD ((sv1.2.2).toNat) 0).toNat : Int) == 46) (
.ite (sv1.1 == 0) (
.ret [] (.ret false)) (
.ret [] (.cont (0, (IntKind.i64.wrap (sv1.2.1 + 1)), (IntKind.i64.wrap (sv1.2.2 + 1)))))) (
.guard [AllP [(decide (((a0.getD ((sv1.2.2).toNat) 0).toNat : Int) < 48)) = false] → ((0 : Int) ≤ sv1.2.2), AllP [(decide (((a0.getD ((sv1.2.2).toNat) 0).toNat : Int) < 48)) = false] → ((sv1.2.2).toNat < a0.length), AllP [(sv1.1 == 0) = true, (bif (decide (((a0.getD ((sv1.2.2).toNat) 0).toNat : Int) < 48)) then true else (decide (((a0.getD ((sv1.2.2).toNat) 0).toNat : Int) > 57))) = false] → ((0 : Int) ≤ sv1.2.2), AllP [(sv1.1 == 0) = true, (bif (decide (((a0.getD ((sv1.2.2).toNat) 0).toNat : Int) < 48)) then true else (decide (((a0.getD ((sv1.2.2).toNat) 0).toNat : Int) > 57))) = false] → ((sv1.2.2).toNat < a0.length)] <|
.reg 11 [] [] [.ev 5, .ev 6, .ev 0, .ev 1, .ev 2, .ev 3] <|
.ite (bif (bif (bif (decide (((a0.getD ((sv1.2.2).toNat) 0).toNat : Int) < 48)) then true else (decide (((a0.getD ((sv1.2.2).toNat) 0).toNat : Int) > 57))) then true else (bif (sv1.1 == 0) then (((a0.getD ((sv1.2.2).toNat) 0).toNat : Int) == 48) else false)) then true else (sv1.1 == 2)) (
.ret [] (.ret false)) (
.ret [] (.cont ((IntKind.i64.wrap (sv1.1 + 1)), sv1.2.1, (IntKind.i64.wrap (sv1.2.2 + 1))))))) (
.ret [] (.brk (sv1.1, sv1.2.1, sv1.2.2)))
def S_r03_Good (a0 : List UInt8) : Scr Tryz.prog R_r03_Good R_r03_Good :=
.iter [0] (fun (sv1 : Int × Int × Int) => [(3, (vi sv1.1)), (4, (vi sv1.2.1)), (5, (vi sv1.2.2))]) (fun (_ : Int × Int × Int) => []) (0, 1, 0) (S_r03_Good_b1 a0) (fun (sv1 : Int × Int × Int) =>
.ret [] (bif (decide (sv1.1 > 0)) then (decide (sv1.2.1 ≤ 4)) else false)) id
def F_r03_Good (a0 : List UInt8) : Option R_r03_Good := (S_r03_Good a0).den
theorem F_r03_Good_ok {a0 : List UInt8} (r : R_r03_Good) (h : F_r03_Good a0 = some r) : CallOk Tryz.prog 91 [(AV.d (DV.str a0))] [] (V_r03_Good r) (L_r03_Good r) := fOk (s := S_r03_Good a0) Tryz.func91 rfl (by kernel_rfl) h
abbrev R_r14_day := Bool
def V_r14_day (x : R_r14_day) : AV := (vb x)
def L_r14_day (_ : R_r14_day) : List Ob := []
def S_r14_day (a0 : Int) : Scr Tryz.prog R_r14_day R_r14_day :=
.ret [] (bif (decide (a0 ≥ 0)) then (decide (a0 ≤ 35990)) else false)
def F_r14_day (a0 : Int) : Option R_r14_day := (S_r14_day a0).den
theorem F_r14_day_ok {a0 : Int} (r : R_r14_day) (h : F_r14_day a0 = some r) : CallOk Tryz.prog 118 [(vi a0)] [] (V_r14_day r) (L_r14_day r) := fOk (s := S_r14_day a0) Tryz.func118 rfl (by kernel_rfl) h
abbrev R_r02_Valid := Bool
def V_r02_Valid (x : R_r02_Valid) : AV := (vb x)
def L_r02_Valid (_ : R_r02_Valid) : List Ob := []
def S_r02_Valid (a0 : Int) : Scr Tryz.prog R_r02_Valid R_r02_Valid :=
.ret [] (bif (decide (a0 ≥ 0)) then (decide (a0 ≤ 36000)) else false)
def F_r02_Valid (a0 : Int) : Option R_r02_Valid := (S_r02_Valid a0).den
theorem F_r02_Valid_ok {a0 : Int} (r : R_r02_Valid) (h : F_r02_Valid a0 = some r) : CallOk Tryz.prog 41 [(vi a0)] [] (V_r02_Valid r) (L_r02_Valid r) := fOk (s := S_r02_Valid a0) Tryz.func41 rfl (by kernel_rfl) h
abbrev R_r02_Year := Int
def V_r02_Year (x : R_r02_Year) : AV := (vi x)
def L_r02_Year (_ : R_r02_Year) : List Ob := []
def S_r02_Year (a0 : Int) : Scr Tryz.prog R_r02_Year R_r02_Year :=
.call (@F_r02_Valid_ok a0) fun rv1 cv1 =>
.reg 1 [] [(1, hc cv1 [] true)] [.cl 0 cv1 [] 0 true] <|
.ite (!rv1) (
.ret [] (-1)) (
.reg 3 [] [] [.pf (p := (360 : Int) ≠ 0) (by decide)] <|
.ret [] (IntKind.i64.wrap (a0.tdiv 360)))
def F_r02_Year (a0 : Int) : Option R_r02_Year := (S_r02_Year a0).den
theorem F_r02_Year_ok {a0 : Int} (r : R_r02_Year) (h : F_r02_Year a0 = some r) : CallOk Tryz.prog 42 [(vi a0)] [] (V_r02_Year r) (L_r02_Year r) := fOk (s := S_r02_Year a0) Tryz.func42 rfl (by kernel_rfl) h
abbrev R_r14_amount := Bool
def V_r14_amount (x : R_r14_amount) : AV := (vb x)
def L_r14_amount (_ : R_r14_amount) : List Ob := []
def S_r14_amount (a0 : Int) : Scr Tryz.prog R_r14_amount R_r14_amount :=
.ret [] (bif (decide (a0 ≥ 1)) then (decide (a0 ≤ 1000000000000)) else false)
def F_r14_amount (a0 : Int) : Option R_r14_amount := (S_r14_amount a0).den
theorem F_r14_amount_ok {a0 : Int} (r : R_r14_amount) (h : F_r14_amount a0 = some r) : CallOk Tryz.prog 119 [(vi a0)] [] (V_r14_amount r) (L_r14_amount r) := fOk (s := S_r14_amount a0) Tryz.func119 rfl (by kernel_rfl) h
abbrev R_r14_reservations := Bool
def V_r14_reservations (x : R_r14_reservations) : AV := (vb x)
def L_r14_reservations (_ : R_r14_reservations) : List Ob := []
def S_r14_reservations_b1 (a0 : TApiBook) (iv1 : Nat) (_ : Unit) : Scr Tryz.prog R_r14_reservations (Step (Unit) R_r14_reservations) :=
.reg 3 [] [] [.pf (nn iv1), .ev 0] <|
.calld [(((a0.Reservations.getD iv1 default).Number) != (IntKind.i64.wrap ((iv1 : Int) + 1))) = false] default (@F_r03_Good_ok ((a0.Reservations.getD iv1 default).Code)) fun rv2 cv2 =>
.calld [(bif (bif (bif (((a0.Reservations.getD iv1 default).Number) != (IntKind.i64.wrap ((iv1 : Int) + 1))) then true else (!rv2)) then true else (decide (((a0.Reservations.getD iv1 default).Year) < 0))) then true else (decide (((a0.Reservations.getD iv1 default).Year) > 99))) = false] default (@F_r14_day_ok ((a0.Reservations.getD iv1 default).Day)) fun rv3 cv3 =>
.calld [(bif (bif (bif (bif (((a0.Reservations.getD iv1 default).Number) != (IntKind.i64.wrap ((iv1 : Int) + 1))) then true else (!rv2)) then true else (decide (((a0.Reservations.getD iv1 default).Year) < 0))) then true else (decide (((a0.Reservations.getD iv1 default).Year) > 99))) then true else (!rv3)) = false] default (@F_r02_Year_ok ((a0.Reservations.getD iv1 default).Day)) fun rv4 cv4 =>
.calld [(bif (bif (bif (bif (bif (((a0.Reservations.getD iv1 default).Number) != (IntKind.i64.wrap ((iv1 : Int) + 1))) then true else (!rv2)) then true else (decide (((a0.Reservations.getD iv1 default).Year) < 0))) then true else (decide (((a0.Reservations.getD iv1 default).Year) > 99))) then true else (!rv3)) then true else (rv4 != ((a0.Reservations.getD iv1 default).Year))) = false] default (@F_r14_amount_ok ((a0.Reservations.getD iv1 default).Amount)) fun rv5 cv5 =>
.reg 4 [] [(8, hc cv2 [] true), (24, hc cv3 [] true), (30, hc cv4 [] true), (38, hc cv5 [] true)] [.clg 6 [(((a0.Reservations.getD iv1 default).Number) != (IntKind.i64.wrap ((iv1 : Int) + 1))) = false] cv2 [] 2 true, .clg 4 [(bif (bif (bif (((a0.Reservations.getD iv1 default).Number) != (IntKind.i64.wrap ((iv1 : Int) + 1))) then true else (!rv2)) then true else (decide (((a0.Reservations.getD iv1 default).Year) < 0))) then true else (decide (((a0.Reservations.getD iv1 default).Year) > 99))) = false] cv3 [] 2 true, .clg 2 [(bif (bif (bif (bif (((a0.Reservations.getD iv1 default).Number) != (IntKind.i64.wrap ((iv1 : Int) + 1))) then true else (!rv2)) then true else (decide (((a0.Reservations.getD iv1 default).Year) < 0))) then true else (decide (((a0.Reservations.getD iv1 default).Year) > 99))) then true else (!rv3)) = false] cv4 [] 2 true, .clg 0 [(bif (bif (bif (bif (bif (((a0.Reservations.getD iv1 default).Number) != (IntKind.i64.wrap ((iv1 : Int) + 1))) then true else (!rv2)) then true else (decide (((a0.Reservations.getD iv1 default).Year) < 0))) then true else (decide (((a0.Reservations.getD iv1 default).Year) > 99))) then true else (!rv3)) then true else (rv4 != ((a0.Reservations.getD iv1 default).Year))) = false] cv5 [] 2 true] <|
.ite (bif (bif (bif (bif (bif (bif (bif (bif (((a0.Reservations.getD iv1 default).Number) != (IntKind.i64.wrap ((iv1 : Int) + 1))) then true else (!rv2)) then true else (decide (((a0.Reservations.getD iv1 default).Year) < 0))) then true else (decide (((a0.Reservations.getD iv1 default).Year) > 99))) then true else (!rv3)) then true else (rv4 != ((a0.Reservations.getD iv1 default).Year))) then true else (!rv5)) then true else (decide (((a0.Reservations.getD iv1 default).Released) < 0))) then true else (decide (((a0.Reservations.getD iv1 default).Released) > ((a0.Reservations.getD iv1 default).Amount)))) (
.ret [] (.ret false)) (
.ret [] (.cont ()))
def S_r14_reservations (a0 : TApiBook) : Scr Tryz.prog R_r14_reservations R_r14_reservations :=
.range (a0.Reservations.length : Int) a0.Reservations.length rfl (.slot 6) 8 [6, 7] (fun (_ : Unit) => []) (fun (_ : Unit) => []) () (S_r14_reservations_b1 a0) (fun (_ : Unit) => 
.ret [] true) id
def F_r14_reservations (a0 : TApiBook) : Option R_r14_reservations := (S_r14_reservations a0).den
theorem F_r14_reservations_ok {a0 : TApiBook} (r : R_r14_reservations) (h : F_r14_reservations a0 = some r) : CallOk Tryz.prog 140 [(AV.d (TApiBook.e a0))] [] (V_r14_reservations r) (L_r14_reservations r) := fOk (s := S_r14_reservations a0) Tryz.func140 rfl (by kernel_rfl) h
abbrev R_r14_Left := Int
def V_r14_Left (x : R_r14_Left) : AV := (vi x)
def L_r14_Left (_ : R_r14_Left) : List Ob := []
def S_r14_Left_b1 (a0 : TApiBook) (a1 : Int) (iv1 : Nat) (sv2 : Int) : Scr Tryz.prog R_r14_Left (Step (Int) R_r14_Left) :=
.reg 8 [] [] [.pf (nn iv1), .ev 0] <|
.ite (((a0.Commitments.getD iv1 default).Reservation) == a1) (
.ret [] (.cont (IntKind.i64.wrap (sv2 - ((a0.Commitments.getD iv1 default).Amount))))) (
.ret [] (.cont sv2))
def S_r14_Left_b2 (a0 : TApiBook) (a1 : Int) (iv3 : Nat) (_ : Unit) : Scr Tryz.prog R_r14_Left (Step (Unit) R_r14_Left) :=
.reg 3 [] [] [.pf (nn iv3), .ev 0] <|
.ite (((a0.Reservations.getD iv3 default).Number) == a1) (
.range (a0.Commitments.length : Int) a0.Commitments.length rfl (.slot 27) 29 [1, 27, 28] (fun (sv2 : Int) => [(7, (vi sv2))]) (fun (_ : Int) => []) (IntKind.i64.wrap (((a0.Reservations.getD iv3 default).Amount) - ((a0.Reservations.getD iv3 default).Released))) (S_r14_Left_b1 a0 a1) (fun (sv2 : Int) => 
.ret [] (.ret sv2)) .ret) (
.ret [] (.cont ()))
def S_r14_Left (a0 : TApiBook) (a1 : Int) : Scr Tryz.prog R_r14_Left R_r14_Left :=
.range (a0.Reservations.length : Int) a0.Reservations.length rfl (.slot 11) 13 [1, 2, 11, 12] (fun (_ : Unit) => []) (fun (_ : Unit) => []) () (S_r14_Left_b2 a0 a1) (fun (_ : Unit) => 
.ret [] 0) id
def F_r14_Left (a0 : TApiBook) (a1 : Int) : Option R_r14_Left := (S_r14_Left a0 a1).den
theorem F_r14_Left_ok {a0 : TApiBook} {a1 : Int} (r : R_r14_Left) (h : F_r14_Left a0 a1 = some r) : CallOk Tryz.prog 122 [(AV.d (TApiBook.e a0)), (vi a1)] [] (V_r14_Left r) (L_r14_Left r) := fOk (s := S_r14_Left a0 a1) Tryz.func122 rfl (by kernel_rfl) h
abbrev R_r14_commitments := Bool
def V_r14_commitments (x : R_r14_commitments) : AV := (vb x)
def L_r14_commitments (_ : R_r14_commitments) : List Ob := []
def S_r14_commitments_b1 (a0 : TApiBook) (iv1 : Nat) (_ : Unit) : Scr Tryz.prog R_r14_commitments (Step (Unit) R_r14_commitments) :=
.reg 3 [] [] [.pf (nn iv1), .ev 0] <|
.calld [(bif (bif (((a0.Commitments.getD iv1 default).Number) != (IntKind.i64.wrap ((iv1 : Int) + 1))) then true else (decide (((a0.Commitments.getD iv1 default).Reservation) < 1))) then true else (decide (((a0.Commitments.getD iv1 default).Reservation) > (a0.Reservations.length : Int)))) = false] default (@F_r14_day_ok ((a0.Commitments.getD iv1 default).Day)) fun rv2 cv2 =>
.calld [(bif (bif (bif (((a0.Commitments.getD iv1 default).Number) != (IntKind.i64.wrap ((iv1 : Int) + 1))) then true else (decide (((a0.Commitments.getD iv1 default).Reservation) < 1))) then true else (decide (((a0.Commitments.getD iv1 default).Reservation) > (a0.Reservations.length : Int)))) then true else (!rv2)) = false] default (@F_r14_amount_ok ((a0.Commitments.getD iv1 default).Amount)) fun rv3 cv3 =>
.calld [(bif (bif (bif (bif (bif (bif (bif (bif (((a0.Commitments.getD iv1 default).Number) != (IntKind.i64.wrap ((iv1 : Int) + 1))) then true else (decide (((a0.Commitments.getD iv1 default).Reservation) < 1))) then true else (decide (((a0.Commitments.getD iv1 default).Reservation) > (a0.Reservations.length : Int)))) then true else (!rv2)) then true else (!rv3)) then true else (decide (((a0.Commitments.getD iv1 default).Released) < 0))) then true else (decide (((a0.Commitments.getD iv1 default).Released) > ((a0.Commitments.getD iv1 default).Amount)))) then true else (decide (((a0.Commitments.getD iv1 default).Payee) < 1))) then true else (decide (((a0.Commitments.getD iv1 default).Payee) > 1000000))) = false] default (@F_r14_day_ok ((a0.Commitments.getD iv1 default).Due)) fun rv4 cv4 =>
.reg 4 [] [(21, hc cv2 [] true), (27, hc cv3 [] true), (55, hc cv4 [] true)] [.clg 4 [(bif (bif (((a0.Commitments.getD iv1 default).Number) != (IntKind.i64.wrap ((iv1 : Int) + 1))) then true else (decide (((a0.Commitments.getD iv1 default).Reservation) < 1))) then true else (decide (((a0.Commitments.getD iv1 default).Reservation) > (a0.Reservations.length : Int)))) = false] cv2 [] 2 true, .clg 2 [(bif (bif (bif (((a0.Commitments.getD iv1 default).Number) != (IntKind.i64.wrap ((iv1 : Int) + 1))) then true else (decide (((a0.Commitments.getD iv1 default).Reservation) < 1))) then true else (decide (((a0.Commitments.getD iv1 default).Reservation) > (a0.Reservations.length : Int)))) then true else (!rv2)) = false] cv3 [] 2 true, .clg 0 [(bif (bif (bif (bif (bif (bif (bif (bif (((a0.Commitments.getD iv1 default).Number) != (IntKind.i64.wrap ((iv1 : Int) + 1))) then true else (decide (((a0.Commitments.getD iv1 default).Reservation) < 1))) then true else (decide (((a0.Commitments.getD iv1 default).Reservation) > (a0.Reservations.length : Int)))) then true else (!rv2)) then true else (!rv3)) then true else (decide (((a0.Commitments.getD iv1 default).Released) < 0))) then true else (decide (((a0.Commitments.getD iv1 default).Released) > ((a0.Commitments.getD iv1 default).Amount)))) then true else (decide (((a0.Commitments.getD iv1 default).Payee) < 1))) then true else (decide (((a0.Commitments.getD iv1 default).Payee) > 1000000))) = false] cv4 [] 2 true] <|
.ite (bif (bif (bif (bif (bif (bif (bif (bif (bif (((a0.Commitments.getD iv1 default).Number) != (IntKind.i64.wrap ((iv1 : Int) + 1))) then true else (decide (((a0.Commitments.getD iv1 default).Reservation) < 1))) then true else (decide (((a0.Commitments.getD iv1 default).Reservation) > (a0.Reservations.length : Int)))) then true else (!rv2)) then true else (!rv3)) then true else (decide (((a0.Commitments.getD iv1 default).Released) < 0))) then true else (decide (((a0.Commitments.getD iv1 default).Released) > ((a0.Commitments.getD iv1 default).Amount)))) then true else (decide (((a0.Commitments.getD iv1 default).Payee) < 1))) then true else (decide (((a0.Commitments.getD iv1 default).Payee) > 1000000))) then true else (!rv4)) (
.ret [] (.ret false)) (
.guard [(0 : Int) ≤ (IntKind.i64.wrap (((a0.Commitments.getD iv1 default).Reservation) - 1)), ((IntKind.i64.wrap (((a0.Commitments.getD iv1 default).Reservation) - 1))).toNat < a0.Reservations.length] <|
.reg 6 [] [] [.ev 0, .ev 1] <|
.calld [(decide (((a0.Commitments.getD iv1 default).Day) < ((a0.Reservations.getD (((IntKind.i64.wrap (((a0.Commitments.getD iv1 default).Reservation) - 1))).toNat) default).Day))) = false] default (@F_r02_Year_ok ((a0.Commitments.getD iv1 default).Day)) fun rv5 cv5 =>
.reg 7 [] [(8, hc cv5 [] true)] [.clg 0 [(decide (((a0.Commitments.getD iv1 default).Day) < ((a0.Reservations.getD (((IntKind.i64.wrap (((a0.Commitments.getD iv1 default).Reservation) - 1))).toNat) default).Day))) = false] cv5 [] 3 true] <|
.ite (bif (decide (((a0.Commitments.getD iv1 default).Day) < ((a0.Reservations.getD (((IntKind.i64.wrap (((a0.Commitments.getD iv1 default).Reservation) - 1))).toNat) default).Day))) then true else (rv5 != ((a0.Reservations.getD (((IntKind.i64.wrap (((a0.Commitments.getD iv1 default).Reservation) - 1))).toNat) default).Year))) (
.ret [] (.ret false)) (
.ret [] (.cont ())))
def S_r14_commitments_b2 (a0 : TApiBook) (iv6 : Nat) (_ : Unit) : Scr Tryz.prog R_r14_commitments (Step (Unit) R_r14_commitments) :=
.reg 12 [] [] [.pf (nn iv6), .ev 0] <|
.call (@F_r14_Left_ok a0 ((a0.Reservations.getD iv6 default).Number)) fun rv7 cv7 =>
.reg 13 [] [(3, hc cv7 [] true)] [.cl 0 cv7 [] 2 true] <|
.ite (decide (rv7 < 0)) (
.ret [] (.ret false)) (
.ret [] (.cont ()))
def S_r14_commitments (a0 : TApiBook) : Scr Tryz.prog R_r14_commitments R_r14_commitments :=
.range (a0.Commitments.length : Int) a0.Commitments.length rfl (.slot 9) 11 [1, 9, 10] (fun (_ : Unit) => []) (fun (_ : Unit) => []) () (S_r14_commitments_b1 a0) (fun (_ : Unit) => 
.range (a0.Reservations.length : Int) a0.Reservations.length rfl (.slot 96) 98 [1, 96, 97] (fun (_ : Unit) => []) (fun (_ : Unit) => []) () (S_r14_commitments_b2 a0) (fun (_ : Unit) => 
.ret [] true) id) id
def F_r14_commitments (a0 : TApiBook) : Option R_r14_commitments := (S_r14_commitments a0).den
theorem F_r14_commitments_ok {a0 : TApiBook} (r : R_r14_commitments) (h : F_r14_commitments a0 = some r) : CallOk Tryz.prog 141 [(AV.d (TApiBook.e a0))] [] (V_r14_commitments r) (L_r14_commitments r) := fOk (s := S_r14_commitments a0) Tryz.func141 rfl (by kernel_rfl) h
abbrev R_r14_year := Int
def V_r14_year (x : R_r14_year) : AV := (vi x)
def L_r14_year (_ : R_r14_year) : List Ob := []
def S_r14_year (a0 : TApiBook) (a1 : Int) : Scr Tryz.prog R_r14_year R_r14_year :=
.guard [(0 : Int) ≤ (IntKind.i64.wrap (a1 - 1)), ((IntKind.i64.wrap (a1 - 1))).toNat < a0.Commitments.length, (0 : Int) ≤ (IntKind.i64.wrap (((a0.Commitments.getD (((IntKind.i64.wrap (a1 - 1))).toNat) default).Reservation) - 1)), ((IntKind.i64.wrap (((a0.Commitments.getD (((IntKind.i64.wrap (a1 - 1))).toNat) default).Reservation) - 1))).toNat < a0.Reservations.length] <|
.reg 1 [] [] [.ev 0, .ev 1, .ev 2, .ev 3] <|
.ret [] ((a0.Reservations.getD (((IntKind.i64.wrap (((a0.Commitments.getD (((IntKind.i64.wrap (a1 - 1))).toNat) default).Reservation) - 1))).toNat) default).Year)
def F_r14_year (a0 : TApiBook) (a1 : Int) : Option R_r14_year := (S_r14_year a0 a1).den
theorem F_r14_year_ok {a0 : TApiBook} {a1 : Int} (r : R_r14_year) (h : F_r14_year a0 a1 = some r) : CallOk Tryz.prog 123 [(AV.d (TApiBook.e a0)), (vi a1)] [] (V_r14_year r) (L_r14_year r) := fOk (s := S_r14_year a0 a1) Tryz.func123 rfl (by kernel_rfl) h
abbrev R_r14_rest := Int
def V_r14_rest (x : R_r14_rest) : AV := (vi x)
def L_r14_rest (_ : R_r14_rest) : List Ob := []
def S_r14_rest_b1 (a0 : TApiBook) (a1 : TApiCommitment) (iv1 : Nat) (sv2 : Int) : Scr Tryz.prog R_r14_rest (Step (Int) R_r14_rest) :=
.reg 4 [] [] [.pf (nn iv1), .ev 0] <|
.ite (((a0.Verifications.getD iv1 default).Commitment) == a1.Number) (
.ret [] (.cont (IntKind.i64.wrap (sv2 - ((a0.Verifications.getD iv1 default).Amount))))) (
.ret [] (.cont sv2))
def S_r14_rest (a0 : TApiBook) (a1 : TApiCommitment) : Scr Tryz.prog R_r14_rest R_r14_rest :=
.range (a0.Verifications.length : Int) a0.Verifications.length rfl (.slot 14) 16 [3, 14, 15] (fun (sv2 : Int) => [(5, (vi sv2))]) (fun (_ : Int) => []) (IntKind.i64.wrap (a1.Amount - a1.Released)) (S_r14_rest_b1 a0 a1) (fun (sv2 : Int) => 
.ret [] sv2) id
def F_r14_rest (a0 : TApiBook) (a1 : TApiCommitment) : Option R_r14_rest := (S_r14_rest a0 a1).den
theorem F_r14_rest_ok {a0 : TApiBook} {a1 : TApiCommitment} (r : R_r14_rest) (h : F_r14_rest a0 a1 = some r) : CallOk Tryz.prog 124 [(AV.d (TApiBook.e a0)), (AV.d (TApiCommitment.e a1))] [] (V_r14_rest r) (L_r14_rest r) := fOk (s := S_r14_rest a0 a1) Tryz.func124 rfl (by kernel_rfl) h
abbrev R_r14_orders := Bool
def V_r14_orders (x : R_r14_orders) : AV := (vb x)
def L_r14_orders (_ : R_r14_orders) : List Ob := []
def S_r14_orders_b1 (a0 : TApiBook) (iv1 : Nat) (_ : Unit) : Scr Tryz.prog R_r14_orders (Step (Unit) R_r14_orders) :=
.reg 3 [] [] [.pf (nn iv1), .ev 0] <|
.calld [(bif (bif (((a0.Verifications.getD iv1 default).Number) != (IntKind.i64.wrap ((iv1 : Int) + 1))) then true else (decide (((a0.Verifications.getD iv1 default).Commitment) < 1))) then true else (decide (((a0.Verifications.getD iv1 default).Commitment) > (a0.Commitments.length : Int)))) = false] default (@F_r14_day_ok ((a0.Verifications.getD iv1 default).Day)) fun rv2 cv2 =>
.calld [(bif (bif (bif (((a0.Verifications.getD iv1 default).Number) != (IntKind.i64.wrap ((iv1 : Int) + 1))) then true else (decide (((a0.Verifications.getD iv1 default).Commitment) < 1))) then true else (decide (((a0.Verifications.getD iv1 default).Commitment) > (a0.Commitments.length : Int)))) then true else (!rv2)) = false] default (@F_r14_amount_ok ((a0.Verifications.getD iv1 default).Amount)) fun rv3 cv3 =>
.calld [(bif (bif (bif (bif (bif (((a0.Verifications.getD iv1 default).Number) != (IntKind.i64.wrap ((iv1 : Int) + 1))) then true else (decide (((a0.Verifications.getD iv1 default).Commitment) < 1))) then true else (decide (((a0.Verifications.getD iv1 default).Commitment) > (a0.Commitments.length : Int)))) then true else (!rv2)) then true else (!rv3)) then true else (decide (((a0.Verifications.getD iv1 default).Day) < ((a0.Commitments.getD (((IntKind.i64.wrap (((a0.Verifications.getD iv1 default).Commitment) - 1))).toNat) default).Day)))) = false] default (@F_r02_Year_ok ((a0.Verifications.getD iv1 default).Day)) fun rv4 cv4 =>
.calld [(bif (bif (bif (bif (bif (((a0.Verifications.getD iv1 default).Number) != (IntKind.i64.wrap ((iv1 : Int) + 1))) then true else (decide (((a0.Verifications.getD iv1 default).Commitment) < 1))) then true else (decide (((a0.Verifications.getD iv1 default).Commitment) > (a0.Commitments.length : Int)))) then true else (!rv2)) then true else (!rv3)) then true else (decide (((a0.Verifications.getD iv1 default).Day) < ((a0.Commitments.getD (((IntKind.i64.wrap (((a0.Verifications.getD iv1 default).Commitment) - 1))).toNat) default).Day)))) = false] default (@F_r14_year_ok a0 ((a0.Verifications.getD iv1 default).Commitment)) fun rv5 cv5 =>
.guard [AllP [(bif (bif (bif (bif (((a0.Verifications.getD iv1 default).Number) != (IntKind.i64.wrap ((iv1 : Int) + 1))) then true else (decide (((a0.Verifications.getD iv1 default).Commitment) < 1))) then true else (decide (((a0.Verifications.getD iv1 default).Commitment) > (a0.Commitments.length : Int)))) then true else (!rv2)) then true else (!rv3)) = false] → ((0 : Int) ≤ (IntKind.i64.wrap (((a0.Verifications.getD iv1 default).Commitment) - 1))), AllP [(bif (bif (bif (bif (((a0.Verifications.getD iv1 default).Number) != (IntKind.i64.wrap ((iv1 : Int) + 1))) then true else (decide (((a0.Verifications.getD iv1 default).Commitment) < 1))) then true else (decide (((a0.Verifications.getD iv1 default).Commitment) > (a0.Commitments.length : Int)))) then true else (!rv2)) then true else (!rv3)) = false] → (((IntKind.i64.wrap (((a0.Verifications.getD iv1 default).Commitment) - 1))).toNat < a0.Commitments.length)] <|
.reg 4 [] [(21, hc cv2 [] true), (27, hc cv3 [] true), (46, hc cv4 [] true), (50, hc cv5 [] true)] [.clg 8 [(bif (bif (((a0.Verifications.getD iv1 default).Number) != (IntKind.i64.wrap ((iv1 : Int) + 1))) then true else (decide (((a0.Verifications.getD iv1 default).Commitment) < 1))) then true else (decide (((a0.Verifications.getD iv1 default).Commitment) > (a0.Commitments.length : Int)))) = false] cv2 [] 2 true, .clg 6 [(bif (bif (bif (((a0.Verifications.getD iv1 default).Number) != (IntKind.i64.wrap ((iv1 : Int) + 1))) then true else (decide (((a0.Verifications.getD iv1 default).Commitment) < 1))) then true else (decide (((a0.Verifications.getD iv1 default).Commitment) > (a0.Commitments.length : Int)))) then true else (!rv2)) = false] cv3 [] 2 true, .ev 0, .ev 1, .clg 4 [(bif (bif (bif (bif (bif (((a0.Verifications.getD iv1 default).Number) != (IntKind.i64.wrap ((iv1 : Int) + 1))) then true else (decide (((a0.Verifications.getD iv1 default).Commitment) < 1))) then true else (decide (((a0.Verifications.getD iv1 default).Commitment) > (a0.Commitments.length : Int)))) then true else (!rv2)) then true else (!rv3)) then true else (decide (((a0.Verifications.getD iv1 default).Day) < ((a0.Commitments.getD (((IntKind.i64.wrap (((a0.Verifications.getD iv1 default).Commitment) - 1))).toNat) default).Day)))) = false] cv4 [] 2 true, .clg 2 [(bif (bif (bif (bif (bif (((a0.Verifications.getD iv1 default).Number) != (IntKind.i64.wrap ((iv1 : Int) + 1))) then true else (decide (((a0.Verifications.getD iv1 default).Commitment) < 1))) then true else (decide (((a0.Verifications.getD iv1 default).Commitment) > (a0.Commitments.length : Int)))) then true else (!rv2)) then true else (!rv3)) then true else (decide (((a0.Verifications.getD iv1 default).Day) < ((a0.Commitments.getD (((IntKind.i64.wrap (((a0.Verifications.getD iv1 default).Commitment) - 1))).toNat) default).Day)))) = false] cv5 [] 2 true] <|
.ite (bif (bif (bif (bif (bif (bif (((a0.Verifications.getD iv1 default).Number) != (IntKind.i64.wrap ((iv1 : Int) + 1))) then true else (decide (((a0.Verifications.getD iv1 default).Commitment) < 1))) then true else (decide (((a0.Verifications.getD iv1 default).Commitment) > (a0.Commitments.length : Int)))) then true else (!rv2)) then true else (!rv3)) then true else (decide (((a0.Verifications.getD iv1 default).Day) < ((a0.Commitments.getD (((IntKind.i64.wrap (((a0.Verifications.getD iv1 default).Commitment) - 1))).toNat) default).Day)))) then true else (decide (rv4 > (IntKind.i64.wrap (rv5 + 1))))) (
.ret [] (.ret false)) (
.ret [] (.cont ()))
def S_r14_orders_b2 (a0 : TApiBook) (iv6 : Nat) (_ : Unit) : Scr Tryz.prog R_r14_orders (Step (Unit) R_r14_orders) :=
.reg 9 [] [] [.pf (nn iv6), .ev 0] <|
.call (@F_r14_rest_ok a0 (a0.Commitments.getD iv6 default)) fun rv7 cv7 =>
.reg 10 [] [(2, hc cv7 [] true)] [.cl 0 cv7 [] 2 true] <|
.ite (decide (rv7 < 0)) (
.ret [] (.ret false)) (
.ret [] (.cont ()))
def S_r14_orders_b3 (a0 : TApiBook) (iv8 : Nat) (iv9 : Nat) (sv10 : Int) : Scr Tryz.prog R_r14_orders (Step (Int) R_r14_orders) :=
.reg 24 [] [] [.pf (nn iv9), .ev 0] <|
.ite ((((a0.Orders.take iv8).getD iv9 default).Verification) != ((a0.Orders.getD iv8 default).Verification)) (
.ret [] (.cont sv10)) (
.ite (bif (!(((a0.Orders.take iv8).getD iv9 default).Back)) then true else (decide ((((a0.Orders.take iv8).getD iv9 default).Day) > ((a0.Orders.getD iv8 default).Day)))) (
.ret [] (.ret false)) (
.ret [] (.cont (IntKind.i64.wrap (sv10 + 1)))))
def S_r14_orders_b4 (a0 : TApiBook) (iv8 : Nat) (_ : Unit) : Scr Tryz.prog R_r14_orders (Step (Unit) R_r14_orders) :=
.reg 15 [] [] [.pf (nn iv8), .ev 0] <|
.calld [(bif (bif (((a0.Orders.getD iv8 default).Number) != (IntKind.i64.wrap ((iv8 : Int) + 1))) then true else (decide (((a0.Orders.getD iv8 default).Verification) < 1))) then true else (decide (((a0.Orders.getD iv8 default).Verification) > (a0.Verifications.length : Int)))) = false] default (@F_r14_day_ok ((a0.Orders.getD iv8 default).Day)) fun rv11 cv11 =>
.reg 16 [] [(21, hc cv11 [] true)] [.clg 0 [(bif (bif (((a0.Orders.getD iv8 default).Number) != (IntKind.i64.wrap ((iv8 : Int) + 1))) then true else (decide (((a0.Orders.getD iv8 default).Verification) < 1))) then true else (decide (((a0.Orders.getD iv8 default).Verification) > (a0.Verifications.length : Int)))) = false] cv11 [] 2 true] <|
.ite (bif (bif (bif (((a0.Orders.getD iv8 default).Number) != (IntKind.i64.wrap ((iv8 : Int) + 1))) then true else (decide (((a0.Orders.getD iv8 default).Verification) < 1))) then true else (decide (((a0.Orders.getD iv8 default).Verification) > (a0.Verifications.length : Int)))) then true else (!rv11)) (
.ret [] (.ret false)) (
.guard [(0 : Int) ≤ (IntKind.i64.wrap (((a0.Orders.getD iv8 default).Verification) - 1)), ((IntKind.i64.wrap (((a0.Orders.getD iv8 default).Verification) - 1))).toNat < a0.Verifications.length] <|
.reg 18 [] [] [.ev 0, .ev 1] <|
.calld [(decide (((a0.Orders.getD iv8 default).Day) < ((a0.Verifications.getD (((IntKind.i64.wrap (((a0.Orders.getD iv8 default).Verification) - 1))).toNat) default).Day))) = false] default (@F_r02_Year_ok ((a0.Orders.getD iv8 default).Day)) fun rv12 cv12 =>
.calld [(decide (((a0.Orders.getD iv8 default).Day) < ((a0.Verifications.getD (((IntKind.i64.wrap (((a0.Orders.getD iv8 default).Verification) - 1))).toNat) default).Day))) = false] default (@F_r14_year_ok a0 ((a0.Verifications.getD (((IntKind.i64.wrap (((a0.Orders.getD iv8 default).Verification) - 1))).toNat) default).Commitment)) fun rv13 cv13 =>
.reg 19 [] [(8, hc cv12 [] true), (12, hc cv13 [] true)] [.clg 2 [(decide (((a0.Orders.getD iv8 default).Day) < ((a0.Verifications.getD (((IntKind.i64.wrap (((a0.Orders.getD iv8 default).Verification) - 1))).toNat) default).Day))) = false] cv12 [] 3 true, .clg 0 [(decide (((a0.Orders.getD iv8 default).Day) < ((a0.Verifications.getD (((IntKind.i64.wrap (((a0.Orders.getD iv8 default).Verification) - 1))).toNat) default).Day))) = false] cv13 [] 3 true] <|
.ite (bif (decide (((a0.Orders.getD iv8 default).Day) < ((a0.Verifications.getD (((IntKind.i64.wrap (((a0.Orders.getD iv8 default).Verification) - 1))).toNat) default).Day))) then true else (decide (rv12 > (IntKind.i64.wrap (rv13 + 1))))) (
.ret [] (.ret false)) (
.guard [iv8 ≤ a0.Orders.length] <|
.reg 22 [] [(3, hv (AV.d (eL TApiOrder.e (a0.Orders.take iv8))))] [.pf (nn iv8), .ev 0, .der (fun (h0 : iv8 ≤ a0.Orders.length) => lvT TApiOrder.e a0.Orders h0) 0] <|
.range ((a0.Orders.take iv8).length : Int) ((a0.Orders.take iv8).length) rfl (.slot 146) 148 [1, 8, 89, 90, 91, 146, 147] (fun (sv10 : Int) => [(10, (vi sv10))]) (fun (_ : Int) => []) 1 (S_r14_orders_b3 a0 iv8) (fun (sv10 : Int) => 
.ite (((a0.Orders.getD iv8 default).Attempt) != sv10) (
.ret [] (.ret false)) (
.ret [] (.cont ()))) .ret))
def S_r14_orders (a0 : TApiBook) : Scr Tryz.prog R_r14_orders R_r14_orders :=
.range (a0.Verifications.length : Int) a0.Verifications.length rfl (.slot 14) 16 [1, 14, 15] (fun (_ : Unit) => []) (fun (_ : Unit) => []) () (S_r14_orders_b1 a0) (fun (_ : Unit) => 
.range (a0.Commitments.length : Int) a0.Commitments.length rfl (.slot 77) 79 [1, 77, 78] (fun (_ : Unit) => []) (fun (_ : Unit) => []) () (S_r14_orders_b2 a0) (fun (_ : Unit) => 
.range (a0.Orders.length : Int) a0.Orders.length rfl (.slot 89) 91 [1, 89, 90] (fun (_ : Unit) => []) (fun (_ : Unit) => []) () (S_r14_orders_b4 a0) (fun (_ : Unit) => 
.ret [] true) id) id) id
def F_r14_orders (a0 : TApiBook) : Option R_r14_orders := (S_r14_orders a0).den
theorem F_r14_orders_ok {a0 : TApiBook} (r : R_r14_orders) (h : F_r14_orders a0 = some r) : CallOk Tryz.prog 142 [(AV.d (TApiBook.e a0))] [] (V_r14_orders r) (L_r14_orders r) := fOk (s := S_r14_orders a0) Tryz.func142 rfl (by kernel_rfl) h
abbrev R_r14_Valid := Bool
def V_r14_Valid (x : R_r14_Valid) : AV := (vb x)
def L_r14_Valid (_ : R_r14_Valid) : List Ob := []
def S_r14_Valid (a0 : TApiBook) : Scr Tryz.prog R_r14_Valid R_r14_Valid :=
.ite (bif (bif (bif (decide ((a0.Reservations.length : Int) > 200)) then true else (decide ((a0.Commitments.length : Int) > 200))) then true else (decide ((a0.Verifications.length : Int) > 200))) then true else (decide ((a0.Orders.length : Int) > 200))) (
.ret [] false) (
.call (@F_r14_reservations_ok a0) fun rv1 cv1 =>
.calld [rv1 = true] default (@F_r14_commitments_ok a0) fun rv2 cv2 =>
.calld [(bif rv1 then rv2 else false) = true] default (@F_r14_orders_ok a0) fun rv3 cv3 =>
.reg 3 [] [(1, hc cv1 [] true), (4, hc cv2 [] true), (8, hc cv3 [] true)] [.cl 4 cv1 [] 1 true, .clg 2 [rv1 = true] cv2 [] 1 true, .clg 0 [(bif rv1 then rv2 else false) = true] cv3 [] 1 true] <|
.ret [] (bif (bif rv1 then rv2 else false) then rv3 else false))
def F_r14_Valid (a0 : TApiBook) : Option R_r14_Valid := (S_r14_Valid a0).den
theorem F_r14_Valid_ok {a0 : TApiBook} (r : R_r14_Valid) (h : F_r14_Valid a0 = some r) : CallOk Tryz.prog 115 [(AV.d (TApiBook.e a0))] [] (V_r14_Valid r) (L_r14_Valid r) := fOk (s := S_r14_Valid a0) Tryz.func115 rfl (by kernel_rfl) h
abbrev R_r13_total := Bool
def V_r13_total (x : R_r13_total) : AV := (vb x)
def L_r13_total (_ : R_r13_total) : List Ob := []
def S_r13_total (a0 : Int) : Scr Tryz.prog R_r13_total R_r13_total :=
.ret [] (bif (decide (a0 ≥ 0)) then (decide (a0 ≤ 1000000000000000)) else false)
def F_r13_total (a0 : Int) : Option R_r13_total := (S_r13_total a0).den
theorem F_r13_total_ok {a0 : Int} (r : R_r13_total) (h : F_r13_total a0 = some r) : CallOk Tryz.prog 143 [(vi a0)] [] (V_r13_total r) (L_r13_total r) := fOk (s := S_r13_total a0) Tryz.func143 rfl (by kernel_rfl) h
abbrev R_r13_Right := Bool
def V_r13_Right (x : R_r13_Right) : AV := (vb x)
def L_r13_Right (_ : R_r13_Right) : List Ob := []
def S_r13_Right (a0 : TApiRight) : Scr Tryz.prog R_r13_Right R_r13_Right :=
.call (@F_r03_Good_ok a0.Code) fun rv1 cv1 =>
.calld [(bif (bif rv1 then (decide (a0.Year ≥ 0)) else false) then (decide (a0.Year ≤ 99)) else false) = true] default (@F_r13_total_ok a0.Granted) fun rv2 cv2 =>
.calld [(bif (bif (bif rv1 then (decide (a0.Year ≥ 0)) else false) then (decide (a0.Year ≤ 99)) else false) then rv2 else false) = true] default (@F_r13_total_ok a0.Asked) fun rv3 cv3 =>
.reg 1 [] [(2, hc cv1 [] true), (16, hc cv2 [] true), (21, hc cv3 [] true)] [.cl 4 cv1 [] 1 true, .clg 2 [(bif (bif rv1 then (decide (a0.Year ≥ 0)) else false) then (decide (a0.Year ≤ 99)) else false) = true] cv2 [] 1 true, .clg 0 [(bif (bif (bif rv1 then (decide (a0.Year ≥ 0)) else false) then (decide (a0.Year ≤ 99)) else false) then rv2 else false) = true] cv3 [] 1 true] <|
.ret [] (bif (bif (bif (bif (bif (bif rv1 then (decide (a0.Year ≥ 0)) else false) then (decide (a0.Year ≤ 99)) else false) then rv2 else false) then rv3 else false) then (decide (a0.Returned ≥ 0)) else false) then (decide (a0.Returned ≤ a0.Granted)) else false)
def F_r13_Right (a0 : TApiRight) : Option R_r13_Right := (S_r13_Right a0).den
theorem F_r13_Right_ok {a0 : TApiRight} (r : R_r13_Right) (h : F_r13_Right a0 = some r) : CallOk Tryz.prog 116 [(AV.d (TApiRight.e a0))] [] (V_r13_Right r) (L_r13_Right r) := fOk (s := S_r13_Right a0) Tryz.func116 rfl (by kernel_rfl) h
abbrev R_r15_at := Int
def V_r15_at (x : R_r15_at) : AV := (vi x)
def L_r15_at (_ : R_r15_at) : List Ob := []
def S_r15_at_b1 (a0 : TApiOffice) (a1 : List UInt8) (a2 : Int) (iv1 : Nat) (_ : Unit) : Scr Tryz.prog R_r15_at (Step (Unit) R_r15_at) :=
.reg 3 [] [] [.pf (nn iv1), .ev 0] <|
.ite (bif (((a0.Rights.getD iv1 default).Code) == a1) then (((a0.Rights.getD iv1 default).Year) == a2) else false) (
.ret [] (.ret (iv1 : Int))) (
.ret [] (.cont ()))
def S_r15_at (a0 : TApiOffice) (a1 : List UInt8) (a2 : Int) : Scr Tryz.prog R_r15_at R_r15_at :=
.range (a0.Rights.length : Int) a0.Rights.length rfl (.slot 10) 12 [1, 2, 10, 11] (fun (_ : Unit) => []) (fun (_ : Unit) => []) () (S_r15_at_b1 a0 a1 a2) (fun (_ : Unit) => 
.ret [] (-1)) id
def F_r15_at (a0 : TApiOffice) (a1 : List UInt8) (a2 : Int) : Option R_r15_at := (S_r15_at a0 a1 a2).den
theorem F_r15_at_ok {a0 : TApiOffice} {a1 : List UInt8} {a2 : Int} (r : R_r15_at) (h : F_r15_at a0 a1 a2 = some r) : CallOk Tryz.prog 86 [(AV.d (TApiOffice.e a0)), (AV.d (DV.str a1)), (vi a2)] [] (V_r15_at r) (L_r15_at r) := fOk (s := S_r15_at a0 a1 a2) Tryz.func86 rfl (by kernel_rfl) h
abbrev R_r15_Right := TApiRight
def V_r15_Right (x : R_r15_Right) : AV := (AV.d (TApiRight.e x))
def L_r15_Right (_ : R_r15_Right) : List Ob := []
def S_r15_Right (a0 : TApiOffice) (a1 : List UInt8) (a2 : Int) : Scr Tryz.prog R_r15_Right R_r15_Right :=
.call (@F_r15_at_ok a0 a1 a2) fun rv1 cv1 =>
.reg 1 [] [(3, hc cv1 [] true)] [.cl 0 cv1 [] 2 true] <|
.ite (decide (rv1 ≥ 0)) (
.guard [(0 : Int) ≤ rv1, (rv1).toNat < a0.Rights.length] <|
.reg 3 [] [] [.ev 0, .ev 1] <|
.ret [] (a0.Rights.getD ((rv1).toNat) default)) (
.ret [] (⟨a1, a2, 0, 0, 0⟩ : TApiRight))
def F_r15_Right (a0 : TApiOffice) (a1 : List UInt8) (a2 : Int) : Option R_r15_Right := (S_r15_Right a0 a1 a2).den
theorem F_r15_Right_ok {a0 : TApiOffice} {a1 : List UInt8} {a2 : Int} (r : R_r15_Right) (h : F_r15_Right a0 a1 a2 = some r) : CallOk Tryz.prog 121 [(AV.d (TApiOffice.e a0)), (AV.d (DV.str a1)), (vi a2)] [] (V_r15_Right r) (L_r15_Right r) := fOk (s := S_r15_Right a0 a1 a2) Tryz.func121 rfl (by kernel_rfl) h
abbrev R_r14_Used := Int
def V_r14_Used (x : R_r14_Used) : AV := (vi x)
def L_r14_Used (_ : R_r14_Used) : List Ob := []
def S_r14_Used_b1 (a0 : TApiBook) (iv1 : Nat) (iv2 : Nat) (sv3 : Int) : Scr Tryz.prog R_r14_Used (Step (Int) R_r14_Used) :=
.reg 9 [] [] [.pf (nn iv2), .ev 0] <|
.ite (((a0.Commitments.getD iv2 default).Reservation) == ((a0.Reservations.getD iv1 default).Number)) (
.ret [] (.cont (IntKind.i64.wrap (sv3 - ((a0.Commitments.getD iv2 default).Released))))) (
.ret [] (.cont sv3))
def S_r14_Used_b2 (a0 : TApiBook) (a1 : List UInt8) (a2 : Int) (iv1 : Nat) (sv4 : Int) : Scr Tryz.prog R_r14_Used (Step (Int) R_r14_Used) :=
.reg 4 [] [] [.pf (nn iv1), .ev 0] <|
.ite (bif (!(((a0.Reservations.getD iv1 default).Code) == a1)) then true else (((a0.Reservations.getD iv1 default).Year) != a2)) (
.ret [] (.cont sv4)) (
.range (a0.Commitments.length : Int) a0.Commitments.length rfl (.slot 37) 39 [1, 2, 3, 9, 13, 14, 15, 37, 38] (fun (sv3 : Int) => [(7, (vi sv3))]) (fun (_ : Int) => []) (IntKind.i64.wrap (sv4 + (IntKind.i64.wrap (((a0.Reservations.getD iv1 default).Amount) - ((a0.Reservations.getD iv1 default).Released))))) (S_r14_Used_b1 a0 iv1) (fun (sv3 : Int) => 
.ret [] (.cont sv3)) .ret)
def S_r14_Used (a0 : TApiBook) (a1 : List UInt8) (a2 : Int) : Scr Tryz.prog R_r14_Used R_r14_Used :=
.range (a0.Reservations.length : Int) a0.Reservations.length rfl (.slot 13) 15 [1, 2, 3, 13, 14] (fun (sv4 : Int) => [(7, (vi sv4))]) (fun (_ : Int) => []) 0 (S_r14_Used_b2 a0 a1 a2) (fun (sv4 : Int) => 
.ret [] sv4) id
def F_r14_Used (a0 : TApiBook) (a1 : List UInt8) (a2 : Int) : Option R_r14_Used := (S_r14_Used a0 a1 a2).den
theorem F_r14_Used_ok {a0 : TApiBook} {a1 : List UInt8} {a2 : Int} (r : R_r14_Used) (h : F_r14_Used a0 a1 a2 = some r) : CallOk Tryz.prog 34 [(AV.d (TApiBook.e a0)), (AV.d (DV.str a1)), (vi a2)] [] (V_r14_Used r) (L_r14_Used r) := fOk (s := S_r14_Used a0 a1 a2) Tryz.func34 rfl (by kernel_rfl) h
abbrev R_r15_Unused := Int
def V_r15_Unused (x : R_r15_Unused) : AV := (vi x)
def L_r15_Unused (_ : R_r15_Unused) : List Ob := []
def S_r15_Unused (a0 : TApiOffice) (a1 : List UInt8) (a2 : Int) : Scr Tryz.prog R_r15_Unused R_r15_Unused :=
.call (@F_r15_Right_ok a0 a1 a2) fun rv1 cv1 =>
.reg 1 [] [(3, hc cv1 [] true)] [.cl 0 cv1 [] 1 true] <|
.call (@F_r14_Used_ok a0.Book a1 a2) fun rv2 cv2 =>
.reg 2 [] [(9, hc cv2 [] true)] [.cl 0 cv2 [] 2 true] <|
.ret [] (IntKind.i64.wrap ((IntKind.i64.wrap (rv1.Granted - rv1.Returned)) - rv2))
def F_r15_Unused (a0 : TApiOffice) (a1 : List UInt8) (a2 : Int) : Option R_r15_Unused := (S_r15_Unused a0 a1 a2).den
theorem F_r15_Unused_ok {a0 : TApiOffice} {a1 : List UInt8} {a2 : Int} (r : R_r15_Unused) (h : F_r15_Unused a0 a1 a2 = some r) : CallOk Tryz.prog 78 [(AV.d (TApiOffice.e a0)), (AV.d (DV.str a1)), (vi a2)] [] (V_r15_Unused r) (L_r15_Unused r) := fOk (s := S_r15_Unused a0 a1 a2) Tryz.func78 rfl (by kernel_rfl) h
theorem cz3 : LeV (AV.full 0 fun _ => DV.b false) (vl ([])) := lvN (DV.i .i64)
abbrev R_r03_Parts := (List Int)
def V_r03_Parts (x : R_r03_Parts) : AV := (vl x)
def L_r03_Parts (_ : R_r03_Parts) : List Ob := []
def S_r03_Parts_b1 (a0 : List UInt8) (sv1 : (List Int) × Int × Int × Int) : Scr Tryz.prog R_r03_Parts (Step ((List Int) × Int × Int × Int) R_r03_Parts) :=
.ite (decide (sv1.2.2.2 ≤ (a0.length : Int))) (
.guard [AllP [(sv1.2.2.2 == (a0.length : Int)) = false] → ((0 : Int) ≤ sv1.2.2.2), AllP [(sv1.2.2.2 == (a0.length : Int)) = false] → ((sv1.2.2.2).toNat < a0.length)] <|
.reg 8 [] [] [.ev 0, .ev 1] <|
.ite (bif (sv1.2.2.2 == (a0.length : Int)) then true else (((a0.getD ((sv1.2.2.2).toNat) 0).toNat : Int) == 46)) (
.guard [AllP [(bif (sv1.2.2.1 == 0) then true else (decide (sv1.2.2.1 > 2))) = false] → ((0 : Int) ≤ (IntKind.i64.wrap (sv1.2.2.2 - sv1.2.2.1))), AllP [(bif (sv1.2.2.1 == 0) then true else (decide (sv1.2.2.1 > 2))) = false] → (((IntKind.i64.wrap (sv1.2.2.2 - sv1.2.2.1))).toNat < a0.length)] <|
.reg 9 [] [] [.ev 0, .ev 1] <|
.ite (bif (bif (sv1.2.2.1 == 0) then true else (decide (sv1.2.2.1 > 2))) then true else (((a0.getD (((IntKind.i64.wrap (sv1.2.2.2 - sv1.2.2.1))).toNat) 0).toNat : Int) == 48)) (
.ret [.pf cz3] (.ret ([]))) (
.guard [(sv1.1.length + 1) * (2 * 8) ≤ 2 ^ 48] <|
.reg 11 [] [(2, hv (vl ([sv1.2.1] : List Int))), (3, { h := .obj, cast := some (AV.ref 0 ((sv1.1 ++ ([sv1.2.1] : List Int)).length) 0 ((sv1.1 ++ ([sv1.2.1] : List Int)).length)), obs := [(0, (eS 1 (DV.i .i64) (sv1.1 ++ ([sv1.2.1] : List Int))))] })] [.pf (leV_lit (DV.i .i64) ([sv1.2.1] : List Int)), .pf (Eq.refl sv1.1.length), .pf (Eq.refl sv1.1.length), .pf (p := ∀ k, k < 1 → (AV.d ((DV.i .i64) (([sv1.2.1] : List Int).getD k default))).wd = 1) (fun _ _ => rfl), .ev 0, .pf (leV_app (o := 0) (l := sv1.1) (x := ([sv1.2.1] : List Int))), .pf (oLe_app (sz := 1) (e := (DV.i .i64)) (l := sv1.1) (x := ([sv1.2.1] : List Int)))] <|
.ret [] (.cont ((sv1.1 ++ ([sv1.2.1] : List Int)), 0, 0, (IntKind.i64.wrap (sv1.2.2.2 + 1)))))) (
.guard [(0 : Int) ≤ sv1.2.2.2, (sv1.2.2.2).toNat < a0.length, AllP [(decide (((a0.getD ((sv1.2.2.2).toNat) 0).toNat : Int) < 48)) = false] → ((0 : Int) ≤ sv1.2.2.2), AllP [(decide (((a0.getD ((sv1.2.2.2).toNat) 0).toNat : Int) < 48)) = false] → ((sv1.2.2.2).toNat < a0.length)] <|
.reg 13 [] [] [.ev 0, .ev 1, .ev 2, .ev 3] <|
.ite (bif (decide (((a0.getD ((sv1.2.2.2).toNat) 0).toNat : Int) < 48)) then true else (decide (((a0.getD ((sv1.2.2.2).toNat) 0).toNat : Int) > 57))) (
.ret [.pf cz3] (.ret ([]))) (
.reg 15 [] [] [.ev 1, .ev 2] <|
.ret [] (.cont (sv1.1, (IntKind.i64.wrap ((IntKind.i64.wrap (10 * sv1.2.1)) + (IntKind.i64.wrap (IntKind.u8.wrap (((a0.getD ((sv1.2.2.2).toNat) 0).toNat : Int) - 48))))), (IntKind.i64.wrap (sv1.2.2.1 + 1)), (IntKind.i64.wrap (sv1.2.2.2 + 1))))))) (
.ret [] (.brk (sv1.1, sv1.2.1, sv1.2.2.1, sv1.2.2.2)))
def S_r03_Parts (a0 : List UInt8) : Scr Tryz.prog R_r03_Parts R_r03_Parts :=
.ite (decide ((a0.length : Int) > 12)) (
.ret [.pf cz3] ([])) (
.reg 5 [] [] [] <|
.bor 1 (fun j => AV.d ((DV.i .i64) (([] : List Int).getD j default))) [3] <|
.iter [0] (fun (sv1 : (List Int) × Int × Int × Int) => [(3, (AV.ref 0 sv1.1.length 0 sv1.1.length)), (4, (vi sv1.2.1)), (5, (vi sv1.2.2.1)), (6, (vi sv1.2.2.2))]) (fun (sv1 : (List Int) × Int × Int × Int) => [(0, (eS 1 (DV.i .i64) sv1.1))]) (([] : List Int), 0, 0, 0) (S_r03_Parts_b1 a0) (fun (sv1 : (List Int) × Int × Int × Int) =>
.ite (decide ((sv1.1.length : Int) > 4)) (
.ret [.pf cz3] ([])) (
.guard [sv1.1.length < 2 ^ 63] <|
.reg 18 [] [] [] <|
.frz 0 (.ev 0) none [2] [] <|
.ret [] sv1.1)) id)
def F_r03_Parts (a0 : List UInt8) : Option R_r03_Parts := (S_r03_Parts a0).den
theorem F_r03_Parts_ok {a0 : List UInt8} (r : R_r03_Parts) (h : F_r03_Parts a0 = some r) : CallOk Tryz.prog 144 [(AV.d (DV.str a0))] [] (V_r03_Parts r) (L_r03_Parts r) := fOk (s := S_r03_Parts a0) Tryz.func144 rfl (by kernel_rfl) h
abbrev R_r03_Compare := Int
def V_r03_Compare (x : R_r03_Compare) : AV := (vi x)
def L_r03_Compare (_ : R_r03_Compare) : List Ob := []
def S_r03_Compare_b1 (rv1 : R_r03_Parts) (rv2 : R_r03_Parts) (sv3 : Int) : Scr Tryz.prog R_r03_Compare (Step (Int) R_r03_Compare) :=
.ite (bif (decide (sv3 < (rv1.length : Int))) then (decide (sv3 < (rv2.length : Int))) else false) (
.guard [(0 : Int) ≤ sv3, (sv3).toNat < rv1.length, (sv3).toNat < rv2.length] <|
.reg 15 [] [] [.ev 0, .ev 1, .ev 0, .ev 2] <|
.ite (decide ((rv1.getD ((sv3).toNat) default) < (rv2.getD ((sv3).toNat) default))) (
.ret [] (.ret (-1))) (
.reg 17 [] [] [.ev 1, .ev 2, .ev 1, .ev 3] <|
.ite (decide ((rv1.getD ((sv3).toNat) default) > (rv2.getD ((sv3).toNat) default))) (
.ret [] (.ret 1)) (
.ret [] (.cont (IntKind.i64.wrap (sv3 + 1)))))) (
.ret [] (.brk sv3))
def S_r03_Compare (a0 : List UInt8) (a1 : List UInt8) : Scr Tryz.prog R_r03_Compare R_r03_Compare :=
.call (@F_r03_Parts_ok a0) fun rv1 cv1 =>
.call (@F_r03_Parts_ok a1) fun rv2 cv2 =>
.reg 1 [] [(1, hc cv1 [] true), (3, hc cv2 [] true)] [.cl 1 cv1 [] 0 true, .cl 0 cv2 [] 0 true] <|
.ite (bif ((rv1.length : Int) == 0) then true else ((rv2.length : Int) == 0)) (
.ite (decide ((rv1.length : Int) > 0)) (
.ret [] 1) (
.ite (decide ((rv2.length : Int) > 0)) (
.ret [] (-1)) (
.ite (Op.bytesLess a0 a1) (
.ret [] (-1)) (
.ite (!(Op.bytesLess a0 a1 || a0 == a1)) (
.ret [] 1) (
.ret [] 0))))) (
.iter [5, 6] (fun (sv3 : Int) => [(7, (vi sv3))]) (fun (_ : Int) => []) 0 (S_r03_Compare_b1 rv1 rv2) (fun (_ : Int) =>
.ite (decide ((rv1.length : Int) < (rv2.length : Int))) (
.ret [] (-1)) (
.ite (decide ((rv1.length : Int) > (rv2.length : Int))) (
.ret [] 1) (
.ret [] 0))) id)
def F_r03_Compare (a0 : List UInt8) (a1 : List UInt8) : Option R_r03_Compare := (S_r03_Compare a0 a1).den
theorem F_r03_Compare_ok {a0 : List UInt8} {a1 : List UInt8} (r : R_r03_Compare) (h : F_r03_Compare a0 a1 = some r) : CallOk Tryz.prog 117 [(AV.d (DV.str a0)), (AV.d (DV.str a1))] [] (V_r03_Compare r) (L_r03_Compare r) := fOk (s := S_r03_Compare a0 a1) Tryz.func117 rfl (by kernel_rfl) h
abbrev R_r15_Valid := Bool
def V_r15_Valid (x : R_r15_Valid) : AV := (vb x)
def L_r15_Valid (_ : R_r15_Valid) : List Ob := []
def S_r15_Valid_b1 (a0 : TApiOffice) (iv1 : Nat) (_ : Unit) : Scr Tryz.prog R_r15_Valid (Step (Unit) R_r15_Valid) :=
.reg 5 [] [] [.pf (nn iv1), .ev 0] <|
.call (@F_r13_Right_ok (a0.Rights.getD iv1 default)) fun rv2 cv2 =>
.calld [(!rv2) = false] default (@F_r15_Unused_ok a0 ((a0.Rights.getD iv1 default).Code) ((a0.Rights.getD iv1 default).Year)) fun rv3 cv3 =>
.reg 6 [] [(1, hc cv2 [] true), (9, hc cv3 [] true)] [.cl 2 cv2 [] 2 true, .clg 0 [(!rv2) = false] cv3 [] 2 true] <|
.ite (bif (!rv2) then true else (decide (rv3 < 0))) (
.ret [] (.ret false)) (
.ite (decide ((iv1 : Int) > 0)) (
.call (@F_r03_Compare_ok ((a0.Rights.getD (((IntKind.i64.wrap ((iv1 : Int) - 1))).toNat) default).Code) ((a0.Rights.getD iv1 default).Code)) fun rv4 cv4 =>
.guard [(0 : Int) ≤ (IntKind.i64.wrap ((iv1 : Int) - 1)), ((IntKind.i64.wrap ((iv1 : Int) - 1))).toNat < a0.Rights.length] <|
.reg 9 [] [(9, hc cv4 [] true)] [.ev 0, .ev 1, .cl 2 cv4 [] 2 true] <|
.guard [AllP [(rv4 == 0) = true, (decide (rv4 > 0)) = false] → ((0 : Int) ≤ (IntKind.i64.wrap ((iv1 : Int) - 1))), AllP [(rv4 == 0) = true, (decide (rv4 > 0)) = false] → (((IntKind.i64.wrap ((iv1 : Int) - 1))).toNat < a0.Rights.length)] <|
.reg 10 [] [] [.ev 0, .ev 1] <|
.ite (bif (decide (rv4 > 0)) then true else (bif (rv4 == 0) then (decide (((a0.Rights.getD (((IntKind.i64.wrap ((iv1 : Int) - 1))).toNat) default).Year) ≥ ((a0.Rights.getD iv1 default).Year))) else false)) (
.ret [] (.ret false)) (
.ret [] (.cont ()))) (
.ret [] (.cont ())))
def S_r15_Valid_b2 (a0 : TApiOffice) (iv5 : Nat) (_ : Unit) : Scr Tryz.prog R_r15_Valid (Step (Unit) R_r15_Valid) :=
.reg 15 [] [] [.pf (nn iv5), .ev 0] <|
.call (@F_r15_at_ok a0 ((a0.Book.Reservations.getD iv5 default).Code) ((a0.Book.Reservations.getD iv5 default).Year)) fun rv6 cv6 =>
.reg 16 [] [(5, hc cv6 [] true)] [.cl 0 cv6 [] 2 true] <|
.ite (decide (rv6 < 0)) (
.ret [] (.ret false)) (
.ret [] (.cont ()))
def S_r15_Valid (a0 : TApiOffice) : Scr Tryz.prog R_r15_Valid R_r15_Valid :=
.calld [(bif (bif (decide (a0.Number < 1)) then true else (decide (a0.Number > 6))) then true else (decide ((a0.Rights.length : Int) > 60))) = false] default (@F_r14_Valid_ok a0.Book) fun rv7 cv7 =>
.reg 1 [] [(17, hc cv7 [] true)] [.clg 0 [(bif (bif (decide (a0.Number < 1)) then true else (decide (a0.Number > 6))) then true else (decide ((a0.Rights.length : Int) > 60))) = false] cv7 [] 1 true] <|
.ite (bif (bif (bif (decide (a0.Number < 1)) then true else (decide (a0.Number > 6))) then true else (decide ((a0.Rights.length : Int) > 60))) then true else (!rv7)) (
.ret [] false) (
.range (a0.Rights.length : Int) a0.Rights.length rfl (.slot 29) 31 [1, 29, 30] (fun (_ : Unit) => []) (fun (_ : Unit) => []) () (S_r15_Valid_b1 a0) (fun (_ : Unit) => 
.range (a0.Book.Reservations.length : Int) a0.Book.Reservations.length rfl (.slot 81) 83 [1, 81, 82] (fun (_ : Unit) => []) (fun (_ : Unit) => []) () (S_r15_Valid_b2 a0) (fun (_ : Unit) => 
.ret [] true) id) id)
def F_r15_Valid (a0 : TApiOffice) : Option R_r15_Valid := (S_r15_Valid a0).den
theorem F_r15_Valid_ok {a0 : TApiOffice} (r : R_r15_Valid) (h : F_r15_Valid a0 = some r) : CallOk Tryz.prog 76 [(AV.d (TApiOffice.e a0))] [] (V_r15_Valid r) (L_r15_Valid r) := fOk (s := S_r15_Valid a0) Tryz.func76 rfl (by kernel_rfl) h
end
end Go.Proofs.YtclaojamgomjbaaGreatDoor
/- What the functions compute, and that their calls return it. No condition. -/
namespace Go.Proofs.YtclaojamgomjbaaGreatDoor
open Go Go.TA
noncomputable section
set_option maxRecDepth 100000
theorem cz4 : OLe (bx (DV.agg [Z0, Z0, Z0, Z0])) (bx (TApiBook.e (⟨[], [], [], []⟩ : TApiBook))) := oLe_box (DLe.agg (DLeL.cons DLe.sl0 (DLeL.cons DLe.sl0 (DLeL.cons DLe.sl0 (DLeL.cons DLe.sl0 DLeL.nil)))))
abbrev R_r14_copied_rw := (List TApiReservation) × (List TApiCommitment) × (List TApiVerification) × (List TApiOrder)
def V_r14_copied_rw (x : R_r14_copied_rw) : AV := (AV.agg [(AV.ref 2 x.1.length 0 x.1.length), (AV.ref 3 x.2.1.length 0 x.2.1.length), (AV.ref 4 x.2.2.1.length 0 x.2.2.1.length), (AV.ref 5 x.2.2.2.length 0 x.2.2.2.length)])
def L_r14_copied_rw (x : R_r14_copied_rw) : List Ob := [Ob.dead, (Ob.box (AV.agg [(AV.ref 2 x.1.length 0 x.1.length), (AV.ref 3 x.2.1.length 0 x.2.1.length), (AV.ref 4 x.2.2.1.length 0 x.2.2.1.length), (AV.ref 5 x.2.2.2.length 0 x.2.2.2.length)])), (eS 6 TApiReservation.e x.1), (eS 7 TApiCommitment.e x.2.1), (eS 4 TApiVerification.e x.2.2.1), (eS 5 TApiOrder.e x.2.2.2)]
def S_r14_copied_rw (a0 : TApiBook) : Scr Tryz.prog R_r14_copied_rw R_r14_copied_rw :=
.reg 0 [] [(1, { obs := [(1, (bx (TApiBook.e (⟨[], [], [], []⟩ : TApiBook))))] })] [.pf cz4] <|
.guard [a0.Reservations.length * (2 * 56) ≤ 2 ^ 48, a0.Commitments.length * (2 * 56) ≤ 2 ^ 48, a0.Verifications.length * (2 * 32) ≤ 2 ^ 48, a0.Orders.length * (2 * 40) ≤ 2 ^ 48] <|
.reg 1 [3, 7, 11, 15, 17] [(3, { h := .obj }), (7, { h := .obj }), (11, { h := .obj }), (15, { h := .obj })] [.pf (p := ∀ k, k < a0.Reservations.length → (AV.d (TApiReservation.e (a0.Reservations.getD k default))).wd = 6) (fun _ _ => rfl), .ev 0, .pf (p := ∀ k, k < a0.Commitments.length → (AV.d (TApiCommitment.e (a0.Commitments.getD k default))).wd = 7) (fun _ _ => rfl), .ev 1, .pf (p := ∀ k, k < a0.Verifications.length → (AV.d (TApiVerification.e (a0.Verifications.getD k default))).wd = 4) (fun _ _ => rfl), .ev 2, .pf (p := ∀ k, k < a0.Orders.length → (AV.d (TApiOrder.e (a0.Orders.getD k default))).wd = 5) (fun _ _ => rfl), .ev 3] <|
.kill 0 <|
.ret [] (a0.Reservations, a0.Commitments, a0.Verifications, a0.Orders)
def F_r14_copied_rw (a0 : TApiBook) : Option R_r14_copied_rw := (S_r14_copied_rw a0).den
theorem F_r14_copied_rw_ok {a0 : TApiBook} (r : R_r14_copied_rw) (h : F_r14_copied_rw a0 = some r) : CallOk Tryz.prog 120 [(AV.d (TApiBook.e a0))] [] (V_r14_copied_rw r) (L_r14_copied_rw r) := fOk (s := S_r14_copied_rw a0) Tryz.func120 rfl (by kernel_rfl) h
theorem cz5 : LeV (AV.d (DV.agg [Z0, Z0, Z0, Z0])) (AV.d (TApiBook.e (⟨[], [], [], []⟩ : TApiBook))) := leV_dle rfl (DLe.agg (DLeL.cons DLe.sl0 (DLeL.cons DLe.sl0 (DLeL.cons DLe.sl0 (DLeL.cons DLe.sl0 DLeL.nil)))))
abbrev R_r14_Reserve := TApiBook × Int
def V_r14_Reserve (x : R_r14_Reserve) : AV := (AV.tup [(AV.d (TApiBook.e x.1)), (vi x.2)])
def L_r14_Reserve (_ : R_r14_Reserve) : List Ob := []
def S_r14_Reserve (a0 : TApiBook) (a1 : List UInt8) (a2 : Int) (a3 : Int) (a4 : Int) : Scr Tryz.prog R_r14_Reserve R_r14_Reserve :=
.reg 0 [] [(1, { obs := [(1, (bx (TApiBook.e (⟨[], [], [], []⟩ : TApiBook))))] })] [.pf cz4] <|
.call (@F_r14_Valid_ok a0) fun rv1 cv1 =>
.reg 1 [] [(1, hc cv1 [] true)] [.cl 0 cv1 [] 2 true] <|
.ite (!rv1) (
.reg 2 [] [(0, hv (AV.d (TApiBook.e (⟨[], [], [], []⟩ : TApiBook))))] [.pf cz5] <|
.ret [] ((⟨[], [], [], []⟩ : TApiBook), 1)) (
.call (@F_r03_Good_ok a1) fun rv2 cv2 =>
.reg 3 [] [(1, hc cv2 [] true)] [.cl 0 cv2 [] 2 true] <|
.ite (!rv2) (
.reg 4 [] [(0, hv (AV.d (TApiBook.e (⟨[], [], [], []⟩ : TApiBook))))] [.pf cz5] <|
.ret [] ((⟨[], [], [], []⟩ : TApiBook), 5)) (
.calld [(bif (decide (a2 < 0)) then true else (decide (a2 > 99))) = false] default (@F_r14_day_ok a3) fun rv3 cv3 =>
.calld [(bif (bif (decide (a2 < 0)) then true else (decide (a2 > 99))) then true else (!rv3)) = false] default (@F_r14_amount_ok a4) fun rv4 cv4 =>
.reg 5 [] [(8, hc cv3 [] true), (13, hc cv4 [] true)] [.clg 2 [(bif (decide (a2 < 0)) then true else (decide (a2 > 99))) = false] cv3 [] 2 true, .clg 0 [(bif (bif (decide (a2 < 0)) then true else (decide (a2 > 99))) then true else (!rv3)) = false] cv4 [] 2 true] <|
.ite (bif (bif (bif (decide (a2 < 0)) then true else (decide (a2 > 99))) then true else (!rv3)) then true else (!rv4)) (
.reg 6 [] [(0, hv (AV.d (TApiBook.e (⟨[], [], [], []⟩ : TApiBook))))] [.pf cz5] <|
.ret [] ((⟨[], [], [], []⟩ : TApiBook), 2)) (
.call (@F_r02_Year_ok a3) fun rv5 cv5 =>
.reg 7 [] [(1, hc cv5 [] true)] [.cl 0 cv5 [] 2 true] <|
.ite (rv5 != a2) (
.reg 8 [] [(0, hv (AV.d (TApiBook.e (⟨[], [], [], []⟩ : TApiBook))))] [.pf cz5] <|
.ret [] ((⟨[], [], [], []⟩ : TApiBook), 16)) (
.ite ((a0.Reservations.length : Int) == 200) (
.reg 10 [] [(0, hv (AV.d (TApiBook.e (⟨[], [], [], []⟩ : TApiBook))))] [.pf cz5] <|
.ret [] ((⟨[], [], [], []⟩ : TApiBook), 3)) (
.call (@F_r14_copied_rw_ok a0) fun rv6 cv6 =>
.reg 11 [] [(1, hc cv6 [] false), (2, { h := .obj })] [.cl 0 cv6 [] 2 false] <|
.kill 3 <|
.guard [rv6.2.1.length < 2 ^ 63] <|
.frz 5 (.ev 0) none [] [8] <|
.guard [rv6.2.2.1.length < 2 ^ 63] <|
.frz 6 (.ev 0) none [] [8] <|
.guard [rv6.2.2.2.length < 2 ^ 63] <|
.frz 7 (.ev 0) none [] [8] <|
.guard [(rv6.1.length + 1) * (2 * 56) ≤ 2 ^ 48] <|
.reg 12 [] [(11, hv (AV.d (eL TApiReservation.e ([(⟨(IntKind.i64.wrap ((a0.Reservations.length : Int) + 1)), a1, a2, a3, a4, 0⟩ : TApiReservation)] : List TApiReservation)))), (12, { cast := some (AV.ref 4 ((rv6.1 ++ ([(⟨(IntKind.i64.wrap ((a0.Reservations.length : Int) + 1)), a1, a2, a3, a4, 0⟩ : TApiReservation)] : List TApiReservation)).length) 0 ((rv6.1 ++ ([(⟨(IntKind.i64.wrap ((a0.Reservations.length : Int) + 1)), a1, a2, a3, a4, 0⟩ : TApiReservation)] : List TApiReservation)).length)), obs := [(4, (eS 6 TApiReservation.e (rv6.1 ++ ([(⟨(IntKind.i64.wrap ((a0.Reservations.length : Int) + 1)), a1, a2, a3, a4, 0⟩ : TApiReservation)] : List TApiReservation))))] })] [.pf (leV_lit TApiReservation.e ([(⟨(IntKind.i64.wrap ((a0.Reservations.length : Int) + 1)), a1, a2, a3, a4, 0⟩ : TApiReservation)] : List TApiReservation)), .pf (Eq.refl rv6.1.length), .pf (Eq.refl rv6.1.length), .pf (p := ∀ k, k < 1 → (AV.d (TApiReservation.e (([(⟨(IntKind.i64.wrap ((a0.Reservations.length : Int) + 1)), a1, a2, a3, a4, 0⟩ : TApiReservation)] : List TApiReservation).getD k default))).wd = 6) (fun _ _ => rfl), .ev 0, .pf (leV_app (o := 4) (l := rv6.1) (x := ([(⟨(IntKind.i64.wrap ((a0.Reservations.length : Int) + 1)), a1, a2, a3, a4, 0⟩ : TApiReservation)] : List TApiReservation))), .pf (oLe_app (sz := 6) (e := TApiReservation.e) (l := rv6.1) (x := ([(⟨(IntKind.i64.wrap ((a0.Reservations.length : Int) + 1)), a1, a2, a3, a4, 0⟩ : TApiReservation)] : List TApiReservation)))] <|
.guard [(rv6.1 ++ ([(⟨(IntKind.i64.wrap ((a0.Reservations.length : Int) + 1)), a1, a2, a3, a4, 0⟩ : TApiReservation)] : List TApiReservation)).length < 2 ^ 63] <|
.reg 13 [] [] [] <|
.frz 4 (.ev 0) none [] [1, 8] <|
.ret [] ((⟨(rv6.1 ++ ([(⟨(IntKind.i64.wrap ((a0.Reservations.length : Int) + 1)), a1, a2, a3, a4, 0⟩ : TApiReservation)] : List TApiReservation)), rv6.2.1, rv6.2.2.1, rv6.2.2.2⟩ : TApiBook), 0))))))
def F_r14_Reserve (a0 : TApiBook) (a1 : List UInt8) (a2 : Int) (a3 : Int) (a4 : Int) : Option R_r14_Reserve := (S_r14_Reserve a0 a1 a2 a3 a4).den
theorem F_r14_Reserve_ok {a0 : TApiBook} {a1 : List UInt8} {a2 : Int} {a3 : Int} {a4 : Int} (r : R_r14_Reserve) (h : F_r14_Reserve a0 a1 a2 a3 a4 = some r) : CallOk Tryz.prog 77 [(AV.d (TApiBook.e a0)), (AV.d (DV.str a1)), (vi a2), (vi a3), (vi a4)] [] (V_r14_Reserve r) (L_r14_Reserve r) := fOk (s := S_r14_Reserve a0 a1 a2 a3 a4) Tryz.func77 rfl (by kernel_rfl) h
abbrev R_r14_Commit := TApiBook × Int
def V_r14_Commit (x : R_r14_Commit) : AV := (AV.tup [(AV.d (TApiBook.e x.1)), (vi x.2)])
def L_r14_Commit (_ : R_r14_Commit) : List Ob := []
def S_r14_Commit (a0 : TApiBook) (a1 : Int) (a2 : Int) (a3 : Int) (a4 : Int) (a5 : Int) : Scr Tryz.prog R_r14_Commit R_r14_Commit :=
.reg 0 [] [(1, { obs := [(1, (bx (TApiBook.e (⟨[], [], [], []⟩ : TApiBook))))] })] [.pf cz4] <|
.call (@F_r14_Valid_ok a0) fun rv1 cv1 =>
.reg 1 [] [(1, hc cv1 [] true)] [.cl 0 cv1 [] 2 true] <|
.ite (!rv1) (
.reg 2 [] [(0, hv (AV.d (TApiBook.e (⟨[], [], [], []⟩ : TApiBook))))] [.pf cz5] <|
.ret [] ((⟨[], [], [], []⟩ : TApiBook), 1)) (
.ite (bif (decide (a1 < 1)) then true else (decide (a1 > (a0.Reservations.length : Int)))) (
.reg 4 [] [(0, hv (AV.d (TApiBook.e (⟨[], [], [], []⟩ : TApiBook))))] [.pf cz5] <|
.ret [] ((⟨[], [], [], []⟩ : TApiBook), 6)) (
.call (@F_r14_day_ok a2) fun rv2 cv2 =>
.calld [(!rv2) = false] default (@F_r14_amount_ok a3) fun rv3 cv3 =>
.calld [(bif (bif (bif (!rv2) then true else (!rv3)) then true else (decide (a4 < 1))) then true else (decide (a4 > 1000000))) = false] default (@F_r14_day_ok a5) fun rv4 cv4 =>
.reg 5 [] [(1, hc cv2 [] true), (5, hc cv3 [] true), (18, hc cv4 [] true)] [.cl 4 cv2 [] 2 true, .clg 2 [(!rv2) = false] cv3 [] 2 true, .clg 0 [(bif (bif (bif (!rv2) then true else (!rv3)) then true else (decide (a4 < 1))) then true else (decide (a4 > 1000000))) = false] cv4 [] 2 true] <|
.ite (bif (bif (bif (bif (!rv2) then true else (!rv3)) then true else (decide (a4 < 1))) then true else (decide (a4 > 1000000))) then true else (!rv4)) (
.reg 6 [] [(0, hv (AV.d (TApiBook.e (⟨[], [], [], []⟩ : TApiBook))))] [.pf cz5] <|
.ret [] ((⟨[], [], [], []⟩ : TApiBook), 2)) (
.guard [(0 : Int) ≤ (IntKind.i64.wrap (a1 - 1)), ((IntKind.i64.wrap (a1 - 1))).toNat < a0.Reservations.length] <|
.reg 7 [] [] [.ev 0, .ev 1] <|
.call (@F_r02_Year_ok a2) fun rv5 cv5 =>
.reg 8 [] [(1, hc cv5 [] true)] [.cl 0 cv5 [] 3 true] <|
.ite (rv5 != ((a0.Reservations.getD (((IntKind.i64.wrap (a1 - 1))).toNat) default).Year)) (
.reg 9 [] [(0, hv (AV.d (TApiBook.e (⟨[], [], [], []⟩ : TApiBook))))] [.pf cz5] <|
.ret [] ((⟨[], [], [], []⟩ : TApiBook), 16)) (
.ite (decide (a2 < ((a0.Reservations.getD (((IntKind.i64.wrap (a1 - 1))).toNat) default).Day))) (
.reg 11 [] [(0, hv (AV.d (TApiBook.e (⟨[], [], [], []⟩ : TApiBook))))] [.pf cz5] <|
.ret [] ((⟨[], [], [], []⟩ : TApiBook), 8)) (
.call (@F_r14_Left_ok a0 a1) fun rv6 cv6 =>
.reg 12 [] [(3, hc cv6 [] true)] [.cl 0 cv6 [] 3 true] <|
.ite (decide (a3 > rv6)) (
.reg 13 [] [(0, hv (AV.d (TApiBook.e (⟨[], [], [], []⟩ : TApiBook))))] [.pf cz5] <|
.ret [] ((⟨[], [], [], []⟩ : TApiBook), 15)) (
.ite ((a0.Commitments.length : Int) == 200) (
.reg 15 [] [(0, hv (AV.d (TApiBook.e (⟨[], [], [], []⟩ : TApiBook))))] [.pf cz5] <|
.ret [] ((⟨[], [], [], []⟩ : TApiBook), 3)) (
.call (@F_r14_copied_rw_ok a0) fun rv7 cv7 =>
.reg 16 [] [(1, hc cv7 [] false), (2, { h := .obj })] [.cl 0 cv7 [] 3 false] <|
.kill 4 <|
.guard [rv7.1.length < 2 ^ 63] <|
.frz 5 (.ev 0) none [] [9] <|
.guard [rv7.2.2.1.length < 2 ^ 63] <|
.frz 7 (.ev 0) none [] [9] <|
.guard [rv7.2.2.2.length < 2 ^ 63] <|
.frz 8 (.ev 0) none [] [9] <|
.guard [(rv7.2.1.length + 1) * (2 * 56) ≤ 2 ^ 48] <|
.reg 17 [] [(12, hv (AV.d (eL TApiCommitment.e ([(⟨(IntKind.i64.wrap ((a0.Commitments.length : Int) + 1)), a1, a2, a3, 0, a4, a5⟩ : TApiCommitment)] : List TApiCommitment)))), (13, { cast := some (AV.ref 6 ((rv7.2.1 ++ ([(⟨(IntKind.i64.wrap ((a0.Commitments.length : Int) + 1)), a1, a2, a3, 0, a4, a5⟩ : TApiCommitment)] : List TApiCommitment)).length) 0 ((rv7.2.1 ++ ([(⟨(IntKind.i64.wrap ((a0.Commitments.length : Int) + 1)), a1, a2, a3, 0, a4, a5⟩ : TApiCommitment)] : List TApiCommitment)).length)), obs := [(6, (eS 7 TApiCommitment.e (rv7.2.1 ++ ([(⟨(IntKind.i64.wrap ((a0.Commitments.length : Int) + 1)), a1, a2, a3, 0, a4, a5⟩ : TApiCommitment)] : List TApiCommitment))))] })] [.pf (leV_lit TApiCommitment.e ([(⟨(IntKind.i64.wrap ((a0.Commitments.length : Int) + 1)), a1, a2, a3, 0, a4, a5⟩ : TApiCommitment)] : List TApiCommitment)), .pf (Eq.refl rv7.2.1.length), .pf (Eq.refl rv7.2.1.length), .pf (p := ∀ k, k < 1 → (AV.d (TApiCommitment.e (([(⟨(IntKind.i64.wrap ((a0.Commitments.length : Int) + 1)), a1, a2, a3, 0, a4, a5⟩ : TApiCommitment)] : List TApiCommitment).getD k default))).wd = 7) (fun _ _ => rfl), .ev 0, .pf (leV_app (o := 6) (l := rv7.2.1) (x := ([(⟨(IntKind.i64.wrap ((a0.Commitments.length : Int) + 1)), a1, a2, a3, 0, a4, a5⟩ : TApiCommitment)] : List TApiCommitment))), .pf (oLe_app (sz := 7) (e := TApiCommitment.e) (l := rv7.2.1) (x := ([(⟨(IntKind.i64.wrap ((a0.Commitments.length : Int) + 1)), a1, a2, a3, 0, a4, a5⟩ : TApiCommitment)] : List TApiCommitment)))] <|
.guard [(rv7.2.1 ++ ([(⟨(IntKind.i64.wrap ((a0.Commitments.length : Int) + 1)), a1, a2, a3, 0, a4, a5⟩ : TApiCommitment)] : List TApiCommitment)).length < 2 ^ 63] <|
.reg 18 [] [] [] <|
.frz 6 (.ev 0) none [] [1, 9] <|
.ret [] ((⟨rv7.1, (rv7.2.1 ++ ([(⟨(IntKind.i64.wrap ((a0.Commitments.length : Int) + 1)), a1, a2, a3, 0, a4, a5⟩ : TApiCommitment)] : List TApiCommitment)), rv7.2.2.1, rv7.2.2.2⟩ : TApiBook), 0))))))))
def F_r14_Commit (a0 : TApiBook) (a1 : Int) (a2 : Int) (a3 : Int) (a4 : Int) (a5 : Int) : Option R_r14_Commit := (S_r14_Commit a0 a1 a2 a3 a4 a5).den
theorem F_r14_Commit_ok {a0 : TApiBook} {a1 : Int} {a2 : Int} {a3 : Int} {a4 : Int} {a5 : Int} (r : R_r14_Commit) (h : F_r14_Commit a0 a1 a2 a3 a4 a5 = some r) : CallOk Tryz.prog 79 [(AV.d (TApiBook.e a0)), (vi a1), (vi a2), (vi a3), (vi a4), (vi a5)] [] (V_r14_Commit r) (L_r14_Commit r) := fOk (s := S_r14_Commit a0 a1 a2 a3 a4 a5) Tryz.func79 rfl (by kernel_rfl) h
abbrev R_r14_Verify := TApiBook × Int
def V_r14_Verify (x : R_r14_Verify) : AV := (AV.tup [(AV.d (TApiBook.e x.1)), (vi x.2)])
def L_r14_Verify (_ : R_r14_Verify) : List Ob := []
def S_r14_Verify (a0 : TApiBook) (a1 : Int) (a2 : Int) (a3 : Int) : Scr Tryz.prog R_r14_Verify R_r14_Verify :=
.reg 0 [] [(1, { obs := [(1, (bx (TApiBook.e (⟨[], [], [], []⟩ : TApiBook))))] })] [.pf cz4] <|
.call (@F_r14_Valid_ok a0) fun rv1 cv1 =>
.reg 1 [] [(1, hc cv1 [] true)] [.cl 0 cv1 [] 2 true] <|
.ite (!rv1) (
.reg 2 [] [(0, hv (AV.d (TApiBook.e (⟨[], [], [], []⟩ : TApiBook))))] [.pf cz5] <|
.ret [] ((⟨[], [], [], []⟩ : TApiBook), 1)) (
.ite (bif (decide (a1 < 1)) then true else (decide (a1 > (a0.Commitments.length : Int)))) (
.reg 4 [] [(0, hv (AV.d (TApiBook.e (⟨[], [], [], []⟩ : TApiBook))))] [.pf cz5] <|
.ret [] ((⟨[], [], [], []⟩ : TApiBook), 6)) (
.call (@F_r14_day_ok a2) fun rv2 cv2 =>
.calld [(!rv2) = false] default (@F_r14_amount_ok a3) fun rv3 cv3 =>
.reg 5 [] [(1, hc cv2 [] true), (5, hc cv3 [] true)] [.cl 2 cv2 [] 2 true, .clg 0 [(!rv2) = false] cv3 [] 2 true] <|
.ite (bif (!rv2) then true else (!rv3)) (
.reg 6 [] [(0, hv (AV.d (TApiBook.e (⟨[], [], [], []⟩ : TApiBook))))] [.pf cz5] <|
.ret [] ((⟨[], [], [], []⟩ : TApiBook), 2)) (
.call (@F_r02_Year_ok a2) fun rv4 cv4 =>
.call (@F_r14_year_ok a0 a1) fun rv5 cv5 =>
.reg 7 [] [(1, hc cv4 [] true), (4, hc cv5 [] true)] [.cl 1 cv4 [] 2 true, .cl 0 cv5 [] 2 true] <|
.ite (decide (rv4 > (IntKind.i64.wrap (rv5 + 1)))) (
.reg 8 [] [(0, hv (AV.d (TApiBook.e (⟨[], [], [], []⟩ : TApiBook))))] [.pf cz5] <|
.ret [] ((⟨[], [], [], []⟩ : TApiBook), 16)) (
.guard [(0 : Int) ≤ (IntKind.i64.wrap (a1 - 1)), ((IntKind.i64.wrap (a1 - 1))).toNat < a0.Commitments.length] <|
.reg 9 [] [] [.ev 0, .ev 1] <|
.ite (decide (a2 < ((a0.Commitments.getD (((IntKind.i64.wrap (a1 - 1))).toNat) default).Day))) (
.reg 10 [] [(0, hv (AV.d (TApiBook.e (⟨[], [], [], []⟩ : TApiBook))))] [.pf cz5] <|
.ret [] ((⟨[], [], [], []⟩ : TApiBook), 8)) (
.call (@F_r14_rest_ok a0 (a0.Commitments.getD (((IntKind.i64.wrap (a1 - 1))).toNat) default)) fun rv6 cv6 =>
.reg 11 [] [(8, hc cv6 [] true)] [.ev 2, .ev 3, .cl 0 cv6 [] 2 true] <|
.ite (decide (a3 > rv6)) (
.reg 12 [] [(0, hv (AV.d (TApiBook.e (⟨[], [], [], []⟩ : TApiBook))))] [.pf cz5] <|
.ret [] ((⟨[], [], [], []⟩ : TApiBook), 15)) (
.ite ((a0.Verifications.length : Int) == 200) (
.reg 14 [] [(0, hv (AV.d (TApiBook.e (⟨[], [], [], []⟩ : TApiBook))))] [.pf cz5] <|
.ret [] ((⟨[], [], [], []⟩ : TApiBook), 3)) (
.call (@F_r14_copied_rw_ok a0) fun rv7 cv7 =>
.reg 15 [] [(1, hc cv7 [] false), (2, { h := .obj })] [.cl 0 cv7 [] 2 false] <|
.kill 3 <|
.guard [rv7.1.length < 2 ^ 63] <|
.frz 4 (.ev 0) none [] [8] <|
.guard [rv7.2.1.length < 2 ^ 63] <|
.frz 5 (.ev 0) none [] [8] <|
.guard [rv7.2.2.2.length < 2 ^ 63] <|
.frz 7 (.ev 0) none [] [8] <|
.guard [(rv7.2.2.1.length + 1) * (2 * 32) ≤ 2 ^ 48] <|
.reg 16 [] [(10, hv (AV.d (eL TApiVerification.e ([(⟨(IntKind.i64.wrap ((a0.Verifications.length : Int) + 1)), a1, a2, a3⟩ : TApiVerification)] : List TApiVerification)))), (11, { cast := some (AV.ref 6 ((rv7.2.2.1 ++ ([(⟨(IntKind.i64.wrap ((a0.Verifications.length : Int) + 1)), a1, a2, a3⟩ : TApiVerification)] : List TApiVerification)).length) 0 ((rv7.2.2.1 ++ ([(⟨(IntKind.i64.wrap ((a0.Verifications.length : Int) + 1)), a1, a2, a3⟩ : TApiVerification)] : List TApiVerification)).length)), obs := [(6, (eS 4 TApiVerification.e (rv7.2.2.1 ++ ([(⟨(IntKind.i64.wrap ((a0.Verifications.length : Int) + 1)), a1, a2, a3⟩ : TApiVerification)] : List TApiVerification))))] })] [.pf (leV_lit TApiVerification.e ([(⟨(IntKind.i64.wrap ((a0.Verifications.length : Int) + 1)), a1, a2, a3⟩ : TApiVerification)] : List TApiVerification)), .pf (Eq.refl rv7.2.2.1.length), .pf (Eq.refl rv7.2.2.1.length), .pf (p := ∀ k, k < 1 → (AV.d (TApiVerification.e (([(⟨(IntKind.i64.wrap ((a0.Verifications.length : Int) + 1)), a1, a2, a3⟩ : TApiVerification)] : List TApiVerification).getD k default))).wd = 4) (fun _ _ => rfl), .ev 0, .pf (leV_app (o := 6) (l := rv7.2.2.1) (x := ([(⟨(IntKind.i64.wrap ((a0.Verifications.length : Int) + 1)), a1, a2, a3⟩ : TApiVerification)] : List TApiVerification))), .pf (oLe_app (sz := 4) (e := TApiVerification.e) (l := rv7.2.2.1) (x := ([(⟨(IntKind.i64.wrap ((a0.Verifications.length : Int) + 1)), a1, a2, a3⟩ : TApiVerification)] : List TApiVerification)))] <|
.guard [(rv7.2.2.1 ++ ([(⟨(IntKind.i64.wrap ((a0.Verifications.length : Int) + 1)), a1, a2, a3⟩ : TApiVerification)] : List TApiVerification)).length < 2 ^ 63] <|
.reg 17 [] [] [] <|
.frz 6 (.ev 0) none [] [1, 8] <|
.ret [] ((⟨rv7.1, rv7.2.1, (rv7.2.2.1 ++ ([(⟨(IntKind.i64.wrap ((a0.Verifications.length : Int) + 1)), a1, a2, a3⟩ : TApiVerification)] : List TApiVerification)), rv7.2.2.2⟩ : TApiBook), 0))))))))
def F_r14_Verify (a0 : TApiBook) (a1 : Int) (a2 : Int) (a3 : Int) : Option R_r14_Verify := (S_r14_Verify a0 a1 a2 a3).den
theorem F_r14_Verify_ok {a0 : TApiBook} {a1 : Int} {a2 : Int} {a3 : Int} (r : R_r14_Verify) (h : F_r14_Verify a0 a1 a2 a3 = some r) : CallOk Tryz.prog 80 [(AV.d (TApiBook.e a0)), (vi a1), (vi a2), (vi a3)] [] (V_r14_Verify r) (L_r14_Verify r) := fOk (s := S_r14_Verify a0 a1 a2 a3) Tryz.func80 rfl (by kernel_rfl) h
abbrev R_r14_last := TApiOrder × Int
def V_r14_last (x : R_r14_last) : AV := (AV.tup [(AV.d (TApiOrder.e x.1)), (vi x.2)])
def L_r14_last (_ : R_r14_last) : List Ob := []
def S_r14_last_b1 (a0 : TApiBook) (a1 : Int) (iv1 : Nat) (sv2 : TApiOrder × Int) : Scr Tryz.prog R_r14_last (Step (TApiOrder × Int) R_r14_last) :=
.reg 5 [] [] [.pf (nn iv1), .ev 0] <|
.ite (((a0.Orders.getD iv1 default).Verification) == a1) (
.ret [] (.cont ((a0.Orders.getD iv1 default), (IntKind.i64.wrap (sv2.2 + 1))))) (
.ret [] (.cont (sv2.1, sv2.2)))
def S_r14_last (a0 : TApiBook) (a1 : Int) : Scr Tryz.prog R_r14_last R_r14_last :=
.range (a0.Orders.length : Int) a0.Orders.length rfl (.slot 11) 13 [1, 4, 6, 11, 12] (fun (sv2 : TApiOrder × Int) => [(7, (vi sv2.2))]) (fun (sv2 : TApiOrder × Int) => [(2, (bx (TApiOrder.e sv2.1)))]) ((⟨0, 0, 0, 0, false⟩ : TApiOrder), 0) (S_r14_last_b1 a0 a1) (fun (sv2 : TApiOrder × Int) => 
.ret [] (sv2.1, sv2.2)) id
def F_r14_last (a0 : TApiBook) (a1 : Int) : Option R_r14_last := (S_r14_last a0 a1).den
theorem F_r14_last_ok {a0 : TApiBook} {a1 : Int} (r : R_r14_last) (h : F_r14_last a0 a1 = some r) : CallOk Tryz.prog 125 [(AV.d (TApiBook.e a0)), (vi a1)] [] (V_r14_last r) (L_r14_last r) := fOk (s := S_r14_last a0 a1) Tryz.func125 rfl (by kernel_rfl) h
abbrev R_r14_Order := TApiBook × Int
def V_r14_Order (x : R_r14_Order) : AV := (AV.tup [(AV.d (TApiBook.e x.1)), (vi x.2)])
def L_r14_Order (_ : R_r14_Order) : List Ob := []
def S_r14_Order (a0 : TApiBook) (a1 : Int) (a2 : Int) : Scr Tryz.prog R_r14_Order R_r14_Order :=
.reg 0 [] [(1, { obs := [(1, (bx (TApiBook.e (⟨[], [], [], []⟩ : TApiBook))))] })] [.pf cz4] <|
.call (@F_r14_Valid_ok a0) fun rv1 cv1 =>
.reg 1 [] [(1, hc cv1 [] true)] [.cl 0 cv1 [] 2 true] <|
.ite (!rv1) (
.reg 2 [] [(0, hv (AV.d (TApiBook.e (⟨[], [], [], []⟩ : TApiBook))))] [.pf cz5] <|
.ret [] ((⟨[], [], [], []⟩ : TApiBook), 1)) (
.ite (bif (decide (a1 < 1)) then true else (decide (a1 > (a0.Verifications.length : Int)))) (
.reg 4 [] [(0, hv (AV.d (TApiBook.e (⟨[], [], [], []⟩ : TApiBook))))] [.pf cz5] <|
.ret [] ((⟨[], [], [], []⟩ : TApiBook), 6)) (
.call (@F_r14_day_ok a2) fun rv2 cv2 =>
.reg 5 [] [(1, hc cv2 [] true)] [.cl 0 cv2 [] 2 true] <|
.ite (!rv2) (
.reg 6 [] [(0, hv (AV.d (TApiBook.e (⟨[], [], [], []⟩ : TApiBook))))] [.pf cz5] <|
.ret [] ((⟨[], [], [], []⟩ : TApiBook), 2)) (
.guard [(0 : Int) ≤ (IntKind.i64.wrap (a1 - 1)), ((IntKind.i64.wrap (a1 - 1))).toNat < a0.Verifications.length] <|
.reg 7 [] [] [.ev 0, .ev 1] <|
.call (@F_r14_last_ok a0 a1) fun rv3 cv3 =>
.reg 8 [] [(2, hc cv3 [] true)] [.cl 0 cv3 [] 3 true] <|
.call (@F_r02_Year_ok a2) fun rv4 cv4 =>
.call (@F_r14_year_ok a0 ((a0.Verifications.getD (((IntKind.i64.wrap (a1 - 1))).toNat) default).Commitment)) fun rv5 cv5 =>
.reg 9 [] [(1, hc cv4 [] true), (5, hc cv5 [] true)] [.cl 1 cv4 [] 4 true, .cl 0 cv5 [] 4 true] <|
.ite (decide (rv4 > (IntKind.i64.wrap (rv5 + 1)))) (
.reg 10 [] [(0, hv (AV.d (TApiBook.e (⟨[], [], [], []⟩ : TApiBook))))] [.pf cz5] <|
.ret [] ((⟨[], [], [], []⟩ : TApiBook), 16)) (
.ite (bif (decide (rv3.2 > 0)) then (!rv3.1.Back) else false) (
.reg 12 [] [(0, hv (AV.d (TApiBook.e (⟨[], [], [], []⟩ : TApiBook))))] [.pf cz5] <|
.ret [] ((⟨[], [], [], []⟩ : TApiBook), 20)) (
.ite (bif (decide (a2 < ((a0.Verifications.getD (((IntKind.i64.wrap (a1 - 1))).toNat) default).Day))) then true else (bif (decide (rv3.2 > 0)) then (decide (a2 < rv3.1.Day)) else false)) (
.reg 14 [] [(0, hv (AV.d (TApiBook.e (⟨[], [], [], []⟩ : TApiBook))))] [.pf cz5] <|
.ret [] ((⟨[], [], [], []⟩ : TApiBook), 8)) (
.ite ((a0.Orders.length : Int) == 200) (
.reg 16 [] [(0, hv (AV.d (TApiBook.e (⟨[], [], [], []⟩ : TApiBook))))] [.pf cz5] <|
.ret [] ((⟨[], [], [], []⟩ : TApiBook), 3)) (
.call (@F_r14_copied_rw_ok a0) fun rv6 cv6 =>
.reg 17 [] [(1, hc cv6 [] false), (2, { h := .obj })] [.cl 0 cv6 [] 4 false] <|
.kill 5 <|
.guard [rv6.1.length < 2 ^ 63] <|
.frz 6 (.ev 0) none [] [10] <|
.guard [rv6.2.1.length < 2 ^ 63] <|
.frz 7 (.ev 0) none [] [10] <|
.guard [rv6.2.2.1.length < 2 ^ 63] <|
.frz 8 (.ev 0) none [] [10] <|
.guard [(rv6.2.2.2.length + 1) * (2 * 40) ≤ 2 ^ 48] <|
.reg 18 [] [(11, hv (AV.d (eL TApiOrder.e ([(⟨(IntKind.i64.wrap ((a0.Orders.length : Int) + 1)), a1, (IntKind.i64.wrap (rv3.2 + 1)), a2, false⟩ : TApiOrder)] : List TApiOrder)))), (12, { cast := some (AV.ref 9 ((rv6.2.2.2 ++ ([(⟨(IntKind.i64.wrap ((a0.Orders.length : Int) + 1)), a1, (IntKind.i64.wrap (rv3.2 + 1)), a2, false⟩ : TApiOrder)] : List TApiOrder)).length) 0 ((rv6.2.2.2 ++ ([(⟨(IntKind.i64.wrap ((a0.Orders.length : Int) + 1)), a1, (IntKind.i64.wrap (rv3.2 + 1)), a2, false⟩ : TApiOrder)] : List TApiOrder)).length)), obs := [(9, (eS 5 TApiOrder.e (rv6.2.2.2 ++ ([(⟨(IntKind.i64.wrap ((a0.Orders.length : Int) + 1)), a1, (IntKind.i64.wrap (rv3.2 + 1)), a2, false⟩ : TApiOrder)] : List TApiOrder))))] })] [.pf (leV_lit TApiOrder.e ([(⟨(IntKind.i64.wrap ((a0.Orders.length : Int) + 1)), a1, (IntKind.i64.wrap (rv3.2 + 1)), a2, false⟩ : TApiOrder)] : List TApiOrder)), .pf (Eq.refl rv6.2.2.2.length), .pf (Eq.refl rv6.2.2.2.length), .pf (p := ∀ k, k < 1 → (AV.d (TApiOrder.e (([(⟨(IntKind.i64.wrap ((a0.Orders.length : Int) + 1)), a1, (IntKind.i64.wrap (rv3.2 + 1)), a2, false⟩ : TApiOrder)] : List TApiOrder).getD k default))).wd = 5) (fun _ _ => rfl), .ev 0, .pf (leV_app (o := 9) (l := rv6.2.2.2) (x := ([(⟨(IntKind.i64.wrap ((a0.Orders.length : Int) + 1)), a1, (IntKind.i64.wrap (rv3.2 + 1)), a2, false⟩ : TApiOrder)] : List TApiOrder))), .pf (oLe_app (sz := 5) (e := TApiOrder.e) (l := rv6.2.2.2) (x := ([(⟨(IntKind.i64.wrap ((a0.Orders.length : Int) + 1)), a1, (IntKind.i64.wrap (rv3.2 + 1)), a2, false⟩ : TApiOrder)] : List TApiOrder)))] <|
.guard [(rv6.2.2.2 ++ ([(⟨(IntKind.i64.wrap ((a0.Orders.length : Int) + 1)), a1, (IntKind.i64.wrap (rv3.2 + 1)), a2, false⟩ : TApiOrder)] : List TApiOrder)).length < 2 ^ 63] <|
.reg 19 [] [] [] <|
.frz 9 (.ev 0) none [] [1, 10] <|
.ret [] ((⟨rv6.1, rv6.2.1, rv6.2.2.1, (rv6.2.2.2 ++ ([(⟨(IntKind.i64.wrap ((a0.Orders.length : Int) + 1)), a1, (IntKind.i64.wrap (rv3.2 + 1)), a2, false⟩ : TApiOrder)] : List TApiOrder))⟩ : TApiBook), 0))))))))
def F_r14_Order (a0 : TApiBook) (a1 : Int) (a2 : Int) : Option R_r14_Order := (S_r14_Order a0 a1 a2).den
theorem F_r14_Order_ok {a0 : TApiBook} {a1 : Int} {a2 : Int} (r : R_r14_Order) (h : F_r14_Order a0 a1 a2 = some r) : CallOk Tryz.prog 81 [(AV.d (TApiBook.e a0)), (vi a1), (vi a2)] [] (V_r14_Order r) (L_r14_Order r) := fOk (s := S_r14_Order a0 a1 a2) Tryz.func81 rfl (by kernel_rfl) h
abbrev R_r14_Release := TApiBook × Int
def V_r14_Release (x : R_r14_Release) : AV := (AV.tup [(AV.d (TApiBook.e x.1)), (vi x.2)])
def L_r14_Release (_ : R_r14_Release) : List Ob := []
def S_r14_Release (a0 : TApiBook) (a1 : Int) (a2 : Int) : Scr Tryz.prog R_r14_Release R_r14_Release :=
.reg 0 [] [(1, { obs := [(1, (bx (TApiBook.e (⟨[], [], [], []⟩ : TApiBook))))] })] [.pf cz4] <|
.call (@F_r14_Valid_ok a0) fun rv1 cv1 =>
.reg 1 [] [(1, hc cv1 [] true)] [.cl 0 cv1 [] 2 true] <|
.ite (!rv1) (
.reg 2 [] [(0, hv (AV.d (TApiBook.e (⟨[], [], [], []⟩ : TApiBook))))] [.pf cz5] <|
.ret [] ((⟨[], [], [], []⟩ : TApiBook), 1)) (
.ite (bif (decide (a1 < 1)) then true else (decide (a1 > (a0.Reservations.length : Int)))) (
.reg 4 [] [(0, hv (AV.d (TApiBook.e (⟨[], [], [], []⟩ : TApiBook))))] [.pf cz5] <|
.ret [] ((⟨[], [], [], []⟩ : TApiBook), 6)) (
.call (@F_r14_amount_ok a2) fun rv2 cv2 =>
.reg 5 [] [(1, hc cv2 [] true)] [.cl 0 cv2 [] 2 true] <|
.ite (!rv2) (
.reg 6 [] [(0, hv (AV.d (TApiBook.e (⟨[], [], [], []⟩ : TApiBook))))] [.pf cz5] <|
.ret [] ((⟨[], [], [], []⟩ : TApiBook), 2)) (
.call (@F_r14_Left_ok a0 a1) fun rv3 cv3 =>
.reg 7 [] [(3, hc cv3 [] true)] [.cl 0 cv3 [] 2 true] <|
.ite (decide (a2 > rv3)) (
.reg 8 [] [(0, hv (AV.d (TApiBook.e (⟨[], [], [], []⟩ : TApiBook))))] [.pf cz5] <|
.ret [] ((⟨[], [], [], []⟩ : TApiBook), 15)) (
.call (@F_r14_copied_rw_ok a0) fun rv4 cv4 =>
.reg 9 [] [(1, hc cv4 [] false), (2, { obs := [(8, (bx (TApiBook.e (⟨[], [], [], []⟩ : TApiBook))))] })] [.cl 0 cv4 [] 2 false, .pf cz4] <|
.kill 3 <|
.guard [rv4.2.1.length < 2 ^ 63] <|
.frz 5 (.ev 0) none [] [8] <|
.guard [rv4.2.2.1.length < 2 ^ 63] <|
.frz 6 (.ev 0) none [] [8] <|
.guard [rv4.2.2.2.length < 2 ^ 63] <|
.frz 7 (.ev 0) none [] [8] <|
.guard [(0 : Int) ≤ (IntKind.i64.wrap (a1 - 1)), ((IntKind.i64.wrap (a1 - 1))).toNat < rv4.1.length, (0 + ((IntKind.i64.wrap (a1 - 1))).toNat) < rv4.1.length] <|
.reg 10 [] [(11, { obs := [(4, (eS 6 TApiReservation.e (rv4.1.set (0 + ((IntKind.i64.wrap (a1 - 1))).toNat) (⟨(rv4.1.getD (0 + ((IntKind.i64.wrap (a1 - 1))).toNat) default).Number, (rv4.1.getD (0 + ((IntKind.i64.wrap (a1 - 1))).toNat) default).Code, (rv4.1.getD (0 + ((IntKind.i64.wrap (a1 - 1))).toNat) default).Year, (rv4.1.getD (0 + ((IntKind.i64.wrap (a1 - 1))).toNat) default).Day, (rv4.1.getD (0 + ((IntKind.i64.wrap (a1 - 1))).toNat) default).Amount, (IntKind.i64.wrap (((rv4.1.getD (0 + ((IntKind.i64.wrap (a1 - 1))).toNat) default).Released) + a2))⟩ : TApiReservation))))] })] [.pf (Eq.refl rv4.1.length), .ev 0, .ev 1, .pf (Eq.refl rv4.1.length), .pf (Eq.refl rv4.1.length), .ev 2, .pf (Eq.refl rv4.1.length), .ev 0, .ev 1, .pf (Eq.refl rv4.1.length), .pf (Eq.refl rv4.1.length), .ev 2, .pf (oLe_set (sz := 6) (e := TApiReservation.e) (l := rv4.1) (i := (0 + ((IntKind.i64.wrap (a1 - 1))).toNat)) (x := (⟨(rv4.1.getD (0 + ((IntKind.i64.wrap (a1 - 1))).toNat) default).Number, (rv4.1.getD (0 + ((IntKind.i64.wrap (a1 - 1))).toNat) default).Code, (rv4.1.getD (0 + ((IntKind.i64.wrap (a1 - 1))).toNat) default).Year, (rv4.1.getD (0 + ((IntKind.i64.wrap (a1 - 1))).toNat) default).Day, (rv4.1.getD (0 + ((IntKind.i64.wrap (a1 - 1))).toNat) default).Amount, (IntKind.i64.wrap (((rv4.1.getD (0 + ((IntKind.i64.wrap (a1 - 1))).toNat) default).Released) + a2))⟩ : TApiReservation)) (fun _ => rfl))] <|
.cst (A := True) (.pf trivial) [(6, (vp 1)), (8, (vp 8))] [(6, (vp 1)), (8, (vp 8))] [(bx (TApiBook.e a0)), (bx (TApiBook.e (⟨[], [], [], []⟩ : TApiBook))), Ob.dead, Ob.dead, (eS 6 TApiReservation.e (rv4.1.set (0 + ((IntKind.i64.wrap (a1 - 1))).toNat) (⟨(rv4.1.getD (0 + ((IntKind.i64.wrap (a1 - 1))).toNat) default).Number, (rv4.1.getD (0 + ((IntKind.i64.wrap (a1 - 1))).toNat) default).Code, (rv4.1.getD (0 + ((IntKind.i64.wrap (a1 - 1))).toNat) default).Year, (rv4.1.getD (0 + ((IntKind.i64.wrap (a1 - 1))).toNat) default).Day, (rv4.1.getD (0 + ((IntKind.i64.wrap (a1 - 1))).toNat) default).Amount, (IntKind.i64.wrap (((rv4.1.getD (0 + ((IntKind.i64.wrap (a1 - 1))).toNat) default).Released) + a2))⟩ : TApiReservation))), Ob.dead, Ob.dead, Ob.dead, (Ob.box (AV.agg [(AV.ref 4 rv4.1.length 0 rv4.1.length), (AV.d (eL TApiCommitment.e rv4.2.1)), (AV.d (eL TApiVerification.e rv4.2.2.1)), (AV.d (eL TApiOrder.e rv4.2.2.2))]))] [(bx (TApiBook.e a0)), (bx (TApiBook.e (⟨[], [], [], []⟩ : TApiBook))), Ob.dead, Ob.dead, (eS 6 TApiReservation.e (rv4.1.set (0 + ((IntKind.i64.wrap (a1 - 1))).toNat) (⟨(rv4.1.getD (0 + ((IntKind.i64.wrap (a1 - 1))).toNat) default).Number, (rv4.1.getD (0 + ((IntKind.i64.wrap (a1 - 1))).toNat) default).Code, (rv4.1.getD (0 + ((IntKind.i64.wrap (a1 - 1))).toNat) default).Year, (rv4.1.getD (0 + ((IntKind.i64.wrap (a1 - 1))).toNat) default).Day, (rv4.1.getD (0 + ((IntKind.i64.wrap (a1 - 1))).toNat) default).Amount, (IntKind.i64.wrap (((rv4.1.getD (0 + ((IntKind.i64.wrap (a1 - 1))).toNat) default).Released) + a2))⟩ : TApiReservation))), Ob.dead, Ob.dead, Ob.dead, (Ob.box (AV.agg [(AV.ref 4 ((rv4.1.set (0 + ((IntKind.i64.wrap (a1 - 1))).toNat) (⟨(rv4.1.getD (0 + ((IntKind.i64.wrap (a1 - 1))).toNat) default).Number, (rv4.1.getD (0 + ((IntKind.i64.wrap (a1 - 1))).toNat) default).Code, (rv4.1.getD (0 + ((IntKind.i64.wrap (a1 - 1))).toNat) default).Year, (rv4.1.getD (0 + ((IntKind.i64.wrap (a1 - 1))).toNat) default).Day, (rv4.1.getD (0 + ((IntKind.i64.wrap (a1 - 1))).toNat) default).Amount, (IntKind.i64.wrap (((rv4.1.getD (0 + ((IntKind.i64.wrap (a1 - 1))).toNat) default).Released) + a2))⟩ : TApiReservation)).length) 0 ((rv4.1.set (0 + ((IntKind.i64.wrap (a1 - 1))).toNat) (⟨(rv4.1.getD (0 + ((IntKind.i64.wrap (a1 - 1))).toNat) default).Number, (rv4.1.getD (0 + ((IntKind.i64.wrap (a1 - 1))).toNat) default).Code, (rv4.1.getD (0 + ((IntKind.i64.wrap (a1 - 1))).toNat) default).Year, (rv4.1.getD (0 + ((IntKind.i64.wrap (a1 - 1))).toNat) default).Day, (rv4.1.getD (0 + ((IntKind.i64.wrap (a1 - 1))).toNat) default).Amount, (IntKind.i64.wrap (((rv4.1.getD (0 + ((IntKind.i64.wrap (a1 - 1))).toNat) default).Released) + a2))⟩ : TApiReservation)).length)), (AV.d (eL TApiCommitment.e rv4.2.1)), (AV.d (eL TApiVerification.e rv4.2.2.1)), (AV.d (eL TApiOrder.e rv4.2.2.2))]))] (fun _ => ⟨by simp only, by simp only [List.length_set]⟩) <|
.guard [(rv4.1.set (0 + ((IntKind.i64.wrap (a1 - 1))).toNat) (⟨(rv4.1.getD (0 + ((IntKind.i64.wrap (a1 - 1))).toNat) default).Number, (rv4.1.getD (0 + ((IntKind.i64.wrap (a1 - 1))).toNat) default).Code, (rv4.1.getD (0 + ((IntKind.i64.wrap (a1 - 1))).toNat) default).Year, (rv4.1.getD (0 + ((IntKind.i64.wrap (a1 - 1))).toNat) default).Day, (rv4.1.getD (0 + ((IntKind.i64.wrap (a1 - 1))).toNat) default).Amount, (IntKind.i64.wrap (((rv4.1.getD (0 + ((IntKind.i64.wrap (a1 - 1))).toNat) default).Released) + a2))⟩ : TApiReservation)).length < 2 ^ 63] <|
.reg 11 [] [] [] <|
.frz 4 (.ev 0) none [] [1, 8] <|
.ret [] ((⟨(rv4.1.set (0 + ((IntKind.i64.wrap (a1 - 1))).toNat) (⟨(rv4.1.getD (0 + ((IntKind.i64.wrap (a1 - 1))).toNat) default).Number, (rv4.1.getD (0 + ((IntKind.i64.wrap (a1 - 1))).toNat) default).Code, (rv4.1.getD (0 + ((IntKind.i64.wrap (a1 - 1))).toNat) default).Year, (rv4.1.getD (0 + ((IntKind.i64.wrap (a1 - 1))).toNat) default).Day, (rv4.1.getD (0 + ((IntKind.i64.wrap (a1 - 1))).toNat) default).Amount, (IntKind.i64.wrap (((rv4.1.getD (0 + ((IntKind.i64.wrap (a1 - 1))).toNat) default).Released) + a2))⟩ : TApiReservation)), rv4.2.1, rv4.2.2.1, rv4.2.2.2⟩ : TApiBook), 0)))))
def F_r14_Release (a0 : TApiBook) (a1 : Int) (a2 : Int) : Option R_r14_Release := (S_r14_Release a0 a1 a2).den
theorem F_r14_Release_ok {a0 : TApiBook} {a1 : Int} {a2 : Int} (r : R_r14_Release) (h : F_r14_Release a0 a1 a2 = some r) : CallOk Tryz.prog 82 [(AV.d (TApiBook.e a0)), (vi a1), (vi a2)] [] (V_r14_Release r) (L_r14_Release r) := fOk (s := S_r14_Release a0 a1 a2) Tryz.func82 rfl (by kernel_rfl) h
abbrev R_r14_Drop := TApiBook × Int
def V_r14_Drop (x : R_r14_Drop) : AV := (AV.tup [(AV.d (TApiBook.e x.1)), (vi x.2)])
def L_r14_Drop (_ : R_r14_Drop) : List Ob := []
def S_r14_Drop (a0 : TApiBook) (a1 : Int) (a2 : Int) : Scr Tryz.prog R_r14_Drop R_r14_Drop :=
.reg 0 [] [(1, { obs := [(1, (bx (TApiBook.e (⟨[], [], [], []⟩ : TApiBook))))] })] [.pf cz4] <|
.call (@F_r14_Valid_ok a0) fun rv1 cv1 =>
.reg 1 [] [(1, hc cv1 [] true)] [.cl 0 cv1 [] 2 true] <|
.ite (!rv1) (
.reg 2 [] [(0, hv (AV.d (TApiBook.e (⟨[], [], [], []⟩ : TApiBook))))] [.pf cz5] <|
.ret [] ((⟨[], [], [], []⟩ : TApiBook), 1)) (
.ite (bif (decide (a1 < 1)) then true else (decide (a1 > (a0.Commitments.length : Int)))) (
.reg 4 [] [(0, hv (AV.d (TApiBook.e (⟨[], [], [], []⟩ : TApiBook))))] [.pf cz5] <|
.ret [] ((⟨[], [], [], []⟩ : TApiBook), 6)) (
.call (@F_r14_amount_ok a2) fun rv2 cv2 =>
.reg 5 [] [(1, hc cv2 [] true)] [.cl 0 cv2 [] 2 true] <|
.ite (!rv2) (
.reg 6 [] [(0, hv (AV.d (TApiBook.e (⟨[], [], [], []⟩ : TApiBook))))] [.pf cz5] <|
.ret [] ((⟨[], [], [], []⟩ : TApiBook), 2)) (
.call (@F_r14_rest_ok a0 (a0.Commitments.getD (((IntKind.i64.wrap (a1 - 1))).toNat) default)) fun rv3 cv3 =>
.guard [(0 : Int) ≤ (IntKind.i64.wrap (a1 - 1)), ((IntKind.i64.wrap (a1 - 1))).toNat < a0.Commitments.length] <|
.reg 7 [] [(8, hc cv3 [] true)] [.ev 0, .ev 1, .cl 2 cv3 [] 2 true] <|
.ite (decide (a2 > rv3)) (
.reg 8 [] [(0, hv (AV.d (TApiBook.e (⟨[], [], [], []⟩ : TApiBook))))] [.pf cz5] <|
.ret [] ((⟨[], [], [], []⟩ : TApiBook), 15)) (
.call (@F_r14_copied_rw_ok a0) fun rv4 cv4 =>
.reg 9 [] [(1, hc cv4 [] false), (2, { obs := [(8, (bx (TApiBook.e (⟨[], [], [], []⟩ : TApiBook))))] })] [.cl 0 cv4 [] 2 false, .pf cz4] <|
.kill 3 <|
.guard [rv4.1.length < 2 ^ 63] <|
.frz 4 (.ev 0) none [] [8] <|
.guard [rv4.2.2.1.length < 2 ^ 63] <|
.frz 6 (.ev 0) none [] [8] <|
.guard [rv4.2.2.2.length < 2 ^ 63] <|
.frz 7 (.ev 0) none [] [8] <|
.guard [((IntKind.i64.wrap (a1 - 1))).toNat < rv4.2.1.length, (0 + ((IntKind.i64.wrap (a1 - 1))).toNat) < rv4.2.1.length] <|
.reg 10 [] [(11, { obs := [(5, (eS 7 TApiCommitment.e (rv4.2.1.set (0 + ((IntKind.i64.wrap (a1 - 1))).toNat) (⟨(rv4.2.1.getD (0 + ((IntKind.i64.wrap (a1 - 1))).toNat) default).Number, (rv4.2.1.getD (0 + ((IntKind.i64.wrap (a1 - 1))).toNat) default).Reservation, (rv4.2.1.getD (0 + ((IntKind.i64.wrap (a1 - 1))).toNat) default).Day, (rv4.2.1.getD (0 + ((IntKind.i64.wrap (a1 - 1))).toNat) default).Amount, (IntKind.i64.wrap (((rv4.2.1.getD (0 + ((IntKind.i64.wrap (a1 - 1))).toNat) default).Released) + a2)), (rv4.2.1.getD (0 + ((IntKind.i64.wrap (a1 - 1))).toNat) default).Payee, (rv4.2.1.getD (0 + ((IntKind.i64.wrap (a1 - 1))).toNat) default).Due⟩ : TApiCommitment))))] })] [.pf (Eq.refl rv4.2.1.length), .ev 7, .ev 0, .pf (Eq.refl rv4.2.1.length), .pf (Eq.refl rv4.2.1.length), .ev 1, .pf (Eq.refl rv4.2.1.length), .ev 7, .ev 0, .pf (Eq.refl rv4.2.1.length), .pf (Eq.refl rv4.2.1.length), .ev 1, .pf (oLe_set (sz := 7) (e := TApiCommitment.e) (l := rv4.2.1) (i := (0 + ((IntKind.i64.wrap (a1 - 1))).toNat)) (x := (⟨(rv4.2.1.getD (0 + ((IntKind.i64.wrap (a1 - 1))).toNat) default).Number, (rv4.2.1.getD (0 + ((IntKind.i64.wrap (a1 - 1))).toNat) default).Reservation, (rv4.2.1.getD (0 + ((IntKind.i64.wrap (a1 - 1))).toNat) default).Day, (rv4.2.1.getD (0 + ((IntKind.i64.wrap (a1 - 1))).toNat) default).Amount, (IntKind.i64.wrap (((rv4.2.1.getD (0 + ((IntKind.i64.wrap (a1 - 1))).toNat) default).Released) + a2)), (rv4.2.1.getD (0 + ((IntKind.i64.wrap (a1 - 1))).toNat) default).Payee, (rv4.2.1.getD (0 + ((IntKind.i64.wrap (a1 - 1))).toNat) default).Due⟩ : TApiCommitment)) (fun _ => rfl))] <|
.cst (A := True) (.pf trivial) [(6, (vp 1)), (8, (vp 8))] [(6, (vp 1)), (8, (vp 8))] [(bx (TApiBook.e a0)), (bx (TApiBook.e (⟨[], [], [], []⟩ : TApiBook))), Ob.dead, Ob.dead, Ob.dead, (eS 7 TApiCommitment.e (rv4.2.1.set (0 + ((IntKind.i64.wrap (a1 - 1))).toNat) (⟨(rv4.2.1.getD (0 + ((IntKind.i64.wrap (a1 - 1))).toNat) default).Number, (rv4.2.1.getD (0 + ((IntKind.i64.wrap (a1 - 1))).toNat) default).Reservation, (rv4.2.1.getD (0 + ((IntKind.i64.wrap (a1 - 1))).toNat) default).Day, (rv4.2.1.getD (0 + ((IntKind.i64.wrap (a1 - 1))).toNat) default).Amount, (IntKind.i64.wrap (((rv4.2.1.getD (0 + ((IntKind.i64.wrap (a1 - 1))).toNat) default).Released) + a2)), (rv4.2.1.getD (0 + ((IntKind.i64.wrap (a1 - 1))).toNat) default).Payee, (rv4.2.1.getD (0 + ((IntKind.i64.wrap (a1 - 1))).toNat) default).Due⟩ : TApiCommitment))), Ob.dead, Ob.dead, (Ob.box (AV.agg [(AV.d (eL TApiReservation.e rv4.1)), (AV.ref 5 rv4.2.1.length 0 rv4.2.1.length), (AV.d (eL TApiVerification.e rv4.2.2.1)), (AV.d (eL TApiOrder.e rv4.2.2.2))]))] [(bx (TApiBook.e a0)), (bx (TApiBook.e (⟨[], [], [], []⟩ : TApiBook))), Ob.dead, Ob.dead, Ob.dead, (eS 7 TApiCommitment.e (rv4.2.1.set (0 + ((IntKind.i64.wrap (a1 - 1))).toNat) (⟨(rv4.2.1.getD (0 + ((IntKind.i64.wrap (a1 - 1))).toNat) default).Number, (rv4.2.1.getD (0 + ((IntKind.i64.wrap (a1 - 1))).toNat) default).Reservation, (rv4.2.1.getD (0 + ((IntKind.i64.wrap (a1 - 1))).toNat) default).Day, (rv4.2.1.getD (0 + ((IntKind.i64.wrap (a1 - 1))).toNat) default).Amount, (IntKind.i64.wrap (((rv4.2.1.getD (0 + ((IntKind.i64.wrap (a1 - 1))).toNat) default).Released) + a2)), (rv4.2.1.getD (0 + ((IntKind.i64.wrap (a1 - 1))).toNat) default).Payee, (rv4.2.1.getD (0 + ((IntKind.i64.wrap (a1 - 1))).toNat) default).Due⟩ : TApiCommitment))), Ob.dead, Ob.dead, (Ob.box (AV.agg [(AV.d (eL TApiReservation.e rv4.1)), (AV.ref 5 ((rv4.2.1.set (0 + ((IntKind.i64.wrap (a1 - 1))).toNat) (⟨(rv4.2.1.getD (0 + ((IntKind.i64.wrap (a1 - 1))).toNat) default).Number, (rv4.2.1.getD (0 + ((IntKind.i64.wrap (a1 - 1))).toNat) default).Reservation, (rv4.2.1.getD (0 + ((IntKind.i64.wrap (a1 - 1))).toNat) default).Day, (rv4.2.1.getD (0 + ((IntKind.i64.wrap (a1 - 1))).toNat) default).Amount, (IntKind.i64.wrap (((rv4.2.1.getD (0 + ((IntKind.i64.wrap (a1 - 1))).toNat) default).Released) + a2)), (rv4.2.1.getD (0 + ((IntKind.i64.wrap (a1 - 1))).toNat) default).Payee, (rv4.2.1.getD (0 + ((IntKind.i64.wrap (a1 - 1))).toNat) default).Due⟩ : TApiCommitment)).length) 0 ((rv4.2.1.set (0 + ((IntKind.i64.wrap (a1 - 1))).toNat) (⟨(rv4.2.1.getD (0 + ((IntKind.i64.wrap (a1 - 1))).toNat) default).Number, (rv4.2.1.getD (0 + ((IntKind.i64.wrap (a1 - 1))).toNat) default).Reservation, (rv4.2.1.getD (0 + ((IntKind.i64.wrap (a1 - 1))).toNat) default).Day, (rv4.2.1.getD (0 + ((IntKind.i64.wrap (a1 - 1))).toNat) default).Amount, (IntKind.i64.wrap (((rv4.2.1.getD (0 + ((IntKind.i64.wrap (a1 - 1))).toNat) default).Released) + a2)), (rv4.2.1.getD (0 + ((IntKind.i64.wrap (a1 - 1))).toNat) default).Payee, (rv4.2.1.getD (0 + ((IntKind.i64.wrap (a1 - 1))).toNat) default).Due⟩ : TApiCommitment)).length)), (AV.d (eL TApiVerification.e rv4.2.2.1)), (AV.d (eL TApiOrder.e rv4.2.2.2))]))] (fun _ => ⟨by simp only, by simp only [List.length_set]⟩) <|
.guard [(rv4.2.1.set (0 + ((IntKind.i64.wrap (a1 - 1))).toNat) (⟨(rv4.2.1.getD (0 + ((IntKind.i64.wrap (a1 - 1))).toNat) default).Number, (rv4.2.1.getD (0 + ((IntKind.i64.wrap (a1 - 1))).toNat) default).Reservation, (rv4.2.1.getD (0 + ((IntKind.i64.wrap (a1 - 1))).toNat) default).Day, (rv4.2.1.getD (0 + ((IntKind.i64.wrap (a1 - 1))).toNat) default).Amount, (IntKind.i64.wrap (((rv4.2.1.getD (0 + ((IntKind.i64.wrap (a1 - 1))).toNat) default).Released) + a2)), (rv4.2.1.getD (0 + ((IntKind.i64.wrap (a1 - 1))).toNat) default).Payee, (rv4.2.1.getD (0 + ((IntKind.i64.wrap (a1 - 1))).toNat) default).Due⟩ : TApiCommitment)).length < 2 ^ 63] <|
.reg 11 [] [] [] <|
.frz 5 (.ev 0) none [] [1, 8] <|
.ret [] ((⟨rv4.1, (rv4.2.1.set (0 + ((IntKind.i64.wrap (a1 - 1))).toNat) (⟨(rv4.2.1.getD (0 + ((IntKind.i64.wrap (a1 - 1))).toNat) default).Number, (rv4.2.1.getD (0 + ((IntKind.i64.wrap (a1 - 1))).toNat) default).Reservation, (rv4.2.1.getD (0 + ((IntKind.i64.wrap (a1 - 1))).toNat) default).Day, (rv4.2.1.getD (0 + ((IntKind.i64.wrap (a1 - 1))).toNat) default).Amount, (IntKind.i64.wrap (((rv4.2.1.getD (0 + ((IntKind.i64.wrap (a1 - 1))).toNat) default).Released) + a2)), (rv4.2.1.getD (0 + ((IntKind.i64.wrap (a1 - 1))).toNat) default).Payee, (rv4.2.1.getD (0 + ((IntKind.i64.wrap (a1 - 1))).toNat) default).Due⟩ : TApiCommitment)), rv4.2.2.1, rv4.2.2.2⟩ : TApiBook), 0)))))
def F_r14_Drop (a0 : TApiBook) (a1 : Int) (a2 : Int) : Option R_r14_Drop := (S_r14_Drop a0 a1 a2).den
theorem F_r14_Drop_ok {a0 : TApiBook} {a1 : Int} {a2 : Int} (r : R_r14_Drop) (h : F_r14_Drop a0 a1 a2 = some r) : CallOk Tryz.prog 83 [(AV.d (TApiBook.e a0)), (vi a1), (vi a2)] [] (V_r14_Drop r) (L_r14_Drop r) := fOk (s := S_r14_Drop a0 a1 a2) Tryz.func83 rfl (by kernel_rfl) h
end
end Go.Proofs.YtclaojamgomjbaaGreatDoor
/- What the functions compute, and that their calls return it. No condition. -/
namespace Go.Proofs.YtclaojamgomjbaaGreatDoor
open Go Go.TA
noncomputable section
set_option maxRecDepth 100000
abbrev R_r14_Back := TApiBook × Int
def V_r14_Back (x : R_r14_Back) : AV := (AV.tup [(AV.d (TApiBook.e x.1)), (vi x.2)])
def L_r14_Back (_ : R_r14_Back) : List Ob := []
def S_r14_Back (a0 : TApiBook) (a1 : Int) : Scr Tryz.prog R_r14_Back R_r14_Back :=
.reg 0 [] [(1, { obs := [(1, (bx (TApiBook.e (⟨[], [], [], []⟩ : TApiBook))))] })] [.pf cz4] <|
.call (@F_r14_Valid_ok a0) fun rv1 cv1 =>
.reg 1 [] [(1, hc cv1 [] true)] [.cl 0 cv1 [] 2 true] <|
.ite (!rv1) (
.reg 2 [] [(0, hv (AV.d (TApiBook.e (⟨[], [], [], []⟩ : TApiBook))))] [.pf cz5] <|
.ret [] ((⟨[], [], [], []⟩ : TApiBook), 1)) (
.ite (bif (decide (a1 < 1)) then true else (decide (a1 > (a0.Verifications.length : Int)))) (
.reg 4 [] [(0, hv (AV.d (TApiBook.e (⟨[], [], [], []⟩ : TApiBook))))] [.pf cz5] <|
.ret [] ((⟨[], [], [], []⟩ : TApiBook), 6)) (
.call (@F_r14_last_ok a0 a1) fun rv2 cv2 =>
.reg 5 [] [(2, hc cv2 [] true)] [.cl 0 cv2 [] 2 true] <|
.ite (bif (rv2.2 == 0) then true else rv2.1.Back) (
.reg 7 [] [(0, hv (AV.d (TApiBook.e (⟨[], [], [], []⟩ : TApiBook))))] [.pf cz5] <|
.ret [] ((⟨[], [], [], []⟩ : TApiBook), 9)) (
.call (@F_r14_copied_rw_ok a0) fun rv3 cv3 =>
.reg 8 [] [(1, hc cv3 [] false), (2, { obs := [(9, (bx (TApiBook.e (⟨[], [], [], []⟩ : TApiBook))))] })] [.cl 0 cv3 [] 3 false, .pf cz4] <|
.kill 4 <|
.guard [rv3.1.length < 2 ^ 63] <|
.frz 5 (.ev 0) none [] [9] <|
.guard [rv3.2.1.length < 2 ^ 63] <|
.frz 6 (.ev 0) none [] [9] <|
.guard [rv3.2.2.1.length < 2 ^ 63] <|
.frz 7 (.ev 0) none [] [9] <|
.guard [(0 : Int) ≤ (IntKind.i64.wrap (rv2.1.Number - 1)), ((IntKind.i64.wrap (rv2.1.Number - 1))).toNat < rv3.2.2.2.length, (0 + ((IntKind.i64.wrap (rv2.1.Number - 1))).toNat) < rv3.2.2.2.length] <|
.reg 9 [] [(7, { obs := [(8, (eS 5 TApiOrder.e (rv3.2.2.2.set (0 + ((IntKind.i64.wrap (rv2.1.Number - 1))).toNat) (⟨(rv3.2.2.2.getD (0 + ((IntKind.i64.wrap (rv2.1.Number - 1))).toNat) default).Number, (rv3.2.2.2.getD (0 + ((IntKind.i64.wrap (rv2.1.Number - 1))).toNat) default).Verification, (rv3.2.2.2.getD (0 + ((IntKind.i64.wrap (rv2.1.Number - 1))).toNat) default).Attempt, (rv3.2.2.2.getD (0 + ((IntKind.i64.wrap (rv2.1.Number - 1))).toNat) default).Day, true⟩ : TApiOrder))))] })] [.pf (Eq.refl rv3.2.2.2.length), .ev 0, .ev 1, .pf (Eq.refl rv3.2.2.2.length), .pf (Eq.refl rv3.2.2.2.length), .ev 2, .pf (oLe_set (sz := 5) (e := TApiOrder.e) (l := rv3.2.2.2) (i := (0 + ((IntKind.i64.wrap (rv2.1.Number - 1))).toNat)) (x := (⟨(rv3.2.2.2.getD (0 + ((IntKind.i64.wrap (rv2.1.Number - 1))).toNat) default).Number, (rv3.2.2.2.getD (0 + ((IntKind.i64.wrap (rv2.1.Number - 1))).toNat) default).Verification, (rv3.2.2.2.getD (0 + ((IntKind.i64.wrap (rv2.1.Number - 1))).toNat) default).Attempt, (rv3.2.2.2.getD (0 + ((IntKind.i64.wrap (rv2.1.Number - 1))).toNat) default).Day, true⟩ : TApiOrder)) (fun _ => rfl))] <|
.cst (A := True) (.pf trivial) [(4, (vp 1)), (8, (vp 9))] [(4, (vp 1)), (8, (vp 9))] [(bx (TApiBook.e a0)), (bx (TApiBook.e (⟨[], [], [], []⟩ : TApiBook))), (bx (TApiOrder.e rv2.1)), Ob.dead, Ob.dead, Ob.dead, Ob.dead, Ob.dead, (eS 5 TApiOrder.e (rv3.2.2.2.set (0 + ((IntKind.i64.wrap (rv2.1.Number - 1))).toNat) (⟨(rv3.2.2.2.getD (0 + ((IntKind.i64.wrap (rv2.1.Number - 1))).toNat) default).Number, (rv3.2.2.2.getD (0 + ((IntKind.i64.wrap (rv2.1.Number - 1))).toNat) default).Verification, (rv3.2.2.2.getD (0 + ((IntKind.i64.wrap (rv2.1.Number - 1))).toNat) default).Attempt, (rv3.2.2.2.getD (0 + ((IntKind.i64.wrap (rv2.1.Number - 1))).toNat) default).Day, true⟩ : TApiOrder))), (Ob.box (AV.agg [(AV.d (eL TApiReservation.e rv3.1)), (AV.d (eL TApiCommitment.e rv3.2.1)), (AV.d (eL TApiVerification.e rv3.2.2.1)), (AV.ref 8 rv3.2.2.2.length 0 rv3.2.2.2.length)]))] [(bx (TApiBook.e a0)), (bx (TApiBook.e (⟨[], [], [], []⟩ : TApiBook))), (bx (TApiOrder.e rv2.1)), Ob.dead, Ob.dead, Ob.dead, Ob.dead, Ob.dead, (eS 5 TApiOrder.e (rv3.2.2.2.set (0 + ((IntKind.i64.wrap (rv2.1.Number - 1))).toNat) (⟨(rv3.2.2.2.getD (0 + ((IntKind.i64.wrap (rv2.1.Number - 1))).toNat) default).Number, (rv3.2.2.2.getD (0 + ((IntKind.i64.wrap (rv2.1.Number - 1))).toNat) default).Verification, (rv3.2.2.2.getD (0 + ((IntKind.i64.wrap (rv2.1.Number - 1))).toNat) default).Attempt, (rv3.2.2.2.getD (0 + ((IntKind.i64.wrap (rv2.1.Number - 1))).toNat) default).Day, true⟩ : TApiOrder))), (Ob.box (AV.agg [(AV.d (eL TApiReservation.e rv3.1)), (AV.d (eL TApiCommitment.e rv3.2.1)), (AV.d (eL TApiVerification.e rv3.2.2.1)), (AV.ref 8 ((rv3.2.2.2.set (0 + ((IntKind.i64.wrap (rv2.1.Number - 1))).toNat) (⟨(rv3.2.2.2.getD (0 + ((IntKind.i64.wrap (rv2.1.Number - 1))).toNat) default).Number, (rv3.2.2.2.getD (0 + ((IntKind.i64.wrap (rv2.1.Number - 1))).toNat) default).Verification, (rv3.2.2.2.getD (0 + ((IntKind.i64.wrap (rv2.1.Number - 1))).toNat) default).Attempt, (rv3.2.2.2.getD (0 + ((IntKind.i64.wrap (rv2.1.Number - 1))).toNat) default).Day, true⟩ : TApiOrder)).length) 0 ((rv3.2.2.2.set (0 + ((IntKind.i64.wrap (rv2.1.Number - 1))).toNat) (⟨(rv3.2.2.2.getD (0 + ((IntKind.i64.wrap (rv2.1.Number - 1))).toNat) default).Number, (rv3.2.2.2.getD (0 + ((IntKind.i64.wrap (rv2.1.Number - 1))).toNat) default).Verification, (rv3.2.2.2.getD (0 + ((IntKind.i64.wrap (rv2.1.Number - 1))).toNat) default).Attempt, (rv3.2.2.2.getD (0 + ((IntKind.i64.wrap (rv2.1.Number - 1))).toNat) default).Day, true⟩ : TApiOrder)).length))]))] (fun _ => ⟨by simp only, by simp only [List.length_set]⟩) <|
.guard [(rv3.2.2.2.set (0 + ((IntKind.i64.wrap (rv2.1.Number - 1))).toNat) (⟨(rv3.2.2.2.getD (0 + ((IntKind.i64.wrap (rv2.1.Number - 1))).toNat) default).Number, (rv3.2.2.2.getD (0 + ((IntKind.i64.wrap (rv2.1.Number - 1))).toNat) default).Verification, (rv3.2.2.2.getD (0 + ((IntKind.i64.wrap (rv2.1.Number - 1))).toNat) default).Attempt, (rv3.2.2.2.getD (0 + ((IntKind.i64.wrap (rv2.1.Number - 1))).toNat) default).Day, true⟩ : TApiOrder)).length < 2 ^ 63] <|
.reg 10 [] [] [] <|
.frz 8 (.ev 0) none [] [1, 9] <|
.ret [] ((⟨rv3.1, rv3.2.1, rv3.2.2.1, (rv3.2.2.2.set (0 + ((IntKind.i64.wrap (rv2.1.Number - 1))).toNat) (⟨(rv3.2.2.2.getD (0 + ((IntKind.i64.wrap (rv2.1.Number - 1))).toNat) default).Number, (rv3.2.2.2.getD (0 + ((IntKind.i64.wrap (rv2.1.Number - 1))).toNat) default).Verification, (rv3.2.2.2.getD (0 + ((IntKind.i64.wrap (rv2.1.Number - 1))).toNat) default).Attempt, (rv3.2.2.2.getD (0 + ((IntKind.i64.wrap (rv2.1.Number - 1))).toNat) default).Day, true⟩ : TApiOrder))⟩ : TApiBook), 0))))
def F_r14_Back (a0 : TApiBook) (a1 : Int) : Option R_r14_Back := (S_r14_Back a0 a1).den
theorem F_r14_Back_ok {a0 : TApiBook} {a1 : Int} (r : R_r14_Back) (h : F_r14_Back a0 a1 = some r) : CallOk Tryz.prog 84 [(AV.d (TApiBook.e a0)), (vi a1)] [] (V_r14_Back r) (L_r14_Back r) := fOk (s := S_r14_Back a0 a1) Tryz.func84 rfl (by kernel_rfl) h
abbrev R_r13_Learn := TApiRight × Int
def V_r13_Learn (x : R_r13_Learn) : AV := (AV.tup [(AV.d (TApiRight.e x.1)), (vi x.2)])
def L_r13_Learn (_ : R_r13_Learn) : List Ob := []
def S_r13_Learn (a0 : TApiRight) (a1 : TApiMessage) : Scr Tryz.prog R_r13_Learn R_r13_Learn :=
.call (@F_r13_Right_ok a0) fun rv1 cv1 =>
.reg 1 [] [(1, hc cv1 [] true)] [.cl 0 cv1 [] 3 true] <|
.ite (bif (bif (bif (!rv1) then true else (a1.From != 0)) then true else (!(a1.Code == a0.Code))) then true else (a1.Year != a0.Year)) (
.ret [] ((⟨[], 0, 0, 0, 0⟩ : TApiRight), 1)) (
.call (@F_r13_total_ok a1.Granted) fun rv2 cv2 =>
.calld [(!rv2) = false] default (@F_r13_total_ok a1.Asked) fun rv3 cv3 =>
.reg 3 [] [(2, hc cv2 [] true), (7, hc cv3 [] true)] [.cl 2 cv2 [] 3 true, .clg 0 [(!rv2) = false] cv3 [] 3 true] <|
.ite (bif (!rv2) then true else (!rv3)) (
.ret [] ((⟨[], 0, 0, 0, 0⟩ : TApiRight), 2)) (
.reg 5 [11, 13] [] [] <|
.ret [] ((⟨a0.Code, a0.Year, (if a1.Granted > a0.Granted then a1.Granted else a0.Granted), (if a1.Asked > a0.Asked then a1.Asked else a0.Asked), a0.Returned⟩ : TApiRight), 0)))
def F_r13_Learn (a0 : TApiRight) (a1 : TApiMessage) : Option R_r13_Learn := (S_r13_Learn a0 a1).den
theorem F_r13_Learn_ok {a0 : TApiRight} {a1 : TApiMessage} (r : R_r13_Learn) (h : F_r13_Learn a0 a1 = some r) : CallOk Tryz.prog 126 [(AV.d (TApiRight.e a0)), (AV.d (TApiMessage.e a1))] [] (V_r13_Learn r) (L_r13_Learn r) := fOk (s := S_r13_Learn a0 a1) Tryz.func126 rfl (by kernel_rfl) h
theorem cz6 : ∀ k, k < 1 → (AV.d (TApiRight.e (([(⟨[], 0, 0, 0, 0⟩ : TApiRight)] : List TApiRight).getD k default))).wd = 5 := fun _ _ => rfl
abbrev R_r15_hear := TApiOffice × Int
def V_r15_hear (x : R_r15_hear) : AV := (AV.tup [(AV.d (TApiOffice.e x.1)), (vi x.2)])
def L_r15_hear (_ : R_r15_hear) : List Ob := []
def S_r15_hear_b1 (a0 : TApiOffice) (rv1 : R_r13_Learn) (sv2 : Int) : Scr Tryz.prog R_r15_hear (Step (Int) R_r15_hear) :=
.ite (decide (sv2 < (a0.Rights.length : Int))) (
.call (@F_r03_Compare_ok ((a0.Rights.getD (0 + (sv2).toNat) default).Code) rv1.1.Code) fun rv3 cv3 =>
.guard [(0 : Int) ≤ sv2, (sv2).toNat < a0.Rights.length, (0 + (sv2).toNat) < a0.Rights.length] <|
.reg 15 [] [(7, hc cv3 [] true)] [.pf (Eq.refl a0.Rights.length), .ev 0, .ev 1, .pf (Eq.refl a0.Rights.length), .pf (Eq.refl a0.Rights.length), .ev 2, .cl 3 cv3 [] 5 true] <|
.guard [AllP [(rv3 == 0) = true, (decide (rv3 > 0)) = false] → ((0 : Int) ≤ sv2), AllP [(rv3 == 0) = true, (decide (rv3 > 0)) = false] → ((sv2).toNat < a0.Rights.length), AllP [(rv3 == 0) = true, (decide (rv3 > 0)) = false] → ((0 + (sv2).toNat) < a0.Rights.length)] <|
.reg 16 [] [] [.pf (p := AllP [(rv3 == 0) = true, (decide (rv3 > 0)) = false] → (a0.Rights.length = a0.Rights.length)) (fun _ => rfl), .ev 0, .ev 1, .pf (p := AllP [(rv3 == 0) = true, (decide (rv3 > 0)) = false] → (a0.Rights.length = a0.Rights.length)) (fun _ => rfl), .pf (p := AllP [(rv3 == 0) = true, (decide (rv3 > 0)) = false] → (a0.Rights.length = a0.Rights.length)) (fun _ => rfl), .ev 2] <|
.ite (bif (decide (rv3 > 0)) then true else (bif (rv3 == 0) then (decide (((a0.Rights.getD (0 + (sv2).toNat) default).Year) > rv1.1.Year)) else false)) (
.ret [] (.brk sv2)) (
.ret [] (.cont (IntKind.i64.wrap (sv2 + 1))))) (
.ret [] (.brk sv2))
def S_r15_hear (a0 : TApiOffice) (a1 : TApiOp) : Scr Tryz.prog R_r15_hear R_r15_hear :=
.reg 0 [] [(2, { obs := [(2, (bx (TApiOffice.e (⟨0, [], (⟨[], [], [], []⟩ : TApiBook)⟩ : TApiOffice))))] })] [.pf cz1] <|
.call (@F_r03_Good_ok a1.Code) fun rv4 cv4 =>
.reg 1 [] [(2, hc cv4 [] true)] [.cl 0 cv4 [] 3 true] <|
.ite (!rv4) (
.reg 2 [] [(0, hv (AV.d (TApiOffice.e (⟨0, [], (⟨[], [], [], []⟩ : TApiBook)⟩ : TApiOffice))))] [.pf cz2] <|
.ret [] ((⟨0, [], (⟨[], [], [], []⟩ : TApiBook)⟩ : TApiOffice), 5)) (
.ite (bif (decide (a1.Year < 0)) then true else (decide (a1.Year > 99))) (
.reg 4 [] [(0, hv (AV.d (TApiOffice.e (⟨0, [], (⟨[], [], [], []⟩ : TApiBook)⟩ : TApiOffice))))] [.pf cz2] <|
.ret [] ((⟨0, [], (⟨[], [], [], []⟩ : TApiBook)⟩ : TApiOffice), 2)) (
.call (@F_r15_at_ok a0 a1.Code a1.Year) fun rv5 cv5 =>
.reg 5 [] [(5, hc cv5 [] true)] [.cl 0 cv5 [] 3 true] <|
.ite (bif (decide (rv5 < 0)) then ((a0.Rights.length : Int) == 60) else false) (
.reg 7 [] [(0, hv (AV.d (TApiOffice.e (⟨0, [], (⟨[], [], [], []⟩ : TApiBook)⟩ : TApiOffice))))] [.pf cz2] <|
.ret [] ((⟨0, [], (⟨[], [], [], []⟩ : TApiBook)⟩ : TApiOffice), 3)) (
.call (@F_r15_Right_ok a0 a1.Code a1.Year) fun rv6 cv6 =>
.call (@F_r13_Learn_ok rv6 (⟨0, 0, a1.Code, a1.Year, a1.Granted, a1.AskedBack, 0, 0⟩ : TApiMessage)) fun rv1 cv1 =>
.reg 8 [19, 20] [(5, hc cv6 [] true), (15, hc cv1 [] true)] [.cl 1 cv6 [] 3 true, .cl 1 cv6 [] 4 true, .cl 0 cv1 [] 3 true, .cl 0 cv1 [] 4 true] <|
.ite (rv1.2 != 0) (
.reg 10 [] [(0, hv (AV.d (TApiOffice.e (⟨0, [], (⟨[], [], [], []⟩ : TApiBook)⟩ : TApiOffice))))] [.pf cz2] <|
.ret [] ((⟨0, [], (⟨[], [], [], []⟩ : TApiBook)⟩ : TApiOffice), rv1.2)) (
.guard [a0.Rights.length * (2 * 48) ≤ 2 ^ 48] <|
.reg 11 [] [(3, { h := .obj })] [.pf (p := ∀ k, k < a0.Rights.length → (AV.d (TApiRight.e (a0.Rights.getD k default))).wd = 5) (fun _ _ => rfl), .ev 0] <|
.cut none [2, 4, 7] (fun (sv7 : (List TApiRight) × Int) => [(6, (vi sv7.2)), (9, (AV.ref 4 sv7.1.length 0 sv7.1.length))]) (fun (sv7 : (List TApiRight) × Int) => [(4, (eS 5 TApiRight.e sv7.1))]) (
.ite (decide (rv5 < 0)) (
.iter [2, 4, 7, 9] (fun (sv2 : Int) => [(6, (vi sv2))]) (fun (_ : Int) => []) 0 (S_r15_hear_b1 a0 rv1) (fun (sv2 : Int) =>
.guard [(a0.Rights.length + 1) * (2 * 48) ≤ 2 ^ 48] <|
.reg 18 [] [(2, hv (AV.d (eL TApiRight.e ([(⟨[], 0, 0, 0, 0⟩ : TApiRight)] : List TApiRight)))), (3, { h := .obj, cast := some (AV.ref 4 ((a0.Rights ++ ([(⟨[], 0, 0, 0, 0⟩ : TApiRight)] : List TApiRight)).length) 0 ((a0.Rights ++ ([(⟨[], 0, 0, 0, 0⟩ : TApiRight)] : List TApiRight)).length)), obs := [(4, (eS 5 TApiRight.e (a0.Rights ++ ([(⟨[], 0, 0, 0, 0⟩ : TApiRight)] : List TApiRight))))] })] [.pf (leV_lit TApiRight.e ([(⟨[], 0, 0, 0, 0⟩ : TApiRight)] : List TApiRight)), .pf (Eq.refl a0.Rights.length), .pf (Eq.refl a0.Rights.length), .pf cz6, .ev 0, .pf (leV_app (o := 4) (l := a0.Rights) (x := ([(⟨[], 0, 0, 0, 0⟩ : TApiRight)] : List TApiRight))), .pf (oLe_app (sz := 5) (e := TApiRight.e) (l := a0.Rights) (x := ([(⟨[], 0, 0, 0, 0⟩ : TApiRight)] : List TApiRight)))] <|
.guard [(0 : Int) ≤ (IntKind.i64.wrap (sv2 + 1)), ((IntKind.i64.wrap (sv2 + 1))).toNat ≤ (a0.Rights ++ ([(⟨[], 0, 0, 0, 0⟩ : TApiRight)] : List TApiRight)).length, (0 : Int) ≤ sv2, (sv2).toNat ≤ (a0.Rights ++ ([(⟨[], 0, 0, 0, 0⟩ : TApiRight)] : List TApiRight)).length] <|
.reg 19 [7] [(7, { obs := [(4, (eS 5 TApiRight.e (copyL (a0.Rights ++ ([(⟨[], 0, 0, 0, 0⟩ : TApiRight)] : List TApiRight)) (0 + ((IntKind.i64.wrap (sv2 + 1))).toNat) (min ((a0.Rights ++ ([(⟨[], 0, 0, 0, 0⟩ : TApiRight)] : List TApiRight)).length - (sv2).toNat) ((a0.Rights ++ ([(⟨[], 0, 0, 0, 0⟩ : TApiRight)] : List TApiRight)).length - ((IntKind.i64.wrap (sv2 + 1))).toNat)) (fun i => ((a0.Rights ++ ([(⟨[], 0, 0, 0, 0⟩ : TApiRight)] : List TApiRight)).getD ((0 + (sv2).toNat) + i) default)))))] })] [.ev 0, .ev 1, .pf (Eq.refl ((a0.Rights ++ ([(⟨[], 0, 0, 0, 0⟩ : TApiRight)] : List TApiRight)).length)), .ev 2, .ev 3, .pf (Eq.refl ((a0.Rights ++ ([(⟨[], 0, 0, 0, 0⟩ : TApiRight)] : List TApiRight)).length)), .pf (Eq.refl ((a0.Rights ++ ([(⟨[], 0, 0, 0, 0⟩ : TApiRight)] : List TApiRight)).length)), .pf (Eq.refl ((a0.Rights ++ ([(⟨[], 0, 0, 0, 0⟩ : TApiRight)] : List TApiRight)).length)), .pf (p := ∀ k, k < ((a0.Rights ++ ([(⟨[], 0, 0, 0, 0⟩ : TApiRight)] : List TApiRight)).length - (sv2).toNat) → (AV.d (TApiRight.e ((a0.Rights ++ ([(⟨[], 0, 0, 0, 0⟩ : TApiRight)] : List TApiRight)).getD ((0 + (sv2).toNat) + k) default))).wd = 5) (fun _ _ => rfl), .pf (oLe_copy (sz := 5) (e := TApiRight.e) (l := (a0.Rights ++ ([(⟨[], 0, 0, 0, 0⟩ : TApiRight)] : List TApiRight))) (off := (0 + ((IntKind.i64.wrap (sv2 + 1))).toNat)) (k := (min ((a0.Rights ++ ([(⟨[], 0, 0, 0, 0⟩ : TApiRight)] : List TApiRight)).length - (sv2).toNat) ((a0.Rights ++ ([(⟨[], 0, 0, 0, 0⟩ : TApiRight)] : List TApiRight)).length - ((IntKind.i64.wrap (sv2 + 1))).toNat))) (s := (fun i => ((a0.Rights ++ ([(⟨[], 0, 0, 0, 0⟩ : TApiRight)] : List TApiRight)).getD ((0 + (sv2).toNat) + i) default))))] <|
.cst (A := True) (.pf trivial) [(2, (vp 0)), (4, (vp 2)), (6, (vi sv2)), (7, (vp 3)), (9, (AV.ref 4 ((a0.Rights ++ ([(⟨[], 0, 0, 0, 0⟩ : TApiRight)] : List TApiRight)).length) 0 ((a0.Rights ++ ([(⟨[], 0, 0, 0, 0⟩ : TApiRight)] : List TApiRight)).length)))] [(2, (vp 0)), (4, (vp 2)), (6, (vi sv2)), (7, (vp 3)), (9, (AV.ref 4 ((copyL (a0.Rights ++ ([(⟨[], 0, 0, 0, 0⟩ : TApiRight)] : List TApiRight)) (0 + ((IntKind.i64.wrap (sv2 + 1))).toNat) (min ((a0.Rights ++ ([(⟨[], 0, 0, 0, 0⟩ : TApiRight)] : List TApiRight)).length - (sv2).toNat) ((a0.Rights ++ ([(⟨[], 0, 0, 0, 0⟩ : TApiRight)] : List TApiRight)).length - ((IntKind.i64.wrap (sv2 + 1))).toNat)) (fun i => ((a0.Rights ++ ([(⟨[], 0, 0, 0, 0⟩ : TApiRight)] : List TApiRight)).getD ((0 + (sv2).toNat) + i) default))).length) 0 ((copyL (a0.Rights ++ ([(⟨[], 0, 0, 0, 0⟩ : TApiRight)] : List TApiRight)) (0 + ((IntKind.i64.wrap (sv2 + 1))).toNat) (min ((a0.Rights ++ ([(⟨[], 0, 0, 0, 0⟩ : TApiRight)] : List TApiRight)).length - (sv2).toNat) ((a0.Rights ++ ([(⟨[], 0, 0, 0, 0⟩ : TApiRight)] : List TApiRight)).length - ((IntKind.i64.wrap (sv2 + 1))).toNat)) (fun i => ((a0.Rights ++ ([(⟨[], 0, 0, 0, 0⟩ : TApiRight)] : List TApiRight)).getD ((0 + (sv2).toNat) + i) default))).length)))] [(bx (TApiOffice.e a0)), (bx (TApiOp.e a1)), (bx (TApiOffice.e (⟨0, [], (⟨[], [], [], []⟩ : TApiBook)⟩ : TApiOffice))), (bx (TApiRight.e rv1.1)), (eS 5 TApiRight.e (copyL (a0.Rights ++ ([(⟨[], 0, 0, 0, 0⟩ : TApiRight)] : List TApiRight)) (0 + ((IntKind.i64.wrap (sv2 + 1))).toNat) (min ((a0.Rights ++ ([(⟨[], 0, 0, 0, 0⟩ : TApiRight)] : List TApiRight)).length - (sv2).toNat) ((a0.Rights ++ ([(⟨[], 0, 0, 0, 0⟩ : TApiRight)] : List TApiRight)).length - ((IntKind.i64.wrap (sv2 + 1))).toNat)) (fun i => ((a0.Rights ++ ([(⟨[], 0, 0, 0, 0⟩ : TApiRight)] : List TApiRight)).getD ((0 + (sv2).toNat) + i) default))))] [(bx (TApiOffice.e a0)), (bx (TApiOp.e a1)), (bx (TApiOffice.e (⟨0, [], (⟨[], [], [], []⟩ : TApiBook)⟩ : TApiOffice))), (bx (TApiRight.e rv1.1)), (eS 5 TApiRight.e (copyL (a0.Rights ++ ([(⟨[], 0, 0, 0, 0⟩ : TApiRight)] : List TApiRight)) (0 + ((IntKind.i64.wrap (sv2 + 1))).toNat) (min ((a0.Rights ++ ([(⟨[], 0, 0, 0, 0⟩ : TApiRight)] : List TApiRight)).length - (sv2).toNat) ((a0.Rights ++ ([(⟨[], 0, 0, 0, 0⟩ : TApiRight)] : List TApiRight)).length - ((IntKind.i64.wrap (sv2 + 1))).toNat)) (fun i => ((a0.Rights ++ ([(⟨[], 0, 0, 0, 0⟩ : TApiRight)] : List TApiRight)).getD ((0 + (sv2).toNat) + i) default))))] (fun _ => ⟨by simp only [copyL_length], by rfl⟩) <|
.ret [] (.next ((copyL (a0.Rights ++ ([(⟨[], 0, 0, 0, 0⟩ : TApiRight)] : List TApiRight)) (0 + ((IntKind.i64.wrap (sv2 + 1))).toNat) (min ((a0.Rights ++ ([(⟨[], 0, 0, 0, 0⟩ : TApiRight)] : List TApiRight)).length - (sv2).toNat) ((a0.Rights ++ ([(⟨[], 0, 0, 0, 0⟩ : TApiRight)] : List TApiRight)).length - ((IntKind.i64.wrap (sv2 + 1))).toNat)) (fun i => ((a0.Rights ++ ([(⟨[], 0, 0, 0, 0⟩ : TApiRight)] : List TApiRight)).getD ((0 + (sv2).toNat) + i) default))), sv2))) .ret) (
.ret [] (.next (a0.Rights, rv5)))) fun (sv7 : (List TApiRight) × Int) =>
.guard [(0 : Int) ≤ sv7.2, (sv7.2).toNat < sv7.1.length, (0 + (sv7.2).toNat) < sv7.1.length] <|
.reg 20 [] [(4, { obs := [(4, (eS 5 TApiRight.e (sv7.1.set (0 + (sv7.2).toNat) rv1.1)))] })] [.pf (Eq.refl sv7.1.length), .ev 0, .ev 1, .pf (Eq.refl sv7.1.length), .ev 2, .pf (oLe_set (sz := 5) (e := TApiRight.e) (l := sv7.1) (i := (0 + (sv7.2).toNat)) (x := rv1.1) (fun _ => rfl))] <|
.cst (A := True) (.pf trivial) [(2, (vp 0)), (4, (vp 2)), (9, (AV.ref 4 sv7.1.length 0 sv7.1.length))] [(2, (vp 0)), (4, (vp 2)), (9, (AV.ref 4 ((sv7.1.set (0 + (sv7.2).toNat) rv1.1).length) 0 ((sv7.1.set (0 + (sv7.2).toNat) rv1.1).length)))] [(bx (TApiOffice.e a0)), (bx (TApiOp.e a1)), (bx (TApiOffice.e (⟨0, [], (⟨[], [], [], []⟩ : TApiBook)⟩ : TApiOffice))), (bx (TApiRight.e rv1.1)), (eS 5 TApiRight.e (sv7.1.set (0 + (sv7.2).toNat) rv1.1))] [(bx (TApiOffice.e a0)), (bx (TApiOp.e a1)), (bx (TApiOffice.e (⟨0, [], (⟨[], [], [], []⟩ : TApiBook)⟩ : TApiOffice))), (bx (TApiRight.e rv1.1)), (eS 5 TApiRight.e (sv7.1.set (0 + (sv7.2).toNat) rv1.1))] (fun _ => ⟨by simp only [List.length_set], by rfl⟩) <|
.guard [(sv7.1.set (0 + (sv7.2).toNat) rv1.1).length < 2 ^ 63] <|
.reg 22 [] [] [] <|
.frz 4 (.ev 0) none [] [0, 2] <|
.ret [] ((⟨a0.Number, (sv7.1.set (0 + (sv7.2).toNat) rv1.1), a0.Book⟩ : TApiOffice), 0)))))
def F_r15_hear (a0 : TApiOffice) (a1 : TApiOp) : Option R_r15_hear := (S_r15_hear a0 a1).den
theorem F_r15_hear_ok {a0 : TApiOffice} {a1 : TApiOp} (r : R_r15_hear) (h : F_r15_hear a0 a1 = some r) : CallOk Tryz.prog 85 [(AV.d (TApiOffice.e a0)), (AV.d (TApiOp.e a1))] [] (V_r15_hear r) (L_r15_hear r) := fOk (s := S_r15_hear a0 a1) Tryz.func85 rfl (by kernel_rfl) h
abbrev R_r13_Return := TApiRight × Int
def V_r13_Return (x : R_r13_Return) : AV := (AV.tup [(AV.d (TApiRight.e x.1)), (vi x.2)])
def L_r13_Return (_ : R_r13_Return) : List Ob := []
def S_r13_Return (a0 : TApiRight) (a1 : Int) (a2 : Int) : Scr Tryz.prog R_r13_Return R_r13_Return :=
.call (@F_r13_Right_ok a0) fun rv1 cv1 =>
.reg 1 [] [(1, hc cv1 [] true)] [.cl 0 cv1 [] 2 true] <|
.ite (bif (bif (!rv1) then true else (decide (a1 < 0))) then true else (decide (a1 > (IntKind.i64.wrap (a0.Granted - a0.Returned))))) (
.ret [] ((⟨[], 0, 0, 0, 0⟩ : TApiRight), 1)) (
.ite (bif (decide (a2 < 1)) then true else (decide (a2 > 1000000000000000))) (
.ret [] ((⟨[], 0, 0, 0, 0⟩ : TApiRight), 2)) (
.ite (decide (a2 > (IntKind.i64.wrap ((IntKind.i64.wrap (a0.Granted - a0.Returned)) - a1)))) (
.ret [] ((⟨[], 0, 0, 0, 0⟩ : TApiRight), 15)) (
.ret [] ((⟨a0.Code, a0.Year, a0.Granted, a0.Asked, (IntKind.i64.wrap (a0.Returned + a2))⟩ : TApiRight), 0))))
def F_r13_Return (a0 : TApiRight) (a1 : Int) (a2 : Int) : Option R_r13_Return := (S_r13_Return a0 a1 a2).den
theorem F_r13_Return_ok {a0 : TApiRight} {a1 : Int} {a2 : Int} (r : R_r13_Return) (h : F_r13_Return a0 a1 a2 = some r) : CallOk Tryz.prog 87 [(AV.d (TApiRight.e a0)), (vi a1), (vi a2)] [] (V_r13_Return r) (L_r13_Return r) := fOk (s := S_r13_Return a0 a1 a2) Tryz.func87 rfl (by kernel_rfl) h
abbrev R_r15_Do := TApiOffice × Int
def V_r15_Do (x : R_r15_Do) : AV := (AV.tup [(AV.d (TApiOffice.e x.1)), (vi x.2)])
def L_r15_Do (_ : R_r15_Do) : List Ob := []
def S_r15_Do (a0 : TApiOffice) (a1 : TApiOp) : Scr Tryz.prog R_r15_Do R_r15_Do :=
.reg 0 [] [(2, { obs := [(2, (bx (TApiOffice.e (⟨0, [], (⟨[], [], [], []⟩ : TApiBook)⟩ : TApiOffice))))] })] [.pf cz1] <|
.call (@F_r15_Valid_ok a0) fun rv1 cv1 =>
.reg 1 [] [(1, hc cv1 [] true)] [.cl 0 cv1 [] 3 true] <|
.ite (!rv1) (
.reg 2 [] [(0, hv (AV.d (TApiOffice.e (⟨0, [], (⟨[], [], [], []⟩ : TApiBook)⟩ : TApiOffice))))] [.pf cz2] <|
.ret [] ((⟨0, [], (⟨[], [], [], []⟩ : TApiBook)⟩ : TApiOffice), 1)) (
.reg 3 [] [(2, { obs := [(3, (bx (TApiBook.e (⟨[], [], [], []⟩ : TApiBook))))] })] [.pf cz4] <|
.cut (some 0) [2, 4, 6] (fun (sv2 : TApiBook × Int) => [(7, (vi sv2.2))]) (fun (sv2 : TApiBook × Int) => [(3, (bx (TApiBook.e sv2.1)))]) (
.ite (a1.Kind == 1) (
.call (@F_r14_Reserve_ok a0.Book a1.Code a1.Year a1.Day a1.Amount) fun rv3 cv3 =>
.reg 7 [] [(10, hc cv3 [] true)] [.cl 0 cv3 [] 4 true] <|
.calld [(rv3.2 == 0) = true] default (@F_r15_Unused_ok a0 a1.Code a1.Year) fun rv4 cv4 =>
.reg 8 [] [(10, hc cv4 [] true)] [.clg 0 [(rv3.2 == 0) = true] cv4 [] 4 true] <|
.ite (bif (rv3.2 == 0) then (decide (a1.Amount > rv4)) else false) (
.ret [] (.next (rv3.1, 15))) (
.ret [] (.next (rv3.1, rv3.2)))) (
.ite (a1.Kind == 2) (
.call (@F_r14_Commit_ok a0.Book a1.Of a1.Day a1.Amount a1.Payee a1.Due) fun rv5 cv5 =>
.reg 11 [] [(12, hc cv5 [] true)] [.cl 0 cv5 [] 4 true] <|
.ret [] (.next (rv5.1, rv5.2))) (
.ite (a1.Kind == 3) (
.call (@F_r14_Verify_ok a0.Book a1.Of a1.Day a1.Amount) fun rv6 cv6 =>
.reg 13 [] [(8, hc cv6 [] true)] [.cl 0 cv6 [] 4 true] <|
.ret [] (.next (rv6.1, rv6.2))) (
.ite (a1.Kind == 4) (
.call (@F_r14_Order_ok a0.Book a1.Of a1.Day) fun rv7 cv7 =>
.reg 15 [] [(6, hc cv7 [] true)] [.cl 0 cv7 [] 4 true] <|
.ret [] (.next (rv7.1, rv7.2))) (
.ite (a1.Kind == 5) (
.call (@F_r14_Release_ok a0.Book a1.Of a1.Amount) fun rv8 cv8 =>
.reg 17 [] [(6, hc cv8 [] true)] [.cl 0 cv8 [] 4 true] <|
.ret [] (.next (rv8.1, rv8.2))) (
.ite (a1.Kind == 6) (
.call (@F_r14_Drop_ok a0.Book a1.Of a1.Amount) fun rv9 cv9 =>
.reg 19 [] [(6, hc cv9 [] true)] [.cl 0 cv9 [] 4 true] <|
.ret [] (.next (rv9.1, rv9.2))) (
.ite (a1.Kind == 9) (
.call (@F_r14_Back_ok a0.Book a1.Of) fun rv10 cv10 =>
.reg 21 [] [(4, hc cv10 [] true)] [.cl 0 cv10 [] 4 true] <|
.ret [] (.next (rv10.1, rv10.2))) (
.ite (a1.Kind == 8) (
.call (@F_r15_hear_ok a0 a1) fun rv11 cv11 =>
.reg 23 [] [(2, hc cv11 [] true)] [.cl 0 cv11 [] 4 true] <|
.ret [] (.ret (rv11.1, rv11.2))) (
.ite (a1.Kind == 7) (
.call (@F_r15_at_ok a0 a1.Code a1.Year) fun rv12 cv12 =>
.reg 25 [] [(5, hc cv12 [] true)] [.cl 0 cv12 [] 4 true] <|
.ite (decide (rv12 < 0)) (
.reg 27 [] [(0, hv (AV.d (TApiOffice.e (⟨0, [], (⟨[], [], [], []⟩ : TApiBook)⟩ : TApiOffice))))] [.pf cz2] <|
.ret [] (.ret ((⟨0, [], (⟨[], [], [], []⟩ : TApiBook)⟩ : TApiOffice), 6))) (
.call (@F_r14_Used_ok a0.Book a1.Code a1.Year) fun rv13 cv13 =>
.call (@F_r13_Return_ok (a0.Rights.getD ((rv12).toNat) default) rv13 a1.Amount) fun rv14 cv14 =>
.guard [(0 : Int) ≤ rv12, (rv12).toNat < a0.Rights.length] <|
.reg 28 [18, 19] [(11, hc cv13 [] true), (14, hc cv14 [] true)] [.ev 0, .ev 1, .ev 0, .ev 1, .cl 3 cv13 [] 4 true, .cl 3 cv13 [] 5 true, .cl 2 cv14 [] 4 true, .cl 2 cv14 [] 5 true] <|
.ite (rv14.2 != 0) (
.reg 30 [] [(0, hv (AV.d (TApiOffice.e (⟨0, [], (⟨[], [], [], []⟩ : TApiBook)⟩ : TApiOffice))))] [.pf cz2] <|
.ret [] (.ret ((⟨0, [], (⟨[], [], [], []⟩ : TApiBook)⟩ : TApiOffice), rv14.2))) (
.guard [a0.Rights.length * (2 * 48) ≤ 2 ^ 48] <|
.reg 31 [] [(3, { h := .obj })] [.pf (p := ∀ k, k < a0.Rights.length → (AV.d (TApiRight.e (a0.Rights.getD k default))).wd = 5) (fun _ _ => rfl), .ev 0] <|
.guard [(0 + (rv12).toNat) < a0.Rights.length] <|
.reg 32 [] [(5, { obs := [(5, (eS 5 TApiRight.e (a0.Rights.set (0 + (rv12).toNat) rv14.1)))] })] [.pf (Eq.refl a0.Rights.length), .ev 3, .ev 4, .pf (Eq.refl a0.Rights.length), .ev 0, .pf (oLe_set (sz := 5) (e := TApiRight.e) (l := a0.Rights) (i := (0 + (rv12).toNat)) (x := rv14.1) (fun _ => rfl))] <|
.cst (A := True) (.pf trivial) [(2, (vp 0)), (4, (vp 2))] [(2, (vp 0)), (4, (vp 2))] [(Ob.box (AV.agg [(vi a0.Number), (AV.ref 5 a0.Rights.length 0 a0.Rights.length), (AV.d (TApiBook.e a0.Book))])), (bx (TApiOp.e a1)), (bx (TApiOffice.e (⟨0, [], (⟨[], [], [], []⟩ : TApiBook)⟩ : TApiOffice))), (bx (TApiBook.e a0.Book)), (bx (TApiRight.e rv14.1)), (eS 5 TApiRight.e (a0.Rights.set (0 + (rv12).toNat) rv14.1))] [(Ob.box (AV.agg [(vi a0.Number), (AV.ref 5 ((a0.Rights.set (0 + (rv12).toNat) rv14.1).length) 0 ((a0.Rights.set (0 + (rv12).toNat) rv14.1).length)), (AV.d (TApiBook.e a0.Book))])), (bx (TApiOp.e a1)), (bx (TApiOffice.e (⟨0, [], (⟨[], [], [], []⟩ : TApiBook)⟩ : TApiOffice))), (bx (TApiBook.e a0.Book)), (bx (TApiRight.e rv14.1)), (eS 5 TApiRight.e (a0.Rights.set (0 + (rv12).toNat) rv14.1))] (fun _ => ⟨by simp only, by simp only [List.length_set]⟩) <|
.guard [(a0.Rights.set (0 + (rv12).toNat) rv14.1).length < 2 ^ 63] <|
.reg 33 [] [] [] <|
.frz 5 (.ev 0) none [] [0, 2] <|
.ret [] (.ret ((⟨a0.Number, (a0.Rights.set (0 + (rv12).toNat) rv14.1), a0.Book⟩ : TApiOffice), 0))))) (
.ret [] (.next (a0.Book, 1)))))))))))) fun (sv2 : TApiBook × Int) =>
.ite (sv2.2 != 0) (
.reg 35 [] [(0, hv (AV.d (TApiOffice.e (⟨0, [], (⟨[], [], [], []⟩ : TApiBook)⟩ : TApiOffice))))] [.pf cz2] <|
.ret [] ((⟨0, [], (⟨[], [], [], []⟩ : TApiBook)⟩ : TApiOffice), sv2.2)) (
.ret [] ((⟨a0.Number, a0.Rights, sv2.1⟩ : TApiOffice), 0)))
def F_r15_Do (a0 : TApiOffice) (a1 : TApiOp) : Option R_r15_Do := (S_r15_Do a0 a1).den
theorem F_r15_Do_ok {a0 : TApiOffice} {a1 : TApiOp} (r : R_r15_Do) (h : F_r15_Do a0 a1 = some r) : CallOk Tryz.prog 32 [(AV.d (TApiOffice.e a0)), (AV.d (TApiOp.e a1))] [] (V_r15_Do r) (L_r15_Do r) := fOk (s := S_r15_Do a0 a1) Tryz.func32 rfl (by kernel_rfl) h
abbrev R_mk_PotCode := List UInt8 × TTape
def V_mk_PotCode (x : R_mk_PotCode) : AV := (AV.d (DV.str x.1))
def L_mk_PotCode (x : R_mk_PotCode) : List Ob := [(bx (TTape.e x.2))]
def S_mk_PotCode (p0 : TTape) : Scr Tryz.prog R_mk_PotCode R_mk_PotCode :=
.call (@F_mk_Tape_N_ok 3 p0) fun rv1 cv1 =>
.guard [(0 : Int) ≤ rv1.1, (rv1.1).toNat < 3] <|
.reg 1 [] [(0, hv (AV.d (eL DV.str ([[49], [49, 46, 50], [50]] : List (List UInt8))))), (2, hc cv1 [0] false)] [.pf (leV_lit DV.str ([[49], [49, 46, 50], [50]] : List (List UInt8))), .cl 2 cv1 [0] 1 false, .ev 0, .ev 1] <|
.ret [] ((([[49], [49, 46, 50], [50]] : List (List UInt8)).getD ((rv1.1).toNat) default), rv1.2)
def F_mk_PotCode (p0 : TTape) : Option R_mk_PotCode := (S_mk_PotCode p0).den
theorem F_mk_PotCode_ok {p0 : TTape} (r : R_mk_PotCode) (h : F_mk_PotCode p0 = some r) : CallOk Tryz.prog 88 [(vp 0)] [(bx (TTape.e p0))] (V_mk_PotCode r) (L_mk_PotCode r) := fOk (s := S_mk_PotCode p0) Tryz.func88 rfl (by kernel_rfl) h
abbrev R_mk_Op := TApiOp × TTape
def V_mk_Op (x : R_mk_Op) : AV := (AV.d (TApiOp.e x.1))
def L_mk_Op (x : R_mk_Op) : List Ob := [(bx (TTape.e x.2))]
def S_mk_Op (a1 : TApiOffice) (a2 : Int) (p0 : TTape) : Scr Tryz.prog R_mk_Op R_mk_Op :=
.call (@F_mk_Tape_Pick_ok ([1, 1, 1, 2, 2, 2, 3, 3, 3, 4, 4, 5, 6, 7, 8, 8, 9] : List Int) p0) fun rv1 cv1 =>
.call (@F_mk_PotCode_ok rv1.2) fun rv2 cv2 =>
.call (@F_mk_Tape_Range_ok 1 120 rv2.2) fun rv3 cv3 =>
.call (@F_mk_Tape_Pick_ok ([10, 50, rv3.1] : List Int) rv3.2) fun rv4 cv4 =>
.reg 1 [] [(1, hv (vl ([1, 1, 1, 2, 2, 2, 3, 3, 3, 4, 4, 5, 6, 7, 8, 8, 9] : List Int))), (2, hc cv1 [0] false), (4, hc cv2 [0] false), (10, hc cv3 [0] false), (11, hv (vl ([10, 50, rv3.1] : List Int))), (12, hc cv4 [0] false)] [.pf (leV_lit (DV.i .i64) ([1, 1, 1, 2, 2, 2, 3, 3, 3, 4, 4, 5, 6, 7, 8, 8, 9] : List Int)), .cl 3 cv1 [0] 3 false, .cl 2 cv2 [0] 3 false, .pf (p := (360 : Int) ≠ 0) (by decide), .cl 1 cv3 [0] 3 false, .pf (leV_lit (DV.i .i64) ([10, 50, rv3.1] : List Int)), .cl 0 cv4 [0] 3 false] <|
.cut (some 0) [0, 2, 6, 7] (fun (_ : TTape × TApiOp) => []) (fun (sv5 : TTape × TApiOp) => [(0, (bx (TTape.e sv5.1))), (3, (bx (TApiOp.e sv5.2)))]) (
.cut none [0, 2, 4, 6, 7, 23] (fun (sv6 : Bool) => [(24, (vb sv6))]) (fun (_ : Bool) => []) (
.ite (rv1.1 == 2) (
.ret [] (.next (rv1.1 == 2))) (
.ret [] (.next (rv1.1 == 5)))) fun (sv6 : Bool) =>
.ite sv6 (
.call (@F_mk_Tape_Range_ok 1 (if (a1.Book.Reservations.length : Int) > 1 then (a1.Book.Reservations.length : Int) else 1) rv4.2) fun rv7 cv7 =>
.reg 5 [] [(6, hc cv7 [0] false)] [.cl 0 cv7 [0] 4 false] <|
.ret [] (.next (rv7.2, (⟨rv1.1, rv2.1, (IntKind.i64.wrap (a2.tdiv 360)), a2, rv7.1, rv4.1, 0, 0, 0, 0⟩ : TApiOp)))) (
.cut none [0, 2, 4, 6, 7, 23] (fun (sv8 : Bool) => [(35, (vb sv8))]) (fun (_ : Bool) => []) (
.ite (rv1.1 == 3) (
.ret [] (.next (rv1.1 == 3))) (
.ret [] (.next (rv1.1 == 6)))) fun (sv8 : Bool) =>
.ite sv8 (
.call (@F_mk_Tape_Range_ok 1 (if (a1.Book.Commitments.length : Int) > 1 then (a1.Book.Commitments.length : Int) else 1) rv4.2) fun rv9 cv9 =>
.reg 8 [] [(6, hc cv9 [0] false)] [.cl 0 cv9 [0] 4 false] <|
.ret [] (.next (rv9.2, (⟨rv1.1, rv2.1, (IntKind.i64.wrap (a2.tdiv 360)), a2, rv9.1, rv4.1, 0, 0, 0, 0⟩ : TApiOp)))) (
.cut none [0, 2, 4, 6, 7, 23] (fun (sv10 : Bool) => [(46, (vb sv10))]) (fun (_ : Bool) => []) (
.ite (rv1.1 == 4) (
.ret [] (.next (rv1.1 == 4))) (
.ret [] (.next (rv1.1 == 9)))) fun (sv10 : Bool) =>
.ite sv10 (
.call (@F_mk_Tape_Range_ok 1 (if (a1.Book.Verifications.length : Int) > 1 then (a1.Book.Verifications.length : Int) else 1) rv4.2) fun rv11 cv11 =>
.reg 11 [] [(6, hc cv11 [0] false)] [.cl 0 cv11 [0] 4 false] <|
.ret [] (.next (rv11.2, (⟨rv1.1, rv2.1, (IntKind.i64.wrap (a2.tdiv 360)), a2, rv11.1, rv4.1, 0, 0, 0, 0⟩ : TApiOp)))) (
.ite (rv1.1 == 8) (
.call (@F_mk_Tape_N_ok 1000 rv4.2) fun rv12 cv12 =>
.call (@F_mk_Tape_Pick_ok ([100, 400, rv12.1] : List Int) rv12.2) fun rv13 cv13 =>
.call (@F_mk_Tape_N_ok 200 rv13.2) fun rv14 cv14 =>
.call (@F_mk_Tape_Pick_ok ([0, 0, rv14.1] : List Int) rv14.2) fun rv15 cv15 =>
.reg 13 [] [(2, hc cv12 [0] false), (3, hv (vl ([100, 400, rv12.1] : List Int))), (4, hc cv13 [0] false), (7, hc cv14 [0] false), (8, hv (vl ([0, 0, rv14.1] : List Int))), (9, hc cv15 [0] false)] [.cl 3 cv12 [0] 4 false, .pf (leV_lit (DV.i .i64) ([100, 400, rv12.1] : List Int)), .cl 2 cv13 [0] 4 false, .cl 1 cv14 [0] 4 false, .pf (leV_lit (DV.i .i64) ([0, 0, rv14.1] : List Int)), .cl 0 cv15 [0] 4 false] <|
.ret [] (.next (rv15.2, (⟨rv1.1, rv2.1, (IntKind.i64.wrap (a2.tdiv 360)), a2, 0, rv4.1, 0, 0, rv13.1, rv15.1⟩ : TApiOp)))) (
.ret [] (.next (rv4.2, (⟨rv1.1, rv2.1, (IntKind.i64.wrap (a2.tdiv 360)), a2, 0, rv4.1, 0, 0, 0, 0⟩ : TApiOp)))))))) fun (sv5 : TTape × TApiOp) =>
.cut none [6, 7] (fun (_ : TTape × TApiOp) => []) (fun (sv16 : TTape × TApiOp) => [(0, (bx (TTape.e sv16.1))), (3, (bx (TApiOp.e sv16.2)))]) (
.ite (sv5.2.Kind == 2) (
.call (@F_mk_Tape_Range_ok 1 4 sv5.1) fun rv17 cv17 =>
.call (@F_mk_Tape_N_ok 60 rv17.2) fun rv18 cv18 =>
.reg 15 [] [(1, hc cv17 [0] false), (4, hc cv18 [0] false)] [.cl 1 cv17 [0] 4 false, .cl 0 cv18 [0] 4 false] <|
.ret [] (.next (rv18.2, (⟨sv5.2.Kind, sv5.2.Code, sv5.2.Year, sv5.2.Day, sv5.2.Of, sv5.2.Amount, rv17.1, (IntKind.i64.wrap (a2 + rv18.1)), sv5.2.Granted, sv5.2.AskedBack⟩ : TApiOp)))) (
.ret [] (.next (sv5.1, sv5.2)))) fun (sv16 : TTape × TApiOp) =>
.ret [] (sv16.2, sv16.1)
def F_mk_Op (a1 : TApiOffice) (a2 : Int) (p0 : TTape) : Option R_mk_Op := (S_mk_Op a1 a2 p0).den
theorem F_mk_Op_ok {a1 : TApiOffice} {a2 : Int} {p0 : TTape} (r : R_mk_Op) (h : F_mk_Op a1 a2 p0 = some r) : CallOk Tryz.prog 33 [(vp 0), (AV.d (TApiOffice.e a1)), (vi a2)] [(bx (TTape.e p0))] (V_mk_Op r) (L_mk_Op r) := fOk (s := S_mk_Op a1 a2 p0) Tryz.func33 rfl (by kernel_rfl) h
abbrev R_mk_Office := TApiOffice × TTape
def V_mk_Office (x : R_mk_Office) : AV := (AV.d (TApiOffice.e x.1))
def L_mk_Office (x : R_mk_Office) : List Ob := [(bx (TTape.e x.2))]
def S_mk_Office_b1 (sv1 : TTape × TApiOffice × Int) : Scr Tryz.prog R_mk_Office (Step (TTape × TApiOffice × Int) R_mk_Office) :=
.ite (decide (sv1.2.2 < 2)) (
.call (@F_mk_Tape_N_ok 800 sv1.1) fun rv2 cv2 =>
.call (@F_mk_Tape_Pick_ok ([300, rv2.1] : List Int) rv2.2) fun rv3 cv3 =>
.call (@F_r15_Do_ok sv1.2.1 (⟨8, (([[49], [50]] : List (List UInt8)).getD ((sv1.2.2).toNat) default), 12, 0, 0, 0, 0, 0, rv3.1, 0⟩ : TApiOp)) fun rv4 cv4 =>
.guard [(0 : Int) ≤ sv1.2.2, (sv1.2.2).toNat < 2] <|
.reg 6 [7, 9, 15] [(1, hv (AV.d (eL DV.str ([[49], [50]] : List (List UInt8))))), (7, hc cv2 [0] false), (8, hv (vl ([300, rv2.1] : List Int))), (9, hc cv3 [0] false), (11, hc cv4 [] true)] [.pf (leV_lit DV.str ([[49], [50]] : List (List UInt8))), .pf (leV_lit DV.str ([[49], [50]] : List (List UInt8))), .pf (leV_lit DV.str ([[49], [50]] : List (List UInt8))), .ev 0, .ev 1, .ev 0, .ev 1, .ev 0, .ev 1, .cl 4 cv2 [0] 3 false, .pf (leV_lit (DV.i .i64) ([300, rv2.1] : List Int)), .cl 3 cv3 [0] 3 false, .cl 2 cv4 [] 3 true] <|
.ret [] (.cont (rv3.2, rv4.1, (IntKind.i64.wrap (sv1.2.2 + 1))))) (
.ret [] (.brk (sv1.1, sv1.2.1, sv1.2.2)))
def S_mk_Office_b2 (sv5 : TTape × TApiOffice × Int × Int) : Scr Tryz.prog R_mk_Office (Step (TTape × TApiOffice × Int × Int) R_mk_Office) :=
.ite (decide (sv5.2.2.2 > 0)) (
.call (@F_mk_Tape_N_ok 25 sv5.1) fun rv6 cv6 =>
.call (@F_mk_Tape_Pick_ok ([0, 1, rv6.1] : List Int) rv6.2) fun rv7 cv7 =>
.reg 10 [] [(3, hc cv6 [0] false), (4, hv (vl ([0, 1, rv6.1] : List Int))), (5, hc cv7 [0] false)] [.cl 1 cv6 [0] 3 false, .pf (leV_lit (DV.i .i64) ([0, 1, rv6.1] : List Int)), .cl 0 cv7 [0] 3 false] <|
.sh (H := NoH) (A := True) (.pf trivial) [(0, (vp 0)), (4, (vp 1)), (5, (vp 2)), (7, (vi (IntKind.i64.wrap (sv5.2.2.1 + rv7.1)))), (9, (vi sv5.2.2.2))] [(0, (vp 0)), (4, (vp 1)), (5, (vp 2)), (7, (vi (IntKind.i64.wrap (sv5.2.2.1 + rv7.1)))), (9, (vi sv5.2.2.2))] [(bx (TTape.e rv7.2)), (bx (TApiOffice.e (⟨0, [], (⟨[], [], [], []⟩ : TApiBook)⟩ : TApiOffice))), (bx (TApiOffice.e sv5.2.1))] [(bx (TTape.e rv7.2)), (bx (TApiOffice.e (⟨0, [], (⟨[], [], [], []⟩ : TApiBook)⟩ : TApiOffice))), (bx (TApiOffice.e sv5.2.1)), Ob.unb] (fun _ => shift_unb) (trF_refl _) <|
.call (@F_mk_Op_ok sv5.2.1 (IntKind.i64.wrap (sv5.2.2.1 + rv7.1)) rv7.2) fun rv8 cv8 =>
.call (@F_r15_Do_ok sv5.2.1 rv8.1) fun rv9 cv9 =>
.reg 11 [4, 9, 10] [(4, hc cv8 [0] false), (5, hc cv9 [] true), (9, { h := .born 3 false, obs := [(3, (bx (TApiOffice.e (⟨0, [], (⟨[], [], [], []⟩ : TApiBook)⟩ : TApiOffice))))] })] [.cl 1 cv8 [0] 4 false, .cl 1 cv8 [0] 4 false, .cl 0 cv9 [] 4 true, .cl 0 cv9 [] 4 true, .pf cz1, .pf cz1] <|
.ite (rv9.2 == 0) (
.ret [] (.cont (rv8.2, rv9.1, (IntKind.i64.wrap (sv5.2.2.1 + rv7.1)), (IntKind.i64.wrap (sv5.2.2.2 - 1))))) (
.ret [] (.cont (rv8.2, sv5.2.1, (IntKind.i64.wrap (sv5.2.2.1 + rv7.1)), (IntKind.i64.wrap (sv5.2.2.2 - 1)))))) (
.ret [] (.brk (sv5.1, sv5.2.1, sv5.2.2.1, sv5.2.2.2)))
def S_mk_Office (a1 : Int) (p0 : TTape) : Scr Tryz.prog R_mk_Office R_mk_Office :=
.reg 0 [] [(0, { obs := [(1, (bx (TApiOffice.e (⟨0, [], (⟨[], [], [], []⟩ : TApiBook)⟩ : TApiOffice))))] })] [.pf cz1] <|
.call (@F_mk_Tape_Range_ok 1 3 p0) fun rv10 cv10 =>
.call (@F_r15_New_ok rv10.1) fun rv11 cv11 =>
.reg 1 [] [(1, hc cv10 [0] false), (2, hc cv11 [] true), (6, { obs := [(2, (bx (TApiOffice.e (⟨0, [], (⟨[], [], [], []⟩ : TApiBook)⟩ : TApiOffice))))] })] [.cl 1 cv10 [0] 2 false, .cl 0 cv11 [] 2 true, .pf cz1] <|
.call (@F_mk_Tape_N_ok 50 rv10.2) fun rv12 cv12 =>
.reg 2 [] [(1, hc cv12 [0] false)] [.cl 0 cv12 [0] 3 false] <|
.iter [0, 1, 4, 5, 7] (fun (sv1 : TTape × TApiOffice × Int) => [(8, (vi sv1.2.2))]) (fun (sv1 : TTape × TApiOffice × Int) => [(0, (bx (TTape.e sv1.1))), (2, (bx (TApiOffice.e sv1.2.1)))]) (rv12.2, rv11.1, 0) S_mk_Office_b1 (fun (sv1 : TTape × TApiOffice × Int) =>
.call (@F_mk_Tape_N_ok (IntKind.i64.wrap (a1 + 1)) sv1.1) fun rv13 cv13 =>
.reg 7 [] [(3, hc cv13 [0] false)] [.cl 0 cv13 [0] 3 false] <|
.iter [0, 4, 5] (fun (sv5 : TTape × TApiOffice × Int × Int) => [(7, (vi sv5.2.2.1)), (9, (vi sv5.2.2.2))]) (fun (sv5 : TTape × TApiOffice × Int × Int) => [(0, (bx (TTape.e sv5.1))), (2, (bx (TApiOffice.e sv5.2.1)))]) (rv13.2, sv1.2.1, (IntKind.i64.wrap (4320 + rv12.1)), rv13.1) S_mk_Office_b2 (fun (sv5 : TTape × TApiOffice × Int × Int) =>
.ret [] (sv5.2.1, sv5.1)) id) id
def F_mk_Office (a1 : Int) (p0 : TTape) : Option R_mk_Office := (S_mk_Office a1 p0).den
theorem F_mk_Office_ok {a1 : Int} {p0 : TTape} (r : R_mk_Office) (h : F_mk_Office a1 p0 = some r) : CallOk Tryz.prog 35 [(vp 0), (vi a1)] [(bx (TTape.e p0))] (V_mk_Office r) (L_mk_Office r) := fOk (s := S_mk_Office a1 p0) Tryz.func35 rfl (by kernel_rfl) h
abbrev R_mk_Keys := (List Int) × TTape
def V_mk_Keys (x : R_mk_Keys) : AV := (AV.d (eL (DV.i .u64) x.1))
def L_mk_Keys (x : R_mk_Keys) : List Ob := [(bx (TTape.e x.2))]
def S_mk_Keys_b1 (a1 : Int) (sv1 : TTape × (List Int) × Int) : Scr Tryz.prog R_mk_Keys (Step (TTape × (List Int) × Int) R_mk_Keys) :=
.ite (decide (sv1.2.2 < (IntKind.i64.wrap (2 * a1)))) (
.call (@F_mk_Tape_N_ok 1000 sv1.1) fun rv2 cv2 =>
.guard [(sv1.2.1.length + 1) * (2 * 8) ≤ 2 ^ 48] <|
.reg 5 [] [(2, hc cv2 [0] false), (9, hv (AV.d (eL (DV.i .u64) ([(IntKind.u64.wrap ((IntKind.u64.wrap ((IntKind.u64.wrap rv2.1) * 2654435761)) + (IntKind.u64.wrap ((IntKind.u64.wrap sv1.2.2) * 7919))))] : List Int)))), (10, { h := .obj, cast := some (AV.ref 1 ((sv1.2.1 ++ ([(IntKind.u64.wrap ((IntKind.u64.wrap ((IntKind.u64.wrap rv2.1) * 2654435761)) + (IntKind.u64.wrap ((IntKind.u64.wrap sv1.2.2) * 7919))))] : List Int)).length) 0 ((sv1.2.1 ++ ([(IntKind.u64.wrap ((IntKind.u64.wrap ((IntKind.u64.wrap rv2.1) * 2654435761)) + (IntKind.u64.wrap ((IntKind.u64.wrap sv1.2.2) * 7919))))] : List Int)).length)), obs := [(1, (eS 1 (DV.i .u64) (sv1.2.1 ++ ([(IntKind.u64.wrap ((IntKind.u64.wrap ((IntKind.u64.wrap rv2.1) * 2654435761)) + (IntKind.u64.wrap ((IntKind.u64.wrap sv1.2.2) * 7919))))] : List Int))))] })] [.cl 1 cv2 [0] 2 false, .pf (leV_lit (DV.i .u64) ([(IntKind.u64.wrap ((IntKind.u64.wrap ((IntKind.u64.wrap rv2.1) * 2654435761)) + (IntKind.u64.wrap ((IntKind.u64.wrap sv1.2.2) * 7919))))] : List Int)), .pf (Eq.refl sv1.2.1.length), .pf (Eq.refl sv1.2.1.length), .pf (p := ∀ k, k < 1 → (AV.d ((DV.i .u64) (([(IntKind.u64.wrap ((IntKind.u64.wrap ((IntKind.u64.wrap rv2.1) * 2654435761)) + (IntKind.u64.wrap ((IntKind.u64.wrap sv1.2.2) * 7919))))] : List Int).getD k default))).wd = 1) (fun _ _ => rfl), .ev 0, .pf (leV_app (o := 1) (l := sv1.2.1) (x := ([(IntKind.u64.wrap ((IntKind.u64.wrap ((IntKind.u64.wrap rv2.1) * 2654435761)) + (IntKind.u64.wrap ((IntKind.u64.wrap sv1.2.2) * 7919))))] : List Int))), .pf (oLe_app (sz := 1) (e := (DV.i .u64)) (l := sv1.2.1) (x := ([(IntKind.u64.wrap ((IntKind.u64.wrap ((IntKind.u64.wrap rv2.1) * 2654435761)) + (IntKind.u64.wrap ((IntKind.u64.wrap sv1.2.2) * 7919))))] : List Int)))] <|
.ret [] (.cont (rv2.2, (sv1.2.1 ++ ([(IntKind.u64.wrap ((IntKind.u64.wrap ((IntKind.u64.wrap rv2.1) * 2654435761)) + (IntKind.u64.wrap ((IntKind.u64.wrap sv1.2.2) * 7919))))] : List Int)), (IntKind.i64.wrap (sv1.2.2 + 1))))) (
.ret [] (.brk (sv1.1, sv1.2.1, sv1.2.2)))
def S_mk_Keys (a1 : Int) (p0 : TTape) : Scr Tryz.prog R_mk_Keys R_mk_Keys :=
.reg 2 [] [] [] <|
.bor 1 (fun j => AV.d ((DV.i .u64) (([] : List Int).getD j default))) [5] <|
.iter [0, 1] (fun (sv1 : TTape × (List Int) × Int) => [(5, (AV.ref 1 sv1.2.1.length 0 sv1.2.1.length)), (6, (vi sv1.2.2))]) (fun (sv1 : TTape × (List Int) × Int) => [(0, (bx (TTape.e sv1.1))), (1, (eS 1 (DV.i .u64) sv1.2.1))]) (p0, ([] : List Int), 0) (S_mk_Keys_b1 a1) (fun (sv1 : TTape × (List Int) × Int) =>
.guard [sv1.2.1.length < 2 ^ 63] <|
.reg 6 [] [] [] <|
.frz 1 (.ev 0) none [4] [] <|
.ret [] (sv1.2.1, sv1.1)) id
def F_mk_Keys (a1 : Int) (p0 : TTape) : Option R_mk_Keys := (S_mk_Keys a1 p0).den
theorem F_mk_Keys_ok {a1 : Int} {p0 : TTape} (r : R_mk_Keys) (h : F_mk_Keys a1 p0 = some r) : CallOk Tryz.prog 36 [(vp 0), (vi a1)] [(bx (TTape.e p0))] (V_mk_Keys r) (L_mk_Keys r) := fOk (s := S_mk_Keys a1 p0) Tryz.func36 rfl (by kernel_rfl) h
end
end Go.Proofs.YtclaojamgomjbaaGreatDoor
