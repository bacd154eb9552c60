/- A part of the proof: what the functions compute, and that their calls return it. No condition. -/
import Derived.Test.YtkabfdfkegjfdaaGreatDoorG4
/- What the functions compute, and that their calls return it. No condition. -/
namespace Go.Proofs.YtkabfdfkegjfdaaGreatDoor
open Go Go.TA
noncomputable section
/-! 44 -/
abbrev R_rights_Return := TApiRight × Int
def V_rights_Return (x : R_rights_Return) : AV := (AV.tup [(AV.d (TApiRight.e x.1)), (vi x.2)])
def L_rights_Return (_ : R_rights_Return) : List Ob := []
def S_rights_Return (a0 : TApiRight) (a1 : Int) (a2 : Int) : Scr Tryz.prog R_rights_Return R_rights_Return :=
.call (@F_rights_Right_ok a0) fun rv1 cv1 =>
.calld [(!rv1) = false] default (@F_rights_among_ok a1 0 (IntKind.i64.wrap (a0.Granted - a0.Returned))) fun rv2 cv2 =>
.reg 1 [] [(1, hc cv1 [] true), (10, hc cv2 [] true)] [.cl 2 cv1 [] 2 true, .clg 0 [(!rv1) = false] cv2 [] 2 true] <|
.ite (bif (!rv1) then true else (!rv2)) (
.ret [] ((⟨[], 0, 0, 0, 0⟩ : TApiRight), 1)) (
.call (@F_rights_among_ok a2 1 1000000000000000) fun rv3 cv3 =>
.reg 3 [] [(1, hc cv3 [] true)] [.cl 0 cv3 [] 2 true] <|
.ite (!rv3) (
.ret [] ((⟨[], 0, 0, 0, 0⟩ : TApiRight), 2)) (
.ite (decide (a2 > (IntKind.i64.wrap ((IntKind.i64.wrap (a0.Granted - a0.Returned)) - a1)))) (
.ret [] ((⟨[], 0, 0, 0, 0⟩ : TApiRight), 15)) (
.ret [] ((⟨a0.Code, a0.Year, a0.Granted, a0.Asked, (IntKind.i64.wrap (a0.Returned + a2))⟩ : TApiRight), 0))))
def F_rights_Return (a0 : TApiRight) (a1 : Int) (a2 : Int) : Option R_rights_Return := (S_rights_Return a0 a1 a2).den
set_option maxRecDepth 100000 in
theorem F_rights_Return_ok {a0 : TApiRight} {a1 : Int} {a2 : Int} (r : R_rights_Return) (h : F_rights_Return a0 a1 a2 = some r) : CallOk Tryz.prog 44 [(AV.d (TApiRight.e a0)), (vi a1), (vi a2)] [] (V_rights_Return r) (L_rights_Return r) := fOk (s := S_rights_Return a0 a1 a2) Tryz.func44 rfl (by kernel_rfl) h
/-! 79 -/
abbrev R_rights_Hear_1 := Int × (List Int) × (List Int)
def V_rights_Hear_1 (x : R_rights_Hear_1) : AV := (vi x.1)
def L_rights_Hear_1 (p0_0 : Nat) (p0_1 : (List TApiPot)) (p0_2 : List UInt8) (p0_3 : Int) (p0_4 : Int) (p1 : TApiMessage) (p2 : (List Int)) (p3 : (List Int)) (p4 : (List Int)) (p5 : (List Int)) (x : R_rights_Hear_1) : List Ob := [(opS 7 TApiPot.e p0_0 (AV.agg [(AV.d (DV.str p0_2)), (vi p0_3), (vi p0_4), (AV.ref 2 p2.length 0 p2.length), (AV.ref 3 p3.length 0 p3.length), (AV.ref 4 p4.length 0 p4.length), (AV.ref 5 p5.length 0 p5.length)]) p0_1), (bx (TApiMessage.e p1)), (eS 1 (DV.i .i64) p2), (eS 1 (DV.i .i64) x.2.1), (eS 1 (DV.i .i64) p4), (eS 1 (DV.i .i64) x.2.2)]
def S_rights_Hear_1 (p0_0 : Nat) (p0_1 : (List TApiPot)) (_ : List UInt8) (_ : Int) (_ : Int) (p1 : TApiMessage) (p2 : (List Int)) (p3 : (List Int)) (_ : (List Int)) (p5 : (List Int)) : Scr Tryz.prog R_rights_Hear_1 R_rights_Hear_1 :=
.call (@F_rights_among_ok p1.From 1 (p3.length : Int)) fun rv1 cv1 =>
.guard [p0_0 < p0_1.length] <|
.reg 2 [] [(7, hc cv1 [] true)] [.pf (Eq.refl p0_1.length), .pf (Eq.refl p0_1.length), .ev 0, .pf (p := decide (p0_0 = p0_0) = true) (decide_eq_true rfl), .cl 1 cv1 [] 6 true] <|
.ite (!rv1) (
.ret [] (6, p3, p5)) (
.call (@F_rights_among_ok p1.Returned 0 (p2.getD (0 + ((IntKind.i64.wrap (p1.From - 1))).toNat) default)) fun rv2 cv2 =>
.calld [(!rv2) = false] default (@F_rights_total_ok p1.Used) fun rv3 cv3 =>
.guard [(0 : Int) ≤ (IntKind.i64.wrap (p1.From - 1)), ((IntKind.i64.wrap (p1.From - 1))).toNat < p2.length, (0 + ((IntKind.i64.wrap (p1.From - 1))).toNat) < p2.length] <|
.reg 4 [] [(9, hc cv2 [] true), (14, hc cv3 [] true)] [.pf (Eq.refl p0_1.length), .pf (Eq.refl p0_1.length), .ev 7, .pf (p := decide (p0_0 = p0_0) = true) (decide_eq_true rfl), .pf (Eq.refl p2.length), .ev 0, .ev 1, .pf (Eq.refl p2.length), .ev 2, .cl 5 cv2 [] 6 true, .clg 3 [(!rv2) = false] cv3 [] 6 true] <|
.ite (bif (!rv2) then true else (!rv3)) (
.ret [] (2, p3, p5)) (
.guard [((IntKind.i64.wrap (p1.From - 1))).toNat < p3.length, (0 + ((IntKind.i64.wrap (p1.From - 1))).toNat) < p3.length, ((IntKind.i64.wrap (p1.From - 1))).toNat < p5.length, (0 + ((IntKind.i64.wrap (p1.From - 1))).toNat) < p5.length] <|
.reg 6 [23, 25] [(23, { obs := [(3, (eS 1 (DV.i .i64) (p3.set (0 + ((IntKind.i64.wrap (p1.From - 1))).toNat) (if p1.Returned > (p3.getD (0 + ((IntKind.i64.wrap (p1.From - 1))).toNat) default) then p1.Returned else (p3.getD (0 + ((IntKind.i64.wrap (p1.From - 1))).toNat) default)))))] }), (25, { obs := [(5, (eS 1 (DV.i .i64) (p5.set (0 + ((IntKind.i64.wrap (p1.From - 1))).toNat) p1.Used)))] })] [.pf (Eq.refl p0_1.length), .pf (Eq.refl p0_1.length), .ev 12, .pf (p := decide (p0_0 = p0_0) = true) (decide_eq_true rfl), .pf (Eq.refl p0_1.length), .pf (Eq.refl p0_1.length), .ev 12, .pf (p := decide (p0_0 = p0_0) = true) (decide_eq_true rfl), .pf (Eq.refl p0_1.length), .pf (Eq.refl p0_1.length), .ev 12, .pf (p := decide (p0_0 = p0_0) = true) (decide_eq_true rfl), .pf (Eq.refl p3.length), .ev 5, .ev 0, .pf (Eq.refl p3.length), .ev 1, .pf (Eq.refl p3.length), .ev 5, .ev 0, .pf (Eq.refl p3.length), .ev 1, .pf (oLe_set (sz := 1) (e := (DV.i .i64)) (l := p3) (i := (0 + ((IntKind.i64.wrap (p1.From - 1))).toNat)) (x := (if p1.Returned > (p3.getD (0 + ((IntKind.i64.wrap (p1.From - 1))).toNat) default) then p1.Returned else (p3.getD (0 + ((IntKind.i64.wrap (p1.From - 1))).toNat) default))) (fun _ => rfl)), .pf (Eq.refl p5.length), .ev 5, .ev 2, .pf (Eq.refl p5.length), .ev 3, .pf (oLe_set (sz := 1) (e := (DV.i .i64)) (l := p5) (i := (0 + ((IntKind.i64.wrap (p1.From - 1))).toNat)) (x := p1.Used) (fun _ => rfl))] <|
.ret [] (0, (p3.set (0 + ((IntKind.i64.wrap (p1.From - 1))).toNat) (if p1.Returned > (p3.getD (0 + ((IntKind.i64.wrap (p1.From - 1))).toNat) default) then p1.Returned else (p3.getD (0 + ((IntKind.i64.wrap (p1.From - 1))).toNat) default))), (p5.set (0 + ((IntKind.i64.wrap (p1.From - 1))).toNat) p1.Used))))
def F_rights_Hear_1 (p0_0 : Nat) (p0_1 : (List TApiPot)) (p0_2 : List UInt8) (p0_3 : Int) (p0_4 : Int) (p1 : TApiMessage) (p2 : (List Int)) (p3 : (List Int)) (p4 : (List Int)) (p5 : (List Int)) : Option R_rights_Hear_1 := (S_rights_Hear_1 p0_0 p0_1 p0_2 p0_3 p0_4 p1 p2 p3 p4 p5).den
set_option maxRecDepth 100000 in
theorem F_rights_Hear_1_ok {p0_0 : Nat} {p0_1 : (List TApiPot)} {p0_2 : List UInt8} {p0_3 : Int} {p0_4 : Int} {p1 : TApiMessage} {p2 : (List Int)} {p3 : (List Int)} {p4 : (List Int)} {p5 : (List Int)} (r : R_rights_Hear_1) (h : F_rights_Hear_1 p0_0 p0_1 p0_2 p0_3 p0_4 p1 p2 p3 p4 p5 = some r) : CallOk Tryz.prog 79 [(AV.ptr 0 p0_1.length [.x p0_0 7]), (vp 1)] [(opS 7 TApiPot.e p0_0 (AV.agg [(AV.d (DV.str p0_2)), (vi p0_3), (vi p0_4), (AV.ref 2 p2.length 0 p2.length), (AV.ref 3 p3.length 0 p3.length), (AV.ref 4 p4.length 0 p4.length), (AV.ref 5 p5.length 0 p5.length)]) p0_1), (bx (TApiMessage.e p1)), (eS 1 (DV.i .i64) p2), (eS 1 (DV.i .i64) p3), (eS 1 (DV.i .i64) p4), (eS 1 (DV.i .i64) p5)] (V_rights_Hear_1 r) (L_rights_Hear_1 p0_0 p0_1 p0_2 p0_3 p0_4 p1 p2 p3 p4 p5 r) := fOk (s := S_rights_Hear_1 p0_0 p0_1 p0_2 p0_3 p0_4 p1 p2 p3 p4 p5) Tryz.func79 rfl (by kernel_rfl) h
/-! 69 -/
abbrev R_rights_change_rights_Hear_1 := TApiTreasury × Int
def V_rights_change_rights_Hear_1 (x : R_rights_change_rights_Hear_1) : AV := (AV.tup [(AV.d (TApiTreasury.e x.1)), (vi x.2)])
def L_rights_change_rights_Hear_1 (p0 : TApiMessage) (_ : R_rights_change_rights_Hear_1) : List Ob := [(bx (TApiMessage.e p0))]
def S_rights_change_rights_Hear_1 (a0 : TApiTreasury) (a1 : List UInt8) (a2 : Int) (p0 : TApiMessage) : Scr Tryz.prog R_rights_change_rights_Hear_1 R_rights_change_rights_Hear_1 :=
.reg 0 [] [(1, { obs := [(2, (bx (TApiTreasury.e (⟨0, []⟩ : TApiTreasury))))] })] [.pf cz4] <|
.call (@F_rights_Valid_ok a0) fun rv1 cv1 =>
.reg 1 [] [(1, hc cv1 [] true)] [.cl 0 cv1 [] 3 true] <|
.ite (!rv1) (
.reg 2 [] [(0, hv (AV.d (TApiTreasury.e (⟨0, []⟩ : TApiTreasury))))] [.pf cz5] <|
.ret [] ((⟨0, []⟩ : TApiTreasury), 1)) (
.call (@F_rights_find_ok a0 a1 a2) fun rv2 cv2 =>
.reg 3 [] [(3, hc cv2 [] true)] [.cl 0 cv2 [] 3 true] <|
.ite (decide (rv2 < 0)) (
.reg 5 [] [(0, hv (AV.d (TApiTreasury.e (⟨0, []⟩ : TApiTreasury))))] [.pf cz5] <|
.ret [] ((⟨0, []⟩ : TApiTreasury), 6)) (
.call (@F_rights_fresh_op_ok a0 ((rv2).toNat)) fun rv3 cv3 =>
.reg 6 [] [(1, hc cv3 [] false)] [.cl 0 cv3 [] 3 false] <|
.kill 4 <|
.call (@F_rights_Hear_1_ok ((rv2).toNat) rv3.2 ((rv3.2.getD ((rv2).toNat) default).Code) ((rv3.2.getD ((rv2).toNat) default).Year) ((rv3.2.getD ((rv2).toNat) default).Total) p0 ((rv3.2.getD ((rv2).toNat) default).Granted) ((rv3.2.getD ((rv2).toNat) default).Heard) ((rv3.2.getD ((rv2).toNat) default).Asked) ((rv3.2.getD ((rv2).toNat) default).Used)) fun rv4 cv4 =>
.guard [(0 : Int) ≤ rv2, (rv2).toNat < rv3.2.length] <|
.reg 7 [] [(4, hv (AV.ptr 5 rv3.2.length [.x ((rv2).toNat) 7])), (5, hc cv4 [5, 0, 6, 7, 8, 9] false)] [.pf (Eq.refl rv3.2.length), .ev 0, .ev 1, .pf (p := LeV (AV.ptr 5 rv3.2.length [.x (0 + ((rv2).toNat)) 7]) (AV.ptr 5 rv3.2.length [.x ((rv2).toNat) 7])) (leV_ix), .cl 2 cv4 [5, 0, 6, 7, 8, 9] 10 false] <|
.ite (rv4.1 != 0) (
.reg 9 [] [(0, hv (AV.d (TApiTreasury.e (⟨0, []⟩ : TApiTreasury))))] [.pf cz5] <|
.ret [] ((⟨0, []⟩ : TApiTreasury), rv4.1)) (
.reg 10 [] [] [] <|
.guard [rv4.2.1.length = ((rv3.2.getD ((rv2).toNat) default).Heard).length ∧ rv4.2.2.length = ((rv3.2.getD ((rv2).toNat) default).Used).length] <|
.cst (A := rv4.2.1.length = ((rv3.2.getD ((rv2).toNat) default).Heard).length ∧ rv4.2.2.length = ((rv3.2.getD ((rv2).toNat) default).Used).length) (.ev 0) [(8, (vp 2)), (9, (vi 0))] [(8, (vp 2)), (9, (vi 0))] [(bx (TApiMessage.e p0)), (Ob.box (AV.agg [(vi rv3.1), (AV.ref 5 rv3.2.length 0 rv3.2.length)])), (Ob.box (AV.agg [(vi rv3.1), (AV.ref 5 rv3.2.length 0 rv3.2.length)])), Ob.dead, Ob.dead, (opS 7 TApiPot.e ((rv2).toNat) (AV.agg [(AV.d (DV.str ((rv3.2.getD ((rv2).toNat) default).Code))), (vi ((rv3.2.getD ((rv2).toNat) default).Year)), (vi ((rv3.2.getD ((rv2).toNat) default).Total)), (AV.ref 6 (((rv3.2.getD ((rv2).toNat) default).Granted).length) 0 (((rv3.2.getD ((rv2).toNat) default).Granted).length)), (AV.ref 7 (((rv3.2.getD ((rv2).toNat) default).Heard).length) 0 (((rv3.2.getD ((rv2).toNat) default).Heard).length)), (AV.ref 8 (((rv3.2.getD ((rv2).toNat) default).Asked).length) 0 (((rv3.2.getD ((rv2).toNat) default).Asked).length)), (AV.ref 9 (((rv3.2.getD ((rv2).toNat) default).Used).length) 0 (((rv3.2.getD ((rv2).toNat) default).Used).length))]) rv3.2), (eS 1 (DV.i .i64) ((rv3.2.getD ((rv2).toNat) default).Granted)), (eS 1 (DV.i .i64) rv4.2.1), (eS 1 (DV.i .i64) ((rv3.2.getD ((rv2).toNat) default).Asked)), (eS 1 (DV.i .i64) rv4.2.2)] [(bx (TApiMessage.e p0)), (Ob.box (AV.agg [(vi rv3.1), (AV.ref 5 rv3.2.length 0 rv3.2.length)])), (Ob.box (AV.agg [(vi rv3.1), (AV.ref 5 rv3.2.length 0 rv3.2.length)])), Ob.dead, Ob.dead, (opS 7 TApiPot.e ((rv2).toNat) (AV.agg [(AV.d (DV.str ((rv3.2.getD ((rv2).toNat) default).Code))), (vi ((rv3.2.getD ((rv2).toNat) default).Year)), (vi ((rv3.2.getD ((rv2).toNat) default).Total)), (AV.ref 6 (((rv3.2.getD ((rv2).toNat) default).Granted).length) 0 (((rv3.2.getD ((rv2).toNat) default).Granted).length)), (AV.ref 7 rv4.2.1.length 0 rv4.2.1.length), (AV.ref 8 (((rv3.2.getD ((rv2).toNat) default).Asked).length) 0 (((rv3.2.getD ((rv2).toNat) default).Asked).length)), (AV.ref 9 rv4.2.2.length 0 rv4.2.2.length)]) rv3.2), (eS 1 (DV.i .i64) ((rv3.2.getD ((rv2).toNat) default).Granted)), (eS 1 (DV.i .i64) rv4.2.1), (eS 1 (DV.i .i64) ((rv3.2.getD ((rv2).toNat) default).Asked)), (eS 1 (DV.i .i64) rv4.2.2)] (fun h => ⟨rfl, by rw [h.1, h.2]⟩) <|
.guard [((rv3.2.getD ((rv2).toNat) default).Granted).length < 2 ^ 63 ∧ rv4.2.1.length < 2 ^ 63 ∧ ((rv3.2.getD ((rv2).toNat) default).Asked).length < 2 ^ 63 ∧ rv4.2.2.length < 2 ^ 63] <|
.sh (A := ((rv3.2.getD ((rv2).toNat) default).Granted).length < 2 ^ 63 ∧ rv4.2.1.length < 2 ^ 63 ∧ ((rv3.2.getD ((rv2).toNat) default).Asked).length < 2 ^ 63 ∧ rv4.2.2.length < 2 ^ 63) (.ev 0) [(8, (vp 2)), (9, (vi 0))] [(8, (vp 2)), (9, (vi 0))] [(bx (TApiMessage.e p0)), (Ob.box (AV.agg [(vi rv3.1), (AV.ref 5 rv3.2.length 0 rv3.2.length)])), (Ob.box (AV.agg [(vi rv3.1), (AV.ref 5 rv3.2.length 0 rv3.2.length)])), Ob.dead, Ob.dead, (opS 7 TApiPot.e ((rv2).toNat) (AV.agg [(AV.d (DV.str ((rv3.2.getD ((rv2).toNat) default).Code))), (vi ((rv3.2.getD ((rv2).toNat) default).Year)), (vi ((rv3.2.getD ((rv2).toNat) default).Total)), (AV.ref 6 (((rv3.2.getD ((rv2).toNat) default).Granted).length) 0 (((rv3.2.getD ((rv2).toNat) default).Granted).length)), (AV.ref 7 rv4.2.1.length 0 rv4.2.1.length), (AV.ref 8 (((rv3.2.getD ((rv2).toNat) default).Asked).length) 0 (((rv3.2.getD ((rv2).toNat) default).Asked).length)), (AV.ref 9 rv4.2.2.length 0 rv4.2.2.length)]) rv3.2), (eS 1 (DV.i .i64) ((rv3.2.getD ((rv2).toNat) default).Granted)), (eS 1 (DV.i .i64) rv4.2.1), (eS 1 (DV.i .i64) ((rv3.2.getD ((rv2).toNat) default).Asked)), (eS 1 (DV.i .i64) rv4.2.2)] [(bx (TApiMessage.e p0)), (Ob.box (AV.agg [(vi rv3.1), (AV.ref 5 rv3.2.length 0 rv3.2.length)])), (Ob.box (AV.agg [(vi rv3.1), (AV.ref 5 rv3.2.length 0 rv3.2.length)])), Ob.dead, Ob.dead, (eS 7 TApiPot.e (rv3.2.set ((rv2).toNat) (⟨(rv3.2.getD ((rv2).toNat) default).Code, (rv3.2.getD ((rv2).toNat) default).Year, (rv3.2.getD ((rv2).toNat) default).Total, (rv3.2.getD ((rv2).toNat) default).Granted, rv4.2.1, (rv3.2.getD ((rv2).toNat) default).Asked, rv4.2.2⟩ : TApiPot))), Ob.dead, Ob.dead, Ob.dead, Ob.dead] (fun h => shift_close oTApiPot (P := [(bx (TApiMessage.e p0)), (Ob.box (AV.agg [(vi rv3.1), (AV.ref 5 rv3.2.length 0 rv3.2.length)])), (Ob.box (AV.agg [(vi rv3.1), (AV.ref 5 rv3.2.length 0 rv3.2.length)])), Ob.dead, Ob.dead]) (D := []) rfl (⟨(rv3.2.getD ((rv2).toNat) default).Code, (rv3.2.getD ((rv2).toNat) default).Year, (rv3.2.getD ((rv2).toNat) default).Total, [], [], [], []⟩ : TApiPot) (⟨(rv3.2.getD ((rv2).toNat) default).Code, (rv3.2.getD ((rv2).toNat) default).Year, (rv3.2.getD ((rv2).toNat) default).Total, (rv3.2.getD ((rv2).toNat) default).Granted, rv4.2.1, (rv3.2.getD ((rv2).toNat) default).Asked, rv4.2.2⟩ : TApiPot) h rfl) (trF_refl _) <|
.cst (A := True) (.pf trivial) [(8, (vp 2)), (9, (vi 0))] [(8, (vp 2)), (9, (vi 0))] [(bx (TApiMessage.e p0)), (Ob.box (AV.agg [(vi rv3.1), (AV.ref 5 rv3.2.length 0 rv3.2.length)])), (Ob.box (AV.agg [(vi rv3.1), (AV.ref 5 rv3.2.length 0 rv3.2.length)])), Ob.dead, Ob.dead, (eS 7 TApiPot.e (rv3.2.set ((rv2).toNat) (⟨(rv3.2.getD ((rv2).toNat) default).Code, (rv3.2.getD ((rv2).toNat) default).Year, (rv3.2.getD ((rv2).toNat) default).Total, (rv3.2.getD ((rv2).toNat) default).Granted, rv4.2.1, (rv3.2.getD ((rv2).toNat) default).Asked, rv4.2.2⟩ : TApiPot))), Ob.dead, Ob.dead, Ob.dead, Ob.dead] [(bx (TApiMessage.e p0)), (Ob.box (AV.agg [(vi rv3.1), (AV.ref 5 ((rv3.2.set ((rv2).toNat) (⟨(rv3.2.getD ((rv2).toNat) default).Code, (rv3.2.getD ((rv2).toNat) default).Year, (rv3.2.getD ((rv2).toNat) default).Total, (rv3.2.getD ((rv2).toNat) default).Granted, rv4.2.1, (rv3.2.getD ((rv2).toNat) default).Asked, rv4.2.2⟩ : TApiPot)).length) 0 ((rv3.2.set ((rv2).toNat) (⟨(rv3.2.getD ((rv2).toNat) default).Code, (rv3.2.getD ((rv2).toNat) default).Year, (rv3.2.getD ((rv2).toNat) default).Total, (rv3.2.getD ((rv2).toNat) default).Granted, rv4.2.1, (rv3.2.getD ((rv2).toNat) default).Asked, rv4.2.2⟩ : TApiPot)).length))])), (Ob.box (AV.agg [(vi rv3.1), (AV.ref 5 ((rv3.2.set ((rv2).toNat) (⟨(rv3.2.getD ((rv2).toNat) default).Code, (rv3.2.getD ((rv2).toNat) default).Year, (rv3.2.getD ((rv2).toNat) default).Total, (rv3.2.getD ((rv2).toNat) default).Granted, rv4.2.1, (rv3.2.getD ((rv2).toNat) default).Asked, rv4.2.2⟩ : TApiPot)).length) 0 ((rv3.2.set ((rv2).toNat) (⟨(rv3.2.getD ((rv2).toNat) default).Code, (rv3.2.getD ((rv2).toNat) default).Year, (rv3.2.getD ((rv2).toNat) default).Total, (rv3.2.getD ((rv2).toNat) default).Granted, rv4.2.1, (rv3.2.getD ((rv2).toNat) default).Asked, rv4.2.2⟩ : TApiPot)).length))])), Ob.dead, Ob.dead, (eS 7 TApiPot.e (rv3.2.set ((rv2).toNat) (⟨(rv3.2.getD ((rv2).toNat) default).Code, (rv3.2.getD ((rv2).toNat) default).Year, (rv3.2.getD ((rv2).toNat) default).Total, (rv3.2.getD ((rv2).toNat) default).Granted, rv4.2.1, (rv3.2.getD ((rv2).toNat) default).Asked, rv4.2.2⟩ : TApiPot))), Ob.dead, Ob.dead, Ob.dead, Ob.dead] (fun _ => ⟨by simp only, by simp only [List.length_set]⟩) <|
.guard [(rv3.2.set ((rv2).toNat) (⟨(rv3.2.getD ((rv2).toNat) default).Code, (rv3.2.getD ((rv2).toNat) default).Year, (rv3.2.getD ((rv2).toNat) default).Total, (rv3.2.getD ((rv2).toNat) default).Granted, rv4.2.1, (rv3.2.getD ((rv2).toNat) default).Asked, rv4.2.2⟩ : TApiPot)).length < 2 ^ 63] <|
.frz 5 (.ev 0) none [] [1, 2] <|
.ret [] ((⟨rv3.1, (rv3.2.set ((rv2).toNat) (⟨(rv3.2.getD ((rv2).toNat) default).Code, (rv3.2.getD ((rv2).toNat) default).Year, (rv3.2.getD ((rv2).toNat) default).Total, (rv3.2.getD ((rv2).toNat) default).Granted, rv4.2.1, (rv3.2.getD ((rv2).toNat) default).Asked, rv4.2.2⟩ : TApiPot))⟩ : TApiTreasury), 0))))
def F_rights_change_rights_Hear_1 (a0 : TApiTreasury) (a1 : List UInt8) (a2 : Int) (p0 : TApiMessage) : Option R_rights_change_rights_Hear_1 := (S_rights_change_rights_Hear_1 a0 a1 a2 p0).den
set_option maxRecDepth 100000 in
theorem F_rights_change_rights_Hear_1_ok {a0 : TApiTreasury} {a1 : List UInt8} {a2 : Int} {p0 : TApiMessage} (r : R_rights_change_rights_Hear_1) (h : F_rights_change_rights_Hear_1 a0 a1 a2 p0 = some r) : CallOk Tryz.prog 69 [(AV.d (TApiTreasury.e a0)), (AV.d (DV.str a1)), (vi a2), (AV.fn 79 [(vp 0)])] [(bx (TApiMessage.e p0))] (V_rights_change_rights_Hear_1 r) (L_rights_change_rights_Hear_1 p0 r) := fOk (s := S_rights_change_rights_Hear_1 a0 a1 a2 p0) Tryz.func69 rfl (by kernel_rfl) h
/-! 39 -/
abbrev R_rights_Hear := TApiTreasury × Int
def V_rights_Hear (x : R_rights_Hear) : AV := (AV.tup [(AV.d (TApiTreasury.e x.1)), (vi x.2)])
def L_rights_Hear (_ : R_rights_Hear) : List Ob := []
def S_rights_Hear (a0 : TApiTreasury) (a1 : TApiMessage) : Scr Tryz.prog R_rights_Hear R_rights_Hear :=
.reg 0 [] [(2, { obs := [(2, (bx (TApiTreasury.e (⟨0, []⟩ : TApiTreasury))))] })] [.pf cz4] <|
.ite (a1.To != 0) (
.reg 2 [] [(0, hv (AV.d (TApiTreasury.e (⟨0, []⟩ : TApiTreasury))))] [.pf cz5] <|
.ret [] ((⟨0, []⟩ : TApiTreasury), 1)) (
.call (@F_rights_change_rights_Hear_1_ok a0 a1.Code a1.Year a1) fun rv1 cv1 =>
.reg 3 [] [(6, hc cv1 [1] true)] [.cl 0 cv1 [1] 3 true] <|
.ret [] (rv1.1, rv1.2))
def F_rights_Hear (a0 : TApiTreasury) (a1 : TApiMessage) : Option R_rights_Hear := (S_rights_Hear a0 a1).den
set_option maxRecDepth 100000 in
theorem F_rights_Hear_ok {a0 : TApiTreasury} {a1 : TApiMessage} (r : R_rights_Hear) (h : F_rights_Hear a0 a1 = some r) : CallOk Tryz.prog 39 [(AV.d (TApiTreasury.e a0)), (AV.d (TApiMessage.e a1))] [] (V_rights_Hear r) (L_rights_Hear r) := fOk (s := S_rights_Hear a0 a1) Tryz.func39 rfl (by kernel_rfl) h
/-! 8 -/
theorem cz8 : LeV (AV.d (DV.agg [(DV.i .i64 2), Z0])) (AV.d (TApiTreasury.e (⟨2, []⟩ : TApiTreasury))) := leV_dle rfl (DLe.agg (DLeL.cons (DLe.refl _) (DLeL.cons DLe.sl0 DLeL.nil)))
abbrev R_w13_awake := Bool
def V_w13_awake (x : R_w13_awake) : AV := (vb x)
def L_w13_awake (_ : R_w13_awake) : List Ob := []
def S_w13_awake : Scr Tryz.prog R_w13_awake R_w13_awake :=
.call (@F_rights_Set_ok (⟨2, []⟩ : TApiTreasury) ([49]) 12 100) fun rv1 cv1 =>
.reg 1 [] [(0, hv (AV.d (TApiTreasury.e (⟨2, []⟩ : TApiTreasury)))), (1, hc cv1 [] true), (5, { obs := [(0, (bx (TApiTreasury.e (⟨0, []⟩ : TApiTreasury))))] })] [.pf cz8, .cl 0 cv1 [] 0 true, .pf cz4] <|
.call (@F_rights_Divide_ok rv1.1 ([49]) 12 ([60, 40] : List Int)) fun rv2 cv2 =>
.reg 2 [] [(1, hv (vl ([60, 40] : List Int))), (2, hc cv2 [] true)] [.pf (leV_lit (DV.i .i64) ([60, 40] : List Int)), .cl 0 cv2 [] 1 true] <|
.call (@F_rights_Set_ok rv2.1 ([49]) 12 90) fun rv3 cv3 =>
.reg 3 [] [(1, hc cv3 [] true)] [.cl 0 cv3 [] 1 true] <|
.call (@F_rights_Pot_ok rv3.1 ([49]) 12) fun rv4 cv4 =>
.reg 4 [] [(1, hc cv4 [] true), (5, { obs := [(1, (bx (TApiPot.e (⟨[], 0, 0, [], [], [], []⟩ : TApiPot))))] })] [.cl 0 cv4 [] 1 true, .pf cz2] <|
.calld [(bif (bif (bif (rv1.2 != 0) then true else (rv2.2 != 0)) then true else (rv3.2 != 0)) then true else (!rv4.2)) = false] default (@F_rights_Shortfall_ok rv4.1) fun rv5 cv5 =>
.reg 5 [] [(16, hc cv5 [] true)] [.clg 0 [(bif (bif (bif (rv1.2 != 0) then true else (rv2.2 != 0)) then true else (rv3.2 != 0)) then true else (!rv4.2)) = false] cv5 [] 2 true] <|
.ite (bif (bif (bif (bif (rv1.2 != 0) then true else (rv2.2 != 0)) then true else (rv3.2 != 0)) then true else (!rv4.2)) then true else (rv5 != 10)) (
.ret [] false) (
.call (@F_rights_Ask_ok rv3.1 1 ([49]) 12 10) fun rv6 cv6 =>
.reg 7 [] [(1, hc cv6 [] true)] [.cl 0 cv6 [] 2 true] <|
.call (@F_rights_Tell_ok rv6.1 1 ([49]) 12) fun rv7 cv7 =>
.reg 8 [] [(1, hc cv7 [] true)] [.cl 0 cv7 [] 2 true] <|
.call (@F_rights_Learn_ok (⟨[49], 12, 0, 0, 0⟩ : TApiRight) rv7.1) fun rv8 cv8 =>
.reg 9 [] [(2, hc cv8 [] true)] [.cl 0 cv8 [] 3 true] <|
.call (@F_rights_Wanted_ok rv8.1 20) fun rv9 cv9 =>
.reg 10 [] [(1, hc cv9 [] true)] [.cl 0 cv9 [] 4 true] <|
.call (@F_rights_Return_ok rv8.1 20 rv9) fun rv10 cv10 =>
.reg 11 [] [(2, hc cv10 [] true)] [.cl 0 cv10 [] 4 true] <|
.call (@F_rights_Hear_ok rv6.1 (⟨1, 0, [49], 12, 0, 0, rv10.1.Returned, 20⟩ : TApiMessage)) fun rv11 cv11 =>
.reg 12 [] [(4, hc cv11 [] true)] [.cl 0 cv11 [] 4 true] <|
.call (@F_rights_Pot_ok rv11.1 ([49]) 12) fun rv12 cv12 =>
.reg 13 [] [(1, hc cv12 [] true)] [.cl 0 cv12 [] 4 true] <|
.calld [(bif (bif (bif (bif (bif (rv6.2 == 0) then (rv7.2 == 0) else false) then (rv8.2 == 0) else false) then (rv10.2 == 0) else false) then (rv11.2 == 0) else false) then (rv9 == 10) else false) = true] default (@F_rights_Shortfall_ok rv12.1) fun rv13 cv13 =>
.calld [(bif (bif (bif (bif (bif (bif (rv6.2 == 0) then (rv7.2 == 0) else false) then (rv8.2 == 0) else false) then (rv10.2 == 0) else false) then (rv11.2 == 0) else false) then (rv9 == 10) else false) then (rv13 == 0) else false) = true] default (@F_rights_Out_ok rv12.1) fun rv14 cv14 =>
.reg 14 [] [(24, hc cv13 [] true), (29, hc cv14 [] true)] [.clg 2 [(bif (bif (bif (bif (bif (rv6.2 == 0) then (rv7.2 == 0) else false) then (rv8.2 == 0) else false) then (rv10.2 == 0) else false) then (rv11.2 == 0) else false) then (rv9 == 10) else false) = true] cv13 [] 4 true, .clg 0 [(bif (bif (bif (bif (bif (bif (rv6.2 == 0) then (rv7.2 == 0) else false) then (rv8.2 == 0) else false) then (rv10.2 == 0) else false) then (rv11.2 == 0) else false) then (rv9 == 10) else false) then (rv13 == 0) else false) = true] cv14 [] 4 true] <|
.ret [] (bif (bif (bif (bif (bif (bif (bif (rv6.2 == 0) then (rv7.2 == 0) else false) then (rv8.2 == 0) else false) then (rv10.2 == 0) else false) then (rv11.2 == 0) else false) then (rv9 == 10) else false) then (rv13 == 0) else false) then (rv14 == 90) else false))
def F_w13_awake : Option R_w13_awake := (S_w13_awake).den
set_option maxRecDepth 100000 in
theorem F_w13_awake_ok (r : R_w13_awake) (h : F_w13_awake = some r) : CallOk Tryz.prog 8 [] [] (V_w13_awake r) (L_w13_awake r) := fOk (s := S_w13_awake) Tryz.func8 rfl (by kernel_rfl) h
/-! 4 -/
abbrev R_w13_RightsGrant := Bool
def V_w13_RightsGrant (x : R_w13_RightsGrant) : AV := (vb x)
def L_w13_RightsGrant (_ : R_w13_RightsGrant) : List Ob := []
def S_w13_RightsGrant_b1 (rv1 : R_mk_Treasury) (iv2 : Nat) (sv3 : TTape) : Scr Tryz.prog R_w13_RightsGrant (Step (TTape) R_w13_RightsGrant) :=
.reg 5 [] [(2, { obs := [(2, (bx (TApiPot.e (⟨[], 0, 0, [], [], [], []⟩ : TApiPot))))] })] [.pf (nn iv2), .ev 0, .pf cz2] <|
.call (@F_mk_Tape_Range_ok 1 rv1.1.Offices sv3) fun rv4 cv4 =>
.reg 6 [] [(3, hc cv4 [0] false)] [.cl 0 cv4 [0] 3 false] <|
.call (@F_rights_Free_ok (rv1.1.Pots.getD iv2 default)) fun rv5 cv5 =>
.reg 7 [] [(1, hc cv5 [] true)] [.cl 0 cv5 [] 3 true] <|
.call (@F_rights_Grant_ok rv1.1 rv4.1 ((rv1.1.Pots.getD iv2 default).Code) ((rv1.1.Pots.getD iv2 default).Year) (IntKind.i64.wrap ((if 0 > rv5 then 0 else rv5) + 1))) fun rv6 cv6 =>
.reg 8 [] [(9, hc cv6 [] true), (13, { obs := [(3, (bx (TApiTreasury.e (⟨0, []⟩ : TApiTreasury))))] })] [.cl 0 cv6 [] 3 true, .pf cz4] <|
.ite (rv6.2 != 15) (
.ret [] (.ret false)) (
.ite (decide (rv5 < 1)) (
.ret [] (.cont rv4.2)) (
.call (@F_rights_Grant_ok rv1.1 rv4.1 ((rv1.1.Pots.getD iv2 default).Code) ((rv1.1.Pots.getD iv2 default).Year) rv5) fun rv7 cv7 =>
.reg 12 [] [(7, hc cv7 [] true), (11, { obs := [(4, (bx (TApiTreasury.e (⟨0, []⟩ : TApiTreasury))))] })] [.cl 0 cv7 [] 4 true, .pf cz4] <|
.call (@F_rights_Pot_ok rv7.1 ((rv1.1.Pots.getD iv2 default).Code) ((rv1.1.Pots.getD iv2 default).Year)) fun rv8 cv8 =>
.reg 13 [] [(5, hc cv8 [] true), (9, { obs := [(5, (bx (TApiPot.e (⟨[], 0, 0, [], [], [], []⟩ : TApiPot))))] })] [.cl 0 cv8 [] 5 true, .pf cz2] <|
.calld [(rv7.2 != 0) = false] default (@F_rights_Free_ok rv8.1) fun rv9 cv9 =>
.calld [(bif (rv7.2 != 0) then true else (rv9 != 0)) = false] default (@F_rights_Shortfall_ok rv8.1) fun rv10 cv10 =>
.calld [(bif (bif (rv7.2 != 0) then true else (rv9 != 0)) then true else (rv10 != 0)) = false] default (@F_r13_Valid_ok rv7.1) fun rv11 cv11 =>
.reg 14 [] [(4, hc cv9 [] true), (9, hc cv10 [] true), (14, hc cv11 [] true)] [.clg 4 [(rv7.2 != 0) = false] cv9 [] 6 true, .clg 2 [(bif (rv7.2 != 0) then true else (rv9 != 0)) = false] cv10 [] 6 true, .clg 0 [(bif (bif (rv7.2 != 0) then true else (rv9 != 0)) then true else (rv10 != 0)) = false] cv11 [] 6 true] <|
.ite (bif (bif (bif (rv7.2 != 0) then true else (rv9 != 0)) then true else (rv10 != 0)) then true else (!rv11)) (
.ret [] (.ret false)) (
.ite (decide (rv5 > 1)) (
.call (@F_mk_Tape_Range_ok 1 (IntKind.i64.wrap (rv5 - 1)) rv4.2) fun rv12 cv12 =>
.reg 17 [] [(3, hc cv12 [0] false)] [.cl 0 cv12 [0] 6 false] <|
.call (@F_rights_Grant_ok rv1.1 rv4.1 ((rv1.1.Pots.getD iv2 default).Code) ((rv1.1.Pots.getD iv2 default).Year) rv12.1) fun rv13 cv13 =>
.reg 18 [] [(7, hc cv13 [] true), (11, { obs := [(6, (bx (TApiTreasury.e (⟨0, []⟩ : TApiTreasury))))] })] [.cl 0 cv13 [] 6 true, .pf cz4] <|
.call (@F_rights_Grant_ok rv13.1 rv4.1 ((rv1.1.Pots.getD iv2 default).Code) ((rv1.1.Pots.getD iv2 default).Year) (IntKind.i64.wrap (rv5 - rv12.1))) fun rv14 cv14 =>
.reg 19 [] [(9, hc cv14 [] true), (13, { obs := [(7, (bx (TApiTreasury.e (⟨0, []⟩ : TApiTreasury))))] })] [.cl 0 cv14 [] 7 true, .pf cz4] <|
.calld [(bif (rv13.2 != 0) then true else (rv14.2 != 0)) = false] default (@F_r13_Same_ok rv14.1 rv7.1) fun rv15 cv15 =>
.reg 20 [] [(9, hc cv15 [] true)] [.clg 0 [(bif (rv13.2 != 0) then true else (rv14.2 != 0)) = false] cv15 [] 8 true] <|
.ite (bif (bif (rv13.2 != 0) then true else (rv14.2 != 0)) then true else (!rv15)) (
.ret [] (.ret false)) (
.ret [] (.cont rv12.2))) (
.ret [] (.cont rv4.2)))))
def S_w13_RightsGrant (a0 : (List Int)) : Scr Tryz.prog R_w13_RightsGrant R_w13_RightsGrant :=
.call (@F_mk_New_ok a0) fun rv16 cv16 =>
.reg 1 [] [(1, hc cv16 [] false)] [.cl 0 cv16 [] 0 false] <|
.call (@F_mk_Tape_Range_ok 1 4 rv16) fun rv17 cv17 =>
.call (@F_mk_Treasury_ok rv17.1 rv17.2) fun rv1 cv1 =>
.reg 2 [] [(2, hc cv17 [0] false), (3, hc cv1 [0] false), (4, { obs := [(1, (bx (TApiTreasury.e (⟨0, []⟩ : TApiTreasury))))] })] [.cl 1 cv17 [0] 1 false, .cl 0 cv1 [0] 1 false, .pf cz4] <|
.range (rv1.1.Pots.length : Int) rv1.1.Pots.length rfl (.slot 27) 29 [3, 4, 27, 28] (fun (_ : TTape) => []) (fun (sv3 : TTape) => [(0, (bx (TTape.e sv3)))]) rv1.2 (S_w13_RightsGrant_b1 rv1) (fun (_ : TTape) => 
.call (@F_w13_awake_ok) fun rv18 cv18 =>
.reg 23 [] [(0, hc cv18 [] true)] [.cl 0 cv18 [] 2 true] <|
.ret [] rv18) id
def F_w13_RightsGrant (a0 : (List Int)) : Option R_w13_RightsGrant := (S_w13_RightsGrant a0).den
set_option maxRecDepth 100000 in
theorem F_w13_RightsGrant_ok {a0 : (List Int)} (r : R_w13_RightsGrant) (h : F_w13_RightsGrant a0 = some r) : CallOk Tryz.prog 4 [(vl a0)] [] (V_w13_RightsGrant r) (L_w13_RightsGrant r) := fOk (s := S_w13_RightsGrant a0) Tryz.func4 rfl (by kernel_rfl) h
/-! 50 -/
abbrev R_mk_Tape_Order := (List Int) × TTape
def V_mk_Tape_Order (x : R_mk_Tape_Order) : AV := (vl x.1)
def L_mk_Tape_Order (x : R_mk_Tape_Order) : List Ob := [(bx (TTape.e x.2))]
def S_mk_Tape_Order_b1 (a1 : Int) (sv1 : (List Int) × Int) : Scr Tryz.prog R_mk_Tape_Order (Step ((List Int) × Int) R_mk_Tape_Order) :=
.ite (decide (sv1.2 < a1)) (
.guard [(sv1.1.length + 1) * (2 * 8) ≤ 2 ^ 48] <|
.reg 5 [] [(2, hv (vl ([sv1.2] : List Int))), (3, { h := .obj, cast := some (AV.ref 1 ((sv1.1 ++ ([sv1.2] : List Int)).length) 0 ((sv1.1 ++ ([sv1.2] : List Int)).length)), obs := [(1, (eS 1 (DV.i .i64) (sv1.1 ++ ([sv1.2] : List Int))))] })] [.pf (leV_lit (DV.i .i64) ([sv1.2] : List Int)), .pf (Eq.refl sv1.1.length), .pf (Eq.refl sv1.1.length), .pf (p := ∀ k, k < 1 → (AV.d ((DV.i .i64) (([sv1.2] : List Int).getD k default))).wd = 1) (fun _ _ => rfl), .ev 0, .pf (leV_app (o := 1) (l := sv1.1) (x := ([sv1.2] : List Int))), .pf (oLe_app (sz := 1) (e := (DV.i .i64)) (l := sv1.1) (x := ([sv1.2] : List Int)))] <|
.ret [] (.cont ((sv1.1 ++ ([sv1.2] : List Int)), (IntKind.i64.wrap (sv1.2 + 1))))) (
.ret [] (.brk (sv1.1, sv1.2)))
def S_mk_Tape_Order_b2 (sv2 : TTape × (List Int) × Int) : Scr Tryz.prog R_mk_Tape_Order (Step (TTape × (List Int) × Int) R_mk_Tape_Order) :=
.ite (decide (sv2.2.2 > 0)) (
.call (@F_mk_Tape_N_ok (IntKind.i64.wrap (sv2.2.2 + 1)) sv2.1) fun rv3 cv3 =>
.reg 9 [] [(3, hc cv3 [0] false)] [.cl 0 cv3 [0] 2 false] <|
.guard [(0 : Int) ≤ rv3.1, (rv3.1).toNat < sv2.2.1.length, (0 + (rv3.1).toNat) < sv2.2.1.length, (0 : Int) ≤ sv2.2.2, (sv2.2.2).toNat < sv2.2.1.length, (0 + (sv2.2.2).toNat) < sv2.2.1.length, (0 + (rv3.1).toNat) < (sv2.2.1.set (0 + (sv2.2.2).toNat) (sv2.2.1.getD (0 + (rv3.1).toNat) default)).length] <|
.reg 10 [13, 15] [(13, { obs := [(1, (eS 1 (DV.i .i64) (sv2.2.1.set (0 + (sv2.2.2).toNat) (sv2.2.1.getD (0 + (rv3.1).toNat) default))))] }), (15, { obs := [(1, (eS 1 (DV.i .i64) ((sv2.2.1.set (0 + (sv2.2.2).toNat) (sv2.2.1.getD (0 + (rv3.1).toNat) default)).set (0 + (rv3.1).toNat) (sv2.2.1.getD (0 + (sv2.2.2).toNat) default))))] })] [.pf (Eq.refl sv2.2.1.length), .ev 0, .ev 1, .pf (Eq.refl sv2.2.1.length), .ev 2, .pf (Eq.refl sv2.2.1.length), .ev 3, .ev 4, .pf (Eq.refl sv2.2.1.length), .ev 5, .pf (Eq.refl sv2.2.1.length), .ev 3, .ev 4, .pf (Eq.refl sv2.2.1.length), .ev 5, .pf (oLe_set (sz := 1) (e := (DV.i .i64)) (l := sv2.2.1) (i := (0 + (sv2.2.2).toNat)) (x := (sv2.2.1.getD (0 + (rv3.1).toNat) default)) (fun _ => rfl)), .pf (p := (sv2.2.1.set (0 + (sv2.2.2).toNat) (sv2.2.1.getD (0 + (rv3.1).toNat) default)).length = sv2.2.1.length) (by simp only [List.length_set]), .ev 0, .ev 1, .pf (p := (sv2.2.1.set (0 + (sv2.2.2).toNat) (sv2.2.1.getD (0 + (rv3.1).toNat) default)).length = sv2.2.1.length) (by simp only [List.length_set]), .ev 6, .pf (oLe_set (sz := 1) (e := (DV.i .i64)) (l := (sv2.2.1.set (0 + (sv2.2.2).toNat) (sv2.2.1.getD (0 + (rv3.1).toNat) default))) (i := (0 + (rv3.1).toNat)) (x := (sv2.2.1.getD (0 + (sv2.2.2).toNat) default)) (fun _ => rfl))] <|
.cst (A := True) (.pf trivial) [(0, (vp 0)), (5, (AV.ref 1 sv2.2.1.length 0 sv2.2.1.length)), (7, (vi sv2.2.2))] [(0, (vp 0)), (5, (AV.ref 1 (((sv2.2.1.set (0 + (sv2.2.2).toNat) (sv2.2.1.getD (0 + (rv3.1).toNat) default)).set (0 + (rv3.1).toNat) (sv2.2.1.getD (0 + (sv2.2.2).toNat) default)).length) 0 (((sv2.2.1.set (0 + (sv2.2.2).toNat) (sv2.2.1.getD (0 + (rv3.1).toNat) default)).set (0 + (rv3.1).toNat) (sv2.2.1.getD (0 + (sv2.2.2).toNat) default)).length))), (7, (vi sv2.2.2))] [(bx (TTape.e rv3.2)), (eS 1 (DV.i .i64) ((sv2.2.1.set (0 + (sv2.2.2).toNat) (sv2.2.1.getD (0 + (rv3.1).toNat) default)).set (0 + (rv3.1).toNat) (sv2.2.1.getD (0 + (sv2.2.2).toNat) default)))] [(bx (TTape.e rv3.2)), (eS 1 (DV.i .i64) ((sv2.2.1.set (0 + (sv2.2.2).toNat) (sv2.2.1.getD (0 + (rv3.1).toNat) default)).set (0 + (rv3.1).toNat) (sv2.2.1.getD (0 + (sv2.2.2).toNat) default)))] (fun _ => ⟨by simp only [List.length_set], by rfl⟩) <|
.ret [] (.cont (rv3.2, ((sv2.2.1.set (0 + (sv2.2.2).toNat) (sv2.2.1.getD (0 + (rv3.1).toNat) default)).set (0 + (rv3.1).toNat) (sv2.2.1.getD (0 + (sv2.2.2).toNat) default)), (IntKind.i64.wrap (sv2.2.2 - 1))))) (
.ret [] (.brk (sv2.1, sv2.2.1, sv2.2.2)))
def S_mk_Tape_Order (a1 : Int) (p0 : TTape) : Scr Tryz.prog R_mk_Tape_Order R_mk_Tape_Order :=
.reg 2 [] [] [] <|
.bor 1 (fun j => AV.d ((DV.i .i64) (([] : List Int).getD j default))) [5] <|
.iter [0, 1] (fun (sv1 : (List Int) × Int) => [(5, (AV.ref 1 sv1.1.length 0 sv1.1.length)), (6, (vi sv1.2))]) (fun (sv1 : (List Int) × Int) => [(1, (eS 1 (DV.i .i64) sv1.1))]) (([] : List Int), 0) (S_mk_Tape_Order_b1 a1) (fun (sv1 : (List Int) × Int) =>
.iter [0] (fun (sv2 : TTape × (List Int) × Int) => [(5, (AV.ref 1 sv2.2.1.length 0 sv2.2.1.length)), (7, (vi sv2.2.2))]) (fun (sv2 : TTape × (List Int) × Int) => [(0, (bx (TTape.e sv2.1))), (1, (eS 1 (DV.i .i64) sv2.2.1))]) (p0, sv1.1, (IntKind.i64.wrap (a1 - 1))) S_mk_Tape_Order_b2 (fun (sv2 : TTape × (List Int) × Int) =>
.guard [sv2.2.1.length < 2 ^ 63] <|
.reg 11 [] [] [] <|
.frz 1 (.ev 0) none [4] [] <|
.ret [] (sv2.2.1, sv2.1)) id) id
def F_mk_Tape_Order (a1 : Int) (p0 : TTape) : Option R_mk_Tape_Order := (S_mk_Tape_Order a1 p0).den
set_option maxRecDepth 100000 in
theorem F_mk_Tape_Order_ok {a1 : Int} {p0 : TTape} (r : R_mk_Tape_Order) (h : F_mk_Tape_Order a1 p0 = some r) : CallOk Tryz.prog 50 [(vp 0), (vi a1)] [(bx (TTape.e p0))] (V_mk_Tape_Order r) (L_mk_Tape_Order r) := fOk (s := S_mk_Tape_Order a1 p0) Tryz.func50 rfl (by kernel_rfl) h
/-! 5 -/
abbrev R_w13_RightsCounters := Bool
def V_w13_RightsCounters (x : R_w13_RightsCounters) : AV := (vb x)
def L_w13_RightsCounters (_ : R_w13_RightsCounters) : List Ob := []
def S_w13_RightsCounters_b1 (sv1 : TTape × TApiTreasury × (List TApiMessage) × Int) : Scr Tryz.prog R_w13_RightsCounters (Step (TTape × TApiTreasury × (List TApiMessage) × Int) R_w13_RightsCounters) :=
.ite (decide (sv1.2.2.2 > 0)) (
.sh (H := NoH) (A := True) (.pf trivial) [(3, (vp 0)), (4, (vp 1)), (6, (vp 2)), (7, (vp 3)), (8, (AV.ref 4 sv1.2.2.1.length 0 sv1.2.2.1.length)), (9, (vi sv1.2.2.2)), (48, (vb (decide (sv1.2.2.2 > 0))))] [(3, (vp 0)), (4, (vp 1)), (6, (vp 2)), (7, (vp 3)), (8, (AV.ref 4 sv1.2.2.1.length 0 sv1.2.2.1.length)), (9, (vi sv1.2.2.2)), (48, (vb (decide (sv1.2.2.2 > 0))))] [(bx (TTape.e sv1.1)), (bx (TApiTreasury.e sv1.2.1)), (bx (DV.agg [(DV.str ([49])), (DV.i .i64 12), (DV.i .i64 0), (DV.i .i64 0), (DV.i .i64 0)])), (bx (DV.agg [(DV.str ([49])), (DV.i .i64 12), (DV.i .i64 0), (DV.i .i64 0), (DV.i .i64 0)])), (eS 8 TApiMessage.e sv1.2.2.1)] [(bx (TTape.e sv1.1)), (bx (TApiTreasury.e sv1.2.1)), (bx (DV.agg [(DV.str ([49])), (DV.i .i64 12), (DV.i .i64 0), (DV.i .i64 0), (DV.i .i64 0)])), (bx (DV.agg [(DV.str ([49])), (DV.i .i64 12), (DV.i .i64 0), (DV.i .i64 0), (DV.i .i64 0)])), (eS 8 TApiMessage.e sv1.2.2.1), Ob.unb] (fun _ => shift_unb) (trF_refl _) <|
.call (@F_mk_Tape_Range_ok 1 200 sv1.1) fun rv2 cv2 =>
.call (@F_rights_Grant_ok sv1.2.1 1 ([49]) 12 rv2.1) fun rv3 cv3 =>
.reg 11 [2, 7, 8] [(2, hc cv2 [0] false), (3, hc cv3 [] true), (7, { h := .born 5 false, obs := [(5, (bx (TApiTreasury.e (⟨0, []⟩ : TApiTreasury))))] })] [.cl 1 cv2 [0] 6 false, .cl 1 cv2 [0] 6 false, .cl 0 cv3 [] 6 true, .cl 0 cv3 [] 6 true, .pf cz4, .pf cz4] <|
.call (@F_rights_Tell_ok rv3.1 1 ([49]) 12) fun rv4 cv4 =>
.reg 12 [] [(1, hc cv4 [] true)] [.cl 0 cv4 [] 6 true] <|
.ite (bif (rv3.2 != 0) then true else (rv4.2 != 0)) (
.ret [] (.ret false)) (
.guard [(sv1.2.2.1.length + 1) * (2 * 72) ≤ 2 ^ 48] <|
.reg 15 [4, 5] [(3, hv (AV.d (eL TApiMessage.e ([rv4.1] : List TApiMessage)))), (4, { h := .obj, cast := some (AV.ref 4 ((sv1.2.2.1 ++ ([rv4.1] : List TApiMessage)).length) 0 ((sv1.2.2.1 ++ ([rv4.1] : List TApiMessage)).length)), obs := [(4, (eS 8 TApiMessage.e (sv1.2.2.1 ++ ([rv4.1] : List TApiMessage))))] })] [.pf (leV_lit TApiMessage.e ([rv4.1] : List TApiMessage)), .pf (Eq.refl sv1.2.2.1.length), .pf (Eq.refl sv1.2.2.1.length), .pf (p := ∀ k, k < 1 → (AV.d (TApiMessage.e (([rv4.1] : List TApiMessage).getD k default))).wd = 8) (fun _ _ => rfl), .ev 0, .pf (leV_app (o := 4) (l := sv1.2.2.1) (x := ([rv4.1] : List TApiMessage))), .pf (oLe_app (sz := 8) (e := TApiMessage.e) (l := sv1.2.2.1) (x := ([rv4.1] : List TApiMessage)))] <|
.ret [] (.cont (rv2.2, rv3.1, (sv1.2.2.1 ++ ([rv4.1] : List TApiMessage)), (IntKind.i64.wrap (sv1.2.2.2 - 1)))))) (
.ret [] (.brk (sv1.1, sv1.2.1, sv1.2.2.1, sv1.2.2.2)))
def S_w13_RightsCounters_b2 (sv1 : TTape × TApiTreasury × (List TApiMessage) × Int) (iv5 : Nat) (sv6 : TApiRight) : Scr Tryz.prog R_w13_RightsCounters (Step (TApiRight) R_w13_RightsCounters) :=
.guard [(0 + iv5) < sv1.2.2.1.length] <|
.reg 18 [] [] [.pf (Eq.refl sv1.2.2.1.length), .pf (nn iv5), .ev 1, .pf (Eq.refl sv1.2.2.1.length), .ev 0] <|
.call (@F_rights_Learn_ok sv6 (sv1.2.2.1.getD (0 + iv5) default)) fun rv7 cv7 =>
.reg 19 [] [(2, hc cv7 [] true)] [.cl 0 cv7 [] 6 true] <|
.ite (rv7.2 != 0) (
.ret [] (.ret false)) (
.ret [] (.cont rv7.1))
def S_w13_RightsCounters_b3 (sv1 : TTape × TApiTreasury × (List TApiMessage) × Int) (rv8 : R_mk_Tape_Order) (iv9 : Nat) (sv10 : TApiRight) : Scr Tryz.prog R_w13_RightsCounters (Step (TApiRight) R_w13_RightsCounters) :=
.reg 29 [] [] [.pf (nn iv9), .ev 0] <|
.call (@F_rights_Learn_ok sv10 (sv1.2.2.1.getD (0 + ((rv8.1.getD iv9 default)).toNat) default)) fun rv11 cv11 =>
.guard [(0 : Int) ≤ (rv8.1.getD iv9 default), ((rv8.1.getD iv9 default)).toNat < sv1.2.2.1.length, (0 + ((rv8.1.getD iv9 default)).toNat) < sv1.2.2.1.length] <|
.reg 30 [9] [(5, hc cv11 [] true)] [.pf (Eq.refl sv1.2.2.1.length), .ev 0, .ev 1, .pf (Eq.refl sv1.2.2.1.length), .ev 2, .cl 3 cv11 [] 5 true] <|
.ret [] (.cont rv11.1)
def S_w13_RightsCounters_b4 (sv1 : TTape × TApiTreasury × (List TApiMessage) × Int) (sv12 : TTape × TApiRight × Int) : Scr Tryz.prog R_w13_RightsCounters (Step (TTape × TApiRight × Int) R_w13_RightsCounters) :=
.ite (decide (sv12.2.2 < 2)) (
.call (@F_mk_Tape_Order_ok (sv1.2.2.1.length : Int) sv12.1) fun rv8 cv8 =>
.reg 27 [] [(3, hc cv8 [0] false)] [.cl 0 cv8 [0] 5 false] <|
.range (rv8.1.length : Int) rv8.1.length rfl (.slot 97) 99 [3, 4, 6, 7, 8, 18, 97, 98] (fun (_ : TApiRight) => []) (fun (sv10 : TApiRight) => [(3, (bx (TApiRight.e sv10)))]) sv12.2.1 (S_w13_RightsCounters_b3 sv1 rv8) (fun (sv10 : TApiRight) => 
.ret [] (.cont (rv8.2, sv10, (IntKind.i64.wrap (sv12.2.2 + 1))))) .ret) (
.ret [] (.brk (sv12.1, sv12.2.1, sv12.2.2)))
def S_w13_RightsCounters_b5 (sv1 : TTape × TApiTreasury × (List TApiMessage) × Int) (sv12 : TTape × TApiRight × Int) (sv13 : TTape × TApiRight × (List TApiMessage) × Int) : Scr Tryz.prog R_w13_RightsCounters (Step (TTape × TApiRight × (List TApiMessage) × Int) R_w13_RightsCounters) :=
.ite (decide (sv13.2.2.2 > 0)) (
.sh (H := NoH) (A := True) (.pf trivial) [(3, (vp 0)), (6, (vp 2)), (21, (vp 6)), (22, (vp 5)), (23, (AV.ref 7 sv13.2.2.1.length 0 sv13.2.2.1.length)), (24, (vi sv13.2.2.2)), (121, (vb (decide (sv13.2.2.2 > 0))))] [(3, (vp 0)), (6, (vp 2)), (21, (vp 6)), (22, (vp 5)), (23, (AV.ref 7 sv13.2.2.1.length 0 sv13.2.2.1.length)), (24, (vi sv13.2.2.2)), (121, (vb (decide (sv13.2.2.2 > 0))))] [(bx (TTape.e sv13.1)), (bx (TApiTreasury.e sv1.2.1)), (bx (TApiRight.e sv13.2.1)), (bx (TApiRight.e sv12.2.1)), (eS 8 TApiMessage.e sv1.2.2.1), (bx (TApiTreasury.e sv1.2.1)), (bx (TApiTreasury.e sv1.2.1)), (eS 8 TApiMessage.e sv13.2.2.1)] [(bx (TTape.e sv13.1)), (bx (TApiTreasury.e sv1.2.1)), (bx (TApiRight.e sv13.2.1)), (bx (TApiRight.e sv12.2.1)), (eS 8 TApiMessage.e sv1.2.2.1), (bx (TApiTreasury.e sv1.2.1)), (bx (TApiTreasury.e sv1.2.1)), (eS 8 TApiMessage.e sv13.2.2.1), Ob.unb] (fun _ => shift_unb) (trF_refl _) <|
.call (@F_mk_Tape_Range_ok 1 60 sv13.1) fun rv14 cv14 =>
.call (@F_rights_Return_ok sv13.2.1 0 rv14.1) fun rv15 cv15 =>
.reg 39 [2, 7, 8] [(2, hc cv14 [0] false), (3, hc cv15 [] true), (7, { h := .born 8 false })] [.cl 1 cv14 [0] 9 false, .cl 1 cv14 [0] 9 false, .cl 0 cv15 [] 9 true, .cl 0 cv15 [] 9 true] <|
.ite (rv15.2 != 0) (
.ret [] (.brk (rv14.2, sv13.2.1, sv13.2.2.1, sv13.2.2.2))) (
.guard [(sv13.2.2.1.length + 1) * (2 * 72) ≤ 2 ^ 48] <|
.reg 42 [] [(4, hv (AV.d (eL TApiMessage.e ([(⟨1, 0, [49], 12, 0, 0, rv15.1.Returned, 0⟩ : TApiMessage)] : List TApiMessage)))), (5, { h := .obj, cast := some (AV.ref 7 ((sv13.2.2.1 ++ ([(⟨1, 0, [49], 12, 0, 0, rv15.1.Returned, 0⟩ : TApiMessage)] : List TApiMessage)).length) 0 ((sv13.2.2.1 ++ ([(⟨1, 0, [49], 12, 0, 0, rv15.1.Returned, 0⟩ : TApiMessage)] : List TApiMessage)).length)), obs := [(7, (eS 8 TApiMessage.e (sv13.2.2.1 ++ ([(⟨1, 0, [49], 12, 0, 0, rv15.1.Returned, 0⟩ : TApiMessage)] : List TApiMessage))))] })] [.pf (leV_lit TApiMessage.e ([(⟨1, 0, [49], 12, 0, 0, rv15.1.Returned, 0⟩ : TApiMessage)] : List TApiMessage)), .pf (Eq.refl sv13.2.2.1.length), .pf (Eq.refl sv13.2.2.1.length), .pf (p := ∀ k, k < 1 → (AV.d (TApiMessage.e (([(⟨1, 0, [49], 12, 0, 0, rv15.1.Returned, 0⟩ : TApiMessage)] : List TApiMessage).getD k default))).wd = 8) (fun _ _ => rfl), .ev 0, .pf (leV_app (o := 7) (l := sv13.2.2.1) (x := ([(⟨1, 0, [49], 12, 0, 0, rv15.1.Returned, 0⟩ : TApiMessage)] : List TApiMessage))), .pf (oLe_app (sz := 8) (e := TApiMessage.e) (l := sv13.2.2.1) (x := ([(⟨1, 0, [49], 12, 0, 0, rv15.1.Returned, 0⟩ : TApiMessage)] : List TApiMessage)))] <|
.ret [] (.cont (rv14.2, rv15.1, (sv13.2.2.1 ++ ([(⟨1, 0, [49], 12, 0, 0, rv15.1.Returned, 0⟩ : TApiMessage)] : List TApiMessage)), (IntKind.i64.wrap (sv13.2.2.2 - 1)))))) (
.ret [] (.brk (sv13.1, sv13.2.1, sv13.2.2.1, sv13.2.2.2)))
def S_w13_RightsCounters_b6 (sv13 : TTape × TApiRight × (List TApiMessage) × Int) (iv16 : Nat) (sv17 : TApiTreasury) : Scr Tryz.prog R_w13_RightsCounters (Step (TApiTreasury) R_w13_RightsCounters) :=
.guard [(0 + iv16) < sv13.2.2.1.length] <|
.reg 45 [] [] [.pf (Eq.refl sv13.2.2.1.length), .pf (nn iv16), .ev 1, .pf (Eq.refl sv13.2.2.1.length), .ev 0] <|
.call (@F_rights_Hear_ok sv17 (sv13.2.2.1.getD (0 + iv16) default)) fun rv18 cv18 =>
.reg 46 [] [(2, hc cv18 [] true)] [.cl 0 cv18 [] 9 true] <|
.ret [] (.cont rv18.1)
def S_w13_RightsCounters_b7 (sv13 : TTape × TApiRight × (List TApiMessage) × Int) (rv19 : R_mk_Tape_Order) (iv20 : Nat) (sv21 : TApiTreasury) : Scr Tryz.prog R_w13_RightsCounters (Step (TApiTreasury) R_w13_RightsCounters) :=
.reg 53 [] [] [.pf (nn iv20), .ev 0] <|
.call (@F_rights_Hear_ok sv21 (sv13.2.2.1.getD (0 + ((rv19.1.getD iv20 default)).toNat) default)) fun rv22 cv22 =>
.guard [(0 : Int) ≤ (rv19.1.getD iv20 default), ((rv19.1.getD iv20 default)).toNat < sv13.2.2.1.length, (0 + ((rv19.1.getD iv20 default)).toNat) < sv13.2.2.1.length] <|
.reg 54 [9] [(5, hc cv22 [] true)] [.pf (Eq.refl sv13.2.2.1.length), .ev 0, .ev 1, .pf (Eq.refl sv13.2.2.1.length), .ev 2, .cl 3 cv22 [] 8 true] <|
.ret [] (.cont rv22.1)
def S_w13_RightsCounters_b8 (sv13 : TTape × TApiRight × (List TApiMessage) × Int) (sv23 : TTape × TApiTreasury × Int) : Scr Tryz.prog R_w13_RightsCounters (Step (TTape × TApiTreasury × Int) R_w13_RightsCounters) :=
.ite (decide (sv23.2.2 < 2)) (
.call (@F_mk_Tape_Order_ok (sv13.2.2.1.length : Int) sv23.1) fun rv19 cv19 =>
.reg 51 [] [(3, hc cv19 [0] false)] [.cl 0 cv19 [0] 8 false] <|
.range (rv19.1.length : Int) rv19.1.length rfl (.slot 160) 162 [3, 6, 21, 22, 23, 29, 160, 161] (fun (_ : TApiTreasury) => []) (fun (sv21 : TApiTreasury) => [(5, (bx (TApiTreasury.e sv21)))]) sv23.2.1 (S_w13_RightsCounters_b7 sv13 rv19) (fun (sv21 : TApiTreasury) => 
.ret [] (.cont (rv19.2, sv21, (IntKind.i64.wrap (sv23.2.2 + 1))))) .ret) (
.ret [] (.brk (sv23.1, sv23.2.1, sv23.2.2)))
def S_w13_RightsCounters (a0 : (List Int)) : Scr Tryz.prog R_w13_RightsCounters R_w13_RightsCounters :=
.call (@F_mk_New_ok a0) fun rv24 cv24 =>
.reg 1 [] [(1, hc cv24 [] false)] [.cl 0 cv24 [] 0 false] <|
.call (@F_rights_Set_ok (⟨2, []⟩ : TApiTreasury) ([49]) 12 5000) fun rv25 cv25 =>
.reg 2 [] [(0, hv (AV.d (TApiTreasury.e (⟨2, []⟩ : TApiTreasury)))), (1, hc cv25 [] true), (5, { obs := [(1, (bx (TApiTreasury.e (⟨0, []⟩ : TApiTreasury))))] })] [.pf cz8, .cl 0 cv25 [] 1 true, .pf cz4] <|
.ite (rv25.2 != 0) (
.ret [] false) (
.call (@F_mk_Tape_Range_ok 1 5 rv24) fun rv26 cv26 =>
.reg 8 [] [(1, hc cv26 [0] false)] [.cl 0 cv26 [0] 4 false] <|
.bor 8 (fun j => AV.d (TApiMessage.e (([] : List TApiMessage).getD j default))) [8] <|
.iter [3, 4, 6, 7] (fun (sv1 : TTape × TApiTreasury × (List TApiMessage) × Int) => [(8, (AV.ref 4 sv1.2.2.1.length 0 sv1.2.2.1.length)), (9, (vi sv1.2.2.2))]) (fun (sv1 : TTape × TApiTreasury × (List TApiMessage) × Int) => [(0, (bx (TTape.e sv1.1))), (1, (bx (TApiTreasury.e sv1.2.1))), (4, (eS 8 TApiMessage.e sv1.2.2.1))]) (rv26.2, rv25.1, ([] : List TApiMessage), rv26.1) S_w13_RightsCounters_b1 (fun (sv1 : TTape × TApiTreasury × (List TApiMessage) × Int) =>
.guard [sv1.2.2.1.length < 2 ^ 63] <|
.range (sv1.2.2.1.length : Int) sv1.2.2.1.length rfl (.why (.ev 0)) 76 [3, 4, 6, 7, 8, 74, 75] (fun (_ : TApiRight) => []) (fun (sv6 : TApiRight) => [(2, (bx (TApiRight.e sv6)))]) (⟨[49], 12, 0, 0, 0⟩ : TApiRight) (S_w13_RightsCounters_b2 sv1) (fun (sv6 : TApiRight) => 
.iter [3, 4, 6, 7, 8] (fun (sv12 : TTape × TApiRight × Int) => [(18, (vi sv12.2.2))]) (fun (sv12 : TTape × TApiRight × Int) => [(0, (bx (TTape.e sv12.1))), (3, (bx (TApiRight.e sv12.2.1)))]) (sv1.1, (⟨[49], 12, 0, 0, 0⟩ : TApiRight), 0) (S_w13_RightsCounters_b4 sv1) (fun (sv12 : TTape × TApiRight × Int) =>
.ite (!((sv6.Code == sv12.2.1.Code) && ((sv6.Year == sv12.2.1.Year) && ((sv6.Granted == sv12.2.1.Granted) && ((sv6.Asked == sv12.2.1.Asked) && ((sv6.Returned == sv12.2.1.Returned) && true)))))) (
.ret [] false) (
.sh (H := NoH) (A := True) (.pf trivial) [(3, (vp 0)), (4, (vp 1)), (6, (vp 2)), (115, (vb (!((sv6.Code == sv12.2.1.Code) && ((sv6.Year == sv12.2.1.Year) && ((sv6.Granted == sv12.2.1.Granted) && ((sv6.Asked == sv12.2.1.Asked) && ((sv6.Returned == sv12.2.1.Returned) && true))))))))] [(3, (vp 0)), (4, (vp 1)), (6, (vp 2)), (115, (vb (!((sv6.Code == sv12.2.1.Code) && ((sv6.Year == sv12.2.1.Year) && ((sv6.Granted == sv12.2.1.Granted) && ((sv6.Asked == sv12.2.1.Asked) && ((sv6.Returned == sv12.2.1.Returned) && true))))))))] [(bx (TTape.e sv12.1)), (bx (TApiTreasury.e sv1.2.1)), (bx (TApiRight.e sv6)), (bx (TApiRight.e sv12.2.1)), (eS 8 TApiMessage.e sv1.2.2.1)] [(bx (TTape.e sv12.1)), (bx (TApiTreasury.e sv1.2.1)), (bx (TApiRight.e sv6)), (bx (TApiRight.e sv12.2.1)), (eS 8 TApiMessage.e sv1.2.2.1), Ob.unb] (fun _ => shift_unb) (trF_refl _) <|
.reg 34 [2, 3, 4, 5] [(2, { obs := [(6, (bx (TApiTreasury.e (⟨0, []⟩ : TApiTreasury))))] }), (3, { h := .born 5 false, obs := [(5, (bx (TApiTreasury.e (⟨0, []⟩ : TApiTreasury))))] })] [.pf cz4, .pf cz4, .pf cz4, .pf cz4] <|
.call (@F_mk_Tape_N_ok 5 sv12.1) fun rv27 cv27 =>
.reg 36 [] [(1, hc cv27 [0] false)] [.cl 0 cv27 [0] 7 false] <|
.bor 8 (fun j => AV.d (TApiMessage.e (([] : List TApiMessage).getD j default))) [23] <|
.iter [3, 6, 21, 22] (fun (sv13 : TTape × TApiRight × (List TApiMessage) × Int) => [(23, (AV.ref 7 sv13.2.2.1.length 0 sv13.2.2.1.length)), (24, (vi sv13.2.2.2))]) (fun (sv13 : TTape × TApiRight × (List TApiMessage) × Int) => [(0, (bx (TTape.e sv13.1))), (2, (bx (TApiRight.e sv13.2.1))), (7, (eS 8 TApiMessage.e sv13.2.2.1))]) (rv27.2, sv6, ([] : List TApiMessage), rv27.1) (S_w13_RightsCounters_b5 sv1 sv12) (fun (sv13 : TTape × TApiRight × (List TApiMessage) × Int) =>
.guard [sv13.2.2.1.length < 2 ^ 63] <|
.range (sv13.2.2.1.length : Int) sv13.2.2.1.length rfl (.why (.ev 0)) 142 [3, 6, 21, 22, 23, 140, 141] (fun (_ : TApiTreasury) => []) (fun (sv17 : TApiTreasury) => [(6, (bx (TApiTreasury.e sv17)))]) sv1.2.1 (S_w13_RightsCounters_b6 sv13) (fun (sv17 : TApiTreasury) => 
.iter [3, 6, 21, 22, 23] (fun (sv23 : TTape × TApiTreasury × Int) => [(29, (vi sv23.2.2))]) (fun (sv23 : TTape × TApiTreasury × Int) => [(0, (bx (TTape.e sv23.1))), (5, (bx (TApiTreasury.e sv23.2.1)))]) (sv13.1, sv1.2.1, 0) (S_w13_RightsCounters_b8 sv13) (fun (sv23 : TTape × TApiTreasury × Int) =>
.call (@F_rights_Pot_ok sv17 ([49]) 12) fun rv28 cv28 =>
.reg 56 [] [(1, hc cv28 [] true), (5, { obs := [(8, (bx (TApiPot.e (⟨[], 0, 0, [], [], [], []⟩ : TApiPot))))] })] [.cl 0 cv28 [] 8 true, .pf cz2] <|
.calld [rv28.2 = true] default (@F_r13_Same_ok sv17 sv23.2.1) fun rv29 cv29 =>
.calld [(bif rv28.2 then rv29 else false) = true] default (@F_rights_Out_ok rv28.1) fun rv30 cv30 =>
.calld [(bif (bif rv28.2 then rv29 else false) then (rv30 == (IntKind.i64.wrap (sv13.2.1.Granted - sv13.2.1.Returned))) else false) = true] default (@F_w13_awake_ok) fun rv31 cv31 =>
.reg 57 [] [(4, hc cv29 [] true), (8, hc cv30 [] true), (17, hc cv31 [] true)] [.clg 4 [rv28.2 = true] cv29 [] 9 true, .clg 2 [(bif rv28.2 then rv29 else false) = true] cv30 [] 9 true, .clg 0 [(bif (bif rv28.2 then rv29 else false) then (rv30 == (IntKind.i64.wrap (sv13.2.1.Granted - sv13.2.1.Returned))) else false) = true] cv31 [] 9 true] <|
.ret [] (bif (bif (bif rv28.2 then rv29 else false) then (rv30 == (IntKind.i64.wrap (sv13.2.1.Granted - sv13.2.1.Returned))) else false) then rv31 else false)) id) id) id)) id) id) id)
def F_w13_RightsCounters (a0 : (List Int)) : Option R_w13_RightsCounters := (S_w13_RightsCounters a0).den
set_option maxRecDepth 100000 in
theorem F_w13_RightsCounters_ok {a0 : (List Int)} (r : R_w13_RightsCounters) (h : F_w13_RightsCounters a0 = some r) : CallOk Tryz.prog 5 [(vl a0)] [] (V_w13_RightsCounters r) (L_w13_RightsCounters r) := fOk (s := S_w13_RightsCounters a0) Tryz.func5 rfl (by kernel_rfl) h
end
end Go.Proofs.YtkabfdfkegjfdaaGreatDoor
/- What the functions compute, and that their calls return it. No condition. -/
namespace Go.Proofs.YtkabfdfkegjfdaaGreatDoor
open Go Go.TA
noncomputable section
/-! 6 -/
abbrev R_w13_RightsKeep := Bool
def V_w13_RightsKeep (x : R_w13_RightsKeep) : AV := (vb x)
def L_w13_RightsKeep (_ : R_w13_RightsKeep) : List Ob := []
def S_w13_RightsKeep_b1 (rv1 : R_mk_Tape_Range) (rv2 : R_mk_Tape_N) (rv3 : R_rights_Set) (iv4 : Nat) (sv5 : (List TApiRight)) : Scr Tryz.prog R_w13_RightsKeep (Step ((List TApiRight)) R_w13_RightsKeep) :=
.guard [iv4 < sv5.length, (0 + iv4) < sv5.length] <|
.reg 10 [] [(4, { obs := [(2, (eS 5 TApiRight.e (sv5.set (0 + iv4) (⟨[50], 12, 0, 0, 0⟩ : TApiRight))))] })] [.pf (Eq.refl sv5.length), .pf (nn iv4), .ev 0, .pf (Eq.refl sv5.length), .ev 1, .pf (oLe_set (sz := 5) (e := TApiRight.e) (l := sv5) (i := (0 + iv4)) (x := (⟨[50], 12, 0, 0, 0⟩ : TApiRight)) (fun _ => rfl))] <|
.cst (A := True) (.pf trivial) [(3, (vp 0)), (4, (vi rv1.1)), (5, (vp 1)), (7, (AV.ref 2 sv5.length 0 sv5.length)), (41, (vi ((List.replicate rv1.1.toNat ((⟨[], 0, 0, 0, 0⟩ : TApiRight) : TApiRight)).length : Int))), (42, (vi (iv4 : Int)))] [(3, (vp 0)), (4, (vi rv1.1)), (5, (vp 1)), (7, (AV.ref 2 ((sv5.set (0 + iv4) (⟨[50], 12, 0, 0, 0⟩ : TApiRight)).length) 0 ((sv5.set (0 + iv4) (⟨[50], 12, 0, 0, 0⟩ : TApiRight)).length))), (41, (vi ((List.replicate rv1.1.toNat ((⟨[], 0, 0, 0, 0⟩ : TApiRight) : TApiRight)).length : Int))), (42, (vi (iv4 : Int)))] [(bx (TTape.e rv2.2)), (bx (TApiTreasury.e rv3.1)), (eS 5 TApiRight.e (sv5.set (0 + iv4) (⟨[50], 12, 0, 0, 0⟩ : TApiRight)))] [(bx (TTape.e rv2.2)), (bx (TApiTreasury.e rv3.1)), (eS 5 TApiRight.e (sv5.set (0 + iv4) (⟨[50], 12, 0, 0, 0⟩ : TApiRight)))] (fun _ => ⟨by simp only [List.length_set], by rfl⟩) <|
.ret [] (.cont (sv5.set (0 + iv4) (⟨[50], 12, 0, 0, 0⟩ : TApiRight)))
def S_w13_RightsKeep_b2 (sv6 : TTape × (List TApiRight) × TApiTreasury × Int) (iv7 : Nat) (sv8 : Int) : Scr Tryz.prog R_w13_RightsKeep (Step (Int) R_w13_RightsKeep) :=
.guard [(0 + iv7) < sv6.2.1.length] <|
.reg 38 [] [] [.pf (Eq.refl sv6.2.1.length), .pf (nn iv7), .ev 1, .pf (Eq.refl sv6.2.1.length), .ev 0] <|
.ret [] (.cont (IntKind.i64.wrap (sv8 + (IntKind.i64.wrap (((sv6.2.1.getD (0 + iv7) default).Granted) - ((sv6.2.1.getD (0 + iv7) default).Returned))))))
def S_w13_RightsKeep_b3 (rv1 : R_mk_Tape_Range) (sv9 : TTape × TApiTreasury × (List TApiRight) × Int) : Scr Tryz.prog R_w13_RightsKeep (Step (TTape × TApiTreasury × (List TApiRight) × Int) R_w13_RightsKeep) :=
.ite (decide (sv9.2.2.2 < 25)) (
.call (@F_mk_Tape_N_ok rv1.1 sv9.1) fun rv10 cv10 =>
.reg 15 [] [(2, hc cv10 [0] false)] [.cl 0 cv10 [0] 3 false] <|
.reg 16 [] [(1, { obs := [(3, (bx (TApiTreasury.e (⟨0, []⟩ : TApiTreasury))))] })] [.pf cz4] <|
.call (@F_mk_Tape_N_ok 6 rv10.2) fun rv11 cv11 =>
.reg 17 [] [(1, hc cv11 [0] false)] [.cl 0 cv11 [0] 4 false] <|
.cut (some 4) [3, 4, 5, 9, 11] (fun (sv6 : TTape × (List TApiRight) × TApiTreasury × Int) => [(7, (AV.ref 2 sv6.2.1.length 0 sv6.2.1.length)), (12, (vi sv6.2.2.2))]) (fun (sv6 : TTape × (List TApiRight) × TApiTreasury × Int) => [(0, (bx (TTape.e sv6.1))), (2, (eS 5 TApiRight.e sv6.2.1)), (3, (bx (TApiTreasury.e sv6.2.2.1)))]) (
.ite (rv11.1 == 0) (
.call (@F_mk_Tape_N_ok 1000 rv11.2) fun rv12 cv12 =>
.call (@F_rights_Set_ok sv9.2.1 ([50]) 12 rv12.1) fun rv13 cv13 =>
.reg 20 [2, 7] [(2, hc cv12 [0] false), (3, hc cv13 [] true)] [.cl 1 cv12 [0] 4 false, .cl 0 cv13 [] 4 true] <|
.ret [] (.next (rv12.2, sv9.2.2.1, rv13.1, rv13.2))) (
.ite (rv11.1 == 1) (
.call (@F_rights_Tell_ok sv9.2.1 (IntKind.i64.wrap (rv10.1 + 1)) ([50]) 12) fun rv14 cv14 =>
.reg 22 [] [(3, hc cv14 [] true)] [.cl 0 cv14 [] 4 true] <|
.call (@F_rights_Learn_ok (sv9.2.2.1.getD (0 + (rv10.1).toNat) default) rv14.1) fun rv15 cv15 =>
.guard [(0 : Int) ≤ rv10.1, (rv10.1).toNat < sv9.2.2.1.length, (0 + (rv10.1).toNat) < sv9.2.2.1.length] <|
.reg 23 [9, 10] [(5, hc cv15 [] true)] [.pf (Eq.refl sv9.2.2.1.length), .ev 0, .ev 1, .pf (Eq.refl sv9.2.2.1.length), .ev 0, .ev 1, .pf (Eq.refl sv9.2.2.1.length), .ev 2, .pf (Eq.refl sv9.2.2.1.length), .ev 2, .cl 3 cv15 [] 5 true, .cl 3 cv15 [] 6 true] <|
.ite (rv15.2 == 0) (
.reg 25 [] [(4, { obs := [(2, (eS 5 TApiRight.e (sv9.2.2.1.set (0 + (rv10.1).toNat) rv15.1)))] })] [.pf (Eq.refl sv9.2.2.1.length), .ev 1, .ev 2, .pf (Eq.refl sv9.2.2.1.length), .ev 3, .pf (oLe_set (sz := 5) (e := TApiRight.e) (l := sv9.2.2.1) (i := (0 + (rv10.1).toNat)) (x := rv15.1) (fun _ => rfl))] <|
.cst (A := True) (.pf trivial) [(3, (vp 0)), (4, (vi rv1.1)), (5, (vp 1)), (7, (AV.ref 2 sv9.2.2.1.length 0 sv9.2.2.1.length)), (9, (vi sv9.2.2.2)), (11, (vp 3)), (12, (vi 0))] [(3, (vp 0)), (4, (vi rv1.1)), (5, (vp 1)), (7, (AV.ref 2 ((sv9.2.2.1.set (0 + (rv10.1).toNat) rv15.1).length) 0 ((sv9.2.2.1.set (0 + (rv10.1).toNat) rv15.1).length))), (9, (vi sv9.2.2.2)), (11, (vp 3)), (12, (vi 0))] [(bx (TTape.e rv11.2)), (bx (TApiTreasury.e sv9.2.1)), (eS 5 TApiRight.e (sv9.2.2.1.set (0 + (rv10.1).toNat) rv15.1)), (bx (TApiTreasury.e sv9.2.1)), (bx (TApiMessage.e rv14.1)), (bx (TApiRight.e rv15.1))] [(bx (TTape.e rv11.2)), (bx (TApiTreasury.e sv9.2.1)), (eS 5 TApiRight.e (sv9.2.2.1.set (0 + (rv10.1).toNat) rv15.1)), (bx (TApiTreasury.e sv9.2.1)), (bx (TApiMessage.e rv14.1)), (bx (TApiRight.e rv15.1))] (fun _ => ⟨by simp only [List.length_set], by rfl⟩) <|
.ret [] (.next (rv11.2, (sv9.2.2.1.set (0 + (rv10.1).toNat) rv15.1), sv9.2.1, 0))) (
.ret [] (.next (rv11.2, sv9.2.2.1, sv9.2.1, 0)))) (
.ite (rv11.1 == 2) (
.sh (H := NoH) (A := True) (.pf trivial) [(3, (vp 0)), (4, (vi rv1.1)), (5, (vp 1)), (7, (AV.ref 2 sv9.2.2.1.length 0 sv9.2.2.1.length)), (9, (vi sv9.2.2.2)), (10, (vi rv10.1)), (11, (vp 3)), (12, (vi 0)), (59, (vi rv11.1)), (102, (vb (rv11.1 == 2)))] [(3, (vp 0)), (4, (vi rv1.1)), (5, (vp 1)), (7, (AV.ref 2 sv9.2.2.1.length 0 sv9.2.2.1.length)), (9, (vi sv9.2.2.2)), (10, (vi rv10.1)), (11, (vp 3)), (12, (vi 0)), (59, (vi rv11.1)), (102, (vb (rv11.1 == 2)))] [(bx (TTape.e rv11.2)), (bx (TApiTreasury.e sv9.2.1)), (eS 5 TApiRight.e sv9.2.2.1), (bx (TApiTreasury.e sv9.2.1))] [(bx (TTape.e rv11.2)), (bx (TApiTreasury.e sv9.2.1)), (eS 5 TApiRight.e sv9.2.2.1), (bx (TApiTreasury.e sv9.2.1)), Ob.unb] (fun _ => shift_unb) (trF_refl _) <|
.call (@F_mk_Tape_Range_ok 1 100 rv11.2) fun rv16 cv16 =>
.call (@F_rights_Return_ok (sv9.2.2.1.getD (0 + (rv10.1).toNat) default) 0 rv16.1) fun rv17 cv17 =>
.guard [(0 : Int) ≤ rv10.1, (rv10.1).toNat < sv9.2.2.1.length, (0 + (rv10.1).toNat) < sv9.2.2.1.length] <|
.reg 27 [5, 10, 11] [(5, hc cv16 [0] false), (6, hc cv17 [] true), (10, { h := .born 4 false })] [.pf (Eq.refl sv9.2.2.1.length), .ev 0, .ev 1, .pf (Eq.refl sv9.2.2.1.length), .ev 0, .ev 1, .pf (Eq.refl sv9.2.2.1.length), .ev 0, .ev 1, .pf (Eq.refl sv9.2.2.1.length), .ev 0, .ev 1, .pf (Eq.refl sv9.2.2.1.length), .ev 2, .pf (Eq.refl sv9.2.2.1.length), .ev 2, .pf (Eq.refl sv9.2.2.1.length), .ev 2, .pf (Eq.refl sv9.2.2.1.length), .ev 2, .cl 4 cv16 [0] 5 false, .cl 4 cv16 [0] 5 false, .cl 3 cv17 [] 5 true, .cl 3 cv17 [] 5 true] <|
.ite (rv17.2 == 0) (
.reg 29 [] [(4, { obs := [(2, (eS 5 TApiRight.e (sv9.2.2.1.set (0 + (rv10.1).toNat) rv17.1)))] })] [.pf (Eq.refl sv9.2.2.1.length), .ev 1, .ev 2, .pf (Eq.refl sv9.2.2.1.length), .ev 3, .pf (oLe_set (sz := 5) (e := TApiRight.e) (l := sv9.2.2.1) (i := (0 + (rv10.1).toNat)) (x := rv17.1) (fun _ => rfl))] <|
.cst (A := True) (.pf trivial) [(3, (vp 0)), (4, (vi rv1.1)), (5, (vp 1)), (7, (AV.ref 2 sv9.2.2.1.length 0 sv9.2.2.1.length)), (9, (vi sv9.2.2.2)), (11, (vp 3)), (12, (vi 0))] [(3, (vp 0)), (4, (vi rv1.1)), (5, (vp 1)), (7, (AV.ref 2 ((sv9.2.2.1.set (0 + (rv10.1).toNat) rv17.1).length) 0 ((sv9.2.2.1.set (0 + (rv10.1).toNat) rv17.1).length))), (9, (vi sv9.2.2.2)), (11, (vp 3)), (12, (vi 0))] [(bx (TTape.e rv16.2)), (bx (TApiTreasury.e sv9.2.1)), (eS 5 TApiRight.e (sv9.2.2.1.set (0 + (rv10.1).toNat) rv17.1)), (bx (TApiTreasury.e sv9.2.1)), (bx (TApiRight.e rv17.1))] [(bx (TTape.e rv16.2)), (bx (TApiTreasury.e sv9.2.1)), (eS 5 TApiRight.e (sv9.2.2.1.set (0 + (rv10.1).toNat) rv17.1)), (bx (TApiTreasury.e sv9.2.1)), (bx (TApiRight.e rv17.1))] (fun _ => ⟨by simp only [List.length_set], by rfl⟩) <|
.ret [] (.next (rv16.2, (sv9.2.2.1.set (0 + (rv10.1).toNat) rv17.1), sv9.2.1, 0))) (
.ret [] (.next (rv16.2, sv9.2.2.1, sv9.2.1, 0)))) (
.ite (rv11.1 == 3) (
.call (@F_mk_Tape_N_ok (IntKind.i64.wrap (((sv9.2.2.1.getD (0 + (rv10.1).toNat) default).Returned) + 1)) rv11.2) fun rv18 cv18 =>
.call (@F_rights_Hear_ok sv9.2.1 (⟨(IntKind.i64.wrap (rv10.1 + 1)), 0, [50], 12, 0, 0, (IntKind.i64.wrap (((sv9.2.2.1.getD (0 + (rv10.1).toNat) default).Returned) - rv18.1)), 0⟩ : TApiMessage)) fun rv19 cv19 =>
.guard [(0 : Int) ≤ rv10.1, (rv10.1).toNat < sv9.2.2.1.length, (0 + (rv10.1).toNat) < sv9.2.2.1.length] <|
.reg 31 [15, 22] [(15, hc cv18 [0] false), (18, hc cv19 [] true)] [.pf (Eq.refl sv9.2.2.1.length), .ev 0, .ev 1, .pf (Eq.refl sv9.2.2.1.length), .ev 0, .ev 1, .pf (Eq.refl sv9.2.2.1.length), .pf (Eq.refl sv9.2.2.1.length), .pf (Eq.refl sv9.2.2.1.length), .ev 2, .pf (Eq.refl sv9.2.2.1.length), .ev 2, .pf (Eq.refl sv9.2.2.1.length), .ev 0, .ev 1, .pf (Eq.refl sv9.2.2.1.length), .pf (Eq.refl sv9.2.2.1.length), .ev 2, .cl 4 cv18 [0] 4 false, .cl 3 cv19 [] 4 true] <|
.ret [] (.next (rv18.2, sv9.2.2.1, rv19.1, rv19.2))) (
.call (@F_mk_Tape_Range_ok 1 300 rv11.2) fun rv20 cv20 =>
.call (@F_rights_Grant_ok sv9.2.1 (IntKind.i64.wrap (rv10.1 + 1)) ([50]) 12 rv20.1) fun rv21 cv21 =>
.reg 18 [4, 9] [(4, hc cv20 [0] false), (5, hc cv21 [] true)] [.cl 1 cv20 [0] 4 false, .cl 0 cv21 [] 4 true] <|
.ret [] (.next (rv20.2, sv9.2.2.1, rv21.1, rv21.2))))))) fun (sv6 : TTape × (List TApiRight) × TApiTreasury × Int) =>
.cut none [3, 4, 5, 7, 9] (fun (_ : TApiTreasury) => []) (fun (sv22 : TApiTreasury) => [(1, (bx (TApiTreasury.e sv22)))]) (
.ite (sv6.2.2.2 == 0) (
.ret [] (.next sv6.2.2.1)) (
.ret [] (.next sv9.2.1))) fun (sv22 : TApiTreasury) =>
.call (@F_rights_Pot_ok sv22 ([50]) 12) fun rv23 cv23 =>
.reg 34 [] [(1, hc cv23 [] true), (5, { obs := [(4, (bx (TApiPot.e (⟨[], 0, 0, [], [], [], []⟩ : TApiPot))))] })] [.cl 0 cv23 [] 4 true, .pf cz2] <|
.guard [sv6.2.1.length < 2 ^ 63] <|
.range (sv6.2.1.length : Int) sv6.2.1.length rfl (.why (.ev 0)) 154 [3, 4, 5, 7, 9, 19, 20, 152, 153] (fun (sv8 : Int) => [(21, (vi sv8))]) (fun (_ : Int) => []) 0 (S_w13_RightsKeep_b2 sv6) (fun (sv8 : Int) => 
.calld [(!rv23.2) = false] default (@F_r13_Valid_ok sv22) fun rv24 cv24 =>
.calld [(bif (!rv23.2) then true else (!rv24)) = false] default (@F_rights_Out_ok rv23.1) fun rv25 cv25 =>
.calld [(bif (bif (!rv23.2) then true else (!rv24)) then true else (decide (sv8 > rv25))) = false] default (@F_rights_Out_ok rv23.1) fun rv26 cv26 =>
.calld [(bif (bif (!rv23.2) then true else (!rv24)) then true else (decide (sv8 > rv25))) = false] default (@F_rights_Shortfall_ok rv23.1) fun rv27 cv27 =>
.calld [(bif (bif (bif (!rv23.2) then true else (!rv24)) then true else (decide (sv8 > rv25))) then true else (decide (rv26 > (IntKind.i64.wrap (rv23.1.Total + rv27))))) = false] default (@F_rights_Shortfall_ok rv23.1) fun rv28 cv28 =>
.reg 41 [] [(4, hc cv24 [] true), (10, hc cv25 [] true), (15, hc cv26 [] true), (19, hc cv27 [] true), (25, hc cv28 [] true)] [.clg 8 [(!rv23.2) = false] cv24 [] 5 true, .clg 6 [(bif (!rv23.2) then true else (!rv24)) = false] cv25 [] 5 true, .clg 4 [(bif (bif (!rv23.2) then true else (!rv24)) then true else (decide (sv8 > rv25))) = false] cv26 [] 5 true, .clg 2 [(bif (bif (!rv23.2) then true else (!rv24)) then true else (decide (sv8 > rv25))) = false] cv27 [] 5 true, .clg 0 [(bif (bif (bif (!rv23.2) then true else (!rv24)) then true else (decide (sv8 > rv25))) then true else (decide (rv26 > (IntKind.i64.wrap (rv23.1.Total + rv27))))) = false] cv28 [] 5 true] <|
.ite (bif (bif (bif (bif (!rv23.2) then true else (!rv24)) then true else (decide (sv8 > rv25))) then true else (decide (rv26 > (IntKind.i64.wrap (rv23.1.Total + rv27))))) then true else (decide (rv28 < 0))) (
.ret [] (.ret false)) (
.ret [] (.cont (sv6.1, sv22, sv6.2.1, (IntKind.i64.wrap (sv9.2.2.2 + 1)))))) .ret) (
.ret [] (.brk (sv9.1, sv9.2.1, sv9.2.2.1, sv9.2.2.2)))
def S_w13_RightsKeep (a0 : (List Int)) : Scr Tryz.prog R_w13_RightsKeep R_w13_RightsKeep :=
.call (@F_mk_New_ok a0) fun rv29 cv29 =>
.reg 1 [] [(1, hc cv29 [] false)] [.cl 0 cv29 [] 0 false] <|
.call (@F_mk_Tape_Range_ok 1 4 rv29) fun rv1 cv1 =>
.reg 2 [] [(1, hc cv1 [0] false)] [.cl 0 cv1 [0] 1 false] <|
.call (@F_mk_Tape_N_ok 1000 rv1.2) fun rv2 cv2 =>
.call (@F_rights_Set_ok (⟨rv1.1, []⟩ : TApiTreasury) ([50]) 12 rv2.1) fun rv3 cv3 =>
.reg 3 [] [(1, hv (AV.d (TApiTreasury.e (⟨rv1.1, []⟩ : TApiTreasury)))), (3, hc cv2 [0] false), (4, hc cv3 [] true), (8, { obs := [(1, (bx (TApiTreasury.e (⟨0, []⟩ : TApiTreasury))))] })] [.pf (p := LeV (AV.d (DV.agg [(DV.i .i64 rv1.1), Z0])) (AV.d (TApiTreasury.e (⟨rv1.1, []⟩ : TApiTreasury)))) (leV_dle rfl (DLe.agg (DLeL.cons (DLe.refl _) (DLeL.cons DLe.sl0 DLeL.nil)))), .cl 1 cv2 [0] 1 false, .cl 0 cv3 [] 1 true, .pf cz4] <|
.ite (rv3.2 != 0) (
.ret [] false) (
.guard [(0 : Int) ≤ rv1.1, rv1.1 * 48 ≤ 2 ^ 47] <|
.reg 6 [] [(1, { cast := some (AV.ref 2 ((List.replicate rv1.1.toNat ((⟨[], 0, 0, 0, 0⟩ : TApiRight) : TApiRight)).length) 0 ((List.replicate rv1.1.toNat ((⟨[], 0, 0, 0, 0⟩ : TApiRight) : TApiRight)).length)), obs := [(2, (eS 5 TApiRight.e (List.replicate rv1.1.toNat ((⟨[], 0, 0, 0, 0⟩ : TApiRight) : TApiRight))))] })] [.ev 0, .pf (p := rv1.1 ≤ rv1.1) (Int.le_refl _), .ev 1, .pf (leV_rep (o := 2) (k := rv1.1.toNat) (z := ((⟨[], 0, 0, 0, 0⟩ : TApiRight) : TApiRight))), .pf (oLe_rep (sz := 5) (k := rv1.1.toNat) (e := TApiRight.e) (z := ((⟨[], 0, 0, 0, 0⟩ : TApiRight) : TApiRight)))] <|
.guard [(List.replicate rv1.1.toNat ((⟨[], 0, 0, 0, 0⟩ : TApiRight) : TApiRight)).length < 2 ^ 63] <|
.range ((List.replicate rv1.1.toNat ((⟨[], 0, 0, 0, 0⟩ : TApiRight) : TApiRight)).length : Int) ((List.replicate rv1.1.toNat ((⟨[], 0, 0, 0, 0⟩ : TApiRight) : TApiRight)).length) rfl (.why (.ev 0)) 42 [3, 4, 5, 41] (fun (sv5 : (List TApiRight)) => [(7, (AV.ref 2 sv5.length 0 sv5.length))]) (fun (sv5 : (List TApiRight)) => [(2, (eS 5 TApiRight.e sv5))]) (List.replicate rv1.1.toNat ((⟨[], 0, 0, 0, 0⟩ : TApiRight) : TApiRight)) (S_w13_RightsKeep_b1 rv1 rv2 rv3) (fun (sv5 : (List TApiRight)) => 
.iter [3, 4, 5] (fun (sv9 : TTape × TApiTreasury × (List TApiRight) × Int) => [(7, (AV.ref 2 sv9.2.2.1.length 0 sv9.2.2.1.length)), (9, (vi sv9.2.2.2))]) (fun (sv9 : TTape × TApiTreasury × (List TApiRight) × Int) => [(0, (bx (TTape.e sv9.1))), (1, (bx (TApiTreasury.e sv9.2.1))), (2, (eS 5 TApiRight.e sv9.2.2.1))]) (rv2.2, rv3.1, sv5, 0) (S_w13_RightsKeep_b3 rv1) (fun (_ : TTape × TApiTreasury × (List TApiRight) × Int) =>
.call (@F_w13_awake_ok) fun rv30 cv30 =>
.reg 43 [] [(0, hc cv30 [] true)] [.cl 0 cv30 [] 3 true] <|
.ret [] rv30) id) id)
def F_w13_RightsKeep (a0 : (List Int)) : Option R_w13_RightsKeep := (S_w13_RightsKeep a0).den
set_option maxRecDepth 100000 in
theorem F_w13_RightsKeep_ok {a0 : (List Int)} (r : R_w13_RightsKeep) (h : F_w13_RightsKeep a0 = some r) : CallOk Tryz.prog 6 [(vl a0)] [] (V_w13_RightsKeep r) (L_w13_RightsKeep r) := fOk (s := S_w13_RightsKeep a0) Tryz.func6 rfl (by kernel_rfl) h
end
end Go.Proofs.YtkabfdfkegjfdaaGreatDoor
