/- A part of the proof: what the functions compute, and that their calls return it. No condition. -/
import Derived.Test.YteelhiohkbbdhaaGreatDoorG14P0
/- What the functions compute, and that their calls return it. No condition. -/
namespace Go.Proofs.YteelhiohkbbdhaaGreatDoor
open Go Go.TA

/-! 51 -/
abbrev R_r14_Verify := TApiBook × Int
def V_r14_Verify (x : R_r14_Verify) : AV := (AV.tup [(AV.d (TApiBook.e x.1)), (vi x.2)])
def L_r14_Verify (_ : R_r14_Verify) : List Ob := []
noncomputable def S_r14_Verify (a0 : TApiBook) (a1 : Int) (a2 : Int) (a3 : Int) : Scr Tryz.prog R_r14_Verify R_r14_Verify :=
.reg 0 [] [(1, { obs := [(1, (bx (TApiBook.e (⟨[], [], [], []⟩ : TApiBook))))] })] [.pf (p := OLe (bx (DV.agg [(DV.sl 0 fun _ => DV.b false), (DV.sl 0 fun _ => DV.b false), (DV.sl 0 fun _ => DV.b false), (DV.sl 0 fun _ => DV.b false)])) (bx (TApiBook.e (⟨[], [], [], []⟩ : TApiBook)))) (oLe_box (DLe.agg (DLeL.cons DLe.sl0 (DLeL.cons DLe.sl0 (DLeL.cons DLe.sl0 (DLeL.cons DLe.sl0 DLeL.nil))))))] <|
.call (@F_r14_Valid_ok a0) fun rv1 cv1 =>
.reg 1 [] [(1, hc cv1 [] true)] [.cl 0 cv1 [] 2 true] <|
.ite (!rv1) (
.reg 2 [] [(0, hv (AV.d (TApiBook.e (⟨[], [], [], []⟩ : TApiBook))))] [.pf (p := LeV (AV.d (DV.agg [(DV.sl 0 fun _ => DV.b false), (DV.sl 0 fun _ => DV.b false), (DV.sl 0 fun _ => DV.b false), (DV.sl 0 fun _ => DV.b false)])) (AV.d (TApiBook.e (⟨[], [], [], []⟩ : TApiBook)))) (leV_dle rfl (DLe.agg (DLeL.cons DLe.sl0 (DLeL.cons DLe.sl0 (DLeL.cons DLe.sl0 (DLeL.cons DLe.sl0 DLeL.nil))))))] <|
.ret [] ((⟨[], [], [], []⟩ : TApiBook), 1)) (
.ite (bif (decide (a1 < 1)) then true else (decide (a1 > (a0.Commitments.length : Int)))) (
.reg 4 [] [(0, hv (AV.d (TApiBook.e (⟨[], [], [], []⟩ : TApiBook))))] [.pf (p := LeV (AV.d (DV.agg [(DV.sl 0 fun _ => DV.b false), (DV.sl 0 fun _ => DV.b false), (DV.sl 0 fun _ => DV.b false), (DV.sl 0 fun _ => DV.b false)])) (AV.d (TApiBook.e (⟨[], [], [], []⟩ : TApiBook)))) (leV_dle rfl (DLe.agg (DLeL.cons DLe.sl0 (DLeL.cons DLe.sl0 (DLeL.cons DLe.sl0 (DLeL.cons DLe.sl0 DLeL.nil))))))] <|
.ret [] ((⟨[], [], [], []⟩ : TApiBook), 6)) (
.call (@F_r14_day_ok a2) fun rv2 cv2 =>
.calld [(!rv2) = false] default (@F_r14_amount_ok a3) fun rv3 cv3 =>
.reg 5 [] [(1, hc cv2 [] true), (5, hc cv3 [] true)] [.cl 2 cv2 [] 2 true, .clg 0 [(!rv2) = false] cv3 [] 2 true] <|
.ite (bif (!rv2) then true else (!rv3)) (
.reg 6 [] [(0, hv (AV.d (TApiBook.e (⟨[], [], [], []⟩ : TApiBook))))] [.pf (p := LeV (AV.d (DV.agg [(DV.sl 0 fun _ => DV.b false), (DV.sl 0 fun _ => DV.b false), (DV.sl 0 fun _ => DV.b false), (DV.sl 0 fun _ => DV.b false)])) (AV.d (TApiBook.e (⟨[], [], [], []⟩ : TApiBook)))) (leV_dle rfl (DLe.agg (DLeL.cons DLe.sl0 (DLeL.cons DLe.sl0 (DLeL.cons DLe.sl0 (DLeL.cons DLe.sl0 DLeL.nil))))))] <|
.ret [] ((⟨[], [], [], []⟩ : TApiBook), 2)) (
.call (@F_r02_Year_ok a2) fun rv4 cv4 =>
.call (@F_r14_year_ok a0 a1) fun rv5 cv5 =>
.reg 7 [] [(1, hc cv4 [] true), (4, hc cv5 [] true)] [.cl 1 cv4 [] 2 true, .cl 0 cv5 [] 2 true] <|
.ite (decide (rv4 > (IntKind.i64.wrap (rv5 + 1)))) (
.reg 8 [] [(0, hv (AV.d (TApiBook.e (⟨[], [], [], []⟩ : TApiBook))))] [.pf (p := LeV (AV.d (DV.agg [(DV.sl 0 fun _ => DV.b false), (DV.sl 0 fun _ => DV.b false), (DV.sl 0 fun _ => DV.b false), (DV.sl 0 fun _ => DV.b false)])) (AV.d (TApiBook.e (⟨[], [], [], []⟩ : TApiBook)))) (leV_dle rfl (DLe.agg (DLeL.cons DLe.sl0 (DLeL.cons DLe.sl0 (DLeL.cons DLe.sl0 (DLeL.cons DLe.sl0 DLeL.nil))))))] <|
.ret [] ((⟨[], [], [], []⟩ : TApiBook), 16)) (
.guard [(0 : Int) ≤ (IntKind.i64.wrap (a1 - 1)), ((IntKind.i64.wrap (a1 - 1))).toNat < a0.Commitments.length] <|
.reg 9 [] [] [.ev 0, .ev 1] <|
.ite (decide (a2 < ((a0.Commitments.getD (((IntKind.i64.wrap (a1 - 1))).toNat) default).Day))) (
.reg 10 [] [(0, hv (AV.d (TApiBook.e (⟨[], [], [], []⟩ : TApiBook))))] [.pf (p := LeV (AV.d (DV.agg [(DV.sl 0 fun _ => DV.b false), (DV.sl 0 fun _ => DV.b false), (DV.sl 0 fun _ => DV.b false), (DV.sl 0 fun _ => DV.b false)])) (AV.d (TApiBook.e (⟨[], [], [], []⟩ : TApiBook)))) (leV_dle rfl (DLe.agg (DLeL.cons DLe.sl0 (DLeL.cons DLe.sl0 (DLeL.cons DLe.sl0 (DLeL.cons DLe.sl0 DLeL.nil))))))] <|
.ret [] ((⟨[], [], [], []⟩ : TApiBook), 8)) (
.call (@F_r14_rest_ok a0 (a0.Commitments.getD (((IntKind.i64.wrap (a1 - 1))).toNat) default)) fun rv6 cv6 =>
.reg 11 [] [(8, hc cv6 [] true)] [.ev 2, .ev 3, .cl 0 cv6 [] 2 true] <|
.ite (decide (a3 > rv6)) (
.reg 12 [] [(0, hv (AV.d (TApiBook.e (⟨[], [], [], []⟩ : TApiBook))))] [.pf (p := LeV (AV.d (DV.agg [(DV.sl 0 fun _ => DV.b false), (DV.sl 0 fun _ => DV.b false), (DV.sl 0 fun _ => DV.b false), (DV.sl 0 fun _ => DV.b false)])) (AV.d (TApiBook.e (⟨[], [], [], []⟩ : TApiBook)))) (leV_dle rfl (DLe.agg (DLeL.cons DLe.sl0 (DLeL.cons DLe.sl0 (DLeL.cons DLe.sl0 (DLeL.cons DLe.sl0 DLeL.nil))))))] <|
.ret [] ((⟨[], [], [], []⟩ : TApiBook), 15)) (
.ite ((a0.Verifications.length : Int) == 200) (
.reg 14 [] [(0, hv (AV.d (TApiBook.e (⟨[], [], [], []⟩ : TApiBook))))] [.pf (p := LeV (AV.d (DV.agg [(DV.sl 0 fun _ => DV.b false), (DV.sl 0 fun _ => DV.b false), (DV.sl 0 fun _ => DV.b false), (DV.sl 0 fun _ => DV.b false)])) (AV.d (TApiBook.e (⟨[], [], [], []⟩ : TApiBook)))) (leV_dle rfl (DLe.agg (DLeL.cons DLe.sl0 (DLeL.cons DLe.sl0 (DLeL.cons DLe.sl0 (DLeL.cons DLe.sl0 DLeL.nil))))))] <|
.ret [] ((⟨[], [], [], []⟩ : TApiBook), 3)) (
.call (@F_r14_copied_rw_ok a0) fun rv7 cv7 =>
.reg 15 [] [(1, hc cv7 [] false), (2, { h := .obj })] [.cl 0 cv7 [] 2 false] <|
.kill 3 <|
.guard [rv7.1.length < 2 ^ 63] <|
.frz 4 (.ev 0) none [] [8] <|
.guard [rv7.2.1.length < 2 ^ 63] <|
.frz 5 (.ev 0) none [] [8] <|
.guard [rv7.2.2.2.length < 2 ^ 63] <|
.frz 7 (.ev 0) none [] [8] <|
.guard [(rv7.2.2.1.length + 1) * (2 * 32) ≤ 2 ^ 48] <|
.reg 16 [] [(10, hv (AV.d (eL TApiVerification.e ([(⟨(IntKind.i64.wrap ((a0.Verifications.length : Int) + 1)), a1, a2, a3⟩ : TApiVerification)] : List TApiVerification)))), (11, { cast := some (AV.ref 6 ((rv7.2.2.1 ++ ([(⟨(IntKind.i64.wrap ((a0.Verifications.length : Int) + 1)), a1, a2, a3⟩ : TApiVerification)] : List TApiVerification)).length) 0 ((rv7.2.2.1 ++ ([(⟨(IntKind.i64.wrap ((a0.Verifications.length : Int) + 1)), a1, a2, a3⟩ : TApiVerification)] : List TApiVerification)).length)), obs := [(6, (eS 4 TApiVerification.e (rv7.2.2.1 ++ ([(⟨(IntKind.i64.wrap ((a0.Verifications.length : Int) + 1)), a1, a2, a3⟩ : TApiVerification)] : List TApiVerification))))] })] [.pf (leV_lit TApiVerification.e ([(⟨(IntKind.i64.wrap ((a0.Verifications.length : Int) + 1)), a1, a2, a3⟩ : TApiVerification)] : List TApiVerification)), .pf (Eq.refl rv7.2.2.1.length), .pf (Eq.refl rv7.2.2.1.length), .pf (p := ∀ k, k < 1 → (AV.d (TApiVerification.e (([(⟨(IntKind.i64.wrap ((a0.Verifications.length : Int) + 1)), a1, a2, a3⟩ : TApiVerification)] : List TApiVerification).getD k default))).wd = 4) (fun _ _ => rfl), .ev 0, .pf (leV_app (o := 6) (l := rv7.2.2.1) (x := ([(⟨(IntKind.i64.wrap ((a0.Verifications.length : Int) + 1)), a1, a2, a3⟩ : TApiVerification)] : List TApiVerification))), .pf (oLe_app (sz := 4) (e := TApiVerification.e) (l := rv7.2.2.1) (x := ([(⟨(IntKind.i64.wrap ((a0.Verifications.length : Int) + 1)), a1, a2, a3⟩ : TApiVerification)] : List TApiVerification)))] <|
.guard [(rv7.2.2.1 ++ ([(⟨(IntKind.i64.wrap ((a0.Verifications.length : Int) + 1)), a1, a2, a3⟩ : TApiVerification)] : List TApiVerification)).length < 2 ^ 63] <|
.reg 17 [] [] [] <|
.frz 6 (.ev 0) none [] [1, 8] <|
.ret [] ((⟨rv7.1, rv7.2.1, (rv7.2.2.1 ++ ([(⟨(IntKind.i64.wrap ((a0.Verifications.length : Int) + 1)), a1, a2, a3⟩ : TApiVerification)] : List TApiVerification)), rv7.2.2.2⟩ : TApiBook), 0))))))))

noncomputable def F_r14_Verify (a0 : TApiBook) (a1 : Int) (a2 : Int) (a3 : Int) : Option R_r14_Verify := (S_r14_Verify a0 a1 a2 a3).den
set_option maxRecDepth 100000 in
theorem F_r14_Verify_ok {a0 : TApiBook} {a1 : Int} {a2 : Int} {a3 : Int} (r : R_r14_Verify) (h : F_r14_Verify a0 a1 a2 a3 = some r) : CallOk Tryz.prog 51 [(AV.d (TApiBook.e a0)), (vi a1), (vi a2), (vi a3)] [] (V_r14_Verify r) (L_r14_Verify r) := fOk (s := S_r14_Verify a0 a1 a2 a3) Tryz.func51 rfl (by kernel_rfl) h

/-! 71 -/
abbrev R_r14_last := TApiOrder × Int
def V_r14_last (x : R_r14_last) : AV := (AV.tup [(AV.d (TApiOrder.e x.1)), (vi x.2)])
def L_r14_last (_ : R_r14_last) : List Ob := []
noncomputable def S_r14_last_b1 (a0 : TApiBook) (a1 : Int) (iv1 : Nat) (sv2 : TApiOrder × Int) : Scr Tryz.prog R_r14_last (Step (TApiOrder × Int) R_r14_last) :=
.reg 5 [] [] [.pf (nn iv1), .ev 0] <|
.ite (((a0.Orders.getD iv1 default).Verification) == a1) (
.ret [] (.cont ((a0.Orders.getD iv1 default), (IntKind.i64.wrap (sv2.2 + 1))))) (
.ret [] (.cont (sv2.1, sv2.2)))

noncomputable def S_r14_last (a0 : TApiBook) (a1 : Int) : Scr Tryz.prog R_r14_last R_r14_last :=
.range (a0.Orders.length : Int) a0.Orders.length rfl (.slot 11) 13 [1, 4, 6, 11, 12] (fun (sv2 : TApiOrder × Int) => [(7, (vi sv2.2))]) (fun (sv2 : TApiOrder × Int) => [(2, (bx (TApiOrder.e sv2.1)))]) ((⟨0, 0, 0, 0, false⟩ : TApiOrder), 0) (S_r14_last_b1 a0 a1) (fun (sv2 : TApiOrder × Int) => 
.ret [] (sv2.1, sv2.2)) id

noncomputable def F_r14_last (a0 : TApiBook) (a1 : Int) : Option R_r14_last := (S_r14_last a0 a1).den
set_option maxRecDepth 100000 in
theorem F_r14_last_ok {a0 : TApiBook} {a1 : Int} (r : R_r14_last) (h : F_r14_last a0 a1 = some r) : CallOk Tryz.prog 71 [(AV.d (TApiBook.e a0)), (vi a1)] [] (V_r14_last r) (L_r14_last r) := fOk (s := S_r14_last a0 a1) Tryz.func71 rfl (by kernel_rfl) h

/-! 52 -/
abbrev R_r14_Order := TApiBook × Int
def V_r14_Order (x : R_r14_Order) : AV := (AV.tup [(AV.d (TApiBook.e x.1)), (vi x.2)])
def L_r14_Order (_ : R_r14_Order) : List Ob := []
noncomputable def S_r14_Order (a0 : TApiBook) (a1 : Int) (a2 : Int) : Scr Tryz.prog R_r14_Order R_r14_Order :=
.reg 0 [] [(1, { obs := [(1, (bx (TApiBook.e (⟨[], [], [], []⟩ : TApiBook))))] })] [.pf (p := OLe (bx (DV.agg [(DV.sl 0 fun _ => DV.b false), (DV.sl 0 fun _ => DV.b false), (DV.sl 0 fun _ => DV.b false), (DV.sl 0 fun _ => DV.b false)])) (bx (TApiBook.e (⟨[], [], [], []⟩ : TApiBook)))) (oLe_box (DLe.agg (DLeL.cons DLe.sl0 (DLeL.cons DLe.sl0 (DLeL.cons DLe.sl0 (DLeL.cons DLe.sl0 DLeL.nil))))))] <|
.call (@F_r14_Valid_ok a0) fun rv1 cv1 =>
.reg 1 [] [(1, hc cv1 [] true)] [.cl 0 cv1 [] 2 true] <|
.ite (!rv1) (
.reg 2 [] [(0, hv (AV.d (TApiBook.e (⟨[], [], [], []⟩ : TApiBook))))] [.pf (p := LeV (AV.d (DV.agg [(DV.sl 0 fun _ => DV.b false), (DV.sl 0 fun _ => DV.b false), (DV.sl 0 fun _ => DV.b false), (DV.sl 0 fun _ => DV.b false)])) (AV.d (TApiBook.e (⟨[], [], [], []⟩ : TApiBook)))) (leV_dle rfl (DLe.agg (DLeL.cons DLe.sl0 (DLeL.cons DLe.sl0 (DLeL.cons DLe.sl0 (DLeL.cons DLe.sl0 DLeL.nil))))))] <|
.ret [] ((⟨[], [], [], []⟩ : TApiBook), 1)) (
.ite (bif (decide (a1 < 1)) then true else (decide (a1 > (a0.Verifications.length : Int)))) (
.reg 4 [] [(0, hv (AV.d (TApiBook.e (⟨[], [], [], []⟩ : TApiBook))))] [.pf (p := LeV (AV.d (DV.agg [(DV.sl 0 fun _ => DV.b false), (DV.sl 0 fun _ => DV.b false), (DV.sl 0 fun _ => DV.b false), (DV.sl 0 fun _ => DV.b false)])) (AV.d (TApiBook.e (⟨[], [], [], []⟩ : TApiBook)))) (leV_dle rfl (DLe.agg (DLeL.cons DLe.sl0 (DLeL.cons DLe.sl0 (DLeL.cons DLe.sl0 (DLeL.cons DLe.sl0 DLeL.nil))))))] <|
.ret [] ((⟨[], [], [], []⟩ : TApiBook), 6)) (
.call (@F_r14_day_ok a2) fun rv2 cv2 =>
.reg 5 [] [(1, hc cv2 [] true)] [.cl 0 cv2 [] 2 true] <|
.ite (!rv2) (
.reg 6 [] [(0, hv (AV.d (TApiBook.e (⟨[], [], [], []⟩ : TApiBook))))] [.pf (p := LeV (AV.d (DV.agg [(DV.sl 0 fun _ => DV.b false), (DV.sl 0 fun _ => DV.b false), (DV.sl 0 fun _ => DV.b false), (DV.sl 0 fun _ => DV.b false)])) (AV.d (TApiBook.e (⟨[], [], [], []⟩ : TApiBook)))) (leV_dle rfl (DLe.agg (DLeL.cons DLe.sl0 (DLeL.cons DLe.sl0 (DLeL.cons DLe.sl0 (DLeL.cons DLe.sl0 DLeL.nil))))))] <|
.ret [] ((⟨[], [], [], []⟩ : TApiBook), 2)) (
.guard [(0 : Int) ≤ (IntKind.i64.wrap (a1 - 1)), ((IntKind.i64.wrap (a1 - 1))).toNat < a0.Verifications.length] <|
.reg 7 [] [] [.ev 0, .ev 1] <|
.call (@F_r14_last_ok a0 a1) fun rv3 cv3 =>
.reg 8 [] [(2, hc cv3 [] true)] [.cl 0 cv3 [] 3 true] <|
.call (@F_r02_Year_ok a2) fun rv4 cv4 =>
.call (@F_r14_year_ok a0 ((a0.Verifications.getD (((IntKind.i64.wrap (a1 - 1))).toNat) default).Commitment)) fun rv5 cv5 =>
.reg 9 [] [(1, hc cv4 [] true), (5, hc cv5 [] true)] [.cl 1 cv4 [] 4 true, .cl 0 cv5 [] 4 true] <|
.ite (decide (rv4 > (IntKind.i64.wrap (rv5 + 1)))) (
.reg 10 [] [(0, hv (AV.d (TApiBook.e (⟨[], [], [], []⟩ : TApiBook))))] [.pf (p := LeV (AV.d (DV.agg [(DV.sl 0 fun _ => DV.b false), (DV.sl 0 fun _ => DV.b false), (DV.sl 0 fun _ => DV.b false), (DV.sl 0 fun _ => DV.b false)])) (AV.d (TApiBook.e (⟨[], [], [], []⟩ : TApiBook)))) (leV_dle rfl (DLe.agg (DLeL.cons DLe.sl0 (DLeL.cons DLe.sl0 (DLeL.cons DLe.sl0 (DLeL.cons DLe.sl0 DLeL.nil))))))] <|
.ret [] ((⟨[], [], [], []⟩ : TApiBook), 16)) (
.ite (bif (decide (rv3.2 > 0)) then (!rv3.1.Back) else false) (
.reg 12 [] [(0, hv (AV.d (TApiBook.e (⟨[], [], [], []⟩ : TApiBook))))] [.pf (p := LeV (AV.d (DV.agg [(DV.sl 0 fun _ => DV.b false), (DV.sl 0 fun _ => DV.b false), (DV.sl 0 fun _ => DV.b false), (DV.sl 0 fun _ => DV.b false)])) (AV.d (TApiBook.e (⟨[], [], [], []⟩ : TApiBook)))) (leV_dle rfl (DLe.agg (DLeL.cons DLe.sl0 (DLeL.cons DLe.sl0 (DLeL.cons DLe.sl0 (DLeL.cons DLe.sl0 DLeL.nil))))))] <|
.ret [] ((⟨[], [], [], []⟩ : TApiBook), 20)) (
.ite (bif (decide (a2 < ((a0.Verifications.getD (((IntKind.i64.wrap (a1 - 1))).toNat) default).Day))) then true else (bif (decide (rv3.2 > 0)) then (decide (a2 < rv3.1.Day)) else false)) (
.reg 14 [] [(0, hv (AV.d (TApiBook.e (⟨[], [], [], []⟩ : TApiBook))))] [.pf (p := LeV (AV.d (DV.agg [(DV.sl 0 fun _ => DV.b false), (DV.sl 0 fun _ => DV.b false), (DV.sl 0 fun _ => DV.b false), (DV.sl 0 fun _ => DV.b false)])) (AV.d (TApiBook.e (⟨[], [], [], []⟩ : TApiBook)))) (leV_dle rfl (DLe.agg (DLeL.cons DLe.sl0 (DLeL.cons DLe.sl0 (DLeL.cons DLe.sl0 (DLeL.cons DLe.sl0 DLeL.nil))))))] <|
.ret [] ((⟨[], [], [], []⟩ : TApiBook), 8)) (
.ite ((a0.Orders.length : Int) == 200) (
.reg 16 [] [(0, hv (AV.d (TApiBook.e (⟨[], [], [], []⟩ : TApiBook))))] [.pf (p := LeV (AV.d (DV.agg [(DV.sl 0 fun _ => DV.b false), (DV.sl 0 fun _ => DV.b false), (DV.sl 0 fun _ => DV.b false), (DV.sl 0 fun _ => DV.b false)])) (AV.d (TApiBook.e (⟨[], [], [], []⟩ : TApiBook)))) (leV_dle rfl (DLe.agg (DLeL.cons DLe.sl0 (DLeL.cons DLe.sl0 (DLeL.cons DLe.sl0 (DLeL.cons DLe.sl0 DLeL.nil))))))] <|
.ret [] ((⟨[], [], [], []⟩ : TApiBook), 3)) (
.call (@F_r14_copied_rw_ok a0) fun rv6 cv6 =>
.reg 17 [] [(1, hc cv6 [] false), (2, { h := .obj })] [.cl 0 cv6 [] 4 false] <|
.kill 5 <|
.guard [rv6.1.length < 2 ^ 63] <|
.frz 6 (.ev 0) none [] [10] <|
.guard [rv6.2.1.length < 2 ^ 63] <|
.frz 7 (.ev 0) none [] [10] <|
.guard [rv6.2.2.1.length < 2 ^ 63] <|
.frz 8 (.ev 0) none [] [10] <|
.guard [(rv6.2.2.2.length + 1) * (2 * 40) ≤ 2 ^ 48] <|
.reg 18 [] [(11, hv (AV.d (eL TApiOrder.e ([(⟨(IntKind.i64.wrap ((a0.Orders.length : Int) + 1)), a1, (IntKind.i64.wrap (rv3.2 + 1)), a2, false⟩ : TApiOrder)] : List TApiOrder)))), (12, { cast := some (AV.ref 9 ((rv6.2.2.2 ++ ([(⟨(IntKind.i64.wrap ((a0.Orders.length : Int) + 1)), a1, (IntKind.i64.wrap (rv3.2 + 1)), a2, false⟩ : TApiOrder)] : List TApiOrder)).length) 0 ((rv6.2.2.2 ++ ([(⟨(IntKind.i64.wrap ((a0.Orders.length : Int) + 1)), a1, (IntKind.i64.wrap (rv3.2 + 1)), a2, false⟩ : TApiOrder)] : List TApiOrder)).length)), obs := [(9, (eS 5 TApiOrder.e (rv6.2.2.2 ++ ([(⟨(IntKind.i64.wrap ((a0.Orders.length : Int) + 1)), a1, (IntKind.i64.wrap (rv3.2 + 1)), a2, false⟩ : TApiOrder)] : List TApiOrder))))] })] [.pf (leV_lit TApiOrder.e ([(⟨(IntKind.i64.wrap ((a0.Orders.length : Int) + 1)), a1, (IntKind.i64.wrap (rv3.2 + 1)), a2, false⟩ : TApiOrder)] : List TApiOrder)), .pf (Eq.refl rv6.2.2.2.length), .pf (Eq.refl rv6.2.2.2.length), .pf (p := ∀ k, k < 1 → (AV.d (TApiOrder.e (([(⟨(IntKind.i64.wrap ((a0.Orders.length : Int) + 1)), a1, (IntKind.i64.wrap (rv3.2 + 1)), a2, false⟩ : TApiOrder)] : List TApiOrder).getD k default))).wd = 5) (fun _ _ => rfl), .ev 0, .pf (leV_app (o := 9) (l := rv6.2.2.2) (x := ([(⟨(IntKind.i64.wrap ((a0.Orders.length : Int) + 1)), a1, (IntKind.i64.wrap (rv3.2 + 1)), a2, false⟩ : TApiOrder)] : List TApiOrder))), .pf (oLe_app (sz := 5) (e := TApiOrder.e) (l := rv6.2.2.2) (x := ([(⟨(IntKind.i64.wrap ((a0.Orders.length : Int) + 1)), a1, (IntKind.i64.wrap (rv3.2 + 1)), a2, false⟩ : TApiOrder)] : List TApiOrder)))] <|
.guard [(rv6.2.2.2 ++ ([(⟨(IntKind.i64.wrap ((a0.Orders.length : Int) + 1)), a1, (IntKind.i64.wrap (rv3.2 + 1)), a2, false⟩ : TApiOrder)] : List TApiOrder)).length < 2 ^ 63] <|
.reg 19 [] [] [] <|
.frz 9 (.ev 0) none [] [1, 10] <|
.ret [] ((⟨rv6.1, rv6.2.1, rv6.2.2.1, (rv6.2.2.2 ++ ([(⟨(IntKind.i64.wrap ((a0.Orders.length : Int) + 1)), a1, (IntKind.i64.wrap (rv3.2 + 1)), a2, false⟩ : TApiOrder)] : List TApiOrder))⟩ : TApiBook), 0))))))))

noncomputable def F_r14_Order (a0 : TApiBook) (a1 : Int) (a2 : Int) : Option R_r14_Order := (S_r14_Order a0 a1 a2).den
set_option maxRecDepth 100000 in
theorem F_r14_Order_ok {a0 : TApiBook} {a1 : Int} {a2 : Int} (r : R_r14_Order) (h : F_r14_Order a0 a1 a2 = some r) : CallOk Tryz.prog 52 [(AV.d (TApiBook.e a0)), (vi a1), (vi a2)] [] (V_r14_Order r) (L_r14_Order r) := fOk (s := S_r14_Order a0 a1 a2) Tryz.func52 rfl (by kernel_rfl) h

/-! 53 -/
abbrev R_r14_Release := TApiBook × Int
def V_r14_Release (x : R_r14_Release) : AV := (AV.tup [(AV.d (TApiBook.e x.1)), (vi x.2)])
def L_r14_Release (_ : R_r14_Release) : List Ob := []
noncomputable def S_r14_Release (a0 : TApiBook) (a1 : Int) (a2 : Int) : Scr Tryz.prog R_r14_Release R_r14_Release :=
.reg 0 [] [(1, { obs := [(1, (bx (TApiBook.e (⟨[], [], [], []⟩ : TApiBook))))] })] [.pf (p := OLe (bx (DV.agg [(DV.sl 0 fun _ => DV.b false), (DV.sl 0 fun _ => DV.b false), (DV.sl 0 fun _ => DV.b false), (DV.sl 0 fun _ => DV.b false)])) (bx (TApiBook.e (⟨[], [], [], []⟩ : TApiBook)))) (oLe_box (DLe.agg (DLeL.cons DLe.sl0 (DLeL.cons DLe.sl0 (DLeL.cons DLe.sl0 (DLeL.cons DLe.sl0 DLeL.nil))))))] <|
.call (@F_r14_Valid_ok a0) fun rv1 cv1 =>
.reg 1 [] [(1, hc cv1 [] true)] [.cl 0 cv1 [] 2 true] <|
.ite (!rv1) (
.reg 2 [] [(0, hv (AV.d (TApiBook.e (⟨[], [], [], []⟩ : TApiBook))))] [.pf (p := LeV (AV.d (DV.agg [(DV.sl 0 fun _ => DV.b false), (DV.sl 0 fun _ => DV.b false), (DV.sl 0 fun _ => DV.b false), (DV.sl 0 fun _ => DV.b false)])) (AV.d (TApiBook.e (⟨[], [], [], []⟩ : TApiBook)))) (leV_dle rfl (DLe.agg (DLeL.cons DLe.sl0 (DLeL.cons DLe.sl0 (DLeL.cons DLe.sl0 (DLeL.cons DLe.sl0 DLeL.nil))))))] <|
.ret [] ((⟨[], [], [], []⟩ : TApiBook), 1)) (
.ite (bif (decide (a1 < 1)) then true else (decide (a1 > (a0.Reservations.length : Int)))) (
.reg 4 [] [(0, hv (AV.d (TApiBook.e (⟨[], [], [], []⟩ : TApiBook))))] [.pf (p := LeV (AV.d (DV.agg [(DV.sl 0 fun _ => DV.b false), (DV.sl 0 fun _ => DV.b false), (DV.sl 0 fun _ => DV.b false), (DV.sl 0 fun _ => DV.b false)])) (AV.d (TApiBook.e (⟨[], [], [], []⟩ : TApiBook)))) (leV_dle rfl (DLe.agg (DLeL.cons DLe.sl0 (DLeL.cons DLe.sl0 (DLeL.cons DLe.sl0 (DLeL.cons DLe.sl0 DLeL.nil))))))] <|
.ret [] ((⟨[], [], [], []⟩ : TApiBook), 6)) (
.call (@F_r14_amount_ok a2) fun rv2 cv2 =>
.reg 5 [] [(1, hc cv2 [] true)] [.cl 0 cv2 [] 2 true] <|
.ite (!rv2) (
.reg 6 [] [(0, hv (AV.d (TApiBook.e (⟨[], [], [], []⟩ : TApiBook))))] [.pf (p := LeV (AV.d (DV.agg [(DV.sl 0 fun _ => DV.b false), (DV.sl 0 fun _ => DV.b false), (DV.sl 0 fun _ => DV.b false), (DV.sl 0 fun _ => DV.b false)])) (AV.d (TApiBook.e (⟨[], [], [], []⟩ : TApiBook)))) (leV_dle rfl (DLe.agg (DLeL.cons DLe.sl0 (DLeL.cons DLe.sl0 (DLeL.cons DLe.sl0 (DLeL.cons DLe.sl0 DLeL.nil))))))] <|
.ret [] ((⟨[], [], [], []⟩ : TApiBook), 2)) (
.call (@F_r14_Left_ok a0 a1) fun rv3 cv3 =>
.reg 7 [] [(3, hc cv3 [] true)] [.cl 0 cv3 [] 2 true] <|
.ite (decide (a2 > rv3)) (
.reg 8 [] [(0, hv (AV.d (TApiBook.e (⟨[], [], [], []⟩ : TApiBook))))] [.pf (p := LeV (AV.d (DV.agg [(DV.sl 0 fun _ => DV.b false), (DV.sl 0 fun _ => DV.b false), (DV.sl 0 fun _ => DV.b false), (DV.sl 0 fun _ => DV.b false)])) (AV.d (TApiBook.e (⟨[], [], [], []⟩ : TApiBook)))) (leV_dle rfl (DLe.agg (DLeL.cons DLe.sl0 (DLeL.cons DLe.sl0 (DLeL.cons DLe.sl0 (DLeL.cons DLe.sl0 DLeL.nil))))))] <|
.ret [] ((⟨[], [], [], []⟩ : TApiBook), 15)) (
.call (@F_r14_copied_rw_ok a0) fun rv4 cv4 =>
.reg 9 [] [(1, hc cv4 [] false), (2, { obs := [(8, (bx (TApiBook.e (⟨[], [], [], []⟩ : TApiBook))))] })] [.cl 0 cv4 [] 2 false, .pf (p := OLe (bx (DV.agg [(DV.sl 0 fun _ => DV.b false), (DV.sl 0 fun _ => DV.b false), (DV.sl 0 fun _ => DV.b false), (DV.sl 0 fun _ => DV.b false)])) (bx (TApiBook.e (⟨[], [], [], []⟩ : TApiBook)))) (oLe_box (DLe.agg (DLeL.cons DLe.sl0 (DLeL.cons DLe.sl0 (DLeL.cons DLe.sl0 (DLeL.cons DLe.sl0 DLeL.nil))))))] <|
.kill 3 <|
.guard [rv4.2.1.length < 2 ^ 63] <|
.frz 5 (.ev 0) none [] [8] <|
.guard [rv4.2.2.1.length < 2 ^ 63] <|
.frz 6 (.ev 0) none [] [8] <|
.guard [rv4.2.2.2.length < 2 ^ 63] <|
.frz 7 (.ev 0) none [] [8] <|
.guard [(0 : Int) ≤ (IntKind.i64.wrap (a1 - 1)), ((IntKind.i64.wrap (a1 - 1))).toNat < rv4.1.length, (0 + ((IntKind.i64.wrap (a1 - 1))).toNat) < rv4.1.length] <|
.reg 10 [] [(11, { obs := [(4, (eS 6 TApiReservation.e (rv4.1.set (0 + ((IntKind.i64.wrap (a1 - 1))).toNat) (⟨(rv4.1.getD (0 + ((IntKind.i64.wrap (a1 - 1))).toNat) default).Number, (rv4.1.getD (0 + ((IntKind.i64.wrap (a1 - 1))).toNat) default).Code, (rv4.1.getD (0 + ((IntKind.i64.wrap (a1 - 1))).toNat) default).Year, (rv4.1.getD (0 + ((IntKind.i64.wrap (a1 - 1))).toNat) default).Day, (rv4.1.getD (0 + ((IntKind.i64.wrap (a1 - 1))).toNat) default).Amount, (IntKind.i64.wrap (((rv4.1.getD (0 + ((IntKind.i64.wrap (a1 - 1))).toNat) default).Released) + a2))⟩ : TApiReservation))))] })] [.pf (Eq.refl rv4.1.length), .ev 0, .ev 1, .pf (Eq.refl rv4.1.length), .pf (Eq.refl rv4.1.length), .ev 2, .pf (Eq.refl rv4.1.length), .ev 0, .ev 1, .pf (Eq.refl rv4.1.length), .pf (Eq.refl rv4.1.length), .ev 2, .pf (oLe_set (sz := 6) (e := TApiReservation.e) (l := rv4.1) (i := (0 + ((IntKind.i64.wrap (a1 - 1))).toNat)) (x := (⟨(rv4.1.getD (0 + ((IntKind.i64.wrap (a1 - 1))).toNat) default).Number, (rv4.1.getD (0 + ((IntKind.i64.wrap (a1 - 1))).toNat) default).Code, (rv4.1.getD (0 + ((IntKind.i64.wrap (a1 - 1))).toNat) default).Year, (rv4.1.getD (0 + ((IntKind.i64.wrap (a1 - 1))).toNat) default).Day, (rv4.1.getD (0 + ((IntKind.i64.wrap (a1 - 1))).toNat) default).Amount, (IntKind.i64.wrap (((rv4.1.getD (0 + ((IntKind.i64.wrap (a1 - 1))).toNat) default).Released) + a2))⟩ : TApiReservation)) (fun _ => rfl))] <|
.cst (A := True) (.pf trivial) [(6, (vp 1)), (8, (vp 8))] [(6, (vp 1)), (8, (vp 8))] [(bx (TApiBook.e a0)), (bx (TApiBook.e (⟨[], [], [], []⟩ : TApiBook))), Ob.dead, Ob.dead, (eS 6 TApiReservation.e (rv4.1.set (0 + ((IntKind.i64.wrap (a1 - 1))).toNat) (⟨(rv4.1.getD (0 + ((IntKind.i64.wrap (a1 - 1))).toNat) default).Number, (rv4.1.getD (0 + ((IntKind.i64.wrap (a1 - 1))).toNat) default).Code, (rv4.1.getD (0 + ((IntKind.i64.wrap (a1 - 1))).toNat) default).Year, (rv4.1.getD (0 + ((IntKind.i64.wrap (a1 - 1))).toNat) default).Day, (rv4.1.getD (0 + ((IntKind.i64.wrap (a1 - 1))).toNat) default).Amount, (IntKind.i64.wrap (((rv4.1.getD (0 + ((IntKind.i64.wrap (a1 - 1))).toNat) default).Released) + a2))⟩ : TApiReservation))), Ob.dead, Ob.dead, Ob.dead, (Ob.box (AV.agg [(AV.ref 4 rv4.1.length 0 rv4.1.length), (AV.d (eL TApiCommitment.e rv4.2.1)), (AV.d (eL TApiVerification.e rv4.2.2.1)), (AV.d (eL TApiOrder.e rv4.2.2.2))]))] [(bx (TApiBook.e a0)), (bx (TApiBook.e (⟨[], [], [], []⟩ : TApiBook))), Ob.dead, Ob.dead, (eS 6 TApiReservation.e (rv4.1.set (0 + ((IntKind.i64.wrap (a1 - 1))).toNat) (⟨(rv4.1.getD (0 + ((IntKind.i64.wrap (a1 - 1))).toNat) default).Number, (rv4.1.getD (0 + ((IntKind.i64.wrap (a1 - 1))).toNat) default).Code, (rv4.1.getD (0 + ((IntKind.i64.wrap (a1 - 1))).toNat) default).Year, (rv4.1.getD (0 + ((IntKind.i64.wrap (a1 - 1))).toNat) default).Day, (rv4.1.getD (0 + ((IntKind.i64.wrap (a1 - 1))).toNat) default).Amount, (IntKind.i64.wrap (((rv4.1.getD (0 + ((IntKind.i64.wrap (a1 - 1))).toNat) default).Released) + a2))⟩ : TApiReservation))), Ob.dead, Ob.dead, Ob.dead, (Ob.box (AV.agg [(AV.ref 4 ((rv4.1.set (0 + ((IntKind.i64.wrap (a1 - 1))).toNat) (⟨(rv4.1.getD (0 + ((IntKind.i64.wrap (a1 - 1))).toNat) default).Number, (rv4.1.getD (0 + ((IntKind.i64.wrap (a1 - 1))).toNat) default).Code, (rv4.1.getD (0 + ((IntKind.i64.wrap (a1 - 1))).toNat) default).Year, (rv4.1.getD (0 + ((IntKind.i64.wrap (a1 - 1))).toNat) default).Day, (rv4.1.getD (0 + ((IntKind.i64.wrap (a1 - 1))).toNat) default).Amount, (IntKind.i64.wrap (((rv4.1.getD (0 + ((IntKind.i64.wrap (a1 - 1))).toNat) default).Released) + a2))⟩ : TApiReservation)).length) 0 ((rv4.1.set (0 + ((IntKind.i64.wrap (a1 - 1))).toNat) (⟨(rv4.1.getD (0 + ((IntKind.i64.wrap (a1 - 1))).toNat) default).Number, (rv4.1.getD (0 + ((IntKind.i64.wrap (a1 - 1))).toNat) default).Code, (rv4.1.getD (0 + ((IntKind.i64.wrap (a1 - 1))).toNat) default).Year, (rv4.1.getD (0 + ((IntKind.i64.wrap (a1 - 1))).toNat) default).Day, (rv4.1.getD (0 + ((IntKind.i64.wrap (a1 - 1))).toNat) default).Amount, (IntKind.i64.wrap (((rv4.1.getD (0 + ((IntKind.i64.wrap (a1 - 1))).toNat) default).Released) + a2))⟩ : TApiReservation)).length)), (AV.d (eL TApiCommitment.e rv4.2.1)), (AV.d (eL TApiVerification.e rv4.2.2.1)), (AV.d (eL TApiOrder.e rv4.2.2.2))]))] (fun _ => ⟨by simp only, by simp only [List.length_set]⟩) <|
.guard [(rv4.1.set (0 + ((IntKind.i64.wrap (a1 - 1))).toNat) (⟨(rv4.1.getD (0 + ((IntKind.i64.wrap (a1 - 1))).toNat) default).Number, (rv4.1.getD (0 + ((IntKind.i64.wrap (a1 - 1))).toNat) default).Code, (rv4.1.getD (0 + ((IntKind.i64.wrap (a1 - 1))).toNat) default).Year, (rv4.1.getD (0 + ((IntKind.i64.wrap (a1 - 1))).toNat) default).Day, (rv4.1.getD (0 + ((IntKind.i64.wrap (a1 - 1))).toNat) default).Amount, (IntKind.i64.wrap (((rv4.1.getD (0 + ((IntKind.i64.wrap (a1 - 1))).toNat) default).Released) + a2))⟩ : TApiReservation)).length < 2 ^ 63] <|
.reg 11 [] [] [] <|
.frz 4 (.ev 0) none [] [1, 8] <|
.ret [] ((⟨(rv4.1.set (0 + ((IntKind.i64.wrap (a1 - 1))).toNat) (⟨(rv4.1.getD (0 + ((IntKind.i64.wrap (a1 - 1))).toNat) default).Number, (rv4.1.getD (0 + ((IntKind.i64.wrap (a1 - 1))).toNat) default).Code, (rv4.1.getD (0 + ((IntKind.i64.wrap (a1 - 1))).toNat) default).Year, (rv4.1.getD (0 + ((IntKind.i64.wrap (a1 - 1))).toNat) default).Day, (rv4.1.getD (0 + ((IntKind.i64.wrap (a1 - 1))).toNat) default).Amount, (IntKind.i64.wrap (((rv4.1.getD (0 + ((IntKind.i64.wrap (a1 - 1))).toNat) default).Released) + a2))⟩ : TApiReservation)), rv4.2.1, rv4.2.2.1, rv4.2.2.2⟩ : TApiBook), 0)))))

noncomputable def F_r14_Release (a0 : TApiBook) (a1 : Int) (a2 : Int) : Option R_r14_Release := (S_r14_Release a0 a1 a2).den
set_option maxRecDepth 100000 in
theorem F_r14_Release_ok {a0 : TApiBook} {a1 : Int} {a2 : Int} (r : R_r14_Release) (h : F_r14_Release a0 a1 a2 = some r) : CallOk Tryz.prog 53 [(AV.d (TApiBook.e a0)), (vi a1), (vi a2)] [] (V_r14_Release r) (L_r14_Release r) := fOk (s := S_r14_Release a0 a1 a2) Tryz.func53 rfl (by kernel_rfl) h

/-! 54 -/
abbrev R_r14_Drop := TApiBook × Int
def V_r14_Drop (x : R_r14_Drop) : AV := (AV.tup [(AV.d (TApiBook.e x.1)), (vi x.2)])
def L_r14_Drop (_ : R_r14_Drop) : List Ob := []
noncomputable def S_r14_Drop (a0 : TApiBook) (a1 : Int) (a2 : Int) : Scr Tryz.prog R_r14_Drop R_r14_Drop :=
.reg 0 [] [(1, { obs := [(1, (bx (TApiBook.e (⟨[], [], [], []⟩ : TApiBook))))] })] [.pf (p := OLe (bx (DV.agg [(DV.sl 0 fun _ => DV.b false), (DV.sl 0 fun _ => DV.b false), (DV.sl 0 fun _ => DV.b false), (DV.sl 0 fun _ => DV.b false)])) (bx (TApiBook.e (⟨[], [], [], []⟩ : TApiBook)))) (oLe_box (DLe.agg (DLeL.cons DLe.sl0 (DLeL.cons DLe.sl0 (DLeL.cons DLe.sl0 (DLeL.cons DLe.sl0 DLeL.nil))))))] <|
.call (@F_r14_Valid_ok a0) fun rv1 cv1 =>
.reg 1 [] [(1, hc cv1 [] true)] [.cl 0 cv1 [] 2 true] <|
.ite (!rv1) (
.reg 2 [] [(0, hv (AV.d (TApiBook.e (⟨[], [], [], []⟩ : TApiBook))))] [.pf (p := LeV (AV.d (DV.agg [(DV.sl 0 fun _ => DV.b false), (DV.sl 0 fun _ => DV.b false), (DV.sl 0 fun _ => DV.b false), (DV.sl 0 fun _ => DV.b false)])) (AV.d (TApiBook.e (⟨[], [], [], []⟩ : TApiBook)))) (leV_dle rfl (DLe.agg (DLeL.cons DLe.sl0 (DLeL.cons DLe.sl0 (DLeL.cons DLe.sl0 (DLeL.cons DLe.sl0 DLeL.nil))))))] <|
.ret [] ((⟨[], [], [], []⟩ : TApiBook), 1)) (
.ite (bif (decide (a1 < 1)) then true else (decide (a1 > (a0.Commitments.length : Int)))) (
.reg 4 [] [(0, hv (AV.d (TApiBook.e (⟨[], [], [], []⟩ : TApiBook))))] [.pf (p := LeV (AV.d (DV.agg [(DV.sl 0 fun _ => DV.b false), (DV.sl 0 fun _ => DV.b false), (DV.sl 0 fun _ => DV.b false), (DV.sl 0 fun _ => DV.b false)])) (AV.d (TApiBook.e (⟨[], [], [], []⟩ : TApiBook)))) (leV_dle rfl (DLe.agg (DLeL.cons DLe.sl0 (DLeL.cons DLe.sl0 (DLeL.cons DLe.sl0 (DLeL.cons DLe.sl0 DLeL.nil))))))] <|
.ret [] ((⟨[], [], [], []⟩ : TApiBook), 6)) (
.call (@F_r14_amount_ok a2) fun rv2 cv2 =>
.reg 5 [] [(1, hc cv2 [] true)] [.cl 0 cv2 [] 2 true] <|
.ite (!rv2) (
.reg 6 [] [(0, hv (AV.d (TApiBook.e (⟨[], [], [], []⟩ : TApiBook))))] [.pf (p := LeV (AV.d (DV.agg [(DV.sl 0 fun _ => DV.b false), (DV.sl 0 fun _ => DV.b false), (DV.sl 0 fun _ => DV.b false), (DV.sl 0 fun _ => DV.b false)])) (AV.d (TApiBook.e (⟨[], [], [], []⟩ : TApiBook)))) (leV_dle rfl (DLe.agg (DLeL.cons DLe.sl0 (DLeL.cons DLe.sl0 (DLeL.cons DLe.sl0 (DLeL.cons DLe.sl0 DLeL.nil))))))] <|
.ret [] ((⟨[], [], [], []⟩ : TApiBook), 2)) (
.call (@F_r14_rest_ok a0 (a0.Commitments.getD (((IntKind.i64.wrap (a1 - 1))).toNat) default)) fun rv3 cv3 =>
.guard [(0 : Int) ≤ (IntKind.i64.wrap (a1 - 1)), ((IntKind.i64.wrap (a1 - 1))).toNat < a0.Commitments.length] <|
.reg 7 [] [(8, hc cv3 [] true)] [.ev 0, .ev 1, .cl 2 cv3 [] 2 true] <|
.ite (decide (a2 > rv3)) (
.reg 8 [] [(0, hv (AV.d (TApiBook.e (⟨[], [], [], []⟩ : TApiBook))))] [.pf (p := LeV (AV.d (DV.agg [(DV.sl 0 fun _ => DV.b false), (DV.sl 0 fun _ => DV.b false), (DV.sl 0 fun _ => DV.b false), (DV.sl 0 fun _ => DV.b false)])) (AV.d (TApiBook.e (⟨[], [], [], []⟩ : TApiBook)))) (leV_dle rfl (DLe.agg (DLeL.cons DLe.sl0 (DLeL.cons DLe.sl0 (DLeL.cons DLe.sl0 (DLeL.cons DLe.sl0 DLeL.nil))))))] <|
.ret [] ((⟨[], [], [], []⟩ : TApiBook), 15)) (
.call (@F_r14_copied_rw_ok a0) fun rv4 cv4 =>
.reg 9 [] [(1, hc cv4 [] false), (2, { obs := [(8, (bx (TApiBook.e (⟨[], [], [], []⟩ : TApiBook))))] })] [.cl 0 cv4 [] 2 false, .pf (p := OLe (bx (DV.agg [(DV.sl 0 fun _ => DV.b false), (DV.sl 0 fun _ => DV.b false), (DV.sl 0 fun _ => DV.b false), (DV.sl 0 fun _ => DV.b false)])) (bx (TApiBook.e (⟨[], [], [], []⟩ : TApiBook)))) (oLe_box (DLe.agg (DLeL.cons DLe.sl0 (DLeL.cons DLe.sl0 (DLeL.cons DLe.sl0 (DLeL.cons DLe.sl0 DLeL.nil))))))] <|
.kill 3 <|
.guard [rv4.1.length < 2 ^ 63] <|
.frz 4 (.ev 0) none [] [8] <|
.guard [rv4.2.2.1.length < 2 ^ 63] <|
.frz 6 (.ev 0) none [] [8] <|
.guard [rv4.2.2.2.length < 2 ^ 63] <|
.frz 7 (.ev 0) none [] [8] <|
.guard [((IntKind.i64.wrap (a1 - 1))).toNat < rv4.2.1.length, (0 + ((IntKind.i64.wrap (a1 - 1))).toNat) < rv4.2.1.length] <|
.reg 10 [] [(11, { obs := [(5, (eS 7 TApiCommitment.e (rv4.2.1.set (0 + ((IntKind.i64.wrap (a1 - 1))).toNat) (⟨(rv4.2.1.getD (0 + ((IntKind.i64.wrap (a1 - 1))).toNat) default).Number, (rv4.2.1.getD (0 + ((IntKind.i64.wrap (a1 - 1))).toNat) default).Reservation, (rv4.2.1.getD (0 + ((IntKind.i64.wrap (a1 - 1))).toNat) default).Day, (rv4.2.1.getD (0 + ((IntKind.i64.wrap (a1 - 1))).toNat) default).Amount, (IntKind.i64.wrap (((rv4.2.1.getD (0 + ((IntKind.i64.wrap (a1 - 1))).toNat) default).Released) + a2)), (rv4.2.1.getD (0 + ((IntKind.i64.wrap (a1 - 1))).toNat) default).Payee, (rv4.2.1.getD (0 + ((IntKind.i64.wrap (a1 - 1))).toNat) default).Due⟩ : TApiCommitment))))] })] [.pf (Eq.refl rv4.2.1.length), .ev 7, .ev 0, .pf (Eq.refl rv4.2.1.length), .pf (Eq.refl rv4.2.1.length), .ev 1, .pf (Eq.refl rv4.2.1.length), .ev 7, .ev 0, .pf (Eq.refl rv4.2.1.length), .pf (Eq.refl rv4.2.1.length), .ev 1, .pf (oLe_set (sz := 7) (e := TApiCommitment.e) (l := rv4.2.1) (i := (0 + ((IntKind.i64.wrap (a1 - 1))).toNat)) (x := (⟨(rv4.2.1.getD (0 + ((IntKind.i64.wrap (a1 - 1))).toNat) default).Number, (rv4.2.1.getD (0 + ((IntKind.i64.wrap (a1 - 1))).toNat) default).Reservation, (rv4.2.1.getD (0 + ((IntKind.i64.wrap (a1 - 1))).toNat) default).Day, (rv4.2.1.getD (0 + ((IntKind.i64.wrap (a1 - 1))).toNat) default).Amount, (IntKind.i64.wrap (((rv4.2.1.getD (0 + ((IntKind.i64.wrap (a1 - 1))).toNat) default).Released) + a2)), (rv4.2.1.getD (0 + ((IntKind.i64.wrap (a1 - 1))).toNat) default).Payee, (rv4.2.1.getD (0 + ((IntKind.i64.wrap (a1 - 1))).toNat) default).Due⟩ : TApiCommitment)) (fun _ => rfl))] <|
.cst (A := True) (.pf trivial) [(6, (vp 1)), (8, (vp 8))] [(6, (vp 1)), (8, (vp 8))] [(bx (TApiBook.e a0)), (bx (TApiBook.e (⟨[], [], [], []⟩ : TApiBook))), Ob.dead, Ob.dead, Ob.dead, (eS 7 TApiCommitment.e (rv4.2.1.set (0 + ((IntKind.i64.wrap (a1 - 1))).toNat) (⟨(rv4.2.1.getD (0 + ((IntKind.i64.wrap (a1 - 1))).toNat) default).Number, (rv4.2.1.getD (0 + ((IntKind.i64.wrap (a1 - 1))).toNat) default).Reservation, (rv4.2.1.getD (0 + ((IntKind.i64.wrap (a1 - 1))).toNat) default).Day, (rv4.2.1.getD (0 + ((IntKind.i64.wrap (a1 - 1))).toNat) default).Amount, (IntKind.i64.wrap (((rv4.2.1.getD (0 + ((IntKind.i64.wrap (a1 - 1))).toNat) default).Released) + a2)), (rv4.2.1.getD (0 + ((IntKind.i64.wrap (a1 - 1))).toNat) default).Payee, (rv4.2.1.getD (0 + ((IntKind.i64.wrap (a1 - 1))).toNat) default).Due⟩ : TApiCommitment))), Ob.dead, Ob.dead, (Ob.box (AV.agg [(AV.d (eL TApiReservation.e rv4.1)), (AV.ref 5 rv4.2.1.length 0 rv4.2.1.length), (AV.d (eL TApiVerification.e rv4.2.2.1)), (AV.d (eL TApiOrder.e rv4.2.2.2))]))] [(bx (TApiBook.e a0)), (bx (TApiBook.e (⟨[], [], [], []⟩ : TApiBook))), Ob.dead, Ob.dead, Ob.dead, (eS 7 TApiCommitment.e (rv4.2.1.set (0 + ((IntKind.i64.wrap (a1 - 1))).toNat) (⟨(rv4.2.1.getD (0 + ((IntKind.i64.wrap (a1 - 1))).toNat) default).Number, (rv4.2.1.getD (0 + ((IntKind.i64.wrap (a1 - 1))).toNat) default).Reservation, (rv4.2.1.getD (0 + ((IntKind.i64.wrap (a1 - 1))).toNat) default).Day, (rv4.2.1.getD (0 + ((IntKind.i64.wrap (a1 - 1))).toNat) default).Amount, (IntKind.i64.wrap (((rv4.2.1.getD (0 + ((IntKind.i64.wrap (a1 - 1))).toNat) default).Released) + a2)), (rv4.2.1.getD (0 + ((IntKind.i64.wrap (a1 - 1))).toNat) default).Payee, (rv4.2.1.getD (0 + ((IntKind.i64.wrap (a1 - 1))).toNat) default).Due⟩ : TApiCommitment))), Ob.dead, Ob.dead, (Ob.box (AV.agg [(AV.d (eL TApiReservation.e rv4.1)), (AV.ref 5 ((rv4.2.1.set (0 + ((IntKind.i64.wrap (a1 - 1))).toNat) (⟨(rv4.2.1.getD (0 + ((IntKind.i64.wrap (a1 - 1))).toNat) default).Number, (rv4.2.1.getD (0 + ((IntKind.i64.wrap (a1 - 1))).toNat) default).Reservation, (rv4.2.1.getD (0 + ((IntKind.i64.wrap (a1 - 1))).toNat) default).Day, (rv4.2.1.getD (0 + ((IntKind.i64.wrap (a1 - 1))).toNat) default).Amount, (IntKind.i64.wrap (((rv4.2.1.getD (0 + ((IntKind.i64.wrap (a1 - 1))).toNat) default).Released) + a2)), (rv4.2.1.getD (0 + ((IntKind.i64.wrap (a1 - 1))).toNat) default).Payee, (rv4.2.1.getD (0 + ((IntKind.i64.wrap (a1 - 1))).toNat) default).Due⟩ : TApiCommitment)).length) 0 ((rv4.2.1.set (0 + ((IntKind.i64.wrap (a1 - 1))).toNat) (⟨(rv4.2.1.getD (0 + ((IntKind.i64.wrap (a1 - 1))).toNat) default).Number, (rv4.2.1.getD (0 + ((IntKind.i64.wrap (a1 - 1))).toNat) default).Reservation, (rv4.2.1.getD (0 + ((IntKind.i64.wrap (a1 - 1))).toNat) default).Day, (rv4.2.1.getD (0 + ((IntKind.i64.wrap (a1 - 1))).toNat) default).Amount, (IntKind.i64.wrap (((rv4.2.1.getD (0 + ((IntKind.i64.wrap (a1 - 1))).toNat) default).Released) + a2)), (rv4.2.1.getD (0 + ((IntKind.i64.wrap (a1 - 1))).toNat) default).Payee, (rv4.2.1.getD (0 + ((IntKind.i64.wrap (a1 - 1))).toNat) default).Due⟩ : TApiCommitment)).length)), (AV.d (eL TApiVerification.e rv4.2.2.1)), (AV.d (eL TApiOrder.e rv4.2.2.2))]))] (fun _ => ⟨by simp only, by simp only [List.length_set]⟩) <|
.guard [(rv4.2.1.set (0 + ((IntKind.i64.wrap (a1 - 1))).toNat) (⟨(rv4.2.1.getD (0 + ((IntKind.i64.wrap (a1 - 1))).toNat) default).Number, (rv4.2.1.getD (0 + ((IntKind.i64.wrap (a1 - 1))).toNat) default).Reservation, (rv4.2.1.getD (0 + ((IntKind.i64.wrap (a1 - 1))).toNat) default).Day, (rv4.2.1.getD (0 + ((IntKind.i64.wrap (a1 - 1))).toNat) default).Amount, (IntKind.i64.wrap (((rv4.2.1.getD (0 + ((IntKind.i64.wrap (a1 - 1))).toNat) default).Released) + a2)), (rv4.2.1.getD (0 + ((IntKind.i64.wrap (a1 - 1))).toNat) default).Payee, (rv4.2.1.getD (0 + ((IntKind.i64.wrap (a1 - 1))).toNat) default).Due⟩ : TApiCommitment)).length < 2 ^ 63] <|
.reg 11 [] [] [] <|
.frz 5 (.ev 0) none [] [1, 8] <|
.ret [] ((⟨rv4.1, (rv4.2.1.set (0 + ((IntKind.i64.wrap (a1 - 1))).toNat) (⟨(rv4.2.1.getD (0 + ((IntKind.i64.wrap (a1 - 1))).toNat) default).Number, (rv4.2.1.getD (0 + ((IntKind.i64.wrap (a1 - 1))).toNat) default).Reservation, (rv4.2.1.getD (0 + ((IntKind.i64.wrap (a1 - 1))).toNat) default).Day, (rv4.2.1.getD (0 + ((IntKind.i64.wrap (a1 - 1))).toNat) default).Amount, (IntKind.i64.wrap (((rv4.2.1.getD (0 + ((IntKind.i64.wrap (a1 - 1))).toNat) default).Released) + a2)), (rv4.2.1.getD (0 + ((IntKind.i64.wrap (a1 - 1))).toNat) default).Payee, (rv4.2.1.getD (0 + ((IntKind.i64.wrap (a1 - 1))).toNat) default).Due⟩ : TApiCommitment)), rv4.2.2.1, rv4.2.2.2⟩ : TApiBook), 0)))))

noncomputable def F_r14_Drop (a0 : TApiBook) (a1 : Int) (a2 : Int) : Option R_r14_Drop := (S_r14_Drop a0 a1 a2).den
set_option maxRecDepth 100000 in
theorem F_r14_Drop_ok {a0 : TApiBook} {a1 : Int} {a2 : Int} (r : R_r14_Drop) (h : F_r14_Drop a0 a1 a2 = some r) : CallOk Tryz.prog 54 [(AV.d (TApiBook.e a0)), (vi a1), (vi a2)] [] (V_r14_Drop r) (L_r14_Drop r) := fOk (s := S_r14_Drop a0 a1 a2) Tryz.func54 rfl (by kernel_rfl) h

/-! 55 -/
abbrev R_r14_Back := TApiBook × Int
def V_r14_Back (x : R_r14_Back) : AV := (AV.tup [(AV.d (TApiBook.e x.1)), (vi x.2)])
def L_r14_Back (_ : R_r14_Back) : List Ob := []
noncomputable def S_r14_Back (a0 : TApiBook) (a1 : Int) : Scr Tryz.prog R_r14_Back R_r14_Back :=
.reg 0 [] [(1, { obs := [(1, (bx (TApiBook.e (⟨[], [], [], []⟩ : TApiBook))))] })] [.pf (p := OLe (bx (DV.agg [(DV.sl 0 fun _ => DV.b false), (DV.sl 0 fun _ => DV.b false), (DV.sl 0 fun _ => DV.b false), (DV.sl 0 fun _ => DV.b false)])) (bx (TApiBook.e (⟨[], [], [], []⟩ : TApiBook)))) (oLe_box (DLe.agg (DLeL.cons DLe.sl0 (DLeL.cons DLe.sl0 (DLeL.cons DLe.sl0 (DLeL.cons DLe.sl0 DLeL.nil))))))] <|
.call (@F_r14_Valid_ok a0) fun rv1 cv1 =>
.reg 1 [] [(1, hc cv1 [] true)] [.cl 0 cv1 [] 2 true] <|
.ite (!rv1) (
.reg 2 [] [(0, hv (AV.d (TApiBook.e (⟨[], [], [], []⟩ : TApiBook))))] [.pf (p := LeV (AV.d (DV.agg [(DV.sl 0 fun _ => DV.b false), (DV.sl 0 fun _ => DV.b false), (DV.sl 0 fun _ => DV.b false), (DV.sl 0 fun _ => DV.b false)])) (AV.d (TApiBook.e (⟨[], [], [], []⟩ : TApiBook)))) (leV_dle rfl (DLe.agg (DLeL.cons DLe.sl0 (DLeL.cons DLe.sl0 (DLeL.cons DLe.sl0 (DLeL.cons DLe.sl0 DLeL.nil))))))] <|
.ret [] ((⟨[], [], [], []⟩ : TApiBook), 1)) (
.ite (bif (decide (a1 < 1)) then true else (decide (a1 > (a0.Verifications.length : Int)))) (
.reg 4 [] [(0, hv (AV.d (TApiBook.e (⟨[], [], [], []⟩ : TApiBook))))] [.pf (p := LeV (AV.d (DV.agg [(DV.sl 0 fun _ => DV.b false), (DV.sl 0 fun _ => DV.b false), (DV.sl 0 fun _ => DV.b false), (DV.sl 0 fun _ => DV.b false)])) (AV.d (TApiBook.e (⟨[], [], [], []⟩ : TApiBook)))) (leV_dle rfl (DLe.agg (DLeL.cons DLe.sl0 (DLeL.cons DLe.sl0 (DLeL.cons DLe.sl0 (DLeL.cons DLe.sl0 DLeL.nil))))))] <|
.ret [] ((⟨[], [], [], []⟩ : TApiBook), 6)) (
.call (@F_r14_last_ok a0 a1) fun rv2 cv2 =>
.reg 5 [] [(2, hc cv2 [] true)] [.cl 0 cv2 [] 2 true] <|
.ite (bif (rv2.2 == 0) then true else rv2.1.Back) (
.reg 7 [] [(0, hv (AV.d (TApiBook.e (⟨[], [], [], []⟩ : TApiBook))))] [.pf (p := LeV (AV.d (DV.agg [(DV.sl 0 fun _ => DV.b false), (DV.sl 0 fun _ => DV.b false), (DV.sl 0 fun _ => DV.b false), (DV.sl 0 fun _ => DV.b false)])) (AV.d (TApiBook.e (⟨[], [], [], []⟩ : TApiBook)))) (leV_dle rfl (DLe.agg (DLeL.cons DLe.sl0 (DLeL.cons DLe.sl0 (DLeL.cons DLe.sl0 (DLeL.cons DLe.sl0 DLeL.nil))))))] <|
.ret [] ((⟨[], [], [], []⟩ : TApiBook), 9)) (
.call (@F_r14_copied_rw_ok a0) fun rv3 cv3 =>
.reg 8 [] [(1, hc cv3 [] false), (2, { obs := [(9, (bx (TApiBook.e (⟨[], [], [], []⟩ : TApiBook))))] })] [.cl 0 cv3 [] 3 false, .pf (p := OLe (bx (DV.agg [(DV.sl 0 fun _ => DV.b false), (DV.sl 0 fun _ => DV.b false), (DV.sl 0 fun _ => DV.b false), (DV.sl 0 fun _ => DV.b false)])) (bx (TApiBook.e (⟨[], [], [], []⟩ : TApiBook)))) (oLe_box (DLe.agg (DLeL.cons DLe.sl0 (DLeL.cons DLe.sl0 (DLeL.cons DLe.sl0 (DLeL.cons DLe.sl0 DLeL.nil))))))] <|
.kill 4 <|
.guard [rv3.1.length < 2 ^ 63] <|
.frz 5 (.ev 0) none [] [9] <|
.guard [rv3.2.1.length < 2 ^ 63] <|
.frz 6 (.ev 0) none [] [9] <|
.guard [rv3.2.2.1.length < 2 ^ 63] <|
.frz 7 (.ev 0) none [] [9] <|
.guard [(0 : Int) ≤ (IntKind.i64.wrap (rv2.1.Number - 1)), ((IntKind.i64.wrap (rv2.1.Number - 1))).toNat < rv3.2.2.2.length, (0 + ((IntKind.i64.wrap (rv2.1.Number - 1))).toNat) < rv3.2.2.2.length] <|
.reg 9 [] [(7, { obs := [(8, (eS 5 TApiOrder.e (rv3.2.2.2.set (0 + ((IntKind.i64.wrap (rv2.1.Number - 1))).toNat) (⟨(rv3.2.2.2.getD (0 + ((IntKind.i64.wrap (rv2.1.Number - 1))).toNat) default).Number, (rv3.2.2.2.getD (0 + ((IntKind.i64.wrap (rv2.1.Number - 1))).toNat) default).Verification, (rv3.2.2.2.getD (0 + ((IntKind.i64.wrap (rv2.1.Number - 1))).toNat) default).Attempt, (rv3.2.2.2.getD (0 + ((IntKind.i64.wrap (rv2.1.Number - 1))).toNat) default).Day, true⟩ : TApiOrder))))] })] [.pf (Eq.refl rv3.2.2.2.length), .ev 0, .ev 1, .pf (Eq.refl rv3.2.2.2.length), .pf (Eq.refl rv3.2.2.2.length), .ev 2, .pf (oLe_set (sz := 5) (e := TApiOrder.e) (l := rv3.2.2.2) (i := (0 + ((IntKind.i64.wrap (rv2.1.Number - 1))).toNat)) (x := (⟨(rv3.2.2.2.getD (0 + ((IntKind.i64.wrap (rv2.1.Number - 1))).toNat) default).Number, (rv3.2.2.2.getD (0 + ((IntKind.i64.wrap (rv2.1.Number - 1))).toNat) default).Verification, (rv3.2.2.2.getD (0 + ((IntKind.i64.wrap (rv2.1.Number - 1))).toNat) default).Attempt, (rv3.2.2.2.getD (0 + ((IntKind.i64.wrap (rv2.1.Number - 1))).toNat) default).Day, true⟩ : TApiOrder)) (fun _ => rfl))] <|
.cst (A := True) (.pf trivial) [(4, (vp 1)), (8, (vp 9))] [(4, (vp 1)), (8, (vp 9))] [(bx (TApiBook.e a0)), (bx (TApiBook.e (⟨[], [], [], []⟩ : TApiBook))), (bx (TApiOrder.e rv2.1)), Ob.dead, Ob.dead, Ob.dead, Ob.dead, Ob.dead, (eS 5 TApiOrder.e (rv3.2.2.2.set (0 + ((IntKind.i64.wrap (rv2.1.Number - 1))).toNat) (⟨(rv3.2.2.2.getD (0 + ((IntKind.i64.wrap (rv2.1.Number - 1))).toNat) default).Number, (rv3.2.2.2.getD (0 + ((IntKind.i64.wrap (rv2.1.Number - 1))).toNat) default).Verification, (rv3.2.2.2.getD (0 + ((IntKind.i64.wrap (rv2.1.Number - 1))).toNat) default).Attempt, (rv3.2.2.2.getD (0 + ((IntKind.i64.wrap (rv2.1.Number - 1))).toNat) default).Day, true⟩ : TApiOrder))), (Ob.box (AV.agg [(AV.d (eL TApiReservation.e rv3.1)), (AV.d (eL TApiCommitment.e rv3.2.1)), (AV.d (eL TApiVerification.e rv3.2.2.1)), (AV.ref 8 rv3.2.2.2.length 0 rv3.2.2.2.length)]))] [(bx (TApiBook.e a0)), (bx (TApiBook.e (⟨[], [], [], []⟩ : TApiBook))), (bx (TApiOrder.e rv2.1)), Ob.dead, Ob.dead, Ob.dead, Ob.dead, Ob.dead, (eS 5 TApiOrder.e (rv3.2.2.2.set (0 + ((IntKind.i64.wrap (rv2.1.Number - 1))).toNat) (⟨(rv3.2.2.2.getD (0 + ((IntKind.i64.wrap (rv2.1.Number - 1))).toNat) default).Number, (rv3.2.2.2.getD (0 + ((IntKind.i64.wrap (rv2.1.Number - 1))).toNat) default).Verification, (rv3.2.2.2.getD (0 + ((IntKind.i64.wrap (rv2.1.Number - 1))).toNat) default).Attempt, (rv3.2.2.2.getD (0 + ((IntKind.i64.wrap (rv2.1.Number - 1))).toNat) default).Day, true⟩ : TApiOrder))), (Ob.box (AV.agg [(AV.d (eL TApiReservation.e rv3.1)), (AV.d (eL TApiCommitment.e rv3.2.1)), (AV.d (eL TApiVerification.e rv3.2.2.1)), (AV.ref 8 ((rv3.2.2.2.set (0 + ((IntKind.i64.wrap (rv2.1.Number - 1))).toNat) (⟨(rv3.2.2.2.getD (0 + ((IntKind.i64.wrap (rv2.1.Number - 1))).toNat) default).Number, (rv3.2.2.2.getD (0 + ((IntKind.i64.wrap (rv2.1.Number - 1))).toNat) default).Verification, (rv3.2.2.2.getD (0 + ((IntKind.i64.wrap (rv2.1.Number - 1))).toNat) default).Attempt, (rv3.2.2.2.getD (0 + ((IntKind.i64.wrap (rv2.1.Number - 1))).toNat) default).Day, true⟩ : TApiOrder)).length) 0 ((rv3.2.2.2.set (0 + ((IntKind.i64.wrap (rv2.1.Number - 1))).toNat) (⟨(rv3.2.2.2.getD (0 + ((IntKind.i64.wrap (rv2.1.Number - 1))).toNat) default).Number, (rv3.2.2.2.getD (0 + ((IntKind.i64.wrap (rv2.1.Number - 1))).toNat) default).Verification, (rv3.2.2.2.getD (0 + ((IntKind.i64.wrap (rv2.1.Number - 1))).toNat) default).Attempt, (rv3.2.2.2.getD (0 + ((IntKind.i64.wrap (rv2.1.Number - 1))).toNat) default).Day, true⟩ : TApiOrder)).length))]))] (fun _ => ⟨by simp only, by simp only [List.length_set]⟩) <|
.guard [(rv3.2.2.2.set (0 + ((IntKind.i64.wrap (rv2.1.Number - 1))).toNat) (⟨(rv3.2.2.2.getD (0 + ((IntKind.i64.wrap (rv2.1.Number - 1))).toNat) default).Number, (rv3.2.2.2.getD (0 + ((IntKind.i64.wrap (rv2.1.Number - 1))).toNat) default).Verification, (rv3.2.2.2.getD (0 + ((IntKind.i64.wrap (rv2.1.Number - 1))).toNat) default).Attempt, (rv3.2.2.2.getD (0 + ((IntKind.i64.wrap (rv2.1.Number - 1))).toNat) default).Day, true⟩ : TApiOrder)).length < 2 ^ 63] <|
.reg 10 [] [] [] <|
.frz 8 (.ev 0) none [] [1, 9] <|
.ret [] ((⟨rv3.1, rv3.2.1, rv3.2.2.1, (rv3.2.2.2.set (0 + ((IntKind.i64.wrap (rv2.1.Number - 1))).toNat) (⟨(rv3.2.2.2.getD (0 + ((IntKind.i64.wrap (rv2.1.Number - 1))).toNat) default).Number, (rv3.2.2.2.getD (0 + ((IntKind.i64.wrap (rv2.1.Number - 1))).toNat) default).Verification, (rv3.2.2.2.getD (0 + ((IntKind.i64.wrap (rv2.1.Number - 1))).toNat) default).Attempt, (rv3.2.2.2.getD (0 + ((IntKind.i64.wrap (rv2.1.Number - 1))).toNat) default).Day, true⟩ : TApiOrder))⟩ : TApiBook), 0))))

noncomputable def F_r14_Back (a0 : TApiBook) (a1 : Int) : Option R_r14_Back := (S_r14_Back a0 a1).den
set_option maxRecDepth 100000 in
theorem F_r14_Back_ok {a0 : TApiBook} {a1 : Int} (r : R_r14_Back) (h : F_r14_Back a0 a1 = some r) : CallOk Tryz.prog 55 [(AV.d (TApiBook.e a0)), (vi a1)] [] (V_r14_Back r) (L_r14_Back r) := fOk (s := S_r14_Back a0 a1) Tryz.func55 rfl (by kernel_rfl) h

/-! 16 -/
abbrev R_mk_BookStep := TApiBook × TTreasurymakeTape
def V_mk_BookStep (x : R_mk_BookStep) : AV := (AV.d (TApiBook.e x.1))
def L_mk_BookStep (x : R_mk_BookStep) : List Ob := [(bx (TTreasurymakeTape.e x.2))]
noncomputable def S_mk_BookStep (a1 : TApiBook) (a2 : Int) (p0 : TTreasurymakeTape) : Scr Tryz.prog R_mk_BookStep R_mk_BookStep :=
.reg 0 [] [(1, { obs := [(2, (bx (TApiBook.e (⟨[], [], [], []⟩ : TApiBook))))] })] [.pf (p := OLe (bx (DV.agg [(DV.sl 0 fun _ => DV.b false), (DV.sl 0 fun _ => DV.b false), (DV.sl 0 fun _ => DV.b false), (DV.sl 0 fun _ => DV.b false)])) (bx (TApiBook.e (⟨[], [], [], []⟩ : TApiBook)))) (oLe_box (DLe.agg (DLeL.cons DLe.sl0 (DLeL.cons DLe.sl0 (DLeL.cons DLe.sl0 (DLeL.cons DLe.sl0 DLeL.nil))))))] <|
.reg 1 [] [(1, { obs := [(3, (bx (TApiBook.e (⟨[], [], [], []⟩ : TApiBook))))] })] [.pf (p := OLe (bx (DV.agg [(DV.sl 0 fun _ => DV.b false), (DV.sl 0 fun _ => DV.b false), (DV.sl 0 fun _ => DV.b false), (DV.sl 0 fun _ => DV.b false)])) (bx (TApiBook.e (⟨[], [], [], []⟩ : TApiBook)))) (oLe_box (DLe.agg (DLeL.cons DLe.sl0 (DLeL.cons DLe.sl0 (DLeL.cons DLe.sl0 (DLeL.cons DLe.sl0 DLeL.nil))))))] <|
.call (@F_mk_Tape_Range_ok 1 (if (a1.Reservations.length : Int) > 1 then (a1.Reservations.length : Int) else 1) p0) fun rv1 cv1 =>
.call (@F_mk_Tape_Range_ok 1 (if (a1.Commitments.length : Int) > 1 then (a1.Commitments.length : Int) else 1) rv1.2) fun rv2 cv2 =>
.call (@F_mk_Tape_Range_ok 1 (if (a1.Verifications.length : Int) > 1 then (a1.Verifications.length : Int) else 1) rv2.2) fun rv3 cv3 =>
.reg 2 [5, 11, 17] [(5, hc cv1 [0] false), (11, hc cv2 [0] false), (17, hc cv3 [0] false)] [.cl 2 cv1 [0] 4 false, .cl 1 cv2 [0] 4 false, .cl 0 cv3 [0] 4 false] <|
.call (@F_mk_Tape_Pick_ok ([0, 0, 1, 1, 1, 2, 2, 2, 3, 3, 4, 5, 6] : List Int) rv3.2) fun rv4 cv4 =>
.reg 3 [] [(1, hv (vl ([0, 0, 1, 1, 1, 2, 2, 2, 3, 3, 4, 5, 6] : List Int))), (2, hc cv4 [0] false)] [.pf (leV_lit (DV.i .i64) ([0, 0, 1, 1, 1, 2, 2, 2, 3, 3, 4, 5, 6] : List Int)), .cl 0 cv4 [0] 4 false] <|
.cut (some 0) [4, 6, 7] (fun (sv5 : TTreasurymakeTape × TApiBook × Int) => [(8, (vi sv5.2.2))]) (fun (sv5 : TTreasurymakeTape × TApiBook × Int) => [(0, (bx (TTreasurymakeTape.e sv5.1))), (3, (bx (TApiBook.e sv5.2.1)))]) (
.ite (rv4.1 == 0) (
.call (@F_mk_PotCode_ok rv4.2) fun rv6 cv6 =>
.call (@F_mk_Tape_Range_ok 1 500 rv6.2) fun rv7 cv7 =>
.call (@F_mk_Tape_Pick_ok ([100, rv7.1] : List Int) rv7.2) fun rv8 cv8 =>
.call (@F_r14_Reserve_ok a1 rv6.1 (IntKind.i64.wrap (a2.tdiv 360)) a2 rv8.1) fun rv9 cv9 =>
.reg 6 [2, 8, 10, 15] [(2, hc cv6 [0] false), (8, hc cv7 [0] false), (9, hv (vl ([100, rv7.1] : List Int))), (10, hc cv8 [0] false), (11, hc cv9 [] true)] [.cl 3 cv6 [0] 4 false, .pf (p := (360 : Int) ≠ 0) (by decide), .pf (p := (360 : Int) ≠ 0) (by decide), .pf (p := (360 : Int) ≠ 0) (by decide), .pf (p := (360 : Int) ≠ 0) (by decide), .cl 2 cv7 [0] 4 false, .pf (leV_lit (DV.i .i64) ([100, rv7.1] : List Int)), .cl 1 cv8 [0] 4 false, .cl 0 cv9 [] 4 true] <|
.ret [] (.next (rv8.2, rv9.1, rv9.2))) (
.ite (rv4.1 == 1) (
.call (@F_mk_Tape_Range_ok 1 200 rv4.2) fun rv10 cv10 =>
.call (@F_mk_Tape_Pick_ok ([50, rv10.1] : List Int) rv10.2) fun rv11 cv11 =>
.call (@F_mk_Tape_Range_ok 1 5 rv11.2) fun rv12 cv12 =>
.call (@F_mk_Tape_N_ok 90 rv12.2) fun rv13 cv13 =>
.call (@F_r14_Commit_ok a1 rv1.1 a2 rv11.1 rv12.1 (IntKind.i64.wrap (a2 + rv13.1))) fun rv14 cv14 =>
.reg 8 [5, 7, 9, 12, 18] [(5, hc cv10 [0] false), (6, hv (vl ([50, rv10.1] : List Int))), (7, hc cv11 [0] false), (9, hc cv12 [0] false), (12, hc cv13 [0] false), (14, hc cv14 [] true)] [.cl 4 cv10 [0] 4 false, .pf (leV_lit (DV.i .i64) ([50, rv10.1] : List Int)), .cl 3 cv11 [0] 4 false, .cl 2 cv12 [0] 4 false, .cl 1 cv13 [0] 4 false, .cl 0 cv14 [] 4 true] <|
.ret [] (.next (rv13.2, rv14.1, rv14.2))) (
.ite (rv4.1 == 2) (
.call (@F_mk_Tape_Range_ok 1 100 rv4.2) fun rv15 cv15 =>
.call (@F_mk_Tape_Pick_ok ([20, rv15.1] : List Int) rv15.2) fun rv16 cv16 =>
.call (@F_r14_Verify_ok a1 rv2.1 a2 rv16.1) fun rv17 cv17 =>
.reg 10 [5, 7, 12] [(5, hc cv15 [0] false), (6, hv (vl ([20, rv15.1] : List Int))), (7, hc cv16 [0] false), (8, hc cv17 [] true)] [.cl 2 cv15 [0] 4 false, .pf (leV_lit (DV.i .i64) ([20, rv15.1] : List Int)), .cl 1 cv16 [0] 4 false, .cl 0 cv17 [] 4 true] <|
.ret [] (.next (rv16.2, rv17.1, rv17.2))) (
.ite (rv4.1 == 3) (
.call (@F_r14_Order_ok a1 rv3.1 a2) fun rv18 cv18 =>
.reg 12 [] [(3, hc cv18 [] true)] [.cl 0 cv18 [] 4 true] <|
.ret [] (.next (rv4.2, rv18.1, rv18.2))) (
.ite (rv4.1 == 4) (
.call (@F_mk_Tape_Range_ok 1 60 rv4.2) fun rv19 cv19 =>
.call (@F_r14_Release_ok a1 rv1.1 rv19.1) fun rv20 cv20 =>
.reg 14 [3, 8] [(3, hc cv19 [0] false), (4, hc cv20 [] true)] [.cl 1 cv19 [0] 4 false, .cl 0 cv20 [] 4 true] <|
.ret [] (.next (rv19.2, rv20.1, rv20.2))) (
.ite (rv4.1 == 5) (
.call (@F_mk_Tape_Range_ok 1 40 rv4.2) fun rv21 cv21 =>
.call (@F_r14_Drop_ok a1 rv2.1 rv21.1) fun rv22 cv22 =>
.reg 16 [3, 8] [(3, hc cv21 [0] false), (4, hc cv22 [] true)] [.cl 1 cv21 [0] 4 false, .cl 0 cv22 [] 4 true] <|
.ret [] (.next (rv21.2, rv22.1, rv22.2))) (
.call (@F_r14_Back_ok a1 rv3.1) fun rv23 cv23 =>
.reg 4 [] [(2, hc cv23 [] true)] [.cl 0 cv23 [] 4 true] <|
.ret [] (.next (rv4.2, rv23.1, rv23.2))))))))) fun (sv5 : TTreasurymakeTape × TApiBook × Int) =>
.ite (sv5.2.2 != 0) (
.ret [] (a1, sv5.1)) (
.ret [] (sv5.2.1, sv5.1))

noncomputable def F_mk_BookStep (a1 : TApiBook) (a2 : Int) (p0 : TTreasurymakeTape) : Option R_mk_BookStep := (S_mk_BookStep a1 a2 p0).den
set_option maxRecDepth 100000 in
theorem F_mk_BookStep_ok {a1 : TApiBook} {a2 : Int} {p0 : TTreasurymakeTape} (r : R_mk_BookStep) (h : F_mk_BookStep a1 a2 p0 = some r) : CallOk Tryz.prog 16 [(vp 0), (AV.d (TApiBook.e a1)), (vi a2)] [(bx (TTreasurymakeTape.e p0))] (V_mk_BookStep r) (L_mk_BookStep r) := fOk (s := S_mk_BookStep a1 a2 p0) Tryz.func16 rfl (by kernel_rfl) h

/-! 9 -/
abbrev R_mk_Book := TApiBook × TTreasurymakeTape
def V_mk_Book (x : R_mk_Book) : AV := (AV.d (TApiBook.e x.1))
def L_mk_Book (x : R_mk_Book) : List Ob := [(bx (TTreasurymakeTape.e x.2))]
noncomputable def S_mk_Book_b1 (sv1 : TTreasurymakeTape × TApiBook × Int × Int) : Scr Tryz.prog R_mk_Book (Step (TTreasurymakeTape × TApiBook × Int × Int) R_mk_Book) :=
.ite (decide (sv1.2.2.2 > 0)) (
.call (@F_mk_Tape_N_ok 30 sv1.1) fun rv2 cv2 =>
.call (@F_mk_Tape_Pick_ok ([0, 1, rv2.1] : List Int) rv2.2) fun rv3 cv3 =>
.reg 6 [] [(3, hc cv2 [0] false), (4, hv (vl ([0, 1, rv2.1] : List Int))), (5, hc cv3 [0] false)] [.cl 1 cv2 [0] 3 false, .pf (leV_lit (DV.i .i64) ([0, 1, rv2.1] : List Int)), .cl 0 cv3 [0] 3 false] <|
.call (@F_mk_BookStep_ok sv1.2.1 (IntKind.i64.wrap (sv1.2.2.1 + rv3.1)) rv3.2) fun rv4 cv4 =>
.reg 7 [] [(3, hc cv4 [0] false)] [.cl 0 cv4 [0] 3 false] <|
.ret [] (.cont (rv4.2, rv4.1, (IntKind.i64.wrap (sv1.2.2.1 + rv3.1)), (IntKind.i64.wrap (sv1.2.2.2 - 1))))) (
.ret [] (.brk (sv1.1, sv1.2.1, sv1.2.2.1, sv1.2.2.2)))

noncomputable def S_mk_Book (a1 : Int) (p0 : TTreasurymakeTape) : Scr Tryz.prog R_mk_Book R_mk_Book :=
.reg 0 [] [(0, { obs := [(1, (bx (TApiBook.e (⟨[], [], [], []⟩ : TApiBook))))] })] [.pf (p := OLe (bx (DV.agg [(DV.sl 0 fun _ => DV.b false), (DV.sl 0 fun _ => DV.b false), (DV.sl 0 fun _ => DV.b false), (DV.sl 0 fun _ => DV.b false)])) (bx (TApiBook.e (⟨[], [], [], []⟩ : TApiBook)))) (oLe_box (DLe.agg (DLeL.cons DLe.sl0 (DLeL.cons DLe.sl0 (DLeL.cons DLe.sl0 (DLeL.cons DLe.sl0 DLeL.nil))))))] <|
.reg 1 [] [(0, { obs := [(2, (bx (TApiBook.e (⟨[], [], [], []⟩ : TApiBook))))] })] [.pf (p := OLe (bx (DV.agg [(DV.sl 0 fun _ => DV.b false), (DV.sl 0 fun _ => DV.b false), (DV.sl 0 fun _ => DV.b false), (DV.sl 0 fun _ => DV.b false)])) (bx (TApiBook.e (⟨[], [], [], []⟩ : TApiBook)))) (oLe_box (DLe.agg (DLeL.cons DLe.sl0 (DLeL.cons DLe.sl0 (DLeL.cons DLe.sl0 (DLeL.cons DLe.sl0 DLeL.nil))))))] <|
.call (@F_mk_Tape_N_ok 40 p0) fun rv5 cv5 =>
.reg 2 [] [(1, hc cv5 [0] false)] [.cl 0 cv5 [0] 3 false] <|
.call (@F_mk_Tape_N_ok (IntKind.i64.wrap (a1 + 1)) rv5.2) fun rv6 cv6 =>
.reg 3 [] [(3, hc cv6 [0] false)] [.cl 0 cv6 [0] 3 false] <|
.iter [0, 4, 5] (fun (sv1 : TTreasurymakeTape × TApiBook × Int × Int) => [(6, (vi sv1.2.2.1)), (7, (vi sv1.2.2.2))]) (fun (sv1 : TTreasurymakeTape × TApiBook × Int × Int) => [(0, (bx (TTreasurymakeTape.e sv1.1))), (2, (bx (TApiBook.e sv1.2.1)))]) (rv6.2, (⟨[], [], [], []⟩ : TApiBook), (IntKind.i64.wrap (4320 + rv5.1)), rv6.1) S_mk_Book_b1 (fun (sv1 : TTreasurymakeTape × TApiBook × Int × Int) =>
.ret [] (sv1.2.1, sv1.1)) id

noncomputable def F_mk_Book (a1 : Int) (p0 : TTreasurymakeTape) : Option R_mk_Book := (S_mk_Book a1 p0).den
set_option maxRecDepth 100000 in
theorem F_mk_Book_ok {a1 : Int} {p0 : TTreasurymakeTape} (r : R_mk_Book) (h : F_mk_Book a1 p0 = some r) : CallOk Tryz.prog 9 [(vp 0), (vi a1)] [(bx (TTreasurymakeTape.e p0))] (V_mk_Book r) (L_mk_Book r) := fOk (s := S_mk_Book a1 p0) Tryz.func9 rfl (by kernel_rfl) h

/-! 48 -/
abbrev R_commitment_committed := Int × Int
def V_commitment_committed (x : R_commitment_committed) : AV := (AV.tup [(vi x.1), (vi x.2)])
def L_commitment_committed (_ : R_commitment_committed) : List Ob := []
noncomputable def S_commitment_committed_b1 (a0 : TApiBook) (a1 : Int) (iv1 : Nat) (sv2 : Int × Int) : Scr Tryz.prog R_commitment_committed (Step (Int × Int) R_commitment_committed) :=
.reg 3 [] [] [.pf (nn iv1), .ev 0] <|
.ite (((a0.Commitments.getD iv1 default).Reservation) == a1) (
.ret [] (.cont ((IntKind.i64.wrap (sv2.1 + ((a0.Commitments.getD iv1 default).Amount))), (IntKind.i64.wrap (sv2.2 + ((a0.Commitments.getD iv1 default).Released)))))) (
.ret [] (.cont (sv2.1, sv2.2)))

noncomputable def S_commitment_committed (a0 : TApiBook) (a1 : Int) : Scr Tryz.prog R_commitment_committed R_commitment_committed :=
.range (a0.Commitments.length : Int) a0.Commitments.length rfl (.slot 9) 11 [1, 9, 10] (fun (sv2 : Int × Int) => [(4, (vi sv2.1)), (5, (vi sv2.2))]) (fun (_ : Int × Int) => []) (0, 0) (S_commitment_committed_b1 a0 a1) (fun (sv2 : Int × Int) => 
.ret [] (sv2.1, sv2.2)) id

noncomputable def F_commitment_committed (a0 : TApiBook) (a1 : Int) : Option R_commitment_committed := (S_commitment_committed a0 a1).den
set_option maxRecDepth 100000 in
theorem F_commitment_committed_ok {a0 : TApiBook} {a1 : Int} (r : R_commitment_committed) (h : F_commitment_committed a0 a1 = some r) : CallOk Tryz.prog 48 [(AV.d (TApiBook.e a0)), (vi a1)] [] (V_commitment_committed r) (L_commitment_committed r) := fOk (s := S_commitment_committed a0 a1) Tryz.func48 rfl (by kernel_rfl) h

/-! 42 -/
abbrev R_commitment_reserved := Int
def V_commitment_reserved (x : R_commitment_reserved) : AV := (vi x)
def L_commitment_reserved (_ : R_commitment_reserved) : List Ob := []
noncomputable def S_commitment_reserved (a0 : TApiBook) (a1 : TApiReservation) : Scr Tryz.prog R_commitment_reserved R_commitment_reserved :=
.call (@F_commitment_committed_ok a0 a1.Number) fun rv1 cv1 =>
.reg 1 [] [(3, hc cv1 [] true)] [.cl 0 cv1 [] 2 true] <|
.ret [] (IntKind.i64.wrap ((IntKind.i64.wrap (a1.Amount - a1.Released)) - rv1.1))

noncomputable def F_commitment_reserved (a0 : TApiBook) (a1 : TApiReservation) : Option R_commitment_reserved := (S_commitment_reserved a0 a1).den
set_option maxRecDepth 100000 in
theorem F_commitment_reserved_ok {a0 : TApiBook} {a1 : TApiReservation} (r : R_commitment_reserved) (h : F_commitment_reserved a0 a1 = some r) : CallOk Tryz.prog 42 [(AV.d (TApiBook.e a0)), (AV.d (TApiReservation.e a1))] [] (V_commitment_reserved r) (L_commitment_reserved r) := fOk (s := S_commitment_reserved a0 a1) Tryz.func42 rfl (by kernel_rfl) h

/-! 10 -/
abbrev R_commitment_Left := Int
def V_commitment_Left (x : R_commitment_Left) : AV := (vi x)
def L_commitment_Left (_ : R_commitment_Left) : List Ob := []
noncomputable def S_commitment_Left_b1 (a0 : TApiBook) (a1 : Int) (iv1 : Nat) (_ : Unit) : Scr Tryz.prog R_commitment_Left (Step (Unit) R_commitment_Left) :=
.reg 3 [] [] [.pf (nn iv1), .ev 0] <|
.ite (((a0.Reservations.getD iv1 default).Number) == a1) (
.call (@F_commitment_reserved_ok a0 (a0.Reservations.getD iv1 default)) fun rv2 cv2 =>
.reg 5 [] [(2, hc cv2 [] true)] [.cl 0 cv2 [] 2 true] <|
.ret [] (.ret rv2)) (
.ret [] (.cont ()))

noncomputable def S_commitment_Left (a0 : TApiBook) (a1 : Int) : Scr Tryz.prog R_commitment_Left R_commitment_Left :=
.range (a0.Reservations.length : Int) a0.Reservations.length rfl (.slot 8) 10 [1, 2, 8, 9] (fun (_ : Unit) => []) (fun (_ : Unit) => []) () (S_commitment_Left_b1 a0 a1) (fun (_ : Unit) => 
.ret [] 0) id

noncomputable def F_commitment_Left (a0 : TApiBook) (a1 : Int) : Option R_commitment_Left := (S_commitment_Left a0 a1).den
set_option maxRecDepth 100000 in
theorem F_commitment_Left_ok {a0 : TApiBook} {a1 : Int} (r : R_commitment_Left) (h : F_commitment_Left a0 a1 = some r) : CallOk Tryz.prog 10 [(AV.d (TApiBook.e a0)), (vi a1)] [] (V_commitment_Left r) (L_commitment_Left r) := fOk (s := S_commitment_Left a0 a1) Tryz.func10 rfl (by kernel_rfl) h

end Go.Proofs.YteelhiohkbbdhaaGreatDoor
