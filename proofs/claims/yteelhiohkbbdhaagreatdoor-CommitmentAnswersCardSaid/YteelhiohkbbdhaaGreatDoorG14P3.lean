/- A part of the proof: what the functions compute, and that their calls return it. No condition. -/
import Derived.Test.YteelhiohkbbdhaaGreatDoorG14P2
/- What the functions compute, and that their calls return it. No condition. -/
namespace Go.Proofs.YteelhiohkbbdhaaGreatDoor
open Go Go.TA

/-! 76 -/
abbrev R_slices_Clone_Commitment_rw := (List TApiCommitment)
def V_slices_Clone_Commitment_rw (x : R_slices_Clone_Commitment_rw) : AV := (AV.ref 0 x.length 0 x.length)
def L_slices_Clone_Commitment_rw (x : R_slices_Clone_Commitment_rw) : List Ob := [(eS 7 TApiCommitment.e x)]
noncomputable def S_slices_Clone_Commitment_rw (a0 : (List TApiCommitment)) : Scr Tryz.prog R_slices_Clone_Commitment_rw R_slices_Clone_Commitment_rw :=
.reg 0 [] [] [] <|
.nils 0 (
.guard [a0.length * (2 * 56) ≤ 2 ^ 48] <|
.reg 1 [] [] [] <|
.lev 0 (AV.d (eL TApiCommitment.e a0)) (.pf (lvQ true a0.length fun j => (TApiCommitment.e (a0.getD j default)))) <|
.br true (.pf (p := true = true) rfl) <|
.reg 2 [] [] [] <|
.bor 7 (fun j => AV.d (TApiCommitment.e (a0.getD j default))) [2] <|
.cst (A := a0.length = 0) (.ev 1) [(2, AV.ref 0 0 0 0)] [(2, (AV.ref 0 a0.length 0 a0.length))] [(Ob.seq 7 0 fun j => AV.d (TApiCommitment.e (a0.getD j default)))] [(eS 7 TApiCommitment.e a0)] (fun h => ⟨by rw [h], by unfold eS; rw [h]⟩) <|
.ret [] a0) (
.reg 1 [] [] [] <|
.lev 0 (AV.d (eL TApiCommitment.e a0)) (.pf (lvQ false a0.length fun j => (TApiCommitment.e (a0.getD j default)))) <|
.br false (.pf (p := false = false) rfl) <|
.guard [a0.length * (2 * 56) ≤ 2 ^ 48] <|
.reg 3 [] [(2, { h := .obj })] [.pf (p := ∀ k, k < a0.length → (AV.d (TApiCommitment.e (a0.getD k default))).wd = 7) (fun _ _ => rfl), .ev 0] <|
.ret [] a0)

noncomputable def F_slices_Clone_Commitment_rw (a0 : (List TApiCommitment)) : Option R_slices_Clone_Commitment_rw := (S_slices_Clone_Commitment_rw a0).den
set_option maxRecDepth 100000 in
theorem F_slices_Clone_Commitment_rw_ok {a0 : (List TApiCommitment)} (r : R_slices_Clone_Commitment_rw) (h : F_slices_Clone_Commitment_rw a0 = some r) : CallOk Tryz.prog 76 [(AV.d (eL TApiCommitment.e a0))] [] (V_slices_Clone_Commitment_rw r) (L_slices_Clone_Commitment_rw r) := fOk (s := S_slices_Clone_Commitment_rw a0) Tryz.func76 rfl (by kernel_rfl) h

/-! 77 -/
abbrev R_slices_Clone_Verification_rw := (List TApiVerification)
def V_slices_Clone_Verification_rw (x : R_slices_Clone_Verification_rw) : AV := (AV.ref 0 x.length 0 x.length)
def L_slices_Clone_Verification_rw (x : R_slices_Clone_Verification_rw) : List Ob := [(eS 4 TApiVerification.e x)]
noncomputable def S_slices_Clone_Verification_rw (a0 : (List TApiVerification)) : Scr Tryz.prog R_slices_Clone_Verification_rw R_slices_Clone_Verification_rw :=
.reg 0 [] [] [] <|
.nils 0 (
.guard [a0.length * (2 * 32) ≤ 2 ^ 48] <|
.reg 1 [] [] [] <|
.lev 0 (AV.d (eL TApiVerification.e a0)) (.pf (lvQ true a0.length fun j => (TApiVerification.e (a0.getD j default)))) <|
.br true (.pf (p := true = true) rfl) <|
.reg 2 [] [] [] <|
.bor 4 (fun j => AV.d (TApiVerification.e (a0.getD j default))) [2] <|
.cst (A := a0.length = 0) (.ev 1) [(2, AV.ref 0 0 0 0)] [(2, (AV.ref 0 a0.length 0 a0.length))] [(Ob.seq 4 0 fun j => AV.d (TApiVerification.e (a0.getD j default)))] [(eS 4 TApiVerification.e a0)] (fun h => ⟨by rw [h], by unfold eS; rw [h]⟩) <|
.ret [] a0) (
.reg 1 [] [] [] <|
.lev 0 (AV.d (eL TApiVerification.e a0)) (.pf (lvQ false a0.length fun j => (TApiVerification.e (a0.getD j default)))) <|
.br false (.pf (p := false = false) rfl) <|
.guard [a0.length * (2 * 32) ≤ 2 ^ 48] <|
.reg 3 [] [(2, { h := .obj })] [.pf (p := ∀ k, k < a0.length → (AV.d (TApiVerification.e (a0.getD k default))).wd = 4) (fun _ _ => rfl), .ev 0] <|
.ret [] a0)

noncomputable def F_slices_Clone_Verification_rw (a0 : (List TApiVerification)) : Option R_slices_Clone_Verification_rw := (S_slices_Clone_Verification_rw a0).den
set_option maxRecDepth 100000 in
theorem F_slices_Clone_Verification_rw_ok {a0 : (List TApiVerification)} (r : R_slices_Clone_Verification_rw) (h : F_slices_Clone_Verification_rw a0 = some r) : CallOk Tryz.prog 77 [(AV.d (eL TApiVerification.e a0))] [] (V_slices_Clone_Verification_rw r) (L_slices_Clone_Verification_rw r) := fOk (s := S_slices_Clone_Verification_rw a0) Tryz.func77 rfl (by kernel_rfl) h

/-! 47 -/
abbrev R_commitment_copied_rw := (List TApiReservation) × (List TApiCommitment) × (List TApiVerification) × (List TApiOrder)
def V_commitment_copied_rw (x : R_commitment_copied_rw) : AV := (AV.agg [(AV.ref 2 x.1.length 0 x.1.length), (AV.ref 3 x.2.1.length 0 x.2.1.length), (AV.ref 4 x.2.2.1.length 0 x.2.2.1.length), (AV.ref 5 x.2.2.2.length 0 x.2.2.2.length)])
def L_commitment_copied_rw (x : R_commitment_copied_rw) : List Ob := [Ob.dead, (Ob.box (AV.agg [(AV.ref 2 x.1.length 0 x.1.length), (AV.ref 3 x.2.1.length 0 x.2.1.length), (AV.ref 4 x.2.2.1.length 0 x.2.2.1.length), (AV.ref 5 x.2.2.2.length 0 x.2.2.2.length)])), (eS 6 TApiReservation.e x.1), (eS 7 TApiCommitment.e x.2.1), (eS 4 TApiVerification.e x.2.2.1), (eS 5 TApiOrder.e x.2.2.2)]
noncomputable def S_commitment_copied_rw (a0 : TApiBook) : Scr Tryz.prog R_commitment_copied_rw R_commitment_copied_rw :=
.reg 0 [] [(1, { obs := [(1, (bx (TApiBook.e (⟨[], [], [], []⟩ : TApiBook))))] })] [.pf (p := OLe (bx (DV.agg [(DV.sl 0 fun _ => DV.b false), (DV.sl 0 fun _ => DV.b false), (DV.sl 0 fun _ => DV.b false), (DV.sl 0 fun _ => DV.b false)])) (bx (TApiBook.e (⟨[], [], [], []⟩ : TApiBook)))) (oLe_box (DLe.agg (DLeL.cons DLe.sl0 (DLeL.cons DLe.sl0 (DLeL.cons DLe.sl0 (DLeL.cons DLe.sl0 DLeL.nil))))))] <|
.call (@F_slices_Clone_Reservation_rw_ok a0.Reservations) fun rv1 cv1 =>
.call (@F_slices_Clone_Commitment_rw_ok a0.Commitments) fun rv2 cv2 =>
.call (@F_slices_Clone_Verification_rw_ok a0.Verifications) fun rv3 cv3 =>
.call (@F_slices_Clone_Order_rw_ok a0.Orders) fun rv4 cv4 =>
.reg 1 [2, 5, 8, 11, 13] [(2, hc cv1 [] false), (5, hc cv2 [] false), (8, hc cv3 [] false), (11, hc cv4 [] false)] [.cl 3 cv1 [] 2 false, .cl 2 cv2 [] 3 false, .cl 1 cv3 [] 4 false, .cl 0 cv4 [] 5 false] <|
.kill 0 <|
.ret [] (rv1, rv2, rv3, rv4)

noncomputable def F_commitment_copied_rw (a0 : TApiBook) : Option R_commitment_copied_rw := (S_commitment_copied_rw a0).den
set_option maxRecDepth 100000 in
theorem F_commitment_copied_rw_ok {a0 : TApiBook} (r : R_commitment_copied_rw) (h : F_commitment_copied_rw a0 = some r) : CallOk Tryz.prog 47 [(AV.d (TApiBook.e a0))] [] (V_commitment_copied_rw r) (L_commitment_copied_rw r) := fOk (s := S_commitment_copied_rw a0) Tryz.func47 rfl (by kernel_rfl) h

/-! 11 -/
abbrev R_commitment_Commit := TApiBook × Int
def V_commitment_Commit (x : R_commitment_Commit) : AV := (AV.tup [(AV.d (TApiBook.e x.1)), (vi x.2)])
def L_commitment_Commit (_ : R_commitment_Commit) : List Ob := []
noncomputable def S_commitment_Commit (a0 : TApiBook) (a1 : Int) (a2 : Int) (a3 : Int) (a4 : Int) (a5 : Int) : Scr Tryz.prog R_commitment_Commit R_commitment_Commit :=
.reg 0 [] [(1, { obs := [(1, (bx (TApiBook.e (⟨[], [], [], []⟩ : TApiBook))))] })] [.pf (p := OLe (bx (DV.agg [(DV.sl 0 fun _ => DV.b false), (DV.sl 0 fun _ => DV.b false), (DV.sl 0 fun _ => DV.b false), (DV.sl 0 fun _ => DV.b false)])) (bx (TApiBook.e (⟨[], [], [], []⟩ : TApiBook)))) (oLe_box (DLe.agg (DLeL.cons DLe.sl0 (DLeL.cons DLe.sl0 (DLeL.cons DLe.sl0 (DLeL.cons DLe.sl0 DLeL.nil))))))] <|
.call (@F_commitment_Valid_ok a0) fun rv1 cv1 =>
.reg 1 [] [(1, hc cv1 [] true)] [.cl 0 cv1 [] 2 true] <|
.ite (!rv1) (
.reg 2 [] [(0, hv (AV.d (TApiBook.e (⟨[], [], [], []⟩ : TApiBook))))] [.pf (p := LeV (AV.d (DV.agg [(DV.sl 0 fun _ => DV.b false), (DV.sl 0 fun _ => DV.b false), (DV.sl 0 fun _ => DV.b false), (DV.sl 0 fun _ => DV.b false)])) (AV.d (TApiBook.e (⟨[], [], [], []⟩ : TApiBook)))) (leV_dle rfl (DLe.agg (DLeL.cons DLe.sl0 (DLeL.cons DLe.sl0 (DLeL.cons DLe.sl0 (DLeL.cons DLe.sl0 DLeL.nil))))))] <|
.ret [] ((⟨[], [], [], []⟩ : TApiBook), 1)) (
.call (@F_commitment_among_ok a1 1 (a0.Reservations.length : Int)) fun rv2 cv2 =>
.reg 3 [] [(4, hc cv2 [] true)] [.cl 0 cv2 [] 2 true] <|
.ite (!rv2) (
.reg 4 [] [(0, hv (AV.d (TApiBook.e (⟨[], [], [], []⟩ : TApiBook))))] [.pf (p := LeV (AV.d (DV.agg [(DV.sl 0 fun _ => DV.b false), (DV.sl 0 fun _ => DV.b false), (DV.sl 0 fun _ => DV.b false), (DV.sl 0 fun _ => DV.b false)])) (AV.d (TApiBook.e (⟨[], [], [], []⟩ : TApiBook)))) (leV_dle rfl (DLe.agg (DLeL.cons DLe.sl0 (DLeL.cons DLe.sl0 (DLeL.cons DLe.sl0 (DLeL.cons DLe.sl0 DLeL.nil))))))] <|
.ret [] ((⟨[], [], [], []⟩ : TApiBook), 6)) (
.call (@F_commitment_day_ok a2) fun rv3 cv3 =>
.calld [(!rv3) = false] default (@F_commitment_amount_ok a3) fun rv4 cv4 =>
.calld [(bif (!rv3) then true else (!rv4)) = false] default (@F_commitment_among_ok a4 1 1000000) fun rv5 cv5 =>
.calld [(bif (bif (!rv3) then true else (!rv4)) then true else (!rv5)) = false] default (@F_commitment_day_ok a5) fun rv6 cv6 =>
.reg 5 [] [(1, hc cv3 [] true), (5, hc cv4 [] true), (10, hc cv5 [] true), (15, hc cv6 [] true)] [.cl 6 cv3 [] 2 true, .clg 4 [(!rv3) = false] cv4 [] 2 true, .clg 2 [(bif (!rv3) then true else (!rv4)) = false] cv5 [] 2 true, .clg 0 [(bif (bif (!rv3) then true else (!rv4)) then true else (!rv5)) = false] cv6 [] 2 true] <|
.ite (bif (bif (bif (!rv3) then true else (!rv4)) then true else (!rv5)) then true else (!rv6)) (
.reg 6 [] [(0, hv (AV.d (TApiBook.e (⟨[], [], [], []⟩ : TApiBook))))] [.pf (p := LeV (AV.d (DV.agg [(DV.sl 0 fun _ => DV.b false), (DV.sl 0 fun _ => DV.b false), (DV.sl 0 fun _ => DV.b false), (DV.sl 0 fun _ => DV.b false)])) (AV.d (TApiBook.e (⟨[], [], [], []⟩ : TApiBook)))) (leV_dle rfl (DLe.agg (DLeL.cons DLe.sl0 (DLeL.cons DLe.sl0 (DLeL.cons DLe.sl0 (DLeL.cons DLe.sl0 DLeL.nil))))))] <|
.ret [] ((⟨[], [], [], []⟩ : TApiBook), 2)) (
.guard [(0 : Int) ≤ (IntKind.i64.wrap (a1 - 1)), ((IntKind.i64.wrap (a1 - 1))).toNat < a0.Reservations.length] <|
.reg 7 [] [] [.ev 0, .ev 1] <|
.call (@F_calendar_Year_ok a2) fun rv7 cv7 =>
.reg 8 [] [(1, hc cv7 [] true)] [.cl 0 cv7 [] 3 true] <|
.ite (rv7 != ((a0.Reservations.getD (((IntKind.i64.wrap (a1 - 1))).toNat) default).Year)) (
.reg 9 [] [(0, hv (AV.d (TApiBook.e (⟨[], [], [], []⟩ : TApiBook))))] [.pf (p := LeV (AV.d (DV.agg [(DV.sl 0 fun _ => DV.b false), (DV.sl 0 fun _ => DV.b false), (DV.sl 0 fun _ => DV.b false), (DV.sl 0 fun _ => DV.b false)])) (AV.d (TApiBook.e (⟨[], [], [], []⟩ : TApiBook)))) (leV_dle rfl (DLe.agg (DLeL.cons DLe.sl0 (DLeL.cons DLe.sl0 (DLeL.cons DLe.sl0 (DLeL.cons DLe.sl0 DLeL.nil))))))] <|
.ret [] ((⟨[], [], [], []⟩ : TApiBook), 16)) (
.ite (decide (a2 < ((a0.Reservations.getD (((IntKind.i64.wrap (a1 - 1))).toNat) default).Day))) (
.reg 11 [] [(0, hv (AV.d (TApiBook.e (⟨[], [], [], []⟩ : TApiBook))))] [.pf (p := LeV (AV.d (DV.agg [(DV.sl 0 fun _ => DV.b false), (DV.sl 0 fun _ => DV.b false), (DV.sl 0 fun _ => DV.b false), (DV.sl 0 fun _ => DV.b false)])) (AV.d (TApiBook.e (⟨[], [], [], []⟩ : TApiBook)))) (leV_dle rfl (DLe.agg (DLeL.cons DLe.sl0 (DLeL.cons DLe.sl0 (DLeL.cons DLe.sl0 (DLeL.cons DLe.sl0 DLeL.nil))))))] <|
.ret [] ((⟨[], [], [], []⟩ : TApiBook), 8)) (
.call (@F_commitment_reserved_ok a0 (a0.Reservations.getD (((IntKind.i64.wrap (a1 - 1))).toNat) default)) fun rv8 cv8 =>
.reg 12 [] [(3, hc cv8 [] true)] [.cl 0 cv8 [] 3 true] <|
.ite (decide (a3 > rv8)) (
.reg 13 [] [(0, hv (AV.d (TApiBook.e (⟨[], [], [], []⟩ : TApiBook))))] [.pf (p := LeV (AV.d (DV.agg [(DV.sl 0 fun _ => DV.b false), (DV.sl 0 fun _ => DV.b false), (DV.sl 0 fun _ => DV.b false), (DV.sl 0 fun _ => DV.b false)])) (AV.d (TApiBook.e (⟨[], [], [], []⟩ : TApiBook)))) (leV_dle rfl (DLe.agg (DLeL.cons DLe.sl0 (DLeL.cons DLe.sl0 (DLeL.cons DLe.sl0 (DLeL.cons DLe.sl0 DLeL.nil))))))] <|
.ret [] ((⟨[], [], [], []⟩ : TApiBook), 15)) (
.ite ((a0.Commitments.length : Int) == 200) (
.reg 15 [] [(0, hv (AV.d (TApiBook.e (⟨[], [], [], []⟩ : TApiBook))))] [.pf (p := LeV (AV.d (DV.agg [(DV.sl 0 fun _ => DV.b false), (DV.sl 0 fun _ => DV.b false), (DV.sl 0 fun _ => DV.b false), (DV.sl 0 fun _ => DV.b false)])) (AV.d (TApiBook.e (⟨[], [], [], []⟩ : TApiBook)))) (leV_dle rfl (DLe.agg (DLeL.cons DLe.sl0 (DLeL.cons DLe.sl0 (DLeL.cons DLe.sl0 (DLeL.cons DLe.sl0 DLeL.nil))))))] <|
.ret [] ((⟨[], [], [], []⟩ : TApiBook), 3)) (
.call (@F_commitment_copied_rw_ok a0) fun rv9 cv9 =>
.reg 16 [] [(1, hc cv9 [] false)] [.cl 0 cv9 [] 3 false] <|
.kill 4 <|
.guard [rv9.1.length < 2 ^ 63] <|
.frz 5 (.ev 0) none [] [0] <|
.guard [rv9.2.2.1.length < 2 ^ 63] <|
.frz 7 (.ev 0) none [] [0] <|
.guard [rv9.2.2.2.length < 2 ^ 63] <|
.frz 8 (.ev 0) none [] [0] <|
.guard [(rv9.2.1.length + 1) * (2 * 56) ≤ 2 ^ 48] <|
.reg 17 [] [(12, hv (AV.d (eL TApiCommitment.e ([(⟨(IntKind.i64.wrap ((rv9.2.1.length : Int) + 1)), a1, a2, a3, 0, a4, a5⟩ : TApiCommitment)] : List TApiCommitment)))), (13, { cast := some (AV.ref 6 ((rv9.2.1 ++ ([(⟨(IntKind.i64.wrap ((rv9.2.1.length : Int) + 1)), a1, a2, a3, 0, a4, a5⟩ : TApiCommitment)] : List TApiCommitment)).length) 0 ((rv9.2.1 ++ ([(⟨(IntKind.i64.wrap ((rv9.2.1.length : Int) + 1)), a1, a2, a3, 0, a4, a5⟩ : TApiCommitment)] : List TApiCommitment)).length)), obs := [(6, (eS 7 TApiCommitment.e (rv9.2.1 ++ ([(⟨(IntKind.i64.wrap ((rv9.2.1.length : Int) + 1)), a1, a2, a3, 0, a4, a5⟩ : TApiCommitment)] : List TApiCommitment))))] })] [.pf (leV_lit TApiCommitment.e ([(⟨(IntKind.i64.wrap ((rv9.2.1.length : Int) + 1)), a1, a2, a3, 0, a4, a5⟩ : TApiCommitment)] : List TApiCommitment)), .pf (Eq.refl rv9.2.1.length), .pf (Eq.refl rv9.2.1.length), .pf (p := ∀ k, k < 1 → (AV.d (TApiCommitment.e (([(⟨(IntKind.i64.wrap ((rv9.2.1.length : Int) + 1)), a1, a2, a3, 0, a4, a5⟩ : TApiCommitment)] : List TApiCommitment).getD k default))).wd = 7) (fun _ _ => rfl), .ev 0, .pf (leV_app (o := 6) (l := rv9.2.1) (x := ([(⟨(IntKind.i64.wrap ((rv9.2.1.length : Int) + 1)), a1, a2, a3, 0, a4, a5⟩ : TApiCommitment)] : List TApiCommitment))), .pf (oLe_app (sz := 7) (e := TApiCommitment.e) (l := rv9.2.1) (x := ([(⟨(IntKind.i64.wrap ((rv9.2.1.length : Int) + 1)), a1, a2, a3, 0, a4, a5⟩ : TApiCommitment)] : List TApiCommitment)))] <|
.guard [(rv9.2.1 ++ ([(⟨(IntKind.i64.wrap ((rv9.2.1.length : Int) + 1)), a1, a2, a3, 0, a4, a5⟩ : TApiCommitment)] : List TApiCommitment)).length < 2 ^ 63] <|
.reg 18 [] [] [] <|
.frz 6 (.ev 0) none [] [0, 1] <|
.ret [] ((⟨rv9.1, (rv9.2.1 ++ ([(⟨(IntKind.i64.wrap ((rv9.2.1.length : Int) + 1)), a1, a2, a3, 0, a4, a5⟩ : TApiCommitment)] : List TApiCommitment)), rv9.2.2.1, rv9.2.2.2⟩ : TApiBook), 0))))))))

noncomputable def F_commitment_Commit (a0 : TApiBook) (a1 : Int) (a2 : Int) (a3 : Int) (a4 : Int) (a5 : Int) : Option R_commitment_Commit := (S_commitment_Commit a0 a1 a2 a3 a4 a5).den
set_option maxRecDepth 100000 in
theorem F_commitment_Commit_ok {a0 : TApiBook} {a1 : Int} {a2 : Int} {a3 : Int} {a4 : Int} {a5 : Int} (r : R_commitment_Commit) (h : F_commitment_Commit a0 a1 a2 a3 a4 a5 = some r) : CallOk Tryz.prog 11 [(AV.d (TApiBook.e a0)), (vi a1), (vi a2), (vi a3), (vi a4), (vi a5)] [] (V_commitment_Commit r) (L_commitment_Commit r) := fOk (s := S_commitment_Commit a0 a1 a2 a3 a4 a5) Tryz.func11 rfl (by kernel_rfl) h

/-! 13 -/
abbrev R_commitment_Used := Int
def V_commitment_Used (x : R_commitment_Used) : AV := (vi x)
def L_commitment_Used (_ : R_commitment_Used) : List Ob := []
noncomputable def S_commitment_Used_b1 (a0 : TApiBook) (a1 : List UInt8) (a2 : Int) (iv1 : Nat) (sv2 : Int) : Scr Tryz.prog R_commitment_Used (Step (Int) R_commitment_Used) :=
.reg 4 [] [] [.pf (nn iv1), .ev 0] <|
.ite (bif (((a0.Reservations.getD iv1 default).Code) == a1) then (((a0.Reservations.getD iv1 default).Year) == a2) else false) (
.call (@F_commitment_committed_ok a0 ((a0.Reservations.getD iv1 default).Number)) fun rv3 cv3 =>
.reg 6 [] [(3, hc cv3 [] true)] [.cl 0 cv3 [] 2 true] <|
.ret [] (.cont (IntKind.i64.wrap (sv2 + (IntKind.i64.wrap ((IntKind.i64.wrap (((a0.Reservations.getD iv1 default).Amount) - ((a0.Reservations.getD iv1 default).Released))) - rv3.2)))))) (
.ret [] (.cont sv2))

noncomputable def S_commitment_Used (a0 : TApiBook) (a1 : List UInt8) (a2 : Int) : Scr Tryz.prog R_commitment_Used R_commitment_Used :=
.range (a0.Reservations.length : Int) a0.Reservations.length rfl (.slot 13) 15 [1, 2, 3, 13, 14] (fun (sv2 : Int) => [(7, (vi sv2))]) (fun (_ : Int) => []) 0 (S_commitment_Used_b1 a0 a1 a2) (fun (sv2 : Int) => 
.ret [] sv2) id

noncomputable def F_commitment_Used (a0 : TApiBook) (a1 : List UInt8) (a2 : Int) : Option R_commitment_Used := (S_commitment_Used a0 a1 a2).den
set_option maxRecDepth 100000 in
theorem F_commitment_Used_ok {a0 : TApiBook} {a1 : List UInt8} {a2 : Int} (r : R_commitment_Used) (h : F_commitment_Used a0 a1 a2 = some r) : CallOk Tryz.prog 13 [(AV.d (TApiBook.e a0)), (AV.d (DV.str a1)), (vi a2)] [] (V_commitment_Used r) (L_commitment_Used r) := fOk (s := S_commitment_Used a0 a1 a2) Tryz.func13 rfl (by kernel_rfl) h

/-! 23 -/
abbrev R_commitment_Reserve := TApiBook × Int
def V_commitment_Reserve (x : R_commitment_Reserve) : AV := (AV.tup [(AV.d (TApiBook.e x.1)), (vi x.2)])
def L_commitment_Reserve (_ : R_commitment_Reserve) : List Ob := []
noncomputable def S_commitment_Reserve (a0 : TApiBook) (a1 : List UInt8) (a2 : Int) (a3 : Int) (a4 : Int) : Scr Tryz.prog R_commitment_Reserve R_commitment_Reserve :=
.reg 0 [] [(1, { obs := [(1, (bx (TApiBook.e (⟨[], [], [], []⟩ : TApiBook))))] })] [.pf (p := OLe (bx (DV.agg [(DV.sl 0 fun _ => DV.b false), (DV.sl 0 fun _ => DV.b false), (DV.sl 0 fun _ => DV.b false), (DV.sl 0 fun _ => DV.b false)])) (bx (TApiBook.e (⟨[], [], [], []⟩ : TApiBook)))) (oLe_box (DLe.agg (DLeL.cons DLe.sl0 (DLeL.cons DLe.sl0 (DLeL.cons DLe.sl0 (DLeL.cons DLe.sl0 DLeL.nil))))))] <|
.call (@F_commitment_Valid_ok a0) fun rv1 cv1 =>
.reg 1 [] [(1, hc cv1 [] true)] [.cl 0 cv1 [] 2 true] <|
.ite (!rv1) (
.reg 2 [] [(0, hv (AV.d (TApiBook.e (⟨[], [], [], []⟩ : TApiBook))))] [.pf (p := LeV (AV.d (DV.agg [(DV.sl 0 fun _ => DV.b false), (DV.sl 0 fun _ => DV.b false), (DV.sl 0 fun _ => DV.b false), (DV.sl 0 fun _ => DV.b false)])) (AV.d (TApiBook.e (⟨[], [], [], []⟩ : TApiBook)))) (leV_dle rfl (DLe.agg (DLeL.cons DLe.sl0 (DLeL.cons DLe.sl0 (DLeL.cons DLe.sl0 (DLeL.cons DLe.sl0 DLeL.nil))))))] <|
.ret [] ((⟨[], [], [], []⟩ : TApiBook), 1)) (
.call (@F_classification_Parts_ok a1) fun rv2 cv2 =>
.reg 3 [] [(1, hc cv2 [] true)] [.cl 0 cv2 [] 2 true] <|
.ite ((rv2.length : Int) == 0) (
.reg 4 [] [(0, hv (AV.d (TApiBook.e (⟨[], [], [], []⟩ : TApiBook))))] [.pf (p := LeV (AV.d (DV.agg [(DV.sl 0 fun _ => DV.b false), (DV.sl 0 fun _ => DV.b false), (DV.sl 0 fun _ => DV.b false), (DV.sl 0 fun _ => DV.b false)])) (AV.d (TApiBook.e (⟨[], [], [], []⟩ : TApiBook)))) (leV_dle rfl (DLe.agg (DLeL.cons DLe.sl0 (DLeL.cons DLe.sl0 (DLeL.cons DLe.sl0 (DLeL.cons DLe.sl0 DLeL.nil))))))] <|
.ret [] ((⟨[], [], [], []⟩ : TApiBook), 5)) (
.call (@F_commitment_among_ok a2 0 99) fun rv3 cv3 =>
.calld [(!rv3) = false] default (@F_commitment_day_ok a3) fun rv4 cv4 =>
.calld [(bif (!rv3) then true else (!rv4)) = false] default (@F_commitment_amount_ok a4) fun rv5 cv5 =>
.reg 5 [] [(1, hc cv3 [] true), (5, hc cv4 [] true), (10, hc cv5 [] true)] [.cl 4 cv3 [] 2 true, .clg 2 [(!rv3) = false] cv4 [] 2 true, .clg 0 [(bif (!rv3) then true else (!rv4)) = false] cv5 [] 2 true] <|
.ite (bif (bif (!rv3) then true else (!rv4)) then true else (!rv5)) (
.reg 6 [] [(0, hv (AV.d (TApiBook.e (⟨[], [], [], []⟩ : TApiBook))))] [.pf (p := LeV (AV.d (DV.agg [(DV.sl 0 fun _ => DV.b false), (DV.sl 0 fun _ => DV.b false), (DV.sl 0 fun _ => DV.b false), (DV.sl 0 fun _ => DV.b false)])) (AV.d (TApiBook.e (⟨[], [], [], []⟩ : TApiBook)))) (leV_dle rfl (DLe.agg (DLeL.cons DLe.sl0 (DLeL.cons DLe.sl0 (DLeL.cons DLe.sl0 (DLeL.cons DLe.sl0 DLeL.nil))))))] <|
.ret [] ((⟨[], [], [], []⟩ : TApiBook), 2)) (
.call (@F_calendar_Year_ok a3) fun rv6 cv6 =>
.reg 7 [] [(1, hc cv6 [] true)] [.cl 0 cv6 [] 2 true] <|
.ite (rv6 != a2) (
.reg 8 [] [(0, hv (AV.d (TApiBook.e (⟨[], [], [], []⟩ : TApiBook))))] [.pf (p := LeV (AV.d (DV.agg [(DV.sl 0 fun _ => DV.b false), (DV.sl 0 fun _ => DV.b false), (DV.sl 0 fun _ => DV.b false), (DV.sl 0 fun _ => DV.b false)])) (AV.d (TApiBook.e (⟨[], [], [], []⟩ : TApiBook)))) (leV_dle rfl (DLe.agg (DLeL.cons DLe.sl0 (DLeL.cons DLe.sl0 (DLeL.cons DLe.sl0 (DLeL.cons DLe.sl0 DLeL.nil))))))] <|
.ret [] ((⟨[], [], [], []⟩ : TApiBook), 16)) (
.ite ((a0.Reservations.length : Int) == 200) (
.reg 10 [] [(0, hv (AV.d (TApiBook.e (⟨[], [], [], []⟩ : TApiBook))))] [.pf (p := LeV (AV.d (DV.agg [(DV.sl 0 fun _ => DV.b false), (DV.sl 0 fun _ => DV.b false), (DV.sl 0 fun _ => DV.b false), (DV.sl 0 fun _ => DV.b false)])) (AV.d (TApiBook.e (⟨[], [], [], []⟩ : TApiBook)))) (leV_dle rfl (DLe.agg (DLeL.cons DLe.sl0 (DLeL.cons DLe.sl0 (DLeL.cons DLe.sl0 (DLeL.cons DLe.sl0 DLeL.nil))))))] <|
.ret [] ((⟨[], [], [], []⟩ : TApiBook), 3)) (
.call (@F_commitment_copied_rw_ok a0) fun rv7 cv7 =>
.reg 11 [] [(1, hc cv7 [] false)] [.cl 0 cv7 [] 2 false] <|
.kill 3 <|
.guard [rv7.2.1.length < 2 ^ 63] <|
.frz 5 (.ev 0) none [] [0] <|
.guard [rv7.2.2.1.length < 2 ^ 63] <|
.frz 6 (.ev 0) none [] [0] <|
.guard [rv7.2.2.2.length < 2 ^ 63] <|
.frz 7 (.ev 0) none [] [0] <|
.guard [(rv7.1.length + 1) * (2 * 56) ≤ 2 ^ 48] <|
.reg 12 [] [(11, hv (AV.d (eL TApiReservation.e ([(⟨(IntKind.i64.wrap ((rv7.1.length : Int) + 1)), a1, a2, a3, a4, 0⟩ : TApiReservation)] : List TApiReservation)))), (12, { cast := some (AV.ref 4 ((rv7.1 ++ ([(⟨(IntKind.i64.wrap ((rv7.1.length : Int) + 1)), a1, a2, a3, a4, 0⟩ : TApiReservation)] : List TApiReservation)).length) 0 ((rv7.1 ++ ([(⟨(IntKind.i64.wrap ((rv7.1.length : Int) + 1)), a1, a2, a3, a4, 0⟩ : TApiReservation)] : List TApiReservation)).length)), obs := [(4, (eS 6 TApiReservation.e (rv7.1 ++ ([(⟨(IntKind.i64.wrap ((rv7.1.length : Int) + 1)), a1, a2, a3, a4, 0⟩ : TApiReservation)] : List TApiReservation))))] })] [.pf (leV_lit TApiReservation.e ([(⟨(IntKind.i64.wrap ((rv7.1.length : Int) + 1)), a1, a2, a3, a4, 0⟩ : TApiReservation)] : List TApiReservation)), .pf (Eq.refl rv7.1.length), .pf (Eq.refl rv7.1.length), .pf (p := ∀ k, k < 1 → (AV.d (TApiReservation.e (([(⟨(IntKind.i64.wrap ((rv7.1.length : Int) + 1)), a1, a2, a3, a4, 0⟩ : TApiReservation)] : List TApiReservation).getD k default))).wd = 6) (fun _ _ => rfl), .ev 0, .pf (leV_app (o := 4) (l := rv7.1) (x := ([(⟨(IntKind.i64.wrap ((rv7.1.length : Int) + 1)), a1, a2, a3, a4, 0⟩ : TApiReservation)] : List TApiReservation))), .pf (oLe_app (sz := 6) (e := TApiReservation.e) (l := rv7.1) (x := ([(⟨(IntKind.i64.wrap ((rv7.1.length : Int) + 1)), a1, a2, a3, a4, 0⟩ : TApiReservation)] : List TApiReservation)))] <|
.guard [(rv7.1 ++ ([(⟨(IntKind.i64.wrap ((rv7.1.length : Int) + 1)), a1, a2, a3, a4, 0⟩ : TApiReservation)] : List TApiReservation)).length < 2 ^ 63] <|
.reg 13 [] [] [] <|
.frz 4 (.ev 0) none [] [0, 1] <|
.ret [] ((⟨(rv7.1 ++ ([(⟨(IntKind.i64.wrap ((rv7.1.length : Int) + 1)), a1, a2, a3, a4, 0⟩ : TApiReservation)] : List TApiReservation)), rv7.2.1, rv7.2.2.1, rv7.2.2.2⟩ : TApiBook), 0))))))

noncomputable def F_commitment_Reserve (a0 : TApiBook) (a1 : List UInt8) (a2 : Int) (a3 : Int) (a4 : Int) : Option R_commitment_Reserve := (S_commitment_Reserve a0 a1 a2 a3 a4).den
set_option maxRecDepth 100000 in
theorem F_commitment_Reserve_ok {a0 : TApiBook} {a1 : List UInt8} {a2 : Int} {a3 : Int} {a4 : Int} (r : R_commitment_Reserve) (h : F_commitment_Reserve a0 a1 a2 a3 a4 = some r) : CallOk Tryz.prog 23 [(AV.d (TApiBook.e a0)), (AV.d (DV.str a1)), (vi a2), (vi a3), (vi a4)] [] (V_commitment_Reserve r) (L_commitment_Reserve r) := fOk (s := S_commitment_Reserve a0 a1 a2 a3 a4) Tryz.func23 rfl (by kernel_rfl) h

/-! 24 -/
abbrev R_commitment_Verify := TApiBook × Int
def V_commitment_Verify (x : R_commitment_Verify) : AV := (AV.tup [(AV.d (TApiBook.e x.1)), (vi x.2)])
def L_commitment_Verify (_ : R_commitment_Verify) : List Ob := []
noncomputable def S_commitment_Verify (a0 : TApiBook) (a1 : Int) (a2 : Int) (a3 : Int) : Scr Tryz.prog R_commitment_Verify R_commitment_Verify :=
.reg 0 [] [(1, { obs := [(1, (bx (TApiBook.e (⟨[], [], [], []⟩ : TApiBook))))] })] [.pf (p := OLe (bx (DV.agg [(DV.sl 0 fun _ => DV.b false), (DV.sl 0 fun _ => DV.b false), (DV.sl 0 fun _ => DV.b false), (DV.sl 0 fun _ => DV.b false)])) (bx (TApiBook.e (⟨[], [], [], []⟩ : TApiBook)))) (oLe_box (DLe.agg (DLeL.cons DLe.sl0 (DLeL.cons DLe.sl0 (DLeL.cons DLe.sl0 (DLeL.cons DLe.sl0 DLeL.nil))))))] <|
.call (@F_commitment_Valid_ok a0) fun rv1 cv1 =>
.reg 1 [] [(1, hc cv1 [] true)] [.cl 0 cv1 [] 2 true] <|
.ite (!rv1) (
.reg 2 [] [(0, hv (AV.d (TApiBook.e (⟨[], [], [], []⟩ : TApiBook))))] [.pf (p := LeV (AV.d (DV.agg [(DV.sl 0 fun _ => DV.b false), (DV.sl 0 fun _ => DV.b false), (DV.sl 0 fun _ => DV.b false), (DV.sl 0 fun _ => DV.b false)])) (AV.d (TApiBook.e (⟨[], [], [], []⟩ : TApiBook)))) (leV_dle rfl (DLe.agg (DLeL.cons DLe.sl0 (DLeL.cons DLe.sl0 (DLeL.cons DLe.sl0 (DLeL.cons DLe.sl0 DLeL.nil))))))] <|
.ret [] ((⟨[], [], [], []⟩ : TApiBook), 1)) (
.call (@F_commitment_among_ok a1 1 (a0.Commitments.length : Int)) fun rv2 cv2 =>
.reg 3 [] [(4, hc cv2 [] true)] [.cl 0 cv2 [] 2 true] <|
.ite (!rv2) (
.reg 4 [] [(0, hv (AV.d (TApiBook.e (⟨[], [], [], []⟩ : TApiBook))))] [.pf (p := LeV (AV.d (DV.agg [(DV.sl 0 fun _ => DV.b false), (DV.sl 0 fun _ => DV.b false), (DV.sl 0 fun _ => DV.b false), (DV.sl 0 fun _ => DV.b false)])) (AV.d (TApiBook.e (⟨[], [], [], []⟩ : TApiBook)))) (leV_dle rfl (DLe.agg (DLeL.cons DLe.sl0 (DLeL.cons DLe.sl0 (DLeL.cons DLe.sl0 (DLeL.cons DLe.sl0 DLeL.nil))))))] <|
.ret [] ((⟨[], [], [], []⟩ : TApiBook), 6)) (
.call (@F_commitment_day_ok a2) fun rv3 cv3 =>
.calld [(!rv3) = false] default (@F_commitment_amount_ok a3) fun rv4 cv4 =>
.reg 5 [] [(1, hc cv3 [] true), (5, hc cv4 [] true)] [.cl 2 cv3 [] 2 true, .clg 0 [(!rv3) = false] cv4 [] 2 true] <|
.ite (bif (!rv3) then true else (!rv4)) (
.reg 6 [] [(0, hv (AV.d (TApiBook.e (⟨[], [], [], []⟩ : TApiBook))))] [.pf (p := LeV (AV.d (DV.agg [(DV.sl 0 fun _ => DV.b false), (DV.sl 0 fun _ => DV.b false), (DV.sl 0 fun _ => DV.b false), (DV.sl 0 fun _ => DV.b false)])) (AV.d (TApiBook.e (⟨[], [], [], []⟩ : TApiBook)))) (leV_dle rfl (DLe.agg (DLeL.cons DLe.sl0 (DLeL.cons DLe.sl0 (DLeL.cons DLe.sl0 (DLeL.cons DLe.sl0 DLeL.nil))))))] <|
.ret [] ((⟨[], [], [], []⟩ : TApiBook), 2)) (
.guard [(0 : Int) ≤ (IntKind.i64.wrap (a1 - 1)), ((IntKind.i64.wrap (a1 - 1))).toNat < a0.Commitments.length] <|
.reg 7 [] [] [.ev 0, .ev 1] <|
.call (@F_calendar_Year_ok a2) fun rv5 cv5 =>
.call (@F_commitment_year_ok a0 (a0.Commitments.getD (((IntKind.i64.wrap (a1 - 1))).toNat) default)) fun rv6 cv6 =>
.reg 8 [] [(1, hc cv5 [] true), (4, hc cv6 [] true)] [.cl 1 cv5 [] 3 true, .cl 0 cv6 [] 3 true] <|
.ite (decide (rv5 > (IntKind.i64.wrap (rv6 + 1)))) (
.reg 9 [] [(0, hv (AV.d (TApiBook.e (⟨[], [], [], []⟩ : TApiBook))))] [.pf (p := LeV (AV.d (DV.agg [(DV.sl 0 fun _ => DV.b false), (DV.sl 0 fun _ => DV.b false), (DV.sl 0 fun _ => DV.b false), (DV.sl 0 fun _ => DV.b false)])) (AV.d (TApiBook.e (⟨[], [], [], []⟩ : TApiBook)))) (leV_dle rfl (DLe.agg (DLeL.cons DLe.sl0 (DLeL.cons DLe.sl0 (DLeL.cons DLe.sl0 (DLeL.cons DLe.sl0 DLeL.nil))))))] <|
.ret [] ((⟨[], [], [], []⟩ : TApiBook), 16)) (
.ite (decide (a2 < ((a0.Commitments.getD (((IntKind.i64.wrap (a1 - 1))).toNat) default).Day))) (
.reg 11 [] [(0, hv (AV.d (TApiBook.e (⟨[], [], [], []⟩ : TApiBook))))] [.pf (p := LeV (AV.d (DV.agg [(DV.sl 0 fun _ => DV.b false), (DV.sl 0 fun _ => DV.b false), (DV.sl 0 fun _ => DV.b false), (DV.sl 0 fun _ => DV.b false)])) (AV.d (TApiBook.e (⟨[], [], [], []⟩ : TApiBook)))) (leV_dle rfl (DLe.agg (DLeL.cons DLe.sl0 (DLeL.cons DLe.sl0 (DLeL.cons DLe.sl0 (DLeL.cons DLe.sl0 DLeL.nil))))))] <|
.ret [] ((⟨[], [], [], []⟩ : TApiBook), 8)) (
.call (@F_commitment_open_ok a0 (a0.Commitments.getD (((IntKind.i64.wrap (a1 - 1))).toNat) default)) fun rv7 cv7 =>
.reg 12 [] [(3, hc cv7 [] true)] [.cl 0 cv7 [] 3 true] <|
.ite (decide (a3 > rv7)) (
.reg 13 [] [(0, hv (AV.d (TApiBook.e (⟨[], [], [], []⟩ : TApiBook))))] [.pf (p := LeV (AV.d (DV.agg [(DV.sl 0 fun _ => DV.b false), (DV.sl 0 fun _ => DV.b false), (DV.sl 0 fun _ => DV.b false), (DV.sl 0 fun _ => DV.b false)])) (AV.d (TApiBook.e (⟨[], [], [], []⟩ : TApiBook)))) (leV_dle rfl (DLe.agg (DLeL.cons DLe.sl0 (DLeL.cons DLe.sl0 (DLeL.cons DLe.sl0 (DLeL.cons DLe.sl0 DLeL.nil))))))] <|
.ret [] ((⟨[], [], [], []⟩ : TApiBook), 15)) (
.ite ((a0.Verifications.length : Int) == 200) (
.reg 15 [] [(0, hv (AV.d (TApiBook.e (⟨[], [], [], []⟩ : TApiBook))))] [.pf (p := LeV (AV.d (DV.agg [(DV.sl 0 fun _ => DV.b false), (DV.sl 0 fun _ => DV.b false), (DV.sl 0 fun _ => DV.b false), (DV.sl 0 fun _ => DV.b false)])) (AV.d (TApiBook.e (⟨[], [], [], []⟩ : TApiBook)))) (leV_dle rfl (DLe.agg (DLeL.cons DLe.sl0 (DLeL.cons DLe.sl0 (DLeL.cons DLe.sl0 (DLeL.cons DLe.sl0 DLeL.nil))))))] <|
.ret [] ((⟨[], [], [], []⟩ : TApiBook), 3)) (
.call (@F_commitment_copied_rw_ok a0) fun rv8 cv8 =>
.reg 16 [] [(1, hc cv8 [] false)] [.cl 0 cv8 [] 3 false] <|
.kill 4 <|
.guard [rv8.1.length < 2 ^ 63] <|
.frz 5 (.ev 0) none [] [0] <|
.guard [rv8.2.1.length < 2 ^ 63] <|
.frz 6 (.ev 0) none [] [0] <|
.guard [rv8.2.2.2.length < 2 ^ 63] <|
.frz 8 (.ev 0) none [] [0] <|
.guard [(rv8.2.2.1.length + 1) * (2 * 32) ≤ 2 ^ 48] <|
.reg 17 [] [(10, hv (AV.d (eL TApiVerification.e ([(⟨(IntKind.i64.wrap ((rv8.2.2.1.length : Int) + 1)), a1, a2, a3⟩ : TApiVerification)] : List TApiVerification)))), (11, { cast := some (AV.ref 7 ((rv8.2.2.1 ++ ([(⟨(IntKind.i64.wrap ((rv8.2.2.1.length : Int) + 1)), a1, a2, a3⟩ : TApiVerification)] : List TApiVerification)).length) 0 ((rv8.2.2.1 ++ ([(⟨(IntKind.i64.wrap ((rv8.2.2.1.length : Int) + 1)), a1, a2, a3⟩ : TApiVerification)] : List TApiVerification)).length)), obs := [(7, (eS 4 TApiVerification.e (rv8.2.2.1 ++ ([(⟨(IntKind.i64.wrap ((rv8.2.2.1.length : Int) + 1)), a1, a2, a3⟩ : TApiVerification)] : List TApiVerification))))] })] [.pf (leV_lit TApiVerification.e ([(⟨(IntKind.i64.wrap ((rv8.2.2.1.length : Int) + 1)), a1, a2, a3⟩ : TApiVerification)] : List TApiVerification)), .pf (Eq.refl rv8.2.2.1.length), .pf (Eq.refl rv8.2.2.1.length), .pf (p := ∀ k, k < 1 → (AV.d (TApiVerification.e (([(⟨(IntKind.i64.wrap ((rv8.2.2.1.length : Int) + 1)), a1, a2, a3⟩ : TApiVerification)] : List TApiVerification).getD k default))).wd = 4) (fun _ _ => rfl), .ev 0, .pf (leV_app (o := 7) (l := rv8.2.2.1) (x := ([(⟨(IntKind.i64.wrap ((rv8.2.2.1.length : Int) + 1)), a1, a2, a3⟩ : TApiVerification)] : List TApiVerification))), .pf (oLe_app (sz := 4) (e := TApiVerification.e) (l := rv8.2.2.1) (x := ([(⟨(IntKind.i64.wrap ((rv8.2.2.1.length : Int) + 1)), a1, a2, a3⟩ : TApiVerification)] : List TApiVerification)))] <|
.guard [(rv8.2.2.1 ++ ([(⟨(IntKind.i64.wrap ((rv8.2.2.1.length : Int) + 1)), a1, a2, a3⟩ : TApiVerification)] : List TApiVerification)).length < 2 ^ 63] <|
.reg 18 [] [] [] <|
.frz 7 (.ev 0) none [] [0, 1] <|
.ret [] ((⟨rv8.1, rv8.2.1, (rv8.2.2.1 ++ ([(⟨(IntKind.i64.wrap ((rv8.2.2.1.length : Int) + 1)), a1, a2, a3⟩ : TApiVerification)] : List TApiVerification)), rv8.2.2.2⟩ : TApiBook), 0))))))))

noncomputable def F_commitment_Verify (a0 : TApiBook) (a1 : Int) (a2 : Int) (a3 : Int) : Option R_commitment_Verify := (S_commitment_Verify a0 a1 a2 a3).den
set_option maxRecDepth 100000 in
theorem F_commitment_Verify_ok {a0 : TApiBook} {a1 : Int} {a2 : Int} {a3 : Int} (r : R_commitment_Verify) (h : F_commitment_Verify a0 a1 a2 a3 = some r) : CallOk Tryz.prog 24 [(AV.d (TApiBook.e a0)), (vi a1), (vi a2), (vi a3)] [] (V_commitment_Verify r) (L_commitment_Verify r) := fOk (s := S_commitment_Verify a0 a1 a2 a3) Tryz.func24 rfl (by kernel_rfl) h

/-! 20 -/
abbrev R_commitment_Order := TApiBook × Int
def V_commitment_Order (x : R_commitment_Order) : AV := (AV.tup [(AV.d (TApiBook.e x.1)), (vi x.2)])
def L_commitment_Order (_ : R_commitment_Order) : List Ob := []
noncomputable def S_commitment_Order (a0 : TApiBook) (a1 : Int) (a2 : Int) : Scr Tryz.prog R_commitment_Order R_commitment_Order :=
.reg 0 [] [(1, { obs := [(1, (bx (TApiBook.e (⟨[], [], [], []⟩ : TApiBook))))] })] [.pf (p := OLe (bx (DV.agg [(DV.sl 0 fun _ => DV.b false), (DV.sl 0 fun _ => DV.b false), (DV.sl 0 fun _ => DV.b false), (DV.sl 0 fun _ => DV.b false)])) (bx (TApiBook.e (⟨[], [], [], []⟩ : TApiBook)))) (oLe_box (DLe.agg (DLeL.cons DLe.sl0 (DLeL.cons DLe.sl0 (DLeL.cons DLe.sl0 (DLeL.cons DLe.sl0 DLeL.nil))))))] <|
.call (@F_commitment_Valid_ok a0) fun rv1 cv1 =>
.reg 1 [] [(1, hc cv1 [] true)] [.cl 0 cv1 [] 2 true] <|
.ite (!rv1) (
.reg 2 [] [(0, hv (AV.d (TApiBook.e (⟨[], [], [], []⟩ : TApiBook))))] [.pf (p := LeV (AV.d (DV.agg [(DV.sl 0 fun _ => DV.b false), (DV.sl 0 fun _ => DV.b false), (DV.sl 0 fun _ => DV.b false), (DV.sl 0 fun _ => DV.b false)])) (AV.d (TApiBook.e (⟨[], [], [], []⟩ : TApiBook)))) (leV_dle rfl (DLe.agg (DLeL.cons DLe.sl0 (DLeL.cons DLe.sl0 (DLeL.cons DLe.sl0 (DLeL.cons DLe.sl0 DLeL.nil))))))] <|
.ret [] ((⟨[], [], [], []⟩ : TApiBook), 1)) (
.call (@F_commitment_among_ok a1 1 (a0.Verifications.length : Int)) fun rv2 cv2 =>
.reg 3 [] [(4, hc cv2 [] true)] [.cl 0 cv2 [] 2 true] <|
.ite (!rv2) (
.reg 4 [] [(0, hv (AV.d (TApiBook.e (⟨[], [], [], []⟩ : TApiBook))))] [.pf (p := LeV (AV.d (DV.agg [(DV.sl 0 fun _ => DV.b false), (DV.sl 0 fun _ => DV.b false), (DV.sl 0 fun _ => DV.b false), (DV.sl 0 fun _ => DV.b false)])) (AV.d (TApiBook.e (⟨[], [], [], []⟩ : TApiBook)))) (leV_dle rfl (DLe.agg (DLeL.cons DLe.sl0 (DLeL.cons DLe.sl0 (DLeL.cons DLe.sl0 (DLeL.cons DLe.sl0 DLeL.nil))))))] <|
.ret [] ((⟨[], [], [], []⟩ : TApiBook), 6)) (
.call (@F_commitment_day_ok a2) fun rv3 cv3 =>
.reg 5 [] [(1, hc cv3 [] true)] [.cl 0 cv3 [] 2 true] <|
.ite (!rv3) (
.reg 6 [] [(0, hv (AV.d (TApiBook.e (⟨[], [], [], []⟩ : TApiBook))))] [.pf (p := LeV (AV.d (DV.agg [(DV.sl 0 fun _ => DV.b false), (DV.sl 0 fun _ => DV.b false), (DV.sl 0 fun _ => DV.b false), (DV.sl 0 fun _ => DV.b false)])) (AV.d (TApiBook.e (⟨[], [], [], []⟩ : TApiBook)))) (leV_dle rfl (DLe.agg (DLeL.cons DLe.sl0 (DLeL.cons DLe.sl0 (DLeL.cons DLe.sl0 (DLeL.cons DLe.sl0 DLeL.nil))))))] <|
.ret [] ((⟨[], [], [], []⟩ : TApiBook), 2)) (
.guard [(0 : Int) ≤ (IntKind.i64.wrap (a1 - 1)), ((IntKind.i64.wrap (a1 - 1))).toNat < a0.Verifications.length] <|
.reg 7 [] [] [.ev 0, .ev 1] <|
.call (@F_commitment_orders_ok a0 a1) fun rv4 cv4 =>
.reg 8 [] [(2, hc cv4 [] true)] [.cl 0 cv4 [] 3 true] <|
.call (@F_calendar_Year_ok a2) fun rv5 cv5 =>
.call (@F_commitment_year_ok a0 (a0.Commitments.getD (((IntKind.i64.wrap (((a0.Verifications.getD (((IntKind.i64.wrap (a1 - 1))).toNat) default).Commitment) - 1))).toNat) default)) fun rv6 cv6 =>
.guard [(0 : Int) ≤ (IntKind.i64.wrap (((a0.Verifications.getD (((IntKind.i64.wrap (a1 - 1))).toNat) default).Commitment) - 1)), ((IntKind.i64.wrap (((a0.Verifications.getD (((IntKind.i64.wrap (a1 - 1))).toNat) default).Commitment) - 1))).toNat < a0.Commitments.length] <|
.reg 10 [] [(1, hc cv5 [] true), (10, hc cv6 [] true)] [.cl 3 cv5 [] 3 true, .ev 0, .ev 1, .cl 2 cv6 [] 3 true] <|
.ite (decide (rv5 > (IntKind.i64.wrap (rv6 + 1)))) (
.reg 11 [] [(0, hv (AV.d (TApiBook.e (⟨[], [], [], []⟩ : TApiBook))))] [.pf (p := LeV (AV.d (DV.agg [(DV.sl 0 fun _ => DV.b false), (DV.sl 0 fun _ => DV.b false), (DV.sl 0 fun _ => DV.b false), (DV.sl 0 fun _ => DV.b false)])) (AV.d (TApiBook.e (⟨[], [], [], []⟩ : TApiBook)))) (leV_dle rfl (DLe.agg (DLeL.cons DLe.sl0 (DLeL.cons DLe.sl0 (DLeL.cons DLe.sl0 (DLeL.cons DLe.sl0 DLeL.nil))))))] <|
.ret [] ((⟨[], [], [], []⟩ : TApiBook), 16)) (
.guard [AllP [(decide ((rv4.length : Int) > 0)) = true] → ((0 : Int) ≤ (IntKind.i64.wrap ((rv4.length : Int) - 1))), AllP [(decide ((rv4.length : Int) > 0)) = true] → (((IntKind.i64.wrap ((rv4.length : Int) - 1))).toNat < rv4.length)] <|
.reg 12 [] [] [.ev 0, .ev 1] <|
.ite (bif (decide ((rv4.length : Int) > 0)) then (!((rv4.getD (((IntKind.i64.wrap ((rv4.length : Int) - 1))).toNat) default).Back)) else false) (
.reg 13 [] [(0, hv (AV.d (TApiBook.e (⟨[], [], [], []⟩ : TApiBook))))] [.pf (p := LeV (AV.d (DV.agg [(DV.sl 0 fun _ => DV.b false), (DV.sl 0 fun _ => DV.b false), (DV.sl 0 fun _ => DV.b false), (DV.sl 0 fun _ => DV.b false)])) (AV.d (TApiBook.e (⟨[], [], [], []⟩ : TApiBook)))) (leV_dle rfl (DLe.agg (DLeL.cons DLe.sl0 (DLeL.cons DLe.sl0 (DLeL.cons DLe.sl0 (DLeL.cons DLe.sl0 DLeL.nil))))))] <|
.ret [] ((⟨[], [], [], []⟩ : TApiBook), 20)) (
.guard [AllP [(decide ((rv4.length : Int) > 0)) = true, (decide (a2 < ((a0.Verifications.getD (((IntKind.i64.wrap (a1 - 1))).toNat) default).Day))) = false] → ((0 : Int) ≤ (IntKind.i64.wrap ((rv4.length : Int) - 1))), AllP [(decide ((rv4.length : Int) > 0)) = true, (decide (a2 < ((a0.Verifications.getD (((IntKind.i64.wrap (a1 - 1))).toNat) default).Day))) = false] → (((IntKind.i64.wrap ((rv4.length : Int) - 1))).toNat < rv4.length)] <|
.reg 14 [] [] [.ev 0, .ev 1] <|
.ite (bif (decide (a2 < ((a0.Verifications.getD (((IntKind.i64.wrap (a1 - 1))).toNat) default).Day))) then true else (bif (decide ((rv4.length : Int) > 0)) then (decide (a2 < ((rv4.getD (((IntKind.i64.wrap ((rv4.length : Int) - 1))).toNat) default).Day))) else false)) (
.reg 15 [] [(0, hv (AV.d (TApiBook.e (⟨[], [], [], []⟩ : TApiBook))))] [.pf (p := LeV (AV.d (DV.agg [(DV.sl 0 fun _ => DV.b false), (DV.sl 0 fun _ => DV.b false), (DV.sl 0 fun _ => DV.b false), (DV.sl 0 fun _ => DV.b false)])) (AV.d (TApiBook.e (⟨[], [], [], []⟩ : TApiBook)))) (leV_dle rfl (DLe.agg (DLeL.cons DLe.sl0 (DLeL.cons DLe.sl0 (DLeL.cons DLe.sl0 (DLeL.cons DLe.sl0 DLeL.nil))))))] <|
.ret [] ((⟨[], [], [], []⟩ : TApiBook), 8)) (
.ite ((a0.Orders.length : Int) == 200) (
.reg 17 [] [(0, hv (AV.d (TApiBook.e (⟨[], [], [], []⟩ : TApiBook))))] [.pf (p := LeV (AV.d (DV.agg [(DV.sl 0 fun _ => DV.b false), (DV.sl 0 fun _ => DV.b false), (DV.sl 0 fun _ => DV.b false), (DV.sl 0 fun _ => DV.b false)])) (AV.d (TApiBook.e (⟨[], [], [], []⟩ : TApiBook)))) (leV_dle rfl (DLe.agg (DLeL.cons DLe.sl0 (DLeL.cons DLe.sl0 (DLeL.cons DLe.sl0 (DLeL.cons DLe.sl0 DLeL.nil))))))] <|
.ret [] ((⟨[], [], [], []⟩ : TApiBook), 3)) (
.call (@F_commitment_copied_rw_ok a0) fun rv7 cv7 =>
.reg 18 [] [(1, hc cv7 [] false)] [.cl 0 cv7 [] 3 false] <|
.kill 4 <|
.guard [rv7.1.length < 2 ^ 63] <|
.frz 5 (.ev 0) none [] [0] <|
.guard [rv7.2.1.length < 2 ^ 63] <|
.frz 6 (.ev 0) none [] [0] <|
.guard [rv7.2.2.1.length < 2 ^ 63] <|
.frz 7 (.ev 0) none [] [0] <|
.guard [(rv7.2.2.2.length + 1) * (2 * 40) ≤ 2 ^ 48] <|
.reg 19 [] [(11, hv (AV.d (eL TApiOrder.e ([(⟨(IntKind.i64.wrap ((rv7.2.2.2.length : Int) + 1)), a1, (IntKind.i64.wrap ((rv4.length : Int) + 1)), a2, false⟩ : TApiOrder)] : List TApiOrder)))), (12, { cast := some (AV.ref 8 ((rv7.2.2.2 ++ ([(⟨(IntKind.i64.wrap ((rv7.2.2.2.length : Int) + 1)), a1, (IntKind.i64.wrap ((rv4.length : Int) + 1)), a2, false⟩ : TApiOrder)] : List TApiOrder)).length) 0 ((rv7.2.2.2 ++ ([(⟨(IntKind.i64.wrap ((rv7.2.2.2.length : Int) + 1)), a1, (IntKind.i64.wrap ((rv4.length : Int) + 1)), a2, false⟩ : TApiOrder)] : List TApiOrder)).length)), obs := [(8, (eS 5 TApiOrder.e (rv7.2.2.2 ++ ([(⟨(IntKind.i64.wrap ((rv7.2.2.2.length : Int) + 1)), a1, (IntKind.i64.wrap ((rv4.length : Int) + 1)), a2, false⟩ : TApiOrder)] : List TApiOrder))))] })] [.pf (leV_lit TApiOrder.e ([(⟨(IntKind.i64.wrap ((rv7.2.2.2.length : Int) + 1)), a1, (IntKind.i64.wrap ((rv4.length : Int) + 1)), a2, false⟩ : TApiOrder)] : List TApiOrder)), .pf (Eq.refl rv7.2.2.2.length), .pf (Eq.refl rv7.2.2.2.length), .pf (p := ∀ k, k < 1 → (AV.d (TApiOrder.e (([(⟨(IntKind.i64.wrap ((rv7.2.2.2.length : Int) + 1)), a1, (IntKind.i64.wrap ((rv4.length : Int) + 1)), a2, false⟩ : TApiOrder)] : List TApiOrder).getD k default))).wd = 5) (fun _ _ => rfl), .ev 0, .pf (leV_app (o := 8) (l := rv7.2.2.2) (x := ([(⟨(IntKind.i64.wrap ((rv7.2.2.2.length : Int) + 1)), a1, (IntKind.i64.wrap ((rv4.length : Int) + 1)), a2, false⟩ : TApiOrder)] : List TApiOrder))), .pf (oLe_app (sz := 5) (e := TApiOrder.e) (l := rv7.2.2.2) (x := ([(⟨(IntKind.i64.wrap ((rv7.2.2.2.length : Int) + 1)), a1, (IntKind.i64.wrap ((rv4.length : Int) + 1)), a2, false⟩ : TApiOrder)] : List TApiOrder)))] <|
.guard [(rv7.2.2.2 ++ ([(⟨(IntKind.i64.wrap ((rv7.2.2.2.length : Int) + 1)), a1, (IntKind.i64.wrap ((rv4.length : Int) + 1)), a2, false⟩ : TApiOrder)] : List TApiOrder)).length < 2 ^ 63] <|
.reg 20 [] [] [] <|
.frz 8 (.ev 0) none [] [0, 1] <|
.ret [] ((⟨rv7.1, rv7.2.1, rv7.2.2.1, (rv7.2.2.2 ++ ([(⟨(IntKind.i64.wrap ((rv7.2.2.2.length : Int) + 1)), a1, (IntKind.i64.wrap ((rv4.length : Int) + 1)), a2, false⟩ : TApiOrder)] : List TApiOrder))⟩ : TApiBook), 0))))))))

noncomputable def F_commitment_Order (a0 : TApiBook) (a1 : Int) (a2 : Int) : Option R_commitment_Order := (S_commitment_Order a0 a1 a2).den
set_option maxRecDepth 100000 in
theorem F_commitment_Order_ok {a0 : TApiBook} {a1 : Int} {a2 : Int} (r : R_commitment_Order) (h : F_commitment_Order a0 a1 a2 = some r) : CallOk Tryz.prog 20 [(AV.d (TApiBook.e a0)), (vi a1), (vi a2)] [] (V_commitment_Order r) (L_commitment_Order r) := fOk (s := S_commitment_Order a0 a1 a2) Tryz.func20 rfl (by kernel_rfl) h

/-! 67 -/
abbrev R_commitment_Sums_1 := Bool
def V_commitment_Sums_1 (x : R_commitment_Sums_1) : AV := (vb x)
def L_commitment_Sums_1 (p0 : TApiBook) (p1 : List UInt8) (p2 : Int) (_ : R_commitment_Sums_1) : List Ob := [(bx (TApiBook.e p0)), (bx (DV.str p1)), (Ob.box (vi p2))]
noncomputable def S_commitment_Sums_1 (a0 : Int) (p0 : TApiBook) (p1 : List UInt8) (p2 : Int) : Scr Tryz.prog R_commitment_Sums_1 R_commitment_Sums_1 :=
.guard [(0 : Int) ≤ (IntKind.i64.wrap (a0 - 1)), ((IntKind.i64.wrap (a0 - 1))).toNat < p0.Reservations.length] <|
.reg 1 [] [] [.ev 0, .ev 1] <|
.ret [] (bif (((p0.Reservations.getD (((IntKind.i64.wrap (a0 - 1))).toNat) default).Code) == p1) then (((p0.Reservations.getD (((IntKind.i64.wrap (a0 - 1))).toNat) default).Year) == p2) else false)

noncomputable def F_commitment_Sums_1 (a0 : Int) (p0 : TApiBook) (p1 : List UInt8) (p2 : Int) : Option R_commitment_Sums_1 := (S_commitment_Sums_1 a0 p0 p1 p2).den
set_option maxRecDepth 100000 in
theorem F_commitment_Sums_1_ok {a0 : Int} {p0 : TApiBook} {p1 : List UInt8} {p2 : Int} (r : R_commitment_Sums_1) (h : F_commitment_Sums_1 a0 p0 p1 p2 = some r) : CallOk Tryz.prog 67 [(vi a0), (vp 0), (vp 1), (vp 2)] [(bx (TApiBook.e p0)), (bx (DV.str p1)), (Ob.box (vi p2))] (V_commitment_Sums_1 r) (L_commitment_Sums_1 p0 p1 p2 r) := fOk (s := S_commitment_Sums_1 a0 p0 p1 p2) Tryz.func67 rfl (by kernel_rfl) h

/-! 87 -/
abbrev R_commitment_standing_1 := Bool
def V_commitment_standing_1 (x : R_commitment_standing_1) : AV := (vb x)
def L_commitment_standing_1 (_ : R_commitment_standing_1) : List Ob := []
noncomputable def S_commitment_standing_1 (a0 : TApiOrder) : Scr Tryz.prog R_commitment_standing_1 R_commitment_standing_1 :=
.ret [] (!a0.Back)

noncomputable def F_commitment_standing_1 (a0 : TApiOrder) : Option R_commitment_standing_1 := (S_commitment_standing_1 a0).den
set_option maxRecDepth 100000 in
theorem F_commitment_standing_1_ok {a0 : TApiOrder} (r : R_commitment_standing_1) (h : F_commitment_standing_1 a0 = some r) : CallOk Tryz.prog 87 [(AV.d (TApiOrder.e a0))] [] (V_commitment_standing_1 r) (L_commitment_standing_1 r) := fOk (s := S_commitment_standing_1 a0) Tryz.func87 rfl (by kernel_rfl) h

/-! 96 -/
abbrev R_slices_IndexFunc_Order_commitment_standing_1 := Int
def V_slices_IndexFunc_Order_commitment_standing_1 (x : R_slices_IndexFunc_Order_commitment_standing_1) : AV := (vi x)
def L_slices_IndexFunc_Order_commitment_standing_1 (_ : R_slices_IndexFunc_Order_commitment_standing_1) : List Ob := []
noncomputable def S_slices_IndexFunc_Order_commitment_standing_1_b1 (a0 : (List TApiOrder)) (iv1 : Nat) (_ : Unit) : Scr Tryz.prog R_slices_IndexFunc_Order_commitment_standing_1 (Step (Unit) R_slices_IndexFunc_Order_commitment_standing_1) :=
.call (@F_commitment_standing_1_ok (a0.getD iv1 default)) fun rv2 cv2 =>
.reg 4 [] [(5, hc cv2 [] true)] [.pf (nn iv1), .ev 1, .cl 0 cv2 [] 0 true] <|
.ite rv2 (
.ret [] (.ret (iv1 : Int))) (
.ret [] (.cont ()))

noncomputable def S_slices_IndexFunc_Order_commitment_standing_1 (a0 : (List TApiOrder)) : Scr Tryz.prog R_slices_IndexFunc_Order_commitment_standing_1 R_slices_IndexFunc_Order_commitment_standing_1 :=
.range (a0.length : Int) a0.length rfl (.slot 0) 8 [0, 1, 7] (fun (_ : Unit) => []) (fun (_ : Unit) => []) () (S_slices_IndexFunc_Order_commitment_standing_1_b1 a0) (fun (_ : Unit) => 
.ret [] (-1)) id

noncomputable def F_slices_IndexFunc_Order_commitment_standing_1 (a0 : (List TApiOrder)) : Option R_slices_IndexFunc_Order_commitment_standing_1 := (S_slices_IndexFunc_Order_commitment_standing_1 a0).den
set_option maxRecDepth 100000 in
theorem F_slices_IndexFunc_Order_commitment_standing_1_ok {a0 : (List TApiOrder)} (r : R_slices_IndexFunc_Order_commitment_standing_1) (h : F_slices_IndexFunc_Order_commitment_standing_1 a0 = some r) : CallOk Tryz.prog 96 [(AV.d (eL TApiOrder.e a0)), (AV.fn 87 [])] [] (V_slices_IndexFunc_Order_commitment_standing_1 r) (L_slices_IndexFunc_Order_commitment_standing_1 r) := fOk (s := S_slices_IndexFunc_Order_commitment_standing_1 a0) Tryz.func96 rfl (by kernel_rfl) h

/-! 86 -/
abbrev R_slices_ContainsFunc_Order_commitment_standing_1 := Bool
def V_slices_ContainsFunc_Order_commitment_standing_1 (x : R_slices_ContainsFunc_Order_commitment_standing_1) : AV := (vb x)
def L_slices_ContainsFunc_Order_commitment_standing_1 (_ : R_slices_ContainsFunc_Order_commitment_standing_1) : List Ob := []
noncomputable def S_slices_ContainsFunc_Order_commitment_standing_1 (a0 : (List TApiOrder)) : Scr Tryz.prog R_slices_ContainsFunc_Order_commitment_standing_1 R_slices_ContainsFunc_Order_commitment_standing_1 :=
.call (@F_slices_IndexFunc_Order_commitment_standing_1_ok a0) fun rv1 cv1 =>
.reg 1 [] [(2, hc cv1 [] true)] [.cl 0 cv1 [] 0 true] <|
.ret [] (decide (rv1 ≥ 0))

noncomputable def F_slices_ContainsFunc_Order_commitment_standing_1 (a0 : (List TApiOrder)) : Option R_slices_ContainsFunc_Order_commitment_standing_1 := (S_slices_ContainsFunc_Order_commitment_standing_1 a0).den
set_option maxRecDepth 100000 in
theorem F_slices_ContainsFunc_Order_commitment_standing_1_ok {a0 : (List TApiOrder)} (r : R_slices_ContainsFunc_Order_commitment_standing_1) (h : F_slices_ContainsFunc_Order_commitment_standing_1 a0 = some r) : CallOk Tryz.prog 86 [(AV.d (eL TApiOrder.e a0)), (AV.fn 87 [])] [] (V_slices_ContainsFunc_Order_commitment_standing_1 r) (L_slices_ContainsFunc_Order_commitment_standing_1 r) := fOk (s := S_slices_ContainsFunc_Order_commitment_standing_1 a0) Tryz.func86 rfl (by kernel_rfl) h

/-! 64 -/
abbrev R_commitment_standing := Bool × Int
def V_commitment_standing (x : R_commitment_standing) : AV := (AV.tup [(vb x.1), (vi x.2)])
def L_commitment_standing (_ : R_commitment_standing) : List Ob := []
noncomputable def S_commitment_standing (a0 : TApiBook) (a1 : Int) : Scr Tryz.prog R_commitment_standing R_commitment_standing :=
.call (@F_commitment_orders_ok a0 a1) fun rv1 cv1 =>
.reg 1 [] [(2, hc cv1 [] true)] [.cl 0 cv1 [] 1 true] <|
.call (@F_slices_ContainsFunc_Order_commitment_standing_1_ok rv1) fun rv2 cv2 =>
.reg 2 [] [(1, hc cv2 [] true)] [.cl 0 cv2 [] 1 true] <|
.ret [] (rv2, (rv1.length : Int))

noncomputable def F_commitment_standing (a0 : TApiBook) (a1 : Int) : Option R_commitment_standing := (S_commitment_standing a0 a1).den
set_option maxRecDepth 100000 in
theorem F_commitment_standing_ok {a0 : TApiBook} {a1 : Int} (r : R_commitment_standing) (h : F_commitment_standing a0 a1 = some r) : CallOk Tryz.prog 64 [(AV.d (TApiBook.e a0)), (vi a1)] [] (V_commitment_standing r) (L_commitment_standing r) := fOk (s := S_commitment_standing a0 a1) Tryz.func64 rfl (by kernel_rfl) h

/-! 22 -/
abbrev R_commitment_Sums := Int × Int × Int × Int
def V_commitment_Sums (x : R_commitment_Sums) : AV := (AV.tup [(vi x.1), (vi x.2.1), (vi x.2.2.1), (vi x.2.2.2)])
def L_commitment_Sums (_ : R_commitment_Sums) : List Ob := []
noncomputable def S_commitment_Sums_b1 (a0 : TApiBook) (a1 : List UInt8) (a2 : Int) (iv1 : Nat) (sv2 : Int) : Scr Tryz.prog R_commitment_Sums (Step (Int) R_commitment_Sums) :=
.reg 7 [] [] [.pf (nn iv1), .ev 0] <|
.call (@F_commitment_Sums_1_ok ((a0.Reservations.getD iv1 default).Number) a0 a1 a2) fun rv3 cv3 =>
.reg 8 [] [(3, hc cv3 [0, 1, 2] true)] [.cl 0 cv3 [0, 1, 2] 4 true] <|
.ite rv3 (
.call (@F_commitment_reserved_ok a0 (a0.Reservations.getD iv1 default)) fun rv4 cv4 =>
.reg 9 [] [(3, hc cv4 [] true)] [.cl 0 cv4 [] 4 true] <|
.ret [] (.cont (IntKind.i64.wrap (sv2 + rv4)))) (
.ret [] (.cont sv2))

noncomputable def S_commitment_Sums_b2 (a0 : TApiBook) (a1 : List UInt8) (a2 : Int) (iv5 : Nat) (sv6 : Int) : Scr Tryz.prog R_commitment_Sums (Step (Int) R_commitment_Sums) :=
.reg 13 [] [] [.pf (nn iv5), .ev 0] <|
.call (@F_commitment_Sums_1_ok ((a0.Commitments.getD iv5 default).Reservation) a0 a1 a2) fun rv7 cv7 =>
.reg 14 [] [(3, hc cv7 [0, 1, 2] true)] [.cl 0 cv7 [0, 1, 2] 4 true] <|
.ite rv7 (
.ret [] (.cont (IntKind.i64.wrap (sv6 + (IntKind.i64.wrap (((a0.Commitments.getD iv5 default).Amount) - ((a0.Commitments.getD iv5 default).Released))))))) (
.ret [] (.cont sv6))

noncomputable def S_commitment_Sums_b3 (a0 : TApiBook) (a1 : List UInt8) (a2 : Int) (iv8 : Nat) (sv9 : Int × Int) : Scr Tryz.prog R_commitment_Sums (Step (Int × Int) R_commitment_Sums) :=
.reg 19 [] [] [.pf (nn iv8), .ev 0] <|
.call (@F_commitment_Sums_1_ok ((a0.Commitments.getD (((IntKind.i64.wrap (((a0.Verifications.getD iv8 default).Commitment) - 1))).toNat) default).Reservation) a0 a1 a2) fun rv10 cv10 =>
.guard [(0 : Int) ≤ (IntKind.i64.wrap (((a0.Verifications.getD iv8 default).Commitment) - 1)), ((IntKind.i64.wrap (((a0.Verifications.getD iv8 default).Commitment) - 1))).toNat < a0.Commitments.length] <|
.reg 20 [] [(9, hc cv10 [0, 1, 2] true)] [.ev 0, .ev 1, .cl 2 cv10 [0, 1, 2] 4 true] <|
.ite (!rv10) (
.ret [] (.cont (sv9.1, sv9.2))) (
.call (@F_commitment_standing_ok a0 ((a0.Verifications.getD iv8 default).Number)) fun rv11 cv11 =>
.reg 22 [] [(3, hc cv11 [] true)] [.cl 0 cv11 [] 4 true] <|
.ite rv11.1 (
.ret [] (.cont ((IntKind.i64.wrap (sv9.1 + ((a0.Verifications.getD iv8 default).Amount))), (IntKind.i64.wrap (sv9.2 + ((a0.Verifications.getD iv8 default).Amount)))))) (
.ret [] (.cont ((IntKind.i64.wrap (sv9.1 + ((a0.Verifications.getD iv8 default).Amount))), sv9.2))))

noncomputable def S_commitment_Sums (a0 : TApiBook) (a1 : List UInt8) (a2 : Int) : Scr Tryz.prog R_commitment_Sums R_commitment_Sums :=
.call (@F_commitment_Valid_ok a0) fun rv12 cv12 =>
.reg 1 [] [(1, hc cv12 [] true)] [.cl 0 cv12 [] 3 true] <|
.ite (!rv12) (
.ret [] (0, 0, 0, 0)) (
.range (a0.Reservations.length : Int) a0.Reservations.length rfl (.slot 28) 30 [3, 11, 12, 13, 14, 28, 29] (fun (sv2 : Int) => [(10, (vi sv2))]) (fun (_ : Int) => []) 0 (S_commitment_Sums_b1 a0 a1 a2) (fun (sv2 : Int) => 
.range (a0.Commitments.length : Int) a0.Commitments.length rfl (.slot 45) 47 [3, 10, 12, 13, 14, 45, 46] (fun (sv6 : Int) => [(11, (vi sv6))]) (fun (_ : Int) => []) 0 (S_commitment_Sums_b2 a0 a1 a2) (fun (sv6 : Int) => 
.range (a0.Verifications.length : Int) a0.Verifications.length rfl (.slot 64) 66 [3, 10, 11, 14, 64, 65] (fun (sv9 : Int × Int) => [(12, (vi sv9.1)), (13, (vi sv9.2))]) (fun (_ : Int × Int) => []) (0, 0) (S_commitment_Sums_b3 a0 a1 a2) (fun (sv9 : Int × Int) => 
.ret [] (sv2, sv6, sv9.1, sv9.2)) id) id) id)

noncomputable def F_commitment_Sums (a0 : TApiBook) (a1 : List UInt8) (a2 : Int) : Option R_commitment_Sums := (S_commitment_Sums a0 a1 a2).den
set_option maxRecDepth 100000 in
theorem F_commitment_Sums_ok {a0 : TApiBook} {a1 : List UInt8} {a2 : Int} (r : R_commitment_Sums) (h : F_commitment_Sums a0 a1 a2 = some r) : CallOk Tryz.prog 22 [(AV.d (TApiBook.e a0)), (AV.d (DV.str a1)), (vi a2)] [] (V_commitment_Sums r) (L_commitment_Sums r) := fOk (s := S_commitment_Sums a0 a1 a2) Tryz.func22 rfl (by kernel_rfl) h

end Go.Proofs.YteelhiohkbbdhaaGreatDoor
