/- A part of the proof: what the functions compute, and that their calls return it. No condition. -/
import Derived.Test.YteelhiohkbbdhaaGreatDoorG14P3
/- What the functions compute, and that their calls return it. No condition. -/
namespace Go.Proofs.YteelhiohkbbdhaaGreatDoor
open Go Go.TA

/-! 27 -/
abbrev R_commitment_Drop := TApiBook × Int
def V_commitment_Drop (x : R_commitment_Drop) : AV := (AV.tup [(AV.d (TApiBook.e x.1)), (vi x.2)])
def L_commitment_Drop (_ : R_commitment_Drop) : List Ob := []
noncomputable def S_commitment_Drop (a0 : TApiBook) (a1 : Int) (a2 : Int) : Scr Tryz.prog R_commitment_Drop R_commitment_Drop :=
.reg 0 [] [(1, { obs := [(1, (bx (TApiBook.e (⟨[], [], [], []⟩ : TApiBook))))] })] [.pf (p := OLe (bx (DV.agg [(DV.sl 0 fun _ => DV.b false), (DV.sl 0 fun _ => DV.b false), (DV.sl 0 fun _ => DV.b false), (DV.sl 0 fun _ => DV.b false)])) (bx (TApiBook.e (⟨[], [], [], []⟩ : TApiBook)))) (oLe_box (DLe.agg (DLeL.cons DLe.sl0 (DLeL.cons DLe.sl0 (DLeL.cons DLe.sl0 (DLeL.cons DLe.sl0 DLeL.nil))))))] <|
.call (@F_commitment_Valid_ok a0) fun rv1 cv1 =>
.reg 1 [] [(1, hc cv1 [] true)] [.cl 0 cv1 [] 2 true] <|
.ite (!rv1) (
.reg 2 [] [(0, hv (AV.d (TApiBook.e (⟨[], [], [], []⟩ : TApiBook))))] [.pf (p := LeV (AV.d (DV.agg [(DV.sl 0 fun _ => DV.b false), (DV.sl 0 fun _ => DV.b false), (DV.sl 0 fun _ => DV.b false), (DV.sl 0 fun _ => DV.b false)])) (AV.d (TApiBook.e (⟨[], [], [], []⟩ : TApiBook)))) (leV_dle rfl (DLe.agg (DLeL.cons DLe.sl0 (DLeL.cons DLe.sl0 (DLeL.cons DLe.sl0 (DLeL.cons DLe.sl0 DLeL.nil))))))] <|
.ret [] ((⟨[], [], [], []⟩ : TApiBook), 1)) (
.call (@F_commitment_among_ok a1 1 (a0.Commitments.length : Int)) fun rv2 cv2 =>
.reg 3 [] [(4, hc cv2 [] true)] [.cl 0 cv2 [] 2 true] <|
.ite (!rv2) (
.reg 4 [] [(0, hv (AV.d (TApiBook.e (⟨[], [], [], []⟩ : TApiBook))))] [.pf (p := LeV (AV.d (DV.agg [(DV.sl 0 fun _ => DV.b false), (DV.sl 0 fun _ => DV.b false), (DV.sl 0 fun _ => DV.b false), (DV.sl 0 fun _ => DV.b false)])) (AV.d (TApiBook.e (⟨[], [], [], []⟩ : TApiBook)))) (leV_dle rfl (DLe.agg (DLeL.cons DLe.sl0 (DLeL.cons DLe.sl0 (DLeL.cons DLe.sl0 (DLeL.cons DLe.sl0 DLeL.nil))))))] <|
.ret [] ((⟨[], [], [], []⟩ : TApiBook), 6)) (
.call (@F_commitment_amount_ok a2) fun rv3 cv3 =>
.reg 5 [] [(1, hc cv3 [] true)] [.cl 0 cv3 [] 2 true] <|
.ite (!rv3) (
.reg 6 [] [(0, hv (AV.d (TApiBook.e (⟨[], [], [], []⟩ : TApiBook))))] [.pf (p := LeV (AV.d (DV.agg [(DV.sl 0 fun _ => DV.b false), (DV.sl 0 fun _ => DV.b false), (DV.sl 0 fun _ => DV.b false), (DV.sl 0 fun _ => DV.b false)])) (AV.d (TApiBook.e (⟨[], [], [], []⟩ : TApiBook)))) (leV_dle rfl (DLe.agg (DLeL.cons DLe.sl0 (DLeL.cons DLe.sl0 (DLeL.cons DLe.sl0 (DLeL.cons DLe.sl0 DLeL.nil))))))] <|
.ret [] ((⟨[], [], [], []⟩ : TApiBook), 2)) (
.call (@F_commitment_open_ok a0 (a0.Commitments.getD (((IntKind.i64.wrap (a1 - 1))).toNat) default)) fun rv4 cv4 =>
.guard [(0 : Int) ≤ (IntKind.i64.wrap (a1 - 1)), ((IntKind.i64.wrap (a1 - 1))).toNat < a0.Commitments.length] <|
.reg 7 [] [(8, hc cv4 [] true)] [.ev 0, .ev 1, .cl 2 cv4 [] 2 true] <|
.ite (decide (a2 > rv4)) (
.reg 8 [] [(0, hv (AV.d (TApiBook.e (⟨[], [], [], []⟩ : TApiBook))))] [.pf (p := LeV (AV.d (DV.agg [(DV.sl 0 fun _ => DV.b false), (DV.sl 0 fun _ => DV.b false), (DV.sl 0 fun _ => DV.b false), (DV.sl 0 fun _ => DV.b false)])) (AV.d (TApiBook.e (⟨[], [], [], []⟩ : TApiBook)))) (leV_dle rfl (DLe.agg (DLeL.cons DLe.sl0 (DLeL.cons DLe.sl0 (DLeL.cons DLe.sl0 (DLeL.cons DLe.sl0 DLeL.nil))))))] <|
.ret [] ((⟨[], [], [], []⟩ : TApiBook), 15)) (
.call (@F_commitment_copied_rw_ok a0) fun rv5 cv5 =>
.reg 9 [] [(1, hc cv5 [] false)] [.cl 0 cv5 [] 2 false] <|
.kill 3 <|
.guard [rv5.1.length < 2 ^ 63] <|
.frz 4 (.ev 0) none [] [0] <|
.guard [rv5.2.2.1.length < 2 ^ 63] <|
.frz 6 (.ev 0) none [] [0] <|
.guard [rv5.2.2.2.length < 2 ^ 63] <|
.frz 7 (.ev 0) none [] [0] <|
.guard [((IntKind.i64.wrap (a1 - 1))).toNat < rv5.2.1.length, (0 + ((IntKind.i64.wrap (a1 - 1))).toNat) < rv5.2.1.length] <|
.reg 10 [] [(11, { obs := [(5, (eS 7 TApiCommitment.e (rv5.2.1.set (0 + ((IntKind.i64.wrap (a1 - 1))).toNat) (⟨(rv5.2.1.getD (0 + ((IntKind.i64.wrap (a1 - 1))).toNat) default).Number, (rv5.2.1.getD (0 + ((IntKind.i64.wrap (a1 - 1))).toNat) default).Reservation, (rv5.2.1.getD (0 + ((IntKind.i64.wrap (a1 - 1))).toNat) default).Day, (rv5.2.1.getD (0 + ((IntKind.i64.wrap (a1 - 1))).toNat) default).Amount, (IntKind.i64.wrap (((rv5.2.1.getD (0 + ((IntKind.i64.wrap (a1 - 1))).toNat) default).Released) + a2)), (rv5.2.1.getD (0 + ((IntKind.i64.wrap (a1 - 1))).toNat) default).Payee, (rv5.2.1.getD (0 + ((IntKind.i64.wrap (a1 - 1))).toNat) default).Due⟩ : TApiCommitment))))] })] [.pf (Eq.refl rv5.2.1.length), .ev 7, .ev 0, .pf (Eq.refl rv5.2.1.length), .pf (Eq.refl rv5.2.1.length), .ev 1, .pf (Eq.refl rv5.2.1.length), .ev 7, .ev 0, .pf (Eq.refl rv5.2.1.length), .pf (Eq.refl rv5.2.1.length), .ev 1, .pf (oLe_set (sz := 7) (e := TApiCommitment.e) (l := rv5.2.1) (i := (0 + ((IntKind.i64.wrap (a1 - 1))).toNat)) (x := (⟨(rv5.2.1.getD (0 + ((IntKind.i64.wrap (a1 - 1))).toNat) default).Number, (rv5.2.1.getD (0 + ((IntKind.i64.wrap (a1 - 1))).toNat) default).Reservation, (rv5.2.1.getD (0 + ((IntKind.i64.wrap (a1 - 1))).toNat) default).Day, (rv5.2.1.getD (0 + ((IntKind.i64.wrap (a1 - 1))).toNat) default).Amount, (IntKind.i64.wrap (((rv5.2.1.getD (0 + ((IntKind.i64.wrap (a1 - 1))).toNat) default).Released) + a2)), (rv5.2.1.getD (0 + ((IntKind.i64.wrap (a1 - 1))).toNat) default).Payee, (rv5.2.1.getD (0 + ((IntKind.i64.wrap (a1 - 1))).toNat) default).Due⟩ : TApiCommitment)) (fun _ => rfl))] <|
.cst (A := True) (.pf trivial) [(3, (vp 0)), (6, (vp 1))] [(3, (vp 0)), (6, (vp 1))] [(Ob.box (AV.agg [(AV.d (eL TApiReservation.e rv5.1)), (AV.ref 5 rv5.2.1.length 0 rv5.2.1.length), (AV.d (eL TApiVerification.e rv5.2.2.1)), (AV.d (eL TApiOrder.e rv5.2.2.2))])), (bx (TApiBook.e (⟨[], [], [], []⟩ : TApiBook))), Ob.dead, Ob.dead, Ob.dead, (eS 7 TApiCommitment.e (rv5.2.1.set (0 + ((IntKind.i64.wrap (a1 - 1))).toNat) (⟨(rv5.2.1.getD (0 + ((IntKind.i64.wrap (a1 - 1))).toNat) default).Number, (rv5.2.1.getD (0 + ((IntKind.i64.wrap (a1 - 1))).toNat) default).Reservation, (rv5.2.1.getD (0 + ((IntKind.i64.wrap (a1 - 1))).toNat) default).Day, (rv5.2.1.getD (0 + ((IntKind.i64.wrap (a1 - 1))).toNat) default).Amount, (IntKind.i64.wrap (((rv5.2.1.getD (0 + ((IntKind.i64.wrap (a1 - 1))).toNat) default).Released) + a2)), (rv5.2.1.getD (0 + ((IntKind.i64.wrap (a1 - 1))).toNat) default).Payee, (rv5.2.1.getD (0 + ((IntKind.i64.wrap (a1 - 1))).toNat) default).Due⟩ : TApiCommitment))), Ob.dead, Ob.dead] [(Ob.box (AV.agg [(AV.d (eL TApiReservation.e rv5.1)), (AV.ref 5 ((rv5.2.1.set (0 + ((IntKind.i64.wrap (a1 - 1))).toNat) (⟨(rv5.2.1.getD (0 + ((IntKind.i64.wrap (a1 - 1))).toNat) default).Number, (rv5.2.1.getD (0 + ((IntKind.i64.wrap (a1 - 1))).toNat) default).Reservation, (rv5.2.1.getD (0 + ((IntKind.i64.wrap (a1 - 1))).toNat) default).Day, (rv5.2.1.getD (0 + ((IntKind.i64.wrap (a1 - 1))).toNat) default).Amount, (IntKind.i64.wrap (((rv5.2.1.getD (0 + ((IntKind.i64.wrap (a1 - 1))).toNat) default).Released) + a2)), (rv5.2.1.getD (0 + ((IntKind.i64.wrap (a1 - 1))).toNat) default).Payee, (rv5.2.1.getD (0 + ((IntKind.i64.wrap (a1 - 1))).toNat) default).Due⟩ : TApiCommitment)).length) 0 ((rv5.2.1.set (0 + ((IntKind.i64.wrap (a1 - 1))).toNat) (⟨(rv5.2.1.getD (0 + ((IntKind.i64.wrap (a1 - 1))).toNat) default).Number, (rv5.2.1.getD (0 + ((IntKind.i64.wrap (a1 - 1))).toNat) default).Reservation, (rv5.2.1.getD (0 + ((IntKind.i64.wrap (a1 - 1))).toNat) default).Day, (rv5.2.1.getD (0 + ((IntKind.i64.wrap (a1 - 1))).toNat) default).Amount, (IntKind.i64.wrap (((rv5.2.1.getD (0 + ((IntKind.i64.wrap (a1 - 1))).toNat) default).Released) + a2)), (rv5.2.1.getD (0 + ((IntKind.i64.wrap (a1 - 1))).toNat) default).Payee, (rv5.2.1.getD (0 + ((IntKind.i64.wrap (a1 - 1))).toNat) default).Due⟩ : TApiCommitment)).length)), (AV.d (eL TApiVerification.e rv5.2.2.1)), (AV.d (eL TApiOrder.e rv5.2.2.2))])), (bx (TApiBook.e (⟨[], [], [], []⟩ : TApiBook))), Ob.dead, Ob.dead, Ob.dead, (eS 7 TApiCommitment.e (rv5.2.1.set (0 + ((IntKind.i64.wrap (a1 - 1))).toNat) (⟨(rv5.2.1.getD (0 + ((IntKind.i64.wrap (a1 - 1))).toNat) default).Number, (rv5.2.1.getD (0 + ((IntKind.i64.wrap (a1 - 1))).toNat) default).Reservation, (rv5.2.1.getD (0 + ((IntKind.i64.wrap (a1 - 1))).toNat) default).Day, (rv5.2.1.getD (0 + ((IntKind.i64.wrap (a1 - 1))).toNat) default).Amount, (IntKind.i64.wrap (((rv5.2.1.getD (0 + ((IntKind.i64.wrap (a1 - 1))).toNat) default).Released) + a2)), (rv5.2.1.getD (0 + ((IntKind.i64.wrap (a1 - 1))).toNat) default).Payee, (rv5.2.1.getD (0 + ((IntKind.i64.wrap (a1 - 1))).toNat) default).Due⟩ : TApiCommitment))), Ob.dead, Ob.dead] (fun _ => ⟨by simp only, by simp only [List.length_set]⟩) <|
.guard [(rv5.2.1.set (0 + ((IntKind.i64.wrap (a1 - 1))).toNat) (⟨(rv5.2.1.getD (0 + ((IntKind.i64.wrap (a1 - 1))).toNat) default).Number, (rv5.2.1.getD (0 + ((IntKind.i64.wrap (a1 - 1))).toNat) default).Reservation, (rv5.2.1.getD (0 + ((IntKind.i64.wrap (a1 - 1))).toNat) default).Day, (rv5.2.1.getD (0 + ((IntKind.i64.wrap (a1 - 1))).toNat) default).Amount, (IntKind.i64.wrap (((rv5.2.1.getD (0 + ((IntKind.i64.wrap (a1 - 1))).toNat) default).Released) + a2)), (rv5.2.1.getD (0 + ((IntKind.i64.wrap (a1 - 1))).toNat) default).Payee, (rv5.2.1.getD (0 + ((IntKind.i64.wrap (a1 - 1))).toNat) default).Due⟩ : TApiCommitment)).length < 2 ^ 63] <|
.reg 11 [] [] [] <|
.frz 5 (.ev 0) none [] [0, 1] <|
.ret [] ((⟨rv5.1, (rv5.2.1.set (0 + ((IntKind.i64.wrap (a1 - 1))).toNat) (⟨(rv5.2.1.getD (0 + ((IntKind.i64.wrap (a1 - 1))).toNat) default).Number, (rv5.2.1.getD (0 + ((IntKind.i64.wrap (a1 - 1))).toNat) default).Reservation, (rv5.2.1.getD (0 + ((IntKind.i64.wrap (a1 - 1))).toNat) default).Day, (rv5.2.1.getD (0 + ((IntKind.i64.wrap (a1 - 1))).toNat) default).Amount, (IntKind.i64.wrap (((rv5.2.1.getD (0 + ((IntKind.i64.wrap (a1 - 1))).toNat) default).Released) + a2)), (rv5.2.1.getD (0 + ((IntKind.i64.wrap (a1 - 1))).toNat) default).Payee, (rv5.2.1.getD (0 + ((IntKind.i64.wrap (a1 - 1))).toNat) default).Due⟩ : TApiCommitment)), rv5.2.2.1, rv5.2.2.2⟩ : TApiBook), 0)))))

noncomputable def F_commitment_Drop (a0 : TApiBook) (a1 : Int) (a2 : Int) : Option R_commitment_Drop := (S_commitment_Drop a0 a1 a2).den
set_option maxRecDepth 100000 in
theorem F_commitment_Drop_ok {a0 : TApiBook} {a1 : Int} {a2 : Int} (r : R_commitment_Drop) (h : F_commitment_Drop a0 a1 a2 = some r) : CallOk Tryz.prog 27 [(AV.d (TApiBook.e a0)), (vi a1), (vi a2)] [] (V_commitment_Drop r) (L_commitment_Drop r) := fOk (s := S_commitment_Drop a0 a1 a2) Tryz.func27 rfl (by kernel_rfl) h

/-! 14 -/
abbrev R_w14_awake := Bool
def V_w14_awake (x : R_w14_awake) : AV := (vb x)
def L_w14_awake (_ : R_w14_awake) : List Ob := []
noncomputable def S_w14_awake : Scr Tryz.prog R_w14_awake R_w14_awake :=
.call (@F_commitment_Reserve_ok (⟨[], [], [], []⟩ : TApiBook) ([49]) 12 4320 100) fun rv1 cv1 =>
.reg 1 [] [(0, hv (AV.d (TApiBook.e (⟨[], [], [], []⟩ : TApiBook)))), (1, hc cv1 [] true), (5, { obs := [(0, (bx (TApiBook.e (⟨[], [], [], []⟩ : TApiBook))))] })] [.pf (p := LeV (AV.d (DV.agg [(DV.sl 0 fun _ => DV.b false), (DV.sl 0 fun _ => DV.b false), (DV.sl 0 fun _ => DV.b false), (DV.sl 0 fun _ => DV.b false)])) (AV.d (TApiBook.e (⟨[], [], [], []⟩ : TApiBook)))) (leV_dle rfl (DLe.agg (DLeL.cons DLe.sl0 (DLeL.cons DLe.sl0 (DLeL.cons DLe.sl0 (DLeL.cons DLe.sl0 DLeL.nil)))))), .cl 0 cv1 [] 0 true, .pf (p := OLe (bx (DV.agg [(DV.sl 0 fun _ => DV.b false), (DV.sl 0 fun _ => DV.b false), (DV.sl 0 fun _ => DV.b false), (DV.sl 0 fun _ => DV.b false)])) (bx (TApiBook.e (⟨[], [], [], []⟩ : TApiBook)))) (oLe_box (DLe.agg (DLeL.cons DLe.sl0 (DLeL.cons DLe.sl0 (DLeL.cons DLe.sl0 (DLeL.cons DLe.sl0 DLeL.nil))))))] <|
.call (@F_commitment_Commit_ok rv1.1 1 4330 70 3 4400) fun rv2 cv2 =>
.reg 2 [] [(1, hc cv2 [] true)] [.cl 0 cv2 [] 1 true] <|
.call (@F_commitment_Verify_ok rv2.1 1 4340 50) fun rv3 cv3 =>
.reg 3 [] [(1, hc cv3 [] true)] [.cl 0 cv3 [] 1 true] <|
.call (@F_commitment_Order_ok rv3.1 1 4350) fun rv4 cv4 =>
.reg 4 [] [(1, hc cv4 [] true)] [.cl 0 cv4 [] 1 true] <|
.call (@F_commitment_Order_ok rv4.1 1 4350) fun rv5 cv5 =>
.reg 5 [] [(1, hc cv5 [] true), (5, { obs := [(1, (bx (TApiBook.e (⟨[], [], [], []⟩ : TApiBook))))] })] [.cl 0 cv5 [] 1 true, .pf (p := OLe (bx (DV.agg [(DV.sl 0 fun _ => DV.b false), (DV.sl 0 fun _ => DV.b false), (DV.sl 0 fun _ => DV.b false), (DV.sl 0 fun _ => DV.b false)])) (bx (TApiBook.e (⟨[], [], [], []⟩ : TApiBook)))) (oLe_box (DLe.agg (DLeL.cons DLe.sl0 (DLeL.cons DLe.sl0 (DLeL.cons DLe.sl0 (DLeL.cons DLe.sl0 DLeL.nil))))))] <|
.call (@F_commitment_Sums_ok rv4.1 ([49]) 12) fun rv6 cv6 =>
.reg 6 [] [(1, hc cv6 [] true)] [.cl 0 cv6 [] 2 true] <|
.call (@F_commitment_Drop_ok rv4.1 1 20) fun rv7 cv7 =>
.reg 7 [] [(1, hc cv7 [] true), (5, { obs := [(2, (bx (TApiBook.e (⟨[], [], [], []⟩ : TApiBook))))] })] [.cl 0 cv7 [] 2 true, .pf (p := OLe (bx (DV.agg [(DV.sl 0 fun _ => DV.b false), (DV.sl 0 fun _ => DV.b false), (DV.sl 0 fun _ => DV.b false), (DV.sl 0 fun _ => DV.b false)])) (bx (TApiBook.e (⟨[], [], [], []⟩ : TApiBook)))) (oLe_box (DLe.agg (DLeL.cons DLe.sl0 (DLeL.cons DLe.sl0 (DLeL.cons DLe.sl0 (DLeL.cons DLe.sl0 DLeL.nil))))))] <|
.calld [(bif (bif (bif (bif (bif (bif (bif (bif (bif (rv1.2 == 0) then (rv2.2 == 0) else false) then (rv3.2 == 0) else false) then (rv4.2 == 0) else false) then (rv7.2 == 0) else false) then (rv5.2 == 20) else false) then (rv6.1 == 30) else false) then (rv6.2.1 == 70) else false) then (rv6.2.2.1 == 50) else false) then (rv6.2.2.2 == 50) else false) = true] default (@F_commitment_Used_ok rv4.1 ([49]) 12) fun rv8 cv8 =>
.calld [(bif (bif (bif (bif (bif (bif (bif (bif (bif (bif (rv1.2 == 0) then (rv2.2 == 0) else false) then (rv3.2 == 0) else false) then (rv4.2 == 0) else false) then (rv7.2 == 0) else false) then (rv5.2 == 20) else false) then (rv6.1 == 30) else false) then (rv6.2.1 == 70) else false) then (rv6.2.2.1 == 50) else false) then (rv6.2.2.2 == 50) else false) then (rv8 == 100) else false) = true] default (@F_commitment_Used_ok rv7.1 ([49]) 12) fun rv9 cv9 =>
.reg 8 [] [(40, hc cv8 [] true), (45, hc cv9 [] true)] [.clg 2 [(bif (bif (bif (bif (bif (bif (bif (bif (bif (rv1.2 == 0) then (rv2.2 == 0) else false) then (rv3.2 == 0) else false) then (rv4.2 == 0) else false) then (rv7.2 == 0) else false) then (rv5.2 == 20) else false) then (rv6.1 == 30) else false) then (rv6.2.1 == 70) else false) then (rv6.2.2.1 == 50) else false) then (rv6.2.2.2 == 50) else false) = true] cv8 [] 3 true, .clg 0 [(bif (bif (bif (bif (bif (bif (bif (bif (bif (bif (rv1.2 == 0) then (rv2.2 == 0) else false) then (rv3.2 == 0) else false) then (rv4.2 == 0) else false) then (rv7.2 == 0) else false) then (rv5.2 == 20) else false) then (rv6.1 == 30) else false) then (rv6.2.1 == 70) else false) then (rv6.2.2.1 == 50) else false) then (rv6.2.2.2 == 50) else false) then (rv8 == 100) else false) = true] cv9 [] 3 true] <|
.ret [] (bif (bif (bif (bif (bif (bif (bif (bif (bif (bif (bif (rv1.2 == 0) then (rv2.2 == 0) else false) then (rv3.2 == 0) else false) then (rv4.2 == 0) else false) then (rv7.2 == 0) else false) then (rv5.2 == 20) else false) then (rv6.1 == 30) else false) then (rv6.2.1 == 70) else false) then (rv6.2.2.1 == 50) else false) then (rv6.2.2.2 == 50) else false) then (rv8 == 100) else false) then (rv9 == 80) else false)

noncomputable def F_w14_awake : Option R_w14_awake := (S_w14_awake).den
set_option maxRecDepth 100000 in
theorem F_w14_awake_ok (r : R_w14_awake) (h : F_w14_awake = some r) : CallOk Tryz.prog 14 [] [] (V_w14_awake r) (L_w14_awake r) := fOk (s := S_w14_awake) Tryz.func14 rfl (by kernel_rfl) h

/-! 3 -/
abbrev R_w14_CommitmentParts := Bool
def V_w14_CommitmentParts (x : R_w14_CommitmentParts) : AV := (vb x)
def L_w14_CommitmentParts (_ : R_w14_CommitmentParts) : List Ob := []
noncomputable def S_w14_CommitmentParts_b1 (rv1 : R_mk_Book) (iv2 : Nat) (sv3 : TTreasurymakeTape) : Scr Tryz.prog R_w14_CommitmentParts (Step (TTreasurymakeTape) R_w14_CommitmentParts) :=
.reg 5 [] [] [.pf (nn iv2), .ev 0] <|
.call (@F_commitment_Left_ok rv1.1 ((rv1.1.Reservations.getD iv2 default).Number)) fun rv4 cv4 =>
.reg 6 [] [(3, hc cv4 [] true)] [.cl 0 cv4 [] 3 true] <|
.ite (((rv1.1.Reservations.getD iv2 default).Year) != 12) (
.ret [] (.cont sv3)) (
.ite (decide (rv4 < 0)) (
.ret [] (.ret false)) (
.call (@F_commitment_Commit_ok rv1.1 ((rv1.1.Reservations.getD iv2 default).Number) 4679 (IntKind.i64.wrap (rv4 + 1)) 1 4700) fun rv5 cv5 =>
.reg 10 [] [(5, hc cv5 [] true), (9, { obs := [(3, (bx (TApiBook.e (⟨[], [], [], []⟩ : TApiBook))))] })] [.cl 0 cv5 [] 3 true, .pf (p := OLe (bx (DV.agg [(DV.sl 0 fun _ => DV.b false), (DV.sl 0 fun _ => DV.b false), (DV.sl 0 fun _ => DV.b false), (DV.sl 0 fun _ => DV.b false)])) (bx (TApiBook.e (⟨[], [], [], []⟩ : TApiBook)))) (oLe_box (DLe.agg (DLeL.cons DLe.sl0 (DLeL.cons DLe.sl0 (DLeL.cons DLe.sl0 (DLeL.cons DLe.sl0 DLeL.nil))))))] <|
.ite (rv5.2 != 15) (
.ret [] (.ret false)) (
.ite (bif (decide (rv4 < 2)) then true else (decide ((rv1.1.Commitments.length : Int) > 197))) (
.ret [] (.cont sv3)) (
.call (@F_mk_Tape_Range_ok 1 (IntKind.i64.wrap (rv4 - 1)) sv3) fun rv6 cv6 =>
.reg 14 [] [(3, hc cv6 [0] false)] [.cl 0 cv6 [0] 4 false] <|
.call (@F_commitment_Commit_ok rv1.1 ((rv1.1.Reservations.getD iv2 default).Number) 4679 rv4 1 4700) fun rv7 cv7 =>
.reg 15 [] [(4, hc cv7 [] true), (8, { obs := [(4, (bx (TApiBook.e (⟨[], [], [], []⟩ : TApiBook))))] })] [.cl 0 cv7 [] 4 true, .pf (p := OLe (bx (DV.agg [(DV.sl 0 fun _ => DV.b false), (DV.sl 0 fun _ => DV.b false), (DV.sl 0 fun _ => DV.b false), (DV.sl 0 fun _ => DV.b false)])) (bx (TApiBook.e (⟨[], [], [], []⟩ : TApiBook)))) (oLe_box (DLe.agg (DLeL.cons DLe.sl0 (DLeL.cons DLe.sl0 (DLeL.cons DLe.sl0 (DLeL.cons DLe.sl0 DLeL.nil))))))] <|
.call (@F_commitment_Commit_ok rv1.1 ((rv1.1.Reservations.getD iv2 default).Number) 4679 rv6.1 1 4700) fun rv8 cv8 =>
.reg 16 [] [(4, hc cv8 [] true), (8, { obs := [(5, (bx (TApiBook.e (⟨[], [], [], []⟩ : TApiBook))))] })] [.cl 0 cv8 [] 5 true, .pf (p := OLe (bx (DV.agg [(DV.sl 0 fun _ => DV.b false), (DV.sl 0 fun _ => DV.b false), (DV.sl 0 fun _ => DV.b false), (DV.sl 0 fun _ => DV.b false)])) (bx (TApiBook.e (⟨[], [], [], []⟩ : TApiBook)))) (oLe_box (DLe.agg (DLeL.cons DLe.sl0 (DLeL.cons DLe.sl0 (DLeL.cons DLe.sl0 (DLeL.cons DLe.sl0 DLeL.nil))))))] <|
.call (@F_commitment_Commit_ok rv8.1 ((rv1.1.Reservations.getD iv2 default).Number) 4679 (IntKind.i64.wrap (rv4 - rv6.1)) 1 4700) fun rv9 cv9 =>
.reg 17 [] [(6, hc cv9 [] true), (10, { obs := [(6, (bx (TApiBook.e (⟨[], [], [], []⟩ : TApiBook))))] })] [.cl 0 cv9 [] 6 true, .pf (p := OLe (bx (DV.agg [(DV.sl 0 fun _ => DV.b false), (DV.sl 0 fun _ => DV.b false), (DV.sl 0 fun _ => DV.b false), (DV.sl 0 fun _ => DV.b false)])) (bx (TApiBook.e (⟨[], [], [], []⟩ : TApiBook)))) (oLe_box (DLe.agg (DLeL.cons DLe.sl0 (DLeL.cons DLe.sl0 (DLeL.cons DLe.sl0 (DLeL.cons DLe.sl0 DLeL.nil))))))] <|
.calld [(bif (bif (rv7.2 != 0) then true else (rv8.2 != 0)) then true else (rv9.2 != 0)) = false] default (@F_commitment_Left_ok rv7.1 ((rv1.1.Reservations.getD iv2 default).Number)) fun rv10 cv10 =>
.calld [(bif (bif (bif (rv7.2 != 0) then true else (rv8.2 != 0)) then true else (rv9.2 != 0)) then true else (rv10 != 0)) = false] default (@F_commitment_Left_ok rv9.1 ((rv1.1.Reservations.getD iv2 default).Number)) fun rv11 cv11 =>
.calld [(bif (bif (bif (bif (rv7.2 != 0) then true else (rv8.2 != 0)) then true else (rv9.2 != 0)) then true else (rv10 != 0)) then true else (rv11 != 0)) = false] default (@F_commitment_Left_ok rv8.1 ((rv1.1.Reservations.getD iv2 default).Number)) fun rv12 cv12 =>
.calld [(bif (bif (bif (bif (bif (rv7.2 != 0) then true else (rv8.2 != 0)) then true else (rv9.2 != 0)) then true else (rv10 != 0)) then true else (rv11 != 0)) then true else (rv12 != (IntKind.i64.wrap (rv4 - rv6.1)))) = false] default (@F_commitment_Used_ok rv7.1 ((rv1.1.Reservations.getD iv2 default).Code) ((rv1.1.Reservations.getD iv2 default).Year)) fun rv13 cv13 =>
.calld [(bif (bif (bif (bif (bif (rv7.2 != 0) then true else (rv8.2 != 0)) then true else (rv9.2 != 0)) then true else (rv10 != 0)) then true else (rv11 != 0)) then true else (rv12 != (IntKind.i64.wrap (rv4 - rv6.1)))) = false] default (@F_commitment_Used_ok rv9.1 ((rv1.1.Reservations.getD iv2 default).Code) ((rv1.1.Reservations.getD iv2 default).Year)) fun rv14 cv14 =>
.reg 18 [] [(14, hc cv10 [] true), (21, hc cv11 [] true), (28, hc cv12 [] true), (40, hc cv13 [] true), (46, hc cv14 [] true)] [.clg 8 [(bif (bif (rv7.2 != 0) then true else (rv8.2 != 0)) then true else (rv9.2 != 0)) = false] cv10 [] 7 true, .clg 6 [(bif (bif (bif (rv7.2 != 0) then true else (rv8.2 != 0)) then true else (rv9.2 != 0)) then true else (rv10 != 0)) = false] cv11 [] 7 true, .clg 4 [(bif (bif (bif (bif (rv7.2 != 0) then true else (rv8.2 != 0)) then true else (rv9.2 != 0)) then true else (rv10 != 0)) then true else (rv11 != 0)) = false] cv12 [] 7 true, .clg 2 [(bif (bif (bif (bif (bif (rv7.2 != 0) then true else (rv8.2 != 0)) then true else (rv9.2 != 0)) then true else (rv10 != 0)) then true else (rv11 != 0)) then true else (rv12 != (IntKind.i64.wrap (rv4 - rv6.1)))) = false] cv13 [] 7 true, .clg 0 [(bif (bif (bif (bif (bif (rv7.2 != 0) then true else (rv8.2 != 0)) then true else (rv9.2 != 0)) then true else (rv10 != 0)) then true else (rv11 != 0)) then true else (rv12 != (IntKind.i64.wrap (rv4 - rv6.1)))) = false] cv14 [] 7 true] <|
.ite (bif (bif (bif (bif (bif (bif (rv7.2 != 0) then true else (rv8.2 != 0)) then true else (rv9.2 != 0)) then true else (rv10 != 0)) then true else (rv11 != 0)) then true else (rv12 != (IntKind.i64.wrap (rv4 - rv6.1)))) then true else (rv13 != rv14)) (
.ret [] (.ret false)) (
.ret [] (.cont rv6.2))))))

noncomputable def S_w14_CommitmentParts (a0 : (List Int)) : Scr Tryz.prog R_w14_CommitmentParts R_w14_CommitmentParts :=
.call (@F_mk_New_ok a0) fun rv15 cv15 =>
.reg 1 [] [(1, hc cv15 [] false)] [.cl 0 cv15 [] 0 false] <|
.call (@F_mk_Book_ok 12 rv15) fun rv1 cv1 =>
.reg 2 [] [(1, hc cv1 [0] false), (2, { obs := [(1, (bx (TApiBook.e (⟨[], [], [], []⟩ : TApiBook))))] })] [.cl 0 cv1 [0] 1 false, .pf (p := OLe (bx (DV.agg [(DV.sl 0 fun _ => DV.b false), (DV.sl 0 fun _ => DV.b false), (DV.sl 0 fun _ => DV.b false), (DV.sl 0 fun _ => DV.b false)])) (bx (TApiBook.e (⟨[], [], [], []⟩ : TApiBook)))) (oLe_box (DLe.agg (DLeL.cons DLe.sl0 (DLeL.cons DLe.sl0 (DLeL.cons DLe.sl0 (DLeL.cons DLe.sl0 DLeL.nil))))))] <|
.range (rv1.1.Reservations.length : Int) rv1.1.Reservations.length rfl (.slot 22) 24 [3, 4, 22, 23] (fun (_ : TTreasurymakeTape) => []) (fun (sv3 : TTreasurymakeTape) => [(0, (bx (TTreasurymakeTape.e sv3)))]) rv1.2 (S_w14_CommitmentParts_b1 rv1) (fun (_ : TTreasurymakeTape) => 
.call (@F_w14_awake_ok) fun rv16 cv16 =>
.reg 21 [] [(0, hc cv16 [] true)] [.cl 0 cv16 [] 2 true] <|
.ret [] rv16) id

noncomputable def F_w14_CommitmentParts (a0 : (List Int)) : Option R_w14_CommitmentParts := (S_w14_CommitmentParts a0).den
set_option maxRecDepth 100000 in
theorem F_w14_CommitmentParts_ok {a0 : (List Int)} (r : R_w14_CommitmentParts) (h : F_w14_CommitmentParts a0 = some r) : CallOk Tryz.prog 3 [(vl a0)] [] (V_w14_CommitmentParts r) (L_w14_CommitmentParts r) := fOk (s := S_w14_CommitmentParts a0) Tryz.func3 rfl (by kernel_rfl) h

/-! 19 -/
abbrev R_commitment_Unpaid := (List TApiOwed)
def V_commitment_Unpaid (x : R_commitment_Unpaid) : AV := (AV.d (eL TApiOwed.e x))
def L_commitment_Unpaid (_ : R_commitment_Unpaid) : List Ob := []
noncomputable def S_commitment_Unpaid_b1 (a0 : TApiBook) (a1 : Int) (iv1 : Nat) (sv2 : (List TApiOwed)) : Scr Tryz.prog R_commitment_Unpaid (Step ((List TApiOwed)) R_commitment_Unpaid) :=
.reg 6 [] [] [.pf (nn iv1), .ev 0] <|
.guard [(0 : Int) ≤ (IntKind.i64.wrap (((a0.Verifications.getD iv1 default).Commitment) - 1)), ((IntKind.i64.wrap (((a0.Verifications.getD iv1 default).Commitment) - 1))).toNat < a0.Commitments.length] <|
.reg 7 [] [] [.ev 0, .ev 1] <|
.call (@F_commitment_standing_ok a0 ((a0.Verifications.getD iv1 default).Number)) fun rv3 cv3 =>
.reg 8 [] [(3, hc cv3 [] true)] [.cl 0 cv3 [] 4 true] <|
.ite (!rv3.1) (
.guard [(sv2.length + 1) * (2 * 48) ≤ 2 ^ 48] <|
.reg 10 [] [(13, hv (AV.d (eL TApiOwed.e ([(⟨a1, (a0.Verifications.getD iv1 default).Number, (IntKind.i64.wrap (rv3.2 + 1)), (a0.Commitments.getD (((IntKind.i64.wrap (((a0.Verifications.getD iv1 default).Commitment) - 1))).toNat) default).Payee, (a0.Verifications.getD iv1 default).Amount, (a0.Commitments.getD (((IntKind.i64.wrap (((a0.Verifications.getD iv1 default).Commitment) - 1))).toNat) default).Due⟩ : TApiOwed)] : List TApiOwed)))), (14, { h := .obj, cast := some (AV.ref 1 ((sv2 ++ ([(⟨a1, (a0.Verifications.getD iv1 default).Number, (IntKind.i64.wrap (rv3.2 + 1)), (a0.Commitments.getD (((IntKind.i64.wrap (((a0.Verifications.getD iv1 default).Commitment) - 1))).toNat) default).Payee, (a0.Verifications.getD iv1 default).Amount, (a0.Commitments.getD (((IntKind.i64.wrap (((a0.Verifications.getD iv1 default).Commitment) - 1))).toNat) default).Due⟩ : TApiOwed)] : List TApiOwed)).length) 0 ((sv2 ++ ([(⟨a1, (a0.Verifications.getD iv1 default).Number, (IntKind.i64.wrap (rv3.2 + 1)), (a0.Commitments.getD (((IntKind.i64.wrap (((a0.Verifications.getD iv1 default).Commitment) - 1))).toNat) default).Payee, (a0.Verifications.getD iv1 default).Amount, (a0.Commitments.getD (((IntKind.i64.wrap (((a0.Verifications.getD iv1 default).Commitment) - 1))).toNat) default).Due⟩ : TApiOwed)] : List TApiOwed)).length)), obs := [(1, (eS 6 TApiOwed.e (sv2 ++ ([(⟨a1, (a0.Verifications.getD iv1 default).Number, (IntKind.i64.wrap (rv3.2 + 1)), (a0.Commitments.getD (((IntKind.i64.wrap (((a0.Verifications.getD iv1 default).Commitment) - 1))).toNat) default).Payee, (a0.Verifications.getD iv1 default).Amount, (a0.Commitments.getD (((IntKind.i64.wrap (((a0.Verifications.getD iv1 default).Commitment) - 1))).toNat) default).Due⟩ : TApiOwed)] : List TApiOwed))))] })] [.pf (leV_lit TApiOwed.e ([(⟨a1, (a0.Verifications.getD iv1 default).Number, (IntKind.i64.wrap (rv3.2 + 1)), (a0.Commitments.getD (((IntKind.i64.wrap (((a0.Verifications.getD iv1 default).Commitment) - 1))).toNat) default).Payee, (a0.Verifications.getD iv1 default).Amount, (a0.Commitments.getD (((IntKind.i64.wrap (((a0.Verifications.getD iv1 default).Commitment) - 1))).toNat) default).Due⟩ : TApiOwed)] : List TApiOwed)), .pf (Eq.refl sv2.length), .pf (Eq.refl sv2.length), .pf (p := ∀ k, k < 1 → (AV.d (TApiOwed.e (([(⟨a1, (a0.Verifications.getD iv1 default).Number, (IntKind.i64.wrap (rv3.2 + 1)), (a0.Commitments.getD (((IntKind.i64.wrap (((a0.Verifications.getD iv1 default).Commitment) - 1))).toNat) default).Payee, (a0.Verifications.getD iv1 default).Amount, (a0.Commitments.getD (((IntKind.i64.wrap (((a0.Verifications.getD iv1 default).Commitment) - 1))).toNat) default).Due⟩ : TApiOwed)] : List TApiOwed).getD k default))).wd = 6) (fun _ _ => rfl), .ev 0, .pf (leV_app (o := 1) (l := sv2) (x := ([(⟨a1, (a0.Verifications.getD iv1 default).Number, (IntKind.i64.wrap (rv3.2 + 1)), (a0.Commitments.getD (((IntKind.i64.wrap (((a0.Verifications.getD iv1 default).Commitment) - 1))).toNat) default).Payee, (a0.Verifications.getD iv1 default).Amount, (a0.Commitments.getD (((IntKind.i64.wrap (((a0.Verifications.getD iv1 default).Commitment) - 1))).toNat) default).Due⟩ : TApiOwed)] : List TApiOwed))), .pf (oLe_app (sz := 6) (e := TApiOwed.e) (l := sv2) (x := ([(⟨a1, (a0.Verifications.getD iv1 default).Number, (IntKind.i64.wrap (rv3.2 + 1)), (a0.Commitments.getD (((IntKind.i64.wrap (((a0.Verifications.getD iv1 default).Commitment) - 1))).toNat) default).Payee, (a0.Verifications.getD iv1 default).Amount, (a0.Commitments.getD (((IntKind.i64.wrap (((a0.Verifications.getD iv1 default).Commitment) - 1))).toNat) default).Due⟩ : TApiOwed)] : List TApiOwed)))] <|
.ret [] (.cont (sv2 ++ ([(⟨a1, (a0.Verifications.getD iv1 default).Number, (IntKind.i64.wrap (rv3.2 + 1)), (a0.Commitments.getD (((IntKind.i64.wrap (((a0.Verifications.getD iv1 default).Commitment) - 1))).toNat) default).Payee, (a0.Verifications.getD iv1 default).Amount, (a0.Commitments.getD (((IntKind.i64.wrap (((a0.Verifications.getD iv1 default).Commitment) - 1))).toNat) default).Due⟩ : TApiOwed)] : List TApiOwed)))) (
.ret [] (.cont sv2))

noncomputable def S_commitment_Unpaid (a0 : TApiBook) (a1 : Int) : Scr Tryz.prog R_commitment_Unpaid R_commitment_Unpaid :=
.call (@F_commitment_Valid_ok a0) fun rv4 cv4 =>
.reg 1 [] [(1, hc cv4 [] true)] [.cl 0 cv4 [] 1 true] <|
.ite (!rv4) (
.ret [.pf (p := LeV (AV.full 0 fun _ => DV.b false) (AV.d (eL TApiOwed.e ([])))) (lvN TApiOwed.e)] ([])) (
.reg 4 [] [] [] <|
.bor 6 (fun j => AV.d (TApiOwed.e (([] : List TApiOwed).getD j default))) [5] <|
.range (a0.Verifications.length : Int) a0.Verifications.length rfl (.slot 15) 17 [1, 2, 15, 16] (fun (sv2 : (List TApiOwed)) => [(5, (AV.ref 1 sv2.length 0 sv2.length))]) (fun (sv2 : (List TApiOwed)) => [(1, (eS 6 TApiOwed.e sv2))]) ([] : List TApiOwed) (S_commitment_Unpaid_b1 a0 a1) (fun (sv2 : (List TApiOwed)) => 
.guard [sv2.length < 2 ^ 63] <|
.reg 12 [] [] [] <|
.frz 1 (.ev 0) none [4] [] <|
.ret [] sv2) id)

noncomputable def F_commitment_Unpaid (a0 : TApiBook) (a1 : Int) : Option R_commitment_Unpaid := (S_commitment_Unpaid a0 a1).den
set_option maxRecDepth 100000 in
theorem F_commitment_Unpaid_ok {a0 : TApiBook} {a1 : Int} (r : R_commitment_Unpaid) (h : F_commitment_Unpaid a0 a1 = some r) : CallOk Tryz.prog 19 [(AV.d (TApiBook.e a0)), (vi a1)] [] (V_commitment_Unpaid r) (L_commitment_Unpaid r) := fOk (s := S_commitment_Unpaid a0 a1) Tryz.func19 rfl (by kernel_rfl) h

/-! 4 -/
abbrev R_w14_CommitmentChain := Bool
def V_w14_CommitmentChain (x : R_w14_CommitmentChain) : AV := (vb x)
def L_w14_CommitmentChain (_ : R_w14_CommitmentChain) : List Ob := []
noncomputable def S_w14_CommitmentChain_b1 (sv1 : TTreasurymakeTape × TApiBook × Int × Int) : Scr Tryz.prog R_w14_CommitmentChain (Step (TTreasurymakeTape × TApiBook × Int × Int) R_w14_CommitmentChain) :=
.ite (decide (sv1.2.2.2 < 24)) (
.call (@F_mk_Tape_N_ok 12 sv1.1) fun rv2 cv2 =>
.reg 7 [] [(2, hc cv2 [0] false)] [.cl 0 cv2 [0] 2 false] <|
.call (@F_mk_BookStep_ok sv1.2.1 (IntKind.i64.wrap (sv1.2.2.1 + rv2.1)) rv2.2) fun rv3 cv3 =>
.reg 8 [] [(3, hc cv3 [0] false), (4, { obs := [(2, (bx (TApiBook.e (⟨[], [], [], []⟩ : TApiBook))))] })] [.cl 0 cv3 [0] 2 false, .pf (p := OLe (bx (DV.agg [(DV.sl 0 fun _ => DV.b false), (DV.sl 0 fun _ => DV.b false), (DV.sl 0 fun _ => DV.b false), (DV.sl 0 fun _ => DV.b false)])) (bx (TApiBook.e (⟨[], [], [], []⟩ : TApiBook)))) (oLe_box (DLe.agg (DLeL.cons DLe.sl0 (DLeL.cons DLe.sl0 (DLeL.cons DLe.sl0 (DLeL.cons DLe.sl0 DLeL.nil))))))] <|
.call (@F_commitment_Valid_ok rv3.1) fun rv4 cv4 =>
.calld [(!rv4) = false] default (@F_r14_Valid_ok rv3.1) fun rv5 cv5 =>
.reg 9 [] [(1, hc cv4 [] true), (5, hc cv5 [] true)] [.cl 2 cv4 [] 3 true, .clg 0 [(!rv4) = false] cv5 [] 3 true] <|
.ite (bif (!rv4) then true else (!rv5)) (
.ret [] (.ret false)) (
.ret [] (.cont (rv3.2, rv3.1, (IntKind.i64.wrap (sv1.2.2.1 + rv2.1)), (IntKind.i64.wrap (sv1.2.2.2 + 1)))))) (
.ret [] (.brk (sv1.1, sv1.2.1, sv1.2.2.1, sv1.2.2.2)))

noncomputable def S_w14_CommitmentChain_b2 (sv1 : TTreasurymakeTape × TApiBook × Int × Int) (iv6 : Nat) (iv7 : Nat) (sv8 : Int) : Scr Tryz.prog R_w14_CommitmentChain (Step (Int) R_w14_CommitmentChain) :=
.reg 18 [] [] [.pf (nn iv7), .ev 0] <|
.ite (bif (((sv1.2.1.Orders.getD iv7 default).Verification) == ((sv1.2.1.Verifications.getD iv6 default).Number)) then (!((sv1.2.1.Orders.getD iv7 default).Back)) else false) (
.ret [] (.cont (IntKind.i64.wrap (sv8 + 1)))) (
.ret [] (.cont sv8))

noncomputable def S_w14_CommitmentChain_b3 (sv1 : TTreasurymakeTape × TApiBook × Int × Int) (iv6 : Nat) (rv9 : R_commitment_Unpaid) (iv10 : Nat) (sv11 : Int) : Scr Tryz.prog R_w14_CommitmentChain (Step (Int) R_w14_CommitmentChain) :=
.reg 25 [] [] [.pf (nn iv10), .ev 0] <|
.ite (bif (bif (((rv9.getD iv10 default).Verification) == ((sv1.2.1.Verifications.getD iv6 default).Number)) then (((rv9.getD iv10 default).Amount) == ((sv1.2.1.Verifications.getD iv6 default).Amount)) else false) then (((rv9.getD iv10 default).Office) == 7) else false) (
.ret [] (.cont (IntKind.i64.wrap (sv11 + 1)))) (
.ret [] (.cont sv11))

noncomputable def S_w14_CommitmentChain_b4 (sv1 : TTreasurymakeTape × TApiBook × Int × Int) (iv6 : Nat) (_ : Unit) : Scr Tryz.prog R_w14_CommitmentChain (Step (Unit) R_w14_CommitmentChain) :=
.reg 14 [] [] [.pf (nn iv6), .ev 0] <|
.range (sv1.2.1.Orders.length : Int) sv1.2.1.Orders.length rfl (.slot 49) 51 [4, 5, 9, 42, 43, 44, 49, 50] (fun (sv8 : Int) => [(10, (vi sv8))]) (fun (_ : Int) => []) 0 (S_w14_CommitmentChain_b2 sv1 iv6) (fun (sv8 : Int) => 
.call (@F_commitment_Unpaid_ok sv1.2.1 7) fun rv9 cv9 =>
.reg 23 [] [(1, hc cv9 [] true)] [.cl 0 cv9 [] 3 true] <|
.range (rv9.length : Int) rv9.length rfl (.slot 69) 71 [4, 5, 9, 10, 42, 43, 44, 69, 70] (fun (sv11 : Int) => [(13, (vi sv11))]) (fun (_ : Int) => []) 0 (S_w14_CommitmentChain_b3 sv1 iv6 rv9) (fun (sv11 : Int) => 
.ite (bif (decide (sv8 > 1)) then true else ((IntKind.i64.wrap (sv8 + sv11)) != 1)) (
.ret [] (.ret false)) (
.call (@F_commitment_Order_ok sv1.2.1 ((sv1.2.1.Verifications.getD iv6 default).Number) (if ((sv1.2.1.Verifications.getD iv6 default).Day) > sv1.2.2.1 then ((sv1.2.1.Verifications.getD iv6 default).Day) else sv1.2.2.1)) fun rv12 cv12 =>
.reg 31 [] [(7, hc cv12 [] true), (11, { obs := [(3, (bx (TApiBook.e (⟨[], [], [], []⟩ : TApiBook))))] })] [.cl 0 cv12 [] 3 true, .pf (p := OLe (bx (DV.agg [(DV.sl 0 fun _ => DV.b false), (DV.sl 0 fun _ => DV.b false), (DV.sl 0 fun _ => DV.b false), (DV.sl 0 fun _ => DV.b false)])) (bx (TApiBook.e (⟨[], [], [], []⟩ : TApiBook)))) (oLe_box (DLe.agg (DLeL.cons DLe.sl0 (DLeL.cons DLe.sl0 (DLeL.cons DLe.sl0 (DLeL.cons DLe.sl0 DLeL.nil))))))] <|
.ite (bif (bif (sv8 == 1) then (rv12.2 != 20) else false) then (rv12.2 != 16) else false) (
.ret [] (.ret false)) (
.ret [] (.cont ())))) .ret) .ret

noncomputable def S_w14_CommitmentChain (a0 : (List Int)) : Scr Tryz.prog R_w14_CommitmentChain R_w14_CommitmentChain :=
.call (@F_mk_New_ok a0) fun rv13 cv13 =>
.reg 1 [] [(1, hc cv13 [] false)] [.cl 0 cv13 [] 0 false] <|
.reg 2 [] [(0, { obs := [(1, (bx (TApiBook.e (⟨[], [], [], []⟩ : TApiBook))))] })] [.pf (p := OLe (bx (DV.agg [(DV.sl 0 fun _ => DV.b false), (DV.sl 0 fun _ => DV.b false), (DV.sl 0 fun _ => DV.b false), (DV.sl 0 fun _ => DV.b false)])) (bx (TApiBook.e (⟨[], [], [], []⟩ : TApiBook)))) (oLe_box (DLe.agg (DLeL.cons DLe.sl0 (DLeL.cons DLe.sl0 (DLeL.cons DLe.sl0 (DLeL.cons DLe.sl0 DLeL.nil))))))] <|
.iter [3, 4] (fun (sv1 : TTreasurymakeTape × TApiBook × Int × Int) => [(5, (vi sv1.2.2.1)), (6, (vi sv1.2.2.2))]) (fun (sv1 : TTreasurymakeTape × TApiBook × Int × Int) => [(0, (bx (TTreasurymakeTape.e sv1.1))), (1, (bx (TApiBook.e sv1.2.1)))]) (rv13, (⟨[], [], [], []⟩ : TApiBook), 4320, 0) S_w14_CommitmentChain_b1 (fun (sv1 : TTreasurymakeTape × TApiBook × Int × Int) =>
.range (sv1.2.1.Verifications.length : Int) sv1.2.1.Verifications.length rfl (.slot 42) 44 [4, 5, 42, 43] (fun (_ : Unit) => []) (fun (_ : Unit) => []) () (S_w14_CommitmentChain_b4 sv1) (fun (_ : Unit) => 
.call (@F_w14_awake_ok) fun rv14 cv14 =>
.reg 35 [] [(0, hc cv14 [] true)] [.cl 0 cv14 [] 2 true] <|
.ret [] rv14) id) id

noncomputable def F_w14_CommitmentChain (a0 : (List Int)) : Option R_w14_CommitmentChain := (S_w14_CommitmentChain a0).den
set_option maxRecDepth 100000 in
theorem F_w14_CommitmentChain_ok {a0 : (List Int)} (r : R_w14_CommitmentChain) (h : F_w14_CommitmentChain a0 = some r) : CallOk Tryz.prog 4 [(vl a0)] [] (V_w14_CommitmentChain r) (L_w14_CommitmentChain r) := fOk (s := S_w14_CommitmentChain a0) Tryz.func4 rfl (by kernel_rfl) h

/-! 25 -/
abbrev R_commitment_Release := TApiBook × Int
def V_commitment_Release (x : R_commitment_Release) : AV := (AV.tup [(AV.d (TApiBook.e x.1)), (vi x.2)])
def L_commitment_Release (_ : R_commitment_Release) : List Ob := []
noncomputable def S_commitment_Release (a0 : TApiBook) (a1 : Int) (a2 : Int) : Scr Tryz.prog R_commitment_Release R_commitment_Release :=
.reg 0 [] [(1, { obs := [(1, (bx (TApiBook.e (⟨[], [], [], []⟩ : TApiBook))))] })] [.pf (p := OLe (bx (DV.agg [(DV.sl 0 fun _ => DV.b false), (DV.sl 0 fun _ => DV.b false), (DV.sl 0 fun _ => DV.b false), (DV.sl 0 fun _ => DV.b false)])) (bx (TApiBook.e (⟨[], [], [], []⟩ : TApiBook)))) (oLe_box (DLe.agg (DLeL.cons DLe.sl0 (DLeL.cons DLe.sl0 (DLeL.cons DLe.sl0 (DLeL.cons DLe.sl0 DLeL.nil))))))] <|
.call (@F_commitment_Valid_ok a0) fun rv1 cv1 =>
.reg 1 [] [(1, hc cv1 [] true)] [.cl 0 cv1 [] 2 true] <|
.ite (!rv1) (
.reg 2 [] [(0, hv (AV.d (TApiBook.e (⟨[], [], [], []⟩ : TApiBook))))] [.pf (p := LeV (AV.d (DV.agg [(DV.sl 0 fun _ => DV.b false), (DV.sl 0 fun _ => DV.b false), (DV.sl 0 fun _ => DV.b false), (DV.sl 0 fun _ => DV.b false)])) (AV.d (TApiBook.e (⟨[], [], [], []⟩ : TApiBook)))) (leV_dle rfl (DLe.agg (DLeL.cons DLe.sl0 (DLeL.cons DLe.sl0 (DLeL.cons DLe.sl0 (DLeL.cons DLe.sl0 DLeL.nil))))))] <|
.ret [] ((⟨[], [], [], []⟩ : TApiBook), 1)) (
.call (@F_commitment_among_ok a1 1 (a0.Reservations.length : Int)) fun rv2 cv2 =>
.reg 3 [] [(4, hc cv2 [] true)] [.cl 0 cv2 [] 2 true] <|
.ite (!rv2) (
.reg 4 [] [(0, hv (AV.d (TApiBook.e (⟨[], [], [], []⟩ : TApiBook))))] [.pf (p := LeV (AV.d (DV.agg [(DV.sl 0 fun _ => DV.b false), (DV.sl 0 fun _ => DV.b false), (DV.sl 0 fun _ => DV.b false), (DV.sl 0 fun _ => DV.b false)])) (AV.d (TApiBook.e (⟨[], [], [], []⟩ : TApiBook)))) (leV_dle rfl (DLe.agg (DLeL.cons DLe.sl0 (DLeL.cons DLe.sl0 (DLeL.cons DLe.sl0 (DLeL.cons DLe.sl0 DLeL.nil))))))] <|
.ret [] ((⟨[], [], [], []⟩ : TApiBook), 6)) (
.call (@F_commitment_amount_ok a2) fun rv3 cv3 =>
.reg 5 [] [(1, hc cv3 [] true)] [.cl 0 cv3 [] 2 true] <|
.ite (!rv3) (
.reg 6 [] [(0, hv (AV.d (TApiBook.e (⟨[], [], [], []⟩ : TApiBook))))] [.pf (p := LeV (AV.d (DV.agg [(DV.sl 0 fun _ => DV.b false), (DV.sl 0 fun _ => DV.b false), (DV.sl 0 fun _ => DV.b false), (DV.sl 0 fun _ => DV.b false)])) (AV.d (TApiBook.e (⟨[], [], [], []⟩ : TApiBook)))) (leV_dle rfl (DLe.agg (DLeL.cons DLe.sl0 (DLeL.cons DLe.sl0 (DLeL.cons DLe.sl0 (DLeL.cons DLe.sl0 DLeL.nil))))))] <|
.ret [] ((⟨[], [], [], []⟩ : TApiBook), 2)) (
.call (@F_commitment_Left_ok a0 a1) fun rv4 cv4 =>
.reg 7 [] [(3, hc cv4 [] true)] [.cl 0 cv4 [] 2 true] <|
.ite (decide (a2 > rv4)) (
.reg 8 [] [(0, hv (AV.d (TApiBook.e (⟨[], [], [], []⟩ : TApiBook))))] [.pf (p := LeV (AV.d (DV.agg [(DV.sl 0 fun _ => DV.b false), (DV.sl 0 fun _ => DV.b false), (DV.sl 0 fun _ => DV.b false), (DV.sl 0 fun _ => DV.b false)])) (AV.d (TApiBook.e (⟨[], [], [], []⟩ : TApiBook)))) (leV_dle rfl (DLe.agg (DLeL.cons DLe.sl0 (DLeL.cons DLe.sl0 (DLeL.cons DLe.sl0 (DLeL.cons DLe.sl0 DLeL.nil))))))] <|
.ret [] ((⟨[], [], [], []⟩ : TApiBook), 15)) (
.call (@F_commitment_copied_rw_ok a0) fun rv5 cv5 =>
.reg 9 [] [(1, hc cv5 [] false)] [.cl 0 cv5 [] 2 false] <|
.kill 3 <|
.guard [rv5.2.1.length < 2 ^ 63] <|
.frz 5 (.ev 0) none [] [0] <|
.guard [rv5.2.2.1.length < 2 ^ 63] <|
.frz 6 (.ev 0) none [] [0] <|
.guard [rv5.2.2.2.length < 2 ^ 63] <|
.frz 7 (.ev 0) none [] [0] <|
.guard [(0 : Int) ≤ (IntKind.i64.wrap (a1 - 1)), ((IntKind.i64.wrap (a1 - 1))).toNat < rv5.1.length, (0 + ((IntKind.i64.wrap (a1 - 1))).toNat) < rv5.1.length] <|
.reg 10 [] [(11, { obs := [(4, (eS 6 TApiReservation.e (rv5.1.set (0 + ((IntKind.i64.wrap (a1 - 1))).toNat) (⟨(rv5.1.getD (0 + ((IntKind.i64.wrap (a1 - 1))).toNat) default).Number, (rv5.1.getD (0 + ((IntKind.i64.wrap (a1 - 1))).toNat) default).Code, (rv5.1.getD (0 + ((IntKind.i64.wrap (a1 - 1))).toNat) default).Year, (rv5.1.getD (0 + ((IntKind.i64.wrap (a1 - 1))).toNat) default).Day, (rv5.1.getD (0 + ((IntKind.i64.wrap (a1 - 1))).toNat) default).Amount, (IntKind.i64.wrap (((rv5.1.getD (0 + ((IntKind.i64.wrap (a1 - 1))).toNat) default).Released) + a2))⟩ : TApiReservation))))] })] [.pf (Eq.refl rv5.1.length), .ev 0, .ev 1, .pf (Eq.refl rv5.1.length), .pf (Eq.refl rv5.1.length), .ev 2, .pf (Eq.refl rv5.1.length), .ev 0, .ev 1, .pf (Eq.refl rv5.1.length), .pf (Eq.refl rv5.1.length), .ev 2, .pf (oLe_set (sz := 6) (e := TApiReservation.e) (l := rv5.1) (i := (0 + ((IntKind.i64.wrap (a1 - 1))).toNat)) (x := (⟨(rv5.1.getD (0 + ((IntKind.i64.wrap (a1 - 1))).toNat) default).Number, (rv5.1.getD (0 + ((IntKind.i64.wrap (a1 - 1))).toNat) default).Code, (rv5.1.getD (0 + ((IntKind.i64.wrap (a1 - 1))).toNat) default).Year, (rv5.1.getD (0 + ((IntKind.i64.wrap (a1 - 1))).toNat) default).Day, (rv5.1.getD (0 + ((IntKind.i64.wrap (a1 - 1))).toNat) default).Amount, (IntKind.i64.wrap (((rv5.1.getD (0 + ((IntKind.i64.wrap (a1 - 1))).toNat) default).Released) + a2))⟩ : TApiReservation)) (fun _ => rfl))] <|
.cst (A := True) (.pf trivial) [(3, (vp 0)), (6, (vp 1))] [(3, (vp 0)), (6, (vp 1))] [(Ob.box (AV.agg [(AV.ref 4 rv5.1.length 0 rv5.1.length), (AV.d (eL TApiCommitment.e rv5.2.1)), (AV.d (eL TApiVerification.e rv5.2.2.1)), (AV.d (eL TApiOrder.e rv5.2.2.2))])), (bx (TApiBook.e (⟨[], [], [], []⟩ : TApiBook))), Ob.dead, Ob.dead, (eS 6 TApiReservation.e (rv5.1.set (0 + ((IntKind.i64.wrap (a1 - 1))).toNat) (⟨(rv5.1.getD (0 + ((IntKind.i64.wrap (a1 - 1))).toNat) default).Number, (rv5.1.getD (0 + ((IntKind.i64.wrap (a1 - 1))).toNat) default).Code, (rv5.1.getD (0 + ((IntKind.i64.wrap (a1 - 1))).toNat) default).Year, (rv5.1.getD (0 + ((IntKind.i64.wrap (a1 - 1))).toNat) default).Day, (rv5.1.getD (0 + ((IntKind.i64.wrap (a1 - 1))).toNat) default).Amount, (IntKind.i64.wrap (((rv5.1.getD (0 + ((IntKind.i64.wrap (a1 - 1))).toNat) default).Released) + a2))⟩ : TApiReservation))), Ob.dead, Ob.dead, Ob.dead] [(Ob.box (AV.agg [(AV.ref 4 ((rv5.1.set (0 + ((IntKind.i64.wrap (a1 - 1))).toNat) (⟨(rv5.1.getD (0 + ((IntKind.i64.wrap (a1 - 1))).toNat) default).Number, (rv5.1.getD (0 + ((IntKind.i64.wrap (a1 - 1))).toNat) default).Code, (rv5.1.getD (0 + ((IntKind.i64.wrap (a1 - 1))).toNat) default).Year, (rv5.1.getD (0 + ((IntKind.i64.wrap (a1 - 1))).toNat) default).Day, (rv5.1.getD (0 + ((IntKind.i64.wrap (a1 - 1))).toNat) default).Amount, (IntKind.i64.wrap (((rv5.1.getD (0 + ((IntKind.i64.wrap (a1 - 1))).toNat) default).Released) + a2))⟩ : TApiReservation)).length) 0 ((rv5.1.set (0 + ((IntKind.i64.wrap (a1 - 1))).toNat) (⟨(rv5.1.getD (0 + ((IntKind.i64.wrap (a1 - 1))).toNat) default).Number, (rv5.1.getD (0 + ((IntKind.i64.wrap (a1 - 1))).toNat) default).Code, (rv5.1.getD (0 + ((IntKind.i64.wrap (a1 - 1))).toNat) default).Year, (rv5.1.getD (0 + ((IntKind.i64.wrap (a1 - 1))).toNat) default).Day, (rv5.1.getD (0 + ((IntKind.i64.wrap (a1 - 1))).toNat) default).Amount, (IntKind.i64.wrap (((rv5.1.getD (0 + ((IntKind.i64.wrap (a1 - 1))).toNat) default).Released) + a2))⟩ : TApiReservation)).length)), (AV.d (eL TApiCommitment.e rv5.2.1)), (AV.d (eL TApiVerification.e rv5.2.2.1)), (AV.d (eL TApiOrder.e rv5.2.2.2))])), (bx (TApiBook.e (⟨[], [], [], []⟩ : TApiBook))), Ob.dead, Ob.dead, (eS 6 TApiReservation.e (rv5.1.set (0 + ((IntKind.i64.wrap (a1 - 1))).toNat) (⟨(rv5.1.getD (0 + ((IntKind.i64.wrap (a1 - 1))).toNat) default).Number, (rv5.1.getD (0 + ((IntKind.i64.wrap (a1 - 1))).toNat) default).Code, (rv5.1.getD (0 + ((IntKind.i64.wrap (a1 - 1))).toNat) default).Year, (rv5.1.getD (0 + ((IntKind.i64.wrap (a1 - 1))).toNat) default).Day, (rv5.1.getD (0 + ((IntKind.i64.wrap (a1 - 1))).toNat) default).Amount, (IntKind.i64.wrap (((rv5.1.getD (0 + ((IntKind.i64.wrap (a1 - 1))).toNat) default).Released) + a2))⟩ : TApiReservation))), Ob.dead, Ob.dead, Ob.dead] (fun _ => ⟨by simp only, by simp only [List.length_set]⟩) <|
.guard [(rv5.1.set (0 + ((IntKind.i64.wrap (a1 - 1))).toNat) (⟨(rv5.1.getD (0 + ((IntKind.i64.wrap (a1 - 1))).toNat) default).Number, (rv5.1.getD (0 + ((IntKind.i64.wrap (a1 - 1))).toNat) default).Code, (rv5.1.getD (0 + ((IntKind.i64.wrap (a1 - 1))).toNat) default).Year, (rv5.1.getD (0 + ((IntKind.i64.wrap (a1 - 1))).toNat) default).Day, (rv5.1.getD (0 + ((IntKind.i64.wrap (a1 - 1))).toNat) default).Amount, (IntKind.i64.wrap (((rv5.1.getD (0 + ((IntKind.i64.wrap (a1 - 1))).toNat) default).Released) + a2))⟩ : TApiReservation)).length < 2 ^ 63] <|
.reg 11 [] [] [] <|
.frz 4 (.ev 0) none [] [0, 1] <|
.ret [] ((⟨(rv5.1.set (0 + ((IntKind.i64.wrap (a1 - 1))).toNat) (⟨(rv5.1.getD (0 + ((IntKind.i64.wrap (a1 - 1))).toNat) default).Number, (rv5.1.getD (0 + ((IntKind.i64.wrap (a1 - 1))).toNat) default).Code, (rv5.1.getD (0 + ((IntKind.i64.wrap (a1 - 1))).toNat) default).Year, (rv5.1.getD (0 + ((IntKind.i64.wrap (a1 - 1))).toNat) default).Day, (rv5.1.getD (0 + ((IntKind.i64.wrap (a1 - 1))).toNat) default).Amount, (IntKind.i64.wrap (((rv5.1.getD (0 + ((IntKind.i64.wrap (a1 - 1))).toNat) default).Released) + a2))⟩ : TApiReservation)), rv5.2.1, rv5.2.2.1, rv5.2.2.2⟩ : TApiBook), 0)))))

noncomputable def F_commitment_Release (a0 : TApiBook) (a1 : Int) (a2 : Int) : Option R_commitment_Release := (S_commitment_Release a0 a1 a2).den
set_option maxRecDepth 100000 in
theorem F_commitment_Release_ok {a0 : TApiBook} {a1 : Int} {a2 : Int} (r : R_commitment_Release) (h : F_commitment_Release a0 a1 a2 = some r) : CallOk Tryz.prog 25 [(AV.d (TApiBook.e a0)), (vi a1), (vi a2)] [] (V_commitment_Release r) (L_commitment_Release r) := fOk (s := S_commitment_Release a0 a1 a2) Tryz.func25 rfl (by kernel_rfl) h

/-! 26 -/
abbrev R_w14_mine := Int
def V_w14_mine (x : R_w14_mine) : AV := (vi x)
def L_w14_mine (_ : R_w14_mine) : List Ob := []
noncomputable def S_w14_mine (a0 : TApiBook) (a1 : Int) (a2 : List UInt8) (a3 : Int) : Scr Tryz.prog R_w14_mine R_w14_mine :=
.guard [(0 : Int) ≤ (IntKind.i64.wrap (a1 - 1)), ((IntKind.i64.wrap (a1 - 1))).toNat < a0.Reservations.length] <|
.reg 1 [] [] [.ev 0, .ev 1] <|
.ite (bif (((a0.Reservations.getD (((IntKind.i64.wrap (a1 - 1))).toNat) default).Code) == a2) then (((a0.Reservations.getD (((IntKind.i64.wrap (a1 - 1))).toNat) default).Year) == 12) else false) (
.ret [] a3) (
.ret [] 0)

noncomputable def F_w14_mine (a0 : TApiBook) (a1 : Int) (a2 : List UInt8) (a3 : Int) : Option R_w14_mine := (S_w14_mine a0 a1 a2 a3).den
set_option maxRecDepth 100000 in
theorem F_w14_mine_ok {a0 : TApiBook} {a1 : Int} {a2 : List UInt8} {a3 : Int} (r : R_w14_mine) (h : F_w14_mine a0 a1 a2 a3 = some r) : CallOk Tryz.prog 26 [(AV.d (TApiBook.e a0)), (vi a1), (AV.d (DV.str a2)), (vi a3)] [] (V_w14_mine r) (L_w14_mine r) := fOk (s := S_w14_mine a0 a1 a2 a3) Tryz.func26 rfl (by kernel_rfl) h

/-! 5 -/
abbrev R_w14_CommitmentUsed := Bool
def V_w14_CommitmentUsed (x : R_w14_CommitmentUsed) : AV := (vb x)
def L_w14_CommitmentUsed (_ : R_w14_CommitmentUsed) : List Ob := []
noncomputable def S_w14_CommitmentUsed_b1 (rv1 : R_mk_Book) (rv2 : R_mk_PotCode) (rv3 : R_commitment_Used) (rv4 : R_mk_Tape_N) (rv5 : R_mk_Tape_Range) (sv6 : Int) : Scr Tryz.prog R_w14_CommitmentUsed (Step (Int) R_w14_CommitmentUsed) :=
.ite (decide (sv6 ≤ 3)) (
.call (@F_commitment_Commit_ok rv1.1 sv6 4679 rv5.1 1 (IntKind.i64.wrap (4320 + rv4.1))) fun rv7 cv7 =>
.reg 15 [] [(4, hc cv7 [] true), (8, { obs := [(3, (bx (TApiBook.e (⟨[], [], [], []⟩ : TApiBook))))] })] [.cl 0 cv7 [] 3 true, .pf (p := OLe (bx (DV.agg [(DV.sl 0 fun _ => DV.b false), (DV.sl 0 fun _ => DV.b false), (DV.sl 0 fun _ => DV.b false), (DV.sl 0 fun _ => DV.b false)])) (bx (TApiBook.e (⟨[], [], [], []⟩ : TApiBook)))) (oLe_box (DLe.agg (DLeL.cons DLe.sl0 (DLeL.cons DLe.sl0 (DLeL.cons DLe.sl0 (DLeL.cons DLe.sl0 DLeL.nil))))))] <|
.calld [(rv7.2 == 0) = true] default (@F_commitment_Used_ok rv7.1 rv2.1 12) fun rv8 cv8 =>
.reg 16 [] [(5, hc cv8 [] true)] [.clg 0 [(rv7.2 == 0) = true] cv8 [] 4 true] <|
.ite (bif (rv7.2 == 0) then (rv8 != rv3) else false) (
.ret [] (.ret false)) (
.call (@F_commitment_Verify_ok rv1.1 sv6 4679 rv5.1) fun rv9 cv9 =>
.reg 18 [] [(3, hc cv9 [] true), (7, { obs := [(4, (bx (TApiBook.e (⟨[], [], [], []⟩ : TApiBook))))] })] [.cl 0 cv9 [] 4 true, .pf (p := OLe (bx (DV.agg [(DV.sl 0 fun _ => DV.b false), (DV.sl 0 fun _ => DV.b false), (DV.sl 0 fun _ => DV.b false), (DV.sl 0 fun _ => DV.b false)])) (bx (TApiBook.e (⟨[], [], [], []⟩ : TApiBook)))) (oLe_box (DLe.agg (DLeL.cons DLe.sl0 (DLeL.cons DLe.sl0 (DLeL.cons DLe.sl0 (DLeL.cons DLe.sl0 DLeL.nil))))))] <|
.calld [(rv9.2 == 0) = true] default (@F_commitment_Used_ok rv9.1 rv2.1 12) fun rv10 cv10 =>
.reg 19 [] [(5, hc cv10 [] true)] [.clg 0 [(rv9.2 == 0) = true] cv10 [] 5 true] <|
.ite (bif (rv9.2 == 0) then (rv10 != rv3) else false) (
.ret [] (.ret false)) (
.call (@F_commitment_Order_ok rv1.1 sv6 4679) fun rv11 cv11 =>
.reg 21 [] [(2, hc cv11 [] true), (6, { obs := [(5, (bx (TApiBook.e (⟨[], [], [], []⟩ : TApiBook))))] })] [.cl 0 cv11 [] 5 true, .pf (p := OLe (bx (DV.agg [(DV.sl 0 fun _ => DV.b false), (DV.sl 0 fun _ => DV.b false), (DV.sl 0 fun _ => DV.b false), (DV.sl 0 fun _ => DV.b false)])) (bx (TApiBook.e (⟨[], [], [], []⟩ : TApiBook)))) (oLe_box (DLe.agg (DLeL.cons DLe.sl0 (DLeL.cons DLe.sl0 (DLeL.cons DLe.sl0 (DLeL.cons DLe.sl0 DLeL.nil))))))] <|
.calld [(rv11.2 == 0) = true] default (@F_commitment_Used_ok rv11.1 rv2.1 12) fun rv12 cv12 =>
.reg 22 [] [(5, hc cv12 [] true)] [.clg 0 [(rv11.2 == 0) = true] cv12 [] 6 true] <|
.ite (bif (rv11.2 == 0) then (rv12 != rv3) else false) (
.ret [] (.ret false)) (
.call (@F_commitment_Release_ok rv1.1 sv6 rv5.1) fun rv13 cv13 =>
.reg 24 [] [(3, hc cv13 [] true), (7, { obs := [(6, (bx (TApiBook.e (⟨[], [], [], []⟩ : TApiBook))))] })] [.cl 0 cv13 [] 6 true, .pf (p := OLe (bx (DV.agg [(DV.sl 0 fun _ => DV.b false), (DV.sl 0 fun _ => DV.b false), (DV.sl 0 fun _ => DV.b false), (DV.sl 0 fun _ => DV.b false)])) (bx (TApiBook.e (⟨[], [], [], []⟩ : TApiBook)))) (oLe_box (DLe.agg (DLeL.cons DLe.sl0 (DLeL.cons DLe.sl0 (DLeL.cons DLe.sl0 (DLeL.cons DLe.sl0 DLeL.nil))))))] <|
.calld [(bif (rv13.2 == 0) then (decide (sv6 ≤ (rv1.1.Reservations.length : Int))) else false) = true] default (@F_commitment_Used_ok rv13.1 rv2.1 12) fun rv14 cv14 =>
.calld [(bif (rv13.2 == 0) then (decide (sv6 ≤ (rv1.1.Reservations.length : Int))) else false) = true] default (@F_w14_mine_ok rv1.1 sv6 rv2.1 rv5.1) fun rv15 cv15 =>
.reg 25 [] [(12, hc cv14 [] true), (18, hc cv15 [] true)] [.clg 2 [(bif (rv13.2 == 0) then (decide (sv6 ≤ (rv1.1.Reservations.length : Int))) else false) = true] cv14 [] 7 true, .clg 0 [(bif (rv13.2 == 0) then (decide (sv6 ≤ (rv1.1.Reservations.length : Int))) else false) = true] cv15 [] 7 true] <|
.ite (bif (bif (rv13.2 == 0) then (decide (sv6 ≤ (rv1.1.Reservations.length : Int))) else false) then (rv14 != (IntKind.i64.wrap (rv3 - rv15))) else false) (
.ret [] (.ret false)) (
.call (@F_commitment_Drop_ok rv1.1 sv6 rv5.1) fun rv16 cv16 =>
.reg 27 [] [(3, hc cv16 [] true), (7, { obs := [(7, (bx (TApiBook.e (⟨[], [], [], []⟩ : TApiBook))))] })] [.cl 0 cv16 [] 7 true, .pf (p := OLe (bx (DV.agg [(DV.sl 0 fun _ => DV.b false), (DV.sl 0 fun _ => DV.b false), (DV.sl 0 fun _ => DV.b false), (DV.sl 0 fun _ => DV.b false)])) (bx (TApiBook.e (⟨[], [], [], []⟩ : TApiBook)))) (oLe_box (DLe.agg (DLeL.cons DLe.sl0 (DLeL.cons DLe.sl0 (DLeL.cons DLe.sl0 (DLeL.cons DLe.sl0 DLeL.nil))))))] <|
.calld [(bif (rv16.2 == 0) then (decide (sv6 ≤ (rv1.1.Commitments.length : Int))) else false) = true] default (@F_commitment_Used_ok rv16.1 rv2.1 12) fun rv17 cv17 =>
.calld [(bif (rv16.2 == 0) then (decide (sv6 ≤ (rv1.1.Commitments.length : Int))) else false) = true] default (@F_w14_mine_ok rv1.1 ((rv1.1.Commitments.getD (((IntKind.i64.wrap (sv6 - 1))).toNat) default).Reservation) rv2.1 rv5.1) fun rv18 cv18 =>
.guard [AllP [(bif (rv16.2 == 0) then (decide (sv6 ≤ (rv1.1.Commitments.length : Int))) else false) = true] → ((0 : Int) ≤ (IntKind.i64.wrap (sv6 - 1))), AllP [(bif (rv16.2 == 0) then (decide (sv6 ≤ (rv1.1.Commitments.length : Int))) else false) = true] → (((IntKind.i64.wrap (sv6 - 1))).toNat < rv1.1.Commitments.length)] <|
.reg 28 [] [(12, hc cv17 [] true), (24, hc cv18 [] true)] [.clg 4 [(bif (rv16.2 == 0) then (decide (sv6 ≤ (rv1.1.Commitments.length : Int))) else false) = true] cv17 [] 8 true, .ev 0, .ev 1, .clg 2 [(bif (rv16.2 == 0) then (decide (sv6 ≤ (rv1.1.Commitments.length : Int))) else false) = true] cv18 [] 8 true] <|
.ite (bif (bif (rv16.2 == 0) then (decide (sv6 ≤ (rv1.1.Commitments.length : Int))) else false) then (rv17 != (IntKind.i64.wrap (rv3 - rv18))) else false) (
.ret [] (.ret false)) (
.ret [] (.cont (IntKind.i64.wrap (sv6 + 1))))))))) (
.ret [] (.brk sv6))

noncomputable def S_w14_CommitmentUsed (a0 : (List Int)) : Scr Tryz.prog R_w14_CommitmentUsed R_w14_CommitmentUsed :=
.call (@F_mk_New_ok a0) fun rv19 cv19 =>
.reg 1 [] [(1, hc cv19 [] false)] [.cl 0 cv19 [] 0 false] <|
.call (@F_mk_Book_ok 20 rv19) fun rv1 cv1 =>
.reg 2 [] [(1, hc cv1 [0] false), (2, { obs := [(1, (bx (TApiBook.e (⟨[], [], [], []⟩ : TApiBook))))] })] [.cl 0 cv1 [0] 1 false, .pf (p := OLe (bx (DV.agg [(DV.sl 0 fun _ => DV.b false), (DV.sl 0 fun _ => DV.b false), (DV.sl 0 fun _ => DV.b false), (DV.sl 0 fun _ => DV.b false)])) (bx (TApiBook.e (⟨[], [], [], []⟩ : TApiBook)))) (oLe_box (DLe.agg (DLeL.cons DLe.sl0 (DLeL.cons DLe.sl0 (DLeL.cons DLe.sl0 (DLeL.cons DLe.sl0 DLeL.nil))))))] <|
.call (@F_mk_PotCode_ok rv1.2) fun rv2 cv2 =>
.reg 3 [] [(1, hc cv2 [0] false)] [.cl 0 cv2 [0] 2 false] <|
.call (@F_commitment_Sums_ok rv1.1 rv2.1 12) fun rv20 cv20 =>
.reg 4 [] [(2, hc cv20 [] true)] [.cl 0 cv20 [] 2 true] <|
.call (@F_commitment_Used_ok rv1.1 rv2.1 12) fun rv3 cv3 =>
.reg 5 [] [(2, hc cv3 [] true)] [.cl 0 cv3 [] 2 true] <|
.ite (bif (bif (bif (rv3 != (IntKind.i64.wrap (rv20.1 + rv20.2.1))) then true else (decide (rv20.2.2.1 > rv20.2.1))) then true else (decide (rv20.2.2.2 > rv20.2.2.1))) then true else (decide (rv20.1 < 0))) (
.ret [] false) (
.call (@F_mk_Tape_N_ok 360 rv2.2) fun rv4 cv4 =>
.call (@F_mk_Tape_Range_ok 1 60 rv4.2) fun rv5 cv5 =>
.reg 8 [] [(1, hc cv4 [0] false), (4, hc cv5 [0] false)] [.cl 1 cv4 [0] 2 false, .cl 0 cv5 [0] 2 false] <|
.call (@F_commitment_Reserve_ok rv1.1 rv2.1 12 (IntKind.i64.wrap (4320 + rv4.1)) rv5.1) fun rv21 cv21 =>
.reg 9 [] [(4, hc cv21 [] true), (8, { obs := [(2, (bx (TApiBook.e (⟨[], [], [], []⟩ : TApiBook))))] })] [.cl 0 cv21 [] 2 true, .pf (p := OLe (bx (DV.agg [(DV.sl 0 fun _ => DV.b false), (DV.sl 0 fun _ => DV.b false), (DV.sl 0 fun _ => DV.b false), (DV.sl 0 fun _ => DV.b false)])) (bx (TApiBook.e (⟨[], [], [], []⟩ : TApiBook)))) (oLe_box (DLe.agg (DLeL.cons DLe.sl0 (DLeL.cons DLe.sl0 (DLeL.cons DLe.sl0 (DLeL.cons DLe.sl0 DLeL.nil))))))] <|
.calld [(rv21.2 != 0) = false] default (@F_commitment_Used_ok rv21.1 rv2.1 12) fun rv22 cv22 =>
.reg 10 [] [(5, hc cv22 [] true)] [.clg 0 [(rv21.2 != 0) = false] cv22 [] 3 true] <|
.ite (bif (rv21.2 != 0) then true else (rv22 != (IntKind.i64.wrap (rv3 + rv5.1)))) (
.ret [] false) (
.iter [4, 5, 10, 11, 12] (fun (sv6 : Int) => [(15, (vi sv6))]) (fun (_ : Int) => []) 1 (S_w14_CommitmentUsed_b1 rv1 rv2 rv3 rv4 rv5) (fun (_ : Int) =>
.call (@F_w14_awake_ok) fun rv23 cv23 =>
.reg 30 [] [(0, hc cv23 [] true)] [.cl 0 cv23 [] 3 true] <|
.ret [] rv23) id))

noncomputable def F_w14_CommitmentUsed (a0 : (List Int)) : Option R_w14_CommitmentUsed := (S_w14_CommitmentUsed a0).den
set_option maxRecDepth 100000 in
theorem F_w14_CommitmentUsed_ok {a0 : (List Int)} (r : R_w14_CommitmentUsed) (h : F_w14_CommitmentUsed a0 = some r) : CallOk Tryz.prog 5 [(vl a0)] [] (V_w14_CommitmentUsed r) (L_w14_CommitmentUsed r) := fOk (s := S_w14_CommitmentUsed a0) Tryz.func5 rfl (by kernel_rfl) h

/-! 28 -/
abbrev R_mk_SmallBook := Bool
def V_mk_SmallBook (x : R_mk_SmallBook) : AV := (vb x)
def L_mk_SmallBook (_ : R_mk_SmallBook) : List Ob := []
noncomputable def S_mk_SmallBook_b1 (a0 : TApiBook) (iv1 : Nat) (_ : Unit) : Scr Tryz.prog R_mk_SmallBook (Step (Unit) R_mk_SmallBook) :=
.reg 3 [] [] [.pf (nn iv1), .ev 0] <|
.ite (decide ((((a0.Reservations.getD iv1 default).Code).length : Int) > 60)) (
.ret [] (.ret false)) (
.ret [] (.cont ()))

noncomputable def S_mk_SmallBook (a0 : TApiBook) : Scr Tryz.prog R_mk_SmallBook R_mk_SmallBook :=
.range (a0.Reservations.length : Int) a0.Reservations.length rfl (.slot 6) 8 [1, 6, 7] (fun (_ : Unit) => []) (fun (_ : Unit) => []) () (S_mk_SmallBook_b1 a0) (fun (_ : Unit) => 
.ret [] (bif (bif (bif (decide ((a0.Reservations.length : Int) ≤ 40)) then (decide ((a0.Commitments.length : Int) ≤ 40)) else false) then (decide ((a0.Verifications.length : Int) ≤ 40)) else false) then (decide ((a0.Orders.length : Int) ≤ 40)) else false)) id

noncomputable def F_mk_SmallBook (a0 : TApiBook) : Option R_mk_SmallBook := (S_mk_SmallBook a0).den
set_option maxRecDepth 100000 in
theorem F_mk_SmallBook_ok {a0 : TApiBook} (r : R_mk_SmallBook) (h : F_mk_SmallBook a0 = some r) : CallOk Tryz.prog 28 [(AV.d (TApiBook.e a0))] [] (V_mk_SmallBook r) (L_mk_SmallBook r) := fOk (s := S_mk_SmallBook a0) Tryz.func28 rfl (by kernel_rfl) h

/-! 94 -/
abbrev R_mk_BadCode := List UInt8 × TTreasurymakeTape
def V_mk_BadCode (x : R_mk_BadCode) : AV := (AV.d (DV.str x.1))
def L_mk_BadCode (x : R_mk_BadCode) : List Ob := [(bx (TTreasurymakeTape.e x.2))]
noncomputable def S_mk_BadCode (p0 : TTreasurymakeTape) : Scr Tryz.prog R_mk_BadCode R_mk_BadCode :=
.call (@F_mk_Tape_N_ok 12 p0) fun rv1 cv1 =>
.guard [(0 : Int) ≤ rv1.1, (rv1.1).toNat < 12] <|
.reg 1 [] [(0, hv (AV.d (eL DV.str ([[], [48], [48, 49], [49, 46], [46, 49], [49, 46, 46, 50], [49, 48, 48], [49, 46, 50, 46, 51, 46, 52, 46, 53], [120], [49, 32], [57, 57, 46, 57, 57, 46, 57, 57, 46, 57, 57], [52]] : List (List UInt8))))), (2, hc cv1 [0] false)] [.pf (leV_lit DV.str ([[], [48], [48, 49], [49, 46], [46, 49], [49, 46, 46, 50], [49, 48, 48], [49, 46, 50, 46, 51, 46, 52, 46, 53], [120], [49, 32], [57, 57, 46, 57, 57, 46, 57, 57, 46, 57, 57], [52]] : List (List UInt8))), .cl 2 cv1 [0] 1 false, .ev 0, .ev 1] <|
.ret [] ((([[], [48], [48, 49], [49, 46], [46, 49], [49, 46, 46, 50], [49, 48, 48], [49, 46, 50, 46, 51, 46, 52, 46, 53], [120], [49, 32], [57, 57, 46, 57, 57, 46, 57, 57, 46, 57, 57], [52]] : List (List UInt8)).getD ((rv1.1).toNat) default), rv1.2)

noncomputable def F_mk_BadCode (p0 : TTreasurymakeTape) : Option R_mk_BadCode := (S_mk_BadCode p0).den
set_option maxRecDepth 100000 in
theorem F_mk_BadCode_ok {p0 : TTreasurymakeTape} (r : R_mk_BadCode) (h : F_mk_BadCode p0 = some r) : CallOk Tryz.prog 94 [(vp 0)] [(bx (TTreasurymakeTape.e p0))] (V_mk_BadCode r) (L_mk_BadCode r) := fOk (s := S_mk_BadCode p0) Tryz.func94 rfl (by kernel_rfl) h

end Go.Proofs.YteelhiohkbbdhaaGreatDoor
