/- A part of the proof: what the functions compute, and that their calls return it. No condition. -/
import Derived.Test.YtbjbpoighbanfaaGreatDoorG3
/- What the functions compute, and that their calls return it. No condition. -/
namespace Go.Proofs.YtbjbpoighbanfaaGreatDoor
open Go Go.TA
noncomputable section
/-! 114 -/
abbrev R_commitment_Drop := TApiBook × Int
def V_commitment_Drop (x : R_commitment_Drop) : AV := (AV.tup [(AV.d (TApiBook.e x.1)), (vi x.2)])
def L_commitment_Drop (_ : R_commitment_Drop) : List Ob := []
def S_commitment_Drop (a0 : TApiBook) (a1 : Int) (a2 : Int) : Scr Tryz.prog R_commitment_Drop R_commitment_Drop :=
.reg 0 [] [(1, { obs := [(1, (bx (TApiBook.e (⟨[], [], [], []⟩ : TApiBook))))] })] [.pf cz3] <|
.call (@F_commitment_Valid_ok a0) fun rv1 cv1 =>
.reg 1 [] [(1, hc cv1 [] true)] [.cl 0 cv1 [] 2 true] <|
.ite (!rv1) (
.reg 2 [] [(0, hv (AV.d (TApiBook.e (⟨[], [], [], []⟩ : TApiBook))))] [.pf cz4] <|
.ret [] ((⟨[], [], [], []⟩ : TApiBook), 1)) (
.call (@F_commitment_among_ok a1 1 (a0.Commitments.length : Int)) fun rv2 cv2 =>
.reg 3 [] [(4, hc cv2 [] true)] [.cl 0 cv2 [] 2 true] <|
.ite (!rv2) (
.reg 4 [] [(0, hv (AV.d (TApiBook.e (⟨[], [], [], []⟩ : TApiBook))))] [.pf cz4] <|
.ret [] ((⟨[], [], [], []⟩ : TApiBook), 6)) (
.call (@F_commitment_amount_ok a2) fun rv3 cv3 =>
.reg 5 [] [(1, hc cv3 [] true)] [.cl 0 cv3 [] 2 true] <|
.ite (!rv3) (
.reg 6 [] [(0, hv (AV.d (TApiBook.e (⟨[], [], [], []⟩ : TApiBook))))] [.pf cz4] <|
.ret [] ((⟨[], [], [], []⟩ : TApiBook), 2)) (
.call (@F_commitment_open_ok a0 (a0.Commitments.getD (((IntKind.i64.wrap (a1 - 1))).toNat) default)) fun rv4 cv4 =>
.guard [(0 : Int) ≤ (IntKind.i64.wrap (a1 - 1)), ((IntKind.i64.wrap (a1 - 1))).toNat < a0.Commitments.length] <|
.reg 7 [] [(8, hc cv4 [] true)] [.ev 0, .ev 1, .cl 2 cv4 [] 2 true] <|
.ite (decide (a2 > rv4)) (
.reg 8 [] [(0, hv (AV.d (TApiBook.e (⟨[], [], [], []⟩ : TApiBook))))] [.pf cz4] <|
.ret [] ((⟨[], [], [], []⟩ : TApiBook), 15)) (
.call (@F_commitment_copied_rw_ok a0) fun rv5 cv5 =>
.reg 9 [] [(1, hc cv5 [] false)] [.cl 0 cv5 [] 2 false] <|
.kill 3 <|
.guard [rv5.1.length < 2 ^ 63] <|
.frz 4 (.ev 0) none [] [0] <|
.guard [rv5.2.2.1.length < 2 ^ 63] <|
.frz 6 (.ev 0) none [] [0] <|
.guard [rv5.2.2.2.length < 2 ^ 63] <|
.frz 7 (.ev 0) none [] [0] <|
.guard [((IntKind.i64.wrap (a1 - 1))).toNat < rv5.2.1.length, (0 + ((IntKind.i64.wrap (a1 - 1))).toNat) < rv5.2.1.length] <|
.reg 10 [] [(11, { obs := [(5, (eS 7 TApiCommitment.e (rv5.2.1.set (0 + ((IntKind.i64.wrap (a1 - 1))).toNat) (⟨(rv5.2.1.getD (0 + ((IntKind.i64.wrap (a1 - 1))).toNat) default).Number, (rv5.2.1.getD (0 + ((IntKind.i64.wrap (a1 - 1))).toNat) default).Reservation, (rv5.2.1.getD (0 + ((IntKind.i64.wrap (a1 - 1))).toNat) default).Day, (rv5.2.1.getD (0 + ((IntKind.i64.wrap (a1 - 1))).toNat) default).Amount, (IntKind.i64.wrap (((rv5.2.1.getD (0 + ((IntKind.i64.wrap (a1 - 1))).toNat) default).Released) + a2)), (rv5.2.1.getD (0 + ((IntKind.i64.wrap (a1 - 1))).toNat) default).Payee, (rv5.2.1.getD (0 + ((IntKind.i64.wrap (a1 - 1))).toNat) default).Due⟩ : TApiCommitment))))] })] [.pf (Eq.refl rv5.2.1.length), .ev 7, .ev 0, .pf (Eq.refl rv5.2.1.length), .pf (Eq.refl rv5.2.1.length), .ev 1, .pf (Eq.refl rv5.2.1.length), .ev 7, .ev 0, .pf (Eq.refl rv5.2.1.length), .pf (Eq.refl rv5.2.1.length), .ev 1, .pf (oLe_set (sz := 7) (e := TApiCommitment.e) (l := rv5.2.1) (i := (0 + ((IntKind.i64.wrap (a1 - 1))).toNat)) (x := (⟨(rv5.2.1.getD (0 + ((IntKind.i64.wrap (a1 - 1))).toNat) default).Number, (rv5.2.1.getD (0 + ((IntKind.i64.wrap (a1 - 1))).toNat) default).Reservation, (rv5.2.1.getD (0 + ((IntKind.i64.wrap (a1 - 1))).toNat) default).Day, (rv5.2.1.getD (0 + ((IntKind.i64.wrap (a1 - 1))).toNat) default).Amount, (IntKind.i64.wrap (((rv5.2.1.getD (0 + ((IntKind.i64.wrap (a1 - 1))).toNat) default).Released) + a2)), (rv5.2.1.getD (0 + ((IntKind.i64.wrap (a1 - 1))).toNat) default).Payee, (rv5.2.1.getD (0 + ((IntKind.i64.wrap (a1 - 1))).toNat) default).Due⟩ : TApiCommitment)) (fun _ => rfl))] <|
.cst (A := True) (.pf trivial) [(3, (vp 0)), (6, (vp 1))] [(3, (vp 0)), (6, (vp 1))] [(Ob.box (AV.agg [(AV.d (eL TApiReservation.e rv5.1)), (AV.ref 5 rv5.2.1.length 0 rv5.2.1.length), (AV.d (eL TApiVerification.e rv5.2.2.1)), (AV.d (eL TApiOrder.e rv5.2.2.2))])), (bx (TApiBook.e (⟨[], [], [], []⟩ : TApiBook))), Ob.dead, Ob.dead, Ob.dead, (eS 7 TApiCommitment.e (rv5.2.1.set (0 + ((IntKind.i64.wrap (a1 - 1))).toNat) (⟨(rv5.2.1.getD (0 + ((IntKind.i64.wrap (a1 - 1))).toNat) default).Number, (rv5.2.1.getD (0 + ((IntKind.i64.wrap (a1 - 1))).toNat) default).Reservation, (rv5.2.1.getD (0 + ((IntKind.i64.wrap (a1 - 1))).toNat) default).Day, (rv5.2.1.getD (0 + ((IntKind.i64.wrap (a1 - 1))).toNat) default).Amount, (IntKind.i64.wrap (((rv5.2.1.getD (0 + ((IntKind.i64.wrap (a1 - 1))).toNat) default).Released) + a2)), (rv5.2.1.getD (0 + ((IntKind.i64.wrap (a1 - 1))).toNat) default).Payee, (rv5.2.1.getD (0 + ((IntKind.i64.wrap (a1 - 1))).toNat) default).Due⟩ : TApiCommitment))), Ob.dead, Ob.dead] [(Ob.box (AV.agg [(AV.d (eL TApiReservation.e rv5.1)), (AV.ref 5 ((rv5.2.1.set (0 + ((IntKind.i64.wrap (a1 - 1))).toNat) (⟨(rv5.2.1.getD (0 + ((IntKind.i64.wrap (a1 - 1))).toNat) default).Number, (rv5.2.1.getD (0 + ((IntKind.i64.wrap (a1 - 1))).toNat) default).Reservation, (rv5.2.1.getD (0 + ((IntKind.i64.wrap (a1 - 1))).toNat) default).Day, (rv5.2.1.getD (0 + ((IntKind.i64.wrap (a1 - 1))).toNat) default).Amount, (IntKind.i64.wrap (((rv5.2.1.getD (0 + ((IntKind.i64.wrap (a1 - 1))).toNat) default).Released) + a2)), (rv5.2.1.getD (0 + ((IntKind.i64.wrap (a1 - 1))).toNat) default).Payee, (rv5.2.1.getD (0 + ((IntKind.i64.wrap (a1 - 1))).toNat) default).Due⟩ : TApiCommitment)).length) 0 ((rv5.2.1.set (0 + ((IntKind.i64.wrap (a1 - 1))).toNat) (⟨(rv5.2.1.getD (0 + ((IntKind.i64.wrap (a1 - 1))).toNat) default).Number, (rv5.2.1.getD (0 + ((IntKind.i64.wrap (a1 - 1))).toNat) default).Reservation, (rv5.2.1.getD (0 + ((IntKind.i64.wrap (a1 - 1))).toNat) default).Day, (rv5.2.1.getD (0 + ((IntKind.i64.wrap (a1 - 1))).toNat) default).Amount, (IntKind.i64.wrap (((rv5.2.1.getD (0 + ((IntKind.i64.wrap (a1 - 1))).toNat) default).Released) + a2)), (rv5.2.1.getD (0 + ((IntKind.i64.wrap (a1 - 1))).toNat) default).Payee, (rv5.2.1.getD (0 + ((IntKind.i64.wrap (a1 - 1))).toNat) default).Due⟩ : TApiCommitment)).length)), (AV.d (eL TApiVerification.e rv5.2.2.1)), (AV.d (eL TApiOrder.e rv5.2.2.2))])), (bx (TApiBook.e (⟨[], [], [], []⟩ : TApiBook))), Ob.dead, Ob.dead, Ob.dead, (eS 7 TApiCommitment.e (rv5.2.1.set (0 + ((IntKind.i64.wrap (a1 - 1))).toNat) (⟨(rv5.2.1.getD (0 + ((IntKind.i64.wrap (a1 - 1))).toNat) default).Number, (rv5.2.1.getD (0 + ((IntKind.i64.wrap (a1 - 1))).toNat) default).Reservation, (rv5.2.1.getD (0 + ((IntKind.i64.wrap (a1 - 1))).toNat) default).Day, (rv5.2.1.getD (0 + ((IntKind.i64.wrap (a1 - 1))).toNat) default).Amount, (IntKind.i64.wrap (((rv5.2.1.getD (0 + ((IntKind.i64.wrap (a1 - 1))).toNat) default).Released) + a2)), (rv5.2.1.getD (0 + ((IntKind.i64.wrap (a1 - 1))).toNat) default).Payee, (rv5.2.1.getD (0 + ((IntKind.i64.wrap (a1 - 1))).toNat) default).Due⟩ : TApiCommitment))), Ob.dead, Ob.dead] (fun _ => ⟨by simp only, by simp only [List.length_set]⟩) <|
.guard [(rv5.2.1.set (0 + ((IntKind.i64.wrap (a1 - 1))).toNat) (⟨(rv5.2.1.getD (0 + ((IntKind.i64.wrap (a1 - 1))).toNat) default).Number, (rv5.2.1.getD (0 + ((IntKind.i64.wrap (a1 - 1))).toNat) default).Reservation, (rv5.2.1.getD (0 + ((IntKind.i64.wrap (a1 - 1))).toNat) default).Day, (rv5.2.1.getD (0 + ((IntKind.i64.wrap (a1 - 1))).toNat) default).Amount, (IntKind.i64.wrap (((rv5.2.1.getD (0 + ((IntKind.i64.wrap (a1 - 1))).toNat) default).Released) + a2)), (rv5.2.1.getD (0 + ((IntKind.i64.wrap (a1 - 1))).toNat) default).Payee, (rv5.2.1.getD (0 + ((IntKind.i64.wrap (a1 - 1))).toNat) default).Due⟩ : TApiCommitment)).length < 2 ^ 63] <|
.reg 11 [] [] [] <|
.frz 5 (.ev 0) none [] [0, 1] <|
.ret [] ((⟨rv5.1, (rv5.2.1.set (0 + ((IntKind.i64.wrap (a1 - 1))).toNat) (⟨(rv5.2.1.getD (0 + ((IntKind.i64.wrap (a1 - 1))).toNat) default).Number, (rv5.2.1.getD (0 + ((IntKind.i64.wrap (a1 - 1))).toNat) default).Reservation, (rv5.2.1.getD (0 + ((IntKind.i64.wrap (a1 - 1))).toNat) default).Day, (rv5.2.1.getD (0 + ((IntKind.i64.wrap (a1 - 1))).toNat) default).Amount, (IntKind.i64.wrap (((rv5.2.1.getD (0 + ((IntKind.i64.wrap (a1 - 1))).toNat) default).Released) + a2)), (rv5.2.1.getD (0 + ((IntKind.i64.wrap (a1 - 1))).toNat) default).Payee, (rv5.2.1.getD (0 + ((IntKind.i64.wrap (a1 - 1))).toNat) default).Due⟩ : TApiCommitment)), rv5.2.2.1, rv5.2.2.2⟩ : TApiBook), 0)))))
def F_commitment_Drop (a0 : TApiBook) (a1 : Int) (a2 : Int) : Option R_commitment_Drop := (S_commitment_Drop a0 a1 a2).den
set_option maxRecDepth 100000 in
theorem F_commitment_Drop_ok {a0 : TApiBook} {a1 : Int} {a2 : Int} (r : R_commitment_Drop) (h : F_commitment_Drop a0 a1 a2 = some r) : CallOk Tryz.prog 114 [(AV.d (TApiBook.e a0)), (vi a1), (vi a2)] [] (V_commitment_Drop r) (L_commitment_Drop r) := fOk (s := S_commitment_Drop a0 a1 a2) Tryz.func114 rfl (by kernel_rfl) h
/-! 115 -/
abbrev R_commitment_Back := TApiBook × Int
def V_commitment_Back (x : R_commitment_Back) : AV := (AV.tup [(AV.d (TApiBook.e x.1)), (vi x.2)])
def L_commitment_Back (_ : R_commitment_Back) : List Ob := []
def S_commitment_Back_b1 (a1 : Int) (rv1 : R_commitment_copied_rw) (iv2 : Nat) (_ : Unit) : Scr Tryz.prog R_commitment_Back (Step (Unit) R_commitment_Back) :=
.reg 9 [] [] [.pf (Eq.refl rv1.2.2.2.length), .pf (nn iv2), .ev 0] <|
.guard [(0 + iv2) < rv1.2.2.2.length, AllP [(((rv1.2.2.2.getD (0 + iv2) default).Verification) == a1) = true] → ((0 + iv2) < rv1.2.2.2.length)] <|
.reg 10 [] [] [.pf (Eq.refl rv1.2.2.2.length), .pf (Eq.refl rv1.2.2.2.length), .ev 0, .pf (p := AllP [(((rv1.2.2.2.getD (0 + iv2) default).Verification) == a1) = true] → (rv1.2.2.2.length = rv1.2.2.2.length)) (fun _ => rfl), .pf (p := AllP [(((rv1.2.2.2.getD (0 + iv2) default).Verification) == a1) = true] → (rv1.2.2.2.length = rv1.2.2.2.length)) (fun _ => rfl), .ev 1] <|
.ite (bif (((rv1.2.2.2.getD (0 + iv2) default).Verification) == a1) then (!((rv1.2.2.2.getD (0 + iv2) default).Back)) else false) (
.reg 11 [] [(3, { obs := [(7, (eS 5 TApiOrder.e (rv1.2.2.2.set (0 + iv2) (⟨(rv1.2.2.2.getD (0 + iv2) default).Number, (rv1.2.2.2.getD (0 + iv2) default).Verification, (rv1.2.2.2.getD (0 + iv2) default).Attempt, (rv1.2.2.2.getD (0 + iv2) default).Day, true⟩ : TApiOrder))))] })] [.pf (Eq.refl rv1.2.2.2.length), .pf (Eq.refl rv1.2.2.2.length), .ev 1, .pf (oLe_set (sz := 5) (e := TApiOrder.e) (l := rv1.2.2.2) (i := (0 + iv2)) (x := (⟨(rv1.2.2.2.getD (0 + iv2) default).Number, (rv1.2.2.2.getD (0 + iv2) default).Verification, (rv1.2.2.2.getD (0 + iv2) default).Attempt, (rv1.2.2.2.getD (0 + iv2) default).Day, true⟩ : TApiOrder)) (fun _ => rfl))] <|
.cst (A := True) (.pf trivial) [(2, (vp 0)), (4, (vp 1))] [(2, (vp 0)), (4, (vp 1))] [(Ob.box (AV.agg [(AV.d (eL TApiReservation.e rv1.1)), (AV.d (eL TApiCommitment.e rv1.2.1)), (AV.d (eL TApiVerification.e rv1.2.2.1)), (AV.ref 7 rv1.2.2.2.length 0 rv1.2.2.2.length)])), (bx (TApiBook.e (⟨[], [], [], []⟩ : TApiBook))), Ob.dead, Ob.dead, Ob.dead, Ob.dead, Ob.dead, (eS 5 TApiOrder.e (rv1.2.2.2.set (0 + iv2) (⟨(rv1.2.2.2.getD (0 + iv2) default).Number, (rv1.2.2.2.getD (0 + iv2) default).Verification, (rv1.2.2.2.getD (0 + iv2) default).Attempt, (rv1.2.2.2.getD (0 + iv2) default).Day, true⟩ : TApiOrder)))] [(Ob.box (AV.agg [(AV.d (eL TApiReservation.e rv1.1)), (AV.d (eL TApiCommitment.e rv1.2.1)), (AV.d (eL TApiVerification.e rv1.2.2.1)), (AV.ref 7 ((rv1.2.2.2.set (0 + iv2) (⟨(rv1.2.2.2.getD (0 + iv2) default).Number, (rv1.2.2.2.getD (0 + iv2) default).Verification, (rv1.2.2.2.getD (0 + iv2) default).Attempt, (rv1.2.2.2.getD (0 + iv2) default).Day, true⟩ : TApiOrder)).length) 0 ((rv1.2.2.2.set (0 + iv2) (⟨(rv1.2.2.2.getD (0 + iv2) default).Number, (rv1.2.2.2.getD (0 + iv2) default).Verification, (rv1.2.2.2.getD (0 + iv2) default).Attempt, (rv1.2.2.2.getD (0 + iv2) default).Day, true⟩ : TApiOrder)).length))])), (bx (TApiBook.e (⟨[], [], [], []⟩ : TApiBook))), Ob.dead, Ob.dead, Ob.dead, Ob.dead, Ob.dead, (eS 5 TApiOrder.e (rv1.2.2.2.set (0 + iv2) (⟨(rv1.2.2.2.getD (0 + iv2) default).Number, (rv1.2.2.2.getD (0 + iv2) default).Verification, (rv1.2.2.2.getD (0 + iv2) default).Attempt, (rv1.2.2.2.getD (0 + iv2) default).Day, true⟩ : TApiOrder)))] (fun _ => ⟨by simp only, by simp only [List.length_set]⟩) <|
.guard [(rv1.2.2.2.set (0 + iv2) (⟨(rv1.2.2.2.getD (0 + iv2) default).Number, (rv1.2.2.2.getD (0 + iv2) default).Verification, (rv1.2.2.2.getD (0 + iv2) default).Attempt, (rv1.2.2.2.getD (0 + iv2) default).Day, true⟩ : TApiOrder)).length < 2 ^ 63] <|
.reg 12 [] [] [] <|
.frz 7 (.ev 0) none [] [0, 1] <|
.ret [] (.ret ((⟨rv1.1, rv1.2.1, rv1.2.2.1, (rv1.2.2.2.set (0 + iv2) (⟨(rv1.2.2.2.getD (0 + iv2) default).Number, (rv1.2.2.2.getD (0 + iv2) default).Verification, (rv1.2.2.2.getD (0 + iv2) default).Attempt, (rv1.2.2.2.getD (0 + iv2) default).Day, true⟩ : TApiOrder))⟩ : TApiBook), 0))) (
.ret [] (.cont ()))
def S_commitment_Back (a0 : TApiBook) (a1 : Int) : Scr Tryz.prog R_commitment_Back R_commitment_Back :=
.reg 0 [] [(1, { obs := [(1, (bx (TApiBook.e (⟨[], [], [], []⟩ : TApiBook))))] })] [.pf cz3] <|
.call (@F_commitment_Valid_ok a0) fun rv3 cv3 =>
.reg 1 [] [(1, hc cv3 [] true)] [.cl 0 cv3 [] 2 true] <|
.ite (!rv3) (
.reg 2 [] [(0, hv (AV.d (TApiBook.e (⟨[], [], [], []⟩ : TApiBook))))] [.pf cz4] <|
.ret [] ((⟨[], [], [], []⟩ : TApiBook), 1)) (
.call (@F_commitment_among_ok a1 1 (a0.Verifications.length : Int)) fun rv4 cv4 =>
.reg 3 [] [(4, hc cv4 [] true)] [.cl 0 cv4 [] 2 true] <|
.ite (!rv4) (
.reg 4 [] [(0, hv (AV.d (TApiBook.e (⟨[], [], [], []⟩ : TApiBook))))] [.pf cz4] <|
.ret [] ((⟨[], [], [], []⟩ : TApiBook), 6)) (
.call (@F_commitment_copied_rw_ok a0) fun rv1 cv1 =>
.reg 5 [] [(1, hc cv1 [] false)] [.cl 0 cv1 [] 2 false] <|
.kill 3 <|
.guard [rv1.1.length < 2 ^ 63] <|
.frz 4 (.ev 0) none [] [0] <|
.guard [rv1.2.1.length < 2 ^ 63] <|
.frz 5 (.ev 0) none [] [0] <|
.guard [rv1.2.2.1.length < 2 ^ 63] <|
.frz 6 (.ev 0) none [] [0] <|
.guard [rv1.2.2.2.length < 2 ^ 63] <|
.range (rv1.2.2.2.length : Int) rv1.2.2.2.length rfl (.why (.ev 0)) 26 [1, 2, 4, 25] (fun (_ : Unit) => []) (fun (_ : Unit) => []) () (S_commitment_Back_b1 a1 rv1) (fun (_ : Unit) => 
.reg 14 [] [(0, hv (AV.d (TApiBook.e (⟨[], [], [], []⟩ : TApiBook))))] [.pf cz4] <|
.ret [] ((⟨[], [], [], []⟩ : TApiBook), 9)) id))
def F_commitment_Back (a0 : TApiBook) (a1 : Int) : Option R_commitment_Back := (S_commitment_Back a0 a1).den
set_option maxRecDepth 100000 in
theorem F_commitment_Back_ok {a0 : TApiBook} {a1 : Int} (r : R_commitment_Back) (h : F_commitment_Back a0 a1 = some r) : CallOk Tryz.prog 115 [(AV.d (TApiBook.e a0)), (vi a1)] [] (V_commitment_Back r) (L_commitment_Back r) := fOk (s := S_commitment_Back a0 a1) Tryz.func115 rfl (by kernel_rfl) h
/-! 74 -/
abbrev R_office_book := TApiBook × Int
def V_office_book (x : R_office_book) : AV := (AV.tup [(AV.d (TApiBook.e x.1)), (vi x.2)])
def L_office_book (_ : R_office_book) : List Ob := []
def S_office_book (a0 : TApiBook) (a1 : TApiOp) : Scr Tryz.prog R_office_book R_office_book :=
.reg 0 [] [(2, { obs := [(2, (bx (TApiBook.e (⟨[], [], [], []⟩ : TApiBook))))] })] [.pf cz3] <|
.ite (a1.Kind == 1) (
.call (@F_commitment_Reserve_ok a0 a1.Code a1.Year a1.Day a1.Amount) fun rv1 cv1 =>
.reg 3 [] [(9, hc cv1 [] true)] [.cl 0 cv1 [] 3 true] <|
.ret [] (rv1.1, rv1.2)) (
.ite (a1.Kind == 2) (
.call (@F_commitment_Commit_ok a0 a1.Of a1.Day a1.Amount a1.Payee a1.Due) fun rv2 cv2 =>
.reg 5 [] [(11, hc cv2 [] true)] [.cl 0 cv2 [] 3 true] <|
.ret [] (rv2.1, rv2.2)) (
.ite (a1.Kind == 3) (
.call (@F_commitment_Verify_ok a0 a1.Of a1.Day a1.Amount) fun rv3 cv3 =>
.reg 7 [] [(7, hc cv3 [] true)] [.cl 0 cv3 [] 3 true] <|
.ret [] (rv3.1, rv3.2)) (
.ite (a1.Kind == 4) (
.call (@F_commitment_Order_ok a0 a1.Of a1.Day) fun rv4 cv4 =>
.reg 9 [] [(5, hc cv4 [] true)] [.cl 0 cv4 [] 3 true] <|
.ret [] (rv4.1, rv4.2)) (
.ite (a1.Kind == 5) (
.call (@F_commitment_Release_ok a0 a1.Of a1.Amount) fun rv5 cv5 =>
.reg 11 [] [(5, hc cv5 [] true)] [.cl 0 cv5 [] 3 true] <|
.ret [] (rv5.1, rv5.2)) (
.ite (a1.Kind == 6) (
.call (@F_commitment_Drop_ok a0 a1.Of a1.Amount) fun rv6 cv6 =>
.reg 13 [] [(5, hc cv6 [] true)] [.cl 0 cv6 [] 3 true] <|
.ret [] (rv6.1, rv6.2)) (
.call (@F_commitment_Back_ok a0 a1.Of) fun rv7 cv7 =>
.reg 14 [] [(3, hc cv7 [] true)] [.cl 0 cv7 [] 3 true] <|
.ret [] (rv7.1, rv7.2)))))))
def F_office_book (a0 : TApiBook) (a1 : TApiOp) : Option R_office_book := (S_office_book a0 a1).den
set_option maxRecDepth 100000 in
theorem F_office_book_ok {a0 : TApiBook} {a1 : TApiOp} (r : R_office_book) (h : F_office_book a0 a1 = some r) : CallOk Tryz.prog 74 [(AV.d (TApiBook.e a0)), (AV.d (TApiOp.e a1))] [] (V_office_book r) (L_office_book r) := fOk (s := S_office_book a0 a1) Tryz.func74 rfl (by kernel_rfl) h
/-! 37 -/
abbrev R_office_Step := TApiOffice × Int
def V_office_Step (x : R_office_Step) : AV := (AV.tup [(AV.d (TApiOffice.e x.1)), (vi x.2)])
def L_office_Step (_ : R_office_Step) : List Ob := []
def S_office_Step (a0 : TApiOffice) (a1 : TApiOp) : Scr Tryz.prog R_office_Step R_office_Step :=
.reg 0 [] [(2, { obs := [(2, (bx (TApiOffice.e (⟨0, [], (⟨[], [], [], []⟩ : TApiBook)⟩ : TApiOffice))))] })] [.pf cz1] <|
.ite (a1.Kind == 8) (
.call (@F_office_hear_ok a0 a1) fun rv1 cv1 =>
.reg 3 [] [(2, hc cv1 [] true)] [.cl 0 cv1 [] 3 true] <|
.ret [] (rv1.1, rv1.2)) (
.ite (a1.Kind == 7) (
.call (@F_office_give_ok a0 a1) fun rv2 cv2 =>
.reg 5 [] [(2, hc cv2 [] true)] [.cl 0 cv2 [] 3 true] <|
.ret [] (rv2.1, rv2.2)) (
.call (@F_office_book_ok a0.Book a1) fun rv3 cv3 =>
.reg 6 [] [(3, hc cv3 [] true), (7, { obs := [(3, (bx (TApiBook.e (⟨[], [], [], []⟩ : TApiBook))))] })] [.cl 0 cv3 [] 3 true, .pf cz3] <|
.ite (rv3.2 != 0) (
.reg 8 [] [(0, hv (AV.d (TApiOffice.e (⟨0, [], (⟨[], [], [], []⟩ : TApiBook)⟩ : TApiOffice))))] [.pf cz2] <|
.ret [] ((⟨0, [], (⟨[], [], [], []⟩ : TApiBook)⟩ : TApiOffice), rv3.2)) (
.calld [(a1.Kind == 1) = true] default (@F_office_Unused_ok a0 a1.Code a1.Year) fun rv4 cv4 =>
.reg 9 [] [(11, hc cv4 [] true)] [.clg 0 [(a1.Kind == 1) = true] cv4 [] 4 true] <|
.ite (bif (a1.Kind == 1) then (decide (a1.Amount > rv4)) else false) (
.reg 10 [] [(0, hv (AV.d (TApiOffice.e (⟨0, [], (⟨[], [], [], []⟩ : TApiBook)⟩ : TApiOffice))))] [.pf cz2] <|
.ret [] ((⟨0, [], (⟨[], [], [], []⟩ : TApiBook)⟩ : TApiOffice), 15)) (
.ret [] ((⟨a0.Number, a0.Rights, rv3.1⟩ : TApiOffice), 0)))))
def F_office_Step (a0 : TApiOffice) (a1 : TApiOp) : Option R_office_Step := (S_office_Step a0 a1).den
set_option maxRecDepth 100000 in
theorem F_office_Step_ok {a0 : TApiOffice} {a1 : TApiOp} (r : R_office_Step) (h : F_office_Step a0 a1 = some r) : CallOk Tryz.prog 37 [(AV.d (TApiOffice.e a0)), (AV.d (TApiOp.e a1))] [] (V_office_Step r) (L_office_Step r) := fOk (s := S_office_Step a0 a1) Tryz.func37 rfl (by kernel_rfl) h
/-! 67 -/
theorem cz5 : ∀ k, k < 0 → (DV.b false).wd = 5 := fun _ h => absurd h (Nat.not_lt_zero _)
abbrev R_slices_Clone_Right := (List TApiRight)
def V_slices_Clone_Right (x : R_slices_Clone_Right) : AV := (AV.d (eL TApiRight.e x))
def L_slices_Clone_Right (_ : R_slices_Clone_Right) : List Ob := []
def S_slices_Clone_Right (a0 : (List TApiRight)) : Scr Tryz.prog R_slices_Clone_Right R_slices_Clone_Right :=
.reg 0 [] [] [] <|
.nils 0 (
.guard [(0 + a0.length) * (2 * 48) ≤ 2 ^ 48] <|
.reg 1 [] [] [] <|
.lev 0 (AV.d (eL TApiRight.e a0)) (.pf (lvQ true a0.length fun j => (TApiRight.e (a0.getD j default)))) <|
.br true (.pf (p := true = true) rfl) <|
.reg 2 [] [] [] <|
.lev 2 (AV.d (eL TApiRight.e a0)) (.der (fun (h : a0.length = 0) => lvZ TApiRight.e a0 h) 1) <|
.ret [] a0) (
.reg 1 [] [] [] <|
.lev 0 (AV.d (eL TApiRight.e a0)) (.pf (lvQ false a0.length fun j => (TApiRight.e (a0.getD j default)))) <|
.br false (.pf (p := false = false) rfl) <|
.guard [(0 + a0.length) * (2 * 48) ≤ 2 ^ 48] <|
.reg 3 [] [(2, hv (AV.d (eL TApiRight.e a0)))] [.pf (p := ∀ k, k < a0.length → AV.d (TApiRight.e (a0.getD k default)) = AV.d (TApiRight.e (a0.getD k default)) ∧ (TApiRight.e (a0.getD k default)).wd = 5) (fun _ _ => ⟨rfl, rfl⟩), .pf cz5, .ev 0, .pf (leV_app0 (e := TApiRight.e) (x := a0))] <|
.ret [] a0)
def F_slices_Clone_Right (a0 : (List TApiRight)) : Option R_slices_Clone_Right := (S_slices_Clone_Right a0).den
set_option maxRecDepth 100000 in
theorem F_slices_Clone_Right_ok {a0 : (List TApiRight)} (r : R_slices_Clone_Right) (h : F_slices_Clone_Right a0 = some r) : CallOk Tryz.prog 67 [(AV.d (eL TApiRight.e a0))] [] (V_slices_Clone_Right r) (L_slices_Clone_Right r) := fOk (s := S_slices_Clone_Right a0) Tryz.func67 rfl (by kernel_rfl) h
/-! 68 -/
theorem cz6 : ∀ k, k < 0 → (DV.b false).wd = 6 := fun _ h => absurd h (Nat.not_lt_zero _)
abbrev R_slices_Clone_Reservation := (List TApiReservation)
def V_slices_Clone_Reservation (x : R_slices_Clone_Reservation) : AV := (AV.d (eL TApiReservation.e x))
def L_slices_Clone_Reservation (_ : R_slices_Clone_Reservation) : List Ob := []
def S_slices_Clone_Reservation (a0 : (List TApiReservation)) : Scr Tryz.prog R_slices_Clone_Reservation R_slices_Clone_Reservation :=
.reg 0 [] [] [] <|
.nils 0 (
.guard [(0 + a0.length) * (2 * 56) ≤ 2 ^ 48] <|
.reg 1 [] [] [] <|
.lev 0 (AV.d (eL TApiReservation.e a0)) (.pf (lvQ true a0.length fun j => (TApiReservation.e (a0.getD j default)))) <|
.br true (.pf (p := true = true) rfl) <|
.reg 2 [] [] [] <|
.lev 2 (AV.d (eL TApiReservation.e a0)) (.der (fun (h : a0.length = 0) => lvZ TApiReservation.e a0 h) 1) <|
.ret [] a0) (
.reg 1 [] [] [] <|
.lev 0 (AV.d (eL TApiReservation.e a0)) (.pf (lvQ false a0.length fun j => (TApiReservation.e (a0.getD j default)))) <|
.br false (.pf (p := false = false) rfl) <|
.guard [(0 + a0.length) * (2 * 56) ≤ 2 ^ 48] <|
.reg 3 [] [(2, hv (AV.d (eL TApiReservation.e a0)))] [.pf (p := ∀ k, k < a0.length → AV.d (TApiReservation.e (a0.getD k default)) = AV.d (TApiReservation.e (a0.getD k default)) ∧ (TApiReservation.e (a0.getD k default)).wd = 6) (fun _ _ => ⟨rfl, rfl⟩), .pf cz6, .ev 0, .pf (leV_app0 (e := TApiReservation.e) (x := a0))] <|
.ret [] a0)
def F_slices_Clone_Reservation (a0 : (List TApiReservation)) : Option R_slices_Clone_Reservation := (S_slices_Clone_Reservation a0).den
set_option maxRecDepth 100000 in
theorem F_slices_Clone_Reservation_ok {a0 : (List TApiReservation)} (r : R_slices_Clone_Reservation) (h : F_slices_Clone_Reservation a0 = some r) : CallOk Tryz.prog 68 [(AV.d (eL TApiReservation.e a0))] [] (V_slices_Clone_Reservation r) (L_slices_Clone_Reservation r) := fOk (s := S_slices_Clone_Reservation a0) Tryz.func68 rfl (by kernel_rfl) h
/-! 69 -/
theorem cz7 : ∀ k, k < 0 → (DV.b false).wd = 7 := fun _ h => absurd h (Nat.not_lt_zero _)
abbrev R_slices_Clone_Commitment := (List TApiCommitment)
def V_slices_Clone_Commitment (x : R_slices_Clone_Commitment) : AV := (AV.d (eL TApiCommitment.e x))
def L_slices_Clone_Commitment (_ : R_slices_Clone_Commitment) : List Ob := []
def S_slices_Clone_Commitment (a0 : (List TApiCommitment)) : Scr Tryz.prog R_slices_Clone_Commitment R_slices_Clone_Commitment :=
.reg 0 [] [] [] <|
.nils 0 (
.guard [(0 + a0.length) * (2 * 56) ≤ 2 ^ 48] <|
.reg 1 [] [] [] <|
.lev 0 (AV.d (eL TApiCommitment.e a0)) (.pf (lvQ true a0.length fun j => (TApiCommitment.e (a0.getD j default)))) <|
.br true (.pf (p := true = true) rfl) <|
.reg 2 [] [] [] <|
.lev 2 (AV.d (eL TApiCommitment.e a0)) (.der (fun (h : a0.length = 0) => lvZ TApiCommitment.e a0 h) 1) <|
.ret [] a0) (
.reg 1 [] [] [] <|
.lev 0 (AV.d (eL TApiCommitment.e a0)) (.pf (lvQ false a0.length fun j => (TApiCommitment.e (a0.getD j default)))) <|
.br false (.pf (p := false = false) rfl) <|
.guard [(0 + a0.length) * (2 * 56) ≤ 2 ^ 48] <|
.reg 3 [] [(2, hv (AV.d (eL TApiCommitment.e a0)))] [.pf (p := ∀ k, k < a0.length → AV.d (TApiCommitment.e (a0.getD k default)) = AV.d (TApiCommitment.e (a0.getD k default)) ∧ (TApiCommitment.e (a0.getD k default)).wd = 7) (fun _ _ => ⟨rfl, rfl⟩), .pf cz7, .ev 0, .pf (leV_app0 (e := TApiCommitment.e) (x := a0))] <|
.ret [] a0)
def F_slices_Clone_Commitment (a0 : (List TApiCommitment)) : Option R_slices_Clone_Commitment := (S_slices_Clone_Commitment a0).den
set_option maxRecDepth 100000 in
theorem F_slices_Clone_Commitment_ok {a0 : (List TApiCommitment)} (r : R_slices_Clone_Commitment) (h : F_slices_Clone_Commitment a0 = some r) : CallOk Tryz.prog 69 [(AV.d (eL TApiCommitment.e a0))] [] (V_slices_Clone_Commitment r) (L_slices_Clone_Commitment r) := fOk (s := S_slices_Clone_Commitment a0) Tryz.func69 rfl (by kernel_rfl) h
/-! 70 -/
theorem cz8 : ∀ k, k < 0 → (DV.b false).wd = 4 := fun _ h => absurd h (Nat.not_lt_zero _)
abbrev R_slices_Clone_Verification := (List TApiVerification)
def V_slices_Clone_Verification (x : R_slices_Clone_Verification) : AV := (AV.d (eL TApiVerification.e x))
def L_slices_Clone_Verification (_ : R_slices_Clone_Verification) : List Ob := []
def S_slices_Clone_Verification (a0 : (List TApiVerification)) : Scr Tryz.prog R_slices_Clone_Verification R_slices_Clone_Verification :=
.reg 0 [] [] [] <|
.nils 0 (
.guard [(0 + a0.length) * (2 * 32) ≤ 2 ^ 48] <|
.reg 1 [] [] [] <|
.lev 0 (AV.d (eL TApiVerification.e a0)) (.pf (lvQ true a0.length fun j => (TApiVerification.e (a0.getD j default)))) <|
.br true (.pf (p := true = true) rfl) <|
.reg 2 [] [] [] <|
.lev 2 (AV.d (eL TApiVerification.e a0)) (.der (fun (h : a0.length = 0) => lvZ TApiVerification.e a0 h) 1) <|
.ret [] a0) (
.reg 1 [] [] [] <|
.lev 0 (AV.d (eL TApiVerification.e a0)) (.pf (lvQ false a0.length fun j => (TApiVerification.e (a0.getD j default)))) <|
.br false (.pf (p := false = false) rfl) <|
.guard [(0 + a0.length) * (2 * 32) ≤ 2 ^ 48] <|
.reg 3 [] [(2, hv (AV.d (eL TApiVerification.e a0)))] [.pf (p := ∀ k, k < a0.length → AV.d (TApiVerification.e (a0.getD k default)) = AV.d (TApiVerification.e (a0.getD k default)) ∧ (TApiVerification.e (a0.getD k default)).wd = 4) (fun _ _ => ⟨rfl, rfl⟩), .pf cz8, .ev 0, .pf (leV_app0 (e := TApiVerification.e) (x := a0))] <|
.ret [] a0)
def F_slices_Clone_Verification (a0 : (List TApiVerification)) : Option R_slices_Clone_Verification := (S_slices_Clone_Verification a0).den
set_option maxRecDepth 100000 in
theorem F_slices_Clone_Verification_ok {a0 : (List TApiVerification)} (r : R_slices_Clone_Verification) (h : F_slices_Clone_Verification a0 = some r) : CallOk Tryz.prog 70 [(AV.d (eL TApiVerification.e a0))] [] (V_slices_Clone_Verification r) (L_slices_Clone_Verification r) := fOk (s := S_slices_Clone_Verification a0) Tryz.func70 rfl (by kernel_rfl) h
/-! 71 -/
abbrev R_slices_Clone_Order := (List TApiOrder)
def V_slices_Clone_Order (x : R_slices_Clone_Order) : AV := (AV.d (eL TApiOrder.e x))
def L_slices_Clone_Order (_ : R_slices_Clone_Order) : List Ob := []
def S_slices_Clone_Order (a0 : (List TApiOrder)) : Scr Tryz.prog R_slices_Clone_Order R_slices_Clone_Order :=
.reg 0 [] [] [] <|
.nils 0 (
.guard [(0 + a0.length) * (2 * 40) ≤ 2 ^ 48] <|
.reg 1 [] [] [] <|
.lev 0 (AV.d (eL TApiOrder.e a0)) (.pf (lvQ true a0.length fun j => (TApiOrder.e (a0.getD j default)))) <|
.br true (.pf (p := true = true) rfl) <|
.reg 2 [] [] [] <|
.lev 2 (AV.d (eL TApiOrder.e a0)) (.der (fun (h : a0.length = 0) => lvZ TApiOrder.e a0 h) 1) <|
.ret [] a0) (
.reg 1 [] [] [] <|
.lev 0 (AV.d (eL TApiOrder.e a0)) (.pf (lvQ false a0.length fun j => (TApiOrder.e (a0.getD j default)))) <|
.br false (.pf (p := false = false) rfl) <|
.guard [(0 + a0.length) * (2 * 40) ≤ 2 ^ 48] <|
.reg 3 [] [(2, hv (AV.d (eL TApiOrder.e a0)))] [.pf (p := ∀ k, k < a0.length → AV.d (TApiOrder.e (a0.getD k default)) = AV.d (TApiOrder.e (a0.getD k default)) ∧ (TApiOrder.e (a0.getD k default)).wd = 5) (fun _ _ => ⟨rfl, rfl⟩), .pf cz5, .ev 0, .pf (leV_app0 (e := TApiOrder.e) (x := a0))] <|
.ret [] a0)
def F_slices_Clone_Order (a0 : (List TApiOrder)) : Option R_slices_Clone_Order := (S_slices_Clone_Order a0).den
set_option maxRecDepth 100000 in
theorem F_slices_Clone_Order_ok {a0 : (List TApiOrder)} (r : R_slices_Clone_Order) (h : F_slices_Clone_Order a0 = some r) : CallOk Tryz.prog 71 [(AV.d (eL TApiOrder.e a0))] [] (V_slices_Clone_Order r) (L_slices_Clone_Order r) := fOk (s := S_slices_Clone_Order a0) Tryz.func71 rfl (by kernel_rfl) h
/-! 36 -/
abbrev R_office_fresh := TApiOffice × Int
def V_office_fresh (x : R_office_fresh) : AV := (AV.tup [(AV.d (TApiOffice.e x.1)), (vi x.2)])
def L_office_fresh (_ : R_office_fresh) : List Ob := []
def S_office_fresh (a0 : TApiOffice) (a1 : Int) : Scr Tryz.prog R_office_fresh R_office_fresh :=
.reg 0 [] [(1, { obs := [(1, (bx (TApiOffice.e (⟨0, [], (⟨[], [], [], []⟩ : TApiBook)⟩ : TApiOffice))))] })] [.pf cz1] <|
.call (@F_slices_Clone_Right_ok a0.Rights) fun rv1 cv1 =>
.reg 2 [] [(2, hc cv1 [] true)] [.cl 0 cv1 [] 2 true] <|
.call (@F_slices_Clone_Reservation_ok a0.Book.Reservations) fun rv2 cv2 =>
.call (@F_slices_Clone_Commitment_ok a0.Book.Commitments) fun rv3 cv3 =>
.call (@F_slices_Clone_Verification_ok a0.Book.Verifications) fun rv4 cv4 =>
.call (@F_slices_Clone_Order_ok a0.Book.Orders) fun rv5 cv5 =>
.reg 3 [26, 29, 32, 35] [(8, hc cv2 [] true), (13, hc cv3 [] true), (18, hc cv4 [] true), (23, hc cv5 [] true)] [.cl 3 cv2 [] 2 true, .cl 2 cv3 [] 2 true, .cl 1 cv4 [] 2 true, .cl 0 cv5 [] 2 true] <|
.ret [] ((⟨a0.Number, rv1, (⟨rv2, rv3, rv4, rv5⟩ : TApiBook)⟩ : TApiOffice), a1)
def F_office_fresh (a0 : TApiOffice) (a1 : Int) : Option R_office_fresh := (S_office_fresh a0 a1).den
set_option maxRecDepth 100000 in
theorem F_office_fresh_ok {a0 : TApiOffice} {a1 : Int} (r : R_office_fresh) (h : F_office_fresh a0 a1 = some r) : CallOk Tryz.prog 36 [(AV.d (TApiOffice.e a0)), (vi a1)] [] (V_office_fresh r) (L_office_fresh r) := fOk (s := S_office_fresh a0 a1) Tryz.func36 rfl (by kernel_rfl) h
/-! 11 -/
abbrev R_office_Do := TApiOffice × Int
def V_office_Do (x : R_office_Do) : AV := (AV.tup [(AV.d (TApiOffice.e x.1)), (vi x.2)])
def L_office_Do (_ : R_office_Do) : List Ob := []
def S_office_Do (a0 : TApiOffice) (a1 : TApiOp) : Scr Tryz.prog R_office_Do R_office_Do :=
.reg 0 [] [(2, { obs := [(2, (bx (TApiOffice.e (⟨0, [], (⟨[], [], [], []⟩ : TApiBook)⟩ : TApiOffice))))] })] [.pf cz1] <|
.call (@F_office_Valid_ok a0) fun rv1 cv1 =>
.reg 1 [] [(1, hc cv1 [] true)] [.cl 0 cv1 [] 3 true] <|
.ite (bif (bif (!rv1) then true else (decide (a1.Kind < 1))) then true else (decide (a1.Kind > 9))) (
.reg 2 [] [(0, hv (AV.d (TApiOffice.e (⟨0, [], (⟨[], [], [], []⟩ : TApiBook)⟩ : TApiOffice))))] [.pf cz2] <|
.ret [] ((⟨0, [], (⟨[], [], [], []⟩ : TApiBook)⟩ : TApiOffice), 1)) (
.call (@F_office_Step_ok a0 a1) fun rv2 cv2 =>
.call (@F_office_fresh_ok rv2.1 rv2.2) fun rv3 cv3 =>
.reg 3 [] [(2, hc cv2 [] true), (5, hc cv3 [] true)] [.cl 1 cv2 [] 3 true, .cl 0 cv3 [] 3 true] <|
.ret [] (rv3.1, rv3.2))
def F_office_Do (a0 : TApiOffice) (a1 : TApiOp) : Option R_office_Do := (S_office_Do a0 a1).den
set_option maxRecDepth 100000 in
theorem F_office_Do_ok {a0 : TApiOffice} {a1 : TApiOp} (r : R_office_Do) (h : F_office_Do a0 a1 = some r) : CallOk Tryz.prog 11 [(AV.d (TApiOffice.e a0)), (AV.d (TApiOp.e a1))] [] (V_office_Do r) (L_office_Do r) := fOk (s := S_office_Do a0 a1) Tryz.func11 rfl (by kernel_rfl) h
/-! 89 -/
abbrev R_r03_Good := Bool
def V_r03_Good (x : R_r03_Good) : AV := (vb x)
def L_r03_Good (_ : R_r03_Good) : List Ob := []
def S_r03_Good_b1 (a0 : List UInt8) (sv1 : Int × Int × Int) : Scr Tryz.prog R_r03_Good (Step (Int × Int × Int) R_r03_Good) :=
.ite (decide (sv1.2.2 < (a0.length : Int))) (
.guard [(0 : Int) ≤ sv1.2.2, (sv1.2.2).toNat < a0.length] <|
.reg 6 [] [] [.ev 0, .ev 1] <|
.ite (((a0.getD ((sv1.2.2).toNat) 0).toNat : Int) == 46) (
.ite (sv1.1 == 0) (
.ret [] (.ret false)) (
.ret [] (.cont (0, (IntKind.i64.wrap (sv1.2.1 + 1)), (IntKind.i64.wrap (sv1.2.2 + 1)))))) (
.guard [AllP [(decide (((a0.getD ((sv1.2.2).toNat) 0).toNat : Int) < 48)) = false] → ((0 : Int) ≤ sv1.2.2), AllP [(decide (((a0.getD ((sv1.2.2).toNat) 0).toNat : Int) < 48)) = false] → ((sv1.2.2).toNat < a0.length), AllP [(sv1.1 == 0) = true, (bif (decide (((a0.getD ((sv1.2.2).toNat) 0).toNat : Int) < 48)) then true else (decide (((a0.getD ((sv1.2.2).toNat) 0).toNat : Int) > 57))) = false] → ((0 : Int) ≤ sv1.2.2), AllP [(sv1.1 == 0) = true, (bif (decide (((a0.getD ((sv1.2.2).toNat) 0).toNat : Int) < 48)) then true else (decide (((a0.getD ((sv1.2.2).toNat) 0).toNat : Int) > 57))) = false] → ((sv1.2.2).toNat < a0.length)] <|
.reg 11 [] [] [.ev 5, .ev 6, .ev 0, .ev 1, .ev 2, .ev 3] <|
.ite (bif (bif (bif (decide (((a0.getD ((sv1.2.2).toNat) 0).toNat : Int) < 48)) then true else (decide (((a0.getD ((sv1.2.2).toNat) 0).toNat : Int) > 57))) then true else (bif (sv1.1 == 0) then (((a0.getD ((sv1.2.2).toNat) 0).toNat : Int) == 48) else false)) then true else (sv1.1 == 2)) (
.ret [] (.ret false)) (
.ret [] (.cont ((IntKind.i64.wrap (sv1.1 + 1)), sv1.2.1, (IntKind.i64.wrap (sv1.2.2 + 1))))))) (
.ret [] (.brk (sv1.1, sv1.2.1, sv1.2.2)))
def S_r03_Good (a0 : List UInt8) : Scr Tryz.prog R_r03_Good R_r03_Good :=
.iter [0] (fun (sv1 : Int × Int × Int) => [(3, (vi sv1.1)), (4, (vi sv1.2.1)), (5, (vi sv1.2.2))]) (fun (_ : Int × Int × Int) => []) (0, 1, 0) (S_r03_Good_b1 a0) (fun (sv1 : Int × Int × Int) =>
.ret [] (bif (decide (sv1.1 > 0)) then (decide (sv1.2.1 ≤ 4)) else false)) id
def F_r03_Good (a0 : List UInt8) : Option R_r03_Good := (S_r03_Good a0).den
set_option maxRecDepth 100000 in
theorem F_r03_Good_ok {a0 : List UInt8} (r : R_r03_Good) (h : F_r03_Good a0 = some r) : CallOk Tryz.prog 89 [(AV.d (DV.str a0))] [] (V_r03_Good r) (L_r03_Good r) := fOk (s := S_r03_Good a0) Tryz.func89 rfl (by kernel_rfl) h
/-! 96 -/
abbrev R_r14_day := Bool
def V_r14_day (x : R_r14_day) : AV := (vb x)
def L_r14_day (_ : R_r14_day) : List Ob := []
def S_r14_day (a0 : Int) : Scr Tryz.prog R_r14_day R_r14_day :=
.ret [] (bif (decide (a0 ≥ 0)) then (decide (a0 ≤ 35990)) else false)
def F_r14_day (a0 : Int) : Option R_r14_day := (S_r14_day a0).den
set_option maxRecDepth 100000 in
theorem F_r14_day_ok {a0 : Int} (r : R_r14_day) (h : F_r14_day a0 = some r) : CallOk Tryz.prog 96 [(vi a0)] [] (V_r14_day r) (L_r14_day r) := fOk (s := S_r14_day a0) Tryz.func96 rfl (by kernel_rfl) h
/-! 129 -/
abbrev R_r02_Valid := Bool
def V_r02_Valid (x : R_r02_Valid) : AV := (vb x)
def L_r02_Valid (_ : R_r02_Valid) : List Ob := []
def S_r02_Valid (a0 : Int) : Scr Tryz.prog R_r02_Valid R_r02_Valid :=
.ret [] (bif (decide (a0 ≥ 0)) then (decide (a0 ≤ 36000)) else false)
def F_r02_Valid (a0 : Int) : Option R_r02_Valid := (S_r02_Valid a0).den
set_option maxRecDepth 100000 in
theorem F_r02_Valid_ok {a0 : Int} (r : R_r02_Valid) (h : F_r02_Valid a0 = some r) : CallOk Tryz.prog 129 [(vi a0)] [] (V_r02_Valid r) (L_r02_Valid r) := fOk (s := S_r02_Valid a0) Tryz.func129 rfl (by kernel_rfl) h
/-! 98 -/
abbrev R_r02_Year := Int
def V_r02_Year (x : R_r02_Year) : AV := (vi x)
def L_r02_Year (_ : R_r02_Year) : List Ob := []
def S_r02_Year (a0 : Int) : Scr Tryz.prog R_r02_Year R_r02_Year :=
.call (@F_r02_Valid_ok a0) fun rv1 cv1 =>
.reg 1 [] [(1, hc cv1 [] true)] [.cl 0 cv1 [] 0 true] <|
.ite (!rv1) (
.ret [] (-1)) (
.reg 3 [] [] [.pf (p := (360 : Int) ≠ 0) (by decide)] <|
.ret [] (IntKind.i64.wrap (a0.tdiv 360)))
def F_r02_Year (a0 : Int) : Option R_r02_Year := (S_r02_Year a0).den
set_option maxRecDepth 100000 in
theorem F_r02_Year_ok {a0 : Int} (r : R_r02_Year) (h : F_r02_Year a0 = some r) : CallOk Tryz.prog 98 [(vi a0)] [] (V_r02_Year r) (L_r02_Year r) := fOk (s := S_r02_Year a0) Tryz.func98 rfl (by kernel_rfl) h
/-! 97 -/
abbrev R_r14_amount := Bool
def V_r14_amount (x : R_r14_amount) : AV := (vb x)
def L_r14_amount (_ : R_r14_amount) : List Ob := []
def S_r14_amount (a0 : Int) : Scr Tryz.prog R_r14_amount R_r14_amount :=
.ret [] (bif (decide (a0 ≥ 1)) then (decide (a0 ≤ 1000000000000)) else false)
def F_r14_amount (a0 : Int) : Option R_r14_amount := (S_r14_amount a0).den
set_option maxRecDepth 100000 in
theorem F_r14_amount_ok {a0 : Int} (r : R_r14_amount) (h : F_r14_amount a0 = some r) : CallOk Tryz.prog 97 [(vi a0)] [] (V_r14_amount r) (L_r14_amount r) := fOk (s := S_r14_amount a0) Tryz.func97 rfl (by kernel_rfl) h
/-! 86 -/
abbrev R_r14_reservations := Bool
def V_r14_reservations (x : R_r14_reservations) : AV := (vb x)
def L_r14_reservations (_ : R_r14_reservations) : List Ob := []
def S_r14_reservations_b1 (a0 : TApiBook) (iv1 : Nat) (_ : Unit) : Scr Tryz.prog R_r14_reservations (Step (Unit) R_r14_reservations) :=
.reg 3 [] [] [.pf (nn iv1), .ev 0] <|
.calld [(((a0.Reservations.getD iv1 default).Number) != (IntKind.i64.wrap ((iv1 : Int) + 1))) = false] default (@F_r03_Good_ok ((a0.Reservations.getD iv1 default).Code)) fun rv2 cv2 =>
.calld [(bif (bif (bif (((a0.Reservations.getD iv1 default).Number) != (IntKind.i64.wrap ((iv1 : Int) + 1))) then true else (!rv2)) then true else (decide (((a0.Reservations.getD iv1 default).Year) < 0))) then true else (decide (((a0.Reservations.getD iv1 default).Year) > 99))) = false] default (@F_r14_day_ok ((a0.Reservations.getD iv1 default).Day)) fun rv3 cv3 =>
.calld [(bif (bif (bif (bif (((a0.Reservations.getD iv1 default).Number) != (IntKind.i64.wrap ((iv1 : Int) + 1))) then true else (!rv2)) then true else (decide (((a0.Reservations.getD iv1 default).Year) < 0))) then true else (decide (((a0.Reservations.getD iv1 default).Year) > 99))) then true else (!rv3)) = false] default (@F_r02_Year_ok ((a0.Reservations.getD iv1 default).Day)) fun rv4 cv4 =>
.calld [(bif (bif (bif (bif (bif (((a0.Reservations.getD iv1 default).Number) != (IntKind.i64.wrap ((iv1 : Int) + 1))) then true else (!rv2)) then true else (decide (((a0.Reservations.getD iv1 default).Year) < 0))) then true else (decide (((a0.Reservations.getD iv1 default).Year) > 99))) then true else (!rv3)) then true else (rv4 != ((a0.Reservations.getD iv1 default).Year))) = false] default (@F_r14_amount_ok ((a0.Reservations.getD iv1 default).Amount)) fun rv5 cv5 =>
.reg 4 [] [(8, hc cv2 [] true), (24, hc cv3 [] true), (30, hc cv4 [] true), (38, hc cv5 [] true)] [.clg 6 [(((a0.Reservations.getD iv1 default).Number) != (IntKind.i64.wrap ((iv1 : Int) + 1))) = false] cv2 [] 2 true, .clg 4 [(bif (bif (bif (((a0.Reservations.getD iv1 default).Number) != (IntKind.i64.wrap ((iv1 : Int) + 1))) then true else (!rv2)) then true else (decide (((a0.Reservations.getD iv1 default).Year) < 0))) then true else (decide (((a0.Reservations.getD iv1 default).Year) > 99))) = false] cv3 [] 2 true, .clg 2 [(bif (bif (bif (bif (((a0.Reservations.getD iv1 default).Number) != (IntKind.i64.wrap ((iv1 : Int) + 1))) then true else (!rv2)) then true else (decide (((a0.Reservations.getD iv1 default).Year) < 0))) then true else (decide (((a0.Reservations.getD iv1 default).Year) > 99))) then true else (!rv3)) = false] cv4 [] 2 true, .clg 0 [(bif (bif (bif (bif (bif (((a0.Reservations.getD iv1 default).Number) != (IntKind.i64.wrap ((iv1 : Int) + 1))) then true else (!rv2)) then true else (decide (((a0.Reservations.getD iv1 default).Year) < 0))) then true else (decide (((a0.Reservations.getD iv1 default).Year) > 99))) then true else (!rv3)) then true else (rv4 != ((a0.Reservations.getD iv1 default).Year))) = false] cv5 [] 2 true] <|
.ite (bif (bif (bif (bif (bif (bif (bif (bif (((a0.Reservations.getD iv1 default).Number) != (IntKind.i64.wrap ((iv1 : Int) + 1))) then true else (!rv2)) then true else (decide (((a0.Reservations.getD iv1 default).Year) < 0))) then true else (decide (((a0.Reservations.getD iv1 default).Year) > 99))) then true else (!rv3)) then true else (rv4 != ((a0.Reservations.getD iv1 default).Year))) then true else (!rv5)) then true else (decide (((a0.Reservations.getD iv1 default).Released) < 0))) then true else (decide (((a0.Reservations.getD iv1 default).Released) > ((a0.Reservations.getD iv1 default).Amount)))) (
.ret [] (.ret false)) (
.ret [] (.cont ()))
def S_r14_reservations (a0 : TApiBook) : Scr Tryz.prog R_r14_reservations R_r14_reservations :=
.range (a0.Reservations.length : Int) a0.Reservations.length rfl (.slot 6) 8 [6, 7] (fun (_ : Unit) => []) (fun (_ : Unit) => []) () (S_r14_reservations_b1 a0) (fun (_ : Unit) => 
.ret [] true) id
def F_r14_reservations (a0 : TApiBook) : Option R_r14_reservations := (S_r14_reservations a0).den
set_option maxRecDepth 100000 in
theorem F_r14_reservations_ok {a0 : TApiBook} (r : R_r14_reservations) (h : F_r14_reservations a0 = some r) : CallOk Tryz.prog 86 [(AV.d (TApiBook.e a0))] [] (V_r14_reservations r) (L_r14_reservations r) := fOk (s := S_r14_reservations a0) Tryz.func86 rfl (by kernel_rfl) h
/-! 100 -/
abbrev R_r14_Left := Int
def V_r14_Left (x : R_r14_Left) : AV := (vi x)
def L_r14_Left (_ : R_r14_Left) : List Ob := []
def S_r14_Left_b1 (a0 : TApiBook) (a1 : Int) (iv1 : Nat) (sv2 : Int) : Scr Tryz.prog R_r14_Left (Step (Int) R_r14_Left) :=
.reg 8 [] [] [.pf (nn iv1), .ev 0] <|
.ite (((a0.Commitments.getD iv1 default).Reservation) == a1) (
.ret [] (.cont (IntKind.i64.wrap (sv2 - ((a0.Commitments.getD iv1 default).Amount))))) (
.ret [] (.cont sv2))
def S_r14_Left_b2 (a0 : TApiBook) (a1 : Int) (iv3 : Nat) (_ : Unit) : Scr Tryz.prog R_r14_Left (Step (Unit) R_r14_Left) :=
.reg 3 [] [] [.pf (nn iv3), .ev 0] <|
.ite (((a0.Reservations.getD iv3 default).Number) == a1) (
.range (a0.Commitments.length : Int) a0.Commitments.length rfl (.slot 27) 29 [1, 27, 28] (fun (sv2 : Int) => [(7, (vi sv2))]) (fun (_ : Int) => []) (IntKind.i64.wrap (((a0.Reservations.getD iv3 default).Amount) - ((a0.Reservations.getD iv3 default).Released))) (S_r14_Left_b1 a0 a1) (fun (sv2 : Int) => 
.ret [] (.ret sv2)) .ret) (
.ret [] (.cont ()))
def S_r14_Left (a0 : TApiBook) (a1 : Int) : Scr Tryz.prog R_r14_Left R_r14_Left :=
.range (a0.Reservations.length : Int) a0.Reservations.length rfl (.slot 11) 13 [1, 2, 11, 12] (fun (_ : Unit) => []) (fun (_ : Unit) => []) () (S_r14_Left_b2 a0 a1) (fun (_ : Unit) => 
.ret [] 0) id
def F_r14_Left (a0 : TApiBook) (a1 : Int) : Option R_r14_Left := (S_r14_Left a0 a1).den
set_option maxRecDepth 100000 in
theorem F_r14_Left_ok {a0 : TApiBook} {a1 : Int} (r : R_r14_Left) (h : F_r14_Left a0 a1 = some r) : CallOk Tryz.prog 100 [(AV.d (TApiBook.e a0)), (vi a1)] [] (V_r14_Left r) (L_r14_Left r) := fOk (s := S_r14_Left a0 a1) Tryz.func100 rfl (by kernel_rfl) h
/-! 87 -/
abbrev R_r14_commitments := Bool
def V_r14_commitments (x : R_r14_commitments) : AV := (vb x)
def L_r14_commitments (_ : R_r14_commitments) : List Ob := []
def S_r14_commitments_b1 (a0 : TApiBook) (iv1 : Nat) (_ : Unit) : Scr Tryz.prog R_r14_commitments (Step (Unit) R_r14_commitments) :=
.reg 3 [] [] [.pf (nn iv1), .ev 0] <|
.calld [(bif (bif (((a0.Commitments.getD iv1 default).Number) != (IntKind.i64.wrap ((iv1 : Int) + 1))) then true else (decide (((a0.Commitments.getD iv1 default).Reservation) < 1))) then true else (decide (((a0.Commitments.getD iv1 default).Reservation) > (a0.Reservations.length : Int)))) = false] default (@F_r14_day_ok ((a0.Commitments.getD iv1 default).Day)) fun rv2 cv2 =>
.calld [(bif (bif (bif (((a0.Commitments.getD iv1 default).Number) != (IntKind.i64.wrap ((iv1 : Int) + 1))) then true else (decide (((a0.Commitments.getD iv1 default).Reservation) < 1))) then true else (decide (((a0.Commitments.getD iv1 default).Reservation) > (a0.Reservations.length : Int)))) then true else (!rv2)) = false] default (@F_r14_amount_ok ((a0.Commitments.getD iv1 default).Amount)) fun rv3 cv3 =>
.calld [(bif (bif (bif (bif (bif (bif (bif (bif (((a0.Commitments.getD iv1 default).Number) != (IntKind.i64.wrap ((iv1 : Int) + 1))) then true else (decide (((a0.Commitments.getD iv1 default).Reservation) < 1))) then true else (decide (((a0.Commitments.getD iv1 default).Reservation) > (a0.Reservations.length : Int)))) then true else (!rv2)) then true else (!rv3)) then true else (decide (((a0.Commitments.getD iv1 default).Released) < 0))) then true else (decide (((a0.Commitments.getD iv1 default).Released) > ((a0.Commitments.getD iv1 default).Amount)))) then true else (decide (((a0.Commitments.getD iv1 default).Payee) < 1))) then true else (decide (((a0.Commitments.getD iv1 default).Payee) > 1000000))) = false] default (@F_r14_day_ok ((a0.Commitments.getD iv1 default).Due)) fun rv4 cv4 =>
.reg 4 [] [(21, hc cv2 [] true), (27, hc cv3 [] true), (55, hc cv4 [] true)] [.clg 4 [(bif (bif (((a0.Commitments.getD iv1 default).Number) != (IntKind.i64.wrap ((iv1 : Int) + 1))) then true else (decide (((a0.Commitments.getD iv1 default).Reservation) < 1))) then true else (decide (((a0.Commitments.getD iv1 default).Reservation) > (a0.Reservations.length : Int)))) = false] cv2 [] 2 true, .clg 2 [(bif (bif (bif (((a0.Commitments.getD iv1 default).Number) != (IntKind.i64.wrap ((iv1 : Int) + 1))) then true else (decide (((a0.Commitments.getD iv1 default).Reservation) < 1))) then true else (decide (((a0.Commitments.getD iv1 default).Reservation) > (a0.Reservations.length : Int)))) then true else (!rv2)) = false] cv3 [] 2 true, .clg 0 [(bif (bif (bif (bif (bif (bif (bif (bif (((a0.Commitments.getD iv1 default).Number) != (IntKind.i64.wrap ((iv1 : Int) + 1))) then true else (decide (((a0.Commitments.getD iv1 default).Reservation) < 1))) then true else (decide (((a0.Commitments.getD iv1 default).Reservation) > (a0.Reservations.length : Int)))) then true else (!rv2)) then true else (!rv3)) then true else (decide (((a0.Commitments.getD iv1 default).Released) < 0))) then true else (decide (((a0.Commitments.getD iv1 default).Released) > ((a0.Commitments.getD iv1 default).Amount)))) then true else (decide (((a0.Commitments.getD iv1 default).Payee) < 1))) then true else (decide (((a0.Commitments.getD iv1 default).Payee) > 1000000))) = false] cv4 [] 2 true] <|
.ite (bif (bif (bif (bif (bif (bif (bif (bif (bif (((a0.Commitments.getD iv1 default).Number) != (IntKind.i64.wrap ((iv1 : Int) + 1))) then true else (decide (((a0.Commitments.getD iv1 default).Reservation) < 1))) then true else (decide (((a0.Commitments.getD iv1 default).Reservation) > (a0.Reservations.length : Int)))) then true else (!rv2)) then true else (!rv3)) then true else (decide (((a0.Commitments.getD iv1 default).Released) < 0))) then true else (decide (((a0.Commitments.getD iv1 default).Released) > ((a0.Commitments.getD iv1 default).Amount)))) then true else (decide (((a0.Commitments.getD iv1 default).Payee) < 1))) then true else (decide (((a0.Commitments.getD iv1 default).Payee) > 1000000))) then true else (!rv4)) (
.ret [] (.ret false)) (
.guard [(0 : Int) ≤ (IntKind.i64.wrap (((a0.Commitments.getD iv1 default).Reservation) - 1)), ((IntKind.i64.wrap (((a0.Commitments.getD iv1 default).Reservation) - 1))).toNat < a0.Reservations.length] <|
.reg 6 [] [] [.ev 0, .ev 1] <|
.calld [(decide (((a0.Commitments.getD iv1 default).Day) < ((a0.Reservations.getD (((IntKind.i64.wrap (((a0.Commitments.getD iv1 default).Reservation) - 1))).toNat) default).Day))) = false] default (@F_r02_Year_ok ((a0.Commitments.getD iv1 default).Day)) fun rv5 cv5 =>
.reg 7 [] [(8, hc cv5 [] true)] [.clg 0 [(decide (((a0.Commitments.getD iv1 default).Day) < ((a0.Reservations.getD (((IntKind.i64.wrap (((a0.Commitments.getD iv1 default).Reservation) - 1))).toNat) default).Day))) = false] cv5 [] 3 true] <|
.ite (bif (decide (((a0.Commitments.getD iv1 default).Day) < ((a0.Reservations.getD (((IntKind.i64.wrap (((a0.Commitments.getD iv1 default).Reservation) - 1))).toNat) default).Day))) then true else (rv5 != ((a0.Reservations.getD (((IntKind.i64.wrap (((a0.Commitments.getD iv1 default).Reservation) - 1))).toNat) default).Year))) (
.ret [] (.ret false)) (
.ret [] (.cont ())))
def S_r14_commitments_b2 (a0 : TApiBook) (iv6 : Nat) (_ : Unit) : Scr Tryz.prog R_r14_commitments (Step (Unit) R_r14_commitments) :=
.reg 12 [] [] [.pf (nn iv6), .ev 0] <|
.call (@F_r14_Left_ok a0 ((a0.Reservations.getD iv6 default).Number)) fun rv7 cv7 =>
.reg 13 [] [(3, hc cv7 [] true)] [.cl 0 cv7 [] 2 true] <|
.ite (decide (rv7 < 0)) (
.ret [] (.ret false)) (
.ret [] (.cont ()))
def S_r14_commitments (a0 : TApiBook) : Scr Tryz.prog R_r14_commitments R_r14_commitments :=
.range (a0.Commitments.length : Int) a0.Commitments.length rfl (.slot 9) 11 [1, 9, 10] (fun (_ : Unit) => []) (fun (_ : Unit) => []) () (S_r14_commitments_b1 a0) (fun (_ : Unit) => 
.range (a0.Reservations.length : Int) a0.Reservations.length rfl (.slot 96) 98 [1, 96, 97] (fun (_ : Unit) => []) (fun (_ : Unit) => []) () (S_r14_commitments_b2 a0) (fun (_ : Unit) => 
.ret [] true) id) id
def F_r14_commitments (a0 : TApiBook) : Option R_r14_commitments := (S_r14_commitments a0).den
set_option maxRecDepth 100000 in
theorem F_r14_commitments_ok {a0 : TApiBook} (r : R_r14_commitments) (h : F_r14_commitments a0 = some r) : CallOk Tryz.prog 87 [(AV.d (TApiBook.e a0))] [] (V_r14_commitments r) (L_r14_commitments r) := fOk (s := S_r14_commitments a0) Tryz.func87 rfl (by kernel_rfl) h
/-! 101 -/
abbrev R_r14_year := Int
def V_r14_year (x : R_r14_year) : AV := (vi x)
def L_r14_year (_ : R_r14_year) : List Ob := []
def S_r14_year (a0 : TApiBook) (a1 : Int) : Scr Tryz.prog R_r14_year R_r14_year :=
.guard [(0 : Int) ≤ (IntKind.i64.wrap (a1 - 1)), ((IntKind.i64.wrap (a1 - 1))).toNat < a0.Commitments.length, (0 : Int) ≤ (IntKind.i64.wrap (((a0.Commitments.getD (((IntKind.i64.wrap (a1 - 1))).toNat) default).Reservation) - 1)), ((IntKind.i64.wrap (((a0.Commitments.getD (((IntKind.i64.wrap (a1 - 1))).toNat) default).Reservation) - 1))).toNat < a0.Reservations.length] <|
.reg 1 [] [] [.ev 0, .ev 1, .ev 2, .ev 3] <|
.ret [] ((a0.Reservations.getD (((IntKind.i64.wrap (((a0.Commitments.getD (((IntKind.i64.wrap (a1 - 1))).toNat) default).Reservation) - 1))).toNat) default).Year)
def F_r14_year (a0 : TApiBook) (a1 : Int) : Option R_r14_year := (S_r14_year a0 a1).den
set_option maxRecDepth 100000 in
theorem F_r14_year_ok {a0 : TApiBook} {a1 : Int} (r : R_r14_year) (h : F_r14_year a0 a1 = some r) : CallOk Tryz.prog 101 [(AV.d (TApiBook.e a0)), (vi a1)] [] (V_r14_year r) (L_r14_year r) := fOk (s := S_r14_year a0 a1) Tryz.func101 rfl (by kernel_rfl) h
/-! 102 -/
abbrev R_r14_rest := Int
def V_r14_rest (x : R_r14_rest) : AV := (vi x)
def L_r14_rest (_ : R_r14_rest) : List Ob := []
def S_r14_rest_b1 (a0 : TApiBook) (a1 : TApiCommitment) (iv1 : Nat) (sv2 : Int) : Scr Tryz.prog R_r14_rest (Step (Int) R_r14_rest) :=
.reg 4 [] [] [.pf (nn iv1), .ev 0] <|
.ite (((a0.Verifications.getD iv1 default).Commitment) == a1.Number) (
.ret [] (.cont (IntKind.i64.wrap (sv2 - ((a0.Verifications.getD iv1 default).Amount))))) (
.ret [] (.cont sv2))
def S_r14_rest (a0 : TApiBook) (a1 : TApiCommitment) : Scr Tryz.prog R_r14_rest R_r14_rest :=
.range (a0.Verifications.length : Int) a0.Verifications.length rfl (.slot 14) 16 [3, 14, 15] (fun (sv2 : Int) => [(5, (vi sv2))]) (fun (_ : Int) => []) (IntKind.i64.wrap (a1.Amount - a1.Released)) (S_r14_rest_b1 a0 a1) (fun (sv2 : Int) => 
.ret [] sv2) id
def F_r14_rest (a0 : TApiBook) (a1 : TApiCommitment) : Option R_r14_rest := (S_r14_rest a0 a1).den
set_option maxRecDepth 100000 in
theorem F_r14_rest_ok {a0 : TApiBook} {a1 : TApiCommitment} (r : R_r14_rest) (h : F_r14_rest a0 a1 = some r) : CallOk Tryz.prog 102 [(AV.d (TApiBook.e a0)), (AV.d (TApiCommitment.e a1))] [] (V_r14_rest r) (L_r14_rest r) := fOk (s := S_r14_rest a0 a1) Tryz.func102 rfl (by kernel_rfl) h
end
end Go.Proofs.YtbjbpoighbanfaaGreatDoor
/- What the functions compute, and that their calls return it. No condition. -/
namespace Go.Proofs.YtbjbpoighbanfaaGreatDoor
open Go Go.TA
noncomputable section
/-! 88 -/
abbrev R_r14_orders := Bool
def V_r14_orders (x : R_r14_orders) : AV := (vb x)
def L_r14_orders (_ : R_r14_orders) : List Ob := []
def S_r14_orders_b1 (a0 : TApiBook) (iv1 : Nat) (_ : Unit) : Scr Tryz.prog R_r14_orders (Step (Unit) R_r14_orders) :=
.reg 3 [] [] [.pf (nn iv1), .ev 0] <|
.calld [(bif (bif (((a0.Verifications.getD iv1 default).Number) != (IntKind.i64.wrap ((iv1 : Int) + 1))) then true else (decide (((a0.Verifications.getD iv1 default).Commitment) < 1))) then true else (decide (((a0.Verifications.getD iv1 default).Commitment) > (a0.Commitments.length : Int)))) = false] default (@F_r14_day_ok ((a0.Verifications.getD iv1 default).Day)) fun rv2 cv2 =>
.calld [(bif (bif (bif (((a0.Verifications.getD iv1 default).Number) != (IntKind.i64.wrap ((iv1 : Int) + 1))) then true else (decide (((a0.Verifications.getD iv1 default).Commitment) < 1))) then true else (decide (((a0.Verifications.getD iv1 default).Commitment) > (a0.Commitments.length : Int)))) then true else (!rv2)) = false] default (@F_r14_amount_ok ((a0.Verifications.getD iv1 default).Amount)) fun rv3 cv3 =>
.calld [(bif (bif (bif (bif (bif (((a0.Verifications.getD iv1 default).Number) != (IntKind.i64.wrap ((iv1 : Int) + 1))) then true else (decide (((a0.Verifications.getD iv1 default).Commitment) < 1))) then true else (decide (((a0.Verifications.getD iv1 default).Commitment) > (a0.Commitments.length : Int)))) then true else (!rv2)) then true else (!rv3)) then true else (decide (((a0.Verifications.getD iv1 default).Day) < ((a0.Commitments.getD (((IntKind.i64.wrap (((a0.Verifications.getD iv1 default).Commitment) - 1))).toNat) default).Day)))) = false] default (@F_r02_Year_ok ((a0.Verifications.getD iv1 default).Day)) fun rv4 cv4 =>
.calld [(bif (bif (bif (bif (bif (((a0.Verifications.getD iv1 default).Number) != (IntKind.i64.wrap ((iv1 : Int) + 1))) then true else (decide (((a0.Verifications.getD iv1 default).Commitment) < 1))) then true else (decide (((a0.Verifications.getD iv1 default).Commitment) > (a0.Commitments.length : Int)))) then true else (!rv2)) then true else (!rv3)) then true else (decide (((a0.Verifications.getD iv1 default).Day) < ((a0.Commitments.getD (((IntKind.i64.wrap (((a0.Verifications.getD iv1 default).Commitment) - 1))).toNat) default).Day)))) = false] default (@F_r14_year_ok a0 ((a0.Verifications.getD iv1 default).Commitment)) fun rv5 cv5 =>
.guard [AllP [(bif (bif (bif (bif (((a0.Verifications.getD iv1 default).Number) != (IntKind.i64.wrap ((iv1 : Int) + 1))) then true else (decide (((a0.Verifications.getD iv1 default).Commitment) < 1))) then true else (decide (((a0.Verifications.getD iv1 default).Commitment) > (a0.Commitments.length : Int)))) then true else (!rv2)) then true else (!rv3)) = false] → ((0 : Int) ≤ (IntKind.i64.wrap (((a0.Verifications.getD iv1 default).Commitment) - 1))), AllP [(bif (bif (bif (bif (((a0.Verifications.getD iv1 default).Number) != (IntKind.i64.wrap ((iv1 : Int) + 1))) then true else (decide (((a0.Verifications.getD iv1 default).Commitment) < 1))) then true else (decide (((a0.Verifications.getD iv1 default).Commitment) > (a0.Commitments.length : Int)))) then true else (!rv2)) then true else (!rv3)) = false] → (((IntKind.i64.wrap (((a0.Verifications.getD iv1 default).Commitment) - 1))).toNat < a0.Commitments.length)] <|
.reg 4 [] [(21, hc cv2 [] true), (27, hc cv3 [] true), (46, hc cv4 [] true), (50, hc cv5 [] true)] [.clg 8 [(bif (bif (((a0.Verifications.getD iv1 default).Number) != (IntKind.i64.wrap ((iv1 : Int) + 1))) then true else (decide (((a0.Verifications.getD iv1 default).Commitment) < 1))) then true else (decide (((a0.Verifications.getD iv1 default).Commitment) > (a0.Commitments.length : Int)))) = false] cv2 [] 2 true, .clg 6 [(bif (bif (bif (((a0.Verifications.getD iv1 default).Number) != (IntKind.i64.wrap ((iv1 : Int) + 1))) then true else (decide (((a0.Verifications.getD iv1 default).Commitment) < 1))) then true else (decide (((a0.Verifications.getD iv1 default).Commitment) > (a0.Commitments.length : Int)))) then true else (!rv2)) = false] cv3 [] 2 true, .ev 0, .ev 1, .clg 4 [(bif (bif (bif (bif (bif (((a0.Verifications.getD iv1 default).Number) != (IntKind.i64.wrap ((iv1 : Int) + 1))) then true else (decide (((a0.Verifications.getD iv1 default).Commitment) < 1))) then true else (decide (((a0.Verifications.getD iv1 default).Commitment) > (a0.Commitments.length : Int)))) then true else (!rv2)) then true else (!rv3)) then true else (decide (((a0.Verifications.getD iv1 default).Day) < ((a0.Commitments.getD (((IntKind.i64.wrap (((a0.Verifications.getD iv1 default).Commitment) - 1))).toNat) default).Day)))) = false] cv4 [] 2 true, .clg 2 [(bif (bif (bif (bif (bif (((a0.Verifications.getD iv1 default).Number) != (IntKind.i64.wrap ((iv1 : Int) + 1))) then true else (decide (((a0.Verifications.getD iv1 default).Commitment) < 1))) then true else (decide (((a0.Verifications.getD iv1 default).Commitment) > (a0.Commitments.length : Int)))) then true else (!rv2)) then true else (!rv3)) then true else (decide (((a0.Verifications.getD iv1 default).Day) < ((a0.Commitments.getD (((IntKind.i64.wrap (((a0.Verifications.getD iv1 default).Commitment) - 1))).toNat) default).Day)))) = false] cv5 [] 2 true] <|
.ite (bif (bif (bif (bif (bif (bif (((a0.Verifications.getD iv1 default).Number) != (IntKind.i64.wrap ((iv1 : Int) + 1))) then true else (decide (((a0.Verifications.getD iv1 default).Commitment) < 1))) then true else (decide (((a0.Verifications.getD iv1 default).Commitment) > (a0.Commitments.length : Int)))) then true else (!rv2)) then true else (!rv3)) then true else (decide (((a0.Verifications.getD iv1 default).Day) < ((a0.Commitments.getD (((IntKind.i64.wrap (((a0.Verifications.getD iv1 default).Commitment) - 1))).toNat) default).Day)))) then true else (decide (rv4 > (IntKind.i64.wrap (rv5 + 1))))) (
.ret [] (.ret false)) (
.ret [] (.cont ()))
def S_r14_orders_b2 (a0 : TApiBook) (iv6 : Nat) (_ : Unit) : Scr Tryz.prog R_r14_orders (Step (Unit) R_r14_orders) :=
.reg 9 [] [] [.pf (nn iv6), .ev 0] <|
.call (@F_r14_rest_ok a0 (a0.Commitments.getD iv6 default)) fun rv7 cv7 =>
.reg 10 [] [(2, hc cv7 [] true)] [.cl 0 cv7 [] 2 true] <|
.ite (decide (rv7 < 0)) (
.ret [] (.ret false)) (
.ret [] (.cont ()))
def S_r14_orders_b3 (a0 : TApiBook) (iv8 : Nat) (iv9 : Nat) (sv10 : Int) : Scr Tryz.prog R_r14_orders (Step (Int) R_r14_orders) :=
.reg 24 [] [] [.pf (nn iv9), .ev 0] <|
.ite ((((a0.Orders.take iv8).getD iv9 default).Verification) != ((a0.Orders.getD iv8 default).Verification)) (
.ret [] (.cont sv10)) (
.ite (bif (!(((a0.Orders.take iv8).getD iv9 default).Back)) then true else (decide ((((a0.Orders.take iv8).getD iv9 default).Day) > ((a0.Orders.getD iv8 default).Day)))) (
.ret [] (.ret false)) (
.ret [] (.cont (IntKind.i64.wrap (sv10 + 1)))))
def S_r14_orders_b4 (a0 : TApiBook) (iv8 : Nat) (_ : Unit) : Scr Tryz.prog R_r14_orders (Step (Unit) R_r14_orders) :=
.reg 15 [] [] [.pf (nn iv8), .ev 0] <|
.calld [(bif (bif (((a0.Orders.getD iv8 default).Number) != (IntKind.i64.wrap ((iv8 : Int) + 1))) then true else (decide (((a0.Orders.getD iv8 default).Verification) < 1))) then true else (decide (((a0.Orders.getD iv8 default).Verification) > (a0.Verifications.length : Int)))) = false] default (@F_r14_day_ok ((a0.Orders.getD iv8 default).Day)) fun rv11 cv11 =>
.reg 16 [] [(21, hc cv11 [] true)] [.clg 0 [(bif (bif (((a0.Orders.getD iv8 default).Number) != (IntKind.i64.wrap ((iv8 : Int) + 1))) then true else (decide (((a0.Orders.getD iv8 default).Verification) < 1))) then true else (decide (((a0.Orders.getD iv8 default).Verification) > (a0.Verifications.length : Int)))) = false] cv11 [] 2 true] <|
.ite (bif (bif (bif (((a0.Orders.getD iv8 default).Number) != (IntKind.i64.wrap ((iv8 : Int) + 1))) then true else (decide (((a0.Orders.getD iv8 default).Verification) < 1))) then true else (decide (((a0.Orders.getD iv8 default).Verification) > (a0.Verifications.length : Int)))) then true else (!rv11)) (
.ret [] (.ret false)) (
.guard [(0 : Int) ≤ (IntKind.i64.wrap (((a0.Orders.getD iv8 default).Verification) - 1)), ((IntKind.i64.wrap (((a0.Orders.getD iv8 default).Verification) - 1))).toNat < a0.Verifications.length] <|
.reg 18 [] [] [.ev 0, .ev 1] <|
.calld [(decide (((a0.Orders.getD iv8 default).Day) < ((a0.Verifications.getD (((IntKind.i64.wrap (((a0.Orders.getD iv8 default).Verification) - 1))).toNat) default).Day))) = false] default (@F_r02_Year_ok ((a0.Orders.getD iv8 default).Day)) fun rv12 cv12 =>
.calld [(decide (((a0.Orders.getD iv8 default).Day) < ((a0.Verifications.getD (((IntKind.i64.wrap (((a0.Orders.getD iv8 default).Verification) - 1))).toNat) default).Day))) = false] default (@F_r14_year_ok a0 ((a0.Verifications.getD (((IntKind.i64.wrap (((a0.Orders.getD iv8 default).Verification) - 1))).toNat) default).Commitment)) fun rv13 cv13 =>
.reg 19 [] [(8, hc cv12 [] true), (12, hc cv13 [] true)] [.clg 2 [(decide (((a0.Orders.getD iv8 default).Day) < ((a0.Verifications.getD (((IntKind.i64.wrap (((a0.Orders.getD iv8 default).Verification) - 1))).toNat) default).Day))) = false] cv12 [] 3 true, .clg 0 [(decide (((a0.Orders.getD iv8 default).Day) < ((a0.Verifications.getD (((IntKind.i64.wrap (((a0.Orders.getD iv8 default).Verification) - 1))).toNat) default).Day))) = false] cv13 [] 3 true] <|
.ite (bif (decide (((a0.Orders.getD iv8 default).Day) < ((a0.Verifications.getD (((IntKind.i64.wrap (((a0.Orders.getD iv8 default).Verification) - 1))).toNat) default).Day))) then true else (decide (rv12 > (IntKind.i64.wrap (rv13 + 1))))) (
.ret [] (.ret false)) (
.guard [iv8 ≤ a0.Orders.length] <|
.reg 22 [] [(3, hv (AV.d (eL TApiOrder.e (a0.Orders.take iv8))))] [.pf (nn iv8), .ev 0, .der (fun (h0 : iv8 ≤ a0.Orders.length) => lvT TApiOrder.e a0.Orders h0) 0] <|
.range ((a0.Orders.take iv8).length : Int) ((a0.Orders.take iv8).length) rfl (.slot 146) 148 [1, 8, 89, 90, 91, 146, 147] (fun (sv10 : Int) => [(10, (vi sv10))]) (fun (_ : Int) => []) 1 (S_r14_orders_b3 a0 iv8) (fun (sv10 : Int) => 
.ite (((a0.Orders.getD iv8 default).Attempt) != sv10) (
.ret [] (.ret false)) (
.ret [] (.cont ()))) .ret))
def S_r14_orders (a0 : TApiBook) : Scr Tryz.prog R_r14_orders R_r14_orders :=
.range (a0.Verifications.length : Int) a0.Verifications.length rfl (.slot 14) 16 [1, 14, 15] (fun (_ : Unit) => []) (fun (_ : Unit) => []) () (S_r14_orders_b1 a0) (fun (_ : Unit) => 
.range (a0.Commitments.length : Int) a0.Commitments.length rfl (.slot 77) 79 [1, 77, 78] (fun (_ : Unit) => []) (fun (_ : Unit) => []) () (S_r14_orders_b2 a0) (fun (_ : Unit) => 
.range (a0.Orders.length : Int) a0.Orders.length rfl (.slot 89) 91 [1, 89, 90] (fun (_ : Unit) => []) (fun (_ : Unit) => []) () (S_r14_orders_b4 a0) (fun (_ : Unit) => 
.ret [] true) id) id) id
def F_r14_orders (a0 : TApiBook) : Option R_r14_orders := (S_r14_orders a0).den
set_option maxRecDepth 100000 in
theorem F_r14_orders_ok {a0 : TApiBook} (r : R_r14_orders) (h : F_r14_orders a0 = some r) : CallOk Tryz.prog 88 [(AV.d (TApiBook.e a0))] [] (V_r14_orders r) (L_r14_orders r) := fOk (s := S_r14_orders a0) Tryz.func88 rfl (by kernel_rfl) h
/-! 42 -/
abbrev R_r14_Valid := Bool
def V_r14_Valid (x : R_r14_Valid) : AV := (vb x)
def L_r14_Valid (_ : R_r14_Valid) : List Ob := []
def S_r14_Valid (a0 : TApiBook) : Scr Tryz.prog R_r14_Valid R_r14_Valid :=
.ite (bif (bif (bif (decide ((a0.Reservations.length : Int) > 200)) then true else (decide ((a0.Commitments.length : Int) > 200))) then true else (decide ((a0.Verifications.length : Int) > 200))) then true else (decide ((a0.Orders.length : Int) > 200))) (
.ret [] false) (
.call (@F_r14_reservations_ok a0) fun rv1 cv1 =>
.calld [rv1 = true] default (@F_r14_commitments_ok a0) fun rv2 cv2 =>
.calld [(bif rv1 then rv2 else false) = true] default (@F_r14_orders_ok a0) fun rv3 cv3 =>
.reg 3 [] [(1, hc cv1 [] true), (4, hc cv2 [] true), (8, hc cv3 [] true)] [.cl 4 cv1 [] 1 true, .clg 2 [rv1 = true] cv2 [] 1 true, .clg 0 [(bif rv1 then rv2 else false) = true] cv3 [] 1 true] <|
.ret [] (bif (bif rv1 then rv2 else false) then rv3 else false))
def F_r14_Valid (a0 : TApiBook) : Option R_r14_Valid := (S_r14_Valid a0).den
set_option maxRecDepth 100000 in
theorem F_r14_Valid_ok {a0 : TApiBook} (r : R_r14_Valid) (h : F_r14_Valid a0 = some r) : CallOk Tryz.prog 42 [(AV.d (TApiBook.e a0))] [] (V_r14_Valid r) (L_r14_Valid r) := fOk (s := S_r14_Valid a0) Tryz.func42 rfl (by kernel_rfl) h
/-! 90 -/
abbrev R_r13_total := Bool
def V_r13_total (x : R_r13_total) : AV := (vb x)
def L_r13_total (_ : R_r13_total) : List Ob := []
def S_r13_total (a0 : Int) : Scr Tryz.prog R_r13_total R_r13_total :=
.ret [] (bif (decide (a0 ≥ 0)) then (decide (a0 ≤ 1000000000000000)) else false)
def F_r13_total (a0 : Int) : Option R_r13_total := (S_r13_total a0).den
set_option maxRecDepth 100000 in
theorem F_r13_total_ok {a0 : Int} (r : R_r13_total) (h : F_r13_total a0 = some r) : CallOk Tryz.prog 90 [(vi a0)] [] (V_r13_total r) (L_r13_total r) := fOk (s := S_r13_total a0) Tryz.func90 rfl (by kernel_rfl) h
/-! 43 -/
abbrev R_r13_Right := Bool
def V_r13_Right (x : R_r13_Right) : AV := (vb x)
def L_r13_Right (_ : R_r13_Right) : List Ob := []
def S_r13_Right (a0 : TApiRight) : Scr Tryz.prog R_r13_Right R_r13_Right :=
.call (@F_r03_Good_ok a0.Code) fun rv1 cv1 =>
.calld [(bif (bif rv1 then (decide (a0.Year ≥ 0)) else false) then (decide (a0.Year ≤ 99)) else false) = true] default (@F_r13_total_ok a0.Granted) fun rv2 cv2 =>
.calld [(bif (bif (bif rv1 then (decide (a0.Year ≥ 0)) else false) then (decide (a0.Year ≤ 99)) else false) then rv2 else false) = true] default (@F_r13_total_ok a0.Asked) fun rv3 cv3 =>
.reg 1 [] [(2, hc cv1 [] true), (16, hc cv2 [] true), (21, hc cv3 [] true)] [.cl 4 cv1 [] 1 true, .clg 2 [(bif (bif rv1 then (decide (a0.Year ≥ 0)) else false) then (decide (a0.Year ≤ 99)) else false) = true] cv2 [] 1 true, .clg 0 [(bif (bif (bif rv1 then (decide (a0.Year ≥ 0)) else false) then (decide (a0.Year ≤ 99)) else false) then rv2 else false) = true] cv3 [] 1 true] <|
.ret [] (bif (bif (bif (bif (bif (bif rv1 then (decide (a0.Year ≥ 0)) else false) then (decide (a0.Year ≤ 99)) else false) then rv2 else false) then rv3 else false) then (decide (a0.Returned ≥ 0)) else false) then (decide (a0.Returned ≤ a0.Granted)) else false)
def F_r13_Right (a0 : TApiRight) : Option R_r13_Right := (S_r13_Right a0).den
set_option maxRecDepth 100000 in
theorem F_r13_Right_ok {a0 : TApiRight} (r : R_r13_Right) (h : F_r13_Right a0 = some r) : CallOk Tryz.prog 43 [(AV.d (TApiRight.e a0))] [] (V_r13_Right r) (L_r13_Right r) := fOk (s := S_r13_Right a0) Tryz.func43 rfl (by kernel_rfl) h
/-! 45 -/
abbrev R_r15_at := Int
def V_r15_at (x : R_r15_at) : AV := (vi x)
def L_r15_at (_ : R_r15_at) : List Ob := []
def S_r15_at_b1 (a0 : TApiOffice) (a1 : List UInt8) (a2 : Int) (iv1 : Nat) (_ : Unit) : Scr Tryz.prog R_r15_at (Step (Unit) R_r15_at) :=
.reg 3 [] [] [.pf (nn iv1), .ev 0] <|
.ite (bif (((a0.Rights.getD iv1 default).Code) == a1) then (((a0.Rights.getD iv1 default).Year) == a2) else false) (
.ret [] (.ret (iv1 : Int))) (
.ret [] (.cont ()))
def S_r15_at (a0 : TApiOffice) (a1 : List UInt8) (a2 : Int) : Scr Tryz.prog R_r15_at R_r15_at :=
.range (a0.Rights.length : Int) a0.Rights.length rfl (.slot 10) 12 [1, 2, 10, 11] (fun (_ : Unit) => []) (fun (_ : Unit) => []) () (S_r15_at_b1 a0 a1 a2) (fun (_ : Unit) => 
.ret [] (-1)) id
def F_r15_at (a0 : TApiOffice) (a1 : List UInt8) (a2 : Int) : Option R_r15_at := (S_r15_at a0 a1 a2).den
set_option maxRecDepth 100000 in
theorem F_r15_at_ok {a0 : TApiOffice} {a1 : List UInt8} {a2 : Int} (r : R_r15_at) (h : F_r15_at a0 a1 a2 = some r) : CallOk Tryz.prog 45 [(AV.d (TApiOffice.e a0)), (AV.d (DV.str a1)), (vi a2)] [] (V_r15_at r) (L_r15_at r) := fOk (s := S_r15_at a0 a1 a2) Tryz.func45 rfl (by kernel_rfl) h
/-! 32 -/
abbrev R_r15_Right := TApiRight
def V_r15_Right (x : R_r15_Right) : AV := (AV.d (TApiRight.e x))
def L_r15_Right (_ : R_r15_Right) : List Ob := []
def S_r15_Right (a0 : TApiOffice) (a1 : List UInt8) (a2 : Int) : Scr Tryz.prog R_r15_Right R_r15_Right :=
.call (@F_r15_at_ok a0 a1 a2) fun rv1 cv1 =>
.reg 1 [] [(3, hc cv1 [] true)] [.cl 0 cv1 [] 2 true] <|
.ite (decide (rv1 ≥ 0)) (
.guard [(0 : Int) ≤ rv1, (rv1).toNat < a0.Rights.length] <|
.reg 3 [] [] [.ev 0, .ev 1] <|
.ret [] (a0.Rights.getD ((rv1).toNat) default)) (
.ret [] (⟨a1, a2, 0, 0, 0⟩ : TApiRight))
def F_r15_Right (a0 : TApiOffice) (a1 : List UInt8) (a2 : Int) : Option R_r15_Right := (S_r15_Right a0 a1 a2).den
set_option maxRecDepth 100000 in
theorem F_r15_Right_ok {a0 : TApiOffice} {a1 : List UInt8} {a2 : Int} (r : R_r15_Right) (h : F_r15_Right a0 a1 a2 = some r) : CallOk Tryz.prog 32 [(AV.d (TApiOffice.e a0)), (AV.d (DV.str a1)), (vi a2)] [] (V_r15_Right r) (L_r15_Right r) := fOk (s := S_r15_Right a0 a1 a2) Tryz.func32 rfl (by kernel_rfl) h
/-! 15 -/
abbrev R_r14_Used := Int
def V_r14_Used (x : R_r14_Used) : AV := (vi x)
def L_r14_Used (_ : R_r14_Used) : List Ob := []
def S_r14_Used_b1 (a0 : TApiBook) (iv1 : Nat) (iv2 : Nat) (sv3 : Int) : Scr Tryz.prog R_r14_Used (Step (Int) R_r14_Used) :=
.reg 9 [] [] [.pf (nn iv2), .ev 0] <|
.ite (((a0.Commitments.getD iv2 default).Reservation) == ((a0.Reservations.getD iv1 default).Number)) (
.ret [] (.cont (IntKind.i64.wrap (sv3 - ((a0.Commitments.getD iv2 default).Released))))) (
.ret [] (.cont sv3))
def S_r14_Used_b2 (a0 : TApiBook) (a1 : List UInt8) (a2 : Int) (iv1 : Nat) (sv4 : Int) : Scr Tryz.prog R_r14_Used (Step (Int) R_r14_Used) :=
.reg 4 [] [] [.pf (nn iv1), .ev 0] <|
.ite (bif (!(((a0.Reservations.getD iv1 default).Code) == a1)) then true else (((a0.Reservations.getD iv1 default).Year) != a2)) (
.ret [] (.cont sv4)) (
.range (a0.Commitments.length : Int) a0.Commitments.length rfl (.slot 37) 39 [1, 2, 3, 9, 13, 14, 15, 37, 38] (fun (sv3 : Int) => [(7, (vi sv3))]) (fun (_ : Int) => []) (IntKind.i64.wrap (sv4 + (IntKind.i64.wrap (((a0.Reservations.getD iv1 default).Amount) - ((a0.Reservations.getD iv1 default).Released))))) (S_r14_Used_b1 a0 iv1) (fun (sv3 : Int) => 
.ret [] (.cont sv3)) .ret)
def S_r14_Used (a0 : TApiBook) (a1 : List UInt8) (a2 : Int) : Scr Tryz.prog R_r14_Used R_r14_Used :=
.range (a0.Reservations.length : Int) a0.Reservations.length rfl (.slot 13) 15 [1, 2, 3, 13, 14] (fun (sv4 : Int) => [(7, (vi sv4))]) (fun (_ : Int) => []) 0 (S_r14_Used_b2 a0 a1 a2) (fun (sv4 : Int) => 
.ret [] sv4) id
def F_r14_Used (a0 : TApiBook) (a1 : List UInt8) (a2 : Int) : Option R_r14_Used := (S_r14_Used a0 a1 a2).den
set_option maxRecDepth 100000 in
theorem F_r14_Used_ok {a0 : TApiBook} {a1 : List UInt8} {a2 : Int} (r : R_r14_Used) (h : F_r14_Used a0 a1 a2 = some r) : CallOk Tryz.prog 15 [(AV.d (TApiBook.e a0)), (AV.d (DV.str a1)), (vi a2)] [] (V_r14_Used r) (L_r14_Used r) := fOk (s := S_r14_Used a0 a1 a2) Tryz.func15 rfl (by kernel_rfl) h
/-! 33 -/
abbrev R_r15_Unused := Int
def V_r15_Unused (x : R_r15_Unused) : AV := (vi x)
def L_r15_Unused (_ : R_r15_Unused) : List Ob := []
def S_r15_Unused (a0 : TApiOffice) (a1 : List UInt8) (a2 : Int) : Scr Tryz.prog R_r15_Unused R_r15_Unused :=
.call (@F_r15_Right_ok a0 a1 a2) fun rv1 cv1 =>
.reg 1 [] [(3, hc cv1 [] true)] [.cl 0 cv1 [] 1 true] <|
.call (@F_r14_Used_ok a0.Book a1 a2) fun rv2 cv2 =>
.reg 2 [] [(9, hc cv2 [] true)] [.cl 0 cv2 [] 2 true] <|
.ret [] (IntKind.i64.wrap ((IntKind.i64.wrap (rv1.Granted - rv1.Returned)) - rv2))
def F_r15_Unused (a0 : TApiOffice) (a1 : List UInt8) (a2 : Int) : Option R_r15_Unused := (S_r15_Unused a0 a1 a2).den
set_option maxRecDepth 100000 in
theorem F_r15_Unused_ok {a0 : TApiOffice} {a1 : List UInt8} {a2 : Int} (r : R_r15_Unused) (h : F_r15_Unused a0 a1 a2 = some r) : CallOk Tryz.prog 33 [(AV.d (TApiOffice.e a0)), (AV.d (DV.str a1)), (vi a2)] [] (V_r15_Unused r) (L_r15_Unused r) := fOk (s := S_r15_Unused a0 a1 a2) Tryz.func33 rfl (by kernel_rfl) h
/-! 91 -/
theorem cz9 : LeV (AV.full 0 fun _ => DV.b false) (vl ([])) := lvN (DV.i .i64)
abbrev R_r03_Parts := (List Int)
def V_r03_Parts (x : R_r03_Parts) : AV := (vl x)
def L_r03_Parts (_ : R_r03_Parts) : List Ob := []
def S_r03_Parts_b1 (a0 : List UInt8) (sv1 : (List Int) × Int × Int × Int) : Scr Tryz.prog R_r03_Parts (Step ((List Int) × Int × Int × Int) R_r03_Parts) :=
.ite (decide (sv1.2.2.2 ≤ (a0.length : Int))) (
.guard [AllP [(sv1.2.2.2 == (a0.length : Int)) = false] → ((0 : Int) ≤ sv1.2.2.2), AllP [(sv1.2.2.2 == (a0.length : Int)) = false] → ((sv1.2.2.2).toNat < a0.length)] <|
.reg 8 [] [] [.ev 0, .ev 1] <|
.ite (bif (sv1.2.2.2 == (a0.length : Int)) then true else (((a0.getD ((sv1.2.2.2).toNat) 0).toNat : Int) == 46)) (
.guard [AllP [(bif (sv1.2.2.1 == 0) then true else (decide (sv1.2.2.1 > 2))) = false] → ((0 : Int) ≤ (IntKind.i64.wrap (sv1.2.2.2 - sv1.2.2.1))), AllP [(bif (sv1.2.2.1 == 0) then true else (decide (sv1.2.2.1 > 2))) = false] → (((IntKind.i64.wrap (sv1.2.2.2 - sv1.2.2.1))).toNat < a0.length)] <|
.reg 9 [] [] [.ev 0, .ev 1] <|
.ite (bif (bif (sv1.2.2.1 == 0) then true else (decide (sv1.2.2.1 > 2))) then true else (((a0.getD (((IntKind.i64.wrap (sv1.2.2.2 - sv1.2.2.1))).toNat) 0).toNat : Int) == 48)) (
.ret [.pf cz9] (.ret ([]))) (
.guard [(sv1.1.length + 1) * (2 * 8) ≤ 2 ^ 48] <|
.reg 11 [] [(2, hv (vl ([sv1.2.1] : List Int))), (3, { h := .obj, cast := some (AV.ref 0 ((sv1.1 ++ ([sv1.2.1] : List Int)).length) 0 ((sv1.1 ++ ([sv1.2.1] : List Int)).length)), obs := [(0, (eS 1 (DV.i .i64) (sv1.1 ++ ([sv1.2.1] : List Int))))] })] [.pf (leV_lit (DV.i .i64) ([sv1.2.1] : List Int)), .pf (Eq.refl sv1.1.length), .pf (Eq.refl sv1.1.length), .pf (p := ∀ k, k < 1 → (AV.d ((DV.i .i64) (([sv1.2.1] : List Int).getD k default))).wd = 1) (fun _ _ => rfl), .ev 0, .pf (leV_app (o := 0) (l := sv1.1) (x := ([sv1.2.1] : List Int))), .pf (oLe_app (sz := 1) (e := (DV.i .i64)) (l := sv1.1) (x := ([sv1.2.1] : List Int)))] <|
.ret [] (.cont ((sv1.1 ++ ([sv1.2.1] : List Int)), 0, 0, (IntKind.i64.wrap (sv1.2.2.2 + 1)))))) (
.guard [(0 : Int) ≤ sv1.2.2.2, (sv1.2.2.2).toNat < a0.length, AllP [(decide (((a0.getD ((sv1.2.2.2).toNat) 0).toNat : Int) < 48)) = false] → ((0 : Int) ≤ sv1.2.2.2), AllP [(decide (((a0.getD ((sv1.2.2.2).toNat) 0).toNat : Int) < 48)) = false] → ((sv1.2.2.2).toNat < a0.length)] <|
.reg 13 [] [] [.ev 0, .ev 1, .ev 2, .ev 3] <|
.ite (bif (decide (((a0.getD ((sv1.2.2.2).toNat) 0).toNat : Int) < 48)) then true else (decide (((a0.getD ((sv1.2.2.2).toNat) 0).toNat : Int) > 57))) (
.ret [.pf cz9] (.ret ([]))) (
.reg 15 [] [] [.ev 1, .ev 2] <|
.ret [] (.cont (sv1.1, (IntKind.i64.wrap ((IntKind.i64.wrap (10 * sv1.2.1)) + (IntKind.i64.wrap (IntKind.u8.wrap (((a0.getD ((sv1.2.2.2).toNat) 0).toNat : Int) - 48))))), (IntKind.i64.wrap (sv1.2.2.1 + 1)), (IntKind.i64.wrap (sv1.2.2.2 + 1))))))) (
.ret [] (.brk (sv1.1, sv1.2.1, sv1.2.2.1, sv1.2.2.2)))
def S_r03_Parts (a0 : List UInt8) : Scr Tryz.prog R_r03_Parts R_r03_Parts :=
.ite (decide ((a0.length : Int) > 12)) (
.ret [.pf cz9] ([])) (
.reg 5 [] [] [] <|
.bor 1 (fun j => AV.d ((DV.i .i64) (([] : List Int).getD j default))) [3] <|
.iter [0] (fun (sv1 : (List Int) × Int × Int × Int) => [(3, (AV.ref 0 sv1.1.length 0 sv1.1.length)), (4, (vi sv1.2.1)), (5, (vi sv1.2.2.1)), (6, (vi sv1.2.2.2))]) (fun (sv1 : (List Int) × Int × Int × Int) => [(0, (eS 1 (DV.i .i64) sv1.1))]) (([] : List Int), 0, 0, 0) (S_r03_Parts_b1 a0) (fun (sv1 : (List Int) × Int × Int × Int) =>
.ite (decide ((sv1.1.length : Int) > 4)) (
.ret [.pf cz9] ([])) (
.guard [sv1.1.length < 2 ^ 63] <|
.reg 18 [] [] [] <|
.frz 0 (.ev 0) none [2] [] <|
.ret [] sv1.1)) id)
def F_r03_Parts (a0 : List UInt8) : Option R_r03_Parts := (S_r03_Parts a0).den
set_option maxRecDepth 100000 in
theorem F_r03_Parts_ok {a0 : List UInt8} (r : R_r03_Parts) (h : F_r03_Parts a0 = some r) : CallOk Tryz.prog 91 [(AV.d (DV.str a0))] [] (V_r03_Parts r) (L_r03_Parts r) := fOk (s := S_r03_Parts a0) Tryz.func91 rfl (by kernel_rfl) h
/-! 44 -/
abbrev R_r03_Compare := Int
def V_r03_Compare (x : R_r03_Compare) : AV := (vi x)
def L_r03_Compare (_ : R_r03_Compare) : List Ob := []
def S_r03_Compare_b1 (rv1 : R_r03_Parts) (rv2 : R_r03_Parts) (sv3 : Int) : Scr Tryz.prog R_r03_Compare (Step (Int) R_r03_Compare) :=
.ite (bif (decide (sv3 < (rv1.length : Int))) then (decide (sv3 < (rv2.length : Int))) else false) (
.guard [(0 : Int) ≤ sv3, (sv3).toNat < rv1.length, (sv3).toNat < rv2.length] <|
.reg 15 [] [] [.ev 0, .ev 1, .ev 0, .ev 2] <|
.ite (decide ((rv1.getD ((sv3).toNat) default) < (rv2.getD ((sv3).toNat) default))) (
.ret [] (.ret (-1))) (
.reg 17 [] [] [.ev 1, .ev 2, .ev 1, .ev 3] <|
.ite (decide ((rv1.getD ((sv3).toNat) default) > (rv2.getD ((sv3).toNat) default))) (
.ret [] (.ret 1)) (
.ret [] (.cont (IntKind.i64.wrap (sv3 + 1)))))) (
.ret [] (.brk sv3))
def S_r03_Compare (a0 : List UInt8) (a1 : List UInt8) : Scr Tryz.prog R_r03_Compare R_r03_Compare :=
.call (@F_r03_Parts_ok a0) fun rv1 cv1 =>
.call (@F_r03_Parts_ok a1) fun rv2 cv2 =>
.reg 1 [] [(1, hc cv1 [] true), (3, hc cv2 [] true)] [.cl 1 cv1 [] 0 true, .cl 0 cv2 [] 0 true] <|
.ite (bif ((rv1.length : Int) == 0) then true else ((rv2.length : Int) == 0)) (
.ite (decide ((rv1.length : Int) > 0)) (
.ret [] 1) (
.ite (decide ((rv2.length : Int) > 0)) (
.ret [] (-1)) (
.ite (Op.bytesLess a0 a1) (
.ret [] (-1)) (
.ite (!(Op.bytesLess a0 a1 || a0 == a1)) (
.ret [] 1) (
.ret [] 0))))) (
.iter [5, 6] (fun (sv3 : Int) => [(7, (vi sv3))]) (fun (_ : Int) => []) 0 (S_r03_Compare_b1 rv1 rv2) (fun (_ : Int) =>
.ite (decide ((rv1.length : Int) < (rv2.length : Int))) (
.ret [] (-1)) (
.ite (decide ((rv1.length : Int) > (rv2.length : Int))) (
.ret [] 1) (
.ret [] 0))) id)
def F_r03_Compare (a0 : List UInt8) (a1 : List UInt8) : Option R_r03_Compare := (S_r03_Compare a0 a1).den
set_option maxRecDepth 100000 in
theorem F_r03_Compare_ok {a0 : List UInt8} {a1 : List UInt8} (r : R_r03_Compare) (h : F_r03_Compare a0 a1 = some r) : CallOk Tryz.prog 44 [(AV.d (DV.str a0)), (AV.d (DV.str a1))] [] (V_r03_Compare r) (L_r03_Compare r) := fOk (s := S_r03_Compare a0 a1) Tryz.func44 rfl (by kernel_rfl) h
/-! 14 -/
abbrev R_r15_Valid := Bool
def V_r15_Valid (x : R_r15_Valid) : AV := (vb x)
def L_r15_Valid (_ : R_r15_Valid) : List Ob := []
def S_r15_Valid_b1 (a0 : TApiOffice) (iv1 : Nat) (_ : Unit) : Scr Tryz.prog R_r15_Valid (Step (Unit) R_r15_Valid) :=
.reg 5 [] [] [.pf (nn iv1), .ev 0] <|
.call (@F_r13_Right_ok (a0.Rights.getD iv1 default)) fun rv2 cv2 =>
.calld [(!rv2) = false] default (@F_r15_Unused_ok a0 ((a0.Rights.getD iv1 default).Code) ((a0.Rights.getD iv1 default).Year)) fun rv3 cv3 =>
.reg 6 [] [(1, hc cv2 [] true), (9, hc cv3 [] true)] [.cl 2 cv2 [] 2 true, .clg 0 [(!rv2) = false] cv3 [] 2 true] <|
.ite (bif (!rv2) then true else (decide (rv3 < 0))) (
.ret [] (.ret false)) (
.ite (decide ((iv1 : Int) > 0)) (
.call (@F_r03_Compare_ok ((a0.Rights.getD (((IntKind.i64.wrap ((iv1 : Int) - 1))).toNat) default).Code) ((a0.Rights.getD iv1 default).Code)) fun rv4 cv4 =>
.guard [(0 : Int) ≤ (IntKind.i64.wrap ((iv1 : Int) - 1)), ((IntKind.i64.wrap ((iv1 : Int) - 1))).toNat < a0.Rights.length] <|
.reg 9 [] [(9, hc cv4 [] true)] [.ev 0, .ev 1, .cl 2 cv4 [] 2 true] <|
.guard [AllP [(rv4 == 0) = true, (decide (rv4 > 0)) = false] → ((0 : Int) ≤ (IntKind.i64.wrap ((iv1 : Int) - 1))), AllP [(rv4 == 0) = true, (decide (rv4 > 0)) = false] → (((IntKind.i64.wrap ((iv1 : Int) - 1))).toNat < a0.Rights.length)] <|
.reg 10 [] [] [.ev 0, .ev 1] <|
.ite (bif (decide (rv4 > 0)) then true else (bif (rv4 == 0) then (decide (((a0.Rights.getD (((IntKind.i64.wrap ((iv1 : Int) - 1))).toNat) default).Year) ≥ ((a0.Rights.getD iv1 default).Year))) else false)) (
.ret [] (.ret false)) (
.ret [] (.cont ()))) (
.ret [] (.cont ())))
def S_r15_Valid_b2 (a0 : TApiOffice) (iv5 : Nat) (_ : Unit) : Scr Tryz.prog R_r15_Valid (Step (Unit) R_r15_Valid) :=
.reg 15 [] [] [.pf (nn iv5), .ev 0] <|
.call (@F_r15_at_ok a0 ((a0.Book.Reservations.getD iv5 default).Code) ((a0.Book.Reservations.getD iv5 default).Year)) fun rv6 cv6 =>
.reg 16 [] [(5, hc cv6 [] true)] [.cl 0 cv6 [] 2 true] <|
.ite (decide (rv6 < 0)) (
.ret [] (.ret false)) (
.ret [] (.cont ()))
def S_r15_Valid (a0 : TApiOffice) : Scr Tryz.prog R_r15_Valid R_r15_Valid :=
.calld [(bif (bif (decide (a0.Number < 1)) then true else (decide (a0.Number > 6))) then true else (decide ((a0.Rights.length : Int) > 60))) = false] default (@F_r14_Valid_ok a0.Book) fun rv7 cv7 =>
.reg 1 [] [(17, hc cv7 [] true)] [.clg 0 [(bif (bif (decide (a0.Number < 1)) then true else (decide (a0.Number > 6))) then true else (decide ((a0.Rights.length : Int) > 60))) = false] cv7 [] 1 true] <|
.ite (bif (bif (bif (decide (a0.Number < 1)) then true else (decide (a0.Number > 6))) then true else (decide ((a0.Rights.length : Int) > 60))) then true else (!rv7)) (
.ret [] false) (
.range (a0.Rights.length : Int) a0.Rights.length rfl (.slot 29) 31 [1, 29, 30] (fun (_ : Unit) => []) (fun (_ : Unit) => []) () (S_r15_Valid_b1 a0) (fun (_ : Unit) => 
.range (a0.Book.Reservations.length : Int) a0.Book.Reservations.length rfl (.slot 81) 83 [1, 81, 82] (fun (_ : Unit) => []) (fun (_ : Unit) => []) () (S_r15_Valid_b2 a0) (fun (_ : Unit) => 
.ret [] true) id) id)
def F_r15_Valid (a0 : TApiOffice) : Option R_r15_Valid := (S_r15_Valid a0).den
set_option maxRecDepth 100000 in
theorem F_r15_Valid_ok {a0 : TApiOffice} (r : R_r15_Valid) (h : F_r15_Valid a0 = some r) : CallOk Tryz.prog 14 [(AV.d (TApiOffice.e a0))] [] (V_r15_Valid r) (L_r15_Valid r) := fOk (s := S_r15_Valid a0) Tryz.func14 rfl (by kernel_rfl) h
/-! 30 -/
abbrev R_office_Report := TApiMessage × Int
def V_office_Report (x : R_office_Report) : AV := (AV.tup [(AV.d (TApiMessage.e x.1)), (vi x.2)])
def L_office_Report (_ : R_office_Report) : List Ob := []
def S_office_Report (a0 : TApiOffice) (a1 : List UInt8) (a2 : Int) : Scr Tryz.prog R_office_Report R_office_Report :=
.call (@F_office_Valid_ok a0) fun rv1 cv1 =>
.reg 1 [] [(1, hc cv1 [] true)] [.cl 0 cv1 [] 2 true] <|
.ite (!rv1) (
.ret [] ((⟨0, 0, [], 0, 0, 0, 0, 0⟩ : TApiMessage), 1)) (
.call (@F_office_has_ok a0 a1 a2) fun rv2 cv2 =>
.reg 3 [] [(3, hc cv2 [] true)] [.cl 0 cv2 [] 2 true] <|
.ite (!rv2) (
.ret [] ((⟨0, 0, [], 0, 0, 0, 0, 0⟩ : TApiMessage), 6)) (
.call (@F_office_Right_ok a0 a1 a2) fun rv3 cv3 =>
.call (@F_commitment_Used_ok a0.Book a1 a2) fun rv4 cv4 =>
.reg 5 [15] [(7, hc cv3 [] true), (13, hc cv4 [] true)] [.cl 1 cv3 [] 2 true, .cl 0 cv4 [] 2 true] <|
.ret [] ((⟨a0.Number, 0, a1, a2, 0, 0, rv3.Returned, rv4⟩ : TApiMessage), 0)))
def F_office_Report (a0 : TApiOffice) (a1 : List UInt8) (a2 : Int) : Option R_office_Report := (S_office_Report a0 a1 a2).den
set_option maxRecDepth 100000 in
theorem F_office_Report_ok {a0 : TApiOffice} {a1 : List UInt8} {a2 : Int} (r : R_office_Report) (h : F_office_Report a0 a1 a2 = some r) : CallOk Tryz.prog 30 [(AV.d (TApiOffice.e a0)), (AV.d (DV.str a1)), (vi a2)] [] (V_office_Report r) (L_office_Report r) := fOk (s := S_office_Report a0 a1 a2) Tryz.func30 rfl (by kernel_rfl) h
/-! 17 -/
abbrev R_w15_awake := Bool
def V_w15_awake (x : R_w15_awake) : AV := (vb x)
def L_w15_awake (_ : R_w15_awake) : List Ob := []
def S_w15_awake : Scr Tryz.prog R_w15_awake R_w15_awake :=
.call (@F_office_New_ok 2) fun rv1 cv1 =>
.reg 1 [] [(0, hc cv1 [] true), (4, { obs := [(0, (bx (TApiOffice.e (⟨0, [], (⟨[], [], [], []⟩ : TApiBook)⟩ : TApiOffice))))] })] [.cl 0 cv1 [] 0 true, .pf cz1] <|
.call (@F_office_Do_ok rv1.1 (⟨8, [49], 12, 0, 0, 0, 0, 0, 100, 0⟩ : TApiOp)) fun rv2 cv2 =>
.reg 2 [] [(2, hc cv2 [] true)] [.cl 0 cv2 [] 1 true] <|
.call (@F_office_Do_ok rv2.1 (⟨1, [49], 12, 4330, 0, 60, 0, 0, 0, 0⟩ : TApiOp)) fun rv3 cv3 =>
.reg 3 [] [(2, hc cv3 [] true)] [.cl 0 cv3 [] 1 true] <|
.call (@F_office_Do_ok rv3.1 (⟨7, [49], 12, 0, 0, 40, 0, 0, 0, 0⟩ : TApiOp)) fun rv4 cv4 =>
.reg 4 [] [(2, hc cv4 [] true)] [.cl 0 cv4 [] 1 true] <|
.call (@F_office_Do_ok rv4.1 (⟨1, [49], 12, 4330, 0, 1, 0, 0, 0, 0⟩ : TApiOp)) fun rv5 cv5 =>
.reg 5 [] [(2, hc cv5 [] true), (6, { obs := [(1, (bx (TApiOffice.e (⟨0, [], (⟨[], [], [], []⟩ : TApiBook)⟩ : TApiOffice))))] })] [.cl 0 cv5 [] 1 true, .pf cz1] <|
.call (@F_office_Report_ok rv4.1 ([49]) 12) fun rv6 cv6 =>
.reg 6 [] [(1, hc cv6 [] true)] [.cl 0 cv6 [] 2 true] <|
.ret [] (bif (bif (bif (bif (bif (bif (rv1.2 == 0) then (rv2.2 == 0) else false) then (rv3.2 == 0) else false) then (rv4.2 == 0) else false) then (rv5.2 == 15) else false) then (rv6.2 == 0) else false) then ((rv6.1.From == 2) && ((rv6.1.To == 0) && ((rv6.1.Code == ([49])) && ((rv6.1.Year == 12) && ((rv6.1.Granted == 0) && ((rv6.1.Asked == 0) && ((rv6.1.Returned == 40) && ((rv6.1.Used == 60) && true)))))))) else false)
def F_w15_awake : Option R_w15_awake := (S_w15_awake).den
set_option maxRecDepth 100000 in
theorem F_w15_awake_ok (r : R_w15_awake) (h : F_w15_awake = some r) : CallOk Tryz.prog 17 [] [] (V_w15_awake r) (L_w15_awake r) := fOk (s := S_w15_awake) Tryz.func17 rfl (by kernel_rfl) h
/-! 3 -/
/-! 35 -/
abbrev R_r15_New := TApiOffice × Int
def V_r15_New (x : R_r15_New) : AV := (AV.tup [(AV.d (TApiOffice.e x.1)), (vi x.2)])
def L_r15_New (_ : R_r15_New) : List Ob := []
def S_r15_New (a0 : Int) : Scr Tryz.prog R_r15_New R_r15_New :=
.reg 0 [] [(0, { obs := [(0, (bx (TApiOffice.e (⟨0, [], (⟨[], [], [], []⟩ : TApiBook)⟩ : TApiOffice))))] })] [.pf cz1] <|
.ite (bif (decide (a0 < 1)) then true else (decide (a0 > 6))) (
.reg 2 [] [(0, hv (AV.d (TApiOffice.e (⟨0, [], (⟨[], [], [], []⟩ : TApiBook)⟩ : TApiOffice))))] [.pf cz2] <|
.ret [] ((⟨0, [], (⟨[], [], [], []⟩ : TApiBook)⟩ : TApiOffice), 2)) (
.reg 3 [] [(1, hv (AV.d (TApiOffice.e (⟨a0, [], (⟨[], [], [], []⟩ : TApiBook)⟩ : TApiOffice))))] [.pf (p := LeV (AV.d (DV.agg [(DV.i .i64 a0), Z0, (DV.agg [Z0, Z0, Z0, Z0])])) (AV.d (TApiOffice.e (⟨a0, [], (⟨[], [], [], []⟩ : TApiBook)⟩ : TApiOffice)))) (leV_dle rfl (DLe.agg (DLeL.cons (DLe.refl _) (DLeL.cons DLe.sl0 (DLeL.cons (DLe.agg (DLeL.cons DLe.sl0 (DLeL.cons DLe.sl0 (DLeL.cons DLe.sl0 (DLeL.cons DLe.sl0 DLeL.nil))))) DLeL.nil)))))] <|
.ret [] ((⟨a0, [], (⟨[], [], [], []⟩ : TApiBook)⟩ : TApiOffice), 0))
def F_r15_New (a0 : Int) : Option R_r15_New := (S_r15_New a0).den
set_option maxRecDepth 100000 in
theorem F_r15_New_ok {a0 : Int} (r : R_r15_New) (h : F_r15_New a0 = some r) : CallOk Tryz.prog 35 [(vi a0)] [] (V_r15_New r) (L_r15_New r) := fOk (s := S_r15_New a0) Tryz.func35 rfl (by kernel_rfl) h
/-! 99 -/
abbrev R_r14_copied_rw := (List TApiReservation) × (List TApiCommitment) × (List TApiVerification) × (List TApiOrder)
def V_r14_copied_rw (x : R_r14_copied_rw) : AV := (AV.agg [(AV.ref 2 x.1.length 0 x.1.length), (AV.ref 3 x.2.1.length 0 x.2.1.length), (AV.ref 4 x.2.2.1.length 0 x.2.2.1.length), (AV.ref 5 x.2.2.2.length 0 x.2.2.2.length)])
def L_r14_copied_rw (x : R_r14_copied_rw) : List Ob := [Ob.dead, (Ob.box (AV.agg [(AV.ref 2 x.1.length 0 x.1.length), (AV.ref 3 x.2.1.length 0 x.2.1.length), (AV.ref 4 x.2.2.1.length 0 x.2.2.1.length), (AV.ref 5 x.2.2.2.length 0 x.2.2.2.length)])), (eS 6 TApiReservation.e x.1), (eS 7 TApiCommitment.e x.2.1), (eS 4 TApiVerification.e x.2.2.1), (eS 5 TApiOrder.e x.2.2.2)]
def S_r14_copied_rw (a0 : TApiBook) : Scr Tryz.prog R_r14_copied_rw R_r14_copied_rw :=
.reg 0 [] [(1, { obs := [(1, (bx (TApiBook.e (⟨[], [], [], []⟩ : TApiBook))))] })] [.pf cz3] <|
.guard [a0.Reservations.length * (2 * 56) ≤ 2 ^ 48, a0.Commitments.length * (2 * 56) ≤ 2 ^ 48, a0.Verifications.length * (2 * 32) ≤ 2 ^ 48, a0.Orders.length * (2 * 40) ≤ 2 ^ 48] <|
.reg 1 [3, 7, 11, 15, 17] [(3, { h := .obj }), (7, { h := .obj }), (11, { h := .obj }), (15, { h := .obj })] [.pf (p := ∀ k, k < a0.Reservations.length → (AV.d (TApiReservation.e (a0.Reservations.getD k default))).wd = 6) (fun _ _ => rfl), .ev 0, .pf (p := ∀ k, k < a0.Commitments.length → (AV.d (TApiCommitment.e (a0.Commitments.getD k default))).wd = 7) (fun _ _ => rfl), .ev 1, .pf (p := ∀ k, k < a0.Verifications.length → (AV.d (TApiVerification.e (a0.Verifications.getD k default))).wd = 4) (fun _ _ => rfl), .ev 2, .pf (p := ∀ k, k < a0.Orders.length → (AV.d (TApiOrder.e (a0.Orders.getD k default))).wd = 5) (fun _ _ => rfl), .ev 3] <|
.kill 0 <|
.ret [] (a0.Reservations, a0.Commitments, a0.Verifications, a0.Orders)
def F_r14_copied_rw (a0 : TApiBook) : Option R_r14_copied_rw := (S_r14_copied_rw a0).den
set_option maxRecDepth 100000 in
theorem F_r14_copied_rw_ok {a0 : TApiBook} (r : R_r14_copied_rw) (h : F_r14_copied_rw a0 = some r) : CallOk Tryz.prog 99 [(AV.d (TApiBook.e a0))] [] (V_r14_copied_rw r) (L_r14_copied_rw r) := fOk (s := S_r14_copied_rw a0) Tryz.func99 rfl (by kernel_rfl) h
/-! 51 -/
abbrev R_r14_Reserve := TApiBook × Int
def V_r14_Reserve (x : R_r14_Reserve) : AV := (AV.tup [(AV.d (TApiBook.e x.1)), (vi x.2)])
def L_r14_Reserve (_ : R_r14_Reserve) : List Ob := []
def S_r14_Reserve (a0 : TApiBook) (a1 : List UInt8) (a2 : Int) (a3 : Int) (a4 : Int) : Scr Tryz.prog R_r14_Reserve R_r14_Reserve :=
.reg 0 [] [(1, { obs := [(1, (bx (TApiBook.e (⟨[], [], [], []⟩ : TApiBook))))] })] [.pf cz3] <|
.call (@F_r14_Valid_ok a0) fun rv1 cv1 =>
.reg 1 [] [(1, hc cv1 [] true)] [.cl 0 cv1 [] 2 true] <|
.ite (!rv1) (
.reg 2 [] [(0, hv (AV.d (TApiBook.e (⟨[], [], [], []⟩ : TApiBook))))] [.pf cz4] <|
.ret [] ((⟨[], [], [], []⟩ : TApiBook), 1)) (
.call (@F_r03_Good_ok a1) fun rv2 cv2 =>
.reg 3 [] [(1, hc cv2 [] true)] [.cl 0 cv2 [] 2 true] <|
.ite (!rv2) (
.reg 4 [] [(0, hv (AV.d (TApiBook.e (⟨[], [], [], []⟩ : TApiBook))))] [.pf cz4] <|
.ret [] ((⟨[], [], [], []⟩ : TApiBook), 5)) (
.calld [(bif (decide (a2 < 0)) then true else (decide (a2 > 99))) = false] default (@F_r14_day_ok a3) fun rv3 cv3 =>
.calld [(bif (bif (decide (a2 < 0)) then true else (decide (a2 > 99))) then true else (!rv3)) = false] default (@F_r14_amount_ok a4) fun rv4 cv4 =>
.reg 5 [] [(8, hc cv3 [] true), (13, hc cv4 [] true)] [.clg 2 [(bif (decide (a2 < 0)) then true else (decide (a2 > 99))) = false] cv3 [] 2 true, .clg 0 [(bif (bif (decide (a2 < 0)) then true else (decide (a2 > 99))) then true else (!rv3)) = false] cv4 [] 2 true] <|
.ite (bif (bif (bif (decide (a2 < 0)) then true else (decide (a2 > 99))) then true else (!rv3)) then true else (!rv4)) (
.reg 6 [] [(0, hv (AV.d (TApiBook.e (⟨[], [], [], []⟩ : TApiBook))))] [.pf cz4] <|
.ret [] ((⟨[], [], [], []⟩ : TApiBook), 2)) (
.call (@F_r02_Year_ok a3) fun rv5 cv5 =>
.reg 7 [] [(1, hc cv5 [] true)] [.cl 0 cv5 [] 2 true] <|
.ite (rv5 != a2) (
.reg 8 [] [(0, hv (AV.d (TApiBook.e (⟨[], [], [], []⟩ : TApiBook))))] [.pf cz4] <|
.ret [] ((⟨[], [], [], []⟩ : TApiBook), 16)) (
.ite ((a0.Reservations.length : Int) == 200) (
.reg 10 [] [(0, hv (AV.d (TApiBook.e (⟨[], [], [], []⟩ : TApiBook))))] [.pf cz4] <|
.ret [] ((⟨[], [], [], []⟩ : TApiBook), 3)) (
.call (@F_r14_copied_rw_ok a0) fun rv6 cv6 =>
.reg 11 [] [(1, hc cv6 [] false), (2, { h := .obj })] [.cl 0 cv6 [] 2 false] <|
.kill 3 <|
.guard [rv6.2.1.length < 2 ^ 63] <|
.frz 5 (.ev 0) none [] [8] <|
.guard [rv6.2.2.1.length < 2 ^ 63] <|
.frz 6 (.ev 0) none [] [8] <|
.guard [rv6.2.2.2.length < 2 ^ 63] <|
.frz 7 (.ev 0) none [] [8] <|
.guard [(rv6.1.length + 1) * (2 * 56) ≤ 2 ^ 48] <|
.reg 12 [] [(11, hv (AV.d (eL TApiReservation.e ([(⟨(IntKind.i64.wrap ((a0.Reservations.length : Int) + 1)), a1, a2, a3, a4, 0⟩ : TApiReservation)] : List TApiReservation)))), (12, { cast := some (AV.ref 4 ((rv6.1 ++ ([(⟨(IntKind.i64.wrap ((a0.Reservations.length : Int) + 1)), a1, a2, a3, a4, 0⟩ : TApiReservation)] : List TApiReservation)).length) 0 ((rv6.1 ++ ([(⟨(IntKind.i64.wrap ((a0.Reservations.length : Int) + 1)), a1, a2, a3, a4, 0⟩ : TApiReservation)] : List TApiReservation)).length)), obs := [(4, (eS 6 TApiReservation.e (rv6.1 ++ ([(⟨(IntKind.i64.wrap ((a0.Reservations.length : Int) + 1)), a1, a2, a3, a4, 0⟩ : TApiReservation)] : List TApiReservation))))] })] [.pf (leV_lit TApiReservation.e ([(⟨(IntKind.i64.wrap ((a0.Reservations.length : Int) + 1)), a1, a2, a3, a4, 0⟩ : TApiReservation)] : List TApiReservation)), .pf (Eq.refl rv6.1.length), .pf (Eq.refl rv6.1.length), .pf (p := ∀ k, k < 1 → (AV.d (TApiReservation.e (([(⟨(IntKind.i64.wrap ((a0.Reservations.length : Int) + 1)), a1, a2, a3, a4, 0⟩ : TApiReservation)] : List TApiReservation).getD k default))).wd = 6) (fun _ _ => rfl), .ev 0, .pf (leV_app (o := 4) (l := rv6.1) (x := ([(⟨(IntKind.i64.wrap ((a0.Reservations.length : Int) + 1)), a1, a2, a3, a4, 0⟩ : TApiReservation)] : List TApiReservation))), .pf (oLe_app (sz := 6) (e := TApiReservation.e) (l := rv6.1) (x := ([(⟨(IntKind.i64.wrap ((a0.Reservations.length : Int) + 1)), a1, a2, a3, a4, 0⟩ : TApiReservation)] : List TApiReservation)))] <|
.guard [(rv6.1 ++ ([(⟨(IntKind.i64.wrap ((a0.Reservations.length : Int) + 1)), a1, a2, a3, a4, 0⟩ : TApiReservation)] : List TApiReservation)).length < 2 ^ 63] <|
.reg 13 [] [] [] <|
.frz 4 (.ev 0) none [] [1, 8] <|
.ret [] ((⟨(rv6.1 ++ ([(⟨(IntKind.i64.wrap ((a0.Reservations.length : Int) + 1)), a1, a2, a3, a4, 0⟩ : TApiReservation)] : List TApiReservation)), rv6.2.1, rv6.2.2.1, rv6.2.2.2⟩ : TApiBook), 0))))))
def F_r14_Reserve (a0 : TApiBook) (a1 : List UInt8) (a2 : Int) (a3 : Int) (a4 : Int) : Option R_r14_Reserve := (S_r14_Reserve a0 a1 a2 a3 a4).den
set_option maxRecDepth 100000 in
theorem F_r14_Reserve_ok {a0 : TApiBook} {a1 : List UInt8} {a2 : Int} {a3 : Int} {a4 : Int} (r : R_r14_Reserve) (h : F_r14_Reserve a0 a1 a2 a3 a4 = some r) : CallOk Tryz.prog 51 [(AV.d (TApiBook.e a0)), (AV.d (DV.str a1)), (vi a2), (vi a3), (vi a4)] [] (V_r14_Reserve r) (L_r14_Reserve r) := fOk (s := S_r14_Reserve a0 a1 a2 a3 a4) Tryz.func51 rfl (by kernel_rfl) h
end
end Go.Proofs.YtbjbpoighbanfaaGreatDoor
/- What the functions compute, and that their calls return it. No condition. -/
namespace Go.Proofs.YtbjbpoighbanfaaGreatDoor
open Go Go.TA
noncomputable section
/-! 52 -/
abbrev R_r14_Commit := TApiBook × Int
def V_r14_Commit (x : R_r14_Commit) : AV := (AV.tup [(AV.d (TApiBook.e x.1)), (vi x.2)])
def L_r14_Commit (_ : R_r14_Commit) : List Ob := []
def S_r14_Commit (a0 : TApiBook) (a1 : Int) (a2 : Int) (a3 : Int) (a4 : Int) (a5 : Int) : Scr Tryz.prog R_r14_Commit R_r14_Commit :=
.reg 0 [] [(1, { obs := [(1, (bx (TApiBook.e (⟨[], [], [], []⟩ : TApiBook))))] })] [.pf cz3] <|
.call (@F_r14_Valid_ok a0) fun rv1 cv1 =>
.reg 1 [] [(1, hc cv1 [] true)] [.cl 0 cv1 [] 2 true] <|
.ite (!rv1) (
.reg 2 [] [(0, hv (AV.d (TApiBook.e (⟨[], [], [], []⟩ : TApiBook))))] [.pf cz4] <|
.ret [] ((⟨[], [], [], []⟩ : TApiBook), 1)) (
.ite (bif (decide (a1 < 1)) then true else (decide (a1 > (a0.Reservations.length : Int)))) (
.reg 4 [] [(0, hv (AV.d (TApiBook.e (⟨[], [], [], []⟩ : TApiBook))))] [.pf cz4] <|
.ret [] ((⟨[], [], [], []⟩ : TApiBook), 6)) (
.call (@F_r14_day_ok a2) fun rv2 cv2 =>
.calld [(!rv2) = false] default (@F_r14_amount_ok a3) fun rv3 cv3 =>
.calld [(bif (bif (bif (!rv2) then true else (!rv3)) then true else (decide (a4 < 1))) then true else (decide (a4 > 1000000))) = false] default (@F_r14_day_ok a5) fun rv4 cv4 =>
.reg 5 [] [(1, hc cv2 [] true), (5, hc cv3 [] true), (18, hc cv4 [] true)] [.cl 4 cv2 [] 2 true, .clg 2 [(!rv2) = false] cv3 [] 2 true, .clg 0 [(bif (bif (bif (!rv2) then true else (!rv3)) then true else (decide (a4 < 1))) then true else (decide (a4 > 1000000))) = false] cv4 [] 2 true] <|
.ite (bif (bif (bif (bif (!rv2) then true else (!rv3)) then true else (decide (a4 < 1))) then true else (decide (a4 > 1000000))) then true else (!rv4)) (
.reg 6 [] [(0, hv (AV.d (TApiBook.e (⟨[], [], [], []⟩ : TApiBook))))] [.pf cz4] <|
.ret [] ((⟨[], [], [], []⟩ : TApiBook), 2)) (
.guard [(0 : Int) ≤ (IntKind.i64.wrap (a1 - 1)), ((IntKind.i64.wrap (a1 - 1))).toNat < a0.Reservations.length] <|
.reg 7 [] [] [.ev 0, .ev 1] <|
.call (@F_r02_Year_ok a2) fun rv5 cv5 =>
.reg 8 [] [(1, hc cv5 [] true)] [.cl 0 cv5 [] 3 true] <|
.ite (rv5 != ((a0.Reservations.getD (((IntKind.i64.wrap (a1 - 1))).toNat) default).Year)) (
.reg 9 [] [(0, hv (AV.d (TApiBook.e (⟨[], [], [], []⟩ : TApiBook))))] [.pf cz4] <|
.ret [] ((⟨[], [], [], []⟩ : TApiBook), 16)) (
.ite (decide (a2 < ((a0.Reservations.getD (((IntKind.i64.wrap (a1 - 1))).toNat) default).Day))) (
.reg 11 [] [(0, hv (AV.d (TApiBook.e (⟨[], [], [], []⟩ : TApiBook))))] [.pf cz4] <|
.ret [] ((⟨[], [], [], []⟩ : TApiBook), 8)) (
.call (@F_r14_Left_ok a0 a1) fun rv6 cv6 =>
.reg 12 [] [(3, hc cv6 [] true)] [.cl 0 cv6 [] 3 true] <|
.ite (decide (a3 > rv6)) (
.reg 13 [] [(0, hv (AV.d (TApiBook.e (⟨[], [], [], []⟩ : TApiBook))))] [.pf cz4] <|
.ret [] ((⟨[], [], [], []⟩ : TApiBook), 15)) (
.ite ((a0.Commitments.length : Int) == 200) (
.reg 15 [] [(0, hv (AV.d (TApiBook.e (⟨[], [], [], []⟩ : TApiBook))))] [.pf cz4] <|
.ret [] ((⟨[], [], [], []⟩ : TApiBook), 3)) (
.call (@F_r14_copied_rw_ok a0) fun rv7 cv7 =>
.reg 16 [] [(1, hc cv7 [] false), (2, { h := .obj })] [.cl 0 cv7 [] 3 false] <|
.kill 4 <|
.guard [rv7.1.length < 2 ^ 63] <|
.frz 5 (.ev 0) none [] [9] <|
.guard [rv7.2.2.1.length < 2 ^ 63] <|
.frz 7 (.ev 0) none [] [9] <|
.guard [rv7.2.2.2.length < 2 ^ 63] <|
.frz 8 (.ev 0) none [] [9] <|
.guard [(rv7.2.1.length + 1) * (2 * 56) ≤ 2 ^ 48] <|
.reg 17 [] [(12, hv (AV.d (eL TApiCommitment.e ([(⟨(IntKind.i64.wrap ((a0.Commitments.length : Int) + 1)), a1, a2, a3, 0, a4, a5⟩ : TApiCommitment)] : List TApiCommitment)))), (13, { cast := some (AV.ref 6 ((rv7.2.1 ++ ([(⟨(IntKind.i64.wrap ((a0.Commitments.length : Int) + 1)), a1, a2, a3, 0, a4, a5⟩ : TApiCommitment)] : List TApiCommitment)).length) 0 ((rv7.2.1 ++ ([(⟨(IntKind.i64.wrap ((a0.Commitments.length : Int) + 1)), a1, a2, a3, 0, a4, a5⟩ : TApiCommitment)] : List TApiCommitment)).length)), obs := [(6, (eS 7 TApiCommitment.e (rv7.2.1 ++ ([(⟨(IntKind.i64.wrap ((a0.Commitments.length : Int) + 1)), a1, a2, a3, 0, a4, a5⟩ : TApiCommitment)] : List TApiCommitment))))] })] [.pf (leV_lit TApiCommitment.e ([(⟨(IntKind.i64.wrap ((a0.Commitments.length : Int) + 1)), a1, a2, a3, 0, a4, a5⟩ : TApiCommitment)] : List TApiCommitment)), .pf (Eq.refl rv7.2.1.length), .pf (Eq.refl rv7.2.1.length), .pf (p := ∀ k, k < 1 → (AV.d (TApiCommitment.e (([(⟨(IntKind.i64.wrap ((a0.Commitments.length : Int) + 1)), a1, a2, a3, 0, a4, a5⟩ : TApiCommitment)] : List TApiCommitment).getD k default))).wd = 7) (fun _ _ => rfl), .ev 0, .pf (leV_app (o := 6) (l := rv7.2.1) (x := ([(⟨(IntKind.i64.wrap ((a0.Commitments.length : Int) + 1)), a1, a2, a3, 0, a4, a5⟩ : TApiCommitment)] : List TApiCommitment))), .pf (oLe_app (sz := 7) (e := TApiCommitment.e) (l := rv7.2.1) (x := ([(⟨(IntKind.i64.wrap ((a0.Commitments.length : Int) + 1)), a1, a2, a3, 0, a4, a5⟩ : TApiCommitment)] : List TApiCommitment)))] <|
.guard [(rv7.2.1 ++ ([(⟨(IntKind.i64.wrap ((a0.Commitments.length : Int) + 1)), a1, a2, a3, 0, a4, a5⟩ : TApiCommitment)] : List TApiCommitment)).length < 2 ^ 63] <|
.reg 18 [] [] [] <|
.frz 6 (.ev 0) none [] [1, 9] <|
.ret [] ((⟨rv7.1, (rv7.2.1 ++ ([(⟨(IntKind.i64.wrap ((a0.Commitments.length : Int) + 1)), a1, a2, a3, 0, a4, a5⟩ : TApiCommitment)] : List TApiCommitment)), rv7.2.2.1, rv7.2.2.2⟩ : TApiBook), 0))))))))
def F_r14_Commit (a0 : TApiBook) (a1 : Int) (a2 : Int) (a3 : Int) (a4 : Int) (a5 : Int) : Option R_r14_Commit := (S_r14_Commit a0 a1 a2 a3 a4 a5).den
set_option maxRecDepth 100000 in
theorem F_r14_Commit_ok {a0 : TApiBook} {a1 : Int} {a2 : Int} {a3 : Int} {a4 : Int} {a5 : Int} (r : R_r14_Commit) (h : F_r14_Commit a0 a1 a2 a3 a4 a5 = some r) : CallOk Tryz.prog 52 [(AV.d (TApiBook.e a0)), (vi a1), (vi a2), (vi a3), (vi a4), (vi a5)] [] (V_r14_Commit r) (L_r14_Commit r) := fOk (s := S_r14_Commit a0 a1 a2 a3 a4 a5) Tryz.func52 rfl (by kernel_rfl) h
/-! 53 -/
abbrev R_r14_Verify := TApiBook × Int
def V_r14_Verify (x : R_r14_Verify) : AV := (AV.tup [(AV.d (TApiBook.e x.1)), (vi x.2)])
def L_r14_Verify (_ : R_r14_Verify) : List Ob := []
def S_r14_Verify (a0 : TApiBook) (a1 : Int) (a2 : Int) (a3 : Int) : Scr Tryz.prog R_r14_Verify R_r14_Verify :=
.reg 0 [] [(1, { obs := [(1, (bx (TApiBook.e (⟨[], [], [], []⟩ : TApiBook))))] })] [.pf cz3] <|
.call (@F_r14_Valid_ok a0) fun rv1 cv1 =>
.reg 1 [] [(1, hc cv1 [] true)] [.cl 0 cv1 [] 2 true] <|
.ite (!rv1) (
.reg 2 [] [(0, hv (AV.d (TApiBook.e (⟨[], [], [], []⟩ : TApiBook))))] [.pf cz4] <|
.ret [] ((⟨[], [], [], []⟩ : TApiBook), 1)) (
.ite (bif (decide (a1 < 1)) then true else (decide (a1 > (a0.Commitments.length : Int)))) (
.reg 4 [] [(0, hv (AV.d (TApiBook.e (⟨[], [], [], []⟩ : TApiBook))))] [.pf cz4] <|
.ret [] ((⟨[], [], [], []⟩ : TApiBook), 6)) (
.call (@F_r14_day_ok a2) fun rv2 cv2 =>
.calld [(!rv2) = false] default (@F_r14_amount_ok a3) fun rv3 cv3 =>
.reg 5 [] [(1, hc cv2 [] true), (5, hc cv3 [] true)] [.cl 2 cv2 [] 2 true, .clg 0 [(!rv2) = false] cv3 [] 2 true] <|
.ite (bif (!rv2) then true else (!rv3)) (
.reg 6 [] [(0, hv (AV.d (TApiBook.e (⟨[], [], [], []⟩ : TApiBook))))] [.pf cz4] <|
.ret [] ((⟨[], [], [], []⟩ : TApiBook), 2)) (
.call (@F_r02_Year_ok a2) fun rv4 cv4 =>
.call (@F_r14_year_ok a0 a1) fun rv5 cv5 =>
.reg 7 [] [(1, hc cv4 [] true), (4, hc cv5 [] true)] [.cl 1 cv4 [] 2 true, .cl 0 cv5 [] 2 true] <|
.ite (decide (rv4 > (IntKind.i64.wrap (rv5 + 1)))) (
.reg 8 [] [(0, hv (AV.d (TApiBook.e (⟨[], [], [], []⟩ : TApiBook))))] [.pf cz4] <|
.ret [] ((⟨[], [], [], []⟩ : TApiBook), 16)) (
.guard [(0 : Int) ≤ (IntKind.i64.wrap (a1 - 1)), ((IntKind.i64.wrap (a1 - 1))).toNat < a0.Commitments.length] <|
.reg 9 [] [] [.ev 0, .ev 1] <|
.ite (decide (a2 < ((a0.Commitments.getD (((IntKind.i64.wrap (a1 - 1))).toNat) default).Day))) (
.reg 10 [] [(0, hv (AV.d (TApiBook.e (⟨[], [], [], []⟩ : TApiBook))))] [.pf cz4] <|
.ret [] ((⟨[], [], [], []⟩ : TApiBook), 8)) (
.call (@F_r14_rest_ok a0 (a0.Commitments.getD (((IntKind.i64.wrap (a1 - 1))).toNat) default)) fun rv6 cv6 =>
.reg 11 [] [(8, hc cv6 [] true)] [.ev 2, .ev 3, .cl 0 cv6 [] 2 true] <|
.ite (decide (a3 > rv6)) (
.reg 12 [] [(0, hv (AV.d (TApiBook.e (⟨[], [], [], []⟩ : TApiBook))))] [.pf cz4] <|
.ret [] ((⟨[], [], [], []⟩ : TApiBook), 15)) (
.ite ((a0.Verifications.length : Int) == 200) (
.reg 14 [] [(0, hv (AV.d (TApiBook.e (⟨[], [], [], []⟩ : TApiBook))))] [.pf cz4] <|
.ret [] ((⟨[], [], [], []⟩ : TApiBook), 3)) (
.call (@F_r14_copied_rw_ok a0) fun rv7 cv7 =>
.reg 15 [] [(1, hc cv7 [] false), (2, { h := .obj })] [.cl 0 cv7 [] 2 false] <|
.kill 3 <|
.guard [rv7.1.length < 2 ^ 63] <|
.frz 4 (.ev 0) none [] [8] <|
.guard [rv7.2.1.length < 2 ^ 63] <|
.frz 5 (.ev 0) none [] [8] <|
.guard [rv7.2.2.2.length < 2 ^ 63] <|
.frz 7 (.ev 0) none [] [8] <|
.guard [(rv7.2.2.1.length + 1) * (2 * 32) ≤ 2 ^ 48] <|
.reg 16 [] [(10, hv (AV.d (eL TApiVerification.e ([(⟨(IntKind.i64.wrap ((a0.Verifications.length : Int) + 1)), a1, a2, a3⟩ : TApiVerification)] : List TApiVerification)))), (11, { cast := some (AV.ref 6 ((rv7.2.2.1 ++ ([(⟨(IntKind.i64.wrap ((a0.Verifications.length : Int) + 1)), a1, a2, a3⟩ : TApiVerification)] : List TApiVerification)).length) 0 ((rv7.2.2.1 ++ ([(⟨(IntKind.i64.wrap ((a0.Verifications.length : Int) + 1)), a1, a2, a3⟩ : TApiVerification)] : List TApiVerification)).length)), obs := [(6, (eS 4 TApiVerification.e (rv7.2.2.1 ++ ([(⟨(IntKind.i64.wrap ((a0.Verifications.length : Int) + 1)), a1, a2, a3⟩ : TApiVerification)] : List TApiVerification))))] })] [.pf (leV_lit TApiVerification.e ([(⟨(IntKind.i64.wrap ((a0.Verifications.length : Int) + 1)), a1, a2, a3⟩ : TApiVerification)] : List TApiVerification)), .pf (Eq.refl rv7.2.2.1.length), .pf (Eq.refl rv7.2.2.1.length), .pf (p := ∀ k, k < 1 → (AV.d (TApiVerification.e (([(⟨(IntKind.i64.wrap ((a0.Verifications.length : Int) + 1)), a1, a2, a3⟩ : TApiVerification)] : List TApiVerification).getD k default))).wd = 4) (fun _ _ => rfl), .ev 0, .pf (leV_app (o := 6) (l := rv7.2.2.1) (x := ([(⟨(IntKind.i64.wrap ((a0.Verifications.length : Int) + 1)), a1, a2, a3⟩ : TApiVerification)] : List TApiVerification))), .pf (oLe_app (sz := 4) (e := TApiVerification.e) (l := rv7.2.2.1) (x := ([(⟨(IntKind.i64.wrap ((a0.Verifications.length : Int) + 1)), a1, a2, a3⟩ : TApiVerification)] : List TApiVerification)))] <|
.guard [(rv7.2.2.1 ++ ([(⟨(IntKind.i64.wrap ((a0.Verifications.length : Int) + 1)), a1, a2, a3⟩ : TApiVerification)] : List TApiVerification)).length < 2 ^ 63] <|
.reg 17 [] [] [] <|
.frz 6 (.ev 0) none [] [1, 8] <|
.ret [] ((⟨rv7.1, rv7.2.1, (rv7.2.2.1 ++ ([(⟨(IntKind.i64.wrap ((a0.Verifications.length : Int) + 1)), a1, a2, a3⟩ : TApiVerification)] : List TApiVerification)), rv7.2.2.2⟩ : TApiBook), 0))))))))
def F_r14_Verify (a0 : TApiBook) (a1 : Int) (a2 : Int) (a3 : Int) : Option R_r14_Verify := (S_r14_Verify a0 a1 a2 a3).den
set_option maxRecDepth 100000 in
theorem F_r14_Verify_ok {a0 : TApiBook} {a1 : Int} {a2 : Int} {a3 : Int} (r : R_r14_Verify) (h : F_r14_Verify a0 a1 a2 a3 = some r) : CallOk Tryz.prog 53 [(AV.d (TApiBook.e a0)), (vi a1), (vi a2), (vi a3)] [] (V_r14_Verify r) (L_r14_Verify r) := fOk (s := S_r14_Verify a0 a1 a2 a3) Tryz.func53 rfl (by kernel_rfl) h
/-! 103 -/
abbrev R_r14_last := TApiOrder × Int
def V_r14_last (x : R_r14_last) : AV := (AV.tup [(AV.d (TApiOrder.e x.1)), (vi x.2)])
def L_r14_last (_ : R_r14_last) : List Ob := []
def S_r14_last_b1 (a0 : TApiBook) (a1 : Int) (iv1 : Nat) (sv2 : TApiOrder × Int) : Scr Tryz.prog R_r14_last (Step (TApiOrder × Int) R_r14_last) :=
.reg 5 [] [] [.pf (nn iv1), .ev 0] <|
.ite (((a0.Orders.getD iv1 default).Verification) == a1) (
.ret [] (.cont ((a0.Orders.getD iv1 default), (IntKind.i64.wrap (sv2.2 + 1))))) (
.ret [] (.cont (sv2.1, sv2.2)))
def S_r14_last (a0 : TApiBook) (a1 : Int) : Scr Tryz.prog R_r14_last R_r14_last :=
.range (a0.Orders.length : Int) a0.Orders.length rfl (.slot 11) 13 [1, 4, 6, 11, 12] (fun (sv2 : TApiOrder × Int) => [(7, (vi sv2.2))]) (fun (sv2 : TApiOrder × Int) => [(2, (bx (TApiOrder.e sv2.1)))]) ((⟨0, 0, 0, 0, false⟩ : TApiOrder), 0) (S_r14_last_b1 a0 a1) (fun (sv2 : TApiOrder × Int) => 
.ret [] (sv2.1, sv2.2)) id
def F_r14_last (a0 : TApiBook) (a1 : Int) : Option R_r14_last := (S_r14_last a0 a1).den
set_option maxRecDepth 100000 in
theorem F_r14_last_ok {a0 : TApiBook} {a1 : Int} (r : R_r14_last) (h : F_r14_last a0 a1 = some r) : CallOk Tryz.prog 103 [(AV.d (TApiBook.e a0)), (vi a1)] [] (V_r14_last r) (L_r14_last r) := fOk (s := S_r14_last a0 a1) Tryz.func103 rfl (by kernel_rfl) h
/-! 54 -/
abbrev R_r14_Order := TApiBook × Int
def V_r14_Order (x : R_r14_Order) : AV := (AV.tup [(AV.d (TApiBook.e x.1)), (vi x.2)])
def L_r14_Order (_ : R_r14_Order) : List Ob := []
def S_r14_Order (a0 : TApiBook) (a1 : Int) (a2 : Int) : Scr Tryz.prog R_r14_Order R_r14_Order :=
.reg 0 [] [(1, { obs := [(1, (bx (TApiBook.e (⟨[], [], [], []⟩ : TApiBook))))] })] [.pf cz3] <|
.call (@F_r14_Valid_ok a0) fun rv1 cv1 =>
.reg 1 [] [(1, hc cv1 [] true)] [.cl 0 cv1 [] 2 true] <|
.ite (!rv1) (
.reg 2 [] [(0, hv (AV.d (TApiBook.e (⟨[], [], [], []⟩ : TApiBook))))] [.pf cz4] <|
.ret [] ((⟨[], [], [], []⟩ : TApiBook), 1)) (
.ite (bif (decide (a1 < 1)) then true else (decide (a1 > (a0.Verifications.length : Int)))) (
.reg 4 [] [(0, hv (AV.d (TApiBook.e (⟨[], [], [], []⟩ : TApiBook))))] [.pf cz4] <|
.ret [] ((⟨[], [], [], []⟩ : TApiBook), 6)) (
.call (@F_r14_day_ok a2) fun rv2 cv2 =>
.reg 5 [] [(1, hc cv2 [] true)] [.cl 0 cv2 [] 2 true] <|
.ite (!rv2) (
.reg 6 [] [(0, hv (AV.d (TApiBook.e (⟨[], [], [], []⟩ : TApiBook))))] [.pf cz4] <|
.ret [] ((⟨[], [], [], []⟩ : TApiBook), 2)) (
.guard [(0 : Int) ≤ (IntKind.i64.wrap (a1 - 1)), ((IntKind.i64.wrap (a1 - 1))).toNat < a0.Verifications.length] <|
.reg 7 [] [] [.ev 0, .ev 1] <|
.call (@F_r14_last_ok a0 a1) fun rv3 cv3 =>
.reg 8 [] [(2, hc cv3 [] true)] [.cl 0 cv3 [] 3 true] <|
.call (@F_r02_Year_ok a2) fun rv4 cv4 =>
.call (@F_r14_year_ok a0 ((a0.Verifications.getD (((IntKind.i64.wrap (a1 - 1))).toNat) default).Commitment)) fun rv5 cv5 =>
.reg 9 [] [(1, hc cv4 [] true), (5, hc cv5 [] true)] [.cl 1 cv4 [] 4 true, .cl 0 cv5 [] 4 true] <|
.ite (decide (rv4 > (IntKind.i64.wrap (rv5 + 1)))) (
.reg 10 [] [(0, hv (AV.d (TApiBook.e (⟨[], [], [], []⟩ : TApiBook))))] [.pf cz4] <|
.ret [] ((⟨[], [], [], []⟩ : TApiBook), 16)) (
.ite (bif (decide (rv3.2 > 0)) then (!rv3.1.Back) else false) (
.reg 12 [] [(0, hv (AV.d (TApiBook.e (⟨[], [], [], []⟩ : TApiBook))))] [.pf cz4] <|
.ret [] ((⟨[], [], [], []⟩ : TApiBook), 20)) (
.ite (bif (decide (a2 < ((a0.Verifications.getD (((IntKind.i64.wrap (a1 - 1))).toNat) default).Day))) then true else (bif (decide (rv3.2 > 0)) then (decide (a2 < rv3.1.Day)) else false)) (
.reg 14 [] [(0, hv (AV.d (TApiBook.e (⟨[], [], [], []⟩ : TApiBook))))] [.pf cz4] <|
.ret [] ((⟨[], [], [], []⟩ : TApiBook), 8)) (
.ite ((a0.Orders.length : Int) == 200) (
.reg 16 [] [(0, hv (AV.d (TApiBook.e (⟨[], [], [], []⟩ : TApiBook))))] [.pf cz4] <|
.ret [] ((⟨[], [], [], []⟩ : TApiBook), 3)) (
.call (@F_r14_copied_rw_ok a0) fun rv6 cv6 =>
.reg 17 [] [(1, hc cv6 [] false), (2, { h := .obj })] [.cl 0 cv6 [] 4 false] <|
.kill 5 <|
.guard [rv6.1.length < 2 ^ 63] <|
.frz 6 (.ev 0) none [] [10] <|
.guard [rv6.2.1.length < 2 ^ 63] <|
.frz 7 (.ev 0) none [] [10] <|
.guard [rv6.2.2.1.length < 2 ^ 63] <|
.frz 8 (.ev 0) none [] [10] <|
.guard [(rv6.2.2.2.length + 1) * (2 * 40) ≤ 2 ^ 48] <|
.reg 18 [] [(11, hv (AV.d (eL TApiOrder.e ([(⟨(IntKind.i64.wrap ((a0.Orders.length : Int) + 1)), a1, (IntKind.i64.wrap (rv3.2 + 1)), a2, false⟩ : TApiOrder)] : List TApiOrder)))), (12, { cast := some (AV.ref 9 ((rv6.2.2.2 ++ ([(⟨(IntKind.i64.wrap ((a0.Orders.length : Int) + 1)), a1, (IntKind.i64.wrap (rv3.2 + 1)), a2, false⟩ : TApiOrder)] : List TApiOrder)).length) 0 ((rv6.2.2.2 ++ ([(⟨(IntKind.i64.wrap ((a0.Orders.length : Int) + 1)), a1, (IntKind.i64.wrap (rv3.2 + 1)), a2, false⟩ : TApiOrder)] : List TApiOrder)).length)), obs := [(9, (eS 5 TApiOrder.e (rv6.2.2.2 ++ ([(⟨(IntKind.i64.wrap ((a0.Orders.length : Int) + 1)), a1, (IntKind.i64.wrap (rv3.2 + 1)), a2, false⟩ : TApiOrder)] : List TApiOrder))))] })] [.pf (leV_lit TApiOrder.e ([(⟨(IntKind.i64.wrap ((a0.Orders.length : Int) + 1)), a1, (IntKind.i64.wrap (rv3.2 + 1)), a2, false⟩ : TApiOrder)] : List TApiOrder)), .pf (Eq.refl rv6.2.2.2.length), .pf (Eq.refl rv6.2.2.2.length), .pf (p := ∀ k, k < 1 → (AV.d (TApiOrder.e (([(⟨(IntKind.i64.wrap ((a0.Orders.length : Int) + 1)), a1, (IntKind.i64.wrap (rv3.2 + 1)), a2, false⟩ : TApiOrder)] : List TApiOrder).getD k default))).wd = 5) (fun _ _ => rfl), .ev 0, .pf (leV_app (o := 9) (l := rv6.2.2.2) (x := ([(⟨(IntKind.i64.wrap ((a0.Orders.length : Int) + 1)), a1, (IntKind.i64.wrap (rv3.2 + 1)), a2, false⟩ : TApiOrder)] : List TApiOrder))), .pf (oLe_app (sz := 5) (e := TApiOrder.e) (l := rv6.2.2.2) (x := ([(⟨(IntKind.i64.wrap ((a0.Orders.length : Int) + 1)), a1, (IntKind.i64.wrap (rv3.2 + 1)), a2, false⟩ : TApiOrder)] : List TApiOrder)))] <|
.guard [(rv6.2.2.2 ++ ([(⟨(IntKind.i64.wrap ((a0.Orders.length : Int) + 1)), a1, (IntKind.i64.wrap (rv3.2 + 1)), a2, false⟩ : TApiOrder)] : List TApiOrder)).length < 2 ^ 63] <|
.reg 19 [] [] [] <|
.frz 9 (.ev 0) none [] [1, 10] <|
.ret [] ((⟨rv6.1, rv6.2.1, rv6.2.2.1, (rv6.2.2.2 ++ ([(⟨(IntKind.i64.wrap ((a0.Orders.length : Int) + 1)), a1, (IntKind.i64.wrap (rv3.2 + 1)), a2, false⟩ : TApiOrder)] : List TApiOrder))⟩ : TApiBook), 0))))))))
def F_r14_Order (a0 : TApiBook) (a1 : Int) (a2 : Int) : Option R_r14_Order := (S_r14_Order a0 a1 a2).den
set_option maxRecDepth 100000 in
theorem F_r14_Order_ok {a0 : TApiBook} {a1 : Int} {a2 : Int} (r : R_r14_Order) (h : F_r14_Order a0 a1 a2 = some r) : CallOk Tryz.prog 54 [(AV.d (TApiBook.e a0)), (vi a1), (vi a2)] [] (V_r14_Order r) (L_r14_Order r) := fOk (s := S_r14_Order a0 a1 a2) Tryz.func54 rfl (by kernel_rfl) h
/-! 55 -/
abbrev R_r14_Release := TApiBook × Int
def V_r14_Release (x : R_r14_Release) : AV := (AV.tup [(AV.d (TApiBook.e x.1)), (vi x.2)])
def L_r14_Release (_ : R_r14_Release) : List Ob := []
def S_r14_Release (a0 : TApiBook) (a1 : Int) (a2 : Int) : Scr Tryz.prog R_r14_Release R_r14_Release :=
.reg 0 [] [(1, { obs := [(1, (bx (TApiBook.e (⟨[], [], [], []⟩ : TApiBook))))] })] [.pf cz3] <|
.call (@F_r14_Valid_ok a0) fun rv1 cv1 =>
.reg 1 [] [(1, hc cv1 [] true)] [.cl 0 cv1 [] 2 true] <|
.ite (!rv1) (
.reg 2 [] [(0, hv (AV.d (TApiBook.e (⟨[], [], [], []⟩ : TApiBook))))] [.pf cz4] <|
.ret [] ((⟨[], [], [], []⟩ : TApiBook), 1)) (
.ite (bif (decide (a1 < 1)) then true else (decide (a1 > (a0.Reservations.length : Int)))) (
.reg 4 [] [(0, hv (AV.d (TApiBook.e (⟨[], [], [], []⟩ : TApiBook))))] [.pf cz4] <|
.ret [] ((⟨[], [], [], []⟩ : TApiBook), 6)) (
.call (@F_r14_amount_ok a2) fun rv2 cv2 =>
.reg 5 [] [(1, hc cv2 [] true)] [.cl 0 cv2 [] 2 true] <|
.ite (!rv2) (
.reg 6 [] [(0, hv (AV.d (TApiBook.e (⟨[], [], [], []⟩ : TApiBook))))] [.pf cz4] <|
.ret [] ((⟨[], [], [], []⟩ : TApiBook), 2)) (
.call (@F_r14_Left_ok a0 a1) fun rv3 cv3 =>
.reg 7 [] [(3, hc cv3 [] true)] [.cl 0 cv3 [] 2 true] <|
.ite (decide (a2 > rv3)) (
.reg 8 [] [(0, hv (AV.d (TApiBook.e (⟨[], [], [], []⟩ : TApiBook))))] [.pf cz4] <|
.ret [] ((⟨[], [], [], []⟩ : TApiBook), 15)) (
.call (@F_r14_copied_rw_ok a0) fun rv4 cv4 =>
.reg 9 [] [(1, hc cv4 [] false), (2, { obs := [(8, (bx (TApiBook.e (⟨[], [], [], []⟩ : TApiBook))))] })] [.cl 0 cv4 [] 2 false, .pf cz3] <|
.kill 3 <|
.guard [rv4.2.1.length < 2 ^ 63] <|
.frz 5 (.ev 0) none [] [8] <|
.guard [rv4.2.2.1.length < 2 ^ 63] <|
.frz 6 (.ev 0) none [] [8] <|
.guard [rv4.2.2.2.length < 2 ^ 63] <|
.frz 7 (.ev 0) none [] [8] <|
.guard [(0 : Int) ≤ (IntKind.i64.wrap (a1 - 1)), ((IntKind.i64.wrap (a1 - 1))).toNat < rv4.1.length, (0 + ((IntKind.i64.wrap (a1 - 1))).toNat) < rv4.1.length] <|
.reg 10 [] [(11, { obs := [(4, (eS 6 TApiReservation.e (rv4.1.set (0 + ((IntKind.i64.wrap (a1 - 1))).toNat) (⟨(rv4.1.getD (0 + ((IntKind.i64.wrap (a1 - 1))).toNat) default).Number, (rv4.1.getD (0 + ((IntKind.i64.wrap (a1 - 1))).toNat) default).Code, (rv4.1.getD (0 + ((IntKind.i64.wrap (a1 - 1))).toNat) default).Year, (rv4.1.getD (0 + ((IntKind.i64.wrap (a1 - 1))).toNat) default).Day, (rv4.1.getD (0 + ((IntKind.i64.wrap (a1 - 1))).toNat) default).Amount, (IntKind.i64.wrap (((rv4.1.getD (0 + ((IntKind.i64.wrap (a1 - 1))).toNat) default).Released) + a2))⟩ : TApiReservation))))] })] [.pf (Eq.refl rv4.1.length), .ev 0, .ev 1, .pf (Eq.refl rv4.1.length), .pf (Eq.refl rv4.1.length), .ev 2, .pf (Eq.refl rv4.1.length), .ev 0, .ev 1, .pf (Eq.refl rv4.1.length), .pf (Eq.refl rv4.1.length), .ev 2, .pf (oLe_set (sz := 6) (e := TApiReservation.e) (l := rv4.1) (i := (0 + ((IntKind.i64.wrap (a1 - 1))).toNat)) (x := (⟨(rv4.1.getD (0 + ((IntKind.i64.wrap (a1 - 1))).toNat) default).Number, (rv4.1.getD (0 + ((IntKind.i64.wrap (a1 - 1))).toNat) default).Code, (rv4.1.getD (0 + ((IntKind.i64.wrap (a1 - 1))).toNat) default).Year, (rv4.1.getD (0 + ((IntKind.i64.wrap (a1 - 1))).toNat) default).Day, (rv4.1.getD (0 + ((IntKind.i64.wrap (a1 - 1))).toNat) default).Amount, (IntKind.i64.wrap (((rv4.1.getD (0 + ((IntKind.i64.wrap (a1 - 1))).toNat) default).Released) + a2))⟩ : TApiReservation)) (fun _ => rfl))] <|
.cst (A := True) (.pf trivial) [(6, (vp 1)), (8, (vp 8))] [(6, (vp 1)), (8, (vp 8))] [(bx (TApiBook.e a0)), (bx (TApiBook.e (⟨[], [], [], []⟩ : TApiBook))), Ob.dead, Ob.dead, (eS 6 TApiReservation.e (rv4.1.set (0 + ((IntKind.i64.wrap (a1 - 1))).toNat) (⟨(rv4.1.getD (0 + ((IntKind.i64.wrap (a1 - 1))).toNat) default).Number, (rv4.1.getD (0 + ((IntKind.i64.wrap (a1 - 1))).toNat) default).Code, (rv4.1.getD (0 + ((IntKind.i64.wrap (a1 - 1))).toNat) default).Year, (rv4.1.getD (0 + ((IntKind.i64.wrap (a1 - 1))).toNat) default).Day, (rv4.1.getD (0 + ((IntKind.i64.wrap (a1 - 1))).toNat) default).Amount, (IntKind.i64.wrap (((rv4.1.getD (0 + ((IntKind.i64.wrap (a1 - 1))).toNat) default).Released) + a2))⟩ : TApiReservation))), Ob.dead, Ob.dead, Ob.dead, (Ob.box (AV.agg [(AV.ref 4 rv4.1.length 0 rv4.1.length), (AV.d (eL TApiCommitment.e rv4.2.1)), (AV.d (eL TApiVerification.e rv4.2.2.1)), (AV.d (eL TApiOrder.e rv4.2.2.2))]))] [(bx (TApiBook.e a0)), (bx (TApiBook.e (⟨[], [], [], []⟩ : TApiBook))), Ob.dead, Ob.dead, (eS 6 TApiReservation.e (rv4.1.set (0 + ((IntKind.i64.wrap (a1 - 1))).toNat) (⟨(rv4.1.getD (0 + ((IntKind.i64.wrap (a1 - 1))).toNat) default).Number, (rv4.1.getD (0 + ((IntKind.i64.wrap (a1 - 1))).toNat) default).Code, (rv4.1.getD (0 + ((IntKind.i64.wrap (a1 - 1))).toNat) default).Year, (rv4.1.getD (0 + ((IntKind.i64.wrap (a1 - 1))).toNat) default).Day, (rv4.1.getD (0 + ((IntKind.i64.wrap (a1 - 1))).toNat) default).Amount, (IntKind.i64.wrap (((rv4.1.getD (0 + ((IntKind.i64.wrap (a1 - 1))).toNat) default).Released) + a2))⟩ : TApiReservation))), Ob.dead, Ob.dead, Ob.dead, (Ob.box (AV.agg [(AV.ref 4 ((rv4.1.set (0 + ((IntKind.i64.wrap (a1 - 1))).toNat) (⟨(rv4.1.getD (0 + ((IntKind.i64.wrap (a1 - 1))).toNat) default).Number, (rv4.1.getD (0 + ((IntKind.i64.wrap (a1 - 1))).toNat) default).Code, (rv4.1.getD (0 + ((IntKind.i64.wrap (a1 - 1))).toNat) default).Year, (rv4.1.getD (0 + ((IntKind.i64.wrap (a1 - 1))).toNat) default).Day, (rv4.1.getD (0 + ((IntKind.i64.wrap (a1 - 1))).toNat) default).Amount, (IntKind.i64.wrap (((rv4.1.getD (0 + ((IntKind.i64.wrap (a1 - 1))).toNat) default).Released) + a2))⟩ : TApiReservation)).length) 0 ((rv4.1.set (0 + ((IntKind.i64.wrap (a1 - 1))).toNat) (⟨(rv4.1.getD (0 + ((IntKind.i64.wrap (a1 - 1))).toNat) default).Number, (rv4.1.getD (0 + ((IntKind.i64.wrap (a1 - 1))).toNat) default).Code, (rv4.1.getD (0 + ((IntKind.i64.wrap (a1 - 1))).toNat) default).Year, (rv4.1.getD (0 + ((IntKind.i64.wrap (a1 - 1))).toNat) default).Day, (rv4.1.getD (0 + ((IntKind.i64.wrap (a1 - 1))).toNat) default).Amount, (IntKind.i64.wrap (((rv4.1.getD (0 + ((IntKind.i64.wrap (a1 - 1))).toNat) default).Released) + a2))⟩ : TApiReservation)).length)), (AV.d (eL TApiCommitment.e rv4.2.1)), (AV.d (eL TApiVerification.e rv4.2.2.1)), (AV.d (eL TApiOrder.e rv4.2.2.2))]))] (fun _ => ⟨by simp only, by simp only [List.length_set]⟩) <|
.guard [(rv4.1.set (0 + ((IntKind.i64.wrap (a1 - 1))).toNat) (⟨(rv4.1.getD (0 + ((IntKind.i64.wrap (a1 - 1))).toNat) default).Number, (rv4.1.getD (0 + ((IntKind.i64.wrap (a1 - 1))).toNat) default).Code, (rv4.1.getD (0 + ((IntKind.i64.wrap (a1 - 1))).toNat) default).Year, (rv4.1.getD (0 + ((IntKind.i64.wrap (a1 - 1))).toNat) default).Day, (rv4.1.getD (0 + ((IntKind.i64.wrap (a1 - 1))).toNat) default).Amount, (IntKind.i64.wrap (((rv4.1.getD (0 + ((IntKind.i64.wrap (a1 - 1))).toNat) default).Released) + a2))⟩ : TApiReservation)).length < 2 ^ 63] <|
.reg 11 [] [] [] <|
.frz 4 (.ev 0) none [] [1, 8] <|
.ret [] ((⟨(rv4.1.set (0 + ((IntKind.i64.wrap (a1 - 1))).toNat) (⟨(rv4.1.getD (0 + ((IntKind.i64.wrap (a1 - 1))).toNat) default).Number, (rv4.1.getD (0 + ((IntKind.i64.wrap (a1 - 1))).toNat) default).Code, (rv4.1.getD (0 + ((IntKind.i64.wrap (a1 - 1))).toNat) default).Year, (rv4.1.getD (0 + ((IntKind.i64.wrap (a1 - 1))).toNat) default).Day, (rv4.1.getD (0 + ((IntKind.i64.wrap (a1 - 1))).toNat) default).Amount, (IntKind.i64.wrap (((rv4.1.getD (0 + ((IntKind.i64.wrap (a1 - 1))).toNat) default).Released) + a2))⟩ : TApiReservation)), rv4.2.1, rv4.2.2.1, rv4.2.2.2⟩ : TApiBook), 0)))))
def F_r14_Release (a0 : TApiBook) (a1 : Int) (a2 : Int) : Option R_r14_Release := (S_r14_Release a0 a1 a2).den
set_option maxRecDepth 100000 in
theorem F_r14_Release_ok {a0 : TApiBook} {a1 : Int} {a2 : Int} (r : R_r14_Release) (h : F_r14_Release a0 a1 a2 = some r) : CallOk Tryz.prog 55 [(AV.d (TApiBook.e a0)), (vi a1), (vi a2)] [] (V_r14_Release r) (L_r14_Release r) := fOk (s := S_r14_Release a0 a1 a2) Tryz.func55 rfl (by kernel_rfl) h
/-! 56 -/
abbrev R_r14_Drop := TApiBook × Int
def V_r14_Drop (x : R_r14_Drop) : AV := (AV.tup [(AV.d (TApiBook.e x.1)), (vi x.2)])
def L_r14_Drop (_ : R_r14_Drop) : List Ob := []
def S_r14_Drop (a0 : TApiBook) (a1 : Int) (a2 : Int) : Scr Tryz.prog R_r14_Drop R_r14_Drop :=
.reg 0 [] [(1, { obs := [(1, (bx (TApiBook.e (⟨[], [], [], []⟩ : TApiBook))))] })] [.pf cz3] <|
.call (@F_r14_Valid_ok a0) fun rv1 cv1 =>
.reg 1 [] [(1, hc cv1 [] true)] [.cl 0 cv1 [] 2 true] <|
.ite (!rv1) (
.reg 2 [] [(0, hv (AV.d (TApiBook.e (⟨[], [], [], []⟩ : TApiBook))))] [.pf cz4] <|
.ret [] ((⟨[], [], [], []⟩ : TApiBook), 1)) (
.ite (bif (decide (a1 < 1)) then true else (decide (a1 > (a0.Commitments.length : Int)))) (
.reg 4 [] [(0, hv (AV.d (TApiBook.e (⟨[], [], [], []⟩ : TApiBook))))] [.pf cz4] <|
.ret [] ((⟨[], [], [], []⟩ : TApiBook), 6)) (
.call (@F_r14_amount_ok a2) fun rv2 cv2 =>
.reg 5 [] [(1, hc cv2 [] true)] [.cl 0 cv2 [] 2 true] <|
.ite (!rv2) (
.reg 6 [] [(0, hv (AV.d (TApiBook.e (⟨[], [], [], []⟩ : TApiBook))))] [.pf cz4] <|
.ret [] ((⟨[], [], [], []⟩ : TApiBook), 2)) (
.call (@F_r14_rest_ok a0 (a0.Commitments.getD (((IntKind.i64.wrap (a1 - 1))).toNat) default)) fun rv3 cv3 =>
.guard [(0 : Int) ≤ (IntKind.i64.wrap (a1 - 1)), ((IntKind.i64.wrap (a1 - 1))).toNat < a0.Commitments.length] <|
.reg 7 [] [(8, hc cv3 [] true)] [.ev 0, .ev 1, .cl 2 cv3 [] 2 true] <|
.ite (decide (a2 > rv3)) (
.reg 8 [] [(0, hv (AV.d (TApiBook.e (⟨[], [], [], []⟩ : TApiBook))))] [.pf cz4] <|
.ret [] ((⟨[], [], [], []⟩ : TApiBook), 15)) (
.call (@F_r14_copied_rw_ok a0) fun rv4 cv4 =>
.reg 9 [] [(1, hc cv4 [] false), (2, { obs := [(8, (bx (TApiBook.e (⟨[], [], [], []⟩ : TApiBook))))] })] [.cl 0 cv4 [] 2 false, .pf cz3] <|
.kill 3 <|
.guard [rv4.1.length < 2 ^ 63] <|
.frz 4 (.ev 0) none [] [8] <|
.guard [rv4.2.2.1.length < 2 ^ 63] <|
.frz 6 (.ev 0) none [] [8] <|
.guard [rv4.2.2.2.length < 2 ^ 63] <|
.frz 7 (.ev 0) none [] [8] <|
.guard [((IntKind.i64.wrap (a1 - 1))).toNat < rv4.2.1.length, (0 + ((IntKind.i64.wrap (a1 - 1))).toNat) < rv4.2.1.length] <|
.reg 10 [] [(11, { obs := [(5, (eS 7 TApiCommitment.e (rv4.2.1.set (0 + ((IntKind.i64.wrap (a1 - 1))).toNat) (⟨(rv4.2.1.getD (0 + ((IntKind.i64.wrap (a1 - 1))).toNat) default).Number, (rv4.2.1.getD (0 + ((IntKind.i64.wrap (a1 - 1))).toNat) default).Reservation, (rv4.2.1.getD (0 + ((IntKind.i64.wrap (a1 - 1))).toNat) default).Day, (rv4.2.1.getD (0 + ((IntKind.i64.wrap (a1 - 1))).toNat) default).Amount, (IntKind.i64.wrap (((rv4.2.1.getD (0 + ((IntKind.i64.wrap (a1 - 1))).toNat) default).Released) + a2)), (rv4.2.1.getD (0 + ((IntKind.i64.wrap (a1 - 1))).toNat) default).Payee, (rv4.2.1.getD (0 + ((IntKind.i64.wrap (a1 - 1))).toNat) default).Due⟩ : TApiCommitment))))] })] [.pf (Eq.refl rv4.2.1.length), .ev 7, .ev 0, .pf (Eq.refl rv4.2.1.length), .pf (Eq.refl rv4.2.1.length), .ev 1, .pf (Eq.refl rv4.2.1.length), .ev 7, .ev 0, .pf (Eq.refl rv4.2.1.length), .pf (Eq.refl rv4.2.1.length), .ev 1, .pf (oLe_set (sz := 7) (e := TApiCommitment.e) (l := rv4.2.1) (i := (0 + ((IntKind.i64.wrap (a1 - 1))).toNat)) (x := (⟨(rv4.2.1.getD (0 + ((IntKind.i64.wrap (a1 - 1))).toNat) default).Number, (rv4.2.1.getD (0 + ((IntKind.i64.wrap (a1 - 1))).toNat) default).Reservation, (rv4.2.1.getD (0 + ((IntKind.i64.wrap (a1 - 1))).toNat) default).Day, (rv4.2.1.getD (0 + ((IntKind.i64.wrap (a1 - 1))).toNat) default).Amount, (IntKind.i64.wrap (((rv4.2.1.getD (0 + ((IntKind.i64.wrap (a1 - 1))).toNat) default).Released) + a2)), (rv4.2.1.getD (0 + ((IntKind.i64.wrap (a1 - 1))).toNat) default).Payee, (rv4.2.1.getD (0 + ((IntKind.i64.wrap (a1 - 1))).toNat) default).Due⟩ : TApiCommitment)) (fun _ => rfl))] <|
.cst (A := True) (.pf trivial) [(6, (vp 1)), (8, (vp 8))] [(6, (vp 1)), (8, (vp 8))] [(bx (TApiBook.e a0)), (bx (TApiBook.e (⟨[], [], [], []⟩ : TApiBook))), Ob.dead, Ob.dead, Ob.dead, (eS 7 TApiCommitment.e (rv4.2.1.set (0 + ((IntKind.i64.wrap (a1 - 1))).toNat) (⟨(rv4.2.1.getD (0 + ((IntKind.i64.wrap (a1 - 1))).toNat) default).Number, (rv4.2.1.getD (0 + ((IntKind.i64.wrap (a1 - 1))).toNat) default).Reservation, (rv4.2.1.getD (0 + ((IntKind.i64.wrap (a1 - 1))).toNat) default).Day, (rv4.2.1.getD (0 + ((IntKind.i64.wrap (a1 - 1))).toNat) default).Amount, (IntKind.i64.wrap (((rv4.2.1.getD (0 + ((IntKind.i64.wrap (a1 - 1))).toNat) default).Released) + a2)), (rv4.2.1.getD (0 + ((IntKind.i64.wrap (a1 - 1))).toNat) default).Payee, (rv4.2.1.getD (0 + ((IntKind.i64.wrap (a1 - 1))).toNat) default).Due⟩ : TApiCommitment))), Ob.dead, Ob.dead, (Ob.box (AV.agg [(AV.d (eL TApiReservation.e rv4.1)), (AV.ref 5 rv4.2.1.length 0 rv4.2.1.length), (AV.d (eL TApiVerification.e rv4.2.2.1)), (AV.d (eL TApiOrder.e rv4.2.2.2))]))] [(bx (TApiBook.e a0)), (bx (TApiBook.e (⟨[], [], [], []⟩ : TApiBook))), Ob.dead, Ob.dead, Ob.dead, (eS 7 TApiCommitment.e (rv4.2.1.set (0 + ((IntKind.i64.wrap (a1 - 1))).toNat) (⟨(rv4.2.1.getD (0 + ((IntKind.i64.wrap (a1 - 1))).toNat) default).Number, (rv4.2.1.getD (0 + ((IntKind.i64.wrap (a1 - 1))).toNat) default).Reservation, (rv4.2.1.getD (0 + ((IntKind.i64.wrap (a1 - 1))).toNat) default).Day, (rv4.2.1.getD (0 + ((IntKind.i64.wrap (a1 - 1))).toNat) default).Amount, (IntKind.i64.wrap (((rv4.2.1.getD (0 + ((IntKind.i64.wrap (a1 - 1))).toNat) default).Released) + a2)), (rv4.2.1.getD (0 + ((IntKind.i64.wrap (a1 - 1))).toNat) default).Payee, (rv4.2.1.getD (0 + ((IntKind.i64.wrap (a1 - 1))).toNat) default).Due⟩ : TApiCommitment))), Ob.dead, Ob.dead, (Ob.box (AV.agg [(AV.d (eL TApiReservation.e rv4.1)), (AV.ref 5 ((rv4.2.1.set (0 + ((IntKind.i64.wrap (a1 - 1))).toNat) (⟨(rv4.2.1.getD (0 + ((IntKind.i64.wrap (a1 - 1))).toNat) default).Number, (rv4.2.1.getD (0 + ((IntKind.i64.wrap (a1 - 1))).toNat) default).Reservation, (rv4.2.1.getD (0 + ((IntKind.i64.wrap (a1 - 1))).toNat) default).Day, (rv4.2.1.getD (0 + ((IntKind.i64.wrap (a1 - 1))).toNat) default).Amount, (IntKind.i64.wrap (((rv4.2.1.getD (0 + ((IntKind.i64.wrap (a1 - 1))).toNat) default).Released) + a2)), (rv4.2.1.getD (0 + ((IntKind.i64.wrap (a1 - 1))).toNat) default).Payee, (rv4.2.1.getD (0 + ((IntKind.i64.wrap (a1 - 1))).toNat) default).Due⟩ : TApiCommitment)).length) 0 ((rv4.2.1.set (0 + ((IntKind.i64.wrap (a1 - 1))).toNat) (⟨(rv4.2.1.getD (0 + ((IntKind.i64.wrap (a1 - 1))).toNat) default).Number, (rv4.2.1.getD (0 + ((IntKind.i64.wrap (a1 - 1))).toNat) default).Reservation, (rv4.2.1.getD (0 + ((IntKind.i64.wrap (a1 - 1))).toNat) default).Day, (rv4.2.1.getD (0 + ((IntKind.i64.wrap (a1 - 1))).toNat) default).Amount, (IntKind.i64.wrap (((rv4.2.1.getD (0 + ((IntKind.i64.wrap (a1 - 1))).toNat) default).Released) + a2)), (rv4.2.1.getD (0 + ((IntKind.i64.wrap (a1 - 1))).toNat) default).Payee, (rv4.2.1.getD (0 + ((IntKind.i64.wrap (a1 - 1))).toNat) default).Due⟩ : TApiCommitment)).length)), (AV.d (eL TApiVerification.e rv4.2.2.1)), (AV.d (eL TApiOrder.e rv4.2.2.2))]))] (fun _ => ⟨by simp only, by simp only [List.length_set]⟩) <|
.guard [(rv4.2.1.set (0 + ((IntKind.i64.wrap (a1 - 1))).toNat) (⟨(rv4.2.1.getD (0 + ((IntKind.i64.wrap (a1 - 1))).toNat) default).Number, (rv4.2.1.getD (0 + ((IntKind.i64.wrap (a1 - 1))).toNat) default).Reservation, (rv4.2.1.getD (0 + ((IntKind.i64.wrap (a1 - 1))).toNat) default).Day, (rv4.2.1.getD (0 + ((IntKind.i64.wrap (a1 - 1))).toNat) default).Amount, (IntKind.i64.wrap (((rv4.2.1.getD (0 + ((IntKind.i64.wrap (a1 - 1))).toNat) default).Released) + a2)), (rv4.2.1.getD (0 + ((IntKind.i64.wrap (a1 - 1))).toNat) default).Payee, (rv4.2.1.getD (0 + ((IntKind.i64.wrap (a1 - 1))).toNat) default).Due⟩ : TApiCommitment)).length < 2 ^ 63] <|
.reg 11 [] [] [] <|
.frz 5 (.ev 0) none [] [1, 8] <|
.ret [] ((⟨rv4.1, (rv4.2.1.set (0 + ((IntKind.i64.wrap (a1 - 1))).toNat) (⟨(rv4.2.1.getD (0 + ((IntKind.i64.wrap (a1 - 1))).toNat) default).Number, (rv4.2.1.getD (0 + ((IntKind.i64.wrap (a1 - 1))).toNat) default).Reservation, (rv4.2.1.getD (0 + ((IntKind.i64.wrap (a1 - 1))).toNat) default).Day, (rv4.2.1.getD (0 + ((IntKind.i64.wrap (a1 - 1))).toNat) default).Amount, (IntKind.i64.wrap (((rv4.2.1.getD (0 + ((IntKind.i64.wrap (a1 - 1))).toNat) default).Released) + a2)), (rv4.2.1.getD (0 + ((IntKind.i64.wrap (a1 - 1))).toNat) default).Payee, (rv4.2.1.getD (0 + ((IntKind.i64.wrap (a1 - 1))).toNat) default).Due⟩ : TApiCommitment)), rv4.2.2.1, rv4.2.2.2⟩ : TApiBook), 0)))))
def F_r14_Drop (a0 : TApiBook) (a1 : Int) (a2 : Int) : Option R_r14_Drop := (S_r14_Drop a0 a1 a2).den
set_option maxRecDepth 100000 in
theorem F_r14_Drop_ok {a0 : TApiBook} {a1 : Int} {a2 : Int} (r : R_r14_Drop) (h : F_r14_Drop a0 a1 a2 = some r) : CallOk Tryz.prog 56 [(AV.d (TApiBook.e a0)), (vi a1), (vi a2)] [] (V_r14_Drop r) (L_r14_Drop r) := fOk (s := S_r14_Drop a0 a1 a2) Tryz.func56 rfl (by kernel_rfl) h
/-! 57 -/
abbrev R_r14_Back := TApiBook × Int
def V_r14_Back (x : R_r14_Back) : AV := (AV.tup [(AV.d (TApiBook.e x.1)), (vi x.2)])
def L_r14_Back (_ : R_r14_Back) : List Ob := []
def S_r14_Back (a0 : TApiBook) (a1 : Int) : Scr Tryz.prog R_r14_Back R_r14_Back :=
.reg 0 [] [(1, { obs := [(1, (bx (TApiBook.e (⟨[], [], [], []⟩ : TApiBook))))] })] [.pf cz3] <|
.call (@F_r14_Valid_ok a0) fun rv1 cv1 =>
.reg 1 [] [(1, hc cv1 [] true)] [.cl 0 cv1 [] 2 true] <|
.ite (!rv1) (
.reg 2 [] [(0, hv (AV.d (TApiBook.e (⟨[], [], [], []⟩ : TApiBook))))] [.pf cz4] <|
.ret [] ((⟨[], [], [], []⟩ : TApiBook), 1)) (
.ite (bif (decide (a1 < 1)) then true else (decide (a1 > (a0.Verifications.length : Int)))) (
.reg 4 [] [(0, hv (AV.d (TApiBook.e (⟨[], [], [], []⟩ : TApiBook))))] [.pf cz4] <|
.ret [] ((⟨[], [], [], []⟩ : TApiBook), 6)) (
.call (@F_r14_last_ok a0 a1) fun rv2 cv2 =>
.reg 5 [] [(2, hc cv2 [] true)] [.cl 0 cv2 [] 2 true] <|
.ite (bif (rv2.2 == 0) then true else rv2.1.Back) (
.reg 7 [] [(0, hv (AV.d (TApiBook.e (⟨[], [], [], []⟩ : TApiBook))))] [.pf cz4] <|
.ret [] ((⟨[], [], [], []⟩ : TApiBook), 9)) (
.call (@F_r14_copied_rw_ok a0) fun rv3 cv3 =>
.reg 8 [] [(1, hc cv3 [] false), (2, { obs := [(9, (bx (TApiBook.e (⟨[], [], [], []⟩ : TApiBook))))] })] [.cl 0 cv3 [] 3 false, .pf cz3] <|
.kill 4 <|
.guard [rv3.1.length < 2 ^ 63] <|
.frz 5 (.ev 0) none [] [9] <|
.guard [rv3.2.1.length < 2 ^ 63] <|
.frz 6 (.ev 0) none [] [9] <|
.guard [rv3.2.2.1.length < 2 ^ 63] <|
.frz 7 (.ev 0) none [] [9] <|
.guard [(0 : Int) ≤ (IntKind.i64.wrap (rv2.1.Number - 1)), ((IntKind.i64.wrap (rv2.1.Number - 1))).toNat < rv3.2.2.2.length, (0 + ((IntKind.i64.wrap (rv2.1.Number - 1))).toNat) < rv3.2.2.2.length] <|
.reg 9 [] [(7, { obs := [(8, (eS 5 TApiOrder.e (rv3.2.2.2.set (0 + ((IntKind.i64.wrap (rv2.1.Number - 1))).toNat) (⟨(rv3.2.2.2.getD (0 + ((IntKind.i64.wrap (rv2.1.Number - 1))).toNat) default).Number, (rv3.2.2.2.getD (0 + ((IntKind.i64.wrap (rv2.1.Number - 1))).toNat) default).Verification, (rv3.2.2.2.getD (0 + ((IntKind.i64.wrap (rv2.1.Number - 1))).toNat) default).Attempt, (rv3.2.2.2.getD (0 + ((IntKind.i64.wrap (rv2.1.Number - 1))).toNat) default).Day, true⟩ : TApiOrder))))] })] [.pf (Eq.refl rv3.2.2.2.length), .ev 0, .ev 1, .pf (Eq.refl rv3.2.2.2.length), .pf (Eq.refl rv3.2.2.2.length), .ev 2, .pf (oLe_set (sz := 5) (e := TApiOrder.e) (l := rv3.2.2.2) (i := (0 + ((IntKind.i64.wrap (rv2.1.Number - 1))).toNat)) (x := (⟨(rv3.2.2.2.getD (0 + ((IntKind.i64.wrap (rv2.1.Number - 1))).toNat) default).Number, (rv3.2.2.2.getD (0 + ((IntKind.i64.wrap (rv2.1.Number - 1))).toNat) default).Verification, (rv3.2.2.2.getD (0 + ((IntKind.i64.wrap (rv2.1.Number - 1))).toNat) default).Attempt, (rv3.2.2.2.getD (0 + ((IntKind.i64.wrap (rv2.1.Number - 1))).toNat) default).Day, true⟩ : TApiOrder)) (fun _ => rfl))] <|
.cst (A := True) (.pf trivial) [(4, (vp 1)), (8, (vp 9))] [(4, (vp 1)), (8, (vp 9))] [(bx (TApiBook.e a0)), (bx (TApiBook.e (⟨[], [], [], []⟩ : TApiBook))), (bx (TApiOrder.e rv2.1)), Ob.dead, Ob.dead, Ob.dead, Ob.dead, Ob.dead, (eS 5 TApiOrder.e (rv3.2.2.2.set (0 + ((IntKind.i64.wrap (rv2.1.Number - 1))).toNat) (⟨(rv3.2.2.2.getD (0 + ((IntKind.i64.wrap (rv2.1.Number - 1))).toNat) default).Number, (rv3.2.2.2.getD (0 + ((IntKind.i64.wrap (rv2.1.Number - 1))).toNat) default).Verification, (rv3.2.2.2.getD (0 + ((IntKind.i64.wrap (rv2.1.Number - 1))).toNat) default).Attempt, (rv3.2.2.2.getD (0 + ((IntKind.i64.wrap (rv2.1.Number - 1))).toNat) default).Day, true⟩ : TApiOrder))), (Ob.box (AV.agg [(AV.d (eL TApiReservation.e rv3.1)), (AV.d (eL TApiCommitment.e rv3.2.1)), (AV.d (eL TApiVerification.e rv3.2.2.1)), (AV.ref 8 rv3.2.2.2.length 0 rv3.2.2.2.length)]))] [(bx (TApiBook.e a0)), (bx (TApiBook.e (⟨[], [], [], []⟩ : TApiBook))), (bx (TApiOrder.e rv2.1)), Ob.dead, Ob.dead, Ob.dead, Ob.dead, Ob.dead, (eS 5 TApiOrder.e (rv3.2.2.2.set (0 + ((IntKind.i64.wrap (rv2.1.Number - 1))).toNat) (⟨(rv3.2.2.2.getD (0 + ((IntKind.i64.wrap (rv2.1.Number - 1))).toNat) default).Number, (rv3.2.2.2.getD (0 + ((IntKind.i64.wrap (rv2.1.Number - 1))).toNat) default).Verification, (rv3.2.2.2.getD (0 + ((IntKind.i64.wrap (rv2.1.Number - 1))).toNat) default).Attempt, (rv3.2.2.2.getD (0 + ((IntKind.i64.wrap (rv2.1.Number - 1))).toNat) default).Day, true⟩ : TApiOrder))), (Ob.box (AV.agg [(AV.d (eL TApiReservation.e rv3.1)), (AV.d (eL TApiCommitment.e rv3.2.1)), (AV.d (eL TApiVerification.e rv3.2.2.1)), (AV.ref 8 ((rv3.2.2.2.set (0 + ((IntKind.i64.wrap (rv2.1.Number - 1))).toNat) (⟨(rv3.2.2.2.getD (0 + ((IntKind.i64.wrap (rv2.1.Number - 1))).toNat) default).Number, (rv3.2.2.2.getD (0 + ((IntKind.i64.wrap (rv2.1.Number - 1))).toNat) default).Verification, (rv3.2.2.2.getD (0 + ((IntKind.i64.wrap (rv2.1.Number - 1))).toNat) default).Attempt, (rv3.2.2.2.getD (0 + ((IntKind.i64.wrap (rv2.1.Number - 1))).toNat) default).Day, true⟩ : TApiOrder)).length) 0 ((rv3.2.2.2.set (0 + ((IntKind.i64.wrap (rv2.1.Number - 1))).toNat) (⟨(rv3.2.2.2.getD (0 + ((IntKind.i64.wrap (rv2.1.Number - 1))).toNat) default).Number, (rv3.2.2.2.getD (0 + ((IntKind.i64.wrap (rv2.1.Number - 1))).toNat) default).Verification, (rv3.2.2.2.getD (0 + ((IntKind.i64.wrap (rv2.1.Number - 1))).toNat) default).Attempt, (rv3.2.2.2.getD (0 + ((IntKind.i64.wrap (rv2.1.Number - 1))).toNat) default).Day, true⟩ : TApiOrder)).length))]))] (fun _ => ⟨by simp only, by simp only [List.length_set]⟩) <|
.guard [(rv3.2.2.2.set (0 + ((IntKind.i64.wrap (rv2.1.Number - 1))).toNat) (⟨(rv3.2.2.2.getD (0 + ((IntKind.i64.wrap (rv2.1.Number - 1))).toNat) default).Number, (rv3.2.2.2.getD (0 + ((IntKind.i64.wrap (rv2.1.Number - 1))).toNat) default).Verification, (rv3.2.2.2.getD (0 + ((IntKind.i64.wrap (rv2.1.Number - 1))).toNat) default).Attempt, (rv3.2.2.2.getD (0 + ((IntKind.i64.wrap (rv2.1.Number - 1))).toNat) default).Day, true⟩ : TApiOrder)).length < 2 ^ 63] <|
.reg 10 [] [] [] <|
.frz 8 (.ev 0) none [] [1, 9] <|
.ret [] ((⟨rv3.1, rv3.2.1, rv3.2.2.1, (rv3.2.2.2.set (0 + ((IntKind.i64.wrap (rv2.1.Number - 1))).toNat) (⟨(rv3.2.2.2.getD (0 + ((IntKind.i64.wrap (rv2.1.Number - 1))).toNat) default).Number, (rv3.2.2.2.getD (0 + ((IntKind.i64.wrap (rv2.1.Number - 1))).toNat) default).Verification, (rv3.2.2.2.getD (0 + ((IntKind.i64.wrap (rv2.1.Number - 1))).toNat) default).Attempt, (rv3.2.2.2.getD (0 + ((IntKind.i64.wrap (rv2.1.Number - 1))).toNat) default).Day, true⟩ : TApiOrder))⟩ : TApiBook), 0))))
def F_r14_Back (a0 : TApiBook) (a1 : Int) : Option R_r14_Back := (S_r14_Back a0 a1).den
set_option maxRecDepth 100000 in
theorem F_r14_Back_ok {a0 : TApiBook} {a1 : Int} (r : R_r14_Back) (h : F_r14_Back a0 a1 = some r) : CallOk Tryz.prog 57 [(AV.d (TApiBook.e a0)), (vi a1)] [] (V_r14_Back r) (L_r14_Back r) := fOk (s := S_r14_Back a0 a1) Tryz.func57 rfl (by kernel_rfl) h
/-! 104 -/
abbrev R_r13_Learn := TApiRight × Int
def V_r13_Learn (x : R_r13_Learn) : AV := (AV.tup [(AV.d (TApiRight.e x.1)), (vi x.2)])
def L_r13_Learn (_ : R_r13_Learn) : List Ob := []
def S_r13_Learn (a0 : TApiRight) (a1 : TApiMessage) : Scr Tryz.prog R_r13_Learn R_r13_Learn :=
.call (@F_r13_Right_ok a0) fun rv1 cv1 =>
.reg 1 [] [(1, hc cv1 [] true)] [.cl 0 cv1 [] 3 true] <|
.ite (bif (bif (bif (!rv1) then true else (a1.From != 0)) then true else (!(a1.Code == a0.Code))) then true else (a1.Year != a0.Year)) (
.ret [] ((⟨[], 0, 0, 0, 0⟩ : TApiRight), 1)) (
.call (@F_r13_total_ok a1.Granted) fun rv2 cv2 =>
.calld [(!rv2) = false] default (@F_r13_total_ok a1.Asked) fun rv3 cv3 =>
.reg 3 [] [(2, hc cv2 [] true), (7, hc cv3 [] true)] [.cl 2 cv2 [] 3 true, .clg 0 [(!rv2) = false] cv3 [] 3 true] <|
.ite (bif (!rv2) then true else (!rv3)) (
.ret [] ((⟨[], 0, 0, 0, 0⟩ : TApiRight), 2)) (
.reg 5 [11, 13] [] [] <|
.ret [] ((⟨a0.Code, a0.Year, (if a1.Granted > a0.Granted then a1.Granted else a0.Granted), (if a1.Asked > a0.Asked then a1.Asked else a0.Asked), a0.Returned⟩ : TApiRight), 0)))
def F_r13_Learn (a0 : TApiRight) (a1 : TApiMessage) : Option R_r13_Learn := (S_r13_Learn a0 a1).den
set_option maxRecDepth 100000 in
theorem F_r13_Learn_ok {a0 : TApiRight} {a1 : TApiMessage} (r : R_r13_Learn) (h : F_r13_Learn a0 a1 = some r) : CallOk Tryz.prog 104 [(AV.d (TApiRight.e a0)), (AV.d (TApiMessage.e a1))] [] (V_r13_Learn r) (L_r13_Learn r) := fOk (s := S_r13_Learn a0 a1) Tryz.func104 rfl (by kernel_rfl) h
end
end Go.Proofs.YtbjbpoighbanfaaGreatDoor
/- What the functions compute, and that their calls return it. No condition. -/
namespace Go.Proofs.YtbjbpoighbanfaaGreatDoor
open Go Go.TA
noncomputable section
/-! 58 -/
theorem cz10 : ∀ k, k < 1 → (AV.d (TApiRight.e (([(⟨[], 0, 0, 0, 0⟩ : TApiRight)] : List TApiRight).getD k default))).wd = 5 := fun _ _ => rfl
abbrev R_r15_hear := TApiOffice × Int
def V_r15_hear (x : R_r15_hear) : AV := (AV.tup [(AV.d (TApiOffice.e x.1)), (vi x.2)])
def L_r15_hear (_ : R_r15_hear) : List Ob := []
def S_r15_hear_b1 (a0 : TApiOffice) (rv1 : R_r13_Learn) (sv2 : Int) : Scr Tryz.prog R_r15_hear (Step (Int) R_r15_hear) :=
.ite (decide (sv2 < (a0.Rights.length : Int))) (
.call (@F_r03_Compare_ok ((a0.Rights.getD (0 + (sv2).toNat) default).Code) rv1.1.Code) fun rv3 cv3 =>
.guard [(0 : Int) ≤ sv2, (sv2).toNat < a0.Rights.length, (0 + (sv2).toNat) < a0.Rights.length] <|
.reg 15 [] [(7, hc cv3 [] true)] [.pf (Eq.refl a0.Rights.length), .ev 0, .ev 1, .pf (Eq.refl a0.Rights.length), .pf (Eq.refl a0.Rights.length), .ev 2, .cl 3 cv3 [] 5 true] <|
.guard [AllP [(rv3 == 0) = true, (decide (rv3 > 0)) = false] → ((0 : Int) ≤ sv2), AllP [(rv3 == 0) = true, (decide (rv3 > 0)) = false] → ((sv2).toNat < a0.Rights.length), AllP [(rv3 == 0) = true, (decide (rv3 > 0)) = false] → ((0 + (sv2).toNat) < a0.Rights.length)] <|
.reg 16 [] [] [.pf (p := AllP [(rv3 == 0) = true, (decide (rv3 > 0)) = false] → (a0.Rights.length = a0.Rights.length)) (fun _ => rfl), .ev 0, .ev 1, .pf (p := AllP [(rv3 == 0) = true, (decide (rv3 > 0)) = false] → (a0.Rights.length = a0.Rights.length)) (fun _ => rfl), .pf (p := AllP [(rv3 == 0) = true, (decide (rv3 > 0)) = false] → (a0.Rights.length = a0.Rights.length)) (fun _ => rfl), .ev 2] <|
.ite (bif (decide (rv3 > 0)) then true else (bif (rv3 == 0) then (decide (((a0.Rights.getD (0 + (sv2).toNat) default).Year) > rv1.1.Year)) else false)) (
.ret [] (.brk sv2)) (
.ret [] (.cont (IntKind.i64.wrap (sv2 + 1))))) (
.ret [] (.brk sv2))
def S_r15_hear (a0 : TApiOffice) (a1 : TApiOp) : Scr Tryz.prog R_r15_hear R_r15_hear :=
.reg 0 [] [(2, { obs := [(2, (bx (TApiOffice.e (⟨0, [], (⟨[], [], [], []⟩ : TApiBook)⟩ : TApiOffice))))] })] [.pf cz1] <|
.call (@F_r03_Good_ok a1.Code) fun rv4 cv4 =>
.reg 1 [] [(2, hc cv4 [] true)] [.cl 0 cv4 [] 3 true] <|
.ite (!rv4) (
.reg 2 [] [(0, hv (AV.d (TApiOffice.e (⟨0, [], (⟨[], [], [], []⟩ : TApiBook)⟩ : TApiOffice))))] [.pf cz2] <|
.ret [] ((⟨0, [], (⟨[], [], [], []⟩ : TApiBook)⟩ : TApiOffice), 5)) (
.ite (bif (decide (a1.Year < 0)) then true else (decide (a1.Year > 99))) (
.reg 4 [] [(0, hv (AV.d (TApiOffice.e (⟨0, [], (⟨[], [], [], []⟩ : TApiBook)⟩ : TApiOffice))))] [.pf cz2] <|
.ret [] ((⟨0, [], (⟨[], [], [], []⟩ : TApiBook)⟩ : TApiOffice), 2)) (
.call (@F_r15_at_ok a0 a1.Code a1.Year) fun rv5 cv5 =>
.reg 5 [] [(5, hc cv5 [] true)] [.cl 0 cv5 [] 3 true] <|
.ite (bif (decide (rv5 < 0)) then ((a0.Rights.length : Int) == 60) else false) (
.reg 7 [] [(0, hv (AV.d (TApiOffice.e (⟨0, [], (⟨[], [], [], []⟩ : TApiBook)⟩ : TApiOffice))))] [.pf cz2] <|
.ret [] ((⟨0, [], (⟨[], [], [], []⟩ : TApiBook)⟩ : TApiOffice), 3)) (
.call (@F_r15_Right_ok a0 a1.Code a1.Year) fun rv6 cv6 =>
.call (@F_r13_Learn_ok rv6 (⟨0, 0, a1.Code, a1.Year, a1.Granted, a1.AskedBack, 0, 0⟩ : TApiMessage)) fun rv1 cv1 =>
.reg 8 [19, 20] [(5, hc cv6 [] true), (15, hc cv1 [] true)] [.cl 1 cv6 [] 3 true, .cl 1 cv6 [] 4 true, .cl 0 cv1 [] 3 true, .cl 0 cv1 [] 4 true] <|
.ite (rv1.2 != 0) (
.reg 10 [] [(0, hv (AV.d (TApiOffice.e (⟨0, [], (⟨[], [], [], []⟩ : TApiBook)⟩ : TApiOffice))))] [.pf cz2] <|
.ret [] ((⟨0, [], (⟨[], [], [], []⟩ : TApiBook)⟩ : TApiOffice), rv1.2)) (
.guard [a0.Rights.length * (2 * 48) ≤ 2 ^ 48] <|
.reg 11 [] [(3, { h := .obj })] [.pf (p := ∀ k, k < a0.Rights.length → (AV.d (TApiRight.e (a0.Rights.getD k default))).wd = 5) (fun _ _ => rfl), .ev 0] <|
.cut none [2, 4, 7] (fun (sv7 : (List TApiRight) × Int) => [(6, (vi sv7.2)), (9, (AV.ref 4 sv7.1.length 0 sv7.1.length))]) (fun (sv7 : (List TApiRight) × Int) => [(4, (eS 5 TApiRight.e sv7.1))]) (
.ite (decide (rv5 < 0)) (
.iter [2, 4, 7, 9] (fun (sv2 : Int) => [(6, (vi sv2))]) (fun (_ : Int) => []) 0 (S_r15_hear_b1 a0 rv1) (fun (sv2 : Int) =>
.guard [(a0.Rights.length + 1) * (2 * 48) ≤ 2 ^ 48] <|
.reg 18 [] [(2, hv (AV.d (eL TApiRight.e ([(⟨[], 0, 0, 0, 0⟩ : TApiRight)] : List TApiRight)))), (3, { h := .obj, cast := some (AV.ref 4 ((a0.Rights ++ ([(⟨[], 0, 0, 0, 0⟩ : TApiRight)] : List TApiRight)).length) 0 ((a0.Rights ++ ([(⟨[], 0, 0, 0, 0⟩ : TApiRight)] : List TApiRight)).length)), obs := [(4, (eS 5 TApiRight.e (a0.Rights ++ ([(⟨[], 0, 0, 0, 0⟩ : TApiRight)] : List TApiRight))))] })] [.pf (leV_lit TApiRight.e ([(⟨[], 0, 0, 0, 0⟩ : TApiRight)] : List TApiRight)), .pf (Eq.refl a0.Rights.length), .pf (Eq.refl a0.Rights.length), .pf cz10, .ev 0, .pf (leV_app (o := 4) (l := a0.Rights) (x := ([(⟨[], 0, 0, 0, 0⟩ : TApiRight)] : List TApiRight))), .pf (oLe_app (sz := 5) (e := TApiRight.e) (l := a0.Rights) (x := ([(⟨[], 0, 0, 0, 0⟩ : TApiRight)] : List TApiRight)))] <|
.guard [(0 : Int) ≤ (IntKind.i64.wrap (sv2 + 1)), ((IntKind.i64.wrap (sv2 + 1))).toNat ≤ (a0.Rights ++ ([(⟨[], 0, 0, 0, 0⟩ : TApiRight)] : List TApiRight)).length, (0 : Int) ≤ sv2, (sv2).toNat ≤ (a0.Rights ++ ([(⟨[], 0, 0, 0, 0⟩ : TApiRight)] : List TApiRight)).length] <|
.reg 19 [7] [(7, { obs := [(4, (eS 5 TApiRight.e (copyL (a0.Rights ++ ([(⟨[], 0, 0, 0, 0⟩ : TApiRight)] : List TApiRight)) (0 + ((IntKind.i64.wrap (sv2 + 1))).toNat) (min ((a0.Rights ++ ([(⟨[], 0, 0, 0, 0⟩ : TApiRight)] : List TApiRight)).length - (sv2).toNat) ((a0.Rights ++ ([(⟨[], 0, 0, 0, 0⟩ : TApiRight)] : List TApiRight)).length - ((IntKind.i64.wrap (sv2 + 1))).toNat)) (fun i => ((a0.Rights ++ ([(⟨[], 0, 0, 0, 0⟩ : TApiRight)] : List TApiRight)).getD ((0 + (sv2).toNat) + i) default)))))] })] [.ev 0, .ev 1, .pf (Eq.refl ((a0.Rights ++ ([(⟨[], 0, 0, 0, 0⟩ : TApiRight)] : List TApiRight)).length)), .ev 2, .ev 3, .pf (Eq.refl ((a0.Rights ++ ([(⟨[], 0, 0, 0, 0⟩ : TApiRight)] : List TApiRight)).length)), .pf (Eq.refl ((a0.Rights ++ ([(⟨[], 0, 0, 0, 0⟩ : TApiRight)] : List TApiRight)).length)), .pf (Eq.refl ((a0.Rights ++ ([(⟨[], 0, 0, 0, 0⟩ : TApiRight)] : List TApiRight)).length)), .pf (p := ∀ k, k < ((a0.Rights ++ ([(⟨[], 0, 0, 0, 0⟩ : TApiRight)] : List TApiRight)).length - (sv2).toNat) → (AV.d (TApiRight.e ((a0.Rights ++ ([(⟨[], 0, 0, 0, 0⟩ : TApiRight)] : List TApiRight)).getD ((0 + (sv2).toNat) + k) default))).wd = 5) (fun _ _ => rfl), .pf (oLe_copy (sz := 5) (e := TApiRight.e) (l := (a0.Rights ++ ([(⟨[], 0, 0, 0, 0⟩ : TApiRight)] : List TApiRight))) (off := (0 + ((IntKind.i64.wrap (sv2 + 1))).toNat)) (k := (min ((a0.Rights ++ ([(⟨[], 0, 0, 0, 0⟩ : TApiRight)] : List TApiRight)).length - (sv2).toNat) ((a0.Rights ++ ([(⟨[], 0, 0, 0, 0⟩ : TApiRight)] : List TApiRight)).length - ((IntKind.i64.wrap (sv2 + 1))).toNat))) (s := (fun i => ((a0.Rights ++ ([(⟨[], 0, 0, 0, 0⟩ : TApiRight)] : List TApiRight)).getD ((0 + (sv2).toNat) + i) default))))] <|
.cst (A := True) (.pf trivial) [(2, (vp 0)), (4, (vp 2)), (6, (vi sv2)), (7, (vp 3)), (9, (AV.ref 4 ((a0.Rights ++ ([(⟨[], 0, 0, 0, 0⟩ : TApiRight)] : List TApiRight)).length) 0 ((a0.Rights ++ ([(⟨[], 0, 0, 0, 0⟩ : TApiRight)] : List TApiRight)).length)))] [(2, (vp 0)), (4, (vp 2)), (6, (vi sv2)), (7, (vp 3)), (9, (AV.ref 4 ((copyL (a0.Rights ++ ([(⟨[], 0, 0, 0, 0⟩ : TApiRight)] : List TApiRight)) (0 + ((IntKind.i64.wrap (sv2 + 1))).toNat) (min ((a0.Rights ++ ([(⟨[], 0, 0, 0, 0⟩ : TApiRight)] : List TApiRight)).length - (sv2).toNat) ((a0.Rights ++ ([(⟨[], 0, 0, 0, 0⟩ : TApiRight)] : List TApiRight)).length - ((IntKind.i64.wrap (sv2 + 1))).toNat)) (fun i => ((a0.Rights ++ ([(⟨[], 0, 0, 0, 0⟩ : TApiRight)] : List TApiRight)).getD ((0 + (sv2).toNat) + i) default))).length) 0 ((copyL (a0.Rights ++ ([(⟨[], 0, 0, 0, 0⟩ : TApiRight)] : List TApiRight)) (0 + ((IntKind.i64.wrap (sv2 + 1))).toNat) (min ((a0.Rights ++ ([(⟨[], 0, 0, 0, 0⟩ : TApiRight)] : List TApiRight)).length - (sv2).toNat) ((a0.Rights ++ ([(⟨[], 0, 0, 0, 0⟩ : TApiRight)] : List TApiRight)).length - ((IntKind.i64.wrap (sv2 + 1))).toNat)) (fun i => ((a0.Rights ++ ([(⟨[], 0, 0, 0, 0⟩ : TApiRight)] : List TApiRight)).getD ((0 + (sv2).toNat) + i) default))).length)))] [(bx (TApiOffice.e a0)), (bx (TApiOp.e a1)), (bx (TApiOffice.e (⟨0, [], (⟨[], [], [], []⟩ : TApiBook)⟩ : TApiOffice))), (bx (TApiRight.e rv1.1)), (eS 5 TApiRight.e (copyL (a0.Rights ++ ([(⟨[], 0, 0, 0, 0⟩ : TApiRight)] : List TApiRight)) (0 + ((IntKind.i64.wrap (sv2 + 1))).toNat) (min ((a0.Rights ++ ([(⟨[], 0, 0, 0, 0⟩ : TApiRight)] : List TApiRight)).length - (sv2).toNat) ((a0.Rights ++ ([(⟨[], 0, 0, 0, 0⟩ : TApiRight)] : List TApiRight)).length - ((IntKind.i64.wrap (sv2 + 1))).toNat)) (fun i => ((a0.Rights ++ ([(⟨[], 0, 0, 0, 0⟩ : TApiRight)] : List TApiRight)).getD ((0 + (sv2).toNat) + i) default))))] [(bx (TApiOffice.e a0)), (bx (TApiOp.e a1)), (bx (TApiOffice.e (⟨0, [], (⟨[], [], [], []⟩ : TApiBook)⟩ : TApiOffice))), (bx (TApiRight.e rv1.1)), (eS 5 TApiRight.e (copyL (a0.Rights ++ ([(⟨[], 0, 0, 0, 0⟩ : TApiRight)] : List TApiRight)) (0 + ((IntKind.i64.wrap (sv2 + 1))).toNat) (min ((a0.Rights ++ ([(⟨[], 0, 0, 0, 0⟩ : TApiRight)] : List TApiRight)).length - (sv2).toNat) ((a0.Rights ++ ([(⟨[], 0, 0, 0, 0⟩ : TApiRight)] : List TApiRight)).length - ((IntKind.i64.wrap (sv2 + 1))).toNat)) (fun i => ((a0.Rights ++ ([(⟨[], 0, 0, 0, 0⟩ : TApiRight)] : List TApiRight)).getD ((0 + (sv2).toNat) + i) default))))] (fun _ => ⟨by simp only [copyL_length], by rfl⟩) <|
.ret [] (.next ((copyL (a0.Rights ++ ([(⟨[], 0, 0, 0, 0⟩ : TApiRight)] : List TApiRight)) (0 + ((IntKind.i64.wrap (sv2 + 1))).toNat) (min ((a0.Rights ++ ([(⟨[], 0, 0, 0, 0⟩ : TApiRight)] : List TApiRight)).length - (sv2).toNat) ((a0.Rights ++ ([(⟨[], 0, 0, 0, 0⟩ : TApiRight)] : List TApiRight)).length - ((IntKind.i64.wrap (sv2 + 1))).toNat)) (fun i => ((a0.Rights ++ ([(⟨[], 0, 0, 0, 0⟩ : TApiRight)] : List TApiRight)).getD ((0 + (sv2).toNat) + i) default))), sv2))) .ret) (
.ret [] (.next (a0.Rights, rv5)))) fun (sv7 : (List TApiRight) × Int) =>
.guard [(0 : Int) ≤ sv7.2, (sv7.2).toNat < sv7.1.length, (0 + (sv7.2).toNat) < sv7.1.length] <|
.reg 20 [] [(4, { obs := [(4, (eS 5 TApiRight.e (sv7.1.set (0 + (sv7.2).toNat) rv1.1)))] })] [.pf (Eq.refl sv7.1.length), .ev 0, .ev 1, .pf (Eq.refl sv7.1.length), .ev 2, .pf (oLe_set (sz := 5) (e := TApiRight.e) (l := sv7.1) (i := (0 + (sv7.2).toNat)) (x := rv1.1) (fun _ => rfl))] <|
.cst (A := True) (.pf trivial) [(2, (vp 0)), (4, (vp 2)), (9, (AV.ref 4 sv7.1.length 0 sv7.1.length))] [(2, (vp 0)), (4, (vp 2)), (9, (AV.ref 4 ((sv7.1.set (0 + (sv7.2).toNat) rv1.1).length) 0 ((sv7.1.set (0 + (sv7.2).toNat) rv1.1).length)))] [(bx (TApiOffice.e a0)), (bx (TApiOp.e a1)), (bx (TApiOffice.e (⟨0, [], (⟨[], [], [], []⟩ : TApiBook)⟩ : TApiOffice))), (bx (TApiRight.e rv1.1)), (eS 5 TApiRight.e (sv7.1.set (0 + (sv7.2).toNat) rv1.1))] [(bx (TApiOffice.e a0)), (bx (TApiOp.e a1)), (bx (TApiOffice.e (⟨0, [], (⟨[], [], [], []⟩ : TApiBook)⟩ : TApiOffice))), (bx (TApiRight.e rv1.1)), (eS 5 TApiRight.e (sv7.1.set (0 + (sv7.2).toNat) rv1.1))] (fun _ => ⟨by simp only [List.length_set], by rfl⟩) <|
.guard [(sv7.1.set (0 + (sv7.2).toNat) rv1.1).length < 2 ^ 63] <|
.reg 22 [] [] [] <|
.frz 4 (.ev 0) none [] [0, 2] <|
.ret [] ((⟨a0.Number, (sv7.1.set (0 + (sv7.2).toNat) rv1.1), a0.Book⟩ : TApiOffice), 0)))))
def F_r15_hear (a0 : TApiOffice) (a1 : TApiOp) : Option R_r15_hear := (S_r15_hear a0 a1).den
set_option maxRecDepth 100000 in
theorem F_r15_hear_ok {a0 : TApiOffice} {a1 : TApiOp} (r : R_r15_hear) (h : F_r15_hear a0 a1 = some r) : CallOk Tryz.prog 58 [(AV.d (TApiOffice.e a0)), (AV.d (TApiOp.e a1))] [] (V_r15_hear r) (L_r15_hear r) := fOk (s := S_r15_hear a0 a1) Tryz.func58 rfl (by kernel_rfl) h
/-! 59 -/
abbrev R_r13_Return := TApiRight × Int
def V_r13_Return (x : R_r13_Return) : AV := (AV.tup [(AV.d (TApiRight.e x.1)), (vi x.2)])
def L_r13_Return (_ : R_r13_Return) : List Ob := []
def S_r13_Return (a0 : TApiRight) (a1 : Int) (a2 : Int) : Scr Tryz.prog R_r13_Return R_r13_Return :=
.call (@F_r13_Right_ok a0) fun rv1 cv1 =>
.reg 1 [] [(1, hc cv1 [] true)] [.cl 0 cv1 [] 2 true] <|
.ite (bif (bif (!rv1) then true else (decide (a1 < 0))) then true else (decide (a1 > (IntKind.i64.wrap (a0.Granted - a0.Returned))))) (
.ret [] ((⟨[], 0, 0, 0, 0⟩ : TApiRight), 1)) (
.ite (bif (decide (a2 < 1)) then true else (decide (a2 > 1000000000000000))) (
.ret [] ((⟨[], 0, 0, 0, 0⟩ : TApiRight), 2)) (
.ite (decide (a2 > (IntKind.i64.wrap ((IntKind.i64.wrap (a0.Granted - a0.Returned)) - a1)))) (
.ret [] ((⟨[], 0, 0, 0, 0⟩ : TApiRight), 15)) (
.ret [] ((⟨a0.Code, a0.Year, a0.Granted, a0.Asked, (IntKind.i64.wrap (a0.Returned + a2))⟩ : TApiRight), 0))))
def F_r13_Return (a0 : TApiRight) (a1 : Int) (a2 : Int) : Option R_r13_Return := (S_r13_Return a0 a1 a2).den
set_option maxRecDepth 100000 in
theorem F_r13_Return_ok {a0 : TApiRight} {a1 : Int} {a2 : Int} (r : R_r13_Return) (h : F_r13_Return a0 a1 a2 = some r) : CallOk Tryz.prog 59 [(AV.d (TApiRight.e a0)), (vi a1), (vi a2)] [] (V_r13_Return r) (L_r13_Return r) := fOk (s := S_r13_Return a0 a1 a2) Tryz.func59 rfl (by kernel_rfl) h
/-! 26 -/
abbrev R_r15_Do := TApiOffice × Int
def V_r15_Do (x : R_r15_Do) : AV := (AV.tup [(AV.d (TApiOffice.e x.1)), (vi x.2)])
def L_r15_Do (_ : R_r15_Do) : List Ob := []
def S_r15_Do (a0 : TApiOffice) (a1 : TApiOp) : Scr Tryz.prog R_r15_Do R_r15_Do :=
.reg 0 [] [(2, { obs := [(2, (bx (TApiOffice.e (⟨0, [], (⟨[], [], [], []⟩ : TApiBook)⟩ : TApiOffice))))] })] [.pf cz1] <|
.call (@F_r15_Valid_ok a0) fun rv1 cv1 =>
.reg 1 [] [(1, hc cv1 [] true)] [.cl 0 cv1 [] 3 true] <|
.ite (!rv1) (
.reg 2 [] [(0, hv (AV.d (TApiOffice.e (⟨0, [], (⟨[], [], [], []⟩ : TApiBook)⟩ : TApiOffice))))] [.pf cz2] <|
.ret [] ((⟨0, [], (⟨[], [], [], []⟩ : TApiBook)⟩ : TApiOffice), 1)) (
.reg 3 [] [(2, { obs := [(3, (bx (TApiBook.e (⟨[], [], [], []⟩ : TApiBook))))] })] [.pf cz3] <|
.cut (some 0) [2, 4, 6] (fun (sv2 : TApiBook × Int) => [(7, (vi sv2.2))]) (fun (sv2 : TApiBook × Int) => [(3, (bx (TApiBook.e sv2.1)))]) (
.ite (a1.Kind == 1) (
.call (@F_r14_Reserve_ok a0.Book a1.Code a1.Year a1.Day a1.Amount) fun rv3 cv3 =>
.reg 7 [] [(10, hc cv3 [] true)] [.cl 0 cv3 [] 4 true] <|
.calld [(rv3.2 == 0) = true] default (@F_r15_Unused_ok a0 a1.Code a1.Year) fun rv4 cv4 =>
.reg 8 [] [(10, hc cv4 [] true)] [.clg 0 [(rv3.2 == 0) = true] cv4 [] 4 true] <|
.ite (bif (rv3.2 == 0) then (decide (a1.Amount > rv4)) else false) (
.ret [] (.next (rv3.1, 15))) (
.ret [] (.next (rv3.1, rv3.2)))) (
.ite (a1.Kind == 2) (
.call (@F_r14_Commit_ok a0.Book a1.Of a1.Day a1.Amount a1.Payee a1.Due) fun rv5 cv5 =>
.reg 11 [] [(12, hc cv5 [] true)] [.cl 0 cv5 [] 4 true] <|
.ret [] (.next (rv5.1, rv5.2))) (
.ite (a1.Kind == 3) (
.call (@F_r14_Verify_ok a0.Book a1.Of a1.Day a1.Amount) fun rv6 cv6 =>
.reg 13 [] [(8, hc cv6 [] true)] [.cl 0 cv6 [] 4 true] <|
.ret [] (.next (rv6.1, rv6.2))) (
.ite (a1.Kind == 4) (
.call (@F_r14_Order_ok a0.Book a1.Of a1.Day) fun rv7 cv7 =>
.reg 15 [] [(6, hc cv7 [] true)] [.cl 0 cv7 [] 4 true] <|
.ret [] (.next (rv7.1, rv7.2))) (
.ite (a1.Kind == 5) (
.call (@F_r14_Release_ok a0.Book a1.Of a1.Amount) fun rv8 cv8 =>
.reg 17 [] [(6, hc cv8 [] true)] [.cl 0 cv8 [] 4 true] <|
.ret [] (.next (rv8.1, rv8.2))) (
.ite (a1.Kind == 6) (
.call (@F_r14_Drop_ok a0.Book a1.Of a1.Amount) fun rv9 cv9 =>
.reg 19 [] [(6, hc cv9 [] true)] [.cl 0 cv9 [] 4 true] <|
.ret [] (.next (rv9.1, rv9.2))) (
.ite (a1.Kind == 9) (
.call (@F_r14_Back_ok a0.Book a1.Of) fun rv10 cv10 =>
.reg 21 [] [(4, hc cv10 [] true)] [.cl 0 cv10 [] 4 true] <|
.ret [] (.next (rv10.1, rv10.2))) (
.ite (a1.Kind == 8) (
.call (@F_r15_hear_ok a0 a1) fun rv11 cv11 =>
.reg 23 [] [(2, hc cv11 [] true)] [.cl 0 cv11 [] 4 true] <|
.ret [] (.ret (rv11.1, rv11.2))) (
.ite (a1.Kind == 7) (
.call (@F_r15_at_ok a0 a1.Code a1.Year) fun rv12 cv12 =>
.reg 25 [] [(5, hc cv12 [] true)] [.cl 0 cv12 [] 4 true] <|
.ite (decide (rv12 < 0)) (
.reg 27 [] [(0, hv (AV.d (TApiOffice.e (⟨0, [], (⟨[], [], [], []⟩ : TApiBook)⟩ : TApiOffice))))] [.pf cz2] <|
.ret [] (.ret ((⟨0, [], (⟨[], [], [], []⟩ : TApiBook)⟩ : TApiOffice), 6))) (
.call (@F_r14_Used_ok a0.Book a1.Code a1.Year) fun rv13 cv13 =>
.call (@F_r13_Return_ok (a0.Rights.getD ((rv12).toNat) default) rv13 a1.Amount) fun rv14 cv14 =>
.guard [(0 : Int) ≤ rv12, (rv12).toNat < a0.Rights.length] <|
.reg 28 [18, 19] [(11, hc cv13 [] true), (14, hc cv14 [] true)] [.ev 0, .ev 1, .ev 0, .ev 1, .cl 3 cv13 [] 4 true, .cl 3 cv13 [] 5 true, .cl 2 cv14 [] 4 true, .cl 2 cv14 [] 5 true] <|
.ite (rv14.2 != 0) (
.reg 30 [] [(0, hv (AV.d (TApiOffice.e (⟨0, [], (⟨[], [], [], []⟩ : TApiBook)⟩ : TApiOffice))))] [.pf cz2] <|
.ret [] (.ret ((⟨0, [], (⟨[], [], [], []⟩ : TApiBook)⟩ : TApiOffice), rv14.2))) (
.guard [a0.Rights.length * (2 * 48) ≤ 2 ^ 48] <|
.reg 31 [] [(3, { h := .obj })] [.pf (p := ∀ k, k < a0.Rights.length → (AV.d (TApiRight.e (a0.Rights.getD k default))).wd = 5) (fun _ _ => rfl), .ev 0] <|
.guard [(0 + (rv12).toNat) < a0.Rights.length] <|
.reg 32 [] [(5, { obs := [(5, (eS 5 TApiRight.e (a0.Rights.set (0 + (rv12).toNat) rv14.1)))] })] [.pf (Eq.refl a0.Rights.length), .ev 3, .ev 4, .pf (Eq.refl a0.Rights.length), .ev 0, .pf (oLe_set (sz := 5) (e := TApiRight.e) (l := a0.Rights) (i := (0 + (rv12).toNat)) (x := rv14.1) (fun _ => rfl))] <|
.cst (A := True) (.pf trivial) [(2, (vp 0)), (4, (vp 2))] [(2, (vp 0)), (4, (vp 2))] [(Ob.box (AV.agg [(vi a0.Number), (AV.ref 5 a0.Rights.length 0 a0.Rights.length), (AV.d (TApiBook.e a0.Book))])), (bx (TApiOp.e a1)), (bx (TApiOffice.e (⟨0, [], (⟨[], [], [], []⟩ : TApiBook)⟩ : TApiOffice))), (bx (TApiBook.e a0.Book)), (bx (TApiRight.e rv14.1)), (eS 5 TApiRight.e (a0.Rights.set (0 + (rv12).toNat) rv14.1))] [(Ob.box (AV.agg [(vi a0.Number), (AV.ref 5 ((a0.Rights.set (0 + (rv12).toNat) rv14.1).length) 0 ((a0.Rights.set (0 + (rv12).toNat) rv14.1).length)), (AV.d (TApiBook.e a0.Book))])), (bx (TApiOp.e a1)), (bx (TApiOffice.e (⟨0, [], (⟨[], [], [], []⟩ : TApiBook)⟩ : TApiOffice))), (bx (TApiBook.e a0.Book)), (bx (TApiRight.e rv14.1)), (eS 5 TApiRight.e (a0.Rights.set (0 + (rv12).toNat) rv14.1))] (fun _ => ⟨by simp only, by simp only [List.length_set]⟩) <|
.guard [(a0.Rights.set (0 + (rv12).toNat) rv14.1).length < 2 ^ 63] <|
.reg 33 [] [] [] <|
.frz 5 (.ev 0) none [] [0, 2] <|
.ret [] (.ret ((⟨a0.Number, (a0.Rights.set (0 + (rv12).toNat) rv14.1), a0.Book⟩ : TApiOffice), 0))))) (
.ret [] (.next (a0.Book, 1)))))))))))) fun (sv2 : TApiBook × Int) =>
.ite (sv2.2 != 0) (
.reg 35 [] [(0, hv (AV.d (TApiOffice.e (⟨0, [], (⟨[], [], [], []⟩ : TApiBook)⟩ : TApiOffice))))] [.pf cz2] <|
.ret [] ((⟨0, [], (⟨[], [], [], []⟩ : TApiBook)⟩ : TApiOffice), sv2.2)) (
.ret [] ((⟨a0.Number, a0.Rights, sv2.1⟩ : TApiOffice), 0)))
def F_r15_Do (a0 : TApiOffice) (a1 : TApiOp) : Option R_r15_Do := (S_r15_Do a0 a1).den
set_option maxRecDepth 100000 in
theorem F_r15_Do_ok {a0 : TApiOffice} {a1 : TApiOp} (r : R_r15_Do) (h : F_r15_Do a0 a1 = some r) : CallOk Tryz.prog 26 [(AV.d (TApiOffice.e a0)), (AV.d (TApiOp.e a1))] [] (V_r15_Do r) (L_r15_Do r) := fOk (s := S_r15_Do a0 a1) Tryz.func26 rfl (by kernel_rfl) h
/-! 18 -/
abbrev R_mk_Office := TApiOffice × TTape
def V_mk_Office (x : R_mk_Office) : AV := (AV.d (TApiOffice.e x.1))
def L_mk_Office (x : R_mk_Office) : List Ob := [(bx (TTape.e x.2))]
def S_mk_Office_b1 (sv1 : TTape × TApiOffice × Int) : Scr Tryz.prog R_mk_Office (Step (TTape × TApiOffice × Int) R_mk_Office) :=
.ite (decide (sv1.2.2 < 2)) (
.call (@F_mk_Tape_N_ok 800 sv1.1) fun rv2 cv2 =>
.call (@F_mk_Tape_Pick_ok ([300, rv2.1] : List Int) rv2.2) fun rv3 cv3 =>
.call (@F_r15_Do_ok sv1.2.1 (⟨8, (([[49], [50]] : List (List UInt8)).getD ((sv1.2.2).toNat) default), 12, 0, 0, 0, 0, 0, rv3.1, 0⟩ : TApiOp)) fun rv4 cv4 =>
.guard [(0 : Int) ≤ sv1.2.2, (sv1.2.2).toNat < 2] <|
.reg 6 [7, 9, 15] [(1, hv (AV.d (eL DV.str ([[49], [50]] : List (List UInt8))))), (7, hc cv2 [0] false), (8, hv (vl ([300, rv2.1] : List Int))), (9, hc cv3 [0] false), (11, hc cv4 [] true)] [.pf (leV_lit DV.str ([[49], [50]] : List (List UInt8))), .pf (leV_lit DV.str ([[49], [50]] : List (List UInt8))), .pf (leV_lit DV.str ([[49], [50]] : List (List UInt8))), .ev 0, .ev 1, .ev 0, .ev 1, .ev 0, .ev 1, .cl 4 cv2 [0] 3 false, .pf (leV_lit (DV.i .i64) ([300, rv2.1] : List Int)), .cl 3 cv3 [0] 3 false, .cl 2 cv4 [] 3 true] <|
.ret [] (.cont (rv3.2, rv4.1, (IntKind.i64.wrap (sv1.2.2 + 1))))) (
.ret [] (.brk (sv1.1, sv1.2.1, sv1.2.2)))
def S_mk_Office_b2 (sv5 : TTape × TApiOffice × Int × Int) : Scr Tryz.prog R_mk_Office (Step (TTape × TApiOffice × Int × Int) R_mk_Office) :=
.ite (decide (sv5.2.2.2 > 0)) (
.call (@F_mk_Tape_N_ok 25 sv5.1) fun rv6 cv6 =>
.call (@F_mk_Tape_Pick_ok ([0, 1, rv6.1] : List Int) rv6.2) fun rv7 cv7 =>
.reg 10 [] [(3, hc cv6 [0] false), (4, hv (vl ([0, 1, rv6.1] : List Int))), (5, hc cv7 [0] false)] [.cl 1 cv6 [0] 3 false, .pf (leV_lit (DV.i .i64) ([0, 1, rv6.1] : List Int)), .cl 0 cv7 [0] 3 false] <|
.sh (H := NoH) (A := True) (.pf trivial) [(0, (vp 0)), (4, (vp 1)), (5, (vp 2)), (7, (vi (IntKind.i64.wrap (sv5.2.2.1 + rv7.1)))), (9, (vi sv5.2.2.2))] [(0, (vp 0)), (4, (vp 1)), (5, (vp 2)), (7, (vi (IntKind.i64.wrap (sv5.2.2.1 + rv7.1)))), (9, (vi sv5.2.2.2))] [(bx (TTape.e rv7.2)), (bx (TApiOffice.e (⟨0, [], (⟨[], [], [], []⟩ : TApiBook)⟩ : TApiOffice))), (bx (TApiOffice.e sv5.2.1))] [(bx (TTape.e rv7.2)), (bx (TApiOffice.e (⟨0, [], (⟨[], [], [], []⟩ : TApiBook)⟩ : TApiOffice))), (bx (TApiOffice.e sv5.2.1)), Ob.unb] (fun _ => shift_unb) (trF_refl _) <|
.call (@F_mk_Op_ok sv5.2.1 (IntKind.i64.wrap (sv5.2.2.1 + rv7.1)) rv7.2) fun rv8 cv8 =>
.call (@F_r15_Do_ok sv5.2.1 rv8.1) fun rv9 cv9 =>
.reg 11 [4, 9, 10] [(4, hc cv8 [0] false), (5, hc cv9 [] true), (9, { h := .born 3 false, obs := [(3, (bx (TApiOffice.e (⟨0, [], (⟨[], [], [], []⟩ : TApiBook)⟩ : TApiOffice))))] })] [.cl 1 cv8 [0] 4 false, .cl 1 cv8 [0] 4 false, .cl 0 cv9 [] 4 true, .cl 0 cv9 [] 4 true, .pf cz1, .pf cz1] <|
.ite (rv9.2 == 0) (
.ret [] (.cont (rv8.2, rv9.1, (IntKind.i64.wrap (sv5.2.2.1 + rv7.1)), (IntKind.i64.wrap (sv5.2.2.2 - 1))))) (
.ret [] (.cont (rv8.2, sv5.2.1, (IntKind.i64.wrap (sv5.2.2.1 + rv7.1)), (IntKind.i64.wrap (sv5.2.2.2 - 1)))))) (
.ret [] (.brk (sv5.1, sv5.2.1, sv5.2.2.1, sv5.2.2.2)))
def S_mk_Office (a1 : Int) (p0 : TTape) : Scr Tryz.prog R_mk_Office R_mk_Office :=
.reg 0 [] [(0, { obs := [(1, (bx (TApiOffice.e (⟨0, [], (⟨[], [], [], []⟩ : TApiBook)⟩ : TApiOffice))))] })] [.pf cz1] <|
.call (@F_mk_Tape_Range_ok 1 3 p0) fun rv10 cv10 =>
.call (@F_r15_New_ok rv10.1) fun rv11 cv11 =>
.reg 1 [] [(1, hc cv10 [0] false), (2, hc cv11 [] true), (6, { obs := [(2, (bx (TApiOffice.e (⟨0, [], (⟨[], [], [], []⟩ : TApiBook)⟩ : TApiOffice))))] })] [.cl 1 cv10 [0] 2 false, .cl 0 cv11 [] 2 true, .pf cz1] <|
.call (@F_mk_Tape_N_ok 50 rv10.2) fun rv12 cv12 =>
.reg 2 [] [(1, hc cv12 [0] false)] [.cl 0 cv12 [0] 3 false] <|
.iter [0, 1, 4, 5, 7] (fun (sv1 : TTape × TApiOffice × Int) => [(8, (vi sv1.2.2))]) (fun (sv1 : TTape × TApiOffice × Int) => [(0, (bx (TTape.e sv1.1))), (2, (bx (TApiOffice.e sv1.2.1)))]) (rv12.2, rv11.1, 0) S_mk_Office_b1 (fun (sv1 : TTape × TApiOffice × Int) =>
.call (@F_mk_Tape_N_ok (IntKind.i64.wrap (a1 + 1)) sv1.1) fun rv13 cv13 =>
.reg 7 [] [(3, hc cv13 [0] false)] [.cl 0 cv13 [0] 3 false] <|
.iter [0, 4, 5] (fun (sv5 : TTape × TApiOffice × Int × Int) => [(7, (vi sv5.2.2.1)), (9, (vi sv5.2.2.2))]) (fun (sv5 : TTape × TApiOffice × Int × Int) => [(0, (bx (TTape.e sv5.1))), (2, (bx (TApiOffice.e sv5.2.1)))]) (rv13.2, sv1.2.1, (IntKind.i64.wrap (4320 + rv12.1)), rv13.1) S_mk_Office_b2 (fun (sv5 : TTape × TApiOffice × Int × Int) =>
.ret [] (sv5.2.1, sv5.1)) id) id
def F_mk_Office (a1 : Int) (p0 : TTape) : Option R_mk_Office := (S_mk_Office a1 p0).den
set_option maxRecDepth 100000 in
theorem F_mk_Office_ok {a1 : Int} {p0 : TTape} (r : R_mk_Office) (h : F_mk_Office a1 p0 = some r) : CallOk Tryz.prog 18 [(vp 0), (vi a1)] [(bx (TTape.e p0))] (V_mk_Office r) (L_mk_Office r) := fOk (s := S_mk_Office a1 p0) Tryz.func18 rfl (by kernel_rfl) h
/-! 4 -/
/-! 5 -/
/-! 48 -/
abbrev R_rights_Wanted := Int
def V_rights_Wanted (x : R_rights_Wanted) : AV := (vi x)
def L_rights_Wanted (_ : R_rights_Wanted) : List Ob := []
def S_rights_Wanted (a0 : TApiRight) (a1 : Int) : Scr Tryz.prog R_rights_Wanted R_rights_Wanted :=
.call (@F_rights_Right_ok a0) fun rv1 cv1 =>
.calld [(!rv1) = false] default (@F_rights_among_ok a1 0 (IntKind.i64.wrap (a0.Granted - a0.Returned))) fun rv2 cv2 =>
.reg 1 [] [(1, hc cv1 [] true), (10, hc cv2 [] true)] [.cl 2 cv1 [] 1 true, .clg 0 [(!rv1) = false] cv2 [] 1 true] <|
.ite (bif (!rv1) then true else (!rv2)) (
.ret [] 0) (
.ret [] (if 0 > (IntKind.i64.wrap ((if (IntKind.i64.wrap (a0.Granted - a1)) < a0.Asked then (IntKind.i64.wrap (a0.Granted - a1)) else a0.Asked) - a0.Returned)) then 0 else (IntKind.i64.wrap ((if (IntKind.i64.wrap (a0.Granted - a1)) < a0.Asked then (IntKind.i64.wrap (a0.Granted - a1)) else a0.Asked) - a0.Returned))))
def F_rights_Wanted (a0 : TApiRight) (a1 : Int) : Option R_rights_Wanted := (S_rights_Wanted a0 a1).den
set_option maxRecDepth 100000 in
theorem F_rights_Wanted_ok {a0 : TApiRight} {a1 : Int} (r : R_rights_Wanted) (h : F_rights_Wanted a0 a1 = some r) : CallOk Tryz.prog 48 [(AV.d (TApiRight.e a0)), (vi a1)] [] (V_rights_Wanted r) (L_rights_Wanted r) := fOk (s := S_rights_Wanted a0 a1) Tryz.func48 rfl (by kernel_rfl) h
/-! 20 -/
abbrev R_office_Answer := TApiOp × Bool
def V_office_Answer (x : R_office_Answer) : AV := (AV.tup [(AV.d (TApiOp.e x.1)), (vb x.2)])
def L_office_Answer (_ : R_office_Answer) : List Ob := []
def S_office_Answer (a0 : TApiOffice) (a1 : List UInt8) (a2 : Int) : Scr Tryz.prog R_office_Answer R_office_Answer :=
.call (@F_office_Valid_ok a0) fun rv1 cv1 =>
.reg 1 [] [(1, hc cv1 [] true)] [.cl 0 cv1 [] 2 true] <|
.ite (!rv1) (
.ret [] ((⟨0, [], 0, 0, 0, 0, 0, 0, 0, 0⟩ : TApiOp), false)) (
.call (@F_office_Right_ok a0 a1 a2) fun rv2 cv2 =>
.call (@F_commitment_Used_ok a0.Book a1 a2) fun rv3 cv3 =>
.call (@F_rights_Wanted_ok rv2 rv3) fun rv4 cv4 =>
.reg 3 [] [(3, hc cv2 [] true), (8, hc cv3 [] true), (9, hc cv4 [] true)] [.cl 2 cv2 [] 2 true, .cl 1 cv3 [] 2 true, .cl 0 cv4 [] 2 true] <|
.ite (rv4 == 0) (
.ret [] ((⟨0, [], 0, 0, 0, 0, 0, 0, 0, 0⟩ : TApiOp), false)) (
.ret [] ((⟨7, a1, a2, 0, 0, rv4, 0, 0, 0, 0⟩ : TApiOp), true)))
def F_office_Answer (a0 : TApiOffice) (a1 : List UInt8) (a2 : Int) : Option R_office_Answer := (S_office_Answer a0 a1 a2).den
set_option maxRecDepth 100000 in
theorem F_office_Answer_ok {a0 : TApiOffice} {a1 : List UInt8} {a2 : Int} (r : R_office_Answer) (h : F_office_Answer a0 a1 a2 = some r) : CallOk Tryz.prog 20 [(AV.d (TApiOffice.e a0)), (AV.d (DV.str a1)), (vi a2)] [] (V_office_Answer r) (L_office_Answer r) := fOk (s := S_office_Answer a0 a1 a2) Tryz.func20 rfl (by kernel_rfl) h
/-! 6 -/
/-! 49 -/
abbrev R_mk_SmallBook := Bool
def V_mk_SmallBook (x : R_mk_SmallBook) : AV := (vb x)
def L_mk_SmallBook (_ : R_mk_SmallBook) : List Ob := []
def S_mk_SmallBook_b1 (a0 : TApiBook) (iv1 : Nat) (_ : Unit) : Scr Tryz.prog R_mk_SmallBook (Step (Unit) R_mk_SmallBook) :=
.reg 3 [] [] [.pf (nn iv1), .ev 0] <|
.ite (decide ((((a0.Reservations.getD iv1 default).Code).length : Int) > 60)) (
.ret [] (.ret false)) (
.ret [] (.cont ()))
def S_mk_SmallBook (a0 : TApiBook) : Scr Tryz.prog R_mk_SmallBook R_mk_SmallBook :=
.range (a0.Reservations.length : Int) a0.Reservations.length rfl (.slot 6) 8 [1, 6, 7] (fun (_ : Unit) => []) (fun (_ : Unit) => []) () (S_mk_SmallBook_b1 a0) (fun (_ : Unit) => 
.ret [] (bif (bif (bif (decide ((a0.Reservations.length : Int) ≤ 40)) then (decide ((a0.Commitments.length : Int) ≤ 40)) else false) then (decide ((a0.Verifications.length : Int) ≤ 40)) else false) then (decide ((a0.Orders.length : Int) ≤ 40)) else false)) id
def F_mk_SmallBook (a0 : TApiBook) : Option R_mk_SmallBook := (S_mk_SmallBook a0).den
set_option maxRecDepth 100000 in
theorem F_mk_SmallBook_ok {a0 : TApiBook} (r : R_mk_SmallBook) (h : F_mk_SmallBook a0 = some r) : CallOk Tryz.prog 49 [(AV.d (TApiBook.e a0))] [] (V_mk_SmallBook r) (L_mk_SmallBook r) := fOk (s := S_mk_SmallBook a0) Tryz.func49 rfl (by kernel_rfl) h
/-! 21 -/
abbrev R_mk_SmallOffice := Bool
def V_mk_SmallOffice (x : R_mk_SmallOffice) : AV := (vb x)
def L_mk_SmallOffice (_ : R_mk_SmallOffice) : List Ob := []
def S_mk_SmallOffice_b1 (a0 : TApiOffice) (iv1 : Nat) (_ : Unit) : Scr Tryz.prog R_mk_SmallOffice (Step (Unit) R_mk_SmallOffice) :=
.reg 3 [] [] [.pf (nn iv1), .ev 0] <|
.ite (decide ((((a0.Rights.getD iv1 default).Code).length : Int) > 60)) (
.ret [] (.ret false)) (
.ret [] (.cont ()))
def S_mk_SmallOffice (a0 : TApiOffice) : Scr Tryz.prog R_mk_SmallOffice R_mk_SmallOffice :=
.range (a0.Rights.length : Int) a0.Rights.length rfl (.slot 6) 8 [1, 6, 7] (fun (_ : Unit) => []) (fun (_ : Unit) => []) () (S_mk_SmallOffice_b1 a0) (fun (_ : Unit) => 
.calld [(decide ((a0.Rights.length : Int) ≤ 70)) = true] default (@F_mk_SmallBook_ok a0.Book) fun rv2 cv2 =>
.reg 7 [] [(7, hc cv2 [] true)] [.clg 0 [(decide ((a0.Rights.length : Int) ≤ 70)) = true] cv2 [] 1 true] <|
.ret [] (bif (decide ((a0.Rights.length : Int) ≤ 70)) then rv2 else false)) id
def F_mk_SmallOffice (a0 : TApiOffice) : Option R_mk_SmallOffice := (S_mk_SmallOffice a0).den
set_option maxRecDepth 100000 in
theorem F_mk_SmallOffice_ok {a0 : TApiOffice} (r : R_mk_SmallOffice) (h : F_mk_SmallOffice a0 = some r) : CallOk Tryz.prog 21 [(AV.d (TApiOffice.e a0))] [] (V_mk_SmallOffice r) (L_mk_SmallOffice r) := fOk (s := S_mk_SmallOffice a0) Tryz.func21 rfl (by kernel_rfl) h
/-! 24 -/
abbrev R_mk_BadCode := List UInt8 × TTape
def V_mk_BadCode (x : R_mk_BadCode) : AV := (AV.d (DV.str x.1))
def L_mk_BadCode (x : R_mk_BadCode) : List Ob := [(bx (TTape.e x.2))]
def S_mk_BadCode (p0 : TTape) : Scr Tryz.prog R_mk_BadCode R_mk_BadCode :=
.call (@F_mk_Tape_N_ok 12 p0) fun rv1 cv1 =>
.guard [(0 : Int) ≤ rv1.1, (rv1.1).toNat < 12] <|
.reg 1 [] [(0, hv (AV.d (eL DV.str ([[], [48], [48, 49], [49, 46], [46, 49], [49, 46, 46, 50], [49, 48, 48], [49, 46, 50, 46, 51, 46, 52, 46, 53], [120], [49, 32], [57, 57, 46, 57, 57, 46, 57, 57, 46, 57, 57], [52]] : List (List UInt8))))), (2, hc cv1 [0] false)] [.pf (leV_lit DV.str ([[], [48], [48, 49], [49, 46], [46, 49], [49, 46, 46, 50], [49, 48, 48], [49, 46, 50, 46, 51, 46, 52, 46, 53], [120], [49, 32], [57, 57, 46, 57, 57, 46, 57, 57, 46, 57, 57], [52]] : List (List UInt8))), .cl 2 cv1 [0] 1 false, .ev 0, .ev 1] <|
.ret [] ((([[], [48], [48, 49], [49, 46], [46, 49], [49, 46, 46, 50], [49, 48, 48], [49, 46, 50, 46, 51, 46, 52, 46, 53], [120], [49, 32], [57, 57, 46, 57, 57, 46, 57, 57, 46, 57, 57], [52]] : List (List UInt8)).getD ((rv1.1).toNat) default), rv1.2)
def F_mk_BadCode (p0 : TTape) : Option R_mk_BadCode := (S_mk_BadCode p0).den
set_option maxRecDepth 100000 in
theorem F_mk_BadCode_ok {p0 : TTape} (r : R_mk_BadCode) (h : F_mk_BadCode p0 = some r) : CallOk Tryz.prog 24 [(vp 0)] [(bx (TTape.e p0))] (V_mk_BadCode r) (L_mk_BadCode r) := fOk (s := S_mk_BadCode p0) Tryz.func24 rfl (by kernel_rfl) h
end
end Go.Proofs.YtbjbpoighbanfaaGreatDoor
