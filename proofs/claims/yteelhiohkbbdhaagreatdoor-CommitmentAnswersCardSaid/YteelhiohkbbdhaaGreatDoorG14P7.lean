/- A part of the proof: what the functions compute, and that their calls return it. No condition. -/
import Derived.Test.YteelhiohkbbdhaaGreatDoorG14P6
/- What the functions compute, and that their calls return it. No condition. -/
namespace Go.Proofs.YteelhiohkbbdhaaGreatDoor
open Go Go.TA

/-! 7 -/
abbrev R_w14_CommitmentSteps := Bool
def V_w14_CommitmentSteps (x : R_w14_CommitmentSteps) : AV := (vb x)
def L_w14_CommitmentSteps (_ : R_w14_CommitmentSteps) : List Ob := []
noncomputable def S_w14_CommitmentSteps_b1 (a1 : TApiBook) (a2 : List UInt8) (a3 : Int) (a4 : Int) (a5 : Int) (a6 : Int) (a7 : Int) (rv1 : R_mk_Book) (rv2 : R_mk_BentBook) (iv3 : Nat) (rv4 : R_mk_Tape_Range) (rv5 : R_mk_Tape_N) (rv6 : R_mk_Tape_N) (rv7 : R_mk_Tape_Range) (rv8 : R_mk_Tape_N) (rv9 : R_mk_Tape_Range) (rv10 : R_mk_Tape_Range) (rv11 : R_mk_Tape_Pick) (rv12 : R_mk_Tape_Pick) (iv13 : Nat) (sv14 : Int) : Scr Tryz.prog R_w14_CommitmentSteps (Step (Int) R_w14_CommitmentSteps) :=
.ite (decide (sv14 < 7)) (
.call (@F_w14_step_ok (([rv1.1, rv2.1, a1] : List TApiBook).getD iv3 default) sv14 a2 (([(fun j => ([a3, a4, a5, a6, a7] : List Int).getD j default), (fun j => ([rv4.1, (IntKind.i64.wrap (4320 + rv5.1)), rv6.1, rv7.1, (IntKind.i64.wrap (4320 + rv8.1))] : List Int).getD j default), (fun j => ([rv9.1, 4600, rv10.1, 2, 4700] : List Int).getD j default), (fun j => ([1, rv11.1, 5, 1, rv12.1] : List Int).getD j default)] : List (Nat → Int)).getD iv13 default)) fun rv15 cv15 =>
.reg 14 [] [(4, hc cv15 [] true), (8, { obs := [(5, (bx (TApiBook.e (⟨[], [], [], []⟩ : TApiBook))))] })] [.cl 0 cv15 [] 5 true, .pf (p := OLe (bx (DV.agg [(DV.sl 0 fun _ => DV.b false), (DV.sl 0 fun _ => DV.b false), (DV.sl 0 fun _ => DV.b false), (DV.sl 0 fun _ => DV.b false)])) (bx (TApiBook.e (⟨[], [], [], []⟩ : TApiBook)))) (oLe_box (DLe.agg (DLeL.cons DLe.sl0 (DLeL.cons DLe.sl0 (DLeL.cons DLe.sl0 (DLeL.cons DLe.sl0 DLeL.nil))))))] <|
.call (@F_w14_want_ok (([rv1.1, rv2.1, a1] : List TApiBook).getD iv3 default) sv14 a2 (([(fun j => ([a3, a4, a5, a6, a7] : List Int).getD j default), (fun j => ([rv4.1, (IntKind.i64.wrap (4320 + rv5.1)), rv6.1, rv7.1, (IntKind.i64.wrap (4320 + rv8.1))] : List Int).getD j default), (fun j => ([rv9.1, 4600, rv10.1, 2, 4700] : List Int).getD j default), (fun j => ([1, rv11.1, 5, 1, rv12.1] : List Int).getD j default)] : List (Nat → Int)).getD iv13 default)) fun rv16 cv16 =>
.reg 15 [] [(4, hc cv16 [] true), (8, { obs := [(6, (bx (TApiBook.e (⟨[], [], [], []⟩ : TApiBook))))] })] [.cl 0 cv16 [] 6 true, .pf (p := OLe (bx (DV.agg [(DV.sl 0 fun _ => DV.b false), (DV.sl 0 fun _ => DV.b false), (DV.sl 0 fun _ => DV.b false), (DV.sl 0 fun _ => DV.b false)])) (bx (TApiBook.e (⟨[], [], [], []⟩ : TApiBook)))) (oLe_box (DLe.agg (DLeL.cons DLe.sl0 (DLeL.cons DLe.sl0 (DLeL.cons DLe.sl0 (DLeL.cons DLe.sl0 DLeL.nil))))))] <|
.calld [(rv15.2 != rv16.2) = false] default (@F_r14_Same_ok rv15.1 rv16.1) fun rv17 cv17 =>
.reg 16 [] [(6, hc cv17 [] true)] [.clg 0 [(rv15.2 != rv16.2) = false] cv17 [] 7 true] <|
.ite (bif (rv15.2 != rv16.2) then true else (!rv17)) (
.ret [] (.ret false)) (
.ret [] (.cont (IntKind.i64.wrap (sv14 + 1))))) (
.ret [] (.brk sv14))

noncomputable def S_w14_CommitmentSteps_b2 (a1 : TApiBook) (a2 : List UInt8) (a3 : Int) (a4 : Int) (a5 : Int) (a6 : Int) (a7 : Int) (rv1 : R_mk_Book) (rv2 : R_mk_BentBook) (iv3 : Nat) (rv4 : R_mk_Tape_Range) (rv5 : R_mk_Tape_N) (rv6 : R_mk_Tape_N) (rv7 : R_mk_Tape_Range) (rv8 : R_mk_Tape_N) (rv9 : R_mk_Tape_Range) (rv10 : R_mk_Tape_Range) (rv11 : R_mk_Tape_Pick) (rv12 : R_mk_Tape_Pick) (iv13 : Nat) (_ : Unit) : Scr Tryz.prog R_w14_CommitmentSteps (Step (Unit) R_w14_CommitmentSteps) :=
.reg 10 [] [] [.pf (nn iv13), .ev 0] <|
.iter [2, 3, 4, 5, 6, 7, 17, 20, 22, 46, 47, 48, 83, 84, 85] (fun (sv14 : Int) => [(23, (vi sv14))]) (fun (_ : Int) => []) 0 (S_w14_CommitmentSteps_b1 a1 a2 a3 a4 a5 a6 a7 rv1 rv2 iv3 rv4 rv5 rv6 rv7 rv8 rv9 rv10 rv11 rv12 iv13) (fun (_ : Int) =>
.ret [] (.cont ())) .ret

noncomputable def S_w14_CommitmentSteps_b3 (a1 : TApiBook) (a2 : List UInt8) (a3 : Int) (a4 : Int) (a5 : Int) (a6 : Int) (a7 : Int) (rv1 : R_mk_Book) (rv2 : R_mk_BentBook) (iv3 : Nat) (sv18 : TTreasurymakeTape) : Scr Tryz.prog R_w14_CommitmentSteps (Step (TTreasurymakeTape) R_w14_CommitmentSteps) :=
.reg 7 [] [(2, { obs := [(3, (bx (TApiBook.e (⟨[], [], [], []⟩ : TApiBook))))] })] [.pf (nn iv3), .ev 0, .pf (p := OLe (bx (DV.agg [(DV.sl 0 fun _ => DV.b false), (DV.sl 0 fun _ => DV.b false), (DV.sl 0 fun _ => DV.b false), (DV.sl 0 fun _ => DV.b false)])) (bx (TApiBook.e (⟨[], [], [], []⟩ : TApiBook)))) (oLe_box (DLe.agg (DLeL.cons DLe.sl0 (DLeL.cons DLe.sl0 (DLeL.cons DLe.sl0 (DLeL.cons DLe.sl0 DLeL.nil))))))] <|
.call (@F_mk_Tape_Range_ok 0 4 sv18) fun rv4 cv4 =>
.call (@F_mk_Tape_N_ok 800 rv4.2) fun rv5 cv5 =>
.call (@F_mk_Tape_N_ok 200 rv5.2) fun rv6 cv6 =>
.call (@F_mk_Tape_Range_ok 0 3 rv6.2) fun rv7 cv7 =>
.call (@F_mk_Tape_N_ok 400 rv7.2) fun rv8 cv8 =>
.call (@F_mk_Tape_Range_ok 1 3 rv8.2) fun rv9 cv9 =>
.call (@F_mk_Tape_Range_ok 1 30 rv9.2) fun rv10 cv10 =>
.call (@F_mk_Tape_Pick_ok ([(-1), 35991, 4679, 4680, 5040] : List Int) rv10.2) fun rv11 cv11 =>
.call (@F_mk_Tape_Pick_ok ([(-1), 4400, 36000] : List Int) rv11.2) fun rv12 cv12 =>
.reg 8 [] [(5, hv (AV.d (eA 1 5 (DV.i .i64) (fun j => ([a3, a4, a5, a6, a7] : List Int).getD j default)))), (7, hc cv4 [1] false), (9, hc cv5 [1] false), (12, hc cv6 [1] false), (14, hc cv7 [1] false), (16, hc cv8 [1] false), (18, hv (AV.d (eA 1 5 (DV.i .i64) (fun j => ([rv4.1, (IntKind.i64.wrap (4320 + rv5.1)), rv6.1, rv7.1, (IntKind.i64.wrap (4320 + rv8.1))] : List Int).getD j default)))), (20, hc cv9 [1] false), (22, hc cv10 [1] false), (23, hv (AV.d (eA 1 5 (DV.i .i64) (fun j => ([rv9.1, 4600, rv10.1, 2, 4700] : List Int).getD j default)))), (25, hv (vl ([(-1), 35991, 4679, 4680, 5040] : List Int))), (26, hc cv11 [1] false), (28, hv (vl ([(-1), 4400, 36000] : List Int))), (29, hc cv12 [1] false), (30, hv (AV.d (eA 1 5 (DV.i .i64) (fun j => ([1, rv11.1, 5, 1, rv12.1] : List Int).getD j default)))), (31, hv (AV.d (eL (eA 1 5 (DV.i .i64)) ([(fun j => ([a3, a4, a5, a6, a7] : List Int).getD j default), (fun j => ([rv4.1, (IntKind.i64.wrap (4320 + rv5.1)), rv6.1, rv7.1, (IntKind.i64.wrap (4320 + rv8.1))] : List Int).getD j default), (fun j => ([rv9.1, 4600, rv10.1, 2, 4700] : List Int).getD j default), (fun j => ([1, rv11.1, 5, 1, rv12.1] : List Int).getD j default)] : List (Nat → Int)))))] [.pf (p := 0 < 5) (by decide), .pf (p := 1 < 5) (by decide), .pf (p := 2 < 5) (by decide), .pf (p := 3 < 5) (by decide), .pf (p := 4 < 5) (by decide), .pf (p := LeV (AV.d (DV.arr 1 5 fun j => if j = 4 then (DV.i .i64 a7) else if j = 3 then (DV.i .i64 a6) else if j = 2 then (DV.i .i64 a5) else if j = 1 then (DV.i .i64 a4) else if j = 0 then (DV.i .i64 a3) else (DV.i .i64 0))) (AV.d (eA 1 5 (DV.i .i64) (fun j => ([a3, a4, a5, a6, a7] : List Int).getD j default)))) (leV_arr (fun | 0, _ => rfl | 1, _ => rfl | 2, _ => rfl | 3, _ => rfl | 4, _ => rfl | (k + 5), h => absurd h (by omega))), .cl 8 cv4 [1] 4 false, .cl 7 cv5 [1] 4 false, .cl 6 cv6 [1] 4 false, .cl 5 cv7 [1] 4 false, .cl 4 cv8 [1] 4 false, .pf (p := 0 < 5) (by decide), .pf (p := 1 < 5) (by decide), .pf (p := 2 < 5) (by decide), .pf (p := 3 < 5) (by decide), .pf (p := 4 < 5) (by decide), .pf (p := LeV (AV.d (DV.arr 1 5 fun j => if j = 4 then (DV.i .i64 (IntKind.i64.wrap (4320 + rv8.1))) else if j = 3 then (DV.i .i64 rv7.1) else if j = 2 then (DV.i .i64 rv6.1) else if j = 1 then (DV.i .i64 (IntKind.i64.wrap (4320 + rv5.1))) else if j = 0 then (DV.i .i64 rv4.1) else (DV.i .i64 0))) (AV.d (eA 1 5 (DV.i .i64) (fun j => ([rv4.1, (IntKind.i64.wrap (4320 + rv5.1)), rv6.1, rv7.1, (IntKind.i64.wrap (4320 + rv8.1))] : List Int).getD j default)))) (leV_arr (fun | 0, _ => rfl | 1, _ => rfl | 2, _ => rfl | 3, _ => rfl | 4, _ => rfl | (k + 5), h => absurd h (by omega))), .cl 3 cv9 [1] 4 false, .cl 2 cv10 [1] 4 false, .pf (p := 0 < 5) (by decide), .pf (p := 1 < 5) (by decide), .pf (p := 2 < 5) (by decide), .pf (p := 3 < 5) (by decide), .pf (p := 4 < 5) (by decide), .pf (p := LeV (AV.d (DV.arr 1 5 fun j => if j = 4 then (DV.i .i64 4700) else if j = 3 then (DV.i .i64 2) else if j = 2 then (DV.i .i64 rv10.1) else if j = 1 then (DV.i .i64 4600) else if j = 0 then (DV.i .i64 rv9.1) else (DV.i .i64 0))) (AV.d (eA 1 5 (DV.i .i64) (fun j => ([rv9.1, 4600, rv10.1, 2, 4700] : List Int).getD j default)))) (leV_arr (fun | 0, _ => rfl | 1, _ => rfl | 2, _ => rfl | 3, _ => rfl | 4, _ => rfl | (k + 5), h => absurd h (by omega))), .pf (leV_lit (DV.i .i64) ([(-1), 35991, 4679, 4680, 5040] : List Int)), .cl 1 cv11 [1] 4 false, .pf (leV_lit (DV.i .i64) ([(-1), 4400, 36000] : List Int)), .cl 0 cv12 [1] 4 false, .pf (p := 0 < 5) (by decide), .pf (p := 1 < 5) (by decide), .pf (p := 2 < 5) (by decide), .pf (p := 3 < 5) (by decide), .pf (p := 4 < 5) (by decide), .pf (p := LeV (AV.d (DV.arr 1 5 fun j => if j = 4 then (DV.i .i64 rv12.1) else if j = 3 then (DV.i .i64 1) else if j = 2 then (DV.i .i64 5) else if j = 1 then (DV.i .i64 rv11.1) else if j = 0 then (DV.i .i64 1) else (DV.i .i64 0))) (AV.d (eA 1 5 (DV.i .i64) (fun j => ([1, rv11.1, 5, 1, rv12.1] : List Int).getD j default)))) (leV_arr (fun | 0, _ => rfl | 1, _ => rfl | 2, _ => rfl | 3, _ => rfl | 4, _ => rfl | (k + 5), h => absurd h (by omega))), .pf (leV_lit (eA 1 5 (DV.i .i64)) ([(fun j => ([a3, a4, a5, a6, a7] : List Int).getD j default), (fun j => ([rv4.1, (IntKind.i64.wrap (4320 + rv5.1)), rv6.1, rv7.1, (IntKind.i64.wrap (4320 + rv8.1))] : List Int).getD j default), (fun j => ([rv9.1, 4600, rv10.1, 2, 4700] : List Int).getD j default), (fun j => ([1, rv11.1, 5, 1, rv12.1] : List Int).getD j default)] : List (Nat → Int)))] <|
.range 4 4 rfl (.why (.pf (p := 4 < 2 ^ 63) (by decide))) 85 [2, 3, 4, 5, 6, 7, 17, 20, 46, 47, 48, 83, 84] (fun (_ : Unit) => []) (fun (_ : Unit) => []) () (S_w14_CommitmentSteps_b2 a1 a2 a3 a4 a5 a6 a7 rv1 rv2 iv3 rv4 rv5 rv6 rv7 rv8 rv9 rv10 rv11 rv12) (fun (_ : Unit) => 
.ret [] (.cont rv12.2)) .ret

noncomputable def S_w14_CommitmentSteps (a0 : (List Int)) (a1 : TApiBook) (a2 : List UInt8) (a3 : Int) (a4 : Int) (a5 : Int) (a6 : Int) (a7 : Int) : Scr Tryz.prog R_w14_CommitmentSteps R_w14_CommitmentSteps :=
.call (@F_mk_SmallBook_ok a1) fun rv19 cv19 =>
.reg 1 [] [(1, hc cv19 [] true)] [.cl 0 cv19 [] 1 true] <|
.ite (bif (!rv19) then true else (decide ((a2.length : Int) > 60))) (
.call (@F_w14_awake_ok) fun rv20 cv20 =>
.reg 2 [] [(0, hc cv20 [] true)] [.cl 0 cv20 [] 1 true] <|
.ret [] rv20) (
.call (@F_mk_New_ok a0) fun rv21 cv21 =>
.reg 3 [] [(1, hc cv21 [] false)] [.cl 0 cv21 [] 1 false] <|
.call (@F_mk_Book_ok 20 rv21) fun rv1 cv1 =>
.reg 4 [] [(1, hc cv1 [1] false), (2, { obs := [(2, (bx (TApiBook.e (⟨[], [], [], []⟩ : TApiBook))))] })] [.cl 0 cv1 [1] 2 false, .pf (p := OLe (bx (DV.agg [(DV.sl 0 fun _ => DV.b false), (DV.sl 0 fun _ => DV.b false), (DV.sl 0 fun _ => DV.b false), (DV.sl 0 fun _ => DV.b false)])) (bx (TApiBook.e (⟨[], [], [], []⟩ : TApiBook)))) (oLe_box (DLe.agg (DLeL.cons DLe.sl0 (DLeL.cons DLe.sl0 (DLeL.cons DLe.sl0 (DLeL.cons DLe.sl0 DLeL.nil))))))] <|
.call (@F_mk_BentBook_ok rv1.1 rv1.2) fun rv2 cv2 =>
.reg 5 [3] [(3, hc cv2 [1] false), (5, hv (AV.d (eL TApiBook.e ([rv1.1, rv2.1, a1] : List TApiBook))))] [.cl 0 cv2 [1] 3 false, .pf (leV_lit TApiBook.e ([rv1.1, rv2.1, a1] : List TApiBook))] <|
.range 3 3 rfl (.why (.pf (p := 3 < 2 ^ 63) (by decide))) 48 [2, 3, 4, 5, 6, 7, 17, 46, 47] (fun (_ : TTreasurymakeTape) => []) (fun (sv18 : TTreasurymakeTape) => [(1, (bx (TTreasurymakeTape.e sv18)))]) rv2.2 (S_w14_CommitmentSteps_b3 a1 a2 a3 a4 a5 a6 a7 rv1 rv2) (fun (_ : TTreasurymakeTape) => 
.call (@F_w14_awake_ok) fun rv22 cv22 =>
.reg 20 [] [(0, hc cv22 [] true)] [.cl 0 cv22 [] 3 true] <|
.ret [] rv22) id)

noncomputable def F_w14_CommitmentSteps (a0 : (List Int)) (a1 : TApiBook) (a2 : List UInt8) (a3 : Int) (a4 : Int) (a5 : Int) (a6 : Int) (a7 : Int) : Option R_w14_CommitmentSteps := (S_w14_CommitmentSteps a0 a1 a2 a3 a4 a5 a6 a7).den
set_option maxRecDepth 100000 in
theorem F_w14_CommitmentSteps_ok {a0 : (List Int)} {a1 : TApiBook} {a2 : List UInt8} {a3 : Int} {a4 : Int} {a5 : Int} {a6 : Int} {a7 : Int} (r : R_w14_CommitmentSteps) (h : F_w14_CommitmentSteps a0 a1 a2 a3 a4 a5 a6 a7 = some r) : CallOk Tryz.prog 7 [(vl a0), (AV.d (TApiBook.e a1)), (AV.d (DV.str a2)), (vi a3), (vi a4), (vi a5), (vi a6), (vi a7)] [] (V_w14_CommitmentSteps r) (L_w14_CommitmentSteps r) := fOk (s := S_w14_CommitmentSteps a0 a1 a2 a3 a4 a5 a6 a7) Tryz.func7 rfl (by kernel_rfl) h

end Go.Proofs.YteelhiohkbbdhaaGreatDoor
