/- A part of the proof: what the functions compute, and that their calls return it. No condition. -/
import Derived.Test.YtclaojamgomjbaaGreatDoorG5
/- What the functions compute, and that their calls return it. No condition. -/
namespace Go.Proofs.YtclaojamgomjbaaGreatDoor
open Go Go.TA
noncomputable section
set_option maxRecDepth 100000
abbrev R_control_Control := (List TApiCheck)
def V_control_Control (x : R_control_Control) : AV := (AV.d (eL TApiCheck.e x))
def L_control_Control (_ : R_control_Control) : List Ob := []
def S_control_Control (a0 : (List Int)) (a1 : TApiWarrant) (a2 : TApiOffice) (a3 : (List TApiWarrant)) (a4 : TApiPot) (a5 : Int) : Scr Tryz.prog R_control_Control R_control_Control :=
.reg 2 [] [(15, { h := .obj })] [] <|
.br true (.pf (p := true = true) rfl) <|
.reg 4 [] [] [.pf (Eq.refl 8), .pf (p := (0 : Int) ≤ 0) (by decide), .pf (p := 0 < 8) (by decide), .pf (Eq.refl 8), .pf (p := (0 + 0) < 8) (by decide)] <|
.call (@F_warrant_Plain_ok a1) fun rv1 cv1 =>
.reg 6 [] [(1, hc cv1 [] true)] [.cl 0 cv1 [] 8 true] <|
.cut none [7, 13, 15, 32, 33, 34] (fun (sv2 : Int) => [(16, (vi sv2))]) (fun (_ : Int) => []) (
.ite rv1 (
.call (@F_control_Control_1_ok) fun rv3 cv3 =>
.reg 7 [] [(2, hc cv3 [] true)] [.cl 0 cv3 [] 8 true] <|
.ret [] (.next rv3)) (
.ret [] (.next 1))) fun (sv2 : Int) =>
.reg 8 [] [(5, hv (AV.d (eL TApiCheck.e (ck1 1 sv2)))), (6, { h := .obj })] [.pf (leV_lit TApiCheck.e (ck1 1 sv2)), .pf (p := ∀ k, k < 1 → (AV.d (TApiCheck.e ((ck1 1 sv2).getD k default))).wd = 2) (fun _ _ => rfl), .pf (p := 1 * (2 * 16) ≤ 2 ^ 48) (by decide)] <|
.br true (.pf (p := true = true) rfl) <|
.reg 4 [] [] [.pf (Eq.refl 8), .pf (p := (0 : Int) ≤ 1) (by decide), .pf (p := 1 < 8) (by decide), .pf (Eq.refl 8), .pf (p := (0 + 1) < 8) (by decide)] <|
.call (@F_warrant_Plain_ok a1) fun rv4 cv4 =>
.reg 6 [] [(1, hc cv4 [] true)] [.cl 0 cv4 [] 10 true] <|
.cut none [7, 13, 15, 32, 33, 34] (fun (sv5 : Int) => [(16, (vi sv5))]) (fun (_ : Int) => []) (
.ite rv4 (
.call (@F_control_Control_2_ok a0 a1) fun rv6 cv6 =>
.reg 7 [] [(2, hc cv6 [0, 1] true)] [.cl 0 cv6 [0, 1] 10 true] <|
.ret [] (.next rv6)) (
.ret [] (.next 1))) fun (sv5 : Int) =>
.reg 8 [] [(5, hv (AV.d (eL TApiCheck.e (ck1 2 sv5)))), (6, { h := .obj, cast := some (AV.ref 8 (((ck1 1 sv2) ++ (ck1 2 sv5)).length) 0 (((ck1 1 sv2) ++ (ck1 2 sv5)).length)), obs := [(8, (eS 2 TApiCheck.e ((ck1 1 sv2) ++ (ck1 2 sv5))))] })] [.pf (leV_lit TApiCheck.e (ck1 2 sv5)), .pf (Eq.refl 1), .pf (Eq.refl 1), .pf (p := ∀ k, k < 1 → (AV.d (TApiCheck.e ((ck1 2 sv5).getD k default))).wd = 2) (fun _ _ => rfl), .pf (p := (1 + 1) * (2 * 16) ≤ 2 ^ 48) (by decide), .pf (leV_app (o := 8) (l := (ck1 1 sv2)) (x := (ck1 2 sv5))), .pf (oLe_app (sz := 2) (e := TApiCheck.e) (l := (ck1 1 sv2)) (x := (ck1 2 sv5)))] <|
.br true (.pf (p := true = true) rfl) <|
.reg 4 [] [] [.pf (Eq.refl 8), .pf (p := (0 : Int) ≤ 2) (by decide), .pf (p := 2 < 8) (by decide), .pf (Eq.refl 8), .pf (p := (0 + 2) < 8) (by decide)] <|
.call (@F_warrant_Plain_ok a1) fun rv7 cv7 =>
.reg 6 [] [(1, hc cv7 [] true)] [.cl 0 cv7 [] 11 true] <|
.cut none [7, 13, 15, 32, 33, 34] (fun (sv8 : Int) => [(16, (vi sv8))]) (fun (_ : Int) => []) (
.ite rv7 (
.call (@F_control_Control_3_ok a1 a2) fun rv9 cv9 =>
.reg 7 [] [(2, hc cv9 [1, 2] true)] [.cl 0 cv9 [1, 2] 11 true] <|
.ret [] (.next rv9)) (
.ret [] (.next 1))) fun (sv8 : Int) =>
.guard [(((ck1 1 sv2) ++ (ck1 2 sv5)).length + 1) * (2 * 16) ≤ 2 ^ 48] <|
.reg 8 [] [(5, hv (AV.d (eL TApiCheck.e (ck1 3 sv8)))), (6, { h := .obj, cast := some (AV.ref 8 ((((ck1 1 sv2) ++ (ck1 2 sv5)) ++ (ck1 3 sv8)).length) 0 ((((ck1 1 sv2) ++ (ck1 2 sv5)) ++ (ck1 3 sv8)).length)), obs := [(8, (eS 2 TApiCheck.e (((ck1 1 sv2) ++ (ck1 2 sv5)) ++ (ck1 3 sv8))))] })] [.pf (leV_lit TApiCheck.e (ck1 3 sv8)), .pf (Eq.refl (((ck1 1 sv2) ++ (ck1 2 sv5)).length)), .pf (Eq.refl (((ck1 1 sv2) ++ (ck1 2 sv5)).length)), .pf (p := ∀ k, k < 1 → (AV.d (TApiCheck.e ((ck1 3 sv8).getD k default))).wd = 2) (fun _ _ => rfl), .ev 0, .pf (leV_app (o := 8) (l := ((ck1 1 sv2) ++ (ck1 2 sv5))) (x := (ck1 3 sv8))), .pf (oLe_app (sz := 2) (e := TApiCheck.e) (l := ((ck1 1 sv2) ++ (ck1 2 sv5))) (x := (ck1 3 sv8)))] <|
.br true (.pf (p := true = true) rfl) <|
.reg 4 [] [] [.pf (Eq.refl 8), .pf (p := (0 : Int) ≤ 3) (by decide), .pf (p := 3 < 8) (by decide), .pf (Eq.refl 8), .pf (p := (0 + 3) < 8) (by decide)] <|
.call (@F_warrant_Plain_ok a1) fun rv10 cv10 =>
.reg 6 [] [(1, hc cv10 [] true)] [.cl 0 cv10 [] 12 true] <|
.cut none [7, 13, 15, 32, 33, 34] (fun (sv11 : Int) => [(16, (vi sv11))]) (fun (_ : Int) => []) (
.ite rv10 (
.call (@F_control_Control_4_ok a1 a2) fun rv12 cv12 =>
.reg 7 [] [(2, hc cv12 [1, 2] true)] [.cl 0 cv12 [1, 2] 12 true] <|
.ret [] (.next rv12)) (
.ret [] (.next 1))) fun (sv11 : Int) =>
.guard [((((ck1 1 sv2) ++ (ck1 2 sv5)) ++ (ck1 3 sv8)).length + 1) * (2 * 16) ≤ 2 ^ 48] <|
.reg 8 [] [(5, hv (AV.d (eL TApiCheck.e (ck1 4 sv11)))), (6, { h := .obj, cast := some (AV.ref 8 (((((ck1 1 sv2) ++ (ck1 2 sv5)) ++ (ck1 3 sv8)) ++ (ck1 4 sv11)).length) 0 (((((ck1 1 sv2) ++ (ck1 2 sv5)) ++ (ck1 3 sv8)) ++ (ck1 4 sv11)).length)), obs := [(8, (eS 2 TApiCheck.e ((((ck1 1 sv2) ++ (ck1 2 sv5)) ++ (ck1 3 sv8)) ++ (ck1 4 sv11))))] })] [.pf (leV_lit TApiCheck.e (ck1 4 sv11)), .pf (Eq.refl ((((ck1 1 sv2) ++ (ck1 2 sv5)) ++ (ck1 3 sv8)).length)), .pf (Eq.refl ((((ck1 1 sv2) ++ (ck1 2 sv5)) ++ (ck1 3 sv8)).length)), .pf (p := ∀ k, k < 1 → (AV.d (TApiCheck.e ((ck1 4 sv11).getD k default))).wd = 2) (fun _ _ => rfl), .ev 0, .pf (leV_app (o := 8) (l := (((ck1 1 sv2) ++ (ck1 2 sv5)) ++ (ck1 3 sv8))) (x := (ck1 4 sv11))), .pf (oLe_app (sz := 2) (e := TApiCheck.e) (l := (((ck1 1 sv2) ++ (ck1 2 sv5)) ++ (ck1 3 sv8))) (x := (ck1 4 sv11)))] <|
.br true (.pf (p := true = true) rfl) <|
.reg 4 [] [] [.pf (Eq.refl 8), .pf (p := (0 : Int) ≤ 4) (by decide), .pf (p := 4 < 8) (by decide), .pf (Eq.refl 8), .pf (p := (0 + 4) < 8) (by decide)] <|
.call (@F_warrant_Plain_ok a1) fun rv13 cv13 =>
.reg 6 [] [(1, hc cv13 [] true)] [.cl 0 cv13 [] 13 true] <|
.cut none [7, 13, 15, 32, 33, 34] (fun (sv14 : Int) => [(16, (vi sv14))]) (fun (_ : Int) => []) (
.ite rv13 (
.call (@F_control_Control_5_ok a1 a3) fun rv15 cv15 =>
.reg 7 [] [(2, hc cv15 [1, 3] true)] [.cl 0 cv15 [1, 3] 13 true] <|
.ret [] (.next rv15)) (
.ret [] (.next 1))) fun (sv14 : Int) =>
.guard [(((((ck1 1 sv2) ++ (ck1 2 sv5)) ++ (ck1 3 sv8)) ++ (ck1 4 sv11)).length + 1) * (2 * 16) ≤ 2 ^ 48] <|
.reg 8 [] [(5, hv (AV.d (eL TApiCheck.e (ck1 5 sv14)))), (6, { h := .obj, cast := some (AV.ref 8 ((((((ck1 1 sv2) ++ (ck1 2 sv5)) ++ (ck1 3 sv8)) ++ (ck1 4 sv11)) ++ (ck1 5 sv14)).length) 0 ((((((ck1 1 sv2) ++ (ck1 2 sv5)) ++ (ck1 3 sv8)) ++ (ck1 4 sv11)) ++ (ck1 5 sv14)).length)), obs := [(8, (eS 2 TApiCheck.e (((((ck1 1 sv2) ++ (ck1 2 sv5)) ++ (ck1 3 sv8)) ++ (ck1 4 sv11)) ++ (ck1 5 sv14))))] })] [.pf (leV_lit TApiCheck.e (ck1 5 sv14)), .pf (Eq.refl (((((ck1 1 sv2) ++ (ck1 2 sv5)) ++ (ck1 3 sv8)) ++ (ck1 4 sv11)).length)), .pf (Eq.refl (((((ck1 1 sv2) ++ (ck1 2 sv5)) ++ (ck1 3 sv8)) ++ (ck1 4 sv11)).length)), .pf (p := ∀ k, k < 1 → (AV.d (TApiCheck.e ((ck1 5 sv14).getD k default))).wd = 2) (fun _ _ => rfl), .ev 0, .pf (leV_app (o := 8) (l := ((((ck1 1 sv2) ++ (ck1 2 sv5)) ++ (ck1 3 sv8)) ++ (ck1 4 sv11))) (x := (ck1 5 sv14))), .pf (oLe_app (sz := 2) (e := TApiCheck.e) (l := ((((ck1 1 sv2) ++ (ck1 2 sv5)) ++ (ck1 3 sv8)) ++ (ck1 4 sv11))) (x := (ck1 5 sv14)))] <|
.br true (.pf (p := true = true) rfl) <|
.reg 4 [] [] [.pf (Eq.refl 8), .pf (p := (0 : Int) ≤ 5) (by decide), .pf (p := 5 < 8) (by decide), .pf (Eq.refl 8), .pf (p := (0 + 5) < 8) (by decide)] <|
.call (@F_warrant_Plain_ok a1) fun rv16 cv16 =>
.reg 6 [] [(1, hc cv16 [] true)] [.cl 0 cv16 [] 14 true] <|
.cut none [7, 13, 15, 32, 33, 34] (fun (sv17 : Int) => [(16, (vi sv17))]) (fun (_ : Int) => []) (
.ite rv16 (
.call (@F_control_Control_6_ok a1 a5) fun rv18 cv18 =>
.reg 7 [] [(2, hc cv18 [1, 5] true)] [.cl 0 cv18 [1, 5] 14 true] <|
.ret [] (.next rv18)) (
.ret [] (.next 1))) fun (sv17 : Int) =>
.guard [((((((ck1 1 sv2) ++ (ck1 2 sv5)) ++ (ck1 3 sv8)) ++ (ck1 4 sv11)) ++ (ck1 5 sv14)).length + 1) * (2 * 16) ≤ 2 ^ 48] <|
.reg 8 [] [(5, hv (AV.d (eL TApiCheck.e (ck1 6 sv17)))), (6, { h := .obj, cast := some (AV.ref 8 (((((((ck1 1 sv2) ++ (ck1 2 sv5)) ++ (ck1 3 sv8)) ++ (ck1 4 sv11)) ++ (ck1 5 sv14)) ++ (ck1 6 sv17)).length) 0 (((((((ck1 1 sv2) ++ (ck1 2 sv5)) ++ (ck1 3 sv8)) ++ (ck1 4 sv11)) ++ (ck1 5 sv14)) ++ (ck1 6 sv17)).length)), obs := [(8, (eS 2 TApiCheck.e ((((((ck1 1 sv2) ++ (ck1 2 sv5)) ++ (ck1 3 sv8)) ++ (ck1 4 sv11)) ++ (ck1 5 sv14)) ++ (ck1 6 sv17))))] })] [.pf (leV_lit TApiCheck.e (ck1 6 sv17)), .pf (Eq.refl ((((((ck1 1 sv2) ++ (ck1 2 sv5)) ++ (ck1 3 sv8)) ++ (ck1 4 sv11)) ++ (ck1 5 sv14)).length)), .pf (Eq.refl ((((((ck1 1 sv2) ++ (ck1 2 sv5)) ++ (ck1 3 sv8)) ++ (ck1 4 sv11)) ++ (ck1 5 sv14)).length)), .pf (p := ∀ k, k < 1 → (AV.d (TApiCheck.e ((ck1 6 sv17).getD k default))).wd = 2) (fun _ _ => rfl), .ev 0, .pf (leV_app (o := 8) (l := (((((ck1 1 sv2) ++ (ck1 2 sv5)) ++ (ck1 3 sv8)) ++ (ck1 4 sv11)) ++ (ck1 5 sv14))) (x := (ck1 6 sv17))), .pf (oLe_app (sz := 2) (e := TApiCheck.e) (l := (((((ck1 1 sv2) ++ (ck1 2 sv5)) ++ (ck1 3 sv8)) ++ (ck1 4 sv11)) ++ (ck1 5 sv14))) (x := (ck1 6 sv17)))] <|
.br true (.pf (p := true = true) rfl) <|
.reg 4 [] [] [.pf (Eq.refl 8), .pf (p := (0 : Int) ≤ 6) (by decide), .pf (p := 6 < 8) (by decide), .pf (Eq.refl 8), .pf (p := (0 + 6) < 8) (by decide)] <|
.call (@F_warrant_Plain_ok a1) fun rv19 cv19 =>
.reg 6 [] [(1, hc cv19 [] true)] [.cl 0 cv19 [] 15 true] <|
.cut none [7, 13, 15, 32, 33, 34] (fun (sv20 : Int) => [(16, (vi sv20))]) (fun (_ : Int) => []) (
.ite rv19 (
.call (@F_control_Control_7_ok a1 a5) fun rv21 cv21 =>
.reg 7 [] [(2, hc cv21 [1, 5] true)] [.cl 0 cv21 [1, 5] 15 true] <|
.ret [] (.next rv21)) (
.ret [] (.next 1))) fun (sv20 : Int) =>
.guard [(((((((ck1 1 sv2) ++ (ck1 2 sv5)) ++ (ck1 3 sv8)) ++ (ck1 4 sv11)) ++ (ck1 5 sv14)) ++ (ck1 6 sv17)).length + 1) * (2 * 16) ≤ 2 ^ 48] <|
.reg 8 [] [(5, hv (AV.d (eL TApiCheck.e (ck1 7 sv20)))), (6, { h := .obj, cast := some (AV.ref 8 ((((((((ck1 1 sv2) ++ (ck1 2 sv5)) ++ (ck1 3 sv8)) ++ (ck1 4 sv11)) ++ (ck1 5 sv14)) ++ (ck1 6 sv17)) ++ (ck1 7 sv20)).length) 0 ((((((((ck1 1 sv2) ++ (ck1 2 sv5)) ++ (ck1 3 sv8)) ++ (ck1 4 sv11)) ++ (ck1 5 sv14)) ++ (ck1 6 sv17)) ++ (ck1 7 sv20)).length)), obs := [(8, (eS 2 TApiCheck.e (((((((ck1 1 sv2) ++ (ck1 2 sv5)) ++ (ck1 3 sv8)) ++ (ck1 4 sv11)) ++ (ck1 5 sv14)) ++ (ck1 6 sv17)) ++ (ck1 7 sv20))))] })] [.pf (leV_lit TApiCheck.e (ck1 7 sv20)), .pf (Eq.refl (((((((ck1 1 sv2) ++ (ck1 2 sv5)) ++ (ck1 3 sv8)) ++ (ck1 4 sv11)) ++ (ck1 5 sv14)) ++ (ck1 6 sv17)).length)), .pf (Eq.refl (((((((ck1 1 sv2) ++ (ck1 2 sv5)) ++ (ck1 3 sv8)) ++ (ck1 4 sv11)) ++ (ck1 5 sv14)) ++ (ck1 6 sv17)).length)), .pf (p := ∀ k, k < 1 → (AV.d (TApiCheck.e ((ck1 7 sv20).getD k default))).wd = 2) (fun _ _ => rfl), .ev 0, .pf (leV_app (o := 8) (l := ((((((ck1 1 sv2) ++ (ck1 2 sv5)) ++ (ck1 3 sv8)) ++ (ck1 4 sv11)) ++ (ck1 5 sv14)) ++ (ck1 6 sv17))) (x := (ck1 7 sv20))), .pf (oLe_app (sz := 2) (e := TApiCheck.e) (l := ((((((ck1 1 sv2) ++ (ck1 2 sv5)) ++ (ck1 3 sv8)) ++ (ck1 4 sv11)) ++ (ck1 5 sv14)) ++ (ck1 6 sv17))) (x := (ck1 7 sv20)))] <|
.br true (.pf (p := true = true) rfl) <|
.reg 4 [] [] [.pf (Eq.refl 8), .pf (p := (0 : Int) ≤ 7) (by decide), .pf (p := 7 < 8) (by decide), .pf (Eq.refl 8), .pf (p := (0 + 7) < 8) (by decide)] <|
.call (@F_warrant_Plain_ok a1) fun rv22 cv22 =>
.reg 6 [] [(1, hc cv22 [] true)] [.cl 0 cv22 [] 16 true] <|
.cut none [7, 13, 15, 32, 33, 34] (fun (sv23 : Int) => [(16, (vi sv23))]) (fun (_ : Int) => []) (
.ite rv22 (
.call (@F_control_Control_8_ok a1 a2 a4) fun rv24 cv24 =>
.reg 7 [] [(2, hc cv24 [1, 2, 4] true)] [.cl 0 cv24 [1, 2, 4] 16 true] <|
.ret [] (.next rv24)) (
.ret [] (.next 1))) fun (sv23 : Int) =>
.guard [((((((((ck1 1 sv2) ++ (ck1 2 sv5)) ++ (ck1 3 sv8)) ++ (ck1 4 sv11)) ++ (ck1 5 sv14)) ++ (ck1 6 sv17)) ++ (ck1 7 sv20)).length + 1) * (2 * 16) ≤ 2 ^ 48] <|
.reg 8 [] [(5, hv (AV.d (eL TApiCheck.e (ck1 8 sv23)))), (6, { h := .obj, cast := some (AV.ref 8 (((((((((ck1 1 sv2) ++ (ck1 2 sv5)) ++ (ck1 3 sv8)) ++ (ck1 4 sv11)) ++ (ck1 5 sv14)) ++ (ck1 6 sv17)) ++ (ck1 7 sv20)) ++ (ck1 8 sv23)).length) 0 (((((((((ck1 1 sv2) ++ (ck1 2 sv5)) ++ (ck1 3 sv8)) ++ (ck1 4 sv11)) ++ (ck1 5 sv14)) ++ (ck1 6 sv17)) ++ (ck1 7 sv20)) ++ (ck1 8 sv23)).length)), obs := [(8, (eS 2 TApiCheck.e ((((((((ck1 1 sv2) ++ (ck1 2 sv5)) ++ (ck1 3 sv8)) ++ (ck1 4 sv11)) ++ (ck1 5 sv14)) ++ (ck1 6 sv17)) ++ (ck1 7 sv20)) ++ (ck1 8 sv23))))] })] [.pf (leV_lit TApiCheck.e (ck1 8 sv23)), .pf (Eq.refl ((((((((ck1 1 sv2) ++ (ck1 2 sv5)) ++ (ck1 3 sv8)) ++ (ck1 4 sv11)) ++ (ck1 5 sv14)) ++ (ck1 6 sv17)) ++ (ck1 7 sv20)).length)), .pf (Eq.refl ((((((((ck1 1 sv2) ++ (ck1 2 sv5)) ++ (ck1 3 sv8)) ++ (ck1 4 sv11)) ++ (ck1 5 sv14)) ++ (ck1 6 sv17)) ++ (ck1 7 sv20)).length)), .pf (p := ∀ k, k < 1 → (AV.d (TApiCheck.e ((ck1 8 sv23).getD k default))).wd = 2) (fun _ _ => rfl), .ev 0, .pf (leV_app (o := 8) (l := (((((((ck1 1 sv2) ++ (ck1 2 sv5)) ++ (ck1 3 sv8)) ++ (ck1 4 sv11)) ++ (ck1 5 sv14)) ++ (ck1 6 sv17)) ++ (ck1 7 sv20))) (x := (ck1 8 sv23))), .pf (oLe_app (sz := 2) (e := TApiCheck.e) (l := (((((((ck1 1 sv2) ++ (ck1 2 sv5)) ++ (ck1 3 sv8)) ++ (ck1 4 sv11)) ++ (ck1 5 sv14)) ++ (ck1 6 sv17)) ++ (ck1 7 sv20))) (x := (ck1 8 sv23)))] <|
.br false (.pf (p := false = false) rfl) <|
.guard [((((((((ck1 1 sv2) ++ (ck1 2 sv5)) ++ (ck1 3 sv8)) ++ (ck1 4 sv11)) ++ (ck1 5 sv14)) ++ (ck1 6 sv17)) ++ (ck1 7 sv20)) ++ (ck1 8 sv23)).length < 2 ^ 63] <|
.reg 10 [] [] [] <|
.frz 8 (.ev 0) none [12] [] <|
.ret [] ((((((((ck1 1 sv2) ++ (ck1 2 sv5)) ++ (ck1 3 sv8)) ++ (ck1 4 sv11)) ++ (ck1 5 sv14)) ++ (ck1 6 sv17)) ++ (ck1 7 sv20)) ++ (ck1 8 sv23))
def F_control_Control (a0 : (List Int)) (a1 : TApiWarrant) (a2 : TApiOffice) (a3 : (List TApiWarrant)) (a4 : TApiPot) (a5 : Int) : Option R_control_Control := (S_control_Control a0 a1 a2 a3 a4 a5).den
theorem F_control_Control_ok {a0 : (List Int)} {a1 : TApiWarrant} {a2 : TApiOffice} {a3 : (List TApiWarrant)} {a4 : TApiPot} {a5 : Int} (r : R_control_Control) (h : F_control_Control a0 a1 a2 a3 a4 a5 = some r) : CallOk Tryz.prog 17 [(AV.d (eL (DV.i .u64) a0)), (AV.d (TApiWarrant.e a1)), (AV.d (TApiOffice.e a2)), (AV.d (eL TApiWarrant.e a3)), (AV.d (TApiPot.e a4)), (vi a5)] [] (V_control_Control r) (L_control_Control r) := fOk (s := S_control_Control a0 a1 a2 a3 a4 a5) Tryz.func17 rfl (by kernel_rfl) h
abbrev R_control_First := Int
def V_control_First (x : R_control_First) : AV := (vi x)
def L_control_First (_ : R_control_First) : List Ob := []
def S_control_First_b1 (a0 : (List TApiCheck)) (iv1 : Nat) (_ : Unit) : Scr Tryz.prog R_control_First (Step (Unit) R_control_First) :=
.reg 3 [] [] [.pf (nn iv1), .ev 0] <|
.ite (((a0.getD iv1 default).Errs) != 0) (
.ret [] (.ret ((a0.getD iv1 default).Errs))) (
.ret [] (.cont ()))
def S_control_First (a0 : (List TApiCheck)) : Scr Tryz.prog R_control_First R_control_First :=
.range (a0.length : Int) a0.length rfl (.slot 5) 7 [5, 6] (fun (_ : Unit) => []) (fun (_ : Unit) => []) () (S_control_First_b1 a0) (fun (_ : Unit) => 
.ret [] 0) id
def F_control_First (a0 : (List TApiCheck)) : Option R_control_First := (S_control_First a0).den
theorem F_control_First_ok {a0 : (List TApiCheck)} (r : R_control_First) (h : F_control_First a0 = some r) : CallOk Tryz.prog 16 [(AV.d (eL TApiCheck.e a0))] [] (V_control_First r) (L_control_First r) := fOk (s := S_control_First a0) Tryz.func16 rfl (by kernel_rfl) h
abbrev R_warrant_compare := Int
def V_warrant_compare (x : R_warrant_compare) : AV := (vi x)
def L_warrant_compare (_ : R_warrant_compare) : List Ob := []
def S_warrant_compare (a0 : TApiWarrant) (a1 : TApiWarrant) : Scr Tryz.prog R_warrant_compare R_warrant_compare :=
.call (@F_cmp_Compare_int_ok a0.Number a1.Number) fun rv1 cv1 =>
.reg 1 [] [(4, hc cv1 [] true)] [.cl 0 cv1 [] 2 true] <|
.ret [] rv1
def F_warrant_compare (a0 : TApiWarrant) (a1 : TApiWarrant) : Option R_warrant_compare := (S_warrant_compare a0 a1).den
theorem F_warrant_compare_ok {a0 : TApiWarrant} {a1 : TApiWarrant} (r : R_warrant_compare) (h : F_warrant_compare a0 a1 = some r) : CallOk Tryz.prog 110 [(AV.d (TApiWarrant.e a0)), (AV.d (TApiWarrant.e a1))] [] (V_warrant_compare r) (L_warrant_compare r) := fOk (s := S_warrant_compare a0 a1) Tryz.func110 rfl (by kernel_rfl) h
abbrev R_slices_BSF_Warrant_warrant_compare := Int × Bool
def V_slices_BSF_Warrant_warrant_compare (x : R_slices_BSF_Warrant_warrant_compare) : AV := (AV.tup [(vi x.1), (vb x.2)])
def L_slices_BSF_Warrant_warrant_compare (_ : R_slices_BSF_Warrant_warrant_compare) : List Ob := []
def S_slices_BSF_Warrant_warrant_compare_b1 (a0 : (List TApiWarrant)) (a1 : TApiWarrant) (sv1 : Int × Int) : Scr Tryz.prog R_slices_BSF_Warrant_warrant_compare (Step (Int × Int) R_slices_BSF_Warrant_warrant_compare) :=
.ite (decide (sv1.1 < sv1.2)) (
.reg 4 [] [] [.pf (p := (0 : Int) ≤ 1) (by decide)] <|
.call (@F_warrant_compare_ok (a0.getD (((IntKind.i64.wrap ((IntKind.u64.wrap (IntKind.i64.wrap (sv1.1 + sv1.2))).fdiv (2 ^ (min (1 : Int).toNat IntKind.u64.bits))))).toNat) default) a1) fun rv2 cv2 =>
.guard [(0 : Int) ≤ (IntKind.i64.wrap ((IntKind.u64.wrap (IntKind.i64.wrap (sv1.1 + sv1.2))).fdiv (2 ^ (min (1 : Int).toNat IntKind.u64.bits)))), ((IntKind.i64.wrap ((IntKind.u64.wrap (IntKind.i64.wrap (sv1.1 + sv1.2))).fdiv (2 ^ (min (1 : Int).toNat IntKind.u64.bits))))).toNat < a0.length] <|
.reg 5 [] [(6, hc cv2 [] true)] [.ev 0, .ev 1, .cl 2 cv2 [] 1 true] <|
.ite (decide (rv2 < 0)) (
.ret [] (.cont ((IntKind.i64.wrap ((IntKind.i64.wrap ((IntKind.u64.wrap (IntKind.i64.wrap (sv1.1 + sv1.2))).fdiv (2 ^ (min (1 : Int).toNat IntKind.u64.bits)))) + 1)), sv1.2))) (
.ret [] (.cont (sv1.1, (IntKind.i64.wrap ((IntKind.u64.wrap (IntKind.i64.wrap (sv1.1 + sv1.2))).fdiv (2 ^ (min (1 : Int).toNat IntKind.u64.bits)))))))) (
.ret [] (.brk (sv1.1, sv1.2)))
def S_slices_BSF_Warrant_warrant_compare (a0 : (List TApiWarrant)) (a1 : TApiWarrant) : Scr Tryz.prog R_slices_BSF_Warrant_warrant_compare R_slices_BSF_Warrant_warrant_compare :=
.iter [0, 2, 4, 8] (fun (sv1 : Int × Int) => [(9, (vi sv1.1)), (10, (vi sv1.2))]) (fun (_ : Int × Int) => []) (0, (a0.length : Int)) (S_slices_BSF_Warrant_warrant_compare_b1 a0 a1) (fun (sv1 : Int × Int) =>
.calld [(decide (sv1.1 < (a0.length : Int))) = true] default (@F_warrant_compare_ok (a0.getD ((sv1.1).toNat) default) a1) fun rv3 cv3 =>
.guard [AllP [(decide (sv1.1 < (a0.length : Int))) = true] → ((0 : Int) ≤ sv1.1), AllP [(decide (sv1.1 < (a0.length : Int))) = true] → ((sv1.1).toNat < a0.length)] <|
.reg 8 [] [(11, hc cv3 [] true)] [.ev 0, .ev 1, .clg 2 [(decide (sv1.1 < (a0.length : Int))) = true] cv3 [] 1 true] <|
.ret [] (sv1.1, (bif (decide (sv1.1 < (a0.length : Int))) then (rv3 == 0) else false))) id
def F_slices_BSF_Warrant_warrant_compare (a0 : (List TApiWarrant)) (a1 : TApiWarrant) : Option R_slices_BSF_Warrant_warrant_compare := (S_slices_BSF_Warrant_warrant_compare a0 a1).den
theorem F_slices_BSF_Warrant_warrant_compare_ok {a0 : (List TApiWarrant)} {a1 : TApiWarrant} (r : R_slices_BSF_Warrant_warrant_compare) (h : F_slices_BSF_Warrant_warrant_compare a0 a1 = some r) : CallOk Tryz.prog 111 [(AV.d (eL TApiWarrant.e a0)), (AV.d (TApiWarrant.e a1)), (AV.fn 110 [])] [] (V_slices_BSF_Warrant_warrant_compare r) (L_slices_BSF_Warrant_warrant_compare r) := fOk (s := S_slices_BSF_Warrant_warrant_compare a0 a1) Tryz.func111 rfl (by kernel_rfl) h
abbrev R_warrant_Same := Bool
def V_warrant_Same (x : R_warrant_Same) : AV := (vb x)
def L_warrant_Same (_ : R_warrant_Same) : List Ob := []
def S_warrant_Same (a0 : TApiWarrant) (a1 : TApiWarrant) : Scr Tryz.prog R_warrant_Same R_warrant_Same :=
.ret [] (bif (bif (a0.Office == a1.Office) then (a0.Verification == a1.Verification) else false) then (a0.Attempt == a1.Attempt) else false)
def F_warrant_Same (a0 : TApiWarrant) (a1 : TApiWarrant) : Option R_warrant_Same := (S_warrant_Same a0 a1).den
theorem F_warrant_Same_ok {a0 : TApiWarrant} {a1 : TApiWarrant} (r : R_warrant_Same) (h : F_warrant_Same a0 a1 = some r) : CallOk Tryz.prog 113 [(AV.d (TApiWarrant.e a0)), (AV.d (TApiWarrant.e a1))] [] (V_warrant_Same r) (L_warrant_Same r) := fOk (s := S_warrant_Same a0 a1) Tryz.func113 rfl (by kernel_rfl) h
abbrev R_warrant_Add_1 := Bool
def V_warrant_Add_1 (x : R_warrant_Add_1) : AV := (vb x)
def L_warrant_Add_1 (p0 : TApiWarrant) (_ : R_warrant_Add_1) : List Ob := [(bx (TApiWarrant.e p0))]
def S_warrant_Add_1 (a0 : TApiWarrant) (p0 : TApiWarrant) : Scr Tryz.prog R_warrant_Add_1 R_warrant_Add_1 :=
.call (@F_warrant_Same_ok a0 p0) fun rv1 cv1 =>
.reg 1 [] [(2, hc cv1 [] true)] [.cl 0 cv1 [] 2 true] <|
.ret [] rv1
def F_warrant_Add_1 (a0 : TApiWarrant) (p0 : TApiWarrant) : Option R_warrant_Add_1 := (S_warrant_Add_1 a0 p0).den
theorem F_warrant_Add_1_ok {a0 : TApiWarrant} {p0 : TApiWarrant} (r : R_warrant_Add_1) (h : F_warrant_Add_1 a0 p0 = some r) : CallOk Tryz.prog 112 [(AV.d (TApiWarrant.e a0)), (vp 0)] [(bx (TApiWarrant.e p0))] (V_warrant_Add_1 r) (L_warrant_Add_1 p0 r) := fOk (s := S_warrant_Add_1 a0 p0) Tryz.func112 rfl (by kernel_rfl) h
abbrev R_slices_IndexFunc_Warrant_warrant_Add_1 := Int
def V_slices_IndexFunc_Warrant_warrant_Add_1 (x : R_slices_IndexFunc_Warrant_warrant_Add_1) : AV := (vi x)
def L_slices_IndexFunc_Warrant_warrant_Add_1 (p0 : TApiWarrant) (_ : R_slices_IndexFunc_Warrant_warrant_Add_1) : List Ob := [(bx (TApiWarrant.e p0))]
def S_slices_IndexFunc_Warrant_warrant_Add_1_b1 (a0 : (List TApiWarrant)) (p0 : TApiWarrant) (iv1 : Nat) (_ : Unit) : Scr Tryz.prog R_slices_IndexFunc_Warrant_warrant_Add_1 (Step (Unit) R_slices_IndexFunc_Warrant_warrant_Add_1) :=
.call (@F_warrant_Add_1_ok (a0.getD iv1 default) p0) fun rv2 cv2 =>
.reg 4 [] [(5, hc cv2 [0] true)] [.pf (nn iv1), .ev 1, .cl 0 cv2 [0] 1 true] <|
.ite rv2 (
.ret [] (.ret (iv1 : Int))) (
.ret [] (.cont ()))
def S_slices_IndexFunc_Warrant_warrant_Add_1 (a0 : (List TApiWarrant)) (p0 : TApiWarrant) : Scr Tryz.prog R_slices_IndexFunc_Warrant_warrant_Add_1 R_slices_IndexFunc_Warrant_warrant_Add_1 :=
.range (a0.length : Int) a0.length rfl (.slot 0) 8 [0, 1, 7] (fun (_ : Unit) => []) (fun (_ : Unit) => []) () (S_slices_IndexFunc_Warrant_warrant_Add_1_b1 a0 p0) (fun (_ : Unit) => 
.ret [] (-1)) id
def F_slices_IndexFunc_Warrant_warrant_Add_1 (a0 : (List TApiWarrant)) (p0 : TApiWarrant) : Option R_slices_IndexFunc_Warrant_warrant_Add_1 := (S_slices_IndexFunc_Warrant_warrant_Add_1 a0 p0).den
theorem F_slices_IndexFunc_Warrant_warrant_Add_1_ok {a0 : (List TApiWarrant)} {p0 : TApiWarrant} (r : R_slices_IndexFunc_Warrant_warrant_Add_1) (h : F_slices_IndexFunc_Warrant_warrant_Add_1 a0 p0 = some r) : CallOk Tryz.prog 72 [(AV.d (eL TApiWarrant.e a0)), (AV.fn 112 [(vp 0)])] [(bx (TApiWarrant.e p0))] (V_slices_IndexFunc_Warrant_warrant_Add_1 r) (L_slices_IndexFunc_Warrant_warrant_Add_1 p0 r) := fOk (s := S_slices_IndexFunc_Warrant_warrant_Add_1 a0 p0) Tryz.func72 rfl (by kernel_rfl) h
abbrev R_slices_CoF_Warrant_warrant_Add_1 := Bool
def V_slices_CoF_Warrant_warrant_Add_1 (x : R_slices_CoF_Warrant_warrant_Add_1) : AV := (vb x)
def L_slices_CoF_Warrant_warrant_Add_1 (p0 : TApiWarrant) (_ : R_slices_CoF_Warrant_warrant_Add_1) : List Ob := [(bx (TApiWarrant.e p0))]
def S_slices_CoF_Warrant_warrant_Add_1 (a0 : (List TApiWarrant)) (p0 : TApiWarrant) : Scr Tryz.prog R_slices_CoF_Warrant_warrant_Add_1 R_slices_CoF_Warrant_warrant_Add_1 :=
.call (@F_slices_IndexFunc_Warrant_warrant_Add_1_ok a0 p0) fun rv1 cv1 =>
.reg 1 [] [(2, hc cv1 [0] true)] [.cl 0 cv1 [0] 1 true] <|
.ret [] (decide (rv1 ≥ 0))
def F_slices_CoF_Warrant_warrant_Add_1 (a0 : (List TApiWarrant)) (p0 : TApiWarrant) : Option R_slices_CoF_Warrant_warrant_Add_1 := (S_slices_CoF_Warrant_warrant_Add_1 a0 p0).den
theorem F_slices_CoF_Warrant_warrant_Add_1_ok {a0 : (List TApiWarrant)} {p0 : TApiWarrant} (r : R_slices_CoF_Warrant_warrant_Add_1) (h : F_slices_CoF_Warrant_warrant_Add_1 a0 p0 = some r) : CallOk Tryz.prog 96 [(AV.d (eL TApiWarrant.e a0)), (AV.fn 112 [(vp 0)])] [(bx (TApiWarrant.e p0))] (V_slices_CoF_Warrant_warrant_Add_1 r) (L_slices_CoF_Warrant_warrant_Add_1 p0 r) := fOk (s := S_slices_CoF_Warrant_warrant_Add_1 a0 p0) Tryz.func96 rfl (by kernel_rfl) h
abbrev R_slices_Clone_Warrant_rw := (List TApiWarrant)
def V_slices_Clone_Warrant_rw (x : R_slices_Clone_Warrant_rw) : AV := (AV.ref 0 x.length 0 x.length)
def L_slices_Clone_Warrant_rw (x : R_slices_Clone_Warrant_rw) : List Ob := [(eS 14 TApiWarrant.e x)]
def S_slices_Clone_Warrant_rw (a0 : (List TApiWarrant)) : Scr Tryz.prog R_slices_Clone_Warrant_rw R_slices_Clone_Warrant_rw :=
.reg 0 [] [] [] <|
.nils 0 (
.guard [a0.length * (2 * 120) ≤ 2 ^ 48] <|
.reg 1 [] [] [] <|
.lev 0 (AV.d (eL TApiWarrant.e a0)) (.pf (lvQ true a0.length fun j => (TApiWarrant.e (a0.getD j default)))) <|
.br true (.pf (p := true = true) rfl) <|
.reg 2 [] [] [] <|
.bor 14 (fun j => AV.d (TApiWarrant.e (a0.getD j default))) [2] <|
.cst (A := a0.length = 0) (.ev 1) [(2, AV.ref 0 0 0 0)] [(2, (AV.ref 0 a0.length 0 a0.length))] [(Ob.seq 14 0 fun j => AV.d (TApiWarrant.e (a0.getD j default)))] [(eS 14 TApiWarrant.e a0)] (fun h => ⟨by rw [h], by unfold eS; rw [h]⟩) <|
.ret [] a0) (
.reg 1 [] [] [] <|
.lev 0 (AV.d (eL TApiWarrant.e a0)) (.pf (lvQ false a0.length fun j => (TApiWarrant.e (a0.getD j default)))) <|
.br false (.pf (p := false = false) rfl) <|
.guard [a0.length * (2 * 120) ≤ 2 ^ 48] <|
.reg 3 [] [(2, { h := .obj })] [.pf (p := ∀ k, k < a0.length → (AV.d (TApiWarrant.e (a0.getD k default))).wd = 14) (fun _ _ => rfl), .ev 0] <|
.ret [] a0)
def F_slices_Clone_Warrant_rw (a0 : (List TApiWarrant)) : Option R_slices_Clone_Warrant_rw := (S_slices_Clone_Warrant_rw a0).den
theorem F_slices_Clone_Warrant_rw_ok {a0 : (List TApiWarrant)} (r : R_slices_Clone_Warrant_rw) (h : F_slices_Clone_Warrant_rw a0 = some r) : CallOk Tryz.prog 75 [(AV.d (eL TApiWarrant.e a0))] [] (V_slices_Clone_Warrant_rw r) (L_slices_Clone_Warrant_rw r) := fOk (s := S_slices_Clone_Warrant_rw a0) Tryz.func75 rfl (by kernel_rfl) h
abbrev R_slices_Insert_Warrant := List TApiWarrant
def V_slices_Insert_Warrant (x : R_slices_Insert_Warrant) : AV := .ref 0 x.length 0 x.length
def L_slices_Insert_Warrant (p1 : List TApiWarrant) (x : R_slices_Insert_Warrant) : List Ob := [eS 14 TApiWarrant.e x, eS 14 TApiWarrant.e p1]
def F_slices_Insert_Warrant (a1 : Int) (p0 p1 : List TApiWarrant) : Option R_slices_Insert_Warrant := match p1 with
  | [y] => guardP (0 ≤ a1 ∧ a1.toNat ≤ p0.length ∧ (p0.length + 1) * (4 * 120) ≤ 2 ^ 48) (some (insL p0 a1.toNat y))
  | _ => none
theorem F_slices_Insert_Warrant_ok {a1 : Int} {p0 p1 : List TApiWarrant} (r : R_slices_Insert_Warrant) (h : F_slices_Insert_Warrant a1 p0 p1 = some r) : CallOk Tryz.prog 114 [(AV.ref 0 p0.length 0 p0.length), (AV.d (.i .i64 a1)), (AV.ref 1 p1.length 0 p1.length)] [(eS 14 TApiWarrant.e p0), (eS 14 TApiWarrant.e p1)] (V_slices_Insert_Warrant r) (L_slices_Insert_Warrant p1 r) := by
  unfold F_slices_Insert_Warrant at h
  split at h
  · rename_i y
    obtain ⟨⟨h1, h2, h3⟩, h⟩ := guardP_some h
    obtain rfl := Option.some.inj h
    obtain ⟨i, rfl⟩ : ∃ i : Nat, a1 = (i : Int) := ⟨a1.toNat, (Int.toNat_of_nonneg h1).symm⟩
    exact Ins114.ins_ok (fun _ => rfl) h2 h3
  · cases h
theorem cz9 : LeV (AV.tup [(AV.full 0 fun _ => DV.b false), (vi 1)]) (AV.tup [(AV.d (eL TApiWarrant.e ([]))), (vi 1)]) := LeV.tup (LeVs.cons (lvN TApiWarrant.e) (LeVs.cons (LeV.refl _) LeVs.nil))
theorem cz10 : LeV (AV.tup [(AV.full 0 fun _ => DV.b false), (vi 7)]) (AV.tup [(AV.d (eL TApiWarrant.e ([]))), (vi 7)]) := LeV.tup (LeVs.cons (lvN TApiWarrant.e) (LeVs.cons (LeV.refl _) LeVs.nil))
theorem cz11 : LeV (AV.tup [(AV.full 0 fun _ => DV.b false), (vi 20)]) (AV.tup [(AV.d (eL TApiWarrant.e ([]))), (vi 20)]) := LeV.tup (LeVs.cons (lvN TApiWarrant.e) (LeVs.cons (LeV.refl _) LeVs.nil))
theorem cz12 : LeV (AV.tup [(AV.full 0 fun _ => DV.b false), (vi 3)]) (AV.tup [(AV.d (eL TApiWarrant.e ([]))), (vi 3)]) := LeV.tup (LeVs.cons (lvN TApiWarrant.e) (LeVs.cons (LeV.refl _) LeVs.nil))
abbrev R_warrant_Add := (List TApiWarrant) × Int
def V_warrant_Add (x : R_warrant_Add) : AV := (AV.tup [(AV.d (eL TApiWarrant.e x.1)), (vi x.2)])
def L_warrant_Add (_ : R_warrant_Add) : List Ob := []
def S_warrant_Add_b1 (a0 : (List TApiWarrant)) (sv1 : Int) : Scr Tryz.prog R_warrant_Add (Step (Int) R_warrant_Add) :=
.ite (decide (sv1 < (a0.length : Int))) (
.call (@F_warrant_compare_ok (a0.getD (((IntKind.i64.wrap (sv1 - 1))).toNat) default) (a0.getD ((sv1).toNat) default)) fun rv2 cv2 =>
.guard [(0 : Int) ≤ (IntKind.i64.wrap (sv1 - 1)), ((IntKind.i64.wrap (sv1 - 1))).toNat < a0.length, (0 : Int) ≤ sv1, (sv1).toNat < a0.length] <|
.reg 6 [] [(9, hc cv2 [] true)] [.ev 0, .ev 1, .ev 2, .ev 3, .cl 4 cv2 [] 1 true] <|
.ite (decide (rv2 ≥ 0)) (
.ret [.pf cz9] (.ret ([], 1))) (
.ret [] (.cont (IntKind.i64.wrap (sv1 + 1))))) (
.ret [] (.brk sv1))
def S_warrant_Add (a0 : (List TApiWarrant)) (a1 : TApiWarrant) : Scr Tryz.prog R_warrant_Add R_warrant_Add :=
.call (@F_warrant_Plain_ok a1) fun rv3 cv3 =>
.reg 1 [] [(1, hc cv3 [] true)] [.cl 0 cv3 [] 1 true] <|
.ite (!rv3) (
.ret [.pf cz9] ([], 1)) (
.iter [0, 3] (fun (sv1 : Int) => [(6, (vi sv1))]) (fun (_ : Int) => []) 1 (S_warrant_Add_b1 a0) (fun (_ : Int) =>
.call (@F_slices_BSF_Warrant_warrant_compare_ok a0 a1) fun rv4 cv4 =>
.reg 8 [] [(2, hc cv4 [] true)] [.cl 0 cv4 [] 1 true] <|
.ite rv4.2 (
.ret [.pf cz10] ([], 7)) (
.call (@F_slices_CoF_Warrant_warrant_Add_1_ok a0 a1) fun rv5 cv5 =>
.reg 11 [] [(2, hc cv5 [0] true)] [.cl 0 cv5 [0] 1 true] <|
.ite rv5 (
.ret [.pf cz11] ([], 20)) (
.ite (decide ((a0.length : Int) ≥ 200)) (
.ret [.pf cz12] ([], 3)) (
.bor 14 (fun _ => AV.bot) [] <|
.call (@F_slices_Clone_Warrant_rw_ok a0) fun rv6 cv6 =>
.call (@F_slices_Insert_Warrant_ok rv4.1 rv6 ([a1] : List TApiWarrant)) fun rv7 cv7 =>
.reg 15 [1, 4, 5] [(1, hc cv6 [] false), (4, { h := .born 1 true, obs := [(1, (eS 14 TApiWarrant.e ([a1] : List TApiWarrant)))] }), (5, hc cv7 [2, 1] false)] [.cl 1 cv6 [] 2 false, .cl 1 cv6 [] 2 false, .pf (oLe_lit (sz := 14) (e := TApiWarrant.e) (l := ([a1] : List TApiWarrant))), .pf (oLe_lit (sz := 14) (e := TApiWarrant.e) (l := ([a1] : List TApiWarrant))), .cl 0 cv7 [2, 1] 3 false] <|
.guard [rv7.length < 2 ^ 63] <|
.frz 2 (.ev 0) none [4] [] <|
.ret [] (rv7, 0))))) id)
def F_warrant_Add (a0 : (List TApiWarrant)) (a1 : TApiWarrant) : Option R_warrant_Add := (S_warrant_Add a0 a1).den
theorem F_warrant_Add_ok {a0 : (List TApiWarrant)} {a1 : TApiWarrant} (r : R_warrant_Add) (h : F_warrant_Add a0 a1 = some r) : CallOk Tryz.prog 71 [(AV.d (eL TApiWarrant.e a0)), (AV.d (TApiWarrant.e a1))] [] (V_warrant_Add r) (L_warrant_Add r) := fOk (s := S_warrant_Add a0 a1) Tryz.func71 rfl (by kernel_rfl) h
abbrev R_control_Pays := (List TApiWarrant) × Int
def V_control_Pays (x : R_control_Pays) : AV := (AV.tup [(AV.d (eL TApiWarrant.e x.1)), (vi x.2)])
def L_control_Pays (_ : R_control_Pays) : List Ob := []
def S_control_Pays (a0 : (List Int)) (a1 : TApiWarrant) (a2 : TApiOffice) (a3 : (List TApiWarrant)) (a4 : TApiPot) (a5 : Int) : Scr Tryz.prog R_control_Pays R_control_Pays :=
.call (@F_control_Control_ok a0 a1 a2 a3 a4 a5) fun rv1 cv1 =>
.call (@F_control_First_ok rv1) fun rv2 cv2 =>
.reg 1 [] [(6, hc cv1 [] true), (7, hc cv2 [] true)] [.cl 1 cv1 [] 3 true, .cl 0 cv2 [] 3 true] <|
.ite (rv2 != 0) (
.ret [.pf (p := LeV (AV.tup [(AV.full 0 fun _ => DV.b false), (vi rv2)]) (AV.tup [(AV.d (eL TApiWarrant.e ([]))), (vi rv2)])) (LeV.tup (LeVs.cons (lvN TApiWarrant.e) (LeVs.cons (LeV.refl _) LeVs.nil)))] ([], rv2)) (
.call (@F_warrant_Add_ok a3 a1) fun rv3 cv3 =>
.reg 4 [] [(2, hc cv3 [] true)] [.cl 0 cv3 [] 3 true] <|
.ret [] (rv3.1, rv3.2))
def F_control_Pays (a0 : (List Int)) (a1 : TApiWarrant) (a2 : TApiOffice) (a3 : (List TApiWarrant)) (a4 : TApiPot) (a5 : Int) : Option R_control_Pays := (S_control_Pays a0 a1 a2 a3 a4 a5).den
theorem F_control_Pays_ok {a0 : (List Int)} {a1 : TApiWarrant} {a2 : TApiOffice} {a3 : (List TApiWarrant)} {a4 : TApiPot} {a5 : Int} (r : R_control_Pays) (h : F_control_Pays a0 a1 a2 a3 a4 a5 = some r) : CallOk Tryz.prog 27 [(AV.d (eL (DV.i .u64) a0)), (AV.d (TApiWarrant.e a1)), (AV.d (TApiOffice.e a2)), (AV.d (eL TApiWarrant.e a3)), (AV.d (TApiPot.e a4)), (vi a5)] [] (V_control_Pays r) (L_control_Pays r) := fOk (s := S_control_Pays a0 a1 a2 a3 a4 a5) Tryz.func27 rfl (by kernel_rfl) h
abbrev R_w20_awake := Bool
def V_w20_awake (x : R_w20_awake) : AV := (vb x)
def L_w20_awake (_ : R_w20_awake) : List Ob := []
def S_w20_awake_b1 (rv1 : R_control_Control) (iv2 : Nat) (_ : Unit) : Scr Tryz.prog R_w20_awake (Step (Unit) R_w20_awake) :=
.reg 14 [] [] [.pf (nn iv2), .ev 0] <|
.ite (!((((rv1.getD iv2 default).Errs) == 0) == (((rv1.getD iv2 default).Kind) != 4))) (
.ret [] (.ret false)) (
.ret [] (.cont ()))
def S_w20_awake : Scr Tryz.prog R_w20_awake R_w20_awake :=
.call (@F_w20_small_ok) fun rv3 cv3 =>
.reg 1 [] [(0, hc cv3 [] true), (1, { obs := [(0, (bx (TTreasurymakeCase.e (⟨[], (⟨0, [], (⟨[], [], [], []⟩ : TApiBook)⟩ : TApiOffice), (⟨[], 0, 0, [], [], [], []⟩ : TApiPot), [], 0⟩ : TTreasurymakeCase))))] })] [.cl 0 cv3 [] 0 true, .pf cz7] <|
.call (@F_mk_Signed_ok rv3 1 7) fun rv4 cv4 =>
.reg 2 [] [(1, hc cv4 [] true)] [.cl 0 cv4 [] 1 true] <|
.call (@F_control_Pays_ok rv3.Keys rv4.1 rv3.Office ([]) rv3.Pot rv3.Day) fun rv5 cv5 =>
.reg 3 [] [(9, hc cv5 [] true)] [.cl 0 cv5 [] 2 true] <|
.call (@F_control_Pays_ok rv3.Keys rv4.1 rv3.Office rv5.1 rv3.Pot rv3.Day) fun rv6 cv6 =>
.reg 4 [] [(10, hc cv6 [] true)] [.cl 0 cv6 [] 2 true] <|
.call (@F_r19_Sign_ok rv3.Keys (⟨rv4.1.Number, rv4.1.Office, rv4.1.Code, rv4.1.Year, rv4.1.Verification, rv4.1.Attempt, rv4.1.Commitment, rv4.1.Reservation, (IntKind.i64.wrap (rv4.1.Amount + 1)), rv4.1.Payee, rv4.1.Day, rv4.1.Due, rv4.1.First, rv4.1.Second⟩ : TApiWarrant) false) fun rv7 cv7 =>
.reg 7 [] [(3, hc cv7 [] true)] [.cl 0 cv7 [] 3 true] <|
.call (@F_r19_Sign_ok rv3.Keys rv7.1 true) fun rv8 cv8 =>
.reg 8 [] [(3, hc cv8 [] true)] [.cl 0 cv8 [] 3 true] <|
.call (@F_control_Control_ok rv3.Keys rv8.1 rv3.Office ([]) rv3.Pot rv3.Day) fun rv1 cv1 =>
.reg 9 [] [(9, hc cv1 [] true)] [.cl 0 cv1 [] 3 true] <|
.ite (bif (bif (bif (bif (!rv4.2) then true else (rv5.2 != 0)) then true else ((rv5.1.length : Int) != 1)) then true else (rv6.2 != 7)) then true else ((rv1.length : Int) != 8)) (
.ret [] false) (
.range (rv1.length : Int) rv1.length rfl (.slot 94) 96 [94, 95] (fun (_ : Unit) => []) (fun (_ : Unit) => []) () (S_w20_awake_b1 rv1) (fun (_ : Unit) => 
.ret [] true) id)
def F_w20_awake : Option R_w20_awake := (S_w20_awake).den
theorem F_w20_awake_ok (r : R_w20_awake) (h : F_w20_awake = some r) : CallOk Tryz.prog 13 [] [] (V_w20_awake r) (L_w20_awake r) := fOk (s := S_w20_awake) Tryz.func13 rfl (by kernel_rfl) h
end
end Go.Proofs.YtclaojamgomjbaaGreatDoor
/- What the functions compute, and that their calls return it. No condition. -/
namespace Go.Proofs.YtclaojamgomjbaaGreatDoor
open Go Go.TA
noncomputable section
set_option maxRecDepth 100000
end
end Go.Proofs.YtclaojamgomjbaaGreatDoor
/- What the functions compute, and that their calls return it. No condition. -/
namespace Go.Proofs.YtclaojamgomjbaaGreatDoor
open Go Go.TA
noncomputable section
set_option maxRecDepth 100000
end
end Go.Proofs.YtclaojamgomjbaaGreatDoor
/- What the functions compute, and that their calls return it. No condition. -/
namespace Go.Proofs.YtclaojamgomjbaaGreatDoor
open Go Go.TA
noncomputable section
set_option maxRecDepth 100000
abbrev R_control_Returned_1 := Bool
def V_control_Returned_1 (x : R_control_Returned_1) : AV := (vb x)
def L_control_Returned_1 (p0 : Int) (_ : R_control_Returned_1) : List Ob := [(Ob.box (vi p0))]
def S_control_Returned_1 (a0 : TApiWarrant) (p0 : Int) : Scr Tryz.prog R_control_Returned_1 R_control_Returned_1 :=
.ret [] (a0.Number == p0)
def F_control_Returned_1 (a0 : TApiWarrant) (p0 : Int) : Option R_control_Returned_1 := (S_control_Returned_1 a0 p0).den
theorem F_control_Returned_1_ok {a0 : TApiWarrant} {p0 : Int} (r : R_control_Returned_1) (h : F_control_Returned_1 a0 p0 = some r) : CallOk Tryz.prog 73 [(AV.d (TApiWarrant.e a0)), (vp 0)] [(Ob.box (vi p0))] (V_control_Returned_1 r) (L_control_Returned_1 p0 r) := fOk (s := S_control_Returned_1 a0 p0) Tryz.func73 rfl (by kernel_rfl) h
abbrev R_slices_IndexFunc_Warrant_control_Returned_1 := Int
def V_slices_IndexFunc_Warrant_control_Returned_1 (x : R_slices_IndexFunc_Warrant_control_Returned_1) : AV := (vi x)
def L_slices_IndexFunc_Warrant_control_Returned_1 (p0 : Int) (_ : R_slices_IndexFunc_Warrant_control_Returned_1) : List Ob := [(Ob.box (vi p0))]
def S_slices_IndexFunc_Warrant_control_Returned_1_b1 (a0 : (List TApiWarrant)) (p0 : Int) (iv1 : Nat) (_ : Unit) : Scr Tryz.prog R_slices_IndexFunc_Warrant_control_Returned_1 (Step (Unit) R_slices_IndexFunc_Warrant_control_Returned_1) :=
.call (@F_control_Returned_1_ok (a0.getD iv1 default) p0) fun rv2 cv2 =>
.reg 4 [] [(5, hc cv2 [0] true)] [.pf (nn iv1), .ev 1, .cl 0 cv2 [0] 1 true] <|
.ite rv2 (
.ret [] (.ret (iv1 : Int))) (
.ret [] (.cont ()))
def S_slices_IndexFunc_Warrant_control_Returned_1 (a0 : (List TApiWarrant)) (p0 : Int) : Scr Tryz.prog R_slices_IndexFunc_Warrant_control_Returned_1 R_slices_IndexFunc_Warrant_control_Returned_1 :=
.range (a0.length : Int) a0.length rfl (.slot 0) 8 [0, 1, 7] (fun (_ : Unit) => []) (fun (_ : Unit) => []) () (S_slices_IndexFunc_Warrant_control_Returned_1_b1 a0 p0) (fun (_ : Unit) => 
.ret [] (-1)) id
def F_slices_IndexFunc_Warrant_control_Returned_1 (a0 : (List TApiWarrant)) (p0 : Int) : Option R_slices_IndexFunc_Warrant_control_Returned_1 := (S_slices_IndexFunc_Warrant_control_Returned_1 a0 p0).den
theorem F_slices_IndexFunc_Warrant_control_Returned_1_ok {a0 : (List TApiWarrant)} {p0 : Int} (r : R_slices_IndexFunc_Warrant_control_Returned_1) (h : F_slices_IndexFunc_Warrant_control_Returned_1 a0 p0 = some r) : CallOk Tryz.prog 72 [(AV.d (eL TApiWarrant.e a0)), (AV.fn 73 [(vp 0)])] [(Ob.box (vi p0))] (V_slices_IndexFunc_Warrant_control_Returned_1 r) (L_slices_IndexFunc_Warrant_control_Returned_1 p0 r) := fOk (s := S_slices_IndexFunc_Warrant_control_Returned_1 a0 p0) Tryz.func72 rfl (by kernel_rfl) h
abbrev R_slices_Delete_Warrant := (List TApiWarrant)
def V_slices_Delete_Warrant (x : R_slices_Delete_Warrant) : AV := (AV.d (eL TApiWarrant.e x))
def L_slices_Delete_Warrant (_ : R_slices_Delete_Warrant) : List Ob := [Ob.dead]
def S_slices_Delete_Warrant (a1 : Int) (a2 : Int) (p0 : (List TApiWarrant)) : Scr Tryz.prog R_slices_Delete_Warrant R_slices_Delete_Warrant :=
.guard [(0 : Int) ≤ a1, (0 : Int) ≤ a2, (a1).toNat ≤ (a2).toNat, (a2).toNat ≤ p0.length] <|
.reg 1 [] [] [.ev 0, .ev 1, .ev 2, .ev 3, .pf (Eq.refl p0.length), .pf (nn p0.length), .ev 3, .pf (p := p0.length ≤ p0.length) (Nat.le_refl _)] <|
.ite (a1 == a2) (
.guard [p0.length < 2 ^ 63] <|
.reg 3 [] [] [] <|
.frz 0 (.ev 0) none [6] [] <|
.ret [] p0) (
.guard [(a1).toNat ≤ p0.length, ((a1).toNat - 0) + (p0.length - (a2).toNat) ≤ p0.length] <|
.reg 5 [6] [(6, { h := .imm, obs := [(0, (eS 14 TApiWarrant.e (copyL p0 ((a1).toNat - 0) (p0.length - (a2).toNat) (fun i => (p0.getD ((0 + (a2).toNat) + i) default)))))] })] [.ev 3, .ev 0, .pf (Eq.refl p0.length), .ev 4, .ev 6, .pf (Eq.refl p0.length), .pf (Eq.refl p0.length), .pf (Eq.refl p0.length), .ev 1, .pf (p := ∀ k, k < (p0.length - (a2).toNat) → (AV.d (TApiWarrant.e (p0.getD ((0 + (a2).toNat) + k) default))).wd = 14) (fun _ _ => rfl), .pf (oLe_copy (sz := 14) (e := TApiWarrant.e) (l := p0) (off := ((a1).toNat - 0)) (k := (p0.length - (a2).toNat)) (s := (fun i => (p0.getD ((0 + (a2).toNat) + i) default))))] <|
.cst (A := True) (.pf trivial) [(0, (AV.ref 0 p0.length 0 (((a1).toNat - 0) + (p0.length - (a2).toNat)))), (7, (vi (p0.length : Int)))] [(0, (AV.ref 0 ((copyL p0 ((a1).toNat - 0) (p0.length - (a2).toNat) (fun i => (p0.getD ((0 + (a2).toNat) + i) default))).length) 0 (((a1).toNat - 0) + (p0.length - (a2).toNat)))), (7, (vi (p0.length : Int)))] [(eS 14 TApiWarrant.e (copyL p0 ((a1).toNat - 0) (p0.length - (a2).toNat) (fun i => (p0.getD ((0 + (a2).toNat) + i) default))))] [(eS 14 TApiWarrant.e (copyL p0 ((a1).toNat - 0) (p0.length - (a2).toNat) (fun i => (p0.getD ((0 + (a2).toNat) + i) default))))] (fun _ => ⟨by simp only [copyL_length], by rfl⟩) <|
.guard [(((a1).toNat - 0) + (p0.length - (a2).toNat)) ≤ p0.length, p0.length ≤ (copyL p0 ((a1).toNat - 0) (p0.length - (a2).toNat) (fun i => (p0.getD ((0 + (a2).toNat) + i) default))).length] <|
.reg 6 [] [(5, { obs := [(0, (eS 14 TApiWarrant.e (clearL (copyL p0 ((a1).toNat - 0) (p0.length - (a2).toNat) (fun i => (p0.getD ((0 + (a2).toNat) + i) default))) (0 + (((a1).toNat - 0) + (p0.length - (a2).toNat))) (p0.length - (((a1).toNat - 0) + (p0.length - (a2).toNat))) (⟨0, 0, [], 0, 0, 0, 0, 0, 0, 0, 0, 0, 0, 0⟩ : TApiWarrant))))] })] [.pf (nn (((a1).toNat - 0) + (p0.length - (a2).toNat))), .pf (nn p0.length), .ev 0, .ev 1, .pf (Eq.refl ((copyL p0 ((a1).toNat - 0) (p0.length - (a2).toNat) (fun i => (p0.getD ((0 + (a2).toNat) + i) default))).length)), .pf (Eq.refl ((copyL p0 ((a1).toNat - 0) (p0.length - (a2).toNat) (fun i => (p0.getD ((0 + (a2).toNat) + i) default))).length)), .pf (oLe_clear (sz := 14) (e := TApiWarrant.e) (l := (copyL p0 ((a1).toNat - 0) (p0.length - (a2).toNat) (fun i => (p0.getD ((0 + (a2).toNat) + i) default)))) (off := (0 + (((a1).toNat - 0) + (p0.length - (a2).toNat)))) (n := (p0.length - (((a1).toNat - 0) + (p0.length - (a2).toNat)))) (z := (⟨0, 0, [], 0, 0, 0, 0, 0, 0, 0, 0, 0, 0, 0⟩ : TApiWarrant)))] <|
.cst (A := True) (.pf trivial) [(0, (AV.ref 0 ((copyL p0 ((a1).toNat - 0) (p0.length - (a2).toNat) (fun i => (p0.getD ((0 + (a2).toNat) + i) default))).length) 0 (((a1).toNat - 0) + (p0.length - (a2).toNat))))] [(0, (AV.ref 0 ((clearL (copyL p0 ((a1).toNat - 0) (p0.length - (a2).toNat) (fun i => (p0.getD ((0 + (a2).toNat) + i) default))) (0 + (((a1).toNat - 0) + (p0.length - (a2).toNat))) (p0.length - (((a1).toNat - 0) + (p0.length - (a2).toNat))) (⟨0, 0, [], 0, 0, 0, 0, 0, 0, 0, 0, 0, 0, 0⟩ : TApiWarrant)).length) 0 (((a1).toNat - 0) + (p0.length - (a2).toNat))))] [(eS 14 TApiWarrant.e (clearL (copyL p0 ((a1).toNat - 0) (p0.length - (a2).toNat) (fun i => (p0.getD ((0 + (a2).toNat) + i) default))) (0 + (((a1).toNat - 0) + (p0.length - (a2).toNat))) (p0.length - (((a1).toNat - 0) + (p0.length - (a2).toNat))) (⟨0, 0, [], 0, 0, 0, 0, 0, 0, 0, 0, 0, 0, 0⟩ : TApiWarrant)))] [(eS 14 TApiWarrant.e (clearL (copyL p0 ((a1).toNat - 0) (p0.length - (a2).toNat) (fun i => (p0.getD ((0 + (a2).toNat) + i) default))) (0 + (((a1).toNat - 0) + (p0.length - (a2).toNat))) (p0.length - (((a1).toNat - 0) + (p0.length - (a2).toNat))) (⟨0, 0, [], 0, 0, 0, 0, 0, 0, 0, 0, 0, 0, 0⟩ : TApiWarrant)))] (fun _ => ⟨by simp only [clearL_length, copyL_length], by rfl⟩) <|
.guard [(clearL (copyL p0 ((a1).toNat - 0) (p0.length - (a2).toNat) (fun i => (p0.getD ((0 + (a2).toNat) + i) default))) (0 + (((a1).toNat - 0) + (p0.length - (a2).toNat))) (p0.length - (((a1).toNat - 0) + (p0.length - (a2).toNat))) (⟨0, 0, [], 0, 0, 0, 0, 0, 0, 0, 0, 0, 0, 0⟩ : TApiWarrant)).length < 2 ^ 63] <|
.reg 7 [] [] [] <|
.guard [(((a1).toNat - 0) + (p0.length - (a2).toNat)) ≤ (clearL (copyL p0 ((a1).toNat - 0) (p0.length - (a2).toNat) (fun i => (p0.getD ((0 + (a2).toNat) + i) default))) (0 + (((a1).toNat - 0) + (p0.length - (a2).toNat))) (p0.length - (((a1).toNat - 0) + (p0.length - (a2).toNat))) (⟨0, 0, [], 0, 0, 0, 0, 0, 0, 0, 0, 0, 0, 0⟩ : TApiWarrant)).length] <|
.frz 0 (.ev 1) (some (.der (fun (h : (((a1).toNat - 0) + (p0.length - (a2).toNat)) ≤ (clearL (copyL p0 ((a1).toNat - 0) (p0.length - (a2).toNat) (fun i => (p0.getD ((0 + (a2).toNat) + i) default))) (0 + (((a1).toNat - 0) + (p0.length - (a2).toNat))) (p0.length - (((a1).toNat - 0) + (p0.length - (a2).toNat))) (⟨0, 0, [], 0, 0, 0, 0, 0, 0, 0, 0, 0, 0, 0⟩ : TApiWarrant)).length) => (h : (((a1).toNat - 0) + (p0.length - (a2).toNat)) ≤ (clearL (copyL p0 ((a1).toNat - 0) (p0.length - (a2).toNat) (fun i => (p0.getD ((0 + (a2).toNat) + i) default))) (0 + (((a1).toNat - 0) + (p0.length - (a2).toNat))) (p0.length - (((a1).toNat - 0) + (p0.length - (a2).toNat))) (⟨0, 0, [], 0, 0, 0, 0, 0, 0, 0, 0, 0, 0, 0⟩ : TApiWarrant)).length)) 0)) [6] [] <|
.lev 6 (AV.d (eL TApiWarrant.e ((clearL (copyL p0 ((a1).toNat - 0) (p0.length - (a2).toNat) (fun i => (p0.getD ((0 + (a2).toNat) + i) default))) (0 + (((a1).toNat - 0) + (p0.length - (a2).toNat))) (p0.length - (((a1).toNat - 0) + (p0.length - (a2).toNat))) (⟨0, 0, [], 0, 0, 0, 0, 0, 0, 0, 0, 0, 0, 0⟩ : TApiWarrant)).take (((a1).toNat - 0) + (p0.length - (a2).toNat))))) (.der (fun (h : (((a1).toNat - 0) + (p0.length - (a2).toNat)) ≤ (clearL (copyL p0 ((a1).toNat - 0) (p0.length - (a2).toNat) (fun i => (p0.getD ((0 + (a2).toNat) + i) default))) (0 + (((a1).toNat - 0) + (p0.length - (a2).toNat))) (p0.length - (((a1).toNat - 0) + (p0.length - (a2).toNat))) (⟨0, 0, [], 0, 0, 0, 0, 0, 0, 0, 0, 0, 0, 0⟩ : TApiWarrant)).length) => lvT TApiWarrant.e (clearL (copyL p0 ((a1).toNat - 0) (p0.length - (a2).toNat) (fun i => (p0.getD ((0 + (a2).toNat) + i) default))) (0 + (((a1).toNat - 0) + (p0.length - (a2).toNat))) (p0.length - (((a1).toNat - 0) + (p0.length - (a2).toNat))) (⟨0, 0, [], 0, 0, 0, 0, 0, 0, 0, 0, 0, 0, 0⟩ : TApiWarrant)) h) 0) <|
.ret [] ((clearL (copyL p0 ((a1).toNat - 0) (p0.length - (a2).toNat) (fun i => (p0.getD ((0 + (a2).toNat) + i) default))) (0 + (((a1).toNat - 0) + (p0.length - (a2).toNat))) (p0.length - (((a1).toNat - 0) + (p0.length - (a2).toNat))) (⟨0, 0, [], 0, 0, 0, 0, 0, 0, 0, 0, 0, 0, 0⟩ : TApiWarrant)).take (((a1).toNat - 0) + (p0.length - (a2).toNat))))
def F_slices_Delete_Warrant (a1 : Int) (a2 : Int) (p0 : (List TApiWarrant)) : Option R_slices_Delete_Warrant := (S_slices_Delete_Warrant a1 a2 p0).den
theorem F_slices_Delete_Warrant_ok {a1 : Int} {a2 : Int} {p0 : (List TApiWarrant)} (r : R_slices_Delete_Warrant) (h : F_slices_Delete_Warrant a1 a2 p0 = some r) : CallOk Tryz.prog 74 [(AV.ref 0 p0.length 0 p0.length), (vi a1), (vi a2)] [(eS 14 TApiWarrant.e p0)] (V_slices_Delete_Warrant r) (L_slices_Delete_Warrant r) := fOk (s := S_slices_Delete_Warrant a1 a2 p0) Tryz.func74 rfl (by kernel_rfl) h
theorem cz15 : LeV (AV.tup [(AV.full 0 fun _ => DV.b false), (vi 6)]) (AV.tup [(AV.d (eL TApiWarrant.e ([]))), (vi 6)]) := LeV.tup (LeVs.cons (lvN TApiWarrant.e) (LeVs.cons (LeV.refl _) LeVs.nil))
abbrev R_control_Returned := (List TApiWarrant) × Int
def V_control_Returned (x : R_control_Returned) : AV := (AV.tup [(AV.d (eL TApiWarrant.e x.1)), (vi x.2)])
def L_control_Returned (_ : R_control_Returned) : List Ob := []
def S_control_Returned (a0 : (List TApiWarrant)) (a1 : Int) : Scr Tryz.prog R_control_Returned R_control_Returned :=
.call (@F_slices_IndexFunc_Warrant_control_Returned_1_ok a0 a1) fun rv1 cv1 =>
.reg 1 [] [(2, hc cv1 [0] true)] [.cl 0 cv1 [0] 1 true] <|
.ite (decide (rv1 < 0)) (
.ret [.pf cz15] ([], 6)) (
.call (@F_slices_Clone_Warrant_rw_ok a0) fun rv2 cv2 =>
.call (@F_slices_Delete_Warrant_ok rv1 (IntKind.i64.wrap (rv1 + 1)) rv2) fun rv3 cv3 =>
.reg 4 [] [(1, hc cv2 [] false), (5, hc cv3 [1] false)] [.cl 1 cv2 [] 1 false, .cl 0 cv3 [1] 2 false] <|
.ret [] (rv3, 0))
def F_control_Returned (a0 : (List TApiWarrant)) (a1 : Int) : Option R_control_Returned := (S_control_Returned a0 a1).den
theorem F_control_Returned_ok {a0 : (List TApiWarrant)} {a1 : Int} (r : R_control_Returned) (h : F_control_Returned a0 a1 = some r) : CallOk Tryz.prog 30 [(AV.d (eL TApiWarrant.e a0)), (vi a1)] [] (V_control_Returned r) (L_control_Returned r) := fOk (s := S_control_Returned a0 a1) Tryz.func30 rfl (by kernel_rfl) h
end
end Go.Proofs.YtclaojamgomjbaaGreatDoor
/- What the functions compute, and that their calls return it. No condition. -/
namespace Go.Proofs.YtclaojamgomjbaaGreatDoor
open Go Go.TA
noncomputable section
set_option maxRecDepth 100000
abbrev R_w20_ControlOnce := Bool
def V_w20_ControlOnce (x : R_w20_ControlOnce) : AV := (vb x)
def L_w20_ControlOnce (_ : R_w20_ControlOnce) : List Ob := []
def S_w20_ControlOnce_b1 (sv1 : TTape × TTreasurymakeCase × (List TApiWarrant) × Int) (iv2 : Nat) (iv3 : Nat) (_ : Unit) : Scr Tryz.prog R_w20_ControlOnce (Step (Unit) R_w20_ControlOnce) :=
.reg 35 [] [] [.pf (nn iv3), .ev 0] <|
.ite (bif (((sv1.2.2.1.getD iv2 default).Number) == (((sv1.2.2.1.take iv2).getD iv3 default).Number)) then true else (bif (((sv1.2.2.1.getD iv2 default).Office) == (((sv1.2.2.1.take iv2).getD iv3 default).Office)) then (((sv1.2.2.1.getD iv2 default).Verification) == (((sv1.2.2.1.take iv2).getD iv3 default).Verification)) else false)) (
.ret [] (.ret false)) (
.ret [] (.cont ()))
def S_w20_ControlOnce_b2 (sv1 : TTape × TTreasurymakeCase × (List TApiWarrant) × Int) (iv2 : Nat) (_ : Unit) : Scr Tryz.prog R_w20_ControlOnce (Step (Unit) R_w20_ControlOnce) :=
.reg 32 [] [] [.pf (nn iv2), .ev 0] <|
.guard [iv2 ≤ sv1.2.2.1.length] <|
.reg 33 [] [(2, hv (AV.d (eL TApiWarrant.e (sv1.2.2.1.take iv2))))] [.pf (nn iv2), .ev 0, .der (fun (h0 : iv2 ≤ sv1.2.2.1.length) => lvT TApiWarrant.e sv1.2.2.1 h0) 0] <|
.range ((sv1.2.2.1.take iv2).length : Int) ((sv1.2.2.1.take iv2).length) rfl (.slot 146) 148 [3, 4, 5, 6, 7, 20, 137, 138, 139, 146, 147] (fun (_ : Unit) => []) (fun (_ : Unit) => []) () (S_w20_ControlOnce_b1 sv1 iv2) (fun (_ : Unit) => 
.guard [AllP [(decide (((sv1.2.2.1.getD iv2 default).Verification) > (sv1.2.1.Office.Book.Verifications.length : Int))) = false] → ((0 : Int) ≤ (IntKind.i64.wrap (((sv1.2.2.1.getD iv2 default).Verification) - 1))), AllP [(decide (((sv1.2.2.1.getD iv2 default).Verification) > (sv1.2.1.Office.Book.Verifications.length : Int))) = false] → (((IntKind.i64.wrap (((sv1.2.2.1.getD iv2 default).Verification) - 1))).toNat < sv1.2.1.Office.Book.Verifications.length)] <|
.reg 39 [] [] [.ev 0, .ev 1] <|
.ite (bif (decide (((sv1.2.2.1.getD iv2 default).Verification) > (sv1.2.1.Office.Book.Verifications.length : Int))) then true else (((sv1.2.1.Office.Book.Verifications.getD (((IntKind.i64.wrap (((sv1.2.2.1.getD iv2 default).Verification) - 1))).toNat) default).Amount) != ((sv1.2.2.1.getD iv2 default).Amount))) (
.ret [] (.ret false)) (
.ret [] (.cont ()))) .ret
def S_w20_ControlOnce_b3 (sv4 : TTape × TTreasurymakeCase × (List TApiWarrant) × Int × Int) : Scr Tryz.prog R_w20_ControlOnce (Step (TTape × TTreasurymakeCase × (List TApiWarrant) × Int × Int) R_w20_ControlOnce) :=
.ite (decide (sv4.2.2.2.2 < 16)) (
.call (@F_mk_Tape_N_ok 15 sv4.1) fun rv5 cv5 =>
.reg 8 [3, 6] [(3, hc cv5 [0] false)] [.cl 0 cv5 [0] 2 false] <|
.call (@F_mk_Tape_N_ok 4 rv5.2) fun rv6 cv6 =>
.reg 9 [] [(1, hc cv6 [0] false)] [.cl 0 cv6 [0] 2 false] <|
.cut (some 2) [3, 4, 7] (fun (sv1 : TTape × TTreasurymakeCase × (List TApiWarrant) × Int) => [(5, (AV.d (eL TApiWarrant.e sv1.2.2.1))), (6, (vi sv1.2.2.2))]) (fun (sv1 : TTape × TTreasurymakeCase × (List TApiWarrant) × Int) => [(0, (bx (TTape.e sv1.1))), (1, (bx (TTreasurymakeCase.e sv1.2.1)))]) (
.ite (rv6.1 == 0) (
.ite ((sv4.2.2.1.length : Int) == 0) (
.ret [] (.ret (.cont (rv6.2, (⟨sv4.2.1.Keys, sv4.2.1.Office, sv4.2.1.Pot, sv4.2.1.Paid, (IntKind.i64.wrap (sv4.2.1.Day + rv5.1))⟩ : TTreasurymakeCase), sv4.2.2.1, sv4.2.2.2.1, (IntKind.i64.wrap (sv4.2.2.2.2 + 1)))))) (
.call (@F_mk_Tape_N_ok (sv4.2.2.1.length : Int) rv6.2) fun rv7 cv7 =>
.guard [(0 : Int) ≤ rv7.1, (rv7.1).toNat < sv4.2.2.1.length] <|
.reg 18 [] [(4, hc cv7 [0] false)] [.cl 2 cv7 [0] 2 false, .ev 0, .ev 1] <|
.call (@F_control_Returned_ok sv4.2.2.1 ((sv4.2.2.1.getD ((rv7.1).toNat) default).Number)) fun rv8 cv8 =>
.reg 19 [] [(3, hc cv8 [] true)] [.cl 0 cv8 [] 3 true] <|
.ite (bif (rv8.2 != 0) then true else ((rv8.1.length : Int) != (IntKind.i64.wrap ((sv4.2.2.1.length : Int) - 1)))) (
.ret [] (.ret (.ret false))) (
.call (@F_r15_Do_ok sv4.2.1.Office (⟨9, [], 0, 0, (sv4.2.2.1.getD ((rv7.1).toNat) default).Verification, 0, 0, 0, 0, 0⟩ : TApiOp)) fun rv9 cv9 =>
.reg 22 [] [(5, hc cv9 [] true), (9, { obs := [(3, (bx (TApiOffice.e (⟨0, [], (⟨[], [], [], []⟩ : TApiBook)⟩ : TApiOffice))))] })] [.cl 0 cv9 [] 3 true, .pf cz1] <|
.ite (rv9.2 == 0) (
.ret [] (.next (rv7.2, (⟨sv4.2.1.Keys, rv9.1, sv4.2.1.Pot, sv4.2.1.Paid, (IntKind.i64.wrap (sv4.2.1.Day + rv5.1))⟩ : TTreasurymakeCase), rv8.1, sv4.2.2.2.1))) (
.ret [] (.next (rv7.2, (⟨sv4.2.1.Keys, sv4.2.1.Office, sv4.2.1.Pot, sv4.2.1.Paid, (IntKind.i64.wrap (sv4.2.1.Day + rv5.1))⟩ : TTreasurymakeCase), rv8.1, sv4.2.2.2.1)))))) (
.ite (rv6.1 == 1) (
.sh (H := NoH) (A := True) (.pf trivial) [(3, (vp 0)), (4, (vp 1)), (5, (AV.d (eL TApiWarrant.e sv4.2.2.1))), (6, (vi sv4.2.2.2.1)), (7, (vi sv4.2.2.2.2)), (119, (vb (rv6.1 == 1)))] [(3, (vp 0)), (4, (vp 1)), (5, (AV.d (eL TApiWarrant.e sv4.2.2.1))), (6, (vi sv4.2.2.2.1)), (7, (vi sv4.2.2.2.2)), (119, (vb (rv6.1 == 1)))] [(bx (TTape.e rv6.2)), (bx (DV.agg [(eL (DV.i .u64) sv4.2.1.Keys), (TApiOffice.e sv4.2.1.Office), (TApiPot.e sv4.2.1.Pot), (eL TApiWarrant.e sv4.2.1.Paid), (DV.i .i64 (IntKind.i64.wrap (sv4.2.1.Day + rv5.1)))]))] [(bx (TTape.e rv6.2)), (bx (DV.agg [(eL (DV.i .u64) sv4.2.1.Keys), (TApiOffice.e sv4.2.1.Office), (TApiPot.e sv4.2.1.Pot), (eL TApiWarrant.e sv4.2.1.Paid), (DV.i .i64 (IntKind.i64.wrap (sv4.2.1.Day + rv5.1)))])), Ob.unb] (fun _ => shift_unb) (trF_refl _) <|
.call (@F_mk_Op_ok sv4.2.1.Office (IntKind.i64.wrap (sv4.2.1.Day + rv5.1)) rv6.2) fun rv10 cv10 =>
.call (@F_r15_Do_ok sv4.2.1.Office rv10.1) fun rv11 cv11 =>
.reg 27 [7, 12, 13] [(7, hc cv10 [0] false), (8, hc cv11 [] true), (12, { h := .born 2 false, obs := [(2, (bx (TApiOffice.e (⟨0, [], (⟨[], [], [], []⟩ : TApiBook)⟩ : TApiOffice))))] })] [.cl 1 cv10 [0] 3 false, .cl 1 cv10 [0] 3 false, .cl 0 cv11 [] 3 true, .cl 0 cv11 [] 3 true, .pf cz1, .pf cz1] <|
.ite (rv11.2 == 0) (
.ret [] (.next (rv10.2, (⟨sv4.2.1.Keys, rv11.1, sv4.2.1.Pot, sv4.2.1.Paid, (IntKind.i64.wrap (sv4.2.1.Day + rv5.1))⟩ : TTreasurymakeCase), sv4.2.2.1, sv4.2.2.2.1))) (
.ret [] (.next (rv10.2, (⟨sv4.2.1.Keys, sv4.2.1.Office, sv4.2.1.Pot, sv4.2.1.Paid, (IntKind.i64.wrap (sv4.2.1.Day + rv5.1))⟩ : TTreasurymakeCase), sv4.2.2.1, sv4.2.2.2.1)))) (
.reg 10 [] [] [] <|
.sh (H := NoH) (A := True) (.pf trivial) [(3, (vp 0)), (4, (vp 1)), (5, (AV.d (eL TApiWarrant.e sv4.2.2.1))), (6, (vi (IntKind.i64.wrap (sv4.2.2.2.1 + 1)))), (7, (vi sv4.2.2.2.2))] [(3, (vp 0)), (4, (vp 1)), (5, (AV.d (eL TApiWarrant.e sv4.2.2.1))), (6, (vi (IntKind.i64.wrap (sv4.2.2.2.1 + 1)))), (7, (vi sv4.2.2.2.2))] [(bx (TTape.e rv6.2)), (bx (DV.agg [(eL (DV.i .u64) sv4.2.1.Keys), (TApiOffice.e sv4.2.1.Office), (TApiPot.e sv4.2.1.Pot), (eL TApiWarrant.e sv4.2.1.Paid), (DV.i .i64 (IntKind.i64.wrap (sv4.2.1.Day + rv5.1)))]))] [(bx (TTape.e rv6.2)), (bx (DV.agg [(eL (DV.i .u64) sv4.2.1.Keys), (TApiOffice.e sv4.2.1.Office), (TApiPot.e sv4.2.1.Pot), (eL TApiWarrant.e sv4.2.1.Paid), (DV.i .i64 (IntKind.i64.wrap (sv4.2.1.Day + rv5.1)))])), Ob.unb] (fun _ => shift_unb) (trF_refl _) <|
.call (@F_mk_Tape_Range_ok 1 (if (sv4.2.1.Office.Book.Orders.length : Int) > 1 then (sv4.2.1.Office.Book.Orders.length : Int) else 1) rv6.2) fun rv12 cv12 =>
.call (@F_mk_Tape_Range_ok 1 (IntKind.i64.wrap (sv4.2.2.2.1 + 1)) rv12.2) fun rv13 cv13 =>
.call (@F_mk_Signed_ok (⟨sv4.2.1.Keys, sv4.2.1.Office, sv4.2.1.Pot, sv4.2.1.Paid, (IntKind.i64.wrap (sv4.2.1.Day + rv5.1))⟩ : TTreasurymakeCase) rv12.1 rv13.1) fun rv14 cv14 =>
.reg 11 [8, 11, 16, 17] [(8, hc cv12 [0] false), (11, hc cv13 [0] false), (12, hc cv14 [] true), (16, { h := .born 2 false })] [.cl 2 cv12 [0] 3 false, .cl 2 cv12 [0] 3 false, .cl 1 cv13 [0] 3 false, .cl 1 cv13 [0] 3 false, .cl 0 cv14 [] 3 true, .cl 0 cv14 [] 3 true] <|
.ite (!rv14.2) (
.ret [] (.ret (.cont (rv13.2, (⟨sv4.2.1.Keys, sv4.2.1.Office, sv4.2.1.Pot, sv4.2.1.Paid, (IntKind.i64.wrap (sv4.2.1.Day + rv5.1))⟩ : TTreasurymakeCase), sv4.2.2.1, (IntKind.i64.wrap (sv4.2.2.2.1 + 1)), (IntKind.i64.wrap (sv4.2.2.2.2 + 1)))))) (
.call (@F_control_Pays_ok sv4.2.1.Keys rv14.1 sv4.2.1.Office sv4.2.2.1 sv4.2.1.Pot (IntKind.i64.wrap (sv4.2.1.Day + rv5.1))) fun rv15 cv15 =>
.reg 13 [] [(10, hc cv15 [] true)] [.cl 0 cv15 [] 3 true] <|
.ite (rv15.2 == 0) (
.ret [] (.next (rv13.2, (⟨sv4.2.1.Keys, sv4.2.1.Office, sv4.2.1.Pot, sv4.2.1.Paid, (IntKind.i64.wrap (sv4.2.1.Day + rv5.1))⟩ : TTreasurymakeCase), rv15.1, (IntKind.i64.wrap (sv4.2.2.2.1 + 1))))) (
.ret [] (.next (rv13.2, (⟨sv4.2.1.Keys, sv4.2.1.Office, sv4.2.1.Pot, sv4.2.1.Paid, (IntKind.i64.wrap (sv4.2.1.Day + rv5.1))⟩ : TTreasurymakeCase), sv4.2.2.1, (IntKind.i64.wrap (sv4.2.2.2.1 + 1))))))))) fun (sv1 : TTape × TTreasurymakeCase × (List TApiWarrant) × Int) =>
.range (sv1.2.2.1.length : Int) sv1.2.2.1.length rfl (.slot 5) 139 [3, 4, 5, 6, 7, 137, 138] (fun (_ : Unit) => []) (fun (_ : Unit) => []) () (S_w20_ControlOnce_b2 sv1) (fun (_ : Unit) => 
.ret [] (.cont (sv1.1, sv1.2.1, sv1.2.2.1, sv1.2.2.2, (IntKind.i64.wrap (sv4.2.2.2.2 + 1))))) .ret) (
.ret [] (.brk (sv4.1, sv4.2.1, sv4.2.2.1, sv4.2.2.2.1, sv4.2.2.2.2)))
def S_w20_ControlOnce (a0 : (List Int)) : Scr Tryz.prog R_w20_ControlOnce R_w20_ControlOnce :=
.call (@F_mk_New_ok a0) fun rv16 cv16 =>
.reg 1 [] [(1, hc cv16 [] false)] [.cl 0 cv16 [] 0 false] <|
.call (@F_mk_Control_ok rv16) fun rv17 cv17 =>
.reg 2 [] [(1, hc cv17 [0] false), (2, { obs := [(1, (bx (TTreasurymakeCase.e (⟨[], (⟨0, [], (⟨[], [], [], []⟩ : TApiBook)⟩ : TApiOffice), (⟨[], 0, 0, [], [], [], []⟩ : TApiPot), [], 0⟩ : TTreasurymakeCase))))] })] [.cl 0 cv17 [0] 1 false, .pf cz7] <|
.reg 5 [] [] [] <|
.lev 5 (AV.d (eL TApiWarrant.e ([] : List TApiWarrant))) (.pf (lvN TApiWarrant.e)) <|
.iter [3, 4] (fun (sv4 : TTape × TTreasurymakeCase × (List TApiWarrant) × Int × Int) => [(5, (AV.d (eL TApiWarrant.e sv4.2.2.1))), (6, (vi sv4.2.2.2.1)), (7, (vi sv4.2.2.2.2))]) (fun (sv4 : TTape × TTreasurymakeCase × (List TApiWarrant) × Int × Int) => [(0, (bx (TTape.e sv4.1))), (1, (bx (TTreasurymakeCase.e sv4.2.1)))]) (rv17.2, rv17.1, ([] : List TApiWarrant), 0, 0) S_w20_ControlOnce_b3 (fun (_ : TTape × TTreasurymakeCase × (List TApiWarrant) × Int × Int) =>
.call (@F_w20_awake_ok) fun rv18 cv18 =>
.reg 42 [] [(0, hc cv18 [] true)] [.cl 0 cv18 [] 2 true] <|
.ret [] rv18) id
def F_w20_ControlOnce (a0 : (List Int)) : Option R_w20_ControlOnce := (S_w20_ControlOnce a0).den
theorem F_w20_ControlOnce_ok {a0 : (List Int)} (r : R_w20_ControlOnce) (h : F_w20_ControlOnce a0 = some r) : CallOk Tryz.prog 6 [(vl a0)] [] (V_w20_ControlOnce r) (L_w20_ControlOnce r) := fOk (s := S_w20_ControlOnce a0) Tryz.func6 rfl (by kernel_rfl) h
end
end Go.Proofs.YtclaojamgomjbaaGreatDoor
