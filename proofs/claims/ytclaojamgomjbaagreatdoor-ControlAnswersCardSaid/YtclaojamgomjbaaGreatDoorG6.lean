/- A part of the proof: what the functions compute, and that their calls return it. No condition. -/
import Derived.Test.YtclaojamgomjbaaGreatDoorG5
/- What the functions compute, and that their calls return it. No condition. -/
namespace Go.Proofs.YtclaojamgomjbaaGreatDoor
open Go Go.TA
noncomputable section
set_option maxRecDepth 100000
abbrev R_qq:=(List TCh)
def V_qq (x:R_qq):AV:=(AV.d (eL TCh.e x))
def L_qq (_:R_qq):List Ob:=[]
def S_qq (a0:(List Int)) (a1:TWa) (a2:TOf) (a3:(List TWa)) (a4:TPo) (a5:Int):Scr Tryz.prog R_qq R_qq :=
.reg 2 [] [(15,{ h:=.obj })] [] <|
.br true (.pf (p:=true=true) rfl) <|
.reg 4 [] [] [.pf (Eq.refl 8),.pf (p:=(0:Int)≤0) (by decide),.pf (p:=0<8) (by decide),.pf (Eq.refl 8),.pf (p:=(0+0)<8) (by decide)] <|
.call (@F_q5_ok a1) fun rv1 cv1 =>
.reg 6 [] [(1,hc cv1 [] true)] [.cl 0 cv1 [] 8 true] <|
.cut none [7,13,15,32,33,34] (fun (sv2:Int)=>[(16,(vi sv2))]) (fun (_:Int)=>[]) (
.ite rv1 (
.call (@F_q4l_ok) fun rv3 cv3 =>
.reg 7 [] [(2,hc cv3 [] true)] [.cl 0 cv3 [] 8 true] <|
.ret [] (.next rv3)) (
.ret [] (.next 1))) fun (sv2:Int) =>
.reg 8 [] [(5,hv (AV.d (eL TCh.e (zb 1 sv2)))),(6,{ h:=.obj })] [.pf (zd TCh.e (zb 1 sv2)),.pf (p:=∀ k,k<1→(AV.d (TCh.e ((zb 1 sv2).getD k default))).wd=2) (fun _ _=>rfl),.pf (p:=1 * (2 * 16)≤2 ^ 48) (by decide)] <|
.br true (.pf (p:=true=true) rfl) <|
.reg 4 [] [] [.pf (Eq.refl 8),.pf (p:=(0:Int)≤1) (by decide),.pf (p:=1<8) (by decide),.pf (Eq.refl 8),.pf (p:=(0+1)<8) (by decide)] <|
.call (@F_q5_ok a1) fun rv4 cv4 =>
.reg 6 [] [(1,hc cv4 [] true)] [.cl 0 cv4 [] 10 true] <|
.cut none [7,13,15,32,33,34] (fun (sv5:Int)=>[(16,(vi sv5))]) (fun (_:Int)=>[]) (
.ite rv4 (
.call (@F_q2f_ok a0 a1) fun rv6 cv6 =>
.reg 7 [] [(2,hc cv6 [0,1] true)] [.cl 0 cv6 [0,1] 10 true] <|
.ret [] (.next rv6)) (
.ret [] (.next 1))) fun (sv5:Int) =>
.reg 8 [] [(5,hv (AV.d (eL TCh.e (zb 2 sv5)))),(6,{ h:=.obj,cast:=some (AV.ref 8 (((zb 1 sv2)++(zb 2 sv5)).length) 0 (((zb 1 sv2)++(zb 2 sv5)).length)),obs:=[(8,(eS 2 TCh.e ((zb 1 sv2)++(zb 2 sv5))))] })] [.pf (zd TCh.e (zb 2 sv5)),.pf (Eq.refl 1),.pf (Eq.refl 1),.pf (p:=∀ k,k<1→(AV.d (TCh.e ((zb 2 sv5).getD k default))).wd=2) (fun _ _=>rfl),.pf (p:=(1+1) * (2 * 16)≤2 ^ 48) (by decide),.pf (zy (o:=8) (l:=(zb 1 sv2)) (x:=(zb 2 sv5))),.pf (zx (sz:=2) (e:=TCh.e) (l:=(zb 1 sv2)) (x:=(zb 2 sv5)))] <|
.br true (.pf (p:=true=true) rfl) <|
.reg 4 [] [] [.pf (Eq.refl 8),.pf (p:=(0:Int)≤2) (by decide),.pf (p:=2<8) (by decide),.pf (Eq.refl 8),.pf (p:=(0+2)<8) (by decide)] <|
.call (@F_q5_ok a1) fun rv7 cv7 =>
.reg 6 [] [(1,hc cv7 [] true)] [.cl 0 cv7 [] 11 true] <|
.cut none [7,13,15,32,33,34] (fun (sv8:Int)=>[(16,(vi sv8))]) (fun (_:Int)=>[]) (
.ite rv7 (
.call (@F_q2l_ok a1 a2) fun rv9 cv9 =>
.reg 7 [] [(2,hc cv9 [1,2] true)] [.cl 0 cv9 [1,2] 11 true] <|
.ret [] (.next rv9)) (
.ret [] (.next 1))) fun (sv8:Int) =>
.guard [(((zb 1 sv2)++(zb 2 sv5)).length+1) * (2 * 16)≤2 ^ 48] <|
.reg 8 [] [(5,hv (AV.d (eL TCh.e (zb 3 sv8)))),(6,{ h:=.obj,cast:=some (AV.ref 8 ((((zb 1 sv2)++(zb 2 sv5))++(zb 3 sv8)).length) 0 ((((zb 1 sv2)++(zb 2 sv5))++(zb 3 sv8)).length)),obs:=[(8,(eS 2 TCh.e (((zb 1 sv2)++(zb 2 sv5))++(zb 3 sv8))))] })] [.pf (zd TCh.e (zb 3 sv8)),.pf (Eq.refl (((zb 1 sv2)++(zb 2 sv5)).length)),.pf (Eq.refl (((zb 1 sv2)++(zb 2 sv5)).length)),.pf (p:=∀ k,k<1→(AV.d (TCh.e ((zb 3 sv8).getD k default))).wd=2) (fun _ _=>rfl),.ev 0,.pf (zy (o:=8) (l:=((zb 1 sv2)++(zb 2 sv5))) (x:=(zb 3 sv8))),.pf (zx (sz:=2) (e:=TCh.e) (l:=((zb 1 sv2)++(zb 2 sv5))) (x:=(zb 3 sv8)))] <|
.br true (.pf (p:=true=true) rfl) <|
.reg 4 [] [] [.pf (Eq.refl 8),.pf (p:=(0:Int)≤3) (by decide),.pf (p:=3<8) (by decide),.pf (Eq.refl 8),.pf (p:=(0+3)<8) (by decide)] <|
.call (@F_q5_ok a1) fun rv10 cv10 =>
.reg 6 [] [(1,hc cv10 [] true)] [.cl 0 cv10 [] 12 true] <|
.cut none [7,13,15,32,33,34] (fun (sv11:Int)=>[(16,(vi sv11))]) (fun (_:Int)=>[]) (
.ite rv10 (
.call (@F_q2n_ok a1 a2) fun rv12 cv12 =>
.reg 7 [] [(2,hc cv12 [1,2] true)] [.cl 0 cv12 [1,2] 12 true] <|
.ret [] (.next rv12)) (
.ret [] (.next 1))) fun (sv11:Int) =>
.guard [((((zb 1 sv2)++(zb 2 sv5))++(zb 3 sv8)).length+1) * (2 * 16)≤2 ^ 48] <|
.reg 8 [] [(5,hv (AV.d (eL TCh.e (zb 4 sv11)))),(6,{ h:=.obj,cast:=some (AV.ref 8 (((((zb 1 sv2)++(zb 2 sv5))++(zb 3 sv8))++(zb 4 sv11)).length) 0 (((((zb 1 sv2)++(zb 2 sv5))++(zb 3 sv8))++(zb 4 sv11)).length)),obs:=[(8,(eS 2 TCh.e ((((zb 1 sv2)++(zb 2 sv5))++(zb 3 sv8))++(zb 4 sv11))))] })] [.pf (zd TCh.e (zb 4 sv11)),.pf (Eq.refl ((((zb 1 sv2)++(zb 2 sv5))++(zb 3 sv8)).length)),.pf (Eq.refl ((((zb 1 sv2)++(zb 2 sv5))++(zb 3 sv8)).length)),.pf (p:=∀ k,k<1→(AV.d (TCh.e ((zb 4 sv11).getD k default))).wd=2) (fun _ _=>rfl),.ev 0,.pf (zy (o:=8) (l:=(((zb 1 sv2)++(zb 2 sv5))++(zb 3 sv8))) (x:=(zb 4 sv11))),.pf (zx (sz:=2) (e:=TCh.e) (l:=(((zb 1 sv2)++(zb 2 sv5))++(zb 3 sv8))) (x:=(zb 4 sv11)))] <|
.br true (.pf (p:=true=true) rfl) <|
.reg 4 [] [] [.pf (Eq.refl 8),.pf (p:=(0:Int)≤4) (by decide),.pf (p:=4<8) (by decide),.pf (Eq.refl 8),.pf (p:=(0+4)<8) (by decide)] <|
.call (@F_q5_ok a1) fun rv13 cv13 =>
.reg 6 [] [(1,hc cv13 [] true)] [.cl 0 cv13 [] 13 true] <|
.cut none [7,13,15,32,33,34] (fun (sv14:Int)=>[(16,(vi sv14))]) (fun (_:Int)=>[]) (
.ite rv13 (
.call (@F_q2p_ok a1 a3) fun rv15 cv15 =>
.reg 7 [] [(2,hc cv15 [1,3] true)] [.cl 0 cv15 [1,3] 13 true] <|
.ret [] (.next rv15)) (
.ret [] (.next 1))) fun (sv14:Int) =>
.guard [(((((zb 1 sv2)++(zb 2 sv5))++(zb 3 sv8))++(zb 4 sv11)).length+1) * (2 * 16)≤2 ^ 48] <|
.reg 8 [] [(5,hv (AV.d (eL TCh.e (zb 5 sv14)))),(6,{ h:=.obj,cast:=some (AV.ref 8 ((((((zb 1 sv2)++(zb 2 sv5))++(zb 3 sv8))++(zb 4 sv11))++(zb 5 sv14)).length) 0 ((((((zb 1 sv2)++(zb 2 sv5))++(zb 3 sv8))++(zb 4 sv11))++(zb 5 sv14)).length)),obs:=[(8,(eS 2 TCh.e (((((zb 1 sv2)++(zb 2 sv5))++(zb 3 sv8))++(zb 4 sv11))++(zb 5 sv14))))] })] [.pf (zd TCh.e (zb 5 sv14)),.pf (Eq.refl (((((zb 1 sv2)++(zb 2 sv5))++(zb 3 sv8))++(zb 4 sv11)).length)),.pf (Eq.refl (((((zb 1 sv2)++(zb 2 sv5))++(zb 3 sv8))++(zb 4 sv11)).length)),.pf (p:=∀ k,k<1→(AV.d (TCh.e ((zb 5 sv14).getD k default))).wd=2) (fun _ _=>rfl),.ev 0,.pf (zy (o:=8) (l:=((((zb 1 sv2)++(zb 2 sv5))++(zb 3 sv8))++(zb 4 sv11))) (x:=(zb 5 sv14))),.pf (zx (sz:=2) (e:=TCh.e) (l:=((((zb 1 sv2)++(zb 2 sv5))++(zb 3 sv8))++(zb 4 sv11))) (x:=(zb 5 sv14)))] <|
.br true (.pf (p:=true=true) rfl) <|
.reg 4 [] [] [.pf (Eq.refl 8),.pf (p:=(0:Int)≤5) (by decide),.pf (p:=5<8) (by decide),.pf (Eq.refl 8),.pf (p:=(0+5)<8) (by decide)] <|
.call (@F_q5_ok a1) fun rv16 cv16 =>
.reg 6 [] [(1,hc cv16 [] true)] [.cl 0 cv16 [] 14 true] <|
.cut none [7,13,15,32,33,34] (fun (sv17:Int)=>[(16,(vi sv17))]) (fun (_:Int)=>[]) (
.ite rv16 (
.call (@F_q2q_ok a1 a5) fun rv18 cv18 =>
.reg 7 [] [(2,hc cv18 [1,5] true)] [.cl 0 cv18 [1,5] 14 true] <|
.ret [] (.next rv18)) (
.ret [] (.next 1))) fun (sv17:Int) =>
.guard [((((((zb 1 sv2)++(zb 2 sv5))++(zb 3 sv8))++(zb 4 sv11))++(zb 5 sv14)).length+1) * (2 * 16)≤2 ^ 48] <|
.reg 8 [] [(5,hv (AV.d (eL TCh.e (zb 6 sv17)))),(6,{ h:=.obj,cast:=some (AV.ref 8 (((((((zb 1 sv2)++(zb 2 sv5))++(zb 3 sv8))++(zb 4 sv11))++(zb 5 sv14))++(zb 6 sv17)).length) 0 (((((((zb 1 sv2)++(zb 2 sv5))++(zb 3 sv8))++(zb 4 sv11))++(zb 5 sv14))++(zb 6 sv17)).length)),obs:=[(8,(eS 2 TCh.e ((((((zb 1 sv2)++(zb 2 sv5))++(zb 3 sv8))++(zb 4 sv11))++(zb 5 sv14))++(zb 6 sv17))))] })] [.pf (zd TCh.e (zb 6 sv17)),.pf (Eq.refl ((((((zb 1 sv2)++(zb 2 sv5))++(zb 3 sv8))++(zb 4 sv11))++(zb 5 sv14)).length)),.pf (Eq.refl ((((((zb 1 sv2)++(zb 2 sv5))++(zb 3 sv8))++(zb 4 sv11))++(zb 5 sv14)).length)),.pf (p:=∀ k,k<1→(AV.d (TCh.e ((zb 6 sv17).getD k default))).wd=2) (fun _ _=>rfl),.ev 0,.pf (zy (o:=8) (l:=(((((zb 1 sv2)++(zb 2 sv5))++(zb 3 sv8))++(zb 4 sv11))++(zb 5 sv14))) (x:=(zb 6 sv17))),.pf (zx (sz:=2) (e:=TCh.e) (l:=(((((zb 1 sv2)++(zb 2 sv5))++(zb 3 sv8))++(zb 4 sv11))++(zb 5 sv14))) (x:=(zb 6 sv17)))] <|
.br true (.pf (p:=true=true) rfl) <|
.reg 4 [] [] [.pf (Eq.refl 8),.pf (p:=(0:Int)≤6) (by decide),.pf (p:=6<8) (by decide),.pf (Eq.refl 8),.pf (p:=(0+6)<8) (by decide)] <|
.call (@F_q5_ok a1) fun rv19 cv19 =>
.reg 6 [] [(1,hc cv19 [] true)] [.cl 0 cv19 [] 15 true] <|
.cut none [7,13,15,32,33,34] (fun (sv20:Int)=>[(16,(vi sv20))]) (fun (_:Int)=>[]) (
.ite rv19 (
.call (@F_q2r_ok a1 a5) fun rv21 cv21 =>
.reg 7 [] [(2,hc cv21 [1,5] true)] [.cl 0 cv21 [1,5] 15 true] <|
.ret [] (.next rv21)) (
.ret [] (.next 1))) fun (sv20:Int) =>
.guard [(((((((zb 1 sv2)++(zb 2 sv5))++(zb 3 sv8))++(zb 4 sv11))++(zb 5 sv14))++(zb 6 sv17)).length+1) * (2 * 16)≤2 ^ 48] <|
.reg 8 [] [(5,hv (AV.d (eL TCh.e (zb 7 sv20)))),(6,{ h:=.obj,cast:=some (AV.ref 8 ((((((((zb 1 sv2)++(zb 2 sv5))++(zb 3 sv8))++(zb 4 sv11))++(zb 5 sv14))++(zb 6 sv17))++(zb 7 sv20)).length) 0 ((((((((zb 1 sv2)++(zb 2 sv5))++(zb 3 sv8))++(zb 4 sv11))++(zb 5 sv14))++(zb 6 sv17))++(zb 7 sv20)).length)),obs:=[(8,(eS 2 TCh.e (((((((zb 1 sv2)++(zb 2 sv5))++(zb 3 sv8))++(zb 4 sv11))++(zb 5 sv14))++(zb 6 sv17))++(zb 7 sv20))))] })] [.pf (zd TCh.e (zb 7 sv20)),.pf (Eq.refl (((((((zb 1 sv2)++(zb 2 sv5))++(zb 3 sv8))++(zb 4 sv11))++(zb 5 sv14))++(zb 6 sv17)).length)),.pf (Eq.refl (((((((zb 1 sv2)++(zb 2 sv5))++(zb 3 sv8))++(zb 4 sv11))++(zb 5 sv14))++(zb 6 sv17)).length)),.pf (p:=∀ k,k<1→(AV.d (TCh.e ((zb 7 sv20).getD k default))).wd=2) (fun _ _=>rfl),.ev 0,.pf (zy (o:=8) (l:=((((((zb 1 sv2)++(zb 2 sv5))++(zb 3 sv8))++(zb 4 sv11))++(zb 5 sv14))++(zb 6 sv17))) (x:=(zb 7 sv20))),.pf (zx (sz:=2) (e:=TCh.e) (l:=((((((zb 1 sv2)++(zb 2 sv5))++(zb 3 sv8))++(zb 4 sv11))++(zb 5 sv14))++(zb 6 sv17))) (x:=(zb 7 sv20)))] <|
.br true (.pf (p:=true=true) rfl) <|
.reg 4 [] [] [.pf (Eq.refl 8),.pf (p:=(0:Int)≤7) (by decide),.pf (p:=7<8) (by decide),.pf (Eq.refl 8),.pf (p:=(0+7)<8) (by decide)] <|
.call (@F_q5_ok a1) fun rv22 cv22 =>
.reg 6 [] [(1,hc cv22 [] true)] [.cl 0 cv22 [] 16 true] <|
.cut none [7,13,15,32,33,34] (fun (sv23:Int)=>[(16,(vi sv23))]) (fun (_:Int)=>[]) (
.ite rv22 (
.call (@F_q2t_ok a1 a2 a4) fun rv24 cv24 =>
.reg 7 [] [(2,hc cv24 [1,2,4] true)] [.cl 0 cv24 [1,2,4] 16 true] <|
.ret [] (.next rv24)) (
.ret [] (.next 1))) fun (sv23:Int) =>
.guard [((((((((zb 1 sv2)++(zb 2 sv5))++(zb 3 sv8))++(zb 4 sv11))++(zb 5 sv14))++(zb 6 sv17))++(zb 7 sv20)).length+1) * (2 * 16)≤2 ^ 48] <|
.reg 8 [] [(5,hv (AV.d (eL TCh.e (zb 8 sv23)))),(6,{ h:=.obj,cast:=some (AV.ref 8 (((((((((zb 1 sv2)++(zb 2 sv5))++(zb 3 sv8))++(zb 4 sv11))++(zb 5 sv14))++(zb 6 sv17))++(zb 7 sv20))++(zb 8 sv23)).length) 0 (((((((((zb 1 sv2)++(zb 2 sv5))++(zb 3 sv8))++(zb 4 sv11))++(zb 5 sv14))++(zb 6 sv17))++(zb 7 sv20))++(zb 8 sv23)).length)),obs:=[(8,(eS 2 TCh.e ((((((((zb 1 sv2)++(zb 2 sv5))++(zb 3 sv8))++(zb 4 sv11))++(zb 5 sv14))++(zb 6 sv17))++(zb 7 sv20))++(zb 8 sv23))))] })] [.pf (zd TCh.e (zb 8 sv23)),.pf (Eq.refl ((((((((zb 1 sv2)++(zb 2 sv5))++(zb 3 sv8))++(zb 4 sv11))++(zb 5 sv14))++(zb 6 sv17))++(zb 7 sv20)).length)),.pf (Eq.refl ((((((((zb 1 sv2)++(zb 2 sv5))++(zb 3 sv8))++(zb 4 sv11))++(zb 5 sv14))++(zb 6 sv17))++(zb 7 sv20)).length)),.pf (p:=∀ k,k<1→(AV.d (TCh.e ((zb 8 sv23).getD k default))).wd=2) (fun _ _=>rfl),.ev 0,.pf (zy (o:=8) (l:=(((((((zb 1 sv2)++(zb 2 sv5))++(zb 3 sv8))++(zb 4 sv11))++(zb 5 sv14))++(zb 6 sv17))++(zb 7 sv20))) (x:=(zb 8 sv23))),.pf (zx (sz:=2) (e:=TCh.e) (l:=(((((((zb 1 sv2)++(zb 2 sv5))++(zb 3 sv8))++(zb 4 sv11))++(zb 5 sv14))++(zb 6 sv17))++(zb 7 sv20))) (x:=(zb 8 sv23)))] <|
.br false (.pf (p:=false=false) rfl) <|
.guard [((((((((zb 1 sv2)++(zb 2 sv5))++(zb 3 sv8))++(zb 4 sv11))++(zb 5 sv14))++(zb 6 sv17))++(zb 7 sv20))++(zb 8 sv23)).length<2 ^ 63] <|
.reg 10 [] [] [] <|
.frz 8 (.ev 0) none [12] [] <|
.ret [] ((((((((zb 1 sv2)++(zb 2 sv5))++(zb 3 sv8))++(zb 4 sv11))++(zb 5 sv14))++(zb 6 sv17))++(zb 7 sv20))++(zb 8 sv23))
def F_qq (a0:(List Int)) (a1:TWa) (a2:TOf) (a3:(List TWa)) (a4:TPo) (a5:Int):Option R_qq:=(S_qq a0 a1 a2 a3 a4 a5).den
theorem F_qq_ok {a0:(List Int)} {a1:TWa} {a2:TOf} {a3:(List TWa)} {a4:TPo} {a5:Int} (r:R_qq) (h:F_qq a0 a1 a2 a3 a4 a5=some r):CallOk Tryz.prog 17 [(AV.d (eL (DV.i .u64) a0)),(AV.d (TWa.e a1)),(AV.d (TOf.e a2)),(AV.d (eL TWa.e a3)),(AV.d (TPo.e a4)),(vi a5)] [] (V_qq r) (L_qq r):=fOk (s:=S_qq a0 a1 a2 a3 a4 a5) Tryz.func17 rfl (by kernel_rfl) h
abbrev R_qy:=Int
def V_qy (x:R_qy):AV:=(vi x)
def L_qy (_:R_qy):List Ob:=[]
def S_qy_b1 (a0:(List TCh)) (iv1:Nat) (_:Unit):Scr Tryz.prog R_qy (Step (Unit) R_qy) :=
.reg 3 [] [] [.pf (nn iv1),.ev 0] <|
.ite (((a0.getD iv1 default).Errs) != 0) (
.ret [] (.ret ((a0.getD iv1 default).Errs))) (
.ret [] (.cont ()))
def S_qy (a0:(List TCh)):Scr Tryz.prog R_qy R_qy :=
.range (a0.length:Int) a0.length rfl (.slot 5) 7 [5,6] (fun (_:Unit)=>[]) (fun (_:Unit)=>[]) () (S_qy_b1 a0) (fun (_:Unit) => 
.ret [] 0) id
def F_qy (a0:(List TCh)):Option R_qy:=(S_qy a0).den
theorem F_qy_ok {a0:(List TCh)} (r:R_qy) (h:F_qy a0=some r):CallOk Tryz.prog 16 [(AV.d (eL TCh.e a0))] [] (V_qy r) (L_qy r):=fOk (s:=S_qy a0) Tryz.func16 rfl (by kernel_rfl) h
abbrev R_q33:=Int
def V_q33 (x:R_q33):AV:=(vi x)
def L_q33 (_:R_q33):List Ob:=[]
def S_q33 (a0:TWa) (a1:TWa):Scr Tryz.prog R_q33 R_q33 :=
.call (@F_q32_ok a0.Number a1.Number) fun rv1 cv1 =>
.reg 1 [] [(4,hc cv1 [] true)] [.cl 0 cv1 [] 2 true] <|
.ret [] rv1
def F_q33 (a0:TWa) (a1:TWa):Option R_q33:=(S_q33 a0 a1).den
theorem F_q33_ok {a0:TWa} {a1:TWa} (r:R_q33) (h:F_q33 a0 a1=some r):CallOk Tryz.prog 110 [(AV.d (TWa.e a0)),(AV.d (TWa.e a1))] [] (V_q33 r) (L_q33 r):=fOk (s:=S_q33 a0 a1) Tryz.func110 rfl (by kernel_rfl) h
abbrev R_q1p:=Int×Bool
def V_q1p (x:R_q1p):AV:=(AV.tup [(vi x.1),(vb x.2)])
def L_q1p (_:R_q1p):List Ob:=[]
def S_q1p_b1 (a0:(List TWa)) (a1:TWa) (sv1:Int×Int):Scr Tryz.prog R_q1p (Step (Int×Int) R_q1p) :=
.ite (decide (sv1.1<sv1.2)) (
.reg 4 [] [] [.pf (p:=(0:Int)≤1) (by decide)] <|
.call (@F_q33_ok (a0.getD (((IntKind.i64.wrap ((IntKind.u64.wrap (IntKind.i64.wrap (sv1.1+sv1.2))).fdiv (2 ^ (min (1:Int).toNat IntKind.u64.bits))))).toNat) default) a1) fun rv2 cv2 =>
.guard [(0:Int)≤(IntKind.i64.wrap ((IntKind.u64.wrap (IntKind.i64.wrap (sv1.1+sv1.2))).fdiv (2 ^ (min (1:Int).toNat IntKind.u64.bits)))),((IntKind.i64.wrap ((IntKind.u64.wrap (IntKind.i64.wrap (sv1.1+sv1.2))).fdiv (2 ^ (min (1:Int).toNat IntKind.u64.bits))))).toNat<a0.length] <|
.reg 5 [] [(6,hc cv2 [] true)] [.ev 0,.ev 1,.cl 2 cv2 [] 1 true] <|
.ite (decide (rv2<0)) (
.ret [] (.cont ((IntKind.i64.wrap ((IntKind.i64.wrap ((IntKind.u64.wrap (IntKind.i64.wrap (sv1.1+sv1.2))).fdiv (2 ^ (min (1:Int).toNat IntKind.u64.bits))))+1)),sv1.2))) (
.ret [] (.cont (sv1.1,(IntKind.i64.wrap ((IntKind.u64.wrap (IntKind.i64.wrap (sv1.1+sv1.2))).fdiv (2 ^ (min (1:Int).toNat IntKind.u64.bits)))))))) (
.ret [] (.brk (sv1.1,sv1.2)))
def S_q1p (a0:(List TWa)) (a1:TWa):Scr Tryz.prog R_q1p R_q1p :=
.iter [0,2,4,8] (fun (sv1:Int×Int)=>[(9,(vi sv1.1)),(10,(vi sv1.2))]) (fun (_:Int×Int)=>[]) (0,(a0.length:Int)) (S_q1p_b1 a0 a1) (fun (sv1:Int×Int) =>
.calld [(decide (sv1.1<(a0.length:Int)))=true] default (@F_q33_ok (a0.getD ((sv1.1).toNat) default) a1) fun rv3 cv3 =>
.guard [AllP [(decide (sv1.1<(a0.length:Int)))=true]→((0:Int)≤sv1.1),AllP [(decide (sv1.1<(a0.length:Int)))=true]→((sv1.1).toNat<a0.length)] <|
.reg 8 [] [(11,hc cv3 [] true)] [.ev 0,.ev 1,.clg 2 [(decide (sv1.1<(a0.length:Int)))=true] cv3 [] 1 true] <|
.ret [] (sv1.1,(bif (decide (sv1.1<(a0.length:Int))) then (rv3==0) else false))) id
def F_q1p (a0:(List TWa)) (a1:TWa):Option R_q1p:=(S_q1p a0 a1).den
theorem F_q1p_ok {a0:(List TWa)} {a1:TWa} (r:R_q1p) (h:F_q1p a0 a1=some r):CallOk Tryz.prog 111 [(AV.d (eL TWa.e a0)),(AV.d (TWa.e a1)),(AV.fn 110 [])] [] (V_q1p r) (L_q1p r):=fOk (s:=S_q1p a0 a1) Tryz.func111 rfl (by kernel_rfl) h
abbrev R_q4d:=Bool
def V_q4d (x:R_q4d):AV:=(vb x)
def L_q4d (_:R_q4d):List Ob:=[]
def S_q4d (a0:TWa) (a1:TWa):Scr Tryz.prog R_q4d R_q4d :=
.ret [] (bif (bif (a0.Office==a1.Office) then (a0.Verification==a1.Verification) else false) then (a0.Attempt==a1.Attempt) else false)
def F_q4d (a0:TWa) (a1:TWa):Option R_q4d:=(S_q4d a0 a1).den
theorem F_q4d_ok {a0:TWa} {a1:TWa} (r:R_q4d) (h:F_q4d a0 a1=some r):CallOk Tryz.prog 113 [(AV.d (TWa.e a0)),(AV.d (TWa.e a1))] [] (V_q4d r) (L_q4d r):=fOk (s:=S_q4d a0 a1) Tryz.func113 rfl (by kernel_rfl) h
abbrev R_q4w:=Bool
def V_q4w (x:R_q4w):AV:=(vb x)
def L_q4w (p0:TWa) (_:R_q4w):List Ob:=[(bx (TWa.e p0))]
def S_q4w (a0:TWa) (p0:TWa):Scr Tryz.prog R_q4w R_q4w :=
.call (@F_q4d_ok a0 p0) fun rv1 cv1 =>
.reg 1 [] [(2,hc cv1 [] true)] [.cl 0 cv1 [] 2 true] <|
.ret [] rv1
def F_q4w (a0:TWa) (p0:TWa):Option R_q4w:=(S_q4w a0 p0).den
theorem F_q4w_ok {a0:TWa} {p0:TWa} (r:R_q4w) (h:F_q4w a0 p0=some r):CallOk Tryz.prog 112 [(AV.d (TWa.e a0)),(vp 0)] [(bx (TWa.e p0))] (V_q4w r) (L_q4w p0 r):=fOk (s:=S_q4w a0 p0) Tryz.func112 rfl (by kernel_rfl) h
abbrev R_q21:=Int
def V_q21 (x:R_q21):AV:=(vi x)
def L_q21 (p0:TWa) (_:R_q21):List Ob:=[(bx (TWa.e p0))]
def S_q21_b1 (a0:(List TWa)) (p0:TWa) (iv1:Nat) (_:Unit):Scr Tryz.prog R_q21 (Step (Unit) R_q21) :=
.call (@F_q4w_ok (a0.getD iv1 default) p0) fun rv2 cv2 =>
.reg 4 [] [(5,hc cv2 [0] true)] [.pf (nn iv1),.ev 1,.cl 0 cv2 [0] 1 true] <|
.ite rv2 (
.ret [] (.ret (iv1:Int))) (
.ret [] (.cont ()))
def S_q21 (a0:(List TWa)) (p0:TWa):Scr Tryz.prog R_q21 R_q21 :=
.range (a0.length:Int) a0.length rfl (.slot 0) 8 [0,1,7] (fun (_:Unit)=>[]) (fun (_:Unit)=>[]) () (S_q21_b1 a0 p0) (fun (_:Unit) => 
.ret [] (-1)) id
def F_q21 (a0:(List TWa)) (p0:TWa):Option R_q21:=(S_q21 a0 p0).den
theorem F_q21_ok {a0:(List TWa)} {p0:TWa} (r:R_q21) (h:F_q21 a0 p0=some r):CallOk Tryz.prog 72 [(AV.d (eL TWa.e a0)),(AV.fn 112 [(vp 0)])] [(bx (TWa.e p0))] (V_q21 r) (L_q21 p0 r):=fOk (s:=S_q21 a0 p0) Tryz.func72 rfl (by kernel_rfl) h
abbrev R_q4e:=Bool
def V_q4e (x:R_q4e):AV:=(vb x)
def L_q4e (p0:TWa) (_:R_q4e):List Ob:=[(bx (TWa.e p0))]
def S_q4e (a0:(List TWa)) (p0:TWa):Scr Tryz.prog R_q4e R_q4e :=
.call (@F_q21_ok a0 p0) fun rv1 cv1 =>
.reg 1 [] [(2,hc cv1 [0] true)] [.cl 0 cv1 [0] 1 true] <|
.ret [] (decide (rv1≥0))
def F_q4e (a0:(List TWa)) (p0:TWa):Option R_q4e:=(S_q4e a0 p0).den
theorem F_q4e_ok {a0:(List TWa)} {p0:TWa} (r:R_q4e) (h:F_q4e a0 p0=some r):CallOk Tryz.prog 96 [(AV.d (eL TWa.e a0)),(AV.fn 112 [(vp 0)])] [(bx (TWa.e p0))] (V_q4e r) (L_q4e p0 r):=fOk (s:=S_q4e a0 p0) Tryz.func96 rfl (by kernel_rfl) h
abbrev R_q3j:=(List TWa)
def V_q3j (x:R_q3j):AV:=(AV.ref 0 x.length 0 x.length)
def L_q3j (x:R_q3j):List Ob:=[(eS 14 TWa.e x)]
def S_q3j (a0:(List TWa)):Scr Tryz.prog R_q3j R_q3j :=
.reg 0 [] [] [] <|
.nils 0 (
.guard [a0.length * (2 * 120)≤2 ^ 48] <|
.reg 1 [] [] [] <|
.lev 0 (AV.d (eL TWa.e a0)) (.pf (lvQ true a0.length fun j=>(TWa.e (a0.getD j default)))) <|
.br true (.pf (p:=true=true) rfl) <|
.reg 2 [] [] [] <|
.bor 14 (fun j=>AV.d (TWa.e (a0.getD j default))) [2] <|
.cst (A:=a0.length=0) (.ev 1) [(2,AV.ref 0 0 0 0)] [(2,(AV.ref 0 a0.length 0 a0.length))] [(Ob.seq 14 0 fun j=>AV.d (TWa.e (a0.getD j default)))] [(eS 14 TWa.e a0)] (fun h=>⟨by rw[h],by unfold eS; rw[h]⟩) <|
.ret [] a0) (
.reg 1 [] [] [] <|
.lev 0 (AV.d (eL TWa.e a0)) (.pf (lvQ false a0.length fun j=>(TWa.e (a0.getD j default)))) <|
.br false (.pf (p:=false=false) rfl) <|
.guard [a0.length * (2 * 120)≤2 ^ 48] <|
.reg 3 [] [(2,{ h:=.obj })] [.pf (p:=∀ k,k<a0.length→(AV.d (TWa.e (a0.getD k default))).wd=14) (fun _ _=>rfl),.ev 0] <|
.ret [] a0)
def F_q3j (a0:(List TWa)):Option R_q3j:=(S_q3j a0).den
theorem F_q3j_ok {a0:(List TWa)} (r:R_q3j) (h:F_q3j a0=some r):CallOk Tryz.prog 75 [(AV.d (eL TWa.e a0))] [] (V_q3j r) (L_q3j r):=fOk (s:=S_q3j a0) Tryz.func75 rfl (by kernel_rfl) h
abbrev R_q50:=List TWa
def V_q50 (x:R_q50):AV:=.ref 0 x.length 0 x.length
def L_q50 (p1:List TWa) (x:R_q50):List Ob:=[eS 14 TWa.e x,eS 14 TWa.e p1]
def F_q50 (a1:Int) (p0 p1:List TWa):Option R_q50:=match p1 with
 | [y]=>guardP (0≤a1∧a1.toNat≤p0.length∧(p0.length+1) * (4 * 120)≤2 ^ 48) (some (insL p0 a1.toNat y))
 | _=>none
theorem F_q50_ok {a1:Int} {p0 p1:List TWa} (r:R_q50) (h:F_q50 a1 p0 p1=some r):CallOk Tryz.prog 114 [(AV.ref 0 p0.length 0 p0.length),(AV.d (.i .i64 a1)),(AV.ref 1 p1.length 0 p1.length)] [(eS 14 TWa.e p0),(eS 14 TWa.e p1)] (V_q50 r) (L_q50 p1 r):=by
 unfold F_q50 at h
 split at h
 ·rename_i y
  obtain⟨⟨h1,h2,h3⟩,h⟩:=z2k h
  obtain rfl:=Option.some.inj h
  obtain⟨i,rfl⟩:∃ i:Nat,a1=(i:Int):=⟨a1.toNat,(Int.toNat_of_nonneg h1).symm⟩
  exact Ins114.ins_ok (fun _=>rfl) h2 h3
 ·cases h
theorem cz9:LeV (AV.tup [(AV.full 0 fun _=>DV.b false),(vi 1)]) (AV.tup [(AV.d (eL TWa.e ([]))),(vi 1)]):=LeV.tup (LeVs.cons (lvN TWa.e) (LeVs.cons (LeV.refl _) LeVs.nil))
theorem zoj:LeV (AV.tup [(AV.full 0 fun _=>DV.b false),(vi 7)]) (AV.tup [(AV.d (eL TWa.e ([]))),(vi 7)]):=LeV.tup (LeVs.cons (lvN TWa.e) (LeVs.cons (LeV.refl _) LeVs.nil))
theorem zok:LeV (AV.tup [(AV.full 0 fun _=>DV.b false),(vi 20)]) (AV.tup [(AV.d (eL TWa.e ([]))),(vi 20)]):=LeV.tup (LeVs.cons (lvN TWa.e) (LeVs.cons (LeV.refl _) LeVs.nil))
theorem zol:LeV (AV.tup [(AV.full 0 fun _=>DV.b false),(vi 3)]) (AV.tup [(AV.d (eL TWa.e ([]))),(vi 3)]):=LeV.tup (LeVs.cons (lvN TWa.e) (LeVs.cons (LeV.refl _) LeVs.nil))
abbrev R_qk:=(List TWa)×Int
def V_qk (x:R_qk):AV:=(AV.tup [(AV.d (eL TWa.e x.1)),(vi x.2)])
def L_qk (_:R_qk):List Ob:=[]
def S_qk_b1 (a0:(List TWa)) (sv1:Int):Scr Tryz.prog R_qk (Step (Int) R_qk) :=
.ite (decide (sv1<(a0.length:Int))) (
.call (@F_q33_ok (a0.getD (((IntKind.i64.wrap (sv1-1))).toNat) default) (a0.getD ((sv1).toNat) default)) fun rv2 cv2 =>
.guard [(0:Int)≤(IntKind.i64.wrap (sv1-1)),((IntKind.i64.wrap (sv1-1))).toNat<a0.length,(0:Int)≤sv1,(sv1).toNat<a0.length] <|
.reg 6 [] [(9,hc cv2 [] true)] [.ev 0,.ev 1,.ev 2,.ev 3,.cl 4 cv2 [] 1 true] <|
.ite (decide (rv2≥0)) (
.ret [.pf cz9] (.ret ([],1))) (
.ret [] (.cont (IntKind.i64.wrap (sv1+1))))) (
.ret [] (.brk sv1))
def S_qk (a0:(List TWa)) (a1:TWa):Scr Tryz.prog R_qk R_qk :=
.call (@F_q5_ok a1) fun rv3 cv3 =>
.reg 1 [] [(1,hc cv3 [] true)] [.cl 0 cv3 [] 1 true] <|
.ite (!rv3) (
.ret [.pf cz9] ([],1)) (
.iter [0,3] (fun (sv1:Int)=>[(6,(vi sv1))]) (fun (_:Int)=>[]) 1 (S_qk_b1 a0) (fun (_:Int) =>
.call (@F_q1p_ok a0 a1) fun rv4 cv4 =>
.reg 8 [] [(2,hc cv4 [] true)] [.cl 0 cv4 [] 1 true] <|
.ite rv4.2 (
.ret [.pf zoj] ([],7)) (
.call (@F_q4e_ok a0 a1) fun rv5 cv5 =>
.reg 11 [] [(2,hc cv5 [0] true)] [.cl 0 cv5 [0] 1 true] <|
.ite rv5 (
.ret [.pf zok] ([],20)) (
.ite (decide ((a0.length:Int)≥200)) (
.ret [.pf zol] ([],3)) (
.bor 14 (fun _=>AV.bot) [] <|
.call (@F_q3j_ok a0) fun rv6 cv6 =>
.call (@F_q50_ok rv4.1 rv6 ([a1]:List TWa)) fun rv7 cv7 =>
.reg 15 [1,4,5] [(1,hc cv6 [] false),(4,{ h:=.born 1 true,obs:=[(1,(eS 14 TWa.e ([a1]:List TWa)))] }),(5,hc cv7 [2,1] false)] [.cl 1 cv6 [] 2 false,.cl 1 cv6 [] 2 false,.pf (z54 (sz:=14) (e:=TWa.e) (l:=([a1]:List TWa))),.pf (z54 (sz:=14) (e:=TWa.e) (l:=([a1]:List TWa))),.cl 0 cv7 [2,1] 3 false] <|
.guard [rv7.length<2 ^ 63] <|
.frz 2 (.ev 0) none [4] [] <|
.ret [] (rv7,0))))) id)
def F_qk (a0:(List TWa)) (a1:TWa):Option R_qk:=(S_qk a0 a1).den
theorem F_qk_ok {a0:(List TWa)} {a1:TWa} (r:R_qk) (h:F_qk a0 a1=some r):CallOk Tryz.prog 71 [(AV.d (eL TWa.e a0)),(AV.d (TWa.e a1))] [] (V_qk r) (L_qk r):=fOk (s:=S_qk a0 a1) Tryz.func71 rfl (by kernel_rfl) h
abbrev R_qz:=(List TWa)×Int
def V_qz (x:R_qz):AV:=(AV.tup [(AV.d (eL TWa.e x.1)),(vi x.2)])
def L_qz (_:R_qz):List Ob:=[]
def S_qz (a0:(List Int)) (a1:TWa) (a2:TOf) (a3:(List TWa)) (a4:TPo) (a5:Int):Scr Tryz.prog R_qz R_qz :=
.call (@F_qq_ok a0 a1 a2 a3 a4 a5) fun rv1 cv1 =>
.call (@F_qy_ok rv1) fun rv2 cv2 =>
.reg 1 [] [(6,hc cv1 [] true),(7,hc cv2 [] true)] [.cl 1 cv1 [] 3 true,.cl 0 cv2 [] 3 true] <|
.ite (rv2 != 0) (
.ret [.pf (p:=LeV (AV.tup [(AV.full 0 fun _=>DV.b false),(vi rv2)]) (AV.tup [(AV.d (eL TWa.e ([]))),(vi rv2)])) (LeV.tup (LeVs.cons (lvN TWa.e) (LeVs.cons (LeV.refl _) LeVs.nil)))] ([],rv2)) (
.call (@F_qk_ok a3 a1) fun rv3 cv3 =>
.reg 4 [] [(2,hc cv3 [] true)] [.cl 0 cv3 [] 3 true] <|
.ret [] (rv3.1,rv3.2))
def F_qz (a0:(List Int)) (a1:TWa) (a2:TOf) (a3:(List TWa)) (a4:TPo) (a5:Int):Option R_qz:=(S_qz a0 a1 a2 a3 a4 a5).den
theorem F_qz_ok {a0:(List Int)} {a1:TWa} {a2:TOf} {a3:(List TWa)} {a4:TPo} {a5:Int} (r:R_qz) (h:F_qz a0 a1 a2 a3 a4 a5=some r):CallOk Tryz.prog 27 [(AV.d (eL (DV.i .u64) a0)),(AV.d (TWa.e a1)),(AV.d (TOf.e a2)),(AV.d (eL TWa.e a3)),(AV.d (TPo.e a4)),(vi a5)] [] (V_qz r) (L_qz r):=fOk (s:=S_qz a0 a1 a2 a3 a4 a5) Tryz.func27 rfl (by kernel_rfl) h
abbrev R_q22:=Bool
def V_q22 (x:R_q22):AV:=(vb x)
def L_q22 (_:R_q22):List Ob:=[]
def S_q22_b1 (rv1:R_qq) (iv2:Nat) (_:Unit):Scr Tryz.prog R_q22 (Step (Unit) R_q22) :=
.reg 14 [] [] [.pf (nn iv2),.ev 0] <|
.ite (!((((rv1.getD iv2 default).Errs)==0)==(((rv1.getD iv2 default).Kind) != 4))) (
.ret [] (.ret false)) (
.ret [] (.cont ()))
def S_q22:Scr Tryz.prog R_q22 R_q22 :=
.call (@F_q4y_ok) fun rv3 cv3 =>
.reg 1 [] [(0,hc cv3 [] true),(1,{ obs:=[(0,(bx (TCa.e (⟨[],(⟨0,[],(⟨[],[],[],[]⟩:TBo)⟩:TOf),(⟨[],0,0,[],[],[],[]⟩:TPo),[],0⟩:TCa))))] })] [.cl 0 cv3 [] 0 true,.pf cz7] <|
.call (@F_qf_ok rv3 1 7) fun rv4 cv4 =>
.reg 2 [] [(1,hc cv4 [] true)] [.cl 0 cv4 [] 1 true] <|
.call (@F_qz_ok rv3.Keys rv4.1 rv3.Office ([]) rv3.Pot rv3.Day) fun rv5 cv5 =>
.reg 3 [] [(9,hc cv5 [] true)] [.cl 0 cv5 [] 2 true] <|
.call (@F_qz_ok rv3.Keys rv4.1 rv3.Office rv5.1 rv3.Pot rv3.Day) fun rv6 cv6 =>
.reg 4 [] [(10,hc cv6 [] true)] [.cl 0 cv6 [] 2 true] <|
.call (@F_q18_ok rv3.Keys (⟨rv4.1.Number,rv4.1.Office,rv4.1.Code,rv4.1.Year,rv4.1.Verification,rv4.1.Attempt,rv4.1.Commitment,rv4.1.Reservation,(IntKind.i64.wrap (rv4.1.Amount+1)),rv4.1.Payee,rv4.1.Day,rv4.1.Due,rv4.1.First,rv4.1.Second⟩:TWa) false) fun rv7 cv7 =>
.reg 7 [] [(3,hc cv7 [] true)] [.cl 0 cv7 [] 3 true] <|
.call (@F_q18_ok rv3.Keys rv7.1 true) fun rv8 cv8 =>
.reg 8 [] [(3,hc cv8 [] true)] [.cl 0 cv8 [] 3 true] <|
.call (@F_qq_ok rv3.Keys rv8.1 rv3.Office ([]) rv3.Pot rv3.Day) fun rv1 cv1 =>
.reg 9 [] [(9,hc cv1 [] true)] [.cl 0 cv1 [] 3 true] <|
.ite (bif (bif (bif (bif (!rv4.2) then true else (rv5.2 != 0)) then true else ((rv5.1.length:Int) != 1)) then true else (rv6.2 != 7)) then true else ((rv1.length:Int) != 8)) (
.ret [] false) (
.range (rv1.length:Int) rv1.length rfl (.slot 94) 96 [94,95] (fun (_:Unit)=>[]) (fun (_:Unit)=>[]) () (S_q22_b1 rv1) (fun (_:Unit) => 
.ret [] true) id)
def F_q22:Option R_q22:=(S_q22).den
theorem F_q22_ok (r:R_q22) (h:F_q22=some r):CallOk Tryz.prog 13 [] [] (V_q22 r) (L_q22 r):=fOk (s:=S_q22) Tryz.func13 rfl (by kernel_rfl) h
end
end Go.Proofs.YtclaojamgomjbaaGreatDoor
/- What the functions compute,and that their calls return it. No condition. -/
namespace Go.Proofs.YtclaojamgomjbaaGreatDoor
open Go Go.TA
noncomputable section
set_option maxRecDepth 100000
abbrev R_q10:=Bool
def V_q10 (x:R_q10):AV:=(vb x)
def L_q10 (p0:(List TWa)) (_:R_q10):List Ob:=[(eS 14 TWa.e p0)]
def S_q10_b1 (p0:(List TWa)) (iv1:Nat) (_:Unit):Scr Tryz.prog R_q10 (Step (Unit) R_q10) :=
.guard [(0+iv1)<p0.length] <|
.reg 3 [] [] [.pf (Eq.refl p0.length),.pf (nn iv1),.ev 1,.pf (Eq.refl p0.length),.ev 0] <|
.ite (decide ((((p0.getD (0+iv1) default).Code).length:Int)>60)) (
.ret [] (.ret false)) (
.ret [] (.cont ()))
def S_q10 (p0:(List TWa)):Scr Tryz.prog R_q10 R_q10 :=
.guard [p0.length<2 ^ 63] <|
.range (p0.length:Int) p0.length rfl (.why (.ev 0)) 7 [0,5,6] (fun (_:Unit)=>[]) (fun (_:Unit)=>[]) () (S_q10_b1 p0) (fun (_:Unit) => 
.ret [] (decide ((p0.length:Int)≤40))) id
def F_q10 (p0:(List TWa)):Option R_q10:=(S_q10 p0).den
theorem F_q10_ok {p0:(List TWa)} (r:R_q10) (h:F_q10 p0=some r):CallOk Tryz.prog 19 [(AV.ref 0 p0.length 0 p0.length)] [(eS 14 TWa.e p0)] (V_q10 r) (L_q10 p0 r):=fOk (s:=S_q10 p0) Tryz.func19 rfl (by kernel_rfl) h
abbrev R_q1c:=Bool
def V_q1c (x:R_q1c):AV:=(vb x)
def L_q1c (_:R_q1c):List Ob:=[]
def S_q1c_b1 (a0:TBo) (iv1:Nat) (_:Unit):Scr Tryz.prog R_q1c (Step (Unit) R_q1c) :=
.reg 3 [] [] [.pf (nn iv1),.ev 0] <|
.ite (decide ((((a0.Reservations.getD iv1 default).Code).length:Int)>60)) (
.ret [] (.ret false)) (
.ret [] (.cont ()))
def S_q1c (a0:TBo):Scr Tryz.prog R_q1c R_q1c :=
.range (a0.Reservations.length:Int) a0.Reservations.length rfl (.slot 6) 8 [1,6,7] (fun (_:Unit)=>[]) (fun (_:Unit)=>[]) () (S_q1c_b1 a0) (fun (_:Unit) => 
.ret [] (bif (bif (bif (decide ((a0.Reservations.length:Int)≤40)) then (decide ((a0.Commitments.length:Int)≤40)) else false) then (decide ((a0.Verifications.length:Int)≤40)) else false) then (decide ((a0.Orders.length:Int)≤40)) else false)) id
def F_q1c (a0:TBo):Option R_q1c:=(S_q1c a0).den
theorem F_q1c_ok {a0:TBo} (r:R_q1c) (h:F_q1c a0=some r):CallOk Tryz.prog 66 [(AV.d (TBo.e a0))] [] (V_q1c r) (L_q1c r):=fOk (s:=S_q1c a0) Tryz.func66 rfl (by kernel_rfl) h
abbrev R_q1d:=Bool
def V_q1d (x:R_q1d):AV:=(vb x)
def L_q1d (_:R_q1d):List Ob:=[]
def S_q1d_b1 (a0:TOf) (iv1:Nat) (_:Unit):Scr Tryz.prog R_q1d (Step (Unit) R_q1d) :=
.reg 3 [] [] [.pf (nn iv1),.ev 0] <|
.ite (decide ((((a0.Rights.getD iv1 default).Code).length:Int)>60)) (
.ret [] (.ret false)) (
.ret [] (.cont ()))
def S_q1d (a0:TOf):Scr Tryz.prog R_q1d R_q1d :=
.range (a0.Rights.length:Int) a0.Rights.length rfl (.slot 6) 8 [1,6,7] (fun (_:Unit)=>[]) (fun (_:Unit)=>[]) () (S_q1d_b1 a0) (fun (_:Unit) => 
.calld [(decide ((a0.Rights.length:Int)≤70))=true] default (@F_q1c_ok a0.Book) fun rv2 cv2 =>
.reg 7 [] [(7,hc cv2 [] true)] [.clg 0 [(decide ((a0.Rights.length:Int)≤70))=true] cv2 [] 1 true] <|
.ret [] (bif (decide ((a0.Rights.length:Int)≤70)) then rv2 else false)) id
def F_q1d (a0:TOf):Option R_q1d:=(S_q1d a0).den
theorem F_q1d_ok {a0:TOf} (r:R_q1d) (h:F_q1d a0=some r):CallOk Tryz.prog 20 [(AV.d (TOf.e a0))] [] (V_q1d r) (L_q1d r):=fOk (s:=S_q1d a0) Tryz.func20 rfl (by kernel_rfl) h
theorem zph:OLe (bx (DV.agg [(DV.str ([])),(DV.i .i64 0),(DV.i .i64 0),Z0,Z0,Z0,Z0])) (bx (TPo.e (⟨[],0,0,[],[],[],[]⟩:TPo))):=z4z (DLe.agg (DLeL.cons (DLe.refl _) (DLeL.cons (DLe.refl _) (DLeL.cons (DLe.refl _) (DLeL.cons DLe.sl0 (DLeL.cons DLe.sl0 (DLeL.cons DLe.sl0 (DLeL.cons DLe.sl0 DLeL.nil))))))))
abbrev R_q23:=Bool
def V_q23 (x:R_q23):AV:=(vb x)
def L_q23 (_:R_q23):List Ob:=[]
def S_q23_b1 (a0:TTr) (iv1:Nat) (_:Unit):Scr Tryz.prog R_q23 (Step (Unit) R_q23) :=
.reg 3 [] [(2,{ obs:=[(1,(bx (TPo.e (⟨[],0,0,[],[],[],[]⟩:TPo))))] })] [.pf (nn iv1),.ev 0,.pf zph] <|
.ite (bif (bif (bif (bif (decide ((((a0.Pots.getD iv1 default).Code).length:Int)>60)) then true else (decide ((((a0.Pots.getD iv1 default).Granted).length:Int)>12))) then true else (decide ((((a0.Pots.getD iv1 default).Heard).length:Int)>12))) then true else (decide ((((a0.Pots.getD iv1 default).Asked).length:Int)>12))) then true else (decide ((((a0.Pots.getD iv1 default).Used).length:Int)>12))) (
.ret [] (.ret false)) (
.ret [] (.cont ()))
def S_q23 (a0:TTr):Scr Tryz.prog R_q23 R_q23 :=
.range (a0.Pots.length:Int) a0.Pots.length rfl (.slot 6) 8 [1,6,7] (fun (_:Unit)=>[]) (fun (_:Unit)=>[]) () (S_q23_b1 a0) (fun (_:Unit) => 
.ret [] (decide ((a0.Pots.length:Int)≤70))) id
def F_q23 (a0:TTr):Option R_q23:=(S_q23 a0).den
theorem F_q23_ok {a0:TTr} (r:R_q23) (h:F_q23 a0=some r):CallOk Tryz.prog 21 [(AV.d (TTr.e a0))] [] (V_q23 r) (L_q23 r):=fOk (s:=S_q23 a0) Tryz.func21 rfl (by kernel_rfl) h
abbrev R_q1q:=TWa×TTape
def V_q1q (x:R_q1q):AV:=(AV.d (TWa.e x.1))
def L_q1q (x:R_q1q):List Ob:=[(bx (TTape.e x.2))]
def S_q1q_b1 (a1:(List Int)) (sv1:TWa×Int):Scr Tryz.prog R_q1q (Step (TWa×Int) R_q1q) :=
.ite (decide (sv1.2<2)) (
.call (@F_q18_ok a1 sv1.1 (sv1.2==1)) fun rv2 cv2 =>
.reg 5 [] [(4,hc cv2 [] true)] [.cl 0 cv2 [] 3 true] <|
.ite (rv2.2==0) (
.ret [] (.cont (rv2.1,(IntKind.i64.wrap (sv1.2+1))))) (
.ret [] (.cont (sv1.1,(IntKind.i64.wrap (sv1.2+1)))))) (
.ret [] (.brk (sv1.1,sv1.2)))
def S_q1q (a1:(List Int)) (p0:TTape):Scr Tryz.prog R_q1q R_q1q :=
.call (@F_q6_ok 1 60 p0) fun rv3 cv3 =>
.call (@F_q6_ok 1 3 rv3.2) fun rv4 cv4 =>
.call (@F_q37_ok rv4.2) fun rv5 cv5 =>
.call (@F_q6_ok 1 5 rv5.2) fun rv6 cv6 =>
.call (@F_q6_ok 1 2 rv6.2) fun rv7 cv7 =>
.call (@F_q6_ok 1 4 rv7.2) fun rv8 cv8 =>
.call (@F_q6_ok 1 3 rv8.2) fun rv9 cv9 =>
.call (@F_q6_ok 1 500 rv9.2) fun rv10 cv10 =>
.call (@F_q6_ok 1 4 rv10.2) fun rv11 cv11 =>
.call (@F_q0_ok 300 rv11.2) fun rv12 cv12 =>
.call (@F_q0_ok 400 rv12.2) fun rv13 cv13 =>
.reg 1 [] [(1,hc cv3 [0] false),(3,hc cv4 [0] false),(5,hc cv5 [0] false),(7,hc cv6 [0] false),(9,hc cv7 [0] false),(11,hc cv8 [0] false),(13,hc cv9 [0] false),(15,hc cv10 [0] false),(17,hc cv11 [0] false),(19,hc cv12 [0] false),(22,hc cv13 [0] false)] [.cl 10 cv3 [0] 2 false,.cl 9 cv4 [0] 2 false,.cl 8 cv5 [0] 2 false,.cl 7 cv6 [0] 2 false,.cl 6 cv7 [0] 2 false,.cl 5 cv8 [0] 2 false,.cl 4 cv9 [0] 2 false,.cl 3 cv10 [0] 2 false,.cl 2 cv11 [0] 2 false,.cl 1 cv12 [0] 2 false,.cl 0 cv13 [0] 2 false] <|
.iter [1,4,5] (fun (sv1:TWa×Int)=>[(6,(vi sv1.2))]) (fun (sv1:TWa×Int)=>[(2,(bx (TWa.e sv1.1)))]) ((⟨rv3.1,rv4.1,rv5.1,12,rv6.1,rv7.1,rv8.1,rv9.1,rv10.1,rv11.1,(IntKind.i64.wrap (4320+rv12.1)),(IntKind.i64.wrap (4320+rv13.1)),0,0⟩:TWa),0) (S_q1q_b1 a1) (fun (sv1:TWa×Int) =>
.ret [] (sv1.1,rv13.2)) id
def F_q1q (a1:(List Int)) (p0:TTape):Option R_q1q:=(S_q1q a1 p0).den
theorem F_q1q_ok {a1:(List Int)} {p0:TTape} (r:R_q1q) (h:F_q1q a1 p0=some r):CallOk Tryz.prog 68 [(vp 0),(AV.d (eL (DV.i .u64) a1))] [(bx (TTape.e p0))] (V_q1q r) (L_q1q r):=fOk (s:=S_q1q a1 p0) Tryz.func68 rfl (by kernel_rfl) h
abbrev R_q4f:=Bool
def V_q4f (x:R_q4f):AV:=(vb x)
def L_q4f (_:R_q4f):List Ob:=[]
def S_q4f (a0:TWa) (a1:TWa):Scr Tryz.prog R_q4f R_q4f :=
.ret [] (bif (bif (a0.Office==a1.Office) then (a0.Verification==a1.Verification) else false) then (a0.Attempt==a1.Attempt) else false)
def F_q4f (a0:TWa) (a1:TWa):Option R_q4f:=(S_q4f a0 a1).den
theorem F_q4f_ok {a0:TWa} {a1:TWa} (r:R_q4f) (h:F_q4f a0 a1=some r):CallOk Tryz.prog 108 [(AV.d (TWa.e a0)),(AV.d (TWa.e a1))] [] (V_q4f r) (L_q4f r):=fOk (s:=S_q4f a0 a1) Tryz.func108 rfl (by kernel_rfl) h
abbrev R_q2:=(List TWa)×Int
def V_q2 (x:R_q2):AV:=(AV.tup [(AV.d (eL TWa.e x.1)),(vi x.2)])
def L_q2 (_:R_q2):List Ob:=[]
def S_q2_b1 (a0:(List TWa)) (sv1:Int):Scr Tryz.prog R_q2 (Step (Int) R_q2) :=
.ite (decide (sv1<(a0.length:Int))) (
.guard [(0:Int)≤(IntKind.i64.wrap (sv1-1)),((IntKind.i64.wrap (sv1-1))).toNat<a0.length,(0:Int)≤sv1,(sv1).toNat<a0.length] <|
.reg 4 [] [] [.ev 0,.ev 1,.ev 2,.ev 3] <|
.ite (decide (((a0.getD (((IntKind.i64.wrap (sv1-1))).toNat) default).Number)≥((a0.getD ((sv1).toNat) default).Number))) (
.ret [.pf cz9] (.ret ([],1))) (
.ret [] (.cont (IntKind.i64.wrap (sv1+1))))) (
.ret [] (.brk sv1))
def S_q2_b2 (a0:(List TWa)) (a1:TWa) (iv2:Nat) (sv3:Int):Scr Tryz.prog R_q2 (Step (Int) R_q2) :=
.reg 11 [] [] [.pf (nn iv2),.ev 0] <|
.ite (((a0.getD iv2 default).Number)==a1.Number) (
.ret [.pf zoj] (.ret ([],7))) (
.ite (decide (((a0.getD iv2 default).Number)<a1.Number)) (
.ret [] (.cont (IntKind.i64.wrap (sv3+1)))) (
.ret [] (.cont sv3)))
def S_q2_b3 (a0:(List TWa)) (a1:TWa) (iv4:Nat) (_:Unit):Scr Tryz.prog R_q2 (Step (Unit) R_q2) :=
.reg 19 [] [] [.pf (nn iv4),.ev 0] <|
.call (@F_q4f_ok (a0.getD iv4 default) a1) fun rv5 cv5 =>
.reg 20 [] [(2,hc cv5 [] true)] [.cl 0 cv5 [] 2 true] <|
.ite rv5 (
.ret [.pf zok] (.ret ([],20))) (
.ret [] (.cont ()))
def S_q2 (a0:(List TWa)) (a1:TWa):Scr Tryz.prog R_q2 R_q2 :=
.iter [0,3] (fun (sv1:Int)=>[(6,(vi sv1))]) (fun (_:Int)=>[]) 1 (S_q2_b1 a0) (fun (_:Int) =>
.call (@F_q7_ok a1) fun rv6 cv6 =>
.reg 6 [] [(1,hc cv6 [] true)] [.cl 0 cv6 [] 1 true] <|
.ite (!rv6) (
.ret [.pf cz9] ([],1)) (
.range (a0.length:Int) a0.length rfl (.slot 0) 36 [0,3,34,35] (fun (sv3:Int)=>[(7,(vi sv3))]) (fun (_:Int)=>[]) 0 (S_q2_b2 a0 a1) (fun (sv3:Int) => 
.range (a0.length:Int) a0.length rfl (.slot 0) 55 [0,3,7,53,54] (fun (_:Unit)=>[]) (fun (_:Unit)=>[]) () (S_q2_b3 a0 a1) (fun (_:Unit) => 
.ite (decide ((a0.length:Int)≥200)) (
.ret [.pf zol] ([],3)) (
.guard [(0:Int)≤sv3,(sv3).toNat≤a0.length,(a0.take ((sv3).toNat)).length * (2 * 120)≤2 ^ 48] <|
.reg 25 [] [(3,hv (AV.d (eL TWa.e (a0.take ((sv3).toNat))))),(4,{ h:=.obj })] [.ev 0,.ev 1,.der (fun (h0:(sv3).toNat≤a0.length)=>lvT TWa.e a0 h0) 1,.pf (p:=∀ k,k<(a0.take ((sv3).toNat)).length→(AV.d (TWa.e ((a0.take ((sv3).toNat)).getD k default))).wd=14) (fun _ _=>rfl),.ev 2] <|
.guard [((a0.take ((sv3).toNat)).length+1) * (2 * 120)≤2 ^ 48,(((a0.take ((sv3).toNat))++([a1]:List TWa)).length+(a0.drop ((sv3).toNat)).length) * (2 * 120)≤2 ^ 48] <|
.reg 26 [3,7] [(2,hv (AV.d (eL TWa.e ([a1]:List TWa)))),(3,{ h:=.obj,cast:=some (AV.ref 1 (((a0.take ((sv3).toNat))++([a1]:List TWa)).length) 0 (((a0.take ((sv3).toNat))++([a1]:List TWa)).length)),obs:=[(1,(eS 14 TWa.e ((a0.take ((sv3).toNat))++([a1]:List TWa))))] }),(6,hv (AV.d (eL TWa.e (a0.drop ((sv3).toNat))))),(7,{ cast:=some (AV.ref 1 ((((a0.take ((sv3).toNat))++([a1]:List TWa))++(a0.drop ((sv3).toNat))).length) 0 ((((a0.take ((sv3).toNat))++([a1]:List TWa))++(a0.drop ((sv3).toNat))).length)),obs:=[(1,(eS 14 TWa.e (((a0.take ((sv3).toNat))++([a1]:List TWa))++(a0.drop ((sv3).toNat)))))] })] [.pf (zd TWa.e ([a1]:List TWa)),.pf (Eq.refl ((a0.take ((sv3).toNat)).length)),.pf (Eq.refl ((a0.take ((sv3).toNat)).length)),.pf (p:=∀ k,k<1→(AV.d (TWa.e (([a1]:List TWa).getD k default))).wd=14) (fun _ _=>rfl),.ev 0,.pf (zy (o:=1) (l:=(a0.take ((sv3).toNat))) (x:=([a1]:List TWa))),.pf (zx (sz:=14) (e:=TWa.e) (l:=(a0.take ((sv3).toNat))) (x:=([a1]:List TWa))),.ev 2,.ev 3,.pf (lvD TWa.e a0 ((sv3).toNat)),.ev 2,.ev 3,.pf (lvD TWa.e a0 ((sv3).toNat)),.pf (Eq.refl (((a0.take ((sv3).toNat))++([a1]:List TWa)).length)),.pf (Eq.refl (((a0.take ((sv3).toNat))++([a1]:List TWa)).length)),.pf (p:=∀ k,k<(a0.drop ((sv3).toNat)).length→(AV.d (TWa.e ((a0.drop ((sv3).toNat)).getD k default))).wd=14) (fun _ _=>rfl),.ev 1,.pf (zy (o:=1) (l:=((a0.take ((sv3).toNat))++([a1]:List TWa))) (x:=(a0.drop ((sv3).toNat)))),.pf (zx (sz:=14) (e:=TWa.e) (l:=((a0.take ((sv3).toNat))++([a1]:List TWa))) (x:=(a0.drop ((sv3).toNat))))] <|
.guard [(((a0.take ((sv3).toNat))++([a1]:List TWa))++(a0.drop ((sv3).toNat))).length<2 ^ 63] <|
.frz 1 (.ev 0) none [4] [] <|
.ret [] ((((a0.take ((sv3).toNat))++([a1]:List TWa))++(a0.drop ((sv3).toNat))),0))) id) id)) id
def F_q2 (a0:(List TWa)) (a1:TWa):Option R_q2:=(S_q2 a0 a1).den
theorem F_q2_ok {a0:(List TWa)} {a1:TWa} (r:R_q2) (h:F_q2 a0 a1=some r):CallOk Tryz.prog 67 [(AV.d (eL TWa.e a0)),(AV.d (TWa.e a1))] [] (V_q2 r) (L_q2 r):=fOk (s:=S_q2 a0 a1) Tryz.func67 rfl (by kernel_rfl) h
abbrev R_qh:=(List TWa)×TTape
def V_qh (x:R_qh):AV:=(AV.d (eL TWa.e x.1))
def L_qh (x:R_qh):List Ob:=[(bx (TTape.e x.2))]
def S_qh_b1 (a1:(List Int)) (sv1:TTape×(List TWa)×Int):Scr Tryz.prog R_qh (Step (TTape×(List TWa)×Int) R_qh) :=
.ite (decide (sv1.2.2>0)) (
.call (@F_q1q_ok a1 sv1.1) fun rv2 cv2 =>
.call (@F_q2_ok sv1.2.1 rv2.1) fun rv3 cv3 =>
.reg 5 [] [(3,hc cv2 [0] false),(4,hc cv3 [] true)] [.cl 1 cv2 [0] 1 false,.cl 0 cv3 [] 1 true] <|
.ite (rv3.2==0) (
.ret [] (.cont (rv2.2,rv3.1,(IntKind.i64.wrap (sv1.2.2-1))))) (
.ret [] (.cont (rv2.2,sv1.2.1,(IntKind.i64.wrap (sv1.2.2-1)))))) (
.ret [] (.brk (sv1.1,sv1.2.1,sv1.2.2)))
def S_qh (a1:(List Int)) (a2:Int) (p0:TTape):Scr Tryz.prog R_qh R_qh :=
.call (@F_q0_ok (IntKind.i64.wrap (a2+1)) p0) fun rv4 cv4 =>
.reg 2 [] [(3,hc cv4 [0] false)] [.cl 0 cv4 [0] 1 false] <|
.lev 7 (AV.d (eL TWa.e ([]:List TWa))) (.pf (lvN TWa.e)) <|
.iter [0,1] (fun (sv1:TTape×(List TWa)×Int)=>[(7,(AV.d (eL TWa.e sv1.2.1))),(8,(vi sv1.2.2))]) (fun (sv1:TTape×(List TWa)×Int)=>[(0,(bx (TTape.e sv1.1)))]) (rv4.2,([]:List TWa),rv4.1) (S_qh_b1 a1) (fun (sv1:TTape×(List TWa)×Int) =>
.ret [] (sv1.2.1,sv1.1)) id
def F_qh (a1:(List Int)) (a2:Int) (p0:TTape):Option R_qh:=(S_qh a1 a2 p0).den
theorem F_qh_ok {a1:(List Int)} {a2:Int} {p0:TTape} (r:R_qh) (h:F_qh a1 a2 p0=some r):CallOk Tryz.prog 23 [(vp 0),(AV.d (eL (DV.i .u64) a1)),(vi a2)] [(bx (TTape.e p0))] (V_qh r) (L_qh r):=fOk (s:=S_qh a1 a2 p0) Tryz.func23 rfl (by kernel_rfl) h
abbrev R_q2u:=List UInt8×TTape
def V_q2u (x:R_q2u):AV:=(AV.d (DV.str x.1))
def L_q2u (x:R_q2u):List Ob:=[(bx (TTape.e x.2))]
def S_q2u (p0:TTape):Scr Tryz.prog R_q2u R_q2u :=
.call (@F_q0_ok 12 p0) fun rv1 cv1 =>
.guard [(0:Int)≤rv1.1,(rv1.1).toNat<12] <|
.reg 1 [] [(0,hv (AV.d (eL DV.str ([[],[48],[48,49],[49,46],[46,49],[49,46,46,50],[49,48,48],[49,46,50,46,51,46,52,46,53],[120],[49,32],[57,57,46,57,57,46,57,57,46,57,57],[52]]:List (List UInt8))))),(2,hc cv1 [0] false)] [.pf (zd DV.str ([[],[48],[48,49],[49,46],[46,49],[49,46,46,50],[49,48,48],[49,46,50,46,51,46,52,46,53],[120],[49,32],[57,57,46,57,57,46,57,57,46,57,57],[52]]:List (List UInt8))),.cl 2 cv1 [0] 1 false,.ev 0,.ev 1] <|
.ret [] ((([[],[48],[48,49],[49,46],[46,49],[49,46,46,50],[49,48,48],[49,46,50,46,51,46,52,46,53],[120],[49,32],[57,57,46,57,57,46,57,57,46,57,57],[52]]:List (List UInt8)).getD ((rv1.1).toNat) default),rv1.2)
def F_q2u (p0:TTape):Option R_q2u:=(S_q2u p0).den
theorem F_q2u_ok {p0:TTape} (r:R_q2u) (h:F_q2u p0=some r):CallOk Tryz.prog 69 [(vp 0)] [(bx (TTape.e p0))] (V_q2u r) (L_q2u r):=fOk (s:=S_q2u p0) Tryz.func69 rfl (by kernel_rfl) h
abbrev R_q24:=TWa×TTape
def V_q24 (x:R_q24):AV:=(AV.d (TWa.e x.1))
def L_q24 (x:R_q24):List Ob:=[(bx (TTape.e x.2))]
def S_q24 (a1:TWa) (p0:TTape):Scr Tryz.prog R_q24 R_q24 :=
.call (@F_q4_ok ([(-1),0,1,2,1000001]:List Int) p0) fun rv1 cv1 =>
.reg 1 [] [(1,hv (vl ([(-1),0,1,2,1000001]:List Int))),(2,hc cv1 [0] false)] [.pf (zd (DV.i .i64) ([(-1),0,1,2,1000001]:List Int)),.cl 0 cv1 [0] 3 false] <|
.call (@F_q0_ok 12 rv1.2) fun rv2 cv2 =>
.reg 2 [] [(1,hc cv2 [0] false)] [.cl 0 cv2 [0] 3 false] <|
.cut (some 0) [3,4] (fun (_:TTape×TWa)=>[]) (fun (sv3:TTape×TWa)=>[(0,(bx (TTape.e sv3.1))),(1,(bx (TWa.e sv3.2)))]) (
.ite (rv2.1==0) (
.ret [] (.next (rv2.2,(⟨rv1.1,a1.Office,a1.Code,a1.Year,a1.Verification,a1.Attempt,a1.Commitment,a1.Reservation,a1.Amount,a1.Payee,a1.Day,a1.Due,a1.First,a1.Second⟩:TWa)))) (
.ite (rv2.1==1) (
.call (@F_q4_ok ([0,1,2,7]:List Int) rv2.2) fun rv4 cv4 =>
.reg 7 [] [(1,hv (vl ([0,1,2,7]:List Int))),(2,hc cv4 [0] false)] [.pf (zd (DV.i .i64) ([0,1,2,7]:List Int)),.cl 0 cv4 [0] 3 false] <|
.ret [] (.next (rv4.2,(⟨a1.Number,rv4.1,a1.Code,a1.Year,a1.Verification,a1.Attempt,a1.Commitment,a1.Reservation,a1.Amount,a1.Payee,a1.Day,a1.Due,a1.First,a1.Second⟩:TWa)))) (
.ite (rv2.1==2) (
.call (@F_q2u_ok rv2.2) fun rv5 cv5 =>
.reg 9 [] [(1,hc cv5 [0] false)] [.cl 0 cv5 [0] 3 false] <|
.ret [] (.next (rv5.2,(⟨a1.Number,a1.Office,rv5.1,a1.Year,a1.Verification,a1.Attempt,a1.Commitment,a1.Reservation,a1.Amount,a1.Payee,a1.Day,a1.Due,a1.First,a1.Second⟩:TWa)))) (
.ite (rv2.1==3) (
.call (@F_q4_ok ([(-1),13,100]:List Int) rv2.2) fun rv6 cv6 =>
.reg 11 [] [(1,hv (vl ([(-1),13,100]:List Int))),(2,hc cv6 [0] false)] [.pf (zd (DV.i .i64) ([(-1),13,100]:List Int)),.cl 0 cv6 [0] 3 false] <|
.ret [] (.next (rv6.2,(⟨a1.Number,a1.Office,a1.Code,rv6.1,a1.Verification,a1.Attempt,a1.Commitment,a1.Reservation,a1.Amount,a1.Payee,a1.Day,a1.Due,a1.First,a1.Second⟩:TWa)))) (
.ite (rv2.1==4) (
.ret [] (.next (rv2.2,(⟨a1.Number,a1.Office,a1.Code,a1.Year,rv1.1,a1.Attempt,a1.Commitment,a1.Reservation,a1.Amount,a1.Payee,a1.Day,a1.Due,a1.First,a1.Second⟩:TWa)))) (
.ite (rv2.1==5) (
.ret [] (.next (rv2.2,(⟨a1.Number,a1.Office,a1.Code,a1.Year,a1.Verification,rv1.1,a1.Commitment,a1.Reservation,a1.Amount,a1.Payee,a1.Day,a1.Due,a1.First,a1.Second⟩:TWa)))) (
.ite (rv2.1==6) (
.call (@F_q4_ok ([1,(-1),1000000000000]:List Int) rv2.2) fun rv7 cv7 =>
.reg 17 [4,7] [(3,hv (vl ([1,(-1),1000000000000]:List Int))),(4,hc cv7 [0] false)] [.pf (zd (DV.i .i64) ([1,(-1),1000000000000]:List Int)),.cl 0 cv7 [0] 3 false] <|
.ret [] (.next (rv7.2,(⟨a1.Number,a1.Office,a1.Code,a1.Year,a1.Verification,a1.Attempt,a1.Commitment,a1.Reservation,(IntKind.i64.wrap (a1.Amount+rv7.1)),a1.Payee,a1.Day,a1.Due,a1.First,a1.Second⟩:TWa)))) (
.ite (rv2.1==7) (
.ret [] (.next (rv2.2,(⟨a1.Number,a1.Office,a1.Code,a1.Year,a1.Verification,a1.Attempt,a1.Commitment,a1.Reservation,a1.Amount,rv1.1,a1.Day,a1.Due,a1.First,a1.Second⟩:TWa)))) (
.ite (rv2.1==8) (
.call (@F_q4_ok ([(-1),(IntKind.i64.wrap (a1.Day+1)),35991]:List Int) rv2.2) fun rv8 cv8 =>
.reg 21 [] [(4,hv (vl ([(-1),(IntKind.i64.wrap (a1.Day+1)),35991]:List Int))),(5,hc cv8 [0] false)] [.pf (zd (DV.i .i64) ([(-1),(IntKind.i64.wrap (a1.Day+1)),35991]:List Int)),.cl 0 cv8 [0] 3 false] <|
.ret [] (.next (rv8.2,(⟨a1.Number,a1.Office,a1.Code,a1.Year,a1.Verification,a1.Attempt,a1.Commitment,a1.Reservation,a1.Amount,a1.Payee,rv8.1,a1.Due,a1.First,a1.Second⟩:TWa)))) (
.ite (rv2.1==9) (
.ret [] (.next (rv2.2,(⟨a1.Number,a1.Office,a1.Code,a1.Year,a1.Verification,a1.Attempt,a1.Commitment,a1.Reservation,a1.Amount,a1.Payee,a1.Day,(IntKind.i64.wrap (a1.Due+1)),a1.First,a1.Second⟩:TWa)))) (
.ite (rv2.1==10) (
.ret [] (.next (rv2.2,(⟨a1.Number,a1.Office,a1.Code,a1.Year,a1.Verification,a1.Attempt,a1.Commitment,a1.Reservation,a1.Amount,a1.Payee,a1.Day,a1.Due,(IntKind.u64.wrap (a1.First+1)),a1.Second⟩:TWa)))) (
.ret [] (.next (rv2.2,(⟨a1.Number,a1.Office,a1.Code,a1.Year,a1.Verification,a1.Attempt,a1.Commitment,a1.Reservation,a1.Amount,a1.Payee,a1.Day,a1.Due,a1.First,(IntKind.u64.wrap (a1.Second+1))⟩:TWa))))))))))))))) fun (sv3:TTape×TWa) =>
.ret [] (sv3.2,sv3.1)
def F_q24 (a1:TWa) (p0:TTape):Option R_q24:=(S_q24 a1 p0).den
theorem F_q24_ok {a1:TWa} {p0:TTape} (r:R_q24) (h:F_q24 a1 p0=some r):CallOk Tryz.prog 24 [(vp 0),(AV.d (TWa.e a1))] [(bx (TTape.e p0))] (V_q24 r) (L_q24 r):=fOk (s:=S_q24 a1 p0) Tryz.func24 rfl (by kernel_rfl) h
abbrev R_q4g:=List UInt8×TTape
def V_q4g (x:R_q4g):AV:=(AV.d (DV.str x.1))
def L_q4g (x:R_q4g):List Ob:=[(bx (TTape.e x.2))]
def S_q4g (a1:(List THe)) (p0:TTape):Scr Tryz.prog R_q4g R_q4g :=
.calld [((a1.length:Int)==0)=false] (default,p0) (@F_q0_ok 12 p0) fun rv1 cv1 =>
.reg 1 [] [(5,hc cv1 [0] false)] [.clg 0 [((a1.length:Int)==0)=false] cv1 [0] 1 false,.der (fun (h:¬ AllP [((a1.length:Int)==0)=false]→(default,p0)=rv1) (hn:¬ AllP [((a1.length:Int)==0)=false])=>(by obtain rfl:=h hn; rfl:[(bx (TTape.e p0))]=[(bx (TTape.e rv1.2))])) 1] <|
.ite (bif ((a1.length:Int)==0) then true else (rv1.1==11)) (
.call (@F_q2u_ok rv1.2) fun rv2 cv2 =>
.reg 2 [] [(1,hc cv2 [0] false)] [.cl 0 cv2 [0] 1 false] <|
.ret [] (rv2.1,rv2.2)) (
.call (@F_q0_ok (a1.length:Int) rv1.2) fun rv3 cv3 =>
.guard [(0:Int)≤rv3.1,(rv3.1).toNat<a1.length] <|
.reg 3 [] [(4,hc cv3 [0] false)] [.cl 2 cv3 [0] 1 false,.ev 0,.ev 1] <|
.ret [] ((a1.getD ((rv3.1).toNat) default).Code,rv3.2))
def F_q4g (a1:(List THe)) (p0:TTape):Option R_q4g:=(S_q4g a1 p0).den
theorem F_q4g_ok {a1:(List THe)} {p0:TTape} (r:R_q4g) (h:F_q4g a1 p0=some r):CallOk Tryz.prog 109 [(vp 0),(AV.d (eL THe.e a1))] [(bx (TTape.e p0))] (V_q4g r) (L_q4g r):=fOk (s:=S_q4g a1 p0) Tryz.func109 rfl (by kernel_rfl) h
end
end Go.Proofs.YtclaojamgomjbaaGreatDoor
/- What the functions compute,and that their calls return it. No condition. -/
namespace Go.Proofs.YtclaojamgomjbaaGreatDoor
open Go Go.TA
noncomputable section
set_option maxRecDepth 100000
abbrev R_q34:=TTape×(List TRe)×(List TCo)×(List TVe)×(List TOr)
def V_q34 (x:R_q34):AV:=(AV.agg [(AV.ref 4 x.2.1.length 0 x.2.1.length),(AV.ref 5 x.2.2.1.length 0 x.2.2.1.length),(AV.ref 6 x.2.2.2.1.length 0 x.2.2.2.1.length),(AV.ref 7 x.2.2.2.2.length 0 x.2.2.2.2.length)])
def L_q34 (x:R_q34):List Ob:=[(bx (TTape.e x.1)),Ob.dead,(Ob.box (AV.agg [(AV.ref 4 x.2.1.length 0 x.2.1.length),(AV.ref 5 x.2.2.1.length 0 x.2.2.1.length),(AV.ref 6 x.2.2.2.1.length 0 x.2.2.2.1.length),(AV.ref 7 x.2.2.2.2.length 0 x.2.2.2.2.length)])),Ob.dead,(eS 6 TRe.e x.2.1),(eS 7 TCo.e x.2.2.1),(eS 4 TVe.e x.2.2.2.1),(eS 5 TOr.e x.2.2.2.2)]
def S_q34 (a1:TBo) (p0:TTape):Scr Tryz.prog R_q34 R_q34 :=
.reg 0 [] [(1,{ obs:=[(2,(bx (TBo.e (⟨[],[],[],[]⟩:TBo))))] })] [.pf cz4] <|
.sh (H:=NoH) (A:=True) (.pf trivial) [(0,(vp 0)),(3,(vp 1)),(4,(vp 2))] [(0,(vp 0)),(3,(vp 1)),(4,(vp 2))] [(bx (TTape.e p0)),(bx (TBo.e a1)),(bx (TBo.e (⟨[],[],[],[]⟩:TBo)))] [(bx (TTape.e p0)),(bx (TBo.e a1)),(bx (TBo.e (⟨[],[],[],[]⟩:TBo))),Ob.unb] (fun _=>z5w) (z59 _) <|
.guard [a1.Reservations.length * (2 * 56)≤2 ^ 48,a1.Commitments.length * (2 * 56)≤2 ^ 48,a1.Verifications.length * (2 * 32)≤2 ^ 48,a1.Orders.length * (2 * 40)≤2 ^ 48] <|
.reg 1 [3,7,11,15,17,18] [(3,{ h:=.obj }),(7,{ h:=.obj }),(11,{ h:=.obj }),(15,{ h:=.obj }),(16,{ h:=.obj }),(17,{ h:=.born 3 true })] [.pf (p:=∀ k,k<a1.Reservations.length→(AV.d (TRe.e (a1.Reservations.getD k default))).wd=6) (fun _ _=>rfl),.ev 0,.pf (p:=∀ k,k<a1.Reservations.length→(AV.d (TRe.e (a1.Reservations.getD k default))).wd=6) (fun _ _=>rfl),.ev 0,.pf (p:=∀ k,k<a1.Commitments.length→(AV.d (TCo.e (a1.Commitments.getD k default))).wd=7) (fun _ _=>rfl),.ev 1,.pf (p:=∀ k,k<a1.Commitments.length→(AV.d (TCo.e (a1.Commitments.getD k default))).wd=7) (fun _ _=>rfl),.ev 1,.pf (p:=∀ k,k<a1.Verifications.length→(AV.d (TVe.e (a1.Verifications.getD k default))).wd=4) (fun _ _=>rfl),.ev 2,.pf (p:=∀ k,k<a1.Verifications.length→(AV.d (TVe.e (a1.Verifications.getD k default))).wd=4) (fun _ _=>rfl),.ev 2,.pf (p:=∀ k,k<a1.Orders.length→(AV.d (TOr.e (a1.Orders.getD k default))).wd=5) (fun _ _=>rfl),.ev 3,.pf (p:=∀ k,k<a1.Orders.length→(AV.d (TOr.e (a1.Orders.getD k default))).wd=5) (fun _ _=>rfl),.ev 3] <|
.call (@F_q4_ok ([(-1),0,1,77,1000000000001]:List Int) p0) fun rv1 cv1 =>
.reg 2 [] [(1,hv (vl ([(-1),0,1,77,1000000000001]:List Int))),(2,hc cv1 [0] false)] [.pf (zd (DV.i .i64) ([(-1),0,1,77,1000000000001]:List Int)),.cl 0 cv1 [0] 8 false] <|
.call (@F_q0_ok 12 rv1.2) fun rv2 cv2 =>
.reg 3 [] [(1,hc cv2 [0] false)] [.cl 0 cv2 [0] 8 false] <|
.cut (some 0) [4,5] (fun (_:TTape×(List TRe)×(List TCo)×(List TVe)×(List TOr))=>[]) (fun (sv3:TTape×(List TRe)×(List TCo)×(List TVe)×(List TOr))=>[(0,(bx (TTape.e sv3.1))),(3,(Ob.box (AV.agg [(AV.ref 4 sv3.2.1.length 0 sv3.2.1.length),(AV.ref 5 sv3.2.2.1.length 0 sv3.2.2.1.length),(AV.ref 6 sv3.2.2.2.1.length 0 sv3.2.2.2.1.length),(AV.ref 7 sv3.2.2.2.2.length 0 sv3.2.2.2.2.length)]))),(4,(eS 6 TRe.e sv3.2.1)),(5,(eS 7 TCo.e sv3.2.2.1)),(6,(eS 4 TVe.e sv3.2.2.2.1)),(7,(eS 5 TOr.e sv3.2.2.2.2))]) (
.ite (rv2.1==0) (
.call (@F_q0_ok 2 rv2.2) fun rv4 cv4 =>
.call (@F_q4g_ok ([]) rv4.2) fun rv5 cv5 =>
.guard [(a1.Reservations.length+1) * (2 * 56)≤2 ^ 48] <|
.reg 7 [6,9,12,14] [(6,hc cv4 [0] false),(9,hc cv5 [0] false),(11,hv (AV.d (eL TRe.e ([(⟨(IntKind.i64.wrap ((a1.Reservations.length:Int)+rv4.1)),rv5.1,12,4320,5,0⟩:TRe)]:List TRe)))),(12,{ h:=.obj,cast:=some (AV.ref 4 ((a1.Reservations++([(⟨(IntKind.i64.wrap ((a1.Reservations.length:Int)+rv4.1)),rv5.1,12,4320,5,0⟩:TRe)]:List TRe)).length) 0 ((a1.Reservations++([(⟨(IntKind.i64.wrap ((a1.Reservations.length:Int)+rv4.1)),rv5.1,12,4320,5,0⟩:TRe)]:List TRe)).length)),obs:=[(4,(eS 6 TRe.e (a1.Reservations++([(⟨(IntKind.i64.wrap ((a1.Reservations.length:Int)+rv4.1)),rv5.1,12,4320,5,0⟩:TRe)]:List TRe))))] })] [.cl 2 cv4 [0] 8 false,.cl 1 cv5 [0] 8 false,.pf (zd TRe.e ([(⟨(IntKind.i64.wrap ((a1.Reservations.length:Int)+rv4.1)),rv5.1,12,4320,5,0⟩:TRe)]:List TRe)),.pf (Eq.refl a1.Reservations.length),.pf (Eq.refl a1.Reservations.length),.pf (p:=∀ k,k<1→(AV.d (TRe.e (([(⟨(IntKind.i64.wrap ((a1.Reservations.length:Int)+rv4.1)),rv5.1,12,4320,5,0⟩:TRe)]:List TRe).getD k default))).wd=6) (fun _ _=>rfl),.ev 0,.pf (zy (o:=4) (l:=a1.Reservations) (x:=([(⟨(IntKind.i64.wrap ((a1.Reservations.length:Int)+rv4.1)),rv5.1,12,4320,5,0⟩:TRe)]:List TRe))),.pf (zx (sz:=6) (e:=TRe.e) (l:=a1.Reservations) (x:=([(⟨(IntKind.i64.wrap ((a1.Reservations.length:Int)+rv4.1)),rv5.1,12,4320,5,0⟩:TRe)]:List TRe)))] <|
.ret [] (.next (rv5.2,(a1.Reservations++([(⟨(IntKind.i64.wrap ((a1.Reservations.length:Int)+rv4.1)),rv5.1,12,4320,5,0⟩:TRe)]:List TRe)),a1.Commitments,a1.Verifications,a1.Orders))) (
.ite (rv2.1==1) (
.ite (decide ((a1.Reservations.length:Int)>0)) (
.call (@F_q0_ok (a1.Reservations.length:Int) rv2.2) fun rv6 cv6 =>
.guard [(0:Int)≤rv6.1,(rv6.1).toNat<a1.Reservations.length,(0+(rv6.1).toNat)<a1.Reservations.length] <|
.reg 10 [6,10] [(6,hc cv6 [0] false),(10,{ obs:=[(4,(eS 6 TRe.e (a1.Reservations.set (0+(rv6.1).toNat) (⟨(a1.Reservations.getD (0+(rv6.1).toNat) default).Number,(a1.Reservations.getD (0+(rv6.1).toNat) default).Code,(a1.Reservations.getD (0+(rv6.1).toNat) default).Year,(a1.Reservations.getD (0+(rv6.1).toNat) default).Day,rv1.1,(a1.Reservations.getD (0+(rv6.1).toNat) default).Released⟩:TRe))))] })] [.cl 3 cv6 [0] 8 false,.pf (Eq.refl a1.Reservations.length),.ev 0,.ev 1,.pf (Eq.refl a1.Reservations.length),.pf (Eq.refl a1.Reservations.length),.ev 2,.pf (z19 (sz:=6) (e:=TRe.e) (l:=a1.Reservations) (i:=(0+(rv6.1).toNat)) (x:=(⟨(a1.Reservations.getD (0+(rv6.1).toNat) default).Number,(a1.Reservations.getD (0+(rv6.1).toNat) default).Code,(a1.Reservations.getD (0+(rv6.1).toNat) default).Year,(a1.Reservations.getD (0+(rv6.1).toNat) default).Day,rv1.1,(a1.Reservations.getD (0+(rv6.1).toNat) default).Released⟩:TRe)) (fun _=>rfl))] <|
.cst (A:=True) (.pf trivial) [(4,(vp 2)),(5,(vp 3))] [(4,(vp 2)),(5,(vp 3))] [(bx (TTape.e rv6.2)),(bx (TBo.e a1)),(bx (TBo.e (⟨[],[],[],[]⟩:TBo))),(Ob.box (AV.agg [(AV.ref 4 a1.Reservations.length 0 a1.Reservations.length),(AV.ref 5 a1.Commitments.length 0 a1.Commitments.length),(AV.ref 6 a1.Verifications.length 0 a1.Verifications.length),(AV.ref 7 a1.Orders.length 0 a1.Orders.length)])),(eS 6 TRe.e (a1.Reservations.set (0+(rv6.1).toNat) (⟨(a1.Reservations.getD (0+(rv6.1).toNat) default).Number,(a1.Reservations.getD (0+(rv6.1).toNat) default).Code,(a1.Reservations.getD (0+(rv6.1).toNat) default).Year,(a1.Reservations.getD (0+(rv6.1).toNat) default).Day,rv1.1,(a1.Reservations.getD (0+(rv6.1).toNat) default).Released⟩:TRe))),(eS 7 TCo.e a1.Commitments),(eS 4 TVe.e a1.Verifications),(eS 5 TOr.e a1.Orders)] [(bx (TTape.e rv6.2)),(bx (TBo.e a1)),(bx (TBo.e (⟨[],[],[],[]⟩:TBo))),(Ob.box (AV.agg [(AV.ref 4 ((a1.Reservations.set (0+(rv6.1).toNat) (⟨(a1.Reservations.getD (0+(rv6.1).toNat) default).Number,(a1.Reservations.getD (0+(rv6.1).toNat) default).Code,(a1.Reservations.getD (0+(rv6.1).toNat) default).Year,(a1.Reservations.getD (0+(rv6.1).toNat) default).Day,rv1.1,(a1.Reservations.getD (0+(rv6.1).toNat) default).Released⟩:TRe)).length) 0 ((a1.Reservations.set (0+(rv6.1).toNat) (⟨(a1.Reservations.getD (0+(rv6.1).toNat) default).Number,(a1.Reservations.getD (0+(rv6.1).toNat) default).Code,(a1.Reservations.getD (0+(rv6.1).toNat) default).Year,(a1.Reservations.getD (0+(rv6.1).toNat) default).Day,rv1.1,(a1.Reservations.getD (0+(rv6.1).toNat) default).Released⟩:TRe)).length)),(AV.ref 5 a1.Commitments.length 0 a1.Commitments.length),(AV.ref 6 a1.Verifications.length 0 a1.Verifications.length),(AV.ref 7 a1.Orders.length 0 a1.Orders.length)])),(eS 6 TRe.e (a1.Reservations.set (0+(rv6.1).toNat) (⟨(a1.Reservations.getD (0+(rv6.1).toNat) default).Number,(a1.Reservations.getD (0+(rv6.1).toNat) default).Code,(a1.Reservations.getD (0+(rv6.1).toNat) default).Year,(a1.Reservations.getD (0+(rv6.1).toNat) default).Day,rv1.1,(a1.Reservations.getD (0+(rv6.1).toNat) default).Released⟩:TRe))),(eS 7 TCo.e a1.Commitments),(eS 4 TVe.e a1.Verifications),(eS 5 TOr.e a1.Orders)] (fun _=>⟨by simp only,by simp only[List.length_set]⟩) <|
.ret [] (.next (rv6.2,(a1.Reservations.set (0+(rv6.1).toNat) (⟨(a1.Reservations.getD (0+(rv6.1).toNat) default).Number,(a1.Reservations.getD (0+(rv6.1).toNat) default).Code,(a1.Reservations.getD (0+(rv6.1).toNat) default).Year,(a1.Reservations.getD (0+(rv6.1).toNat) default).Day,rv1.1,(a1.Reservations.getD (0+(rv6.1).toNat) default).Released⟩:TRe)),a1.Commitments,a1.Verifications,a1.Orders))) (
.ret [] (.next (rv2.2,a1.Reservations,a1.Commitments,a1.Verifications,a1.Orders)))) (
.ite (rv2.1==2) (
.ite (decide ((a1.Reservations.length:Int)>0)) (
.call (@F_q4_ok ([(-1),4320,4679,4680]:List Int) rv2.2) fun rv7 cv7 =>
.guard [0<a1.Reservations.length,(0+0)<a1.Reservations.length] <|
.reg 13 [4,7] [(3,hv (vl ([(-1),4320,4679,4680]:List Int))),(4,hc cv7 [0] false),(7,{ obs:=[(4,(eS 6 TRe.e (a1.Reservations.set (0+0) (⟨(a1.Reservations.getD (0+0) default).Number,(a1.Reservations.getD (0+0) default).Code,(a1.Reservations.getD (0+0) default).Year,rv7.1,(a1.Reservations.getD (0+0) default).Amount,(a1.Reservations.getD (0+0) default).Released⟩:TRe))))] })] [.pf (zd (DV.i .i64) ([(-1),4320,4679,4680]:List Int)),.cl 2 cv7 [0] 8 false,.pf (Eq.refl a1.Reservations.length),.pf (p:=(0:Int)≤0) (by decide),.ev 0,.pf (Eq.refl a1.Reservations.length),.pf (Eq.refl a1.Reservations.length),.ev 1,.pf (z19 (sz:=6) (e:=TRe.e) (l:=a1.Reservations) (i:=(0+0)) (x:=(⟨(a1.Reservations.getD (0+0) default).Number,(a1.Reservations.getD (0+0) default).Code,(a1.Reservations.getD (0+0) default).Year,rv7.1,(a1.Reservations.getD (0+0) default).Amount,(a1.Reservations.getD (0+0) default).Released⟩:TRe)) (fun _=>rfl))] <|
.cst (A:=True) (.pf trivial) [(4,(vp 2)),(5,(vp 3))] [(4,(vp 2)),(5,(vp 3))] [(bx (TTape.e rv7.2)),(bx (TBo.e a1)),(bx (TBo.e (⟨[],[],[],[]⟩:TBo))),(Ob.box (AV.agg [(AV.ref 4 a1.Reservations.length 0 a1.Reservations.length),(AV.ref 5 a1.Commitments.length 0 a1.Commitments.length),(AV.ref 6 a1.Verifications.length 0 a1.Verifications.length),(AV.ref 7 a1.Orders.length 0 a1.Orders.length)])),(eS 6 TRe.e (a1.Reservations.set (0+0) (⟨(a1.Reservations.getD (0+0) default).Number,(a1.Reservations.getD (0+0) default).Code,(a1.Reservations.getD (0+0) default).Year,rv7.1,(a1.Reservations.getD (0+0) default).Amount,(a1.Reservations.getD (0+0) default).Released⟩:TRe))),(eS 7 TCo.e a1.Commitments),(eS 4 TVe.e a1.Verifications),(eS 5 TOr.e a1.Orders)] [(bx (TTape.e rv7.2)),(bx (TBo.e a1)),(bx (TBo.e (⟨[],[],[],[]⟩:TBo))),(Ob.box (AV.agg [(AV.ref 4 ((a1.Reservations.set (0+0) (⟨(a1.Reservations.getD (0+0) default).Number,(a1.Reservations.getD (0+0) default).Code,(a1.Reservations.getD (0+0) default).Year,rv7.1,(a1.Reservations.getD (0+0) default).Amount,(a1.Reservations.getD (0+0) default).Released⟩:TRe)).length) 0 ((a1.Reservations.set (0+0) (⟨(a1.Reservations.getD (0+0) default).Number,(a1.Reservations.getD (0+0) default).Code,(a1.Reservations.getD (0+0) default).Year,rv7.1,(a1.Reservations.getD (0+0) default).Amount,(a1.Reservations.getD (0+0) default).Released⟩:TRe)).length)),(AV.ref 5 a1.Commitments.length 0 a1.Commitments.length),(AV.ref 6 a1.Verifications.length 0 a1.Verifications.length),(AV.ref 7 a1.Orders.length 0 a1.Orders.length)])),(eS 6 TRe.e (a1.Reservations.set (0+0) (⟨(a1.Reservations.getD (0+0) default).Number,(a1.Reservations.getD (0+0) default).Code,(a1.Reservations.getD (0+0) default).Year,rv7.1,(a1.Reservations.getD (0+0) default).Amount,(a1.Reservations.getD (0+0) default).Released⟩:TRe))),(eS 7 TCo.e a1.Commitments),(eS 4 TVe.e a1.Verifications),(eS 5 TOr.e a1.Orders)] (fun _=>⟨by simp only,by simp only[List.length_set]⟩) <|
.ret [] (.next (rv7.2,(a1.Reservations.set (0+0) (⟨(a1.Reservations.getD (0+0) default).Number,(a1.Reservations.getD (0+0) default).Code,(a1.Reservations.getD (0+0) default).Year,rv7.1,(a1.Reservations.getD (0+0) default).Amount,(a1.Reservations.getD (0+0) default).Released⟩:TRe)),a1.Commitments,a1.Verifications,a1.Orders))) (
.ret [] (.next (rv2.2,a1.Reservations,a1.Commitments,a1.Verifications,a1.Orders)))) (
.ite (rv2.1==3) (
.ite (decide ((a1.Reservations.length:Int)>0)) (
.guard [0<a1.Reservations.length,(0+0)<a1.Reservations.length] <|
.reg 16 [] [(5,{ obs:=[(4,(eS 6 TRe.e (a1.Reservations.set (0+0) (⟨(a1.Reservations.getD (0+0) default).Number,(a1.Reservations.getD (0+0) default).Code,(a1.Reservations.getD (0+0) default).Year,(a1.Reservations.getD (0+0) default).Day,(a1.Reservations.getD (0+0) default).Amount,rv1.1⟩:TRe))))] })] [.pf (Eq.refl a1.Reservations.length),.pf (p:=(0:Int)≤0) (by decide),.ev 0,.pf (Eq.refl a1.Reservations.length),.pf (Eq.refl a1.Reservations.length),.ev 1,.pf (z19 (sz:=6) (e:=TRe.e) (l:=a1.Reservations) (i:=(0+0)) (x:=(⟨(a1.Reservations.getD (0+0) default).Number,(a1.Reservations.getD (0+0) default).Code,(a1.Reservations.getD (0+0) default).Year,(a1.Reservations.getD (0+0) default).Day,(a1.Reservations.getD (0+0) default).Amount,rv1.1⟩:TRe)) (fun _=>rfl))] <|
.cst (A:=True) (.pf trivial) [(4,(vp 2)),(5,(vp 3))] [(4,(vp 2)),(5,(vp 3))] [(bx (TTape.e rv2.2)),(bx (TBo.e a1)),(bx (TBo.e (⟨[],[],[],[]⟩:TBo))),(Ob.box (AV.agg [(AV.ref 4 a1.Reservations.length 0 a1.Reservations.length),(AV.ref 5 a1.Commitments.length 0 a1.Commitments.length),(AV.ref 6 a1.Verifications.length 0 a1.Verifications.length),(AV.ref 7 a1.Orders.length 0 a1.Orders.length)])),(eS 6 TRe.e (a1.Reservations.set (0+0) (⟨(a1.Reservations.getD (0+0) default).Number,(a1.Reservations.getD (0+0) default).Code,(a1.Reservations.getD (0+0) default).Year,(a1.Reservations.getD (0+0) default).Day,(a1.Reservations.getD (0+0) default).Amount,rv1.1⟩:TRe))),(eS 7 TCo.e a1.Commitments),(eS 4 TVe.e a1.Verifications),(eS 5 TOr.e a1.Orders)] [(bx (TTape.e rv2.2)),(bx (TBo.e a1)),(bx (TBo.e (⟨[],[],[],[]⟩:TBo))),(Ob.box (AV.agg [(AV.ref 4 ((a1.Reservations.set (0+0) (⟨(a1.Reservations.getD (0+0) default).Number,(a1.Reservations.getD (0+0) default).Code,(a1.Reservations.getD (0+0) default).Year,(a1.Reservations.getD (0+0) default).Day,(a1.Reservations.getD (0+0) default).Amount,rv1.1⟩:TRe)).length) 0 ((a1.Reservations.set (0+0) (⟨(a1.Reservations.getD (0+0) default).Number,(a1.Reservations.getD (0+0) default).Code,(a1.Reservations.getD (0+0) default).Year,(a1.Reservations.getD (0+0) default).Day,(a1.Reservations.getD (0+0) default).Amount,rv1.1⟩:TRe)).length)),(AV.ref 5 a1.Commitments.length 0 a1.Commitments.length),(AV.ref 6 a1.Verifications.length 0 a1.Verifications.length),(AV.ref 7 a1.Orders.length 0 a1.Orders.length)])),(eS 6 TRe.e (a1.Reservations.set (0+0) (⟨(a1.Reservations.getD (0+0) default).Number,(a1.Reservations.getD (0+0) default).Code,(a1.Reservations.getD (0+0) default).Year,(a1.Reservations.getD (0+0) default).Day,(a1.Reservations.getD (0+0) default).Amount,rv1.1⟩:TRe))),(eS 7 TCo.e a1.Commitments),(eS 4 TVe.e a1.Verifications),(eS 5 TOr.e a1.Orders)] (fun _=>⟨by simp only,by simp only[List.length_set]⟩) <|
.ret [] (.next (rv2.2,(a1.Reservations.set (0+0) (⟨(a1.Reservations.getD (0+0) default).Number,(a1.Reservations.getD (0+0) default).Code,(a1.Reservations.getD (0+0) default).Year,(a1.Reservations.getD (0+0) default).Day,(a1.Reservations.getD (0+0) default).Amount,rv1.1⟩:TRe)),a1.Commitments,a1.Verifications,a1.Orders))) (
.ret [] (.next (rv2.2,a1.Reservations,a1.Commitments,a1.Verifications,a1.Orders)))) (
.ite (rv2.1==4) (
.call (@F_q0_ok 4 rv2.2) fun rv8 cv8 =>
.call (@F_q4_ok ([4400,4679,4680]:List Int) rv8.2) fun rv9 cv9 =>
.call (@F_q6_ok 1 9 rv9.2) fun rv10 cv10 =>
.call (@F_q0_ok 2 rv10.2) fun rv11 cv11 =>
.guard [(a1.Commitments.length+1) * (2 * 56)≤2 ^ 48] <|
.reg 18 [7,10,12,14,17,19] [(7,hc cv8 [0] false),(9,hv (vl ([4400,4679,4680]:List Int))),(10,hc cv9 [0] false),(12,hc cv10 [0] false),(14,hc cv11 [0] false),(16,hv (AV.d (eL TCo.e ([(⟨(IntKind.i64.wrap ((a1.Commitments.length:Int)+1)),rv8.1,rv9.1,rv10.1,0,rv11.1,4400⟩:TCo)]:List TCo)))),(17,{ h:=.obj,cast:=some (AV.ref 5 ((a1.Commitments++([(⟨(IntKind.i64.wrap ((a1.Commitments.length:Int)+1)),rv8.1,rv9.1,rv10.1,0,rv11.1,4400⟩:TCo)]:List TCo)).length) 0 ((a1.Commitments++([(⟨(IntKind.i64.wrap ((a1.Commitments.length:Int)+1)),rv8.1,rv9.1,rv10.1,0,rv11.1,4400⟩:TCo)]:List TCo)).length)),obs:=[(5,(eS 7 TCo.e (a1.Commitments++([(⟨(IntKind.i64.wrap ((a1.Commitments.length:Int)+1)),rv8.1,rv9.1,rv10.1,0,rv11.1,4400⟩:TCo)]:List TCo))))] })] [.cl 4 cv8 [0] 8 false,.pf (zd (DV.i .i64) ([4400,4679,4680]:List Int)),.pf (zd (DV.i .i64) ([4400,4679,4680]:List Int)),.cl 3 cv9 [0] 8 false,.cl 2 cv10 [0] 8 false,.cl 1 cv11 [0] 8 false,.pf (zd TCo.e ([(⟨(IntKind.i64.wrap ((a1.Commitments.length:Int)+1)),rv8.1,rv9.1,rv10.1,0,rv11.1,4400⟩:TCo)]:List TCo)),.pf (Eq.refl a1.Commitments.length),.pf (Eq.refl a1.Commitments.length),.pf (p:=∀ k,k<1→(AV.d (TCo.e (([(⟨(IntKind.i64.wrap ((a1.Commitments.length:Int)+1)),rv8.1,rv9.1,rv10.1,0,rv11.1,4400⟩:TCo)]:List TCo).getD k default))).wd=7) (fun _ _=>rfl),.ev 0,.pf (zy (o:=5) (l:=a1.Commitments) (x:=([(⟨(IntKind.i64.wrap ((a1.Commitments.length:Int)+1)),rv8.1,rv9.1,rv10.1,0,rv11.1,4400⟩:TCo)]:List TCo))),.pf (zx (sz:=7) (e:=TCo.e) (l:=a1.Commitments) (x:=([(⟨(IntKind.i64.wrap ((a1.Commitments.length:Int)+1)),rv8.1,rv9.1,rv10.1,0,rv11.1,4400⟩:TCo)]:List TCo)))] <|
.ret [] (.next (rv11.2,a1.Reservations,(a1.Commitments++([(⟨(IntKind.i64.wrap ((a1.Commitments.length:Int)+1)),rv8.1,rv9.1,rv10.1,0,rv11.1,4400⟩:TCo)]:List TCo)),a1.Verifications,a1.Orders))) (
.ite (rv2.1==5) (
.ite (decide ((a1.Commitments.length:Int)>0)) (
.guard [0<a1.Commitments.length,(0+0)<a1.Commitments.length] <|
.reg 21 [] [(5,{ obs:=[(5,(eS 7 TCo.e (a1.Commitments.set (0+0) (⟨(a1.Commitments.getD (0+0) default).Number,(a1.Commitments.getD (0+0) default).Reservation,(a1.Commitments.getD (0+0) default).Day,(a1.Commitments.getD (0+0) default).Amount,rv1.1,(a1.Commitments.getD (0+0) default).Payee,(a1.Commitments.getD (0+0) default).Due⟩:TCo))))] })] [.pf (Eq.refl a1.Commitments.length),.pf (p:=(0:Int)≤0) (by decide),.ev 0,.pf (Eq.refl a1.Commitments.length),.pf (Eq.refl a1.Commitments.length),.ev 1,.pf (z19 (sz:=7) (e:=TCo.e) (l:=a1.Commitments) (i:=(0+0)) (x:=(⟨(a1.Commitments.getD (0+0) default).Number,(a1.Commitments.getD (0+0) default).Reservation,(a1.Commitments.getD (0+0) default).Day,(a1.Commitments.getD (0+0) default).Amount,rv1.1,(a1.Commitments.getD (0+0) default).Payee,(a1.Commitments.getD (0+0) default).Due⟩:TCo)) (fun _=>rfl))] <|
.cst (A:=True) (.pf trivial) [(4,(vp 2)),(5,(vp 3))] [(4,(vp 2)),(5,(vp 3))] [(bx (TTape.e rv2.2)),(bx (TBo.e a1)),(bx (TBo.e (⟨[],[],[],[]⟩:TBo))),(Ob.box (AV.agg [(AV.ref 4 a1.Reservations.length 0 a1.Reservations.length),(AV.ref 5 a1.Commitments.length 0 a1.Commitments.length),(AV.ref 6 a1.Verifications.length 0 a1.Verifications.length),(AV.ref 7 a1.Orders.length 0 a1.Orders.length)])),(eS 6 TRe.e a1.Reservations),(eS 7 TCo.e (a1.Commitments.set (0+0) (⟨(a1.Commitments.getD (0+0) default).Number,(a1.Commitments.getD (0+0) default).Reservation,(a1.Commitments.getD (0+0) default).Day,(a1.Commitments.getD (0+0) default).Amount,rv1.1,(a1.Commitments.getD (0+0) default).Payee,(a1.Commitments.getD (0+0) default).Due⟩:TCo))),(eS 4 TVe.e a1.Verifications),(eS 5 TOr.e a1.Orders)] [(bx (TTape.e rv2.2)),(bx (TBo.e a1)),(bx (TBo.e (⟨[],[],[],[]⟩:TBo))),(Ob.box (AV.agg [(AV.ref 4 a1.Reservations.length 0 a1.Reservations.length),(AV.ref 5 ((a1.Commitments.set (0+0) (⟨(a1.Commitments.getD (0+0) default).Number,(a1.Commitments.getD (0+0) default).Reservation,(a1.Commitments.getD (0+0) default).Day,(a1.Commitments.getD (0+0) default).Amount,rv1.1,(a1.Commitments.getD (0+0) default).Payee,(a1.Commitments.getD (0+0) default).Due⟩:TCo)).length) 0 ((a1.Commitments.set (0+0) (⟨(a1.Commitments.getD (0+0) default).Number,(a1.Commitments.getD (0+0) default).Reservation,(a1.Commitments.getD (0+0) default).Day,(a1.Commitments.getD (0+0) default).Amount,rv1.1,(a1.Commitments.getD (0+0) default).Payee,(a1.Commitments.getD (0+0) default).Due⟩:TCo)).length)),(AV.ref 6 a1.Verifications.length 0 a1.Verifications.length),(AV.ref 7 a1.Orders.length 0 a1.Orders.length)])),(eS 6 TRe.e a1.Reservations),(eS 7 TCo.e (a1.Commitments.set (0+0) (⟨(a1.Commitments.getD (0+0) default).Number,(a1.Commitments.getD (0+0) default).Reservation,(a1.Commitments.getD (0+0) default).Day,(a1.Commitments.getD (0+0) default).Amount,rv1.1,(a1.Commitments.getD (0+0) default).Payee,(a1.Commitments.getD (0+0) default).Due⟩:TCo))),(eS 4 TVe.e a1.Verifications),(eS 5 TOr.e a1.Orders)] (fun _=>⟨by simp only,by simp only[List.length_set]⟩) <|
.ret [] (.next (rv2.2,a1.Reservations,(a1.Commitments.set (0+0) (⟨(a1.Commitments.getD (0+0) default).Number,(a1.Commitments.getD (0+0) default).Reservation,(a1.Commitments.getD (0+0) default).Day,(a1.Commitments.getD (0+0) default).Amount,rv1.1,(a1.Commitments.getD (0+0) default).Payee,(a1.Commitments.getD (0+0) default).Due⟩:TCo)),a1.Verifications,a1.Orders))) (
.ret [] (.next (rv2.2,a1.Reservations,a1.Commitments,a1.Verifications,a1.Orders)))) (
.ite (rv2.1==6) (
.ite (decide ((a1.Commitments.length:Int)>0)) (
.call (@F_q0_ok (a1.Commitments.length:Int) rv2.2) fun rv12 cv12 =>
.call (@F_q4_ok ([1,100,(-1)]:List Int) rv12.2) fun rv13 cv13 =>
.guard [(0:Int)≤rv12.1,(rv12.1).toNat<a1.Commitments.length,(0+(rv12.1).toNat)<a1.Commitments.length] <|
.reg 24 [6,12,16] [(6,hc cv12 [0] false),(11,hv (vl ([1,100,(-1)]:List Int))),(12,hc cv13 [0] false),(16,{ obs:=[(5,(eS 7 TCo.e (a1.Commitments.set (0+(rv12.1).toNat) (⟨(a1.Commitments.getD (0+(rv12.1).toNat) default).Number,(a1.Commitments.getD (0+(rv12.1).toNat) default).Reservation,(a1.Commitments.getD (0+(rv12.1).toNat) default).Day,(IntKind.i64.wrap (((a1.Commitments.getD (0+(rv12.1).toNat) default).Amount)+rv13.1)),(a1.Commitments.getD (0+(rv12.1).toNat) default).Released,(a1.Commitments.getD (0+(rv12.1).toNat) default).Payee,(a1.Commitments.getD (0+(rv12.1).toNat) default).Due⟩:TCo))))] })] [.cl 4 cv12 [0] 8 false,.pf (Eq.refl a1.Commitments.length),.ev 0,.ev 1,.pf (Eq.refl a1.Commitments.length),.ev 0,.ev 1,.pf (Eq.refl a1.Commitments.length),.pf (Eq.refl a1.Commitments.length),.pf (Eq.refl a1.Commitments.length),.ev 2,.pf (Eq.refl a1.Commitments.length),.ev 2,.pf (zd (DV.i .i64) ([1,100,(-1)]:List Int)),.pf (zd (DV.i .i64) ([1,100,(-1)]:List Int)),.cl 3 cv13 [0] 8 false,.pf (Eq.refl a1.Commitments.length),.ev 0,.ev 1,.pf (Eq.refl a1.Commitments.length),.pf (Eq.refl a1.Commitments.length),.ev 2,.pf (z19 (sz:=7) (e:=TCo.e) (l:=a1.Commitments) (i:=(0+(rv12.1).toNat)) (x:=(⟨(a1.Commitments.getD (0+(rv12.1).toNat) default).Number,(a1.Commitments.getD (0+(rv12.1).toNat) default).Reservation,(a1.Commitments.getD (0+(rv12.1).toNat) default).Day,(IntKind.i64.wrap (((a1.Commitments.getD (0+(rv12.1).toNat) default).Amount)+rv13.1)),(a1.Commitments.getD (0+(rv12.1).toNat) default).Released,(a1.Commitments.getD (0+(rv12.1).toNat) default).Payee,(a1.Commitments.getD (0+(rv12.1).toNat) default).Due⟩:TCo)) (fun _=>rfl))] <|
.cst (A:=True) (.pf trivial) [(4,(vp 2)),(5,(vp 3))] [(4,(vp 2)),(5,(vp 3))] [(bx (TTape.e rv13.2)),(bx (TBo.e a1)),(bx (TBo.e (⟨[],[],[],[]⟩:TBo))),(Ob.box (AV.agg [(AV.ref 4 a1.Reservations.length 0 a1.Reservations.length),(AV.ref 5 a1.Commitments.length 0 a1.Commitments.length),(AV.ref 6 a1.Verifications.length 0 a1.Verifications.length),(AV.ref 7 a1.Orders.length 0 a1.Orders.length)])),(eS 6 TRe.e a1.Reservations),(eS 7 TCo.e (a1.Commitments.set (0+(rv12.1).toNat) (⟨(a1.Commitments.getD (0+(rv12.1).toNat) default).Number,(a1.Commitments.getD (0+(rv12.1).toNat) default).Reservation,(a1.Commitments.getD (0+(rv12.1).toNat) default).Day,(IntKind.i64.wrap (((a1.Commitments.getD (0+(rv12.1).toNat) default).Amount)+rv13.1)),(a1.Commitments.getD (0+(rv12.1).toNat) default).Released,(a1.Commitments.getD (0+(rv12.1).toNat) default).Payee,(a1.Commitments.getD (0+(rv12.1).toNat) default).Due⟩:TCo))),(eS 4 TVe.e a1.Verifications),(eS 5 TOr.e a1.Orders)] [(bx (TTape.e rv13.2)),(bx (TBo.e a1)),(bx (TBo.e (⟨[],[],[],[]⟩:TBo))),(Ob.box (AV.agg [(AV.ref 4 a1.Reservations.length 0 a1.Reservations.length),(AV.ref 5 ((a1.Commitments.set (0+(rv12.1).toNat) (⟨(a1.Commitments.getD (0+(rv12.1).toNat) default).Number,(a1.Commitments.getD (0+(rv12.1).toNat) default).Reservation,(a1.Commitments.getD (0+(rv12.1).toNat) default).Day,(IntKind.i64.wrap (((a1.Commitments.getD (0+(rv12.1).toNat) default).Amount)+rv13.1)),(a1.Commitments.getD (0+(rv12.1).toNat) default).Released,(a1.Commitments.getD (0+(rv12.1).toNat) default).Payee,(a1.Commitments.getD (0+(rv12.1).toNat) default).Due⟩:TCo)).length) 0 ((a1.Commitments.set (0+(rv12.1).toNat) (⟨(a1.Commitments.getD (0+(rv12.1).toNat) default).Number,(a1.Commitments.getD (0+(rv12.1).toNat) default).Reservation,(a1.Commitments.getD (0+(rv12.1).toNat) default).Day,(IntKind.i64.wrap (((a1.Commitments.getD (0+(rv12.1).toNat) default).Amount)+rv13.1)),(a1.Commitments.getD (0+(rv12.1).toNat) default).Released,(a1.Commitments.getD (0+(rv12.1).toNat) default).Payee,(a1.Commitments.getD (0+(rv12.1).toNat) default).Due⟩:TCo)).length)),(AV.ref 6 a1.Verifications.length 0 a1.Verifications.length),(AV.ref 7 a1.Orders.length 0 a1.Orders.length)])),(eS 6 TRe.e a1.Reservations),(eS 7 TCo.e (a1.Commitments.set (0+(rv12.1).toNat) (⟨(a1.Commitments.getD (0+(rv12.1).toNat) default).Number,(a1.Commitments.getD (0+(rv12.1).toNat) default).Reservation,(a1.Commitments.getD (0+(rv12.1).toNat) default).Day,(IntKind.i64.wrap (((a1.Commitments.getD (0+(rv12.1).toNat) default).Amount)+rv13.1)),(a1.Commitments.getD (0+(rv12.1).toNat) default).Released,(a1.Commitments.getD (0+(rv12.1).toNat) default).Payee,(a1.Commitments.getD (0+(rv12.1).toNat) default).Due⟩:TCo))),(eS 4 TVe.e a1.Verifications),(eS 5 TOr.e a1.Orders)] (fun _=>⟨by simp only,by simp only[List.length_set]⟩) <|
.ret [] (.next (rv13.2,a1.Reservations,(a1.Commitments.set (0+(rv12.1).toNat) (⟨(a1.Commitments.getD (0+(rv12.1).toNat) default).Number,(a1.Commitments.getD (0+(rv12.1).toNat) default).Reservation,(a1.Commitments.getD (0+(rv12.1).toNat) default).Day,(IntKind.i64.wrap (((a1.Commitments.getD (0+(rv12.1).toNat) default).Amount)+rv13.1)),(a1.Commitments.getD (0+(rv12.1).toNat) default).Released,(a1.Commitments.getD (0+(rv12.1).toNat) default).Payee,(a1.Commitments.getD (0+(rv12.1).toNat) default).Due⟩:TCo)),a1.Verifications,a1.Orders))) (
.ret [] (.next (rv2.2,a1.Reservations,a1.Commitments,a1.Verifications,a1.Orders)))) (
.ite (rv2.1==7) (
.call (@F_q0_ok 4 rv2.2) fun rv14 cv14 =>
.call (@F_q4_ok ([4500,5039,5040]:List Int) rv14.2) fun rv15 cv15 =>
.guard [(a1.Verifications.length+1) * (2 * 32)≤2 ^ 48] <|
.reg 26 [7,10,13,15] [(7,hc cv14 [0] false),(9,hv (vl ([4500,5039,5040]:List Int))),(10,hc cv15 [0] false),(12,hv (AV.d (eL TVe.e ([(⟨(IntKind.i64.wrap ((a1.Verifications.length:Int)+1)),rv14.1,rv15.1,1⟩:TVe)]:List TVe)))),(13,{ h:=.obj,cast:=some (AV.ref 6 ((a1.Verifications++([(⟨(IntKind.i64.wrap ((a1.Verifications.length:Int)+1)),rv14.1,rv15.1,1⟩:TVe)]:List TVe)).length) 0 ((a1.Verifications++([(⟨(IntKind.i64.wrap ((a1.Verifications.length:Int)+1)),rv14.1,rv15.1,1⟩:TVe)]:List TVe)).length)),obs:=[(6,(eS 4 TVe.e (a1.Verifications++([(⟨(IntKind.i64.wrap ((a1.Verifications.length:Int)+1)),rv14.1,rv15.1,1⟩:TVe)]:List TVe))))] })] [.cl 2 cv14 [0] 8 false,.pf (zd (DV.i .i64) ([4500,5039,5040]:List Int)),.pf (zd (DV.i .i64) ([4500,5039,5040]:List Int)),.cl 1 cv15 [0] 8 false,.pf (zd TVe.e ([(⟨(IntKind.i64.wrap ((a1.Verifications.length:Int)+1)),rv14.1,rv15.1,1⟩:TVe)]:List TVe)),.pf (Eq.refl a1.Verifications.length),.pf (Eq.refl a1.Verifications.length),.pf (p:=∀ k,k<1→(AV.d (TVe.e (([(⟨(IntKind.i64.wrap ((a1.Verifications.length:Int)+1)),rv14.1,rv15.1,1⟩:TVe)]:List TVe).getD k default))).wd=4) (fun _ _=>rfl),.ev 0,.pf (zy (o:=6) (l:=a1.Verifications) (x:=([(⟨(IntKind.i64.wrap ((a1.Verifications.length:Int)+1)),rv14.1,rv15.1,1⟩:TVe)]:List TVe))),.pf (zx (sz:=4) (e:=TVe.e) (l:=a1.Verifications) (x:=([(⟨(IntKind.i64.wrap ((a1.Verifications.length:Int)+1)),rv14.1,rv15.1,1⟩:TVe)]:List TVe)))] <|
.ret [] (.next (rv15.2,a1.Reservations,a1.Commitments,(a1.Verifications++([(⟨(IntKind.i64.wrap ((a1.Verifications.length:Int)+1)),rv14.1,rv15.1,1⟩:TVe)]:List TVe)),a1.Orders))) (
.ite (rv2.1==8) (
.ite (decide ((a1.Verifications.length:Int)>0)) (
.call (@F_q4_ok ([0,5039,5040]:List Int) rv2.2) fun rv16 cv16 =>
.guard [0<a1.Verifications.length,(0+0)<a1.Verifications.length] <|
.reg 29 [4,7] [(3,hv (vl ([0,5039,5040]:List Int))),(4,hc cv16 [0] false),(7,{ obs:=[(6,(eS 4 TVe.e (a1.Verifications.set (0+0) (⟨(a1.Verifications.getD (0+0) default).Number,(a1.Verifications.getD (0+0) default).Commitment,rv16.1,(a1.Verifications.getD (0+0) default).Amount⟩:TVe))))] })] [.pf (zd (DV.i .i64) ([0,5039,5040]:List Int)),.cl 2 cv16 [0] 8 false,.pf (Eq.refl a1.Verifications.length),.pf (p:=(0:Int)≤0) (by decide),.ev 0,.pf (Eq.refl a1.Verifications.length),.pf (Eq.refl a1.Verifications.length),.ev 1,.pf (z19 (sz:=4) (e:=TVe.e) (l:=a1.Verifications) (i:=(0+0)) (x:=(⟨(a1.Verifications.getD (0+0) default).Number,(a1.Verifications.getD (0+0) default).Commitment,rv16.1,(a1.Verifications.getD (0+0) default).Amount⟩:TVe)) (fun _=>rfl))] <|
.cst (A:=True) (.pf trivial) [(4,(vp 2)),(5,(vp 3))] [(4,(vp 2)),(5,(vp 3))] [(bx (TTape.e rv16.2)),(bx (TBo.e a1)),(bx (TBo.e (⟨[],[],[],[]⟩:TBo))),(Ob.box (AV.agg [(AV.ref 4 a1.Reservations.length 0 a1.Reservations.length),(AV.ref 5 a1.Commitments.length 0 a1.Commitments.length),(AV.ref 6 a1.Verifications.length 0 a1.Verifications.length),(AV.ref 7 a1.Orders.length 0 a1.Orders.length)])),(eS 6 TRe.e a1.Reservations),(eS 7 TCo.e a1.Commitments),(eS 4 TVe.e (a1.Verifications.set (0+0) (⟨(a1.Verifications.getD (0+0) default).Number,(a1.Verifications.getD (0+0) default).Commitment,rv16.1,(a1.Verifications.getD (0+0) default).Amount⟩:TVe))),(eS 5 TOr.e a1.Orders)] [(bx (TTape.e rv16.2)),(bx (TBo.e a1)),(bx (TBo.e (⟨[],[],[],[]⟩:TBo))),(Ob.box (AV.agg [(AV.ref 4 a1.Reservations.length 0 a1.Reservations.length),(AV.ref 5 a1.Commitments.length 0 a1.Commitments.length),(AV.ref 6 ((a1.Verifications.set (0+0) (⟨(a1.Verifications.getD (0+0) default).Number,(a1.Verifications.getD (0+0) default).Commitment,rv16.1,(a1.Verifications.getD (0+0) default).Amount⟩:TVe)).length) 0 ((a1.Verifications.set (0+0) (⟨(a1.Verifications.getD (0+0) default).Number,(a1.Verifications.getD (0+0) default).Commitment,rv16.1,(a1.Verifications.getD (0+0) default).Amount⟩:TVe)).length)),(AV.ref 7 a1.Orders.length 0 a1.Orders.length)])),(eS 6 TRe.e a1.Reservations),(eS 7 TCo.e a1.Commitments),(eS 4 TVe.e (a1.Verifications.set (0+0) (⟨(a1.Verifications.getD (0+0) default).Number,(a1.Verifications.getD (0+0) default).Commitment,rv16.1,(a1.Verifications.getD (0+0) default).Amount⟩:TVe))),(eS 5 TOr.e a1.Orders)] (fun _=>⟨by simp only,by simp only[List.length_set]⟩) <|
.ret [] (.next (rv16.2,a1.Reservations,a1.Commitments,(a1.Verifications.set (0+0) (⟨(a1.Verifications.getD (0+0) default).Number,(a1.Verifications.getD (0+0) default).Commitment,rv16.1,(a1.Verifications.getD (0+0) default).Amount⟩:TVe)),a1.Orders))) (
.ret [] (.next (rv2.2,a1.Reservations,a1.Commitments,a1.Verifications,a1.Orders)))) (
.ite (rv2.1==9) (
.call (@F_q0_ok 4 rv2.2) fun rv17 cv17 =>
.call (@F_q6_ok 0 2 rv17.2) fun rv18 cv18 =>
.call (@F_q4_ok ([4700,5039,5040]:List Int) rv18.2) fun rv19 cv19 =>
.guard [(a1.Orders.length+1) * (2 * 40)≤2 ^ 48] <|
.reg 31 [7,9,12,15,17] [(7,hc cv17 [0] false),(9,hc cv18 [0] false),(11,hv (vl ([4700,5039,5040]:List Int))),(12,hc cv19 [0] false),(14,hv (AV.d (eL TOr.e ([(⟨(IntKind.i64.wrap ((a1.Orders.length:Int)+1)),rv17.1,rv18.1,rv19.1,false⟩:TOr)]:List TOr)))),(15,{ h:=.obj,cast:=some (AV.ref 7 ((a1.Orders++([(⟨(IntKind.i64.wrap ((a1.Orders.length:Int)+1)),rv17.1,rv18.1,rv19.1,false⟩:TOr)]:List TOr)).length) 0 ((a1.Orders++([(⟨(IntKind.i64.wrap ((a1.Orders.length:Int)+1)),rv17.1,rv18.1,rv19.1,false⟩:TOr)]:List TOr)).length)),obs:=[(7,(eS 5 TOr.e (a1.Orders++([(⟨(IntKind.i64.wrap ((a1.Orders.length:Int)+1)),rv17.1,rv18.1,rv19.1,false⟩:TOr)]:List TOr))))] })] [.cl 3 cv17 [0] 8 false,.cl 2 cv18 [0] 8 false,.pf (zd (DV.i .i64) ([4700,5039,5040]:List Int)),.pf (zd (DV.i .i64) ([4700,5039,5040]:List Int)),.pf (zd (DV.i .i64) ([4700,5039,5040]:List Int)),.cl 1 cv19 [0] 8 false,.pf (zd TOr.e ([(⟨(IntKind.i64.wrap ((a1.Orders.length:Int)+1)),rv17.1,rv18.1,rv19.1,false⟩:TOr)]:List TOr)),.pf (Eq.refl a1.Orders.length),.pf (Eq.refl a1.Orders.length),.pf (p:=∀ k,k<1→(AV.d (TOr.e (([(⟨(IntKind.i64.wrap ((a1.Orders.length:Int)+1)),rv17.1,rv18.1,rv19.1,false⟩:TOr)]:List TOr).getD k default))).wd=5) (fun _ _=>rfl),.ev 0,.pf (zy (o:=7) (l:=a1.Orders) (x:=([(⟨(IntKind.i64.wrap ((a1.Orders.length:Int)+1)),rv17.1,rv18.1,rv19.1,false⟩:TOr)]:List TOr))),.pf (zx (sz:=5) (e:=TOr.e) (l:=a1.Orders) (x:=([(⟨(IntKind.i64.wrap ((a1.Orders.length:Int)+1)),rv17.1,rv18.1,rv19.1,false⟩:TOr)]:List TOr)))] <|
.ret [] (.next (rv19.2,a1.Reservations,a1.Commitments,a1.Verifications,(a1.Orders++([(⟨(IntKind.i64.wrap ((a1.Orders.length:Int)+1)),rv17.1,rv18.1,rv19.1,false⟩:TOr)]:List TOr))))) (
.ite (rv2.1==10) (
.ite (decide ((a1.Orders.length:Int)>0)) (
.guard [0<a1.Orders.length,(0+0)<a1.Orders.length] <|
.reg 34 [] [(4,{ obs:=[(7,(eS 5 TOr.e (a1.Orders.set (0+0) (⟨(a1.Orders.getD (0+0) default).Number,(a1.Orders.getD (0+0) default).Verification,2,(a1.Orders.getD (0+0) default).Day,(a1.Orders.getD (0+0) default).Back⟩:TOr))))] })] [.pf (Eq.refl a1.Orders.length),.pf (p:=(0:Int)≤0) (by decide),.ev 0,.pf (Eq.refl a1.Orders.length),.pf (Eq.refl a1.Orders.length),.ev 1,.pf (z19 (sz:=5) (e:=TOr.e) (l:=a1.Orders) (i:=(0+0)) (x:=(⟨(a1.Orders.getD (0+0) default).Number,(a1.Orders.getD (0+0) default).Verification,2,(a1.Orders.getD (0+0) default).Day,(a1.Orders.getD (0+0) default).Back⟩:TOr)) (fun _=>rfl))] <|
.cst (A:=True) (.pf trivial) [(4,(vp 2)),(5,(vp 3))] [(4,(vp 2)),(5,(vp 3))] [(bx (TTape.e rv2.2)),(bx (TBo.e a1)),(bx (TBo.e (⟨[],[],[],[]⟩:TBo))),(Ob.box (AV.agg [(AV.ref 4 a1.Reservations.length 0 a1.Reservations.length),(AV.ref 5 a1.Commitments.length 0 a1.Commitments.length),(AV.ref 6 a1.Verifications.length 0 a1.Verifications.length),(AV.ref 7 a1.Orders.length 0 a1.Orders.length)])),(eS 6 TRe.e a1.Reservations),(eS 7 TCo.e a1.Commitments),(eS 4 TVe.e a1.Verifications),(eS 5 TOr.e (a1.Orders.set (0+0) (⟨(a1.Orders.getD (0+0) default).Number,(a1.Orders.getD (0+0) default).Verification,2,(a1.Orders.getD (0+0) default).Day,(a1.Orders.getD (0+0) default).Back⟩:TOr)))] [(bx (TTape.e rv2.2)),(bx (TBo.e a1)),(bx (TBo.e (⟨[],[],[],[]⟩:TBo))),(Ob.box (AV.agg [(AV.ref 4 a1.Reservations.length 0 a1.Reservations.length),(AV.ref 5 a1.Commitments.length 0 a1.Commitments.length),(AV.ref 6 a1.Verifications.length 0 a1.Verifications.length),(AV.ref 7 ((a1.Orders.set (0+0) (⟨(a1.Orders.getD (0+0) default).Number,(a1.Orders.getD (0+0) default).Verification,2,(a1.Orders.getD (0+0) default).Day,(a1.Orders.getD (0+0) default).Back⟩:TOr)).length) 0 ((a1.Orders.set (0+0) (⟨(a1.Orders.getD (0+0) default).Number,(a1.Orders.getD (0+0) default).Verification,2,(a1.Orders.getD (0+0) default).Day,(a1.Orders.getD (0+0) default).Back⟩:TOr)).length))])),(eS 6 TRe.e a1.Reservations),(eS 7 TCo.e a1.Commitments),(eS 4 TVe.e a1.Verifications),(eS 5 TOr.e (a1.Orders.set (0+0) (⟨(a1.Orders.getD (0+0) default).Number,(a1.Orders.getD (0+0) default).Verification,2,(a1.Orders.getD (0+0) default).Day,(a1.Orders.getD (0+0) default).Back⟩:TOr)))] (fun _=>⟨by simp only,by simp only[List.length_set]⟩) <|
.ret [] (.next (rv2.2,a1.Reservations,a1.Commitments,a1.Verifications,(a1.Orders.set (0+0) (⟨(a1.Orders.getD (0+0) default).Number,(a1.Orders.getD (0+0) default).Verification,2,(a1.Orders.getD (0+0) default).Day,(a1.Orders.getD (0+0) default).Back⟩:TOr))))) (
.ret [] (.next (rv2.2,a1.Reservations,a1.Commitments,a1.Verifications,a1.Orders)))) (
.ite (decide ((a1.Orders.length:Int)>0)) (
.call (@F_q0_ok (a1.Orders.length:Int) rv2.2) fun rv20 cv20 =>
.call (@F_q0_ok 2 rv20.2) fun rv21 cv21 =>
.guard [(0:Int)≤rv20.1,(rv20.1).toNat<a1.Orders.length,(0+(rv20.1).toNat)<a1.Orders.length] <|
.reg 5 [6,8,12] [(6,hc cv20 [0] false),(8,hc cv21 [0] false),(12,{ obs:=[(7,(eS 5 TOr.e (a1.Orders.set (0+(rv20.1).toNat) (⟨(a1.Orders.getD (0+(rv20.1).toNat) default).Number,(a1.Orders.getD (0+(rv20.1).toNat) default).Verification,(a1.Orders.getD (0+(rv20.1).toNat) default).Attempt,(a1.Orders.getD (0+(rv20.1).toNat) default).Day,(rv21.1==0)⟩:TOr))))] })] [.cl 4 cv20 [0] 8 false,.cl 3 cv21 [0] 8 false,.pf (Eq.refl a1.Orders.length),.ev 0,.ev 1,.pf (Eq.refl a1.Orders.length),.pf (Eq.refl a1.Orders.length),.ev 2,.pf (z19 (sz:=5) (e:=TOr.e) (l:=a1.Orders) (i:=(0+(rv20.1).toNat)) (x:=(⟨(a1.Orders.getD (0+(rv20.1).toNat) default).Number,(a1.Orders.getD (0+(rv20.1).toNat) default).Verification,(a1.Orders.getD (0+(rv20.1).toNat) default).Attempt,(a1.Orders.getD (0+(rv20.1).toNat) default).Day,(rv21.1==0)⟩:TOr)) (fun _=>rfl))] <|
.cst (A:=True) (.pf trivial) [(4,(vp 2)),(5,(vp 3))] [(4,(vp 2)),(5,(vp 3))] [(bx (TTape.e rv21.2)),(bx (TBo.e a1)),(bx (TBo.e (⟨[],[],[],[]⟩:TBo))),(Ob.box (AV.agg [(AV.ref 4 a1.Reservations.length 0 a1.Reservations.length),(AV.ref 5 a1.Commitments.length 0 a1.Commitments.length),(AV.ref 6 a1.Verifications.length 0 a1.Verifications.length),(AV.ref 7 a1.Orders.length 0 a1.Orders.length)])),(eS 6 TRe.e a1.Reservations),(eS 7 TCo.e a1.Commitments),(eS 4 TVe.e a1.Verifications),(eS 5 TOr.e (a1.Orders.set (0+(rv20.1).toNat) (⟨(a1.Orders.getD (0+(rv20.1).toNat) default).Number,(a1.Orders.getD (0+(rv20.1).toNat) default).Verification,(a1.Orders.getD (0+(rv20.1).toNat) default).Attempt,(a1.Orders.getD (0+(rv20.1).toNat) default).Day,(rv21.1==0)⟩:TOr)))] [(bx (TTape.e rv21.2)),(bx (TBo.e a1)),(bx (TBo.e (⟨[],[],[],[]⟩:TBo))),(Ob.box (AV.agg [(AV.ref 4 a1.Reservations.length 0 a1.Reservations.length),(AV.ref 5 a1.Commitments.length 0 a1.Commitments.length),(AV.ref 6 a1.Verifications.length 0 a1.Verifications.length),(AV.ref 7 ((a1.Orders.set (0+(rv20.1).toNat) (⟨(a1.Orders.getD (0+(rv20.1).toNat) default).Number,(a1.Orders.getD (0+(rv20.1).toNat) default).Verification,(a1.Orders.getD (0+(rv20.1).toNat) default).Attempt,(a1.Orders.getD (0+(rv20.1).toNat) default).Day,(rv21.1==0)⟩:TOr)).length) 0 ((a1.Orders.set (0+(rv20.1).toNat) (⟨(a1.Orders.getD (0+(rv20.1).toNat) default).Number,(a1.Orders.getD (0+(rv20.1).toNat) default).Verification,(a1.Orders.getD (0+(rv20.1).toNat) default).Attempt,(a1.Orders.getD (0+(rv20.1).toNat) default).Day,(rv21.1==0)⟩:TOr)).length))])),(eS 6 TRe.e a1.Reservations),(eS 7 TCo.e a1.Commitments),(eS 4 TVe.e a1.Verifications),(eS 5 TOr.e (a1.Orders.set (0+(rv20.1).toNat) (⟨(a1.Orders.getD (0+(rv20.1).toNat) default).Number,(a1.Orders.getD (0+(rv20.1).toNat) default).Verification,(a1.Orders.getD (0+(rv20.1).toNat) default).Attempt,(a1.Orders.getD (0+(rv20.1).toNat) default).Day,(rv21.1==0)⟩:TOr)))] (fun _=>⟨by simp only,by simp only[List.length_set]⟩) <|
.ret [] (.next (rv21.2,a1.Reservations,a1.Commitments,a1.Verifications,(a1.Orders.set (0+(rv20.1).toNat) (⟨(a1.Orders.getD (0+(rv20.1).toNat) default).Number,(a1.Orders.getD (0+(rv20.1).toNat) default).Verification,(a1.Orders.getD (0+(rv20.1).toNat) default).Attempt,(a1.Orders.getD (0+(rv20.1).toNat) default).Day,(rv21.1==0)⟩:TOr))))) (
.ret [] (.next (rv2.2,a1.Reservations,a1.Commitments,a1.Verifications,a1.Orders))))))))))))))) fun (sv3:TTape×(List TRe)×(List TCo)×(List TVe)×(List TOr)) =>
.reg 35 [] [] [] <|
.kill 1 <|
.kill 3 <|
.ret [] (sv3.1,sv3.2.1,sv3.2.2.1,sv3.2.2.2.1,sv3.2.2.2.2)
def F_q34 (a1:TBo) (p0:TTape):Option R_q34:=(S_q34 a1 p0).den
theorem F_q34_ok {a1:TBo} {p0:TTape} (r:R_q34) (h:F_q34 a1 p0=some r):CallOk Tryz.prog 70 [(vp 0),(AV.d (TBo.e a1))] [(bx (TTape.e p0))] (V_q34 r) (L_q34 r):=fOk (s:=S_q34 a1 p0) Tryz.func70 rfl (by kernel_rfl) h
end
end Go.Proofs.YtclaojamgomjbaaGreatDoor
/- What the functions compute,and that their calls return it. No condition. -/
namespace Go.Proofs.YtclaojamgomjbaaGreatDoor
open Go Go.TA
noncomputable section
set_option maxRecDepth 100000
theorem zpi:∀ k,k<1→(AV.d (TRi.e (([(([(⟨[49],0,0,0,0⟩:TRi)]:List TRi).getD (0+0) default)]:List TRi).getD k default))).wd=5:=fun _ _=>rfl
abbrev R_q2v:=TOf×TTape
def V_q2v (x:R_q2v):AV:=(AV.d (TOf.e x.1))
def L_q2v (x:R_q2v):List Ob:=[(bx (TTape.e x.2))]
def S_q2v (a1:TOf) (p0:TTape):Scr Tryz.prog R_q2v R_q2v :=
.reg 0 [] [(1,{ obs:=[(2,(bx (TOf.e (⟨0,[],(⟨[],[],[],[]⟩:TBo)⟩:TOf))))] })] [.pf cz1] <|
.guard [a1.Rights.length * (2 * 48)≤2 ^ 48] <|
.reg 1 [] [(3,{ h:=.obj })] [.pf (p:=∀ k,k<a1.Rights.length→(AV.d (TRi.e (a1.Rights.getD k default))).wd=5) (fun _ _=>rfl),.ev 0] <|
.ite (decide ((a1.Rights.length:Int)>0)) (
.call (@F_q0_ok (a1.Rights.length:Int) p0) fun rv1 cv1 =>
.reg 4 [] [(4,hc cv1 [0] false)] [.cl 0 cv1 [0] 4 false] <|
.call (@F_q0_ok 7 rv1.2) fun rv2 cv2 =>
.reg 6 [] [(1,hc cv2 [0] false)] [.cl 0 cv2 [0] 4 false] <|
.ite (rv2.1==0) (
.call (@F_q4_ok ([0,1,6,7]:List Int) rv2.2) fun rv3 cv3 =>
.reg 9 [] [(1,hv (vl ([0,1,6,7]:List Int))),(2,hc cv3 [0] false)] [.pf (zd (DV.i .i64) ([0,1,6,7]:List Int)),.cl 0 cv3 [0] 4 false] <|
.guard [a1.Rights.length<2 ^ 63] <|
.reg 20 [] [] [] <|
.frz 3 (.ev 0) none [] [1,2] <|
.ret [] ((⟨rv3.1,a1.Rights,a1.Book⟩:TOf),rv3.2)) (
.ite (rv2.1==1) (
.call (@F_q4_ok ([0,(-1),20,1000000000000001]:List Int) rv2.2) fun rv4 cv4 =>
.guard [(0:Int)≤rv1.1,(rv1.1).toNat<a1.Rights.length,(0+(rv1.1).toNat)<a1.Rights.length] <|
.reg 11 [5,8] [(4,hv (vl ([0,(-1),20,1000000000000001]:List Int))),(5,hc cv4 [0] false),(8,{ obs:=[(3,(eS 5 TRi.e (a1.Rights.set (0+(rv1.1).toNat) (⟨(a1.Rights.getD (0+(rv1.1).toNat) default).Code,(a1.Rights.getD (0+(rv1.1).toNat) default).Year,rv4.1,(a1.Rights.getD (0+(rv1.1).toNat) default).Asked,(a1.Rights.getD (0+(rv1.1).toNat) default).Returned⟩:TRi))))] })] [.pf (zd (DV.i .i64) ([0,(-1),20,1000000000000001]:List Int)),.cl 3 cv4 [0] 4 false,.pf (Eq.refl a1.Rights.length),.ev 0,.ev 1,.pf (Eq.refl a1.Rights.length),.pf (Eq.refl a1.Rights.length),.ev 2,.pf (z19 (sz:=5) (e:=TRi.e) (l:=a1.Rights) (i:=(0+(rv1.1).toNat)) (x:=(⟨(a1.Rights.getD (0+(rv1.1).toNat) default).Code,(a1.Rights.getD (0+(rv1.1).toNat) default).Year,rv4.1,(a1.Rights.getD (0+(rv1.1).toNat) default).Asked,(a1.Rights.getD (0+(rv1.1).toNat) default).Returned⟩:TRi)) (fun _=>rfl))] <|
.cst (A:=True) (.pf trivial) [(3,(vp 1)),(4,(vp 2))] [(3,(vp 1)),(4,(vp 2))] [(bx (TTape.e rv4.2)),(Ob.box (AV.agg [(vi a1.Number),(AV.ref 3 a1.Rights.length 0 a1.Rights.length),(AV.d (TBo.e a1.Book))])),(bx (TOf.e (⟨0,[],(⟨[],[],[],[]⟩:TBo)⟩:TOf))),(eS 5 TRi.e (a1.Rights.set (0+(rv1.1).toNat) (⟨(a1.Rights.getD (0+(rv1.1).toNat) default).Code,(a1.Rights.getD (0+(rv1.1).toNat) default).Year,rv4.1,(a1.Rights.getD (0+(rv1.1).toNat) default).Asked,(a1.Rights.getD (0+(rv1.1).toNat) default).Returned⟩:TRi)))] [(bx (TTape.e rv4.2)),(Ob.box (AV.agg [(vi a1.Number),(AV.ref 3 ((a1.Rights.set (0+(rv1.1).toNat) (⟨(a1.Rights.getD (0+(rv1.1).toNat) default).Code,(a1.Rights.getD (0+(rv1.1).toNat) default).Year,rv4.1,(a1.Rights.getD (0+(rv1.1).toNat) default).Asked,(a1.Rights.getD (0+(rv1.1).toNat) default).Returned⟩:TRi)).length) 0 ((a1.Rights.set (0+(rv1.1).toNat) (⟨(a1.Rights.getD (0+(rv1.1).toNat) default).Code,(a1.Rights.getD (0+(rv1.1).toNat) default).Year,rv4.1,(a1.Rights.getD (0+(rv1.1).toNat) default).Asked,(a1.Rights.getD (0+(rv1.1).toNat) default).Returned⟩:TRi)).length)),(AV.d (TBo.e a1.Book))])),(bx (TOf.e (⟨0,[],(⟨[],[],[],[]⟩:TBo)⟩:TOf))),(eS 5 TRi.e (a1.Rights.set (0+(rv1.1).toNat) (⟨(a1.Rights.getD (0+(rv1.1).toNat) default).Code,(a1.Rights.getD (0+(rv1.1).toNat) default).Year,rv4.1,(a1.Rights.getD (0+(rv1.1).toNat) default).Asked,(a1.Rights.getD (0+(rv1.1).toNat) default).Returned⟩:TRi)))] (fun _=>⟨by simp only,by simp only[List.length_set]⟩) <|
.guard [(a1.Rights.set (0+(rv1.1).toNat) (⟨(a1.Rights.getD (0+(rv1.1).toNat) default).Code,(a1.Rights.getD (0+(rv1.1).toNat) default).Year,rv4.1,(a1.Rights.getD (0+(rv1.1).toNat) default).Asked,(a1.Rights.getD (0+(rv1.1).toNat) default).Returned⟩:TRi)).length<2 ^ 63] <|
.reg 20 [] [] [] <|
.frz 3 (.ev 0) none [] [1,2] <|
.ret [] ((⟨a1.Number,(a1.Rights.set (0+(rv1.1).toNat) (⟨(a1.Rights.getD (0+(rv1.1).toNat) default).Code,(a1.Rights.getD (0+(rv1.1).toNat) default).Year,rv4.1,(a1.Rights.getD (0+(rv1.1).toNat) default).Asked,(a1.Rights.getD (0+(rv1.1).toNat) default).Returned⟩:TRi)),a1.Book⟩:TOf),rv4.2)) (
.ite (rv2.1==2) (
.call (@F_q4_ok ([(-1),500,(a1.Rights.getD (0+(rv1.1).toNat) default).Granted]:List Int) rv2.2) fun rv5 cv5 =>
.guard [(0:Int)≤rv1.1,(rv1.1).toNat<a1.Rights.length,(0+(rv1.1).toNat)<a1.Rights.length] <|
.reg 13 [11,14] [(10,hv (vl ([(-1),500,(a1.Rights.getD (0+(rv1.1).toNat) default).Granted]:List Int))),(11,hc cv5 [0] false),(14,{ obs:=[(3,(eS 5 TRi.e (a1.Rights.set (0+(rv1.1).toNat) (⟨(a1.Rights.getD (0+(rv1.1).toNat) default).Code,(a1.Rights.getD (0+(rv1.1).toNat) default).Year,(a1.Rights.getD (0+(rv1.1).toNat) default).Granted,(a1.Rights.getD (0+(rv1.1).toNat) default).Asked,rv5.1⟩:TRi))))] })] [.pf (Eq.refl a1.Rights.length),.ev 0,.ev 1,.pf (Eq.refl a1.Rights.length),.pf (Eq.refl a1.Rights.length),.ev 2,.pf (zd (DV.i .i64) ([(-1),500,(a1.Rights.getD (0+(rv1.1).toNat) default).Granted]:List Int)),.cl 3 cv5 [0] 4 false,.pf (Eq.refl a1.Rights.length),.ev 0,.ev 1,.pf (Eq.refl a1.Rights.length),.pf (Eq.refl a1.Rights.length),.ev 2,.pf (z19 (sz:=5) (e:=TRi.e) (l:=a1.Rights) (i:=(0+(rv1.1).toNat)) (x:=(⟨(a1.Rights.getD (0+(rv1.1).toNat) default).Code,(a1.Rights.getD (0+(rv1.1).toNat) default).Year,(a1.Rights.getD (0+(rv1.1).toNat) default).Granted,(a1.Rights.getD (0+(rv1.1).toNat) default).Asked,rv5.1⟩:TRi)) (fun _=>rfl))] <|
.cst (A:=True) (.pf trivial) [(3,(vp 1)),(4,(vp 2))] [(3,(vp 1)),(4,(vp 2))] [(bx (TTape.e rv5.2)),(Ob.box (AV.agg [(vi a1.Number),(AV.ref 3 a1.Rights.length 0 a1.Rights.length),(AV.d (TBo.e a1.Book))])),(bx (TOf.e (⟨0,[],(⟨[],[],[],[]⟩:TBo)⟩:TOf))),(eS 5 TRi.e (a1.Rights.set (0+(rv1.1).toNat) (⟨(a1.Rights.getD (0+(rv1.1).toNat) default).Code,(a1.Rights.getD (0+(rv1.1).toNat) default).Year,(a1.Rights.getD (0+(rv1.1).toNat) default).Granted,(a1.Rights.getD (0+(rv1.1).toNat) default).Asked,rv5.1⟩:TRi)))] [(bx (TTape.e rv5.2)),(Ob.box (AV.agg [(vi a1.Number),(AV.ref 3 ((a1.Rights.set (0+(rv1.1).toNat) (⟨(a1.Rights.getD (0+(rv1.1).toNat) default).Code,(a1.Rights.getD (0+(rv1.1).toNat) default).Year,(a1.Rights.getD (0+(rv1.1).toNat) default).Granted,(a1.Rights.getD (0+(rv1.1).toNat) default).Asked,rv5.1⟩:TRi)).length) 0 ((a1.Rights.set (0+(rv1.1).toNat) (⟨(a1.Rights.getD (0+(rv1.1).toNat) default).Code,(a1.Rights.getD (0+(rv1.1).toNat) default).Year,(a1.Rights.getD (0+(rv1.1).toNat) default).Granted,(a1.Rights.getD (0+(rv1.1).toNat) default).Asked,rv5.1⟩:TRi)).length)),(AV.d (TBo.e a1.Book))])),(bx (TOf.e (⟨0,[],(⟨[],[],[],[]⟩:TBo)⟩:TOf))),(eS 5 TRi.e (a1.Rights.set (0+(rv1.1).toNat) (⟨(a1.Rights.getD (0+(rv1.1).toNat) default).Code,(a1.Rights.getD (0+(rv1.1).toNat) default).Year,(a1.Rights.getD (0+(rv1.1).toNat) default).Granted,(a1.Rights.getD (0+(rv1.1).toNat) default).Asked,rv5.1⟩:TRi)))] (fun _=>⟨by simp only,by simp only[List.length_set]⟩) <|
.guard [(a1.Rights.set (0+(rv1.1).toNat) (⟨(a1.Rights.getD (0+(rv1.1).toNat) default).Code,(a1.Rights.getD (0+(rv1.1).toNat) default).Year,(a1.Rights.getD (0+(rv1.1).toNat) default).Granted,(a1.Rights.getD (0+(rv1.1).toNat) default).Asked,rv5.1⟩:TRi)).length<2 ^ 63] <|
.reg 20 [] [] [] <|
.frz 3 (.ev 0) none [] [1,2] <|
.ret [] ((⟨a1.Number,(a1.Rights.set (0+(rv1.1).toNat) (⟨(a1.Rights.getD (0+(rv1.1).toNat) default).Code,(a1.Rights.getD (0+(rv1.1).toNat) default).Year,(a1.Rights.getD (0+(rv1.1).toNat) default).Granted,(a1.Rights.getD (0+(rv1.1).toNat) default).Asked,rv5.1⟩:TRi)),a1.Book⟩:TOf),rv5.2)) (
.ite (rv2.1==3) (
.call (@F_q2u_ok rv2.2) fun rv6 cv6 =>
.guard [(0:Int)≤rv1.1,(rv1.1).toNat<a1.Rights.length,(0+(rv1.1).toNat)<a1.Rights.length] <|
.reg 15 [4,7] [(4,hc cv6 [0] false),(7,{ obs:=[(3,(eS 5 TRi.e (a1.Rights.set (0+(rv1.1).toNat) (⟨rv6.1,(a1.Rights.getD (0+(rv1.1).toNat) default).Year,(a1.Rights.getD (0+(rv1.1).toNat) default).Granted,(a1.Rights.getD (0+(rv1.1).toNat) default).Asked,(a1.Rights.getD (0+(rv1.1).toNat) default).Returned⟩:TRi))))] })] [.cl 3 cv6 [0] 4 false,.pf (Eq.refl a1.Rights.length),.ev 0,.ev 1,.pf (Eq.refl a1.Rights.length),.pf (Eq.refl a1.Rights.length),.ev 2,.pf (z19 (sz:=5) (e:=TRi.e) (l:=a1.Rights) (i:=(0+(rv1.1).toNat)) (x:=(⟨rv6.1,(a1.Rights.getD (0+(rv1.1).toNat) default).Year,(a1.Rights.getD (0+(rv1.1).toNat) default).Granted,(a1.Rights.getD (0+(rv1.1).toNat) default).Asked,(a1.Rights.getD (0+(rv1.1).toNat) default).Returned⟩:TRi)) (fun _=>rfl))] <|
.cst (A:=True) (.pf trivial) [(3,(vp 1)),(4,(vp 2))] [(3,(vp 1)),(4,(vp 2))] [(bx (TTape.e rv6.2)),(Ob.box (AV.agg [(vi a1.Number),(AV.ref 3 a1.Rights.length 0 a1.Rights.length),(AV.d (TBo.e a1.Book))])),(bx (TOf.e (⟨0,[],(⟨[],[],[],[]⟩:TBo)⟩:TOf))),(eS 5 TRi.e (a1.Rights.set (0+(rv1.1).toNat) (⟨rv6.1,(a1.Rights.getD (0+(rv1.1).toNat) default).Year,(a1.Rights.getD (0+(rv1.1).toNat) default).Granted,(a1.Rights.getD (0+(rv1.1).toNat) default).Asked,(a1.Rights.getD (0+(rv1.1).toNat) default).Returned⟩:TRi)))] [(bx (TTape.e rv6.2)),(Ob.box (AV.agg [(vi a1.Number),(AV.ref 3 ((a1.Rights.set (0+(rv1.1).toNat) (⟨rv6.1,(a1.Rights.getD (0+(rv1.1).toNat) default).Year,(a1.Rights.getD (0+(rv1.1).toNat) default).Granted,(a1.Rights.getD (0+(rv1.1).toNat) default).Asked,(a1.Rights.getD (0+(rv1.1).toNat) default).Returned⟩:TRi)).length) 0 ((a1.Rights.set (0+(rv1.1).toNat) (⟨rv6.1,(a1.Rights.getD (0+(rv1.1).toNat) default).Year,(a1.Rights.getD (0+(rv1.1).toNat) default).Granted,(a1.Rights.getD (0+(rv1.1).toNat) default).Asked,(a1.Rights.getD (0+(rv1.1).toNat) default).Returned⟩:TRi)).length)),(AV.d (TBo.e a1.Book))])),(bx (TOf.e (⟨0,[],(⟨[],[],[],[]⟩:TBo)⟩:TOf))),(eS 5 TRi.e (a1.Rights.set (0+(rv1.1).toNat) (⟨rv6.1,(a1.Rights.getD (0+(rv1.1).toNat) default).Year,(a1.Rights.getD (0+(rv1.1).toNat) default).Granted,(a1.Rights.getD (0+(rv1.1).toNat) default).Asked,(a1.Rights.getD (0+(rv1.1).toNat) default).Returned⟩:TRi)))] (fun _=>⟨by simp only,by simp only[List.length_set]⟩) <|
.guard [(a1.Rights.set (0+(rv1.1).toNat) (⟨rv6.1,(a1.Rights.getD (0+(rv1.1).toNat) default).Year,(a1.Rights.getD (0+(rv1.1).toNat) default).Granted,(a1.Rights.getD (0+(rv1.1).toNat) default).Asked,(a1.Rights.getD (0+(rv1.1).toNat) default).Returned⟩:TRi)).length<2 ^ 63] <|
.reg 20 [] [] [] <|
.frz 3 (.ev 0) none [] [1,2] <|
.ret [] ((⟨a1.Number,(a1.Rights.set (0+(rv1.1).toNat) (⟨rv6.1,(a1.Rights.getD (0+(rv1.1).toNat) default).Year,(a1.Rights.getD (0+(rv1.1).toNat) default).Granted,(a1.Rights.getD (0+(rv1.1).toNat) default).Asked,(a1.Rights.getD (0+(rv1.1).toNat) default).Returned⟩:TRi)),a1.Book⟩:TOf),rv6.2)) (
.ite (rv2.1==4) (
.guard [0<a1.Rights.length,(0+0)<a1.Rights.length,(a1.Rights.length+1) * (2 * 48)≤2 ^ 48] <|
.reg 17 [7,9] [(6,hv (AV.d (eL TRi.e ([(a1.Rights.getD (0+0) default)]:List TRi)))),(7,{ h:=.obj,cast:=some (AV.ref 3 ((a1.Rights++([(a1.Rights.getD (0+0) default)]:List TRi)).length) 0 ((a1.Rights++([(a1.Rights.getD (0+0) default)]:List TRi)).length)),obs:=[(3,(eS 5 TRi.e (a1.Rights++([(a1.Rights.getD (0+0) default)]:List TRi))))] })] [.pf (Eq.refl a1.Rights.length),.pf (p:=(0:Int)≤0) (by decide),.ev 0,.pf (Eq.refl a1.Rights.length),.ev 1,.pf (zd TRi.e ([(a1.Rights.getD (0+0) default)]:List TRi)),.pf (Eq.refl a1.Rights.length),.pf (Eq.refl a1.Rights.length),.pf (p:=∀ k,k<1→(AV.d (TRi.e (([(a1.Rights.getD (0+0) default)]:List TRi).getD k default))).wd=5) (fun _ _=>rfl),.ev 2,.pf (zy (o:=3) (l:=a1.Rights) (x:=([(a1.Rights.getD (0+0) default)]:List TRi))),.pf (zx (sz:=5) (e:=TRi.e) (l:=a1.Rights) (x:=([(a1.Rights.getD (0+0) default)]:List TRi)))] <|
.guard [(a1.Rights++([(a1.Rights.getD (0+0) default)]:List TRi)).length<2 ^ 63] <|
.reg 20 [] [] [] <|
.frz 3 (.ev 0) none [] [1,2] <|
.ret [] ((⟨a1.Number,(a1.Rights++([(a1.Rights.getD (0+0) default)]:List TRi)),a1.Book⟩:TOf),rv2.2)) (
.ite (rv2.1==5) (
.guard [a1.Rights.length<2 ^ 63] <|
.frz 3 (.ev 0) none [] [1] <|
.guard [1≤a1.Rights.length] <|
.reg 19 [] [(2,hv (AV.d (eL TRi.e (a1.Rights.drop 1))))] [.pf (p:=(0:Int)≤1) (by decide),.ev 0,.pf (lvD TRi.e a1.Rights 1)] <|
.ret [] ((⟨a1.Number,(a1.Rights.drop 1),a1.Book⟩:TOf),rv2.2)) (
.call (@F_q34_ok a1.Book rv2.2) fun rv7 cv7 =>
.reg 7 [] [(3,hc cv7 [0] false)] [.cl 0 cv7 [0] 4 false] <|
.kill 5 <|
.guard [rv7.2.1.length<2 ^ 63] <|
.frz 7 (.ev 0) none [] [1] <|
.guard [rv7.2.2.1.length<2 ^ 63] <|
.frz 8 (.ev 0) none [] [1] <|
.guard [rv7.2.2.2.1.length<2 ^ 63] <|
.frz 9 (.ev 0) none [] [1] <|
.guard [rv7.2.2.2.2.length<2 ^ 63] <|
.frz 10 (.ev 0) none [] [1] <|
.guard [a1.Rights.length<2 ^ 63] <|
.reg 20 [] [] [] <|
.frz 3 (.ev 0) none [] [1,2] <|
.ret [] ((⟨a1.Number,a1.Rights,(⟨rv7.2.1,rv7.2.2.1,rv7.2.2.2.1,rv7.2.2.2.2⟩:TBo)⟩:TOf),rv7.1)))))))) (
.reg 5 [] [(1,{ h:=.obj,obs:=[(4,(eS 5 TRi.e ([(⟨[49],0,0,0,0⟩:TRi)]:List TRi)))] })] [.pf (z54 (sz:=5) (e:=TRi.e) (l:=([(⟨[49],0,0,0,0⟩:TRi)]:List TRi)))] <|
.call (@F_q0_ok 7 p0) fun rv8 cv8 =>
.reg 6 [] [(1,hc cv8 [0] false)] [.cl 0 cv8 [0] 5 false] <|
.ite (rv8.1==0) (
.call (@F_q4_ok ([0,1,6,7]:List Int) rv8.2) fun rv9 cv9 =>
.reg 9 [] [(1,hv (vl ([0,1,6,7]:List Int))),(2,hc cv9 [0] false)] [.pf (zd (DV.i .i64) ([0,1,6,7]:List Int)),.cl 0 cv9 [0] 5 false] <|
.guard [([(⟨[49],0,0,0,0⟩:TRi)]:List TRi).length<2 ^ 63] <|
.reg 20 [] [] [] <|
.frz 4 (.ev 0) none [] [1,2] <|
.ret [] ((⟨rv9.1,([(⟨[49],0,0,0,0⟩:TRi)]:List TRi),a1.Book⟩:TOf),rv9.2)) (
.ite (rv8.1==1) (
.call (@F_q4_ok ([0,(-1),20,1000000000000001]:List Int) rv8.2) fun rv10 cv10 =>
.guard [0<([(⟨[49],0,0,0,0⟩:TRi)]:List TRi).length,(0+0)<([(⟨[49],0,0,0,0⟩:TRi)]:List TRi).length] <|
.reg 11 [5,8] [(4,hv (vl ([0,(-1),20,1000000000000001]:List Int))),(5,hc cv10 [0] false),(8,{ obs:=[(4,(eS 5 TRi.e (([(⟨[49],0,0,0,0⟩:TRi)]:List TRi).set (0+0) (⟨(([(⟨[49],0,0,0,0⟩:TRi)]:List TRi).getD (0+0) default).Code,(([(⟨[49],0,0,0,0⟩:TRi)]:List TRi).getD (0+0) default).Year,rv10.1,(([(⟨[49],0,0,0,0⟩:TRi)]:List TRi).getD (0+0) default).Asked,(([(⟨[49],0,0,0,0⟩:TRi)]:List TRi).getD (0+0) default).Returned⟩:TRi))))] })] [.pf (zd (DV.i .i64) ([0,(-1),20,1000000000000001]:List Int)),.cl 2 cv10 [0] 5 false,.pf (Eq.refl (([(⟨[49],0,0,0,0⟩:TRi)]:List TRi).length)),.pf (p:=(0:Int)≤0) (by decide),.ev 0,.pf (Eq.refl (([(⟨[49],0,0,0,0⟩:TRi)]:List TRi).length)),.pf (Eq.refl (([(⟨[49],0,0,0,0⟩:TRi)]:List TRi).length)),.ev 1,.pf (z19 (sz:=5) (e:=TRi.e) (l:=([(⟨[49],0,0,0,0⟩:TRi)]:List TRi)) (i:=(0+0)) (x:=(⟨(([(⟨[49],0,0,0,0⟩:TRi)]:List TRi).getD (0+0) default).Code,(([(⟨[49],0,0,0,0⟩:TRi)]:List TRi).getD (0+0) default).Year,rv10.1,(([(⟨[49],0,0,0,0⟩:TRi)]:List TRi).getD (0+0) default).Asked,(([(⟨[49],0,0,0,0⟩:TRi)]:List TRi).getD (0+0) default).Returned⟩:TRi)) (fun _=>rfl))] <|
.cst (A:=True) (.pf trivial) [(3,(vp 1)),(4,(vp 2))] [(3,(vp 1)),(4,(vp 2))] [(bx (TTape.e rv10.2)),(Ob.box (AV.agg [(vi a1.Number),(AV.ref 4 (([(⟨[49],0,0,0,0⟩:TRi)]:List TRi).length) 0 (([(⟨[49],0,0,0,0⟩:TRi)]:List TRi).length)),(AV.d (TBo.e a1.Book))])),(bx (TOf.e (⟨0,[],(⟨[],[],[],[]⟩:TBo)⟩:TOf))),(eS 5 TRi.e a1.Rights),(eS 5 TRi.e (([(⟨[49],0,0,0,0⟩:TRi)]:List TRi).set (0+0) (⟨(([(⟨[49],0,0,0,0⟩:TRi)]:List TRi).getD (0+0) default).Code,(([(⟨[49],0,0,0,0⟩:TRi)]:List TRi).getD (0+0) default).Year,rv10.1,(([(⟨[49],0,0,0,0⟩:TRi)]:List TRi).getD (0+0) default).Asked,(([(⟨[49],0,0,0,0⟩:TRi)]:List TRi).getD (0+0) default).Returned⟩:TRi)))] [(bx (TTape.e rv10.2)),(Ob.box (AV.agg [(vi a1.Number),(AV.ref 4 ((([(⟨[49],0,0,0,0⟩:TRi)]:List TRi).set (0+0) (⟨(([(⟨[49],0,0,0,0⟩:TRi)]:List TRi).getD (0+0) default).Code,(([(⟨[49],0,0,0,0⟩:TRi)]:List TRi).getD (0+0) default).Year,rv10.1,(([(⟨[49],0,0,0,0⟩:TRi)]:List TRi).getD (0+0) default).Asked,(([(⟨[49],0,0,0,0⟩:TRi)]:List TRi).getD (0+0) default).Returned⟩:TRi)).length) 0 ((([(⟨[49],0,0,0,0⟩:TRi)]:List TRi).set (0+0) (⟨(([(⟨[49],0,0,0,0⟩:TRi)]:List TRi).getD (0+0) default).Code,(([(⟨[49],0,0,0,0⟩:TRi)]:List TRi).getD (0+0) default).Year,rv10.1,(([(⟨[49],0,0,0,0⟩:TRi)]:List TRi).getD (0+0) default).Asked,(([(⟨[49],0,0,0,0⟩:TRi)]:List TRi).getD (0+0) default).Returned⟩:TRi)).length)),(AV.d (TBo.e a1.Book))])),(bx (TOf.e (⟨0,[],(⟨[],[],[],[]⟩:TBo)⟩:TOf))),(eS 5 TRi.e a1.Rights),(eS 5 TRi.e (([(⟨[49],0,0,0,0⟩:TRi)]:List TRi).set (0+0) (⟨(([(⟨[49],0,0,0,0⟩:TRi)]:List TRi).getD (0+0) default).Code,(([(⟨[49],0,0,0,0⟩:TRi)]:List TRi).getD (0+0) default).Year,rv10.1,(([(⟨[49],0,0,0,0⟩:TRi)]:List TRi).getD (0+0) default).Asked,(([(⟨[49],0,0,0,0⟩:TRi)]:List TRi).getD (0+0) default).Returned⟩:TRi)))] (fun _=>⟨by simp only,by simp only[List.length_set]⟩) <|
.guard [(([(⟨[49],0,0,0,0⟩:TRi)]:List TRi).set (0+0) (⟨(([(⟨[49],0,0,0,0⟩:TRi)]:List TRi).getD (0+0) default).Code,(([(⟨[49],0,0,0,0⟩:TRi)]:List TRi).getD (0+0) default).Year,rv10.1,(([(⟨[49],0,0,0,0⟩:TRi)]:List TRi).getD (0+0) default).Asked,(([(⟨[49],0,0,0,0⟩:TRi)]:List TRi).getD (0+0) default).Returned⟩:TRi)).length<2 ^ 63] <|
.reg 20 [] [] [] <|
.frz 4 (.ev 0) none [] [1,2] <|
.ret [] ((⟨a1.Number,(([(⟨[49],0,0,0,0⟩:TRi)]:List TRi).set (0+0) (⟨(([(⟨[49],0,0,0,0⟩:TRi)]:List TRi).getD (0+0) default).Code,(([(⟨[49],0,0,0,0⟩:TRi)]:List TRi).getD (0+0) default).Year,rv10.1,(([(⟨[49],0,0,0,0⟩:TRi)]:List TRi).getD (0+0) default).Asked,(([(⟨[49],0,0,0,0⟩:TRi)]:List TRi).getD (0+0) default).Returned⟩:TRi)),a1.Book⟩:TOf),rv10.2)) (
.ite (rv8.1==2) (
.call (@F_q4_ok ([(-1),500,(([(⟨[49],0,0,0,0⟩:TRi)]:List TRi).getD (0+0) default).Granted]:List Int) rv8.2) fun rv11 cv11 =>
.guard [0<([(⟨[49],0,0,0,0⟩:TRi)]:List TRi).length,(0+0)<([(⟨[49],0,0,0,0⟩:TRi)]:List TRi).length] <|
.reg 13 [11,14] [(10,hv (vl ([(-1),500,(([(⟨[49],0,0,0,0⟩:TRi)]:List TRi).getD (0+0) default).Granted]:List Int))),(11,hc cv11 [0] false),(14,{ obs:=[(4,(eS 5 TRi.e (([(⟨[49],0,0,0,0⟩:TRi)]:List TRi).set (0+0) (⟨(([(⟨[49],0,0,0,0⟩:TRi)]:List TRi).getD (0+0) default).Code,(([(⟨[49],0,0,0,0⟩:TRi)]:List TRi).getD (0+0) default).Year,(([(⟨[49],0,0,0,0⟩:TRi)]:List TRi).getD (0+0) default).Granted,(([(⟨[49],0,0,0,0⟩:TRi)]:List TRi).getD (0+0) default).Asked,rv11.1⟩:TRi))))] })] [.pf (Eq.refl (([(⟨[49],0,0,0,0⟩:TRi)]:List TRi).length)),.pf (p:=(0:Int)≤0) (by decide),.ev 0,.pf (Eq.refl (([(⟨[49],0,0,0,0⟩:TRi)]:List TRi).length)),.pf (Eq.refl (([(⟨[49],0,0,0,0⟩:TRi)]:List TRi).length)),.ev 1,.pf (zd (DV.i .i64) ([(-1),500,(([(⟨[49],0,0,0,0⟩:TRi)]:List TRi).getD (0+0) default).Granted]:List Int)),.cl 2 cv11 [0] 5 false,.pf (Eq.refl (([(⟨[49],0,0,0,0⟩:TRi)]:List TRi).length)),.pf (p:=(0:Int)≤0) (by decide),.ev 0,.pf (Eq.refl (([(⟨[49],0,0,0,0⟩:TRi)]:List TRi).length)),.pf (Eq.refl (([(⟨[49],0,0,0,0⟩:TRi)]:List TRi).length)),.ev 1,.pf (z19 (sz:=5) (e:=TRi.e) (l:=([(⟨[49],0,0,0,0⟩:TRi)]:List TRi)) (i:=(0+0)) (x:=(⟨(([(⟨[49],0,0,0,0⟩:TRi)]:List TRi).getD (0+0) default).Code,(([(⟨[49],0,0,0,0⟩:TRi)]:List TRi).getD (0+0) default).Year,(([(⟨[49],0,0,0,0⟩:TRi)]:List TRi).getD (0+0) default).Granted,(([(⟨[49],0,0,0,0⟩:TRi)]:List TRi).getD (0+0) default).Asked,rv11.1⟩:TRi)) (fun _=>rfl))] <|
.cst (A:=True) (.pf trivial) [(3,(vp 1)),(4,(vp 2))] [(3,(vp 1)),(4,(vp 2))] [(bx (TTape.e rv11.2)),(Ob.box (AV.agg [(vi a1.Number),(AV.ref 4 (([(⟨[49],0,0,0,0⟩:TRi)]:List TRi).length) 0 (([(⟨[49],0,0,0,0⟩:TRi)]:List TRi).length)),(AV.d (TBo.e a1.Book))])),(bx (TOf.e (⟨0,[],(⟨[],[],[],[]⟩:TBo)⟩:TOf))),(eS 5 TRi.e a1.Rights),(eS 5 TRi.e (([(⟨[49],0,0,0,0⟩:TRi)]:List TRi).set (0+0) (⟨(([(⟨[49],0,0,0,0⟩:TRi)]:List TRi).getD (0+0) default).Code,(([(⟨[49],0,0,0,0⟩:TRi)]:List TRi).getD (0+0) default).Year,(([(⟨[49],0,0,0,0⟩:TRi)]:List TRi).getD (0+0) default).Granted,(([(⟨[49],0,0,0,0⟩:TRi)]:List TRi).getD (0+0) default).Asked,rv11.1⟩:TRi)))] [(bx (TTape.e rv11.2)),(Ob.box (AV.agg [(vi a1.Number),(AV.ref 4 ((([(⟨[49],0,0,0,0⟩:TRi)]:List TRi).set (0+0) (⟨(([(⟨[49],0,0,0,0⟩:TRi)]:List TRi).getD (0+0) default).Code,(([(⟨[49],0,0,0,0⟩:TRi)]:List TRi).getD (0+0) default).Year,(([(⟨[49],0,0,0,0⟩:TRi)]:List TRi).getD (0+0) default).Granted,(([(⟨[49],0,0,0,0⟩:TRi)]:List TRi).getD (0+0) default).Asked,rv11.1⟩:TRi)).length) 0 ((([(⟨[49],0,0,0,0⟩:TRi)]:List TRi).set (0+0) (⟨(([(⟨[49],0,0,0,0⟩:TRi)]:List TRi).getD (0+0) default).Code,(([(⟨[49],0,0,0,0⟩:TRi)]:List TRi).getD (0+0) default).Year,(([(⟨[49],0,0,0,0⟩:TRi)]:List TRi).getD (0+0) default).Granted,(([(⟨[49],0,0,0,0⟩:TRi)]:List TRi).getD (0+0) default).Asked,rv11.1⟩:TRi)).length)),(AV.d (TBo.e a1.Book))])),(bx (TOf.e (⟨0,[],(⟨[],[],[],[]⟩:TBo)⟩:TOf))),(eS 5 TRi.e a1.Rights),(eS 5 TRi.e (([(⟨[49],0,0,0,0⟩:TRi)]:List TRi).set (0+0) (⟨(([(⟨[49],0,0,0,0⟩:TRi)]:List TRi).getD (0+0) default).Code,(([(⟨[49],0,0,0,0⟩:TRi)]:List TRi).getD (0+0) default).Year,(([(⟨[49],0,0,0,0⟩:TRi)]:List TRi).getD (0+0) default).Granted,(([(⟨[49],0,0,0,0⟩:TRi)]:List TRi).getD (0+0) default).Asked,rv11.1⟩:TRi)))] (fun _=>⟨by simp only,by simp only[List.length_set]⟩) <|
.guard [(([(⟨[49],0,0,0,0⟩:TRi)]:List TRi).set (0+0) (⟨(([(⟨[49],0,0,0,0⟩:TRi)]:List TRi).getD (0+0) default).Code,(([(⟨[49],0,0,0,0⟩:TRi)]:List TRi).getD (0+0) default).Year,(([(⟨[49],0,0,0,0⟩:TRi)]:List TRi).getD (0+0) default).Granted,(([(⟨[49],0,0,0,0⟩:TRi)]:List TRi).getD (0+0) default).Asked,rv11.1⟩:TRi)).length<2 ^ 63] <|
.reg 20 [] [] [] <|
.frz 4 (.ev 0) none [] [1,2] <|
.ret [] ((⟨a1.Number,(([(⟨[49],0,0,0,0⟩:TRi)]:List TRi).set (0+0) (⟨(([(⟨[49],0,0,0,0⟩:TRi)]:List TRi).getD (0+0) default).Code,(([(⟨[49],0,0,0,0⟩:TRi)]:List TRi).getD (0+0) default).Year,(([(⟨[49],0,0,0,0⟩:TRi)]:List TRi).getD (0+0) default).Granted,(([(⟨[49],0,0,0,0⟩:TRi)]:List TRi).getD (0+0) default).Asked,rv11.1⟩:TRi)),a1.Book⟩:TOf),rv11.2)) (
.ite (rv8.1==3) (
.call (@F_q2u_ok rv8.2) fun rv12 cv12 =>
.guard [0<([(⟨[49],0,0,0,0⟩:TRi)]:List TRi).length,(0+0)<([(⟨[49],0,0,0,0⟩:TRi)]:List TRi).length] <|
.reg 15 [4,7] [(4,hc cv12 [0] false),(7,{ obs:=[(4,(eS 5 TRi.e (([(⟨[49],0,0,0,0⟩:TRi)]:List TRi).set (0+0) (⟨rv12.1,(([(⟨[49],0,0,0,0⟩:TRi)]:List TRi).getD (0+0) default).Year,(([(⟨[49],0,0,0,0⟩:TRi)]:List TRi).getD (0+0) default).Granted,(([(⟨[49],0,0,0,0⟩:TRi)]:List TRi).getD (0+0) default).Asked,(([(⟨[49],0,0,0,0⟩:TRi)]:List TRi).getD (0+0) default).Returned⟩:TRi))))] })] [.cl 2 cv12 [0] 5 false,.pf (Eq.refl (([(⟨[49],0,0,0,0⟩:TRi)]:List TRi).length)),.pf (p:=(0:Int)≤0) (by decide),.ev 0,.pf (Eq.refl (([(⟨[49],0,0,0,0⟩:TRi)]:List TRi).length)),.pf (Eq.refl (([(⟨[49],0,0,0,0⟩:TRi)]:List TRi).length)),.ev 1,.pf (z19 (sz:=5) (e:=TRi.e) (l:=([(⟨[49],0,0,0,0⟩:TRi)]:List TRi)) (i:=(0+0)) (x:=(⟨rv12.1,(([(⟨[49],0,0,0,0⟩:TRi)]:List TRi).getD (0+0) default).Year,(([(⟨[49],0,0,0,0⟩:TRi)]:List TRi).getD (0+0) default).Granted,(([(⟨[49],0,0,0,0⟩:TRi)]:List TRi).getD (0+0) default).Asked,(([(⟨[49],0,0,0,0⟩:TRi)]:List TRi).getD (0+0) default).Returned⟩:TRi)) (fun _=>rfl))] <|
.cst (A:=True) (.pf trivial) [(3,(vp 1)),(4,(vp 2))] [(3,(vp 1)),(4,(vp 2))] [(bx (TTape.e rv12.2)),(Ob.box (AV.agg [(vi a1.Number),(AV.ref 4 (([(⟨[49],0,0,0,0⟩:TRi)]:List TRi).length) 0 (([(⟨[49],0,0,0,0⟩:TRi)]:List TRi).length)),(AV.d (TBo.e a1.Book))])),(bx (TOf.e (⟨0,[],(⟨[],[],[],[]⟩:TBo)⟩:TOf))),(eS 5 TRi.e a1.Rights),(eS 5 TRi.e (([(⟨[49],0,0,0,0⟩:TRi)]:List TRi).set (0+0) (⟨rv12.1,(([(⟨[49],0,0,0,0⟩:TRi)]:List TRi).getD (0+0) default).Year,(([(⟨[49],0,0,0,0⟩:TRi)]:List TRi).getD (0+0) default).Granted,(([(⟨[49],0,0,0,0⟩:TRi)]:List TRi).getD (0+0) default).Asked,(([(⟨[49],0,0,0,0⟩:TRi)]:List TRi).getD (0+0) default).Returned⟩:TRi)))] [(bx (TTape.e rv12.2)),(Ob.box (AV.agg [(vi a1.Number),(AV.ref 4 ((([(⟨[49],0,0,0,0⟩:TRi)]:List TRi).set (0+0) (⟨rv12.1,(([(⟨[49],0,0,0,0⟩:TRi)]:List TRi).getD (0+0) default).Year,(([(⟨[49],0,0,0,0⟩:TRi)]:List TRi).getD (0+0) default).Granted,(([(⟨[49],0,0,0,0⟩:TRi)]:List TRi).getD (0+0) default).Asked,(([(⟨[49],0,0,0,0⟩:TRi)]:List TRi).getD (0+0) default).Returned⟩:TRi)).length) 0 ((([(⟨[49],0,0,0,0⟩:TRi)]:List TRi).set (0+0) (⟨rv12.1,(([(⟨[49],0,0,0,0⟩:TRi)]:List TRi).getD (0+0) default).Year,(([(⟨[49],0,0,0,0⟩:TRi)]:List TRi).getD (0+0) default).Granted,(([(⟨[49],0,0,0,0⟩:TRi)]:List TRi).getD (0+0) default).Asked,(([(⟨[49],0,0,0,0⟩:TRi)]:List TRi).getD (0+0) default).Returned⟩:TRi)).length)),(AV.d (TBo.e a1.Book))])),(bx (TOf.e (⟨0,[],(⟨[],[],[],[]⟩:TBo)⟩:TOf))),(eS 5 TRi.e a1.Rights),(eS 5 TRi.e (([(⟨[49],0,0,0,0⟩:TRi)]:List TRi).set (0+0) (⟨rv12.1,(([(⟨[49],0,0,0,0⟩:TRi)]:List TRi).getD (0+0) default).Year,(([(⟨[49],0,0,0,0⟩:TRi)]:List TRi).getD (0+0) default).Granted,(([(⟨[49],0,0,0,0⟩:TRi)]:List TRi).getD (0+0) default).Asked,(([(⟨[49],0,0,0,0⟩:TRi)]:List TRi).getD (0+0) default).Returned⟩:TRi)))] (fun _=>⟨by simp only,by simp only[List.length_set]⟩) <|
.guard [(([(⟨[49],0,0,0,0⟩:TRi)]:List TRi).set (0+0) (⟨rv12.1,(([(⟨[49],0,0,0,0⟩:TRi)]:List TRi).getD (0+0) default).Year,(([(⟨[49],0,0,0,0⟩:TRi)]:List TRi).getD (0+0) default).Granted,(([(⟨[49],0,0,0,0⟩:TRi)]:List TRi).getD (0+0) default).Asked,(([(⟨[49],0,0,0,0⟩:TRi)]:List TRi).getD (0+0) default).Returned⟩:TRi)).length<2 ^ 63] <|
.reg 20 [] [] [] <|
.frz 4 (.ev 0) none [] [1,2] <|
.ret [] ((⟨a1.Number,(([(⟨[49],0,0,0,0⟩:TRi)]:List TRi).set (0+0) (⟨rv12.1,(([(⟨[49],0,0,0,0⟩:TRi)]:List TRi).getD (0+0) default).Year,(([(⟨[49],0,0,0,0⟩:TRi)]:List TRi).getD (0+0) default).Granted,(([(⟨[49],0,0,0,0⟩:TRi)]:List TRi).getD (0+0) default).Asked,(([(⟨[49],0,0,0,0⟩:TRi)]:List TRi).getD (0+0) default).Returned⟩:TRi)),a1.Book⟩:TOf),rv12.2)) (
.ite (rv8.1==4) (
.guard [0<([(⟨[49],0,0,0,0⟩:TRi)]:List TRi).length,(0+0)<([(⟨[49],0,0,0,0⟩:TRi)]:List TRi).length,(([(⟨[49],0,0,0,0⟩:TRi)]:List TRi).length+1) * (2 * 48)≤2 ^ 48] <|
.reg 17 [7,9] [(6,hv (AV.d (eL TRi.e ([(([(⟨[49],0,0,0,0⟩:TRi)]:List TRi).getD (0+0) default)]:List TRi)))),(7,{ h:=.obj,cast:=some (AV.ref 4 ((([(⟨[49],0,0,0,0⟩:TRi)]:List TRi)++([(([(⟨[49],0,0,0,0⟩:TRi)]:List TRi).getD (0+0) default)]:List TRi)).length) 0 ((([(⟨[49],0,0,0,0⟩:TRi)]:List TRi)++([(([(⟨[49],0,0,0,0⟩:TRi)]:List TRi).getD (0+0) default)]:List TRi)).length)),obs:=[(4,(eS 5 TRi.e (([(⟨[49],0,0,0,0⟩:TRi)]:List TRi)++([(([(⟨[49],0,0,0,0⟩:TRi)]:List TRi).getD (0+0) default)]:List TRi))))] })] [.pf (Eq.refl (([(⟨[49],0,0,0,0⟩:TRi)]:List TRi).length)),.pf (p:=(0:Int)≤0) (by decide),.ev 0,.pf (Eq.refl (([(⟨[49],0,0,0,0⟩:TRi)]:List TRi).length)),.ev 1,.pf (zd TRi.e ([(([(⟨[49],0,0,0,0⟩:TRi)]:List TRi).getD (0+0) default)]:List TRi)),.pf (Eq.refl (([(⟨[49],0,0,0,0⟩:TRi)]:List TRi).length)),.pf (Eq.refl (([(⟨[49],0,0,0,0⟩:TRi)]:List TRi).length)),.pf zpi,.ev 2,.pf (zy (o:=4) (l:=([(⟨[49],0,0,0,0⟩:TRi)]:List TRi)) (x:=([(([(⟨[49],0,0,0,0⟩:TRi)]:List TRi).getD (0+0) default)]:List TRi))),.pf (zx (sz:=5) (e:=TRi.e) (l:=([(⟨[49],0,0,0,0⟩:TRi)]:List TRi)) (x:=([(([(⟨[49],0,0,0,0⟩:TRi)]:List TRi).getD (0+0) default)]:List TRi)))] <|
.guard [(([(⟨[49],0,0,0,0⟩:TRi)]:List TRi)++([(([(⟨[49],0,0,0,0⟩:TRi)]:List TRi).getD (0+0) default)]:List TRi)).length<2 ^ 63] <|
.reg 20 [] [] [] <|
.frz 4 (.ev 0) none [] [1,2] <|
.ret [] ((⟨a1.Number,(([(⟨[49],0,0,0,0⟩:TRi)]:List TRi)++([(([(⟨[49],0,0,0,0⟩:TRi)]:List TRi).getD (0+0) default)]:List TRi)),a1.Book⟩:TOf),rv8.2)) (
.ite (rv8.1==5) (
.guard [a1.Rights.length<2 ^ 63] <|
.frz 3 (.ev 0) none [] [] <|
.guard [([(⟨[49],0,0,0,0⟩:TRi)]:List TRi).length<2 ^ 63] <|
.frz 4 (.ev 0) none [] [1] <|
.guard [1≤([(⟨[49],0,0,0,0⟩:TRi)]:List TRi).length] <|
.reg 19 [] [(2,hv (AV.d (eL TRi.e (([(⟨[49],0,0,0,0⟩:TRi)]:List TRi).drop 1))))] [.pf (p:=(0:Int)≤1) (by decide),.ev 0,.pf (lvD TRi.e ([(⟨[49],0,0,0,0⟩:TRi)]:List TRi) 1)] <|
.ret [] ((⟨a1.Number,(([(⟨[49],0,0,0,0⟩:TRi)]:List TRi).drop 1),a1.Book⟩:TOf),rv8.2)) (
.call (@F_q34_ok a1.Book rv8.2) fun rv13 cv13 =>
.reg 7 [] [(3,hc cv13 [0] false)] [.cl 0 cv13 [0] 5 false] <|
.kill 6 <|
.guard [rv13.2.1.length<2 ^ 63] <|
.frz 8 (.ev 0) none [] [1] <|
.guard [rv13.2.2.1.length<2 ^ 63] <|
.frz 9 (.ev 0) none [] [1] <|
.guard [rv13.2.2.2.1.length<2 ^ 63] <|
.frz 10 (.ev 0) none [] [1] <|
.guard [rv13.2.2.2.2.length<2 ^ 63] <|
.frz 11 (.ev 0) none [] [1] <|
.guard [([(⟨[49],0,0,0,0⟩:TRi)]:List TRi).length<2 ^ 63] <|
.reg 20 [] [] [] <|
.frz 4 (.ev 0) none [] [1,2] <|
.ret [] ((⟨a1.Number,([(⟨[49],0,0,0,0⟩:TRi)]:List TRi),(⟨rv13.2.1,rv13.2.2.1,rv13.2.2.2.1,rv13.2.2.2.2⟩:TBo)⟩:TOf),rv13.1))))))))
def F_q2v (a1:TOf) (p0:TTape):Option R_q2v:=(S_q2v a1 p0).den
theorem F_q2v_ok {a1:TOf} {p0:TTape} (r:R_q2v) (h:F_q2v a1 p0=some r):CallOk Tryz.prog 25 [(vp 0),(AV.d (TOf.e a1))] [(bx (TTape.e p0))] (V_q2v r) (L_q2v r):=fOk (s:=S_q2v a1 p0) Tryz.func25 rfl (by kernel_rfl) h
abbrev R_q11:=Bool
def V_q11 (x:R_q11):AV:=(vb x)
def L_q11 (_:R_q11):List Ob:=[]
def S_q11_b1 (a0:(List TCh)) (a1:(List TCh)) (iv1:Nat) (_:Unit):Scr Tryz.prog R_q11 (Step (Unit) R_q11) :=
.guard [iv1<a1.length] <|
.reg 6 [] [] [.pf (nn iv1),.ev 1,.pf (nn iv1),.ev 0] <|
.ite (!((((a0.getD iv1 default).Kind)==((a1.getD iv1 default).Kind))&&((((a0.getD iv1 default).Errs)==((a1.getD iv1 default).Errs))&&true))) (
.ret [] (.ret false)) (
.ret [] (.cont ()))
def S_q11 (a0:(List TCh)) (a1:(List TCh)):Scr Tryz.prog R_q11 R_q11 :=
.ite ((a0.length:Int) != (a1.length:Int)) (
.ret [] false) (
.range (a0.length:Int) a0.length rfl (.slot 0) 13 [0,1,12] (fun (_:Unit)=>[]) (fun (_:Unit)=>[]) () (S_q11_b1 a0 a1) (fun (_:Unit) => 
.ret [] true) id)
def F_q11 (a0:(List TCh)) (a1:(List TCh)):Option R_q11:=(S_q11 a0 a1).den
theorem F_q11_ok {a0:(List TCh)} {a1:(List TCh)} (r:R_q11) (h:F_q11 a0 a1=some r):CallOk Tryz.prog 26 [(AV.d (eL TCh.e a0)),(AV.d (eL TCh.e a1))] [] (V_q11 r) (L_q11 r):=fOk (s:=S_q11 a0 a1) Tryz.func26 rfl (by kernel_rfl) h
abbrev R_q4h:=(List TWa)×Int
def V_q4h (x:R_q4h):AV:=(AV.tup [(AV.d (eL TWa.e x.1)),(vi x.2)])
def L_q4h (_:R_q4h):List Ob:=[]
def S_q4h (a0:(List Int)) (a1:TWa) (a2:TOf) (a3:(List TWa)) (a4:TPo) (a5:Int):Scr Tryz.prog R_q4h R_q4h :=
.call (@F_q8_ok a0 a1 a2 a3 a4 a5) fun rv1 cv1 =>
.call (@F_q19_ok rv1) fun rv2 cv2 =>
.reg 1 [] [(6,hc cv1 [] true),(7,hc cv2 [] true)] [.cl 1 cv1 [] 3 true,.cl 0 cv2 [] 3 true] <|
.ite (rv2 != 0) (
.ret [.pf (p:=LeV (AV.tup [(AV.full 0 fun _=>DV.b false),(vi rv2)]) (AV.tup [(AV.d (eL TWa.e ([]))),(vi rv2)])) (LeV.tup (LeVs.cons (lvN TWa.e) (LeVs.cons (LeV.refl _) LeVs.nil)))] ([],rv2)) (
.call (@F_q2_ok a3 a1) fun rv3 cv3 =>
.reg 4 [] [(2,hc cv3 [] true)] [.cl 0 cv3 [] 3 true] <|
.ret [] (rv3.1,rv3.2))
def F_q4h (a0:(List Int)) (a1:TWa) (a2:TOf) (a3:(List TWa)) (a4:TPo) (a5:Int):Option R_q4h:=(S_q4h a0 a1 a2 a3 a4 a5).den
theorem F_q4h_ok {a0:(List Int)} {a1:TWa} {a2:TOf} {a3:(List TWa)} {a4:TPo} {a5:Int} (r:R_q4h) (h:F_q4h a0 a1 a2 a3 a4 a5=some r):CallOk Tryz.prog 28 [(AV.d (eL (DV.i .u64) a0)),(AV.d (TWa.e a1)),(AV.d (TOf.e a2)),(AV.d (eL TWa.e a3)),(AV.d (TPo.e a4)),(vi a5)] [] (V_q4h r) (L_q4h r):=fOk (s:=S_q4h a0 a1 a2 a3 a4 a5) Tryz.func28 rfl (by kernel_rfl) h
abbrev R_q12:=Bool
def V_q12 (x:R_q12):AV:=(vb x)
def L_q12 (_:R_q12):List Ob:=[]
def S_q12_b1 (a0:(List TWa)) (a1:(List TWa)) (iv1:Nat) (_:Unit):Scr Tryz.prog R_q12 (Step (Unit) R_q12) :=
.guard [iv1<a1.length] <|
.reg 6 [] [] [.pf (nn iv1),.ev 1,.pf (nn iv1),.ev 0] <|
.ite (!((((a0.getD iv1 default).Number)==((a1.getD iv1 default).Number))&&((((a0.getD iv1 default).Office)==((a1.getD iv1 default).Office))&&((((a0.getD iv1 default).Code)==((a1.getD iv1 default).Code))&&((((a0.getD iv1 default).Year)==((a1.getD iv1 default).Year))&&((((a0.getD iv1 default).Verification)==((a1.getD iv1 default).Verification))&&((((a0.getD iv1 default).Attempt)==((a1.getD iv1 default).Attempt))&&((((a0.getD iv1 default).Commitment)==((a1.getD iv1 default).Commitment))&&((((a0.getD iv1 default).Reservation)==((a1.getD iv1 default).Reservation))&&((((a0.getD iv1 default).Amount)==((a1.getD iv1 default).Amount))&&((((a0.getD iv1 default).Payee)==((a1.getD iv1 default).Payee))&&((((a0.getD iv1 default).Day)==((a1.getD iv1 default).Day))&&((((a0.getD iv1 default).Due)==((a1.getD iv1 default).Due))&&((((a0.getD iv1 default).First)==((a1.getD iv1 default).First))&&((((a0.getD iv1 default).Second)==((a1.getD iv1 default).Second))&&true))))))))))))))) (
.ret [] (.ret false)) (
.ret [] (.cont ()))
def S_q12 (a0:(List TWa)) (a1:(List TWa)):Scr Tryz.prog R_q12 R_q12 :=
.ite ((a0.length:Int) != (a1.length:Int)) (
.ret [] false) (
.range (a0.length:Int) a0.length rfl (.slot 0) 13 [0,1,12] (fun (_:Unit)=>[]) (fun (_:Unit)=>[]) () (S_q12_b1 a0 a1) (fun (_:Unit) => 
.ret [] true) id)
def F_q12 (a0:(List TWa)) (a1:(List TWa)):Option R_q12:=(S_q12 a0 a1).den
theorem F_q12_ok {a0:(List TWa)} {a1:(List TWa)} (r:R_q12) (h:F_q12 a0 a1=some r):CallOk Tryz.prog 29 [(AV.d (eL TWa.e a0)),(AV.d (eL TWa.e a1))] [] (V_q12 r) (L_q12 r):=fOk (s:=S_q12 a0 a1) Tryz.func29 rfl (by kernel_rfl) h
abbrev R_q4x:=Bool
def V_q4x (x:R_q4x):AV:=(vb x)
def L_q4x (p0:Int) (_:R_q4x):List Ob:=[(Ob.box (vi p0))]
def S_q4x (a0:TWa) (p0:Int):Scr Tryz.prog R_q4x R_q4x :=
.ret [] (a0.Number==p0)
def F_q4x (a0:TWa) (p0:Int):Option R_q4x:=(S_q4x a0 p0).den
theorem F_q4x_ok {a0:TWa} {p0:Int} (r:R_q4x) (h:F_q4x a0 p0=some r):CallOk Tryz.prog 73 [(AV.d (TWa.e a0)),(vp 0)] [(Ob.box (vi p0))] (V_q4x r) (L_q4x p0 r):=fOk (s:=S_q4x a0 p0) Tryz.func73 rfl (by kernel_rfl) h
abbrev R_q25:=Int
def V_q25 (x:R_q25):AV:=(vi x)
def L_q25 (p0:Int) (_:R_q25):List Ob:=[(Ob.box (vi p0))]
def S_q25_b1 (a0:(List TWa)) (p0:Int) (iv1:Nat) (_:Unit):Scr Tryz.prog R_q25 (Step (Unit) R_q25) :=
.call (@F_q4x_ok (a0.getD iv1 default) p0) fun rv2 cv2 =>
.reg 4 [] [(5,hc cv2 [0] true)] [.pf (nn iv1),.ev 1,.cl 0 cv2 [0] 1 true] <|
.ite rv2 (
.ret [] (.ret (iv1:Int))) (
.ret [] (.cont ()))
def S_q25 (a0:(List TWa)) (p0:Int):Scr Tryz.prog R_q25 R_q25 :=
.range (a0.length:Int) a0.length rfl (.slot 0) 8 [0,1,7] (fun (_:Unit)=>[]) (fun (_:Unit)=>[]) () (S_q25_b1 a0 p0) (fun (_:Unit) => 
.ret [] (-1)) id
def F_q25 (a0:(List TWa)) (p0:Int):Option R_q25:=(S_q25 a0 p0).den
theorem F_q25_ok {a0:(List TWa)} {p0:Int} (r:R_q25) (h:F_q25 a0 p0=some r):CallOk Tryz.prog 72 [(AV.d (eL TWa.e a0)),(AV.fn 73 [(vp 0)])] [(Ob.box (vi p0))] (V_q25 r) (L_q25 p0 r):=fOk (s:=S_q25 a0 p0) Tryz.func72 rfl (by kernel_rfl) h
abbrev R_q4i:=(List TWa)
def V_q4i (x:R_q4i):AV:=(AV.d (eL TWa.e x))
def L_q4i (_:R_q4i):List Ob:=[Ob.dead]
def S_q4i (a1:Int) (a2:Int) (p0:(List TWa)):Scr Tryz.prog R_q4i R_q4i :=
.guard [(0:Int)≤a1,(0:Int)≤a2,(a1).toNat≤(a2).toNat,(a2).toNat≤p0.length] <|
.reg 1 [] [] [.ev 0,.ev 1,.ev 2,.ev 3,.pf (Eq.refl p0.length),.pf (nn p0.length),.ev 3,.pf (p:=p0.length≤p0.length) (Nat.le_refl _)] <|
.ite (a1==a2) (
.guard [p0.length<2 ^ 63] <|
.reg 3 [] [] [] <|
.frz 0 (.ev 0) none [6] [] <|
.ret [] p0) (
.guard [(a1).toNat≤p0.length,((a1).toNat-0)+(p0.length-(a2).toNat)≤p0.length] <|
.reg 5 [6] [(6,{ h:=.imm,obs:=[(0,(eS 14 TWa.e (copyL p0 ((a1).toNat-0) (p0.length-(a2).toNat) (fun i=>(p0.getD ((0+(a2).toNat)+i) default)))))] })] [.ev 3,.ev 0,.pf (Eq.refl p0.length),.ev 4,.ev 6,.pf (Eq.refl p0.length),.pf (Eq.refl p0.length),.pf (Eq.refl p0.length),.ev 1,.pf (p:=∀ k,k<(p0.length-(a2).toNat)→(AV.d (TWa.e (p0.getD ((0+(a2).toNat)+k) default))).wd=14) (fun _ _=>rfl),.pf (zef (sz:=14) (e:=TWa.e) (l:=p0) (off:=((a1).toNat-0)) (k:=(p0.length-(a2).toNat)) (s:=(fun i=>(p0.getD ((0+(a2).toNat)+i) default))))] <|
.cst (A:=True) (.pf trivial) [(0,(AV.ref 0 p0.length 0 (((a1).toNat-0)+(p0.length-(a2).toNat)))),(7,(vi (p0.length:Int)))] [(0,(AV.ref 0 ((copyL p0 ((a1).toNat-0) (p0.length-(a2).toNat) (fun i=>(p0.getD ((0+(a2).toNat)+i) default))).length) 0 (((a1).toNat-0)+(p0.length-(a2).toNat)))),(7,(vi (p0.length:Int)))] [(eS 14 TWa.e (copyL p0 ((a1).toNat-0) (p0.length-(a2).toNat) (fun i=>(p0.getD ((0+(a2).toNat)+i) default))))] [(eS 14 TWa.e (copyL p0 ((a1).toNat-0) (p0.length-(a2).toNat) (fun i=>(p0.getD ((0+(a2).toNat)+i) default))))] (fun _=>⟨by simp only[z1d],by rfl⟩) <|
.guard [(((a1).toNat-0)+(p0.length-(a2).toNat))≤p0.length,p0.length≤(copyL p0 ((a1).toNat-0) (p0.length-(a2).toNat) (fun i=>(p0.getD ((0+(a2).toNat)+i) default))).length] <|
.reg 6 [] [(5,{ obs:=[(0,(eS 14 TWa.e (clearL (copyL p0 ((a1).toNat-0) (p0.length-(a2).toNat) (fun i=>(p0.getD ((0+(a2).toNat)+i) default))) (0+(((a1).toNat-0)+(p0.length-(a2).toNat))) (p0.length-(((a1).toNat-0)+(p0.length-(a2).toNat))) (⟨0,0,[],0,0,0,0,0,0,0,0,0,0,0⟩:TWa))))] })] [.pf (nn (((a1).toNat-0)+(p0.length-(a2).toNat))),.pf (nn p0.length),.ev 0,.ev 1,.pf (Eq.refl ((copyL p0 ((a1).toNat-0) (p0.length-(a2).toNat) (fun i=>(p0.getD ((0+(a2).toNat)+i) default))).length)),.pf (Eq.refl ((copyL p0 ((a1).toNat-0) (p0.length-(a2).toNat) (fun i=>(p0.getD ((0+(a2).toNat)+i) default))).length)),.pf (zch (sz:=14) (e:=TWa.e) (l:=(copyL p0 ((a1).toNat-0) (p0.length-(a2).toNat) (fun i=>(p0.getD ((0+(a2).toNat)+i) default)))) (off:=(0+(((a1).toNat-0)+(p0.length-(a2).toNat)))) (n:=(p0.length-(((a1).toNat-0)+(p0.length-(a2).toNat)))) (z:=(⟨0,0,[],0,0,0,0,0,0,0,0,0,0,0⟩:TWa)))] <|
.cst (A:=True) (.pf trivial) [(0,(AV.ref 0 ((copyL p0 ((a1).toNat-0) (p0.length-(a2).toNat) (fun i=>(p0.getD ((0+(a2).toNat)+i) default))).length) 0 (((a1).toNat-0)+(p0.length-(a2).toNat))))] [(0,(AV.ref 0 ((clearL (copyL p0 ((a1).toNat-0) (p0.length-(a2).toNat) (fun i=>(p0.getD ((0+(a2).toNat)+i) default))) (0+(((a1).toNat-0)+(p0.length-(a2).toNat))) (p0.length-(((a1).toNat-0)+(p0.length-(a2).toNat))) (⟨0,0,[],0,0,0,0,0,0,0,0,0,0,0⟩:TWa)).length) 0 (((a1).toNat-0)+(p0.length-(a2).toNat))))] [(eS 14 TWa.e (clearL (copyL p0 ((a1).toNat-0) (p0.length-(a2).toNat) (fun i=>(p0.getD ((0+(a2).toNat)+i) default))) (0+(((a1).toNat-0)+(p0.length-(a2).toNat))) (p0.length-(((a1).toNat-0)+(p0.length-(a2).toNat))) (⟨0,0,[],0,0,0,0,0,0,0,0,0,0,0⟩:TWa)))] [(eS 14 TWa.e (clearL (copyL p0 ((a1).toNat-0) (p0.length-(a2).toNat) (fun i=>(p0.getD ((0+(a2).toNat)+i) default))) (0+(((a1).toNat-0)+(p0.length-(a2).toNat))) (p0.length-(((a1).toNat-0)+(p0.length-(a2).toNat))) (⟨0,0,[],0,0,0,0,0,0,0,0,0,0,0⟩:TWa)))] (fun _=>⟨by simp only[z1m,z1d],by rfl⟩) <|
.guard [(clearL (copyL p0 ((a1).toNat-0) (p0.length-(a2).toNat) (fun i=>(p0.getD ((0+(a2).toNat)+i) default))) (0+(((a1).toNat-0)+(p0.length-(a2).toNat))) (p0.length-(((a1).toNat-0)+(p0.length-(a2).toNat))) (⟨0,0,[],0,0,0,0,0,0,0,0,0,0,0⟩:TWa)).length<2 ^ 63] <|
.reg 7 [] [] [] <|
.guard [(((a1).toNat-0)+(p0.length-(a2).toNat))≤(clearL (copyL p0 ((a1).toNat-0) (p0.length-(a2).toNat) (fun i=>(p0.getD ((0+(a2).toNat)+i) default))) (0+(((a1).toNat-0)+(p0.length-(a2).toNat))) (p0.length-(((a1).toNat-0)+(p0.length-(a2).toNat))) (⟨0,0,[],0,0,0,0,0,0,0,0,0,0,0⟩:TWa)).length] <|
.frz 0 (.ev 1) (some (.der (fun (h:(((a1).toNat-0)+(p0.length-(a2).toNat))≤(clearL (copyL p0 ((a1).toNat-0) (p0.length-(a2).toNat) (fun i=>(p0.getD ((0+(a2).toNat)+i) default))) (0+(((a1).toNat-0)+(p0.length-(a2).toNat))) (p0.length-(((a1).toNat-0)+(p0.length-(a2).toNat))) (⟨0,0,[],0,0,0,0,0,0,0,0,0,0,0⟩:TWa)).length)=>(h:(((a1).toNat-0)+(p0.length-(a2).toNat))≤(clearL (copyL p0 ((a1).toNat-0) (p0.length-(a2).toNat) (fun i=>(p0.getD ((0+(a2).toNat)+i) default))) (0+(((a1).toNat-0)+(p0.length-(a2).toNat))) (p0.length-(((a1).toNat-0)+(p0.length-(a2).toNat))) (⟨0,0,[],0,0,0,0,0,0,0,0,0,0,0⟩:TWa)).length)) 0)) [6] [] <|
.lev 6 (AV.d (eL TWa.e ((clearL (copyL p0 ((a1).toNat-0) (p0.length-(a2).toNat) (fun i=>(p0.getD ((0+(a2).toNat)+i) default))) (0+(((a1).toNat-0)+(p0.length-(a2).toNat))) (p0.length-(((a1).toNat-0)+(p0.length-(a2).toNat))) (⟨0,0,[],0,0,0,0,0,0,0,0,0,0,0⟩:TWa)).take (((a1).toNat-0)+(p0.length-(a2).toNat))))) (.der (fun (h:(((a1).toNat-0)+(p0.length-(a2).toNat))≤(clearL (copyL p0 ((a1).toNat-0) (p0.length-(a2).toNat) (fun i=>(p0.getD ((0+(a2).toNat)+i) default))) (0+(((a1).toNat-0)+(p0.length-(a2).toNat))) (p0.length-(((a1).toNat-0)+(p0.length-(a2).toNat))) (⟨0,0,[],0,0,0,0,0,0,0,0,0,0,0⟩:TWa)).length)=>lvT TWa.e (clearL (copyL p0 ((a1).toNat-0) (p0.length-(a2).toNat) (fun i=>(p0.getD ((0+(a2).toNat)+i) default))) (0+(((a1).toNat-0)+(p0.length-(a2).toNat))) (p0.length-(((a1).toNat-0)+(p0.length-(a2).toNat))) (⟨0,0,[],0,0,0,0,0,0,0,0,0,0,0⟩:TWa)) h) 0) <|
.ret [] ((clearL (copyL p0 ((a1).toNat-0) (p0.length-(a2).toNat) (fun i=>(p0.getD ((0+(a2).toNat)+i) default))) (0+(((a1).toNat-0)+(p0.length-(a2).toNat))) (p0.length-(((a1).toNat-0)+(p0.length-(a2).toNat))) (⟨0,0,[],0,0,0,0,0,0,0,0,0,0,0⟩:TWa)).take (((a1).toNat-0)+(p0.length-(a2).toNat))))
def F_q4i (a1:Int) (a2:Int) (p0:(List TWa)):Option R_q4i:=(S_q4i a1 a2 p0).den
theorem F_q4i_ok {a1:Int} {a2:Int} {p0:(List TWa)} (r:R_q4i) (h:F_q4i a1 a2 p0=some r):CallOk Tryz.prog 74 [(AV.ref 0 p0.length 0 p0.length),(vi a1),(vi a2)] [(eS 14 TWa.e p0)] (V_q4i r) (L_q4i r):=fOk (s:=S_q4i a1 a2 p0) Tryz.func74 rfl (by kernel_rfl) h
theorem zom:LeV (AV.tup [(AV.full 0 fun _=>DV.b false),(vi 6)]) (AV.tup [(AV.d (eL TWa.e ([]))),(vi 6)]):=LeV.tup (LeVs.cons (lvN TWa.e) (LeVs.cons (LeV.refl _) LeVs.nil))
abbrev R_q4j:=(List TWa)×Int
def V_q4j (x:R_q4j):AV:=(AV.tup [(AV.d (eL TWa.e x.1)),(vi x.2)])
def L_q4j (_:R_q4j):List Ob:=[]
def S_q4j (a0:(List TWa)) (a1:Int):Scr Tryz.prog R_q4j R_q4j :=
.call (@F_q25_ok a0 a1) fun rv1 cv1 =>
.reg 1 [] [(2,hc cv1 [0] true)] [.cl 0 cv1 [0] 1 true] <|
.ite (decide (rv1<0)) (
.ret [.pf zom] ([],6)) (
.call (@F_q3j_ok a0) fun rv2 cv2 =>
.call (@F_q4i_ok rv1 (IntKind.i64.wrap (rv1+1)) rv2) fun rv3 cv3 =>
.reg 4 [] [(1,hc cv2 [] false),(5,hc cv3 [1] false)] [.cl 1 cv2 [] 1 false,.cl 0 cv3 [1] 2 false] <|
.ret [] (rv3,0))
def F_q4j (a0:(List TWa)) (a1:Int):Option R_q4j:=(S_q4j a0 a1).den
theorem F_q4j_ok {a0:(List TWa)} {a1:Int} (r:R_q4j) (h:F_q4j a0 a1=some r):CallOk Tryz.prog 30 [(AV.d (eL TWa.e a0)),(vi a1)] [] (V_q4j r) (L_q4j r):=fOk (s:=S_q4j a0 a1) Tryz.func30 rfl (by kernel_rfl) h
abbrev R_q26:=(List TWa)×Int
def V_q26 (x:R_q26):AV:=(AV.tup [(AV.d (eL TWa.e x.1)),(vi x.2)])
def L_q26 (_:R_q26):List Ob:=[]
def S_q26_b1 (a0:(List TWa)) (a1:Int) (iv1:Nat) (_:Unit):Scr Tryz.prog R_q26 (Step (Unit) R_q26) :=
.reg 3 [] [] [.pf (nn iv1),.ev 0] <|
.ite (((a0.getD iv1 default).Number)==a1) (
.guard [iv1≤a0.length,(a0.take iv1).length * (2 * 120)≤2 ^ 48,(0:Int)≤(IntKind.i64.wrap ((iv1:Int)+1)),((IntKind.i64.wrap ((iv1:Int)+1))).toNat≤a0.length,((a0.take iv1).length+(a0.drop (((IntKind.i64.wrap ((iv1:Int)+1))).toNat)).length) * (2 * 120)≤2 ^ 48] <|
.reg 5 [4,9] [(3,hv (AV.d (eL TWa.e (a0.take iv1)))),(4,{ h:=.obj }),(8,hv (AV.d (eL TWa.e (a0.drop (((IntKind.i64.wrap ((iv1:Int)+1))).toNat))))),(9,{ cast:=some (AV.ref 1 (((a0.take iv1)++(a0.drop (((IntKind.i64.wrap ((iv1:Int)+1))).toNat))).length) 0 (((a0.take iv1)++(a0.drop (((IntKind.i64.wrap ((iv1:Int)+1))).toNat))).length)),obs:=[(1,(eS 14 TWa.e ((a0.take iv1)++(a0.drop (((IntKind.i64.wrap ((iv1:Int)+1))).toNat)))))] })] [.pf (nn iv1),.ev 0,.der (fun (h0:iv1≤a0.length)=>lvT TWa.e a0 h0) 0,.pf (p:=∀ k,k<(a0.take iv1).length→(AV.d (TWa.e ((a0.take iv1).getD k default))).wd=14) (fun _ _=>rfl),.ev 1,.ev 2,.ev 3,.pf (lvD TWa.e a0 (((IntKind.i64.wrap ((iv1:Int)+1))).toNat)),.ev 2,.ev 3,.pf (lvD TWa.e a0 (((IntKind.i64.wrap ((iv1:Int)+1))).toNat)),.pf (Eq.refl ((a0.take iv1).length)),.pf (Eq.refl ((a0.take iv1).length)),.pf (p:=∀ k,k<(a0.drop (((IntKind.i64.wrap ((iv1:Int)+1))).toNat)).length→(AV.d (TWa.e ((a0.drop (((IntKind.i64.wrap ((iv1:Int)+1))).toNat)).getD k default))).wd=14) (fun _ _=>rfl),.ev 4,.pf (zy (o:=1) (l:=(a0.take iv1)) (x:=(a0.drop (((IntKind.i64.wrap ((iv1:Int)+1))).toNat)))),.pf (zx (sz:=14) (e:=TWa.e) (l:=(a0.take iv1)) (x:=(a0.drop (((IntKind.i64.wrap ((iv1:Int)+1))).toNat))))] <|
.guard [((a0.take iv1)++(a0.drop (((IntKind.i64.wrap ((iv1:Int)+1))).toNat))).length<2 ^ 63] <|
.frz 1 (.ev 0) none [4] [] <|
.ret [] (.ret (((a0.take iv1)++(a0.drop (((IntKind.i64.wrap ((iv1:Int)+1))).toNat))),0))) (
.ret [] (.cont ()))
def S_q26 (a0:(List TWa)) (a1:Int):Scr Tryz.prog R_q26 R_q26 :=
.range (a0.length:Int) a0.length rfl (.slot 0) 10 [0,1,8,9] (fun (_:Unit)=>[]) (fun (_:Unit)=>[]) () (S_q26_b1 a0 a1) (fun (_:Unit) => 
.ret [.pf zom] ([],6)) id
def F_q26 (a0:(List TWa)) (a1:Int):Option R_q26:=(S_q26 a0 a1).den
theorem F_q26_ok {a0:(List TWa)} {a1:Int} (r:R_q26) (h:F_q26 a0 a1=some r):CallOk Tryz.prog 31 [(AV.d (eL TWa.e a0)),(vi a1)] [] (V_q26 r) (L_q26 r):=fOk (s:=S_q26 a0 a1) Tryz.func31 rfl (by kernel_rfl) h
end
end Go.Proofs.YtclaojamgomjbaaGreatDoor
/- What the functions compute,and that their calls return it. No condition. -/
namespace Go.Proofs.YtclaojamgomjbaaGreatDoor
open Go Go.TA
noncomputable section
set_option maxRecDepth 100000
abbrev R_q1:=Bool
def V_q1 (x:R_q1):AV:=(vb x)
def L_q1 (_:R_q1):List Ob:=[]
def S_q1_b1 (a1:TWa) (a2:TOf) (a3:(List Int)) (a4:TPo) (a5:(List TWa)) (a6:Int) (rv1:R_qa) (rv2:R_qf) (rv3:R_qh) (rv4:R_q24) (iv5:Nat) (rv6:R_q2v) (iv7:Nat) (iv8:Nat) (_:Unit):Scr Tryz.prog R_q1 (Step (Unit) R_q1) :=
.reg 17 [] [] [.pf (nn iv8),.ev 0] <|
.call (@F_qq_ok rv1.1.Keys (([rv2.1,rv4.1,a1]:List TWa).getD iv5 default) (([rv1.1.Office,rv6.1,a2]:List TOf).getD iv7 default) (([rv3.1,([(⟨55,rv2.1.Office,rv2.1.Code,rv2.1.Year,rv2.1.Verification,rv2.1.Attempt,rv2.1.Commitment,rv2.1.Reservation,rv2.1.Amount,rv2.1.Payee,rv2.1.Day,rv2.1.Due,rv2.1.First,rv2.1.Second⟩:TWa)]:List TWa),a5]:List (List TWa)).getD iv8 default) rv1.1.Pot rv1.1.Day) fun rv9 cv9 =>
.call (@F_q8_ok rv1.1.Keys (([rv2.1,rv4.1,a1]:List TWa).getD iv5 default) (([rv1.1.Office,rv6.1,a2]:List TOf).getD iv7 default) (([rv3.1,([(⟨55,rv2.1.Office,rv2.1.Code,rv2.1.Year,rv2.1.Verification,rv2.1.Attempt,rv2.1.Commitment,rv2.1.Reservation,rv2.1.Amount,rv2.1.Payee,rv2.1.Day,rv2.1.Due,rv2.1.First,rv2.1.Second⟩:TWa)]:List TWa),a5]:List (List TWa)).getD iv8 default) rv1.1.Pot rv1.1.Day) fun rv10 cv10 =>
.reg 18 [] [(9,hc cv9 [] true),(19,hc cv10 [] true)] [.cl 1 cv9 [] 10 true,.cl 0 cv10 [] 10 true] <|
.call (@F_qq_ok a3 (([rv2.1,rv4.1,a1]:List TWa).getD iv5 default) (([rv1.1.Office,rv6.1,a2]:List TOf).getD iv7 default) (([rv3.1,([(⟨55,rv2.1.Office,rv2.1.Code,rv2.1.Year,rv2.1.Verification,rv2.1.Attempt,rv2.1.Commitment,rv2.1.Reservation,rv2.1.Amount,rv2.1.Payee,rv2.1.Day,rv2.1.Due,rv2.1.First,rv2.1.Second⟩:TWa)]:List TWa),a5]:List (List TWa)).getD iv8 default) a4 a6) fun rv11 cv11 =>
.call (@F_q8_ok a3 (([rv2.1,rv4.1,a1]:List TWa).getD iv5 default) (([rv1.1.Office,rv6.1,a2]:List TOf).getD iv7 default) (([rv3.1,([(⟨55,rv2.1.Office,rv2.1.Code,rv2.1.Year,rv2.1.Verification,rv2.1.Attempt,rv2.1.Commitment,rv2.1.Reservation,rv2.1.Amount,rv2.1.Payee,rv2.1.Day,rv2.1.Due,rv2.1.First,rv2.1.Second⟩:TWa)]:List TWa),a5]:List (List TWa)).getD iv8 default) a4 a6) fun rv12 cv12 =>
.reg 19 [] [(6,hc cv11 [] true),(13,hc cv12 [] true)] [.cl 1 cv11 [] 10 true,.cl 0 cv12 [] 10 true] <|
.call (@F_q11_ok rv9 rv10) fun rv13 cv13 =>
.calld [(!rv13)=false] default (@F_q11_ok rv11 rv12) fun rv14 cv14 =>
.calld [(bif (!rv13) then true else (!rv14))=false] default (@F_qy_ok rv10) fun rv15 cv15 =>
.calld [(bif (!rv13) then true else (!rv14))=false] default (@F_q19_ok rv10) fun rv16 cv16 =>
.reg 20 [] [(2,hc cv13 [] true),(7,hc cv14 [] true),(12,hc cv15 [] true),(14,hc cv16 [] true)] [.cl 6 cv13 [] 10 true,.clg 4 [(!rv13)=false] cv14 [] 10 true,.clg 2 [(bif (!rv13) then true else (!rv14))=false] cv15 [] 10 true,.clg 0 [(bif (!rv13) then true else (!rv14))=false] cv16 [] 10 true] <|
.ite (bif (bif (!rv13) then true else (!rv14)) then true else (rv15 != rv16)) (
.ret [] (.ret false)) (
.call (@F_qz_ok rv1.1.Keys (([rv2.1,rv4.1,a1]:List TWa).getD iv5 default) (([rv1.1.Office,rv6.1,a2]:List TOf).getD iv7 default) (([rv3.1,([(⟨55,rv2.1.Office,rv2.1.Code,rv2.1.Year,rv2.1.Verification,rv2.1.Attempt,rv2.1.Commitment,rv2.1.Reservation,rv2.1.Amount,rv2.1.Payee,rv2.1.Day,rv2.1.Due,rv2.1.First,rv2.1.Second⟩:TWa)]:List TWa),a5]:List (List TWa)).getD iv8 default) rv1.1.Pot rv1.1.Day) fun rv17 cv17 =>
.reg 22 [] [(9,hc cv17 [] true)] [.cl 0 cv17 [] 10 true] <|
.call (@F_q4h_ok rv1.1.Keys (([rv2.1,rv4.1,a1]:List TWa).getD iv5 default) (([rv1.1.Office,rv6.1,a2]:List TOf).getD iv7 default) (([rv3.1,([(⟨55,rv2.1.Office,rv2.1.Code,rv2.1.Year,rv2.1.Verification,rv2.1.Attempt,rv2.1.Commitment,rv2.1.Reservation,rv2.1.Amount,rv2.1.Payee,rv2.1.Day,rv2.1.Due,rv2.1.First,rv2.1.Second⟩:TWa)]:List TWa),a5]:List (List TWa)).getD iv8 default) rv1.1.Pot rv1.1.Day) fun rv18 cv18 =>
.reg 23 [] [(9,hc cv18 [] true)] [.cl 0 cv18 [] 10 true] <|
.calld [(rv17.2 != rv18.2)=false] default (@F_q12_ok rv17.1 rv18.1) fun rv19 cv19 =>
.reg 24 [] [(6,hc cv19 [] true)] [.clg 0 [(rv17.2 != rv18.2)=false] cv19 [] 10 true] <|
.ite (bif (rv17.2 != rv18.2) then true else (!rv19)) (
.ret [] (.ret false)) (
.ret [] (.cont ())))
def S_q1_b2 (a1:TWa) (a2:TOf) (a3:(List Int)) (a4:TPo) (a5:(List TWa)) (a6:Int) (rv1:R_qa) (rv2:R_qf) (rv3:R_qh) (rv4:R_q24) (iv5:Nat) (rv6:R_q2v) (iv7:Nat) (_:Unit):Scr Tryz.prog R_q1 (Step (Unit) R_q1) :=
.reg 14 [] [(2,{ obs:=[(9,(bx (TOf.e (⟨0,[],(⟨[],[],[],[]⟩:TBo)⟩:TOf))))] })] [.pf (nn iv7),.ev 0,.pf cz1] <|
.reg 15 [] [(2,hv (AV.d (eL TWa.e ([(⟨55,rv2.1.Office,rv2.1.Code,rv2.1.Year,rv2.1.Verification,rv2.1.Attempt,rv2.1.Commitment,rv2.1.Reservation,rv2.1.Amount,rv2.1.Payee,rv2.1.Day,rv2.1.Due,rv2.1.First,rv2.1.Second⟩:TWa)]:List TWa)))),(4,hv (AV.d (eL (eL TWa.e) ([rv3.1,([(⟨55,rv2.1.Office,rv2.1.Code,rv2.1.Year,rv2.1.Verification,rv2.1.Attempt,rv2.1.Commitment,rv2.1.Reservation,rv2.1.Amount,rv2.1.Payee,rv2.1.Day,rv2.1.Due,rv2.1.First,rv2.1.Second⟩:TWa)]:List TWa),a5]:List (List TWa)))))] [.pf (zd TWa.e ([(⟨55,rv2.1.Office,rv2.1.Code,rv2.1.Year,rv2.1.Verification,rv2.1.Attempt,rv2.1.Commitment,rv2.1.Reservation,rv2.1.Amount,rv2.1.Payee,rv2.1.Day,rv2.1.Due,rv2.1.First,rv2.1.Second⟩:TWa)]:List TWa)),.pf (zd (eL TWa.e) ([rv3.1,([(⟨55,rv2.1.Office,rv2.1.Code,rv2.1.Year,rv2.1.Verification,rv2.1.Attempt,rv2.1.Commitment,rv2.1.Reservation,rv2.1.Amount,rv2.1.Payee,rv2.1.Day,rv2.1.Due,rv2.1.First,rv2.1.Second⟩:TWa)]:List TWa),a5]:List (List TWa)))] <|
.range 3 3 rfl (.why (.pf (p:=3<2 ^ 63) (by decide))) 123 [3,5,6,7,8,11,13,19,20,23,24,26,28,98,99,100,111,112,113,121,122] (fun (_:Unit)=>[]) (fun (_:Unit)=>[]) () (S_q1_b1 a1 a2 a3 a4 a5 a6 rv1 rv2 rv3 rv4 iv5 rv6 iv7) (fun (_:Unit) => 
.ret [] (.cont ())) .ret
def S_q1_b3 (a1:TWa) (a2:TOf) (a3:(List Int)) (a4:TPo) (a5:(List TWa)) (a6:Int) (rv1:R_qa) (rv2:R_qf) (rv3:R_qh) (rv4:R_q24) (iv5:Nat) (sv20:TTape):Scr Tryz.prog R_q1 (Step (TTape) R_q1) :=
.reg 11 [] [] [.pf (nn iv5),.ev 0] <|
.call (@F_q2v_ok rv1.1.Office sv20) fun rv6 cv6 =>
.reg 12 [5] [(5,hc cv6 [4] false),(7,hv (AV.d (eL TOf.e ([rv1.1.Office,rv6.1,a2]:List TOf))))] [.cl 0 cv6 [4] 9 false,.pf (zd TOf.e ([rv1.1.Office,rv6.1,a2]:List TOf))] <|
.range 3 3 rfl (.why (.pf (p:=3<2 ^ 63) (by decide))) 113 [3,5,6,7,8,11,13,19,20,23,24,26,98,99,100,111,112] (fun (_:Unit)=>[]) (fun (_:Unit)=>[]) () (S_q1_b2 a1 a2 a3 a4 a5 a6 rv1 rv2 rv3 rv4 iv5 rv6) (fun (_:Unit) => 
.ret [] (.cont rv6.2)) .ret
def S_q1_b4 (a5:(List TWa)) (a7:Int) (rv3:R_qh) (iv21:Nat) (rv22:R_q6) (iv23:Nat) (_:Unit):Scr Tryz.prog R_q1 (Step (Unit) R_q1) :=
.reg 34 [] [] [.pf (nn iv23),.ev 0] <|
.call (@F_q4j_ok (([rv3.1,a5]:List (List TWa)).getD iv21 default) (([a7,rv22.1]:List Int).getD iv23 default)) fun rv24 cv24 =>
.reg 35 [] [(2,hc cv24 [] true)] [.cl 0 cv24 [] 8 true] <|
.call (@F_q26_ok (([rv3.1,a5]:List (List TWa)).getD iv21 default) (([a7,rv22.1]:List Int).getD iv23 default)) fun rv25 cv25 =>
.reg 36 [] [(2,hc cv25 [] true)] [.cl 0 cv25 [] 8 true] <|
.calld [(rv24.2 != rv25.2)=false] default (@F_q12_ok rv24.1 rv25.1) fun rv26 cv26 =>
.reg 37 [] [(6,hc cv26 [] true)] [.clg 0 [(rv24.2 != rv25.2)=false] cv26 [] 8 true] <|
.ite (bif (rv24.2 != rv25.2) then true else (!rv26)) (
.ret [] (.ret false)) (
.ret [] (.cont ()))
def S_q1_b5 (a5:(List TWa)) (a7:Int) (rv3:R_qh) (iv21:Nat) (sv27:TTape):Scr Tryz.prog R_q1 (Step (TTape) R_q1) :=
.reg 31 [] [] [.pf (nn iv21),.ev 0] <|
.call (@F_q6_ok 1 60 sv27) fun rv22 cv22 =>
.reg 32 [] [(2,hc cv22 [4] false),(3,hv (vl ([a7,rv22.1]:List Int)))] [.cl 0 cv22 [4] 8 false,.pf (zd (DV.i .i64) ([a7,rv22.1]:List Int))] <|
.range 2 2 rfl (.why (.pf (p:=2<2 ^ 63) (by decide))) 229 [7,8,19,40,218,219,220,227,228] (fun (_:Unit)=>[]) (fun (_:Unit)=>[]) () (S_q1_b4 a5 a7 rv3 iv21 rv22) (fun (_:Unit) => 
.ret [] (.cont rv22.2)) .ret
def S_q1 (a0:(List Int)) (a1:TWa) (a2:TOf) (a3:(List Int)) (a4:TPo) (a5:(List TWa)) (a6:Int) (a7:Int) (a8:(List TCh)):Scr Tryz.prog R_q1 R_q1 :=
.call (@F_q10_ok (([a1]:List TWa)++a5)) fun rv28 cv28 =>
.calld [(!rv28)=false] default (@F_q1d_ok a2) fun rv29 cv29 =>
.calld [(bif (!rv28) then true else (!rv29))=false] default (@F_q23_ok (⟨0,([a4]:List TPo)⟩:TTr)) fun rv30 cv30 =>
.guard [(([a1]:List TWa).length+a5.length) * (2 * 120)≤2 ^ 48] <|
.reg 1 [] [(1,{ h:=.obj,obs:=[(3,(eS 14 TWa.e ([a1]:List TWa)))] }),(3,{ cast:=some (AV.ref 3 ((([a1]:List TWa)++a5).length) 0 ((([a1]:List TWa)++a5).length)),obs:=[(3,(eS 14 TWa.e (([a1]:List TWa)++a5)))] }),(4,hc cv28 [3] true),(8,hc cv29 [] true),(13,hv (AV.d (eL TPo.e ([a4]:List TPo)))),(15,hc cv30 [] true)] [.pf (z54 (sz:=14) (e:=TWa.e) (l:=([a1]:List TWa))),.pf (Eq.refl (([a1]:List TWa).length)),.pf (Eq.refl (([a1]:List TWa).length)),.pf (p:=∀ k,k<a5.length→(AV.d (TWa.e (a5.getD k default))).wd=14) (fun _ _=>rfl),.ev 0,.pf (zy (o:=3) (l:=([a1]:List TWa)) (x:=a5)),.pf (zx (sz:=14) (e:=TWa.e) (l:=([a1]:List TWa)) (x:=a5)),.cl 5 cv28 [3] 4 true,.clg 3 [(!rv28)=false] cv29 [] 4 true,.pf (p:=AllP [(bif (!rv28) then true else (!rv29))=false]→(LeV (AV.d (DV.sl 1 (listF (DV.b false) [(TPo.e a4)]))) (AV.d (eL TPo.e ([a4]:List TPo))))) (fun hg=>zd TPo.e ([a4]:List TPo)),.clg 1 [(bif (!rv28) then true else (!rv29))=false] cv30 [] 4 true] <|
.ite (bif (bif (bif (bif (!rv28) then true else (!rv29)) then true else (!rv30)) then true else (decide ((a3.length:Int)>30))) then true else (decide ((a8.length:Int)>30))) (
.call (@F_q22_ok) fun rv31 cv31 =>
.reg 2 [] [(0,hc cv31 [] true)] [.cl 0 cv31 [] 4 true] <|
.ret [] rv31) (
.call (@F_q3k_ok a0) fun rv32 cv32 =>
.reg 3 [] [(1,hc cv32 [] false)] [.cl 0 cv32 [] 4 false] <|
.call (@F_qa_ok rv32) fun rv1 cv1 =>
.reg 4 [] [(1,hc cv1 [4] false),(2,{ obs:=[(5,(bx (TCa.e (⟨[],(⟨0,[],(⟨[],[],[],[]⟩:TBo)⟩:TOf),(⟨[],0,0,[],[],[],[]⟩:TPo),[],0⟩:TCa))))] })] [.cl 0 cv1 [4] 5 false,.pf cz7] <|
.sh (H:=NoH) (A:=True) (.pf trivial) [(3,(AV.d (eL (DV.i .u64) a3))),(5,(AV.d (eL TWa.e a5))),(6,(vi a6)),(7,(vi a7)),(8,(AV.d (eL TCh.e a8))),(10,(vp 0)),(11,(vp 1)),(13,(vp 2)),(19,(vp 4)),(20,(vp 5))] [(3,(AV.d (eL (DV.i .u64) a3))),(5,(AV.d (eL TWa.e a5))),(6,(vi a6)),(7,(vi a7)),(8,(AV.d (eL TCh.e a8))),(10,(vp 0)),(11,(vp 1)),(13,(vp 2)),(19,(vp 4)),(20,(vp 5))] [(bx (TWa.e a1)),(bx (TOf.e a2)),(bx (TPo.e a4)),(eS 14 TWa.e (([a1]:List TWa)++a5)),(bx (TTape.e rv1.2)),(bx (TCa.e rv1.1))] [(bx (TWa.e a1)),(bx (TOf.e a2)),(bx (TPo.e a4)),(eS 14 TWa.e (([a1]:List TWa)++a5)),(bx (TTape.e rv1.2)),(bx (TCa.e rv1.1)),Ob.unb] (fun _=>z5w) (z59 _) <|
.call (@F_q6_ok 1 3 rv1.2) fun rv33 cv33 =>
.call (@F_qf_ok rv1.1 rv33.1 7) fun rv2 cv2 =>
.reg 5 [2,7,8] [(2,hc cv33 [4] false),(3,hc cv2 [] true),(7,{ h:=.born 6 false })] [.cl 1 cv33 [4] 7 false,.cl 1 cv33 [4] 7 false,.cl 0 cv2 [] 7 true,.cl 0 cv2 [] 7 true] <|
.call (@F_qh_ok rv1.1.Keys 4 rv33.2) fun rv3 cv3 =>
.reg 6 [] [(3,hc cv3 [4] false)] [.cl 0 cv3 [4] 7 false] <|
.call (@F_q24_ok rv2.1 rv3.2) fun rv4 cv4 =>
.reg 9 [3] [(3,hc cv4 [4] false),(5,hv (AV.d (eL TWa.e ([rv2.1,rv4.1,a1]:List TWa))))] [.cl 0 cv4 [4] 8 false,.pf (zd TWa.e ([rv2.1,rv4.1,a1]:List TWa))] <|
.range 3 3 rfl (.why (.pf (p:=3<2 ^ 63) (by decide))) 100 [3,5,6,7,8,11,13,19,20,23,24,98,99] (fun (_:TTape)=>[]) (fun (sv20:TTape)=>[(4,(bx (TTape.e sv20)))]) rv4.2 (S_q1_b3 a1 a2 a3 a4 a5 a6 rv1 rv2 rv3 rv4) (fun (sv20:TTape) => 
.reg 29 [] [(2,hv (AV.d (eL (eL TWa.e) ([rv3.1,a5]:List (List TWa)))))] [.pf (zd (eL TWa.e) ([rv3.1,a5]:List (List TWa)))] <|
.range 2 2 rfl (.why (.pf (p:=2<2 ^ 63) (by decide))) 220 [7,8,19,218,219] (fun (_:TTape)=>[]) (fun (sv27:TTape)=>[(4,(bx (TTape.e sv27)))]) sv20 (S_q1_b5 a5 a7 rv3) (fun (_:TTape) => 
.call (@F_qy_ok a8) fun rv34 cv34 =>
.call (@F_q19_ok a8) fun rv35 cv35 =>
.calld [(rv34==rv35)=true] default (@F_q22_ok) fun rv36 cv36 =>
.reg 41 [] [(1,hc cv34 [] true),(3,hc cv35 [] true),(6,hc cv36 [] true)] [.cl 3 cv34 [] 8 true,.cl 2 cv35 [] 8 true,.clg 0 [(rv34==rv35)=true] cv36 [] 8 true] <|
.ret [] (bif (rv34==rv35) then rv36 else false)) id) id)
def F_q1 (a0:(List Int)) (a1:TWa) (a2:TOf) (a3:(List Int)) (a4:TPo) (a5:(List TWa)) (a6:Int) (a7:Int) (a8:(List TCh)):Option R_q1:=(S_q1 a0 a1 a2 a3 a4 a5 a6 a7 a8).den
theorem F_q1_ok {a0:(List Int)} {a1:TWa} {a2:TOf} {a3:(List Int)} {a4:TPo} {a5:(List TWa)} {a6:Int} {a7:Int} {a8:(List TCh)} (r:R_q1) (h:F_q1 a0 a1 a2 a3 a4 a5 a6 a7 a8=some r):CallOk Tryz.prog 5 [(vl a0),(AV.d (TWa.e a1)),(AV.d (TOf.e a2)),(AV.d (eL (DV.i .u64) a3)),(AV.d (TPo.e a4)),(AV.d (eL TWa.e a5)),(vi a6),(vi a7),(AV.d (eL TCh.e a8))] [] (V_q1 r) (L_q1 r):=fOk (s:=S_q1 a0 a1 a2 a3 a4 a5 a6 a7 a8) Tryz.func5 rfl (by kernel_rfl) h
end
end Go.Proofs.YtclaojamgomjbaaGreatDoor
