/- A part of the proof: what the functions compute, and that their calls return it. No condition. -/
import Derived.Test.YtkhgaalekilaeaaGreatDoorG8
/- What the functions compute, and that their calls return it. No condition. -/
namespace Go.Proofs.YtkhgaalekilaeaaGreatDoor
open Go Go.TA
open Go.IntKind (i64)
noncomputable section
set_option maxRecDepth 100000
def S_q42 (e:TSt) (f:TCa):SC TCa TCa :=
.call (@F_q2l_ok e f) fun a b=>
.k 1 2 b [0] 2 false<|
.ite (a.1==0) (
.call (@F_q2l_ok (⟨9,0,(⟨0,[],0,0,0,0,0,0,0,0⟩:TOp),[],0,0,(i64.wrap ((a.2.w.N.length:Int)-1))⟩:TSt) a.2) fun c d=>
.k 2 9 d [0] 2 false<|
.r c.2) (
.r a.2)
def F_q42 (a:TSt) (b:TCa):=(S_q42 a b).den
theorem F_q42_ok {a:TSt} {c:TCa}:FO (F_q42 a c) 124 [(vp 0),(TSt.d a)] [(TCa.b c)] (fun _=>(Rg [])) (fun x=>[(TCa.b x)]):=fO (s:=S_q42 a c) Tryz.func124
def S_q75 (a:TRi) (h:Int):SC Int Int :=
.call (@F_q3o_ok a) fun b c=>
.calld [(!b)=false] dF (@F_qj_ok h 0 (i64.wrap (a.A-a.S))) fun g d =>
.reg 1 [] [(1,hc c [] true),(10,hc d [] true)] [.cl 2 c [] 1 true,.clg 0 [(!b)=false] d [] 1 true]<|
.ite (cO (!b) (!g)) (
.r 0) (
 let e:=(i64.wrap (a.A-h))
 let f:=(i64.wrap ((if e<a.G then e else a.G)-a.S))
.r (if 0>f then 0 else f))
def F_q75 (a:TRi) (b:Int):=(S_q75 a b).den
theorem F_q75_ok {a:TRi} {b:Int}:FO (F_q75 a b) 175 [(TRi.d a),(vi b)] [] vi NL:=fO (s:=S_q75 a b) Tryz.func175
def S_q76 (g:TOf) (h:Y8) (i:Int):SC (TOp×Bool) (TOp×Bool) :=
.a 1 1 2 (@F_qt_ok g) fun j=>
 let b:=(⟨0,[],0,0,0,0,0,0,0,0⟩:TOp)
.ite (!j) (
.r (b,false)) (
.call (@F_q20_ok g h i) fun k c=>
.call (@F_q1p_ok g.Ag h i) fun l d=>
.call (@F_q75_ok k l) fun e f=>
.reg 3 [] [(3,hc c [] true),(8,hc d [] true),(9,hc f [] true)] [.cl 2 c [] 2 true,.cl 1 d [] 2 true,.cl 0 f [] 2 true]<|
.ite (e==0) (
.r (b,false)) (
.r ((⟨7,h,i,0,0,e,0,0,0,0⟩:TOp),true)))
def F_q76 (a:TOf) (b:Y8) (c:Int):=(S_q76 a b c).den
theorem F_q76_ok {a:TOf} {b:Y8} {c:Int}:FO (F_q76 a b c) 125 [(TOf.d a),(AV.d (Rf b)),(vi c)] [] (fun x=>(Rg [(TOp.d x.1),(vb x.2)])) NL:=fO (s:=S_q76 a b c) Tryz.func125
def S_qw_b1 (j:Int) (q:TCa) (g:Nat) (l:TCa):SC TCa (Step TCa TCa) :=
.reg 2 [] [(2,{ obs:=[(1,(TPo.b (⟨[],0,0,[],[],[],[]⟩:TPo)))] })] [.w g,.ev 0,.pf cz1]<|
 let d:=(q.w.K.E.getD g dF)
.call (@F_q42_ok (⟨4,j,(⟨0,[],0,0,0,0,0,0,0,0⟩:TOp),d.B,d.D,0,0⟩:TSt) l) fun e m=>
.k 3 7 m [0] 2 false<|
 let f:=(i64.wrap (j-1))
.call (@F_q28_ok (e.w.J.getD f.toNat dF)) fun n h=>
.guard [(0:Int)<=f,f.toNat<e.w.J.length]<|
.reg 4 [] [(9,hc h [] true),(13,{ obs:=[(2,(TOf.b (⟨0,[],(⟨[],[],[],[]⟩:TBo)⟩:TOf)))] })] [.ev 0,.ev 1,.cl 2 h [] 2 true,.pf z19]<|
.a 5 5 3 (@F_q76_ok n.1 d.B d.D) fun i=>
.ite i.2 (
.call (@F_q2l_ok (⟨5,j,i.1,[],0,0,0⟩:TSt) e) fun o p=>
.k 7 4 p [0] 4 false<|
.c o.2) (
.c e)
def S_qw_b2 (i:Int) (g:(Int×TCa)) (a:Nat) (h:TCa):SC TCa (Step TCa TCa) :=
.reg 12 [] [(2,{ obs:=[(1,(TPo.b (⟨[],0,0,[],[],[],[]⟩:TPo)))] })] [.w a,.ev 0,.pf cz1]<|
 let d:=(g.2.w.K.E.getD a dF)
.call (@F_q42_ok (⟨8,i,(⟨0,[],0,0,0,0,0,0,0,0⟩:TOp),d.B,d.D,0,0⟩:TSt) h) fun e f=>
.k 13 7 f [0] 2 false<|
.c e
def S_qw (f:Int) (e:TCa):SC TCa TCa :=
.range (e.w.K.E.length:Int) e.w.K.E.length rfl (.slot 17) 19 [0,1,17,18] (fun (_:TCa)=>[]) (fun c=>[(0,(TCa.b c))]) e (S_qw_b1 f e) (fun c => 
.call (@F_q2l_ok (⟨6,f,(⟨0,[],0,0,0,0,0,0,0,0⟩:TOp),[],0,0,0⟩:TSt) c) fun a g=>
.k 9 3 g [0] 1 false<|
.range (a.2.w.K.E.length:Int) a.2.w.K.E.length rfl (.slot 69) 71 [0,1,69,70] (fun (_:TCa)=>[]) (fun d=>[(0,(TCa.b d))]) a.2 (S_qw_b2 f a) (fun d => 
.r d) id) id
def F_qw (a:Int) (b:TCa):=(S_qw a b).den
theorem F_qw_ok {a:Int} {c:TCa}:FO (F_qw a c) 74 [(vp 0),(vi a)] [(TCa.b c)] (fun _=>(Rg [])) (fun x=>[(TCa.b x)]):=fO (s:=S_qw a c) Tryz.func74
abbrev R_qe:=TWo×Int
def S_qe_b1 (a:TCa):SC R_qe (Step TCa R_qe) :=
.ite (decide ((a.w.N.length:Int)>0)) (
 let d:=(⟨0,[],0,0,0,0,0,0,0,0⟩:TOp)
.call (@F_q2l_ok (⟨9,0,d,[],0,0,0⟩:TSt) a) fun b e=>
.k 5 2 e [2] 3 false<|
.ite (b.1 != 0) (
.call (@F_q2l_ok (⟨10,0,d,[],0,0,0⟩:TSt) b.2) fun f g=>
.k 6 2 g [2] 3 false<|
.c f.2) (
.c b.2)) (
.r (.brk a))
def S_qe_b2 (a:Nat) (b:TCa):SC R_qe (Step TCa R_qe) :=
.call (@F_qw_ok (i64.wrap ((a:Int)+1)) b) fun d e=>
.k 10 3 e [2] 3 false<|
.c d
def S_qe (g:TWo):SC R_qe R_qe :=
 let c:=(⟨(⟨0,[]⟩:TTr),[],[]⟩:TWo)
.reg 0 [] [(1,{ obs:=[(1,(TWo.b c))] })] [.pf cz4]<|
.a 1 1 2 (@F_qd_ok g) fun h=>
.ite (!h) (
.reg 2 [] [(0,hv (TWo.d c))] [.pf cz5]<|
.r (c,1)) (
.iter [1,2,4] (fun (_:TCa)=>[]) (fun e=>[(2,(TCa.b e))]) (⟨g⟩:TCa) S_qe_b1 (fun e =>
.guard [g.J.length<2 ^ 63]<|
.range (g.J.length:Int) g.J.length rfl (.why (.ev 0)) 30 [2,4,29] (fun (_:TCa)=>[]) (fun f=>[(2,(TCa.b f))]) e S_qe_b2 (fun f => 
.a 12 4 3 (@F_qp_ok f.w) fun i=>
.r (i,0)) id) id)
def F_qe (a:TWo):=(S_qe a).den
theorem F_qe_ok {a:TWo}:FO (F_qe a) 25 [(TWo.d a)] [] (fun x=>(Rg [(TWo.d x.1),(vi x.2)])) NL:=fO (s:=S_qe a) Tryz.func25
def S_q7r (g:TWo) (h:Int):SC TWo TWo :=
 let c:=(TWo.b (⟨(⟨0,[]⟩:TTr),[],[]⟩:TWo))
.reg 0 [] [(1,{ obs:=[(1,c)] })] [.pf cz4]<|
.call (@F_q1s_ok g (⟨9,0,(⟨0,[],0,0,0,0,0,0,0,0⟩:TOp),[],0,0,h⟩:TSt)) fun d e=>
.reg 1 [] [(3,hc e [] true),(7,{ obs:=[(2,c)] })] [.cl 0 e [] 2 true,.pf cz4]<|
.ite (d.2 != 0) (
.a 3 2 3 (@F_q4j_ok g h) fun f=>
.r f) (
.r d.1)
def F_q7r (a:TWo) (b:Int):=(S_q7r a b).den
theorem F_q7r_ok {a:TWo} {b:Int}:FO (F_q7r a b) 75 [(TWo.d a),(vi b)] [] (fun x=>(TWo.d x)) NL:=fO (s:=S_q7r a b) Tryz.func75
def S_q1a (g:TWo) (h:TSt) (i:Bool):SC TWo TWo :=
 let c:=(TWo.b (⟨(⟨0,[]⟩:TTr),[],[]⟩:TWo))
.reg 0 [] [(2,{ obs:=[(2,c)] })] [.pf cz4]<|
.call (@F_q1s_ok g h) fun a d=>
.reg 1 [] [(2,hc d [] true),(6,{ obs:=[(3,c)] })] [.cl 0 d [] 3 true,.pf cz4]<|
.ite (a.2 != 0) (
.r g) (
.ite (!i) (
.r a.1) (
.call (@F_q1s_ok a.1 (⟨9,0,(⟨0,[],0,0,0,0,0,0,0,0⟩:TOp),[],0,0,(i64.wrap ((a.1.N.length:Int)-1))⟩:TSt)) fun e f=>
.reg 6 [] [(6,hc f [] true),(10,{ obs:=[(4,c)] })] [.cl 0 f [] 4 true,.pf cz4]<|
.ite (e.2 != 0) (
.r a.1) (
.r e.1)))
def F_q1a (a:TWo) (b:TSt) (c:Bool):=(S_q1a a b c).den
theorem F_q1a_ok {a:TWo} {b:TSt} {c:Bool}:FO (F_q1a a b c) 76 [(TWo.d a),(TSt.d b),(vb c)] [] (fun x=>(TWo.d x)) NL:=fO (s:=S_q1a a b c) Tryz.func76
abbrev R_q3:=TWo×Int
def S_q3_b1 (b:TWo):SC R_q3 (Step TWo R_q3) :=
.ite (decide ((b.N.length:Int)>0)) (
.a 4 1 2 (@F_q7r_ok b 0) fun d=>
.c d) (
.r (.brk b))
def S_q3_b2 (d:TWo×Int) (g:Nat) (j:TWo):SC R_q3 (Step TWo R_q3) :=
.reg 10 [] [(2,{ obs:=[(2,(TPo.b (⟨[],0,0,[],[],[],[]⟩:TPo)))] })] [.w g,.ev 0,.pf cz1]<|
 let e:=(d.1.K.E.getD g dF)
.a 11 7 3 (@F_q1a_ok j (⟨4,d.2,(⟨0,[],0,0,0,0,0,0,0,0⟩:TOp),e.B,e.D,0,0⟩:TSt) true) fun f=>
.call (@F_q19_ok f d.2) fun k h=>
.reg 12 [] [(2,hc h [] true),(6,{ obs:=[(3,(TOf.b (⟨0,[],(⟨[],[],[],[]⟩:TBo)⟩:TOf)))] })] [.cl 0 h [] 3 true,.pf z19]<|
.a 13 5 4 (@F_q54_ok k.1 e.B e.D) fun i=>
.ite i.2 (
.a 15 4 5 (@F_q1a_ok f (⟨5,d.2,i.1,[],0,0,0⟩:TSt) false) fun l=>
.c l) (
.c f)
def S_q3_b3 (i:TWo×Int) (e:TWo) (d:Nat) (f:TWo):SC R_q3 (Step TWo R_q3) :=
.reg 20 [] [(2,{ obs:=[(2,(TPo.b (⟨[],0,0,[],[],[],[]⟩:TPo)))] })] [.w d,.ev 0,.pf cz1]<|
 let g:=(e.K.E.getD d dF)
.a 21 7 3 (@F_q1a_ok f (⟨8,i.2,(⟨0,[],0,0,0,0,0,0,0,0⟩:TOp),g.B,g.D,0,0⟩:TSt) true) fun h=>
.c h
def S_q3_b4 (c:TWo×Int):SC R_q3 (Step (TWo×Int) R_q3) :=
.ite (decide (c.2<=c.1.K.O)) (
.range (c.1.K.E.length:Int) c.1.K.E.length rfl (.slot 32) 34 [1,2,4,32,33] (fun (_:TWo)=>[]) (fun f=>[(0,(TWo.b f))]) c.1 (S_q3_b2 c) (fun f => 
.a 17 3 2 (@F_q1a_ok f (⟨6,c.2,(⟨0,[],0,0,0,0,0,0,0,0⟩:TOp),[],0,0,0⟩:TSt) false) fun d=>
.range (d.K.E.length:Int) d.K.E.length rfl (.slot 74) 76 [1,2,4,74,75] (fun (_:TWo)=>[]) (fun e=>[(0,(TWo.b e))]) d (S_q3_b3 c d) (fun e => 
.r (.cont (e,(i64.wrap (c.2+1))))) .ret) .ret) (
.r (.brk (c.1,c.2)))
def S_q3 (h:TWo):SC R_q3 R_q3 :=
 let e:=(⟨(⟨0,[]⟩:TTr),[],[]⟩:TWo)
.reg 0 [] [(1,{ obs:=[(1,(TWo.b e))] })] [.pf cz4]<|
.a 1 1 2 (@F_q0_ok h) fun g=>
.ite (!g) (
.reg 2 [] [(0,hv (TWo.d e))] [.pf cz5]<|
.r (e,1)) (
.iter [1,2] (fun (_:TWo)=>[]) (fun f=>[(0,(TWo.b f))]) h S_q3_b1 (fun f =>
.iter [1,2] (fun (c:TWo×Int)=>[(4,(vi c.2))]) (fun c=>[(0,(TWo.b c.1))]) (f,1) S_q3_b4 (fun c =>
.r (c.1,0)) id) id)
def F_q3 (a:TWo):=(S_q3 a).den
theorem F_q3_ok {a:TWo}:FO (F_q3 a) 26 [(TWo.d a)] [] (fun x=>(Rg [(TWo.d x.1),(vi x.2)])) NL:=fO (s:=S_q3 a) Tryz.func26
def S_q4k (i:TWo) (l:Int):SC (TOf×Int) (TOf×Int) :=
 let c:=(⟨0,[],(⟨[],[],[],[]⟩:TBo)⟩:TOf)
.reg 0 [] [(1,{ obs:=[(1,(TOf.b c))] })] [.pf z19]<|
.a 1 1 2 (@F_qd_ok i) fun j=>
 let f:=(0,hv (TOf.d c))
.ite (!j) (
.reg 2 [] [f] [.pf z1n]<|
.r (c,1)) (
.a 3 4 2 (@F_q1d_ok l 1 (i.J.length:Int)) fun k=>
.ite (!k) (
.reg 4 [] [f] [.pf z1n]<|
.r (c,6)) (
 let e:=(i64.wrap (l-1))
.call (@F_q28_ok (i.J.getD e.toNat dF)) fun g h=>
.guard [(0:Int)<=e,e.toNat<i.J.length]<|
.reg 5 [] [(6,hc h [] true)] [.ev 0,.ev 1,.cl 2 h [] 2 true]<|
.r (g.1,g.2)))
def F_q4k (a:TWo) (b:Int):=(S_q4k a b).den
theorem F_q4k_ok {a:TWo} {b:Int}:FO (F_q4k a b) 27 [(TWo.d a),(vi b)] [] (fun x=>(Rg [(TOf.d x.1),(vi x.2)])) NL:=fO (s:=S_q4k a b) Tryz.func27
def S_q8_b1 (e:TBo) (d:TBo) (c:Nat) (_:Unit):SC Bool (Step Unit Bool) :=
.guard [c<d.C.length]<|
.reg 6 [] [] [.w c,.ev 1,.w c,.ev 0]<|
 let a:=(e.C.getD c dF)
 let b:=(d.C.getD c dF)
.ite (!((a.Q==b.Q)&&((a.B==b.B)&&((a.D==b.D)&&((a.Ab==b.Ab)&&((a.V==b.V)&&((a.Ad==b.Ad)&&true))))))) (
.r (.ret false)) (
.r (.cont ()))
def S_q8_b2 (e:TBo) (d:TBo) (c:Nat) (_:Unit):SC Bool (Step Unit Bool) :=
.guard [c<d.F.length]<|
.reg 12 [] [] [.w c,.ev 1,.w c,.ev 0]<|
 let a:=(e.F.getD c dF)
 let b:=(d.F.getD c dF)
.ite (!((a.Q==b.Q)&&((a.Y==b.Y)&&((a.Ab==b.Ab)&&((a.V==b.V)&&((a.Ad==b.Ad)&&((a.Ah==b.Ah)&&((a.Aj==b.Aj)&&true)))))))) (
.r (.ret false)) (
.r (.cont ()))
def S_q8_b3 (e:TBo) (d:TBo) (a:Nat) (_:Unit):SC Bool (Step Unit Bool) :=
.guard [a<d.I.length]<|
.reg 18 [] [] [.w a,.ev 1,.w a,.ev 0]<|
 let b:=(e.I.getD a dF)
 let c:=(d.I.getD a dF)
.ite (!((b.Q==c.Q)&&((b.Ac==c.Ac)&&((b.Ab==c.Ab)&&((b.V==c.V)&&true))))) (
.r (.ret false)) (
.r (.cont ()))
def S_q8_b4 (e:TBo) (d:TBo) (a:Nat) (_:Unit):SC Bool (Step Unit Bool) :=
.guard [a<d.W.length]<|
.reg 24 [] [] [.w a,.ev 1,.w a,.ev 0]<|
 let b:=(e.W.getD a dF)
 let c:=(d.W.getD a dF)
.ite (!((b.Q==c.Q)&&((b.X==c.X)&&((b.Ak==c.Ak)&&((b.Ab==c.Ab)&&((b.Al==c.Al)&&true)))))) (
.r (.ret false)) (
.r (.cont ()))
def S_q8 (a:TBo) (b:TBo):SC Bool Bool :=
.ite (cO (cO (cO ((a.C.length:Int) != (b.C.length:Int)) ((a.F.length:Int) != (b.F.length:Int))) ((a.I.length:Int) != (b.I.length:Int))) ((a.W.length:Int) != (b.W.length:Int))) (
.r false) (
.guard [a.C.length<2 ^ 63]<|
.range (a.C.length:Int) a.C.length rfl (.why (.ev 0)) 46 [2,3,45] (fun (_:Unit)=>[]) (fun _=>[]) () (S_q8_b1 a b) (fun _ => 
.guard [a.F.length<2 ^ 63]<|
.range (a.F.length:Int) a.F.length rfl (.why (.ev 0)) 64 [2,3,63] (fun (_:Unit)=>[]) (fun _=>[]) () (S_q8_b2 a b) (fun _ => 
.guard [a.I.length<2 ^ 63]<|
.range (a.I.length:Int) a.I.length rfl (.why (.ev 0)) 82 [2,3,81] (fun (_:Unit)=>[]) (fun _=>[]) () (S_q8_b3 a b) (fun _ => 
.guard [a.W.length<2 ^ 63]<|
.range (a.W.length:Int) a.W.length rfl (.why (.ev 0)) 100 [2,3,99] (fun (_:Unit)=>[]) (fun _=>[]) () (S_q8_b4 a b) (fun _ => 
.r true) id) id) id) id)
def F_q8 (a:TBo) (b:TBo):=(S_q8 a b).den
theorem F_q8_ok {a:TBo} {b:TBo}:FO (F_q8 a b) 82 [(TBo.d a),(TBo.d b)] [] vb NL:=fO (s:=S_q8 a b) Tryz.func82
def S_q1b_b1 (e:TOf) (d:TOf) (a:Nat) (_:Unit):SC Bool (Step Unit Bool) :=
.guard [a<d.L.length]<|
.reg 6 [] [] [.w a,.ev 1,.w a,.ev 0]<|
 let b:=(e.L.getD a dF)
 let c:=(d.L.getD a dF)
.ite (!((b.B==c.B)&&((b.D==c.D)&&((b.A==c.A)&&((b.G==c.G)&&((b.S==c.S)&&true)))))) (
.r (.ret false)) (
.r (.cont ()))
def S_q1b (a:TOf) (d:TOf):SC Bool Bool :=
 let b:=(cO (a.Q != d.Q) ((a.L.length:Int) != (d.L.length:Int)))
.calld [b=false] dF (@F_q8_ok a.Ag d.Ag) fun e c =>
.reg 1 [] [(19,hc c [] true)] [.clg 0 [b=false] c [] 2 true]<|
.ite (cO b (!e)) (
.r false) (
.guard [a.L.length<2 ^ 63]<|
.range (a.L.length:Int) a.L.length rfl (.why (.ev 0)) 31 [2,3,30] (fun (_:Unit)=>[]) (fun _=>[]) () (S_q1b_b1 a d) (fun _ => 
.r true) id)
def F_q1b (a:TOf) (b:TOf):=(S_q1b a b).den
theorem F_q1b_ok {a:TOf} {b:TOf}:FO (F_q1b a b) 29 [(TOf.d a),(TOf.d b)] [] vb NL:=fO (s:=S_q1b a b) Tryz.func29
def S_q1_b1 (u:TWo) (v:TSt) (y:(List TSt)) (s:Y8) (t:Int) (p:R_q1t) (c:Nat) (a:TTape×(List TSt)):SC Bool (Step (TTape×(List TSt)) Bool) :=
.call (@F_q2_ok 10 a.1) fun h q=>
.k 8 1 q [2] 5 false<|
.ite (h.1==9) (
.call (@F_q70_ok (a.2.getD (0+c) dF) h.2) fun g j=>
.guard [c<a.2.length,(0+c)<a.2.length]<|
 let f:=(a.2.set (0+c) g.1)
.reg 9 [] [(7,hc j [2] false),(9,{ obs:=[(4,(eS 16 TSt.e f))] })] [.e a.2.length,.w c,.ev 0,.e a.2.length,.ev 1,.cl 2 j [2] 5 false,.e a.2.length,.w c,.ev 0,.e a.2.length,.ev 1,.pf (zo (sz:=16) (e:=TSt.e) (l:=a.2) (i:=(0+c)) (x:=g.1) (fun _=>rfl))]<|
 let m:=[(TWo.b u),(TSt.b v),(TTape.b g.2),Re,(eS 16 TSt.e f)]
 let n:=(86,(vi (p.2.length:Int)))
 let o:=(3,(AV.d (eL TSt.e y)))
.cst (A:=True) (.pf trivial) [o,(4,(AV.d (Rf s))),(6,(vi t)),(8,(vp 0)),(9,(vp 1)),(15,(vp 2)),(16,(Rb 4 a.2.length 0 a.2.length)),n,(87,(vi (c:Int)))] [o,(4,(AV.d (Rf s))),(6,(vi t)),(8,(vp 0)),(9,(vp 1)),(15,(vp 2)),(16,(Rb 4 f.length 0 f.length)),n,(87,(vi (c:Int)))] m m (fun _=>⟨Zb,by rfl⟩)<|
.r (.cont (g.2,f))) (
.r (.cont (h.2,a.2)))
def S_q1_b2 (s:(List TSt)) (t:Int) (p:TTape×(List TSt)) (q:Nat) (h:Nat) (_:Unit):SC Bool (Step Unit Bool) :=
.reg 16 [] [] [.w h,.ev 0]<|
 let i:=(([p.2,s]:List (List TSt)).getD q dF)
 let j:=(([2,t]:List Int).getD h dF)
.call (@F_qi_ok j i) fun d k=>
 let l:=(TWo.b (⟨(⟨0,[]⟩:TTr),[],[]⟩:TWo))
.reg 17 [] [(2,hc k [] true),(7,{ obs:=[(5,l)] })] [.cl 0 k [] 5 true,.pf cz4]<|
.call (@F_q10_ok j i) fun e m=>
.reg 18 [] [(2,hc m [] true),(7,{ obs:=[(6,l)] })] [.cl 0 m [] 6 true,.pf cz4]<|
 let f:=(d.2.2 != e.2.2)
.calld [f=false] dF (@F_q2j_ok d.2.1 e.2.1) fun n a =>
 let g:=(cO f (!n))
.calld [g=false] dF (@F_qa_ok d.1 e.1) fun o c =>
.reg 19 [] [(6,hc a [] true),(12,hc c [] true)] [.clg 2 [f=false] a [] 7 true,.clg 0 [g=false] c [] 7 true]<|
.ite (cO g (!o)) (
.r (.ret false)) (
.r (.cont ()))
def S_q1_b3 (d:(List TSt)) (b:Int) (c:TTape×(List TSt)) (a:Nat) (_:Unit):SC Bool (Step Unit Bool) :=
.reg 13 [] [] [.w a,.ev 0]<|
.reg 14 [] [(1,hv (vl ([2,b]:List Int)))] [.pf (za Ra ([2,b]:List Int))]<|
.range 2 2 rfl (.why (.pf (p:=2<2 ^ 63) dk)) 114 [4,6,8,9,15,16,19,105,106,107,112,113] (fun (_:Unit)=>[]) (fun _=>[]) () (S_q1_b2 d b c a) (fun _ => 
.r (.cont ())) .ret
def S_q1_b4 (j:TWo) (k:Y8) (e:R_q10) (f:R_q3g) (g:Nat) (d:Nat) (_:Unit):SC Bool (Step Unit Bool) :=
.reg 31 [] [] [.w d,.ev 0]<|
 let h:=(([e.1,f.1,j]:List TWo).getD g dF)
 let i:=(([k,[49]]:List Y8).getD d dF)
.a 32 2 7 (@F_q2r_ok h i 12) fun b=>
.a 33 2 7 (@F_q3h_ok h i 12) fun c=>
.ite (cO (cO (cO (b.1 != c.1) (b.2.1 != c.2.1)) (b.2.2.1 != c.2.2.1)) (b.2.2.2 != c.2.2.2)) (
.r (.ret false)) (
.r (.cont ()))
def S_q1_b5 (p:TWo) (q:Int) (i:R_q10) (j:R_q3g) (k:Nat) (a:Nat) (_:Unit):SC Bool (Step Unit Bool) :=
.reg 45 [] [] [.w a,.ev 0]<|
 let l:=(([i.1,j.1,p]:List TWo).getD k dF)
 let m:=(([q,1,3]:List Int).getD a dF)
.call (@F_q4k_ok l m) fun c d=>
 let n:=(TOf.b (⟨0,[],(⟨[],[],[],[]⟩:TBo)⟩:TOf))
.reg 46 [] [(2,hc d [] true),(6,{ obs:=[(11,n)] })] [.cl 0 d [] 11 true,.pf z19]<|
.call (@F_q19_ok l m) fun e f=>
.reg 47 [] [(2,hc f [] true),(6,{ obs:=[(12,n)] })] [.cl 0 f [] 12 true,.pf z19]<|
 let h:=(c.2 != e.2)
.calld [h=false] dF (@F_q1b_ok c.1 e.1) fun o g =>
.reg 48 [] [(6,hc g [] true)] [.clg 0 [h=false] g [] 13 true]<|
.ite (cO h (!o)) (
.r (.ret false)) (
.r (.cont ()))
def S_q1_b6 (F:TWo) (Q:TSt) (R:Y8) (P:Int) (e:R_q10) (f:R_q3g) (c:Nat) (_:Unit):SC Bool (Step Unit Bool) :=
 let g:=(TWo.b (⟨(⟨0,[]⟩:TTr),[],[]⟩:TWo))
.reg 26 [] [(2,{ obs:=[(6,g)] })] [.w c,.ev 0,.pf cz4]<|
 let a:=(([e.1,f.1,F]:List TWo).getD c dF)
.call (@F_qd_ok a) fun G k=>
.call (@F_q0_ok a) fun H l=>
 let h:=(!(G==H))
.calld [h=false] dF (@F_q15_ok a) fun I m =>
.calld [h=false] dF (@F_q1k_ok a) fun J n =>
 let j:=(cO h (!(I==J)))
.calld [j=false] dF (@F_q59_ok a F) fun K o =>
.calld [j=false] dF (@F_qa_ok a F) fun L q =>
.reg 27 [] [(1,hc k [] true),(3,hc l [] true),(7,hc m [] true),(9,hc n [] true),(15,hc o [] true),(18,hc q [] true)] [.cl 9 k [] 7 true,.cl 8 l [] 7 true,.clg 6 [h=false] m [] 7 true,.clg 4 [h=false] n [] 7 true,.clg 2 [j=false] o [] 7 true,.clg 0 [j=false] q [] 7 true]<|
.ite (cO j (!(K==L))) (
.r (.ret false)) (
 let M:=([R,[49]]:List Y8)
.reg 29 [] [(1,hv (AV.d (eL Rf M)))] [.pf (za Rf M)]<|
.range 2 2 rfl (.why (.pf (p:=2<2 ^ 63) dk)) 190 [4,6,8,9,32,160,161,162,188,189] (fun (_:Unit)=>[]) (fun _=>[]) () (S_q1_b4 F R e f c) (fun _ => 
.call (@F_q41_ok a Q) fun s t=>
.reg 37 [] [(2,hc t [] true),(6,{ obs:=[(7,g)] })] [.cl 0 t [] 7 true,.pf cz4]<|
.call (@F_q1s_ok a Q) fun u v=>
.reg 38 [] [(2,hc v [] true),(6,{ obs:=[(8,g)] })] [.cl 0 v [] 8 true,.pf cz4]<|
.call (@F_qe_ok a) fun x y=>
.reg 39 [] [(1,hc y [] true),(5,{ obs:=[(9,g)] })] [.cl 0 y [] 9 true,.pf cz4]<|
.call (@F_q3_ok a) fun z A=>
.reg 40 [] [(1,hc A [] true),(5,{ obs:=[(10,g)] })] [.cl 0 A [] 10 true,.pf cz4]<|
 let D:=(cO (s.2 != u.2) (x.2 != z.2))
.calld [D=false] dF (@F_qa_ok s.1 u.1) fun N B =>
 let E:=(cO D (!N))
.calld [E=false] dF (@F_qa_ok x.1 z.1) fun O C =>
.reg 41 [] [(11,hc B [] true),(17,hc C [] true)] [.clg 2 [D=false] B [] 11 true,.clg 0 [E=false] C [] 11 true]<|
.ite (cO E (!O)) (
.r (.ret false)) (
.reg 43 [] [(1,hv (vl ([P,1,3]:List Int)))] [.pf (za Ra ([P,1,3]:List Int))]<|
.range 3 3 rfl (.why (.pf (p:=3<2 ^ 63) dk)) 274 [4,6,8,9,32,160,161,162,272,273] (fun (_:Unit)=>[]) (fun _=>[]) () (S_q1_b5 F P e f c) (fun _ => 
.r (.cont ())) .ret)) .ret)
def S_q1 (R:(List Int)) (M:TWo) (N:TSt) (O:(List TSt)) (P:Y8) (_:Int) (C:Int):SC Bool Bool :=
.call (@F_qf_ok M) fun f j=>
 let i:=([N]:List TSt)
.calld [(!f)=false] dF (@F_q1c_ok i 1) fun D l =>
 let y:=(cO (!f) (!D))
.calld [y=false] dF (@F_q1c_ok O 12) fun E m =>
.reg 1 [] [(1,hc j [] true),(5,hv (AV.d (eL TSt.e i))),(6,hc l [] true),(11,hc m [] true)] [.cl 4 j [] 2 true,.pf (p:=AllP [(!f)=false]->(LeV (AV.d (DV.sl 1 (listF (DV.b false) [(TSt.e N)]))) (AV.d (eL TSt.e i)))) (fun hg=>za TSt.e i),.clg 2 [(!f)=false] l [] 2 true,.clg 0 [y=false] m [] 2 true]<|
.ite (cO (cO y (!E)) (decide ((P.length:Int)>60))) (
.a 2 0 2 (@F_q1f_ok) fun F=>
.r F) (
.call (@F_q6c_ok R) fun G H=>
.k 3 1 H [] 2 false<|
.call (@F_q1t_ok 2 16 G) fun g Q=>
.k 4 1 Q [2] 3 false<|
.guard [g.2.length<2 ^ 63]<|
.range (g.2.length:Int) g.2.length rfl (.why (.ev 0)) 87 [3,4,6,8,9,15,86] (fun (c:TTape×(List TSt))=>[(16,(Rb 4 c.2.length 0 c.2.length))]) (fun c=>[(2,(TTape.b c.1)),(4,(eS 16 TSt.e c.2))]) (g.1,g.2) (S_q1_b1 M N O P C g) (fun c => 
.guard [c.2.length<2 ^ 63]<|
.frz 4 (.ev 0) none [16] []<|
 let I:=([c.2,O]:List (List TSt))
.reg 11 [] [(2,hv (AV.d (eL (eL TSt.e) I)))] [.pf (za (eL TSt.e) I)]<|
.range 2 2 rfl (.why (.pf (p:=2<2 ^ 63) dk)) 107 [4,6,8,9,15,16,105,106] (fun (_:Unit)=>[]) (fun _=>[]) () (S_q1_b3 O C c) (fun _ => 
.call (@F_q10_ok 2 c.2) fun h n=>
 let z:=(TWo.b (⟨(⟨0,[]⟩:TTr),[],[]⟩:TWo))
.reg 23 [] [(1,hc n [] true),(6,{ obs:=[(5,z)] })] [.cl 0 n [] 5 true,.pf cz4]<|
.call (@F_q3g_ok h.1 c.1) fun o q=>
 let J:=([h.1,o.1,M]:List TWo)
.reg 24 [3] [(3,hc q [2] false),(5,hv (AV.d (eL TWo.e J)))] [.cl 0 q [2] 6 false,.pf (za TWo.e J)]<|
.range 3 3 rfl (.why (.pf (p:=3<2 ^ 63) dk)) 162 [4,6,8,9,160,161] (fun (_:Unit)=>[]) (fun _=>[]) () (S_q1_b6 M N P C h o) (fun _ => 
.call (@F_q13_ok C) fun s t=>
.reg 52 [] [(1,hc t [] true),(5,{ obs:=[(6,z)] })] [.cl 0 t [] 6 true,.pf cz4]<|
.call (@F_q11_ok C) fun u v=>
.reg 53 [] [(1,hc v [] true),(5,{ obs:=[(7,z)] })] [.cl 0 v [] 7 true,.pf cz4]<|
 let A:=(s.2==u.2)
.calld [A=true] dF (@F_qa_ok s.1 u.1) fun K w =>
 let B:=(bif A then K else false)
.calld [B=true] dF (@F_q1f_ok) fun L x =>
.reg 54 [] [(6,hc w [] true),(9,hc x [] true)] [.clg 2 [A=true] w [] 8 true,.clg 0 [B=true] x [] 8 true]<|
.r (bif B then L else false)) id) id) id)
def F_q1 (a:(List Int)) (b:TWo) (c:TSt) (d:(List TSt)) (e:Y8) (f:Int) (g:Int):=(S_q1 a b c d e f g).den
theorem F_q1_ok {a:(List Int)} {b:TWo} {c:TSt} {f:(List TSt)} {g:Y8} {h:Int} {i:Int}:FO (F_q1 a b c f g h i) 3 [(vl a),(TWo.d b),(TSt.d c),(AV.d (eL TSt.e f)),(AV.d (Rf g)),(vi h),(vi i)] [] vb NL:=fO (s:=S_q1 a b c f g h i) Tryz.func3
end
end Go.Proofs.YtkhgaalekilaeaaGreatDoor
