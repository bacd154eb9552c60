/- A part of the proof: what the functions compute, and that their calls return it. No condition. -/
import Derived.Test.YtgbpiaddmclccaaGreatDoorG6
/- What the functions compute, and that their calls return it. No condition. -/
namespace Go.Proofs.YtgbpiaddmclccaaGreatDoor
open Go Go.TA
open Go.IntKind (i64)
noncomputable section
set_option maxRecDepth 100000
def S_q6k (u:TBo) (G:Int) (z:Int):SC (TBo×Int) (TBo×Int) :=
 let g:=(⟨[],[],[],[]⟩:TBo)
 let s:=(TBo.b g)
.reg 0 [] [(1,{ obs:=[(1,s)] })] [.pf z2l]<|
.a 1 1 2 (@F_q27_ok u) fun B=>
 let m:=(0,hv (TBo.d g))
.ite (!B) (
.reg 2 [] [m] [.pf zo]<|
.r (g,1)) (
.a 3 4 2 (@F_qf_ok G 1 (u.H.length:Int)) fun C=>
.ite (!C) (
.reg 4 [] [m] [.pf zo]<|
.r (g,6)) (
.a 5 1 2 (@F_q23_ok z) fun D=>
.ite (!D) (
.reg 6 [] [m] [.pf zo]<|
.r (g,2)) (
 let h:=(i64.wrap (G-1))
.call (@F_q49_ok u (u.H.getD h.toNat dF)) fun E v=>
.guard [(0:Int)<=h,h.toNat<u.H.length]<|
.reg 7 [] [(8,hc v [] true)] [.ev 0,.ev 1,.cl 2 v [] 2 true]<|
.ite (decide (z>E)) (
.reg 8 [] [m] [.pf zo]<|
.r (g,15)) (
.call (@F_q28_ok u) fun c F=>
.k 9 1 F [] 2 false<|
.kill 3<|
.guard [c.1.length<2 ^ 63]<|
.frz 4 (.ev 0) none [] [0]<|
.guard [c.2.2.1.length<2 ^ 63]<|
.frz 6 (.ev 0) none [] [0]<|
.guard [c.2.2.2.length<2 ^ 63]<|
.frz 7 (.ev 0) none [] [0]<|
 let n:=(0+h.toNat)
.guard [h.toNat<c.2.1.length,n<c.2.1.length]<|
 let f:=(c.2.1.getD n dF)
 let w:=(⟨f.S,f.Y,f.Ab,f.V,(i64.wrap (f.Ad+z)),f.Ah,f.Ai⟩:TCo)
 let j:=(c.2.1.set n w)
 let t:=(eS 7 TCo.e j)
.reg 10 [] [(11,{ obs:=[(5,t)] })] [.e c.2.1.length,.ev 7,.ev 0,.e c.2.1.length,.e c.2.1.length,.ev 1,.e c.2.1.length,.ev 7,.ev 0,.e c.2.1.length,.e c.2.1.length,.ev 1,.pf (zk (sz:=7) (e:=TCo.e) (l:=c.2.1) (i:=n) (x:=w) (fun _=>rfl))]<|
 let y:=(AV.d (eL TVe.e c.2.2.1))
 let o:=(AV.d (eL TOr.e c.2.2.2))
 let p:=[(3,(vp 0)),(6,(vp 1))]
 let q:=(AV.d (eL TRe.e c.1))
.cst (A:=True) (.pf trivial) p p [(Rd (Rc [q,(Rb 5 c.2.1.length 0 c.2.1.length),y,o])),s,Re,Re,Re,t,Re,Re] [(Rd (Rc [q,(Rb 5 j.length 0 j.length),y,o])),s,Re,Re,Re,t,Re,Re] (fun _=>⟨Zd,Zb⟩)<|
.guard [j.length<2 ^ 63]<|
.reg 11 [] [] []<|
.frz 5 (.ev 0) none [] [0,1]<|
.r ((⟨c.1,j,c.2.2.1,c.2.2.2⟩:TBo),0)))))
def F_q6k (a:TBo) (b:Int) (c:Int):=(S_q6k a b c).den
theorem F_q6k_ok {a:TBo} {b:Int} {c:Int}:FO (F_q6k a b c) 266 [(TBo.d a),(vi b),(vi c)] [] (fun x=>(Rg [(TBo.d x.1),(vi x.2)])) NL:=fO (s:=S_q6k a b c) Tryz.func266
def S_q2q_b1 (u:Int) (a:R_q28) (c:Nat) (_:Unit):SC (TBo×Int) (Step Unit (TBo×Int)) :=
.reg 9 [] [] [.e a.2.2.2.length,.w c,.ev 0]<|
 let f:=(a.2.2.2.getD (0+c) dF)
 let h:=(f.X==u)
.guard [(0+c)<a.2.2.2.length,AllP [h=true]->((0+c)<a.2.2.2.length)]<|
 let m:=(a.2.2.2.length=a.2.2.2.length)
.reg 10 [] [] [.e a.2.2.2.length,.e a.2.2.2.length,.ev 0,.pf (p:=AllP [h=true]->m) (fun _=>rfl),.pf (p:=AllP [h=true]->m) (fun _=>rfl),.ev 1]<|
.ite (bif h then (!f.Al) else false) (
 let n:=(⟨f.S,f.X,f.Ak,f.Ab,true⟩:TOr)
 let g:=(a.2.2.2.set (0+c) n)
 let k:=(eS 5 TOr.e g)
.reg 11 [] [(3,{ obs:=[(7,k)] })] [.e a.2.2.2.length,.e a.2.2.2.length,.ev 1,.pf (zk (sz:=5) (e:=TOr.e) (l:=a.2.2.2) (i:=(0+c)) (x:=n) (fun _=>rfl))]<|
 let o:=(TBo.b (⟨[],[],[],[]⟩:TBo))
 let q:=(AV.d (eL TVe.e a.2.2.1))
 let s:=(AV.d (eL TCo.e a.2.1))
 let t:=[(2,(vp 0)),(4,(vp 1))]
 let j:=(AV.d (eL TRe.e a.1))
.cst (A:=True) (.pf trivial) t t [(Rd (Rc [j,s,q,(Rb 7 a.2.2.2.length 0 a.2.2.2.length)])),o,Re,Re,Re,Re,Re,k] [(Rd (Rc [j,s,q,(Rb 7 g.length 0 g.length)])),o,Re,Re,Re,Re,Re,k] (fun _=>⟨Zd,Zb⟩)<|
.guard [g.length<2 ^ 63]<|
.reg 12 [] [] []<|
.frz 7 (.ev 0) none [] [0,1]<|
.r (.ret ((⟨a.1,a.2.1,a.2.2.1,g⟩:TBo),0))) (
.r (.cont ()))
def S_q2q (g:TBo) (l:Int):SC (TBo×Int) (TBo×Int) :=
 let e:=(⟨[],[],[],[]⟩:TBo)
.reg 0 [] [(1,{ obs:=[(1,(TBo.b e))] })] [.pf z2l]<|
.a 1 1 2 (@F_q27_ok g) fun h=>
 let f:=(0,hv (TBo.d e))
.ite (!h) (
.reg 2 [] [f] [.pf zo]<|
.r (e,1)) (
.a 3 4 2 (@F_qf_ok l 1 (g.J.length:Int)) fun i=>
.ite (!i) (
.reg 4 [] [f] [.pf zo]<|
.r (e,6)) (
.call (@F_q28_ok g) fun c j=>
.k 5 1 j [] 2 false<|
.kill 3<|
.guard [c.1.length<2 ^ 63]<|
.frz 4 (.ev 0) none [] [0]<|
.guard [c.2.1.length<2 ^ 63]<|
.frz 5 (.ev 0) none [] [0]<|
.guard [c.2.2.1.length<2 ^ 63]<|
.frz 6 (.ev 0) none [] [0]<|
.guard [c.2.2.2.length<2 ^ 63]<|
.range (c.2.2.2.length:Int) c.2.2.2.length rfl (.why (.ev 0)) 26 [1,2,4,25] (fun (_:Unit)=>[]) (fun _=>[]) () (S_q2q_b1 l c) (fun _ => 
.reg 14 [] [f] [.pf zo]<|
.r (e,9)) id))
def F_q2q (a:TBo) (b:Int):=(S_q2q a b).den
theorem F_q2q_ok {a:TBo} {b:Int}:FO (F_q2q a b) 267 [(TBo.d a),(vi b)] [] (fun x=>(Rg [(TBo.d x.1),(vi x.2)])) NL:=fO (s:=S_q2q a b) Tryz.func267
def S_q6l (d:TBo) (c:TOp):SC (TBo×Int) (TBo×Int) :=
.reg 0 [] [(2,{ obs:=[(2,(TBo.b (⟨[],[],[],[]⟩:TBo)))] })] [.pf z2l]<|
.ite (c.U==1) (
.a 3 9 3 (@F_q6f_ok d c.B c.D c.Ab c.V) fun e=>
.r (e.1,e.2)) (
.ite (c.U==2) (
.a 5 11 3 (@F_q6g_ok d c.Of c.Ab c.V c.Ah c.Ai) fun f=>
.r (f.1,f.2)) (
.ite (c.U==3) (
.a 7 7 3 (@F_q6h_ok d c.Of c.Ab c.V) fun g=>
.r (g.1,g.2)) (
.ite (c.U==4) (
.a 9 5 3 (@F_q6i_ok d c.Of c.Ab) fun h=>
.r (h.1,h.2)) (
.ite (c.U==5) (
.a 11 5 3 (@F_q6j_ok d c.Of c.V) fun i=>
.r (i.1,i.2)) (
.ite (c.U==6) (
.a 13 5 3 (@F_q6k_ok d c.Of c.V) fun j=>
.r (j.1,j.2)) (
.a 14 3 3 (@F_q2q_ok d c.Of) fun k=>
.r (k.1,k.2)))))))
def F_q6l (a:TBo) (b:TOp):=(S_q6l a b).den
theorem F_q6l_ok {a:TBo} {b:TOp}:FO (F_q6l a b) 231 [(TBo.d a),(TOp.d b)] [] (fun x=>(Rg [(TBo.d x.1),(vi x.2)])) NL:=fO (s:=S_q6l a b) Tryz.func231
def S_q4b (d:TOf) (e:Y8) (f:Int):SC Int Int :=
.a 1 3 1 (@F_q21_ok d e f) fun b=>
.a 2 9 2 (@F_q1k_ok d.Ag e f) fun c=>
.r (i64.wrap ((i64.wrap (b.A-b.Q))-c))
def F_q4b (a:TOf) (b:Y8) (c:Int):=(S_q4b a b c).den
theorem F_q4b_ok {a:TOf} {b:Y8} {c:Int}:FO (F_q4b a b c) 116 [(TOf.d a),(AV.d (Rf b)),(vi c)] [] vi NL:=fO (s:=S_q4b a b c) Tryz.func116
def S_q3x (g:TOf) (c:TOp):SC (TOf×Int) (TOf×Int) :=
 let h:=(⟨[],[],[],[]⟩:TBo)
 let e:=(⟨0,[],h⟩:TOf)
.reg 0 [] [(2,{ obs:=[(2,(TOf.b e))] })] [.pf z18]<|
.ite (c.U==8) (
.a 3 2 3 (@F_q68_ok g c) fun i=>
.r (i.1,i.2)) (
.ite (c.U==7) (
.a 5 2 3 (@F_q6a_ok g c) fun j=>
.r (j.1,j.2)) (
.call (@F_q6l_ok g.Ag c) fun f k=>
.reg 6 [] [(3,hc k [] true),(7,{ obs:=[(3,(TBo.b h))] })] [.cl 0 k [] 3 true,.pf z2l]<|
 let l:=(0,hv (TOf.d e))
.ite (f.2 != 0) (
.reg 8 [] [l] [.pf z1v]<|
.r (e,f.2)) (
.calld [(c.U==1)=true] dF (@F_q4b_ok g c.B c.D) fun n m =>
.reg 9 [] [(11,hc m [] true)] [.clg 0 [(c.U==1)=true] m [] 4 true]<|
.ite (bif (c.U==1) then (decide (c.V>n)) else false) (
.reg 10 [] [l] [.pf z1v]<|
.r (e,15)) (
.r ((⟨g.S,g.L,f.1⟩:TOf),0)))))
def F_q3x (a:TOf) (b:TOp):=(S_q3x a b).den
theorem F_q3x_ok {a:TOf} {b:TOp}:FO (F_q3x a b) 188 [(TOf.d a),(TOp.d b)] [] (fun x=>(Rg [(TOf.d x.1),(vi x.2)])) NL:=fO (s:=S_q3x a b) Tryz.func188
abbrev R_qv:=TOf×Int×Int
def S_qv_b1 (l:(List TOp)) (e:Nat) (j:TOf):SC R_qv (Step TOf R_qv) :=
.reg 4 [] [] [.w e,.ev 0]<|
.a 5 1 3 (@F_q47_ok (l.getD e dF)) fun k=>
 let f:=(⟨0,[],(⟨[],[],[],[]⟩:TBo)⟩:TOf)
 let g:=(0,hv (TOf.d f))
.ite (!k) (
.reg 6 [] [g] [.pf z1v]<|
.r (.ret (f,(e:Int),4))) (
.call (@F_q3x_ok j (l.getD e dF)) fun h i=>
.reg 7 [] [(2,hc i [] true),(6,{ obs:=[(3,(TOf.b f))] })] [.cl 0 i [] 3 true,.pf z18]<|
.ite (h.2 != 0) (
.reg 9 [] [g] [.pf z1v]<|
.r (.ret (f,(e:Int),9))) (
.c h.1))
def S_qv (h:Int) (g:(List TOp)):SC R_qv R_qv :=
 let e:=(⟨[],[],[],[]⟩:TBo)
 let f:=(TOf.b (⟨0,[],e⟩:TOf))
.reg 0 [] [(0,{ obs:=[(0,f)] })] [.pf z18]<|
 let a:=(⟨h,[],e⟩:TOf)
.reg 1 [] [(1,hv (TOf.d a)),(2,{ obs:=[(1,f)] })] [.pf (p:=LeV (AV.d (DV.agg [(DV.i .i64 h),Z0,(DV.agg [Z0,Z0,Z0,Z0])])) (TOf.d a)) (z2o rfl (DLe.agg (Rh (DLe.refl _) (Rh DLe.sl0 (Rh (DLe.agg (Rh DLe.sl0 (Rh DLe.sl0 (Rh DLe.sl0 (Rh DLe.sl0 DLeL.nil))))) DLeL.nil))))),.pf z18]<|
.range (g.length:Int) g.length rfl (.slot 1) 16 [1,4,7,14,15] (fun (_:TOf)=>[]) (fun c=>[(1,(TOf.b c))]) a (S_qv_b1 g) (fun c => 
.r (c,(g.length:Int),0)) id
def F_qv (a:Int) (b:(List TOp)):=(S_qv a b).den
theorem F_qv_ok {a:Int} {b:(List TOp)}:FO (F_qv a b) 154 [(vi a),(AV.d (eL TOp.e b))] [] (fun x=>(Rg [(TOf.d x.1),(vi x.2.1),(vi x.2.2)])) NL:=fO (s:=S_qv a b) Tryz.func154
def S_q2r (h:TJo):SC (TOf×Int) (TOf×Int) :=
 let c:=(⟨0,[],(⟨[],[],[],[]⟩:TBo)⟩:TOf)
.reg 0 [] [(1,{ obs:=[(1,(TOf.b c))] })] [.pf z18]<|
.a 1 1 2 (@F_q4s_ok h) fun i=>
 let e:=(0,hv (TOf.d c))
.ite (!i) (
.reg 2 [] [e] [.pf z1v]<|
.r (c,1)) (
.call (@F_qv_ok h.Z h.N) fun f g=>
.reg 3 [] [(4,hc g [] true),(9,{ obs:=[(2,(TOf.b c))] })] [.cl 0 g [] 2 true,.pf z18]<|
.ite (f.2.2 != 0) (
.reg 5 [] [e] [.pf z1v]<|
.r (c,1)) (
.r (f.1,0)))
def F_q2r (a:TJo):=(S_q2r a).den
theorem F_q2r_ok {a:TJo}:FO (F_q2r a) 111 [(TJo.d a)] [] (fun x=>(Rg [(TOf.d x.1),(vi x.2)])) NL:=fO (s:=S_q2r a) Tryz.func111
def S_q33 (d:TJo):SC Bool Bool :=
.call (@F_q2r_ok d) fun c a=>
.reg 1 [] [(1,hc a [] true),(5,{ obs:=[(1,(TOf.b (⟨0,[],(⟨[],[],[],[]⟩:TBo)⟩:TOf)))] })] [.cl 0 a [] 1 true,.pf z18]<|
.r (c.2==0)
def F_q33 (a:TJo):=(S_q33 a).den
theorem F_q33_ok {a:TJo}:FO (F_q33 a) 155 [(TJo.d a)] [] vb NL:=fO (s:=S_q33 a) Tryz.func155
def S_q3f (c:TJo):SC (TOf×Int) (TOf×Int) :=
 let f:=(⟨0,[],(⟨[],[],[],[]⟩:TBo)⟩:TOf)
.reg 0 [] [(1,{ obs:=[(1,(TOf.b f))] })] [.pf z18]<|
.a 1 1 2 (@F_q33_ok c) fun j=>
.ite (!j) (
.reg 2 [] [(0,hv (TOf.d f))] [.pf z1v]<|
.r (f,1)) (
 let h:=(c.N.take c.Af.toNat)
.call (@F_qv_ok c.Z h) fun i g=>
.guard [(0:Int)<=c.Af,c.Af.toNat<=c.N.length]<|
.reg 3 [12,13] [(6,hv (AV.d (eL TOp.e h))),(7,hc g [] true),(12,{ obs:=[(2,(TOf.b f))] })] [.ev 0,.ev 1,.der (fun (h0:c.Af.toNat<=c.N.length)=>lvT TOp.e c.N h0) 1,.ev 0,.ev 1,.der (fun (h0:c.Af.toNat<=c.N.length)=>lvT TOp.e c.N h0) 1,.cl 2 g [] 2 true,.cl 2 g [] 3 true,.pf z18]<|
.r (i.1,i.2.2))
def F_q3f (a:TJo):=(S_q3f a).den
theorem F_q3f_ok {a:TJo}:FO (F_q3f a) 112 [(TJo.d a)] [] (fun x=>(Rg [(TOf.d x.1),(vi x.2)])) NL:=fO (s:=S_q3f a) Tryz.func112
theorem zwq:LeV (AV.tup [(AV.full 0 fun _=>DV.b false),(AV.full 0 fun _=>DV.b false),(vb false)]) (AV.tup [(AV.d (eL TOf.e ([]))),(AV.d (eL TOf.e ([]))),(vb false)]):=LeV.tup (LeVs.cons (lvN TOf.e) (LeVs.cons (lvN TOf.e) (LeVs.cons (LeV.refl _) LeVs.nil)))
abbrev R_qc:=(List TOf)×(List TOf)×Bool
def S_qc_b1 (t:TWo) (g:Nat) (a:(List TOf)×(List TOf)):SC R_qc (Step ((List TOf)×(List TOf)) R_qc) :=
.reg 3 [] [(3,{ obs:=[(3,(TJo.b (⟨0,[],0⟩:TJo)))] })] [.w g,.ev 0,.pf cz2]<|
 let i:=(t.K.getD g dF)
.call (@F_q2r_ok i) fun j m=>
 let n:=(TOf.b (⟨0,[],(⟨[],[],[],[]⟩:TBo)⟩:TOf))
.reg 4 [] [(1,hc m [] true),(5,{ obs:=[(4,n)] })] [.cl 0 m [] 4 true,.pf z18]<|
.call (@F_q3f_ok i) fun q s=>
.reg 5 [] [(1,hc s [] true),(5,{ obs:=[(5,n)] })] [.cl 0 s [] 5 true,.pf z18]<|
.ite (cO (cO (i.Z != (i64.wrap ((g:Int)+1))) (j.2 != 0)) (q.2 != 0)) (
.ret [.pf zwq] (.ret ([],[],false))) (
.guard [(a.1.length+1) * (2 * 128)<=2 ^ 48,(a.2.length+1) * (2 * 128)<=2 ^ 48]<|
 let c:=([q.1]:List TOf)
 let f:=([j.1]:List TOf)
.reg 8 [3,7] [(2,hv (AV.d (eL TOf.e f))),(3,{ h:=.obj,cast:=some (Rb 1 ((a.1++f).length) 0 ((a.1++f).length)),obs:=[(1,(eS 6 TOf.e (a.1++f)))] }),(6,hv (AV.d (eL TOf.e c))),(7,{ h:=.obj,cast:=some (Rb 2 ((a.2++c).length) 0 ((a.2++c).length)),obs:=[(2,(eS 6 TOf.e (a.2++c)))] })] [.pf (z9 TOf.e f),.e a.1.length,.e a.1.length,.pf (p:=∀ k,k<1->(TOf.d (f.getD k dF)).wd=6) (fun _ _=>rfl),.ev 0,.pf (zw (o:=1) (l:=a.1) (x:=f)),.pf (zy (sz:=6) (e:=TOf.e) (l:=a.1) (x:=f)),.pf (z9 TOf.e c),.pf (z9 TOf.e c),.e a.2.length,.e a.2.length,.pf (p:=∀ k,k<1->(TOf.d (c.getD k dF)).wd=6) (fun _ _=>rfl),.ev 1,.pf (zw (o:=2) (l:=a.2) (x:=c)),.pf (zy (sz:=6) (e:=TOf.e) (l:=a.2) (x:=c))]<|
.r (.cont ((a.1++f),(a.2++c))))
def S_qc (b:TWo):SC R_qc R_qc :=
.reg 1 [] [] []<|
.bor 6 (fun j=>AV.d (TOf.e (([]:List TOf).getD j dF))) [2]<|
.bor 6 (fun j=>AV.d (TOf.e (([]:List TOf).getD j dF))) [3]<|
.range (b.K.length:Int) b.K.length rfl (.slot 12) 14 [12,13] (fun (a:(List TOf)×(List TOf))=>[(2,(Rb 1 a.1.length 0 a.1.length)),(3,(Rb 2 a.2.length 0 a.2.length))]) (fun a=>[(1,(eS 6 TOf.e a.1)),(2,(eS 6 TOf.e a.2))]) (([]:List TOf),([]:List TOf)) (S_qc_b1 b) (fun a => 
.guard [a.1.length<2 ^ 63]<|
.reg 10 [] [] []<|
.frz 1 (.ev 0) none [2] []<|
.guard [a.2.length<2 ^ 63]<|
.frz 2 (.ev 0) none [3] []<|
.r (a.1,a.2,true)) id
def F_qc (a:TWo):=(S_qc a).den
theorem F_qc_ok {a:TWo}:FO (F_qc a) 55 [(TWo.d a)] [] (fun x=>(Rg [(AV.d (eL TOf.e x.1)),(AV.d (eL TOf.e x.2.1)),(vb x.2.2)])) NL:=fO (s:=S_qc a) Tryz.func55
def S_q7_b1 (i:TTr) (h:TOf) (f:Nat) (_:Unit):SC Bool (Step Unit Bool) :=
.reg 4 [] [] [.w f,.ev 0]<|
 let d:=(h.L.getD f dF)
.call (@F_q2e_ok i d.B d.D) fun a g=>
.reg 5 [] [(5,hc g [] true),(9,{ obs:=[(4,(TPo.b (⟨[],0,0,[],[],[],[]⟩:TPo)))] })] [.cl 0 g [] 4 true,.pf cz1]<|
 let c:=(i64.wrap (h.S-1))
 let e:=(cO (!a.2) (decide (d.A>(a.1.A.getD c.toNat dF))))
.guard [AllP [(!a.2)=false]->((0:Int)<=c),AllP [(!a.2)=false]->(c.toNat<a.1.A.length),AllP [e=false]->((0:Int)<=c),AllP [e=false]->(c.toNat<a.1.F.length)]<|
.reg 6 [] [] [.ev 0,.ev 1,.ev 2,.ev 3]<|
.ite (cO e (decide (d.F>(a.1.F.getD c.toNat dF)))) (
.r (.ret false)) (
.r (.cont ()))
def S_q7_b2 (g:TTr) (h:TOf) (i:TOf) (d:Nat) (_:Unit):SC Bool (Step Unit Bool) :=
.reg 11 [] [(2,{ obs:=[(3,(TPo.b (⟨[],0,0,[],[],[],[]⟩:TPo)))] })] [.w d,.ev 0,.pf cz1]<|
 let a:=(g.E.getD d dF)
.call (@F_q21_ok i a.B a.D) fun f e=>
 let c:=(i64.wrap (h.S-1))
.guard [(0:Int)<=c,c.toNat<a.G.length]<|
.reg 12 [] [(10,hc e [] true)] [.ev 0,.ev 1,.cl 2 e [] 4 true]<|
.ite (decide ((a.G.getD c.toNat dF)>f.Q)) (
.r (.ret false)) (
.r (.cont ()))
def S_q7 (a:TTr) (b:TOf) (c:TOf):SC Bool Bool :=
.range (b.L.length:Int) b.L.length rfl (.slot 18) 20 [3,5,7,18,19] (fun (_:Unit)=>[]) (fun _=>[]) () (S_q7_b1 a b) (fun _ => 
.range (a.E.length:Int) a.E.length rfl (.slot 57) 59 [5,7,57,58] (fun (_:Unit)=>[]) (fun _=>[]) () (S_q7_b2 a b c) (fun _ => 
.r true) id) id
def F_q7 (a:TTr) (b:TOf) (c:TOf):=(S_q7 a b c).den
theorem F_q7_ok {a:TTr} {b:TOf} {c:TOf}:FO (F_q7 a b c) 56 [(TTr.d a),(TOf.d b),(TOf.d c)] [] vb NL:=fO (s:=S_q7 a b c) Tryz.func56
def S_q29 (a:Int) (b:Int) (c:Int):SC Bool Bool :=
.r (bif (decide (a>=b)) then (decide (a<=c)) else false)
def F_q29 (a:Int) (b:Int) (c:Int):=(S_q29 a b c).den
theorem F_q29_ok {a:Int} {b:Int} {c:Int}:FO (F_q29 a b c) 115 [(vi a),(vi b),(vi c)] [] vb NL:=fO (s:=S_q29 a b c) Tryz.func115
def S_q34 (s:TTr) (z:(List TOf)) (a:TMe):SC Bool Bool :=
.call (@F_q2e_ok s a.B a.D) fun e j=>
.reg 1 [] [(5,hc j [] true),(9,{ obs:=[(2,(TPo.b (⟨[],0,0,[],[],[],[]⟩:TPo)))] })] [.cl 0 j [] 2 true,.pf cz1]<|
.ite (!e.2) (
.r false) (
.ite (a.Aa==0) (
.call (@F_q29_ok a.To 1 s.P) fun f k=>
 let d:=(i64.wrap (a.To-1))
.calld [f=true] dF (@F_q29_ok a.A 0 (e.1.A.getD d.toNat dF)) fun t l =>
 let g:=(bif f then t else false)
.calld [g=true] dF (@F_q29_ok a.F 0 (e.1.F.getD d.toNat dF)) fun u m =>
.guard [AllP [f=true]->((0:Int)<=d),AllP [f=true]->(d.toNat<e.1.A.length),AllP [g=true]->((0:Int)<=d),AllP [g=true]->(d.toNat<e.1.F.length)]<|
.reg 5 [] [(4,hc k [] true),(15,hc l [] true),(27,hc m [] true)] [.cl 8 k [] 3 true,.ev 0,.ev 1,.clg 6 [f=true] l [] 3 true,.ev 2,.ev 3,.clg 4 [g=true] m [] 3 true]<|
.r (bif (bif (bif g then u else false) then (a.Q==0) else false) then (a.M==0) else false)) (
.call (@F_q29_ok a.Aa 1 s.P) fun v n=>
 let c:=(bif v then (a.To==0) else false)
 let h:=(i64.wrap (a.Aa-1))
.calld [c=true] dF (@F_q21_ok (z.getD h.toNat dF) a.B a.D) fun w o =>
.calld [c=true] dF (@F_q29_ok a.Q 0 w.Q) fun x p =>
 let i:=(bif c then x else false)
.calld [i=true] dF (@F_q29_ok a.M 0 1000000000000000) fun y q =>
.guard [AllP [c=true]->((0:Int)<=h),AllP [c=true]->(h.toNat<z.length)]<|
.reg 6 [] [(4,hc n [] true),(23,hc o [] true),(25,hc p [] true),(30,hc q [] true)] [.cl 8 n [] 3 true,.ev 0,.ev 1,.clg 6 [c=true] o [] 3 true,.clg 4 [c=true] p [] 3 true,.clg 2 [i=true] q [] 3 true]<|
.r (bif (bif (bif i then y else false) then (a.A==0) else false) then (a.F==0) else false)))
def F_q34 (a:TTr) (b:(List TOf)) (c:TMe):=(S_q34 a b c).den
theorem F_q34_ok {a:TTr} {b:(List TOf)} {c:TMe}:FO (F_q34 a b c) 59 [(TTr.d a),(AV.d (eL TOf.e b)),(TMe.d c)] [] vb NL:=fO (s:=S_q34 a b c) Tryz.func59
def S_q3y (c:TMe) (d:TWo) (e:(List TOf)):SC Bool Bool :=
.a 1 4 3 (@F_q34_ok d.I e c) fun b=>
.r (!b)
def F_q3y (a:TMe) (b:TWo) (c:(List TOf)):=(S_q3y a b c).den
theorem F_q3y_ok {f:TMe} {a:TWo} {c:(List TOf)}:FO (F_q3y f a c) 58 [(TMe.d f),(vp 0),(vp 1)] [(TWo.b a),(bx (eL TOf.e c))] vb (fun _=>[(TWo.b a),(bx (eL TOf.e c))]):=fO (s:=S_q3y f a c) Tryz.func58
def S_qz_b1 (d:(List TMe)) (e:TWo) (f:(List TOf)) (a:Nat) (_:Unit):SC Int (Step Unit Int) :=
.call (@F_q3y_ok (d.getD a dF) e f) fun c b=>
.reg 4 [] [(5,hc b [0,1] true)] [.w a,.ev 1,.cl 0 b [0,1] 2 true]<|
.ite c (
.r (.ret (a:Int))) (
.r (.cont ()))
def S_qz (a:(List TMe)) (b:TWo) (c:(List TOf)):SC Int Int :=
.range (a.length:Int) a.length rfl (.slot 0) 8 [0,1,7] (fun (_:Unit)=>[]) (fun _=>[]) () (S_qz_b1 a b c) (fun _ => 
.r (-1)) id
def F_qz (a:(List TMe)) (b:TWo) (c:(List TOf)):=(S_qz a b c).den
theorem F_qz_ok {f:(List TMe)} {a:TWo} {c:(List TOf)}:FO (F_qz f a c) 114 [(AV.d (eL TMe.e f)),(AV.fn 58 [(vp 0),(vp 1)])] [(TWo.b a),(bx (eL TOf.e c))] vi (fun _=>[(TWo.b a),(bx (eL TOf.e c))]):=fO (s:=S_qz f a c) Tryz.func114
def S_q52 (c:(List TMe)) (d:TWo) (e:(List TOf)):SC Bool Bool :=
.call (@F_qz_ok c d e) fun a b=>
.k 1 2 b [0,1] 2 true<|
.r (decide (a>=0))
def F_q52 (a:(List TMe)) (b:TWo) (c:(List TOf)):=(S_q52 a b c).den
theorem F_q52_ok {f:(List TMe)} {a:TWo} {c:(List TOf)}:FO (F_q52 f a c) 57 [(AV.d (eL TMe.e f)),(AV.fn 58 [(vp 0),(vp 1)])] [(TWo.b a),(bx (eL TOf.e c))] vb (fun _=>[(TWo.b a),(bx (eL TOf.e c))]):=fO (s:=S_q52 f a c) Tryz.func57
end
end Go.Proofs.YtgbpiaddmclccaaGreatDoor
/- What the functions compute,and that their calls return it. No condition. -/
namespace Go.Proofs.YtgbpiaddmclccaaGreatDoor
open Go Go.TA
open Go.IntKind (i64)
noncomputable section
set_option maxRecDepth 100000
theorem zwr:OLe (bx Z0) (bx (eL TOf.e ([]))):=z4o DLe.sl0
def S_qq_b1 (e:TWo) (b:R_qc) (a:Nat) (_:Unit):SC Bool (Step Unit Bool) :=
.call (@F_q7_ok e.I (b.1.getD a dF) (b.2.1.getD a dF)) fun d c=>
.guard [a<b.2.1.length]<|
.reg 9 [] [(10,hc c [] true)] [.w a,.ev 2,.w a,.ev 0,.cl 1 c [] 2 true]<|
.ite (!d) (
.r (.ret false)) (
.r (.cont ()))
def S_qq (c:TWo):SC Bool Bool :=
.a 1 2 1 (@F_qs_ok c.I) fun f=>
.ite (cO (cO (!f) ((c.K.length:Int) != c.I.P)) (decide ((c.O.length:Int)>200))) (
.r false) (
.call (@F_qc_ok c) fun b d=>
.reg 3 [] [(1,hc d [] true),(6,{ obs:=[(1,(bx (eL TOf.e ([]))))] })] [.cl 0 d [] 1 true,.pf zwr]<|
.ite (!b.2.2) (
.r false) (
.range (b.1.length:Int) b.1.length rfl (.slot 3) 36 [1,3,4,35] (fun (_:Unit)=>[]) (fun _=>[]) () (S_qq_b1 c b) (fun _ => 
.call (@F_q52_ok c.O c b.2.1) fun g h=>
.k 12 3 h [0,1] 2 true<|
.r (!g)) id))
def F_qq (a:TWo):=(S_qq a).den
theorem F_qq_ok {a:TWo}:FO (F_qq a) 26 [(TWo.d a)] [] vb NL:=fO (s:=S_qq a) Tryz.func26
abbrev R_q2s:=Int×Int×Int×Int
def S_q2s_b1 (j:(List TOf)) (h:TPo) (d:Nat) (e:Int×Int):SC R_q2s (Step (Int×Int) R_q2s) :=
.reg 3 [] [(2,{ obs:=[(1,(TOf.b (⟨0,[],(⟨[],[],[],[]⟩:TBo)⟩:TOf)))] })] [.w d,.ev 0,.pf z18]<|
.a 4 5 2 (@F_q21_ok (j.getD d dF) h.B h.D) fun f=>
.a 6 11 3 (@F_q4b_ok (j.getD d dF) h.B h.D) fun i=>
 let g:=(i64.wrap (f.A-f.Q))
.c ((i64.wrap (e.1+g)),(i64.wrap (e.2+(i64.wrap (g-i)))))
def S_q2s (c:(List TOf)) (d:TPo):SC R_q2s R_q2s :=
.range (c.length:Int) c.length rfl (.slot 11) 13 [3,11,12] (fun (b:Int×Int)=>[(6,(vi b.1)),(7,(vi b.2))]) (fun _=>[]) (0,0) (S_q2s_b1 c d) (fun b => 
.a 8 3 1 (@F_q39_ok d) fun e=>
.r (d.T,e,b.1,b.2)) id
def F_q2s (a:(List TOf)) (b:TPo):=(S_q2s a b).den
theorem F_q2s_ok {a:(List TOf)} {b:TPo}:FO (F_q2s a b) 60 [(AV.d (eL TOf.e a)),(TPo.d b)] [] (fun x=>(Rg [(vi x.1),(vi x.2.1),(vi x.2.2.1),(vi x.2.2.2)])) NL:=fO (s:=S_q2s a b) Tryz.func60
abbrev R_q35:=Int×Int×Int×Int
def S_q35 (g:TWo) (j:Y8) (k:Int):SC R_q35 R_q35 :=
.call (@F_q2e_ok g.I j k) fun c e=>
.reg 1 [] [(4,hc e [] true),(8,{ obs:=[(1,(TPo.b (⟨[],0,0,[],[],[],[]⟩:TPo)))] })] [.cl 0 e [] 1 true,.pf cz1]<|
.calld [(!c.2)=false] dF (@F_qq_ok g) fun h f =>
.reg 2 [] [(4,hc f [] true)] [.clg 0 [(!c.2)=false] f [] 2 true]<|
.ite (cO (!c.2) (!h)) (
.r (0,0,0,0)) (
.a 4 1 2 (@F_qc_ok g) fun i=>
.a 5 2 2 (@F_q2s_ok i.1 c.1) fun d=>
.r (d.1,d.2.1,d.2.2.1,d.2.2.2))
def F_q35 (a:TWo) (b:Y8) (c:Int):=(S_q35 a b c).den
theorem F_q35_ok {a:TWo} {b:Y8} {c:Int}:FO (F_q35 a b c) 27 [(TWo.d a),(AV.d (Rf b)),(vi c)] [] (fun x=>(Rg [(vi x.1),(vi x.2.1),(vi x.2.2.1),(vi x.2.2.2)])) NL:=fO (s:=S_q35 a b c) Tryz.func27
def S_q6m (h:TWo) (k:Y8) (l:Int):SC (Int×Int) (Int×Int) :=
.call (@F_q2e_ok h.I k l) fun c d=>
.reg 1 [] [(4,hc d [] true),(8,{ obs:=[(1,(TPo.b (⟨[],0,0,[],[],[],[]⟩:TPo)))] })] [.cl 0 d [] 1 true,.pf cz1]<|
.calld [(!c.2)=false] dF (@F_qq_ok h) fun i e =>
.reg 2 [] [(4,hc e [] true)] [.clg 0 [(!c.2)=false] e [] 2 true]<|
.ite (cO (!c.2) (!i)) (
.r (0,0)) (
.a 4 3 2 (@F_q35_ok h k l) fun f=>
.a 5 5 2 (@F_q3a_ok c.1) fun j=>
 let g:=(i64.wrap (f.2.2.2-f.1))
.r ((if 0>g then 0 else g),j))
def F_q6m (a:TWo) (b:Y8) (c:Int):=(S_q6m a b c).den
theorem F_q6m_ok {a:TWo} {b:Y8} {c:Int}:FO (F_q6m a b c) 9 [(TWo.d a),(AV.d (Rf b)),(vi c)] [] (fun x=>(Rg [(vi x.1),(vi x.2)])) NL:=fO (s:=S_q6m a b c) Tryz.func9
abbrev R_q2t:=Int×Int×Int×Int
def S_q2t_b1 (k:TWo) (i:TPo) (d:Nat) (e:Int×Int):SC R_q2t (Step (Int×Int) R_q2t) :=
.reg 4 [] [(2,{ obs:=[(2,(TJo.b (⟨0,[],0⟩:TJo)))] })] [.w d,.ev 0,.pf cz2]<|
.call (@F_q44_ok (k.K.getD d dF)) fun f g=>
.reg 5 [] [(1,hc g [] true),(5,{ obs:=[(3,(TOf.b (⟨0,[],(⟨[],[],[],[]⟩:TBo)⟩:TOf)))] })] [.cl 0 g [] 3 true,.pf z18]<|
.a 6 5 4 (@F_q2j_ok f.1 i.B i.D) fun h=>
.a 8 7 5 (@F_qp_ok f.1.Ag i.B i.D) fun j=>
.c ((i64.wrap (e.1+(i64.wrap (h.A-h.Q)))),(i64.wrap (e.2+j)))
def S_q2t (c:TWo) (d:TPo):SC R_q2t R_q2t :=
.range (c.K.length:Int) c.K.length rfl (.slot 16) 18 [3,16,17] (fun (b:Int×Int)=>[(8,(vi b.1)),(9,(vi b.2))]) (fun _=>[]) (0,0) (S_q2t_b1 c d) (fun b => 
.a 10 3 2 (@F_qu_ok d) fun e=>
.r (d.T,e,b.1,b.2)) id
def F_q2t (a:TWo) (b:TPo):=(S_q2t a b).den
theorem F_q2t_ok {a:TWo} {b:TPo}:FO (F_q2t a b) 67 [(TWo.d a),(TPo.d b)] [] (fun x=>(Rg [(vi x.1),(vi x.2.1),(vi x.2.2.1),(vi x.2.2.2)])) NL:=fO (s:=S_q2t a b) Tryz.func67
abbrev R_q3g:=Int×Int×Int×Int
def S_q3g (g:TWo) (i:Y8) (j:Int):SC R_q3g R_q3g :=
.call (@F_q2y_ok g.I i j) fun c e=>
.reg 1 [] [(4,hc e [] true),(8,{ obs:=[(1,(TPo.b (⟨[],0,0,[],[],[],[]⟩:TPo)))] })] [.cl 0 e [] 1 true,.pf cz1]<|
.calld [(!c.2)=false] dF (@F_q0_ok g) fun h f =>
.reg 2 [] [(4,hc f [] true)] [.clg 0 [(!c.2)=false] f [] 2 true]<|
.ite (cO (!c.2) (!h)) (
.r (0,0,0,0)) (
.a 4 2 2 (@F_q2t_ok g c.1) fun d=>
.r (d.1,d.2.1,d.2.2.1,d.2.2.2))
def F_q3g (a:TWo) (b:Y8) (c:Int):=(S_q3g a b c).den
theorem F_q3g_ok {a:TWo} {b:Y8} {c:Int}:FO (F_q3g a b c) 31 [(TWo.d a),(AV.d (Rf b)),(vi c)] [] (fun x=>(Rg [(vi x.1),(vi x.2.1),(vi x.2.2.1),(vi x.2.2.2)])) NL:=fO (s:=S_q3g a b c) Tryz.func31
def S_q36 (d:TPo):SC Int Int :=
.a 1 1 1 (@F_qu_ok d) fun c=>
 let b:=(i64.wrap (c-d.T))
.r (if b>0 then b else 0)
def F_q36 (a:TPo):=(S_q36 a).den
theorem F_q36_ok {a:TPo}:FO (F_q36 a) 32 [(TPo.d a)] [] vi NL:=fO (s:=S_q36 a) Tryz.func32
def S_q6n (h:TWo) (k:Y8) (l:Int):SC (Int×Int) (Int×Int) :=
.call (@F_q2y_ok h.I k l) fun c d=>
.reg 1 [] [(4,hc d [] true),(8,{ obs:=[(1,(TPo.b (⟨[],0,0,[],[],[],[]⟩:TPo)))] })] [.cl 0 d [] 1 true,.pf cz1]<|
.calld [(!c.2)=false] dF (@F_q0_ok h) fun i e =>
.reg 2 [] [(4,hc e [] true)] [.clg 0 [(!c.2)=false] e [] 2 true]<|
.ite (cO (!c.2) (!i)) (
.r (0,0)) (
.a 4 3 2 (@F_q3g_ok h k l) fun f=>
.a 5 5 2 (@F_q36_ok c.1) fun j=>
 let g:=(i64.wrap (f.2.2.2-f.1))
.r ((if g>0 then g else 0),j))
def F_q6n (a:TWo) (b:Y8) (c:Int):=(S_q6n a b c).den
theorem F_q6n_ok {a:TWo} {b:Y8} {c:Int}:FO (F_q6n a b c) 10 [(TWo.d a),(AV.d (Rf b)),(vi c)] [] (fun x=>(Rg [(vi x.1),(vi x.2)])) NL:=fO (s:=S_q6n a b c) Tryz.func10
def S_q6o (c:TPo):SC Int Int :=
.a 1 3 1 (@F_q39_ok c) fun b=>
.r (i64.wrap (c.T-b))
def F_q6o (a:TPo):=(S_q6o a).den
theorem F_q6o_ok {a:TPo}:FO (F_q6o a) 268 [(TPo.d a)] [] vi NL:=fO (s:=S_q6o a) Tryz.func268
abbrev R_q1l:=Int×(List Int)
def S_q1l_b1 (g:(List Int)) (p0_0:Nat) (p0_1:(List TPo)) (f:(List Int)) (a:Nat) (b:(List Int)):SC R_q1l (Step ((List Int)) R_q1l) :=
.reg 8 [] [] [.w a,.ev 0]<|
.guard [b.length=f.length,a<f.length,(0+a)<b.length]<|
 let d:=(i64.wrap ((b.getD (0+a) dF)+(g.getD a dF)))
.reg 9 [] [(10,{ obs:=[(1,(eQ (b.set (0+a) d)))] })] [.e p0_1.length,.e p0_1.length,.ev 8,.pf (p:=decide (p0_0=p0_0)=true) (y9 rfl),.ev 0,.w a,.ev 1,.ev 0,.ev 2,.ev 0,.w a,.ev 1,.ev 0,.ev 2,.pf (zk (sz:=1) (e:=Ra) (l:=b) (i:=(0+a)) (x:=d) (fun _=>rfl))]<|
.c (b.set (0+a) d)
def S_q1l (q:(List Int)) (p0_0:Nat) (p0_1:(List TPo)) (p0_2:Y8) (p0_3:Int) (p0_4:Int) (b:(List Int)) (c:(List Int)) (f:(List Int)) (h:(List Int)):SC R_q1l R_q1l :=
.a 1 1 5 (@F_q13_ok q) fun l=>
 let m:=(Rb 0 b.length 0 b.length)
.call (lendOk (xs:=[(Rc [(AV.d (Rf p0_2)),(vi p0_3),(vi p0_4),m,(Rb 1 c.length 0 c.length),(Rb 2 f.length 0 f.length),(Rb 3 h.length 0 h.length)])]) (L:=[(eQ b),(eQ c),(eQ f),(eQ h)]) (g:=b.length<2 ^ 63/\c.length<2 ^ 63/\f.length<2 ^ 63/\h.length<2 ^ 63) (@F_q6o_ok (⟨p0_2,p0_3,p0_4,b,c,f,h⟩:TPo)) (fun _=>rfl) (fun hg=>(LendVs.cons (LendS.agg (ys:=[(Rf p0_2),(DV.i .i64 p0_3),(DV.i .i64 p0_4),(eL Ra b),(eL Ra c),(eL Ra f),(eL Ra h)]) (LendL.cons LendV.d (LendL.cons LendV.d (LendL.cons LendV.d (LendL.cons (LendV.ref (sz:=1) (g:=fun j=>Ra (b.getD j dF)) rfl hg.1) (LendL.cons (LendV.ref (sz:=1) (g:=fun j=>Ra (c.getD j dF)) rfl hg.2.1) (LendL.cons (LendV.ref (sz:=1) (g:=fun j=>Ra (f.getD j dF)) rfl hg.2.2.1) (LendL.cons (LendV.ref (sz:=1) (g:=fun j=>Ra (h.getD j dF)) rfl hg.2.2.2) LendL.nil)))))))) LendVs.nil)) (fun _=>FlatV.i)) fun s n=>
.guard [p0_0<p0_1.length]<|
.reg 2 [] [(4,hc n [1,2,3,4] true)] [.e p0_1.length,.ev 0,.pf (p:=decide (p0_0=p0_0)=true) (y9 rfl),.cl 1 n [1,2,3,4] 5 true]<|
.ite (decide (l>s)) (
.r (15,b)) (
.call (lendOk (xs:=[m]) (L:=[(eQ b)]) (g:=b.length<2 ^ 63) (@F_q13_ok b) (fun _=>rfl) (fun hg=>(LendVs.cons (LendS.one rfl rfl rfl (LendV.ref (sz:=1) (g:=fun j=>Ra (b.getD j dF)) rfl hg)) LendVs.nil)) (fun _=>FlatV.i)) fun t o=>
.reg 4 [] [(4,hc o [1] true)] [.e p0_1.length,.e p0_1.length,.ev 2,.pf (p:=decide (p0_0=p0_0)=true) (y9 rfl),.cl 0 o [1] 5 true]<|
.ite (decide ((i64.wrap (t+l))>1000000000000000)) (
.r (3,b)) (
.range (q.length:Int) q.length rfl (.slot 26) 28 [0,26,27] (fun (_:(List Int))=>[]) (fun k=>[(1,(eQ k))]) b (S_q1l_b1 q p0_0 p0_1 b) (fun k => 
.r (0,k)) id))
def F_q1l (a:(List Int)) (p0_0:Nat) (p0_1:(List TPo)) (p0_2:Y8) (p0_3:Int) (p0_4:Int) (b:(List Int)) (c:(List Int)) (d:(List Int)) (e:(List Int)):=(S_q1l a p0_0 p0_1 p0_2 p0_3 p0_4 b c d e).den
theorem F_q1l_ok {g:(List Int)} {p0_0:Nat} {p0_1:(List TPo)} {p0_2:Y8} {p0_3:Int} {p0_4:Int} {f:(List Int)} {a:(List Int)} {b:(List Int)} {c:(List Int)}:FO (F_q1l g p0_0 p0_1 p0_2 p0_3 p0_4 f a b c) 234 [(Ri 0 p0_1.length [.x p0_0 7]),(vl g)] [(opS 7 TPo.e p0_0 (Rc [(AV.d (Rf p0_2)),(vi p0_3),(vi p0_4),(Rb 1 f.length 0 f.length),(Rb 2 a.length 0 a.length),(Rb 3 b.length 0 b.length),(Rb 4 c.length 0 c.length)]) p0_1),(eQ f),(eQ a),(eQ b),(eQ c)] (fun x=>(vi x.1)) (fun x=>[(opS 7 TPo.e p0_0 (Rc [(AV.d (Rf p0_2)),(vi p0_3),(vi p0_4),(Rb 1 f.length 0 f.length),(Rb 2 a.length 0 a.length),(Rb 3 b.length 0 b.length),(Rb 4 c.length 0 c.length)]) p0_1),(eQ x.2),(eQ a),(eQ b),(eQ c)]):=fO (s:=S_q1l g p0_0 p0_1 p0_2 p0_3 p0_4 f a b c) Tryz.func234
abbrev R_q53:=Int×(List Int)
def S_q53 (p0_0:Nat) (p0_1:(List TPo)) (p0_2:Y8) (p0_3:Int) (p0_4:Int) (B:Int) (n:Int) (g:(List Int)) (q:(List Int)) (s:(List Int)) (t:(List Int)):SC R_q53 R_q53 :=
 let b:=(g.length:Int)
.call (@F_qh_ok B 1 b) fun C u=>
.guard [p0_0<p0_1.length]<|
.reg 1 [] [(6,hc u [] true)] [.e p0_1.length,.e p0_1.length,.ev 0,.pf (p:=decide (p0_0=p0_0)=true) (y9 rfl),.cl 1 u [] 7 true]<|
.ite (!C) (
.r (6,g)) (
.a 3 1 7 (@F_qh_ok n 1 1000000000000000) fun D=>
.ite (!D) (
.r (2,g)) (
.guard [b * 8<=2 ^ 47]<|
 let c:=((List.replicate b.toNat (0:Int)).length)
.reg 5 [] [(5,{ cast:=some (Rb 7 c 0 c),obs:=[(7,(eQ (List.replicate b.toNat (0:Int))))] })] [.e p0_1.length,.e p0_1.length,.ev 4,.pf (p:=decide (p0_0=p0_0)=true) (y9 rfl),.pf (nn g.length),.pf (p:=b<=b) (y18 _),.ev 0,.pf (z8n (o:=7) (k:=b.toNat) (z:=(0:Int))),.pf (z8o (sz:=1) (k:=b.toNat) (e:=Ra) (z:=(0:Int)))]<|
 let h:=(i64.wrap (B-1))
 let j:=(0+h.toNat)
.guard [(0:Int)<=h,h.toNat<(List.replicate b.toNat (0:Int)).length,j<(List.replicate b.toNat (0:Int)).length]<|
 let f:=((List.replicate b.toNat (0:Int)).set j n)
 let m:=(eQ f)
.reg 6 [] [(5,{ obs:=[(7,m)] })] [.e c,.ev 0,.ev 1,.e c,.ev 2,.pf (zk (sz:=1) (e:=Ra) (l:=(List.replicate b.toNat (0:Int))) (i:=j) (x:=n) (fun _=>rfl))]<|
 let v:=(Rc [(AV.d (Rf p0_2)),(vi p0_3),(vi p0_4),(Rb 3 g.length 0 g.length),(Rb 4 q.length 0 q.length),(Rb 5 s.length 0 s.length),(Rb 6 t.length 0 t.length)])
 let w:=(0,(Ri 0 p0_1.length [.x p0_0 7]))
.cst (A:=True) (.pf trivial) [w,(5,(Rb 7 c 0 c))] [w,(5,(Rb 7 f.length 0 f.length))] [(opS 7 TPo.e p0_0 v p0_1),(Rd (vi B)),(Rd (vi n)),(eQ g),(eQ q),(eQ s),(eQ t),m] [(opS 7 TPo.e p0_0 v p0_1),(Rd (vi B)),(Rd (vi n)),(eQ g),(eQ q),(eQ s),(eQ t),m] (fun _=>⟨Zb,by rfl⟩)<|
.guard [f.length<2 ^ 63]<|
.frz 7 (.ev 0) none [5] []<|
.call (@F_q1l_ok f p0_0 p0_1 p0_2 p0_3 p0_4 g q s t) fun y E=>
.k 7 2 E [0,3,4,5,6] 8 false<|
.r (y.1,y.2)))
def F_q53 (p0_0:Nat) (p0_1:(List TPo)) (p0_2:Y8) (p0_3:Int) (p0_4:Int) (a:Int) (b:Int) (c:(List Int)) (d:(List Int)) (e:(List Int)) (f:(List Int)):=(S_q53 p0_0 p0_1 p0_2 p0_3 p0_4 a b c d e f).den
theorem F_q53_ok {p0_0:Nat} {p0_1:(List TPo)} {p0_2:Y8} {p0_3:Int} {p0_4:Int} {g:Int} {h:Int} {f:(List Int)} {a:(List Int)} {b:(List Int)} {c:(List Int)}:FO (F_q53 p0_0 p0_1 p0_2 p0_3 p0_4 g h f a b c) 233 [(Ri 0 p0_1.length [.x p0_0 7]),(vp 1),(vp 2)] [(opS 7 TPo.e p0_0 (Rc [(AV.d (Rf p0_2)),(vi p0_3),(vi p0_4),(Rb 3 f.length 0 f.length),(Rb 4 a.length 0 a.length),(Rb 5 b.length 0 b.length),(Rb 6 c.length 0 c.length)]) p0_1),(Rd (vi g)),(Rd (vi h)),(eQ f),(eQ a),(eQ b),(eQ c)] (fun x=>(vi x.1)) (fun x=>[(opS 7 TPo.e p0_0 (Rc [(AV.d (Rf p0_2)),(vi p0_3),(vi p0_4),(Rb 3 f.length 0 f.length),(Rb 4 a.length 0 a.length),(Rb 5 b.length 0 b.length),(Rb 6 c.length 0 c.length)]) p0_1),(Rd (vi g)),(Rd (vi h)),(eQ x.2),(eQ a),(eQ b),(eQ c)]):=fO (s:=S_q53 p0_0 p0_1 p0_2 p0_3 p0_4 g h f a b c) Tryz.func233
def S_q7n (K:TTr) (O:Y8) (Q:Int) (w:Int) (y:Int):SC (TTr×Int) (TTr×Int) :=
.reg 0 [] [(1,{ obs:=[(3,(TTr.b (⟨0,[]⟩:TTr)))] })] [.pf cz4]<|
.a 1 1 4 (@F_qs_ok K) fun L=>
 let z:=(TTr.d (⟨0,[]⟩:TTr))
.ite (!L) (
.reg 2 [] [(0,hv z)] [.pf cz5]<|
.r ((⟨0,[]⟩:TTr),1)) (
.a 3 3 4 (@F_q3j_ok K O Q) fun t=>
.ite (decide (t<0)) (
.reg 5 [] [(0,hv z)] [.pf cz5]<|
.r ((⟨0,[]⟩:TTr),6)) (
 let j:=t.toNat
.call (@F_q1p_ok K j) fun f N=>
.k 6 1 N [] 4 false<|
.kill 5<|
 let c:=(f.2.getD j dF)
.call (@F_q53_ok j f.2 c.B c.D c.T w y c.A c.G c.F c.M) fun g E=>
.guard [(0:Int)<=t,t.toNat<f.2.length]<|
 let v:=(Ri 6 f.2.length [.x j 7])
.reg 7 [] [(4,hv v),(5,hc E [6,0,1,7,8,9,10] false)] [.e f.2.length,.ev 0,.ev 1,.pf (p:=LeV (Ri 6 f.2.length [.x (0+j) 7]) v) z54,.cl 2 E [6,0,1,7,8,9,10] 11 false]<|
.ite (g.1 != 0) (
.reg 9 [] [(0,hv z)] [.pf cz5]<|
.r ((⟨0,[]⟩:TTr),g.1)) (
.reg 10 [] [] []<|
.guard [g.2.length=c.A.length]<|
 let C:=(eQ c.G)
 let n:=(eQ c.F)
 let o:=(eQ c.M)
 let q:=(eQ g.2)
 let s:=(AV.d (Rf c.B))
.cst (A:=g.2.length=c.A.length) (.ev 0) [(8,(vp 3)),(9,(vi 0))] [(8,(vp 3)),(9,(vi 0))] [(Rd (vi w)),(Rd (vi y)),(Rd (Rc [(vi f.1),(Rb 6 f.2.length 0 f.2.length)])),(Rd (Rc [(vi f.1),(Rb 6 f.2.length 0 f.2.length)])),Re,Re,(opS 7 TPo.e j (Rc [s,(vi c.D),(vi c.T),(Rb 7 c.A.length 0 c.A.length),(Rb 8 c.G.length 0 c.G.length),(Rb 9 c.F.length 0 c.F.length),(Rb 10 c.M.length 0 c.M.length)]) f.2),q,C,n,o] [(Rd (vi w)),(Rd (vi y)),(Rd (Rc [(vi f.1),(Rb 6 f.2.length 0 f.2.length)])),(Rd (Rc [(vi f.1),(Rb 6 f.2.length 0 f.2.length)])),Re,Re,(opS 7 TPo.e j (Rc [s,(vi c.D),(vi c.T),(Rb 7 g.2.length 0 g.2.length),(Rb 8 c.G.length 0 c.G.length),(Rb 9 c.F.length 0 c.F.length),(Rb 10 c.M.length 0 c.M.length)]) f.2),q,C,n,o] (fun h=>⟨rfl,by rw[h]⟩)<|
.guard [g.2.length<2 ^ 63/\c.G.length<2 ^ 63/\c.F.length<2 ^ 63/\c.M.length<2 ^ 63]<|
 let H:=(⟨c.B,c.D,c.T,g.2,c.G,c.F,c.M⟩:TPo)
 let l:=(f.2.set j H)
 let m:=(Rc [(vi f.1),(Rb 6 f.2.length 0 f.2.length)])
 let I:=[(Rd (vi w)),(Rd (vi y)),(Rd m),(Rd m),Re,Re,(eS 7 TPo.e l),Re,Re,Re,Re]
 let u:=[(8,(vp 3)),(9,(vi 0))]
.sh (A:=g.2.length<2 ^ 63/\c.G.length<2 ^ 63/\c.F.length<2 ^ 63/\c.M.length<2 ^ 63) (.ev 0) u u [(Rd (vi w)),(Rd (vi y)),(Rd m),(Rd m),Re,Re,(opS 7 TPo.e j (Rc [s,(vi c.D),(vi c.T),(Rb 7 g.2.length 0 g.2.length),(Rb 8 c.G.length 0 c.G.length),(Rb 9 c.F.length 0 c.F.length),(Rb 10 c.M.length 0 c.M.length)]) f.2),q,C,n,o] I (fun h=>z1j oTApiPot (P:=[(Rd (vi w)),(Rd (vi y)),(Rd m),(Rd m),Re,Re]) (D:=[]) rfl (⟨c.B,c.D,c.T,[],[],[],[]⟩:TPo) H h rfl) (z14 _)<|
 let J:=(Rc [(vi f.1),(Rb 6 l.length 0 l.length)])
.cst (A:=True) (.pf trivial) u u I [(Rd (vi w)),(Rd (vi y)),(Rd J),(Rd J),Re,Re,(eS 7 TPo.e l),Re,Re,Re,Re] (fun _=>⟨Zd,Zb⟩)<|
.guard [l.length<2 ^ 63]<|
.frz 6 (.ev 0) none [] [2,3]<|
.r ((⟨f.1,l⟩:TTr),0))))
def F_q7n (a:TTr) (b:Y8) (c:Int) (d:Int) (e:Int):=(S_q7n a b c d e).den
theorem F_q7n_ok {c:TTr} {e:Y8} {f:Int} {a:Int} {b:Int}:FO (F_q7n c e f a b) 89 [(TTr.d c),(AV.d (Rf e)),(vi f),(AV.fn 233 [(vp 0),(vp 1)])] [(Rd (vi a)),(Rd (vi b))] (fun x=>(Rg [(TTr.d x.1),(vi x.2)])) (fun _=>[(Rd (vi a)),(Rd (vi b))]):=fO (s:=S_q7n c e f a b) Tryz.func89
def S_q6p (d:TTr) (e:Int) (f:Y8) (g:Int) (h:Int):SC (TTr×Int) (TTr×Int) :=
.reg 0 [] [(3,{ obs:=[(3,(TTr.b (⟨0,[]⟩:TTr)))] })] [.pf cz4]<|
.call (@F_q7n_ok d f g e h) fun a c=>
.k 1 4 c [1,2] 4 true<|
.r (a.1,a.2)
def F_q6p (a:TTr) (b:Int) (c:Y8) (d:Int) (e:Int):=(S_q6p a b c d e).den
theorem F_q6p_ok {a:TTr} {b:Int} {c:Y8} {e:Int} {f:Int}:FO (F_q6p a b c e f) 201 [(TTr.d a),(vi b),(AV.d (Rf c)),(vi e),(vi f)] [] (fun x=>(Rg [(TTr.d x.1),(vi x.2)])) NL:=fO (s:=S_q6p a b c e f) Tryz.func201
def S_q4c (a:TWo) (j:TMe) (t:Int):SC (TWo×Int) (TWo×Int) :=
 let m:=(⟨(⟨0,[]⟩:TTr),[],[]⟩:TWo)
 let n:=(TWo.b m)
.reg 0 [] [(2,{ obs:=[(2,n)] })] [.pf cz9]<|
 let q:=(0,hv (TWo.d m))
.ite (t != 0) (
.reg 2 [] [q] [.pf z25]<|
.r (m,t)) (
.ite ((a.O.length:Int)==200) (
.reg 4 [] [q] [.pf z25]<|
.r (m,3)) (
 let c:=(i64.wrap ((a.O.length:Int)+1))
.guard [(0:Int)<=c,c * 72<=2 ^ 47]<|
 let g:=(⟨0,0,[],0,0,0,0,0⟩:TMe)
 let f:=((List.replicate c.toNat (g:TMe)).length)
.reg 5 [] [(4,{ cast:=some (Rb 3 f 0 f),obs:=[(3,(eS 8 TMe.e (List.replicate c.toNat (g:TMe))))] })] [.ev 0,.pf (p:=c<=c) (y18 _),.ev 1,.pf (z8n (o:=3) (k:=c.toNat) (z:=(g:TMe))),.pf (z8o (sz:=8) (k:=c.toNat) (e:=TMe.e) (z:=(g:TMe)))]<|
 let h:=(0+(min a.O.length f))
.guard [(min a.O.length f)<(List.replicate c.toNat (g:TMe)).length,h<(copyL (List.replicate c.toNat (g:TMe)) 0 (min a.O.length f) (fun i=>(a.O.getD i dF))).length]<|
.reg 6 [4,7] [(4,{ obs:=[(3,(eS 8 TMe.e (copyL (List.replicate ((i64.wrap ((a.O.length:Int)+1)).toNat) ((⟨0,0,[],0,0,0,0,0⟩:TMe):TMe)) 0 (min a.O.length ((List.replicate ((i64.wrap ((a.O.length:Int)+1)).toNat) ((⟨0,0,[],0,0,0,0,0⟩:TMe):TMe)).length)) (fun i=>(a.O.getD i dF)))))] }),(7,{ obs:=[(3,(eS 8 TMe.e ((copyL (List.replicate ((i64.wrap ((a.O.length:Int)+1)).toNat) ((⟨0,0,[],0,0,0,0,0⟩:TMe):TMe)) 0 (min a.O.length ((List.replicate ((i64.wrap ((a.O.length:Int)+1)).toNat) ((⟨0,0,[],0,0,0,0,0⟩:TMe):TMe)).length)) (fun i=>(a.O.getD i dF))).set (0+(min a.O.length ((List.replicate ((i64.wrap ((a.O.length:Int)+1)).toNat) ((⟨0,0,[],0,0,0,0,0⟩:TMe):TMe)).length))) j)))] })] [.pf (y2d ((List.replicate ((i64.wrap ((a.O.length:Int)+1)).toNat) ((⟨0,0,[],0,0,0,0,0⟩:TMe):TMe)).length)),.pf (p:=∀ k,k<a.O.length->(TMe.d (a.O.getD k dF)).wd=8) (fun _ _=>rfl),.pf (z9i (sz:=8) (e:=TMe.e) (l:=(List.replicate ((i64.wrap ((a.O.length:Int)+1)).toNat) ((⟨0,0,[],0,0,0,0,0⟩:TMe):TMe))) (off:=0) (k:=(min a.O.length ((List.replicate ((i64.wrap ((a.O.length:Int)+1)).toNat) ((⟨0,0,[],0,0,0,0,0⟩:TMe):TMe)).length))) (s:=(fun i=>(a.O.getD i dF)))),.pf (p:=(copyL (List.replicate ((i64.wrap ((a.O.length:Int)+1)).toNat) ((⟨0,0,[],0,0,0,0,0⟩:TMe):TMe)) 0 (min a.O.length ((List.replicate ((i64.wrap ((a.O.length:Int)+1)).toNat) ((⟨0,0,[],0,0,0,0,0⟩:TMe):TMe)).length)) (fun i=>(a.O.getD i dF))).length=(List.replicate ((i64.wrap ((a.O.length:Int)+1)).toNat) ((⟨0,0,[],0,0,0,0,0⟩:TMe):TMe)).length) (by simp only[zp]),.pf (nn (min a.O.length ((List.replicate ((i64.wrap ((a.O.length:Int)+1)).toNat) ((⟨0,0,[],0,0,0,0,0⟩:TMe):TMe)).length))),.ev 0,.pf (p:=(copyL (List.replicate ((i64.wrap ((a.O.length:Int)+1)).toNat) ((⟨0,0,[],0,0,0,0,0⟩:TMe):TMe)) 0 (min a.O.length ((List.replicate ((i64.wrap ((a.O.length:Int)+1)).toNat) ((⟨0,0,[],0,0,0,0,0⟩:TMe):TMe)).length)) (fun i=>(a.O.getD i dF))).length=(List.replicate ((i64.wrap ((a.O.length:Int)+1)).toNat) ((⟨0,0,[],0,0,0,0,0⟩:TMe):TMe)).length) (by simp only[zp]),.ev 1,.pf (zk (sz:=8) (e:=TMe.e) (l:=(copyL (List.replicate ((i64.wrap ((a.O.length:Int)+1)).toNat) ((⟨0,0,[],0,0,0,0,0⟩:TMe):TMe)) 0 (min a.O.length ((List.replicate ((i64.wrap ((a.O.length:Int)+1)).toNat) ((⟨0,0,[],0,0,0,0,0⟩:TMe):TMe)).length)) (fun i=>(a.O.getD i dF)))) (i:=(0+(min a.O.length ((List.replicate ((i64.wrap ((a.O.length:Int)+1)).toNat) ((⟨0,0,[],0,0,0,0,0⟩:TMe):TMe)).length)))) (x:=j) (fun _=>rfl))]<|
.cst (A:=True) (.pf trivial) [(3,(vp 0)),(6,(vp 2)),(8,(Rb 3 f 0 f))] [(3,(vp 0)),(6,(vp 2)),(8,(Rb 3 (((copyL (List.replicate c.toNat (g:TMe)) 0 (min a.O.length f) (fun i=>(a.O.getD i dF))).set h j).length) 0 (((copyL (List.replicate c.toNat (g:TMe)) 0 (min a.O.length f) (fun i=>(a.O.getD i dF))).set h j).length)))] [(TWo.b a),(TMe.b j),n,(eS 8 TMe.e ((copyL (List.replicate c.toNat (g:TMe)) 0 (min a.O.length f) (fun i=>(a.O.getD i dF))).set h j))] [(TWo.b a),(TMe.b j),n,(eS 8 TMe.e ((copyL (List.replicate c.toNat (g:TMe)) 0 (min a.O.length f) (fun i=>(a.O.getD i dF))).set h j))] (fun _=>⟨by simp +zetaDelta only[yh,zp],by rfl⟩)<|
.guard [((copyL (List.replicate c.toNat (g:TMe)) 0 (min a.O.length f) (fun i=>(a.O.getD i dF))).set h j).length<2 ^ 63]<|
.reg 8 [] [] []<|
.frz 3 (.ev 0) none [] [0,2]<|
.r ((⟨a.I,a.K,((copyL (List.replicate c.toNat (g:TMe)) 0 (min a.O.length f) (fun i=>(a.O.getD i dF))).set h j)⟩:TWo),0)))
def F_q4c (a:TWo) (b:TMe) (c:Int):=(S_q4c a b c).den
theorem F_q4c_ok {a:TWo} {b:TMe} {c:Int}:FO (F_q4c a b c) 202 [(TWo.d a),(TMe.d b),(vi c)] [] (fun x=>(Rg [(TWo.d x.1),(vi x.2)])) NL:=fO (s:=S_q4c a b c) Tryz.func202
def S_q6q (f:TWo) (c:TSt):SC (TWo×Int) (TWo×Int) :=
 let g:=(⟨(⟨0,[]⟩:TTr),[],[]⟩:TWo)
.reg 0 [] [(2,{ obs:=[(2,(TWo.b g))] })] [.pf cz9]<|
.cut (some 0) [2,4] (fun (e:TWo×Int)=>[(6,(vi e.2))]) (fun e=>[(0,(TWo.b e.1))]) (
.ite (c.U==1) (
.a 6 8 3 (@F_q4g_ok f.I c.B c.D c.V) fun h=>
.r (.next ((⟨h.1,f.K,f.O⟩:TWo),h.2))) (
.ite (c.U==2) (
.a 8 10 3 (@F_q6p_ok f.I c.Z c.B c.D c.V) fun i=>
.r (.next ((⟨i.1,f.K,f.O⟩:TWo),i.2))) (
.ite (c.U==3) (
.a 10 10 3 (@F_q4i_ok f.I c.Z c.B c.D c.V) fun j=>
.r (.next ((⟨j.1,f.K,f.O⟩:TWo),j.2))) (
.a 3 8 3 (@F_q4j_ok f.I c.Z c.B c.D) fun k=>
.a 4 3 4 (@F_q4c_ok f k.1 k.2) fun l=>
.r (.ret (l.1,l.2)))))) fun e=>
.ite (e.2 != 0) (
.reg 12 [] [(0,hv (TWo.d g))] [.pf z25]<|
.r (g,e.2)) (
.r (e.1,0))
def F_q6q (a:TWo) (b:TSt):=(S_q6q a b).den
theorem F_q6q_ok {a:TWo} {b:TSt}:FO (F_q6q a b) 170 [(TWo.d a),(TSt.d b)] [] (fun x=>(Rg [(TWo.d x.1),(vi x.2)])) NL:=fO (s:=S_q6q a b) Tryz.func170
def S_q6r (a:(List TOp)):SC (List TOp) (List TOp) :=
.reg 0 [] [] []<|
.nils 0 (
.guard [a.length * (2 * 88)<=2 ^ 48]<|
.reg 1 [] [] []<|
.lev 0 (AV.d (eL TOp.e a)) (.pf (lvQ true a.length fun j=>(TOp.e (a.getD j dF))))<|
.br true (.pf (p:=true=true) rfl)<|
.reg 2 [] [] []<|
.bor 10 (fun j=>AV.d (TOp.e (a.getD j dF))) [2]<|
.cst (A:=a.length=0) (.ev 1) [(2,Rb 0 0 0 0)] [(2,(Rb 0 a.length 0 a.length))] [(Ob.seq 10 0 fun j=>AV.d (TOp.e (a.getD j dF)))] [(eS 10 TOp.e a)] (fun h=>⟨by rw[h],by unfold eS; rw[h]⟩)<|
.r a) (
.reg 1 [] [] []<|
.lev 0 (AV.d (eL TOp.e a)) (.pf (lvQ false a.length fun j=>(TOp.e (a.getD j dF))))<|
.br false (.pf (p:=false=false) rfl)<|
.guard [a.length * (2 * 88)<=2 ^ 48]<|
.reg 3 [] [(2,{ h:=.obj })] [.pf (p:=∀ k,k<a.length->(TOp.d (a.getD k dF)).wd=10) (fun _ _=>rfl),.ev 0]<|
.r a)
def F_q6r (a:(List TOp)):=(S_q6r a).den
theorem F_q6r_ok {a:(List TOp)}:FO (F_q6r a) 127 [(AV.d (eL TOp.e a))] [] (fun x=>(Rb 0 x.length 0 x.length)) (fun x=>[(eS 10 TOp.e x)]):=fO (s:=S_q6r a) Tryz.func127
abbrev R_q7o:=Int×Int×(List TOp)
def S_q7o (a:TJo):SC R_q7o R_q7o :=
.reg 0 [] [(1,{ obs:=[(1,(TJo.b (⟨0,[],0⟩:TJo)))] })] [.pf cz2]<|
.call (@F_q6r_ok a.N) fun c d=>
.k 1 2 d [] 2 false<|
.reg 2 [] [] []<|
.kill 0<|
.r (a.Z,a.Af,c)
def F_q7o (a:TJo):=(S_q7o a).den
theorem F_q7o_ok {a:TJo}:FO (F_q7o a) 235 [(TJo.d a)] [] (fun x=>(Rc [(vi x.1),(Rb 2 x.2.2.length 0 x.2.2.length),(vi x.2.1)])) (fun x=>[Re,(Rd (Rc [(vi x.1),(Rb 2 x.2.2.length 0 x.2.2.length),(vi x.2.1)])),(eS 10 TOp.e x.2.2)]):=fO (s:=S_q7o a) Tryz.func235
end
end Go.Proofs.YtgbpiaddmclccaaGreatDoor
/- What the functions compute,and that their calls return it. No condition. -/
namespace Go.Proofs.YtgbpiaddmclccaaGreatDoor
open Go Go.TA
open Go.IntKind (i64)
noncomputable section
set_option maxRecDepth 100000
def S_q54 (t:TJo) (u:TOp):SC (TJo×Int) (TJo×Int) :=
 let f:=(⟨0,[],0⟩:TJo)
.reg 0 [] [(2,{ obs:=[(2,(TJo.b f))] })] [.pf cz2]<|
.call (@F_q2r_ok t) fun h j=>
 let m:=(TOf.b (⟨0,[],(⟨[],[],[],[]⟩:TBo)⟩:TOf))
.reg 1 [] [(1,hc j [] true),(5,{ obs:=[(3,m)] })] [.cl 0 j [] 3 true,.pf z18]<|
.calld [(h.2 != 0)=false] dF (@F_q47_ok u) fun v n =>
.reg 2 [] [(4,hc n [] true)] [.clg 0 [(h.2 != 0)=false] n [] 4 true]<|
 let i:=(0,hv (TJo.d f))
.ite (cO (h.2 != 0) (!v)) (
.reg 3 [] [i] [.pf zfd]<|
.r (f,1)) (
.call (@F_q3x_ok h.1 u) fun q s=>
.reg 4 [] [(2,hc s [] true),(6,{ obs:=[(4,m)] })] [.cl 0 s [] 4 true,.pf z18]<|
.ite (q.2 != 0) (
.reg 6 [] [i] [.pf zfd]<|
.r (f,q.2)) (
.ite ((t.N.length:Int)==400) (
.reg 8 [] [i] [.pf zfd]<|
.r (f,3)) (
.call (@F_q7o_ok t) fun a w=>
.k 9 1 w [] 5 false<|
.kill 6<|
.guard [(a.2.2.length+1) * (2 * 88)<=2 ^ 48]<|
 let c:=([u]:List TOp)
 let g:=(a.2.2++c)
.reg 10 [] [(3,hv (AV.d (eL TOp.e c))),(4,{ cast:=some (Rb 7 g.length 0 g.length),obs:=[(7,(eS 10 TOp.e g))] })] [.pf (z9 TOp.e c),.e a.2.2.length,.e a.2.2.length,.pf (p:=∀ k,k<1->(TOp.d (c.getD k dF)).wd=10) (fun _ _=>rfl),.ev 0,.pf (zw (o:=7) (l:=a.2.2) (x:=c)),.pf (zy (sz:=10) (e:=TOp.e) (l:=a.2.2) (x:=c))]<|
.guard [g.length<2 ^ 63]<|
.reg 11 [] [] []<|
.frz 7 (.ev 0) none [] [0,2]<|
.r ((⟨a.1,g,a.2.1⟩:TJo),0))))
def F_q54 (a:TJo) (b:TOp):=(S_q54 a b).den
theorem F_q54_ok {a:TJo} {b:TOp}:FO (F_q54 a b) 203 [(TJo.d a),(TOp.d b)] [] (fun x=>(Rg [(TJo.d x.1),(vi x.2)])) NL:=fO (s:=S_q54 a b) Tryz.func203
def S_q6s (a:(List TJo)):SC (List TJo) (List TJo) :=
.reg 0 [] [] []<|
.nils 0 (
.guard [a.length * (2 * 40)<=2 ^ 48]<|
.reg 1 [] [] []<|
.lev 0 (AV.d (eL TJo.e a)) (.pf (lvQ true a.length fun j=>(TJo.e (a.getD j dF))))<|
.br true (.pf (p:=true=true) rfl)<|
.reg 2 [] [] []<|
.bor 3 (fun j=>AV.d (TJo.e (a.getD j dF))) [2]<|
.cst (A:=a.length=0) (.ev 1) [(2,Rb 0 0 0 0)] [(2,(Rb 0 a.length 0 a.length))] [(Ob.seq 3 0 fun j=>AV.d (TJo.e (a.getD j dF)))] [(eS 3 TJo.e a)] (fun h=>⟨by rw[h],by unfold eS; rw[h]⟩)<|
.r a) (
.reg 1 [] [] []<|
.lev 0 (AV.d (eL TJo.e a)) (.pf (lvQ false a.length fun j=>(TJo.e (a.getD j dF))))<|
.br false (.pf (p:=false=false) rfl)<|
.guard [a.length * (2 * 40)<=2 ^ 48]<|
.reg 3 [] [(2,{ h:=.obj })] [.pf (p:=∀ k,k<a.length->(TJo.d (a.getD k dF)).wd=3) (fun _ _=>rfl),.ev 0]<|
.r a)
def F_q6s (a:(List TJo)):=(S_q6s a).den
theorem F_q6s_ok {a:(List TJo)}:FO (F_q6s a) 236 [(AV.d (eL TJo.e a))] [] (fun x=>(Rb 0 x.length 0 x.length)) (fun x=>[(eS 3 TJo.e x)]):=fO (s:=S_q6s a) Tryz.func236
def S_q3z (f:TWo) (o:TJo) (s:Int):SC (TWo×Int) (TWo×Int) :=
 let g:=(⟨(⟨0,[]⟩:TTr),[],[]⟩:TWo)
 let h:=(TWo.b g)
.reg 0 [] [(2,{ obs:=[(2,h)] })] [.pf cz9]<|
.ite (s != 0) (
.reg 2 [] [(0,hv (TWo.d g))] [.pf z25]<|
.r (g,s)) (
.call (@F_q6s_ok f.K) fun a q=>
.k 3 2 q [] 3 false<|
 let j:=(i64.wrap (o.Z-1))
 let m:=(0+j.toNat)
.guard [(0:Int)<=j,j.toNat<a.length,m<a.length]<|
 let c:=(a.set m o)
 let n:=(eS 3 TJo.e c)
.reg 4 [] [(7,{ obs:=[(3,n)] })] [.e a.length,.ev 0,.ev 1,.e a.length,.ev 2,.pf (zk (sz:=3) (e:=TJo.e) (l:=a) (i:=m) (x:=o) (fun _=>rfl))]<|
 let p:=[(3,(vp 0)),(6,(vp 2))]
.cst (A:=True) (.pf trivial) p p [(Rd (Rc [(TTr.d f.I),(Rb 3 a.length 0 a.length),(AV.d (eL TMe.e f.O))])),(TJo.b o),h,n] [(Rd (Rc [(TTr.d f.I),(Rb 3 c.length 0 c.length),(AV.d (eL TMe.e f.O))])),(TJo.b o),h,n] (fun _=>⟨Zd,Zb⟩)<|
.guard [c.length<2 ^ 63]<|
.reg 5 [] [] []<|
.frz 3 (.ev 0) none [] [0,2]<|
.r ((⟨f.I,c,f.O⟩:TWo),0))
def F_q3z (a:TWo) (b:TJo) (c:Int):=(S_q3z a b c).den
theorem F_q3z_ok {a:TWo} {b:TJo} {c:Int}:FO (F_q3z a b c) 204 [(TWo.d a),(TJo.d b),(vi c)] [] (fun x=>(Rg [(TWo.d x.1),(vi x.2)])) NL:=fO (s:=S_q3z a b c) Tryz.func204
def S_q55 (a:(List TOp)):SC (List TOp) (List TOp) :=
.reg 0 [] [] []<|
 let b:=(AV.d (eL TOp.e a))
.nils 0 (
.guard [(0+a.length) * (2 * 88)<=2 ^ 48]<|
.reg 1 [] [] []<|
.lev 0 b (.pf (lvQ true a.length fun j=>(TOp.e (a.getD j dF))))<|
.br true (.pf (p:=true=true) rfl)<|
.reg 2 [] [] []<|
.lev 2 b (.der (fun (h:a.length=0)=>lvZ TOp.e a h) 1)<|
.r a) (
.reg 1 [] [] []<|
.lev 0 b (.pf (lvQ false a.length fun j=>(TOp.e (a.getD j dF))))<|
.br false (.pf (p:=false=false) rfl)<|
.guard [(0+a.length) * (2 * 88)<=2 ^ 48]<|
.reg 3 [] [(2,hv b)] [.pf (p:=∀ k,k<a.length->AV.d (TOp.e (a.getD k dF))=AV.d (TOp.e (a.getD k dF))/\(TOp.e (a.getD k dF)).wd=10) (fun _ _=>⟨rfl,rfl⟩),.pf zvk,.ev 0,.pf (z3o (e:=TOp.e) (x:=a))]<|
.r a)
def F_q55 (a:(List TOp)):=(S_q55 a).den
theorem F_q55_ok {a:(List TOp)}:FO (F_q55 a) 127 [(AV.d (eL TOp.e a))] [] (fun x=>(AV.d (eL TOp.e x))) NL:=fO (s:=S_q55 a) Tryz.func127
def S_q4d (c:TJo):SC TJo TJo :=
.reg 0 [] [(1,{ obs:=[(1,(TJo.b (⟨0,[],0⟩:TJo)))] })] [.pf cz2]<|
.a 1 2 2 (@F_q55_ok c.N) fun d=>
.r (⟨c.Z,d,c.Af⟩:TJo)
def F_q4d (a:TJo):=(S_q4d a).den
theorem F_q4d_ok {a:TJo}:FO (F_q4d a) 235 [(TJo.d a)] [] (fun x=>(TJo.d x)) NL:=fO (s:=S_q4d a) Tryz.func235
def S_q6t (d:TJo):SC TJo TJo :=
.reg 0 [] [(1,{ obs:=[(1,(TJo.b (⟨0,[],0⟩:TJo)))] })] [.pf cz2]<|
.a 1 1 2 (@F_q33_ok d) fun e=>
.cut none [1,2] (fun (_:TJo)=>[]) (fun c=>[(0,(TJo.b c))]) (
.ite e (
.r (.next (⟨d.Z,d.N,(d.N.length:Int)⟩:TJo))) (
.r (.next d))) fun c=>
.a 3 1 2 (@F_q4d_ok c) fun f=>
.r f
def F_q6t (a:TJo):=(S_q6t a).den
theorem F_q6t_ok {a:TJo}:FO (F_q6t a) 205 [(TJo.d a)] [] (fun x=>(TJo.d x)) NL:=fO (s:=S_q6t a) Tryz.func205
def S_q6u (c:TJo):SC TJo TJo :=
.reg 0 [] [(1,{ obs:=[(1,(TJo.b (⟨0,[],0⟩:TJo)))] })] [.pf cz2]<|
.a 1 1 2 (@F_q33_ok c) fun h=>
.cut none [1,2] (fun (_:TJo)=>[]) (fun f=>[(0,(TJo.b f))]) (
.ite h (
.guard [(0:Int)<=c.Af,c.Af.toNat<=c.N.length]<|
 let g:=(c.N.take c.Af.toNat)
.reg 2 [] [(4,hv (AV.d (eL TOp.e g)))] [.ev 0,.ev 1,.der (fun (h0:c.Af.toNat<=c.N.length)=>lvT TOp.e c.N h0) 1]<|
.r (.next (⟨c.Z,g,c.Af⟩:TJo))) (
.r (.next c))) fun f=>
.a 3 1 2 (@F_q4d_ok f) fun i=>
.r i
def F_q6u (a:TJo):=(S_q6u a).den
theorem F_q6u_ok {a:TJo}:FO (F_q6u a) 206 [(TJo.d a)] [] (fun x=>(TJo.d x)) NL:=fO (s:=S_q6u a) Tryz.func206
def S_qw_b1 (h:TOf) (c:Nat) (_:Unit):SC Bool (Step Unit Bool) :=
.reg 5 [] [] [.w c,.ev 0]<|
 let e:=(h.L.getD c dF)
.call (@F_q3r_ok e) fun a f=>
 let b:=(decide ((c:Int)>0))
 let d:=(i64.wrap ((c:Int)-1))
.calld [b=true,(!a)=false] dF (@F_q3s_ok (h.L.getD d.toNat dF) e) fun i g =>
.guard [AllP [b=true,(!a)=false]->((0:Int)<=d),AllP [b=true,(!a)=false]->(d.toNat<h.L.length)]<|
.reg 6 [] [(1,hc f [] true),(14,hc g [] true)] [.cl 4 f [] 2 true,.ev 0,.ev 1,.clg 2 [b=true,(!a)=false] g [] 2 true]<|
.ite (cO (!a) (bif b then (decide (i>=0)) else false)) (
.r (.ret false)) (
.r (.cont ()))
def S_qw_b2 (f:TOf) (c:Nat) (_:Unit):SC Bool (Step Unit Bool) :=
.reg 11 [] [] [.w c,.ev 0]<|
 let a:=(f.Ag.C.getD c dF)
.call (@F_q3q_ok f a.B a.D) fun b d=>
.calld [(!b)=false] dF (@F_q4b_ok f a.B a.D) fun g e =>
.reg 12 [] [(5,hc d [] true),(13,hc e [] true)] [.cl 2 d [] 2 true,.clg 0 [(!b)=false] e [] 2 true]<|
.ite (cO (!b) (decide (g<0))) (
.r (.ret false)) (
.r (.cont ()))
def S_qw (a:TOf):SC Bool Bool :=
 let b:=(cO (cO (decide (a.S<1)) (decide (a.S>6))) (decide ((a.L.length:Int)>60)))
.calld [b=false] dF (@F_q27_ok a.Ag) fun d c =>
.reg 1 [] [(17,hc c [] true)] [.clg 0 [b=false] c [] 1 true]<|
.ite (cO b (!d)) (
.r false) (
.range (a.L.length:Int) a.L.length rfl (.slot 28) 30 [1,28,29] (fun (_:Unit)=>[]) (fun _=>[]) () (S_qw_b1 a) (fun _ => 
.range (a.Ag.C.length:Int) a.Ag.C.length rfl (.slot 56) 58 [1,56,57] (fun (_:Unit)=>[]) (fun _=>[]) () (S_qw_b2 a) (fun _ => 
.r true) id) id)
def F_qw (a:TOf):=(S_qw a).den
theorem F_qw_ok {a:TOf}:FO (F_qw a) 173 [(TOf.d a)] [] vb NL:=fO (s:=S_qw a) Tryz.func173
def S_q6v (b:TOf) (f:Y8) (g:Int):SC (TMe×Int) (TMe×Int) :=
.a 1 1 2 (@F_qw_ok b) fun h=>
 let c:=(⟨0,0,[],0,0,0,0,0⟩:TMe)
.ite (!h) (
.r (c,1)) (
.a 3 3 2 (@F_q3q_ok b f g) fun i=>
.ite (!i) (
.r (c,6)) (
.call (@F_q21_ok b f g) fun j d=>
.call (@F_q1k_ok b.Ag f g) fun k e=>
.reg 5 [15] [(7,hc d [] true),(13,hc e [] true)] [.cl 1 d [] 2 true,.cl 0 e [] 2 true]<|
.r ((⟨b.S,0,f,g,0,0,j.Q,k⟩:TMe),0)))
def F_q6v (a:TOf) (b:Y8) (c:Int):=(S_q6v a b c).den
theorem F_q6v_ok {a:TOf} {b:Y8} {c:Int}:FO (F_q6v a b c) 207 [(TOf.d a),(AV.d (Rf b)),(vi c)] [] (fun x=>(Rg [(TMe.d x.1),(vi x.2)])) NL:=fO (s:=S_q6v a b c) Tryz.func207
def S_q6w (h:TWo) (c:TSt):SC (TWo×Int) (TWo×Int) :=
 let e:=(⟨(⟨0,[]⟩:TTr),[],[]⟩:TWo)
.reg 0 [] [(2,{ obs:=[(2,(TWo.b e))] })] [.pf cz9]<|
.a 1 5 3 (@F_q29_ok c.Z 1 (h.K.length:Int)) fun x=>
 let j:=(0,hv (TWo.d e))
.ite (!x) (
.reg 2 [] [j] [.pf z25]<|
.r (e,6)) (
 let i:=(i64.wrap (c.Z-1))
.guard [(0:Int)<=i,i.toNat<h.K.length]<|
 let k:=(TJo.b (⟨0,[],0⟩:TJo))
.reg 3 [] [(7,{ obs:=[(3,k)] })] [.ev 0,.ev 1,.pf cz2]<|
 let f:=(h.K.getD i.toNat dF)
.ite (c.U==5) (
.ite (c.Op.U==8) (
.reg 7 [] [j] [.pf z25]<|
.r (e,9)) (
.call (@F_q54_ok f c.Op) fun l m=>
.reg 8 [] [(3,hc m [] true),(7,{ obs:=[(4,k)] })] [.cl 0 m [] 4 true,.pf cz2]<|
.a 9 3 5 (@F_q3z_ok h l.1 l.2) fun n=>
.r (n.1,n.2))) (
.ite (c.U==6) (
.call (@F_q6t_ok f) fun y o=>
.call (@F_q3z_ok h y 0) fun p q=>
.reg 11 [6] [(2,hc o [] true),(3,hc q [] true)] [.cl 1 o [] 4 true,.cl 0 q [] 4 true]<|
.r (p.1,p.2)) (
.ite (c.U==7) (
.call (@F_q6u_ok f) fun z s=>
.call (@F_q3z_ok h z 0) fun t u=>
.reg 13 [6] [(2,hc s [] true),(3,hc u [] true)] [.cl 1 s [] 4 true,.cl 0 u [] 4 true]<|
.r (t.1,t.2)) (
.call (@F_q3f_ok f) fun A v=>
.reg 14 [] [(1,hc v [] true),(5,{ obs:=[(4,(TOf.b (⟨0,[],(⟨[],[],[],[]⟩:TBo)⟩:TOf)))] })] [.cl 0 v [] 4 true,.pf z18]<|
.a 15 5 5 (@F_q6v_ok A.1 c.B c.D) fun w=>
.a 16 3 6 (@F_q4c_ok h w.1 w.2) fun g=>
.r (g.1,g.2)))))
def F_q6w (a:TWo) (b:TSt):=(S_q6w a b).den
theorem F_q6w_ok {a:TWo} {b:TSt}:FO (F_q6w a b) 171 [(TWo.d a),(TSt.d b)] [] (fun x=>(Rg [(TWo.d x.1),(vi x.2)])) NL:=fO (s:=S_q6w a b) Tryz.func171
abbrev R_q56:=Int×(List Int)×(List Int)
def S_q56 (p0_0:Nat) (p0_1:(List TPo)) (_:Y8) (_:Int) (_:Int) (d:TMe) (j:(List Int)) (b:(List Int)) (_:(List Int)) (f:(List Int)):SC R_q56 R_q56 :=
.call (@F_qh_ok d.Aa 1 (b.length:Int)) fun o k=>
.guard [p0_0<p0_1.length]<|
.reg 2 [] [(7,hc k [] true)] [.e p0_1.length,.e p0_1.length,.ev 0,.pf (p:=decide (p0_0=p0_0)=true) (y9 rfl),.cl 1 k [] 6 true]<|
.ite (!o) (
.r (6,b,f)) (
 let c:=(i64.wrap (d.Aa-1))
 let a:=(0+c.toNat)
.call (@F_qh_ok d.Q 0 (j.getD a dF)) fun g m=>
.calld [(!g)=false] dF (@F_q1n_ok d.M) fun q n =>
.guard [(0:Int)<=c,c.toNat<j.length,a<j.length]<|
.reg 4 [] [(9,hc m [] true),(14,hc n [] true)] [.e p0_1.length,.e p0_1.length,.ev 7,.pf (p:=decide (p0_0=p0_0)=true) (y9 rfl),.e j.length,.ev 0,.ev 1,.e j.length,.ev 2,.cl 5 m [] 6 true,.clg 3 [(!g)=false] n [] 6 true]<|
.ite (cO (!g) (!q)) (
.r (2,b,f)) (
.guard [c.toNat<b.length,a<b.length,c.toNat<f.length,a<f.length]<|
 let h:=(if d.Q>(b.getD a dF) then d.Q else (b.getD a dF))
.reg 6 [23,25] [(23,{ obs:=[(3,(eQ (b.set a h)))] }),(25,{ obs:=[(5,(eQ (f.set a d.M)))] })] [.e p0_1.length,.e p0_1.length,.ev 12,.pf (p:=decide (p0_0=p0_0)=true) (y9 rfl),.e p0_1.length,.e p0_1.length,.ev 12,.pf (p:=decide (p0_0=p0_0)=true) (y9 rfl),.e p0_1.length,.e p0_1.length,.ev 12,.pf (p:=decide (p0_0=p0_0)=true) (y9 rfl),.e b.length,.ev 5,.ev 0,.e b.length,.ev 1,.e b.length,.ev 5,.ev 0,.e b.length,.ev 1,.pf (zk (sz:=1) (e:=Ra) (l:=b) (i:=a) (x:=h) (fun _=>rfl)),.e f.length,.ev 5,.ev 2,.e f.length,.ev 3,.pf (zk (sz:=1) (e:=Ra) (l:=f) (i:=a) (x:=d.M) (fun _=>rfl))]<|
.r (0,(b.set a h),(f.set a d.M))))
def F_q56 (p0_0:Nat) (p0_1:(List TPo)) (p0_2:Y8) (p0_3:Int) (p0_4:Int) (a:TMe) (b:(List Int)) (c:(List Int)) (d:(List Int)) (e:(List Int)):=(S_q56 p0_0 p0_1 p0_2 p0_3 p0_4 a b c d e).den
theorem F_q56_ok {p0_0:Nat} {p0_1:(List TPo)} {p0_2:Y8} {p0_3:Int} {p0_4:Int} {h:TMe} {a:(List Int)} {f:(List Int)} {c:(List Int)} {g:(List Int)}:FO (F_q56 p0_0 p0_1 p0_2 p0_3 p0_4 h a f c g) 269 [(Ri 0 p0_1.length [.x p0_0 7]),(vp 1)] [(opS 7 TPo.e p0_0 (Rc [(AV.d (Rf p0_2)),(vi p0_3),(vi p0_4),(Rb 2 a.length 0 a.length),(Rb 3 f.length 0 f.length),(Rb 4 c.length 0 c.length),(Rb 5 g.length 0 g.length)]) p0_1),(TMe.b h),(eQ a),(eQ f),(eQ c),(eQ g)] (fun x=>(vi x.1)) (fun x=>[(opS 7 TPo.e p0_0 (Rc [(AV.d (Rf p0_2)),(vi p0_3),(vi p0_4),(Rb 2 a.length 0 a.length),(Rb 3 f.length 0 f.length),(Rb 4 c.length 0 c.length),(Rb 5 g.length 0 g.length)]) p0_1),(TMe.b h),(eQ a),(eQ x.2.1),(eQ c),(eQ x.2.2)]):=fO (s:=S_q56 p0_0 p0_1 p0_2 p0_3 p0_4 h a f c g) Tryz.func269
def S_q7p (J:TTr) (O:Y8) (Q:Int) (N:TMe):SC (TTr×Int) (TTr×Int) :=
.reg 0 [] [(1,{ obs:=[(2,(TTr.b (⟨0,[]⟩:TTr)))] })] [.pf cz4]<|
.a 1 1 3 (@F_qs_ok J) fun K=>
 let z:=(TTr.d (⟨0,[]⟩:TTr))
.ite (!K) (
.reg 2 [] [(0,hv z)] [.pf cz5]<|
.r ((⟨0,[]⟩:TTr),1)) (
.a 3 3 3 (@F_q3j_ok J O Q) fun v=>
.ite (decide (v<0)) (
.reg 5 [] [(0,hv z)] [.pf cz5]<|
.r ((⟨0,[]⟩:TTr),6)) (
 let j:=v.toNat
.call (@F_q1p_ok J j) fun f L=>
.k 6 1 L [] 3 false<|
.kill 4<|
 let c:=(f.2.getD j dF)
.call (@F_q56_ok j f.2 c.B c.D c.T N c.A c.G c.F c.M) fun g C=>
.guard [(0:Int)<=v,v.toNat<f.2.length]<|
 let y:=(Ri 5 f.2.length [.x j 7])
.reg 7 [] [(4,hv y),(5,hc C [5,0,6,7,8,9] false)] [.e f.2.length,.ev 0,.ev 1,.pf (p:=LeV (Ri 5 f.2.length [.x (0+j) 7]) y) z54,.cl 2 C [5,0,6,7,8,9] 10 false]<|
.ite (g.1 != 0) (
.reg 9 [] [(0,hv z)] [.pf cz5]<|
.r ((⟨0,[]⟩:TTr),g.1)) (
.reg 10 [] [] []<|
.guard [g.2.1.length=c.G.length/\g.2.2.length=c.M.length]<|
 let l:=(TMe.b N)
 let o:=(eQ c.A)
 let q:=(eQ g.2.1)
 let s:=(eQ c.F)
 let t:=(eQ g.2.2)
 let u:=(AV.d (Rf c.B))
.cst (A:=g.2.1.length=c.G.length/\g.2.2.length=c.M.length) (.ev 0) [(8,(vp 2)),(9,(vi 0))] [(8,(vp 2)),(9,(vi 0))] [l,(Rd (Rc [(vi f.1),(Rb 5 f.2.length 0 f.2.length)])),(Rd (Rc [(vi f.1),(Rb 5 f.2.length 0 f.2.length)])),Re,Re,(opS 7 TPo.e j (Rc [u,(vi c.D),(vi c.T),(Rb 6 c.A.length 0 c.A.length),(Rb 7 c.G.length 0 c.G.length),(Rb 8 c.F.length 0 c.F.length),(Rb 9 c.M.length 0 c.M.length)]) f.2),o,q,s,t] [l,(Rd (Rc [(vi f.1),(Rb 5 f.2.length 0 f.2.length)])),(Rd (Rc [(vi f.1),(Rb 5 f.2.length 0 f.2.length)])),Re,Re,(opS 7 TPo.e j (Rc [u,(vi c.D),(vi c.T),(Rb 6 c.A.length 0 c.A.length),(Rb 7 g.2.1.length 0 g.2.1.length),(Rb 8 c.F.length 0 c.F.length),(Rb 9 g.2.2.length 0 g.2.2.length)]) f.2),o,q,s,t] (fun h=>⟨rfl,by rw[h.1,h.2]⟩)<|
.guard [c.A.length<2 ^ 63/\g.2.1.length<2 ^ 63/\c.F.length<2 ^ 63/\g.2.2.length<2 ^ 63]<|
 let E:=(⟨c.B,c.D,c.T,c.A,g.2.1,c.F,g.2.2⟩:TPo)
 let m:=(f.2.set j E)
 let n:=(Rc [(vi f.1),(Rb 5 f.2.length 0 f.2.length)])
 let H:=[l,(Rd n),(Rd n),Re,Re,(eS 7 TPo.e m),Re,Re,Re,Re]
 let w:=[(8,(vp 2)),(9,(vi 0))]
.sh (A:=c.A.length<2 ^ 63/\g.2.1.length<2 ^ 63/\c.F.length<2 ^ 63/\g.2.2.length<2 ^ 63) (.ev 0) w w [l,(Rd n),(Rd n),Re,Re,(opS 7 TPo.e j (Rc [u,(vi c.D),(vi c.T),(Rb 6 c.A.length 0 c.A.length),(Rb 7 g.2.1.length 0 g.2.1.length),(Rb 8 c.F.length 0 c.F.length),(Rb 9 g.2.2.length 0 g.2.2.length)]) f.2),o,q,s,t] H (fun h=>z1j oTApiPot (P:=[l,(Rd n),(Rd n),Re,Re]) (D:=[]) rfl (⟨c.B,c.D,c.T,[],[],[],[]⟩:TPo) E h rfl) (z14 _)<|
 let I:=(Rc [(vi f.1),(Rb 5 m.length 0 m.length)])
.cst (A:=True) (.pf trivial) w w H [l,(Rd I),(Rd I),Re,Re,(eS 7 TPo.e m),Re,Re,Re,Re] (fun _=>⟨Zd,Zb⟩)<|
.guard [m.length<2 ^ 63]<|
.frz 5 (.ev 0) none [] [1,2]<|
.r ((⟨f.1,m⟩:TTr),0))))
def F_q7p (a:TTr) (b:Y8) (c:Int) (d:TMe):=(S_q7p a b c d).den
theorem F_q7p_ok {c:TTr} {e:Y8} {f:Int} {a:TMe}:FO (F_q7p c e f a) 89 [(TTr.d c),(AV.d (Rf e)),(vi f),(AV.fn 269 [(vp 0)])] [(TMe.b a)] (fun x=>(Rg [(TTr.d x.1),(vi x.2)])) (fun _=>[(TMe.b a)]):=fO (s:=S_q7p c e f a) Tryz.func89
def S_q6x (f:TTr) (c:TMe):SC (TTr×Int) (TTr×Int) :=
.reg 0 [] [(2,{ obs:=[(2,(TTr.b (⟨0,[]⟩:TTr)))] })] [.pf cz4]<|
.ite (c.To != 0) (
.reg 2 [] [(0,hv (TTr.d (⟨0,[]⟩:TTr)))] [.pf cz5]<|
.r ((⟨0,[]⟩:TTr),1)) (
.call (@F_q7p_ok f c.B c.D c) fun a e=>
.k 3 6 e [1] 3 true<|
.r (a.1,a.2))
def F_q6x (a:TTr) (b:TMe):=(S_q6x a b).den
theorem F_q6x_ok {a:TTr} {b:TMe}:FO (F_q6x a b) 237 [(TTr.d a),(TMe.d b)] [] (fun x=>(Rg [(TTr.d x.1),(vi x.2)])) NL:=fO (s:=S_q6x a b) Tryz.func237
def S_q6y (a:(List TMe)):SC (List TMe) (List TMe) :=
.reg 0 [] [] []<|
.nils 0 (
.guard [a.length * (2 * 72)<=2 ^ 48]<|
.reg 1 [] [] []<|
.lev 0 (AV.d (eL TMe.e a)) (.pf (lvQ true a.length fun j=>(TMe.e (a.getD j dF))))<|
.br true (.pf (p:=true=true) rfl)<|
.reg 2 [] [] []<|
.bor 8 (fun j=>AV.d (TMe.e (a.getD j dF))) [2]<|
.cst (A:=a.length=0) (.ev 1) [(2,Rb 0 0 0 0)] [(2,(Rb 0 a.length 0 a.length))] [(Ob.seq 8 0 fun j=>AV.d (TMe.e (a.getD j dF)))] [(eS 8 TMe.e a)] (fun h=>⟨by rw[h],by unfold eS; rw[h]⟩)<|
.r a) (
.reg 1 [] [] []<|
.lev 0 (AV.d (eL TMe.e a)) (.pf (lvQ false a.length fun j=>(TMe.e (a.getD j dF))))<|
.br false (.pf (p:=false=false) rfl)<|
.guard [a.length * (2 * 72)<=2 ^ 48]<|
.reg 3 [] [(2,{ h:=.obj })] [.pf (p:=∀ k,k<a.length->(TMe.d (a.getD k dF)).wd=8) (fun _ _=>rfl),.ev 0]<|
.r a)
def F_q6y (a:(List TMe)):=(S_q6y a).den
theorem F_q6y_ok {a:(List TMe)}:FO (F_q6y a) 128 [(AV.d (eL TMe.e a))] [] (fun x=>(Rb 0 x.length 0 x.length)) (fun x=>[(eS 8 TMe.e x)]):=fO (s:=S_q6y a) Tryz.func128
def S_q6z (q:Int) (o:Int) (a:(List TMe)):SC (List TMe) (List TMe) :=
.guard [(0:Int)<=q,(0:Int)<=o,q.toNat<=o.toNat,o.toNat<=a.length]<|
.reg 1 [] [] [.ev 0,.ev 1,.ev 2,.ev 3,.e a.length,.pf (nn a.length),.ev 3,.pf (p:=a.length<=a.length) (ye _)]<|
.ite (q==o) (
.guard [a.length<2 ^ 63]<|
.reg 3 [] [] []<|
.frz 0 (.ev 0) none [6] []<|
.r a) (
 let c:=(a.length-o.toNat)
 let f:=(q.toNat-0)
.guard [q.toNat<=a.length,f+c<=a.length]<|
 let g:=(0+o.toNat)
.reg 5 [6] [(6,{ h:=.imm,obs:=[(0,(eS 8 TMe.e (copyL a f c (fun i=>(a.getD (g+i) dF)))))] })] [.ev 3,.ev 0,.e a.length,.ev 4,.ev 6,.e a.length,.e a.length,.e a.length,.ev 1,.pf (p:=∀ k,k<c->(TMe.d (a.getD (g+k) dF)).wd=8) (fun _ _=>rfl),.pf (z9i (sz:=8) (e:=TMe.e) (l:=a) (off:=f) (k:=c) (s:=(fun i=>(a.getD (g+i) dF))))]<|
 let b:=(f+c)
 let t:=(7,(vi (a.length:Int)))
.cst (A:=True) (.pf trivial) [(0,(Rb 0 a.length 0 b)),t] [(0,(Rb 0 ((copyL a f c (fun i=>(a.getD (g+i) dF))).length) 0 b)),t] [(eS 8 TMe.e (copyL a f c (fun i=>(a.getD (g+i) dF))))] [(eS 8 TMe.e (copyL a f c (fun i=>(a.getD (g+i) dF))))] (fun _=>⟨by simp +zetaDelta only[zp],by rfl⟩)<|
.guard [b<=a.length,a.length<=(copyL a f c (fun i=>(a.getD (g+i) dF))).length]<|
 let j:=(⟨0,0,[],0,0,0,0,0⟩:TMe)
 let m:=(a.length-b)
.reg 6 [] [(5,{ obs:=[(0,(eS 8 TMe.e (clearL (copyL a f c (fun i=>(a.getD (g+i) dF))) (0+b) m j)))] })] [.w b,.pf (nn a.length),.ev 0,.ev 1,.pf (y2d ((copyL a f c (fun i=>(a.getD (g+i) dF))).length)),.pf (y2d ((copyL a f c (fun i=>(a.getD (g+i) dF))).length)),.pf (zgh (sz:=8) (e:=TMe.e) (l:=(copyL a f c (fun i=>(a.getD (g+i) dF)))) (off:=(0+b)) (n:=m) (z:=j))]<|
.cst (A:=True) (.pf trivial) [(0,(Rb 0 ((copyL a f c (fun i=>(a.getD (g+i) dF))).length) 0 b))] [(0,(Rb 0 ((clearL (copyL a f c (fun i=>(a.getD (g+i) dF))) (0+b) m j).length) 0 b))] [(eS 8 TMe.e (clearL (copyL a f c (fun i=>(a.getD (g+i) dF))) (0+b) m j))] [(eS 8 TMe.e (clearL (copyL a f c (fun i=>(a.getD (g+i) dF))) (0+b) m j))] (fun _=>⟨by simp +zetaDelta only[z1r,zp],by rfl⟩)<|
.guard [(clearL (copyL a f c (fun i=>(a.getD (g+i) dF))) (0+b) m j).length<2 ^ 63]<|
.reg 7 [] [] []<|
.guard [b<=(clearL (copyL a f c (fun i=>(a.getD (g+i) dF))) (0+b) m j).length]<|
.frz 0 (.ev 1) (some (.der (fun (h:b<=(clearL (copyL a f c (fun i=>(a.getD (g+i) dF))) (0+b) m j).length)=>(h:b<=(clearL (copyL a f c (fun i=>(a.getD (g+i) dF))) (0+b) m j).length)) 0)) [6] []<|
.lev 6 (AV.d (eL TMe.e ((clearL (copyL a f c (fun i=>(a.getD (g+i) dF))) (0+b) m j).take b))) (.der (fun (h:b<=(clearL (copyL a f c (fun i=>(a.getD (g+i) dF))) (0+b) m j).length)=>lvT TMe.e (clearL (copyL a f c (fun i=>(a.getD (g+i) dF))) (0+b) m j) h) 0)<|
.r ((clearL (copyL a f c (fun i=>(a.getD (g+i) dF))) (0+b) m j).take b))
def F_q6z (a:Int) (b:Int) (c:(List TMe)):=(S_q6z a b c).den
theorem F_q6z_ok {b:Int} {c:Int} {a:(List TMe)}:FO (F_q6z b c a) 238 [(Rb 0 a.length 0 a.length),(vi b),(vi c)] [(eS 8 TMe.e a)] (fun x=>(AV.d (eL TMe.e x))) (fun _=>[Re]):=fO (s:=S_q6z b c a) Tryz.func238
def S_q4e (d:TWo) (g:Int):SC TWo TWo :=
.reg 0 [] [(1,{ obs:=[(1,(TWo.b (⟨(⟨0,[]⟩:TTr),[],[]⟩:TWo)))] })] [.pf cz9]<|
.call (@F_q6y_ok d.O) fun e a=>
.call (@F_q6z_ok g (i64.wrap (g+1)) e) fun f c=>
.reg 1 [] [(2,hc a [] false),(6,hc c [2] false)] [.cl 1 a [] 2 false,.cl 0 c [2] 3 false]<|
.r (⟨d.I,d.K,f⟩:TWo)
def F_q4e (a:TWo) (b:Int):=(S_q4e a b).den
theorem F_q4e_ok {a:TWo} {b:Int}:FO (F_q4e a b) 209 [(TWo.d a),(vi b)] [] (fun x=>(TWo.d x)) NL:=fO (s:=S_q4e a b) Tryz.func209
end
end Go.Proofs.YtgbpiaddmclccaaGreatDoor
/- What the functions compute,and that their calls return it. No condition. -/
namespace Go.Proofs.YtgbpiaddmclccaaGreatDoor
open Go Go.TA
open Go.IntKind (i64)
noncomputable section
set_option maxRecDepth 100000
def S_q70 (e:TWo) (j:Int):SC (TWo×Int) (TWo×Int) :=
 let f:=(⟨(⟨0,[]⟩:TTr),[],[]⟩:TWo)
.reg 0 [] [(1,{ obs:=[(1,(TWo.b f))] })] [.pf cz9]<|
.guard [(0:Int)<=j,j.toNat<e.O.length]<|
.reg 1 [] [] [.ev 0,.ev 1]<|
 let c:=(e.O.getD j.toNat dF)
.ite (c.To==0) (
.call (@F_q6x_ok e.I c) fun g k=>
.reg 3 [] [(3,hc k [] true),(7,{ obs:=[(3,(TTr.b (⟨0,[]⟩:TTr)))] })] [.cl 0 k [] 3 true,.pf cz4]<|
.ite (g.2 != 0) (
.reg 5 [] [(0,hv (TWo.d f))] [.pf z25]<|
.r (f,g.2)) (
.a 7 2 4 (@F_q4e_ok (⟨g.1,e.K,e.O⟩:TWo) j) fun p=>
.r (p,0))) (
 let h:=(i64.wrap (c.To-1))
.call (@F_q54_ok (e.K.getD h.toNat dF) (⟨8,c.B,c.D,0,0,0,0,0,c.A,c.F⟩:TOp)) fun l i=>
.guard [(0:Int)<=h,h.toNat<e.K.length]<|
.reg 8 [20,21] [(16,hc i [] true),(20,{ obs:=[(3,(TJo.b (⟨0,[],0⟩:TJo)))] })] [.ev 0,.ev 1,.ev 0,.ev 1,.cl 2 i [] 3 true,.cl 2 i [] 4 true,.pf cz2]<|
.call (@F_q4e_ok e j) fun q m=>
.call (@F_q3z_ok q l.1 l.2) fun n o=>
.reg 9 [8] [(2,hc m [] true),(5,hc o [] true)] [.cl 1 m [] 4 true,.cl 0 o [] 4 true]<|
.r (n.1,n.2))
def F_q70 (a:TWo) (b:Int):=(S_q70 a b).den
theorem F_q70_ok {a:TWo} {b:Int}:FO (F_q70 a b) 208 [(TWo.d a),(vi b)] [] (fun x=>(Rg [(TWo.d x.1),(vi x.2)])) NL:=fO (s:=S_q70 a b) Tryz.func208
def S_q71 (f:TWo) (c:TSt):SC (TWo×Int) (TWo×Int) :=
 let e:=(⟨(⟨0,[]⟩:TTr),[],[]⟩:TWo)
.reg 0 [] [(2,{ obs:=[(2,(TWo.b e))] })] [.pf cz9]<|
.a 1 6 3 (@F_q29_ok c.Aj 0 (i64.wrap ((f.O.length:Int)-1))) fun j=>
.ite (!j) (
.reg 2 [] [(0,hv (TWo.d e))] [.pf z25]<|
.r (e,6)) (
.ite (c.U==9) (
.a 5 3 3 (@F_q70_ok f c.Aj) fun g=>
.r (g.1,g.2)) (
.ite (c.U==11) (
.call (@F_q4c_ok f (f.O.getD c.Aj.toNat dF) 0) fun h i=>
.guard [(0:Int)<=c.Aj,c.Aj.toNat<f.O.length]<|
.reg 7 [10] [(7,hc i [] true)] [.ev 0,.ev 1,.cl 2 i [] 3 true]<|
.r (h.1,h.2)) (
.a 8 3 3 (@F_q4e_ok f c.Aj) fun k=>
.r (k,0))))
def F_q71 (a:TWo) (b:TSt):=(S_q71 a b).den
theorem F_q71_ok {a:TWo} {b:TSt}:FO (F_q71 a b) 172 [(TWo.d a),(TSt.d b)] [] (fun x=>(Rg [(TWo.d x.1),(vi x.2)])) NL:=fO (s:=S_q71 a b) Tryz.func172
def S_q72 (l:TWo) (c:TSt):SC (TWo×Int) (TWo×Int) :=
 let e:=(⟨(⟨0,[]⟩:TTr),[],[]⟩:TWo)
.reg 0 [] [(2,{ obs:=[(2,(TWo.b e))] })] [.pf cz9]<|
.cut none [2,3,4,7] (fun (f:Bool)=>[(8,(vb f))]) (fun _=>[]) (
.ite (c.U==1) (
.r (.next (c.U==1))) (
.ite (c.U==2) (
.r (.next (c.U==2))) (
.ite (c.U==3) (
.r (.next (c.U==3))) (
.r (.next (c.U==4)))))) fun f=>
.ite f (
.a 6 2 3 (@F_q6q_ok l c) fun i=>
.r (i.1,i.2)) (
.cut none [2,3,4,7] (fun (g:Bool)=>[(18,(vb g))]) (fun _=>[]) (
.ite (c.U==5) (
.r (.next (c.U==5))) (
.ite (c.U==6) (
.r (.next (c.U==6))) (
.ite (c.U==7) (
.r (.next (c.U==7))) (
.r (.next (c.U==8)))))) fun g=>
.ite g (
.a 11 2 3 (@F_q6w_ok l c) fun j=>
.r (j.1,j.2)) (
.cut none [2,3,4] (fun (h:Bool)=>[(28,(vb h))]) (fun _=>[]) (
.ite (c.U==9) (
.r (.next (c.U==9))) (
.ite (c.U==10) (
.r (.next (c.U==10))) (
.r (.next (c.U==11))))) fun h=>
.ite h (
.a 15 2 3 (@F_q71_ok l c) fun k=>
.r (k.1,k.2)) (
.reg 16 [] [(0,hv (TWo.d e))] [.pf z25]<|
.r (e,1))))
def F_q72 (a:TWo) (b:TSt):=(S_q72 a b).den
theorem F_q72_ok {a:TWo} {b:TSt}:FO (F_q72 a b) 124 [(TWo.d a),(TSt.d b)] [] (fun x=>(Rg [(TWo.d x.1),(vi x.2)])) NL:=fO (s:=S_q72 a b) Tryz.func124
def S_q2a (e:TSt) (d:TCa):SC (Int×TCa) (Int×TCa) :=
.call (@F_q72_ok d.w e) fun a c=>
.reg 1 [9,10] [(5,hc c [] true),(9,{ obs:=[(2,(TWo.b (⟨(⟨0,[]⟩:TTr),[],[]⟩:TWo)))] })] [.cl 0 c [] 2 true,.cl 0 c [] 3 true,.pf cz9]<|
.ite (a.2==0) (
.r (a.2,(⟨a.1⟩:TCa))) (
.r (a.2,d))
def F_q2a (a:TSt) (b:TCa):=(S_q2a a b).den
theorem F_q2a_ok {a:TSt} {c:TCa}:FO (F_q2a a c) 69 [(vp 0),(TSt.d a)] [(TCa.b c)] (fun x=>(vi x.1)) (fun x=>[(TCa.b x.2)]):=fO (s:=S_q2a a c) Tryz.func69
def S_q40 (e:TSt) (f:TCa):SC TCa TCa :=
.call (@F_q2a_ok e f) fun a b=>
.k 1 2 b [0] 2 false<|
.ite (a.1==0) (
.call (@F_q2a_ok (⟨9,0,(⟨0,[],0,0,0,0,0,0,0,0⟩:TOp),[],0,0,(i64.wrap ((a.2.w.O.length:Int)-1))⟩:TSt) a.2) fun c d=>
.k 2 9 d [0] 2 false<|
.r c.2) (
.r a.2)
def F_q40 (a:TSt) (b:TCa):=(S_q40 a b).den
theorem F_q40_ok {a:TSt} {c:TCa}:FO (F_q40 a c) 125 [(vp 0),(TSt.d a)] [(TCa.b c)] (fun _=>(Rg [])) (fun x=>[(TCa.b x)]):=fO (s:=S_q40 a c) Tryz.func125
def S_q73 (a:TRi) (h:Int):SC Int Int :=
.call (@F_q3r_ok a) fun b c=>
.calld [(!b)=false] dF (@F_qh_ok h 0 (i64.wrap (a.A-a.Q))) fun g d =>
.reg 1 [] [(1,hc c [] true),(10,hc d [] true)] [.cl 2 c [] 1 true,.clg 0 [(!b)=false] d [] 1 true]<|
.ite (cO (!b) (!g)) (
.r 0) (
 let e:=(i64.wrap (a.A-h))
 let f:=(i64.wrap ((if e<a.F then e else a.F)-a.Q))
.r (if 0>f then 0 else f))
def F_q73 (a:TRi) (b:Int):=(S_q73 a b).den
theorem F_q73_ok {a:TRi} {b:Int}:FO (F_q73 a b) 174 [(TRi.d a),(vi b)] [] vi NL:=fO (s:=S_q73 a b) Tryz.func174
def S_q74 (g:TOf) (h:Y8) (i:Int):SC (TOp×Bool) (TOp×Bool) :=
.a 1 1 2 (@F_qw_ok g) fun j=>
 let b:=(⟨0,[],0,0,0,0,0,0,0,0⟩:TOp)
.ite (!j) (
.r (b,false)) (
.call (@F_q21_ok g h i) fun k c=>
.call (@F_q1k_ok g.Ag h i) fun l d=>
.call (@F_q73_ok k l) fun e f=>
.reg 3 [] [(3,hc c [] true),(8,hc d [] true),(9,hc f [] true)] [.cl 2 c [] 2 true,.cl 1 d [] 2 true,.cl 0 f [] 2 true]<|
.ite (e==0) (
.r (b,false)) (
.r ((⟨7,h,i,0,0,e,0,0,0,0⟩:TOp),true)))
def F_q74 (a:TOf) (b:Y8) (c:Int):=(S_q74 a b c).den
theorem F_q74_ok {a:TOf} {b:Y8} {c:Int}:FO (F_q74 a b c) 126 [(TOf.d a),(AV.d (Rf b)),(vi c)] [] (fun x=>(Rg [(TOp.d x.1),(vb x.2)])) NL:=fO (s:=S_q74 a b c) Tryz.func126
def S_qx_b1 (j:Int) (q:TCa) (g:Nat) (l:TCa):SC TCa (Step TCa TCa) :=
.reg 2 [] [(2,{ obs:=[(1,(TPo.b (⟨[],0,0,[],[],[],[]⟩:TPo)))] })] [.w g,.ev 0,.pf cz1]<|
 let d:=(q.w.I.E.getD g dF)
.call (@F_q40_ok (⟨4,j,(⟨0,[],0,0,0,0,0,0,0,0⟩:TOp),d.B,d.D,0,0⟩:TSt) l) fun e m=>
.k 3 7 m [0] 2 false<|
 let f:=(i64.wrap (j-1))
.call (@F_q2r_ok (e.w.K.getD f.toNat dF)) fun n h=>
.guard [(0:Int)<=f,f.toNat<e.w.K.length]<|
.reg 4 [] [(9,hc h [] true),(13,{ obs:=[(2,(TOf.b (⟨0,[],(⟨[],[],[],[]⟩:TBo)⟩:TOf)))] })] [.ev 0,.ev 1,.cl 2 h [] 2 true,.pf z18]<|
.a 5 5 3 (@F_q74_ok n.1 d.B d.D) fun i=>
.ite i.2 (
.call (@F_q2a_ok (⟨5,j,i.1,[],0,0,0⟩:TSt) e) fun o p=>
.k 7 4 p [0] 4 false<|
.c o.2) (
.c e)
def S_qx_b2 (i:Int) (g:(Int×TCa)) (a:Nat) (h:TCa):SC TCa (Step TCa TCa) :=
.reg 12 [] [(2,{ obs:=[(1,(TPo.b (⟨[],0,0,[],[],[],[]⟩:TPo)))] })] [.w a,.ev 0,.pf cz1]<|
 let d:=(g.2.w.I.E.getD a dF)
.call (@F_q40_ok (⟨8,i,(⟨0,[],0,0,0,0,0,0,0,0⟩:TOp),d.B,d.D,0,0⟩:TSt) h) fun e f=>
.k 13 7 f [0] 2 false<|
.c e
def S_qx (f:Int) (e:TCa):SC TCa TCa :=
.range (e.w.I.E.length:Int) e.w.I.E.length rfl (.slot 17) 19 [0,1,17,18] (fun (_:TCa)=>[]) (fun c=>[(0,(TCa.b c))]) e (S_qx_b1 f e) (fun c => 
.call (@F_q2a_ok (⟨6,f,(⟨0,[],0,0,0,0,0,0,0,0⟩:TOp),[],0,0,0⟩:TSt) c) fun a g=>
.k 9 3 g [0] 1 false<|
.range (a.2.w.I.E.length:Int) a.2.w.I.E.length rfl (.slot 69) 71 [0,1,69,70] (fun (_:TCa)=>[]) (fun d=>[(0,(TCa.b d))]) a.2 (S_qx_b2 f a) (fun d => 
.r d) id) id
def F_qx (a:Int) (b:TCa):=(S_qx a b).den
theorem F_qx_ok {a:Int} {c:TCa}:FO (F_qx a c) 70 [(vp 0),(vi a)] [(TCa.b c)] (fun _=>(Rg [])) (fun x=>[(TCa.b x)]):=fO (s:=S_qx a c) Tryz.func70
theorem zws:∀ k,k<0->(DV.b false).wd=8:=fun _ h=>absurd h (y3a _)
def S_q75 (a:(List TMe)):SC (List TMe) (List TMe) :=
.reg 0 [] [] []<|
 let b:=(AV.d (eL TMe.e a))
.nils 0 (
.guard [(0+a.length) * (2 * 72)<=2 ^ 48]<|
.reg 1 [] [] []<|
.lev 0 b (.pf (lvQ true a.length fun j=>(TMe.e (a.getD j dF))))<|
.br true (.pf (p:=true=true) rfl)<|
.reg 2 [] [] []<|
.lev 2 b (.der (fun (h:a.length=0)=>lvZ TMe.e a h) 1)<|
.r a) (
.reg 1 [] [] []<|
.lev 0 b (.pf (lvQ false a.length fun j=>(TMe.e (a.getD j dF))))<|
.br false (.pf (p:=false=false) rfl)<|
.guard [(0+a.length) * (2 * 72)<=2 ^ 48]<|
.reg 3 [] [(2,hv b)] [.pf (p:=∀ k,k<a.length->AV.d (TMe.e (a.getD k dF))=AV.d (TMe.e (a.getD k dF))/\(TMe.e (a.getD k dF)).wd=8) (fun _ _=>⟨rfl,rfl⟩),.pf zws,.ev 0,.pf (z3o (e:=TMe.e) (x:=a))]<|
.r a)
def F_q75 (a:(List TMe)):=(S_q75 a).den
theorem F_q75_ok {a:(List TMe)}:FO (F_q75 a) 128 [(AV.d (eL TMe.e a))] [] (fun x=>(AV.d (eL TMe.e x))) NL:=fO (s:=S_q75 a) Tryz.func128
def S_q10_b1 (v:TWo) (i:Nat) (a:Int×(List TJo)×(List TMe)×(List TPo)):SC TWo (Step (Int×(List TJo)×(List TMe)×(List TPo)) TWo) :=
.reg 5 [] [(2,{ obs:=[(3,(TPo.b (⟨[],0,0,[],[],[],[]⟩:TPo)))] })] [.w i,.ev 0,.pf cz1]<|
 let f:=(v.I.E.getD i dF)
.call (@F_q1o_ok f.A) fun r j=>
.call (@F_q1o_ok f.G) fun s m=>
.call (@F_q1o_ok f.F) fun t n=>
.call (@F_q1o_ok f.M) fun u q=>
.reg 6 [13,15,17,19] [(2,hc j [] true),(5,hc m [] true),(8,hc n [] true),(11,hc q [] true)] [.cl 3 j [] 4 true,.cl 2 m [] 4 true,.cl 1 n [] 4 true,.cl 0 q [] 4 true]<|
.guard [(a.2.2.2.length+1) * (2 * 128)<=2 ^ 48]<|
 let g:=([(⟨f.B,f.D,f.T,r,s,t,u⟩:TPo)]:List TPo)
 let h:=(a.2.2.2++g)
.reg 7 [] [(4,hv (AV.d (eL TPo.e g))),(5,{ cast:=some (Rb 2 h.length 0 h.length),obs:=[(2,(eS 7 TPo.e h))] })] [.pf (z9 TPo.e g),.e a.2.2.2.length,.e a.2.2.2.length,.pf (p:=∀ k,k<1->(TPo.d (g.getD k dF)).wd=7) (fun _ _=>rfl),.ev 0,.pf (zw (o:=2) (l:=a.2.2.2) (x:=g)),.pf (zy (sz:=7) (e:=TPo.e) (l:=a.2.2.2) (x:=g))]<|
.c (a.1,a.2.1,a.2.2.1,h)
def S_q10_b2 (m:Int×(List TJo)×(List TMe)×(List TPo)) (j:Nat) (f:Int×(List TMe)×(List TJo)):SC TWo (Step (Int×(List TMe)×(List TJo)) TWo) :=
.reg 13 [] [(2,{ obs:=[(4,(TJo.b (⟨0,[],0⟩:TJo)))] })] [.w j,.ev 0,.pf cz2]<|
 let i:=(m.2.1.getD j dF)
.a 14 2 5 (@F_q55_ok i.N) fun n=>
.guard [(f.2.2.length+1) * (2 * 40)<=2 ^ 48]<|
 let g:=([(⟨i.Z,n,i.Af⟩:TJo)]:List TJo)
 let h:=(f.2.2++g)
.reg 15 [] [(3,hv (AV.d (eL TJo.e g))),(4,{ cast:=some (Rb 3 h.length 0 h.length),obs:=[(3,(eS 3 TJo.e h))] })] [.pf (z9 TJo.e g),.e f.2.2.length,.e f.2.2.length,.pf (p:=∀ k,k<1->(TJo.d (g.getD k dF)).wd=3) (fun _ _=>rfl),.ev 0,.pf (zw (o:=3) (l:=f.2.2) (x:=g)),.pf (zy (sz:=3) (e:=TJo.e) (l:=f.2.2) (x:=g))]<|
.c (f.1,f.2.1,h)
def S_q10 (h:TWo):SC TWo TWo :=
 let i:=(TWo.b (⟨(⟨0,[]⟩:TTr),[],[]⟩:TWo))
.reg 0 [] [(1,{ obs:=[(1,i)] })] [.pf cz9]<|
.reg 2 [] [] []<|
 let l:=[(1,(vp 0)),(2,(vp 1)),(3,(AV.d (eL TPo.e h.I.E)))]
 let m:=(AV.full 0 fun _=>DV.b false)
.sh (A:=True) (.pf trivial) l l [(Rd (Rc [(Rc [(vi h.I.P),m]),(AV.d (eL TJo.e h.K)),(AV.d (eL TMe.e h.O))])),i] [(Rd (Rc [(Rc [(vi h.I.P),(Rb 2 0 0 0)]),(AV.d (eL TJo.e h.K)),(AV.d (eL TMe.e h.O))])),i,(eS 7 TPo.e ([]:List TPo))] (fun _=>(z28 (sz:=7) (f:=fun j=>AV.d (TPo.e (([]:List TPo).getD j dF))) (.box _ _ _ _ _ (yv rfl) (TrV.agg (Rk (TrV.agg (Rk (TrV.keep _) (Rk TrV.born TrL.nil))) (Rk (TrV.keep _) (Rk (TrV.keep _) TrL.nil)))) (.keep _ _ _ _ (yv rfl) (.nil _))))) (z1a (k:=0) rfl (Rj _) (z1a (k:=1) rfl (Rj _) (z1a (k:=2) rfl (Rj _) z2n)))<|
.range (h.I.E.length:Int) h.I.E.length rfl (.slot 14) 16 [1,2,14,15] (fun (_:Int×(List TJo)×(List TMe)×(List TPo))=>[]) (fun c=>[(0,(Rd (Rc [(Rc [(vi c.1),(Rb 2 c.2.2.2.length 0 c.2.2.2.length)]),(AV.d (eL TJo.e c.2.1)),(AV.d (eL TMe.e c.2.2.1))]))),(2,(eS 7 TPo.e c.2.2.2))]) (h.I.P,h.K,h.O,([]:List TPo)) (S_q10_b1 h) (fun c => 
.reg 10 [] [] []<|
 let n:=(Rb 2 c.2.2.2.length 0 c.2.2.2.length)
 let o:=[(1,(vp 0)),(2,(vp 1)),(6,(AV.d (eL TJo.e c.2.1)))]
 let p:=(AV.d (eL TMe.e c.2.2.1))
 let q:=(Rc [(vi c.1),n])
.sh (A:=True) (.pf trivial) o o [(Rd (Rc [q,m,p])),i,(eS 7 TPo.e c.2.2.2)] [(Rd (Rc [q,(Rb 3 0 0 0),p])),i,(eS 7 TPo.e c.2.2.2),(eS 3 TJo.e ([]:List TJo))] (fun _=>(z28 (sz:=3) (f:=fun j=>AV.d (TJo.e (([]:List TJo).getD j dF))) (.box _ _ _ _ _ (yv rfl) (TrV.agg (Rk (TrV.keep _) (Rk TrV.born (Rk (TrV.keep _) TrL.nil)))) (.keep _ _ _ _ (yv rfl) (.keep _ _ _ _ (yv rfl) (.nil _)))))) (z1a (k:=0) rfl (Rj _) (z1a (k:=1) rfl (Rj _) (z1a (k:=2) rfl (Rj _) z2n)))<|
.range (c.2.1.length:Int) c.2.1.length rfl (.slot 48) 50 [1,2,48,49] (fun (_:Int×(List TMe)×(List TJo))=>[]) (fun g=>[(0,(Rd (Rc [(Rc [(vi g.1),n]),(Rb 3 g.2.2.length 0 g.2.2.length),(AV.d (eL TMe.e g.2.1))]))),(3,(eS 3 TJo.e g.2.2))]) (c.1,c.2.2.1,([]:List TJo)) (S_q10_b2 c) (fun g => 
.a 17 2 4 (@F_q75_ok g.2.1) fun s=>
.guard [c.2.2.2.length<2 ^ 63]<|
.reg 18 [] [] []<|
.frz 2 (.ev 0) none [] [0,1]<|
.guard [g.2.2.length<2 ^ 63]<|
.frz 3 (.ev 0) none [] [0,1]<|
.r (⟨(⟨g.1,c.2.2.2⟩:TTr),g.2.2,s⟩:TWo)) id) id
def F_q10 (a:TWo):=(S_q10 a).den
theorem F_q10_ok {a:TWo}:FO (F_q10 a) 71 [(TWo.d a)] [] (fun x=>(TWo.d x)) NL:=fO (s:=S_q10 a) Tryz.func71
abbrev R_qa:=TWo×Int
def S_qa_b1 (a:TCa):SC R_qa (Step TCa R_qa) :=
.ite (decide ((a.w.O.length:Int)>0)) (
 let d:=(⟨0,[],0,0,0,0,0,0,0,0⟩:TOp)
.call (@F_q2a_ok (⟨9,0,d,[],0,0,0⟩:TSt) a) fun b e=>
.k 5 2 e [2] 3 false<|
.ite (b.1 != 0) (
.call (@F_q2a_ok (⟨10,0,d,[],0,0,0⟩:TSt) b.2) fun f g=>
.k 6 2 g [2] 3 false<|
.c f.2) (
.c b.2)) (
.r (.brk a))
def S_qa_b2 (a:Nat) (b:TCa):SC R_qa (Step TCa R_qa) :=
.call (@F_qx_ok (i64.wrap ((a:Int)+1)) b) fun d e=>
.k 10 3 e [2] 3 false<|
.c d
def S_qa (g:TWo):SC R_qa R_qa :=
 let c:=(⟨(⟨0,[]⟩:TTr),[],[]⟩:TWo)
.reg 0 [] [(1,{ obs:=[(1,(TWo.b c))] })] [.pf cz9]<|
.a 1 1 2 (@F_qq_ok g) fun h=>
.ite (!h) (
.reg 2 [] [(0,hv (TWo.d c))] [.pf z25]<|
.r (c,1)) (
.iter [1,2,4] (fun (_:TCa)=>[]) (fun e=>[(2,(TCa.b e))]) (⟨g⟩:TCa) S_qa_b1 (fun e =>
.guard [g.K.length<2 ^ 63]<|
.range (g.K.length:Int) g.K.length rfl (.why (.ev 0)) 30 [2,4,29] (fun (_:TCa)=>[]) (fun f=>[(2,(TCa.b f))]) e S_qa_b2 (fun f => 
.a 12 4 3 (@F_q10_ok f.w) fun i=>
.r (i,0)) id) id)
def F_qa (a:TWo):=(S_qa a).den
theorem F_qa_ok {a:TWo}:FO (F_qa a) 33 [(TWo.d a)] [] (fun x=>(Rg [(TWo.d x.1),(vi x.2)])) NL:=fO (s:=S_qa a) Tryz.func33
def S_q57 (i:TWo) (j:Y8) (k:Int) (l:Int):SC (TWo×Int) (TWo×Int) :=
 let e:=(⟨(⟨0,[]⟩:TTr),[],[]⟩:TWo)
.reg 0 [] [(1,{ obs:=[(1,(TWo.b e))] })] [.pf cz9]<|
.a 1 1 2 (@F_qa_ok i) fun c=>
 let g:=(0,hv (TWo.d e))
.ite (c.2 != 0) (
.reg 3 [] [g] [.pf z25]<|
.r (e,c.2)) (
.a 4 5 2 (@F_qi_ok c.1.I j k l) fun f=>
.ite (f.2.2 != 0) (
.reg 6 [] [g] [.pf z25]<|
.r (e,f.2.2)) (
.a 7 1 2 (@F_qa_ok (⟨f.1,c.1.K,c.1.O⟩:TWo)) fun h=>
.r (h.1,h.2)))
def F_q57 (a:TWo) (b:Y8) (c:Int) (d:Int):=(S_q57 a b c d).den
theorem F_q57_ok {a:TWo} {b:Y8} {c:Int} {e:Int}:FO (F_q57 a b c e) 11 [(TWo.d a),(AV.d (Rf b)),(vi c),(vi e)] [] (fun x=>(Rg [(TWo.d x.1),(vi x.2)])) NL:=fO (s:=S_q57 a b c e) Tryz.func11
def S_q7q (g:TWo) (h:Int):SC TWo TWo :=
 let c:=(TWo.b (⟨(⟨0,[]⟩:TTr),[],[]⟩:TWo))
.reg 0 [] [(1,{ obs:=[(1,c)] })] [.pf cz9]<|
.call (@F_q3d_ok g (⟨9,0,(⟨0,[],0,0,0,0,0,0,0,0⟩:TOp),[],0,0,h⟩:TSt)) fun d e=>
.reg 1 [] [(3,hc e [] true),(7,{ obs:=[(2,c)] })] [.cl 0 e [] 2 true,.pf cz9]<|
.ite (d.2 != 0) (
.a 3 2 3 (@F_q46_ok g h) fun f=>
.r f) (
.r d.1)
def F_q7q (a:TWo) (b:Int):=(S_q7q a b).den
theorem F_q7q_ok {a:TWo} {b:Int}:FO (F_q7q a b) 72 [(TWo.d a),(vi b)] [] (fun x=>(TWo.d x)) NL:=fO (s:=S_q7q a b) Tryz.func72
def S_q16 (g:TWo) (h:TSt) (i:Bool):SC TWo TWo :=
 let c:=(TWo.b (⟨(⟨0,[]⟩:TTr),[],[]⟩:TWo))
.reg 0 [] [(2,{ obs:=[(2,c)] })] [.pf cz9]<|
.call (@F_q3d_ok g h) fun a d=>
.reg 1 [] [(2,hc d [] true),(6,{ obs:=[(3,c)] })] [.cl 0 d [] 3 true,.pf cz9]<|
.ite (a.2 != 0) (
.r g) (
.ite (!i) (
.r a.1) (
.call (@F_q3d_ok a.1 (⟨9,0,(⟨0,[],0,0,0,0,0,0,0,0⟩:TOp),[],0,0,(i64.wrap ((a.1.O.length:Int)-1))⟩:TSt)) fun e f=>
.reg 6 [] [(6,hc f [] true),(10,{ obs:=[(4,c)] })] [.cl 0 f [] 4 true,.pf cz9]<|
.ite (e.2 != 0) (
.r a.1) (
.r e.1)))
def F_q16 (a:TWo) (b:TSt) (c:Bool):=(S_q16 a b c).den
theorem F_q16_ok {a:TWo} {b:TSt} {c:Bool}:FO (F_q16 a b c) 73 [(TWo.d a),(TSt.d b),(vb c)] [] (fun x=>(TWo.d x)) NL:=fO (s:=S_q16 a b c) Tryz.func73
abbrev R_q1:=TWo×Int
def S_q1_b1 (b:TWo):SC R_q1 (Step TWo R_q1) :=
.ite (decide ((b.O.length:Int)>0)) (
.a 4 1 2 (@F_q7q_ok b 0) fun d=>
.c d) (
.r (.brk b))
def S_q1_b2 (d:TWo×Int) (g:Nat) (j:TWo):SC R_q1 (Step TWo R_q1) :=
.reg 10 [] [(2,{ obs:=[(2,(TPo.b (⟨[],0,0,[],[],[],[]⟩:TPo)))] })] [.w g,.ev 0,.pf cz1]<|
 let e:=(d.1.I.E.getD g dF)
.a 11 7 3 (@F_q16_ok j (⟨4,d.2,(⟨0,[],0,0,0,0,0,0,0,0⟩:TOp),e.B,e.D,0,0⟩:TSt) true) fun f=>
.call (@F_q3c_ok f d.2) fun k h=>
.reg 12 [] [(2,hc h [] true),(6,{ obs:=[(3,(TOf.b (⟨0,[],(⟨[],[],[],[]⟩:TBo)⟩:TOf)))] })] [.cl 0 h [] 3 true,.pf z18]<|
.a 13 5 4 (@F_q4n_ok k.1 e.B e.D) fun i=>
.ite i.2 (
.a 15 4 5 (@F_q16_ok f (⟨5,d.2,i.1,[],0,0,0⟩:TSt) false) fun l=>
.c l) (
.c f)
def S_q1_b3 (i:TWo×Int) (e:TWo) (d:Nat) (f:TWo):SC R_q1 (Step TWo R_q1) :=
.reg 20 [] [(2,{ obs:=[(2,(TPo.b (⟨[],0,0,[],[],[],[]⟩:TPo)))] })] [.w d,.ev 0,.pf cz1]<|
 let g:=(e.I.E.getD d dF)
.a 21 7 3 (@F_q16_ok f (⟨8,i.2,(⟨0,[],0,0,0,0,0,0,0,0⟩:TOp),g.B,g.D,0,0⟩:TSt) true) fun h=>
.c h
def S_q1_b4 (c:TWo×Int):SC R_q1 (Step (TWo×Int) R_q1) :=
.ite (decide (c.2<=c.1.I.P)) (
.range (c.1.I.E.length:Int) c.1.I.E.length rfl (.slot 32) 34 [1,2,4,32,33] (fun (_:TWo)=>[]) (fun f=>[(0,(TWo.b f))]) c.1 (S_q1_b2 c) (fun f => 
.a 17 3 2 (@F_q16_ok f (⟨6,c.2,(⟨0,[],0,0,0,0,0,0,0,0⟩:TOp),[],0,0,0⟩:TSt) false) fun d=>
.range (d.I.E.length:Int) d.I.E.length rfl (.slot 74) 76 [1,2,4,74,75] (fun (_:TWo)=>[]) (fun e=>[(0,(TWo.b e))]) d (S_q1_b3 c d) (fun e => 
.r (.cont (e,(i64.wrap (c.2+1))))) .ret) .ret) (
.r (.brk (c.1,c.2)))
def S_q1 (h:TWo):SC R_q1 R_q1 :=
 let e:=(⟨(⟨0,[]⟩:TTr),[],[]⟩:TWo)
.reg 0 [] [(1,{ obs:=[(1,(TWo.b e))] })] [.pf cz9]<|
.a 1 1 2 (@F_q0_ok h) fun g=>
.ite (!g) (
.reg 2 [] [(0,hv (TWo.d e))] [.pf z25]<|
.r (e,1)) (
.iter [1,2] (fun (_:TWo)=>[]) (fun f=>[(0,(TWo.b f))]) h S_q1_b1 (fun f =>
.iter [1,2] (fun (c:TWo×Int)=>[(4,(vi c.2))]) (fun c=>[(0,(TWo.b c.1))]) (f,1) S_q1_b4 (fun c =>
.r (c.1,0)) id) id)
def F_q1 (a:TWo):=(S_q1 a).den
theorem F_q1_ok {a:TWo}:FO (F_q1 a) 34 [(TWo.d a)] [] (fun x=>(Rg [(TWo.d x.1),(vi x.2)])) NL:=fO (s:=S_q1 a) Tryz.func34
def S_q11_b1 (d:TPo) (e:Int) (b:Nat) (_:Unit):SC Bool (Step Unit Bool) :=
.reg 9 [] [] [.w b,.ev 0]<|
 let a:=e.toNat
 let c:=(([(d.A.getD a dF),(d.G.getD a dF),(d.F.getD a dF),(d.M.getD a dF)]:List Int).getD b dF)
.ite (cO (decide (c<0)) (decide (c>1000000000000000))) (
.r (.ret false)) (
.r (.cont ()))
def S_q11_b2 (b:TPo) (a:Int):SC Bool (Step Int Bool) :=
.ite (decide (a<(b.A.length:Int))) (
.guard [(0:Int)<=a,a.toNat<b.A.length,a.toNat<b.G.length,a.toNat<b.F.length,a.toNat<b.M.length]<|
 let c:=a.toNat
 let d:=([(b.A.getD c dF),(b.G.getD c dF),(b.F.getD c dF),(b.M.getD c dF)]:List Int)
.reg 7 [] [(20,hv (vl d))] [.ev 0,.ev 1,.ev 0,.ev 2,.ev 0,.ev 3,.ev 0,.ev 4,.pf (z9 Ra d)]<|
.range 4 4 rfl (.why (.pf (p:=4<2 ^ 63) dk)) 66 [1,3,4,64,65] (fun (_:Unit)=>[]) (fun _=>[]) () (S_q11_b1 b a) (fun _ => 
.r (.cont (i64.wrap (a+1)))) .ret) (
.r (.brk a))
def S_q11 (a:TPo):SC Bool Bool :=
 let b:=(a.A.length:Int)
.ite (cO (cO (cO (cO ((a.G.length:Int) != b) ((a.F.length:Int) != b)) ((a.M.length:Int) != b)) (decide (a.T<(-1000000000000000)))) (decide (a.T>1000000000000000))) (
.r false) (
.iter [1,3] (fun (c:Int)=>[(4,(vi c))]) (fun _=>[]) 0 (S_q11_b2 a) (fun _ =>
.r true) id)
def F_q11 (a:TPo):=(S_q11 a).den
theorem F_q11_ok {a:TPo}:FO (F_q11 a) 131 [(TPo.d a)] [] vb NL:=fO (s:=S_q11 a) Tryz.func131
def S_q58 (b:TPo) (a:Int):SC Int Int :=
.guard [(0:Int)<=a,a.toNat<b.A.length,a.toNat<b.G.length,a.toNat<b.M.length]<|
.reg 1 [] [] [.ev 0,.ev 1,.ev 0,.ev 2,.ev 0,.ev 3]<|
 let c:=(i64.wrap ((i64.wrap ((b.A.getD a.toNat dF)-(b.G.getD a.toNat dF)))-(b.M.getD a.toNat dF)))
.r (if c>0 then c else 0)
def F_q58 (a:TPo) (b:Int):=(S_q58 a b).den
theorem F_q58_ok {a:TPo} {b:Int}:FO (F_q58 a b) 133 [(TPo.d a),(vi b)] [] vi NL:=fO (s:=S_q58 a b) Tryz.func133
def S_q59 (b:TPo) (a:Int):SC Int Int :=
.call (@F_q58_ok b a) fun c d=>
.guard [(0:Int)<=a,a.toNat<b.F.length,a.toNat<b.G.length]<|
.reg 1 [] [(14,hc d [] true)] [.ev 0,.ev 1,.ev 0,.ev 2,.cl 3 d [] 1 true]<|
 let e:=(i64.wrap ((b.F.getD a.toNat dF)-(b.G.getD a.toNat dF)))
 let f:=(if e>0 then e else 0)
.r (if c<f then c else f)
def F_q59 (a:TPo) (b:Int):=(S_q59 a b).den
theorem F_q59_ok {a:TPo} {b:Int}:FO (F_q59 a b) 132 [(TPo.d a),(vi b)] [] vi NL:=fO (s:=S_q59 a b) Tryz.func132
end
end Go.Proofs.YtgbpiaddmclccaaGreatDoor
/- What the functions compute,and that their calls return it. No condition. -/
namespace Go.Proofs.YtgbpiaddmclccaaGreatDoor
open Go Go.TA
open Go.IntKind (i64)
noncomputable section
set_option maxRecDepth 100000
theorem zwt:∀ k,k<1->(AV.d ((DV.i .i64) (([0]:List Int).getD k dF))).wd=1:=fun _ _=>rfl
abbrev R_q9:=(List Int)
def S_q9_b1 (q:TPo) (j:Nat) (b:(List Int)×(List Int)×Int):SC R_q9 (Step ((List Int)×(List Int)×Int) R_q9) :=
.a 8 3 3 (@F_q59_ok q (j:Int)) fun r=>
.call (@F_q58_ok q (j:Int)) fun s m=>
.call (@F_q59_ok q (j:Int)) fun t n=>
.guard [(b.1.length+1) * (2 * 8)<=2 ^ 48]<|
 let f:=([(i64.wrap (s-t))]:List Int)
.reg 9 [9] [(3,hc m [] true),(6,hc n [] true),(8,hv (vl f)),(9,{ h:=.obj,cast:=some (Rb 1 ((b.1++f).length) 0 ((b.1++f).length)),obs:=[(1,(eQ (b.1++f)))] })] [.cl 2 m [] 3 true,.cl 1 n [] 3 true,.pf (z9 Ra f),.e b.1.length,.e b.1.length,.pf (p:=∀ k,k<1->(AV.d (Ra (f.getD k dF))).wd=1) (fun _ _=>rfl),.ev 0,.pf (zw (o:=1) (l:=b.1) (x:=f)),.pf (zy (sz:=1) (e:=Ra) (l:=b.1) (x:=f))]<|
.guard [(b.2.1.length+1) * (2 * 8)<=2 ^ 48]<|
 let g:=(b.2.1++([0]:List Int))
.reg 10 [] [(1,hv (vl ([0]:List Int))),(2,{ h:=.obj,cast:=some (Rb 2 g.length 0 g.length),obs:=[(2,(eQ g))] })] [.pf (z9 Ra ([0]:List Int)),.e b.2.1.length,.e b.2.1.length,.pf zwt,.ev 0,.pf (zw (o:=2) (l:=b.2.1) (x:=([0]:List Int))),.pf (zy (sz:=1) (e:=Ra) (l:=b.2.1) (x:=([0]:List Int)))]<|
.c ((b.1++f),g,(i64.wrap (b.2.2-r)))
def S_q9_b2 (a:(List Int)×(List Int)×Int) (g:Nat) (b:Int):SC R_q9 (Step Int R_q9) :=
.guard [(0+g)<a.1.length]<|
.reg 17 [] [] [.e a.1.length,.w g,.ev 1,.e a.1.length,.ev 0]<|
 let h:=(a.1.getD (0+g) dF)
 let d:=(decide (h>0))
 let f:=(decide (b<0))
.guard [AllP [f=false,d=true]->((0:Int)<=b),AllP [f=false,d=true]->(b.toNat<a.1.length),AllP [f=false,d=true]->((0+b.toNat)<a.1.length)]<|
 let i:=(a.1.length=a.1.length)
.reg 18 [] [] [.pf (p:=AllP [f=false,d=true]->i) (fun _=>rfl),.ev 0,.ev 1,.pf (p:=AllP [f=false,d=true]->i) (fun _=>rfl),.ev 2]<|
.ite (bif d then (cO f (decide (h>(a.1.getD (0+b.toNat) dF)))) else false) (
.r (.cont (g:Int))) (
.c b)
def S_q9_b3 (u:TPo) (v:Nat) (a:(List Int)×(List Int)×Int):SC R_q9 (Step ((List Int)×(List Int)×Int) R_q9) :=
.guard [a.1.length<2 ^ 63]<|
.range (a.1.length:Int) a.1.length rfl (.why (.ev 0)) 47 [3,4,5,42,43,45,46] (fun (c:Int)=>[(7,(vi c))]) (fun _=>[]) (-1) (S_q9_b2 a) (fun c => 
.ite (cO (decide (a.2.2<=0)) (decide (c<0))) (
.r (.brk (a.1,a.2.1,a.2.2))) (
 let d:=(0+c.toNat)
.guard [(0:Int)<=c,c.toNat<a.1.length,d<a.1.length,c.toNat<a.2.1.length,d<a.2.1.length]<|
 let m:=(a.1.getD d dF)
 let q:=(if m<a.2.2 then m else a.2.2)
 let f:=(a.2.1.set d q)
 let h:=(eQ f)
.reg 22 [] [(9,{ obs:=[(2,h)] })] [.e a.1.length,.ev 0,.ev 1,.e a.1.length,.ev 2,.e a.2.1.length,.ev 0,.ev 3,.e a.2.1.length,.ev 4,.pf (zk (sz:=1) (e:=Ra) (l:=a.2.1) (i:=d) (x:=q) (fun _=>rfl))]<|
 let n:=(4,(Rb 1 a.1.length 0 a.1.length))
 let o:=(5,(Rb 2 f.length 0 f.length))
 let k:=(42,(vi (u.A.length:Int)))
 let s:=[(TPo.b u),(eQ a.1),h]
 let g:=(43,(vi (v:Int)))
.cst (A:=True) (.pf trivial) [(3,(vi a.2.2)),n,(5,(Rb 2 a.2.1.length 0 a.2.1.length)),(7,(vi c)),k,g] [(3,(vi a.2.2)),n,o,(7,(vi c)),k,g] s s (fun _=>⟨Zb,by rfl⟩)<|
.guard [c.toNat<f.length,d<f.length]<|
.reg 23 [] [] [.e f.length,.ev 2,.ev 0,.e f.length,.ev 1]<|
 let j:=(a.1.set d 0)
.reg 24 [] [(3,{ obs:=[(1,(eQ j))] })] [.e a.1.length,.ev 2,.ev 3,.e a.1.length,.ev 4,.pf (zk (sz:=1) (e:=Ra) (l:=a.1) (i:=d) (x:=0) (fun _=>rfl))]<|
 let p:=(i64.wrap (a.2.2-(f.getD d dF)))
 let t:=[(TPo.b u),(eQ j),h]
.cst (A:=True) (.pf trivial) [(3,(vi p)),n,o,k,g] [(3,(vi p)),(4,(Rb 1 j.length 0 j.length)),o,k,g] t t (fun _=>⟨Zb,by rfl⟩)<|
.r (.cont (j,f,p)))) .ret
def S_q9 (e:TPo):SC R_q9 R_q9 :=
.a 1 1 1 (@F_q11_ok e) fun f=>
.ite (!f) (
.ret [.pf cz7] ([])) (
.a 3 1 1 (@F_q36_ok e) fun g=>
.reg 5 [] [] []<|
.bor 1 (fun j=>AV.d (Ra (([]:List Int).getD j dF))) [4]<|
.bor 1 (fun j=>AV.d (Ra (([]:List Int).getD j dF))) [5]<|
.guard [e.A.length<2 ^ 63]<|
.range (e.A.length:Int) e.A.length rfl (.why (.ev 0)) 18 [1,17] (fun (b:(List Int)×(List Int)×Int)=>[(3,(vi b.2.2)),(4,(Rb 1 b.1.length 0 b.1.length)),(5,(Rb 2 b.2.1.length 0 b.2.1.length))]) (fun b=>[(1,(eQ b.1)),(2,(eQ b.2.1))]) (([]:List Int),([]:List Int),g) (S_q9_b1 e) (fun b => 
.range (e.A.length:Int) e.A.length rfl (.why (.ev 0)) 43 [42] (fun (c:(List Int)×(List Int)×Int)=>[(3,(vi c.2.2)),(4,(Rb 1 c.1.length 0 c.1.length)),(5,(Rb 2 c.2.1.length 0 c.2.1.length))]) (fun c=>[(1,(eQ c.1)),(2,(eQ c.2.1))]) (b.1,b.2.1,b.2.2) (S_q9_b3 e) (fun c => 
.guard [c.2.1.length<2 ^ 63]<|
.reg 26 [] [] []<|
.frz 2 (.ev 0) none [2] []<|
.r c.2.1) id) id)
def F_q9 (a:TPo):=(S_q9 a).den
theorem F_q9_ok {a:TPo}:FO (F_q9 a) 76 [(TPo.d a)] [] vl NL:=fO (s:=S_q9 a) Tryz.func76
abbrev R_q2b:=TTr×(List TMe)×Int
def S_q2b_b1 (u:Y8) (v:Int) (i:(TPo×Bool)) (n:R_q9) (f:Nat) (c:TTr×(List TMe)):SC R_q2b (Step (TTr×(List TMe)) R_q2b) :=
.reg 8 [] [] [.w f,.ev 0]<|
.ite ((n.getD f dF)==0) (
.r (.cont (c.1,c.2))) (
 let q:=(i64.wrap ((i.1.G.getD f dF)-(i.1.F.getD f dF)))
 let s:=(i64.wrap ((f:Int)+1))
.call (@F_q4o_ok c.1 s u v (i64.wrap ((n.getD f dF)+(if q>0 then q else 0)))) fun j m=>
.guard [f<i.1.G.length,f<i.1.F.length]<|
.reg 10 [23,24] [(19,hc m [] true),(23,{ obs:=[(5,(TTr.b (⟨0,[]⟩:TTr)))] })] [.w f,.ev 0,.w f,.ev 0,.w f,.ev 1,.w f,.ev 1,.cl 2 m [] 5 true,.cl 2 m [] 6 true,.pf cz4]<|
.ite (j.2 != 0) (
.r (.cont (c.1,c.2))) (
.a 13 5 6 (@F_q4p_ok j.1 s u v) fun t=>
.guard [(c.2.length+1) * (2 * 72)<=2 ^ 48]<|
 let g:=([t.1]:List TMe)
.reg 14 [] [(2,hv (AV.d (eL TMe.e g))),(3,{ h:=.obj,cast:=some (Rb 4 ((c.2++g).length) 0 ((c.2++g).length)),obs:=[(4,(eS 8 TMe.e (c.2++g)))] })] [.pf (z9 TMe.e g),.e c.2.length,.e c.2.length,.pf (p:=∀ k,k<1->(TMe.d (g.getD k dF)).wd=8) (fun _ _=>rfl),.ev 0,.pf (zw (o:=4) (l:=c.2) (x:=g)),.pf (zy (sz:=8) (e:=TMe.e) (l:=c.2) (x:=g))]<|
.r (.cont (j.1,(c.2++g)))))
def S_q2b (q:TTr) (n:Y8) (o:Int) (s:Int):SC R_q2b R_q2b :=
 let i:=(TTr.b (⟨0,[]⟩:TTr))
.reg 0 [] [(1,{ obs:=[(1,i)] })] [.pf cz4]<|
.call (@F_q1i_ok q n o s) fun f k=>
.reg 1 [] [(4,hc k [] true),(8,{ obs:=[(2,i)] })] [.cl 0 k [] 2 true,.pf cz4]<|
.ite (f.2 != 0) (
 let g:=(TTr.d (⟨0,[]⟩:TTr))
.reg 3 [] [(0,hv g)] [.pf cz5]<|
.ret [.pf (p:=LeV (Rg [g,(AV.full 0 fun _=>DV.b false),(vi f.2)]) (Rg [g,(AV.d (eL TMe.e ([]))),(vi f.2)])) (LeV.tup (LeVs.cons (LeV.refl _) (LeVs.cons (lvN TMe.e) (LeVs.cons (LeV.refl _) LeVs.nil))))] ((⟨0,[]⟩:TTr),[],f.2)) (
.call (@F_q2y_ok f.1 n o) fun l m=>
.reg 4 [] [(3,hc m [] true),(7,{ obs:=[(3,(TPo.b (⟨[],0,0,[],[],[],[]⟩:TPo)))] })] [.cl 0 m [] 3 true,.pf cz1]<|
.a 6 1 4 (@F_q9_ok l.1) fun h=>
.bor 8 (fun j=>AV.d (TMe.e (([]:List TMe).getD j dF))) [15]<|
.range (h.length:Int) h.length rfl (.slot 42) 44 [1,2,8,11,13,42,43] (fun (c:TTr×(List TMe))=>[(15,(Rb 4 c.2.length 0 c.2.length))]) (fun c=>[(2,(TTr.b c.1)),(4,(eS 8 TMe.e c.2))]) (f.1,([]:List TMe)) (S_q2b_b1 n o l h) (fun c => 
.guard [c.2.length<2 ^ 63]<|
.reg 16 [] [] []<|
.frz 4 (.ev 0) none [9] []<|
.r (c.1,c.2,0)) id)
def F_q2b (a:TTr) (b:Y8) (c:Int) (d:Int):=(S_q2b a b c d).den
theorem F_q2b_ok {a:TTr} {b:Y8} {c:Int} {f:Int}:FO (F_q2b a b c f) 35 [(TTr.d a),(AV.d (Rf b)),(vi c),(vi f)] [] (fun x=>(Rg [(TTr.d x.1),(AV.d (eL TMe.e x.2.1)),(vi x.2.2)])) NL:=fO (s:=S_q2b a b c f) Tryz.func35
def S_q5a (j:TWo) (k:Y8) (l:Int) (m:Int):SC (TWo×Int) (TWo×Int) :=
 let e:=(⟨(⟨0,[]⟩:TTr),[],[]⟩:TWo)
.reg 0 [] [(1,{ obs:=[(1,(TWo.b e))] })] [.pf cz9]<|
.a 1 1 2 (@F_q1_ok j) fun c=>
 let g:=(0,hv (TWo.d e))
.ite (c.2 != 0) (
.reg 3 [] [g] [.pf z25]<|
.r (e,c.2)) (
.call (@F_q2b_ok c.1.I k l m) fun f h=>
.reg 4 [] [(5,hc h [] true),(10,{ obs:=[(2,(TTr.b (⟨0,[]⟩:TTr)))] })] [.cl 0 h [] 2 true,.pf cz4]<|
.ite (f.2.2 != 0) (
.reg 6 [] [g] [.pf z25]<|
.r (e,f.2.2)) (
.a 8 1 3 (@F_q1_ok (⟨f.1,c.1.K,c.1.O⟩:TWo)) fun i=>
.r (i.1,i.2)))
def F_q5a (a:TWo) (b:Y8) (c:Int) (d:Int):=(S_q5a a b c d).den
theorem F_q5a_ok {a:TWo} {b:Y8} {c:Int} {e:Int}:FO (F_q5a a b c e) 12 [(TWo.d a),(AV.d (Rf b)),(vi c),(vi e)] [] (fun x=>(Rg [(TWo.d x.1),(vi x.2)])) NL:=fO (s:=S_q5a a b c e) Tryz.func12
def S_q1d_b1 (c:(List Int)) (b:(List Int)) (a:Nat) (_:Unit):SC Bool (Step Unit Bool) :=
.guard [a<b.length]<|
.reg 6 [] [] [.w a,.ev 1,.w a,.ev 0]<|
.ite ((c.getD a dF) != (b.getD a dF)) (
.r (.ret false)) (
.r (.cont ()))
def S_q1d (a:(List Int)) (b:(List Int)):SC Bool Bool :=
.ite ((a.length:Int) != (b.length:Int)) (
.r false) (
.range (a.length:Int) a.length rfl (.slot 0) 13 [0,1,12] (fun (_:Unit)=>[]) (fun _=>[]) () (S_q1d_b1 a b) (fun _ => 
.r true) id)
def F_q1d (a:(List Int)) (b:(List Int)):=(S_q1d a b).den
theorem F_q1d_ok {a:(List Int)} {b:(List Int)}:FO (F_q1d a b) 134 [(vl a),(vl b)] [] vb NL:=fO (s:=S_q1d a b) Tryz.func134
def S_q76 (a:TPo) (b:TPo):SC Bool Bool :=
 let c:=(bif (bif (a.B==b.B) then (a.D==b.D) else false) then (a.T==b.T) else false)
.calld [c=true] dF (@F_q1d_ok a.A b.A) fun k g =>
 let d:=(bif c then k else false)
.calld [d=true] dF (@F_q1d_ok a.G b.G) fun l h =>
 let e:=(bif d then l else false)
.calld [e=true] dF (@F_q1d_ok a.F b.F) fun m i =>
 let f:=(bif e then m else false)
.calld [f=true] dF (@F_q1d_ok a.M b.M) fun n j =>
.reg 1 [] [(24,hc g [] true),(31,hc h [] true),(38,hc i [] true),(45,hc j [] true)] [.clg 6 [c=true] g [] 2 true,.clg 4 [d=true] h [] 2 true,.clg 2 [e=true] i [] 2 true,.clg 0 [f=true] j [] 2 true]<|
.r (bif f then n else false)
def F_q76 (a:TPo) (b:TPo):=(S_q76 a b).den
theorem F_q76_ok {a:TPo} {b:TPo}:FO (F_q76 a b) 77 [(TPo.d a),(TPo.d b)] [] vb NL:=fO (s:=S_q76 a b) Tryz.func77
def S_q2u_b1 (e:TTr) (d:TTr) (a:Nat) (_:Unit):SC Bool (Step Unit Bool) :=
.call (@F_q76_ok (e.E.getD a dF) (d.E.getD a dF)) fun c b=>
.guard [a<d.E.length]<|
.reg 6 [] [(10,hc b [] true)] [.w a,.ev 2,.w a,.ev 0,.cl 1 b [] 2 true]<|
.ite (!c) (
.r (.ret false)) (
.r (.cont ()))
def S_q2u (a:TTr) (b:TTr):SC Bool Bool :=
.ite (cO (a.P != b.P) ((a.E.length:Int) != (b.E.length:Int))) (
.r false) (
.guard [a.E.length<2 ^ 63]<|
.range (a.E.length:Int) a.E.length rfl (.why (.ev 0)) 23 [2,3,22] (fun (_:Unit)=>[]) (fun _=>[]) () (S_q2u_b1 a b) (fun _ => 
.r true) id)
def F_q2u (a:TTr) (b:TTr):=(S_q2u a b).den
theorem F_q2u_ok {a:TTr} {b:TTr}:FO (F_q2u a b) 36 [(TTr.d a),(TTr.d b)] [] vb NL:=fO (s:=S_q2u a b) Tryz.func36
def S_q1m_b1 (e:TJo) (d:TJo) (c:Nat) (_:Unit):SC Bool (Step Unit Bool) :=
.guard [c<d.N.length]<|
.reg 6 [] [] [.w c,.ev 1,.w c,.ev 0]<|
 let a:=(e.N.getD c dF)
 let b:=(d.N.getD c dF)
.ite (!((a.U==b.U)&&((a.B==b.B)&&((a.D==b.D)&&((a.Ab==b.Ab)&&((a.Of==b.Of)&&((a.V==b.V)&&((a.Ah==b.Ah)&&((a.Ai==b.Ai)&&((a.A==b.A)&&((a.Ae==b.Ae)&&true))))))))))) (
.r (.ret false)) (
.r (.cont ()))
def S_q1m (a:TJo) (b:TJo):SC Bool Bool :=
.ite (cO (cO (a.Z != b.Z) (a.Af != b.Af)) ((a.N.length:Int) != (b.N.length:Int))) (
.r false) (
.guard [a.N.length<2 ^ 63]<|
.range (a.N.length:Int) a.N.length rfl (.why (.ev 0)) 30 [2,3,29] (fun (_:Unit)=>[]) (fun _=>[]) () (S_q1m_b1 a b) (fun _ => 
.r true) id)
def F_q1m (a:TJo) (b:TJo):=(S_q1m a b).den
theorem F_q1m_ok {a:TJo} {b:TJo}:FO (F_q1m a b) 37 [(TJo.d a),(TJo.d b)] [] vb NL:=fO (s:=S_q1m a b) Tryz.func37
def S_qg_b1 (e:TWo) (d:TWo) (a:Nat) (_:Unit):SC Bool (Step Unit Bool) :=
.call (@F_q1m_ok (e.K.getD a dF) (d.K.getD a dF)) fun c b=>
.guard [a<d.K.length]<|
.reg 6 [] [(10,hc b [] true)] [.w a,.ev 2,.w a,.ev 0,.cl 1 b [] 2 true]<|
.ite (!c) (
.r (.ret false)) (
.r (.cont ()))
def S_qg_b2 (e:TWo) (d:TWo) (c:Nat) (_:Unit):SC Bool (Step Unit Bool) :=
.guard [c<d.O.length]<|
.reg 12 [] [] [.w c,.ev 1,.w c,.ev 0]<|
 let a:=(e.O.getD c dF)
 let b:=(d.O.getD c dF)
.ite (!((a.Aa==b.Aa)&&((a.To==b.To)&&((a.B==b.B)&&((a.D==b.D)&&((a.A==b.A)&&((a.F==b.F)&&((a.Q==b.Q)&&((a.M==b.M)&&true))))))))) (
.r (.ret false)) (
.r (.cont ()))
def S_qg (b:TWo) (c:TWo):SC Bool Bool :=
.a 1 4 2 (@F_q2u_ok b.I c.I) fun d=>
.ite (cO (cO (!d) ((b.K.length:Int) != (c.K.length:Int))) ((b.O.length:Int) != (c.O.length:Int))) (
.r false) (
.guard [b.K.length<2 ^ 63]<|
.range (b.K.length:Int) b.K.length rfl (.why (.ev 0)) 34 [2,3,33] (fun (_:Unit)=>[]) (fun _=>[]) () (S_qg_b1 b c) (fun _ => 
.guard [b.O.length<2 ^ 63]<|
.range (b.O.length:Int) b.O.length rfl (.why (.ev 0)) 53 [2,3,52] (fun (_:Unit)=>[]) (fun _=>[]) () (S_qg_b2 b c) (fun _ => 
.r true) id) id)
def F_qg (a:TWo) (b:TWo):=(S_qg a b).den
theorem F_qg_ok {a:TWo} {b:TWo}:FO (F_qg a b) 13 [(TWo.d a),(TWo.d b)] [] vb NL:=fO (s:=S_qg a b) Tryz.func13
def S_qr_b1 (j:TWo) (k:Y8) (g:R_q1a) (h:R_q3p) (i:Nat) (b:Nat) (_:Unit):SC Bool (Step Unit Bool) :=
.reg 10 [] [] [.w b,.ev 0]<|
 let c:=(([k,[49]]:List Y8).getD b dF)
 let d:=(([g.1,h.1,j]:List TWo).getD i dF)
.a 11 2 4 (@F_q6m_ok d c 12) fun e=>
.a 12 2 4 (@F_q6n_ok d c 12) fun f=>
.ite (cO (e.1 != f.1) (e.2 != f.2)) (
.r (.ret false)) (
.r (.cont ()))
def S_qr_b2 (A:TWo) (z:Y8) (B:Int) (C:Int) (l:R_q1a) (m:R_q3p) (i:Nat) (_:Unit):SC Bool (Step Unit Bool) :=
 let a:=(TWo.b (⟨(⟨0,[]⟩:TTr),[],[]⟩:TWo))
.reg 7 [] [(2,{ obs:=[(3,a)] })] [.w i,.ev 0,.pf cz9]<|
 let n:=([z,[49]]:List Y8)
.reg 8 [] [(1,hv (AV.d (eL Rf n)))] [.pf (z9 Rf n)]<|
.range 2 2 rfl (.why (.pf (p:=2<2 ^ 63) dk)) 56 [2,3,4,14,47,48,49,54,55] (fun (_:Unit)=>[]) (fun _=>[]) () (S_qr_b1 A z l m i) (fun _ => 
 let c:=(([l.1,m.1,A]:List TWo).getD i dF)
.call (@F_q57_ok c z B C) fun o q=>
.reg 16 [] [(4,hc q [] true),(8,{ obs:=[(4,a)] })] [.cl 0 q [] 4 true,.pf cz9]<|
.call (@F_q5a_ok c z B C) fun s t=>
.reg 17 [] [(4,hc t [] true),(8,{ obs:=[(5,a)] })] [.cl 0 t [] 5 true,.pf cz9]<|
.call (@F_q57_ok c ([49]) 12 40) fun u v=>
.reg 18 [] [(1,hc v [] true),(5,{ obs:=[(6,a)] })] [.cl 0 v [] 6 true,.pf cz9]<|
.call (@F_q5a_ok c ([49]) 12 40) fun e f=>
.reg 19 [] [(1,hc f [] true),(5,{ obs:=[(7,a)] })] [.cl 0 f [] 7 true,.pf cz9]<|
 let j:=(cO (o.2 != s.2) (u.2 != e.2))
.calld [j=false] dF (@F_qg_ok o.1 s.1) fun x g =>
 let k:=(cO j (!x))
.calld [k=false] dF (@F_qg_ok u.1 e.1) fun y h =>
.reg 20 [] [(11,hc g [] true),(17,hc h [] true)] [.clg 2 [j=false] g [] 8 true,.clg 0 [k=false] h [] 8 true]<|
.ite (cO k (!y)) (
.r (.ret false)) (
.r (.cont ()))) .ret
def S_qr (t:(List Int)) (q:TWo) (s:Y8) (u:Int) (v:Int):SC Bool Bool :=
.a 1 1 1 (@F_qd_ok q) fun f=>
.ite (cO (!f) (decide ((s.length:Int)>60))) (
.a 2 0 1 (@F_q4k_ok) fun g=>
.r g) (
.call (@F_q5i_ok t) fun h i=>
.k 3 1 i [] 1 false<|
.call (@F_q1a_ok 2 14 h) fun c j=>
.reg 4 [] [(1,hc j [1] false),(2,{ obs:=[(2,(TWo.b (⟨(⟨0,[]⟩:TTr),[],[]⟩:TWo)))] })] [.cl 0 j [1] 2 false,.pf cz9]<|
.call (@F_q3p_ok c.1 c.2) fun l m=>
 let n:=([c.1,l.1,q]:List TWo)
.reg 5 [3] [(3,hc m [1] false),(5,hv (AV.d (eL TWo.e n)))] [.cl 0 m [1] 3 false,.pf (z9 TWo.e n)]<|
.range 3 3 rfl (.why (.pf (p:=3<2 ^ 63) dk)) 49 [2,3,4,47,48] (fun (_:Unit)=>[]) (fun _=>[]) () (S_qr_b2 q s u v c l) (fun _ => 
.a 23 0 3 (@F_q4k_ok) fun o=>
.r o) id)
def F_qr (a:(List Int)) (b:TWo) (c:Y8) (d:Int) (e:Int):=(S_qr a b c d e).den
theorem F_qr_ok {a:(List Int)} {b:TWo} {c:Y8} {e:Int} {f:Int}:FO (F_qr a b c e f) 3 [(vl a),(TWo.d b),(AV.d (Rf c)),(vi e),(vi f)] [] vb NL:=fO (s:=S_qr a b c e f) Tryz.func3
end
end Go.Proofs.YtgbpiaddmclccaaGreatDoor
