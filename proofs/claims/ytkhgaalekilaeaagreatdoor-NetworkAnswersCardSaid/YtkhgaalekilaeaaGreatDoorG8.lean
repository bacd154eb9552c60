/- A part of the proof: what the functions compute, and that their calls return it. No condition. -/
import Derived.Test.YtkhgaalekilaeaaGreatDoorG7
/- What the functions compute, and that their calls return it. No condition. -/
namespace Go.Proofs.YtkhgaalekilaeaaGreatDoor
open Go Go.TA
open Go.IntKind (i64)
noncomputable section
set_option maxRecDepth 100000
def S_q6v (b:TOf) (f:Y8) (g:Int):SC (TMe×Int) (TMe×Int) :=
.a 1 1 2 (@F_qm_ok b) fun h=>
 let c:=(⟨0,0,[],0,0,0,0,0⟩:TMe)
.ite (!h) (
.r (c,1)) (
.a 3 3 2 (@F_q1h_ok b f g) fun i=>
.ite (decide (i<0)) (
.r (c,6)) (
.call (@F_q2t_ok b f g) fun j d=>
.call (@F_qr_ok b.Ag f g) fun k e=>
.reg 5 [15] [(7,hc d [] true),(13,hc e [] true)] [.cl 1 d [] 2 true,.cl 0 e [] 2 true]<|
.r ((⟨b.Q,0,f,g,0,0,j.S,k⟩:TMe),0)))
def F_q6v (a:TOf) (b:Y8) (c:Int):=(S_q6v a b c).den
theorem F_q6v_ok {a:TOf} {b:Y8} {c:Int}:FO (F_q6v a b c) 121 [(TOf.d a),(AV.d (Rf b)),(vi c)] [] (fun x=>(Rg [(TMe.d x.1),(vi x.2)])) NL:=fO (s:=S_q6v a b c) Tryz.func121
def S_q6w (i:TWo) (e:TSt):SC (TWo×Int) (TWo×Int) :=
 let c:=(⟨(⟨0,[]⟩:TTr),[],[]⟩:TWo)
.reg 0 [] [(2,{ obs:=[(2,(TWo.b c))] })] [.pf cz4]<|
.a 1 3 3 (@F_q2w_ok i e.Z) fun u=>
 let f:=(0,hv (TWo.d c))
.ite (!u) (
.reg 2 [] [f] [.pf cz5]<|
.r (c,6)) (
 let j:=(i64.wrap (e.Z-1))
.guard [(0:Int)<=j,j.toNat<i.J.length]<|
 let m:=(TJo.b (⟨0,[],0⟩:TJo))
.reg 3 [] [(7,{ obs:=[(3,m)] })] [.ev 0,.ev 1,.pf cz2]<|
 let g:=(i.J.getD j.toNat dF)
.ite (e.U==6) (
.call (@F_q6s_ok g) fun v n=>
.call (@F_q40_ok i v) fun w o=>
.reg 6 [4] [(2,hc n [] true),(3,hc o [] true)] [.cl 1 n [] 4 true,.cl 0 o [] 4 true]<|
.r (w,0)) (
.ite (e.U==7) (
.call (@F_q6t_ok g) fun x p=>
.call (@F_q40_ok i x) fun y q=>
.reg 8 [4] [(2,hc p [] true),(3,hc q [] true)] [.cl 1 p [] 4 true,.cl 0 q [] 4 true]<|
.r (y,0)) (
.ite (e.U==5) (
.ite (e.Op.U==8) (
.reg 11 [] [f] [.pf cz5]<|
.r (c,9)) (
.call (@F_q56_ok g e.Op) fun k s=>
.reg 12 [] [(3,hc s [] true),(7,{ obs:=[(4,m)] })] [.cl 0 s [] 4 true,.pf cz2]<|
.ite (k.2 != 0) (
.reg 14 [] [f] [.pf cz5]<|
.r (c,k.2)) (
.a 15 2 5 (@F_q40_ok i k.1) fun z=>
.r (z,0)))) (
.call (@F_q6u_ok g) fun A t=>
.reg 16 [] [(1,hc t [] true),(5,{ obs:=[(4,(TOf.b (⟨0,[],(⟨[],[],[],[]⟩:TBo)⟩:TOf)))] })] [.cl 0 t [] 4 true,.pf z19]<|
.a 17 5 5 (@F_q6v_ok A.1 e.B e.D) fun l=>
.ite (l.2 != 0) (
.reg 19 [] [f] [.pf cz5]<|
.r (c,l.2)) (
.a 20 2 6 (@F_q4i_ok i l.1) fun h=>
.r (h.1,h.2))))))
def F_q6w (a:TWo) (b:TSt):=(S_q6w a b).den
theorem F_q6w_ok {a:TWo} {b:TSt}:FO (F_q6w a b) 71 [(TWo.d a),(TSt.d b)] [] (fun x=>(Rg [(TWo.d x.1),(vi x.2)])) NL:=fO (s:=S_q6w a b) Tryz.func71
def S_q6x (Z:TTr) (z:TMe):SC (TTr×Int) (TTr×Int) :=
 let Q:=(TTr.b (⟨0,[]⟩:TTr))
.reg 0 [] [(2,{ obs:=[(2,Q)] })] [.pf cz7]<|
.a 1 1 3 (@F_q18_ok Z) fun ad=>
 let J:=(TTr.d (⟨0,[]⟩:TTr))
.ite (cO (!ad) (z.To != 0)) (
.reg 2 [] [(0,hv J)] [.pf cz8]<|
.r ((⟨0,[]⟩:TTr),1)) (
.a 3 7 3 (@F_q2y_ok Z z.Aa z.B z.D) fun o=>
.ite (o.2 != 0) (
.reg 5 [] [(0,hv J)] [.pf cz8]<|
.r ((⟨0,[]⟩:TTr),o.2)) (
 let t:=(i64.wrap (z.Aa-1))
 let q:=o.1.toNat
 let s:=(decide (z.S<0))
 let R:=((Z.E.getD q dF).A)
 let Y:=(cO s (decide (z.S>(R.getD t.toNat dF))))
.calld [Y=false] dF (@F_qq_ok z.P) fun ae aa =>
.guard [AllP [s=false]->((0:Int)<=o.1),AllP [s=false]->(o.1.toNat<Z.E.length),AllP [s=false]->((0:Int)<=t),AllP [s=false]->(t.toNat<R.length)]<|
.reg 6 [] [(22,hc aa [] true)] [.ev 0,.ev 1,.ev 2,.ev 3,.clg 4 [Y=false] aa [] 3 true]<|
.ite (cO Y (!ae)) (
.reg 7 [] [(0,hv J)] [.pf cz8]<|
.r ((⟨0,[]⟩:TTr),2)) (
.call (@F_q1r_ok Z q) fun f ab=>
.reg 8 [] [(1,hc ab [] false),(2,{ obs:=[(11,Q)] })] [.cl 0 ab [] 3 false,.pf cz7]<|
.kill 4<|
 let c:=(f.2.getD q dF)
 let g:=(0+t.toNat)
.guard [(0:Int)<=o.1,o.1.toNat<f.2.length,(0:Int)<=t,t.toNat<c.H.length,g<c.H.length]<|
 let U:=(c.H.getD g dF)
 let V:=(if z.S>U then z.S else U)
 let j:=(c.H.set g V)
 let C:=(Ri 6 f.2.length [.x q 7])
 let K:=(Ri 6 f.2.length [.x (0+q) 7])
 let u:=(eQ j)
 let L:=(o.1.toNat=o.1.toNat)
 let v:=c.H.length
.reg 9 [24] [(3,hv C),(12,hv C),(24,{ obs:=[(8,u)] })] [.e f.2.length,.ev 0,.ev 1,.pf (p:=LeV K C) z5c,.e f.2.length,.e f.2.length,.ev 1,.pf (p:=decide L=true) (yb rfl),.e f.2.length,.ev 0,.ev 1,.pf (p:=LeV K C) z5c,.e f.2.length,.e f.2.length,.ev 1,.pf (p:=decide L=true) (yb rfl),.e v,.ev 2,.ev 3,.e v,.ev 4,.e v,.ev 2,.ev 3,.e v,.ev 4,.pf (zo (sz:=1) (e:=Ra) (l:=c.H) (i:=g) (x:=V) (fun _=>rfl))]<|
.guard [t.toNat<c.P.length,g<c.P.length]<|
 let k:=(c.P.set g z.P)
 let w:=(eQ k)
.reg 10 [12] [(3,hv C),(12,{ obs:=[(10,w)] })] [.e f.2.length,.ev 2,.ev 3,.pf (p:=LeV K C) z5c,.e f.2.length,.e f.2.length,.ev 3,.pf (p:=decide L=true) (yb rfl),.e c.P.length,.ev 4,.ev 0,.e c.P.length,.ev 1,.pf (zo (sz:=1) (e:=Ra) (l:=c.P) (i:=g) (x:=z.P) (fun _=>rfl))]<|
.reg 11 [] [] []<|
.guard [j.length=c.H.length/\k.length=c.P.length]<|
 let m:=(TTr.b Z)
 let n:=(TMe.b z)
 let M:=(eQ c.A)
 let N:=(eQ c.G)
 let O:=(AV.d (Rf c.B))
.cst (A:=j.length=c.H.length/\k.length=c.P.length) (.ev 0) [(4,(vp 2)),(5,(vi 0))] [(4,(vp 2)),(5,(vi 0))] [m,n,(Rd (Rc [(vi f.1),(Rb 6 f.2.length 0 f.2.length)])),Re,Re,Re,(opS 7 TPo.e q (Rc [O,(vi c.D),(vi c.T),(Rb 7 c.A.length 0 c.A.length),(Rb 8 c.H.length 0 c.H.length),(Rb 9 c.G.length 0 c.G.length),(Rb 10 c.P.length 0 c.P.length)]) f.2),M,u,N,w,(Rd (Rc [(vi f.1),(Rb 6 f.2.length 0 f.2.length)]))] [m,n,(Rd (Rc [(vi f.1),(Rb 6 f.2.length 0 f.2.length)])),Re,Re,Re,(opS 7 TPo.e q (Rc [O,(vi c.D),(vi c.T),(Rb 7 c.A.length 0 c.A.length),(Rb 8 j.length 0 j.length),(Rb 9 c.G.length 0 c.G.length),(Rb 10 k.length 0 k.length)]) f.2),M,u,N,w,(Rd (Rc [(vi f.1),(Rb 6 f.2.length 0 f.2.length)]))] (fun h=>⟨rfl,by rw[h.1,h.2]⟩)<|
.guard [c.A.length<2 ^ 63/\j.length<2 ^ 63/\c.G.length<2 ^ 63/\k.length<2 ^ 63]<|
 let W:=(⟨c.B,c.D,c.T,c.A,j,c.G,k⟩:TPo)
 let F:=(f.2.set q W)
 let I:=(Rc [(vi f.1),(Rb 6 f.2.length 0 f.2.length)])
 let ac:=[m,n,(Rd I),Re,Re,Re,(eS 7 TPo.e F),Re,Re,Re,Re,(Rd I)]
 let y:=[(4,(vp 2)),(5,(vi 0))]
.sh (A:=c.A.length<2 ^ 63/\j.length<2 ^ 63/\c.G.length<2 ^ 63/\k.length<2 ^ 63) (.ev 0) y y [m,n,(Rd I),Re,Re,Re,(opS 7 TPo.e q (Rc [O,(vi c.D),(vi c.T),(Rb 7 c.A.length 0 c.A.length),(Rb 8 j.length 0 j.length),(Rb 9 c.G.length 0 c.G.length),(Rb 10 k.length 0 k.length)]) f.2),M,u,N,w,(Rd I)] ac (fun h=>z1k oTApiPot (P:=[m,n,(Rd I),Re,Re,Re]) (D:=[(Rd I)]) rfl (⟨c.B,c.D,c.T,[],[],[],[]⟩:TPo) W h rfl) (z17 _)<|
 let X:=(Rc [(vi f.1),(Rb 6 F.length 0 F.length)])
.cst (A:=True) (.pf trivial) y y ac [m,n,(Rd X),Re,Re,Re,(eS 7 TPo.e F),Re,Re,Re,Re,(Rd X)] (fun _=>⟨Zd,Zb⟩)<|
.guard [F.length<2 ^ 63]<|
.frz 6 (.ev 0) none [] [2,11]<|
.r ((⟨f.1,F⟩:TTr),0))))
def F_q6x (a:TTr) (b:TMe):=(S_q6x a b).den
theorem F_q6x_ok {a:TTr} {b:TMe}:FO (F_q6x a b) 173 [(TTr.d a),(TMe.d b)] [] (fun x=>(Rg [(TTr.d x.1),(vi x.2)])) NL:=fO (s:=S_q6x a b) Tryz.func173
def S_q4j (g:TWo) (i:Int):SC TWo TWo :=
.reg 0 [] [(1,{ obs:=[(1,(TWo.b (⟨(⟨0,[]⟩:TTr),[],[]⟩:TWo)))] })] [.pf cz4]<|
 let f:=(i64.wrap (i+1))
 let c:=(g.N.drop f.toNat)
 let a:=(g.N.take i.toNat)
.guard [(0:Int)<=i,i.toNat<=g.N.length,a.length * (2 * 72)<=2 ^ 48,(0:Int)<=f,f.toNat<=g.N.length,(a.length+c.length) * (2 * 72)<=2 ^ 48]<|
.reg 1 [5,11,13] [(4,hv (AV.d (eL TMe.e a))),(5,{ h:=.obj }),(10,hv (AV.d (eL TMe.e c))),(11,{ cast:=some (Rb 2 ((a++c).length) 0 ((a++c).length)),obs:=[(2,(eS 8 TMe.e (a++c)))] })] [.ev 0,.ev 1,.der (fun (h0:i.toNat<=g.N.length)=>lvT TMe.e g.N h0) 1,.pf (p:=∀ k,k<a.length->(TMe.d (a.getD k dF)).wd=8) (fun _ _=>rfl),.ev 2,.ev 3,.ev 4,.pf (lvD TMe.e g.N f.toNat),.ev 3,.ev 4,.pf (lvD TMe.e g.N f.toNat),.e a.length,.e a.length,.pf (p:=∀ k,k<c.length->(TMe.d (c.getD k dF)).wd=8) (fun _ _=>rfl),.ev 5,.pf (zy (o:=2) (l:=a) (x:=c)),.pf (z12 (sz:=8) (e:=TMe.e) (l:=a) (x:=c))]<|
.guard [(a++c).length<2 ^ 63]<|
.frz 2 (.ev 0) none [] [0]<|
.r (⟨g.K,g.J,(a++c)⟩:TWo)
def F_q4j (a:TWo) (b:Int):=(S_q4j a b).den
theorem F_q4j_ok {a:TWo} {b:Int}:FO (F_q4j a b) 123 [(TWo.d a),(vi b)] [] (fun x=>(TWo.d x)) NL:=fO (s:=S_q4j a b) Tryz.func123
def S_q6y (f:TWo) (n:Int):SC (TWo×Int) (TWo×Int) :=
 let e:=(⟨(⟨0,[]⟩:TTr),[],[]⟩:TWo)
.reg 0 [] [(1,{ obs:=[(1,(TWo.b e))] })] [.pf cz4]<|
.guard [(0:Int)<=n,n.toNat<f.N.length]<|
.reg 1 [] [] [.ev 0,.ev 1]<|
.cut none [1,2,4] (fun (_:TWo)=>[]) (fun g=>[(0,(TWo.b g))]) (
 let c:=(f.N.getD n.toNat dF)
 let l:=(0,hv (TWo.d e))
.ite (c.To==0) (
.call (@F_q6x_ok f.K c) fun h m=>
.reg 3 [] [(3,hc m [] true),(7,{ obs:=[(3,(TTr.b (⟨0,[]⟩:TTr)))] })] [.cl 0 m [] 3 true,.pf cz7]<|
.ite (h.2 != 0) (
.reg 5 [] [l] [.pf cz5]<|
.r (.ret (e,h.2))) (
.r (.next (⟨h.1,f.J,f.N⟩:TWo)))) (
 let i:=(i64.wrap (c.To-1))
.call (@F_q56_ok (f.J.getD i.toNat dF) (⟨8,c.B,c.D,0,0,0,0,0,c.A,c.G⟩:TOp)) fun j k=>
.guard [(0:Int)<=i,i.toNat<f.J.length]<|
.reg 7 [20,21] [(16,hc k [] true),(20,{ obs:=[(3,(TJo.b (⟨0,[],0⟩:TJo)))] })] [.ev 0,.ev 1,.ev 0,.ev 1,.cl 2 k [] 3 true,.cl 2 k [] 4 true,.pf cz2]<|
.ite (j.2 != 0) (
.reg 9 [] [l] [.pf cz5]<|
.r (.ret (e,j.2))) (
.a 10 2 4 (@F_q40_ok f j.1) fun o=>
.r (.next o)))) fun g=>
.a 11 2 3 (@F_q4j_ok g n) fun p=>
.r (p,0)
def F_q6y (a:TWo) (b:Int):=(S_q6y a b).den
theorem F_q6y_ok {a:TWo} {b:Int}:FO (F_q6y a b) 122 [(TWo.d a),(vi b)] [] (fun x=>(Rg [(TWo.d x.1),(vi x.2)])) NL:=fO (s:=S_q6y a b) Tryz.func122
def S_q6z (f:TWo) (c:TSt):SC (TWo×Int) (TWo×Int) :=
 let e:=(⟨(⟨0,[]⟩:TTr),[],[]⟩:TWo)
.reg 0 [] [(2,{ obs:=[(2,(TWo.b e))] })] [.pf cz4]<|
.ite (cO (decide (c.Ai<0)) (decide (c.Ai>=(f.N.length:Int)))) (
.reg 2 [] [(0,hv (TWo.d e))] [.pf cz5]<|
.r (e,6)) (
.ite (c.U==9) (
.a 5 3 3 (@F_q6y_ok f c.Ai) fun g=>
.r (g.1,g.2)) (
.ite (c.U==11) (
.call (@F_q4i_ok f (f.N.getD c.Ai.toNat dF)) fun h i=>
.guard [(0:Int)<=c.Ai,c.Ai.toNat<f.N.length]<|
.reg 7 [10] [(7,hc i [] true)] [.ev 0,.ev 1,.cl 2 i [] 3 true]<|
.r (h.1,h.2)) (
.a 8 3 3 (@F_q4j_ok f c.Ai) fun j=>
.r (j,0))))
def F_q6z (a:TWo) (b:TSt):=(S_q6z a b).den
theorem F_q6z_ok {a:TWo} {b:TSt}:FO (F_q6z a b) 72 [(TWo.d a),(TSt.d b)] [] (fun x=>(Rg [(TWo.d x.1),(vi x.2)])) NL:=fO (s:=S_q6z a b) Tryz.func72
def S_q1s (f:TWo) (c:TSt):SC (TWo×Int) (TWo×Int) :=
 let g:=(⟨(⟨0,[]⟩:TTr),[],[]⟩:TWo)
.reg 0 [] [(2,{ obs:=[(2,(TWo.b g))] })] [.pf cz4]<|
.a 1 1 3 (@F_q0_ok f) fun s=>
 let j:=(0,hv (TWo.d g))
.ite (!s) (
.reg 2 [] [j] [.pf cz5]<|
.r (g,1)) (
.reg 3 [] [(2,{ obs:=[(3,(TTr.b (⟨0,[]⟩:TTr)))] })] [.pf cz7]<|
.cut (some 0) [2,4,6] (fun (e:TTr×Int)=>[(7,(vi e.2))]) (fun e=>[(3,(TTr.b e.1))]) (
.ite (c.U==1) (
.a 7 8 4 (@F_q2i_ok f.K c.B c.D c.V) fun m=>
.r (.next (m.1,m.2))) (
.ite (c.U==2) (
.a 9 10 4 (@F_q6p_ok f.K c.Z c.B c.D c.V) fun n=>
.r (.next (n.1,n.2))) (
.ite (c.U==3) (
.a 11 10 4 (@F_q6q_ok f.K c.Z c.B c.D c.V) fun o=>
.r (.next (o.1,o.2))) (
.ite (c.U==4) (
.a 13 8 4 (@F_q6r_ok f.K c.Z c.B c.D) fun k=>
.ite (k.2 != 0) (
.reg 15 [] [j] [.pf cz5]<|
.r (.ret (g,k.2))) (
.a 16 2 5 (@F_q4i_ok f k.1) fun p=>
.r (.ret (p.1,p.2)))) (
.cut none [2,3,4,6,17] (fun (l:Bool)=>[(87,(vb l))]) (fun _=>[]) (
.ite (c.U==5) (
.r (.next (c.U==5))) (
.ite (c.U==6) (
.r (.next (c.U==6))) (
.ite (c.U==7) (
.r (.next (c.U==7))) (
.r (.next (c.U==8)))))) fun l=>
.ite l (
.a 21 2 4 (@F_q6w_ok f c) fun q=>
.r (.ret (q.1,q.2))) (
.cut none [2,3,4,6] (fun (h:Bool)=>[(97,(vb h))]) (fun _=>[]) (
.ite (c.U==9) (
.r (.next (c.U==9))) (
.ite (c.U==10) (
.r (.next (c.U==10))) (
.r (.next (c.U==11))))) fun h=>
.ite h (
.a 25 2 4 (@F_q6z_ok f c) fun i=>
.r (.ret (i.1,i.2))) (
.r (.next (f.K,1))))))))) fun e=>
.ite (e.2 != 0) (
.reg 27 [] [j] [.pf cz5]<|
.r (g,e.2)) (
.r ((⟨e.1,f.J,f.N⟩:TWo),0)))
def F_q1s (a:TWo) (b:TSt):=(S_q1s a b).den
theorem F_q1s_ok {a:TWo} {b:TSt}:FO (F_q1s a b) 24 [(TWo.d a),(TSt.d b)] [] (fun x=>(Rg [(TWo.d x.1),(vi x.2)])) NL:=fO (s:=S_q1s a b) Tryz.func24
abbrev R_q1t:=TTape×(List TSt)
def S_q1t_b1 (z:Int) (A:Int) (a:TTape×TWo×(List TSt)×Int×Int):SC R_q1t (Step (TTape×TWo×(List TSt)×Int×Int) R_q1t) :=
.ite (decide (a.2.2.2.2<A)) (
.call (@F_q2_ok 9 a.1) fun n q=>
 let g:=([0,1,n.1]:List Int)
.call (@F_q6_ok g n.2) fun s t=>
.reg 7 [] [(3,hc q [0] false),(4,hv (vl g)),(5,hc t [0] false)] [.cl 1 q [0] 3 false,.pf (za Ra g),.cl 0 t [0] 3 false]<|
 let u:=(i64.wrap (a.2.2.2.1+s.1))
.call (@F_q3z_ok a.2.1 z a.2.2.2.2 u s.2) fun j y=>
.k 8 5 y [0] 3 false<|
.call (@F_q1s_ok a.2.1 j.1) fun v w=>
.reg 9 [] [(2,hc w [] true),(6,{ obs:=[(4,(TWo.b (⟨(⟨0,[]⟩:TTr),[],[]⟩:TWo)))] })] [.cl 0 w [] 4 true,.pf cz4]<|
.cut none [0,1,2,7,9,10,11,12] (fun (_:TWo)=>[]) (fun m=>[(1,(TWo.b m))]) (
.ite (v.2==0) (
.r (.next v.1)) (
.r (.next a.2.1))) fun m=>
 let c:=([j.1]:List TSt)
.guard [(a.2.2.1.length+c.length) * (2 * 144)<=2 ^ 48]<|
 let f:=(a.2.2.1++c)
.reg 12 [] [(2,{ h:=.obj,obs:=[(5,(eS 16 TSt.e c))] }),(3,{ h:=.obj,cast:=some (Rb 2 f.length 0 f.length),obs:=[(2,(eS 16 TSt.e f))] })] [.pf (z70 (sz:=16) (e:=TSt.e) (l:=c)),.e c.length,.e a.2.2.1.length,.e a.2.2.1.length,.pf (p:=∀ k,k<c.length->(TSt.d (c.getD k dF)).wd=16) (fun _ _=>rfl),.ev 0,.pf (zy (o:=2) (l:=a.2.2.1) (x:=c)),.pf (z12 (sz:=16) (e:=TSt.e) (l:=a.2.2.1) (x:=c))]<|
.r (.cont (j.2,m,f,u,(i64.wrap (a.2.2.2.2+1))))) (
.r (.brk (a.1,a.2.1,a.2.2.1,a.2.2.2.1,a.2.2.2.2)))
def S_q1t (g:Int) (h:Int) (i:TTape):SC R_q1t R_q1t :=
.call (@F_q11_ok g) fun f c=>
.reg 1 [] [(1,hc c [] true),(5,{ obs:=[(1,(TWo.b (⟨(⟨0,[]⟩:TTr),[],[]⟩:TWo)))] })] [.cl 0 c [] 1 true,.pf cz4]<|
.reg 4 [] [] []<|
.bor 16 (fun j=>AV.d (TSt.e (([]:List TSt).getD j dF))) [9]<|
.iter [0,1,2,7] (fun (a:TTape×TWo×(List TSt)×Int×Int)=>[(9,(Rb 2 a.2.2.1.length 0 a.2.2.1.length)),(10,(vi a.2.2.2.1)),(11,(vi a.2.2.2.2))]) (fun a=>[(0,(TTape.b a.1)),(1,(TWo.b a.2.1)),(2,(eS 16 TSt.e a.2.2.1))]) (i,f.1,([]:List TSt),4320,0) (S_q1t_b1 g h) (fun a =>
.reg 13 [] [] []<|
.kill 1<|
.r (a.1,a.2.2.1)) id
def F_q1t (a:Int) (b:Int) (c:TTape):=(S_q1t a b c).den
theorem F_q1t_ok {a:Int} {c:Int} {d:TTape}:FO (F_q1t a c d) 8 [(vp 0),(vi a),(vi c)] [(TTape.b d)] (fun x=>(Rb 2 x.2.length 0 x.2.length)) (fun x=>[(TTape.b x.1),Re,(eS 16 TSt.e x.2)]):=fO (s:=S_q1t a c d) Tryz.func8
abbrev R_q57:=Y8×TTape
def S_q57 (c:TTape):SC R_q57 R_q57 :=
.call (@F_q2_ok 12 c) fun a b=>
.guard [(0:Int)<=a.1,a.1.toNat<12]<|
.reg 1 [] [(0,hv (AV.d (eL Rf ([[],[48],[48,49],[49,46],[46,49],[49,46,46,50],[49,48,48],[49,46,50,46,51,46,52,46,53],[120],[49,32],[57,57,46,57,57,46,57,57,46,57,57],[52]]:List Y8)))),(2,hc b [0] false)] [.pf (za Rf ([[],[48],[48,49],[49,46],[46,49],[49,46,46,50],[49,48,48],[49,46,50,46,51,46,52,46,53],[120],[49,32],[57,57,46,57,57,46,57,57,46,57,57],[52]]:List Y8)),.cl 2 b [0] 1 false,.ev 0,.ev 1]<|
.r ((([[],[48],[48,49],[49,46],[46,49],[49,46,46,50],[49,48,48],[49,46,50,46,51,46,52,46,53],[120],[49,32],[57,57,46,57,57,46,57,57,46,57,57],[52]]:List Y8).getD a.1.toNat dF),a.2)
def F_q57 (a:TTape):=(S_q57 a).den
theorem F_q57_ok {a:TTape}:FO (F_q57 a) 37 [(vp 0)] [(TTape.b a)] (fun x=>(AV.d (Rf x.1))) (fun x=>[(TTape.b x.2)]):=fO (s:=S_q57 a) Tryz.func37
def S_q70 (a:TSt) (w:TTape):SC (TSt×TTape) (TSt×TTape) :=
.call (@F_q2_ok 7 w) fun c s=>
.k 1 1 s [0] 3 false<|
.cut (some 0) [3,4] (fun (_:TTape×TSt)=>[]) (fun d=>[(0,(TTape.b d.1)),(1,(TSt.b d.2))]) (
.ite (c.1==0) (
.call (@F_q16_ok 0 12 c.2) fun e t=>
.k 4 1 t [0] 3 false<|
.r (.next (e.2,(⟨e.1,a.Z,a.Op,a.B,a.D,a.V,a.Ai⟩:TSt)))) (
.ite (c.1==1) (
.call (@F_q6_ok ([(-1),0,7]:List Int) c.2) fun f g=>
.reg 6 [] [(1,hv (vl ([(-1),0,7]:List Int))),(2,hc g [0] false)] [.pf (za Ra ([(-1),0,7]:List Int)),.cl 0 g [0] 3 false]<|
.r (.next (f.2,(⟨a.U,f.1,a.Op,a.B,a.D,a.V,a.Ai⟩:TSt)))) (
.ite (c.1==2) (
.call (@F_q57_ok c.2) fun h u=>
.k 8 1 u [0] 3 false<|
.r (.next (h.2,(⟨a.U,a.Z,a.Op,h.1,a.D,a.V,a.Ai⟩:TSt)))) (
.ite (c.1==3) (
.call (@F_q6_ok ([(-1),13,100]:List Int) c.2) fun j l=>
.reg 10 [] [(1,hv (vl ([(-1),13,100]:List Int))),(2,hc l [0] false)] [.pf (za Ra ([(-1),13,100]:List Int)),.cl 0 l [0] 3 false]<|
.r (.next (j.2,(⟨a.U,a.Z,a.Op,a.B,j.1,a.V,a.Ai⟩:TSt)))) (
.ite (c.1==4) (
.call (@F_q6_ok ([(-1),0,100000,1152921504606846976]:List Int) c.2) fun m n=>
.reg 12 [] [(1,hv (vl ([(-1),0,100000,1152921504606846976]:List Int))),(2,hc n [0] false)] [.pf (za Ra ([(-1),0,100000,1152921504606846976]:List Int)),.cl 0 n [0] 3 false]<|
.r (.next (m.2,(⟨a.U,a.Z,a.Op,a.B,a.D,m.1,a.Ai⟩:TSt)))) (
.ite (c.1==5) (
.call (@F_q6_ok ([(-1),0,50]:List Int) c.2) fun o p=>
.reg 14 [] [(1,hv (vl ([(-1),0,50]:List Int))),(2,hc p [0] false)] [.pf (za Ra ([(-1),0,50]:List Int)),.cl 0 p [0] 3 false]<|
.r (.next (o.2,(⟨a.U,a.Z,a.Op,a.B,a.D,a.V,o.1⟩:TSt)))) (
.call (@F_q16_ok 0 10 c.2) fun q v=>
.k 2 1 v [0] 3 false<|
.r (.next (q.2,(⟨a.U,a.Z,(⟨q.1,a.Op.B,a.Op.D,a.Op.Ab,a.Op.Of,a.Op.V,a.Op.Ah,a.Op.Aj,a.Op.A,a.Op.Ae⟩:TOp),a.B,a.D,a.V,a.Ai⟩:TSt)))))))))) fun d=>
.r (d.2,d.1)
def F_q70 (a:TSt) (b:TTape):=(S_q70 a b).den
theorem F_q70_ok {a:TSt} {c:TTape}:FO (F_q70 a c) 10 [(vp 0),(TSt.d a)] [(TTape.b c)] (fun x=>(TSt.d x.1)) (fun x=>[(TTape.b x.2)]):=fO (s:=S_q70 a c) Tryz.func10
end
end Go.Proofs.YtkhgaalekilaeaaGreatDoor
/- What the functions compute,and that their calls return it. No condition. -/
namespace Go.Proofs.YtkhgaalekilaeaaGreatDoor
open Go Go.TA
open Go.IntKind (i64)
noncomputable section
set_option maxRecDepth 100000
abbrev R_q10:=TWo×(List Int)×Int
def S_q10_b1 (q:(List TSt)) (m:Nat) (a:TWo×(List Int)):SC R_q10 (Step (TWo×(List Int)) R_q10) :=
.reg 9 [] [] [.w m,.ev 0]<|
.call (@F_q1s_ok a.1 (q.getD m dF)) fun g n=>
.reg 10 [] [(2,hc n [] true),(6,{ obs:=[(4,(TWo.b (⟨(⟨0,[]⟩:TTr),[],[]⟩:TWo)))] })] [.cl 0 n [] 4 true,.pf cz4]<|
.cut none [4,7,9,13,27,28,29] (fun (_:TWo)=>[]) (fun j=>[(1,(TWo.b j))]) (
.ite (g.2==0) (
.r (.next g.1)) (
.r (.next a.1))) fun j=>
.guard [(a.2.length+1) * (2 * 8)<=2 ^ 48]<|
 let f:=([g.2]:List Int)
.reg 13 [] [(2,hv (vl f)),(3,{ h:=.obj,cast:=some (Rb 2 ((a.2++f).length) 0 ((a.2++f).length)),obs:=[(2,(eQ (a.2++f)))] })] [.pf (za Ra f),.e a.2.length,.e a.2.length,.pf (p:=∀ k,k<1->(AV.d (Ra (f.getD k dF))).wd=1) (fun _ _=>rfl),.ev 0,.pf (zy (o:=2) (l:=a.2) (x:=f)),.pf (z12 (sz:=1) (e:=Ra) (l:=a.2) (x:=f))]<|
.c (j,(a.2++f))
def S_q10 (k:Int) (h:(List TSt)):SC R_q10 R_q10 :=
 let c:=(⟨(⟨0,[]⟩:TTr),[],[]⟩:TWo)
.reg 0 [] [(0,{ obs:=[(0,(TWo.b c))] })] [.pf cz4]<|
.call (@F_q11_ok k) fun e g=>
.reg 1 [] [(1,hc g [] true),(5,{ obs:=[(1,(TWo.b c))] })] [.cl 0 g [] 1 true,.pf cz4]<|
 let f:=(TWo.d c)
.ite (e.2 != 0) (
.reg 3 [] [(0,hv f)] [.pf cz5]<|
.ret [.pf (p:=LeV (Rg [f,(AV.full 0 fun _=>DV.b false),(vi e.2)]) (Rg [f,(vl ([])),(vi e.2)])) (LeV.tup (LeVs.cons (LeV.refl _) (LeVs.cons (lvN Ra) (LeVs.cons (LeV.refl _) LeVs.nil))))] (c,[],e.2)) (
.ite (decide ((h.length:Int)>200)) (
.reg 5 [] [(0,hv f)] [.pf cz5]<|
.ret [.pf zvk] (c,[],3)) (
.reg 7 [] [] []<|
.bor 1 (fun j=>AV.d (Ra (([]:List Int).getD j dF))) [9]<|
.range (h.length:Int) h.length rfl (.slot 27) 29 [4,7,27,28] (fun (a:TWo×(List Int))=>[(9,(Rb 2 a.2.length 0 a.2.length))]) (fun a=>[(1,(TWo.b a.1)),(2,(eQ a.2))]) (e.1,([]:List Int)) (S_q10_b1 h) (fun a => 
.guard [a.2.length<2 ^ 63]<|
.reg 15 [] [] []<|
.frz 2 (.ev 0) none [5] []<|
.r (a.1,a.2,0)) id))
def F_q10 (a:Int) (b:(List TSt)):=(S_q10 a b).den
theorem F_q10_ok {a:Int} {b:(List TSt)}:FO (F_q10 a b) 12 [(vi a),(AV.d (eL TSt.e b))] [] (fun x=>(Rg [(TWo.d x.1),(vl x.2.1),(vi x.2.2)])) NL:=fO (s:=S_q10 a b) Tryz.func12
def S_q2j_b1 (c:(List Int)) (b:(List Int)) (a:Nat) (_:Unit):SC Bool (Step Unit Bool) :=
.guard [a<b.length]<|
.reg 6 [] [] [.w a,.ev 1,.w a,.ev 0]<|
.ite ((c.getD a dF) != (b.getD a dF)) (
.r (.ret false)) (
.r (.cont ()))
def S_q2j (a:(List Int)) (b:(List Int)):SC Bool Bool :=
.ite ((a.length:Int) != (b.length:Int)) (
.r false) (
.range (a.length:Int) a.length rfl (.slot 0) 13 [0,1,12] (fun (_:Unit)=>[]) (fun _=>[]) () (S_q2j_b1 a b) (fun _ => 
.r true) id)
def F_q2j (a:(List Int)) (b:(List Int)):=(S_q2j a b).den
theorem F_q2j_ok {a:(List Int)} {b:(List Int)}:FO (F_q2j a b) 13 [(vl a),(vl b)] [] vb NL:=fO (s:=S_q2j a b) Tryz.func13
def S_q1i_b1 (c:(List Int)) (b:(List Int)) (a:Nat) (_:Unit):SC Bool (Step Unit Bool) :=
.guard [a<b.length]<|
.reg 6 [] [] [.w a,.ev 1,.w a,.ev 0]<|
.ite ((c.getD a dF) != (b.getD a dF)) (
.r (.ret false)) (
.r (.cont ()))
def S_q1i (a:(List Int)) (b:(List Int)):SC Bool Bool :=
.ite ((a.length:Int) != (b.length:Int)) (
.r false) (
.range (a.length:Int) a.length rfl (.slot 0) 13 [0,1,12] (fun (_:Unit)=>[]) (fun _=>[]) () (S_q1i_b1 a b) (fun _ => 
.r true) id)
def F_q1i (a:(List Int)) (b:(List Int)):=(S_q1i a b).den
theorem F_q1i_ok {a:(List Int)} {b:(List Int)}:FO (F_q1i a b) 143 [(vl a),(vl b)] [] vb NL:=fO (s:=S_q1i a b) Tryz.func143
def S_q71 (a:TPo) (b:TPo):SC Bool Bool :=
 let c:=(bif (bif (a.B==b.B) then (a.D==b.D) else false) then (a.T==b.T) else false)
.calld [c=true] dF (@F_q1i_ok a.A b.A) fun k g =>
 let d:=(bif c then k else false)
.calld [d=true] dF (@F_q1i_ok a.H b.H) fun l h =>
 let e:=(bif d then l else false)
.calld [e=true] dF (@F_q1i_ok a.G b.G) fun m i =>
 let f:=(bif e then m else false)
.calld [f=true] dF (@F_q1i_ok a.P b.P) fun n j =>
.reg 1 [] [(24,hc g [] true),(31,hc h [] true),(38,hc i [] true),(45,hc j [] true)] [.clg 6 [c=true] g [] 2 true,.clg 4 [d=true] h [] 2 true,.clg 2 [e=true] i [] 2 true,.clg 0 [f=true] j [] 2 true]<|
.r (bif f then n else false)
def F_q71 (a:TPo) (b:TPo):=(S_q71 a b).den
theorem F_q71_ok {a:TPo} {b:TPo}:FO (F_q71 a b) 92 [(TPo.d a),(TPo.d b)] [] vb NL:=fO (s:=S_q71 a b) Tryz.func92
def S_q2z_b1 (e:TTr) (d:TTr) (a:Nat) (_:Unit):SC Bool (Step Unit Bool) :=
.call (@F_q71_ok (e.E.getD a dF) (d.E.getD a dF)) fun c b=>
.guard [a<d.E.length]<|
.reg 6 [] [(10,hc b [] true)] [.w a,.ev 2,.w a,.ev 0,.cl 1 b [] 2 true]<|
.ite (!c) (
.r (.ret false)) (
.r (.cont ()))
def S_q2z (a:TTr) (b:TTr):SC Bool Bool :=
.ite (cO (a.O != b.O) ((a.E.length:Int) != (b.E.length:Int))) (
.r false) (
.guard [a.E.length<2 ^ 63]<|
.range (a.E.length:Int) a.E.length rfl (.why (.ev 0)) 23 [2,3,22] (fun (_:Unit)=>[]) (fun _=>[]) () (S_q2z_b1 a b) (fun _ => 
.r true) id)
def F_q2z (a:TTr) (b:TTr):=(S_q2z a b).den
theorem F_q2z_ok {a:TTr} {b:TTr}:FO (F_q2z a b) 40 [(TTr.d a),(TTr.d b)] [] vb NL:=fO (s:=S_q2z a b) Tryz.func40
def S_q1u_b1 (e:TJo) (d:TJo) (c:Nat) (_:Unit):SC Bool (Step Unit Bool) :=
.guard [c<d.M.length]<|
.reg 6 [] [] [.w c,.ev 1,.w c,.ev 0]<|
 let a:=(e.M.getD c dF)
 let b:=(d.M.getD c dF)
.ite (!((a.U==b.U)&&((a.B==b.B)&&((a.D==b.D)&&((a.Ab==b.Ab)&&((a.Of==b.Of)&&((a.V==b.V)&&((a.Ah==b.Ah)&&((a.Aj==b.Aj)&&((a.A==b.A)&&((a.Ae==b.Ae)&&true))))))))))) (
.r (.ret false)) (
.r (.cont ()))
def S_q1u (a:TJo) (b:TJo):SC Bool Bool :=
.ite (cO (cO (a.Z != b.Z) (a.Af != b.Af)) ((a.M.length:Int) != (b.M.length:Int))) (
.r false) (
.guard [a.M.length<2 ^ 63]<|
.range (a.M.length:Int) a.M.length rfl (.why (.ev 0)) 30 [2,3,29] (fun (_:Unit)=>[]) (fun _=>[]) () (S_q1u_b1 a b) (fun _ => 
.r true) id)
def F_q1u (a:TJo) (b:TJo):=(S_q1u a b).den
theorem F_q1u_ok {a:TJo} {b:TJo}:FO (F_q1u a b) 41 [(TJo.d a),(TJo.d b)] [] vb NL:=fO (s:=S_q1u a b) Tryz.func41
def S_qa_b1 (e:TWo) (d:TWo) (a:Nat) (_:Unit):SC Bool (Step Unit Bool) :=
.call (@F_q1u_ok (e.J.getD a dF) (d.J.getD a dF)) fun c b=>
.guard [a<d.J.length]<|
.reg 6 [] [(10,hc b [] true)] [.w a,.ev 2,.w a,.ev 0,.cl 1 b [] 2 true]<|
.ite (!c) (
.r (.ret false)) (
.r (.cont ()))
def S_qa_b2 (e:TWo) (d:TWo) (c:Nat) (_:Unit):SC Bool (Step Unit Bool) :=
.guard [c<d.N.length]<|
.reg 12 [] [] [.w c,.ev 1,.w c,.ev 0]<|
 let a:=(e.N.getD c dF)
 let b:=(d.N.getD c dF)
.ite (!((a.Aa==b.Aa)&&((a.To==b.To)&&((a.B==b.B)&&((a.D==b.D)&&((a.A==b.A)&&((a.G==b.G)&&((a.S==b.S)&&((a.P==b.P)&&true))))))))) (
.r (.ret false)) (
.r (.cont ()))
def S_qa (b:TWo) (c:TWo):SC Bool Bool :=
.a 1 4 2 (@F_q2z_ok b.K c.K) fun d=>
.ite (cO (cO (!d) ((b.J.length:Int) != (c.J.length:Int))) ((b.N.length:Int) != (c.N.length:Int))) (
.r false) (
.guard [b.J.length<2 ^ 63]<|
.range (b.J.length:Int) b.J.length rfl (.why (.ev 0)) 34 [2,3,33] (fun (_:Unit)=>[]) (fun _=>[]) () (S_qa_b1 b c) (fun _ => 
.guard [b.N.length<2 ^ 63]<|
.range (b.N.length:Int) b.N.length rfl (.why (.ev 0)) 53 [2,3,52] (fun (_:Unit)=>[]) (fun _=>[]) () (S_qa_b2 b c) (fun _ => 
.r true) id) id)
def F_qa (a:TWo) (b:TWo):=(S_qa a b).den
theorem F_qa_ok {a:TWo} {b:TWo}:FO (F_qa a b) 14 [(TWo.d a),(TWo.d b)] [] vb NL:=fO (s:=S_qa a b) Tryz.func14
end
end Go.Proofs.YtkhgaalekilaeaaGreatDoor
/- What the functions compute,and that their calls return it. No condition. -/
namespace Go.Proofs.YtkhgaalekilaeaaGreatDoor
open Go Go.TA
open Go.IntKind (i64)
noncomputable section
set_option maxRecDepth 100000
abbrev R_q1j:=Int×TTape×(List TPo)
def V_q1j (x:R_q1j):AV:=(AV.agg [(vi x.1),(AV.ref 4 x.2.2.length 0 x.2.2.length)])
def L_q1j (x:R_q1j):List Ob:=[(TTape.b x.2.1),Ob.dead,(Ob.box (AV.agg [(vi x.1),(AV.ref 4 x.2.2.length 0 x.2.2.length)])),Ob.dead,(eS 7 TPo.e x.2.2)]
def S_q1j_b1 (i0:Nat) (F:TTr) (I:TTape) (t:Nat) (f:Int×(List TPo)):SC R_q1j (Step (Int×(List TPo)) R_q1j) :=
.reg 4 [] [(2,{ obs:=[(9,(TPo.b (⟨[],0,0,[],[],[],[]⟩:TPo)))] })] [.w t,.ev 0,.pf cz1]<|
 let a:=(F.E.getD t dF)
.guard [a.A.length * (2 * 8)<=2 ^ 48]<|
.reg 5 [] [(3,{ h:=.obj })] [.pf (p:=∀ k,k<a.A.length->(AV.d (Ra (a.A.getD k dF))).wd=1) (fun _ _=>rfl),.ev 0]<|
.guard [a.H.length * (2 * 8)<=2 ^ 48]<|
.reg 6 [] [(3,{ h:=.obj })] [.pf (p:=∀ k,k<a.H.length->(AV.d (Ra (a.H.getD k dF))).wd=1) (fun _ _=>rfl),.ev 0]<|
.guard [a.G.length * (2 * 8)<=2 ^ 48]<|
.reg 7 [] [(3,{ h:=.obj })] [.pf (p:=∀ k,k<a.G.length->(AV.d (Ra (a.G.getD k dF))).wd=1) (fun _ _=>rfl),.ev 0]<|
.guard [a.P.length * (2 * 8)<=2 ^ 48]<|
.reg 8 [] [(3,{ h:=.obj })] [.pf (p:=∀ k,k<a.P.length->(AV.d (Ra (a.P.getD k dF))).wd=1) (fun _ _=>rfl),.ev 0]<|
.guard [(f.2.length+1) * (2 * 128)<=2 ^ 48]<|
 let g:=(Rc [(AV.d (Rf a.B)),(vi a.D),(vi a.T),(rr 10 a.A),(rr 11 a.H),(rr 12 a.G),(rr 13 a.P)])
 let n:=(f.2.getD i0 dF)
 let s:=(Rc [(AV.d (Rf n.B)),(vi n.D),(vi n.T),(rr 5 n.A),(rr 6 n.H),(rr 7 n.G),(rr 8 n.P)])
 let m:=(f.2++[a])
 let y:=(Rb 4 m.length 0 m.length)
.reg 9 [] [(3,{ h:=.obj }),(4,{ h:=.obj,cast:=some y,obs:=[(4,(Ob.seq 7 m.length (catF f.2.length (fun j=>AV.sel (decide (j=i0)) 7 s (TPo.d (f.2.getD j dF))) (listF AV.bot [g]))))] })] [.e 1,.e f.2.length,.e f.2.length,.pf (p:=∀ k,k<1->(listF AV.bot [g] k).wd=7) (fun k hk=>by obtain rfl:k=0:=om; rfl),.ev 0,.pf (zy (o:=4) (l:=f.2) (x:=[a])),.pf (p:=OLe (Ob.seq 7 (f.2.length+1) (catF f.2.length (fun j=>AV.sel (decide (j=i0)) 7 s (TPo.d (f.2.getD j dF))) (listF AV.bot [g]))) (Ob.seq 7 m.length (catF f.2.length (fun j=>AV.sel (decide (j=i0)) 7 s (TPo.d (f.2.getD j dF))) (listF AV.bot [g])))) (zfe zd8)]<|
 let z:=((f.2.length=i0->0<a.A.length/\0<a.H.length/\0<a.G.length/\0<a.P.length)/\(a.A.length<2 ^ 63/\a.H.length<2 ^ 63/\a.G.length<2 ^ 63/\a.P.length<2 ^ 63))
.guard [z]<|
 let C:=[(0,(vp 0)),(4,(vp 2)),(5,(vp 3)),(14,(AV.d (eL TPo.e F.E))),(15,(vi (F.E.length:Int))),(16,(vi (t:Int)))]
 let u:=(TTr.b (⟨0,[]⟩:TTr))
 let v:=(Rc [(vi f.1),y])
 let q:=(TTape.b I)
 let r:=(TTr.b F)
.sh (A:=z) (.ev 0) C C [q,r,u,(Rd v),(Ob.seq 7 m.length (catF f.2.length (fun j=>AV.sel (decide (j=i0)) 7 s (TPo.d (f.2.getD j dF))) (listF AV.bot [g]))),(eQ (opQ TPo.A i0 f.2)),(eQ (opQ TPo.H i0 f.2)),(eQ (opQ TPo.G i0 f.2)),(eQ (opQ TPo.P i0 f.2)),(Rd g),(eQ a.A),(eQ a.H),(eQ a.G),(eQ a.P),(Ob.seq 7 1 (listF AV.bot [g]))] [q,r,u,(Rd v),(oTApiPot.R 5 i0 m),(eQ (opQ TPo.A i0 m)),(eQ (opQ TPo.H i0 m)),(eQ (opQ TPo.G i0 m)),(eQ (opQ TPo.P i0 m)),(Rd g),Re,Re,Re,Re,(Ob.seq 7 1 (listF AV.bot [g]))] (fun h=>z7c oTApiPot (P:=[q,r,u,(Rd v)]) (D:=[(Rd g)]) (E:=[(Ob.seq 7 1 (listF AV.bot [g]))]) (i:=i0) (l:=f.2) (x:=a) rfl rfl (fun j hj=>z1u hj) ziw h.1 h.2) (z17 _)<|
.c (f.1,f.2++[a])
def S_q1j (i0:Nat) (a1:TTr) (p0:TTape):SC R_q1j R_q1j :=
 let q:=(TTr.b (⟨0,[]⟩:TTr))
.reg 0 [] [(1,{ obs:=[(2,q)] })] [.pf cz7]<|
.reg 1 [] [(2,{ h:=.obj }),(3,{ h:=.obj })] []<|
 let g:=(TTr.b a1)
 let ag:=(Rc [(vi a1.O),(Rb 4 0 0 0)])
 let N:=(TTape.b p0)
 let bm:=[N,g,q,(Rd ag),(eS 7 TPo.e ([]:List TPo))]
 let bn:=[(0,(vp 0)),(3,(vp 1)),(4,(vp 2)),(5,(vp 3))]
.sh (A:=True) (.pf trivial) bn bn [N,g,q,(Rd (Rc [(vi a1.O),(AV.full 0 fun _=>DV.b false)]))] bm (fun _=>(z1y (sz:=7) (f:=fun j=>AV.d (TPo.e (([]:List TPo).getD j dF))) (.keep _ _ _ _ (yw rfl) (.keep _ _ _ _ (yw rfl) (.keep _ _ _ _ (yw rfl) (.box _ _ _ _ _ (yw rfl) (TrV.agg (Rk (TrV.keep _) (Rk TrV.born TrL.nil))) (.nil _))))))) (z1a (k:=0) rfl (Rj _) (z1a (k:=1) rfl (Rj _) (z1a (k:=2) rfl (Rj _) (z1a (k:=3) rfl (Rj _) z2l))))<|
.reg 2 [] [] []<|
 let ah:=[(0,(vp 0)),(4,(vp 2)),(5,(vp 3)),(14,(AV.d (eL TPo.e a1.E))),(15,(vi (a1.E.length:Int))),(16,(vi 0))]
 let bo:=[N,g,q,(Rd ag),(oTApiPot.R 5 i0 [])]
.sh (A:=True) (.pf trivial) ah ah bm bo (fun _=>zgo (P:=[N,g,q,(Rd ag)]) (D:=[]) (b:=(oTApiPot.R 5 i0 [])) zki) (z17 _)<|
.sh (A:=True) (.pf trivial) ah ah bo [N,g,q,(Rd ag),(oTApiPot.R 5 i0 []),(eQ (opQ TPo.A i0 ([]:List TPo))),(eQ (opQ TPo.H i0 ([]:List TPo))),(eQ (opQ TPo.G i0 ([]:List TPo))),(eQ (opQ TPo.P i0 ([]:List TPo)))] (fun _=>z8d) (z17 _)<|
.range (a1.E.length:Int) a1.E.length rfl (.slot 14) 16 [0,4,5,14,15] (fun (_:Int×(List TPo))=>[]) (fun X=>[(3,(Rd (Rc [(vi X.1),(Rb 4 X.2.length 0 X.2.length)]))),(4,(oTApiPot.R 5 i0 X.2)),(5,(eQ (opQ TPo.A i0 X.2))),(6,(eQ (opQ TPo.H i0 X.2))),(7,(eQ (opQ TPo.G i0 X.2))),(8,(eQ (opQ TPo.P i0 X.2)))]) (a1.O,([]:List TPo)) (S_q1j_b1 i0 a1 p0) (fun c =>
 let Y:=((c.2.length:Int)==0)
.calld [Y=false] (dF,p0) (@F_q2_ok 6 p0) fun az cp =>
 let a:=(c.2.getD i0 dF)
 let m:=(Rc [(vi c.1),(Rb 4 c.2.length 0 c.2.length)])
 let K:=(Rb 7 a.G.length 0 a.G.length)
 let F:=a.A.length
 let Q:=(Rb 5 F 0 F)
 let ai:=a.H.length
 let S:=(Rb 6 ai 0 ai)
 let aj:=a.P.length
 let U:=(Rb 8 aj 0 aj)
 let w:=(AV.d (Rf a.B))
 let Z:=(Rc [w,(vi a.D),(vi a.T),Q,S,K,U])
 let ak:=(eQ (opQ TPo.A i0 c.2))
 let al:=(eQ (opQ TPo.H i0 c.2))
 let am:=(eQ (opQ TPo.G i0 c.2))
 let an:=(eQ (opQ TPo.P i0 c.2))
 let ao:=(TTape.b az.2)
 let ba:=[ao,g,q,(Rd m),(opS 7 TPo.e i0 Z c.2),ak,al,am,an]
.reg 11 [] [(6,hc cp [0] false)] [.clg 0 [Y=false] cp [0] 9 false,.der (fun (h:¬ AllP [Y=false]->(dF,p0)=az) (hn:¬ AllP [Y=false])=>(by obtain rfl:=h hn; rfl:[N,g,q,(Rd m),(opS 7 TPo.e i0 Z c.2),ak,al,am,an]=ba)) 1]<|
 let bp:=(cO Y (az.1==5))
 let ap:=[(0,(vp 0)),(4,(vp 2)),(5,(vp 3)),(55,(vb bp))]
.ite bp (
.guard [c.2.length<=i0]<|
.sh (A:=c.2.length<=i0) (.ev 0) ap ap ba [ao,g,q,(Rd m),(eS 7 TPo.e c.2),ak,al,am,an] (fun h=>zgo (P:=[ao,g,q,(Rd m)]) (D:=[ak,al,am,an]) (zrn h)) (z17 _)<|
.kill 5<|
.kill 6<|
.kill 7<|
.kill 8<|
.call (@F_q6_ok ([0,1,6,7]:List Int) az.2) fun cq cr=>
.reg 12 [] [(1,hv (vl ([0,1,6,7]:List Int))),(2,hc cr [0] false)] [.pf (za Ra ([0,1,6,7]:List Int)),.cl 0 cr [0] 9 false]<|
.reg 13 [] [] []<|
.kill 1<|
.kill 3<|
.r (cq.1,cq.2,c.2)) (
.guard [i0<c.2.length]<|
 let s:=(eQ a.G)
 let t:=(eQ a.P)
 let z:=(eQ a.A)
 let C:=(eQ a.H)
.cst (A:=i0<c.2.length) (.ev 0) ap ap ba [ao,g,q,(Rd m),(opS 7 TPo.e i0 Z c.2),z,C,s,t] (fun h=>⟨rfl,by simp +zetaDelta only[zix h]⟩)<|
.call (@F_q2_ok (c.2.length:Int) az.2) fun bb cs=>
.guard [(0:Int)<=bb.1,bb.1.toNat<c.2.length]<|
.reg 14 [6] [(6,hc cs [0] false)] [.cl 2 cs [0] 9 false,.e c.2.length,.ev 0,.ev 1]<|
.guard [bb.1.toNat=i0]<|
 let bq:=(Ri 4 c.2.length [.x i0 7])
.lev 8 bq (.der (fun (h:bb.1.toNat=i0)=>zts (o:=4) (st:=c.2.length) (sz:=7) (r:=[]) h) 0)<|
.call (@F_q2_ok (a.A.length:Int) bb.2) fun af ct=>
.reg 15 [] [(6,hc ct [0] false)] [.e c.2.length,.e c.2.length,.ev 5,.pf (p:=decide (i0=i0)=true) (yb rfl),.cl 0 ct [0] 9 false]<|
.call (@F_q2_ok 7 af.2) fun v cy=>
.k 16 1 cy [0] 9 false<|
.ite (v.1==0) (
.call (@F_q57_ok v.2) fun bc cu=>
 let bi:=(Rc [(AV.d (Rf bc.1)),(vi a.D),(vi a.T),Q,S,K,U])
.reg 19 [] [(2,hc cu [0] false),(5,{ obs:=[(4,(opS 7 TPo.e i0 bi c.2))] })] [.cl 0 cu [0] 9 false,.e c.2.length,.e c.2.length,.ev 8,.pf (p:=decide (i0=i0)=true) (yb rfl),.pf (p:=OLe (Ob.seq 7 c.2.length fun j=>if j=i0 then bi else AV.sel (decide (j=i0)) 7 Z (TPo.d (c.2.getD j dF))) (opS 7 TPo.e i0 bi c.2)) (z67 rfl)]<|
.reg 30 [] [] []<|
.guard [a.A.length<2 ^ 63/\a.H.length<2 ^ 63/\a.G.length<2 ^ 63/\a.P.length<2 ^ 63]<|
 let br:=(⟨bc.1,a.D,a.T,a.A,a.H,a.G,a.P⟩:TPo)
 let aa:=(c.2.set i0 br)
 let aq:=(TTape.b bc.2)
 let bs:=[aq,g,(Rd m),(Rd m),(eS 7 TPo.e aa),Re,Re,Re,Re]
.sh (A:=a.A.length<2 ^ 63/\a.H.length<2 ^ 63/\a.G.length<2 ^ 63/\a.P.length<2 ^ 63) (.ev 0) [(4,(vp 2))] [(4,(vp 2))] [aq,g,(Rd m),(Rd m),(opS 7 TPo.e i0 bi c.2),z,C,s,t] bs (fun h=>z1k oTApiPot (P:=[aq,g,(Rd m),(Rd m)]) (D:=[]) rfl (⟨bc.1,a.D,a.T,[],[],[],[]⟩:TPo) br h rfl) (z17 _)<|
 let bt:=(Rc [(vi c.1),(Rb 4 aa.length 0 aa.length)])
.cst (A:=True) (.pf trivial) [(4,(vp 2))] [(4,(vp 2))] bs [aq,g,(Rd bt),(Rd bt),(eS 7 TPo.e aa),Re,Re,Re,Re] (fun _=>⟨Zd,Zb⟩)<|
.kill 1<|
.kill 3<|
.r (c.1,bc.2,aa)) (
.ite (v.1==1) (
.call (@F_q6_ok ([(-1),99,100]:List Int) v.2) fun bd cv=>
 let bj:=(Rc [w,(vi bd.1),(vi a.T),Q,S,K,U])
.reg 21 [] [(2,hv (vl ([(-1),99,100]:List Int))),(3,hc cv [0] false),(6,{ obs:=[(4,(opS 7 TPo.e i0 bj c.2))] })] [.pf (za Ra ([(-1),99,100]:List Int)),.cl 0 cv [0] 9 false,.e c.2.length,.e c.2.length,.ev 9,.pf (p:=decide (i0=i0)=true) (yb rfl),.pf (p:=OLe (Ob.seq 7 c.2.length fun j=>if j=i0 then bj else AV.sel (decide (j=i0)) 7 Z (TPo.d (c.2.getD j dF))) (opS 7 TPo.e i0 bj c.2)) (z67 rfl)]<|
.reg 30 [] [] []<|
.guard [a.A.length<2 ^ 63/\a.H.length<2 ^ 63/\a.G.length<2 ^ 63/\a.P.length<2 ^ 63]<|
 let bu:=(⟨a.B,bd.1,a.T,a.A,a.H,a.G,a.P⟩:TPo)
 let ab:=(c.2.set i0 bu)
 let ar:=(TTape.b bd.2)
 let bv:=[ar,g,(Rd m),(Rd m),(eS 7 TPo.e ab),Re,Re,Re,Re]
.sh (A:=a.A.length<2 ^ 63/\a.H.length<2 ^ 63/\a.G.length<2 ^ 63/\a.P.length<2 ^ 63) (.ev 0) [(4,(vp 2))] [(4,(vp 2))] [ar,g,(Rd m),(Rd m),(opS 7 TPo.e i0 bj c.2),z,C,s,t] bv (fun h=>z1k oTApiPot (P:=[ar,g,(Rd m),(Rd m)]) (D:=[]) rfl (⟨a.B,bd.1,a.T,[],[],[],[]⟩:TPo) bu h rfl) (z17 _)<|
 let bw:=(Rc [(vi c.1),(Rb 4 ab.length 0 ab.length)])
.cst (A:=True) (.pf trivial) [(4,(vp 2))] [(4,(vp 2))] bv [ar,g,(Rd bw),(Rd bw),(eS 7 TPo.e ab),Re,Re,Re,Re] (fun _=>⟨Zd,Zb⟩)<|
.kill 1<|
.kill 3<|
.r (c.1,bd.2,ab)) (
.ite (v.1==2) (
.call (@F_q6_ok ([(-1000000000000001),1000000000000000,1000000000000001]:List Int) v.2) fun be cw=>
 let bk:=(Rc [w,(vi a.D),(vi be.1),Q,S,K,U])
.reg 23 [] [(2,hv (vl ([(-1000000000000001),1000000000000000,1000000000000001]:List Int))),(3,hc cw [0] false),(6,{ obs:=[(4,(opS 7 TPo.e i0 bk c.2))] })] [.pf (za Ra ([(-1000000000000001),1000000000000000,1000000000000001]:List Int)),.cl 0 cw [0] 9 false,.e c.2.length,.e c.2.length,.ev 10,.pf (p:=decide (i0=i0)=true) (yb rfl),.pf (p:=OLe (Ob.seq 7 c.2.length fun j=>if j=i0 then bk else AV.sel (decide (j=i0)) 7 Z (TPo.d (c.2.getD j dF))) (opS 7 TPo.e i0 bk c.2)) (z67 rfl)]<|
.reg 30 [] [] []<|
.guard [a.A.length<2 ^ 63/\a.H.length<2 ^ 63/\a.G.length<2 ^ 63/\a.P.length<2 ^ 63]<|
 let bx:=(⟨a.B,a.D,be.1,a.A,a.H,a.G,a.P⟩:TPo)
 let ac:=(c.2.set i0 bx)
 let au:=(TTape.b be.2)
 let bz:=[au,g,(Rd m),(Rd m),(eS 7 TPo.e ac),Re,Re,Re,Re]
.sh (A:=a.A.length<2 ^ 63/\a.H.length<2 ^ 63/\a.G.length<2 ^ 63/\a.P.length<2 ^ 63) (.ev 0) [(4,(vp 2))] [(4,(vp 2))] [au,g,(Rd m),(Rd m),(opS 7 TPo.e i0 bk c.2),z,C,s,t] bz (fun h=>z1k oTApiPot (P:=[au,g,(Rd m),(Rd m)]) (D:=[]) rfl (⟨a.B,a.D,be.1,[],[],[],[]⟩:TPo) bx h rfl) (z17 _)<|
 let ca:=(Rc [(vi c.1),(Rb 4 ac.length 0 ac.length)])
.cst (A:=True) (.pf trivial) [(4,(vp 2))] [(4,(vp 2))] bz [au,g,(Rd ca),(Rd ca),(eS 7 TPo.e ac),Re,Re,Re,Re] (fun _=>⟨Zd,Zb⟩)<|
.kill 1<|
.kill 3<|
.r (c.1,be.2,ac)) (
 let av:=(⟨a.B,a.D,a.T,[],[],[],[]⟩:TPo)
 let I:=(0+af.1.toNat)
.ite (v.1==3) (
.call (@F_q6_ok ([(-1),0,1000000000000000,1000000000000001]:List Int) v.2) fun aw cb=>
.guard [(0:Int)<=af.1,af.1.toNat<a.A.length,I<a.A.length]<|
 let y:=(a.A.set I aw.1)
 let ax:=(eQ y)
.reg 25 [7,9] [(6,hv (vl ([(-1),0,1000000000000000,1000000000000001]:List Int))),(7,hc cb [0] false),(9,{ obs:=[(5,ax)] })] [.e c.2.length,.e c.2.length,.e c.2.length,.ev 14,.pf (p:=decide (i0=i0)=true) (yb rfl),.e c.2.length,.ev 14,.pf (p:=decide (i0=i0)=true) (yb rfl),.pf (za Ra ([(-1),0,1000000000000000,1000000000000001]:List Int)),.cl 3 cb [0] 9 false,.e F,.ev 0,.ev 1,.e F,.ev 2,.pf (zo (sz:=1) (e:=Ra) (l:=a.A) (i:=I) (x:=aw.1) (fun _=>rfl))]<|
.reg 30 [] [] []<|
.guard [y.length=a.A.length]<|
 let V:=(TTape.b aw.2)
.cst (A:=y.length=a.A.length) (.ev 0) [(4,(vp 2))] [(4,(vp 2))] [V,g,(Rd (Rc [(vi c.1),(Rb 4 c.2.length 0 c.2.length)])),(Rd (Rc [(vi c.1),(Rb 4 c.2.length 0 c.2.length)])),(opS 7 TPo.e i0 (Rc [w,(vi a.D),(vi a.T),(Rb 5 a.A.length 0 a.A.length),(Rb 6 a.H.length 0 a.H.length),(Rb 7 a.G.length 0 a.G.length),(Rb 8 a.P.length 0 a.P.length)]) c.2),ax,C,s,t] [V,g,(Rd (Rc [(vi c.1),(Rb 4 c.2.length 0 c.2.length)])),(Rd (Rc [(vi c.1),(Rb 4 c.2.length 0 c.2.length)])),(opS 7 TPo.e i0 (Rc [w,(vi a.D),(vi a.T),(Rb 5 y.length 0 y.length),(Rb 6 a.H.length 0 a.H.length),(Rb 7 a.G.length 0 a.G.length),(Rb 8 a.P.length 0 a.P.length)]) c.2),ax,C,s,t] (fun h=>⟨rfl,by rw[h]⟩)<|
.guard [y.length<2 ^ 63/\a.H.length<2 ^ 63/\a.G.length<2 ^ 63/\a.P.length<2 ^ 63]<|
 let cc:=(⟨a.B,a.D,a.T,y,a.H,a.G,a.P⟩:TPo)
 let bf:=(c.2.set i0 cc)
 let cd:=[V,g,(Rd m),(Rd m),(eS 7 TPo.e bf),Re,Re,Re,Re]
.sh (A:=y.length<2 ^ 63/\a.H.length<2 ^ 63/\a.G.length<2 ^ 63/\a.P.length<2 ^ 63) (.ev 0) [(4,(vp 2))] [(4,(vp 2))] [V,g,(Rd m),(Rd m),(opS 7 TPo.e i0 (Rc [w,(vi a.D),(vi a.T),(Rb 5 y.length 0 y.length),S,K,U]) c.2),ax,C,s,t] cd (fun h=>z1k oTApiPot (P:=[V,g,(Rd m),(Rd m)]) (D:=[]) rfl av cc h rfl) (z17 _)<|
 let ce:=(Rc [(vi c.1),(Rb 4 bf.length 0 bf.length)])
.cst (A:=True) (.pf trivial) [(4,(vp 2))] [(4,(vp 2))] cd [V,g,(Rd ce),(Rd ce),(eS 7 TPo.e bf),Re,Re,Re,Re] (fun _=>⟨Zd,Zb⟩)<|
.kill 1<|
.kill 3<|
.r (c.1,aw.2,bf)) (
.ite (v.1==4) (
.call (@F_q2_ok 2 v.2) fun bg cf=>
.guard [(0:Int)<=af.1,af.1.toNat<a.A.length,I<a.A.length,af.1.toNat<a.H.length,I<a.H.length]<|
 let cg:=(i64.wrap ((a.A.getD I dF)+bg.1))
 let M:=(a.H.set I cg)
 let ay:=(eQ M)
.reg 27 [13,16] [(13,hc cf [0] false),(16,{ obs:=[(6,ay)] })] [.e c.2.length,.e c.2.length,.e c.2.length,.ev 17,.pf (p:=decide (i0=i0)=true) (yb rfl),.e c.2.length,.ev 17,.pf (p:=decide (i0=i0)=true) (yb rfl),.e c.2.length,.e c.2.length,.e c.2.length,.ev 17,.pf (p:=decide (i0=i0)=true) (yb rfl),.e c.2.length,.ev 17,.pf (p:=decide (i0=i0)=true) (yb rfl),.e F,.ev 0,.ev 1,.e F,.ev 0,.ev 1,.e F,.ev 2,.e F,.ev 2,.cl 5 cf [0] 9 false,.e ai,.ev 0,.ev 3,.e ai,.ev 4,.pf (zo (sz:=1) (e:=Ra) (l:=a.H) (i:=I) (x:=cg) (fun _=>rfl))]<|
.reg 30 [] [] []<|
.guard [M.length=a.H.length]<|
 let W:=(TTape.b bg.2)
.cst (A:=M.length=a.H.length) (.ev 0) [(4,(vp 2))] [(4,(vp 2))] [W,g,(Rd (Rc [(vi c.1),(Rb 4 c.2.length 0 c.2.length)])),(Rd (Rc [(vi c.1),(Rb 4 c.2.length 0 c.2.length)])),(opS 7 TPo.e i0 (Rc [w,(vi a.D),(vi a.T),(Rb 5 a.A.length 0 a.A.length),(Rb 6 a.H.length 0 a.H.length),(Rb 7 a.G.length 0 a.G.length),(Rb 8 a.P.length 0 a.P.length)]) c.2),z,ay,s,t] [W,g,(Rd (Rc [(vi c.1),(Rb 4 c.2.length 0 c.2.length)])),(Rd (Rc [(vi c.1),(Rb 4 c.2.length 0 c.2.length)])),(opS 7 TPo.e i0 (Rc [w,(vi a.D),(vi a.T),(Rb 5 a.A.length 0 a.A.length),(Rb 6 M.length 0 M.length),(Rb 7 a.G.length 0 a.G.length),(Rb 8 a.P.length 0 a.P.length)]) c.2),z,ay,s,t] (fun h=>⟨rfl,by rw[h]⟩)<|
.guard [a.A.length<2 ^ 63/\M.length<2 ^ 63/\a.G.length<2 ^ 63/\a.P.length<2 ^ 63]<|
 let ch:=(⟨a.B,a.D,a.T,a.A,M,a.G,a.P⟩:TPo)
 let ad:=(c.2.set i0 ch)
 let ci:=[W,g,(Rd m),(Rd m),(eS 7 TPo.e ad),Re,Re,Re,Re]
.sh (A:=a.A.length<2 ^ 63/\M.length<2 ^ 63/\a.G.length<2 ^ 63/\a.P.length<2 ^ 63) (.ev 0) [(4,(vp 2))] [(4,(vp 2))] [W,g,(Rd m),(Rd m),(opS 7 TPo.e i0 (Rc [w,(vi a.D),(vi a.T),Q,(Rb 6 M.length 0 M.length),K,U]) c.2),z,ay,s,t] ci (fun h=>z1k oTApiPot (P:=[W,g,(Rd m),(Rd m)]) (D:=[]) rfl av ch h rfl) (z17 _)<|
 let cj:=(Rc [(vi c.1),(Rb 4 ad.length 0 ad.length)])
.cst (A:=True) (.pf trivial) [(4,(vp 2))] [(4,(vp 2))] ci [W,g,(Rd cj),(Rd cj),(eS 7 TPo.e ad),Re,Re,Re,Re] (fun _=>⟨Zd,Zb⟩)<|
.kill 1<|
.kill 3<|
.r (c.1,bg.2,ad)) (
 let J:=(TTape.b v.2)
.ite (v.1==5) (
 let L:=(i64.wrap ((a.P.length:Int)-1))
.guard [(0:Int)<=L,L.toNat<=a.P.length]<|
 let bl:=(Rc [w,(vi a.D),(vi a.T),Q,S,K,(Rb 8 aj (0+0) (L.toNat-0))])
.reg 29 [14] [(14,{ obs:=[(4,(opS 7 TPo.e i0 bl c.2))] })] [.e c.2.length,.e c.2.length,.ev 14,.pf (p:=decide (i0=i0)=true) (yb rfl),.e c.2.length,.e c.2.length,.ev 14,.pf (p:=decide (i0=i0)=true) (yb rfl),.ev 0,.ev 1,.e aj,.e c.2.length,.e c.2.length,.ev 14,.pf (p:=decide (i0=i0)=true) (yb rfl),.pf (p:=OLe (Ob.seq 7 c.2.length fun j=>if j=i0 then bl else AV.sel (decide (j=i0)) 7 Z (TPo.d (c.2.getD j dF))) (opS 7 TPo.e i0 bl c.2)) (z67 rfl)]<|
.reg 30 [] [] []<|
.guard [a.A.length<2 ^ 63/\a.H.length<2 ^ 63/\a.G.length<2 ^ 63/\a.P.length<2 ^ 63]<|
 let cx:=(⟨a.B,a.D,a.T,a.A,a.H,a.G,(a.P.take L.toNat)⟩:TPo)
 let ae:=(c.2.set i0 cx)
 let ck:=[J,g,(Rd m),(Rd m),(eS 7 TPo.e ae),Re,Re,Re,Re]
 let cm:=(a.A.length<2 ^ 63/\a.H.length<2 ^ 63/\a.G.length<2 ^ 63/\a.P.length<2 ^ 63)
.sh (A:=cm/\L.toNat<=a.P.length) (.der2 (fun (h:a.A.length<2 ^ 63/\a.H.length<2 ^ 63/\a.G.length<2 ^ 63/\a.P.length<2 ^ 63) (h2:L.toNat<=a.P.length)=>(⟨h,h2⟩:cm/\L.toNat<=a.P.length)) 0 2) [(4,(vp 2))] [(4,(vp 2))] [J,g,(Rd m),(Rd m),(opS 7 TPo.e i0 bl c.2),z,C,s,t] ck (fun h=>ziy oTApiPot (P:=[J,g,(Rd m),(Rd m)]) (D:=[]) rfl av cx h.1 h.2 rfl) (z17 _)<|
 let cn:=(Rc [(vi c.1),(Rb 4 ae.length 0 ae.length)])
.cst (A:=True) (.pf trivial) [(4,(vp 2))] [(4,(vp 2))] ck [J,g,(Rd cn),(Rd cn),(eS 7 TPo.e ae),Re,Re,Re,Re] (fun _=>⟨Zd,Zb⟩)<|
.kill 1<|
.kill 3<|
.r (c.1,v.2,ae)) (
.guard [a.A.length<2 ^ 63/\a.H.length<2 ^ 63/\a.G.length<2 ^ 63/\a.P.length<2 ^ 63]<|
 let n:=(c.2.set i0 a)
 let bh:=[(4,(vp 2)),(5,(vp 3)),(8,bq),(139,(vb (v.1==5)))]
 let co:=[J,g,q,(Rd m),(eS 7 TPo.e n),Re,Re,Re,Re]
.sh (A:=a.A.length<2 ^ 63/\a.H.length<2 ^ 63/\a.G.length<2 ^ 63/\a.P.length<2 ^ 63) (.ev 0) bh bh [J,g,q,(Rd m),(opS 7 TPo.e i0 Z c.2),z,C,s,t] co (fun h=>z1k oTApiPot (P:=[J,g,q,(Rd m)]) (D:=[]) rfl av a h rfl) (z17 _)<|
.cst (A:=True) (.pf trivial) bh [(4,(vp 2)),(5,(vp 3)),(8,(Ri 4 n.length [.x i0 7])),(139,(vb (v.1==5)))] co [J,g,q,(Rd (Rc [(vi c.1),(Rb 4 n.length 0 n.length)])),(eS 7 TPo.e n),Re,Re,Re,Re] (fun _=>⟨Zb,Zb⟩)<|
 let u:=([(n.getD (0+0) dF)]:List TPo)
.guard [0<n.length,(0+0)<n.length,(n.length+u.length) * (2 * 128)<=2 ^ 48]<|
.reg 17 [6,7,9] [(6,{ h:=.obj,obs:=[(9,(eS 7 TPo.e u))] }),(7,{ h:=.obj,cast:=some (Rb 4 ((n++u).length) 0 ((n++u).length)),obs:=[(4,(eS 7 TPo.e (n++u)))] })] [.e n.length,.pf (p:=(0:Int)<=0) dk,.ev 0,.e n.length,.ev 1,.pf (z70 (sz:=7) (e:=TPo.e) (l:=u)),.e u.length,.e n.length,.e n.length,.pf (p:=∀ k,k<u.length->(TPo.d (u.getD k dF)).wd=7) (fun _ _=>rfl),.ev 2,.pf (zy (o:=4) (l:=n) (x:=u)),.pf (z12 (sz:=7) (e:=TPo.e) (l:=n) (x:=u))]<|
.reg 30 [] [] []<|
.kill 1<|
.kill 3<|
.r (c.1,v.2,(n++u)))))))))) id
def F_q1j (i0:Nat) (a:TTr) (b:TTape):=(S_q1j i0 a b).den
theorem F_q1j_ok {i0:Nat} {a:TTr} {c:TTape}:FO (F_q1j i0 a c) 42 [(vp 0),(TTr.d a)] [(TTape.b c)] V_q1j L_q1j:=fO (s:=S_q1j i0 a c) Tryz.func42
def ghostB (a:TTr) (b:TTape):Nat:=if a.E.length=0 then 0 else match F_q2 6 b with
 | none=>0
 | some x=>if x.1=5 then a.E.length else match F_q2 (a.E.length:Int) x.2 with
  | none=>0
  | some y=>y.1.toNat
abbrev R_q80:=R_q1j
def F_q80 (a:TTr) (b:TTape):Option R_q80:=F_q1j (ghostB a b) a b
theorem F_q80_ok {a:TTr} {c:TTape} (r:R_q80) (h:F_q80 a c=some r):CallOk Tryz.prog 42 [(vp 0),(TTr.d a)] [(TTape.b c)] (V_q1j r) (L_q1j r):=F_q1j_ok r h
end
end Go.Proofs.YtkhgaalekilaeaaGreatDoor
/- What the functions compute,and that their calls return it. No condition. -/
namespace Go.Proofs.YtkhgaalekilaeaaGreatDoor
open Go Go.TA
open Go.IntKind (i64)
noncomputable section
set_option maxRecDepth 100000
def S_q72 (a:TJo) (V:TTape):SC (TJo×TTape) (TJo×TTape) :=
 let s:=(TJo.b (⟨0,[],0⟩:TJo))
.reg 0 [] [(1,{ obs:=[(2,s)] })] [.pf cz2]<|
.guard [a.M.length * (2 * 88)<=2 ^ 48]<|
.reg 1 [] [(3,{ h:=.obj })] [.pf (p:=∀ k,k<a.M.length->(TOp.d (a.M.getD k dF)).wd=10) (fun _ _=>rfl),.ev 0]<|
.call (@F_q2_ok 6 V) fun c S=>
.k 2 1 S [0] 4 false<|
.ite (c.1==0) (
.call (@F_q6_ok ([0,1,6,7]:List Int) c.2) fun G H=>
.reg 6 [] [(1,hv (vl ([0,1,6,7]:List Int))),(2,hc H [0] false)] [.pf (za Ra ([0,1,6,7]:List Int)),.cl 0 H [0] 4 false]<|
.guard [a.M.length<2 ^ 63]<|
.reg 18 [] [] []<|
.frz 3 (.ev 0) none [] [1,2]<|
.r ((⟨G.1,a.M,a.Af⟩:TJo),G.2)) (
 let q:=(a.M.length:Int)
.ite (c.1==1) (
 let F:=([(-1),0,q,(i64.wrap (q+1))]:List Int)
.call (@F_q6_ok F c.2) fun I J=>
.reg 8 [] [(8,hv (vl F)),(9,hc J [0] false)] [.pf (za Ra F),.cl 0 J [0] 4 false]<|
.guard [a.M.length<2 ^ 63]<|
.reg 18 [] [] []<|
.frz 3 (.ev 0) none [] [1,2]<|
.r ((⟨a.Z,a.M,I.1⟩:TJo),I.2)) (
 let K:=(Rc [(vi a.Z),(Rb 3 a.M.length 0 a.M.length),(vi a.Af)])
 let v:=[(3,(vp 1)),(4,(vp 2))]
 let C:=(c.2,a.Z,a.Af,a.M)
.ite (c.1==2) (
.cut none [3,4] (fun (_:TTape×Int×Int×(List TOp))=>[]) (fun f=>[(0,(TTape.b f.1)),(1,(Rd (Rc [(vi f.2.1),(Rb 3 f.2.2.2.length 0 f.2.2.2.length),(vi f.2.2.1)]))),(3,(eS 10 TOp.e f.2.2.2))]) (
.ite (decide (q>0)) (
.call (@F_q2_ok q c.2) fun w T=>
.k 11 4 T [0] 4 false<|
.call (@F_q6_ok ([(-1),0,5,100000]:List Int) w.2) fun y L=>
 let n:=(0+w.1.toNat)
.guard [(0:Int)<=w.1,w.1.toNat<a.M.length,n<a.M.length]<|
 let j:=(a.M.getD n dF)
 let N:=(⟨j.U,j.B,j.D,j.Ab,j.Of,y.1,j.Ah,j.Aj,j.A,j.Ae⟩:TOp)
 let z:=(a.M.set n N)
 let t:=(eS 10 TOp.e z)
.reg 12 [5,8] [(4,hv (vl ([(-1),0,5,100000]:List Int))),(5,hc L [0] false),(8,{ obs:=[(3,t)] })] [.pf (za Ra ([(-1),0,5,100000]:List Int)),.cl 3 L [0] 4 false,.e a.M.length,.ev 0,.ev 1,.e a.M.length,.e a.M.length,.ev 2,.pf (zo (sz:=10) (e:=TOp.e) (l:=a.M) (i:=n) (x:=N) (fun _=>rfl))]<|
.cst (A:=True) (.pf trivial) v v [(TTape.b y.2),(Rd K),s,t] [(TTape.b y.2),(Rd (Rc [(vi a.Z),(Rb 3 z.length 0 z.length),(vi a.Af)])),s,t] (fun _=>⟨Zd,Zb⟩)<|
.r (.next (y.2,a.Z,a.Af,z))) (
.r (.next C))) fun f=>
.guard [f.2.2.2.length<2 ^ 63]<|
.reg 18 [] [] []<|
.frz 3 (.ev 0) none [] [1,2]<|
.r ((⟨f.2.1,f.2.2.2,f.2.2.1⟩:TJo),f.1)) (
.ite (c.1==3) (
.ite (decide (q>0)) (
.guard [a.M.length<2 ^ 63]<|
.frz 3 (.ev 0) none [] [1]<|
.guard [1<=a.M.length]<|
.reg 15 [] [(2,hv (AV.d (eL TOp.e (a.M.drop 1))))] [.pf (p:=(0:Int)<=1) dk,.ev 0,.pf (lvD TOp.e a.M 1)]<|
.r ((⟨a.Z,(a.M.drop 1),a.Af⟩:TJo),c.2)) (
.guard [a.M.length<2 ^ 63]<|
.reg 18 [] [] []<|
.frz 3 (.ev 0) none [] [1,2]<|
.r (a,c.2))) (
.cut none [3,4] (fun (_:TTape×Int×Int×(List TOp))=>[]) (fun g=>[(0,(TTape.b g.1)),(1,(Rd (Rc [(vi g.2.1),(Rb 3 g.2.2.2.length 0 g.2.2.2.length),(vi g.2.2.1)]))),(3,(eS 10 TOp.e g.2.2.2))]) (
.ite (c.1==4) (
.call (@F_q16_ok 0 10 c.2) fun O P=>
.call (@F_q2_ok 4 O.2) fun Q R=>
.guard [(a.M.length+1) * (2 * 88)<=2 ^ 48]<|
 let m:=([(⟨O.1,[],0,4600,Q.1,0,0,0,0,0⟩:TOp)]:List TOp)
.reg 17 [3,5,8,10] [(3,hc P [0] false),(5,hc R [0] false),(7,hv (AV.d (eL TOp.e m))),(8,{ h:=.obj,cast:=some (Rb 3 ((a.M++m).length) 0 ((a.M++m).length)),obs:=[(3,(eS 10 TOp.e (a.M++m)))] })] [.cl 2 P [0] 4 false,.cl 1 R [0] 4 false,.pf (za TOp.e m),.e a.M.length,.e a.M.length,.pf (p:=∀ k,k<1->(TOp.d (m.getD k dF)).wd=10) (fun _ _=>rfl),.ev 0,.pf (zy (o:=3) (l:=a.M) (x:=m)),.pf (z12 (sz:=10) (e:=TOp.e) (l:=a.M) (x:=m))]<|
.r (.next (Q.2,a.Z,a.Af,(a.M++m)))) (
.ite (decide (q>1)) (
 let E:=(a.M.set (0+0) (a.M.getD (0+1) dF))
.guard [1<a.M.length,(0+1)<a.M.length,0<a.M.length,(0+0)<a.M.length,(0+1)<E.length]<|
.reg 4 [13,15] [(13,{ obs:=[(3,(eS 10 TOp.e (a.M.set (0+0) (a.M.getD (0+1) dF))))] }),(15,{ obs:=[(3,(eS 10 TOp.e ((a.M.set (0+0) (a.M.getD (0+1) dF)).set (0+1) (a.M.getD (0+0) dF))))] })] [.e a.M.length,.pf (p:=(0:Int)<=1) dk,.ev 0,.e a.M.length,.ev 1,.e a.M.length,.pf (p:=(0:Int)<=0) dk,.ev 2,.e a.M.length,.ev 3,.e a.M.length,.pf (p:=(0:Int)<=0) dk,.ev 2,.e a.M.length,.ev 3,.pf (zo (sz:=10) (e:=TOp.e) (l:=a.M) (i:=(0+0)) (x:=(a.M.getD (0+1) dF)) (fun _=>rfl)),.pf (p:=(a.M.set (0+0) (a.M.getD (0+1) dF)).length=a.M.length) (by simp only[yl]),.pf (p:=(0:Int)<=1) dk,.ev 0,.pf (p:=(a.M.set (0+0) (a.M.getD (0+1) dF)).length=a.M.length) (by simp only[yl]),.ev 4,.pf (zo (sz:=10) (e:=TOp.e) (l:=(a.M.set (0+0) (a.M.getD (0+1) dF))) (i:=(0+1)) (x:=(a.M.getD (0+0) dF)) (fun _=>rfl))]<|
 let u:=(E.set (0+1) (a.M.getD (0+0) dF))
.cst (A:=True) (.pf trivial) v v [(TTape.b c.2),(Rd K),s,(eS 10 TOp.e u)] [(TTape.b c.2),(Rd (Rc [(vi a.Z),(Rb 3 u.length 0 u.length),(vi a.Af)])),s,(eS 10 TOp.e u)] (fun _=>⟨Zd,Zb⟩)<|
.r (.next (c.2,a.Z,a.Af,u))) (
.r (.next C)))) fun g=>
.guard [g.2.2.2.length<2 ^ 63]<|
.reg 18 [] [] []<|
.frz 3 (.ev 0) none [] [1,2]<|
.r ((⟨g.2.1,g.2.2.2,g.2.2.1⟩:TJo),g.1)))))
def F_q72 (a:TJo) (b:TTape):=(S_q72 a b).den
theorem F_q72_ok {a:TJo} {c:TTape}:FO (F_q72 a c) 43 [(vp 0),(TJo.d a)] [(TTape.b c)] (fun x=>(TJo.d x.1)) (fun x=>[(TTape.b x.2)]):=fO (s:=S_q72 a c) Tryz.func43
abbrev R_q3g:=TWo×TTape
def S_q3g (a:TWo) (p0:TTape):SC R_q3g R_q3g :=
 let m:=(TWo.b (⟨(⟨0,[]⟩:TTr),[],[]⟩:TWo))
.reg 0 [] [(1,{ obs:=[(2,m)] })] [.pf cz4]<|
.guard [a.J.length * (2 * 40)<=2 ^ 48]<|
.reg 1 [] [(3,{ h:=.obj })] [.pf (p:=∀ k,k<a.J.length->(TJo.d (a.J.getD k dF)).wd=3) (fun _ _=>rfl),.ev 0]<|
.guard [a.N.length * (2 * 72)<=2 ^ 48]<|
.reg 2 [] [(3,{ h:=.obj })] [.pf (p:=∀ k,k<a.N.length->(TMe.d (a.N.getD k dF)).wd=8) (fun _ _=>rfl),.ev 0]<|
.call (@F_q2_ok 6 p0) fun f ag=>
.k 3 1 ag [0] 5 false<|
.ite (f.1==0) (
.call (@F_q80_ok a.K f.2) fun H ah=>
.k 7 3 ah [0] 5 false<|
.kill 6<|
.guard [H.2.2.length<2 ^ 63]<|
.frz 8 (.ev 0) none [] [1]<|
.guard [a.J.length<2 ^ 63]<|
.reg 18 [] [] []<|
.frz 3 (.ev 0) none [] [1,2]<|
.guard [a.N.length<2 ^ 63]<|
.frz 4 (.ev 0) none [] [1,2]<|
.r ((⟨(⟨H.1,H.2.2⟩:TTr),a.J,a.N⟩:TWo),H.2.1)) (
 let I:=(Rb 3 a.J.length 0 a.J.length)
 let n:=(TTr.d a.K)
 let O:=(Rb 4 a.N.length 0 a.N.length)
 let U:=(Rc [n,I,O])
 let w:=[(3,(vp 1)),(4,(vp 2))]
.ite (f.1==1) (
.call (@F_q2_ok (a.J.length:Int) f.2) fun L ai=>
.k 9 4 ai [0] 5 false<|
 let q:=(0+L.1.toNat)
.call (@F_q72_ok (a.J.getD q dF) L.2) fun y V=>
.guard [(0:Int)<=L.1,L.1.toNat<a.J.length,q<a.J.length]<|
 let z:=(a.J.set q y.1)
 let C:=(eS 3 TJo.e z)
.reg 10 [9,11] [(9,hc V [0] false),(11,{ obs:=[(3,C)] })] [.e a.J.length,.ev 0,.ev 1,.e a.J.length,.ev 2,.cl 3 V [0] 5 false,.e a.J.length,.ev 0,.ev 1,.e a.J.length,.ev 2,.pf (zo (sz:=3) (e:=TJo.e) (l:=a.J) (i:=q) (x:=y.1) (fun _=>rfl))]<|
.cst (A:=True) (.pf trivial) w w [(TTape.b y.2),(Rd U),m,C,(eS 8 TMe.e a.N)] [(TTape.b y.2),(Rd (Rc [n,(Rb 3 z.length 0 z.length),O])),m,C,(eS 8 TMe.e a.N)] (fun _=>⟨Zd,Zb⟩)<|
.guard [z.length<2 ^ 63]<|
.reg 18 [] [] []<|
.frz 3 (.ev 0) none [] [1,2]<|
.guard [a.N.length<2 ^ 63]<|
.frz 4 (.ev 0) none [] [1,2]<|
.r ((⟨a.K,z,a.N⟩:TWo),y.2)) (
.ite (f.1==2) (
.call (@F_q2_ok 3 f.2) fun W X=>
.call (@F_q2_ok 3 W.2) fun Y Z=>
.call (@F_q6_ok ([0,50,5000]:List Int) Y.2) fun aa ab=>
.call (@F_q6_ok ([0,0,30]:List Int) aa.2) fun ac ad=>
.guard [(a.N.length+1) * (2 * 72)<=2 ^ 48]<|
 let g:=([(⟨W.1,Y.1,[49],12,aa.1,0,ac.1,0⟩:TMe)]:List TMe)
.reg 12 [3,5,8,11,14,16] [(3,hc X [0] false),(5,hc Z [0] false),(7,hv (vl ([0,50,5000]:List Int))),(8,hc ab [0] false),(10,hv (vl ([0,0,30]:List Int))),(11,hc ad [0] false),(13,hv (AV.d (eL TMe.e g))),(14,{ h:=.obj,cast:=some (Rb 4 ((a.N++g).length) 0 ((a.N++g).length)),obs:=[(4,(eS 8 TMe.e (a.N++g)))] })] [.cl 4 X [0] 5 false,.cl 3 Z [0] 5 false,.pf (za Ra ([0,50,5000]:List Int)),.pf (za Ra ([0,50,5000]:List Int)),.pf (za Ra ([0,50,5000]:List Int)),.cl 2 ab [0] 5 false,.pf (za Ra ([0,0,30]:List Int)),.pf (za Ra ([0,0,30]:List Int)),.pf (za Ra ([0,0,30]:List Int)),.pf (za Ra ([0,0,30]:List Int)),.cl 1 ad [0] 5 false,.pf (za TMe.e g),.e a.N.length,.e a.N.length,.pf (p:=∀ k,k<1->(TMe.d (g.getD k dF)).wd=8) (fun _ _=>rfl),.ev 0,.pf (zy (o:=4) (l:=a.N) (x:=g)),.pf (z12 (sz:=8) (e:=TMe.e) (l:=a.N) (x:=g))]<|
.guard [a.J.length<2 ^ 63]<|
.reg 18 [] [] []<|
.frz 3 (.ev 0) none [] [1,2]<|
.guard [(a.N++g).length<2 ^ 63]<|
.frz 4 (.ev 0) none [] [1,2]<|
.r ((⟨a.K,a.J,(a.N++g)⟩:TWo),ac.2)) (
.ite (f.1==3) (
.guard [a.J.length<2 ^ 63]<|
.frz 3 (.ev 0) none [] [1]<|
.guard [1<=a.J.length]<|
.reg 14 [] [(2,hv (AV.d (eL TJo.e (a.J.drop 1))))] [.pf (p:=(0:Int)<=1) dk,.ev 0,.pf (lvD TJo.e a.J 1)]<|
.guard [a.N.length<2 ^ 63]<|
.reg 18 [] [] []<|
.frz 4 (.ev 0) none [] [1,2]<|
.r ((⟨a.K,(a.J.drop 1),a.N⟩:TWo),f.2)) (
.cut none [3,4] (fun (_:TTape×TTr×(List TMe))=>[]) (fun j=>[(0,(TTape.b j.1)),(1,(Rd (Rc [(TTr.d j.2.1),I,(Rb 4 j.2.2.length 0 j.2.2.length)]))),(4,(eS 8 TMe.e j.2.2))]) (
 let c:=(a.N.getD (0+0) dF)
 let s:=(eS 3 TJo.e a.J)
 let Q:=(decide ((a.N.length:Int)>0))
.ite (f.1==4) (
.ite Q (
.call (@F_q6_ok ([1,100]:List Int) f.2) fun t R=>
.guard [0<a.N.length,(0+0)<a.N.length]<|
 let ae:=(⟨c.Aa,c.To,c.B,c.D,c.A,c.G,(i64.wrap (c.S+t.1)),c.P⟩:TMe)
 let M:=(a.N.set (0+0) ae)
 let E:=(eS 8 TMe.e M)
.reg 17 [7,11] [(6,hv (vl ([1,100]:List Int))),(7,hc R [0] false),(11,{ obs:=[(4,E)] })] [.e a.N.length,.pf (p:=(0:Int)<=0) dk,.ev 0,.e a.N.length,.pf (p:=(0:Int)<=0) dk,.ev 0,.e a.N.length,.e a.N.length,.e a.N.length,.ev 1,.e a.N.length,.ev 1,.pf (za Ra ([1,100]:List Int)),.cl 2 R [0] 5 false,.e a.N.length,.pf (p:=(0:Int)<=0) dk,.ev 0,.e a.N.length,.e a.N.length,.ev 1,.pf (zo (sz:=8) (e:=TMe.e) (l:=a.N) (i:=(0+0)) (x:=ae) (fun _=>rfl))]<|
.cst (A:=True) (.pf trivial) w w [(TTape.b t.2),(Rd U),m,s,E] [(TTape.b t.2),(Rd (Rc [n,I,(Rb 4 M.length 0 M.length)])),m,s,E] (fun _=>⟨Zd,Zb⟩)<|
.r (.next (t.2,a.K,M))) (
.r (.next (f.2,a.K,a.N)))) (
.ite Q (
.call (@F_q6_ok ([1,1000]:List Int) f.2) fun u T=>
.guard [0<a.N.length,(0+0)<a.N.length]<|
 let af:=(⟨c.Aa,c.To,c.B,c.D,(i64.wrap (c.A+u.1)),c.G,c.S,c.P⟩:TMe)
 let v:=(a.N.set (0+0) af)
 let F:=(eS 8 TMe.e v)
.reg 5 [7,11] [(6,hv (vl ([1,1000]:List Int))),(7,hc T [0] false),(11,{ obs:=[(4,F)] })] [.e a.N.length,.pf (p:=(0:Int)<=0) dk,.ev 0,.e a.N.length,.pf (p:=(0:Int)<=0) dk,.ev 0,.e a.N.length,.e a.N.length,.e a.N.length,.ev 1,.e a.N.length,.ev 1,.pf (za Ra ([1,1000]:List Int)),.cl 2 T [0] 5 false,.e a.N.length,.pf (p:=(0:Int)<=0) dk,.ev 0,.e a.N.length,.e a.N.length,.ev 1,.pf (zo (sz:=8) (e:=TMe.e) (l:=a.N) (i:=(0+0)) (x:=af) (fun _=>rfl))]<|
.cst (A:=True) (.pf trivial) w w [(TTape.b u.2),(Rd U),m,s,F] [(TTape.b u.2),(Rd (Rc [n,I,(Rb 4 v.length 0 v.length)])),m,s,F] (fun _=>⟨Zd,Zb⟩)<|
.r (.next (u.2,a.K,v))) (
.r (.next (f.2,a.K,a.N))))) fun j=>
.guard [a.J.length<2 ^ 63]<|
.reg 18 [] [] []<|
.frz 3 (.ev 0) none [] [1,2]<|
.guard [j.2.2.length<2 ^ 63]<|
.frz 4 (.ev 0) none [] [1,2]<|
.r ((⟨j.2.1,a.J,j.2.2⟩:TWo),j.1)))))
def F_q3g (a:TWo) (b:TTape):=(S_q3g a b).den
theorem F_q3g_ok {a:TWo} {c:TTape}:FO (F_q3g a c) 15 [(vp 0),(TWo.d a)] [(TTape.b c)] (fun x=>(TWo.d x.1)) (fun x=>[(TTape.b x.2)]):=fO (s:=S_q3g a c) Tryz.func15
abbrev R_q2k:=Int×Int×Int×Int
def S_q2k_b1 (k:TWo) (i:TPo) (d:Nat) (e:Int×Int):SC R_q2k (Step (Int×Int) R_q2k) :=
.reg 4 [] [(2,{ obs:=[(2,(TJo.b (⟨0,[],0⟩:TJo)))] })] [.w d,.ev 0,.pf cz2]<|
.call (@F_q4h_ok (k.J.getD d dF)) fun f g=>
.reg 5 [] [(1,hc g [] true),(5,{ obs:=[(3,(TOf.b (⟨0,[],(⟨[],[],[],[]⟩:TBo)⟩:TOf)))] })] [.cl 0 g [] 3 true,.pf z19]<|
.a 6 5 4 (@F_q2t_ok f.1 i.B i.D) fun h=>
.a 8 7 5 (@F_qr_ok f.1.Ag i.B i.D) fun j=>
.c ((i64.wrap (e.1+(i64.wrap (h.A-h.S)))),(i64.wrap (e.2+j)))
def S_q2k (c:TWo) (d:TPo):SC R_q2k R_q2k :=
.range (c.J.length:Int) c.J.length rfl (.slot 16) 18 [3,16,17] (fun (b:Int×Int)=>[(8,(vi b.1)),(9,(vi b.2))]) (fun _=>[]) (0,0) (S_q2k_b1 c d) (fun b => 
.a 10 3 2 (@F_qv_ok d) fun e=>
.r (d.T,e,b.1,b.2)) id
def F_q2k (a:TWo) (b:TPo):=(S_q2k a b).den
theorem F_q2k_ok {a:TWo} {b:TPo}:FO (F_q2k a b) 57 [(TWo.d a),(TPo.d b)] [] (fun x=>(Rg [(vi x.1),(vi x.2.1),(vi x.2.2.1),(vi x.2.2.2)])) NL:=fO (s:=S_q2k a b) Tryz.func57
def S_q58 (d:TPo):SC Int Int :=
.a 1 1 1 (@F_qv_ok d) fun c=>
 let b:=(i64.wrap (c-d.T))
.r (if b>0 then b else 0)
def F_q58 (a:TPo):=(S_q58 a).den
theorem F_q58_ok {a:TPo}:FO (F_q58 a) 58 [(TPo.d a)] [] vi NL:=fO (s:=S_q58 a) Tryz.func58
def S_q1k_b1 (i:TWo) (e:Nat) (_:Unit):SC Bool (Step Unit Bool) :=
.reg 5 [] [(2,{ obs:=[(1,(TPo.b (⟨[],0,0,[],[],[],[]⟩:TPo)))] })] [.w e,.ev 0,.pf cz1]<|
 let f:=(i.K.E.getD e dF)
.a 6 2 2 (@F_q2k_ok i f) fun c=>
 let d:=(cO (decide (c.2.2.2>c.2.2.1)) (decide (c.2.2.1>c.2.1)))
.calld [d=false] dF (@F_q58_ok f) fun h g =>
.reg 7 [] [(12,hc g [] true)] [.clg 0 [d=false] g [] 2 true]<|
.ite (cO d (decide (c.2.1>(i64.wrap (c.1+h))))) (
.r (.ret false)) (
.r (.cont ()))
def S_q1k (b:TWo):SC Bool Bool :=
.a 1 1 1 (@F_q0_ok b) fun c=>
.ite (!c) (
.r false) (
.range (b.K.E.length:Int) b.K.E.length rfl (.slot 14) 16 [1,14,15] (fun (_:Unit)=>[]) (fun _=>[]) () (S_q1k_b1 b) (fun _ => 
.r true) id)
def F_q1k (a:TWo):=(S_q1k a).den
theorem F_q1k_ok {a:TWo}:FO (F_q1k a) 19 [(TWo.d a)] [] vb NL:=fO (s:=S_q1k a) Tryz.func19
def S_q1l_b1 (c:(List Int)) (b:(List Int)) (a:Nat) (_:Unit):SC Bool (Step Unit Bool) :=
.guard [a<b.length]<|
.reg 6 [] [] [.w a,.ev 1,.w a,.ev 0]<|
.ite ((c.getD a dF) != (b.getD a dF)) (
.r (.ret false)) (
.r (.cont ()))
def S_q1l (a:(List Int)) (b:(List Int)):SC Bool Bool :=
.ite ((a.length:Int) != (b.length:Int)) (
.r false) (
.range (a.length:Int) a.length rfl (.slot 0) 13 [0,1,12] (fun (_:Unit)=>[]) (fun _=>[]) () (S_q1l_b1 a b) (fun _ => 
.r true) id)
def F_q1l (a:(List Int)) (b:(List Int)):=(S_q1l a b).den
theorem F_q1l_ok {a:(List Int)} {b:(List Int)}:FO (F_q1l a b) 60 [(vl a),(vl b)] [] vb NL:=fO (s:=S_q1l a b) Tryz.func60
def S_q73 (a:TPo) (b:TPo):SC Bool Bool :=
 let c:=(bif (bif (a.B==b.B) then (a.D==b.D) else false) then (a.T==b.T) else false)
.calld [c=true] dF (@F_q1l_ok a.A b.A) fun k g =>
 let d:=(bif c then k else false)
.calld [d=true] dF (@F_q1l_ok a.H b.H) fun l h =>
 let e:=(bif d then l else false)
.calld [e=true] dF (@F_q1l_ok a.G b.G) fun m i =>
 let f:=(bif e then m else false)
.calld [f=true] dF (@F_q1l_ok a.P b.P) fun n j =>
.reg 1 [] [(24,hc g [] true),(31,hc h [] true),(38,hc i [] true),(45,hc j [] true)] [.clg 6 [c=true] g [] 2 true,.clg 4 [d=true] h [] 2 true,.clg 2 [e=true] i [] 2 true,.clg 0 [f=true] j [] 2 true]<|
.r (bif f then n else false)
def F_q73 (a:TPo) (b:TPo):=(S_q73 a b).den
theorem F_q73_ok {a:TPo} {b:TPo}:FO (F_q73 a b) 59 [(TPo.d a),(TPo.d b)] [] vb NL:=fO (s:=S_q73 a b) Tryz.func59
def S_q30_b1 (g:(List TPo)) (f:(List TPo)) (c:Nat) (_:Unit):SC Bool (Step Unit Bool) :=
 let d:=(TPo.b (⟨[],0,0,[],[],[],[]⟩:TPo))
.reg 5 [] [(3,{ obs:=[(0,d)] })] [.w c,.ev 0,.pf cz1]<|
.guard [c<f.length]<|
.reg 6 [] [(4,{ obs:=[(1,d)] })] [.w c,.ev 0,.pf cz1]<|
.a 7 3 2 (@F_q73_ok (g.getD c dF) (f.getD c dF)) fun e=>
.ite (!e) (
.r (.ret false)) (
.r (.cont ()))
def S_q30 (a:(List TPo)) (b:(List TPo)):SC Bool Bool :=
.ite ((a.length:Int) != (b.length:Int)) (
.r false) (
.range (a.length:Int) a.length rfl (.slot 15) 17 [1,2,15,16] (fun (_:Unit)=>[]) (fun _=>[]) () (S_q30_b1 a b) (fun _ => 
.r true) id)
def F_q30 (a:(List TPo)) (b:(List TPo)):=(S_q30 a b).den
theorem F_q30_ok {a:(List TPo)} {b:(List TPo)}:FO (F_q30 a b) 61 [(AV.d (eL TPo.e a)),(AV.d (eL TPo.e b)),(AV.fn 59 [])] [] vb NL:=fO (s:=S_q30 a b) Tryz.func61
def S_q1v_b1 (e:(List TOp)) (d:(List TOp)) (c:Nat) (_:Unit):SC Bool (Step Unit Bool) :=
.guard [c<d.length]<|
.reg 6 [] [] [.w c,.ev 1,.w c,.ev 0]<|
 let a:=(e.getD c dF)
 let b:=(d.getD c dF)
.ite (!((a.U==b.U)&&((a.B==b.B)&&((a.D==b.D)&&((a.Ab==b.Ab)&&((a.Of==b.Of)&&((a.V==b.V)&&((a.Ah==b.Ah)&&((a.Aj==b.Aj)&&((a.A==b.A)&&((a.Ae==b.Ae)&&true))))))))))) (
.r (.ret false)) (
.r (.cont ()))
def S_q1v (a:(List TOp)) (b:(List TOp)):SC Bool Bool :=
.ite ((a.length:Int) != (b.length:Int)) (
.r false) (
.range (a.length:Int) a.length rfl (.slot 0) 13 [0,1,12] (fun (_:Unit)=>[]) (fun _=>[]) () (S_q1v_b1 a b) (fun _ => 
.r true) id)
def F_q1v (a:(List TOp)) (b:(List TOp)):=(S_q1v a b).den
theorem F_q1v_ok {a:(List TOp)} {b:(List TOp)}:FO (F_q1v a b) 109 [(AV.d (eL TOp.e a)),(AV.d (eL TOp.e b))] [] vb NL:=fO (s:=S_q1v a b) Tryz.func109
def S_q74 (c:TJo) (d:TJo):SC Bool Bool :=
 let a:=(bif (c.Z==d.Z) then (c.Af==d.Af) else false)
.calld [a=true] dF (@F_q1v_ok c.M d.M) fun e b =>
.reg 1 [] [(17,hc b [] true)] [.clg 0 [a=true] b [] 2 true]<|
.r (bif a then e else false)
def F_q74 (a:TJo) (b:TJo):=(S_q74 a b).den
theorem F_q74_ok {a:TJo} {b:TJo}:FO (F_q74 a b) 63 [(TJo.d a),(TJo.d b)] [] vb NL:=fO (s:=S_q74 a b) Tryz.func63
def S_q31_b1 (g:(List TJo)) (f:(List TJo)) (c:Nat) (_:Unit):SC Bool (Step Unit Bool) :=
 let d:=(TJo.b (⟨0,[],0⟩:TJo))
.reg 5 [] [(3,{ obs:=[(0,d)] })] [.w c,.ev 0,.pf cz2]<|
.guard [c<f.length]<|
.reg 6 [] [(4,{ obs:=[(1,d)] })] [.w c,.ev 0,.pf cz2]<|
.a 7 3 2 (@F_q74_ok (g.getD c dF) (f.getD c dF)) fun e=>
.ite (!e) (
.r (.ret false)) (
.r (.cont ()))
def S_q31 (a:(List TJo)) (b:(List TJo)):SC Bool Bool :=
.ite ((a.length:Int) != (b.length:Int)) (
.r false) (
.range (a.length:Int) a.length rfl (.slot 15) 17 [1,2,15,16] (fun (_:Unit)=>[]) (fun _=>[]) () (S_q31_b1 a b) (fun _ => 
.r true) id)
def F_q31 (a:(List TJo)) (b:(List TJo)):=(S_q31 a b).den
theorem F_q31_ok {a:(List TJo)} {b:(List TJo)}:FO (F_q31 a b) 62 [(AV.d (eL TJo.e a)),(AV.d (eL TJo.e b)),(AV.fn 63 [])] [] vb NL:=fO (s:=S_q31 a b) Tryz.func62
def S_q32_b1 (e:(List TMe)) (d:(List TMe)) (c:Nat) (_:Unit):SC Bool (Step Unit Bool) :=
.guard [c<d.length]<|
.reg 6 [] [] [.w c,.ev 1,.w c,.ev 0]<|
 let a:=(e.getD c dF)
 let b:=(d.getD c dF)
.ite (!((a.Aa==b.Aa)&&((a.To==b.To)&&((a.B==b.B)&&((a.D==b.D)&&((a.A==b.A)&&((a.G==b.G)&&((a.S==b.S)&&((a.P==b.P)&&true))))))))) (
.r (.ret false)) (
.r (.cont ()))
def S_q32 (a:(List TMe)) (b:(List TMe)):SC Bool Bool :=
.ite ((a.length:Int) != (b.length:Int)) (
.r false) (
.range (a.length:Int) a.length rfl (.slot 0) 13 [0,1,12] (fun (_:Unit)=>[]) (fun _=>[]) () (S_q32_b1 a b) (fun _ => 
.r true) id)
def F_q32 (a:(List TMe)) (b:(List TMe)):=(S_q32 a b).den
theorem F_q32_ok {a:(List TMe)} {b:(List TMe)}:FO (F_q32 a b) 64 [(AV.d (eL TMe.e a)),(AV.d (eL TMe.e b))] [] vb NL:=fO (s:=S_q32 a b) Tryz.func64
def S_q59 (g:TWo) (h:TWo):SC Bool Bool :=
 let a:=(g.K.O==h.K.O)
.calld [a=true] dF (@F_q30_ok g.K.E h.K.E) fun i d =>
 let b:=(bif a then i else false)
.calld [b=true] dF (@F_q31_ok g.J h.J) fun j e =>
 let c:=(bif b then j else false)
.calld [c=true] dF (@F_q32_ok g.N h.N) fun k f =>
.reg 2 [] [(15,hc d [] true),(22,hc e [] true),(29,hc f [] true)] [.clg 4 [a=true] d [] 2 true,.clg 2 [b=true] e [] 2 true,.clg 0 [c=true] f [] 2 true]<|
.r (bif c then k else false)
def F_q59 (a:TWo) (b:TWo):=(S_q59 a b).den
theorem F_q59_ok {a:TWo} {b:TWo}:FO (F_q59 a b) 20 [(TWo.d a),(TWo.d b)] [] vb NL:=fO (s:=S_q59 a b) Tryz.func20
abbrev R_q3h:=Int×Int×Int×Int
def S_q3h (g:TWo) (i:Y8) (j:Int):SC R_q3h R_q3h :=
.call (@F_q4g_ok g.K i j) fun c e=>
.reg 1 [] [(4,hc e [] true),(8,{ obs:=[(1,(TPo.b (⟨[],0,0,[],[],[],[]⟩:TPo)))] })] [.cl 0 e [] 1 true,.pf cz1]<|
.calld [(!c.2)=false] dF (@F_q0_ok g) fun h f =>
.reg 2 [] [(4,hc f [] true)] [.clg 0 [(!c.2)=false] f [] 2 true]<|
.ite (cO (!c.2) (!h)) (
.r (0,0,0,0)) (
.a 4 2 2 (@F_q2k_ok g c.1) fun d=>
.r (d.1,d.2.1,d.2.2.1,d.2.2.2))
def F_q3h (a:TWo) (b:Y8) (c:Int):=(S_q3h a b c).den
theorem F_q3h_ok {a:TWo} {b:Y8} {c:Int}:FO (F_q3h a b c) 22 [(TWo.d a),(AV.d (Rf b)),(vi c)] [] (fun x=>(Rg [(vi x.1),(vi x.2.1),(vi x.2.2.1),(vi x.2.2.2)])) NL:=fO (s:=S_q3h a b c) Tryz.func22
def S_q41 (i:TWo) (j:TSt):SC (TWo×Int) (TWo×Int) :=
 let c:=(⟨(⟨0,[]⟩:TTr),[],[]⟩:TWo)
.reg 0 [] [(2,{ obs:=[(2,(TWo.b c))] })] [.pf cz4]<|
.a 1 1 3 (@F_qd_ok i) fun g=>
.ite (!g) (
.reg 2 [] [(0,hv (TWo.d c))] [.pf cz5]<|
.r (c,1)) (
.call (@F_q4c_ok i j) fun e f=>
.reg 3 [] [(2,hc f [] true),(6,{ obs:=[(3,(TWo.b c))] })] [.cl 0 f [] 3 true,.pf cz4]<|
.a 4 1 4 (@F_qp_ok e.1) fun h=>
.r (h,e.2))
def F_q41 (a:TWo) (b:TSt):=(S_q41 a b).den
theorem F_q41_ok {a:TWo} {b:TSt}:FO (F_q41 a b) 23 [(TWo.d a),(TSt.d b)] [] (fun x=>(Rg [(TWo.d x.1),(vi x.2)])) NL:=fO (s:=S_q41 a b) Tryz.func23
def S_q2l (e:TSt) (d:TCa):SC (Int×TCa) (Int×TCa) :=
.call (@F_q4c_ok d.w e) fun a c=>
.reg 1 [9,10] [(5,hc c [] true),(9,{ obs:=[(2,(TWo.b (⟨(⟨0,[]⟩:TTr),[],[]⟩:TWo)))] })] [.cl 0 c [] 2 true,.cl 0 c [] 3 true,.pf cz4]<|
.ite (a.2==0) (
.r (a.2,(⟨a.1⟩:TCa))) (
.r (a.2,d))
def F_q2l (a:TSt) (b:TCa):=(S_q2l a b).den
theorem F_q2l_ok {a:TSt} {c:TCa}:FO (F_q2l a c) 73 [(vp 0),(TSt.d a)] [(TCa.b c)] (fun x=>(vi x.1)) (fun x=>[(TCa.b x.2)]):=fO (s:=S_q2l a c) Tryz.func73
end
end Go.Proofs.YtkhgaalekilaeaaGreatDoor
