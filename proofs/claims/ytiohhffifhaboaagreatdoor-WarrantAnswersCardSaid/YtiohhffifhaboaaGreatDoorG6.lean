/- A part of the proof: what the functions compute, and that their calls return it. No condition. -/
import Derived.Test.YtiohhffifhaboaaGreatDoorG5
/- What the functions compute, and that their calls return it. No condition. -/
namespace Go.Proofs.YtiohhffifhaboaaGreatDoor
open Go Go.TA
open Go.IntKind (i64)
noncomputable section
set_option maxRecDepth 100000
set_option maxHeartbeats 2000000
theorem zqn:∀ k,k<1->(TRi.d (([(⟨[],0,0,0,0⟩:TRi)]:List TRi).getD k dF)).wd=5:=fun _ _=>rfl
def S_q1e_b1 (d:TOf) (h:(TRi×Int)) (a:Int):SC (TOf×Int) (Step Int (TOf×Int)) :=
.ite (decide (a<(d.F.length:Int))) (
 let f:=(0+a.toNat)
 let i:=(d.F.getD f dF)
.call (@F_q11_ok i.J h.1.J) fun b j=>
.guard [(0:Int)<=a,a.toNat<d.F.length,f<d.F.length]<|
.reg 15 [] [(7,hc j [] true)] [.e d.F.length,.ev 0,.ev 1,.e d.F.length,.e d.F.length,.ev 2,.cl 3 j [] 5 true]<|
 let c:=(decide (b>0))
.guard [AllP [(b==0)=true,c=false]->((0:Int)<=a),AllP [(b==0)=true,c=false]->(a.toNat<d.F.length),AllP [(b==0)=true,c=false]->(f<d.F.length)]<|
 let g:=(d.F.length=d.F.length)
.reg 16 [] [] [.pf (p:=AllP [(b==0)=true,c=false]->g) (fun _=>rfl),.ev 0,.ev 1,.pf (p:=AllP [(b==0)=true,c=false]->g) (fun _=>rfl),.pf (p:=AllP [(b==0)=true,c=false]->g) (fun _=>rfl),.ev 2]<|
.ite (cO c (bif (b==0) then (decide (i.K>h.1.K)) else false)) (
.r (.brk a)) (
.r (.cont (i64.wrap (a+1))))) (
.r (.brk a))
def S_q1e (m:TOf) (y:TOp):SC (TOf×Int) (TOf×Int) :=
 let u:=(⟨0,[],(⟨[],[],[],[]⟩:TBo)⟩:TOf)
 let t:=(TOf.b u)
.reg 0 [] [(2,{ obs:=[(2,t)] })] [.pf cz1]<|
.a 1 2 3 (@F_ql_ok y.J) fun S=>
 let H:=(0,hv (TOf.d u))
.ite (!S) (
.reg 2 [] [H] [.pf cz6]<|
.r (u,5)) (
.ite (cO (decide (y.K<0)) (decide (y.K>99))) (
.reg 4 [] [H] [.pf cz6]<|
.r (u,2)) (
.a 5 5 3 (@F_q10_ok m y.J y.K) fun N=>
.ite (bif (decide (N<0)) then ((m.F.length:Int)==60) else false) (
.reg 7 [] [H] [.pf cz6]<|
.r (u,3)) (
.call (@F_q2w_ok m y.J y.K) fun T O=>
.call (@F_q2g_ok T (⟨0,0,y.J,y.K,y.R,y.Aa,0,0⟩:TMe)) fun v P=>
.reg 8 [19,20] [(5,hc O [] true),(15,hc P [] true)] [.cl 1 O [] 3 true,.cl 1 O [] 4 true,.cl 0 P [] 3 true,.cl 0 P [] 4 true]<|
.ite (v.2 != 0) (
.reg 10 [] [H] [.pf cz6]<|
.r (u,v.2)) (
.guard [m.F.length * (2 * 48)<=2 ^ 48]<|
.reg 11 [] [(3,{ h:=.obj })] [.pf (p:=∀ k,k<m.F.length->(TRi.d (m.F.getD k dF)).wd=5) (fun _ _=>rfl),.ev 0]<|
 let z:=(TRi.b v.1)
 let B:=(TOf.b m)
 let C:=(TOp.b y)
.cut none [2,4,7] (fun (f:(List TRi)×Int)=>[(6,(vi f.2)),(9,(AV.ref 4 f.1.length 0 f.1.length))]) (fun f=>[(4,(eS 5 TRi.e f.1))]) (
.ite (decide (N<0)) (
.iter [2,4,7,9] (fun (g:Int)=>[(6,(vi g))]) (fun _=>[]) 0 (S_q1e_b1 m v) (fun g =>
.guard [(m.F.length+1) * (2 * 48)<=2 ^ 48]<|
 let U:=(⟨[],0,0,0,0⟩:TRi)
 let E:=([U]:List TRi)
 let c:=(m.F++E)
 let I:=(AV.ref 4 c.length 0 c.length)
.reg 18 [] [(2,hv (AV.d (eL TRi.e E))),(3,{ h:=.obj,cast:=some I,obs:=[(4,(eS 5 TRi.e c))] })] [.pf (zb TRi.e E),.e m.F.length,.e m.F.length,.pf zqn,.ev 0,.pf (z1b (o:=4) (l:=m.F) (x:=E)),.pf (z1a (sz:=5) (e:=TRi.e) (l:=m.F) (x:=E))]<|
 let L:=(i64.wrap (g+1))
 let j:=L
.guard [(0:Int)<=L,j.toNat<=c.length,(0:Int)<=g,g.toNat<=c.length]<|
 let n:=(0+g.toNat)
 let q:=(0+j.toNat)
.reg 19 [7] [(7,{ obs:=[(4,(eS 5 TRi.e (copyL c q (min (c.length-g.toNat) (c.length-j.toNat)) (fun i=>(c.getD (n+i) dF)))))] })] [.ev 0,.ev 1,.e c.length,.ev 2,.ev 3,.e c.length,.e c.length,.e c.length,.pf (p:=∀ k,k<(c.length-g.toNat)->(TRi.d (c.getD (n+k) dF)).wd=5) (fun _ _=>rfl),.pf (zmf (sz:=5) (e:=TRi.e) (l:=c) (off:=q) (k:=(min (c.length-g.toNat) (c.length-j.toNat))) (s:=(fun i=>(c.getD (n+i) dF))))]<|
.cst (A:=True) (.pf trivial) [(2,(vp 0)),(4,(vp 2)),(6,(vi g)),(7,(vp 3)),(9,I)] [(2,(vp 0)),(4,(vp 2)),(6,(vi g)),(7,(vp 3)),(9,(AV.ref 4 ((copyL c q (min (c.length-g.toNat) (c.length-j.toNat)) (fun i=>(c.getD (n+i) dF))).length) 0 ((copyL c q (min (c.length-g.toNat) (c.length-j.toNat)) (fun i=>(c.getD (n+i) dF))).length)))] [B,C,t,z,(eS 5 TRi.e (copyL c q (min (c.length-g.toNat) (c.length-j.toNat)) (fun i=>(c.getD (n+i) dF))))] [B,C,t,z,(eS 5 TRi.e (copyL c q (min (c.length-g.toNat) (c.length-j.toNat)) (fun i=>(c.getD (n+i) dF))))] (fun _=>⟨by simp +zetaDelta only[z48],by rfl⟩)<|
.r (.next ((copyL c q (min (c.length-g.toNat) (c.length-j.toNat)) (fun i=>(c.getD (n+i) dF))),g))) .ret) (
.r (.next (m.F,N)))) fun f=>
 let G:=(0+f.2.toNat)
.guard [(0:Int)<=f.2,f.2.toNat<f.1.length,G<f.1.length]<|
 let w:=(f.1.set G v.1)
.reg 20 [] [(4,{ obs:=[(4,(eS 5 TRi.e w))] })] [.e f.1.length,.ev 0,.ev 1,.e f.1.length,.ev 2,.pf (z1f (sz:=5) (e:=TRi.e) (l:=f.1) (i:=G) (x:=v.1) (fun _=>rfl))]<|
 let Q:=[B,C,t,z,(eS 5 TRi.e w)]
.cst (A:=True) (.pf trivial) [(2,(vp 0)),(4,(vp 2)),(9,(AV.ref 4 f.1.length 0 f.1.length))] [(2,(vp 0)),(4,(vp 2)),(9,(AV.ref 4 w.length 0 w.length))] Q Q (fun _=>⟨Zb,by rfl⟩)<|
.guard [w.length<2 ^ 63]<|
.reg 22 [] [] []<|
.frz 4 (.ev 0) none [] [0,2]<|
.r ((⟨m.D,w,m.M⟩:TOf),0)))))
def F_q1e (a:TOf) (b:TOp):=(S_q1e a b).den
theorem F_q1e_ok {a:TOf} {b:TOp}:FO (F_q1e a b) 95 [(TOf.d a),(TOp.d b)] [] (fun x=>(AV.tup [(TOf.d x.1),(vi x.2)])) NL:=fO (s:=S_q1e a b) Tryz.func95
def S_q3r (b:TRi) (f:Int) (e:Int):SC (TRi×Int) (TRi×Int) :=
.a 1 1 2 (@F_q2f_ok b) fun g=>
 let c:=(⟨[],0,0,0,0⟩:TRi)
 let d:=(i64.wrap (b.R-b.T))
.ite (cO (cO (!g) (decide (f<0))) (decide (f>d))) (
.r (c,1)) (
.ite (cO (decide (e<1)) (decide (e>1000000000000000))) (
.r (c,2)) (
.ite (decide (e>(i64.wrap (d-f)))) (
.r (c,15)) (
.r ((⟨b.J,b.K,b.R,b.W,(i64.wrap (b.T+e))⟩:TRi),0))))
def F_q3r (a:TRi) (b:Int) (c:Int):=(S_q3r a b c).den
theorem F_q3r_ok {a:TRi} {b:Int} {c:Int}:FO (F_q3r a b c) 97 [(TRi.d a),(vi b),(vi c)] [] (fun x=>(AV.tup [(TRi.d x.1),(vi x.2)])) NL:=fO (s:=S_q3r a b c) Tryz.func97
def S_q2y (f:TOf) (c:TOp):SC (TOf×Int) (TOf×Int) :=
 let C:=(⟨[],[],[],[]⟩:TBo)
 let n:=(⟨0,[],C⟩:TOf)
 let y:=(TOf.b n)
.reg 0 [] [(2,{ obs:=[(2,y)] })] [.pf cz1]<|
.a 1 1 3 (@F_qd_ok f) fun T=>
 let u:=(0,hv (TOf.d n))
.ite (!T) (
.reg 2 [] [u] [.pf cz6]<|
.r (n,1)) (
.reg 3 [] [(2,{ obs:=[(3,(TBo.b C))] })] [.pf cz8]<|
.cut (some 0) [2,4,6] (fun (m:TBo×Int)=>[(7,(vi m.2))]) (fun m=>[(3,(TBo.b m.1))]) (
.ite (c.Y==1) (
.a 7 10 4 (@F_q3k_ok f.M c.J c.K c.N c.L) fun o=>
.calld [(o.2==0)=true] dF (@F_q2x_ok f c.J c.K) fun U E =>
.reg 8 [] [(10,hc E [] true)] [.clg 0 [(o.2==0)=true] E [] 4 true]<|
.ite (bif (o.2==0) then (decide (c.L>U)) else false) (
.r (.next (o.1,15))) (
.r (.next (o.1,o.2)))) (
.ite (c.Y==2) (
.a 11 12 4 (@F_q3l_ok f.M c.Of c.N c.L c.S c.X) fun G=>
.r (.next (G.1,G.2))) (
.ite (c.Y==3) (
.a 13 8 4 (@F_q3m_ok f.M c.Of c.N c.L) fun H=>
.r (.next (H.1,H.2))) (
.ite (c.Y==4) (
.a 15 6 4 (@F_q3n_ok f.M c.Of c.N) fun I=>
.r (.next (I.1,I.2))) (
.ite (c.Y==5) (
.a 17 6 4 (@F_q3o_ok f.M c.Of c.L) fun O=>
.r (.next (O.1,O.2))) (
.ite (c.Y==6) (
.a 19 6 4 (@F_q3p_ok f.M c.Of c.L) fun P=>
.r (.next (P.1,P.2))) (
.ite (c.Y==9) (
.a 21 4 4 (@F_q3q_ok f.M c.Of) fun v=>
.r (.next (v.1,v.2))) (
.ite (c.Y==8) (
.a 23 2 4 (@F_q1e_ok f c) fun w=>
.r (.ret (w.1,w.2))) (
.ite (c.Y==7) (
.a 25 5 4 (@F_q10_ok f c.J c.K) fun j=>
.ite (decide (j<0)) (
.reg 27 [] [u] [.pf cz6]<|
.r (.ret (n,6))) (
.call (@F_qo_ok f.M c.J c.K) fun Q q=>
.call (@F_q3r_ok (f.F.getD j.toNat dF) Q c.L) fun g s=>
.guard [(0:Int)<=j,j.toNat<f.F.length]<|
.reg 28 [18,19] [(11,hc q [] true),(14,hc s [] true)] [.ev 0,.ev 1,.ev 0,.ev 1,.cl 3 q [] 4 true,.cl 3 q [] 5 true,.cl 2 s [] 4 true,.cl 2 s [] 5 true]<|
.ite (g.2 != 0) (
.reg 30 [] [u] [.pf cz6]<|
.r (.ret (n,g.2))) (
.guard [f.F.length * (2 * 48)<=2 ^ 48]<|
.reg 31 [] [(3,{ h:=.obj })] [.pf (p:=∀ k,k<f.F.length->(TRi.d (f.F.getD k dF)).wd=5) (fun _ _=>rfl),.ev 0]<|
 let z:=(0+j.toNat)
.guard [z<f.F.length]<|
 let t:=(f.F.set z g.1)
 let B:=(eS 5 TRi.e t)
.reg 32 [] [(5,{ obs:=[(5,B)] })] [.e f.F.length,.ev 3,.ev 4,.e f.F.length,.ev 0,.pf (z1f (sz:=5) (e:=TRi.e) (l:=f.F) (i:=z) (x:=g.1) (fun _=>rfl))]<|
 let R:=[(2,(vp 0)),(4,(vp 2))]
.cst (A:=True) (.pf trivial) R R [(Ob.box (AV.agg [(vi f.D),(AV.ref 5 f.F.length 0 f.F.length),(TBo.d f.M)])),(TOp.b c),y,(TBo.b f.M),(TRi.b g.1),B] [(Ob.box (AV.agg [(vi f.D),(AV.ref 5 t.length 0 t.length),(TBo.d f.M)])),(TOp.b c),y,(TBo.b f.M),(TRi.b g.1),B] (fun _=>⟨Zd,Zb⟩)<|
.guard [t.length<2 ^ 63]<|
.reg 33 [] [] []<|
.frz 5 (.ev 0) none [] [0,2]<|
.r (.ret ((⟨f.D,t,f.M⟩:TOf),0))))) (
.r (.next (f.M,1)))))))))))) fun m=>
.ite (m.2 != 0) (
.reg 35 [] [u] [.pf cz6]<|
.r (n,m.2)) (
.r ((⟨f.D,f.F,m.1⟩:TOf),0)))
def F_q2y (a:TOf) (b:TOp):=(S_q2y a b).den
theorem F_q2y_ok {a:TOf} {b:TOp}:FO (F_q2y a b) 65 [(TOf.d a),(TOp.d b)] [] (fun x=>(AV.tup [(TOf.d x.1),(vi x.2)])) NL:=fO (s:=S_q2y a b) Tryz.func65
abbrev R_q25:=TOp×TTape
def S_q25 (I:TOf) (z:Int) (p0:TTape):SC R_q25 R_q25 :=
.call (@F_q5_ok ([1,1,1,2,2,2,3,3,3,4,4,5,6,7,8,8,9]:List Int) p0) fun a O=>
.call (@F_q2j_ok a.2) fun f P=>
.call (@F_q7_ok 1 120 f.2) fun Q S=>
 let D:=([10,50,Q.1]:List Int)
.call (@F_q5_ok D Q.2) fun d T=>
.reg 1 [] [(1,hv (vl ([1,1,1,2,2,2,3,3,3,4,4,5,6,7,8,8,9]:List Int))),(2,hc O [0] false),(4,hc P [0] false),(10,hc S [0] false),(11,hv (vl D)),(12,hc T [0] false)] [.pf (zb (DV.i .i64) ([1,1,1,2,2,2,3,3,3,4,4,5,6,7,8,8,9]:List Int)),.cl 3 O [0] 3 false,.cl 2 P [0] 3 false,.pf (p:=(360:Int)≠0) dk,.cl 1 S [0] 3 false,.pf (zb (DV.i .i64) D),.cl 0 T [0] 3 false]<|
.cut (some 0) [0,2,6,7] (fun (_:TTape×TOp)=>[]) (fun c=>[(0,(TTape.b c.1)),(3,(TOp.b c.2))]) (
.cut none [0,2,4,6,7,23] (fun (E:Bool)=>[(24,(vb E))]) (fun _=>[]) (
.ite (a.1==2) (
.r (.next (a.1==2))) (
.r (.next (a.1==5)))) fun E=>
 let g:=(i64.wrap (z.tdiv 360))
.ite E (
.call (@F_q7_ok 1 (if (I.M.A.length:Int)>1 then (I.M.A.length:Int) else 1) d.2) fun U X=>
.k 5 6 X [0] 4 false<|
.r (.next (U.2,(⟨a.1,f.1,g,z,U.1,d.1,0,0,0,0⟩:TOp)))) (
.cut none [0,2,4,6,7,23] (fun (F:Bool)=>[(35,(vb F))]) (fun _=>[]) (
.ite (a.1==3) (
.r (.next (a.1==3))) (
.r (.next (a.1==6)))) fun F=>
.ite F (
.call (@F_q7_ok 1 (if (I.M.B.length:Int)>1 then (I.M.B.length:Int) else 1) d.2) fun V Z=>
.k 8 6 Z [0] 4 false<|
.r (.next (V.2,(⟨a.1,f.1,g,z,V.1,d.1,0,0,0,0⟩:TOp)))) (
.cut none [0,2,4,6,7,23] (fun (h:Bool)=>[(46,(vb h))]) (fun _=>[]) (
.ite (a.1==4) (
.r (.next (a.1==4))) (
.r (.next (a.1==9)))) fun h=>
.ite h (
.call (@F_q7_ok 1 (if (I.M.C.length:Int)>1 then (I.M.C.length:Int) else 1) d.2) fun j W=>
.k 11 6 W [0] 4 false<|
.r (.next (j.2,(⟨a.1,f.1,g,z,j.1,d.1,0,0,0,0⟩:TOp)))) (
.ite (a.1==8) (
.call (@F_q1_ok 1000 d.2) fun l m=>
 let G:=([100,400,l.1]:List Int)
.call (@F_q5_ok G l.2) fun n o=>
.call (@F_q1_ok 200 n.2) fun q s=>
 let H:=([0,0,q.1]:List Int)
.call (@F_q5_ok H q.2) fun t u=>
.reg 13 [] [(2,hc m [0] false),(3,hv (vl G)),(4,hc o [0] false),(7,hc s [0] false),(8,hv (vl H)),(9,hc u [0] false)] [.cl 3 m [0] 4 false,.pf (zb (DV.i .i64) G),.cl 2 o [0] 4 false,.cl 1 s [0] 4 false,.pf (zb (DV.i .i64) H),.cl 0 u [0] 4 false]<|
.r (.next (t.2,(⟨a.1,f.1,g,z,0,d.1,0,0,n.1,t.1⟩:TOp)))) (
.r (.next (d.2,(⟨a.1,f.1,g,z,0,d.1,0,0,0,0⟩:TOp)))))))) fun c=>
.cut none [6,7] (fun (_:TTape×TOp)=>[]) (fun e=>[(0,(TTape.b e.1)),(3,(TOp.b e.2))]) (
.ite (c.2.Y==2) (
.call (@F_q7_ok 1 4 c.1) fun v w=>
.call (@F_q1_ok 60 v.2) fun x y=>
.reg 15 [] [(1,hc w [0] false),(4,hc y [0] false)] [.cl 1 w [0] 4 false,.cl 0 y [0] 4 false]<|
.r (.next (x.2,(⟨c.2.Y,c.2.J,c.2.K,c.2.N,c.2.Of,c.2.L,v.1,(i64.wrap (z+x.1)),c.2.R,c.2.Aa⟩:TOp)))) (
.r (.next (c.1,c.2)))) fun e=>
.r (e.2,e.1)
def F_q25 (a:TOf) (b:Int) (c:TTape):=(S_q25 a b c).den
theorem F_q25_ok {a:TOf} {c:Int} {e:TTape}:FO (F_q25 a c e) 66 [(vp 0),(TOf.d a),(vi c)] [(TTape.b e)] (fun x=>(TOp.d x.1)) (fun x=>[(TTape.b x.2)]):=fO (s:=S_q25 a c e) Tryz.func66
abbrev R_qe:=TOf×TTape
def S_qe_b1 (a:TTape×TOf×Int):SC R_qe (Step (TTape×TOf×Int) R_qe) :=
.ite (decide (a.2.2<2)) (
.call (@F_q1_ok 800 a.1) fun c e=>
 let b:=([300,c.1]:List Int)
.call (@F_q5_ok b c.2) fun f g=>
.call (@F_q2y_ok a.2.1 (⟨8,(([[49],[50]]:List Y8).getD a.2.2.toNat dF),12,0,0,0,0,0,f.1,0⟩:TOp)) fun j h=>
.guard [(0:Int)<=a.2.2,a.2.2.toNat<2]<|
.reg 6 [7,9,15] [(1,hv (AV.d (eL DV.str ([[49],[50]]:List Y8)))),(7,hc e [0] false),(8,hv (vl b)),(9,hc g [0] false),(11,hc h [] true)] [.pf (zb DV.str ([[49],[50]]:List Y8)),.pf (zb DV.str ([[49],[50]]:List Y8)),.pf (zb DV.str ([[49],[50]]:List Y8)),.ev 0,.ev 1,.ev 0,.ev 1,.ev 0,.ev 1,.cl 4 e [0] 3 false,.pf (zb (DV.i .i64) b),.cl 3 g [0] 3 false,.cl 2 h [] 3 true]<|
.r (.cont (f.2,j.1,(i64.wrap (a.2.2+1))))) (
.r (.brk (a.1,a.2.1,a.2.2)))
def S_qe_b2 (a:TTape×TOf×Int×Int):SC R_qe (Step (TTape×TOf×Int×Int) R_qe) :=
.ite (decide (a.2.2.2>0)) (
.call (@F_q1_ok 25 a.1) fun l m=>
 let e:=([0,1,l.1]:List Int)
.call (@F_q5_ok e l.2) fun c n=>
.reg 10 [] [(3,hc m [0] false),(4,hv (vl e)),(5,hc n [0] false)] [.cl 1 m [0] 3 false,.pf (zb (DV.i .i64) e),.cl 0 n [0] 3 false]<|
 let d:=(i64.wrap (a.2.2.1+c.1))
 let f:=(TOf.b (⟨0,[],(⟨[],[],[],[]⟩:TBo)⟩:TOf))
 let o:=[(0,(vp 0)),(4,(vp 1)),(5,(vp 2)),(7,(vi d)),(9,(vi a.2.2.2))]
.sh (H:=NoH) (A:=True) (.pf trivial) o o [(TTape.b c.2),f,(TOf.b a.2.1)] [(TTape.b c.2),f,(TOf.b a.2.1),Ob.unb] (fun _=>zcl) (za8 _)<|
.call (@F_q25_ok a.2.1 d c.2) fun g j=>
.call (@F_q2y_ok a.2.1 g.1) fun p k=>
.reg 11 [4,9,10] [(4,hc j [0] false),(5,hc k [] true),(9,{ h:=.born 3 false,obs:=[(3,f)] })] [.cl 1 j [0] 4 false,.cl 1 j [0] 4 false,.cl 0 k [] 4 true,.cl 0 k [] 4 true,.pf cz1,.pf cz1]<|
 let q:=(i64.wrap (a.2.2.2-1))
.ite (p.2==0) (
.r (.cont (g.2,p.1,d,q))) (
.r (.cont (g.2,a.2.1,d,q)))) (
.r (.brk (a.1,a.2.1,a.2.2.1,a.2.2.2)))
def S_qe (n:Int) (o:TTape):SC R_qe R_qe :=
 let i:=(TOf.b (⟨0,[],(⟨[],[],[],[]⟩:TBo)⟩:TOf))
.reg 0 [] [(0,{ obs:=[(1,i)] })] [.pf cz1]<|
.call (@F_q7_ok 1 3 o) fun d e=>
.call (@F_q3j_ok d.1) fun j f=>
.reg 1 [] [(1,hc e [0] false),(2,hc f [] true),(6,{ obs:=[(2,i)] })] [.cl 1 e [0] 2 false,.cl 0 f [] 2 true,.pf cz1]<|
.call (@F_q1_ok 50 d.2) fun g l=>
.k 2 1 l [0] 3 false<|
.iter [0,1,4,5,7] (fun (c:TTape×TOf×Int)=>[(8,(vi c.2.2))]) (fun c=>[(0,(TTape.b c.1)),(2,(TOf.b c.2.1))]) (g.2,j.1,0) S_qe_b1 (fun c =>
.call (@F_q1_ok (i64.wrap (n+1)) c.1) fun h m=>
.k 7 3 m [0] 3 false<|
.iter [0,4,5] (fun (a:TTape×TOf×Int×Int)=>[(7,(vi a.2.2.1)),(9,(vi a.2.2.2))]) (fun a=>[(0,(TTape.b a.1)),(2,(TOf.b a.2.1))]) (h.2,c.2.1,(i64.wrap (4320+g.1)),h.1) S_qe_b2 (fun a =>
.r (a.2.1,a.1)) id) id
def F_qe (a:Int) (b:TTape):=(S_qe a b).den
theorem F_qe_ok {a:Int} {c:TTape}:FO (F_qe a c) 30 [(vp 0),(vi a)] [(TTape.b c)] (fun x=>(TOf.d x.1)) (fun x=>[(TTape.b x.2)]):=fO (s:=S_qe a c) Tryz.func30
abbrev R_q3s:=Y8×TTape
def S_q3s (i:(List THe)) (j:TTape):SC R_q3s R_q3s :=
 let a:=((i.length:Int)==0)
.calld [a=false] (dF,j) (@F_q1_ok 12 j) fun c e =>
.reg 1 [] [(5,hc e [0] false)] [.clg 0 [a=false] e [0] 1 false,.der (fun (h:¬ AllP [a=false]->(dF,j)=c) (hn:¬ AllP [a=false])=>(by obtain rfl:=h hn; rfl:[(TTape.b j)]=[(TTape.b c.2)])) 1]<|
.ite (cO a (c.1==11)) (
.call (@F_q24_ok c.2) fun f l=>
.k 2 1 l [0] 1 false<|
.r (f.1,f.2)) (
.call (@F_q1_ok (i.length:Int) c.2) fun d g=>
.guard [(0:Int)<=d.1,d.1.toNat<i.length]<|
.reg 3 [] [(4,hc g [0] false)] [.cl 2 g [0] 1 false,.ev 0,.ev 1]<|
.r ((i.getD d.1.toNat dF).J,d.2))
def F_q3s (a:(List THe)) (b:TTape):=(S_q3s a b).den
theorem F_q3s_ok {a:(List THe)} {c:TTape}:FO (F_q3s a c) 99 [(vp 0),(AV.d (eL THe.e a))] [(TTape.b c)] (fun x=>(AV.d (DV.str x.1))) (fun x=>[(TTape.b x.2)]):=fO (s:=S_q3s a c) Tryz.func99
end
end Go.Proofs.YtiohhffifhaboaaGreatDoor
/- What the functions compute,and that their calls return it. No condition. -/
namespace Go.Proofs.YtiohhffifhaboaaGreatDoor
open Go Go.TA
open Go.IntKind (i64)
noncomputable section
set_option maxRecDepth 100000
set_option maxHeartbeats 2000000
abbrev R_q2h:=TTape×(List TRe)×(List TCo)×(List TVe)×(List TOr)
def S_q2h (a:TBo) (p0:TTape):SC R_q2h R_q2h :=
 let c:=(TBo.b (⟨[],[],[],[]⟩:TBo))
.reg 0 [] [(1,{ obs:=[(2,c)] })] [.pf cz8]<|
 let f:=(TBo.b a)
 let bl:=[(0,(vp 0)),(3,(vp 1)),(4,(vp 2))]
.sh (H:=NoH) (A:=True) (.pf trivial) bl bl [(TTape.b p0),f,c] [(TTape.b p0),f,c,Ob.unb] (fun _=>zcl) (za8 _)<|
.guard [a.A.length * (2 * 56)<=2 ^ 48,a.B.length * (2 * 56)<=2 ^ 48,a.C.length * (2 * 32)<=2 ^ 48,a.G.length * (2 * 40)<=2 ^ 48]<|
.reg 1 [3,7,11,15,17,18] [(3,{ h:=.obj }),(7,{ h:=.obj }),(11,{ h:=.obj }),(15,{ h:=.obj }),(16,{ h:=.obj }),(17,{ h:=.born 3 true })] [.pf (p:=∀ k,k<a.A.length->(TRe.d (a.A.getD k dF)).wd=6) (fun _ _=>rfl),.ev 0,.pf (p:=∀ k,k<a.A.length->(TRe.d (a.A.getD k dF)).wd=6) (fun _ _=>rfl),.ev 0,.pf (p:=∀ k,k<a.B.length->(TCo.d (a.B.getD k dF)).wd=7) (fun _ _=>rfl),.ev 1,.pf (p:=∀ k,k<a.B.length->(TCo.d (a.B.getD k dF)).wd=7) (fun _ _=>rfl),.ev 1,.pf (p:=∀ k,k<a.C.length->(TVe.d (a.C.getD k dF)).wd=4) (fun _ _=>rfl),.ev 2,.pf (p:=∀ k,k<a.C.length->(TVe.d (a.C.getD k dF)).wd=4) (fun _ _=>rfl),.ev 2,.pf (p:=∀ k,k<a.G.length->(TOr.d (a.G.getD k dF)).wd=5) (fun _ _=>rfl),.ev 3,.pf (p:=∀ k,k<a.G.length->(TOr.d (a.G.getD k dF)).wd=5) (fun _ _=>rfl),.ev 3]<|
.call (@F_q5_ok ([(-1),0,1,77,1000000000001]:List Int) p0) fun bj ck=>
.reg 2 [] [(1,hv (vl ([(-1),0,1,77,1000000000001]:List Int))),(2,hc ck [0] false)] [.pf (zb (DV.i .i64) ([(-1),0,1,77,1000000000001]:List Int)),.cl 0 ck [0] 8 false]<|
.call (@F_q1_ok 12 bj.2) fun g da=>
.k 3 1 da [0] 8 false<|
.cut (some 0) [4,5] (fun (_:TTape×(List TRe)×(List TCo)×(List TVe)×(List TOr))=>[]) (fun n=>[(0,(TTape.b n.1)),(3,(Ob.box (AV.agg [(AV.ref 4 n.2.1.length 0 n.2.1.length),(AV.ref 5 n.2.2.1.length 0 n.2.2.1.length),(AV.ref 6 n.2.2.2.1.length 0 n.2.2.2.1.length),(AV.ref 7 n.2.2.2.2.length 0 n.2.2.2.2.length)]))),(4,(eS 6 TRe.e n.2.1)),(5,(eS 7 TCo.e n.2.2.1)),(6,(eS 4 TVe.e n.2.2.2.1)),(7,(eS 5 TOr.e n.2.2.2.2))]) (
 let ay:=(a.A.length:Int)
.ite (g.1==0) (
.call (@F_q1_ok 2 g.2) fun cm cn=>
.call (@F_q3s_ok ([]) cm.2) fun co cp=>
 let w:=([(⟨(i64.wrap (ay+cm.1)),co.1,12,4320,5,0⟩:TRe)]:List TRe)
.guard [(a.A.length+w.length) * (2 * 56)<=2 ^ 48]<|
.reg 7 [6,9,11,12,14] [(6,hc cn [0] false),(9,hc cp [0] false),(11,{ h:=.obj,obs:=[(8,(eS 6 TRe.e w))] }),(12,{ h:=.obj,cast:=some (AV.ref 4 ((a.A++w).length) 0 ((a.A++w).length)),obs:=[(4,(eS 6 TRe.e (a.A++w)))] })] [.cl 2 cn [0] 8 false,.cl 1 cp [0] 8 false,.pf (z3i (sz:=6) (e:=TRe.e) (l:=w)),.e w.length,.e a.A.length,.e a.A.length,.pf (p:=∀ k,k<w.length->(TRe.d (w.getD k dF)).wd=6) (fun _ _=>rfl),.ev 0,.pf (z1b (o:=4) (l:=a.A) (x:=w)),.pf (z1a (sz:=6) (e:=TRe.e) (l:=a.A) (x:=w))]<|
.r (.next (co.2,(a.A++w),a.B,a.C,a.G))) (
 let u:=(AV.ref 6 a.C.length 0 a.C.length)
 let M:=(AV.ref 5 a.B.length 0 a.B.length)
 let O:=(AV.ref 7 a.G.length 0 a.G.length)
 let U:=(AV.ref 4 a.A.length 0 a.A.length)
 let Y:=(AV.agg [U,M,u,O])
 let j:=[(4,(vp 2)),(5,(vp 3))]
 let m:=(eS 4 TVe.e a.C)
 let v:=(g.2,a.A,a.B,a.C,a.G)
 let q:=(eS 7 TCo.e a.B)
 let s:=(eS 5 TOr.e a.G)
 let az:=(decide (ay>0))
.ite (g.1==1) (
.ite az (
.call (@F_q1_ok ay g.2) fun ax cq=>
 let ab:=(0+ax.1.toNat)
.guard [(0:Int)<=ax.1,ax.1.toNat<a.A.length,ab<a.A.length]<|
 let aa:=(a.A.getD ab dF)
 let cr:=(⟨aa.D,aa.J,aa.K,aa.N,bj.1,aa.P⟩:TRe)
 let ac:=(a.A.set ab cr)
 let ba:=(eS 6 TRe.e ac)
.reg 10 [6,10] [(6,hc cq [0] false),(10,{ obs:=[(4,ba)] })] [.cl 3 cq [0] 8 false,.e a.A.length,.ev 0,.ev 1,.e a.A.length,.e a.A.length,.ev 2,.pf (z1f (sz:=6) (e:=TRe.e) (l:=a.A) (i:=ab) (x:=cr) (fun _=>rfl))]<|
.cst (A:=True) (.pf trivial) j j [(TTape.b ax.2),f,c,(Ob.box Y),ba,q,m,s] [(TTape.b ax.2),f,c,(Ob.box (AV.agg [(AV.ref 4 ac.length 0 ac.length),M,u,O])),ba,q,m,s] (fun _=>⟨Zd,Zb⟩)<|
.r (.next (ax.2,ac,a.B,a.C,a.G))) (
.r (.next v))) (
 let T:=(a.A.getD (0+0) dF)
.ite (g.1==2) (
.ite az (
.call (@F_q5_ok ([(-1),4320,4679,4680]:List Int) g.2) fun bk cs=>
.guard [0<a.A.length,(0+0)<a.A.length]<|
 let bm:=(⟨T.D,T.J,T.K,bk.1,T.L,T.P⟩:TRe)
 let ad:=(a.A.set (0+0) bm)
 let bb:=(eS 6 TRe.e ad)
.reg 13 [4,7] [(3,hv (vl ([(-1),4320,4679,4680]:List Int))),(4,hc cs [0] false),(7,{ obs:=[(4,bb)] })] [.pf (zb (DV.i .i64) ([(-1),4320,4679,4680]:List Int)),.cl 2 cs [0] 8 false,.e a.A.length,.pf (p:=(0:Int)<=0) dk,.ev 0,.e a.A.length,.e a.A.length,.ev 1,.pf (z1f (sz:=6) (e:=TRe.e) (l:=a.A) (i:=(0+0)) (x:=bm) (fun _=>rfl))]<|
.cst (A:=True) (.pf trivial) j j [(TTape.b bk.2),f,c,(Ob.box Y),bb,q,m,s] [(TTape.b bk.2),f,c,(Ob.box (AV.agg [(AV.ref 4 ad.length 0 ad.length),M,u,O])),bb,q,m,s] (fun _=>⟨Zd,Zb⟩)<|
.r (.next (bk.2,ad,a.B,a.C,a.G))) (
.r (.next v))) (
 let V:=(TTape.b g.2)
.ite (g.1==3) (
.ite az (
.guard [0<a.A.length,(0+0)<a.A.length]<|
 let bn:=(⟨T.D,T.J,T.K,T.N,T.L,bj.1⟩:TRe)
 let ae:=(a.A.set (0+0) bn)
 let bc:=(eS 6 TRe.e ae)
.reg 16 [] [(5,{ obs:=[(4,bc)] })] [.e a.A.length,.pf (p:=(0:Int)<=0) dk,.ev 0,.e a.A.length,.e a.A.length,.ev 1,.pf (z1f (sz:=6) (e:=TRe.e) (l:=a.A) (i:=(0+0)) (x:=bn) (fun _=>rfl))]<|
.cst (A:=True) (.pf trivial) j j [V,f,c,(Ob.box Y),bc,q,m,s] [V,f,c,(Ob.box (AV.agg [(AV.ref 4 ae.length 0 ae.length),M,u,O])),bc,q,m,s] (fun _=>⟨Zd,Zb⟩)<|
.r (.next (g.2,ae,a.B,a.C,a.G))) (
.r (.next v))) (
 let af:=(a.B.length:Int)
.ite (g.1==4) (
.call (@F_q1_ok 4 g.2) fun ct cu=>
.call (@F_q5_ok ([4400,4679,4680]:List Int) ct.2) fun cv cw=>
.call (@F_q7_ok 1 9 cv.2) fun bo bp=>
.call (@F_q1_ok 2 bo.2) fun bq br=>
 let y:=([(⟨(i64.wrap (af+1)),ct.1,cv.1,bo.1,0,bq.1,4400⟩:TCo)]:List TCo)
.guard [(a.B.length+y.length) * (2 * 56)<=2 ^ 48]<|
.reg 18 [7,10,12,14,16,17,19] [(7,hc cu [0] false),(9,hv (vl ([4400,4679,4680]:List Int))),(10,hc cw [0] false),(12,hc bp [0] false),(14,hc br [0] false),(16,{ h:=.obj,obs:=[(8,(eS 7 TCo.e y))] }),(17,{ h:=.obj,cast:=some (AV.ref 5 ((a.B++y).length) 0 ((a.B++y).length)),obs:=[(5,(eS 7 TCo.e (a.B++y)))] })] [.cl 4 cu [0] 8 false,.pf (zb (DV.i .i64) ([4400,4679,4680]:List Int)),.pf (zb (DV.i .i64) ([4400,4679,4680]:List Int)),.cl 3 cw [0] 8 false,.cl 2 bp [0] 8 false,.cl 1 br [0] 8 false,.pf (z3i (sz:=7) (e:=TCo.e) (l:=y)),.e y.length,.e a.B.length,.e a.B.length,.pf (p:=∀ k,k<y.length->(TCo.d (y.getD k dF)).wd=7) (fun _ _=>rfl),.ev 0,.pf (z1b (o:=5) (l:=a.B) (x:=y)),.pf (z1a (sz:=7) (e:=TCo.e) (l:=a.B) (x:=y))]<|
.r (.next (bq.2,a.A,(a.B++y),a.C,a.G))) (
 let t:=(eS 6 TRe.e a.A)
.ite (g.1==5) (
.ite (decide (af>0)) (
.guard [0<a.B.length,(0+0)<a.B.length]<|
 let W:=(a.B.getD (0+0) dF)
 let cx:=(⟨W.D,W.H,W.N,W.L,bj.1,W.S,W.X⟩:TCo)
 let ag:=(a.B.set (0+0) cx)
 let bd:=(eS 7 TCo.e ag)
.reg 21 [] [(5,{ obs:=[(5,bd)] })] [.e a.B.length,.pf (p:=(0:Int)<=0) dk,.ev 0,.e a.B.length,.e a.B.length,.ev 1,.pf (z1f (sz:=7) (e:=TCo.e) (l:=a.B) (i:=(0+0)) (x:=cx) (fun _=>rfl))]<|
.cst (A:=True) (.pf trivial) j j [V,f,c,(Ob.box Y),t,bd,m,s] [V,f,c,(Ob.box (AV.agg [U,(AV.ref 5 ag.length 0 ag.length),u,O])),t,bd,m,s] (fun _=>⟨Zd,Zb⟩)<|
.r (.next (g.2,a.A,ag,a.C,a.G))) (
.r (.next v))) (
.ite (g.1==6) (
.ite (decide (af>0)) (
.call (@F_q1_ok af g.2) fun ah bs=>
.call (@F_q5_ok ([1,100,(-1)]:List Int) ah.2) fun ai bt=>
 let aj:=(0+ah.1.toNat)
.guard [(0:Int)<=ah.1,ah.1.toNat<a.B.length,aj<a.B.length]<|
 let R:=(a.B.getD aj dF)
 let cy:=(⟨R.D,R.H,R.N,(i64.wrap (R.L+ai.1)),R.P,R.S,R.X⟩:TCo)
 let ak:=(a.B.set aj cy)
 let be:=(eS 7 TCo.e ak)
.reg 24 [6,12,16] [(6,hc bs [0] false),(11,hv (vl ([1,100,(-1)]:List Int))),(12,hc bt [0] false),(16,{ obs:=[(5,be)] })] [.cl 4 bs [0] 8 false,.e a.B.length,.ev 0,.ev 1,.e a.B.length,.ev 0,.ev 1,.e a.B.length,.e a.B.length,.e a.B.length,.ev 2,.e a.B.length,.ev 2,.pf (zb (DV.i .i64) ([1,100,(-1)]:List Int)),.pf (zb (DV.i .i64) ([1,100,(-1)]:List Int)),.cl 3 bt [0] 8 false,.e a.B.length,.ev 0,.ev 1,.e a.B.length,.e a.B.length,.ev 2,.pf (z1f (sz:=7) (e:=TCo.e) (l:=a.B) (i:=aj) (x:=cy) (fun _=>rfl))]<|
.cst (A:=True) (.pf trivial) j j [(TTape.b ai.2),f,c,(Ob.box Y),t,be,m,s] [(TTape.b ai.2),f,c,(Ob.box (AV.agg [U,(AV.ref 5 ak.length 0 ak.length),u,O])),t,be,m,s] (fun _=>⟨Zd,Zb⟩)<|
.r (.next (ai.2,a.A,ak,a.C,a.G))) (
.r (.next v))) (
.ite (g.1==7) (
.call (@F_q1_ok 4 g.2) fun bu bv=>
.call (@F_q5_ok ([4500,5039,5040]:List Int) bu.2) fun bw bx=>
 let z:=([(⟨(i64.wrap ((a.C.length:Int)+1)),bu.1,bw.1,1⟩:TVe)]:List TVe)
.guard [(a.C.length+z.length) * (2 * 32)<=2 ^ 48]<|
.reg 26 [7,10,12,13,15] [(7,hc bv [0] false),(9,hv (vl ([4500,5039,5040]:List Int))),(10,hc bx [0] false),(12,{ h:=.obj,obs:=[(8,(eS 4 TVe.e z))] }),(13,{ h:=.obj,cast:=some (AV.ref 6 ((a.C++z).length) 0 ((a.C++z).length)),obs:=[(6,(eS 4 TVe.e (a.C++z)))] })] [.cl 2 bv [0] 8 false,.pf (zb (DV.i .i64) ([4500,5039,5040]:List Int)),.pf (zb (DV.i .i64) ([4500,5039,5040]:List Int)),.cl 1 bx [0] 8 false,.pf (z3i (sz:=4) (e:=TVe.e) (l:=z)),.e z.length,.e a.C.length,.e a.C.length,.pf (p:=∀ k,k<z.length->(TVe.d (z.getD k dF)).wd=4) (fun _ _=>rfl),.ev 0,.pf (z1b (o:=6) (l:=a.C) (x:=z)),.pf (z1a (sz:=4) (e:=TVe.e) (l:=a.C) (x:=z))]<|
.r (.next (bw.2,a.A,a.B,(a.C++z),a.G))) (
.ite (g.1==8) (
.ite (decide ((a.C.length:Int)>0)) (
.call (@F_q5_ok ([0,5039,5040]:List Int) g.2) fun al bz=>
.guard [0<a.C.length,(0+0)<a.C.length]<|
 let bf:=(a.C.getD (0+0) dF)
 let ca:=(⟨bf.D,bf.I,al.1,bf.L⟩:TVe)
 let am:=(a.C.set (0+0) ca)
 let bg:=(eS 4 TVe.e am)
.reg 29 [4,7] [(3,hv (vl ([0,5039,5040]:List Int))),(4,hc bz [0] false),(7,{ obs:=[(6,bg)] })] [.pf (zb (DV.i .i64) ([0,5039,5040]:List Int)),.cl 2 bz [0] 8 false,.e a.C.length,.pf (p:=(0:Int)<=0) dk,.ev 0,.e a.C.length,.e a.C.length,.ev 1,.pf (z1f (sz:=4) (e:=TVe.e) (l:=a.C) (i:=(0+0)) (x:=ca) (fun _=>rfl))]<|
.cst (A:=True) (.pf trivial) j j [(TTape.b al.2),f,c,(Ob.box Y),t,q,bg,s] [(TTape.b al.2),f,c,(Ob.box (AV.agg [U,M,(AV.ref 6 am.length 0 am.length),O])),t,q,bg,s] (fun _=>⟨Zd,Zb⟩)<|
.r (.next (al.2,a.A,a.B,am,a.G))) (
.r (.next v))) (
 let an:=(a.G.length:Int)
.ite (g.1==9) (
.call (@F_q1_ok 4 g.2) fun cb cc=>
.call (@F_q7_ok 0 2 cb.2) fun cd ce=>
.call (@F_q5_ok ([4700,5039,5040]:List Int) cd.2) fun cf cg=>
 let F:=([(⟨(i64.wrap (an+1)),cb.1,cd.1,cf.1,false⟩:TOr)]:List TOr)
.guard [(a.G.length+F.length) * (2 * 40)<=2 ^ 48]<|
.reg 31 [7,9,12,14,15,17] [(7,hc cc [0] false),(9,hc ce [0] false),(11,hv (vl ([4700,5039,5040]:List Int))),(12,hc cg [0] false),(14,{ h:=.obj,obs:=[(8,(eS 5 TOr.e F))] }),(15,{ h:=.obj,cast:=some (AV.ref 7 ((a.G++F).length) 0 ((a.G++F).length)),obs:=[(7,(eS 5 TOr.e (a.G++F)))] })] [.cl 3 cc [0] 8 false,.cl 2 ce [0] 8 false,.pf (zb (DV.i .i64) ([4700,5039,5040]:List Int)),.pf (zb (DV.i .i64) ([4700,5039,5040]:List Int)),.pf (zb (DV.i .i64) ([4700,5039,5040]:List Int)),.cl 1 cg [0] 8 false,.pf (z3i (sz:=5) (e:=TOr.e) (l:=F)),.e F.length,.e a.G.length,.e a.G.length,.pf (p:=∀ k,k<F.length->(TOr.d (F.getD k dF)).wd=5) (fun _ _=>rfl),.ev 0,.pf (z1b (o:=7) (l:=a.G) (x:=F)),.pf (z1a (sz:=5) (e:=TOr.e) (l:=a.G) (x:=F))]<|
.r (.next (cf.2,a.A,a.B,a.C,(a.G++F)))) (
.ite (g.1==10) (
.ite (decide (an>0)) (
.guard [0<a.G.length,(0+0)<a.G.length]<|
 let ao:=(a.G.getD (0+0) dF)
 let ch:=(⟨ao.D,ao.E,2,ao.N,ao.Z⟩:TOr)
 let ap:=(a.G.set (0+0) ch)
 let bh:=(eS 5 TOr.e ap)
.reg 34 [] [(4,{ obs:=[(7,bh)] })] [.e a.G.length,.pf (p:=(0:Int)<=0) dk,.ev 0,.e a.G.length,.e a.G.length,.ev 1,.pf (z1f (sz:=5) (e:=TOr.e) (l:=a.G) (i:=(0+0)) (x:=ch) (fun _=>rfl))]<|
.cst (A:=True) (.pf trivial) j j [V,f,c,(Ob.box Y),t,q,m,bh] [V,f,c,(Ob.box (AV.agg [U,M,u,(AV.ref 7 ap.length 0 ap.length)])),t,q,m,bh] (fun _=>⟨Zd,Zb⟩)<|
.r (.next (g.2,a.A,a.B,a.C,ap))) (
.r (.next v))) (
.ite (decide (an>0)) (
.call (@F_q1_ok an g.2) fun aq ci=>
.call (@F_q1_ok 2 aq.2) fun ar cj=>
 let au:=(0+aq.1.toNat)
.guard [(0:Int)<=aq.1,aq.1.toNat<a.G.length,au<a.G.length]<|
 let av:=(a.G.getD au dF)
 let cz:=(⟨av.D,av.E,av.Q,av.N,(ar.1==0)⟩:TOr)
 let aw:=(a.G.set au cz)
 let bi:=(eS 5 TOr.e aw)
.reg 5 [6,8,12] [(6,hc ci [0] false),(8,hc cj [0] false),(12,{ obs:=[(7,bi)] })] [.cl 4 ci [0] 8 false,.cl 3 cj [0] 8 false,.e a.G.length,.ev 0,.ev 1,.e a.G.length,.e a.G.length,.ev 2,.pf (z1f (sz:=5) (e:=TOr.e) (l:=a.G) (i:=au) (x:=cz) (fun _=>rfl))]<|
.cst (A:=True) (.pf trivial) j j [(TTape.b ar.2),f,c,(Ob.box Y),t,q,m,bi] [(TTape.b ar.2),f,c,(Ob.box (AV.agg [U,M,u,(AV.ref 7 aw.length 0 aw.length)])),t,q,m,bi] (fun _=>⟨Zd,Zb⟩)<|
.r (.next (ar.2,a.A,a.B,a.C,aw))) (
.r (.next v)))))))))))))) fun n=>
.reg 35 [] [] []<|
.kill 1<|
.kill 3<|
.r (n.1,n.2.1,n.2.2.1,n.2.2.2.1,n.2.2.2.2)
def F_q2h (a:TBo) (b:TTape):=(S_q2h a b).den
theorem F_q2h_ok {a:TBo} {c:TTape}:FO (F_q2h a c) 67 [(vp 0),(TBo.d a)] [(TTape.b c)] (fun x=>(AV.agg [(AV.ref 4 x.2.1.length 0 x.2.1.length),(AV.ref 5 x.2.2.1.length 0 x.2.2.1.length),(AV.ref 6 x.2.2.2.1.length 0 x.2.2.2.1.length),(AV.ref 7 x.2.2.2.2.length 0 x.2.2.2.2.length)])) (fun x=>[(TTape.b x.1),Ob.dead,(Ob.box (AV.agg [(AV.ref 4 x.2.1.length 0 x.2.1.length),(AV.ref 5 x.2.2.1.length 0 x.2.2.1.length),(AV.ref 6 x.2.2.2.1.length 0 x.2.2.2.1.length),(AV.ref 7 x.2.2.2.2.length 0 x.2.2.2.2.length)])),Ob.dead,(eS 6 TRe.e x.2.1),(eS 7 TCo.e x.2.2.1),(eS 4 TVe.e x.2.2.2.1),(eS 5 TOr.e x.2.2.2.2)]):=fO (s:=S_q2h a c) Tryz.func67
end
end Go.Proofs.YtiohhffifhaboaaGreatDoor
/- What the functions compute,and that their calls return it. No condition. -/
namespace Go.Proofs.YtiohhffifhaboaaGreatDoor
open Go Go.TA
open Go.IntKind (i64)
noncomputable section
set_option maxRecDepth 100000
set_option maxHeartbeats 2000000
theorem zqo:∀ k,k<1->(TRi.d (([(([(⟨[49],0,0,0,0⟩:TRi)]:List TRi).getD (0+0) dF)]:List TRi).getD k dF)).wd=5:=fun _ _=>rfl
abbrev R_q26:=TOf×TTape
def S_q26 (c:TOf) (p0:TTape):SC R_q26 R_q26 :=
 let q:=(TOf.b (⟨0,[],(⟨[],[],[],[]⟩:TBo)⟩:TOf))
.reg 0 [] [(1,{ obs:=[(2,q)] })] [.pf cz1]<|
.guard [c.F.length * (2 * 48)<=2 ^ 48]<|
.reg 1 [] [(3,{ h:=.obj })] [.pf (p:=∀ k,k<c.F.length->(TRi.d (c.F.getD k dF)).wd=5) (fun _ _=>rfl),.ev 0]<|
 let f:=[(3,(vp 1)),(4,(vp 2))]
 let v:=(TBo.d c.M)
 let ag:=(vl ([0,(-1),20,1000000000000001]:List Int))
 let ah:=(vl ([0,1,6,7]:List Int))
.ite (decide ((c.F.length:Int)>0)) (
.call (@F_q1_ok (c.F.length:Int) p0) fun B bb=>
.k 4 4 bb [0] 4 false<|
.call (@F_q1_ok 7 B.2) fun s bc=>
.k 6 1 bc [0] 4 false<|
.ite (s.1==0) (
.call (@F_q5_ok ([0,1,6,7]:List Int) s.2) fun ar au=>
.reg 9 [] [(1,hv ah),(2,hc au [0] false)] [.pf (zb (DV.i .i64) ([0,1,6,7]:List Int)),.cl 0 au [0] 4 false]<|
.guard [c.F.length<2 ^ 63]<|
.reg 20 [] [] []<|
.frz 3 (.ev 0) none [] [1,2]<|
.r ((⟨ar.1,c.F,c.M⟩:TOf),ar.2)) (
 let g:=(0+B.1.toNat)
 let t:=(c.F.getD g dF)
 let L:=(AV.agg [(vi c.D),(AV.ref 3 c.F.length 0 c.F.length),v])
.ite (s.1==1) (
.call (@F_q5_ok ([0,(-1),20,1000000000000001]:List Int) s.2) fun ad av=>
.guard [(0:Int)<=B.1,B.1.toNat<c.F.length,g<c.F.length]<|
 let ai:=(⟨t.J,t.K,ad.1,t.W,t.T⟩:TRi)
 let N:=(c.F.set g ai)
 let O:=(eS 5 TRi.e N)
.reg 11 [5,8] [(4,hv ag),(5,hc av [0] false),(8,{ obs:=[(3,O)] })] [.pf (zb (DV.i .i64) ([0,(-1),20,1000000000000001]:List Int)),.cl 3 av [0] 4 false,.e c.F.length,.ev 0,.ev 1,.e c.F.length,.e c.F.length,.ev 2,.pf (z1f (sz:=5) (e:=TRi.e) (l:=c.F) (i:=g) (x:=ai) (fun _=>rfl))]<|
.cst (A:=True) (.pf trivial) f f [(TTape.b ad.2),(Ob.box L),q,O] [(TTape.b ad.2),(Ob.box (AV.agg [(vi c.D),(AV.ref 3 N.length 0 N.length),v])),q,O] (fun _=>⟨Zd,Zb⟩)<|
.guard [N.length<2 ^ 63]<|
.reg 20 [] [] []<|
.frz 3 (.ev 0) none [] [1,2]<|
.r ((⟨c.D,N,c.M⟩:TOf),ad.2)) (
.ite (s.1==2) (
 let P:=([(-1),500,t.R]:List Int)
.call (@F_q5_ok P s.2) fun ae aw=>
.guard [(0:Int)<=B.1,B.1.toNat<c.F.length,g<c.F.length]<|
 let aj:=(⟨t.J,t.K,t.R,t.W,ae.1⟩:TRi)
 let Q:=(c.F.set g aj)
 let S:=(eS 5 TRi.e Q)
.reg 13 [11,14] [(10,hv (vl P)),(11,hc aw [0] false),(14,{ obs:=[(3,S)] })] [.e c.F.length,.ev 0,.ev 1,.e c.F.length,.e c.F.length,.ev 2,.pf (zb (DV.i .i64) P),.cl 3 aw [0] 4 false,.e c.F.length,.ev 0,.ev 1,.e c.F.length,.e c.F.length,.ev 2,.pf (z1f (sz:=5) (e:=TRi.e) (l:=c.F) (i:=g) (x:=aj) (fun _=>rfl))]<|
.cst (A:=True) (.pf trivial) f f [(TTape.b ae.2),(Ob.box L),q,S] [(TTape.b ae.2),(Ob.box (AV.agg [(vi c.D),(AV.ref 3 Q.length 0 Q.length),v])),q,S] (fun _=>⟨Zd,Zb⟩)<|
.guard [Q.length<2 ^ 63]<|
.reg 20 [] [] []<|
.frz 3 (.ev 0) none [] [1,2]<|
.r ((⟨c.D,Q,c.M⟩:TOf),ae.2)) (
.ite (s.1==3) (
.call (@F_q24_ok s.2) fun af ax=>
.guard [(0:Int)<=B.1,B.1.toNat<c.F.length,g<c.F.length]<|
 let ak:=(⟨af.1,t.K,t.R,t.W,t.T⟩:TRi)
 let U:=(c.F.set g ak)
 let V:=(eS 5 TRi.e U)
.reg 15 [4,7] [(4,hc ax [0] false),(7,{ obs:=[(3,V)] })] [.cl 3 ax [0] 4 false,.e c.F.length,.ev 0,.ev 1,.e c.F.length,.e c.F.length,.ev 2,.pf (z1f (sz:=5) (e:=TRi.e) (l:=c.F) (i:=g) (x:=ak) (fun _=>rfl))]<|
.cst (A:=True) (.pf trivial) f f [(TTape.b af.2),(Ob.box L),q,V] [(TTape.b af.2),(Ob.box (AV.agg [(vi c.D),(AV.ref 3 U.length 0 U.length),v])),q,V] (fun _=>⟨Zd,Zb⟩)<|
.guard [U.length<2 ^ 63]<|
.reg 20 [] [] []<|
.frz 3 (.ev 0) none [] [1,2]<|
.r ((⟨c.D,U,c.M⟩:TOf),af.2)) (
.ite (s.1==4) (
.guard [0<c.F.length,(0+0)<c.F.length,(c.F.length+1) * (2 * 48)<=2 ^ 48]<|
 let w:=([(c.F.getD (0+0) dF)]:List TRi)
.reg 17 [7,9] [(6,hv (AV.d (eL TRi.e w))),(7,{ h:=.obj,cast:=some (AV.ref 3 ((c.F++w).length) 0 ((c.F++w).length)),obs:=[(3,(eS 5 TRi.e (c.F++w)))] })] [.e c.F.length,.pf (p:=(0:Int)<=0) dk,.ev 0,.e c.F.length,.ev 1,.pf (zb TRi.e w),.e c.F.length,.e c.F.length,.pf (p:=∀ k,k<1->(TRi.d (w.getD k dF)).wd=5) (fun _ _=>rfl),.ev 2,.pf (z1b (o:=3) (l:=c.F) (x:=w)),.pf (z1a (sz:=5) (e:=TRi.e) (l:=c.F) (x:=w))]<|
.guard [(c.F++w).length<2 ^ 63]<|
.reg 20 [] [] []<|
.frz 3 (.ev 0) none [] [1,2]<|
.r ((⟨c.D,(c.F++w),c.M⟩:TOf),s.2)) (
.ite (s.1==5) (
.guard [c.F.length<2 ^ 63]<|
.frz 3 (.ev 0) none [] [1]<|
.guard [1<=c.F.length]<|
.reg 19 [] [(2,hv (AV.d (eL TRi.e (c.F.drop 1))))] [.pf (p:=(0:Int)<=1) dk,.ev 0,.pf (lvD TRi.e c.F 1)]<|
.r ((⟨c.D,(c.F.drop 1),c.M⟩:TOf),s.2)) (
.call (@F_q2h_ok c.M s.2) fun z bd=>
.k 7 3 bd [0] 4 false<|
.kill 5<|
.guard [z.2.1.length<2 ^ 63]<|
.frz 7 (.ev 0) none [] [1]<|
.guard [z.2.2.1.length<2 ^ 63]<|
.frz 8 (.ev 0) none [] [1]<|
.guard [z.2.2.2.1.length<2 ^ 63]<|
.frz 9 (.ev 0) none [] [1]<|
.guard [z.2.2.2.2.length<2 ^ 63]<|
.frz 10 (.ev 0) none [] [1]<|
.guard [c.F.length<2 ^ 63]<|
.reg 20 [] [] []<|
.frz 3 (.ev 0) none [] [1,2]<|
.r ((⟨c.D,c.F,(⟨z.2.1,z.2.2.1,z.2.2.2.1,z.2.2.2.2⟩:TBo)⟩:TOf),z.1)))))))) (
 let be:=(⟨[49],0,0,0,0⟩:TRi)
 let a:=([be]:List TRi)
.reg 5 [] [(1,{ h:=.obj,obs:=[(4,(eS 5 TRi.e a))] })] [.pf (z3i (sz:=5) (e:=TRi.e) (l:=a))]<|
.call (@F_q1_ok 7 p0) fun u bf=>
.k 6 1 bf [0] 5 false<|
.ite (u.1==0) (
.call (@F_q5_ok ([0,1,6,7]:List Int) u.2) fun ay az=>
.reg 9 [] [(1,hv ah),(2,hc az [0] false)] [.pf (zb (DV.i .i64) ([0,1,6,7]:List Int)),.cl 0 az [0] 5 false]<|
.guard [a.length<2 ^ 63]<|
.reg 20 [] [] []<|
.frz 4 (.ev 0) none [] [1,2]<|
.r ((⟨ay.1,a,c.M⟩:TOf),ay.2)) (
 let j:=(a.getD (0+0) dF)
 let X:=(AV.agg [(vi c.D),(AV.ref 4 a.length 0 a.length),v])
 let y:=(eS 5 TRi.e c.F)
.ite (u.1==1) (
.call (@F_q5_ok ([0,(-1),20,1000000000000001]:List Int) u.2) fun G al=>
.guard [0<a.length,(0+0)<a.length]<|
 let Y:=(⟨j.J,j.K,G.1,j.W,j.T⟩:TRi)
 let Z:=(eS 5 TRi.e (a.set (0+0) Y))
.reg 11 [5,8] [(4,hv ag),(5,hc al [0] false),(8,{ obs:=[(4,Z)] })] [.pf (zb (DV.i .i64) ([0,(-1),20,1000000000000001]:List Int)),.cl 2 al [0] 5 false,.e a.length,.pf (p:=(0:Int)<=0) dk,.ev 0,.e a.length,.e a.length,.ev 1,.pf (z1f (sz:=5) (e:=TRi.e) (l:=a) (i:=(0+0)) (x:=Y) (fun _=>rfl))]<|
 let am:=((a.set (0+0) Y).length)
.cst (A:=True) (.pf trivial) f f [(TTape.b G.2),(Ob.box X),q,y,Z] [(TTape.b G.2),(Ob.box (AV.agg [(vi c.D),(AV.ref 4 am 0 am),v])),q,y,Z] (fun _=>⟨Zd,Zb⟩)<|
.guard [(a.set (0+0) Y).length<2 ^ 63]<|
.reg 20 [] [] []<|
.frz 4 (.ev 0) none [] [1,2]<|
.r ((⟨c.D,(a.set (0+0) Y),c.M⟩:TOf),G.2)) (
.ite (u.1==2) (
 let aa:=([(-1),500,j.R]:List Int)
.call (@F_q5_ok aa u.2) fun H an=>
.guard [0<a.length,(0+0)<a.length]<|
 let C:=(⟨j.J,j.K,j.R,j.W,H.1⟩:TRi)
 let ab:=(eS 5 TRi.e (a.set (0+0) C))
.reg 13 [11,14] [(10,hv (vl aa)),(11,hc an [0] false),(14,{ obs:=[(4,ab)] })] [.e a.length,.pf (p:=(0:Int)<=0) dk,.ev 0,.e a.length,.e a.length,.ev 1,.pf (zb (DV.i .i64) aa),.cl 2 an [0] 5 false,.e a.length,.pf (p:=(0:Int)<=0) dk,.ev 0,.e a.length,.e a.length,.ev 1,.pf (z1f (sz:=5) (e:=TRi.e) (l:=a) (i:=(0+0)) (x:=C) (fun _=>rfl))]<|
 let ao:=((a.set (0+0) C).length)
.cst (A:=True) (.pf trivial) f f [(TTape.b H.2),(Ob.box X),q,y,ab] [(TTape.b H.2),(Ob.box (AV.agg [(vi c.D),(AV.ref 4 ao 0 ao),v])),q,y,ab] (fun _=>⟨Zd,Zb⟩)<|
.guard [(a.set (0+0) C).length<2 ^ 63]<|
.reg 20 [] [] []<|
.frz 4 (.ev 0) none [] [1,2]<|
.r ((⟨c.D,(a.set (0+0) C),c.M⟩:TOf),H.2)) (
.ite (u.1==3) (
.call (@F_q24_ok u.2) fun I ap=>
.guard [0<a.length,(0+0)<a.length]<|
 let E:=(⟨I.1,j.K,j.R,j.W,j.T⟩:TRi)
 let ac:=(eS 5 TRi.e (a.set (0+0) E))
.reg 15 [4,7] [(4,hc ap [0] false),(7,{ obs:=[(4,ac)] })] [.cl 2 ap [0] 5 false,.e a.length,.pf (p:=(0:Int)<=0) dk,.ev 0,.e a.length,.e a.length,.ev 1,.pf (z1f (sz:=5) (e:=TRi.e) (l:=a) (i:=(0+0)) (x:=E) (fun _=>rfl))]<|
 let aq:=((a.set (0+0) E).length)
.cst (A:=True) (.pf trivial) f f [(TTape.b I.2),(Ob.box X),q,y,ac] [(TTape.b I.2),(Ob.box (AV.agg [(vi c.D),(AV.ref 4 aq 0 aq),v])),q,y,ac] (fun _=>⟨Zd,Zb⟩)<|
.guard [(a.set (0+0) E).length<2 ^ 63]<|
.reg 20 [] [] []<|
.frz 4 (.ev 0) none [] [1,2]<|
.r ((⟨c.D,(a.set (0+0) E),c.M⟩:TOf),I.2)) (
.ite (u.1==4) (
.guard [0<a.length,(0+0)<a.length,(a.length+1) * (2 * 48)<=2 ^ 48]<|
 let m:=([j]:List TRi)
.reg 17 [7,9] [(6,hv (AV.d (eL TRi.e m))),(7,{ h:=.obj,cast:=some (AV.ref 4 ((a++m).length) 0 ((a++m).length)),obs:=[(4,(eS 5 TRi.e (a++m)))] })] [.e a.length,.pf (p:=(0:Int)<=0) dk,.ev 0,.e a.length,.ev 1,.pf (zb TRi.e m),.e a.length,.e a.length,.pf zqo,.ev 2,.pf (z1b (o:=4) (l:=a) (x:=m)),.pf (z1a (sz:=5) (e:=TRi.e) (l:=a) (x:=m))]<|
.guard [(a++m).length<2 ^ 63]<|
.reg 20 [] [] []<|
.frz 4 (.ev 0) none [] [1,2]<|
.r ((⟨c.D,(a++m),c.M⟩:TOf),u.2)) (
.ite (u.1==5) (
.guard [c.F.length<2 ^ 63]<|
.frz 3 (.ev 0) none [] []<|
.guard [a.length<2 ^ 63]<|
.frz 4 (.ev 0) none [] [1]<|
.guard [1<=a.length]<|
.reg 19 [] [(2,hv (AV.d (eL TRi.e (a.drop 1))))] [.pf (p:=(0:Int)<=1) dk,.ev 0,.pf (lvD TRi.e a 1)]<|
.r ((⟨c.D,(a.drop 1),c.M⟩:TOf),u.2)) (
.call (@F_q2h_ok c.M u.2) fun n ba=>
.k 7 3 ba [0] 5 false<|
.kill 6<|
.guard [n.2.1.length<2 ^ 63]<|
.frz 8 (.ev 0) none [] [1]<|
.guard [n.2.2.1.length<2 ^ 63]<|
.frz 9 (.ev 0) none [] [1]<|
.guard [n.2.2.2.1.length<2 ^ 63]<|
.frz 10 (.ev 0) none [] [1]<|
.guard [n.2.2.2.2.length<2 ^ 63]<|
.frz 11 (.ev 0) none [] [1]<|
.guard [a.length<2 ^ 63]<|
.reg 20 [] [] []<|
.frz 4 (.ev 0) none [] [1,2]<|
.r ((⟨c.D,a,(⟨n.2.1,n.2.2.1,n.2.2.2.1,n.2.2.2.2⟩:TBo)⟩:TOf),n.1))))))))
def F_q26 (a:TOf) (b:TTape):=(S_q26 a b).den
theorem F_q26_ok {a:TOf} {c:TTape}:FO (F_q26 a c) 31 [(vp 0),(TOf.d a)] [(TTape.b c)] (fun x=>(TOf.d x.1)) (fun x=>[(TTape.b x.2)]):=fO (s:=S_q26 a c) Tryz.func31
def S_qv (b:TOf) (l:Int) (o:Int):SC (TWa×Int) (TWa×Int) :=
.a 1 1 2 (@F_qd_ok b) fun m=>
 let c:=(⟨0,0,[],0,0,0,0,0,0,0,0,0,0,0⟩:TWa)
.ite (!m) (
.r (c,1)) (
.ite (cO (decide (l<1)) (decide (l>(b.M.G.length:Int)))) (
.r (c,6)) (
 let f:=(i64.wrap (l-1))
.guard [(0:Int)<=f,f.toNat<b.M.G.length]<|
.reg 5 [] [] [.ev 0,.ev 1]<|
 let d:=(b.M.G.getD f.toNat dF)
.ite d.Z (
.r (c,9)) (
.a 8 1 3 (@F_q2k_ok o) fun n=>
.ite (!n) (
.r (c,2)) (
 let g:=(i64.wrap (d.E-1))
.guard [(0:Int)<=g,g.toNat<b.M.C.length]<|
.reg 10 [] [] [.ev 0,.ev 1]<|
 let h:=(b.M.C.getD g.toNat dF)
 let i:=(i64.wrap (h.I-1))
.guard [(0:Int)<=i,i.toNat<b.M.B.length]<|
.reg 11 [] [] [.ev 0,.ev 1]<|
 let e:=(b.M.B.getD i.toNat dF)
 let j:=(i64.wrap (e.H-1))
.guard [(0:Int)<=j,j.toNat<b.M.A.length]<|
.reg 12 [] [] [.ev 0,.ev 1]<|
 let k:=(b.M.A.getD j.toNat dF)
.r ((⟨o,b.D,k.J,k.K,h.D,d.Q,e.D,k.D,h.L,e.S,d.N,e.X,0,0⟩:TWa),0)))))
def F_qv (a:TOf) (b:Int) (c:Int):=(S_qv a b c).den
theorem F_qv_ok {a:TOf} {b:Int} {c:Int}:FO (F_qv a b c) 34 [(TOf.d a),(vi b),(vi c)] [] (fun x=>(AV.tup [(TWa.d x.1),(vi x.2)])) NL:=fO (s:=S_qv a b c) Tryz.func34
abbrev R_q2i:=Y8×TTape
def S_q2i (e:Y8) (o:(List Y8)) (q:TTape):SC R_q2i R_q2i :=
 let d:=(e.length:Int)
.call (@F_q1_ok (i64.wrap (d+1)) q) fun a p=>
.k 1 4 p [0] 1 false<|
.call (@F_q1_ok (o.length:Int) a.2) fun b f=>
.guard [(0:Int)<=b.1,b.1.toNat<o.length]<|
.reg 2 [] [(4,hc f [0] false)] [.cl 2 f [0] 1 false,.ev 0,.ev 1]<|
.call (@F_q1_ok 3 b.2) fun g h=>
 let i:=(i64.wrap (a.1+g.1))
 let c:=(if i<d then i else d)
 let j:=(o.getD b.1.toNat dF)
 let l:=(e.take a.1.toNat)
 let m:=(l++j)
 let n:=((e.drop c.toNat).take (e.length-c.toNat))
.guard [(0:Int)<=a.1,a.1.toNat<=e.length,l.length+j.length<2 ^ 63,(0:Int)<=c,c.toNat<=e.length,m.length+n.length<2 ^ 63]<|
.reg 3 [10] [(10,hc h [0] false)] [.ev 0,.ev 1,.ev 0,.ev 1,.ev 2,.ev 2,.cl 6 h [0] 1 false,.ev 3,.ev 4,.ev 5]<|
.r ((m++n),g.2)
def F_q2i (a:Y8) (b:(List Y8)) (c:TTape):=(S_q2i a b c).den
theorem F_q2i_ok {a:Y8} {c:(List Y8)} {e:TTape}:FO (F_q2i a c e) 35 [(vp 0),(AV.d (DV.str a)),(AV.d (eL DV.str c))] [(TTape.b e)] (fun x=>(AV.d (DV.str x.1))) (fun x=>[(TTape.b x.2)]):=fO (s:=S_q2i a c e) Tryz.func35
abbrev R_q8:=Int×Bool
def S_q8_b1 (d:Y8) (a:Int×Int):SC R_q8 (Step (Int×Int) R_q8) :=
.ite (decide (a.2<(d.length:Int))) (
 let b:=((d.getD a.2.toNat 0).toNat:Int)
 let c:=(decide (b<48))
.guard [(0:Int)<=a.2,a.2.toNat<d.length,AllP [c=false]->((0:Int)<=a.2),AllP [c=false]->(a.2.toNat<d.length)]<|
.reg 7 [] [] [.ev 0,.ev 1,.ev 2,.ev 3]<|
.ite (cO c (decide (b>57))) (
.r (.ret (0,false))) (
.reg 9 [] [] [.ev 1,.ev 2]<|
.r (.cont ((i64.wrap ((i64.wrap (10 * a.1))+(i64.wrap (IntKind.u8.wrap (b-48))))),(i64.wrap (a.2+1)))))) (
.r (.brk (a.1,a.2)))
def S_q8 (e:Y8):SC R_q8 R_q8 :=
 let b:=(e.length:Int)
 let c:=(cO (decide (b<1)) (decide (b>15)))
 let d:=(decide (b>1))
.guard [AllP [d=true,c=false]->(0<e.length)]<|
.reg 1 [] [] [.pf (p:=AllP [d=true,c=false]->((0:Int)<=0)) (fun _=>dk),.ev 0]<|
.ite (cO c (bif d then (((e.getD 0 0).toNat:Int)==48) else false)) (
.r (0,false)) (
.iter [0] (fun (a:Int×Int)=>[(4,(vi a.1)),(5,(vi a.2))]) (fun _=>[]) (0,0) (S_q8_b1 e) (fun a =>
.r (a.1,true)) id)
def F_q8 (a:Y8):=(S_q8 a).den
theorem F_q8_ok {a:Y8}:FO (F_q8 a) 70 [(AV.d (DV.str a))] [] (fun x=>(AV.tup [(vi x.1),(vb x.2)])) NL:=fO (s:=S_q8 a) Tryz.func70
def S_qq_b1 (h:Y8) (a:Int×Int):SC Int (Step (Int×Int) Int) :=
.ite (decide (a.2<(h.length:Int))) (
.cut (some 2) [0,3,4] (fun (c:Int)=>[(5,(AV.d (DV.i .u64 c)))]) (fun _=>[]) (
 let b:=((h.getD a.2.toNat 0).toNat:Int)
 let e:=(decide (b>=48))
 let g:=(a.2.toNat<h.length)
.guard [(0:Int)<=a.2,a.2.toNat<h.length,AllP [e=true]->((0:Int)<=a.2),AllP [e=true]->g]<|
.reg 6 [] [] [.ev 0,.ev 1,.ev 2,.ev 3]<|
.ite (bif e then (decide (b<=57)) else false) (
.reg 7 [] [] [.ev 1,.ev 2]<|
.r (.next (IntKind.u64.wrap (IntKind.u8.wrap (b-48))))) (
 let f:=(decide (b>=97))
.guard [AllP [f=true]->((0:Int)<=a.2),AllP [f=true]->g]<|
.reg 8 [] [] [.ev 3,.ev 4,.ev 0,.ev 1]<|
.ite (bif f then (decide (b<=102)) else false) (
.reg 9 [] [] [.ev 4,.ev 5]<|
.r (.next (IntKind.u64.wrap ((IntKind.u64.wrap (IntKind.u8.wrap (b-97)))+10)))) (
.r (.next 0)))) fun c=>
.reg 10 [] [] [.pf (p:=(0:Int)<=4) dk]<|
.r (.cont ((IntKind.u64.wrap ((BitVec.ofInt IntKind.u64.bits (IntKind.u64.wrap (a.1 * 2 ^ (min (4:Int).toNat IntKind.u64.bits))) ||| BitVec.ofInt IntKind.u64.bits c).toNat:Int)),(i64.wrap (a.2+1))))) (
.r (.brk (a.1,a.2)))
def S_qq (b:Y8):SC Int Int :=
.iter [0] (fun (a:Int×Int)=>[(3,(AV.d (DV.i .u64 a.1))),(4,(vi a.2))]) (fun _=>[]) (0,0) (S_qq_b1 b) (fun a =>
.r a.1) id
def F_qq (a:Y8):=(S_qq a).den
theorem F_qq_ok {a:Y8}:FO (F_qq a) 71 [(AV.d (DV.str a))] [] (fun x=>(AV.d (DV.i .u64 x))) NL:=fO (s:=S_qq a) Tryz.func71
abbrev R_q4:=TWa×Int
def S_q4_b1 (g:Y8) (a:(List Y8)×Int×Int):SC R_q4 (Step ((List Y8)×Int×Int) R_q4) :=
.ite (bif (decide (a.2.2<=(g.length:Int))) then (decide ((a.1.length:Int)<20)) else false) (
 let c:=(a.2.2==(g.length:Int))
.guard [AllP [c=false]->((0:Int)<=a.2.2),AllP [c=false]->(a.2.2.toNat<g.length)]<|
.reg 6 [] [] [.ev 0,.ev 1]<|
 let f:=(i64.wrap (a.2.2+1))
.ite (cO c (((g.getD a.2.2.toNat 0).toNat:Int)==32)) (
.guard [(0:Int)<=a.2.1,(0:Int)<=a.2.2,a.2.1.toNat<=a.2.2.toNat,a.2.2.toNat<=g.length,(a.1.length+1) * (2 * 16)<=2 ^ 48]<|
 let b:=([((g.drop a.2.1.toNat).take (a.2.2.toNat-a.2.1.toNat))]:List Y8)
.reg 7 [] [(5,hv (AV.d (eL DV.str b))),(6,{ h:=.obj,cast:=some (AV.ref 1 ((a.1++b).length) 0 ((a.1++b).length)),obs:=[(1,(eS 1 DV.str (a.1++b)))] })] [.ev 0,.ev 1,.ev 2,.ev 3,.pf (zb DV.str b),.e a.1.length,.e a.1.length,.pf (p:=∀ k,k<1->(AV.d (DV.str (b.getD k dF))).wd=1) (fun _ _=>rfl),.ev 4,.pf (z1b (o:=1) (l:=a.1) (x:=b)),.pf (z1a (sz:=1) (e:=DV.str) (l:=a.1) (x:=b))]<|
.r (.cont ((a.1++b),f,f))) (
.r (.cont (a.1,a.2.1,f)))) (
.r (.brk (a.1,a.2.1,a.2.2)))
def S_q4_b2 (h:(List Y8)×Int×Int) (b:Nat) (d:(Nat->Int)):SC R_q4 (Step ((Nat->Int)) R_q4) :=
.guard [(0+b)<h.1.length]<|
.reg 14 [] [] [.e h.1.length,.w b,.ev 1,.e h.1.length,.ev 0]<|
.a 15 1 3 (@F_q8_ok (h.1.getD (0+b) dF)) fun f=>
.ite f.2 (
.guard [b<15]<|
.reg 17 [] [(3,{ obs:=[(2,(bx (eA 1 15 (DV.i .i64) (fun j=>if j=b then f.1 else d j))))] })] [.w b,.ev 0,.ev 0,.pf (p:=OLe (bx (DV.arr 1 15 fun j=>if j=b then (DV.i .i64 f.1) else (DV.i .i64) (d j))) (bx (eA 1 15 (DV.i .i64) (fun j=>if j=b then f.1 else d j)))) (z3e (z3f (e:=(DV.i .i64)) (i:=b) (x:=f.1) (g:=d)))]<|
.r (.cont (fun j=>if j=b then f.1 else d j))) (
.c d)
def S_q4 (n:Y8):SC R_q4 R_q4 :=
.reg 3 [] [] []<|
.bor 1 (fun j=>AV.d (DV.str (([]:List Y8).getD j dF))) [4]<|
.iter [0,2] (fun (a:(List Y8)×Int×Int)=>[(4,(AV.ref 1 a.1.length 0 a.1.length)),(5,(vi a.2.1)),(6,(vi a.2.2))]) (fun a=>[(1,(eS 1 DV.str a.1))]) (([]:List Y8),0,0) (S_q4_b1 n) (fun a =>
 let k:=(⟨0,0,[],0,0,0,0,0,0,0,0,0,0,0⟩:TWa)
.ite (cO ((a.1.length:Int) != 15) (decide ((n.length:Int)>300))) (
.r (k,4)) (
.guard [a.1.length<2 ^ 63]<|
.range (a.1.length:Int) a.1.length rfl (.why (.ev 0)) 54 [0,2,4,7,52,53] (fun (_:(Nat->Int))=>[]) (fun b=>[(2,(bx (eA 1 15 (DV.i .i64) b)))]) (fun j=>0) (S_q4_b2 a) (fun b => 
.call (@F_qq_ok (a.1.getD (0+13) dF)) fun o c=>
.call (@F_qq_ok (a.1.getD (0+14) dF)) fun q f=>
.guard [3<a.1.length,(0+3)<a.1.length,13<a.1.length,(0+13)<a.1.length,14<a.1.length,(0+14)<a.1.length]<|
.reg 19 [34,35] [(28,hc c [] true),(32,hc f [] true)] [.pf (p:=(0:Int)<=1) dk,.pf (p:=1<15) dk,.pf (p:=(0:Int)<=1) dk,.pf (p:=1<15) dk,.pf (p:=1<15) dk,.pf (p:=1<15) dk,.pf (p:=(0:Int)<=2) dk,.pf (p:=2<15) dk,.pf (p:=(0:Int)<=2) dk,.pf (p:=2<15) dk,.pf (p:=2<15) dk,.pf (p:=2<15) dk,.e a.1.length,.pf (p:=(0:Int)<=3) dk,.ev 0,.e a.1.length,.pf (p:=(0:Int)<=3) dk,.ev 0,.e a.1.length,.ev 1,.e a.1.length,.ev 1,.pf (p:=(0:Int)<=4) dk,.pf (p:=4<15) dk,.pf (p:=(0:Int)<=4) dk,.pf (p:=4<15) dk,.pf (p:=4<15) dk,.pf (p:=4<15) dk,.pf (p:=(0:Int)<=5) dk,.pf (p:=5<15) dk,.pf (p:=(0:Int)<=5) dk,.pf (p:=5<15) dk,.pf (p:=5<15) dk,.pf (p:=5<15) dk,.pf (p:=(0:Int)<=6) dk,.pf (p:=6<15) dk,.pf (p:=(0:Int)<=6) dk,.pf (p:=6<15) dk,.pf (p:=6<15) dk,.pf (p:=6<15) dk,.pf (p:=(0:Int)<=7) dk,.pf (p:=7<15) dk,.pf (p:=(0:Int)<=7) dk,.pf (p:=7<15) dk,.pf (p:=7<15) dk,.pf (p:=7<15) dk,.pf (p:=(0:Int)<=8) dk,.pf (p:=8<15) dk,.pf (p:=(0:Int)<=8) dk,.pf (p:=8<15) dk,.pf (p:=8<15) dk,.pf (p:=8<15) dk,.pf (p:=(0:Int)<=9) dk,.pf (p:=9<15) dk,.pf (p:=(0:Int)<=9) dk,.pf (p:=9<15) dk,.pf (p:=9<15) dk,.pf (p:=9<15) dk,.pf (p:=(0:Int)<=10) dk,.pf (p:=10<15) dk,.pf (p:=(0:Int)<=10) dk,.pf (p:=10<15) dk,.pf (p:=10<15) dk,.pf (p:=10<15) dk,.pf (p:=(0:Int)<=11) dk,.pf (p:=11<15) dk,.pf (p:=(0:Int)<=11) dk,.pf (p:=11<15) dk,.pf (p:=11<15) dk,.pf (p:=11<15) dk,.pf (p:=(0:Int)<=12) dk,.pf (p:=12<15) dk,.pf (p:=(0:Int)<=12) dk,.pf (p:=12<15) dk,.pf (p:=12<15) dk,.pf (p:=12<15) dk,.e a.1.length,.pf (p:=(0:Int)<=13) dk,.ev 2,.e a.1.length,.pf (p:=(0:Int)<=13) dk,.ev 2,.e a.1.length,.ev 3,.e a.1.length,.ev 3,.cl 7 c [] 3 true,.cl 7 c [] 4 true,.e a.1.length,.pf (p:=(0:Int)<=14) dk,.ev 4,.e a.1.length,.pf (p:=(0:Int)<=14) dk,.ev 4,.e a.1.length,.ev 5,.e a.1.length,.ev 5,.cl 6 f [] 3 true,.cl 6 f [] 4 true]<|
 let g:=(⟨(b 1),(b 2),(a.1.getD (0+3) dF),(b 4),(b 7),(b 8),(b 6),(b 5),(b 9),(b 10),(b 11),(b 12),o,q⟩:TWa)
.call (@F_q6_ok g) fun h l=>
.calld [(!h)=false] dF (@F_q18_ok g) fun s m =>
.reg 20 [] [(1,hc l [] true),(5,hc m [] true)] [.cl 2 l [] 4 true,.clg 0 [(!h)=false] m [] 4 true]<|
.ite (cO (!h) (!(s==n))) (
.r (k,4)) (
.r (g,0))) id)) id
def F_q4 (a:Y8):=(S_q4 a).den
theorem F_q4_ok {a:Y8}:FO (F_q4 a) 36 [(AV.d (DV.str a))] [] (fun x=>(AV.tup [(TWa.d x.1),(vi x.2)])) NL:=fO (s:=S_q4 a) Tryz.func36
end
end Go.Proofs.YtiohhffifhaboaaGreatDoor
/- What the functions compute,and that their calls return it. No condition. -/
namespace Go.Proofs.YtiohhffifhaboaaGreatDoor
open Go Go.TA
open Go.IntKind (i64)
noncomputable section
set_option maxRecDepth 100000
set_option maxHeartbeats 2000000
theorem zqp:LeV (AV.d (DV.arr 1 2 fun j=>if j=1 then (DV.i .i64 5) else if j=0 then (DV.i .i64 1) else (DV.i .i64 0))) (AV.d (eA 1 2 (DV.i .i64) (fun j=>([1,5]:List Int).getD j dF))):=zbp (fun | 0,_=>rfl | 1,_=>rfl | (k+2),h=>absurd h om)
def S_q0_b1 (t:TWa) (u:(List Int)) (n:R_qr) (o:R_qb) (p:R_q16) (q:R_q16) (s:Nat) (k:Nat) (_:Unit):SC Bool (Step Unit Bool) :=
.reg 15 [] [] [.w k,.ev 0]<|
 let f:=(([o.1,p.1,q.1,t]:List TWa).getD s dF)
 let g:=(([n.1,u]:List (List Int)).getD k dF)
.a 16 2 7 (@F_q1s_ok g f false) fun c=>
.a 17 2 8 (@F_q1l_ok g f false) fun d=>
.a 18 2 9 (@F_q1s_ok g f true) fun e=>
.a 19 2 10 (@F_q1l_ok g f true) fun b=>
 let h:=(cO (cO (cO (!((c.1.D==d.1.D)&&((c.1.O==d.1.O)&&((c.1.J==d.1.J)&&((c.1.K==d.1.K)&&((c.1.E==d.1.E)&&((c.1.Q==d.1.Q)&&((c.1.I==d.1.I)&&((c.1.H==d.1.H)&&((c.1.L==d.1.L)&&((c.1.S==d.1.S)&&((c.1.N==d.1.N)&&((c.1.X==d.1.X)&&((c.1.V==d.1.V)&&((c.1.U==d.1.U)&&true))))))))))))))) (c.2 != d.2)) (!((e.1.D==b.1.D)&&((e.1.O==b.1.O)&&((e.1.J==b.1.J)&&((e.1.K==b.1.K)&&((e.1.E==b.1.E)&&((e.1.Q==b.1.Q)&&((e.1.I==b.1.I)&&((e.1.H==b.1.H)&&((e.1.L==b.1.L)&&((e.1.S==b.1.S)&&((e.1.N==b.1.N)&&((e.1.X==b.1.X)&&((e.1.V==b.1.V)&&((e.1.U==b.1.U)&&true)))))))))))))))) (e.2 != b.2))
.calld [h=false] dF (@F_q2o_ok g f) fun l i =>
.calld [h=false] dF (@F_q32_ok g f) fun m j =>
.reg 20 [] [(21,hc i [] true),(24,hc j [] true)] [.clg 2 [h=false] i [] 11 true,.clg 0 [h=false] j [] 11 true]<|
.ite (cO h (l != m)) (
.r (.ret false)) (
.r (.cont ()))
def S_q0_b2 (a1:TWa) (a2:TOf) (a3:(List Int)) (a4:Int) (a5:Int) (a6:(List TWa)) (a7:Y8) (ad:R_qr) (m:R_qb) (D:R_q16) (c:R_qz) (E:R_q16) (F:Nat) (_:Unit):SC Bool (Step Unit Bool) :=
.reg 10 [] [] [.w F,.ev 0]<|
 let G:=([m.1,D.1,E.1,a1]:List TWa)
 let f:=(G.getD F dF)
.call (@F_qj_ok f) fun af I=>
.call (@F_q6_ok f) fun ag J=>
 let s:=(!(af==ag))
.calld [s=false] dF (@F_qh_ok f) fun ah K =>
.calld [s=false] dF (@F_q9_ok f) fun ai L =>
 let t:=(cO s (!(ah==ai)))
.calld [t=false] dF (@F_q1t_ok f) fun aj M =>
.calld [t=false] dF (@F_q18_ok f) fun ak N =>
 let u:=(cO t (!(aj==ak)))
.calld [u=false] dF (@F_q2d_ok f a1) fun al O =>
.calld [u=false] dF (@F_q2c_ok f a1) fun am P =>
 let v:=(cO u (!(al==am)))
.calld [v=false] dF (@F_q2d_ok m.1 f) fun an Q =>
.calld [v=false] dF (@F_q2c_ok m.1 f) fun ao R =>
.reg 11 [] [(1,hc I [] true),(3,hc J [] true),(7,hc K [] true),(9,hc L [] true),(14,hc M [] true),(16,hc N [] true),(22,hc O [] true),(25,hc P [] true),(31,hc Q [] true),(34,hc R [] true)] [.cl 17 I [] 7 true,.cl 16 J [] 7 true,.clg 14 [s=false] K [] 7 true,.clg 12 [s=false] L [] 7 true,.clg 10 [t=false] M [] 7 true,.clg 8 [t=false] N [] 7 true,.clg 6 [u=false] O [] 7 true,.clg 4 [u=false] P [] 7 true,.clg 2 [v=false] Q [] 7 true,.clg 0 [v=false] R [] 7 true]<|
.ite (cO v (!(an==ao))) (
.r (.ret false)) (
 let S:=([ad.1,a3]:List (List Int))
.reg 13 [] [(2,hv (AV.d (eL (eL (DV.i .u64)) S)))] [.pf (zb (eL (DV.i .u64)) S)]<|
.range 2 2 rfl (.why (.pf (p:=2<2 ^ 63) dk)) 146 [3,4,5,6,7,9,10,17,18,19,21,23,99,100,101,144,145] (fun (_:Unit)=>[]) (fun _=>[]) () (S_q0_b1 a1 a3 ad m D E F) (fun _ => 
.guard [c.1.length * (2 * 120)<=2 ^ 48,(c.1.length+1) * (2 * 120)<=2 ^ 48]<|
 let n:=([m.1]:List TWa)
 let g:=(c.1++n)
 let ap:=(AV.ref 7 g.length 0 g.length)
.reg 23 [4,7,8] [(4,{ h:=.obj }),(6,hv (AV.d (eL TWa.e n))),(7,{ cast:=some ap,obs:=[(7,(eS 14 TWa.e g))] }),(8,{ h:=.obj })] [.pf (p:=∀ k,k<c.1.length->(TWa.d (c.1.getD k dF)).wd=14) (fun _ _=>rfl),.ev 0,.pf (zb TWa.e n),.pf (zb TWa.e n),.e c.1.length,.e c.1.length,.pf (p:=∀ k,k<1->(TWa.d (n.getD k dF)).wd=14) (fun _ _=>rfl),.ev 1,.pf (z1b (o:=7) (l:=c.1) (x:=n)),.pf (z1a (sz:=14) (e:=TWa.e) (l:=c.1) (x:=n))]<|
.guard [g.length<2 ^ 63]<|
 let ae:=(AV.d (eL TWa.e c.1))
 let y:=(AV.d (eL TWa.e a6))
 let aq:=[(3,(AV.d (eL (DV.i .u64) a3))),(4,(vi a4)),(5,(vi a5)),(6,y),(7,(AV.d (DV.str a7))),(9,(vp 0)),(10,(vp 1)),(17,(vp 3)),(18,(AV.d (eL (DV.i .u64) ad.1))),(19,(vp 4)),(21,ae),(23,(vp 6)),(99,(AV.d (eL TWa.e G))),(100,(vi 4)),(101,(vi (F:Int))),(210,(AV.ref 8 3 0 3)),(211,(vi 3)),(212,(vi 0))]
 let T:=(eS 14 TWa.e (([a1]:List TWa)++a6))
.sh (H:=(FzH 7 g.length (fun j=>TWa.e (g.getD j dF)))) (A:=g.length<2 ^ 63) (.ev 0) aq aq [(TWa.b a1),(TOf.b a2),T,(TTape.b E.2),(TWa.b m.1),(TWa.b D.1),(TWa.b f),(eS 14 TWa.e g),(Ob.seq 1 3 (listF AV.bot [ae,y,ap]))] [(TWa.b a1),(TOf.b a2),T,(TTape.b E.2),(TWa.b m.1),(TWa.b D.1),(TWa.b f),Ob.dead,(Ob.seq 1 3 (listF AV.bot [ae,y,(AV.d (eL TWa.e g))]))] (fun h=>zdi (o:=7) (q:=8) rfl h rfl dk (zab (TrV.keep _) (zab (TrV.keep _) (zab (TrV.ref (yf _)) zoa)))) (z10 (k:=0) rfl (TrS.keep _) (z10 (k:=1) rfl (TrS.keep _) (z10 (k:=2) rfl (TrS.keep _) (z10 (k:=3) rfl (TrS.keep _) (z10 (k:=4) rfl (TrS.keep _) (z10 (k:=5) rfl (TrS.keep _) (z10 (k:=6) rfl (TrS.keep _) (z10 (k:=7) rfl (TrS.keep _) (z10 (k:=8) rfl (TrS.keep _) (z10 (k:=9) rfl (TrS.keep _) (z10 (k:=10) rfl (TrS.keep _) (z10 (k:=11) rfl (TrS.keep _) (z10 (k:=12) rfl (TrS.keep _) (z10 (k:=13) rfl (TrS.keep _) (z10 (k:=14) rfl (TrS.keep _) (z10 (k:=15) rfl (TrS.keep _) (z10 (k:=16) rfl (TrS.keep _) (z10 (k:=17) rfl (TrS.keep _) z4g))))))))))))))))))<|
.br true (.pf (p:=true=true) rfl)<|
.reg 25 [] [] [.e 3,.pf (p:=(0:Int)<=0) dk,.pf (p:=0<3) dk,.e 3,.pf (p:=(0+0)<3) dk]<|
.a 26 2 9 (@F_qg_ok c.1 f) fun U=>
.a 27 2 9 (@F_q2_ok c.1 f) fun V=>
 let z:=(U.2 != V.2)
.calld [z=false] dF (@F_qt_ok U.1 V.1) fun ar W =>
.reg 28 [] [(6,hc W [] true)] [.clg 0 [z=false] W [] 9 true]<|
.ite (cO z (!ar)) (
.r (.ret false)) (
.br true (.pf (p:=true=true) rfl)<|
.reg 25 [] [] [.e 3,.pf (p:=(0:Int)<=1) dk,.pf (p:=1<3) dk,.e 3,.pf (p:=(0+1)<3) dk]<|
.a 26 2 9 (@F_qg_ok a6 f) fun X=>
.a 27 2 9 (@F_q2_ok a6 f) fun Y=>
 let B:=(X.2 != Y.2)
.calld [B=false] dF (@F_qt_ok X.1 Y.1) fun au Z =>
.reg 28 [] [(6,hc Z [] true)] [.clg 0 [B=false] Z [] 9 true]<|
.ite (cO B (!au)) (
.r (.ret false)) (
.br true (.pf (p:=true=true) rfl)<|
.reg 25 [] [] [.e 3,.pf (p:=(0:Int)<=2) dk,.pf (p:=2<3) dk,.e 3,.pf (p:=(0+2)<3) dk]<|
.a 26 2 9 (@F_qg_ok g f) fun aa=>
.a 27 2 9 (@F_q2_ok g f) fun ab=>
 let C:=(aa.2 != ab.2)
.calld [C=false] dF (@F_qt_ok aa.1 ab.1) fun av ac =>
.reg 28 [] [(6,hc ac [] true)] [.clg 0 [C=false] ac [] 9 true]<|
.ite (cO C (!av)) (
.r (.ret false)) (
.br false (.pf (p:=false=false) rfl)<|
.r (.cont ()))))) .ret)
def S_q0_b3 (o:TOf) (q:Int) (s:Int) (h:R_qe) (i:R_q26) (k:Nat) (l:R_q7) (m:R_q5) (c:Nat) (_:Unit):SC Bool (Step Unit Bool) :=
.reg 38 [] [] [.w c,.ev 0]<|
 let d:=([l.1,m.1]:List Int)
 let n:=(([h.1,i.1,o]:List TOf).getD k dF)
 let e:=([q,s]:List Int)
.call (@F_qn_ok n ((([(fun j=>e.getD j dF),(fun j=>d.getD j dF),(fun j=>([1,5]:List Int).getD j dF)]:List (Nat->Int)).getD c dF) 0) ((([(fun j=>e.getD j dF),(fun j=>d.getD j dF),(fun j=>([1,5]:List Int).getD j dF)]:List (Nat->Int)).getD c dF) 1)) fun a f=>
.reg 39 [] [(5,hc f [] true)] [.pf (p:=(0:Int)<=0) dk,.pf (p:=0<2) dk,.pf (p:=0<2) dk,.pf (p:=(0:Int)<=1) dk,.pf (p:=1<2) dk,.pf (p:=1<2) dk,.cl 0 f [] 9 true]<|
.call (@F_qv_ok n ((([(fun j=>e.getD j dF),(fun j=>d.getD j dF),(fun j=>([1,5]:List Int).getD j dF)]:List (Nat->Int)).getD c dF) 0) ((([(fun j=>e.getD j dF),(fun j=>d.getD j dF),(fun j=>([1,5]:List Int).getD j dF)]:List (Nat->Int)).getD c dF) 1)) fun b g=>
.reg 40 [] [(5,hc g [] true)] [.pf (p:=(0:Int)<=0) dk,.pf (p:=0<2) dk,.pf (p:=0<2) dk,.pf (p:=(0:Int)<=1) dk,.pf (p:=1<2) dk,.pf (p:=1<2) dk,.cl 0 g [] 10 true]<|
.ite (cO (!((a.1.D==b.1.D)&&((a.1.O==b.1.O)&&((a.1.J==b.1.J)&&((a.1.K==b.1.K)&&((a.1.E==b.1.E)&&((a.1.Q==b.1.Q)&&((a.1.I==b.1.I)&&((a.1.H==b.1.H)&&((a.1.L==b.1.L)&&((a.1.S==b.1.S)&&((a.1.N==b.1.N)&&((a.1.X==b.1.X)&&((a.1.V==b.1.V)&&((a.1.U==b.1.U)&&true))))))))))))))) (a.2 != b.2)) (
.r (.ret false)) (
.r (.cont ()))
def S_q0_b4 (u:TOf) (s:Int) (t:Int) (o:R_qe) (q:R_q26) (l:Nat) (r:TTape):SC Bool (Step TTape Bool) :=
.reg 35 [] [(2,{ obs:=[(7,(TOf.b (⟨0,[],(⟨[],[],[],[]⟩:TBo)⟩:TOf)))] })] [.w l,.ev 0,.pf cz1]<|
.call (@F_q7_ok 0 4 r) fun a m=>
.call (@F_q5_ok ([0,1,99,1000001]:List Int) a.2) fun e n=>
 let f:=([a.1,e.1]:List Int)
 let g:=([s,t]:List Int)
.reg 36 [] [(2,hv (AV.d (eA 1 2 (DV.i .i64) (fun j=>g.getD j dF)))),(4,hc m [3] false),(6,hv (vl ([0,1,99,1000001]:List Int))),(7,hc n [3] false),(8,hv (AV.d (eA 1 2 (DV.i .i64) (fun j=>f.getD j dF)))),(9,hv (AV.d (eA 1 2 (DV.i .i64) (fun j=>([1,5]:List Int).getD j dF)))),(10,hv (AV.d (eL (eA 1 2 (DV.i .i64)) ([(fun j=>g.getD j dF),(fun j=>f.getD j dF),(fun j=>([1,5]:List Int).getD j dF)]:List (Nat->Int)))))] [.pf (p:=0<2) dk,.pf (p:=1<2) dk,.pf (p:=LeV (AV.d (DV.arr 1 2 fun j=>if j=1 then (DV.i .i64 t) else if j=0 then (DV.i .i64 s) else (DV.i .i64 0))) (AV.d (eA 1 2 (DV.i .i64) (fun j=>g.getD j dF)))) (zbp (fun | 0,_=>rfl | 1,_=>rfl | (k+2),h=>absurd h om)),.cl 1 m [3] 8 false,.pf (zb (DV.i .i64) ([0,1,99,1000001]:List Int)),.cl 0 n [3] 8 false,.pf (p:=0<2) dk,.pf (p:=1<2) dk,.pf (p:=LeV (AV.d (DV.arr 1 2 fun j=>if j=1 then (DV.i .i64 e.1) else if j=0 then (DV.i .i64 a.1) else (DV.i .i64 0))) (AV.d (eA 1 2 (DV.i .i64) (fun j=>f.getD j dF)))) (zbp (fun | 0,_=>rfl | 1,_=>rfl | (k+2),h=>absurd h om)),.pf (p:=0<2) dk,.pf (p:=1<2) dk,.pf zqp,.pf (zb (eA 1 2 (DV.i .i64)) ([(fun j=>g.getD j dF),(fun j=>f.getD j dF),(fun j=>([1,5]:List Int).getD j dF)]:List (Nat->Int)))]<|
.range 3 3 rfl (.why (.pf (p:=3<2 ^ 63) dk)) 264 [4,5,7,17,19,42,246,247,248,262,263] (fun (_:Unit)=>[]) (fun _=>[]) () (S_q0_b3 u s t o q l a e) (fun _ => 
.c e.2) .ret
def S_q0_b5 (m:Y8) (i:R_q18) (j:R_q2i) (f:Nat) (_:Unit):SC Bool (Step Unit Bool) :=
.reg 48 [] [] [.w f,.ev 0]<|
 let e:=(([i,j.1,m]:List Y8).getD f dF)
.a 49 1 7 (@F_q1u_ok e) fun b=>
.a 50 1 8 (@F_q4_ok e) fun c=>
 let d:=(cO (!((b.1.D==c.1.D)&&((b.1.O==c.1.O)&&((b.1.J==c.1.J)&&((b.1.K==c.1.K)&&((b.1.E==c.1.E)&&((b.1.Q==c.1.Q)&&((b.1.I==c.1.I)&&((b.1.H==c.1.H)&&((b.1.L==c.1.L)&&((b.1.S==c.1.S)&&((b.1.N==c.1.N)&&((b.1.X==c.1.X)&&((b.1.V==c.1.V)&&((b.1.U==c.1.U)&&true))))))))))))))) (b.2 != c.2))
.calld [d=false] dF (@F_qm_ok e) fun k g =>
.calld [d=false] dF (@F_qi_ok e) fun l h =>
.reg 51 [] [(10,hc g [] true),(12,hc h [] true)] [.clg 2 [d=false] g [] 9 true,.clg 0 [d=false] h [] 9 true]<|
.ite (cO d (k != l)) (
.r (.ret false)) (
.r (.cont ()))
def S_q0 (Y:(List Int)) (S:TWa) (Q:TOf) (V:(List Int)) (W:Int) (X:Int) (q:(List TWa)) (R:Y8):SC Bool Bool :=
 let c:=([S]:List TWa)
.call (@F_qy_ok (c++q)) fun g u=>
.calld [(!g)=false] dF (@F_q15_ok Q) fun F v =>
.guard [(c.length+q.length) * (2 * 120)<=2 ^ 48]<|
.reg 1 [] [(1,{ h:=.obj,obs:=[(2,(eS 14 TWa.e c))] }),(3,{ cast:=some (AV.ref 2 ((c++q).length) 0 ((c++q).length)),obs:=[(2,(eS 14 TWa.e (c++q)))] }),(4,hc u [2] true),(8,hc v [] true)] [.pf (z3i (sz:=14) (e:=TWa.e) (l:=c)),.e c.length,.e c.length,.pf (p:=∀ k,k<q.length->(TWa.d (q.getD k dF)).wd=14) (fun _ _=>rfl),.ev 0,.pf (z1b (o:=2) (l:=c) (x:=q)),.pf (z1a (sz:=14) (e:=TWa.e) (l:=c) (x:=q)),.cl 3 u [2] 3 true,.clg 1 [(!g)=false] v [] 3 true]<|
.ite (cO (cO (cO (!g) (!F)) (decide ((V.length:Int)>30))) (decide ((R.length:Int)>1000))) (
.a 2 0 3 (@F_q2v_ok) fun G=>
.r G) (
.call (@F_q2z_ok Y) fun H I=>
.k 3 1 I [] 3 false<|
.call (@F_q7_ok 1 3 H) fun w y=>
.call (@F_qr_ok w.1 w.2) fun s J=>
.reg 4 [] [(2,hc y [3] false),(3,hc J [3] false)] [.cl 1 y [3] 4 false,.cl 0 J [3] 4 false]<|
.call (@F_qb_ok s.1 s.2) fun i T=>
.k 5 2 T [3] 4 false<|
.call (@F_q16_ok i.1 i.2) fun t U=>
.k 6 2 U [3] 5 false<|
.call (@F_qz_ok s.1 8 t.2) fun z K=>
.k 7 2 K [3] 6 false<|
.call (@F_q16_ok t.1 z.2) fun E L=>
 let M:=([i.1,t.1,E.1,S]:List TWa)
.reg 8 [4] [(4,hc L [3] false),(6,hv (AV.d (eL TWa.e M)))] [.cl 0 L [3] 6 false,.pf (zb TWa.e M)]<|
.range 4 4 rfl (.why (.pf (p:=4<2 ^ 63) dk)) 101 [3,4,5,6,7,9,10,17,18,19,21,99,100] (fun (_:Unit)=>[]) (fun _=>[]) () (S_q0_b2 S Q V W X q R s i t z E) (fun _ => 
.call (@F_qe_ok 16 E.2) fun f A=>
.reg 32 [] [(1,hc A [3] false),(2,{ obs:=[(6,(TOf.b (⟨0,[],(⟨[],[],[],[]⟩:TBo)⟩:TOf)))] })] [.cl 0 A [3] 6 false,.pf cz1]<|
.call (@F_q26_ok f.1 f.2) fun j B=>
 let N:=([f.1,j.1,Q]:List TOf)
.reg 33 [3] [(3,hc B [3] false),(5,hv (AV.d (eL TOf.e N)))] [.cl 0 B [3] 7 false,.pf (zb TOf.e N)]<|
.range 3 3 rfl (.why (.pf (p:=3<2 ^ 63) dk)) 248 [4,5,7,17,19,246,247] (fun (_:TTape)=>[]) (fun m=>[(3,(TTape.b m))]) j.2 (S_q0_b4 Q W X f j) (fun m => 
.a 45 1 7 (@F_q18_ok i.1) fun n=>
.call (@F_q2i_ok n ([[],[32],[48],[49],[97],[103],[45],[65]]:List Y8) m) fun C D=>
 let O:=([n,C.1,R]:List Y8)
.reg 46 [] [(3,hv (AV.d (eL DV.str ([[],[32],[48],[49],[97],[103],[45],[65]]:List Y8)))),(4,hc D [3] false),(6,hv (AV.d (eL DV.str O)))] [.pf (zb DV.str ([[],[32],[48],[49],[97],[103],[45],[65]]:List Y8)),.cl 0 D [3] 7 false,.pf (zb DV.str O)]<|
.range 3 3 rfl (.why (.pf (p:=3<2 ^ 63) dk)) 306 [304,305] (fun (_:Unit)=>[]) (fun _=>[]) () (S_q0_b5 R n C) (fun _ => 
.a 54 0 7 (@F_q2v_ok) fun P=>
.r P) id) id) id)
def F_q0 (a:(List Int)) (b:TWa) (c:TOf) (d:(List Int)) (e:Int) (f:Int) (g:(List TWa)) (h:Y8):=(S_q0 a b c d e f g h).den
theorem F_q0_ok {a:(List Int)} {b:TWa} {c:TOf} {f:(List Int)} {g:Int} {h:Int} {j:(List TWa)} {k:Y8}:FO (F_q0 a b c f g h j k) 4 [(vl a),(TWa.d b),(TOf.d c),(AV.d (eL (DV.i .u64) f)),(vi g),(vi h),(AV.d (eL TWa.e j)),(AV.d (DV.str k))] [] vb NL:=fO (s:=S_q0 a b c f g h j k) Tryz.func4
end
end Go.Proofs.YtiohhffifhaboaaGreatDoor
