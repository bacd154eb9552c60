/- A part of the proof: what the functions compute, and that their calls return it. No condition. -/
import Derived.Test.YtkhgaalekilaeaaGreatDoorG6
/- What the functions compute, and that their calls return it. No condition. -/
namespace Go.Proofs.YtkhgaalekilaeaaGreatDoor
open Go Go.TA
open Go.IntKind (i64)
noncomputable section
set_option maxRecDepth 100000
def S_q6i (o:TBo) (z:Int) (B:Int):SC (TBo×Int) (TBo×Int) :=
 let g:=(⟨[],[],[],[]⟩:TBo)
 let k:=(TBo.b g)
.reg 0 [] [(1,{ obs:=[(1,k)] })] [.pf z2t]<|
.a 1 1 2 (@F_q2f_ok o) fun C=>
 let m:=(0,hv (TBo.d g))
.ite (!C) (
.reg 2 [] [m] [.pf zp]<|
.r (g,1)) (
.ite (cO (decide (z<1)) (decide (z>(o.F.length:Int)))) (
.reg 4 [] [m] [.pf zp]<|
.r (g,6)) (
.a 5 1 2 (@F_q2c_ok B) fun D=>
.ite (!D) (
.reg 6 [] [m] [.pf zp]<|
.r (g,2)) (
 let h:=(i64.wrap (z-1))
.call (@F_q2e_ok o (o.F.getD h.toNat dF)) fun E u=>
.guard [(0:Int)<=h,h.toNat<o.F.length]<|
.reg 7 [] [(8,hc u [] true)] [.ev 0,.ev 1,.cl 2 u [] 2 true]<|
.ite (decide (B>E)) (
.reg 8 [] [m] [.pf zp]<|
.r (g,15)) (
.call (@F_q2u_ok o) fun c v=>
.reg 9 [] [(1,hc v [] false),(2,{ obs:=[(8,k)] })] [.cl 0 v [] 2 false,.pf z2t]<|
.kill 3<|
.guard [c.1.length<2 ^ 63]<|
.frz 4 (.ev 0) none [] [8]<|
.guard [c.2.2.1.length<2 ^ 63]<|
.frz 6 (.ev 0) none [] [8]<|
.guard [c.2.2.2.length<2 ^ 63]<|
.frz 7 (.ev 0) none [] [8]<|
 let n:=(0+h.toNat)
.guard [h.toNat<c.2.1.length,n<c.2.1.length]<|
 let f:=(c.2.1.getD n dF)
 let w:=(⟨f.Q,f.Y,f.Ab,f.V,(i64.wrap (f.Ad+B)),f.Ah,f.Aj⟩:TCo)
 let j:=(c.2.1.set n w)
 let t:=(eS 7 TCo.e j)
.reg 10 [] [(11,{ obs:=[(5,t)] })] [.e c.2.1.length,.ev 7,.ev 0,.e c.2.1.length,.e c.2.1.length,.ev 1,.e c.2.1.length,.ev 7,.ev 0,.e c.2.1.length,.e c.2.1.length,.ev 1,.pf (zo (sz:=7) (e:=TCo.e) (l:=c.2.1) (i:=n) (x:=w) (fun _=>rfl))]<|
 let y:=(AV.d (eL TVe.e c.2.2.1))
 let p:=(AV.d (eL TOr.e c.2.2.2))
 let q:=[(6,(vp 1)),(8,(vp 8))]
 let s:=(AV.d (eL TRe.e c.1))
.cst (A:=True) (.pf trivial) q q [(TBo.b o),k,Re,Re,Re,t,Re,Re,(Rd (Rc [s,(Rb 5 c.2.1.length 0 c.2.1.length),y,p]))] [(TBo.b o),k,Re,Re,Re,t,Re,Re,(Rd (Rc [s,(Rb 5 j.length 0 j.length),y,p]))] (fun _=>⟨Zd,Zb⟩)<|
.guard [j.length<2 ^ 63]<|
.reg 11 [] [] []<|
.frz 5 (.ev 0) none [] [1,8]<|
.r ((⟨c.1,j,c.2.2.1,c.2.2.2⟩:TBo),0)))))
def F_q6i (a:TBo) (b:Int) (c:Int):=(S_q6i a b c).den
theorem F_q6i_ok {a:TBo} {b:Int} {c:Int}:FO (F_q6i a b c) 164 [(TBo.d a),(vi b),(vi c)] [] (fun x=>(Rg [(TBo.d x.1),(vi x.2)])) NL:=fO (s:=S_q6i a b c) Tryz.func164
def S_q6j (u:TBo) (z:Int):SC (TBo×Int) (TBo×Int) :=
 let f:=(⟨[],[],[],[]⟩:TBo)
 let j:=(TBo.b f)
.reg 0 [] [(1,{ obs:=[(1,j)] })] [.pf z2t]<|
.a 1 1 2 (@F_q2f_ok u) fun B=>
 let q:=(0,hv (TBo.d f))
.ite (!B) (
.reg 2 [] [q] [.pf zp]<|
.r (f,1)) (
.ite (cO (decide (z<1)) (decide (z>(u.I.length:Int)))) (
.reg 4 [] [q] [.pf zp]<|
.r (f,6)) (
.a 5 2 2 (@F_q2v_ok u z) fun g=>
.ite (cO (g.2==0) g.1.Al) (
.reg 7 [] [q] [.pf zp]<|
.r (f,9)) (
.call (@F_q2u_ok u) fun c v=>
.reg 8 [] [(1,hc v [] false),(2,{ obs:=[(9,j)] })] [.cl 0 v [] 3 false,.pf z2t]<|
.kill 4<|
.guard [c.1.length<2 ^ 63]<|
.frz 5 (.ev 0) none [] [9]<|
.guard [c.2.1.length<2 ^ 63]<|
.frz 6 (.ev 0) none [] [9]<|
.guard [c.2.2.1.length<2 ^ 63]<|
.frz 7 (.ev 0) none [] [9]<|
 let s:=(i64.wrap (g.1.Q-1))
 let k:=(0+s.toNat)
.guard [(0:Int)<=s,s.toNat<c.2.2.2.length,k<c.2.2.2.length]<|
 let m:=(c.2.2.2.getD k dF)
 let w:=(⟨m.Q,m.X,m.Ak,m.Ab,true⟩:TOr)
 let h:=(c.2.2.2.set k w)
 let t:=(eS 5 TOr.e h)
.reg 9 [] [(7,{ obs:=[(8,t)] })] [.e c.2.2.2.length,.ev 0,.ev 1,.e c.2.2.2.length,.e c.2.2.2.length,.ev 2,.pf (zo (sz:=5) (e:=TOr.e) (l:=c.2.2.2) (i:=k) (x:=w) (fun _=>rfl))]<|
 let y:=(AV.d (eL TVe.e c.2.2.1))
 let n:=(AV.d (eL TCo.e c.2.1))
 let o:=[(4,(vp 1)),(8,(vp 9))]
 let p:=(AV.d (eL TRe.e c.1))
.cst (A:=True) (.pf trivial) o o [(TBo.b u),j,(TOr.b g.1),Re,Re,Re,Re,Re,t,(Rd (Rc [p,n,y,(Rb 8 c.2.2.2.length 0 c.2.2.2.length)]))] [(TBo.b u),j,(TOr.b g.1),Re,Re,Re,Re,Re,t,(Rd (Rc [p,n,y,(Rb 8 h.length 0 h.length)]))] (fun _=>⟨Zd,Zb⟩)<|
.guard [h.length<2 ^ 63]<|
.reg 10 [] [] []<|
.frz 8 (.ev 0) none [] [1,9]<|
.r ((⟨c.1,c.2.1,c.2.2.1,h⟩:TBo),0))))
def F_q6j (a:TBo) (b:Int):=(S_q6j a b).den
theorem F_q6j_ok {a:TBo} {b:Int}:FO (F_q6j a b) 165 [(TBo.d a),(vi b)] [] (fun x=>(Rg [(TBo.d x.1),(vi x.2)])) NL:=fO (s:=S_q6j a b) Tryz.func165
def S_q4f (b:TRi) (c:TMe):SC (TRi×Int) (TRi×Int) :=
.a 1 1 3 (@F_q3x_ok b) fun g=>
.ite (cO (cO (cO (!g) (c.Aa != 0)) (!(c.B==b.B))) (c.D != b.D)) (
.r ((⟨[],0,0,0,0⟩:TRi),1)) (
.call (@F_qq_ok c.A) fun d e=>
.calld [(!d)=false] dF (@F_qq_ok c.G) fun h f =>
.reg 3 [] [(2,hc e [] true),(7,hc f [] true)] [.cl 2 e [] 3 true,.clg 0 [(!d)=false] f [] 3 true]<|
.ite (cO (!d) (!h)) (
.r ((⟨[],0,0,0,0⟩:TRi),2)) (
.reg 5 [11,13] [] []<|
.r ((⟨b.B,b.D,(if c.A>b.A then c.A else b.A),(if c.G>b.G then c.G else b.G),b.S⟩:TRi),0)))
def F_q4f (a:TRi) (b:TMe):=(S_q4f a b).den
theorem F_q4f_ok {a:TRi} {b:TMe}:FO (F_q4f a b) 208 [(TRi.d a),(TMe.d b)] [] (fun x=>(Rg [(TRi.d x.1),(vi x.2)])) NL:=fO (s:=S_q4f a b) Tryz.func208
theorem zwr:∀ k,k<1->(TRi.d (([(⟨[],0,0,0,0⟩:TRi)]:List TRi).getD k dF)).wd=5:=fun _ _=>rfl
def S_q2g_b1 (d:TOf) (h:(TRi×Int)) (a:Int):SC (TOf×Int) (Step Int (TOf×Int)) :=
.ite (decide (a<(d.L.length:Int))) (
 let f:=(0+a.toNat)
 let i:=(d.L.getD f dF)
.call (@F_q17_ok i.B h.1.B) fun b j=>
.guard [(0:Int)<=a,a.toNat<d.L.length,f<d.L.length]<|
.reg 15 [] [(7,hc j [] true)] [.e d.L.length,.ev 0,.ev 1,.e d.L.length,.e d.L.length,.ev 2,.cl 3 j [] 5 true]<|
 let c:=(decide (b>0))
.guard [AllP [(b==0)=true,c=false]->((0:Int)<=a),AllP [(b==0)=true,c=false]->(a.toNat<d.L.length),AllP [(b==0)=true,c=false]->(f<d.L.length)]<|
 let g:=(d.L.length=d.L.length)
.reg 16 [] [] [.pf (p:=AllP [(b==0)=true,c=false]->g) (fun _=>rfl),.ev 0,.ev 1,.pf (p:=AllP [(b==0)=true,c=false]->g) (fun _=>rfl),.pf (p:=AllP [(b==0)=true,c=false]->g) (fun _=>rfl),.ev 2]<|
.ite (cO c (bif (b==0) then (decide (i.D>h.1.D)) else false)) (
.r (.brk a)) (
.r (.cont (i64.wrap (a+1))))) (
.r (.brk a))
def S_q2g (m:TOf) (y:TOp):SC (TOf×Int) (TOf×Int) :=
 let u:=(⟨0,[],(⟨[],[],[],[]⟩:TBo)⟩:TOf)
 let t:=(TOf.b u)
.reg 0 [] [(2,{ obs:=[(2,t)] })] [.pf z19]<|
.a 1 2 3 (@F_qu_ok y.B) fun P=>
 let H:=(0,hv (TOf.d u))
.ite (!P) (
.reg 2 [] [H] [.pf z1n]<|
.r (u,5)) (
.ite (cO (decide (y.D<0)) (decide (y.D>99))) (
.reg 4 [] [H] [.pf z1n]<|
.r (u,2)) (
.a 5 5 3 (@F_q1h_ok m y.B y.D) fun K=>
.ite (bif (decide (K<0)) then ((m.L.length:Int)==60) else false) (
.reg 7 [] [H] [.pf z1n]<|
.r (u,3)) (
.call (@F_q2t_ok m y.B y.D) fun R M=>
.call (@F_q4f_ok R (⟨0,0,y.B,y.D,y.A,y.Ae,0,0⟩:TMe)) fun v N=>
.reg 8 [19,20] [(5,hc M [] true),(15,hc N [] true)] [.cl 1 M [] 3 true,.cl 1 M [] 4 true,.cl 0 N [] 3 true,.cl 0 N [] 4 true]<|
.ite (v.2 != 0) (
.reg 10 [] [H] [.pf z1n]<|
.r (u,v.2)) (
.guard [m.L.length * (2 * 48)<=2 ^ 48]<|
.reg 11 [] [(3,{ h:=.obj })] [.pf (p:=∀ k,k<m.L.length->(TRi.d (m.L.getD k dF)).wd=5) (fun _ _=>rfl),.ev 0]<|
 let z:=(TRi.b v.1)
 let C:=(TOf.b m)
 let E:=(TOp.b y)
.cut none [2,4,7] (fun (f:(List TRi)×Int)=>[(6,(vi f.2)),(9,(Rb 4 f.1.length 0 f.1.length))]) (fun f=>[(4,(eS 5 TRi.e f.1))]) (
.ite (decide (K<0)) (
.iter [2,4,7,9] (fun (g:Int)=>[(6,(vi g))]) (fun _=>[]) 0 (S_q2g_b1 m v) (fun g =>
.guard [(m.L.length+1) * (2 * 48)<=2 ^ 48]<|
 let S:=(⟨[],0,0,0,0⟩:TRi)
 let F:=([S]:List TRi)
 let c:=(m.L++F)
 let I:=(Rb 4 c.length 0 c.length)
.reg 18 [] [(2,hv (AV.d (eL TRi.e F))),(3,{ h:=.obj,cast:=some I,obs:=[(4,(eS 5 TRi.e c))] })] [.pf (za TRi.e F),.e m.L.length,.e m.L.length,.pf zwr,.ev 0,.pf (zy (o:=4) (l:=m.L) (x:=F)),.pf (z12 (sz:=5) (e:=TRi.e) (l:=m.L) (x:=F))]<|
 let J:=(i64.wrap (g+1))
 let j:=J
.guard [(0:Int)<=J,j.toNat<=c.length,(0:Int)<=g,g.toNat<=c.length]<|
 let n:=(0+g.toNat)
 let q:=(0+j.toNat)
.reg 19 [7] [(7,{ obs:=[(4,(eS 5 TRi.e (copyL c q (min (c.length-g.toNat) (c.length-j.toNat)) (fun i=>(c.getD (n+i) dF)))))] })] [.ev 0,.ev 1,.e c.length,.ev 2,.ev 3,.e c.length,.e c.length,.e c.length,.pf (p:=∀ k,k<(c.length-g.toNat)->(TRi.d (c.getD (n+k) dF)).wd=5) (fun _ _=>rfl),.pf (z9e (sz:=5) (e:=TRi.e) (l:=c) (off:=q) (k:=(min (c.length-g.toNat) (c.length-j.toNat))) (s:=(fun i=>(c.getD (n+i) dF))))]<|
.cst (A:=True) (.pf trivial) [(2,(vp 0)),(4,(vp 2)),(6,(vi g)),(7,(vp 3)),(9,I)] [(2,(vp 0)),(4,(vp 2)),(6,(vi g)),(7,(vp 3)),(9,(Rb 4 ((copyL c q (min (c.length-g.toNat) (c.length-j.toNat)) (fun i=>(c.getD (n+i) dF))).length) 0 ((copyL c q (min (c.length-g.toNat) (c.length-j.toNat)) (fun i=>(c.getD (n+i) dF))).length)))] [C,E,t,z,(eS 5 TRi.e (copyL c q (min (c.length-g.toNat) (c.length-j.toNat)) (fun i=>(c.getD (n+i) dF))))] [C,E,t,z,(eS 5 TRi.e (copyL c q (min (c.length-g.toNat) (c.length-j.toNat)) (fun i=>(c.getD (n+i) dF))))] (fun _=>⟨by simp +zetaDelta only[zt],by rfl⟩)<|
.r (.next ((copyL c q (min (c.length-g.toNat) (c.length-j.toNat)) (fun i=>(c.getD (n+i) dF))),g))) .ret) (
.r (.next (m.L,K)))) fun f=>
 let G:=(0+f.2.toNat)
.guard [(0:Int)<=f.2,f.2.toNat<f.1.length,G<f.1.length]<|
 let w:=(f.1.set G v.1)
.reg 20 [] [(4,{ obs:=[(4,(eS 5 TRi.e w))] })] [.e f.1.length,.ev 0,.ev 1,.e f.1.length,.ev 2,.pf (zo (sz:=5) (e:=TRi.e) (l:=f.1) (i:=G) (x:=v.1) (fun _=>rfl))]<|
 let O:=[C,E,t,z,(eS 5 TRi.e w)]
.cst (A:=True) (.pf trivial) [(2,(vp 0)),(4,(vp 2)),(9,(Rb 4 f.1.length 0 f.1.length))] [(2,(vp 0)),(4,(vp 2)),(9,(Rb 4 w.length 0 w.length))] O O (fun _=>⟨Zb,by rfl⟩)<|
.guard [w.length<2 ^ 63]<|
.reg 22 [] [] []<|
.frz 4 (.ev 0) none [] [0,2]<|
.r ((⟨m.Q,w,m.Ag⟩:TOf),0)))))
def F_q2g (a:TOf) (b:TOp):=(S_q2g a b).den
theorem F_q2g_ok {a:TOf} {b:TOp}:FO (F_q2g a b) 166 [(TOf.d a),(TOp.d b)] [] (fun x=>(Rg [(TOf.d x.1),(vi x.2)])) NL:=fO (s:=S_q2g a b) Tryz.func166
def S_q6k (b:TRi) (f:Int) (e:Int):SC (TRi×Int) (TRi×Int) :=
.a 1 1 2 (@F_q3x_ok b) fun g=>
 let c:=(⟨[],0,0,0,0⟩:TRi)
 let d:=(i64.wrap (b.A-b.S))
.ite (cO (cO (!g) (decide (f<0))) (decide (f>d))) (
.r (c,1)) (
.ite (cO (decide (e<1)) (decide (e>1000000000000000))) (
.r (c,2)) (
.ite (decide (e>(i64.wrap (d-f)))) (
.r (c,15)) (
.r ((⟨b.B,b.D,b.A,b.G,(i64.wrap (b.S+e))⟩:TRi),0))))
def F_q6k (a:TRi) (b:Int) (c:Int):=(S_q6k a b c).den
theorem F_q6k_ok {a:TRi} {b:Int} {c:Int}:FO (F_q6k a b c) 167 [(TRi.d a),(vi b),(vi c)] [] (fun x=>(Rg [(TRi.d x.1),(vi x.2)])) NL:=fO (s:=S_q6k a b c) Tryz.func167
def S_q53 (f:TOf) (c:TOp):SC (TOf×Int) (TOf×Int) :=
 let F:=(⟨[],[],[],[]⟩:TBo)
 let n:=(⟨0,[],F⟩:TOf)
 let z:=(TOf.b n)
.reg 0 [] [(2,{ obs:=[(2,z)] })] [.pf z19]<|
.a 1 1 3 (@F_qm_ok f) fun P=>
 let u:=(0,hv (TOf.d n))
.ite (!P) (
.reg 2 [] [u] [.pf z1n]<|
.r (n,1)) (
.reg 3 [] [(2,{ obs:=[(3,(TBo.b F))] })] [.pf z2t]<|
.cut (some 0) [2,4,6] (fun (m:TBo×Int)=>[(7,(vi m.2))]) (fun m=>[(3,(TBo.b m.1))]) (
.ite (c.U==1) (
.a 7 10 4 (@F_q6d_ok f.Ag c.B c.D c.Ab c.V) fun o=>
.calld [(o.2==0)=true] dF (@F_q52_ok f c.B c.D) fun R G =>
.reg 8 [] [(10,hc G [] true)] [.clg 0 [(o.2==0)=true] G [] 4 true]<|
.ite (bif (o.2==0) then (decide (c.V>R)) else false) (
.r (.next (o.1,15))) (
.r (.next (o.1,o.2)))) (
.ite (c.U==2) (
.a 11 12 4 (@F_q6e_ok f.Ag c.Of c.Ab c.V c.Ah c.Aj) fun H=>
.r (.next (H.1,H.2))) (
.ite (c.U==3) (
.a 13 8 4 (@F_q6f_ok f.Ag c.Of c.Ab c.V) fun I=>
.r (.next (I.1,I.2))) (
.ite (c.U==4) (
.a 15 6 4 (@F_q6g_ok f.Ag c.Of c.Ab) fun J=>
.r (.next (J.1,J.2))) (
.ite (c.U==5) (
.a 17 6 4 (@F_q6h_ok f.Ag c.Of c.V) fun K=>
.r (.next (K.1,K.2))) (
.ite (c.U==6) (
.a 19 6 4 (@F_q6i_ok f.Ag c.Of c.V) fun M=>
.r (.next (M.1,M.2))) (
.ite (c.U==9) (
.a 21 4 4 (@F_q6j_ok f.Ag c.Of) fun w=>
.r (.next (w.1,w.2))) (
.ite (c.U==8) (
.a 23 2 4 (@F_q2g_ok f c) fun y=>
.r (.ret (y.1,y.2))) (
.ite (c.U==7) (
.a 25 5 4 (@F_q1h_ok f c.B c.D) fun j=>
.ite (decide (j<0)) (
.reg 27 [] [u] [.pf z1n]<|
.r (.ret (n,6))) (
.call (@F_qr_ok f.Ag c.B c.D) fun N q=>
.call (@F_q6k_ok (f.L.getD j.toNat dF) N c.V) fun g s=>
.guard [(0:Int)<=j,j.toNat<f.L.length]<|
.reg 28 [18,19] [(11,hc q [] true),(14,hc s [] true)] [.ev 0,.ev 1,.ev 0,.ev 1,.cl 3 q [] 4 true,.cl 3 q [] 5 true,.cl 2 s [] 4 true,.cl 2 s [] 5 true]<|
.ite (g.2 != 0) (
.reg 30 [] [u] [.pf z1n]<|
.r (.ret (n,g.2))) (
.guard [f.L.length * (2 * 48)<=2 ^ 48]<|
.reg 31 [] [(3,{ h:=.obj })] [.pf (p:=∀ k,k<f.L.length->(TRi.d (f.L.getD k dF)).wd=5) (fun _ _=>rfl),.ev 0]<|
 let C:=(0+j.toNat)
.guard [C<f.L.length]<|
 let t:=(f.L.set C g.1)
 let E:=(eS 5 TRi.e t)
.reg 32 [] [(5,{ obs:=[(5,E)] })] [.e f.L.length,.ev 3,.ev 4,.e f.L.length,.ev 0,.pf (zo (sz:=5) (e:=TRi.e) (l:=f.L) (i:=C) (x:=g.1) (fun _=>rfl))]<|
 let v:=(TBo.e f.Ag)
 let O:=[(2,(vp 0)),(4,(vp 2))]
.cst (A:=True) (.pf trivial) O O [(Rd (Rc [(vi f.Q),(Rb 5 f.L.length 0 f.L.length),(AV.d v)])),(TOp.b c),z,(bx v),(TRi.b g.1),E] [(Rd (Rc [(vi f.Q),(Rb 5 t.length 0 t.length),(AV.d v)])),(TOp.b c),z,(bx v),(TRi.b g.1),E] (fun _=>⟨Zd,Zb⟩)<|
.guard [t.length<2 ^ 63]<|
.reg 33 [] [] []<|
.frz 5 (.ev 0) none [] [0,2]<|
.r (.ret ((⟨f.Q,t,f.Ag⟩:TOf),0))))) (
.r (.next (f.Ag,1)))))))))))) fun m=>
.ite (m.2 != 0) (
.reg 35 [] [u] [.pf z1n]<|
.r (n,m.2)) (
.r ((⟨f.Q,f.L,m.1⟩:TOf),0)))
def F_q53 (a:TOf) (b:TOp):=(S_q53 a b).den
theorem F_q53_ok {a:TOf} {b:TOp}:FO (F_q53 a b) 102 [(TOf.d a),(TOp.d b)] [] (fun x=>(Rg [(TOf.d x.1),(vi x.2)])) NL:=fO (s:=S_q53 a b) Tryz.func102
abbrev R_q7:=TOf×TOf×Bool
def S_q7_b1 (k:TJo) (e:Nat) (f:TOf×TOf×Int):SC R_q7 (Step (TOf×TOf×Int) R_q7) :=
.reg 7 [] [] [.w e,.ev 0]<|
 let g:=(f.2.2 != 0)
 let h:=(k.M.getD e dF)
.calld [g=false] dF (@F_qk_ok h) fun j i =>
.reg 8 [] [(4,hc i [] true)] [.clg 0 [g=false] i [] 6 true]<|
.ite (cO g (!j)) (
 let c:=(⟨0,[],(⟨[],[],[],[]⟩:TBo)⟩:TOf)
.reg 9 [] [(0,hv (TOf.d c)),(1,hv (TOf.d c))] [.pf z1n,.pf z1n]<|
.r (.ret (c,c,false))) (
.a 10 2 6 (@F_q53_ok f.1 h) fun b=>
.ite (decide ((e:Int)<k.Af)) (
.r (.cont (b.1,b.1,b.2))) (
.r (.cont (b.1,f.2.1,b.2))))
def S_q7 (f:TJo):SC R_q7 R_q7 :=
 let c:=(⟨0,[],(⟨[],[],[],[]⟩:TBo)⟩:TOf)
 let e:=(TOf.b c)
.reg 0 [] [(1,{ obs:=[(1,e)] }),(2,{ obs:=[(2,e)] })] [.pf z19,.pf z19]<|
.ite (cO (cO (decide ((f.M.length:Int)>400)) (decide (f.Af<0))) (decide (f.Af>(f.M.length:Int)))) (
.reg 2 [] [(0,hv (TOf.d c)),(1,hv (TOf.d c))] [.pf z1n,.pf z1n]<|
.r (c,c,false)) (
.call (@F_q4e_ok f.Z) fun g h=>
.reg 3 [] [(2,hc h [] true),(6,{ obs:=[(3,e)] })] [.cl 0 h [] 3 true,.pf z19]<|
.reg 4 [] [(1,{ obs:=[(4,e)] })] [.pf z19]<|
.range (f.M.length:Int) f.M.length rfl (.slot 37) 39 [1,2,3,5,7,37,38] (fun (a:TOf×TOf×Int)=>[(6,(vi a.2.2))]) (fun a=>[(3,(TOf.b a.1)),(4,(TOf.b a.2.1))]) (g.1,g.1,g.2) (S_q7_b1 f) (fun a => 
.reg 14 [4,5] [] []<|
.r (a.1,a.2.1,(a.2.2==0))) id)
def F_q7 (a:TJo):=(S_q7 a).den
theorem F_q7_ok {a:TJo}:FO (F_q7 a) 51 [(TJo.d a)] [] (fun x=>(Rg [(TOf.d x.1),(TOf.d x.2.1),(vb x.2.2)])) NL:=fO (s:=S_q7 a) Tryz.func51
def S_q2h_b1 (d:TTr) (e:Y8) (f:Int) (a:Nat) (_:Unit):SC Int (Step Unit Int) :=
.reg 3 [] [(3,{ obs:=[(1,(TPo.b (⟨[],0,0,[],[],[],[]⟩:TPo)))] })] [.w a,.ev 0,.pf cz1]<|
 let c:=(d.E.getD a dF)
.ite (bif (c.B==e) then (c.D==f) else false) (
.r (.ret (a:Int))) (
.r (.cont ()))
def S_q2h (a:TTr) (b:Y8) (c:Int):SC Int Int :=
.range (a.E.length:Int) a.E.length rfl (.slot 10) 12 [1,2,10,11] (fun (_:Unit)=>[]) (fun _=>[]) () (S_q2h_b1 a b c) (fun _ => 
.r (-1)) id
def F_q2h (a:TTr) (b:Y8) (c:Int):=(S_q2h a b c).den
theorem F_q2h_ok {a:TTr} {b:Y8} {c:Int}:FO (F_q2h a b c) 103 [(TTr.d a),(AV.d (Rf b)),(vi c)] [] vi NL:=fO (s:=S_q2h a b c) Tryz.func103
def S_q4g (f:TTr) (g:Y8) (h:Int):SC (TPo×Bool) (TPo×Bool) :=
 let e:=(⟨[],0,0,[],[],[],[]⟩:TPo)
.reg 0 [] [(1,{ obs:=[(1,(TPo.b e))] })] [.pf cz1]<|
.a 1 3 2 (@F_q2h_ok f g h) fun c=>
.ite (decide (c>=0)) (
.guard [(0:Int)<=c,c.toNat<f.E.length]<|
.reg 3 [] [] [.ev 0,.ev 1]<|
.r ((f.E.getD c.toNat dF),true)) (
.reg 4 [] [(0,hv (TPo.d e))] [.pf cz9]<|
.r (e,false))
def F_q4g (a:TTr) (b:Y8) (c:Int):=(S_q4g a b c).den
theorem F_q4g_ok {a:TTr} {b:Y8} {c:Int}:FO (F_q4g a b c) 52 [(TTr.d a),(AV.d (Rf b)),(vi c)] [] (fun x=>(Rg [(TPo.d x.1),(vb x.2)])) NL:=fO (s:=S_q4g a b c) Tryz.func52
end
end Go.Proofs.YtkhgaalekilaeaaGreatDoor
/- What the functions compute,and that their calls return it. No condition. -/
namespace Go.Proofs.YtkhgaalekilaeaaGreatDoor
open Go Go.TA
open Go.IntKind (i64)
noncomputable section
set_option maxRecDepth 100000
def S_q3a (m:TWo) (a:TMe) (f:(List TOf)):SC Bool Bool :=
.call (@F_q4g_ok m.K a.B a.D) fun e j=>
.reg 1 [] [(6,hc j [] true),(10,{ obs:=[(3,(TPo.b (⟨[],0,0,[],[],[],[]⟩:TPo)))] })] [.cl 0 j [] 3 true,.pf cz1]<|
.ite (!e.2) (
.r false) (
.ite (a.Aa==0) (
.ite (cO (cO (cO (decide (a.To<1)) (decide (a.To>(f.length:Int)))) (a.S != 0)) (a.P != 0)) (
.r false) (
 let d:=(i64.wrap (a.To-1))
 let h:=(decide (a.A>=0))
 let i:=(bif (bif h then (decide (a.A<=(e.1.A.getD d.toNat dF))) else false) then (decide (a.G>=0)) else false)
.guard [AllP [h=true]->((0:Int)<=d),AllP [h=true]->(d.toNat<e.1.A.length),AllP [i=true]->((0:Int)<=d),AllP [i=true]->(d.toNat<e.1.G.length)]<|
.reg 7 [] [] [.ev 0,.ev 1,.ev 2,.ev 3]<|
.r (bif i then (decide (a.G<=(e.1.G.getD d.toNat dF))) else false))) (
.ite (cO (cO (cO (cO (cO (cO (a.To != 0) (decide (a.Aa<1))) (decide (a.Aa>(f.length:Int)))) (a.A != 0)) (a.G != 0)) (decide (a.P<0))) (decide (a.P>1000000000000000))) (
.r false) (
 let c:=(decide (a.S>=0))
 let g:=(i64.wrap (a.Aa-1))
.calld [c=true] dF (@F_q2t_ok (f.getD (0+g.toNat) dF) a.B a.D) fun l k =>
.guard [AllP [c=true]->((0:Int)<=g),AllP [c=true]->(g.toNat<f.length),AllP [c=true]->((0+g.toNat)<f.length)]<|
.reg 10 [] [(16,hc k [] true)] [.pf (p:=AllP [c=true]->(f.length=f.length)) (fun _=>rfl),.ev 0,.ev 1,.pf (p:=AllP [c=true]->(f.length=f.length)) (fun _=>rfl),.ev 2,.clg 3 [c=true] k [] 4 true]<|
.r (bif c then (decide (a.S<=l.S)) else false))))
def F_q3a (a:TWo) (b:TMe) (c:(List TOf)):=(S_q3a a b c).den
theorem F_q3a_ok {b:TWo} {c:TMe} {a:(List TOf)}:FO (F_q3a b c a) 54 [(TWo.d b),(Rb 0 a.length 0 a.length),(TMe.d c)] [(eS 6 TOf.e a)] vb (fun _=>[(eS 6 TOf.e a)]):=fO (s:=S_q3a b c a) Tryz.func54
def S_q0_b1 (i:TWo) (c:Nat) (h:R_q7) (f:Nat) (_:Unit):SC Bool (Step Unit Bool) :=
.reg 15 [] [] [.w f,.ev 0]<|
 let d:=(h.1.L.getD f dF)
.call (@F_q4g_ok i.K d.B d.D) fun a g=>
.reg 16 [] [(6,hc g [] true),(10,{ obs:=[(6,(TPo.b (⟨[],0,0,[],[],[],[]⟩:TPo)))] })] [.cl 0 g [] 6 true,.pf cz1]<|
 let e:=(cO (!a.2) (decide (d.A>(a.1.A.getD c dF))))
.guard [AllP [(!a.2)=false]->(c<a.1.A.length),AllP [e=false]->(c<a.1.G.length)]<|
.reg 17 [] [] [.pf (p:=AllP [(!a.2)=false]->((0:Int)<=(c:Int))) (fun _=>(y21 _)),.ev 0,.pf (p:=AllP [e=false]->((0:Int)<=(c:Int))) (fun _=>(y21 _)),.ev 1]<|
.ite (cO e (decide (d.G>(a.1.G.getD c dF)))) (
.r (.ret false)) (
.r (.cont ()))
def S_q0_b2 (h:TWo) (c:Nat) (f:R_q7) (d:Nat) (_:Unit):SC Bool (Step Unit Bool) :=
.reg 22 [] [(2,{ obs:=[(5,(TPo.b (⟨[],0,0,[],[],[],[]⟩:TPo)))] })] [.w d,.ev 0,.pf cz1]<|
 let a:=(h.K.E.getD d dF)
.call (@F_q2t_ok f.2.1 a.B a.D) fun g e=>
.guard [c<a.H.length]<|
.reg 23 [] [(10,hc e [] true)] [.w c,.ev 0,.cl 1 e [] 6 true]<|
.ite (decide ((a.H.getD c dF)>g.S)) (
.r (.ret false)) (
.r (.cont ()))
def S_q0_b3 (i:TWo) (g:Nat) (a:(List TOf)):SC Bool (Step ((List TOf)) Bool) :=
.reg 6 [] [(3,{ obs:=[(2,(TJo.b (⟨0,[],0⟩:TJo)))] })] [.w g,.ev 0,.pf cz2]<|
 let j:=(i.J.getD g dF)
.ite (j.Z != (i64.wrap ((g:Int)+1))) (
.r (.ret false)) (
.call (@F_q7_ok j) fun f m=>
 let n:=(TOf.b (⟨0,[],(⟨[],[],[],[]⟩:TBo)⟩:TOf))
.reg 9 [] [(1,hc m [] true),(6,{ obs:=[(3,n)] }),(7,{ obs:=[(4,n)] })] [.cl 0 m [] 3 true,.pf z19,.pf z19]<|
.ite (!f.2.2) (
.r (.ret false)) (
.guard [(a.length+1) * (2 * 128)<=2 ^ 48]<|
 let c:=([f.2.1]:List TOf)
.reg 12 [] [(2,hv (AV.d (eL TOf.e c))),(3,{ h:=.obj,cast:=some (Rb 1 ((a++c).length) 0 ((a++c).length)),obs:=[(1,(eS 6 TOf.e (a++c)))] })] [.pf (za TOf.e c),.e a.length,.e a.length,.pf (p:=∀ k,k<1->(TOf.d (c.getD k dF)).wd=6) (fun _ _=>rfl),.ev 0,.pf (zy (o:=1) (l:=a) (x:=c)),.pf (z12 (sz:=6) (e:=TOf.e) (l:=a) (x:=c))]<|
.range (f.1.L.length:Int) f.1.L.length rfl (.slot 62) 64 [1,3,4,7,37,38,39,62,63] (fun (_:Unit)=>[]) (fun _=>[]) () (S_q0_b1 i g f) (fun _ => 
.range (i.K.E.length:Int) i.K.E.length rfl (.slot 103) 105 [1,3,4,7,37,38,39,103,104] (fun (_:Unit)=>[]) (fun _=>[]) () (S_q0_b2 i g f) (fun _ => 
.r (.cont (a++c))) .ret) .ret))
def S_q0_b4 (e:TWo) (b:(List TOf)) (a:Nat) (_:Unit):SC Bool (Step Unit Bool) :=
.reg 29 [] [] [.w a,.ev 0]<|
.call (@F_q3a_ok e (e.N.getD a dF) b) fun c d=>
.k 30 3 d [1] 3 true<|
.ite (!c) (
.r (.ret false)) (
.r (.cont ()))
def S_q0 (c:TWo):SC Bool Bool :=
.a 1 2 1 (@F_q18_ok c.K) fun f=>
.ite (cO (cO (!f) ((c.J.length:Int) != c.K.O)) (decide ((c.N.length:Int)>200))) (
.r false) (
.reg 4 [] [] []<|
.bor 6 (fun j=>AV.d (TOf.e (([]:List TOf).getD j dF))) [3]<|
.range (c.J.length:Int) c.J.length rfl (.slot 37) 39 [1,37,38] (fun (b:(List TOf))=>[(3,(Rb 1 b.length 0 b.length))]) (fun b=>[(1,(eS 6 TOf.e b))]) ([]:List TOf) (S_q0_b3 c) (fun b => 
.range (c.N.length:Int) c.N.length rfl (.slot 125) 127 [1,3,125,126] (fun (_:Unit)=>[]) (fun _=>[]) () (S_q0_b4 c b) (fun _ => 
.r true) id) id)
def F_q0 (a:TWo):=(S_q0 a).den
theorem F_q0_ok {a:TWo}:FO (F_q0 a) 17 [(TWo.d a)] [] vb NL:=fO (s:=S_q0 a) Tryz.func17
def S_q2w (b:TWo) (a:Int):SC Bool Bool :=
.r (bif (decide (a>=1)) then (decide (a<=(b.J.length:Int))) else false)
def F_q2w (a:TWo) (b:Int):=(S_q2w a b).den
theorem F_q2w_ok {a:TWo} {b:Int}:FO (F_q2w a b) 80 [(TWo.d a),(vi b)] [] vb NL:=fO (s:=S_q2w a b) Tryz.func80
def S_q4h (g:TJo):SC (TOf×Int) (TOf×Int) :=
 let a:=(⟨0,[],(⟨[],[],[],[]⟩:TBo)⟩:TOf)
 let c:=(TOf.b a)
.reg 0 [] [(1,{ obs:=[(1,c)] })] [.pf z19]<|
.call (@F_q7_ok g) fun e f=>
.reg 1 [] [(1,hc f [] true),(6,{ obs:=[(2,c)] }),(7,{ obs:=[(3,c)] })] [.cl 0 f [] 2 true,.pf z19,.pf z19]<|
.ite (!e.2.2) (
.reg 3 [] [(0,hv (TOf.d a))] [.pf z1n]<|
.r (a,1)) (
.r (e.1,0))
def F_q4h (a:TJo):=(S_q4h a).den
theorem F_q4h_ok {a:TJo}:FO (F_q4h a) 81 [(TJo.d a)] [] (fun x=>(Rg [(TOf.d x.1),(vi x.2)])) NL:=fO (s:=S_q4h a) Tryz.func81
def S_q19 (i:TWo) (l:Int):SC (TOf×Int) (TOf×Int) :=
 let c:=(⟨0,[],(⟨[],[],[],[]⟩:TBo)⟩:TOf)
.reg 0 [] [(1,{ obs:=[(1,(TOf.b c))] })] [.pf z19]<|
.a 1 1 2 (@F_q0_ok i) fun j=>
 let f:=(0,hv (TOf.d c))
.ite (!j) (
.reg 2 [] [f] [.pf z1n]<|
.r (c,1)) (
.a 3 2 2 (@F_q2w_ok i l) fun k=>
.ite (!k) (
.reg 4 [] [f] [.pf z1n]<|
.r (c,6)) (
 let e:=(i64.wrap (l-1))
.call (@F_q4h_ok (i.J.getD e.toNat dF)) fun g h=>
.guard [(0:Int)<=e,e.toNat<i.J.length]<|
.reg 5 [] [(6,hc h [] true)] [.ev 0,.ev 1,.cl 2 h [] 2 true]<|
.r (g.1,g.2)))
def F_q19 (a:TWo) (b:Int):=(S_q19 a b).den
theorem F_q19_ok {a:TWo} {b:Int}:FO (F_q19 a b) 28 [(TWo.d a),(vi b)] [] (fun x=>(Rg [(TOf.d x.1),(vi x.2)])) NL:=fO (s:=S_q19 a b) Tryz.func28
abbrev R_q6l:=Y8×TTape
def S_q6l (c:TTape):SC R_q6l R_q6l :=
.call (@F_q2_ok 3 c) fun a b=>
.guard [(0:Int)<=a.1,a.1.toNat<3]<|
.reg 1 [] [(0,hv (AV.d (eL Rf ([[49],[49,46,50],[50]]:List Y8)))),(2,hc b [0] false)] [.pf (za Rf ([[49],[49,46,50],[50]]:List Y8)),.cl 2 b [0] 1 false,.ev 0,.ev 1]<|
.r ((([[49],[49,46,50],[50]]:List Y8).getD a.1.toNat dF),a.2)
def F_q6l (a:TTape):=(S_q6l a).den
theorem F_q6l_ok {a:TTape}:FO (F_q6l a) 180 [(vp 0)] [(TTape.b a)] (fun x=>(AV.d (Rf x.1))) (fun x=>[(TTape.b x.2)]):=fO (s:=S_q6l a) Tryz.func180
abbrev R_q3y:=TOp×TTape
def S_q3y (L:TOf) (z:Int) (Y:TTape):SC R_q3y R_q3y :=
.call (@F_q6_ok ([1,1,1,2,2,2,3,3,3,4,4,5,6,7,8,8,9]:List Int) Y) fun a M=>
.call (@F_q6l_ok a.2) fun f N=>
.call (@F_q16_ok 1 120 f.2) fun O P=>
 let E:=([10,50,O.1]:List Int)
.call (@F_q6_ok E O.2) fun d Q=>
.reg 1 [] [(1,hv (vl ([1,1,1,2,2,2,3,3,3,4,4,5,6,7,8,8,9]:List Int))),(2,hc M [0] false),(4,hc N [0] false),(10,hc P [0] false),(11,hv (vl E)),(12,hc Q [0] false)] [.pf (za Ra ([1,1,1,2,2,2,3,3,3,4,4,5,6,7,8,8,9]:List Int)),.cl 3 M [0] 3 false,.cl 2 N [0] 3 false,.pf (p:=(360:Int)≠0) dk,.cl 1 P [0] 3 false,.pf (za Ra E),.cl 0 Q [0] 3 false]<|
.cut (some 0) [0,2,6,7] (fun (_:TTape×TOp)=>[]) (fun c=>[(0,(TTape.b c.1)),(3,(TOp.b c.2))]) (
.cut none [0,2,4,6,7,23] (fun (G:Bool)=>[(24,(vb G))]) (fun _=>[]) (
.ite (a.1==2) (
.r (.next (a.1==2))) (
.r (.next (a.1==5)))) fun G=>
 let g:=(i64.wrap (z.tdiv 360))
.ite G (
.call (@F_q16_ok 1 (if (L.Ag.C.length:Int)>1 then (L.Ag.C.length:Int) else 1) d.2) fun R W=>
.k 5 6 W [0] 4 false<|
.r (.next (R.2,(⟨a.1,f.1,g,z,R.1,d.1,0,0,0,0⟩:TOp)))) (
.cut none [0,2,4,6,7,23] (fun (H:Bool)=>[(35,(vb H))]) (fun _=>[]) (
.ite (a.1==3) (
.r (.next (a.1==3))) (
.r (.next (a.1==6)))) fun H=>
.ite H (
.call (@F_q16_ok 1 (if (L.Ag.F.length:Int)>1 then (L.Ag.F.length:Int) else 1) d.2) fun S X=>
.k 8 6 X [0] 4 false<|
.r (.next (S.2,(⟨a.1,f.1,g,z,S.1,d.1,0,0,0,0⟩:TOp)))) (
.cut none [0,2,4,6,7,23] (fun (h:Bool)=>[(46,(vb h))]) (fun _=>[]) (
.ite (a.1==4) (
.r (.next (a.1==4))) (
.r (.next (a.1==9)))) fun h=>
.ite h (
.call (@F_q16_ok 1 (if (L.Ag.I.length:Int)>1 then (L.Ag.I.length:Int) else 1) d.2) fun j T=>
.k 11 6 T [0] 4 false<|
.r (.next (j.2,(⟨a.1,f.1,g,z,j.1,d.1,0,0,0,0⟩:TOp)))) (
.ite (a.1==8) (
.call (@F_q2_ok 1000 d.2) fun l m=>
 let J:=([100,400,l.1]:List Int)
.call (@F_q6_ok J l.2) fun n o=>
.call (@F_q2_ok 200 n.2) fun q s=>
 let K:=([0,0,q.1]:List Int)
.call (@F_q6_ok K q.2) fun t u=>
.reg 13 [] [(2,hc m [0] false),(3,hv (vl J)),(4,hc o [0] false),(7,hc s [0] false),(8,hv (vl K)),(9,hc u [0] false)] [.cl 3 m [0] 4 false,.pf (za Ra J),.cl 2 o [0] 4 false,.cl 1 s [0] 4 false,.pf (za Ra K),.cl 0 u [0] 4 false]<|
.r (.next (t.2,(⟨a.1,f.1,g,z,0,d.1,0,0,n.1,t.1⟩:TOp)))) (
.r (.next (d.2,(⟨a.1,f.1,g,z,0,d.1,0,0,0,0⟩:TOp)))))))) fun c=>
.cut none [6,7] (fun (_:TTape×TOp)=>[]) (fun e=>[(0,(TTape.b e.1)),(3,(TOp.b e.2))]) (
.ite (c.2.U==2) (
.call (@F_q16_ok 1 4 c.1) fun v w=>
.call (@F_q2_ok 60 v.2) fun x y=>
.reg 15 [] [(1,hc w [0] false),(4,hc y [0] false)] [.cl 1 w [0] 4 false,.cl 0 y [0] 4 false]<|
.r (.next (x.2,(⟨c.2.U,c.2.B,c.2.D,c.2.Ab,c.2.Of,c.2.V,v.1,(i64.wrap (z+x.1)),c.2.A,c.2.Ae⟩:TOp)))) (
.r (.next (c.1,c.2)))) fun e=>
.r (e.2,e.1)
def F_q3y (a:TOf) (b:Int) (c:TTape):=(S_q3y a b c).den
theorem F_q3y_ok {a:TOf} {c:Int} {e:TTape}:FO (F_q3y a c e) 130 [(vp 0),(TOf.d a),(vi c)] [(TTape.b e)] (fun x=>(TOp.d x.1)) (fun x=>[(TTape.b x.2)]):=fO (s:=S_q3y a c e) Tryz.func130
def S_q6m (f:TOf) (g:Int) (h:TTape):SC (TOp×TTape) (TOp×TTape) :=
.call (@F_q3y_ok f g h) fun a e=>
.k 1 3 e [0] 3 false<|
.cut (some 0) [6,8] (fun (_:TOp)=>[]) (fun c=>[(4,(TOp.b c))]) (
.ite (a.1.U==1) (
.reg 6 [9,11,13,15] [] []<|
.r (.next (⟨a.1.U,a.1.B,a.1.D,a.1.Ab,0,a.1.V,0,0,0,0⟩:TOp))) (
.ite (a.1.U==2) (
.reg 8 [11,13,15,17,19] [] []<|
.r (.next (⟨a.1.U,[],0,a.1.Ab,a.1.Of,a.1.V,a.1.Ah,a.1.Aj,0,0⟩:TOp))) (
.ite (a.1.U==3) (
.reg 10 [7,9,11] [] []<|
.r (.next (⟨a.1.U,[],0,a.1.Ab,a.1.Of,a.1.V,0,0,0,0⟩:TOp))) (
.ite (a.1.U==4) (
.reg 12 [5,7] [] []<|
.r (.next (⟨a.1.U,[],0,a.1.Ab,a.1.Of,0,0,0,0,0⟩:TOp))) (
.cut none [6,7,8,17] (fun (d:Bool)=>[(71,(vb d))]) (fun _=>[]) (
.ite (a.1.U==5) (
.r (.next (a.1.U==5))) (
.r (.next (a.1.U==6)))) fun d=>
.ite d (
.reg 15 [5,7] [] []<|
.r (.next (⟨a.1.U,[],0,0,a.1.Of,a.1.V,0,0,0,0⟩:TOp))) (
.ite (a.1.U==7) (
.reg 17 [7,9,11] [] []<|
.r (.next (⟨a.1.U,a.1.B,a.1.D,0,0,a.1.V,0,0,0,0⟩:TOp))) (
.ite (a.1.U==8) (
.reg 19 [9,11,13,15] [] []<|
.r (.next (⟨a.1.U,a.1.B,a.1.D,0,0,0,0,0,a.1.A,a.1.Ae⟩:TOp))) (
.r (.next (⟨a.1.U,[],0,0,a.1.Of,0,0,0,0,0⟩:TOp)))))))))) fun c=>
.r (c,a.2)
def F_q6m (a:TOf) (b:Int) (c:TTape):=(S_q6m a b c).den
theorem F_q6m_ok {a:TOf} {c:Int} {e:TTape}:FO (F_q6m a c e) 85 [(vp 0),(TOf.d a),(vi c)] [(TTape.b e)] (fun x=>(TOp.d x.1)) (fun x=>[(TTape.b x.2)]):=fO (s:=S_q6m a c e) Tryz.func85
def S_q6n (b:TRi) (g:Int):SC Int Int :=
.a 1 1 1 (@F_q3x_ok b) fun h=>
 let c:=(i64.wrap (b.A-b.S))
.ite (cO (cO (!h) (decide (g<0))) (decide (g>c))) (
.r 0) (
 let d:=(i64.wrap (b.G-b.S))
 let e:=(i64.wrap (c-g))
 let f:=(if e<d then e else d)
.r (if f>0 then f else 0))
def F_q6n (a:TRi) (b:Int):=(S_q6n a b).den
theorem F_q6n_ok {a:TRi} {b:Int}:FO (F_q6n a b) 127 [(TRi.d a),(vi b)] [] vi NL:=fO (s:=S_q6n a b) Tryz.func127
def S_q54 (g:TOf) (h:Y8) (i:Int):SC (TOp×Bool) (TOp×Bool) :=
.a 1 1 2 (@F_qm_ok g) fun j=>
 let b:=(⟨0,[],0,0,0,0,0,0,0,0⟩:TOp)
.ite (!j) (
.r (b,false)) (
.call (@F_q2t_ok g h i) fun k c=>
.call (@F_qr_ok g.Ag h i) fun l d=>
.call (@F_q6n_ok k l) fun e f=>
.reg 3 [] [(3,hc c [] true),(8,hc d [] true),(9,hc f [] true)] [.cl 2 c [] 2 true,.cl 1 d [] 2 true,.cl 0 f [] 2 true]<|
.ite (e==0) (
.r (b,false)) (
.r ((⟨7,h,i,0,0,e,0,0,0,0⟩:TOp),true)))
def F_q54 (a:TOf) (b:Y8) (c:Int):=(S_q54 a b c).den
theorem F_q54_ok {a:TOf} {b:Y8} {c:Int}:FO (F_q54 a b c) 77 [(TOf.d a),(AV.d (Rf b)),(vi c)] [] (fun x=>(Rg [(TOp.d x.1),(vb x.2)])) NL:=fO (s:=S_q54 a b c) Tryz.func77
abbrev R_q3z:=TSt×TTape
def S_q3z (Y:TWo) (a2:Int) (L:Int) (a4:Int) (p0:TTape):SC R_q3z R_q3z :=
.reg 0 [] [] []<|
 let f:=(DV.i .i64 0)
 let q:=(bx (DV.agg [f,f,(DV.agg [f,(Rf ([])),f,f,f,f,f,f,f,f]),(Rf ([])),f,f,f]))
 let M:=[(0,(vp 0)),(2,(vi a2)),(3,(vi L)),(4,(vi a4)),(6,(vp 1)),(10,(vp 2))]
 let s:=(TWo.b Y)
.sh (H:=NoH) (A:=True) (.pf trivial) M M [(TTape.b p0),s,q] [(TTape.b p0),s,q,Ob.unb] (fun _=>zom) (z17 _)<|
.call (@F_q6_ok ([1,2,2,4,4,5,5,5,5,6,7,8,8,9,9,9,9,10,11,3]:List Int) p0) fun O C=>
.call (@F_q16_ok 1 a2 O.2) fun P E=>
.call (@F_q2_ok 2 P.2) fun t F=>
.call (@F_q16_ok 1 200 t.2) fun G I=>
.call (@F_q2_ok (if (Y.N.length:Int)>1 then (Y.N.length:Int) else 1) G.2) fun u J=>
.guard [(0:Int)<=t.1,t.1.toNat<2]<|
.reg 1 [2,5,8,12,18,20,21] [(1,hv (vl ([1,2,2,4,4,5,5,5,5,6,7,8,8,9,9,9,9,10,11,3]:List Int))),(2,hc C [0] false),(5,hc E [0] false),(6,hv (AV.d (eL Rf ([[49],[50]]:List Y8)))),(8,hc F [0] false),(12,hc I [0] false),(18,hc J [0] false),(20,{ h:=.born 3 false })] [.pf (za Ra ([1,2,2,4,4,5,5,5,5,6,7,8,8,9,9,9,9,10,11,3]:List Int)),.pf (za Ra ([1,2,2,4,4,5,5,5,5,6,7,8,8,9,9,9,9,10,11,3]:List Int)),.cl 6 C [0] 4 false,.cl 6 C [0] 4 false,.cl 5 E [0] 4 false,.cl 5 E [0] 4 false,.pf (za Rf ([[49],[50]]:List Y8)),.pf (za Rf ([[49],[50]]:List Y8)),.pf (za Rf ([[49],[50]]:List Y8)),.pf (za Rf ([[49],[50]]:List Y8)),.pf (za Rf ([[49],[50]]:List Y8)),.pf (za Rf ([[49],[50]]:List Y8)),.pf (za Rf ([[49],[50]]:List Y8)),.pf (za Rf ([[49],[50]]:List Y8)),.pf (za Rf ([[49],[50]]:List Y8)),.pf (za Rf ([[49],[50]]:List Y8)),.pf (za Rf ([[49],[50]]:List Y8)),.pf (za Rf ([[49],[50]]:List Y8)),.cl 4 F [0] 4 false,.cl 4 F [0] 4 false,.ev 0,.ev 1,.ev 0,.ev 1,.ev 0,.ev 1,.ev 0,.ev 1,.ev 0,.ev 1,.ev 0,.ev 1,.cl 3 I [0] 4 false,.cl 3 I [0] 4 false,.cl 2 J [0] 4 false,.cl 2 J [0] 4 false]<|
.cut none [0,3,4,6,10,11] (fun (_:TSt)=>[]) (fun n=>[(3,(TSt.b n))]) (
 let Q:=(⟨0,[],0,0,0,0,0,0,0,0⟩:TOp)
.ite (decide (L<3)) (
.guard [(0:Int)<=L,L.toNat<3]<|
.reg 3 [] [(0,hv (vl ([1,2,4]:List Int)))] [.pf (za Ra ([1,2,4]:List Int)),.ev 0,.ev 1]<|
.r (.next (⟨(([1,2,4]:List Int).getD L.toNat dF),1,Q,[49],12,G.1,u.1⟩:TSt))) (
.r (.next (⟨O.1,P.1,Q,(([[49],[50]]:List Y8).getD t.1.toNat dF),12,G.1,u.1⟩:TSt)))) fun n=>
.cut none [0,4,6,10,11] (fun (_:TSt)=>[]) (fun j=>[(3,(TSt.b j))]) (
.ite (L==3) (
.r (.next (⟨9,n.Z,n.Op,n.B,n.D,n.V,0⟩:TSt))) (
.r (.next n))) fun j=>
.cut none [0,4,6,10,11] (fun (_:TTape×TSt)=>[]) (fun c=>[(0,(TTape.b c.1)),(3,(TSt.b c.2))]) (
.ite (j.U==1) (
.call (@F_q2_ok 900 u.2) fun R S=>
 let K:=([300,R.1,50]:List Int)
.call (@F_q6_ok K R.2) fun v w=>
.reg 7 [] [(2,hc S [0] false),(3,hv (vl K)),(4,hc w [0] false)] [.cl 1 S [0] 4 false,.pf (za Ra K),.cl 0 w [0] 4 false]<|
.r (.next (v.2,(⟨j.U,j.Z,j.Op,j.B,j.D,v.1,j.Ai⟩:TSt)))) (
.r (.next (u.2,j)))) fun c=>
.cut none [10,11] (fun (_:TTape×TSt)=>[]) (fun o=>[(0,(TTape.b o.1)),(3,(TSt.b o.2))]) (
.ite (c.2.U==5) (
.call (@F_q19_ok Y c.2.Z) fun x y=>
.reg 9 [] [(3,hc y [] true),(7,{ obs:=[(4,(TOf.b (⟨0,[],(⟨[],[],[],[]⟩:TBo)⟩:TOf)))] })] [.cl 0 y [] 4 true,.pf z19]<|
.cut none [0,4,10,11,12] (fun (_:TOf)=>[]) (fun l=>[(4,(TOf.b l))]) (
.ite (x.2 != 0) (
.a 11 2 5 (@F_q4e_ok c.2.Z) fun T=>
.r (.next T.1)) (
.r (.next x.1))) fun l=>
.call (@F_q6m_ok l a4 c.1) fun m W=>
.k 12 3 W [0] 5 false<|
.a 13 5 5 (@F_q54_ok l c.2.B c.2.D) fun g=>
.calld [g.2=true] (dF,m.2) (@F_q2_ok 3 m.2) fun p z =>
 let X:=(bx (DV.agg [(DV.i .i64 c.2.U),(DV.i .i64 c.2.Z),(TOp.e m.1),(Rf c.2.B),(DV.i .i64 c.2.D),(DV.i .i64 c.2.V),(DV.i .i64 c.2.Ai)]))
.reg 14 [] [(3,hc z [0] false)] [.clg 0 [g.2=true] z [0] 6 false,.der (fun (h:¬ AllP [g.2=true]->(dF,m.2)=p) (hn:¬ AllP [g.2=true])=>(by obtain rfl:=h hn; rfl:[(TTape.b m.2),s,q,X,(TOf.b l),(TOp.b g.1)]=[(TTape.b p.2),s,q,X,(TOf.b l),(TOp.b g.1)])) 1]<|
.ite (bif g.2 then (p.1==0) else false) (
.r (.next (p.2,(⟨c.2.U,c.2.Z,g.1,c.2.B,c.2.D,c.2.V,c.2.Ai⟩:TSt)))) (
.r (.next (p.2,(⟨c.2.U,c.2.Z,m.1,c.2.B,c.2.D,c.2.V,c.2.Ai⟩:TSt))))) (
.r (.next (c.1,c.2)))) fun o=>
.r (o.2,o.1)
def F_q3z (a:TWo) (b:Int) (c:Int) (d:Int) (e:TTape):=(S_q3z a b c d e).den
theorem F_q3z_ok {a:TWo} {c:Int} {e:Int} {f:Int} {g:TTape}:FO (F_q3z a c e f g) 35 [(vp 0),(TWo.d a),(vi c),(vi e),(vi f)] [(TTape.b g)] (fun x=>(TSt.d x.1)) (fun x=>[(TTape.b x.2)]):=fO (s:=S_q3z a c e f g) Tryz.func35
abbrev R_q2x:=Int×(List TPo)
def S_q2x_b1 (m:TTr) (j:Nat) (g:Int×(List TPo)):SC R_q2x (Step (Int×(List TPo)) R_q2x) :=
.reg 4 [] [(2,{ obs:=[(4,(TPo.b (⟨[],0,0,[],[],[],[]⟩:TPo)))] })] [.w j,.ev 0,.pf cz1]<|
 let a:=(m.E.getD j dF)
.guard [(0+a.A.length) * (2 * 8)<=2 ^ 48]<|
.reg 5 [] [(3,hv (vl a.A))] [.pf (p:=∀ k,k<a.A.length->AV.d (Ra (a.A.getD k dF))=AV.d (Ra (a.A.getD k dF))/\(Ra (a.A.getD k dF)).wd=1) (fun _ _=>⟨rfl,rfl⟩),.pf cz6,.ev 0,.pf (z3s (e:=Ra) (x:=a.A))]<|
.guard [(0+a.H.length) * (2 * 8)<=2 ^ 48]<|
.reg 6 [] [(3,hv (vl a.H))] [.pf (p:=∀ k,k<a.H.length->AV.d (Ra (a.H.getD k dF))=AV.d (Ra (a.H.getD k dF))/\(Ra (a.H.getD k dF)).wd=1) (fun _ _=>⟨rfl,rfl⟩),.pf cz6,.ev 0,.pf (z3s (e:=Ra) (x:=a.H))]<|
.guard [(0+a.G.length) * (2 * 8)<=2 ^ 48]<|
.reg 7 [] [(3,hv (vl a.G))] [.pf (p:=∀ k,k<a.G.length->AV.d (Ra (a.G.getD k dF))=AV.d (Ra (a.G.getD k dF))/\(Ra (a.G.getD k dF)).wd=1) (fun _ _=>⟨rfl,rfl⟩),.pf cz6,.ev 0,.pf (z3s (e:=Ra) (x:=a.G))]<|
.guard [(0+a.P.length) * (2 * 8)<=2 ^ 48]<|
.reg 8 [] [(3,hv (vl a.P))] [.pf (p:=∀ k,k<a.P.length->AV.d (Ra (a.P.getD k dF))=AV.d (Ra (a.P.getD k dF))/\(Ra (a.P.getD k dF)).wd=1) (fun _ _=>⟨rfl,rfl⟩),.pf cz6,.ev 0,.pf (z3s (e:=Ra) (x:=a.P))]<|
 let f:=([a]:List TPo)
.guard [(g.2.length+f.length) * (2 * 128)<=2 ^ 48]<|
.reg 9 [] [(3,{ h:=.obj,obs:=[(5,(eS 7 TPo.e f))] }),(4,{ h:=.obj,cast:=some (Rb 3 ((g.2++f).length) 0 ((g.2++f).length)),obs:=[(3,(eS 7 TPo.e (g.2++f)))] })] [.pf (z70 (sz:=7) (e:=TPo.e) (l:=f)),.e f.length,.e g.2.length,.e g.2.length,.pf (p:=∀ k,k<f.length->(TPo.d (f.getD k dF)).wd=7) (fun _ _=>rfl),.ev 0,.pf (zy (o:=3) (l:=g.2) (x:=f)),.pf (z12 (sz:=7) (e:=TPo.e) (l:=g.2) (x:=f))]<|
.c (g.1,(g.2++f))
def S_q2x (c:TTr):SC R_q2x R_q2x :=
 let g:=(TTr.b (⟨0,[]⟩:TTr))
.reg 0 [] [(1,{ obs:=[(1,g)] })] [.pf cz7]<|
.reg 1 [] [(2,{ h:=.obj }),(3,{ h:=.obj })] []<|
 let i:=[(1,(vp 0)),(2,(vp 1)),(3,(vp 2))]
.sh (A:=True) (.pf trivial) i i [(TTr.b c),g,(Rd (Rc [(vi c.O),(AV.full 0 fun _=>DV.b false)]))] [(TTr.b c),g,(Rd (Rc [(vi c.O),(Rb 3 0 0 0)])),(eS 7 TPo.e ([]:List TPo))] (fun _=>(z1y (sz:=7) (f:=fun j=>AV.d (TPo.e (([]:List TPo).getD j dF))) (.keep _ _ _ _ (yw rfl) (.keep _ _ _ _ (yw rfl) (.box _ _ _ _ _ (yw rfl) (TrV.agg (Rk (TrV.keep _) (Rk TrV.born TrL.nil))) (.nil _)))))) (z1a (k:=0) rfl (Rj _) (z1a (k:=1) rfl (Rj _) (z1a (k:=2) rfl (Rj _) z2l)))<|
.range (c.E.length:Int) c.E.length rfl (.slot 10) 12 [2,3,10,11] (fun (_:Int×(List TPo))=>[]) (fun a=>[(2,(Rd (Rc [(vi a.1),(Rb 3 a.2.length 0 a.2.length)]))),(3,(eS 7 TPo.e a.2))]) (c.O,([]:List TPo)) (S_q2x_b1 c) (fun a => 
.reg 11 [] [] []<|
.kill 0<|
.kill 2<|
.r (a.1,a.2)) id
def F_q2x (a:TTr):=(S_q2x a).den
theorem F_q2x_ok {a:TTr}:FO (F_q2x a) 113 [(TTr.d a)] [] (fun x=>(Rc [(vi x.1),(Rb 3 x.2.length 0 x.2.length)])) (fun x=>[Re,(Rd (Rc [(vi x.1),(Rb 3 x.2.length 0 x.2.length)])),Re,(eS 7 TPo.e x.2)]):=fO (s:=S_q2x a) Tryz.func113
end
end Go.Proofs.YtkhgaalekilaeaaGreatDoor
/- What the functions compute,and that their calls return it. No condition. -/
namespace Go.Proofs.YtkhgaalekilaeaaGreatDoor
open Go Go.TA
open Go.IntKind (i64)
noncomputable section
set_option maxRecDepth 100000
theorem zws:∀ k,k<1->(TPo.d (([(⟨[],0,0,[],[],[],[]⟩:TPo)]:List TPo).getD k dF)).wd=7:=fun _ _=>rfl
def S_q2i_b1 (j:Y8) (k:Int) (a:R_q2x) (b:Int):SC (TTr×Int) (Step Int (TTr×Int)) :=
.ite (decide (b<(a.2.length:Int))) (
 let f:=(0+b.toNat)
 let h:=(a.2.getD f dF)
.call (@F_q17_ok h.B j) fun c i=>
.guard [(0:Int)<=b,b.toNat<a.2.length,f<a.2.length]<|
.reg 17 [] [(7,hc i [] true)] [.e a.2.length,.ev 0,.ev 1,.e a.2.length,.e a.2.length,.ev 2,.cl 3 i [] 8 true]<|
 let d:=(decide (c>0))
.guard [AllP [(c==0)=true,d=false]->((0:Int)<=b),AllP [(c==0)=true,d=false]->(b.toNat<a.2.length),AllP [(c==0)=true,d=false]->(f<a.2.length)]<|
 let g:=(a.2.length=a.2.length)
.reg 18 [] [] [.pf (p:=AllP [(c==0)=true,d=false]->g) (fun _=>rfl),.ev 0,.ev 1,.pf (p:=AllP [(c==0)=true,d=false]->g) (fun _=>rfl),.pf (p:=AllP [(c==0)=true,d=false]->g) (fun _=>rfl),.ev 2]<|
.ite (cO d (bif (c==0) then (decide (h.D>k)) else false)) (
.r (.brk b)) (
.r (.cont (i64.wrap (b+1))))) (
.r (.brk b))
def S_q2i (q:TTr) (W:Y8) (V:Int) (X:Int):SC (TTr×Int) (TTr×Int) :=
 let t:=(TTr.b (⟨0,[]⟩:TTr))
.reg 0 [] [(1,{ obs:=[(1,t)] })] [.pf cz7]<|
.a 1 1 2 (@F_q18_ok q) fun aa=>
 let y:=(TTr.d (⟨0,[]⟩:TTr))
.ite (!aa) (
.reg 2 [] [(0,hv y)] [.pf cz8]<|
.r ((⟨0,[]⟩:TTr),1)) (
.a 3 1 2 (@F_qu_ok W) fun ab=>
.ite (!ab) (
.reg 4 [] [(0,hv y)] [.pf cz8]<|
.r ((⟨0,[]⟩:TTr),5)) (
.ite (cO (cO (cO (decide (V<0)) (decide (V>99))) (decide (X<(-1000000000000000)))) (decide (X>1000000000000000))) (
.reg 6 [] [(0,hv y)] [.pf cz8]<|
.r ((⟨0,[]⟩:TTr),2)) (
.call (@F_q2x_ok q) fun j Y=>
.reg 7 [] [(1,hc Y [] false),(2,{ h:=.obj })] [.cl 0 Y [] 2 false]<|
.kill 3<|
.a 8 3 7 (@F_q2h_ok q W V) fun N=>
 let C:=[(8,(vp 1)),(10,(vp 6))]
 let u:=(TTr.b q)
.ite (decide (N>=0)) (
 let F:=(0+N.toNat)
.guard [(0:Int)<=N,N.toNat<j.2.length,F<j.2.length]<|
 let K:=(j.2.getD F dF)
 let Z:=(⟨K.B,K.D,X,K.A,K.H,K.G,K.P⟩:TPo)
 let L:=(j.2.set F Z)
 let M:=(eS 7 TPo.e L)
.reg 10 [] [(6,{ obs:=[(5,M)] })] [.e j.2.length,.ev 0,.ev 1,.e j.2.length,.e j.2.length,.ev 2,.pf (zo (sz:=7) (e:=TPo.e) (l:=j.2) (i:=F) (x:=Z) (fun _=>rfl))]<|
.cst (A:=True) (.pf trivial) C C [u,t,Re,Re,Re,M,(Rd (Rc [(vi j.1),(Rb 5 j.2.length 0 j.2.length)]))] [u,t,Re,Re,Re,M,(Rd (Rc [(vi j.1),(Rb 5 L.length 0 L.length)]))] (fun _=>⟨Zd,Zb⟩)<|
.guard [L.length<2 ^ 63]<|
.reg 11 [] [] []<|
.frz 5 (.ev 0) none [] [1,6]<|
.r ((⟨j.1,L⟩:TTr),0)) (
.ite ((q.E.length:Int)==60) (
.reg 13 [] [(0,hv y)] [.pf cz8]<|
.r ((⟨0,[]⟩:TTr),3)) (
.guard [(0:Int)<=q.O,q.O * 8<=2 ^ 47]<|
 let U:=(⟨[],0,0,[],[],[],[]⟩:TPo)
 let I:=(vl (List.replicate q.O.toNat (0:Int)))
.reg 14 [16,17] [(5,{ h:=.imm,cast:=some I }),(8,{ h:=.imm,cast:=some I }),(11,{ h:=.imm,cast:=some I }),(14,{ h:=.imm,cast:=some I }),(16,{ obs:=[(7,(TPo.b U))] })] [.ev 0,.pf (p:=q.O<=q.O) (y1h _),.ev 1,.pf (z3t (e:=Ra) (k:=q.O.toNat) (z:=(0:Int))),.ev 0,.pf (p:=q.O<=q.O) (y1h _),.ev 1,.pf (z3t (e:=Ra) (k:=q.O.toNat) (z:=(0:Int))),.ev 0,.pf (p:=q.O<=q.O) (y1h _),.ev 1,.pf (z3t (e:=Ra) (k:=q.O.toNat) (z:=(0:Int))),.ev 0,.pf (p:=q.O<=q.O) (y1h _),.ev 1,.pf (z3t (e:=Ra) (k:=q.O.toNat) (z:=(0:Int))),.ev 0,.pf (p:=q.O<=q.O) (y1h _),.ev 1,.pf (z3t (e:=Ra) (k:=q.O.toNat) (z:=(0:Int))),.ev 0,.pf (p:=q.O<=q.O) (y1h _),.ev 1,.pf (z3t (e:=Ra) (k:=q.O.toNat) (z:=(0:Int))),.ev 0,.pf (p:=q.O<=q.O) (y1h _),.ev 1,.pf (z3t (e:=Ra) (k:=q.O.toNat) (z:=(0:Int))),.ev 0,.pf (p:=q.O<=q.O) (y1h _),.ev 1,.pf (z3t (e:=Ra) (k:=q.O.toNat) (z:=(0:Int))),.pf cz1]<|
.iter [1,2,8,10,12] (fun (g:Int)=>[(13,(vi g))]) (fun _=>[]) 0 (S_q2i_b1 W V j) (fun g =>
.guard [(j.2.length+1) * (2 * 128)<=2 ^ 48]<|
 let v:=([U]:List TPo)
 let c:=(j.2++v)
 let R:=(Rb 5 c.length 0 c.length)
.reg 20 [] [(2,hv (TPo.d U)),(3,hv (AV.d (eL TPo.e v))),(4,{ h:=.obj,cast:=some R,obs:=[(5,(eS 7 TPo.e c))] })] [.pf cz9,.pf (za TPo.e v),.e j.2.length,.e j.2.length,.pf zws,.ev 0,.pf (zy (o:=5) (l:=j.2) (x:=v)),.pf (z12 (sz:=7) (e:=TPo.e) (l:=j.2) (x:=v))]<|
 let S:=(i64.wrap (g+1))
 let m:=S
.guard [(0:Int)<=S,m.toNat<=c.length,(0:Int)<=g,g.toNat<=c.length]<|
 let f:=(0+g.toNat)
 let n:=(0+m.toNat)
.reg 21 [9] [(9,{ obs:=[(5,(eS 7 TPo.e (copyL c n (min (c.length-g.toNat) (c.length-m.toNat)) (fun i=>(c.getD (f+i) dF)))))] })] [.ev 0,.ev 1,.e c.length,.ev 2,.ev 3,.e c.length,.e c.length,.e c.length,.pf (p:=∀ k,k<(c.length-g.toNat)->(TPo.d (c.getD (f+k) dF)).wd=7) (fun _ _=>rfl),.pf (z9e (sz:=7) (e:=TPo.e) (l:=c) (off:=n) (k:=(min (c.length-g.toNat) (c.length-m.toNat))) (s:=(fun i=>(c.getD (f+i) dF))))]<|
 let J:=(eL Ra (List.replicate q.O.toNat (0:Int)))
 let Q:=(bx (DV.agg [(Rf W),(DV.i .i64 V),(DV.i .i64 X),J,J,J,J]))
 let T:=[(8,(vp 1)),(10,(vp 6)),(12,(vp 7)),(13,(vi g))]
.cst (A:=True) (.pf trivial) T T [u,t,Re,Re,Re,(eS 7 TPo.e (copyL c n (min (c.length-g.toNat) (c.length-m.toNat)) (fun i=>(c.getD (f+i) dF)))),(Rd (Rc [(vi j.1),R])),Q] [u,t,Re,Re,Re,(eS 7 TPo.e (copyL c n (min (c.length-g.toNat) (c.length-m.toNat)) (fun i=>(c.getD (f+i) dF)))),(Rd (Rc [(vi j.1),(Rb 5 ((copyL c n (min (c.length-g.toNat) (c.length-m.toNat)) (fun i=>(c.getD (f+i) dF))).length) 0 ((copyL c n (min (c.length-g.toNat) (c.length-m.toNat)) (fun i=>(c.getD (f+i) dF))).length))])),Q] (fun _=>⟨Zd,by simp +zetaDelta only[zt]⟩)<|
.guard [g.toNat<(copyL c n (min (c.length-g.toNat) (c.length-m.toNat)) (fun i=>(c.getD (f+i) dF))).length,f<(copyL c n (min (c.length-g.toNat) (c.length-m.toNat)) (fun i=>(c.getD (f+i) dF))).length]<|
 let w:=(⟨W,V,X,(List.replicate q.O.toNat (0:Int)),(List.replicate q.O.toNat (0:Int)),(List.replicate q.O.toNat (0:Int)),(List.replicate q.O.toNat (0:Int))⟩:TPo)
.reg 22 [] [(5,{ obs:=[(5,(eS 7 TPo.e ((copyL c n (min (c.length-g.toNat) (c.length-m.toNat)) (fun i=>(c.getD (f+i) dF))).set f w)))] })] [.pf (y2h ((copyL c n (min (c.length-g.toNat) (c.length-m.toNat)) (fun i=>(c.getD (f+i) dF))).length)),.ev 4,.ev 0,.pf (y2h ((copyL c n (min (c.length-g.toNat) (c.length-m.toNat)) (fun i=>(c.getD (f+i) dF))).length)),.ev 1,.pf (zo (sz:=7) (e:=TPo.e) (l:=(copyL c n (min (c.length-g.toNat) (c.length-m.toNat)) (fun i=>(c.getD (f+i) dF)))) (i:=f) (x:=w) (fun _=>rfl))]<|
.cst (A:=True) (.pf trivial) C C [u,t,Re,Re,Re,(eS 7 TPo.e ((copyL c n (min (c.length-g.toNat) (c.length-m.toNat)) (fun i=>(c.getD (f+i) dF))).set f w)),(Rd (Rc [(vi j.1),(Rb 5 ((copyL c n (min (c.length-g.toNat) (c.length-m.toNat)) (fun i=>(c.getD (f+i) dF))).length) 0 ((copyL c n (min (c.length-g.toNat) (c.length-m.toNat)) (fun i=>(c.getD (f+i) dF))).length))])),Q] [u,t,Re,Re,Re,(eS 7 TPo.e ((copyL c n (min (c.length-g.toNat) (c.length-m.toNat)) (fun i=>(c.getD (f+i) dF))).set f w)),(Rd (Rc [(vi j.1),(Rb 5 (((copyL c n (min (c.length-g.toNat) (c.length-m.toNat)) (fun i=>(c.getD (f+i) dF))).set f w).length) 0 (((copyL c n (min (c.length-g.toNat) (c.length-m.toNat)) (fun i=>(c.getD (f+i) dF))).set f w).length))])),Q] (fun _=>⟨Zd,by simp +zetaDelta only[yl,zt]⟩)<|
.guard [((copyL c n (min (c.length-g.toNat) (c.length-m.toNat)) (fun i=>(c.getD (f+i) dF))).set f w).length<2 ^ 63]<|
.reg 23 [] [] []<|
.frz 5 (.ev 0) none [] [1,6]<|
.r ((⟨j.1,((copyL c n (min (c.length-g.toNat) (c.length-m.toNat)) (fun i=>(c.getD (f+i) dF))).set f w)⟩:TTr),0)) id)))))
def F_q2i (a:TTr) (b:Y8) (c:Int) (d:Int):=(S_q2i a b c d).den
theorem F_q2i_ok {a:TTr} {b:Y8} {c:Int} {e:Int}:FO (F_q2i a b c e) 66 [(TTr.d a),(AV.d (Rf b)),(vi c),(vi e)] [] (fun x=>(Rg [(TTr.d x.1),(vi x.2)])) NL:=fO (s:=S_q2i a b c e) Tryz.func66
def S_q2y (c:TTr) (e:Int) (f:Y8) (g:Int):SC (Int×Int) (Int×Int) :=
.a 1 1 1 (@F_q18_ok c) fun d=>
.ite (!d) (
.r (0,1)) (
.a 3 3 1 (@F_q2h_ok c f g) fun b=>
.ite (cO (cO (decide (b<0)) (decide (e<1))) (decide (e>c.O))) (
.r (0,6)) (
.r (b,0)))
def F_q2y (a:TTr) (b:Int) (c:Y8) (d:Int):=(S_q2y a b c d).den
theorem F_q2y_ok {a:TTr} {b:Int} {c:Y8} {e:Int}:FO (F_q2y a b c e) 114 [(TTr.d a),(vi b),(AV.d (Rf c)),(vi e)] [] (fun x=>(Rg [(vi x.1),(vi x.2)])) NL:=fO (s:=S_q2y a b c e) Tryz.func114
def S_qv_b1 (b:TPo) (a:Int×Int):SC Int (Step (Int×Int) Int) :=
.ite (bif (decide (a.2<(b.A.length:Int))) then (decide (a.2<(b.H.length:Int))) else false) (
.guard [(0:Int)<=a.2,a.2.toNat<b.A.length,a.2.toNat<b.H.length]<|
.reg 5 [] [] [.ev 0,.ev 1,.ev 0,.ev 2]<|
.r (.cont ((i64.wrap (a.1+(i64.wrap ((b.A.getD a.2.toNat dF)-(b.H.getD a.2.toNat dF))))),(i64.wrap (a.2+1))))) (
.r (.brk (a.1,a.2)))
def S_qv (b:TPo):SC Int Int :=
.iter [1] (fun (a:Int×Int)=>[(3,(vi a.1)),(4,(vi a.2))]) (fun _=>[]) (0,0) (S_qv_b1 b) (fun a =>
.r a.1) id
def F_qv (a:TPo):=(S_qv a).den
theorem F_qv_ok {a:TPo}:FO (F_qv a) 108 [(TPo.d a)] [] vi NL:=fO (s:=S_qv a) Tryz.func108
def S_q6o (c:TPo):SC Int Int :=
.a 1 3 1 (@F_qv_ok c) fun b=>
.r (i64.wrap (c.T-b))
def F_q6o (a:TPo):=(S_q6o a).den
theorem F_q6o_ok {a:TPo}:FO (F_q6o a) 171 [(TPo.d a)] [] vi NL:=fO (s:=S_q6o a) Tryz.func171
abbrev R_q1r:=Int×(List TPo)
def S_q1r_b1 (C:TTr) (i0:Nat) (s:Nat) (f:Int×(List TPo)):SC R_q1r (Step (Int×(List TPo)) R_q1r) :=
.reg 4 [] [(2,{ obs:=[(8,(TPo.b (⟨[],0,0,[],[],[],[]⟩:TPo)))] })] [.w s,.ev 0,.pf cz1]<|
 let a:=(C.E.getD s dF)
.guard [a.A.length * (2 * 8)<=2 ^ 48]<|
.reg 5 [] [(3,{ h:=.obj })] [.pf (p:=∀ k,k<a.A.length->(AV.d (Ra (a.A.getD k dF))).wd=1) (fun _ _=>rfl),.ev 0]<|
.guard [a.H.length * (2 * 8)<=2 ^ 48]<|
.reg 6 [] [(3,{ h:=.obj })] [.pf (p:=∀ k,k<a.H.length->(AV.d (Ra (a.H.getD k dF))).wd=1) (fun _ _=>rfl),.ev 0]<|
.guard [a.G.length * (2 * 8)<=2 ^ 48]<|
.reg 7 [] [(3,{ h:=.obj })] [.pf (p:=∀ k,k<a.G.length->(AV.d (Ra (a.G.getD k dF))).wd=1) (fun _ _=>rfl),.ev 0]<|
.guard [a.P.length * (2 * 8)<=2 ^ 48]<|
.reg 8 [] [(3,{ h:=.obj })] [.pf (p:=∀ k,k<a.P.length->(AV.d (Ra (a.P.getD k dF))).wd=1) (fun _ _=>rfl),.ev 0]<|
.guard [(f.2.length+1) * (2 * 128)<=2 ^ 48]<|
 let g:=(Rc [(AV.d (Rf a.B)),(vi a.D),(vi a.T),(rr 9 a.A),(rr 10 a.H),(rr 11 a.G),(rr 12 a.P)])
 let n:=(f.2.getD i0 dF)
 let r:=(Rc [(AV.d (Rf n.B)),(vi n.D),(vi n.T),(rr 4 n.A),(rr 5 n.H),(rr 6 n.G),(rr 7 n.P)])
 let m:=(f.2++[a])
 let v:=(Rb 3 m.length 0 m.length)
.reg 9 [] [(3,{ h:=.obj }),(4,{ h:=.obj,cast:=some v,obs:=[(3,(Ob.seq 7 m.length (catF f.2.length (fun j=>AV.sel (decide (j=i0)) 7 r (TPo.d (f.2.getD j dF))) (listF AV.bot [g]))))] })] [.e 1,.e f.2.length,.e f.2.length,.pf (p:=∀ k,k<1->(listF AV.bot [g] k).wd=7) (fun k hk=>by obtain rfl:k=0:=om; rfl),.ev 0,.pf (zy (o:=3) (l:=f.2) (x:=[a])),.pf (p:=OLe (Ob.seq 7 (f.2.length+1) (catF f.2.length (fun j=>AV.sel (decide (j=i0)) 7 r (TPo.d (f.2.getD j dF))) (listF AV.bot [g]))) (Ob.seq 7 m.length (catF f.2.length (fun j=>AV.sel (decide (j=i0)) 7 r (TPo.d (f.2.getD j dF))) (listF AV.bot [g])))) (zfe zd8)]<|
 let y:=((f.2.length=i0->0<a.A.length/\0<a.H.length/\0<a.G.length/\0<a.P.length)/\(a.A.length<2 ^ 63/\a.H.length<2 ^ 63/\a.G.length<2 ^ 63/\a.P.length<2 ^ 63))
.guard [y]<|
 let z:=[(2,(vp 1)),(3,(vp 2)),(10,(AV.d (eL TPo.e C.E))),(11,(vi (C.E.length:Int))),(12,(vi (s:Int)))]
 let t:=(TTr.b (⟨0,[]⟩:TTr))
 let u:=(Rc [(vi f.1),v])
 let q:=(TTr.b C)
.sh (A:=y) (.ev 0) z z [q,t,(Rd u),(Ob.seq 7 m.length (catF f.2.length (fun j=>AV.sel (decide (j=i0)) 7 r (TPo.d (f.2.getD j dF))) (listF AV.bot [g]))),(eQ (opQ TPo.A i0 f.2)),(eQ (opQ TPo.H i0 f.2)),(eQ (opQ TPo.G i0 f.2)),(eQ (opQ TPo.P i0 f.2)),(Rd g),(eQ a.A),(eQ a.H),(eQ a.G),(eQ a.P),(Ob.seq 7 1 (listF AV.bot [g]))] [q,t,(Rd u),(oTApiPot.R 4 i0 m),(eQ (opQ TPo.A i0 m)),(eQ (opQ TPo.H i0 m)),(eQ (opQ TPo.G i0 m)),(eQ (opQ TPo.P i0 m)),(Rd g),Re,Re,Re,Re,(Ob.seq 7 1 (listF AV.bot [g]))] (fun h=>z7c oTApiPot (P:=[q,t,(Rd u)]) (D:=[(Rd g)]) (E:=[(Ob.seq 7 1 (listF AV.bot [g]))]) (i:=i0) (l:=f.2) (x:=a) rfl rfl (fun j hj=>z1u hj) ziw h.1 h.2) (z17 _)<|
.c (f.1,f.2++[a])
def S_q1r (l:TTr) (i0:Nat):SC R_q1r R_q1r :=
 let e:=(TTr.b (⟨0,[]⟩:TTr))
.reg 0 [] [(1,{ obs:=[(1,e)] })] [.pf cz7]<|
.reg 1 [] [(2,{ h:=.obj }),(3,{ h:=.obj })] []<|
 let c:=(([]:List TPo).getD i0 dF)
 let n:=(Rc [(vi l.O),(Rb 3 0 0 0)])
 let m:=(TTr.b l)
 let o:=[m,e,(Rd n),(oTApiPot.R 4 i0 [])]
 let g:=[(1,(vp 0)),(2,(vp 1)),(3,(vp 2))]
.sh (A:=True) (.pf trivial) g g [m,e,(Rd (Rc [(vi l.O),(AV.full 0 fun _=>DV.b false)]))] o (fun _=>(z1y (sz:=7) (f:=(fun j=>AV.sel (decide (j=i0)) 7 (Rc [(AV.d (Rf c.B)),(vi c.D),(vi c.T),(rr 4 c.A),(rr 5 c.H),(rr 6 c.G),(rr 7 c.P)]) (TPo.d (([]:List TPo).getD j dF)))) (.keep _ _ _ _ (yw rfl) (.keep _ _ _ _ (yw rfl) (.box _ _ _ _ _ (yw rfl) (TrV.agg (Rk (TrV.keep _) (Rk TrV.born TrL.nil))) (.nil _)))))) (z1a (k:=0) rfl (Rj _) (z1a (k:=1) rfl (Rj _) (z1a (k:=2) rfl (Rj _) z2l)))<|
.sh (A:=True) (.pf trivial) g g o [m,e,(Rd n),(oTApiPot.R 4 i0 []),(eQ (opQ TPo.A i0 ([]:List TPo))),(eQ (opQ TPo.H i0 ([]:List TPo))),(eQ (opQ TPo.G i0 ([]:List TPo))),(eQ (opQ TPo.P i0 ([]:List TPo)))] (fun _=>z8d) (z17 _)<|
.range (l.E.length:Int) l.E.length rfl (.slot 10) 12 [2,3,10,11] (fun (_:Int×(List TPo))=>[]) (fun a=>[(2,(Rd (Rc [(vi a.1),(Rb 3 a.2.length 0 a.2.length)]))),(3,(oTApiPot.R 4 i0 a.2)),(4,(eQ (opQ TPo.A i0 a.2))),(5,(eQ (opQ TPo.H i0 a.2))),(6,(eQ (opQ TPo.G i0 a.2))),(7,(eQ (opQ TPo.P i0 a.2)))]) (l.O,([]:List TPo)) (S_q1r_b1 l i0) (fun a => 
.reg 11 [] [] []<|
.kill 0<|
.kill 2<|
.guard [i0<a.2.length]<|
 let p:=(Rc [(vi a.1),(Rb 3 a.2.length 0 a.2.length)])
 let i:=(a.2.getD i0 dF)
.cst (A:=i0<a.2.length) (.ev 0) [(2,(vp 1))] [(2,(vp 1))] [Re,(Rd p),Re,(oTApiPot.R 4 i0 a.2),(eQ (opQ TPo.A i0 a.2)),(eQ (opQ TPo.H i0 a.2)),(eQ (opQ TPo.G i0 a.2)),(eQ (opQ TPo.P i0 a.2))] [Re,(Rd p),Re,(oTApiPot.R 4 i0 a.2),(eQ i.A),(eQ i.H),(eQ i.G),(eQ i.P)] (fun h=>⟨rfl,by simp +zetaDelta only[zix h]⟩)<|
.r (a.1,a.2)) id
def F_q1r (a:TTr) (i0:Nat):=(S_q1r a i0).den
theorem F_q1r_ok {a:TTr} {i0:Nat}:FO (F_q1r a i0) 113 [(TTr.d a)] [] (fun x=>(Rc [(vi x.1),(Rb 3 x.2.length 0 x.2.length)])) (fun x=>[Re,(Rd (Rc [(vi x.1),(Rb 3 x.2.length 0 x.2.length)])),Re,(opS 7 TPo.e i0 (Rc [(AV.d (Rf (x.2.getD i0 dF).B)),(vi (x.2.getD i0 dF).D),(vi (x.2.getD i0 dF).T),(rr 4 (x.2.getD i0 dF).A),(rr 5 (x.2.getD i0 dF).H),(rr 6 (x.2.getD i0 dF).G),(rr 7 (x.2.getD i0 dF).P)]) x.2),(eQ (x.2.getD i0 dF).A),(eQ (x.2.getD i0 dF).H),(eQ (x.2.getD i0 dF).G),(eQ (x.2.getD i0 dF).P)]):=fO (s:=S_q1r a i0) Tryz.func113
end
end Go.Proofs.YtkhgaalekilaeaaGreatDoor
/- What the functions compute,and that their calls return it. No condition. -/
namespace Go.Proofs.YtkhgaalekilaeaaGreatDoor
open Go Go.TA
open Go.IntKind (i64)
noncomputable section
set_option maxRecDepth 100000
abbrev R_qn:=TTr×Int
def S_qn_b1 (h:TTr) (i:(List Int)) (c:(Int×Int)) (b:Nat) (e:Int×Int):SC R_qn (Step (Int×Int) R_qn) :=
.reg 9 [] [] [.w b,.ev 0]<|
.a 10 1 2 (@F_qq_ok (i.getD b dF)) fun g=>
.ite (!g) (
.reg 11 [] [(0,hv (TTr.d (⟨0,[]⟩:TTr)))] [.pf cz8]<|
.r (.ret ((⟨0,[]⟩:TTr),2))) (
 let f:=((h.E.getD c.1.toNat dF).A)
.guard [(0:Int)<=c.1,c.1.toNat<h.E.length,b<f.length]<|
.reg 13 [] [] [.ev 0,.ev 1,.w b,.ev 2]<|
.r (.cont ((i64.wrap (e.1+(i.getD b dF))),(i64.wrap (e.2+(f.getD b dF))))))
def S_qn_b2 (m:(List Int)) (f:(Int×Int)) (b:R_q1r) (a:Nat) (d:(List Int)):SC R_qn (Step ((List Int)) R_qn) :=
.reg 22 [] [] [.w a,.ev 0]<|
 let g:=f.1.toNat
 let j:=((b.2.getD g dF).A)
.guard [f.1.toNat<b.2.length,d.length=j.length,a<j.length,(0+a)<d.length]<|
 let h:=(i64.wrap ((d.getD (0+a) dF)+(m.getD a dF)))
 let k:=(Ri 5 b.2.length [.x g 7])
.reg 23 [] [(3,hv k),(12,{ obs:=[(6,(eQ (d.set (0+a) h)))] })] [.e b.2.length,.ev 9,.ev 0,.pf (p:=LeV (Ri 5 b.2.length [.x (0+g) 7]) k) z5c,.e b.2.length,.e b.2.length,.ev 0,.pf (p:=decide (f.1.toNat=f.1.toNat)=true) (yb rfl),.ev 1,.w a,.ev 2,.ev 1,.ev 3,.ev 1,.w a,.ev 2,.ev 1,.ev 3,.pf (zo (sz:=1) (e:=Ra) (l:=d) (i:=(0+a)) (x:=h) (fun _=>rfl))]<|
.c (d.set (0+a) h)
def S_qn (y:TTr) (M:Y8) (N:Int) (z:(List Int)):SC R_qn R_qn :=
 let x:=(TTr.b (⟨0,[]⟩:TTr))
.reg 0 [] [(1,{ obs:=[(1,x)] })] [.pf cz7]<|
.a 1 3 2 (@F_q2y_ok y 1 M N) fun j=>
 let v:=(TTr.d (⟨0,[]⟩:TTr))
.ite (j.2 != 0) (
.reg 3 [] [(0,hv v)] [.pf cz8]<|
.r ((⟨0,[]⟩:TTr),j.2)) (
.ite ((z.length:Int) != y.O) (
.reg 5 [] [(0,hv v)] [.pf cz8]<|
.r ((⟨0,[]⟩:TTr),6)) (
.range (z.length:Int) z.length rfl (.slot 3) 38 [3,4,8,10,36,37] (fun (l:Int×Int)=>[(12,(vi l.1)),(13,(vi l.2))]) (fun _=>[]) (0,0) (S_qn_b1 y z j) (fun l => 
 let k:=j.1.toNat
.call (@F_q6o_ok (y.E.getD k dF)) fun L C=>
.guard [(0:Int)<=j.1,j.1.toNat<y.E.length]<|
.reg 15 [] [(6,hc C [] true)] [.ev 0,.ev 1,.cl 2 C [] 2 true]<|
.ite (decide (l.1>L)) (
.reg 16 [] [(0,hv v)] [.pf cz8]<|
.r ((⟨0,[]⟩:TTr),15)) (
.ite (decide ((i64.wrap (l.1+l.2))>1000000000000000)) (
.reg 18 [] [(0,hv v)] [.pf cz8]<|
.r ((⟨0,[]⟩:TTr),3)) (
.call (@F_q1r_ok y k) fun f F=>
.reg 19 [] [(1,hc F [] false),(2,{ obs:=[(10,x)] })] [.cl 0 F [] 2 false,.pf cz7]<|
.kill 3<|
 let c:=(f.2.getD k dF)
.range (z.length:Int) z.length rfl (.slot 78) 80 [8,10,16,78,79] (fun (_:(List Int))=>[]) (fun g=>[(6,(eQ g))]) c.A (S_qn_b2 z j f) (fun g => 
.reg 25 [] [] []<|
.guard [g.length=c.A.length]<|
 let m:=(TTr.b y)
 let p:=(eQ c.H)
 let q:=(eQ c.G)
 let s:=(eQ c.P)
 let t:=(AV.d (Rf c.B))
 let u:=(eQ g)
.cst (A:=g.length=c.A.length) (.ev 0) [(8,(vp 1)),(9,(vi 0))] [(8,(vp 1)),(9,(vi 0))] [m,(Rd (Rc [(vi f.1),(Rb 5 f.2.length 0 f.2.length)])),Re,Re,Re,(opS 7 TPo.e k (Rc [t,(vi c.D),(vi c.T),(Rb 6 c.A.length 0 c.A.length),(Rb 7 c.H.length 0 c.H.length),(Rb 8 c.G.length 0 c.G.length),(Rb 9 c.P.length 0 c.P.length)]) f.2),u,p,q,s,(Rd (Rc [(vi f.1),(Rb 5 f.2.length 0 f.2.length)]))] [m,(Rd (Rc [(vi f.1),(Rb 5 f.2.length 0 f.2.length)])),Re,Re,Re,(opS 7 TPo.e k (Rc [t,(vi c.D),(vi c.T),(Rb 6 g.length 0 g.length),(Rb 7 c.H.length 0 c.H.length),(Rb 8 c.G.length 0 c.G.length),(Rb 9 c.P.length 0 c.P.length)]) f.2),u,p,q,s,(Rd (Rc [(vi f.1),(Rb 5 f.2.length 0 f.2.length)]))] (fun h=>⟨rfl,by rw[h]⟩)<|
.guard [g.length<2 ^ 63/\c.H.length<2 ^ 63/\c.G.length<2 ^ 63/\c.P.length<2 ^ 63]<|
 let I:=(⟨c.B,c.D,c.T,g,c.H,c.G,c.P⟩:TPo)
 let n:=(f.2.set k I)
 let o:=(Rc [(vi f.1),(Rb 5 f.2.length 0 f.2.length)])
 let J:=[m,(Rd o),Re,Re,Re,(eS 7 TPo.e n),Re,Re,Re,Re,(Rd o)]
 let w:=[(8,(vp 1)),(9,(vi 0))]
.sh (A:=g.length<2 ^ 63/\c.H.length<2 ^ 63/\c.G.length<2 ^ 63/\c.P.length<2 ^ 63) (.ev 0) w w [m,(Rd o),Re,Re,Re,(opS 7 TPo.e k (Rc [t,(vi c.D),(vi c.T),(Rb 6 g.length 0 g.length),(Rb 7 c.H.length 0 c.H.length),(Rb 8 c.G.length 0 c.G.length),(Rb 9 c.P.length 0 c.P.length)]) f.2),u,p,q,s,(Rd o)] J (fun h=>z1k oTApiPot (P:=[m,(Rd o),Re,Re,Re]) (D:=[(Rd o)]) rfl (⟨c.B,c.D,c.T,[],[],[],[]⟩:TPo) I h rfl) (z17 _)<|
 let K:=(Rc [(vi f.1),(Rb 5 n.length 0 n.length)])
.cst (A:=True) (.pf trivial) w w J [m,(Rd K),Re,Re,Re,(eS 7 TPo.e n),Re,Re,Re,Re,(Rd K)] (fun _=>⟨Zd,Zb⟩)<|
.guard [n.length<2 ^ 63]<|
.frz 5 (.ev 0) none [] [1,10]<|
.r ((⟨f.1,n⟩:TTr),0)) id))) id))
def F_qn (a:TTr) (b:Y8) (c:Int) (d:(List Int)):=(S_qn a b c d).den
theorem F_qn_ok {a:TTr} {b:Y8} {c:Int} {e:(List Int)}:FO (F_qn a b c e) 115 [(TTr.d a),(AV.d (Rf b)),(vi c),(vl e)] [] (fun x=>(Rg [(TTr.d x.1),(vi x.2)])) NL:=fO (s:=S_qn a b c e) Tryz.func115
def S_q6p (c:TTr) (y:Int) (u:Y8) (v:Int) (w:Int):SC (TTr×Int) (TTr×Int) :=
 let m:=(TTr.b (⟨0,[]⟩:TTr))
.reg 0 [] [(1,{ obs:=[(1,m)] })] [.pf cz7]<|
.a 1 4 2 (@F_q2y_ok c y u v) fun n=>
 let q:=(TTr.d (⟨0,[]⟩:TTr))
.ite (n.2 != 0) (
.reg 3 [] [(0,hv q)] [.pf cz8]<|
.r ((⟨0,[]⟩:TTr),n.2)) (
.ite (cO (decide (w<1)) (decide (w>1000000000000000))) (
.reg 5 [] [(0,hv q)] [.pf cz8]<|
.r ((⟨0,[]⟩:TTr),2)) (
.guard [(0:Int)<=c.O,c.O * 8<=2 ^ 47]<|
 let f:=((List.replicate c.O.toNat (0:Int)).length)
.reg 6 [] [(2,{ cast:=some (Rb 2 f 0 f),obs:=[(2,(eQ (List.replicate c.O.toNat (0:Int))))] })] [.ev 0,.pf (p:=c.O<=c.O) (y1h _),.ev 1,.pf (zbs (o:=2) (k:=c.O.toNat) (z:=(0:Int))),.pf (zbt (sz:=1) (k:=c.O.toNat) (e:=Ra) (z:=(0:Int)))]<|
 let h:=(i64.wrap (y-1))
 let j:=(0+h.toNat)
.guard [(0:Int)<=h,h.toNat<(List.replicate c.O.toNat (0:Int)).length,j<(List.replicate c.O.toNat (0:Int)).length]<|
 let g:=((List.replicate c.O.toNat (0:Int)).set j w)
.reg 7 [] [(5,{ obs:=[(2,(eQ g))] })] [.e f,.ev 0,.ev 1,.e f,.ev 2,.pf (zo (sz:=1) (e:=Ra) (l:=(List.replicate c.O.toNat (0:Int))) (i:=j) (x:=w) (fun _=>rfl))]<|
 let s:=[(TTr.b c),m,(eQ g)]
.cst (A:=True) (.pf trivial) [(2,(AV.d (Rf u))),(3,(vi v)),(5,(vp 0)),(10,(vp 1)),(14,(Rb 2 f 0 f))] [(2,(AV.d (Rf u))),(3,(vi v)),(5,(vp 0)),(10,(vp 1)),(14,(Rb 2 g.length 0 g.length))] s s (fun _=>⟨Zb,by rfl⟩)<|
.guard [g.length<2 ^ 63]<|
.frz 2 (.ev 0) none [14] []<|
.a 8 4 3 (@F_qn_ok c u v g) fun t=>
.r (t.1,t.2)))
def F_q6p (a:TTr) (b:Int) (c:Y8) (d:Int) (e:Int):=(S_q6p a b c d e).den
theorem F_q6p_ok {a:TTr} {b:Int} {c:Y8} {e:Int} {f:Int}:FO (F_q6p a b c e f) 67 [(TTr.d a),(vi b),(AV.d (Rf c)),(vi e),(vi f)] [] (fun x=>(Rg [(TTr.d x.1),(vi x.2)])) NL:=fO (s:=S_q6p a b c e f) Tryz.func67
def S_q6q (M:TTr) (U:Int) (V:Y8) (W:Int) (S:Int):SC (TTr×Int) (TTr×Int) :=
 let J:=(TTr.b (⟨0,[]⟩:TTr))
.reg 0 [] [(1,{ obs:=[(1,J)] })] [.pf cz7]<|
.a 1 4 2 (@F_q2y_ok M U V W) fun m=>
 let w:=(TTr.d (⟨0,[]⟩:TTr))
.ite (m.2 != 0) (
.reg 3 [] [(0,hv w)] [.pf cz8]<|
.r ((⟨0,[]⟩:TTr),m.2)) (
.ite (cO (decide (S<1)) (decide (S>1000000000000000))) (
.reg 5 [] [(0,hv w)] [.pf cz8]<|
.r ((⟨0,[]⟩:TTr),2)) (
 let n:=(i64.wrap (U-1))
 let k:=m.1.toNat
 let o:=(M.E.getD k dF)
.guard [(0:Int)<=m.1,m.1.toNat<M.E.length,(0:Int)<=n,n.toNat<o.G.length,n.toNat<o.A.length]<|
.reg 6 [] [] [.ev 0,.ev 1,.ev 2,.ev 3,.ev 0,.ev 1,.ev 2,.ev 4]<|
.ite (decide ((i64.wrap ((o.G.getD n.toNat dF)+S))>(o.A.getD n.toNat dF))) (
.reg 7 [] [(0,hv w)] [.pf cz8]<|
.r ((⟨0,[]⟩:TTr),15)) (
.call (@F_q1r_ok M k) fun f N=>
.reg 8 [] [(1,hc N [] false),(2,{ obs:=[(10,J)] })] [.cl 0 N [] 2 false,.pf cz7]<|
.kill 3<|
 let c:=(f.2.getD k dF)
 let q:=(0+n.toNat)
.guard [m.1.toNat<f.2.length,n.toNat<c.G.length,q<c.G.length]<|
 let O:=(i64.wrap ((c.G.getD q dF)+S))
 let g:=(c.G.set q O)
 let s:=(eQ g)
 let t:=c.G.length
 let K:=(Ri 5 f.2.length [.x k 7])
.reg 9 [] [(3,hv K),(13,{ obs:=[(8,s)] })] [.e f.2.length,.ev 5,.ev 0,.pf (p:=LeV (Ri 5 f.2.length [.x (0+k) 7]) K) z5c,.e f.2.length,.e f.2.length,.ev 0,.pf (p:=decide (m.1.toNat=m.1.toNat)=true) (yb rfl),.e t,.ev 7,.ev 1,.e t,.ev 2,.e t,.ev 7,.ev 1,.e t,.ev 2,.pf (zo (sz:=1) (e:=Ra) (l:=c.G) (i:=q) (x:=O) (fun _=>rfl))]<|
.reg 10 [] [] []<|
.guard [g.length=c.G.length]<|
 let j:=(TTr.b M)
 let y:=(eQ c.A)
 let z:=(eQ c.H)
 let C:=(eQ c.P)
 let F:=(AV.d (Rf c.B))
.cst (A:=g.length=c.G.length) (.ev 0) [(10,(vp 1)),(11,(vi 0))] [(10,(vp 1)),(11,(vi 0))] [j,(Rd (Rc [(vi f.1),(Rb 5 f.2.length 0 f.2.length)])),Re,Re,Re,(opS 7 TPo.e k (Rc [F,(vi c.D),(vi c.T),(Rb 6 c.A.length 0 c.A.length),(Rb 7 c.H.length 0 c.H.length),(Rb 8 c.G.length 0 c.G.length),(Rb 9 c.P.length 0 c.P.length)]) f.2),y,z,s,C,(Rd (Rc [(vi f.1),(Rb 5 f.2.length 0 f.2.length)]))] [j,(Rd (Rc [(vi f.1),(Rb 5 f.2.length 0 f.2.length)])),Re,Re,Re,(opS 7 TPo.e k (Rc [F,(vi c.D),(vi c.T),(Rb 6 c.A.length 0 c.A.length),(Rb 7 c.H.length 0 c.H.length),(Rb 8 g.length 0 g.length),(Rb 9 c.P.length 0 c.P.length)]) f.2),y,z,s,C,(Rd (Rc [(vi f.1),(Rb 5 f.2.length 0 f.2.length)]))] (fun h=>⟨rfl,by rw[h]⟩)<|
.guard [c.A.length<2 ^ 63/\c.H.length<2 ^ 63/\g.length<2 ^ 63/\c.P.length<2 ^ 63]<|
 let L:=(⟨c.B,c.D,c.T,c.A,c.H,g,c.P⟩:TPo)
 let u:=(f.2.set k L)
 let v:=(Rc [(vi f.1),(Rb 5 f.2.length 0 f.2.length)])
 let Q:=[j,(Rd v),Re,Re,Re,(eS 7 TPo.e u),Re,Re,Re,Re,(Rd v)]
 let I:=[(10,(vp 1)),(11,(vi 0))]
.sh (A:=c.A.length<2 ^ 63/\c.H.length<2 ^ 63/\g.length<2 ^ 63/\c.P.length<2 ^ 63) (.ev 0) I I [j,(Rd v),Re,Re,Re,(opS 7 TPo.e k (Rc [F,(vi c.D),(vi c.T),(Rb 6 c.A.length 0 c.A.length),(Rb 7 c.H.length 0 c.H.length),(Rb 8 g.length 0 g.length),(Rb 9 c.P.length 0 c.P.length)]) f.2),y,z,s,C,(Rd v)] Q (fun h=>z1k oTApiPot (P:=[j,(Rd v),Re,Re,Re]) (D:=[(Rd v)]) rfl (⟨c.B,c.D,c.T,[],[],[],[]⟩:TPo) L h rfl) (z17 _)<|
 let R:=(Rc [(vi f.1),(Rb 5 u.length 0 u.length)])
.cst (A:=True) (.pf trivial) I I Q [j,(Rd R),Re,Re,Re,(eS 7 TPo.e u),Re,Re,Re,Re,(Rd R)] (fun _=>⟨Zd,Zb⟩)<|
.guard [u.length<2 ^ 63]<|
.frz 5 (.ev 0) none [] [1,10]<|
.r ((⟨f.1,u⟩:TTr),0))))
def F_q6q (a:TTr) (b:Int) (c:Y8) (d:Int) (e:Int):=(S_q6q a b c d e).den
theorem F_q6q_ok {a:TTr} {b:Int} {c:Y8} {e:Int} {f:Int}:FO (F_q6q a b c e f) 68 [(TTr.d a),(vi b),(AV.d (Rf c)),(vi e),(vi f)] [] (fun x=>(Rg [(TTr.d x.1),(vi x.2)])) NL:=fO (s:=S_q6q a b c e f) Tryz.func68
def S_q6r (e:TTr) (f:Int) (g:Y8) (h:Int):SC (TMe×Int) (TMe×Int) :=
.a 1 4 2 (@F_q2y_ok e f g h) fun b=>
.ite (b.2 != 0) (
.r ((⟨0,0,[],0,0,0,0,0⟩:TMe),b.2)) (
 let d:=(e.E.getD b.1.toNat dF)
 let c:=(i64.wrap (f-1))
.guard [(0:Int)<=b.1,b.1.toNat<e.E.length,(0:Int)<=c,c.toNat<d.A.length,c.toNat<d.G.length]<|
.reg 4 [24] [] [.ev 0,.ev 1,.ev 2,.ev 3,.ev 0,.ev 1,.ev 2,.ev 4]<|
.r ((⟨0,f,g,h,(d.A.getD c.toNat dF),(d.G.getD c.toNat dF),0,0⟩:TMe),0))
def F_q6r (a:TTr) (b:Int) (c:Y8) (d:Int):=(S_q6r a b c d).den
theorem F_q6r_ok {a:TTr} {b:Int} {c:Y8} {e:Int}:FO (F_q6r a b c e) 69 [(TTr.d a),(vi b),(AV.d (Rf c)),(vi e)] [] (fun x=>(Rg [(TMe.d x.1),(vi x.2)])) NL:=fO (s:=S_q6r a b c e) Tryz.func69
def S_q4i (c:TWo) (g:TMe):SC (TWo×Int) (TWo×Int) :=
 let f:=(⟨(⟨0,[]⟩:TTr),[],[]⟩:TWo)
.reg 0 [] [(2,{ obs:=[(2,(TWo.b f))] })] [.pf cz4]<|
.ite ((c.N.length:Int)==200) (
.reg 2 [] [(0,hv (TWo.d f))] [.pf cz5]<|
.r (f,3)) (
.guard [c.N.length * (2 * 72)<=2 ^ 48,(c.N.length+1) * (2 * 72)<=2 ^ 48]<|
 let a:=([g]:List TMe)
.reg 3 [3,6,8] [(3,{ h:=.obj }),(5,hv (AV.d (eL TMe.e a))),(6,{ cast:=some (Rb 3 ((c.N++a).length) 0 ((c.N++a).length)),obs:=[(3,(eS 8 TMe.e (c.N++a)))] })] [.pf (p:=∀ k,k<c.N.length->(TMe.d (c.N.getD k dF)).wd=8) (fun _ _=>rfl),.ev 0,.pf (za TMe.e a),.pf (za TMe.e a),.e c.N.length,.e c.N.length,.pf (p:=∀ k,k<1->(TMe.d (a.getD k dF)).wd=8) (fun _ _=>rfl),.ev 1,.pf (zy (o:=3) (l:=c.N) (x:=a)),.pf (z12 (sz:=8) (e:=TMe.e) (l:=c.N) (x:=a))]<|
.guard [(c.N++a).length<2 ^ 63]<|
.frz 3 (.ev 0) none [] [0]<|
.r ((⟨c.K,c.J,(c.N++a)⟩:TWo),0))
def F_q4i (a:TWo) (b:TMe):=(S_q4i a b).den
theorem F_q4i_ok {a:TWo} {b:TMe}:FO (F_q4i a b) 70 [(TWo.d a),(TMe.d b)] [] (fun x=>(Rg [(TWo.d x.1),(vi x.2)])) NL:=fO (s:=S_q4i a b) Tryz.func70
def S_q55 (e:TJo):SC Bool Bool :=
.call (@F_q7_ok e) fun d a=>
 let c:=(TOf.b (⟨0,[],(⟨[],[],[],[]⟩:TBo)⟩:TOf))
.reg 1 [] [(1,hc a [] true),(6,{ obs:=[(1,c)] }),(7,{ obs:=[(2,c)] })] [.cl 0 a [] 1 true,.pf z19,.pf z19]<|
.r d.2.2
def F_q55 (a:TJo):=(S_q55 a).den
theorem F_q55_ok {a:TJo}:FO (F_q55 a) 172 [(TJo.d a)] [] vb NL:=fO (s:=S_q55 a) Tryz.func172
def S_q6s (d:TJo):SC TJo TJo :=
.reg 0 [] [(1,{ obs:=[(1,(TJo.b (⟨0,[],0⟩:TJo)))] })] [.pf cz2]<|
.a 1 1 2 (@F_q55_ok d) fun e=>
.cut none [1,2] (fun (_:TJo)=>[]) (fun c=>[(0,(TJo.b c))]) (
.ite e (
.r (.next (⟨d.Z,d.M,(d.M.length:Int)⟩:TJo))) (
.r (.next d))) fun c=>
.r c
def F_q6s (a:TJo):=(S_q6s a).den
theorem F_q6s_ok {a:TJo}:FO (F_q6s a) 117 [(TJo.d a)] [] (fun x=>(TJo.d x)) NL:=fO (s:=S_q6s a) Tryz.func117
def S_q40 (a:TWo) (n:TJo):SC TWo TWo :=
 let f:=(TWo.b (⟨(⟨0,[]⟩:TTr),[],[]⟩:TWo))
.reg 0 [] [(2,{ obs:=[(2,f)] })] [.pf cz4]<|
.guard [a.J.length * (2 * 40)<=2 ^ 48]<|
.reg 1 [] [(3,{ h:=.obj })] [.pf (p:=∀ k,k<a.J.length->(TJo.d (a.J.getD k dF)).wd=3) (fun _ _=>rfl),.ev 0]<|
 let g:=(i64.wrap (n.Z-1))
 let j:=(0+g.toNat)
.guard [(0:Int)<=g,g.toNat<a.J.length,j<a.J.length]<|
 let c:=(a.J.set j n)
 let m:=(eS 3 TJo.e c)
.reg 2 [] [(7,{ obs:=[(3,m)] })] [.e a.J.length,.ev 0,.ev 1,.e a.J.length,.ev 2,.pf (zo (sz:=3) (e:=TJo.e) (l:=a.J) (i:=j) (x:=n) (fun _=>rfl))]<|
 let o:=[(2,(vp 0)),(4,(vp 2))]
.cst (A:=True) (.pf trivial) o o [(Rd (Rc [(TTr.d a.K),(Rb 3 a.J.length 0 a.J.length),(AV.d (eL TMe.e a.N))])),(TJo.b n),f,m] [(Rd (Rc [(TTr.d a.K),(Rb 3 c.length 0 c.length),(AV.d (eL TMe.e a.N))])),(TJo.b n),f,m] (fun _=>⟨Zd,Zb⟩)<|
.guard [c.length<2 ^ 63]<|
.reg 3 [] [] []<|
.frz 3 (.ev 0) none [] [0,2]<|
.r (⟨a.K,c,a.N⟩:TWo)
def F_q40 (a:TWo) (b:TJo):=(S_q40 a b).den
theorem F_q40_ok {a:TWo} {b:TJo}:FO (F_q40 a b) 116 [(TWo.d a),(TJo.d b)] [] (fun x=>(TWo.d x)) NL:=fO (s:=S_q40 a b) Tryz.func116
def S_q6t (f:TJo):SC TJo TJo :=
.reg 0 [] [(1,{ obs:=[(1,(TJo.b (⟨0,[],0⟩:TJo)))] })] [.pf cz2]<|
.a 1 1 2 (@F_q55_ok f) fun h=>
.cut none [1,2] (fun (_:TJo)=>[]) (fun g=>[(0,(TJo.b g))]) (
.ite h (
 let c:=(f.M.take f.Af.toNat)
.guard [(0:Int)<=f.Af,f.Af.toNat<=f.M.length,(0+c.length) * (2 * 88)<=2 ^ 48]<|
.reg 2 [] [(5,hv (AV.d (eL TOp.e c))),(6,hv (AV.d (eL TOp.e c)))] [.ev 0,.ev 1,.der (fun (h0:f.Af.toNat<=f.M.length)=>lvT TOp.e f.M h0) 1,.pf (p:=∀ k,k<c.length->AV.d (TOp.e (c.getD k dF))=AV.d (TOp.e (c.getD k dF))/\(TOp.e (c.getD k dF)).wd=10) (fun _ _=>⟨rfl,rfl⟩),.pf zvj,.ev 2,.pf (z3s (e:=TOp.e) (x:=c))]<|
.r (.next (⟨f.Z,c,f.Af⟩:TJo))) (
.r (.next f))) fun g=>
.r g
def F_q6t (a:TJo):=(S_q6t a).den
theorem F_q6t_ok {a:TJo}:FO (F_q6t a) 118 [(TJo.d a)] [] (fun x=>(TJo.d x)) NL:=fO (s:=S_q6t a) Tryz.func118
def S_q56 (c:TJo) (t:TOp):SC (TJo×Int) (TJo×Int) :=
 let f:=(⟨0,[],0⟩:TJo)
.reg 0 [] [(2,{ obs:=[(2,(TJo.b f))] })] [.pf cz2]<|
.call (@F_q4h_ok c) fun g j=>
 let m:=(TOf.b (⟨0,[],(⟨[],[],[],[]⟩:TBo)⟩:TOf))
.reg 1 [] [(1,hc j [] true),(5,{ obs:=[(3,m)] })] [.cl 0 j [] 3 true,.pf z19]<|
.calld [(g.2 != 0)=false] dF (@F_qk_ok t) fun u n =>
.reg 2 [] [(4,hc n [] true)] [.clg 0 [(g.2 != 0)=false] n [] 4 true]<|
 let i:=(0,hv (TJo.d f))
.ite (cO (g.2 != 0) (!u)) (
.reg 3 [] [i] [.pf cz3]<|
.r (f,1)) (
.call (@F_q53_ok g.1 t) fun q s=>
.reg 4 [] [(2,hc s [] true),(6,{ obs:=[(4,m)] })] [.cl 0 s [] 4 true,.pf z19]<|
.ite (q.2 != 0) (
.reg 6 [] [i] [.pf cz3]<|
.r (f,q.2)) (
.ite ((c.M.length:Int)==400) (
.reg 8 [] [i] [.pf cz3]<|
.r (f,3)) (
.guard [c.M.length * (2 * 88)<=2 ^ 48,(c.M.length+1) * (2 * 88)<=2 ^ 48]<|
 let a:=([t]:List TOp)
.reg 9 [3,6,8] [(3,{ h:=.obj }),(5,hv (AV.d (eL TOp.e a))),(6,{ cast:=some (Rb 5 ((c.M++a).length) 0 ((c.M++a).length)),obs:=[(5,(eS 10 TOp.e (c.M++a)))] })] [.pf (p:=∀ k,k<c.M.length->(TOp.d (c.M.getD k dF)).wd=10) (fun _ _=>rfl),.ev 0,.pf (za TOp.e a),.pf (za TOp.e a),.e c.M.length,.e c.M.length,.pf (p:=∀ k,k<1->(TOp.d (a.getD k dF)).wd=10) (fun _ _=>rfl),.ev 1,.pf (zy (o:=5) (l:=c.M) (x:=a)),.pf (z12 (sz:=10) (e:=TOp.e) (l:=c.M) (x:=a))]<|
.guard [(c.M++a).length<2 ^ 63]<|
.frz 5 (.ev 0) none [] [0]<|
.r ((⟨c.Z,(c.M++a),c.Af⟩:TJo),0))))
def F_q56 (a:TJo) (b:TOp):=(S_q56 a b).den
theorem F_q56_ok {a:TJo} {b:TOp}:FO (F_q56 a b) 119 [(TJo.d a),(TOp.d b)] [] (fun x=>(Rg [(TJo.d x.1),(vi x.2)])) NL:=fO (s:=S_q56 a b) Tryz.func119
def S_q6u (g:TJo):SC (TOf×Int) (TOf×Int) :=
 let a:=(⟨0,[],(⟨[],[],[],[]⟩:TBo)⟩:TOf)
 let c:=(TOf.b a)
.reg 0 [] [(1,{ obs:=[(1,c)] })] [.pf z19]<|
.call (@F_q7_ok g) fun e f=>
.reg 1 [] [(1,hc f [] true),(6,{ obs:=[(2,c)] }),(7,{ obs:=[(3,c)] })] [.cl 0 f [] 2 true,.pf z19,.pf z19]<|
.ite (!e.2.2) (
.reg 3 [] [(0,hv (TOf.d a))] [.pf z1n]<|
.r (a,1)) (
.r (e.2.1,0))
def F_q6u (a:TJo):=(S_q6u a).den
theorem F_q6u_ok {a:TJo}:FO (F_q6u a) 120 [(TJo.d a)] [] (fun x=>(Rg [(TOf.d x.1),(vi x.2)])) NL:=fO (s:=S_q6u a) Tryz.func120
end
end Go.Proofs.YtkhgaalekilaeaaGreatDoor
