/- A part of the proof: what the functions compute, and that their calls return it. No condition. -/
import Derived.Test.YtgbpiaddmclccaaGreatDoorG4
/- What the functions compute, and that their calls return it. No condition. -/
namespace Go.Proofs.YtgbpiaddmclccaaGreatDoor
open Go Go.TA
open Go.IntKind (i64)
noncomputable section
set_option maxRecDepth 100000
def S_q5l (m:TBo) (s:Int) (B:Int) (C:Int):SC (TBo×Int) (TBo×Int) :=
 let f:=(⟨[],[],[],[]⟩:TBo)
.reg 0 [] [(1,{ obs:=[(1,(TBo.b f))] })] [.pf z2l]<|
.a 1 1 2 (@F_q1w_ok m) fun D=>
 let g:=(0,hv (TBo.d f))
.ite (!D) (
.reg 2 [] [g] [.pf zo]<|
.r (f,1)) (
.ite (cO (decide (s<1)) (decide (s>(m.H.length:Int)))) (
.reg 4 [] [g] [.pf zo]<|
.r (f,6)) (
.call (@F_q18_ok B) fun n t=>
.calld [(!n)=false] dF (@F_q1t_ok C) fun E u =>
.reg 5 [] [(1,hc t [] true),(5,hc u [] true)] [.cl 2 t [] 2 true,.clg 0 [(!n)=false] u [] 2 true]<|
.ite (cO (!n) (!E)) (
.reg 6 [] [g] [.pf zo]<|
.r (f,2)) (
.call (@F_q1s_ok B) fun F v=>
.call (@F_q2i_ok m s) fun G w=>
.reg 7 [] [(1,hc v [] true),(4,hc w [] true)] [.cl 1 v [] 2 true,.cl 0 w [] 2 true]<|
.ite (decide (F>(i64.wrap (G+1)))) (
.reg 8 [] [g] [.pf zo]<|
.r (f,16)) (
 let q:=(i64.wrap (s-1))
.guard [(0:Int)<=q,q.toNat<m.H.length]<|
.reg 9 [] [] [.ev 0,.ev 1]<|
 let y:=(m.H.getD q.toNat dF)
.ite (decide (B<y.Ab)) (
.reg 10 [] [g] [.pf zo]<|
.r (f,8)) (
.call (@F_q1v_ok m y) fun I z=>
.reg 11 [] [(8,hc z [] true)] [.ev 2,.ev 3,.cl 0 z [] 2 true]<|
.ite (decide (C>I)) (
.reg 12 [] [g] [.pf zo]<|
.r (f,15)) (
.ite ((m.J.length:Int)==200) (
.reg 14 [] [g] [.pf zo]<|
.r (f,3)) (
.call (@F_q2k_ok m) fun c A=>
.reg 15 [] [(1,hc A [] false),(2,{ h:=.obj })] [.cl 0 A [] 2 false]<|
.kill 3<|
.guard [c.1.length<2 ^ 63]<|
.frz 4 (.ev 0) none [] [8]<|
.guard [c.2.1.length<2 ^ 63]<|
.frz 5 (.ev 0) none [] [8]<|
.guard [c.2.2.2.length<2 ^ 63]<|
.frz 7 (.ev 0) none [] [8]<|
.guard [(c.2.2.1.length+1) * (2 * 32)<=2 ^ 48]<|
 let i:=([(⟨(i64.wrap ((m.J.length:Int)+1)),s,B,C⟩:TVe)]:List TVe)
 let j:=(c.2.2.1++i)
.reg 16 [] [(10,hv (AV.d (eL TVe.e i))),(11,{ cast:=some (Rb 6 j.length 0 j.length),obs:=[(6,(eS 4 TVe.e j))] })] [.pf (z9 TVe.e i),.e c.2.2.1.length,.e c.2.2.1.length,.pf (p:=∀ k,k<1->(TVe.d (i.getD k dF)).wd=4) (fun _ _=>rfl),.ev 0,.pf (zw (o:=6) (l:=c.2.2.1) (x:=i)),.pf (zy (sz:=4) (e:=TVe.e) (l:=c.2.2.1) (x:=i))]<|
.guard [j.length<2 ^ 63]<|
.reg 17 [] [] []<|
.frz 6 (.ev 0) none [] [1,8]<|
.r ((⟨c.1,c.2.1,j,c.2.2.2⟩:TBo),0))))))))
def F_q5l (a:TBo) (b:Int) (c:Int) (d:Int):=(S_q5l a b c d).den
theorem F_q5l_ok {a:TBo} {b:Int} {c:Int} {e:Int}:FO (F_q5l a b c e) 163 [(TBo.d a),(vi b),(vi c),(vi e)] [] (fun x=>(Rg [(TBo.d x.1),(vi x.2)])) NL:=fO (s:=S_q5l a b c e) Tryz.func163
def S_q2l_b1 (d:TBo) (e:Int) (b:Nat) (a:TOr×Int):SC (TOr×Int) (Step (TOr×Int) (TOr×Int)) :=
.reg 5 [] [] [.w b,.ev 0]<|
 let c:=(d.W.getD b dF)
.ite (c.X==e) (
.r (.cont (c,(i64.wrap (a.2+1))))) (
.r (.cont (a.1,a.2)))
def S_q2l (c:TBo) (d:Int):SC (TOr×Int) (TOr×Int) :=
.range (c.W.length:Int) c.W.length rfl (.slot 11) 13 [1,4,6,11,12] (fun (a:TOr×Int)=>[(7,(vi a.2))]) (fun a=>[(2,(TOr.b a.1))]) ((⟨0,0,0,0,false⟩:TOr),0) (S_q2l_b1 c d) (fun a => 
.r (a.1,a.2)) id
def F_q2l (a:TBo) (b:Int):=(S_q2l a b).den
theorem F_q2l_ok {a:TBo} {b:Int}:FO (F_q2l a b) 199 [(TBo.d a),(vi b)] [] (fun x=>(Rg [(TOr.d x.1),(vi x.2)])) NL:=fO (s:=S_q2l a b) Tryz.func199
def S_q5m (n:TBo) (s:Int) (t:Int):SC (TBo×Int) (TBo×Int) :=
 let f:=(⟨[],[],[],[]⟩:TBo)
.reg 0 [] [(1,{ obs:=[(1,(TBo.b f))] })] [.pf z2l]<|
.a 1 1 2 (@F_q1w_ok n) fun z=>
 let g:=(0,hv (TBo.d f))
.ite (!z) (
.reg 2 [] [g] [.pf zo]<|
.r (f,1)) (
.ite (cO (decide (s<1)) (decide (s>(n.J.length:Int)))) (
.reg 4 [] [g] [.pf zo]<|
.r (f,6)) (
.a 5 1 2 (@F_q18_ok t) fun A=>
.ite (!A) (
.reg 6 [] [g] [.pf zo]<|
.r (f,2)) (
 let q:=(i64.wrap (s-1))
.guard [(0:Int)<=q,q.toNat<n.J.length]<|
.reg 7 [] [] [.ev 0,.ev 1]<|
.a 8 2 3 (@F_q2l_ok n s) fun j=>
.call (@F_q1s_ok t) fun B u=>
 let v:=(n.J.getD q.toNat dF)
.call (@F_q2i_ok n v.Ac) fun C w=>
.reg 9 [] [(1,hc u [] true),(5,hc w [] true)] [.cl 1 u [] 4 true,.cl 0 w [] 4 true]<|
.ite (decide (B>(i64.wrap (C+1)))) (
.reg 10 [] [g] [.pf zo]<|
.r (f,16)) (
.ite (bif (decide (j.2>0)) then (!j.1.Al) else false) (
.reg 12 [] [g] [.pf zo]<|
.r (f,20)) (
.ite (cO (decide (t<v.Ab)) (bif (decide (j.2>0)) then (decide (t<j.1.Ab)) else false)) (
.reg 14 [] [g] [.pf zo]<|
.r (f,8)) (
.ite ((n.W.length:Int)==200) (
.reg 16 [] [g] [.pf zo]<|
.r (f,3)) (
.call (@F_q2k_ok n) fun c y=>
.reg 17 [] [(1,hc y [] false),(2,{ h:=.obj })] [.cl 0 y [] 4 false]<|
.kill 5<|
.guard [c.1.length<2 ^ 63]<|
.frz 6 (.ev 0) none [] [10]<|
.guard [c.2.1.length<2 ^ 63]<|
.frz 7 (.ev 0) none [] [10]<|
.guard [c.2.2.1.length<2 ^ 63]<|
.frz 8 (.ev 0) none [] [10]<|
.guard [(c.2.2.2.length+1) * (2 * 40)<=2 ^ 48]<|
 let i:=([(⟨(i64.wrap ((n.W.length:Int)+1)),s,(i64.wrap (j.2+1)),t,false⟩:TOr)]:List TOr)
 let m:=(c.2.2.2++i)
.reg 18 [] [(11,hv (AV.d (eL TOr.e i))),(12,{ cast:=some (Rb 9 m.length 0 m.length),obs:=[(9,(eS 5 TOr.e m))] })] [.pf (z9 TOr.e i),.e c.2.2.2.length,.e c.2.2.2.length,.pf (p:=∀ k,k<1->(TOr.d (i.getD k dF)).wd=5) (fun _ _=>rfl),.ev 0,.pf (zw (o:=9) (l:=c.2.2.2) (x:=i)),.pf (zy (sz:=5) (e:=TOr.e) (l:=c.2.2.2) (x:=i))]<|
.guard [m.length<2 ^ 63]<|
.reg 19 [] [] []<|
.frz 9 (.ev 0) none [] [1,10]<|
.r ((⟨c.1,c.2.1,c.2.2.1,m⟩:TBo),0))))))))
def F_q5m (a:TBo) (b:Int) (c:Int):=(S_q5m a b c).den
theorem F_q5m_ok {a:TBo} {b:Int} {c:Int}:FO (F_q5m a b c) 164 [(TBo.d a),(vi b),(vi c)] [] (fun x=>(Rg [(TBo.d x.1),(vi x.2)])) NL:=fO (s:=S_q5m a b c) Tryz.func164
def S_q5n (t:TBo) (y:Int) (z:Int):SC (TBo×Int) (TBo×Int) :=
 let f:=(⟨[],[],[],[]⟩:TBo)
 let j:=(TBo.b f)
.reg 0 [] [(1,{ obs:=[(1,j)] })] [.pf z2l]<|
.a 1 1 2 (@F_q1w_ok t) fun E=>
 let k:=(0,hv (TBo.d f))
.ite (!E) (
.reg 2 [] [k] [.pf zo]<|
.r (f,1)) (
.ite (cO (decide (y<1)) (decide (y>(t.C.length:Int)))) (
.reg 4 [] [k] [.pf zo]<|
.r (f,6)) (
.a 5 1 2 (@F_q1t_ok z) fun F=>
.ite (!F) (
.reg 6 [] [k] [.pf zo]<|
.r (f,2)) (
.a 7 3 2 (@F_qy_ok t y) fun G=>
.ite (decide (z>G)) (
.reg 8 [] [k] [.pf zo]<|
.r (f,15)) (
.call (@F_q2k_ok t) fun c u=>
.reg 9 [] [(1,hc u [] false),(2,{ obs:=[(8,j)] })] [.cl 0 u [] 2 false,.pf z2l]<|
.kill 3<|
.guard [c.2.1.length<2 ^ 63]<|
.frz 5 (.ev 0) none [] [8]<|
.guard [c.2.2.1.length<2 ^ 63]<|
.frz 6 (.ev 0) none [] [8]<|
.guard [c.2.2.2.length<2 ^ 63]<|
.frz 7 (.ev 0) none [] [8]<|
 let q:=(i64.wrap (y-1))
 let m:=(0+q.toNat)
.guard [(0:Int)<=q,q.toNat<c.1.length,m<c.1.length]<|
 let g:=(c.1.getD m dF)
 let v:=(⟨g.S,g.B,g.D,g.Ab,g.V,(i64.wrap (g.Ad+z))⟩:TRe)
 let h:=(c.1.set m v)
 let s:=(eS 6 TRe.e h)
.reg 10 [] [(11,{ obs:=[(4,s)] })] [.e c.1.length,.ev 0,.ev 1,.e c.1.length,.e c.1.length,.ev 2,.e c.1.length,.ev 0,.ev 1,.e c.1.length,.e c.1.length,.ev 2,.pf (zk (sz:=6) (e:=TRe.e) (l:=c.1) (i:=m) (x:=v) (fun _=>rfl))]<|
 let w:=(AV.d (eL TVe.e c.2.2.1))
 let n:=(AV.d (eL TOr.e c.2.2.2))
 let o:=(AV.d (eL TCo.e c.2.1))
 let p:=[(6,(vp 1)),(8,(vp 8))]
.cst (A:=True) (.pf trivial) p p [(TBo.b t),j,Re,Re,s,Re,Re,Re,(Rd (Rc [(Rb 4 c.1.length 0 c.1.length),o,w,n]))] [(TBo.b t),j,Re,Re,s,Re,Re,Re,(Rd (Rc [(Rb 4 h.length 0 h.length),o,w,n]))] (fun _=>⟨Zd,Zb⟩)<|
.guard [h.length<2 ^ 63]<|
.reg 11 [] [] []<|
.frz 4 (.ev 0) none [] [1,8]<|
.r ((⟨h,c.2.1,c.2.2.1,c.2.2.2⟩:TBo),0)))))
def F_q5n (a:TBo) (b:Int) (c:Int):=(S_q5n a b c).den
theorem F_q5n_ok {a:TBo} {b:Int} {c:Int}:FO (F_q5n a b c) 165 [(TBo.d a),(vi b),(vi c)] [] (fun x=>(Rg [(TBo.d x.1),(vi x.2)])) NL:=fO (s:=S_q5n a b c) Tryz.func165
def S_q5o (o:TBo) (z:Int) (B:Int):SC (TBo×Int) (TBo×Int) :=
 let g:=(⟨[],[],[],[]⟩:TBo)
 let k:=(TBo.b g)
.reg 0 [] [(1,{ obs:=[(1,k)] })] [.pf z2l]<|
.a 1 1 2 (@F_q1w_ok o) fun C=>
 let m:=(0,hv (TBo.d g))
.ite (!C) (
.reg 2 [] [m] [.pf zo]<|
.r (g,1)) (
.ite (cO (decide (z<1)) (decide (z>(o.H.length:Int)))) (
.reg 4 [] [m] [.pf zo]<|
.r (g,6)) (
.a 5 1 2 (@F_q1t_ok B) fun D=>
.ite (!D) (
.reg 6 [] [m] [.pf zo]<|
.r (g,2)) (
 let h:=(i64.wrap (z-1))
.call (@F_q1v_ok o (o.H.getD h.toNat dF)) fun E u=>
.guard [(0:Int)<=h,h.toNat<o.H.length]<|
.reg 7 [] [(8,hc u [] true)] [.ev 0,.ev 1,.cl 2 u [] 2 true]<|
.ite (decide (B>E)) (
.reg 8 [] [m] [.pf zo]<|
.r (g,15)) (
.call (@F_q2k_ok o) fun c v=>
.reg 9 [] [(1,hc v [] false),(2,{ obs:=[(8,k)] })] [.cl 0 v [] 2 false,.pf z2l]<|
.kill 3<|
.guard [c.1.length<2 ^ 63]<|
.frz 4 (.ev 0) none [] [8]<|
.guard [c.2.2.1.length<2 ^ 63]<|
.frz 6 (.ev 0) none [] [8]<|
.guard [c.2.2.2.length<2 ^ 63]<|
.frz 7 (.ev 0) none [] [8]<|
 let n:=(0+h.toNat)
.guard [h.toNat<c.2.1.length,n<c.2.1.length]<|
 let f:=(c.2.1.getD n dF)
 let w:=(⟨f.S,f.Y,f.Ab,f.V,(i64.wrap (f.Ad+B)),f.Ah,f.Ai⟩:TCo)
 let j:=(c.2.1.set n w)
 let t:=(eS 7 TCo.e j)
.reg 10 [] [(11,{ obs:=[(5,t)] })] [.e c.2.1.length,.ev 7,.ev 0,.e c.2.1.length,.e c.2.1.length,.ev 1,.e c.2.1.length,.ev 7,.ev 0,.e c.2.1.length,.e c.2.1.length,.ev 1,.pf (zk (sz:=7) (e:=TCo.e) (l:=c.2.1) (i:=n) (x:=w) (fun _=>rfl))]<|
 let y:=(AV.d (eL TVe.e c.2.2.1))
 let p:=(AV.d (eL TOr.e c.2.2.2))
 let q:=[(6,(vp 1)),(8,(vp 8))]
 let s:=(AV.d (eL TRe.e c.1))
.cst (A:=True) (.pf trivial) q q [(TBo.b o),k,Re,Re,Re,t,Re,Re,(Rd (Rc [s,(Rb 5 c.2.1.length 0 c.2.1.length),y,p]))] [(TBo.b o),k,Re,Re,Re,t,Re,Re,(Rd (Rc [s,(Rb 5 j.length 0 j.length),y,p]))] (fun _=>⟨Zd,Zb⟩)<|
.guard [j.length<2 ^ 63]<|
.reg 11 [] [] []<|
.frz 5 (.ev 0) none [] [1,8]<|
.r ((⟨c.1,j,c.2.2.1,c.2.2.2⟩:TBo),0)))))
def F_q5o (a:TBo) (b:Int) (c:Int):=(S_q5o a b c).den
theorem F_q5o_ok {a:TBo} {b:Int} {c:Int}:FO (F_q5o a b c) 166 [(TBo.d a),(vi b),(vi c)] [] (fun x=>(Rg [(TBo.d x.1),(vi x.2)])) NL:=fO (s:=S_q5o a b c) Tryz.func166
def S_q5p (u:TBo) (z:Int):SC (TBo×Int) (TBo×Int) :=
 let f:=(⟨[],[],[],[]⟩:TBo)
 let j:=(TBo.b f)
.reg 0 [] [(1,{ obs:=[(1,j)] })] [.pf z2l]<|
.a 1 1 2 (@F_q1w_ok u) fun B=>
 let q:=(0,hv (TBo.d f))
.ite (!B) (
.reg 2 [] [q] [.pf zo]<|
.r (f,1)) (
.ite (cO (decide (z<1)) (decide (z>(u.J.length:Int)))) (
.reg 4 [] [q] [.pf zo]<|
.r (f,6)) (
.a 5 2 2 (@F_q2l_ok u z) fun g=>
.ite (cO (g.2==0) g.1.Al) (
.reg 7 [] [q] [.pf zo]<|
.r (f,9)) (
.call (@F_q2k_ok u) fun c v=>
.reg 8 [] [(1,hc v [] false),(2,{ obs:=[(9,j)] })] [.cl 0 v [] 3 false,.pf z2l]<|
.kill 4<|
.guard [c.1.length<2 ^ 63]<|
.frz 5 (.ev 0) none [] [9]<|
.guard [c.2.1.length<2 ^ 63]<|
.frz 6 (.ev 0) none [] [9]<|
.guard [c.2.2.1.length<2 ^ 63]<|
.frz 7 (.ev 0) none [] [9]<|
 let s:=(i64.wrap (g.1.S-1))
 let k:=(0+s.toNat)
.guard [(0:Int)<=s,s.toNat<c.2.2.2.length,k<c.2.2.2.length]<|
 let m:=(c.2.2.2.getD k dF)
 let w:=(⟨m.S,m.X,m.Ak,m.Ab,true⟩:TOr)
 let h:=(c.2.2.2.set k w)
 let t:=(eS 5 TOr.e h)
.reg 9 [] [(7,{ obs:=[(8,t)] })] [.e c.2.2.2.length,.ev 0,.ev 1,.e c.2.2.2.length,.e c.2.2.2.length,.ev 2,.pf (zk (sz:=5) (e:=TOr.e) (l:=c.2.2.2) (i:=k) (x:=w) (fun _=>rfl))]<|
 let y:=(AV.d (eL TVe.e c.2.2.1))
 let n:=(AV.d (eL TCo.e c.2.1))
 let o:=[(4,(vp 1)),(8,(vp 9))]
 let p:=(AV.d (eL TRe.e c.1))
.cst (A:=True) (.pf trivial) o o [(TBo.b u),j,(TOr.b g.1),Re,Re,Re,Re,Re,t,(Rd (Rc [p,n,y,(Rb 8 c.2.2.2.length 0 c.2.2.2.length)]))] [(TBo.b u),j,(TOr.b g.1),Re,Re,Re,Re,Re,t,(Rd (Rc [p,n,y,(Rb 8 h.length 0 h.length)]))] (fun _=>⟨Zd,Zb⟩)<|
.guard [h.length<2 ^ 63]<|
.reg 10 [] [] []<|
.frz 8 (.ev 0) none [] [1,9]<|
.r ((⟨c.1,c.2.1,c.2.2.1,h⟩:TBo),0))))
def F_q5p (a:TBo) (b:Int):=(S_q5p a b).den
theorem F_q5p_ok {a:TBo} {b:Int}:FO (F_q5p a b) 167 [(TBo.d a),(vi b)] [] (fun x=>(Rg [(TBo.d x.1),(vi x.2)])) NL:=fO (s:=S_q5p a b) Tryz.func167
def S_q43 (b:TRi) (c:TMe):SC (TRi×Int) (TRi×Int) :=
.a 1 1 3 (@F_q3l_ok b) fun g=>
.ite (cO (cO (cO (!g) (c.Aa != 0)) (!(c.B==b.B))) (c.D != b.D)) (
.r ((⟨[],0,0,0,0⟩:TRi),1)) (
.call (@F_qo_ok c.A) fun d e=>
.calld [(!d)=false] dF (@F_qo_ok c.F) fun h f =>
.reg 3 [] [(2,hc e [] true),(7,hc f [] true)] [.cl 2 e [] 3 true,.clg 0 [(!d)=false] f [] 3 true]<|
.ite (cO (!d) (!h)) (
.r ((⟨[],0,0,0,0⟩:TRi),2)) (
.reg 5 [11,13] [] []<|
.r ((⟨b.B,b.D,(if c.A>b.A then c.A else b.A),(if c.F>b.F then c.F else b.F),b.Q⟩:TRi),0)))
def F_q43 (a:TRi) (b:TMe):=(S_q43 a b).den
theorem F_q43_ok {a:TRi} {b:TMe}:FO (F_q43 a b) 200 [(TRi.d a),(TMe.d b)] [] (fun x=>(Rg [(TRi.d x.1),(vi x.2)])) NL:=fO (s:=S_q43 a b) Tryz.func200
end
end Go.Proofs.YtgbpiaddmclccaaGreatDoor
/- What the functions compute,and that their calls return it. No condition. -/
namespace Go.Proofs.YtgbpiaddmclccaaGreatDoor
open Go Go.TA
open Go.IntKind (i64)
noncomputable section
set_option maxRecDepth 100000
theorem zwo:∀ k,k<1->(TRi.d (([(⟨[],0,0,0,0⟩:TRi)]:List TRi).getD k dF)).wd=5:=fun _ _=>rfl
def S_q1x_b1 (d:TOf) (h:(TRi×Int)) (a:Int):SC (TOf×Int) (Step Int (TOf×Int)) :=
.ite (decide (a<(d.L.length:Int))) (
 let f:=(0+a.toNat)
 let i:=(d.L.getD f dF)
.call (@F_q14_ok i.B h.1.B) fun b j=>
.guard [(0:Int)<=a,a.toNat<d.L.length,f<d.L.length]<|
.reg 15 [] [(7,hc j [] true)] [.e d.L.length,.ev 0,.ev 1,.e d.L.length,.e d.L.length,.ev 2,.cl 3 j [] 5 true]<|
 let c:=(decide (b>0))
.guard [AllP [(b==0)=true,c=false]->((0:Int)<=a),AllP [(b==0)=true,c=false]->(a.toNat<d.L.length),AllP [(b==0)=true,c=false]->(f<d.L.length)]<|
 let g:=(d.L.length=d.L.length)
.reg 16 [] [] [.pf (p:=AllP [(b==0)=true,c=false]->g) (fun _=>rfl),.ev 0,.ev 1,.pf (p:=AllP [(b==0)=true,c=false]->g) (fun _=>rfl),.pf (p:=AllP [(b==0)=true,c=false]->g) (fun _=>rfl),.ev 2]<|
.ite (cO c (bif (b==0) then (decide (i.D>h.1.D)) else false)) (
.r (.brk a)) (
.r (.cont (i64.wrap (a+1))))) (
.r (.brk a))
def S_q1x (m:TOf) (y:TOp):SC (TOf×Int) (TOf×Int) :=
 let u:=(⟨0,[],(⟨[],[],[],[]⟩:TBo)⟩:TOf)
 let t:=(TOf.b u)
.reg 0 [] [(2,{ obs:=[(2,t)] })] [.pf z18]<|
.a 1 2 3 (@F_qt_ok y.B) fun P=>
 let H:=(0,hv (TOf.d u))
.ite (!P) (
.reg 2 [] [H] [.pf z1v]<|
.r (u,5)) (
.ite (cO (decide (y.D<0)) (decide (y.D>99))) (
.reg 4 [] [H] [.pf z1v]<|
.r (u,2)) (
.a 5 5 3 (@F_q19_ok m y.B y.D) fun K=>
.ite (bif (decide (K<0)) then ((m.L.length:Int)==60) else false) (
.reg 7 [] [H] [.pf z1v]<|
.r (u,3)) (
.call (@F_q2j_ok m y.B y.D) fun Q M=>
.call (@F_q43_ok Q (⟨0,0,y.B,y.D,y.A,y.Ae,0,0⟩:TMe)) fun v N=>
.reg 8 [19,20] [(5,hc M [] true),(15,hc N [] true)] [.cl 1 M [] 3 true,.cl 1 M [] 4 true,.cl 0 N [] 3 true,.cl 0 N [] 4 true]<|
.ite (v.2 != 0) (
.reg 10 [] [H] [.pf z1v]<|
.r (u,v.2)) (
.guard [m.L.length * (2 * 48)<=2 ^ 48]<|
.reg 11 [] [(3,{ h:=.obj })] [.pf (p:=∀ k,k<m.L.length->(TRi.d (m.L.getD k dF)).wd=5) (fun _ _=>rfl),.ev 0]<|
 let z:=(TRi.b v.1)
 let C:=(TOf.b m)
 let E:=(TOp.b y)
.cut none [2,4,7] (fun (f:(List TRi)×Int)=>[(6,(vi f.2)),(9,(Rb 4 f.1.length 0 f.1.length))]) (fun f=>[(4,(eS 5 TRi.e f.1))]) (
.ite (decide (K<0)) (
.iter [2,4,7,9] (fun (g:Int)=>[(6,(vi g))]) (fun _=>[]) 0 (S_q1x_b1 m v) (fun g =>
.guard [(m.L.length+1) * (2 * 48)<=2 ^ 48]<|
 let R:=(⟨[],0,0,0,0⟩:TRi)
 let F:=([R]:List TRi)
 let c:=(m.L++F)
 let I:=(Rb 4 c.length 0 c.length)
.reg 18 [] [(2,hv (AV.d (eL TRi.e F))),(3,{ h:=.obj,cast:=some I,obs:=[(4,(eS 5 TRi.e c))] })] [.pf (z9 TRi.e F),.e m.L.length,.e m.L.length,.pf zwo,.ev 0,.pf (zw (o:=4) (l:=m.L) (x:=F)),.pf (zy (sz:=5) (e:=TRi.e) (l:=m.L) (x:=F))]<|
 let J:=(i64.wrap (g+1))
 let j:=J
.guard [(0:Int)<=J,j.toNat<=c.length,(0:Int)<=g,g.toNat<=c.length]<|
 let n:=(0+g.toNat)
 let q:=(0+j.toNat)
.reg 19 [7] [(7,{ obs:=[(4,(eS 5 TRi.e (copyL c q (min (c.length-g.toNat) (c.length-j.toNat)) (fun i=>(c.getD (n+i) dF)))))] })] [.ev 0,.ev 1,.e c.length,.ev 2,.ev 3,.e c.length,.e c.length,.e c.length,.pf (p:=∀ k,k<(c.length-g.toNat)->(TRi.d (c.getD (n+k) dF)).wd=5) (fun _ _=>rfl),.pf (z9i (sz:=5) (e:=TRi.e) (l:=c) (off:=q) (k:=(min (c.length-g.toNat) (c.length-j.toNat))) (s:=(fun i=>(c.getD (n+i) dF))))]<|
.cst (A:=True) (.pf trivial) [(2,(vp 0)),(4,(vp 2)),(6,(vi g)),(7,(vp 3)),(9,I)] [(2,(vp 0)),(4,(vp 2)),(6,(vi g)),(7,(vp 3)),(9,(Rb 4 ((copyL c q (min (c.length-g.toNat) (c.length-j.toNat)) (fun i=>(c.getD (n+i) dF))).length) 0 ((copyL c q (min (c.length-g.toNat) (c.length-j.toNat)) (fun i=>(c.getD (n+i) dF))).length)))] [C,E,t,z,(eS 5 TRi.e (copyL c q (min (c.length-g.toNat) (c.length-j.toNat)) (fun i=>(c.getD (n+i) dF))))] [C,E,t,z,(eS 5 TRi.e (copyL c q (min (c.length-g.toNat) (c.length-j.toNat)) (fun i=>(c.getD (n+i) dF))))] (fun _=>⟨by simp +zetaDelta only[zp],by rfl⟩)<|
.r (.next ((copyL c q (min (c.length-g.toNat) (c.length-j.toNat)) (fun i=>(c.getD (n+i) dF))),g))) .ret) (
.r (.next (m.L,K)))) fun f=>
 let G:=(0+f.2.toNat)
.guard [(0:Int)<=f.2,f.2.toNat<f.1.length,G<f.1.length]<|
 let w:=(f.1.set G v.1)
.reg 20 [] [(4,{ obs:=[(4,(eS 5 TRi.e w))] })] [.e f.1.length,.ev 0,.ev 1,.e f.1.length,.ev 2,.pf (zk (sz:=5) (e:=TRi.e) (l:=f.1) (i:=G) (x:=v.1) (fun _=>rfl))]<|
 let O:=[C,E,t,z,(eS 5 TRi.e w)]
.cst (A:=True) (.pf trivial) [(2,(vp 0)),(4,(vp 2)),(9,(Rb 4 f.1.length 0 f.1.length))] [(2,(vp 0)),(4,(vp 2)),(9,(Rb 4 w.length 0 w.length))] O O (fun _=>⟨Zb,by rfl⟩)<|
.guard [w.length<2 ^ 63]<|
.reg 22 [] [] []<|
.frz 4 (.ev 0) none [] [0,2]<|
.r ((⟨m.S,w,m.Ag⟩:TOf),0)))))
def F_q1x (a:TOf) (b:TOp):=(S_q1x a b).den
theorem F_q1x_ok {a:TOf} {b:TOp}:FO (F_q1x a b) 168 [(TOf.d a),(TOp.d b)] [] (fun x=>(Rg [(TOf.d x.1),(vi x.2)])) NL:=fO (s:=S_q1x a b) Tryz.func168
def S_q5q (b:TRi) (f:Int) (e:Int):SC (TRi×Int) (TRi×Int) :=
.a 1 1 2 (@F_q3l_ok b) fun g=>
 let c:=(⟨[],0,0,0,0⟩:TRi)
 let d:=(i64.wrap (b.A-b.Q))
.ite (cO (cO (!g) (decide (f<0))) (decide (f>d))) (
.r (c,1)) (
.ite (cO (decide (e<1)) (decide (e>1000000000000000))) (
.r (c,2)) (
.ite (decide (e>(i64.wrap (d-f)))) (
.r (c,15)) (
.r ((⟨b.B,b.D,b.A,b.F,(i64.wrap (b.Q+e))⟩:TRi),0))))
def F_q5q (a:TRi) (b:Int) (c:Int):=(S_q5q a b c).den
theorem F_q5q_ok {a:TRi} {b:Int} {c:Int}:FO (F_q5q a b c) 169 [(TRi.d a),(vi b),(vi c)] [] (fun x=>(Rg [(TRi.d x.1),(vi x.2)])) NL:=fO (s:=S_q5q a b c) Tryz.func169
def S_q4m (f:TOf) (c:TOp):SC (TOf×Int) (TOf×Int) :=
 let F:=(⟨[],[],[],[]⟩:TBo)
 let n:=(⟨0,[],F⟩:TOf)
 let z:=(TOf.b n)
.reg 0 [] [(2,{ obs:=[(2,z)] })] [.pf z18]<|
.a 1 1 3 (@F_ql_ok f) fun P=>
 let u:=(0,hv (TOf.d n))
.ite (!P) (
.reg 2 [] [u] [.pf z1v]<|
.r (n,1)) (
.reg 3 [] [(2,{ obs:=[(3,(TBo.b F))] })] [.pf z2l]<|
.cut (some 0) [2,4,6] (fun (m:TBo×Int)=>[(7,(vi m.2))]) (fun m=>[(3,(TBo.b m.1))]) (
.ite (c.U==1) (
.a 7 10 4 (@F_q5j_ok f.Ag c.B c.D c.Ab c.V) fun o=>
.calld [(o.2==0)=true] dF (@F_q4l_ok f c.B c.D) fun Q G =>
.reg 8 [] [(10,hc G [] true)] [.clg 0 [(o.2==0)=true] G [] 4 true]<|
.ite (bif (o.2==0) then (decide (c.V>Q)) else false) (
.r (.next (o.1,15))) (
.r (.next (o.1,o.2)))) (
.ite (c.U==2) (
.a 11 12 4 (@F_q5k_ok f.Ag c.Of c.Ab c.V c.Ah c.Ai) fun H=>
.r (.next (H.1,H.2))) (
.ite (c.U==3) (
.a 13 8 4 (@F_q5l_ok f.Ag c.Of c.Ab c.V) fun I=>
.r (.next (I.1,I.2))) (
.ite (c.U==4) (
.a 15 6 4 (@F_q5m_ok f.Ag c.Of c.Ab) fun J=>
.r (.next (J.1,J.2))) (
.ite (c.U==5) (
.a 17 6 4 (@F_q5n_ok f.Ag c.Of c.V) fun K=>
.r (.next (K.1,K.2))) (
.ite (c.U==6) (
.a 19 6 4 (@F_q5o_ok f.Ag c.Of c.V) fun M=>
.r (.next (M.1,M.2))) (
.ite (c.U==9) (
.a 21 4 4 (@F_q5p_ok f.Ag c.Of) fun w=>
.r (.next (w.1,w.2))) (
.ite (c.U==8) (
.a 23 2 4 (@F_q1x_ok f c) fun y=>
.r (.ret (y.1,y.2))) (
.ite (c.U==7) (
.a 25 5 4 (@F_q19_ok f c.B c.D) fun j=>
.ite (decide (j<0)) (
.reg 27 [] [u] [.pf z1v]<|
.r (.ret (n,6))) (
.call (@F_qp_ok f.Ag c.B c.D) fun N q=>
.call (@F_q5q_ok (f.L.getD j.toNat dF) N c.V) fun g s=>
.guard [(0:Int)<=j,j.toNat<f.L.length]<|
.reg 28 [18,19] [(11,hc q [] true),(14,hc s [] true)] [.ev 0,.ev 1,.ev 0,.ev 1,.cl 3 q [] 4 true,.cl 3 q [] 5 true,.cl 2 s [] 4 true,.cl 2 s [] 5 true]<|
.ite (g.2 != 0) (
.reg 30 [] [u] [.pf z1v]<|
.r (.ret (n,g.2))) (
.guard [f.L.length * (2 * 48)<=2 ^ 48]<|
.reg 31 [] [(3,{ h:=.obj })] [.pf (p:=∀ k,k<f.L.length->(TRi.d (f.L.getD k dF)).wd=5) (fun _ _=>rfl),.ev 0]<|
 let C:=(0+j.toNat)
.guard [C<f.L.length]<|
 let t:=(f.L.set C g.1)
 let E:=(eS 5 TRi.e t)
.reg 32 [] [(5,{ obs:=[(5,E)] })] [.e f.L.length,.ev 3,.ev 4,.e f.L.length,.ev 0,.pf (zk (sz:=5) (e:=TRi.e) (l:=f.L) (i:=C) (x:=g.1) (fun _=>rfl))]<|
 let v:=(TBo.e f.Ag)
 let O:=[(2,(vp 0)),(4,(vp 2))]
.cst (A:=True) (.pf trivial) O O [(Rd (Rc [(vi f.S),(Rb 5 f.L.length 0 f.L.length),(AV.d v)])),(TOp.b c),z,(bx v),(TRi.b g.1),E] [(Rd (Rc [(vi f.S),(Rb 5 t.length 0 t.length),(AV.d v)])),(TOp.b c),z,(bx v),(TRi.b g.1),E] (fun _=>⟨Zd,Zb⟩)<|
.guard [t.length<2 ^ 63]<|
.reg 33 [] [] []<|
.frz 5 (.ev 0) none [] [0,2]<|
.r (.ret ((⟨f.S,t,f.Ag⟩:TOf),0))))) (
.r (.next (f.Ag,1)))))))))))) fun m=>
.ite (m.2 != 0) (
.reg 35 [] [u] [.pf z1v]<|
.r (n,m.2)) (
.r ((⟨f.S,f.L,m.1⟩:TOf),0)))
def F_q4m (a:TOf) (b:TOp):=(S_q4m a b).den
theorem F_q4m_ok {a:TOf} {b:TOp}:FO (F_q4m a b) 120 [(TOf.d a),(TOp.d b)] [] (fun x=>(Rg [(TOf.d x.1),(vi x.2)])) NL:=fO (s:=S_q4m a b) Tryz.func120
abbrev R_q5:=TOf×TOf×Bool
def S_q5_b1 (k:TJo) (e:Nat) (f:TOf×TOf×Int):SC R_q5 (Step (TOf×TOf×Int) R_q5) :=
.reg 7 [] [] [.w e,.ev 0]<|
 let g:=(f.2.2 != 0)
 let h:=(k.N.getD e dF)
.calld [g=false] dF (@F_qj_ok h) fun j i =>
.reg 8 [] [(4,hc i [] true)] [.clg 0 [g=false] i [] 6 true]<|
.ite (cO g (!j)) (
 let c:=(⟨0,[],(⟨[],[],[],[]⟩:TBo)⟩:TOf)
.reg 9 [] [(0,hv (TOf.d c)),(1,hv (TOf.d c))] [.pf z1v,.pf z1v]<|
.r (.ret (c,c,false))) (
.a 10 2 6 (@F_q4m_ok f.1 h) fun b=>
.ite (decide ((e:Int)<k.Af)) (
.r (.cont (b.1,b.1,b.2))) (
.r (.cont (b.1,f.2.1,b.2))))
def S_q5 (f:TJo):SC R_q5 R_q5 :=
 let c:=(⟨0,[],(⟨[],[],[],[]⟩:TBo)⟩:TOf)
 let e:=(TOf.b c)
.reg 0 [] [(1,{ obs:=[(1,e)] }),(2,{ obs:=[(2,e)] })] [.pf z18,.pf z18]<|
.ite (cO (cO (decide ((f.N.length:Int)>400)) (decide (f.Af<0))) (decide (f.Af>(f.N.length:Int)))) (
.reg 2 [] [(0,hv (TOf.d c)),(1,hv (TOf.d c))] [.pf z1v,.pf z1v]<|
.r (c,c,false)) (
.call (@F_q42_ok f.Z) fun g h=>
.reg 3 [] [(2,hc h [] true),(6,{ obs:=[(3,e)] })] [.cl 0 h [] 3 true,.pf z18]<|
.reg 4 [] [(1,{ obs:=[(4,e)] })] [.pf z18]<|
.range (f.N.length:Int) f.N.length rfl (.slot 37) 39 [1,2,3,5,7,37,38] (fun (a:TOf×TOf×Int)=>[(6,(vi a.2.2))]) (fun a=>[(3,(TOf.b a.1)),(4,(TOf.b a.2.1))]) (g.1,g.1,g.2) (S_q5_b1 f) (fun a => 
.reg 14 [4,5] [] []<|
.r (a.1,a.2.1,(a.2.2==0))) id)
def F_q5 (a:TJo):=(S_q5 a).den
theorem F_q5_ok {a:TJo}:FO (F_q5 a) 64 [(TJo.d a)] [] (fun x=>(Rg [(TOf.d x.1),(TOf.d x.2.1),(vb x.2.2)])) NL:=fO (s:=S_q5 a) Tryz.func64
def S_q1y_b1 (d:TTr) (e:Y8) (f:Int) (a:Nat) (_:Unit):SC Int (Step Unit Int) :=
.reg 3 [] [(3,{ obs:=[(1,(TPo.b (⟨[],0,0,[],[],[],[]⟩:TPo)))] })] [.w a,.ev 0,.pf cz1]<|
 let c:=(d.E.getD a dF)
.ite (bif (c.B==e) then (c.D==f) else false) (
.r (.ret (a:Int))) (
.r (.cont ()))
def S_q1y (a:TTr) (b:Y8) (c:Int):SC Int Int :=
.range (a.E.length:Int) a.E.length rfl (.slot 10) 12 [1,2,10,11] (fun (_:Unit)=>[]) (fun _=>[]) () (S_q1y_b1 a b c) (fun _ => 
.r (-1)) id
def F_q1y (a:TTr) (b:Y8) (c:Int):=(S_q1y a b c).den
theorem F_q1y_ok {a:TTr} {b:Y8} {c:Int}:FO (F_q1y a b c) 62 [(TTr.d a),(AV.d (Rf b)),(vi c)] [] vi NL:=fO (s:=S_q1y a b c) Tryz.func62
def S_q2y (f:TTr) (g:Y8) (h:Int):SC (TPo×Bool) (TPo×Bool) :=
 let e:=(⟨[],0,0,[],[],[],[]⟩:TPo)
.reg 0 [] [(1,{ obs:=[(1,(TPo.b e))] })] [.pf cz1]<|
.a 1 3 2 (@F_q1y_ok f g h) fun c=>
.ite (decide (c>=0)) (
.guard [(0:Int)<=c,c.toNat<f.E.length]<|
.reg 3 [] [] [.ev 0,.ev 1]<|
.r ((f.E.getD c.toNat dF),true)) (
.reg 4 [] [(0,hv (TPo.d e))] [.pf cz6]<|
.r (e,false))
def F_q2y (a:TTr) (b:Y8) (c:Int):=(S_q2y a b c).den
theorem F_q2y_ok {a:TTr} {b:Y8} {c:Int}:FO (F_q2y a b c) 29 [(TTr.d a),(AV.d (Rf b)),(vi c)] [] (fun x=>(Rg [(TPo.d x.1),(vb x.2)])) NL:=fO (s:=S_q2y a b c) Tryz.func29
def S_q2z (m:TWo) (a:TMe) (f:(List TOf)):SC Bool Bool :=
.call (@F_q2y_ok m.I a.B a.D) fun e j=>
.reg 1 [] [(6,hc j [] true),(10,{ obs:=[(3,(TPo.b (⟨[],0,0,[],[],[],[]⟩:TPo)))] })] [.cl 0 j [] 3 true,.pf cz1]<|
.ite (!e.2) (
.r false) (
.ite (a.Aa==0) (
.ite (cO (cO (cO (decide (a.To<1)) (decide (a.To>(f.length:Int)))) (a.Q != 0)) (a.M != 0)) (
.r false) (
 let d:=(i64.wrap (a.To-1))
 let h:=(decide (a.A>=0))
 let i:=(bif (bif h then (decide (a.A<=(e.1.A.getD d.toNat dF))) else false) then (decide (a.F>=0)) else false)
.guard [AllP [h=true]->((0:Int)<=d),AllP [h=true]->(d.toNat<e.1.A.length),AllP [i=true]->((0:Int)<=d),AllP [i=true]->(d.toNat<e.1.F.length)]<|
.reg 7 [] [] [.ev 0,.ev 1,.ev 2,.ev 3]<|
.r (bif i then (decide (a.F<=(e.1.F.getD d.toNat dF))) else false))) (
.ite (cO (cO (cO (cO (cO (cO (a.To != 0) (decide (a.Aa<1))) (decide (a.Aa>(f.length:Int)))) (a.A != 0)) (a.F != 0)) (decide (a.M<0))) (decide (a.M>1000000000000000))) (
.r false) (
 let c:=(decide (a.Q>=0))
 let g:=(i64.wrap (a.Aa-1))
.calld [c=true] dF (@F_q2j_ok (f.getD (0+g.toNat) dF) a.B a.D) fun l k =>
.guard [AllP [c=true]->((0:Int)<=g),AllP [c=true]->(g.toNat<f.length),AllP [c=true]->((0+g.toNat)<f.length)]<|
.reg 10 [] [(16,hc k [] true)] [.pf (p:=AllP [c=true]->(f.length=f.length)) (fun _=>rfl),.ev 0,.ev 1,.pf (p:=AllP [c=true]->(f.length=f.length)) (fun _=>rfl),.ev 2,.clg 3 [c=true] k [] 4 true]<|
.r (bif c then (decide (a.Q<=l.Q)) else false))))
def F_q2z (a:TWo) (b:TMe) (c:(List TOf)):=(S_q2z a b c).den
theorem F_q2z_ok {b:TWo} {c:TMe} {a:(List TOf)}:FO (F_q2z b c a) 66 [(TWo.d b),(Rb 0 a.length 0 a.length),(TMe.d c)] [(eS 6 TOf.e a)] vb (fun _=>[(eS 6 TOf.e a)]):=fO (s:=S_q2z b c a) Tryz.func66
def S_q0_b1 (i:TWo) (c:Nat) (h:R_q5) (f:Nat) (_:Unit):SC Bool (Step Unit Bool) :=
.reg 15 [] [] [.w f,.ev 0]<|
 let d:=(h.1.L.getD f dF)
.call (@F_q2y_ok i.I d.B d.D) fun a g=>
.reg 16 [] [(6,hc g [] true),(10,{ obs:=[(6,(TPo.b (⟨[],0,0,[],[],[],[]⟩:TPo)))] })] [.cl 0 g [] 6 true,.pf cz1]<|
 let e:=(cO (!a.2) (decide (d.A>(a.1.A.getD c dF))))
.guard [AllP [(!a.2)=false]->(c<a.1.A.length),AllP [e=false]->(c<a.1.F.length)]<|
.reg 17 [] [] [.pf (p:=AllP [(!a.2)=false]->((0:Int)<=(c:Int))) (fun _=>(y1z _)),.ev 0,.pf (p:=AllP [e=false]->((0:Int)<=(c:Int))) (fun _=>(y1z _)),.ev 1]<|
.ite (cO e (decide (d.F>(a.1.F.getD c dF)))) (
.r (.ret false)) (
.r (.cont ()))
def S_q0_b2 (h:TWo) (c:Nat) (f:R_q5) (d:Nat) (_:Unit):SC Bool (Step Unit Bool) :=
.reg 22 [] [(2,{ obs:=[(5,(TPo.b (⟨[],0,0,[],[],[],[]⟩:TPo)))] })] [.w d,.ev 0,.pf cz1]<|
 let a:=(h.I.E.getD d dF)
.call (@F_q2j_ok f.2.1 a.B a.D) fun g e=>
.guard [c<a.G.length]<|
.reg 23 [] [(10,hc e [] true)] [.w c,.ev 0,.cl 1 e [] 6 true]<|
.ite (decide ((a.G.getD c dF)>g.Q)) (
.r (.ret false)) (
.r (.cont ()))
def S_q0_b3 (i:TWo) (g:Nat) (a:(List TOf)):SC Bool (Step ((List TOf)) Bool) :=
.reg 6 [] [(3,{ obs:=[(2,(TJo.b (⟨0,[],0⟩:TJo)))] })] [.w g,.ev 0,.pf cz2]<|
 let j:=(i.K.getD g dF)
.ite (j.Z != (i64.wrap ((g:Int)+1))) (
.r (.ret false)) (
.call (@F_q5_ok j) fun f m=>
 let n:=(TOf.b (⟨0,[],(⟨[],[],[],[]⟩:TBo)⟩:TOf))
.reg 9 [] [(1,hc m [] true),(6,{ obs:=[(3,n)] }),(7,{ obs:=[(4,n)] })] [.cl 0 m [] 3 true,.pf z18,.pf z18]<|
.ite (!f.2.2) (
.r (.ret false)) (
.guard [(a.length+1) * (2 * 128)<=2 ^ 48]<|
 let c:=([f.2.1]:List TOf)
.reg 12 [] [(2,hv (AV.d (eL TOf.e c))),(3,{ h:=.obj,cast:=some (Rb 1 ((a++c).length) 0 ((a++c).length)),obs:=[(1,(eS 6 TOf.e (a++c)))] })] [.pf (z9 TOf.e c),.e a.length,.e a.length,.pf (p:=∀ k,k<1->(TOf.d (c.getD k dF)).wd=6) (fun _ _=>rfl),.ev 0,.pf (zw (o:=1) (l:=a) (x:=c)),.pf (zy (sz:=6) (e:=TOf.e) (l:=a) (x:=c))]<|
.range (f.1.L.length:Int) f.1.L.length rfl (.slot 62) 64 [1,3,4,7,37,38,39,62,63] (fun (_:Unit)=>[]) (fun _=>[]) () (S_q0_b1 i g f) (fun _ => 
.range (i.I.E.length:Int) i.I.E.length rfl (.slot 103) 105 [1,3,4,7,37,38,39,103,104] (fun (_:Unit)=>[]) (fun _=>[]) () (S_q0_b2 i g f) (fun _ => 
.r (.cont (a++c))) .ret) .ret))
def S_q0_b4 (e:TWo) (b:(List TOf)) (a:Nat) (_:Unit):SC Bool (Step Unit Bool) :=
.reg 29 [] [] [.w a,.ev 0]<|
.call (@F_q2z_ok e (e.O.getD a dF) b) fun c d=>
.k 30 3 d [1] 3 true<|
.ite (!c) (
.r (.ret false)) (
.r (.cont ()))
def S_q0 (c:TWo):SC Bool Bool :=
.a 1 2 1 (@F_q15_ok c.I) fun f=>
.ite (cO (cO (!f) ((c.K.length:Int) != c.I.P)) (decide ((c.O.length:Int)>200))) (
.r false) (
.reg 4 [] [] []<|
.bor 6 (fun j=>AV.d (TOf.e (([]:List TOf).getD j dF))) [3]<|
.range (c.K.length:Int) c.K.length rfl (.slot 37) 39 [1,37,38] (fun (b:(List TOf))=>[(3,(Rb 1 b.length 0 b.length))]) (fun b=>[(1,(eS 6 TOf.e b))]) ([]:List TOf) (S_q0_b3 c) (fun b => 
.range (c.O.length:Int) c.O.length rfl (.slot 125) 127 [1,3,125,126] (fun (_:Unit)=>[]) (fun _=>[]) () (S_q0_b4 c b) (fun _ => 
.r true) id) id)
def F_q0 (a:TWo):=(S_q0 a).den
theorem F_q0_ok {a:TWo}:FO (F_q0 a) 30 [(TWo.d a)] [] vb NL:=fO (s:=S_q0 a) Tryz.func30
def S_q3b (b:TWo) (a:Int):SC Bool Bool :=
.r (bif (decide (a>=1)) then (decide (a<=(b.K.length:Int))) else false)
def F_q3b (a:TWo) (b:Int):=(S_q3b a b).den
theorem F_q3b_ok {a:TWo} {b:Int}:FO (F_q3b a b) 99 [(TWo.d a),(vi b)] [] vb NL:=fO (s:=S_q3b a b) Tryz.func99
def S_q44 (g:TJo):SC (TOf×Int) (TOf×Int) :=
 let a:=(⟨0,[],(⟨[],[],[],[]⟩:TBo)⟩:TOf)
 let c:=(TOf.b a)
.reg 0 [] [(1,{ obs:=[(1,c)] })] [.pf z18]<|
.call (@F_q5_ok g) fun e f=>
.reg 1 [] [(1,hc f [] true),(6,{ obs:=[(2,c)] }),(7,{ obs:=[(3,c)] })] [.cl 0 f [] 2 true,.pf z18,.pf z18]<|
.ite (!e.2.2) (
.reg 3 [] [(0,hv (TOf.d a))] [.pf z1v]<|
.r (a,1)) (
.r (e.1,0))
def F_q44 (a:TJo):=(S_q44 a).den
theorem F_q44_ok {a:TJo}:FO (F_q44 a) 122 [(TJo.d a)] [] (fun x=>(Rg [(TOf.d x.1),(vi x.2)])) NL:=fO (s:=S_q44 a) Tryz.func122
def S_q3c (i:TWo) (l:Int):SC (TOf×Int) (TOf×Int) :=
 let c:=(⟨0,[],(⟨[],[],[],[]⟩:TBo)⟩:TOf)
.reg 0 [] [(1,{ obs:=[(1,(TOf.b c))] })] [.pf z18]<|
.a 1 1 2 (@F_q0_ok i) fun j=>
 let f:=(0,hv (TOf.d c))
.ite (!j) (
.reg 2 [] [f] [.pf z1v]<|
.r (c,1)) (
.a 3 2 2 (@F_q3b_ok i l) fun k=>
.ite (!k) (
.reg 4 [] [f] [.pf z1v]<|
.r (c,6)) (
 let e:=(i64.wrap (l-1))
.call (@F_q44_ok (i.K.getD e.toNat dF)) fun g h=>
.guard [(0:Int)<=e,e.toNat<i.K.length]<|
.reg 5 [] [(6,hc h [] true)] [.ev 0,.ev 1,.cl 2 h [] 2 true]<|
.r (g.1,g.2)))
def F_q3c (a:TWo) (b:Int):=(S_q3c a b).den
theorem F_q3c_ok {a:TWo} {b:Int}:FO (F_q3c a b) 74 [(TWo.d a),(vi b)] [] (fun x=>(Rg [(TOf.d x.1),(vi x.2)])) NL:=fO (s:=S_q3c a b) Tryz.func74
abbrev R_q5r:=Y8×TTape
def S_q5r (c:TTape):SC R_q5r R_q5r :=
.call (@F_q2_ok 3 c) fun a b=>
.guard [(0:Int)<=a.1,a.1.toNat<3]<|
.reg 1 [] [(0,hv (AV.d (eL Rf ([[49],[49,46,50],[50]]:List Y8)))),(2,hc b [0] false)] [.pf (z9 Rf ([[49],[49,46,50],[50]]:List Y8)),.cl 2 b [0] 1 false,.ev 0,.ev 1]<|
.r ((([[49],[49,46,50],[50]]:List Y8).getD a.1.toNat dF),a.2)
def F_q5r (a:TTape):=(S_q5r a).den
theorem F_q5r_ok {a:TTape}:FO (F_q5r a) 186 [(vp 0)] [(TTape.b a)] (fun x=>(AV.d (Rf x.1))) (fun x=>[(TTape.b x.2)]):=fO (s:=S_q5r a) Tryz.func186
end
end Go.Proofs.YtgbpiaddmclccaaGreatDoor
/- What the functions compute,and that their calls return it. No condition. -/
namespace Go.Proofs.YtgbpiaddmclccaaGreatDoor
open Go Go.TA
open Go.IntKind (i64)
noncomputable section
set_option maxRecDepth 100000
abbrev R_q3m:=TOp×TTape
def S_q3m (L:TOf) (z:Int) (Y:TTape):SC R_q3m R_q3m :=
.call (@F_q8_ok ([1,1,1,2,2,2,3,3,3,4,4,5,6,7,8,8,9]:List Int) Y) fun a M=>
.call (@F_q5r_ok a.2) fun f N=>
.call (@F_q1g_ok 1 120 f.2) fun O P=>
 let E:=([10,50,O.1]:List Int)
.call (@F_q8_ok E O.2) fun d Q=>
.reg 1 [] [(1,hv (vl ([1,1,1,2,2,2,3,3,3,4,4,5,6,7,8,8,9]:List Int))),(2,hc M [0] false),(4,hc N [0] false),(10,hc P [0] false),(11,hv (vl E)),(12,hc Q [0] false)] [.pf (z9 Ra ([1,1,1,2,2,2,3,3,3,4,4,5,6,7,8,8,9]:List Int)),.cl 3 M [0] 3 false,.cl 2 N [0] 3 false,.pf (p:=(360:Int)≠0) dk,.cl 1 P [0] 3 false,.pf (z9 Ra E),.cl 0 Q [0] 3 false]<|
.cut (some 0) [0,2,6,7] (fun (_:TTape×TOp)=>[]) (fun c=>[(0,(TTape.b c.1)),(3,(TOp.b c.2))]) (
.cut none [0,2,4,6,7,23] (fun (F:Bool)=>[(24,(vb F))]) (fun _=>[]) (
.ite (a.1==2) (
.r (.next (a.1==2))) (
.r (.next (a.1==5)))) fun F=>
 let g:=(i64.wrap (z.tdiv 360))
.ite F (
.call (@F_q1g_ok 1 (if (L.Ag.C.length:Int)>1 then (L.Ag.C.length:Int) else 1) d.2) fun R W=>
.k 5 6 W [0] 4 false<|
.r (.next (R.2,(⟨a.1,f.1,g,z,R.1,d.1,0,0,0,0⟩:TOp)))) (
.cut none [0,2,4,6,7,23] (fun (G:Bool)=>[(35,(vb G))]) (fun _=>[]) (
.ite (a.1==3) (
.r (.next (a.1==3))) (
.r (.next (a.1==6)))) fun G=>
.ite G (
.call (@F_q1g_ok 1 (if (L.Ag.H.length:Int)>1 then (L.Ag.H.length:Int) else 1) d.2) fun S X=>
.k 8 6 X [0] 4 false<|
.r (.next (S.2,(⟨a.1,f.1,g,z,S.1,d.1,0,0,0,0⟩:TOp)))) (
.cut none [0,2,4,6,7,23] (fun (h:Bool)=>[(46,(vb h))]) (fun _=>[]) (
.ite (a.1==4) (
.r (.next (a.1==4))) (
.r (.next (a.1==9)))) fun h=>
.ite h (
.call (@F_q1g_ok 1 (if (L.Ag.J.length:Int)>1 then (L.Ag.J.length:Int) else 1) d.2) fun j T=>
.k 11 6 T [0] 4 false<|
.r (.next (j.2,(⟨a.1,f.1,g,z,j.1,d.1,0,0,0,0⟩:TOp)))) (
.ite (a.1==8) (
.call (@F_q2_ok 1000 d.2) fun l m=>
 let I:=([100,400,l.1]:List Int)
.call (@F_q8_ok I l.2) fun n o=>
.call (@F_q2_ok 200 n.2) fun q s=>
 let K:=([0,0,q.1]:List Int)
.call (@F_q8_ok K q.2) fun t u=>
.reg 13 [] [(2,hc m [0] false),(3,hv (vl I)),(4,hc o [0] false),(7,hc s [0] false),(8,hv (vl K)),(9,hc u [0] false)] [.cl 3 m [0] 4 false,.pf (z9 Ra I),.cl 2 o [0] 4 false,.cl 1 s [0] 4 false,.pf (z9 Ra K),.cl 0 u [0] 4 false]<|
.r (.next (t.2,(⟨a.1,f.1,g,z,0,d.1,0,0,n.1,t.1⟩:TOp)))) (
.r (.next (d.2,(⟨a.1,f.1,g,z,0,d.1,0,0,0,0⟩:TOp)))))))) fun c=>
.cut none [6,7] (fun (_:TTape×TOp)=>[]) (fun e=>[(0,(TTape.b e.1)),(3,(TOp.b e.2))]) (
.ite (c.2.U==2) (
.call (@F_q1g_ok 1 4 c.1) fun v w=>
.call (@F_q2_ok 60 v.2) fun x y=>
.reg 15 [] [(1,hc w [0] false),(4,hc y [0] false)] [.cl 1 w [0] 4 false,.cl 0 y [0] 4 false]<|
.r (.next (x.2,(⟨c.2.U,c.2.B,c.2.D,c.2.Ab,c.2.Of,c.2.V,v.1,(i64.wrap (z+x.1)),c.2.A,c.2.Ae⟩:TOp)))) (
.r (.next (c.1,c.2)))) fun e=>
.r (e.2,e.1)
def F_q3m (a:TOf) (b:Int) (c:TTape):=(S_q3m a b c).den
theorem F_q3m_ok {a:TOf} {c:Int} {e:TTape}:FO (F_q3m a c e) 147 [(vp 0),(TOf.d a),(vi c)] [(TTape.b e)] (fun x=>(TOp.d x.1)) (fun x=>[(TTape.b x.2)]):=fO (s:=S_q3m a c e) Tryz.func147
def S_q5s (f:TOf) (g:Int) (h:TTape):SC (TOp×TTape) (TOp×TTape) :=
.call (@F_q3m_ok f g h) fun a e=>
.k 1 3 e [0] 3 false<|
.cut (some 0) [6,8] (fun (_:TOp)=>[]) (fun c=>[(4,(TOp.b c))]) (
.ite (a.1.U==1) (
.reg 6 [9,11,13,15] [] []<|
.r (.next (⟨a.1.U,a.1.B,a.1.D,a.1.Ab,0,a.1.V,0,0,0,0⟩:TOp))) (
.ite (a.1.U==2) (
.reg 8 [11,13,15,17,19] [] []<|
.r (.next (⟨a.1.U,[],0,a.1.Ab,a.1.Of,a.1.V,a.1.Ah,a.1.Ai,0,0⟩:TOp))) (
.ite (a.1.U==3) (
.reg 10 [7,9,11] [] []<|
.r (.next (⟨a.1.U,[],0,a.1.Ab,a.1.Of,a.1.V,0,0,0,0⟩:TOp))) (
.ite (a.1.U==4) (
.reg 12 [5,7] [] []<|
.r (.next (⟨a.1.U,[],0,a.1.Ab,a.1.Of,0,0,0,0,0⟩:TOp))) (
.cut none [6,7,8,17] (fun (d:Bool)=>[(71,(vb d))]) (fun _=>[]) (
.ite (a.1.U==5) (
.r (.next (a.1.U==5))) (
.r (.next (a.1.U==6)))) fun d=>
.ite d (
.reg 15 [5,7] [] []<|
.r (.next (⟨a.1.U,[],0,0,a.1.Of,a.1.V,0,0,0,0⟩:TOp))) (
.ite (a.1.U==7) (
.reg 17 [7,9,11] [] []<|
.r (.next (⟨a.1.U,a.1.B,a.1.D,0,0,a.1.V,0,0,0,0⟩:TOp))) (
.ite (a.1.U==8) (
.reg 19 [9,11,13,15] [] []<|
.r (.next (⟨a.1.U,a.1.B,a.1.D,0,0,0,0,0,a.1.A,a.1.Ae⟩:TOp))) (
.r (.next (⟨a.1.U,[],0,0,a.1.Of,0,0,0,0,0⟩:TOp)))))))))) fun c=>
.r (c,a.2)
def F_q5s (a:TOf) (b:Int) (c:TTape):=(S_q5s a b c).den
theorem F_q5s_ok {a:TOf} {c:Int} {e:TTape}:FO (F_q5s a c e) 93 [(vp 0),(TOf.d a),(vi c)] [(TTape.b e)] (fun x=>(TOp.d x.1)) (fun x=>[(TTape.b x.2)]):=fO (s:=S_q5s a c e) Tryz.func93
def S_q5t (b:TRi) (g:Int):SC Int Int :=
.a 1 1 1 (@F_q3l_ok b) fun h=>
 let c:=(i64.wrap (b.A-b.Q))
.ite (cO (cO (!h) (decide (g<0))) (decide (g>c))) (
.r 0) (
 let d:=(i64.wrap (b.F-b.Q))
 let e:=(i64.wrap (c-g))
 let f:=(if e<d then e else d)
.r (if f>0 then f else 0))
def F_q5t (a:TRi) (b:Int):=(S_q5t a b).den
theorem F_q5t_ok {a:TRi} {b:Int}:FO (F_q5t a b) 130 [(TRi.d a),(vi b)] [] vi NL:=fO (s:=S_q5t a b) Tryz.func130
def S_q4n (g:TOf) (h:Y8) (i:Int):SC (TOp×Bool) (TOp×Bool) :=
.a 1 1 2 (@F_ql_ok g) fun j=>
 let b:=(⟨0,[],0,0,0,0,0,0,0,0⟩:TOp)
.ite (!j) (
.r (b,false)) (
.call (@F_q2j_ok g h i) fun k c=>
.call (@F_qp_ok g.Ag h i) fun l d=>
.call (@F_q5t_ok k l) fun e f=>
.reg 3 [] [(3,hc c [] true),(8,hc d [] true),(9,hc f [] true)] [.cl 2 c [] 2 true,.cl 1 d [] 2 true,.cl 0 f [] 2 true]<|
.ite (e==0) (
.r (b,false)) (
.r ((⟨7,h,i,0,0,e,0,0,0,0⟩:TOp),true)))
def F_q4n (a:TOf) (b:Y8) (c:Int):=(S_q4n a b c).den
theorem F_q4n_ok {a:TOf} {b:Y8} {c:Int}:FO (F_q4n a b c) 75 [(TOf.d a),(AV.d (Rf b)),(vi c)] [] (fun x=>(Rg [(TOp.d x.1),(vb x.2)])) NL:=fO (s:=S_q4n a b c) Tryz.func75
abbrev R_q3n:=TSt×TTape
def S_q3n (Y:TWo) (a2:Int) (L:Int) (a4:Int) (p0:TTape):SC R_q3n R_q3n :=
.reg 0 [] [] []<|
 let f:=(DV.i .i64 0)
 let q:=(bx (DV.agg [f,f,(DV.agg [f,(Rf ([])),f,f,f,f,f,f,f,f]),(Rf ([])),f,f,f]))
 let M:=[(0,(vp 0)),(2,(vi a2)),(3,(vi L)),(4,(vi a4)),(6,(vp 1)),(10,(vp 2))]
 let s:=(TWo.b Y)
.sh (H:=NoH) (A:=True) (.pf trivial) M M [(TTape.b p0),s,q] [(TTape.b p0),s,q,Ob.unb] (fun _=>zoi) (z14 _)<|
.call (@F_q8_ok ([1,2,2,4,4,5,5,5,5,6,7,8,8,9,9,9,9,10,11,3]:List Int) p0) fun N C=>
.call (@F_q1g_ok 1 a2 N.2) fun P E=>
.call (@F_q2_ok 2 P.2) fun t F=>
.call (@F_q1g_ok 1 200 t.2) fun G I=>
.call (@F_q2_ok (if (Y.O.length:Int)>1 then (Y.O.length:Int) else 1) G.2) fun u J=>
.guard [(0:Int)<=t.1,t.1.toNat<2]<|
.reg 1 [2,5,8,12,18,20,21] [(1,hv (vl ([1,2,2,4,4,5,5,5,5,6,7,8,8,9,9,9,9,10,11,3]:List Int))),(2,hc C [0] false),(5,hc E [0] false),(6,hv (AV.d (eL Rf ([[49],[50]]:List Y8)))),(8,hc F [0] false),(12,hc I [0] false),(18,hc J [0] false),(20,{ h:=.born 3 false })] [.pf (z9 Ra ([1,2,2,4,4,5,5,5,5,6,7,8,8,9,9,9,9,10,11,3]:List Int)),.pf (z9 Ra ([1,2,2,4,4,5,5,5,5,6,7,8,8,9,9,9,9,10,11,3]:List Int)),.cl 6 C [0] 4 false,.cl 6 C [0] 4 false,.cl 5 E [0] 4 false,.cl 5 E [0] 4 false,.pf (z9 Rf ([[49],[50]]:List Y8)),.pf (z9 Rf ([[49],[50]]:List Y8)),.pf (z9 Rf ([[49],[50]]:List Y8)),.pf (z9 Rf ([[49],[50]]:List Y8)),.pf (z9 Rf ([[49],[50]]:List Y8)),.pf (z9 Rf ([[49],[50]]:List Y8)),.pf (z9 Rf ([[49],[50]]:List Y8)),.pf (z9 Rf ([[49],[50]]:List Y8)),.pf (z9 Rf ([[49],[50]]:List Y8)),.pf (z9 Rf ([[49],[50]]:List Y8)),.pf (z9 Rf ([[49],[50]]:List Y8)),.pf (z9 Rf ([[49],[50]]:List Y8)),.cl 4 F [0] 4 false,.cl 4 F [0] 4 false,.ev 0,.ev 1,.ev 0,.ev 1,.ev 0,.ev 1,.ev 0,.ev 1,.ev 0,.ev 1,.ev 0,.ev 1,.cl 3 I [0] 4 false,.cl 3 I [0] 4 false,.cl 2 J [0] 4 false,.cl 2 J [0] 4 false]<|
.cut none [0,3,4,6,10,11] (fun (_:TSt)=>[]) (fun n=>[(3,(TSt.b n))]) (
 let Q:=(⟨0,[],0,0,0,0,0,0,0,0⟩:TOp)
.ite (decide (L<3)) (
.guard [(0:Int)<=L,L.toNat<3]<|
.reg 3 [] [(0,hv (vl ([1,2,4]:List Int)))] [.pf (z9 Ra ([1,2,4]:List Int)),.ev 0,.ev 1]<|
.r (.next (⟨(([1,2,4]:List Int).getD L.toNat dF),1,Q,[49],12,G.1,u.1⟩:TSt))) (
.r (.next (⟨N.1,P.1,Q,(([[49],[50]]:List Y8).getD t.1.toNat dF),12,G.1,u.1⟩:TSt)))) fun n=>
.cut none [0,4,6,10,11] (fun (_:TSt)=>[]) (fun j=>[(3,(TSt.b j))]) (
.ite (L==3) (
.r (.next (⟨9,n.Z,n.Op,n.B,n.D,n.V,0⟩:TSt))) (
.r (.next n))) fun j=>
.cut none [0,4,6,10,11] (fun (_:TTape×TSt)=>[]) (fun c=>[(0,(TTape.b c.1)),(3,(TSt.b c.2))]) (
.ite (j.U==1) (
.call (@F_q2_ok 900 u.2) fun R S=>
 let K:=([300,R.1,50]:List Int)
.call (@F_q8_ok K R.2) fun v w=>
.reg 7 [] [(2,hc S [0] false),(3,hv (vl K)),(4,hc w [0] false)] [.cl 1 S [0] 4 false,.pf (z9 Ra K),.cl 0 w [0] 4 false]<|
.r (.next (v.2,(⟨j.U,j.Z,j.Op,j.B,j.D,v.1,j.Aj⟩:TSt)))) (
.r (.next (u.2,j)))) fun c=>
.cut none [10,11] (fun (_:TTape×TSt)=>[]) (fun o=>[(0,(TTape.b o.1)),(3,(TSt.b o.2))]) (
.ite (c.2.U==5) (
.call (@F_q3c_ok Y c.2.Z) fun x y=>
.reg 9 [] [(3,hc y [] true),(7,{ obs:=[(4,(TOf.b (⟨0,[],(⟨[],[],[],[]⟩:TBo)⟩:TOf)))] })] [.cl 0 y [] 4 true,.pf z18]<|
.cut none [0,4,10,11,12] (fun (_:TOf)=>[]) (fun l=>[(4,(TOf.b l))]) (
.ite (x.2 != 0) (
.a 11 2 5 (@F_q42_ok c.2.Z) fun T=>
.r (.next T.1)) (
.r (.next x.1))) fun l=>
.call (@F_q5s_ok l a4 c.1) fun m W=>
.k 12 3 W [0] 5 false<|
.a 13 5 5 (@F_q4n_ok l c.2.B c.2.D) fun g=>
.calld [g.2=true] (dF,m.2) (@F_q2_ok 3 m.2) fun p z =>
 let X:=(bx (DV.agg [(DV.i .i64 c.2.U),(DV.i .i64 c.2.Z),(TOp.e m.1),(Rf c.2.B),(DV.i .i64 c.2.D),(DV.i .i64 c.2.V),(DV.i .i64 c.2.Aj)]))
.reg 14 [] [(3,hc z [0] false)] [.clg 0 [g.2=true] z [0] 6 false,.der (fun (h:¬ AllP [g.2=true]->(dF,m.2)=p) (hn:¬ AllP [g.2=true])=>(by obtain rfl:=h hn; rfl:[(TTape.b m.2),s,q,X,(TOf.b l),(TOp.b g.1)]=[(TTape.b p.2),s,q,X,(TOf.b l),(TOp.b g.1)])) 1]<|
.ite (bif g.2 then (p.1==0) else false) (
.r (.next (p.2,(⟨c.2.U,c.2.Z,g.1,c.2.B,c.2.D,c.2.V,c.2.Aj⟩:TSt)))) (
.r (.next (p.2,(⟨c.2.U,c.2.Z,m.1,c.2.B,c.2.D,c.2.V,c.2.Aj⟩:TSt))))) (
.r (.next (c.1,c.2)))) fun o=>
.r (o.2,o.1)
def F_q3n (a:TWo) (b:Int) (c:Int) (d:Int) (e:TTape):=(S_q3n a b c d e).den
theorem F_q3n_ok {a:TWo} {c:Int} {e:Int} {f:Int} {g:TTape}:FO (F_q3n a c e f g) 43 [(vp 0),(TWo.d a),(vi c),(vi e),(vi f)] [(TTape.b g)] (fun x=>(TSt.d x.1)) (fun x=>[(TTape.b x.2)]):=fO (s:=S_q3n a c e f g) Tryz.func43
abbrev R_q2m:=Int×(List TPo)
def S_q2m_b1 (m:TTr) (j:Nat) (g:Int×(List TPo)):SC R_q2m (Step (Int×(List TPo)) R_q2m) :=
.reg 4 [] [(2,{ obs:=[(4,(TPo.b (⟨[],0,0,[],[],[],[]⟩:TPo)))] })] [.w j,.ev 0,.pf cz1]<|
 let a:=(m.E.getD j dF)
.guard [(0+a.A.length) * (2 * 8)<=2 ^ 48]<|
.reg 5 [] [(3,hv (vl a.A))] [.pf (p:=∀ k,k<a.A.length->AV.d (Ra (a.A.getD k dF))=AV.d (Ra (a.A.getD k dF))/\(Ra (a.A.getD k dF)).wd=1) (fun _ _=>⟨rfl,rfl⟩),.pf cz3,.ev 0,.pf (z3o (e:=Ra) (x:=a.A))]<|
.guard [(0+a.G.length) * (2 * 8)<=2 ^ 48]<|
.reg 6 [] [(3,hv (vl a.G))] [.pf (p:=∀ k,k<a.G.length->AV.d (Ra (a.G.getD k dF))=AV.d (Ra (a.G.getD k dF))/\(Ra (a.G.getD k dF)).wd=1) (fun _ _=>⟨rfl,rfl⟩),.pf cz3,.ev 0,.pf (z3o (e:=Ra) (x:=a.G))]<|
.guard [(0+a.F.length) * (2 * 8)<=2 ^ 48]<|
.reg 7 [] [(3,hv (vl a.F))] [.pf (p:=∀ k,k<a.F.length->AV.d (Ra (a.F.getD k dF))=AV.d (Ra (a.F.getD k dF))/\(Ra (a.F.getD k dF)).wd=1) (fun _ _=>⟨rfl,rfl⟩),.pf cz3,.ev 0,.pf (z3o (e:=Ra) (x:=a.F))]<|
.guard [(0+a.M.length) * (2 * 8)<=2 ^ 48]<|
.reg 8 [] [(3,hv (vl a.M))] [.pf (p:=∀ k,k<a.M.length->AV.d (Ra (a.M.getD k dF))=AV.d (Ra (a.M.getD k dF))/\(Ra (a.M.getD k dF)).wd=1) (fun _ _=>⟨rfl,rfl⟩),.pf cz3,.ev 0,.pf (z3o (e:=Ra) (x:=a.M))]<|
 let f:=([a]:List TPo)
.guard [(g.2.length+f.length) * (2 * 128)<=2 ^ 48]<|
.reg 9 [] [(3,{ h:=.obj,obs:=[(5,(eS 7 TPo.e f))] }),(4,{ h:=.obj,cast:=some (Rb 3 ((g.2++f).length) 0 ((g.2++f).length)),obs:=[(3,(eS 7 TPo.e (g.2++f)))] })] [.pf (z8m (sz:=7) (e:=TPo.e) (l:=f)),.e f.length,.e g.2.length,.e g.2.length,.pf (p:=∀ k,k<f.length->(TPo.d (f.getD k dF)).wd=7) (fun _ _=>rfl),.ev 0,.pf (zw (o:=3) (l:=g.2) (x:=f)),.pf (zy (sz:=7) (e:=TPo.e) (l:=g.2) (x:=f))]<|
.c (g.1,(g.2++f))
def S_q2m (c:TTr):SC R_q2m R_q2m :=
 let g:=(TTr.b (⟨0,[]⟩:TTr))
.reg 0 [] [(1,{ obs:=[(1,g)] })] [.pf cz4]<|
.reg 1 [] [(2,{ h:=.obj }),(3,{ h:=.obj })] []<|
 let i:=[(1,(vp 0)),(2,(vp 1)),(3,(vp 2))]
.sh (A:=True) (.pf trivial) i i [(TTr.b c),g,(Rd (Rc [(vi c.P),(AV.full 0 fun _=>DV.b false)]))] [(TTr.b c),g,(Rd (Rc [(vi c.P),(Rb 3 0 0 0)])),(eS 7 TPo.e ([]:List TPo))] (fun _=>(z28 (sz:=7) (f:=fun j=>AV.d (TPo.e (([]:List TPo).getD j dF))) (.keep _ _ _ _ (yv rfl) (.keep _ _ _ _ (yv rfl) (.box _ _ _ _ _ (yv rfl) (TrV.agg (Rk (TrV.keep _) (Rk TrV.born TrL.nil))) (.nil _)))))) (z1a (k:=0) rfl (Rj _) (z1a (k:=1) rfl (Rj _) (z1a (k:=2) rfl (Rj _) z2n)))<|
.range (c.E.length:Int) c.E.length rfl (.slot 10) 12 [2,3,10,11] (fun (_:Int×(List TPo))=>[]) (fun a=>[(2,(Rd (Rc [(vi a.1),(Rb 3 a.2.length 0 a.2.length)]))),(3,(eS 7 TPo.e a.2))]) (c.P,([]:List TPo)) (S_q2m_b1 c) (fun a => 
.reg 11 [] [] []<|
.kill 0<|
.kill 2<|
.r (a.1,a.2)) id
def F_q2m (a:TTr):=(S_q2m a).den
theorem F_q2m_ok {a:TTr}:FO (F_q2m a) 95 [(TTr.d a)] [] (fun x=>(Rc [(vi x.1),(Rb 3 x.2.length 0 x.2.length)])) (fun x=>[Re,(Rd (Rc [(vi x.1),(Rb 3 x.2.length 0 x.2.length)])),Re,(eS 7 TPo.e x.2)]):=fO (s:=S_q2m a) Tryz.func95
theorem zwp:∀ k,k<1->(TPo.d (([(⟨[],0,0,[],[],[],[]⟩:TPo)]:List TPo).getD k dF)).wd=7:=fun _ _=>rfl
def S_q1i_b1 (j:Y8) (k:Int) (a:R_q2m) (b:Int):SC (TTr×Int) (Step Int (TTr×Int)) :=
.ite (decide (b<(a.2.length:Int))) (
 let f:=(0+b.toNat)
 let h:=(a.2.getD f dF)
.call (@F_q14_ok h.B j) fun c i=>
.guard [(0:Int)<=b,b.toNat<a.2.length,f<a.2.length]<|
.reg 17 [] [(7,hc i [] true)] [.e a.2.length,.ev 0,.ev 1,.e a.2.length,.e a.2.length,.ev 2,.cl 3 i [] 8 true]<|
 let d:=(decide (c>0))
.guard [AllP [(c==0)=true,d=false]->((0:Int)<=b),AllP [(c==0)=true,d=false]->(b.toNat<a.2.length),AllP [(c==0)=true,d=false]->(f<a.2.length)]<|
 let g:=(a.2.length=a.2.length)
.reg 18 [] [] [.pf (p:=AllP [(c==0)=true,d=false]->g) (fun _=>rfl),.ev 0,.ev 1,.pf (p:=AllP [(c==0)=true,d=false]->g) (fun _=>rfl),.pf (p:=AllP [(c==0)=true,d=false]->g) (fun _=>rfl),.ev 2]<|
.ite (cO d (bif (c==0) then (decide (h.D>k)) else false)) (
.r (.brk b)) (
.r (.cont (i64.wrap (b+1))))) (
.r (.brk b))
def S_q1i (q:TTr) (W:Y8) (V:Int) (X:Int):SC (TTr×Int) (TTr×Int) :=
 let t:=(TTr.b (⟨0,[]⟩:TTr))
.reg 0 [] [(1,{ obs:=[(1,t)] })] [.pf cz4]<|
.a 1 1 2 (@F_q15_ok q) fun aa=>
 let y:=(TTr.d (⟨0,[]⟩:TTr))
.ite (!aa) (
.reg 2 [] [(0,hv y)] [.pf cz5]<|
.r ((⟨0,[]⟩:TTr),1)) (
.a 3 1 2 (@F_qt_ok W) fun ab=>
.ite (!ab) (
.reg 4 [] [(0,hv y)] [.pf cz5]<|
.r ((⟨0,[]⟩:TTr),5)) (
.ite (cO (cO (cO (decide (V<0)) (decide (V>99))) (decide (X<(-1000000000000000)))) (decide (X>1000000000000000))) (
.reg 6 [] [(0,hv y)] [.pf cz5]<|
.r ((⟨0,[]⟩:TTr),2)) (
.call (@F_q2m_ok q) fun j Y=>
.reg 7 [] [(1,hc Y [] false),(2,{ h:=.obj })] [.cl 0 Y [] 2 false]<|
.kill 3<|
.a 8 3 7 (@F_q1y_ok q W V) fun O=>
 let C:=[(8,(vp 1)),(10,(vp 6))]
 let u:=(TTr.b q)
.ite (decide (O>=0)) (
 let H:=(0+O.toNat)
.guard [(0:Int)<=O,O.toNat<j.2.length,H<j.2.length]<|
 let K:=(j.2.getD H dF)
 let Z:=(⟨K.B,K.D,X,K.A,K.G,K.F,K.M⟩:TPo)
 let L:=(j.2.set H Z)
 let N:=(eS 7 TPo.e L)
.reg 10 [] [(6,{ obs:=[(5,N)] })] [.e j.2.length,.ev 0,.ev 1,.e j.2.length,.e j.2.length,.ev 2,.pf (zk (sz:=7) (e:=TPo.e) (l:=j.2) (i:=H) (x:=Z) (fun _=>rfl))]<|
.cst (A:=True) (.pf trivial) C C [u,t,Re,Re,Re,N,(Rd (Rc [(vi j.1),(Rb 5 j.2.length 0 j.2.length)]))] [u,t,Re,Re,Re,N,(Rd (Rc [(vi j.1),(Rb 5 L.length 0 L.length)]))] (fun _=>⟨Zd,Zb⟩)<|
.guard [L.length<2 ^ 63]<|
.reg 11 [] [] []<|
.frz 5 (.ev 0) none [] [1,6]<|
.r ((⟨j.1,L⟩:TTr),0)) (
.ite ((q.E.length:Int)==60) (
.reg 13 [] [(0,hv y)] [.pf cz5]<|
.r ((⟨0,[]⟩:TTr),3)) (
.guard [(0:Int)<=q.P,q.P * 8<=2 ^ 47]<|
 let U:=(⟨[],0,0,[],[],[],[]⟩:TPo)
 let I:=(vl (List.replicate q.P.toNat (0:Int)))
.reg 14 [16,17] [(5,{ h:=.imm,cast:=some I }),(8,{ h:=.imm,cast:=some I }),(11,{ h:=.imm,cast:=some I }),(14,{ h:=.imm,cast:=some I }),(16,{ obs:=[(7,(TPo.b U))] })] [.ev 0,.pf (p:=q.P<=q.P) (y18 _),.ev 1,.pf (z3p (e:=Ra) (k:=q.P.toNat) (z:=(0:Int))),.ev 0,.pf (p:=q.P<=q.P) (y18 _),.ev 1,.pf (z3p (e:=Ra) (k:=q.P.toNat) (z:=(0:Int))),.ev 0,.pf (p:=q.P<=q.P) (y18 _),.ev 1,.pf (z3p (e:=Ra) (k:=q.P.toNat) (z:=(0:Int))),.ev 0,.pf (p:=q.P<=q.P) (y18 _),.ev 1,.pf (z3p (e:=Ra) (k:=q.P.toNat) (z:=(0:Int))),.ev 0,.pf (p:=q.P<=q.P) (y18 _),.ev 1,.pf (z3p (e:=Ra) (k:=q.P.toNat) (z:=(0:Int))),.ev 0,.pf (p:=q.P<=q.P) (y18 _),.ev 1,.pf (z3p (e:=Ra) (k:=q.P.toNat) (z:=(0:Int))),.ev 0,.pf (p:=q.P<=q.P) (y18 _),.ev 1,.pf (z3p (e:=Ra) (k:=q.P.toNat) (z:=(0:Int))),.ev 0,.pf (p:=q.P<=q.P) (y18 _),.ev 1,.pf (z3p (e:=Ra) (k:=q.P.toNat) (z:=(0:Int))),.pf cz1]<|
.iter [1,2,8,10,12] (fun (g:Int)=>[(13,(vi g))]) (fun _=>[]) 0 (S_q1i_b1 W V j) (fun g =>
.guard [(j.2.length+1) * (2 * 128)<=2 ^ 48]<|
 let v:=([U]:List TPo)
 let c:=(j.2++v)
 let R:=(Rb 5 c.length 0 c.length)
.reg 20 [] [(2,hv (TPo.d U)),(3,hv (AV.d (eL TPo.e v))),(4,{ h:=.obj,cast:=some R,obs:=[(5,(eS 7 TPo.e c))] })] [.pf cz6,.pf (z9 TPo.e v),.e j.2.length,.e j.2.length,.pf zwp,.ev 0,.pf (zw (o:=5) (l:=j.2) (x:=v)),.pf (zy (sz:=7) (e:=TPo.e) (l:=j.2) (x:=v))]<|
 let S:=(i64.wrap (g+1))
 let m:=S
.guard [(0:Int)<=S,m.toNat<=c.length,(0:Int)<=g,g.toNat<=c.length]<|
 let f:=(0+g.toNat)
 let n:=(0+m.toNat)
.reg 21 [9] [(9,{ obs:=[(5,(eS 7 TPo.e (copyL c n (min (c.length-g.toNat) (c.length-m.toNat)) (fun i=>(c.getD (f+i) dF)))))] })] [.ev 0,.ev 1,.e c.length,.ev 2,.ev 3,.e c.length,.e c.length,.e c.length,.pf (p:=∀ k,k<(c.length-g.toNat)->(TPo.d (c.getD (f+k) dF)).wd=7) (fun _ _=>rfl),.pf (z9i (sz:=7) (e:=TPo.e) (l:=c) (off:=n) (k:=(min (c.length-g.toNat) (c.length-m.toNat))) (s:=(fun i=>(c.getD (f+i) dF))))]<|
 let J:=(eL Ra (List.replicate q.P.toNat (0:Int)))
 let Q:=(bx (DV.agg [(Rf W),(DV.i .i64 V),(DV.i .i64 X),J,J,J,J]))
 let T:=[(8,(vp 1)),(10,(vp 6)),(12,(vp 7)),(13,(vi g))]
.cst (A:=True) (.pf trivial) T T [u,t,Re,Re,Re,(eS 7 TPo.e (copyL c n (min (c.length-g.toNat) (c.length-m.toNat)) (fun i=>(c.getD (f+i) dF)))),(Rd (Rc [(vi j.1),R])),Q] [u,t,Re,Re,Re,(eS 7 TPo.e (copyL c n (min (c.length-g.toNat) (c.length-m.toNat)) (fun i=>(c.getD (f+i) dF)))),(Rd (Rc [(vi j.1),(Rb 5 ((copyL c n (min (c.length-g.toNat) (c.length-m.toNat)) (fun i=>(c.getD (f+i) dF))).length) 0 ((copyL c n (min (c.length-g.toNat) (c.length-m.toNat)) (fun i=>(c.getD (f+i) dF))).length))])),Q] (fun _=>⟨Zd,by simp +zetaDelta only[zp]⟩)<|
.guard [g.toNat<(copyL c n (min (c.length-g.toNat) (c.length-m.toNat)) (fun i=>(c.getD (f+i) dF))).length,f<(copyL c n (min (c.length-g.toNat) (c.length-m.toNat)) (fun i=>(c.getD (f+i) dF))).length]<|
 let w:=(⟨W,V,X,(List.replicate q.P.toNat (0:Int)),(List.replicate q.P.toNat (0:Int)),(List.replicate q.P.toNat (0:Int)),(List.replicate q.P.toNat (0:Int))⟩:TPo)
.reg 22 [] [(5,{ obs:=[(5,(eS 7 TPo.e ((copyL c n (min (c.length-g.toNat) (c.length-m.toNat)) (fun i=>(c.getD (f+i) dF))).set f w)))] })] [.pf (y2d ((copyL c n (min (c.length-g.toNat) (c.length-m.toNat)) (fun i=>(c.getD (f+i) dF))).length)),.ev 4,.ev 0,.pf (y2d ((copyL c n (min (c.length-g.toNat) (c.length-m.toNat)) (fun i=>(c.getD (f+i) dF))).length)),.ev 1,.pf (zk (sz:=7) (e:=TPo.e) (l:=(copyL c n (min (c.length-g.toNat) (c.length-m.toNat)) (fun i=>(c.getD (f+i) dF)))) (i:=f) (x:=w) (fun _=>rfl))]<|
.cst (A:=True) (.pf trivial) C C [u,t,Re,Re,Re,(eS 7 TPo.e ((copyL c n (min (c.length-g.toNat) (c.length-m.toNat)) (fun i=>(c.getD (f+i) dF))).set f w)),(Rd (Rc [(vi j.1),(Rb 5 ((copyL c n (min (c.length-g.toNat) (c.length-m.toNat)) (fun i=>(c.getD (f+i) dF))).length) 0 ((copyL c n (min (c.length-g.toNat) (c.length-m.toNat)) (fun i=>(c.getD (f+i) dF))).length))])),Q] [u,t,Re,Re,Re,(eS 7 TPo.e ((copyL c n (min (c.length-g.toNat) (c.length-m.toNat)) (fun i=>(c.getD (f+i) dF))).set f w)),(Rd (Rc [(vi j.1),(Rb 5 (((copyL c n (min (c.length-g.toNat) (c.length-m.toNat)) (fun i=>(c.getD (f+i) dF))).set f w).length) 0 (((copyL c n (min (c.length-g.toNat) (c.length-m.toNat)) (fun i=>(c.getD (f+i) dF))).set f w).length))])),Q] (fun _=>⟨Zd,by simp +zetaDelta only[yh,zp]⟩)<|
.guard [((copyL c n (min (c.length-g.toNat) (c.length-m.toNat)) (fun i=>(c.getD (f+i) dF))).set f w).length<2 ^ 63]<|
.reg 23 [] [] []<|
.frz 5 (.ev 0) none [] [1,6]<|
.r ((⟨j.1,((copyL c n (min (c.length-g.toNat) (c.length-m.toNat)) (fun i=>(c.getD (f+i) dF))).set f w)⟩:TTr),0)) id)))))
def F_q1i (a:TTr) (b:Y8) (c:Int) (d:Int):=(S_q1i a b c d).den
theorem F_q1i_ok {a:TTr} {b:Y8} {c:Int} {e:Int}:FO (F_q1i a b c e) 44 [(TTr.d a),(AV.d (Rf b)),(vi c),(vi e)] [] (fun x=>(Rg [(TTr.d x.1),(vi x.2)])) NL:=fO (s:=S_q1i a b c e) Tryz.func44
def S_q2n (c:TTr) (e:Int) (f:Y8) (g:Int):SC (Int×Int) (Int×Int) :=
.a 1 1 1 (@F_q15_ok c) fun d=>
.ite (!d) (
.r (0,1)) (
.a 3 3 1 (@F_q1y_ok c f g) fun b=>
.ite (cO (cO (decide (b<0)) (decide (e<1))) (decide (e>c.P))) (
.r (0,6)) (
.r (b,0)))
def F_q2n (a:TTr) (b:Int) (c:Y8) (d:Int):=(S_q2n a b c d).den
theorem F_q2n_ok {a:TTr} {b:Int} {c:Y8} {e:Int}:FO (F_q2n a b c e) 97 [(TTr.d a),(vi b),(AV.d (Rf c)),(vi e)] [] (fun x=>(Rg [(vi x.1),(vi x.2)])) NL:=fO (s:=S_q2n a b c e) Tryz.func97
def S_qu_b1 (b:TPo) (a:Int×Int):SC Int (Step (Int×Int) Int) :=
.ite (bif (decide (a.2<(b.A.length:Int))) then (decide (a.2<(b.G.length:Int))) else false) (
.guard [(0:Int)<=a.2,a.2.toNat<b.A.length,a.2.toNat<b.G.length]<|
.reg 5 [] [] [.ev 0,.ev 1,.ev 0,.ev 2]<|
.r (.cont ((i64.wrap (a.1+(i64.wrap ((b.A.getD a.2.toNat dF)-(b.G.getD a.2.toNat dF))))),(i64.wrap (a.2+1))))) (
.r (.brk (a.1,a.2)))
def S_qu (b:TPo):SC Int Int :=
.iter [1] (fun (a:Int×Int)=>[(3,(vi a.1)),(4,(vi a.2))]) (fun _=>[]) (0,0) (S_qu_b1 b) (fun a =>
.r a.1) id
def F_qu (a:TPo):=(S_qu a).den
theorem F_qu_ok {a:TPo}:FO (F_qu a) 68 [(TPo.d a)] [] vi NL:=fO (s:=S_qu a) Tryz.func68
def S_q5u (c:TPo):SC Int Int :=
.a 1 3 1 (@F_qu_ok c) fun b=>
.r (i64.wrap (c.T-b))
def F_q5u (a:TPo):=(S_q5u a).den
theorem F_q5u_ok {a:TPo}:FO (F_q5u a) 150 [(TPo.d a)] [] vi NL:=fO (s:=S_q5u a) Tryz.func150
end
end Go.Proofs.YtgbpiaddmclccaaGreatDoor
/- What the functions compute,and that their calls return it. No condition. -/
namespace Go.Proofs.YtgbpiaddmclccaaGreatDoor
open Go Go.TA
open Go.IntKind (i64)
noncomputable section
set_option maxRecDepth 100000
abbrev R_q1j:=Int×(List TPo)
def S_q1j_b1 (C:TTr) (i0:Nat) (s:Nat) (f:Int×(List TPo)):SC R_q1j (Step (Int×(List TPo)) R_q1j) :=
.reg 4 [] [(2,{ obs:=[(8,(TPo.b (⟨[],0,0,[],[],[],[]⟩:TPo)))] })] [.w s,.ev 0,.pf cz1]<|
 let a:=(C.E.getD s dF)
.guard [a.A.length * (2 * 8)<=2 ^ 48]<|
.reg 5 [] [(3,{ h:=.obj })] [.pf (p:=∀ k,k<a.A.length->(AV.d (Ra (a.A.getD k dF))).wd=1) (fun _ _=>rfl),.ev 0]<|
.guard [a.G.length * (2 * 8)<=2 ^ 48]<|
.reg 6 [] [(3,{ h:=.obj })] [.pf (p:=∀ k,k<a.G.length->(AV.d (Ra (a.G.getD k dF))).wd=1) (fun _ _=>rfl),.ev 0]<|
.guard [a.F.length * (2 * 8)<=2 ^ 48]<|
.reg 7 [] [(3,{ h:=.obj })] [.pf (p:=∀ k,k<a.F.length->(AV.d (Ra (a.F.getD k dF))).wd=1) (fun _ _=>rfl),.ev 0]<|
.guard [a.M.length * (2 * 8)<=2 ^ 48]<|
.reg 8 [] [(3,{ h:=.obj })] [.pf (p:=∀ k,k<a.M.length->(AV.d (Ra (a.M.getD k dF))).wd=1) (fun _ _=>rfl),.ev 0]<|
.guard [(f.2.length+1) * (2 * 128)<=2 ^ 48]<|
 let g:=(Rc [(AV.d (Rf a.B)),(vi a.D),(vi a.T),(rr 9 a.A),(rr 10 a.G),(rr 11 a.F),(rr 12 a.M)])
 let n:=(f.2.getD i0 dF)
 let r:=(Rc [(AV.d (Rf n.B)),(vi n.D),(vi n.T),(rr 4 n.A),(rr 5 n.G),(rr 6 n.F),(rr 7 n.M)])
 let m:=(f.2++[a])
 let v:=(Rb 3 m.length 0 m.length)
.reg 9 [] [(3,{ h:=.obj }),(4,{ h:=.obj,cast:=some v,obs:=[(3,(Ob.seq 7 m.length (catF f.2.length (fun j=>AV.sel (decide (j=i0)) 7 r (TPo.d (f.2.getD j dF))) (listF AV.bot [g]))))] })] [.e 1,.e f.2.length,.e f.2.length,.pf (p:=∀ k,k<1->(listF AV.bot [g] k).wd=7) (fun k hk=>by obtain rfl:k=0:=om; rfl),.ev 0,.pf (zw (o:=3) (l:=f.2) (x:=[a])),.pf (p:=OLe (Ob.seq 7 (f.2.length+1) (catF f.2.length (fun j=>AV.sel (decide (j=i0)) 7 r (TPo.d (f.2.getD j dF))) (listF AV.bot [g]))) (Ob.seq 7 m.length (catF f.2.length (fun j=>AV.sel (decide (j=i0)) 7 r (TPo.d (f.2.getD j dF))) (listF AV.bot [g])))) (zf9 zd9)]<|
 let y:=((f.2.length=i0->0<a.A.length/\0<a.G.length/\0<a.F.length/\0<a.M.length)/\(a.A.length<2 ^ 63/\a.G.length<2 ^ 63/\a.F.length<2 ^ 63/\a.M.length<2 ^ 63))
.guard [y]<|
 let z:=[(2,(vp 1)),(3,(vp 2)),(10,(AV.d (eL TPo.e C.E))),(11,(vi (C.E.length:Int))),(12,(vi (s:Int)))]
 let t:=(TTr.b (⟨0,[]⟩:TTr))
 let u:=(Rc [(vi f.1),v])
 let q:=(TTr.b C)
.sh (A:=y) (.ev 0) z z [q,t,(Rd u),(Ob.seq 7 m.length (catF f.2.length (fun j=>AV.sel (decide (j=i0)) 7 r (TPo.d (f.2.getD j dF))) (listF AV.bot [g]))),(eQ (opQ TPo.A i0 f.2)),(eQ (opQ TPo.G i0 f.2)),(eQ (opQ TPo.F i0 f.2)),(eQ (opQ TPo.M i0 f.2)),(Rd g),(eQ a.A),(eQ a.G),(eQ a.F),(eQ a.M),(Ob.seq 7 1 (listF AV.bot [g]))] [q,t,(Rd u),(oTApiPot.R 4 i0 m),(eQ (opQ TPo.A i0 m)),(eQ (opQ TPo.G i0 m)),(eQ (opQ TPo.F i0 m)),(eQ (opQ TPo.M i0 m)),(Rd g),Re,Re,Re,Re,(Ob.seq 7 1 (listF AV.bot [g]))] (fun h=>z7a oTApiPot (P:=[q,t,(Rd u)]) (D:=[(Rd g)]) (E:=[(Ob.seq 7 1 (listF AV.bot [g]))]) (i:=i0) (l:=f.2) (x:=a) rfl rfl (fun j hj=>z1t hj) zit h.1 h.2) (z14 _)<|
.c (f.1,f.2++[a])
def S_q1j (l:TTr) (i0:Nat):SC R_q1j R_q1j :=
 let e:=(TTr.b (⟨0,[]⟩:TTr))
.reg 0 [] [(1,{ obs:=[(1,e)] })] [.pf cz4]<|
.reg 1 [] [(2,{ h:=.obj }),(3,{ h:=.obj })] []<|
 let c:=(([]:List TPo).getD i0 dF)
 let n:=(Rc [(vi l.P),(Rb 3 0 0 0)])
 let m:=(TTr.b l)
 let o:=[m,e,(Rd n),(oTApiPot.R 4 i0 [])]
 let g:=[(1,(vp 0)),(2,(vp 1)),(3,(vp 2))]
.sh (A:=True) (.pf trivial) g g [m,e,(Rd (Rc [(vi l.P),(AV.full 0 fun _=>DV.b false)]))] o (fun _=>(z28 (sz:=7) (f:=(fun j=>AV.sel (decide (j=i0)) 7 (Rc [(AV.d (Rf c.B)),(vi c.D),(vi c.T),(rr 4 c.A),(rr 5 c.G),(rr 6 c.F),(rr 7 c.M)]) (TPo.d (([]:List TPo).getD j dF)))) (.keep _ _ _ _ (yv rfl) (.keep _ _ _ _ (yv rfl) (.box _ _ _ _ _ (yv rfl) (TrV.agg (Rk (TrV.keep _) (Rk TrV.born TrL.nil))) (.nil _)))))) (z1a (k:=0) rfl (Rj _) (z1a (k:=1) rfl (Rj _) (z1a (k:=2) rfl (Rj _) z2n)))<|
.sh (A:=True) (.pf trivial) g g o [m,e,(Rd n),(oTApiPot.R 4 i0 []),(eQ (opQ TPo.A i0 ([]:List TPo))),(eQ (opQ TPo.G i0 ([]:List TPo))),(eQ (opQ TPo.F i0 ([]:List TPo))),(eQ (opQ TPo.M i0 ([]:List TPo)))] (fun _=>z87) (z14 _)<|
.range (l.E.length:Int) l.E.length rfl (.slot 10) 12 [2,3,10,11] (fun (_:Int×(List TPo))=>[]) (fun a=>[(2,(Rd (Rc [(vi a.1),(Rb 3 a.2.length 0 a.2.length)]))),(3,(oTApiPot.R 4 i0 a.2)),(4,(eQ (opQ TPo.A i0 a.2))),(5,(eQ (opQ TPo.G i0 a.2))),(6,(eQ (opQ TPo.F i0 a.2))),(7,(eQ (opQ TPo.M i0 a.2)))]) (l.P,([]:List TPo)) (S_q1j_b1 l i0) (fun a => 
.reg 11 [] [] []<|
.kill 0<|
.kill 2<|
.guard [i0<a.2.length]<|
 let p:=(Rc [(vi a.1),(Rb 3 a.2.length 0 a.2.length)])
 let i:=(a.2.getD i0 dF)
.cst (A:=i0<a.2.length) (.ev 0) [(2,(vp 1))] [(2,(vp 1))] [Re,(Rd p),Re,(oTApiPot.R 4 i0 a.2),(eQ (opQ TPo.A i0 a.2)),(eQ (opQ TPo.G i0 a.2)),(eQ (opQ TPo.F i0 a.2)),(eQ (opQ TPo.M i0 a.2))] [Re,(Rd p),Re,(oTApiPot.R 4 i0 a.2),(eQ i.A),(eQ i.G),(eQ i.F),(eQ i.M)] (fun h=>⟨rfl,by simp +zetaDelta only[ziu h]⟩)<|
.r (a.1,a.2)) id
def F_q1j (a:TTr) (i0:Nat):=(S_q1j a i0).den
theorem F_q1j_ok {a:TTr} {i0:Nat}:FO (F_q1j a i0) 95 [(TTr.d a)] [] (fun x=>(Rc [(vi x.1),(Rb 3 x.2.length 0 x.2.length)])) (fun x=>[Re,(Rd (Rc [(vi x.1),(Rb 3 x.2.length 0 x.2.length)])),Re,(opS 7 TPo.e i0 (Rc [(AV.d (Rf (x.2.getD i0 dF).B)),(vi (x.2.getD i0 dF).D),(vi (x.2.getD i0 dF).T),(rr 4 (x.2.getD i0 dF).A),(rr 5 (x.2.getD i0 dF).G),(rr 6 (x.2.getD i0 dF).F),(rr 7 (x.2.getD i0 dF).M)]) x.2),(eQ (x.2.getD i0 dF).A),(eQ (x.2.getD i0 dF).G),(eQ (x.2.getD i0 dF).F),(eQ (x.2.getD i0 dF).M)]):=fO (s:=S_q1j a i0) Tryz.func95
abbrev R_qm:=TTr×Int
def S_qm_b1 (h:TTr) (i:(List Int)) (c:(Int×Int)) (b:Nat) (e:Int×Int):SC R_qm (Step (Int×Int) R_qm) :=
.reg 9 [] [] [.w b,.ev 0]<|
.a 10 1 2 (@F_qo_ok (i.getD b dF)) fun g=>
.ite (!g) (
.reg 11 [] [(0,hv (TTr.d (⟨0,[]⟩:TTr)))] [.pf cz5]<|
.r (.ret ((⟨0,[]⟩:TTr),2))) (
 let f:=((h.E.getD c.1.toNat dF).A)
.guard [(0:Int)<=c.1,c.1.toNat<h.E.length,b<f.length]<|
.reg 13 [] [] [.ev 0,.ev 1,.w b,.ev 2]<|
.r (.cont ((i64.wrap (e.1+(i.getD b dF))),(i64.wrap (e.2+(f.getD b dF))))))
def S_qm_b2 (m:(List Int)) (f:(Int×Int)) (b:R_q1j) (a:Nat) (d:(List Int)):SC R_qm (Step ((List Int)) R_qm) :=
.reg 22 [] [] [.w a,.ev 0]<|
 let g:=f.1.toNat
 let j:=((b.2.getD g dF).A)
.guard [f.1.toNat<b.2.length,d.length=j.length,a<j.length,(0+a)<d.length]<|
 let h:=(i64.wrap ((d.getD (0+a) dF)+(m.getD a dF)))
 let k:=(Ri 5 b.2.length [.x g 7])
.reg 23 [] [(3,hv k),(12,{ obs:=[(6,(eQ (d.set (0+a) h)))] })] [.e b.2.length,.ev 9,.ev 0,.pf (p:=LeV (Ri 5 b.2.length [.x (0+g) 7]) k) z54,.e b.2.length,.e b.2.length,.ev 0,.pf (p:=decide (f.1.toNat=f.1.toNat)=true) (y9 rfl),.ev 1,.w a,.ev 2,.ev 1,.ev 3,.ev 1,.w a,.ev 2,.ev 1,.ev 3,.pf (zk (sz:=1) (e:=Ra) (l:=d) (i:=(0+a)) (x:=h) (fun _=>rfl))]<|
.c (d.set (0+a) h)
def S_qm (y:TTr) (N:Y8) (O:Int) (z:(List Int)):SC R_qm R_qm :=
 let x:=(TTr.b (⟨0,[]⟩:TTr))
.reg 0 [] [(1,{ obs:=[(1,x)] })] [.pf cz4]<|
.a 1 3 2 (@F_q2n_ok y 1 N O) fun j=>
 let v:=(TTr.d (⟨0,[]⟩:TTr))
.ite (j.2 != 0) (
.reg 3 [] [(0,hv v)] [.pf cz5]<|
.r ((⟨0,[]⟩:TTr),j.2)) (
.ite ((z.length:Int) != y.P) (
.reg 5 [] [(0,hv v)] [.pf cz5]<|
.r ((⟨0,[]⟩:TTr),6)) (
.range (z.length:Int) z.length rfl (.slot 3) 38 [3,4,8,10,36,37] (fun (l:Int×Int)=>[(12,(vi l.1)),(13,(vi l.2))]) (fun _=>[]) (0,0) (S_qm_b1 y z j) (fun l => 
 let k:=j.1.toNat
.call (@F_q5u_ok (y.E.getD k dF)) fun L C=>
.guard [(0:Int)<=j.1,j.1.toNat<y.E.length]<|
.reg 15 [] [(6,hc C [] true)] [.ev 0,.ev 1,.cl 2 C [] 2 true]<|
.ite (decide (l.1>L)) (
.reg 16 [] [(0,hv v)] [.pf cz5]<|
.r ((⟨0,[]⟩:TTr),15)) (
.ite (decide ((i64.wrap (l.1+l.2))>1000000000000000)) (
.reg 18 [] [(0,hv v)] [.pf cz5]<|
.r ((⟨0,[]⟩:TTr),3)) (
.call (@F_q1j_ok y k) fun f H=>
.reg 19 [] [(1,hc H [] false),(2,{ obs:=[(10,x)] })] [.cl 0 H [] 2 false,.pf cz4]<|
.kill 3<|
 let c:=(f.2.getD k dF)
.range (z.length:Int) z.length rfl (.slot 78) 80 [8,10,16,78,79] (fun (_:(List Int))=>[]) (fun g=>[(6,(eQ g))]) c.A (S_qm_b2 z j f) (fun g => 
.reg 25 [] [] []<|
.guard [g.length=c.A.length]<|
 let m:=(TTr.b y)
 let p:=(eQ c.G)
 let q:=(eQ c.F)
 let s:=(eQ c.M)
 let t:=(AV.d (Rf c.B))
 let u:=(eQ g)
.cst (A:=g.length=c.A.length) (.ev 0) [(8,(vp 1)),(9,(vi 0))] [(8,(vp 1)),(9,(vi 0))] [m,(Rd (Rc [(vi f.1),(Rb 5 f.2.length 0 f.2.length)])),Re,Re,Re,(opS 7 TPo.e k (Rc [t,(vi c.D),(vi c.T),(Rb 6 c.A.length 0 c.A.length),(Rb 7 c.G.length 0 c.G.length),(Rb 8 c.F.length 0 c.F.length),(Rb 9 c.M.length 0 c.M.length)]) f.2),u,p,q,s,(Rd (Rc [(vi f.1),(Rb 5 f.2.length 0 f.2.length)]))] [m,(Rd (Rc [(vi f.1),(Rb 5 f.2.length 0 f.2.length)])),Re,Re,Re,(opS 7 TPo.e k (Rc [t,(vi c.D),(vi c.T),(Rb 6 g.length 0 g.length),(Rb 7 c.G.length 0 c.G.length),(Rb 8 c.F.length 0 c.F.length),(Rb 9 c.M.length 0 c.M.length)]) f.2),u,p,q,s,(Rd (Rc [(vi f.1),(Rb 5 f.2.length 0 f.2.length)]))] (fun h=>⟨rfl,by rw[h]⟩)<|
.guard [g.length<2 ^ 63/\c.G.length<2 ^ 63/\c.F.length<2 ^ 63/\c.M.length<2 ^ 63]<|
 let I:=(⟨c.B,c.D,c.T,g,c.G,c.F,c.M⟩:TPo)
 let n:=(f.2.set k I)
 let o:=(Rc [(vi f.1),(Rb 5 f.2.length 0 f.2.length)])
 let J:=[m,(Rd o),Re,Re,Re,(eS 7 TPo.e n),Re,Re,Re,Re,(Rd o)]
 let w:=[(8,(vp 1)),(9,(vi 0))]
.sh (A:=g.length<2 ^ 63/\c.G.length<2 ^ 63/\c.F.length<2 ^ 63/\c.M.length<2 ^ 63) (.ev 0) w w [m,(Rd o),Re,Re,Re,(opS 7 TPo.e k (Rc [t,(vi c.D),(vi c.T),(Rb 6 g.length 0 g.length),(Rb 7 c.G.length 0 c.G.length),(Rb 8 c.F.length 0 c.F.length),(Rb 9 c.M.length 0 c.M.length)]) f.2),u,p,q,s,(Rd o)] J (fun h=>z1j oTApiPot (P:=[m,(Rd o),Re,Re,Re]) (D:=[(Rd o)]) rfl (⟨c.B,c.D,c.T,[],[],[],[]⟩:TPo) I h rfl) (z14 _)<|
 let K:=(Rc [(vi f.1),(Rb 5 n.length 0 n.length)])
.cst (A:=True) (.pf trivial) w w J [m,(Rd K),Re,Re,Re,(eS 7 TPo.e n),Re,Re,Re,Re,(Rd K)] (fun _=>⟨Zd,Zb⟩)<|
.guard [n.length<2 ^ 63]<|
.frz 5 (.ev 0) none [] [1,10]<|
.r ((⟨f.1,n⟩:TTr),0)) id))) id))
def F_qm (a:TTr) (b:Y8) (c:Int) (d:(List Int)):=(S_qm a b c d).den
theorem F_qm_ok {a:TTr} {b:Y8} {c:Int} {e:(List Int)}:FO (F_qm a b c e) 98 [(TTr.d a),(AV.d (Rf b)),(vi c),(vl e)] [] (fun x=>(Rg [(TTr.d x.1),(vi x.2)])) NL:=fO (s:=S_qm a b c e) Tryz.func98
def S_q5v (c:TTr) (y:Int) (u:Y8) (v:Int) (w:Int):SC (TTr×Int) (TTr×Int) :=
 let m:=(TTr.b (⟨0,[]⟩:TTr))
.reg 0 [] [(1,{ obs:=[(1,m)] })] [.pf cz4]<|
.a 1 4 2 (@F_q2n_ok c y u v) fun n=>
 let q:=(TTr.d (⟨0,[]⟩:TTr))
.ite (n.2 != 0) (
.reg 3 [] [(0,hv q)] [.pf cz5]<|
.r ((⟨0,[]⟩:TTr),n.2)) (
.ite (cO (decide (w<1)) (decide (w>1000000000000000))) (
.reg 5 [] [(0,hv q)] [.pf cz5]<|
.r ((⟨0,[]⟩:TTr),2)) (
.guard [(0:Int)<=c.P,c.P * 8<=2 ^ 47]<|
 let f:=((List.replicate c.P.toNat (0:Int)).length)
.reg 6 [] [(2,{ cast:=some (Rb 2 f 0 f),obs:=[(2,(eQ (List.replicate c.P.toNat (0:Int))))] })] [.ev 0,.pf (p:=c.P<=c.P) (y18 _),.ev 1,.pf (z8n (o:=2) (k:=c.P.toNat) (z:=(0:Int))),.pf (z8o (sz:=1) (k:=c.P.toNat) (e:=Ra) (z:=(0:Int)))]<|
 let h:=(i64.wrap (y-1))
 let j:=(0+h.toNat)
.guard [(0:Int)<=h,h.toNat<(List.replicate c.P.toNat (0:Int)).length,j<(List.replicate c.P.toNat (0:Int)).length]<|
 let g:=((List.replicate c.P.toNat (0:Int)).set j w)
.reg 7 [] [(5,{ obs:=[(2,(eQ g))] })] [.e f,.ev 0,.ev 1,.e f,.ev 2,.pf (zk (sz:=1) (e:=Ra) (l:=(List.replicate c.P.toNat (0:Int))) (i:=j) (x:=w) (fun _=>rfl))]<|
 let s:=[(TTr.b c),m,(eQ g)]
.cst (A:=True) (.pf trivial) [(2,(AV.d (Rf u))),(3,(vi v)),(5,(vp 0)),(10,(vp 1)),(14,(Rb 2 f 0 f))] [(2,(AV.d (Rf u))),(3,(vi v)),(5,(vp 0)),(10,(vp 1)),(14,(Rb 2 g.length 0 g.length))] s s (fun _=>⟨Zb,by rfl⟩)<|
.guard [g.length<2 ^ 63]<|
.frz 2 (.ev 0) none [14] []<|
.a 8 4 3 (@F_qm_ok c u v g) fun t=>
.r (t.1,t.2)))
def F_q5v (a:TTr) (b:Int) (c:Y8) (d:Int) (e:Int):=(S_q5v a b c d e).den
theorem F_q5v_ok {a:TTr} {b:Int} {c:Y8} {e:Int} {f:Int}:FO (F_q5v a b c e f) 45 [(TTr.d a),(vi b),(AV.d (Rf c)),(vi e),(vi f)] [] (fun x=>(Rg [(TTr.d x.1),(vi x.2)])) NL:=fO (s:=S_q5v a b c e f) Tryz.func45
def S_q4o (N:TTr) (V:Int) (W:Y8) (X:Int) (U:Int):SC (TTr×Int) (TTr×Int) :=
 let J:=(TTr.b (⟨0,[]⟩:TTr))
.reg 0 [] [(1,{ obs:=[(1,J)] })] [.pf cz4]<|
.a 1 4 2 (@F_q2n_ok N V W X) fun m=>
 let w:=(TTr.d (⟨0,[]⟩:TTr))
.ite (m.2 != 0) (
.reg 3 [] [(0,hv w)] [.pf cz5]<|
.r ((⟨0,[]⟩:TTr),m.2)) (
.ite (cO (decide (U<1)) (decide (U>1000000000000000))) (
.reg 5 [] [(0,hv w)] [.pf cz5]<|
.r ((⟨0,[]⟩:TTr),2)) (
 let n:=(i64.wrap (V-1))
 let k:=m.1.toNat
 let o:=(N.E.getD k dF)
.guard [(0:Int)<=m.1,m.1.toNat<N.E.length,(0:Int)<=n,n.toNat<o.F.length,n.toNat<o.A.length]<|
.reg 6 [] [] [.ev 0,.ev 1,.ev 2,.ev 3,.ev 0,.ev 1,.ev 2,.ev 4]<|
.ite (decide ((i64.wrap ((o.F.getD n.toNat dF)+U))>(o.A.getD n.toNat dF))) (
.reg 7 [] [(0,hv w)] [.pf cz5]<|
.r ((⟨0,[]⟩:TTr),15)) (
.call (@F_q1j_ok N k) fun f O=>
.reg 8 [] [(1,hc O [] false),(2,{ obs:=[(10,J)] })] [.cl 0 O [] 2 false,.pf cz4]<|
.kill 3<|
 let c:=(f.2.getD k dF)
 let q:=(0+n.toNat)
.guard [m.1.toNat<f.2.length,n.toNat<c.F.length,q<c.F.length]<|
 let Q:=(i64.wrap ((c.F.getD q dF)+U))
 let g:=(c.F.set q Q)
 let s:=(eQ g)
 let t:=c.F.length
 let K:=(Ri 5 f.2.length [.x k 7])
.reg 9 [] [(3,hv K),(13,{ obs:=[(8,s)] })] [.e f.2.length,.ev 5,.ev 0,.pf (p:=LeV (Ri 5 f.2.length [.x (0+k) 7]) K) z54,.e f.2.length,.e f.2.length,.ev 0,.pf (p:=decide (m.1.toNat=m.1.toNat)=true) (y9 rfl),.e t,.ev 7,.ev 1,.e t,.ev 2,.e t,.ev 7,.ev 1,.e t,.ev 2,.pf (zk (sz:=1) (e:=Ra) (l:=c.F) (i:=q) (x:=Q) (fun _=>rfl))]<|
.reg 10 [] [] []<|
.guard [g.length=c.F.length]<|
 let j:=(TTr.b N)
 let y:=(eQ c.A)
 let z:=(eQ c.G)
 let C:=(eQ c.M)
 let H:=(AV.d (Rf c.B))
.cst (A:=g.length=c.F.length) (.ev 0) [(10,(vp 1)),(11,(vi 0))] [(10,(vp 1)),(11,(vi 0))] [j,(Rd (Rc [(vi f.1),(Rb 5 f.2.length 0 f.2.length)])),Re,Re,Re,(opS 7 TPo.e k (Rc [H,(vi c.D),(vi c.T),(Rb 6 c.A.length 0 c.A.length),(Rb 7 c.G.length 0 c.G.length),(Rb 8 c.F.length 0 c.F.length),(Rb 9 c.M.length 0 c.M.length)]) f.2),y,z,s,C,(Rd (Rc [(vi f.1),(Rb 5 f.2.length 0 f.2.length)]))] [j,(Rd (Rc [(vi f.1),(Rb 5 f.2.length 0 f.2.length)])),Re,Re,Re,(opS 7 TPo.e k (Rc [H,(vi c.D),(vi c.T),(Rb 6 c.A.length 0 c.A.length),(Rb 7 c.G.length 0 c.G.length),(Rb 8 g.length 0 g.length),(Rb 9 c.M.length 0 c.M.length)]) f.2),y,z,s,C,(Rd (Rc [(vi f.1),(Rb 5 f.2.length 0 f.2.length)]))] (fun h=>⟨rfl,by rw[h]⟩)<|
.guard [c.A.length<2 ^ 63/\c.G.length<2 ^ 63/\g.length<2 ^ 63/\c.M.length<2 ^ 63]<|
 let L:=(⟨c.B,c.D,c.T,c.A,c.G,g,c.M⟩:TPo)
 let u:=(f.2.set k L)
 let v:=(Rc [(vi f.1),(Rb 5 f.2.length 0 f.2.length)])
 let R:=[j,(Rd v),Re,Re,Re,(eS 7 TPo.e u),Re,Re,Re,Re,(Rd v)]
 let I:=[(10,(vp 1)),(11,(vi 0))]
.sh (A:=c.A.length<2 ^ 63/\c.G.length<2 ^ 63/\g.length<2 ^ 63/\c.M.length<2 ^ 63) (.ev 0) I I [j,(Rd v),Re,Re,Re,(opS 7 TPo.e k (Rc [H,(vi c.D),(vi c.T),(Rb 6 c.A.length 0 c.A.length),(Rb 7 c.G.length 0 c.G.length),(Rb 8 g.length 0 g.length),(Rb 9 c.M.length 0 c.M.length)]) f.2),y,z,s,C,(Rd v)] R (fun h=>z1j oTApiPot (P:=[j,(Rd v),Re,Re,Re]) (D:=[(Rd v)]) rfl (⟨c.B,c.D,c.T,[],[],[],[]⟩:TPo) L h rfl) (z14 _)<|
 let S:=(Rc [(vi f.1),(Rb 5 u.length 0 u.length)])
.cst (A:=True) (.pf trivial) I I R [j,(Rd S),Re,Re,Re,(eS 7 TPo.e u),Re,Re,Re,Re,(Rd S)] (fun _=>⟨Zd,Zb⟩)<|
.guard [u.length<2 ^ 63]<|
.frz 5 (.ev 0) none [] [1,10]<|
.r ((⟨f.1,u⟩:TTr),0))))
def F_q4o (a:TTr) (b:Int) (c:Y8) (d:Int) (e:Int):=(S_q4o a b c d e).den
theorem F_q4o_ok {a:TTr} {b:Int} {c:Y8} {e:Int} {f:Int}:FO (F_q4o a b c e f) 46 [(TTr.d a),(vi b),(AV.d (Rf c)),(vi e),(vi f)] [] (fun x=>(Rg [(TTr.d x.1),(vi x.2)])) NL:=fO (s:=S_q4o a b c e f) Tryz.func46
def S_q4p (e:TTr) (f:Int) (g:Y8) (h:Int):SC (TMe×Int) (TMe×Int) :=
.a 1 4 2 (@F_q2n_ok e f g h) fun b=>
.ite (b.2 != 0) (
.r ((⟨0,0,[],0,0,0,0,0⟩:TMe),b.2)) (
 let d:=(e.E.getD b.1.toNat dF)
 let c:=(i64.wrap (f-1))
.guard [(0:Int)<=b.1,b.1.toNat<e.E.length,(0:Int)<=c,c.toNat<d.A.length,c.toNat<d.F.length]<|
.reg 4 [24] [] [.ev 0,.ev 1,.ev 2,.ev 3,.ev 0,.ev 1,.ev 2,.ev 4]<|
.r ((⟨0,f,g,h,(d.A.getD c.toNat dF),(d.F.getD c.toNat dF),0,0⟩:TMe),0))
def F_q4p (a:TTr) (b:Int) (c:Y8) (d:Int):=(S_q4p a b c d).den
theorem F_q4p_ok {a:TTr} {b:Int} {c:Y8} {e:Int}:FO (F_q4p a b c e) 47 [(TTr.d a),(vi b),(AV.d (Rf c)),(vi e)] [] (fun x=>(Rg [(TMe.d x.1),(vi x.2)])) NL:=fO (s:=S_q4p a b c e) Tryz.func47
def S_q45 (c:TWo) (g:TMe):SC (TWo×Int) (TWo×Int) :=
 let f:=(⟨(⟨0,[]⟩:TTr),[],[]⟩:TWo)
.reg 0 [] [(2,{ obs:=[(2,(TWo.b f))] })] [.pf cz9]<|
.ite ((c.O.length:Int)==200) (
.reg 2 [] [(0,hv (TWo.d f))] [.pf z25]<|
.r (f,3)) (
.guard [c.O.length * (2 * 72)<=2 ^ 48,(c.O.length+1) * (2 * 72)<=2 ^ 48]<|
 let a:=([g]:List TMe)
.reg 3 [3,6,8] [(3,{ h:=.obj }),(5,hv (AV.d (eL TMe.e a))),(6,{ cast:=some (Rb 3 ((c.O++a).length) 0 ((c.O++a).length)),obs:=[(3,(eS 8 TMe.e (c.O++a)))] })] [.pf (p:=∀ k,k<c.O.length->(TMe.d (c.O.getD k dF)).wd=8) (fun _ _=>rfl),.ev 0,.pf (z9 TMe.e a),.pf (z9 TMe.e a),.e c.O.length,.e c.O.length,.pf (p:=∀ k,k<1->(TMe.d (a.getD k dF)).wd=8) (fun _ _=>rfl),.ev 1,.pf (zw (o:=3) (l:=c.O) (x:=a)),.pf (zy (sz:=8) (e:=TMe.e) (l:=c.O) (x:=a))]<|
.guard [(c.O++a).length<2 ^ 63]<|
.frz 3 (.ev 0) none [] [0]<|
.r ((⟨c.I,c.K,(c.O++a)⟩:TWo),0))
def F_q45 (a:TWo) (b:TMe):=(S_q45 a b).den
theorem F_q45_ok {a:TWo} {b:TMe}:FO (F_q45 a b) 48 [(TWo.d a),(TMe.d b)] [] (fun x=>(Rg [(TWo.d x.1),(vi x.2)])) NL:=fO (s:=S_q45 a b) Tryz.func48
def S_q4q (e:TJo):SC Bool Bool :=
.call (@F_q5_ok e) fun d a=>
 let c:=(TOf.b (⟨0,[],(⟨[],[],[],[]⟩:TBo)⟩:TOf))
.reg 1 [] [(1,hc a [] true),(6,{ obs:=[(1,c)] }),(7,{ obs:=[(2,c)] })] [.cl 0 a [] 1 true,.pf z18,.pf z18]<|
.r d.2.2
def F_q4q (a:TJo):=(S_q4q a).den
theorem F_q4q_ok {a:TJo}:FO (F_q4q a) 151 [(TJo.d a)] [] vb NL:=fO (s:=S_q4q a) Tryz.func151
end
end Go.Proofs.YtgbpiaddmclccaaGreatDoor
/- What the functions compute,and that their calls return it. No condition. -/
namespace Go.Proofs.YtgbpiaddmclccaaGreatDoor
open Go Go.TA
open Go.IntKind (i64)
noncomputable section
set_option maxRecDepth 100000
def S_q5w (d:TJo):SC TJo TJo :=
.reg 0 [] [(1,{ obs:=[(1,(TJo.b (⟨0,[],0⟩:TJo)))] })] [.pf cz2]<|
.a 1 1 2 (@F_q4q_ok d) fun e=>
.cut none [1,2] (fun (_:TJo)=>[]) (fun c=>[(0,(TJo.b c))]) (
.ite e (
.r (.next (⟨d.Z,d.N,(d.N.length:Int)⟩:TJo))) (
.r (.next d))) fun c=>
.r c
def F_q5w (a:TJo):=(S_q5w a).den
theorem F_q5w_ok {a:TJo}:FO (F_q5w a) 101 [(TJo.d a)] [] (fun x=>(TJo.d x)) NL:=fO (s:=S_q5w a) Tryz.func101
def S_q3o (a:TWo) (n:TJo):SC TWo TWo :=
 let f:=(TWo.b (⟨(⟨0,[]⟩:TTr),[],[]⟩:TWo))
.reg 0 [] [(2,{ obs:=[(2,f)] })] [.pf cz9]<|
.guard [a.K.length * (2 * 40)<=2 ^ 48]<|
.reg 1 [] [(3,{ h:=.obj })] [.pf (p:=∀ k,k<a.K.length->(TJo.d (a.K.getD k dF)).wd=3) (fun _ _=>rfl),.ev 0]<|
 let g:=(i64.wrap (n.Z-1))
 let j:=(0+g.toNat)
.guard [(0:Int)<=g,g.toNat<a.K.length,j<a.K.length]<|
 let c:=(a.K.set j n)
 let m:=(eS 3 TJo.e c)
.reg 2 [] [(7,{ obs:=[(3,m)] })] [.e a.K.length,.ev 0,.ev 1,.e a.K.length,.ev 2,.pf (zk (sz:=3) (e:=TJo.e) (l:=a.K) (i:=j) (x:=n) (fun _=>rfl))]<|
 let o:=[(2,(vp 0)),(4,(vp 2))]
.cst (A:=True) (.pf trivial) o o [(Rd (Rc [(TTr.d a.I),(Rb 3 a.K.length 0 a.K.length),(AV.d (eL TMe.e a.O))])),(TJo.b n),f,m] [(Rd (Rc [(TTr.d a.I),(Rb 3 c.length 0 c.length),(AV.d (eL TMe.e a.O))])),(TJo.b n),f,m] (fun _=>⟨Zd,Zb⟩)<|
.guard [c.length<2 ^ 63]<|
.reg 3 [] [] []<|
.frz 3 (.ev 0) none [] [0,2]<|
.r (⟨a.I,c,a.O⟩:TWo)
def F_q3o (a:TWo) (b:TJo):=(S_q3o a b).den
theorem F_q3o_ok {a:TWo} {b:TJo}:FO (F_q3o a b) 100 [(TWo.d a),(TJo.d b)] [] (fun x=>(TWo.d x)) NL:=fO (s:=S_q3o a b) Tryz.func100
theorem zvk:∀ k,k<0->(DV.b false).wd=10:=fun _ h=>absurd h (y3a _)
def S_q5x (f:TJo):SC TJo TJo :=
.reg 0 [] [(1,{ obs:=[(1,(TJo.b (⟨0,[],0⟩:TJo)))] })] [.pf cz2]<|
.a 1 1 2 (@F_q4q_ok f) fun h=>
.cut none [1,2] (fun (_:TJo)=>[]) (fun g=>[(0,(TJo.b g))]) (
.ite h (
 let c:=(f.N.take f.Af.toNat)
.guard [(0:Int)<=f.Af,f.Af.toNat<=f.N.length,(0+c.length) * (2 * 88)<=2 ^ 48]<|
.reg 2 [] [(5,hv (AV.d (eL TOp.e c))),(6,hv (AV.d (eL TOp.e c)))] [.ev 0,.ev 1,.der (fun (h0:f.Af.toNat<=f.N.length)=>lvT TOp.e f.N h0) 1,.pf (p:=∀ k,k<c.length->AV.d (TOp.e (c.getD k dF))=AV.d (TOp.e (c.getD k dF))/\(TOp.e (c.getD k dF)).wd=10) (fun _ _=>⟨rfl,rfl⟩),.pf zvk,.ev 2,.pf (z3o (e:=TOp.e) (x:=c))]<|
.r (.next (⟨f.Z,c,f.Af⟩:TJo))) (
.r (.next f))) fun g=>
.r g
def F_q5x (a:TJo):=(S_q5x a).den
theorem F_q5x_ok {a:TJo}:FO (F_q5x a) 102 [(TJo.d a)] [] (fun x=>(TJo.d x)) NL:=fO (s:=S_q5x a) Tryz.func102
theorem zfd:LeV (AV.d (DV.agg [(DV.i .i64 0),Z0,(DV.i .i64 0)])) (TJo.d (⟨0,[],0⟩:TJo)):=z2o rfl (DLe.agg (DLeL.cons (DLe.refl _) (DLeL.cons DLe.sl0 (DLeL.cons (DLe.refl _) DLeL.nil))))
def S_q4r (c:TJo) (t:TOp):SC (TJo×Int) (TJo×Int) :=
 let f:=(⟨0,[],0⟩:TJo)
.reg 0 [] [(2,{ obs:=[(2,(TJo.b f))] })] [.pf cz2]<|
.call (@F_q44_ok c) fun g j=>
 let m:=(TOf.b (⟨0,[],(⟨[],[],[],[]⟩:TBo)⟩:TOf))
.reg 1 [] [(1,hc j [] true),(5,{ obs:=[(3,m)] })] [.cl 0 j [] 3 true,.pf z18]<|
.calld [(g.2 != 0)=false] dF (@F_qj_ok t) fun u n =>
.reg 2 [] [(4,hc n [] true)] [.clg 0 [(g.2 != 0)=false] n [] 4 true]<|
 let i:=(0,hv (TJo.d f))
.ite (cO (g.2 != 0) (!u)) (
.reg 3 [] [i] [.pf zfd]<|
.r (f,1)) (
.call (@F_q4m_ok g.1 t) fun q s=>
.reg 4 [] [(2,hc s [] true),(6,{ obs:=[(4,m)] })] [.cl 0 s [] 4 true,.pf z18]<|
.ite (q.2 != 0) (
.reg 6 [] [i] [.pf zfd]<|
.r (f,q.2)) (
.ite ((c.N.length:Int)==400) (
.reg 8 [] [i] [.pf zfd]<|
.r (f,3)) (
.guard [c.N.length * (2 * 88)<=2 ^ 48,(c.N.length+1) * (2 * 88)<=2 ^ 48]<|
 let a:=([t]:List TOp)
.reg 9 [3,6,8] [(3,{ h:=.obj }),(5,hv (AV.d (eL TOp.e a))),(6,{ cast:=some (Rb 5 ((c.N++a).length) 0 ((c.N++a).length)),obs:=[(5,(eS 10 TOp.e (c.N++a)))] })] [.pf (p:=∀ k,k<c.N.length->(TOp.d (c.N.getD k dF)).wd=10) (fun _ _=>rfl),.ev 0,.pf (z9 TOp.e a),.pf (z9 TOp.e a),.e c.N.length,.e c.N.length,.pf (p:=∀ k,k<1->(TOp.d (a.getD k dF)).wd=10) (fun _ _=>rfl),.ev 1,.pf (zw (o:=5) (l:=c.N) (x:=a)),.pf (zy (sz:=10) (e:=TOp.e) (l:=c.N) (x:=a))]<|
.guard [(c.N++a).length<2 ^ 63]<|
.frz 5 (.ev 0) none [] [0]<|
.r ((⟨c.Z,(c.N++a),c.Af⟩:TJo),0))))
def F_q4r (a:TJo) (b:TOp):=(S_q4r a b).den
theorem F_q4r_ok {a:TJo} {b:TOp}:FO (F_q4r a b) 103 [(TJo.d a),(TOp.d b)] [] (fun x=>(Rg [(TJo.d x.1),(vi x.2)])) NL:=fO (s:=S_q4r a b) Tryz.func103
def S_q5y (g:TJo):SC (TOf×Int) (TOf×Int) :=
 let a:=(⟨0,[],(⟨[],[],[],[]⟩:TBo)⟩:TOf)
 let c:=(TOf.b a)
.reg 0 [] [(1,{ obs:=[(1,c)] })] [.pf z18]<|
.call (@F_q5_ok g) fun e f=>
.reg 1 [] [(1,hc f [] true),(6,{ obs:=[(2,c)] }),(7,{ obs:=[(3,c)] })] [.cl 0 f [] 2 true,.pf z18,.pf z18]<|
.ite (!e.2.2) (
.reg 3 [] [(0,hv (TOf.d a))] [.pf z1v]<|
.r (a,1)) (
.r (e.2.1,0))
def F_q5y (a:TJo):=(S_q5y a).den
theorem F_q5y_ok {a:TJo}:FO (F_q5y a) 104 [(TJo.d a)] [] (fun x=>(Rg [(TOf.d x.1),(vi x.2)])) NL:=fO (s:=S_q5y a) Tryz.func104
def S_q5z (b:TOf) (f:Y8) (g:Int):SC (TMe×Int) (TMe×Int) :=
.a 1 1 2 (@F_ql_ok b) fun h=>
 let c:=(⟨0,0,[],0,0,0,0,0⟩:TMe)
.ite (!h) (
.r (c,1)) (
.a 3 3 2 (@F_q19_ok b f g) fun i=>
.ite (decide (i<0)) (
.r (c,6)) (
.call (@F_q2j_ok b f g) fun j d=>
.call (@F_qp_ok b.Ag f g) fun k e=>
.reg 5 [15] [(7,hc d [] true),(13,hc e [] true)] [.cl 1 d [] 2 true,.cl 0 e [] 2 true]<|
.r ((⟨b.S,0,f,g,0,0,j.Q,k⟩:TMe),0)))
def F_q5z (a:TOf) (b:Y8) (c:Int):=(S_q5z a b c).den
theorem F_q5z_ok {a:TOf} {b:Y8} {c:Int}:FO (F_q5z a b c) 105 [(TOf.d a),(AV.d (Rf b)),(vi c)] [] (fun x=>(Rg [(TMe.d x.1),(vi x.2)])) NL:=fO (s:=S_q5z a b c) Tryz.func105
def S_q60 (i:TWo) (e:TSt):SC (TWo×Int) (TWo×Int) :=
 let c:=(⟨(⟨0,[]⟩:TTr),[],[]⟩:TWo)
.reg 0 [] [(2,{ obs:=[(2,(TWo.b c))] })] [.pf cz9]<|
.a 1 3 3 (@F_q3b_ok i e.Z) fun u=>
 let f:=(0,hv (TWo.d c))
.ite (!u) (
.reg 2 [] [f] [.pf z25]<|
.r (c,6)) (
 let j:=(i64.wrap (e.Z-1))
.guard [(0:Int)<=j,j.toNat<i.K.length]<|
 let m:=(TJo.b (⟨0,[],0⟩:TJo))
.reg 3 [] [(7,{ obs:=[(3,m)] })] [.ev 0,.ev 1,.pf cz2]<|
 let g:=(i.K.getD j.toNat dF)
.ite (e.U==6) (
.call (@F_q5w_ok g) fun v n=>
.call (@F_q3o_ok i v) fun w o=>
.reg 6 [4] [(2,hc n [] true),(3,hc o [] true)] [.cl 1 n [] 4 true,.cl 0 o [] 4 true]<|
.r (w,0)) (
.ite (e.U==7) (
.call (@F_q5x_ok g) fun x p=>
.call (@F_q3o_ok i x) fun y q=>
.reg 8 [4] [(2,hc p [] true),(3,hc q [] true)] [.cl 1 p [] 4 true,.cl 0 q [] 4 true]<|
.r (y,0)) (
.ite (e.U==5) (
.ite (e.Op.U==8) (
.reg 11 [] [f] [.pf z25]<|
.r (c,9)) (
.call (@F_q4r_ok g e.Op) fun k s=>
.reg 12 [] [(3,hc s [] true),(7,{ obs:=[(4,m)] })] [.cl 0 s [] 4 true,.pf cz2]<|
.ite (k.2 != 0) (
.reg 14 [] [f] [.pf z25]<|
.r (c,k.2)) (
.a 15 2 5 (@F_q3o_ok i k.1) fun z=>
.r (z,0)))) (
.call (@F_q5y_ok g) fun A t=>
.reg 16 [] [(1,hc t [] true),(5,{ obs:=[(4,(TOf.b (⟨0,[],(⟨[],[],[],[]⟩:TBo)⟩:TOf)))] })] [.cl 0 t [] 4 true,.pf z18]<|
.a 17 5 5 (@F_q5z_ok A.1 e.B e.D) fun l=>
.ite (l.2 != 0) (
.reg 19 [] [f] [.pf z25]<|
.r (c,l.2)) (
.a 20 2 6 (@F_q45_ok i l.1) fun h=>
.r (h.1,h.2))))))
def F_q60 (a:TWo) (b:TSt):=(S_q60 a b).den
theorem F_q60_ok {a:TWo} {b:TSt}:FO (F_q60 a b) 49 [(TWo.d a),(TSt.d b)] [] (fun x=>(Rg [(TWo.d x.1),(vi x.2)])) NL:=fO (s:=S_q60 a b) Tryz.func49
def S_q61 (a0:TTr) (z:TMe):SC (TTr×Int) (TTr×Int) :=
 let S:=(TTr.b (⟨0,[]⟩:TTr))
.reg 0 [] [(2,{ obs:=[(2,S)] })] [.pf cz4]<|
.a 1 1 3 (@F_q15_ok a0) fun ad=>
 let J:=(TTr.d (⟨0,[]⟩:TTr))
.ite (cO (!ad) (z.To != 0)) (
.reg 2 [] [(0,hv J)] [.pf cz5]<|
.r ((⟨0,[]⟩:TTr),1)) (
.a 3 7 3 (@F_q2n_ok a0 z.Aa z.B z.D) fun o=>
.ite (o.2 != 0) (
.reg 5 [] [(0,hv J)] [.pf cz5]<|
.r ((⟨0,[]⟩:TTr),o.2)) (
 let t:=(i64.wrap (z.Aa-1))
 let q:=o.1.toNat
 let s:=(decide (z.Q<0))
 let U:=((a0.E.getD q dF).A)
 let Z:=(cO s (decide (z.Q>(U.getD t.toNat dF))))
.calld [Z=false] dF (@F_qo_ok z.M) fun ae aa =>
.guard [AllP [s=false]->((0:Int)<=o.1),AllP [s=false]->(o.1.toNat<a0.E.length),AllP [s=false]->((0:Int)<=t),AllP [s=false]->(t.toNat<U.length)]<|
.reg 6 [] [(22,hc aa [] true)] [.ev 0,.ev 1,.ev 2,.ev 3,.clg 4 [Z=false] aa [] 3 true]<|
.ite (cO Z (!ae)) (
.reg 7 [] [(0,hv J)] [.pf cz5]<|
.r ((⟨0,[]⟩:TTr),2)) (
.call (@F_q1j_ok a0 q) fun f ab=>
.reg 8 [] [(1,hc ab [] false),(2,{ obs:=[(11,S)] })] [.cl 0 ab [] 3 false,.pf cz4]<|
.kill 4<|
 let c:=(f.2.getD q dF)
 let g:=(0+t.toNat)
.guard [(0:Int)<=o.1,o.1.toNat<f.2.length,(0:Int)<=t,t.toNat<c.G.length,g<c.G.length]<|
 let V:=(c.G.getD g dF)
 let W:=(if z.Q>V then z.Q else V)
 let j:=(c.G.set g W)
 let C:=(Ri 6 f.2.length [.x q 7])
 let K:=(Ri 6 f.2.length [.x (0+q) 7])
 let u:=(eQ j)
 let L:=(o.1.toNat=o.1.toNat)
 let v:=c.G.length
.reg 9 [24] [(3,hv C),(12,hv C),(24,{ obs:=[(8,u)] })] [.e f.2.length,.ev 0,.ev 1,.pf (p:=LeV K C) z54,.e f.2.length,.e f.2.length,.ev 1,.pf (p:=decide L=true) (y9 rfl),.e f.2.length,.ev 0,.ev 1,.pf (p:=LeV K C) z54,.e f.2.length,.e f.2.length,.ev 1,.pf (p:=decide L=true) (y9 rfl),.e v,.ev 2,.ev 3,.e v,.ev 4,.e v,.ev 2,.ev 3,.e v,.ev 4,.pf (zk (sz:=1) (e:=Ra) (l:=c.G) (i:=g) (x:=W) (fun _=>rfl))]<|
.guard [t.toNat<c.M.length,g<c.M.length]<|
 let k:=(c.M.set g z.M)
 let w:=(eQ k)
.reg 10 [12] [(3,hv C),(12,{ obs:=[(10,w)] })] [.e f.2.length,.ev 2,.ev 3,.pf (p:=LeV K C) z54,.e f.2.length,.e f.2.length,.ev 3,.pf (p:=decide L=true) (y9 rfl),.e c.M.length,.ev 4,.ev 0,.e c.M.length,.ev 1,.pf (zk (sz:=1) (e:=Ra) (l:=c.M) (i:=g) (x:=z.M) (fun _=>rfl))]<|
.reg 11 [] [] []<|
.guard [j.length=c.G.length/\k.length=c.M.length]<|
 let m:=(TTr.b a0)
 let n:=(TMe.b z)
 let N:=(eQ c.A)
 let O:=(eQ c.F)
 let R:=(AV.d (Rf c.B))
.cst (A:=j.length=c.G.length/\k.length=c.M.length) (.ev 0) [(4,(vp 2)),(5,(vi 0))] [(4,(vp 2)),(5,(vi 0))] [m,n,(Rd (Rc [(vi f.1),(Rb 6 f.2.length 0 f.2.length)])),Re,Re,Re,(opS 7 TPo.e q (Rc [R,(vi c.D),(vi c.T),(Rb 7 c.A.length 0 c.A.length),(Rb 8 c.G.length 0 c.G.length),(Rb 9 c.F.length 0 c.F.length),(Rb 10 c.M.length 0 c.M.length)]) f.2),N,u,O,w,(Rd (Rc [(vi f.1),(Rb 6 f.2.length 0 f.2.length)]))] [m,n,(Rd (Rc [(vi f.1),(Rb 6 f.2.length 0 f.2.length)])),Re,Re,Re,(opS 7 TPo.e q (Rc [R,(vi c.D),(vi c.T),(Rb 7 c.A.length 0 c.A.length),(Rb 8 j.length 0 j.length),(Rb 9 c.F.length 0 c.F.length),(Rb 10 k.length 0 k.length)]) f.2),N,u,O,w,(Rd (Rc [(vi f.1),(Rb 6 f.2.length 0 f.2.length)]))] (fun h=>⟨rfl,by rw[h.1,h.2]⟩)<|
.guard [c.A.length<2 ^ 63/\j.length<2 ^ 63/\c.F.length<2 ^ 63/\k.length<2 ^ 63]<|
 let X:=(⟨c.B,c.D,c.T,c.A,j,c.F,k⟩:TPo)
 let H:=(f.2.set q X)
 let I:=(Rc [(vi f.1),(Rb 6 f.2.length 0 f.2.length)])
 let ac:=[m,n,(Rd I),Re,Re,Re,(eS 7 TPo.e H),Re,Re,Re,Re,(Rd I)]
 let y:=[(4,(vp 2)),(5,(vi 0))]
.sh (A:=c.A.length<2 ^ 63/\j.length<2 ^ 63/\c.F.length<2 ^ 63/\k.length<2 ^ 63) (.ev 0) y y [m,n,(Rd I),Re,Re,Re,(opS 7 TPo.e q (Rc [R,(vi c.D),(vi c.T),(Rb 7 c.A.length 0 c.A.length),(Rb 8 j.length 0 j.length),(Rb 9 c.F.length 0 c.F.length),(Rb 10 k.length 0 k.length)]) f.2),N,u,O,w,(Rd I)] ac (fun h=>z1j oTApiPot (P:=[m,n,(Rd I),Re,Re,Re]) (D:=[(Rd I)]) rfl (⟨c.B,c.D,c.T,[],[],[],[]⟩:TPo) X h rfl) (z14 _)<|
 let Y:=(Rc [(vi f.1),(Rb 6 H.length 0 H.length)])
.cst (A:=True) (.pf trivial) y y ac [m,n,(Rd Y),Re,Re,Re,(eS 7 TPo.e H),Re,Re,Re,Re,(Rd Y)] (fun _=>⟨Zd,Zb⟩)<|
.guard [H.length<2 ^ 63]<|
.frz 6 (.ev 0) none [] [2,11]<|
.r ((⟨f.1,H⟩:TTr),0))))
def F_q61 (a:TTr) (b:TMe):=(S_q61 a b).den
theorem F_q61_ok {a:TTr} {b:TMe}:FO (F_q61 a b) 152 [(TTr.d a),(TMe.d b)] [] (fun x=>(Rg [(TTr.d x.1),(vi x.2)])) NL:=fO (s:=S_q61 a b) Tryz.func152
def S_q46 (g:TWo) (i:Int):SC TWo TWo :=
.reg 0 [] [(1,{ obs:=[(1,(TWo.b (⟨(⟨0,[]⟩:TTr),[],[]⟩:TWo)))] })] [.pf cz9]<|
 let f:=(i64.wrap (i+1))
 let c:=(g.O.drop f.toNat)
 let a:=(g.O.take i.toNat)
.guard [(0:Int)<=i,i.toNat<=g.O.length,a.length * (2 * 72)<=2 ^ 48,(0:Int)<=f,f.toNat<=g.O.length,(a.length+c.length) * (2 * 72)<=2 ^ 48]<|
.reg 1 [5,11,13] [(4,hv (AV.d (eL TMe.e a))),(5,{ h:=.obj }),(10,hv (AV.d (eL TMe.e c))),(11,{ cast:=some (Rb 2 ((a++c).length) 0 ((a++c).length)),obs:=[(2,(eS 8 TMe.e (a++c)))] })] [.ev 0,.ev 1,.der (fun (h0:i.toNat<=g.O.length)=>lvT TMe.e g.O h0) 1,.pf (p:=∀ k,k<a.length->(TMe.d (a.getD k dF)).wd=8) (fun _ _=>rfl),.ev 2,.ev 3,.ev 4,.pf (lvD TMe.e g.O f.toNat),.ev 3,.ev 4,.pf (lvD TMe.e g.O f.toNat),.e a.length,.e a.length,.pf (p:=∀ k,k<c.length->(TMe.d (c.getD k dF)).wd=8) (fun _ _=>rfl),.ev 5,.pf (zw (o:=2) (l:=a) (x:=c)),.pf (zy (sz:=8) (e:=TMe.e) (l:=a) (x:=c))]<|
.guard [(a++c).length<2 ^ 63]<|
.frz 2 (.ev 0) none [] [0]<|
.r (⟨g.I,g.K,(a++c)⟩:TWo)
def F_q46 (a:TWo) (b:Int):=(S_q46 a b).den
theorem F_q46_ok {a:TWo} {b:Int}:FO (F_q46 a b) 107 [(TWo.d a),(vi b)] [] (fun x=>(TWo.d x)) NL:=fO (s:=S_q46 a b) Tryz.func107
def S_q62 (f:TWo) (n:Int):SC (TWo×Int) (TWo×Int) :=
 let e:=(⟨(⟨0,[]⟩:TTr),[],[]⟩:TWo)
.reg 0 [] [(1,{ obs:=[(1,(TWo.b e))] })] [.pf cz9]<|
.guard [(0:Int)<=n,n.toNat<f.O.length]<|
.reg 1 [] [] [.ev 0,.ev 1]<|
.cut none [1,2,4] (fun (_:TWo)=>[]) (fun g=>[(0,(TWo.b g))]) (
 let c:=(f.O.getD n.toNat dF)
 let l:=(0,hv (TWo.d e))
.ite (c.To==0) (
.call (@F_q61_ok f.I c) fun h m=>
.reg 3 [] [(3,hc m [] true),(7,{ obs:=[(3,(TTr.b (⟨0,[]⟩:TTr)))] })] [.cl 0 m [] 3 true,.pf cz4]<|
.ite (h.2 != 0) (
.reg 5 [] [l] [.pf z25]<|
.r (.ret (e,h.2))) (
.r (.next (⟨h.1,f.K,f.O⟩:TWo)))) (
 let i:=(i64.wrap (c.To-1))
.call (@F_q4r_ok (f.K.getD i.toNat dF) (⟨8,c.B,c.D,0,0,0,0,0,c.A,c.F⟩:TOp)) fun j k=>
.guard [(0:Int)<=i,i.toNat<f.K.length]<|
.reg 7 [20,21] [(16,hc k [] true),(20,{ obs:=[(3,(TJo.b (⟨0,[],0⟩:TJo)))] })] [.ev 0,.ev 1,.ev 0,.ev 1,.cl 2 k [] 3 true,.cl 2 k [] 4 true,.pf cz2]<|
.ite (j.2 != 0) (
.reg 9 [] [l] [.pf z25]<|
.r (.ret (e,j.2))) (
.a 10 2 4 (@F_q3o_ok f j.1) fun o=>
.r (.next o)))) fun g=>
.a 11 2 3 (@F_q46_ok g n) fun p=>
.r (p,0)
def F_q62 (a:TWo) (b:Int):=(S_q62 a b).den
theorem F_q62_ok {a:TWo} {b:Int}:FO (F_q62 a b) 106 [(TWo.d a),(vi b)] [] (fun x=>(Rg [(TWo.d x.1),(vi x.2)])) NL:=fO (s:=S_q62 a b) Tryz.func106
def S_q63 (f:TWo) (c:TSt):SC (TWo×Int) (TWo×Int) :=
 let e:=(⟨(⟨0,[]⟩:TTr),[],[]⟩:TWo)
.reg 0 [] [(2,{ obs:=[(2,(TWo.b e))] })] [.pf cz9]<|
.ite (cO (decide (c.Aj<0)) (decide (c.Aj>=(f.O.length:Int)))) (
.reg 2 [] [(0,hv (TWo.d e))] [.pf z25]<|
.r (e,6)) (
.ite (c.U==9) (
.a 5 3 3 (@F_q62_ok f c.Aj) fun g=>
.r (g.1,g.2)) (
.ite (c.U==11) (
.call (@F_q45_ok f (f.O.getD c.Aj.toNat dF)) fun h i=>
.guard [(0:Int)<=c.Aj,c.Aj.toNat<f.O.length]<|
.reg 7 [10] [(7,hc i [] true)] [.ev 0,.ev 1,.cl 2 i [] 3 true]<|
.r (h.1,h.2)) (
.a 8 3 3 (@F_q46_ok f c.Aj) fun j=>
.r (j,0))))
def F_q63 (a:TWo) (b:TSt):=(S_q63 a b).den
theorem F_q63_ok {a:TWo} {b:TSt}:FO (F_q63 a b) 50 [(TWo.d a),(TSt.d b)] [] (fun x=>(Rg [(TWo.d x.1),(vi x.2)])) NL:=fO (s:=S_q63 a b) Tryz.func50
end
end Go.Proofs.YtgbpiaddmclccaaGreatDoor
/- What the functions compute,and that their calls return it. No condition. -/
namespace Go.Proofs.YtgbpiaddmclccaaGreatDoor
open Go Go.TA
open Go.IntKind (i64)
noncomputable section
set_option maxRecDepth 100000
def S_q3d (f:TWo) (c:TSt):SC (TWo×Int) (TWo×Int) :=
 let g:=(⟨(⟨0,[]⟩:TTr),[],[]⟩:TWo)
.reg 0 [] [(2,{ obs:=[(2,(TWo.b g))] })] [.pf cz9]<|
.a 1 1 3 (@F_q0_ok f) fun s=>
 let j:=(0,hv (TWo.d g))
.ite (!s) (
.reg 2 [] [j] [.pf z25]<|
.r (g,1)) (
.reg 3 [] [(2,{ obs:=[(3,(TTr.b (⟨0,[]⟩:TTr)))] })] [.pf cz4]<|
.cut (some 0) [2,4,6] (fun (e:TTr×Int)=>[(7,(vi e.2))]) (fun e=>[(3,(TTr.b e.1))]) (
.ite (c.U==1) (
.a 7 8 4 (@F_q1i_ok f.I c.B c.D c.V) fun m=>
.r (.next (m.1,m.2))) (
.ite (c.U==2) (
.a 9 10 4 (@F_q5v_ok f.I c.Z c.B c.D c.V) fun n=>
.r (.next (n.1,n.2))) (
.ite (c.U==3) (
.a 11 10 4 (@F_q4o_ok f.I c.Z c.B c.D c.V) fun o=>
.r (.next (o.1,o.2))) (
.ite (c.U==4) (
.a 13 8 4 (@F_q4p_ok f.I c.Z c.B c.D) fun k=>
.ite (k.2 != 0) (
.reg 15 [] [j] [.pf z25]<|
.r (.ret (g,k.2))) (
.a 16 2 5 (@F_q45_ok f k.1) fun p=>
.r (.ret (p.1,p.2)))) (
.cut none [2,3,4,6,17] (fun (l:Bool)=>[(87,(vb l))]) (fun _=>[]) (
.ite (c.U==5) (
.r (.next (c.U==5))) (
.ite (c.U==6) (
.r (.next (c.U==6))) (
.ite (c.U==7) (
.r (.next (c.U==7))) (
.r (.next (c.U==8)))))) fun l=>
.ite l (
.a 21 2 4 (@F_q60_ok f c) fun q=>
.r (.ret (q.1,q.2))) (
.cut none [2,3,4,6] (fun (h:Bool)=>[(97,(vb h))]) (fun _=>[]) (
.ite (c.U==9) (
.r (.next (c.U==9))) (
.ite (c.U==10) (
.r (.next (c.U==10))) (
.r (.next (c.U==11))))) fun h=>
.ite h (
.a 25 2 4 (@F_q63_ok f c) fun i=>
.r (.ret (i.1,i.2))) (
.r (.next (f.I,1))))))))) fun e=>
.ite (e.2 != 0) (
.reg 27 [] [j] [.pf z25]<|
.r (g,e.2)) (
.r ((⟨e.1,f.K,f.O⟩:TWo),0)))
def F_q3d (a:TWo) (b:TSt):=(S_q3d a b).den
theorem F_q3d_ok {a:TWo} {b:TSt}:FO (F_q3d a b) 20 [(TWo.d a),(TSt.d b)] [] (fun x=>(Rg [(TWo.d x.1),(vi x.2)])) NL:=fO (s:=S_q3d a b) Tryz.func20
abbrev R_q1z:=(List TSt)×TTape
def S_q1z_b1 (z:Int) (A:Int) (a:TTape×TWo×(List TSt)×Int×Int):SC R_q1z (Step (TTape×TWo×(List TSt)×Int×Int) R_q1z) :=
.ite (decide (a.2.2.2.2<A)) (
.call (@F_q2_ok 9 a.1) fun n q=>
 let g:=([0,1,n.1]:List Int)
.call (@F_q8_ok g n.2) fun s t=>
.reg 7 [] [(3,hc q [0] false),(4,hv (vl g)),(5,hc t [0] false)] [.cl 1 q [0] 3 false,.pf (z9 Ra g),.cl 0 t [0] 3 false]<|
 let u:=(i64.wrap (a.2.2.2.1+s.1))
.call (@F_q3n_ok a.2.1 z a.2.2.2.2 u s.2) fun j y=>
.k 8 5 y [0] 3 false<|
.call (@F_q3d_ok a.2.1 j.1) fun v w=>
.reg 9 [] [(2,hc w [] true),(6,{ obs:=[(4,(TWo.b (⟨(⟨0,[]⟩:TTr),[],[]⟩:TWo)))] })] [.cl 0 w [] 4 true,.pf cz9]<|
.cut none [0,1,2,7,9,10,11,12] (fun (_:TWo)=>[]) (fun m=>[(1,(TWo.b m))]) (
.ite (v.2==0) (
.r (.next v.1)) (
.r (.next a.2.1))) fun m=>
.guard [(a.2.2.1.length+1) * (2 * 144)<=2 ^ 48]<|
 let c:=([j.1]:List TSt)
 let f:=(a.2.2.1++c)
.reg 12 [] [(2,hv (AV.d (eL TSt.e c))),(3,{ h:=.obj,cast:=some (Rb 2 f.length 0 f.length),obs:=[(2,(eS 16 TSt.e f))] })] [.pf (z9 TSt.e c),.e a.2.2.1.length,.e a.2.2.1.length,.pf (p:=∀ k,k<1->(TSt.d (c.getD k dF)).wd=16) (fun _ _=>rfl),.ev 0,.pf (zw (o:=2) (l:=a.2.2.1) (x:=c)),.pf (zy (sz:=16) (e:=TSt.e) (l:=a.2.2.1) (x:=c))]<|
.r (.cont (j.2,m,f,u,(i64.wrap (a.2.2.2.2+1))))) (
.r (.brk (a.1,a.2.1,a.2.2.1,a.2.2.2.1,a.2.2.2.2)))
def S_q1z (g:Int) (h:Int) (i:TTape):SC R_q1z R_q1z :=
.call (@F_q1q_ok g) fun f c=>
.reg 1 [] [(1,hc c [] true),(5,{ obs:=[(1,(TWo.b (⟨(⟨0,[]⟩:TTr),[],[]⟩:TWo)))] })] [.cl 0 c [] 1 true,.pf cz9]<|
.reg 4 [] [] []<|
.bor 16 (fun j=>AV.d (TSt.e (([]:List TSt).getD j dF))) [9]<|
.iter [0,1,2,7] (fun (a:TTape×TWo×(List TSt)×Int×Int)=>[(9,(Rb 2 a.2.2.1.length 0 a.2.2.1.length)),(10,(vi a.2.2.2.1)),(11,(vi a.2.2.2.2))]) (fun a=>[(0,(TTape.b a.1)),(1,(TWo.b a.2.1)),(2,(eS 16 TSt.e a.2.2.1))]) (i,f.1,([]:List TSt),4320,0) (S_q1z_b1 g h) (fun a =>
.guard [a.2.2.1.length<2 ^ 63]<|
.reg 13 [] [] []<|
.frz 2 (.ev 0) none [6] []<|
.r (a.2.2.1,a.1)) id
def F_q1z (a:Int) (b:Int) (c:TTape):=(S_q1z a b c).den
theorem F_q1z_ok {a:Int} {c:Int} {f:TTape}:FO (F_q1z a c f) 19 [(vp 0),(vi a),(vi c)] [(TTape.b f)] (fun x=>(AV.d (eL TSt.e x.1))) (fun x=>[(TTape.b x.2)]):=fO (s:=S_q1z a c f) Tryz.func19
abbrev R_q1a:=TWo×TTape
def S_q1a_b1 (g:R_q1z) (a:Nat) (d:TWo):SC R_q1a (Step TWo R_q1a) :=
.reg 4 [] [] [.w a,.ev 0]<|
.call (@F_q3d_ok d (g.1.getD a dF)) fun e f=>
.reg 5 [] [(2,hc f [] true),(6,{ obs:=[(4,(TWo.b (⟨(⟨0,[]⟩:TTr),[],[]⟩:TWo)))] })] [.cl 0 f [] 4 true,.pf cz9]<|
.ite (e.2==0) (
.c e.1) (
.c d)
def S_q1a (h:Int) (i:Int) (j:TTape):SC R_q1a R_q1a :=
 let d:=(TWo.b (⟨(⟨0,[]⟩:TTr),[],[]⟩:TWo))
.reg 0 [] [(0,{ obs:=[(1,d)] })] [.pf cz9]<|
.call (@F_q1q_ok h) fun f e=>
.reg 1 [] [(1,hc e [] true),(5,{ obs:=[(2,d)] })] [.cl 0 e [] 2 true,.pf cz9]<|
.call (@F_q1z_ok h i j) fun a g=>
.k 2 3 g [0] 3 false<|
.range (a.1.length:Int) a.1.length rfl (.slot 21) 23 [6,7,21,22] (fun (_:TWo)=>[]) (fun c=>[(2,(TWo.b c))]) f.1 (S_q1a_b1 a) (fun c => 
.r (c,a.2)) id
def F_q1a (a:Int) (b:Int) (c:TTape):=(S_q1a a b c).den
theorem F_q1a_ok {a:Int} {c:Int} {e:TTape}:FO (F_q1a a c e) 7 [(vp 0),(vi a),(vi c)] [(TTape.b e)] (fun x=>(TWo.d x.1)) (fun x=>[(TTape.b x.2)]):=fO (s:=S_q1a a c e) Tryz.func7
abbrev R_q64:=Y8×TTape
def S_q64 (c:TTape):SC R_q64 R_q64 :=
.call (@F_q2_ok 12 c) fun a b=>
.guard [(0:Int)<=a.1,a.1.toNat<12]<|
.reg 1 [] [(0,hv (AV.d (eL Rf ([[],[48],[48,49],[49,46],[46,49],[49,46,46,50],[49,48,48],[49,46,50,46,51,46,52,46,53],[120],[49,32],[57,57,46,57,57,46,57,57,46,57,57],[52]]:List Y8)))),(2,hc b [0] false)] [.pf (z9 Rf ([[],[48],[48,49],[49,46],[46,49],[49,46,46,50],[49,48,48],[49,46,50,46,51,46,52,46,53],[120],[49,32],[57,57,46,57,57,46,57,57,46,57,57],[52]]:List Y8)),.cl 2 b [0] 1 false,.ev 0,.ev 1]<|
.r ((([[],[48],[48,49],[49,46],[46,49],[49,46,46,50],[49,48,48],[49,46,50,46,51,46,52,46,53],[120],[49,32],[57,57,46,57,57,46,57,57,46,57,57],[52]]:List Y8).getD a.1.toNat dF),a.2)
def F_q64 (a:TTape):=(S_q64 a).den
theorem F_q64_ok {a:TTape}:FO (F_q64 a) 51 [(vp 0)] [(TTape.b a)] (fun x=>(AV.d (Rf x.1))) (fun x=>[(TTape.b x.2)]):=fO (s:=S_q64 a) Tryz.func51
end
end Go.Proofs.YtgbpiaddmclccaaGreatDoor
