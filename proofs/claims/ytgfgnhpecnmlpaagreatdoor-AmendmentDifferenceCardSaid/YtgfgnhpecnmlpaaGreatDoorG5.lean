/- A part of the proof: what the functions compute, and that their calls return it. No condition. -/
import Derived.Test.YtgfgnhpecnmlpaaGreatDoorG4
/- What the functions compute, and that their calls return it. No condition. -/
namespace Go.Proofs.YtgfgnhpecnmlpaaGreatDoor
open Go Go.TA
open Go.IntKind (i64)
noncomputable section
set_option maxRecDepth 100000
set_option maxHeartbeats 2000000
theorem zms:LeV (AV.d (DV.agg [(DV.i .i64 12),(DV.i .i64 1),(eL THe.e ([(⟨[49],[97]⟩:THe)]:List THe)),(eL TLi.e ([(⟨[49],12,500⟩:TLi)]:List TLi)),Z0,Z0,Z0,Z0,Z0,(eL TAm.e ([(⟨4330,1,([(⟨1,[49],12,600⟩:TCh)]:List TCh)⟩:TAm),(⟨4400,1,([(⟨1,[49],12,0⟩:TCh)]:List TCh)⟩:TAm)]:List TAm))])) (TLa.d (⟨12,1,([(⟨[49],[97]⟩:THe)]:List THe),([(⟨[49],12,500⟩:TLi)]:List TLi),[],[],[],[],[],([(⟨4330,1,([(⟨1,[49],12,600⟩:TCh)]:List TCh)⟩:TAm),(⟨4400,1,([(⟨1,[49],12,0⟩:TCh)]:List TCh)⟩:TAm)]:List TAm)⟩:TLa)):=z85 rfl (DLe.agg (DLeL.cons (DLe.refl _) (DLeL.cons (DLe.refl _) (DLeL.cons (DLe.refl _) (DLeL.cons (DLe.refl _) (DLeL.cons DLe.sl0 (DLeL.cons DLe.sl0 (DLeL.cons DLe.sl0 (DLeL.cons DLe.sl0 (DLeL.cons DLe.sl0 (DLeL.cons (DLe.refl _) DLeL.nil)))))))))))
def S_q2x:SC Bool Bool :=
 let D:=(⟨1,[49],12,600⟩:TCh)
 let c:=([D]:List TCh)
 let E:=(⟨4330,1,c⟩:TAm)
 let F:=(⟨1,[49],12,0⟩:TCh)
 let f:=([F]:List TCh)
 let m:=([E,(⟨4400,1,f⟩:TAm)]:List TAm)
 let G:=(⟨[49],12,500⟩:TLi)
 let s:=(⟨[49],[97]⟩:THe)
 let g:=([s]:List THe)
 let h:=([G]:List TLi)
 let j:=(⟨12,1,g,h,[],[],[],[],[],m⟩:TLa)
 let k:=(TLa.b (⟨0,0,[],[],[],[],[],[],[],[]⟩:TLa))
.reg 1 [] [(1,hv (AV.d (eL THe.e g))),(3,hv (AV.d (eL TLi.e h))),(5,hv (AV.d (eL TCh.e c))),(8,hv (AV.d (eL TCh.e f))),(10,hv (AV.d (eL TAm.e m))),(11,hv (TLa.d j)),(12,{ obs:=[(0,k)] })] [.pf (z5 THe.e g),.pf (z5 TLi.e h),.pf (z5 TCh.e c),.pf (z5 TCh.e f),.pf (z5 TAm.e m),.pf zms,.pf cz3]<|
.call (@F_qk_ok j 4329) fun t u=>
.reg 2 [] [(1,hc u [] true),(5,{ obs:=[(1,k)] })] [.cl 0 u [] 1 true,.pf cz3]<|
.call (@F_qk_ok j 4330) fun n v=>
.reg 3 [] [(1,hc v [] true),(5,{ obs:=[(2,k)] })] [.cl 0 v [] 2 true,.pf cz3]<|
.call (@F_qk_ok j 4400) fun w x=>
.reg 4 [] [(1,hc x [] true),(5,{ obs:=[(3,k)] })] [.cl 0 x [] 3 true,.pf cz3]<|
 let o:=(bif (bif (t.2==0) then (n.2==0) else false) then (w.2==0) else false)
.calld [o=true] dF (@F_q1z_ok t.1 ([49]) 12) fun H y =>
 let q:=(bif o then (H==500) else false)
.calld [q=true] dF (@F_q1z_ok n.1 ([49]) 12) fun I z =>
 let a:=(bif (bif (bif q then (I==600) else false) then ((n.1.A.length:Int)==1) else false) then ((w.1.N.length:Int)==0) else false)
.calld [a=true] dF (@F_q2g_ok j) fun J B =>
.calld [a=true] dF (@F_q2h_ok J ([4330,4400]:List Int)) fun K C =>
 let l:=(vl ([4330,4400]:List Int))
.reg 5 [] [(12,hc y [] true),(17,hc z [] true),(34,hc B [] true),(35,hv l),(36,hc C [] true)] [.clg 6 [o=true] y [] 4 true,.clg 4 [q=true] z [] 4 true,.clg 2 [a=true] B [] 4 true,.pf (p:=AllP [a=true]->(LeV (AV.d (DV.sl 2 (listF (DV.b false) [(DV.i .i64 4330),(DV.i .i64 4400)]))) l)) (fun _hg=>z5 (DV.i .i64) ([4330,4400]:List Int)),.clg 0 [a=true] C [] 4 true]<|
.r (bif a then K else false)
def F_q2x:=S_q2x.den
theorem F_q2x_ok :FO F_q2x 15 [] [] vb NL:=fO (s:=S_q2x) Tryz.func15
abbrev R_qc:=(List Int)×TTape
def S_qc_b1 (c:Int) (a:(List Int)×Int):SC R_qc (Step ((List Int)×Int) R_qc) :=
.ite (decide (a.2<c)) (
.guard [(a.1.length+1) * (2 * 8)<=2 ^ 48]<|
 let b:=([a.2]:List Int)
.reg 5 [] [(2,hv (vl b)),(3,{ h:=.obj,cast:=some (AV.ref 1 ((a.1++b).length) 0 ((a.1++b).length)),obs:=[(1,(eS 1 (DV.i .i64) (a.1++b)))] })] [.pf (z5 (DV.i .i64) b),.e a.1.length,.e a.1.length,.pf (p:=∀ k,k<1->(AV.d ((DV.i .i64) (b.getD k dF))).wd=1) (fun _ _=>rfl),.ev 0,.pf (zf (o:=1) (l:=a.1) (x:=b)),.pf (ze (sz:=1) (e:=(DV.i .i64)) (l:=a.1) (x:=b))]<|
.r (.cont ((a.1++b),(i64.wrap (a.2+1))))) (
.r (.brk (a.1,a.2)))
def S_qc_b2 (a:TTape×(List Int)×Int):SC R_qc (Step (TTape×(List Int)×Int) R_qc) :=
.ite (decide (a.2.2>0)) (
.call (@F_q0_ok (i64.wrap (a.2.2+1)) a.1) fun c m=>
.k 9 3 m [0] 2 false<|
 let d:=(0+c.1.toNat)
 let g:=(0+a.2.2.toNat)
 let h:=(a.2.1.set g (a.2.1.getD d dF))
.guard [(0:Int)<=c.1,c.1.toNat<a.2.1.length,d<a.2.1.length,(0:Int)<=a.2.2,a.2.2.toNat<a.2.1.length,g<a.2.1.length,d<h.length]<|
.reg 10 [13,15] [(13,{ obs:=[(1,(eS 1 (DV.i .i64) (a.2.1.set (0+a.2.2.toNat) (a.2.1.getD (0+c.1.toNat) dF))))] }),(15,{ obs:=[(1,(eS 1 (DV.i .i64) ((a.2.1.set (0+a.2.2.toNat) (a.2.1.getD (0+c.1.toNat) dF)).set (0+c.1.toNat) (a.2.1.getD (0+a.2.2.toNat) dF))))] })] [.e a.2.1.length,.ev 0,.ev 1,.e a.2.1.length,.ev 2,.e a.2.1.length,.ev 3,.ev 4,.e a.2.1.length,.ev 5,.e a.2.1.length,.ev 3,.ev 4,.e a.2.1.length,.ev 5,.pf (z3g (sz:=1) (e:=(DV.i .i64)) (l:=a.2.1) (i:=(0+a.2.2.toNat)) (x:=(a.2.1.getD (0+c.1.toNat) dF)) (fun _=>rfl)),.pf (p:=(a.2.1.set (0+a.2.2.toNat) (a.2.1.getD (0+c.1.toNat) dF)).length=a.2.1.length) (by simp only[y2q]),.ev 0,.ev 1,.pf (p:=(a.2.1.set (0+a.2.2.toNat) (a.2.1.getD (0+c.1.toNat) dF)).length=a.2.1.length) (by simp only[y2q]),.ev 6,.pf (z3g (sz:=1) (e:=(DV.i .i64)) (l:=(a.2.1.set (0+a.2.2.toNat) (a.2.1.getD (0+c.1.toNat) dF))) (i:=(0+c.1.toNat)) (x:=(a.2.1.getD (0+a.2.2.toNat) dF)) (fun _=>rfl))]<|
 let f:=(h.set d (a.2.1.getD g dF))
 let j:=[(TTape.b c.2),(eS 1 (DV.i .i64) f)]
.cst (A:=True) (.pf trivial) [(0,(vp 0)),(5,(AV.ref 1 a.2.1.length 0 a.2.1.length)),(7,(vi a.2.2))] [(0,(vp 0)),(5,(AV.ref 1 f.length 0 f.length)),(7,(vi a.2.2))] j j (fun _=>⟨Zb,by rfl⟩)<|
.r (.cont (c.2,f,(i64.wrap (a.2.2-1))))) (
.r (.brk (a.1,a.2.1,a.2.2)))
def S_qc (e:Int) (f:TTape):SC R_qc R_qc :=
.reg 2 [] [] []<|
.bor 1 (fun j=>AV.d ((DV.i .i64) (([]:List Int).getD j dF))) [5]<|
.iter [0,1] (fun (c:(List Int)×Int)=>[(5,(AV.ref 1 c.1.length 0 c.1.length)),(6,(vi c.2))]) (fun c=>[(1,(eS 1 (DV.i .i64) c.1))]) (([]:List Int),0) (S_qc_b1 e) (fun c =>
.iter [0] (fun (a:TTape×(List Int)×Int)=>[(5,(AV.ref 1 a.2.1.length 0 a.2.1.length)),(7,(vi a.2.2))]) (fun a=>[(0,(TTape.b a.1)),(1,(eS 1 (DV.i .i64) a.2.1))]) (f,c.1,(i64.wrap (e-1))) S_qc_b2 (fun a =>
.guard [a.2.1.length<2 ^ 63]<|
.reg 11 [] [] []<|
.frz 1 (.ev 0) none [4] []<|
.r (a.2.1,a.1)) id) id
def F_qc (a:Int) (b:TTape):=(S_qc a b).den
theorem F_qc_ok {a:Int} {c:TTape}:FO (F_qc a c) 19 [(vp 0),(vi a)] [(TTape.b c)] (fun x=>(vl x.1)) (fun x=>[(TTape.b x.2)]):=fO (s:=S_qc a c) Tryz.func19
def S_q3k (h:TAm) (j:TAm):SC Int Int :=
.call (@F_qg_ok h.L j.L) fun e b=>
.call (@F_qg_ok h.J j.J) fun f c=>
 let a:=([e,f]:List Int)
.call (@F_qh_ok a) fun g d=>
.reg 1 [] [(4,hc b [] true),(9,hc c [] true),(10,hv (vl a)),(11,hc d [] true)] [.cl 2 b [] 2 true,.cl 1 c [] 2 true,.pf (z5 (DV.i .i64) a),.cl 0 d [] 2 true]<|
.r g
def F_q3k (a:TAm) (b:TAm):=(S_q3k a b).den
theorem F_q3k_ok {a:TAm} {b:TAm}:FO (F_q3k a b) 60 [(TAm.d a),(TAm.d b)] [] vi NL:=fO (s:=S_q3k a b) Tryz.func60
abbrev R_q20:=Int×Bool
def S_q20_b1 (e:(List TAm)) (f:TAm) (a:Int×Int):SC R_q20 (Step (Int×Int) R_q20) :=
.ite (decide (a.1<a.2)) (
.reg 4 [] [] [.pf (p:=(0:Int)<=1) dk]<|
 let b:=(i64.wrap ((IntKind.u64.wrap (i64.wrap (a.1+a.2))).fdiv (2 ^ (min (1:Int).toNat IntKind.u64.bits))))
.call (@F_q3k_ok (e.getD b.toNat dF) f) fun d c=>
.guard [(0:Int)<=b,b.toNat<e.length]<|
.reg 5 [] [(6,hc c [] true)] [.ev 0,.ev 1,.cl 2 c [] 1 true]<|
.ite (decide (d<0)) (
.r (.cont ((i64.wrap (b+1)),a.2))) (
.r (.cont (a.1,b)))) (
.r (.brk (a.1,a.2)))
def S_q20 (c:(List TAm)) (f:TAm):SC R_q20 R_q20 :=
.iter [0,2,4,8] (fun (a:Int×Int)=>[(9,(vi a.1)),(10,(vi a.2))]) (fun _=>[]) (0,(c.length:Int)) (S_q20_b1 c f) (fun a =>
 let b:=(decide (a.1<(c.length:Int)))
.calld [b=true] dF (@F_q3k_ok (c.getD a.1.toNat dF) f) fun e d =>
.guard [AllP [b=true]->((0:Int)<=a.1),AllP [b=true]->(a.1.toNat<c.length)]<|
.reg 8 [] [(11,hc d [] true)] [.ev 0,.ev 1,.clg 2 [b=true] d [] 1 true]<|
.r (a.1,(bif b then (e==0) else false))) id
def F_q20 (a:(List TAm)) (b:TAm):=(S_q20 a b).den
theorem F_q20_ok {a:(List TAm)} {b:TAm}:FO (F_q20 a b) 63 [(AV.d (eL TAm.e a)),(TAm.d b),(AV.fn 60 [])] [] (fun x=>(AV.tup [(vi x.1),(vb x.2)])) NL:=fO (s:=S_q20 a b) Tryz.func63
abbrev R_q21:=Int×Int×(List THe)×(List TLi)×(List TBo)×(List TBo)×(List TEa)×(List TCo)×(List TRu)×(List TAm)
def S_q21_b1 (q:TLa) (m:Nat) (f:Int×Int×(List THe)×(List TLi)×(List TBo)×(List TBo)×(List TEa)×(List TCo)×(List TRu)×(List TAm)):SC R_q21 (Step (Int×Int×(List THe)×(List TLi)×(List TBo)×(List TBo)×(List TEa)×(List TCo)×(List TRu)×(List TAm)) R_q21) :=
.reg 7 [] [(2,{ obs:=[(3,(TAm.b (⟨0,0,[]⟩:TAm)))] })] [.w m,.ev 0,.pf cz2]<|
 let j:=(q.A.getD m dF)
.a 8 2 4 (@F_q36_ok j.G) fun n=>
 let g:=([(⟨j.L,j.J,n⟩:TAm)]:List TAm)
.guard [(f.2.2.2.2.2.2.2.2.2.length+g.length) * (2 * 40)<=2 ^ 48]<|
 let i:=(f.2.2.2.2.2.2.2.2.2++g)
.reg 9 [] [(3,{ h:=.obj,obs:=[(4,(eS 3 TAm.e g))] }),(4,{ h:=.obj,cast:=some (AV.ref 2 i.length 0 i.length),obs:=[(2,(eS 3 TAm.e i))] })] [.pf (z2h (sz:=3) (e:=TAm.e) (l:=g)),.e g.length,.e f.2.2.2.2.2.2.2.2.2.length,.e f.2.2.2.2.2.2.2.2.2.length,.pf (p:=∀ k,k<g.length->(TAm.d (g.getD k dF)).wd=3) (fun _ _=>rfl),.ev 0,.pf (zf (o:=2) (l:=f.2.2.2.2.2.2.2.2.2) (x:=g)),.pf (ze (sz:=3) (e:=TAm.e) (l:=f.2.2.2.2.2.2.2.2.2) (x:=g))]<|
.c (f.1,f.2.1,f.2.2.1,f.2.2.2.1,f.2.2.2.2.1,f.2.2.2.2.2.1,f.2.2.2.2.2.2.1,f.2.2.2.2.2.2.2.1,f.2.2.2.2.2.2.2.2.1,i)
def S_q21 (c:TLa):SC R_q21 R_q21 :=
 let i:=(TLa.b (⟨0,0,[],[],[],[],[],[],[],[]⟩:TLa))
.reg 0 [] [(1,{ obs:=[(1,i)] })] [.pf cz3]<|
.call (@F_q31_ok c.I) fun l s=>
.call (@F_q32_ok c.N) fun m t=>
.call (@F_q2t_ok c.K) fun n u=>
.call (@F_q2t_ok c.P) fun o v=>
.reg 1 [13,15,17,19] [(2,hc s [] true),(5,hc t [] true),(8,hc u [] true),(11,hc v [] true)] [.cl 3 s [] 2 true,.cl 2 t [] 2 true,.cl 1 u [] 2 true,.cl 0 v [] 2 true]<|
.call (@F_q33_ok c.O) fun p w=>
.call (@F_q34_ok c.M) fun q x=>
.call (@F_q35_ok c.S) fun g h=>
.reg 2 [10,12,14] [(2,hc w [] true),(5,hc x [] true),(8,hc h [] true)] [.cl 2 w [] 2 true,.cl 1 x [] 2 true,.cl 0 h [] 2 true]<|
.reg 4 [] [] []<|
 let y:=[(1,(vp 0)),(2,(vp 1)),(3,(AV.d (eL TAm.e c.A)))]
.sh (A:=True) (.pf trivial) y y [(Ob.box (AV.agg [(vi c.E),(vi c.F),(AV.d (eL THe.e l)),(AV.d (eL TLi.e m)),(AV.d (eL TBo.e n)),(AV.d (eL TBo.e o)),(AV.d (eL TEa.e p)),(AV.d (eL TCo.e q)),(AV.d (eL TRu.e g)),(AV.full 0 fun _=>DV.b false)])),i] [(Ob.box (AV.agg [(vi c.E),(vi c.F),(AV.d (eL THe.e l)),(AV.d (eL TLi.e m)),(AV.d (eL TBo.e n)),(AV.d (eL TBo.e o)),(AV.d (eL TEa.e p)),(AV.d (eL TCo.e q)),(AV.d (eL TRu.e g)),(AV.ref 2 0 0 0)])),i,(eS 3 TAm.e ([]:List TAm))] (fun _=>(z1d (sz:=3) (f:=fun j=>AV.d (TAm.e (([]:List TAm).getD j dF))) (.box _ _ _ _ _ (y8 rfl) (TrV.agg (TrL.cons (TrV.keep _) (TrL.cons (TrV.keep _) (TrL.cons (TrV.keep _) (TrL.cons (TrV.keep _) (TrL.cons (TrV.keep _) (TrL.cons (TrV.keep _) (TrL.cons (TrV.keep _) (TrL.cons (TrV.keep _) (TrL.cons (TrV.keep _) (TrL.cons TrV.born TrL.nil))))))))))) (.keep _ _ _ _ (y8 rfl) (.nil _))))) (zj (k:=0) rfl (TrS.keep _) (zj (k:=1) rfl (TrS.keep _) (zj (k:=2) rfl (TrS.keep _) z1f)))<|
.range (c.A.length:Int) c.A.length rfl (.slot 37) 39 [1,2,37,38] (fun (_:Int×Int×(List THe)×(List TLi)×(List TBo)×(List TBo)×(List TEa)×(List TCo)×(List TRu)×(List TAm))=>[]) (fun a=>[(0,(Ob.box (AV.agg [(vi a.1),(vi a.2.1),(AV.d (eL THe.e a.2.2.1)),(AV.d (eL TLi.e a.2.2.2.1)),(AV.d (eL TBo.e a.2.2.2.2.1)),(AV.d (eL TBo.e a.2.2.2.2.2.1)),(AV.d (eL TEa.e a.2.2.2.2.2.2.1)),(AV.d (eL TCo.e a.2.2.2.2.2.2.2.1)),(AV.d (eL TRu.e a.2.2.2.2.2.2.2.2.1)),(AV.ref 2 a.2.2.2.2.2.2.2.2.2.length 0 a.2.2.2.2.2.2.2.2.2.length)]))),(2,(eS 3 TAm.e a.2.2.2.2.2.2.2.2.2))]) (c.E,c.F,l,m,n,o,p,q,g,([]:List TAm)) (S_q21_b1 c) (fun a => 
.reg 11 [] [] []<|
.kill 0<|
.r (a.1,a.2.1,a.2.2.1,a.2.2.2.1,a.2.2.2.2.1,a.2.2.2.2.2.1,a.2.2.2.2.2.2.1,a.2.2.2.2.2.2.2.1,a.2.2.2.2.2.2.2.2.1,a.2.2.2.2.2.2.2.2.2)) id
def F_q21 (a:TLa):=(S_q21 a).den
theorem F_q21_ok {a:TLa}:FO (F_q21 a) 64 [(TLa.d a)] [] (fun x=>(AV.agg [(vi x.1),(vi x.2.1),(AV.d (eL THe.e x.2.2.1)),(AV.d (eL TLi.e x.2.2.2.1)),(AV.d (eL TBo.e x.2.2.2.2.1)),(AV.d (eL TBo.e x.2.2.2.2.2.1)),(AV.d (eL TEa.e x.2.2.2.2.2.2.1)),(AV.d (eL TCo.e x.2.2.2.2.2.2.2.1)),(AV.d (eL TRu.e x.2.2.2.2.2.2.2.2.1)),(AV.ref 2 x.2.2.2.2.2.2.2.2.2.length 0 x.2.2.2.2.2.2.2.2.2.length)])) (fun x=>[Ob.dead,(Ob.box (AV.agg [(vi x.1),(vi x.2.1),(AV.d (eL THe.e x.2.2.1)),(AV.d (eL TLi.e x.2.2.2.1)),(AV.d (eL TBo.e x.2.2.2.2.1)),(AV.d (eL TBo.e x.2.2.2.2.2.1)),(AV.d (eL TEa.e x.2.2.2.2.2.2.1)),(AV.d (eL TCo.e x.2.2.2.2.2.2.2.1)),(AV.d (eL TRu.e x.2.2.2.2.2.2.2.2.1)),(AV.ref 2 x.2.2.2.2.2.2.2.2.2.length 0 x.2.2.2.2.2.2.2.2.2.length)])),(eS 3 TAm.e x.2.2.2.2.2.2.2.2.2)]):=fO (s:=S_q21 a) Tryz.func64
def S_q4r (a:(List TCh)):SC (List TCh) (List TCh) :=
.reg 0 [] [] []<|
.nils 0 (
.guard [a.length * (2 * 40)<=2 ^ 48]<|
.reg 1 [] [] []<|
.lev 0 (AV.d (eL TCh.e a)) (.pf (lvQ true a.length fun j=>(TCh.e (a.getD j dF))))<|
.br true (.pf (p:=true=true) rfl)<|
.reg 2 [] [] []<|
.bor 4 (fun j=>AV.d (TCh.e (a.getD j dF))) [2]<|
.cst (A:=a.length=0) (.ev 1) [(2,AV.ref 0 0 0 0)] [(2,(AV.ref 0 a.length 0 a.length))] [(Ob.seq 4 0 fun j=>AV.d (TCh.e (a.getD j dF)))] [(eS 4 TCh.e a)] (fun h=>⟨by rw[h],by unfold eS; rw[h]⟩)<|
.r a) (
.reg 1 [] [] []<|
.lev 0 (AV.d (eL TCh.e a)) (.pf (lvQ false a.length fun j=>(TCh.e (a.getD j dF))))<|
.br false (.pf (p:=false=false) rfl)<|
.guard [a.length * (2 * 40)<=2 ^ 48]<|
.reg 3 [] [(2,{ h:=.obj })] [.pf (p:=∀ k,k<a.length->(TCh.d (a.getD k dF)).wd=4) (fun _ _=>rfl),.ev 0]<|
.r a)
def F_q4r (a:(List TCh)):=(S_q4r a).den
theorem F_q4r_ok {a:(List TCh)}:FO (F_q4r a) 131 [(AV.d (eL TCh.e a))] [] (fun x=>(AV.ref 0 x.length 0 x.length)) (fun x=>[(eS 4 TCh.e x)]):=fO (s:=S_q4r a) Tryz.func131
def S_q3a (f:TCh) (g:TCh):SC Int Int :=
.call (@F_qg_ok f.C g.C) fun h b=>
.call (@F_qu_ok f.B g.B) fun j c=>
.call (@F_qg_ok f.H g.H) fun k d=>
 let a:=([h,j,k]:List Int)
.call (@F_qh_ok a) fun l e=>
.reg 1 [] [(4,hc b [] true),(9,hc c [] true),(14,hc d [] true),(15,hv (vl a)),(16,hc e [] true)] [.cl 3 b [] 2 true,.cl 2 c [] 2 true,.cl 1 d [] 2 true,.pf (z5 (DV.i .i64) a),.cl 0 e [] 2 true]<|
.r l
def F_q3a (a:TCh) (b:TCh):=(S_q3a a b).den
theorem F_q3a_ok {a:TCh} {b:TCh}:FO (F_q3a a b) 73 [(TCh.d a),(TCh.d b)] [] vi NL:=fO (s:=S_q3a a b) Tryz.func73
abbrev R_q9:=(List TCh)
def S_q9_b1 (o:Int) (s:Int) (k:(List TCh)×Int) (a:(List TCh)×Int):SC R_q9 (Step ((List TCh)×Int) R_q9) :=
 let c:=(i64.wrap (a.2-1))
 let b:=(decide (a.2>o))
 let d:=(0+c.toNat)
 let j:=(a.1.getD d dF)
 let f:=(0+a.2.toNat)
 let m:=(a.1.getD f dF)
.calld [b=true] dF (@F_q3a_ok m j) fun q n =>
.guard [AllP [b=true]->((0:Int)<=a.2),AllP [b=true]->(a.2.toNat<a.1.length),AllP [b=true]->(f<a.1.length),AllP [b=true]->((0:Int)<=c),AllP [b=true]->(c.toNat<a.1.length),AllP [b=true]->(d<a.1.length)]<|
 let h:=(a.1.length=a.1.length)
.reg 4 [] [(14,hc n [] true)] [.pf (p:=AllP [b=true]->h) (fun _=>rfl),.ev 0,.ev 1,.pf (p:=AllP [b=true]->h) (fun _=>rfl),.ev 2,.pf (p:=AllP [b=true]->h) (fun _=>rfl),.ev 3,.ev 4,.pf (p:=AllP [b=true]->h) (fun _=>rfl),.ev 5,.clg 6 [b=true] n [] 1 true]<|
.ite (bif b then (decide (q<0)) else false) (
.guard [(0:Int)<=c,c.toNat<a.1.length,d<a.1.length,(0:Int)<=a.2,a.2.toNat<a.1.length,f<a.1.length,d<(a.1.set f j).length]<|
.reg 6 [15,17] [(15,{ obs:=[(0,(eS 4 TCh.e (a.1.set (0+a.2.toNat) (a.1.getD (0+((i64.wrap (a.2-1))).toNat) dF))))] }),(17,{ obs:=[(0,(eS 4 TCh.e ((a.1.set (0+a.2.toNat) (a.1.getD (0+((i64.wrap (a.2-1))).toNat) dF)).set (0+((i64.wrap (a.2-1))).toNat) (a.1.getD (0+a.2.toNat) dF))))] })] [.e a.1.length,.ev 0,.ev 1,.e a.1.length,.ev 2,.e a.1.length,.ev 3,.ev 4,.e a.1.length,.ev 5,.e a.1.length,.ev 3,.ev 4,.e a.1.length,.ev 5,.pf (z3g (sz:=4) (e:=TCh.e) (l:=a.1) (i:=(0+a.2.toNat)) (x:=(a.1.getD (0+((i64.wrap (a.2-1))).toNat) dF)) (fun _=>rfl)),.pf (p:=(a.1.set (0+a.2.toNat) (a.1.getD (0+((i64.wrap (a.2-1))).toNat) dF)).length=a.1.length) (by simp only[y2q]),.ev 0,.ev 1,.pf (p:=(a.1.set (0+a.2.toNat) (a.1.getD (0+((i64.wrap (a.2-1))).toNat) dF)).length=a.1.length) (by simp only[y2q]),.ev 6,.pf (z3g (sz:=4) (e:=TCh.e) (l:=(a.1.set (0+a.2.toNat) (a.1.getD (0+((i64.wrap (a.2-1))).toNat) dF))) (i:=(0+((i64.wrap (a.2-1))).toNat)) (x:=(a.1.getD (0+a.2.toNat) dF)) (fun _=>rfl))]<|
 let g:=((a.1.set f j).set d m)
.cst (A:=True) (.pf trivial) [(0,(AV.ref 0 a.1.length 0 a.1.length)),(1,(vi o)),(2,(vi s)),(3,(AV.fn 73 [])),(8,(vi k.2)),(9,(vi a.2))] [(0,(AV.ref 0 g.length 0 g.length)),(1,(vi o)),(2,(vi s)),(3,(AV.fn 73 [])),(8,(vi k.2)),(9,(vi a.2))] [(eS 4 TCh.e g)] [(eS 4 TCh.e g)] (fun _=>⟨Zb,by rfl⟩)<|
.r (.cont (g,c))) (
.r (.brk (a.1,a.2)))
def S_q9_b2 (d:Int) (c:Int) (a:(List TCh)×Int):SC R_q9 (Step ((List TCh)×Int) R_q9) :=
.ite (decide (a.2<c)) (
.iter [1,2,3,8] (fun (b:(List TCh)×Int)=>[(0,(AV.ref 0 b.1.length 0 b.1.length)),(9,(vi b.2))]) (fun b=>[(0,(eS 4 TCh.e b.1))]) (a.1,a.2) (S_q9_b1 d c a) (fun b =>
.r (.cont (b.1,(i64.wrap (a.2+1))))) .ret) (
.r (.brk (a.1,a.2)))
def S_q9 (b:Int) (c:Int) (d:(List TCh)):SC R_q9 R_q9 :=
.iter [1,2,3] (fun (a:(List TCh)×Int)=>[(0,(AV.ref 0 a.1.length 0 a.1.length)),(8,(vi a.2))]) (fun a=>[(0,(eS 4 TCh.e a.1))]) (d,(i64.wrap (b+1))) (S_q9_b2 b c) (fun a =>
.r a.1) id
def F_q9 (a:Int) (b:Int) (c:(List TCh)):=(S_q9 a b c).den
theorem F_q9_ok {b:Int} {c:Int} {a:(List TCh)}:FO (F_q9 b c a) 175 [(AV.ref 0 a.length 0 a.length),(vi b),(vi c),(AV.fn 73 [])] [(eS 4 TCh.e a)] (fun _=>(AV.tup [])) (fun x=>[(eS 4 TCh.e x)]):=fO (s:=S_q9 b c a) Tryz.func175
abbrev R_qp:=(List TCh)
def S_qp_b1 (b:Int) (a:Int×Int):SC R_qp (Step (Int×Int) R_qp) :=
.guard [(decide (a.2<=b))=false]<|
.br false (.ev 0)<|
.r (.brk (a.1,a.2))
def S_qp_b2 (b:Int) (a:Int):SC R_qp (Step Int R_qp) :=
.guard [(decide (a<b))=false]<|
.br false (.ev 0)<|
.r (.brk a)
def S_qp (c:Int) (d:(List TCh)):SC R_qp R_qp :=
.iter [0,1,2,6] (fun (b:Int×Int)=>[(7,(vi b.1)),(8,(vi b.2))]) (fun _=>[]) (0,20) (S_qp_b1 c) (fun b =>
.call (@F_q9_ok b.1 c d) fun a f=>
.k 6 4 f [0] 1 false<|
.guard [a.length=d.length]<|
.cst (A:=a.length=d.length) (.ev 0) [(0,(AV.ref 0 d.length 0 d.length)),(1,(vi c)),(2,(AV.fn 73 [])),(6,(vi 20))] [(0,(AV.ref 0 a.length 0 a.length)),(1,(vi c)),(2,(AV.fn 73 [])),(6,(vi 20))] [(eS 4 TCh.e a)] [(eS 4 TCh.e a)] (fun hsv4=>⟨by rw[hsv4],by rfl⟩)<|
.iter [0,1,2] (fun (g:Int)=>[(6,(vi g))]) (fun _=>[]) 20 (S_qp_b2 c) (fun _ =>
.r a) id) id
def F_qp (a:Int) (b:(List TCh)):=(S_qp a b).den
theorem F_qp_ok {b:Int} {a:(List TCh)}:FO (F_qp b a) 170 [(AV.ref 0 a.length 0 a.length),(vi b),(AV.fn 73 [])] [(eS 4 TCh.e a)] (fun _=>(AV.tup [])) (fun x=>[(eS 4 TCh.e x)]):=fO (s:=S_qp b a) Tryz.func170
def S_q3l (c:(List TCh)):SC (List TCh) (List TCh) :=
.call (@F_qp_ok (c.length:Int) c) fun a b=>
.k 0 4 b [0] 1 false<|
.r a
def F_q3l (a:(List TCh)):=(S_q3l a).den
theorem F_q3l_ok {a:(List TCh)}:FO (F_q3l a) 132 [(AV.ref 0 a.length 0 a.length),(AV.fn 73 [])] [(eS 4 TCh.e a)] (fun _=>(AV.tup [])) (fun x=>[(eS 4 TCh.e x)]):=fO (s:=S_q3l a) Tryz.func132
abbrev R_q22:=(List TCh)
def S_q22_b1 (g:(List TCh)) (m:Nat) (a:(List TCh)):SC R_q22 (Step ((List TCh)) R_q22) :=
.guard [(0+m)<g.length]<|
.reg 6 [] [] [.e g.length,.w m,.ev 1,.e g.length,.ev 0]<|
 let n:=(i64.wrap ((a.length:Int)-1))
 let q:=(g.getD (0+m) dF)
 let j:=(decide ((a.length:Int)>0))
 let s:=(0+n.toNat)
.calld [j=true] dF (@F_q3a_ok (a.getD s dF) q) fun C u =>
.guard [AllP [j=true]->((0:Int)<=n),AllP [j=true]->(n.toNat<a.length),AllP [j=true]->(s<a.length)]<|
 let v:=(a.length=a.length)
.reg 8 [] [(9,hc u [] true)] [.pf (p:=AllP [j=true]->v) (fun _=>rfl),.ev 0,.ev 1,.pf (p:=AllP [j=true]->v) (fun _=>rfl),.ev 2,.clg 3 [j=true] u [] 3 true]<|
.ite (bif j then (C==0) else false) (
.guard [(0:Int)<=n,n.toNat<a.length,s<a.length]<|
 let t:=(a.set s q)
.reg 9 [] [(5,{ obs:=[(1,(eS 4 TCh.e t))] })] [.e a.length,.ev 0,.ev 1,.e a.length,.ev 2,.pf (z3g (sz:=4) (e:=TCh.e) (l:=a) (i:=s) (x:=q) (fun _=>rfl))]<|
 let y:=[(eS 4 TCh.e g),(eS 4 TCh.e t),(TCh.b q)]
 let z:=(11,(AV.ref 0 g.length 0 g.length))
 let B:=(12,(vi (g.length:Int)))
.cst (A:=True) (.pf trivial) [(3,(AV.ref 1 a.length 0 a.length)),z,B,(13,(vi (m:Int)))] [(3,(AV.ref 1 t.length 0 t.length)),z,B,(13,(vi (m:Int)))] y y (fun _=>⟨Zb,by rfl⟩)<|
.c t) (
.guard [(a.length+1) * (2 * 40)<=2 ^ 48]<|
 let f:=([q]:List TCh)
.reg 10 [] [(2,hv (AV.d (eL TCh.e f))),(3,{ h:=.obj,cast:=some (AV.ref 1 ((a++f).length) 0 ((a++f).length)),obs:=[(1,(eS 4 TCh.e (a++f)))] })] [.pf (z5 TCh.e f),.e a.length,.e a.length,.pf (p:=∀ k,k<1->(TCh.d (f.getD k dF)).wd=4) (fun _ _=>rfl),.ev 0,.pf (zf (o:=1) (l:=a) (x:=f)),.pf (ze (sz:=4) (e:=TCh.e) (l:=a) (x:=f))]<|
.r (.cont (a++f)))
def S_q22 (h:(List TCh)):SC R_q22 R_q22 :=
.call (@F_q4r_ok h) fun c f=>
.k 1 1 f [] 0 false<|
.call (@F_q3l_ok c) fun a g=>
.k 2 1 g [0] 1 false<|
.guard [a.length=c.length]<|
.cst (A:=a.length=c.length) (.ev 0) [(0,(AV.ref 0 c.length 0 c.length))] [(0,(AV.ref 0 a.length 0 a.length))] [(eS 4 TCh.e a)] [(eS 4 TCh.e a)] (fun hsv6=>⟨by rw[hsv6],by rfl⟩)<|
.reg 4 [] [] []<|
.bor 4 (fun j=>AV.d (TCh.e (([]:List TCh).getD j dF))) [3]<|
.guard [a.length<2 ^ 63]<|
.range (a.length:Int) a.length rfl (.why (.ev 0)) 13 [11,12] (fun (b:(List TCh))=>[(3,(AV.ref 1 b.length 0 b.length))]) (fun b=>[(1,(eS 4 TCh.e b))]) ([]:List TCh) (S_q22_b1 a) (fun b => 
.guard [b.length<2 ^ 63]<|
.reg 12 [] [] []<|
.frz 1 (.ev 0) none [2] []<|
.r b) id
def F_q22 (a:(List TCh)):=(S_q22 a).den
theorem F_q22_ok {a:(List TCh)}:FO (F_q22 a) 65 [(AV.d (eL TCh.e a))] [] (fun x=>(AV.d (eL TCh.e x))) NL:=fO (s:=S_q22 a) Tryz.func65
end
end Go.Proofs.YtgfgnhpecnmlpaaGreatDoor
/- What the functions compute,and that their calls return it. No condition. -/
namespace Go.Proofs.YtgfgnhpecnmlpaaGreatDoor
open Go Go.TA
open Go.IntKind (i64)
noncomputable section
set_option maxRecDepth 100000
def V_q50 (x:(List TAm)):AV:=.ref 0 x.length 0 x.length
def L_q50 (a:List TAm) (x:(List TAm)):List Ob:=[eS 3 TAm.e x,eS 3 TAm.e a]
def F_q50 (a:Int) (b c:List TAm):Option (List TAm):=match c with
 | [y]=>guardP (0<=a/\a.toNat<=b.length/\(b.length+1) * (4 * 40)<=2 ^ 48) (some (insL b a.toNat y))
 | _=>none
theorem F_q50_ok {b:Int} {f a:List TAm} (r:(List TAm)) (h:F_q50 b f a=some r):CallOk Tryz.prog 66 [(AV.ref 0 f.length 0 f.length),(AV.d (.i .i64 b)),(AV.ref 1 a.length 0 a.length)] [(eS 3 TAm.e f),(eS 3 TAm.e a)] (V_q50 r) (L_q50 a r):=by
 unfold F_q50 at h
 split at h
 ·rename_i y
  obtain⟨⟨h1,h2,h3⟩,h⟩:=z1l h
  obtain rfl:=yu h
  obtain⟨i,rfl⟩:∃ i:Nat,b=(i:Int):=⟨b.toNat,(y4h h1).symm⟩
  exact InsG.ins_ok .c (fun _=>rfl) h2 h3
 ·cases h
def S_q3m (t:TLa) (s:TAm):SC (TLa×Int) (TLa×Int) :=
 let f:=(⟨0,0,[],[],[],[],[],[],[],[]⟩:TLa)
.reg 0 [] [(2,{ obs:=[(2,(TLa.b f))] })] [.pf cz3]<|
.a 1 1 3 (@F_q16_ok t) fun j=>
 let g:=(0,hv (TLa.d f))
.ite (j != 0) (
.reg 3 [] [g] [.pf cz9]<|
.r (f,j)) (
.a 5 4 3 (@F_q20_ok t.A s) fun m=>
.ite m.2 (
.reg 7 [] [g] [.pf cz9]<|
.r (f,7)) (
.call (@F_q21_ok t) fun c u=>
.k 8 1 u [] 3 false<|
.kill 4<|
.a 9 2 6 (@F_q22_ok s.G) fun v=>
 let i:=([(⟨s.L,s.J,v⟩:TAm)]:List TAm)
.call (@F_q50_ok m.1 c.2.2.2.2.2.2.2.2.2 i) fun n o=>
.reg 10 [] [(4,{ h:=.obj,obs:=[(6,(eS 3 TAm.e i))] }),(5,hc o [5,6] false)] [.pf (z2h (sz:=3) (e:=TAm.e) (l:=i)),.cl 0 o [5,6] 7 false]<|
.guard [n.length<2 ^ 63]<|
.frz 5 (.ev 0) none [] [0]<|
 let p:=(⟨c.1,c.2.1,c.2.2.1,c.2.2.2.1,c.2.2.2.2.1,c.2.2.2.2.2.1,c.2.2.2.2.2.2.1,c.2.2.2.2.2.2.2.1,c.2.2.2.2.2.2.2.2.1,n⟩:TLa)
.a 11 1 7 (@F_q16_ok p) fun q=>
.ite (q != 0) (
.reg 13 [] [g] [.pf cz9]<|
.r (f,q)) (
.r (p,0))))
def F_q3m (a:TLa) (b:TAm):=(S_q3m a b).den
theorem F_q3m_ok {a:TLa} {b:TAm}:FO (F_q3m a b) 20 [(TLa.d a),(TAm.d b)] [] (fun x=>(AV.tup [(TLa.d x.1),(vi x.2)])) NL:=fO (s:=S_q3m a b) Tryz.func20
abbrev R_q19:=(List Int)
def S_q19_b1 (c:TLa) (a:(List Int)×Int):SC R_q19 (Step ((List Int)×Int) R_q19) :=
.ite (decide (a.2<(i64.wrap (c.E+c.F)))) (
.guard [(a.1.length+1) * (2 * 8)<=2 ^ 48]<|
 let b:=([a.2]:List Int)
.reg 5 [] [(2,hv (vl b)),(3,{ h:=.obj,cast:=some (AV.ref 1 ((a.1++b).length) 0 ((a.1++b).length)),obs:=[(1,(eS 1 (DV.i .i64) (a.1++b)))] })] [.pf (z5 (DV.i .i64) b),.e a.1.length,.e a.1.length,.pf (p:=∀ k,k<1->(AV.d ((DV.i .i64) (b.getD k dF))).wd=1) (fun _ _=>rfl),.ev 0,.pf (zf (o:=1) (l:=a.1) (x:=b)),.pf (ze (sz:=1) (e:=(DV.i .i64)) (l:=a.1) (x:=b))]<|
.r (.cont ((a.1++b),(i64.wrap (a.2+1))))) (
.r (.brk (a.1,a.2)))
def S_q19 (b:TLa):SC R_q19 R_q19 :=
.reg 1 [] [(0,{ h:=.obj,obs:=[(1,(eS 1 (DV.i .i64) ([(-1)]:List Int)))] })] [.pf (z2h (sz:=1) (e:=(DV.i .i64)) (l:=([(-1)]:List Int)))]<|
.iter [1] (fun (a:(List Int)×Int)=>[(3,(AV.ref 1 a.1.length 0 a.1.length)),(4,(vi a.2))]) (fun a=>[(1,(eS 1 (DV.i .i64) a.1))]) (([(-1)]:List Int),b.E) (S_q19_b1 b) (fun a =>
.guard [a.1.length<2 ^ 63]<|
.reg 6 [] [] []<|
.frz 1 (.ev 0) none [2] []<|
.r a.1) id
def F_q19 (a:TLa):=(S_q19 a).den
theorem F_q19_ok {a:TLa}:FO (F_q19 a) 39 [(TLa.d a)] [] vl NL:=fO (s:=S_q19 a) Tryz.func39
abbrev R_qw:=(List TCh)×TTape
def S_qw_b1 (w:TLa) (a:TTape×(List TCh)×Int):SC R_qw (Step (TTape×(List TCh)×Int) R_qw) :=
.ite (decide (a.2.2<=3)) (
.call (@F_q0_ok 2 a.1) fun j T=>
.k 5 1 T [0] 3 false<|
 let K:=(bif (j.1==0) then (decide ((a.2.1.length:Int)>0)) else false)
 let L:=(i64.wrap (a.2.2+1))
.ite K (
.r (.cont (j.2,a.2.1,L))) (
 let M:=[(0,(vp 0)),(3,(vp 1)),(5,(AV.ref 2 a.2.1.length 0 a.2.1.length)),(6,(vi a.2.2)),(19,(vb K))]
 let q:=(eS 4 TCh.e a.2.1)
 let s:=(TLa.b w)
.sh (H:=NoH) (A:=True) (.pf trivial) M M [(TTape.b j.2),s,q] [(TTape.b j.2),s,q,Ob.unb] (fun _=>z2n) (z29 _)<|
.call (@F_q0_ok (w.I.length:Int) j.2) fun t C=>
.call (@F_q19_ok w) fun U D=>
.call (@F_qa_ok U t.2) fun m G=>
.call (@F_q1d_ok m.2) fun f J=>
.guard [(0:Int)<=t.1,t.1.toNat<w.I.length]<|
.reg 6 [7,14,16,18,19] [(7,hc C [0] false),(13,hc D [] true),(14,hc G [0] false),(16,hc J [0] false),(18,{ h:=.born 3 false })] [.cl 5 C [0] 4 false,.cl 5 C [0] 4 false,.ev 0,.ev 1,.ev 0,.ev 1,.ev 0,.ev 1,.ev 0,.ev 1,.ev 0,.ev 1,.ev 0,.ev 1,.cl 4 D [] 4 true,.cl 4 D [] 4 true,.cl 3 G [0] 4 false,.cl 3 G [0] 4 false,.cl 2 J [0] 4 false,.cl 2 J [0] 4 false]<|
.cut (some 2) [0,3,5,6,7] (fun (_:TTape×TCh)=>[]) (fun n=>[(0,(TTape.b n.1)),(3,(TCh.b n.2))]) (
.ite (a.2.2==1) (
.call (@F_q10_ok w.I f.2) fun N O=>
.call (@F_q0_ok w.F N.2) fun P Q=>
.reg 8 [3,9,12,14] [(3,hc O [0] false),(9,hc Q [0] false)] [.cl 1 O [0] 4 false,.cl 0 Q [0] 4 false]<|
.r (.next (P.2,(⟨a.2.2,N.1,(i64.wrap (w.E+P.1)),f.1⟩:TCh)))) (
.calld [(a.2.2==2)=true] (dF,f.2) (@F_q0_ok 3 f.2) fun c y =>
 let u:=(w.I.getD t.1.toNat dF)
 let R:=(bx (DV.agg [(DV.i .i64 a.2.2),(DV.str u.B),(DV.i .i64 m.1),(DV.i .i64 f.1)]))
.reg 9 [] [(4,hc y [0] false)] [.clg 0 [(a.2.2==2)=true] y [0] 4 false,.der (fun (h:¬ AllP [(a.2.2==2)=true]->(dF,f.2)=c) (hn:¬ AllP [(a.2.2==2)=true])=>(by obtain rfl:=h hn; rfl:[(TTape.b f.2),s,q,R]=[(TTape.b c.2),s,q,R])) 1]<|
.ite (bif (a.2.2==2) then (c.1==0) else false) (
.r (.next (c.2,(⟨a.2.2,u.B,m.1,(-1)⟩:TCh)))) (
.ite (a.2.2==3) (
.call (@F_q0_ok 200 c.2) fun z S=>
.k 12 1 S [0] 4 false<|
.r (.next (z.2,(⟨a.2.2,u.B,m.1,z.1⟩:TCh)))) (
.r (.next (c.2,(⟨a.2.2,u.B,m.1,f.1⟩:TCh))))))) fun n=>
.guard [(a.2.1.length+1) * (2 * 40)<=2 ^ 48]<|
 let g:=([n.2]:List TCh)
 let v:=(a.2.1++g)
.reg 13 [] [(2,hv (AV.d (eL TCh.e g))),(3,{ h:=.obj,cast:=some (AV.ref 2 v.length 0 v.length),obs:=[(2,(eS 4 TCh.e v))] })] [.pf (z5 TCh.e g),.e a.2.1.length,.e a.2.1.length,.pf (p:=∀ k,k<1->(TCh.d (g.getD k dF)).wd=4) (fun _ _=>rfl),.ev 0,.pf (zf (o:=2) (l:=a.2.1) (x:=g)),.pf (ze (sz:=4) (e:=TCh.e) (l:=a.2.1) (x:=g))]<|
.r (.cont (n.1,v,L)))) (
.r (.brk (a.1,a.2.1,a.2.2)))
def S_qw (c:TLa) (f:TTape):SC R_qw R_qw :=
.reg 2 [] [] []<|
.bor 4 (fun j=>AV.d (TCh.e (([]:List TCh).getD j dF))) [5]<|
.iter [0,3] (fun (a:TTape×(List TCh)×Int)=>[(5,(AV.ref 2 a.2.1.length 0 a.2.1.length)),(6,(vi a.2.2))]) (fun a=>[(0,(TTape.b a.1)),(2,(eS 4 TCh.e a.2.1))]) (f,([]:List TCh),1) (S_qw_b1 c) (fun a =>
.guard [a.2.1.length<2 ^ 63]<|
.reg 14 [] [] []<|
.frz 2 (.ev 0) none [4] []<|
.r (a.2.1,a.1)) id
def F_qw (a:TLa) (b:TTape):=(S_qw a b).den
theorem F_qw_ok {a:TLa} {c:TTape}:FO (F_qw a c) 16 [(vp 0),(TLa.d a)] [(TTape.b c)] (fun x=>(AV.d (eL TCh.e x.1))) (fun x=>[(TTape.b x.2)]):=fO (s:=S_qw a c) Tryz.func16
def S_q2i_b1 (e:(List TLi)) (d:(List TLi)) (a:Nat) (_:Unit):SC Bool (Step Unit Bool) :=
.guard [a<d.length]<|
.reg 6 [] [] [.w a,.ev 1,.w a,.ev 0]<|
 let b:=(e.getD a dF)
 let c:=(d.getD a dF)
.ite (!((b.B==c.B)&&((b.H==c.H)&&((b.D==c.D)&&true)))) (
.r (.ret false)) (
.r (.cont ()))
def S_q2i (a:(List TLi)) (b:(List TLi)):SC Bool Bool :=
.ite ((a.length:Int) != (b.length:Int)) (
.r false) (
.range (a.length:Int) a.length rfl (.slot 0) 13 [0,1,12] (fun (_:Unit)=>[]) (fun _=>[]) () (S_q2i_b1 a b) (fun _ => 
.r true) id)
def F_q2i (a:(List TLi)) (b:(List TLi)):=(S_q2i a b).den
theorem F_q2i_ok {a:(List TLi)} {b:(List TLi)}:FO (F_q2i a b) 21 [(AV.d (eL TLi.e a)),(AV.d (eL TLi.e b))] [] vb NL:=fO (s:=S_q2i a b) Tryz.func21
def S_q23_b1 (e:R_q2) (h:R_qc) (f:Nat) (i:TLa):SC Bool (Step TLa Bool) :=
.reg 8 [] [] [.w f,.ev 0]<|
 let a:=(h.1.getD f dF)
.call (@F_q3m_ok i (e.1.A.getD a.toNat dF)) fun g d=>
.guard [(0:Int)<=a,a.toNat<e.1.A.length]<|
.reg 9 [9,10] [(5,hc d [] true),(9,{ obs:=[(3,(TLa.b (⟨0,0,[],[],[],[],[],[],[],[]⟩:TLa)))] })] [.ev 0,.ev 1,.ev 0,.ev 1,.cl 2 d [] 3 true,.cl 2 d [] 4 true,.pf cz3]<|
.ite (g.2 != 0) (
.r (.ret false)) (
.c g.1)
def S_q23 (Y:(List Int)):SC Bool Bool :=
.call (@F_q3b_ok Y) fun U V=>
.k 1 1 V [] 0 false<|
.call (@F_q2_ok U) fun c B=>
 let g:=(TLa.b (⟨0,0,[],[],[],[],[],[],[],[]⟩:TLa))
.reg 2 [] [(1,hc B [0] false),(2,{ obs:=[(1,g)] })] [.cl 0 B [0] 1 false,.pf cz3]<|
.reg 4 [] [(1,{ obs:=[(2,g)] })] [.pf cz3]<|
.reg 5 [] [] []<|
 let C:=[(3,(vp 0)),(4,(vp 1)),(5,(AV.d (eL TAm.e c.1.A))),(6,(vp 2))]
 let m:=(TLa.b c.1)
.sh (A:=True) (.pf trivial) C C [(TTape.b c.2),m,(Ob.box (AV.agg [(vi c.1.E),(vi c.1.F),(AV.d (eL THe.e c.1.I)),(AV.d (eL TLi.e c.1.N)),(AV.d (eL TBo.e c.1.K)),(AV.d (eL TBo.e c.1.P)),(AV.d (eL TEa.e c.1.O)),(AV.d (eL TCo.e c.1.M)),(AV.d (eL TRu.e c.1.S)),(AV.full 0 fun _=>DV.b false)]))] [(TTape.b c.2),m,(bx (DV.agg [(DV.i .i64 c.1.E),(DV.i .i64 c.1.F),(eL THe.e c.1.I),(eL TLi.e c.1.N),(eL TBo.e c.1.K),(eL TBo.e c.1.P),(eL TEa.e c.1.O),(eL TCo.e c.1.M),(eL TRu.e c.1.S),(eL TAm.e ([]:List TAm))]))] (fun _=>(z6m (.keep _ _ _ _ (y8 rfl) (.keep _ _ _ _ (y8 rfl) (.box _ _ _ _ _ (y8 rfl) (TrV.aggD (TrL.cons (TrV.keep _) (TrL.cons (TrV.keep _) (TrL.cons (TrV.keep _) (TrL.cons (TrV.keep _) (TrL.cons (TrV.keep _) (TrL.cons (TrV.keep _) (TrL.cons (TrV.keep _) (TrL.cons (TrV.keep _) (TrL.cons (TrV.keep _) (TrL.cons TrV.full TrL.nil))))))))))) (.nil _)))))) (zj (k:=0) rfl (TrS.keep _) (zj (k:=1) rfl (TrS.keep _) (zj (k:=2) rfl (TrS.keep _) (zj (k:=3) rfl (TrS.keep _) z1f))))<|
.call (@F_qc_ok (c.1.A.length:Int) c.2) fun f W=>
.k 6 3 W [0] 3 false<|
.range (f.1.length:Int) f.1.length rfl (.slot 29) 31 [3,4,5,6,29,30] (fun (_:TLa)=>[]) (fun j=>[(2,(TLa.b j))]) (⟨c.1.E,c.1.F,c.1.I,c.1.N,c.1.K,c.1.P,c.1.O,c.1.M,c.1.S,([]:List TAm)⟩:TLa) (S_q23_b1 c f) (fun j => 
.a 14 2 3 (@F_q8_ok j c.1) fun D=>
.ite (!D) (
.r false) (
 let G:=[(3,(vp 0)),(4,(vp 1)),(51,(vb (!D)))]
.sh (H:=NoH) (A:=True) (.pf trivial) G G [(TTape.b f.2),m,(TLa.b j)] [(TTape.b f.2),m,(TLa.b j),Ob.unb] (fun _=>z2n) (z29 _)<|
.call (@F_q0_ok 500 f.2) fun J w=>
.call (@F_qw_ok c.1 J.2) fun X x=>
.reg 16 [4,8,10,11] [(4,hc w [0] false),(8,hc x [0] false),(10,{ h:=.born 3 false,obs:=[(3,(TAm.b (⟨0,0,[]⟩:TAm)))] })] [.cl 1 w [0] 4 false,.cl 1 w [0] 4 false,.cl 0 x [0] 4 false,.cl 0 x [0] 4 false,.pf cz2,.pf cz2,.pf cz2]<|
 let n:=(i64.wrap ((i64.wrap (360 * c.1.E))+J.1))
.call (@F_q3m_ok c.1 (⟨n,50,X.1⟩:TAm)) fun l o=>
.reg 17 [] [(2,hc o [] true),(6,{ obs:=[(4,g)] })] [.cl 0 o [] 4 true,.pf cz3]<|
.ite (cO (n==0) (decide (n>35990))) (
.a 19 0 5 (@F_q2x_ok) fun L=>
.r L) (
 let Q:=(i64.wrap (n-1))
.call (@F_qk_ok l.1 Q) fun p q=>
.reg 20 [] [(4,hc q [] true),(8,{ obs:=[(5,g)] })] [.cl 0 q [] 5 true,.pf cz3]<|
.call (@F_qk_ok c.1 Q) fun s t=>
.reg 21 [] [(4,hc t [] true),(8,{ obs:=[(6,g)] })] [.cl 0 t [] 6 true,.pf cz3]<|
.ite (cO (cO (l.2 != 0) (p.2 != 0)) (s.2 != 0)) (
.r false) (
 let y:=((l.1.A.length:Int)==(i64.wrap ((c.1.A.length:Int)+1)))
.calld [y=true] dF (@F_q2i_ok p.1.N s.1.N) fun R u =>
 let z:=(bif y then R else false)
.calld [z=true] dF (@F_q2x_ok) fun T v =>
.reg 24 [] [(13,hc u [] true),(16,hc v [] true)] [.clg 2 [y=true] u [] 7 true,.clg 0 [z=true] v [] 7 true]<|
.r (bif z then T else false))))) id
def F_q23 (a:(List Int)):=(S_q23 a).den
theorem F_q23_ok {a:(List Int)}:FO (F_q23 a) 5 [(vl a)] [] vb NL:=fO (s:=S_q23 a) Tryz.func5
abbrev R_q1a:=TTape×(List TCh)
def S_q1a_b1 (w:TLa) (a:TTape×(List TCh)×Int):SC R_q1a (Step (TTape×(List TCh)×Int) R_q1a) :=
.ite (decide (a.2.2<=3)) (
.call (@F_q0_ok 2 a.1) fun j T=>
.k 5 1 T [0] 3 false<|
 let K:=(bif (j.1==0) then (decide ((a.2.1.length:Int)>0)) else false)
 let L:=(i64.wrap (a.2.2+1))
.ite K (
.r (.cont (j.2,a.2.1,L))) (
 let M:=[(0,(vp 0)),(3,(vp 1)),(5,(AV.ref 2 a.2.1.length 0 a.2.1.length)),(6,(vi a.2.2)),(19,(vb K))]
 let q:=(eS 4 TCh.e a.2.1)
 let s:=(TLa.b w)
.sh (H:=NoH) (A:=True) (.pf trivial) M M [(TTape.b j.2),s,q] [(TTape.b j.2),s,q,Ob.unb] (fun _=>z2n) (z29 _)<|
.call (@F_q0_ok (w.I.length:Int) j.2) fun t C=>
.call (@F_q19_ok w) fun U D=>
.call (@F_qa_ok U t.2) fun m G=>
.call (@F_q1d_ok m.2) fun g J=>
.guard [(0:Int)<=t.1,t.1.toNat<w.I.length]<|
.reg 6 [7,14,16,18,19] [(7,hc C [0] false),(13,hc D [] true),(14,hc G [0] false),(16,hc J [0] false),(18,{ h:=.born 3 false })] [.cl 5 C [0] 4 false,.cl 5 C [0] 4 false,.ev 0,.ev 1,.ev 0,.ev 1,.ev 0,.ev 1,.ev 0,.ev 1,.ev 0,.ev 1,.ev 0,.ev 1,.cl 4 D [] 4 true,.cl 4 D [] 4 true,.cl 3 G [0] 4 false,.cl 3 G [0] 4 false,.cl 2 J [0] 4 false,.cl 2 J [0] 4 false]<|
.cut (some 2) [0,3,5,6,7] (fun (_:TTape×TCh)=>[]) (fun n=>[(0,(TTape.b n.1)),(3,(TCh.b n.2))]) (
.ite (a.2.2==1) (
.call (@F_q10_ok w.I g.2) fun N O=>
.call (@F_q0_ok w.F N.2) fun P Q=>
.reg 8 [3,9,12,14] [(3,hc O [0] false),(9,hc Q [0] false)] [.cl 1 O [0] 4 false,.cl 0 Q [0] 4 false]<|
.r (.next (P.2,(⟨a.2.2,N.1,(i64.wrap (w.E+P.1)),g.1⟩:TCh)))) (
.calld [(a.2.2==2)=true] (dF,g.2) (@F_q0_ok 3 g.2) fun c y =>
 let u:=(w.I.getD t.1.toNat dF)
 let R:=(bx (DV.agg [(DV.i .i64 a.2.2),(DV.str u.B),(DV.i .i64 m.1),(DV.i .i64 g.1)]))
.reg 9 [] [(4,hc y [0] false)] [.clg 0 [(a.2.2==2)=true] y [0] 4 false,.der (fun (h:¬ AllP [(a.2.2==2)=true]->(dF,g.2)=c) (hn:¬ AllP [(a.2.2==2)=true])=>(by obtain rfl:=h hn; rfl:[(TTape.b g.2),s,q,R]=[(TTape.b c.2),s,q,R])) 1]<|
.ite (bif (a.2.2==2) then (c.1==0) else false) (
.r (.next (c.2,(⟨a.2.2,u.B,m.1,(-1)⟩:TCh)))) (
.ite (a.2.2==3) (
.call (@F_q0_ok 200 c.2) fun z S=>
.k 12 1 S [0] 4 false<|
.r (.next (z.2,(⟨a.2.2,u.B,m.1,z.1⟩:TCh)))) (
.r (.next (c.2,(⟨a.2.2,u.B,m.1,g.1⟩:TCh))))))) fun n=>
 let f:=([n.2]:List TCh)
.guard [(a.2.1.length+f.length) * (2 * 40)<=2 ^ 48]<|
 let v:=(a.2.1++f)
.reg 13 [] [(2,{ h:=.obj,obs:=[(4,(eS 4 TCh.e f))] }),(3,{ h:=.obj,cast:=some (AV.ref 2 v.length 0 v.length),obs:=[(2,(eS 4 TCh.e v))] })] [.pf (z2h (sz:=4) (e:=TCh.e) (l:=f)),.e f.length,.e a.2.1.length,.e a.2.1.length,.pf (p:=∀ k,k<f.length->(TCh.d (f.getD k dF)).wd=4) (fun _ _=>rfl),.ev 0,.pf (zf (o:=2) (l:=a.2.1) (x:=f)),.pf (ze (sz:=4) (e:=TCh.e) (l:=a.2.1) (x:=f))]<|
.r (.cont (n.1,v,L)))) (
.r (.brk (a.1,a.2.1,a.2.2)))
def S_q1a (c:TLa) (f:TTape):SC R_q1a R_q1a :=
.reg 2 [] [] []<|
.bor 4 (fun j=>AV.d (TCh.e (([]:List TCh).getD j dF))) [5]<|
.iter [0,3] (fun (a:TTape×(List TCh)×Int)=>[(5,(AV.ref 2 a.2.1.length 0 a.2.1.length)),(6,(vi a.2.2))]) (fun a=>[(0,(TTape.b a.1)),(2,(eS 4 TCh.e a.2.1))]) (f,([]:List TCh),1) (S_q1a_b1 c) (fun a =>
.reg 14 [] [] []<|
.kill 1<|
.r (a.1,a.2.1)) id
def F_q1a (a:TLa) (b:TTape):=(S_q1a a b).den
theorem F_q1a_ok {a:TLa} {c:TTape}:FO (F_q1a a c) 16 [(vp 0),(TLa.d a)] [(TTape.b c)] (fun x=>(AV.ref 2 x.2.length 0 x.2.length)) (fun x=>[(TTape.b x.1),Ob.dead,(eS 4 TCh.e x.2)]):=fO (s:=S_q1a a c) Tryz.func16
def S_q4g (e:TLa) (f:Y8):SC Bool Bool :=
.call (@F_q7_ok e.I ([])) fun c a=>
.call (@F_q3f_ok c f) fun d b=>
.reg 1 [] [(2,hc a [] true),(4,hc b [] true)] [.cl 1 a [] 1 true,.cl 0 b [] 1 true]<|
.r d
def F_q4g (a:TLa) (b:Y8):=(S_q4g a b).den
theorem F_q4g_ok {a:TLa} {b:Y8}:FO (F_q4g a b) 121 [(TLa.d a),(AV.d (DV.str b))] [] vb NL:=fO (s:=S_q4g a b) Tryz.func121
def S_q3n (f:TLa) (b:TCh):SC Int Int :=
.ite (cO (decide (b.C<1)) (decide (b.C>3))) (
.r 1) (
.call (@F_q1s_ok f b.B) fun c d=>
.calld [(b.C==1)=true,(!c)=false] dF (@F_q4g_ok f b.B) fun g e =>
.reg 4 [] [(3,hc d [] true),(11,hc e [] true)] [.cl 2 d [] 2 true,.clg 0 [(b.C==1)=true,(!c)=false] e [] 2 true]<|
.ite (cO (!c) (bif (b.C==1) then (!g) else false)) (
.r 5) (
.a 6 3 2 (@F_q2s_ok f b.H) fun h=>
.ite (bif (!h) then (cO (b.C==1) (b.H != (-1))) else false) (
.r 16) (
.a 8 2 2 (@F_q29_ok b.D) fun i=>
.ite (bif (!i) then (cO (b.C != 2) (b.D != (-1))) else false) (
.r 2) (
.r 0))))
def F_q3n (a:TLa) (b:TCh):=(S_q3n a b).den
theorem F_q3n_ok {a:TLa} {b:TCh}:FO (F_q3n a b) 59 [(TLa.d a),(TCh.d b)] [] vi NL:=fO (s:=S_q3n a b) Tryz.func59
def S_q24_b1 (h:TLa) (g:(List TCh)) (b:Nat) (_:Unit):SC (TLa×Int) (Step Unit (TLa×Int)) :=
.guard [(0+b)<g.length]<|
.reg 6 [] [] [.e g.length,.w b,.ev 1,.e g.length,.ev 0]<|
.a 7 2 4 (@F_q3n_ok h (g.getD (0+b) dF)) fun c=>
.ite (c != 0) (
 let f:=(⟨0,0,[],[],[],[],[],[],[],[]⟩:TLa)
.reg 9 [] [(0,hv (TLa.d f))] [.pf cz9]<|
.r (.ret (f,c))) (
.r (.cont ()))
def S_q24 (h:TLa) (e:(List TCh)):SC (TLa×Int) (TLa×Int) :=
 let c:=(⟨0,0,[],[],[],[],[],[],[],[]⟩:TLa)
.reg 0 [] [(1,{ obs:=[(2,(TLa.b c))] })] [.pf cz3]<|
.a 1 1 3 (@F_q16_ok h) fun f=>
.ite (f != 0) (
.reg 3 [] [(0,hv (TLa.d c))] [.pf cz9]<|
.r (c,f)) (
.guard [e.length<2 ^ 63]<|
.range (e.length:Int) e.length rfl (.why (.ev 0)) 18 [1,2,4,16,17] (fun (_:Unit)=>[]) (fun _=>[]) () (S_q24_b1 h e) (fun _ => 
.call (@F_qv_ok h e) fun g i=>
.k 11 2 i [0] 3 true<|
.r (g.1,g.2)) id)
def F_q24 (a:TLa) (b:(List TCh)):=(S_q24 a b).den
theorem F_q24_ok {b:TLa} {a:(List TCh)}:FO (F_q24 b a) 17 [(TLa.d b),(AV.ref 0 a.length 0 a.length)] [(eS 4 TCh.e a)] (fun x=>(AV.tup [(TLa.d x.1),(vi x.2)])) (fun _=>[(eS 4 TCh.e a)]):=fO (s:=S_q24 b a) Tryz.func17
def S_q2j_b1 (c:(List THe)) (b:(List THe)) (a:Nat) (_:Unit):SC Bool (Step Unit Bool) :=
.guard [a<b.length]<|
.reg 6 [] [] [.w a,.ev 1,.w a,.ev 0]<|
.ite (!((((c.getD a dF).B)==((b.getD a dF).B))&&((((c.getD a dF).V)==((b.getD a dF).V))&&true))) (
.r (.ret false)) (
.r (.cont ()))
def S_q2j (a:(List THe)) (b:(List THe)):SC Bool Bool :=
.ite ((a.length:Int) != (b.length:Int)) (
.r false) (
.range (a.length:Int) a.length rfl (.slot 0) 13 [0,1,12] (fun (_:Unit)=>[]) (fun _=>[]) () (S_q2j_b1 a b) (fun _ => 
.r true) id)
def F_q2j (a:(List THe)) (b:(List THe)):=(S_q2j a b).den
theorem F_q2j_ok {a:(List THe)} {b:(List THe)}:FO (F_q2j a b) 68 [(AV.d (eL THe.e a)),(AV.d (eL THe.e b))] [] vb NL:=fO (s:=S_q2j a b) Tryz.func68
def S_q3o (a:TCh):SC Bool Bool :=
.r (bif (a.D==0) then (a.C != 2) else false)
def F_q3o (a:TCh):=(S_q3o a).den
theorem F_q3o_ok {a:TCh}:FO (F_q3o a) 136 [(TCh.d a)] [] vb NL:=fO (s:=S_q3o a) Tryz.func136
def S_q1b_b1 (c:(List TCh)) (a:Nat) (_:Unit):SC Int (Step Unit Int) :=
.call (@F_q3o_ok (c.getD (0+a) dF)) fun d b=>
.guard [(0+a)<c.length]<|
.reg 4 [] [(5,hc b [] true)] [.e c.length,.w a,.ev 2,.e c.length,.ev 0,.cl 1 b [] 1 true]<|
.ite d (
.r (.ret (a:Int))) (
.r (.cont ()))
def S_q1b (a:(List TCh)):SC Int Int :=
.guard [a.length<2 ^ 63]<|
.range (a.length:Int) a.length rfl (.why (.ev 0)) 8 [0,1,7] (fun (_:Unit)=>[]) (fun _=>[]) () (S_q1b_b1 a) (fun _ => 
.r (-1)) id
def F_q1b (a:(List TCh)):=(S_q1b a).den
theorem F_q1b_ok {a:(List TCh)}:FO (F_q1b a) 138 [(AV.ref 0 a.length 0 a.length),(AV.fn 136 [])] [(eS 4 TCh.e a)] vi (fun _=>[(eS 4 TCh.e a)]):=fO (s:=S_q1b a) Tryz.func138
abbrev R_q1c:=(List TCh)
def S_q1c_b1 (c:(List TCh)×Int×Int):SC R_q1c (Step ((List TCh)×Int×Int) R_q1c) :=
.ite (decide (c.2.2<(c.1.length:Int))) (
.guard [(0:Int)<=c.2.2,c.2.2.toNat<c.1.length,(0+c.2.2.toNat)<c.1.length]<|
.reg 7 [] [] [.e c.1.length,.ev 0,.ev 1,.e c.1.length,.ev 2]<|
 let f:=(c.1.getD (0+c.2.2.toNat) dF)
.a 8 2 2 (@F_q3o_ok f) fun k=>
 let h:=(i64.wrap (c.2.2+1))
.ite (!k) (
 let g:=(0+c.2.1.toNat)
.guard [(0:Int)<=c.2.1,c.2.1.toNat<c.1.length,g<c.1.length]<|
 let d:=(c.1.set g f)
.reg 9 [] [(4,{ obs:=[(0,(eS 4 TCh.e d))] })] [.e c.1.length,.ev 0,.ev 1,.e c.1.length,.ev 2,.pf (z3g (sz:=4) (e:=TCh.e) (l:=c.1) (i:=g) (x:=f) (fun _=>rfl))]<|
 let j:=[(eS 4 TCh.e d),(TCh.b f)]
.cst (A:=True) (.pf trivial) [(0,(AV.ref 0 c.1.length 0 c.1.length)),(1,(AV.fn 136 [])),(5,(vi c.2.1)),(6,(vi c.2.2))] [(0,(AV.ref 0 d.length 0 d.length)),(1,(AV.fn 136 [])),(5,(vi c.2.1)),(6,(vi c.2.2))] j j (fun _=>⟨Zb,by rfl⟩)<|
.r (.cont (d,(i64.wrap (c.2.1+1)),h))) (
.r (.cont (c.1,c.2.1,h)))) (
.r (.brk (c.1,c.2.1,c.2.2)))
def S_q1c (o:(List TCh)):SC R_q1c R_q1c :=
.call (@F_q1b_ok o) fun g p=>
.k 1 2 p [0] 1 true<|
.ite (g==(-1)) (
.guard [o.length<2 ^ 63]<|
.reg 3 [] [] []<|
.frz 0 (.ev 0) none [4] []<|
.r o) (
.iter [1] (fun (a:(List TCh)×Int×Int)=>[(0,(AV.ref 0 a.1.length 0 a.1.length)),(5,(vi a.2.1)),(6,(vi a.2.2))]) (fun a=>[(0,(eS 4 TCh.e a.1))]) (o,g,(i64.wrap (g+1))) S_q1c_b1 (fun a =>
.guard [(0:Int)<=a.2.1,a.2.1.toNat<=a.1.length]<|
 let b:=(a.1.length-a.2.1.toNat)
 let c:=(⟨0,[],0,0⟩:TCh)
 let f:=(0+a.2.1.toNat)
 let i:=(eS 4 TCh.e (clearL a.1 f b c))
.reg 11 [] [(3,{ obs:=[(0,i)] })] [.ev 0,.ev 1,.e a.1.length,.e a.1.length,.pf (z7g (sz:=4) (e:=TCh.e) (l:=a.1) (off:=f) (n:=b) (z:=c))]<|
 let j:=((clearL a.1 f b c).length)
.cst (A:=True) (.pf trivial) [(0,(AV.ref 0 a.1.length 0 a.1.length)),(5,(vi a.2.1))] [(0,(AV.ref 0 j 0 j)),(5,(vi a.2.1))] [i] [i] (fun _=>⟨by simp +zetaDelta only[z11],by rfl⟩)<|
.guard [a.2.1.toNat<=(clearL a.1 f b c).length]<|
.reg 12 [] [] [.ev 1,.ev 0,.e j]<|
.guard [(clearL a.1 f b c).length<2 ^ 63]<|
.frz 0 (.ev 0) (some (.der (fun (h:a.2.1.toNat<=(clearL a.1 f b c).length)=>(y1z (Nat.sub_le _ _) h:(a.2.1.toNat-0)<=(clearL a.1 f b c).length)) 1)) [4] []<|
 let m:=((clearL a.1 f b c).take a.2.1.toNat)
.lev 4 (AV.d (eL TCh.e m)) (.der (fun (h:a.2.1.toNat<=(clearL a.1 f b c).length)=>lvT TCh.e (clearL a.1 f b c) h) 1)<|
.r m) id)
def F_q1c (a:(List TCh)):=(S_q1c a).den
theorem F_q1c_ok {a:(List TCh)}:FO (F_q1c a) 135 [(AV.ref 0 a.length 0 a.length),(AV.fn 136 [])] [(eS 4 TCh.e a)] (fun x=>(AV.d (eL TCh.e x))) (fun _=>[Ob.dead]):=fO (s:=S_q1c a) Tryz.func135
end
end Go.Proofs.YtgfgnhpecnmlpaaGreatDoor
/- What the functions compute,and that their calls return it. No condition. -/
namespace Go.Proofs.YtgfgnhpecnmlpaaGreatDoor
open Go Go.TA
open Go.IntKind (i64)
noncomputable section
set_option maxRecDepth 100000
abbrev R_q4:=(List TCh)
def S_q4_b1 (i:TLa) (g:Nat) (a:(List TCh)):SC R_q4 (Step ((List TCh)) R_q4) :=
.reg 4 [] [] [.w g,.ev 0]<|
.guard [(a.length+1) * (2 * 40)<=2 ^ 48]<|
 let f:=(i.N.getD g dF)
 let b:=([(⟨1,f.B,f.H,f.D⟩:TCh)]:List TCh)
.reg 5 [] [(8,hv (AV.d (eL TCh.e b))),(9,{ h:=.obj,cast:=some (AV.ref 1 ((a++b).length) 0 ((a++b).length)),obs:=[(1,(eS 4 TCh.e (a++b)))] })] [.pf (z5 TCh.e b),.e a.length,.e a.length,.pf (p:=∀ k,k<1->(TCh.d (b.getD k dF)).wd=4) (fun _ _=>rfl),.ev 0,.pf (zf (o:=1) (l:=a) (x:=b)),.pf (ze (sz:=4) (e:=TCh.e) (l:=a) (x:=b))]<|
.c (a++b)
def S_q4_b2 (i:TLa) (g:Nat) (a:(List TCh)):SC R_q4 (Step ((List TCh)) R_q4) :=
.reg 9 [] [] [.w g,.ev 0]<|
.guard [(a.length+1) * (2 * 40)<=2 ^ 48]<|
 let f:=(i.K.getD g dF)
 let b:=([(⟨2,f.B,f.H,f.D⟩:TCh)]:List TCh)
.reg 10 [] [(8,hv (AV.d (eL TCh.e b))),(9,{ h:=.obj,cast:=some (AV.ref 1 ((a++b).length) 0 ((a++b).length)),obs:=[(1,(eS 4 TCh.e (a++b)))] })] [.pf (z5 TCh.e b),.e a.length,.e a.length,.pf (p:=∀ k,k<1->(TCh.d (b.getD k dF)).wd=4) (fun _ _=>rfl),.ev 0,.pf (zf (o:=1) (l:=a) (x:=b)),.pf (ze (sz:=4) (e:=TCh.e) (l:=a) (x:=b))]<|
.c (a++b)
def S_q4_b3 (i:TLa) (g:Nat) (a:(List TCh)):SC R_q4 (Step ((List TCh)) R_q4) :=
.reg 14 [] [] [.w g,.ev 0]<|
.guard [(a.length+1) * (2 * 40)<=2 ^ 48]<|
 let f:=(i.P.getD g dF)
 let b:=([(⟨3,f.B,f.H,f.D⟩:TCh)]:List TCh)
.reg 15 [] [(8,hv (AV.d (eL TCh.e b))),(9,{ h:=.obj,cast:=some (AV.ref 1 ((a++b).length) 0 ((a++b).length)),obs:=[(1,(eS 4 TCh.e (a++b)))] })] [.pf (z5 TCh.e b),.e a.length,.e a.length,.pf (p:=∀ k,k<1->(TCh.d (b.getD k dF)).wd=4) (fun _ _=>rfl),.ev 0,.pf (zf (o:=1) (l:=a) (x:=b)),.pf (ze (sz:=4) (e:=TCh.e) (l:=a) (x:=b))]<|
.c (a++b)
def S_q4 (f:TLa):SC R_q4 R_q4 :=
.reg 2 [] [] []<|
.bor 4 (fun j=>AV.d (TCh.e (([]:List TCh).getD j dF))) [3]<|
.range (f.N.length:Int) f.N.length rfl (.slot 11) 13 [1,11,12] (fun (a:(List TCh))=>[(3,(AV.ref 1 a.length 0 a.length))]) (fun a=>[(1,(eS 4 TCh.e a))]) ([]:List TCh) (S_q4_b1 f) (fun a => 
.range (f.K.length:Int) f.K.length rfl (.slot 29) 31 [1,29,30] (fun (b:(List TCh))=>[(3,(AV.ref 1 b.length 0 b.length))]) (fun b=>[(1,(eS 4 TCh.e b))]) a (S_q4_b2 f) (fun b => 
.range (f.P.length:Int) f.P.length rfl (.slot 47) 49 [47,48] (fun (c:(List TCh))=>[(3,(AV.ref 1 c.length 0 c.length))]) (fun c=>[(1,(eS 4 TCh.e c))]) b (S_q4_b3 f) (fun c => 
.call (@F_q1c_ok c) fun g h=>
.k 17 1 h [1] 2 false<|
.r g) id) id) id
def F_q4 (a:TLa):=(S_q4 a).den
theorem F_q4_ok {a:TLa}:FO (F_q4 a) 69 [(TLa.d a)] [] (fun x=>(AV.d (eL TCh.e x))) NL:=fO (s:=S_q4 a) Tryz.func69
def S_q2k_b1 (d:(List TCh)) (c:TCh) (b:Nat) (_:Unit):SC Int (Step Unit Int) :=
.reg 4 [] [] [.w b,.ev 0]<|
 let a:=(d.getD b dF)
.ite ((c.C==a.C)&&((c.B==a.B)&&((c.H==a.H)&&((c.D==a.D)&&true)))) (
.r (.ret (b:Int))) (
.r (.cont ()))
def S_q2k (a:(List TCh)) (b:TCh):SC Int Int :=
.range (a.length:Int) a.length rfl (.slot 0) 8 [0,3,7] (fun (_:Unit)=>[]) (fun _=>[]) () (S_q2k_b1 a b) (fun _ => 
.r (-1)) id
def F_q2k (a:(List TCh)) (b:TCh):=(S_q2k a b).den
theorem F_q2k_ok {a:(List TCh)} {b:TCh}:FO (F_q2k a b) 137 [(AV.d (eL TCh.e a)),(TCh.d b)] [] vi NL:=fO (s:=S_q2k a b) Tryz.func137
def S_q4h (c:(List TCh)) (d:TCh):SC Bool Bool :=
.a 1 2 1 (@F_q2k_ok c d) fun b=>
.r (decide (b>=0))
def F_q4h (a:(List TCh)) (b:TCh):=(S_q4h a b).den
theorem F_q4h_ok {a:(List TCh)} {b:TCh}:FO (F_q4h a b) 70 [(AV.d (eL TCh.e a)),(TCh.d b)] [] vb NL:=fO (s:=S_q4h a b) Tryz.func70
def S_q4s (c:TCh) (d:TCh):SC Bool Bool :=
.a 1 2 2 (@F_q3a_ok d c) fun b=>
.r (b==0)
def F_q4s (a:TCh) (b:TCh):=(S_q4s a b).den
theorem F_q4s_ok {c:TCh} {a:TCh}:FO (F_q4s c a) 72 [(TCh.d c),(vp 0)] [(TCh.b a)] vb (fun _=>[(TCh.b a)]):=fO (s:=S_q4s c a) Tryz.func72
def S_q2l_b1 (d:(List TCh)) (e:TCh) (a:Nat) (_:Unit):SC Int (Step Unit Int) :=
.call (@F_q4s_ok (d.getD a dF) e) fun c b=>
.reg 4 [] [(5,hc b [0] true)] [.w a,.ev 1,.cl 0 b [0] 1 true]<|
.ite c (
.r (.ret (a:Int))) (
.r (.cont ()))
def S_q2l (a:(List TCh)) (b:TCh):SC Int Int :=
.range (a.length:Int) a.length rfl (.slot 0) 8 [0,1,7] (fun (_:Unit)=>[]) (fun _=>[]) () (S_q2l_b1 a b) (fun _ => 
.r (-1)) id
def F_q2l (a:(List TCh)) (b:TCh):=(S_q2l a b).den
theorem F_q2l_ok {c:(List TCh)} {a:TCh}:FO (F_q2l c a) 138 [(AV.d (eL TCh.e c)),(AV.fn 72 [(vp 0)])] [(TCh.b a)] vi (fun _=>[(TCh.b a)]):=fO (s:=S_q2l c a) Tryz.func138
def S_q4i (c:(List TCh)) (d:TCh):SC Bool Bool :=
.call (@F_q2l_ok c d) fun a b=>
.k 1 2 b [0] 1 true<|
.r (decide (a>=0))
def F_q4i (a:(List TCh)) (b:TCh):=(S_q4i a b).den
theorem F_q4i_ok {c:(List TCh)} {a:TCh}:FO (F_q4i c a) 71 [(AV.d (eL TCh.e c)),(AV.fn 72 [(vp 0)])] [(TCh.b a)] vb (fun _=>[(TCh.b a)]):=fO (s:=S_q4i c a) Tryz.func71
def S_q4t (f:Int):SC Int Int :=
.cut none [] (fun (a:Int×Int)=>[(0,(AV.d (DV.i .u64 a.1))),(2,(vi a.2))]) (fun _=>[]) (
.ite (decide (f>=4294967296)) (
.reg 2 [] [] [.pf (p:=(0:Int)<=32) dk]<|
.r (.next ((f.fdiv (2 ^ (min (32:Int).toNat IntKind.u64.bits))),32))) (
.r (.next (f,0)))) fun a=>
.cut none [] (fun (b:Int×Int)=>[(0,(AV.d (DV.i .u64 b.1))),(2,(vi b.2))]) (fun _=>[]) (
.ite (decide (a.1>=65536)) (
.reg 5 [] [] [.pf (p:=(0:Int)<=16) dk]<|
.r (.next ((a.1.fdiv (2 ^ (min (16:Int).toNat IntKind.u64.bits))),(i64.wrap (a.2+16))))) (
.r (.next (a.1,a.2)))) fun b=>
.cut none [] (fun (c:Int×Int)=>[(0,(AV.d (DV.i .u64 c.1))),(2,(vi c.2))]) (fun _=>[]) (
.ite (decide (b.1>=256)) (
.reg 8 [] [] [.pf (p:=(0:Int)<=8) dk]<|
.r (.next ((b.1.fdiv (2 ^ (min (8:Int).toNat IntKind.u64.bits))),(i64.wrap (b.2+8))))) (
.r (.next (b.1,b.2)))) fun c=>
 let e:=(IntKind.u8.wrap c.1)
.guard [(0:Int)<=e,e.toNat<([0,1,2,2,3,3,3,3,4,4,4,4,4,4,4,4,5,5,5,5,5,5,5,5,5,5,5,5,5,5,5,5,6,6,6,6,6,6,6,6,6,6,6,6,6,6,6,6,6,6,6,6,6,6,6,6,6,6,6,6,6,6,6,6,7,7,7,7,7,7,7,7,7,7,7,7,7,7,7,7,7,7,7,7,7,7,7,7,7,7,7,7,7,7,7,7,7,7,7,7,7,7,7,7,7,7,7,7,7,7,7,7,7,7,7,7,7,7,7,7,7,7,7,7,7,7,7,7,8,8,8,8,8,8,8,8,8,8,8,8,8,8,8,8,8,8,8,8,8,8,8,8,8,8,8,8,8,8,8,8,8,8,8,8,8,8,8,8,8,8,8,8,8,8,8,8,8,8,8,8,8,8,8,8,8,8,8,8,8,8,8,8,8,8,8,8,8,8,8,8,8,8,8,8,8,8,8,8,8,8,8,8,8,8,8,8,8,8,8,8,8,8,8,8,8,8,8,8,8,8,8,8,8,8,8,8,8,8,8,8,8,8,8,8,8,8,8,8,8,8,8,8,8,8,8,8]:Y8).length]<|
.reg 10 [] [] [.ev 0,.ev 1]<|
.r (i64.wrap (c.2+(i64.wrap ((([0,1,2,2,3,3,3,3,4,4,4,4,4,4,4,4,5,5,5,5,5,5,5,5,5,5,5,5,5,5,5,5,6,6,6,6,6,6,6,6,6,6,6,6,6,6,6,6,6,6,6,6,6,6,6,6,6,6,6,6,6,6,6,6,7,7,7,7,7,7,7,7,7,7,7,7,7,7,7,7,7,7,7,7,7,7,7,7,7,7,7,7,7,7,7,7,7,7,7,7,7,7,7,7,7,7,7,7,7,7,7,7,7,7,7,7,7,7,7,7,7,7,7,7,7,7,7,7,8,8,8,8,8,8,8,8,8,8,8,8,8,8,8,8,8,8,8,8,8,8,8,8,8,8,8,8,8,8,8,8,8,8,8,8,8,8,8,8,8,8,8,8,8,8,8,8,8,8,8,8,8,8,8,8,8,8,8,8,8,8,8,8,8,8,8,8,8,8,8,8,8,8,8,8,8,8,8,8,8,8,8,8,8,8,8,8,8,8,8,8,8,8,8,8,8,8,8,8,8,8,8,8,8,8,8,8,8,8,8,8,8,8,8,8,8,8,8,8,8,8,8,8,8,8,8,8]:Y8).getD e.toNat 0).toNat:Int))))
def F_q4t (a:Int):=(S_q4t a).den
theorem F_q4t_ok {a:Int}:FO (F_q4t a) 184 [(AV.d (DV.i .u64 a))] [] vi NL:=fO (s:=S_q4t a) Tryz.func184
def S_q4j (c:Int):SC Int Int :=
.br false (.pf (p:=false=false) rfl)<|
.a 2 1 0 (@F_q4t_ok c) fun b=>
.r b
def F_q4j (a:Int):=(S_q4j a).den
theorem F_q4j_ok {a:Int}:FO (F_q4j a) 141 [(AV.d (DV.i .u64 a))] [] vi NL:=fO (s:=S_q4j a) Tryz.func141
abbrev R_q2u:=(List TCh)
def S_q2u_b1 (d:(List TCh)) (a:Int×Int×Int×Bool×Bool):SC R_q2u (Step (Int×Int×Int×Bool×Bool) R_q2u) :=
.guard [(decide ((i64.wrap (a.2.1-a.1))<=12))=true]<|
.br true (.ev 0)<|
.call (@F_q9_ok a.1 a.2.1 d) fun b c=>
.k 4 4 c [0] 1 false<|
.r (.ret b)
def S_q2u (c:Int) (d:Int) (e:Int) (b:(List TCh)):SC R_q2u R_q2u :=
.iter [0,4] (fun (a:Int×Int×Int×Bool×Bool)=>[(1,(vi a.1)),(2,(vi a.2.1)),(3,(vi a.2.2.1)),(10,(vb a.2.2.2.1)),(11,(vb a.2.2.2.2))]) (fun _=>[]) (c,d,e,true,true) (S_q2u_b1 b) (fun _ =>
.r b) id
def F_q2u (a:Int) (b:Int) (c:Int) (d:(List TCh)):=(S_q2u a b c d).den
theorem F_q2u_ok {b:Int} {c:Int} {d:Int} {a:(List TCh)}:FO (F_q2u b c d a) 140 [(AV.ref 0 a.length 0 a.length),(vi b),(vi c),(vi d),(AV.fn 73 [])] [(eS 4 TCh.e a)] (fun _=>(AV.tup [])) (fun x=>[(eS 4 TCh.e x)]):=fO (s:=S_q2u b c d a) Tryz.func140
def S_q4k (c:(List TCh)):SC (List TCh) (List TCh) :=
.call (@F_q4j_ok (IntKind.u64.wrap (c.length:Int))) fun d a=>
.call (@F_q2u_ok 0 (c.length:Int) d c) fun e b=>
.reg 1 [] [(4,hc a [] true),(6,hc b [0] false)] [.cl 1 a [] 1 true,.cl 0 b [0] 1 false]<|
.r e
def F_q4k (a:(List TCh)):=(S_q4k a).den
theorem F_q4k_ok {a:(List TCh)}:FO (F_q4k a) 74 [(AV.ref 0 a.length 0 a.length),(AV.fn 73 [])] [(eS 4 TCh.e a)] (fun _=>(AV.tup [])) (fun x=>[(eS 4 TCh.e x)]):=fO (s:=S_q4k a) Tryz.func74
theorem zmt:LeV (AV.tup [(AV.full 0 fun _=>DV.b false),(vi 1)]) (AV.tup [(AV.d (eL TCh.e ([]))),(vi 1)]):=LeV.tup (LeVs.cons (lvN TCh.e) (LeVs.cons (LeV.refl _) LeVs.nil))
abbrev R_qd:=(List TCh)×Int
def S_qd_b1 (j:R_q4) (i:R_q4) (g:Nat) (b:(List TCh)):SC R_qd (Step ((List TCh)) R_qd) :=
.reg 10 [] [] [.w g,.ev 0]<|
.a 11 2 4 (@F_q4h_ok j (i.getD g dF)) fun m=>
.ite (!m) (
.guard [(b.length+1) * (2 * 40)<=2 ^ 48]<|
 let f:=([(i.getD g dF)]:List TCh)
.reg 12 [] [(2,hv (AV.d (eL TCh.e f))),(3,{ h:=.obj,cast:=some (AV.ref 2 ((b++f).length) 0 ((b++f).length)),obs:=[(2,(eS 4 TCh.e (b++f)))] })] [.pf (z5 TCh.e f),.e b.length,.e b.length,.pf (p:=∀ k,k<1->(TCh.d (f.getD k dF)).wd=4) (fun _ _=>rfl),.ev 0,.pf (zf (o:=2) (l:=b) (x:=f)),.pf (ze (sz:=4) (e:=TCh.e) (l:=b) (x:=f))]<|
.r (.cont (b++f))) (
.c b)
def S_qd_b2 (m:R_q4) (n:R_q4) (j:Nat) (a:(List TCh)):SC R_qd (Step ((List TCh)) R_qd) :=
.reg 16 [] [] [.w j,.ev 0]<|
 let g:=(m.getD j dF)
.call (@F_q4i_ok n g) fun q s=>
.k 17 2 s [3] 4 true<|
.ite (!q) (
.cut none [8,9,13,62,63,64] (fun (_:TCh)=>[]) (fun i=>[(3,(TCh.b i))]) (
.ite (g.C==2) (
.r (.next (⟨g.C,g.B,g.H,(-1)⟩:TCh))) (
.r (.next (⟨g.C,g.B,g.H,0⟩:TCh)))) fun i=>
.guard [(a.length+1) * (2 * 40)<=2 ^ 48]<|
 let f:=([i]:List TCh)
.reg 21 [] [(2,hv (AV.d (eL TCh.e f))),(3,{ h:=.obj,cast:=some (AV.ref 2 ((a++f).length) 0 ((a++f).length)),obs:=[(2,(eS 4 TCh.e (a++f)))] })] [.pf (z5 TCh.e f),.e a.length,.e a.length,.pf (p:=∀ k,k<1->(TCh.d (f.getD k dF)).wd=4) (fun _ _=>rfl),.ev 0,.pf (zf (o:=2) (l:=a) (x:=f)),.pf (ze (sz:=4) (e:=TCh.e) (l:=a) (x:=f))]<|
.r (.cont (a++f))) (
.c a)
def S_qd (s:TLa) (t:TLa):SC R_qd R_qd :=
.call (@F_q16_ok s) fun w m=>
.call (@F_q16_ok t) fun x n=>
 let u:=([w,x]:List Int)
.call (@F_q1w_ok u) fun f o=>
.reg 1 [] [(1,hc m [] true),(3,hc n [] true),(4,hv (vl u)),(5,hc o [] true)] [.cl 2 m [] 2 true,.cl 1 n [] 2 true,.pf (z5 (DV.i .i64) u),.cl 0 o [] 2 true]<|
.ite (f != 0) (
.ret [.pf (p:=LeV (AV.tup [(AV.full 0 fun _=>DV.b false),(vi f)]) (AV.tup [(AV.d (eL TCh.e ([]))),(vi f)])) (LeV.tup (LeVs.cons (lvN TCh.e) (LeVs.cons (LeV.refl _) LeVs.nil)))] ([],f)) (
 let v:=(cO (s.E != t.E) (s.F != t.F))
.calld [v=false] dF (@F_q2j_ok s.I t.I) fun y q =>
.reg 4 [] [(17,hc q [] true)] [.clg 0 [v=false] q [] 2 true]<|
.ite (cO v (!y)) (
.ret [.pf zmt] ([],1)) (
.call (@F_q4_ok s) fun h z=>
.call (@F_q4_ok t) fun l B=>
.reg 6 [] [(1,hc z [] true),(3,hc B [] true)] [.cl 1 z [] 2 true,.cl 0 B [] 2 true]<|
.reg 8 [] [] []<|
.bor 4 (fun j=>AV.d (TCh.e (([]:List TCh).getD j dF))) [9]<|
.range (l.length:Int) l.length rfl (.slot 8) 49 [7,8,47,48] (fun (g:(List TCh))=>[(9,(AV.ref 2 g.length 0 g.length))]) (fun g=>[(2,(eS 4 TCh.e g))]) ([]:List TCh) (S_qd_b1 h l) (fun g => 
.range (h.length:Int) h.length rfl (.slot 62) 64 [8,62,63] (fun (c:(List TCh))=>[(9,(AV.ref 2 c.length 0 c.length))]) (fun c=>[(2,(eS 4 TCh.e c))]) g (S_qd_b2 h l) (fun c => 
.call (@F_q4k_ok c) fun a C=>
.k 23 1 C [2] 3 false<|
.guard [a.length=c.length]<|
.cst (A:=a.length=c.length) (.ev 0) [(9,(AV.ref 2 c.length 0 c.length))] [(9,(AV.ref 2 a.length 0 a.length))] [(TLa.b s),(TLa.b t),(eS 4 TCh.e a)] [(TLa.b s),(TLa.b t),(eS 4 TCh.e a)] (fun hsv15=>⟨by rw[hsv15],by rfl⟩)<|
.guard [a.length<2 ^ 63]<|
.reg 24 [] [] []<|
.frz 2 (.ev 0) none [4] []<|
.r (a,0)) id) id))
def F_qd (a:TLa) (b:TLa):=(S_qd a b).den
theorem F_qd_ok {a:TLa} {b:TLa}:FO (F_qd a b) 22 [(TLa.d a),(TLa.d b)] [] (fun x=>(AV.tup [(AV.d (eL TCh.e x.1)),(vi x.2)])) NL:=fO (s:=S_qd a b) Tryz.func22
def S_q25_b1 (f:(List TCh)) (a:Nat) (b:TLa):SC (TLa×Int) (Step TLa (TLa×Int)) :=
.reg 4 [] [] [.w a,.ev 0]<|
.call (@F_q3i_ok (f.getD a dF) b) fun d e=>
.k 5 1 e [0] 3 false<|
.c d
def S_q25 (h:TLa) (f:(List TCh)):SC (TLa×Int) (TLa×Int) :=
 let e:=(⟨0,0,[],[],[],[],[],[],[],[]⟩:TLa)
.reg 0 [] [(1,{ obs:=[(1,(TLa.b e))] })] [.pf cz3]<|
.a 1 1 2 (@F_q17_ok h) fun g=>
.range (f.length:Int) f.length rfl (.slot 10) 12 [2,4,10,11] (fun (_:TLa)=>[]) (fun c=>[(0,(TLa.b c))]) g (S_q25_b1 f) (fun c => 
.ite (cO (cO (decide ((c.N.length:Int)>120)) (decide ((c.K.length:Int)>60))) (decide ((c.P.length:Int)>60))) (
.reg 8 [] [(0,hv (TLa.d e))] [.pf cz9]<|
.r (e,3)) (
.r (c,0))) id
def F_q25 (a:TLa) (b:(List TCh)):=(S_q25 a b).den
theorem F_q25_ok {a:TLa} {b:(List TCh)}:FO (F_q25 a b) 44 [(TLa.d a),(AV.d (eL TCh.e b))] [] (fun x=>(AV.tup [(TLa.d x.1),(vi x.2)])) NL:=fO (s:=S_q25 a b) Tryz.func44
abbrev R_qx:=TLa×Int
def S_qx_b1 (f:TLa) (g:(List TCh)) (b:Nat) (_:Unit):SC R_qx (Step Unit R_qx) :=
.reg 6 [] [] [.w b,.ev 0]<|
.a 7 2 3 (@F_q3n_ok f (g.getD b dF)) fun c=>
.ite (c != 0) (
 let e:=(⟨0,0,[],[],[],[],[],[],[],[]⟩:TLa)
.reg 9 [] [(0,hv (TLa.d e))] [.pf cz9]<|
.r (.ret (e,c))) (
.r (.cont ()))
def S_qx (h:TLa) (g:(List TCh)):SC R_qx R_qx :=
 let c:=(⟨0,0,[],[],[],[],[],[],[],[]⟩:TLa)
.reg 0 [] [(1,{ obs:=[(1,(TLa.b c))] })] [.pf cz3]<|
.a 1 1 2 (@F_q16_ok h) fun e=>
.ite (e != 0) (
.reg 3 [] [(0,hv (TLa.d c))] [.pf cz9]<|
.r (c,e)) (
.range (g.length:Int) g.length rfl (.slot 1) 18 [1,2,4,16,17] (fun (_:Unit)=>[]) (fun _=>[]) () (S_qx_b1 h g) (fun _ => 
.a 11 2 2 (@F_q25_ok h g) fun f=>
.r (f.1,f.2)) id)
def F_qx (a:TLa) (b:(List TCh)):=(S_qx a b).den
theorem F_qx_ok {a:TLa} {b:(List TCh)}:FO (F_qx a b) 17 [(TLa.d a),(AV.d (eL TCh.e b))] [] (fun x=>(AV.tup [(TLa.d x.1),(vi x.2)])) NL:=fO (s:=S_qx a b) Tryz.func17
def S_q4u (X:(List Int)):SC Bool Bool :=
.call (@F_q3b_ok X) fun V W=>
.k 1 1 W [] 0 false<|
.call (@F_q2_ok V) fun g M=>
 let u:=(TLa.b (⟨0,0,[],[],[],[],[],[],[],[]⟩:TLa))
.reg 2 [] [(1,hc M [0] false),(2,{ obs:=[(1,u)] })] [.cl 0 M [0] 1 false,.pf cz3]<|
 let N:=[(3,(vp 0)),(4,(vp 1))]
.sh (H:=NoH) (A:=True) (.pf trivial) N N [(TTape.b g.2),(TLa.b g.1)] [(TTape.b g.2),(TLa.b g.1),Ob.unb] (fun _=>z2n) (z29 _)<|
.call (@F_q1a_ok g.1 g.2) fun j I=>
.call (@F_qw_ok g.1 j.1) fun m J=>
 let v:=(j.2++m.1)
.call (@F_q24_ok g.1 v) fun w K=>
.guard [(j.2.length+m.1.length) * (2 * 40)<=2 ^ 48]<|
.reg 3 [3,6,7,12,13] [(3,hc I [0] false),(6,hc J [0] false),(7,{ cast:=some (AV.ref 4 v.length 0 v.length),obs:=[(4,(eS 4 TCh.e v))] }),(8,hc K [4] true),(12,{ h:=.born 2 false,obs:=[(2,u)] })] [.cl 3 I [0] 3 false,.cl 3 I [0] 3 false,.cl 2 J [0] 5 false,.cl 2 J [0] 5 false,.e j.2.length,.e j.2.length,.pf (p:=∀ k,k<m.1.length->(TCh.d (m.1.getD k dF)).wd=4) (fun _ _=>rfl),.ev 0,.pf (zf (o:=4) (l:=j.2) (x:=m.1)),.pf (ze (sz:=4) (e:=TCh.e) (l:=j.2) (x:=m.1)),.e j.2.length,.e j.2.length,.pf (p:=∀ k,k<m.1.length->(TCh.d (m.1.getD k dF)).wd=4) (fun _ _=>rfl),.ev 0,.pf (zf (o:=4) (l:=j.2) (x:=m.1)),.pf (ze (sz:=4) (e:=TCh.e) (l:=j.2) (x:=m.1)),.cl 1 K [4] 5 true,.cl 1 K [4] 5 true,.pf cz3,.pf cz3,.pf cz3,.pf cz3]<|
.a 4 2 5 (@F_qd_ok g.1 w.1) fun c=>
.call (@F_qx_ok g.1 c.1) fun O P=>
.reg 5 [] [(2,hc P [] true),(6,{ obs:=[(5,u)] })] [.cl 0 P [] 5 true,.pf cz3]<|
.a 6 2 6 (@F_qd_ok g.1 g.1) fun Q=>
.a 7 2 6 (@F_qd_ok O.1 w.1) fun R=>
.ite (cO (cO (cO (cO (cO (cO (w.2 != 0) (c.2 != 0)) (O.2 != 0)) (Q.2 != 0)) (R.2 != 0)) (decide ((Q.1.length:Int)>0))) (decide ((R.1.length:Int)>0))) (
.r false) (
.ite (decide ((c.1.length:Int)>0)) (
.call (@F_q0_ok (c.1.length:Int) m.2) fun i S=>
.k 11 3 S [0] 6 false<|
 let s:=(i64.wrap (i.1+1))
 let n:=(c.1.drop s.toNat)
 let f:=(c.1.take i.1.toNat)
.guard [(0:Int)<=i.1,i.1.toNat<=c.1.length,f.length * (2 * 40)<=2 ^ 48,(0:Int)<=s,s.toNat<=c.1.length,(f.length+n.length) * (2 * 40)<=2 ^ 48]<|
.reg 12 [4,9] [(3,hv (AV.d (eL TCh.e f))),(4,{ h:=.obj }),(8,hv (AV.d (eL TCh.e n))),(9,{ cast:=some (AV.ref 6 ((f++n).length) 0 ((f++n).length)),obs:=[(6,(eS 4 TCh.e (f++n)))] })] [.ev 0,.ev 1,.der (fun (h0:i.1.toNat<=c.1.length)=>lvT TCh.e c.1 h0) 1,.pf (p:=∀ k,k<f.length->(TCh.d (f.getD k dF)).wd=4) (fun _ _=>rfl),.ev 2,.ev 3,.ev 4,.pf (lvD TCh.e c.1 s.toNat),.ev 3,.ev 4,.pf (lvD TCh.e c.1 s.toNat),.e f.length,.e f.length,.pf (p:=∀ k,k<n.length->(TCh.d (n.getD k dF)).wd=4) (fun _ _=>rfl),.ev 5,.pf (zf (o:=6) (l:=f) (x:=n)),.pf (ze (sz:=4) (e:=TCh.e) (l:=f) (x:=n))]<|
.guard [(f++n).length<2 ^ 63]<|
.frz 6 (.ev 0) none [16] []<|
.call (@F_qx_ok g.1 (f++n)) fun E F=>
.reg 13 [] [(2,hc F [] true),(6,{ obs:=[(7,u)] })] [.cl 0 F [] 7 true,.pf cz3]<|
.a 14 2 8 (@F_qd_ok E.1 w.1) fun q=>
 let t:=(bif (bif (E.2==0) then (q.2==0) else false) then ((q.1.length:Int)==1) else false)
 let y:=(c.1.getD i.1.toNat dF)
 let z:=(q.1.getD 0 dF)
 let L:=(bif t then ((z.C==y.C)&&((z.B==y.B)&&((z.H==y.H)&&((z.D==y.D)&&true)))) else false)
.calld [L=true] dF (@F_q2x_ok) fun T G =>
.guard [AllP [t=true]->(0<q.1.length),AllP [t=true]->((0:Int)<=i.1),AllP [t=true]->(i.1.toNat<c.1.length)]<|
.reg 15 [] [(22,hc G [] true)] [.pf (p:=AllP [t=true]->((0:Int)<=0)) (fun _=>dk),.ev 0,.ev 1,.ev 2,.clg 3 [L=true] G [] 8 true]<|
.r (bif L then T else false)) (
.a 16 0 6 (@F_q2x_ok) fun U=>
.r U))
def F_q4u (a:(List Int)):=(S_q4u a).den
theorem F_q4u_ok {a:(List Int)}:FO (F_q4u a) 6 [(vl a)] [] vb NL:=fO (s:=S_q4u a) Tryz.func6
end
end Go.Proofs.YtgfgnhpecnmlpaaGreatDoor
