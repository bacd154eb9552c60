/- A part of the proof: what the functions compute, and that their calls return it. No condition. -/
import Derived.Test.YtljnmhapbonmfaaGreatDoorG3
/- What the functions compute, and that their calls return it. No condition. -/
namespace Go.Proofs.YtljnmhapbonmfaaGreatDoor
open Go Go.TA
open Go.IntKind (i64)
noncomputable section
set_option maxRecDepth 100000
set_option maxHeartbeats 2000000
def S_q3k (a:(List TEa)):SC (List TEa) (List TEa) :=
.reg 0 [] [] []<|
 let b:=(AV.d (eL TEa.e a))
.nils 0 (
.guard [(0+a.length) * (2 * 40)<=2 ^ 48]<|
.reg 1 [] [] []<|
.lev 0 b (.pf (lvQ true a.length fun j=>(TEa.e (a.getD j dF))))<|
.br true (.pf (p:=true=true) rfl)<|
.reg 2 [] [] []<|
.lev 2 b (.der (fun (h:a.length=0)=>lvZ TEa.e a h) 1)<|
.r a) (
.reg 1 [] [] []<|
.lev 0 b (.pf (lvQ false a.length fun j=>(TEa.e (a.getD j dF))))<|
.br false (.pf (p:=false=false) rfl)<|
.guard [(0+a.length) * (2 * 40)<=2 ^ 48]<|
.reg 3 [] [(2,hv b)] [.pf (p:=∀ k,k<a.length->AV.d (TEa.e (a.getD k dF))=AV.d (TEa.e (a.getD k dF))/\(TEa.e (a.getD k dF)).wd=3) (fun _ _=>⟨rfl,rfl⟩),.pf cz6,.ev 0,.pf (z2u (e:=TEa.e) (x:=a))]<|
.r a)
def F_q3k (a:(List TEa)):=(S_q3k a).den
theorem F_q3k_ok {a:(List TEa)}:FO (F_q3k a) 153 [(AV.d (eL TEa.e a))] [] (fun x=>(AV.d (eL TEa.e x))) NL:=fO (s:=S_q3k a) Tryz.func153
theorem cz7:∀ k,k<0->(DV.b false).wd=7:=fun _ h=>absurd h (y4p _)
def S_q3l (a:(List TCo)):SC (List TCo) (List TCo) :=
.reg 0 [] [] []<|
 let b:=(AV.d (eL TCo.e a))
.nils 0 (
.guard [(0+a.length) * (2 * 72)<=2 ^ 48]<|
.reg 1 [] [] []<|
.lev 0 b (.pf (lvQ true a.length fun j=>(TCo.e (a.getD j dF))))<|
.br true (.pf (p:=true=true) rfl)<|
.reg 2 [] [] []<|
.lev 2 b (.der (fun (h:a.length=0)=>lvZ TCo.e a h) 1)<|
.r a) (
.reg 1 [] [] []<|
.lev 0 b (.pf (lvQ false a.length fun j=>(TCo.e (a.getD j dF))))<|
.br false (.pf (p:=false=false) rfl)<|
.guard [(0+a.length) * (2 * 72)<=2 ^ 48]<|
.reg 3 [] [(2,hv b)] [.pf (p:=∀ k,k<a.length->AV.d (TCo.e (a.getD k dF))=AV.d (TCo.e (a.getD k dF))/\(TCo.e (a.getD k dF)).wd=7) (fun _ _=>⟨rfl,rfl⟩),.pf cz7,.ev 0,.pf (z2u (e:=TCo.e) (x:=a))]<|
.r a)
def F_q3l (a:(List TCo)):=(S_q3l a).den
theorem F_q3l_ok {a:(List TCo)}:FO (F_q3l a) 154 [(AV.d (eL TCo.e a))] [] (fun x=>(AV.d (eL TCo.e x))) NL:=fO (s:=S_q3l a) Tryz.func154
theorem cz8:∀ k,k<0->(DV.b false).wd=4:=fun _ h=>absurd h (y4p _)
def S_q3m (a:(List TRu)):SC (List TRu) (List TRu) :=
.reg 0 [] [] []<|
 let b:=(AV.d (eL TRu.e a))
.nils 0 (
.guard [(0+a.length) * (2 * 48)<=2 ^ 48]<|
.reg 1 [] [] []<|
.lev 0 b (.pf (lvQ true a.length fun j=>(TRu.e (a.getD j dF))))<|
.br true (.pf (p:=true=true) rfl)<|
.reg 2 [] [] []<|
.lev 2 b (.der (fun (h:a.length=0)=>lvZ TRu.e a h) 1)<|
.r a) (
.reg 1 [] [] []<|
.lev 0 b (.pf (lvQ false a.length fun j=>(TRu.e (a.getD j dF))))<|
.br false (.pf (p:=false=false) rfl)<|
.guard [(0+a.length) * (2 * 48)<=2 ^ 48]<|
.reg 3 [] [(2,hv b)] [.pf (p:=∀ k,k<a.length->AV.d (TRu.e (a.getD k dF))=AV.d (TRu.e (a.getD k dF))/\(TRu.e (a.getD k dF)).wd=4) (fun _ _=>⟨rfl,rfl⟩),.pf cz8,.ev 0,.pf (z2u (e:=TRu.e) (x:=a))]<|
.r a)
def F_q3m (a:(List TRu)):=(S_q3m a).den
theorem F_q3m_ok {a:(List TRu)}:FO (F_q3m a) 155 [(AV.d (eL TRu.e a))] [] (fun x=>(AV.d (eL TRu.e x))) NL:=fO (s:=S_q3m a) Tryz.func155
def S_q3n (a:(List TCh)):SC (List TCh) (List TCh) :=
.reg 0 [] [] []<|
 let b:=(AV.d (eL TCh.e a))
.nils 0 (
.guard [(0+a.length) * (2 * 40)<=2 ^ 48]<|
.reg 1 [] [] []<|
.lev 0 b (.pf (lvQ true a.length fun j=>(TCh.e (a.getD j dF))))<|
.br true (.pf (p:=true=true) rfl)<|
.reg 2 [] [] []<|
.lev 2 b (.der (fun (h:a.length=0)=>lvZ TCh.e a h) 1)<|
.r a) (
.reg 1 [] [] []<|
.lev 0 b (.pf (lvQ false a.length fun j=>(TCh.e (a.getD j dF))))<|
.br false (.pf (p:=false=false) rfl)<|
.guard [(0+a.length) * (2 * 40)<=2 ^ 48]<|
.reg 3 [] [(2,hv b)] [.pf (p:=∀ k,k<a.length->AV.d (TCh.e (a.getD k dF))=AV.d (TCh.e (a.getD k dF))/\(TCh.e (a.getD k dF)).wd=4) (fun _ _=>⟨rfl,rfl⟩),.pf cz8,.ev 0,.pf (z2u (e:=TCh.e) (x:=a))]<|
.r a)
def F_q3n (a:(List TCh)):=(S_q3n a).den
theorem F_q3n_ok {a:(List TCh)}:FO (F_q3n a) 156 [(AV.d (eL TCh.e a))] [] (fun x=>(AV.d (eL TCh.e x))) NL:=fO (s:=S_q3n a) Tryz.func156
def S_q15_b1 (n:TLa) (j:Nat) (f:Int×Int×(List THe)×(List TLi)×(List TBo)×(List TBo)×(List TEa)×(List TCo)×(List TRu)×(List TAm)):SC TLa (Step (Int×Int×(List THe)×(List TLi)×(List TBo)×(List TBo)×(List TEa)×(List TCo)×(List TRu)×(List TAm)) TLa) :=
.reg 7 [] [(2,{ obs:=[(3,(TAm.b (⟨0,0,[]⟩:TAm)))] })] [.w j,.ev 0,.pf cz3]<|
 let i:=(n.A.getD j dF)
.a 8 2 4 (@F_q3n_ok i.K) fun m=>
.guard [(f.2.2.2.2.2.2.2.2.2.length+1) * (2 * 40)<=2 ^ 48]<|
 let g:=([(⟨i.I,i.F,m⟩:TAm)]:List TAm)
 let h:=(f.2.2.2.2.2.2.2.2.2++g)
.reg 9 [] [(3,hv (AV.d (eL TAm.e g))),(4,{ cast:=some (AV.ref 2 h.length 0 h.length),obs:=[(2,(eS 3 TAm.e h))] })] [.pf (z5 TAm.e g),.e f.2.2.2.2.2.2.2.2.2.length,.e f.2.2.2.2.2.2.2.2.2.length,.pf (p:=∀ k,k<1->(TAm.d (g.getD k dF)).wd=3) (fun _ _=>rfl),.ev 0,.pf (zg (o:=2) (l:=f.2.2.2.2.2.2.2.2.2) (x:=g)),.pf (zf (sz:=3) (e:=TAm.e) (l:=f.2.2.2.2.2.2.2.2.2) (x:=g))]<|
.c (f.1,f.2.1,f.2.2.1,f.2.2.2.1,f.2.2.2.2.1,f.2.2.2.2.2.1,f.2.2.2.2.2.2.1,f.2.2.2.2.2.2.2.1,f.2.2.2.2.2.2.2.2.1,h)
def S_q15 (c:TLa):SC TLa TLa :=
 let i:=(TLa.b (⟨0,0,[],[],[],[],[],[],[],[]⟩:TLa))
.reg 0 [] [(1,{ obs:=[(1,i)] })] [.pf cz2]<|
.call (@F_q3i_ok c.E) fun l s=>
.call (@F_q3j_ok c.T) fun m t=>
.call (@F_q2z_ok c.M) fun n u=>
.call (@F_q2z_ok c.S) fun o v=>
.reg 1 [13,15,17,19] [(2,hc s [] true),(5,hc t [] true),(8,hc u [] true),(11,hc v [] true)] [.cl 3 s [] 2 true,.cl 2 t [] 2 true,.cl 1 u [] 2 true,.cl 0 v [] 2 true]<|
.call (@F_q3k_ok c.N) fun p w=>
.call (@F_q3l_ok c.O) fun q x=>
.call (@F_q3m_ok c.J) fun g h=>
.reg 2 [10,12,14] [(2,hc w [] true),(5,hc x [] true),(8,hc h [] true)] [.cl 2 w [] 2 true,.cl 1 x [] 2 true,.cl 0 h [] 2 true]<|
.reg 4 [] [] []<|
 let y:=[(1,(vp 0)),(2,(vp 1)),(3,(AV.d (eL TAm.e c.A)))]
.sh (A:=True) (.pf trivial) y y [(Ob.box (AV.agg [(vi c.G),(vi c.H),(AV.d (eL THe.e l)),(AV.d (eL TLi.e m)),(AV.d (eL TBo.e n)),(AV.d (eL TBo.e o)),(AV.d (eL TEa.e p)),(AV.d (eL TCo.e q)),(AV.d (eL TRu.e g)),(AV.full 0 fun _=>DV.b false)])),i] [(Ob.box (AV.agg [(vi c.G),(vi c.H),(AV.d (eL THe.e l)),(AV.d (eL TLi.e m)),(AV.d (eL TBo.e n)),(AV.d (eL TBo.e o)),(AV.d (eL TEa.e p)),(AV.d (eL TCo.e q)),(AV.d (eL TRu.e g)),(AV.ref 2 0 0 0)])),i,(eS 3 TAm.e ([]:List TAm))] (fun _=>(z1e (sz:=3) (f:=fun j=>AV.d (TAm.e (([]:List TAm).getD j dF))) (.box _ _ _ _ _ (ya rfl) (TrV.agg (TrL.cons (TrV.keep _) (TrL.cons (TrV.keep _) (TrL.cons (TrV.keep _) (TrL.cons (TrV.keep _) (TrL.cons (TrV.keep _) (TrL.cons (TrV.keep _) (TrL.cons (TrV.keep _) (TrL.cons (TrV.keep _) (TrL.cons (TrV.keep _) (TrL.cons TrV.born TrL.nil))))))))))) (.keep _ _ _ _ (ya rfl) (.nil _))))) (zw (k:=0) rfl (TrS.keep _) (zw (k:=1) rfl (TrS.keep _) (zw (k:=2) rfl (TrS.keep _) z1q)))<|
.range (c.A.length:Int) c.A.length rfl (.slot 37) 39 [1,2,37,38] (fun (_:Int×Int×(List THe)×(List TLi)×(List TBo)×(List TBo)×(List TEa)×(List TCo)×(List TRu)×(List TAm))=>[]) (fun a=>[(0,(Ob.box (AV.agg [(vi a.1),(vi a.2.1),(AV.d (eL THe.e a.2.2.1)),(AV.d (eL TLi.e a.2.2.2.1)),(AV.d (eL TBo.e a.2.2.2.2.1)),(AV.d (eL TBo.e a.2.2.2.2.2.1)),(AV.d (eL TEa.e a.2.2.2.2.2.2.1)),(AV.d (eL TCo.e a.2.2.2.2.2.2.2.1)),(AV.d (eL TRu.e a.2.2.2.2.2.2.2.2.1)),(AV.ref 2 a.2.2.2.2.2.2.2.2.2.length 0 a.2.2.2.2.2.2.2.2.2.length)]))),(2,(eS 3 TAm.e a.2.2.2.2.2.2.2.2.2))]) (c.G,c.H,l,m,n,o,p,q,g,([]:List TAm)) (S_q15_b1 c) (fun a => 
.guard [a.2.2.2.2.2.2.2.2.2.length<2 ^ 63]<|
.reg 11 [] [] []<|
.frz 2 (.ev 0) none [] [0,1]<|
.r (⟨a.1,a.2.1,a.2.2.1,a.2.2.2.1,a.2.2.2.2.1,a.2.2.2.2.2.1,a.2.2.2.2.2.2.1,a.2.2.2.2.2.2.2.1,a.2.2.2.2.2.2.2.2.1,a.2.2.2.2.2.2.2.2.2⟩:TLa)) id
def F_q15 (a:TLa):=(S_q15 a).den
theorem F_q15_ok {a:TLa}:FO (F_q15 a) 137 [(TLa.d a)] [] (fun x=>(TLa.d x)) NL:=fO (s:=S_q15 a) Tryz.func137
def S_q1x (a:TLi):SC TPl TPl :=
.r (⟨a.B,a.D⟩:TPl)
def F_q1x (a:TLi):=(S_q1x a).den
theorem F_q1x_ok {a:TLi}:FO (F_q1x a) 157 [(TLi.d a)] [] (fun x=>(TPl.d x)) NL:=fO (s:=S_q1x a) Tryz.func157
def S_q1y (h:TPl) (j:TPl):SC Int Int :=
.call (@F_qn_ok h.code j.code) fun e b=>
.call (@F_qc_ok h.year j.year) fun f c=>
 let a:=([e,f]:List Int)
.call (@F_q9_ok a) fun g d=>
.reg 1 [] [(4,hc b [] true),(9,hc c [] true),(10,hv (vl a)),(11,hc d [] true)] [.cl 2 b [] 2 true,.cl 1 c [] 2 true,.pf (z5 (DV.i .i64) a),.cl 0 d [] 2 true]<|
.r g
def F_q1y (a:TPl) (b:TPl):=(S_q1y a b).den
theorem F_q1y_ok {a:TPl} {b:TPl}:FO (F_q1y a b) 179 [(TPl.d a),(TPl.d b)] [] vi NL:=fO (s:=S_q1y a b) Tryz.func179
abbrev R_qp:=Int×Bool
def S_qp_b1 (g:TPl) (c:(List TPl)) (a:Int×Int):SC R_qp (Step (Int×Int) R_qp) :=
.ite (decide (a.1<a.2)) (
.reg 4 [] [] [.pf (p:=(0:Int)<=1) dk]<|
 let b:=(i64.wrap ((IntKind.u64.wrap (i64.wrap (a.1+a.2))).fdiv (2 ^ (min (1:Int).toNat IntKind.u64.bits))))
.call (@F_q1y_ok (c.getD (0+b.toNat) dF) g) fun f d=>
.guard [(0:Int)<=b,b.toNat<c.length,(0+b.toNat)<c.length]<|
.reg 5 [] [(6,hc d [] true)] [.e c.length,.ev 0,.ev 1,.e c.length,.ev 2,.cl 3 d [] 2 true]<|
.ite (decide (f<0)) (
.r (.cont ((i64.wrap (b+1)),a.2))) (
.r (.cont (a.1,b)))) (
.r (.brk (a.1,a.2)))
def S_qp (f:TPl) (c:(List TPl)):SC R_qp R_qp :=
.iter [0,2,4,8] (fun (a:Int×Int)=>[(9,(vi a.1)),(10,(vi a.2))]) (fun _=>[]) (0,(c.length:Int)) (S_qp_b1 f c) (fun a =>
 let b:=(decide (a.1<(c.length:Int)))
.calld [b=true] dF (@F_q1y_ok (c.getD (0+a.1.toNat) dF) f) fun e d =>
.guard [AllP [b=true]->((0:Int)<=a.1),AllP [b=true]->(a.1.toNat<c.length),AllP [b=true]->((0+a.1.toNat)<c.length)]<|
.reg 8 [] [(11,hc d [] true)] [.pf (p:=AllP [b=true]->(c.length=c.length)) (fun _=>rfl),.ev 0,.ev 1,.pf (p:=AllP [b=true]->(c.length=c.length)) (fun _=>rfl),.ev 2,.clg 3 [b=true] d [] 2 true]<|
.r (a.1,(bif b then (e==0) else false))) id
def F_qp (a:TPl) (b:(List TPl)):=(S_qp a b).den
theorem F_qp_ok {b:TPl} {a:(List TPl)}:FO (F_qp b a) 178 [(AV.ref 0 a.length 0 a.length),(TPl.d b),(AV.fn 179 [])] [(eS 2 TPl.e a)] (fun x=>(AV.tup [(vi x.1),(vb x.2)])) (fun _=>[(eS 2 TPl.e a)]):=fO (s:=S_qp b a) Tryz.func178
def S_q30 (a:(List TLi)):SC (List TLi) (List TLi) :=
.reg 0 [] [] []<|
.nils 0 (
.guard [a.length * (2 * 32)<=2 ^ 48]<|
.reg 1 [] [] []<|
.lev 0 (AV.d (eL TLi.e a)) (.pf (lvQ true a.length fun j=>(TLi.e (a.getD j dF))))<|
.br true (.pf (p:=true=true) rfl)<|
.reg 2 [] [] []<|
.bor 3 (fun j=>AV.d (TLi.e (a.getD j dF))) [2]<|
.cst (A:=a.length=0) (.ev 1) [(2,AV.ref 0 0 0 0)] [(2,(AV.ref 0 a.length 0 a.length))] [(Ob.seq 3 0 fun j=>AV.d (TLi.e (a.getD j dF)))] [(eS 3 TLi.e a)] (fun h=>⟨by rw[h],by unfold eS; rw[h]⟩)<|
.r a) (
.reg 1 [] [] []<|
.lev 0 (AV.d (eL TLi.e a)) (.pf (lvQ false a.length fun j=>(TLi.e (a.getD j dF))))<|
.br false (.pf (p:=false=false) rfl)<|
.guard [a.length * (2 * 32)<=2 ^ 48]<|
.reg 3 [] [(2,{ h:=.obj })] [.pf (p:=∀ k,k<a.length->(TLi.d (a.getD k dF)).wd=3) (fun _ _=>rfl),.ev 0]<|
.r a)
def F_q30 (a:(List TLi)):=(S_q30 a).den
theorem F_q30_ok {a:(List TLi)}:FO (F_q30 a) 151 [(AV.d (eL TLi.e a))] [] (fun x=>(AV.ref 0 x.length 0 x.length)) (fun x=>[(eS 3 TLi.e x)]):=fO (s:=S_q30 a) Tryz.func151
def S_q31 (q:Int) (o:Int) (a:(List TLi)):SC (List TLi) (List TLi) :=
.guard [(0:Int)<=q,(0:Int)<=o,q.toNat<=o.toNat,o.toNat<=a.length]<|
.reg 1 [] [] [.ev 0,.ev 1,.ev 2,.ev 3,.e a.length,.pf (nn a.length),.ev 3,.pf (p:=a.length<=a.length) (y7 _)]<|
.ite (q==o) (
.guard [a.length<2 ^ 63]<|
.reg 3 [] [] []<|
.frz 0 (.ev 0) none [6] []<|
.r a) (
 let c:=(a.length-o.toNat)
 let f:=(q.toNat-0)
.guard [q.toNat<=a.length,f+c<=a.length]<|
 let g:=(0+o.toNat)
.reg 5 [6] [(6,{ h:=.imm,obs:=[(0,(eS 3 TLi.e (copyL a f c (fun i=>(a.getD (g+i) dF)))))] })] [.ev 3,.ev 0,.e a.length,.ev 4,.ev 6,.e a.length,.e a.length,.e a.length,.ev 1,.pf (p:=∀ k,k<c->(TLi.d (a.getD (g+k) dF)).wd=3) (fun _ _=>rfl),.pf (zbp (sz:=3) (e:=TLi.e) (l:=a) (off:=f) (k:=c) (s:=(fun i=>(a.getD (g+i) dF))))]<|
 let b:=(f+c)
 let t:=(7,(vi (a.length:Int)))
.cst (A:=True) (.pf trivial) [(0,(AV.ref 0 a.length 0 b)),t] [(0,(AV.ref 0 ((copyL a f c (fun i=>(a.getD (g+i) dF))).length) 0 b)),t] [(eS 3 TLi.e (copyL a f c (fun i=>(a.getD (g+i) dF))))] [(eS 3 TLi.e (copyL a f c (fun i=>(a.getD (g+i) dF))))] (fun _=>⟨by simp +zetaDelta only[zt],by rfl⟩)<|
.guard [b<=a.length,a.length<=(copyL a f c (fun i=>(a.getD (g+i) dF))).length]<|
 let j:=(⟨[],0,0⟩:TLi)
 let m:=(a.length-b)
.reg 6 [] [(5,{ obs:=[(0,(eS 3 TLi.e (clearL (copyL a f c (fun i=>(a.getD (g+i) dF))) (0+b) m j)))] })] [.w b,.pf (nn a.length),.ev 0,.ev 1,.pf (y25 ((copyL a f c (fun i=>(a.getD (g+i) dF))).length)),.pf (y25 ((copyL a f c (fun i=>(a.getD (g+i) dF))).length)),.pf (za6 (sz:=3) (e:=TLi.e) (l:=(copyL a f c (fun i=>(a.getD (g+i) dF)))) (off:=(0+b)) (n:=m) (z:=j))]<|
.cst (A:=True) (.pf trivial) [(0,(AV.ref 0 ((copyL a f c (fun i=>(a.getD (g+i) dF))).length) 0 b))] [(0,(AV.ref 0 ((clearL (copyL a f c (fun i=>(a.getD (g+i) dF))) (0+b) m j).length) 0 b))] [(eS 3 TLi.e (clearL (copyL a f c (fun i=>(a.getD (g+i) dF))) (0+b) m j))] [(eS 3 TLi.e (clearL (copyL a f c (fun i=>(a.getD (g+i) dF))) (0+b) m j))] (fun _=>⟨by simp +zetaDelta only[z1b,zt],by rfl⟩)<|
.guard [(clearL (copyL a f c (fun i=>(a.getD (g+i) dF))) (0+b) m j).length<2 ^ 63]<|
.reg 7 [] [] []<|
.guard [b<=(clearL (copyL a f c (fun i=>(a.getD (g+i) dF))) (0+b) m j).length]<|
.frz 0 (.ev 1) (some (.der (fun (h:b<=(clearL (copyL a f c (fun i=>(a.getD (g+i) dF))) (0+b) m j).length)=>(h:b<=(clearL (copyL a f c (fun i=>(a.getD (g+i) dF))) (0+b) m j).length)) 0)) [6] []<|
.lev 6 (AV.d (eL TLi.e ((clearL (copyL a f c (fun i=>(a.getD (g+i) dF))) (0+b) m j).take b))) (.der (fun (h:b<=(clearL (copyL a f c (fun i=>(a.getD (g+i) dF))) (0+b) m j).length)=>lvT TLi.e (clearL (copyL a f c (fun i=>(a.getD (g+i) dF))) (0+b) m j) h) 0)<|
.r ((clearL (copyL a f c (fun i=>(a.getD (g+i) dF))) (0+b) m j).take b))
def F_q31 (a:Int) (b:Int) (c:(List TLi)):=(S_q31 a b c).den
theorem F_q31_ok {b:Int} {c:Int} {a:(List TLi)}:FO (F_q31 b c a) 180 [(AV.ref 0 a.length 0 a.length),(vi b),(vi c)] [(eS 3 TLi.e a)] (fun x=>(AV.d (eL TLi.e x))) (fun _=>[Ob.dead]):=fO (s:=S_q31 b c a) Tryz.func180
def V_q3r (x:(List TLi)):AV:=.ref 0 x.length 0 x.length
def L_q3r (a:List TLi) (x:(List TLi)):List Ob:=[eS 3 TLi.e x,eS 3 TLi.e a]
def F_q3r (a:Int) (b c:List TLi):Option (List TLi):=match c with
 | [y]=>guardP (0<=a/\a.toNat<=b.length/\(b.length+1) * (4 * 32)<=2 ^ 48) (some (insL b a.toNat y))
 | _=>none
theorem F_q3r_ok {c:Int} {f b:List TLi} (r:(List TLi)) (h:F_q3r c f b=some r):CallOk Tryz.prog 181 [(AV.ref 0 f.length 0 f.length),(AV.d (.i .i64 c)),(AV.ref 1 b.length 0 b.length)] [(eS 3 TLi.e f),(eS 3 TLi.e b)] (V_q3r r) (L_q3r b r):=by
 unfold F_q3r at h
 split at h
 ·rename_i y
  obtain⟨⟨h1,h2,h3⟩,h⟩:=z24 h
  obtain rfl:=yo h
  obtain⟨i,rfl⟩:∃ i:Nat,c=(i:Int):=⟨c.toNat,(y4v h1).symm⟩
  exact InsG.ins_ok .a (fun _=>rfl) h2 h3
 ·cases h
abbrev R_q1f:=(List TLi)
def S_q1f_b1 (a0_0:(List TLi)) (f:Nat) (a:(List TPl)):SC R_q1f (Step ((List TPl)) R_q1f) :=
.reg 4 [] [] [.w f,.ev 0]<|
.call (@F_q1x_ok (a0_0.getD f dF)) fun i g=>
.guard [(a.length+1) * (2 * 24)<=2 ^ 48]<|
 let b:=([i]:List TPl)
.reg 5 [] [(4,hc g [] true),(5,hv (AV.d (eL TPl.e b))),(6,{ h:=.obj,cast:=some (AV.ref 2 ((a++b).length) 0 ((a++b).length)),obs:=[(2,(eS 2 TPl.e (a++b)))] })] [.cl 1 g [] 4 true,.pf (z5 TPl.e b),.e a.length,.e a.length,.pf (p:=∀ k,k<1->(TPl.d (b.getD k dF)).wd=2) (fun _ _=>rfl),.ev 0,.pf (zg (o:=2) (l:=a) (x:=b)),.pf (zf (sz:=2) (e:=TPl.e) (l:=a) (x:=b))]<|
.c (a++b)
def S_q1f (a0_0:(List TLi)) (o:TLi) (B:Bool):SC R_q1f R_q1f :=
.reg 2 [] [] []<|
.bor 2 (fun j=>AV.d (TPl.e (([]:List TPl).getD j dF))) [7]<|
.range (a0_0.length:Int) a0_0.length rfl (.slot 14) 16 [2,3,4,14,15] (fun (f:(List TPl))=>[(7,(AV.ref 2 f.length 0 f.length))]) (fun f=>[(2,(eS 2 TPl.e f))]) ([]:List TPl) (S_q1f_b1 a0_0) (fun f => 
.call (@F_q1x_ok o) fun v p=>
.call (@F_qp_ok v f) fun c q=>
.reg 7 [] [(4,hc p [] true),(5,hc q [2] true)] [.cl 1 p [] 3 true,.cl 0 q [2] 3 true]<|
.call (@F_q30_ok a0_0) fun a w=>
.k 8 2 w [] 3 false<|
.ite (bif B then c.2 else false) (
.call (@F_q31_ok c.1 (i64.wrap (c.1+1)) a) fun y z=>
.k 10 4 z [3] 4 false<|
.r y) (
.ite B (
.guard [a.length<2 ^ 63]<|
.reg 12 [] [] []<|
.frz 3 (.ev 0) none [6] []<|
.r a) (
.ite c.2 (
 let m:=(0+c.1.toNat)
.guard [(0:Int)<=c.1,c.1.toNat<a.length,m<a.length]<|
 let g:=(a.set m o)
.reg 14 [] [(4,{ obs:=[(3,(eS 3 TLi.e g))] })] [.e a.length,.ev 0,.ev 1,.e a.length,.ev 2,.pf (zcr (sz:=3) (e:=TLi.e) (l:=a) (i:=m) (x:=o) (fun _=>rfl))]<|
 let s:=[(Ob.box (AV.agg [(AV.d (eL TLi.e a0_0)),(AV.fn 157 [])])),(TLi.b o),(eS 2 TPl.e f),(eS 3 TLi.e g)]
.cst (A:=True) (.pf trivial) [(12,(AV.ref 3 a.length 0 a.length))] [(12,(AV.ref 3 g.length 0 g.length))] s s (fun _=>⟨Zb,by rfl⟩)<|
.guard [g.length<2 ^ 63]<|
.reg 15 [] [] []<|
.frz 3 (.ev 0) none [6] []<|
.r g) (
 let n:=([o]:List TLi)
.call (@F_q3r_ok c.1 a n) fun t u=>
.reg 16 [] [(3,{ h:=.obj,obs:=[(4,(eS 3 TLi.e n))] }),(4,hc u [3,4] false)] [.pf (z9f (sz:=3) (e:=TLi.e) (l:=n)),.cl 0 u [3,4] 5 false]<|
.guard [t.length<2 ^ 63]<|
.frz 3 (.ev 0) none [6] []<|
.r t)))) id
def F_q1f (a0_0:(List TLi)) (a:TLi) (b:Bool):=(S_q1f a0_0 a b).den
theorem F_q1f_ok {a0_0:(List TLi)} {a:TLi} {b:Bool}:FO (F_q1f a0_0 a b) 158 [(AV.agg [(AV.d (eL TLi.e a0_0)),(AV.fn 157 [])]),(TLi.d a),(vb b)] [] (fun x=>(AV.d (eL TLi.e x))) NL:=fO (s:=S_q1f a0_0 a b) Tryz.func158
def S_q1z (a:TBo):SC TPl TPl :=
.r (⟨a.B,a.D⟩:TPl)
def F_q1z (a:TBo):=(S_q1z a).den
theorem F_q1z_ok {a:TBo}:FO (F_q1z a) 159 [(TBo.d a)] [] (fun x=>(TPl.d x)) NL:=fO (s:=S_q1z a) Tryz.func159
def S_q32 (a:(List TBo)):SC (List TBo) (List TBo) :=
.reg 0 [] [] []<|
.nils 0 (
.guard [a.length * (2 * 32)<=2 ^ 48]<|
.reg 1 [] [] []<|
.lev 0 (AV.d (eL TBo.e a)) (.pf (lvQ true a.length fun j=>(TBo.e (a.getD j dF))))<|
.br true (.pf (p:=true=true) rfl)<|
.reg 2 [] [] []<|
.bor 3 (fun j=>AV.d (TBo.e (a.getD j dF))) [2]<|
.cst (A:=a.length=0) (.ev 1) [(2,AV.ref 0 0 0 0)] [(2,(AV.ref 0 a.length 0 a.length))] [(Ob.seq 3 0 fun j=>AV.d (TBo.e (a.getD j dF)))] [(eS 3 TBo.e a)] (fun h=>⟨by rw[h],by unfold eS; rw[h]⟩)<|
.r a) (
.reg 1 [] [] []<|
.lev 0 (AV.d (eL TBo.e a)) (.pf (lvQ false a.length fun j=>(TBo.e (a.getD j dF))))<|
.br false (.pf (p:=false=false) rfl)<|
.guard [a.length * (2 * 32)<=2 ^ 48]<|
.reg 3 [] [(2,{ h:=.obj })] [.pf (p:=∀ k,k<a.length->(TBo.d (a.getD k dF)).wd=3) (fun _ _=>rfl),.ev 0]<|
.r a)
def F_q32 (a:(List TBo)):=(S_q32 a).den
theorem F_q32_ok {a:(List TBo)}:FO (F_q32 a) 152 [(AV.d (eL TBo.e a))] [] (fun x=>(AV.ref 0 x.length 0 x.length)) (fun x=>[(eS 3 TBo.e x)]):=fO (s:=S_q32 a) Tryz.func152
def S_q33 (q:Int) (o:Int) (a:(List TBo)):SC (List TBo) (List TBo) :=
.guard [(0:Int)<=q,(0:Int)<=o,q.toNat<=o.toNat,o.toNat<=a.length]<|
.reg 1 [] [] [.ev 0,.ev 1,.ev 2,.ev 3,.e a.length,.pf (nn a.length),.ev 3,.pf (p:=a.length<=a.length) (y7 _)]<|
.ite (q==o) (
.guard [a.length<2 ^ 63]<|
.reg 3 [] [] []<|
.frz 0 (.ev 0) none [6] []<|
.r a) (
 let c:=(a.length-o.toNat)
 let f:=(q.toNat-0)
.guard [q.toNat<=a.length,f+c<=a.length]<|
 let g:=(0+o.toNat)
.reg 5 [6] [(6,{ h:=.imm,obs:=[(0,(eS 3 TBo.e (copyL a f c (fun i=>(a.getD (g+i) dF)))))] })] [.ev 3,.ev 0,.e a.length,.ev 4,.ev 6,.e a.length,.e a.length,.e a.length,.ev 1,.pf (p:=∀ k,k<c->(TBo.d (a.getD (g+k) dF)).wd=3) (fun _ _=>rfl),.pf (zbp (sz:=3) (e:=TBo.e) (l:=a) (off:=f) (k:=c) (s:=(fun i=>(a.getD (g+i) dF))))]<|
 let b:=(f+c)
 let t:=(7,(vi (a.length:Int)))
.cst (A:=True) (.pf trivial) [(0,(AV.ref 0 a.length 0 b)),t] [(0,(AV.ref 0 ((copyL a f c (fun i=>(a.getD (g+i) dF))).length) 0 b)),t] [(eS 3 TBo.e (copyL a f c (fun i=>(a.getD (g+i) dF))))] [(eS 3 TBo.e (copyL a f c (fun i=>(a.getD (g+i) dF))))] (fun _=>⟨by simp +zetaDelta only[zt],by rfl⟩)<|
.guard [b<=a.length,a.length<=(copyL a f c (fun i=>(a.getD (g+i) dF))).length]<|
 let j:=(⟨[],0,0⟩:TBo)
 let m:=(a.length-b)
.reg 6 [] [(5,{ obs:=[(0,(eS 3 TBo.e (clearL (copyL a f c (fun i=>(a.getD (g+i) dF))) (0+b) m j)))] })] [.w b,.pf (nn a.length),.ev 0,.ev 1,.pf (y25 ((copyL a f c (fun i=>(a.getD (g+i) dF))).length)),.pf (y25 ((copyL a f c (fun i=>(a.getD (g+i) dF))).length)),.pf (za6 (sz:=3) (e:=TBo.e) (l:=(copyL a f c (fun i=>(a.getD (g+i) dF)))) (off:=(0+b)) (n:=m) (z:=j))]<|
.cst (A:=True) (.pf trivial) [(0,(AV.ref 0 ((copyL a f c (fun i=>(a.getD (g+i) dF))).length) 0 b))] [(0,(AV.ref 0 ((clearL (copyL a f c (fun i=>(a.getD (g+i) dF))) (0+b) m j).length) 0 b))] [(eS 3 TBo.e (clearL (copyL a f c (fun i=>(a.getD (g+i) dF))) (0+b) m j))] [(eS 3 TBo.e (clearL (copyL a f c (fun i=>(a.getD (g+i) dF))) (0+b) m j))] (fun _=>⟨by simp +zetaDelta only[z1b,zt],by rfl⟩)<|
.guard [(clearL (copyL a f c (fun i=>(a.getD (g+i) dF))) (0+b) m j).length<2 ^ 63]<|
.reg 7 [] [] []<|
.guard [b<=(clearL (copyL a f c (fun i=>(a.getD (g+i) dF))) (0+b) m j).length]<|
.frz 0 (.ev 1) (some (.der (fun (h:b<=(clearL (copyL a f c (fun i=>(a.getD (g+i) dF))) (0+b) m j).length)=>(h:b<=(clearL (copyL a f c (fun i=>(a.getD (g+i) dF))) (0+b) m j).length)) 0)) [6] []<|
.lev 6 (AV.d (eL TBo.e ((clearL (copyL a f c (fun i=>(a.getD (g+i) dF))) (0+b) m j).take b))) (.der (fun (h:b<=(clearL (copyL a f c (fun i=>(a.getD (g+i) dF))) (0+b) m j).length)=>lvT TBo.e (clearL (copyL a f c (fun i=>(a.getD (g+i) dF))) (0+b) m j) h) 0)<|
.r ((clearL (copyL a f c (fun i=>(a.getD (g+i) dF))) (0+b) m j).take b))
def F_q33 (a:Int) (b:Int) (c:(List TBo)):=(S_q33 a b c).den
theorem F_q33_ok {b:Int} {c:Int} {a:(List TBo)}:FO (F_q33 b c a) 182 [(AV.ref 0 a.length 0 a.length),(vi b),(vi c)] [(eS 3 TBo.e a)] (fun x=>(AV.d (eL TBo.e x))) (fun _=>[Ob.dead]):=fO (s:=S_q33 b c a) Tryz.func182
def V_q3s (x:(List TBo)):AV:=.ref 0 x.length 0 x.length
def L_q3s (a:List TBo) (x:(List TBo)):List Ob:=[eS 3 TBo.e x,eS 3 TBo.e a]
def F_q3s (a:Int) (b c:List TBo):Option (List TBo):=match c with
 | [y]=>guardP (0<=a/\a.toNat<=b.length/\(b.length+1) * (4 * 32)<=2 ^ 48) (some (insL b a.toNat y))
 | _=>none
theorem F_q3s_ok {c:Int} {f a:List TBo} (r:(List TBo)) (h:F_q3s c f a=some r):CallOk Tryz.prog 183 [(AV.ref 0 f.length 0 f.length),(AV.d (.i .i64 c)),(AV.ref 1 a.length 0 a.length)] [(eS 3 TBo.e f),(eS 3 TBo.e a)] (V_q3s r) (L_q3s a r):=by
 unfold F_q3s at h
 split at h
 ·rename_i y
  obtain⟨⟨h1,h2,h3⟩,h⟩:=z24 h
  obtain rfl:=yo h
  obtain⟨i,rfl⟩:∃ i:Nat,c=(i:Int):=⟨c.toNat,(y4v h1).symm⟩
  exact InsG.ins_ok .b (fun _=>rfl) h2 h3
 ·cases h
abbrev R_q16:=(List TBo)
def S_q16_b1 (a0_0:(List TBo)) (f:Nat) (a:(List TPl)):SC R_q16 (Step ((List TPl)) R_q16) :=
.reg 4 [] [] [.w f,.ev 0]<|
.call (@F_q1z_ok (a0_0.getD f dF)) fun i g=>
.guard [(a.length+1) * (2 * 24)<=2 ^ 48]<|
 let b:=([i]:List TPl)
.reg 5 [] [(4,hc g [] true),(5,hv (AV.d (eL TPl.e b))),(6,{ h:=.obj,cast:=some (AV.ref 2 ((a++b).length) 0 ((a++b).length)),obs:=[(2,(eS 2 TPl.e (a++b)))] })] [.cl 1 g [] 4 true,.pf (z5 TPl.e b),.e a.length,.e a.length,.pf (p:=∀ k,k<1->(TPl.d (b.getD k dF)).wd=2) (fun _ _=>rfl),.ev 0,.pf (zg (o:=2) (l:=a) (x:=b)),.pf (zf (sz:=2) (e:=TPl.e) (l:=a) (x:=b))]<|
.c (a++b)
def S_q16 (a0_0:(List TBo)) (o:TBo) (B:Bool):SC R_q16 R_q16 :=
.reg 2 [] [] []<|
.bor 2 (fun j=>AV.d (TPl.e (([]:List TPl).getD j dF))) [7]<|
.range (a0_0.length:Int) a0_0.length rfl (.slot 14) 16 [2,3,4,14,15] (fun (f:(List TPl))=>[(7,(AV.ref 2 f.length 0 f.length))]) (fun f=>[(2,(eS 2 TPl.e f))]) ([]:List TPl) (S_q16_b1 a0_0) (fun f => 
.call (@F_q1z_ok o) fun v p=>
.call (@F_qp_ok v f) fun c q=>
.reg 7 [] [(4,hc p [] true),(5,hc q [2] true)] [.cl 1 p [] 3 true,.cl 0 q [2] 3 true]<|
.call (@F_q32_ok a0_0) fun a w=>
.k 8 2 w [] 3 false<|
.ite (bif B then c.2 else false) (
.call (@F_q33_ok c.1 (i64.wrap (c.1+1)) a) fun y z=>
.k 10 4 z [3] 4 false<|
.r y) (
.ite B (
.guard [a.length<2 ^ 63]<|
.reg 12 [] [] []<|
.frz 3 (.ev 0) none [6] []<|
.r a) (
.ite c.2 (
 let m:=(0+c.1.toNat)
.guard [(0:Int)<=c.1,c.1.toNat<a.length,m<a.length]<|
 let g:=(a.set m o)
.reg 14 [] [(4,{ obs:=[(3,(eS 3 TBo.e g))] })] [.e a.length,.ev 0,.ev 1,.e a.length,.ev 2,.pf (zcr (sz:=3) (e:=TBo.e) (l:=a) (i:=m) (x:=o) (fun _=>rfl))]<|
 let s:=[(Ob.box (AV.agg [(AV.d (eL TBo.e a0_0)),(AV.fn 159 [])])),(TBo.b o),(eS 2 TPl.e f),(eS 3 TBo.e g)]
.cst (A:=True) (.pf trivial) [(12,(AV.ref 3 a.length 0 a.length))] [(12,(AV.ref 3 g.length 0 g.length))] s s (fun _=>⟨Zb,by rfl⟩)<|
.guard [g.length<2 ^ 63]<|
.reg 15 [] [] []<|
.frz 3 (.ev 0) none [6] []<|
.r g) (
 let n:=([o]:List TBo)
.call (@F_q3s_ok c.1 a n) fun t u=>
.reg 16 [] [(3,{ h:=.obj,obs:=[(4,(eS 3 TBo.e n))] }),(4,hc u [3,4] false)] [.pf (z9f (sz:=3) (e:=TBo.e) (l:=n)),.cl 0 u [3,4] 5 false]<|
.guard [t.length<2 ^ 63]<|
.frz 3 (.ev 0) none [6] []<|
.r t)))) id
def F_q16 (a0_0:(List TBo)) (a:TBo) (b:Bool):=(S_q16 a0_0 a b).den
theorem F_q16_ok {a0_0:(List TBo)} {a:TBo} {b:Bool}:FO (F_q16 a0_0 a b) 160 [(AV.agg [(AV.d (eL TBo.e a0_0)),(AV.fn 159 [])]),(TBo.d a),(vb b)] [] (fun x=>(AV.d (eL TBo.e x))) NL:=fO (s:=S_q16 a0_0 a b) Tryz.func160
def S_q34 (b:TCh) (a:TLa):SC TLa TLa :=
.ite (b.P==1) (
.call (@F_q1f_ok a.T (⟨b.B,b.D,b.C⟩:TLi) (b.C==0)) fun g c=>
.reg 4 [19] [(16,hc c [] true)] [.cl 0 c [] 3 true]<|
.r (⟨a.G,a.H,a.E,g,a.M,a.S,a.N,a.O,a.J,a.A⟩:TLa)) (
 let d:=(⟨b.B,b.D,b.C⟩:TBo)
.ite (b.P==2) (
.call (@F_q16_ok a.M d (b.C==(-1))) fun h e=>
.reg 6 [13] [(10,hc e [] true)] [.cl 0 e [] 3 true]<|
.r (⟨a.G,a.H,a.E,a.T,h,a.S,a.N,a.O,a.J,a.A⟩:TLa)) (
.ite (b.P==3) (
.call (@F_q16_ok a.S d (b.C==0)) fun i f=>
.reg 8 [13] [(10,hc f [] true)] [.cl 0 f [] 3 true]<|
.r (⟨a.G,a.H,a.E,a.T,a.M,i,a.N,a.O,a.J,a.A⟩:TLa)) (
.r a)))
def F_q34 (a:TCh) (b:TLa):=(S_q34 a b).den
theorem F_q34_ok {a:TCh} {c:TLa}:FO (F_q34 a c) 138 [(vp 0),(TCh.d a)] [(TLa.b c)] (fun _=>(AV.tup [])) (fun x=>[(TLa.b x)]):=fO (s:=S_q34 a c) Tryz.func138
theorem cz9:LeV (AV.d (DV.agg [(DV.i .i64 0),(DV.i .i64 0),Z0,Z0,Z0,Z0,Z0,Z0,Z0,Z0])) (TLa.d (⟨0,0,[],[],[],[],[],[],[],[]⟩:TLa)):=z99 rfl (DLe.agg (DLeL.cons (DLe.refl _) (DLeL.cons (DLe.refl _) (DLeL.cons DLe.sl0 (DLeL.cons DLe.sl0 (DLeL.cons DLe.sl0 (DLeL.cons DLe.sl0 (DLeL.cons DLe.sl0 (DLeL.cons DLe.sl0 (DLeL.cons DLe.sl0 (DLeL.cons DLe.sl0 DLeL.nil)))))))))))
abbrev R_qq:=TLa×Int
def S_qq_b1 (b:(List TCh)) (a:Nat) (d:TLa):SC R_qq (Step TLa R_qq) :=
.guard [(0+a)<b.length]<|
.reg 4 [] [] [.e b.length,.w a,.ev 1,.e b.length,.ev 0]<|
.call (@F_q34_ok (b.getD (0+a) dF) d) fun f g=>
.k 5 1 g [1] 4 false<|
.c f
def S_qq (h:TLa) (f:(List TCh)):SC R_qq R_qq :=
 let e:=(⟨0,0,[],[],[],[],[],[],[],[]⟩:TLa)
.reg 0 [] [(1,{ obs:=[(2,(TLa.b e))] })] [.pf cz2]<|
.a 1 1 3 (@F_q15_ok h) fun g=>
.guard [f.length<2 ^ 63]<|
.range (f.length:Int) f.length rfl (.why (.ev 0)) 12 [2,4,10,11] (fun (_:TLa)=>[]) (fun c=>[(1,(TLa.b c))]) g (S_qq_b1 f) (fun c => 
.ite (cO (cO (decide ((c.T.length:Int)>120)) (decide ((c.M.length:Int)>60))) (decide ((c.S.length:Int)>60))) (
.reg 8 [] [(0,hv (TLa.d e))] [.pf cz9]<|
.r (e,3)) (
.r (c,0))) id
def F_qq (a:TLa) (b:(List TCh)):=(S_qq a b).den
theorem F_qq_ok {b:TLa} {a:(List TCh)}:FO (F_qq b a) 114 [(TLa.d b),(AV.ref 0 a.length 0 a.length)] [(eS 4 TCh.e a)] (fun x=>(AV.tup [(TLa.d x.1),(vi x.2)])) (fun _=>[(eS 4 TCh.e a)]):=fO (s:=S_qq b a) Tryz.func114
end
end Go.Proofs.YtljnmhapbonmfaaGreatDoor
/- What the functions compute,and that their calls return it. No condition. -/
namespace Go.Proofs.YtljnmhapbonmfaaGreatDoor
open Go Go.TA
open Go.IntKind (i64)
noncomputable section
set_option maxRecDepth 100000
abbrev R_qr:=TLa×Int
def S_qr_b1 (j:TLa) (i:Int) (g:Nat) (a:(List TCh)):SC R_qr (Step ((List TCh)) R_qr) :=
.reg 12 [] [(2,{ obs:=[(4,(TAm.b (⟨0,0,[]⟩:TAm)))] })] [.w g,.ev 0,.pf cz3]<|
 let f:=(((j.A.take i.toNat).getD g dF).K)
.guard [(a.length+f.length) * (2 * 40)<=2 ^ 48]<|
.reg 13 [] [(3,{ h:=.obj,cast:=some (AV.ref 3 ((a++f).length) 0 ((a++f).length)),obs:=[(3,(eS 4 TCh.e (a++f)))] })] [.e a.length,.e a.length,.pf (p:=∀ k,k<f.length->(TCh.d (f.getD k dF)).wd=4) (fun _ _=>rfl),.ev 0,.pf (zg (o:=3) (l:=a) (x:=f)),.pf (zf (sz:=4) (e:=TCh.e) (l:=a) (x:=f))]<|
.c (a++f)
def S_qr (f:TLa) (q:Int):SC R_qr R_qr :=
 let h:=(⟨0,0,[],[],[],[],[],[],[],[]⟩:TLa)
.reg 0 [] [(2,{ obs:=[(2,(TLa.b h))] })] [.pf cz2]<|
.a 1 1 3 (@F_q1r_ok f) fun l=>
 let m:=(0,hv (TLa.d h))
.ite (l != 0) (
.reg 3 [] [m] [.pf cz9]<|
.r (h,l)) (
.ite (cO (decide (q<0)) (decide (q>36000))) (
.reg 5 [] [m] [.pf cz9]<|
.r (h,2)) (
.call (@F_q1e_ok f.A q) fun n s=>
.k 6 3 s [1] 3 true<|
.cut none [2,4] (fun (c:Int)=>[(7,(vi c))]) (fun _=>[]) (
.ite (decide (n<0)) (
.r (.next (f.A.length:Int))) (
.r (.next n))) fun c=>
.guard [(0:Int)<=c,c.toNat<=f.A.length]<|
 let i:=c.toNat
.reg 10 [] [(4,hv (AV.d (eL TAm.e (f.A.take i))))] [.ev 0,.ev 1,.pf (p:=c=c) rfl,.der (fun (h0:c.toNat<=f.A.length)=>lvTF TAm.e f.A h0) 1]<|
.bor 4 (fun j=>AV.d (TCh.e (([]:List TCh).getD j dF))) [8]<|
.range ((f.A.take c.toNat).length:Int) ((f.A.take c.toNat).length) rfl (.slot 37) 39 [2,4,7,37,38] (fun (g:(List TCh))=>[(8,(AV.ref 3 g.length 0 g.length))]) (fun g=>[(3,(eS 4 TCh.e g))]) ([]:List TCh) (S_qr_b1 f c) (fun g => 
.reg 15 [] [(3,hv (AV.d (eL TAm.e (f.A.drop i))))] [.ev 0,.ev 1,.pf (lvD TAm.e f.A i)]<|
.call (@F_qq_ok (⟨f.G,f.H,f.E,f.T,f.M,f.S,f.N,f.O,f.J,(f.A.drop i)⟩:TLa) g) fun o t=>
.k 16 2 t [3] 4 true<|
.r (o.1,o.2)) id))
def F_qr (a:TLa) (b:Int):=(S_qr a b).den
theorem F_qr_ok {a:TLa} {b:Int}:FO (F_qr a b) 67 [(TLa.d a),(vi b)] [] (fun x=>(AV.tup [(TLa.d x.1),(vi x.2)])) NL:=fO (s:=S_qr a b) Tryz.func67
abbrev R_q35:=Int×TLa×Bool×Int×TLa×Int
def S_q35 (e:Int) (p0_0:TLa) (p0_1:Bool) (p0_2:Int) (p0_3:TLa) (p0_4:Int) (f:(List TTr)):SC R_q35 R_q35 :=
.cut none [0] (fun (_:TLa×Bool×Int×TLa×Int)=>[]) (fun b=>[(0,(Ob.box (AV.agg [(TLa.d b.1),(AV.ref 1 f.length 0 f.length),(vb b.2.1),(vi b.2.2.1),(TLa.d b.2.2.2.1),(vi b.2.2.2.2)])))]) (
.ite (cO (!p0_1) (e != p0_2)) (
.a 2 7 2 (@F_qr_ok p0_0 e) fun c=>
.r (.next (p0_0,true,e,c.1,c.2))) (
.r (.next (p0_0,p0_1,p0_2,p0_3,p0_4)))) fun b=>
.r (b.2.2.2.2,b.1,b.2.1,b.2.2.1,b.2.2.2.1,b.2.2.2.2)
def F_q35 (a:Int) (p0_0:TLa) (p0_1:Bool) (p0_2:Int) (p0_3:TLa) (p0_4:Int) (b:(List TTr)):=(S_q35 a p0_0 p0_1 p0_2 p0_3 p0_4 b).den
theorem F_q35_ok {b:Int} {p0_0:TLa} {p0_1:Bool} {p0_2:Int} {p0_3:TLa} {p0_4:Int} {a:(List TTr)}:FO (F_q35 b p0_0 p0_1 p0_2 p0_3 p0_4 a) 37 [(vp 0),(vi b)] [(Ob.box (AV.agg [(TLa.d p0_0),(AV.ref 1 a.length 0 a.length),(vb p0_1),(vi p0_2),(TLa.d p0_3),(vi p0_4)])),(eS 7 TTr.e a)] (fun x=>(vi x.1)) (fun x=>[(Ob.box (AV.agg [(TLa.d x.2.1),(AV.ref 1 a.length 0 a.length),(vb x.2.2.1),(vi x.2.2.2.1),(TLa.d x.2.2.2.2.1),(vi x.2.2.2.2.2)])),(eS 7 TTr.e a)]):=fO (s:=S_q35 b p0_0 p0_1 p0_2 p0_3 p0_4 a) Tryz.func37
def S_q36 (b:TRu) (c:TTr):SC Bool Bool :=
.calld [(b.F==c.U)=true] dF (@F_qi_ok c.L b.L) fun f d =>
 let a:=(bif (b.F==c.U) then f else false)
.calld [a=true] dF (@F_qi_ok c.V b.V) fun g e =>
.reg 1 [] [(10,hc d [] true),(17,hc e [] true)] [.clg 2 [(b.F==c.U)=true] d [] 2 true,.clg 0 [a=true] e [] 2 true]<|
.r (bif a then g else false)
def F_q36 (a:TRu) (b:TTr):=(S_q36 a b).den
theorem F_q36_ok {c:TRu} {a:TTr}:FO (F_q36 c a) 52 [(TRu.d c),(vp 0)] [(TTr.b a)] vb (fun _=>[(TTr.b a)]):=fO (s:=S_q36 c a) Tryz.func52
def S_q1g_b1 (d:(List TRu)) (e:TTr) (a:Nat) (_:Unit):SC Int (Step Unit Int) :=
.call (@F_q36_ok (d.getD a dF) e) fun c b=>
.reg 4 [] [(5,hc b [0] true)] [.w a,.ev 1,.cl 0 b [0] 1 true]<|
.ite c (
.r (.ret (a:Int))) (
.r (.cont ()))
def S_q1g (a:(List TRu)) (b:TTr):SC Int Int :=
.range (a.length:Int) a.length rfl (.slot 0) 8 [0,1,7] (fun (_:Unit)=>[]) (fun _=>[]) () (S_q1g_b1 a b) (fun _ => 
.r (-1)) id
def F_q1g (a:(List TRu)) (b:TTr):=(S_q1g a b).den
theorem F_q1g_ok {c:(List TRu)} {a:TTr}:FO (F_q1g c a) 51 [(AV.d (eL TRu.e c)),(AV.fn 52 [(vp 0)])] [(TTr.b a)] vi (fun _=>[(TTr.b a)]):=fO (s:=S_q1g c a) Tryz.func51
def S_q1h_b1 (c:TLa) (d:Y8) (e:Int) (b:Nat) (_:Unit):SC Int (Step Unit Int) :=
.reg 3 [] [] [.w b,.ev 0]<|
 let a:=(c.T.getD b dF)
.ite (bif (a.B==d) then (a.D==e) else false) (
.r (.ret a.C)) (
.r (.cont ()))
def S_q1h (a:TLa) (b:Y8) (c:Int):SC Int Int :=
.range (a.T.length:Int) a.T.length rfl (.slot 10) 12 [1,2,10,11] (fun (_:Unit)=>[]) (fun _=>[]) () (S_q1h_b1 a b c) (fun _ => 
.r 0) id
def F_q1h (a:TLa) (b:Y8) (c:Int):=(S_q1h a b c).den
theorem F_q1h_ok {a:TLa} {b:Y8} {c:Int}:FO (F_q1h a b c) 102 [(TLa.d a),(AV.d (DV.str b)),(vi c)] [] vi NL:=fO (s:=S_q1h a b c) Tryz.func102
def S_q37 (d:Int) (b:Int):SC (Int×Int) (Int×Int) :=
.a 1 1 0 (@F_qz_ok d) fun c=>
.ite (cO (cO (!c) (decide (b<0))) (decide (b>100))) (
.r (0,2)) (
.reg 3 [] [] [.pf (p:=(100:Int)≠0) dk]<|
.r ((i64.wrap ((i64.wrap (d * b)).tdiv 100)),0))
def F_q37 (a:Int) (b:Int):=(S_q37 a b).den
theorem F_q37_ok {a:Int} {b:Int}:FO (F_q37 a b) 101 [(vi a),(vi b)] [] (fun x=>(AV.tup [(vi x.1),(vi x.2)])) NL:=fO (s:=S_q37 a b) Tryz.func101
def S_q1i_b1 (g:TTr) (f:(List TTr)) (b:Nat) (d:Int):SC Int (Step Int Int) :=
.guard [(0+b)<f.length]<|
.reg 4 [] [] [.e f.length,.w b,.ev 1,.e f.length,.ev 0]<|
 let a:=(f.getD (0+b) dF)
.ite (bif (bif (a.U==g.U) then (a.D==g.D) else false) then (a.L==g.L) else false) (
.r (.cont (i64.wrap (d-a.C)))) (
.c d)
def S_q1i (h:TRu) (e:TTr) (_:TLa) (_:Bool) (_:Int) (p0_3:TLa) (_:Int) (d:(List TTr)):SC Int Int :=
.call (@F_q1h_ok p0_3 e.L e.D) fun f b=>
.call (@F_q37_ok f h.R) fun g c=>
.reg 1 [] [(8,hc b [] true),(11,hc c [] true)] [.cl 1 b [] 4 true,.cl 0 c [] 4 true]<|
.guard [d.length<2 ^ 63]<|
.range (d.length:Int) d.length rfl (.why (.ev 0)) 31 [5,29,30] (fun (a:Int)=>[(7,(vi a))]) (fun _=>[]) g.1 (S_q1i_b1 e d) (fun a => 
.r a) id
def F_q1i (a:TRu) (b:TTr) (p0_0:TLa) (p0_1:Bool) (p0_2:Int) (p0_3:TLa) (p0_4:Int) (c:(List TTr)):=(S_q1i a b p0_0 p0_1 p0_2 p0_3 p0_4 c).den
theorem F_q1i_ok {b:TRu} {c:TTr} {p0_0:TLa} {p0_1:Bool} {p0_2:Int} {p0_3:TLa} {p0_4:Int} {a:(List TTr)}:FO (F_q1i b c p0_0 p0_1 p0_2 p0_3 p0_4 a) 54 [(vp 0),(TRu.d b),(TTr.d c)] [(Ob.box (AV.agg [(TLa.d p0_0),(AV.ref 1 a.length 0 a.length),(vb p0_1),(vi p0_2),(TLa.d p0_3),(vi p0_4)])),(eS 7 TTr.e a)] vi (fun _=>[(Ob.box (AV.agg [(TLa.d p0_0),(AV.ref 1 a.length 0 a.length),(vb p0_1),(vi p0_2),(TLa.d p0_3),(vi p0_4)])),(eS 7 TTr.e a)]):=fO (s:=S_q1i b c p0_0 p0_1 p0_2 p0_3 p0_4 a) Tryz.func54
def S_q38 (a:Int):SC Bool Bool :=
.r (bif (decide (a>=(-1000000000000000))) then (decide (a<=1000000000000000)) else false)
def F_q38 (a:Int):=(S_q38 a).den
theorem F_q38_ok {a:Int}:FO (F_q38 a) 161 [(vi a)] [] vb NL:=fO (s:=S_q38 a) Tryz.func161
def S_q1j_b1 (i:(List Int)) (a:Nat) (j:Int):SC (Int×Int) (Step Int (Int×Int)) :=
.guard [(0+a)<i.length]<|
.reg 4 [] [] [.e i.length,.w a,.ev 1,.e i.length,.ev 0]<|
 let d:=(i.getD (0+a) dF)
.call (@F_q38_ok d) fun b f=>
 let g:=(i64.wrap (j+d))
.calld [(!b)=false] dF (@F_q38_ok g) fun k h =>
.reg 5 [] [(1,hc f [] true),(7,hc h [] true)] [.cl 2 f [] 1 true,.clg 0 [(!b)=false] h [] 1 true]<|
.ite (cO (!b) (!k)) (
.r (.ret (0,2))) (
.c g)
def S_q1j (b:(List Int)):SC (Int×Int) (Int×Int) :=
.guard [b.length<2 ^ 63]<|
.range (b.length:Int) b.length rfl (.why (.ev 0)) 9 [7,8] (fun (a:Int)=>[(4,(vi a))]) (fun _=>[]) 0 (S_q1j_b1 b) (fun a => 
.r (a,0)) id
def F_q1j (a:(List Int)):=(S_q1j a).den
theorem F_q1j_ok {a:(List Int)}:FO (F_q1j a) 140 [(AV.ref 0 a.length 0 a.length)] [(eS 1 (DV.i .i64) a)] (fun x=>(AV.tup [(vi x.1),(vi x.2)])) (fun _=>[(eS 1 (DV.i .i64) a)]):=fO (s:=S_q1j a) Tryz.func140
def S_q1k_b1 (t:(List TLi)) (n:Y8) (s:Int) (j:Nat) (a:(List Int)):SC (Int×Int) (Step ((List Int)) (Int×Int)) :=
.reg 4 [] [] [.w j,.ev 0]<|
 let f:=(t.getD j dF)
 let g:=(cO (s==(-1)) (f.D==s))
.calld [(n==([]))=false,g=true] dF (@F_qi_ok f.B n) fun q m =>
.reg 5 [] [(15,hc m [] true)] [.clg 0 [(n==([]))=false,g=true] m [] 2 true]<|
.ite (bif g then (cO (n==([])) q) else false) (
.guard [(a.length+1) * (2 * 8)<=2 ^ 48]<|
 let b:=([f.C]:List Int)
.reg 6 [] [(3,hv (vl b)),(4,{ h:=.obj,cast:=some (AV.ref 0 ((a++b).length) 0 ((a++b).length)),obs:=[(0,(eS 1 (DV.i .i64) (a++b)))] })] [.pf (z5 (DV.i .i64) b),.e a.length,.e a.length,.pf (p:=∀ k,k<1->(AV.d ((DV.i .i64) (b.getD k dF))).wd=1) (fun _ _=>rfl),.ev 0,.pf (zg (o:=0) (l:=a) (x:=b)),.pf (zf (sz:=1) (e:=(DV.i .i64)) (l:=a) (x:=b))]<|
.r (.cont (a++b))) (
.c a)
def S_q1k (c:(List TLi)) (f:Y8) (g:Int):SC (Int×Int) (Int×Int) :=
.reg 2 [] [] []<|
.bor 1 (fun j=>AV.d ((DV.i .i64) (([]:List Int).getD j dF))) [8]<|
.range (c.length:Int) c.length rfl (.slot 11) 13 [1,2,11,12] (fun (a:(List Int))=>[(8,(AV.ref 0 a.length 0 a.length))]) (fun a=>[(0,(eS 1 (DV.i .i64) a))]) ([]:List Int) (S_q1k_b1 c f g) (fun a => 
.call (@F_q1j_ok a) fun b e=>
.k 8 1 e [0] 1 true<|
.r (b.1,b.2)) id
def F_q1k (a:(List TLi)) (b:Y8) (c:Int):=(S_q1k a b c).den
theorem F_q1k_ok {a:(List TLi)} {b:Y8} {c:Int}:FO (F_q1k a b c) 116 [(AV.d (eL TLi.e a)),(AV.d (DV.str b)),(vi c)] [] (fun x=>(AV.tup [(vi x.1),(vi x.2)])) NL:=fO (s:=S_q1k a b c) Tryz.func116
def S_q39 (c:TLa) (d:Y8) (e:Int):SC (Int×Int) (Int×Int) :=
.a 1 4 1 (@F_q1k_ok c.T d e) fun b=>
.r (b.1,b.2)
def F_q39 (a:TLa) (b:Y8) (c:Int):=(S_q39 a b c).den
theorem F_q39_ok {a:TLa} {b:Y8} {c:Int}:FO (F_q39 a b c) 70 [(TLa.d a),(AV.d (DV.str b)),(vi c)] [] (fun x=>(AV.tup [(vi x.1),(vi x.2)])) NL:=fO (s:=S_q39 a b c) Tryz.func70
def S_qs_b1 (k:Y8) (l:Int) (m:Int) (h:(List TTr)) (f:Nat) (g:Int):SC Int (Step Int Int) :=
.guard [(0+f)<h.length]<|
.reg 4 [] [] [.e h.length,.w f,.ev 1,.e h.length,.ev 0]<|
 let b:=(h.getD (0+f) dF)
.ite (cO (decide (b.I>m)) (bif (l != (-1)) then (b.D != l) else false)) (
.c g) (
.a 6 3 3 (@F_qi_ok b.V k) fun i=>
.cut none [1,2,3,12,26,27,28] (fun (d:Int)=>[(9,(vi d))]) (fun _=>[]) (
.ite i (
.r (.next (i64.wrap (g+b.C)))) (
.r (.next g))) fun d=>
.a 8 3 3 (@F_qi_ok b.L k) fun j=>
.ite j (
.r (.cont (i64.wrap (d-b.C)))) (
.c d))
def S_qs (e:Y8) (f:Int) (g:Int) (_:TLa) (_:Bool) (_:Int) (p0_3:TLa) (_:Int) (c:(List TTr)):SC Int Int :=
.a 1 6 2 (@F_q39_ok p0_3 e f) fun d=>
.guard [c.length<2 ^ 63]<|
.range (c.length:Int) c.length rfl (.why (.ev 0)) 28 [1,2,3,26,27] (fun (b:Int)=>[(9,(vi b))]) (fun _=>[]) d.1 (S_qs_b1 e f g c) (fun b => 
.r b) id
def F_qs (a:Y8) (b:Int) (c:Int) (p0_0:TLa) (p0_1:Bool) (p0_2:Int) (p0_3:TLa) (p0_4:Int) (d:(List TTr)):=(S_qs a b c p0_0 p0_1 p0_2 p0_3 p0_4 d).den
theorem F_qs_ok {b:Y8} {c:Int} {f:Int} {p0_0:TLa} {p0_1:Bool} {p0_2:Int} {p0_3:TLa} {p0_4:Int} {a:(List TTr)}:FO (F_qs b c f p0_0 p0_1 p0_2 p0_3 p0_4 a) 39 [(vp 0),(AV.d (DV.str b)),(vi c),(vi f)] [(Ob.box (AV.agg [(TLa.d p0_0),(AV.ref 1 a.length 0 a.length),(vb p0_1),(vi p0_2),(TLa.d p0_3),(vi p0_4)])),(eS 7 TTr.e a)] vi (fun _=>[(Ob.box (AV.agg [(TLa.d p0_0),(AV.ref 1 a.length 0 a.length),(vb p0_1),(vi p0_2),(TLa.d p0_3),(vi p0_4)])),(eS 7 TTr.e a)]):=fO (s:=S_qs b c f p0_0 p0_1 p0_2 p0_3 p0_4 a) Tryz.func39
def S_q28 (e:TBo) (h:Y8) (i:Y8) (j:TTr):SC Bool Bool :=
 let a:=(cO (e.D==j.D) (e.D==(-1)))
.calld [a=true] dF (@F_qi_ok h e.B) fun f c =>
 let b:=(bif a then f else false)
.calld [b=true] dF (@F_qi_ok i e.B) fun g d =>
.reg 1 [] [(14,hc c [] true),(20,hc d [] true)] [.clg 2 [a=true] c [] 2 true,.clg 0 [b=true] d [] 2 true]<|
.r (bif b then (!g) else false)
def F_q28 (a:TBo) (b:Y8) (c:Y8) (d:TTr):=(S_q28 a b c d).den
theorem F_q28_ok {c:TBo} {e:Y8} {f:Y8} {a:TTr}:FO (F_q28 c e f a) 103 [(TBo.d c),(AV.d (DV.str e)),(AV.d (DV.str f)),(vp 0)] [(TTr.b a)] vb (fun _=>[(TTr.b a)]):=fO (s:=S_q28 c e f a) Tryz.func103
def S_qe_b1 (c:TTr) (p0_0:TLa) (p0_1:Bool) (p0_2:Int) (p0_3:TLa) (p0_4:Int) (h:(List TTr)) (d:Nat) (_:Unit):SC Bool (Step Unit Bool) :=
.reg 4 [] [] [.w d,.ev 0]<|
 let a:=(p0_3.M.getD d dF)
.call (@F_q28_ok a c.V c.L c) fun b e=>
.calld [b=true] dF (@F_qs_ok a.B a.D c.I p0_0 p0_1 p0_2 p0_3 p0_4 h) fun g f =>
.reg 5 [] [(6,hc e [2] true),(15,hc f [0,1] true)] [.cl 2 e [2] 4 true,.clg 0 [b=true] f [0,1] 4 true]<|
.ite (bif b then (decide ((i64.wrap (g+c.C))>a.C)) else false) (
.r (.ret true)) (
.r (.cont ()))
def S_qe_b2 (c:TTr) (p0_0:TLa) (p0_1:Bool) (p0_2:Int) (p0_3:TLa) (p0_4:Int) (h:(List TTr)) (d:Nat) (_:Unit):SC Bool (Step Unit Bool) :=
.reg 10 [] [] [.w d,.ev 0]<|
 let a:=(p0_3.S.getD d dF)
.call (@F_q28_ok a c.L c.V c) fun b e=>
.calld [b=true] dF (@F_qs_ok a.B a.D c.I p0_0 p0_1 p0_2 p0_3 p0_4 h) fun g f =>
.reg 11 [] [(6,hc e [2] true),(15,hc f [0,1] true)] [.cl 2 e [2] 4 true,.clg 0 [b=true] f [0,1] 4 true]<|
.ite (bif b then (decide ((i64.wrap (g-c.C))<a.C)) else false) (
.r (.ret true)) (
.r (.cont ()))
def S_qe (a:TTr) (p0_0:TLa) (p0_1:Bool) (p0_2:Int) (p0_3:TLa) (p0_4:Int) (b:(List TTr)):SC Bool Bool :=
.range (p0_3.M.length:Int) p0_3.M.length rfl (.slot 15) 17 [0,3,5,15,16] (fun (_:Unit)=>[]) (fun _=>[]) () (S_qe_b1 a p0_0 p0_1 p0_2 p0_3 p0_4 b) (fun _ => 
.range (p0_3.S.length:Int) p0_3.S.length rfl (.slot 49) 51 [0,3,5,49,50] (fun (_:Unit)=>[]) (fun _=>[]) () (S_qe_b2 a p0_0 p0_1 p0_2 p0_3 p0_4 b) (fun _ => 
.r false) id) id
def F_qe (a:TTr) (p0_0:TLa) (p0_1:Bool) (p0_2:Int) (p0_3:TLa) (p0_4:Int) (b:(List TTr)):=(S_qe a p0_0 p0_1 p0_2 p0_3 p0_4 b).den
theorem F_qe_ok {b:TTr} {p0_0:TLa} {p0_1:Bool} {p0_2:Int} {p0_3:TLa} {p0_4:Int} {a:(List TTr)}:FO (F_qe b p0_0 p0_1 p0_2 p0_3 p0_4 a) 55 [(vp 0),(TTr.d b)] [(Ob.box (AV.agg [(TLa.d p0_0),(AV.ref 1 a.length 0 a.length),(vb p0_1),(vi p0_2),(TLa.d p0_3),(vi p0_4)])),(eS 7 TTr.e a)] vb (fun _=>[(Ob.box (AV.agg [(TLa.d p0_0),(AV.ref 1 a.length 0 a.length),(vb p0_1),(vi p0_2),(TLa.d p0_3),(vi p0_4)])),(eS 7 TTr.e a)]):=fO (s:=S_qe b p0_0 p0_1 p0_2 p0_3 p0_4 a) Tryz.func55
abbrev R_q1t:=Int×TLa×Bool×Int×TLa×Int
def S_q1t (b:TTr) (p0_0:TLa) (p0_1:Bool) (p0_2:Int) (p0_3:TLa) (p0_4:Int) (d:(List TTr)):SC R_q1t R_q1t :=
.call (@F_q2y_ok b p0_0 p0_1 p0_2 p0_3 p0_4 d) fun e g=>
.k 1 2 g [0,1] 3 true<|
.ite (e != 0) (
.r (e,p0_0,p0_1,p0_2,p0_3,p0_4)) (
.call (@F_q35_ok b.I p0_0 p0_1 p0_2 p0_3 p0_4 d) fun a h=>
.k 4 3 h [0,1] 3 false<|
.ite (a.1 != 0) (
.r (a.1,a.2.1,a.2.2.1,a.2.2.2.1,a.2.2.2.2.1,a.2.2.2.2.2)) (
.call (@F_q1g_ok a.2.2.2.2.1.J b) fun c i=>
.k 7 6 i [2] 3 true<|
.ite (decide (c<0)) (
.r (12,a.2.1,a.2.2.1,a.2.2.2.1,a.2.2.2.2.1,a.2.2.2.2.2)) (
.call (@F_q1i_ok (a.2.2.2.2.1.J.getD c.toNat dF) b a.2.1 a.2.2.1 a.2.2.2.1 a.2.2.2.2.1 a.2.2.2.2.2 d) fun j f=>
.guard [(0:Int)<=c,c.toNat<a.2.2.2.2.1.J.length]<|
.reg 10 [] [(12,hc f [0,1] true)] [.ev 0,.ev 1,.cl 2 f [0,1] 3 true]<|
.ite (decide (b.C>j)) (
.r (13,a.2.1,a.2.2.1,a.2.2.2.1,a.2.2.2.2.1,a.2.2.2.2.2)) (
.call (@F_qs_ok b.L b.D b.I a.2.1 a.2.2.1 a.2.2.2.1 a.2.2.2.2.1 a.2.2.2.2.2 d) fun l m=>
.k 12 9 m [0,1] 3 true<|
.ite (decide (b.C>l)) (
.r (15,a.2.1,a.2.2.1,a.2.2.2.1,a.2.2.2.2.1,a.2.2.2.2.2)) (
.call (@F_qe_ok b a.2.1 a.2.2.1 a.2.2.2.1 a.2.2.2.2.1 a.2.2.2.2.2 d) fun n o=>
.k 14 2 o [0,1] 3 true<|
.ite n (
.r (14,a.2.1,a.2.2.1,a.2.2.2.1,a.2.2.2.2.1,a.2.2.2.2.2)) (
.r (0,a.2.1,a.2.2.1,a.2.2.2.1,a.2.2.2.2.1,a.2.2.2.2.2)))))))
def F_q1t (a:TTr) (p0_0:TLa) (p0_1:Bool) (p0_2:Int) (p0_3:TLa) (p0_4:Int) (b:(List TTr)):=(S_q1t a p0_0 p0_1 p0_2 p0_3 p0_4 b).den
theorem F_q1t_ok {b:TTr} {p0_0:TLa} {p0_1:Bool} {p0_2:Int} {p0_3:TLa} {p0_4:Int} {a:(List TTr)}:FO (F_q1t b p0_0 p0_1 p0_2 p0_3 p0_4 a) 32 [(vp 0),(TTr.d b)] [(Ob.box (AV.agg [(TLa.d p0_0),(AV.ref 1 a.length 0 a.length),(vb p0_1),(vi p0_2),(TLa.d p0_3),(vi p0_4)])),(eS 7 TTr.e a)] (fun x=>(vi x.1)) (fun x=>[(Ob.box (AV.agg [(TLa.d x.2.1),(AV.ref 1 a.length 0 a.length),(vb x.2.2.1),(vi x.2.2.2.1),(TLa.d x.2.2.2.2.1),(vi x.2.2.2.2.2)])),(eS 7 TTr.e a)]):=fO (s:=S_q1t b p0_0 p0_1 p0_2 p0_3 p0_4 a) Tryz.func32
abbrev R_qj:=(List Int)×Int×TLa×Bool×Int×TLa×Int×(List TTr)
def S_qj_b1 (y:(List TTr)) (n:Nat) (a:TLa×Bool×Int×TLa×Int×(List TTr)×(List Int)):SC R_qj (Step (TLa×Bool×Int×TLa×Int×(List TTr)×(List Int)) R_qj) :=
.reg 10 [] [] [.w n,.ev 0]<|
 let m:=(decide ((n:Int)>0))
 let t:=(i64.wrap ((n:Int)-1))
 let u:=(y.getD n dF)
.calld [m=true] dF (@F_q1s_ok (y.getD t.toNat dF) u) fun z v =>
.guard [AllP [m=true]->((0:Int)<=t),AllP [m=true]->(t.toNat<y.length)]<|
.reg 11 [] [(9,hc v [] true)] [.ev 0,.ev 1,.clg 2 [m=true] v [] 6 true]<|
.guard [(bif m then (decide (z>=0)) else false)=false]<|
.br false (.ev 0)<|
.call (@F_q1t_ok u a.1 a.2.1 a.2.2.1 a.2.2.2.1 a.2.2.2.2.1 a.2.2.2.2.2.1) fun f A=>
.k 13 2 A [2,3] 6 false<|
.cut none [1,8,9,12,23,24,25] (fun (_:TLa×Bool×Int×TLa×Int×(List TTr))=>[]) (fun b=>[(2,(Ob.box (AV.agg [(TLa.d b.1),(AV.ref 3 b.2.2.2.2.2.length 0 b.2.2.2.2.2.length),(vb b.2.1),(vi b.2.2.1),(TLa.d b.2.2.2.1),(vi b.2.2.2.2.1)]))),(3,(eS 7 TTr.e b.2.2.2.2.2))]) (
.ite (f.1==0) (
.guard [(a.2.2.2.2.2.1.length+1) * (2 * 72)<=2 ^ 48]<|
 let g:=([u]:List TTr)
 let q:=(a.2.2.2.2.2.1++g)
.reg 15 [7,10] [(6,hv (AV.d (eL TTr.e g))),(7,{ cast:=some (AV.ref 3 q.length 0 q.length),obs:=[(3,(eS 7 TTr.e q))] })] [.pf (z5 TTr.e g),.e a.2.2.2.2.2.1.length,.e a.2.2.2.2.2.1.length,.pf (p:=∀ k,k<1->(TTr.d (g.getD k dF)).wd=7) (fun _ _=>rfl),.ev 0,.pf (zg (o:=3) (l:=a.2.2.2.2.2.1) (x:=g)),.pf (zf (sz:=7) (e:=TTr.e) (l:=a.2.2.2.2.2.1) (x:=g))]<|
.r (.next (f.2.1,f.2.2.1,f.2.2.2.1,f.2.2.2.2.1,f.2.2.2.2.2,q))) (
.r (.next (f.2.1,f.2.2.1,f.2.2.2.1,f.2.2.2.2.1,f.2.2.2.2.2,a.2.2.2.2.2.1)))) fun b=>
.guard [(a.2.2.2.2.2.2.length+1) * (2 * 8)<=2 ^ 48]<|
 let j:=([f.1]:List Int)
 let s:=(a.2.2.2.2.2.2++j)
.reg 16 [] [(2,hv (vl j)),(3,{ h:=.obj,cast:=some (AV.ref 4 s.length 0 s.length),obs:=[(4,(eS 1 (DV.i .i64) s))] })] [.pf (z5 (DV.i .i64) j),.e a.2.2.2.2.2.2.length,.e a.2.2.2.2.2.2.length,.pf (p:=∀ k,k<1->(AV.d ((DV.i .i64) (j.getD k dF))).wd=1) (fun _ _=>rfl),.ev 0,.pf (zg (o:=4) (l:=a.2.2.2.2.2.2) (x:=j)),.pf (zf (sz:=1) (e:=(DV.i .i64)) (l:=a.2.2.2.2.2.2) (x:=j))]<|
.c (b.1,b.2.1,b.2.2.1,b.2.2.2.1,b.2.2.2.2.1,b.2.2.2.2.2,s)
def S_qj (l:TLa) (f:(List TTr)):SC R_qj R_qj :=
.a 1 1 1 (@F_q1r_ok l) fun g=>
.guard [(g != 0)=false]<|
.br false (.ev 0)<|
.guard [(decide ((f.length:Int)>60))=false]<|
.br false (.ev 0)<|
.call (@F_q14_ok l) fun c h=>
.k 6 1 h [] 1 false<|
.reg 8 [] [] []<|
.bor 1 (fun j=>AV.d ((DV.i .i64) (([]:List Int).getD j dF))) [9]<|
.range (f.length:Int) f.length rfl (.slot 1) 25 [1,8,23,24] (fun (b:TLa×Bool×Int×TLa×Int×(List TTr)×(List Int))=>[(9,(AV.ref 4 b.2.2.2.2.2.2.length 0 b.2.2.2.2.2.2.length))]) (fun b=>[(2,(Ob.box (AV.agg [(TLa.d b.1),(AV.ref 3 b.2.2.2.2.2.1.length 0 b.2.2.2.2.2.1.length),(vb b.2.1),(vi b.2.2.1),(TLa.d b.2.2.2.1),(vi b.2.2.2.2.1)]))),(3,(eS 7 TTr.e b.2.2.2.2.2.1)),(4,(eS 1 (DV.i .i64) b.2.2.2.2.2.2))]) (c.1,c.2.1,c.2.2.1,c.2.2.2.1,c.2.2.2.2.1,c.2.2.2.2.2,([]:List Int)) (S_qj_b1 f) (fun b => 
.guard [b.2.2.2.2.2.2.length<2 ^ 63]<|
.reg 18 [] [] []<|
.frz 4 (.ev 0) none [5] []<|
.kill 0<|
.r (b.2.2.2.2.2.2,0,b.1,b.2.1,b.2.2.1,b.2.2.2.1,b.2.2.2.2.1,b.2.2.2.2.2.1)) id
def F_qj (a:TLa) (b:(List TTr)):=(S_qj a b).den
theorem F_qj_ok {a:TLa} {b:(List TTr)}:FO (F_qj a b) 28 [(TLa.d a),(AV.d (eL TTr.e b))] [] (fun x=>(AV.tup [(vp 2),(vl x.1),(vi x.2.1)])) (fun x=>[Ob.dead,Ob.dead,(Ob.box (AV.agg [(TLa.d x.2.2.1),(AV.ref 3 x.2.2.2.2.2.2.2.length 0 x.2.2.2.2.2.2.2.length),(vb x.2.2.2.1),(vi x.2.2.2.2.1),(TLa.d x.2.2.2.2.2.1),(vi x.2.2.2.2.2.2.1)])),(eS 7 TTr.e x.2.2.2.2.2.2.2)]):=fO (s:=S_qj a b) Tryz.func28
abbrev R_q3o:=Bool×TTr×TLa×Bool×Int×TLa×Int
def S_q3o (e:Int) (b:TTr) (p2_0:TLa) (p2_1:Bool) (p2_2:Int) (p2_3:TLa) (p2_4:Int) (f:(List TTr)):SC R_q3o R_q3o :=
 let c:=(⟨b.F,b.I,b.D,b.U,b.L,b.V,(i64.wrap (e+1))⟩:TTr)
.call (@F_q1t_ok c p2_0 p2_1 p2_2 p2_3 p2_4 f) fun a d=>
.k 2 2 d [2,3] 4 false<|
.r ((a.1 != 0),c,a.2.1,a.2.2.1,a.2.2.2.1,a.2.2.2.2.1,a.2.2.2.2.2)
def F_q3o (a:Int) (b:TTr) (p2_0:TLa) (p2_1:Bool) (p2_2:Int) (p2_3:TLa) (p2_4:Int) (c:(List TTr)):=(S_q3o a b p2_0 p2_1 p2_2 p2_3 p2_4 c).den
theorem F_q3o_ok {c:Int} {f:TTr} {p2_0:TLa} {p2_1:Bool} {p2_2:Int} {p2_3:TLa} {p2_4:Int} {a:(List TTr)}:FO (F_q3o c f p2_0 p2_1 p2_2 p2_3 p2_4 a) 31 [(vi c),(vp 0),(vp 1)] [(TTr.b f),(Ob.box (vp 2)),(Ob.box (AV.agg [(TLa.d p2_0),(AV.ref 3 a.length 0 a.length),(vb p2_1),(vi p2_2),(TLa.d p2_3),(vi p2_4)])),(eS 7 TTr.e a)] (fun x=>(vb x.1)) (fun x=>[(TTr.b x.2.1),(Ob.box (vp 2)),(Ob.box (AV.agg [(TLa.d x.2.2.1),(AV.ref 3 a.length 0 a.length),(vb x.2.2.2.1),(vi x.2.2.2.2.1),(TLa.d x.2.2.2.2.2.1),(vi x.2.2.2.2.2.2)])),(eS 7 TTr.e a)]):=fO (s:=S_q3o c f p2_0 p2_1 p2_2 p2_3 p2_4 a) Tryz.func31
abbrev R_q17:=Int×TTr×TLa×Bool×Int×TLa×Int
def S_q17_b1 (e:(List TTr)) (a:TTr×TLa×Bool×Int×TLa×Int×Int×Int):SC R_q17 (Step (TTr×TLa×Bool×Int×TLa×Int×Int×Int) R_q17) :=
.ite (decide (a.2.2.2.2.2.2.1<a.2.2.2.2.2.2.2)) (
.reg 3 [] [] [.pf (p:=(0:Int)<=1) dk]<|
 let c:=(i64.wrap ((IntKind.u64.wrap (i64.wrap (a.2.2.2.2.2.2.1+a.2.2.2.2.2.2.2))).fdiv (2 ^ (min (1:Int).toNat IntKind.u64.bits))))
.call (@F_q3o_ok c a.1 a.2.1 a.2.2.1 a.2.2.2.1 a.2.2.2.2.1 a.2.2.2.2.2.1 e) fun b d=>
.k 4 2 d [0,1,2,3] 4 false<|
.ite (!b.1) (
.r (.cont (b.2.1,b.2.2.1,b.2.2.2.1,b.2.2.2.2.1,b.2.2.2.2.2.1,b.2.2.2.2.2.2,(i64.wrap (c+1)),a.2.2.2.2.2.2.2))) (
.r (.cont (b.2.1,b.2.2.1,b.2.2.2.1,b.2.2.2.2.1,b.2.2.2.2.2.1,b.2.2.2.2.2.2,a.2.2.2.2.2.2.1,c)))) (
.r (.brk (a.1,a.2.1,a.2.2.1,a.2.2.2.1,a.2.2.2.2.1,a.2.2.2.2.2.1,a.2.2.2.2.2.2.1,a.2.2.2.2.2.2.2)))
def S_q17 (e:Int) (f:TTr) (p2_0:TLa) (p2_1:Bool) (p2_2:Int) (p2_3:TLa) (p2_4:Int) (c:(List TTr)):SC R_q17 R_q17 :=
.iter [1] (fun (a:TTr×TLa×Bool×Int×TLa×Int×Int×Int)=>[(5,(vi a.2.2.2.2.2.2.1)),(6,(vi a.2.2.2.2.2.2.2))]) (fun a=>[(0,(TTr.b a.1)),(2,(Ob.box (AV.agg [(TLa.d a.2.1),(AV.ref 3 c.length 0 c.length),(vb a.2.2.1),(vi a.2.2.2.1),(TLa.d a.2.2.2.2.1),(vi a.2.2.2.2.2.1)])))]) (f,p2_0,p2_1,p2_2,p2_3,p2_4,0,e) (S_q17_b1 c) (fun a =>
.r (a.2.2.2.2.2.2.1,a.1,a.2.1,a.2.2.1,a.2.2.2.1,a.2.2.2.2.1,a.2.2.2.2.2.1)) id
def F_q17 (a:Int) (b:TTr) (p2_0:TLa) (p2_1:Bool) (p2_2:Int) (p2_3:TLa) (p2_4:Int) (c:(List TTr)):=(S_q17 a b p2_0 p2_1 p2_2 p2_3 p2_4 c).den
theorem F_q17_ok {c:Int} {f:TTr} {p2_0:TLa} {p2_1:Bool} {p2_2:Int} {p2_3:TLa} {p2_4:Int} {a:(List TTr)}:FO (F_q17 c f p2_0 p2_1 p2_2 p2_3 p2_4 a) 30 [(vi c),(AV.fn 31 [(vp 0),(vp 1)])] [(TTr.b f),(Ob.box (vp 2)),(Ob.box (AV.agg [(TLa.d p2_0),(AV.ref 3 a.length 0 a.length),(vb p2_1),(vi p2_2),(TLa.d p2_3),(vi p2_4)])),(eS 7 TTr.e a)] (fun x=>(vi x.1)) (fun x=>[(TTr.b x.2.1),(Ob.box (vp 2)),(Ob.box (AV.agg [(TLa.d x.2.2.1),(AV.ref 3 a.length 0 a.length),(vb x.2.2.2.1),(vi x.2.2.2.2.1),(TLa.d x.2.2.2.2.2.1),(vi x.2.2.2.2.2.2)])),(eS 7 TTr.e a)]):=fO (s:=S_q17 c f p2_0 p2_1 p2_2 p2_3 p2_4 a) Tryz.func30
theorem zkh:LeV (AV.tup [(AV.d (DV.lit (.pointer none))),(AV.full 0 fun _=>DV.b false),(vi 8)]) (AV.tup [(AV.d (DV.lit (.pointer none))),(vl ([])),(vi 8)]):=LeV.tup (LeVs.cons (LeV.refl _) (LeVs.cons (lvN (DV.i .i64)) (LeVs.cons (LeV.refl _) LeVs.nil)))
theorem zki:LeV (AV.tup [(AV.d (DV.lit (.pointer none))),(AV.full 0 fun _=>DV.b false),(vi 3)]) (AV.tup [(AV.d (DV.lit (.pointer none))),(vl ([])),(vi 3)]):=LeV.tup (LeVs.cons (LeV.refl _) (LeVs.cons (lvN (DV.i .i64)) (LeVs.cons (LeV.refl _) LeVs.nil)))
abbrev R_q29:=(List Int)×Int
def S_q29_b1 (v:(List TTr)) (m:Nat) (a:TLa×Bool×Int×TLa×Int×(List TTr)×(List Int)):SC R_q29 (Step (TLa×Bool×Int×TLa×Int×(List TTr)×(List Int)) R_q29) :=
.reg 10 [] [] [.w m,.ev 0]<|
 let j:=(decide ((m:Int)>0))
 let s:=(i64.wrap ((m:Int)-1))
 let t:=(v.getD m dF)
.calld [j=true] dF (@F_q1s_ok (v.getD s.toNat dF) t) fun y u =>
.guard [AllP [j=true]->((0:Int)<=s),AllP [j=true]->(s.toNat<v.length)]<|
.reg 11 [] [(9,hc u [] true)] [.ev 0,.ev 1,.clg 2 [j=true] u [] 6 true]<|
.ite (bif j then (decide (y>=0)) else false) (
.ret [.pf zkh] (.ret ([],8))) (
.call (@F_q1t_ok t a.1 a.2.1 a.2.2.1 a.2.2.2.1 a.2.2.2.2.1 a.2.2.2.2.2.1) fun c z=>
.k 13 2 z [2,3] 6 false<|
.cut none [1,8,9,12,23,24,25] (fun (_:TLa×Bool×Int×TLa×Int×(List TTr))=>[]) (fun b=>[(2,(Ob.box (AV.agg [(TLa.d b.1),(AV.ref 3 b.2.2.2.2.2.length 0 b.2.2.2.2.2.length),(vb b.2.1),(vi b.2.2.1),(TLa.d b.2.2.2.1),(vi b.2.2.2.2.1)]))),(3,(eS 7 TTr.e b.2.2.2.2.2))]) (
.ite (c.1==0) (
.guard [(a.2.2.2.2.2.1.length+1) * (2 * 72)<=2 ^ 48]<|
 let f:=([t]:List TTr)
 let n:=(a.2.2.2.2.2.1++f)
.reg 15 [7,10] [(6,hv (AV.d (eL TTr.e f))),(7,{ cast:=some (AV.ref 3 n.length 0 n.length),obs:=[(3,(eS 7 TTr.e n))] })] [.pf (z5 TTr.e f),.e a.2.2.2.2.2.1.length,.e a.2.2.2.2.2.1.length,.pf (p:=∀ k,k<1->(TTr.d (f.getD k dF)).wd=7) (fun _ _=>rfl),.ev 0,.pf (zg (o:=3) (l:=a.2.2.2.2.2.1) (x:=f)),.pf (zf (sz:=7) (e:=TTr.e) (l:=a.2.2.2.2.2.1) (x:=f))]<|
.r (.next (c.2.1,c.2.2.1,c.2.2.2.1,c.2.2.2.2.1,c.2.2.2.2.2,n))) (
.r (.next (c.2.1,c.2.2.1,c.2.2.2.1,c.2.2.2.2.1,c.2.2.2.2.2,a.2.2.2.2.2.1)))) fun b=>
.guard [(a.2.2.2.2.2.2.length+1) * (2 * 8)<=2 ^ 48]<|
 let g:=([c.1]:List Int)
 let q:=(a.2.2.2.2.2.2++g)
.reg 16 [] [(2,hv (vl g)),(3,{ h:=.obj,cast:=some (AV.ref 4 q.length 0 q.length),obs:=[(4,(eS 1 (DV.i .i64) q))] })] [.pf (z5 (DV.i .i64) g),.e a.2.2.2.2.2.2.length,.e a.2.2.2.2.2.2.length,.pf (p:=∀ k,k<1->(AV.d ((DV.i .i64) (g.getD k dF))).wd=1) (fun _ _=>rfl),.ev 0,.pf (zg (o:=4) (l:=a.2.2.2.2.2.2) (x:=g)),.pf (zf (sz:=1) (e:=(DV.i .i64)) (l:=a.2.2.2.2.2.2) (x:=g))]<|
.r (.cont (b.1,b.2.1,b.2.2.1,b.2.2.2.1,b.2.2.2.2.1,b.2.2.2.2.2,q)))
def S_q29 (o:TLa) (m:(List TTr)):SC R_q29 R_q29 :=
.a 1 1 1 (@F_q1r_ok o) fun g=>
 let l:=(AV.d (DV.lit (.pointer none)))
.ite (g != 0) (
.ret [.pf (p:=LeV (AV.tup [l,(AV.full 0 fun _=>DV.b false),(vi g)]) (AV.tup [l,(vl ([])),(vi g)])) (LeV.tup (LeVs.cons (LeV.refl _) (LeVs.cons (lvN (DV.i .i64)) (LeVs.cons (LeV.refl _) LeVs.nil))))] ([],g)) (
.ite (decide ((m.length:Int)>60)) (
.ret [.pf zki] ([],3)) (
.call (@F_q14_ok o) fun f n=>
.k 6 1 n [] 1 false<|
.reg 8 [] [] []<|
.bor 1 (fun j=>AV.d ((DV.i .i64) (([]:List Int).getD j dF))) [9]<|
.range (m.length:Int) m.length rfl (.slot 1) 25 [1,8,23,24] (fun (c:TLa×Bool×Int×TLa×Int×(List TTr)×(List Int))=>[(9,(AV.ref 4 c.2.2.2.2.2.2.length 0 c.2.2.2.2.2.2.length))]) (fun c=>[(2,(Ob.box (AV.agg [(TLa.d c.1),(AV.ref 3 c.2.2.2.2.2.1.length 0 c.2.2.2.2.2.1.length),(vb c.2.1),(vi c.2.2.1),(TLa.d c.2.2.2.1),(vi c.2.2.2.2.1)]))),(3,(eS 7 TTr.e c.2.2.2.2.2.1)),(4,(eS 1 (DV.i .i64) c.2.2.2.2.2.2))]) (f.1,f.2.1,f.2.2.1,f.2.2.2.1,f.2.2.2.2.1,f.2.2.2.2.2,([]:List Int)) (S_q29_b1 m) (fun c => 
.guard [c.2.2.2.2.2.2.length<2 ^ 63]<|
.reg 18 [] [] []<|
.frz 4 (.ev 0) none [5] []<|
.guard [False]<|
.ret [.der (fun (h:False)=>(h.elim:LeV (AV.tup [(vp 2),(vl c.2.2.2.2.2.2),(vi 0)]) (AV.tup [l,(vl c.2.2.2.2.2.2),(vi 0)]))) 0] (c.2.2.2.2.2.2,0)) id))
def F_q29 (a:TLa) (b:(List TTr)):=(S_q29 a b).den
theorem F_q29_ok {a:TLa} {b:(List TTr)}:FO (F_q29 a b) 28 [(TLa.d a),(AV.d (eL TTr.e b))] [] (fun x=>(AV.tup [(AV.d (DV.lit (.pointer none))),(vl x.1),(vi x.2)])) NL:=fO (s:=S_q29 a b) Tryz.func28
def S_q1v (i:TLa) (f:(List TTr)) (o:TTr):SC (Int×Int) (Int×Int) :=
.reg 0 [] [] []<|
.split ((F_qj i f).isSome) (
.call (@F_qj_ok i f) fun b j=>
.k 1 2 j [] 2 false<|
.guard [(b.2.1 != 0)=false]<|
.br false (.ev 0)<|
 let d:=(f.length:Int)
 let c:=(decide (d>0))
 let e:=(i64.wrap (d-1))
.calld [c=true] dF (@F_q1s_ok (f.getD e.toNat dF) o) fun l g =>
.guard [AllP [c=true]->((0:Int)<=e),AllP [c=true]->(e.toNat<f.length)]<|
.reg 5 [] [(9,hc g [] true)] [.ev 0,.ev 1,.clg 2 [c=true] g [] 7 true]<|
.ite (bif c then (decide (l>=0)) else false) (
.r (0,8)) (
.ite (d==60) (
.r (0,3)) (
.call (@F_q17_ok 1000000000000 o b.2.2.1 b.2.2.2.1 b.2.2.2.2.1 b.2.2.2.2.2.1 b.2.2.2.2.2.2.1 b.2.2.2.2.2.2.2) fun m n=>
.k 9 1 n [1,6,4,5] 7 false<|
.r (m.1,0)))) (
.a 1 2 2 (@F_q29_ok i f) fun h=>
.guard [(h.2 != 0)=true]<|
.br true (.ev 0)<|
.r (0,h.2))
def F_q1v (a:TLa) (b:(List TTr)) (c:TTr):=(S_q1v a b c).den
theorem F_q1v_ok {a:TLa} {b:(List TTr)} {c:TTr}:FO (F_q1v a b c) 13 [(TLa.d a),(AV.d (eL TTr.e b)),(TTr.d c)] [] (fun x=>(AV.tup [(vi x.1),(vi x.2)])) NL:=fO (s:=S_q1v a b c) Tryz.func13
end
end Go.Proofs.YtljnmhapbonmfaaGreatDoor
/- What the functions compute,and that their calls return it. No condition. -/
namespace Go.Proofs.YtljnmhapbonmfaaGreatDoor
open Go Go.TA
open Go.IntKind (i64)
noncomputable section
set_option maxRecDepth 100000
theorem zjq:LeV (AV.tup [(AV.d (DV.lit (.pointer none))),(AV.full 0 fun _=>DV.b false),(vi 8)]) (AV.tup [AV.bot,(vl ([])),(vi 8)]):=LeV.tup (LeVs.cons z4a (LeVs.cons (lvN (DV.i .i64)) (LeVs.cons (LeV.refl _) LeVs.nil)))
theorem zjr:LeV (AV.tup [(AV.d (DV.lit (.pointer none))),(AV.full 0 fun _=>DV.b false),(vi 3)]) (AV.tup [AV.bot,(vl ([])),(vi 3)]):=LeV.tup (LeVs.cons z4a (LeVs.cons (lvN (DV.i .i64)) (LeVs.cons (LeV.refl _) LeVs.nil)))
abbrev R_q18:=(List Int)×Int
def S_q18_b1 (m:(List TTr)) (n:Nat) (a:TLa×Bool×Int×TLa×Int×(List TTr)×(List Int)):SC R_q18 (Step (TLa×Bool×Int×TLa×Int×(List TTr)×(List Int)) R_q18) :=
.guard [(0+n)<m.length]<|
.reg 10 [] [] [.e m.length,.w n,.ev 1,.e m.length,.ev 0]<|
 let f:=(decide ((n:Int)>0))
 let q:=(i64.wrap ((n:Int)-1))
 let u:=(m.getD (0+n) dF)
.calld [f=true] dF (@F_q1s_ok (m.getD (0+q.toNat) dF) u) fun y v =>
.guard [AllP [f=true]->((0:Int)<=q),AllP [f=true]->(q.toNat<m.length),AllP [f=true]->((0+q.toNat)<m.length)]<|
.reg 11 [] [(9,hc v [] true)] [.pf (p:=AllP [f=true]->(m.length=m.length)) (fun _=>rfl),.ev 0,.ev 1,.pf (p:=AllP [f=true]->(m.length=m.length)) (fun _=>rfl),.ev 2,.clg 3 [f=true] v [] 7 true]<|
.ite (bif f then (decide (y>=0)) else false) (
.ret [.pf zjq] (.ret ([],8))) (
.call (@F_q1t_ok u a.1 a.2.1 a.2.2.1 a.2.2.2.1 a.2.2.2.2.1 a.2.2.2.2.2.1) fun c z=>
.k 13 2 z [3,4] 7 false<|
.cut none [1,8,9,12,23,24,25] (fun (_:TLa×Bool×Int×TLa×Int×(List TTr))=>[]) (fun b=>[(3,(Ob.box (AV.agg [(TLa.d b.1),(AV.ref 4 b.2.2.2.2.2.length 0 b.2.2.2.2.2.length),(vb b.2.1),(vi b.2.2.1),(TLa.d b.2.2.2.1),(vi b.2.2.2.2.1)]))),(4,(eS 7 TTr.e b.2.2.2.2.2))]) (
.ite (c.1==0) (
.guard [(a.2.2.2.2.2.1.length+1) * (2 * 72)<=2 ^ 48]<|
 let g:=([u]:List TTr)
 let s:=(a.2.2.2.2.2.1++g)
.reg 15 [7,10] [(6,hv (AV.d (eL TTr.e g))),(7,{ cast:=some (AV.ref 4 s.length 0 s.length),obs:=[(4,(eS 7 TTr.e s))] })] [.pf (z5 TTr.e g),.e a.2.2.2.2.2.1.length,.e a.2.2.2.2.2.1.length,.pf (p:=∀ k,k<1->(TTr.d (g.getD k dF)).wd=7) (fun _ _=>rfl),.ev 0,.pf (zg (o:=4) (l:=a.2.2.2.2.2.1) (x:=g)),.pf (zf (sz:=7) (e:=TTr.e) (l:=a.2.2.2.2.2.1) (x:=g))]<|
.r (.next (c.2.1,c.2.2.1,c.2.2.2.1,c.2.2.2.2.1,c.2.2.2.2.2,s))) (
.r (.next (c.2.1,c.2.2.1,c.2.2.2.1,c.2.2.2.2.1,c.2.2.2.2.2,a.2.2.2.2.2.1)))) fun b=>
.guard [(a.2.2.2.2.2.2.length+1) * (2 * 8)<=2 ^ 48]<|
 let j:=([c.1]:List Int)
 let t:=(a.2.2.2.2.2.2++j)
.reg 16 [] [(2,hv (vl j)),(3,{ h:=.obj,cast:=some (AV.ref 5 t.length 0 t.length),obs:=[(5,(eS 1 (DV.i .i64) t))] })] [.pf (z5 (DV.i .i64) j),.e a.2.2.2.2.2.2.length,.e a.2.2.2.2.2.2.length,.pf (p:=∀ k,k<1->(AV.d ((DV.i .i64) (j.getD k dF))).wd=1) (fun _ _=>rfl),.ev 0,.pf (zg (o:=5) (l:=a.2.2.2.2.2.2) (x:=j)),.pf (zf (sz:=1) (e:=(DV.i .i64)) (l:=a.2.2.2.2.2.2) (x:=j))]<|
.r (.cont (b.1,b.2.1,b.2.2.1,b.2.2.2.1,b.2.2.2.2.1,b.2.2.2.2.2,t)))
def S_q18 (m:TLa) (h:(List TTr)):SC R_q18 R_q18 :=
.a 1 1 2 (@F_q1r_ok m) fun g=>
.ite (g != 0) (
.ret [.pf (p:=LeV (AV.tup [(AV.d (DV.lit (.pointer none))),(AV.full 0 fun _=>DV.b false),(vi g)]) (AV.tup [AV.bot,(vl ([])),(vi g)])) (LeV.tup (LeVs.cons z4a (LeVs.cons (lvN (DV.i .i64)) (LeVs.cons (LeV.refl _) LeVs.nil))))] ([],g)) (
.ite (decide ((h.length:Int)>60)) (
.ret [.pf zjr] ([],3)) (
.call (@F_q14_ok m) fun f l=>
.k 6 1 l [] 2 false<|
.reg 8 [] [] []<|
.bor 1 (fun j=>AV.d ((DV.i .i64) (([]:List Int).getD j dF))) [9]<|
.guard [h.length<2 ^ 63]<|
.range (h.length:Int) h.length rfl (.why (.ev 0)) 25 [1,8,23,24] (fun (c:TLa×Bool×Int×TLa×Int×(List TTr)×(List Int))=>[(9,(AV.ref 5 c.2.2.2.2.2.2.length 0 c.2.2.2.2.2.2.length))]) (fun c=>[(3,(Ob.box (AV.agg [(TLa.d c.1),(AV.ref 4 c.2.2.2.2.2.1.length 0 c.2.2.2.2.2.1.length),(vb c.2.1),(vi c.2.2.1),(TLa.d c.2.2.2.1),(vi c.2.2.2.2.1)]))),(4,(eS 7 TTr.e c.2.2.2.2.2.1)),(5,(eS 1 (DV.i .i64) c.2.2.2.2.2.2))]) (f.1,f.2.1,f.2.2.1,f.2.2.2.1,f.2.2.2.2.1,f.2.2.2.2.2,([]:List Int)) (S_q18_b1 h) (fun c => 
.guard [c.2.2.2.2.2.2.length<2 ^ 63]<|
.reg 18 [] [] []<|
.frz 5 (.ev 0) none [5] []<|
.ret [.pf (p:=LeV (AV.tup [(vp 3),(vl c.2.2.2.2.2.2),(vi 0)]) (AV.tup [AV.bot,(vl c.2.2.2.2.2.2),(vi 0)])) (LeV.tup (LeVs.cons z4a (LeVs.cons (LeV.refl _) (LeVs.cons (LeV.refl _) LeVs.nil))))] (c.2.2.2.2.2.2,0)) id))
def F_q18 (a:TLa) (b:(List TTr)):=(S_q18 a b).den
theorem F_q18_ok {b:TLa} {a:(List TTr)}:FO (F_q18 b a) 28 [(TLa.d b),(AV.ref 0 a.length 0 a.length)] [(eS 7 TTr.e a)] (fun x=>(AV.tup [AV.bot,(vl x.1),(vi x.2)])) (fun _=>[(eS 7 TTr.e a)]):=fO (s:=S_q18 b a) Tryz.func28
abbrev R_q3a:=(List Int)×Int
def S_q3a (c:TLa) (d:(List TTr)):SC R_q3a R_q3a :=
.call (@F_q18_ok c d) fun a b=>
.k 1 2 b [0] 2 true<|
.r (a.1,a.2)
def F_q3a (a:TLa) (b:(List TTr)):=(S_q3a a b).den
theorem F_q3a_ok {b:TLa} {a:(List TTr)}:FO (F_q3a b a) 14 [(TLa.d b),(AV.ref 0 a.length 0 a.length)] [(eS 7 TTr.e a)] (fun x=>(AV.tup [(vl x.1),(vi x.2)])) (fun _=>[(eS 7 TTr.e a)]):=fO (s:=S_q3a b a) Tryz.func14
theorem zkj:LeV (AV.d (DV.agg [(DV.i .i64 0),(DV.i .i64 1),(eL THe.e ([(⟨[49],[97]⟩:THe),(⟨[49,46,49],[98]⟩:THe),(⟨[50],[99]⟩:THe)]:List THe)),(eL TLi.e ([(⟨[49,46,49],0,500⟩:TLi),(⟨[50],0,100⟩:TLi)]:List TLi)),Z0,Z0,Z0,Z0,(eL TRu.e ([(⟨1,[49],[50],10⟩:TRu)]:List TRu)),Z0])) (TLa.d (⟨0,1,([(⟨[49],[97]⟩:THe),(⟨[49,46,49],[98]⟩:THe),(⟨[50],[99]⟩:THe)]:List THe),([(⟨[49,46,49],0,500⟩:TLi),(⟨[50],0,100⟩:TLi)]:List TLi),[],[],[],[],([(⟨1,[49],[50],10⟩:TRu)]:List TRu),[]⟩:TLa)):=z99 rfl (DLe.agg (DLeL.cons (DLe.refl _) (DLeL.cons (DLe.refl _) (DLeL.cons (DLe.refl _) (DLeL.cons (DLe.refl _) (DLeL.cons DLe.sl0 (DLeL.cons DLe.sl0 (DLeL.cons DLe.sl0 (DLeL.cons DLe.sl0 (DLeL.cons (DLe.refl _) (DLeL.cons DLe.sl0 DLeL.nil)))))))))))
def S_q3p:SC TLa TLa :=
.reg 0 [] [(0,{ obs:=[(0,(TLa.b (⟨0,0,[],[],[],[],[],[],[],[]⟩:TLa)))] })] [.pf cz2]<|
 let h:=(⟨[49,46,49],0,500⟩:TLi)
 let a:=([h,(⟨[50],0,100⟩:TLi)]:List TLi)
 let i:=(⟨[49,46,49],[98]⟩:THe)
 let c:=([(⟨[49],[97]⟩:THe),i,(⟨[50],[99]⟩:THe)]:List THe)
 let j:=(⟨1,[49],[50],10⟩:TRu)
 let f:=([j]:List TRu)
 let g:=(⟨0,1,c,a,[],[],[],[],f,[]⟩:TLa)
.reg 1 [] [(3,hv (AV.d (eL THe.e c))),(6,hv (AV.d (eL TLi.e a))),(8,hv (AV.d (eL TRu.e f))),(9,hv (TLa.d g))] [.pf (z5 THe.e c),.pf (z5 TLi.e a),.pf (z5 TRu.e f),.pf zkj]<|
.r g
def F_q3p:=S_q3p.den
theorem F_q3p_ok :FO F_q3p 33 [] [] (fun x=>(TLa.d x)) NL:=fO (s:=S_q3p) Tryz.func33
abbrev R_q19:=(List Int)×Int
def S_q19_b1 (v:(List TTr)) (m:Nat) (a:TLa×Bool×Int×TLa×Int×(List TTr)×(List Int)):SC R_q19 (Step (TLa×Bool×Int×TLa×Int×(List TTr)×(List Int)) R_q19) :=
.reg 10 [] [] [.w m,.ev 0]<|
 let j:=(decide ((m:Int)>0))
 let s:=(i64.wrap ((m:Int)-1))
 let t:=(v.getD m dF)
.calld [j=true] dF (@F_q1s_ok (v.getD s.toNat dF) t) fun y u =>
.guard [AllP [j=true]->((0:Int)<=s),AllP [j=true]->(s.toNat<v.length)]<|
.reg 11 [] [(9,hc u [] true)] [.ev 0,.ev 1,.clg 2 [j=true] u [] 6 true]<|
.ite (bif j then (decide (y>=0)) else false) (
.ret [.pf zjq] (.ret ([],8))) (
.call (@F_q1t_ok t a.1 a.2.1 a.2.2.1 a.2.2.2.1 a.2.2.2.2.1 a.2.2.2.2.2.1) fun c z=>
.k 13 2 z [2,3] 6 false<|
.cut none [1,8,9,12,23,24,25] (fun (_:TLa×Bool×Int×TLa×Int×(List TTr))=>[]) (fun b=>[(2,(Ob.box (AV.agg [(TLa.d b.1),(AV.ref 3 b.2.2.2.2.2.length 0 b.2.2.2.2.2.length),(vb b.2.1),(vi b.2.2.1),(TLa.d b.2.2.2.1),(vi b.2.2.2.2.1)]))),(3,(eS 7 TTr.e b.2.2.2.2.2))]) (
.ite (c.1==0) (
.guard [(a.2.2.2.2.2.1.length+1) * (2 * 72)<=2 ^ 48]<|
 let f:=([t]:List TTr)
 let n:=(a.2.2.2.2.2.1++f)
.reg 15 [7,10] [(6,hv (AV.d (eL TTr.e f))),(7,{ cast:=some (AV.ref 3 n.length 0 n.length),obs:=[(3,(eS 7 TTr.e n))] })] [.pf (z5 TTr.e f),.e a.2.2.2.2.2.1.length,.e a.2.2.2.2.2.1.length,.pf (p:=∀ k,k<1->(TTr.d (f.getD k dF)).wd=7) (fun _ _=>rfl),.ev 0,.pf (zg (o:=3) (l:=a.2.2.2.2.2.1) (x:=f)),.pf (zf (sz:=7) (e:=TTr.e) (l:=a.2.2.2.2.2.1) (x:=f))]<|
.r (.next (c.2.1,c.2.2.1,c.2.2.2.1,c.2.2.2.2.1,c.2.2.2.2.2,n))) (
.r (.next (c.2.1,c.2.2.1,c.2.2.2.1,c.2.2.2.2.1,c.2.2.2.2.2,a.2.2.2.2.2.1)))) fun b=>
.guard [(a.2.2.2.2.2.2.length+1) * (2 * 8)<=2 ^ 48]<|
 let g:=([c.1]:List Int)
 let q:=(a.2.2.2.2.2.2++g)
.reg 16 [] [(2,hv (vl g)),(3,{ h:=.obj,cast:=some (AV.ref 4 q.length 0 q.length),obs:=[(4,(eS 1 (DV.i .i64) q))] })] [.pf (z5 (DV.i .i64) g),.e a.2.2.2.2.2.2.length,.e a.2.2.2.2.2.2.length,.pf (p:=∀ k,k<1->(AV.d ((DV.i .i64) (g.getD k dF))).wd=1) (fun _ _=>rfl),.ev 0,.pf (zg (o:=4) (l:=a.2.2.2.2.2.2) (x:=g)),.pf (zf (sz:=1) (e:=(DV.i .i64)) (l:=a.2.2.2.2.2.2) (x:=g))]<|
.r (.cont (b.1,b.2.1,b.2.2.1,b.2.2.2.1,b.2.2.2.2.1,b.2.2.2.2.2,q)))
def S_q19 (m:TLa) (h:(List TTr)):SC R_q19 R_q19 :=
.a 1 1 1 (@F_q1r_ok m) fun g=>
.ite (g != 0) (
.ret [.pf (p:=LeV (AV.tup [(AV.d (DV.lit (.pointer none))),(AV.full 0 fun _=>DV.b false),(vi g)]) (AV.tup [AV.bot,(vl ([])),(vi g)])) (LeV.tup (LeVs.cons z4a (LeVs.cons (lvN (DV.i .i64)) (LeVs.cons (LeV.refl _) LeVs.nil))))] ([],g)) (
.ite (decide ((h.length:Int)>60)) (
.ret [.pf zjr] ([],3)) (
.call (@F_q14_ok m) fun f l=>
.k 6 1 l [] 1 false<|
.reg 8 [] [] []<|
.bor 1 (fun j=>AV.d ((DV.i .i64) (([]:List Int).getD j dF))) [9]<|
.range (h.length:Int) h.length rfl (.slot 1) 25 [1,8,23,24] (fun (c:TLa×Bool×Int×TLa×Int×(List TTr)×(List Int))=>[(9,(AV.ref 4 c.2.2.2.2.2.2.length 0 c.2.2.2.2.2.2.length))]) (fun c=>[(2,(Ob.box (AV.agg [(TLa.d c.1),(AV.ref 3 c.2.2.2.2.2.1.length 0 c.2.2.2.2.2.1.length),(vb c.2.1),(vi c.2.2.1),(TLa.d c.2.2.2.1),(vi c.2.2.2.2.1)]))),(3,(eS 7 TTr.e c.2.2.2.2.2.1)),(4,(eS 1 (DV.i .i64) c.2.2.2.2.2.2))]) (f.1,f.2.1,f.2.2.1,f.2.2.2.1,f.2.2.2.2.1,f.2.2.2.2.2,([]:List Int)) (S_q19_b1 h) (fun c => 
.guard [c.2.2.2.2.2.2.length<2 ^ 63]<|
.reg 18 [] [] []<|
.frz 4 (.ev 0) none [5] []<|
.ret [.pf (p:=LeV (AV.tup [(vp 2),(vl c.2.2.2.2.2.2),(vi 0)]) (AV.tup [AV.bot,(vl c.2.2.2.2.2.2),(vi 0)])) (LeV.tup (LeVs.cons z4a (LeVs.cons (LeV.refl _) (LeVs.cons (LeV.refl _) LeVs.nil))))] (c.2.2.2.2.2.2,0)) id))
def F_q19 (a:TLa) (b:(List TTr)):=(S_q19 a b).den
theorem F_q19_ok {a:TLa} {b:(List TTr)}:FO (F_q19 a b) 28 [(TLa.d a),(AV.d (eL TTr.e b))] [] (fun x=>(AV.tup [AV.bot,(vl x.1),(vi x.2)])) NL:=fO (s:=S_q19 a b) Tryz.func28
abbrev R_q2a:=(List Int)×Int
def S_q2a (c:TLa) (d:(List TTr)):SC R_q2a R_q2a :=
.a 1 2 1 (@F_q19_ok c d) fun b=>
.r (b.1,b.2)
def F_q2a (a:TLa) (b:(List TTr)):=(S_q2a a b).den
theorem F_q2a_ok {a:TLa} {b:(List TTr)}:FO (F_q2a a b) 14 [(TLa.d a),(AV.d (eL TTr.e b))] [] (fun x=>(AV.tup [(vl x.1),(vi x.2)])) NL:=fO (s:=S_q2a a b) Tryz.func14
def S_q2b:SC Bool Bool :=
.call (@F_q3p_ok) fun l g=>
 let m:=(⟨1,0,0,1,[49,46,49],[50],50⟩:TTr)
 let b:=([m,(⟨2,0,0,1,[49,46,49],[50],1⟩:TTr)]:List TTr)
.call (@F_q2a_ok l b) fun a h=>
.reg 1 [] [(0,hc g [] true),(3,hv (AV.d (eL TTr.e b))),(4,hc h [] true)] [.cl 1 g [] 0 true,.pf (z5 TTr.e b),.cl 0 h [] 0 true]<|
.call (@F_q3p_ok) fun n i=>
.call (@F_q1v_ok n ([]) (⟨1,0,0,1,[49,46,49],[50],0⟩:TTr)) fun j k=>
.reg 2 [] [(0,hc i [] true),(2,hc k [] true)] [.cl 1 i [] 0 true,.cl 0 k [] 0 true]<|
 let c:=(bif (a.2==0) then ((a.1.length:Int)==2) else false)
 let f:=(bif c then ((a.1.getD 0 dF)==0) else false)
.guard [AllP [c=true]->(0<a.1.length),AllP [f=true]->(1<a.1.length)]<|
.reg 3 [] [] [.pf (p:=AllP [c=true]->((0:Int)<=0)) (fun _=>dk),.ev 0,.pf (p:=AllP [f=true]->((0:Int)<=1)) (fun _=>dk),.ev 1]<|
.r (bif (bif (bif f then ((a.1.getD 1 dF)==13) else false) then (j.2==0) else false) then (j.1==50) else false)
def F_q2b:=S_q2b.den
theorem F_q2b_ok :FO F_q2b 15 [] [] vb NL:=fO (s:=S_q2b) Tryz.func15
def S_qt_b1 (t:R_q0) (a:R_qb) (i:(Int×Int)) (n:Nat) (f:TTr):SC Bool (Step TTr Bool) :=
.reg 12 [] [] [.w n,.ev 0]<|
 let j:=(([i.1,(i64.wrap (i.1+1)),1]:List Int).getD n dF)
 let q:=(⟨f.F,f.I,f.D,f.U,f.L,f.V,j⟩:TTr)
 let b:=([q]:List TTr)
.call (@F_q3a_ok t.1 (a.1++b)) fun g s=>
.guard [a.1.length * (2 * 72)<=2 ^ 48,(a.1.length+1) * (2 * 72)<=2 ^ 48]<|
.reg 14 [3,6] [(3,{ h:=.obj }),(5,hv (AV.d (eL TTr.e b))),(6,{ cast:=some (AV.ref 3 ((a.1++b).length) 0 ((a.1++b).length)),obs:=[(3,(eS 7 TTr.e (a.1++b)))] }),(7,hc s [3] true)] [.pf (p:=∀ k,k<a.1.length->(TTr.d (a.1.getD k dF)).wd=7) (fun _ _=>rfl),.ev 0,.pf (z5 TTr.e b),.pf (z5 TTr.e b),.e a.1.length,.e a.1.length,.pf (p:=∀ k,k<1->(TTr.d (b.getD k dF)).wd=7) (fun _ _=>rfl),.ev 1,.pf (zg (o:=3) (l:=a.1) (x:=b)),.pf (zf (sz:=7) (e:=TTr.e) (l:=a.1) (x:=b)),.cl 2 s [3] 4 true]<|
 let m:=(cO (g.2 != 0) ((g.1.length:Int) != (i64.wrap ((a.1.length:Int)+1))))
.guard [AllP [m=false]->(a.1.length<g.1.length)]<|
.reg 15 [] [] [.pf (p:=AllP [m=false]->((0:Int)<=(a.1.length:Int))) (fun _=>(y3t _)),.ev 0]<|
.ite (cO m (!(((g.1.getD a.1.length dF)==0)==(bif (decide (j>=1)) then (decide (j<=i.1)) else false)))) (
.r (.ret false)) (
.c q)
def S_qt (K:(List Int)):SC Bool Bool :=
.call (@F_q2c_ok K) fun C D=>
.k 1 1 D [] 0 false<|
.call (@F_q0_ok C) fun c w=>
.reg 2 [] [(1,hc w [0] false),(2,{ obs:=[(1,(TLa.b (⟨0,0,[],[],[],[],[],[],[],[]⟩:TLa)))] })] [.cl 0 w [0] 1 false,.pf cz2]<|
.call (@F_qb_ok c.1 5 c.2) fun f F=>
.k 3 2 F [0] 2 false<|
 let x:=[(3,(vp 0)),(4,(vp 1)),(5,(AV.d (eL TTr.e f.1)))]
.sh (H:=NoH) (A:=True) (.pf trivial) x x [(TTape.b f.2),(TLa.b c.1)] [(TTape.b f.2),(TLa.b c.1),Ob.unb] (fun _=>z4z) (z3g _)<|
.call (@F_q1l_ok 1 3 f.2) fun q s=>
.call (@F_qu_ok c.1.E q.2) fun t u=>
.call (@F_qu_ok c.1.E t.2) fun j l=>
.reg 4 [11,15,19,21,22] [(11,hc s [0] false),(15,hc u [0] false),(19,hc l [0] false),(21,{ h:=.born 2 false })] [.cl 2 s [0] 3 false,.cl 2 s [0] 3 false,.cl 1 u [0] 3 false,.cl 1 u [0] 3 false,.cl 0 l [0] 3 false,.cl 0 l [0] 3 false]<|
.cut none [4,5,6] (fun (_:TTape×TTr)=>[]) (fun g=>[(0,(TTape.b g.1)),(2,(TTr.b g.2))]) (
 let y:=(i64.wrap ((i64.wrap (c.1.G+c.1.H))-1))
.ite (decide ((f.1.length:Int)>0)) (
.call (@F_q1_ok 20 j.2) fun n o=>
 let v:=(i64.wrap ((f.1.length:Int)-1))
.guard [(0:Int)<=v,v.toNat<f.1.length]<|
.reg 6 [8,11] [(8,hc o [0] false)] [.ev 0,.ev 1,.ev 0,.ev 1,.cl 2 o [0] 3 false]<|
.r (.next (n.2,(⟨90,(i64.wrap (((f.1.getD v.toNat dF).I)+n.1)),y,q.1,t.1,j.1,0⟩:TTr)))) (
.r (.next (j.2,(⟨90,(i64.wrap ((i64.wrap (360 * c.1.G))+400)),y,q.1,t.1,j.1,0⟩:TTr))))) fun g=>
.a 7 3 3 (@F_q1v_ok c.1 f.1 g.2) fun m=>
.ite (cO (m.2 != 0) (decide (m.1<0))) (
.r false) (
 let z:=([m.1,(i64.wrap (m.1+1)),1]:List Int)
.reg 10 [] [(3,hv (vl z))] [.pf (z5 (DV.i .i64) z)]<|
.range 3 3 rfl (.why (.pf (p:=3<2 ^ 63) dk)) 73 [4,5,6,7,71,72] (fun (_:TTr)=>[]) (fun J=>[(2,(TTr.b J))]) g.2 (S_qt_b1 c f m) (fun _ => 
.a 18 0 3 (@F_q2b_ok) fun B=>
.r B) id)
def F_qt (a:(List Int)):=(S_qt a).den
theorem F_qt_ok {a:(List Int)}:FO (F_qt a) 3 [(vl a)] [] vb NL:=fO (s:=S_qt a) Tryz.func3
end
end Go.Proofs.YtljnmhapbonmfaaGreatDoor
/- What the functions compute,and that their calls return it. No condition. -/
namespace Go.Proofs.YtljnmhapbonmfaaGreatDoor
open Go Go.TA
open Go.IntKind (i64)
noncomputable section
set_option maxRecDepth 100000
end
end Go.Proofs.YtljnmhapbonmfaaGreatDoor
/- What the functions compute,and that their calls return it. No condition. -/
namespace Go.Proofs.YtljnmhapbonmfaaGreatDoor
open Go Go.TA
open Go.IntKind (i64)
noncomputable section
set_option maxRecDepth 100000
end
end Go.Proofs.YtljnmhapbonmfaaGreatDoor
