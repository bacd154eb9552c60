/- A part of the proof: what the functions compute, and that their calls return it. No condition. -/
import Derived.Test.YtljnmhapbonmfaaGreatDoorG3
/- What the functions compute, and that their calls return it. No condition. -/
namespace Go.Proofs.YtljnmhapbonmfaaGreatDoor
open Go Go.TA
open Go.IntKind (i64)
noncomputable section
set_option maxRecDepth 100000
set_option maxHeartbeats 2000000
def S_q4i (a:(List TEa)):SC (List TEa) (List TEa) :=
.reg 0 [] [] []<|
 let b:=(AV.d (eL TEa.e a))
.nils 0 (
.guard [(0+a.length) * (2 * 40)<=2 ^ 48]<|
.reg 1 [] [] []<|
.lev 0 b (.pf (lvQ true a.length fun j=>(TEa.e (a.getD j dF))))<|
.br true (.pf (p:=true=true) rfl)<|
.reg 2 [] [] []<|
.lev 2 b (.der (fun (h:a.length=0)=>lvZ TEa.e a h) 1)<|
.r a) (
.reg 1 [] [] []<|
.lev 0 b (.pf (lvQ false a.length fun j=>(TEa.e (a.getD j dF))))<|
.br false (.pf (p:=false=false) rfl)<|
.guard [(0+a.length) * (2 * 40)<=2 ^ 48]<|
.reg 3 [] [(2,hv b)] [.pf (p:=∀ k,k<a.length->AV.d (TEa.e (a.getD k dF))=AV.d (TEa.e (a.getD k dF))/\(TEa.e (a.getD k dF)).wd=3) (fun _ _=>⟨rfl,rfl⟩),.pf cz6,.ev 0,.pf (z3a (e:=TEa.e) (x:=a))]<|
.r a)
def F_q4i (a:(List TEa)):=(S_q4i a).den
theorem F_q4i_ok {a:(List TEa)}:FO (F_q4i a) 153 [(AV.d (eL TEa.e a))] [] (fun x=>(AV.d (eL TEa.e x))) NL:=fO (s:=S_q4i a) Tryz.func153
theorem cz7:∀ k,k<0->(DV.b false).wd=7:=fun _ h=>absurd h (y59 _)
def S_q4j (a:(List TCo)):SC (List TCo) (List TCo) :=
.reg 0 [] [] []<|
 let b:=(AV.d (eL TCo.e a))
.nils 0 (
.guard [(0+a.length) * (2 * 72)<=2 ^ 48]<|
.reg 1 [] [] []<|
.lev 0 b (.pf (lvQ true a.length fun j=>(TCo.e (a.getD j dF))))<|
.br true (.pf (p:=true=true) rfl)<|
.reg 2 [] [] []<|
.lev 2 b (.der (fun (h:a.length=0)=>lvZ TCo.e a h) 1)<|
.r a) (
.reg 1 [] [] []<|
.lev 0 b (.pf (lvQ false a.length fun j=>(TCo.e (a.getD j dF))))<|
.br false (.pf (p:=false=false) rfl)<|
.guard [(0+a.length) * (2 * 72)<=2 ^ 48]<|
.reg 3 [] [(2,hv b)] [.pf (p:=∀ k,k<a.length->AV.d (TCo.e (a.getD k dF))=AV.d (TCo.e (a.getD k dF))/\(TCo.e (a.getD k dF)).wd=7) (fun _ _=>⟨rfl,rfl⟩),.pf cz7,.ev 0,.pf (z3a (e:=TCo.e) (x:=a))]<|
.r a)
def F_q4j (a:(List TCo)):=(S_q4j a).den
theorem F_q4j_ok {a:(List TCo)}:FO (F_q4j a) 154 [(AV.d (eL TCo.e a))] [] (fun x=>(AV.d (eL TCo.e x))) NL:=fO (s:=S_q4j a) Tryz.func154
theorem cz8:∀ k,k<0->(DV.b false).wd=4:=fun _ h=>absurd h (y59 _)
def S_q4k (a:(List TRu)):SC (List TRu) (List TRu) :=
.reg 0 [] [] []<|
 let b:=(AV.d (eL TRu.e a))
.nils 0 (
.guard [(0+a.length) * (2 * 48)<=2 ^ 48]<|
.reg 1 [] [] []<|
.lev 0 b (.pf (lvQ true a.length fun j=>(TRu.e (a.getD j dF))))<|
.br true (.pf (p:=true=true) rfl)<|
.reg 2 [] [] []<|
.lev 2 b (.der (fun (h:a.length=0)=>lvZ TRu.e a h) 1)<|
.r a) (
.reg 1 [] [] []<|
.lev 0 b (.pf (lvQ false a.length fun j=>(TRu.e (a.getD j dF))))<|
.br false (.pf (p:=false=false) rfl)<|
.guard [(0+a.length) * (2 * 48)<=2 ^ 48]<|
.reg 3 [] [(2,hv b)] [.pf (p:=∀ k,k<a.length->AV.d (TRu.e (a.getD k dF))=AV.d (TRu.e (a.getD k dF))/\(TRu.e (a.getD k dF)).wd=4) (fun _ _=>⟨rfl,rfl⟩),.pf cz8,.ev 0,.pf (z3a (e:=TRu.e) (x:=a))]<|
.r a)
def F_q4k (a:(List TRu)):=(S_q4k a).den
theorem F_q4k_ok {a:(List TRu)}:FO (F_q4k a) 155 [(AV.d (eL TRu.e a))] [] (fun x=>(AV.d (eL TRu.e x))) NL:=fO (s:=S_q4k a) Tryz.func155
def S_q4l (a:(List TCh)):SC (List TCh) (List TCh) :=
.reg 0 [] [] []<|
 let b:=(AV.d (eL TCh.e a))
.nils 0 (
.guard [(0+a.length) * (2 * 40)<=2 ^ 48]<|
.reg 1 [] [] []<|
.lev 0 b (.pf (lvQ true a.length fun j=>(TCh.e (a.getD j dF))))<|
.br true (.pf (p:=true=true) rfl)<|
.reg 2 [] [] []<|
.lev 2 b (.der (fun (h:a.length=0)=>lvZ TCh.e a h) 1)<|
.r a) (
.reg 1 [] [] []<|
.lev 0 b (.pf (lvQ false a.length fun j=>(TCh.e (a.getD j dF))))<|
.br false (.pf (p:=false=false) rfl)<|
.guard [(0+a.length) * (2 * 40)<=2 ^ 48]<|
.reg 3 [] [(2,hv b)] [.pf (p:=∀ k,k<a.length->AV.d (TCh.e (a.getD k dF))=AV.d (TCh.e (a.getD k dF))/\(TCh.e (a.getD k dF)).wd=4) (fun _ _=>⟨rfl,rfl⟩),.pf cz8,.ev 0,.pf (z3a (e:=TCh.e) (x:=a))]<|
.r a)
def F_q4l (a:(List TCh)):=(S_q4l a).den
theorem F_q4l_ok {a:(List TCh)}:FO (F_q4l a) 156 [(AV.d (eL TCh.e a))] [] (fun x=>(AV.d (eL TCh.e x))) NL:=fO (s:=S_q4l a) Tryz.func156
def S_q1e_b1 (n:TLa) (j:Nat) (f:Int×Int×(List THe)×(List TLi)×(List TBo)×(List TBo)×(List TEa)×(List TCo)×(List TRu)×(List TAm)):SC TLa (Step (Int×Int×(List THe)×(List TLi)×(List TBo)×(List TBo)×(List TEa)×(List TCo)×(List TRu)×(List TAm)) TLa) :=
.reg 7 [] [(2,{ obs:=[(3,(TAm.b (⟨0,0,[]⟩:TAm)))] })] [.w j,.ev 0,.pf cz3]<|
 let i:=(n.A.getD j dF)
.a 8 2 4 (@F_q4l_ok i.M) fun m=>
.guard [(f.2.2.2.2.2.2.2.2.2.length+1) * (2 * 40)<=2 ^ 48]<|
 let g:=([(⟨i.H,i.F,m⟩:TAm)]:List TAm)
 let h:=(f.2.2.2.2.2.2.2.2.2++g)
.reg 9 [] [(3,hv (AV.d (eL TAm.e g))),(4,{ cast:=some (AV.ref 2 h.length 0 h.length),obs:=[(2,(eS 3 TAm.e h))] })] [.pf (z5 TAm.e g),.e f.2.2.2.2.2.2.2.2.2.length,.e f.2.2.2.2.2.2.2.2.2.length,.pf (p:=∀ k,k<1->(TAm.d (g.getD k dF)).wd=3) (fun _ _=>rfl),.ev 0,.pf (zh (o:=2) (l:=f.2.2.2.2.2.2.2.2.2) (x:=g)),.pf (zg (sz:=3) (e:=TAm.e) (l:=f.2.2.2.2.2.2.2.2.2) (x:=g))]<|
.c (f.1,f.2.1,f.2.2.1,f.2.2.2.1,f.2.2.2.2.1,f.2.2.2.2.2.1,f.2.2.2.2.2.2.1,f.2.2.2.2.2.2.2.1,f.2.2.2.2.2.2.2.2.1,h)
def S_q1e (c:TLa):SC TLa TLa :=
 let i:=(TLa.b (⟨0,0,[],[],[],[],[],[],[],[]⟩:TLa))
.reg 0 [] [(1,{ obs:=[(1,i)] })] [.pf cz2]<|
.call (@F_q4g_ok c.E) fun l s=>
.call (@F_q4h_ok c.P) fun m t=>
.call (@F_q3v_ok c.S) fun n u=>
.call (@F_q3v_ok c.U) fun o v=>
.reg 1 [13,15,17,19] [(2,hc s [] true),(5,hc t [] true),(8,hc u [] true),(11,hc v [] true)] [.cl 3 s [] 2 true,.cl 2 t [] 2 true,.cl 1 u [] 2 true,.cl 0 v [] 2 true]<|
.call (@F_q4i_ok c.L) fun p w=>
.call (@F_q4j_ok c.O) fun q x=>
.call (@F_q4k_ok c.I) fun g h=>
.reg 2 [10,12,14] [(2,hc w [] true),(5,hc x [] true),(8,hc h [] true)] [.cl 2 w [] 2 true,.cl 1 x [] 2 true,.cl 0 h [] 2 true]<|
.reg 4 [] [] []<|
 let y:=[(1,(vp 0)),(2,(vp 1)),(3,(AV.d (eL TAm.e c.A)))]
.sh (A:=True) (.pf trivial) y y [(Ob.box (AV.agg [(vi c.G),(vi c.J),(AV.d (eL THe.e l)),(AV.d (eL TLi.e m)),(AV.d (eL TBo.e n)),(AV.d (eL TBo.e o)),(AV.d (eL TEa.e p)),(AV.d (eL TCo.e q)),(AV.d (eL TRu.e g)),(AV.full 0 fun _=>DV.b false)])),i] [(Ob.box (AV.agg [(vi c.G),(vi c.J),(AV.d (eL THe.e l)),(AV.d (eL TLi.e m)),(AV.d (eL TBo.e n)),(AV.d (eL TBo.e o)),(AV.d (eL TEa.e p)),(AV.d (eL TCo.e q)),(AV.d (eL TRu.e g)),(AV.ref 2 0 0 0)])),i,(eS 3 TAm.e ([]:List TAm))] (fun _=>(z1o (sz:=3) (f:=fun j=>AV.d (TAm.e (([]:List TAm).getD j dF))) (.box _ _ _ _ _ (ya rfl) (TrV.agg (TrL.cons (TrV.keep _) (TrL.cons (TrV.keep _) (TrL.cons (TrV.keep _) (TrL.cons (TrV.keep _) (TrL.cons (TrV.keep _) (TrL.cons (TrV.keep _) (TrL.cons (TrV.keep _) (TrL.cons (TrV.keep _) (TrL.cons (TrV.keep _) (TrL.cons TrV.born TrL.nil))))))))))) (.keep _ _ _ _ (ya rfl) (.nil _))))) (z11 (k:=0) rfl (TrS.keep _) (z11 (k:=1) rfl (TrS.keep _) (z11 (k:=2) rfl (TrS.keep _) z22)))<|
.range (c.A.length:Int) c.A.length rfl (.slot 37) 39 [1,2,37,38] (fun (_:Int×Int×(List THe)×(List TLi)×(List TBo)×(List TBo)×(List TEa)×(List TCo)×(List TRu)×(List TAm))=>[]) (fun a=>[(0,(Ob.box (AV.agg [(vi a.1),(vi a.2.1),(AV.d (eL THe.e a.2.2.1)),(AV.d (eL TLi.e a.2.2.2.1)),(AV.d (eL TBo.e a.2.2.2.2.1)),(AV.d (eL TBo.e a.2.2.2.2.2.1)),(AV.d (eL TEa.e a.2.2.2.2.2.2.1)),(AV.d (eL TCo.e a.2.2.2.2.2.2.2.1)),(AV.d (eL TRu.e a.2.2.2.2.2.2.2.2.1)),(AV.ref 2 a.2.2.2.2.2.2.2.2.2.length 0 a.2.2.2.2.2.2.2.2.2.length)]))),(2,(eS 3 TAm.e a.2.2.2.2.2.2.2.2.2))]) (c.G,c.J,l,m,n,o,p,q,g,([]:List TAm)) (S_q1e_b1 c) (fun a => 
.guard [a.2.2.2.2.2.2.2.2.2.length<2 ^ 63]<|
.reg 11 [] [] []<|
.frz 2 (.ev 0) none [] [0,1]<|
.r (⟨a.1,a.2.1,a.2.2.1,a.2.2.2.1,a.2.2.2.2.1,a.2.2.2.2.2.1,a.2.2.2.2.2.2.1,a.2.2.2.2.2.2.2.1,a.2.2.2.2.2.2.2.2.1,a.2.2.2.2.2.2.2.2.2⟩:TLa)) id
def F_q1e (a:TLa):=(S_q1e a).den
theorem F_q1e_ok {a:TLa}:FO (F_q1e a) 137 [(TLa.d a)] [] (fun x=>(TLa.d x)) NL:=fO (s:=S_q1e a) Tryz.func137
def S_q2t (a:TLi):SC TPl TPl :=
.r (⟨a.B,a.D⟩:TPl)
def F_q2t (a:TLi):=(S_q2t a).den
theorem F_q2t_ok {a:TLi}:FO (F_q2t a) 157 [(TLi.d a)] [] (fun x=>(TPl.d x)) NL:=fO (s:=S_q2t a) Tryz.func157
def S_q2u (h:TPl) (j:TPl):SC Int Int :=
.call (@F_q10_ok h.code j.code) fun e b=>
.call (@F_qm_ok h.year j.year) fun f c=>
 let a:=([e,f]:List Int)
.call (@F_qi_ok a) fun g d=>
.reg 1 [] [(4,hc b [] true),(9,hc c [] true),(10,hv (vl a)),(11,hc d [] true)] [.cl 2 b [] 2 true,.cl 1 c [] 2 true,.pf (z5 (DV.i .i64) a),.cl 0 d [] 2 true]<|
.r g
def F_q2u (a:TPl) (b:TPl):=(S_q2u a b).den
theorem F_q2u_ok {a:TPl} {b:TPl}:FO (F_q2u a b) 179 [(TPl.d a),(TPl.d b)] [] vi NL:=fO (s:=S_q2u a b) Tryz.func179
abbrev R_q12:=Int×Bool
def S_q12_b1 (g:TPl) (c:(List TPl)) (a:Int×Int):SC R_q12 (Step (Int×Int) R_q12) :=
.ite (decide (a.1<a.2)) (
.reg 4 [] [] [.pf (p:=(0:Int)<=1) dk]<|
 let b:=(i64.wrap ((IntKind.u64.wrap (i64.wrap (a.1+a.2))).fdiv (2 ^ (min (1:Int).toNat IntKind.u64.bits))))
.call (@F_q2u_ok (c.getD (0+b.toNat) dF) g) fun f d=>
.guard [(0:Int)<=b,b.toNat<c.length,(0+b.toNat)<c.length]<|
.reg 5 [] [(6,hc d [] true)] [.e c.length,.ev 0,.ev 1,.e c.length,.ev 2,.cl 3 d [] 2 true]<|
.ite (decide (f<0)) (
.r (.cont ((i64.wrap (b+1)),a.2))) (
.r (.cont (a.1,b)))) (
.r (.brk (a.1,a.2)))
def S_q12 (f:TPl) (c:(List TPl)):SC R_q12 R_q12 :=
.iter [0,2,4,8] (fun (a:Int×Int)=>[(9,(vi a.1)),(10,(vi a.2))]) (fun _=>[]) (0,(c.length:Int)) (S_q12_b1 f c) (fun a =>
 let b:=(decide (a.1<(c.length:Int)))
.calld [b=true] dF (@F_q2u_ok (c.getD (0+a.1.toNat) dF) f) fun e d =>
.guard [AllP [b=true]->((0:Int)<=a.1),AllP [b=true]->(a.1.toNat<c.length),AllP [b=true]->((0+a.1.toNat)<c.length)]<|
.reg 8 [] [(11,hc d [] true)] [.pf (p:=AllP [b=true]->(c.length=c.length)) (fun _=>rfl),.ev 0,.ev 1,.pf (p:=AllP [b=true]->(c.length=c.length)) (fun _=>rfl),.ev 2,.clg 3 [b=true] d [] 2 true]<|
.r (a.1,(bif b then (e==0) else false))) id
def F_q12 (a:TPl) (b:(List TPl)):=(S_q12 a b).den
theorem F_q12_ok {b:TPl} {a:(List TPl)}:FO (F_q12 b a) 178 [(AV.ref 0 a.length 0 a.length),(TPl.d b),(AV.fn 179 [])] [(eS 2 TPl.e a)] (fun x=>(AV.tup [(vi x.1),(vb x.2)])) (fun _=>[(eS 2 TPl.e a)]):=fO (s:=S_q12 b a) Tryz.func178
def S_q3w (a:(List TLi)):SC (List TLi) (List TLi) :=
.reg 0 [] [] []<|
.nils 0 (
.guard [a.length * (2 * 32)<=2 ^ 48]<|
.reg 1 [] [] []<|
.lev 0 (AV.d (eL TLi.e a)) (.pf (lvQ true a.length fun j=>(TLi.e (a.getD j dF))))<|
.br true (.pf (p:=true=true) rfl)<|
.reg 2 [] [] []<|
.bor 3 (fun j=>AV.d (TLi.e (a.getD j dF))) [2]<|
.cst (A:=a.length=0) (.ev 1) [(2,AV.ref 0 0 0 0)] [(2,(AV.ref 0 a.length 0 a.length))] [(Ob.seq 3 0 fun j=>AV.d (TLi.e (a.getD j dF)))] [(eS 3 TLi.e a)] (fun h=>⟨by rw[h],by unfold eS; rw[h]⟩)<|
.r a) (
.reg 1 [] [] []<|
.lev 0 (AV.d (eL TLi.e a)) (.pf (lvQ false a.length fun j=>(TLi.e (a.getD j dF))))<|
.br false (.pf (p:=false=false) rfl)<|
.guard [a.length * (2 * 32)<=2 ^ 48]<|
.reg 3 [] [(2,{ h:=.obj })] [.pf (p:=∀ k,k<a.length->(TLi.d (a.getD k dF)).wd=3) (fun _ _=>rfl),.ev 0]<|
.r a)
def F_q3w (a:(List TLi)):=(S_q3w a).den
theorem F_q3w_ok {a:(List TLi)}:FO (F_q3w a) 151 [(AV.d (eL TLi.e a))] [] (fun x=>(AV.ref 0 x.length 0 x.length)) (fun x=>[(eS 3 TLi.e x)]):=fO (s:=S_q3w a) Tryz.func151
def S_q3x (q:Int) (o:Int) (a:(List TLi)):SC (List TLi) (List TLi) :=
.guard [(0:Int)<=q,(0:Int)<=o,q.toNat<=o.toNat,o.toNat<=a.length]<|
.reg 1 [] [] [.ev 0,.ev 1,.ev 2,.ev 3,.e a.length,.pf (nn a.length),.ev 3,.pf (p:=a.length<=a.length) (y7 _)]<|
.ite (q==o) (
.guard [a.length<2 ^ 63]<|
.reg 3 [] [] []<|
.frz 0 (.ev 0) none [6] []<|
.r a) (
 let c:=(a.length-o.toNat)
 let f:=(q.toNat-0)
.guard [q.toNat<=a.length,f+c<=a.length]<|
 let g:=(0+o.toNat)
.reg 5 [6] [(6,{ h:=.imm,obs:=[(0,(eS 3 TLi.e (copyL a f c (fun i=>(a.getD (g+i) dF)))))] })] [.ev 3,.ev 0,.e a.length,.ev 4,.ev 6,.e a.length,.e a.length,.e a.length,.ev 1,.pf (p:=∀ k,k<c->(TLi.d (a.getD (g+k) dF)).wd=3) (fun _ _=>rfl),.pf (zcx (sz:=3) (e:=TLi.e) (l:=a) (off:=f) (k:=c) (s:=(fun i=>(a.getD (g+i) dF))))]<|
 let b:=(f+c)
 let t:=(7,(vi (a.length:Int)))
.cst (A:=True) (.pf trivial) [(0,(AV.ref 0 a.length 0 b)),t] [(0,(AV.ref 0 ((copyL a f c (fun i=>(a.getD (g+i) dF))).length) 0 b)),t] [(eS 3 TLi.e (copyL a f c (fun i=>(a.getD (g+i) dF))))] [(eS 3 TLi.e (copyL a f c (fun i=>(a.getD (g+i) dF))))] (fun _=>⟨by simp +zetaDelta only[zx],by rfl⟩)<|
.guard [b<=a.length,a.length<=(copyL a f c (fun i=>(a.getD (g+i) dF))).length]<|
 let j:=(⟨[],0,0⟩:TLi)
 let m:=(a.length-b)
.reg 6 [] [(5,{ obs:=[(0,(eS 3 TLi.e (clearL (copyL a f c (fun i=>(a.getD (g+i) dF))) (0+b) m j)))] })] [.w b,.pf (nn a.length),.ev 0,.ev 1,.pf (y2f ((copyL a f c (fun i=>(a.getD (g+i) dF))).length)),.pf (y2f ((copyL a f c (fun i=>(a.getD (g+i) dF))).length)),.pf (zbe (sz:=3) (e:=TLi.e) (l:=(copyL a f c (fun i=>(a.getD (g+i) dF)))) (off:=(0+b)) (n:=m) (z:=j))]<|
.cst (A:=True) (.pf trivial) [(0,(AV.ref 0 ((copyL a f c (fun i=>(a.getD (g+i) dF))).length) 0 b))] [(0,(AV.ref 0 ((clearL (copyL a f c (fun i=>(a.getD (g+i) dF))) (0+b) m j).length) 0 b))] [(eS 3 TLi.e (clearL (copyL a f c (fun i=>(a.getD (g+i) dF))) (0+b) m j))] [(eS 3 TLi.e (clearL (copyL a f c (fun i=>(a.getD (g+i) dF))) (0+b) m j))] (fun _=>⟨by simp +zetaDelta only[z1i,zx],by rfl⟩)<|
.guard [(clearL (copyL a f c (fun i=>(a.getD (g+i) dF))) (0+b) m j).length<2 ^ 63]<|
.reg 7 [] [] []<|
.guard [b<=(clearL (copyL a f c (fun i=>(a.getD (g+i) dF))) (0+b) m j).length]<|
.frz 0 (.ev 1) (some (.der (fun (h:b<=(clearL (copyL a f c (fun i=>(a.getD (g+i) dF))) (0+b) m j).length)=>(h:b<=(clearL (copyL a f c (fun i=>(a.getD (g+i) dF))) (0+b) m j).length)) 0)) [6] []<|
.lev 6 (AV.d (eL TLi.e ((clearL (copyL a f c (fun i=>(a.getD (g+i) dF))) (0+b) m j).take b))) (.der (fun (h:b<=(clearL (copyL a f c (fun i=>(a.getD (g+i) dF))) (0+b) m j).length)=>lvT TLi.e (clearL (copyL a f c (fun i=>(a.getD (g+i) dF))) (0+b) m j) h) 0)<|
.r ((clearL (copyL a f c (fun i=>(a.getD (g+i) dF))) (0+b) m j).take b))
def F_q3x (a:Int) (b:Int) (c:(List TLi)):=(S_q3x a b c).den
theorem F_q3x_ok {b:Int} {c:Int} {a:(List TLi)}:FO (F_q3x b c a) 180 [(AV.ref 0 a.length 0 a.length),(vi b),(vi c)] [(eS 3 TLi.e a)] (fun x=>(AV.d (eL TLi.e x))) (fun _=>[Ob.dead]):=fO (s:=S_q3x b c a) Tryz.func180
def V_q4q (x:(List TLi)):AV:=.ref 0 x.length 0 x.length
def L_q4q (a:List TLi) (x:(List TLi)):List Ob:=[eS 3 TLi.e x,eS 3 TLi.e a]
def F_q4q (a:Int) (b c:List TLi):Option (List TLi):=match c with
 | [y]=>guardP (0<=a/\a.toNat<=b.length/\(b.length+1) * (4 * 32)<=2 ^ 48) (some (insL b a.toNat y))
 | _=>none
theorem F_q4q_ok {c:Int} {f b:List TLi} (r:(List TLi)) (h:F_q4q c f b=some r):CallOk Tryz.prog 181 [(AV.ref 0 f.length 0 f.length),(AV.d (.i .i64 c)),(AV.ref 1 b.length 0 b.length)] [(eS 3 TLi.e f),(eS 3 TLi.e b)] (V_q4q r) (L_q4q b r):=by
 unfold F_q4q at h
 split at h
 ·rename_i y
  obtain⟨⟨h1,h2,h3⟩,h⟩:=z2f h
  obtain rfl:=yx h
  obtain⟨i,rfl⟩:∃ i:Nat,c=(i:Int):=⟨c.toNat,(y5d h1).symm⟩
  exact InsG.ins_ok .a (fun _=>rfl) h2 h3
 ·cases h
abbrev R_q1z:=(List TLi)
def S_q1z_b1 (a0_0:(List TLi)) (f:Nat) (a:(List TPl)):SC R_q1z (Step ((List TPl)) R_q1z) :=
.reg 4 [] [] [.w f,.ev 0]<|
.call (@F_q2t_ok (a0_0.getD f dF)) fun i g=>
.guard [(a.length+1) * (2 * 24)<=2 ^ 48]<|
 let b:=([i]:List TPl)
.reg 5 [] [(4,hc g [] true),(5,hv (AV.d (eL TPl.e b))),(6,{ h:=.obj,cast:=some (AV.ref 2 ((a++b).length) 0 ((a++b).length)),obs:=[(2,(eS 2 TPl.e (a++b)))] })] [.cl 1 g [] 4 true,.pf (z5 TPl.e b),.e a.length,.e a.length,.pf (p:=∀ k,k<1->(TPl.d (b.getD k dF)).wd=2) (fun _ _=>rfl),.ev 0,.pf (zh (o:=2) (l:=a) (x:=b)),.pf (zg (sz:=2) (e:=TPl.e) (l:=a) (x:=b))]<|
.c (a++b)
def S_q1z (a0_0:(List TLi)) (o:TLi) (B:Bool):SC R_q1z R_q1z :=
.reg 2 [] [] []<|
.bor 2 (fun j=>AV.d (TPl.e (([]:List TPl).getD j dF))) [7]<|
.range (a0_0.length:Int) a0_0.length rfl (.slot 14) 16 [2,3,4,14,15] (fun (f:(List TPl))=>[(7,(AV.ref 2 f.length 0 f.length))]) (fun f=>[(2,(eS 2 TPl.e f))]) ([]:List TPl) (S_q1z_b1 a0_0) (fun f => 
.call (@F_q2t_ok o) fun v p=>
.call (@F_q12_ok v f) fun c q=>
.reg 7 [] [(4,hc p [] true),(5,hc q [2] true)] [.cl 1 p [] 3 true,.cl 0 q [2] 3 true]<|
.call (@F_q3w_ok a0_0) fun a w=>
.k 8 2 w [] 3 false<|
.ite (bif B then c.2 else false) (
.call (@F_q3x_ok c.1 (i64.wrap (c.1+1)) a) fun y z=>
.k 10 4 z [3] 4 false<|
.r y) (
.ite B (
.guard [a.length<2 ^ 63]<|
.reg 12 [] [] []<|
.frz 3 (.ev 0) none [6] []<|
.r a) (
.ite c.2 (
 let m:=(0+c.1.toNat)
.guard [(0:Int)<=c.1,c.1.toNat<a.length,m<a.length]<|
 let g:=(a.set m o)
.reg 14 [] [(4,{ obs:=[(3,(eS 3 TLi.e g))] })] [.e a.length,.ev 0,.ev 1,.e a.length,.ev 2,.pf (zab (sz:=3) (e:=TLi.e) (l:=a) (i:=m) (x:=o) (fun _=>rfl))]<|
 let s:=[(Ob.box (AV.agg [(AV.d (eL TLi.e a0_0)),(AV.fn 157 [])])),(TLi.b o),(eS 2 TPl.e f),(eS 3 TLi.e g)]
.cst (A:=True) (.pf trivial) [(12,(AV.ref 3 a.length 0 a.length))] [(12,(AV.ref 3 g.length 0 g.length))] s s (fun _=>⟨Zb,by rfl⟩)<|
.guard [g.length<2 ^ 63]<|
.reg 15 [] [] []<|
.frz 3 (.ev 0) none [6] []<|
.r g) (
 let n:=([o]:List TLi)
.call (@F_q4q_ok c.1 a n) fun t u=>
.reg 16 [] [(3,{ h:=.obj,obs:=[(4,(eS 3 TLi.e n))] }),(4,hc u [3,4] false)] [.pf (z60 (sz:=3) (e:=TLi.e) (l:=n)),.cl 0 u [3,4] 5 false]<|
.guard [t.length<2 ^ 63]<|
.frz 3 (.ev 0) none [6] []<|
.r t)))) id
def F_q1z (a0_0:(List TLi)) (a:TLi) (b:Bool):=(S_q1z a0_0 a b).den
theorem F_q1z_ok {a0_0:(List TLi)} {a:TLi} {b:Bool}:FO (F_q1z a0_0 a b) 158 [(AV.agg [(AV.d (eL TLi.e a0_0)),(AV.fn 157 [])]),(TLi.d a),(vb b)] [] (fun x=>(AV.d (eL TLi.e x))) NL:=fO (s:=S_q1z a0_0 a b) Tryz.func158
def S_q2v (a:TBo):SC TPl TPl :=
.r (⟨a.B,a.D⟩:TPl)
def F_q2v (a:TBo):=(S_q2v a).den
theorem F_q2v_ok {a:TBo}:FO (F_q2v a) 159 [(TBo.d a)] [] (fun x=>(TPl.d x)) NL:=fO (s:=S_q2v a) Tryz.func159
def S_q3y (a:(List TBo)):SC (List TBo) (List TBo) :=
.reg 0 [] [] []<|
.nils 0 (
.guard [a.length * (2 * 32)<=2 ^ 48]<|
.reg 1 [] [] []<|
.lev 0 (AV.d (eL TBo.e a)) (.pf (lvQ true a.length fun j=>(TBo.e (a.getD j dF))))<|
.br true (.pf (p:=true=true) rfl)<|
.reg 2 [] [] []<|
.bor 3 (fun j=>AV.d (TBo.e (a.getD j dF))) [2]<|
.cst (A:=a.length=0) (.ev 1) [(2,AV.ref 0 0 0 0)] [(2,(AV.ref 0 a.length 0 a.length))] [(Ob.seq 3 0 fun j=>AV.d (TBo.e (a.getD j dF)))] [(eS 3 TBo.e a)] (fun h=>⟨by rw[h],by unfold eS; rw[h]⟩)<|
.r a) (
.reg 1 [] [] []<|
.lev 0 (AV.d (eL TBo.e a)) (.pf (lvQ false a.length fun j=>(TBo.e (a.getD j dF))))<|
.br false (.pf (p:=false=false) rfl)<|
.guard [a.length * (2 * 32)<=2 ^ 48]<|
.reg 3 [] [(2,{ h:=.obj })] [.pf (p:=∀ k,k<a.length->(TBo.d (a.getD k dF)).wd=3) (fun _ _=>rfl),.ev 0]<|
.r a)
def F_q3y (a:(List TBo)):=(S_q3y a).den
theorem F_q3y_ok {a:(List TBo)}:FO (F_q3y a) 152 [(AV.d (eL TBo.e a))] [] (fun x=>(AV.ref 0 x.length 0 x.length)) (fun x=>[(eS 3 TBo.e x)]):=fO (s:=S_q3y a) Tryz.func152
def S_q3z (q:Int) (o:Int) (a:(List TBo)):SC (List TBo) (List TBo) :=
.guard [(0:Int)<=q,(0:Int)<=o,q.toNat<=o.toNat,o.toNat<=a.length]<|
.reg 1 [] [] [.ev 0,.ev 1,.ev 2,.ev 3,.e a.length,.pf (nn a.length),.ev 3,.pf (p:=a.length<=a.length) (y7 _)]<|
.ite (q==o) (
.guard [a.length<2 ^ 63]<|
.reg 3 [] [] []<|
.frz 0 (.ev 0) none [6] []<|
.r a) (
 let c:=(a.length-o.toNat)
 let f:=(q.toNat-0)
.guard [q.toNat<=a.length,f+c<=a.length]<|
 let g:=(0+o.toNat)
.reg 5 [6] [(6,{ h:=.imm,obs:=[(0,(eS 3 TBo.e (copyL a f c (fun i=>(a.getD (g+i) dF)))))] })] [.ev 3,.ev 0,.e a.length,.ev 4,.ev 6,.e a.length,.e a.length,.e a.length,.ev 1,.pf (p:=∀ k,k<c->(TBo.d (a.getD (g+k) dF)).wd=3) (fun _ _=>rfl),.pf (zcx (sz:=3) (e:=TBo.e) (l:=a) (off:=f) (k:=c) (s:=(fun i=>(a.getD (g+i) dF))))]<|
 let b:=(f+c)
 let t:=(7,(vi (a.length:Int)))
.cst (A:=True) (.pf trivial) [(0,(AV.ref 0 a.length 0 b)),t] [(0,(AV.ref 0 ((copyL a f c (fun i=>(a.getD (g+i) dF))).length) 0 b)),t] [(eS 3 TBo.e (copyL a f c (fun i=>(a.getD (g+i) dF))))] [(eS 3 TBo.e (copyL a f c (fun i=>(a.getD (g+i) dF))))] (fun _=>⟨by simp +zetaDelta only[zx],by rfl⟩)<|
.guard [b<=a.length,a.length<=(copyL a f c (fun i=>(a.getD (g+i) dF))).length]<|
 let j:=(⟨[],0,0⟩:TBo)
 let m:=(a.length-b)
.reg 6 [] [(5,{ obs:=[(0,(eS 3 TBo.e (clearL (copyL a f c (fun i=>(a.getD (g+i) dF))) (0+b) m j)))] })] [.w b,.pf (nn a.length),.ev 0,.ev 1,.pf (y2f ((copyL a f c (fun i=>(a.getD (g+i) dF))).length)),.pf (y2f ((copyL a f c (fun i=>(a.getD (g+i) dF))).length)),.pf (zbe (sz:=3) (e:=TBo.e) (l:=(copyL a f c (fun i=>(a.getD (g+i) dF)))) (off:=(0+b)) (n:=m) (z:=j))]<|
.cst (A:=True) (.pf trivial) [(0,(AV.ref 0 ((copyL a f c (fun i=>(a.getD (g+i) dF))).length) 0 b))] [(0,(AV.ref 0 ((clearL (copyL a f c (fun i=>(a.getD (g+i) dF))) (0+b) m j).length) 0 b))] [(eS 3 TBo.e (clearL (copyL a f c (fun i=>(a.getD (g+i) dF))) (0+b) m j))] [(eS 3 TBo.e (clearL (copyL a f c (fun i=>(a.getD (g+i) dF))) (0+b) m j))] (fun _=>⟨by simp +zetaDelta only[z1i,zx],by rfl⟩)<|
.guard [(clearL (copyL a f c (fun i=>(a.getD (g+i) dF))) (0+b) m j).length<2 ^ 63]<|
.reg 7 [] [] []<|
.guard [b<=(clearL (copyL a f c (fun i=>(a.getD (g+i) dF))) (0+b) m j).length]<|
.frz 0 (.ev 1) (some (.der (fun (h:b<=(clearL (copyL a f c (fun i=>(a.getD (g+i) dF))) (0+b) m j).length)=>(h:b<=(clearL (copyL a f c (fun i=>(a.getD (g+i) dF))) (0+b) m j).length)) 0)) [6] []<|
.lev 6 (AV.d (eL TBo.e ((clearL (copyL a f c (fun i=>(a.getD (g+i) dF))) (0+b) m j).take b))) (.der (fun (h:b<=(clearL (copyL a f c (fun i=>(a.getD (g+i) dF))) (0+b) m j).length)=>lvT TBo.e (clearL (copyL a f c (fun i=>(a.getD (g+i) dF))) (0+b) m j) h) 0)<|
.r ((clearL (copyL a f c (fun i=>(a.getD (g+i) dF))) (0+b) m j).take b))
def F_q3z (a:Int) (b:Int) (c:(List TBo)):=(S_q3z a b c).den
theorem F_q3z_ok {b:Int} {c:Int} {a:(List TBo)}:FO (F_q3z b c a) 182 [(AV.ref 0 a.length 0 a.length),(vi b),(vi c)] [(eS 3 TBo.e a)] (fun x=>(AV.d (eL TBo.e x))) (fun _=>[Ob.dead]):=fO (s:=S_q3z b c a) Tryz.func182
def V_q4r (x:(List TBo)):AV:=.ref 0 x.length 0 x.length
def L_q4r (a:List TBo) (x:(List TBo)):List Ob:=[eS 3 TBo.e x,eS 3 TBo.e a]
def F_q4r (a:Int) (b c:List TBo):Option (List TBo):=match c with
 | [y]=>guardP (0<=a/\a.toNat<=b.length/\(b.length+1) * (4 * 32)<=2 ^ 48) (some (insL b a.toNat y))
 | _=>none
theorem F_q4r_ok {c:Int} {f a:List TBo} (r:(List TBo)) (h:F_q4r c f a=some r):CallOk Tryz.prog 183 [(AV.ref 0 f.length 0 f.length),(AV.d (.i .i64 c)),(AV.ref 1 a.length 0 a.length)] [(eS 3 TBo.e f),(eS 3 TBo.e a)] (V_q4r r) (L_q4r a r):=by
 unfold F_q4r at h
 split at h
 ·rename_i y
  obtain⟨⟨h1,h2,h3⟩,h⟩:=z2f h
  obtain rfl:=yx h
  obtain⟨i,rfl⟩:∃ i:Nat,c=(i:Int):=⟨c.toNat,(y5d h1).symm⟩
  exact InsG.ins_ok .b (fun _=>rfl) h2 h3
 ·cases h
abbrev R_q1f:=(List TBo)
def S_q1f_b1 (a0_0:(List TBo)) (f:Nat) (a:(List TPl)):SC R_q1f (Step ((List TPl)) R_q1f) :=
.reg 4 [] [] [.w f,.ev 0]<|
.call (@F_q2v_ok (a0_0.getD f dF)) fun i g=>
.guard [(a.length+1) * (2 * 24)<=2 ^ 48]<|
 let b:=([i]:List TPl)
.reg 5 [] [(4,hc g [] true),(5,hv (AV.d (eL TPl.e b))),(6,{ h:=.obj,cast:=some (AV.ref 2 ((a++b).length) 0 ((a++b).length)),obs:=[(2,(eS 2 TPl.e (a++b)))] })] [.cl 1 g [] 4 true,.pf (z5 TPl.e b),.e a.length,.e a.length,.pf (p:=∀ k,k<1->(TPl.d (b.getD k dF)).wd=2) (fun _ _=>rfl),.ev 0,.pf (zh (o:=2) (l:=a) (x:=b)),.pf (zg (sz:=2) (e:=TPl.e) (l:=a) (x:=b))]<|
.c (a++b)
def S_q1f (a0_0:(List TBo)) (o:TBo) (B:Bool):SC R_q1f R_q1f :=
.reg 2 [] [] []<|
.bor 2 (fun j=>AV.d (TPl.e (([]:List TPl).getD j dF))) [7]<|
.range (a0_0.length:Int) a0_0.length rfl (.slot 14) 16 [2,3,4,14,15] (fun (f:(List TPl))=>[(7,(AV.ref 2 f.length 0 f.length))]) (fun f=>[(2,(eS 2 TPl.e f))]) ([]:List TPl) (S_q1f_b1 a0_0) (fun f => 
.call (@F_q2v_ok o) fun v p=>
.call (@F_q12_ok v f) fun c q=>
.reg 7 [] [(4,hc p [] true),(5,hc q [2] true)] [.cl 1 p [] 3 true,.cl 0 q [2] 3 true]<|
.call (@F_q3y_ok a0_0) fun a w=>
.k 8 2 w [] 3 false<|
.ite (bif B then c.2 else false) (
.call (@F_q3z_ok c.1 (i64.wrap (c.1+1)) a) fun y z=>
.k 10 4 z [3] 4 false<|
.r y) (
.ite B (
.guard [a.length<2 ^ 63]<|
.reg 12 [] [] []<|
.frz 3 (.ev 0) none [6] []<|
.r a) (
.ite c.2 (
 let m:=(0+c.1.toNat)
.guard [(0:Int)<=c.1,c.1.toNat<a.length,m<a.length]<|
 let g:=(a.set m o)
.reg 14 [] [(4,{ obs:=[(3,(eS 3 TBo.e g))] })] [.e a.length,.ev 0,.ev 1,.e a.length,.ev 2,.pf (zab (sz:=3) (e:=TBo.e) (l:=a) (i:=m) (x:=o) (fun _=>rfl))]<|
 let s:=[(Ob.box (AV.agg [(AV.d (eL TBo.e a0_0)),(AV.fn 159 [])])),(TBo.b o),(eS 2 TPl.e f),(eS 3 TBo.e g)]
.cst (A:=True) (.pf trivial) [(12,(AV.ref 3 a.length 0 a.length))] [(12,(AV.ref 3 g.length 0 g.length))] s s (fun _=>⟨Zb,by rfl⟩)<|
.guard [g.length<2 ^ 63]<|
.reg 15 [] [] []<|
.frz 3 (.ev 0) none [6] []<|
.r g) (
 let n:=([o]:List TBo)
.call (@F_q4r_ok c.1 a n) fun t u=>
.reg 16 [] [(3,{ h:=.obj,obs:=[(4,(eS 3 TBo.e n))] }),(4,hc u [3,4] false)] [.pf (z60 (sz:=3) (e:=TBo.e) (l:=n)),.cl 0 u [3,4] 5 false]<|
.guard [t.length<2 ^ 63]<|
.frz 3 (.ev 0) none [6] []<|
.r t)))) id
def F_q1f (a0_0:(List TBo)) (a:TBo) (b:Bool):=(S_q1f a0_0 a b).den
theorem F_q1f_ok {a0_0:(List TBo)} {a:TBo} {b:Bool}:FO (F_q1f a0_0 a b) 160 [(AV.agg [(AV.d (eL TBo.e a0_0)),(AV.fn 159 [])]),(TBo.d a),(vb b)] [] (fun x=>(AV.d (eL TBo.e x))) NL:=fO (s:=S_q1f a0_0 a b) Tryz.func160
def S_q40 (b:TCh) (a:TLa):SC TLa TLa :=
.ite (b.N==1) (
.call (@F_q1z_ok a.P (⟨b.B,b.D,b.C⟩:TLi) (b.C==0)) fun g c=>
.reg 4 [19] [(16,hc c [] true)] [.cl 0 c [] 3 true]<|
.r (⟨a.G,a.J,a.E,g,a.S,a.U,a.L,a.O,a.I,a.A⟩:TLa)) (
 let d:=(⟨b.B,b.D,b.C⟩:TBo)
.ite (b.N==2) (
.call (@F_q1f_ok a.S d (b.C==(-1))) fun h e=>
.reg 6 [13] [(10,hc e [] true)] [.cl 0 e [] 3 true]<|
.r (⟨a.G,a.J,a.E,a.P,h,a.U,a.L,a.O,a.I,a.A⟩:TLa)) (
.ite (b.N==3) (
.call (@F_q1f_ok a.U d (b.C==0)) fun i f=>
.reg 8 [13] [(10,hc f [] true)] [.cl 0 f [] 3 true]<|
.r (⟨a.G,a.J,a.E,a.P,a.S,i,a.L,a.O,a.I,a.A⟩:TLa)) (
.r a)))
def F_q40 (a:TCh) (b:TLa):=(S_q40 a b).den
theorem F_q40_ok {a:TCh} {c:TLa}:FO (F_q40 a c) 138 [(vp 0),(TCh.d a)] [(TLa.b c)] (fun _=>(AV.tup [])) (fun x=>[(TLa.b x)]):=fO (s:=S_q40 a c) Tryz.func138
theorem cz9:LeV (AV.d (DV.agg [(DV.i .i64 0),(DV.i .i64 0),Z0,Z0,Z0,Z0,Z0,Z0,Z0,Z0])) (TLa.d (⟨0,0,[],[],[],[],[],[],[],[]⟩:TLa)):=zaa rfl (DLe.agg (DLeL.cons (DLe.refl _) (DLeL.cons (DLe.refl _) (DLeL.cons DLe.sl0 (DLeL.cons DLe.sl0 (DLeL.cons DLe.sl0 (DLeL.cons DLe.sl0 (DLeL.cons DLe.sl0 (DLeL.cons DLe.sl0 (DLeL.cons DLe.sl0 (DLeL.cons DLe.sl0 DLeL.nil)))))))))))
def S_q13_b1 (b:(List TCh)) (a:Nat) (d:TLa):SC (TLa×Int) (Step TLa (TLa×Int)) :=
.guard [(0+a)<b.length]<|
.reg 4 [] [] [.e b.length,.w a,.ev 1,.e b.length,.ev 0]<|
.call (@F_q40_ok (b.getD (0+a) dF) d) fun f g=>
.k 5 1 g [1] 4 false<|
.c f
def S_q13 (h:TLa) (f:(List TCh)):SC (TLa×Int) (TLa×Int) :=
 let e:=(⟨0,0,[],[],[],[],[],[],[],[]⟩:TLa)
.reg 0 [] [(1,{ obs:=[(2,(TLa.b e))] })] [.pf cz2]<|
.a 1 1 3 (@F_q1e_ok h) fun g=>
.guard [f.length<2 ^ 63]<|
.range (f.length:Int) f.length rfl (.why (.ev 0)) 12 [2,4,10,11] (fun (_:TLa)=>[]) (fun c=>[(1,(TLa.b c))]) g (S_q13_b1 f) (fun c => 
.ite (cO (cO (decide ((c.P.length:Int)>120)) (decide ((c.S.length:Int)>60))) (decide ((c.U.length:Int)>60))) (
.reg 8 [] [(0,hv (TLa.d e))] [.pf cz9]<|
.r (e,3)) (
.r (c,0))) id
def F_q13 (a:TLa) (b:(List TCh)):=(S_q13 a b).den
theorem F_q13_ok {b:TLa} {a:(List TCh)}:FO (F_q13 b a) 114 [(TLa.d b),(AV.ref 0 a.length 0 a.length)] [(eS 4 TCh.e a)] (fun x=>(AV.tup [(TLa.d x.1),(vi x.2)])) (fun _=>[(eS 4 TCh.e a)]):=fO (s:=S_q13 b a) Tryz.func114
end
end Go.Proofs.YtljnmhapbonmfaaGreatDoor
/- What the functions compute,and that their calls return it. No condition. -/
namespace Go.Proofs.YtljnmhapbonmfaaGreatDoor
open Go Go.TA
open Go.IntKind (i64)
noncomputable section
set_option maxRecDepth 100000
abbrev R_q14:=TLa×Int
def S_q14_b1 (j:TLa) (i:Int) (g:Nat) (a:(List TCh)):SC R_q14 (Step ((List TCh)) R_q14) :=
.reg 12 [] [(2,{ obs:=[(4,(TAm.b (⟨0,0,[]⟩:TAm)))] })] [.w g,.ev 0,.pf cz3]<|
 let f:=(((j.A.take i.toNat).getD g dF).M)
.guard [(a.length+f.length) * (2 * 40)<=2 ^ 48]<|
.reg 13 [] [(3,{ h:=.obj,cast:=some (AV.ref 3 ((a++f).length) 0 ((a++f).length)),obs:=[(3,(eS 4 TCh.e (a++f)))] })] [.e a.length,.e a.length,.pf (p:=∀ k,k<f.length->(TCh.d (f.getD k dF)).wd=4) (fun _ _=>rfl),.ev 0,.pf (zh (o:=3) (l:=a) (x:=f)),.pf (zg (sz:=4) (e:=TCh.e) (l:=a) (x:=f))]<|
.c (a++f)
def S_q14 (f:TLa) (q:Int):SC R_q14 R_q14 :=
 let h:=(⟨0,0,[],[],[],[],[],[],[],[]⟩:TLa)
.reg 0 [] [(2,{ obs:=[(2,(TLa.b h))] })] [.pf cz2]<|
.a 1 1 3 (@F_q2i_ok f) fun l=>
 let m:=(0,hv (TLa.d h))
.ite (l != 0) (
.reg 3 [] [m] [.pf cz9]<|
.r (h,l)) (
.ite (cO (decide (q<0)) (decide (q>36000))) (
.reg 5 [] [m] [.pf cz9]<|
.r (h,2)) (
.call (@F_q1y_ok f.A q) fun n s=>
.k 6 3 s [1] 3 true<|
.cut none [2,4] (fun (c:Int)=>[(7,(vi c))]) (fun _=>[]) (
.ite (decide (n<0)) (
.r (.next (f.A.length:Int))) (
.r (.next n))) fun c=>
.guard [(0:Int)<=c,c.toNat<=f.A.length]<|
 let i:=c.toNat
.reg 10 [] [(4,hv (AV.d (eL TAm.e (f.A.take i))))] [.ev 0,.ev 1,.pf (p:=c=c) rfl,.der (fun (h0:c.toNat<=f.A.length)=>lvTF TAm.e f.A h0) 1]<|
.bor 4 (fun j=>AV.d (TCh.e (([]:List TCh).getD j dF))) [8]<|
.range ((f.A.take c.toNat).length:Int) ((f.A.take c.toNat).length) rfl (.slot 37) 39 [2,4,7,37,38] (fun (g:(List TCh))=>[(8,(AV.ref 3 g.length 0 g.length))]) (fun g=>[(3,(eS 4 TCh.e g))]) ([]:List TCh) (S_q14_b1 f c) (fun g => 
.reg 15 [] [(3,hv (AV.d (eL TAm.e (f.A.drop i))))] [.ev 0,.ev 1,.pf (lvD TAm.e f.A i)]<|
.call (@F_q13_ok (⟨f.G,f.J,f.E,f.P,f.S,f.U,f.L,f.O,f.I,(f.A.drop i)⟩:TLa) g) fun o t=>
.k 16 2 t [3] 4 true<|
.r (o.1,o.2)) id))
def F_q14 (a:TLa) (b:Int):=(S_q14 a b).den
theorem F_q14_ok {a:TLa} {b:Int}:FO (F_q14 a b) 67 [(TLa.d a),(vi b)] [] (fun x=>(AV.tup [(TLa.d x.1),(vi x.2)])) NL:=fO (s:=S_q14 a b) Tryz.func67
abbrev R_q2o:=Int×TLa×Bool×Int×TLa×Int
def S_q2o (e:Int) (p0_0:TLa) (p0_1:Bool) (p0_2:Int) (p0_3:TLa) (p0_4:Int) (f:(List TTr)):SC R_q2o R_q2o :=
.cut none [0] (fun (_:TLa×Bool×Int×TLa×Int)=>[]) (fun b=>[(0,(Ob.box (AV.agg [(TLa.d b.1),(AV.ref 1 f.length 0 f.length),(vb b.2.1),(vi b.2.2.1),(TLa.d b.2.2.2.1),(vi b.2.2.2.2)])))]) (
.ite (cO (!p0_1) (e != p0_2)) (
.a 2 7 2 (@F_q14_ok p0_0 e) fun c=>
.r (.next (p0_0,true,e,c.1,c.2))) (
.r (.next (p0_0,p0_1,p0_2,p0_3,p0_4)))) fun b=>
.r (b.2.2.2.2,b.1,b.2.1,b.2.2.1,b.2.2.2.1,b.2.2.2.2)
def F_q2o (a:Int) (p0_0:TLa) (p0_1:Bool) (p0_2:Int) (p0_3:TLa) (p0_4:Int) (b:(List TTr)):=(S_q2o a p0_0 p0_1 p0_2 p0_3 p0_4 b).den
theorem F_q2o_ok {b:Int} {p0_0:TLa} {p0_1:Bool} {p0_2:Int} {p0_3:TLa} {p0_4:Int} {a:(List TTr)}:FO (F_q2o b p0_0 p0_1 p0_2 p0_3 p0_4 a) 37 [(vp 0),(vi b)] [(Ob.box (AV.agg [(TLa.d p0_0),(AV.ref 1 a.length 0 a.length),(vb p0_1),(vi p0_2),(TLa.d p0_3),(vi p0_4)])),(eS 7 TTr.e a)] (fun x=>(vi x.1)) (fun x=>[(Ob.box (AV.agg [(TLa.d x.2.1),(AV.ref 1 a.length 0 a.length),(vb x.2.2.1),(vi x.2.2.2.1),(TLa.d x.2.2.2.2.1),(vi x.2.2.2.2.2)])),(eS 7 TTr.e a)]):=fO (s:=S_q2o b p0_0 p0_1 p0_2 p0_3 p0_4 a) Tryz.func37
def S_q41 (b:TRu) (c:TTr):SC Bool Bool :=
.calld [(b.F==c.Q)=true] dF (@F_qs_ok c.K b.K) fun f d =>
 let a:=(bif (b.F==c.Q) then f else false)
.calld [a=true] dF (@F_qs_ok c.V b.V) fun g e =>
.reg 1 [] [(10,hc d [] true),(17,hc e [] true)] [.clg 2 [(b.F==c.Q)=true] d [] 2 true,.clg 0 [a=true] e [] 2 true]<|
.r (bif a then g else false)
def F_q41 (a:TRu) (b:TTr):=(S_q41 a b).den
theorem F_q41_ok {c:TRu} {a:TTr}:FO (F_q41 c a) 52 [(TRu.d c),(vp 0)] [(TTr.b a)] vb (fun _=>[(TTr.b a)]):=fO (s:=S_q41 c a) Tryz.func52
def S_q20_b1 (d:(List TRu)) (e:TTr) (a:Nat) (_:Unit):SC Int (Step Unit Int) :=
.call (@F_q41_ok (d.getD a dF) e) fun c b=>
.reg 4 [] [(5,hc b [0] true)] [.w a,.ev 1,.cl 0 b [0] 1 true]<|
.ite c (
.r (.ret (a:Int))) (
.r (.cont ()))
def S_q20 (a:(List TRu)) (b:TTr):SC Int Int :=
.range (a.length:Int) a.length rfl (.slot 0) 8 [0,1,7] (fun (_:Unit)=>[]) (fun _=>[]) () (S_q20_b1 a b) (fun _ => 
.r (-1)) id
def F_q20 (a:(List TRu)) (b:TTr):=(S_q20 a b).den
theorem F_q20_ok {c:(List TRu)} {a:TTr}:FO (F_q20 c a) 51 [(AV.d (eL TRu.e c)),(AV.fn 52 [(vp 0)])] [(TTr.b a)] vi (fun _=>[(TTr.b a)]):=fO (s:=S_q20 c a) Tryz.func51
def S_q21_b1 (c:TLa) (d:Y8) (e:Int) (b:Nat) (_:Unit):SC Int (Step Unit Int) :=
.reg 3 [] [] [.w b,.ev 0]<|
 let a:=(c.P.getD b dF)
.ite (bif (a.B==d) then (a.D==e) else false) (
.r (.ret a.C)) (
.r (.cont ()))
def S_q21 (a:TLa) (b:Y8) (c:Int):SC Int Int :=
.range (a.P.length:Int) a.P.length rfl (.slot 10) 12 [1,2,10,11] (fun (_:Unit)=>[]) (fun _=>[]) () (S_q21_b1 a b c) (fun _ => 
.r 0) id
def F_q21 (a:TLa) (b:Y8) (c:Int):=(S_q21 a b c).den
theorem F_q21_ok {a:TLa} {b:Y8} {c:Int}:FO (F_q21 a b c) 102 [(TLa.d a),(AV.d (DV.str b)),(vi c)] [] vi NL:=fO (s:=S_q21 a b c) Tryz.func102
def S_q42 (d:Int) (b:Int):SC (Int×Int) (Int×Int) :=
.a 1 1 0 (@F_q19_ok d) fun c=>
.ite (cO (cO (!c) (decide (b<0))) (decide (b>100))) (
.r (0,2)) (
.reg 3 [] [] [.pf (p:=(100:Int)≠0) dk]<|
.r ((i64.wrap ((i64.wrap (d * b)).tdiv 100)),0))
def F_q42 (a:Int) (b:Int):=(S_q42 a b).den
theorem F_q42_ok {a:Int} {b:Int}:FO (F_q42 a b) 101 [(vi a),(vi b)] [] (fun x=>(AV.tup [(vi x.1),(vi x.2)])) NL:=fO (s:=S_q42 a b) Tryz.func101
def S_q22_b1 (g:TTr) (f:(List TTr)) (b:Nat) (d:Int):SC Int (Step Int Int) :=
.guard [(0+b)<f.length]<|
.reg 4 [] [] [.e f.length,.w b,.ev 1,.e f.length,.ev 0]<|
 let a:=(f.getD (0+b) dF)
.ite (bif (bif (a.Q==g.Q) then (a.D==g.D) else false) then (a.K==g.K) else false) (
.r (.cont (i64.wrap (d-a.C)))) (
.c d)
def S_q22 (h:TRu) (e:TTr) (_:TLa) (_:Bool) (_:Int) (p0_3:TLa) (_:Int) (d:(List TTr)):SC Int Int :=
.call (@F_q21_ok p0_3 e.K e.D) fun f b=>
.call (@F_q42_ok f h.R) fun g c=>
.reg 1 [] [(8,hc b [] true),(11,hc c [] true)] [.cl 1 b [] 4 true,.cl 0 c [] 4 true]<|
.guard [d.length<2 ^ 63]<|
.range (d.length:Int) d.length rfl (.why (.ev 0)) 31 [5,29,30] (fun (a:Int)=>[(7,(vi a))]) (fun _=>[]) g.1 (S_q22_b1 e d) (fun a => 
.r a) id
def F_q22 (a:TRu) (b:TTr) (p0_0:TLa) (p0_1:Bool) (p0_2:Int) (p0_3:TLa) (p0_4:Int) (c:(List TTr)):=(S_q22 a b p0_0 p0_1 p0_2 p0_3 p0_4 c).den
theorem F_q22_ok {b:TRu} {c:TTr} {p0_0:TLa} {p0_1:Bool} {p0_2:Int} {p0_3:TLa} {p0_4:Int} {a:(List TTr)}:FO (F_q22 b c p0_0 p0_1 p0_2 p0_3 p0_4 a) 54 [(vp 0),(TRu.d b),(TTr.d c)] [(Ob.box (AV.agg [(TLa.d p0_0),(AV.ref 1 a.length 0 a.length),(vb p0_1),(vi p0_2),(TLa.d p0_3),(vi p0_4)])),(eS 7 TTr.e a)] vi (fun _=>[(Ob.box (AV.agg [(TLa.d p0_0),(AV.ref 1 a.length 0 a.length),(vb p0_1),(vi p0_2),(TLa.d p0_3),(vi p0_4)])),(eS 7 TTr.e a)]):=fO (s:=S_q22 b c p0_0 p0_1 p0_2 p0_3 p0_4 a) Tryz.func54
def S_q43 (a:Int):SC Bool Bool :=
.r (bif (decide (a>=(-1000000000000000))) then (decide (a<=1000000000000000)) else false)
def F_q43 (a:Int):=(S_q43 a).den
theorem F_q43_ok {a:Int}:FO (F_q43 a) 161 [(vi a)] [] vb NL:=fO (s:=S_q43 a) Tryz.func161
def S_q23_b1 (i:(List Int)) (a:Nat) (j:Int):SC (Int×Int) (Step Int (Int×Int)) :=
.guard [(0+a)<i.length]<|
.reg 4 [] [] [.e i.length,.w a,.ev 1,.e i.length,.ev 0]<|
 let d:=(i.getD (0+a) dF)
.call (@F_q43_ok d) fun b f=>
 let g:=(i64.wrap (j+d))
.calld [(!b)=false] dF (@F_q43_ok g) fun k h =>
.reg 5 [] [(1,hc f [] true),(7,hc h [] true)] [.cl 2 f [] 1 true,.clg 0 [(!b)=false] h [] 1 true]<|
.ite (cO (!b) (!k)) (
.r (.ret (0,2))) (
.c g)
def S_q23 (b:(List Int)):SC (Int×Int) (Int×Int) :=
.guard [b.length<2 ^ 63]<|
.range (b.length:Int) b.length rfl (.why (.ev 0)) 9 [7,8] (fun (a:Int)=>[(4,(vi a))]) (fun _=>[]) 0 (S_q23_b1 b) (fun a => 
.r (a,0)) id
def F_q23 (a:(List Int)):=(S_q23 a).den
theorem F_q23_ok {a:(List Int)}:FO (F_q23 a) 140 [(AV.ref 0 a.length 0 a.length)] [(eS 1 (DV.i .i64) a)] (fun x=>(AV.tup [(vi x.1),(vi x.2)])) (fun _=>[(eS 1 (DV.i .i64) a)]):=fO (s:=S_q23 a) Tryz.func140
def S_q24_b1 (t:(List TLi)) (n:Y8) (s:Int) (j:Nat) (a:(List Int)):SC (Int×Int) (Step ((List Int)) (Int×Int)) :=
.reg 4 [] [] [.w j,.ev 0]<|
 let f:=(t.getD j dF)
 let g:=(cO (s==(-1)) (f.D==s))
.calld [(n==([]))=false,g=true] dF (@F_qs_ok f.B n) fun q m =>
.reg 5 [] [(15,hc m [] true)] [.clg 0 [(n==([]))=false,g=true] m [] 2 true]<|
.ite (bif g then (cO (n==([])) q) else false) (
.guard [(a.length+1) * (2 * 8)<=2 ^ 48]<|
 let b:=([f.C]:List Int)
.reg 6 [] [(3,hv (vl b)),(4,{ h:=.obj,cast:=some (AV.ref 0 ((a++b).length) 0 ((a++b).length)),obs:=[(0,(eS 1 (DV.i .i64) (a++b)))] })] [.pf (z5 (DV.i .i64) b),.e a.length,.e a.length,.pf (p:=∀ k,k<1->(AV.d ((DV.i .i64) (b.getD k dF))).wd=1) (fun _ _=>rfl),.ev 0,.pf (zh (o:=0) (l:=a) (x:=b)),.pf (zg (sz:=1) (e:=(DV.i .i64)) (l:=a) (x:=b))]<|
.r (.cont (a++b))) (
.c a)
def S_q24 (c:(List TLi)) (f:Y8) (g:Int):SC (Int×Int) (Int×Int) :=
.reg 2 [] [] []<|
.bor 1 (fun j=>AV.d ((DV.i .i64) (([]:List Int).getD j dF))) [8]<|
.range (c.length:Int) c.length rfl (.slot 11) 13 [1,2,11,12] (fun (a:(List Int))=>[(8,(AV.ref 0 a.length 0 a.length))]) (fun a=>[(0,(eS 1 (DV.i .i64) a))]) ([]:List Int) (S_q24_b1 c f g) (fun a => 
.call (@F_q23_ok a) fun b e=>
.k 8 1 e [0] 1 true<|
.r (b.1,b.2)) id
def F_q24 (a:(List TLi)) (b:Y8) (c:Int):=(S_q24 a b c).den
theorem F_q24_ok {a:(List TLi)} {b:Y8} {c:Int}:FO (F_q24 a b c) 116 [(AV.d (eL TLi.e a)),(AV.d (DV.str b)),(vi c)] [] (fun x=>(AV.tup [(vi x.1),(vi x.2)])) NL:=fO (s:=S_q24 a b c) Tryz.func116
def S_q44 (c:TLa) (d:Y8) (e:Int):SC (Int×Int) (Int×Int) :=
.a 1 4 1 (@F_q24_ok c.P d e) fun b=>
.r (b.1,b.2)
def F_q44 (a:TLa) (b:Y8) (c:Int):=(S_q44 a b c).den
theorem F_q44_ok {a:TLa} {b:Y8} {c:Int}:FO (F_q44 a b c) 70 [(TLa.d a),(AV.d (DV.str b)),(vi c)] [] (fun x=>(AV.tup [(vi x.1),(vi x.2)])) NL:=fO (s:=S_q44 a b c) Tryz.func70
def S_qt_b1 (k:Y8) (l:Int) (m:Int) (h:(List TTr)) (f:Nat) (g:Int):SC Int (Step Int Int) :=
.guard [(0+f)<h.length]<|
.reg 4 [] [] [.e h.length,.w f,.ev 1,.e h.length,.ev 0]<|
 let b:=(h.getD (0+f) dF)
.ite (cO (decide (b.H>m)) (bif (l != (-1)) then (b.D != l) else false)) (
.c g) (
.a 6 3 3 (@F_qs_ok b.V k) fun i=>
.cut none [1,2,3,12,26,27,28] (fun (d:Int)=>[(9,(vi d))]) (fun _=>[]) (
.ite i (
.r (.next (i64.wrap (g+b.C)))) (
.r (.next g))) fun d=>
.a 8 3 3 (@F_qs_ok b.K k) fun j=>
.ite j (
.r (.cont (i64.wrap (d-b.C)))) (
.c d))
def S_qt (e:Y8) (f:Int) (g:Int) (_:TLa) (_:Bool) (_:Int) (p0_3:TLa) (_:Int) (c:(List TTr)):SC Int Int :=
.a 1 6 2 (@F_q44_ok p0_3 e f) fun d=>
.guard [c.length<2 ^ 63]<|
.range (c.length:Int) c.length rfl (.why (.ev 0)) 28 [1,2,3,26,27] (fun (b:Int)=>[(9,(vi b))]) (fun _=>[]) d.1 (S_qt_b1 e f g c) (fun b => 
.r b) id
def F_qt (a:Y8) (b:Int) (c:Int) (p0_0:TLa) (p0_1:Bool) (p0_2:Int) (p0_3:TLa) (p0_4:Int) (d:(List TTr)):=(S_qt a b c p0_0 p0_1 p0_2 p0_3 p0_4 d).den
theorem F_qt_ok {b:Y8} {c:Int} {f:Int} {p0_0:TLa} {p0_1:Bool} {p0_2:Int} {p0_3:TLa} {p0_4:Int} {a:(List TTr)}:FO (F_qt b c f p0_0 p0_1 p0_2 p0_3 p0_4 a) 39 [(vp 0),(AV.d (DV.str b)),(vi c),(vi f)] [(Ob.box (AV.agg [(TLa.d p0_0),(AV.ref 1 a.length 0 a.length),(vb p0_1),(vi p0_2),(TLa.d p0_3),(vi p0_4)])),(eS 7 TTr.e a)] vi (fun _=>[(Ob.box (AV.agg [(TLa.d p0_0),(AV.ref 1 a.length 0 a.length),(vb p0_1),(vi p0_2),(TLa.d p0_3),(vi p0_4)])),(eS 7 TTr.e a)]):=fO (s:=S_qt b c f p0_0 p0_1 p0_2 p0_3 p0_4 a) Tryz.func39
def S_q36 (e:TBo) (h:Y8) (i:Y8) (j:TTr):SC Bool Bool :=
 let a:=(cO (e.D==j.D) (e.D==(-1)))
.calld [a=true] dF (@F_qs_ok h e.B) fun f c =>
 let b:=(bif a then f else false)
.calld [b=true] dF (@F_qs_ok i e.B) fun g d =>
.reg 1 [] [(14,hc c [] true),(20,hc d [] true)] [.clg 2 [a=true] c [] 2 true,.clg 0 [b=true] d [] 2 true]<|
.r (bif b then (!g) else false)
def F_q36 (a:TBo) (b:Y8) (c:Y8) (d:TTr):=(S_q36 a b c d).den
theorem F_q36_ok {c:TBo} {e:Y8} {f:Y8} {a:TTr}:FO (F_q36 c e f a) 103 [(TBo.d c),(AV.d (DV.str e)),(AV.d (DV.str f)),(vp 0)] [(TTr.b a)] vb (fun _=>[(TTr.b a)]):=fO (s:=S_q36 c e f a) Tryz.func103
def S_qo_b1 (c:TTr) (p0_0:TLa) (p0_1:Bool) (p0_2:Int) (p0_3:TLa) (p0_4:Int) (h:(List TTr)) (d:Nat) (_:Unit):SC Bool (Step Unit Bool) :=
.reg 4 [] [] [.w d,.ev 0]<|
 let a:=(p0_3.S.getD d dF)
.call (@F_q36_ok a c.V c.K c) fun b e=>
.calld [b=true] dF (@F_qt_ok a.B a.D c.H p0_0 p0_1 p0_2 p0_3 p0_4 h) fun g f =>
.reg 5 [] [(6,hc e [2] true),(15,hc f [0,1] true)] [.cl 2 e [2] 4 true,.clg 0 [b=true] f [0,1] 4 true]<|
.ite (bif b then (decide ((i64.wrap (g+c.C))>a.C)) else false) (
.r (.ret true)) (
.r (.cont ()))
def S_qo_b2 (c:TTr) (p0_0:TLa) (p0_1:Bool) (p0_2:Int) (p0_3:TLa) (p0_4:Int) (h:(List TTr)) (d:Nat) (_:Unit):SC Bool (Step Unit Bool) :=
.reg 10 [] [] [.w d,.ev 0]<|
 let a:=(p0_3.U.getD d dF)
.call (@F_q36_ok a c.K c.V c) fun b e=>
.calld [b=true] dF (@F_qt_ok a.B a.D c.H p0_0 p0_1 p0_2 p0_3 p0_4 h) fun g f =>
.reg 11 [] [(6,hc e [2] true),(15,hc f [0,1] true)] [.cl 2 e [2] 4 true,.clg 0 [b=true] f [0,1] 4 true]<|
.ite (bif b then (decide ((i64.wrap (g-c.C))<a.C)) else false) (
.r (.ret true)) (
.r (.cont ()))
def S_qo (a:TTr) (p0_0:TLa) (p0_1:Bool) (p0_2:Int) (p0_3:TLa) (p0_4:Int) (b:(List TTr)):SC Bool Bool :=
.range (p0_3.S.length:Int) p0_3.S.length rfl (.slot 15) 17 [0,3,5,15,16] (fun (_:Unit)=>[]) (fun _=>[]) () (S_qo_b1 a p0_0 p0_1 p0_2 p0_3 p0_4 b) (fun _ => 
.range (p0_3.U.length:Int) p0_3.U.length rfl (.slot 49) 51 [0,3,5,49,50] (fun (_:Unit)=>[]) (fun _=>[]) () (S_qo_b2 a p0_0 p0_1 p0_2 p0_3 p0_4 b) (fun _ => 
.r false) id) id
def F_qo (a:TTr) (p0_0:TLa) (p0_1:Bool) (p0_2:Int) (p0_3:TLa) (p0_4:Int) (b:(List TTr)):=(S_qo a p0_0 p0_1 p0_2 p0_3 p0_4 b).den
theorem F_qo_ok {b:TTr} {p0_0:TLa} {p0_1:Bool} {p0_2:Int} {p0_3:TLa} {p0_4:Int} {a:(List TTr)}:FO (F_qo b p0_0 p0_1 p0_2 p0_3 p0_4 a) 55 [(vp 0),(TTr.d b)] [(Ob.box (AV.agg [(TLa.d p0_0),(AV.ref 1 a.length 0 a.length),(vb p0_1),(vi p0_2),(TLa.d p0_3),(vi p0_4)])),(eS 7 TTr.e a)] vb (fun _=>[(Ob.box (AV.agg [(TLa.d p0_0),(AV.ref 1 a.length 0 a.length),(vb p0_1),(vi p0_2),(TLa.d p0_3),(vi p0_4)])),(eS 7 TTr.e a)]):=fO (s:=S_qo b p0_0 p0_1 p0_2 p0_3 p0_4 a) Tryz.func55
abbrev R_q2l:=Int×TLa×Bool×Int×TLa×Int
def S_q2l (b:TTr) (p0_0:TLa) (p0_1:Bool) (p0_2:Int) (p0_3:TLa) (p0_4:Int) (d:(List TTr)):SC R_q2l R_q2l :=
.call (@F_q3u_ok b p0_0 p0_1 p0_2 p0_3 p0_4 d) fun e g=>
.k 1 2 g [0,1] 3 true<|
.ite (e != 0) (
.r (e,p0_0,p0_1,p0_2,p0_3,p0_4)) (
.call (@F_q2o_ok b.H p0_0 p0_1 p0_2 p0_3 p0_4 d) fun a h=>
.k 4 3 h [0,1] 3 false<|
.ite (a.1 != 0) (
.r (a.1,a.2.1,a.2.2.1,a.2.2.2.1,a.2.2.2.2.1,a.2.2.2.2.2)) (
.call (@F_q20_ok a.2.2.2.2.1.I b) fun c i=>
.k 7 6 i [2] 3 true<|
.ite (decide (c<0)) (
.r (12,a.2.1,a.2.2.1,a.2.2.2.1,a.2.2.2.2.1,a.2.2.2.2.2)) (
.call (@F_q22_ok (a.2.2.2.2.1.I.getD c.toNat dF) b a.2.1 a.2.2.1 a.2.2.2.1 a.2.2.2.2.1 a.2.2.2.2.2 d) fun j f=>
.guard [(0:Int)<=c,c.toNat<a.2.2.2.2.1.I.length]<|
.reg 10 [] [(12,hc f [0,1] true)] [.ev 0,.ev 1,.cl 2 f [0,1] 3 true]<|
.ite (decide (b.C>j)) (
.r (13,a.2.1,a.2.2.1,a.2.2.2.1,a.2.2.2.2.1,a.2.2.2.2.2)) (
.call (@F_qt_ok b.K b.D b.H a.2.1 a.2.2.1 a.2.2.2.1 a.2.2.2.2.1 a.2.2.2.2.2 d) fun l m=>
.k 12 9 m [0,1] 3 true<|
.ite (decide (b.C>l)) (
.r (15,a.2.1,a.2.2.1,a.2.2.2.1,a.2.2.2.2.1,a.2.2.2.2.2)) (
.call (@F_qo_ok b a.2.1 a.2.2.1 a.2.2.2.1 a.2.2.2.2.1 a.2.2.2.2.2 d) fun n o=>
.k 14 2 o [0,1] 3 true<|
.ite n (
.r (14,a.2.1,a.2.2.1,a.2.2.2.1,a.2.2.2.2.1,a.2.2.2.2.2)) (
.r (0,a.2.1,a.2.2.1,a.2.2.2.1,a.2.2.2.2.1,a.2.2.2.2.2)))))))
def F_q2l (a:TTr) (p0_0:TLa) (p0_1:Bool) (p0_2:Int) (p0_3:TLa) (p0_4:Int) (b:(List TTr)):=(S_q2l a p0_0 p0_1 p0_2 p0_3 p0_4 b).den
theorem F_q2l_ok {b:TTr} {p0_0:TLa} {p0_1:Bool} {p0_2:Int} {p0_3:TLa} {p0_4:Int} {a:(List TTr)}:FO (F_q2l b p0_0 p0_1 p0_2 p0_3 p0_4 a) 32 [(vp 0),(TTr.d b)] [(Ob.box (AV.agg [(TLa.d p0_0),(AV.ref 1 a.length 0 a.length),(vb p0_1),(vi p0_2),(TLa.d p0_3),(vi p0_4)])),(eS 7 TTr.e a)] (fun x=>(vi x.1)) (fun x=>[(Ob.box (AV.agg [(TLa.d x.2.1),(AV.ref 1 a.length 0 a.length),(vb x.2.2.1),(vi x.2.2.2.1),(TLa.d x.2.2.2.2.1),(vi x.2.2.2.2.2)])),(eS 7 TTr.e a)]):=fO (s:=S_q2l b p0_0 p0_1 p0_2 p0_3 p0_4 a) Tryz.func32
abbrev R_qa:=(List Int)×Int×TLa×Bool×Int×TLa×Int×(List TTr)
def S_qa_b1 (y:(List TTr)) (n:Nat) (a:TLa×Bool×Int×TLa×Int×(List TTr)×(List Int)):SC R_qa (Step (TLa×Bool×Int×TLa×Int×(List TTr)×(List Int)) R_qa) :=
.reg 10 [] [] [.w n,.ev 0]<|
 let m:=(decide ((n:Int)>0))
 let t:=(i64.wrap ((n:Int)-1))
 let u:=(y.getD n dF)
.calld [m=true] dF (@F_q2k_ok (y.getD t.toNat dF) u) fun z v =>
.guard [AllP [m=true]->((0:Int)<=t),AllP [m=true]->(t.toNat<y.length)]<|
.reg 11 [] [(9,hc v [] true)] [.ev 0,.ev 1,.clg 2 [m=true] v [] 6 true]<|
.guard [(bif m then (decide (z>=0)) else false)=false]<|
.br false (.ev 0)<|
.call (@F_q2l_ok u a.1 a.2.1 a.2.2.1 a.2.2.2.1 a.2.2.2.2.1 a.2.2.2.2.2.1) fun f A=>
.k 13 2 A [2,3] 6 false<|
.cut none [1,8,9,12,23,24,25] (fun (_:TLa×Bool×Int×TLa×Int×(List TTr))=>[]) (fun b=>[(2,(Ob.box (AV.agg [(TLa.d b.1),(AV.ref 3 b.2.2.2.2.2.length 0 b.2.2.2.2.2.length),(vb b.2.1),(vi b.2.2.1),(TLa.d b.2.2.2.1),(vi b.2.2.2.2.1)]))),(3,(eS 7 TTr.e b.2.2.2.2.2))]) (
.ite (f.1==0) (
.guard [(a.2.2.2.2.2.1.length+1) * (2 * 72)<=2 ^ 48]<|
 let g:=([u]:List TTr)
 let q:=(a.2.2.2.2.2.1++g)
.reg 15 [7,10] [(6,hv (AV.d (eL TTr.e g))),(7,{ cast:=some (AV.ref 3 q.length 0 q.length),obs:=[(3,(eS 7 TTr.e q))] })] [.pf (z5 TTr.e g),.e a.2.2.2.2.2.1.length,.e a.2.2.2.2.2.1.length,.pf (p:=∀ k,k<1->(TTr.d (g.getD k dF)).wd=7) (fun _ _=>rfl),.ev 0,.pf (zh (o:=3) (l:=a.2.2.2.2.2.1) (x:=g)),.pf (zg (sz:=7) (e:=TTr.e) (l:=a.2.2.2.2.2.1) (x:=g))]<|
.r (.next (f.2.1,f.2.2.1,f.2.2.2.1,f.2.2.2.2.1,f.2.2.2.2.2,q))) (
.r (.next (f.2.1,f.2.2.1,f.2.2.2.1,f.2.2.2.2.1,f.2.2.2.2.2,a.2.2.2.2.2.1)))) fun b=>
.guard [(a.2.2.2.2.2.2.length+1) * (2 * 8)<=2 ^ 48]<|
 let j:=([f.1]:List Int)
 let s:=(a.2.2.2.2.2.2++j)
.reg 16 [] [(2,hv (vl j)),(3,{ h:=.obj,cast:=some (AV.ref 4 s.length 0 s.length),obs:=[(4,(eS 1 (DV.i .i64) s))] })] [.pf (z5 (DV.i .i64) j),.e a.2.2.2.2.2.2.length,.e a.2.2.2.2.2.2.length,.pf (p:=∀ k,k<1->(AV.d ((DV.i .i64) (j.getD k dF))).wd=1) (fun _ _=>rfl),.ev 0,.pf (zh (o:=4) (l:=a.2.2.2.2.2.2) (x:=j)),.pf (zg (sz:=1) (e:=(DV.i .i64)) (l:=a.2.2.2.2.2.2) (x:=j))]<|
.c (b.1,b.2.1,b.2.2.1,b.2.2.2.1,b.2.2.2.2.1,b.2.2.2.2.2,s)
def S_qa (l:TLa) (f:(List TTr)):SC R_qa R_qa :=
.a 1 1 1 (@F_q2i_ok l) fun g=>
.guard [(g != 0)=false]<|
.br false (.ev 0)<|
.guard [(decide ((f.length:Int)>60))=false]<|
.br false (.ev 0)<|
.call (@F_q2j_ok l) fun c h=>
.k 6 1 h [] 1 false<|
.reg 8 [] [] []<|
.bor 1 (fun j=>AV.d ((DV.i .i64) (([]:List Int).getD j dF))) [9]<|
.range (f.length:Int) f.length rfl (.slot 1) 25 [1,8,23,24] (fun (b:TLa×Bool×Int×TLa×Int×(List TTr)×(List Int))=>[(9,(AV.ref 4 b.2.2.2.2.2.2.length 0 b.2.2.2.2.2.2.length))]) (fun b=>[(2,(Ob.box (AV.agg [(TLa.d b.1),(AV.ref 3 b.2.2.2.2.2.1.length 0 b.2.2.2.2.2.1.length),(vb b.2.1),(vi b.2.2.1),(TLa.d b.2.2.2.1),(vi b.2.2.2.2.1)]))),(3,(eS 7 TTr.e b.2.2.2.2.2.1)),(4,(eS 1 (DV.i .i64) b.2.2.2.2.2.2))]) (c.1,c.2.1,c.2.2.1,c.2.2.2.1,c.2.2.2.2.1,c.2.2.2.2.2,([]:List Int)) (S_qa_b1 f) (fun b => 
.guard [b.2.2.2.2.2.2.length<2 ^ 63]<|
.reg 18 [] [] []<|
.frz 4 (.ev 0) none [5] []<|
.kill 0<|
.r (b.2.2.2.2.2.2,0,b.1,b.2.1,b.2.2.1,b.2.2.2.1,b.2.2.2.2.1,b.2.2.2.2.2.1)) id
def F_qa (a:TLa) (b:(List TTr)):=(S_qa a b).den
theorem F_qa_ok {a:TLa} {b:(List TTr)}:FO (F_qa a b) 28 [(TLa.d a),(AV.d (eL TTr.e b))] [] (fun x=>(AV.tup [(vp 2),(vl x.1),(vi x.2.1)])) (fun x=>[Ob.dead,Ob.dead,(Ob.box (AV.agg [(TLa.d x.2.2.1),(AV.ref 3 x.2.2.2.2.2.2.2.length 0 x.2.2.2.2.2.2.2.length),(vb x.2.2.2.1),(vi x.2.2.2.2.1),(TLa.d x.2.2.2.2.2.1),(vi x.2.2.2.2.2.2.1)])),(eS 7 TTr.e x.2.2.2.2.2.2.2)]):=fO (s:=S_qa a b) Tryz.func28
abbrev R_q4m:=Bool×TTr×TLa×Bool×Int×TLa×Int
def S_q4m (e:Int) (b:TTr) (p2_0:TLa) (p2_1:Bool) (p2_2:Int) (p2_3:TLa) (p2_4:Int) (f:(List TTr)):SC R_q4m R_q4m :=
 let c:=(⟨b.F,b.H,b.D,b.Q,b.K,b.V,(i64.wrap (e+1))⟩:TTr)
.call (@F_q2l_ok c p2_0 p2_1 p2_2 p2_3 p2_4 f) fun a d=>
.k 2 2 d [2,3] 4 false<|
.r ((a.1 != 0),c,a.2.1,a.2.2.1,a.2.2.2.1,a.2.2.2.2.1,a.2.2.2.2.2)
def F_q4m (a:Int) (b:TTr) (p2_0:TLa) (p2_1:Bool) (p2_2:Int) (p2_3:TLa) (p2_4:Int) (c:(List TTr)):=(S_q4m a b p2_0 p2_1 p2_2 p2_3 p2_4 c).den
theorem F_q4m_ok {c:Int} {f:TTr} {p2_0:TLa} {p2_1:Bool} {p2_2:Int} {p2_3:TLa} {p2_4:Int} {a:(List TTr)}:FO (F_q4m c f p2_0 p2_1 p2_2 p2_3 p2_4 a) 31 [(vi c),(vp 0),(vp 1)] [(TTr.b f),(Ob.box (vp 2)),(Ob.box (AV.agg [(TLa.d p2_0),(AV.ref 3 a.length 0 a.length),(vb p2_1),(vi p2_2),(TLa.d p2_3),(vi p2_4)])),(eS 7 TTr.e a)] (fun x=>(vb x.1)) (fun x=>[(TTr.b x.2.1),(Ob.box (vp 2)),(Ob.box (AV.agg [(TLa.d x.2.2.1),(AV.ref 3 a.length 0 a.length),(vb x.2.2.2.1),(vi x.2.2.2.2.1),(TLa.d x.2.2.2.2.2.1),(vi x.2.2.2.2.2.2)])),(eS 7 TTr.e a)]):=fO (s:=S_q4m c f p2_0 p2_1 p2_2 p2_3 p2_4 a) Tryz.func31
abbrev R_q1g:=Int×TTr×TLa×Bool×Int×TLa×Int
def S_q1g_b1 (e:(List TTr)) (a:TTr×TLa×Bool×Int×TLa×Int×Int×Int):SC R_q1g (Step (TTr×TLa×Bool×Int×TLa×Int×Int×Int) R_q1g) :=
.ite (decide (a.2.2.2.2.2.2.1<a.2.2.2.2.2.2.2)) (
.reg 3 [] [] [.pf (p:=(0:Int)<=1) dk]<|
 let c:=(i64.wrap ((IntKind.u64.wrap (i64.wrap (a.2.2.2.2.2.2.1+a.2.2.2.2.2.2.2))).fdiv (2 ^ (min (1:Int).toNat IntKind.u64.bits))))
.call (@F_q4m_ok c a.1 a.2.1 a.2.2.1 a.2.2.2.1 a.2.2.2.2.1 a.2.2.2.2.2.1 e) fun b d=>
.k 4 2 d [0,1,2,3] 4 false<|
.ite (!b.1) (
.r (.cont (b.2.1,b.2.2.1,b.2.2.2.1,b.2.2.2.2.1,b.2.2.2.2.2.1,b.2.2.2.2.2.2,(i64.wrap (c+1)),a.2.2.2.2.2.2.2))) (
.r (.cont (b.2.1,b.2.2.1,b.2.2.2.1,b.2.2.2.2.1,b.2.2.2.2.2.1,b.2.2.2.2.2.2,a.2.2.2.2.2.2.1,c)))) (
.r (.brk (a.1,a.2.1,a.2.2.1,a.2.2.2.1,a.2.2.2.2.1,a.2.2.2.2.2.1,a.2.2.2.2.2.2.1,a.2.2.2.2.2.2.2)))
def S_q1g (e:Int) (f:TTr) (p2_0:TLa) (p2_1:Bool) (p2_2:Int) (p2_3:TLa) (p2_4:Int) (c:(List TTr)):SC R_q1g R_q1g :=
.iter [1] (fun (a:TTr×TLa×Bool×Int×TLa×Int×Int×Int)=>[(5,(vi a.2.2.2.2.2.2.1)),(6,(vi a.2.2.2.2.2.2.2))]) (fun a=>[(0,(TTr.b a.1)),(2,(Ob.box (AV.agg [(TLa.d a.2.1),(AV.ref 3 c.length 0 c.length),(vb a.2.2.1),(vi a.2.2.2.1),(TLa.d a.2.2.2.2.1),(vi a.2.2.2.2.2.1)])))]) (f,p2_0,p2_1,p2_2,p2_3,p2_4,0,e) (S_q1g_b1 c) (fun a =>
.r (a.2.2.2.2.2.2.1,a.1,a.2.1,a.2.2.1,a.2.2.2.1,a.2.2.2.2.1,a.2.2.2.2.2.1)) id
def F_q1g (a:Int) (b:TTr) (p2_0:TLa) (p2_1:Bool) (p2_2:Int) (p2_3:TLa) (p2_4:Int) (c:(List TTr)):=(S_q1g a b p2_0 p2_1 p2_2 p2_3 p2_4 c).den
theorem F_q1g_ok {c:Int} {f:TTr} {p2_0:TLa} {p2_1:Bool} {p2_2:Int} {p2_3:TLa} {p2_4:Int} {a:(List TTr)}:FO (F_q1g c f p2_0 p2_1 p2_2 p2_3 p2_4 a) 30 [(vi c),(AV.fn 31 [(vp 0),(vp 1)])] [(TTr.b f),(Ob.box (vp 2)),(Ob.box (AV.agg [(TLa.d p2_0),(AV.ref 3 a.length 0 a.length),(vb p2_1),(vi p2_2),(TLa.d p2_3),(vi p2_4)])),(eS 7 TTr.e a)] (fun x=>(vi x.1)) (fun x=>[(TTr.b x.2.1),(Ob.box (vp 2)),(Ob.box (AV.agg [(TLa.d x.2.2.1),(AV.ref 3 a.length 0 a.length),(vb x.2.2.2.1),(vi x.2.2.2.2.1),(TLa.d x.2.2.2.2.2.1),(vi x.2.2.2.2.2.2)])),(eS 7 TTr.e a)]):=fO (s:=S_q1g c f p2_0 p2_1 p2_2 p2_3 p2_4 a) Tryz.func30
theorem zme:LeV (AV.tup [(AV.d (DV.lit (.pointer none))),(AV.full 0 fun _=>DV.b false),(vi 8)]) (AV.tup [(AV.d (DV.lit (.pointer none))),(vl ([])),(vi 8)]):=LeV.tup (LeVs.cons (LeV.refl _) (LeVs.cons (lvN (DV.i .i64)) (LeVs.cons (LeV.refl _) LeVs.nil)))
theorem zmf:LeV (AV.tup [(AV.d (DV.lit (.pointer none))),(AV.full 0 fun _=>DV.b false),(vi 3)]) (AV.tup [(AV.d (DV.lit (.pointer none))),(vl ([])),(vi 3)]):=LeV.tup (LeVs.cons (LeV.refl _) (LeVs.cons (lvN (DV.i .i64)) (LeVs.cons (LeV.refl _) LeVs.nil)))
abbrev R_q2p:=(List Int)×Int
def S_q2p_b1 (v:(List TTr)) (m:Nat) (a:TLa×Bool×Int×TLa×Int×(List TTr)×(List Int)):SC R_q2p (Step (TLa×Bool×Int×TLa×Int×(List TTr)×(List Int)) R_q2p) :=
.reg 10 [] [] [.w m,.ev 0]<|
 let j:=(decide ((m:Int)>0))
 let s:=(i64.wrap ((m:Int)-1))
 let t:=(v.getD m dF)
.calld [j=true] dF (@F_q2k_ok (v.getD s.toNat dF) t) fun y u =>
.guard [AllP [j=true]->((0:Int)<=s),AllP [j=true]->(s.toNat<v.length)]<|
.reg 11 [] [(9,hc u [] true)] [.ev 0,.ev 1,.clg 2 [j=true] u [] 6 true]<|
.ite (bif j then (decide (y>=0)) else false) (
.ret [.pf zme] (.ret ([],8))) (
.call (@F_q2l_ok t a.1 a.2.1 a.2.2.1 a.2.2.2.1 a.2.2.2.2.1 a.2.2.2.2.2.1) fun c z=>
.k 13 2 z [2,3] 6 false<|
.cut none [1,8,9,12,23,24,25] (fun (_:TLa×Bool×Int×TLa×Int×(List TTr))=>[]) (fun b=>[(2,(Ob.box (AV.agg [(TLa.d b.1),(AV.ref 3 b.2.2.2.2.2.length 0 b.2.2.2.2.2.length),(vb b.2.1),(vi b.2.2.1),(TLa.d b.2.2.2.1),(vi b.2.2.2.2.1)]))),(3,(eS 7 TTr.e b.2.2.2.2.2))]) (
.ite (c.1==0) (
.guard [(a.2.2.2.2.2.1.length+1) * (2 * 72)<=2 ^ 48]<|
 let f:=([t]:List TTr)
 let n:=(a.2.2.2.2.2.1++f)
.reg 15 [7,10] [(6,hv (AV.d (eL TTr.e f))),(7,{ cast:=some (AV.ref 3 n.length 0 n.length),obs:=[(3,(eS 7 TTr.e n))] })] [.pf (z5 TTr.e f),.e a.2.2.2.2.2.1.length,.e a.2.2.2.2.2.1.length,.pf (p:=∀ k,k<1->(TTr.d (f.getD k dF)).wd=7) (fun _ _=>rfl),.ev 0,.pf (zh (o:=3) (l:=a.2.2.2.2.2.1) (x:=f)),.pf (zg (sz:=7) (e:=TTr.e) (l:=a.2.2.2.2.2.1) (x:=f))]<|
.r (.next (c.2.1,c.2.2.1,c.2.2.2.1,c.2.2.2.2.1,c.2.2.2.2.2,n))) (
.r (.next (c.2.1,c.2.2.1,c.2.2.2.1,c.2.2.2.2.1,c.2.2.2.2.2,a.2.2.2.2.2.1)))) fun b=>
.guard [(a.2.2.2.2.2.2.length+1) * (2 * 8)<=2 ^ 48]<|
 let g:=([c.1]:List Int)
 let q:=(a.2.2.2.2.2.2++g)
.reg 16 [] [(2,hv (vl g)),(3,{ h:=.obj,cast:=some (AV.ref 4 q.length 0 q.length),obs:=[(4,(eS 1 (DV.i .i64) q))] })] [.pf (z5 (DV.i .i64) g),.e a.2.2.2.2.2.2.length,.e a.2.2.2.2.2.2.length,.pf (p:=∀ k,k<1->(AV.d ((DV.i .i64) (g.getD k dF))).wd=1) (fun _ _=>rfl),.ev 0,.pf (zh (o:=4) (l:=a.2.2.2.2.2.2) (x:=g)),.pf (zg (sz:=1) (e:=(DV.i .i64)) (l:=a.2.2.2.2.2.2) (x:=g))]<|
.r (.cont (b.1,b.2.1,b.2.2.1,b.2.2.2.1,b.2.2.2.2.1,b.2.2.2.2.2,q)))
def S_q2p (o:TLa) (m:(List TTr)):SC R_q2p R_q2p :=
.a 1 1 1 (@F_q2i_ok o) fun g=>
 let l:=(AV.d (DV.lit (.pointer none)))
.ite (g != 0) (
.ret [.pf (p:=LeV (AV.tup [l,(AV.full 0 fun _=>DV.b false),(vi g)]) (AV.tup [l,(vl ([])),(vi g)])) (LeV.tup (LeVs.cons (LeV.refl _) (LeVs.cons (lvN (DV.i .i64)) (LeVs.cons (LeV.refl _) LeVs.nil))))] ([],g)) (
.ite (decide ((m.length:Int)>60)) (
.ret [.pf zmf] ([],3)) (
.call (@F_q2j_ok o) fun f n=>
.k 6 1 n [] 1 false<|
.reg 8 [] [] []<|
.bor 1 (fun j=>AV.d ((DV.i .i64) (([]:List Int).getD j dF))) [9]<|
.range (m.length:Int) m.length rfl (.slot 1) 25 [1,8,23,24] (fun (c:TLa×Bool×Int×TLa×Int×(List TTr)×(List Int))=>[(9,(AV.ref 4 c.2.2.2.2.2.2.length 0 c.2.2.2.2.2.2.length))]) (fun c=>[(2,(Ob.box (AV.agg [(TLa.d c.1),(AV.ref 3 c.2.2.2.2.2.1.length 0 c.2.2.2.2.2.1.length),(vb c.2.1),(vi c.2.2.1),(TLa.d c.2.2.2.1),(vi c.2.2.2.2.1)]))),(3,(eS 7 TTr.e c.2.2.2.2.2.1)),(4,(eS 1 (DV.i .i64) c.2.2.2.2.2.2))]) (f.1,f.2.1,f.2.2.1,f.2.2.2.1,f.2.2.2.2.1,f.2.2.2.2.2,([]:List Int)) (S_q2p_b1 m) (fun c => 
.guard [c.2.2.2.2.2.2.length<2 ^ 63]<|
.reg 18 [] [] []<|
.frz 4 (.ev 0) none [5] []<|
.guard [False]<|
.ret [.der (fun (h:False)=>(h.elim:LeV (AV.tup [(vp 2),(vl c.2.2.2.2.2.2),(vi 0)]) (AV.tup [l,(vl c.2.2.2.2.2.2),(vi 0)]))) 0] (c.2.2.2.2.2.2,0)) id))
def F_q2p (a:TLa) (b:(List TTr)):=(S_q2p a b).den
theorem F_q2p_ok {a:TLa} {b:(List TTr)}:FO (F_q2p a b) 28 [(TLa.d a),(AV.d (eL TTr.e b))] [] (fun x=>(AV.tup [(AV.d (DV.lit (.pointer none))),(vl x.1),(vi x.2)])) NL:=fO (s:=S_q2p a b) Tryz.func28
def S_q45 (i:TLa) (f:(List TTr)) (o:TTr):SC (Int×Int) (Int×Int) :=
.reg 0 [] [] []<|
.split ((F_qa i f).isSome) (
.call (@F_qa_ok i f) fun b j=>
.k 1 2 j [] 2 false<|
.guard [(b.2.1 != 0)=false]<|
.br false (.ev 0)<|
 let d:=(f.length:Int)
 let c:=(decide (d>0))
 let e:=(i64.wrap (d-1))
.calld [c=true] dF (@F_q2k_ok (f.getD e.toNat dF) o) fun l g =>
.guard [AllP [c=true]->((0:Int)<=e),AllP [c=true]->(e.toNat<f.length)]<|
.reg 5 [] [(9,hc g [] true)] [.ev 0,.ev 1,.clg 2 [c=true] g [] 7 true]<|
.ite (bif c then (decide (l>=0)) else false) (
.r (0,8)) (
.ite (d==60) (
.r (0,3)) (
.call (@F_q1g_ok 1000000000000 o b.2.2.1 b.2.2.2.1 b.2.2.2.2.1 b.2.2.2.2.2.1 b.2.2.2.2.2.2.1 b.2.2.2.2.2.2.2) fun m n=>
.k 9 1 n [1,6,4,5] 7 false<|
.r (m.1,0)))) (
.a 1 2 2 (@F_q2p_ok i f) fun h=>
.guard [(h.2 != 0)=true]<|
.br true (.ev 0)<|
.r (0,h.2))
def F_q45 (a:TLa) (b:(List TTr)) (c:TTr):=(S_q45 a b c).den
theorem F_q45_ok {a:TLa} {b:(List TTr)} {c:TTr}:FO (F_q45 a b c) 13 [(TLa.d a),(AV.d (eL TTr.e b)),(TTr.d c)] [] (fun x=>(AV.tup [(vi x.1),(vi x.2)])) NL:=fO (s:=S_q45 a b c) Tryz.func13
end
end Go.Proofs.YtljnmhapbonmfaaGreatDoor
/- What the functions compute,and that their calls return it. No condition. -/
namespace Go.Proofs.YtljnmhapbonmfaaGreatDoor
open Go Go.TA
open Go.IntKind (i64)
noncomputable section
set_option maxRecDepth 100000
theorem zlk:LeV (AV.tup [(AV.d (DV.lit (.pointer none))),(AV.full 0 fun _=>DV.b false),(vi 8)]) (AV.tup [AV.bot,(vl ([])),(vi 8)]):=LeV.tup (LeVs.cons z4y (LeVs.cons (lvN (DV.i .i64)) (LeVs.cons (LeV.refl _) LeVs.nil)))
theorem zll:LeV (AV.tup [(AV.d (DV.lit (.pointer none))),(AV.full 0 fun _=>DV.b false),(vi 3)]) (AV.tup [AV.bot,(vl ([])),(vi 3)]):=LeV.tup (LeVs.cons z4y (LeVs.cons (lvN (DV.i .i64)) (LeVs.cons (LeV.refl _) LeVs.nil)))
abbrev R_q4u:=(List Int)×Int
def S_q4u_b1 (m:(List TTr)) (n:Nat) (a:TLa×Bool×Int×TLa×Int×(List TTr)×(List Int)):SC R_q4u (Step (TLa×Bool×Int×TLa×Int×(List TTr)×(List Int)) R_q4u) :=
.guard [(0+n)<m.length]<|
.reg 10 [] [] [.e m.length,.w n,.ev 1,.e m.length,.ev 0]<|
 let f:=(decide ((n:Int)>0))
 let q:=(i64.wrap ((n:Int)-1))
 let u:=(m.getD (0+n) dF)
.calld [f=true] dF (@F_q2k_ok (m.getD (0+q.toNat) dF) u) fun y v =>
.guard [AllP [f=true]->((0:Int)<=q),AllP [f=true]->(q.toNat<m.length),AllP [f=true]->((0+q.toNat)<m.length)]<|
.reg 11 [] [(9,hc v [] true)] [.pf (p:=AllP [f=true]->(m.length=m.length)) (fun _=>rfl),.ev 0,.ev 1,.pf (p:=AllP [f=true]->(m.length=m.length)) (fun _=>rfl),.ev 2,.clg 3 [f=true] v [] 7 true]<|
.ite (bif f then (decide (y>=0)) else false) (
.ret [.pf zlk] (.ret ([],8))) (
.call (@F_q2l_ok u a.1 a.2.1 a.2.2.1 a.2.2.2.1 a.2.2.2.2.1 a.2.2.2.2.2.1) fun c z=>
.k 13 2 z [3,4] 7 false<|
.cut none [1,8,9,12,23,24,25] (fun (_:TLa×Bool×Int×TLa×Int×(List TTr))=>[]) (fun b=>[(3,(Ob.box (AV.agg [(TLa.d b.1),(AV.ref 4 b.2.2.2.2.2.length 0 b.2.2.2.2.2.length),(vb b.2.1),(vi b.2.2.1),(TLa.d b.2.2.2.1),(vi b.2.2.2.2.1)]))),(4,(eS 7 TTr.e b.2.2.2.2.2))]) (
.ite (c.1==0) (
.guard [(a.2.2.2.2.2.1.length+1) * (2 * 72)<=2 ^ 48]<|
 let g:=([u]:List TTr)
 let s:=(a.2.2.2.2.2.1++g)
.reg 15 [7,10] [(6,hv (AV.d (eL TTr.e g))),(7,{ cast:=some (AV.ref 4 s.length 0 s.length),obs:=[(4,(eS 7 TTr.e s))] })] [.pf (z5 TTr.e g),.e a.2.2.2.2.2.1.length,.e a.2.2.2.2.2.1.length,.pf (p:=∀ k,k<1->(TTr.d (g.getD k dF)).wd=7) (fun _ _=>rfl),.ev 0,.pf (zh (o:=4) (l:=a.2.2.2.2.2.1) (x:=g)),.pf (zg (sz:=7) (e:=TTr.e) (l:=a.2.2.2.2.2.1) (x:=g))]<|
.r (.next (c.2.1,c.2.2.1,c.2.2.2.1,c.2.2.2.2.1,c.2.2.2.2.2,s))) (
.r (.next (c.2.1,c.2.2.1,c.2.2.2.1,c.2.2.2.2.1,c.2.2.2.2.2,a.2.2.2.2.2.1)))) fun b=>
.guard [(a.2.2.2.2.2.2.length+1) * (2 * 8)<=2 ^ 48]<|
 let j:=([c.1]:List Int)
 let t:=(a.2.2.2.2.2.2++j)
.reg 16 [] [(2,hv (vl j)),(3,{ h:=.obj,cast:=some (AV.ref 5 t.length 0 t.length),obs:=[(5,(eS 1 (DV.i .i64) t))] })] [.pf (z5 (DV.i .i64) j),.e a.2.2.2.2.2.2.length,.e a.2.2.2.2.2.2.length,.pf (p:=∀ k,k<1->(AV.d ((DV.i .i64) (j.getD k dF))).wd=1) (fun _ _=>rfl),.ev 0,.pf (zh (o:=5) (l:=a.2.2.2.2.2.2) (x:=j)),.pf (zg (sz:=1) (e:=(DV.i .i64)) (l:=a.2.2.2.2.2.2) (x:=j))]<|
.r (.cont (b.1,b.2.1,b.2.2.1,b.2.2.2.1,b.2.2.2.2.1,b.2.2.2.2.2,t)))
def S_q4u (m:TLa) (h:(List TTr)):SC R_q4u R_q4u :=
.a 1 1 2 (@F_q2i_ok m) fun g=>
.ite (g != 0) (
.ret [.pf (p:=LeV (AV.tup [(AV.d (DV.lit (.pointer none))),(AV.full 0 fun _=>DV.b false),(vi g)]) (AV.tup [AV.bot,(vl ([])),(vi g)])) (LeV.tup (LeVs.cons z4y (LeVs.cons (lvN (DV.i .i64)) (LeVs.cons (LeV.refl _) LeVs.nil))))] ([],g)) (
.ite (decide ((h.length:Int)>60)) (
.ret [.pf zll] ([],3)) (
.call (@F_q2j_ok m) fun f l=>
.k 6 1 l [] 2 false<|
.reg 8 [] [] []<|
.bor 1 (fun j=>AV.d ((DV.i .i64) (([]:List Int).getD j dF))) [9]<|
.guard [h.length<2 ^ 63]<|
.range (h.length:Int) h.length rfl (.why (.ev 0)) 25 [1,8,23,24] (fun (c:TLa×Bool×Int×TLa×Int×(List TTr)×(List Int))=>[(9,(AV.ref 5 c.2.2.2.2.2.2.length 0 c.2.2.2.2.2.2.length))]) (fun c=>[(3,(Ob.box (AV.agg [(TLa.d c.1),(AV.ref 4 c.2.2.2.2.2.1.length 0 c.2.2.2.2.2.1.length),(vb c.2.1),(vi c.2.2.1),(TLa.d c.2.2.2.1),(vi c.2.2.2.2.1)]))),(4,(eS 7 TTr.e c.2.2.2.2.2.1)),(5,(eS 1 (DV.i .i64) c.2.2.2.2.2.2))]) (f.1,f.2.1,f.2.2.1,f.2.2.2.1,f.2.2.2.2.1,f.2.2.2.2.2,([]:List Int)) (S_q4u_b1 h) (fun c => 
.guard [c.2.2.2.2.2.2.length<2 ^ 63]<|
.reg 18 [] [] []<|
.frz 5 (.ev 0) none [5] []<|
.ret [.pf (p:=LeV (AV.tup [(vp 3),(vl c.2.2.2.2.2.2),(vi 0)]) (AV.tup [AV.bot,(vl c.2.2.2.2.2.2),(vi 0)])) (LeV.tup (LeVs.cons z4y (LeVs.cons (LeV.refl _) (LeVs.cons (LeV.refl _) LeVs.nil))))] (c.2.2.2.2.2.2,0)) id))
theorem zmg:LeV (AV.d (DV.agg [(DV.i .i64 0),(DV.i .i64 1),(eL THe.e ([(⟨[49],[97]⟩:THe),(⟨[49,46,49],[98]⟩:THe),(⟨[50],[99]⟩:THe)]:List THe)),(eL TLi.e ([(⟨[49,46,49],0,500⟩:TLi),(⟨[50],0,100⟩:TLi)]:List TLi)),Z0,Z0,Z0,Z0,(eL TRu.e ([(⟨1,[49],[50],10⟩:TRu)]:List TRu)),Z0])) (TLa.d (⟨0,1,([(⟨[49],[97]⟩:THe),(⟨[49,46,49],[98]⟩:THe),(⟨[50],[99]⟩:THe)]:List THe),([(⟨[49,46,49],0,500⟩:TLi),(⟨[50],0,100⟩:TLi)]:List TLi),[],[],[],[],([(⟨1,[49],[50],10⟩:TRu)]:List TRu),[]⟩:TLa)):=zaa rfl (DLe.agg (DLeL.cons (DLe.refl _) (DLeL.cons (DLe.refl _) (DLeL.cons (DLe.refl _) (DLeL.cons (DLe.refl _) (DLeL.cons DLe.sl0 (DLeL.cons DLe.sl0 (DLeL.cons DLe.sl0 (DLeL.cons DLe.sl0 (DLeL.cons (DLe.refl _) (DLeL.cons DLe.sl0 DLeL.nil)))))))))))
def S_q4n:SC TLa TLa :=
.reg 0 [] [(0,{ obs:=[(0,(TLa.b (⟨0,0,[],[],[],[],[],[],[],[]⟩:TLa)))] })] [.pf cz2]<|
 let h:=(⟨[49,46,49],0,500⟩:TLi)
 let a:=([h,(⟨[50],0,100⟩:TLi)]:List TLi)
 let i:=(⟨[49,46,49],[98]⟩:THe)
 let c:=([(⟨[49],[97]⟩:THe),i,(⟨[50],[99]⟩:THe)]:List THe)
 let j:=(⟨1,[49],[50],10⟩:TRu)
 let f:=([j]:List TRu)
 let g:=(⟨0,1,c,a,[],[],[],[],f,[]⟩:TLa)
.reg 1 [] [(3,hv (AV.d (eL THe.e c))),(6,hv (AV.d (eL TLi.e a))),(8,hv (AV.d (eL TRu.e f))),(9,hv (TLa.d g))] [.pf (z5 THe.e c),.pf (z5 TLi.e a),.pf (z5 TRu.e f),.pf zmg]<|
.r g
def F_q4n:=S_q4n.den
theorem F_q4n_ok :FO F_q4n 33 [] [] (fun x=>(TLa.d x)) NL:=fO (s:=S_q4n) Tryz.func33
abbrev R_q1h:=(List Int)×Int
def S_q1h_b1 (v:(List TTr)) (m:Nat) (a:TLa×Bool×Int×TLa×Int×(List TTr)×(List Int)):SC R_q1h (Step (TLa×Bool×Int×TLa×Int×(List TTr)×(List Int)) R_q1h) :=
.reg 10 [] [] [.w m,.ev 0]<|
 let j:=(decide ((m:Int)>0))
 let s:=(i64.wrap ((m:Int)-1))
 let t:=(v.getD m dF)
.calld [j=true] dF (@F_q2k_ok (v.getD s.toNat dF) t) fun y u =>
.guard [AllP [j=true]->((0:Int)<=s),AllP [j=true]->(s.toNat<v.length)]<|
.reg 11 [] [(9,hc u [] true)] [.ev 0,.ev 1,.clg 2 [j=true] u [] 6 true]<|
.ite (bif j then (decide (y>=0)) else false) (
.ret [.pf zlk] (.ret ([],8))) (
.call (@F_q2l_ok t a.1 a.2.1 a.2.2.1 a.2.2.2.1 a.2.2.2.2.1 a.2.2.2.2.2.1) fun c z=>
.k 13 2 z [2,3] 6 false<|
.cut none [1,8,9,12,23,24,25] (fun (_:TLa×Bool×Int×TLa×Int×(List TTr))=>[]) (fun b=>[(2,(Ob.box (AV.agg [(TLa.d b.1),(AV.ref 3 b.2.2.2.2.2.length 0 b.2.2.2.2.2.length),(vb b.2.1),(vi b.2.2.1),(TLa.d b.2.2.2.1),(vi b.2.2.2.2.1)]))),(3,(eS 7 TTr.e b.2.2.2.2.2))]) (
.ite (c.1==0) (
.guard [(a.2.2.2.2.2.1.length+1) * (2 * 72)<=2 ^ 48]<|
 let f:=([t]:List TTr)
 let n:=(a.2.2.2.2.2.1++f)
.reg 15 [7,10] [(6,hv (AV.d (eL TTr.e f))),(7,{ cast:=some (AV.ref 3 n.length 0 n.length),obs:=[(3,(eS 7 TTr.e n))] })] [.pf (z5 TTr.e f),.e a.2.2.2.2.2.1.length,.e a.2.2.2.2.2.1.length,.pf (p:=∀ k,k<1->(TTr.d (f.getD k dF)).wd=7) (fun _ _=>rfl),.ev 0,.pf (zh (o:=3) (l:=a.2.2.2.2.2.1) (x:=f)),.pf (zg (sz:=7) (e:=TTr.e) (l:=a.2.2.2.2.2.1) (x:=f))]<|
.r (.next (c.2.1,c.2.2.1,c.2.2.2.1,c.2.2.2.2.1,c.2.2.2.2.2,n))) (
.r (.next (c.2.1,c.2.2.1,c.2.2.2.1,c.2.2.2.2.1,c.2.2.2.2.2,a.2.2.2.2.2.1)))) fun b=>
.guard [(a.2.2.2.2.2.2.length+1) * (2 * 8)<=2 ^ 48]<|
 let g:=([c.1]:List Int)
 let q:=(a.2.2.2.2.2.2++g)
.reg 16 [] [(2,hv (vl g)),(3,{ h:=.obj,cast:=some (AV.ref 4 q.length 0 q.length),obs:=[(4,(eS 1 (DV.i .i64) q))] })] [.pf (z5 (DV.i .i64) g),.e a.2.2.2.2.2.2.length,.e a.2.2.2.2.2.2.length,.pf (p:=∀ k,k<1->(AV.d ((DV.i .i64) (g.getD k dF))).wd=1) (fun _ _=>rfl),.ev 0,.pf (zh (o:=4) (l:=a.2.2.2.2.2.2) (x:=g)),.pf (zg (sz:=1) (e:=(DV.i .i64)) (l:=a.2.2.2.2.2.2) (x:=g))]<|
.r (.cont (b.1,b.2.1,b.2.2.1,b.2.2.2.1,b.2.2.2.2.1,b.2.2.2.2.2,q)))
def S_q1h (m:TLa) (h:(List TTr)):SC R_q1h R_q1h :=
.a 1 1 1 (@F_q2i_ok m) fun g=>
.ite (g != 0) (
.ret [.pf (p:=LeV (AV.tup [(AV.d (DV.lit (.pointer none))),(AV.full 0 fun _=>DV.b false),(vi g)]) (AV.tup [AV.bot,(vl ([])),(vi g)])) (LeV.tup (LeVs.cons z4y (LeVs.cons (lvN (DV.i .i64)) (LeVs.cons (LeV.refl _) LeVs.nil))))] ([],g)) (
.ite (decide ((h.length:Int)>60)) (
.ret [.pf zll] ([],3)) (
.call (@F_q2j_ok m) fun f l=>
.k 6 1 l [] 1 false<|
.reg 8 [] [] []<|
.bor 1 (fun j=>AV.d ((DV.i .i64) (([]:List Int).getD j dF))) [9]<|
.range (h.length:Int) h.length rfl (.slot 1) 25 [1,8,23,24] (fun (c:TLa×Bool×Int×TLa×Int×(List TTr)×(List Int))=>[(9,(AV.ref 4 c.2.2.2.2.2.2.length 0 c.2.2.2.2.2.2.length))]) (fun c=>[(2,(Ob.box (AV.agg [(TLa.d c.1),(AV.ref 3 c.2.2.2.2.2.1.length 0 c.2.2.2.2.2.1.length),(vb c.2.1),(vi c.2.2.1),(TLa.d c.2.2.2.1),(vi c.2.2.2.2.1)]))),(3,(eS 7 TTr.e c.2.2.2.2.2.1)),(4,(eS 1 (DV.i .i64) c.2.2.2.2.2.2))]) (f.1,f.2.1,f.2.2.1,f.2.2.2.1,f.2.2.2.2.1,f.2.2.2.2.2,([]:List Int)) (S_q1h_b1 h) (fun c => 
.guard [c.2.2.2.2.2.2.length<2 ^ 63]<|
.reg 18 [] [] []<|
.frz 4 (.ev 0) none [5] []<|
.ret [.pf (p:=LeV (AV.tup [(vp 2),(vl c.2.2.2.2.2.2),(vi 0)]) (AV.tup [AV.bot,(vl c.2.2.2.2.2.2),(vi 0)])) (LeV.tup (LeVs.cons z4y (LeVs.cons (LeV.refl _) (LeVs.cons (LeV.refl _) LeVs.nil))))] (c.2.2.2.2.2.2,0)) id))
def F_q1h (a:TLa) (b:(List TTr)):=(S_q1h a b).den
theorem F_q1h_ok {a:TLa} {b:(List TTr)}:FO (F_q1h a b) 28 [(TLa.d a),(AV.d (eL TTr.e b))] [] (fun x=>(AV.tup [AV.bot,(vl x.1),(vi x.2)])) NL:=fO (s:=S_q1h a b) Tryz.func28
abbrev R_q37:=(List Int)×Int
def S_q37 (c:TLa) (d:(List TTr)):SC R_q37 R_q37 :=
.a 1 2 1 (@F_q1h_ok c d) fun b=>
.r (b.1,b.2)
def F_q37 (a:TLa) (b:(List TTr)):=(S_q37 a b).den
theorem F_q37_ok {a:TLa} {b:(List TTr)}:FO (F_q37 a b) 14 [(TLa.d a),(AV.d (eL TTr.e b))] [] (fun x=>(AV.tup [(vl x.1),(vi x.2)])) NL:=fO (s:=S_q37 a b) Tryz.func14
def S_q2w:SC Bool Bool :=
.call (@F_q4n_ok) fun l g=>
 let m:=(⟨1,0,0,1,[49,46,49],[50],50⟩:TTr)
 let b:=([m,(⟨2,0,0,1,[49,46,49],[50],1⟩:TTr)]:List TTr)
.call (@F_q37_ok l b) fun a h=>
.reg 1 [] [(0,hc g [] true),(3,hv (AV.d (eL TTr.e b))),(4,hc h [] true)] [.cl 1 g [] 0 true,.pf (z5 TTr.e b),.cl 0 h [] 0 true]<|
.call (@F_q4n_ok) fun n i=>
.call (@F_q45_ok n ([]) (⟨1,0,0,1,[49,46,49],[50],0⟩:TTr)) fun j k=>
.reg 2 [] [(0,hc i [] true),(2,hc k [] true)] [.cl 1 i [] 0 true,.cl 0 k [] 0 true]<|
 let c:=(bif (a.2==0) then ((a.1.length:Int)==2) else false)
 let f:=(bif c then ((a.1.getD 0 dF)==0) else false)
.guard [AllP [c=true]->(0<a.1.length),AllP [f=true]->(1<a.1.length)]<|
.reg 3 [] [] [.pf (p:=AllP [c=true]->((0:Int)<=0)) (fun _=>dk),.ev 0,.pf (p:=AllP [f=true]->((0:Int)<=1)) (fun _=>dk),.ev 1]<|
.r (bif (bif (bif f then ((a.1.getD 1 dF)==13) else false) then (j.2==0) else false) then (j.1==50) else false)
def F_q2w:=S_q2w.den
theorem F_q2w_ok :FO F_q2w 15 [] [] vb NL:=fO (s:=S_q2w) Tryz.func15
abbrev R_qb:=(List TTr)×Int
def S_qb (g:TLa) (h:(List TTr)):SC R_qb R_qb :=
.reg 0 [] [] []<|
.split ((F_qa g h).isSome) (
.call (@F_qa_ok g h) fun f i=>
.k 1 2 i [] 1 false<|
.guard [(f.2.1 != 0)=false]<|
.br false (.ev 0)<|
.guard [f.2.2.2.2.2.2.2.length<2 ^ 63]<|
.reg 4 [] [] []<|
.frz 4 (.ev 0) none [4] [3]<|
.r (f.2.2.2.2.2.2.2,0)) (
.a 1 2 1 (@F_q2p_ok g h) fun c=>
.guard [(c.2 != 0)=true]<|
.br true (.ev 0)<|
.ret [.pf (p:=LeV (AV.tup [(AV.full 0 fun _=>DV.b false),(vi c.2)]) (AV.tup [(AV.d (eL TTr.e ([]))),(vi c.2)])) (LeV.tup (LeVs.cons (lvN TTr.e) (LeVs.cons (LeV.refl _) LeVs.nil)))] ([],c.2))
def F_qb (a:TLa) (b:(List TTr)):=(S_qb a b).den
theorem F_qb_ok {a:TLa} {b:(List TTr)}:FO (F_qb a b) 16 [(TLa.d a),(AV.d (eL TTr.e b))] [] (fun x=>(AV.tup [(AV.d (eL TTr.e x.1)),(vi x.2)])) NL:=fO (s:=S_qb a b) Tryz.func16
def S_q1i_b1 (e:(List TTr)) (d:(List TTr)) (c:Nat) (_:Unit):SC Bool (Step Unit Bool) :=
.guard [c<d.length]<|
.reg 6 [] [] [.w c,.ev 1,.w c,.ev 0]<|
 let a:=(e.getD c dF)
 let b:=(d.getD c dF)
.ite (!((a.F==b.F)&&((a.H==b.H)&&((a.D==b.D)&&((a.Q==b.Q)&&((a.K==b.K)&&((a.V==b.V)&&((a.C==b.C)&&true)))))))) (
.r (.ret false)) (
.r (.cont ()))
def S_q1i (a:(List TTr)) (b:(List TTr)):SC Bool Bool :=
.ite ((a.length:Int) != (b.length:Int)) (
.r false) (
.range (a.length:Int) a.length rfl (.slot 0) 13 [0,1,12] (fun (_:Unit)=>[]) (fun _=>[]) () (S_q1i_b1 a b) (fun _ => 
.r true) id)
def F_q1i (a:(List TTr)) (b:(List TTr)):=(S_q1i a b).den
theorem F_q1i_ok {a:(List TTr)} {b:(List TTr)}:FO (F_q1i a b) 17 [(AV.d (eL TTr.e a)),(AV.d (eL TTr.e b))] [] vb NL:=fO (s:=S_q1i a b) Tryz.func17
def S_qu_b1 (d:Y8) (a:Int):SC Bool (Step Int Bool) :=
.ite (decide (a<(d.length:Int))) (
 let c:=((d.getD a.toNat 0).toNat:Int)
 let b:=(decide (c<32))
.guard [(0:Int)<=a,a.toNat<d.length,AllP [b=false]->((0:Int)<=a),AllP [b=false]->(a.toNat<d.length)]<|
.reg 6 [] [] [.ev 0,.ev 1,.ev 2,.ev 3]<|
.ite (cO b (decide (c>126))) (
.r (.ret false)) (
.r (.cont (i64.wrap (a+1))))) (
.r (.brk a))
def S_qu (e:Y8):SC Bool Bool :=
 let a:=(e.length:Int)
 let b:=(cO (decide (a<1)) (decide (a>40)))
 let c:=(cO b (((e.getD 0 0).toNat:Int)==32))
 let d:=(i64.wrap (a-1))
.guard [AllP [b=false]->(0<e.length),AllP [c=false]->((0:Int)<=d),AllP [c=false]->(d.toNat<e.length)]<|
.reg 1 [] [] [.pf (p:=AllP [b=false]->((0:Int)<=0)) (fun _=>dk),.ev 0,.ev 1,.ev 2]<|
.ite (cO c (((e.getD d.toNat 0).toNat:Int)==32)) (
.r false) (
.iter [0] (fun (f:Int)=>[(3,(vi f))]) (fun _=>[]) 0 (S_qu_b1 e) (fun _ =>
.r true) id)
def F_qu (a:Y8):=(S_qu a).den
theorem F_qu_ok {a:Y8}:FO (F_qu a) 135 [(AV.d (DV.str a))] [] vb NL:=fO (s:=S_qu a) Tryz.func135
def S_q1j_b1 (b:(List THe)) (c:Y8) (a:Nat) (_:Unit):SC Bool (Step Unit Bool) :=
.reg 3 [] [] [.w a,.ev 0]<|
.ite (((b.getD a dF).B)==c) (
.r (.ret true)) (
.r (.cont ()))
def S_q1j (a:(List THe)) (b:Y8):SC Bool Bool :=
.range (a.length:Int) a.length rfl (.slot 7) 9 [1,7,8] (fun (_:Unit)=>[]) (fun _=>[]) () (S_q1j_b1 a b) (fun _ => 
.r false) id
def F_q1j (a:(List THe)) (b:Y8):=(S_q1j a b).den
theorem F_q1j_ok {a:(List THe)} {b:Y8}:FO (F_q1j a b) 136 [(AV.d (eL THe.e a)),(AV.d (DV.str b))] [] vb NL:=fO (s:=S_q1j a b) Tryz.func136
def S_q25_b1 (l:(List THe)) (b:Nat) (_:Unit):SC (Int×Int) (Step Unit (Int×Int)) :=
.reg 5 [] [] [.w b,.ev 0]<|
 let c:=(l.getD b dF)
.a 6 2 1 (@F_qc_ok c.B) fun m=>
 let f:=(i64.wrap ((b:Int)+1))
.ite (!m) (
.r (.ret (f,5))) (
.a 8 2 1 (@F_qu_ok c.X) fun n=>
.ite (!n) (
.r (.ret (f,4))) (
 let d:=(decide ((b:Int)>0))
 let g:=(i64.wrap ((b:Int)-1))
.calld [d=true] dF (@F_qf_ok ((l.getD g.toNat dF).B) c.B) fun o h =>
.guard [AllP [d=true]->((0:Int)<=g),AllP [d=true]->(g.toNat<l.length)]<|
.reg 10 [] [(11,hc h [] true)] [.ev 0,.ev 1,.clg 2 [d=true] h [] 1 true]<|
.ite (bif d then (decide (o>=0)) else false) (
.r (.ret (f,8))) (
.call (@F_qg_ok c.B) fun p i=>
 let e:=(!(p==([])))
.calld [e=true] dF (@F_qg_ok c.B) fun q j =>
.calld [e=true] dF (@F_q1j_ok l q) fun s k =>
.reg 12 [] [(2,hc i [] true),(8,hc j [] true),(9,hc k [] true)] [.cl 4 i [] 1 true,.clg 2 [e=true] j [] 1 true,.clg 0 [e=true] k [] 1 true]<|
.ite (bif e then (!s) else false) (
.r (.ret (f,6))) (
.r (.cont ())))))
def S_q25 (a:(List THe)):SC (Int×Int) (Int×Int) :=
.ite (decide ((a.length:Int)>60)) (
.r (0,3)) (
.range (a.length:Int) a.length rfl (.slot 0) 11 [0,9,10] (fun (_:Unit)=>[]) (fun _=>[]) () (S_q25_b1 a) (fun _ => 
.r (0,0)) id)
def F_q25 (a:(List THe)):=(S_q25 a).den
theorem F_q25_ok {a:(List THe)}:FO (F_q25 a) 104 [(AV.d (eL THe.e a))] [] (fun x=>(AV.tup [(vi x.1),(vi x.2)])) NL:=fO (s:=S_q25 a) Tryz.func104
def S_q46 (c:(List THe)):SC Int Int :=
.a 1 1 0 (@F_q25_ok c) fun b=>
.r b.2
def F_q46 (a:(List THe)):=(S_q46 a).den
theorem F_q46_ok {a:(List THe)}:FO (F_q46 a) 56 [(AV.d (eL THe.e a))] [] vi NL:=fO (s:=S_q46 a) Tryz.func56
def S_q1k_b1 (c:TLa) (a:Nat) (_:Unit):SC Int (Step Unit Int) :=
.reg 5 [] [(2,{ obs:=[(1,(TAm.b (⟨0,0,[]⟩:TAm)))] })] [.w a,.ev 0,.pf cz3]<|
.ite (decide ((((c.A.getD a dF).M).length:Int)>20)) (
.r (.ret 3)) (
.r (.cont ()))
def S_q1k (a:TLa):SC Int Int :=
.ite (cO (cO (cO (cO (cO (cO (decide ((a.P.length:Int)>120)) (decide ((a.S.length:Int)>60))) (decide ((a.U.length:Int)>60))) (decide ((a.L.length:Int)>20))) (decide ((a.O.length:Int)>20))) (decide ((a.I.length:Int)>20))) (decide ((a.A.length:Int)>20))) (
.r 3) (
.range (a.A.length:Int) a.A.length rfl (.slot 46) 48 [46,47] (fun (_:Unit)=>[]) (fun _=>[]) () (S_q1k_b1 a) (fun _ => 
.r 0) id)
def F_q1k (a:TLa):=(S_q1k a).den
theorem F_q1k_ok {a:TLa}:FO (F_q1k a) 57 [(TLa.d a)] [] vi NL:=fO (s:=S_q1k a) Tryz.func57
def S_q1l (c:TLa) (d:Y8):SC Bool Bool :=
.a 1 3 1 (@F_q1j_ok c.E d) fun b=>
.r b
def F_q1l (a:TLa) (b:Y8):=(S_q1l a b).den
theorem F_q1l_ok {a:TLa} {b:Y8}:FO (F_q1l a b) 109 [(TLa.d a),(AV.d (DV.str b))] [] vb NL:=fO (s:=S_q1l a b) Tryz.func109
def S_qv_b1 (d:TLa) (e:Y8) (b:Nat) (_:Unit):SC Bool (Step Unit Bool) :=
.reg 5 [] [] [.w b,.ev 0]<|
.a 6 2 2 (@F_qg_ok ((d.E.getD b dF).B)) fun c=>
.ite (c==e) (
.r (.ret false)) (
.r (.cont ()))
def S_qv (d:TLa) (e:Y8):SC Bool Bool :=
.call (@F_qc_ok e) fun a b=>
.calld [(!a)=false] dF (@F_q1l_ok d e) fun f c =>
.reg 1 [] [(1,hc b [] true),(6,hc c [] true)] [.cl 2 b [] 1 true,.clg 0 [(!a)=false] c [] 1 true]<|
.ite (cO (!a) (!f)) (
.r false) (
.range (d.E.length:Int) d.E.length rfl (.slot 17) 19 [1,17,18] (fun (_:Unit)=>[]) (fun _=>[]) () (S_qv_b1 d e) (fun _ => 
.r true) id)
def F_qv (a:TLa) (b:Y8):=(S_qv a b).den
theorem F_qv_ok {a:TLa} {b:Y8}:FO (F_qv a b) 105 [(TLa.d a),(AV.d (DV.str b))] [] vb NL:=fO (s:=S_qv a b) Tryz.func105
def S_q2q (a:TLa) (b:Int):SC Bool Bool :=
.r (bif (bif (decide (a.J>0)) then (decide (b>=a.G)) else false) then (decide ((IntKind.u64.wrap ((IntKind.u64.wrap b)-(IntKind.u64.wrap a.G)))<(IntKind.u64.wrap a.J))) else false)
def F_q2q (a:TLa) (b:Int):=(S_q2q a b).den
theorem F_q2q_ok {a:TLa} {b:Int}:FO (F_q2q a b) 106 [(TLa.d a),(vi b)] [] vb NL:=fO (s:=S_q2q a b) Tryz.func106
def S_q2m (a:Int):SC Bool Bool :=
.r (bif (decide (a>=0)) then (decide (a<=1000000000000)) else false)
def F_q2m (a:Int):=(S_q2m a).den
theorem F_q2m_ok {a:Int}:FO (F_q2m a) 107 [(vi a)] [] vb NL:=fO (s:=S_q2m a) Tryz.func107
def S_q2x (c:Y8) (d:Int) (e:Y8) (f:Int):SC Bool Bool :=
.a 1 2 0 (@F_qf_ok c e) fun b=>
.r (cO (decide (b<0)) (bif (b==0) then (decide (d<f)) else false))
def F_q2x (a:Y8) (b:Int) (c:Y8) (d:Int):=(S_q2x a b c d).den
theorem F_q2x_ok {a:Y8} {b:Int} {c:Y8} {e:Int}:FO (F_q2x a b c e) 108 [(AV.d (DV.str a)),(vi b),(AV.d (DV.str c)),(vi e)] [] vb NL:=fO (s:=S_q2x a b c e) Tryz.func108
def S_q1m_b1 (f:TLa) (d:Nat) (_:Unit):SC Int (Step Unit Int) :=
.reg 3 [] [] [.w d,.ev 0]<|
 let b:=(f.P.getD d dF)
.a 4 3 2 (@F_qv_ok f b.B) fun i=>
.ite (!i) (
.r (.ret 5)) (
.a 6 3 2 (@F_q2q_ok f b.D) fun j=>
.ite (!j) (
.r (.ret 16)) (
.a 8 2 2 (@F_q2m_ok b.C) fun k=>
.ite (!k) (
.r (.ret 2)) (
 let e:=(i64.wrap ((d:Int)-1))
 let c:=(decide ((d:Int)>0))
 let g:=(f.P.getD e.toNat dF)
.calld [c=true] dF (@F_q2x_ok g.B g.D b.B b.D) fun l h =>
.guard [AllP [c=true]->((0:Int)<=e),AllP [c=true]->(e.toNat<f.P.length)]<|
.reg 10 [] [(21,hc h [] true)] [.ev 0,.ev 1,.ev 0,.ev 1,.clg 2 [c=true] h [] 2 true]<|
.ite (bif c then (!l) else false) (
.r (.ret 8)) (
.r (.cont ())))))
def S_q1m (a:TLa):SC Int Int :=
.range (a.P.length:Int) a.P.length rfl (.slot 6) 8 [1,6,7] (fun (_:Unit)=>[]) (fun _=>[]) () (S_q1m_b1 a) (fun _ => 
.r 0) id
def F_q1m (a:TLa):=(S_q1m a).den
theorem F_q1m_ok {a:TLa}:FO (F_q1m a) 58 [(TLa.d a)] [] vi NL:=fO (s:=S_q1m a) Tryz.func58
def S_qw_b1 (o:TLa) (j:(List TBo)) (d:Nat) (_:Unit):SC Int (Step Unit Int) :=
.reg 3 [] [] [.w d,.ev 0]<|
 let b:=(j.getD d dF)
.a 4 3 2 (@F_q1l_ok o b.B) fun k=>
.ite (!k) (
.r (.ret 5)) (
 let e:=(b.D != (-1))
.calld [e=true] dF (@F_q2q_ok o b.D) fun l g =>
.reg 6 [] [(7,hc g [] true)] [.clg 0 [e=true] g [] 2 true]<|
.ite (bif e then (!l) else false) (
.r (.ret 16)) (
.a 8 2 2 (@F_q2m_ok b.C) fun m=>
.ite (!m) (
.r (.ret 2)) (
 let f:=(i64.wrap ((d:Int)-1))
 let c:=(decide ((d:Int)>0))
 let h:=(j.getD f.toNat dF)
.calld [c=true] dF (@F_q2x_ok h.B h.D b.B b.D) fun n i =>
.guard [AllP [c=true]->((0:Int)<=f),AllP [c=true]->(f.toNat<j.length)]<|
.reg 10 [] [(19,hc i [] true)] [.ev 0,.ev 1,.ev 0,.ev 1,.clg 2 [c=true] i [] 2 true]<|
.ite (bif c then (!n) else false) (
.r (.ret 8)) (
.r (.cont ())))))
def S_qw (b:TLa) (a:(List TBo)):SC Int Int :=
.range (a.length:Int) a.length rfl (.slot 1) 9 [1,2,7,8] (fun (_:Unit)=>[]) (fun _=>[]) () (S_qw_b1 b a) (fun _ => 
.r 0) id
def F_qw (a:TLa) (b:(List TBo)):=(S_qw a b).den
theorem F_qw_ok {a:TLa} {b:(List TBo)}:FO (F_qw a b) 59 [(TLa.d a),(AV.d (eL TBo.e b))] [] vi NL:=fO (s:=S_qw a b) Tryz.func59
def S_q5_b1 (e:TLa) (b:Nat) (_:Unit):SC Int (Step Unit Int) :=
.reg 3 [] [] [.w b,.ev 0]<|
 let a:=(e.L.getD b dF)
.call (@F_q1l_ok e a.T) fun c f=>
.calld [(!c)=false] dF (@F_qv_ok e a.B) fun l g =>
.reg 4 [] [(3,hc f [] true),(9,hc g [] true)] [.cl 2 f [] 2 true,.clg 0 [(!c)=false] g [] 2 true]<|
.ite (cO (!c) (!l)) (
.r (.ret 5)) (
.ite (cO (decide (a.R<0)) (decide (a.R>100))) (
.r (.ret 2)) (
.ite (decide ((b:Int)>0)) (
 let d:=(i64.wrap ((b:Int)-1))
.guard [(0:Int)<=d,d.toNat<e.L.length]<|
.reg 9 [] [] [.ev 0,.ev 1]<|
 let h:=(e.L.getD d.toNat dF)
.call (@F_qf_ok h.T a.T) fun i j=>
.call (@F_qf_ok h.B a.B) fun m k=>
.reg 10 [] [(4,hc j [] true),(9,hc k [] true)] [.cl 1 j [] 3 true,.cl 0 k [] 3 true]<|
.ite (cO (decide (i>0)) (bif (i==0) then (decide (m>=0)) else false)) (
.r (.ret 8)) (
.r (.cont ()))) (
.r (.cont ()))))
def S_q5_b2 (i:TLa) (g:R_q2) (h:Nat) (b:Nat) (d:Int):SC Int (Step Int Int) :=
.reg 20 [] [] [.w b,.ev 0]<|
 let e:=(i.L.getD b dF)
.a 21 3 2 (@F_q1t_ok (g.getD h dF) e.T) fun f=>
.ite f (
.r (.cont (i64.wrap (d+e.R)))) (
.c d)
def S_q5_b3 (c:TLa) (d:R_q2) (b:Nat) (_:Unit):SC Int (Step Unit Int) :=
.reg 16 [] [] [.w b,.ev 0]<|
.range (c.L.length:Int) c.L.length rfl (.slot 81) 83 [1,9,74,75,76,81,82] (fun (a:Int)=>[(10,(vi a))]) (fun _=>[]) 0 (S_q5_b2 c d b) (fun a => 
.ite (decide (a>100)) (
.r (.ret 13)) (
.r (.cont ()))) .ret
def S_q5 (c:TLa):SC Int Int :=
.range (c.L.length:Int) c.L.length rfl (.slot 14) 16 [1,14,15] (fun (_:Unit)=>[]) (fun _=>[]) () (S_q5_b1 c) (fun _ => 
.a 14 2 1 (@F_q2_ok c.E ([])) fun b=>
.range (b.length:Int) b.length rfl (.slot 74) 76 [1,74,75] (fun (_:Unit)=>[]) (fun _=>[]) () (S_q5_b3 c b) (fun _ => 
.r 0) id) id
def F_q5 (a:TLa):=(S_q5 a).den
theorem F_q5_ok {a:TLa}:FO (F_q5 a) 60 [(TLa.d a)] [] vi NL:=fO (s:=S_q5 a) Tryz.func60
def S_q1n_b1 (j:TLa) (e:Nat) (_:Unit):SC Int (Step Unit Int) :=
.reg 3 [] [] [.w e,.ev 0]<|
 let b:=(j.O.getD e dF)
.ite (cO (cO (bif (!(b.N==1)) then (!(b.N==2)) else false) (bif (b.N==1) then (cO (!(b.T==([]))) (b.W != 0)) else false)) (bif (b.N==2) then (b.H != 0) else false)) (
.r (.ret 1)) (
.call (@F_qv_ok j b.B) fun c f=>
.calld [(b.N==2)=true,(!c)=false] dF (@F_q1l_ok j b.T) fun k g =>
.reg 7 [] [(3,hc f [] true),(11,hc g [] true)] [.cl 2 f [] 2 true,.clg 0 [(b.N==2)=true,(!c)=false] g [] 2 true]<|
.ite (cO (!c) (bif (b.N==2) then (!k) else false)) (
.r (.ret 5)) (
.a 9 3 2 (@F_q2q_ok j b.D) fun l=>
.ite (!l) (
.r (.ret 16)) (
.call (@F_q2m_ok b.C) fun d h=>
.calld [(!d)=false] dF (@F_q2m_ok b.W) fun m i =>
.reg 11 [] [(2,hc h [] true),(7,hc i [] true)] [.cl 2 h [] 2 true,.clg 0 [(!d)=false] i [] 2 true]<|
.ite (cO (cO (cO (!d) (!m)) (decide (b.H<0))) (decide (b.H>35990))) (
.r (.ret 2)) (
.r (.cont ())))))
def S_q1n (a:TLa):SC Int Int :=
.range (a.O.length:Int) a.O.length rfl (.slot 8) 10 [1,8,9] (fun (_:Unit)=>[]) (fun _=>[]) () (S_q1n_b1 a) (fun _ => 
.r 0) id
def F_q1n (a:TLa):=(S_q1n a).den
theorem F_q1n_ok {a:TLa}:FO (F_q1n a) 61 [(TLa.d a)] [] vi NL:=fO (s:=S_q1n a) Tryz.func61
end
end Go.Proofs.YtljnmhapbonmfaaGreatDoor
/- What the functions compute,and that their calls return it. No condition. -/
namespace Go.Proofs.YtljnmhapbonmfaaGreatDoor
open Go Go.TA
open Go.IntKind (i64)
noncomputable section
set_option maxRecDepth 100000
def S_q1o_b1 (f:TLa) (b:Nat) (_:Unit):SC Int (Step Unit Int) :=
.reg 3 [] [] [.w b,.ev 0]<|
 let a:=(f.I.getD b dF)
.ite (cO (cO (cO (decide (a.F<1)) (decide (a.F>1000000))) (decide (a.R<0))) (decide (a.R>100))) (
.r (.ret 2)) (
.call (@F_q1l_ok f a.K) fun c g=>
.calld [(!c)=false] dF (@F_q1l_ok f a.V) fun i h =>
.reg 6 [] [(3,hc g [] true),(9,hc h [] true)] [.cl 2 g [] 2 true,.clg 0 [(!c)=false] h [] 2 true]<|
.ite (cO (!c) (!i)) (
.r (.ret 5)) (
 let d:=(i64.wrap ((b:Int)-1))
 let e:=(decide ((b:Int)>0))
.guard [AllP [e=true]->((0:Int)<=d),AllP [e=true]->(d.toNat<f.I.length)]<|
.reg 8 [] [] [.ev 0,.ev 1]<|
.ite (bif e then (decide (((f.I.getD d.toNat dF).F)>=a.F)) else false) (
.r (.ret 8)) (
.r (.cont ()))))
def S_q1o (a:TLa):SC Int Int :=
.range (a.I.length:Int) a.I.length rfl (.slot 6) 8 [1,6,7] (fun (_:Unit)=>[]) (fun _=>[]) () (S_q1o_b1 a) (fun _ => 
.r 0) id
def F_q1o (a:TLa):=(S_q1o a).den
theorem F_q1o_ok {a:TLa}:FO (F_q1o a) 62 [(TLa.d a)] [] vi NL:=fO (s:=S_q1o a) Tryz.func62
def S_q26_b1 (o:TLa) (p:(List TCh)) (f:Nat) (_:Unit):SC Int (Step Unit Int) :=
.reg 3 [] [] [.w f,.ev 0]<|
 let b:=(p.getD f dF)
.ite (cO (decide (b.N<1)) (decide (b.N>3))) (
.r (.ret 1)) (
.call (@F_q1l_ok o b.B) fun h l=>
.calld [(b.N==1)=true,(!h)=false] dF (@F_qv_ok o b.B) fun q m =>
.reg 7 [] [(3,hc l [] true),(11,hc m [] true)] [.cl 2 l [] 2 true,.clg 0 [(b.N==1)=true,(!h)=false] m [] 2 true]<|
.ite (cO (!h) (bif (b.N==1) then (!q) else false)) (
.r (.ret 5)) (
.a 9 3 2 (@F_q2q_ok o b.D) fun s=>
.ite (bif (!s) then (cO (b.N==1) (b.D != (-1))) else false) (
.r (.ret 16)) (
.a 11 2 2 (@F_q2m_ok b.C) fun t=>
.ite (bif (!t) then (cO (b.N != 2) (b.C != (-1))) else false) (
.r (.ret 2)) (
 let i:=(i64.wrap ((f:Int)-1))
 let g:=(p.getD i.toNat dF)
 let c:=(decide ((f:Int)>0))
 let d:=(decide (g.N>b.N))
 let e:=(g.N==b.N)
.calld [e=true,d=false,c=true] dF (@F_q2x_ok g.B g.D b.B b.D) fun u n =>
 let j:=(i.toNat<p.length)
 let k:=((0:Int)<=i)
.guard [AllP [c=true]->k,AllP [c=true]->j,AllP [d=false,c=true]->k,AllP [d=false,c=true]->j,AllP [e=true,d=false,c=true]->k,AllP [e=true,d=false,c=true]->j]<|
.reg 13 [] [(39,hc n [] true)] [.ev 0,.ev 1,.ev 2,.ev 3,.ev 4,.ev 5,.ev 4,.ev 5,.clg 6 [e=true,d=false,c=true] n [] 2 true]<|
.ite (bif c then (cO d (bif e then (!u) else false)) else false) (
.r (.ret 8)) (
.r (.cont ()))))))
def S_q26 (b:TLa) (a:(List TCh)):SC Int Int :=
.range (a.length:Int) a.length rfl (.slot 1) 10 [1,2,8,9] (fun (_:Unit)=>[]) (fun _=>[]) () (S_q26_b1 b a) (fun _ => 
.r 0) id
def F_q26 (a:TLa) (b:(List TCh)):=(S_q26 a b).den
theorem F_q26_ok {a:TLa} {b:(List TCh)}:FO (F_q26 a b) 110 [(TLa.d a),(AV.d (eL TCh.e b))] [] vi NL:=fO (s:=S_q26 a b) Tryz.func110
def S_q1p_b1 (m:TLa) (f:Nat) (_:Unit):SC Int (Step Unit Int) :=
.reg 3 [] [(3,{ obs:=[(1,(TAm.b (⟨0,0,[]⟩:TAm)))] })] [.w f,.ev 0,.pf cz3]<|
 let c:=(m.A.getD f dF)
.ite (cO (cO (cO (decide (c.H<0)) (decide (c.H>35990))) (decide (c.F<1))) (decide (c.F>1000000))) (
.r (.ret 2)) (
 let g:=(i64.wrap ((f:Int)-1))
 let h:=(m.A.getD g.toNat dF)
 let d:=(decide ((f:Int)>0))
 let e:=(decide (h.H>c.H))
 let i:=(g.toNat<m.A.length)
 let j:=(h.H==c.H)
 let k:=((0:Int)<=g)
.guard [AllP [d=true]->k,AllP [d=true]->i,AllP [e=false,d=true]->k,AllP [e=false,d=true]->i,AllP [j=true,e=false,d=true]->k,AllP [j=true,e=false,d=true]->i]<|
.reg 6 [] [] [.ev 0,.ev 1,.ev 2,.ev 3,.ev 4,.ev 5]<|
.ite (bif d then (cO e (bif j then (decide (h.F>=c.F)) else false)) else false) (
.r (.ret 8)) (
.ite ((c.M.length:Int)==0) (
.r (.ret 1)) (
.a 10 3 2 (@F_q26_ok m c.M) fun l=>
.ite (l != 0) (
.r (.ret l)) (
.r (.cont ())))))
def S_q1p (a:TLa):SC Int Int :=
.range (a.A.length:Int) a.A.length rfl (.slot 7) 9 [1,7,8] (fun (_:Unit)=>[]) (fun _=>[]) () (S_q1p_b1 a) (fun _ => 
.r 0) id
def F_q1p (a:TLa):=(S_q1p a).den
theorem F_q1p_ok {a:TLa}:FO (F_q1p a) 63 [(TLa.d a)] [] vi NL:=fO (s:=S_q1p a) Tryz.func63
def S_q27_b1 (c:Int) (d:Int) (e:Int) (f:Int) (g:Int) (h:Int) (i:Int) (j:Int) (a:Nat) (_:Unit):SC Int (Step Unit Int) :=
.reg 8 [] [] [.w a,.ev 0]<|
 let b:=(([c,d,e,f,g,h,i,j]:List Int).getD a dF)
.ite (b != 0) (
.r (.ret b)) (
.r (.cont ()))
def S_q27 (b:TLa):SC Int Int :=
.ite (cO (cO (cO (cO (decide (b.G<0)) (decide (b.G>99))) (decide (b.J<1))) (decide (b.J>4))) (decide ((i64.wrap ((i64.wrap (b.G+b.J))-1))>99))) (
.r 2) (
.a 3 2 1 (@F_q46_ok b.E) fun c=>
.ite (c != 0) (
.r c) (
.call (@F_q1k_ok b) fun d e=>
.call (@F_q1m_ok b) fun f g=>
.call (@F_qw_ok b b.S) fun h j=>
.call (@F_qw_ok b b.U) fun k l=>
.call (@F_q5_ok b) fun m n=>
.call (@F_q1n_ok b) fun o q=>
.call (@F_q1o_ok b) fun s t=>
.call (@F_q1p_ok b) fun u v=>
 let w:=([d,f,h,k,m,o,s,u]:List Int)
.reg 6 [] [(1,hc e [] true),(3,hc g [] true),(7,hc j [] true),(11,hc l [] true),(13,hc n [] true),(15,hc q [] true),(17,hc t [] true),(19,hc v [] true),(20,hv (vl w))] [.cl 7 e [] 1 true,.cl 6 g [] 1 true,.cl 5 j [] 1 true,.cl 4 l [] 1 true,.cl 3 n [] 1 true,.cl 2 q [] 1 true,.cl 1 t [] 1 true,.cl 0 v [] 1 true,.pf (z5 (DV.i .i64) w)]<|
.range 8 8 rfl (.why (.pf (p:=8<2 ^ 63) dk)) 61 [59,60] (fun (_:Unit)=>[]) (fun _=>[]) () (S_q27_b1 d f h k m o s u) (fun _ => 
.r 0) id))
def F_q27 (a:TLa):=(S_q27 a).den
theorem F_q27_ok {a:TLa}:FO (F_q27 a) 34 [(TLa.d a)] [] vi NL:=fO (s:=S_q27 a) Tryz.func34
def S_q4o (a:Int):SC Bool Bool :=
.r (bif (decide (a>=0)) then (decide (a<=36000)) else false)
def F_q4o (a:Int):=(S_q4o a).den
theorem F_q4o_ok {a:Int}:FO (F_q4o a) 35 [(vi a)] [] vb NL:=fO (s:=S_q4o a) Tryz.func35
abbrev R_q28:=(List TBo)
def S_q28_b1 (i:(List TLi)) (g:Nat) (a:(List TBo)):SC R_q28 (Step ((List TBo)) R_q28) :=
.reg 4 [] [] [.w g,.ev 0]<|
.guard [(a.length+1) * (2 * 32)<=2 ^ 48]<|
 let f:=(i.getD g dF)
 let b:=([(⟨f.B,f.D,f.C⟩:TBo)]:List TBo)
.reg 5 [] [(8,hv (AV.d (eL TBo.e b))),(9,{ h:=.obj,cast:=some (AV.ref 0 ((a++b).length) 0 ((a++b).length)),obs:=[(0,(eS 3 TBo.e (a++b)))] })] [.pf (z5 TBo.e b),.e a.length,.e a.length,.pf (p:=∀ k,k<1->(TBo.d (b.getD k dF)).wd=3) (fun _ _=>rfl),.ev 0,.pf (zh (o:=0) (l:=a) (x:=b)),.pf (zg (sz:=3) (e:=TBo.e) (l:=a) (x:=b))]<|
.c (a++b)
def S_q28 (b:(List TLi)):SC R_q28 R_q28 :=
.reg 2 [] [] []<|
.bor 3 (fun j=>AV.d (TBo.e (([]:List TBo).getD j dF))) [3]<|
.range (b.length:Int) b.length rfl (.slot 6) 8 [6,7] (fun (a:(List TBo))=>[(3,(AV.ref 0 a.length 0 a.length))]) (fun a=>[(0,(eS 3 TBo.e a))]) ([]:List TBo) (S_q28_b1 b) (fun a => 
.guard [a.length<2 ^ 63]<|
.reg 7 [] [] []<|
.frz 0 (.ev 0) none [2] []<|
.r a) id
def F_q28 (a:(List TLi)):=(S_q28 a).den
theorem F_q28_ok {a:(List TLi)}:FO (F_q28 a) 64 [(AV.d (eL TLi.e a))] [] (fun x=>(AV.d (eL TBo.e x))) NL:=fO (s:=S_q28 a) Tryz.func64
abbrev R_q29:=Int×Bool
def S_q29_b1 (f:(List TBo)) (g:Y8) (e:Int) (b:Nat) (_:Unit):SC R_q29 (Step Unit R_q29) :=
.reg 3 [] [] [.w b,.ev 0]<|
 let c:=(f.getD b dF)
.a 4 3 1 (@F_qf_ok c.B g) fun d=>
.ite (cO (decide (d>0)) (bif (d==0) then (decide (c.D>=e)) else false)) (
.r (.ret ((b:Int),(bif (d==0) then (c.D==e) else false)))) (
.r (.cont ()))
def S_q29 (a:(List TBo)) (b:Y8) (c:Int):SC R_q29 R_q29 :=
.range (a.length:Int) a.length rfl (.slot 0) 13 [0,1,2,11,12] (fun (_:Unit)=>[]) (fun _=>[]) () (S_q29_b1 a b c) (fun _ => 
.r ((a.length:Int),false)) id
def F_q29 (a:(List TBo)) (b:Y8) (c:Int):=(S_q29 a b c).den
theorem F_q29_ok {a:(List TBo)} {b:Y8} {c:Int}:FO (F_q29 a b c) 111 [(AV.d (eL TBo.e a)),(AV.d (DV.str b)),(vi c)] [] (fun x=>(AV.tup [(vi x.1),(vb x.2)])) NL:=fO (s:=S_q29 a b c) Tryz.func111
def S_q2y (m:(List TBo)) (n:TCh) (q:Int):SC (List TBo) (List TBo) :=
.a 1 5 1 (@F_q29_ok m n.B n.D) fun i=>
 let c:=(m.take i.1.toNat)
.guard [(0:Int)<=i.1,i.1.toNat<=m.length,c.length * (2 * 32)<=2 ^ 48]<|
.reg 2 [] [(3,hv (AV.d (eL TBo.e c))),(4,{ h:=.obj })] [.ev 0,.ev 1,.der (fun (h0:i.1.toNat<=m.length)=>lvT TBo.e m h0) 1,.pf (p:=∀ k,k<c.length->(TBo.d (c.getD k dF)).wd=3) (fun _ _=>rfl),.ev 2]<|
.cut none [0,7,8] (fun (b:(List TBo))=>[(9,(AV.ref 1 b.length 0 b.length))]) (fun b=>[(1,(eS 3 TBo.e b))]) (
.ite (n.C != q) (
.guard [(c.length+1) * (2 * 32)<=2 ^ 48]<|
 let g:=([(⟨n.B,n.D,n.C⟩:TBo)]:List TBo)
.reg 4 [] [(8,hv (AV.d (eL TBo.e g))),(9,{ h:=.obj,cast:=some (AV.ref 1 ((c++g).length) 0 ((c++g).length)),obs:=[(1,(eS 3 TBo.e (c++g)))] })] [.pf (z5 TBo.e g),.e c.length,.e c.length,.pf (p:=∀ k,k<1->(TBo.d (g.getD k dF)).wd=3) (fun _ _=>rfl),.ev 0,.pf (zh (o:=1) (l:=c) (x:=g)),.pf (zg (sz:=3) (e:=TBo.e) (l:=c) (x:=g))]<|
.r (.next (c++g))) (
.r (.next c))) fun b=>
.cut none [0,9] (fun (j:Int)=>[(7,(vi j))]) (fun _=>[]) (
.ite i.2 (
.r (.next (i64.wrap (i.1+1)))) (
.r (.next i.1))) fun j=>
 let f:=(m.drop j.toNat)
.guard [(0:Int)<=j,j.toNat<=m.length,(b.length+f.length) * (2 * 32)<=2 ^ 48]<|
.reg 7 [] [(3,hv (AV.d (eL TBo.e f))),(4,{ cast:=some (AV.ref 1 ((b++f).length) 0 ((b++f).length)),obs:=[(1,(eS 3 TBo.e (b++f)))] })] [.ev 0,.ev 1,.pf (lvD TBo.e m j.toNat),.e b.length,.e b.length,.pf (p:=∀ k,k<f.length->(TBo.d (f.getD k dF)).wd=3) (fun _ _=>rfl),.ev 2,.pf (zh (o:=1) (l:=b) (x:=f)),.pf (zg (sz:=3) (e:=TBo.e) (l:=b) (x:=f))]<|
.guard [(b++f).length<2 ^ 63]<|
.frz 1 (.ev 0) none [6] []<|
.r (b++f)
def F_q2y (a:(List TBo)) (b:TCh) (c:Int):=(S_q2y a b c).den
theorem F_q2y_ok {a:(List TBo)} {b:TCh} {c:Int}:FO (F_q2y a b c) 65 [(AV.d (eL TBo.e a)),(TCh.d b),(vi c)] [] (fun x=>(AV.d (eL TBo.e x))) NL:=fO (s:=S_q2y a b c) Tryz.func65
abbrev R_q2a:=(List TLi)
def S_q2a_b1 (i:(List TBo)) (g:Nat) (a:(List TLi)):SC R_q2a (Step ((List TLi)) R_q2a) :=
.reg 4 [] [] [.w g,.ev 0]<|
.guard [(a.length+1) * (2 * 32)<=2 ^ 48]<|
 let f:=(i.getD g dF)
 let b:=([(⟨f.B,f.D,f.C⟩:TLi)]:List TLi)
.reg 5 [] [(8,hv (AV.d (eL TLi.e b))),(9,{ h:=.obj,cast:=some (AV.ref 0 ((a++b).length) 0 ((a++b).length)),obs:=[(0,(eS 3 TLi.e (a++b)))] })] [.pf (z5 TLi.e b),.e a.length,.e a.length,.pf (p:=∀ k,k<1->(TLi.d (b.getD k dF)).wd=3) (fun _ _=>rfl),.ev 0,.pf (zh (o:=0) (l:=a) (x:=b)),.pf (zg (sz:=3) (e:=TLi.e) (l:=a) (x:=b))]<|
.c (a++b)
def S_q2a (b:(List TBo)):SC R_q2a R_q2a :=
.reg 2 [] [] []<|
.bor 3 (fun j=>AV.d (TLi.e (([]:List TLi).getD j dF))) [3]<|
.range (b.length:Int) b.length rfl (.slot 6) 8 [6,7] (fun (a:(List TLi))=>[(3,(AV.ref 0 a.length 0 a.length))]) (fun a=>[(0,(eS 3 TLi.e a))]) ([]:List TLi) (S_q2a_b1 b) (fun a => 
.guard [a.length<2 ^ 63]<|
.reg 7 [] [] []<|
.frz 0 (.ev 0) none [2] []<|
.r a) id
def F_q2a (a:(List TBo)):=(S_q2a a).den
theorem F_q2a_ok {a:(List TBo)}:FO (F_q2a a) 66 [(AV.d (eL TBo.e a))] [] (fun x=>(AV.d (eL TLi.e x))) NL:=fO (s:=S_q2a a) Tryz.func66
def S_q1q_b1 (f:(List TCh)) (d:Nat) (b:TLa×(List TBo)):SC (TLa×Int) (Step (TLa×(List TBo)) (TLa×Int)) :=
.guard [(0+d)<f.length]<|
.reg 4 [] [] [.e f.length,.w d,.ev 1,.e f.length,.ev 0]<|
 let c:=(f.getD (0+d) dF)
.ite (c.N==1) (
.a 8 2 4 (@F_q2y_ok b.2 c 0) fun g=>
.r (.cont (b.1,g))) (
.ite (c.N==2) (
.a 10 3 4 (@F_q2y_ok b.1.S c (-1)) fun h=>
.r (.cont ((⟨b.1.G,b.1.J,b.1.E,b.1.P,h,b.1.U,b.1.L,b.1.O,b.1.I,b.1.A⟩:TLa),b.2))) (
.a 6 3 4 (@F_q2y_ok b.1.U c 0) fun i=>
.r (.cont ((⟨b.1.G,b.1.J,b.1.E,b.1.P,b.1.S,i,b.1.L,b.1.O,b.1.I,b.1.A⟩:TLa),b.2))))
def S_q1q (j:TLa) (h:(List TCh)):SC (TLa×Int) (TLa×Int) :=
 let f:=(⟨0,0,[],[],[],[],[],[],[],[]⟩:TLa)
.reg 0 [] [(1,{ obs:=[(2,(TLa.b f))] })] [.pf cz2]<|
.a 1 2 3 (@F_q28_ok j.P) fun i=>
.guard [h.length<2 ^ 63]<|
.range (h.length:Int) h.length rfl (.why (.ev 0)) 14 [2,4,12,13] (fun (c:TLa×(List TBo))=>[(6,(AV.d (eL TBo.e c.2)))]) (fun c=>[(1,(TLa.b c.1))]) (j,i) (S_q1q_b1 h) (fun c => 
.a 12 1 3 (@F_q2a_ok c.2) fun g=>
.ite (cO (cO (decide ((g.length:Int)>120)) (decide ((c.1.S.length:Int)>60))) (decide ((c.1.U.length:Int)>60))) (
.reg 14 [] [(0,hv (TLa.d f))] [.pf cz9]<|
.r (f,3)) (
.r ((⟨c.1.G,c.1.J,c.1.E,g,c.1.S,c.1.U,c.1.L,c.1.O,c.1.I,c.1.A⟩:TLa),0))) id
def F_q1q (a:TLa) (b:(List TCh)):=(S_q1q a b).den
theorem F_q1q_ok {b:TLa} {a:(List TCh)}:FO (F_q1q b a) 36 [(TLa.d b),(AV.ref 0 a.length 0 a.length)] [(eS 4 TCh.e a)] (fun x=>(AV.tup [(TLa.d x.1),(vi x.2)])) (fun _=>[(eS 4 TCh.e a)]):=fO (s:=S_q1q b a) Tryz.func36
abbrev R_qd:=TLa×Int
def S_qd_b1 (j:TLa) (m:Int) (i:Nat) (a:(List TCh)×(List TAm)):SC R_qd (Step ((List TCh)×(List TAm)) R_qd) :=
.reg 10 [] [(2,{ obs:=[(4,(TAm.b (⟨0,0,[]⟩:TAm)))] })] [.w i,.ev 0,.pf cz3]<|
 let f:=(j.A.getD i dF)
.ite (decide (f.H<=m)) (
.guard [(a.1.length+f.M.length) * (2 * 40)<=2 ^ 48]<|
 let g:=(a.1++f.M)
.reg 12 [] [(3,{ h:=.obj,cast:=some (AV.ref 2 g.length 0 g.length),obs:=[(2,(eS 4 TCh.e g))] })] [.e a.1.length,.e a.1.length,.pf (p:=∀ k,k<f.M.length->(TCh.d (f.M.getD k dF)).wd=4) (fun _ _=>rfl),.ev 0,.pf (zh (o:=2) (l:=a.1) (x:=f.M)),.pf (zg (sz:=4) (e:=TCh.e) (l:=a.1) (x:=f.M))]<|
.r (.cont (g,a.2))) (
.guard [(a.2.length+1) * (2 * 40)<=2 ^ 48]<|
 let c:=([f]:List TAm)
.reg 13 [] [(2,hv (AV.d (eL TAm.e c))),(3,{ h:=.obj,cast:=some (AV.ref 3 ((a.2++c).length) 0 ((a.2++c).length)),obs:=[(3,(eS 3 TAm.e (a.2++c)))] })] [.pf (z5 TAm.e c),.e a.2.length,.e a.2.length,.pf (p:=∀ k,k<1->(TAm.d (c.getD k dF)).wd=3) (fun _ _=>rfl),.ev 0,.pf (zh (o:=3) (l:=a.2) (x:=c)),.pf (zg (sz:=3) (e:=TAm.e) (l:=a.2) (x:=c))]<|
.r (.cont (a.1,(a.2++c))))
def S_qd (f:TLa) (o:Int):SC R_qd R_qd :=
 let g:=(⟨0,0,[],[],[],[],[],[],[],[]⟩:TLa)
.reg 0 [] [(1,{ obs:=[(1,(TLa.b g))] })] [.pf cz2]<|
.a 1 1 2 (@F_q27_ok f) fun h=>
 let i:=(0,hv (TLa.d g))
.ite (h != 0) (
.reg 3 [] [i] [.pf cz9]<|
.r (g,h)) (
.a 4 1 2 (@F_q4o_ok o) fun m=>
.ite (!m) (
.reg 5 [] [i] [.pf cz9]<|
.r (g,2)) (
.reg 8 [] [] []<|
.bor 4 (fun j=>AV.d (TCh.e (([]:List TCh).getD j dF))) [7]<|
.bor 3 (fun j=>AV.d (TAm.e (([]:List TAm).getD j dF))) [8]<|
.range (f.A.length:Int) f.A.length rfl (.slot 22) 24 [1,2,4,22,23] (fun (c:(List TCh)×(List TAm))=>[(7,(AV.ref 2 c.1.length 0 c.1.length)),(8,(AV.ref 3 c.2.length 0 c.2.length))]) (fun c=>[(2,(eS 4 TCh.e c.1)),(3,(eS 3 TAm.e c.2))]) (([]:List TCh),([]:List TAm)) (S_qd_b1 f o) (fun c => 
.guard [c.2.length<2 ^ 63]<|
.reg 15 [] [] []<|
.frz 3 (.ev 0) none [] [0]<|
.call (@F_q1q_ok (⟨f.G,f.J,f.E,f.P,f.S,f.U,f.L,f.O,f.I,c.2⟩:TLa) c.1) fun l n=>
.k 16 2 n [2] 4 true<|
.r (l.1,l.2)) id))
def F_qd (a:TLa) (b:Int):=(S_qd a b).den
theorem F_qd_ok {a:TLa} {b:Int}:FO (F_qd a b) 18 [(TLa.d a),(vi b)] [] (fun x=>(AV.tup [(TLa.d x.1),(vi x.2)])) NL:=fO (s:=S_qd a b) Tryz.func18
def S_q1r_b1 (c:TLa) (d:Y8) (e:Int) (b:Nat) (_:Unit):SC Int (Step Unit Int) :=
.reg 3 [] [] [.w b,.ev 0]<|
 let a:=(c.P.getD b dF)
.ite (bif (a.B==d) then (a.D==e) else false) (
.r (.ret a.C)) (
.r (.cont ()))
def S_q1r (a:TLa) (b:Y8) (c:Int):SC Int Int :=
.range (a.P.length:Int) a.P.length rfl (.slot 10) 12 [1,2,10,11] (fun (_:Unit)=>[]) (fun _=>[]) () (S_q1r_b1 a b c) (fun _ => 
.r 0) id
def F_q1r (a:TLa) (b:Y8) (c:Int):=(S_q1r a b c).den
theorem F_q1r_ok {a:TLa} {b:Y8} {c:Int}:FO (F_q1r a b c) 19 [(TLa.d a),(AV.d (DV.str b)),(vi c)] [] vi NL:=fO (s:=S_q1r a b c) Tryz.func19
def S_q7_b1 (e:R_qb) (f:Nat) (g:Nat) (b:Int×Int):SC Bool (Step (Int×Int) Bool) :=
.reg 16 [] [] [.w g,.ev 0]<|
 let a:=((e.1.take (((i64.wrap ((f:Int)+1))).toNat)).getD g dF)
 let c:=(e.1.getD f dF)
.cut none [4,5,10,11,14,16,50,51,52,75,76,77] (fun (d:Int)=>[(13,(vi d))]) (fun _=>[]) (
.ite (bif (a.D==c.D) then (a.V==c.K) else false) (
.r (.next (i64.wrap (b.1+a.C)))) (
.r (.next b.1))) fun d=>
.ite (bif (a.D==c.D) then (a.K==c.K) else false) (
 let h:=(i64.wrap (d-a.C))
.ite (a.Q==c.Q) (
.r (.cont (h,(i64.wrap (b.2+a.C))))) (
.r (.cont (h,b.2)))) (
.r (.cont (d,b.2)))
def S_q7_b2 (g:R_q0) (h:R_qb) (i:Nat) (j:R_qd) (d:Nat) (k:Int):SC Bool (Step Int Bool) :=
.reg 27 [] [] [.w d,.ev 0]<|
 let b:=(h.1.getD i dF)
 let e:=(g.1.I.getD d dF)
.ite (e.F==b.Q) (
.call (@F_q1r_ok j.1 b.K b.D) fun f a=>
.reg 29 [] [(5,hc a [] true)] [.cl 0 a [] 5 true,.pf (p:=(100:Int)≠0) dk]<|
.r (.cont (i64.wrap ((i64.wrap (f * e.R)).tdiv 100)))) (
.c k)
def S_q7_b3 (h:R_q0) (c:R_qb) (f:Nat) (_:Unit):SC Bool (Step Unit Bool) :=
.reg 9 [] [] [.w f,.ev 0]<|
 let j:=(c.1.getD f dF)
.call (@F_qd_ok h.1 j.H) fun k m=>
.reg 10 [] [(3,hc m [] true),(7,{ obs:=[(3,(TLa.b (⟨0,0,[],[],[],[],[],[],[],[]⟩:TLa)))] })] [.cl 0 m [] 3 true,.pf cz2]<|
.ite (k.2 != 0) (
.r (.ret false)) (
.a 13 5 4 (@F_q1r_ok k.1 j.K j.D) fun n=>
 let i:=(i64.wrap ((f:Int)+1))
.guard [(0:Int)<=i,i.toNat<=c.1.length]<|
.reg 14 [] [(3,hv (AV.d (eL TTr.e (c.1.take i.toNat))))] [.ev 0,.ev 1,.der (fun (h0:i.toNat<=c.1.length)=>lvT TTr.e c.1 h0) 1]<|
.range ((c.1.take (((i64.wrap ((f:Int)+1))).toNat)).length:Int) ((c.1.take (((i64.wrap ((f:Int)+1))).toNat)).length) rfl (.slot 75) 77 [4,5,10,11,50,51,52,75,76] (fun (g:Int×Int)=>[(13,(vi g.1)),(14,(vi g.2))]) (fun _=>[]) (n,0) (S_q7_b1 c f) (fun g => 
.range (h.1.I.length:Int) h.1.I.length rfl (.slot 124) 126 [4,5,10,11,13,14,50,51,52,124,125] (fun (l:Int)=>[(17,(vi l))]) (fun _=>[]) 0 (S_q7_b2 h c f k) (fun l => 
.ite (cO (decide (g.1<0)) (decide (g.2>l))) (
.r (.ret false)) (
.r (.cont ()))) .ret) .ret)
def S_q7 (q:(List Int)):SC Bool Bool :=
.call (@F_q2r_ok q) fun i j=>
.k 1 1 j [] 0 false<|
.call (@F_q0_ok i) fun d l=>
.reg 2 [] [(1,hc l [0] false),(2,{ obs:=[(1,(TLa.b (⟨0,0,[],[],[],[],[],[],[],[]⟩:TLa)))] })] [.cl 0 l [0] 1 false,.pf cz2]<|
.call (@F_ql_ok d.1 8 d.2) fun m e=>
.call (@F_qb_ok d.1 m.1) fun c n=>
.reg 3 [3] [(3,hc e [0] false),(4,hc n [] true)] [.cl 1 e [0] 2 false,.cl 0 n [] 2 true]<|
.a 4 2 2 (@F_qb_ok d.1 c.1) fun f=>
 let h:=(cO (c.2 != 0) (f.2 != 0))
.calld [h=false] dF (@F_q1i_ok f.1 c.1) fun o g =>
.reg 5 [] [(9,hc g [] true)] [.clg 0 [h=false] g [] 2 true]<|
.ite (cO h (!o)) (
.r false) (
.range (c.1.length:Int) c.1.length rfl (.slot 5) 52 [4,5,50,51] (fun (_:Unit)=>[]) (fun _=>[]) () (S_q7_b3 d c) (fun _ => 
.a 34 0 2 (@F_q2w_ok) fun p=>
.r p) id)
def F_q7 (a:(List Int)):=(S_q7 a).den
theorem F_q7_ok {a:(List Int)}:FO (F_q7 a) 4 [(vl a)] [] vb NL:=fO (s:=S_q7 a) Tryz.func4
abbrev R_q8:=(List TLi)×Int
def S_q8_b1 (t:TLa) (u:Int) (n:R_qa) (f:R_q2o) (g:R_q3) (i:Nat) (q:Nat) (a:(List TLi)):SC R_q8 (Step ((List TLi)) R_q8) :=
 let j:=(i64.wrap (t.G+(q:Int)))
.call (@F_qt_ok (g.getD i dF) j u f.2.1 f.2.2.1 f.2.2.2.1 f.2.2.2.2.1 f.2.2.2.2.2 n.2.2.2.2.2.2.2) fun m s=>
.k 14 7 s [3,4] 6 true<|
.ite (m != 0) (
.guard [(a.length+1) * (2 * 32)<=2 ^ 48]<|
 let b:=([(⟨(g.getD i dF),j,m⟩:TLi)]:List TLi)
.reg 16 [] [(8,hv (AV.d (eL TLi.e b))),(9,{ h:=.obj,cast:=some (AV.ref 5 ((a++b).length) 0 ((a++b).length)),obs:=[(5,(eS 3 TLi.e (a++b)))] })] [.pf (z5 TLi.e b),.e a.length,.e a.length,.pf (p:=∀ k,k<1->(TLi.d (b.getD k dF)).wd=3) (fun _ _=>rfl),.ev 0,.pf (zh (o:=5) (l:=a) (x:=b)),.pf (zg (sz:=3) (e:=TLi.e) (l:=a) (x:=b))]<|
.r (.cont (a++b))) (
.c a)
def S_q8_b2 (d:TLa) (j:Int) (f:R_qa) (g:R_q2o) (h:R_q3) (b:Nat) (i:(List TLi)):SC R_q8 (Step ((List TLi)) R_q8) :=
.reg 10 [] [] [.w b,.ev 0]<|
.guard [d.J.toNat<2 ^ 63]<|
.range d.J d.J.toNat rfl (.why (.ev 0)) 43 [2,3,8,14,35,36,37,42] (fun (a:(List TLi))=>[(12,(AV.ref 5 a.length 0 a.length))]) (fun a=>[(5,(eS 3 TLi.e a))]) i (S_q8_b1 d j f g h b) (fun a => 
.c a) .ret
def S_q8 (l:TLa) (n:(List TTr)) (s:Int):SC R_q8 R_q8 :=
.reg 0 [] [] []<|
 let m:=(AV.full 0 fun _=>DV.b false)
.split ((F_qa l n).isSome) (
.call (@F_qa_ok l n) fun c o=>
.k 1 2 o [] 1 false<|
.guard [(c.2.1 != 0)=false]<|
.br false (.ev 0)<|
.call (@F_q2o_ok s c.2.2.1 c.2.2.2.1 c.2.2.2.2.1 c.2.2.2.2.2.1 c.2.2.2.2.2.2.1 c.2.2.2.2.2.2.2) fun g q=>
.k 4 2 q [3,4] 5 false<|
.ite (g.1 != 0) (
.ret [.pf (p:=LeV (AV.tup [m,(vi g.1)]) (AV.tup [(AV.d (eL TLi.e ([]))),(vi g.1)])) (LeV.tup (LeVs.cons (lvN TLi.e) (LeVs.cons (LeV.refl _) LeVs.nil)))] ([],g.1)) (
.a 8 2 5 (@F_q3_ok l.E ([])) fun i=>
.bor 3 (fun j=>AV.d (TLi.e (([]:List TLi).getD j dF))) [12]<|
.range (i.length:Int) i.length rfl (.slot 35) 37 [2,3,8,35,36] (fun (f:(List TLi))=>[(12,(AV.ref 5 f.length 0 f.length))]) (fun f=>[(5,(eS 3 TLi.e f))]) ([]:List TLi) (S_q8_b2 l s c g i) (fun f => 
.guard [f.length<2 ^ 63]<|
.reg 19 [] [] []<|
.frz 5 (.ev 0) none [6] []<|
.r (f,0)) id)) (
.a 1 2 1 (@F_q2p_ok l n) fun h=>
.guard [(h.2 != 0)=true]<|
.br true (.ev 0)<|
.ret [.pf (p:=LeV (AV.tup [m,(vi h.2)]) (AV.tup [(AV.d (eL TLi.e ([]))),(vi h.2)])) (LeV.tup (LeVs.cons (lvN TLi.e) (LeVs.cons (LeV.refl _) LeVs.nil)))] ([],h.2))
def F_q8 (a:TLa) (b:(List TTr)) (c:Int):=(S_q8 a b c).den
theorem F_q8_ok {a:TLa} {b:(List TTr)} {c:Int}:FO (F_q8 a b c) 20 [(TLa.d a),(AV.d (eL TTr.e b)),(vi c)] [] (fun x=>(AV.tup [(AV.d (eL TLi.e x.1)),(vi x.2)])) NL:=fO (s:=S_q8 a b c) Tryz.func20
def S_q38 (a:Int):SC Bool Bool :=
.r (bif (decide (a>=(-1000000000000000))) then (decide (a<=1000000000000000)) else false)
def F_q38 (a:Int):=(S_q38 a).den
theorem F_q38_ok {a:Int}:FO (F_q38 a) 71 [(vi a)] [] vb NL:=fO (s:=S_q38 a) Tryz.func71
def S_q47 (i:Int) (j:Int):SC (Int×Int) (Int×Int) :=
.call (@F_q38_ok i) fun a c=>
.calld [(!a)=false] dF (@F_q38_ok j) fun g d =>
 let b:=(cO (!a) (!g))
 let e:=(i64.wrap (i+j))
.calld [b=false] dF (@F_q38_ok e) fun h f =>
.reg 1 [] [(1,hc c [] true),(5,hc d [] true),(12,hc f [] true)] [.cl 4 c [] 0 true,.clg 2 [(!a)=false] d [] 0 true,.clg 0 [b=false] f [] 0 true]<|
.ite (cO b (!h)) (
.r (0,2)) (
.r (e,0))
def F_q47 (a:Int) (b:Int):=(S_q47 a b).den
theorem F_q47_ok {a:Int} {b:Int}:FO (F_q47 a b) 41 [(vi a),(vi b)] [] (fun x=>(AV.tup [(vi x.1),(vi x.2)])) NL:=fO (s:=S_q47 a b) Tryz.func41
def S_q1s_b1 (k:(List TLi)) (h:Y8) (j:Int) (e:Nat) (f:Int):SC (Int×Int) (Step Int (Int×Int)) :=
.reg 4 [] [] [.w e,.ev 0]<|
 let b:=(k.getD e dF)
.calld [(!(h==([])))=true] dF (@F_q1t_ok b.B h) fun i g =>
.reg 5 [] [(6,hc g [] true)] [.clg 0 [(!(h==([])))=true] g [] 1 true]<|
.ite (cO (bif (!(h==([]))) then (!i) else false) (bif (j != (-1)) then (b.D != j) else false)) (
.c f) (
.a 6 3 1 (@F_q47_ok f b.C) fun d=>
.ite (d.2 != 0) (
.r (.ret (0,d.2))) (
.c d.1))
def S_q1s (b:(List TLi)) (c:Y8) (d:Int):SC (Int×Int) (Int×Int) :=
.range (b.length:Int) b.length rfl (.slot 13) 15 [1,2,13,14] (fun (a:Int)=>[(8,(vi a))]) (fun _=>[]) 0 (S_q1s_b1 b c d) (fun a => 
.r (a,0)) id
def F_q1s (a:(List TLi)) (b:Y8) (c:Int):=(S_q1s a b c).den
theorem F_q1s_ok {a:(List TLi)} {b:Y8} {c:Int}:FO (F_q1s a b c) 22 [(AV.d (eL TLi.e a)),(AV.d (DV.str b)),(vi c)] [] (fun x=>(AV.tup [(vi x.1),(vi x.2)])) NL:=fO (s:=S_q1s a b c) Tryz.func22
def S_q48 (c:TLa) (d:Y8) (e:Int):SC (Int×Int) (Int×Int) :=
.a 1 4 1 (@F_q1s_ok c.P d e) fun b=>
.r (b.1,b.2)
def F_q48 (a:TLa) (b:Y8) (c:Int):=(S_q48 a b c).den
theorem F_q48_ok {a:TLa} {b:Y8} {c:Int}:FO (F_q48 a b c) 23 [(TLa.d a),(AV.d (DV.str b)),(vi c)] [] (fun x=>(AV.tup [(vi x.1),(vi x.2)])) NL:=fO (s:=S_q48 a b c) Tryz.func23
end
end Go.Proofs.YtljnmhapbonmfaaGreatDoor
/- What the functions compute,and that their calls return it. No condition. -/
namespace Go.Proofs.YtljnmhapbonmfaaGreatDoor
open Go Go.TA
open Go.IntKind (i64)
noncomputable section
set_option maxRecDepth 100000
def S_q9_b1 (d:R_q0) (l:R_qb) (m:R_q1) (n:Nat) (e:Nat) (f:Bool×Bool):SC Bool (Step (Bool×Bool) Bool) :=
.reg 16 [] [] [.w e,.ev 0]<|
 let a:=(((([(⟨[],[]⟩:THe)]:List THe)++d.1.E).getD n dF).B)
 let b:=(l.1.getD e dF)
.calld [(a==([]))=false] dF (@F_q1t_ok b.K a) fun o g =>
.calld [(a==([]))=false] dF (@F_q1t_ok b.V a) fun p h =>
.reg 17 [] [(8,hc g [] true),(18,hc h [] true)] [.clg 2 [(a==([]))=false] g [] 6 true,.clg 0 [(a==([]))=false] h [] 6 true]<|
 let i:=(i64.wrap ((i64.wrap (360 * d.1.G))+m.1))
 let j:=(cO (a==([])) o)
 let k:=(cO (a==([])) p)
.c ((bif f.1 then (cO (j==k) (decide (b.H>i))) else false),(cO f.2 (bif (cO j k) then (decide (b.H<=i)) else false)))
def S_q9_b2 (c:R_q0) (i:R_q8) (d:R_qd) (j:Nat) (e:Bool×Bool) (b:Int):SC Bool (Step Int Bool) :=
.ite (decide (b<(i64.wrap (c.1.G+c.1.J)))) (
 let f:=(((([(⟨[],[]⟩:THe)]:List THe)++c.1.E).getD j dF).B)
.a 24 4 5 (@F_q1s_ok i.1 f b) fun g=>
.a 25 4 5 (@F_q48_ok d.1 f b) fun h=>
.ite (bif (cO e.1 (!e.2)) then (g.1 != h.1) else false) (
.r (.ret false)) (
.r (.cont (i64.wrap (b+1))))) (
.r (.brk b))
def S_q9_b3 (b:R_q0) (c:R_qb) (g:R_q1) (h:R_q8) (e:R_qd) (d:Nat) (_:Unit):SC Bool (Step Unit Bool) :=
.reg 12 [] [] [.w d,.ev 0]<|
.range (c.1.length:Int) c.1.length rfl (.slot 6) 80 [4,6,8,9,11,14,72,73,74,78,79] (fun (a:Bool×Bool)=>[(15,(vb a.1)),(16,(vb a.2))]) (fun _=>[]) (true,false) (S_q9_b1 b c g d) (fun a => 
.iter [4,6,8,9,11,14,15,16,72,73,74] (fun (f:Int)=>[(21,(vi f))]) (fun _=>[]) b.1.G (S_q9_b2 b h e d a) (fun _ =>
.r (.cont ())) .ret) .ret
def S_q9 (D:(List Int)):SC Bool Bool :=
.call (@F_q2r_ok D) fun m n=>
.k 1 1 n [] 0 false<|
.call (@F_q0_ok m) fun c q=>
 let s:=(TLa.b (⟨0,0,[],[],[],[],[],[],[],[]⟩:TLa))
.reg 2 [] [(1,hc q [0] false),(2,{ obs:=[(1,s)] })] [.cl 0 q [0] 1 false,.pf cz2]<|
.call (@F_ql_ok c.1 8 c.2) fun g t=>
.k 3 2 t [0] 2 false<|
.a 4 2 2 (@F_qb_ok c.1 g.1) fun u=>
.call (@F_q1_ok 800 g.2) fun v w=>
.reg 5 [4] [(4,hc w [0] false)] [.cl 0 w [0] 2 false]<|
 let y:=(i64.wrap ((i64.wrap (360 * c.1.G))+v.1))
.a 6 3 2 (@F_q8_ok c.1 g.1 y) fun z=>
.call (@F_qd_ok c.1 y) fun i j=>
.reg 7 [] [(2,hc j [] true),(6,{ obs:=[(2,s)] })] [.cl 0 j [] 2 true,.pf cz2]<|
.ite (cO (cO (u.2 != 0) (z.2 != 0)) (i.2 != 0)) (
.r false) (
 let C:=(⟨[],[]⟩:THe)
 let f:=([C]:List THe)
.guard [(f.length+c.1.E.length) * (2 * 32)<=2 ^ 48]<|
 let A:=((f++c.1.E).length)
.reg 10 [] [(1,{ h:=.obj,obs:=[(3,(eS 2 THe.e f))] }),(4,{ cast:=some (AV.ref 3 A 0 A),obs:=[(3,(eS 2 THe.e (f++c.1.E)))] })] [.pf (z60 (sz:=2) (e:=THe.e) (l:=f)),.e f.length,.e f.length,.pf (p:=∀ k,k<c.1.E.length->(THe.d (c.1.E.getD k dF)).wd=2) (fun _ _=>rfl),.ev 0,.pf (zh (o:=3) (l:=f) (x:=c.1.E)),.pf (zg (sz:=2) (e:=THe.e) (l:=f) (x:=c.1.E))]<|
.guard [(f++c.1.E).length<2 ^ 63]<|
.frz 3 (.ev 0) none [72] []<|
.range ((([(⟨[],[]⟩:THe)]:List THe)++c.1.E).length:Int) ((([(⟨[],[]⟩:THe)]:List THe)++c.1.E).length) rfl (.slot 72) 74 [4,6,8,9,11,72,73] (fun (_:Unit)=>[]) (fun _=>[]) () (S_q9_b3 c u v z i) (fun _ => 
.a 29 0 4 (@F_q2w_ok) fun B=>
.r B) id)
def F_q9 (a:(List Int)):=(S_q9 a).den
theorem F_q9_ok {a:(List Int)}:FO (F_q9 a) 5 [(vl a)] [] vb NL:=fO (s:=S_q9 a) Tryz.func5
abbrev R_qp:=TTape×(List TTr)
def S_qp_b1 (W:TLa) (u:R_q2) (c:TTape×(List TTr)×Int×Int):SC R_qp (Step (TTape×(List TTr)×Int×Int) R_qp) :=
.ite (decide (c.2.2.2>0)) (
.call (@F_q1_ok 90 c.1) fun au av=>
 let N:=([0,1,au.1]:List Int)
.call (@F_q6_ok N au.2) fun X aw=>
.reg 7 [] [(3,hc av [0] false),(4,hv (vl N)),(5,hc aw [0] false)] [.cl 1 av [0] 3 false,.pf (z5 (DV.i .i64) N),.cl 0 aw [0] 3 false]<|
 let v:=(i64.wrap (c.2.2.1+X.1))
 let af:=(7,(AV.ref 2 c.2.1.length 0 c.2.1.length))
 let ag:=(9,(AV.d (eL DV.str u)))
 let ax:=[(0,(vp 0)),(4,(vp 1)),af,(8,(vi v)),ag,(10,(vi c.2.2.2))]
 let j:=(eS 7 TTr.e c.2.1)
 let m:=(TLa.b W)
.sh (H:=NoH) (A:=True) (.pf trivial) ax ax [(TTape.b X.2),m,j] [(TTape.b X.2),m,j,Ob.unb] (fun _=>z3j) (z2n _)<|
.call (@F_q1_ok W.J X.2) fun ay am=>
.call (@F_qx_ok 1 3 ay.2) fun an ao=>
.call (@F_q1_ok (u.length:Int) an.2) fun Y ap=>
.call (@F_q1_ok (u.length:Int) Y.2) fun Z aq=>
.call (@F_qx_ok 1 500 Z.2) fun az ar=>
.call (@F_qx_ok 1 100000 az.2) fun ah O=>
 let w:=([1,10,az.1,ah.1]:List Int)
.call (@F_q6_ok w ah.2) fun g P=>
.guard [(0:Int)<=Y.1,Y.1.toNat<u.length,(0:Int)<=Z.1,Z.1.toNat<u.length]<|
.reg 8 [9,12,17,24,29,31,33,35,36] [(9,hc am [0] false),(12,hc ao [0] false),(17,hc ap [0] false),(24,hc aq [0] false),(29,hc ar [0] false),(31,hc O [0] false),(32,hv (vl w)),(33,hc P [0] false),(35,{ h:=.born 3 false })] [.cl 10 am [0] 4 false,.cl 10 am [0] 4 false,.cl 9 ao [0] 4 false,.cl 9 ao [0] 4 false,.cl 8 ap [0] 4 false,.cl 8 ap [0] 4 false,.ev 0,.ev 1,.ev 0,.ev 1,.ev 0,.ev 1,.ev 0,.ev 1,.ev 0,.ev 1,.ev 0,.ev 1,.ev 0,.ev 1,.ev 0,.ev 1,.ev 0,.ev 1,.ev 0,.ev 1,.cl 7 aq [0] 4 false,.cl 7 aq [0] 4 false,.ev 2,.ev 3,.ev 2,.ev 3,.ev 2,.ev 3,.ev 2,.ev 3,.ev 2,.ev 3,.ev 2,.ev 3,.ev 2,.ev 3,.ev 2,.ev 3,.cl 6 ar [0] 4 false,.cl 6 ar [0] 4 false,.cl 5 O [0] 4 false,.cl 5 O [0] 4 false,.pf (z5 (DV.i .i64) w),.pf (z5 (DV.i .i64) w),.cl 4 P [0] 4 false,.cl 4 P [0] 4 false]<|
 let R:=(decide ((W.I.length:Int)>0))
.calld [R=true] (dF,g.2) (@F_q1_ok 5 g.2) fun q ai =>
 let aa:=(i64.wrap ((c.2.1.length:Int)+1))
 let ab:=(u.getD Z.1.toNat dF)
 let ac:=(i64.wrap (W.G+ay.1))
 let S:=(u.getD Y.1.toNat dF)
 let ad:=(bx (DV.agg [(DV.i .i64 aa),(DV.i .i64 v),(DV.i .i64 ac),(DV.i .i64 an.1),(DV.str S),(DV.str ab),(DV.i .i64 g.1)]))
 let T:=(TTape.b q.2)
.reg 9 [] [(6,hc ai [0] false)] [.clg 0 [R=true] ai [0] 4 false,.der (fun (h:¬ AllP [R=true]->(dF,g.2)=q) (hn:¬ AllP [R=true])=>(by obtain rfl:=h hn; rfl:[(TTape.b g.2),m,j,ad]=[T,m,j,ad])) 1]<|
.cut none [0,4,7,8,9,10,11] (fun (_:TTape×TTr)=>[]) (fun s=>[(0,(TTape.b s.1)),(3,(TTr.b s.2))]) (
 let aj:=(bif R then (decide (q.1>0)) else false)
.ite aj (
 let ba:=[(0,(vp 0)),(4,(vp 1)),af,(8,(vi v)),ag,(10,(vi c.2.2.2)),(11,(vp 3)),(79,(vb aj))]
.sh (H:=NoH) (A:=True) (.pf trivial) ba ba [T,m,j,ad] [T,m,j,ad,Ob.unb] (fun _=>z3j) (z2n _)<|
.call (@F_q1_ok (W.I.length:Int) q.2) fun t U=>
.guard [(0:Int)<=t.1,t.1.toNat<W.I.length]<|
.reg 10 [6,9,10] [(6,hc U [0] false),(9,{ h:=.born 4 false })] [.cl 2 U [0] 5 false,.cl 2 U [0] 5 false,.ev 0,.ev 1,.ev 0,.ev 1]<|
 let ae:=(W.I.getD t.1.toNat dF)
.a 12 4 5 (@F_q2_ok W.E ae.K) fun y=>
.cut none [0,4,7,8,9,10,11,12] (fun (_:TTape×TTr)=>[]) (fun f=>[(0,(TTape.b f.1)),(3,(TTr.b f.2))]) (
.ite (decide ((y.length:Int)>0)) (
.call (@F_q1_ok (y.length:Int) t.2) fun z ak=>
.guard [(0:Int)<=z.1,z.1.toNat<y.length]<|
.reg 14 [] [(4,hc ak [0] false)] [.cl 2 ak [0] 5 false,.ev 0,.ev 1]<|
.r (.next (z.2,(⟨aa,v,ac,ae.F,(y.getD z.1.toNat dF),ab,g.1⟩:TTr)))) (
.r (.next (t.2,(⟨aa,v,ac,ae.F,S,ab,g.1⟩:TTr))))) fun f=>
.a 15 4 5 (@F_q2_ok W.E ae.V) fun B=>
.ite (decide ((B.length:Int)>0)) (
.call (@F_q1_ok (B.length:Int) f.1) fun L al=>
.guard [(0:Int)<=L.1,L.1.toNat<B.length]<|
.reg 17 [] [(4,hc al [0] false)] [.cl 2 al [0] 5 false,.ev 0,.ev 1]<|
.r (.next (L.2,(⟨f.2.F,f.2.H,f.2.D,f.2.Q,f.2.K,(B.getD L.1.toNat dF),f.2.C⟩:TTr)))) (
.r (.next (f.1,f.2)))) (
.r (.next (q.2,(⟨aa,v,ac,an.1,S,ab,g.1⟩:TTr))))) fun s=>
 let n:=([s.2]:List TTr)
.guard [(c.2.1.length+n.length) * (2 * 72)<=2 ^ 48]<|
 let M:=(c.2.1++n)
.reg 18 [] [(2,{ h:=.obj,obs:=[(4,(eS 7 TTr.e n))] }),(3,{ h:=.obj,cast:=some (AV.ref 2 M.length 0 M.length),obs:=[(2,(eS 7 TTr.e M))] })] [.pf (z60 (sz:=7) (e:=TTr.e) (l:=n)),.e n.length,.e c.2.1.length,.e c.2.1.length,.pf (p:=∀ k,k<n.length->(TTr.d (n.getD k dF)).wd=7) (fun _ _=>rfl),.ev 0,.pf (zh (o:=2) (l:=c.2.1) (x:=n)),.pf (zg (sz:=7) (e:=TTr.e) (l:=c.2.1) (x:=n))]<|
.r (.cont (s.1,M,v,(i64.wrap (c.2.2.2-1))))) (
.r (.brk (c.1,c.2.1,c.2.2.1,c.2.2.2)))
def S_qp (h:TLa) (l:Int) (m:TTape):SC R_qp R_qp :=
.a 3 2 2 (@F_q2_ok h.E ([])) fun i=>
.call (@F_q1_ok (i64.wrap (l+1)) m) fun f g=>
.k 4 3 g [0] 2 false<|
.bor 7 (fun j=>AV.d (TTr.e (([]:List TTr).getD j dF))) [7]<|
.iter [0,4,9] (fun (c:TTape×(List TTr)×Int×Int)=>[(7,(AV.ref 2 c.2.1.length 0 c.2.1.length)),(8,(vi c.2.2.1)),(10,(vi c.2.2.2))]) (fun c=>[(0,(TTape.b c.1)),(2,(eS 7 TTr.e c.2.1))]) (f.2,([]:List TTr),(i64.wrap (360 * h.G)),f.1) (S_qp_b1 h i) (fun c =>
.reg 19 [] [] []<|
.kill 1<|
.r (c.1,c.2.1)) id
def F_qp (a:TLa) (b:Int) (c:TTape):=(S_qp a b c).den
theorem F_qp_ok {a:TLa} {c:Int} {f:TTape}:FO (F_qp a c f) 9 [(vp 0),(TLa.d a),(vi c)] [(TTape.b f)] (fun x=>(AV.ref 2 x.2.length 0 x.2.length)) (fun x=>[(TTape.b x.1),Ob.dead,(eS 7 TTr.e x.2)]):=fO (s:=S_qp a c f) Tryz.func9
def S_q2b_b1 (e:(List TLi)) (d:(List TLi)) (a:Nat) (_:Unit):SC Bool (Step Unit Bool) :=
.guard [a<d.length]<|
.reg 6 [] [] [.w a,.ev 1,.w a,.ev 0]<|
 let b:=(e.getD a dF)
 let c:=(d.getD a dF)
.ite (!((b.B==c.B)&&((b.D==c.D)&&((b.C==c.C)&&true)))) (
.r (.ret false)) (
.r (.cont ()))
def S_q2b (a:(List TLi)) (b:(List TLi)):SC Bool Bool :=
.ite ((a.length:Int) != (b.length:Int)) (
.r false) (
.range (a.length:Int) a.length rfl (.slot 0) 13 [0,1,12] (fun (_:Unit)=>[]) (fun _=>[]) () (S_q2b_b1 a b) (fun _ => 
.r true) id)
def F_q2b (a:(List TLi)) (b:(List TLi)):=(S_q2b a b).den
theorem F_q2b_ok {a:(List TLi)} {b:(List TLi)}:FO (F_q2b a b) 24 [(AV.d (eL TLi.e a)),(AV.d (eL TLi.e b))] [] vb NL:=fO (s:=S_q2b a b) Tryz.func24
def S_qj_b1 (n:R_q0) (h:R_qp) (d:Nat) (a:(List TTr)):SC Bool (Step ((List TTr)) Bool) :=
.guard [d<a.length,(0+d)<a.length]<|
 let f:=(a.getD (0+d) dF)
 let j:=(⟨(i64.wrap (10 * (i64.wrap ((d:Int)+1)))),f.H,f.D,f.Q,f.K,f.V,f.C⟩:TTr)
 let g:=(a.set (0+d) j)
.reg 7 [] [(7,{ obs:=[(3,(eS 7 TTr.e g))] })] [.e a.length,.w d,.ev 0,.e a.length,.e a.length,.ev 1,.pf (zab (sz:=7) (e:=TTr.e) (l:=a) (i:=(0+d)) (x:=j) (fun _=>rfl))]<|
 let k:=[(TTape.b h.1),(TLa.b n.1),Ob.dead,(eS 7 TTr.e g)]
 let m:=(28,(vi (h.2.length:Int)))
.cst (A:=True) (.pf trivial) [(3,(vp 0)),(4,(vp 1)),(5,(AV.ref 3 a.length 0 a.length)),m,(29,(vi (d:Int)))] [(3,(vp 0)),(4,(vp 1)),(5,(AV.ref 3 g.length 0 g.length)),m,(29,(vi (d:Int)))] k k (fun _=>⟨Zb,by rfl⟩)<|
.c g
def S_qj_b2 (t:R_q0) (i:R_qb) (m:Nat) (u:TTape):SC Bool (Step TTape Bool) :=
.reg 14 [] [] [.w m,.ev 0]<|
 let f:=(i.1.getD m dF)
.ite (decide (f.C<2)) (
.c u) (
 let y:=(AV.d (eL TTr.e i.1))
 let N:=[(3,(vp 0)),(4,(vp 1)),(7,y),(9,(vi (m:Int))),(10,(vp 4)),(48,y),(49,(vi (i.1.length:Int))),(50,(vi (m:Int))),(57,(vb (decide (f.C<2))))]
.sh (H:=NoH) (A:=True) (.pf trivial) N N [(TTape.b u),(TLa.b t.1),Ob.dead,Ob.dead,(TTr.b f)] [(TTape.b u),(TLa.b t.1),Ob.dead,Ob.dead,(TTr.b f),Ob.unb] (fun _=>z3j) (z2n _)<|
.reg 16 [2,3,4,5] [(3,{ h:=.born 5 false })] []<|
.call (@F_qx_ok 1 (i64.wrap (f.C-1)) u) fun I S=>
.k 17 4 S [0] 7 false<|
 let j:=([(⟨f.F,f.H,f.D,f.Q,f.K,f.V,I.1⟩:TTr),(⟨(i64.wrap (f.F+1)),f.H,f.D,f.Q,f.K,f.V,(i64.wrap (f.C-I.1))⟩:TTr)]:List TTr)
 let J:=(i64.wrap ((m:Int)+1))
 let s:=J.toNat
 let n:=(i.1.drop s)
 let g:=(i.1.take m)
.guard [m<=i.1.length,g.length * (2 * 72)<=2 ^ 48,(g.length+2) * (2 * 72)<=2 ^ 48,(0:Int)<=J,J.toNat<=i.1.length,((g++j).length+n.length) * (2 * 72)<=2 ^ 48]<|
 let q:=((g++j)++n)
 let v:=((g++j).length)
.reg 20 [4,8,13] [(3,hv (AV.d (eL TTr.e g))),(4,{ h:=.obj }),(7,hv (AV.d (eL TTr.e j))),(8,{ h:=.obj,cast:=some (AV.ref 7 v 0 v),obs:=[(7,(eS 7 TTr.e (g++j)))] }),(12,hv (AV.d (eL TTr.e n))),(13,{ cast:=some (AV.ref 7 q.length 0 q.length),obs:=[(7,(eS 7 TTr.e q))] })] [.w m,.ev 0,.der (fun (h0:m<=i.1.length)=>lvT TTr.e i.1 h0) 0,.pf (p:=∀ k,k<g.length->(TTr.d (g.getD k dF)).wd=7) (fun _ _=>rfl),.ev 1,.pf (z5 TTr.e j),.pf (z5 TTr.e j),.e g.length,.e g.length,.pf (p:=∀ k,k<2->(TTr.d (j.getD k dF)).wd=7) (fun _ _=>rfl),.ev 2,.pf (zh (o:=7) (l:=g) (x:=j)),.pf (zg (sz:=7) (e:=TTr.e) (l:=g) (x:=j)),.ev 3,.ev 4,.pf (lvD TTr.e i.1 s),.ev 3,.ev 4,.pf (lvD TTr.e i.1 s),.ev 3,.ev 4,.pf (lvD TTr.e i.1 s),.e v,.e v,.pf (p:=∀ k,k<n.length->(TTr.d (n.getD k dF)).wd=7) (fun _ _=>rfl),.ev 5,.pf (zh (o:=7) (l:=(g++j)) (x:=n)),.pf (zg (sz:=7) (e:=TTr.e) (l:=(g++j)) (x:=n))]<|
.guard [q.length<2 ^ 63]<|
.frz 7 (.ev 0) none [13] []<|
.a 21 2 8 (@F_qb_ok t.1 q) fun O=>
.a 22 2 8 (@F_q8_ok t.1 i.1 36000) fun z=>
.a 23 2 8 (@F_q8_ok t.1 q 36000) fun B=>
 let L:=(cO (cO (O.2 != 0) (z.2 != 0)) (B.2 != 0))
.calld [L=false] dF (@F_q1i_ok O.1 q) fun P E =>
 let M:=(cO L (!P))
.calld [M=false] dF (@F_q2b_ok z.1 B.1) fun R G =>
.reg 24 [] [(13,hc E [] true),(19,hc G [] true)] [.clg 2 [L=false] E [] 8 true,.clg 0 [M=false] G [] 8 true]<|
.ite (cO M (!R)) (
.r (.ret false)) (
.r (.brk I.2)))
def S_qj (o:(List Int)):SC Bool Bool :=
.call (@F_q2r_ok o) fun h i=>
.k 1 1 i [] 0 false<|
.call (@F_q0_ok h) fun f j=>
.reg 2 [] [(1,hc j [0] false),(2,{ obs:=[(1,(TLa.b (⟨0,0,[],[],[],[],[],[],[],[]⟩:TLa)))] })] [.cl 0 j [0] 1 false,.pf cz2]<|
.call (@F_qp_ok f.1 6 f.2) fun d m=>
.k 3 2 m [0] 2 false<|
.guard [d.2.length<2 ^ 63]<|
.range (d.2.length:Int) d.2.length rfl (.why (.ev 0)) 29 [3,4,28] (fun (c:(List TTr))=>[(5,(AV.ref 3 c.length 0 c.length))]) (fun c=>[(3,(eS 7 TTr.e c))]) d.2 (S_qj_b1 f d) (fun c => 
.guard [c.length<2 ^ 63]<|
.frz 3 (.ev 0) none [5] []<|
.a 9 2 4 (@F_qb_ok f.1 c) fun g=>
.ite (g.2 != 0) (
.r false) (
.range (g.1.length:Int) g.1.length rfl (.slot 7) 50 [3,4,7,48,49] (fun (_:TTape)=>[]) (fun n=>[(0,(TTape.b n))]) d.1 (S_qj_b2 f g) (fun _ => 
.a 27 0 4 (@F_q2w_ok) fun l=>
.r l) id)) id
def F_qj (a:(List Int)):=(S_qj a).den
theorem F_qj_ok {a:(List Int)}:FO (F_qj a) 6 [(vl a)] [] vb NL:=fO (s:=S_qj a) Tryz.func6
end
end Go.Proofs.YtljnmhapbonmfaaGreatDoor
