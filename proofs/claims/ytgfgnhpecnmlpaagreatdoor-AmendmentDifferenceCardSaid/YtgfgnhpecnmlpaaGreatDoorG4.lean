/- A part of the proof: what the functions compute, and that their calls return it. No condition. -/
import Derived.Test.YtgfgnhpecnmlpaaGreatDoorG3
/- What the functions compute, and that their calls return it. No condition. -/
namespace Go.Proofs.YtgfgnhpecnmlpaaGreatDoor
open Go Go.TA
open Go.IntKind (i64)
noncomputable section
set_option maxRecDepth 100000
set_option maxHeartbeats 2000000
def S_q27_b1 (a0_0:Int) (a0_1:Int) (a0_2:(List THe)) (a0_3:(List TEa)) (a0_4:(List TCo)) (a0_5:(List TRu)) (p:(List TCh)) (q:(List TLi)) (s:(List TBo)) (t:(List TBo)) (u:(List TAm)) (f:Nat) (_:Unit):SC Int (Step Unit Int) :=
.reg 3 [] [] [.w f,.ev 0]<|
 let b:=(p.getD f dF)
.ite (cO (decide (b.C<1)) (decide (b.C>3))) (
.r (.ret 1)) (
.call (@F_q13_ok a0_0 a0_1 a0_2 a0_3 a0_4 a0_5 b.B q s t u) fun h m=>
.calld [(b.C==1)=true,(!h)=false] dF (@F_qs_ok a0_0 a0_1 a0_2 a0_3 a0_4 a0_5 b.B q s t u) fun v n =>
.reg 7 [] [(3,hc m [0,1,2,3] true),(11,hc n [0,1,2,3] true)] [.cl 2 m [0,1,2,3] 6 true,.clg 0 [(b.C==1)=true,(!h)=false] n [0,1,2,3] 6 true]<|
.ite (cO (!h) (bif (b.C==1) then (!v) else false)) (
.r (.ret 5)) (
.call (@F_q2m_ok a0_0 a0_1 a0_2 a0_3 a0_4 a0_5 b.H q s t u) fun x y=>
.k 9 3 y [0,1,2,3] 6 true<|
.ite (bif (!x) then (cO (b.C==1) (b.H != (-1))) else false) (
.r (.ret 16)) (
.a 11 2 6 (@F_q1g_ok b.D) fun z=>
.ite (bif (!z) then (cO (b.C != 2) (b.D != (-1))) else false) (
.r (.ret 2)) (
 let i:=(i64.wrap ((f:Int)-1))
 let g:=(p.getD i.toNat dF)
 let c:=(decide ((f:Int)>0))
 let d:=(decide (g.C>b.C))
 let e:=(g.C==b.C)
.calld [e=true,d=false,c=true] dF (@F_q2n_ok g.B g.H b.B b.H) fun A o =>
 let j:=(i.toNat<p.length)
 let l:=((0:Int)<=i)
.guard [AllP [c=true]->l,AllP [c=true]->j,AllP [d=false,c=true]->l,AllP [d=false,c=true]->j,AllP [e=true,d=false,c=true]->l,AllP [e=true,d=false,c=true]->j]<|
.reg 13 [] [(39,hc o [] true)] [.ev 0,.ev 1,.ev 2,.ev 3,.ev 4,.ev 5,.ev 4,.ev 5,.clg 6 [e=true,d=false,c=true] o [] 6 true]<|
.ite (bif c then (cO d (bif e then (!A) else false)) else false) (
.r (.ret 8)) (
.r (.cont ()))))))
def S_q27 (a0_0:Int) (a0_1:Int) (a0_2:(List THe)) (a0_3:(List TEa)) (a0_4:(List TCo)) (a0_5:(List TRu)) (a:(List TCh)) (b:(List TLi)) (c:(List TBo)) (d:(List TBo)) (e:(List TAm)):SC Int Int :=
.range (a.length:Int) a.length rfl (.slot 1) 10 [1,2,8,9] (fun (_:Unit)=>[]) (fun _=>[]) () (S_q27_b1 a0_0 a0_1 a0_2 a0_3 a0_4 a0_5 a b c d e) (fun _ => 
.r 0) id
def F_q27 (a0_0:Int) (a0_1:Int) (a0_2:(List THe)) (a0_3:(List TEa)) (a0_4:(List TCo)) (a0_5:(List TRu)) (a:(List TCh)) (b:(List TLi)) (c:(List TBo)) (d:(List TBo)) (e:(List TAm)):=(S_q27 a0_0 a0_1 a0_2 a0_3 a0_4 a0_5 a b c d e).den
theorem F_q27_ok {a0_0:Int} {a0_1:Int} {a0_2:(List THe)} {a0_3:(List TEa)} {a0_4:(List TCo)} {a0_5:(List TRu)} {g:(List TCh)} {a:(List TLi)} {b:(List TBo)} {c:(List TBo)} {f:(List TAm)}:FO (F_q27 a0_0 a0_1 a0_2 a0_3 a0_4 a0_5 g a b c f) 119 [(AV.agg [(vi a0_0),(vi a0_1),(AV.d (eL THe.e a0_2)),(AV.ref 0 a.length 0 a.length),(AV.ref 1 b.length 0 b.length),(AV.ref 2 c.length 0 c.length),(AV.d (eL TEa.e a0_3)),(AV.d (eL TCo.e a0_4)),(AV.d (eL TRu.e a0_5)),(AV.ref 3 f.length 0 f.length)]),(AV.d (eL TCh.e g))] [(eS 3 TLi.e a),(eS 3 TBo.e b),(eS 3 TBo.e c),(eS 3 TAm.e f)] vi (fun _=>[(eS 3 TLi.e a),(eS 3 TBo.e b),(eS 3 TBo.e c),(eS 3 TAm.e f)]):=fO (s:=S_q27 a0_0 a0_1 a0_2 a0_3 a0_4 a0_5 g a b c f) Tryz.func119
def S_q1m_b1 (a0_0:Int) (a0_1:Int) (a0_2:(List THe)) (a0_3:(List TEa)) (a0_4:(List TCo)) (a0_5:(List TRu)) (t:(List TLi)) (u:(List TBo)) (v:(List TBo)) (i:(List TAm)) (h:Nat) (_:Unit):SC Int (Step Unit Int) :=
.guard [(0+h)<i.length]<|
.reg 3 [] [(3,{ obs:=[(5,(TAm.b (⟨0,0,[]⟩:TAm)))] })] [.e i.length,.w h,.ev 1,.e i.length,.ev 0,.pf cz2]<|
 let d:=(i.getD (0+h) dF)
.ite (cO (cO (cO (decide (d.L<0)) (decide (d.L>35990))) (decide (d.J<1))) (decide (d.J>1000000))) (
.r (.ret 2)) (
 let j:=(i64.wrap ((h:Int)-1))
 let l:=(i.getD (0+j.toNat) dF)
 let c:=(decide (l.L>d.L))
 let g:=(l.L==d.L)
 let a:=(decide ((h:Int)>0))
 let m:=((0+j.toNat)<i.length)
 let n:=(j.toNat<i.length)
 let o:=((0:Int)<=j)
.guard [AllP [a=true]->o,AllP [a=true]->n,AllP [a=true]->m,AllP [c=false,a=true]->o,AllP [c=false,a=true]->n,AllP [c=false,a=true]->m,AllP [g=true,c=false,a=true]->o,AllP [g=true,c=false,a=true]->n,AllP [g=true,c=false,a=true]->m]<|
 let f:=(i.length=i.length)
.reg 6 [] [] [.pf (p:=AllP [a=true]->f) (fun _=>rfl),.ev 0,.ev 1,.pf (p:=AllP [a=true]->f) (fun _=>rfl),.pf (p:=AllP [a=true]->f) (fun _=>rfl),.ev 2,.pf (p:=AllP [c=false,a=true]->f) (fun _=>rfl),.ev 3,.ev 4,.pf (p:=AllP [c=false,a=true]->f) (fun _=>rfl),.pf (p:=AllP [c=false,a=true]->f) (fun _=>rfl),.ev 5,.pf (p:=AllP [g=true,c=false,a=true]->f) (fun _=>rfl),.ev 6,.ev 7,.pf (p:=AllP [g=true,c=false,a=true]->f) (fun _=>rfl),.pf (p:=AllP [g=true,c=false,a=true]->f) (fun _=>rfl),.ev 8]<|
.ite (bif a then (cO c (bif g then (decide (l.J>=d.J)) else false)) else false) (
.r (.ret 8)) (
.ite ((d.G.length:Int)==0) (
.r (.ret 1)) (
.call (@F_q27_ok a0_0 a0_1 a0_2 a0_3 a0_4 a0_5 d.G t u v i) fun q s=>
.k 10 3 s [0,1,2,3] 6 true<|
.ite (q != 0) (
.r (.ret q)) (
.r (.cont ())))))
def S_q1m (a0_0:Int) (a0_1:Int) (a0_2:(List THe)) (a0_3:(List TEa)) (a0_4:(List TCo)) (a0_5:(List TRu)) (b:(List TLi)) (c:(List TBo)) (d:(List TBo)) (a:(List TAm)):SC Int Int :=
.guard [a.length<2 ^ 63]<|
.range (a.length:Int) a.length rfl (.why (.ev 0)) 9 [1,7,8] (fun (_:Unit)=>[]) (fun _=>[]) () (S_q1m_b1 a0_0 a0_1 a0_2 a0_3 a0_4 a0_5 b c d a) (fun _ => 
.r 0) id
def F_q1m (a0_0:Int) (a0_1:Int) (a0_2:(List THe)) (a0_3:(List TEa)) (a0_4:(List TCo)) (a0_5:(List TRu)) (a:(List TLi)) (b:(List TBo)) (c:(List TBo)) (d:(List TAm)):=(S_q1m a0_0 a0_1 a0_2 a0_3 a0_4 a0_5 a b c d).den
theorem F_q1m_ok {a0_0:Int} {a0_1:Int} {a0_2:(List THe)} {a0_3:(List TEa)} {a0_4:(List TCo)} {a0_5:(List TRu)} {a:(List TLi)} {b:(List TBo)} {c:(List TBo)} {f:(List TAm)}:FO (F_q1m a0_0 a0_1 a0_2 a0_3 a0_4 a0_5 a b c f) 56 [(AV.agg [(vi a0_0),(vi a0_1),(AV.d (eL THe.e a0_2)),(AV.ref 0 a.length 0 a.length),(AV.ref 1 b.length 0 b.length),(AV.ref 2 c.length 0 c.length),(AV.d (eL TEa.e a0_3)),(AV.d (eL TCo.e a0_4)),(AV.d (eL TRu.e a0_5)),(AV.ref 3 f.length 0 f.length)])] [(eS 3 TLi.e a),(eS 3 TBo.e b),(eS 3 TBo.e c),(eS 3 TAm.e f)] vi (fun _=>[(eS 3 TLi.e a),(eS 3 TBo.e b),(eS 3 TBo.e c),(eS 3 TAm.e f)]):=fO (s:=S_q1m a0_0 a0_1 a0_2 a0_3 a0_4 a0_5 a b c f) Tryz.func56
def S_q28_b1 (c:Int) (d:Int) (e:Int) (f:Int) (g:Int) (h:Int) (i:Int) (j:Int) (a:Nat) (_:Unit):SC Int (Step Unit Int) :=
.reg 8 [] [] [.w a,.ev 0]<|
 let b:=(([c,d,e,f,g,h,i,j]:List Int).getD a dF)
.ite (b != 0) (
.r (.ret b)) (
.r (.cont ()))
def S_q28 (a0_0:Int) (a0_1:Int) (a0_2:(List THe)) (a0_3:(List TEa)) (a0_4:(List TCo)) (a0_5:(List TRu)) (b:(List TLi)) (c:(List TBo)) (d:(List TBo)) (e:(List TAm)):SC Int Int :=
.ite (cO (cO (cO (cO (decide (a0_0<0)) (decide (a0_0>99))) (decide (a0_1<1))) (decide (a0_1>4))) (decide ((i64.wrap ((i64.wrap (a0_0+a0_1))-1))>99))) (
.r 2) (
.a 3 2 5 (@F_q3r_ok a0_2) fun f=>
.ite (f != 0) (
.r f) (
.call (@F_q1f_ok a0_0 a0_1 a0_2 a0_3 a0_4 a0_5 b c d e) fun g h=>
.call (@F_q1h_ok a0_0 a0_1 a0_2 a0_3 a0_4 a0_5 b c d e) fun j k=>
.call (@F_q1i_ok a0_0 a0_1 a0_2 a0_3 a0_4 a0_5 b c d e) fun l m=>
.call (@F_q1j_ok a0_0 a0_1 a0_2 a0_3 a0_4 a0_5 b c d e) fun n o=>
.call (@F_q6_ok a0_0 a0_1 a0_2 a0_3 a0_4 a0_5 b c d e) fun q s=>
.call (@F_q1k_ok a0_0 a0_1 a0_2 a0_3 a0_4 a0_5 b c d e) fun t u=>
.call (@F_q1l_ok a0_0 a0_1 a0_2 a0_3 a0_4 a0_5 b c d e) fun v w=>
.call (@F_q1m_ok a0_0 a0_1 a0_2 a0_3 a0_4 a0_5 b c d e) fun x y=>
 let z:=([g,j,l,n,q,t,v,x]:List Int)
.reg 6 [] [(1,hc h [0,1,2,3] true),(3,hc k [0,1,2,3] true),(7,hc m [0,1,2,3] true),(11,hc o [0,1,2,3] true),(13,hc s [0,1,2,3] true),(15,hc u [0,1,2,3] true),(17,hc w [0,1,2,3] true),(19,hc y [0,1,2,3] true),(20,hv (vl z))] [.cl 7 h [0,1,2,3] 5 true,.cl 6 k [0,1,2,3] 5 true,.cl 5 m [0,1,2,3] 5 true,.cl 4 o [0,1,2,3] 5 true,.cl 3 s [0,1,2,3] 5 true,.cl 2 u [0,1,2,3] 5 true,.cl 1 w [0,1,2,3] 5 true,.cl 0 y [0,1,2,3] 5 true,.pf (z5 (DV.i .i64) z)]<|
.range 8 8 rfl (.why (.pf (p:=8<2 ^ 63) dk)) 61 [59,60] (fun (_:Unit)=>[]) (fun _=>[]) () (S_q28_b1 g j l n q t v x) (fun _ => 
.r 0) id))
def F_q28 (a0_0:Int) (a0_1:Int) (a0_2:(List THe)) (a0_3:(List TEa)) (a0_4:(List TCo)) (a0_5:(List TRu)) (a:(List TLi)) (b:(List TBo)) (c:(List TBo)) (d:(List TAm)):=(S_q28 a0_0 a0_1 a0_2 a0_3 a0_4 a0_5 a b c d).den
theorem F_q28_ok {a0_0:Int} {a0_1:Int} {a0_2:(List THe)} {a0_3:(List TEa)} {a0_4:(List TCo)} {a0_5:(List TRu)} {a:(List TLi)} {b:(List TBo)} {c:(List TBo)} {f:(List TAm)}:FO (F_q28 a0_0 a0_1 a0_2 a0_3 a0_4 a0_5 a b c f) 13 [(AV.agg [(vi a0_0),(vi a0_1),(AV.d (eL THe.e a0_2)),(AV.ref 0 a.length 0 a.length),(AV.ref 1 b.length 0 b.length),(AV.ref 2 c.length 0 c.length),(AV.d (eL TEa.e a0_3)),(AV.d (eL TCo.e a0_4)),(AV.d (eL TRu.e a0_5)),(AV.ref 3 f.length 0 f.length)])] [(eS 3 TLi.e a),(eS 3 TBo.e b),(eS 3 TBo.e c),(eS 3 TAm.e f)] vi (fun _=>[(eS 3 TLi.e a),(eS 3 TBo.e b),(eS 3 TBo.e c),(eS 3 TAm.e f)]):=fO (s:=S_q28 a0_0 a0_1 a0_2 a0_3 a0_4 a0_5 a b c f) Tryz.func13
theorem cz3:OLe (bx (DV.agg [(DV.i .i64 0),(DV.i .i64 0),Z0,Z0,Z0,Z0,Z0,Z0,Z0,Z0])) (TLa.b (⟨0,0,[],[],[],[],[],[],[],[]⟩:TLa)):=z84 (DLe.agg (DLeL.cons (DLe.refl _) (DLeL.cons (DLe.refl _) (DLeL.cons DLe.sl0 (DLeL.cons DLe.sl0 (DLeL.cons DLe.sl0 (DLeL.cons DLe.sl0 (DLeL.cons DLe.sl0 (DLeL.cons DLe.sl0 (DLeL.cons DLe.sl0 (DLeL.cons DLe.sl0 DLeL.nil)))))))))))
abbrev R_q2:=TLa×TTape
def S_q2_b1 (j:R_q3) (m:Nat) (a:TTape×Int×Int×(List THe)×(List TLi)×Int):SC R_q2 (Step (TTape×Int×Int×(List THe)×(List TLi)×Int) R_q2) :=
.ite (decide (a.2.2.2.2.2<(i64.wrap (a.2.1+a.2.2.1)))) (
.call (@F_q0_ok 4 a.1) fun f n=>
.k 8 1 n [0] 10 false<|
 let g:=(i64.wrap (a.2.2.2.2.2+1))
.ite (decide (f.1>0)) (
.call (@F_q1d_ok f.2) fun h i=>
.guard [(a.2.2.2.2.1.length+1) * (2 * 32)<=2 ^ 48]<|
 let b:=([(⟨(j.getD m dF),a.2.2.2.2.2,h.1⟩:TLi)]:List TLi)
 let c:=(a.2.2.2.2.1++b)
.reg 9 [5,8,10] [(5,hc i [0] false),(7,hv (AV.d (eL TLi.e b))),(8,{ cast:=some (AV.ref 3 c.length 0 c.length),obs:=[(3,(eS 3 TLi.e c))] })] [.cl 1 i [0] 10 false,.pf (z5 TLi.e b),.e a.2.2.2.2.1.length,.e a.2.2.2.2.1.length,.pf (p:=∀ k,k<1->(TLi.d (b.getD k dF)).wd=3) (fun _ _=>rfl),.ev 0,.pf (zf (o:=3) (l:=a.2.2.2.2.1) (x:=b)),.pf (ze (sz:=3) (e:=TLi.e) (l:=a.2.2.2.2.1) (x:=b))]<|
.r (.cont (h.2,a.2.1,a.2.2.1,a.2.2.2.1,c,g))) (
.r (.cont (f.2,a.2.1,a.2.2.1,a.2.2.2.1,a.2.2.2.2.1,g)))) (
.r (.brk (a.1,a.2.1,a.2.2.1,a.2.2.2.1,a.2.2.2.2.1,a.2.2.2.2.2)))
def S_q2_b2 (g:R_q3) (f:Nat) (c:TTape×Int×Int×(List THe)×(List TLi)):SC R_q2 (Step (TTape×Int×Int×(List THe)×(List TLi)) R_q2) :=
.reg 4 [] [] [.w f,.ev 0]<|
.iter [0,2,3,5,24,25,26] (fun (a:TTape×Int×Int×(List THe)×(List TLi)×Int)=>[(6,(vi a.2.2.2.2.2))]) (fun a=>[(0,(TTape.b a.1)),(2,(Ob.box (AV.agg [(vi a.2.1),(vi a.2.2.1),(AV.d (eL THe.e a.2.2.2.1)),(AV.ref 3 a.2.2.2.2.1.length 0 a.2.2.2.2.1.length),(AV.ref 7 0 0 0),(AV.ref 5 0 0 0),(AV.ref 9 0 0 0),(AV.ref 6 0 0 0),(AV.ref 8 0 0 0),(AV.ref 4 0 0 0)]))),(3,(eS 3 TLi.e a.2.2.2.2.1))]) (c.1,c.2.1,c.2.2.1,c.2.2.2.1,c.2.2.2.2,c.2.1) (S_q2_b1 g f) (fun a =>
.r (.cont (a.1,a.2.1,a.2.2.1,a.2.2.2.1,a.2.2.2.2.1))) .ret
def S_q2_b3 (z:TTape×Int×Int×(List THe)×(List TLi)) (H:Nat) (D:R_qz) (A:Nat) (a:TTape×Int×Int×(List THe)×(List TBo)×(List TBo)):SC R_q2 (Step (TTape×Int×Int×(List THe)×(List TBo)×(List TBo)) R_q2) :=
.reg 16 [] [] [.w A,.ev 0]<|
.call (@F_q0_ok 6 a.1) fun h E=>
.k 17 1 E [0] 11 false<|
 let F:=(z.2.2.2.1.getD H dF)
.cut none [0,2,3,8,10,56,57,58,63,64,65] (fun (_:TTape×Int×Int×(List THe)×(List TBo))=>[]) (fun c=>[(0,(TTape.b c.1)),(2,(Ob.box (AV.agg [(vi c.2.1),(vi c.2.2.1),(AV.d (eL THe.e c.2.2.2.1)),(AV.ref 3 z.2.2.2.2.length 0 z.2.2.2.2.length),(AV.ref 7 c.2.2.2.2.length 0 c.2.2.2.2.length),(AV.ref 5 a.2.2.2.2.1.length 0 a.2.2.2.2.1.length),(AV.ref 9 0 0 0),(AV.ref 6 0 0 0),(AV.ref 8 0 0 0),(AV.ref 4 0 0 0)]))),(7,(eS 3 TBo.e c.2.2.2.2))]) (
.ite (h.1==5) (
.call (@F_q1d_ok h.2) fun q s=>
 let C:=([q.1,5000,100000]:List Int)
.call (@F_qa_ok C q.2) fun t u=>
.guard [(a.2.2.2.2.2.length+1) * (2 * 32)<=2 ^ 48]<|
 let f:=([(⟨F.B,(D.getD A dF),t.1⟩:TBo)]:List TBo)
 let m:=(a.2.2.2.2.2++f)
.reg 18 [7,9,12,14] [(7,hc s [0] false),(8,hv (vl C)),(9,hc u [0] false),(11,hv (AV.d (eL TBo.e f))),(12,{ cast:=some (AV.ref 7 m.length 0 m.length),obs:=[(7,(eS 3 TBo.e m))] })] [.cl 2 s [0] 11 false,.pf (z5 (DV.i .i64) C),.cl 1 u [0] 11 false,.pf (z5 TBo.e f),.e a.2.2.2.2.2.length,.e a.2.2.2.2.2.length,.pf (p:=∀ k,k<1->(TBo.d (f.getD k dF)).wd=3) (fun _ _=>rfl),.ev 0,.pf (zf (o:=7) (l:=a.2.2.2.2.2) (x:=f)),.pf (ze (sz:=3) (e:=TBo.e) (l:=a.2.2.2.2.2) (x:=f))]<|
.r (.next (t.2,a.2.1,a.2.2.1,a.2.2.2.1,m))) (
.r (.next (h.2,a.2.1,a.2.2.1,a.2.2.2.1,a.2.2.2.2.2)))) fun c=>
.call (@F_q0_ok 8 c.1) fun j G=>
.k 19 1 G [0] 11 false<|
.ite (j.1==7) (
.call (@F_q0_ok 300 j.2) fun v y=>
.guard [(a.2.2.2.2.1.length+1) * (2 * 32)<=2 ^ 48]<|
 let g:=([(⟨F.B,(D.getD A dF),v.1⟩:TBo)]:List TBo)
 let n:=(a.2.2.2.2.1++g)
.reg 20 [6,9,11] [(6,hc y [0] false),(8,hv (AV.d (eL TBo.e g))),(9,{ cast:=some (AV.ref 5 n.length 0 n.length),obs:=[(5,(eS 3 TBo.e n))] })] [.cl 1 y [0] 11 false,.pf (z5 TBo.e g),.e a.2.2.2.2.1.length,.e a.2.2.2.2.1.length,.pf (p:=∀ k,k<1->(TBo.d (g.getD k dF)).wd=3) (fun _ _=>rfl),.ev 0,.pf (zf (o:=5) (l:=a.2.2.2.2.1) (x:=g)),.pf (ze (sz:=3) (e:=TBo.e) (l:=a.2.2.2.2.1) (x:=g))]<|
.r (.cont (v.2,c.2.1,c.2.2.1,c.2.2.2.1,n,c.2.2.2.2))) (
.r (.cont (j.2,c.2.1,c.2.2.1,c.2.2.2.1,a.2.2.2.2.1,c.2.2.2.2)))
def S_q2_b4 (f:TTape×Int×Int×(List THe)×(List TLi)) (h:Nat) (c:TTape×Int×Int×(List THe)×(List TBo)×(List TBo)):SC R_q2 (Step (TTape×Int×Int×(List THe)×(List TBo)×(List TBo)) R_q2) :=
.reg 13 [] [] [.w h,.ev 0]<|
.call (@F_qz_ok c.2.1 c.2.2.1 c.2.2.2.1 f.2.2.2.2 c.2.2.2.2.2 c.2.2.2.2.1 ([]:List TEa) ([]:List TCo) ([]:List TRu) ([]:List TAm)) fun g i=>
.k 14 1 i [3,7,5,9,6,8,4] 11 true<|
.range (g.length:Int) g.length rfl (.slot 63) 65 [0,2,3,8,56,57,58,63,64] (fun (_:TTape×Int×Int×(List THe)×(List TBo)×(List TBo))=>[]) (fun a=>[(0,(TTape.b a.1)),(2,(Ob.box (AV.agg [(vi a.2.1),(vi a.2.2.1),(AV.d (eL THe.e a.2.2.2.1)),(AV.ref 3 f.2.2.2.2.length 0 f.2.2.2.2.length),(AV.ref 7 a.2.2.2.2.2.length 0 a.2.2.2.2.2.length),(AV.ref 5 a.2.2.2.2.1.length 0 a.2.2.2.2.1.length),(AV.ref 9 0 0 0),(AV.ref 6 0 0 0),(AV.ref 8 0 0 0),(AV.ref 4 0 0 0)]))),(5,(eS 3 TBo.e a.2.2.2.2.1)),(7,(eS 3 TBo.e a.2.2.2.2.2))]) (c.1,c.2.1,c.2.2.1,c.2.2.2.1,c.2.2.2.2.1,c.2.2.2.2.2) (S_q2_b3 f h g) (fun a => 
.r (.cont (a.1,a.2.1,a.2.2.1,a.2.2.2.1,a.2.2.2.2.1,a.2.2.2.2.2))) .ret
def S_q2_b5 (s:TTape×Int×Int×(List THe)×(List TLi)) (f:TTape×Int×Int×(List THe)×(List TBo)×(List TBo)) (a:TTape×Int×Int×(List THe)×(List TEa)×(List TCo)×(List TRu)×(List TAm)×Int×Int×Int):SC R_q2 (Step (TTape×Int×Int×(List THe)×(List TEa)×(List TCo)×(List TRu)×(List TAm)×Int×Int×Int) R_q2) :=
.ite (decide (a.2.2.2.2.2.2.2.2.2.2>0)) (
.call (@F_qa_ok ([0,1,100,400]:List Int) a.1) fun g h=>
.reg 28 [] [(2,hv (vl ([0,1,100,400]:List Int))),(3,hc h [0] false)] [.pf (z5 (DV.i .i64) ([0,1,100,400]:List Int)),.cl 0 h [0] 10 false]<|
.call (@F_q12_ok a.2.1 a.2.2.1 a.2.2.2.1 a.2.2.2.2.1 a.2.2.2.2.2.1 a.2.2.2.2.2.2.1 g.2 s.2.2.2.2 f.2.2.2.2.2 f.2.2.2.2.1 a.2.2.2.2.2.2.2.1) fun j m=>
.guard [(a.2.2.2.2.2.2.2.1.length+1) * (2 * 40)<=2 ^ 48]<|
 let n:=(i64.wrap (a.2.2.2.2.2.2.2.2.2.1+g.1))
 let q:=(i64.wrap (a.2.2.2.2.2.2.2.2.1+1))
 let b:=([(⟨n,q,j.1⟩:TAm)]:List TAm)
 let c:=(a.2.2.2.2.2.2.2.1++b)
.reg 30 [6,9,11] [(6,hc m [0,3,7,5,4] false),(8,hv (AV.d (eL TAm.e b))),(9,{ cast:=some (AV.ref 4 c.length 0 c.length),obs:=[(4,(eS 3 TAm.e c))] })] [.cl 1 m [0,3,7,5,4] 10 false,.pf (z5 TAm.e b),.e a.2.2.2.2.2.2.2.1.length,.e a.2.2.2.2.2.2.2.1.length,.pf (p:=∀ k,k<1->(TAm.d (b.getD k dF)).wd=3) (fun _ _=>rfl),.ev 0,.pf (zf (o:=4) (l:=a.2.2.2.2.2.2.2.1) (x:=b)),.pf (ze (sz:=3) (e:=TAm.e) (l:=a.2.2.2.2.2.2.2.1) (x:=b))]<|
.r (.cont (j.2,a.2.1,a.2.2.1,a.2.2.2.1,a.2.2.2.2.1,a.2.2.2.2.2.1,a.2.2.2.2.2.2.1,c,q,n,(i64.wrap (a.2.2.2.2.2.2.2.2.2.2-1))))) (
.r (.brk (a.1,a.2.1,a.2.2.1,a.2.2.2.1,a.2.2.2.2.1,a.2.2.2.2.2.1,a.2.2.2.2.2.2.1,a.2.2.2.2.2.2.2.1,a.2.2.2.2.2.2.2.2.1,a.2.2.2.2.2.2.2.2.2.1,a.2.2.2.2.2.2.2.2.2.2)))
def S_q2 (p0:TTape):SC R_q2 R_q2 :=
 let C:=(TLa.b (⟨0,0,[],[],[],[],[],[],[],[]⟩:TLa))
.reg 0 [] [(0,{ obs:=[(1,C)] })] [.pf cz3]<|
.call (@F_qa_ok ([0,3,12,95]:List Int) p0) fun n K=>
.call (@F_q3p_ok 1 3 n.2) fun o L=>
.call (@F_q5_ok 6 o.2) fun D M=>
.reg 1 [] [(1,hv (vl ([0,3,12,95]:List Int))),(2,hc K [0] false),(4,hc L [0] false),(6,hc M [0] false),(7,{ h:=.obj }),(8,{ h:=.obj })] [.pf (z5 (DV.i .i64) ([0,3,12,95]:List Int)),.cl 2 K [0] 2 false,.cl 1 L [0] 2 false,.cl 0 M [0] 2 false]<|
 let l:=(AV.full 0 fun _=>DV.b false)
 let q:=[(0,(vp 0)),(2,(vp 1)),(3,(vp 2))]
 let s:=(AV.d (eL THe.e D.1))
 let w:=(eS 3 TLi.e ([]:List TLi))
 let t:=(TTape.b D.2)
 let x:=(AV.ref 3 0 0 0)
 let S:=[t,C,(Ob.box (AV.agg [(vi n.1),(vi o.1),s,x,l,l,l,l,l,l])),w]
.sh (A:=True) (.pf trivial) q q [t,C,(Ob.box (AV.agg [(vi n.1),(vi o.1),s,l,l,l,l,l,l,l]))] S (fun _=>(z1d (sz:=3) (f:=fun j=>AV.d (TLi.e (([]:List TLi).getD j dF))) (.keep _ _ _ _ (y8 rfl) (.keep _ _ _ _ (y8 rfl) (.box _ _ _ _ _ (y8 rfl) (TrV.agg (TrL.cons (TrV.keep _) (TrL.cons (TrV.keep _) (TrL.cons (TrV.keep _) (TrL.cons TrV.born (TrL.cons (TrV.keep _) (TrL.cons (TrV.keep _) (TrL.cons (TrV.keep _) (TrL.cons (TrV.keep _) (TrL.cons (TrV.keep _) (TrL.cons (TrV.keep _) TrL.nil))))))))))) (.nil _)))))) (zj (k:=0) rfl (TrS.keep _) (zj (k:=1) rfl (TrS.keep _) (zj (k:=2) rfl (TrS.keep _) z1f)))<|
 let y:=(eS 3 TAm.e ([]:List TAm))
 let u:=(AV.ref 4 0 0 0)
 let T:=[t,C,(Ob.box (AV.agg [(vi n.1),(vi o.1),s,x,l,l,l,l,l,u])),w,y]
.sh (A:=True) (.pf trivial) q q S T (fun _=>(z1d (sz:=3) (f:=fun j=>AV.d (TAm.e (([]:List TAm).getD j dF))) (.keep _ _ _ _ (y8 rfl) (.keep _ _ _ _ (y8 rfl) (.box _ _ _ _ _ (y8 rfl) (TrV.agg (TrL.cons (TrV.keep _) (TrL.cons (TrV.keep _) (TrL.cons (TrV.keep _) (TrL.cons (TrV.keep _) (TrL.cons (TrV.keep _) (TrL.cons (TrV.keep _) (TrL.cons (TrV.keep _) (TrL.cons (TrV.keep _) (TrL.cons (TrV.keep _) (TrL.cons TrV.born TrL.nil))))))))))) (.keep _ _ _ _ (y8 rfl) (.nil _))))))) (zj (k:=0) rfl (TrS.keep _) (zj (k:=1) rfl (TrS.keep _) (zj (k:=2) rfl (TrS.keep _) z1f)))<|
 let E:=(eS 3 TBo.e ([]:List TBo))
 let z:=(AV.ref 5 0 0 0)
 let U:=[t,C,(Ob.box (AV.agg [(vi n.1),(vi o.1),s,x,l,z,l,l,l,u])),w,y,E]
.sh (A:=True) (.pf trivial) q q T U (fun _=>(z1d (sz:=3) (f:=fun j=>AV.d (TBo.e (([]:List TBo).getD j dF))) (.keep _ _ _ _ (y8 rfl) (.keep _ _ _ _ (y8 rfl) (.box _ _ _ _ _ (y8 rfl) (TrV.agg (TrL.cons (TrV.keep _) (TrL.cons (TrV.keep _) (TrL.cons (TrV.keep _) (TrL.cons (TrV.keep _) (TrL.cons (TrV.keep _) (TrL.cons TrV.born (TrL.cons (TrV.keep _) (TrL.cons (TrV.keep _) (TrL.cons (TrV.keep _) (TrL.cons (TrV.keep _) TrL.nil))))))))))) (.keep _ _ _ _ (y8 rfl) (.keep _ _ _ _ (y8 rfl) (.nil _)))))))) (zj (k:=0) rfl (TrS.keep _) (zj (k:=1) rfl (TrS.keep _) (zj (k:=2) rfl (TrS.keep _) z1f)))<|
 let F:=(eS 7 TCo.e ([]:List TCo))
 let B:=(AV.ref 6 0 0 0)
 let V:=[t,C,(Ob.box (AV.agg [(vi n.1),(vi o.1),s,x,l,z,l,B,l,u])),w,y,E,F]
.sh (A:=True) (.pf trivial) q q U V (fun _=>(z1d (sz:=7) (f:=fun j=>AV.d (TCo.e (([]:List TCo).getD j dF))) (.keep _ _ _ _ (y8 rfl) (.keep _ _ _ _ (y8 rfl) (.box _ _ _ _ _ (y8 rfl) (TrV.agg (TrL.cons (TrV.keep _) (TrL.cons (TrV.keep _) (TrL.cons (TrV.keep _) (TrL.cons (TrV.keep _) (TrL.cons (TrV.keep _) (TrL.cons (TrV.keep _) (TrL.cons (TrV.keep _) (TrL.cons TrV.born (TrL.cons (TrV.keep _) (TrL.cons (TrV.keep _) TrL.nil))))))))))) (.keep _ _ _ _ (y8 rfl) (.keep _ _ _ _ (y8 rfl) (.keep _ _ _ _ (y8 rfl) (.nil _))))))))) (zj (k:=0) rfl (TrS.keep _) (zj (k:=1) rfl (TrS.keep _) (zj (k:=2) rfl (TrS.keep _) z1f)))<|
 let G:=(AV.ref 7 0 0 0)
 let W:=[t,C,(Ob.box (AV.agg [(vi n.1),(vi o.1),s,x,G,z,l,B,l,u])),w,y,E,F,E]
.sh (A:=True) (.pf trivial) q q V W (fun _=>(z1d (sz:=3) (f:=fun j=>AV.d (TBo.e (([]:List TBo).getD j dF))) (.keep _ _ _ _ (y8 rfl) (.keep _ _ _ _ (y8 rfl) (.box _ _ _ _ _ (y8 rfl) (TrV.agg (TrL.cons (TrV.keep _) (TrL.cons (TrV.keep _) (TrL.cons (TrV.keep _) (TrL.cons (TrV.keep _) (TrL.cons TrV.born (TrL.cons (TrV.keep _) (TrL.cons (TrV.keep _) (TrL.cons (TrV.keep _) (TrL.cons (TrV.keep _) (TrL.cons (TrV.keep _) TrL.nil))))))))))) (.keep _ _ _ _ (y8 rfl) (.keep _ _ _ _ (y8 rfl) (.keep _ _ _ _ (y8 rfl) (.keep _ _ _ _ (y8 rfl) (.nil _)))))))))) (zj (k:=0) rfl (TrS.keep _) (zj (k:=1) rfl (TrS.keep _) (zj (k:=2) rfl (TrS.keep _) z1f)))<|
 let H:=(AV.ref 8 0 0 0)
 let N:=(eS 4 TRu.e ([]:List TRu))
 let X:=[t,C,(Ob.box (AV.agg [(vi n.1),(vi o.1),s,x,G,z,l,B,H,u])),w,y,E,F,E,N]
.sh (A:=True) (.pf trivial) q q W X (fun _=>(z1d (sz:=4) (f:=fun j=>AV.d (TRu.e (([]:List TRu).getD j dF))) (.keep _ _ _ _ (y8 rfl) (.keep _ _ _ _ (y8 rfl) (.box _ _ _ _ _ (y8 rfl) (TrV.agg (TrL.cons (TrV.keep _) (TrL.cons (TrV.keep _) (TrL.cons (TrV.keep _) (TrL.cons (TrV.keep _) (TrL.cons (TrV.keep _) (TrL.cons (TrV.keep _) (TrL.cons (TrV.keep _) (TrL.cons (TrV.keep _) (TrL.cons TrV.born (TrL.cons (TrV.keep _) TrL.nil))))))))))) (.keep _ _ _ _ (y8 rfl) (.keep _ _ _ _ (y8 rfl) (.keep _ _ _ _ (y8 rfl) (.keep _ _ _ _ (y8 rfl) (.keep _ _ _ _ (y8 rfl) (.nil _))))))))))) (zj (k:=0) rfl (TrS.keep _) (zj (k:=1) rfl (TrS.keep _) (zj (k:=2) rfl (TrS.keep _) z1f)))<|
 let I:=(AV.ref 9 0 0 0)
.sh (A:=True) (.pf trivial) q q X [t,C,(Ob.box (AV.agg [(vi n.1),(vi o.1),s,x,G,z,I,B,H,u])),w,y,E,F,E,N,(eS 3 TEa.e ([]:List TEa))] (fun _=>(z1d (sz:=3) (f:=fun j=>AV.d (TEa.e (([]:List TEa).getD j dF))) (.keep _ _ _ _ (y8 rfl) (.keep _ _ _ _ (y8 rfl) (.box _ _ _ _ _ (y8 rfl) (TrV.agg (TrL.cons (TrV.keep _) (TrL.cons (TrV.keep _) (TrL.cons (TrV.keep _) (TrL.cons (TrV.keep _) (TrL.cons (TrV.keep _) (TrL.cons (TrV.keep _) (TrL.cons TrV.born (TrL.cons (TrV.keep _) (TrL.cons (TrV.keep _) (TrL.cons (TrV.keep _) TrL.nil))))))))))) (.keep _ _ _ _ (y8 rfl) (.keep _ _ _ _ (y8 rfl) (.keep _ _ _ _ (y8 rfl) (.keep _ _ _ _ (y8 rfl) (.keep _ _ _ _ (y8 rfl) (.keep _ _ _ _ (y8 rfl) (.nil _)))))))))))) (zj (k:=0) rfl (TrS.keep _) (zj (k:=1) rfl (TrS.keep _) (zj (k:=2) rfl (TrS.keep _) z1f)))<|
.a 2 2 10 (@F_q3_ok D.1 ([])) fun R=>
.range (R.length:Int) R.length rfl (.slot 24) 26 [0,2,3,24,25] (fun (_:TTape×Int×Int×(List THe)×(List TLi))=>[]) (fun m=>[(0,(TTape.b m.1)),(2,(Ob.box (AV.agg [(vi m.2.1),(vi m.2.2.1),(AV.d (eL THe.e m.2.2.2.1)),(AV.ref 3 m.2.2.2.2.length 0 m.2.2.2.2.length),G,z,I,B,H,u]))),(3,(eS 3 TLi.e m.2.2.2.2))]) (D.2,n.1,o.1,D.1,([]:List TLi)) (S_q2_b2 R) (fun m => 
 let O:=(AV.ref 3 m.2.2.2.2.length 0 m.2.2.2.2.length)
.range (m.2.2.2.1.length:Int) m.2.2.2.1.length rfl (.slot 56) 58 [0,2,3,56,57] (fun (_:TTape×Int×Int×(List THe)×(List TBo)×(List TBo))=>[]) (fun g=>[(0,(TTape.b g.1)),(2,(Ob.box (AV.agg [(vi g.2.1),(vi g.2.2.1),(AV.d (eL THe.e g.2.2.2.1)),O,(AV.ref 7 g.2.2.2.2.2.length 0 g.2.2.2.2.2.length),(AV.ref 5 g.2.2.2.2.1.length 0 g.2.2.2.2.1.length),I,B,H,u]))),(5,(eS 3 TBo.e g.2.2.2.2.1)),(7,(eS 3 TBo.e g.2.2.2.2.2))]) (m.1,m.2.1,m.2.2.1,m.2.2.2.1,([]:List TBo),([]:List TBo)) (S_q2_b4 m) (fun g => 
.call (@F_q1_ok g.1 g.2.1 g.2.2.1 g.2.2.2.1 m.2.2.2.2 g.2.2.2.2.2 g.2.2.2.2.1 ([]:List TEa) ([]:List TCo) ([]:List TRu) ([]:List TAm)) fun v Y=>
.k 23 1 Y [0,2,3,7,5,9,6,8,4] 10 false<|
.call (@F_q0_ok 4 v.1) fun P Q=>
.reg 25 [4] [(4,hc Q [0] false)] [.cl 0 Q [0] 10 false]<|
.iter [0,2,3] (fun (c:TTape×Int×Int×(List THe)×(List TEa)×(List TCo)×(List TRu)×(List TAm)×Int×Int×Int)=>[(11,(vi c.2.2.2.2.2.2.2.2.1)),(12,(vi c.2.2.2.2.2.2.2.2.2.1)),(13,(vi c.2.2.2.2.2.2.2.2.2.2))]) (fun c=>[(0,(TTape.b c.1)),(2,(Ob.box (AV.agg [(vi c.2.1),(vi c.2.2.1),(AV.d (eL THe.e c.2.2.2.1)),O,(AV.ref 7 g.2.2.2.2.2.length 0 g.2.2.2.2.2.length),(AV.ref 5 g.2.2.2.2.1.length 0 g.2.2.2.2.1.length),(AV.d (eL TEa.e c.2.2.2.2.1)),(AV.d (eL TCo.e c.2.2.2.2.2.1)),(AV.d (eL TRu.e c.2.2.2.2.2.2.1)),(AV.ref 4 c.2.2.2.2.2.2.2.1.length 0 c.2.2.2.2.2.2.2.1.length)]))),(4,(eS 3 TAm.e c.2.2.2.2.2.2.2.1))]) (P.2,v.2.1,v.2.2.1,v.2.2.2.1,v.2.2.2.2.1,v.2.2.2.2.2.1,v.2.2.2.2.2.2,([]:List TAm),0,(i64.wrap (360 * v.2.1)),P.1) (S_q2_b5 m g) (fun c =>
.call (@F_q28_ok c.2.1 c.2.2.1 c.2.2.2.1 c.2.2.2.2.1 c.2.2.2.2.2.1 c.2.2.2.2.2.2.1 m.2.2.2.2 g.2.2.2.2.2 g.2.2.2.2.1 c.2.2.2.2.2.2.2.1) fun Z aa=>
.k 31 1 aa [3,7,5,4] 10 true<|
.ite (Z != 0) (
 let J:=(⟨c.2.1,c.2.2.1,c.2.2.2.1,[],[],[],[],[],[],[]⟩:TLa)
.reg 32 [] [(6,hv (TLa.d J))] [.pf (p:=LeV (AV.d (DV.agg [(DV.i .i64 c.2.1),(DV.i .i64 c.2.2.1),(eL THe.e c.2.2.2.1),Z0,Z0,Z0,Z0,Z0,Z0,Z0])) (TLa.d J)) (z85 rfl (DLe.agg (DLeL.cons (DLe.refl _) (DLeL.cons (DLe.refl _) (DLeL.cons (DLe.refl _) (DLeL.cons DLe.sl0 (DLeL.cons DLe.sl0 (DLeL.cons DLe.sl0 (DLeL.cons DLe.sl0 (DLeL.cons DLe.sl0 (DLeL.cons DLe.sl0 (DLeL.cons DLe.sl0 DLeL.nil))))))))))))]<|
.r (J,c.1)) (
.guard [m.2.2.2.2.length<2 ^ 63]<|
.reg 33 [] [] []<|
.frz 3 (.ev 0) none [] [1,2]<|
.guard [g.2.2.2.2.2.length<2 ^ 63]<|
.frz 7 (.ev 0) none [] [1,2]<|
.guard [g.2.2.2.2.1.length<2 ^ 63]<|
.frz 5 (.ev 0) none [] [1,2]<|
.guard [c.2.2.2.2.2.2.2.1.length<2 ^ 63]<|
.frz 4 (.ev 0) none [] [1,2]<|
.r ((⟨c.2.1,c.2.2.1,c.2.2.2.1,m.2.2.2.2,g.2.2.2.2.2,g.2.2.2.2.1,c.2.2.2.2.1,c.2.2.2.2.2.1,c.2.2.2.2.2.2.1,c.2.2.2.2.2.2.2.1⟩:TLa),c.1))) id) id) id
def F_q2 (a:TTape):=(S_q2 a).den
theorem F_q2_ok {a:TTape}:FO (F_q2 a) 9 [(vp 0)] [(TTape.b a)] (fun x=>(TLa.d x.1)) (fun x=>[(TTape.b x.2)]):=fO (s:=S_q2 a) Tryz.func9
def S_q14 (a:Int) (b:Int) (c:Int):SC Bool Bool :=
.r (bif (decide (a>=b)) then (decide (a<=c)) else false)
def F_q14 (a:Int) (b:Int) (c:Int):=(S_q14 a b c).den
theorem F_q14_ok {a:Int} {b:Int} {c:Int}:FO (F_q14 a b c) 149 [(vi a),(vi b),(vi c)] [] vb NL:=fO (s:=S_q14 a b c) Tryz.func149
def S_q30 (c:Y8):SC Bool Bool :=
.a 1 1 0 (@F_q51_ok c) fun b=>
.r (decide ((b.length:Int)>0))
def F_q30 (a:Y8):=(S_q30 a).den
theorem F_q30_ok {a:Y8}:FO (F_q30 a) 153 [(AV.d (DV.str a))] [] vb NL:=fO (s:=S_q30 a) Tryz.func153
def S_q1n_b1 (b:Y8) (c:Int) (a:Int):SC Int (Step Int Int) :=
.ite (decide (a>=0)) (
.guard [(0:Int)<=a,a.toNat<b.length]<|
.reg 4 [] [] [.ev 0,.ev 1]<|
.ite (((b.getD a.toNat 0).toNat:Int)==c) (
.r (.ret a)) (
.r (.cont (i64.wrap (a-1))))) (
.r (.brk a))
def S_q1n (b:Y8) (c:Int):SC Int Int :=
.iter [0,1] (fun (a:Int)=>[(5,(vi a))]) (fun _=>[]) (i64.wrap ((b.length:Int)-1)) (S_q1n_b1 b c) (fun _ =>
.r (-1)) id
def F_q1n (a:Y8) (b:Int):=(S_q1n a b).den
theorem F_q1n_ok {a:Y8} {b:Int}:FO (F_q1n a b) 210 [(AV.d (DV.str a)),(AV.d (DV.i .u8 b))] [] vi NL:=fO (s:=S_q1n a b) Tryz.func210
def S_q3s (c:Y8) (d:Int):SC Int Int :=
.a 1 2 0 (@F_q1n_ok c d) fun b=>
.r b
def F_q3s (a:Y8) (b:Int):=(S_q3s a b).den
theorem F_q3s_ok {a:Y8} {b:Int}:FO (F_q3s a b) 187 [(AV.d (DV.str a)),(AV.d (DV.i .u8 b))] [] vi NL:=fO (s:=S_q3s a b) Tryz.func187
end
end Go.Proofs.YtgfgnhpecnmlpaaGreatDoor
/- What the functions compute,and that their calls return it. No condition. -/
namespace Go.Proofs.YtgfgnhpecnmlpaaGreatDoor
open Go Go.TA
open Go.IntKind (i64)
noncomputable section
set_option maxRecDepth 100000
def S_q3c (e:Y8):SC Y8 Y8 :=
.a 1 1 0 (@F_q30_ok e) fun f=>
.ite (!f) (
.r ([])) (
.call (@F_q3s_ok e 46) fun c d=>
 let b:=(if 0>c then 0 else c)
.guard [(0:Int)<=b,b.toNat<=e.length]<|
.reg 3 [] [(2,hc d [] true)] [.cl 2 d [] 0 true,.ev 0,.ev 1]<|
.r (e.take b.toNat))
def F_q3c (a:Y8):=(S_q3c a).den
theorem F_q3c_ok {a:Y8}:FO (F_q3c a) 154 [(AV.d (DV.str a))] [] (fun x=>(AV.d (DV.str x))) NL:=fO (s:=S_q3c a) Tryz.func154
abbrev R_q1o:=Y8
def S_q1o_b1 (d:Int) (a:Y8):SC R_q1o (Step Y8 R_q1o) :=
 let b:=(i64.wrap ((a.length:Int)-1))
 let c:=(decide ((a.length:Int)>0))
.guard [AllP [c=true]->((0:Int)<=b),AllP [c=true]->(b.toNat<a.length)]<|
.reg 1 [] [] [.ev 0,.ev 1]<|
.ite (bif c then (((a.getD b.toNat 0).toNat:Int)==d) else false) (
.guard [(0:Int)<=b,b.toNat<=a.length]<|
.reg 2 [] [] [.ev 0,.ev 1]<|
.r (.cont (a.take b.toNat))) (
.r (.brk a))
def S_q1o (b:Y8) (c:Int):SC R_q1o R_q1o :=
.iter [1] (fun (a:Y8)=>[(0,(AV.d (DV.str a)))]) (fun _=>[]) b (S_q1o_b1 c) (fun a =>
.r a) id
def F_q1o (a:Y8) (b:Int):=(S_q1o a b).den
theorem F_q1o_ok {a:Y8} {b:Int}:FO (F_q1o a b) 252 [(AV.d (DV.str a)),(AV.d (DV.i .u8 b))] [] (fun x=>(AV.d (DV.str x))) NL:=fO (s:=S_q1o a b) Tryz.func252
abbrev R_q1p:=Y8
def S_q1p_b1 (c:Int) (a:Y8):SC R_q1p (Step Y8 R_q1p) :=
 let b:=(decide ((a.length:Int)>0))
.guard [AllP [b=true]->(0<a.length)]<|
.reg 1 [] [] [.pf (p:=AllP [b=true]->((0:Int)<=0)) (fun _=>dk),.ev 0]<|
.ite (bif b then (((a.getD 0 0).toNat:Int)==c) else false) (
.guard [1<=a.length]<|
.reg 2 [] [] [.pf (p:=(0:Int)<=1) dk,.ev 0]<|
.r (.cont ((a.drop 1).take (a.length-1)))) (
.r (.brk a))
def S_q1p (b:Y8) (c:Int):SC R_q1p R_q1p :=
.iter [1] (fun (a:Y8)=>[(0,(AV.d (DV.str a)))]) (fun _=>[]) b (S_q1p_b1 c) (fun a =>
.r a) id
def F_q1p (a:Y8) (b:Int):=(S_q1p a b).den
theorem F_q1p_ok {a:Y8} {b:Int}:FO (F_q1p a b) 251 [(AV.d (DV.str a)),(AV.d (DV.i .u8 b))] [] (fun x=>(AV.d (DV.str x))) NL:=fO (s:=S_q1p a b) Tryz.func251
def S_q3t (f:Y8) (c:Y8):SC Y8 Y8 :=
.ite (cO (f==([])) (c==([]))) (
.r f) (
 let a:=((c.length:Int)==1)
.guard [AllP [a=true]->(0<c.length)]<|
.reg 3 [] [] [.pf (p:=AllP [a=true]->((0:Int)<=0)) (fun _=>dk),.ev 0]<|
 let b:=((c.getD 0 0).toNat:Int)
.guard [(bif a then (decide (b<128)) else false)=true]<|
.br true (.ev 0)<|
.call (@F_q1o_ok f b) fun g d=>
.call (@F_q1p_ok g b) fun h e=>
.guard [0<c.length]<|
.reg 4 [] [(3,hc d [] true),(6,hc e [] true)] [.pf (p:=(0:Int)<=0) dk,.ev 0,.cl 2 d [] 0 true,.pf (p:=(0:Int)<=0) dk,.ev 0,.cl 1 e [] 0 true]<|
.r h)
def F_q3t (a:Y8) (b:Y8):=(S_q3t a b).den
theorem F_q3t_ok {a:Y8} {b:Y8}:FO (F_q3t a b) 241 [(AV.d (DV.str a)),(AV.d (DV.str b))] [] (fun x=>(AV.d (DV.str x))) NL:=fO (s:=S_q3t a b) Tryz.func241
def S_qt_b1 (b:Y8) (a:Nat):SC Bool (Step Nat Bool) :=
 let c:=(a<b.length)
.split (decide c) (
.reg 2 [] [(0,{ h:=.call (AV.tup [(vb true),(vi (a:Int)),(AV.d (DV.i .i32 (runeAt b a)))]) [(Ob.ex (.stringIter ⟨List.toArray b⟩ (a+widAt b a)))] })] [.der (fun (h:decide c=true)=>zh9 (P:=Tryz.prog) (L:=[(Ob.ex (.stringIter ⟨List.toArray b⟩ a))]) (o:=0) (l:=b) (p:=a) rfl (y2t h)) 0]<|
.br true (.pf (p:=true=true) rfl)<|
.ite (cO (decide ((runeAt b a)<32)) (decide ((runeAt b a)>126))) (
.r (.ret false)) (
.r (.cont (a+widAt b a)))) (
.reg 2 [] [(0,{ h:=.call (AV.tup [(vb false)]) [(Ob.ex (.stringIter ⟨List.toArray b⟩ a))] })] [.der (fun (h:decide c=false)=>zha (P:=Tryz.prog) (L:=[(Ob.ex (.stringIter ⟨List.toArray b⟩ a))]) (o:=0) (l:=b) (p:=a) rfl (of_decide_eq_false h)) 0]<|
.br false (.pf (p:=false=false) rfl)<|
.r (.brk a))
def S_qt (b:Y8):SC Bool Bool :=
.iter [0,6] (fun (_:Nat)=>[]) (fun d=>[(0,(Ob.ex (.stringIter ⟨List.toArray b⟩ d)))]) 0 (S_qt_b1 b) (fun _ =>
 let a:=(bif (decide ((b.length:Int)>=1)) then (decide ((b.length:Int)<=40)) else false)
.calld [a=true] dF (@F_q3t_ok b ([32])) fun e c =>
.reg 6 [] [(10,hc c [] true)] [.clg 0 [a=true] c [] 1 true]<|
.r (bif a then (e==b) else false)) id
def F_qt (a:Y8):=(S_qt a).den
theorem F_qt_ok {a:Y8}:FO (F_qt a) 225 [(AV.d (DV.str a))] [] vb NL:=fO (s:=S_qt a) Tryz.func225
def S_q3u (a:Y8):SC Bool Bool :=
.r (!(a==a))
def F_q3u (a:Y8):=(S_q3u a).den
theorem F_q3u_ok {a:Y8}:FO (F_q3u a) 202 [(AV.d (DV.str a))] [] vb NL:=fO (s:=S_q3u a) Tryz.func202
def S_q4l (c:Y8) (d:Y8):SC Int Int :=
.a 1 1 0 (@F_q3u_ok c) fun e=>
.a 2 1 0 (@F_q3u_ok d) fun b=>
.ite e (
.ite b (
.r 0) (
.r (-1))) (
.ite b (
.r 1) (
.ite (Op.bytesLess c d) (
.r (-1)) (
.ite (!(Op.bytesLess c d||c==d)) (
.r 1) (
.r 0))))
def F_q4l (a:Y8) (b:Y8):=(S_q4l a b).den
theorem F_q4l_ok {a:Y8} {b:Y8}:FO (F_q4l a b) 173 [(AV.d (DV.str a)),(AV.d (DV.str b))] [] vi NL:=fO (s:=S_q4l a b) Tryz.func173
def S_q3v (a:Int):SC Bool Bool :=
.r (a != a)
def F_q3v (a:Int):=(S_q3v a).den
theorem F_q3v_ok {a:Int}:FO (F_q3v a) 124 [(vi a)] [] vb NL:=fO (s:=S_q3v a) Tryz.func124
def S_qg (c:Int) (d:Int):SC Int Int :=
.a 1 1 0 (@F_q3v_ok c) fun e=>
.a 2 1 0 (@F_q3v_ok d) fun b=>
.ite e (
.ite b (
.r 0) (
.r (-1))) (
.ite b (
.r 1) (
.ite (decide (c<d)) (
.r (-1)) (
.ite (decide (c>d)) (
.r 1) (
.r 0))))
def F_qg (a:Int) (b:Int):=(S_qg a b).den
theorem F_qg_ok {a:Int} {b:Int}:FO (F_qg a b) 62 [(vi a),(vi b)] [] vi NL:=fO (s:=S_qg a b) Tryz.func62
def S_q1q_b1 (e:(List Int)) (d:(List Int)) (b:Nat) (_:Unit):SC Int (Step Unit Int) :=
.reg 3 [] [] [.w b,.ev 0]<|
.ite (decide ((b:Int)>=(d.length:Int))) (
.r (.ret 1)) (
.guard [b<d.length]<|
.reg 6 [] [] [.w b,.ev 0]<|
.a 7 2 0 (@F_qg_ok (e.getD b dF) (d.getD b dF)) fun c=>
.ite (c != 0) (
.r (.ret c)) (
.r (.cont ())))
def S_q1q (a:(List Int)) (b:(List Int)):SC Int Int :=
.range (a.length:Int) a.length rfl (.slot 0) 11 [0,1,9,10] (fun (_:Unit)=>[]) (fun _=>[]) () (S_q1q_b1 a b) (fun _ => 
.ite (decide ((a.length:Int)<(b.length:Int))) (
.r (-1)) (
.r 0)) id
def F_q1q (a:(List Int)) (b:(List Int)):=(S_q1q a b).den
theorem F_q1q_ok {a:(List Int)} {b:(List Int)}:FO (F_q1q a b) 174 [(vl a),(vl b)] [] vi NL:=fO (s:=S_q1q a b) Tryz.func174
def S_qu (h:Y8) (i:Y8):SC Int Int :=
.call (@F_q51_ok h) fun b c=>
.call (@F_q51_ok i) fun d e=>
.reg 1 [] [(1,hc c [] true),(3,hc e [] true)] [.cl 1 c [] 0 true,.cl 0 e [] 0 true]<|
.ite (bif ((b.length:Int)==0) then ((d.length:Int)==0) else false) (
.a 3 2 0 (@F_q4l_ok h i) fun f=>
.r f) (
.a 4 2 0 (@F_q1q_ok b d) fun g=>
.r g)
def F_qu (a:Y8) (b:Y8):=(S_qu a b).den
theorem F_qu_ok {a:Y8} {b:Y8}:FO (F_qu a b) 139 [(AV.d (DV.str a)),(AV.d (DV.str b))] [] vi NL:=fO (s:=S_qu a b) Tryz.func139
def S_q4m (a:THe) (b:Y8):SC Bool Bool :=
.r (a.B==b)
def F_q4m (a:THe) (b:Y8):=(S_q4m a b).den
theorem F_q4m_ok {b:THe} {a:Y8}:FO (F_q4m b a) 196 [(THe.d b),(vp 0)] [(bx (DV.str a))] vb (fun _=>[(bx (DV.str a))]):=fO (s:=S_q4m b a) Tryz.func196
def S_q2o_b1 (d:(List THe)) (e:Y8) (a:Nat) (_:Unit):SC Int (Step Unit Int) :=
.call (@F_q4m_ok (d.getD a dF) e) fun c b=>
.reg 4 [] [(5,hc b [0] true)] [.w a,.ev 1,.cl 0 b [0] 1 true]<|
.ite c (
.r (.ret (a:Int))) (
.r (.cont ()))
def S_q2o (a:(List THe)) (b:Y8):SC Int Int :=
.range (a.length:Int) a.length rfl (.slot 0) 8 [0,1,7] (fun (_:Unit)=>[]) (fun _=>[]) () (S_q2o_b1 a b) (fun _ => 
.r (-1)) id
def F_q2o (a:(List THe)) (b:Y8):=(S_q2o a b).den
theorem F_q2o_ok {b:(List THe)} {a:Y8}:FO (F_q2o b a) 215 [(AV.d (eL THe.e b)),(AV.fn 196 [(vp 0)])] [(bx (DV.str a))] vi (fun _=>[(bx (DV.str a))]):=fO (s:=S_q2o b a) Tryz.func215
def S_q4n (c:(List THe)) (d:Y8):SC Bool Bool :=
.call (@F_q2o_ok c d) fun a b=>
.k 1 2 b [0] 1 true<|
.r (decide (a>=0))
def F_q4n (a:(List THe)) (b:Y8):=(S_q4n a b).den
theorem F_q4n_ok {b:(List THe)} {a:Y8}:FO (F_q4n b a) 195 [(AV.d (eL THe.e b)),(AV.fn 196 [(vp 0)])] [(bx (DV.str a))] vb (fun _=>[(bx (DV.str a))]):=fO (s:=S_q4n b a) Tryz.func195
def S_q3d (c:(List THe)) (d:Y8):SC Bool Bool :=
.call (@F_q4n_ok c d) fun a b=>
.k 1 2 b [0] 1 true<|
.r a
def F_q3d (a:(List THe)) (b:Y8):=(S_q3d a b).den
theorem F_q3d_ok {a:(List THe)} {b:Y8}:FO (F_q3d a b) 168 [(AV.d (eL THe.e a)),(AV.d (DV.str b))] [] vb NL:=fO (s:=S_q3d a b) Tryz.func168
def S_q3w (f:(List THe)) (c:Int):SC Int Int :=
 let b:=(f.getD c.toNat dF)
.call (@F_q3c_ok b.B) fun g h=>
.guard [(0:Int)<=c,c.toNat<f.length]<|
.reg 1 [] [(5,hc h [] true)] [.ev 0,.ev 1,.cl 2 h [] 0 true]<|
.call (@F_q30_ok b.B) fun m i=>
.reg 2 [] [(5,hc i [] true)] [.ev 1,.ev 2,.cl 0 i [] 0 true]<|
.ite (!m) (
.r 5) (
.call (@F_qt_ok b.V) fun n j=>
.reg 4 [] [(5,hc j [] true)] [.ev 3,.ev 4,.cl 0 j [] 0 true]<|
.ite (!n) (
.r 4) (
 let a:=(decide (c>0))
 let d:=(i64.wrap (c-1))
.calld [a=true] dF (@F_qu_ok ((f.getD d.toNat dF).B) b.B) fun o k =>
.guard [AllP [a=true]->((0:Int)<=d),AllP [a=true]->(d.toNat<f.length),AllP [a=true]->((0:Int)<=c),AllP [a=true]->(c.toNat<f.length)]<|
.reg 6 [] [(14,hc k [] true)] [.ev 0,.ev 1,.ev 2,.ev 3,.clg 4 [a=true] k [] 0 true]<|
.ite (bif a then (decide (o>=0)) else false) (
.r 8) (
 let e:=(!(g==([])))
.calld [e=true] dF (@F_q3d_ok f g) fun p l =>
.reg 8 [] [(5,hc l [] true)] [.clg 0 [e=true] l [] 0 true]<|
.ite (bif e then (!p) else false) (
.r 6) (
.r 0))))
def F_q3w (a:(List THe)) (b:Int):=(S_q3w a b).den
theorem F_q3w_ok {a:(List THe)} {b:Int}:FO (F_q3w a b) 209 [(AV.d (eL THe.e a)),(vi b)] [] vi NL:=fO (s:=S_q3w a b) Tryz.func209
def S_q2p_b1 (d:(List THe)) (b:Nat) (_:Unit):SC (Int×Int) (Step Unit (Int×Int)) :=
.a 6 2 0 (@F_q3w_ok d (b:Int)) fun c=>
.ite (c != 0) (
.r (.ret ((i64.wrap ((b:Int)+1)),c))) (
.r (.cont ()))
def S_q2p (a:(List THe)):SC (Int×Int) (Int×Int) :=
.ite (decide ((a.length:Int)>60)) (
.r (0,3)) (
.range (a.length:Int) a.length rfl (.slot 0) 11 [0,10] (fun (_:Unit)=>[]) (fun _=>[]) () (S_q2p_b1 a) (fun _ => 
.r (0,0)) id)
def F_q2p (a:(List THe)):=(S_q2p a).den
theorem F_q2p_ok {a:(List THe)}:FO (F_q2p a) 186 [(AV.d (eL THe.e a))] [] (fun x=>(AV.tup [(vi x.1),(vi x.2)])) NL:=fO (s:=S_q2p a) Tryz.func186
def S_q3x (c:(List THe)):SC Int Int :=
.a 1 1 0 (@F_q2p_ok c) fun b=>
.r b.2
def F_q3x (a:(List THe)):=(S_q3x a).den
theorem F_q3x_ok {a:(List THe)}:FO (F_q3x a) 150 [(AV.d (eL THe.e a))] [] vi NL:=fO (s:=S_q3x a) Tryz.func150
def S_q4o (a:TAm):SC Bool Bool :=
.r (decide ((a.G.length:Int)>20))
def F_q4o (a:TAm):=(S_q4o a).den
theorem F_q4o_ok {a:TAm}:FO (F_q4o a) 151 [(TAm.d a)] [] vb NL:=fO (s:=S_q4o a) Tryz.func151
def S_q2q_b1 (d:(List TAm)) (a:Nat) (_:Unit):SC Int (Step Unit Int) :=
.call (@F_q4o_ok (d.getD a dF)) fun c b=>
.reg 4 [] [(5,hc b [] true)] [.w a,.ev 1,.cl 0 b [] 0 true]<|
.ite c (
.r (.ret (a:Int))) (
.r (.cont ()))
def S_q2q (a:(List TAm)):SC Int Int :=
.range (a.length:Int) a.length rfl (.slot 0) 8 [0,1,7] (fun (_:Unit)=>[]) (fun _=>[]) () (S_q2q_b1 a) (fun _ => 
.r (-1)) id
def F_q2q (a:(List TAm)):=(S_q2q a).den
theorem F_q2q_ok {a:(List TAm)}:FO (F_q2q a) 42 [(AV.d (eL TAm.e a)),(AV.fn 151 [])] [] vi NL:=fO (s:=S_q2q a) Tryz.func42
def S_q3y (c:(List TAm)):SC Bool Bool :=
.a 1 2 0 (@F_q2q_ok c) fun b=>
.r (decide (b>=0))
def F_q3y (a:(List TAm)):=(S_q3y a).den
theorem F_q3y_ok {a:(List TAm)}:FO (F_q3y a) 152 [(AV.d (eL TAm.e a)),(AV.fn 151 [])] [] vb NL:=fO (s:=S_q3y a) Tryz.func152
def S_q3z (c:TChe):SC Int Int :=
.reg 1 [] [(2,{ obs:=[(1,(TLa.b (⟨0,0,[],[],[],[],[],[],[],[]⟩:TLa)))] })] [.pf cz3]<|
.call (@F_q14_ok c.law.E 0 99) fun d f=>
.calld [(!d)=false] dF (@F_q14_ok c.law.F 1 4) fun j g =>
.reg 2 [] [(2,hc f [] true),(7,hc g [] true)] [.cl 2 f [] 2 true,.clg 0 [(!d)=false] g [] 2 true]<|
.ite (cO (cO (!d) (!j)) (decide ((i64.wrap (c.law.E+c.law.F))>100))) (
.r 2) (
.a 4 2 2 (@F_q3x_ok c.law.I) fun h=>
.ite (h != 0) (
.r h) (
 let e:=(cO (cO (cO (cO (cO (cO (decide ((c.law.N.length:Int)>120)) (decide ((c.law.K.length:Int)>60))) (decide ((c.law.P.length:Int)>60))) (decide ((c.law.O.length:Int)>20))) (decide ((c.law.M.length:Int)>20))) (decide ((c.law.S.length:Int)>20))) (decide ((c.law.A.length:Int)>20)))
.calld [e=false] dF (@F_q3y_ok c.law.A) fun k i =>
.reg 8 [] [(44,hc i [] true)] [.clg 0 [e=false] i [] 2 true]<|
.ite (cO e k) (
.r 3) (
.r 0)))
def F_q3z (a:TChe):=(S_q3z a).den
theorem F_q3z_ok {a:TChe}:FO (F_q3z a) 93 [(TChe.d a)] [] vi NL:=fO (s:=S_q3z a) Tryz.func93
def S_qo_b1 (c:(List Int)) (b:(List Int)) (a:Nat) (_:Unit):SC Bool (Step Unit Bool) :=
.guard [a<b.length]<|
.reg 6 [] [] [.w a,.ev 1,.w a,.ev 0]<|
.ite ((c.getD a dF) != (b.getD a dF)) (
.r (.ret false)) (
.r (.cont ()))
def S_qo (a:(List Int)) (b:(List Int)):SC Bool Bool :=
.ite ((a.length:Int) != (b.length:Int)) (
.r false) (
.range (a.length:Int) a.length rfl (.slot 0) 13 [0,1,12] (fun (_:Unit)=>[]) (fun _=>[]) () (S_qo_b1 a b) (fun _ => 
.r true) id)
def F_qo (a:(List Int)) (b:(List Int)):=(S_qo a b).den
theorem F_qo_ok {a:(List Int)} {b:(List Int)}:FO (F_qo a b) 188 [(vl a),(vl b)] [] vb NL:=fO (s:=S_qo a b) Tryz.func188
def S_q3e (k:Y8) (l:Y8):SC Bool Bool :=
.call (@F_q51_ok k) fun b e=>
.call (@F_q51_ok l) fun c f=>
.reg 1 [] [(1,hc e [] true),(3,hc f [] true)] [.cl 1 e [] 0 true,.cl 0 f [] 0 true]<|
 let d:=(c.length:Int)
 let a:=(bif (decide (d>0)) then (decide ((b.length:Int)>=d)) else false)
.calld [a=true] dF (@F_qo_ok (b.take c.length) c) fun j g =>
 let h:=(c.length<=b.length)
.guard [AllP [a=true]->h]<|
.reg 2 [] [(14,hv (vl (b.take c.length))),(16,hc g [] true)] [.pf (p:=AllP [a=true]->((0:Int)<=d)) (fun _=>(y37 _)),.ev 0,.der (fun (h0:AllP [a=true]->h) (hg:AllP [a=true])=>lvT (DV.i .i64) b (h0 hg)) 0,.clg 1 [a=true] g [] 0 true]<|
.r (bif a then j else false)
def F_q3e (a:Y8) (b:Y8):=(S_q3e a b).den
theorem F_q3e_ok {a:Y8} {b:Y8}:FO (F_q3e a b) 155 [(AV.d (DV.str a)),(AV.d (DV.str b))] [] vb NL:=fO (s:=S_q3e a b) Tryz.func155
abbrev R_q7:=(List Y8)
def S_q7_b1 (m:(List THe)) (i:Nat) (e:(List (Y8×Bool))):SC R_q7 (Step ((List (Y8×Bool))) R_q7) :=
.reg 4 [] [] [.w i,.ev 0]<|
 let a:=(m.getD i dF)
.call (@F_q30_ok a.B) fun f j=>
 let g:=(THe.b a)
.reg 5 [6] [(5,hc j [] true),(6,{ h:=.call .bot [(eM DV.str DV.b (mupd e a.B f)),g] })] [.cl 0 j [] 2 true,.pf (p:=UpdOk Tryz.prog [(eM DV.str DV.b e),g] 174 (AV.map 0) (AV.d (DV.str a.B)) (vb f) [(eM DV.str DV.b (mupd e a.B f)),g]) (zlh (kt:=9) (et:=4) (eK:=DV.str) (eV:=DV.b) (l:=e) (k:=a.B) (v:=f) kj rfl zdi rfl)]<|
.c (mupd e a.B f)
def S_q7_b2 (j:(List THe)) (f:Nat) (a:(List (Y8×Bool))):SC R_q7 (Step ((List (Y8×Bool))) R_q7) :=
.reg 9 [] [] [.w f,.ev 0]<|
.call (@F_q3c_ok ((j.getD f dF).B)) fun e i=>
 let g:=(THe.b (j.getD f dF))
.reg 10 [] [(3,hc i [] true),(4,{ h:=.call (AV.tup []) [(eMd DV.str DV.b (mdel a e)),g] })] [.cl 0 i [] 2 true,.pf (p:=DelOk Tryz.prog [(eMd DV.str DV.b a),g] 174 (AV.map 0) (AV.d (DV.str e)) (AV.tup []) [(eMd DV.str DV.b (mdel a e)),g]) (zlm (kt:=9) (et:=4) (eK:=DV.str) (eV:=DV.b) (l:=a) (x:=(eMd DV.str DV.b a)) (k:=e) kj rfl rfl zdi)]<|
.c (mdel a e)
def S_q7_b3 (t:(List THe)) (q:Y8) (i:(List (Y8×Bool))) (j:Nat) (a:(List Y8)):SC R_q7 (Step ((List Y8)) R_q7) :=
.reg 15 [] [] [.w j,.ev 0]<|
 let f:=(t.getD j dF)
.calld [(q==([]))=false,(mget i f.B false)=true] dF (@F_q3e_ok f.B q) fun s m =>
 let n:=(vb (mget i f.B false))
.reg 16 [] [(3,{ h:=.callr n }),(11,hc m [] true)] [.pf (p:=LookOk Tryz.prog [(eMd DV.str DV.b i),(eS 1 DV.str a),(THe.b f)] 174 (AV.map 0) (AV.d (DV.str f.B)) false n) (zj0 (kt:=9) (et:=4) (eK:=DV.str) (eV:=DV.b) (l:=i) (k:=f.B) (z:=false) kj rfl zdi kj),.clg 0 [(q==([]))=false,(mget i f.B false)=true] m [] 3 true]<|
.ite (bif (mget i f.B false) then (cO (q==([])) s) else false) (
.guard [(a.length+1) * (2 * 16)<=2 ^ 48]<|
 let g:=([f.B]:List Y8)
.reg 17 [] [(3,hv (AV.d (eL DV.str g))),(4,{ h:=.obj,cast:=some (AV.ref 1 ((a++g).length) 0 ((a++g).length)),obs:=[(1,(eS 1 DV.str (a++g)))] })] [.pf (z5 DV.str g),.e a.length,.e a.length,.pf (p:=∀ k,k<1->(AV.d (DV.str (g.getD k dF))).wd=1) (fun _ _=>rfl),.ev 0,.pf (zf (o:=1) (l:=a) (x:=g)),.pf (ze (sz:=1) (e:=DV.str) (l:=a) (x:=g))]<|
.r (.cont (a++g))) (
.c a)
def S_q7 (c:(List THe)) (i:Y8):SC R_q7 R_q7 :=
.range (c.length:Int) c.length rfl (.slot 0) 16 [0,1,5,14,15] (fun (_:(List (Y8×Bool)))=>[]) (fun f=>[(0,(eM DV.str DV.b f))]) ([]:(List (Y8×Bool))) (S_q7_b1 c) (fun f => 
.reg 7 [] [] []<|
 let h:=[(0,(AV.d (eL THe.e c))),(1,(AV.d (DV.str i))),(5,(AV.map 0)),(27,(AV.d (eL THe.e c))),(28,(vi (c.length:Int))),(29,(vi 0))]
.sh (H:=NoH) (A:=True) (.pf trivial) h h [(eM DV.str DV.b f)] [(eMd DV.str DV.b f)] (fun _=>zg4 (P:=[]) (D:=[])) (z29 _)<|
.range (c.length:Int) c.length rfl (.slot 0) 29 [0,1,5,27,28] (fun (_:(List (Y8×Bool)))=>[]) (fun g=>[(0,(eMd DV.str DV.b g))]) f (S_q7_b2 c) (fun g => 
.reg 13 [] [] []<|
.bor 1 (fun j=>AV.d (DV.str (([]:List Y8).getD j dF))) [10]<|
.range (c.length:Int) c.length rfl (.slot 38) 40 [1,5,38,39] (fun (a:(List Y8))=>[(10,(AV.ref 1 a.length 0 a.length))]) (fun a=>[(1,(eS 1 DV.str a))]) ([]:List Y8) (S_q7_b3 c i g) (fun a => 
.guard [a.length<2 ^ 63]<|
.reg 19 [] [] []<|
.frz 1 (.ev 0) none [4] []<|
.r a) id) id) id
def F_q7 (a:(List THe)) (b:Y8):=(S_q7 a b).den
theorem F_q7_ok {a:(List THe)} {b:Y8}:FO (F_q7 a b) 94 [(AV.d (eL THe.e a)),(AV.d (DV.str b))] [] (fun x=>(AV.d (eL DV.str x))) NL:=fO (s:=S_q7 a b) Tryz.func94
def S_q2r_b1 (b:(List Y8)) (c:Y8) (a:Nat) (_:Unit):SC Int (Step Unit Int) :=
.reg 4 [] [] [.w a,.ev 0]<|
.ite (c==(b.getD a dF)) (
.r (.ret (a:Int))) (
.r (.cont ()))
def S_q2r (a:(List Y8)) (b:Y8):SC Int Int :=
.range (a.length:Int) a.length rfl (.slot 0) 8 [0,1,7] (fun (_:Unit)=>[]) (fun _=>[]) () (S_q2r_b1 a b) (fun _ => 
.r (-1)) id
def F_q2r (a:(List Y8)) (b:Y8):=(S_q2r a b).den
theorem F_q2r_ok {a:(List Y8)} {b:Y8}:FO (F_q2r a b) 197 [(AV.d (eL DV.str a)),(AV.d (DV.str b))] [] vi NL:=fO (s:=S_q2r a b) Tryz.func197
def S_q3f (c:(List Y8)) (d:Y8):SC Bool Bool :=
.a 1 2 0 (@F_q2r_ok c d) fun b=>
.r (decide (b>=0))
def F_q3f (a:(List Y8)) (b:Y8):=(S_q3f a b).den
theorem F_q3f_ok {a:(List Y8)} {b:Y8}:FO (F_q3f a b) 169 [(AV.d (eL DV.str a)),(AV.d (DV.str b))] [] vb NL:=fO (s:=S_q3f a b) Tryz.func169
def S_q2w (c:TChe) (d:Y8):SC Bool Bool :=
.a 1 3 1 (@F_q3f_ok c.leaves d) fun b=>
.r b
def F_q2w (a:TChe) (b:Y8):=(S_q2w a b).den
theorem F_q2w_ok {a:TChe} {b:Y8}:FO (F_q2w a b) 156 [(TChe.d a),(AV.d (DV.str b))] [] vb NL:=fO (s:=S_q2w a b) Tryz.func156
def S_q2s (a:TLa) (b:Int):SC Bool Bool :=
.r (bif (decide (b>=a.E)) then (decide ((IntKind.u64.wrap ((IntKind.u64.wrap b)-(IntKind.u64.wrap a.E)))<(IntKind.u64.wrap (if 0>a.F then 0 else a.F)))) else false)
def F_q2s (a:TLa) (b:Int):=(S_q2s a b).den
theorem F_q2s_ok {a:TLa} {b:Int}:FO (F_q2s a b) 122 [(TLa.d a),(vi b)] [] vb NL:=fO (s:=S_q2s a b) Tryz.func122
def S_q29 (a:Int):SC Bool Bool :=
.r (bif (decide (a>=0)) then (decide (a<=1000000000000)) else false)
def F_q29 (a:Int):=(S_q29 a).den
theorem F_q29_ok {a:Int}:FO (F_q29 a) 123 [(vi a)] [] vb NL:=fO (s:=S_q29 a) Tryz.func123
def S_q40 (f:TChe) (b:TLi):SC Int Int :=
.a 1 3 2 (@F_q2w_ok f b.B) fun c=>
.ite (!c) (
.r 5) (
.a 3 4 2 (@F_q2s_ok f.law b.H) fun d=>
.ite (!d) (
.r 16) (
.a 5 2 2 (@F_q29_ok b.D) fun e=>
.ite (!e) (
.r 2) (
.r 0)))
def F_q40 (a:TChe) (b:TLi):=(S_q40 a b).den
theorem F_q40_ok {a:TChe} {b:TLi}:FO (F_q40 a b) 98 [(TChe.d a),(TLi.d b)] [] vi NL:=fO (s:=S_q40 a b) Tryz.func98
def S_qh_b1 (b:(List Int)) (a:Nat) (_:Unit):SC Int (Step Unit Int) :=
.reg 4 [] [] [.w a,.ev 0]<|
.ite ((b.getD a dF) != 0) (
.r (.ret (b.getD a dF))) (
.r (.cont ()))
def S_qh (a:(List Int)):SC Int Int :=
.range (a.length:Int) a.length rfl (.slot 6) 8 [3,6,7] (fun (_:Unit)=>[]) (fun _=>[]) () (S_qh_b1 a) (fun _ => 
.r 0) id
def F_qh (a:(List Int)):=(S_qh a).den
theorem F_qh_ok {a:(List Int)}:FO (F_qh a) 61 [(vl a)] [] vi NL:=fO (s:=S_qh a) Tryz.func61
def S_q41 (h:TLi) (j:TLi):SC Int Int :=
.call (@F_qu_ok h.B j.B) fun e b=>
.call (@F_qg_ok h.H j.H) fun f c=>
 let a:=([e,f]:List Int)
.call (@F_qh_ok a) fun g d=>
.reg 1 [] [(4,hc b [] true),(9,hc c [] true),(10,hv (vl a)),(11,hc d [] true)] [.cl 2 b [] 2 true,.cl 1 c [] 2 true,.pf (z5 (DV.i .i64) a),.cl 0 d [] 2 true]<|
.r g
def F_q41 (a:TLi) (b:TLi):=(S_q41 a b).den
theorem F_q41_ok {a:TLi} {b:TLi}:FO (F_q41 a b) 97 [(TLi.d a),(TLi.d b)] [] vi NL:=fO (s:=S_q41 a b) Tryz.func97
def S_q1r_b1 (g:(List TLi)) (a2_0:TChe) (b:Nat) (_:Unit):SC Int (Step Unit Int) :=
.reg 3 [] [] [.w b,.ev 0]<|
.a 4 2 1 (@F_q40_ok a2_0 (g.getD b dF)) fun e=>
.ite (e != 0) (
.r (.ret e)) (
 let c:=(decide ((b:Int)>0))
 let d:=(i64.wrap ((b:Int)-1))
.calld [c=true] dF (@F_q41_ok (g.getD d.toNat dF) (g.getD b dF)) fun h f =>
.guard [AllP [c=true]->((0:Int)<=d),AllP [c=true]->(d.toNat<g.length)]<|
.reg 7 [] [(10,hc f [] true)] [.ev 0,.ev 1,.clg 2 [c=true] f [] 1 true]<|
.ite (bif c then (decide (h>=0)) else false) (
.r (.ret 8)) (
.r (.cont ())))
def S_q1r (a:(List TLi)) (a2_0:TChe):SC Int Int :=
.range (a.length:Int) a.length rfl (.slot 0) 12 [0,1,2,10,11] (fun (_:Unit)=>[]) (fun _=>[]) () (S_q1r_b1 a a2_0) (fun _ => 
.r 0) id
def F_q1r (a:(List TLi)) (a2_0:TChe):=(S_q1r a a2_0).den
theorem F_q1r_ok {a:(List TLi)} {a2_0:TChe}:FO (F_q1r a a2_0) 96 [(AV.d (eL TLi.e a)),(AV.fn 97 []),(AV.bfn 98 [(TChe.d a2_0)])] [] vi NL:=fO (s:=S_q1r a a2_0) Tryz.func96
def S_q1s (c:TLa) (d:Y8):SC Bool Bool :=
.a 1 3 1 (@F_q3d_ok c.I d) fun b=>
.r b
def F_q1s (a:TLa) (b:Y8):=(S_q1s a b).den
theorem F_q1s_ok {a:TLa} {b:Y8}:FO (F_q1s a b) 120 [(TLa.d a),(AV.d (DV.str b))] [] vb NL:=fO (s:=S_q1s a b) Tryz.func120
def S_q42 (h:TChe) (d:TBo):SC Int Int :=
.a 1 4 2 (@F_q1s_ok h.law d.B) fun e=>
.ite (!e) (
.r 5) (
 let b:=(d.H != (-1))
.calld [b=true] dF (@F_q2s_ok h.law d.H) fun f c =>
.reg 3 [] [(8,hc c [] true)] [.clg 0 [b=true] c [] 2 true]<|
.ite (bif b then (!f) else false) (
.r 16) (
.a 5 2 2 (@F_q29_ok d.D) fun g=>
.ite (!g) (
.r 2) (
.r 0)))
def F_q42 (a:TChe) (b:TBo):=(S_q42 a b).den
theorem F_q42_ok {a:TChe} {b:TBo}:FO (F_q42 a b) 101 [(TChe.d a),(TBo.d b)] [] vi NL:=fO (s:=S_q42 a b) Tryz.func101
def S_q43 (h:TBo) (j:TBo):SC Int Int :=
.call (@F_qu_ok h.B j.B) fun e b=>
.call (@F_qg_ok h.H j.H) fun f c=>
 let a:=([e,f]:List Int)
.call (@F_qh_ok a) fun g d=>
.reg 1 [] [(4,hc b [] true),(9,hc c [] true),(10,hv (vl a)),(11,hc d [] true)] [.cl 2 b [] 2 true,.cl 1 c [] 2 true,.pf (z5 (DV.i .i64) a),.cl 0 d [] 2 true]<|
.r g
def F_q43 (a:TBo) (b:TBo):=(S_q43 a b).den
theorem F_q43_ok {a:TBo} {b:TBo}:FO (F_q43 a b) 100 [(TBo.d a),(TBo.d b)] [] vi NL:=fO (s:=S_q43 a b) Tryz.func100
end
end Go.Proofs.YtgfgnhpecnmlpaaGreatDoor
/- What the functions compute,and that their calls return it. No condition. -/
namespace Go.Proofs.YtgfgnhpecnmlpaaGreatDoor
open Go Go.TA
open Go.IntKind (i64)
noncomputable section
set_option maxRecDepth 100000
def S_q15_b1 (g:(List TBo)) (a2_0:TChe) (b:Nat) (_:Unit):SC Int (Step Unit Int) :=
.reg 3 [] [] [.w b,.ev 0]<|
.a 4 2 1 (@F_q42_ok a2_0 (g.getD b dF)) fun e=>
.ite (e != 0) (
.r (.ret e)) (
 let c:=(decide ((b:Int)>0))
 let d:=(i64.wrap ((b:Int)-1))
.calld [c=true] dF (@F_q43_ok (g.getD d.toNat dF) (g.getD b dF)) fun h f =>
.guard [AllP [c=true]->((0:Int)<=d),AllP [c=true]->(d.toNat<g.length)]<|
.reg 7 [] [(10,hc f [] true)] [.ev 0,.ev 1,.clg 2 [c=true] f [] 1 true]<|
.ite (bif c then (decide (h>=0)) else false) (
.r (.ret 8)) (
.r (.cont ())))
def S_q15 (a:(List TBo)) (a2_0:TChe):SC Int Int :=
.range (a.length:Int) a.length rfl (.slot 0) 12 [0,1,2,10,11] (fun (_:Unit)=>[]) (fun _=>[]) () (S_q15_b1 a a2_0) (fun _ => 
.r 0) id
def F_q15 (a:(List TBo)) (a2_0:TChe):=(S_q15 a a2_0).den
theorem F_q15_ok {a:(List TBo)} {a2_0:TChe}:FO (F_q15 a a2_0) 99 [(AV.d (eL TBo.e a)),(AV.fn 100 []),(AV.bfn 101 [(TChe.d a2_0)])] [] vi NL:=fO (s:=S_q15 a a2_0) Tryz.func99
def S_q44 (h:TChe) (e:TEa):SC Int Int :=
.call (@F_q1s_ok h.law e.Q) fun b c=>
.calld [(!b)=false] dF (@F_q2w_ok h e.B) fun f d =>
.reg 1 [] [(4,hc c [] true),(10,hc d [] true)] [.cl 2 c [] 2 true,.clg 0 [(!b)=false] d [] 2 true]<|
.ite (cO (!b) (!f)) (
.r 5) (
.a 3 2 2 (@F_q14_ok e.R 0 100) fun g=>
.ite (!g) (
.r 2) (
.r 0))
def F_q44 (a:TChe) (b:TEa):=(S_q44 a b).den
theorem F_q44_ok {a:TChe} {b:TEa}:FO (F_q44 a b) 104 [(TChe.d a),(TEa.d b)] [] vi NL:=fO (s:=S_q44 a b) Tryz.func104
def S_q45 (h:TEa) (j:TEa):SC Int Int :=
.call (@F_qu_ok h.Q j.Q) fun e b=>
.call (@F_qu_ok h.B j.B) fun f c=>
 let a:=([e,f]:List Int)
.call (@F_qh_ok a) fun g d=>
.reg 1 [] [(4,hc b [] true),(9,hc c [] true),(10,hv (vl a)),(11,hc d [] true)] [.cl 2 b [] 2 true,.cl 1 c [] 2 true,.pf (z5 (DV.i .i64) a),.cl 0 d [] 2 true]<|
.r g
def F_q45 (a:TEa) (b:TEa):=(S_q45 a b).den
theorem F_q45_ok {a:TEa} {b:TEa}:FO (F_q45 a b) 103 [(TEa.d a),(TEa.d b)] [] vi NL:=fO (s:=S_q45 a b) Tryz.func103
def S_q1t_b1 (g:(List TEa)) (a2_0:TChe) (b:Nat) (_:Unit):SC Int (Step Unit Int) :=
.reg 3 [] [] [.w b,.ev 0]<|
.a 4 2 1 (@F_q44_ok a2_0 (g.getD b dF)) fun e=>
.ite (e != 0) (
.r (.ret e)) (
 let c:=(decide ((b:Int)>0))
 let d:=(i64.wrap ((b:Int)-1))
.calld [c=true] dF (@F_q45_ok (g.getD d.toNat dF) (g.getD b dF)) fun h f =>
.guard [AllP [c=true]->((0:Int)<=d),AllP [c=true]->(d.toNat<g.length)]<|
.reg 7 [] [(10,hc f [] true)] [.ev 0,.ev 1,.clg 2 [c=true] f [] 1 true]<|
.ite (bif c then (decide (h>=0)) else false) (
.r (.ret 8)) (
.r (.cont ())))
def S_q1t (a:(List TEa)) (a2_0:TChe):SC Int Int :=
.range (a.length:Int) a.length rfl (.slot 0) 12 [0,1,2,10,11] (fun (_:Unit)=>[]) (fun _=>[]) () (S_q1t_b1 a a2_0) (fun _ => 
.r 0) id
def F_q1t (a:(List TEa)) (a2_0:TChe):=(S_q1t a a2_0).den
theorem F_q1t_ok {a:(List TEa)} {a2_0:TChe}:FO (F_q1t a a2_0) 102 [(AV.d (eL TEa.e a)),(AV.fn 103 []),(AV.bfn 104 [(TChe.d a2_0)])] [] vi NL:=fO (s:=S_q1t a a2_0) Tryz.func102
def S_qm_b1 (h:TChe) (f:Nat) (b:Nat) (d:Int):SC Int (Step Int Int) :=
.reg 7 [] [] [.w b,.ev 0]<|
 let e:=(h.law.O.getD b dF)
.a 8 3 2 (@F_q3e_ok (h.leaves.getD f dF) e.Q) fun g=>
.ite g (
.r (.cont (i64.wrap (d+e.R)))) (
.c d)
def S_qm_b2 (c:TChe) (b:Nat) (_:Unit):SC Int (Step Unit Int) :=
.reg 3 [] [] [.w b,.ev 0]<|
.range (c.law.O.length:Int) c.law.O.length rfl (.slot 17) 19 [1,4,9,10,11,17,18] (fun (a:Int)=>[(5,(vi a))]) (fun _=>[]) 0 (S_qm_b1 c b) (fun a => 
.ite (decide (a>100)) (
.r (.ret 13)) (
.r (.cont ()))) .ret
def S_qm (a:TChe):SC Int Int :=
.range (a.leaves.length:Int) a.leaves.length rfl (.slot 9) 11 [1,9,10] (fun (_:Unit)=>[]) (fun _=>[]) () (S_qm_b2 a) (fun _ => 
.r 0) id
def F_qm (a:TChe):=(S_qm a).den
theorem F_qm_ok {a:TChe}:FO (F_qm a) 105 [(TChe.d a)] [] vi NL:=fO (s:=S_qm a) Tryz.func105
def S_q3g (c:Int):SC Bool Bool :=
.a 1 1 0 (@F_q14_ok c 0 35990) fun b=>
.r b
def F_q3g (a:Int):=(S_q3g a).den
theorem F_q3g_ok {a:Int}:FO (F_q3g a) 157 [(vi a)] [] vb NL:=fO (s:=S_q3g a) Tryz.func157
def S_q46 (n:TChe) (b:TCo):SC Int Int :=
.a 2 2 2 (@F_q14_ok b.C 1 2) fun g=>
.cut none [2,3,5] (fun (c:Bool)=>[(9,(vb c))]) (fun _=>[]) (
.ite (!g) (
.r (.next (!g))) (
 let h:=(bif (b.C==2) then (b.L != 0) else false)
.ite h (
.r (.next h)) (
.r (.next (bif (!(b.C==2)) then (cO (!(b.Q==([]))) (b.U != 0)) else false))))) fun c=>
.ite c (
.r 1) (
.call (@F_q2w_ok n b.B) fun d i=>
.calld [(b.C==2)=true,(!d)=false] dF (@F_q1s_ok n.law b.Q) fun o j =>
.reg 6 [] [(3,hc i [] true),(12,hc j [] true)] [.cl 2 i [] 2 true,.clg 0 [(b.C==2)=true,(!d)=false] j [] 2 true]<|
.ite (cO (!d) (bif (b.C==2) then (!o) else false)) (
.r 5) (
.a 8 4 2 (@F_q2s_ok n.law b.H) fun p=>
.ite (!p) (
.r 16) (
.call (@F_q29_ok b.D) fun e k=>
.calld [(!e)=false] dF (@F_q29_ok b.U) fun q l =>
 let f:=(cO (!e) (!q))
.calld [f=false] dF (@F_q3g_ok b.L) fun s m =>
.reg 10 [] [(2,hc k [] true),(7,hc l [] true),(13,hc m [] true)] [.cl 4 k [] 2 true,.clg 2 [(!e)=false] l [] 2 true,.clg 0 [f=false] m [] 2 true]<|
.ite (cO f (!s)) (
.r 2) (
.r 0))))
def F_q46 (a:TChe) (b:TCo):=(S_q46 a b).den
theorem F_q46_ok {a:TChe} {b:TCo}:FO (F_q46 a b) 107 [(TChe.d a),(TCo.d b)] [] vi NL:=fO (s:=S_q46 a b) Tryz.func107
def S_q4p (_:TCo) (_:TCo):SC Int Int :=
.r (-1)
def F_q4p (a:TCo) (b:TCo):=(S_q4p a b).den
theorem F_q4p_ok {a:TCo} {b:TCo}:FO (F_q4p a b) 95 [(TCo.d a),(TCo.d b)] [] vi NL:=fO (s:=S_q4p a b) Tryz.func95
def S_q2a_b1 (g:(List TCo)) (a2_0:TChe) (b:Nat) (_:Unit):SC Int (Step Unit Int) :=
.reg 3 [] [] [.w b,.ev 0]<|
.a 4 2 1 (@F_q46_ok a2_0 (g.getD b dF)) fun e=>
.ite (e != 0) (
.r (.ret e)) (
 let c:=(decide ((b:Int)>0))
 let d:=(i64.wrap ((b:Int)-1))
.calld [c=true] dF (@F_q4p_ok (g.getD d.toNat dF) (g.getD b dF)) fun h f =>
.guard [AllP [c=true]->((0:Int)<=d),AllP [c=true]->(d.toNat<g.length)]<|
.reg 7 [] [(10,hc f [] true)] [.ev 0,.ev 1,.clg 2 [c=true] f [] 1 true]<|
.ite (bif c then (decide (h>=0)) else false) (
.r (.ret 8)) (
.r (.cont ())))
def S_q2a (a:(List TCo)) (a2_0:TChe):SC Int Int :=
.range (a.length:Int) a.length rfl (.slot 0) 12 [0,1,2,10,11] (fun (_:Unit)=>[]) (fun _=>[]) () (S_q2a_b1 a a2_0) (fun _ => 
.r 0) id
def F_q2a (a:(List TCo)) (a2_0:TChe):=(S_q2a a a2_0).den
theorem F_q2a_ok {a:(List TCo)} {a2_0:TChe}:FO (F_q2a a a2_0) 106 [(AV.d (eL TCo.e a)),(AV.fn 95 []),(AV.bfn 107 [(TChe.d a2_0)])] [] vi NL:=fO (s:=S_q2a a a2_0) Tryz.func106
def S_q3h (c:Int):SC Bool Bool :=
.a 1 1 0 (@F_q14_ok c 1 1000000) fun b=>
.r b
def F_q3h (a:Int):=(S_q3h a).den
theorem F_q3h_ok {a:Int}:FO (F_q3h a) 158 [(vi a)] [] vb NL:=fO (s:=S_q3h a) Tryz.func158
def S_q47 (j:TChe) (g:TRu):SC Int Int :=
.call (@F_q3h_ok g.J) fun a c=>
.calld [(!a)=false] dF (@F_q14_ok g.R 0 100) fun h d =>
.reg 1 [] [(2,hc c [] true),(7,hc d [] true)] [.cl 2 c [] 2 true,.clg 0 [(!a)=false] d [] 2 true]<|
.ite (cO (!a) (!h)) (
.r 2) (
.call (@F_q1s_ok j.law g.T) fun b e=>
.calld [(!b)=false] dF (@F_q1s_ok j.law g.W) fun i f =>
.reg 3 [] [(4,hc e [] true),(11,hc f [] true)] [.cl 2 e [] 2 true,.clg 0 [(!b)=false] f [] 2 true]<|
.ite (cO (!b) (!i)) (
.r 5) (
.r 0))
def F_q47 (a:TChe) (b:TRu):=(S_q47 a b).den
theorem F_q47_ok {a:TChe} {b:TRu}:FO (F_q47 a b) 110 [(TChe.d a),(TRu.d b)] [] vi NL:=fO (s:=S_q47 a b) Tryz.func110
def S_q48 (c:TRu) (d:TRu):SC Int Int :=
.a 1 4 2 (@F_qg_ok c.J d.J) fun b=>
.r b
def F_q48 (a:TRu) (b:TRu):=(S_q48 a b).den
theorem F_q48_ok {a:TRu} {b:TRu}:FO (F_q48 a b) 109 [(TRu.d a),(TRu.d b)] [] vi NL:=fO (s:=S_q48 a b) Tryz.func109
def S_q1u_b1 (g:(List TRu)) (a2_0:TChe) (b:Nat) (_:Unit):SC Int (Step Unit Int) :=
.reg 3 [] [] [.w b,.ev 0]<|
.a 4 2 1 (@F_q47_ok a2_0 (g.getD b dF)) fun e=>
.ite (e != 0) (
.r (.ret e)) (
 let c:=(decide ((b:Int)>0))
 let d:=(i64.wrap ((b:Int)-1))
.calld [c=true] dF (@F_q48_ok (g.getD d.toNat dF) (g.getD b dF)) fun h f =>
.guard [AllP [c=true]->((0:Int)<=d),AllP [c=true]->(d.toNat<g.length)]<|
.reg 7 [] [(10,hc f [] true)] [.ev 0,.ev 1,.clg 2 [c=true] f [] 1 true]<|
.ite (bif c then (decide (h>=0)) else false) (
.r (.ret 8)) (
.r (.cont ())))
def S_q1u (a:(List TRu)) (a2_0:TChe):SC Int Int :=
.range (a.length:Int) a.length rfl (.slot 0) 12 [0,1,2,10,11] (fun (_:Unit)=>[]) (fun _=>[]) () (S_q1u_b1 a a2_0) (fun _ => 
.r 0) id
def F_q1u (a:(List TRu)) (a2_0:TChe):=(S_q1u a a2_0).den
theorem F_q1u_ok {a:(List TRu)} {a2_0:TChe}:FO (F_q1u a a2_0) 108 [(AV.d (eL TRu.e a)),(AV.fn 109 []),(AV.bfn 110 [(TChe.d a2_0)])] [] vi NL:=fO (s:=S_q1u a a2_0) Tryz.func108
def S_q49 (h:TAm) (j:TAm):SC Int Int :=
.call (@F_qg_ok h.L j.L) fun e b=>
.call (@F_qg_ok h.J j.J) fun f c=>
 let a:=([e,f]:List Int)
.call (@F_qh_ok a) fun g d=>
.reg 1 [] [(4,hc b [] true),(9,hc c [] true),(10,hv (vl a)),(11,hc d [] true)] [.cl 2 b [] 2 true,.cl 1 c [] 2 true,.pf (z5 (DV.i .i64) a),.cl 0 d [] 2 true]<|
.r g
def F_q49 (a:TAm) (b:TAm):=(S_q49 a b).den
theorem F_q49_ok {a:TAm} {b:TAm}:FO (F_q49 a b) 159 [(TAm.d a),(TAm.d b)] [] vi NL:=fO (s:=S_q49 a b) Tryz.func159
def S_q4a (f:TChe) (b:TCh):SC Int Int :=
.a 2 2 2 (@F_q14_ok b.C 1 3) fun g=>
.ite (!g) (
.r 1) (
.call (@F_q1s_ok f.law b.B) fun c d=>
.calld [(b.C==1)=true,(!c)=false] dF (@F_q2w_ok f b.B) fun h e =>
.reg 4 [] [(4,hc d [] true),(12,hc e [] true)] [.cl 2 d [] 2 true,.clg 0 [(b.C==1)=true,(!c)=false] e [] 2 true]<|
.ite (cO (!c) (bif (b.C==1) then (!h) else false)) (
.r 5) (
.a 6 4 2 (@F_q2s_ok f.law b.H) fun i=>
.ite (bif (!i) then (cO (b.C==1) (b.H != (-1))) else false) (
.r 16) (
.a 8 2 2 (@F_q29_ok b.D) fun j=>
.ite (bif (!j) then (cO (b.C != 2) (b.D != (-1))) else false) (
.r 2) (
.r 0))))
def F_q4a (a:TChe) (b:TCh):=(S_q4a a b).den
theorem F_q4a_ok {a:TChe} {b:TCh}:FO (F_q4a a b) 162 [(TChe.d a),(TCh.d b)] [] vi NL:=fO (s:=S_q4a a b) Tryz.func162
def S_q4b (f:TCh) (g:TCh):SC Int Int :=
.call (@F_qg_ok f.C g.C) fun h b=>
.call (@F_qu_ok f.B g.B) fun j c=>
.call (@F_qg_ok f.H g.H) fun k d=>
 let a:=([h,j,k]:List Int)
.call (@F_qh_ok a) fun l e=>
.reg 1 [] [(4,hc b [] true),(9,hc c [] true),(14,hc d [] true),(15,hv (vl a)),(16,hc e [] true)] [.cl 3 b [] 2 true,.cl 2 c [] 2 true,.cl 1 d [] 2 true,.pf (z5 (DV.i .i64) a),.cl 0 e [] 2 true]<|
.r l
def F_q4b (a:TCh) (b:TCh):=(S_q4b a b).den
theorem F_q4b_ok {a:TCh} {b:TCh}:FO (F_q4b a b) 161 [(TCh.d a),(TCh.d b)] [] vi NL:=fO (s:=S_q4b a b) Tryz.func161
def S_q1v_b1 (g:(List TCh)) (a2_0:TChe) (b:Nat) (_:Unit):SC Int (Step Unit Int) :=
.reg 3 [] [] [.w b,.ev 0]<|
.a 4 2 1 (@F_q4a_ok a2_0 (g.getD b dF)) fun e=>
.ite (e != 0) (
.r (.ret e)) (
 let c:=(decide ((b:Int)>0))
 let d:=(i64.wrap ((b:Int)-1))
.calld [c=true] dF (@F_q4b_ok (g.getD d.toNat dF) (g.getD b dF)) fun h f =>
.guard [AllP [c=true]->((0:Int)<=d),AllP [c=true]->(d.toNat<g.length)]<|
.reg 7 [] [(10,hc f [] true)] [.ev 0,.ev 1,.clg 2 [c=true] f [] 1 true]<|
.ite (bif c then (decide (h>=0)) else false) (
.r (.ret 8)) (
.r (.cont ())))
def S_q1v (a:(List TCh)) (a2_0:TChe):SC Int Int :=
.range (a.length:Int) a.length rfl (.slot 0) 12 [0,1,2,10,11] (fun (_:Unit)=>[]) (fun _=>[]) () (S_q1v_b1 a a2_0) (fun _ => 
.r 0) id
def F_q1v (a:(List TCh)) (a2_0:TChe):=(S_q1v a a2_0).den
theorem F_q1v_ok {a:(List TCh)} {a2_0:TChe}:FO (F_q1v a a2_0) 160 [(AV.d (eL TCh.e a)),(AV.fn 161 []),(AV.bfn 162 [(TChe.d a2_0)])] [] vi NL:=fO (s:=S_q1v a a2_0) Tryz.func160
def S_q2b_b1 (l:TChe) (e:Nat) (_:Unit):SC Int (Step Unit Int) :=
.reg 3 [] [(3,{ obs:=[(1,(TAm.b (⟨0,0,[]⟩:TAm)))] })] [.w e,.ev 0,.pf cz2]<|
 let c:=(l.law.A.getD e dF)
.call (@F_q3g_ok c.L) fun f h=>
.calld [(!f)=false] dF (@F_q3h_ok c.J) fun m i =>
.reg 4 [] [(2,hc h [] true),(7,hc i [] true)] [.cl 2 h [] 2 true,.clg 0 [(!f)=false] i [] 2 true]<|
.ite (cO (!f) (!m)) (
.r (.ret 2)) (
 let d:=(decide ((e:Int)>0))
 let g:=(i64.wrap ((e:Int)-1))
.calld [d=true] dF (@F_q49_ok (l.law.A.getD g.toNat dF) c) fun n j =>
.guard [AllP [d=true]->((0:Int)<=g),AllP [d=true]->(g.toNat<l.law.A.length)]<|
.reg 6 [] [(11,hc j [] true)] [.ev 0,.ev 1,.clg 2 [d=true] j [] 2 true]<|
.ite (bif d then (decide (n>=0)) else false) (
.r (.ret 8)) (
.ite ((c.G.length:Int)==0) (
.r (.ret 1)) (
.a 10 4 2 (@F_q1v_ok c.G l) fun k=>
.ite (k != 0) (
.r (.ret k)) (
.r (.cont ())))))
def S_q2b (a:TChe):SC Int Int :=
.range (a.law.A.length:Int) a.law.A.length rfl (.slot 8) 10 [1,8,9] (fun (_:Unit)=>[]) (fun _=>[]) () (S_q2b_b1 a) (fun _ => 
.r 0) id
def F_q2b (a:TChe):=(S_q2b a).den
theorem F_q2b_ok {a:TChe}:FO (F_q2b a) 111 [(TChe.d a)] [] vi NL:=fO (s:=S_q2b a) Tryz.func111
def S_q1w_b1 (b:(List Int)) (a:Nat) (_:Unit):SC Int (Step Unit Int) :=
.reg 4 [] [] [.w a,.ev 0]<|
.ite ((b.getD a dF) != 0) (
.r (.ret (b.getD a dF))) (
.r (.cont ()))
def S_q1w (a:(List Int)):SC Int Int :=
.range (a.length:Int) a.length rfl (.slot 6) 8 [3,6,7] (fun (_:Unit)=>[]) (fun _=>[]) () (S_q1w_b1 a) (fun _ => 
.r 0) id
def F_q1w (a:(List Int)):=(S_q1w a).den
theorem F_q1w_ok {a:(List Int)}:FO (F_q1w a) 67 [(vl a)] [] vi NL:=fO (s:=S_q1w a) Tryz.func67
theorem cz4:OLe (bx (DV.agg [(DV.agg [(DV.i .i64 0),(DV.i .i64 0),Z0,Z0,Z0,Z0,Z0,Z0,Z0,Z0]),Z0])) (TChe.b (⟨(⟨0,0,[],[],[],[],[],[],[],[]⟩:TLa),[]⟩:TChe)):=z84 (DLe.agg (DLeL.cons (DLe.agg (DLeL.cons (DLe.refl _) (DLeL.cons (DLe.refl _) (DLeL.cons DLe.sl0 (DLeL.cons DLe.sl0 (DLeL.cons DLe.sl0 (DLeL.cons DLe.sl0 (DLeL.cons DLe.sl0 (DLeL.cons DLe.sl0 (DLeL.cons DLe.sl0 (DLeL.cons DLe.sl0 DLeL.nil))))))))))) (DLeL.cons DLe.sl0 DLeL.nil)))
def S_q16 (f:TLa):SC Int Int :=
 let g:=(⟨f,[]⟩:TChe)
.reg 1 [] [(1,hv (TChe.d g)),(2,{ obs:=[(1,(TChe.b (⟨(⟨0,0,[],[],[],[],[],[],[],[]⟩:TLa),[]⟩:TChe)))] })] [.pf (p:=LeV (AV.d (DV.agg [(TLa.e f),Z0])) (TChe.d g)) (z85 rfl (DLe.agg (DLeL.cons (DLe.refl _) (DLeL.cons DLe.sl0 DLeL.nil)))),.pf cz4]<|
.a 2 1 2 (@F_q3z_ok g) fun l=>
.ite (l != 0) (
.r l) (
.a 5 2 2 (@F_q7_ok f.I ([])) fun x=>
 let c:=(⟨g.law,x⟩:TChe)
.call (@F_q1r_ok f.N c) fun y m=>
.call (@F_q15_ok f.K c) fun z n=>
.call (@F_q15_ok f.P c) fun A o=>
.call (@F_q1t_ok f.O c) fun B q=>
.call (@F_qm_ok c) fun C s=>
.call (@F_q2a_ok f.M c) fun D t=>
.call (@F_q1u_ok f.S c) fun E u=>
.call (@F_q2b_ok c) fun v h=>
 let k:=([y,z,A,B,C,D,E,v]:List Int)
.call (@F_q1w_ok k) fun w j=>
.reg 7 [] [(4,hc m [] true),(9,hc n [] true),(14,hc o [] true),(19,hc q [] true),(21,hc s [] true),(27,hc t [] true),(32,hc u [] true),(34,hc h [] true),(35,hv (vl k)),(36,hc j [] true)] [.cl 8 m [] 2 true,.cl 7 n [] 2 true,.cl 6 o [] 2 true,.cl 5 q [] 2 true,.cl 4 s [] 2 true,.cl 3 t [] 2 true,.cl 2 u [] 2 true,.cl 1 h [] 2 true,.pf (z5 (DV.i .i64) k),.cl 0 j [] 2 true]<|
.r w)
def F_q16 (a:TLa):=(S_q16 a).den
theorem F_q16_ok {a:TLa}:FO (F_q16 a) 41 [(TLa.d a)] [] vi NL:=fO (s:=S_q16 a) Tryz.func41
def S_q4q (a:TAm) (b:Int):SC Bool Bool :=
.r (decide (a.L>b))
def F_q4q (a:TAm) (b:Int):=(S_q4q a b).den
theorem F_q4q_ok {b:TAm} {a:Int}:FO (F_q4q b a) 43 [(TAm.d b),(vp 0)] [(Ob.box (vi a))] vb (fun _=>[(Ob.box (vi a))]):=fO (s:=S_q4q b a) Tryz.func43
def S_q2c_b1 (d:(List TAm)) (e:Int) (a:Nat) (_:Unit):SC Int (Step Unit Int) :=
.call (@F_q4q_ok (d.getD a dF) e) fun c b=>
.reg 4 [] [(5,hc b [0] true)] [.w a,.ev 1,.cl 0 b [0] 1 true]<|
.ite c (
.r (.ret (a:Int))) (
.r (.cont ()))
def S_q2c (a:(List TAm)) (b:Int):SC Int Int :=
.range (a.length:Int) a.length rfl (.slot 0) 8 [0,1,7] (fun (_:Unit)=>[]) (fun _=>[]) () (S_q2c_b1 a b) (fun _ => 
.r (-1)) id
def F_q2c (a:(List TAm)) (b:Int):=(S_q2c a b).den
theorem F_q2c_ok {b:(List TAm)} {a:Int}:FO (F_q2c b a) 42 [(AV.d (eL TAm.e b)),(AV.fn 43 [(vp 0)])] [(Ob.box (vi a))] vi (fun _=>[(Ob.box (vi a))]):=fO (s:=S_q2c b a) Tryz.func42
theorem cz5:∀ k,k<0->(DV.b false).wd=2:=fun _ h=>absurd h (y58 _)
def S_q31 (a:(List THe)):SC (List THe) (List THe) :=
.reg 0 [] [] []<|
 let b:=(AV.d (eL THe.e a))
.nils 0 (
.guard [(0+a.length) * (2 * 32)<=2 ^ 48]<|
.reg 1 [] [] []<|
.lev 0 b (.pf (lvQ true a.length fun j=>(THe.e (a.getD j dF))))<|
.br true (.pf (p:=true=true) rfl)<|
.reg 2 [] [] []<|
.lev 2 b (.der (fun (h:a.length=0)=>lvZ THe.e a h) 1)<|
.r a) (
.reg 1 [] [] []<|
.lev 0 b (.pf (lvQ false a.length fun j=>(THe.e (a.getD j dF))))<|
.br false (.pf (p:=false=false) rfl)<|
.guard [(0+a.length) * (2 * 32)<=2 ^ 48]<|
.reg 3 [] [(2,hv b)] [.pf (p:=∀ k,k<a.length->AV.d (THe.e (a.getD k dF))=AV.d (THe.e (a.getD k dF))/\(THe.e (a.getD k dF)).wd=2) (fun _ _=>⟨rfl,rfl⟩),.pf cz5,.ev 0,.pf (z3a (e:=THe.e) (x:=a))]<|
.r a)
def F_q31 (a:(List THe)):=(S_q31 a).den
theorem F_q31_ok {a:(List THe)}:FO (F_q31 a) 125 [(AV.d (eL THe.e a))] [] (fun x=>(AV.d (eL THe.e x))) NL:=fO (s:=S_q31 a) Tryz.func125
theorem cz6:∀ k,k<0->(DV.b false).wd=3:=fun _ h=>absurd h (y58 _)
def S_q32 (a:(List TLi)):SC (List TLi) (List TLi) :=
.reg 0 [] [] []<|
 let b:=(AV.d (eL TLi.e a))
.nils 0 (
.guard [(0+a.length) * (2 * 32)<=2 ^ 48]<|
.reg 1 [] [] []<|
.lev 0 b (.pf (lvQ true a.length fun j=>(TLi.e (a.getD j dF))))<|
.br true (.pf (p:=true=true) rfl)<|
.reg 2 [] [] []<|
.lev 2 b (.der (fun (h:a.length=0)=>lvZ TLi.e a h) 1)<|
.r a) (
.reg 1 [] [] []<|
.lev 0 b (.pf (lvQ false a.length fun j=>(TLi.e (a.getD j dF))))<|
.br false (.pf (p:=false=false) rfl)<|
.guard [(0+a.length) * (2 * 32)<=2 ^ 48]<|
.reg 3 [] [(2,hv b)] [.pf (p:=∀ k,k<a.length->AV.d (TLi.e (a.getD k dF))=AV.d (TLi.e (a.getD k dF))/\(TLi.e (a.getD k dF)).wd=3) (fun _ _=>⟨rfl,rfl⟩),.pf cz6,.ev 0,.pf (z3a (e:=TLi.e) (x:=a))]<|
.r a)
def F_q32 (a:(List TLi)):=(S_q32 a).den
theorem F_q32_ok {a:(List TLi)}:FO (F_q32 a) 126 [(AV.d (eL TLi.e a))] [] (fun x=>(AV.d (eL TLi.e x))) NL:=fO (s:=S_q32 a) Tryz.func126
def S_q2t (a:(List TBo)):SC (List TBo) (List TBo) :=
.reg 0 [] [] []<|
 let b:=(AV.d (eL TBo.e a))
.nils 0 (
.guard [(0+a.length) * (2 * 32)<=2 ^ 48]<|
.reg 1 [] [] []<|
.lev 0 b (.pf (lvQ true a.length fun j=>(TBo.e (a.getD j dF))))<|
.br true (.pf (p:=true=true) rfl)<|
.reg 2 [] [] []<|
.lev 2 b (.der (fun (h:a.length=0)=>lvZ TBo.e a h) 1)<|
.r a) (
.reg 1 [] [] []<|
.lev 0 b (.pf (lvQ false a.length fun j=>(TBo.e (a.getD j dF))))<|
.br false (.pf (p:=false=false) rfl)<|
.guard [(0+a.length) * (2 * 32)<=2 ^ 48]<|
.reg 3 [] [(2,hv b)] [.pf (p:=∀ k,k<a.length->AV.d (TBo.e (a.getD k dF))=AV.d (TBo.e (a.getD k dF))/\(TBo.e (a.getD k dF)).wd=3) (fun _ _=>⟨rfl,rfl⟩),.pf cz6,.ev 0,.pf (z3a (e:=TBo.e) (x:=a))]<|
.r a)
def F_q2t (a:(List TBo)):=(S_q2t a).den
theorem F_q2t_ok {a:(List TBo)}:FO (F_q2t a) 127 [(AV.d (eL TBo.e a))] [] (fun x=>(AV.d (eL TBo.e x))) NL:=fO (s:=S_q2t a) Tryz.func127
def S_q33 (a:(List TEa)):SC (List TEa) (List TEa) :=
.reg 0 [] [] []<|
 let b:=(AV.d (eL TEa.e a))
.nils 0 (
.guard [(0+a.length) * (2 * 40)<=2 ^ 48]<|
.reg 1 [] [] []<|
.lev 0 b (.pf (lvQ true a.length fun j=>(TEa.e (a.getD j dF))))<|
.br true (.pf (p:=true=true) rfl)<|
.reg 2 [] [] []<|
.lev 2 b (.der (fun (h:a.length=0)=>lvZ TEa.e a h) 1)<|
.r a) (
.reg 1 [] [] []<|
.lev 0 b (.pf (lvQ false a.length fun j=>(TEa.e (a.getD j dF))))<|
.br false (.pf (p:=false=false) rfl)<|
.guard [(0+a.length) * (2 * 40)<=2 ^ 48]<|
.reg 3 [] [(2,hv b)] [.pf (p:=∀ k,k<a.length->AV.d (TEa.e (a.getD k dF))=AV.d (TEa.e (a.getD k dF))/\(TEa.e (a.getD k dF)).wd=3) (fun _ _=>⟨rfl,rfl⟩),.pf cz6,.ev 0,.pf (z3a (e:=TEa.e) (x:=a))]<|
.r a)
def F_q33 (a:(List TEa)):=(S_q33 a).den
theorem F_q33_ok {a:(List TEa)}:FO (F_q33 a) 128 [(AV.d (eL TEa.e a))] [] (fun x=>(AV.d (eL TEa.e x))) NL:=fO (s:=S_q33 a) Tryz.func128
theorem cz7:∀ k,k<0->(DV.b false).wd=7:=fun _ h=>absurd h (y58 _)
def S_q34 (a:(List TCo)):SC (List TCo) (List TCo) :=
.reg 0 [] [] []<|
 let b:=(AV.d (eL TCo.e a))
.nils 0 (
.guard [(0+a.length) * (2 * 72)<=2 ^ 48]<|
.reg 1 [] [] []<|
.lev 0 b (.pf (lvQ true a.length fun j=>(TCo.e (a.getD j dF))))<|
.br true (.pf (p:=true=true) rfl)<|
.reg 2 [] [] []<|
.lev 2 b (.der (fun (h:a.length=0)=>lvZ TCo.e a h) 1)<|
.r a) (
.reg 1 [] [] []<|
.lev 0 b (.pf (lvQ false a.length fun j=>(TCo.e (a.getD j dF))))<|
.br false (.pf (p:=false=false) rfl)<|
.guard [(0+a.length) * (2 * 72)<=2 ^ 48]<|
.reg 3 [] [(2,hv b)] [.pf (p:=∀ k,k<a.length->AV.d (TCo.e (a.getD k dF))=AV.d (TCo.e (a.getD k dF))/\(TCo.e (a.getD k dF)).wd=7) (fun _ _=>⟨rfl,rfl⟩),.pf cz7,.ev 0,.pf (z3a (e:=TCo.e) (x:=a))]<|
.r a)
def F_q34 (a:(List TCo)):=(S_q34 a).den
theorem F_q34_ok {a:(List TCo)}:FO (F_q34 a) 129 [(AV.d (eL TCo.e a))] [] (fun x=>(AV.d (eL TCo.e x))) NL:=fO (s:=S_q34 a) Tryz.func129
theorem cz8:∀ k,k<0->(DV.b false).wd=4:=fun _ h=>absurd h (y58 _)
def S_q35 (a:(List TRu)):SC (List TRu) (List TRu) :=
.reg 0 [] [] []<|
 let b:=(AV.d (eL TRu.e a))
.nils 0 (
.guard [(0+a.length) * (2 * 48)<=2 ^ 48]<|
.reg 1 [] [] []<|
.lev 0 b (.pf (lvQ true a.length fun j=>(TRu.e (a.getD j dF))))<|
.br true (.pf (p:=true=true) rfl)<|
.reg 2 [] [] []<|
.lev 2 b (.der (fun (h:a.length=0)=>lvZ TRu.e a h) 1)<|
.r a) (
.reg 1 [] [] []<|
.lev 0 b (.pf (lvQ false a.length fun j=>(TRu.e (a.getD j dF))))<|
.br false (.pf (p:=false=false) rfl)<|
.guard [(0+a.length) * (2 * 48)<=2 ^ 48]<|
.reg 3 [] [(2,hv b)] [.pf (p:=∀ k,k<a.length->AV.d (TRu.e (a.getD k dF))=AV.d (TRu.e (a.getD k dF))/\(TRu.e (a.getD k dF)).wd=4) (fun _ _=>⟨rfl,rfl⟩),.pf cz8,.ev 0,.pf (z3a (e:=TRu.e) (x:=a))]<|
.r a)
def F_q35 (a:(List TRu)):=(S_q35 a).den
theorem F_q35_ok {a:(List TRu)}:FO (F_q35 a) 130 [(AV.d (eL TRu.e a))] [] (fun x=>(AV.d (eL TRu.e x))) NL:=fO (s:=S_q35 a) Tryz.func130
def S_q36 (a:(List TCh)):SC (List TCh) (List TCh) :=
.reg 0 [] [] []<|
 let b:=(AV.d (eL TCh.e a))
.nils 0 (
.guard [(0+a.length) * (2 * 40)<=2 ^ 48]<|
.reg 1 [] [] []<|
.lev 0 b (.pf (lvQ true a.length fun j=>(TCh.e (a.getD j dF))))<|
.br true (.pf (p:=true=true) rfl)<|
.reg 2 [] [] []<|
.lev 2 b (.der (fun (h:a.length=0)=>lvZ TCh.e a h) 1)<|
.r a) (
.reg 1 [] [] []<|
.lev 0 b (.pf (lvQ false a.length fun j=>(TCh.e (a.getD j dF))))<|
.br false (.pf (p:=false=false) rfl)<|
.guard [(0+a.length) * (2 * 40)<=2 ^ 48]<|
.reg 3 [] [(2,hv b)] [.pf (p:=∀ k,k<a.length->AV.d (TCh.e (a.getD k dF))=AV.d (TCh.e (a.getD k dF))/\(TCh.e (a.getD k dF)).wd=4) (fun _ _=>⟨rfl,rfl⟩),.pf cz8,.ev 0,.pf (z3a (e:=TCh.e) (x:=a))]<|
.r a)
def F_q36 (a:(List TCh)):=(S_q36 a).den
theorem F_q36_ok {a:(List TCh)}:FO (F_q36 a) 131 [(AV.d (eL TCh.e a))] [] (fun x=>(AV.d (eL TCh.e x))) NL:=fO (s:=S_q36 a) Tryz.func131
end
end Go.Proofs.YtgfgnhpecnmlpaaGreatDoor
/- What the functions compute,and that their calls return it. No condition. -/
namespace Go.Proofs.YtgfgnhpecnmlpaaGreatDoor
open Go Go.TA
open Go.IntKind (i64)
noncomputable section
set_option maxRecDepth 100000
def S_q17_b1 (n:TLa) (j:Nat) (f:Int×Int×(List THe)×(List TLi)×(List TBo)×(List TBo)×(List TEa)×(List TCo)×(List TRu)×(List TAm)):SC TLa (Step (Int×Int×(List THe)×(List TLi)×(List TBo)×(List TBo)×(List TEa)×(List TCo)×(List TRu)×(List TAm)) TLa) :=
.reg 7 [] [(2,{ obs:=[(3,(TAm.b (⟨0,0,[]⟩:TAm)))] })] [.w j,.ev 0,.pf cz2]<|
 let i:=(n.A.getD j dF)
.a 8 2 4 (@F_q36_ok i.G) fun m=>
.guard [(f.2.2.2.2.2.2.2.2.2.length+1) * (2 * 40)<=2 ^ 48]<|
 let g:=([(⟨i.L,i.J,m⟩:TAm)]:List TAm)
 let h:=(f.2.2.2.2.2.2.2.2.2++g)
.reg 9 [] [(3,hv (AV.d (eL TAm.e g))),(4,{ cast:=some (AV.ref 2 h.length 0 h.length),obs:=[(2,(eS 3 TAm.e h))] })] [.pf (z5 TAm.e g),.e f.2.2.2.2.2.2.2.2.2.length,.e f.2.2.2.2.2.2.2.2.2.length,.pf (p:=∀ k,k<1->(TAm.d (g.getD k dF)).wd=3) (fun _ _=>rfl),.ev 0,.pf (zf (o:=2) (l:=f.2.2.2.2.2.2.2.2.2) (x:=g)),.pf (ze (sz:=3) (e:=TAm.e) (l:=f.2.2.2.2.2.2.2.2.2) (x:=g))]<|
.c (f.1,f.2.1,f.2.2.1,f.2.2.2.1,f.2.2.2.2.1,f.2.2.2.2.2.1,f.2.2.2.2.2.2.1,f.2.2.2.2.2.2.2.1,f.2.2.2.2.2.2.2.2.1,h)
def S_q17 (c:TLa):SC TLa TLa :=
 let i:=(TLa.b (⟨0,0,[],[],[],[],[],[],[],[]⟩:TLa))
.reg 0 [] [(1,{ obs:=[(1,i)] })] [.pf cz3]<|
.call (@F_q31_ok c.I) fun l s=>
.call (@F_q32_ok c.N) fun m t=>
.call (@F_q2t_ok c.K) fun n u=>
.call (@F_q2t_ok c.P) fun o v=>
.reg 1 [13,15,17,19] [(2,hc s [] true),(5,hc t [] true),(8,hc u [] true),(11,hc v [] true)] [.cl 3 s [] 2 true,.cl 2 t [] 2 true,.cl 1 u [] 2 true,.cl 0 v [] 2 true]<|
.call (@F_q33_ok c.O) fun p w=>
.call (@F_q34_ok c.M) fun q x=>
.call (@F_q35_ok c.S) fun g h=>
.reg 2 [10,12,14] [(2,hc w [] true),(5,hc x [] true),(8,hc h [] true)] [.cl 2 w [] 2 true,.cl 1 x [] 2 true,.cl 0 h [] 2 true]<|
.reg 4 [] [] []<|
 let y:=[(1,(vp 0)),(2,(vp 1)),(3,(AV.d (eL TAm.e c.A)))]
.sh (A:=True) (.pf trivial) y y [(Ob.box (AV.agg [(vi c.E),(vi c.F),(AV.d (eL THe.e l)),(AV.d (eL TLi.e m)),(AV.d (eL TBo.e n)),(AV.d (eL TBo.e o)),(AV.d (eL TEa.e p)),(AV.d (eL TCo.e q)),(AV.d (eL TRu.e g)),(AV.full 0 fun _=>DV.b false)])),i] [(Ob.box (AV.agg [(vi c.E),(vi c.F),(AV.d (eL THe.e l)),(AV.d (eL TLi.e m)),(AV.d (eL TBo.e n)),(AV.d (eL TBo.e o)),(AV.d (eL TEa.e p)),(AV.d (eL TCo.e q)),(AV.d (eL TRu.e g)),(AV.ref 2 0 0 0)])),i,(eS 3 TAm.e ([]:List TAm))] (fun _=>(z1d (sz:=3) (f:=fun j=>AV.d (TAm.e (([]:List TAm).getD j dF))) (.box _ _ _ _ _ (y8 rfl) (TrV.agg (TrL.cons (TrV.keep _) (TrL.cons (TrV.keep _) (TrL.cons (TrV.keep _) (TrL.cons (TrV.keep _) (TrL.cons (TrV.keep _) (TrL.cons (TrV.keep _) (TrL.cons (TrV.keep _) (TrL.cons (TrV.keep _) (TrL.cons (TrV.keep _) (TrL.cons TrV.born TrL.nil))))))))))) (.keep _ _ _ _ (y8 rfl) (.nil _))))) (zj (k:=0) rfl (TrS.keep _) (zj (k:=1) rfl (TrS.keep _) (zj (k:=2) rfl (TrS.keep _) z1f)))<|
.range (c.A.length:Int) c.A.length rfl (.slot 37) 39 [1,2,37,38] (fun (_:Int×Int×(List THe)×(List TLi)×(List TBo)×(List TBo)×(List TEa)×(List TCo)×(List TRu)×(List TAm))=>[]) (fun a=>[(0,(Ob.box (AV.agg [(vi a.1),(vi a.2.1),(AV.d (eL THe.e a.2.2.1)),(AV.d (eL TLi.e a.2.2.2.1)),(AV.d (eL TBo.e a.2.2.2.2.1)),(AV.d (eL TBo.e a.2.2.2.2.2.1)),(AV.d (eL TEa.e a.2.2.2.2.2.2.1)),(AV.d (eL TCo.e a.2.2.2.2.2.2.2.1)),(AV.d (eL TRu.e a.2.2.2.2.2.2.2.2.1)),(AV.ref 2 a.2.2.2.2.2.2.2.2.2.length 0 a.2.2.2.2.2.2.2.2.2.length)]))),(2,(eS 3 TAm.e a.2.2.2.2.2.2.2.2.2))]) (c.E,c.F,l,m,n,o,p,q,g,([]:List TAm)) (S_q17_b1 c) (fun a => 
.guard [a.2.2.2.2.2.2.2.2.2.length<2 ^ 63]<|
.reg 11 [] [] []<|
.frz 2 (.ev 0) none [] [0,1]<|
.r (⟨a.1,a.2.1,a.2.2.1,a.2.2.2.1,a.2.2.2.2.1,a.2.2.2.2.2.1,a.2.2.2.2.2.2.1,a.2.2.2.2.2.2.2.1,a.2.2.2.2.2.2.2.2.1,a.2.2.2.2.2.2.2.2.2⟩:TLa)) id
def F_q17 (a:TLa):=(S_q17 a).den
theorem F_q17_ok {a:TLa}:FO (F_q17 a) 64 [(TLa.d a)] [] (fun x=>(TLa.d x)) NL:=fO (s:=S_q17 a) Tryz.func64
def S_q37 (a:TLi):SC TPl TPl :=
.r (⟨a.B,a.H⟩:TPl)
def F_q37 (a:TLi):=(S_q37 a).den
theorem F_q37_ok {a:TLi}:FO (F_q37 a) 163 [(TLi.d a)] [] (fun x=>(TPl.d x)) NL:=fO (s:=S_q37 a) Tryz.func163
def S_q38 (h:TPl) (j:TPl):SC Int Int :=
.call (@F_qu_ok h.code j.code) fun e b=>
.call (@F_qg_ok h.year j.year) fun f c=>
 let a:=([e,f]:List Int)
.call (@F_qh_ok a) fun g d=>
.reg 1 [] [(4,hc b [] true),(9,hc c [] true),(10,hv (vl a)),(11,hc d [] true)] [.cl 2 b [] 2 true,.cl 1 c [] 2 true,.pf (z5 (DV.i .i64) a),.cl 0 d [] 2 true]<|
.r g
def F_q38 (a:TPl) (b:TPl):=(S_q38 a b).den
theorem F_q38_ok {a:TPl} {b:TPl}:FO (F_q38 a b) 190 [(TPl.d a),(TPl.d b)] [] vi NL:=fO (s:=S_q38 a b) Tryz.func190
abbrev R_q18:=Int×Bool
def S_q18_b1 (g:TPl) (c:(List TPl)) (a:Int×Int):SC R_q18 (Step (Int×Int) R_q18) :=
.ite (decide (a.1<a.2)) (
.reg 4 [] [] [.pf (p:=(0:Int)<=1) dk]<|
 let b:=(i64.wrap ((IntKind.u64.wrap (i64.wrap (a.1+a.2))).fdiv (2 ^ (min (1:Int).toNat IntKind.u64.bits))))
.call (@F_q38_ok (c.getD (0+b.toNat) dF) g) fun f d=>
.guard [(0:Int)<=b,b.toNat<c.length,(0+b.toNat)<c.length]<|
.reg 5 [] [(6,hc d [] true)] [.e c.length,.ev 0,.ev 1,.e c.length,.ev 2,.cl 3 d [] 2 true]<|
.ite (decide (f<0)) (
.r (.cont ((i64.wrap (b+1)),a.2))) (
.r (.cont (a.1,b)))) (
.r (.brk (a.1,a.2)))
def S_q18 (f:TPl) (c:(List TPl)):SC R_q18 R_q18 :=
.iter [0,2,4,8] (fun (a:Int×Int)=>[(9,(vi a.1)),(10,(vi a.2))]) (fun _=>[]) (0,(c.length:Int)) (S_q18_b1 f c) (fun a =>
 let b:=(decide (a.1<(c.length:Int)))
.calld [b=true] dF (@F_q38_ok (c.getD (0+a.1.toNat) dF) f) fun e d =>
.guard [AllP [b=true]->((0:Int)<=a.1),AllP [b=true]->(a.1.toNat<c.length),AllP [b=true]->((0+a.1.toNat)<c.length)]<|
.reg 8 [] [(11,hc d [] true)] [.pf (p:=AllP [b=true]->(c.length=c.length)) (fun _=>rfl),.ev 0,.ev 1,.pf (p:=AllP [b=true]->(c.length=c.length)) (fun _=>rfl),.ev 2,.clg 3 [b=true] d [] 2 true]<|
.r (a.1,(bif b then (e==0) else false))) id
def F_q18 (a:TPl) (b:(List TPl)):=(S_q18 a b).den
theorem F_q18_ok {b:TPl} {a:(List TPl)}:FO (F_q18 b a) 189 [(AV.ref 0 a.length 0 a.length),(TPl.d b),(AV.fn 190 [])] [(eS 2 TPl.e a)] (fun x=>(AV.tup [(vi x.1),(vb x.2)])) (fun _=>[(eS 2 TPl.e a)]):=fO (s:=S_q18 b a) Tryz.func189
def S_q4c (a:(List TLi)):SC (List TLi) (List TLi) :=
.reg 0 [] [] []<|
.nils 0 (
.guard [a.length * (2 * 32)<=2 ^ 48]<|
.reg 1 [] [] []<|
.lev 0 (AV.d (eL TLi.e a)) (.pf (lvQ true a.length fun j=>(TLi.e (a.getD j dF))))<|
.br true (.pf (p:=true=true) rfl)<|
.reg 2 [] [] []<|
.bor 3 (fun j=>AV.d (TLi.e (a.getD j dF))) [2]<|
.cst (A:=a.length=0) (.ev 1) [(2,AV.ref 0 0 0 0)] [(2,(AV.ref 0 a.length 0 a.length))] [(Ob.seq 3 0 fun j=>AV.d (TLi.e (a.getD j dF)))] [(eS 3 TLi.e a)] (fun h=>⟨by rw[h],by unfold eS; rw[h]⟩)<|
.r a) (
.reg 1 [] [] []<|
.lev 0 (AV.d (eL TLi.e a)) (.pf (lvQ false a.length fun j=>(TLi.e (a.getD j dF))))<|
.br false (.pf (p:=false=false) rfl)<|
.guard [a.length * (2 * 32)<=2 ^ 48]<|
.reg 3 [] [(2,{ h:=.obj })] [.pf (p:=∀ k,k<a.length->(TLi.d (a.getD k dF)).wd=3) (fun _ _=>rfl),.ev 0]<|
.r a)
def F_q4c (a:(List TLi)):=(S_q4c a).den
theorem F_q4c_ok {a:(List TLi)}:FO (F_q4c a) 126 [(AV.d (eL TLi.e a))] [] (fun x=>(AV.ref 0 x.length 0 x.length)) (fun x=>[(eS 3 TLi.e x)]):=fO (s:=S_q4c a) Tryz.func126
def S_q4d (q:Int) (o:Int) (a:(List TLi)):SC (List TLi) (List TLi) :=
.guard [(0:Int)<=q,(0:Int)<=o,q.toNat<=o.toNat,o.toNat<=a.length]<|
.reg 1 [] [] [.ev 0,.ev 1,.ev 2,.ev 3,.e a.length,.pf (nn a.length),.ev 3,.pf (p:=a.length<=a.length) (ya _)]<|
.ite (q==o) (
.guard [a.length<2 ^ 63]<|
.reg 3 [] [] []<|
.frz 0 (.ev 0) none [6] []<|
.r a) (
 let c:=(a.length-o.toNat)
 let f:=(q.toNat-0)
.guard [q.toNat<=a.length,f+c<=a.length]<|
 let g:=(0+o.toNat)
.reg 5 [6] [(6,{ h:=.imm,obs:=[(0,(eS 3 TLi.e (copyL a f c (fun i=>(a.getD (g+i) dF)))))] })] [.ev 3,.ev 0,.e a.length,.ev 4,.ev 6,.e a.length,.e a.length,.e a.length,.ev 1,.pf (p:=∀ k,k<c->(TLi.d (a.getD (g+k) dF)).wd=3) (fun _ _=>rfl),.pf (z6q (sz:=3) (e:=TLi.e) (l:=a) (off:=f) (k:=c) (s:=(fun i=>(a.getD (g+i) dF))))]<|
 let b:=(f+c)
 let t:=(7,(vi (a.length:Int)))
.cst (A:=True) (.pf trivial) [(0,(AV.ref 0 a.length 0 b)),t] [(0,(AV.ref 0 ((copyL a f c (fun i=>(a.getD (g+i) dF))).length) 0 b)),t] [(eS 3 TLi.e (copyL a f c (fun i=>(a.getD (g+i) dF))))] [(eS 3 TLi.e (copyL a f c (fun i=>(a.getD (g+i) dF))))] (fun _=>⟨by simp +zetaDelta only[zq],by rfl⟩)<|
.guard [b<=a.length,a.length<=(copyL a f c (fun i=>(a.getD (g+i) dF))).length]<|
 let j:=(⟨[],0,0⟩:TLi)
 let m:=(a.length-b)
.reg 6 [] [(5,{ obs:=[(0,(eS 3 TLi.e (clearL (copyL a f c (fun i=>(a.getD (g+i) dF))) (0+b) m j)))] })] [.w b,.pf (nn a.length),.ev 0,.ev 1,.pf (y1x ((copyL a f c (fun i=>(a.getD (g+i) dF))).length)),.pf (y1x ((copyL a f c (fun i=>(a.getD (g+i) dF))).length)),.pf (z7g (sz:=3) (e:=TLi.e) (l:=(copyL a f c (fun i=>(a.getD (g+i) dF)))) (off:=(0+b)) (n:=m) (z:=j))]<|
.cst (A:=True) (.pf trivial) [(0,(AV.ref 0 ((copyL a f c (fun i=>(a.getD (g+i) dF))).length) 0 b))] [(0,(AV.ref 0 ((clearL (copyL a f c (fun i=>(a.getD (g+i) dF))) (0+b) m j).length) 0 b))] [(eS 3 TLi.e (clearL (copyL a f c (fun i=>(a.getD (g+i) dF))) (0+b) m j))] [(eS 3 TLi.e (clearL (copyL a f c (fun i=>(a.getD (g+i) dF))) (0+b) m j))] (fun _=>⟨by simp +zetaDelta only[z11,zq],by rfl⟩)<|
.guard [(clearL (copyL a f c (fun i=>(a.getD (g+i) dF))) (0+b) m j).length<2 ^ 63]<|
.reg 7 [] [] []<|
.guard [b<=(clearL (copyL a f c (fun i=>(a.getD (g+i) dF))) (0+b) m j).length]<|
.frz 0 (.ev 1) (some (.der (fun (h:b<=(clearL (copyL a f c (fun i=>(a.getD (g+i) dF))) (0+b) m j).length)=>(h:b<=(clearL (copyL a f c (fun i=>(a.getD (g+i) dF))) (0+b) m j).length)) 0)) [6] []<|
.lev 6 (AV.d (eL TLi.e ((clearL (copyL a f c (fun i=>(a.getD (g+i) dF))) (0+b) m j).take b))) (.der (fun (h:b<=(clearL (copyL a f c (fun i=>(a.getD (g+i) dF))) (0+b) m j).length)=>lvT TLi.e (clearL (copyL a f c (fun i=>(a.getD (g+i) dF))) (0+b) m j) h) 0)<|
.r ((clearL (copyL a f c (fun i=>(a.getD (g+i) dF))) (0+b) m j).take b))
def F_q4d (a:Int) (b:Int) (c:(List TLi)):=(S_q4d a b c).den
theorem F_q4d_ok {b:Int} {c:Int} {a:(List TLi)}:FO (F_q4d b c a) 191 [(AV.ref 0 a.length 0 a.length),(vi b),(vi c)] [(eS 3 TLi.e a)] (fun x=>(AV.d (eL TLi.e x))) (fun _=>[Ob.dead]):=fO (s:=S_q4d b c a) Tryz.func191
def V_q4x (x:(List TLi)):AV:=.ref 0 x.length 0 x.length
def L_q4x (a:List TLi) (x:(List TLi)):List Ob:=[eS 3 TLi.e x,eS 3 TLi.e a]
def F_q4x (a:Int) (b c:List TLi):Option (List TLi):=match c with
 | [y]=>guardP (0<=a/\a.toNat<=b.length/\(b.length+1) * (4 * 32)<=2 ^ 48) (some (insL b a.toNat y))
 | _=>none
theorem F_q4x_ok {c:Int} {f b:List TLi} (r:(List TLi)) (h:F_q4x c f b=some r):CallOk Tryz.prog 192 [(AV.ref 0 f.length 0 f.length),(AV.d (.i .i64 c)),(AV.ref 1 b.length 0 b.length)] [(eS 3 TLi.e f),(eS 3 TLi.e b)] (V_q4x r) (L_q4x b r):=by
 unfold F_q4x at h
 split at h
 ·rename_i y
  obtain⟨⟨h1,h2,h3⟩,h⟩:=z1l h
  obtain rfl:=yu h
  obtain⟨i,rfl⟩:∃ i:Nat,c=(i:Int):=⟨c.toNat,(y4h h1).symm⟩
  exact InsG.ins_ok .a (fun _=>rfl) h2 h3
 ·cases h
abbrev R_q2d:=(List TLi)
def S_q2d_b1 (a0_0:(List TLi)) (f:Nat) (a:(List TPl)):SC R_q2d (Step ((List TPl)) R_q2d) :=
.reg 4 [] [] [.w f,.ev 0]<|
.call (@F_q37_ok (a0_0.getD f dF)) fun i g=>
.guard [(a.length+1) * (2 * 24)<=2 ^ 48]<|
 let b:=([i]:List TPl)
.reg 5 [] [(4,hc g [] true),(5,hv (AV.d (eL TPl.e b))),(6,{ h:=.obj,cast:=some (AV.ref 2 ((a++b).length) 0 ((a++b).length)),obs:=[(2,(eS 2 TPl.e (a++b)))] })] [.cl 1 g [] 4 true,.pf (z5 TPl.e b),.e a.length,.e a.length,.pf (p:=∀ k,k<1->(TPl.d (b.getD k dF)).wd=2) (fun _ _=>rfl),.ev 0,.pf (zf (o:=2) (l:=a) (x:=b)),.pf (ze (sz:=2) (e:=TPl.e) (l:=a) (x:=b))]<|
.c (a++b)
def S_q2d (a0_0:(List TLi)) (o:TLi) (B:Bool):SC R_q2d R_q2d :=
.reg 2 [] [] []<|
.bor 2 (fun j=>AV.d (TPl.e (([]:List TPl).getD j dF))) [7]<|
.range (a0_0.length:Int) a0_0.length rfl (.slot 14) 16 [2,3,4,14,15] (fun (f:(List TPl))=>[(7,(AV.ref 2 f.length 0 f.length))]) (fun f=>[(2,(eS 2 TPl.e f))]) ([]:List TPl) (S_q2d_b1 a0_0) (fun f => 
.call (@F_q37_ok o) fun v p=>
.call (@F_q18_ok v f) fun c q=>
.reg 7 [] [(4,hc p [] true),(5,hc q [2] true)] [.cl 1 p [] 3 true,.cl 0 q [2] 3 true]<|
.call (@F_q4c_ok a0_0) fun a w=>
.k 8 2 w [] 3 false<|
.ite (bif B then c.2 else false) (
.call (@F_q4d_ok c.1 (i64.wrap (c.1+1)) a) fun y z=>
.k 10 4 z [3] 4 false<|
.r y) (
.ite B (
.guard [a.length<2 ^ 63]<|
.reg 12 [] [] []<|
.frz 3 (.ev 0) none [6] []<|
.r a) (
.ite c.2 (
 let m:=(0+c.1.toNat)
.guard [(0:Int)<=c.1,c.1.toNat<a.length,m<a.length]<|
 let g:=(a.set m o)
.reg 14 [] [(4,{ obs:=[(3,(eS 3 TLi.e g))] })] [.e a.length,.ev 0,.ev 1,.e a.length,.ev 2,.pf (z3g (sz:=3) (e:=TLi.e) (l:=a) (i:=m) (x:=o) (fun _=>rfl))]<|
 let s:=[(Ob.box (AV.agg [(AV.d (eL TLi.e a0_0)),(AV.fn 163 [])])),(TLi.b o),(eS 2 TPl.e f),(eS 3 TLi.e g)]
.cst (A:=True) (.pf trivial) [(12,(AV.ref 3 a.length 0 a.length))] [(12,(AV.ref 3 g.length 0 g.length))] s s (fun _=>⟨Zb,by rfl⟩)<|
.guard [g.length<2 ^ 63]<|
.reg 15 [] [] []<|
.frz 3 (.ev 0) none [6] []<|
.r g) (
 let n:=([o]:List TLi)
.call (@F_q4x_ok c.1 a n) fun t u=>
.reg 16 [] [(3,{ h:=.obj,obs:=[(4,(eS 3 TLi.e n))] }),(4,hc u [3,4] false)] [.pf (z2h (sz:=3) (e:=TLi.e) (l:=n)),.cl 0 u [3,4] 5 false]<|
.guard [t.length<2 ^ 63]<|
.frz 3 (.ev 0) none [6] []<|
.r t)))) id
def F_q2d (a0_0:(List TLi)) (a:TLi) (b:Bool):=(S_q2d a0_0 a b).den
theorem F_q2d_ok {a0_0:(List TLi)} {a:TLi} {b:Bool}:FO (F_q2d a0_0 a b) 164 [(AV.agg [(AV.d (eL TLi.e a0_0)),(AV.fn 163 [])]),(TLi.d a),(vb b)] [] (fun x=>(AV.d (eL TLi.e x))) NL:=fO (s:=S_q2d a0_0 a b) Tryz.func164
def S_q39 (a:TBo):SC TPl TPl :=
.r (⟨a.B,a.H⟩:TPl)
def F_q39 (a:TBo):=(S_q39 a).den
theorem F_q39_ok {a:TBo}:FO (F_q39 a) 165 [(TBo.d a)] [] (fun x=>(TPl.d x)) NL:=fO (s:=S_q39 a) Tryz.func165
def S_q4e (a:(List TBo)):SC (List TBo) (List TBo) :=
.reg 0 [] [] []<|
.nils 0 (
.guard [a.length * (2 * 32)<=2 ^ 48]<|
.reg 1 [] [] []<|
.lev 0 (AV.d (eL TBo.e a)) (.pf (lvQ true a.length fun j=>(TBo.e (a.getD j dF))))<|
.br true (.pf (p:=true=true) rfl)<|
.reg 2 [] [] []<|
.bor 3 (fun j=>AV.d (TBo.e (a.getD j dF))) [2]<|
.cst (A:=a.length=0) (.ev 1) [(2,AV.ref 0 0 0 0)] [(2,(AV.ref 0 a.length 0 a.length))] [(Ob.seq 3 0 fun j=>AV.d (TBo.e (a.getD j dF)))] [(eS 3 TBo.e a)] (fun h=>⟨by rw[h],by unfold eS; rw[h]⟩)<|
.r a) (
.reg 1 [] [] []<|
.lev 0 (AV.d (eL TBo.e a)) (.pf (lvQ false a.length fun j=>(TBo.e (a.getD j dF))))<|
.br false (.pf (p:=false=false) rfl)<|
.guard [a.length * (2 * 32)<=2 ^ 48]<|
.reg 3 [] [(2,{ h:=.obj })] [.pf (p:=∀ k,k<a.length->(TBo.d (a.getD k dF)).wd=3) (fun _ _=>rfl),.ev 0]<|
.r a)
def F_q4e (a:(List TBo)):=(S_q4e a).den
theorem F_q4e_ok {a:(List TBo)}:FO (F_q4e a) 127 [(AV.d (eL TBo.e a))] [] (fun x=>(AV.ref 0 x.length 0 x.length)) (fun x=>[(eS 3 TBo.e x)]):=fO (s:=S_q4e a) Tryz.func127
def S_q4f (q:Int) (o:Int) (a:(List TBo)):SC (List TBo) (List TBo) :=
.guard [(0:Int)<=q,(0:Int)<=o,q.toNat<=o.toNat,o.toNat<=a.length]<|
.reg 1 [] [] [.ev 0,.ev 1,.ev 2,.ev 3,.e a.length,.pf (nn a.length),.ev 3,.pf (p:=a.length<=a.length) (ya _)]<|
.ite (q==o) (
.guard [a.length<2 ^ 63]<|
.reg 3 [] [] []<|
.frz 0 (.ev 0) none [6] []<|
.r a) (
 let c:=(a.length-o.toNat)
 let f:=(q.toNat-0)
.guard [q.toNat<=a.length,f+c<=a.length]<|
 let g:=(0+o.toNat)
.reg 5 [6] [(6,{ h:=.imm,obs:=[(0,(eS 3 TBo.e (copyL a f c (fun i=>(a.getD (g+i) dF)))))] })] [.ev 3,.ev 0,.e a.length,.ev 4,.ev 6,.e a.length,.e a.length,.e a.length,.ev 1,.pf (p:=∀ k,k<c->(TBo.d (a.getD (g+k) dF)).wd=3) (fun _ _=>rfl),.pf (z6q (sz:=3) (e:=TBo.e) (l:=a) (off:=f) (k:=c) (s:=(fun i=>(a.getD (g+i) dF))))]<|
 let b:=(f+c)
 let t:=(7,(vi (a.length:Int)))
.cst (A:=True) (.pf trivial) [(0,(AV.ref 0 a.length 0 b)),t] [(0,(AV.ref 0 ((copyL a f c (fun i=>(a.getD (g+i) dF))).length) 0 b)),t] [(eS 3 TBo.e (copyL a f c (fun i=>(a.getD (g+i) dF))))] [(eS 3 TBo.e (copyL a f c (fun i=>(a.getD (g+i) dF))))] (fun _=>⟨by simp +zetaDelta only[zq],by rfl⟩)<|
.guard [b<=a.length,a.length<=(copyL a f c (fun i=>(a.getD (g+i) dF))).length]<|
 let j:=(⟨[],0,0⟩:TBo)
 let m:=(a.length-b)
.reg 6 [] [(5,{ obs:=[(0,(eS 3 TBo.e (clearL (copyL a f c (fun i=>(a.getD (g+i) dF))) (0+b) m j)))] })] [.w b,.pf (nn a.length),.ev 0,.ev 1,.pf (y1x ((copyL a f c (fun i=>(a.getD (g+i) dF))).length)),.pf (y1x ((copyL a f c (fun i=>(a.getD (g+i) dF))).length)),.pf (z7g (sz:=3) (e:=TBo.e) (l:=(copyL a f c (fun i=>(a.getD (g+i) dF)))) (off:=(0+b)) (n:=m) (z:=j))]<|
.cst (A:=True) (.pf trivial) [(0,(AV.ref 0 ((copyL a f c (fun i=>(a.getD (g+i) dF))).length) 0 b))] [(0,(AV.ref 0 ((clearL (copyL a f c (fun i=>(a.getD (g+i) dF))) (0+b) m j).length) 0 b))] [(eS 3 TBo.e (clearL (copyL a f c (fun i=>(a.getD (g+i) dF))) (0+b) m j))] [(eS 3 TBo.e (clearL (copyL a f c (fun i=>(a.getD (g+i) dF))) (0+b) m j))] (fun _=>⟨by simp +zetaDelta only[z11,zq],by rfl⟩)<|
.guard [(clearL (copyL a f c (fun i=>(a.getD (g+i) dF))) (0+b) m j).length<2 ^ 63]<|
.reg 7 [] [] []<|
.guard [b<=(clearL (copyL a f c (fun i=>(a.getD (g+i) dF))) (0+b) m j).length]<|
.frz 0 (.ev 1) (some (.der (fun (h:b<=(clearL (copyL a f c (fun i=>(a.getD (g+i) dF))) (0+b) m j).length)=>(h:b<=(clearL (copyL a f c (fun i=>(a.getD (g+i) dF))) (0+b) m j).length)) 0)) [6] []<|
.lev 6 (AV.d (eL TBo.e ((clearL (copyL a f c (fun i=>(a.getD (g+i) dF))) (0+b) m j).take b))) (.der (fun (h:b<=(clearL (copyL a f c (fun i=>(a.getD (g+i) dF))) (0+b) m j).length)=>lvT TBo.e (clearL (copyL a f c (fun i=>(a.getD (g+i) dF))) (0+b) m j) h) 0)<|
.r ((clearL (copyL a f c (fun i=>(a.getD (g+i) dF))) (0+b) m j).take b))
def F_q4f (a:Int) (b:Int) (c:(List TBo)):=(S_q4f a b c).den
theorem F_q4f_ok {b:Int} {c:Int} {a:(List TBo)}:FO (F_q4f b c a) 193 [(AV.ref 0 a.length 0 a.length),(vi b),(vi c)] [(eS 3 TBo.e a)] (fun x=>(AV.d (eL TBo.e x))) (fun _=>[Ob.dead]):=fO (s:=S_q4f b c a) Tryz.func193
def V_q4y (x:(List TBo)):AV:=.ref 0 x.length 0 x.length
def L_q4y (a:List TBo) (x:(List TBo)):List Ob:=[eS 3 TBo.e x,eS 3 TBo.e a]
def F_q4y (a:Int) (b c:List TBo):Option (List TBo):=match c with
 | [y]=>guardP (0<=a/\a.toNat<=b.length/\(b.length+1) * (4 * 32)<=2 ^ 48) (some (insL b a.toNat y))
 | _=>none
theorem F_q4y_ok {c:Int} {f a:List TBo} (r:(List TBo)) (h:F_q4y c f a=some r):CallOk Tryz.prog 194 [(AV.ref 0 f.length 0 f.length),(AV.d (.i .i64 c)),(AV.ref 1 a.length 0 a.length)] [(eS 3 TBo.e f),(eS 3 TBo.e a)] (V_q4y r) (L_q4y a r):=by
 unfold F_q4y at h
 split at h
 ·rename_i y
  obtain⟨⟨h1,h2,h3⟩,h⟩:=z1l h
  obtain rfl:=yu h
  obtain⟨i,rfl⟩:∃ i:Nat,c=(i:Int):=⟨c.toNat,(y4h h1).symm⟩
  exact InsG.ins_ok .b (fun _=>rfl) h2 h3
 ·cases h
abbrev R_q1x:=(List TBo)
def S_q1x_b1 (a0_0:(List TBo)) (f:Nat) (a:(List TPl)):SC R_q1x (Step ((List TPl)) R_q1x) :=
.reg 4 [] [] [.w f,.ev 0]<|
.call (@F_q39_ok (a0_0.getD f dF)) fun i g=>
.guard [(a.length+1) * (2 * 24)<=2 ^ 48]<|
 let b:=([i]:List TPl)
.reg 5 [] [(4,hc g [] true),(5,hv (AV.d (eL TPl.e b))),(6,{ h:=.obj,cast:=some (AV.ref 2 ((a++b).length) 0 ((a++b).length)),obs:=[(2,(eS 2 TPl.e (a++b)))] })] [.cl 1 g [] 4 true,.pf (z5 TPl.e b),.e a.length,.e a.length,.pf (p:=∀ k,k<1->(TPl.d (b.getD k dF)).wd=2) (fun _ _=>rfl),.ev 0,.pf (zf (o:=2) (l:=a) (x:=b)),.pf (ze (sz:=2) (e:=TPl.e) (l:=a) (x:=b))]<|
.c (a++b)
def S_q1x (a0_0:(List TBo)) (o:TBo) (B:Bool):SC R_q1x R_q1x :=
.reg 2 [] [] []<|
.bor 2 (fun j=>AV.d (TPl.e (([]:List TPl).getD j dF))) [7]<|
.range (a0_0.length:Int) a0_0.length rfl (.slot 14) 16 [2,3,4,14,15] (fun (f:(List TPl))=>[(7,(AV.ref 2 f.length 0 f.length))]) (fun f=>[(2,(eS 2 TPl.e f))]) ([]:List TPl) (S_q1x_b1 a0_0) (fun f => 
.call (@F_q39_ok o) fun v p=>
.call (@F_q18_ok v f) fun c q=>
.reg 7 [] [(4,hc p [] true),(5,hc q [2] true)] [.cl 1 p [] 3 true,.cl 0 q [2] 3 true]<|
.call (@F_q4e_ok a0_0) fun a w=>
.k 8 2 w [] 3 false<|
.ite (bif B then c.2 else false) (
.call (@F_q4f_ok c.1 (i64.wrap (c.1+1)) a) fun y z=>
.k 10 4 z [3] 4 false<|
.r y) (
.ite B (
.guard [a.length<2 ^ 63]<|
.reg 12 [] [] []<|
.frz 3 (.ev 0) none [6] []<|
.r a) (
.ite c.2 (
 let m:=(0+c.1.toNat)
.guard [(0:Int)<=c.1,c.1.toNat<a.length,m<a.length]<|
 let g:=(a.set m o)
.reg 14 [] [(4,{ obs:=[(3,(eS 3 TBo.e g))] })] [.e a.length,.ev 0,.ev 1,.e a.length,.ev 2,.pf (z3g (sz:=3) (e:=TBo.e) (l:=a) (i:=m) (x:=o) (fun _=>rfl))]<|
 let s:=[(Ob.box (AV.agg [(AV.d (eL TBo.e a0_0)),(AV.fn 165 [])])),(TBo.b o),(eS 2 TPl.e f),(eS 3 TBo.e g)]
.cst (A:=True) (.pf trivial) [(12,(AV.ref 3 a.length 0 a.length))] [(12,(AV.ref 3 g.length 0 g.length))] s s (fun _=>⟨Zb,by rfl⟩)<|
.guard [g.length<2 ^ 63]<|
.reg 15 [] [] []<|
.frz 3 (.ev 0) none [6] []<|
.r g) (
 let n:=([o]:List TBo)
.call (@F_q4y_ok c.1 a n) fun t u=>
.reg 16 [] [(3,{ h:=.obj,obs:=[(4,(eS 3 TBo.e n))] }),(4,hc u [3,4] false)] [.pf (z2h (sz:=3) (e:=TBo.e) (l:=n)),.cl 0 u [3,4] 5 false]<|
.guard [t.length<2 ^ 63]<|
.frz 3 (.ev 0) none [6] []<|
.r t)))) id
def F_q1x (a0_0:(List TBo)) (a:TBo) (b:Bool):=(S_q1x a0_0 a b).den
theorem F_q1x_ok {a0_0:(List TBo)} {a:TBo} {b:Bool}:FO (F_q1x a0_0 a b) 166 [(AV.agg [(AV.d (eL TBo.e a0_0)),(AV.fn 165 [])]),(TBo.d a),(vb b)] [] (fun x=>(AV.d (eL TBo.e x))) NL:=fO (s:=S_q1x a0_0 a b) Tryz.func166
def S_q3i (b:TCh) (a:TLa):SC TLa TLa :=
.ite (b.C==1) (
.call (@F_q2d_ok a.N (⟨b.B,b.H,b.D⟩:TLi) (b.D==0)) fun g c=>
.reg 4 [19] [(16,hc c [] true)] [.cl 0 c [] 3 true]<|
.r (⟨a.E,a.F,a.I,g,a.K,a.P,a.O,a.M,a.S,a.A⟩:TLa)) (
 let d:=(⟨b.B,b.H,b.D⟩:TBo)
.ite (b.C==2) (
.call (@F_q1x_ok a.K d (b.D==(-1))) fun h e=>
.reg 6 [13] [(10,hc e [] true)] [.cl 0 e [] 3 true]<|
.r (⟨a.E,a.F,a.I,a.N,h,a.P,a.O,a.M,a.S,a.A⟩:TLa)) (
.ite (b.C==3) (
.call (@F_q1x_ok a.P d (b.D==0)) fun i f=>
.reg 8 [13] [(10,hc f [] true)] [.cl 0 f [] 3 true]<|
.r (⟨a.E,a.F,a.I,a.N,a.K,i,a.O,a.M,a.S,a.A⟩:TLa)) (
.r a)))
def F_q3i (a:TCh) (b:TLa):=(S_q3i a b).den
theorem F_q3i_ok {a:TCh} {c:TLa}:FO (F_q3i a c) 112 [(vp 0),(TCh.d a)] [(TLa.b c)] (fun _=>(AV.tup [])) (fun x=>[(TLa.b x)]):=fO (s:=S_q3i a c) Tryz.func112
theorem cz9:LeV (AV.d (DV.agg [(DV.i .i64 0),(DV.i .i64 0),Z0,Z0,Z0,Z0,Z0,Z0,Z0,Z0])) (TLa.d (⟨0,0,[],[],[],[],[],[],[],[]⟩:TLa)):=z85 rfl (DLe.agg (DLeL.cons (DLe.refl _) (DLeL.cons (DLe.refl _) (DLeL.cons DLe.sl0 (DLeL.cons DLe.sl0 (DLeL.cons DLe.sl0 (DLeL.cons DLe.sl0 (DLeL.cons DLe.sl0 (DLeL.cons DLe.sl0 (DLeL.cons DLe.sl0 (DLeL.cons DLe.sl0 DLeL.nil)))))))))))
abbrev R_qv:=TLa×Int
def S_qv_b1 (b:(List TCh)) (a:Nat) (d:TLa):SC R_qv (Step TLa R_qv) :=
.guard [(0+a)<b.length]<|
.reg 4 [] [] [.e b.length,.w a,.ev 1,.e b.length,.ev 0]<|
.call (@F_q3i_ok (b.getD (0+a) dF) d) fun f g=>
.k 5 1 g [1] 4 false<|
.c f
def S_qv (h:TLa) (f:(List TCh)):SC R_qv R_qv :=
 let e:=(⟨0,0,[],[],[],[],[],[],[],[]⟩:TLa)
.reg 0 [] [(1,{ obs:=[(2,(TLa.b e))] })] [.pf cz3]<|
.a 1 1 3 (@F_q17_ok h) fun g=>
.guard [f.length<2 ^ 63]<|
.range (f.length:Int) f.length rfl (.why (.ev 0)) 12 [2,4,10,11] (fun (_:TLa)=>[]) (fun c=>[(1,(TLa.b c))]) g (S_qv_b1 f) (fun c => 
.ite (cO (cO (decide ((c.N.length:Int)>120)) (decide ((c.K.length:Int)>60))) (decide ((c.P.length:Int)>60))) (
.reg 8 [] [(0,hv (TLa.d e))] [.pf cz9]<|
.r (e,3)) (
.r (c,0))) id
def F_qv (a:TLa) (b:(List TCh)):=(S_qv a b).den
theorem F_qv_ok {b:TLa} {a:(List TCh)}:FO (F_qv b a) 44 [(TLa.d b),(AV.ref 0 a.length 0 a.length)] [(eS 4 TCh.e a)] (fun x=>(AV.tup [(TLa.d x.1),(vi x.2)])) (fun _=>[(eS 4 TCh.e a)]):=fO (s:=S_qv b a) Tryz.func44
abbrev R_qk:=TLa×Int
def S_qk_b1 (j:TLa) (i:Int) (g:Nat) (a:(List TCh)):SC R_qk (Step ((List TCh)) R_qk) :=
.reg 12 [] [(2,{ obs:=[(4,(TAm.b (⟨0,0,[]⟩:TAm)))] })] [.w g,.ev 0,.pf cz2]<|
 let f:=(((j.A.take i.toNat).getD g dF).G)
.guard [(a.length+f.length) * (2 * 40)<=2 ^ 48]<|
.reg 13 [] [(3,{ h:=.obj,cast:=some (AV.ref 3 ((a++f).length) 0 ((a++f).length)),obs:=[(3,(eS 4 TCh.e (a++f)))] })] [.e a.length,.e a.length,.pf (p:=∀ k,k<f.length->(TCh.d (f.getD k dF)).wd=4) (fun _ _=>rfl),.ev 0,.pf (zf (o:=3) (l:=a) (x:=f)),.pf (ze (sz:=4) (e:=TCh.e) (l:=a) (x:=f))]<|
.c (a++f)
def S_qk (f:TLa) (q:Int):SC R_qk R_qk :=
 let h:=(⟨0,0,[],[],[],[],[],[],[],[]⟩:TLa)
.reg 0 [] [(2,{ obs:=[(2,(TLa.b h))] })] [.pf cz3]<|
.a 1 1 3 (@F_q16_ok f) fun l=>
 let m:=(0,hv (TLa.d h))
.ite (l != 0) (
.reg 3 [] [m] [.pf cz9]<|
.r (h,l)) (
.ite (cO (decide (q<0)) (decide (q>36000))) (
.reg 5 [] [m] [.pf cz9]<|
.r (h,2)) (
.call (@F_q2c_ok f.A q) fun n s=>
.k 6 3 s [1] 3 true<|
.cut none [2,4] (fun (c:Int)=>[(7,(vi c))]) (fun _=>[]) (
.ite (decide (n<0)) (
.r (.next (f.A.length:Int))) (
.r (.next n))) fun c=>
.guard [(0:Int)<=c,c.toNat<=f.A.length]<|
 let i:=c.toNat
.reg 10 [] [(4,hv (AV.d (eL TAm.e (f.A.take i))))] [.ev 0,.ev 1,.pf (p:=c=c) rfl,.der (fun (h0:c.toNat<=f.A.length)=>lvTF TAm.e f.A h0) 1]<|
.bor 4 (fun j=>AV.d (TCh.e (([]:List TCh).getD j dF))) [8]<|
.range ((f.A.take c.toNat).length:Int) ((f.A.take c.toNat).length) rfl (.slot 37) 39 [2,4,7,37,38] (fun (g:(List TCh))=>[(8,(AV.ref 3 g.length 0 g.length))]) (fun g=>[(3,(eS 4 TCh.e g))]) ([]:List TCh) (S_qk_b1 f c) (fun g => 
.reg 15 [] [(3,hv (AV.d (eL TAm.e (f.A.drop i))))] [.ev 0,.ev 1,.pf (lvD TAm.e f.A i)]<|
.call (@F_qv_ok (⟨f.E,f.F,f.I,f.N,f.K,f.P,f.O,f.M,f.S,(f.A.drop i)⟩:TLa) g) fun o t=>
.k 16 2 t [3] 4 true<|
.r (o.1,o.2)) id))
def F_qk (a:TLa) (b:Int):=(S_qk a b).den
theorem F_qk_ok {a:TLa} {b:Int}:FO (F_qk a b) 11 [(TLa.d a),(vi b)] [] (fun x=>(AV.tup [(TLa.d x.1),(vi x.2)])) NL:=fO (s:=S_qk a b) Tryz.func11
end
end Go.Proofs.YtgfgnhpecnmlpaaGreatDoor
/- What the functions compute,and that their calls return it. No condition. -/
namespace Go.Proofs.YtgfgnhpecnmlpaaGreatDoor
open Go Go.TA
open Go.IntKind (i64)
noncomputable section
set_option maxRecDepth 100000
def S_q2e_b1 (c:(List THe)) (b:(List THe)) (a:Nat) (_:Unit):SC Bool (Step Unit Bool) :=
.guard [a<b.length]<|
.reg 6 [] [] [.w a,.ev 1,.w a,.ev 0]<|
.ite (!((((c.getD a dF).B)==((b.getD a dF).B))&&((((c.getD a dF).V)==((b.getD a dF).V))&&true))) (
.r (.ret false)) (
.r (.cont ()))
def S_q2e (a:(List THe)) (b:(List THe)):SC Bool Bool :=
.ite ((a.length:Int) != (b.length:Int)) (
.r false) (
.range (a.length:Int) a.length rfl (.slot 0) 13 [0,1,12] (fun (_:Unit)=>[]) (fun _=>[]) () (S_q2e_b1 a b) (fun _ => 
.r true) id)
def F_q2e (a:(List THe)) (b:(List THe)):=(S_q2e a b).den
theorem F_q2e_ok {a:(List THe)} {b:(List THe)}:FO (F_q2e a b) 45 [(AV.d (eL THe.e a)),(AV.d (eL THe.e b))] [] vb NL:=fO (s:=S_q2e a b) Tryz.func45
def S_q2f_b1 (e:(List TLi)) (d:(List TLi)) (a:Nat) (_:Unit):SC Bool (Step Unit Bool) :=
.guard [a<d.length]<|
.reg 6 [] [] [.w a,.ev 1,.w a,.ev 0]<|
 let b:=(e.getD a dF)
 let c:=(d.getD a dF)
.ite (!((b.B==c.B)&&((b.H==c.H)&&((b.D==c.D)&&true)))) (
.r (.ret false)) (
.r (.cont ()))
def S_q2f (a:(List TLi)) (b:(List TLi)):SC Bool Bool :=
.ite ((a.length:Int) != (b.length:Int)) (
.r false) (
.range (a.length:Int) a.length rfl (.slot 0) 13 [0,1,12] (fun (_:Unit)=>[]) (fun _=>[]) () (S_q2f_b1 a b) (fun _ => 
.r true) id)
def F_q2f (a:(List TLi)) (b:(List TLi)):=(S_q2f a b).den
theorem F_q2f_ok {a:(List TLi)} {b:(List TLi)}:FO (F_q2f a b) 46 [(AV.d (eL TLi.e a)),(AV.d (eL TLi.e b))] [] vb NL:=fO (s:=S_q2f a b) Tryz.func46
def S_q1y_b1 (e:(List TBo)) (d:(List TBo)) (a:Nat) (_:Unit):SC Bool (Step Unit Bool) :=
.guard [a<d.length]<|
.reg 6 [] [] [.w a,.ev 1,.w a,.ev 0]<|
 let b:=(e.getD a dF)
 let c:=(d.getD a dF)
.ite (!((b.B==c.B)&&((b.H==c.H)&&((b.D==c.D)&&true)))) (
.r (.ret false)) (
.r (.cont ()))
def S_q1y (a:(List TBo)) (b:(List TBo)):SC Bool Bool :=
.ite ((a.length:Int) != (b.length:Int)) (
.r false) (
.range (a.length:Int) a.length rfl (.slot 0) 13 [0,1,12] (fun (_:Unit)=>[]) (fun _=>[]) () (S_q1y_b1 a b) (fun _ => 
.r true) id)
def F_q1y (a:(List TBo)) (b:(List TBo)):=(S_q1y a b).den
theorem F_q1y_ok {a:(List TBo)} {b:(List TBo)}:FO (F_q1y a b) 47 [(AV.d (eL TBo.e a)),(AV.d (eL TBo.e b))] [] vb NL:=fO (s:=S_q1y a b) Tryz.func47
def S_qn_b1 (f:(List TAm)) (g:(List TAm)) (b:Nat) (a:Nat) (_:Unit):SC Bool (Step Unit Bool) :=
 let e:=((g.getD b dF).G)
.guard [a<e.length]<|
.reg 11 [] [] [.w b,.ev 8,.w a,.ev 1,.w b,.ev 5,.w a,.ev 0]<|
 let c:=(((f.getD b dF).G).getD a dF)
 let d:=(e.getD a dF)
.ite (!((c.C==d.C)&&((c.B==d.B)&&((c.H==d.H)&&((c.D==d.D)&&true))))) (
.r (.ret false)) (
.r (.cont ()))
def S_qn_b2 (g:(List TAm)) (i:(List TAm)) (a:Nat) (_:Unit):SC Bool (Step Unit Bool) :=
 let d:=(g.getD a dF)
 let f:=(i.getD a dF)
 let b:=(d.L != f.L)
 let c:=(cO b (d.J != f.J))
.guard [a<i.length,AllP [b=false]->(a<i.length),AllP [c=false]->(a<i.length)]<|
 let e:=((0:Int)<=(a:Int))
.reg 6 [] [] [.w a,.ev 3,.w a,.ev 0,.pf (p:=AllP [b=false]->e) (fun _=>(y37 _)),.der (fun (h:a<g.length) (_:AllP [b=false])=>h) 3,.pf (p:=AllP [b=false]->e) (fun _=>(y37 _)),.ev 1,.pf (p:=AllP [c=false]->e) (fun _=>(y37 _)),.der (fun (h:a<g.length) (_:AllP [c=false])=>h) 3,.pf (p:=AllP [c=false]->e) (fun _=>(y37 _)),.ev 2]<|
.ite (cO c ((d.G.length:Int) != (f.G.length:Int))) (
.r (.ret false)) (
.reg 8 [] [] [.w a,.ev 4]<|
.guard [d.G.length<2 ^ 63]<|
.range (((g.getD a dF).G).length:Int) (((g.getD a dF).G).length) rfl (.why (.ev 0)) 62 [0,1,5,13,14,61] (fun (_:Unit)=>[]) (fun _=>[]) () (S_qn_b1 g i a) (fun _ => 
.r (.cont ())) .ret)
def S_qn (a:(List TAm)) (b:(List TAm)):SC Bool Bool :=
.ite ((a.length:Int) != (b.length:Int)) (
.r false) (
.range (a.length:Int) a.length rfl (.slot 0) 14 [0,1,13] (fun (_:Unit)=>[]) (fun _=>[]) () (S_qn_b2 a b) (fun _ => 
.r true) id)
def F_qn (a:(List TAm)) (b:(List TAm)):=(S_qn a b).den
theorem F_qn_ok {a:(List TAm)} {b:(List TAm)}:FO (F_qn a b) 48 [(AV.d (eL TAm.e a)),(AV.d (eL TAm.e b))] [] vb NL:=fO (s:=S_qn a b) Tryz.func48
def S_q8_b1 (e:TLa) (d:TLa) (a:Nat) (_:Unit):SC Bool (Step Unit Bool) :=
.guard [a<d.O.length]<|
.reg 8 [] [] [.w a,.ev 1,.w a,.ev 0]<|
 let b:=(e.O.getD a dF)
 let c:=(d.O.getD a dF)
.ite (!((b.Q==c.Q)&&((b.B==c.B)&&((b.R==c.R)&&true)))) (
.r (.ret false)) (
.r (.cont ()))
def S_q8_b2 (e:TLa) (d:TLa) (c:Nat) (_:Unit):SC Bool (Step Unit Bool) :=
.guard [c<d.M.length]<|
.reg 14 [] [] [.w c,.ev 1,.w c,.ev 0]<|
 let a:=(e.M.getD c dF)
 let b:=(d.M.getD c dF)
.ite (!((a.B==b.B)&&((a.H==b.H)&&((a.D==b.D)&&((a.C==b.C)&&((a.L==b.L)&&((a.Q==b.Q)&&((a.U==b.U)&&true)))))))) (
.r (.ret false)) (
.r (.cont ()))
def S_q8_b3 (e:TLa) (d:TLa) (a:Nat) (_:Unit):SC Bool (Step Unit Bool) :=
.guard [a<d.S.length]<|
.reg 20 [] [] [.w a,.ev 1,.w a,.ev 0]<|
 let b:=(e.S.getD a dF)
 let c:=(d.S.getD a dF)
.ite (!((b.J==c.J)&&((b.T==c.T)&&((b.W==c.W)&&((b.R==c.R)&&true))))) (
.r (.ret false)) (
.r (.cont ()))
def S_q8 (a:TLa) (b:TLa):SC Bool Bool :=
 let c:=(cO (a.E != b.E) (a.F != b.F))
.calld [c=false] dF (@F_q2e_ok a.I b.I) fun m h =>
 let d:=(cO c (!m))
.calld [d=false] dF (@F_q2f_ok a.N b.N) fun n i =>
 let e:=(cO d (!n))
.calld [e=false] dF (@F_q1y_ok a.K b.K) fun o j =>
 let f:=(cO e (!o))
.calld [f=false] dF (@F_q1y_ok a.P b.P) fun p k =>
 let g:=(cO f (!p))
.calld [g=false] dF (@F_qn_ok a.A b.A) fun q l =>
.reg 1 [] [(17,hc h [] true),(25,hc i [] true),(33,hc j [] true),(41,hc k [] true),(49,hc l [] true)] [.clg 8 [c=false] h [] 2 true,.clg 6 [d=false] i [] 2 true,.clg 4 [e=false] j [] 2 true,.clg 2 [f=false] k [] 2 true,.clg 0 [g=false] l [] 2 true]<|
.ite (cO g (!q)) (
.r false) (
.ite (cO (cO ((a.O.length:Int) != (b.O.length:Int)) ((a.M.length:Int) != (b.M.length:Int))) ((a.S.length:Int) != (b.S.length:Int))) (
.r false) (
.guard [a.O.length<2 ^ 63]<|
.range (a.O.length:Int) a.O.length rfl (.why (.ev 0)) 88 [2,3,87] (fun (_:Unit)=>[]) (fun _=>[]) () (S_q8_b1 a b) (fun _ => 
.guard [a.M.length<2 ^ 63]<|
.range (a.M.length:Int) a.M.length rfl (.why (.ev 0)) 106 [2,3,105] (fun (_:Unit)=>[]) (fun _=>[]) () (S_q8_b2 a b) (fun _ => 
.guard [a.S.length<2 ^ 63]<|
.range (a.S.length:Int) a.S.length rfl (.why (.ev 0)) 124 [2,3,123] (fun (_:Unit)=>[]) (fun _=>[]) () (S_q8_b3 a b) (fun _ => 
.r true) id) id) id))
def F_q8 (a:TLa) (b:TLa):=(S_q8 a b).den
theorem F_q8_ok {a:TLa} {b:TLa}:FO (F_q8 a b) 12 [(TLa.d a),(TLa.d b)] [] vb NL:=fO (s:=S_q8 a b) Tryz.func12
def S_q53_b1 (c:TLa) (a:Nat) (_:Unit):SC Int (Step Unit Int) :=
.reg 5 [] [(2,{ obs:=[(1,(TAm.b (⟨0,0,[]⟩:TAm)))] })] [.w a,.ev 0,.pf cz2]<|
.ite (decide ((((c.A.getD a dF).G).length:Int)>20)) (
.r (.ret 3)) (
.r (.cont ()))
def S_q53 (a:TLa):SC Int Int :=
.ite (cO (cO (cO (cO (cO (cO (decide ((a.N.length:Int)>120)) (decide ((a.K.length:Int)>60))) (decide ((a.P.length:Int)>60))) (decide ((a.O.length:Int)>20))) (decide ((a.M.length:Int)>20))) (decide ((a.S.length:Int)>20))) (decide ((a.A.length:Int)>20))) (
.r 3) (
.range (a.A.length:Int) a.A.length rfl (.slot 46) 48 [46,47] (fun (_:Unit)=>[]) (fun _=>[]) () (S_q53_b1 a) (fun _ => 
.r 0) id)
def S_q3j_b1 (d:TLa) (e:Y8) (b:Nat) (_:Unit):SC Bool (Step Unit Bool) :=
.reg 5 [] [] [.w b,.ev 0]<|
.a 6 2 2 (@F_qf_ok ((d.I.getD b dF).B)) fun c=>
.ite (c==e) (
.r (.ret false)) (
.r (.cont ()))
def S_q3j (d:TLa) (e:Y8):SC Bool Bool :=
.call (@F_qb_ok e) fun a b=>
.calld [(!a)=false] dF (@F_q2v_ok d e) fun f c =>
.reg 1 [] [(1,hc b [] true),(6,hc c [] true)] [.cl 2 b [] 1 true,.clg 0 [(!a)=false] c [] 1 true]<|
.ite (cO (!a) (!f)) (
.r false) (
.range (d.I.length:Int) d.I.length rfl (.slot 17) 19 [1,17,18] (fun (_:Unit)=>[]) (fun _=>[]) () (S_q3j_b1 d e) (fun _ => 
.r true) id)
def F_q3j (a:TLa) (b:Y8):=(S_q3j a b).den
theorem F_q3j_ok {a:TLa} {b:Y8}:FO (F_q3j a b) 114 [(TLa.d a),(AV.d (DV.str b))] [] vb NL:=fO (s:=S_q3j a b) Tryz.func114
def S_q4v (a:TLa) (b:Int):SC Bool Bool :=
.r (bif (bif (decide (a.F>0)) then (decide (b>=a.E)) else false) then (decide ((IntKind.u64.wrap ((IntKind.u64.wrap b)-(IntKind.u64.wrap a.E)))<(IntKind.u64.wrap a.F))) else false)
def F_q4v (a:TLa) (b:Int):=(S_q4v a b).den
theorem F_q4v_ok {a:TLa} {b:Int}:FO (F_q4v a b) 115 [(TLa.d a),(vi b)] [] vb NL:=fO (s:=S_q4v a b) Tryz.func115
def S_q54_b1 (f:TLa) (d:Nat) (_:Unit):SC Int (Step Unit Int) :=
.reg 3 [] [] [.w d,.ev 0]<|
 let b:=(f.N.getD d dF)
.a 4 3 2 (@F_q3j_ok f b.B) fun i=>
.ite (!i) (
.r (.ret 5)) (
.a 6 3 2 (@F_q4v_ok f b.H) fun j=>
.ite (!j) (
.r (.ret 16)) (
.a 8 2 2 (@F_q1g_ok b.D) fun k=>
.ite (!k) (
.r (.ret 2)) (
 let e:=(i64.wrap ((d:Int)-1))
 let c:=(decide ((d:Int)>0))
 let g:=(f.N.getD e.toNat dF)
.calld [c=true] dF (@F_q2n_ok g.B g.H b.B b.H) fun l h =>
.guard [AllP [c=true]->((0:Int)<=e),AllP [c=true]->(e.toNat<f.N.length)]<|
.reg 10 [] [(21,hc h [] true)] [.ev 0,.ev 1,.ev 0,.ev 1,.clg 2 [c=true] h [] 2 true]<|
.ite (bif c then (!l) else false) (
.r (.ret 8)) (
.r (.cont ())))))
def S_q54 (a:TLa):SC Int Int :=
.range (a.N.length:Int) a.N.length rfl (.slot 6) 8 [1,6,7] (fun (_:Unit)=>[]) (fun _=>[]) () (S_q54_b1 a) (fun _ => 
.r 0) id
def V_q4z (x:(List Int)):AV:=.d (eL (DV.i .i64) x)
def L_q4z (_:(List Int)):List Ob:=[.dead]
def F_q4z (a:List Int):Option (List Int):=guardP (a.length<4611686018427387904) (some (Lib.compact a))
theorem F_q4z_ok {a:List Int} (r:(List Int)) (h:F_q4z a=some r):CallOk Tryz.prog 57 [(AV.ref 0 a.length 0 a.length)] [(eS 1 (DV.i .i64) a)] (V_q4z r) (L_q4z r):=by
 unfold F_q4z at h
 obtain⟨hl,h⟩:=z1l h
 obtain rfl:=yu h
 exact zaq (fun blk off cap zs w=>Any.slices_Compact_int Tryz.laysNm220 blk off cap zs w) (fun p cap w=>Any.slices_Compact_int_empty Tryz.laysNm220 p cap w) hl
abbrev R_q2g:=(List Int)
def S_q2g_b1 (j:TLa) (g:Nat) (a:(List Int)):SC R_q2g (Step ((List Int)) R_q2g) :=
.reg 6 [] [(2,{ obs:=[(2,(TAm.b (⟨0,0,[]⟩:TAm)))] })] [.w g,.ev 0,.pf cz2]<|
.guard [(a.length+1) * (2 * 8)<=2 ^ 48]<|
 let f:=([(j.A.getD g dF).L]:List Int)
.reg 7 [] [(3,hv (vl f)),(4,{ h:=.obj,cast:=some (AV.ref 1 ((a++f).length) 0 ((a++f).length)),obs:=[(1,(eS 1 (DV.i .i64) (a++f)))] })] [.pf (z5 (DV.i .i64) f),.e a.length,.e a.length,.pf (p:=∀ k,k<1->(AV.d ((DV.i .i64) (f.getD k dF))).wd=1) (fun _ _=>rfl),.ev 0,.pf (zf (o:=1) (l:=a) (x:=f)),.pf (ze (sz:=1) (e:=(DV.i .i64)) (l:=a) (x:=f))]<|
.c (a++f)
def S_q2g (c:TLa):SC R_q2g R_q2g :=
.a 1 1 1 (@F_q16_ok c) fun e=>
.ite (e != 0) (
.ret [.pf cz1] ([])) (
.reg 4 [] [] []<|
.bor 1 (fun j=>AV.d ((DV.i .i64) (([]:List Int).getD j dF))) [3]<|
.range (c.A.length:Int) c.A.length rfl (.slot 10) 12 [10,11] (fun (b:(List Int))=>[(3,(AV.ref 1 b.length 0 b.length))]) (fun b=>[(1,(eS 1 (DV.i .i64) b))]) ([]:List Int) (S_q2g_b1 c) (fun b => 
.call (@F_q4z_ok b) fun f g=>
.k 9 1 g [1] 2 false<|
.r f) id)
def F_q2g (a:TLa):=(S_q2g a).den
theorem F_q2g_ok {a:TLa}:FO (F_q2g a) 14 [(TLa.d a)] [] vl NL:=fO (s:=S_q2g a) Tryz.func14
def S_q1z_b1 (c:TLa) (d:Y8) (e:Int) (b:Nat) (_:Unit):SC Int (Step Unit Int) :=
.reg 3 [] [] [.w b,.ev 0]<|
 let a:=(c.N.getD b dF)
.ite (bif (a.B==d) then (a.H==e) else false) (
.r (.ret a.D)) (
.r (.cont ()))
def S_q1z (a:TLa) (b:Y8) (c:Int):SC Int Int :=
.range (a.N.length:Int) a.N.length rfl (.slot 10) 12 [1,2,10,11] (fun (_:Unit)=>[]) (fun _=>[]) () (S_q1z_b1 a b c) (fun _ => 
.r 0) id
def F_q1z (a:TLa) (b:Y8) (c:Int):=(S_q1z a b c).den
theorem F_q1z_ok {a:TLa} {b:Y8} {c:Int}:FO (F_q1z a b c) 18 [(TLa.d a),(AV.d (DV.str b)),(vi c)] [] vi NL:=fO (s:=S_q1z a b c) Tryz.func18
def S_q2h_b1 (c:(List Int)) (b:(List Int)) (a:Nat) (_:Unit):SC Bool (Step Unit Bool) :=
.guard [a<b.length]<|
.reg 6 [] [] [.w a,.ev 1,.w a,.ev 0]<|
.ite ((c.getD a dF) != (b.getD a dF)) (
.r (.ret false)) (
.r (.cont ()))
def S_q2h (a:(List Int)) (b:(List Int)):SC Bool Bool :=
.ite ((a.length:Int) != (b.length:Int)) (
.r false) (
.range (a.length:Int) a.length rfl (.slot 0) 13 [0,1,12] (fun (_:Unit)=>[]) (fun _=>[]) () (S_q2h_b1 a b) (fun _ => 
.r true) id)
def F_q2h (a:(List Int)) (b:(List Int)):=(S_q2h a b).den
theorem F_q2h_ok {a:(List Int)} {b:(List Int)}:FO (F_q2h a b) 33 [(vl a),(vl b)] [] vb NL:=fO (s:=S_q2h a b) Tryz.func33
end
end Go.Proofs.YtgfgnhpecnmlpaaGreatDoor
