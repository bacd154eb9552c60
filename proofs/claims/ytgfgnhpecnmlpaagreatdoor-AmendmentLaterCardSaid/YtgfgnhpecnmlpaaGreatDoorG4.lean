/- A part of the proof: what the functions compute, and that their calls return it. No condition. -/
import Derived.Test.YtgfgnhpecnmlpaaGreatDoorG3
/- What the functions compute, and that their calls return it. No condition. -/
namespace Go.Proofs.YtgfgnhpecnmlpaaGreatDoor
open Go Go.TA
open Go.IntKind (i64)
noncomputable section
set_option maxRecDepth 100000
set_option maxHeartbeats 2000000
def S_q1y_b1 (a0_0:Int) (a0_1:Int) (a0_2:(List THe)) (a0_3:(List TEa)) (a0_4:(List TCo)) (a0_5:(List TRu)) (p:(List TCh)) (q:(List TLi)) (s:(List TBo)) (t:(List TBo)) (u:(List TAm)) (f:Nat) (_:Unit):SC Int (Step Unit Int) :=
.reg 3 [] [] [.w f,.ev 0]<|
 let b:=(p.getD f dF)
.ite (cO (decide (b.C<1)) (decide (b.C>3))) (
.r (.ret 1)) (
.call (@F_qy_ok a0_0 a0_1 a0_2 a0_3 a0_4 a0_5 b.B q s t u) fun h m=>
.calld [(b.C==1)=true,(!h)=false] dF (@F_qp_ok a0_0 a0_1 a0_2 a0_3 a0_4 a0_5 b.B q s t u) fun v n =>
.reg 7 [] [(3,hc m [0,1,2,3] true),(11,hc n [0,1,2,3] true)] [.cl 2 m [0,1,2,3] 6 true,.clg 0 [(b.C==1)=true,(!h)=false] n [0,1,2,3] 6 true]<|
.ite (cO (!h) (bif (b.C==1) then (!v) else false)) (
.r (.ret 5)) (
.call (@F_q2c_ok a0_0 a0_1 a0_2 a0_3 a0_4 a0_5 b.J q s t u) fun x y=>
.k 9 3 y [0,1,2,3] 6 true<|
.ite (bif (!x) then (cO (b.C==1) (b.J != (-1))) else false) (
.r (.ret 16)) (
.a 11 2 6 (@F_qi_ok b.M) fun z=>
.ite (bif (!z) then (cO (b.C != 2) (b.M != (-1))) else false) (
.r (.ret 2)) (
 let i:=(i64.wrap ((f:Int)-1))
 let g:=(p.getD i.toNat dF)
 let c:=(decide ((f:Int)>0))
 let d:=(decide (g.C>b.C))
 let e:=(g.C==b.C)
.calld [e=true,d=false,c=true] dF (@F_q17_ok g.B g.J b.B b.J) fun A o =>
 let j:=(i.toNat<p.length)
 let l:=((0:Int)<=i)
.guard [AllP [c=true]->l,AllP [c=true]->j,AllP [d=false,c=true]->l,AllP [d=false,c=true]->j,AllP [e=true,d=false,c=true]->l,AllP [e=true,d=false,c=true]->j]<|
.reg 13 [] [(39,hc o [] true)] [.ev 0,.ev 1,.ev 2,.ev 3,.ev 4,.ev 5,.ev 4,.ev 5,.clg 6 [e=true,d=false,c=true] o [] 6 true]<|
.ite (bif c then (cO d (bif e then (!A) else false)) else false) (
.r (.ret 8)) (
.r (.cont ()))))))
def S_q1y (a0_0:Int) (a0_1:Int) (a0_2:(List THe)) (a0_3:(List TEa)) (a0_4:(List TCo)) (a0_5:(List TRu)) (a:(List TCh)) (b:(List TLi)) (c:(List TBo)) (d:(List TBo)) (e:(List TAm)):SC Int Int :=
.range (a.length:Int) a.length rfl (.slot 1) 10 [1,2,8,9] (fun (_:Unit)=>[]) (fun _=>[]) () (S_q1y_b1 a0_0 a0_1 a0_2 a0_3 a0_4 a0_5 a b c d e) (fun _ => 
.r 0) id
def F_q1y (a0_0:Int) (a0_1:Int) (a0_2:(List THe)) (a0_3:(List TEa)) (a0_4:(List TCo)) (a0_5:(List TRu)) (a:(List TCh)) (b:(List TLi)) (c:(List TBo)) (d:(List TBo)) (e:(List TAm)):=(S_q1y a0_0 a0_1 a0_2 a0_3 a0_4 a0_5 a b c d e).den
theorem F_q1y_ok {a0_0:Int} {a0_1:Int} {a0_2:(List THe)} {a0_3:(List TEa)} {a0_4:(List TCo)} {a0_5:(List TRu)} {g:(List TCh)} {a:(List TLi)} {b:(List TBo)} {c:(List TBo)} {f:(List TAm)}:FO (F_q1y a0_0 a0_1 a0_2 a0_3 a0_4 a0_5 g a b c f) 119 [(AV.agg [(vi a0_0),(vi a0_1),(AV.d (eL THe.e a0_2)),(AV.ref 0 a.length 0 a.length),(AV.ref 1 b.length 0 b.length),(AV.ref 2 c.length 0 c.length),(AV.d (eL TEa.e a0_3)),(AV.d (eL TCo.e a0_4)),(AV.d (eL TRu.e a0_5)),(AV.ref 3 f.length 0 f.length)]),(AV.d (eL TCh.e g))] [(eS 3 TLi.e a),(eS 3 TBo.e b),(eS 3 TBo.e c),(eS 3 TAm.e f)] vi (fun _=>[(eS 3 TLi.e a),(eS 3 TBo.e b),(eS 3 TBo.e c),(eS 3 TAm.e f)]):=fO (s:=S_q1y a0_0 a0_1 a0_2 a0_3 a0_4 a0_5 g a b c f) Tryz.func119
def S_q1d_b1 (a0_0:Int) (a0_1:Int) (a0_2:(List THe)) (a0_3:(List TEa)) (a0_4:(List TCo)) (a0_5:(List TRu)) (t:(List TLi)) (u:(List TBo)) (v:(List TBo)) (i:(List TAm)) (h:Nat) (_:Unit):SC Int (Step Unit Int) :=
.guard [(0+h)<i.length]<|
.reg 3 [] [(3,{ obs:=[(5,(TAm.b (⟨0,0,[]⟩:TAm)))] })] [.e i.length,.w h,.ev 1,.e i.length,.ev 0,.pf cz2]<|
 let d:=(i.getD (0+h) dF)
.ite (cO (cO (cO (decide (d.K<0)) (decide (d.K>35990))) (decide (d.L<1))) (decide (d.L>1000000))) (
.r (.ret 2)) (
 let j:=(i64.wrap ((h:Int)-1))
 let l:=(i.getD (0+j.toNat) dF)
 let c:=(decide (l.K>d.K))
 let g:=(l.K==d.K)
 let a:=(decide ((h:Int)>0))
 let m:=((0+j.toNat)<i.length)
 let n:=(j.toNat<i.length)
 let o:=((0:Int)<=j)
.guard [AllP [a=true]->o,AllP [a=true]->n,AllP [a=true]->m,AllP [c=false,a=true]->o,AllP [c=false,a=true]->n,AllP [c=false,a=true]->m,AllP [g=true,c=false,a=true]->o,AllP [g=true,c=false,a=true]->n,AllP [g=true,c=false,a=true]->m]<|
 let f:=(i.length=i.length)
.reg 6 [] [] [.pf (p:=AllP [a=true]->f) (fun _=>rfl),.ev 0,.ev 1,.pf (p:=AllP [a=true]->f) (fun _=>rfl),.pf (p:=AllP [a=true]->f) (fun _=>rfl),.ev 2,.pf (p:=AllP [c=false,a=true]->f) (fun _=>rfl),.ev 3,.ev 4,.pf (p:=AllP [c=false,a=true]->f) (fun _=>rfl),.pf (p:=AllP [c=false,a=true]->f) (fun _=>rfl),.ev 5,.pf (p:=AllP [g=true,c=false,a=true]->f) (fun _=>rfl),.ev 6,.ev 7,.pf (p:=AllP [g=true,c=false,a=true]->f) (fun _=>rfl),.pf (p:=AllP [g=true,c=false,a=true]->f) (fun _=>rfl),.ev 8]<|
.ite (bif a then (cO c (bif g then (decide (l.L>=d.L)) else false)) else false) (
.r (.ret 8)) (
.ite ((d.D.length:Int)==0) (
.r (.ret 1)) (
.call (@F_q1y_ok a0_0 a0_1 a0_2 a0_3 a0_4 a0_5 d.D t u v i) fun q s=>
.k 10 3 s [0,1,2,3] 6 true<|
.ite (q != 0) (
.r (.ret q)) (
.r (.cont ())))))
def S_q1d (a0_0:Int) (a0_1:Int) (a0_2:(List THe)) (a0_3:(List TEa)) (a0_4:(List TCo)) (a0_5:(List TRu)) (b:(List TLi)) (c:(List TBo)) (d:(List TBo)) (a:(List TAm)):SC Int Int :=
.guard [a.length<2 ^ 63]<|
.range (a.length:Int) a.length rfl (.why (.ev 0)) 9 [1,7,8] (fun (_:Unit)=>[]) (fun _=>[]) () (S_q1d_b1 a0_0 a0_1 a0_2 a0_3 a0_4 a0_5 b c d a) (fun _ => 
.r 0) id
def F_q1d (a0_0:Int) (a0_1:Int) (a0_2:(List THe)) (a0_3:(List TEa)) (a0_4:(List TCo)) (a0_5:(List TRu)) (a:(List TLi)) (b:(List TBo)) (c:(List TBo)) (d:(List TAm)):=(S_q1d a0_0 a0_1 a0_2 a0_3 a0_4 a0_5 a b c d).den
theorem F_q1d_ok {a0_0:Int} {a0_1:Int} {a0_2:(List THe)} {a0_3:(List TEa)} {a0_4:(List TCo)} {a0_5:(List TRu)} {a:(List TLi)} {b:(List TBo)} {c:(List TBo)} {f:(List TAm)}:FO (F_q1d a0_0 a0_1 a0_2 a0_3 a0_4 a0_5 a b c f) 56 [(AV.agg [(vi a0_0),(vi a0_1),(AV.d (eL THe.e a0_2)),(AV.ref 0 a.length 0 a.length),(AV.ref 1 b.length 0 b.length),(AV.ref 2 c.length 0 c.length),(AV.d (eL TEa.e a0_3)),(AV.d (eL TCo.e a0_4)),(AV.d (eL TRu.e a0_5)),(AV.ref 3 f.length 0 f.length)])] [(eS 3 TLi.e a),(eS 3 TBo.e b),(eS 3 TBo.e c),(eS 3 TAm.e f)] vi (fun _=>[(eS 3 TLi.e a),(eS 3 TBo.e b),(eS 3 TBo.e c),(eS 3 TAm.e f)]):=fO (s:=S_q1d a0_0 a0_1 a0_2 a0_3 a0_4 a0_5 a b c f) Tryz.func56
def S_q1z_b1 (c:Int) (d:Int) (e:Int) (f:Int) (g:Int) (h:Int) (i:Int) (j:Int) (a:Nat) (_:Unit):SC Int (Step Unit Int) :=
.reg 8 [] [] [.w a,.ev 0]<|
 let b:=(([c,d,e,f,g,h,i,j]:List Int).getD a dF)
.ite (b != 0) (
.r (.ret b)) (
.r (.cont ()))
def S_q1z (a0_0:Int) (a0_1:Int) (a0_2:(List THe)) (a0_3:(List TEa)) (a0_4:(List TCo)) (a0_5:(List TRu)) (b:(List TLi)) (c:(List TBo)) (d:(List TBo)) (e:(List TAm)):SC Int Int :=
.ite (cO (cO (cO (cO (decide (a0_0<0)) (decide (a0_0>99))) (decide (a0_1<1))) (decide (a0_1>4))) (decide ((i64.wrap ((i64.wrap (a0_0+a0_1))-1))>99))) (
.r 2) (
.a 3 2 5 (@F_q2r_ok a0_2) fun f=>
.ite (f != 0) (
.r f) (
.call (@F_q16_ok a0_0 a0_1 a0_2 a0_3 a0_4 a0_5 b c d e) fun g h=>
.call (@F_q18_ok a0_0 a0_1 a0_2 a0_3 a0_4 a0_5 b c d e) fun j k=>
.call (@F_q19_ok a0_0 a0_1 a0_2 a0_3 a0_4 a0_5 b c d e) fun l m=>
.call (@F_q1a_ok a0_0 a0_1 a0_2 a0_3 a0_4 a0_5 b c d e) fun n o=>
.call (@F_q5_ok a0_0 a0_1 a0_2 a0_3 a0_4 a0_5 b c d e) fun q s=>
.call (@F_q1b_ok a0_0 a0_1 a0_2 a0_3 a0_4 a0_5 b c d e) fun t u=>
.call (@F_q1c_ok a0_0 a0_1 a0_2 a0_3 a0_4 a0_5 b c d e) fun v w=>
.call (@F_q1d_ok a0_0 a0_1 a0_2 a0_3 a0_4 a0_5 b c d e) fun x y=>
 let z:=([g,j,l,n,q,t,v,x]:List Int)
.reg 6 [] [(1,hc h [0,1,2,3] true),(3,hc k [0,1,2,3] true),(7,hc m [0,1,2,3] true),(11,hc o [0,1,2,3] true),(13,hc s [0,1,2,3] true),(15,hc u [0,1,2,3] true),(17,hc w [0,1,2,3] true),(19,hc y [0,1,2,3] true),(20,hv (vl z))] [.cl 7 h [0,1,2,3] 5 true,.cl 6 k [0,1,2,3] 5 true,.cl 5 m [0,1,2,3] 5 true,.cl 4 o [0,1,2,3] 5 true,.cl 3 s [0,1,2,3] 5 true,.cl 2 u [0,1,2,3] 5 true,.cl 1 w [0,1,2,3] 5 true,.cl 0 y [0,1,2,3] 5 true,.pf (z5 (DV.i .i64) z)]<|
.range 8 8 rfl (.why (.pf (p:=8<2 ^ 63) dk)) 61 [59,60] (fun (_:Unit)=>[]) (fun _=>[]) () (S_q1z_b1 g j l n q t v x) (fun _ => 
.r 0) id))
def F_q1z (a0_0:Int) (a0_1:Int) (a0_2:(List THe)) (a0_3:(List TEa)) (a0_4:(List TCo)) (a0_5:(List TRu)) (a:(List TLi)) (b:(List TBo)) (c:(List TBo)) (d:(List TAm)):=(S_q1z a0_0 a0_1 a0_2 a0_3 a0_4 a0_5 a b c d).den
theorem F_q1z_ok {a0_0:Int} {a0_1:Int} {a0_2:(List THe)} {a0_3:(List TEa)} {a0_4:(List TCo)} {a0_5:(List TRu)} {a:(List TLi)} {b:(List TBo)} {c:(List TBo)} {f:(List TAm)}:FO (F_q1z a0_0 a0_1 a0_2 a0_3 a0_4 a0_5 a b c f) 13 [(AV.agg [(vi a0_0),(vi a0_1),(AV.d (eL THe.e a0_2)),(AV.ref 0 a.length 0 a.length),(AV.ref 1 b.length 0 b.length),(AV.ref 2 c.length 0 c.length),(AV.d (eL TEa.e a0_3)),(AV.d (eL TCo.e a0_4)),(AV.d (eL TRu.e a0_5)),(AV.ref 3 f.length 0 f.length)])] [(eS 3 TLi.e a),(eS 3 TBo.e b),(eS 3 TBo.e c),(eS 3 TAm.e f)] vi (fun _=>[(eS 3 TLi.e a),(eS 3 TBo.e b),(eS 3 TBo.e c),(eS 3 TAm.e f)]):=fO (s:=S_q1z a0_0 a0_1 a0_2 a0_3 a0_4 a0_5 a b c f) Tryz.func13
theorem cz3:OLe (bx (DV.agg [(DV.i .i64 0),(DV.i .i64 0),Z0,Z0,Z0,Z0,Z0,Z0,Z0,Z0])) (TLa.b (⟨0,0,[],[],[],[],[],[],[],[]⟩:TLa)):=z77 (DLe.agg (DLeL.cons (DLe.refl _) (DLeL.cons (DLe.refl _) (DLeL.cons DLe.sl0 (DLeL.cons DLe.sl0 (DLeL.cons DLe.sl0 (DLeL.cons DLe.sl0 (DLeL.cons DLe.sl0 (DLeL.cons DLe.sl0 (DLeL.cons DLe.sl0 (DLeL.cons DLe.sl0 DLeL.nil)))))))))))
abbrev R_q2:=TLa×TTape
def S_q2_b1 (j:R_q3) (m:Nat) (a:TTape×Int×Int×(List THe)×(List TLi)×Int):SC R_q2 (Step (TTape×Int×Int×(List THe)×(List TLi)×Int) R_q2) :=
.ite (decide (a.2.2.2.2.2<(i64.wrap (a.2.1+a.2.2.1)))) (
.call (@F_q0_ok 4 a.1) fun f n=>
.k 8 1 n [0] 10 false<|
 let g:=(i64.wrap (a.2.2.2.2.2+1))
.ite (decide (f.1>0)) (
.call (@F_q2b_ok f.2) fun h i=>
.guard [(a.2.2.2.2.1.length+1) * (2 * 32)<=2 ^ 48]<|
 let b:=([(⟨(j.getD m dF),a.2.2.2.2.2,h.1⟩:TLi)]:List TLi)
 let c:=(a.2.2.2.2.1++b)
.reg 9 [5,8,10] [(5,hc i [0] false),(7,hv (AV.d (eL TLi.e b))),(8,{ cast:=some (AV.ref 3 c.length 0 c.length),obs:=[(3,(eS 3 TLi.e c))] })] [.cl 1 i [0] 10 false,.pf (z5 TLi.e b),.e a.2.2.2.2.1.length,.e a.2.2.2.2.1.length,.pf (p:=∀ k,k<1->(TLi.d (b.getD k dF)).wd=3) (fun _ _=>rfl),.ev 0,.pf (zi (o:=3) (l:=a.2.2.2.2.1) (x:=b)),.pf (zh (sz:=3) (e:=TLi.e) (l:=a.2.2.2.2.1) (x:=b))]<|
.r (.cont (h.2,a.2.1,a.2.2.1,a.2.2.2.1,c,g))) (
.r (.cont (f.2,a.2.1,a.2.2.1,a.2.2.2.1,a.2.2.2.2.1,g)))) (
.r (.brk (a.1,a.2.1,a.2.2.1,a.2.2.2.1,a.2.2.2.2.1,a.2.2.2.2.2)))
def S_q2_b2 (g:R_q3) (f:Nat) (c:TTape×Int×Int×(List THe)×(List TLi)):SC R_q2 (Step (TTape×Int×Int×(List THe)×(List TLi)) R_q2) :=
.reg 4 [] [] [.w f,.ev 0]<|
.iter [0,2,3,5,24,25,26] (fun (a:TTape×Int×Int×(List THe)×(List TLi)×Int)=>[(6,(vi a.2.2.2.2.2))]) (fun a=>[(0,(TTape.b a.1)),(2,(Ob.box (AV.agg [(vi a.2.1),(vi a.2.2.1),(AV.d (eL THe.e a.2.2.2.1)),(AV.ref 3 a.2.2.2.2.1.length 0 a.2.2.2.2.1.length),(AV.ref 7 0 0 0),(AV.ref 5 0 0 0),(AV.ref 9 0 0 0),(AV.ref 6 0 0 0),(AV.ref 8 0 0 0),(AV.ref 4 0 0 0)]))),(3,(eS 3 TLi.e a.2.2.2.2.1))]) (c.1,c.2.1,c.2.2.1,c.2.2.2.1,c.2.2.2.2,c.2.1) (S_q2_b1 g f) (fun a =>
.r (.cont (a.1,a.2.1,a.2.2.1,a.2.2.2.1,a.2.2.2.2.1))) .ret
def S_q2_b3 (z:TTape×Int×Int×(List THe)×(List TLi)) (H:Nat) (D:R_qv) (A:Nat) (a:TTape×Int×Int×(List THe)×(List TBo)×(List TBo)):SC R_q2 (Step (TTape×Int×Int×(List THe)×(List TBo)×(List TBo)) R_q2) :=
.reg 16 [] [] [.w A,.ev 0]<|
.call (@F_q0_ok 6 a.1) fun h E=>
.k 17 1 E [0] 11 false<|
 let F:=(z.2.2.2.1.getD H dF)
.cut none [0,2,3,8,10,56,57,58,63,64,65] (fun (_:TTape×Int×Int×(List THe)×(List TBo))=>[]) (fun c=>[(0,(TTape.b c.1)),(2,(Ob.box (AV.agg [(vi c.2.1),(vi c.2.2.1),(AV.d (eL THe.e c.2.2.2.1)),(AV.ref 3 z.2.2.2.2.length 0 z.2.2.2.2.length),(AV.ref 7 c.2.2.2.2.length 0 c.2.2.2.2.length),(AV.ref 5 a.2.2.2.2.1.length 0 a.2.2.2.2.1.length),(AV.ref 9 0 0 0),(AV.ref 6 0 0 0),(AV.ref 8 0 0 0),(AV.ref 4 0 0 0)]))),(7,(eS 3 TBo.e c.2.2.2.2))]) (
.ite (h.1==5) (
.call (@F_q2b_ok h.2) fun q s=>
 let C:=([q.1,5000,100000]:List Int)
.call (@F_qb_ok C q.2) fun t u=>
.guard [(a.2.2.2.2.2.length+1) * (2 * 32)<=2 ^ 48]<|
 let f:=([(⟨F.B,(D.getD A dF),t.1⟩:TBo)]:List TBo)
 let m:=(a.2.2.2.2.2++f)
.reg 18 [7,9,12,14] [(7,hc s [0] false),(8,hv (vl C)),(9,hc u [0] false),(11,hv (AV.d (eL TBo.e f))),(12,{ cast:=some (AV.ref 7 m.length 0 m.length),obs:=[(7,(eS 3 TBo.e m))] })] [.cl 2 s [0] 11 false,.pf (z5 (DV.i .i64) C),.cl 1 u [0] 11 false,.pf (z5 TBo.e f),.e a.2.2.2.2.2.length,.e a.2.2.2.2.2.length,.pf (p:=∀ k,k<1->(TBo.d (f.getD k dF)).wd=3) (fun _ _=>rfl),.ev 0,.pf (zi (o:=7) (l:=a.2.2.2.2.2) (x:=f)),.pf (zh (sz:=3) (e:=TBo.e) (l:=a.2.2.2.2.2) (x:=f))]<|
.r (.next (t.2,a.2.1,a.2.2.1,a.2.2.2.1,m))) (
.r (.next (h.2,a.2.1,a.2.2.1,a.2.2.2.1,a.2.2.2.2.2)))) fun c=>
.call (@F_q0_ok 8 c.1) fun j G=>
.k 19 1 G [0] 11 false<|
.ite (j.1==7) (
.call (@F_q0_ok 300 j.2) fun v y=>
.guard [(a.2.2.2.2.1.length+1) * (2 * 32)<=2 ^ 48]<|
 let g:=([(⟨F.B,(D.getD A dF),v.1⟩:TBo)]:List TBo)
 let n:=(a.2.2.2.2.1++g)
.reg 20 [6,9,11] [(6,hc y [0] false),(8,hv (AV.d (eL TBo.e g))),(9,{ cast:=some (AV.ref 5 n.length 0 n.length),obs:=[(5,(eS 3 TBo.e n))] })] [.cl 1 y [0] 11 false,.pf (z5 TBo.e g),.e a.2.2.2.2.1.length,.e a.2.2.2.2.1.length,.pf (p:=∀ k,k<1->(TBo.d (g.getD k dF)).wd=3) (fun _ _=>rfl),.ev 0,.pf (zi (o:=5) (l:=a.2.2.2.2.1) (x:=g)),.pf (zh (sz:=3) (e:=TBo.e) (l:=a.2.2.2.2.1) (x:=g))]<|
.r (.cont (v.2,c.2.1,c.2.2.1,c.2.2.2.1,n,c.2.2.2.2))) (
.r (.cont (j.2,c.2.1,c.2.2.1,c.2.2.2.1,a.2.2.2.2.1,c.2.2.2.2)))
def S_q2_b4 (f:TTape×Int×Int×(List THe)×(List TLi)) (h:Nat) (c:TTape×Int×Int×(List THe)×(List TBo)×(List TBo)):SC R_q2 (Step (TTape×Int×Int×(List THe)×(List TBo)×(List TBo)) R_q2) :=
.reg 13 [] [] [.w h,.ev 0]<|
.call (@F_qv_ok c.2.1 c.2.2.1 c.2.2.2.1 f.2.2.2.2 c.2.2.2.2.2 c.2.2.2.2.1 ([]:List TEa) ([]:List TCo) ([]:List TRu) ([]:List TAm)) fun g i=>
.k 14 1 i [3,7,5,9,6,8,4] 11 true<|
.range (g.length:Int) g.length rfl (.slot 63) 65 [0,2,3,8,56,57,58,63,64] (fun (_:TTape×Int×Int×(List THe)×(List TBo)×(List TBo))=>[]) (fun a=>[(0,(TTape.b a.1)),(2,(Ob.box (AV.agg [(vi a.2.1),(vi a.2.2.1),(AV.d (eL THe.e a.2.2.2.1)),(AV.ref 3 f.2.2.2.2.length 0 f.2.2.2.2.length),(AV.ref 7 a.2.2.2.2.2.length 0 a.2.2.2.2.2.length),(AV.ref 5 a.2.2.2.2.1.length 0 a.2.2.2.2.1.length),(AV.ref 9 0 0 0),(AV.ref 6 0 0 0),(AV.ref 8 0 0 0),(AV.ref 4 0 0 0)]))),(5,(eS 3 TBo.e a.2.2.2.2.1)),(7,(eS 3 TBo.e a.2.2.2.2.2))]) (c.1,c.2.1,c.2.2.1,c.2.2.2.1,c.2.2.2.2.1,c.2.2.2.2.2) (S_q2_b3 f h g) (fun a => 
.r (.cont (a.1,a.2.1,a.2.2.1,a.2.2.2.1,a.2.2.2.2.1,a.2.2.2.2.2))) .ret
def S_q2_b5 (s:TTape×Int×Int×(List THe)×(List TLi)) (f:TTape×Int×Int×(List THe)×(List TBo)×(List TBo)) (a:TTape×Int×Int×(List THe)×(List TEa)×(List TCo)×(List TRu)×(List TAm)×Int×Int×Int):SC R_q2 (Step (TTape×Int×Int×(List THe)×(List TEa)×(List TCo)×(List TRu)×(List TAm)×Int×Int×Int) R_q2) :=
.ite (decide (a.2.2.2.2.2.2.2.2.2.2>0)) (
.call (@F_qb_ok ([0,1,100,400]:List Int) a.1) fun g h=>
.reg 28 [] [(2,hv (vl ([0,1,100,400]:List Int))),(3,hc h [0] false)] [.pf (z5 (DV.i .i64) ([0,1,100,400]:List Int)),.cl 0 h [0] 10 false]<|
.call (@F_qx_ok a.2.1 a.2.2.1 a.2.2.2.1 a.2.2.2.2.1 a.2.2.2.2.2.1 a.2.2.2.2.2.2.1 g.2 s.2.2.2.2 f.2.2.2.2.2 f.2.2.2.2.1 a.2.2.2.2.2.2.2.1) fun j m=>
.guard [(a.2.2.2.2.2.2.2.1.length+1) * (2 * 40)<=2 ^ 48]<|
 let n:=(i64.wrap (a.2.2.2.2.2.2.2.2.2.1+g.1))
 let q:=(i64.wrap (a.2.2.2.2.2.2.2.2.1+1))
 let b:=([(⟨n,q,j.1⟩:TAm)]:List TAm)
 let c:=(a.2.2.2.2.2.2.2.1++b)
.reg 30 [6,9,11] [(6,hc m [0,3,7,5,4] false),(8,hv (AV.d (eL TAm.e b))),(9,{ cast:=some (AV.ref 4 c.length 0 c.length),obs:=[(4,(eS 3 TAm.e c))] })] [.cl 1 m [0,3,7,5,4] 10 false,.pf (z5 TAm.e b),.e a.2.2.2.2.2.2.2.1.length,.e a.2.2.2.2.2.2.2.1.length,.pf (p:=∀ k,k<1->(TAm.d (b.getD k dF)).wd=3) (fun _ _=>rfl),.ev 0,.pf (zi (o:=4) (l:=a.2.2.2.2.2.2.2.1) (x:=b)),.pf (zh (sz:=3) (e:=TAm.e) (l:=a.2.2.2.2.2.2.2.1) (x:=b))]<|
.r (.cont (j.2,a.2.1,a.2.2.1,a.2.2.2.1,a.2.2.2.2.1,a.2.2.2.2.2.1,a.2.2.2.2.2.2.1,c,q,n,(i64.wrap (a.2.2.2.2.2.2.2.2.2.2-1))))) (
.r (.brk (a.1,a.2.1,a.2.2.1,a.2.2.2.1,a.2.2.2.2.1,a.2.2.2.2.2.1,a.2.2.2.2.2.2.1,a.2.2.2.2.2.2.2.1,a.2.2.2.2.2.2.2.2.1,a.2.2.2.2.2.2.2.2.2.1,a.2.2.2.2.2.2.2.2.2.2)))
def S_q2 (p0:TTape):SC R_q2 R_q2 :=
 let C:=(TLa.b (⟨0,0,[],[],[],[],[],[],[],[]⟩:TLa))
.reg 0 [] [(0,{ obs:=[(1,C)] })] [.pf cz3]<|
.call (@F_qb_ok ([0,3,12,95]:List Int) p0) fun n K=>
.call (@F_q2z_ok 1 3 n.2) fun o L=>
.call (@F_q4_ok 6 o.2) fun D M=>
.reg 1 [] [(1,hv (vl ([0,3,12,95]:List Int))),(2,hc K [0] false),(4,hc L [0] false),(6,hc M [0] false),(7,{ h:=.obj }),(8,{ h:=.obj })] [.pf (z5 (DV.i .i64) ([0,3,12,95]:List Int)),.cl 2 K [0] 2 false,.cl 1 L [0] 2 false,.cl 0 M [0] 2 false]<|
 let l:=(AV.full 0 fun _=>DV.b false)
 let q:=[(0,(vp 0)),(2,(vp 1)),(3,(vp 2))]
 let s:=(AV.d (eL THe.e D.1))
 let w:=(eS 3 TLi.e ([]:List TLi))
 let t:=(TTape.b D.2)
 let x:=(AV.ref 3 0 0 0)
 let S:=[t,C,(Ob.box (AV.agg [(vi n.1),(vi o.1),s,x,l,l,l,l,l,l])),w]
.sh (A:=True) (.pf trivial) q q [t,C,(Ob.box (AV.agg [(vi n.1),(vi o.1),s,l,l,l,l,l,l,l]))] S (fun _=>(z1h (sz:=3) (f:=fun j=>AV.d (TLi.e (([]:List TLi).getD j dF))) (.keep _ _ _ _ (y8 rfl) (.keep _ _ _ _ (y8 rfl) (.box _ _ _ _ _ (y8 rfl) (TrV.agg (TrL.cons (TrV.keep _) (TrL.cons (TrV.keep _) (TrL.cons (TrV.keep _) (TrL.cons TrV.born (TrL.cons (TrV.keep _) (TrL.cons (TrV.keep _) (TrL.cons (TrV.keep _) (TrL.cons (TrV.keep _) (TrL.cons (TrV.keep _) (TrL.cons (TrV.keep _) TrL.nil))))))))))) (.nil _)))))) (zj (k:=0) rfl (TrS.keep _) (zj (k:=1) rfl (TrS.keep _) (zj (k:=2) rfl (TrS.keep _) z1l)))<|
 let y:=(eS 3 TAm.e ([]:List TAm))
 let u:=(AV.ref 4 0 0 0)
 let T:=[t,C,(Ob.box (AV.agg [(vi n.1),(vi o.1),s,x,l,l,l,l,l,u])),w,y]
.sh (A:=True) (.pf trivial) q q S T (fun _=>(z1h (sz:=3) (f:=fun j=>AV.d (TAm.e (([]:List TAm).getD j dF))) (.keep _ _ _ _ (y8 rfl) (.keep _ _ _ _ (y8 rfl) (.box _ _ _ _ _ (y8 rfl) (TrV.agg (TrL.cons (TrV.keep _) (TrL.cons (TrV.keep _) (TrL.cons (TrV.keep _) (TrL.cons (TrV.keep _) (TrL.cons (TrV.keep _) (TrL.cons (TrV.keep _) (TrL.cons (TrV.keep _) (TrL.cons (TrV.keep _) (TrL.cons (TrV.keep _) (TrL.cons TrV.born TrL.nil))))))))))) (.keep _ _ _ _ (y8 rfl) (.nil _))))))) (zj (k:=0) rfl (TrS.keep _) (zj (k:=1) rfl (TrS.keep _) (zj (k:=2) rfl (TrS.keep _) z1l)))<|
 let E:=(eS 3 TBo.e ([]:List TBo))
 let z:=(AV.ref 5 0 0 0)
 let U:=[t,C,(Ob.box (AV.agg [(vi n.1),(vi o.1),s,x,l,z,l,l,l,u])),w,y,E]
.sh (A:=True) (.pf trivial) q q T U (fun _=>(z1h (sz:=3) (f:=fun j=>AV.d (TBo.e (([]:List TBo).getD j dF))) (.keep _ _ _ _ (y8 rfl) (.keep _ _ _ _ (y8 rfl) (.box _ _ _ _ _ (y8 rfl) (TrV.agg (TrL.cons (TrV.keep _) (TrL.cons (TrV.keep _) (TrL.cons (TrV.keep _) (TrL.cons (TrV.keep _) (TrL.cons (TrV.keep _) (TrL.cons TrV.born (TrL.cons (TrV.keep _) (TrL.cons (TrV.keep _) (TrL.cons (TrV.keep _) (TrL.cons (TrV.keep _) TrL.nil))))))))))) (.keep _ _ _ _ (y8 rfl) (.keep _ _ _ _ (y8 rfl) (.nil _)))))))) (zj (k:=0) rfl (TrS.keep _) (zj (k:=1) rfl (TrS.keep _) (zj (k:=2) rfl (TrS.keep _) z1l)))<|
 let F:=(eS 7 TCo.e ([]:List TCo))
 let B:=(AV.ref 6 0 0 0)
 let V:=[t,C,(Ob.box (AV.agg [(vi n.1),(vi o.1),s,x,l,z,l,B,l,u])),w,y,E,F]
.sh (A:=True) (.pf trivial) q q U V (fun _=>(z1h (sz:=7) (f:=fun j=>AV.d (TCo.e (([]:List TCo).getD j dF))) (.keep _ _ _ _ (y8 rfl) (.keep _ _ _ _ (y8 rfl) (.box _ _ _ _ _ (y8 rfl) (TrV.agg (TrL.cons (TrV.keep _) (TrL.cons (TrV.keep _) (TrL.cons (TrV.keep _) (TrL.cons (TrV.keep _) (TrL.cons (TrV.keep _) (TrL.cons (TrV.keep _) (TrL.cons (TrV.keep _) (TrL.cons TrV.born (TrL.cons (TrV.keep _) (TrL.cons (TrV.keep _) TrL.nil))))))))))) (.keep _ _ _ _ (y8 rfl) (.keep _ _ _ _ (y8 rfl) (.keep _ _ _ _ (y8 rfl) (.nil _))))))))) (zj (k:=0) rfl (TrS.keep _) (zj (k:=1) rfl (TrS.keep _) (zj (k:=2) rfl (TrS.keep _) z1l)))<|
 let G:=(AV.ref 7 0 0 0)
 let W:=[t,C,(Ob.box (AV.agg [(vi n.1),(vi o.1),s,x,G,z,l,B,l,u])),w,y,E,F,E]
.sh (A:=True) (.pf trivial) q q V W (fun _=>(z1h (sz:=3) (f:=fun j=>AV.d (TBo.e (([]:List TBo).getD j dF))) (.keep _ _ _ _ (y8 rfl) (.keep _ _ _ _ (y8 rfl) (.box _ _ _ _ _ (y8 rfl) (TrV.agg (TrL.cons (TrV.keep _) (TrL.cons (TrV.keep _) (TrL.cons (TrV.keep _) (TrL.cons (TrV.keep _) (TrL.cons TrV.born (TrL.cons (TrV.keep _) (TrL.cons (TrV.keep _) (TrL.cons (TrV.keep _) (TrL.cons (TrV.keep _) (TrL.cons (TrV.keep _) TrL.nil))))))))))) (.keep _ _ _ _ (y8 rfl) (.keep _ _ _ _ (y8 rfl) (.keep _ _ _ _ (y8 rfl) (.keep _ _ _ _ (y8 rfl) (.nil _)))))))))) (zj (k:=0) rfl (TrS.keep _) (zj (k:=1) rfl (TrS.keep _) (zj (k:=2) rfl (TrS.keep _) z1l)))<|
 let H:=(AV.ref 8 0 0 0)
 let N:=(eS 4 TRu.e ([]:List TRu))
 let X:=[t,C,(Ob.box (AV.agg [(vi n.1),(vi o.1),s,x,G,z,l,B,H,u])),w,y,E,F,E,N]
.sh (A:=True) (.pf trivial) q q W X (fun _=>(z1h (sz:=4) (f:=fun j=>AV.d (TRu.e (([]:List TRu).getD j dF))) (.keep _ _ _ _ (y8 rfl) (.keep _ _ _ _ (y8 rfl) (.box _ _ _ _ _ (y8 rfl) (TrV.agg (TrL.cons (TrV.keep _) (TrL.cons (TrV.keep _) (TrL.cons (TrV.keep _) (TrL.cons (TrV.keep _) (TrL.cons (TrV.keep _) (TrL.cons (TrV.keep _) (TrL.cons (TrV.keep _) (TrL.cons (TrV.keep _) (TrL.cons TrV.born (TrL.cons (TrV.keep _) TrL.nil))))))))))) (.keep _ _ _ _ (y8 rfl) (.keep _ _ _ _ (y8 rfl) (.keep _ _ _ _ (y8 rfl) (.keep _ _ _ _ (y8 rfl) (.keep _ _ _ _ (y8 rfl) (.nil _))))))))))) (zj (k:=0) rfl (TrS.keep _) (zj (k:=1) rfl (TrS.keep _) (zj (k:=2) rfl (TrS.keep _) z1l)))<|
 let I:=(AV.ref 9 0 0 0)
.sh (A:=True) (.pf trivial) q q X [t,C,(Ob.box (AV.agg [(vi n.1),(vi o.1),s,x,G,z,I,B,H,u])),w,y,E,F,E,N,(eS 3 TEa.e ([]:List TEa))] (fun _=>(z1h (sz:=3) (f:=fun j=>AV.d (TEa.e (([]:List TEa).getD j dF))) (.keep _ _ _ _ (y8 rfl) (.keep _ _ _ _ (y8 rfl) (.box _ _ _ _ _ (y8 rfl) (TrV.agg (TrL.cons (TrV.keep _) (TrL.cons (TrV.keep _) (TrL.cons (TrV.keep _) (TrL.cons (TrV.keep _) (TrL.cons (TrV.keep _) (TrL.cons (TrV.keep _) (TrL.cons TrV.born (TrL.cons (TrV.keep _) (TrL.cons (TrV.keep _) (TrL.cons (TrV.keep _) TrL.nil))))))))))) (.keep _ _ _ _ (y8 rfl) (.keep _ _ _ _ (y8 rfl) (.keep _ _ _ _ (y8 rfl) (.keep _ _ _ _ (y8 rfl) (.keep _ _ _ _ (y8 rfl) (.keep _ _ _ _ (y8 rfl) (.nil _)))))))))))) (zj (k:=0) rfl (TrS.keep _) (zj (k:=1) rfl (TrS.keep _) (zj (k:=2) rfl (TrS.keep _) z1l)))<|
.a 2 2 10 (@F_q3_ok D.1 ([])) fun R=>
.range (R.length:Int) R.length rfl (.slot 24) 26 [0,2,3,24,25] (fun (_:TTape×Int×Int×(List THe)×(List TLi))=>[]) (fun m=>[(0,(TTape.b m.1)),(2,(Ob.box (AV.agg [(vi m.2.1),(vi m.2.2.1),(AV.d (eL THe.e m.2.2.2.1)),(AV.ref 3 m.2.2.2.2.length 0 m.2.2.2.2.length),G,z,I,B,H,u]))),(3,(eS 3 TLi.e m.2.2.2.2))]) (D.2,n.1,o.1,D.1,([]:List TLi)) (S_q2_b2 R) (fun m => 
 let O:=(AV.ref 3 m.2.2.2.2.length 0 m.2.2.2.2.length)
.range (m.2.2.2.1.length:Int) m.2.2.2.1.length rfl (.slot 56) 58 [0,2,3,56,57] (fun (_:TTape×Int×Int×(List THe)×(List TBo)×(List TBo))=>[]) (fun g=>[(0,(TTape.b g.1)),(2,(Ob.box (AV.agg [(vi g.2.1),(vi g.2.2.1),(AV.d (eL THe.e g.2.2.2.1)),O,(AV.ref 7 g.2.2.2.2.2.length 0 g.2.2.2.2.2.length),(AV.ref 5 g.2.2.2.2.1.length 0 g.2.2.2.2.1.length),I,B,H,u]))),(5,(eS 3 TBo.e g.2.2.2.2.1)),(7,(eS 3 TBo.e g.2.2.2.2.2))]) (m.1,m.2.1,m.2.2.1,m.2.2.2.1,([]:List TBo),([]:List TBo)) (S_q2_b4 m) (fun g => 
.call (@F_q1_ok g.1 g.2.1 g.2.2.1 g.2.2.2.1 m.2.2.2.2 g.2.2.2.2.2 g.2.2.2.2.1 ([]:List TEa) ([]:List TCo) ([]:List TRu) ([]:List TAm)) fun v Y=>
.k 23 1 Y [0,2,3,7,5,9,6,8,4] 10 false<|
.call (@F_q0_ok 4 v.1) fun P Q=>
.reg 25 [4] [(4,hc Q [0] false)] [.cl 0 Q [0] 10 false]<|
.iter [0,2,3] (fun (c:TTape×Int×Int×(List THe)×(List TEa)×(List TCo)×(List TRu)×(List TAm)×Int×Int×Int)=>[(11,(vi c.2.2.2.2.2.2.2.2.1)),(12,(vi c.2.2.2.2.2.2.2.2.2.1)),(13,(vi c.2.2.2.2.2.2.2.2.2.2))]) (fun c=>[(0,(TTape.b c.1)),(2,(Ob.box (AV.agg [(vi c.2.1),(vi c.2.2.1),(AV.d (eL THe.e c.2.2.2.1)),O,(AV.ref 7 g.2.2.2.2.2.length 0 g.2.2.2.2.2.length),(AV.ref 5 g.2.2.2.2.1.length 0 g.2.2.2.2.1.length),(AV.d (eL TEa.e c.2.2.2.2.1)),(AV.d (eL TCo.e c.2.2.2.2.2.1)),(AV.d (eL TRu.e c.2.2.2.2.2.2.1)),(AV.ref 4 c.2.2.2.2.2.2.2.1.length 0 c.2.2.2.2.2.2.2.1.length)]))),(4,(eS 3 TAm.e c.2.2.2.2.2.2.2.1))]) (P.2,v.2.1,v.2.2.1,v.2.2.2.1,v.2.2.2.2.1,v.2.2.2.2.2.1,v.2.2.2.2.2.2,([]:List TAm),0,(i64.wrap (360 * v.2.1)),P.1) (S_q2_b5 m g) (fun c =>
.call (@F_q1z_ok c.2.1 c.2.2.1 c.2.2.2.1 c.2.2.2.2.1 c.2.2.2.2.2.1 c.2.2.2.2.2.2.1 m.2.2.2.2 g.2.2.2.2.2 g.2.2.2.2.1 c.2.2.2.2.2.2.2.1) fun Z aa=>
.k 31 1 aa [3,7,5,4] 10 true<|
.ite (Z != 0) (
 let J:=(⟨c.2.1,c.2.2.1,c.2.2.2.1,[],[],[],[],[],[],[]⟩:TLa)
.reg 32 [] [(6,hv (TLa.d J))] [.pf (p:=LeV (AV.d (DV.agg [(DV.i .i64 c.2.1),(DV.i .i64 c.2.2.1),(eL THe.e c.2.2.2.1),Z0,Z0,Z0,Z0,Z0,Z0,Z0])) (TLa.d J)) (z78 rfl (DLe.agg (DLeL.cons (DLe.refl _) (DLeL.cons (DLe.refl _) (DLeL.cons (DLe.refl _) (DLeL.cons DLe.sl0 (DLeL.cons DLe.sl0 (DLeL.cons DLe.sl0 (DLeL.cons DLe.sl0 (DLeL.cons DLe.sl0 (DLeL.cons DLe.sl0 (DLeL.cons DLe.sl0 DLeL.nil))))))))))))]<|
.r (J,c.1)) (
.guard [m.2.2.2.2.length<2 ^ 63]<|
.reg 33 [] [] []<|
.frz 3 (.ev 0) none [] [1,2]<|
.guard [g.2.2.2.2.2.length<2 ^ 63]<|
.frz 7 (.ev 0) none [] [1,2]<|
.guard [g.2.2.2.2.1.length<2 ^ 63]<|
.frz 5 (.ev 0) none [] [1,2]<|
.guard [c.2.2.2.2.2.2.2.1.length<2 ^ 63]<|
.frz 4 (.ev 0) none [] [1,2]<|
.r ((⟨c.2.1,c.2.2.1,c.2.2.2.1,m.2.2.2.2,g.2.2.2.2.2,g.2.2.2.2.1,c.2.2.2.2.1,c.2.2.2.2.2.1,c.2.2.2.2.2.2.1,c.2.2.2.2.2.2.2.1⟩:TLa),c.1))) id) id) id
def F_q2 (a:TTape):=(S_q2 a).den
theorem F_q2_ok {a:TTape}:FO (F_q2 a) 9 [(vp 0)] [(TTape.b a)] (fun x=>(TLa.d x.1)) (fun x=>[(TTape.b x.2)]):=fO (s:=S_q2 a) Tryz.func9
def S_qz (a:Int) (b:Int) (c:Int):SC Bool Bool :=
.r (bif (decide (a>=b)) then (decide (a<=c)) else false)
def F_qz (a:Int) (b:Int) (c:Int):=(S_qz a b c).den
theorem F_qz_ok {a:Int} {b:Int} {c:Int}:FO (F_qz a b c) 149 [(vi a),(vi b),(vi c)] [] vb NL:=fO (s:=S_qz a b c) Tryz.func149
def S_q2n (c:Y8):SC Bool Bool :=
.a 1 1 0 (@F_q49_ok c) fun b=>
.r (decide ((b.length:Int)>0))
def F_q2n (a:Y8):=(S_q2n a).den
theorem F_q2n_ok {a:Y8}:FO (F_q2n a) 153 [(AV.d (DV.str a))] [] vb NL:=fO (s:=S_q2n a) Tryz.func153
def S_q1e_b1 (b:Y8) (c:Int) (a:Int):SC Int (Step Int Int) :=
.ite (decide (a>=0)) (
.guard [(0:Int)<=a,a.toNat<b.length]<|
.reg 4 [] [] [.ev 0,.ev 1]<|
.ite (((b.getD a.toNat 0).toNat:Int)==c) (
.r (.ret a)) (
.r (.cont (i64.wrap (a-1))))) (
.r (.brk a))
def S_q1e (b:Y8) (c:Int):SC Int Int :=
.iter [0,1] (fun (a:Int)=>[(5,(vi a))]) (fun _=>[]) (i64.wrap ((b.length:Int)-1)) (S_q1e_b1 b c) (fun _ =>
.r (-1)) id
def F_q1e (a:Y8) (b:Int):=(S_q1e a b).den
theorem F_q1e_ok {a:Y8} {b:Int}:FO (F_q1e a b) 210 [(AV.d (DV.str a)),(AV.d (DV.i .u8 b))] [] vi NL:=fO (s:=S_q1e a b) Tryz.func210
def S_q31 (c:Y8) (d:Int):SC Int Int :=
.a 1 2 0 (@F_q1e_ok c d) fun b=>
.r b
def F_q31 (a:Y8) (b:Int):=(S_q31 a b).den
theorem F_q31_ok {a:Y8} {b:Int}:FO (F_q31 a b) 187 [(AV.d (DV.str a)),(AV.d (DV.i .u8 b))] [] vi NL:=fO (s:=S_q31 a b) Tryz.func187
end
end Go.Proofs.YtgfgnhpecnmlpaaGreatDoor
/- What the functions compute,and that their calls return it. No condition. -/
namespace Go.Proofs.YtgfgnhpecnmlpaaGreatDoor
open Go Go.TA
open Go.IntKind (i64)
noncomputable section
set_option maxRecDepth 100000
def S_q2s (e:Y8):SC Y8 Y8 :=
.a 1 1 0 (@F_q2n_ok e) fun f=>
.ite (!f) (
.r ([])) (
.call (@F_q31_ok e 46) fun c d=>
 let b:=(if 0>c then 0 else c)
.guard [(0:Int)<=b,b.toNat<=e.length]<|
.reg 3 [] [(2,hc d [] true)] [.cl 2 d [] 0 true,.ev 0,.ev 1]<|
.r (e.take b.toNat))
def F_q2s (a:Y8):=(S_q2s a).den
theorem F_q2s_ok {a:Y8}:FO (F_q2s a) 154 [(AV.d (DV.str a))] [] (fun x=>(AV.d (DV.str x))) NL:=fO (s:=S_q2s a) Tryz.func154
abbrev R_q1f:=Y8
def S_q1f_b1 (d:Int) (a:Y8):SC R_q1f (Step Y8 R_q1f) :=
 let b:=(i64.wrap ((a.length:Int)-1))
 let c:=(decide ((a.length:Int)>0))
.guard [AllP [c=true]->((0:Int)<=b),AllP [c=true]->(b.toNat<a.length)]<|
.reg 1 [] [] [.ev 0,.ev 1]<|
.ite (bif c then (((a.getD b.toNat 0).toNat:Int)==d) else false) (
.guard [(0:Int)<=b,b.toNat<=a.length]<|
.reg 2 [] [] [.ev 0,.ev 1]<|
.r (.cont (a.take b.toNat))) (
.r (.brk a))
def S_q1f (b:Y8) (c:Int):SC R_q1f R_q1f :=
.iter [1] (fun (a:Y8)=>[(0,(AV.d (DV.str a)))]) (fun _=>[]) b (S_q1f_b1 c) (fun a =>
.r a) id
def F_q1f (a:Y8) (b:Int):=(S_q1f a b).den
theorem F_q1f_ok {a:Y8} {b:Int}:FO (F_q1f a b) 252 [(AV.d (DV.str a)),(AV.d (DV.i .u8 b))] [] (fun x=>(AV.d (DV.str x))) NL:=fO (s:=S_q1f a b) Tryz.func252
abbrev R_q1g:=Y8
def S_q1g_b1 (c:Int) (a:Y8):SC R_q1g (Step Y8 R_q1g) :=
 let b:=(decide ((a.length:Int)>0))
.guard [AllP [b=true]->(0<a.length)]<|
.reg 1 [] [] [.pf (p:=AllP [b=true]->((0:Int)<=0)) (fun _=>dk),.ev 0]<|
.ite (bif b then (((a.getD 0 0).toNat:Int)==c) else false) (
.guard [1<=a.length]<|
.reg 2 [] [] [.pf (p:=(0:Int)<=1) dk,.ev 0]<|
.r (.cont ((a.drop 1).take (a.length-1)))) (
.r (.brk a))
def S_q1g (b:Y8) (c:Int):SC R_q1g R_q1g :=
.iter [1] (fun (a:Y8)=>[(0,(AV.d (DV.str a)))]) (fun _=>[]) b (S_q1g_b1 c) (fun a =>
.r a) id
def F_q1g (a:Y8) (b:Int):=(S_q1g a b).den
theorem F_q1g_ok {a:Y8} {b:Int}:FO (F_q1g a b) 251 [(AV.d (DV.str a)),(AV.d (DV.i .u8 b))] [] (fun x=>(AV.d (DV.str x))) NL:=fO (s:=S_q1g a b) Tryz.func251
def S_q32 (f:Y8) (c:Y8):SC Y8 Y8 :=
.ite (cO (f==([])) (c==([]))) (
.r f) (
 let a:=((c.length:Int)==1)
.guard [AllP [a=true]->(0<c.length)]<|
.reg 3 [] [] [.pf (p:=AllP [a=true]->((0:Int)<=0)) (fun _=>dk),.ev 0]<|
 let b:=((c.getD 0 0).toNat:Int)
.guard [(bif a then (decide (b<128)) else false)=true]<|
.br true (.ev 0)<|
.call (@F_q1f_ok f b) fun g d=>
.call (@F_q1g_ok g b) fun h e=>
.guard [0<c.length]<|
.reg 4 [] [(3,hc d [] true),(6,hc e [] true)] [.pf (p:=(0:Int)<=0) dk,.ev 0,.cl 2 d [] 0 true,.pf (p:=(0:Int)<=0) dk,.ev 0,.cl 1 e [] 0 true]<|
.r h)
def F_q32 (a:Y8) (b:Y8):=(S_q32 a b).den
theorem F_q32_ok {a:Y8} {b:Y8}:FO (F_q32 a b) 241 [(AV.d (DV.str a)),(AV.d (DV.str b))] [] (fun x=>(AV.d (DV.str x))) NL:=fO (s:=S_q32 a b) Tryz.func241
def S_qq_b1 (b:Y8) (a:Nat):SC Bool (Step Nat Bool) :=
 let c:=(a<b.length)
.split (decide c) (
.reg 2 [] [(0,{ h:=.call (AV.tup [(vb true),(vi (a:Int)),(AV.d (DV.i .i32 (runeAt b a)))]) [(Ob.ex (.stringIter ⟨List.toArray b⟩ (a+widAt b a)))] })] [.der (fun (h:decide c=true)=>zf1 (P:=Tryz.prog) (L:=[(Ob.ex (.stringIter ⟨List.toArray b⟩ a))]) (o:=0) (l:=b) (p:=a) rfl (y2i h)) 0]<|
.br true (.pf (p:=true=true) rfl)<|
.ite (cO (decide ((runeAt b a)<32)) (decide ((runeAt b a)>126))) (
.r (.ret false)) (
.r (.cont (a+widAt b a)))) (
.reg 2 [] [(0,{ h:=.call (AV.tup [(vb false)]) [(Ob.ex (.stringIter ⟨List.toArray b⟩ a))] })] [.der (fun (h:decide c=false)=>zf2 (P:=Tryz.prog) (L:=[(Ob.ex (.stringIter ⟨List.toArray b⟩ a))]) (o:=0) (l:=b) (p:=a) rfl (of_decide_eq_false h)) 0]<|
.br false (.pf (p:=false=false) rfl)<|
.r (.brk a))
def S_qq (b:Y8):SC Bool Bool :=
.iter [0,6] (fun (_:Nat)=>[]) (fun d=>[(0,(Ob.ex (.stringIter ⟨List.toArray b⟩ d)))]) 0 (S_qq_b1 b) (fun _ =>
 let a:=(bif (decide ((b.length:Int)>=1)) then (decide ((b.length:Int)<=40)) else false)
.calld [a=true] dF (@F_q32_ok b ([32])) fun e c =>
.reg 6 [] [(10,hc c [] true)] [.clg 0 [a=true] c [] 1 true]<|
.r (bif a then (e==b) else false)) id
def F_qq (a:Y8):=(S_qq a).den
theorem F_qq_ok {a:Y8}:FO (F_qq a) 225 [(AV.d (DV.str a))] [] vb NL:=fO (s:=S_qq a) Tryz.func225
def S_q33 (a:Y8):SC Bool Bool :=
.r (!(a==a))
def F_q33 (a:Y8):=(S_q33 a).den
theorem F_q33_ok {a:Y8}:FO (F_q33 a) 202 [(AV.d (DV.str a))] [] vb NL:=fO (s:=S_q33 a) Tryz.func202
def S_q3t (c:Y8) (d:Y8):SC Int Int :=
.a 1 1 0 (@F_q33_ok c) fun e=>
.a 2 1 0 (@F_q33_ok d) fun b=>
.ite e (
.ite b (
.r 0) (
.r (-1))) (
.ite b (
.r 1) (
.ite (Op.bytesLess c d) (
.r (-1)) (
.ite (!(Op.bytesLess c d||c==d)) (
.r 1) (
.r 0))))
def F_q3t (a:Y8) (b:Y8):=(S_q3t a b).den
theorem F_q3t_ok {a:Y8} {b:Y8}:FO (F_q3t a b) 173 [(AV.d (DV.str a)),(AV.d (DV.str b))] [] vi NL:=fO (s:=S_q3t a b) Tryz.func173
def S_q34 (a:Int):SC Bool Bool :=
.r (a != a)
def F_q34 (a:Int):=(S_q34 a).den
theorem F_q34_ok {a:Int}:FO (F_q34 a) 124 [(vi a)] [] vb NL:=fO (s:=S_q34 a) Tryz.func124
def S_qr (c:Int) (d:Int):SC Int Int :=
.a 1 1 0 (@F_q34_ok c) fun e=>
.a 2 1 0 (@F_q34_ok d) fun b=>
.ite e (
.ite b (
.r 0) (
.r (-1))) (
.ite b (
.r 1) (
.ite (decide (c<d)) (
.r (-1)) (
.ite (decide (c>d)) (
.r 1) (
.r 0))))
def F_qr (a:Int) (b:Int):=(S_qr a b).den
theorem F_qr_ok {a:Int} {b:Int}:FO (F_qr a b) 62 [(vi a),(vi b)] [] vi NL:=fO (s:=S_qr a b) Tryz.func62
def S_q1h_b1 (e:(List Int)) (d:(List Int)) (b:Nat) (_:Unit):SC Int (Step Unit Int) :=
.reg 3 [] [] [.w b,.ev 0]<|
.ite (decide ((b:Int)>=(d.length:Int))) (
.r (.ret 1)) (
.guard [b<d.length]<|
.reg 6 [] [] [.w b,.ev 0]<|
.a 7 2 0 (@F_qr_ok (e.getD b dF) (d.getD b dF)) fun c=>
.ite (c != 0) (
.r (.ret c)) (
.r (.cont ())))
def S_q1h (a:(List Int)) (b:(List Int)):SC Int Int :=
.range (a.length:Int) a.length rfl (.slot 0) 11 [0,1,9,10] (fun (_:Unit)=>[]) (fun _=>[]) () (S_q1h_b1 a b) (fun _ => 
.ite (decide ((a.length:Int)<(b.length:Int))) (
.r (-1)) (
.r 0)) id
def F_q1h (a:(List Int)) (b:(List Int)):=(S_q1h a b).den
theorem F_q1h_ok {a:(List Int)} {b:(List Int)}:FO (F_q1h a b) 174 [(vl a),(vl b)] [] vi NL:=fO (s:=S_q1h a b) Tryz.func174
def S_q10 (h:Y8) (i:Y8):SC Int Int :=
.call (@F_q49_ok h) fun b c=>
.call (@F_q49_ok i) fun d e=>
.reg 1 [] [(1,hc c [] true),(3,hc e [] true)] [.cl 1 c [] 0 true,.cl 0 e [] 0 true]<|
.ite (bif ((b.length:Int)==0) then ((d.length:Int)==0) else false) (
.a 3 2 0 (@F_q3t_ok h i) fun f=>
.r f) (
.a 4 2 0 (@F_q1h_ok b d) fun g=>
.r g)
def F_q10 (a:Y8) (b:Y8):=(S_q10 a b).den
theorem F_q10_ok {a:Y8} {b:Y8}:FO (F_q10 a b) 139 [(AV.d (DV.str a)),(AV.d (DV.str b))] [] vi NL:=fO (s:=S_q10 a b) Tryz.func139
def S_q3u (a:THe) (b:Y8):SC Bool Bool :=
.r (a.B==b)
def F_q3u (a:THe) (b:Y8):=(S_q3u a b).den
theorem F_q3u_ok {b:THe} {a:Y8}:FO (F_q3u b a) 196 [(THe.d b),(vp 0)] [(bx (DV.str a))] vb (fun _=>[(bx (DV.str a))]):=fO (s:=S_q3u b a) Tryz.func196
def S_q2d_b1 (d:(List THe)) (e:Y8) (a:Nat) (_:Unit):SC Int (Step Unit Int) :=
.call (@F_q3u_ok (d.getD a dF) e) fun c b=>
.reg 4 [] [(5,hc b [0] true)] [.w a,.ev 1,.cl 0 b [0] 1 true]<|
.ite c (
.r (.ret (a:Int))) (
.r (.cont ()))
def S_q2d (a:(List THe)) (b:Y8):SC Int Int :=
.range (a.length:Int) a.length rfl (.slot 0) 8 [0,1,7] (fun (_:Unit)=>[]) (fun _=>[]) () (S_q2d_b1 a b) (fun _ => 
.r (-1)) id
def F_q2d (a:(List THe)) (b:Y8):=(S_q2d a b).den
theorem F_q2d_ok {b:(List THe)} {a:Y8}:FO (F_q2d b a) 215 [(AV.d (eL THe.e b)),(AV.fn 196 [(vp 0)])] [(bx (DV.str a))] vi (fun _=>[(bx (DV.str a))]):=fO (s:=S_q2d b a) Tryz.func215
def S_q3v (c:(List THe)) (d:Y8):SC Bool Bool :=
.call (@F_q2d_ok c d) fun a b=>
.k 1 2 b [0] 1 true<|
.r (decide (a>=0))
def F_q3v (a:(List THe)) (b:Y8):=(S_q3v a b).den
theorem F_q3v_ok {b:(List THe)} {a:Y8}:FO (F_q3v b a) 195 [(AV.d (eL THe.e b)),(AV.fn 196 [(vp 0)])] [(bx (DV.str a))] vb (fun _=>[(bx (DV.str a))]):=fO (s:=S_q3v b a) Tryz.func195
def S_q2t (c:(List THe)) (d:Y8):SC Bool Bool :=
.call (@F_q3v_ok c d) fun a b=>
.k 1 2 b [0] 1 true<|
.r a
def F_q2t (a:(List THe)) (b:Y8):=(S_q2t a b).den
theorem F_q2t_ok {a:(List THe)} {b:Y8}:FO (F_q2t a b) 168 [(AV.d (eL THe.e a)),(AV.d (DV.str b))] [] vb NL:=fO (s:=S_q2t a b) Tryz.func168
def S_q35 (f:(List THe)) (c:Int):SC Int Int :=
 let b:=(f.getD c.toNat dF)
.call (@F_q2s_ok b.B) fun g h=>
.guard [(0:Int)<=c,c.toNat<f.length]<|
.reg 1 [] [(5,hc h [] true)] [.ev 0,.ev 1,.cl 2 h [] 0 true]<|
.call (@F_q2n_ok b.B) fun m i=>
.reg 2 [] [(5,hc i [] true)] [.ev 1,.ev 2,.cl 0 i [] 0 true]<|
.ite (!m) (
.r 5) (
.call (@F_qq_ok b.W) fun n j=>
.reg 4 [] [(5,hc j [] true)] [.ev 3,.ev 4,.cl 0 j [] 0 true]<|
.ite (!n) (
.r 4) (
 let a:=(decide (c>0))
 let d:=(i64.wrap (c-1))
.calld [a=true] dF (@F_q10_ok ((f.getD d.toNat dF).B) b.B) fun o k =>
.guard [AllP [a=true]->((0:Int)<=d),AllP [a=true]->(d.toNat<f.length),AllP [a=true]->((0:Int)<=c),AllP [a=true]->(c.toNat<f.length)]<|
.reg 6 [] [(14,hc k [] true)] [.ev 0,.ev 1,.ev 2,.ev 3,.clg 4 [a=true] k [] 0 true]<|
.ite (bif a then (decide (o>=0)) else false) (
.r 8) (
 let e:=(!(g==([])))
.calld [e=true] dF (@F_q2t_ok f g) fun p l =>
.reg 8 [] [(5,hc l [] true)] [.clg 0 [e=true] l [] 0 true]<|
.ite (bif e then (!p) else false) (
.r 6) (
.r 0))))
def F_q35 (a:(List THe)) (b:Int):=(S_q35 a b).den
theorem F_q35_ok {a:(List THe)} {b:Int}:FO (F_q35 a b) 209 [(AV.d (eL THe.e a)),(vi b)] [] vi NL:=fO (s:=S_q35 a b) Tryz.func209
def S_q2e_b1 (d:(List THe)) (b:Nat) (_:Unit):SC (Int×Int) (Step Unit (Int×Int)) :=
.a 6 2 0 (@F_q35_ok d (b:Int)) fun c=>
.ite (c != 0) (
.r (.ret ((i64.wrap ((b:Int)+1)),c))) (
.r (.cont ()))
def S_q2e (a:(List THe)):SC (Int×Int) (Int×Int) :=
.ite (decide ((a.length:Int)>60)) (
.r (0,3)) (
.range (a.length:Int) a.length rfl (.slot 0) 11 [0,10] (fun (_:Unit)=>[]) (fun _=>[]) () (S_q2e_b1 a) (fun _ => 
.r (0,0)) id)
def F_q2e (a:(List THe)):=(S_q2e a).den
theorem F_q2e_ok {a:(List THe)}:FO (F_q2e a) 186 [(AV.d (eL THe.e a))] [] (fun x=>(AV.tup [(vi x.1),(vi x.2)])) NL:=fO (s:=S_q2e a) Tryz.func186
def S_q36 (c:(List THe)):SC Int Int :=
.a 1 1 0 (@F_q2e_ok c) fun b=>
.r b.2
def F_q36 (a:(List THe)):=(S_q36 a).den
theorem F_q36_ok {a:(List THe)}:FO (F_q36 a) 150 [(AV.d (eL THe.e a))] [] vi NL:=fO (s:=S_q36 a) Tryz.func150
def S_q3w (a:TAm):SC Bool Bool :=
.r (decide ((a.D.length:Int)>20))
def F_q3w (a:TAm):=(S_q3w a).den
theorem F_q3w_ok {a:TAm}:FO (F_q3w a) 151 [(TAm.d a)] [] vb NL:=fO (s:=S_q3w a) Tryz.func151
def S_q2f_b1 (d:(List TAm)) (a:Nat) (_:Unit):SC Int (Step Unit Int) :=
.call (@F_q3w_ok (d.getD a dF)) fun c b=>
.reg 4 [] [(5,hc b [] true)] [.w a,.ev 1,.cl 0 b [] 0 true]<|
.ite c (
.r (.ret (a:Int))) (
.r (.cont ()))
def S_q2f (a:(List TAm)):SC Int Int :=
.range (a.length:Int) a.length rfl (.slot 0) 8 [0,1,7] (fun (_:Unit)=>[]) (fun _=>[]) () (S_q2f_b1 a) (fun _ => 
.r (-1)) id
def F_q2f (a:(List TAm)):=(S_q2f a).den
theorem F_q2f_ok {a:(List TAm)}:FO (F_q2f a) 42 [(AV.d (eL TAm.e a)),(AV.fn 151 [])] [] vi NL:=fO (s:=S_q2f a) Tryz.func42
def S_q37 (c:(List TAm)):SC Bool Bool :=
.a 1 2 0 (@F_q2f_ok c) fun b=>
.r (decide (b>=0))
def F_q37 (a:(List TAm)):=(S_q37 a).den
theorem F_q37_ok {a:(List TAm)}:FO (F_q37 a) 152 [(AV.d (eL TAm.e a)),(AV.fn 151 [])] [] vb NL:=fO (s:=S_q37 a) Tryz.func152
def S_q38 (c:TChe):SC Int Int :=
.reg 1 [] [(2,{ obs:=[(1,(TLa.b (⟨0,0,[],[],[],[],[],[],[],[]⟩:TLa)))] })] [.pf cz3]<|
.call (@F_qz_ok c.law.E 0 99) fun d f=>
.calld [(!d)=false] dF (@F_qz_ok c.law.G 1 4) fun j g =>
.reg 2 [] [(2,hc f [] true),(7,hc g [] true)] [.cl 2 f [] 2 true,.clg 0 [(!d)=false] g [] 2 true]<|
.ite (cO (cO (!d) (!j)) (decide ((i64.wrap (c.law.E+c.law.G))>100))) (
.r 2) (
.a 4 2 2 (@F_q36_ok c.law.H) fun h=>
.ite (h != 0) (
.r h) (
 let e:=(cO (cO (cO (cO (cO (cO (decide ((c.law.P.length:Int)>120)) (decide ((c.law.R.length:Int)>60))) (decide ((c.law.S.length:Int)>60))) (decide ((c.law.F.length:Int)>20))) (decide ((c.law.I.length:Int)>20))) (decide ((c.law.O.length:Int)>20))) (decide ((c.law.A.length:Int)>20)))
.calld [e=false] dF (@F_q37_ok c.law.A) fun k i =>
.reg 8 [] [(44,hc i [] true)] [.clg 0 [e=false] i [] 2 true]<|
.ite (cO e k) (
.r 3) (
.r 0)))
def F_q38 (a:TChe):=(S_q38 a).den
theorem F_q38_ok {a:TChe}:FO (F_q38 a) 93 [(TChe.d a)] [] vi NL:=fO (s:=S_q38 a) Tryz.func93
def S_qm_b1 (c:(List Int)) (b:(List Int)) (a:Nat) (_:Unit):SC Bool (Step Unit Bool) :=
.guard [a<b.length]<|
.reg 6 [] [] [.w a,.ev 1,.w a,.ev 0]<|
.ite ((c.getD a dF) != (b.getD a dF)) (
.r (.ret false)) (
.r (.cont ()))
def S_qm (a:(List Int)) (b:(List Int)):SC Bool Bool :=
.ite ((a.length:Int) != (b.length:Int)) (
.r false) (
.range (a.length:Int) a.length rfl (.slot 0) 13 [0,1,12] (fun (_:Unit)=>[]) (fun _=>[]) () (S_qm_b1 a b) (fun _ => 
.r true) id)
def F_qm (a:(List Int)) (b:(List Int)):=(S_qm a b).den
theorem F_qm_ok {a:(List Int)} {b:(List Int)}:FO (F_qm a b) 188 [(vl a),(vl b)] [] vb NL:=fO (s:=S_qm a b) Tryz.func188
def S_q2u (k:Y8) (l:Y8):SC Bool Bool :=
.call (@F_q49_ok k) fun b e=>
.call (@F_q49_ok l) fun c f=>
.reg 1 [] [(1,hc e [] true),(3,hc f [] true)] [.cl 1 e [] 0 true,.cl 0 f [] 0 true]<|
 let d:=(c.length:Int)
 let a:=(bif (decide (d>0)) then (decide ((b.length:Int)>=d)) else false)
.calld [a=true] dF (@F_qm_ok (b.take c.length) c) fun j g =>
 let h:=(c.length<=b.length)
.guard [AllP [a=true]->h]<|
.reg 2 [] [(14,hv (vl (b.take c.length))),(16,hc g [] true)] [.pf (p:=AllP [a=true]->((0:Int)<=d)) (fun _=>(y2w _)),.ev 0,.der (fun (h0:AllP [a=true]->h) (hg:AllP [a=true])=>lvT (DV.i .i64) b (h0 hg)) 0,.clg 1 [a=true] g [] 0 true]<|
.r (bif a then j else false)
def F_q2u (a:Y8) (b:Y8):=(S_q2u a b).den
theorem F_q2u_ok {a:Y8} {b:Y8}:FO (F_q2u a b) 155 [(AV.d (DV.str a)),(AV.d (DV.str b))] [] vb NL:=fO (s:=S_q2u a b) Tryz.func155
abbrev R_q8:=(List Y8)
def S_q8_b1 (m:(List THe)) (i:Nat) (e:(List (Y8×Bool))):SC R_q8 (Step ((List (Y8×Bool))) R_q8) :=
.reg 4 [] [] [.w i,.ev 0]<|
 let a:=(m.getD i dF)
.call (@F_q2n_ok a.B) fun f j=>
 let g:=(THe.b a)
.reg 5 [6] [(5,hc j [] true),(6,{ h:=.call .bot [(eM DV.str DV.b (mupd e a.B f)),g] })] [.cl 0 j [] 2 true,.pf (p:=UpdOk Tryz.prog [(eM DV.str DV.b e),g] 174 (AV.map 0) (AV.d (DV.str a.B)) (vb f) [(eM DV.str DV.b (mupd e a.B f)),g]) (zik (kt:=9) (et:=4) (eK:=DV.str) (eV:=DV.b) (l:=e) (k:=a.B) (v:=f) kj rfl zbv rfl)]<|
.c (mupd e a.B f)
def S_q8_b2 (j:(List THe)) (f:Nat) (a:(List (Y8×Bool))):SC R_q8 (Step ((List (Y8×Bool))) R_q8) :=
.reg 9 [] [] [.w f,.ev 0]<|
.call (@F_q2s_ok ((j.getD f dF).B)) fun e i=>
 let g:=(THe.b (j.getD f dF))
.reg 10 [] [(3,hc i [] true),(4,{ h:=.call (AV.tup []) [(eMd DV.str DV.b (mdel a e)),g] })] [.cl 0 i [] 2 true,.pf (p:=DelOk Tryz.prog [(eMd DV.str DV.b a),g] 174 (AV.map 0) (AV.d (DV.str e)) (AV.tup []) [(eMd DV.str DV.b (mdel a e)),g]) (ziq (kt:=9) (et:=4) (eK:=DV.str) (eV:=DV.b) (l:=a) (x:=(eMd DV.str DV.b a)) (k:=e) kj rfl rfl zbv)]<|
.c (mdel a e)
def S_q8_b3 (t:(List THe)) (q:Y8) (i:(List (Y8×Bool))) (j:Nat) (a:(List Y8)):SC R_q8 (Step ((List Y8)) R_q8) :=
.reg 15 [] [] [.w j,.ev 0]<|
 let f:=(t.getD j dF)
.calld [(q==([]))=false,(mget i f.B false)=true] dF (@F_q2u_ok f.B q) fun s m =>
 let n:=(vb (mget i f.B false))
.reg 16 [] [(3,{ h:=.callr n }),(11,hc m [] true)] [.pf (p:=LookOk Tryz.prog [(eMd DV.str DV.b i),(eS 1 DV.str a),(THe.b f)] 174 (AV.map 0) (AV.d (DV.str f.B)) false n) (zge (kt:=9) (et:=4) (eK:=DV.str) (eV:=DV.b) (l:=i) (k:=f.B) (z:=false) kj rfl zbv kj),.clg 0 [(q==([]))=false,(mget i f.B false)=true] m [] 3 true]<|
.ite (bif (mget i f.B false) then (cO (q==([])) s) else false) (
.guard [(a.length+1) * (2 * 16)<=2 ^ 48]<|
 let g:=([f.B]:List Y8)
.reg 17 [] [(3,hv (AV.d (eL DV.str g))),(4,{ h:=.obj,cast:=some (AV.ref 1 ((a++g).length) 0 ((a++g).length)),obs:=[(1,(eS 1 DV.str (a++g)))] })] [.pf (z5 DV.str g),.e a.length,.e a.length,.pf (p:=∀ k,k<1->(AV.d (DV.str (g.getD k dF))).wd=1) (fun _ _=>rfl),.ev 0,.pf (zi (o:=1) (l:=a) (x:=g)),.pf (zh (sz:=1) (e:=DV.str) (l:=a) (x:=g))]<|
.r (.cont (a++g))) (
.c a)
def S_q8 (c:(List THe)) (i:Y8):SC R_q8 R_q8 :=
.range (c.length:Int) c.length rfl (.slot 0) 16 [0,1,5,14,15] (fun (_:(List (Y8×Bool)))=>[]) (fun f=>[(0,(eM DV.str DV.b f))]) ([]:(List (Y8×Bool))) (S_q8_b1 c) (fun f => 
.reg 7 [] [] []<|
 let h:=[(0,(AV.d (eL THe.e c))),(1,(AV.d (DV.str i))),(5,(AV.map 0)),(27,(AV.d (eL THe.e c))),(28,(vi (c.length:Int))),(29,(vi 0))]
.sh (H:=NoH) (A:=True) (.pf trivial) h h [(eM DV.str DV.b f)] [(eMd DV.str DV.b f)] (fun _=>zdv (P:=[]) (D:=[])) (z4m _)<|
.range (c.length:Int) c.length rfl (.slot 0) 29 [0,1,5,27,28] (fun (_:(List (Y8×Bool)))=>[]) (fun g=>[(0,(eMd DV.str DV.b g))]) f (S_q8_b2 c) (fun g => 
.reg 13 [] [] []<|
.bor 1 (fun j=>AV.d (DV.str (([]:List Y8).getD j dF))) [10]<|
.range (c.length:Int) c.length rfl (.slot 38) 40 [1,5,38,39] (fun (a:(List Y8))=>[(10,(AV.ref 1 a.length 0 a.length))]) (fun a=>[(1,(eS 1 DV.str a))]) ([]:List Y8) (S_q8_b3 c i g) (fun a => 
.guard [a.length<2 ^ 63]<|
.reg 19 [] [] []<|
.frz 1 (.ev 0) none [4] []<|
.r a) id) id) id
def F_q8 (a:(List THe)) (b:Y8):=(S_q8 a b).den
theorem F_q8_ok {a:(List THe)} {b:Y8}:FO (F_q8 a b) 94 [(AV.d (eL THe.e a)),(AV.d (DV.str b))] [] (fun x=>(AV.d (eL DV.str x))) NL:=fO (s:=S_q8 a b) Tryz.func94
def S_q2g_b1 (b:(List Y8)) (c:Y8) (a:Nat) (_:Unit):SC Int (Step Unit Int) :=
.reg 4 [] [] [.w a,.ev 0]<|
.ite (c==(b.getD a dF)) (
.r (.ret (a:Int))) (
.r (.cont ()))
def S_q2g (a:(List Y8)) (b:Y8):SC Int Int :=
.range (a.length:Int) a.length rfl (.slot 0) 8 [0,1,7] (fun (_:Unit)=>[]) (fun _=>[]) () (S_q2g_b1 a b) (fun _ => 
.r (-1)) id
def F_q2g (a:(List Y8)) (b:Y8):=(S_q2g a b).den
theorem F_q2g_ok {a:(List Y8)} {b:Y8}:FO (F_q2g a b) 197 [(AV.d (eL DV.str a)),(AV.d (DV.str b))] [] vi NL:=fO (s:=S_q2g a b) Tryz.func197
def S_q39 (c:(List Y8)) (d:Y8):SC Bool Bool :=
.a 1 2 0 (@F_q2g_ok c d) fun b=>
.r (decide (b>=0))
def F_q39 (a:(List Y8)) (b:Y8):=(S_q39 a b).den
theorem F_q39_ok {a:(List Y8)} {b:Y8}:FO (F_q39 a b) 169 [(AV.d (eL DV.str a)),(AV.d (DV.str b))] [] vb NL:=fO (s:=S_q39 a b) Tryz.func169
def S_q2j (c:TChe) (d:Y8):SC Bool Bool :=
.a 1 3 1 (@F_q39_ok c.leaves d) fun b=>
.r b
def F_q2j (a:TChe) (b:Y8):=(S_q2j a b).den
theorem F_q2j_ok {a:TChe} {b:Y8}:FO (F_q2j a b) 156 [(TChe.d a),(AV.d (DV.str b))] [] vb NL:=fO (s:=S_q2j a b) Tryz.func156
def S_q2k (a:TLa) (b:Int):SC Bool Bool :=
.r (bif (decide (b>=a.E)) then (decide ((IntKind.u64.wrap ((IntKind.u64.wrap b)-(IntKind.u64.wrap a.E)))<(IntKind.u64.wrap (if 0>a.G then 0 else a.G)))) else false)
def F_q2k (a:TLa) (b:Int):=(S_q2k a b).den
theorem F_q2k_ok {a:TLa} {b:Int}:FO (F_q2k a b) 122 [(TLa.d a),(vi b)] [] vb NL:=fO (s:=S_q2k a b) Tryz.func122
def S_q2h (a:Int):SC Bool Bool :=
.r (bif (decide (a>=0)) then (decide (a<=1000000000000)) else false)
def F_q2h (a:Int):=(S_q2h a).den
theorem F_q2h_ok {a:Int}:FO (F_q2h a) 123 [(vi a)] [] vb NL:=fO (s:=S_q2h a) Tryz.func123
def S_q3a (f:TChe) (b:TLi):SC Int Int :=
.a 1 3 2 (@F_q2j_ok f b.B) fun c=>
.ite (!c) (
.r 5) (
.a 3 4 2 (@F_q2k_ok f.law b.J) fun d=>
.ite (!d) (
.r 16) (
.a 5 2 2 (@F_q2h_ok b.M) fun e=>
.ite (!e) (
.r 2) (
.r 0)))
def F_q3a (a:TChe) (b:TLi):=(S_q3a a b).den
theorem F_q3a_ok {a:TChe} {b:TLi}:FO (F_q3a a b) 98 [(TChe.d a),(TLi.d b)] [] vi NL:=fO (s:=S_q3a a b) Tryz.func98
def S_qj_b1 (b:(List Int)) (a:Nat) (_:Unit):SC Int (Step Unit Int) :=
.reg 4 [] [] [.w a,.ev 0]<|
.ite ((b.getD a dF) != 0) (
.r (.ret (b.getD a dF))) (
.r (.cont ()))
def S_qj (a:(List Int)):SC Int Int :=
.range (a.length:Int) a.length rfl (.slot 6) 8 [3,6,7] (fun (_:Unit)=>[]) (fun _=>[]) () (S_qj_b1 a) (fun _ => 
.r 0) id
def F_qj (a:(List Int)):=(S_qj a).den
theorem F_qj_ok {a:(List Int)}:FO (F_qj a) 61 [(vl a)] [] vi NL:=fO (s:=S_qj a) Tryz.func61
def S_q3b (h:TLi) (j:TLi):SC Int Int :=
.call (@F_q10_ok h.B j.B) fun e b=>
.call (@F_qr_ok h.J j.J) fun f c=>
 let a:=([e,f]:List Int)
.call (@F_qj_ok a) fun g d=>
.reg 1 [] [(4,hc b [] true),(9,hc c [] true),(10,hv (vl a)),(11,hc d [] true)] [.cl 2 b [] 2 true,.cl 1 c [] 2 true,.pf (z5 (DV.i .i64) a),.cl 0 d [] 2 true]<|
.r g
def F_q3b (a:TLi) (b:TLi):=(S_q3b a b).den
theorem F_q3b_ok {a:TLi} {b:TLi}:FO (F_q3b a b) 97 [(TLi.d a),(TLi.d b)] [] vi NL:=fO (s:=S_q3b a b) Tryz.func97
def S_q1i_b1 (g:(List TLi)) (a2_0:TChe) (b:Nat) (_:Unit):SC Int (Step Unit Int) :=
.reg 3 [] [] [.w b,.ev 0]<|
.a 4 2 1 (@F_q3a_ok a2_0 (g.getD b dF)) fun e=>
.ite (e != 0) (
.r (.ret e)) (
 let c:=(decide ((b:Int)>0))
 let d:=(i64.wrap ((b:Int)-1))
.calld [c=true] dF (@F_q3b_ok (g.getD d.toNat dF) (g.getD b dF)) fun h f =>
.guard [AllP [c=true]->((0:Int)<=d),AllP [c=true]->(d.toNat<g.length)]<|
.reg 7 [] [(10,hc f [] true)] [.ev 0,.ev 1,.clg 2 [c=true] f [] 1 true]<|
.ite (bif c then (decide (h>=0)) else false) (
.r (.ret 8)) (
.r (.cont ())))
def S_q1i (a:(List TLi)) (a2_0:TChe):SC Int Int :=
.range (a.length:Int) a.length rfl (.slot 0) 12 [0,1,2,10,11] (fun (_:Unit)=>[]) (fun _=>[]) () (S_q1i_b1 a a2_0) (fun _ => 
.r 0) id
def F_q1i (a:(List TLi)) (a2_0:TChe):=(S_q1i a a2_0).den
theorem F_q1i_ok {a:(List TLi)} {a2_0:TChe}:FO (F_q1i a a2_0) 96 [(AV.d (eL TLi.e a)),(AV.fn 97 []),(AV.bfn 98 [(TChe.d a2_0)])] [] vi NL:=fO (s:=S_q1i a a2_0) Tryz.func96
def S_q20 (c:TLa) (d:Y8):SC Bool Bool :=
.a 1 3 1 (@F_q2t_ok c.H d) fun b=>
.r b
def F_q20 (a:TLa) (b:Y8):=(S_q20 a b).den
theorem F_q20_ok {a:TLa} {b:Y8}:FO (F_q20 a b) 120 [(TLa.d a),(AV.d (DV.str b))] [] vb NL:=fO (s:=S_q20 a b) Tryz.func120
def S_q3c (h:TChe) (d:TBo):SC Int Int :=
.a 1 4 2 (@F_q20_ok h.law d.B) fun e=>
.ite (!e) (
.r 5) (
 let b:=(d.J != (-1))
.calld [b=true] dF (@F_q2k_ok h.law d.J) fun f c =>
.reg 3 [] [(8,hc c [] true)] [.clg 0 [b=true] c [] 2 true]<|
.ite (bif b then (!f) else false) (
.r 16) (
.a 5 2 2 (@F_q2h_ok d.M) fun g=>
.ite (!g) (
.r 2) (
.r 0)))
def F_q3c (a:TChe) (b:TBo):=(S_q3c a b).den
theorem F_q3c_ok {a:TChe} {b:TBo}:FO (F_q3c a b) 101 [(TChe.d a),(TBo.d b)] [] vi NL:=fO (s:=S_q3c a b) Tryz.func101
def S_q3d (h:TBo) (j:TBo):SC Int Int :=
.call (@F_q10_ok h.B j.B) fun e b=>
.call (@F_qr_ok h.J j.J) fun f c=>
 let a:=([e,f]:List Int)
.call (@F_qj_ok a) fun g d=>
.reg 1 [] [(4,hc b [] true),(9,hc c [] true),(10,hv (vl a)),(11,hc d [] true)] [.cl 2 b [] 2 true,.cl 1 c [] 2 true,.pf (z5 (DV.i .i64) a),.cl 0 d [] 2 true]<|
.r g
def F_q3d (a:TBo) (b:TBo):=(S_q3d a b).den
theorem F_q3d_ok {a:TBo} {b:TBo}:FO (F_q3d a b) 100 [(TBo.d a),(TBo.d b)] [] vi NL:=fO (s:=S_q3d a b) Tryz.func100
end
end Go.Proofs.YtgfgnhpecnmlpaaGreatDoor
/- What the functions compute,and that their calls return it. No condition. -/
namespace Go.Proofs.YtgfgnhpecnmlpaaGreatDoor
open Go Go.TA
open Go.IntKind (i64)
noncomputable section
set_option maxRecDepth 100000
def S_q11_b1 (g:(List TBo)) (a2_0:TChe) (b:Nat) (_:Unit):SC Int (Step Unit Int) :=
.reg 3 [] [] [.w b,.ev 0]<|
.a 4 2 1 (@F_q3c_ok a2_0 (g.getD b dF)) fun e=>
.ite (e != 0) (
.r (.ret e)) (
 let c:=(decide ((b:Int)>0))
 let d:=(i64.wrap ((b:Int)-1))
.calld [c=true] dF (@F_q3d_ok (g.getD d.toNat dF) (g.getD b dF)) fun h f =>
.guard [AllP [c=true]->((0:Int)<=d),AllP [c=true]->(d.toNat<g.length)]<|
.reg 7 [] [(10,hc f [] true)] [.ev 0,.ev 1,.clg 2 [c=true] f [] 1 true]<|
.ite (bif c then (decide (h>=0)) else false) (
.r (.ret 8)) (
.r (.cont ())))
def S_q11 (a:(List TBo)) (a2_0:TChe):SC Int Int :=
.range (a.length:Int) a.length rfl (.slot 0) 12 [0,1,2,10,11] (fun (_:Unit)=>[]) (fun _=>[]) () (S_q11_b1 a a2_0) (fun _ => 
.r 0) id
def F_q11 (a:(List TBo)) (a2_0:TChe):=(S_q11 a a2_0).den
theorem F_q11_ok {a:(List TBo)} {a2_0:TChe}:FO (F_q11 a a2_0) 99 [(AV.d (eL TBo.e a)),(AV.fn 100 []),(AV.bfn 101 [(TChe.d a2_0)])] [] vi NL:=fO (s:=S_q11 a a2_0) Tryz.func99
def S_q3e (h:TChe) (e:TEa):SC Int Int :=
.call (@F_q20_ok h.law e.N) fun b c=>
.calld [(!b)=false] dF (@F_q2j_ok h e.B) fun f d =>
.reg 1 [] [(4,hc c [] true),(10,hc d [] true)] [.cl 2 c [] 2 true,.clg 0 [(!b)=false] d [] 2 true]<|
.ite (cO (!b) (!f)) (
.r 5) (
.a 3 2 2 (@F_qz_ok e.Q 0 100) fun g=>
.ite (!g) (
.r 2) (
.r 0))
def F_q3e (a:TChe) (b:TEa):=(S_q3e a b).den
theorem F_q3e_ok {a:TChe} {b:TEa}:FO (F_q3e a b) 104 [(TChe.d a),(TEa.d b)] [] vi NL:=fO (s:=S_q3e a b) Tryz.func104
def S_q3f (h:TEa) (j:TEa):SC Int Int :=
.call (@F_q10_ok h.N j.N) fun e b=>
.call (@F_q10_ok h.B j.B) fun f c=>
 let a:=([e,f]:List Int)
.call (@F_qj_ok a) fun g d=>
.reg 1 [] [(4,hc b [] true),(9,hc c [] true),(10,hv (vl a)),(11,hc d [] true)] [.cl 2 b [] 2 true,.cl 1 c [] 2 true,.pf (z5 (DV.i .i64) a),.cl 0 d [] 2 true]<|
.r g
def F_q3f (a:TEa) (b:TEa):=(S_q3f a b).den
theorem F_q3f_ok {a:TEa} {b:TEa}:FO (F_q3f a b) 103 [(TEa.d a),(TEa.d b)] [] vi NL:=fO (s:=S_q3f a b) Tryz.func103
def S_q1j_b1 (g:(List TEa)) (a2_0:TChe) (b:Nat) (_:Unit):SC Int (Step Unit Int) :=
.reg 3 [] [] [.w b,.ev 0]<|
.a 4 2 1 (@F_q3e_ok a2_0 (g.getD b dF)) fun e=>
.ite (e != 0) (
.r (.ret e)) (
 let c:=(decide ((b:Int)>0))
 let d:=(i64.wrap ((b:Int)-1))
.calld [c=true] dF (@F_q3f_ok (g.getD d.toNat dF) (g.getD b dF)) fun h f =>
.guard [AllP [c=true]->((0:Int)<=d),AllP [c=true]->(d.toNat<g.length)]<|
.reg 7 [] [(10,hc f [] true)] [.ev 0,.ev 1,.clg 2 [c=true] f [] 1 true]<|
.ite (bif c then (decide (h>=0)) else false) (
.r (.ret 8)) (
.r (.cont ())))
def S_q1j (a:(List TEa)) (a2_0:TChe):SC Int Int :=
.range (a.length:Int) a.length rfl (.slot 0) 12 [0,1,2,10,11] (fun (_:Unit)=>[]) (fun _=>[]) () (S_q1j_b1 a a2_0) (fun _ => 
.r 0) id
def F_q1j (a:(List TEa)) (a2_0:TChe):=(S_q1j a a2_0).den
theorem F_q1j_ok {a:(List TEa)} {a2_0:TChe}:FO (F_q1j a a2_0) 102 [(AV.d (eL TEa.e a)),(AV.fn 103 []),(AV.bfn 104 [(TChe.d a2_0)])] [] vi NL:=fO (s:=S_q1j a a2_0) Tryz.func102
def S_qk_b1 (h:TChe) (f:Nat) (b:Nat) (d:Int):SC Int (Step Int Int) :=
.reg 7 [] [] [.w b,.ev 0]<|
 let e:=(h.law.F.getD b dF)
.a 8 3 2 (@F_q2u_ok (h.leaves.getD f dF) e.N) fun g=>
.ite g (
.r (.cont (i64.wrap (d+e.Q)))) (
.c d)
def S_qk_b2 (c:TChe) (b:Nat) (_:Unit):SC Int (Step Unit Int) :=
.reg 3 [] [] [.w b,.ev 0]<|
.range (c.law.F.length:Int) c.law.F.length rfl (.slot 17) 19 [1,4,9,10,11,17,18] (fun (a:Int)=>[(5,(vi a))]) (fun _=>[]) 0 (S_qk_b1 c b) (fun a => 
.ite (decide (a>100)) (
.r (.ret 13)) (
.r (.cont ()))) .ret
def S_qk (a:TChe):SC Int Int :=
.range (a.leaves.length:Int) a.leaves.length rfl (.slot 9) 11 [1,9,10] (fun (_:Unit)=>[]) (fun _=>[]) () (S_qk_b2 a) (fun _ => 
.r 0) id
def F_qk (a:TChe):=(S_qk a).den
theorem F_qk_ok {a:TChe}:FO (F_qk a) 105 [(TChe.d a)] [] vi NL:=fO (s:=S_qk a) Tryz.func105
def S_q2v (c:Int):SC Bool Bool :=
.a 1 1 0 (@F_qz_ok c 0 35990) fun b=>
.r b
def F_q2v (a:Int):=(S_q2v a).den
theorem F_q2v_ok {a:Int}:FO (F_q2v a) 157 [(vi a)] [] vb NL:=fO (s:=S_q2v a) Tryz.func157
def S_q3g (n:TChe) (b:TCo):SC Int Int :=
.a 2 2 2 (@F_qz_ok b.C 1 2) fun g=>
.cut none [2,3,5] (fun (c:Bool)=>[(9,(vb c))]) (fun _=>[]) (
.ite (!g) (
.r (.next (!g))) (
 let h:=(bif (b.C==2) then (b.K != 0) else false)
.ite h (
.r (.next h)) (
.r (.next (bif (!(b.C==2)) then (cO (!(b.N==([]))) (b.T != 0)) else false))))) fun c=>
.ite c (
.r 1) (
.call (@F_q2j_ok n b.B) fun d i=>
.calld [(b.C==2)=true,(!d)=false] dF (@F_q20_ok n.law b.N) fun o j =>
.reg 6 [] [(3,hc i [] true),(12,hc j [] true)] [.cl 2 i [] 2 true,.clg 0 [(b.C==2)=true,(!d)=false] j [] 2 true]<|
.ite (cO (!d) (bif (b.C==2) then (!o) else false)) (
.r 5) (
.a 8 4 2 (@F_q2k_ok n.law b.J) fun p=>
.ite (!p) (
.r 16) (
.call (@F_q2h_ok b.M) fun e k=>
.calld [(!e)=false] dF (@F_q2h_ok b.T) fun q l =>
 let f:=(cO (!e) (!q))
.calld [f=false] dF (@F_q2v_ok b.K) fun s m =>
.reg 10 [] [(2,hc k [] true),(7,hc l [] true),(13,hc m [] true)] [.cl 4 k [] 2 true,.clg 2 [(!e)=false] l [] 2 true,.clg 0 [f=false] m [] 2 true]<|
.ite (cO f (!s)) (
.r 2) (
.r 0))))
def F_q3g (a:TChe) (b:TCo):=(S_q3g a b).den
theorem F_q3g_ok {a:TChe} {b:TCo}:FO (F_q3g a b) 107 [(TChe.d a),(TCo.d b)] [] vi NL:=fO (s:=S_q3g a b) Tryz.func107
def S_q3x (_:TCo) (_:TCo):SC Int Int :=
.r (-1)
def F_q3x (a:TCo) (b:TCo):=(S_q3x a b).den
theorem F_q3x_ok {a:TCo} {b:TCo}:FO (F_q3x a b) 95 [(TCo.d a),(TCo.d b)] [] vi NL:=fO (s:=S_q3x a b) Tryz.func95
def S_q21_b1 (g:(List TCo)) (a2_0:TChe) (b:Nat) (_:Unit):SC Int (Step Unit Int) :=
.reg 3 [] [] [.w b,.ev 0]<|
.a 4 2 1 (@F_q3g_ok a2_0 (g.getD b dF)) fun e=>
.ite (e != 0) (
.r (.ret e)) (
 let c:=(decide ((b:Int)>0))
 let d:=(i64.wrap ((b:Int)-1))
.calld [c=true] dF (@F_q3x_ok (g.getD d.toNat dF) (g.getD b dF)) fun h f =>
.guard [AllP [c=true]->((0:Int)<=d),AllP [c=true]->(d.toNat<g.length)]<|
.reg 7 [] [(10,hc f [] true)] [.ev 0,.ev 1,.clg 2 [c=true] f [] 1 true]<|
.ite (bif c then (decide (h>=0)) else false) (
.r (.ret 8)) (
.r (.cont ())))
def S_q21 (a:(List TCo)) (a2_0:TChe):SC Int Int :=
.range (a.length:Int) a.length rfl (.slot 0) 12 [0,1,2,10,11] (fun (_:Unit)=>[]) (fun _=>[]) () (S_q21_b1 a a2_0) (fun _ => 
.r 0) id
def F_q21 (a:(List TCo)) (a2_0:TChe):=(S_q21 a a2_0).den
theorem F_q21_ok {a:(List TCo)} {a2_0:TChe}:FO (F_q21 a a2_0) 106 [(AV.d (eL TCo.e a)),(AV.fn 95 []),(AV.bfn 107 [(TChe.d a2_0)])] [] vi NL:=fO (s:=S_q21 a a2_0) Tryz.func106
def S_q2w (c:Int):SC Bool Bool :=
.a 1 1 0 (@F_qz_ok c 1 1000000) fun b=>
.r b
def F_q2w (a:Int):=(S_q2w a).den
theorem F_q2w_ok {a:Int}:FO (F_q2w a) 158 [(vi a)] [] vb NL:=fO (s:=S_q2w a) Tryz.func158
def S_q3h (j:TChe) (g:TRu):SC Int Int :=
.call (@F_q2w_ok g.L) fun a c=>
.calld [(!a)=false] dF (@F_qz_ok g.Q 0 100) fun h d =>
.reg 1 [] [(2,hc c [] true),(7,hc d [] true)] [.cl 2 c [] 2 true,.clg 0 [(!a)=false] d [] 2 true]<|
.ite (cO (!a) (!h)) (
.r 2) (
.call (@F_q20_ok j.law g.U) fun b e=>
.calld [(!b)=false] dF (@F_q20_ok j.law g.V) fun i f =>
.reg 3 [] [(4,hc e [] true),(11,hc f [] true)] [.cl 2 e [] 2 true,.clg 0 [(!b)=false] f [] 2 true]<|
.ite (cO (!b) (!i)) (
.r 5) (
.r 0))
def F_q3h (a:TChe) (b:TRu):=(S_q3h a b).den
theorem F_q3h_ok {a:TChe} {b:TRu}:FO (F_q3h a b) 110 [(TChe.d a),(TRu.d b)] [] vi NL:=fO (s:=S_q3h a b) Tryz.func110
def S_q3i (c:TRu) (d:TRu):SC Int Int :=
.a 1 4 2 (@F_qr_ok c.L d.L) fun b=>
.r b
def F_q3i (a:TRu) (b:TRu):=(S_q3i a b).den
theorem F_q3i_ok {a:TRu} {b:TRu}:FO (F_q3i a b) 109 [(TRu.d a),(TRu.d b)] [] vi NL:=fO (s:=S_q3i a b) Tryz.func109
def S_q1k_b1 (g:(List TRu)) (a2_0:TChe) (b:Nat) (_:Unit):SC Int (Step Unit Int) :=
.reg 3 [] [] [.w b,.ev 0]<|
.a 4 2 1 (@F_q3h_ok a2_0 (g.getD b dF)) fun e=>
.ite (e != 0) (
.r (.ret e)) (
 let c:=(decide ((b:Int)>0))
 let d:=(i64.wrap ((b:Int)-1))
.calld [c=true] dF (@F_q3i_ok (g.getD d.toNat dF) (g.getD b dF)) fun h f =>
.guard [AllP [c=true]->((0:Int)<=d),AllP [c=true]->(d.toNat<g.length)]<|
.reg 7 [] [(10,hc f [] true)] [.ev 0,.ev 1,.clg 2 [c=true] f [] 1 true]<|
.ite (bif c then (decide (h>=0)) else false) (
.r (.ret 8)) (
.r (.cont ())))
def S_q1k (a:(List TRu)) (a2_0:TChe):SC Int Int :=
.range (a.length:Int) a.length rfl (.slot 0) 12 [0,1,2,10,11] (fun (_:Unit)=>[]) (fun _=>[]) () (S_q1k_b1 a a2_0) (fun _ => 
.r 0) id
def F_q1k (a:(List TRu)) (a2_0:TChe):=(S_q1k a a2_0).den
theorem F_q1k_ok {a:(List TRu)} {a2_0:TChe}:FO (F_q1k a a2_0) 108 [(AV.d (eL TRu.e a)),(AV.fn 109 []),(AV.bfn 110 [(TChe.d a2_0)])] [] vi NL:=fO (s:=S_q1k a a2_0) Tryz.func108
def S_q3j (h:TAm) (j:TAm):SC Int Int :=
.call (@F_qr_ok h.K j.K) fun e b=>
.call (@F_qr_ok h.L j.L) fun f c=>
 let a:=([e,f]:List Int)
.call (@F_qj_ok a) fun g d=>
.reg 1 [] [(4,hc b [] true),(9,hc c [] true),(10,hv (vl a)),(11,hc d [] true)] [.cl 2 b [] 2 true,.cl 1 c [] 2 true,.pf (z5 (DV.i .i64) a),.cl 0 d [] 2 true]<|
.r g
def F_q3j (a:TAm) (b:TAm):=(S_q3j a b).den
theorem F_q3j_ok {a:TAm} {b:TAm}:FO (F_q3j a b) 159 [(TAm.d a),(TAm.d b)] [] vi NL:=fO (s:=S_q3j a b) Tryz.func159
def S_q3k (f:TChe) (b:TCh):SC Int Int :=
.a 2 2 2 (@F_qz_ok b.C 1 3) fun g=>
.ite (!g) (
.r 1) (
.call (@F_q20_ok f.law b.B) fun c d=>
.calld [(b.C==1)=true,(!c)=false] dF (@F_q2j_ok f b.B) fun h e =>
.reg 4 [] [(4,hc d [] true),(12,hc e [] true)] [.cl 2 d [] 2 true,.clg 0 [(b.C==1)=true,(!c)=false] e [] 2 true]<|
.ite (cO (!c) (bif (b.C==1) then (!h) else false)) (
.r 5) (
.a 6 4 2 (@F_q2k_ok f.law b.J) fun i=>
.ite (bif (!i) then (cO (b.C==1) (b.J != (-1))) else false) (
.r 16) (
.a 8 2 2 (@F_q2h_ok b.M) fun j=>
.ite (bif (!j) then (cO (b.C != 2) (b.M != (-1))) else false) (
.r 2) (
.r 0))))
def F_q3k (a:TChe) (b:TCh):=(S_q3k a b).den
theorem F_q3k_ok {a:TChe} {b:TCh}:FO (F_q3k a b) 162 [(TChe.d a),(TCh.d b)] [] vi NL:=fO (s:=S_q3k a b) Tryz.func162
def S_q3l (f:TCh) (g:TCh):SC Int Int :=
.call (@F_qr_ok f.C g.C) fun h b=>
.call (@F_q10_ok f.B g.B) fun j c=>
.call (@F_qr_ok f.J g.J) fun k d=>
 let a:=([h,j,k]:List Int)
.call (@F_qj_ok a) fun l e=>
.reg 1 [] [(4,hc b [] true),(9,hc c [] true),(14,hc d [] true),(15,hv (vl a)),(16,hc e [] true)] [.cl 3 b [] 2 true,.cl 2 c [] 2 true,.cl 1 d [] 2 true,.pf (z5 (DV.i .i64) a),.cl 0 e [] 2 true]<|
.r l
def F_q3l (a:TCh) (b:TCh):=(S_q3l a b).den
theorem F_q3l_ok {a:TCh} {b:TCh}:FO (F_q3l a b) 161 [(TCh.d a),(TCh.d b)] [] vi NL:=fO (s:=S_q3l a b) Tryz.func161
def S_q1l_b1 (g:(List TCh)) (a2_0:TChe) (b:Nat) (_:Unit):SC Int (Step Unit Int) :=
.reg 3 [] [] [.w b,.ev 0]<|
.a 4 2 1 (@F_q3k_ok a2_0 (g.getD b dF)) fun e=>
.ite (e != 0) (
.r (.ret e)) (
 let c:=(decide ((b:Int)>0))
 let d:=(i64.wrap ((b:Int)-1))
.calld [c=true] dF (@F_q3l_ok (g.getD d.toNat dF) (g.getD b dF)) fun h f =>
.guard [AllP [c=true]->((0:Int)<=d),AllP [c=true]->(d.toNat<g.length)]<|
.reg 7 [] [(10,hc f [] true)] [.ev 0,.ev 1,.clg 2 [c=true] f [] 1 true]<|
.ite (bif c then (decide (h>=0)) else false) (
.r (.ret 8)) (
.r (.cont ())))
def S_q1l (a:(List TCh)) (a2_0:TChe):SC Int Int :=
.range (a.length:Int) a.length rfl (.slot 0) 12 [0,1,2,10,11] (fun (_:Unit)=>[]) (fun _=>[]) () (S_q1l_b1 a a2_0) (fun _ => 
.r 0) id
def F_q1l (a:(List TCh)) (a2_0:TChe):=(S_q1l a a2_0).den
theorem F_q1l_ok {a:(List TCh)} {a2_0:TChe}:FO (F_q1l a a2_0) 160 [(AV.d (eL TCh.e a)),(AV.fn 161 []),(AV.bfn 162 [(TChe.d a2_0)])] [] vi NL:=fO (s:=S_q1l a a2_0) Tryz.func160
def S_q22_b1 (l:TChe) (e:Nat) (_:Unit):SC Int (Step Unit Int) :=
.reg 3 [] [(3,{ obs:=[(1,(TAm.b (⟨0,0,[]⟩:TAm)))] })] [.w e,.ev 0,.pf cz2]<|
 let c:=(l.law.A.getD e dF)
.call (@F_q2v_ok c.K) fun f h=>
.calld [(!f)=false] dF (@F_q2w_ok c.L) fun m i =>
.reg 4 [] [(2,hc h [] true),(7,hc i [] true)] [.cl 2 h [] 2 true,.clg 0 [(!f)=false] i [] 2 true]<|
.ite (cO (!f) (!m)) (
.r (.ret 2)) (
 let d:=(decide ((e:Int)>0))
 let g:=(i64.wrap ((e:Int)-1))
.calld [d=true] dF (@F_q3j_ok (l.law.A.getD g.toNat dF) c) fun n j =>
.guard [AllP [d=true]->((0:Int)<=g),AllP [d=true]->(g.toNat<l.law.A.length)]<|
.reg 6 [] [(11,hc j [] true)] [.ev 0,.ev 1,.clg 2 [d=true] j [] 2 true]<|
.ite (bif d then (decide (n>=0)) else false) (
.r (.ret 8)) (
.ite ((c.D.length:Int)==0) (
.r (.ret 1)) (
.a 10 4 2 (@F_q1l_ok c.D l) fun k=>
.ite (k != 0) (
.r (.ret k)) (
.r (.cont ())))))
def S_q22 (a:TChe):SC Int Int :=
.range (a.law.A.length:Int) a.law.A.length rfl (.slot 8) 10 [1,8,9] (fun (_:Unit)=>[]) (fun _=>[]) () (S_q22_b1 a) (fun _ => 
.r 0) id
def F_q22 (a:TChe):=(S_q22 a).den
theorem F_q22_ok {a:TChe}:FO (F_q22 a) 111 [(TChe.d a)] [] vi NL:=fO (s:=S_q22 a) Tryz.func111
def S_q23_b1 (b:(List Int)) (a:Nat) (_:Unit):SC Int (Step Unit Int) :=
.reg 4 [] [] [.w a,.ev 0]<|
.ite ((b.getD a dF) != 0) (
.r (.ret (b.getD a dF))) (
.r (.cont ()))
def S_q23 (a:(List Int)):SC Int Int :=
.range (a.length:Int) a.length rfl (.slot 6) 8 [3,6,7] (fun (_:Unit)=>[]) (fun _=>[]) () (S_q23_b1 a) (fun _ => 
.r 0) id
def F_q23 (a:(List Int)):=(S_q23 a).den
theorem F_q23_ok {a:(List Int)}:FO (F_q23 a) 67 [(vl a)] [] vi NL:=fO (s:=S_q23 a) Tryz.func67
theorem cz4:OLe (bx (DV.agg [(DV.agg [(DV.i .i64 0),(DV.i .i64 0),Z0,Z0,Z0,Z0,Z0,Z0,Z0,Z0]),Z0])) (TChe.b (⟨(⟨0,0,[],[],[],[],[],[],[],[]⟩:TLa),[]⟩:TChe)):=z77 (DLe.agg (DLeL.cons (DLe.agg (DLeL.cons (DLe.refl _) (DLeL.cons (DLe.refl _) (DLeL.cons DLe.sl0 (DLeL.cons DLe.sl0 (DLeL.cons DLe.sl0 (DLeL.cons DLe.sl0 (DLeL.cons DLe.sl0 (DLeL.cons DLe.sl0 (DLeL.cons DLe.sl0 (DLeL.cons DLe.sl0 DLeL.nil))))))))))) (DLeL.cons DLe.sl0 DLeL.nil)))
def S_q2x (f:TLa):SC Int Int :=
 let g:=(⟨f,[]⟩:TChe)
.reg 1 [] [(1,hv (TChe.d g)),(2,{ obs:=[(1,(TChe.b (⟨(⟨0,0,[],[],[],[],[],[],[],[]⟩:TLa),[]⟩:TChe)))] })] [.pf (p:=LeV (AV.d (DV.agg [(TLa.e f),Z0])) (TChe.d g)) (z78 rfl (DLe.agg (DLeL.cons (DLe.refl _) (DLeL.cons DLe.sl0 DLeL.nil)))),.pf cz4]<|
.a 2 1 2 (@F_q38_ok g) fun l=>
.ite (l != 0) (
.r l) (
.a 5 2 2 (@F_q8_ok f.H ([])) fun x=>
 let c:=(⟨g.law,x⟩:TChe)
.call (@F_q1i_ok f.P c) fun y m=>
.call (@F_q11_ok f.R c) fun z n=>
.call (@F_q11_ok f.S c) fun A o=>
.call (@F_q1j_ok f.F c) fun B q=>
.call (@F_qk_ok c) fun C s=>
.call (@F_q21_ok f.I c) fun D t=>
.call (@F_q1k_ok f.O c) fun E u=>
.call (@F_q22_ok c) fun v h=>
 let k:=([y,z,A,B,C,D,E,v]:List Int)
.call (@F_q23_ok k) fun w j=>
.reg 7 [] [(4,hc m [] true),(9,hc n [] true),(14,hc o [] true),(19,hc q [] true),(21,hc s [] true),(27,hc t [] true),(32,hc u [] true),(34,hc h [] true),(35,hv (vl k)),(36,hc j [] true)] [.cl 8 m [] 2 true,.cl 7 n [] 2 true,.cl 6 o [] 2 true,.cl 5 q [] 2 true,.cl 4 s [] 2 true,.cl 3 t [] 2 true,.cl 2 u [] 2 true,.cl 1 h [] 2 true,.pf (z5 (DV.i .i64) k),.cl 0 j [] 2 true]<|
.r w)
def F_q2x (a:TLa):=(S_q2x a).den
theorem F_q2x_ok {a:TLa}:FO (F_q2x a) 41 [(TLa.d a)] [] vi NL:=fO (s:=S_q2x a) Tryz.func41
def S_q3y (a:TAm) (b:Int):SC Bool Bool :=
.r (decide (a.K>b))
def F_q3y (a:TAm) (b:Int):=(S_q3y a b).den
theorem F_q3y_ok {b:TAm} {a:Int}:FO (F_q3y b a) 43 [(TAm.d b),(vp 0)] [(Ob.box (vi a))] vb (fun _=>[(Ob.box (vi a))]):=fO (s:=S_q3y b a) Tryz.func43
def S_q24_b1 (d:(List TAm)) (e:Int) (a:Nat) (_:Unit):SC Int (Step Unit Int) :=
.call (@F_q3y_ok (d.getD a dF) e) fun c b=>
.reg 4 [] [(5,hc b [0] true)] [.w a,.ev 1,.cl 0 b [0] 1 true]<|
.ite c (
.r (.ret (a:Int))) (
.r (.cont ()))
def S_q24 (a:(List TAm)) (b:Int):SC Int Int :=
.range (a.length:Int) a.length rfl (.slot 0) 8 [0,1,7] (fun (_:Unit)=>[]) (fun _=>[]) () (S_q24_b1 a b) (fun _ => 
.r (-1)) id
def F_q24 (a:(List TAm)) (b:Int):=(S_q24 a b).den
theorem F_q24_ok {b:(List TAm)} {a:Int}:FO (F_q24 b a) 42 [(AV.d (eL TAm.e b)),(AV.fn 43 [(vp 0)])] [(Ob.box (vi a))] vi (fun _=>[(Ob.box (vi a))]):=fO (s:=S_q24 b a) Tryz.func42
theorem cz5:∀ k,k<0->(DV.b false).wd=2:=fun _ h=>absurd h (y4t _)
def S_q3z (a:(List THe)):SC (List THe) (List THe) :=
.reg 0 [] [] []<|
 let b:=(AV.d (eL THe.e a))
.nils 0 (
.guard [(0+a.length) * (2 * 32)<=2 ^ 48]<|
.reg 1 [] [] []<|
.lev 0 b (.pf (lvQ true a.length fun j=>(THe.e (a.getD j dF))))<|
.br true (.pf (p:=true=true) rfl)<|
.reg 2 [] [] []<|
.lev 2 b (.der (fun (h:a.length=0)=>lvZ THe.e a h) 1)<|
.r a) (
.reg 1 [] [] []<|
.lev 0 b (.pf (lvQ false a.length fun j=>(THe.e (a.getD j dF))))<|
.br false (.pf (p:=false=false) rfl)<|
.guard [(0+a.length) * (2 * 32)<=2 ^ 48]<|
.reg 3 [] [(2,hv b)] [.pf (p:=∀ k,k<a.length->AV.d (THe.e (a.getD k dF))=AV.d (THe.e (a.getD k dF))/\(THe.e (a.getD k dF)).wd=2) (fun _ _=>⟨rfl,rfl⟩),.pf cz5,.ev 0,.pf (z32 (e:=THe.e) (x:=a))]<|
.r a)
def F_q3z (a:(List THe)):=(S_q3z a).den
theorem F_q3z_ok {a:(List THe)}:FO (F_q3z a) 125 [(AV.d (eL THe.e a))] [] (fun x=>(AV.d (eL THe.e x))) NL:=fO (s:=S_q3z a) Tryz.func125
theorem cz6:∀ k,k<0->(DV.b false).wd=3:=fun _ h=>absurd h (y4t _)
def S_q40 (a:(List TLi)):SC (List TLi) (List TLi) :=
.reg 0 [] [] []<|
 let b:=(AV.d (eL TLi.e a))
.nils 0 (
.guard [(0+a.length) * (2 * 32)<=2 ^ 48]<|
.reg 1 [] [] []<|
.lev 0 b (.pf (lvQ true a.length fun j=>(TLi.e (a.getD j dF))))<|
.br true (.pf (p:=true=true) rfl)<|
.reg 2 [] [] []<|
.lev 2 b (.der (fun (h:a.length=0)=>lvZ TLi.e a h) 1)<|
.r a) (
.reg 1 [] [] []<|
.lev 0 b (.pf (lvQ false a.length fun j=>(TLi.e (a.getD j dF))))<|
.br false (.pf (p:=false=false) rfl)<|
.guard [(0+a.length) * (2 * 32)<=2 ^ 48]<|
.reg 3 [] [(2,hv b)] [.pf (p:=∀ k,k<a.length->AV.d (TLi.e (a.getD k dF))=AV.d (TLi.e (a.getD k dF))/\(TLi.e (a.getD k dF)).wd=3) (fun _ _=>⟨rfl,rfl⟩),.pf cz6,.ev 0,.pf (z32 (e:=TLi.e) (x:=a))]<|
.r a)
def F_q40 (a:(List TLi)):=(S_q40 a).den
theorem F_q40_ok {a:(List TLi)}:FO (F_q40 a) 126 [(AV.d (eL TLi.e a))] [] (fun x=>(AV.d (eL TLi.e x))) NL:=fO (s:=S_q40 a) Tryz.func126
def S_q3m (a:(List TBo)):SC (List TBo) (List TBo) :=
.reg 0 [] [] []<|
 let b:=(AV.d (eL TBo.e a))
.nils 0 (
.guard [(0+a.length) * (2 * 32)<=2 ^ 48]<|
.reg 1 [] [] []<|
.lev 0 b (.pf (lvQ true a.length fun j=>(TBo.e (a.getD j dF))))<|
.br true (.pf (p:=true=true) rfl)<|
.reg 2 [] [] []<|
.lev 2 b (.der (fun (h:a.length=0)=>lvZ TBo.e a h) 1)<|
.r a) (
.reg 1 [] [] []<|
.lev 0 b (.pf (lvQ false a.length fun j=>(TBo.e (a.getD j dF))))<|
.br false (.pf (p:=false=false) rfl)<|
.guard [(0+a.length) * (2 * 32)<=2 ^ 48]<|
.reg 3 [] [(2,hv b)] [.pf (p:=∀ k,k<a.length->AV.d (TBo.e (a.getD k dF))=AV.d (TBo.e (a.getD k dF))/\(TBo.e (a.getD k dF)).wd=3) (fun _ _=>⟨rfl,rfl⟩),.pf cz6,.ev 0,.pf (z32 (e:=TBo.e) (x:=a))]<|
.r a)
def F_q3m (a:(List TBo)):=(S_q3m a).den
theorem F_q3m_ok {a:(List TBo)}:FO (F_q3m a) 127 [(AV.d (eL TBo.e a))] [] (fun x=>(AV.d (eL TBo.e x))) NL:=fO (s:=S_q3m a) Tryz.func127
def S_q41 (a:(List TEa)):SC (List TEa) (List TEa) :=
.reg 0 [] [] []<|
 let b:=(AV.d (eL TEa.e a))
.nils 0 (
.guard [(0+a.length) * (2 * 40)<=2 ^ 48]<|
.reg 1 [] [] []<|
.lev 0 b (.pf (lvQ true a.length fun j=>(TEa.e (a.getD j dF))))<|
.br true (.pf (p:=true=true) rfl)<|
.reg 2 [] [] []<|
.lev 2 b (.der (fun (h:a.length=0)=>lvZ TEa.e a h) 1)<|
.r a) (
.reg 1 [] [] []<|
.lev 0 b (.pf (lvQ false a.length fun j=>(TEa.e (a.getD j dF))))<|
.br false (.pf (p:=false=false) rfl)<|
.guard [(0+a.length) * (2 * 40)<=2 ^ 48]<|
.reg 3 [] [(2,hv b)] [.pf (p:=∀ k,k<a.length->AV.d (TEa.e (a.getD k dF))=AV.d (TEa.e (a.getD k dF))/\(TEa.e (a.getD k dF)).wd=3) (fun _ _=>⟨rfl,rfl⟩),.pf cz6,.ev 0,.pf (z32 (e:=TEa.e) (x:=a))]<|
.r a)
def F_q41 (a:(List TEa)):=(S_q41 a).den
theorem F_q41_ok {a:(List TEa)}:FO (F_q41 a) 128 [(AV.d (eL TEa.e a))] [] (fun x=>(AV.d (eL TEa.e x))) NL:=fO (s:=S_q41 a) Tryz.func128
theorem cz7:∀ k,k<0->(DV.b false).wd=7:=fun _ h=>absurd h (y4t _)
def S_q42 (a:(List TCo)):SC (List TCo) (List TCo) :=
.reg 0 [] [] []<|
 let b:=(AV.d (eL TCo.e a))
.nils 0 (
.guard [(0+a.length) * (2 * 72)<=2 ^ 48]<|
.reg 1 [] [] []<|
.lev 0 b (.pf (lvQ true a.length fun j=>(TCo.e (a.getD j dF))))<|
.br true (.pf (p:=true=true) rfl)<|
.reg 2 [] [] []<|
.lev 2 b (.der (fun (h:a.length=0)=>lvZ TCo.e a h) 1)<|
.r a) (
.reg 1 [] [] []<|
.lev 0 b (.pf (lvQ false a.length fun j=>(TCo.e (a.getD j dF))))<|
.br false (.pf (p:=false=false) rfl)<|
.guard [(0+a.length) * (2 * 72)<=2 ^ 48]<|
.reg 3 [] [(2,hv b)] [.pf (p:=∀ k,k<a.length->AV.d (TCo.e (a.getD k dF))=AV.d (TCo.e (a.getD k dF))/\(TCo.e (a.getD k dF)).wd=7) (fun _ _=>⟨rfl,rfl⟩),.pf cz7,.ev 0,.pf (z32 (e:=TCo.e) (x:=a))]<|
.r a)
def F_q42 (a:(List TCo)):=(S_q42 a).den
theorem F_q42_ok {a:(List TCo)}:FO (F_q42 a) 129 [(AV.d (eL TCo.e a))] [] (fun x=>(AV.d (eL TCo.e x))) NL:=fO (s:=S_q42 a) Tryz.func129
theorem cz8:∀ k,k<0->(DV.b false).wd=4:=fun _ h=>absurd h (y4t _)
def S_q43 (a:(List TRu)):SC (List TRu) (List TRu) :=
.reg 0 [] [] []<|
 let b:=(AV.d (eL TRu.e a))
.nils 0 (
.guard [(0+a.length) * (2 * 48)<=2 ^ 48]<|
.reg 1 [] [] []<|
.lev 0 b (.pf (lvQ true a.length fun j=>(TRu.e (a.getD j dF))))<|
.br true (.pf (p:=true=true) rfl)<|
.reg 2 [] [] []<|
.lev 2 b (.der (fun (h:a.length=0)=>lvZ TRu.e a h) 1)<|
.r a) (
.reg 1 [] [] []<|
.lev 0 b (.pf (lvQ false a.length fun j=>(TRu.e (a.getD j dF))))<|
.br false (.pf (p:=false=false) rfl)<|
.guard [(0+a.length) * (2 * 48)<=2 ^ 48]<|
.reg 3 [] [(2,hv b)] [.pf (p:=∀ k,k<a.length->AV.d (TRu.e (a.getD k dF))=AV.d (TRu.e (a.getD k dF))/\(TRu.e (a.getD k dF)).wd=4) (fun _ _=>⟨rfl,rfl⟩),.pf cz8,.ev 0,.pf (z32 (e:=TRu.e) (x:=a))]<|
.r a)
def F_q43 (a:(List TRu)):=(S_q43 a).den
theorem F_q43_ok {a:(List TRu)}:FO (F_q43 a) 130 [(AV.d (eL TRu.e a))] [] (fun x=>(AV.d (eL TRu.e x))) NL:=fO (s:=S_q43 a) Tryz.func130
def S_q44 (a:(List TCh)):SC (List TCh) (List TCh) :=
.reg 0 [] [] []<|
 let b:=(AV.d (eL TCh.e a))
.nils 0 (
.guard [(0+a.length) * (2 * 40)<=2 ^ 48]<|
.reg 1 [] [] []<|
.lev 0 b (.pf (lvQ true a.length fun j=>(TCh.e (a.getD j dF))))<|
.br true (.pf (p:=true=true) rfl)<|
.reg 2 [] [] []<|
.lev 2 b (.der (fun (h:a.length=0)=>lvZ TCh.e a h) 1)<|
.r a) (
.reg 1 [] [] []<|
.lev 0 b (.pf (lvQ false a.length fun j=>(TCh.e (a.getD j dF))))<|
.br false (.pf (p:=false=false) rfl)<|
.guard [(0+a.length) * (2 * 40)<=2 ^ 48]<|
.reg 3 [] [(2,hv b)] [.pf (p:=∀ k,k<a.length->AV.d (TCh.e (a.getD k dF))=AV.d (TCh.e (a.getD k dF))/\(TCh.e (a.getD k dF)).wd=4) (fun _ _=>⟨rfl,rfl⟩),.pf cz8,.ev 0,.pf (z32 (e:=TCh.e) (x:=a))]<|
.r a)
def F_q44 (a:(List TCh)):=(S_q44 a).den
theorem F_q44_ok {a:(List TCh)}:FO (F_q44 a) 131 [(AV.d (eL TCh.e a))] [] (fun x=>(AV.d (eL TCh.e x))) NL:=fO (s:=S_q44 a) Tryz.func131
end
end Go.Proofs.YtgfgnhpecnmlpaaGreatDoor
/- What the functions compute,and that their calls return it. No condition. -/
namespace Go.Proofs.YtgfgnhpecnmlpaaGreatDoor
open Go Go.TA
open Go.IntKind (i64)
noncomputable section
set_option maxRecDepth 100000
def S_q1m_b1 (n:TLa) (j:Nat) (f:Int×Int×(List THe)×(List TLi)×(List TBo)×(List TBo)×(List TEa)×(List TCo)×(List TRu)×(List TAm)):SC TLa (Step (Int×Int×(List THe)×(List TLi)×(List TBo)×(List TBo)×(List TEa)×(List TCo)×(List TRu)×(List TAm)) TLa) :=
.reg 7 [] [(2,{ obs:=[(3,(TAm.b (⟨0,0,[]⟩:TAm)))] })] [.w j,.ev 0,.pf cz2]<|
 let i:=(n.A.getD j dF)
.a 8 2 4 (@F_q44_ok i.D) fun m=>
.guard [(f.2.2.2.2.2.2.2.2.2.length+1) * (2 * 40)<=2 ^ 48]<|
 let g:=([(⟨i.K,i.L,m⟩:TAm)]:List TAm)
 let h:=(f.2.2.2.2.2.2.2.2.2++g)
.reg 9 [] [(3,hv (AV.d (eL TAm.e g))),(4,{ cast:=some (AV.ref 2 h.length 0 h.length),obs:=[(2,(eS 3 TAm.e h))] })] [.pf (z5 TAm.e g),.e f.2.2.2.2.2.2.2.2.2.length,.e f.2.2.2.2.2.2.2.2.2.length,.pf (p:=∀ k,k<1->(TAm.d (g.getD k dF)).wd=3) (fun _ _=>rfl),.ev 0,.pf (zi (o:=2) (l:=f.2.2.2.2.2.2.2.2.2) (x:=g)),.pf (zh (sz:=3) (e:=TAm.e) (l:=f.2.2.2.2.2.2.2.2.2) (x:=g))]<|
.c (f.1,f.2.1,f.2.2.1,f.2.2.2.1,f.2.2.2.2.1,f.2.2.2.2.2.1,f.2.2.2.2.2.2.1,f.2.2.2.2.2.2.2.1,f.2.2.2.2.2.2.2.2.1,h)
def S_q1m (c:TLa):SC TLa TLa :=
 let i:=(TLa.b (⟨0,0,[],[],[],[],[],[],[],[]⟩:TLa))
.reg 0 [] [(1,{ obs:=[(1,i)] })] [.pf cz3]<|
.call (@F_q3z_ok c.H) fun l s=>
.call (@F_q40_ok c.P) fun m t=>
.call (@F_q3m_ok c.R) fun n u=>
.call (@F_q3m_ok c.S) fun o v=>
.reg 1 [13,15,17,19] [(2,hc s [] true),(5,hc t [] true),(8,hc u [] true),(11,hc v [] true)] [.cl 3 s [] 2 true,.cl 2 t [] 2 true,.cl 1 u [] 2 true,.cl 0 v [] 2 true]<|
.call (@F_q41_ok c.F) fun p w=>
.call (@F_q42_ok c.I) fun q x=>
.call (@F_q43_ok c.O) fun g h=>
.reg 2 [10,12,14] [(2,hc w [] true),(5,hc x [] true),(8,hc h [] true)] [.cl 2 w [] 2 true,.cl 1 x [] 2 true,.cl 0 h [] 2 true]<|
.reg 4 [] [] []<|
 let y:=[(1,(vp 0)),(2,(vp 1)),(3,(AV.d (eL TAm.e c.A)))]
.sh (A:=True) (.pf trivial) y y [(Ob.box (AV.agg [(vi c.E),(vi c.G),(AV.d (eL THe.e l)),(AV.d (eL TLi.e m)),(AV.d (eL TBo.e n)),(AV.d (eL TBo.e o)),(AV.d (eL TEa.e p)),(AV.d (eL TCo.e q)),(AV.d (eL TRu.e g)),(AV.full 0 fun _=>DV.b false)])),i] [(Ob.box (AV.agg [(vi c.E),(vi c.G),(AV.d (eL THe.e l)),(AV.d (eL TLi.e m)),(AV.d (eL TBo.e n)),(AV.d (eL TBo.e o)),(AV.d (eL TEa.e p)),(AV.d (eL TCo.e q)),(AV.d (eL TRu.e g)),(AV.ref 2 0 0 0)])),i,(eS 3 TAm.e ([]:List TAm))] (fun _=>(z1h (sz:=3) (f:=fun j=>AV.d (TAm.e (([]:List TAm).getD j dF))) (.box _ _ _ _ _ (y8 rfl) (TrV.agg (TrL.cons (TrV.keep _) (TrL.cons (TrV.keep _) (TrL.cons (TrV.keep _) (TrL.cons (TrV.keep _) (TrL.cons (TrV.keep _) (TrL.cons (TrV.keep _) (TrL.cons (TrV.keep _) (TrL.cons (TrV.keep _) (TrL.cons (TrV.keep _) (TrL.cons TrV.born TrL.nil))))))))))) (.keep _ _ _ _ (y8 rfl) (.nil _))))) (zj (k:=0) rfl (TrS.keep _) (zj (k:=1) rfl (TrS.keep _) (zj (k:=2) rfl (TrS.keep _) z1l)))<|
.range (c.A.length:Int) c.A.length rfl (.slot 37) 39 [1,2,37,38] (fun (_:Int×Int×(List THe)×(List TLi)×(List TBo)×(List TBo)×(List TEa)×(List TCo)×(List TRu)×(List TAm))=>[]) (fun a=>[(0,(Ob.box (AV.agg [(vi a.1),(vi a.2.1),(AV.d (eL THe.e a.2.2.1)),(AV.d (eL TLi.e a.2.2.2.1)),(AV.d (eL TBo.e a.2.2.2.2.1)),(AV.d (eL TBo.e a.2.2.2.2.2.1)),(AV.d (eL TEa.e a.2.2.2.2.2.2.1)),(AV.d (eL TCo.e a.2.2.2.2.2.2.2.1)),(AV.d (eL TRu.e a.2.2.2.2.2.2.2.2.1)),(AV.ref 2 a.2.2.2.2.2.2.2.2.2.length 0 a.2.2.2.2.2.2.2.2.2.length)]))),(2,(eS 3 TAm.e a.2.2.2.2.2.2.2.2.2))]) (c.E,c.G,l,m,n,o,p,q,g,([]:List TAm)) (S_q1m_b1 c) (fun a => 
.guard [a.2.2.2.2.2.2.2.2.2.length<2 ^ 63]<|
.reg 11 [] [] []<|
.frz 2 (.ev 0) none [] [0,1]<|
.r (⟨a.1,a.2.1,a.2.2.1,a.2.2.2.1,a.2.2.2.2.1,a.2.2.2.2.2.1,a.2.2.2.2.2.2.1,a.2.2.2.2.2.2.2.1,a.2.2.2.2.2.2.2.2.1,a.2.2.2.2.2.2.2.2.2⟩:TLa)) id
def F_q1m (a:TLa):=(S_q1m a).den
theorem F_q1m_ok {a:TLa}:FO (F_q1m a) 64 [(TLa.d a)] [] (fun x=>(TLa.d x)) NL:=fO (s:=S_q1m a) Tryz.func64
def S_q2o (a:TLi):SC TPl TPl :=
.r (⟨a.B,a.J⟩:TPl)
def F_q2o (a:TLi):=(S_q2o a).den
theorem F_q2o_ok {a:TLi}:FO (F_q2o a) 163 [(TLi.d a)] [] (fun x=>(TPl.d x)) NL:=fO (s:=S_q2o a) Tryz.func163
def S_q2p (h:TPl) (j:TPl):SC Int Int :=
.call (@F_q10_ok h.code j.code) fun e b=>
.call (@F_qr_ok h.year j.year) fun f c=>
 let a:=([e,f]:List Int)
.call (@F_qj_ok a) fun g d=>
.reg 1 [] [(4,hc b [] true),(9,hc c [] true),(10,hv (vl a)),(11,hc d [] true)] [.cl 2 b [] 2 true,.cl 1 c [] 2 true,.pf (z5 (DV.i .i64) a),.cl 0 d [] 2 true]<|
.r g
def F_q2p (a:TPl) (b:TPl):=(S_q2p a b).den
theorem F_q2p_ok {a:TPl} {b:TPl}:FO (F_q2p a b) 190 [(TPl.d a),(TPl.d b)] [] vi NL:=fO (s:=S_q2p a b) Tryz.func190
abbrev R_q12:=Int×Bool
def S_q12_b1 (g:TPl) (c:(List TPl)) (a:Int×Int):SC R_q12 (Step (Int×Int) R_q12) :=
.ite (decide (a.1<a.2)) (
.reg 4 [] [] [.pf (p:=(0:Int)<=1) dk]<|
 let b:=(i64.wrap ((IntKind.u64.wrap (i64.wrap (a.1+a.2))).fdiv (2 ^ (min (1:Int).toNat IntKind.u64.bits))))
.call (@F_q2p_ok (c.getD (0+b.toNat) dF) g) fun f d=>
.guard [(0:Int)<=b,b.toNat<c.length,(0+b.toNat)<c.length]<|
.reg 5 [] [(6,hc d [] true)] [.e c.length,.ev 0,.ev 1,.e c.length,.ev 2,.cl 3 d [] 2 true]<|
.ite (decide (f<0)) (
.r (.cont ((i64.wrap (b+1)),a.2))) (
.r (.cont (a.1,b)))) (
.r (.brk (a.1,a.2)))
def S_q12 (f:TPl) (c:(List TPl)):SC R_q12 R_q12 :=
.iter [0,2,4,8] (fun (a:Int×Int)=>[(9,(vi a.1)),(10,(vi a.2))]) (fun _=>[]) (0,(c.length:Int)) (S_q12_b1 f c) (fun a =>
 let b:=(decide (a.1<(c.length:Int)))
.calld [b=true] dF (@F_q2p_ok (c.getD (0+a.1.toNat) dF) f) fun e d =>
.guard [AllP [b=true]->((0:Int)<=a.1),AllP [b=true]->(a.1.toNat<c.length),AllP [b=true]->((0+a.1.toNat)<c.length)]<|
.reg 8 [] [(11,hc d [] true)] [.pf (p:=AllP [b=true]->(c.length=c.length)) (fun _=>rfl),.ev 0,.ev 1,.pf (p:=AllP [b=true]->(c.length=c.length)) (fun _=>rfl),.ev 2,.clg 3 [b=true] d [] 2 true]<|
.r (a.1,(bif b then (e==0) else false))) id
def F_q12 (a:TPl) (b:(List TPl)):=(S_q12 a b).den
theorem F_q12_ok {b:TPl} {a:(List TPl)}:FO (F_q12 b a) 189 [(AV.ref 0 a.length 0 a.length),(TPl.d b),(AV.fn 190 [])] [(eS 2 TPl.e a)] (fun x=>(AV.tup [(vi x.1),(vb x.2)])) (fun _=>[(eS 2 TPl.e a)]):=fO (s:=S_q12 b a) Tryz.func189
def S_q3n (a:(List TLi)):SC (List TLi) (List TLi) :=
.reg 0 [] [] []<|
.nils 0 (
.guard [a.length * (2 * 32)<=2 ^ 48]<|
.reg 1 [] [] []<|
.lev 0 (AV.d (eL TLi.e a)) (.pf (lvQ true a.length fun j=>(TLi.e (a.getD j dF))))<|
.br true (.pf (p:=true=true) rfl)<|
.reg 2 [] [] []<|
.bor 3 (fun j=>AV.d (TLi.e (a.getD j dF))) [2]<|
.cst (A:=a.length=0) (.ev 1) [(2,AV.ref 0 0 0 0)] [(2,(AV.ref 0 a.length 0 a.length))] [(Ob.seq 3 0 fun j=>AV.d (TLi.e (a.getD j dF)))] [(eS 3 TLi.e a)] (fun h=>⟨by rw[h],by unfold eS; rw[h]⟩)<|
.r a) (
.reg 1 [] [] []<|
.lev 0 (AV.d (eL TLi.e a)) (.pf (lvQ false a.length fun j=>(TLi.e (a.getD j dF))))<|
.br false (.pf (p:=false=false) rfl)<|
.guard [a.length * (2 * 32)<=2 ^ 48]<|
.reg 3 [] [(2,{ h:=.obj })] [.pf (p:=∀ k,k<a.length->(TLi.d (a.getD k dF)).wd=3) (fun _ _=>rfl),.ev 0]<|
.r a)
def F_q3n (a:(List TLi)):=(S_q3n a).den
theorem F_q3n_ok {a:(List TLi)}:FO (F_q3n a) 126 [(AV.d (eL TLi.e a))] [] (fun x=>(AV.ref 0 x.length 0 x.length)) (fun x=>[(eS 3 TLi.e x)]):=fO (s:=S_q3n a) Tryz.func126
def S_q3o (q:Int) (o:Int) (a:(List TLi)):SC (List TLi) (List TLi) :=
.guard [(0:Int)<=q,(0:Int)<=o,q.toNat<=o.toNat,o.toNat<=a.length]<|
.reg 1 [] [] [.ev 0,.ev 1,.ev 2,.ev 3,.e a.length,.pf (nn a.length),.ev 3,.pf (p:=a.length<=a.length) (ya _)]<|
.ite (q==o) (
.guard [a.length<2 ^ 63]<|
.reg 3 [] [] []<|
.frz 0 (.ev 0) none [6] []<|
.r a) (
 let c:=(a.length-o.toNat)
 let f:=(q.toNat-0)
.guard [q.toNat<=a.length,f+c<=a.length]<|
 let g:=(0+o.toNat)
.reg 5 [6] [(6,{ h:=.imm,obs:=[(0,(eS 3 TLi.e (copyL a f c (fun i=>(a.getD (g+i) dF)))))] })] [.ev 3,.ev 0,.e a.length,.ev 4,.ev 6,.e a.length,.e a.length,.e a.length,.ev 1,.pf (p:=∀ k,k<c->(TLi.d (a.getD (g+k) dF)).wd=3) (fun _ _=>rfl),.pf (z5v (sz:=3) (e:=TLi.e) (l:=a) (off:=f) (k:=c) (s:=(fun i=>(a.getD (g+i) dF))))]<|
 let b:=(f+c)
 let t:=(7,(vi (a.length:Int)))
.cst (A:=True) (.pf trivial) [(0,(AV.ref 0 a.length 0 b)),t] [(0,(AV.ref 0 ((copyL a f c (fun i=>(a.getD (g+i) dF))).length) 0 b)),t] [(eS 3 TLi.e (copyL a f c (fun i=>(a.getD (g+i) dF))))] [(eS 3 TLi.e (copyL a f c (fun i=>(a.getD (g+i) dF))))] (fun _=>⟨by simp +zetaDelta only[zl],by rfl⟩)<|
.guard [b<=a.length,a.length<=(copyL a f c (fun i=>(a.getD (g+i) dF))).length]<|
 let j:=(⟨[],0,0⟩:TLi)
 let m:=(a.length-b)
.reg 6 [] [(5,{ obs:=[(0,(eS 3 TLi.e (clearL (copyL a f c (fun i=>(a.getD (g+i) dF))) (0+b) m j)))] })] [.w b,.pf (nn a.length),.ev 0,.ev 1,.pf (y1n ((copyL a f c (fun i=>(a.getD (g+i) dF))).length)),.pf (y1n ((copyL a f c (fun i=>(a.getD (g+i) dF))).length)),.pf (za3 (sz:=3) (e:=TLi.e) (l:=(copyL a f c (fun i=>(a.getD (g+i) dF)))) (off:=(0+b)) (n:=m) (z:=j))]<|
.cst (A:=True) (.pf trivial) [(0,(AV.ref 0 ((copyL a f c (fun i=>(a.getD (g+i) dF))).length) 0 b))] [(0,(AV.ref 0 ((clearL (copyL a f c (fun i=>(a.getD (g+i) dF))) (0+b) m j).length) 0 b))] [(eS 3 TLi.e (clearL (copyL a f c (fun i=>(a.getD (g+i) dF))) (0+b) m j))] [(eS 3 TLi.e (clearL (copyL a f c (fun i=>(a.getD (g+i) dF))) (0+b) m j))] (fun _=>⟨by simp +zetaDelta only[z1b,zl],by rfl⟩)<|
.guard [(clearL (copyL a f c (fun i=>(a.getD (g+i) dF))) (0+b) m j).length<2 ^ 63]<|
.reg 7 [] [] []<|
.guard [b<=(clearL (copyL a f c (fun i=>(a.getD (g+i) dF))) (0+b) m j).length]<|
.frz 0 (.ev 1) (some (.der (fun (h:b<=(clearL (copyL a f c (fun i=>(a.getD (g+i) dF))) (0+b) m j).length)=>(h:b<=(clearL (copyL a f c (fun i=>(a.getD (g+i) dF))) (0+b) m j).length)) 0)) [6] []<|
.lev 6 (AV.d (eL TLi.e ((clearL (copyL a f c (fun i=>(a.getD (g+i) dF))) (0+b) m j).take b))) (.der (fun (h:b<=(clearL (copyL a f c (fun i=>(a.getD (g+i) dF))) (0+b) m j).length)=>lvT TLi.e (clearL (copyL a f c (fun i=>(a.getD (g+i) dF))) (0+b) m j) h) 0)<|
.r ((clearL (copyL a f c (fun i=>(a.getD (g+i) dF))) (0+b) m j).take b))
def F_q3o (a:Int) (b:Int) (c:(List TLi)):=(S_q3o a b c).den
theorem F_q3o_ok {b:Int} {c:Int} {a:(List TLi)}:FO (F_q3o b c a) 191 [(AV.ref 0 a.length 0 a.length),(vi b),(vi c)] [(eS 3 TLi.e a)] (fun x=>(AV.d (eL TLi.e x))) (fun _=>[Ob.dead]):=fO (s:=S_q3o b c a) Tryz.func191
def V_q46 (x:(List TLi)):AV:=.ref 0 x.length 0 x.length
def L_q46 (a:List TLi) (x:(List TLi)):List Ob:=[eS 3 TLi.e x,eS 3 TLi.e a]
def F_q46 (a:Int) (b c:List TLi):Option (List TLi):=match c with
 | [y]=>guardP (0<=a/\a.toNat<=b.length/\(b.length+1) * (4 * 32)<=2 ^ 48) (some (insL b a.toNat y))
 | _=>none
theorem F_q46_ok {c:Int} {f b:List TLi} (r:(List TLi)) (h:F_q46 c f b=some r):CallOk Tryz.prog 192 [(AV.ref 0 f.length 0 f.length),(AV.d (.i .i64 c)),(AV.ref 1 b.length 0 b.length)] [(eS 3 TLi.e f),(eS 3 TLi.e b)] (V_q46 r) (L_q46 b r):=by
 unfold F_q46 at h
 split at h
 ·rename_i y
  obtain⟨⟨h1,h2,h3⟩,h⟩:=z1o h
  obtain rfl:=yp h
  obtain⟨i,rfl⟩:∃ i:Nat,c=(i:Int):=⟨c.toNat,(y4z h1).symm⟩
  exact InsG.ins_ok .a (fun _=>rfl) h2 h3
 ·cases h
abbrev R_q25:=(List TLi)
def S_q25_b1 (a0_0:(List TLi)) (f:Nat) (a:(List TPl)):SC R_q25 (Step ((List TPl)) R_q25) :=
.reg 4 [] [] [.w f,.ev 0]<|
.call (@F_q2o_ok (a0_0.getD f dF)) fun i g=>
.guard [(a.length+1) * (2 * 24)<=2 ^ 48]<|
 let b:=([i]:List TPl)
.reg 5 [] [(4,hc g [] true),(5,hv (AV.d (eL TPl.e b))),(6,{ h:=.obj,cast:=some (AV.ref 2 ((a++b).length) 0 ((a++b).length)),obs:=[(2,(eS 2 TPl.e (a++b)))] })] [.cl 1 g [] 4 true,.pf (z5 TPl.e b),.e a.length,.e a.length,.pf (p:=∀ k,k<1->(TPl.d (b.getD k dF)).wd=2) (fun _ _=>rfl),.ev 0,.pf (zi (o:=2) (l:=a) (x:=b)),.pf (zh (sz:=2) (e:=TPl.e) (l:=a) (x:=b))]<|
.c (a++b)
def S_q25 (a0_0:(List TLi)) (o:TLi) (B:Bool):SC R_q25 R_q25 :=
.reg 2 [] [] []<|
.bor 2 (fun j=>AV.d (TPl.e (([]:List TPl).getD j dF))) [7]<|
.range (a0_0.length:Int) a0_0.length rfl (.slot 14) 16 [2,3,4,14,15] (fun (f:(List TPl))=>[(7,(AV.ref 2 f.length 0 f.length))]) (fun f=>[(2,(eS 2 TPl.e f))]) ([]:List TPl) (S_q25_b1 a0_0) (fun f => 
.call (@F_q2o_ok o) fun v p=>
.call (@F_q12_ok v f) fun c q=>
.reg 7 [] [(4,hc p [] true),(5,hc q [2] true)] [.cl 1 p [] 3 true,.cl 0 q [2] 3 true]<|
.call (@F_q3n_ok a0_0) fun a w=>
.k 8 2 w [] 3 false<|
.ite (bif B then c.2 else false) (
.call (@F_q3o_ok c.1 (i64.wrap (c.1+1)) a) fun y z=>
.k 10 4 z [3] 4 false<|
.r y) (
.ite B (
.guard [a.length<2 ^ 63]<|
.reg 12 [] [] []<|
.frz 3 (.ev 0) none [6] []<|
.r a) (
.ite c.2 (
 let m:=(0+c.1.toNat)
.guard [(0:Int)<=c.1,c.1.toNat<a.length,m<a.length]<|
 let g:=(a.set m o)
.reg 14 [] [(4,{ obs:=[(3,(eS 3 TLi.e g))] })] [.e a.length,.ev 0,.ev 1,.e a.length,.ev 2,.pf (zd5 (sz:=3) (e:=TLi.e) (l:=a) (i:=m) (x:=o) (fun _=>rfl))]<|
 let s:=[(Ob.box (AV.agg [(AV.d (eL TLi.e a0_0)),(AV.fn 163 [])])),(TLi.b o),(eS 2 TPl.e f),(eS 3 TLi.e g)]
.cst (A:=True) (.pf trivial) [(12,(AV.ref 3 a.length 0 a.length))] [(12,(AV.ref 3 g.length 0 g.length))] s s (fun _=>⟨Zb,by rfl⟩)<|
.guard [g.length<2 ^ 63]<|
.reg 15 [] [] []<|
.frz 3 (.ev 0) none [6] []<|
.r g) (
 let n:=([o]:List TLi)
.call (@F_q46_ok c.1 a n) fun t u=>
.reg 16 [] [(3,{ h:=.obj,obs:=[(4,(eS 3 TLi.e n))] }),(4,hc u [3,4] false)] [.pf (z4g (sz:=3) (e:=TLi.e) (l:=n)),.cl 0 u [3,4] 5 false]<|
.guard [t.length<2 ^ 63]<|
.frz 3 (.ev 0) none [6] []<|
.r t)))) id
def F_q25 (a0_0:(List TLi)) (a:TLi) (b:Bool):=(S_q25 a0_0 a b).den
theorem F_q25_ok {a0_0:(List TLi)} {a:TLi} {b:Bool}:FO (F_q25 a0_0 a b) 164 [(AV.agg [(AV.d (eL TLi.e a0_0)),(AV.fn 163 [])]),(TLi.d a),(vb b)] [] (fun x=>(AV.d (eL TLi.e x))) NL:=fO (s:=S_q25 a0_0 a b) Tryz.func164
def S_q2q (a:TBo):SC TPl TPl :=
.r (⟨a.B,a.J⟩:TPl)
def F_q2q (a:TBo):=(S_q2q a).den
theorem F_q2q_ok {a:TBo}:FO (F_q2q a) 165 [(TBo.d a)] [] (fun x=>(TPl.d x)) NL:=fO (s:=S_q2q a) Tryz.func165
def S_q3p (a:(List TBo)):SC (List TBo) (List TBo) :=
.reg 0 [] [] []<|
.nils 0 (
.guard [a.length * (2 * 32)<=2 ^ 48]<|
.reg 1 [] [] []<|
.lev 0 (AV.d (eL TBo.e a)) (.pf (lvQ true a.length fun j=>(TBo.e (a.getD j dF))))<|
.br true (.pf (p:=true=true) rfl)<|
.reg 2 [] [] []<|
.bor 3 (fun j=>AV.d (TBo.e (a.getD j dF))) [2]<|
.cst (A:=a.length=0) (.ev 1) [(2,AV.ref 0 0 0 0)] [(2,(AV.ref 0 a.length 0 a.length))] [(Ob.seq 3 0 fun j=>AV.d (TBo.e (a.getD j dF)))] [(eS 3 TBo.e a)] (fun h=>⟨by rw[h],by unfold eS; rw[h]⟩)<|
.r a) (
.reg 1 [] [] []<|
.lev 0 (AV.d (eL TBo.e a)) (.pf (lvQ false a.length fun j=>(TBo.e (a.getD j dF))))<|
.br false (.pf (p:=false=false) rfl)<|
.guard [a.length * (2 * 32)<=2 ^ 48]<|
.reg 3 [] [(2,{ h:=.obj })] [.pf (p:=∀ k,k<a.length->(TBo.d (a.getD k dF)).wd=3) (fun _ _=>rfl),.ev 0]<|
.r a)
def F_q3p (a:(List TBo)):=(S_q3p a).den
theorem F_q3p_ok {a:(List TBo)}:FO (F_q3p a) 127 [(AV.d (eL TBo.e a))] [] (fun x=>(AV.ref 0 x.length 0 x.length)) (fun x=>[(eS 3 TBo.e x)]):=fO (s:=S_q3p a) Tryz.func127
def S_q3q (q:Int) (o:Int) (a:(List TBo)):SC (List TBo) (List TBo) :=
.guard [(0:Int)<=q,(0:Int)<=o,q.toNat<=o.toNat,o.toNat<=a.length]<|
.reg 1 [] [] [.ev 0,.ev 1,.ev 2,.ev 3,.e a.length,.pf (nn a.length),.ev 3,.pf (p:=a.length<=a.length) (ya _)]<|
.ite (q==o) (
.guard [a.length<2 ^ 63]<|
.reg 3 [] [] []<|
.frz 0 (.ev 0) none [6] []<|
.r a) (
 let c:=(a.length-o.toNat)
 let f:=(q.toNat-0)
.guard [q.toNat<=a.length,f+c<=a.length]<|
 let g:=(0+o.toNat)
.reg 5 [6] [(6,{ h:=.imm,obs:=[(0,(eS 3 TBo.e (copyL a f c (fun i=>(a.getD (g+i) dF)))))] })] [.ev 3,.ev 0,.e a.length,.ev 4,.ev 6,.e a.length,.e a.length,.e a.length,.ev 1,.pf (p:=∀ k,k<c->(TBo.d (a.getD (g+k) dF)).wd=3) (fun _ _=>rfl),.pf (z5v (sz:=3) (e:=TBo.e) (l:=a) (off:=f) (k:=c) (s:=(fun i=>(a.getD (g+i) dF))))]<|
 let b:=(f+c)
 let t:=(7,(vi (a.length:Int)))
.cst (A:=True) (.pf trivial) [(0,(AV.ref 0 a.length 0 b)),t] [(0,(AV.ref 0 ((copyL a f c (fun i=>(a.getD (g+i) dF))).length) 0 b)),t] [(eS 3 TBo.e (copyL a f c (fun i=>(a.getD (g+i) dF))))] [(eS 3 TBo.e (copyL a f c (fun i=>(a.getD (g+i) dF))))] (fun _=>⟨by simp +zetaDelta only[zl],by rfl⟩)<|
.guard [b<=a.length,a.length<=(copyL a f c (fun i=>(a.getD (g+i) dF))).length]<|
 let j:=(⟨[],0,0⟩:TBo)
 let m:=(a.length-b)
.reg 6 [] [(5,{ obs:=[(0,(eS 3 TBo.e (clearL (copyL a f c (fun i=>(a.getD (g+i) dF))) (0+b) m j)))] })] [.w b,.pf (nn a.length),.ev 0,.ev 1,.pf (y1n ((copyL a f c (fun i=>(a.getD (g+i) dF))).length)),.pf (y1n ((copyL a f c (fun i=>(a.getD (g+i) dF))).length)),.pf (za3 (sz:=3) (e:=TBo.e) (l:=(copyL a f c (fun i=>(a.getD (g+i) dF)))) (off:=(0+b)) (n:=m) (z:=j))]<|
.cst (A:=True) (.pf trivial) [(0,(AV.ref 0 ((copyL a f c (fun i=>(a.getD (g+i) dF))).length) 0 b))] [(0,(AV.ref 0 ((clearL (copyL a f c (fun i=>(a.getD (g+i) dF))) (0+b) m j).length) 0 b))] [(eS 3 TBo.e (clearL (copyL a f c (fun i=>(a.getD (g+i) dF))) (0+b) m j))] [(eS 3 TBo.e (clearL (copyL a f c (fun i=>(a.getD (g+i) dF))) (0+b) m j))] (fun _=>⟨by simp +zetaDelta only[z1b,zl],by rfl⟩)<|
.guard [(clearL (copyL a f c (fun i=>(a.getD (g+i) dF))) (0+b) m j).length<2 ^ 63]<|
.reg 7 [] [] []<|
.guard [b<=(clearL (copyL a f c (fun i=>(a.getD (g+i) dF))) (0+b) m j).length]<|
.frz 0 (.ev 1) (some (.der (fun (h:b<=(clearL (copyL a f c (fun i=>(a.getD (g+i) dF))) (0+b) m j).length)=>(h:b<=(clearL (copyL a f c (fun i=>(a.getD (g+i) dF))) (0+b) m j).length)) 0)) [6] []<|
.lev 6 (AV.d (eL TBo.e ((clearL (copyL a f c (fun i=>(a.getD (g+i) dF))) (0+b) m j).take b))) (.der (fun (h:b<=(clearL (copyL a f c (fun i=>(a.getD (g+i) dF))) (0+b) m j).length)=>lvT TBo.e (clearL (copyL a f c (fun i=>(a.getD (g+i) dF))) (0+b) m j) h) 0)<|
.r ((clearL (copyL a f c (fun i=>(a.getD (g+i) dF))) (0+b) m j).take b))
def F_q3q (a:Int) (b:Int) (c:(List TBo)):=(S_q3q a b c).den
theorem F_q3q_ok {b:Int} {c:Int} {a:(List TBo)}:FO (F_q3q b c a) 193 [(AV.ref 0 a.length 0 a.length),(vi b),(vi c)] [(eS 3 TBo.e a)] (fun x=>(AV.d (eL TBo.e x))) (fun _=>[Ob.dead]):=fO (s:=S_q3q b c a) Tryz.func193
def V_q47 (x:(List TBo)):AV:=.ref 0 x.length 0 x.length
def L_q47 (a:List TBo) (x:(List TBo)):List Ob:=[eS 3 TBo.e x,eS 3 TBo.e a]
def F_q47 (a:Int) (b c:List TBo):Option (List TBo):=match c with
 | [y]=>guardP (0<=a/\a.toNat<=b.length/\(b.length+1) * (4 * 32)<=2 ^ 48) (some (insL b a.toNat y))
 | _=>none
theorem F_q47_ok {c:Int} {f a:List TBo} (r:(List TBo)) (h:F_q47 c f a=some r):CallOk Tryz.prog 194 [(AV.ref 0 f.length 0 f.length),(AV.d (.i .i64 c)),(AV.ref 1 a.length 0 a.length)] [(eS 3 TBo.e f),(eS 3 TBo.e a)] (V_q47 r) (L_q47 a r):=by
 unfold F_q47 at h
 split at h
 ·rename_i y
  obtain⟨⟨h1,h2,h3⟩,h⟩:=z1o h
  obtain rfl:=yp h
  obtain⟨i,rfl⟩:∃ i:Nat,c=(i:Int):=⟨c.toNat,(y4z h1).symm⟩
  exact InsG.ins_ok .b (fun _=>rfl) h2 h3
 ·cases h
abbrev R_q1n:=(List TBo)
def S_q1n_b1 (a0_0:(List TBo)) (f:Nat) (a:(List TPl)):SC R_q1n (Step ((List TPl)) R_q1n) :=
.reg 4 [] [] [.w f,.ev 0]<|
.call (@F_q2q_ok (a0_0.getD f dF)) fun i g=>
.guard [(a.length+1) * (2 * 24)<=2 ^ 48]<|
 let b:=([i]:List TPl)
.reg 5 [] [(4,hc g [] true),(5,hv (AV.d (eL TPl.e b))),(6,{ h:=.obj,cast:=some (AV.ref 2 ((a++b).length) 0 ((a++b).length)),obs:=[(2,(eS 2 TPl.e (a++b)))] })] [.cl 1 g [] 4 true,.pf (z5 TPl.e b),.e a.length,.e a.length,.pf (p:=∀ k,k<1->(TPl.d (b.getD k dF)).wd=2) (fun _ _=>rfl),.ev 0,.pf (zi (o:=2) (l:=a) (x:=b)),.pf (zh (sz:=2) (e:=TPl.e) (l:=a) (x:=b))]<|
.c (a++b)
def S_q1n (a0_0:(List TBo)) (o:TBo) (B:Bool):SC R_q1n R_q1n :=
.reg 2 [] [] []<|
.bor 2 (fun j=>AV.d (TPl.e (([]:List TPl).getD j dF))) [7]<|
.range (a0_0.length:Int) a0_0.length rfl (.slot 14) 16 [2,3,4,14,15] (fun (f:(List TPl))=>[(7,(AV.ref 2 f.length 0 f.length))]) (fun f=>[(2,(eS 2 TPl.e f))]) ([]:List TPl) (S_q1n_b1 a0_0) (fun f => 
.call (@F_q2q_ok o) fun v p=>
.call (@F_q12_ok v f) fun c q=>
.reg 7 [] [(4,hc p [] true),(5,hc q [2] true)] [.cl 1 p [] 3 true,.cl 0 q [2] 3 true]<|
.call (@F_q3p_ok a0_0) fun a w=>
.k 8 2 w [] 3 false<|
.ite (bif B then c.2 else false) (
.call (@F_q3q_ok c.1 (i64.wrap (c.1+1)) a) fun y z=>
.k 10 4 z [3] 4 false<|
.r y) (
.ite B (
.guard [a.length<2 ^ 63]<|
.reg 12 [] [] []<|
.frz 3 (.ev 0) none [6] []<|
.r a) (
.ite c.2 (
 let m:=(0+c.1.toNat)
.guard [(0:Int)<=c.1,c.1.toNat<a.length,m<a.length]<|
 let g:=(a.set m o)
.reg 14 [] [(4,{ obs:=[(3,(eS 3 TBo.e g))] })] [.e a.length,.ev 0,.ev 1,.e a.length,.ev 2,.pf (zd5 (sz:=3) (e:=TBo.e) (l:=a) (i:=m) (x:=o) (fun _=>rfl))]<|
 let s:=[(Ob.box (AV.agg [(AV.d (eL TBo.e a0_0)),(AV.fn 165 [])])),(TBo.b o),(eS 2 TPl.e f),(eS 3 TBo.e g)]
.cst (A:=True) (.pf trivial) [(12,(AV.ref 3 a.length 0 a.length))] [(12,(AV.ref 3 g.length 0 g.length))] s s (fun _=>⟨Zb,by rfl⟩)<|
.guard [g.length<2 ^ 63]<|
.reg 15 [] [] []<|
.frz 3 (.ev 0) none [6] []<|
.r g) (
 let n:=([o]:List TBo)
.call (@F_q47_ok c.1 a n) fun t u=>
.reg 16 [] [(3,{ h:=.obj,obs:=[(4,(eS 3 TBo.e n))] }),(4,hc u [3,4] false)] [.pf (z4g (sz:=3) (e:=TBo.e) (l:=n)),.cl 0 u [3,4] 5 false]<|
.guard [t.length<2 ^ 63]<|
.frz 3 (.ev 0) none [6] []<|
.r t)))) id
def F_q1n (a0_0:(List TBo)) (a:TBo) (b:Bool):=(S_q1n a0_0 a b).den
theorem F_q1n_ok {a0_0:(List TBo)} {a:TBo} {b:Bool}:FO (F_q1n a0_0 a b) 166 [(AV.agg [(AV.d (eL TBo.e a0_0)),(AV.fn 165 [])]),(TBo.d a),(vb b)] [] (fun x=>(AV.d (eL TBo.e x))) NL:=fO (s:=S_q1n a0_0 a b) Tryz.func166
def S_q3r (b:TCh) (a:TLa):SC TLa TLa :=
.ite (b.C==1) (
.call (@F_q25_ok a.P (⟨b.B,b.J,b.M⟩:TLi) (b.M==0)) fun g c=>
.reg 4 [19] [(16,hc c [] true)] [.cl 0 c [] 3 true]<|
.r (⟨a.E,a.G,a.H,g,a.R,a.S,a.F,a.I,a.O,a.A⟩:TLa)) (
 let d:=(⟨b.B,b.J,b.M⟩:TBo)
.ite (b.C==2) (
.call (@F_q1n_ok a.R d (b.M==(-1))) fun h e=>
.reg 6 [13] [(10,hc e [] true)] [.cl 0 e [] 3 true]<|
.r (⟨a.E,a.G,a.H,a.P,h,a.S,a.F,a.I,a.O,a.A⟩:TLa)) (
.ite (b.C==3) (
.call (@F_q1n_ok a.S d (b.M==0)) fun i f=>
.reg 8 [13] [(10,hc f [] true)] [.cl 0 f [] 3 true]<|
.r (⟨a.E,a.G,a.H,a.P,a.R,i,a.F,a.I,a.O,a.A⟩:TLa)) (
.r a)))
def F_q3r (a:TCh) (b:TLa):=(S_q3r a b).den
theorem F_q3r_ok {a:TCh} {c:TLa}:FO (F_q3r a c) 112 [(vp 0),(TCh.d a)] [(TLa.b c)] (fun _=>(AV.tup [])) (fun x=>[(TLa.b x)]):=fO (s:=S_q3r a c) Tryz.func112
theorem cz9:LeV (AV.d (DV.agg [(DV.i .i64 0),(DV.i .i64 0),Z0,Z0,Z0,Z0,Z0,Z0,Z0,Z0])) (TLa.d (⟨0,0,[],[],[],[],[],[],[],[]⟩:TLa)):=z78 rfl (DLe.agg (DLeL.cons (DLe.refl _) (DLeL.cons (DLe.refl _) (DLeL.cons DLe.sl0 (DLeL.cons DLe.sl0 (DLeL.cons DLe.sl0 (DLeL.cons DLe.sl0 (DLeL.cons DLe.sl0 (DLeL.cons DLe.sl0 (DLeL.cons DLe.sl0 (DLeL.cons DLe.sl0 DLeL.nil)))))))))))
def S_q13_b1 (b:(List TCh)) (a:Nat) (d:TLa):SC (TLa×Int) (Step TLa (TLa×Int)) :=
.guard [(0+a)<b.length]<|
.reg 4 [] [] [.e b.length,.w a,.ev 1,.e b.length,.ev 0]<|
.call (@F_q3r_ok (b.getD (0+a) dF) d) fun f g=>
.k 5 1 g [1] 4 false<|
.c f
def S_q13 (h:TLa) (f:(List TCh)):SC (TLa×Int) (TLa×Int) :=
 let e:=(⟨0,0,[],[],[],[],[],[],[],[]⟩:TLa)
.reg 0 [] [(1,{ obs:=[(2,(TLa.b e))] })] [.pf cz3]<|
.a 1 1 3 (@F_q1m_ok h) fun g=>
.guard [f.length<2 ^ 63]<|
.range (f.length:Int) f.length rfl (.why (.ev 0)) 12 [2,4,10,11] (fun (_:TLa)=>[]) (fun c=>[(1,(TLa.b c))]) g (S_q13_b1 f) (fun c => 
.ite (cO (cO (decide ((c.P.length:Int)>120)) (decide ((c.R.length:Int)>60))) (decide ((c.S.length:Int)>60))) (
.reg 8 [] [(0,hv (TLa.d e))] [.pf cz9]<|
.r (e,3)) (
.r (c,0))) id
def F_q13 (a:TLa) (b:(List TCh)):=(S_q13 a b).den
theorem F_q13_ok {b:TLa} {a:(List TCh)}:FO (F_q13 b a) 44 [(TLa.d b),(AV.ref 0 a.length 0 a.length)] [(eS 4 TCh.e a)] (fun x=>(AV.tup [(TLa.d x.1),(vi x.2)])) (fun _=>[(eS 4 TCh.e a)]):=fO (s:=S_q13 b a) Tryz.func44
abbrev R_qf:=TLa×Int
def S_qf_b1 (j:TLa) (i:Int) (g:Nat) (a:(List TCh)):SC R_qf (Step ((List TCh)) R_qf) :=
.reg 12 [] [(2,{ obs:=[(4,(TAm.b (⟨0,0,[]⟩:TAm)))] })] [.w g,.ev 0,.pf cz2]<|
 let f:=(((j.A.take i.toNat).getD g dF).D)
.guard [(a.length+f.length) * (2 * 40)<=2 ^ 48]<|
.reg 13 [] [(3,{ h:=.obj,cast:=some (AV.ref 3 ((a++f).length) 0 ((a++f).length)),obs:=[(3,(eS 4 TCh.e (a++f)))] })] [.e a.length,.e a.length,.pf (p:=∀ k,k<f.length->(TCh.d (f.getD k dF)).wd=4) (fun _ _=>rfl),.ev 0,.pf (zi (o:=3) (l:=a) (x:=f)),.pf (zh (sz:=4) (e:=TCh.e) (l:=a) (x:=f))]<|
.c (a++f)
def S_qf (f:TLa) (q:Int):SC R_qf R_qf :=
 let h:=(⟨0,0,[],[],[],[],[],[],[],[]⟩:TLa)
.reg 0 [] [(2,{ obs:=[(2,(TLa.b h))] })] [.pf cz3]<|
.a 1 1 3 (@F_q2x_ok f) fun l=>
 let m:=(0,hv (TLa.d h))
.ite (l != 0) (
.reg 3 [] [m] [.pf cz9]<|
.r (h,l)) (
.ite (cO (decide (q<0)) (decide (q>36000))) (
.reg 5 [] [m] [.pf cz9]<|
.r (h,2)) (
.call (@F_q24_ok f.A q) fun n s=>
.k 6 3 s [1] 3 true<|
.cut none [2,4] (fun (c:Int)=>[(7,(vi c))]) (fun _=>[]) (
.ite (decide (n<0)) (
.r (.next (f.A.length:Int))) (
.r (.next n))) fun c=>
.guard [(0:Int)<=c,c.toNat<=f.A.length]<|
 let i:=c.toNat
.reg 10 [] [(4,hv (AV.d (eL TAm.e (f.A.take i))))] [.ev 0,.ev 1,.pf (p:=c=c) rfl,.der (fun (h0:c.toNat<=f.A.length)=>lvTF TAm.e f.A h0) 1]<|
.bor 4 (fun j=>AV.d (TCh.e (([]:List TCh).getD j dF))) [8]<|
.range ((f.A.take c.toNat).length:Int) ((f.A.take c.toNat).length) rfl (.slot 37) 39 [2,4,7,37,38] (fun (g:(List TCh))=>[(8,(AV.ref 3 g.length 0 g.length))]) (fun g=>[(3,(eS 4 TCh.e g))]) ([]:List TCh) (S_qf_b1 f c) (fun g => 
.reg 15 [] [(3,hv (AV.d (eL TAm.e (f.A.drop i))))] [.ev 0,.ev 1,.pf (lvD TAm.e f.A i)]<|
.call (@F_q13_ok (⟨f.E,f.G,f.H,f.P,f.R,f.S,f.F,f.I,f.O,(f.A.drop i)⟩:TLa) g) fun o t=>
.k 16 2 t [3] 4 true<|
.r (o.1,o.2)) id))
def F_qf (a:TLa) (b:Int):=(S_qf a b).den
theorem F_qf_ok {a:TLa} {b:Int}:FO (F_qf a b) 11 [(TLa.d a),(vi b)] [] (fun x=>(AV.tup [(TLa.d x.1),(vi x.2)])) NL:=fO (s:=S_qf a b) Tryz.func11
end
end Go.Proofs.YtgfgnhpecnmlpaaGreatDoor
/- What the functions compute,and that their calls return it. No condition. -/
namespace Go.Proofs.YtgfgnhpecnmlpaaGreatDoor
open Go Go.TA
open Go.IntKind (i64)
noncomputable section
set_option maxRecDepth 100000
def S_q26_b1 (c:(List THe)) (b:(List THe)) (a:Nat) (_:Unit):SC Bool (Step Unit Bool) :=
.guard [a<b.length]<|
.reg 6 [] [] [.w a,.ev 1,.w a,.ev 0]<|
.ite (!((((c.getD a dF).B)==((b.getD a dF).B))&&((((c.getD a dF).W)==((b.getD a dF).W))&&true))) (
.r (.ret false)) (
.r (.cont ()))
def S_q26 (a:(List THe)) (b:(List THe)):SC Bool Bool :=
.ite ((a.length:Int) != (b.length:Int)) (
.r false) (
.range (a.length:Int) a.length rfl (.slot 0) 13 [0,1,12] (fun (_:Unit)=>[]) (fun _=>[]) () (S_q26_b1 a b) (fun _ => 
.r true) id)
def F_q26 (a:(List THe)) (b:(List THe)):=(S_q26 a b).den
theorem F_q26_ok {a:(List THe)} {b:(List THe)}:FO (F_q26 a b) 45 [(AV.d (eL THe.e a)),(AV.d (eL THe.e b))] [] vb NL:=fO (s:=S_q26 a b) Tryz.func45
def S_q27_b1 (e:(List TLi)) (d:(List TLi)) (a:Nat) (_:Unit):SC Bool (Step Unit Bool) :=
.guard [a<d.length]<|
.reg 6 [] [] [.w a,.ev 1,.w a,.ev 0]<|
 let b:=(e.getD a dF)
 let c:=(d.getD a dF)
.ite (!((b.B==c.B)&&((b.J==c.J)&&((b.M==c.M)&&true)))) (
.r (.ret false)) (
.r (.cont ()))
def S_q27 (a:(List TLi)) (b:(List TLi)):SC Bool Bool :=
.ite ((a.length:Int) != (b.length:Int)) (
.r false) (
.range (a.length:Int) a.length rfl (.slot 0) 13 [0,1,12] (fun (_:Unit)=>[]) (fun _=>[]) () (S_q27_b1 a b) (fun _ => 
.r true) id)
def F_q27 (a:(List TLi)) (b:(List TLi)):=(S_q27 a b).den
theorem F_q27_ok {a:(List TLi)} {b:(List TLi)}:FO (F_q27 a b) 46 [(AV.d (eL TLi.e a)),(AV.d (eL TLi.e b))] [] vb NL:=fO (s:=S_q27 a b) Tryz.func46
def S_q1o_b1 (e:(List TBo)) (d:(List TBo)) (a:Nat) (_:Unit):SC Bool (Step Unit Bool) :=
.guard [a<d.length]<|
.reg 6 [] [] [.w a,.ev 1,.w a,.ev 0]<|
 let b:=(e.getD a dF)
 let c:=(d.getD a dF)
.ite (!((b.B==c.B)&&((b.J==c.J)&&((b.M==c.M)&&true)))) (
.r (.ret false)) (
.r (.cont ()))
def S_q1o (a:(List TBo)) (b:(List TBo)):SC Bool Bool :=
.ite ((a.length:Int) != (b.length:Int)) (
.r false) (
.range (a.length:Int) a.length rfl (.slot 0) 13 [0,1,12] (fun (_:Unit)=>[]) (fun _=>[]) () (S_q1o_b1 a b) (fun _ => 
.r true) id)
def F_q1o (a:(List TBo)) (b:(List TBo)):=(S_q1o a b).den
theorem F_q1o_ok {a:(List TBo)} {b:(List TBo)}:FO (F_q1o a b) 47 [(AV.d (eL TBo.e a)),(AV.d (eL TBo.e b))] [] vb NL:=fO (s:=S_q1o a b) Tryz.func47
def S_ql_b1 (f:(List TAm)) (g:(List TAm)) (b:Nat) (a:Nat) (_:Unit):SC Bool (Step Unit Bool) :=
 let e:=((g.getD b dF).D)
.guard [a<e.length]<|
.reg 11 [] [] [.w b,.ev 8,.w a,.ev 1,.w b,.ev 5,.w a,.ev 0]<|
 let c:=(((f.getD b dF).D).getD a dF)
 let d:=(e.getD a dF)
.ite (!((c.C==d.C)&&((c.B==d.B)&&((c.J==d.J)&&((c.M==d.M)&&true))))) (
.r (.ret false)) (
.r (.cont ()))
def S_ql_b2 (g:(List TAm)) (i:(List TAm)) (a:Nat) (_:Unit):SC Bool (Step Unit Bool) :=
 let d:=(g.getD a dF)
 let f:=(i.getD a dF)
 let b:=(d.K != f.K)
 let c:=(cO b (d.L != f.L))
.guard [a<i.length,AllP [b=false]->(a<i.length),AllP [c=false]->(a<i.length)]<|
 let e:=((0:Int)<=(a:Int))
.reg 6 [] [] [.w a,.ev 3,.w a,.ev 0,.pf (p:=AllP [b=false]->e) (fun _=>(y2w _)),.der (fun (h:a<g.length) (_:AllP [b=false])=>h) 3,.pf (p:=AllP [b=false]->e) (fun _=>(y2w _)),.ev 1,.pf (p:=AllP [c=false]->e) (fun _=>(y2w _)),.der (fun (h:a<g.length) (_:AllP [c=false])=>h) 3,.pf (p:=AllP [c=false]->e) (fun _=>(y2w _)),.ev 2]<|
.ite (cO c ((d.D.length:Int) != (f.D.length:Int))) (
.r (.ret false)) (
.reg 8 [] [] [.w a,.ev 4]<|
.guard [d.D.length<2 ^ 63]<|
.range (((g.getD a dF).D).length:Int) (((g.getD a dF).D).length) rfl (.why (.ev 0)) 62 [0,1,5,13,14,61] (fun (_:Unit)=>[]) (fun _=>[]) () (S_ql_b1 g i a) (fun _ => 
.r (.cont ())) .ret)
def S_ql (a:(List TAm)) (b:(List TAm)):SC Bool Bool :=
.ite ((a.length:Int) != (b.length:Int)) (
.r false) (
.range (a.length:Int) a.length rfl (.slot 0) 14 [0,1,13] (fun (_:Unit)=>[]) (fun _=>[]) () (S_ql_b2 a b) (fun _ => 
.r true) id)
def F_ql (a:(List TAm)) (b:(List TAm)):=(S_ql a b).den
theorem F_ql_ok {a:(List TAm)} {b:(List TAm)}:FO (F_ql a b) 48 [(AV.d (eL TAm.e a)),(AV.d (eL TAm.e b))] [] vb NL:=fO (s:=S_ql a b) Tryz.func48
def S_q7_b1 (e:TLa) (d:TLa) (a:Nat) (_:Unit):SC Bool (Step Unit Bool) :=
.guard [a<d.F.length]<|
.reg 8 [] [] [.w a,.ev 1,.w a,.ev 0]<|
 let b:=(e.F.getD a dF)
 let c:=(d.F.getD a dF)
.ite (!((b.N==c.N)&&((b.B==c.B)&&((b.Q==c.Q)&&true)))) (
.r (.ret false)) (
.r (.cont ()))
def S_q7_b2 (e:TLa) (d:TLa) (c:Nat) (_:Unit):SC Bool (Step Unit Bool) :=
.guard [c<d.I.length]<|
.reg 14 [] [] [.w c,.ev 1,.w c,.ev 0]<|
 let a:=(e.I.getD c dF)
 let b:=(d.I.getD c dF)
.ite (!((a.B==b.B)&&((a.J==b.J)&&((a.M==b.M)&&((a.C==b.C)&&((a.K==b.K)&&((a.N==b.N)&&((a.T==b.T)&&true)))))))) (
.r (.ret false)) (
.r (.cont ()))
def S_q7_b3 (e:TLa) (d:TLa) (a:Nat) (_:Unit):SC Bool (Step Unit Bool) :=
.guard [a<d.O.length]<|
.reg 20 [] [] [.w a,.ev 1,.w a,.ev 0]<|
 let b:=(e.O.getD a dF)
 let c:=(d.O.getD a dF)
.ite (!((b.L==c.L)&&((b.U==c.U)&&((b.V==c.V)&&((b.Q==c.Q)&&true))))) (
.r (.ret false)) (
.r (.cont ()))
def S_q7 (a:TLa) (b:TLa):SC Bool Bool :=
 let c:=(cO (a.E != b.E) (a.G != b.G))
.calld [c=false] dF (@F_q26_ok a.H b.H) fun m h =>
 let d:=(cO c (!m))
.calld [d=false] dF (@F_q27_ok a.P b.P) fun n i =>
 let e:=(cO d (!n))
.calld [e=false] dF (@F_q1o_ok a.R b.R) fun o j =>
 let f:=(cO e (!o))
.calld [f=false] dF (@F_q1o_ok a.S b.S) fun p k =>
 let g:=(cO f (!p))
.calld [g=false] dF (@F_ql_ok a.A b.A) fun q l =>
.reg 1 [] [(17,hc h [] true),(25,hc i [] true),(33,hc j [] true),(41,hc k [] true),(49,hc l [] true)] [.clg 8 [c=false] h [] 2 true,.clg 6 [d=false] i [] 2 true,.clg 4 [e=false] j [] 2 true,.clg 2 [f=false] k [] 2 true,.clg 0 [g=false] l [] 2 true]<|
.ite (cO g (!q)) (
.r false) (
.ite (cO (cO ((a.F.length:Int) != (b.F.length:Int)) ((a.I.length:Int) != (b.I.length:Int))) ((a.O.length:Int) != (b.O.length:Int))) (
.r false) (
.guard [a.F.length<2 ^ 63]<|
.range (a.F.length:Int) a.F.length rfl (.why (.ev 0)) 88 [2,3,87] (fun (_:Unit)=>[]) (fun _=>[]) () (S_q7_b1 a b) (fun _ => 
.guard [a.I.length<2 ^ 63]<|
.range (a.I.length:Int) a.I.length rfl (.why (.ev 0)) 106 [2,3,105] (fun (_:Unit)=>[]) (fun _=>[]) () (S_q7_b2 a b) (fun _ => 
.guard [a.O.length<2 ^ 63]<|
.range (a.O.length:Int) a.O.length rfl (.why (.ev 0)) 124 [2,3,123] (fun (_:Unit)=>[]) (fun _=>[]) () (S_q7_b3 a b) (fun _ => 
.r true) id) id) id))
def F_q7 (a:TLa) (b:TLa):=(S_q7 a b).den
theorem F_q7_ok {a:TLa} {b:TLa}:FO (F_q7 a b) 12 [(TLa.d a),(TLa.d b)] [] vb NL:=fO (s:=S_q7 a b) Tryz.func12
def S_q1p_b1 (c:TLa) (a:Nat) (_:Unit):SC Int (Step Unit Int) :=
.reg 5 [] [(2,{ obs:=[(1,(TAm.b (⟨0,0,[]⟩:TAm)))] })] [.w a,.ev 0,.pf cz2]<|
.ite (decide ((((c.A.getD a dF).D).length:Int)>20)) (
.r (.ret 3)) (
.r (.cont ()))
def S_q1p (a:TLa):SC Int Int :=
.ite (cO (cO (cO (cO (cO (cO (decide ((a.P.length:Int)>120)) (decide ((a.R.length:Int)>60))) (decide ((a.S.length:Int)>60))) (decide ((a.F.length:Int)>20))) (decide ((a.I.length:Int)>20))) (decide ((a.O.length:Int)>20))) (decide ((a.A.length:Int)>20))) (
.r 3) (
.range (a.A.length:Int) a.A.length rfl (.slot 46) 48 [46,47] (fun (_:Unit)=>[]) (fun _=>[]) () (S_q1p_b1 a) (fun _ => 
.r 0) id)
def F_q1p (a:TLa):=(S_q1p a).den
theorem F_q1p_ok {a:TLa}:FO (F_q1p a) 50 [(TLa.d a)] [] vi NL:=fO (s:=S_q1p a) Tryz.func50
def S_qs_b1 (d:TLa) (e:Y8) (b:Nat) (_:Unit):SC Bool (Step Unit Bool) :=
.reg 5 [] [] [.w b,.ev 0]<|
.a 6 2 2 (@F_qd_ok ((d.H.getD b dF).B)) fun c=>
.ite (c==e) (
.r (.ret false)) (
.r (.cont ()))
def S_qs (d:TLa) (e:Y8):SC Bool Bool :=
.call (@F_q9_ok e) fun a b=>
.calld [(!a)=false] dF (@F_qe_ok d e) fun f c =>
.reg 1 [] [(1,hc b [] true),(6,hc c [] true)] [.cl 2 b [] 1 true,.clg 0 [(!a)=false] c [] 1 true]<|
.ite (cO (!a) (!f)) (
.r false) (
.range (d.H.length:Int) d.H.length rfl (.slot 17) 19 [1,17,18] (fun (_:Unit)=>[]) (fun _=>[]) () (S_qs_b1 d e) (fun _ => 
.r true) id)
def F_qs (a:TLa) (b:Y8):=(S_qs a b).den
theorem F_qs_ok {a:TLa} {b:Y8}:FO (F_qs a b) 114 [(TLa.d a),(AV.d (DV.str b))] [] vb NL:=fO (s:=S_qs a b) Tryz.func114
def S_q2l (a:TLa) (b:Int):SC Bool Bool :=
.r (bif (bif (decide (a.G>0)) then (decide (b>=a.E)) else false) then (decide ((IntKind.u64.wrap ((IntKind.u64.wrap b)-(IntKind.u64.wrap a.E)))<(IntKind.u64.wrap a.G))) else false)
def F_q2l (a:TLa) (b:Int):=(S_q2l a b).den
theorem F_q2l_ok {a:TLa} {b:Int}:FO (F_q2l a b) 115 [(TLa.d a),(vi b)] [] vb NL:=fO (s:=S_q2l a b) Tryz.func115
def S_q1q_b1 (f:TLa) (d:Nat) (_:Unit):SC Int (Step Unit Int) :=
.reg 3 [] [] [.w d,.ev 0]<|
 let b:=(f.P.getD d dF)
.a 4 3 2 (@F_qs_ok f b.B) fun i=>
.ite (!i) (
.r (.ret 5)) (
.a 6 3 2 (@F_q2l_ok f b.J) fun j=>
.ite (!j) (
.r (.ret 16)) (
.a 8 2 2 (@F_qi_ok b.M) fun k=>
.ite (!k) (
.r (.ret 2)) (
 let e:=(i64.wrap ((d:Int)-1))
 let c:=(decide ((d:Int)>0))
 let g:=(f.P.getD e.toNat dF)
.calld [c=true] dF (@F_q17_ok g.B g.J b.B b.J) fun l h =>
.guard [AllP [c=true]->((0:Int)<=e),AllP [c=true]->(e.toNat<f.P.length)]<|
.reg 10 [] [(21,hc h [] true)] [.ev 0,.ev 1,.ev 0,.ev 1,.clg 2 [c=true] h [] 2 true]<|
.ite (bif c then (!l) else false) (
.r (.ret 8)) (
.r (.cont ())))))
def S_q1q (a:TLa):SC Int Int :=
.range (a.P.length:Int) a.P.length rfl (.slot 6) 8 [1,6,7] (fun (_:Unit)=>[]) (fun _=>[]) () (S_q1q_b1 a) (fun _ => 
.r 0) id
def F_q1q (a:TLa):=(S_q1q a).den
theorem F_q1q_ok {a:TLa}:FO (F_q1q a) 51 [(TLa.d a)] [] vi NL:=fO (s:=S_q1q a) Tryz.func51
def S_qt_b1 (o:TLa) (j:(List TBo)) (d:Nat) (_:Unit):SC Int (Step Unit Int) :=
.reg 3 [] [] [.w d,.ev 0]<|
 let b:=(j.getD d dF)
.a 4 3 2 (@F_qe_ok o b.B) fun k=>
.ite (!k) (
.r (.ret 5)) (
 let e:=(b.J != (-1))
.calld [e=true] dF (@F_q2l_ok o b.J) fun l g =>
.reg 6 [] [(7,hc g [] true)] [.clg 0 [e=true] g [] 2 true]<|
.ite (bif e then (!l) else false) (
.r (.ret 16)) (
.a 8 2 2 (@F_qi_ok b.M) fun m=>
.ite (!m) (
.r (.ret 2)) (
 let f:=(i64.wrap ((d:Int)-1))
 let c:=(decide ((d:Int)>0))
 let h:=(j.getD f.toNat dF)
.calld [c=true] dF (@F_q17_ok h.B h.J b.B b.J) fun n i =>
.guard [AllP [c=true]->((0:Int)<=f),AllP [c=true]->(f.toNat<j.length)]<|
.reg 10 [] [(19,hc i [] true)] [.ev 0,.ev 1,.ev 0,.ev 1,.clg 2 [c=true] i [] 2 true]<|
.ite (bif c then (!n) else false) (
.r (.ret 8)) (
.r (.cont ())))))
def S_qt (b:TLa) (a:(List TBo)):SC Int Int :=
.range (a.length:Int) a.length rfl (.slot 1) 9 [1,2,7,8] (fun (_:Unit)=>[]) (fun _=>[]) () (S_qt_b1 b a) (fun _ => 
.r 0) id
def F_qt (a:TLa) (b:(List TBo)):=(S_qt a b).den
theorem F_qt_ok {a:TLa} {b:(List TBo)}:FO (F_qt a b) 52 [(TLa.d a),(AV.d (eL TBo.e b))] [] vi NL:=fO (s:=S_qt a b) Tryz.func52
def S_q6_b1 (e:TLa) (b:Nat) (_:Unit):SC Int (Step Unit Int) :=
.reg 3 [] [] [.w b,.ev 0]<|
 let a:=(e.F.getD b dF)
.call (@F_qe_ok e a.N) fun c f=>
.calld [(!c)=false] dF (@F_qs_ok e a.B) fun l g =>
.reg 4 [] [(3,hc f [] true),(9,hc g [] true)] [.cl 2 f [] 2 true,.clg 0 [(!c)=false] g [] 2 true]<|
.ite (cO (!c) (!l)) (
.r (.ret 5)) (
.ite (cO (decide (a.Q<0)) (decide (a.Q>100))) (
.r (.ret 2)) (
.ite (decide ((b:Int)>0)) (
 let d:=(i64.wrap ((b:Int)-1))
.guard [(0:Int)<=d,d.toNat<e.F.length]<|
.reg 9 [] [] [.ev 0,.ev 1]<|
 let h:=(e.F.getD d.toNat dF)
.call (@F_qa_ok h.N a.N) fun i j=>
.call (@F_qa_ok h.B a.B) fun m k=>
.reg 10 [] [(4,hc j [] true),(9,hc k [] true)] [.cl 1 j [] 3 true,.cl 0 k [] 3 true]<|
.ite (cO (decide (i>0)) (bif (i==0) then (decide (m>=0)) else false)) (
.r (.ret 8)) (
.r (.cont ()))) (
.r (.cont ()))))
def S_q6_b2 (i:TLa) (g:R_q3) (h:Nat) (b:Nat) (d:Int):SC Int (Step Int Int) :=
.reg 20 [] [] [.w b,.ev 0]<|
 let e:=(i.F.getD b dF)
.a 21 3 2 (@F_q2i_ok (g.getD h dF) e.N) fun f=>
.ite f (
.r (.cont (i64.wrap (d+e.Q)))) (
.c d)
def S_q6_b3 (c:TLa) (d:R_q3) (b:Nat) (_:Unit):SC Int (Step Unit Int) :=
.reg 16 [] [] [.w b,.ev 0]<|
.range (c.F.length:Int) c.F.length rfl (.slot 81) 83 [1,9,74,75,76,81,82] (fun (a:Int)=>[(10,(vi a))]) (fun _=>[]) 0 (S_q6_b2 c d b) (fun a => 
.ite (decide (a>100)) (
.r (.ret 13)) (
.r (.cont ()))) .ret
def S_q6 (c:TLa):SC Int Int :=
.range (c.F.length:Int) c.F.length rfl (.slot 14) 16 [1,14,15] (fun (_:Unit)=>[]) (fun _=>[]) () (S_q6_b1 c) (fun _ => 
.a 14 2 1 (@F_q3_ok c.H ([])) fun b=>
.range (b.length:Int) b.length rfl (.slot 74) 76 [1,74,75] (fun (_:Unit)=>[]) (fun _=>[]) () (S_q6_b3 c b) (fun _ => 
.r 0) id) id
def F_q6 (a:TLa):=(S_q6 a).den
theorem F_q6_ok {a:TLa}:FO (F_q6 a) 53 [(TLa.d a)] [] vi NL:=fO (s:=S_q6 a) Tryz.func53
def S_q1r_b1 (j:TLa) (e:Nat) (_:Unit):SC Int (Step Unit Int) :=
.reg 3 [] [] [.w e,.ev 0]<|
 let b:=(j.I.getD e dF)
.ite (cO (cO (bif (!(b.C==1)) then (!(b.C==2)) else false) (bif (b.C==1) then (cO (!(b.N==([]))) (b.T != 0)) else false)) (bif (b.C==2) then (b.K != 0) else false)) (
.r (.ret 1)) (
.call (@F_qs_ok j b.B) fun c f=>
.calld [(b.C==2)=true,(!c)=false] dF (@F_qe_ok j b.N) fun k g =>
.reg 7 [] [(3,hc f [] true),(11,hc g [] true)] [.cl 2 f [] 2 true,.clg 0 [(b.C==2)=true,(!c)=false] g [] 2 true]<|
.ite (cO (!c) (bif (b.C==2) then (!k) else false)) (
.r (.ret 5)) (
.a 9 3 2 (@F_q2l_ok j b.J) fun l=>
.ite (!l) (
.r (.ret 16)) (
.call (@F_qi_ok b.M) fun d h=>
.calld [(!d)=false] dF (@F_qi_ok b.T) fun m i =>
.reg 11 [] [(2,hc h [] true),(7,hc i [] true)] [.cl 2 h [] 2 true,.clg 0 [(!d)=false] i [] 2 true]<|
.ite (cO (cO (cO (!d) (!m)) (decide (b.K<0))) (decide (b.K>35990))) (
.r (.ret 2)) (
.r (.cont ())))))
def S_q1r (a:TLa):SC Int Int :=
.range (a.I.length:Int) a.I.length rfl (.slot 8) 10 [1,8,9] (fun (_:Unit)=>[]) (fun _=>[]) () (S_q1r_b1 a) (fun _ => 
.r 0) id
def F_q1r (a:TLa):=(S_q1r a).den
theorem F_q1r_ok {a:TLa}:FO (F_q1r a) 54 [(TLa.d a)] [] vi NL:=fO (s:=S_q1r a) Tryz.func54
def S_q1s_b1 (f:TLa) (b:Nat) (_:Unit):SC Int (Step Unit Int) :=
.reg 3 [] [] [.w b,.ev 0]<|
 let a:=(f.O.getD b dF)
.ite (cO (cO (cO (decide (a.L<1)) (decide (a.L>1000000))) (decide (a.Q<0))) (decide (a.Q>100))) (
.r (.ret 2)) (
.call (@F_qe_ok f a.U) fun c g=>
.calld [(!c)=false] dF (@F_qe_ok f a.V) fun i h =>
.reg 6 [] [(3,hc g [] true),(9,hc h [] true)] [.cl 2 g [] 2 true,.clg 0 [(!c)=false] h [] 2 true]<|
.ite (cO (!c) (!i)) (
.r (.ret 5)) (
 let d:=(i64.wrap ((b:Int)-1))
 let e:=(decide ((b:Int)>0))
.guard [AllP [e=true]->((0:Int)<=d),AllP [e=true]->(d.toNat<f.O.length)]<|
.reg 8 [] [] [.ev 0,.ev 1]<|
.ite (bif e then (decide (((f.O.getD d.toNat dF).L)>=a.L)) else false) (
.r (.ret 8)) (
.r (.cont ()))))
def S_q1s (a:TLa):SC Int Int :=
.range (a.O.length:Int) a.O.length rfl (.slot 6) 8 [1,6,7] (fun (_:Unit)=>[]) (fun _=>[]) () (S_q1s_b1 a) (fun _ => 
.r 0) id
def F_q1s (a:TLa):=(S_q1s a).den
theorem F_q1s_ok {a:TLa}:FO (F_q1s a) 55 [(TLa.d a)] [] vi NL:=fO (s:=S_q1s a) Tryz.func55
def S_q28_b1 (o:TLa) (p:(List TCh)) (f:Nat) (_:Unit):SC Int (Step Unit Int) :=
.reg 3 [] [] [.w f,.ev 0]<|
 let b:=(p.getD f dF)
.ite (cO (decide (b.C<1)) (decide (b.C>3))) (
.r (.ret 1)) (
.call (@F_qe_ok o b.B) fun h l=>
.calld [(b.C==1)=true,(!h)=false] dF (@F_qs_ok o b.B) fun q m =>
.reg 7 [] [(3,hc l [] true),(11,hc m [] true)] [.cl 2 l [] 2 true,.clg 0 [(b.C==1)=true,(!h)=false] m [] 2 true]<|
.ite (cO (!h) (bif (b.C==1) then (!q) else false)) (
.r (.ret 5)) (
.a 9 3 2 (@F_q2l_ok o b.J) fun s=>
.ite (bif (!s) then (cO (b.C==1) (b.J != (-1))) else false) (
.r (.ret 16)) (
.a 11 2 2 (@F_qi_ok b.M) fun t=>
.ite (bif (!t) then (cO (b.C != 2) (b.M != (-1))) else false) (
.r (.ret 2)) (
 let i:=(i64.wrap ((f:Int)-1))
 let g:=(p.getD i.toNat dF)
 let c:=(decide ((f:Int)>0))
 let d:=(decide (g.C>b.C))
 let e:=(g.C==b.C)
.calld [e=true,d=false,c=true] dF (@F_q17_ok g.B g.J b.B b.J) fun u n =>
 let j:=(i.toNat<p.length)
 let k:=((0:Int)<=i)
.guard [AllP [c=true]->k,AllP [c=true]->j,AllP [d=false,c=true]->k,AllP [d=false,c=true]->j,AllP [e=true,d=false,c=true]->k,AllP [e=true,d=false,c=true]->j]<|
.reg 13 [] [(39,hc n [] true)] [.ev 0,.ev 1,.ev 2,.ev 3,.ev 4,.ev 5,.ev 4,.ev 5,.clg 6 [e=true,d=false,c=true] n [] 2 true]<|
.ite (bif c then (cO d (bif e then (!u) else false)) else false) (
.r (.ret 8)) (
.r (.cont ()))))))
def S_q28 (b:TLa) (a:(List TCh)):SC Int Int :=
.range (a.length:Int) a.length rfl (.slot 1) 10 [1,2,8,9] (fun (_:Unit)=>[]) (fun _=>[]) () (S_q28_b1 b a) (fun _ => 
.r 0) id
def F_q28 (a:TLa) (b:(List TCh)):=(S_q28 a b).den
theorem F_q28_ok {a:TLa} {b:(List TCh)}:FO (F_q28 a b) 119 [(TLa.d a),(AV.d (eL TCh.e b))] [] vi NL:=fO (s:=S_q28 a b) Tryz.func119
def S_q1t_b1 (m:TLa) (f:Nat) (_:Unit):SC Int (Step Unit Int) :=
.reg 3 [] [(3,{ obs:=[(1,(TAm.b (⟨0,0,[]⟩:TAm)))] })] [.w f,.ev 0,.pf cz2]<|
 let c:=(m.A.getD f dF)
.ite (cO (cO (cO (decide (c.K<0)) (decide (c.K>35990))) (decide (c.L<1))) (decide (c.L>1000000))) (
.r (.ret 2)) (
 let g:=(i64.wrap ((f:Int)-1))
 let h:=(m.A.getD g.toNat dF)
 let d:=(decide ((f:Int)>0))
 let e:=(decide (h.K>c.K))
 let i:=(g.toNat<m.A.length)
 let j:=(h.K==c.K)
 let k:=((0:Int)<=g)
.guard [AllP [d=true]->k,AllP [d=true]->i,AllP [e=false,d=true]->k,AllP [e=false,d=true]->i,AllP [j=true,e=false,d=true]->k,AllP [j=true,e=false,d=true]->i]<|
.reg 6 [] [] [.ev 0,.ev 1,.ev 2,.ev 3,.ev 4,.ev 5]<|
.ite (bif d then (cO e (bif j then (decide (h.L>=c.L)) else false)) else false) (
.r (.ret 8)) (
.ite ((c.D.length:Int)==0) (
.r (.ret 1)) (
.a 10 3 2 (@F_q28_ok m c.D) fun l=>
.ite (l != 0) (
.r (.ret l)) (
.r (.cont ())))))
def S_q1t (a:TLa):SC Int Int :=
.range (a.A.length:Int) a.A.length rfl (.slot 7) 9 [1,7,8] (fun (_:Unit)=>[]) (fun _=>[]) () (S_q1t_b1 a) (fun _ => 
.r 0) id
def F_q1t (a:TLa):=(S_q1t a).den
theorem F_q1t_ok {a:TLa}:FO (F_q1t a) 56 [(TLa.d a)] [] vi NL:=fO (s:=S_q1t a) Tryz.func56
def S_q29_b1 (c:Int) (d:Int) (e:Int) (f:Int) (g:Int) (h:Int) (i:Int) (j:Int) (a:Nat) (_:Unit):SC Int (Step Unit Int) :=
.reg 8 [] [] [.w a,.ev 0]<|
 let b:=(([c,d,e,f,g,h,i,j]:List Int).getD a dF)
.ite (b != 0) (
.r (.ret b)) (
.r (.cont ()))
def S_q29 (b:TLa):SC Int Int :=
.ite (cO (cO (cO (cO (decide (b.E<0)) (decide (b.E>99))) (decide (b.G<1))) (decide (b.G>4))) (decide ((i64.wrap ((i64.wrap (b.E+b.G))-1))>99))) (
.r 2) (
.a 3 2 1 (@F_q2r_ok b.H) fun c=>
.ite (c != 0) (
.r c) (
.call (@F_q1p_ok b) fun d e=>
.call (@F_q1q_ok b) fun f g=>
.call (@F_qt_ok b b.R) fun h j=>
.call (@F_qt_ok b b.S) fun k l=>
.call (@F_q6_ok b) fun m n=>
.call (@F_q1r_ok b) fun o q=>
.call (@F_q1s_ok b) fun s t=>
.call (@F_q1t_ok b) fun u v=>
 let w:=([d,f,h,k,m,o,s,u]:List Int)
.reg 6 [] [(1,hc e [] true),(3,hc g [] true),(7,hc j [] true),(11,hc l [] true),(13,hc n [] true),(15,hc q [] true),(17,hc t [] true),(19,hc v [] true),(20,hv (vl w))] [.cl 7 e [] 1 true,.cl 6 g [] 1 true,.cl 5 j [] 1 true,.cl 4 l [] 1 true,.cl 3 n [] 1 true,.cl 2 q [] 1 true,.cl 1 t [] 1 true,.cl 0 v [] 1 true,.pf (z5 (DV.i .i64) w)]<|
.range 8 8 rfl (.why (.pf (p:=8<2 ^ 63) dk)) 61 [59,60] (fun (_:Unit)=>[]) (fun _=>[]) () (S_q29_b1 d f h k m o s u) (fun _ => 
.r 0) id))
def F_q29 (a:TLa):=(S_q29 a).den
theorem F_q29_ok {a:TLa}:FO (F_q29 a) 13 [(TLa.d a)] [] vi NL:=fO (s:=S_q29 a) Tryz.func13
def V_q48 (x:(List Int)):AV:=.d (eL (DV.i .i64) x)
def L_q48 (_:(List Int)):List Ob:=[.dead]
def F_q48 (a:List Int):Option (List Int):=guardP (a.length<4611686018427387904) (some (Lib.compact a))
theorem F_q48_ok {a:List Int} (r:(List Int)) (h:F_q48 a=some r):CallOk Tryz.prog 57 [(AV.ref 0 a.length 0 a.length)] [(eS 1 (DV.i .i64) a)] (V_q48 r) (L_q48 r):=by
 unfold F_q48 at h
 obtain⟨hl,h⟩:=z1o h
 obtain rfl:=yp h
 exact z99 (fun blk off cap zs w=>Any.slices_Compact_int Tryz.laysNm220 blk off cap zs w) (fun p cap w=>Any.slices_Compact_int_empty Tryz.laysNm220 p cap w) hl
abbrev R_q14:=(List Int)
def S_q14_b1 (j:TLa) (g:Nat) (a:(List Int)):SC R_q14 (Step ((List Int)) R_q14) :=
.reg 6 [] [(2,{ obs:=[(2,(TAm.b (⟨0,0,[]⟩:TAm)))] })] [.w g,.ev 0,.pf cz2]<|
.guard [(a.length+1) * (2 * 8)<=2 ^ 48]<|
 let f:=([(j.A.getD g dF).K]:List Int)
.reg 7 [] [(3,hv (vl f)),(4,{ h:=.obj,cast:=some (AV.ref 1 ((a++f).length) 0 ((a++f).length)),obs:=[(1,(eS 1 (DV.i .i64) (a++f)))] })] [.pf (z5 (DV.i .i64) f),.e a.length,.e a.length,.pf (p:=∀ k,k<1->(AV.d ((DV.i .i64) (f.getD k dF))).wd=1) (fun _ _=>rfl),.ev 0,.pf (zi (o:=1) (l:=a) (x:=f)),.pf (zh (sz:=1) (e:=(DV.i .i64)) (l:=a) (x:=f))]<|
.c (a++f)
def S_q14 (c:TLa):SC R_q14 R_q14 :=
.a 1 1 1 (@F_q2x_ok c) fun e=>
.ite (e != 0) (
.ret [.pf cz1] ([])) (
.reg 4 [] [] []<|
.bor 1 (fun j=>AV.d ((DV.i .i64) (([]:List Int).getD j dF))) [3]<|
.range (c.A.length:Int) c.A.length rfl (.slot 10) 12 [10,11] (fun (b:(List Int))=>[(3,(AV.ref 1 b.length 0 b.length))]) (fun b=>[(1,(eS 1 (DV.i .i64) b))]) ([]:List Int) (S_q14_b1 c) (fun b => 
.call (@F_q48_ok b) fun f g=>
.k 9 1 g [1] 2 false<|
.r f) id)
def F_q14 (a:TLa):=(S_q14 a).den
theorem F_q14_ok {a:TLa}:FO (F_q14 a) 14 [(TLa.d a)] [] vl NL:=fO (s:=S_q14 a) Tryz.func14
def S_q1u_b1 (c:TLa) (d:Y8) (e:Int) (b:Nat) (_:Unit):SC Int (Step Unit Int) :=
.reg 3 [] [] [.w b,.ev 0]<|
 let a:=(c.P.getD b dF)
.ite (bif (a.B==d) then (a.J==e) else false) (
.r (.ret a.M)) (
.r (.cont ()))
def S_q1u (a:TLa) (b:Y8) (c:Int):SC Int Int :=
.range (a.P.length:Int) a.P.length rfl (.slot 10) 12 [1,2,10,11] (fun (_:Unit)=>[]) (fun _=>[]) () (S_q1u_b1 a b c) (fun _ => 
.r 0) id
def F_q1u (a:TLa) (b:Y8) (c:Int):=(S_q1u a b c).den
theorem F_q1u_ok {a:TLa} {b:Y8} {c:Int}:FO (F_q1u a b c) 18 [(TLa.d a),(AV.d (DV.str b)),(vi c)] [] vi NL:=fO (s:=S_q1u a b c) Tryz.func18
def S_q2a_b1 (c:(List Int)) (b:(List Int)) (a:Nat) (_:Unit):SC Bool (Step Unit Bool) :=
.guard [a<b.length]<|
.reg 6 [] [] [.w a,.ev 1,.w a,.ev 0]<|
.ite ((c.getD a dF) != (b.getD a dF)) (
.r (.ret false)) (
.r (.cont ()))
def S_q2a (a:(List Int)) (b:(List Int)):SC Bool Bool :=
.ite ((a.length:Int) != (b.length:Int)) (
.r false) (
.range (a.length:Int) a.length rfl (.slot 0) 13 [0,1,12] (fun (_:Unit)=>[]) (fun _=>[]) () (S_q2a_b1 a b) (fun _ => 
.r true) id)
def F_q2a (a:(List Int)) (b:(List Int)):=(S_q2a a b).den
theorem F_q2a_ok {a:(List Int)} {b:(List Int)}:FO (F_q2a a b) 33 [(vl a),(vl b)] [] vb NL:=fO (s:=S_q2a a b) Tryz.func33
end
end Go.Proofs.YtgfgnhpecnmlpaaGreatDoor
