/- A part of the proof: what the functions compute, and that their calls return it. No condition. -/
import Derived.Test.YtbmpcbbimefmoaaGreatDoorG3
/- What the functions compute, and that their calls return it. No condition. -/
namespace Go.Proofs.YtbmpcbbimefmoaaGreatDoor
open Go Go.TA
open Go.IntKind (i64)
noncomputable section
set_option maxRecDepth 100000
set_option maxHeartbeats 2000000
abbrev R_q38:=Int×TLa×Bool×Int×TLa×Int
def S_q38 (b:TTr) (p0_0:TLa) (p0_1:Bool) (p0_2:Int) (p0_3:TLa) (p0_4:Int) (d:(List TTr)):SC R_q38 R_q38 :=
.call (@F_q4h_ok b p0_0 p0_1 p0_2 p0_3 p0_4 d) fun e g=>
.k 1 2 g [0,1] 3 true<|
.ite (e != 0) (
.r (e,p0_0,p0_1,p0_2,p0_3,p0_4)) (
.call (@F_q37_ok b.G p0_0 p0_1 p0_2 p0_3 p0_4 d) fun a h=>
.k 4 3 h [0,1] 3 false<|
.ite (a.1 != 0) (
.r (a.1,a.2.1,a.2.2.1,a.2.2.2.1,a.2.2.2.2.1,a.2.2.2.2.2)) (
.call (@F_q2g_ok a.2.2.2.2.1.N b) fun c i=>
.k 7 6 i [2] 3 true<|
.ite (decide (c<0)) (
.r (12,a.2.1,a.2.2.1,a.2.2.2.1,a.2.2.2.2.1,a.2.2.2.2.2)) (
.call (@F_q2i_ok (a.2.2.2.2.1.N.getD c.toNat dF) b a.2.1 a.2.2.1 a.2.2.2.1 a.2.2.2.2.1 a.2.2.2.2.2 d) fun j f=>
.guard [(0:Int)<=c,c.toNat<a.2.2.2.2.1.N.length]<|
.reg 10 [] [(12,hc f [0,1] true)] [.ev 0,.ev 1,.cl 2 f [0,1] 3 true]<|
.ite (decide (b.D>j)) (
.r (13,a.2.1,a.2.2.1,a.2.2.2.1,a.2.2.2.2.1,a.2.2.2.2.2)) (
.call (@F_q16_ok b.L b.C b.G a.2.1 a.2.2.1 a.2.2.2.1 a.2.2.2.2.1 a.2.2.2.2.2 d) fun l m=>
.k 12 9 m [0,1] 3 true<|
.ite (decide (b.D>l)) (
.r (15,a.2.1,a.2.2.1,a.2.2.2.1,a.2.2.2.2.1,a.2.2.2.2.2)) (
.call (@F_qu_ok b a.2.1 a.2.2.1 a.2.2.2.1 a.2.2.2.2.1 a.2.2.2.2.2 d) fun n o=>
.k 14 2 o [0,1] 3 true<|
.ite n (
.r (14,a.2.1,a.2.2.1,a.2.2.2.1,a.2.2.2.2.1,a.2.2.2.2.2)) (
.r (0,a.2.1,a.2.2.1,a.2.2.2.1,a.2.2.2.2.1,a.2.2.2.2.2)))))))
def F_q38 (a:TTr) (p0_0:TLa) (p0_1:Bool) (p0_2:Int) (p0_3:TLa) (p0_4:Int) (b:(List TTr)):=(S_q38 a p0_0 p0_1 p0_2 p0_3 p0_4 b).den
theorem F_q38_ok {b:TTr} {p0_0:TLa} {p0_1:Bool} {p0_2:Int} {p0_3:TLa} {p0_4:Int} {a:(List TTr)}:FO (F_q38 b p0_0 p0_1 p0_2 p0_3 p0_4 a) 49 [(vp 0),(TTr.d b)] [(Ob.box (AV.agg [(TLa.d p0_0),(AV.ref 1 a.length 0 a.length),(vb p0_1),(vi p0_2),(TLa.d p0_3),(vi p0_4)])),(eS 7 TTr.e a)] (fun x=>(vi x.1)) (fun x=>[(Ob.box (AV.agg [(TLa.d x.2.1),(AV.ref 1 a.length 0 a.length),(vb x.2.2.1),(vi x.2.2.2.1),(TLa.d x.2.2.2.2.1),(vi x.2.2.2.2.2)])),(eS 7 TTr.e a)]):=fO (s:=S_q38 b p0_0 p0_1 p0_2 p0_3 p0_4 a) Tryz.func49
theorem zp6:LeV (AV.tup [(AV.d (DV.lit (.pointer none))),(AV.full 0 fun _=>DV.b false),(vi 8)]) (AV.tup [AV.bot,(vl ([])),(vi 8)]):=LeV.tup (LeVs.cons z94 (LeVs.cons (lvN (DV.i .i64)) (LeVs.cons (LeV.refl _) LeVs.nil)))
theorem zp7:LeV (AV.tup [(AV.d (DV.lit (.pointer none))),(AV.full 0 fun _=>DV.b false),(vi 3)]) (AV.tup [AV.bot,(vl ([])),(vi 3)]):=LeV.tup (LeVs.cons z94 (LeVs.cons (lvN (DV.i .i64)) (LeVs.cons (LeV.refl _) LeVs.nil)))
abbrev R_qp:=(List Int)×Int
def S_qp_b1 (v:(List TTr)) (m:Nat) (a:TLa×Bool×Int×TLa×Int×(List TTr)×(List Int)):SC R_qp (Step (TLa×Bool×Int×TLa×Int×(List TTr)×(List Int)) R_qp) :=
.reg 10 [] [] [.w m,.ev 0]<|
 let j:=(decide ((m:Int)>0))
 let s:=(i64.wrap ((m:Int)-1))
 let t:=(v.getD m dF)
.calld [j=true] dF (@F_q36_ok (v.getD s.toNat dF) t) fun y u =>
.guard [AllP [j=true]->((0:Int)<=s),AllP [j=true]->(s.toNat<v.length)]<|
.reg 11 [] [(9,hc u [] true)] [.ev 0,.ev 1,.clg 2 [j=true] u [] 6 true]<|
.ite (bif j then (decide (y>=0)) else false) (
.ret [.pf zp6] (.ret ([],8))) (
.call (@F_q38_ok t a.1 a.2.1 a.2.2.1 a.2.2.2.1 a.2.2.2.2.1 a.2.2.2.2.2.1) fun c z=>
.k 13 2 z [2,3] 6 false<|
.cut none [1,8,9,12,23,24,25] (fun (_:TLa×Bool×Int×TLa×Int×(List TTr))=>[]) (fun b=>[(2,(Ob.box (AV.agg [(TLa.d b.1),(AV.ref 3 b.2.2.2.2.2.length 0 b.2.2.2.2.2.length),(vb b.2.1),(vi b.2.2.1),(TLa.d b.2.2.2.1),(vi b.2.2.2.2.1)]))),(3,(eS 7 TTr.e b.2.2.2.2.2))]) (
.ite (c.1==0) (
.guard [(a.2.2.2.2.2.1.length+1) * (2 * 72)<=2 ^ 48]<|
 let f:=([t]:List TTr)
 let n:=(a.2.2.2.2.2.1++f)
.reg 15 [7,10] [(6,hv (AV.d (eL TTr.e f))),(7,{ cast:=some (AV.ref 3 n.length 0 n.length),obs:=[(3,(eS 7 TTr.e n))] })] [.pf (z7 TTr.e f),.e a.2.2.2.2.2.1.length,.e a.2.2.2.2.2.1.length,.pf (p:=∀ k,k<1->(TTr.d (f.getD k dF)).wd=7) (fun _ _=>rfl),.ev 0,.pf (zk (o:=3) (l:=a.2.2.2.2.2.1) (x:=f)),.pf (zj (sz:=7) (e:=TTr.e) (l:=a.2.2.2.2.2.1) (x:=f))]<|
.r (.next (c.2.1,c.2.2.1,c.2.2.2.1,c.2.2.2.2.1,c.2.2.2.2.2,n))) (
.r (.next (c.2.1,c.2.2.1,c.2.2.2.1,c.2.2.2.2.1,c.2.2.2.2.2,a.2.2.2.2.2.1)))) fun b=>
.guard [(a.2.2.2.2.2.2.length+1) * (2 * 8)<=2 ^ 48]<|
 let g:=([c.1]:List Int)
 let q:=(a.2.2.2.2.2.2++g)
.reg 16 [] [(2,hv (vl g)),(3,{ h:=.obj,cast:=some (AV.ref 4 q.length 0 q.length),obs:=[(4,(eS 1 (DV.i .i64) q))] })] [.pf (z7 (DV.i .i64) g),.e a.2.2.2.2.2.2.length,.e a.2.2.2.2.2.2.length,.pf (p:=∀ k,k<1->(AV.d ((DV.i .i64) (g.getD k dF))).wd=1) (fun _ _=>rfl),.ev 0,.pf (zk (o:=4) (l:=a.2.2.2.2.2.2) (x:=g)),.pf (zj (sz:=1) (e:=(DV.i .i64)) (l:=a.2.2.2.2.2.2) (x:=g))]<|
.r (.cont (b.1,b.2.1,b.2.2.1,b.2.2.2.1,b.2.2.2.2.1,b.2.2.2.2.2,q)))
def S_qp (m:TLa) (h:(List TTr)):SC R_qp R_qp :=
.a 1 1 1 (@F_q35_ok m) fun g=>
.ite (g != 0) (
.ret [.pf (p:=LeV (AV.tup [(AV.d (DV.lit (.pointer none))),(AV.full 0 fun _=>DV.b false),(vi g)]) (AV.tup [AV.bot,(vl ([])),(vi g)])) (LeV.tup (LeVs.cons z94 (LeVs.cons (lvN (DV.i .i64)) (LeVs.cons (LeV.refl _) LeVs.nil))))] ([],g)) (
.ite (decide ((h.length:Int)>60)) (
.ret [.pf zp7] ([],3)) (
.call (@F_q3b_ok m) fun f l=>
.k 6 1 l [] 1 false<|
.reg 8 [] [] []<|
.bor 1 (fun j=>AV.d ((DV.i .i64) (([]:List Int).getD j dF))) [9]<|
.range (h.length:Int) h.length rfl (.slot 1) 25 [1,8,23,24] (fun (c:TLa×Bool×Int×TLa×Int×(List TTr)×(List Int))=>[(9,(AV.ref 4 c.2.2.2.2.2.2.length 0 c.2.2.2.2.2.2.length))]) (fun c=>[(2,(Ob.box (AV.agg [(TLa.d c.1),(AV.ref 3 c.2.2.2.2.2.1.length 0 c.2.2.2.2.2.1.length),(vb c.2.1),(vi c.2.2.1),(TLa.d c.2.2.2.1),(vi c.2.2.2.2.1)]))),(3,(eS 7 TTr.e c.2.2.2.2.2.1)),(4,(eS 1 (DV.i .i64) c.2.2.2.2.2.2))]) (f.1,f.2.1,f.2.2.1,f.2.2.2.1,f.2.2.2.2.1,f.2.2.2.2.2,([]:List Int)) (S_qp_b1 h) (fun c => 
.guard [c.2.2.2.2.2.2.length<2 ^ 63]<|
.reg 18 [] [] []<|
.frz 4 (.ev 0) none [5] []<|
.ret [.pf (p:=LeV (AV.tup [(vp 2),(vl c.2.2.2.2.2.2),(vi 0)]) (AV.tup [AV.bot,(vl c.2.2.2.2.2.2),(vi 0)])) (LeV.tup (LeVs.cons z94 (LeVs.cons (LeV.refl _) (LeVs.cons (LeV.refl _) LeVs.nil))))] (c.2.2.2.2.2.2,0)) id))
def F_qp (a:TLa) (b:(List TTr)):=(S_qp a b).den
theorem F_qp_ok {a:TLa} {b:(List TTr)}:FO (F_qp a b) 37 [(TLa.d a),(AV.d (eL TTr.e b))] [] (fun x=>(AV.tup [AV.bot,(vl x.1),(vi x.2)])) NL:=fO (s:=S_qp a b) Tryz.func37
abbrev R_q3f:=(List Int)×Int
def S_q3f (c:TLa) (d:(List TTr)):SC R_q3f R_q3f :=
.a 1 2 1 (@F_qp_ok c d) fun b=>
.r (b.1,b.2)
def F_q3f (a:TLa) (b:(List TTr)):=(S_q3f a b).den
theorem F_q3f_ok {a:TLa} {b:(List TTr)}:FO (F_q3f a b) 15 [(TLa.d a),(AV.d (eL TTr.e b))] [] (fun x=>(AV.tup [(vl x.1),(vi x.2)])) NL:=fO (s:=S_q3f a b) Tryz.func15
abbrev R_q5:=(List Int)×Int×TLa×Bool×Int×TLa×Int×(List TTr)
def S_q5_b1 (y:(List TTr)) (n:Nat) (a:TLa×Bool×Int×TLa×Int×(List TTr)×(List Int)):SC R_q5 (Step (TLa×Bool×Int×TLa×Int×(List TTr)×(List Int)) R_q5) :=
.reg 10 [] [] [.w n,.ev 0]<|
 let m:=(decide ((n:Int)>0))
 let t:=(i64.wrap ((n:Int)-1))
 let u:=(y.getD n dF)
.calld [m=true] dF (@F_q36_ok (y.getD t.toNat dF) u) fun z v =>
.guard [AllP [m=true]->((0:Int)<=t),AllP [m=true]->(t.toNat<y.length)]<|
.reg 11 [] [(9,hc v [] true)] [.ev 0,.ev 1,.clg 2 [m=true] v [] 6 true]<|
.guard [(bif m then (decide (z>=0)) else false)=false]<|
.br false (.ev 0)<|
.call (@F_q38_ok u a.1 a.2.1 a.2.2.1 a.2.2.2.1 a.2.2.2.2.1 a.2.2.2.2.2.1) fun f A=>
.k 13 2 A [2,3] 6 false<|
.cut none [1,8,9,12,23,24,25] (fun (_:TLa×Bool×Int×TLa×Int×(List TTr))=>[]) (fun b=>[(2,(Ob.box (AV.agg [(TLa.d b.1),(AV.ref 3 b.2.2.2.2.2.length 0 b.2.2.2.2.2.length),(vb b.2.1),(vi b.2.2.1),(TLa.d b.2.2.2.1),(vi b.2.2.2.2.1)]))),(3,(eS 7 TTr.e b.2.2.2.2.2))]) (
.ite (f.1==0) (
.guard [(a.2.2.2.2.2.1.length+1) * (2 * 72)<=2 ^ 48]<|
 let g:=([u]:List TTr)
 let q:=(a.2.2.2.2.2.1++g)
.reg 15 [7,10] [(6,hv (AV.d (eL TTr.e g))),(7,{ cast:=some (AV.ref 3 q.length 0 q.length),obs:=[(3,(eS 7 TTr.e q))] })] [.pf (z7 TTr.e g),.e a.2.2.2.2.2.1.length,.e a.2.2.2.2.2.1.length,.pf (p:=∀ k,k<1->(TTr.d (g.getD k dF)).wd=7) (fun _ _=>rfl),.ev 0,.pf (zk (o:=3) (l:=a.2.2.2.2.2.1) (x:=g)),.pf (zj (sz:=7) (e:=TTr.e) (l:=a.2.2.2.2.2.1) (x:=g))]<|
.r (.next (f.2.1,f.2.2.1,f.2.2.2.1,f.2.2.2.2.1,f.2.2.2.2.2,q))) (
.r (.next (f.2.1,f.2.2.1,f.2.2.2.1,f.2.2.2.2.1,f.2.2.2.2.2,a.2.2.2.2.2.1)))) fun b=>
.guard [(a.2.2.2.2.2.2.length+1) * (2 * 8)<=2 ^ 48]<|
 let j:=([f.1]:List Int)
 let s:=(a.2.2.2.2.2.2++j)
.reg 16 [] [(2,hv (vl j)),(3,{ h:=.obj,cast:=some (AV.ref 4 s.length 0 s.length),obs:=[(4,(eS 1 (DV.i .i64) s))] })] [.pf (z7 (DV.i .i64) j),.e a.2.2.2.2.2.2.length,.e a.2.2.2.2.2.2.length,.pf (p:=∀ k,k<1->(AV.d ((DV.i .i64) (j.getD k dF))).wd=1) (fun _ _=>rfl),.ev 0,.pf (zk (o:=4) (l:=a.2.2.2.2.2.2) (x:=j)),.pf (zj (sz:=1) (e:=(DV.i .i64)) (l:=a.2.2.2.2.2.2) (x:=j))]<|
.c (b.1,b.2.1,b.2.2.1,b.2.2.2.1,b.2.2.2.2.1,b.2.2.2.2.2,s)
def S_q5 (l:TLa) (f:(List TTr)):SC R_q5 R_q5 :=
.a 1 1 1 (@F_q35_ok l) fun g=>
.guard [(g != 0)=false]<|
.br false (.ev 0)<|
.guard [(decide ((f.length:Int)>60))=false]<|
.br false (.ev 0)<|
.call (@F_q3b_ok l) fun c h=>
.k 6 1 h [] 1 false<|
.reg 8 [] [] []<|
.bor 1 (fun j=>AV.d ((DV.i .i64) (([]:List Int).getD j dF))) [9]<|
.range (f.length:Int) f.length rfl (.slot 1) 25 [1,8,23,24] (fun (b:TLa×Bool×Int×TLa×Int×(List TTr)×(List Int))=>[(9,(AV.ref 4 b.2.2.2.2.2.2.length 0 b.2.2.2.2.2.2.length))]) (fun b=>[(2,(Ob.box (AV.agg [(TLa.d b.1),(AV.ref 3 b.2.2.2.2.2.1.length 0 b.2.2.2.2.2.1.length),(vb b.2.1),(vi b.2.2.1),(TLa.d b.2.2.2.1),(vi b.2.2.2.2.1)]))),(3,(eS 7 TTr.e b.2.2.2.2.2.1)),(4,(eS 1 (DV.i .i64) b.2.2.2.2.2.2))]) (c.1,c.2.1,c.2.2.1,c.2.2.2.1,c.2.2.2.2.1,c.2.2.2.2.2,([]:List Int)) (S_q5_b1 f) (fun b => 
.guard [b.2.2.2.2.2.2.length<2 ^ 63]<|
.reg 18 [] [] []<|
.frz 4 (.ev 0) none [5] []<|
.kill 0<|
.r (b.2.2.2.2.2.2,0,b.1,b.2.1,b.2.2.1,b.2.2.2.1,b.2.2.2.2.1,b.2.2.2.2.2.1)) id
def F_q5 (a:TLa) (b:(List TTr)):=(S_q5 a b).den
theorem F_q5_ok {a:TLa} {b:(List TTr)}:FO (F_q5 a b) 37 [(TLa.d a),(AV.d (eL TTr.e b))] [] (fun x=>(AV.tup [(vp 2),(vl x.1),(vi x.2.1)])) (fun x=>[Ob.dead,Ob.dead,(Ob.box (AV.agg [(TLa.d x.2.2.1),(AV.ref 3 x.2.2.2.2.2.2.2.length 0 x.2.2.2.2.2.2.2.length),(vb x.2.2.2.1),(vi x.2.2.2.2.1),(TLa.d x.2.2.2.2.2.1),(vi x.2.2.2.2.2.2.1)])),(eS 7 TTr.e x.2.2.2.2.2.2.2)]):=fO (s:=S_q5 a b) Tryz.func37
abbrev R_q5c:=Bool×TTr×TLa×Bool×Int×TLa×Int
def S_q5c (e:Int) (b:TTr) (p2_0:TLa) (p2_1:Bool) (p2_2:Int) (p2_3:TLa) (p2_4:Int) (f:(List TTr)):SC R_q5c R_q5c :=
 let c:=(⟨b.H,b.G,b.C,b.U,b.L,b.V,(i64.wrap (e+1))⟩:TTr)
.call (@F_q38_ok c p2_0 p2_1 p2_2 p2_3 p2_4 f) fun a d=>
.k 2 2 d [2,3] 4 false<|
.r ((a.1 != 0),c,a.2.1,a.2.2.1,a.2.2.2.1,a.2.2.2.2.1,a.2.2.2.2.2)
def F_q5c (a:Int) (b:TTr) (p2_0:TLa) (p2_1:Bool) (p2_2:Int) (p2_3:TLa) (p2_4:Int) (c:(List TTr)):=(S_q5c a b p2_0 p2_1 p2_2 p2_3 p2_4 c).den
theorem F_q5c_ok {c:Int} {f:TTr} {p2_0:TLa} {p2_1:Bool} {p2_2:Int} {p2_3:TLa} {p2_4:Int} {a:(List TTr)}:FO (F_q5c c f p2_0 p2_1 p2_2 p2_3 p2_4 a) 48 [(vi c),(vp 0),(vp 1)] [(TTr.b f),(Ob.box (vp 2)),(Ob.box (AV.agg [(TLa.d p2_0),(AV.ref 3 a.length 0 a.length),(vb p2_1),(vi p2_2),(TLa.d p2_3),(vi p2_4)])),(eS 7 TTr.e a)] (fun x=>(vb x.1)) (fun x=>[(TTr.b x.2.1),(Ob.box (vp 2)),(Ob.box (AV.agg [(TLa.d x.2.2.1),(AV.ref 3 a.length 0 a.length),(vb x.2.2.2.1),(vi x.2.2.2.2.1),(TLa.d x.2.2.2.2.2.1),(vi x.2.2.2.2.2.2)])),(eS 7 TTr.e a)]):=fO (s:=S_q5c c f p2_0 p2_1 p2_2 p2_3 p2_4 a) Tryz.func48
abbrev R_q1w:=Int×TTr×TLa×Bool×Int×TLa×Int
def S_q1w_b1 (e:(List TTr)) (a:TTr×TLa×Bool×Int×TLa×Int×Int×Int):SC R_q1w (Step (TTr×TLa×Bool×Int×TLa×Int×Int×Int) R_q1w) :=
.ite (decide (a.2.2.2.2.2.2.1<a.2.2.2.2.2.2.2)) (
.reg 3 [] [] [.pf (p:=(0:Int)<=1) dk]<|
 let c:=(i64.wrap ((IntKind.u64.wrap (i64.wrap (a.2.2.2.2.2.2.1+a.2.2.2.2.2.2.2))).fdiv (2 ^ (min (1:Int).toNat IntKind.u64.bits))))
.call (@F_q5c_ok c a.1 a.2.1 a.2.2.1 a.2.2.2.1 a.2.2.2.2.1 a.2.2.2.2.2.1 e) fun b d=>
.k 4 2 d [0,1,2,3] 4 false<|
.ite (!b.1) (
.r (.cont (b.2.1,b.2.2.1,b.2.2.2.1,b.2.2.2.2.1,b.2.2.2.2.2.1,b.2.2.2.2.2.2,(i64.wrap (c+1)),a.2.2.2.2.2.2.2))) (
.r (.cont (b.2.1,b.2.2.1,b.2.2.2.1,b.2.2.2.2.1,b.2.2.2.2.2.1,b.2.2.2.2.2.2,a.2.2.2.2.2.2.1,c)))) (
.r (.brk (a.1,a.2.1,a.2.2.1,a.2.2.2.1,a.2.2.2.2.1,a.2.2.2.2.2.1,a.2.2.2.2.2.2.1,a.2.2.2.2.2.2.2)))
def S_q1w (e:Int) (f:TTr) (p2_0:TLa) (p2_1:Bool) (p2_2:Int) (p2_3:TLa) (p2_4:Int) (c:(List TTr)):SC R_q1w R_q1w :=
.iter [1] (fun (a:TTr×TLa×Bool×Int×TLa×Int×Int×Int)=>[(5,(vi a.2.2.2.2.2.2.1)),(6,(vi a.2.2.2.2.2.2.2))]) (fun a=>[(0,(TTr.b a.1)),(2,(Ob.box (AV.agg [(TLa.d a.2.1),(AV.ref 3 c.length 0 c.length),(vb a.2.2.1),(vi a.2.2.2.1),(TLa.d a.2.2.2.2.1),(vi a.2.2.2.2.2.1)])))]) (f,p2_0,p2_1,p2_2,p2_3,p2_4,0,e) (S_q1w_b1 c) (fun a =>
.r (a.2.2.2.2.2.2.1,a.1,a.2.1,a.2.2.1,a.2.2.2.1,a.2.2.2.2.1,a.2.2.2.2.2.1)) id
def F_q1w (a:Int) (b:TTr) (p2_0:TLa) (p2_1:Bool) (p2_2:Int) (p2_3:TLa) (p2_4:Int) (c:(List TTr)):=(S_q1w a b p2_0 p2_1 p2_2 p2_3 p2_4 c).den
theorem F_q1w_ok {c:Int} {f:TTr} {p2_0:TLa} {p2_1:Bool} {p2_2:Int} {p2_3:TLa} {p2_4:Int} {a:(List TTr)}:FO (F_q1w c f p2_0 p2_1 p2_2 p2_3 p2_4 a) 47 [(vi c),(AV.fn 48 [(vp 0),(vp 1)])] [(TTr.b f),(Ob.box (vp 2)),(Ob.box (AV.agg [(TLa.d p2_0),(AV.ref 3 a.length 0 a.length),(vb p2_1),(vi p2_2),(TLa.d p2_3),(vi p2_4)])),(eS 7 TTr.e a)] (fun x=>(vi x.1)) (fun x=>[(TTr.b x.2.1),(Ob.box (vp 2)),(Ob.box (AV.agg [(TLa.d x.2.2.1),(AV.ref 3 a.length 0 a.length),(vb x.2.2.2.1),(vi x.2.2.2.2.1),(TLa.d x.2.2.2.2.2.1),(vi x.2.2.2.2.2.2)])),(eS 7 TTr.e a)]):=fO (s:=S_q1w c f p2_0 p2_1 p2_2 p2_3 p2_4 a) Tryz.func47
theorem zp8:LeV (AV.tup [(AV.d (DV.lit (.pointer none))),(AV.full 0 fun _=>DV.b false),(vi 8)]) (AV.tup [(AV.d (DV.lit (.pointer none))),(vl ([])),(vi 8)]):=LeV.tup (LeVs.cons (LeV.refl _) (LeVs.cons (lvN (DV.i .i64)) (LeVs.cons (LeV.refl _) LeVs.nil)))
theorem zp9:LeV (AV.tup [(AV.d (DV.lit (.pointer none))),(AV.full 0 fun _=>DV.b false),(vi 3)]) (AV.tup [(AV.d (DV.lit (.pointer none))),(vl ([])),(vi 3)]):=LeV.tup (LeVs.cons (LeV.refl _) (LeVs.cons (lvN (DV.i .i64)) (LeVs.cons (LeV.refl _) LeVs.nil)))
abbrev R_qb:=(List Int)×Int
def S_qb_b1 (v:(List TTr)) (m:Nat) (a:TLa×Bool×Int×TLa×Int×(List TTr)×(List Int)):SC R_qb (Step (TLa×Bool×Int×TLa×Int×(List TTr)×(List Int)) R_qb) :=
.reg 10 [] [] [.w m,.ev 0]<|
 let j:=(decide ((m:Int)>0))
 let s:=(i64.wrap ((m:Int)-1))
 let t:=(v.getD m dF)
.calld [j=true] dF (@F_q36_ok (v.getD s.toNat dF) t) fun y u =>
.guard [AllP [j=true]->((0:Int)<=s),AllP [j=true]->(s.toNat<v.length)]<|
.reg 11 [] [(9,hc u [] true)] [.ev 0,.ev 1,.clg 2 [j=true] u [] 6 true]<|
.ite (bif j then (decide (y>=0)) else false) (
.ret [.pf zp8] (.ret ([],8))) (
.call (@F_q38_ok t a.1 a.2.1 a.2.2.1 a.2.2.2.1 a.2.2.2.2.1 a.2.2.2.2.2.1) fun c z=>
.k 13 2 z [2,3] 6 false<|
.cut none [1,8,9,12,23,24,25] (fun (_:TLa×Bool×Int×TLa×Int×(List TTr))=>[]) (fun b=>[(2,(Ob.box (AV.agg [(TLa.d b.1),(AV.ref 3 b.2.2.2.2.2.length 0 b.2.2.2.2.2.length),(vb b.2.1),(vi b.2.2.1),(TLa.d b.2.2.2.1),(vi b.2.2.2.2.1)]))),(3,(eS 7 TTr.e b.2.2.2.2.2))]) (
.ite (c.1==0) (
.guard [(a.2.2.2.2.2.1.length+1) * (2 * 72)<=2 ^ 48]<|
 let f:=([t]:List TTr)
 let n:=(a.2.2.2.2.2.1++f)
.reg 15 [7,10] [(6,hv (AV.d (eL TTr.e f))),(7,{ cast:=some (AV.ref 3 n.length 0 n.length),obs:=[(3,(eS 7 TTr.e n))] })] [.pf (z7 TTr.e f),.e a.2.2.2.2.2.1.length,.e a.2.2.2.2.2.1.length,.pf (p:=∀ k,k<1->(TTr.d (f.getD k dF)).wd=7) (fun _ _=>rfl),.ev 0,.pf (zk (o:=3) (l:=a.2.2.2.2.2.1) (x:=f)),.pf (zj (sz:=7) (e:=TTr.e) (l:=a.2.2.2.2.2.1) (x:=f))]<|
.r (.next (c.2.1,c.2.2.1,c.2.2.2.1,c.2.2.2.2.1,c.2.2.2.2.2,n))) (
.r (.next (c.2.1,c.2.2.1,c.2.2.2.1,c.2.2.2.2.1,c.2.2.2.2.2,a.2.2.2.2.2.1)))) fun b=>
.guard [(a.2.2.2.2.2.2.length+1) * (2 * 8)<=2 ^ 48]<|
 let g:=([c.1]:List Int)
 let q:=(a.2.2.2.2.2.2++g)
.reg 16 [] [(2,hv (vl g)),(3,{ h:=.obj,cast:=some (AV.ref 4 q.length 0 q.length),obs:=[(4,(eS 1 (DV.i .i64) q))] })] [.pf (z7 (DV.i .i64) g),.e a.2.2.2.2.2.2.length,.e a.2.2.2.2.2.2.length,.pf (p:=∀ k,k<1->(AV.d ((DV.i .i64) (g.getD k dF))).wd=1) (fun _ _=>rfl),.ev 0,.pf (zk (o:=4) (l:=a.2.2.2.2.2.2) (x:=g)),.pf (zj (sz:=1) (e:=(DV.i .i64)) (l:=a.2.2.2.2.2.2) (x:=g))]<|
.r (.cont (b.1,b.2.1,b.2.2.1,b.2.2.2.1,b.2.2.2.2.1,b.2.2.2.2.2,q)))
def S_qb (o:TLa) (m:(List TTr)):SC R_qb R_qb :=
.a 1 1 1 (@F_q35_ok o) fun g=>
 let l:=(AV.d (DV.lit (.pointer none)))
.ite (g != 0) (
.ret [.pf (p:=LeV (AV.tup [l,(AV.full 0 fun _=>DV.b false),(vi g)]) (AV.tup [l,(vl ([])),(vi g)])) (LeV.tup (LeVs.cons (LeV.refl _) (LeVs.cons (lvN (DV.i .i64)) (LeVs.cons (LeV.refl _) LeVs.nil))))] ([],g)) (
.ite (decide ((m.length:Int)>60)) (
.ret [.pf zp9] ([],3)) (
.call (@F_q3b_ok o) fun f n=>
.k 6 1 n [] 1 false<|
.reg 8 [] [] []<|
.bor 1 (fun j=>AV.d ((DV.i .i64) (([]:List Int).getD j dF))) [9]<|
.range (m.length:Int) m.length rfl (.slot 1) 25 [1,8,23,24] (fun (c:TLa×Bool×Int×TLa×Int×(List TTr)×(List Int))=>[(9,(AV.ref 4 c.2.2.2.2.2.2.length 0 c.2.2.2.2.2.2.length))]) (fun c=>[(2,(Ob.box (AV.agg [(TLa.d c.1),(AV.ref 3 c.2.2.2.2.2.1.length 0 c.2.2.2.2.2.1.length),(vb c.2.1),(vi c.2.2.1),(TLa.d c.2.2.2.1),(vi c.2.2.2.2.1)]))),(3,(eS 7 TTr.e c.2.2.2.2.2.1)),(4,(eS 1 (DV.i .i64) c.2.2.2.2.2.2))]) (f.1,f.2.1,f.2.2.1,f.2.2.2.1,f.2.2.2.2.1,f.2.2.2.2.2,([]:List Int)) (S_qb_b1 m) (fun c => 
.guard [c.2.2.2.2.2.2.length<2 ^ 63]<|
.reg 18 [] [] []<|
.frz 4 (.ev 0) none [5] []<|
.guard [False]<|
.ret [.der (fun (h:False)=>(h.elim:LeV (AV.tup [(vp 2),(vl c.2.2.2.2.2.2),(vi 0)]) (AV.tup [l,(vl c.2.2.2.2.2.2),(vi 0)]))) 0] (c.2.2.2.2.2.2,0)) id))
def F_qb (a:TLa) (b:(List TTr)):=(S_qb a b).den
theorem F_qb_ok {a:TLa} {b:(List TTr)}:FO (F_qb a b) 37 [(TLa.d a),(AV.d (eL TTr.e b))] [] (fun x=>(AV.tup [(AV.d (DV.lit (.pointer none))),(vl x.1),(vi x.2)])) NL:=fO (s:=S_qb a b) Tryz.func37
def S_q30 (i:TLa) (f:(List TTr)) (o:TTr):SC (Int×Int) (Int×Int) :=
.reg 0 [] [] []<|
.split ((F_q5 i f).isSome) (
.call (@F_q5_ok i f) fun b j=>
.k 1 2 j [] 2 false<|
.guard [(b.2.1 != 0)=false]<|
.br false (.ev 0)<|
 let d:=(f.length:Int)
 let c:=(decide (d>0))
 let e:=(i64.wrap (d-1))
.calld [c=true] dF (@F_q36_ok (f.getD e.toNat dF) o) fun l g =>
.guard [AllP [c=true]->((0:Int)<=e),AllP [c=true]->(e.toNat<f.length)]<|
.reg 5 [] [(9,hc g [] true)] [.ev 0,.ev 1,.clg 2 [c=true] g [] 7 true]<|
.ite (bif c then (decide (l>=0)) else false) (
.r (0,8)) (
.ite (d==60) (
.r (0,3)) (
.call (@F_q1w_ok 1000000000000 o b.2.2.1 b.2.2.2.1 b.2.2.2.2.1 b.2.2.2.2.2.1 b.2.2.2.2.2.2.1 b.2.2.2.2.2.2.2) fun m n=>
.k 9 1 n [1,6,4,5] 7 false<|
.r (m.1,0)))) (
.a 1 2 2 (@F_qb_ok i f) fun h=>
.guard [(h.2 != 0)=true]<|
.br true (.ev 0)<|
.r (0,h.2))
def F_q30 (a:TLa) (b:(List TTr)) (c:TTr):=(S_q30 a b c).den
theorem F_q30_ok {a:TLa} {b:(List TTr)} {c:TTr}:FO (F_q30 a b c) 27 [(TLa.d a),(AV.d (eL TTr.e b)),(TTr.d c)] [] (fun x=>(AV.tup [(vi x.1),(vi x.2)])) NL:=fO (s:=S_q30 a b c) Tryz.func27
def S_q3q:SC Bool Bool :=
.call (@F_q4y_ok) fun l g=>
 let m:=(⟨1,0,0,1,[49,46,49],[50],50⟩:TTr)
 let b:=([m,(⟨2,0,0,1,[49,46,49],[50],1⟩:TTr)]:List TTr)
.call (@F_q3f_ok l b) fun a h=>
.reg 1 [] [(0,hc g [] true),(3,hv (AV.d (eL TTr.e b))),(4,hc h [] true)] [.cl 1 g [] 0 true,.pf (z7 TTr.e b),.cl 0 h [] 0 true]<|
.call (@F_q4y_ok) fun n i=>
.call (@F_q30_ok n ([]) (⟨1,0,0,1,[49,46,49],[50],0⟩:TTr)) fun j k=>
.reg 2 [] [(0,hc i [] true),(2,hc k [] true)] [.cl 1 i [] 0 true,.cl 0 k [] 0 true]<|
 let c:=(bif (a.2==0) then ((a.1.length:Int)==2) else false)
 let f:=(bif c then ((a.1.getD 0 dF)==0) else false)
.guard [AllP [c=true]->(0<a.1.length),AllP [f=true]->(1<a.1.length)]<|
.reg 3 [] [] [.pf (p:=AllP [c=true]->((0:Int)<=0)) (fun _=>dk),.ev 0,.pf (p:=AllP [f=true]->((0:Int)<=1)) (fun _=>dk),.ev 1]<|
.r (bif (bif (bif f then ((a.1.getD 1 dF)==13) else false) then (j.2==0) else false) then (j.1==50) else false)
def F_q3q:=S_q3q.den
theorem F_q3q_ok :FO F_q3q 6 [] [] vb NL:=fO (s:=S_q3q) Tryz.func6
def S_q4s (b:(List Int)):SC TTape TTape :=
 let a:=(if 500<(b.length:Int) then 500 else (b.length:Int))
.guard [(0:Int)<=a,a.toNat<=b.length]<|
 let c:=(b.take a.toNat)
.reg 1 [] [(4,hv (vl c))] [.ev 0,.ev 1,.der (fun (h0:a.toNat<=b.length)=>lvT (DV.i .i64) b h0) 1]<|
.r (⟨c,0⟩:TTape)
def F_q4s (a:(List Int)):=(S_q4s a).den
theorem F_q4s_ok {a:(List Int)}:FO (F_q4s a) 7 [(vl a)] [] (fun _=>(vp 0)) (fun x=>[(TTape.b x)]):=fO (s:=S_q4s a) Tryz.func7
abbrev R_q0:=Int×TTape
def S_q0 (d:Int) (a:TTape):SC R_q0 R_q0 :=
.ite (decide (a.at_>=(a.l.length:Int))) (
.r (0,a)) (
.guard [(0:Int)<=a.at_,a.at_.toNat<a.l.length,(d:Int)≠0]<|
.reg 3 [] [] [.ev 0,.ev 1,.ev 2]<|
 let b:=((a.l.getD a.at_.toNat dF).tmod d)
 let c:=(⟨a.l,(i64.wrap (a.at_+1))⟩:TTape)
.ite (decide (b<0)) (
.r ((i64.wrap (b+d)),c)) (
.r (b,c)))
def F_q0 (a:Int) (b:TTape):=(S_q0 a b).den
theorem F_q0_ok {a:Int} {c:TTape}:FO (F_q0 a c) 10 [(vp 0),(vi a)] [(TTape.b c)] (fun x=>(vi x.1)) (fun x=>[(TTape.b x.2)]):=fO (s:=S_q0 a c) Tryz.func10
def S_q3 (c:(List Int)) (d:TTape):SC (Int×TTape) (Int×TTape) :=
.call (@F_q0_ok (c.length:Int) d) fun a b=>
.guard [(0:Int)<=a.1,a.1.toNat<c.length]<|
.reg 1 [] [(4,hc b [0] false)] [.cl 2 b [0] 1 false,.ev 0,.ev 1]<|
.r ((c.getD a.1.toNat dF),a.2)
def F_q3 (a:(List Int)) (b:TTape):=(S_q3 a b).den
theorem F_q3_ok {a:(List Int)} {c:TTape}:FO (F_q3 a c) 31 [(vp 0),(vl a)] [(TTape.b c)] (fun x=>(vi x.1)) (fun x=>[(TTape.b x.2)]):=fO (s:=S_q3 a c) Tryz.func31
abbrev R_qv:=Int×TTape
def S_qv (c:Int) (d:Int) (e:TTape):SC R_qv R_qv :=
.call (@F_q0_ok (i64.wrap ((i64.wrap (d-c))+1)) e) fun a b=>
.k 1 6 b [0] 1 false<|
.r ((i64.wrap (c+a.1)),a.2)
def F_qv (a:Int) (b:Int) (c:TTape):=(S_qv a b c).den
theorem F_qv_ok {a:Int} {c:Int} {d:TTape}:FO (F_qv a c d) 11 [(vp 0),(vi a),(vi c)] [(TTape.b d)] (fun x=>(vi x.1)) (fun x=>[(TTape.b x.2)]):=fO (s:=S_qv a c d) Tryz.func11
theorem zhi:LeV (AV.full 0 fun _=>DV.b false) (vl ([])):=lvN (DV.i .i64)
abbrev R_qh:=(List Int)
def S_qh_b1 (f:Y8) (a:(List Int)×Int×Int×Int):SC R_qh (Step ((List Int)×Int×Int×Int) R_qh) :=
.ite (decide (a.2.2.2<=(f.length:Int))) (
 let g:=(a.2.2.2==(f.length:Int))
 let q:=(a.2.2.2.toNat<f.length)
.guard [AllP [g=false]->((0:Int)<=a.2.2.2),AllP [g=false]->q]<|
.reg 8 [] [] [.ev 0,.ev 1]<|
 let c:=((f.getD a.2.2.2.toNat 0).toNat:Int)
 let s:=(i64.wrap (a.2.2.2+1))
.ite (cO g (c==46)) (
 let j:=(cO (a.2.2.1==0) (decide (a.2.2.1>2)))
 let m:=(i64.wrap (a.2.2.2-a.2.2.1))
.guard [AllP [j=false]->((0:Int)<=m),AllP [j=false]->(m.toNat<f.length)]<|
.reg 9 [] [] [.ev 0,.ev 1]<|
.ite (cO j (((f.getD m.toNat 0).toNat:Int)==48)) (
.ret [.pf zhi] (.ret ([]))) (
.guard [(a.1.length+1) * (2 * 8)<=2 ^ 48]<|
 let b:=([a.2.1]:List Int)
.reg 11 [] [(2,hv (vl b)),(3,{ h:=.obj,cast:=some (AV.ref 0 ((a.1++b).length) 0 ((a.1++b).length)),obs:=[(0,(eS 1 (DV.i .i64) (a.1++b)))] })] [.pf (z7 (DV.i .i64) b),.e a.1.length,.e a.1.length,.pf (p:=∀ k,k<1->(AV.d ((DV.i .i64) (b.getD k dF))).wd=1) (fun _ _=>rfl),.ev 0,.pf (zk (o:=0) (l:=a.1) (x:=b)),.pf (zj (sz:=1) (e:=(DV.i .i64)) (l:=a.1) (x:=b))]<|
.r (.cont ((a.1++b),0,0,s)))) (
 let n:=(decide (c<48))
.guard [(0:Int)<=a.2.2.2,a.2.2.2.toNat<f.length,AllP [n=false]->((0:Int)<=a.2.2.2),AllP [n=false]->q]<|
.reg 13 [] [] [.ev 0,.ev 1,.ev 2,.ev 3]<|
.ite (cO n (decide (c>57))) (
.ret [.pf zhi] (.ret ([]))) (
.reg 15 [] [] [.ev 1,.ev 2]<|
.r (.cont (a.1,(i64.wrap ((i64.wrap (10 * a.2.1))+(i64.wrap (IntKind.u8.wrap (c-48))))),(i64.wrap (a.2.2.1+1)),s))))) (
.r (.brk (a.1,a.2.1,a.2.2.1,a.2.2.2)))
def S_qh (b:Y8):SC R_qh R_qh :=
.ite (decide ((b.length:Int)>12)) (
.ret [.pf zhi] ([])) (
.reg 5 [] [] []<|
.bor 1 (fun j=>AV.d ((DV.i .i64) (([]:List Int).getD j dF))) [3]<|
.iter [0] (fun (a:(List Int)×Int×Int×Int)=>[(3,(AV.ref 0 a.1.length 0 a.1.length)),(4,(vi a.2.1)),(5,(vi a.2.2.1)),(6,(vi a.2.2.2))]) (fun a=>[(0,(eS 1 (DV.i .i64) a.1))]) (([]:List Int),0,0,0) (S_qh_b1 b) (fun a =>
.ite (decide ((a.1.length:Int)>4)) (
.ret [.pf zhi] ([])) (
.guard [a.1.length<2 ^ 63]<|
.reg 18 [] [] []<|
.frz 0 (.ev 0) none [2] []<|
.r a.1)) id)
def F_qh (a:Y8):=(S_qh a).den
theorem F_qh_ok {a:Y8}:FO (F_qh a) 51 [(AV.d (DV.str a))] [] vl NL:=fO (s:=S_qh a) Tryz.func51
abbrev R_q1h:=Y8
def S_q1h_b1 (i:(List Int)) (a:Nat) (c:Y8):SC R_q1h (Step Y8 R_q1h) :=
.guard [(0+a)<i.length]<|
.reg 6 [] [] [.e i.length,.w a,.ev 1,.e i.length,.ev 0]<|
 let f:=(i.getD (0+a) dF)
.ite (cO (decide (f<1)) (decide (f>99))) (
.r (.ret ([]))) (
.cut none [5,9,10,11] (fun (b:Y8)=>[(3,(AV.d (DV.str b)))]) (fun _=>[]) (
.ite (decide ((a:Int)>0)) (
.guard [c.length+([46]).length<2 ^ 63]<|
.reg 10 [] [] [.ev 0]<|
.r (.next (c++([46])))) (
.r (.next c))) fun b=>
.call (@F_q5d_ok f) fun g h=>
.guard [b.length+g.length<2 ^ 63]<|
.reg 11 [] [(2,hc h [] true)] [.cl 1 h [] 1 true,.ev 0]<|
.r (.cont (b++g)))
def S_q1h (b:(List Int)):SC R_q1h R_q1h :=
.ite (decide ((b.length:Int)>4)) (
.r ([])) (
.guard [b.length<2 ^ 63]<|
.range (b.length:Int) b.length rfl (.why (.ev 0)) 11 [9,10] (fun (a:Y8)=>[(3,(AV.d (DV.str a)))]) (fun _=>[]) ([]) (S_q1h_b1 b) (fun a => 
.r a) id)
def F_q1h (a:(List Int)):=(S_q1h a).den
theorem F_q1h_ok {a:(List Int)}:FO (F_q1h a) 52 [(AV.ref 0 a.length 0 a.length)] [(eS 1 (DV.i .i64) a)] (fun x=>(AV.d (DV.str x))) (fun _=>[(eS 1 (DV.i .i64) a)]):=fO (s:=S_q1h a) Tryz.func52
def S_qi_b1 (b:R_qh) (c:R_qh) (a:Int):SC Int (Step Int Int) :=
.ite (bif (decide (a<(b.length:Int))) then (decide (a<(c.length:Int))) else false) (
.guard [(0:Int)<=a,a.toNat<b.length,a.toNat<c.length]<|
.reg 15 [] [] [.ev 0,.ev 1,.ev 0,.ev 2]<|
 let d:=(b.getD a.toNat dF)
 let e:=(c.getD a.toNat dF)
.ite (decide (d<e)) (
.r (.ret (-1))) (
.reg 17 [] [] [.ev 1,.ev 2,.ev 1,.ev 3]<|
.ite (decide (d>e)) (
.r (.ret 1)) (
.r (.cont (i64.wrap (a+1)))))) (
.r (.brk a))
def S_qi (g:Y8) (h:Y8):SC Int Int :=
.call (@F_qh_ok g) fun c d=>
.call (@F_qh_ok h) fun e f=>
.reg 1 [] [(1,hc d [] true),(3,hc f [] true)] [.cl 1 d [] 0 true,.cl 0 f [] 0 true]<|
 let a:=(c.length:Int)
 let b:=(e.length:Int)
.ite (cO (a==0) (b==0)) (
.ite (decide (a>0)) (
.r 1) (
.ite (decide (b>0)) (
.r (-1)) (
.ite (Op.bytesLess g h) (
.r (-1)) (
.ite (!(Op.bytesLess g h||g==h)) (
.r 1) (
.r 0))))) (
.iter [5,6] (fun (i:Int)=>[(7,(vi i))]) (fun _=>[]) 0 (S_qi_b1 c e) (fun _ =>
.ite (decide (a<b)) (
.r (-1)) (
.ite (decide (a>b)) (
.r 1) (
.r 0))) id)
def F_qi (a:Y8) (b:Y8):=(S_qi a b).den
theorem F_qi_ok {a:Y8} {b:Y8}:FO (F_qi a b) 82 [(AV.d (DV.str a)),(AV.d (DV.str b))] [] vi NL:=fO (s:=S_qi a b) Tryz.func82
abbrev R_qw:=(List Y8)
def S_qw_b1 (m:(List Y8)) (n:Y8) (i:Nat) (c:(List Y8)×Bool):SC R_qw (Step ((List Y8)×Bool) R_qw) :=
.reg 5 [] [] [.w i,.ev 0]<|
.a 6 2 1 (@F_qi_ok n (m.getD i dF)) fun j=>
.ite (j==0) (
.r (.ret m)) (
.cut none [0,1,8,10,11,12] (fun (b:(List Y8)×Bool)=>[(5,(AV.ref 0 b.1.length 0 b.1.length)),(6,(vb b.2))]) (fun b=>[(0,(eS 1 DV.str b.1))]) (
.ite (bif (decide (j<0)) then (!c.2) else false) (
.guard [(c.1.length+1) * (2 * 16)<=2 ^ 48]<|
 let f:=([n]:List Y8)
.reg 10 [] [(2,hv (AV.d (eL DV.str f))),(3,{ h:=.obj,cast:=some (AV.ref 0 ((c.1++f).length) 0 ((c.1++f).length)),obs:=[(0,(eS 1 DV.str (c.1++f)))] })] [.pf (z7 DV.str f),.e c.1.length,.e c.1.length,.pf (p:=∀ k,k<1->(AV.d (DV.str (f.getD k dF))).wd=1) (fun _ _=>rfl),.ev 0,.pf (zk (o:=0) (l:=c.1) (x:=f)),.pf (zj (sz:=1) (e:=DV.str) (l:=c.1) (x:=f))]<|
.r (.next ((c.1++f),true))) (
.r (.next (c.1,c.2)))) fun b=>
.guard [(b.1.length+1) * (2 * 16)<=2 ^ 48]<|
 let g:=([(m.getD i dF)]:List Y8)
.reg 11 [] [(2,hv (AV.d (eL DV.str g))),(3,{ h:=.obj,cast:=some (AV.ref 0 ((b.1++g).length) 0 ((b.1++g).length)),obs:=[(0,(eS 1 DV.str (b.1++g)))] })] [.pf (z7 DV.str g),.e b.1.length,.e b.1.length,.pf (p:=∀ k,k<1->(AV.d (DV.str (g.getD k dF))).wd=1) (fun _ _=>rfl),.ev 0,.pf (zk (o:=0) (l:=b.1) (x:=g)),.pf (zj (sz:=1) (e:=DV.str) (l:=b.1) (x:=g))]<|
.r (.cont ((b.1++g),b.2)))
def S_qw (c:(List Y8)) (f:Y8):SC R_qw R_qw :=
.reg 3 [] [] []<|
.bor 1 (fun j=>AV.d (DV.str (([]:List Y8).getD j dF))) [5]<|
.range (c.length:Int) c.length rfl (.slot 0) 12 [0,1,10,11] (fun (a:(List Y8)×Bool)=>[(5,(AV.ref 0 a.1.length 0 a.1.length)),(6,(vb a.2))]) (fun a=>[(0,(eS 1 DV.str a.1))]) (([]:List Y8),false) (S_qw_b1 c f) (fun a => 
.ite (!a.2) (
.guard [(a.1.length+1) * (2 * 16)<=2 ^ 48]<|
 let b:=([f]:List Y8)
.reg 14 [] [(2,hv (AV.d (eL DV.str b))),(3,{ h:=.obj,cast:=some (AV.ref 0 ((a.1++b).length) 0 ((a.1++b).length)),obs:=[(0,(eS 1 DV.str (a.1++b)))] })] [.pf (z7 DV.str b),.e a.1.length,.e a.1.length,.pf (p:=∀ k,k<1->(AV.d (DV.str (b.getD k dF))).wd=1) (fun _ _=>rfl),.ev 0,.pf (zk (o:=0) (l:=a.1) (x:=b)),.pf (zj (sz:=1) (e:=DV.str) (l:=a.1) (x:=b))]<|
.guard [(a.1++b).length<2 ^ 63]<|
.reg 15 [] [] []<|
.frz 0 (.ev 0) none [4] []<|
.r (a.1++b)) (
.guard [a.1.length<2 ^ 63]<|
.reg 15 [] [] []<|
.frz 0 (.ev 0) none [4] []<|
.r a.1)) id
def F_qw (a:(List Y8)) (b:Y8):=(S_qw a b).den
theorem F_qw_ok {a:(List Y8)} {b:Y8}:FO (F_qw a b) 53 [(AV.d (eL DV.str a)),(AV.d (DV.str b))] [] (fun x=>(AV.d (eL DV.str x))) NL:=fO (s:=S_qw a b) Tryz.func53
end
end Go.Proofs.YtbmpcbbimefmoaaGreatDoor
/- What the functions compute,and that their calls return it. No condition. -/
namespace Go.Proofs.YtbmpcbbimefmoaaGreatDoor
open Go Go.TA
open Go.IntKind (i64)
noncomputable section
set_option maxRecDepth 100000
abbrev R_q8:=(List THe)×TTape
def S_q8_b1 (c:TTape×(List Y8)×Int):SC R_q8 (Step (TTape×(List Y8)×Int) R_q8) :=
.ite (decide (c.2.2>0)) (
.call (@F_q0_ok (c.2.1.length:Int) c.1) fun g j=>
.call (@F_qh_ok (c.2.1.getD g.1.toNat dF)) fun b m=>
.guard [(0:Int)<=g.1,g.1.toNat<c.2.1.length]<|
.reg 5 [] [(4,hc j [0] false),(7,hc m [] true)] [.cl 3 j [0] 1 false,.ev 0,.ev 1,.cl 2 m [] 1 true]<|
 let n:=(i64.wrap (c.2.2-1))
.ite (decide ((b.length:Int)>=3)) (
.r (.cont (g.2,c.2.1,n))) (
.call (@F_q3_ok ([1,2,3,10]:List Int) g.2) fun q s=>
 let f:=([q.1]:List Int)
.call (@F_q1h_ok (b++f)) fun u t=>
.guard [b.length * (2 * 8)<=2 ^ 48,(b.length+1) * (2 * 8)<=2 ^ 48]<|
.reg 7 [] [(2,{ h:=.obj }),(4,hv (vl ([1,2,3,10]:List Int))),(5,hc s [0] false),(6,hv (vl f)),(7,{ cast:=some (AV.ref 1 ((b++f).length) 0 ((b++f).length)),obs:=[(1,(eS 1 (DV.i .i64) (b++f)))] }),(8,hc t [1] true)] [.pf (p:=∀ k,k<b.length->(AV.d ((DV.i .i64) (b.getD k dF))).wd=1) (fun _ _=>rfl),.ev 0,.pf (z7 (DV.i .i64) ([1,2,3,10]:List Int)),.cl 3 s [0] 2 false,.pf (z7 (DV.i .i64) f),.e b.length,.e b.length,.pf (p:=∀ k,k<1->(AV.d ((DV.i .i64) (f.getD k dF))).wd=1) (fun _ _=>rfl),.ev 1,.pf (zk (o:=1) (l:=b) (x:=f)),.pf (zj (sz:=1) (e:=(DV.i .i64)) (l:=b) (x:=f)),.cl 2 t [1] 2 true]<|
.a 8 2 2 (@F_qw_ok c.2.1 u) fun v=>
.r (.cont (q.2,v,n)))) (
.r (.brk (c.1,c.2.1,c.2.2)))
def S_q8_b2 (a:TTape×(List Y8)×Int):SC R_q8 (Step (TTape×(List Y8)×Int) R_q8) :=
.ite (decide (a.2.2>0)) (
.call (@F_q0_ok 2 a.1) fun b c=>
.call (@F_qw_ok a.2.1 (([[57,46,49],[57,46,50]]:List Y8).getD b.1.toNat dF)) fun f e=>
.guard [(0:Int)<=b.1,b.1.toNat<2]<|
.reg 13 [] [(1,hv (AV.d (eL DV.str ([[57,46,49],[57,46,50]]:List Y8)))),(3,hc c [0] false),(6,hc e [] true)] [.pf (z7 DV.str ([[57,46,49],[57,46,50]]:List Y8)),.cl 3 c [0] 1 false,.ev 0,.ev 1,.cl 2 e [] 1 true]<|
.r (.cont (b.2,f,(i64.wrap (a.2.2-1))))) (
.r (.brk (a.1,a.2.1,a.2.2)))
def S_q8_b3 (m:TTape×(List Y8)×Int) (i:Nat) (a:TTape×(List THe)):SC R_q8 (Step (TTape×(List THe)) R_q8) :=
.reg 17 [] [] [.w i,.ev 0]<|
.call (@F_q0_ok 5 a.1) fun b j=>
.guard [(0:Int)<=b.1,b.1.toNat<5,(a.2.length+1) * (2 * 32)<=2 ^ 48]<|
 let f:=([(⟨(m.2.1.getD i dF),(([[115,99,104,111,111,108,115],[114,111,97,100,115],[99,111,117,114,116,32,111,102,32,97,117,100,105,116],[97],[116,97,120]]:List Y8).getD b.1.toNat dF)⟩:THe)]:List THe)
 let g:=(a.2++f)
.reg 18 [] [(2,hv (AV.d (eL DV.str ([[115,99,104,111,111,108,115],[114,111,97,100,115],[99,111,117,114,116,32,111,102,32,97,117,100,105,116],[97],[116,97,120]]:List Y8)))),(4,hc j [0] false),(8,hv (AV.d (eL THe.e f))),(9,{ h:=.obj,cast:=some (AV.ref 1 g.length 0 g.length),obs:=[(1,(eS 2 THe.e g))] })] [.pf (z7 DV.str ([[115,99,104,111,111,108,115],[114,111,97,100,115],[99,111,117,114,116,32,111,102,32,97,117,100,105,116],[97],[116,97,120]]:List Y8)),.cl 3 j [0] 2 false,.ev 0,.ev 1,.pf (z7 THe.e f),.e a.2.length,.e a.2.length,.pf (p:=∀ k,k<1->(THe.d (f.getD k dF)).wd=2) (fun _ _=>rfl),.ev 2,.pf (zk (o:=1) (l:=a.2) (x:=f)),.pf (zj (sz:=2) (e:=THe.e) (l:=a.2) (x:=f))]<|
.c (b.2,g)
def S_q8 (o:Int) (p:TTape):SC R_q8 R_q8 :=
.reg 1 [] [(0,hv (AV.d (eL DV.str ([[49],[50]]:List Y8))))] [.pf (z7 DV.str ([[49],[50]]:List Y8))]<|
.call (@F_q0_ok (i64.wrap (o+1)) p) fun h l=>
.k 2 3 l [0] 1 false<|
.iter [0] (fun (g:TTape×(List Y8)×Int)=>[(5,(AV.d (eL DV.str g.2.1))),(6,(vi g.2.2))]) (fun g=>[(0,(TTape.b g.1))]) (h.2,([[49],[50]]:List Y8),h.1) S_q8_b1 (fun g =>
.a 9 1 1 (@F_qw_ok g.2.1 ([57])) fun m=>
.call (@F_q0_ok 3 g.1) fun i n=>
.k 10 1 n [0] 1 false<|
.iter [0] (fun (f:TTape×(List Y8)×Int)=>[(5,(AV.d (eL DV.str f.2.1))),(9,(vi f.2.2))]) (fun f=>[(0,(TTape.b f.1))]) (i.2,m,i.1) S_q8_b2 (fun f =>
.reg 15 [] [] []<|
.bor 2 (fun j=>AV.d (THe.e (([]:List THe).getD j dF))) [10]<|
.range (f.2.1.length:Int) f.2.1.length rfl (.slot 60) 62 [0,60,61] (fun (c:TTape×(List THe))=>[(10,(AV.ref 1 c.2.length 0 c.2.length))]) (fun c=>[(0,(TTape.b c.1)),(1,(eS 2 THe.e c.2))]) (f.1,([]:List THe)) (S_q8_b3 f) (fun c => 
.guard [c.2.length<2 ^ 63]<|
.reg 20 [] [] []<|
.frz 1 (.ev 0) none [4] []<|
.r (c.2,c.1)) id) id) id
def F_q8 (a:Int) (b:TTape):=(S_q8 a b).den
theorem F_q8_ok {a:Int} {c:TTape}:FO (F_q8 a c) 32 [(vp 0),(vi a)] [(TTape.b c)] (fun x=>(AV.d (eL THe.e x.1))) (fun x=>[(TTape.b x.2)]):=fO (s:=S_q8 a c) Tryz.func32
def S_qf_b1 (g:Y8) (a:Int×Int×Int):SC Bool (Step (Int×Int×Int) Bool) :=
.ite (decide (a.2.2<(g.length:Int))) (
.guard [(0:Int)<=a.2.2,a.2.2.toNat<g.length]<|
.reg 6 [] [] [.ev 0,.ev 1]<|
 let b:=((g.getD a.2.2.toNat 0).toNat:Int)
 let e:=(i64.wrap (a.2.2+1))
.ite (b==46) (
.ite (a.1==0) (
.r (.ret false)) (
.r (.cont (0,(i64.wrap (a.2.1+1)),e)))) (
 let c:=(decide (b<48))
 let d:=(cO c (decide (b>57)))
 let f:=(a.2.2.toNat<g.length)
.guard [AllP [c=false]->((0:Int)<=a.2.2),AllP [c=false]->f,AllP [(a.1==0)=true,d=false]->((0:Int)<=a.2.2),AllP [(a.1==0)=true,d=false]->f]<|
.reg 11 [] [] [.ev 5,.ev 6,.ev 0,.ev 1,.ev 2,.ev 3]<|
.ite (cO (cO d (bif (a.1==0) then (b==48) else false)) (a.1==2)) (
.r (.ret false)) (
.r (.cont ((i64.wrap (a.1+1)),a.2.1,e))))) (
.r (.brk (a.1,a.2.1,a.2.2)))
def S_qf (b:Y8):SC Bool Bool :=
.iter [0] (fun (a:Int×Int×Int)=>[(3,(vi a.1)),(4,(vi a.2.1)),(5,(vi a.2.2))]) (fun _=>[]) (0,1,0) (S_qf_b1 b) (fun a =>
.r (bif (decide (a.1>0)) then (decide (a.2.1<=4)) else false)) id
def F_qf (a:Y8):=(S_qf a).den
theorem F_qf_ok {a:Y8}:FO (F_qf a) 54 [(AV.d (DV.str a))] [] vb NL:=fO (s:=S_qf a) Tryz.func54
def S_qj (b:Y8) (c:Y8):SC Bool Bool :=
.call (@F_qf_ok b) fun d g=>
.calld [(!d)=false] dF (@F_qf_ok c) fun i h =>
 let a:=(c.length:Int)
 let e:=(cO (cO (!d) (!i)) (decide ((b.length:Int)<a)))
.guard [AllP [e=false]->(c.length<=b.length)]<|
.reg 1 [] [(1,hc g [] true),(5,hc h [] true)] [.cl 3 g [] 0 true,.clg 1 [(!d)=false] h [] 0 true,.pf (p:=AllP [e=false]->((0:Int)<=a)) (fun _=>(y4r _)),.ev 0]<|
.ite (cO e (!((b.take c.length)==c))) (
.r false) (
 let f:=((b.length:Int)==a)
.guard [AllP [f=false]->(c.length<b.length)]<|
.reg 3 [] [] [.pf (p:=AllP [f=false]->((0:Int)<=a)) (fun _=>(y4r _)),.ev 0]<|
.r (cO f (((b.getD c.length 0).toNat:Int)==46)))
def F_qj (a:Y8) (b:Y8):=(S_qj a b).den
theorem F_qj_ok {a:Y8} {b:Y8}:FO (F_qj a b) 55 [(AV.d (DV.str a)),(AV.d (DV.str b))] [] vb NL:=fO (s:=S_qj a b) Tryz.func55
abbrev R_qq:=Y8
def S_qq_b1 (b:Y8) (a:Int):SC R_qq (Step Int R_qq) :=
.ite (decide (a>=0)) (
.guard [(0:Int)<=a,a.toNat<b.length]<|
.reg 6 [] [] [.ev 0,.ev 1]<|
.ite (((b.getD a.toNat 0).toNat:Int)==46) (
.guard [a.toNat<=b.length]<|
.reg 7 [] [] [.ev 2,.ev 0]<|
.r (.ret (b.take a.toNat))) (
.r (.cont (i64.wrap (a-1))))) (
.r (.brk a))
def S_qq (b:Y8):SC R_qq R_qq :=
.a 1 1 0 (@F_qf_ok b) fun c=>
.ite (!c) (
.r ([])) (
.iter [0] (fun (d:Int)=>[(3,(vi d))]) (fun _=>[]) (i64.wrap ((b.length:Int)-1)) (S_qq_b1 b) (fun _ =>
.r ([])) id)
def F_qq (a:Y8):=(S_qq a).den
theorem F_qq_ok {a:Y8}:FO (F_qq a) 56 [(AV.d (DV.str a))] [] (fun x=>(AV.d (DV.str x))) NL:=fO (s:=S_qq a) Tryz.func56
abbrev R_q4:=(List Y8)
def S_q4_b1 (g:(List THe)) (e:Nat) (b:Nat) (a:Bool):SC R_q4 (Step Bool R_q4) :=
.reg 9 [] [] [.w b,.ev 0]<|
.calld [a=true] dF (@F_qq_ok ((g.getD b dF).B)) fun f d =>
.reg 10 [] [(4,hc d [] true)] [.clg 0 [a=true] d [] 3 true]<|
.c (bif a then (!(f==((g.getD e dF).B))) else false)
def S_q4_b2 (q:(List THe)) (s:Y8) (f:Nat) (a:(List Y8)):SC R_q4 (Step ((List Y8)) R_q4) :=
.reg 4 [] [] [.w f,.ev 0]<|
 let g:=(q.getD f dF)
.call (@F_qf_ok g.B) fun i m=>
.calld [(!(s==([])))=true,(!i)=false] dF (@F_qj_ok g.B s) fun t n =>
.reg 5 [] [(2,hc m [] true),(11,hc n [] true)] [.cl 2 m [] 2 true,.clg 0 [(!(s==([])))=true,(!i)=false] n [] 2 true]<|
.ite (cO (!i) (bif (!(s==([]))) then (!t) else false)) (
.c a) (
.range (q.length:Int) q.length rfl (.slot 0) 34 [0,1,5,7,11,12,13,32,33] (fun (j:Bool)=>[(8,(vb j))]) (fun _=>[]) true (S_q4_b1 q f) (fun j => 
.ite j (
.guard [(a.length+1) * (2 * 16)<=2 ^ 48]<|
 let b:=([g.B]:List Y8)
.reg 13 [] [(3,hv (AV.d (eL DV.str b))),(4,{ h:=.obj,cast:=some (AV.ref 0 ((a++b).length) 0 ((a++b).length)),obs:=[(0,(eS 1 DV.str (a++b)))] })] [.pf (z7 DV.str b),.e a.length,.e a.length,.pf (p:=∀ k,k<1->(AV.d (DV.str (b.getD k dF))).wd=1) (fun _ _=>rfl),.ev 0,.pf (zk (o:=0) (l:=a) (x:=b)),.pf (zj (sz:=1) (e:=DV.str) (l:=a) (x:=b))]<|
.r (.cont (a++b))) (
.c a)) .ret)
def S_q4 (b:(List THe)) (c:Y8):SC R_q4 R_q4 :=
.reg 2 [] [] []<|
.bor 1 (fun j=>AV.d (DV.str (([]:List Y8).getD j dF))) [5]<|
.range (b.length:Int) b.length rfl (.slot 0) 13 [0,1,11,12] (fun (a:(List Y8))=>[(5,(AV.ref 0 a.length 0 a.length))]) (fun a=>[(0,(eS 1 DV.str a))]) ([]:List Y8) (S_q4_b2 b c) (fun a => 
.guard [a.length<2 ^ 63]<|
.reg 15 [] [] []<|
.frz 0 (.ev 0) none [4] []<|
.r a) id
def F_q4 (a:(List THe)) (b:Y8):=(S_q4 a b).den
theorem F_q4_ok {a:(List THe)} {b:Y8}:FO (F_q4 a b) 33 [(AV.d (eL THe.e a)),(AV.d (DV.str b))] [] (fun x=>(AV.d (eL DV.str x))) NL:=fO (s:=S_q4 a b) Tryz.func33
abbrev R_qr:=(List Y8)
def S_qr_b1 (g:(List THe)) (e:Nat) (b:Nat) (a:Bool):SC R_qr (Step Bool R_qr) :=
.reg 9 [] [] [.w b,.ev 0]<|
.calld [a=true] dF (@F_qq_ok ((g.getD b dF).B)) fun f d =>
.reg 10 [] [(4,hc d [] true)] [.clg 0 [a=true] d [] 3 true]<|
.c (bif a then (!(f==((g.getD e dF).B))) else false)
def S_qr_b2 (q:(List THe)) (s:Y8) (f:Nat) (b:(List Y8)):SC R_qr (Step ((List Y8)) R_qr) :=
.reg 4 [] [] [.w f,.ev 0]<|
 let g:=(q.getD f dF)
.call (@F_qf_ok g.B) fun i m=>
.calld [(!(s==([])))=true,(!i)=false] dF (@F_qj_ok g.B s) fun t n =>
.reg 5 [] [(2,hc m [] true),(11,hc n [] true)] [.cl 2 m [] 2 true,.clg 0 [(!(s==([])))=true,(!i)=false] n [] 2 true]<|
.ite (cO (!i) (bif (!(s==([]))) then (!t) else false)) (
.c b) (
.range (q.length:Int) q.length rfl (.slot 0) 34 [0,1,5,7,11,12,13,32,33] (fun (j:Bool)=>[(8,(vb j))]) (fun _=>[]) true (S_qr_b1 q f) (fun j => 
.ite j (
 let a:=([g.B]:List Y8)
.guard [(b.length+a.length) * (2 * 16)<=2 ^ 48]<|
.reg 13 [] [(3,{ h:=.obj,obs:=[(2,(eS 1 DV.str a))] }),(4,{ h:=.obj,cast:=some (AV.ref 0 ((b++a).length) 0 ((b++a).length)),obs:=[(0,(eS 1 DV.str (b++a)))] })] [.pf (z93 (sz:=1) (e:=DV.str) (l:=a)),.e a.length,.e b.length,.e b.length,.pf (p:=∀ k,k<a.length->(AV.d (DV.str (a.getD k dF))).wd=1) (fun _ _=>rfl),.ev 0,.pf (zk (o:=0) (l:=b) (x:=a)),.pf (zj (sz:=1) (e:=DV.str) (l:=b) (x:=a))]<|
.r (.cont (b++a))) (
.c b)) .ret)
def S_qr (b:(List THe)) (c:Y8):SC R_qr R_qr :=
.reg 2 [] [] []<|
.bor 1 (fun j=>AV.d (DV.str (([]:List Y8).getD j dF))) [5]<|
.range (b.length:Int) b.length rfl (.slot 0) 13 [0,1,11,12] (fun (a:(List Y8))=>[(5,(AV.ref 0 a.length 0 a.length))]) (fun a=>[(0,(eS 1 DV.str a))]) ([]:List Y8) (S_qr_b2 b c) (fun a => 
.r a) id
def F_qr (a:(List THe)) (b:Y8):=(S_qr a b).den
theorem F_qr_ok {a:(List THe)} {b:Y8}:FO (F_qr a b) 33 [(AV.d (eL THe.e a)),(AV.d (DV.str b))] [] (fun x=>(AV.ref 0 x.length 0 x.length)) (fun x=>[(eS 1 DV.str x)]):=fO (s:=S_qr a b) Tryz.func33
abbrev R_qg:=Y8×TTape
def S_qg (j:(List THe)) (m:TTape):SC R_qg R_qg :=
.call (@F_qr_ok j ([49])) fun a f=>
.call (@F_q4_ok j ([50])) fun b g=>
.guard [(a.length+b.length) * (2 * 16)<=2 ^ 48]<|
.reg 1 [] [(1,hc f [] false),(3,hc g [] true),(4,{ cast:=some (AV.ref 1 ((a++b).length) 0 ((a++b).length)),obs:=[(1,(eS 1 DV.str (a++b)))] })] [.cl 2 f [] 1 false,.cl 1 g [] 2 true,.e a.length,.e a.length,.pf (p:=∀ k,k<b.length->(AV.d (DV.str (b.getD k dF))).wd=1) (fun _ _=>rfl),.ev 0,.pf (zk (o:=1) (l:=a) (x:=b)),.pf (zj (sz:=1) (e:=DV.str) (l:=a) (x:=b))]<|
.guard [(a++b).length<2 ^ 63]<|
.frz 1 (.ev 0) none [5] []<|
 let h:=((a++b).length:Int)
.ite (h==0) (
.r ([49],m)) (
.call (@F_q0_ok h m) fun c i=>
.guard [(0:Int)<=c.1,c.1.toNat<(a++b).length]<|
.reg 4 [] [(4,hc i [0] false)] [.cl 2 i [0] 2 false,.ev 0,.ev 1]<|
.r (((a++b).getD c.1.toNat dF),c.2))
def F_qg (a:(List THe)) (b:TTape):=(S_qg a b).den
theorem F_qg_ok {a:(List THe)} {c:TTape}:FO (F_qg a c) 12 [(vp 0),(AV.d (eL THe.e a))] [(TTape.b c)] (fun x=>(AV.d (DV.str x.1))) (fun x=>[(TTape.b x.2)]):=fO (s:=S_qg a c) Tryz.func12
end
end Go.Proofs.YtbmpcbbimefmoaaGreatDoor
/- What the functions compute,and that their calls return it. No condition. -/
namespace Go.Proofs.YtbmpcbbimefmoaaGreatDoor
open Go Go.TA
open Go.IntKind (i64)
noncomputable section
set_option maxRecDepth 100000
abbrev R_q1:=TLa×TTape
def S_q1_b1 (n:R_q4) (q:Nat) (a:TTape×Int×Int×(List THe)×(List TAm)×(List TLi)×Int):SC R_q1 (Step (TTape×Int×Int×(List THe)×(List TAm)×(List TLi)×Int) R_q1) :=
.ite (decide (a.2.2.2.2.2.2<(i64.wrap (a.2.1+a.2.2.1)))) (
.call (@F_q0_ok 5000 a.1) fun g h=>
 let f:=([100,500,g.1]:List Int)
.call (@F_q3_ok f g.2) fun j m=>
.guard [(a.2.2.2.2.2.1.length+1) * (2 * 32)<=2 ^ 48]<|
 let b:=([(⟨(n.getD q dF),a.2.2.2.2.2.2,j.1⟩:TLi)]:List TLi)
 let c:=(a.2.2.2.2.2.1++b)
.reg 8 [6,8,11,13] [(6,hc h [0] false),(7,hv (vl f)),(8,hc m [0] false),(10,hv (AV.d (eL TLi.e b))),(11,{ cast:=some (AV.ref 3 c.length 0 c.length),obs:=[(3,(eS 3 TLi.e c))] })] [.cl 2 h [0] 9 false,.pf (z7 (DV.i .i64) f),.cl 1 m [0] 9 false,.pf (z7 TLi.e b),.e a.2.2.2.2.2.1.length,.e a.2.2.2.2.2.1.length,.pf (p:=∀ k,k<1->(TLi.d (b.getD k dF)).wd=3) (fun _ _=>rfl),.ev 0,.pf (zk (o:=3) (l:=a.2.2.2.2.2.1) (x:=b)),.pf (zj (sz:=3) (e:=TLi.e) (l:=a.2.2.2.2.2.1) (x:=b))]<|
.r (.cont (j.2,a.2.1,a.2.2.1,a.2.2.2.1,a.2.2.2.2.1,c,(i64.wrap (a.2.2.2.2.2.2+1))))) (
.r (.brk (a.1,a.2.1,a.2.2.1,a.2.2.2.1,a.2.2.2.2.1,a.2.2.2.2.2.1,a.2.2.2.2.2.2)))
def S_q1_b2 (g:R_q4) (f:Nat) (c:TTape×Int×Int×(List THe)×(List TAm)×(List TLi)):SC R_q1 (Step (TTape×Int×Int×(List THe)×(List TAm)×(List TLi)) R_q1) :=
.reg 4 [] [] [.w f,.ev 0]<|
.iter [0,2,3,5,24,25,26] (fun (a:TTape×Int×Int×(List THe)×(List TAm)×(List TLi)×Int)=>[(6,(vi a.2.2.2.2.2.2))]) (fun a=>[(0,(TTape.b a.1)),(2,(Ob.box (AV.agg [(vi a.2.1),(vi a.2.2.1),(AV.d (eL THe.e a.2.2.2.1)),(AV.ref 3 a.2.2.2.2.2.1.length 0 a.2.2.2.2.2.1.length),(AV.ref 6 0 0 0),(AV.ref 4 0 0 0),(AV.ref 8 0 0 0),(AV.ref 5 0 0 0),(AV.ref 7 0 0 0),(AV.d (eL TAm.e a.2.2.2.2.1))]))),(3,(eS 3 TLi.e a.2.2.2.2.2.1))]) (c.1,c.2.1,c.2.2.1,c.2.2.2.1,c.2.2.2.2.1,c.2.2.2.2.2,c.2.1) (S_q1_b1 g f) (fun a =>
.r (.cont (a.1,a.2.1,a.2.2.1,a.2.2.2.1,a.2.2.2.2.1,a.2.2.2.2.2.1))) .ret
def S_q1_b3 (a:TTape×Int×Int×(List THe)×(List TAm)×(List TRu)×Int):SC R_q1 (Step (TTape×Int×Int×(List THe)×(List TAm)×(List TRu)×Int) R_q1) :=
.ite (decide (a.2.2.2.2.2.2<4)) (
 let m:=(a.2.2.2.1.length:Int)
.call (@F_q0_ok m a.1) fun c n=>
.call (@F_q0_ok m c.2) fun f q=>
.call (@F_q3_ok ([10,50,100]:List Int) f.2) fun h j=>
.guard [(0:Int)<=c.1,c.1.toNat<a.2.2.2.1.length,(0:Int)<=f.1,f.1.toNat<a.2.2.2.1.length,(a.2.2.2.2.2.1.length+1) * (2 * 48)<=2 ^ 48]<|
 let b:=([(⟨a.2.2.2.2.2.2,(a.2.2.2.1.getD c.1.toNat dF).B,(a.2.2.2.1.getD f.1.toNat dF).B,h.1⟩:TRu)]:List TRu)
 let g:=(a.2.2.2.2.2.1++b)
.reg 13 [9,19,25,28,30] [(9,hc n [0] false),(19,hc q [0] false),(24,hv (vl ([10,50,100]:List Int))),(25,hc j [0] false),(27,hv (AV.d (eL TRu.e b))),(28,{ cast:=some (AV.ref 7 g.length 0 g.length),obs:=[(7,(eS 4 TRu.e g))] })] [.cl 7 n [0] 9 false,.ev 0,.ev 1,.ev 0,.ev 1,.ev 0,.ev 1,.cl 6 q [0] 9 false,.ev 2,.ev 3,.ev 2,.ev 3,.pf (z7 (DV.i .i64) ([10,50,100]:List Int)),.pf (z7 (DV.i .i64) ([10,50,100]:List Int)),.pf (z7 (DV.i .i64) ([10,50,100]:List Int)),.cl 5 j [0] 9 false,.pf (z7 TRu.e b),.e a.2.2.2.2.2.1.length,.e a.2.2.2.2.2.1.length,.pf (p:=∀ k,k<1->(TRu.d (b.getD k dF)).wd=4) (fun _ _=>rfl),.ev 4,.pf (zk (o:=7) (l:=a.2.2.2.2.2.1) (x:=b)),.pf (zj (sz:=4) (e:=TRu.e) (l:=a.2.2.2.2.2.1) (x:=b))]<|
.r (.cont (h.2,a.2.1,a.2.2.1,a.2.2.2.1,a.2.2.2.2.1,g,(i64.wrap (a.2.2.2.2.2.2+1))))) (
.r (.brk (a.1,a.2.1,a.2.2.1,a.2.2.2.1,a.2.2.2.2.1,a.2.2.2.2.2.1,a.2.2.2.2.2.2)))
def S_q1_b4 (G:TTape×Int×Int×(List THe)×(List TAm)×(List TLi)) (D:TTape×Int×Int×(List THe)×(List TAm)×(List TRu)×Int) (q:Nat) (a:TTape×Int×Int×(List THe)×(List TAm)×(List TBo)×(List TBo)):SC R_q1 (Step (TTape×Int×Int×(List THe)×(List TAm)×(List TBo)×(List TBo)) R_q1) :=
.reg 16 [] [] [.w q,.ev 0]<|
.call (@F_q0_ok 6 a.1) fun h H=>
.k 17 1 H [0] 10 false<|
 let I:=(D.2.2.2.1.getD q dF)
.cut none [0,2,3,9,90,91,92] (fun (_:TTape×Int×Int×(List THe)×(List TAm)×(List TBo))=>[]) (fun c=>[(0,(TTape.b c.1)),(2,(Ob.box (AV.agg [(vi c.2.1),(vi c.2.2.1),(AV.d (eL THe.e c.2.2.2.1)),(AV.ref 3 G.2.2.2.2.2.length 0 G.2.2.2.2.2.length),(AV.ref 6 c.2.2.2.2.2.length 0 c.2.2.2.2.2.length),(AV.ref 4 a.2.2.2.2.2.1.length 0 a.2.2.2.2.2.1.length),(AV.ref 8 0 0 0),(AV.ref 5 0 0 0),(AV.ref 7 D.2.2.2.2.2.1.length 0 D.2.2.2.2.2.1.length),(AV.d (eL TAm.e c.2.2.2.2.1))]))),(6,(eS 3 TBo.e c.2.2.2.2.2))]) (
.ite (h.1==5) (
 let E:=([(-1),a.2.1]:List Int)
.call (@F_q3_ok E h.2) fun s t=>
.call (@F_q3_ok ([600,3000,20000]:List Int) s.2) fun u v=>
.guard [(a.2.2.2.2.2.2.length+1) * (2 * 32)<=2 ^ 48]<|
 let f:=([(⟨I.B,s.1,u.1⟩:TBo)]:List TBo)
 let m:=(a.2.2.2.2.2.2++f)
.reg 18 [8,11,14,16] [(7,hv (vl E)),(8,hc t [0] false),(10,hv (vl ([600,3000,20000]:List Int))),(11,hc v [0] false),(13,hv (AV.d (eL TBo.e f))),(14,{ cast:=some (AV.ref 6 m.length 0 m.length),obs:=[(6,(eS 3 TBo.e m))] })] [.pf (z7 (DV.i .i64) E),.cl 2 t [0] 10 false,.pf (z7 (DV.i .i64) ([600,3000,20000]:List Int)),.pf (z7 (DV.i .i64) ([600,3000,20000]:List Int)),.cl 1 v [0] 10 false,.pf (z7 TBo.e f),.e a.2.2.2.2.2.2.length,.e a.2.2.2.2.2.2.length,.pf (p:=∀ k,k<1->(TBo.d (f.getD k dF)).wd=3) (fun _ _=>rfl),.ev 0,.pf (zk (o:=6) (l:=a.2.2.2.2.2.2) (x:=f)),.pf (zj (sz:=3) (e:=TBo.e) (l:=a.2.2.2.2.2.2) (x:=f))]<|
.r (.next (u.2,a.2.1,a.2.2.1,a.2.2.2.1,a.2.2.2.2.1,m))) (
.r (.next (h.2,a.2.1,a.2.2.1,a.2.2.2.1,a.2.2.2.2.1,a.2.2.2.2.2.2)))) fun c=>
.call (@F_q0_ok 8 c.1) fun j J=>
.k 19 1 J [0] 10 false<|
.ite (j.1==7) (
 let F:=([(-1),c.2.1]:List Int)
.call (@F_q3_ok F j.2) fun y z=>
.call (@F_q3_ok ([50,400]:List Int) y.2) fun A C=>
.guard [(a.2.2.2.2.2.1.length+1) * (2 * 32)<=2 ^ 48]<|
 let g:=([(⟨I.B,y.1,A.1⟩:TBo)]:List TBo)
 let n:=(a.2.2.2.2.2.1++g)
.reg 20 [8,11,14,16] [(7,hv (vl F)),(8,hc z [0] false),(10,hv (vl ([50,400]:List Int))),(11,hc C [0] false),(13,hv (AV.d (eL TBo.e g))),(14,{ cast:=some (AV.ref 4 n.length 0 n.length),obs:=[(4,(eS 3 TBo.e n))] })] [.pf (z7 (DV.i .i64) F),.cl 2 z [0] 10 false,.pf (z7 (DV.i .i64) ([50,400]:List Int)),.pf (z7 (DV.i .i64) ([50,400]:List Int)),.cl 1 C [0] 10 false,.pf (z7 TBo.e g),.e a.2.2.2.2.2.1.length,.e a.2.2.2.2.2.1.length,.pf (p:=∀ k,k<1->(TBo.d (g.getD k dF)).wd=3) (fun _ _=>rfl),.ev 0,.pf (zk (o:=4) (l:=a.2.2.2.2.2.1) (x:=g)),.pf (zj (sz:=3) (e:=TBo.e) (l:=a.2.2.2.2.2.1) (x:=g))]<|
.r (.cont (A.2,c.2.1,c.2.2.1,c.2.2.2.1,c.2.2.2.2.1,n,c.2.2.2.2.2))) (
.r (.cont (j.2,c.2.1,c.2.2.1,c.2.2.2.1,c.2.2.2.2.1,a.2.2.2.2.2.1,c.2.2.2.2.2)))
def S_q1_b5 (q:R_q4) (g:Nat) (a:TTape×Int×Int×(List THe)×(List TAm)×(List TEa)):SC R_q1 (Step (TTape×Int×Int×(List THe)×(List TAm)×(List TEa)) R_q1) :=
.reg 26 [] [] [.w g,.ev 0]<|
.call (@F_q0_ok 3 a.1) fun c s=>
.k 27 1 s [0] 9 false<|
.ite (decide (c.1>0)) (
.call (@F_qg_ok a.2.2.2.1 c.2) fun h j=>
.call (@F_q3_ok ([10,33,50]:List Int) h.2) fun m n=>
.guard [(a.2.2.2.2.2.length+1) * (2 * 40)<=2 ^ 48]<|
 let b:=([(⟨(q.getD g dF),h.1,m.1⟩:TEa)]:List TEa)
 let f:=(a.2.2.2.2.2++b)
.reg 28 [6,9,12,14] [(6,hc j [0] false),(8,hv (vl ([10,33,50]:List Int))),(9,hc n [0] false),(11,hv (AV.d (eL TEa.e b))),(12,{ cast:=some (AV.ref 8 f.length 0 f.length),obs:=[(8,(eS 3 TEa.e f))] })] [.cl 2 j [0] 9 false,.pf (z7 (DV.i .i64) ([10,33,50]:List Int)),.pf (z7 (DV.i .i64) ([10,33,50]:List Int)),.cl 1 n [0] 9 false,.pf (z7 TEa.e b),.e a.2.2.2.2.2.length,.e a.2.2.2.2.2.length,.pf (p:=∀ k,k<1->(TEa.d (b.getD k dF)).wd=3) (fun _ _=>rfl),.ev 0,.pf (zk (o:=8) (l:=a.2.2.2.2.2) (x:=b)),.pf (zj (sz:=3) (e:=TEa.e) (l:=a.2.2.2.2.2) (x:=b))]<|
.r (.cont (m.2,a.2.1,a.2.2.1,a.2.2.2.1,a.2.2.2.2.1,f))) (
.r (.cont (c.2,a.2.1,a.2.2.1,a.2.2.2.1,a.2.2.2.2.1,a.2.2.2.2.2)))
def S_q1_b6 (F:TTape×Int×Int×(List THe)×(List TAm)×(List TLi)) (G:TTape×Int×Int×(List THe)×(List TAm)×(List TRu)×Int) (c:TTape×Int×Int×(List THe)×(List TAm)×(List TBo)×(List TBo)) (j:TTape×Int×Int×(List THe)×(List TAm)×(List TEa)) (a:TTape×Int×Int×(List THe)×(List TAm)×(List TCo)×Int):SC R_q1 (Step (TTape×Int×Int×(List THe)×(List TAm)×(List TCo)×Int) R_q1) :=
 let I:=(decide (a.2.2.2.2.2.2>0))
.ite I (
 let J:=(AV.agg [(vi a.2.1),(vi a.2.2.1),(AV.d (eL THe.e a.2.2.2.1)),(AV.ref 3 F.2.2.2.2.2.length 0 F.2.2.2.2.2.length),(AV.ref 6 c.2.2.2.2.2.2.length 0 c.2.2.2.2.2.2.length),(AV.ref 4 c.2.2.2.2.2.1.length 0 c.2.2.2.2.2.1.length),(AV.ref 8 j.2.2.2.2.2.length 0 j.2.2.2.2.2.length),(AV.ref 5 a.2.2.2.2.2.1.length 0 a.2.2.2.2.2.1.length),(AV.ref 7 G.2.2.2.2.2.1.length 0 G.2.2.2.2.2.1.length),(AV.d (eL TAm.e a.2.2.2.2.1))])
 let K:=[(0,(vp 0)),(2,(vp 1)),(3,(vp 2)),(12,(vi a.2.2.2.2.2.2)),(187,(vb I))]
 let L:=(TLa.b (⟨0,0,[],[],[],[],[],[],[],[]⟩:TLa))
 let M:=(eS 3 TBo.e c.2.2.2.2.2.1)
 let N:=(eS 7 TCo.e a.2.2.2.2.2.1)
 let O:=(eS 3 TBo.e c.2.2.2.2.2.2)
 let y:=(eS 4 TRu.e G.2.2.2.2.2.1)
 let z:=(eS 3 TEa.e j.2.2.2.2.2)
 let B:=(eS 3 TLi.e F.2.2.2.2.2)
.sh (H:=NoH) (A:=True) (.pf trivial) K K [(TTape.b a.1),L,(Ob.box J),B,M,N,O,y,z] [(TTape.b a.1),L,(Ob.box J),B,M,N,O,y,z,Ob.unb] (fun _=>z6e) (z4k _)<|
.call (@F_qg_ok a.2.2.2.1 a.1) fun m n=>
.call (@F_q0_ok a.2.2.1 m.2) fun C q=>
.call (@F_q3_ok ([50,200]:List Int) C.2) fun s t=>
.call (@F_q0_ok 300 s.2) fun D u=>
.reg 33 [3,9,13,18,21,22] [(3,hc n [0] false),(9,hc q [0] false),(12,hv (vl ([50,200]:List Int))),(13,hc t [0] false),(18,hc u [0] false),(21,{ h:=.born 9 false })] [.cl 3 n [0] 10 false,.cl 3 n [0] 10 false,.cl 2 q [0] 10 false,.cl 2 q [0] 10 false,.pf (z7 (DV.i .i64) ([50,200]:List Int)),.pf (z7 (DV.i .i64) ([50,200]:List Int)),.pf (z7 (DV.i .i64) ([50,200]:List Int)),.pf (z7 (DV.i .i64) ([50,200]:List Int)),.pf (z7 (DV.i .i64) ([50,200]:List Int)),.pf (z7 (DV.i .i64) ([50,200]:List Int)),.cl 1 t [0] 10 false,.cl 1 t [0] 10 false,.cl 0 u [0] 10 false,.cl 0 u [0] 10 false]<|
.call (@F_q0_ok 2 D.2) fun v P=>
.k 34 1 P [0] 10 false<|
.cut none [0,2,3,12,13] (fun (_:TTape×TCo)=>[]) (fun f=>[(0,(TTape.b f.1)),(9,(TCo.b f.2))]) (
 let Q:=(i64.wrap (a.2.1+C.1))
.ite (v.1==0) (
.call (@F_q0_ok 1500 v.2) fun E R=>
.k 35 1 R [0] 10 false<|
.r (.next (E.2,(⟨m.1,Q,s.1,2,0,[57],E.1⟩:TCo)))) (
.r (.next (v.2,(⟨m.1,Q,s.1,1,(i64.wrap ((i64.wrap (360 * a.2.1))+D.1)),[],0⟩:TCo))))) fun f=>
.guard [(a.2.2.2.2.2.1.length+1) * (2 * 72)<=2 ^ 48]<|
 let g:=([f.2]:List TCo)
 let w:=(a.2.2.2.2.2.1++g)
.reg 36 [] [(3,hv (AV.d (eL TCo.e g))),(4,{ cast:=some (AV.ref 5 w.length 0 w.length),obs:=[(5,(eS 7 TCo.e w))] })] [.pf (z7 TCo.e g),.e a.2.2.2.2.2.1.length,.e a.2.2.2.2.2.1.length,.pf (p:=∀ k,k<1->(TCo.d (g.getD k dF)).wd=7) (fun _ _=>rfl),.ev 0,.pf (zk (o:=5) (l:=a.2.2.2.2.2.1) (x:=g)),.pf (zj (sz:=7) (e:=TCo.e) (l:=a.2.2.2.2.2.1) (x:=g))]<|
.r (.cont (f.1,a.2.1,a.2.2.1,a.2.2.2.1,a.2.2.2.2.1,w,(i64.wrap (a.2.2.2.2.2.2-1))))) (
.r (.brk (a.1,a.2.1,a.2.2.1,a.2.2.2.1,a.2.2.2.2.1,a.2.2.2.2.2.1,a.2.2.2.2.2.2)))
def S_q1 (p0:TTape):SC R_q1 R_q1 :=
 let D:=(TLa.b (⟨0,0,[],[],[],[],[],[],[],[]⟩:TLa))
.reg 0 [] [(0,{ obs:=[(1,D)] })] [.pf cz2]<|
.call (@F_q3_ok ([0,12]:List Int) p0) fun q Q=>
.call (@F_qv_ok 1 2 q.2) fun s R=>
.call (@F_q8_ok 5 s.2) fun E S=>
.reg 1 [] [(1,hv (vl ([0,12]:List Int))),(2,hc Q [0] false),(4,hc R [0] false),(6,hc S [0] false),(7,{ h:=.obj }),(8,{ h:=.obj })] [.pf (z7 (DV.i .i64) ([0,12]:List Int)),.cl 2 Q [0] 2 false,.cl 1 R [0] 2 false,.cl 0 S [0] 2 false]<|
 let n:=(AV.full 0 fun _=>DV.b false)
 let v:=[(0,(vp 0)),(2,(vp 1)),(3,(vp 2))]
 let z:=(AV.d (eL TAm.e ([]:List TAm)))
 let w:=(AV.d (eL THe.e E.1))
 let B:=(eS 3 TLi.e ([]:List TLi))
 let x:=(TTape.b E.2)
 let C:=(AV.ref 3 0 0 0)
 let ad:=[x,D,(Ob.box (AV.agg [(vi q.1),(vi s.1),w,C,n,n,n,n,n,z])),B]
.sh (A:=True) (.pf trivial) v v [x,D,(Ob.box (AV.agg [(vi q.1),(vi s.1),w,n,n,n,n,n,n,n]))] ad (fun _=>(z1z (sz:=3) (f:=fun j=>AV.d (TLi.e (([]:List TLi).getD j dF))) (.keep _ _ _ _ (yg rfl) (.keep _ _ _ _ (yg rfl) (.box _ _ _ _ _ (yg rfl) (TrV.agg (TrL.cons (TrV.keep _) (TrL.cons (TrV.keep _) (TrL.cons (TrV.keep _) (TrL.cons TrV.born (TrL.cons (TrV.keep _) (TrL.cons (TrV.keep _) (TrL.cons (TrV.keep _) (TrL.cons (TrV.keep _) (TrL.cons (TrV.keep _) (TrL.cons TrV.full TrL.nil))))))))))) (.nil _)))))) (z1a (k:=0) rfl (TrS.keep _) (z1a (k:=1) rfl (TrS.keep _) (z1a (k:=2) rfl (TrS.keep _) z2e)))<|
 let u:=(eS 3 TBo.e ([]:List TBo))
 let y:=(AV.ref 4 0 0 0)
 let ae:=[x,D,(Ob.box (AV.agg [(vi q.1),(vi s.1),w,C,n,y,n,n,n,z])),B,u]
.sh (A:=True) (.pf trivial) v v ad ae (fun _=>(z1z (sz:=3) (f:=fun j=>AV.d (TBo.e (([]:List TBo).getD j dF))) (.keep _ _ _ _ (yg rfl) (.keep _ _ _ _ (yg rfl) (.box _ _ _ _ _ (yg rfl) (TrV.agg (TrL.cons (TrV.keep _) (TrL.cons (TrV.keep _) (TrL.cons (TrV.keep _) (TrL.cons (TrV.keep _) (TrL.cons (TrV.keep _) (TrL.cons TrV.born (TrL.cons (TrV.keep _) (TrL.cons (TrV.keep _) (TrL.cons (TrV.keep _) (TrL.cons (TrV.keep _) TrL.nil))))))))))) (.keep _ _ _ _ (yg rfl) (.nil _))))))) (z1a (k:=0) rfl (TrS.keep _) (z1a (k:=1) rfl (TrS.keep _) (z1a (k:=2) rfl (TrS.keep _) z2e)))<|
 let t:=(AV.ref 5 0 0 0)
 let H:=(eS 7 TCo.e ([]:List TCo))
 let af:=[x,D,(Ob.box (AV.agg [(vi q.1),(vi s.1),w,C,n,y,n,t,n,z])),B,u,H]
.sh (A:=True) (.pf trivial) v v ae af (fun _=>(z1z (sz:=7) (f:=fun j=>AV.d (TCo.e (([]:List TCo).getD j dF))) (.keep _ _ _ _ (yg rfl) (.keep _ _ _ _ (yg rfl) (.box _ _ _ _ _ (yg rfl) (TrV.agg (TrL.cons (TrV.keep _) (TrL.cons (TrV.keep _) (TrL.cons (TrV.keep _) (TrL.cons (TrV.keep _) (TrL.cons (TrV.keep _) (TrL.cons (TrV.keep _) (TrL.cons (TrV.keep _) (TrL.cons TrV.born (TrL.cons (TrV.keep _) (TrL.cons (TrV.keep _) TrL.nil))))))))))) (.keep _ _ _ _ (yg rfl) (.keep _ _ _ _ (yg rfl) (.nil _)))))))) (z1a (k:=0) rfl (TrS.keep _) (z1a (k:=1) rfl (TrS.keep _) (z1a (k:=2) rfl (TrS.keep _) z2e)))<|
 let F:=(AV.ref 6 0 0 0)
 let ag:=[x,D,(Ob.box (AV.agg [(vi q.1),(vi s.1),w,C,F,y,n,t,n,z])),B,u,H,u]
.sh (A:=True) (.pf trivial) v v af ag (fun _=>(z1z (sz:=3) (f:=fun j=>AV.d (TBo.e (([]:List TBo).getD j dF))) (.keep _ _ _ _ (yg rfl) (.keep _ _ _ _ (yg rfl) (.box _ _ _ _ _ (yg rfl) (TrV.agg (TrL.cons (TrV.keep _) (TrL.cons (TrV.keep _) (TrL.cons (TrV.keep _) (TrL.cons (TrV.keep _) (TrL.cons TrV.born (TrL.cons (TrV.keep _) (TrL.cons (TrV.keep _) (TrL.cons (TrV.keep _) (TrL.cons (TrV.keep _) (TrL.cons (TrV.keep _) TrL.nil))))))))))) (.keep _ _ _ _ (yg rfl) (.keep _ _ _ _ (yg rfl) (.keep _ _ _ _ (yg rfl) (.nil _))))))))) (z1a (k:=0) rfl (TrS.keep _) (z1a (k:=1) rfl (TrS.keep _) (z1a (k:=2) rfl (TrS.keep _) z2e)))<|
 let J:=(AV.ref 7 0 0 0)
 let T:=(eS 4 TRu.e ([]:List TRu))
 let ah:=[x,D,(Ob.box (AV.agg [(vi q.1),(vi s.1),w,C,F,y,n,t,J,z])),B,u,H,u,T]
.sh (A:=True) (.pf trivial) v v ag ah (fun _=>(z1z (sz:=4) (f:=fun j=>AV.d (TRu.e (([]:List TRu).getD j dF))) (.keep _ _ _ _ (yg rfl) (.keep _ _ _ _ (yg rfl) (.box _ _ _ _ _ (yg rfl) (TrV.agg (TrL.cons (TrV.keep _) (TrL.cons (TrV.keep _) (TrL.cons (TrV.keep _) (TrL.cons (TrV.keep _) (TrL.cons (TrV.keep _) (TrL.cons (TrV.keep _) (TrL.cons (TrV.keep _) (TrL.cons (TrV.keep _) (TrL.cons TrV.born (TrL.cons (TrV.keep _) TrL.nil))))))))))) (.keep _ _ _ _ (yg rfl) (.keep _ _ _ _ (yg rfl) (.keep _ _ _ _ (yg rfl) (.keep _ _ _ _ (yg rfl) (.nil _)))))))))) (z1a (k:=0) rfl (TrS.keep _) (z1a (k:=1) rfl (TrS.keep _) (z1a (k:=2) rfl (TrS.keep _) z2e)))<|
 let G:=(AV.ref 8 0 0 0)
.sh (A:=True) (.pf trivial) v v ah [x,D,(Ob.box (AV.agg [(vi q.1),(vi s.1),w,C,F,y,G,t,J,z])),B,u,H,u,T,(eS 3 TEa.e ([]:List TEa))] (fun _=>(z1z (sz:=3) (f:=fun j=>AV.d (TEa.e (([]:List TEa).getD j dF))) (.keep _ _ _ _ (yg rfl) (.keep _ _ _ _ (yg rfl) (.box _ _ _ _ _ (yg rfl) (TrV.agg (TrL.cons (TrV.keep _) (TrL.cons (TrV.keep _) (TrL.cons (TrV.keep _) (TrL.cons (TrV.keep _) (TrL.cons (TrV.keep _) (TrL.cons (TrV.keep _) (TrL.cons TrV.born (TrL.cons (TrV.keep _) (TrL.cons (TrV.keep _) (TrL.cons (TrV.keep _) TrL.nil))))))))))) (.keep _ _ _ _ (yg rfl) (.keep _ _ _ _ (yg rfl) (.keep _ _ _ _ (yg rfl) (.keep _ _ _ _ (yg rfl) (.keep _ _ _ _ (yg rfl) (.nil _))))))))))) (z1a (k:=0) rfl (TrS.keep _) (z1a (k:=1) rfl (TrS.keep _) (z1a (k:=2) rfl (TrS.keep _) z2e)))<|
.a 2 2 9 (@F_q4_ok E.1 ([])) fun ab=>
.range (ab.length:Int) ab.length rfl (.slot 24) 26 [0,2,3,24,25] (fun (_:TTape×Int×Int×(List THe)×(List TAm)×(List TLi))=>[]) (fun o=>[(0,(TTape.b o.1)),(2,(Ob.box (AV.agg [(vi o.2.1),(vi o.2.2.1),(AV.d (eL THe.e o.2.2.2.1)),(AV.ref 3 o.2.2.2.2.2.length 0 o.2.2.2.2.2.length),F,y,G,t,J,(AV.d (eL TAm.e o.2.2.2.2.1))]))),(3,(eS 3 TLi.e o.2.2.2.2.2))]) (E.2,q.1,s.1,E.1,([]:List TAm),([]:List TLi)) (S_q1_b2 ab) (fun o => 
 let K:=(AV.ref 3 o.2.2.2.2.2.length 0 o.2.2.2.2.2.length)
.iter [0,2,3] (fun (m:TTape×Int×Int×(List THe)×(List TAm)×(List TRu)×Int)=>[(7,(vi m.2.2.2.2.2.2))]) (fun m=>[(0,(TTape.b m.1)),(2,(Ob.box (AV.agg [(vi m.2.1),(vi m.2.2.1),(AV.d (eL THe.e m.2.2.2.1)),K,F,y,G,t,(AV.ref 7 m.2.2.2.2.2.1.length 0 m.2.2.2.2.2.1.length),(AV.d (eL TAm.e m.2.2.2.2.1))]))),(7,(eS 4 TRu.e m.2.2.2.2.2.1))]) (o.1,o.2.1,o.2.2.1,o.2.2.2.1,o.2.2.2.2.1,([]:List TRu),1) S_q1_b3 (fun m =>
 let I:=(AV.ref 7 m.2.2.2.2.2.1.length 0 m.2.2.2.2.2.1.length)
.range (m.2.2.2.1.length:Int) m.2.2.2.1.length rfl (.slot 90) 92 [0,2,3,90,91] (fun (_:TTape×Int×Int×(List THe)×(List TAm)×(List TBo)×(List TBo))=>[]) (fun c=>[(0,(TTape.b c.1)),(2,(Ob.box (AV.agg [(vi c.2.1),(vi c.2.2.1),(AV.d (eL THe.e c.2.2.2.1)),K,(AV.ref 6 c.2.2.2.2.2.2.length 0 c.2.2.2.2.2.2.length),(AV.ref 4 c.2.2.2.2.2.1.length 0 c.2.2.2.2.2.1.length),G,t,I,(AV.d (eL TAm.e c.2.2.2.2.1))]))),(4,(eS 3 TBo.e c.2.2.2.2.2.1)),(6,(eS 3 TBo.e c.2.2.2.2.2.2))]) (m.1,m.2.1,m.2.2.1,m.2.2.2.1,m.2.2.2.2.1,([]:List TBo),([]:List TBo)) (S_q1_b4 o m) (fun c => 
.call (@F_q0_ok 2 c.1) fun L ai=>
.k 22 1 ai [0] 9 false<|
 let M:=(AV.ref 6 c.2.2.2.2.2.2.length 0 c.2.2.2.2.2.2.length)
 let N:=(AV.ref 4 c.2.2.2.2.2.1.length 0 c.2.2.2.2.2.1.length)
.cut none [0,2,3] (fun (_:TTape×Int×Int×(List THe)×(List TAm))=>[]) (fun p=>[(0,(TTape.b p.1)),(2,(Ob.box (AV.agg [(vi p.2.1),(vi p.2.2.1),(AV.d (eL THe.e p.2.2.2.1)),K,M,N,G,t,I,(AV.d (eL TAm.e p.2.2.2.2))])))]) (
.ite (L.1==0) (
.call (@F_q0_ok 200 L.2) fun U V=>
.call (@F_qg_ok c.2.2.2.1 U.2) fun W X=>
.call (@F_q3_ok ([0,50,5000]:List Int) W.2) fun Y Z=>
 let O:=([(⟨1,W.1,c.2.1,Y.1⟩:TCh)]:List TCh)
 let ac:=([(⟨(i64.wrap ((i64.wrap (360 * c.2.1))+U.1)),1,O⟩:TAm)]:List TAm)
.reg 23 [4,9,14,20] [(4,hc V [0] false),(9,hc X [0] false),(13,hv (vl ([0,50,5000]:List Int))),(14,hc Z [0] false),(16,hv (AV.d (eL TCh.e O))),(18,hv (AV.d (eL TAm.e ac)))] [.cl 2 V [0] 9 false,.cl 1 X [0] 9 false,.pf (z7 (DV.i .i64) ([0,50,5000]:List Int)),.pf (z7 (DV.i .i64) ([0,50,5000]:List Int)),.pf (z7 (DV.i .i64) ([0,50,5000]:List Int)),.cl 0 Z [0] 9 false,.pf (z7 TCh.e O),.pf (z7 TAm.e ac)]<|
.r (.next (Y.2,c.2.1,c.2.2.1,c.2.2.2.1,ac))) (
.r (.next (L.2,c.2.1,c.2.2.1,c.2.2.2.1,c.2.2.2.2.1)))) fun p=>
.a 24 2 9 (@F_q4_ok p.2.2.2.1 ([57])) fun P=>
.range (P.length:Int) P.length rfl (.slot 160) 162 [0,2,3,160,161] (fun (_:TTape×Int×Int×(List THe)×(List TAm)×(List TEa))=>[]) (fun g=>[(0,(TTape.b g.1)),(2,(Ob.box (AV.agg [(vi g.2.1),(vi g.2.2.1),(AV.d (eL THe.e g.2.2.2.1)),K,M,N,(AV.ref 8 g.2.2.2.2.2.length 0 g.2.2.2.2.2.length),t,I,(AV.d (eL TAm.e g.2.2.2.2.1))]))),(8,(eS 3 TEa.e g.2.2.2.2.2))]) (p.1,p.2.1,p.2.2.1,p.2.2.2.1,p.2.2.2.2,([]:List TEa)) (S_q1_b5 P) (fun g => 
.call (@F_q0_ok 3 g.1) fun aa aj=>
.k 30 1 aj [0] 9 false<|
.iter [0,2,3] (fun (l:TTape×Int×Int×(List THe)×(List TAm)×(List TCo)×Int)=>[(12,(vi l.2.2.2.2.2.2))]) (fun l=>[(0,(TTape.b l.1)),(2,(Ob.box (AV.agg [(vi l.2.1),(vi l.2.2.1),(AV.d (eL THe.e l.2.2.2.1)),K,M,N,(AV.ref 8 g.2.2.2.2.2.length 0 g.2.2.2.2.2.length),(AV.ref 5 l.2.2.2.2.2.1.length 0 l.2.2.2.2.2.1.length),I,(AV.d (eL TAm.e l.2.2.2.2.1))]))),(5,(eS 7 TCo.e l.2.2.2.2.2.1))]) (aa.2,g.2.1,g.2.2.1,g.2.2.2.1,g.2.2.2.2.1,([]:List TCo),aa.1) (S_q1_b6 o m c g) (fun l =>
.guard [o.2.2.2.2.2.length<2 ^ 63]<|
.reg 37 [] [] []<|
.frz 3 (.ev 0) none [] [1,2]<|
.guard [c.2.2.2.2.2.2.length<2 ^ 63]<|
.frz 6 (.ev 0) none [] [1,2]<|
.guard [c.2.2.2.2.2.1.length<2 ^ 63]<|
.frz 4 (.ev 0) none [] [1,2]<|
.guard [g.2.2.2.2.2.length<2 ^ 63]<|
.frz 8 (.ev 0) none [] [1,2]<|
.guard [l.2.2.2.2.2.1.length<2 ^ 63]<|
.frz 5 (.ev 0) none [] [1,2]<|
.guard [m.2.2.2.2.2.1.length<2 ^ 63]<|
.frz 7 (.ev 0) none [] [1,2]<|
.r ((⟨l.2.1,l.2.2.1,l.2.2.2.1,o.2.2.2.2.2,c.2.2.2.2.2.2,c.2.2.2.2.2.1,g.2.2.2.2.2,l.2.2.2.2.2.1,m.2.2.2.2.2.1,l.2.2.2.2.1⟩:TLa),l.1)) id) id) id) id) id
def F_q1 (a:TTape):=(S_q1 a).den
theorem F_q1_ok {a:TTape}:FO (F_q1 a) 8 [(vp 0)] [(TTape.b a)] (fun x=>(TLa.d x.1)) (fun x=>[(TTape.b x.2)]):=fO (s:=S_q1 a) Tryz.func8
abbrev R_qc:=(List TTr)×TTape
def S_qc_b1 (W:TLa) (t:R_q4) (c:TTape×(List TTr)×Int×Int):SC R_qc (Step (TTape×(List TTr)×Int×Int) R_qc) :=
.ite (decide (c.2.2.2>0)) (
.call (@F_q0_ok 90 c.1) fun au av=>
 let M:=([0,1,au.1]:List Int)
.call (@F_q3_ok M au.2) fun X aw=>
.reg 7 [] [(3,hc av [0] false),(4,hv (vl M)),(5,hc aw [0] false)] [.cl 1 av [0] 3 false,.pf (z7 (DV.i .i64) M),.cl 0 aw [0] 3 false]<|
 let u:=(i64.wrap (c.2.2.1+X.1))
 let af:=(7,(AV.ref 2 c.2.1.length 0 c.2.1.length))
 let ag:=(9,(AV.d (eL DV.str t)))
 let ax:=[(0,(vp 0)),(4,(vp 1)),af,(8,(vi u)),ag,(10,(vi c.2.2.2))]
 let j:=(eS 7 TTr.e c.2.1)
 let m:=(TLa.b W)
.sh (H:=NoH) (A:=True) (.pf trivial) ax ax [(TTape.b X.2),m,j] [(TTape.b X.2),m,j,Ob.unb] (fun _=>z6e) (z4k _)<|
.call (@F_q0_ok W.I X.2) fun ay am=>
.call (@F_qv_ok 1 3 ay.2) fun an ao=>
.call (@F_q0_ok (t.length:Int) an.2) fun Y ap=>
.call (@F_q0_ok (t.length:Int) Y.2) fun Z aq=>
.call (@F_qv_ok 1 500 Z.2) fun az ar=>
.call (@F_qv_ok 1 100000 az.2) fun ah O=>
 let v:=([1,10,az.1,ah.1]:List Int)
.call (@F_q3_ok v ah.2) fun g P=>
.guard [(0:Int)<=Y.1,Y.1.toNat<t.length,(0:Int)<=Z.1,Z.1.toNat<t.length]<|
.reg 8 [9,12,17,24,29,31,33,35,36] [(9,hc am [0] false),(12,hc ao [0] false),(17,hc ap [0] false),(24,hc aq [0] false),(29,hc ar [0] false),(31,hc O [0] false),(32,hv (vl v)),(33,hc P [0] false),(35,{ h:=.born 3 false })] [.cl 10 am [0] 4 false,.cl 10 am [0] 4 false,.cl 9 ao [0] 4 false,.cl 9 ao [0] 4 false,.cl 8 ap [0] 4 false,.cl 8 ap [0] 4 false,.ev 0,.ev 1,.ev 0,.ev 1,.ev 0,.ev 1,.ev 0,.ev 1,.ev 0,.ev 1,.ev 0,.ev 1,.ev 0,.ev 1,.ev 0,.ev 1,.ev 0,.ev 1,.ev 0,.ev 1,.cl 7 aq [0] 4 false,.cl 7 aq [0] 4 false,.ev 2,.ev 3,.ev 2,.ev 3,.ev 2,.ev 3,.ev 2,.ev 3,.ev 2,.ev 3,.ev 2,.ev 3,.ev 2,.ev 3,.ev 2,.ev 3,.cl 6 ar [0] 4 false,.cl 6 ar [0] 4 false,.cl 5 O [0] 4 false,.cl 5 O [0] 4 false,.pf (z7 (DV.i .i64) v),.pf (z7 (DV.i .i64) v),.cl 4 P [0] 4 false,.cl 4 P [0] 4 false]<|
 let Q:=(decide ((W.N.length:Int)>0))
.calld [Q=true] (dF,g.2) (@F_q0_ok 5 g.2) fun n ai =>
 let aa:=(i64.wrap ((c.2.1.length:Int)+1))
 let ab:=(t.getD Z.1.toNat dF)
 let ac:=(i64.wrap (W.E+ay.1))
 let R:=(t.getD Y.1.toNat dF)
 let ad:=(bx (DV.agg [(DV.i .i64 aa),(DV.i .i64 u),(DV.i .i64 ac),(DV.i .i64 an.1),(DV.str R),(DV.str ab),(DV.i .i64 g.1)]))
 let S:=(TTape.b n.2)
.reg 9 [] [(6,hc ai [0] false)] [.clg 0 [Q=true] ai [0] 4 false,.der (fun (h:¬ AllP [Q=true]->(dF,g.2)=n) (hn:¬ AllP [Q=true])=>(by obtain rfl:=h hn; rfl:[(TTape.b g.2),m,j,ad]=[S,m,j,ad])) 1]<|
.cut none [0,4,7,8,9,10,11] (fun (_:TTape×TTr)=>[]) (fun q=>[(0,(TTape.b q.1)),(3,(TTr.b q.2))]) (
 let aj:=(bif Q then (decide (n.1>0)) else false)
.ite aj (
 let ba:=[(0,(vp 0)),(4,(vp 1)),af,(8,(vi u)),ag,(10,(vi c.2.2.2)),(11,(vp 3)),(79,(vb aj))]
.sh (H:=NoH) (A:=True) (.pf trivial) ba ba [S,m,j,ad] [S,m,j,ad,Ob.unb] (fun _=>z6e) (z4k _)<|
.call (@F_q0_ok (W.N.length:Int) n.2) fun s T=>
.guard [(0:Int)<=s.1,s.1.toNat<W.N.length]<|
.reg 10 [6,9,10] [(6,hc T [0] false),(9,{ h:=.born 4 false })] [.cl 2 T [0] 5 false,.cl 2 T [0] 5 false,.ev 0,.ev 1,.ev 0,.ev 1]<|
 let ae:=(W.N.getD s.1.toNat dF)
.a 12 4 5 (@F_q4_ok W.F ae.L) fun w=>
.cut none [0,4,7,8,9,10,11,12] (fun (_:TTape×TTr)=>[]) (fun f=>[(0,(TTape.b f.1)),(3,(TTr.b f.2))]) (
.ite (decide ((w.length:Int)>0)) (
.call (@F_q0_ok (w.length:Int) s.2) fun y ak=>
.guard [(0:Int)<=y.1,y.1.toNat<w.length]<|
.reg 14 [] [(4,hc ak [0] false)] [.cl 2 ak [0] 5 false,.ev 0,.ev 1]<|
.r (.next (y.2,(⟨aa,u,ac,ae.H,(w.getD y.1.toNat dF),ab,g.1⟩:TTr)))) (
.r (.next (s.2,(⟨aa,u,ac,ae.H,R,ab,g.1⟩:TTr))))) fun f=>
.a 15 4 5 (@F_q4_ok W.F ae.V) fun z=>
.ite (decide ((z.length:Int)>0)) (
.call (@F_q0_ok (z.length:Int) f.1) fun B al=>
.guard [(0:Int)<=B.1,B.1.toNat<z.length]<|
.reg 17 [] [(4,hc al [0] false)] [.cl 2 al [0] 5 false,.ev 0,.ev 1]<|
.r (.next (B.2,(⟨f.2.H,f.2.G,f.2.C,f.2.U,f.2.L,(z.getD B.1.toNat dF),f.2.D⟩:TTr)))) (
.r (.next (f.1,f.2)))) (
.r (.next (n.2,(⟨aa,u,ac,an.1,R,ab,g.1⟩:TTr))))) fun q=>
.guard [(c.2.1.length+1) * (2 * 72)<=2 ^ 48]<|
 let K:=([q.2]:List TTr)
 let J:=(c.2.1++K)
.reg 18 [] [(2,hv (AV.d (eL TTr.e K))),(3,{ h:=.obj,cast:=some (AV.ref 2 J.length 0 J.length),obs:=[(2,(eS 7 TTr.e J))] })] [.pf (z7 TTr.e K),.e c.2.1.length,.e c.2.1.length,.pf (p:=∀ k,k<1->(TTr.d (K.getD k dF)).wd=7) (fun _ _=>rfl),.ev 0,.pf (zk (o:=2) (l:=c.2.1) (x:=K)),.pf (zj (sz:=7) (e:=TTr.e) (l:=c.2.1) (x:=K))]<|
.r (.cont (q.1,J,u,(i64.wrap (c.2.2.2-1))))) (
.r (.brk (c.1,c.2.1,c.2.2.1,c.2.2.2)))
def S_qc (h:TLa) (l:Int) (m:TTape):SC R_qc R_qc :=
.a 3 2 2 (@F_q4_ok h.F ([])) fun i=>
.call (@F_q0_ok (i64.wrap (l+1)) m) fun f g=>
.k 4 3 g [0] 2 false<|
.bor 7 (fun j=>AV.d (TTr.e (([]:List TTr).getD j dF))) [7]<|
.iter [0,4,9] (fun (c:TTape×(List TTr)×Int×Int)=>[(7,(AV.ref 2 c.2.1.length 0 c.2.1.length)),(8,(vi c.2.2.1)),(10,(vi c.2.2.2))]) (fun c=>[(0,(TTape.b c.1)),(2,(eS 7 TTr.e c.2.1))]) (f.2,([]:List TTr),(i64.wrap (360 * h.E)),f.1) (S_qc_b1 h i) (fun c =>
.guard [c.2.1.length<2 ^ 63]<|
.reg 19 [] [] []<|
.frz 2 (.ev 0) none [6] []<|
.r (c.2.1,c.1)) id
def F_qc (a:TLa) (b:Int) (c:TTape):=(S_qc a b c).den
theorem F_qc_ok {a:TLa} {c:Int} {f:TTape}:FO (F_qc a c f) 9 [(vp 0),(TLa.d a),(vi c)] [(TTape.b f)] (fun x=>(AV.d (eL TTr.e x.1))) (fun x=>[(TTape.b x.2)]):=fO (s:=S_qc a c f) Tryz.func9
abbrev R_q39:=Y8×TTape
def S_q39 (c:TTape):SC R_q39 R_q39 :=
.call (@F_q0_ok 12 c) fun a b=>
.guard [(0:Int)<=a.1,a.1.toNat<12]<|
.reg 1 [] [(0,hv (AV.d (eL DV.str ([[],[48],[48,49],[49,46],[46,49],[49,46,46,50],[49,48,48],[49,46,50,46,51,46,52,46,53],[120],[49,32],[57,57,46,57,57,46,57,57,46,57,57],[52]]:List Y8)))),(2,hc b [0] false)] [.pf (z7 DV.str ([[],[48],[48,49],[49,46],[46,49],[49,46,46,50],[49,48,48],[49,46,50,46,51,46,52,46,53],[120],[49,32],[57,57,46,57,57,46,57,57,46,57,57],[52]]:List Y8)),.cl 2 b [0] 1 false,.ev 0,.ev 1]<|
.r ((([[],[48],[48,49],[49,46],[46,49],[49,46,46,50],[49,48,48],[49,46,50,46,51,46,52,46,53],[120],[49,32],[57,57,46,57,57,46,57,57,46,57,57],[52]]:List Y8).getD a.1.toNat dF),a.2)
def F_q39 (a:TTape):=(S_q39 a).den
theorem F_q39_ok {a:TTape}:FO (F_q39 a) 34 [(vp 0)] [(TTape.b a)] (fun x=>(AV.d (DV.str x.1))) (fun x=>[(TTape.b x.2)]):=fO (s:=S_q39 a) Tryz.func34
abbrev R_q1i:=Y8
def S_q1i_b1 (h:(List Int)) (b:Nat) (c:Y8):SC R_q1i (Step Y8 R_q1i) :=
.reg 6 [] [] [.w b,.ev 0]<|
 let e:=(h.getD b dF)
.ite (cO (decide (e<1)) (decide (e>99))) (
.r (.ret ([]))) (
.cut none [5,9,10,11] (fun (a:Y8)=>[(3,(AV.d (DV.str a)))]) (fun _=>[]) (
.ite (decide ((b:Int)>0)) (
.guard [c.length+([46]).length<2 ^ 63]<|
.reg 10 [] [] [.ev 0]<|
.r (.next (c++([46])))) (
.r (.next c))) fun a=>
.call (@F_q5d_ok e) fun f g=>
.guard [a.length+f.length<2 ^ 63]<|
.reg 11 [] [(2,hc g [] true)] [.cl 1 g [] 0 true,.ev 0]<|
.r (.cont (a++f)))
def S_q1i (b:(List Int)):SC R_q1i R_q1i :=
.ite (decide ((b.length:Int)>4)) (
.r ([])) (
.range (b.length:Int) b.length rfl (.slot 9) 11 [9,10] (fun (a:Y8)=>[(3,(AV.d (DV.str a)))]) (fun _=>[]) ([]) (S_q1i_b1 b) (fun a => 
.r a) id)
def F_q1i (a:(List Int)):=(S_q1i a).den
theorem F_q1i_ok {a:(List Int)}:FO (F_q1i a) 52 [(vl a)] [] (fun x=>(AV.d (DV.str x))) NL:=fO (s:=S_q1i a) Tryz.func52
end
end Go.Proofs.YtbmpcbbimefmoaaGreatDoor
/- What the functions compute,and that their calls return it. No condition. -/
namespace Go.Proofs.YtbmpcbbimefmoaaGreatDoor
open Go Go.TA
open Go.IntKind (i64)
noncomputable section
set_option maxRecDepth 100000
abbrev R_q1x:=(List THe)×TTape
def S_q1x_b1 (a:(List THe)×Int):SC R_q1x (Step ((List THe)×Int) R_q1x) :=
.ite (decide ((a.1.length:Int)<=60)) (
 let c:=([a.2]:List Int)
.call (@F_q1i_ok c) fun f g=>
.guard [([57,57,46]).length+f.length<2 ^ 63,(a.1.length+1) * (2 * 32)<=2 ^ 48]<|
 let b:=([(⟨(([57,57,46])++f),[120]⟩:THe)]:List THe)
.reg 9 [] [(2,hv (vl c)),(3,hc g [] true),(6,hv (AV.d (eL THe.e b))),(7,{ h:=.obj,cast:=some (AV.ref 1 ((a.1++b).length) 0 ((a.1++b).length)),obs:=[(1,(eS 2 THe.e (a.1++b)))] })] [.pf (z7 (DV.i .i64) c),.cl 2 g [] 2 true,.ev 0,.pf (z7 THe.e b),.e a.1.length,.e a.1.length,.pf (p:=∀ k,k<1->(THe.d (b.getD k dF)).wd=2) (fun _ _=>rfl),.ev 1,.pf (zk (o:=1) (l:=a.1) (x:=b)),.pf (zj (sz:=2) (e:=THe.e) (l:=a.1) (x:=b))]<|
.r (.cont ((a.1++b),(i64.wrap (a.2+1))))) (
.r (.brk (a.1,a.2)))
def S_q1x (a:(List THe)) (U:TTape):SC R_q1x R_q1x :=
.guard [a.length * (2 * 32)<=2 ^ 48]<|
.reg 1 [] [(2,{ h:=.obj })] [.pf (p:=∀ k,k<a.length->(THe.d (a.getD k dF)).wd=2) (fun _ _=>rfl),.ev 0]<|
.ite ((a.length:Int)==0) (
 let O:=(⟨[49,46,49],[120]⟩:THe)
 let y:=([O]:List THe)
.reg 3 [] [(1,hv (AV.d (eL THe.e y)))] [.pf (z7 THe.e y)]<|
.r (y,U)) (
.call (@F_q0_ok (a.length:Int) U) fun c S=>
.k 4 3 S [0] 2 false<|
.call (@F_q0_ok 6 c.2) fun m T=>
.k 5 1 T [0] 2 false<|
 let n:=(0+c.1.toNat)
 let G:=(a.getD n dF)
 let z:=[(5,(AV.ref 1 a.length 0 a.length))]
.ite (m.1==0) (
.call (@F_q39_ok m.2) fun N P=>
.guard [(0:Int)<=c.1,c.1.toNat<a.length,n<a.length]<|
 let I:=(⟨N.1,G.W⟩:THe)
 let w:=(a.set n I)
.reg 11 [] [(3,hc P [0] false),(6,{ obs:=[(1,(eS 2 THe.e w))] })] [.cl 3 P [0] 2 false,.e a.length,.ev 0,.ev 1,.e a.length,.e a.length,.ev 2,.pf (z29 (sz:=2) (e:=THe.e) (l:=a) (i:=n) (x:=I) (fun _=>rfl))]<|
 let J:=[(TTape.b N.2),(eS 2 THe.e w)]
.cst (A:=True) (.pf trivial) z [(5,(AV.ref 1 w.length 0 w.length))] J J (fun _=>⟨Zb,by rfl⟩)<|
.guard [w.length<2 ^ 63]<|
.reg 21 [] [] []<|
.frz 1 (.ev 0) none [4] []<|
.r (w,N.2)) (
.ite (m.1==1) (
.call (@F_q0_ok 5 m.2) fun C Q=>
.guard [(0:Int)<=C.1,C.1.toNat<5,(0:Int)<=c.1,c.1.toNat<a.length,n<a.length]<|
 let R:=(⟨G.B,(([[],[32,120],[120,32],[120,10],[97,98,99,100,101,102,103,104,105,106,107,108,109,110,111,112,113,114,115,116,117,118,119,120,121,122,97,98,99,100,101,102,103,104,105,106,107,108,109,110,111,112,113]]:List Y8).getD C.1.toNat dF)⟩:THe)
 let t:=(a.set n R)
.reg 13 [] [(2,hv (AV.d (eL DV.str ([[],[32,120],[120,32],[120,10],[97,98,99,100,101,102,103,104,105,106,107,108,109,110,111,112,113,114,115,116,117,118,119,120,121,122,97,98,99,100,101,102,103,104,105,106,107,108,109,110,111,112,113]]:List Y8)))),(4,hc Q [0] false),(9,{ obs:=[(1,(eS 2 THe.e t))] })] [.pf (z7 DV.str ([[],[32,120],[120,32],[120,10],[97,98,99,100,101,102,103,104,105,106,107,108,109,110,111,112,113,114,115,116,117,118,119,120,121,122,97,98,99,100,101,102,103,104,105,106,107,108,109,110,111,112,113]]:List Y8)),.cl 5 Q [0] 2 false,.ev 0,.ev 1,.e a.length,.ev 2,.ev 3,.e a.length,.e a.length,.ev 4,.pf (z29 (sz:=2) (e:=THe.e) (l:=a) (i:=n) (x:=R) (fun _=>rfl))]<|
 let K:=[(TTape.b C.2),(eS 2 THe.e t)]
.cst (A:=True) (.pf trivial) z [(5,(AV.ref 1 t.length 0 t.length))] K K (fun _=>⟨Zb,by rfl⟩)<|
.guard [t.length<2 ^ 63]<|
.reg 21 [] [] []<|
.frz 1 (.ev 0) none [4] []<|
.r (t,C.2)) (
 let D:=(TTape.b m.2)
.ite (m.1==2) (
 let v:=(i64.wrap (c.1+1))
 let f:=(a.length-v.toNat)
 let g:=(c.1.toNat-0)
.guard [(0:Int)<=c.1,c.1.toNat<=a.length,(0:Int)<=v,v.toNat<=a.length,g+f<=a.length]<|
 let j:=(0+v.toNat)
.reg 15 [7] [(7,{ h:=.imm,obs:=[(1,(eS 2 THe.e (copyL a g f (fun i=>(a.getD (j+i) dF)))))] })] [.ev 0,.ev 1,.e a.length,.ev 2,.ev 3,.e a.length,.e a.length,.e a.length,.ev 4,.pf (p:=∀ k,k<f->(THe.d (a.getD (j+k) dF)).wd=2) (fun _ _=>rfl),.pf (z9y (sz:=2) (e:=THe.e) (l:=a) (off:=g) (k:=f) (s:=(fun i=>(a.getD (j+i) dF))))]<|
.cst (A:=True) (.pf trivial) [(5,(AV.ref 1 a.length 0 (g+f)))] [(5,(AV.ref 1 ((copyL a g f (fun i=>(a.getD (j+i) dF))).length) 0 (g+f)))] [D,(eS 2 THe.e (copyL a g f (fun i=>(a.getD (j+i) dF))))] [D,(eS 2 THe.e (copyL a g f (fun i=>(a.getD (j+i) dF))))] (fun _=>⟨by simp +zetaDelta only[zw],by rfl⟩)<|
.guard [(copyL a g f (fun i=>(a.getD (j+i) dF))).length<2 ^ 63]<|
.reg 21 [] [] []<|
.guard [(g+f)<=(copyL a g f (fun i=>(a.getD (j+i) dF))).length]<|
.frz 1 (.ev 1) (some (.der (fun (h:(g+f)<=(copyL a g f (fun i=>(a.getD (j+i) dF))).length)=>(h:(g+f)<=(copyL a g f (fun i=>(a.getD (j+i) dF))).length)) 0)) [4] []<|
.lev 4 (AV.d (eL THe.e ((copyL a g f (fun i=>(a.getD (j+i) dF))).take (g+f)))) (.der (fun (h:(g+f)<=(copyL a g f (fun i=>(a.getD (j+i) dF))).length)=>lvT THe.e (copyL a g f (fun i=>(a.getD (j+i) dF))) h) 0)<|
.r (((copyL a g f (fun i=>(a.getD (j+i) dF))).take (g+f)),m.2)) (
.ite (m.1==3) (
.guard [(0:Int)<=c.1,c.1.toNat<a.length,n<a.length,(a.length+1) * (2 * 32)<=2 ^ 48]<|
 let q:=([G]:List THe)
.reg 17 [] [(5,hv (AV.d (eL THe.e q))),(6,{ h:=.obj,cast:=some (AV.ref 1 ((a++q).length) 0 ((a++q).length)),obs:=[(1,(eS 2 THe.e (a++q)))] })] [.e a.length,.ev 0,.ev 1,.e a.length,.ev 2,.pf (z7 THe.e q),.e a.length,.e a.length,.pf (p:=∀ k,k<1->(THe.d (q.getD k dF)).wd=2) (fun _ _=>rfl),.ev 3,.pf (zk (o:=1) (l:=a) (x:=q)),.pf (zj (sz:=2) (e:=THe.e) (l:=a) (x:=q))]<|
.guard [(a++q).length<2 ^ 63]<|
.reg 21 [] [] []<|
.frz 1 (.ev 0) none [4] []<|
.r ((a++q),m.2)) (
.ite (m.1==4) (
.ite (decide (c.1>0)) (
 let E:=(i64.wrap (c.1-1))
 let H:=(0+E.toNat)
 let L:=(a.set n (a.getD H dF))
.guard [(0:Int)<=E,E.toNat<a.length,H<a.length,(0:Int)<=c.1,c.1.toNat<a.length,n<a.length,H<L.length]<|
.reg 20 [15,17] [(15,{ obs:=[(1,(eS 2 THe.e (a.set (0+c.1.toNat) (a.getD (0+((i64.wrap (c.1-1))).toNat) dF))))] }),(17,{ obs:=[(1,(eS 2 THe.e ((a.set (0+c.1.toNat) (a.getD (0+((i64.wrap (c.1-1))).toNat) dF)).set (0+((i64.wrap (c.1-1))).toNat) (a.getD (0+c.1.toNat) dF))))] })] [.e a.length,.ev 0,.ev 1,.e a.length,.ev 2,.e a.length,.ev 3,.ev 4,.e a.length,.ev 5,.e a.length,.ev 3,.ev 4,.e a.length,.ev 5,.pf (z29 (sz:=2) (e:=THe.e) (l:=a) (i:=(0+c.1.toNat)) (x:=(a.getD (0+((i64.wrap (c.1-1))).toNat) dF)) (fun _=>rfl)),.pf (p:=(a.set (0+c.1.toNat) (a.getD (0+((i64.wrap (c.1-1))).toNat) dF)).length=a.length) (by simp only[y23]),.ev 0,.ev 1,.pf (p:=(a.set (0+c.1.toNat) (a.getD (0+((i64.wrap (c.1-1))).toNat) dF)).length=a.length) (by simp only[y23]),.ev 6,.pf (z29 (sz:=2) (e:=THe.e) (l:=(a.set (0+c.1.toNat) (a.getD (0+((i64.wrap (c.1-1))).toNat) dF))) (i:=(0+((i64.wrap (c.1-1))).toNat)) (x:=(a.getD (0+c.1.toNat) dF)) (fun _=>rfl))]<|
 let F:=(L.set H G)
 let M:=[D,(eS 2 THe.e F)]
.cst (A:=True) (.pf trivial) z [(5,(AV.ref 1 F.length 0 F.length))] M M (fun _=>⟨Zb,by rfl⟩)<|
.guard [F.length<2 ^ 63]<|
.reg 21 [] [] []<|
.frz 1 (.ev 0) none [4] []<|
.r (F,m.2)) (
.guard [a.length<2 ^ 63]<|
.reg 21 [] [] []<|
.frz 1 (.ev 0) none [4] []<|
.r (a,m.2))) (
.iter [] (fun (u:(List THe)×Int)=>[(5,(AV.ref 1 u.1.length 0 u.1.length)),(7,(vi u.2))]) (fun u=>[(1,(eS 2 THe.e u.1))]) (a,1) S_q1x_b1 (fun u =>
.guard [u.1.length<2 ^ 63]<|
.reg 21 [] [] []<|
.frz 1 (.ev 0) none [4] []<|
.r (u.1,m.2)) id))))))
def F_q1x (a:(List THe)) (b:TTape):=(S_q1x a b).den
theorem F_q1x_ok {a:(List THe)} {c:TTape}:FO (F_q1x a c) 35 [(vp 0),(AV.d (eL THe.e a))] [(TTape.b c)] (fun x=>(AV.d (eL THe.e x.1))) (fun x=>[(TTape.b x.2)]):=fO (s:=S_q1x a c) Tryz.func35
abbrev R_q3r:=Y8×TTape
def S_q3r (c:(List Y8)) (d:TTape):SC R_q3r R_q3r :=
.call (@F_q0_ok (c.length:Int) d) fun a b=>
.guard [(0:Int)<=a.1,a.1.toNat<c.length]<|
.reg 1 [] [(4,hc b [0] false)] [.cl 2 b [0] 1 false,.ev 0,.ev 1]<|
.r ((c.getD a.1.toNat dF),a.2)
def F_q3r (a:(List Y8)) (b:TTape):=(S_q3r a b).den
theorem F_q3r_ok {a:(List Y8)} {c:TTape}:FO (F_q3r a c) 36 [(vp 0),(AV.d (eL DV.str a))] [(TTape.b c)] (fun x=>(AV.d (DV.str x.1))) (fun x=>[(TTape.b x.2)]):=fO (s:=S_q3r a c) Tryz.func36
theorem zpa:LeV (AV.d (DV.agg [(DV.i .i64 6000),(DV.i .i64 9),Z0])) (TAm.d (⟨6000,9,[]⟩:TAm)):=z8z rfl (DLe.agg (DLeL.cons (DLe.refl _) (DLeL.cons (DLe.refl _) (DLeL.cons DLe.sl0 DLeL.nil))))
theorem zpb:∀ k,k<1->(TAm.d (([(⟨6000,9,[]⟩:TAm)]:List TAm).getD k dF)).wd=3:=fun _ _=>rfl
abbrev R_qk:=TLa×TTape
def S_qk_b1 (a:TTape×TLa×Int):SC R_qk (Step (TTape×TLa×Int) R_qk) :=
.call (@F_q3_ok ([20,3]:List Int) a.1) fun c f=>
.reg 8 [] [(2,hv (vl ([20,3]:List Int))),(3,hc f [0] false)] [.pf (z7 (DV.i .i64) ([20,3]:List Int)),.cl 0 f [0] 3 false]<|
.ite (decide (a.2.2<=c.1)) (
.guard [((a.2.1.N.length-0)+1) * (2 * 48)<=2 ^ 48]<|
 let b:=([(⟨(i64.wrap (100+a.2.2)),[49],[50],1⟩:TRu)]:List TRu)
.reg 10 [] [(12,hv (AV.d (eL TRu.e b))),(13,hv (AV.d (eL TRu.e (a.2.1.N++b))))] [.pf (nn a.2.1.N.length),.pf (p:=a.2.1.N.length<=a.2.1.N.length) (yc _),.pf (p:=(a.2.1.N.length:Int)=(a.2.1.N.length:Int)) rfl,.pf (z7 TRu.e b),.pf (p:=∀ k,k<1->AV.d (TRu.e (b.getD k dF))=AV.d (TRu.e (b.getD k dF))/\(TRu.e (b.getD k dF)).wd=4) (fun _ _=>⟨rfl,rfl⟩),.pf (p:=∀ k,k<(a.2.1.N.length-0)->(TRu.e (a.2.1.N.getD k dF)).wd=4) (fun _ _=>rfl),.ev 0,.pf (zl4 TRu.e a.2.1.N b)]<|
.r (.cont (c.2,(⟨a.2.1.E,a.2.1.I,a.2.1.F,a.2.1.P,a.2.1.J,a.2.1.O,a.2.1.K,a.2.1.M,(a.2.1.N++b),a.2.1.A⟩:TLa),(i64.wrap (a.2.2+1))))) (
.r (.brk (c.2,a.2.1,a.2.2)))
def S_qk (a:TLa) (p0:TTape):SC R_qk R_qk :=
.reg 0 [] [(1,{ obs:=[(2,(TLa.b (⟨0,0,[],[],[],[],[],[],[],[]⟩:TLa)))] })] [.pf cz2]<|
.call (@F_q39_ok p0) fun bb bg=>
.k 1 1 bg [0] 3 false<|
.call (@F_q0_ok 3 bb.2) fun az bh=>
.k 2 1 bh [0] 3 false<|
.cut none [0,3,4] (fun (g:TTape×Y8)=>[(5,(AV.d (DV.str g.2)))]) (fun g=>[(0,(TTape.b g.1))]) (
.ite (bif (decide (az.1>0)) then (decide ((a.F.length:Int)>0)) else false) (
.call (@F_q0_ok (a.F.length:Int) az.2) fun Q bc=>
.guard [(0:Int)<=Q.1,Q.1.toNat<a.F.length]<|
.reg 3 [6] [(6,hc bc [0] false)] [.cl 2 bc [0] 3 false,.ev 0,.ev 1]<|
.r (.next (Q.2,(a.F.getD Q.1.toNat dF).B))) (
.r (.next (az.2,bb.1)))) fun g=>
 let ba:=([(-1),(i64.wrap (a.E-1)),a.E,(i64.wrap (a.E+a.I))]:List Int)
.call (@F_q3_ok ba g.1) fun D bd=>
.reg 4 [] [(11,hv (vl ba)),(12,hc bd [0] false)] [.pf (z7 (DV.i .i64) ba),.cl 0 bd [0] 3 false]<|
.call (@F_q3_ok ([(-2),(-1),5,1000000000000,1000000000001]:List Int) D.2) fun C be=>
.reg 5 [] [(1,hv (vl ([(-2),(-1),5,1000000000000,1000000000001]:List Int))),(2,hc be [0] false)] [.pf (z7 (DV.i .i64) ([(-2),(-1),5,1000000000000,1000000000001]:List Int)),.cl 0 be [0] 3 false]<|
.call (@F_q0_ok 12 C.2) fun c bi=>
.k 6 1 bi [0] 3 false<|
.cut (some 0) [3,4] (fun (_:TTape×TLa)=>[]) (fun t=>[(0,(TTape.b t.1)),(1,(TLa.b t.2))]) (
.ite (c.1==0) (
 let G:=([(-1),0,97,99,100,(i64.wrap (a.E+1))]:List Int)
.call (@F_q3_ok G c.2) fun R S=>
.reg 12 [] [(4,hv (vl G)),(5,hc S [0] false)] [.pf (z7 (DV.i .i64) G),.cl 0 S [0] 3 false]<|
.r (.next (R.2,(⟨R.1,a.I,a.F,a.P,a.J,a.O,a.K,a.M,a.N,a.A⟩:TLa)))) (
.ite (c.1==1) (
.call (@F_q3_ok ([0,1,4,5]:List Int) c.2) fun T U=>
.reg 14 [] [(1,hv (vl ([0,1,4,5]:List Int))),(2,hc U [0] false)] [.pf (z7 (DV.i .i64) ([0,1,4,5]:List Int)),.cl 0 U [0] 3 false]<|
.r (.next (T.2,(⟨a.E,T.1,a.F,a.P,a.J,a.O,a.K,a.M,a.N,a.A⟩:TLa)))) (
.ite (c.1==2) (
.call (@F_q1x_ok a.F c.2) fun V bf=>
.k 16 3 bf [0] 3 false<|
.r (.next (V.2,(⟨a.E,a.I,V.1,a.P,a.J,a.O,a.K,a.M,a.N,a.A⟩:TLa)))) (
.ite (c.1==3) (
.guard [a.P.length * (2 * 32)<=2 ^ 48,(a.P.length+1) * (2 * 32)<=2 ^ 48]<|
 let j:=([(⟨g.2,D.1,C.1⟩:TLi)]:List TLi)
.reg 18 [] [(3,{ h:=.obj }),(8,hv (AV.d (eL TLi.e j))),(9,{ cast:=some (AV.ref 3 ((a.P++j).length) 0 ((a.P++j).length)),obs:=[(3,(eS 3 TLi.e (a.P++j)))] })] [.pf (p:=∀ k,k<a.P.length->(TLi.d (a.P.getD k dF)).wd=3) (fun _ _=>rfl),.ev 0,.pf (z7 TLi.e j),.e a.P.length,.e a.P.length,.pf (p:=∀ k,k<1->(TLi.d (j.getD k dF)).wd=3) (fun _ _=>rfl),.ev 1,.pf (zk (o:=3) (l:=a.P) (x:=j)),.pf (zj (sz:=3) (e:=TLi.e) (l:=a.P) (x:=j))]<|
.guard [(a.P++j).length<2 ^ 63]<|
.frz 3 (.ev 0) none [] [1]<|
.r (.next (c.2,(⟨a.E,a.I,a.F,(a.P++j),a.J,a.O,a.K,a.M,a.N,a.A⟩:TLa)))) (
 let f:=([(⟨g.2,D.1,C.1⟩:TBo)]:List TBo)
.ite (c.1==4) (
.guard [(f.length+a.J.length) * (2 * 32)<=2 ^ 48]<|
.reg 20 [] [(4,{ h:=.obj,obs:=[(3,(eS 3 TBo.e f))] }),(7,{ cast:=some (AV.ref 3 ((f++a.J).length) 0 ((f++a.J).length)),obs:=[(3,(eS 3 TBo.e (f++a.J)))] })] [.pf (z93 (sz:=3) (e:=TBo.e) (l:=f)),.e f.length,.e f.length,.pf (p:=∀ k,k<a.J.length->(TBo.d (a.J.getD k dF)).wd=3) (fun _ _=>rfl),.ev 0,.pf (zk (o:=3) (l:=f) (x:=a.J)),.pf (zj (sz:=3) (e:=TBo.e) (l:=f) (x:=a.J))]<|
.guard [(f++a.J).length<2 ^ 63]<|
.frz 3 (.ev 0) none [] [1]<|
.r (.next (c.2,(⟨a.E,a.I,a.F,a.P,(f++a.J),a.O,a.K,a.M,a.N,a.A⟩:TLa)))) (
.ite (c.1==5) (
.guard [a.O.length * (2 * 32)<=2 ^ 48,(a.O.length+1) * (2 * 32)<=2 ^ 48]<|
.reg 22 [] [(3,{ h:=.obj }),(8,hv (AV.d (eL TBo.e f))),(9,{ cast:=some (AV.ref 3 ((a.O++f).length) 0 ((a.O++f).length)),obs:=[(3,(eS 3 TBo.e (a.O++f)))] })] [.pf (p:=∀ k,k<a.O.length->(TBo.d (a.O.getD k dF)).wd=3) (fun _ _=>rfl),.ev 0,.pf (z7 TBo.e f),.e a.O.length,.e a.O.length,.pf (p:=∀ k,k<1->(TBo.d (f.getD k dF)).wd=3) (fun _ _=>rfl),.ev 1,.pf (zk (o:=3) (l:=a.O) (x:=f)),.pf (zj (sz:=3) (e:=TBo.e) (l:=a.O) (x:=f))]<|
.guard [(a.O++f).length<2 ^ 63]<|
.frz 3 (.ev 0) none [] [1]<|
.r (.next (c.2,(⟨a.E,a.I,a.F,a.P,a.J,(a.O++f),a.K,a.M,a.N,a.A⟩:TLa)))) (
.ite (c.1==6) (
 let z:=([[57],[57,46,50],g.2]:List Y8)
.call (@F_q3r_ok z c.2) fun W X=>
.call (@F_qg_ok a.F W.2) fun Y Z=>
.call (@F_q3_ok ([(-1),60,100,101]:List Int) Y.2) fun aa ab=>
.guard [a.K.length * (2 * 40)<=2 ^ 48,(a.K.length+1) * (2 * 40)<=2 ^ 48]<|
 let m:=([(⟨W.1,Y.1,aa.1⟩:TEa)]:List TEa)
.reg 24 [3,7,11,14,17,19] [(3,{ h:=.obj }),(6,hv (AV.d (eL DV.str z))),(7,hc X [0] false),(11,hc Z [0] false),(13,hv (vl ([(-1),60,100,101]:List Int))),(14,hc ab [0] false),(16,hv (AV.d (eL TEa.e m))),(17,{ cast:=some (AV.ref 3 ((a.K++m).length) 0 ((a.K++m).length)),obs:=[(3,(eS 3 TEa.e (a.K++m)))] })] [.pf (p:=∀ k,k<a.K.length->(TEa.d (a.K.getD k dF)).wd=3) (fun _ _=>rfl),.ev 0,.pf (z7 DV.str z),.pf (z7 DV.str z),.cl 4 X [0] 4 false,.cl 3 Z [0] 4 false,.pf (z7 (DV.i .i64) ([(-1),60,100,101]:List Int)),.pf (z7 (DV.i .i64) ([(-1),60,100,101]:List Int)),.pf (z7 (DV.i .i64) ([(-1),60,100,101]:List Int)),.pf (z7 (DV.i .i64) ([(-1),60,100,101]:List Int)),.cl 2 ab [0] 4 false,.pf (z7 TEa.e m),.e a.K.length,.e a.K.length,.pf (p:=∀ k,k<1->(TEa.d (m.getD k dF)).wd=3) (fun _ _=>rfl),.ev 1,.pf (zk (o:=3) (l:=a.K) (x:=m)),.pf (zj (sz:=3) (e:=TEa.e) (l:=a.K) (x:=m))]<|
.guard [(a.K++m).length<2 ^ 63]<|
.frz 3 (.ev 0) none [] [1]<|
.r (.next (aa.2,(⟨a.E,a.I,a.F,a.P,a.J,a.O,(a.K++m),a.M,a.N,a.A⟩:TLa)))) (
.ite (c.1==7) (
.call (@F_qg_ok a.F c.2) fun ac ad=>
.call (@F_qv_ok 0 3 ac.2) fun ae af=>
.call (@F_q3_ok ([0,5,(-1),36000]:List Int) ae.2) fun ag ah=>
 let w:=([[],[57],g.2]:List Y8)
.call (@F_q3r_ok w ag.2) fun ai aj=>
 let u:=([0,7,C.1]:List Int)
.call (@F_q3_ok u ai.2) fun ak al=>
.guard [a.M.length * (2 * 72)<=2 ^ 48,(a.M.length+1) * (2 * 72)<=2 ^ 48]<|
 let n:=([(⟨ac.1,D.1,C.1,ae.1,ag.1,ai.1,ak.1⟩:TCo)]:List TCo)
.reg 26 [3,7,11,14,18,22,25,27] [(3,{ h:=.obj }),(7,hc ad [0] false),(11,hc af [0] false),(13,hv (vl ([0,5,(-1),36000]:List Int))),(14,hc ah [0] false),(17,hv (AV.d (eL DV.str w))),(18,hc aj [0] false),(21,hv (vl u)),(22,hc al [0] false),(24,hv (AV.d (eL TCo.e n))),(25,{ cast:=some (AV.ref 3 ((a.M++n).length) 0 ((a.M++n).length)),obs:=[(3,(eS 7 TCo.e (a.M++n)))] })] [.pf (p:=∀ k,k<a.M.length->(TCo.d (a.M.getD k dF)).wd=7) (fun _ _=>rfl),.ev 0,.cl 6 ad [0] 4 false,.cl 5 af [0] 4 false,.pf (z7 (DV.i .i64) ([0,5,(-1),36000]:List Int)),.pf (z7 (DV.i .i64) ([0,5,(-1),36000]:List Int)),.pf (z7 (DV.i .i64) ([0,5,(-1),36000]:List Int)),.pf (z7 (DV.i .i64) ([0,5,(-1),36000]:List Int)),.cl 4 ah [0] 4 false,.pf (z7 DV.str w),.pf (z7 DV.str w),.pf (z7 DV.str w),.pf (z7 DV.str w),.pf (z7 DV.str w),.cl 3 aj [0] 4 false,.pf (z7 (DV.i .i64) u),.pf (z7 (DV.i .i64) u),.pf (z7 (DV.i .i64) u),.pf (z7 (DV.i .i64) u),.pf (z7 (DV.i .i64) u),.pf (z7 (DV.i .i64) u),.cl 2 al [0] 4 false,.pf (z7 TCo.e n),.e a.M.length,.e a.M.length,.pf (p:=∀ k,k<1->(TCo.d (n.getD k dF)).wd=7) (fun _ _=>rfl),.ev 1,.pf (zk (o:=3) (l:=a.M) (x:=n)),.pf (zj (sz:=7) (e:=TCo.e) (l:=a.M) (x:=n))]<|
.guard [(a.M++n).length<2 ^ 63]<|
.frz 3 (.ev 0) none [] [1]<|
.r (.next (ak.2,(⟨a.E,a.I,a.F,a.P,a.J,a.O,a.K,(a.M++n),a.N,a.A⟩:TLa)))) (
.ite (c.1==8) (
.call (@F_q3_ok ([0,1,50,1000001]:List Int) c.2) fun am an=>
.call (@F_q3_ok ([0,100,101]:List Int) am.2) fun ao ap=>
.guard [a.N.length * (2 * 48)<=2 ^ 48,(a.N.length+1) * (2 * 48)<=2 ^ 48]<|
 let q:=([(⟨am.1,g.2,[49],ao.1⟩:TRu)]:List TRu)
.reg 28 [] [(3,{ h:=.obj }),(5,hv (vl ([0,1,50,1000001]:List Int))),(6,hc an [0] false),(9,hv (vl ([0,100,101]:List Int))),(10,hc ap [0] false),(12,hv (AV.d (eL TRu.e q))),(13,{ cast:=some (AV.ref 3 ((a.N++q).length) 0 ((a.N++q).length)),obs:=[(3,(eS 4 TRu.e (a.N++q)))] })] [.pf (p:=∀ k,k<a.N.length->(TRu.d (a.N.getD k dF)).wd=4) (fun _ _=>rfl),.ev 0,.pf (z7 (DV.i .i64) ([0,1,50,1000001]:List Int)),.cl 3 an [0] 4 false,.pf (z7 (DV.i .i64) ([0,100,101]:List Int)),.cl 2 ap [0] 4 false,.pf (z7 TRu.e q),.e a.N.length,.e a.N.length,.pf (p:=∀ k,k<1->(TRu.d (q.getD k dF)).wd=4) (fun _ _=>rfl),.ev 1,.pf (zk (o:=3) (l:=a.N) (x:=q)),.pf (zj (sz:=4) (e:=TRu.e) (l:=a.N) (x:=q))]<|
.guard [(a.N++q).length<2 ^ 63]<|
.frz 3 (.ev 0) none [] [1]<|
.r (.next (ao.2,(⟨a.E,a.I,a.F,a.P,a.J,a.O,a.K,a.M,(a.N++q),a.A⟩:TLa)))) (
.ite (c.1==9) (
.call (@F_q3_ok ([(-1),0,5000,35991]:List Int) c.2) fun aq ar=>
.call (@F_qv_ok 0 3 aq.2) fun au av=>
.call (@F_qv_ok 0 4 au.2) fun aw ax=>
.guard [a.A.length * (2 * 40)<=2 ^ 48,(a.A.length+1) * (2 * 40)<=2 ^ 48]<|
 let H:=([(⟨aw.1,g.2,D.1,C.1⟩:TCh)]:List TCh)
 let s:=([(⟨aq.1,au.1,H⟩:TAm)]:List TAm)
.reg 30 [] [(3,{ h:=.obj }),(5,hv (vl ([(-1),0,5000,35991]:List Int))),(6,hc ar [0] false),(8,hc av [0] false),(10,hc ax [0] false),(15,hv (AV.d (eL TCh.e H))),(17,hv (AV.d (eL TAm.e s))),(18,{ cast:=some (AV.ref 3 ((a.A++s).length) 0 ((a.A++s).length)),obs:=[(3,(eS 3 TAm.e (a.A++s)))] })] [.pf (p:=∀ k,k<a.A.length->(TAm.d (a.A.getD k dF)).wd=3) (fun _ _=>rfl),.ev 0,.pf (z7 (DV.i .i64) ([(-1),0,5000,35991]:List Int)),.cl 4 ar [0] 4 false,.cl 3 av [0] 4 false,.cl 2 ax [0] 4 false,.pf (z7 TCh.e H),.pf (z7 TAm.e s),.e a.A.length,.e a.A.length,.pf (p:=∀ k,k<1->(TAm.d (s.getD k dF)).wd=3) (fun _ _=>rfl),.ev 1,.pf (zk (o:=3) (l:=a.A) (x:=s)),.pf (zj (sz:=3) (e:=TAm.e) (l:=a.A) (x:=s))]<|
.guard [(a.A++s).length<2 ^ 63]<|
.frz 3 (.ev 0) none [] [1]<|
.r (.next (aw.2,(⟨a.E,a.I,a.F,a.P,a.J,a.O,a.K,a.M,a.N,(a.A++s)⟩:TLa)))) (
.ite (c.1==10) (
.guard [a.A.length * (2 * 40)<=2 ^ 48,(a.A.length+1) * (2 * 40)<=2 ^ 48]<|
 let ay:=(⟨6000,9,[]⟩:TAm)
 let v:=([ay]:List TAm)
 let L:=(a.A++v)
.reg 32 [] [(3,{ h:=.obj }),(4,hv (TAm.d ay)),(5,hv (AV.d (eL TAm.e v))),(6,{ cast:=some (AV.ref 3 L.length 0 L.length),obs:=[(3,(eS 3 TAm.e L))] })] [.pf (p:=∀ k,k<a.A.length->(TAm.d (a.A.getD k dF)).wd=3) (fun _ _=>rfl),.ev 0,.pf zpa,.pf (z7 TAm.e v),.e a.A.length,.e a.A.length,.pf zpb,.ev 1,.pf (zk (o:=3) (l:=a.A) (x:=v)),.pf (zj (sz:=3) (e:=TAm.e) (l:=a.A) (x:=v))]<|
.guard [L.length<2 ^ 63]<|
.frz 3 (.ev 0) none [] [1]<|
.r (.next (c.2,(⟨a.E,a.I,a.F,a.P,a.J,a.O,a.K,a.M,a.N,L⟩:TLa)))) (
.iter [0,3,4] (fun (y:TTape×TLa×Int)=>[(8,(vi y.2.2))]) (fun y=>[(0,(TTape.b y.1)),(1,(TLa.b y.2.1))]) (c.2,a,0) S_qk_b1 (fun y =>
.r (.next (y.1,y.2.1))) .ret)))))))))))) fun t=>
.r (t.2,t.1)
def F_qk (a:TLa) (b:TTape):=(S_qk a b).den
theorem F_qk_ok {a:TLa} {c:TTape}:FO (F_qk a c) 13 [(vp 0),(TLa.d a)] [(TTape.b c)] (fun x=>(TLa.d x.1)) (fun x=>[(TTape.b x.2)]):=fO (s:=S_qk a c) Tryz.func13
end
end Go.Proofs.YtbmpcbbimefmoaaGreatDoor
/- What the functions compute,and that their calls return it. No condition. -/
namespace Go.Proofs.YtbmpcbbimefmoaaGreatDoor
open Go Go.TA
open Go.IntKind (i64)
noncomputable section
set_option maxRecDepth 100000
abbrev R_q31:=(List TTr)×TTape
def S_q31 (c:(List TTr)) (p0:TTape):SC R_q31 R_q31 :=
.guard [c.length * (2 * 72)<=2 ^ 48]<|
.reg 1 [] [(2,{ h:=.obj })] [.pf (p:=∀ k,k<c.length->(TTr.d (c.getD k dF)).wd=7) (fun _ _=>rfl),.ev 0]<|
.ite ((c.length:Int)==0) (
 let ac:=(⟨1,0,0,0,[49],[50],0⟩:TTr)
 let z:=([ac]:List TTr)
.reg 3 [] [(1,hv (AV.d (eL TTr.e z)))] [.pf (z7 TTr.e z)]<|
.r (z,p0)) (
.call (@F_q0_ok (c.length:Int) p0) fun g aj=>
.k 4 3 aj [0] 2 false<|
.call (@F_q0_ok 8 g.2) fun j ak=>
.k 5 1 ak [0] 2 false<|
 let f:=(0+g.1.toNat)
 let a:=(c.getD f dF)
 let m:=[(5,(AV.ref 1 c.length 0 c.length))]
.ite (j.1==0) (
.call (@F_q3_ok ([0,1,1000001]:List Int) j.2) fun W ad=>
.guard [(0:Int)<=g.1,g.1.toNat<c.length,f<c.length]<|
 let B:=(⟨W.1,a.G,a.C,a.U,a.L,a.V,a.D⟩:TTr)
 let q:=(c.set f B)
.reg 8 [] [(3,hv (vl ([0,1,1000001]:List Int))),(4,hc ad [0] false),(7,{ obs:=[(1,(eS 7 TTr.e q))] })] [.pf (z7 (DV.i .i64) ([0,1,1000001]:List Int)),.cl 3 ad [0] 2 false,.e c.length,.ev 0,.ev 1,.e c.length,.e c.length,.ev 2,.pf (z29 (sz:=7) (e:=TTr.e) (l:=c) (i:=f) (x:=B) (fun _=>rfl))]<|
 let E:=[(TTape.b W.2),(eS 7 TTr.e q)]
.cst (A:=True) (.pf trivial) m [(5,(AV.ref 1 q.length 0 q.length))] E E (fun _=>⟨Zb,by rfl⟩)<|
.guard [q.length<2 ^ 63]<|
.reg 21 [] [] []<|
.frz 1 (.ev 0) none [4] []<|
.r (q,W.2)) (
.ite (j.1==1) (
.call (@F_q3_ok ([(-1),0,35991]:List Int) j.2) fun X ae=>
.guard [(0:Int)<=g.1,g.1.toNat<c.length,f<c.length]<|
 let F:=(⟨a.H,X.1,a.C,a.U,a.L,a.V,a.D⟩:TTr)
 let s:=(c.set f F)
.reg 10 [] [(3,hv (vl ([(-1),0,35991]:List Int))),(4,hc ae [0] false),(7,{ obs:=[(1,(eS 7 TTr.e s))] })] [.pf (z7 (DV.i .i64) ([(-1),0,35991]:List Int)),.cl 3 ae [0] 2 false,.e c.length,.ev 0,.ev 1,.e c.length,.e c.length,.ev 2,.pf (z29 (sz:=7) (e:=TTr.e) (l:=c) (i:=f) (x:=F) (fun _=>rfl))]<|
 let I:=[(TTape.b X.2),(eS 7 TTr.e s)]
.cst (A:=True) (.pf trivial) m [(5,(AV.ref 1 s.length 0 s.length))] I I (fun _=>⟨Zb,by rfl⟩)<|
.guard [s.length<2 ^ 63]<|
.reg 21 [] [] []<|
.frz 1 (.ev 0) none [4] []<|
.r (s,X.2)) (
.ite (j.1==2) (
.call (@F_q3_ok ([(-1),0,99]:List Int) j.2) fun Y af=>
.guard [(0:Int)<=g.1,g.1.toNat<c.length,f<c.length]<|
 let J:=(⟨a.H,a.G,Y.1,a.U,a.L,a.V,a.D⟩:TTr)
 let t:=(c.set f J)
.reg 12 [] [(3,hv (vl ([(-1),0,99]:List Int))),(4,hc af [0] false),(7,{ obs:=[(1,(eS 7 TTr.e t))] })] [.pf (z7 (DV.i .i64) ([(-1),0,99]:List Int)),.cl 3 af [0] 2 false,.e c.length,.ev 0,.ev 1,.e c.length,.e c.length,.ev 2,.pf (z29 (sz:=7) (e:=TTr.e) (l:=c) (i:=f) (x:=J) (fun _=>rfl))]<|
 let K:=[(TTape.b Y.2),(eS 7 TTr.e t)]
.cst (A:=True) (.pf trivial) m [(5,(AV.ref 1 t.length 0 t.length))] K K (fun _=>⟨Zb,by rfl⟩)<|
.guard [t.length<2 ^ 63]<|
.reg 21 [] [] []<|
.frz 1 (.ev 0) none [4] []<|
.r (t,Y.2)) (
.ite (j.1==3) (
.call (@F_q3_ok ([0,4,77]:List Int) j.2) fun Z ag=>
.guard [(0:Int)<=g.1,g.1.toNat<c.length,f<c.length]<|
 let M:=(⟨a.H,a.G,a.C,Z.1,a.L,a.V,a.D⟩:TTr)
 let u:=(c.set f M)
.reg 14 [] [(3,hv (vl ([0,4,77]:List Int))),(4,hc ag [0] false),(7,{ obs:=[(1,(eS 7 TTr.e u))] })] [.pf (z7 (DV.i .i64) ([0,4,77]:List Int)),.cl 3 ag [0] 2 false,.e c.length,.ev 0,.ev 1,.e c.length,.e c.length,.ev 2,.pf (z29 (sz:=7) (e:=TTr.e) (l:=c) (i:=f) (x:=M) (fun _=>rfl))]<|
 let N:=[(TTape.b Z.2),(eS 7 TTr.e u)]
.cst (A:=True) (.pf trivial) m [(5,(AV.ref 1 u.length 0 u.length))] N N (fun _=>⟨Zb,by rfl⟩)<|
.guard [u.length<2 ^ 63]<|
.reg 21 [] [] []<|
.frz 1 (.ev 0) none [4] []<|
.r (u,Z.2)) (
.ite (j.1==4) (
.call (@F_q39_ok j.2) fun aa ah=>
.guard [(0:Int)<=g.1,g.1.toNat<c.length,f<c.length]<|
 let O:=(⟨a.H,a.G,a.C,a.U,aa.1,a.V,a.D⟩:TTr)
 let v:=(c.set f O)
.reg 16 [] [(3,hc ah [0] false),(6,{ obs:=[(1,(eS 7 TTr.e v))] })] [.cl 3 ah [0] 2 false,.e c.length,.ev 0,.ev 1,.e c.length,.e c.length,.ev 2,.pf (z29 (sz:=7) (e:=TTr.e) (l:=c) (i:=f) (x:=O) (fun _=>rfl))]<|
 let P:=[(TTape.b aa.2),(eS 7 TTr.e v)]
.cst (A:=True) (.pf trivial) m [(5,(AV.ref 1 v.length 0 v.length))] P P (fun _=>⟨Zb,by rfl⟩)<|
.guard [v.length<2 ^ 63]<|
.reg 21 [] [] []<|
.frz 1 (.ev 0) none [4] []<|
.r (v,aa.2)) (
.ite (j.1==5) (
.guard [(0:Int)<=g.1,g.1.toNat<c.length,f<c.length]<|
 let Q:=(⟨a.H,a.G,a.C,a.U,a.L,a.L,a.D⟩:TTr)
 let w:=(c.set f Q)
.reg 18 [] [(9,{ obs:=[(1,(eS 7 TTr.e w))] })] [.e c.length,.ev 0,.ev 1,.e c.length,.e c.length,.ev 2,.e c.length,.ev 0,.ev 1,.e c.length,.e c.length,.ev 2,.pf (z29 (sz:=7) (e:=TTr.e) (l:=c) (i:=f) (x:=Q) (fun _=>rfl))]<|
 let R:=[(TTape.b j.2),(eS 7 TTr.e w)]
.cst (A:=True) (.pf trivial) m [(5,(AV.ref 1 w.length 0 w.length))] R R (fun _=>⟨Zb,by rfl⟩)<|
.guard [w.length<2 ^ 63]<|
.reg 21 [] [] []<|
.frz 1 (.ev 0) none [4] []<|
.r (w,j.2)) (
.ite (j.1==6) (
.call (@F_q3_ok ([0,(-5),1000000000000,1000000000001]:List Int) j.2) fun ab ai=>
.guard [(0:Int)<=g.1,g.1.toNat<c.length,f<c.length]<|
 let S:=(⟨a.H,a.G,a.C,a.U,a.L,a.V,ab.1⟩:TTr)
 let y:=(c.set f S)
.reg 20 [] [(3,hv (vl ([0,(-5),1000000000000,1000000000001]:List Int))),(4,hc ai [0] false),(7,{ obs:=[(1,(eS 7 TTr.e y))] })] [.pf (z7 (DV.i .i64) ([0,(-5),1000000000000,1000000000001]:List Int)),.cl 3 ai [0] 2 false,.e c.length,.ev 0,.ev 1,.e c.length,.e c.length,.ev 2,.pf (z29 (sz:=7) (e:=TTr.e) (l:=c) (i:=f) (x:=S) (fun _=>rfl))]<|
 let T:=[(TTape.b ab.2),(eS 7 TTr.e y)]
.cst (A:=True) (.pf trivial) m [(5,(AV.ref 1 y.length 0 y.length))] T T (fun _=>⟨Zb,by rfl⟩)<|
.guard [y.length<2 ^ 63]<|
.reg 21 [] [] []<|
.frz 1 (.ev 0) none [4] []<|
.r (y,ab.2)) (
.guard [0<c.length,(0+0)<c.length,(c.length+1) * (2 * 72)<=2 ^ 48]<|
 let n:=([(c.getD (0+0) dF)]:List TTr)
.reg 6 [] [(4,hv (AV.d (eL TTr.e n))),(5,{ h:=.obj,cast:=some (AV.ref 1 ((c++n).length) 0 ((c++n).length)),obs:=[(1,(eS 7 TTr.e (c++n)))] })] [.e c.length,.pf (p:=(0:Int)<=0) dk,.ev 0,.e c.length,.ev 1,.pf (z7 TTr.e n),.e c.length,.e c.length,.pf (p:=∀ k,k<1->(TTr.d (n.getD k dF)).wd=7) (fun _ _=>rfl),.ev 2,.pf (zk (o:=1) (l:=c) (x:=n)),.pf (zj (sz:=7) (e:=TTr.e) (l:=c) (x:=n))]<|
.guard [(c++n).length<2 ^ 63]<|
.reg 21 [] [] []<|
.frz 1 (.ev 0) none [4] []<|
.r ((c++n),j.2)))))))))
def F_q31 (a:(List TTr)) (b:TTape):=(S_q31 a b).den
theorem F_q31_ok {a:(List TTr)} {c:TTape}:FO (F_q31 a c) 14 [(vp 0),(AV.d (eL TTr.e a))] [(TTape.b c)] (fun x=>(AV.d (eL TTr.e x.1))) (fun x=>[(TTape.b x.2)]):=fO (s:=S_q31 a c) Tryz.func14
def S_q17_b1 (d:Y8) (a:Int):SC Bool (Step Int Bool) :=
.ite (decide (a<(d.length:Int))) (
 let c:=((d.getD a.toNat 0).toNat:Int)
 let b:=(decide (c<32))
.guard [(0:Int)<=a,a.toNat<d.length,AllP [b=false]->((0:Int)<=a),AllP [b=false]->(a.toNat<d.length)]<|
.reg 6 [] [] [.ev 0,.ev 1,.ev 2,.ev 3]<|
.ite (cO b (decide (c>126))) (
.r (.ret false)) (
.r (.cont (i64.wrap (a+1))))) (
.r (.brk a))
def S_q17 (e:Y8):SC Bool Bool :=
 let a:=(e.length:Int)
 let b:=(cO (decide (a<1)) (decide (a>40)))
 let c:=(cO b (((e.getD 0 0).toNat:Int)==32))
 let d:=(i64.wrap (a-1))
.guard [AllP [b=false]->(0<e.length),AllP [c=false]->((0:Int)<=d),AllP [c=false]->(d.toNat<e.length)]<|
.reg 1 [] [] [.pf (p:=AllP [b=false]->((0:Int)<=0)) (fun _=>dk),.ev 0,.ev 1,.ev 2]<|
.ite (cO c (((e.getD d.toNat 0).toNat:Int)==32)) (
.r false) (
.iter [0] (fun (f:Int)=>[(3,(vi f))]) (fun _=>[]) 0 (S_q17_b1 e) (fun _ =>
.r true) id)
def F_q17 (a:Y8):=(S_q17 a).den
theorem F_q17_ok {a:Y8}:FO (F_q17 a) 164 [(AV.d (DV.str a))] [] vb NL:=fO (s:=S_q17 a) Tryz.func164
def S_q1y_b1 (b:(List THe)) (c:Y8) (a:Nat) (_:Unit):SC Bool (Step Unit Bool) :=
.reg 3 [] [] [.w a,.ev 0]<|
.ite (((b.getD a dF).B)==c) (
.r (.ret true)) (
.r (.cont ()))
def S_q1y (a:(List THe)) (b:Y8):SC Bool Bool :=
.range (a.length:Int) a.length rfl (.slot 7) 9 [1,7,8] (fun (_:Unit)=>[]) (fun _=>[]) () (S_q1y_b1 a b) (fun _ => 
.r false) id
def F_q1y (a:(List THe)) (b:Y8):=(S_q1y a b).den
theorem F_q1y_ok {a:(List THe)} {b:Y8}:FO (F_q1y a b) 149 [(AV.d (eL THe.e a)),(AV.d (DV.str b))] [] vb NL:=fO (s:=S_q1y a b) Tryz.func149
def S_q2l_b1 (l:(List THe)) (b:Nat) (_:Unit):SC (Int×Int) (Step Unit (Int×Int)) :=
.reg 5 [] [] [.w b,.ev 0]<|
 let c:=(l.getD b dF)
.a 6 2 1 (@F_qf_ok c.B) fun m=>
 let f:=(i64.wrap ((b:Int)+1))
.ite (!m) (
.r (.ret (f,5))) (
.a 8 2 1 (@F_q17_ok c.W) fun n=>
.ite (!n) (
.r (.ret (f,4))) (
 let d:=(decide ((b:Int)>0))
 let g:=(i64.wrap ((b:Int)-1))
.calld [d=true] dF (@F_qi_ok ((l.getD g.toNat dF).B) c.B) fun o h =>
.guard [AllP [d=true]->((0:Int)<=g),AllP [d=true]->(g.toNat<l.length)]<|
.reg 10 [] [(11,hc h [] true)] [.ev 0,.ev 1,.clg 2 [d=true] h [] 1 true]<|
.ite (bif d then (decide (o>=0)) else false) (
.r (.ret (f,8))) (
.call (@F_qq_ok c.B) fun p i=>
 let e:=(!(p==([])))
.calld [e=true] dF (@F_qq_ok c.B) fun q j =>
.calld [e=true] dF (@F_q1y_ok l q) fun s k =>
.reg 12 [] [(2,hc i [] true),(8,hc j [] true),(9,hc k [] true)] [.cl 4 i [] 1 true,.clg 2 [e=true] j [] 1 true,.clg 0 [e=true] k [] 1 true]<|
.ite (bif e then (!s) else false) (
.r (.ret (f,6))) (
.r (.cont ())))))
def S_q2l (a:(List THe)):SC (Int×Int) (Int×Int) :=
.ite (decide ((a.length:Int)>60)) (
.r (0,3)) (
.range (a.length:Int) a.length rfl (.slot 0) 11 [0,9,10] (fun (_:Unit)=>[]) (fun _=>[]) () (S_q2l_b1 a) (fun _ => 
.r (0,0)) id)
def F_q2l (a:(List THe)):=(S_q2l a).den
theorem F_q2l_ok {a:(List THe)}:FO (F_q2l a) 146 [(AV.d (eL THe.e a))] [] (fun x=>(AV.tup [(vi x.1),(vi x.2)])) NL:=fO (s:=S_q2l a) Tryz.func146
def S_q4t (c:(List THe)):SC Int Int :=
.a 1 1 0 (@F_q2l_ok c) fun b=>
.r b.2
def F_q4t (a:(List THe)):=(S_q4t a).den
theorem F_q4t_ok {a:(List THe)}:FO (F_q4t a) 102 [(AV.d (eL THe.e a))] [] vi NL:=fO (s:=S_q4t a) Tryz.func102
def S_q1z_b1 (c:TLa) (a:Nat) (_:Unit):SC Int (Step Unit Int) :=
.reg 5 [] [(2,{ obs:=[(1,(TAm.b (⟨0,0,[]⟩:TAm)))] })] [.w a,.ev 0,.pf cz1]<|
.ite (decide ((((c.A.getD a dF).Q).length:Int)>20)) (
.r (.ret 3)) (
.r (.cont ()))
def S_q1z (a:TLa):SC Int Int :=
.ite (cO (cO (cO (cO (cO (cO (decide ((a.P.length:Int)>120)) (decide ((a.J.length:Int)>60))) (decide ((a.O.length:Int)>60))) (decide ((a.K.length:Int)>20))) (decide ((a.M.length:Int)>20))) (decide ((a.N.length:Int)>20))) (decide ((a.A.length:Int)>20))) (
.r 3) (
.range (a.A.length:Int) a.A.length rfl (.slot 46) 48 [46,47] (fun (_:Unit)=>[]) (fun _=>[]) () (S_q1z_b1 a) (fun _ => 
.r 0) id)
def F_q1z (a:TLa):=(S_q1z a).den
theorem F_q1z_ok {a:TLa}:FO (F_q1z a) 103 [(TLa.d a)] [] vi NL:=fO (s:=S_q1z a) Tryz.func103
def S_q20 (c:TLa) (d:Y8):SC Bool Bool :=
.a 1 3 1 (@F_q1y_ok c.F d) fun b=>
.r b
def F_q20 (a:TLa) (b:Y8):=(S_q20 a b).den
theorem F_q20_ok {a:TLa} {b:Y8}:FO (F_q20 a b) 110 [(TLa.d a),(AV.d (DV.str b))] [] vb NL:=fO (s:=S_q20 a b) Tryz.func110
def S_ql_b1 (d:TLa) (e:Y8) (b:Nat) (_:Unit):SC Bool (Step Unit Bool) :=
.reg 5 [] [] [.w b,.ev 0]<|
.a 6 2 2 (@F_qq_ok ((d.F.getD b dF).B)) fun c=>
.ite (c==e) (
.r (.ret false)) (
.r (.cont ()))
def S_ql (d:TLa) (e:Y8):SC Bool Bool :=
.call (@F_qf_ok e) fun a b=>
.calld [(!a)=false] dF (@F_q20_ok d e) fun f c =>
.reg 1 [] [(1,hc b [] true),(6,hc c [] true)] [.cl 2 b [] 1 true,.clg 0 [(!a)=false] c [] 1 true]<|
.ite (cO (!a) (!f)) (
.r false) (
.range (d.F.length:Int) d.F.length rfl (.slot 17) 19 [1,17,18] (fun (_:Unit)=>[]) (fun _=>[]) () (S_ql_b1 d e) (fun _ => 
.r true) id)
def F_ql (a:TLa) (b:Y8):=(S_ql a b).den
theorem F_ql_ok {a:TLa} {b:Y8}:FO (F_ql a b) 60 [(TLa.d a),(AV.d (DV.str b))] [] vb NL:=fO (s:=S_ql a b) Tryz.func60
def S_q2m (a:TLa) (b:Int):SC Bool Bool :=
.r (bif (bif (decide (a.I>0)) then (decide (b>=a.E)) else false) then (decide ((IntKind.u64.wrap ((IntKind.u64.wrap b)-(IntKind.u64.wrap a.E)))<(IntKind.u64.wrap a.I))) else false)
def F_q2m (a:TLa) (b:Int):=(S_q2m a b).den
theorem F_q2m_ok {a:TLa} {b:Int}:FO (F_q2m a b) 61 [(TLa.d a),(vi b)] [] vb NL:=fO (s:=S_q2m a b) Tryz.func61
def S_q2n (a:Int):SC Bool Bool :=
.r (bif (decide (a>=0)) then (decide (a<=1000000000000)) else false)
def F_q2n (a:Int):=(S_q2n a).den
theorem F_q2n_ok {a:Int}:FO (F_q2n a) 111 [(vi a)] [] vb NL:=fO (s:=S_q2n a) Tryz.func111
def S_q3g (c:Y8) (d:Int) (e:Y8) (f:Int):SC Bool Bool :=
.a 1 2 0 (@F_qi_ok c e) fun b=>
.r (cO (decide (b<0)) (bif (b==0) then (decide (d<f)) else false))
def F_q3g (a:Y8) (b:Int) (c:Y8) (d:Int):=(S_q3g a b c d).den
theorem F_q3g_ok {a:Y8} {b:Int} {c:Y8} {e:Int}:FO (F_q3g a b c e) 147 [(AV.d (DV.str a)),(vi b),(AV.d (DV.str c)),(vi e)] [] vb NL:=fO (s:=S_q3g a b c e) Tryz.func147
def S_q21_b1 (f:TLa) (d:Nat) (_:Unit):SC Int (Step Unit Int) :=
.reg 3 [] [] [.w d,.ev 0]<|
 let b:=(f.P.getD d dF)
.a 4 3 2 (@F_ql_ok f b.B) fun i=>
.ite (!i) (
.r (.ret 5)) (
.a 6 3 2 (@F_q2m_ok f b.C) fun j=>
.ite (!j) (
.r (.ret 16)) (
.a 8 2 2 (@F_q2n_ok b.D) fun k=>
.ite (!k) (
.r (.ret 2)) (
 let e:=(i64.wrap ((d:Int)-1))
 let c:=(decide ((d:Int)>0))
 let g:=(f.P.getD e.toNat dF)
.calld [c=true] dF (@F_q3g_ok g.B g.C b.B b.C) fun l h =>
.guard [AllP [c=true]->((0:Int)<=e),AllP [c=true]->(e.toNat<f.P.length)]<|
.reg 10 [] [(21,hc h [] true)] [.ev 0,.ev 1,.ev 0,.ev 1,.clg 2 [c=true] h [] 2 true]<|
.ite (bif c then (!l) else false) (
.r (.ret 8)) (
.r (.cont ())))))
def S_q21 (a:TLa):SC Int Int :=
.range (a.P.length:Int) a.P.length rfl (.slot 6) 8 [1,6,7] (fun (_:Unit)=>[]) (fun _=>[]) () (S_q21_b1 a) (fun _ => 
.r 0) id
def F_q21 (a:TLa):=(S_q21 a).den
theorem F_q21_ok {a:TLa}:FO (F_q21 a) 104 [(TLa.d a)] [] vi NL:=fO (s:=S_q21 a) Tryz.func104
def S_q18_b1 (o:TLa) (j:(List TBo)) (d:Nat) (_:Unit):SC Int (Step Unit Int) :=
.reg 3 [] [] [.w d,.ev 0]<|
 let b:=(j.getD d dF)
.a 4 3 2 (@F_q20_ok o b.B) fun k=>
.ite (!k) (
.r (.ret 5)) (
 let e:=(b.C != (-1))
.calld [e=true] dF (@F_q2m_ok o b.C) fun l g =>
.reg 6 [] [(7,hc g [] true)] [.clg 0 [e=true] g [] 2 true]<|
.ite (bif e then (!l) else false) (
.r (.ret 16)) (
.a 8 2 2 (@F_q2n_ok b.D) fun m=>
.ite (!m) (
.r (.ret 2)) (
 let f:=(i64.wrap ((d:Int)-1))
 let c:=(decide ((d:Int)>0))
 let h:=(j.getD f.toNat dF)
.calld [c=true] dF (@F_q3g_ok h.B h.C b.B b.C) fun n i =>
.guard [AllP [c=true]->((0:Int)<=f),AllP [c=true]->(f.toNat<j.length)]<|
.reg 10 [] [(19,hc i [] true)] [.ev 0,.ev 1,.ev 0,.ev 1,.clg 2 [c=true] i [] 2 true]<|
.ite (bif c then (!n) else false) (
.r (.ret 8)) (
.r (.cont ())))))
def S_q18 (b:TLa) (a:(List TBo)):SC Int Int :=
.range (a.length:Int) a.length rfl (.slot 1) 9 [1,2,7,8] (fun (_:Unit)=>[]) (fun _=>[]) () (S_q18_b1 b a) (fun _ => 
.r 0) id
def F_q18 (a:TLa) (b:(List TBo)):=(S_q18 a b).den
theorem F_q18_ok {a:TLa} {b:(List TBo)}:FO (F_q18 a b) 105 [(TLa.d a),(AV.d (eL TBo.e b))] [] vi NL:=fO (s:=S_q18 a b) Tryz.func105
def S_q9_b1 (e:TLa) (b:Nat) (_:Unit):SC Int (Step Unit Int) :=
.reg 3 [] [] [.w b,.ev 0]<|
 let a:=(e.K.getD b dF)
.call (@F_q20_ok e a.S) fun c f=>
.calld [(!c)=false] dF (@F_ql_ok e a.B) fun l g =>
.reg 4 [] [(3,hc f [] true),(9,hc g [] true)] [.cl 2 f [] 2 true,.clg 0 [(!c)=false] g [] 2 true]<|
.ite (cO (!c) (!l)) (
.r (.ret 5)) (
.ite (cO (decide (a.T<0)) (decide (a.T>100))) (
.r (.ret 2)) (
.ite (decide ((b:Int)>0)) (
 let d:=(i64.wrap ((b:Int)-1))
.guard [(0:Int)<=d,d.toNat<e.K.length]<|
.reg 9 [] [] [.ev 0,.ev 1]<|
 let h:=(e.K.getD d.toNat dF)
.call (@F_qi_ok h.S a.S) fun i j=>
.call (@F_qi_ok h.B a.B) fun m k=>
.reg 10 [] [(4,hc j [] true),(9,hc k [] true)] [.cl 1 j [] 3 true,.cl 0 k [] 3 true]<|
.ite (cO (decide (i>0)) (bif (i==0) then (decide (m>=0)) else false)) (
.r (.ret 8)) (
.r (.cont ()))) (
.r (.cont ()))))
def S_q9_b2 (i:TLa) (g:R_q4) (h:Nat) (b:Nat) (d:Int):SC Int (Step Int Int) :=
.reg 20 [] [] [.w b,.ev 0]<|
 let e:=(i.K.getD b dF)
.a 21 3 2 (@F_qj_ok (g.getD h dF) e.S) fun f=>
.ite f (
.r (.cont (i64.wrap (d+e.T)))) (
.c d)
def S_q9_b3 (c:TLa) (d:R_q4) (b:Nat) (_:Unit):SC Int (Step Unit Int) :=
.reg 16 [] [] [.w b,.ev 0]<|
.range (c.K.length:Int) c.K.length rfl (.slot 81) 83 [1,9,74,75,76,81,82] (fun (a:Int)=>[(10,(vi a))]) (fun _=>[]) 0 (S_q9_b2 c d b) (fun a => 
.ite (decide (a>100)) (
.r (.ret 13)) (
.r (.cont ()))) .ret
def S_q9 (c:TLa):SC Int Int :=
.range (c.K.length:Int) c.K.length rfl (.slot 14) 16 [1,14,15] (fun (_:Unit)=>[]) (fun _=>[]) () (S_q9_b1 c) (fun _ => 
.a 14 2 1 (@F_q4_ok c.F ([])) fun b=>
.range (b.length:Int) b.length rfl (.slot 74) 76 [1,74,75] (fun (_:Unit)=>[]) (fun _=>[]) () (S_q9_b3 c b) (fun _ => 
.r 0) id) id
def F_q9 (a:TLa):=(S_q9 a).den
theorem F_q9_ok {a:TLa}:FO (F_q9 a) 106 [(TLa.d a)] [] vi NL:=fO (s:=S_q9 a) Tryz.func106
def S_q22_b1 (j:TLa) (e:Nat) (_:Unit):SC Int (Step Unit Int) :=
.reg 3 [] [] [.w e,.ev 0]<|
 let b:=(j.M.getD e dF)
.ite (cO (cO (bif (!(b.R==1)) then (!(b.R==2)) else false) (bif (b.R==1) then (cO (!(b.S==([]))) (b.X != 0)) else false)) (bif (b.R==2) then (b.G != 0) else false)) (
.r (.ret 1)) (
.call (@F_ql_ok j b.B) fun c f=>
.calld [(b.R==2)=true,(!c)=false] dF (@F_q20_ok j b.S) fun k g =>
.reg 7 [] [(3,hc f [] true),(11,hc g [] true)] [.cl 2 f [] 2 true,.clg 0 [(b.R==2)=true,(!c)=false] g [] 2 true]<|
.ite (cO (!c) (bif (b.R==2) then (!k) else false)) (
.r (.ret 5)) (
.a 9 3 2 (@F_q2m_ok j b.C) fun l=>
.ite (!l) (
.r (.ret 16)) (
.call (@F_q2n_ok b.D) fun d h=>
.calld [(!d)=false] dF (@F_q2n_ok b.X) fun m i =>
.reg 11 [] [(2,hc h [] true),(7,hc i [] true)] [.cl 2 h [] 2 true,.clg 0 [(!d)=false] i [] 2 true]<|
.ite (cO (cO (cO (!d) (!m)) (decide (b.G<0))) (decide (b.G>35990))) (
.r (.ret 2)) (
.r (.cont ())))))
def S_q22 (a:TLa):SC Int Int :=
.range (a.M.length:Int) a.M.length rfl (.slot 8) 10 [1,8,9] (fun (_:Unit)=>[]) (fun _=>[]) () (S_q22_b1 a) (fun _ => 
.r 0) id
def F_q22 (a:TLa):=(S_q22 a).den
theorem F_q22_ok {a:TLa}:FO (F_q22 a) 107 [(TLa.d a)] [] vi NL:=fO (s:=S_q22 a) Tryz.func107
def S_q23_b1 (f:TLa) (b:Nat) (_:Unit):SC Int (Step Unit Int) :=
.reg 3 [] [] [.w b,.ev 0]<|
 let a:=(f.N.getD b dF)
.ite (cO (cO (cO (decide (a.H<1)) (decide (a.H>1000000))) (decide (a.T<0))) (decide (a.T>100))) (
.r (.ret 2)) (
.call (@F_q20_ok f a.L) fun c g=>
.calld [(!c)=false] dF (@F_q20_ok f a.V) fun i h =>
.reg 6 [] [(3,hc g [] true),(9,hc h [] true)] [.cl 2 g [] 2 true,.clg 0 [(!c)=false] h [] 2 true]<|
.ite (cO (!c) (!i)) (
.r (.ret 5)) (
 let d:=(i64.wrap ((b:Int)-1))
 let e:=(decide ((b:Int)>0))
.guard [AllP [e=true]->((0:Int)<=d),AllP [e=true]->(d.toNat<f.N.length)]<|
.reg 8 [] [] [.ev 0,.ev 1]<|
.ite (bif e then (decide (((f.N.getD d.toNat dF).H)>=a.H)) else false) (
.r (.ret 8)) (
.r (.cont ()))))
def S_q23 (a:TLa):SC Int Int :=
.range (a.N.length:Int) a.N.length rfl (.slot 6) 8 [1,6,7] (fun (_:Unit)=>[]) (fun _=>[]) () (S_q23_b1 a) (fun _ => 
.r 0) id
def F_q23 (a:TLa):=(S_q23 a).den
theorem F_q23_ok {a:TLa}:FO (F_q23 a) 108 [(TLa.d a)] [] vi NL:=fO (s:=S_q23 a) Tryz.func108
def S_q2o_b1 (o:TLa) (p:(List TCh)) (f:Nat) (_:Unit):SC Int (Step Unit Int) :=
.reg 3 [] [] [.w f,.ev 0]<|
 let b:=(p.getD f dF)
.ite (cO (decide (b.R<1)) (decide (b.R>3))) (
.r (.ret 1)) (
.call (@F_q20_ok o b.B) fun h l=>
.calld [(b.R==1)=true,(!h)=false] dF (@F_ql_ok o b.B) fun q m =>
.reg 7 [] [(3,hc l [] true),(11,hc m [] true)] [.cl 2 l [] 2 true,.clg 0 [(b.R==1)=true,(!h)=false] m [] 2 true]<|
.ite (cO (!h) (bif (b.R==1) then (!q) else false)) (
.r (.ret 5)) (
.a 9 3 2 (@F_q2m_ok o b.C) fun s=>
.ite (bif (!s) then (cO (b.R==1) (b.C != (-1))) else false) (
.r (.ret 16)) (
.a 11 2 2 (@F_q2n_ok b.D) fun t=>
.ite (bif (!t) then (cO (b.R != 2) (b.D != (-1))) else false) (
.r (.ret 2)) (
 let i:=(i64.wrap ((f:Int)-1))
 let g:=(p.getD i.toNat dF)
 let c:=(decide ((f:Int)>0))
 let d:=(decide (g.R>b.R))
 let e:=(g.R==b.R)
.calld [e=true,d=false,c=true] dF (@F_q3g_ok g.B g.C b.B b.C) fun u n =>
 let j:=(i.toNat<p.length)
 let k:=((0:Int)<=i)
.guard [AllP [c=true]->k,AllP [c=true]->j,AllP [d=false,c=true]->k,AllP [d=false,c=true]->j,AllP [e=true,d=false,c=true]->k,AllP [e=true,d=false,c=true]->j]<|
.reg 13 [] [(39,hc n [] true)] [.ev 0,.ev 1,.ev 2,.ev 3,.ev 4,.ev 5,.ev 4,.ev 5,.clg 6 [e=true,d=false,c=true] n [] 2 true]<|
.ite (bif c then (cO d (bif e then (!u) else false)) else false) (
.r (.ret 8)) (
.r (.cont ()))))))
def S_q2o (b:TLa) (a:(List TCh)):SC Int Int :=
.range (a.length:Int) a.length rfl (.slot 1) 10 [1,2,8,9] (fun (_:Unit)=>[]) (fun _=>[]) () (S_q2o_b1 b a) (fun _ => 
.r 0) id
def F_q2o (a:TLa) (b:(List TCh)):=(S_q2o a b).den
theorem F_q2o_ok {a:TLa} {b:(List TCh)}:FO (F_q2o a b) 148 [(TLa.d a),(AV.d (eL TCh.e b))] [] vi NL:=fO (s:=S_q2o a b) Tryz.func148
end
end Go.Proofs.YtbmpcbbimefmoaaGreatDoor
