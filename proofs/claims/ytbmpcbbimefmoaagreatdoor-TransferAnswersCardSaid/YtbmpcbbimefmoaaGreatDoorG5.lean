/- A part of the proof: what the functions compute, and that their calls return it. No condition. -/
import Derived.Test.YtbmpcbbimefmoaaGreatDoorG4
/- What the functions compute, and that their calls return it. No condition. -/
namespace Go.Proofs.YtbmpcbbimefmoaaGreatDoor
open Go Go.TA
open Go.IntKind (i64)
noncomputable section
set_option maxRecDepth 100000
set_option maxHeartbeats 2000000
def S_q24_b1 (m:TLa) (f:Nat) (_:Unit):SC Int (Step Unit Int) :=
.reg 3 [] [(3,{ obs:=[(1,(TAm.b (⟨0,0,[]⟩:TAm)))] })] [.w f,.ev 0,.pf cz1]<|
 let c:=(m.A.getD f dF)
.ite (cO (cO (cO (decide (c.G<0)) (decide (c.G>35990))) (decide (c.H<1))) (decide (c.H>1000000))) (
.r (.ret 2)) (
 let g:=(i64.wrap ((f:Int)-1))
 let h:=(m.A.getD g.toNat dF)
 let d:=(decide ((f:Int)>0))
 let e:=(decide (h.G>c.G))
 let i:=(g.toNat<m.A.length)
 let j:=(h.G==c.G)
 let k:=((0:Int)<=g)
.guard [AllP [d=true]->k,AllP [d=true]->i,AllP [e=false,d=true]->k,AllP [e=false,d=true]->i,AllP [j=true,e=false,d=true]->k,AllP [j=true,e=false,d=true]->i]<|
.reg 6 [] [] [.ev 0,.ev 1,.ev 2,.ev 3,.ev 4,.ev 5]<|
.ite (bif d then (cO e (bif j then (decide (h.H>=c.H)) else false)) else false) (
.r (.ret 8)) (
.ite ((c.Q.length:Int)==0) (
.r (.ret 1)) (
.a 10 3 2 (@F_q2o_ok m c.Q) fun l=>
.ite (l != 0) (
.r (.ret l)) (
.r (.cont ())))))
def S_q24 (a:TLa):SC Int Int :=
.range (a.A.length:Int) a.A.length rfl (.slot 7) 9 [1,7,8] (fun (_:Unit)=>[]) (fun _=>[]) () (S_q24_b1 a) (fun _ => 
.r 0) id
def F_q24 (a:TLa):=(S_q24 a).den
theorem F_q24_ok {a:TLa}:FO (F_q24 a) 109 [(TLa.d a)] [] vi NL:=fO (s:=S_q24 a) Tryz.func109
def S_q25_b1 (c:Int) (d:Int) (e:Int) (f:Int) (g:Int) (h:Int) (i:Int) (j:Int) (a:Nat) (_:Unit):SC Int (Step Unit Int) :=
.reg 8 [] [] [.w a,.ev 0]<|
 let b:=(([c,d,e,f,g,h,i,j]:List Int).getD a dF)
.ite (b != 0) (
.r (.ret b)) (
.r (.cont ()))
def S_q25 (b:TLa):SC Int Int :=
.ite (cO (cO (cO (cO (decide (b.E<0)) (decide (b.E>99))) (decide (b.I<1))) (decide (b.I>4))) (decide ((i64.wrap ((i64.wrap (b.E+b.I))-1))>99))) (
.r 2) (
.a 3 2 1 (@F_q4t_ok b.F) fun c=>
.ite (c != 0) (
.r c) (
.call (@F_q1z_ok b) fun d e=>
.call (@F_q21_ok b) fun f g=>
.call (@F_q18_ok b b.J) fun h j=>
.call (@F_q18_ok b b.O) fun k l=>
.call (@F_q9_ok b) fun m n=>
.call (@F_q22_ok b) fun o q=>
.call (@F_q23_ok b) fun s t=>
.call (@F_q24_ok b) fun u v=>
 let w:=([d,f,h,k,m,o,s,u]:List Int)
.reg 6 [] [(1,hc e [] true),(3,hc g [] true),(7,hc j [] true),(11,hc l [] true),(13,hc n [] true),(15,hc q [] true),(17,hc t [] true),(19,hc v [] true),(20,hv (vl w))] [.cl 7 e [] 1 true,.cl 6 g [] 1 true,.cl 5 j [] 1 true,.cl 4 l [] 1 true,.cl 3 n [] 1 true,.cl 2 q [] 1 true,.cl 1 t [] 1 true,.cl 0 v [] 1 true,.pf (z7 (DV.i .i64) w)]<|
.range 8 8 rfl (.why (.pf (p:=8<2 ^ 63) dk)) 61 [59,60] (fun (_:Unit)=>[]) (fun _=>[]) () (S_q25_b1 d f h k m o s u) (fun _ => 
.r 0) id))
def F_q25 (a:TLa):=(S_q25 a).den
theorem F_q25_ok {a:TLa}:FO (F_q25 a) 59 [(TLa.d a)] [] vi NL:=fO (s:=S_q25 a) Tryz.func59
def S_q3s (a:TTr) (b:TTr):SC Bool Bool :=
.r (cO (decide (a.G<b.G)) (bif (a.G==b.G) then (decide (a.H<b.H)) else false))
def F_q3s (a:TTr) (b:TTr):=(S_q3s a b).den
theorem F_q3s_ok {a:TTr} {b:TTr}:FO (F_q3s a b) 50 [(TTr.d a),(TTr.d b)] [] vb NL:=fO (s:=S_q3s a b) Tryz.func50
def S_q12_b1 (c:(List TTr)) (a:Int):SC Int (Step Int Int) :=
.ite (decide (a<(c.length:Int))) (
 let b:=(i64.wrap (a-1))
.call (@F_q3s_ok (c.getD b.toNat dF) (c.getD a.toNat dF)) fun e d=>
.guard [(0:Int)<=b,b.toNat<c.length,(0:Int)<=a,a.toNat<c.length]<|
.reg 9 [] [(9,hc d [] true)] [.ev 0,.ev 1,.ev 2,.ev 3,.cl 4 d [] 1 true]<|
.ite (!e) (
.r (.ret 8)) (
.r (.cont (i64.wrap (a+1))))) (
.r (.brk a))
def S_q12 (e:TLa) (d:(List TTr)):SC Int Int :=
.a 1 1 1 (@F_q25_ok e) fun b=>
.ite (b != 0) (
.r b) (
.ite (decide ((d.length:Int)>60)) (
.r 3) (
.iter [1] (fun (c:Int)=>[(6,(vi c))]) (fun _=>[]) 1 (S_q12_b1 d) (fun _ =>
.r 0) id))
def F_q12 (a:TLa) (b:(List TTr)):=(S_q12 a b).den
theorem F_q12_ok {a:TLa} {b:(List TTr)}:FO (F_q12 a b) 38 [(TLa.d a),(AV.d (eL TTr.e b))] [] vi NL:=fO (s:=S_q12 a b) Tryz.func38
def S_q32 (a:Int):SC Bool Bool :=
.r (bif (decide (a>=0)) then (decide (a<=36000)) else false)
def F_q32 (a:Int):=(S_q32 a).den
theorem F_q32_ok {a:Int}:FO (F_q32 a) 72 [(vi a)] [] vb NL:=fO (s:=S_q32 a) Tryz.func72
def S_q33 (c:Int):SC Int Int :=
.a 1 1 0 (@F_q32_ok c) fun b=>
.ite (!b) (
.r (-1)) (
.reg 3 [] [] [.pf (p:=(360:Int)≠0) dk]<|
.r (i64.wrap (c.tdiv 360)))
def F_q33 (a:Int):=(S_q33 a).den
theorem F_q33_ok {a:Int}:FO (F_q33 a) 62 [(vi a)] [] vi NL:=fO (s:=S_q33 a) Tryz.func62
abbrev R_q2p:=(List TBo)
def S_q2p_b1 (i:(List TLi)) (g:Nat) (a:(List TBo)):SC R_q2p (Step ((List TBo)) R_q2p) :=
.reg 4 [] [] [.w g,.ev 0]<|
.guard [(a.length+1) * (2 * 32)<=2 ^ 48]<|
 let f:=(i.getD g dF)
 let b:=([(⟨f.B,f.C,f.D⟩:TBo)]:List TBo)
.reg 5 [] [(8,hv (AV.d (eL TBo.e b))),(9,{ h:=.obj,cast:=some (AV.ref 0 ((a++b).length) 0 ((a++b).length)),obs:=[(0,(eS 3 TBo.e (a++b)))] })] [.pf (z7 TBo.e b),.e a.length,.e a.length,.pf (p:=∀ k,k<1->(TBo.d (b.getD k dF)).wd=3) (fun _ _=>rfl),.ev 0,.pf (zk (o:=0) (l:=a) (x:=b)),.pf (zj (sz:=3) (e:=TBo.e) (l:=a) (x:=b))]<|
.c (a++b)
def S_q2p (b:(List TLi)):SC R_q2p R_q2p :=
.reg 2 [] [] []<|
.bor 3 (fun j=>AV.d (TBo.e (([]:List TBo).getD j dF))) [3]<|
.range (b.length:Int) b.length rfl (.slot 6) 8 [6,7] (fun (a:(List TBo))=>[(3,(AV.ref 0 a.length 0 a.length))]) (fun a=>[(0,(eS 3 TBo.e a))]) ([]:List TBo) (S_q2p_b1 b) (fun a => 
.guard [a.length<2 ^ 63]<|
.reg 7 [] [] []<|
.frz 0 (.ev 0) none [2] []<|
.r a) id
def F_q2p (a:(List TLi)):=(S_q2p a).den
theorem F_q2p_ok {a:(List TLi)}:FO (F_q2p a) 120 [(AV.d (eL TLi.e a))] [] (fun x=>(AV.d (eL TBo.e x))) NL:=fO (s:=S_q2p a) Tryz.func120
abbrev R_q2q:=Int×Bool
def S_q2q_b1 (f:(List TBo)) (g:Y8) (e:Int) (b:Nat) (_:Unit):SC R_q2q (Step Unit R_q2q) :=
.reg 3 [] [] [.w b,.ev 0]<|
 let c:=(f.getD b dF)
.a 4 3 1 (@F_qi_ok c.B g) fun d=>
.ite (cO (decide (d>0)) (bif (d==0) then (decide (c.C>=e)) else false)) (
.r (.ret ((b:Int),(bif (d==0) then (c.C==e) else false)))) (
.r (.cont ()))
def S_q2q (a:(List TBo)) (b:Y8) (c:Int):SC R_q2q R_q2q :=
.range (a.length:Int) a.length rfl (.slot 0) 13 [0,1,2,11,12] (fun (_:Unit)=>[]) (fun _=>[]) () (S_q2q_b1 a b c) (fun _ => 
.r ((a.length:Int),false)) id
def F_q2q (a:(List TBo)) (b:Y8) (c:Int):=(S_q2q a b c).den
theorem F_q2q_ok {a:(List TBo)} {b:Y8} {c:Int}:FO (F_q2q a b c) 156 [(AV.d (eL TBo.e a)),(AV.d (DV.str b)),(vi c)] [] (fun x=>(AV.tup [(vi x.1),(vb x.2)])) NL:=fO (s:=S_q2q a b c) Tryz.func156
def S_q3h (m:(List TBo)) (n:TCh) (q:Int):SC (List TBo) (List TBo) :=
.a 1 5 1 (@F_q2q_ok m n.B n.C) fun i=>
 let c:=(m.take i.1.toNat)
.guard [(0:Int)<=i.1,i.1.toNat<=m.length,c.length * (2 * 32)<=2 ^ 48]<|
.reg 2 [] [(3,hv (AV.d (eL TBo.e c))),(4,{ h:=.obj })] [.ev 0,.ev 1,.der (fun (h0:i.1.toNat<=m.length)=>lvT TBo.e m h0) 1,.pf (p:=∀ k,k<c.length->(TBo.d (c.getD k dF)).wd=3) (fun _ _=>rfl),.ev 2]<|
.cut none [0,7,8] (fun (b:(List TBo))=>[(9,(AV.ref 1 b.length 0 b.length))]) (fun b=>[(1,(eS 3 TBo.e b))]) (
.ite (n.D != q) (
.guard [(c.length+1) * (2 * 32)<=2 ^ 48]<|
 let g:=([(⟨n.B,n.C,n.D⟩:TBo)]:List TBo)
.reg 4 [] [(8,hv (AV.d (eL TBo.e g))),(9,{ h:=.obj,cast:=some (AV.ref 1 ((c++g).length) 0 ((c++g).length)),obs:=[(1,(eS 3 TBo.e (c++g)))] })] [.pf (z7 TBo.e g),.e c.length,.e c.length,.pf (p:=∀ k,k<1->(TBo.d (g.getD k dF)).wd=3) (fun _ _=>rfl),.ev 0,.pf (zk (o:=1) (l:=c) (x:=g)),.pf (zj (sz:=3) (e:=TBo.e) (l:=c) (x:=g))]<|
.r (.next (c++g))) (
.r (.next c))) fun b=>
.cut none [0,9] (fun (j:Int)=>[(7,(vi j))]) (fun _=>[]) (
.ite i.2 (
.r (.next (i64.wrap (i.1+1)))) (
.r (.next i.1))) fun j=>
 let f:=(m.drop j.toNat)
.guard [(0:Int)<=j,j.toNat<=m.length,(b.length+f.length) * (2 * 32)<=2 ^ 48]<|
.reg 7 [] [(3,hv (AV.d (eL TBo.e f))),(4,{ cast:=some (AV.ref 1 ((b++f).length) 0 ((b++f).length)),obs:=[(1,(eS 3 TBo.e (b++f)))] })] [.ev 0,.ev 1,.pf (lvD TBo.e m j.toNat),.e b.length,.e b.length,.pf (p:=∀ k,k<f.length->(TBo.d (f.getD k dF)).wd=3) (fun _ _=>rfl),.ev 2,.pf (zk (o:=1) (l:=b) (x:=f)),.pf (zj (sz:=3) (e:=TBo.e) (l:=b) (x:=f))]<|
.guard [(b++f).length<2 ^ 63]<|
.frz 1 (.ev 0) none [6] []<|
.r (b++f)
def F_q3h (a:(List TBo)) (b:TCh) (c:Int):=(S_q3h a b c).den
theorem F_q3h_ok {a:(List TBo)} {b:TCh} {c:Int}:FO (F_q3h a b c) 121 [(AV.d (eL TBo.e a)),(TCh.d b),(vi c)] [] (fun x=>(AV.d (eL TBo.e x))) NL:=fO (s:=S_q3h a b c) Tryz.func121
abbrev R_q2r:=(List TLi)
def S_q2r_b1 (i:(List TBo)) (g:Nat) (a:(List TLi)):SC R_q2r (Step ((List TLi)) R_q2r) :=
.reg 4 [] [] [.w g,.ev 0]<|
.guard [(a.length+1) * (2 * 32)<=2 ^ 48]<|
 let f:=(i.getD g dF)
 let b:=([(⟨f.B,f.C,f.D⟩:TLi)]:List TLi)
.reg 5 [] [(8,hv (AV.d (eL TLi.e b))),(9,{ h:=.obj,cast:=some (AV.ref 0 ((a++b).length) 0 ((a++b).length)),obs:=[(0,(eS 3 TLi.e (a++b)))] })] [.pf (z7 TLi.e b),.e a.length,.e a.length,.pf (p:=∀ k,k<1->(TLi.d (b.getD k dF)).wd=3) (fun _ _=>rfl),.ev 0,.pf (zk (o:=0) (l:=a) (x:=b)),.pf (zj (sz:=3) (e:=TLi.e) (l:=a) (x:=b))]<|
.c (a++b)
def S_q2r (b:(List TBo)):SC R_q2r R_q2r :=
.reg 2 [] [] []<|
.bor 3 (fun j=>AV.d (TLi.e (([]:List TLi).getD j dF))) [3]<|
.range (b.length:Int) b.length rfl (.slot 6) 8 [6,7] (fun (a:(List TLi))=>[(3,(AV.ref 0 a.length 0 a.length))]) (fun a=>[(0,(eS 3 TLi.e a))]) ([]:List TLi) (S_q2r_b1 b) (fun a => 
.guard [a.length<2 ^ 63]<|
.reg 7 [] [] []<|
.frz 0 (.ev 0) none [2] []<|
.r a) id
def F_q2r (a:(List TBo)):=(S_q2r a).den
theorem F_q2r_ok {a:(List TBo)}:FO (F_q2r a) 122 [(AV.d (eL TBo.e a))] [] (fun x=>(AV.d (eL TLi.e x))) NL:=fO (s:=S_q2r a) Tryz.func122
def S_q26_b1 (f:(List TCh)) (d:Nat) (b:TLa×(List TBo)):SC (TLa×Int) (Step (TLa×(List TBo)) (TLa×Int)) :=
.guard [(0+d)<f.length]<|
.reg 4 [] [] [.e f.length,.w d,.ev 1,.e f.length,.ev 0]<|
 let c:=(f.getD (0+d) dF)
.ite (c.R==1) (
.a 8 2 4 (@F_q3h_ok b.2 c 0) fun g=>
.r (.cont (b.1,g))) (
.ite (c.R==2) (
.a 10 3 4 (@F_q3h_ok b.1.J c (-1)) fun h=>
.r (.cont ((⟨b.1.E,b.1.I,b.1.F,b.1.P,h,b.1.O,b.1.K,b.1.M,b.1.N,b.1.A⟩:TLa),b.2))) (
.a 6 3 4 (@F_q3h_ok b.1.O c 0) fun i=>
.r (.cont ((⟨b.1.E,b.1.I,b.1.F,b.1.P,b.1.J,i,b.1.K,b.1.M,b.1.N,b.1.A⟩:TLa),b.2))))
def S_q26 (j:TLa) (h:(List TCh)):SC (TLa×Int) (TLa×Int) :=
 let f:=(⟨0,0,[],[],[],[],[],[],[],[]⟩:TLa)
.reg 0 [] [(1,{ obs:=[(2,(TLa.b f))] })] [.pf cz2]<|
.a 1 2 3 (@F_q2p_ok j.P) fun i=>
.guard [h.length<2 ^ 63]<|
.range (h.length:Int) h.length rfl (.why (.ev 0)) 14 [2,4,12,13] (fun (c:TLa×(List TBo))=>[(6,(AV.d (eL TBo.e c.2)))]) (fun c=>[(1,(TLa.b c.1))]) (j,i) (S_q26_b1 h) (fun c => 
.a 12 1 3 (@F_q2r_ok c.2) fun g=>
.ite (cO (cO (decide ((g.length:Int)>120)) (decide ((c.1.J.length:Int)>60))) (decide ((c.1.O.length:Int)>60))) (
.reg 14 [] [(0,hv (TLa.d f))] [.pf cz9]<|
.r (f,3)) (
.r ((⟨c.1.E,c.1.I,c.1.F,g,c.1.J,c.1.O,c.1.K,c.1.M,c.1.N,c.1.A⟩:TLa),0))) id
def F_q26 (a:TLa) (b:(List TCh)):=(S_q26 a b).den
theorem F_q26_ok {b:TLa} {a:(List TCh)}:FO (F_q26 b a) 73 [(TLa.d b),(AV.ref 0 a.length 0 a.length)] [(eS 4 TCh.e a)] (fun x=>(AV.tup [(TLa.d x.1),(vi x.2)])) (fun _=>[(eS 4 TCh.e a)]):=fO (s:=S_q26 b a) Tryz.func73
abbrev R_qm:=TLa×Int
def S_qm_b1 (j:TLa) (m:Int) (i:Nat) (a:(List TCh)×(List TAm)):SC R_qm (Step ((List TCh)×(List TAm)) R_qm) :=
.reg 10 [] [(2,{ obs:=[(4,(TAm.b (⟨0,0,[]⟩:TAm)))] })] [.w i,.ev 0,.pf cz1]<|
 let f:=(j.A.getD i dF)
.ite (decide (f.G<=m)) (
.guard [(a.1.length+f.Q.length) * (2 * 40)<=2 ^ 48]<|
 let g:=(a.1++f.Q)
.reg 12 [] [(3,{ h:=.obj,cast:=some (AV.ref 2 g.length 0 g.length),obs:=[(2,(eS 4 TCh.e g))] })] [.e a.1.length,.e a.1.length,.pf (p:=∀ k,k<f.Q.length->(TCh.d (f.Q.getD k dF)).wd=4) (fun _ _=>rfl),.ev 0,.pf (zk (o:=2) (l:=a.1) (x:=f.Q)),.pf (zj (sz:=4) (e:=TCh.e) (l:=a.1) (x:=f.Q))]<|
.r (.cont (g,a.2))) (
.guard [(a.2.length+1) * (2 * 40)<=2 ^ 48]<|
 let c:=([f]:List TAm)
.reg 13 [] [(2,hv (AV.d (eL TAm.e c))),(3,{ h:=.obj,cast:=some (AV.ref 3 ((a.2++c).length) 0 ((a.2++c).length)),obs:=[(3,(eS 3 TAm.e (a.2++c)))] })] [.pf (z7 TAm.e c),.e a.2.length,.e a.2.length,.pf (p:=∀ k,k<1->(TAm.d (c.getD k dF)).wd=3) (fun _ _=>rfl),.ev 0,.pf (zk (o:=3) (l:=a.2) (x:=c)),.pf (zj (sz:=3) (e:=TAm.e) (l:=a.2) (x:=c))]<|
.r (.cont (a.1,(a.2++c))))
def S_qm (f:TLa) (o:Int):SC R_qm R_qm :=
 let g:=(⟨0,0,[],[],[],[],[],[],[],[]⟩:TLa)
.reg 0 [] [(1,{ obs:=[(1,(TLa.b g))] })] [.pf cz2]<|
.a 1 1 2 (@F_q25_ok f) fun h=>
 let i:=(0,hv (TLa.d g))
.ite (h != 0) (
.reg 3 [] [i] [.pf cz9]<|
.r (g,h)) (
.a 4 1 2 (@F_q32_ok o) fun m=>
.ite (!m) (
.reg 5 [] [i] [.pf cz9]<|
.r (g,2)) (
.reg 8 [] [] []<|
.bor 4 (fun j=>AV.d (TCh.e (([]:List TCh).getD j dF))) [7]<|
.bor 3 (fun j=>AV.d (TAm.e (([]:List TAm).getD j dF))) [8]<|
.range (f.A.length:Int) f.A.length rfl (.slot 22) 24 [1,2,4,22,23] (fun (c:(List TCh)×(List TAm))=>[(7,(AV.ref 2 c.1.length 0 c.1.length)),(8,(AV.ref 3 c.2.length 0 c.2.length))]) (fun c=>[(2,(eS 4 TCh.e c.1)),(3,(eS 3 TAm.e c.2))]) (([]:List TCh),([]:List TAm)) (S_qm_b1 f o) (fun c => 
.guard [c.2.length<2 ^ 63]<|
.reg 15 [] [] []<|
.frz 3 (.ev 0) none [] [0]<|
.call (@F_q26_ok (⟨f.E,f.I,f.F,f.P,f.J,f.O,f.K,f.M,f.N,c.2⟩:TLa) c.1) fun l n=>
.k 16 2 n [2] 4 true<|
.r (l.1,l.2)) id))
def F_qm (a:TLa) (b:Int):=(S_qm a b).den
theorem F_qm_ok {a:TLa} {b:Int}:FO (F_qm a b) 43 [(TLa.d a),(vi b)] [] (fun x=>(AV.tup [(TLa.d x.1),(vi x.2)])) NL:=fO (s:=S_qm a b) Tryz.func43
def S_q3t (b:TRu) (c:TTr):SC Bool Bool :=
.calld [(b.H==c.U)=true] dF (@F_qj_ok c.L b.L) fun f d =>
 let a:=(bif (b.H==c.U) then f else false)
.calld [a=true] dF (@F_qj_ok c.V b.V) fun g e =>
.reg 1 [] [(10,hc d [] true),(17,hc e [] true)] [.clg 2 [(b.H==c.U)=true] d [] 2 true,.clg 0 [a=true] e [] 2 true]<|
.r (bif a then g else false)
def F_q3t (a:TRu) (b:TTr):=(S_q3t a b).den
theorem F_q3t_ok {a:TRu} {b:TTr}:FO (F_q3t a b) 63 [(TRu.d a),(TTr.d b)] [] vb NL:=fO (s:=S_q3t a b) Tryz.func63
def S_q13_b1 (c:TLa) (d:Y8) (e:Int) (b:Nat) (_:Unit):SC Int (Step Unit Int) :=
.reg 3 [] [] [.w b,.ev 0]<|
 let a:=(c.P.getD b dF)
.ite (bif (a.B==d) then (a.C==e) else false) (
.r (.ret a.D)) (
.r (.cont ()))
def S_q13 (a:TLa) (b:Y8) (c:Int):SC Int Int :=
.range (a.P.length:Int) a.P.length rfl (.slot 10) 12 [1,2,10,11] (fun (_:Unit)=>[]) (fun _=>[]) () (S_q13_b1 a b c) (fun _ => 
.r 0) id
def F_q13 (a:TLa) (b:Y8) (c:Int):=(S_q13 a b c).den
theorem F_q13_ok {a:TLa} {b:Y8} {c:Int}:FO (F_q13 a b c) 45 [(TLa.d a),(AV.d (DV.str b)),(vi c)] [] vi NL:=fO (s:=S_q13 a b c) Tryz.func45
def S_q3u (d:Int) (b:Int):SC (Int×Int) (Int×Int) :=
.a 1 1 0 (@F_q2n_ok d) fun c=>
.ite (cO (cO (!c) (decide (b<0))) (decide (b>100))) (
.r (0,2)) (
.reg 3 [] [] [.pf (p:=(100:Int)≠0) dk]<|
.r ((i64.wrap ((i64.wrap (d * b)).tdiv 100)),0))
def F_q3u (a:Int) (b:Int):=(S_q3u a b).den
theorem F_q3u_ok {a:Int} {b:Int}:FO (F_q3u a b) 64 [(vi a),(vi b)] [] (fun x=>(AV.tup [(vi x.1),(vi x.2)])) NL:=fO (s:=S_q3u a b) Tryz.func64
def S_q27_b1 (g:Y8) (h:Int) (i:Int) (f:(List TTr)) (d:Nat) (a:Int×Int):SC (Int×Int) (Step (Int×Int) (Int×Int)) :=
.guard [(0+d)<f.length]<|
.reg 4 [] [] [.e f.length,.w d,.ev 1,.e f.length,.ev 0]<|
 let b:=(f.getD (0+d) dF)
.ite (cO (b.C != h) (decide (b.G>i))) (
.r (.cont (a.1,a.2))) (
.cut none [1,2,3,11,13,14,15,16] (fun (c:Int)=>[(10,(vi c))]) (fun _=>[]) (
.ite (b.V==g) (
.r (.next (i64.wrap (a.1+b.D)))) (
.r (.next a.1))) fun c=>
.ite (b.L==g) (
.r (.cont (c,(i64.wrap (a.2+b.D))))) (
.r (.cont (c,a.2))))
def S_q27 (c:Y8) (d:Int) (e:Int) (b:(List TTr)):SC (Int×Int) (Int×Int) :=
.guard [b.length<2 ^ 63]<|
.range (b.length:Int) b.length rfl (.why (.ev 0)) 16 [1,2,3,14,15] (fun (a:Int×Int)=>[(10,(vi a.1)),(11,(vi a.2))]) (fun _=>[]) (0,0) (S_q27_b1 c d e b) (fun a => 
.r (a.1,a.2)) id
def F_q27 (a:Y8) (b:Int) (c:Int) (d:(List TTr)):=(S_q27 a b c d).den
theorem F_q27_ok {b:Y8} {c:Int} {f:Int} {a:(List TTr)}:FO (F_q27 b c f a) 44 [(AV.ref 0 a.length 0 a.length),(AV.d (DV.str b)),(vi c),(vi f)] [(eS 7 TTr.e a)] (fun x=>(AV.tup [(vi x.1),(vi x.2)])) (fun _=>[(eS 7 TTr.e a)]):=fO (s:=S_q27 b c f a) Tryz.func44
def S_q4u (g:TLa) (e:Y8) (f:Int) (h:(List TTr)):SC Int Int :=
.call (@F_q27_ok e f 36000 h) fun b c=>
.k 1 3 c [0] 2 true<|
.a 2 3 2 (@F_q13_ok g e f) fun d=>
.r (i64.wrap ((i64.wrap (d+b.1))-b.2))
def F_q4u (a:TLa) (b:Y8) (c:Int) (d:(List TTr)):=(S_q4u a b c d).den
theorem F_q4u_ok {b:TLa} {c:Y8} {f:Int} {a:(List TTr)}:FO (F_q4u b c f a) 65 [(TLa.d b),(AV.ref 0 a.length 0 a.length),(AV.d (DV.str c)),(vi f)] [(eS 7 TTr.e a)] vi (fun _=>[(eS 7 TTr.e a)]):=fO (s:=S_q4u b c f a) Tryz.func65
def S_q19_b1 (f:(List TTr)) (e:Y8) (g:Int) (h:Int) (d:Nat) (a:Int×Int):SC (Int×Int) (Step (Int×Int) (Int×Int)) :=
.reg 4 [] [] [.w d,.ev 0]<|
 let b:=(f.getD d dF)
.ite (cO (b.C != g) (decide (b.G>h))) (
.r (.cont (a.1,a.2))) (
.cut none [1,2,3,11,13,14,15,16] (fun (c:Int)=>[(10,(vi c))]) (fun _=>[]) (
.ite (b.V==e) (
.r (.next (i64.wrap (a.1+b.D)))) (
.r (.next a.1))) fun c=>
.ite (b.L==e) (
.r (.cont (c,(i64.wrap (a.2+b.D))))) (
.r (.cont (c,a.2))))
def S_q19 (b:(List TTr)) (c:Y8) (d:Int) (e:Int):SC (Int×Int) (Int×Int) :=
.range (b.length:Int) b.length rfl (.slot 14) 16 [1,2,3,14,15] (fun (a:Int×Int)=>[(10,(vi a.1)),(11,(vi a.2))]) (fun _=>[]) (0,0) (S_q19_b1 b c d e) (fun a => 
.r (a.1,a.2)) id
def F_q19 (a:(List TTr)) (b:Y8) (c:Int) (d:Int):=(S_q19 a b c d).den
theorem F_q19_ok {a:(List TTr)} {b:Y8} {c:Int} {f:Int}:FO (F_q19 a b c f) 44 [(AV.d (eL TTr.e a)),(AV.d (DV.str b)),(vi c),(vi f)] [] (fun x=>(AV.tup [(vi x.1),(vi x.2)])) NL:=fO (s:=S_q19 a b c f) Tryz.func44
def S_q3v (f:TLa) (g:(List TTr)) (d:Y8) (e:Int):SC Int Int :=
.a 1 3 1 (@F_q19_ok g d e 36000) fun b=>
.a 2 3 1 (@F_q13_ok f d e) fun c=>
.r (i64.wrap ((i64.wrap (c+b.1))-b.2))
def F_q3v (a:TLa) (b:(List TTr)) (c:Y8) (d:Int):=(S_q3v a b c d).den
theorem F_q3v_ok {a:TLa} {b:(List TTr)} {c:Y8} {f:Int}:FO (F_q3v a b c f) 65 [(TLa.d a),(AV.d (eL TTr.e b)),(AV.d (DV.str c)),(vi f)] [] vi NL:=fO (s:=S_q3v a b c f) Tryz.func65
def S_qa_b1 (d:TLa) (i:(List TTr)) (h:Int) (e:R_q4) (f:Nat) (b:Int×Int):SC Int (Step (Int×Int) Int) :=
.ite (decide (b.2<(i64.wrap (d.E+d.I)))) (
 let c:=(i64.wrap (b.2+1))
.ite (cO (h==(-1)) (h==b.2)) (
.a 9 5 1 (@F_q3v_ok d i (e.getD f dF) b.2) fun g=>
.r (.cont ((i64.wrap (b.1+g)),c))) (
.r (.cont (b.1,c)))) (
.r (.brk (b.1,b.2)))
def S_qa_b2 (f:TLa) (g:(List TTr)) (h:Int) (d:R_q4) (b:Nat) (e:Int):SC Int (Step Int Int) :=
.reg 4 [] [] [.w b,.ev 0]<|
.iter [1,3,4,11,16,17,18] (fun (a:Int×Int)=>[(9,(vi a.1)),(12,(vi a.2))]) (fun _=>[]) (e,f.E) (S_qa_b1 f g h d b) (fun a =>
.c a.1) .ret
def S_qa (d:TLa) (e:(List TTr)) (f:Y8) (g:Int):SC Int Int :=
.a 2 3 1 (@F_q4_ok d.F f) fun b=>
.range (b.length:Int) b.length rfl (.slot 16) 18 [1,3,4,16,17] (fun (c:Int)=>[(9,(vi c))]) (fun _=>[]) 0 (S_qa_b2 d e g b) (fun c => 
.r c) id
def F_qa (a:TLa) (b:(List TTr)) (c:Y8) (d:Int):=(S_qa a b c d).den
theorem F_qa_ok {a:TLa} {b:(List TTr)} {c:Y8} {f:Int}:FO (F_qa a b c f) 112 [(TLa.d a),(AV.d (eL TTr.e b)),(AV.d (DV.str c)),(vi f)] [] vi NL:=fO (s:=S_qa a b c f) Tryz.func112
def S_qx_b1 (m:TLa) (i:TTr) (n:(List TTr)) (e:Nat) (_:Unit):SC Bool (Step Unit Bool) :=
.reg 4 [] [] [.w e,.ev 0]<|
 let a:=(m.J.getD e dF)
 let b:=(cO (a.C==(-1)) (a.C==i.C))
.calld [b=true] dF (@F_qj_ok i.V a.B) fun j f =>
 let c:=(bif b then j else false)
.calld [c=true] dF (@F_qj_ok i.L a.B) fun k g =>
 let d:=(bif c then (!k) else false)
.calld [d=true] dF (@F_qa_ok m (n++([i]:List TTr)) a.B a.C) fun l h =>
.reg 6 [] [(6,hc f [] true),(13,hc g [] true),(23,hc h [] true)] [.clg 4 [b=true] f [] 5 true,.clg 2 [c=true] g [] 5 true,.clg 0 [d=true] h [] 5 true]<|
.ite (bif d then (decide (l>a.D)) else false) (
.r (.ret false)) (
.r (.cont ()))
def S_qx_b2 (m:TLa) (i:TTr) (n:(List TTr)) (e:Nat) (_:Unit):SC Bool (Step Unit Bool) :=
.reg 11 [] [] [.w e,.ev 0]<|
 let a:=(m.O.getD e dF)
 let b:=(cO (a.C==(-1)) (a.C==i.C))
.calld [b=true] dF (@F_qj_ok i.L a.B) fun j f =>
 let c:=(bif b then j else false)
.calld [c=true] dF (@F_qj_ok i.V a.B) fun k g =>
 let d:=(bif c then (!k) else false)
.calld [d=true] dF (@F_qa_ok m (n++([i]:List TTr)) a.B a.C) fun l h =>
.reg 13 [] [(6,hc f [] true),(13,hc g [] true),(23,hc h [] true)] [.clg 4 [b=true] f [] 5 true,.clg 2 [c=true] g [] 5 true,.clg 0 [d=true] h [] 5 true]<|
.ite (bif d then (decide (l<a.D)) else false) (
.r (.ret false)) (
.r (.cont ()))
def S_qx (c:TLa) (f:TTr) (b:(List TTr)):SC Bool Bool :=
.guard [b.length * (2 * 72)<=2 ^ 48,(b.length+1) * (2 * 72)<=2 ^ 48]<|
 let a:=([f]:List TTr)
.reg 1 [2,5] [(2,{ h:=.obj }),(4,hv (AV.d (eL TTr.e a))),(5,{ cast:=some (AV.ref 3 ((b++a).length) 0 ((b++a).length)),obs:=[(3,(eS 7 TTr.e (b++a)))] })] [.e b.length,.pf (p:=∀ k,k<b.length->(TTr.d (b.getD k dF)).wd=7) (fun _ _=>rfl),.ev 0,.pf (z7 TTr.e a),.pf (z7 TTr.e a),.e b.length,.e b.length,.pf (p:=∀ k,k<1->(TTr.d (a.getD k dF)).wd=7) (fun _ _=>rfl),.ev 1,.pf (zk (o:=3) (l:=b) (x:=a)),.pf (zj (sz:=7) (e:=TTr.e) (l:=b) (x:=a))]<|
.guard [(b++a).length<2 ^ 63]<|
.frz 3 (.ev 0) none [7] []<|
.range (c.J.length:Int) c.J.length rfl (.slot 21) 23 [3,5,7,21,22] (fun (_:Unit)=>[]) (fun _=>[]) () (S_qx_b1 c f b) (fun _ => 
.range (c.O.length:Int) c.O.length rfl (.slot 67) 69 [3,5,7,67,68] (fun (_:Unit)=>[]) (fun _=>[]) () (S_qx_b2 c f b) (fun _ => 
.r true) id) id
def F_qx (a:TLa) (b:TTr) (c:(List TTr)):=(S_qx a b c).den
theorem F_qx_ok {b:TLa} {c:TTr} {a:(List TTr)}:FO (F_qx b c a) 66 [(TLa.d b),(AV.ref 0 a.length 0 a.length),(TTr.d c)] [(eS 7 TTr.e a)] vb (fun _=>[(eS 7 TTr.e a)]):=fO (s:=S_qx b c a) Tryz.func66
def S_qy_b1 (g:TTr) (f:(List TTr)) (b:Nat) (d:Int):SC Int (Step Int Int) :=
.guard [(0+b)<f.length]<|
.reg 17 [] [] [.e f.length,.w b,.ev 1,.e f.length,.ev 0]<|
 let a:=(f.getD (0+b) dF)
.ite (bif (bif (a.U==g.U) then (a.C==g.C) else false) then (a.L==g.L) else false) (
.r (.cont (i64.wrap (d+a.D)))) (
.c d)
def S_qy_b2 (b:TTr) (e:(List TTr)) (c:R_qm) (f:Nat) (_:Unit):SC Int (Step Unit Int) :=
.reg 12 [] [] [.w f,.ev 0]<|
 let g:=(c.1.N.getD f dF)
.a 13 2 5 (@F_q3t_ok g b) fun j=>
.ite (!j) (
.r (.cont ())) (
.guard [e.length<2 ^ 63]<|
.range (e.length:Int) e.length rfl (.why (.ev 0)) 111 [1,5,7,10,109,110] (fun (d:Int)=>[(11,(vi d))]) (fun _=>[]) b.D (S_qy_b1 b e) (fun d => 
.call (@F_q13_ok c.1 b.L b.C) fun l h=>
.call (@F_q3u_ok l g.T) fun m i=>
.reg 21 [] [(5,hc h [] true),(8,hc i [] true)] [.cl 1 h [] 5 true,.cl 0 i [] 5 true]<|
.ite (decide (d>m.1)) (
.r (.ret 13)) (
.call (@F_q4u_ok c.1 b.L b.C e) fun n o=>
.k 24 6 o [0] 5 true<|
.ite (decide (n<b.D)) (
.r (.ret 15)) (
.call (@F_qx_ok c.1 b e) fun p q=>
.k 26 3 q [0] 5 true<|
.ite (!p) (
.r (.ret 14)) (
.r (.ret 0))))) .ret)
def S_qy (m:TLa) (a:TTr) (n:(List TTr)):SC Int Int :=
.ite (cO (cO (cO (cO (cO (cO (cO (decide (a.H<1)) (decide (a.H>1000000))) (decide (a.U<1))) (decide (a.U>1000000))) (decide (a.G<0))) (decide (a.G>35990))) (decide (a.D<1))) (decide (a.D>1000000000000))) (
.r 2) (
.call (@F_ql_ok m a.L) fun c f=>
.calld [(!c)=false] dF (@F_ql_ok m a.V) fun j g =>
.reg 3 [] [(3,hc f [] true),(9,hc g [] true)] [.cl 2 f [] 3 true,.clg 0 [(!c)=false] g [] 3 true]<|
.ite (cO (cO (!c) (!j)) (a.L==a.V)) (
.r 5) (
.call (@F_q2m_ok m a.C) fun d h=>
.calld [(!d)=false] dF (@F_q33_ok a.G) fun k i =>
.reg 5 [] [(3,hc h [] true),(8,hc i [] true)] [.cl 2 h [] 3 true,.clg 0 [(!d)=false] i [] 3 true]<|
.ite (cO (!d) (decide (k>a.C))) (
.r 16) (
.call (@F_qm_ok m a.G) fun e l=>
.reg 7 [] [(3,hc l [] true),(7,{ obs:=[(3,(TLa.b (⟨0,0,[],[],[],[],[],[],[],[]⟩:TLa)))] })] [.cl 0 l [] 3 true,.pf cz2]<|
.ite (e.2 != 0) (
.r e.2) (
.range (e.1.N.length:Int) e.1.N.length rfl (.slot 97) 99 [1,5,7,97,98] (fun (_:Unit)=>[]) (fun _=>[]) () (S_qy_b2 a n e) (fun _ => 
.r 12) id))))
def F_qy (a:TLa) (b:TTr) (c:(List TTr)):=(S_qy a b c).den
theorem F_qy_ok {b:TLa} {c:TTr} {a:(List TTr)}:FO (F_qy b c a) 39 [(TLa.d b),(AV.ref 0 a.length 0 a.length),(TTr.d c)] [(eS 7 TTr.e a)] vi (fun _=>[(eS 7 TTr.e a)]):=fO (s:=S_qy b c a) Tryz.func39
end
end Go.Proofs.YtbmpcbbimefmoaaGreatDoor
/- What the functions compute,and that their calls return it. No condition. -/
namespace Go.Proofs.YtbmpcbbimefmoaaGreatDoor
open Go Go.TA
open Go.IntKind (i64)
noncomputable section
set_option maxRecDepth 100000
abbrev R_q1a:=(List Int)×Int
def S_q1a_b1 (s:TLa) (q:(List TTr)) (j:Nat) (a:(List Int)×(List TTr)):SC R_q1a (Step ((List Int)×(List TTr)) R_q1a) :=
.reg 8 [] [] [.w j,.ev 0]<|
.call (@F_qy_ok s (q.getD j dF) a.2) fun m n=>
.k 9 3 n [2] 4 true<|
.cut none [2,7,11,18,19,20] (fun (g:(List TTr))=>[(8,(AV.ref 2 g.length 0 g.length))]) (fun g=>[(2,(eS 7 TTr.e g))]) (
.ite (m==0) (
.guard [(a.2.length+1) * (2 * 72)<=2 ^ 48]<|
 let b:=([(q.getD j dF)]:List TTr)
.reg 11 [] [(2,hv (AV.d (eL TTr.e b))),(3,{ h:=.obj,cast:=some (AV.ref 2 ((a.2++b).length) 0 ((a.2++b).length)),obs:=[(2,(eS 7 TTr.e (a.2++b)))] })] [.pf (z7 TTr.e b),.e a.2.length,.e a.2.length,.pf (p:=∀ k,k<1->(TTr.d (b.getD k dF)).wd=7) (fun _ _=>rfl),.ev 0,.pf (zk (o:=2) (l:=a.2) (x:=b)),.pf (zj (sz:=7) (e:=TTr.e) (l:=a.2) (x:=b))]<|
.r (.next (a.2++b))) (
.r (.next a.2))) fun g=>
.guard [(a.1.length+1) * (2 * 8)<=2 ^ 48]<|
 let f:=([m]:List Int)
.reg 12 [] [(2,hv (vl f)),(3,{ h:=.obj,cast:=some (AV.ref 1 ((a.1++f).length) 0 ((a.1++f).length)),obs:=[(1,(eS 1 (DV.i .i64) (a.1++f)))] })] [.pf (z7 (DV.i .i64) f),.e a.1.length,.e a.1.length,.pf (p:=∀ k,k<1->(AV.d ((DV.i .i64) (f.getD k dF))).wd=1) (fun _ _=>rfl),.ev 0,.pf (zk (o:=1) (l:=a.1) (x:=f)),.pf (zj (sz:=1) (e:=(DV.i .i64)) (l:=a.1) (x:=f))]<|
.c ((a.1++f),g)
def S_q1a (h:TLa) (g:(List TTr)):SC R_q1a R_q1a :=
.a 1 2 1 (@F_q12_ok h g) fun f=>
.ite (f != 0) (
.ret [.pf (p:=LeV (AV.tup [(AV.full 0 fun _=>DV.b false),(vi f)]) (AV.tup [(vl ([])),(vi f)])) (LeV.tup (LeVs.cons (lvN (DV.i .i64)) (LeVs.cons (LeV.refl _) LeVs.nil)))] ([],f)) (
.reg 6 [] [] []<|
.bor 1 (fun j=>AV.d ((DV.i .i64) (([]:List Int).getD j dF))) [7]<|
.bor 7 (fun j=>AV.d (TTr.e (([]:List TTr).getD j dF))) [8]<|
.range (g.length:Int) g.length rfl (.slot 18) 20 [2,18,19] (fun (c:(List Int)×(List TTr))=>[(7,(AV.ref 1 c.1.length 0 c.1.length)),(8,(AV.ref 2 c.2.length 0 c.2.length))]) (fun c=>[(1,(eS 1 (DV.i .i64) c.1)),(2,(eS 7 TTr.e c.2))]) (([]:List Int),([]:List TTr)) (S_q1a_b1 h g) (fun c => 
.guard [c.1.length<2 ^ 63]<|
.reg 14 [] [] []<|
.frz 1 (.ev 0) none [4] []<|
.r (c.1,0)) id)
def F_q1a (a:TLa) (b:(List TTr)):=(S_q1a a b).den
theorem F_q1a_ok {a:TLa} {b:(List TTr)}:FO (F_q1a a b) 16 [(TLa.d a),(AV.d (eL TTr.e b))] [] (fun x=>(AV.tup [(vl x.1),(vi x.2)])) NL:=fO (s:=S_q1a a b) Tryz.func16
abbrev R_q4v:=(List TTr)×Int
def S_q4v (g:TLa) (h:(List TTr)):SC R_q4v R_q4v :=
.reg 0 [] [] []<|
.split ((F_q5 g h).isSome) (
.call (@F_q5_ok g h) fun f i=>
.k 1 2 i [] 1 false<|
.guard [(f.2.1 != 0)=false]<|
.br false (.ev 0)<|
.guard [f.2.2.2.2.2.2.2.length<2 ^ 63]<|
.reg 4 [] [] []<|
.frz 4 (.ev 0) none [4] [3]<|
.r (f.2.2.2.2.2.2.2,0)) (
.a 1 2 1 (@F_qb_ok g h) fun c=>
.guard [(c.2 != 0)=true]<|
.br true (.ev 0)<|
.ret [.pf (p:=LeV (AV.tup [(AV.full 0 fun _=>DV.b false),(vi c.2)]) (AV.tup [(AV.d (eL TTr.e ([]))),(vi c.2)])) (LeV.tup (LeVs.cons (lvN TTr.e) (LeVs.cons (LeV.refl _) LeVs.nil)))] ([],c.2))
def F_q4v (a:TLa) (b:(List TTr)):=(S_q4v a b).den
theorem F_q4v_ok {a:TLa} {b:(List TTr)}:FO (F_q4v a b) 17 [(TLa.d a),(AV.d (eL TTr.e b))] [] (fun x=>(AV.tup [(AV.d (eL TTr.e x.1)),(vi x.2)])) NL:=fO (s:=S_q4v a b) Tryz.func17
abbrev R_qd:=(List TTr)×Int
def S_qd_b1 (i:(List TTr)) (g:R_q1a) (f:Nat) (a:(List TTr)):SC R_qd (Step ((List TTr)) R_qd) :=
.reg 7 [] [] [.w f,.ev 0]<|
.guard [f<g.1.length]<|
.reg 8 [] [] [.w f,.ev 0]<|
.ite ((g.1.getD f dF)==0) (
.guard [(a.length+1) * (2 * 72)<=2 ^ 48]<|
 let b:=([(i.getD f dF)]:List TTr)
.reg 9 [] [(2,hv (AV.d (eL TTr.e b))),(3,{ h:=.obj,cast:=some (AV.ref 1 ((a++b).length) 0 ((a++b).length)),obs:=[(1,(eS 7 TTr.e (a++b)))] })] [.pf (z7 TTr.e b),.e a.length,.e a.length,.pf (p:=∀ k,k<1->(TTr.d (b.getD k dF)).wd=7) (fun _ _=>rfl),.ev 0,.pf (zk (o:=1) (l:=a) (x:=b)),.pf (zj (sz:=7) (e:=TTr.e) (l:=a) (x:=b))]<|
.r (.cont (a++b))) (
.c a)
def S_qd (h:TLa) (g:(List TTr)):SC R_qd R_qd :=
.a 1 2 1 (@F_q1a_ok h g) fun f=>
.ite (f.2 != 0) (
.ret [.pf (p:=LeV (AV.tup [(AV.full 0 fun _=>DV.b false),(vi f.2)]) (AV.tup [(AV.d (eL TTr.e ([]))),(vi f.2)])) (LeV.tup (LeVs.cons (lvN TTr.e) (LeVs.cons (LeV.refl _) LeVs.nil)))] ([],f.2)) (
.reg 5 [] [] []<|
.bor 7 (fun j=>AV.d (TTr.e (([]:List TTr).getD j dF))) [8]<|
.range (g.length:Int) g.length rfl (.slot 20) 22 [6,20,21] (fun (c:(List TTr))=>[(8,(AV.ref 1 c.length 0 c.length))]) (fun c=>[(1,(eS 7 TTr.e c))]) ([]:List TTr) (S_qd_b1 g f) (fun c => 
.guard [c.length<2 ^ 63]<|
.reg 11 [] [] []<|
.frz 1 (.ev 0) none [4] []<|
.r (c,0)) id)
def F_qd (a:TLa) (b:(List TTr)):=(S_qd a b).den
theorem F_qd_ok {a:TLa} {b:(List TTr)}:FO (F_qd a b) 18 [(TLa.d a),(AV.d (eL TTr.e b))] [] (fun x=>(AV.tup [(AV.d (eL TTr.e x.1)),(vi x.2)])) NL:=fO (s:=S_qd a b) Tryz.func18
def S_q2s_b1 (c:(List Int)) (b:(List Int)) (a:Nat) (_:Unit):SC Bool (Step Unit Bool) :=
.guard [a<b.length]<|
.reg 6 [] [] [.w a,.ev 1,.w a,.ev 0]<|
.ite ((c.getD a dF) != (b.getD a dF)) (
.r (.ret false)) (
.r (.cont ()))
def S_q2s (a:(List Int)) (b:(List Int)):SC Bool Bool :=
.ite ((a.length:Int) != (b.length:Int)) (
.r false) (
.range (a.length:Int) a.length rfl (.slot 0) 13 [0,1,12] (fun (_:Unit)=>[]) (fun _=>[]) () (S_q2s_b1 a b) (fun _ => 
.r true) id)
def F_q2s (a:(List Int)) (b:(List Int)):=(S_q2s a b).den
theorem F_q2s_ok {a:(List Int)} {b:(List Int)}:FO (F_q2s a b) 19 [(vl a),(vl b)] [] vb NL:=fO (s:=S_q2s a b) Tryz.func19
def S_q2t_b1 (e:(List TTr)) (d:(List TTr)) (c:Nat) (_:Unit):SC Bool (Step Unit Bool) :=
.guard [c<d.length]<|
.reg 6 [] [] [.w c,.ev 1,.w c,.ev 0]<|
 let a:=(e.getD c dF)
 let b:=(d.getD c dF)
.ite (!((a.H==b.H)&&((a.G==b.G)&&((a.C==b.C)&&((a.U==b.U)&&((a.L==b.L)&&((a.V==b.V)&&((a.D==b.D)&&true)))))))) (
.r (.ret false)) (
.r (.cont ()))
def S_q2t (a:(List TTr)) (b:(List TTr)):SC Bool Bool :=
.ite ((a.length:Int) != (b.length:Int)) (
.r false) (
.range (a.length:Int) a.length rfl (.slot 0) 13 [0,1,12] (fun (_:Unit)=>[]) (fun _=>[]) () (S_q2t_b1 a b) (fun _ => 
.r true) id)
def F_q2t (a:(List TTr)) (b:(List TTr)):=(S_q2t a b).den
theorem F_q2t_ok {a:(List TTr)} {b:(List TTr)}:FO (F_q2t a b) 20 [(AV.d (eL TTr.e a)),(AV.d (eL TTr.e b))] [] vb NL:=fO (s:=S_q2t a b) Tryz.func20
abbrev R_qn:=(List TLi)×Int
def S_qn_b1 (t:TLa) (u:Int) (n:R_q5) (f:R_q37) (g:R_q7) (i:Nat) (q:Nat) (a:(List TLi)):SC R_qn (Step ((List TLi)) R_qn) :=
 let j:=(i64.wrap (t.E+(q:Int)))
.call (@F_q16_ok (g.getD i dF) j u f.2.1 f.2.2.1 f.2.2.2.1 f.2.2.2.2.1 f.2.2.2.2.2 n.2.2.2.2.2.2.2) fun m s=>
.k 14 7 s [3,4] 6 true<|
.ite (m != 0) (
.guard [(a.length+1) * (2 * 32)<=2 ^ 48]<|
 let b:=([(⟨(g.getD i dF),j,m⟩:TLi)]:List TLi)
.reg 16 [] [(8,hv (AV.d (eL TLi.e b))),(9,{ h:=.obj,cast:=some (AV.ref 5 ((a++b).length) 0 ((a++b).length)),obs:=[(5,(eS 3 TLi.e (a++b)))] })] [.pf (z7 TLi.e b),.e a.length,.e a.length,.pf (p:=∀ k,k<1->(TLi.d (b.getD k dF)).wd=3) (fun _ _=>rfl),.ev 0,.pf (zk (o:=5) (l:=a) (x:=b)),.pf (zj (sz:=3) (e:=TLi.e) (l:=a) (x:=b))]<|
.r (.cont (a++b))) (
.c a)
def S_qn_b2 (d:TLa) (j:Int) (f:R_q5) (g:R_q37) (h:R_q7) (b:Nat) (i:(List TLi)):SC R_qn (Step ((List TLi)) R_qn) :=
.reg 10 [] [] [.w b,.ev 0]<|
.guard [d.I.toNat<2 ^ 63]<|
.range d.I d.I.toNat rfl (.why (.ev 0)) 43 [2,3,8,14,35,36,37,42] (fun (a:(List TLi))=>[(12,(AV.ref 5 a.length 0 a.length))]) (fun a=>[(5,(eS 3 TLi.e a))]) i (S_qn_b1 d j f g h b) (fun a => 
.c a) .ret
def S_qn (l:TLa) (n:(List TTr)) (s:Int):SC R_qn R_qn :=
.reg 0 [] [] []<|
 let m:=(AV.full 0 fun _=>DV.b false)
.split ((F_q5 l n).isSome) (
.call (@F_q5_ok l n) fun c o=>
.k 1 2 o [] 1 false<|
.guard [(c.2.1 != 0)=false]<|
.br false (.ev 0)<|
.call (@F_q37_ok s c.2.2.1 c.2.2.2.1 c.2.2.2.2.1 c.2.2.2.2.2.1 c.2.2.2.2.2.2.1 c.2.2.2.2.2.2.2) fun g q=>
.k 4 2 q [3,4] 5 false<|
.ite (g.1 != 0) (
.ret [.pf (p:=LeV (AV.tup [m,(vi g.1)]) (AV.tup [(AV.d (eL TLi.e ([]))),(vi g.1)])) (LeV.tup (LeVs.cons (lvN TLi.e) (LeVs.cons (LeV.refl _) LeVs.nil)))] ([],g.1)) (
.a 8 2 5 (@F_q7_ok l.F ([])) fun i=>
.bor 3 (fun j=>AV.d (TLi.e (([]:List TLi).getD j dF))) [12]<|
.range (i.length:Int) i.length rfl (.slot 35) 37 [2,3,8,35,36] (fun (f:(List TLi))=>[(12,(AV.ref 5 f.length 0 f.length))]) (fun f=>[(5,(eS 3 TLi.e f))]) ([]:List TLi) (S_qn_b2 l s c g i) (fun f => 
.guard [f.length<2 ^ 63]<|
.reg 19 [] [] []<|
.frz 5 (.ev 0) none [6] []<|
.r (f,0)) id)) (
.a 1 2 1 (@F_qb_ok l n) fun h=>
.guard [(h.2 != 0)=true]<|
.br true (.ev 0)<|
.ret [.pf (p:=LeV (AV.tup [m,(vi h.2)]) (AV.tup [(AV.d (eL TLi.e ([]))),(vi h.2)])) (LeV.tup (LeVs.cons (lvN TLi.e) (LeVs.cons (LeV.refl _) LeVs.nil)))] ([],h.2))
def F_qn (a:TLa) (b:(List TTr)) (c:Int):=(S_qn a b c).den
theorem F_qn_ok {a:TLa} {b:(List TTr)} {c:Int}:FO (F_qn a b c) 21 [(TLa.d a),(AV.d (eL TTr.e b)),(vi c)] [] (fun x=>(AV.tup [(AV.d (eL TLi.e x.1)),(vi x.2)])) NL:=fO (s:=S_qn a b c) Tryz.func21
abbrev R_qe:=(List TLi)×Int
def S_qe_b1 (u:TLa) (v:Int) (m:R_qd) (n:R_qm) (q:R_q4) (s:Nat) (b:(List TLi)×Int):SC R_qe (Step ((List TLi)×Int) R_qe) :=
.ite (decide (b.2<(i64.wrap (u.E+u.I)))) (
 let f:=(q.getD s dF)
.a 14 4 3 (@F_q19_ok m.1 f b.2 v) fun g=>
.a 15 3 3 (@F_q13_ok n.1 f b.2) fun t=>
 let i:=(i64.wrap ((i64.wrap (t+g.1))-g.2))
 let j:=(i64.wrap (b.2+1))
.ite (i != 0) (
.guard [(b.1.length+1) * (2 * 32)<=2 ^ 48]<|
 let c:=([(⟨f,b.2,i⟩:TLi)]:List TLi)
.reg 17 [] [(5,hv (AV.d (eL TLi.e c))),(6,{ h:=.obj,cast:=some (AV.ref 2 ((b.1++c).length) 0 ((b.1++c).length)),obs:=[(2,(eS 3 TLi.e (b.1++c)))] })] [.pf (z7 TLi.e c),.e b.1.length,.e b.1.length,.pf (p:=∀ k,k<1->(TLi.d (c.getD k dF)).wd=3) (fun _ _=>rfl),.ev 0,.pf (zk (o:=2) (l:=b.1) (x:=c)),.pf (zj (sz:=3) (e:=TLi.e) (l:=b.1) (x:=c))]<|
.r (.cont ((b.1++c),j))) (
.r (.cont (b.1,j)))) (
.r (.brk (b.1,b.2)))
def S_qe_b2 (i:TLa) (j:Int) (d:R_qd) (f:R_qm) (g:R_q4) (b:Nat) (h:(List TLi)):SC R_qe (Step ((List TLi)) R_qe) :=
.reg 10 [] [] [.w b,.ev 0]<|
.iter [2,3,8,10,13,38,39,40] (fun (a:(List TLi)×Int)=>[(11,(AV.ref 2 a.1.length 0 a.1.length)),(14,(vi a.2))]) (fun a=>[(2,(eS 3 TLi.e a.1))]) (h,i.E) (S_qe_b1 i j d f g b) (fun a =>
.c a.1) .ret
def S_qe (l:TLa) (n:(List TTr)) (m:Int):SC R_qe R_qe :=
.a 1 2 1 (@F_qd_ok l n) fun f=>
 let i:=(AV.full 0 fun _=>DV.b false)
.ite (f.2 != 0) (
.ret [.pf (p:=LeV (AV.tup [i,(vi f.2)]) (AV.tup [(AV.d (eL TLi.e ([]))),(vi f.2)])) (LeV.tup (LeVs.cons (lvN TLi.e) (LeVs.cons (LeV.refl _) LeVs.nil)))] ([],f.2)) (
.call (@F_qm_ok l m) fun g k=>
.reg 4 [] [(2,hc k [] true),(6,{ obs:=[(1,(TLa.b (⟨0,0,[],[],[],[],[],[],[],[]⟩:TLa)))] })] [.cl 0 k [] 1 true,.pf cz2]<|
.ite (g.2 != 0) (
.ret [.pf (p:=LeV (AV.tup [i,(vi g.2)]) (AV.tup [(AV.d (eL TLi.e ([]))),(vi g.2)])) (LeV.tup (LeVs.cons (lvN TLi.e) (LeVs.cons (LeV.refl _) LeVs.nil)))] ([],g.2)) (
.a 8 2 2 (@F_q4_ok l.F ([])) fun h=>
.bor 3 (fun j=>AV.d (TLi.e (([]:List TLi).getD j dF))) [11]<|
.range (h.length:Int) h.length rfl (.slot 38) 40 [2,3,8,10,38,39] (fun (c:(List TLi))=>[(11,(AV.ref 2 c.length 0 c.length))]) (fun c=>[(2,(eS 3 TLi.e c))]) ([]:List TLi) (S_qe_b2 l m f g h) (fun c => 
.guard [c.length<2 ^ 63]<|
.reg 19 [] [] []<|
.frz 2 (.ev 0) none [6] []<|
.r (c,0)) id))
def F_qe (a:TLa) (b:(List TTr)) (c:Int):=(S_qe a b c).den
theorem F_qe_ok {a:TLa} {b:(List TTr)} {c:Int}:FO (F_qe a b c) 22 [(TLa.d a),(AV.d (eL TTr.e b)),(vi c)] [] (fun x=>(AV.tup [(AV.d (eL TLi.e x.1)),(vi x.2)])) NL:=fO (s:=S_qe a b c) Tryz.func22
abbrev R_q4w:=Y8×TTape
def S_q4w (i:(List THe)) (j:TTape):SC R_q4w R_q4w :=
 let a:=((i.length:Int)==0)
.calld [a=false] (dF,j) (@F_q0_ok 12 j) fun c e =>
.reg 1 [] [(5,hc e [0] false)] [.clg 0 [a=false] e [0] 1 false,.der (fun (h:¬ AllP [a=false]->(dF,j)=c) (hn:¬ AllP [a=false])=>(by obtain rfl:=h hn; rfl:[(TTape.b j)]=[(TTape.b c.2)])) 1]<|
.ite (cO a (c.1==11)) (
.call (@F_q39_ok c.2) fun f l=>
.k 2 1 l [0] 1 false<|
.r (f.1,f.2)) (
.call (@F_q0_ok (i.length:Int) c.2) fun d g=>
.guard [(0:Int)<=d.1,d.1.toNat<i.length]<|
.reg 3 [] [(4,hc g [0] false)] [.cl 2 g [0] 1 false,.ev 0,.ev 1]<|
.r ((i.getD d.1.toNat dF).B,d.2))
def F_q4w (a:(List THe)) (b:TTape):=(S_q4w a b).den
theorem F_q4w_ok {a:(List THe)} {c:TTape}:FO (F_q4w a c) 24 [(vp 0),(AV.d (eL THe.e a))] [(TTape.b c)] (fun x=>(AV.d (DV.str x.1))) (fun x=>[(TTape.b x.2)]):=fO (s:=S_q4w a c) Tryz.func24
abbrev R_q1j:=Int×Int×Int
def S_q1j_b1 (g:Y8) (h:Int) (i:Int) (c:R_q5) (f:Nat) (a:Int×Int):SC R_q1j (Step (Int×Int) R_q1j) :=
.guard [(0+f)<c.2.2.2.2.2.2.2.length]<|
.reg 7 [] [] [.e c.2.2.2.2.2.2.2.length,.w f,.ev 1,.e c.2.2.2.2.2.2.2.length,.ev 0]<|
 let b:=(c.2.2.2.2.2.2.2.getD (0+f) dF)
.ite (cO (decide (b.G>i)) (b.C != h)) (
.r (.cont (a.1,a.2))) (
.cut none [2,3,4,17,19,33,34,35] (fun (d:Int)=>[(16,(vi d))]) (fun _=>[]) (
.ite (b.V==g) (
.r (.next (i64.wrap (a.1+b.D)))) (
.r (.next a.1))) fun d=>
.ite (b.L==g) (
.r (.cont (d,(i64.wrap (a.2+b.D))))) (
.r (.cont (d,a.2))))
def S_q1j (e:TLa) (f:(List TTr)) (h:Y8) (i:Int) (j:Int):SC R_q1j R_q1j :=
.reg 0 [] [] []<|
.split ((F_q5 e f).isSome) (
.call (@F_q5_ok e f) fun b g=>
.k 1 2 g [] 1 false<|
.guard [(b.2.1 != 0)=false]<|
.br false (.ev 0)<|
.guard [b.2.2.2.2.2.2.2.length<2 ^ 63]<|
.range (b.2.2.2.2.2.2.2.length:Int) b.2.2.2.2.2.2.2.length rfl (.why (.ev 0)) 35 [2,3,4,33,34] (fun (c:Int×Int)=>[(16,(vi c.1)),(17,(vi c.2))]) (fun _=>[]) (0,0) (S_q1j_b1 h i j b) (fun c => 
.r (c.1,c.2,0)) id) (
.a 1 2 1 (@F_qb_ok e f) fun d=>
.guard [(d.2 != 0)=true]<|
.br true (.ev 0)<|
.r (0,0,d.2))
def F_q1j (a:TLa) (b:(List TTr)) (c:Y8) (d:Int) (e:Int):=(S_q1j a b c d e).den
theorem F_q1j_ok {a:TLa} {b:(List TTr)} {c:Y8} {f:Int} {g:Int}:FO (F_q1j a b c f g) 23 [(TLa.d a),(AV.d (eL TTr.e b)),(AV.d (DV.str c)),(vi f),(vi g)] [] (fun x=>(AV.tup [(vi x.1),(vi x.2.1),(vi x.2.2)])) NL:=fO (s:=S_q1j a b c f g) Tryz.func23
def S_q2u_b1 (e:(List TLi)) (d:(List TLi)) (a:Nat) (_:Unit):SC Bool (Step Unit Bool) :=
.guard [a<d.length]<|
.reg 6 [] [] [.w a,.ev 1,.w a,.ev 0]<|
 let b:=(e.getD a dF)
 let c:=(d.getD a dF)
.ite (!((b.B==c.B)&&((b.C==c.C)&&((b.D==c.D)&&true)))) (
.r (.ret false)) (
.r (.cont ()))
def S_q2u (a:(List TLi)) (b:(List TLi)):SC Bool Bool :=
.ite ((a.length:Int) != (b.length:Int)) (
.r false) (
.range (a.length:Int) a.length rfl (.slot 0) 13 [0,1,12] (fun (_:Unit)=>[]) (fun _=>[]) () (S_q2u_b1 a b) (fun _ => 
.r true) id)
def F_q2u (a:(List TLi)) (b:(List TLi)):=(S_q2u a b).den
theorem F_q2u_ok {a:(List TLi)} {b:(List TLi)}:FO (F_q2u a b) 25 [(AV.d (eL TLi.e a)),(AV.d (eL TLi.e b))] [] vb NL:=fO (s:=S_q2u a b) Tryz.func25
def S_q4x (d:TLa) (e:(List TTr)) (f:Y8) (g:Int) (h:Int):SC (Int×Int×Int) (Int×Int×Int) :=
.a 1 2 1 (@F_qd_ok d e) fun b=>
.ite (b.2 != 0) (
.r (0,0,b.2)) (
.a 4 4 1 (@F_q19_ok b.1 f g h) fun c=>
.r (c.1,c.2,0))
def F_q4x (a:TLa) (b:(List TTr)) (c:Y8) (d:Int) (e:Int):=(S_q4x a b c d e).den
theorem F_q4x_ok {a:TLa} {b:(List TTr)} {c:Y8} {f:Int} {g:Int}:FO (F_q4x a b c f g) 26 [(TLa.d a),(AV.d (eL TTr.e b)),(AV.d (DV.str c)),(vi f),(vi g)] [] (fun x=>(AV.tup [(vi x.1),(vi x.2.1),(vi x.2.2)])) NL:=fO (s:=S_q4x a b c f g) Tryz.func26
def S_qz_b1 (m:TLa) (n:(List TTr)) (i:TTr) (e:Nat) (_:Unit):SC Bool (Step Unit Bool) :=
.reg 4 [] [] [.w e,.ev 0]<|
 let a:=(m.J.getD e dF)
 let b:=(cO (a.C==(-1)) (a.C==i.C))
.calld [b=true] dF (@F_qj_ok i.V a.B) fun j f =>
 let c:=(bif b then j else false)
.calld [c=true] dF (@F_qj_ok i.L a.B) fun k g =>
 let d:=(bif c then (!k) else false)
.calld [d=true] dF (@F_qa_ok m (n++([i]:List TTr)) a.B a.C) fun l h =>
.reg 6 [] [(6,hc f [] true),(13,hc g [] true),(23,hc h [] true)] [.clg 4 [b=true] f [] 4 true,.clg 2 [c=true] g [] 4 true,.clg 0 [d=true] h [] 4 true]<|
.ite (bif d then (decide (l>a.D)) else false) (
.r (.ret false)) (
.r (.cont ()))
def S_qz_b2 (m:TLa) (n:(List TTr)) (i:TTr) (e:Nat) (_:Unit):SC Bool (Step Unit Bool) :=
.reg 11 [] [] [.w e,.ev 0]<|
 let a:=(m.O.getD e dF)
 let b:=(cO (a.C==(-1)) (a.C==i.C))
.calld [b=true] dF (@F_qj_ok i.L a.B) fun j f =>
 let c:=(bif b then j else false)
.calld [c=true] dF (@F_qj_ok i.V a.B) fun k g =>
 let d:=(bif c then (!k) else false)
.calld [d=true] dF (@F_qa_ok m (n++([i]:List TTr)) a.B a.C) fun l h =>
.reg 13 [] [(6,hc f [] true),(13,hc g [] true),(23,hc h [] true)] [.clg 4 [b=true] f [] 4 true,.clg 2 [c=true] g [] 4 true,.clg 0 [d=true] h [] 4 true]<|
.ite (bif d then (decide (l<a.D)) else false) (
.r (.ret false)) (
.r (.cont ()))
def S_qz (c:TLa) (b:(List TTr)) (f:TTr):SC Bool Bool :=
.guard [b.length * (2 * 72)<=2 ^ 48,(b.length+1) * (2 * 72)<=2 ^ 48]<|
 let a:=([f]:List TTr)
.reg 1 [2,5] [(2,{ h:=.obj }),(4,hv (AV.d (eL TTr.e a))),(5,{ cast:=some (AV.ref 2 ((b++a).length) 0 ((b++a).length)),obs:=[(2,(eS 7 TTr.e (b++a)))] })] [.pf (p:=∀ k,k<b.length->(TTr.d (b.getD k dF)).wd=7) (fun _ _=>rfl),.ev 0,.pf (z7 TTr.e a),.pf (z7 TTr.e a),.e b.length,.e b.length,.pf (p:=∀ k,k<1->(TTr.d (a.getD k dF)).wd=7) (fun _ _=>rfl),.ev 1,.pf (zk (o:=2) (l:=b) (x:=a)),.pf (zj (sz:=7) (e:=TTr.e) (l:=b) (x:=a))]<|
.guard [(b++a).length<2 ^ 63]<|
.frz 2 (.ev 0) none [7] []<|
.range (c.J.length:Int) c.J.length rfl (.slot 21) 23 [3,5,7,21,22] (fun (_:Unit)=>[]) (fun _=>[]) () (S_qz_b1 c b f) (fun _ => 
.range (c.O.length:Int) c.O.length rfl (.slot 67) 69 [3,5,7,67,68] (fun (_:Unit)=>[]) (fun _=>[]) () (S_qz_b2 c b f) (fun _ => 
.r true) id) id
def F_qz (a:TLa) (b:(List TTr)) (c:TTr):=(S_qz a b c).den
theorem F_qz_ok {a:TLa} {b:(List TTr)} {c:TTr}:FO (F_qz a b c) 66 [(TLa.d a),(AV.d (eL TTr.e b)),(TTr.d c)] [] vb NL:=fO (s:=S_qz a b c) Tryz.func66
def S_q10_b1 (f:(List TTr)) (e:TTr) (b:Nat) (d:Int):SC Int (Step Int Int) :=
.reg 17 [] [] [.w b,.ev 0]<|
 let a:=(f.getD b dF)
.ite (bif (bif (a.U==e.U) then (a.C==e.C) else false) then (a.L==e.L) else false) (
.r (.cont (i64.wrap (d+a.D)))) (
.c d)
def S_q10_b2 (e:(List TTr)) (b:TTr) (c:R_qm) (f:Nat) (_:Unit):SC Int (Step Unit Int) :=
.reg 12 [] [] [.w f,.ev 0]<|
 let g:=(c.1.N.getD f dF)
.a 13 2 4 (@F_q3t_ok g b) fun j=>
.ite (!j) (
.r (.cont ())) (
.range (e.length:Int) e.length rfl (.slot 1) 111 [1,5,7,10,109,110] (fun (d:Int)=>[(11,(vi d))]) (fun _=>[]) b.D (S_q10_b1 e b) (fun d => 
.call (@F_q13_ok c.1 b.L b.C) fun k h=>
.call (@F_q3u_ok k g.T) fun l i=>
.reg 21 [] [(5,hc h [] true),(8,hc i [] true)] [.cl 1 h [] 4 true,.cl 0 i [] 4 true]<|
.ite (decide (d>l.1)) (
.r (.ret 13)) (
.a 24 6 4 (@F_q3v_ok c.1 e b.L b.C) fun m=>
.ite (decide (m<b.D)) (
.r (.ret 15)) (
.a 26 3 4 (@F_qz_ok c.1 e b) fun n=>
.ite (!n) (
.r (.ret 14)) (
.r (.ret 0))))) .ret)
def S_q10 (m:TLa) (n:(List TTr)) (a:TTr):SC Int Int :=
.ite (cO (cO (cO (cO (cO (cO (cO (decide (a.H<1)) (decide (a.H>1000000))) (decide (a.U<1))) (decide (a.U>1000000))) (decide (a.G<0))) (decide (a.G>35990))) (decide (a.D<1))) (decide (a.D>1000000000000))) (
.r 2) (
.call (@F_ql_ok m a.L) fun c f=>
.calld [(!c)=false] dF (@F_ql_ok m a.V) fun j g =>
.reg 3 [] [(3,hc f [] true),(9,hc g [] true)] [.cl 2 f [] 2 true,.clg 0 [(!c)=false] g [] 2 true]<|
.ite (cO (cO (!c) (!j)) (a.L==a.V)) (
.r 5) (
.call (@F_q2m_ok m a.C) fun d h=>
.calld [(!d)=false] dF (@F_q33_ok a.G) fun k i =>
.reg 5 [] [(3,hc h [] true),(8,hc i [] true)] [.cl 2 h [] 2 true,.clg 0 [(!d)=false] i [] 2 true]<|
.ite (cO (!d) (decide (k>a.C))) (
.r 16) (
.call (@F_qm_ok m a.G) fun e l=>
.reg 7 [] [(3,hc l [] true),(7,{ obs:=[(2,(TLa.b (⟨0,0,[],[],[],[],[],[],[],[]⟩:TLa)))] })] [.cl 0 l [] 2 true,.pf cz2]<|
.ite (e.2 != 0) (
.r e.2) (
.range (e.1.N.length:Int) e.1.N.length rfl (.slot 97) 99 [1,5,7,97,98] (fun (_:Unit)=>[]) (fun _=>[]) () (S_q10_b2 n a e) (fun _ => 
.r 12) id))))
def F_q10 (a:TLa) (b:(List TTr)) (c:TTr):=(S_q10 a b c).den
theorem F_q10_ok {a:TLa} {b:(List TTr)} {c:TTr}:FO (F_q10 a b c) 39 [(TLa.d a),(AV.d (eL TTr.e b)),(TTr.d c)] [] vi NL:=fO (s:=S_q10 a b c) Tryz.func39
def S_q1k_b1 (g:TLa) (e:R_qd) (b:TTr×Int×Int):SC (Int×Int) (Step (TTr×Int×Int) (Int×Int)) :=
.ite (decide (b.2.1<b.2.2)) (
.reg 10 [] [] [.pf (p:=(2:Int)≠0) dk]<|
 let c:=(i64.wrap (b.2.1+(i64.wrap ((i64.wrap ((i64.wrap (b.2.2-b.2.1))+1)).tdiv 2))))
 let d:=(⟨b.1.H,b.1.G,b.1.C,b.1.U,b.1.L,b.1.V,c⟩:TTr)
.a 11 3 2 (@F_q10_ok g e.1 d) fun f=>
.ite (f==0) (
.r (.cont (d,c,b.2.2))) (
.r (.cont (d,b.2.1,(i64.wrap (c-1)))))) (
.r (.brk (b.1,b.2.1,b.2.2)))
def S_q1k (k:TLa) (i:(List TTr)) (l:TTr):SC (Int×Int) (Int×Int) :=
.a 1 2 2 (@F_qd_ok k i) fun e=>
.ite (e.2 != 0) (
.r (0,e.2)) (
 let f:=(i.length:Int)
 let d:=(decide (f>0))
 let g:=(i64.wrap (f-1))
.calld [d=true] dF (@F_q3s_ok (i.getD g.toNat dF) l) fun j h =>
.guard [AllP [d=true]->((0:Int)<=g),AllP [d=true]->(g.toNat<i.length)]<|
.reg 4 [] [(11,hc h [] true)] [.ev 0,.ev 1,.clg 2 [d=true] h [] 2 true]<|
.ite (bif d then (!j) else false) (
.r (0,8)) (
.ite (f==60) (
.r (0,3)) (
.iter [3,5,8] (fun (c:TTr×Int×Int)=>[(10,(vi c.2.1)),(11,(vi c.2.2))]) (fun c=>[(1,(TTr.b c.1))]) (l,0,1000000000000) (S_q1k_b1 k e) (fun c =>
.r (c.2.1,0)) id)))
def F_q1k (a:TLa) (b:(List TTr)) (c:TTr):=(S_q1k a b c).den
theorem F_q1k_ok {a:TLa} {b:(List TTr)} {c:TTr}:FO (F_q1k a b c) 28 [(TLa.d a),(AV.d (eL TTr.e b)),(TTr.d c)] [] (fun x=>(AV.tup [(vi x.1),(vi x.2)])) NL:=fO (s:=S_q1k a b c) Tryz.func28
def S_q6_b1 (G:TLa) (H:(List TTr)) (C:Y8) (D:Int) (I:Int) (i:R_q1) (u:R_qc) (v:R_qk) (x:Nat) (y:R_q31) (z:Nat) (A:R_qd) (B:R_q0) (q:Nat) (s:TTape):SC Bool (Step TTape Bool) :=
.reg 21 [] [] [.w q,.ev 0]<|
 let b:=(([I,(i64.wrap ((i64.wrap (360 * i.1.E))+B.1))]:List Int).getD q dF)
 let d:=(([u.1,y.1,H]:List (List TTr)).getD z dF)
 let e:=(([i.1,v.1,G]:List TLa).getD x dF)
.a 22 3 5 (@F_qn_ok e d b) fun j=>
.a 23 3 5 (@F_qe_ok e d b) fun k=>
.call (@F_q4w_ok i.1.F s) fun l m=>
.call (@F_q1j_ok e d l.1 i.1.E b) fun f n=>
.reg 24 [5] [(5,hc m [1] false),(9,hc n [] true)] [.cl 1 m [1] 5 false,.cl 0 n [] 5 true]<|
 let p:=(cO (j.2 != k.2) (f.2.2 != A.2))
.calld [p=false] dF (@F_q2u_ok j.1 k.1) fun t o =>
.reg 25 [] [(11,hc o [] true)] [.clg 0 [p=false] o [] 5 true]<|
.ite (cO (cO (cO p (!t)) (decide (f.1<0))) (decide (f.2.1<0))) (
.r (.ret false)) (
.a 27 5 5 (@F_q1j_ok e d C D b) fun g=>
.a 28 5 5 (@F_q4x_ok e d C D b) fun h=>
.ite (cO (cO (g.1 != h.1) (g.2.1 != h.2.1)) (g.2.2 != h.2.2)) (
.r (.ret false)) (
.c l.2))
def S_q6_b2 (N:TLa) (O:(List TTr)) (Q:Y8) (R:Int) (P:Int) (g:R_q1) (x:R_qc) (y:R_q0) (z:R_qv) (A:R_qg) (B:R_qg) (C:R_qk) (D:Nat) (F:R_q31) (q:Nat) (G:TTape):SC Bool (Step TTape Bool) :=
.reg 12 [] [] [.w q,.ev 0]<|
 let d:=(([x.1,F.1,O]:List (List TTr)).getD q dF)
 let e:=(([g.1,C.1,N]:List TLa).getD D dF)
.a 13 2 5 (@F_q3f_ok e d) fun h=>
.a 14 2 5 (@F_q1a_ok e d) fun j=>
.a 15 2 5 (@F_q4v_ok e d) fun k=>
.a 16 2 5 (@F_qd_ok e d) fun s=>
 let t:=(cO (h.2 != j.2) (k.2 != s.2))
.calld [t=false] dF (@F_q2s_ok h.1 j.1) fun H l =>
 let u:=(cO t (!H))
.calld [u=false] dF (@F_q2t_ok k.1 s.1) fun I m =>
.reg 17 [] [(11,hc l [] true),(17,hc m [] true)] [.clg 2 [t=false] l [] 5 true,.clg 0 [u=false] m [] 5 true]<|
.ite (cO u (!I)) (
.r (.ret false)) (
.call (@F_q0_ok 300 G) fun v J=>
 let K:=(i64.wrap (360 * g.1.E))
 let L:=([P,(i64.wrap (K+v.1))]:List Int)
.reg 19 [5] [(5,hc J [1] false),(7,hv (vl L))] [.cl 0 J [1] 5 false,.pf (z7 (DV.i .i64) L)]<|
.range 2 2 rfl (.why (.pf (p:=2<2 ^ 63) dk)) 158 [2,3,4,5,13,14,15,16,18,20,28,88,89,90,99,100,101,156,157] (fun (_:TTape)=>[]) (fun f=>[(1,(TTape.b f))]) v.2 (S_q6_b1 N O Q R P g x C D F q s v) (fun f => 
 let M:=(⟨90,(i64.wrap (K+y.1)),g.1.E,z.1,A.1,B.1,0⟩:TTr)
.a 32 3 5 (@F_q30_ok e d M) fun n=>
.a 33 3 5 (@F_q1k_ok e d M) fun o=>
.ite (cO (n.1 != o.1) (n.2 != o.2)) (
.r (.ret false)) (
.c f)) .ret)
def S_q6_b3 (t:TLa) (s:(List TTr)) (u:Y8) (v:Int) (x:Int) (q:R_q1) (f:R_qc) (h:R_q0) (i:R_qv) (j:R_qg) (k:R_qg) (r:R_qk) (l:Nat) (m:TTape):SC Bool (Step TTape Bool) :=
.reg 9 [] [(2,{ obs:=[(4,(TLa.b (⟨0,0,[],[],[],[],[],[],[],[]⟩:TLa)))] })] [.w l,.ev 0,.pf cz2]<|
.call (@F_q31_ok f.1 m) fun g n=>
 let o:=([f.1,g.1,s]:List (List TTr))
.reg 10 [] [(3,hc n [1] false),(5,hv (AV.d (eL (eL TTr.e) o)))] [.cl 0 n [1] 5 false,.pf (z7 (eL TTr.e) o)]<|
.range 3 3 rfl (.why (.pf (p:=3<2 ^ 63) dk)) 101 [2,3,4,5,13,14,15,16,18,88,89,90,99,100] (fun (_:TTape)=>[]) (fun a=>[(1,(TTape.b a))]) g.2 (S_q6_b2 t s u v x q f h i j k r l g) (fun a => 
.c a) .ret
def S_q6 (P:(List Int)) (w:TLa) (K:(List TTr)) (L:Y8) (N:Int) (O:Int):SC Bool Bool :=
.call (@F_q2_ok w) fun f n=>
.calld [(!f)=false] dF (@F_q29_ok K) fun x o =>
.reg 1 [] [(1,hc n [] true),(5,hc o [] true)] [.cl 2 n [] 1 true,.clg 0 [(!f)=false] o [] 1 true]<|
.ite (cO (cO (!f) (!x)) (decide ((L.length:Int)>60))) (
.a 2 0 1 (@F_q3q_ok) fun y=>
.r y) (
.call (@F_q4s_ok P) fun z B=>
.k 3 1 B [] 1 false<|
.call (@F_q1_ok z) fun c C=>
.reg 4 [] [(1,hc C [1] false),(2,{ obs:=[(2,(TLa.b (⟨0,0,[],[],[],[],[],[],[],[]⟩:TLa)))] })] [.cl 0 C [1] 2 false,.pf cz2]<|
.call (@F_qc_ok c.1 8 c.2) fun g M=>
.k 5 2 M [1] 3 false<|
 let D:=[(2,(AV.d (eL TTr.e K))),(3,(AV.d (DV.str L))),(4,(vi N)),(5,(vi O)),(7,(vp 0)),(13,(vp 1)),(14,(vp 2)),(15,(AV.d (eL TTr.e g.1)))]
.sh (H:=NoH) (A:=True) (.pf trivial) D D [(TLa.b w),(TTape.b g.2),(TLa.b c.1)] [(TLa.b w),(TTape.b g.2),(TLa.b c.1),Ob.unb] (fun _=>z6e) (z4k _)<|
.call (@F_q0_ok 700 g.2) fun q i=>
.call (@F_qv_ok 1 3 q.2) fun s j=>
.call (@F_qg_ok c.1.F s.2) fun t l=>
.call (@F_qg_ok c.1.F t.2) fun u m=>
.reg 6 [4,9,13,17,19,20] [(4,hc i [1] false),(9,hc j [1] false),(13,hc l [1] false),(17,hc m [1] false),(19,{ h:=.born 3 false })] [.cl 3 i [1] 4 false,.cl 3 i [1] 4 false,.cl 2 j [1] 4 false,.cl 2 j [1] 4 false,.cl 1 l [1] 4 false,.cl 1 l [1] 4 false,.cl 0 m [1] 4 false,.cl 0 m [1] 4 false]<|
.call (@F_qk_ok c.1 u.2) fun v E=>
 let G:=([c.1,v.1,w]:List TLa)
.reg 7 [3] [(3,hc E [1] false),(5,hv (AV.d (eL TLa.e G)))] [.cl 0 E [1] 4 false,.pf (z7 TLa.e G)]<|
.range 3 3 rfl (.why (.pf (p:=3<2 ^ 63) dk)) 90 [2,3,4,5,13,14,15,16,88,89] (fun (_:TTape)=>[]) (fun I=>[(1,(TTape.b I))]) v.2 (S_q6_b3 w K L N O c g q s t u v) (fun _ => 
.a 38 0 4 (@F_q3q_ok) fun J=>
.r J) id)
def F_q6 (a:(List Int)) (b:TLa) (c:(List TTr)) (d:Y8) (e:Int) (f:Int):=(S_q6 a b c d e f).den
theorem F_q6_ok {a:(List Int)} {b:TLa} {c:(List TTr)} {f:Y8} {g:Int} {h:Int}:FO (F_q6 a b c f g h) 3 [(vl a),(TLa.d b),(AV.d (eL TTr.e c)),(AV.d (DV.str f)),(vi g),(vi h)] [] vb NL:=fO (s:=S_q6 a b c f g h) Tryz.func3
end
end Go.Proofs.YtbmpcbbimefmoaaGreatDoor
