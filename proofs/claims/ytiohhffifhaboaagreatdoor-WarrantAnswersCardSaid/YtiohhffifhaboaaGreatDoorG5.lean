/- A part of the proof: what the functions compute, and that their calls return it. No condition. -/
import Derived.Test.YtiohhffifhaboaaGreatDoorG4
/- What the functions compute, and that their calls return it. No condition. -/
namespace Go.Proofs.YtiohhffifhaboaaGreatDoor
open Go Go.TA
open Go.IntKind (i64)
noncomputable section
set_option maxRecDepth 100000
set_option maxHeartbeats 2000000
def S_q37 (c:(List TOr)) (d:TOr):SC Bool Bool :=
.call (@F_q1o_ok c d) fun a b=>
.k 1 2 b [0] 1 true<|
.r (decide (a>=0))
def F_q37 (a:(List TOr)) (b:TOr):=(S_q37 a b).den
theorem F_q37_ok {c:(List TOr)} {a:TOr}:FO (F_q37 c a) 183 [(AV.d (eL TOr.e c)),(AV.fn 182 [(vp 0)])] [(TOr.b a)] vb (fun _=>[(TOr.b a)]):=fO (s:=S_q37 c a) Tryz.func183
def S_q2s (c:TBo) (f:Int):SC Bool Bool :=
.guard [(0:Int)<=f,f.toNat<c.G.length]<|
.reg 1 [] [] [.ev 0,.ev 1]<|
 let a:=(c.G.getD f.toNat dF)
 let g:=(a.D != (i64.wrap (f+1)))
.calld [g=false] dF (@F_qx_ok a.E 1 (c.C.length:Int)) fun w m =>
.reg 2 [] [(11,hc m [] true)] [.clg 0 [g=false] m [] 2 true]<|
.ite (cO g (!w)) (
.r false) (
 let h:=(i64.wrap (a.E-1))
.guard [(0:Int)<=h,h.toNat<c.C.length]<|
.reg 4 [] [] [.ev 0,.ev 1]<|
 let i:=(c.G.take f.toNat)
 let j:=(⟨[],[],[],i⟩:TBo)
.call (@F_q36_ok j a.E) fun n o=>
.guard [f.toNat<=c.G.length]<|
.reg 5 [] [(3,hv (AV.d (eL TOr.e i))),(4,hv (TBo.d j)),(7,hc o [] true)] [.ev 7,.ev 0,.der (fun (h0:f.toNat<=c.G.length)=>lvT TOr.e c.G h0) 0,.pf (p:=LeV (AV.d (DV.agg [Z0,Z0,Z0,(eL TOr.e i)])) (TBo.d j)) (z6s rfl (DLe.agg (DLeL.cons DLe.sl0 (DLeL.cons DLe.sl0 (DLeL.cons DLe.sl0 (DLeL.cons (DLe.refl _) DLeL.nil)))))),.cl 1 o [] 3 true]<|
.call (@F_q1v_ok a.N) fun x q=>
 let s:=(c.C.getD h.toNat dF)
 let b:=(bif x then (decide (a.N>=s.N)) else false)
.calld [b=true] dF (@F_q1y_ok a.N) fun y t =>
 let k:=(i64.wrap (s.I-1))
.calld [b=true] dF (@F_q21_ok c (c.B.getD k.toNat dF)) fun z u =>
 let l:=(bif (bif b then (decide (y<=(i64.wrap (z+1)))) else false) then (a.Q==(i64.wrap ((n.length:Int)+1))) else false)
.calld [l=true] dF (@F_q37_ok n a) fun A v =>
.guard [AllP [b=true]->((0:Int)<=k),AllP [b=true]->(k.toNat<c.B.length)]<|
.reg 7 [] [(2,hc q [] true),(13,hc t [] true),(22,hc u [] true),(37,hc v [1] true)] [.cl 8 q [] 3 true,.clg 6 [b=true] t [] 3 true,.ev 0,.ev 1,.clg 4 [b=true] u [] 3 true,.clg 2 [l=true] v [1] 3 true]<|
.r (bif l then (!A) else false))
def F_q2s (a:TBo) (b:Int):=(S_q2s a b).den
theorem F_q2s_ok {a:TBo} {b:Int}:FO (F_q2s a b) 142 [(TBo.d a),(vi b)] [] vb NL:=fO (s:=S_q2s a b) Tryz.func142
def S_q23_b1 (d:TBo) (b:Nat) (_:Unit):SC Bool (Step Unit Bool) :=
.a 4 3 1 (@F_q2s_ok d (b:Int)) fun c=>
.ite (!c) (
.r (.ret false)) (
.r (.cont ()))
def S_q23 (b:TBo) (a:Int):SC Bool Bool :=
.guard [a.toNat<2 ^ 63]<|
.range a a.toNat rfl (.why (.ev 0)) 9 [1,2,3,8] (fun (_:Unit)=>[]) (fun _=>[]) () (S_q23_b1 b) (fun _ => 
.r (decide (a<=200))) id
def F_q23 (a:TBo) (b:Int):=(S_q23 a b).den
theorem F_q23_ok {a:TBo} {b:Int}:FO (F_q23 a b) 138 [(TBo.d a),(vi b),(AV.fn 142 [])] [] vb NL:=fO (s:=S_q23 a b) Tryz.func138
def S_q38 (a:TBo):SC Bool Bool :=
.call (@F_q1z_ok a (a.A.length:Int)) fun b e=>
.calld [b=true] dF (@F_q20_ok a (a.B.length:Int)) fun i f =>
 let c:=(bif b then i else false)
.calld [c=true] dF (@F_q22_ok a (a.C.length:Int)) fun j g =>
 let d:=(bif c then j else false)
.calld [d=true] dF (@F_q23_ok a (a.G.length:Int)) fun k h =>
.reg 1 [] [(4,hc e [] true),(10,hc f [] true),(17,hc g [] true),(24,hc h [] true)] [.cl 6 e [] 1 true,.clg 4 [b=true] f [] 1 true,.clg 2 [c=true] g [] 1 true,.clg 0 [d=true] h [] 1 true]<|
.r (bif d then k else false)
def F_q38 (a:TBo):=(S_q38 a).den
theorem F_q38_ok {a:TBo}:FO (F_q38 a) 100 [(TBo.d a)] [] vb NL:=fO (s:=S_q38 a) Tryz.func100
def S_q2a (a:Int) (b:Int) (c:Int):SC Bool Bool :=
.r (bif (decide (a>=b)) then (decide (a<=c)) else false)
def F_q2a (a:Int) (b:Int) (c:Int):=(S_q2a a b c).den
theorem F_q2a_ok {a:Int} {b:Int} {c:Int}:FO (F_q2a a b c) 145 [(vi a),(vi b),(vi c)] [] vb NL:=fO (s:=S_q2a a b c) Tryz.func145
def S_q3w (f:Y8) (g:Int):SC Bool Bool :=
.call (@F_q46_ok f) fun d b=>
 let a:=(decide ((d.length:Int)>0))
.calld [a=true] dF (@F_q2a_ok g 0 99) fun e c =>
.reg 1 [] [(1,hc b [] true),(6,hc c [] true)] [.cl 2 b [] 0 true,.clg 0 [a=true] c [] 0 true]<|
.r (bif a then e else false)
def F_q3w (a:Y8) (b:Int):=(S_q3w a b).den
theorem F_q3w_ok {a:Y8} {b:Int}:FO (F_q3w a b) 143 [(AV.d (DV.str a)),(vi b)] [] vb NL:=fO (s:=S_q3w a b) Tryz.func143
def S_q2t (c:Int):SC Bool Bool :=
.a 1 1 0 (@F_q2a_ok c 0 1000000000000000) fun b=>
.r b
def F_q2t (a:Int):=(S_q2t a).den
theorem F_q2t_ok {a:Int}:FO (F_q2t a) 144 [(vi a)] [] vb NL:=fO (s:=S_q2t a) Tryz.func144
def S_q39 (d:TRi):SC Bool Bool :=
.call (@F_q3w_ok d.J d.K) fun a e=>
.calld [a=true] dF (@F_q2t_ok d.R) fun i f =>
 let b:=(bif a then i else false)
.calld [b=true] dF (@F_q2t_ok d.W) fun j g =>
 let c:=(bif b then j else false)
.calld [c=true] dF (@F_q2a_ok d.T 0 d.R) fun k h =>
.reg 1 [] [(4,hc e [] true),(8,hc f [] true),(13,hc g [] true),(20,hc h [] true)] [.cl 6 e [] 1 true,.clg 4 [a=true] f [] 1 true,.clg 2 [b=true] g [] 1 true,.clg 0 [c=true] h [] 1 true]<|
.r (bif c then k else false)
def F_q39 (a:TRi):=(S_q39 a).den
theorem F_q39_ok {a:TRi}:FO (F_q39 a) 101 [(TRi.d a)] [] vb NL:=fO (s:=S_q39 a) Tryz.func101
def S_q3a (a:Y8):SC Bool Bool :=
.r (!(a==a))
def F_q3a (a:Y8):=(S_q3a a).den
theorem F_q3a_ok {a:Y8}:FO (F_q3a a) 205 [(AV.d (DV.str a))] [] vb NL:=fO (s:=S_q3a a) Tryz.func205
def S_q3x (c:Y8) (d:Y8):SC Int Int :=
.a 1 1 0 (@F_q3a_ok c) fun e=>
.a 2 1 0 (@F_q3a_ok d) fun b=>
.ite e (
.ite b (
.r 0) (
.r (-1))) (
.ite b (
.r 1) (
.ite (Op.bytesLess c d) (
.r (-1)) (
.ite (!(Op.bytesLess c d||c==d)) (
.r 1) (
.r 0))))
def F_q3x (a:Y8) (b:Y8):=(S_q3x a b).den
theorem F_q3x_ok {a:Y8} {b:Y8}:FO (F_q3x a b) 184 [(AV.d (DV.str a)),(AV.d (DV.str b))] [] vi NL:=fO (s:=S_q3x a b) Tryz.func184
def S_q3b (a:Int):SC Bool Bool :=
.r (a != a)
def F_q3b (a:Int):=(S_q3b a).den
theorem F_q3b_ok {a:Int}:FO (F_q3b a) 126 [(vi a)] [] vb NL:=fO (s:=S_q3b a) Tryz.func126
def S_q2b (c:Int) (d:Int):SC Int Int :=
.a 1 1 0 (@F_q3b_ok c) fun e=>
.a 2 1 0 (@F_q3b_ok d) fun b=>
.ite e (
.ite b (
.r 0) (
.r (-1))) (
.ite b (
.r 1) (
.ite (decide (c<d)) (
.r (-1)) (
.ite (decide (c>d)) (
.r 1) (
.r 0))))
def F_q2b (a:Int) (b:Int):=(S_q2b a b).den
theorem F_q2b_ok {a:Int} {b:Int}:FO (F_q2b a b) 83 [(vi a),(vi b)] [] vi NL:=fO (s:=S_q2b a b) Tryz.func83
def S_q1g_b1 (e:(List Int)) (d:(List Int)) (b:Nat) (_:Unit):SC Int (Step Unit Int) :=
.reg 3 [] [] [.w b,.ev 0]<|
.ite (decide ((b:Int)>=(d.length:Int))) (
.r (.ret 1)) (
.guard [b<d.length]<|
.reg 6 [] [] [.w b,.ev 0]<|
.a 7 2 0 (@F_q2b_ok (e.getD b dF) (d.getD b dF)) fun c=>
.ite (c != 0) (
.r (.ret c)) (
.r (.cont ())))
def S_q1g (a:(List Int)) (b:(List Int)):SC Int Int :=
.range (a.length:Int) a.length rfl (.slot 0) 11 [0,1,9,10] (fun (_:Unit)=>[]) (fun _=>[]) () (S_q1g_b1 a b) (fun _ => 
.ite (decide ((a.length:Int)<(b.length:Int))) (
.r (-1)) (
.r 0)) id
def F_q1g (a:(List Int)) (b:(List Int)):=(S_q1g a b).den
theorem F_q1g_ok {a:(List Int)} {b:(List Int)}:FO (F_q1g a b) 185 [(vl a),(vl b)] [] vi NL:=fO (s:=S_q1g a b) Tryz.func185
def S_q3c (h:Y8) (i:Y8):SC Int Int :=
.call (@F_q46_ok h) fun b c=>
.call (@F_q46_ok i) fun d e=>
.reg 1 [] [(1,hc c [] true),(3,hc e [] true)] [.cl 1 c [] 0 true,.cl 0 e [] 0 true]<|
.ite (bif ((b.length:Int)==0) then ((d.length:Int)==0) else false) (
.a 3 2 0 (@F_q3x_ok h i) fun f=>
.r f) (
.a 4 2 0 (@F_q1g_ok b d) fun g=>
.r g)
def F_q3c (a:Y8) (b:Y8):=(S_q3c a b).den
theorem F_q3c_ok {a:Y8} {b:Y8}:FO (F_q3c a b) 147 [(AV.d (DV.str a)),(AV.d (DV.str b))] [] vi NL:=fO (s:=S_q3c a b) Tryz.func147
def S_q1w_b1 (b:(List Int)) (a:Nat) (_:Unit):SC Int (Step Unit Int) :=
.reg 4 [] [] [.w a,.ev 0]<|
.ite ((b.getD a dF) != 0) (
.r (.ret (b.getD a dF))) (
.r (.cont ()))
def S_q1w (a:(List Int)):SC Int Int :=
.range (a.length:Int) a.length rfl (.slot 6) 8 [3,6,7] (fun (_:Unit)=>[]) (fun _=>[]) () (S_q1w_b1 a) (fun _ => 
.r 0) id
def F_q1w (a:(List Int)):=(S_q1w a).den
theorem F_q1w_ok {a:(List Int)}:FO (F_q1w a) 146 [(vl a)] [] vi NL:=fO (s:=S_q1w a) Tryz.func146
def S_q3d (h:TRi) (j:TRi):SC Int Int :=
.call (@F_q3c_ok h.J j.J) fun e b=>
.call (@F_q2b_ok h.K j.K) fun f c=>
 let a:=([e,f]:List Int)
.call (@F_q1w_ok a) fun g d=>
.reg 1 [] [(4,hc b [] true),(9,hc c [] true),(10,hv (vl a)),(11,hc d [] true)] [.cl 2 b [] 2 true,.cl 1 c [] 2 true,.pf (zb (DV.i .i64) a),.cl 0 d [] 2 true]<|
.r g
def F_q3d (a:TRi) (b:TRi):=(S_q3d a b).den
theorem F_q3d_ok {a:TRi} {b:TRi}:FO (F_q3d a b) 102 [(TRi.d a),(TRi.d b)] [] vi NL:=fO (s:=S_q3d a b) Tryz.func102
def S_q3y (a:TRi) (b:Y8) (c:Int):SC Bool Bool :=
.r (bif (a.J==b) then (a.K==c) else false)
def F_q3y (a:TRi) (b:Y8) (c:Int):=(S_q3y a b c).den
theorem F_q3y_ok {c:TRi} {a:Y8} {b:Int}:FO (F_q3y c a b) 187 [(TRi.d c),(vp 0),(vp 1)] [(bx (DV.str a)),(Ob.box (vi b))] vb (fun _=>[(bx (DV.str a)),(Ob.box (vi b))]):=fO (s:=S_q3y c a b) Tryz.func187
def S_q1x_b1 (d:(List TRi)) (e:Y8) (f:Int) (a:Nat) (_:Unit):SC Int (Step Unit Int) :=
.call (@F_q3y_ok (d.getD a dF) e f) fun c b=>
.reg 4 [] [(5,hc b [0,1] true)] [.w a,.ev 1,.cl 0 b [0,1] 2 true]<|
.ite c (
.r (.ret (a:Int))) (
.r (.cont ()))
def S_q1x (a:(List TRi)) (b:Y8) (c:Int):SC Int Int :=
.range (a.length:Int) a.length rfl (.slot 0) 8 [0,1,7] (fun (_:Unit)=>[]) (fun _=>[]) () (S_q1x_b1 a b c) (fun _ => 
.r (-1)) id
def F_q1x (a:(List TRi)) (b:Y8) (c:Int):=(S_q1x a b c).den
theorem F_q1x_ok {c:(List TRi)} {a:Y8} {b:Int}:FO (F_q1x c a b) 186 [(AV.d (eL TRi.e c)),(AV.fn 187 [(vp 0),(vp 1)])] [(bx (DV.str a)),(Ob.box (vi b))] vi (fun _=>[(bx (DV.str a)),(Ob.box (vi b))]):=fO (s:=S_q1x c a b) Tryz.func186
def S_q2u (c:TOf) (d:Y8) (e:Int):SC Int Int :=
.call (@F_q1x_ok c.F d e) fun a b=>
.k 1 3 b [1,2] 3 true<|
.r a
def F_q2u (a:TOf) (b:Y8) (c:Int):=(S_q2u a b c).den
theorem F_q2u_ok {a:TOf} {b:Y8} {c:Int}:FO (F_q2u a b c) 148 [(TOf.d a),(AV.d (DV.str b)),(vi c)] [] vi NL:=fO (s:=S_q2u a b c) Tryz.func148
def S_q3e (c:TOf) (d:Y8) (e:Int):SC Bool Bool :=
.a 1 3 1 (@F_q2u_ok c d e) fun b=>
.r (decide (b>=0))
def F_q3e (a:TOf) (b:Y8) (c:Int):=(S_q3e a b c).den
theorem F_q3e_ok {a:TOf} {b:Y8} {c:Int}:FO (F_q3e a b c) 103 [(TOf.d a),(AV.d (DV.str b)),(vi c)] [] vb NL:=fO (s:=S_q3e a b c) Tryz.func103
def S_q3f (c:TOf) (d:Y8) (e:Int):SC TRi TRi :=
.a 1 3 2 (@F_q2u_ok c d e) fun b=>
.ite (decide (b>=0)) (
.guard [(0:Int)<=b,b.toNat<c.F.length]<|
.reg 3 [] [] [.ev 0,.ev 1]<|
.r (c.F.getD b.toNat dF)) (
.r (⟨d,e,0,0,0⟩:TRi))
def F_q3f (a:TOf) (b:Y8) (c:Int):=(S_q3f a b c).den
theorem F_q3f_ok {a:TOf} {b:Y8} {c:Int}:FO (F_q3f a b c) 149 [(TOf.d a),(AV.d (DV.str b)),(vi c)] [] (fun x=>(TRi.d x)) NL:=fO (s:=S_q3f a b c) Tryz.func149
def S_q1p_b1 (g:TBo) (h:Y8) (i:Int) (d:Nat) (e:Int):SC Int (Step Int Int) :=
.reg 4 [] [] [.w d,.ev 0]<|
 let b:=(g.A.getD d dF)
.ite (bif (b.J==h) then (b.K==i) else false) (
.a 6 3 2 (@F_q1f_ok g b.D) fun f=>
.r (.cont (i64.wrap (e+(i64.wrap ((i64.wrap (b.L-b.P))-f.2)))))) (
.c e)
def S_q1p (b:TBo) (c:Y8) (d:Int):SC Int Int :=
.range (b.A.length:Int) b.A.length rfl (.slot 13) 15 [1,2,3,13,14] (fun (a:Int)=>[(7,(vi a))]) (fun _=>[]) 0 (S_q1p_b1 b c d) (fun a => 
.r a) id
def F_q1p (a:TBo) (b:Y8) (c:Int):=(S_q1p a b c).den
theorem F_q1p_ok {a:TBo} {b:Y8} {c:Int}:FO (F_q1p a b c) 150 [(TBo.d a),(AV.d (DV.str b)),(vi c)] [] vi NL:=fO (s:=S_q1p a b c) Tryz.func150
def S_q3g (d:TOf) (e:Y8) (f:Int):SC Int Int :=
.a 1 3 1 (@F_q3f_ok d e f) fun b=>
.a 2 9 2 (@F_q1p_ok d.M e f) fun c=>
.r (i64.wrap ((i64.wrap (b.R-b.T))-c))
def F_q3g (a:TOf) (b:Y8) (c:Int):=(S_q3g a b c).den
theorem F_q3g_ok {a:TOf} {b:Y8} {c:Int}:FO (F_q3g a b c) 104 [(TOf.d a),(AV.d (DV.str b)),(vi c)] [] vi NL:=fO (s:=S_q3g a b c) Tryz.func104
def S_qf_b1 (h:TOf) (c:Nat) (_:Unit):SC Bool (Step Unit Bool) :=
.reg 5 [] [] [.w c,.ev 0]<|
 let e:=(h.F.getD c dF)
.call (@F_q39_ok e) fun a f=>
 let b:=(decide ((c:Int)>0))
 let d:=(i64.wrap ((c:Int)-1))
.calld [b=true,(!a)=false] dF (@F_q3d_ok (h.F.getD d.toNat dF) e) fun i g =>
.guard [AllP [b=true,(!a)=false]->((0:Int)<=d),AllP [b=true,(!a)=false]->(d.toNat<h.F.length)]<|
.reg 6 [] [(1,hc f [] true),(14,hc g [] true)] [.cl 4 f [] 2 true,.ev 0,.ev 1,.clg 2 [b=true,(!a)=false] g [] 2 true]<|
.ite (cO (!a) (bif b then (decide (i>=0)) else false)) (
.r (.ret false)) (
.r (.cont ()))
def S_qf_b2 (f:TOf) (c:Nat) (_:Unit):SC Bool (Step Unit Bool) :=
.reg 11 [] [] [.w c,.ev 0]<|
 let a:=(f.M.A.getD c dF)
.call (@F_q3e_ok f a.J a.K) fun b d=>
.calld [(!b)=false] dF (@F_q3g_ok f a.J a.K) fun g e =>
.reg 12 [] [(5,hc d [] true),(13,hc e [] true)] [.cl 2 d [] 2 true,.clg 0 [(!b)=false] e [] 2 true]<|
.ite (cO (!b) (decide (g<0))) (
.r (.ret false)) (
.r (.cont ()))
def S_qf (a:TOf):SC Bool Bool :=
 let b:=(cO (cO (decide (a.D<1)) (decide (a.D>6))) (decide ((a.F.length:Int)>60)))
.calld [b=false] dF (@F_q38_ok a.M) fun d c =>
.reg 1 [] [(17,hc c [] true)] [.clg 0 [b=false] c [] 1 true]<|
.ite (cO b (!d)) (
.r false) (
.range (a.F.length:Int) a.F.length rfl (.slot 28) 30 [1,28,29] (fun (_:Unit)=>[]) (fun _=>[]) () (S_qf_b1 a) (fun _ => 
.range (a.M.A.length:Int) a.M.A.length rfl (.slot 56) 58 [1,56,57] (fun (_:Unit)=>[]) (fun _=>[]) () (S_qf_b2 a) (fun _ => 
.r true) id) id)
def F_qf (a:TOf):=(S_qf a).den
theorem F_qf_ok {a:TOf}:FO (F_qf a) 68 [(TOf.d a)] [] vb NL:=fO (s:=S_qf a) Tryz.func68
def S_qn (b:TOf) (o:Int) (p:Int):SC (TWa×Int) (TWa×Int) :=
.a 1 1 2 (@F_qf_ok b) fun l=>
 let c:=(⟨0,0,[],0,0,0,0,0,0,0,0,0,0,0⟩:TWa)
.ite (!l) (
.r (c,1)) (
.a 3 5 2 (@F_q1m_ok o 1 (b.M.G.length:Int)) fun m=>
.ite (!m) (
.r (c,6)) (
 let f:=(i64.wrap (o-1))
.guard [(0:Int)<=f,f.toNat<b.M.G.length]<|
.reg 5 [] [] [.ev 0,.ev 1]<|
 let d:=(b.M.G.getD f.toNat dF)
.ite d.Z (
.r (c,9)) (
.a 7 1 2 (@F_q2l_ok p) fun n=>
.ite (!n) (
.r (c,2)) (
.reg 9 [] [] [.ev 3,.ev 4]<|
 let g:=(i64.wrap (d.E-1))
.guard [(0:Int)<=g,g.toNat<b.M.C.length]<|
.reg 10 [] [] [.ev 0,.ev 1]<|
 let h:=(b.M.C.getD g.toNat dF)
 let i:=(i64.wrap (h.I-1))
.guard [(0:Int)<=i,i.toNat<b.M.B.length]<|
.reg 11 [] [] [.ev 0,.ev 1]<|
 let e:=(b.M.B.getD i.toNat dF)
 let j:=(i64.wrap (e.H-1))
.guard [(0:Int)<=j,j.toNat<b.M.A.length]<|
.reg 12 [] [] [.ev 0,.ev 1]<|
 let k:=(b.M.A.getD j.toNat dF)
.r ((⟨p,b.D,k.J,k.K,h.D,d.Q,e.D,k.D,h.L,e.S,d.N,e.X,0,0⟩:TWa),0)))))
def F_qn (a:TOf) (b:Int) (c:Int):=(S_qn a b c).den
theorem F_qn_ok {a:TOf} {b:Int} {c:Int}:FO (F_qn a b c) 33 [(TOf.d a),(vi b),(vi c)] [] (fun x=>(AV.tup [(TWa.d x.1),(vi x.2)])) NL:=fO (s:=S_qn a b c) Tryz.func33
theorem cz1:OLe (bx (DV.agg [(DV.i .i64 0),Z0,(DV.agg [Z0,Z0,Z0,Z0])])) (TOf.b (⟨0,[],(⟨[],[],[],[]⟩:TBo)⟩:TOf)):=z3e (DLe.agg (DLeL.cons (DLe.refl _) (DLeL.cons DLe.sl0 (DLeL.cons (DLe.agg (DLeL.cons DLe.sl0 (DLeL.cons DLe.sl0 (DLeL.cons DLe.sl0 (DLeL.cons DLe.sl0 DLeL.nil))))) DLeL.nil))))
def S_q2v:SC Bool Bool :=
 let A:=(⟨1,1,4320,30,0,2,4400⟩:TCo)
 let B:=(⟨1,[49],12,4320,50,0⟩:TRe)
 let C:=(⟨1,1,1,4340,false⟩:TOr)
 let D:=(⟨[49],12,50,0,0⟩:TRi)
 let E:=(⟨1,1,4330,30⟩:TVe)
 let c:=([D]:List TRi)
 let f:=([B]:List TRe)
 let g:=([A]:List TCo)
 let h:=([E]:List TVe)
 let j:=([C]:List TOr)
.reg 1 [] [(1,hv (AV.d (eL TRi.e c))),(3,hv (AV.d (eL TRe.e f))),(5,hv (AV.d (eL TCo.e g))),(7,hv (AV.d (eL TVe.e h))),(9,hv (AV.d (eL TOr.e j))),(12,{ obs:=[(0,(TOf.b (⟨0,[],(⟨[],[],[],[]⟩:TBo)⟩:TOf)))] })] [.pf (zb TRi.e c),.pf (zb TRe.e f),.pf (zb TCo.e g),.pf (zb TVe.e h),.pf (zb TOr.e j),.pf cz1]<|
.a 2 1 1 (@F_qn_ok (⟨1,c,(⟨f,g,h,j⟩:TBo)⟩:TOf) 1 7) fun s=>
.call (@F_q1s_ok ([3,4]:List Int) s.1 false) fun t u=>
 let k:=(AV.d (eL (DV.i .u64) ([3,4]:List Int)))
.reg 3 [] [(0,hv k),(2,hc u [] true)] [.pf (zb (DV.i .u64) ([3,4]:List Int)),.cl 0 u [] 2 true]<|
.call (@F_q1s_ok ([3,4]:List Int) t.1 true) fun m v=>
.reg 4 [] [(0,hv k),(2,hc v [] true)] [.pf (zb (DV.i .u64) ([3,4]:List Int)),.cl 0 v [] 2 true]<|
 let l:=(bif (bif (s.2==0) then (t.2==0) else false) then (m.2==0) else false)
.calld [l=true] dF (@F_q2o_ok ([3,4]:List Int) m.1) fun F w =>
 let n:=(bif l then (F==0) else false)
.calld [n=true] dF (@F_qh_ok m.1) fun G x =>
 let o:=(bif n then (G==([119,97,114,114,97,110,116,32,55,32,49,32,49,32,49,50,32,49,32,49,32,49,32,49,32,51,48,32,50,32,52,51,52,48,32,52,52,48,48])) else false)
.calld [o=true] dF (@F_qm_ok ([])) fun H y =>
 let q:=(bif o then (H==14695981039346656037) else false)
.calld [q=true] dF (@F_qm_ok ([97])) fun I z =>
.reg 5 [] [(11,hv k),(13,hc w [] true),(18,hc x [] true),(22,hc y [] true),(26,hc z [] true)] [.pf (p:=AllP [l=true]->(LeV (AV.d (DV.sl 2 (listF (DV.b false) [(DV.i .u64 3),(DV.i .u64 4)]))) k)) (fun _hg=>zb (DV.i .u64) ([3,4]:List Int)),.clg 6 [l=true] w [] 2 true,.clg 4 [n=true] x [] 2 true,.clg 2 [o=true] y [] 2 true,.clg 0 [q=true] z [] 2 true]<|
.r (bif q then (I==12638187200555641996) else false)
def F_q2v:=S_q2v.den
theorem F_q2v_ok :FO F_q2v 13 [] [] vb NL:=fO (s:=S_q2v) Tryz.func13
def S_qy_b1 (b:(List TWa)) (a:Nat) (_:Unit):SC Bool (Step Unit Bool) :=
.guard [(0+a)<b.length]<|
.reg 3 [] [] [.e b.length,.w a,.ev 1,.e b.length,.ev 0]<|
.ite (decide ((((b.getD (0+a) dF).J).length:Int)>60)) (
.r (.ret false)) (
.r (.cont ()))
def S_qy (a:(List TWa)):SC Bool Bool :=
.guard [a.length<2 ^ 63]<|
.range (a.length:Int) a.length rfl (.why (.ev 0)) 7 [0,5,6] (fun (_:Unit)=>[]) (fun _=>[]) () (S_qy_b1 a) (fun _ => 
.r (decide ((a.length:Int)<=40))) id
def F_qy (a:(List TWa)):=(S_qy a).den
theorem F_qy_ok {a:(List TWa)}:FO (F_qy a) 14 [(AV.ref 0 a.length 0 a.length)] [(eS 14 TWa.e a)] vb (fun _=>[(eS 14 TWa.e a)]):=fO (s:=S_qy a) Tryz.func14
def S_q14_b1 (b:TBo) (a:Nat) (_:Unit):SC Bool (Step Unit Bool) :=
.reg 3 [] [] [.w a,.ev 0]<|
.ite (decide ((((b.A.getD a dF).J).length:Int)>60)) (
.r (.ret false)) (
.r (.cont ()))
def S_q14 (a:TBo):SC Bool Bool :=
.range (a.A.length:Int) a.A.length rfl (.slot 6) 8 [1,6,7] (fun (_:Unit)=>[]) (fun _=>[]) () (S_q14_b1 a) (fun _ => 
.r (bif (bif (bif (decide ((a.A.length:Int)<=40)) then (decide ((a.B.length:Int)<=40)) else false) then (decide ((a.C.length:Int)<=40)) else false) then (decide ((a.G.length:Int)<=40)) else false)) id
def F_q14 (a:TBo):=(S_q14 a).den
theorem F_q14_ok {a:TBo}:FO (F_q14 a) 47 [(TBo.d a)] [] vb NL:=fO (s:=S_q14 a) Tryz.func47
end
end Go.Proofs.YtiohhffifhaboaaGreatDoor
/- What the functions compute,and that their calls return it. No condition. -/
namespace Go.Proofs.YtiohhffifhaboaaGreatDoor
open Go Go.TA
open Go.IntKind (i64)
noncomputable section
set_option maxRecDepth 100000
set_option maxHeartbeats 2000000
def S_q15_b1 (b:TOf) (a:Nat) (_:Unit):SC Bool (Step Unit Bool) :=
.reg 3 [] [] [.w a,.ev 0]<|
.ite (decide ((((b.F.getD a dF).J).length:Int)>60)) (
.r (.ret false)) (
.r (.cont ()))
def S_q15 (b:TOf):SC Bool Bool :=
.range (b.F.length:Int) b.F.length rfl (.slot 6) 8 [1,6,7] (fun (_:Unit)=>[]) (fun _=>[]) () (S_q15_b1 b) (fun _ => 
 let a:=(decide ((b.F.length:Int)<=70))
.calld [a=true] dF (@F_q14_ok b.M) fun d c =>
.reg 7 [] [(7,hc c [] true)] [.clg 0 [a=true] c [] 1 true]<|
.r (bif a then d else false)) id
def F_q15 (a:TOf):=(S_q15 a).den
theorem F_q15_ok {a:TOf}:FO (F_q15 a) 15 [(TOf.d a)] [] vb NL:=fO (s:=S_q15 a) Tryz.func15
abbrev R_q5:=Int×TTape
def S_q5 (c:(List Int)) (d:TTape):SC R_q5 R_q5 :=
.call (@F_q1_ok (c.length:Int) d) fun a b=>
.guard [(0:Int)<=a.1,a.1.toNat<c.length]<|
.reg 1 [] [(4,hc b [0] false)] [.cl 2 b [0] 1 false,.ev 0,.ev 1]<|
.r ((c.getD a.1.toNat dF),a.2)
def F_q5 (a:(List Int)) (b:TTape):=(S_q5 a b).den
theorem F_q5_ok {a:(List Int)} {c:TTape}:FO (F_q5 a c) 32 [(vp 0),(vl a)] [(TTape.b c)] (fun x=>(vi x.1)) (fun x=>[(TTape.b x.2)]):=fO (s:=S_q5 a c) Tryz.func32
abbrev R_q24:=Y8×TTape
def S_q24 (c:TTape):SC R_q24 R_q24 :=
.call (@F_q1_ok 12 c) fun a b=>
.guard [(0:Int)<=a.1,a.1.toNat<12]<|
.reg 1 [] [(0,hv (AV.d (eL DV.str ([[],[48],[48,49],[49,46],[46,49],[49,46,46,50],[49,48,48],[49,46,50,46,51,46,52,46,53],[120],[49,32],[57,57,46,57,57,46,57,57,46,57,57],[52]]:List Y8)))),(2,hc b [0] false)] [.pf (zb DV.str ([[],[48],[48,49],[49,46],[46,49],[49,46,46,50],[49,48,48],[49,46,50,46,51,46,52,46,53],[120],[49,32],[57,57,46,57,57,46,57,57,46,57,57],[52]]:List Y8)),.cl 2 b [0] 1 false,.ev 0,.ev 1]<|
.r ((([[],[48],[48,49],[49,46],[46,49],[49,46,46,50],[49,48,48],[49,46,50,46,51,46,52,46,53],[120],[49,32],[57,57,46,57,57,46,57,57,46,57,57],[52]]:List Y8).getD a.1.toNat dF),a.2)
def F_q24 (a:TTape):=(S_q24 a).den
theorem F_q24_ok {a:TTape}:FO (F_q24 a) 48 [(vp 0)] [(TTape.b a)] (fun x=>(AV.d (DV.str x.1))) (fun x=>[(TTape.b x.2)]):=fO (s:=S_q24 a) Tryz.func48
abbrev R_q16:=TWa×TTape
def S_q16 (a:TWa) (v:TTape):SC R_q16 R_q16 :=
.call (@F_q5_ok ([(-1),0,1,2,1000001]:List Int) v) fun d g=>
.reg 1 [] [(1,hv (vl ([(-1),0,1,2,1000001]:List Int))),(2,hc g [0] false)] [.pf (zb (DV.i .i64) ([(-1),0,1,2,1000001]:List Int)),.cl 0 g [0] 3 false]<|
.call (@F_q1_ok 12 d.2) fun c t=>
.k 2 1 t [0] 3 false<|
.cut (some 0) [3,4] (fun (_:TTape×TWa)=>[]) (fun e=>[(0,(TTape.b e.1)),(1,(TWa.b e.2))]) (
.ite (c.1==0) (
.r (.next (c.2,(⟨d.1,a.O,a.J,a.K,a.E,a.Q,a.I,a.H,a.L,a.S,a.N,a.X,a.V,a.U⟩:TWa)))) (
.ite (c.1==1) (
.call (@F_q5_ok ([0,1,2,7]:List Int) c.2) fun h j=>
.reg 7 [] [(1,hv (vl ([0,1,2,7]:List Int))),(2,hc j [0] false)] [.pf (zb (DV.i .i64) ([0,1,2,7]:List Int)),.cl 0 j [0] 3 false]<|
.r (.next (h.2,(⟨a.D,h.1,a.J,a.K,a.E,a.Q,a.I,a.H,a.L,a.S,a.N,a.X,a.V,a.U⟩:TWa)))) (
.ite (c.1==2) (
.call (@F_q24_ok c.2) fun l u=>
.k 9 1 u [0] 3 false<|
.r (.next (l.2,(⟨a.D,a.O,l.1,a.K,a.E,a.Q,a.I,a.H,a.L,a.S,a.N,a.X,a.V,a.U⟩:TWa)))) (
.ite (c.1==3) (
.call (@F_q5_ok ([(-1),13,100]:List Int) c.2) fun m n=>
.reg 11 [] [(1,hv (vl ([(-1),13,100]:List Int))),(2,hc n [0] false)] [.pf (zb (DV.i .i64) ([(-1),13,100]:List Int)),.cl 0 n [0] 3 false]<|
.r (.next (m.2,(⟨a.D,a.O,a.J,m.1,a.E,a.Q,a.I,a.H,a.L,a.S,a.N,a.X,a.V,a.U⟩:TWa)))) (
.ite (c.1==4) (
.r (.next (c.2,(⟨a.D,a.O,a.J,a.K,d.1,a.Q,a.I,a.H,a.L,a.S,a.N,a.X,a.V,a.U⟩:TWa)))) (
.ite (c.1==5) (
.r (.next (c.2,(⟨a.D,a.O,a.J,a.K,a.E,d.1,a.I,a.H,a.L,a.S,a.N,a.X,a.V,a.U⟩:TWa)))) (
.ite (c.1==6) (
.call (@F_q5_ok ([1,(-1),1000000000000]:List Int) c.2) fun o p=>
.reg 17 [4,7] [(3,hv (vl ([1,(-1),1000000000000]:List Int))),(4,hc p [0] false)] [.pf (zb (DV.i .i64) ([1,(-1),1000000000000]:List Int)),.cl 0 p [0] 3 false]<|
.r (.next (o.2,(⟨a.D,a.O,a.J,a.K,a.E,a.Q,a.I,a.H,(i64.wrap (a.L+o.1)),a.S,a.N,a.X,a.V,a.U⟩:TWa)))) (
.ite (c.1==7) (
.r (.next (c.2,(⟨a.D,a.O,a.J,a.K,a.E,a.Q,a.I,a.H,a.L,d.1,a.N,a.X,a.V,a.U⟩:TWa)))) (
.ite (c.1==8) (
 let f:=([(-1),(i64.wrap (a.N+1)),35991]:List Int)
.call (@F_q5_ok f c.2) fun q s=>
.reg 21 [] [(4,hv (vl f)),(5,hc s [0] false)] [.pf (zb (DV.i .i64) f),.cl 0 s [0] 3 false]<|
.r (.next (q.2,(⟨a.D,a.O,a.J,a.K,a.E,a.Q,a.I,a.H,a.L,a.S,q.1,a.X,a.V,a.U⟩:TWa)))) (
.ite (c.1==9) (
.r (.next (c.2,(⟨a.D,a.O,a.J,a.K,a.E,a.Q,a.I,a.H,a.L,a.S,a.N,(i64.wrap (a.X+1)),a.V,a.U⟩:TWa)))) (
.ite (c.1==10) (
.r (.next (c.2,(⟨a.D,a.O,a.J,a.K,a.E,a.Q,a.I,a.H,a.L,a.S,a.N,a.X,(IntKind.u64.wrap (a.V+1)),a.U⟩:TWa)))) (
.r (.next (c.2,(⟨a.D,a.O,a.J,a.K,a.E,a.Q,a.I,a.H,a.L,a.S,a.N,a.X,a.V,(IntKind.u64.wrap (a.U+1))⟩:TWa))))))))))))))) fun e=>
.r (e.2,e.1)
def F_q16 (a:TWa) (b:TTape):=(S_q16 a b).den
theorem F_q16_ok {a:TWa} {c:TTape}:FO (F_q16 a c) 17 [(vp 0),(TWa.d a)] [(TTape.b c)] (fun x=>(TWa.d x.1)) (fun x=>[(TTape.b x.2)]):=fO (s:=S_q16 a c) Tryz.func17
def S_q2c (a:TWa) (b:TWa):SC Bool Bool :=
.r (bif (bif (a.O==b.O) then (a.E==b.E) else false) then (a.Q==b.Q) else false)
def F_q2c (a:TWa) (b:TWa):=(S_q2c a b).den
theorem F_q2c_ok {a:TWa} {b:TWa}:FO (F_q2c a b) 25 [(TWa.d a),(TWa.d b)] [] vb NL:=fO (s:=S_q2c a b) Tryz.func25
theorem cz2:LeV (AV.tup [(AV.full 0 fun _=>DV.b false),(vi 1)]) (AV.tup [(AV.d (eL TWa.e ([]))),(vi 1)]):=LeV.tup (LeVs.cons (lvN TWa.e) (LeVs.cons (LeV.refl _) LeVs.nil))
theorem cz3:LeV (AV.tup [(AV.full 0 fun _=>DV.b false),(vi 7)]) (AV.tup [(AV.d (eL TWa.e ([]))),(vi 7)]):=LeV.tup (LeVs.cons (lvN TWa.e) (LeVs.cons (LeV.refl _) LeVs.nil))
theorem cz4:LeV (AV.tup [(AV.full 0 fun _=>DV.b false),(vi 20)]) (AV.tup [(AV.d (eL TWa.e ([]))),(vi 20)]):=LeV.tup (LeVs.cons (lvN TWa.e) (LeVs.cons (LeV.refl _) LeVs.nil))
theorem cz5:LeV (AV.tup [(AV.full 0 fun _=>DV.b false),(vi 3)]) (AV.tup [(AV.d (eL TWa.e ([]))),(vi 3)]):=LeV.tup (LeVs.cons (lvN TWa.e) (LeVs.cons (LeV.refl _) LeVs.nil))
abbrev R_q2:=(List TWa)×Int
def S_q2_b1 (c:(List TWa)) (a:Int):SC R_q2 (Step Int R_q2) :=
.ite (decide (a<(c.length:Int))) (
 let b:=(i64.wrap (a-1))
.guard [(0:Int)<=b,b.toNat<c.length,(0:Int)<=a,a.toNat<c.length]<|
.reg 4 [] [] [.ev 0,.ev 1,.ev 2,.ev 3]<|
.ite (decide (((c.getD b.toNat dF).D)>=((c.getD a.toNat dF).D))) (
.ret [.pf cz2] (.ret ([],1))) (
.r (.cont (i64.wrap (a+1))))) (
.r (.brk a))
def S_q2_b2 (f:(List TWa)) (e:TWa) (a:Nat) (b:Int):SC R_q2 (Step Int R_q2) :=
.reg 11 [] [] [.w a,.ev 0]<|
 let d:=((f.getD a dF).D)
.ite (d==e.D) (
.ret [.pf cz3] (.ret ([],7))) (
.ite (decide (d<e.D)) (
.r (.cont (i64.wrap (b+1)))) (
.c b))
def S_q2_b3 (d:(List TWa)) (e:TWa) (b:Nat) (_:Unit):SC R_q2 (Step Unit R_q2) :=
.reg 19 [] [] [.w b,.ev 0]<|
.a 20 2 2 (@F_q2c_ok (d.getD b dF) e) fun c=>
.ite c (
.ret [.pf cz4] (.ret ([],20))) (
.r (.cont ()))
def S_q2 (g:(List TWa)) (n:TWa):SC R_q2 R_q2 :=
.iter [0,3] (fun (q:Int)=>[(6,(vi q))]) (fun _=>[]) 1 (S_q2_b1 g) (fun _ =>
.a 6 1 1 (@F_q6_ok n) fun s=>
.ite (!s) (
.ret [.pf cz2] ([],1)) (
.range (g.length:Int) g.length rfl (.slot 0) 36 [0,3,34,35] (fun (i:Int)=>[(7,(vi i))]) (fun _=>[]) 0 (S_q2_b2 g n) (fun i => 
.range (g.length:Int) g.length rfl (.slot 0) 55 [0,3,7,53,54] (fun (_:Unit)=>[]) (fun _=>[]) () (S_q2_b3 g n) (fun _ => 
.ite (decide ((g.length:Int)>=200)) (
.ret [.pf cz5] ([],3)) (
 let m:=i.toNat
 let f:=(g.take m)
.guard [(0:Int)<=i,i.toNat<=g.length,f.length * (2 * 120)<=2 ^ 48]<|
.reg 25 [] [(3,hv (AV.d (eL TWa.e f))),(4,{ h:=.obj })] [.ev 0,.ev 1,.der (fun (h0:i.toNat<=g.length)=>lvT TWa.e g h0) 1,.pf (p:=∀ k,k<f.length->(TWa.d (f.getD k dF)).wd=14) (fun _ _=>rfl),.ev 2]<|
 let j:=([n]:List TWa)
 let b:=(f++j)
 let c:=(g.drop m)
.guard [(f.length+1) * (2 * 120)<=2 ^ 48,(b.length+c.length) * (2 * 120)<=2 ^ 48]<|
.reg 26 [3,7] [(2,hv (AV.d (eL TWa.e j))),(3,{ h:=.obj,cast:=some (AV.ref 1 b.length 0 b.length),obs:=[(1,(eS 14 TWa.e b))] }),(6,hv (AV.d (eL TWa.e c))),(7,{ cast:=some (AV.ref 1 ((b++c).length) 0 ((b++c).length)),obs:=[(1,(eS 14 TWa.e (b++c)))] })] [.pf (zb TWa.e j),.e f.length,.e f.length,.pf (p:=∀ k,k<1->(TWa.d (j.getD k dF)).wd=14) (fun _ _=>rfl),.ev 0,.pf (z1b (o:=1) (l:=f) (x:=j)),.pf (z1a (sz:=14) (e:=TWa.e) (l:=f) (x:=j)),.ev 2,.ev 3,.pf (lvD TWa.e g m),.ev 2,.ev 3,.pf (lvD TWa.e g m),.e b.length,.e b.length,.pf (p:=∀ k,k<c.length->(TWa.d (c.getD k dF)).wd=14) (fun _ _=>rfl),.ev 1,.pf (z1b (o:=1) (l:=b) (x:=c)),.pf (z1a (sz:=14) (e:=TWa.e) (l:=b) (x:=c))]<|
.guard [(b++c).length<2 ^ 63]<|
.frz 1 (.ev 0) none [4] []<|
.r ((b++c),0))) id) id)) id
def F_q2 (a:(List TWa)) (b:TWa):=(S_q2 a b).den
theorem F_q2_ok {a:(List TWa)} {b:TWa}:FO (F_q2 a b) 28 [(AV.d (eL TWa.e a)),(TWa.d b)] [] (fun x=>(AV.tup [(AV.d (eL TWa.e x.1)),(vi x.2)])) NL:=fO (s:=S_q2 a b) Tryz.func28
abbrev R_qz:=(List TWa)×TTape
def S_qz_b1 (g:(List Int)) (a:TTape×(List TWa)×Int):SC R_qz (Step (TTape×(List TWa)×Int) R_qz) :=
.ite (decide (a.2.2>0)) (
.call (@F_qb_ok g a.1) fun b c=>
.call (@F_q2_ok a.2.1 b.1) fun d e=>
.reg 5 [] [(3,hc c [0] false),(4,hc e [] true)] [.cl 1 c [0] 1 false,.cl 0 e [] 1 true]<|
 let f:=(i64.wrap (a.2.2-1))
.ite (d.2==0) (
.r (.cont (b.2,d.1,f))) (
.r (.cont (b.2,a.2.1,f)))) (
.r (.brk (a.1,a.2.1,a.2.2)))
def S_qz (g:(List Int)) (h:Int) (i:TTape):SC R_qz R_qz :=
.call (@F_q1_ok (i64.wrap (h+1)) i) fun c f=>
.k 2 3 f [0] 1 false<|
.lev 7 (AV.d (eL TWa.e ([]:List TWa))) (.pf (lvN TWa.e))<|
.iter [0,1] (fun (a:TTape×(List TWa)×Int)=>[(7,(AV.d (eL TWa.e a.2.1))),(8,(vi a.2.2))]) (fun a=>[(0,(TTape.b a.1))]) (c.2,([]:List TWa),c.1) (S_qz_b1 g) (fun a =>
.r (a.2.1,a.1)) id
def F_qz (a:(List Int)) (b:Int) (c:TTape):=(S_qz a b c).den
theorem F_qz_ok {a:(List Int)} {c:Int} {f:TTape}:FO (F_qz a c f) 18 [(vp 0),(AV.d (eL (DV.i .u64) a)),(vi c)] [(TTape.b f)] (fun x=>(AV.d (eL TWa.e x.1))) (fun x=>[(TTape.b x.2)]):=fO (s:=S_qz a c f) Tryz.func18
abbrev R_q17:=Y8
def S_q17_b1 (e:Int) (a:Y8×Int):SC R_q17 (Step (Y8×Int) R_q17) :=
.ite (decide (a.2>=0)) (
.guard [(0:Int)<=a.2]<|
.reg 5 [] [] [.ev 0]<|
 let b:=(i64.wrap (IntKind.u64.wrap ((BitVec.ofInt IntKind.u64.bits (e.fdiv (2 ^ (min a.2.toNat IntKind.u64.bits))) &&& BitVec.ofInt IntKind.u64.bits 15).toNat:Int)))
 let c:=(i64.wrap (b+1))
 let d:=((([48,49,50,51,52,53,54,55,56,57,97,98,99,100,101,102]:Y8).drop b.toNat).take (c.toNat-b.toNat))
.guard [(0:Int)<=b,(0:Int)<=c,b.toNat<=c.toNat,c.toNat<=([48,49,50,51,52,53,54,55,56,57,97,98,99,100,101,102]:Y8).length,a.1.length+d.length<2 ^ 63]<|
.reg 6 [] [] [.ev 0,.ev 1,.ev 2,.ev 3,.ev 4]<|
.r (.cont ((a.1++d),(i64.wrap (a.2-4))))) (
.r (.brk (a.1,a.2)))
def S_q17 (b:Int):SC R_q17 R_q17 :=
.iter [0] (fun (a:Y8×Int)=>[(3,(AV.d (DV.str a.1))),(4,(vi a.2))]) (fun _=>[]) ([],60) (S_q17_b1 b) (fun a =>
.r a.1) id
def F_q17 (a:Int):=(S_q17 a).den
theorem F_q17_ok {a:Int}:FO (F_q17 a) 57 [(AV.d (DV.i .u64 a))] [] (fun x=>(AV.d (DV.str x))) NL:=fO (s:=S_q17 a) Tryz.func57
abbrev R_q18:=Y8
def S_q18 (i:TWa):SC R_q18 R_q18 :=
.a 1 1 1 (@F_q6_ok i) fun j=>
.ite (!j) (
.r ([])) (
.call (@F_q9_ok i) fun b d=>
.call (@F_q17_ok i.V) fun e f=>
.call (@F_q17_ok i.U) fun g h=>
 let c:=((b++([32]))++e)
.guard [b.length+([32]).length<2 ^ 63,(b++([32])).length+e.length<2 ^ 63,c.length+([32]).length<2 ^ 63,(c++([32])).length+g.length<2 ^ 63]<|
.reg 3 [] [(1,hc d [] true),(5,hc f [] true),(10,hc h [] true)] [.cl 6 d [] 1 true,.ev 0,.cl 5 f [] 1 true,.ev 1,.ev 2,.cl 4 h [] 1 true,.ev 3]<|
.r ((c++([32]))++g))
def F_q18 (a:TWa):=(S_q18 a).den
theorem F_q18_ok {a:TWa}:FO (F_q18 a) 23 [(TWa.d a)] [] (fun x=>(AV.d (DV.str x))) NL:=fO (s:=S_q18 a) Tryz.func23
def S_q2d (a:TWa) (b:TWa):SC Bool Bool :=
.r (bif (bif (a.O==b.O) then (a.E==b.E) else false) then (a.Q==b.Q) else false)
def F_q2d (a:TWa) (b:TWa):=(S_q2d a b).den
theorem F_q2d_ok {a:TWa} {b:TWa}:FO (F_q2d a b) 24 [(TWa.d a),(TWa.d b)] [] vb NL:=fO (s:=S_q2d a b) Tryz.func24
def S_q2e (c:TWa) (d:TWa):SC Int Int :=
.a 1 4 2 (@F_q2b_ok c.D d.D) fun b=>
.r b
def F_q2e (a:TWa) (b:TWa):=(S_q2e a b).den
theorem F_q2e_ok {a:TWa} {b:TWa}:FO (F_q2e a b) 58 [(TWa.d a),(TWa.d b)] [] vi NL:=fO (s:=S_q2e a b) Tryz.func58
abbrev R_q1h:=Int×Bool
def S_q1h_b1 (e:(List TWa)) (f:TWa) (a:Int×Int):SC R_q1h (Step (Int×Int) R_q1h) :=
.ite (decide (a.1<a.2)) (
.reg 4 [] [] [.pf (p:=(0:Int)<=1) dk]<|
 let b:=(i64.wrap ((IntKind.u64.wrap (i64.wrap (a.1+a.2))).fdiv (2 ^ (min (1:Int).toNat IntKind.u64.bits))))
.call (@F_q2e_ok (e.getD b.toNat dF) f) fun d c=>
.guard [(0:Int)<=b,b.toNat<e.length]<|
.reg 5 [] [(6,hc c [] true)] [.ev 0,.ev 1,.cl 2 c [] 1 true]<|
.ite (decide (d<0)) (
.r (.cont ((i64.wrap (b+1)),a.2))) (
.r (.cont (a.1,b)))) (
.r (.brk (a.1,a.2)))
def S_q1h (c:(List TWa)) (f:TWa):SC R_q1h R_q1h :=
.iter [0,2,4,8] (fun (a:Int×Int)=>[(9,(vi a.1)),(10,(vi a.2))]) (fun _=>[]) (0,(c.length:Int)) (S_q1h_b1 c f) (fun a =>
 let b:=(decide (a.1<(c.length:Int)))
.calld [b=true] dF (@F_q2e_ok (c.getD a.1.toNat dF) f) fun e d =>
.guard [AllP [b=true]->((0:Int)<=a.1),AllP [b=true]->(a.1.toNat<c.length)]<|
.reg 8 [] [(11,hc d [] true)] [.ev 0,.ev 1,.clg 2 [b=true] d [] 1 true]<|
.r (a.1,(bif b then (e==0) else false))) id
def F_q1h (a:(List TWa)) (b:TWa):=(S_q1h a b).den
theorem F_q1h_ok {a:(List TWa)} {b:TWa}:FO (F_q1h a b) 59 [(AV.d (eL TWa.e a)),(TWa.d b),(AV.fn 58 [])] [] (fun x=>(AV.tup [(vi x.1),(vb x.2)])) NL:=fO (s:=S_q1h a b) Tryz.func59
def S_q3z (c:TWa) (d:TWa):SC Bool Bool :=
.a 1 2 2 (@F_q2d_ok c d) fun b=>
.r b
def F_q3z (a:TWa) (b:TWa):=(S_q3z a b).den
theorem F_q3z_ok {c:TWa} {a:TWa}:FO (F_q3z c a) 61 [(TWa.d c),(vp 0)] [(TWa.b a)] vb (fun _=>[(TWa.b a)]):=fO (s:=S_q3z c a) Tryz.func61
def S_q1q_b1 (d:(List TWa)) (e:TWa) (a:Nat) (_:Unit):SC Int (Step Unit Int) :=
.call (@F_q3z_ok (d.getD a dF) e) fun c b=>
.reg 4 [] [(5,hc b [0] true)] [.w a,.ev 1,.cl 0 b [0] 1 true]<|
.ite c (
.r (.ret (a:Int))) (
.r (.cont ()))
def S_q1q (a:(List TWa)) (b:TWa):SC Int Int :=
.range (a.length:Int) a.length rfl (.slot 0) 8 [0,1,7] (fun (_:Unit)=>[]) (fun _=>[]) () (S_q1q_b1 a b) (fun _ => 
.r (-1)) id
def F_q1q (a:(List TWa)) (b:TWa):=(S_q1q a b).den
theorem F_q1q_ok {c:(List TWa)} {a:TWa}:FO (F_q1q c a) 84 [(AV.d (eL TWa.e c)),(AV.fn 61 [(vp 0)])] [(TWa.b a)] vi (fun _=>[(TWa.b a)]):=fO (s:=S_q1q c a) Tryz.func84
def S_q3h (c:(List TWa)) (d:TWa):SC Bool Bool :=
.call (@F_q1q_ok c d) fun a b=>
.k 1 2 b [0] 1 true<|
.r (decide (a>=0))
def F_q3h (a:(List TWa)) (b:TWa):=(S_q3h a b).den
theorem F_q3h_ok {c:(List TWa)} {a:TWa}:FO (F_q3h c a) 60 [(AV.d (eL TWa.e c)),(AV.fn 61 [(vp 0)])] [(TWa.b a)] vb (fun _=>[(TWa.b a)]):=fO (s:=S_q3h c a) Tryz.func60
def S_q3i (a:(List TWa)):SC (List TWa) (List TWa) :=
.reg 0 [] [] []<|
.nils 0 (
.guard [a.length * (2 * 120)<=2 ^ 48]<|
.reg 1 [] [] []<|
.lev 0 (AV.d (eL TWa.e a)) (.pf (lvQ true a.length fun j=>(TWa.e (a.getD j dF))))<|
.br true (.pf (p:=true=true) rfl)<|
.reg 2 [] [] []<|
.bor 14 (fun j=>AV.d (TWa.e (a.getD j dF))) [2]<|
.cst (A:=a.length=0) (.ev 1) [(2,AV.ref 0 0 0 0)] [(2,(AV.ref 0 a.length 0 a.length))] [(Ob.seq 14 0 fun j=>AV.d (TWa.e (a.getD j dF)))] [(eS 14 TWa.e a)] (fun h=>⟨by rw[h],by unfold eS; rw[h]⟩)<|
.r a) (
.reg 1 [] [] []<|
.lev 0 (AV.d (eL TWa.e a)) (.pf (lvQ false a.length fun j=>(TWa.e (a.getD j dF))))<|
.br false (.pf (p:=false=false) rfl)<|
.guard [a.length * (2 * 120)<=2 ^ 48]<|
.reg 3 [] [(2,{ h:=.obj })] [.pf (p:=∀ k,k<a.length->(TWa.d (a.getD k dF)).wd=14) (fun _ _=>rfl),.ev 0]<|
.r a)
def F_q3i (a:(List TWa)):=(S_q3i a).den
theorem F_q3i_ok {a:(List TWa)}:FO (F_q3i a) 63 [(AV.d (eL TWa.e a))] [] (fun x=>(AV.ref 0 x.length 0 x.length)) (fun x=>[(eS 14 TWa.e x)]):=fO (s:=S_q3i a) Tryz.func63
def V_q42 (x:(List TWa)):AV:=.ref 0 x.length 0 x.length
def L_q42 (a:List TWa) (x:(List TWa)):List Ob:=[eS 14 TWa.e x,eS 14 TWa.e a]
def F_q42 (a:Int) (b c:List TWa):Option (List TWa):=match c with
 | [y]=>guardP (0<=a/\a.toNat<=b.length/\(b.length+1) * (4 * 120)<=2 ^ 48) (some (insL b a.toNat y))
 | _=>none
theorem F_q42_ok {b:Int} {c a:List TWa} (r:(List TWa)) (h:F_q42 b c a=some r):CallOk Tryz.prog 62 [(AV.ref 0 c.length 0 c.length),(AV.d (.i .i64 b)),(AV.ref 1 a.length 0 a.length)] [(eS 14 TWa.e c),(eS 14 TWa.e a)] (V_q42 r) (L_q42 a r):=by
 unfold F_q42 at h
 split at h
 ·rename_i y
  obtain⟨⟨h1,h2,h3⟩,h⟩:=z1m h
  obtain rfl:=yn h
  obtain⟨i,rfl⟩:∃ i:Nat,b=(i:Int):=⟨b.toNat,(y2c h1).symm⟩
  exact Ins62.ins_ok (fun _=>rfl) h2 h3
 ·cases h
abbrev R_qg:=(List TWa)×Int
def S_qg_b1 (c:(List TWa)) (a:Int):SC R_qg (Step Int R_qg) :=
.ite (decide (a<(c.length:Int))) (
 let b:=(i64.wrap (a-1))
.call (@F_q2e_ok (c.getD b.toNat dF) (c.getD a.toNat dF)) fun e d=>
.guard [(0:Int)<=b,b.toNat<c.length,(0:Int)<=a,a.toNat<c.length]<|
.reg 6 [] [(9,hc d [] true)] [.ev 0,.ev 1,.ev 2,.ev 3,.cl 4 d [] 1 true]<|
.ite (decide (e>=0)) (
.ret [.pf cz2] (.ret ([],1))) (
.r (.cont (i64.wrap (a+1))))) (
.r (.brk a))
def S_qg (d:(List TWa)) (j:TWa):SC R_qg R_qg :=
.a 1 1 1 (@F_qj_ok j) fun m=>
.ite (!m) (
.ret [.pf cz2] ([],1)) (
.iter [0,3] (fun (n:Int)=>[(6,(vi n))]) (fun _=>[]) 1 (S_qg_b1 d) (fun _ =>
.a 8 2 1 (@F_q1h_ok d j) fun f=>
.ite f.2 (
.ret [.pf cz3] ([],7)) (
.call (@F_q3h_ok d j) fun o p=>
.k 11 2 p [0] 1 true<|
.ite o (
.ret [.pf cz4] ([],20)) (
.ite (decide ((d.length:Int)>=200)) (
.ret [.pf cz5] ([],3)) (
.bor 14 (fun _=>AV.bot) []<|
.call (@F_q3i_ok d) fun q c=>
 let b:=([j]:List TWa)
.call (@F_q42_ok f.1 q b) fun g i=>
.reg 15 [1,4,5] [(1,hc c [] false),(4,{ h:=.born 1 true,obs:=[(1,(eS 14 TWa.e b))] }),(5,hc i [2,1] false)] [.cl 1 c [] 2 false,.cl 1 c [] 2 false,.pf (z3i (sz:=14) (e:=TWa.e) (l:=b)),.pf (z3i (sz:=14) (e:=TWa.e) (l:=b)),.cl 0 i [2,1] 3 false]<|
.guard [g.length<2 ^ 63]<|
.frz 2 (.ev 0) none [4] []<|
.r (g,0))))) id)
def F_qg (a:(List TWa)) (b:TWa):=(S_qg a b).den
theorem F_qg_ok {a:(List TWa)} {b:TWa}:FO (F_qg a b) 27 [(AV.d (eL TWa.e a)),(TWa.d b)] [] (fun x=>(AV.tup [(AV.d (eL TWa.e x.1)),(vi x.2)])) NL:=fO (s:=S_qg a b) Tryz.func27
def S_qt_b1 (e:(List TWa)) (d:(List TWa)) (c:Nat) (_:Unit):SC Bool (Step Unit Bool) :=
.guard [c<d.length]<|
.reg 6 [] [] [.w c,.ev 1,.w c,.ev 0]<|
 let a:=(e.getD c dF)
 let b:=(d.getD c dF)
.ite (!((a.D==b.D)&&((a.O==b.O)&&((a.J==b.J)&&((a.K==b.K)&&((a.E==b.E)&&((a.Q==b.Q)&&((a.I==b.I)&&((a.H==b.H)&&((a.L==b.L)&&((a.S==b.S)&&((a.N==b.N)&&((a.X==b.X)&&((a.V==b.V)&&((a.U==b.U)&&true))))))))))))))) (
.r (.ret false)) (
.r (.cont ()))
def S_qt (a:(List TWa)) (b:(List TWa)):SC Bool Bool :=
.ite ((a.length:Int) != (b.length:Int)) (
.r false) (
.range (a.length:Int) a.length rfl (.slot 0) 13 [0,1,12] (fun (_:Unit)=>[]) (fun _=>[]) () (S_qt_b1 a b) (fun _ => 
.r true) id)
def F_qt (a:(List TWa)) (b:(List TWa)):=(S_qt a b).den
theorem F_qt_ok {a:(List TWa)} {b:(List TWa)}:FO (F_qt a b) 29 [(AV.d (eL TWa.e a)),(AV.d (eL TWa.e b))] [] vb NL:=fO (s:=S_qt a b) Tryz.func29
theorem cz6:LeV (AV.d (DV.agg [(DV.i .i64 0),Z0,(DV.agg [Z0,Z0,Z0,Z0])])) (TOf.d (⟨0,[],(⟨[],[],[],[]⟩:TBo)⟩:TOf)):=z6s rfl (DLe.agg (DLeL.cons (DLe.refl _) (DLeL.cons DLe.sl0 (DLeL.cons (DLe.agg (DLeL.cons DLe.sl0 (DLeL.cons DLe.sl0 (DLeL.cons DLe.sl0 (DLeL.cons DLe.sl0 DLeL.nil))))) DLeL.nil))))
def S_q3j (f:Int):SC (TOf×Int) (TOf×Int) :=
 let e:=(⟨[],[],[],[]⟩:TBo)
 let a:=(⟨0,[],e⟩:TOf)
.reg 0 [] [(0,{ obs:=[(0,(TOf.b a))] })] [.pf cz1]<|
.ite (cO (decide (f<1)) (decide (f>6))) (
.reg 2 [] [(0,hv (TOf.d a))] [.pf cz6]<|
.r (a,2)) (
 let c:=(⟨f,[],e⟩:TOf)
.reg 3 [] [(1,hv (TOf.d c))] [.pf (p:=LeV (AV.d (DV.agg [(DV.i .i64 f),Z0,(DV.agg [Z0,Z0,Z0,Z0])])) (TOf.d c)) (z6s rfl (DLe.agg (DLeL.cons (DLe.refl _) (DLeL.cons DLe.sl0 (DLeL.cons (DLe.agg (DLeL.cons DLe.sl0 (DLeL.cons DLe.sl0 (DLeL.cons DLe.sl0 (DLeL.cons DLe.sl0 DLeL.nil))))) DLeL.nil)))))]<|
.r (c,0))
def F_q3j (a:Int):=(S_q3j a).den
theorem F_q3j_ok {a:Int}:FO (F_q3j a) 64 [(vi a)] [] (fun x=>(AV.tup [(TOf.d x.1),(vi x.2)])) NL:=fO (s:=S_q3j a) Tryz.func64
def S_qu (a:Int):SC Bool Bool :=
.r (bif (decide (a>=0)) then (decide (a<=35990)) else false)
def F_qu (a:Int):=(S_qu a).den
theorem F_qu_ok {a:Int}:FO (F_qu a) 128 [(vi a)] [] vb NL:=fO (s:=S_qu a) Tryz.func128
def S_q40 (a:Int):SC Bool Bool :=
.r (bif (decide (a>=0)) then (decide (a<=36000)) else false)
def F_q40 (a:Int):=(S_q40 a).den
theorem F_q40_ok {a:Int}:FO (F_q40 a) 173 [(vi a)] [] vb NL:=fO (s:=S_q40 a) Tryz.func173
def S_q19 (c:Int):SC Int Int :=
.a 1 1 0 (@F_q40_ok c) fun b=>
.ite (!b) (
.r (-1)) (
.reg 3 [] [] [.pf (p:=(360:Int)≠0) dk]<|
.r (i64.wrap (c.tdiv 360)))
def F_q19 (a:Int):=(S_q19 a).den
theorem F_q19_ok {a:Int}:FO (F_q19 a) 130 [(vi a)] [] vi NL:=fO (s:=S_q19 a) Tryz.func130
def S_q1a (a:Int):SC Bool Bool :=
.r (bif (decide (a>=1)) then (decide (a<=1000000000000)) else false)
def F_q1a (a:Int):=(S_q1a a).den
theorem F_q1a_ok {a:Int}:FO (F_q1a a) 129 [(vi a)] [] vb NL:=fO (s:=S_q1a a) Tryz.func129
def S_q1b_b1 (o:TBo) (b:Nat) (_:Unit):SC Bool (Step Unit Bool) :=
.reg 3 [] [] [.w b,.ev 0]<|
 let a:=(o.A.getD b dF)
 let c:=(a.D != (i64.wrap ((b:Int)+1)))
.calld [c=false] dF (@F_ql_ok a.J) fun k g =>
 let d:=(cO (cO (cO c (!k)) (decide (a.K<0))) (decide (a.K>99)))
.calld [d=false] dF (@F_qu_ok a.N) fun l h =>
 let e:=(cO d (!l))
.calld [e=false] dF (@F_q19_ok a.N) fun m i =>
 let f:=(cO e (m != a.K))
.calld [f=false] dF (@F_q1a_ok a.L) fun n j =>
.reg 4 [] [(8,hc g [] true),(24,hc h [] true),(30,hc i [] true),(38,hc j [] true)] [.clg 6 [c=false] g [] 2 true,.clg 4 [d=false] h [] 2 true,.clg 2 [e=false] i [] 2 true,.clg 0 [f=false] j [] 2 true]<|
.ite (cO (cO (cO f (!n)) (decide (a.P<0))) (decide (a.P>a.L))) (
.r (.ret false)) (
.r (.cont ()))
def S_q1b (a:TBo):SC Bool Bool :=
.range (a.A.length:Int) a.A.length rfl (.slot 6) 8 [6,7] (fun (_:Unit)=>[]) (fun _=>[]) () (S_q1b_b1 a) (fun _ => 
.r true) id
def F_q1b (a:TBo):=(S_q1b a).den
theorem F_q1b_ok {a:TBo}:FO (F_q1b a) 151 [(TBo.d a)] [] vb NL:=fO (s:=S_q1b a) Tryz.func151
def S_qk_b1 (e:TBo) (f:Int) (a:Nat) (b:Int):SC Int (Step Int Int) :=
.reg 8 [] [] [.w a,.ev 0]<|
 let d:=(e.B.getD a dF)
.ite (d.H==f) (
.r (.cont (i64.wrap (b-d.L)))) (
.c b)
def S_qk_b2 (d:TBo) (e:Int) (c:Nat) (_:Unit):SC Int (Step Unit Int) :=
.reg 3 [] [] [.w c,.ev 0]<|
 let a:=(d.A.getD c dF)
.ite (a.D==e) (
.range (d.B.length:Int) d.B.length rfl (.slot 27) 29 [1,27,28] (fun (b:Int)=>[(7,(vi b))]) (fun _=>[]) (i64.wrap (a.L-a.P)) (S_qk_b1 d e) (fun b => 
.r (.ret b)) .ret) (
.r (.cont ()))
def S_qk (a:TBo) (b:Int):SC Int Int :=
.range (a.A.length:Int) a.A.length rfl (.slot 11) 13 [1,2,11,12] (fun (_:Unit)=>[]) (fun _=>[]) () (S_qk_b2 a b) (fun _ => 
.r 0) id
def F_qk (a:TBo) (b:Int):=(S_qk a b).den
theorem F_qk_ok {a:TBo} {b:Int}:FO (F_qk a b) 133 [(TBo.d a),(vi b)] [] vi NL:=fO (s:=S_qk a b) Tryz.func133
end
end Go.Proofs.YtiohhffifhaboaaGreatDoor
/- What the functions compute,and that their calls return it. No condition. -/
namespace Go.Proofs.YtiohhffifhaboaaGreatDoor
open Go Go.TA
open Go.IntKind (i64)
noncomputable section
set_option maxRecDepth 100000
set_option maxHeartbeats 2000000
def S_qc_b1 (m:TBo) (b:Nat) (_:Unit):SC Bool (Step Unit Bool) :=
.reg 3 [] [] [.w b,.ev 0]<|
 let a:=(m.B.getD b dF)
 let c:=(cO (cO (a.D != (i64.wrap ((b:Int)+1))) (decide (a.H<1))) (decide (a.H>(m.A.length:Int))))
.calld [c=false] dF (@F_qu_ok a.N) fun n h =>
 let d:=(cO c (!n))
.calld [d=false] dF (@F_q1a_ok a.L) fun o i =>
 let e:=(cO (cO (cO (cO (cO d (!o)) (decide (a.P<0))) (decide (a.P>a.L))) (decide (a.S<1))) (decide (a.S>1000000)))
.calld [e=false] dF (@F_qu_ok a.X) fun p j =>
.reg 4 [] [(21,hc h [] true),(27,hc i [] true),(55,hc j [] true)] [.clg 4 [c=false] h [] 2 true,.clg 2 [d=false] i [] 2 true,.clg 0 [e=false] j [] 2 true]<|
.ite (cO e (!p)) (
.r (.ret false)) (
 let f:=(i64.wrap (a.H-1))
.guard [(0:Int)<=f,f.toNat<m.A.length]<|
.reg 6 [] [] [.ev 0,.ev 1]<|
 let k:=(m.A.getD f.toNat dF)
 let g:=(decide (a.N<k.N))
.calld [g=false] dF (@F_q19_ok a.N) fun q l =>
.reg 7 [] [(8,hc l [] true)] [.clg 0 [g=false] l [] 3 true]<|
.ite (cO g (q != k.K)) (
.r (.ret false)) (
.r (.cont ())))
def S_qc_b2 (d:TBo) (b:Nat) (_:Unit):SC Bool (Step Unit Bool) :=
.reg 12 [] [] [.w b,.ev 0]<|
.a 13 3 2 (@F_qk_ok d ((d.A.getD b dF).D)) fun c=>
.ite (decide (c<0)) (
.r (.ret false)) (
.r (.cont ()))
def S_qc (a:TBo):SC Bool Bool :=
.range (a.B.length:Int) a.B.length rfl (.slot 9) 11 [1,9,10] (fun (_:Unit)=>[]) (fun _=>[]) () (S_qc_b1 a) (fun _ => 
.range (a.A.length:Int) a.A.length rfl (.slot 96) 98 [1,96,97] (fun (_:Unit)=>[]) (fun _=>[]) () (S_qc_b2 a) (fun _ => 
.r true) id) id
def F_qc (a:TBo):=(S_qc a).den
theorem F_qc_ok {a:TBo}:FO (F_qc a) 152 [(TBo.d a)] [] vb NL:=fO (s:=S_qc a) Tryz.func152
def S_q1i (c:TBo) (d:Int):SC Int Int :=
 let a:=(i64.wrap (d-1))
 let b:=(i64.wrap (((c.B.getD a.toNat dF).H)-1))
.guard [(0:Int)<=a,a.toNat<c.B.length,(0:Int)<=b,b.toNat<c.A.length]<|
.reg 1 [] [] [.ev 0,.ev 1,.ev 2,.ev 3]<|
.r ((c.A.getD b.toNat dF).K)
def F_q1i (a:TBo) (b:Int):=(S_q1i a b).den
theorem F_q1i_ok {a:TBo} {b:Int}:FO (F_q1i a b) 134 [(TBo.d a),(vi b)] [] vi NL:=fO (s:=S_q1i a b) Tryz.func134
def S_q1c_b1 (e:TBo) (f:TCo) (a:Nat) (b:Int):SC Int (Step Int Int) :=
.reg 4 [] [] [.w a,.ev 0]<|
 let d:=(e.C.getD a dF)
.ite (d.I==f.D) (
.r (.cont (i64.wrap (b-d.L)))) (
.c b)
def S_q1c (b:TBo) (c:TCo):SC Int Int :=
.range (b.C.length:Int) b.C.length rfl (.slot 14) 16 [3,14,15] (fun (a:Int)=>[(5,(vi a))]) (fun _=>[]) (i64.wrap (c.L-c.P)) (S_q1c_b1 b c) (fun a => 
.r a) id
def F_q1c (a:TBo) (b:TCo):=(S_q1c a b).den
theorem F_q1c_ok {a:TBo} {b:TCo}:FO (F_q1c a b) 135 [(TBo.d a),(TCo.d b)] [] vi NL:=fO (s:=S_q1c a b) Tryz.func135
def S_q3_b1 (h:TBo) (c:Nat) (_:Unit):SC Bool (Step Unit Bool) :=
.reg 3 [] [] [.w c,.ev 0]<|
 let a:=(h.C.getD c dF)
 let d:=(cO (cO (a.D != (i64.wrap ((c:Int)+1))) (decide (a.I<1))) (decide (a.I>(h.B.length:Int))))
.calld [d=false] dF (@F_qu_ok a.N) fun m i =>
 let e:=(cO d (!m))
.calld [e=false] dF (@F_q1a_ok a.L) fun n j =>
 let f:=(cO e (!n))
 let g:=(i64.wrap (a.I-1))
 let b:=(cO f (decide (a.N<((h.B.getD g.toNat dF).N))))
.calld [b=false] dF (@F_q19_ok a.N) fun o k =>
.calld [b=false] dF (@F_q1i_ok h a.I) fun p l =>
.guard [AllP [f=false]->((0:Int)<=g),AllP [f=false]->(g.toNat<h.B.length)]<|
.reg 4 [] [(21,hc i [] true),(27,hc j [] true),(46,hc k [] true),(50,hc l [] true)] [.clg 8 [d=false] i [] 2 true,.clg 6 [e=false] j [] 2 true,.ev 0,.ev 1,.clg 4 [b=false] k [] 2 true,.clg 2 [b=false] l [] 2 true]<|
.ite (cO b (decide (o>(i64.wrap (p+1))))) (
.r (.ret false)) (
.r (.cont ()))
def S_q3_b2 (d:TBo) (b:Nat) (_:Unit):SC Bool (Step Unit Bool) :=
.reg 9 [] [] [.w b,.ev 0]<|
.a 10 2 2 (@F_q1c_ok d (d.B.getD b dF)) fun c=>
.ite (decide (c<0)) (
.r (.ret false)) (
.r (.cont ()))
def S_q3_b3 (g:TBo) (d:Nat) (e:Nat) (a:Int):SC Bool (Step Int Bool) :=
.reg 24 [] [] [.w e,.ev 0]<|
 let b:=((g.G.take d).getD e dF)
 let f:=(g.G.getD d dF)
.ite (b.E != f.E) (
.c a) (
.ite (cO (!b.Z) (decide (b.N>f.N))) (
.r (.ret false)) (
.r (.cont (i64.wrap (a+1)))))
def S_q3_b4 (c:TBo) (a:Nat) (_:Unit):SC Bool (Step Unit Bool) :=
.reg 15 [] [] [.w a,.ev 0]<|
 let b:=(c.G.getD a dF)
 let k:=(cO (cO (b.D != (i64.wrap ((a:Int)+1))) (decide (b.E<1))) (decide (b.E>(c.C.length:Int))))
.calld [k=false] dF (@F_qu_ok b.N) fun m h =>
.reg 16 [] [(21,hc h [] true)] [.clg 0 [k=false] h [] 2 true]<|
.ite (cO k (!m)) (
.r (.ret false)) (
 let l:=(i64.wrap (b.E-1))
.guard [(0:Int)<=l,l.toNat<c.C.length]<|
.reg 18 [] [] [.ev 0,.ev 1]<|
 let n:=(c.C.getD l.toNat dF)
 let f:=(decide (b.N<n.N))
.calld [f=false] dF (@F_q19_ok b.N) fun o i =>
.calld [f=false] dF (@F_q1i_ok c n.I) fun p j =>
.reg 19 [] [(8,hc i [] true),(12,hc j [] true)] [.clg 2 [f=false] i [] 3 true,.clg 0 [f=false] j [] 3 true]<|
.ite (cO f (decide (o>(i64.wrap (p+1))))) (
.r (.ret false)) (
.guard [a<=c.G.length]<|
.reg 22 [] [(3,hv (AV.d (eL TOr.e (c.G.take a))))] [.w a,.ev 0,.der (fun (h0:a<=c.G.length)=>lvT TOr.e c.G h0) 0]<|
.range ((c.G.take a).length:Int) ((c.G.take a).length) rfl (.slot 146) 148 [1,8,89,90,91,146,147] (fun (g:Int)=>[(10,(vi g))]) (fun _=>[]) 1 (S_q3_b3 c a) (fun g => 
.ite (b.Q != g) (
.r (.ret false)) (
.r (.cont ()))) .ret))
def S_q3 (a:TBo):SC Bool Bool :=
.range (a.C.length:Int) a.C.length rfl (.slot 14) 16 [1,14,15] (fun (_:Unit)=>[]) (fun _=>[]) () (S_q3_b1 a) (fun _ => 
.range (a.B.length:Int) a.B.length rfl (.slot 77) 79 [1,77,78] (fun (_:Unit)=>[]) (fun _=>[]) () (S_q3_b2 a) (fun _ => 
.range (a.G.length:Int) a.G.length rfl (.slot 89) 91 [1,89,90] (fun (_:Unit)=>[]) (fun _=>[]) () (S_q3_b4 a) (fun _ => 
.r true) id) id) id
def F_q3 (a:TBo):=(S_q3 a).den
theorem F_q3_ok {a:TBo}:FO (F_q3 a) 153 [(TBo.d a)] [] vb NL:=fO (s:=S_q3 a) Tryz.func153
def S_q1d (a:TBo):SC Bool Bool :=
.ite (cO (cO (cO (decide ((a.A.length:Int)>200)) (decide ((a.B.length:Int)>200))) (decide ((a.C.length:Int)>200))) (decide ((a.G.length:Int)>200))) (
.r false) (
.call (@F_q1b_ok a) fun b d=>
.calld [b=true] dF (@F_qc_ok a) fun g e =>
 let c:=(bif b then g else false)
.calld [c=true] dF (@F_q3_ok a) fun h f =>
.reg 3 [] [(1,hc d [] true),(4,hc e [] true),(8,hc f [] true)] [.cl 4 d [] 1 true,.clg 2 [b=true] e [] 1 true,.clg 0 [c=true] f [] 1 true]<|
.r (bif c then h else false))
def F_q1d (a:TBo):=(S_q1d a).den
theorem F_q1d_ok {a:TBo}:FO (F_q1d a) 105 [(TBo.d a)] [] vb NL:=fO (s:=S_q1d a) Tryz.func105
def S_q1r (a:Int):SC Bool Bool :=
.r (bif (decide (a>=0)) then (decide (a<=1000000000000000)) else false)
def F_q1r (a:Int):=(S_q1r a).den
theorem F_q1r_ok {a:Int}:FO (F_q1r a) 154 [(vi a)] [] vb NL:=fO (s:=S_q1r a) Tryz.func154
def S_q2f (a:TRi):SC Bool Bool :=
.call (@F_ql_ok a.J) fun g d=>
 let b:=(bif (bif g then (decide (a.K>=0)) else false) then (decide (a.K<=99)) else false)
.calld [b=true] dF (@F_q1r_ok a.R) fun h e =>
 let c:=(bif b then h else false)
.calld [c=true] dF (@F_q1r_ok a.W) fun i f =>
.reg 1 [] [(2,hc d [] true),(16,hc e [] true),(21,hc f [] true)] [.cl 4 d [] 1 true,.clg 2 [b=true] e [] 1 true,.clg 0 [c=true] f [] 1 true]<|
.r (bif (bif (bif c then i else false) then (decide (a.T>=0)) else false) then (decide (a.T<=a.R)) else false)
def F_q2f (a:TRi):=(S_q2f a).den
theorem F_q2f_ok {a:TRi}:FO (F_q2f a) 106 [(TRi.d a)] [] vb NL:=fO (s:=S_q2f a) Tryz.func106
def S_q10_b1 (c:TOf) (d:Y8) (e:Int) (a:Nat) (_:Unit):SC Int (Step Unit Int) :=
.reg 3 [] [] [.w a,.ev 0]<|
 let b:=(c.F.getD a dF)
.ite (bif (b.J==d) then (b.K==e) else false) (
.r (.ret (a:Int))) (
.r (.cont ()))
def S_q10 (a:TOf) (b:Y8) (c:Int):SC Int Int :=
.range (a.F.length:Int) a.F.length rfl (.slot 10) 12 [1,2,10,11] (fun (_:Unit)=>[]) (fun _=>[]) () (S_q10_b1 a b c) (fun _ => 
.r (-1)) id
def F_q10 (a:TOf) (b:Y8) (c:Int):=(S_q10 a b c).den
theorem F_q10_ok {a:TOf} {b:Y8} {c:Int}:FO (F_q10 a b c) 96 [(TOf.d a),(AV.d (DV.str b)),(vi c)] [] vi NL:=fO (s:=S_q10 a b c) Tryz.func96
def S_q2w (c:TOf) (d:Y8) (e:Int):SC TRi TRi :=
.a 1 3 2 (@F_q10_ok c d e) fun b=>
.ite (decide (b>=0)) (
.guard [(0:Int)<=b,b.toNat<c.F.length]<|
.reg 3 [] [] [.ev 0,.ev 1]<|
.r (c.F.getD b.toNat dF)) (
.r (⟨d,e,0,0,0⟩:TRi))
def F_q2w (a:TOf) (b:Y8) (c:Int):=(S_q2w a b c).den
theorem F_q2w_ok {a:TOf} {b:Y8} {c:Int}:FO (F_q2w a b c) 132 [(TOf.d a),(AV.d (DV.str b)),(vi c)] [] (fun x=>(TRi.d x)) NL:=fO (s:=S_q2w a b c) Tryz.func132
def S_qo_b1 (f:TBo) (e:Nat) (a:Nat) (b:Int):SC Int (Step Int Int) :=
.reg 9 [] [] [.w a,.ev 0]<|
 let d:=(f.B.getD a dF)
.ite (d.H==((f.A.getD e dF).D)) (
.r (.cont (i64.wrap (b-d.P)))) (
.c b)
def S_qo_b2 (f:TBo) (g:Y8) (h:Int) (b:Nat) (e:Int):SC Int (Step Int Int) :=
.reg 4 [] [] [.w b,.ev 0]<|
 let a:=(f.A.getD b dF)
.ite (cO (!(a.J==g)) (a.K != h)) (
.c e) (
.range (f.B.length:Int) f.B.length rfl (.slot 37) 39 [1,2,3,9,13,14,15,37,38] (fun (d:Int)=>[(7,(vi d))]) (fun _=>[]) (i64.wrap (e+(i64.wrap (a.L-a.P)))) (S_qo_b1 f b) (fun d => 
.c d) .ret)
def S_qo (b:TBo) (c:Y8) (d:Int):SC Int Int :=
.range (b.A.length:Int) b.A.length rfl (.slot 13) 15 [1,2,3,13,14] (fun (a:Int)=>[(7,(vi a))]) (fun _=>[]) 0 (S_qo_b2 b c d) (fun a => 
.r a) id
def F_qo (a:TBo) (b:Y8) (c:Int):=(S_qo a b c).den
theorem F_qo_ok {a:TBo} {b:Y8} {c:Int}:FO (F_qo a b c) 98 [(TBo.d a),(AV.d (DV.str b)),(vi c)] [] vi NL:=fO (s:=S_qo a b c) Tryz.func98
def S_q2x (d:TOf) (e:Y8) (f:Int):SC Int Int :=
.a 1 3 1 (@F_q2w_ok d e f) fun b=>
.a 2 9 2 (@F_qo_ok d.M e f) fun c=>
.r (i64.wrap ((i64.wrap (b.R-b.T))-c))
def F_q2x (a:TOf) (b:Y8) (c:Int):=(S_q2x a b c).den
theorem F_q2x_ok {a:TOf} {b:Y8} {c:Int}:FO (F_q2x a b c) 88 [(TOf.d a),(AV.d (DV.str b)),(vi c)] [] vi NL:=fO (s:=S_q2x a b c) Tryz.func88
theorem cz7:LeV (AV.full 0 fun _=>DV.b false) (vl ([])):=lvN (DV.i .i64)
abbrev R_qp:=(List Int)
def S_qp_b1 (f:Y8) (a:(List Int)×Int×Int×Int):SC R_qp (Step ((List Int)×Int×Int×Int) R_qp) :=
.ite (decide (a.2.2.2<=(f.length:Int))) (
 let g:=(a.2.2.2==(f.length:Int))
 let q:=(a.2.2.2.toNat<f.length)
.guard [AllP [g=false]->((0:Int)<=a.2.2.2),AllP [g=false]->q]<|
.reg 8 [] [] [.ev 0,.ev 1]<|
 let c:=((f.getD a.2.2.2.toNat 0).toNat:Int)
 let s:=(i64.wrap (a.2.2.2+1))
.ite (cO g (c==46)) (
 let j:=(cO (a.2.2.1==0) (decide (a.2.2.1>2)))
 let m:=(i64.wrap (a.2.2.2-a.2.2.1))
.guard [AllP [j=false]->((0:Int)<=m),AllP [j=false]->(m.toNat<f.length)]<|
.reg 9 [] [] [.ev 0,.ev 1]<|
.ite (cO j (((f.getD m.toNat 0).toNat:Int)==48)) (
.ret [.pf cz7] (.ret ([]))) (
.guard [(a.1.length+1) * (2 * 8)<=2 ^ 48]<|
 let b:=([a.2.1]:List Int)
.reg 11 [] [(2,hv (vl b)),(3,{ h:=.obj,cast:=some (AV.ref 0 ((a.1++b).length) 0 ((a.1++b).length)),obs:=[(0,(eS 1 (DV.i .i64) (a.1++b)))] })] [.pf (zb (DV.i .i64) b),.e a.1.length,.e a.1.length,.pf (p:=∀ k,k<1->(AV.d ((DV.i .i64) (b.getD k dF))).wd=1) (fun _ _=>rfl),.ev 0,.pf (z1b (o:=0) (l:=a.1) (x:=b)),.pf (z1a (sz:=1) (e:=(DV.i .i64)) (l:=a.1) (x:=b))]<|
.r (.cont ((a.1++b),0,0,s)))) (
 let n:=(decide (c<48))
.guard [(0:Int)<=a.2.2.2,a.2.2.2.toNat<f.length,AllP [n=false]->((0:Int)<=a.2.2.2),AllP [n=false]->q]<|
.reg 13 [] [] [.ev 0,.ev 1,.ev 2,.ev 3]<|
.ite (cO n (decide (c>57))) (
.ret [.pf cz7] (.ret ([]))) (
.reg 15 [] [] [.ev 1,.ev 2]<|
.r (.cont (a.1,(i64.wrap ((i64.wrap (10 * a.2.1))+(i64.wrap (IntKind.u8.wrap (c-48))))),(i64.wrap (a.2.2.1+1)),s))))) (
.r (.brk (a.1,a.2.1,a.2.2.1,a.2.2.2)))
def S_qp (b:Y8):SC R_qp R_qp :=
.ite (decide ((b.length:Int)>12)) (
.ret [.pf cz7] ([])) (
.reg 5 [] [] []<|
.bor 1 (fun j=>AV.d ((DV.i .i64) (([]:List Int).getD j dF))) [3]<|
.iter [0] (fun (a:(List Int)×Int×Int×Int)=>[(3,(AV.ref 0 a.1.length 0 a.1.length)),(4,(vi a.2.1)),(5,(vi a.2.2.1)),(6,(vi a.2.2.2))]) (fun a=>[(0,(eS 1 (DV.i .i64) a.1))]) (([]:List Int),0,0,0) (S_qp_b1 b) (fun a =>
.ite (decide ((a.1.length:Int)>4)) (
.ret [.pf cz7] ([])) (
.guard [a.1.length<2 ^ 63]<|
.reg 18 [] [] []<|
.frz 0 (.ev 0) none [2] []<|
.r a.1)) id)
def F_qp (a:Y8):=(S_qp a).den
theorem F_qp_ok {a:Y8}:FO (F_qp a) 155 [(AV.d (DV.str a))] [] vl NL:=fO (s:=S_qp a) Tryz.func155
def S_q11_b1 (b:R_qp) (c:R_qp) (a:Int):SC Int (Step Int Int) :=
.ite (bif (decide (a<(b.length:Int))) then (decide (a<(c.length:Int))) else false) (
.guard [(0:Int)<=a,a.toNat<b.length,a.toNat<c.length]<|
.reg 15 [] [] [.ev 0,.ev 1,.ev 0,.ev 2]<|
 let d:=(b.getD a.toNat dF)
 let e:=(c.getD a.toNat dF)
.ite (decide (d<e)) (
.r (.ret (-1))) (
.reg 17 [] [] [.ev 1,.ev 2,.ev 1,.ev 3]<|
.ite (decide (d>e)) (
.r (.ret 1)) (
.r (.cont (i64.wrap (a+1)))))) (
.r (.brk a))
def S_q11 (g:Y8) (h:Y8):SC Int Int :=
.call (@F_qp_ok g) fun c d=>
.call (@F_qp_ok h) fun e f=>
.reg 1 [] [(1,hc d [] true),(3,hc f [] true)] [.cl 1 d [] 0 true,.cl 0 f [] 0 true]<|
 let a:=(c.length:Int)
 let b:=(e.length:Int)
.ite (cO (a==0) (b==0)) (
.ite (decide (a>0)) (
.r 1) (
.ite (decide (b>0)) (
.r (-1)) (
.ite (Op.bytesLess g h) (
.r (-1)) (
.ite (!(Op.bytesLess g h||g==h)) (
.r 1) (
.r 0))))) (
.iter [5,6] (fun (i:Int)=>[(7,(vi i))]) (fun _=>[]) 0 (S_q11_b1 c e) (fun _ =>
.ite (decide (a<b)) (
.r (-1)) (
.ite (decide (a>b)) (
.r 1) (
.r 0))) id)
def F_q11 (a:Y8) (b:Y8):=(S_q11 a b).den
theorem F_q11_ok {a:Y8} {b:Y8}:FO (F_q11 a b) 107 [(AV.d (DV.str a)),(AV.d (DV.str b))] [] vi NL:=fO (s:=S_q11 a b) Tryz.func107
def S_qd_b1 (g:TOf) (c:Nat) (_:Unit):SC Bool (Step Unit Bool) :=
.reg 5 [] [] [.w c,.ev 0]<|
 let a:=(g.F.getD c dF)
.call (@F_q2f_ok a) fun e h=>
.calld [(!e)=false] dF (@F_q2x_ok g a.J a.K) fun l i =>
.reg 6 [] [(1,hc h [] true),(9,hc i [] true)] [.cl 2 h [] 2 true,.clg 0 [(!e)=false] i [] 2 true]<|
.ite (cO (!e) (decide (l<0))) (
.r (.ret false)) (
.ite (decide ((c:Int)>0)) (
 let b:=(i64.wrap ((c:Int)-1))
 let j:=(g.F.getD b.toNat dF)
.call (@F_q11_ok j.J a.J) fun d k=>
.guard [(0:Int)<=b,b.toNat<g.F.length]<|
.reg 9 [] [(9,hc k [] true)] [.ev 0,.ev 1,.cl 2 k [] 2 true]<|
 let f:=(decide (d>0))
.guard [AllP [(d==0)=true,f=false]->((0:Int)<=b),AllP [(d==0)=true,f=false]->(b.toNat<g.F.length)]<|
.reg 10 [] [] [.ev 0,.ev 1]<|
.ite (cO f (bif (d==0) then (decide (j.K>=a.K)) else false)) (
.r (.ret false)) (
.r (.cont ()))) (
.r (.cont ())))
def S_qd_b2 (e:TOf) (b:Nat) (_:Unit):SC Bool (Step Unit Bool) :=
.reg 15 [] [] [.w b,.ev 0]<|
 let c:=(e.M.A.getD b dF)
.a 16 5 2 (@F_q10_ok e c.J c.K) fun d=>
.ite (decide (d<0)) (
.r (.ret false)) (
.r (.cont ()))
def S_qd (a:TOf):SC Bool Bool :=
 let b:=(cO (cO (decide (a.D<1)) (decide (a.D>6))) (decide ((a.F.length:Int)>60)))
.calld [b=false] dF (@F_q1d_ok a.M) fun d c =>
.reg 1 [] [(17,hc c [] true)] [.clg 0 [b=false] c [] 1 true]<|
.ite (cO b (!d)) (
.r false) (
.range (a.F.length:Int) a.F.length rfl (.slot 29) 31 [1,29,30] (fun (_:Unit)=>[]) (fun _=>[]) () (S_qd_b1 a) (fun _ => 
.range (a.M.A.length:Int) a.M.A.length rfl (.slot 81) 83 [1,81,82] (fun (_:Unit)=>[]) (fun _=>[]) () (S_qd_b2 a) (fun _ => 
.r true) id) id)
def F_qd (a:TOf):=(S_qd a).den
theorem F_qd_ok {a:TOf}:FO (F_qd a) 69 [(TOf.d a)] [] vb NL:=fO (s:=S_qd a) Tryz.func69
theorem cz8:OLe (bx (DV.agg [Z0,Z0,Z0,Z0])) (TBo.b (⟨[],[],[],[]⟩:TBo)):=z3e (DLe.agg (DLeL.cons DLe.sl0 (DLeL.cons DLe.sl0 (DLeL.cons DLe.sl0 (DLeL.cons DLe.sl0 DLeL.nil)))))
abbrev R_q1j:=(List TRe)×(List TCo)×(List TVe)×(List TOr)
def S_q1j (a:TBo):SC R_q1j R_q1j :=
.reg 0 [] [(1,{ obs:=[(1,(TBo.b (⟨[],[],[],[]⟩:TBo)))] })] [.pf cz8]<|
.guard [a.A.length * (2 * 56)<=2 ^ 48,a.B.length * (2 * 56)<=2 ^ 48,a.C.length * (2 * 32)<=2 ^ 48,a.G.length * (2 * 40)<=2 ^ 48]<|
.reg 1 [3,7,11,15,17] [(3,{ h:=.obj }),(7,{ h:=.obj }),(11,{ h:=.obj }),(15,{ h:=.obj })] [.pf (p:=∀ k,k<a.A.length->(TRe.d (a.A.getD k dF)).wd=6) (fun _ _=>rfl),.ev 0,.pf (p:=∀ k,k<a.B.length->(TCo.d (a.B.getD k dF)).wd=7) (fun _ _=>rfl),.ev 1,.pf (p:=∀ k,k<a.C.length->(TVe.d (a.C.getD k dF)).wd=4) (fun _ _=>rfl),.ev 2,.pf (p:=∀ k,k<a.G.length->(TOr.d (a.G.getD k dF)).wd=5) (fun _ _=>rfl),.ev 3]<|
.kill 0<|
.r (a.A,a.B,a.C,a.G)
def F_q1j (a:TBo):=(S_q1j a).den
theorem F_q1j_ok {a:TBo}:FO (F_q1j a) 131 [(TBo.d a)] [] (fun x=>(AV.agg [(AV.ref 2 x.1.length 0 x.1.length),(AV.ref 3 x.2.1.length 0 x.2.1.length),(AV.ref 4 x.2.2.1.length 0 x.2.2.1.length),(AV.ref 5 x.2.2.2.length 0 x.2.2.2.length)])) (fun x=>[Ob.dead,(Ob.box (AV.agg [(AV.ref 2 x.1.length 0 x.1.length),(AV.ref 3 x.2.1.length 0 x.2.1.length),(AV.ref 4 x.2.2.1.length 0 x.2.2.1.length),(AV.ref 5 x.2.2.2.length 0 x.2.2.2.length)])),(eS 6 TRe.e x.1),(eS 7 TCo.e x.2.1),(eS 4 TVe.e x.2.2.1),(eS 5 TOr.e x.2.2.2)]):=fO (s:=S_q1j a) Tryz.func131
theorem cz9:LeV (AV.d (DV.agg [Z0,Z0,Z0,Z0])) (TBo.d (⟨[],[],[],[]⟩:TBo)):=z6s rfl (DLe.agg (DLeL.cons DLe.sl0 (DLeL.cons DLe.sl0 (DLeL.cons DLe.sl0 (DLeL.cons DLe.sl0 DLeL.nil)))))
def S_q3k (t:TBo) (D:Y8) (u:Int) (v:Int) (E:Int):SC (TBo×Int) (TBo×Int) :=
 let g:=(⟨[],[],[],[]⟩:TBo)
.reg 0 [] [(1,{ obs:=[(1,(TBo.b g))] })] [.pf cz8]<|
.a 1 1 2 (@F_q1d_ok t) fun w=>
 let i:=(0,hv (TBo.d g))
.ite (!w) (
.reg 2 [] [i] [.pf cz9]<|
.r (g,1)) (
.a 3 1 2 (@F_ql_ok D) fun y=>
.ite (!y) (
.reg 4 [] [i] [.pf cz9]<|
.r (g,5)) (
 let j:=(cO (decide (u<0)) (decide (u>99)))
.calld [j=false] dF (@F_qu_ok v) fun z n =>
 let m:=(cO j (!z))
.calld [m=false] dF (@F_q1a_ok E) fun B q =>
.reg 5 [] [(8,hc n [] true),(13,hc q [] true)] [.clg 2 [j=false] n [] 2 true,.clg 0 [m=false] q [] 2 true]<|
.ite (cO m (!B)) (
.reg 6 [] [i] [.pf cz9]<|
.r (g,2)) (
.a 7 1 2 (@F_q19_ok v) fun C=>
.ite (C != u) (
.reg 8 [] [i] [.pf cz9]<|
.r (g,16)) (
.ite ((t.A.length:Int)==200) (
.reg 10 [] [i] [.pf cz9]<|
.r (g,3)) (
.call (@F_q1j_ok t) fun c s=>
.reg 11 [] [(1,hc s [] false),(2,{ h:=.obj })] [.cl 0 s [] 2 false]<|
.kill 3<|
.guard [c.2.1.length<2 ^ 63]<|
.frz 5 (.ev 0) none [] [8]<|
.guard [c.2.2.1.length<2 ^ 63]<|
.frz 6 (.ev 0) none [] [8]<|
.guard [c.2.2.2.length<2 ^ 63]<|
.frz 7 (.ev 0) none [] [8]<|
.guard [(c.1.length+1) * (2 * 56)<=2 ^ 48]<|
 let f:=([(⟨(i64.wrap ((t.A.length:Int)+1)),D,u,v,E,0⟩:TRe)]:List TRe)
.reg 12 [] [(11,hv (AV.d (eL TRe.e f))),(12,{ cast:=some (AV.ref 4 ((c.1++f).length) 0 ((c.1++f).length)),obs:=[(4,(eS 6 TRe.e (c.1++f)))] })] [.pf (zb TRe.e f),.e c.1.length,.e c.1.length,.pf (p:=∀ k,k<1->(TRe.d (f.getD k dF)).wd=6) (fun _ _=>rfl),.ev 0,.pf (z1b (o:=4) (l:=c.1) (x:=f)),.pf (z1a (sz:=6) (e:=TRe.e) (l:=c.1) (x:=f))]<|
.guard [(c.1++f).length<2 ^ 63]<|
.reg 13 [] [] []<|
.frz 4 (.ev 0) none [] [1,8]<|
.r ((⟨(c.1++f),c.2.1,c.2.2.1,c.2.2.2⟩:TBo),0))))))
def F_q3k (a:TBo) (b:Y8) (c:Int) (d:Int) (e:Int):=(S_q3k a b c d e).den
theorem F_q3k_ok {a:TBo} {b:Y8} {c:Int} {e:Int} {f:Int}:FO (F_q3k a b c e f) 87 [(TBo.d a),(AV.d (DV.str b)),(vi c),(vi e),(vi f)] [] (fun x=>(AV.tup [(TBo.d x.1),(vi x.2)])) NL:=fO (s:=S_q3k a b c e f) Tryz.func87
def S_q3l (m:TBo) (t:Int) (C:Int) (D:Int) (E:Int) (L:Int):SC (TBo×Int) (TBo×Int) :=
 let f:=(⟨[],[],[],[]⟩:TBo)
.reg 0 [] [(1,{ obs:=[(1,(TBo.b f))] })] [.pf cz8]<|
.a 1 1 2 (@F_q1d_ok m) fun F=>
 let g:=(0,hv (TBo.d f))
.ite (!F) (
.reg 2 [] [g] [.pf cz9]<|
.r (f,1)) (
.ite (cO (decide (t<1)) (decide (t>(m.A.length:Int)))) (
.reg 4 [] [g] [.pf cz9]<|
.r (f,6)) (
.call (@F_qu_ok C) fun n u=>
.calld [(!n)=false] dF (@F_q1a_ok D) fun G v =>
 let q:=(cO (cO (cO (!n) (!G)) (decide (E<1))) (decide (E>1000000)))
.calld [q=false] dF (@F_qu_ok L) fun H w =>
.reg 5 [] [(1,hc u [] true),(5,hc v [] true),(18,hc w [] true)] [.cl 4 u [] 2 true,.clg 2 [(!n)=false] v [] 2 true,.clg 0 [q=false] w [] 2 true]<|
.ite (cO q (!H)) (
.reg 6 [] [g] [.pf cz9]<|
.r (f,2)) (
 let s:=(i64.wrap (t-1))
.guard [(0:Int)<=s,s.toNat<m.A.length]<|
.reg 7 [] [] [.ev 0,.ev 1]<|
.a 8 1 3 (@F_q19_ok C) fun I=>
 let y:=(m.A.getD s.toNat dF)
.ite (I != y.K) (
.reg 9 [] [g] [.pf cz9]<|
.r (f,16)) (
.ite (decide (C<y.N)) (
.reg 11 [] [g] [.pf cz9]<|
.r (f,8)) (
.a 12 3 3 (@F_qk_ok m t) fun J=>
.ite (decide (D>J)) (
.reg 13 [] [g] [.pf cz9]<|
.r (f,15)) (
.ite ((m.B.length:Int)==200) (
.reg 15 [] [g] [.pf cz9]<|
.r (f,3)) (
.call (@F_q1j_ok m) fun c z=>
.reg 16 [] [(1,hc z [] false),(2,{ h:=.obj })] [.cl 0 z [] 3 false]<|
.kill 4<|
.guard [c.1.length<2 ^ 63]<|
.frz 5 (.ev 0) none [] [9]<|
.guard [c.2.2.1.length<2 ^ 63]<|
.frz 7 (.ev 0) none [] [9]<|
.guard [c.2.2.2.length<2 ^ 63]<|
.frz 8 (.ev 0) none [] [9]<|
.guard [(c.2.1.length+1) * (2 * 56)<=2 ^ 48]<|
 let i:=([(⟨(i64.wrap ((m.B.length:Int)+1)),t,C,D,0,E,L⟩:TCo)]:List TCo)
 let j:=(c.2.1++i)
.reg 17 [] [(12,hv (AV.d (eL TCo.e i))),(13,{ cast:=some (AV.ref 6 j.length 0 j.length),obs:=[(6,(eS 7 TCo.e j))] })] [.pf (zb TCo.e i),.e c.2.1.length,.e c.2.1.length,.pf (p:=∀ k,k<1->(TCo.d (i.getD k dF)).wd=7) (fun _ _=>rfl),.ev 0,.pf (z1b (o:=6) (l:=c.2.1) (x:=i)),.pf (z1a (sz:=7) (e:=TCo.e) (l:=c.2.1) (x:=i))]<|
.guard [j.length<2 ^ 63]<|
.reg 18 [] [] []<|
.frz 6 (.ev 0) none [] [1,9]<|
.r ((⟨c.1,j,c.2.2.1,c.2.2.2⟩:TBo),0))))))))
def F_q3l (a:TBo) (b:Int) (c:Int) (d:Int) (e:Int) (f:Int):=(S_q3l a b c d e f).den
theorem F_q3l_ok {a:TBo} {b:Int} {c:Int} {e:Int} {f:Int} {g:Int}:FO (F_q3l a b c e f g) 89 [(TBo.d a),(vi b),(vi c),(vi e),(vi f),(vi g)] [] (fun x=>(AV.tup [(TBo.d x.1),(vi x.2)])) NL:=fO (s:=S_q3l a b c e f g) Tryz.func89
end
end Go.Proofs.YtiohhffifhaboaaGreatDoor
/- What the functions compute,and that their calls return it. No condition. -/
namespace Go.Proofs.YtiohhffifhaboaaGreatDoor
open Go Go.TA
open Go.IntKind (i64)
noncomputable section
set_option maxRecDepth 100000
set_option maxHeartbeats 2000000
def S_q3m (m:TBo) (s:Int) (D:Int) (E:Int):SC (TBo×Int) (TBo×Int) :=
 let f:=(⟨[],[],[],[]⟩:TBo)
.reg 0 [] [(1,{ obs:=[(1,(TBo.b f))] })] [.pf cz8]<|
.a 1 1 2 (@F_q1d_ok m) fun F=>
 let g:=(0,hv (TBo.d f))
.ite (!F) (
.reg 2 [] [g] [.pf cz9]<|
.r (f,1)) (
.ite (cO (decide (s<1)) (decide (s>(m.B.length:Int)))) (
.reg 4 [] [g] [.pf cz9]<|
.r (f,6)) (
.call (@F_qu_ok D) fun n t=>
.calld [(!n)=false] dF (@F_q1a_ok E) fun G u =>
.reg 5 [] [(1,hc t [] true),(5,hc u [] true)] [.cl 2 t [] 2 true,.clg 0 [(!n)=false] u [] 2 true]<|
.ite (cO (!n) (!G)) (
.reg 6 [] [g] [.pf cz9]<|
.r (f,2)) (
.call (@F_q19_ok D) fun H v=>
.call (@F_q1i_ok m s) fun I w=>
.reg 7 [] [(1,hc v [] true),(4,hc w [] true)] [.cl 1 v [] 2 true,.cl 0 w [] 2 true]<|
.ite (decide (H>(i64.wrap (I+1)))) (
.reg 8 [] [g] [.pf cz9]<|
.r (f,16)) (
 let q:=(i64.wrap (s-1))
.guard [(0:Int)<=q,q.toNat<m.B.length]<|
.reg 9 [] [] [.ev 0,.ev 1]<|
 let y:=(m.B.getD q.toNat dF)
.ite (decide (D<y.N)) (
.reg 10 [] [g] [.pf cz9]<|
.r (f,8)) (
.call (@F_q1c_ok m y) fun J z=>
.reg 11 [] [(8,hc z [] true)] [.ev 2,.ev 3,.cl 0 z [] 2 true]<|
.ite (decide (E>J)) (
.reg 12 [] [g] [.pf cz9]<|
.r (f,15)) (
.ite ((m.C.length:Int)==200) (
.reg 14 [] [g] [.pf cz9]<|
.r (f,3)) (
.call (@F_q1j_ok m) fun c A=>
.reg 15 [] [(1,hc A [] false),(2,{ h:=.obj })] [.cl 0 A [] 2 false]<|
.kill 3<|
.guard [c.1.length<2 ^ 63]<|
.frz 4 (.ev 0) none [] [8]<|
.guard [c.2.1.length<2 ^ 63]<|
.frz 5 (.ev 0) none [] [8]<|
.guard [c.2.2.2.length<2 ^ 63]<|
.frz 7 (.ev 0) none [] [8]<|
.guard [(c.2.2.1.length+1) * (2 * 32)<=2 ^ 48]<|
 let i:=([(⟨(i64.wrap ((m.C.length:Int)+1)),s,D,E⟩:TVe)]:List TVe)
 let j:=(c.2.2.1++i)
.reg 16 [] [(10,hv (AV.d (eL TVe.e i))),(11,{ cast:=some (AV.ref 6 j.length 0 j.length),obs:=[(6,(eS 4 TVe.e j))] })] [.pf (zb TVe.e i),.e c.2.2.1.length,.e c.2.2.1.length,.pf (p:=∀ k,k<1->(TVe.d (i.getD k dF)).wd=4) (fun _ _=>rfl),.ev 0,.pf (z1b (o:=6) (l:=c.2.2.1) (x:=i)),.pf (z1a (sz:=4) (e:=TVe.e) (l:=c.2.2.1) (x:=i))]<|
.guard [j.length<2 ^ 63]<|
.reg 17 [] [] []<|
.frz 6 (.ev 0) none [] [1,8]<|
.r ((⟨c.1,c.2.1,j,c.2.2.2⟩:TBo),0))))))))
def F_q3m (a:TBo) (b:Int) (c:Int) (d:Int):=(S_q3m a b c d).den
theorem F_q3m_ok {a:TBo} {b:Int} {c:Int} {e:Int}:FO (F_q3m a b c e) 90 [(TBo.d a),(vi b),(vi c),(vi e)] [] (fun x=>(AV.tup [(TBo.d x.1),(vi x.2)])) NL:=fO (s:=S_q3m a b c e) Tryz.func90
def S_q1k_b1 (d:TBo) (e:Int) (b:Nat) (a:TOr×Int):SC (TOr×Int) (Step (TOr×Int) (TOr×Int)) :=
.reg 5 [] [] [.w b,.ev 0]<|
 let c:=(d.G.getD b dF)
.ite (c.E==e) (
.r (.cont (c,(i64.wrap (a.2+1))))) (
.r (.cont (a.1,a.2)))
def S_q1k (c:TBo) (d:Int):SC (TOr×Int) (TOr×Int) :=
.range (c.G.length:Int) c.G.length rfl (.slot 11) 13 [1,4,6,11,12] (fun (a:TOr×Int)=>[(7,(vi a.2))]) (fun a=>[(2,(TOr.b a.1))]) ((⟨0,0,0,0,false⟩:TOr),0) (S_q1k_b1 c d) (fun a => 
.r (a.1,a.2)) id
def F_q1k (a:TBo) (b:Int):=(S_q1k a b).den
theorem F_q1k_ok {a:TBo} {b:Int}:FO (F_q1k a b) 136 [(TBo.d a),(vi b)] [] (fun x=>(AV.tup [(TOr.d x.1),(vi x.2)])) NL:=fO (s:=S_q1k a b) Tryz.func136
def S_q3n (n:TBo) (s:Int) (t:Int):SC (TBo×Int) (TBo×Int) :=
 let f:=(⟨[],[],[],[]⟩:TBo)
.reg 0 [] [(1,{ obs:=[(1,(TBo.b f))] })] [.pf cz8]<|
.a 1 1 2 (@F_q1d_ok n) fun z=>
 let g:=(0,hv (TBo.d f))
.ite (!z) (
.reg 2 [] [g] [.pf cz9]<|
.r (f,1)) (
.ite (cO (decide (s<1)) (decide (s>(n.C.length:Int)))) (
.reg 4 [] [g] [.pf cz9]<|
.r (f,6)) (
.a 5 1 2 (@F_qu_ok t) fun A=>
.ite (!A) (
.reg 6 [] [g] [.pf cz9]<|
.r (f,2)) (
 let q:=(i64.wrap (s-1))
.guard [(0:Int)<=q,q.toNat<n.C.length]<|
.reg 7 [] [] [.ev 0,.ev 1]<|
.a 8 2 3 (@F_q1k_ok n s) fun j=>
.call (@F_q19_ok t) fun B u=>
 let v:=(n.C.getD q.toNat dF)
.call (@F_q1i_ok n v.I) fun D w=>
.reg 9 [] [(1,hc u [] true),(5,hc w [] true)] [.cl 1 u [] 4 true,.cl 0 w [] 4 true]<|
.ite (decide (B>(i64.wrap (D+1)))) (
.reg 10 [] [g] [.pf cz9]<|
.r (f,16)) (
.ite (bif (decide (j.2>0)) then (!j.1.Z) else false) (
.reg 12 [] [g] [.pf cz9]<|
.r (f,20)) (
.ite (cO (decide (t<v.N)) (bif (decide (j.2>0)) then (decide (t<j.1.N)) else false)) (
.reg 14 [] [g] [.pf cz9]<|
.r (f,8)) (
.ite ((n.G.length:Int)==200) (
.reg 16 [] [g] [.pf cz9]<|
.r (f,3)) (
.call (@F_q1j_ok n) fun c y=>
.reg 17 [] [(1,hc y [] false),(2,{ h:=.obj })] [.cl 0 y [] 4 false]<|
.kill 5<|
.guard [c.1.length<2 ^ 63]<|
.frz 6 (.ev 0) none [] [10]<|
.guard [c.2.1.length<2 ^ 63]<|
.frz 7 (.ev 0) none [] [10]<|
.guard [c.2.2.1.length<2 ^ 63]<|
.frz 8 (.ev 0) none [] [10]<|
.guard [(c.2.2.2.length+1) * (2 * 40)<=2 ^ 48]<|
 let i:=([(⟨(i64.wrap ((n.G.length:Int)+1)),s,(i64.wrap (j.2+1)),t,false⟩:TOr)]:List TOr)
 let m:=(c.2.2.2++i)
.reg 18 [] [(11,hv (AV.d (eL TOr.e i))),(12,{ cast:=some (AV.ref 9 m.length 0 m.length),obs:=[(9,(eS 5 TOr.e m))] })] [.pf (zb TOr.e i),.e c.2.2.2.length,.e c.2.2.2.length,.pf (p:=∀ k,k<1->(TOr.d (i.getD k dF)).wd=5) (fun _ _=>rfl),.ev 0,.pf (z1b (o:=9) (l:=c.2.2.2) (x:=i)),.pf (z1a (sz:=5) (e:=TOr.e) (l:=c.2.2.2) (x:=i))]<|
.guard [m.length<2 ^ 63]<|
.reg 19 [] [] []<|
.frz 9 (.ev 0) none [] [1,10]<|
.r ((⟨c.1,c.2.1,c.2.2.1,m⟩:TBo),0))))))))
def F_q3n (a:TBo) (b:Int) (c:Int):=(S_q3n a b c).den
theorem F_q3n_ok {a:TBo} {b:Int} {c:Int}:FO (F_q3n a b c) 91 [(TBo.d a),(vi b),(vi c)] [] (fun x=>(AV.tup [(TBo.d x.1),(vi x.2)])) NL:=fO (s:=S_q3n a b c) Tryz.func91
def S_q3o (t:TBo) (y:Int) (z:Int):SC (TBo×Int) (TBo×Int) :=
 let f:=(⟨[],[],[],[]⟩:TBo)
 let j:=(TBo.b f)
.reg 0 [] [(1,{ obs:=[(1,j)] })] [.pf cz8]<|
.a 1 1 2 (@F_q1d_ok t) fun B=>
 let k:=(0,hv (TBo.d f))
.ite (!B) (
.reg 2 [] [k] [.pf cz9]<|
.r (f,1)) (
.ite (cO (decide (y<1)) (decide (y>(t.A.length:Int)))) (
.reg 4 [] [k] [.pf cz9]<|
.r (f,6)) (
.a 5 1 2 (@F_q1a_ok z) fun C=>
.ite (!C) (
.reg 6 [] [k] [.pf cz9]<|
.r (f,2)) (
.a 7 3 2 (@F_qk_ok t y) fun E=>
.ite (decide (z>E)) (
.reg 8 [] [k] [.pf cz9]<|
.r (f,15)) (
.call (@F_q1j_ok t) fun c u=>
.reg 9 [] [(1,hc u [] false),(2,{ obs:=[(8,j)] })] [.cl 0 u [] 2 false,.pf cz8]<|
.kill 3<|
.guard [c.2.1.length<2 ^ 63]<|
.frz 5 (.ev 0) none [] [8]<|
.guard [c.2.2.1.length<2 ^ 63]<|
.frz 6 (.ev 0) none [] [8]<|
.guard [c.2.2.2.length<2 ^ 63]<|
.frz 7 (.ev 0) none [] [8]<|
 let q:=(i64.wrap (y-1))
 let m:=(0+q.toNat)
.guard [(0:Int)<=q,q.toNat<c.1.length,m<c.1.length]<|
 let g:=(c.1.getD m dF)
 let v:=(⟨g.D,g.J,g.K,g.N,g.L,(i64.wrap (g.P+z))⟩:TRe)
 let h:=(c.1.set m v)
 let s:=(eS 6 TRe.e h)
.reg 10 [] [(11,{ obs:=[(4,s)] })] [.e c.1.length,.ev 0,.ev 1,.e c.1.length,.e c.1.length,.ev 2,.e c.1.length,.ev 0,.ev 1,.e c.1.length,.e c.1.length,.ev 2,.pf (z1f (sz:=6) (e:=TRe.e) (l:=c.1) (i:=m) (x:=v) (fun _=>rfl))]<|
 let w:=(AV.d (eL TVe.e c.2.2.1))
 let n:=(AV.d (eL TOr.e c.2.2.2))
 let o:=(AV.d (eL TCo.e c.2.1))
 let p:=[(6,(vp 1)),(8,(vp 8))]
.cst (A:=True) (.pf trivial) p p [(TBo.b t),j,Ob.dead,Ob.dead,s,Ob.dead,Ob.dead,Ob.dead,(Ob.box (AV.agg [(AV.ref 4 c.1.length 0 c.1.length),o,w,n]))] [(TBo.b t),j,Ob.dead,Ob.dead,s,Ob.dead,Ob.dead,Ob.dead,(Ob.box (AV.agg [(AV.ref 4 h.length 0 h.length),o,w,n]))] (fun _=>⟨Zd,Zb⟩)<|
.guard [h.length<2 ^ 63]<|
.reg 11 [] [] []<|
.frz 4 (.ev 0) none [] [1,8]<|
.r ((⟨h,c.2.1,c.2.2.1,c.2.2.2⟩:TBo),0)))))
def F_q3o (a:TBo) (b:Int) (c:Int):=(S_q3o a b c).den
theorem F_q3o_ok {a:TBo} {b:Int} {c:Int}:FO (F_q3o a b c) 92 [(TBo.d a),(vi b),(vi c)] [] (fun x=>(AV.tup [(TBo.d x.1),(vi x.2)])) NL:=fO (s:=S_q3o a b c) Tryz.func92
def S_q3p (o:TBo) (z:Int) (C:Int):SC (TBo×Int) (TBo×Int) :=
 let g:=(⟨[],[],[],[]⟩:TBo)
 let k:=(TBo.b g)
.reg 0 [] [(1,{ obs:=[(1,k)] })] [.pf cz8]<|
.a 1 1 2 (@F_q1d_ok o) fun E=>
 let m:=(0,hv (TBo.d g))
.ite (!E) (
.reg 2 [] [m] [.pf cz9]<|
.r (g,1)) (
.ite (cO (decide (z<1)) (decide (z>(o.B.length:Int)))) (
.reg 4 [] [m] [.pf cz9]<|
.r (g,6)) (
.a 5 1 2 (@F_q1a_ok C) fun F=>
.ite (!F) (
.reg 6 [] [m] [.pf cz9]<|
.r (g,2)) (
 let h:=(i64.wrap (z-1))
.call (@F_q1c_ok o (o.B.getD h.toNat dF)) fun G u=>
.guard [(0:Int)<=h,h.toNat<o.B.length]<|
.reg 7 [] [(8,hc u [] true)] [.ev 0,.ev 1,.cl 2 u [] 2 true]<|
.ite (decide (C>G)) (
.reg 8 [] [m] [.pf cz9]<|
.r (g,15)) (
.call (@F_q1j_ok o) fun c v=>
.reg 9 [] [(1,hc v [] false),(2,{ obs:=[(8,k)] })] [.cl 0 v [] 2 false,.pf cz8]<|
.kill 3<|
.guard [c.1.length<2 ^ 63]<|
.frz 4 (.ev 0) none [] [8]<|
.guard [c.2.2.1.length<2 ^ 63]<|
.frz 6 (.ev 0) none [] [8]<|
.guard [c.2.2.2.length<2 ^ 63]<|
.frz 7 (.ev 0) none [] [8]<|
 let n:=(0+h.toNat)
.guard [h.toNat<c.2.1.length,n<c.2.1.length]<|
 let f:=(c.2.1.getD n dF)
 let w:=(⟨f.D,f.H,f.N,f.L,(i64.wrap (f.P+C)),f.S,f.X⟩:TCo)
 let j:=(c.2.1.set n w)
 let t:=(eS 7 TCo.e j)
.reg 10 [] [(11,{ obs:=[(5,t)] })] [.e c.2.1.length,.ev 7,.ev 0,.e c.2.1.length,.e c.2.1.length,.ev 1,.e c.2.1.length,.ev 7,.ev 0,.e c.2.1.length,.e c.2.1.length,.ev 1,.pf (z1f (sz:=7) (e:=TCo.e) (l:=c.2.1) (i:=n) (x:=w) (fun _=>rfl))]<|
 let y:=(AV.d (eL TVe.e c.2.2.1))
 let p:=(AV.d (eL TOr.e c.2.2.2))
 let q:=[(6,(vp 1)),(8,(vp 8))]
 let s:=(AV.d (eL TRe.e c.1))
.cst (A:=True) (.pf trivial) q q [(TBo.b o),k,Ob.dead,Ob.dead,Ob.dead,t,Ob.dead,Ob.dead,(Ob.box (AV.agg [s,(AV.ref 5 c.2.1.length 0 c.2.1.length),y,p]))] [(TBo.b o),k,Ob.dead,Ob.dead,Ob.dead,t,Ob.dead,Ob.dead,(Ob.box (AV.agg [s,(AV.ref 5 j.length 0 j.length),y,p]))] (fun _=>⟨Zd,Zb⟩)<|
.guard [j.length<2 ^ 63]<|
.reg 11 [] [] []<|
.frz 5 (.ev 0) none [] [1,8]<|
.r ((⟨c.1,j,c.2.2.1,c.2.2.2⟩:TBo),0)))))
def F_q3p (a:TBo) (b:Int) (c:Int):=(S_q3p a b c).den
theorem F_q3p_ok {a:TBo} {b:Int} {c:Int}:FO (F_q3p a b c) 93 [(TBo.d a),(vi b),(vi c)] [] (fun x=>(AV.tup [(TBo.d x.1),(vi x.2)])) NL:=fO (s:=S_q3p a b c) Tryz.func93
def S_q3q (u:TBo) (z:Int):SC (TBo×Int) (TBo×Int) :=
 let f:=(⟨[],[],[],[]⟩:TBo)
 let j:=(TBo.b f)
.reg 0 [] [(1,{ obs:=[(1,j)] })] [.pf cz8]<|
.a 1 1 2 (@F_q1d_ok u) fun B=>
 let q:=(0,hv (TBo.d f))
.ite (!B) (
.reg 2 [] [q] [.pf cz9]<|
.r (f,1)) (
.ite (cO (decide (z<1)) (decide (z>(u.C.length:Int)))) (
.reg 4 [] [q] [.pf cz9]<|
.r (f,6)) (
.a 5 2 2 (@F_q1k_ok u z) fun g=>
.ite (cO (g.2==0) g.1.Z) (
.reg 7 [] [q] [.pf cz9]<|
.r (f,9)) (
.call (@F_q1j_ok u) fun c v=>
.reg 8 [] [(1,hc v [] false),(2,{ obs:=[(9,j)] })] [.cl 0 v [] 3 false,.pf cz8]<|
.kill 4<|
.guard [c.1.length<2 ^ 63]<|
.frz 5 (.ev 0) none [] [9]<|
.guard [c.2.1.length<2 ^ 63]<|
.frz 6 (.ev 0) none [] [9]<|
.guard [c.2.2.1.length<2 ^ 63]<|
.frz 7 (.ev 0) none [] [9]<|
 let s:=(i64.wrap (g.1.D-1))
 let k:=(0+s.toNat)
.guard [(0:Int)<=s,s.toNat<c.2.2.2.length,k<c.2.2.2.length]<|
 let m:=(c.2.2.2.getD k dF)
 let w:=(⟨m.D,m.E,m.Q,m.N,true⟩:TOr)
 let h:=(c.2.2.2.set k w)
 let t:=(eS 5 TOr.e h)
.reg 9 [] [(7,{ obs:=[(8,t)] })] [.e c.2.2.2.length,.ev 0,.ev 1,.e c.2.2.2.length,.e c.2.2.2.length,.ev 2,.pf (z1f (sz:=5) (e:=TOr.e) (l:=c.2.2.2) (i:=k) (x:=w) (fun _=>rfl))]<|
 let y:=(AV.d (eL TVe.e c.2.2.1))
 let n:=(AV.d (eL TCo.e c.2.1))
 let o:=[(4,(vp 1)),(8,(vp 9))]
 let p:=(AV.d (eL TRe.e c.1))
.cst (A:=True) (.pf trivial) o o [(TBo.b u),j,(TOr.b g.1),Ob.dead,Ob.dead,Ob.dead,Ob.dead,Ob.dead,t,(Ob.box (AV.agg [p,n,y,(AV.ref 8 c.2.2.2.length 0 c.2.2.2.length)]))] [(TBo.b u),j,(TOr.b g.1),Ob.dead,Ob.dead,Ob.dead,Ob.dead,Ob.dead,t,(Ob.box (AV.agg [p,n,y,(AV.ref 8 h.length 0 h.length)]))] (fun _=>⟨Zd,Zb⟩)<|
.guard [h.length<2 ^ 63]<|
.reg 10 [] [] []<|
.frz 8 (.ev 0) none [] [1,9]<|
.r ((⟨c.1,c.2.1,c.2.2.1,h⟩:TBo),0))))
def F_q3q (a:TBo) (b:Int):=(S_q3q a b).den
theorem F_q3q_ok {a:TBo} {b:Int}:FO (F_q3q a b) 94 [(TBo.d a),(vi b)] [] (fun x=>(AV.tup [(TBo.d x.1),(vi x.2)])) NL:=fO (s:=S_q3q a b) Tryz.func94
def S_q2g (b:TRi) (c:TMe):SC (TRi×Int) (TRi×Int) :=
.a 1 1 3 (@F_q2f_ok b) fun g=>
.ite (cO (cO (cO (!g) (c.Ab != 0)) (!(c.J==b.J))) (c.K != b.K)) (
.r ((⟨[],0,0,0,0⟩:TRi),1)) (
.call (@F_q1r_ok c.R) fun d e=>
.calld [(!d)=false] dF (@F_q1r_ok c.W) fun h f =>
.reg 3 [] [(2,hc e [] true),(7,hc f [] true)] [.cl 2 e [] 3 true,.clg 0 [(!d)=false] f [] 3 true]<|
.ite (cO (!d) (!h)) (
.r ((⟨[],0,0,0,0⟩:TRi),2)) (
.reg 5 [11,13] [] []<|
.r ((⟨b.J,b.K,(if c.R>b.R then c.R else b.R),(if c.W>b.W then c.W else b.W),b.T⟩:TRi),0)))
def F_q2g (a:TRi) (b:TMe):=(S_q2g a b).den
theorem F_q2g_ok {a:TRi} {b:TMe}:FO (F_q2g a b) 137 [(TRi.d a),(TMe.d b)] [] (fun x=>(AV.tup [(TRi.d x.1),(vi x.2)])) NL:=fO (s:=S_q2g a b) Tryz.func137
end
end Go.Proofs.YtiohhffifhaboaaGreatDoor
