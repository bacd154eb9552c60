/- A part of the proof: what the functions compute, and that their calls return it. No condition. -/
import Derived.Test.YtkhgaalekilaeaaGreatDoorG4
/- What the functions compute, and that their calls return it. No condition. -/
namespace Go.Proofs.YtkhgaalekilaeaaGreatDoor
open Go Go.TA
open Go.IntKind (i64)
noncomputable section
set_option maxRecDepth 100000
abbrev R_qg:=Y8
def S_qg_b1 (h:TOp) (ch:(List Y8)) (Q:Nat) (c:(List Y8)×TOp):SC R_qg (Step ((List Y8)×TOp) R_qg) :=
.guard [((0+1)+Q)<c.1.length]<|
.reg 8 [] [] [.e c.1.length,.w Q,.ev 1,.e c.1.length,.ev 0]<|
 let g:=(i64.wrap ((Q:Int)+1))
 let f:=(0+g.toNat)
 let j:=(ch.length-1)
 let F:=(19,(vi ((j:Nat):Int)))
 let m:=(20,(vi (Q:Int)))
 let P:=[(1,(vp 0)),(3,(Rb 1 c.1.length 0 c.1.length)),(4,(vp 2)),(18,(Rb 1 c.1.length (0+1) j)),F,m]
 let d:=(c.1.getD ((0+1)+Q) dF)
 let n:=(DV.i .i64 c.2.U)
 let p:=(DV.i .i64 c.2.Ab)
 let q:=(DV.i .i64 c.2.Of)
 let s:=(DV.i .i64 c.2.Ah)
 let t:=(DV.i .i64 c.2.Aj)
 let u:=(DV.i .i64 c.2.Ae)
 let v:=(DV.i .i64 c.2.D)
 let y:=(DV.i .i64 c.2.V)
 let z:=(DV.i .i64 c.2.A)
 let o:=(TOp.b h)
.ite (d==([67,79,68,69])) (
.a 10 2 3 (@F_q7w_ok h.B) fun ci=>
.ite ((ci.length:Int)==0) (
.r (.ret ([]))) (
.guard [(0:Int)<=g,g.toNat<c.1.length,f<c.1.length]<|
 let G:=(c.1.set f h.B)
.reg 12 [] [(6,{ obs:=[(1,(eS 1 Rf G))] })] [.e c.1.length,.ev 0,.ev 1,.e c.1.length,.ev 2,.pf (zo (sz:=1) (e:=Rf) (l:=c.1) (i:=f) (x:=h.B) (fun _=>rfl))]<|
 let bj:=[o,(eS 1 Rf G),(bx (DV.agg [n,(Rf ([])),v,p,q,y,s,t,z,u]))]
.cst (A:=True) (.pf trivial) P [(1,(vp 0)),(3,(Rb 1 G.length 0 G.length)),(4,(vp 2)),(18,(Rb 1 G.length (0+1) j)),F,m] bj bj (fun _=>⟨Zb,by rfl⟩)<|
.r (.cont (G,(⟨c.2.U,[],c.2.D,c.2.Ab,c.2.Of,c.2.V,c.2.Ah,c.2.Aj,c.2.A,c.2.Ae⟩:TOp))))) (
 let C:=(Rf c.2.B)
 let E:=(DV.i .i64 0)
.split (d==([89,69,65,82])) (
.call (@F_q7d_ok d h) fun da cj=>
.k 13 1 cj [0] 3 true<|
 let R:=(decide (h.D<0))
.calld [R=false] dF (@F_q1z_ok d) fun ck bk =>
.reg 14 [] [(5,hc bk [] true)] [.clg 0 [R=false] bk [] 3 true]<|
.ite (cO R (decide (h.D>ck))) (
.r (.ret ([]))) (
.call (@F_q7d_ok d c.2) fun db bl=>
.call (@F_q7s_ok h.D) fun bm bn=>
.guard [(0:Int)<=g,g.toNat<c.1.length,f<c.1.length]<|
 let H:=(c.1.set f bm)
.reg 16 [] [(4,hc bl [2] true),(6,hc bn [] true),(8,{ obs:=[(1,(eS 1 Rf H))] })] [.cl 4 bl [2] 3 true,.cl 3 bn [] 3 true,.e c.1.length,.ev 0,.ev 1,.e c.1.length,.ev 2,.pf (zo (sz:=1) (e:=Rf) (l:=c.1) (i:=f) (x:=bm) (fun _=>rfl))]<|
 let bo:=[o,(eS 1 Rf H),(bx (DV.agg [n,C,E,p,q,y,s,t,z,u]))]
.cst (A:=True) (.pf trivial) P [(1,(vp 0)),(3,(Rb 1 H.length 0 H.length)),(4,(vp 2)),(18,(Rb 1 H.length (0+1) j)),F,m] bo bo (fun _=>⟨Zb,by rfl⟩)<|
.r (.cont (H,(⟨c.2.U,c.2.B,0,c.2.Ab,c.2.Of,c.2.V,c.2.Ah,c.2.Aj,c.2.A,c.2.Ae⟩:TOp))))) (
.split (d==([68,65,89])) (
.call (@F_q7e_ok d h) fun dc cm=>
.k 13 1 cm [0] 3 true<|
 let S:=(decide (h.Ab<0))
.calld [S=false] dF (@F_q1z_ok d) fun bp ab =>
.reg 14 [] [(5,hc ab [] true)] [.clg 0 [S=false] ab [] 3 true]<|
.ite (cO S (decide (h.Ab>bp))) (
.r (.ret ([]))) (
.call (@F_q7e_ok d c.2) fun cn ac=>
.call (@F_q7s_ok h.Ab) fun ad ae=>
.guard [(0:Int)<=g,g.toNat<c.1.length,f<c.1.length]<|
 let I:=(c.1.set f ad)
.reg 16 [] [(4,hc ac [2] true),(6,hc ae [] true),(8,{ obs:=[(1,(eS 1 Rf I))] })] [.cl 4 ac [2] 3 true,.cl 3 ae [] 3 true,.e c.1.length,.ev 0,.ev 1,.e c.1.length,.ev 2,.pf (zo (sz:=1) (e:=Rf) (l:=c.1) (i:=f) (x:=ad) (fun _=>rfl))]<|
 let bq:=[o,(eS 1 Rf I),(bx (DV.agg [n,C,v,E,q,y,s,t,z,u]))]
.cst (A:=True) (.pf trivial) P [(1,(vp 0)),(3,(Rb 1 I.length 0 I.length)),(4,(vp 2)),(18,(Rb 1 I.length (0+1) j)),F,m] bq bq (fun _=>⟨Zb,by rfl⟩)<|
.r (.cont (I,(⟨c.2.U,c.2.B,c.2.D,0,c.2.Of,c.2.V,c.2.Ah,c.2.Aj,c.2.A,c.2.Ae⟩:TOp))))) (
.split (d==([65,77,79,85,78,84])) (
.call (@F_q7f_ok d h) fun co br=>
.k 13 1 br [0] 3 true<|
 let T:=(decide (h.V<0))
.calld [T=false] dF (@F_q1z_ok d) fun bs af =>
.reg 14 [] [(5,hc af [] true)] [.clg 0 [T=false] af [] 3 true]<|
.ite (cO T (decide (h.V>bs))) (
.r (.ret ([]))) (
.call (@F_q7f_ok d c.2) fun cp ag=>
.call (@F_q7s_ok h.V) fun ah ai=>
.guard [(0:Int)<=g,g.toNat<c.1.length,f<c.1.length]<|
 let J:=(c.1.set f ah)
.reg 16 [] [(4,hc ag [2] true),(6,hc ai [] true),(8,{ obs:=[(1,(eS 1 Rf J))] })] [.cl 4 ag [2] 3 true,.cl 3 ai [] 3 true,.e c.1.length,.ev 0,.ev 1,.e c.1.length,.ev 2,.pf (zo (sz:=1) (e:=Rf) (l:=c.1) (i:=f) (x:=ah) (fun _=>rfl))]<|
 let bt:=[o,(eS 1 Rf J),(bx (DV.agg [n,C,v,p,q,E,s,t,z,u]))]
.cst (A:=True) (.pf trivial) P [(1,(vp 0)),(3,(Rb 1 J.length 0 J.length)),(4,(vp 2)),(18,(Rb 1 J.length (0+1) j)),F,m] bt bt (fun _=>⟨Zb,by rfl⟩)<|
.r (.cont (J,(⟨c.2.U,c.2.B,c.2.D,c.2.Ab,c.2.Of,0,c.2.Ah,c.2.Aj,c.2.A,c.2.Ae⟩:TOp))))) (
.split (d==([79,70])) (
.call (@F_q7g_ok d h) fun cq bu=>
.k 13 1 bu [0] 3 true<|
 let W:=(decide (h.Of<0))
.calld [W=false] dF (@F_q1z_ok d) fun bv aj =>
.reg 14 [] [(5,hc aj [] true)] [.clg 0 [W=false] aj [] 3 true]<|
.ite (cO W (decide (h.Of>bv))) (
.r (.ret ([]))) (
.call (@F_q7g_ok d c.2) fun cr ak=>
.call (@F_q7s_ok h.Of) fun al am=>
.guard [(0:Int)<=g,g.toNat<c.1.length,f<c.1.length]<|
 let K:=(c.1.set f al)
.reg 16 [] [(4,hc ak [2] true),(6,hc am [] true),(8,{ obs:=[(1,(eS 1 Rf K))] })] [.cl 4 ak [2] 3 true,.cl 3 am [] 3 true,.e c.1.length,.ev 0,.ev 1,.e c.1.length,.ev 2,.pf (zo (sz:=1) (e:=Rf) (l:=c.1) (i:=f) (x:=al) (fun _=>rfl))]<|
 let an:=[o,(eS 1 Rf K),(bx (DV.agg [n,C,v,p,E,y,s,t,z,u]))]
.cst (A:=True) (.pf trivial) P [(1,(vp 0)),(3,(Rb 1 K.length 0 K.length)),(4,(vp 2)),(18,(Rb 1 K.length (0+1) j)),F,m] an an (fun _=>⟨Zb,by rfl⟩)<|
.r (.cont (K,(⟨c.2.U,c.2.B,c.2.D,c.2.Ab,0,c.2.V,c.2.Ah,c.2.Aj,c.2.A,c.2.Ae⟩:TOp))))) (
.split (d==([80,65,89,69,69])) (
.call (@F_q7h_ok d h) fun cs bw=>
.k 13 1 bw [0] 3 true<|
 let X:=(decide (h.Ah<0))
.calld [X=false] dF (@F_q1z_ok d) fun bz ao =>
.reg 14 [] [(5,hc ao [] true)] [.clg 0 [X=false] ao [] 3 true]<|
.ite (cO X (decide (h.Ah>bz))) (
.r (.ret ([]))) (
.call (@F_q7h_ok d c.2) fun ct ap=>
.call (@F_q7s_ok h.Ah) fun aq ar=>
.guard [(0:Int)<=g,g.toNat<c.1.length,f<c.1.length]<|
 let L:=(c.1.set f aq)
.reg 16 [] [(4,hc ap [2] true),(6,hc ar [] true),(8,{ obs:=[(1,(eS 1 Rf L))] })] [.cl 4 ap [2] 3 true,.cl 3 ar [] 3 true,.e c.1.length,.ev 0,.ev 1,.e c.1.length,.ev 2,.pf (zo (sz:=1) (e:=Rf) (l:=c.1) (i:=f) (x:=aq) (fun _=>rfl))]<|
 let au:=[o,(eS 1 Rf L),(bx (DV.agg [n,C,v,p,q,y,E,t,z,u]))]
.cst (A:=True) (.pf trivial) P [(1,(vp 0)),(3,(Rb 1 L.length 0 L.length)),(4,(vp 2)),(18,(Rb 1 L.length (0+1) j)),F,m] au au (fun _=>⟨Zb,by rfl⟩)<|
.r (.cont (L,(⟨c.2.U,c.2.B,c.2.D,c.2.Ab,c.2.Of,c.2.V,0,c.2.Aj,c.2.A,c.2.Ae⟩:TOp))))) (
.split (d==([68,85,69])) (
.call (@F_q7i_ok d h) fun cu ca=>
.k 13 1 ca [0] 3 true<|
 let Y:=(decide (h.Aj<0))
.calld [Y=false] dF (@F_q1z_ok d) fun cb av =>
.reg 14 [] [(5,hc av [] true)] [.clg 0 [Y=false] av [] 3 true]<|
.ite (cO Y (decide (h.Aj>cb))) (
.r (.ret ([]))) (
.call (@F_q7i_ok d c.2) fun cv aw=>
.call (@F_q7s_ok h.Aj) fun ax ay=>
.guard [(0:Int)<=g,g.toNat<c.1.length,f<c.1.length]<|
 let M:=(c.1.set f ax)
.reg 16 [] [(4,hc aw [2] true),(6,hc ay [] true),(8,{ obs:=[(1,(eS 1 Rf M))] })] [.cl 4 aw [2] 3 true,.cl 3 ay [] 3 true,.e c.1.length,.ev 0,.ev 1,.e c.1.length,.ev 2,.pf (zo (sz:=1) (e:=Rf) (l:=c.1) (i:=f) (x:=ax) (fun _=>rfl))]<|
 let az:=[o,(eS 1 Rf M),(bx (DV.agg [n,C,v,p,q,y,s,E,z,u]))]
.cst (A:=True) (.pf trivial) P [(1,(vp 0)),(3,(Rb 1 M.length 0 M.length)),(4,(vp 2)),(18,(Rb 1 M.length (0+1) j)),F,m] az az (fun _=>⟨Zb,by rfl⟩)<|
.r (.cont (M,(⟨c.2.U,c.2.B,c.2.D,c.2.Ab,c.2.Of,c.2.V,c.2.Ah,0,c.2.A,c.2.Ae⟩:TOp))))) (
.split (d==([71,82,65,78,84,69,68])) (
.call (@F_q7j_ok d h) fun cw cc=>
.k 13 1 cc [0] 3 true<|
 let Z:=(decide (h.A<0))
.calld [Z=false] dF (@F_q1z_ok d) fun cd ba =>
.reg 14 [] [(5,hc ba [] true)] [.clg 0 [Z=false] ba [] 3 true]<|
.ite (cO Z (decide (h.A>cd))) (
.r (.ret ([]))) (
.call (@F_q7j_ok d c.2) fun cx bb=>
.call (@F_q7s_ok h.A) fun bc bd=>
.guard [(0:Int)<=g,g.toNat<c.1.length,f<c.1.length]<|
 let N:=(c.1.set f bc)
.reg 16 [] [(4,hc bb [2] true),(6,hc bd [] true),(8,{ obs:=[(1,(eS 1 Rf N))] })] [.cl 4 bb [2] 3 true,.cl 3 bd [] 3 true,.e c.1.length,.ev 0,.ev 1,.e c.1.length,.ev 2,.pf (zo (sz:=1) (e:=Rf) (l:=c.1) (i:=f) (x:=bc) (fun _=>rfl))]<|
 let ce:=[o,(eS 1 Rf N),(bx (DV.agg [n,C,v,p,q,y,s,t,E,u]))]
.cst (A:=True) (.pf trivial) P [(1,(vp 0)),(3,(Rb 1 N.length 0 N.length)),(4,(vp 2)),(18,(Rb 1 N.length (0+1) j)),F,m] ce ce (fun _=>⟨Zb,by rfl⟩)<|
.r (.cont (N,(⟨c.2.U,c.2.B,c.2.D,c.2.Ab,c.2.Of,c.2.V,c.2.Ah,c.2.Aj,0,c.2.Ae⟩:TOp))))) (
.call (@F_q7k_ok d h) fun cy cf=>
.k 13 1 cf [0] 3 true<|
 let aa:=(decide (h.Ae<0))
.calld [aa=false] dF (@F_q1z_ok d) fun cg be =>
.reg 14 [] [(5,hc be [] true)] [.clg 0 [aa=false] be [] 3 true]<|
.ite (cO aa (decide (h.Ae>cg))) (
.r (.ret ([]))) (
.call (@F_q7k_ok d c.2) fun cz bf=>
.call (@F_q7s_ok h.Ae) fun bg bh=>
.guard [(0:Int)<=g,g.toNat<c.1.length,f<c.1.length]<|
 let O:=(c.1.set f bg)
.reg 16 [] [(4,hc bf [2] true),(6,hc bh [] true),(8,{ obs:=[(1,(eS 1 Rf O))] })] [.cl 4 bf [2] 3 true,.cl 3 bh [] 3 true,.e c.1.length,.ev 0,.ev 1,.e c.1.length,.ev 2,.pf (zo (sz:=1) (e:=Rf) (l:=c.1) (i:=f) (x:=bg) (fun _=>rfl))]<|
 let bi:=[o,(eS 1 Rf O),(bx (DV.agg [n,C,v,p,q,y,s,t,z,E]))]
.cst (A:=True) (.pf trivial) P [(1,(vp 0)),(3,(Rb 1 O.length 0 O.length)),(4,(vp 2)),(18,(Rb 1 O.length (0+1) j)),F,m] bi bi (fun _=>⟨Zb,by rfl⟩)<|
.r (.cont (O,(⟨c.2.U,c.2.B,c.2.D,c.2.Ab,c.2.Of,c.2.V,c.2.Ah,c.2.Aj,c.2.A,0⟩:TOp))))))))))))
def S_qg (f:TOp):SC R_qg R_qg :=
.call (@F_q4p_ok f.U) fun h g=>
.call (@F_q7y_ok h) fun d i=>
.reg 1 [] [(2,hc g [] true),(3,hc i [] false)] [.cl 1 g [] 1 true,.cl 0 i [] 1 false]<|
.ite ((d.length:Int)==0) (
.r ([])) (
.guard [1<=d.length]<|
.reg 6 [] [] [.pf (p:=(0:Int)<=1) dk,.ev 0,.e d.length]<|
.guard [(d.length-1)<2 ^ 63]<|
.range (((d.length-1):Nat):Int) (d.length-1) rfl (.why (.ev 0)) 20 [1,4,19] (fun (c:(List Y8)×TOp)=>[(3,(Rb 1 c.1.length 0 c.1.length)),(18,(Rb 1 c.1.length (0+1) (d.length-1)))]) (fun c=>[(1,(eS 1 Rf c.1)),(2,(TOp.b c.2))]) (d,(⟨0,f.B,f.D,f.Ab,f.Of,f.V,f.Ah,f.Aj,f.A,f.Ae⟩:TOp)) (S_qg_b1 f d) (fun c => 
.ite (!((c.2.U==0)&&((c.2.B==([]))&&((c.2.D==0)&&((c.2.Ab==0)&&((c.2.Of==0)&&((c.2.V==0)&&((c.2.Ah==0)&&((c.2.Aj==0)&&((c.2.A==0)&&((c.2.Ae==0)&&true))))))))))) (
.r ([])) (
.guard [c.1.length<2 ^ 63]<|
.frz 1 (.ev 0) none [3] []<|
.a 20 1 3 (@F_q7x_ok c.1 ([32])) fun j=>
.r j)) id)
def F_qg (a:TOp):=(S_qg a).den
theorem F_qg_ok {a:TOp}:FO (F_qg a) 216 [(TOp.d a)] [] (fun x=>(AV.d (Rf x))) NL:=fO (s:=S_qg a) Tryz.func216
def S_q45 (c:TOp):SC Bool Bool :=
.a 1 1 1 (@F_qg_ok c) fun b=>
.r (!(b==([])))
def F_q45 (a:TOp):=(S_q45 a).den
theorem F_q45_ok {a:TOp}:FO (F_q45 a) 178 [(TOp.d a)] [] vb NL:=fO (s:=S_q45 a) Tryz.func178
def S_q7l (a:TRi) (b:Y8) (c:Int):SC Bool Bool :=
.r (bif (a.B==b) then (a.D==c) else false)
def F_q7l (a:TRi) (b:Y8) (c:Int):=(S_q7l a b c).den
theorem F_q7l_ok {c:TRi} {a:Y8} {b:Int}:FO (F_q7l c a b) 199 [(TRi.d c),(vp 0),(vp 1)] [(bx (Rf a)),(Rd (vi b))] vb (fun _=>[(bx (Rf a)),(Rd (vi b))]):=fO (s:=S_q7l c a b) Tryz.func199
def S_q3e_b1 (d:(List TRi)) (e:Y8) (f:Int) (a:Nat) (_:Unit):SC Int (Step Unit Int) :=
.call (@F_q7l_ok (d.getD a dF) e f) fun c b=>
.reg 4 [] [(5,hc b [0,1] true)] [.w a,.ev 1,.cl 0 b [0,1] 2 true]<|
.ite c (
.r (.ret (a:Int))) (
.r (.cont ()))
def S_q3e (a:(List TRi)) (b:Y8) (c:Int):SC Int Int :=
.range (a.length:Int) a.length rfl (.slot 0) 8 [0,1,7] (fun (_:Unit)=>[]) (fun _=>[]) () (S_q3e_b1 a b c) (fun _ => 
.r (-1)) id
def F_q3e (a:(List TRi)) (b:Y8) (c:Int):=(S_q3e a b c).den
theorem F_q3e_ok {c:(List TRi)} {a:Y8} {b:Int}:FO (F_q3e c a b) 198 [(AV.d (eL TRi.e c)),(AV.fn 199 [(vp 0),(vp 1)])] [(bx (Rf a)),(Rd (vi b))] vi (fun _=>[(bx (Rf a)),(Rd (vi b))]):=fO (s:=S_q3e c a b) Tryz.func198
def S_q4q (c:TOf) (d:Y8) (e:Int):SC Int Int :=
.call (@F_q3e_ok c.L d e) fun a b=>
.k 1 3 b [1,2] 3 true<|
.r a
def F_q4q (a:TOf) (b:Y8) (c:Int):=(S_q4q a b c).den
theorem F_q4q_ok {a:TOf} {b:Y8} {c:Int}:FO (F_q4q a b c) 153 [(TOf.d a),(AV.d (Rf b)),(vi c)] [] vi NL:=fO (s:=S_q4q a b c) Tryz.func153
def S_q3n (c:TOf) (d:Y8) (e:Int):SC Bool Bool :=
.a 1 3 1 (@F_q4q_ok c d e) fun b=>
.r (decide (b>=0))
def F_q3n (a:TOf) (b:Y8) (c:Int):=(S_q3n a b c).den
theorem F_q3n_ok {a:TOf} {b:Y8} {c:Int}:FO (F_q3n a b c) 191 [(TOf.d a),(AV.d (Rf b)),(vi c)] [] vb NL:=fO (s:=S_q3n a b c) Tryz.func191
def S_q20 (c:TOf) (d:Y8) (e:Int):SC TRi TRi :=
.a 1 3 2 (@F_q4q_ok c d e) fun b=>
.ite (decide (b>=0)) (
.guard [(0:Int)<=b,b.toNat<c.L.length]<|
.reg 3 [] [] [.ev 0,.ev 1]<|
.r (c.L.getD b.toNat dF)) (
.r (⟨d,e,0,0,0⟩:TRi))
def F_q20 (a:TOf) (b:Y8) (c:Int):=(S_q20 a b c).den
theorem F_q20_ok {a:TOf} {b:Y8} {c:Int}:FO (F_q20 a b c) 97 [(TOf.d a),(AV.d (Rf b)),(vi c)] [] (fun x=>(TRi.d x)) NL:=fO (s:=S_q20 a b c) Tryz.func97
def S_q3o (d:TRi):SC Bool Bool :=
.call (@F_q3b_ok d.B d.D) fun a e=>
.calld [a=true] dF (@F_q1w_ok d.A) fun i f =>
 let b:=(bif a then i else false)
.calld [b=true] dF (@F_q1w_ok d.G) fun j g =>
 let c:=(bif b then j else false)
.calld [c=true] dF (@F_qj_ok d.S 0 d.A) fun k h =>
.reg 1 [] [(4,hc e [] true),(8,hc f [] true),(13,hc g [] true),(20,hc h [] true)] [.cl 6 e [] 1 true,.clg 4 [a=true] f [] 1 true,.clg 2 [b=true] g [] 1 true,.clg 0 [c=true] h [] 1 true]<|
.r (bif c then k else false)
def F_q3o (a:TRi):=(S_q3o a).den
theorem F_q3o_ok {a:TRi}:FO (F_q3o a) 211 [(TRi.d a)] [] vb NL:=fO (s:=S_q3o a) Tryz.func211
def S_q5k (b:TRi) (c:TMe):SC (TRi×Int) (TRi×Int) :=
.a 1 1 3 (@F_q3o_ok b) fun g=>
.ite (cO (cO (cO (!g) (c.Aa != 0)) (!(c.B==b.B))) (c.D != b.D)) (
.r ((⟨[],0,0,0,0⟩:TRi),1)) (
.call (@F_q1w_ok c.A) fun d e=>
.calld [(!d)=false] dF (@F_q1w_ok c.G) fun h f =>
.reg 3 [] [(2,hc e [] true),(7,hc f [] true)] [.cl 2 e [] 3 true,.clg 0 [(!d)=false] f [] 3 true]<|
.ite (cO (!d) (!h)) (
.r ((⟨[],0,0,0,0⟩:TRi),2)) (
.reg 5 [11,13] [] []<|
.r ((⟨b.B,b.D,(if c.A>b.A then c.A else b.A),(if c.G>b.G then c.G else b.G),b.S⟩:TRi),0)))
def F_q5k (a:TRi) (b:TMe):=(S_q5k a b).den
theorem F_q5k_ok {a:TRi} {b:TMe}:FO (F_q5k a b) 239 [(TRi.d a),(TMe.d b)] [] (fun x=>(Rg [(TRi.d x.1),(vi x.2)])) NL:=fO (s:=S_q5k a b) Tryz.func239
def S_q5l (a:(List TRi)):SC (List TRi) (List TRi) :=
.reg 0 [] [] []<|
.nils 0 (
.guard [a.length * (2 * 48)<=2 ^ 48]<|
.reg 1 [] [] []<|
.lev 0 (AV.d (eL TRi.e a)) (.pf (lvQ true a.length fun j=>(TRi.e (a.getD j dF))))<|
.br true (.pf (p:=true=true) rfl)<|
.reg 2 [] [] []<|
.bor 5 (fun j=>AV.d (TRi.e (a.getD j dF))) [2]<|
.cst (A:=a.length=0) (.ev 1) [(2,Rb 0 0 0 0)] [(2,(Rb 0 a.length 0 a.length))] [(Ob.seq 5 0 fun j=>AV.d (TRi.e (a.getD j dF)))] [(eS 5 TRi.e a)] (fun h=>⟨by rw[h],by unfold eS; rw[h]⟩)<|
.r a) (
.reg 1 [] [] []<|
.lev 0 (AV.d (eL TRi.e a)) (.pf (lvQ false a.length fun j=>(TRi.e (a.getD j dF))))<|
.br false (.pf (p:=false=false) rfl)<|
.guard [a.length * (2 * 48)<=2 ^ 48]<|
.reg 3 [] [(2,{ h:=.obj })] [.pf (p:=∀ k,k<a.length->(TRi.d (a.getD k dF)).wd=5) (fun _ _=>rfl),.ev 0]<|
.r a)
def F_q5l (a:(List TRi)):=(S_q5l a).den
theorem F_q5l_ok {a:(List TRi)}:FO (F_q5l a) 269 [(AV.d (eL TRi.e a))] [] (fun x=>(Rb 0 x.length 0 x.length)) (fun x=>[(eS 5 TRi.e x)]):=fO (s:=S_q5l a) Tryz.func269
def S_q3p (h:TRi) (j:TRi):SC Int Int :=
.call (@F_q4l_ok h.B j.B) fun e b=>
.call (@F_q43_ok h.D j.D) fun f c=>
 let a:=([e,f]:List Int)
.call (@F_q1n_ok a) fun g d=>
.reg 1 [] [(4,hc b [] true),(9,hc c [] true),(10,hv (vl a)),(11,hc d [] true)] [.cl 2 b [] 2 true,.cl 1 c [] 2 true,.pf (za Ra a),.cl 0 d [] 2 true]<|
.r g
def F_q3p (a:TRi) (b:TRi):=(S_q3p a b).den
theorem F_q3p_ok {a:TRi} {b:TRi}:FO (F_q3p a b) 212 [(TRi.d a),(TRi.d b)] [] vi NL:=fO (s:=S_q3p a b) Tryz.func212
abbrev R_q2o:=Int×Bool
def S_q2o_b1 (g:TRi) (c:(List TRi)) (a:Int×Int):SC R_q2o (Step (Int×Int) R_q2o) :=
.ite (decide (a.1<a.2)) (
.reg 4 [] [] [.pf (p:=(0:Int)<=1) dk]<|
 let b:=(i64.wrap ((IntKind.u64.wrap (i64.wrap (a.1+a.2))).fdiv (2 ^ (min (1:Int).toNat IntKind.u64.bits))))
.call (@F_q3p_ok (c.getD (0+b.toNat) dF) g) fun f d=>
.guard [(0:Int)<=b,b.toNat<c.length,(0+b.toNat)<c.length]<|
.reg 5 [] [(6,hc d [] true)] [.e c.length,.ev 0,.ev 1,.e c.length,.ev 2,.cl 3 d [] 2 true]<|
.ite (decide (f<0)) (
.r (.cont ((i64.wrap (b+1)),a.2))) (
.r (.cont (a.1,b)))) (
.r (.brk (a.1,a.2)))
def S_q2o (f:TRi) (c:(List TRi)):SC R_q2o R_q2o :=
.iter [0,2,4,8] (fun (a:Int×Int)=>[(9,(vi a.1)),(10,(vi a.2))]) (fun _=>[]) (0,(c.length:Int)) (S_q2o_b1 f c) (fun a =>
 let b:=(decide (a.1<(c.length:Int)))
.calld [b=true] dF (@F_q3p_ok (c.getD (0+a.1.toNat) dF) f) fun e d =>
.guard [AllP [b=true]->((0:Int)<=a.1),AllP [b=true]->(a.1.toNat<c.length),AllP [b=true]->((0+a.1.toNat)<c.length)]<|
.reg 8 [] [(11,hc d [] true)] [.pf (p:=AllP [b=true]->(c.length=c.length)) (fun _=>rfl),.ev 0,.ev 1,.pf (p:=AllP [b=true]->(c.length=c.length)) (fun _=>rfl),.ev 2,.clg 3 [b=true] d [] 2 true]<|
.r (a.1,(bif b then (e==0) else false))) id
def F_q2o (a:TRi) (b:(List TRi)):=(S_q2o a b).den
theorem F_q2o_ok {b:TRi} {a:(List TRi)}:FO (F_q2o b a) 270 [(Rb 0 a.length 0 a.length),(TRi.d b),(AV.fn 212 [])] [(eS 5 TRi.e a)] (fun x=>(Rg [(vi x.1),(vb x.2)])) (fun _=>[(eS 5 TRi.e a)]):=fO (s:=S_q2o b a) Tryz.func270
def V_q7v (x:(List TRi)):AV:=.ref 0 x.length 0 x.length
def L_q7v (a:List TRi) (x:(List TRi)):List Ob:=[eS 5 TRi.e x,eS 5 TRi.e a]
def F_q7v (a:Int) (b c:List TRi):Option (List TRi):=match c with
 | [y]=>guardP (0<=a/\a.toNat<=b.length/\(b.length+1) * (4 * 48)<=2 ^ 48) (some (insL b a.toNat y))
 | _=>none
theorem F_q7v_ok {c:Int} {f a:List TRi} (r:(List TRi)) (h:F_q7v c f a=some r):CallOk Tryz.prog 271 [(Rb 0 f.length 0 f.length),(AV.d (.i .i64 c)),(Rb 1 a.length 0 a.length)] [(eS 5 TRi.e f),(eS 5 TRi.e a)] (V_q7v r) (L_q7v a r):=by
 unfold F_q7v at h
 split at h
 ·rename_i y
  obtain⟨⟨h1,h2,h3⟩,h⟩:=z1w h
  obtain rfl:=yz h
  obtain⟨i,rfl⟩:∃ i:Nat,c=(i:Int):=⟨c.toNat,(y5j h1).symm⟩
  exact InsG.ins_ok .b (fun _=>rfl) h2 h3
 ·cases h
theorem z19:OLe (bx (DV.agg [(DV.i .i64 0),Z0,(DV.agg [Z0,Z0,Z0,Z0])])) (TOf.b (⟨0,[],(⟨[],[],[],[]⟩:TBo)⟩:TOf)):=z4x (DLe.agg (DLeL.cons (DLe.refl _) (DLeL.cons DLe.sl0 (DLeL.cons (DLe.agg (DLeL.cons DLe.sl0 (DLeL.cons DLe.sl0 (DLeL.cons DLe.sl0 (DLeL.cons DLe.sl0 DLeL.nil))))) DLeL.nil))))
def S_q4r (g:TOf) (q:TRi):SC TOf TOf :=
 let m:=(TOf.b (⟨0,[],(⟨[],[],[],[]⟩:TBo)⟩:TOf))
.reg 0 [] [(2,{ obs:=[(2,m)] })] [.pf z19]<|
.call (@F_q5l_ok g.L) fun a u=>
.k 1 2 u [] 3 false<|
.call (@F_q2o_ok q a) fun f v=>
.k 2 3 v [3] 4 true<|
.cut none [2,4] (fun (_:Int×TBo×(List TRi))=>[]) (fun c=>[(0,(Rd (Rc [(vi c.1),(Rb 3 c.2.2.length 0 c.2.2.length),(TBo.d c.2.1)]))),(3,(eS 5 TRi.e c.2.2))]) (
.ite f.2 (
 let n:=(0+f.1.toNat)
.guard [(0:Int)<=f.1,f.1.toNat<a.length,n<a.length]<|
 let j:=(a.set n q)
 let o:=(eS 5 TRi.e j)
.reg 4 [] [(5,{ obs:=[(3,o)] })] [.e a.length,.ev 0,.ev 1,.e a.length,.ev 2,.pf (zo (sz:=5) (e:=TRi.e) (l:=a) (i:=n) (x:=q) (fun _=>rfl))]<|
 let s:=[(2,(vp 0)),(4,(vp 2))]
.cst (A:=True) (.pf trivial) s s [(Rd (Rc [(vi g.Q),(Rb 3 a.length 0 a.length),(TBo.d g.Ag)])),(TRi.b q),m,o] [(Rd (Rc [(vi g.Q),(Rb 3 j.length 0 j.length),(TBo.d g.Ag)])),(TRi.b q),m,o] (fun _=>⟨Zd,Zb⟩)<|
.r (.next (g.Q,g.Ag,j))) (
 let p:=([q]:List TRi)
.call (@F_q7v_ok f.1 a p) fun w t=>
.reg 5 [] [(4,{ h:=.obj,obs:=[(4,(eS 5 TRi.e p))] }),(5,hc t [3,4] false)] [.pf (z70 (sz:=5) (e:=TRi.e) (l:=p)),.cl 0 t [3,4] 5 false]<|
.r (.next (g.Q,g.Ag,w)))) fun c=>
.guard [c.2.2.length<2 ^ 63]<|
.reg 6 [] [] []<|
.frz 3 (.ev 0) none [] [0,2]<|
.r (⟨c.1,c.2.2,c.2.1⟩:TOf)
def F_q4r (a:TOf) (b:TRi):=(S_q4r a b).den
theorem F_q4r_ok {a:TOf} {b:TRi}:FO (F_q4r a b) 240 [(TOf.d a),(TRi.d b)] [] (fun x=>(TOf.d x)) NL:=fO (s:=S_q4r a b) Tryz.func240
theorem z1n:LeV (AV.d (DV.agg [(DV.i .i64 0),Z0,(DV.agg [Z0,Z0,Z0,Z0])])) (TOf.d (⟨0,[],(⟨[],[],[],[]⟩:TBo)⟩:TOf)):=z2f rfl (DLe.agg (DLeL.cons (DLe.refl _) (DLeL.cons DLe.sl0 (DLeL.cons (DLe.agg (DLeL.cons DLe.sl0 (DLeL.cons DLe.sl0 (DLeL.cons DLe.sl0 (DLeL.cons DLe.sl0 DLeL.nil))))) DLeL.nil))))
def S_q5m (j:TOf) (e:TOp):SC (TOf×Int) (TOf×Int) :=
 let c:=(⟨0,[],(⟨[],[],[],[]⟩:TBo)⟩:TOf)
.reg 0 [] [(2,{ obs:=[(2,(TOf.b c))] })] [.pf z19]<|
.a 1 2 3 (@F_q7w_ok e.B) fun k=>
 let f:=(0,hv (TOf.d c))
.ite ((k.length:Int)==0) (
.reg 2 [] [f] [.pf z1n]<|
.r (c,5)) (
.ite (cO (decide (e.D<0)) (decide (e.D>99))) (
.reg 4 [] [f] [.pf z1n]<|
.r (c,2)) (
.a 5 5 3 (@F_q3n_ok j e.B e.D) fun l=>
.ite (bif (!l) then ((j.L.length:Int)==60) else false) (
.reg 6 [] [f] [.pf z1n]<|
.r (c,3)) (
.call (@F_q20_ok j e.B e.D) fun m g=>
.call (@F_q5k_ok m (⟨0,0,e.B,e.D,e.A,e.Ae,0,0⟩:TMe)) fun h i=>
.reg 7 [19,20] [(5,hc g [] true),(15,hc i [] true)] [.cl 1 g [] 3 true,.cl 1 g [] 4 true,.cl 0 i [] 3 true,.cl 0 i [] 4 true]<|
.ite (h.2 != 0) (
.reg 9 [] [f] [.pf z1n]<|
.r (c,h.2)) (
.a 10 2 4 (@F_q4r_ok j h.1) fun n=>
.r (n,0)))))
def F_q5m (a:TOf) (b:TOp):=(S_q5m a b).den
theorem F_q5m_ok {a:TOf} {b:TOp}:FO (F_q5m a b) 217 [(TOf.d a),(TOp.d b)] [] (fun x=>(Rg [(TOf.d x.1),(vi x.2)])) NL:=fO (s:=S_q5m a b) Tryz.func217
def S_q2p_b1 (d:TBo) (e:Int) (c:Nat) (a:Int×Int):SC (Int×Int) (Step (Int×Int) (Int×Int)) :=
.reg 3 [] [] [.w c,.ev 0]<|
 let b:=(d.F.getD c dF)
.ite (b.Y==e) (
.r (.cont ((i64.wrap (a.1+b.V)),(i64.wrap (a.2+b.Ad))))) (
.r (.cont (a.1,a.2)))
def S_q2p (b:TBo) (c:Int):SC (Int×Int) (Int×Int) :=
.range (b.F.length:Int) b.F.length rfl (.slot 9) 11 [1,9,10] (fun (a:Int×Int)=>[(4,(vi a.1)),(5,(vi a.2))]) (fun _=>[]) (0,0) (S_q2p_b1 b c) (fun a => 
.r (a.1,a.2)) id
def F_q2p (a:TBo) (b:Int):=(S_q2p a b).den
theorem F_q2p_ok {a:TBo} {b:Int}:FO (F_q2p a b) 209 [(TBo.d a),(vi b)] [] (fun x=>(Rg [(vi x.1),(vi x.2)])) NL:=fO (s:=S_q2p a b) Tryz.func209
def S_q1p_b1 (g:TBo) (h:Y8) (i:Int) (d:Nat) (e:Int):SC Int (Step Int Int) :=
.reg 4 [] [] [.w d,.ev 0]<|
 let b:=(g.C.getD d dF)
.ite (bif (b.B==h) then (b.D==i) else false) (
.a 6 3 2 (@F_q2p_ok g b.Q) fun f=>
.r (.cont (i64.wrap (e+(i64.wrap ((i64.wrap (b.V-b.Ad))-f.2)))))) (
.c e)
def S_q1p (b:TBo) (c:Y8) (d:Int):SC Int Int :=
.range (b.C.length:Int) b.C.length rfl (.slot 13) 15 [1,2,3,13,14] (fun (a:Int)=>[(7,(vi a))]) (fun _=>[]) 0 (S_q1p_b1 b c d) (fun a => 
.r a) id
def F_q1p (a:TBo) (b:Y8) (c:Int):=(S_q1p a b c).den
theorem F_q1p_ok {a:TBo} {b:Y8} {c:Int}:FO (F_q1p a b c) 168 [(TBo.d a),(AV.d (Rf b)),(vi c)] [] vi NL:=fO (s:=S_q1p a b c) Tryz.func168
def S_q5n (b:TRi) (k:Int) (h:Int):SC (TRi×Int) (TRi×Int) :=
.call (@F_q3o_ok b) fun c e=>
 let f:=(i64.wrap (b.A-b.S))
.calld [(!c)=false] dF (@F_qj_ok k 0 f) fun i g =>
.reg 1 [] [(1,hc e [] true),(10,hc g [] true)] [.cl 2 e [] 2 true,.clg 0 [(!c)=false] g [] 2 true]<|
 let d:=(⟨[],0,0,0,0⟩:TRi)
.ite (cO (!c) (!i)) (
.r (d,1)) (
.a 3 1 2 (@F_qj_ok h 1 1000000000000000) fun j=>
.ite (!j) (
.r (d,2)) (
.ite (decide (h>(i64.wrap (f-k)))) (
.r (d,15)) (
.r ((⟨b.B,b.D,b.A,b.G,(i64.wrap (b.S+h))⟩:TRi),0))))
def F_q5n (a:TRi) (b:Int) (c:Int):=(S_q5n a b c).den
theorem F_q5n_ok {a:TRi} {b:Int} {c:Int}:FO (F_q5n a b c) 241 [(TRi.d a),(vi b),(vi c)] [] (fun x=>(Rg [(TRi.d x.1),(vi x.2)])) NL:=fO (s:=S_q5n a b c) Tryz.func241
end
end Go.Proofs.YtkhgaalekilaeaaGreatDoor
/- What the functions compute,and that their calls return it. No condition. -/
namespace Go.Proofs.YtkhgaalekilaeaaGreatDoor
open Go Go.TA
open Go.IntKind (i64)
noncomputable section
set_option maxRecDepth 100000
def S_q5o (k:TOf) (e:TOp):SC (TOf×Int) (TOf×Int) :=
 let c:=(⟨0,[],(⟨[],[],[],[]⟩:TBo)⟩:TOf)
.reg 0 [] [(2,{ obs:=[(2,(TOf.b c))] })] [.pf z19]<|
.a 1 5 3 (@F_q3n_ok k e.B e.D) fun l=>
 let j:=(0,hv (TOf.d c))
.ite (!l) (
.reg 2 [] [j] [.pf z1n]<|
.r (c,6)) (
.call (@F_q20_ok k e.B e.D) fun m f=>
.call (@F_q1p_ok k.Ag e.B e.D) fun n g=>
.call (@F_q5n_ok m n e.V) fun h i=>
.reg 3 [19,20] [(5,hc f [] true),(12,hc g [] true),(15,hc i [] true)] [.cl 2 f [] 3 true,.cl 2 f [] 4 true,.cl 1 g [] 3 true,.cl 1 g [] 4 true,.cl 0 i [] 3 true,.cl 0 i [] 4 true]<|
.ite (h.2 != 0) (
.reg 5 [] [j] [.pf z1n]<|
.r (c,h.2)) (
.a 6 2 4 (@F_q4r_ok k h.1) fun o=>
.r (o,0)))
def F_q5o (a:TOf) (b:TOp):=(S_q5o a b).den
theorem F_q5o_ok {a:TOf} {b:TOp}:FO (F_q5o a b) 218 [(TOf.d a),(TOp.d b)] [] (fun x=>(Rg [(TOf.d x.1),(vi x.2)])) NL:=fO (s:=S_q5o a b) Tryz.func218
def S_qh (a:Int) (b:Int) (c:Int):SC Bool Bool :=
.r (bif (decide (a>=b)) then (decide (a<=c)) else false)
def F_qh (a:Int) (b:Int) (c:Int):=(S_qh a b c).den
theorem F_qh_ok {a:Int} {b:Int} {c:Int}:FO (F_qh a b c) 254 [(vi a),(vi b),(vi c)] [] vb NL:=fO (s:=S_qh a b c) Tryz.func254
def S_q1e (c:Int):SC Bool Bool :=
.a 1 1 0 (@F_qh_ok c 0 35990) fun b=>
.r b
def F_q1e (a:Int):=(S_q1e a).den
theorem F_q1e_ok {a:Int}:FO (F_q1e a) 255 [(vi a)] [] vb NL:=fO (s:=S_q1e a) Tryz.func255
def S_q7m (a:Int):SC Bool Bool :=
.r (bif (decide (a>=0)) then (decide (a<=36000)) else false)
def F_q7m (a:Int):=(S_q7m a).den
theorem F_q7m_ok {a:Int}:FO (F_q7m a) 284 [(vi a)] [] vb NL:=fO (s:=S_q7m a) Tryz.func284
def S_q21 (c:Int):SC Int Int :=
.a 1 1 0 (@F_q7m_ok c) fun b=>
.ite (!b) (
.r (-1)) (
.reg 3 [] [] [.pf (p:=(360:Int)≠0) dk]<|
.r (i64.wrap (c.tdiv 360)))
def F_q21 (a:Int):=(S_q21 a).den
theorem F_q21_ok {a:Int}:FO (F_q21 a) 256 [(vi a)] [] vi NL:=fO (s:=S_q21 a) Tryz.func256
def S_q22 (c:Int):SC Bool Bool :=
.a 1 1 0 (@F_qh_ok c 1 1000000000000) fun b=>
.r b
def F_q22 (a:Int):=(S_q22 a).den
theorem F_q22_ok {a:Int}:FO (F_q22 a) 257 [(vi a)] [] vb NL:=fO (s:=S_q22 a) Tryz.func257
def S_q46 (d:TBo) (b:TRe):SC Int Int :=
.a 1 3 2 (@F_q2p_ok d b.Q) fun c=>
.r (i64.wrap ((i64.wrap (b.V-b.Ad))-c.1))
def F_q46 (a:TBo) (b:TRe):=(S_q46 a b).den
theorem F_q46_ok {a:TBo} {b:TRe}:FO (F_q46 a b) 258 [(TBo.d a),(TRe.d b)] [] vi NL:=fO (s:=S_q46 a b) Tryz.func258
def S_q4s (q:TBo) (p:Int):SC Bool Bool :=
.guard [(0:Int)<=p,p.toNat<q.C.length]<|
.reg 1 [] [] [.ev 0,.ev 1]<|
 let a:=(q.C.getD p.toNat dF)
 let b:=(a.Q==(i64.wrap (p+1)))
.calld [b=true] dF (@F_q7w_ok a.B) fun s i =>
 let c:=(bif b then (decide ((s.length:Int)>0)) else false)
.calld [c=true] dF (@F_qh_ok a.D 0 99) fun t j =>
 let d:=(bif c then t else false)
.calld [d=true] dF (@F_q1e_ok a.Ab) fun u k =>
 let e:=(bif d then u else false)
.calld [e=true] dF (@F_q21_ok a.Ab) fun v l =>
 let f:=(bif e then (v==a.D) else false)
.calld [f=true] dF (@F_q22_ok a.V) fun w m =>
 let g:=(bif f then w else false)
.calld [g=true] dF (@F_qh_ok a.Ad 0 a.V) fun x n =>
 let h:=(bif g then x else false)
.calld [h=true] dF (@F_q46_ok q a) fun y o =>
.reg 2 [] [(8,hc i [] true),(15,hc j [] true),(20,hc k [] true),(25,hc l [] true),(33,hc m [] true),(40,hc n [] true),(45,hc o [] true)] [.clg 12 [b=true] i [] 2 true,.clg 10 [c=true] j [] 2 true,.clg 8 [d=true] k [] 2 true,.clg 6 [e=true] l [] 2 true,.clg 4 [f=true] m [] 2 true,.clg 2 [g=true] n [] 2 true,.clg 0 [h=true] o [] 2 true]<|
.r (bif h then (decide (y>=0)) else false)
def F_q4s (a:TBo) (b:Int):=(S_q4s a b).den
theorem F_q4s_ok {a:TBo} {b:Int}:FO (F_q4s a b) 230 [(TBo.d a),(vi b)] [] vb NL:=fO (s:=S_q4s a b) Tryz.func230
def S_q3q_b1 (d:TBo) (b:Nat) (_:Unit):SC Bool (Step Unit Bool) :=
.a 4 3 1 (@F_q4s_ok d (b:Int)) fun c=>
.ite (!c) (
.r (.ret false)) (
.r (.cont ()))
def S_q3q (b:TBo) (a:Int):SC Bool Bool :=
.guard [a.toNat<2 ^ 63]<|
.range a a.toNat rfl (.why (.ev 0)) 9 [1,2,3,8] (fun (_:Unit)=>[]) (fun _=>[]) () (S_q3q_b1 b) (fun _ => 
.r (decide (a<=200))) id
def F_q3q (a:TBo) (b:Int):=(S_q3q a b).den
theorem F_q3q_ok {a:TBo} {b:Int}:FO (F_q3q a b) 229 [(TBo.d a),(vi b),(AV.fn 230 [])] [] vb NL:=fO (s:=S_q3q a b) Tryz.func229
def S_q35_b1 (e:TBo) (f:Int) (a:Nat) (b:Int):SC Int (Step Int Int) :=
.reg 4 [] [] [.w a,.ev 0]<|
 let d:=(e.I.getD a dF)
.ite (d.Ac==f) (
.r (.cont (i64.wrap (b+d.V)))) (
.c b)
def S_q35 (b:TBo) (c:Int):SC Int Int :=
.range (b.I.length:Int) b.I.length rfl (.slot 9) 11 [1,9,10] (fun (a:Int)=>[(5,(vi a))]) (fun _=>[]) 0 (S_q35_b1 b c) (fun a => 
.r a) id
def F_q35 (a:TBo) (b:Int):=(S_q35 a b).den
theorem F_q35_ok {a:TBo} {b:Int}:FO (F_q35 a b) 285 [(TBo.d a),(vi b)] [] vi NL:=fO (s:=S_q35 a b) Tryz.func285
def S_q47 (d:TBo) (b:TCo):SC Int Int :=
.a 1 8 2 (@F_q35_ok d b.Q) fun c=>
.r (i64.wrap ((i64.wrap (b.V-b.Ad))-c))
def F_q47 (a:TBo) (b:TCo):=(S_q47 a b).den
theorem F_q47_ok {a:TBo} {b:TCo}:FO (F_q47 a b) 259 [(TBo.d a),(TCo.d b)] [] vi NL:=fO (s:=S_q47 a b) Tryz.func259
def S_q4t (j:TBo) (u:Int):SC Bool Bool :=
.guard [(0:Int)<=u,u.toNat<j.F.length]<|
.reg 1 [] [] [.ev 0,.ev 1]<|
 let a:=(j.F.getD u.toNat dF)
 let b:=(a.Q != (i64.wrap (u+1)))
.calld [b=false] dF (@F_qh_ok a.Y 1 (j.C.length:Int)) fun v k =>
.reg 2 [] [(11,hc k [] true)] [.clg 0 [b=false] k [] 2 true]<|
.ite (cO b (!v)) (
.r false) (
 let c:=(i64.wrap (a.Y-1))
.guard [(0:Int)<=c,c.toNat<j.C.length]<|
.reg 4 [] [] [.ev 0,.ev 1]<|
.call (@F_q1e_ok a.Ab) fun w l=>
 let m:=(j.C.getD c.toNat dF)
 let d:=(bif w then (decide (a.Ab>=m.Ab)) else false)
.calld [d=true] dF (@F_q21_ok a.Ab) fun x n =>
 let e:=(bif d then (x==m.D) else false)
.calld [e=true] dF (@F_q22_ok a.V) fun y o =>
 let f:=(bif e then y else false)
.calld [f=true] dF (@F_qh_ok a.Ad 0 a.V) fun z p =>
 let g:=(bif f then z else false)
.calld [g=true] dF (@F_qh_ok a.Ah 1 1000000) fun A q =>
 let h:=(bif g then A else false)
.calld [h=true] dF (@F_q1e_ok a.Aj) fun B s =>
 let i:=(bif h then B else false)
.calld [i=true] dF (@F_q47_ok j a) fun E t =>
.reg 5 [] [(2,hc l [] true),(13,hc n [] true),(21,hc o [] true),(28,hc p [] true),(33,hc q [] true),(38,hc s [] true),(43,hc t [] true)] [.cl 12 l [] 3 true,.clg 10 [d=true] n [] 3 true,.clg 8 [e=true] o [] 3 true,.clg 6 [f=true] p [] 3 true,.clg 4 [g=true] q [] 3 true,.clg 2 [h=true] s [] 3 true,.clg 0 [i=true] t [] 3 true]<|
.r (bif i then (decide (E>=0)) else false))
def F_q4t (a:TBo) (b:Int):=(S_q4t a b).den
theorem F_q4t_ok {a:TBo} {b:Int}:FO (F_q4t a b) 231 [(TBo.d a),(vi b)] [] vb NL:=fO (s:=S_q4t a b) Tryz.func231
def S_q3r_b1 (d:TBo) (b:Nat) (_:Unit):SC Bool (Step Unit Bool) :=
.a 4 3 1 (@F_q4t_ok d (b:Int)) fun c=>
.ite (!c) (
.r (.ret false)) (
.r (.cont ()))
def S_q3r (b:TBo) (a:Int):SC Bool Bool :=
.guard [a.toNat<2 ^ 63]<|
.range a a.toNat rfl (.why (.ev 0)) 9 [1,2,3,8] (fun (_:Unit)=>[]) (fun _=>[]) () (S_q3r_b1 b) (fun _ => 
.r (decide (a<=200))) id
def F_q3r (a:TBo) (b:Int):=(S_q3r a b).den
theorem F_q3r_ok {a:TBo} {b:Int}:FO (F_q3r a b) 229 [(TBo.d a),(vi b),(AV.fn 231 [])] [] vb NL:=fO (s:=S_q3r a b) Tryz.func229
def S_q23 (b:TBo) (c:TCo):SC Int Int :=
 let a:=(i64.wrap (c.Y-1))
.guard [(0:Int)<=a,a.toNat<b.C.length]<|
.reg 1 [] [] [.ev 0,.ev 1]<|
.r ((b.C.getD a.toNat dF).D)
def F_q23 (a:TBo) (b:TCo):=(S_q23 a b).den
theorem F_q23_ok {a:TBo} {b:TCo}:FO (F_q23 a b) 260 [(TBo.d a),(TCo.d b)] [] vi NL:=fO (s:=S_q23 a b) Tryz.func260
def S_q4u (f:TBo) (m:Int):SC Bool Bool :=
.guard [(0:Int)<=m,m.toNat<f.I.length]<|
.reg 1 [] [] [.ev 0,.ev 1]<|
 let a:=(f.I.getD m.toNat dF)
 let c:=(a.Q != (i64.wrap (m+1)))
.calld [c=false] dF (@F_qh_ok a.Ac 1 (f.F.length:Int)) fun n g =>
.reg 2 [] [(11,hc g [] true)] [.clg 0 [c=false] g [] 2 true]<|
.ite (cO c (!n)) (
.r false) (
 let d:=(i64.wrap (a.Ac-1))
.guard [(0:Int)<=d,d.toNat<f.F.length]<|
.reg 4 [] [] [.ev 0,.ev 1]<|
.call (@F_q1e_ok a.Ab) fun o h=>
 let i:=(f.F.getD d.toNat dF)
 let b:=(bif o then (decide (a.Ab>=i.Ab)) else false)
.calld [b=true] dF (@F_q21_ok a.Ab) fun p j =>
.calld [b=true] dF (@F_q23_ok f i) fun q k =>
 let e:=(bif b then (decide (p<=(i64.wrap (q+1)))) else false)
.calld [e=true] dF (@F_q22_ok a.V) fun s l =>
.reg 5 [] [(2,hc h [] true),(13,hc j [] true),(16,hc k [] true),(23,hc l [] true)] [.cl 6 h [] 3 true,.clg 4 [b=true] j [] 3 true,.clg 2 [b=true] k [] 3 true,.clg 0 [e=true] l [] 3 true]<|
.r (bif e then s else false))
def F_q4u (a:TBo) (b:Int):=(S_q4u a b).den
theorem F_q4u_ok {a:TBo} {b:Int}:FO (F_q4u a b) 232 [(TBo.d a),(vi b)] [] vb NL:=fO (s:=S_q4u a b) Tryz.func232
def S_q3s_b1 (d:TBo) (b:Nat) (_:Unit):SC Bool (Step Unit Bool) :=
.a 4 3 1 (@F_q4u_ok d (b:Int)) fun c=>
.ite (!c) (
.r (.ret false)) (
.r (.cont ()))
def S_q3s (b:TBo) (a:Int):SC Bool Bool :=
.guard [a.toNat<2 ^ 63]<|
.range a a.toNat rfl (.why (.ev 0)) 9 [1,2,3,8] (fun (_:Unit)=>[]) (fun _=>[]) () (S_q3s_b1 b) (fun _ => 
.r (decide (a<=200))) id
def F_q3s (a:TBo) (b:Int):=(S_q3s a b).den
theorem F_q3s_ok {a:TBo} {b:Int}:FO (F_q3s a b) 229 [(TBo.d a),(vi b),(AV.fn 232 [])] [] vb NL:=fO (s:=S_q3s a b) Tryz.func229
def S_q4v (a:(List TOr)):SC (List TOr) (List TOr) :=
.reg 0 [] [] []<|
.nils 0 (
.guard [a.length * (2 * 40)<=2 ^ 48]<|
.reg 1 [] [] []<|
.lev 0 (AV.d (eL TOr.e a)) (.pf (lvQ true a.length fun j=>(TOr.e (a.getD j dF))))<|
.br true (.pf (p:=true=true) rfl)<|
.reg 2 [] [] []<|
.bor 5 (fun j=>AV.d (TOr.e (a.getD j dF))) [2]<|
.cst (A:=a.length=0) (.ev 1) [(2,Rb 0 0 0 0)] [(2,(Rb 0 a.length 0 a.length))] [(Ob.seq 5 0 fun j=>AV.d (TOr.e (a.getD j dF)))] [(eS 5 TOr.e a)] (fun h=>⟨by rw[h],by unfold eS; rw[h]⟩)<|
.r a) (
.reg 1 [] [] []<|
.lev 0 (AV.d (eL TOr.e a)) (.pf (lvQ false a.length fun j=>(TOr.e (a.getD j dF))))<|
.br false (.pf (p:=false=false) rfl)<|
.guard [a.length * (2 * 40)<=2 ^ 48]<|
.reg 3 [] [(2,{ h:=.obj })] [.pf (p:=∀ k,k<a.length->(TOr.d (a.getD k dF)).wd=5) (fun _ _=>rfl),.ev 0]<|
.r a)
def F_q4v (a:(List TOr)):=(S_q4v a).den
theorem F_q4v_ok {a:(List TOr)}:FO (F_q4v a) 287 [(AV.d (eL TOr.e a))] [] (fun x=>(Rb 0 x.length 0 x.length)) (fun x=>[(eS 5 TOr.e x)]):=fO (s:=S_q4v a) Tryz.func287
def S_q48 (a:TOr) (b:Int):SC Bool Bool :=
.r (a.X != b)
def F_q48 (a:TOr) (b:Int):=(S_q48 a b).den
theorem F_q48_ok {b:TOr} {a:Int}:FO (F_q48 b a) 288 [(TOr.d b),(vp 0)] [(Rd (vi a))] vb (fun _=>[(Rd (vi a))]):=fO (s:=S_q48 b a) Tryz.func288
def S_q24_b1 (c:(List TOr)) (f:Int) (a:Nat) (_:Unit):SC Int (Step Unit Int) :=
.call (@F_q48_ok (c.getD (0+a) dF) f) fun d b=>
.guard [(0+a)<c.length]<|
.reg 4 [] [(5,hc b [1] true)] [.e c.length,.w a,.ev 2,.e c.length,.ev 0,.cl 1 b [1] 2 true]<|
.ite d (
.r (.ret (a:Int))) (
.r (.cont ()))
def S_q24 (a:(List TOr)) (b:Int):SC Int Int :=
.guard [a.length<2 ^ 63]<|
.range (a.length:Int) a.length rfl (.why (.ev 0)) 8 [0,1,7] (fun (_:Unit)=>[]) (fun _=>[]) () (S_q24_b1 a b) (fun _ => 
.r (-1)) id
def F_q24 (a:(List TOr)) (b:Int):=(S_q24 a b).den
theorem F_q24_ok {a:(List TOr)} {b:Int}:FO (F_q24 a b) 289 [(Rb 0 a.length 0 a.length),(AV.fn 288 [(vp 1)])] [(eS 5 TOr.e a),(Rd (vi b))] vi (fun _=>[(eS 5 TOr.e a),(Rd (vi b))]):=fO (s:=S_q24 a b) Tryz.func289
abbrev R_q25:=(List TOr)
def S_q25_b1 (n:Int) (a:(List TOr)×Int×Int):SC R_q25 (Step ((List TOr)×Int×Int) R_q25) :=
.ite (decide (a.2.2<(a.1.length:Int))) (
.guard [(0:Int)<=a.2.2,a.2.2.toNat<a.1.length,(0+a.2.2.toNat)<a.1.length]<|
.reg 7 [] [] [.e a.1.length,.ev 0,.ev 1,.e a.1.length,.ev 2]<|
 let d:=(a.1.getD (0+a.2.2.toNat) dF)
.call (@F_q48_ok d n) fun j m=>
.k 8 2 m [1] 3 true<|
 let g:=(i64.wrap (a.2.2+1))
.ite (!j) (
 let f:=(0+a.2.1.toNat)
.guard [(0:Int)<=a.2.1,a.2.1.toNat<a.1.length,f<a.1.length]<|
 let c:=(a.1.set f d)
.reg 9 [] [(4,{ obs:=[(0,(eS 5 TOr.e c))] })] [.e a.1.length,.ev 0,.ev 1,.e a.1.length,.ev 2,.pf (zo (sz:=5) (e:=TOr.e) (l:=a.1) (i:=f) (x:=d) (fun _=>rfl))]<|
 let h:=[(eS 5 TOr.e c),(Rd (vi n)),(TOr.b d)]
.cst (A:=True) (.pf trivial) [(0,(Rb 0 a.1.length 0 a.1.length)),(1,(AV.fn 288 [(vp 1)])),(5,(vi a.2.1)),(6,(vi a.2.2))] [(0,(Rb 0 c.length 0 c.length)),(1,(AV.fn 288 [(vp 1)])),(5,(vi a.2.1)),(6,(vi a.2.2))] h h (fun _=>⟨Zb,by rfl⟩)<|
.r (.cont (c,(i64.wrap (a.2.1+1)),g))) (
.r (.cont (a.1,a.2.1,g)))) (
.r (.brk (a.1,a.2.1,a.2.2)))
def S_q25 (o:(List TOr)) (p:Int):SC R_q25 R_q25 :=
.call (@F_q24_ok o p) fun g q=>
.k 1 2 q [0,1] 2 true<|
.ite (g==(-1)) (
.guard [o.length<2 ^ 63]<|
.reg 3 [] [] []<|
.frz 0 (.ev 0) none [4] []<|
.r o) (
.iter [1] (fun (a:(List TOr)×Int×Int)=>[(0,(Rb 0 a.1.length 0 a.1.length)),(5,(vi a.2.1)),(6,(vi a.2.2))]) (fun a=>[(0,(eS 5 TOr.e a.1))]) (o,g,(i64.wrap (g+1))) (S_q25_b1 p) (fun a =>
.guard [(0:Int)<=a.2.1,a.2.1.toNat<=a.1.length]<|
 let b:=(a.1.length-a.2.1.toNat)
 let c:=(⟨0,0,0,0,false⟩:TOr)
 let f:=(0+a.2.1.toNat)
 let i:=(eS 5 TOr.e (clearL a.1 f b c))
.reg 11 [] [(3,{ obs:=[(0,i)] })] [.ev 0,.ev 1,.e a.1.length,.e a.1.length,.pf (zgn (sz:=5) (e:=TOr.e) (l:=a.1) (off:=f) (n:=b) (z:=c))]<|
 let j:=((clearL a.1 f b c).length)
.cst (A:=True) (.pf trivial) [(0,(Rb 0 a.1.length 0 a.1.length)),(5,(vi a.2.1))] [(0,(Rb 0 j 0 j)),(5,(vi a.2.1))] [i,(Rd (vi p))] [i,(Rd (vi p))] (fun _=>⟨by simp +zetaDelta only[z1r],by rfl⟩)<|
.guard [a.2.1.toNat<=(clearL a.1 f b c).length]<|
.reg 12 [] [] [.ev 1,.ev 0,.e j]<|
.guard [(clearL a.1 f b c).length<2 ^ 63]<|
.frz 0 (.ev 0) (some (.der (fun (h:a.2.1.toNat<=(clearL a.1 f b c).length)=>(y2a (Nat.sub_le _ _) h:(a.2.1.toNat-0)<=(clearL a.1 f b c).length)) 1)) [4] []<|
 let m:=((clearL a.1 f b c).take a.2.1.toNat)
.lev 4 (AV.d (eL TOr.e m)) (.der (fun (h:a.2.1.toNat<=(clearL a.1 f b c).length)=>lvT TOr.e (clearL a.1 f b c) h) 1)<|
.r m) id)
def F_q25 (a:(List TOr)) (b:Int):=(S_q25 a b).den
theorem F_q25_ok {a:(List TOr)} {b:Int}:FO (F_q25 a b) 286 [(Rb 0 a.length 0 a.length),(AV.fn 288 [(vp 1)])] [(eS 5 TOr.e a),(Rd (vi b))] (fun x=>(AV.d (eL TOr.e x))) (fun _=>[Re,(Rd (vi b))]):=fO (s:=S_q25 a b) Tryz.func286
def S_q4w (e:TBo) (f:Int):SC (List TOr) (List TOr) :=
.call (@F_q4v_ok e.W) fun c a=>
.call (@F_q25_ok c f) fun d b=>
.reg 1 [] [(2,hc a [] false),(4,hc b [2,1] false)] [.cl 1 a [] 2 false,.cl 0 b [2,1] 3 false]<|
.r d
def F_q4w (a:TBo) (b:Int):=(S_q4w a b).den
theorem F_q4w_ok {a:TBo} {b:Int}:FO (F_q4w a b) 261 [(TBo.d a),(vi b)] [] (fun x=>(AV.d (eL TOr.e x))) NL:=fO (s:=S_q4w a b) Tryz.func261
def S_q7n (a:TOr) (b:TOr):SC Bool Bool :=
.r (cO (!a.Al) (decide (a.Ab>b.Ab)))
def F_q7n (a:TOr) (b:TOr):=(S_q7n a b).den
theorem F_q7n_ok {c:TOr} {a:TOr}:FO (F_q7n c a) 262 [(TOr.d c),(vp 0)] [(TOr.b a)] vb (fun _=>[(TOr.b a)]):=fO (s:=S_q7n c a) Tryz.func262
def S_q36_b1 (d:(List TOr)) (e:TOr) (a:Nat) (_:Unit):SC Int (Step Unit Int) :=
.call (@F_q7n_ok (d.getD a dF) e) fun c b=>
.reg 4 [] [(5,hc b [0] true)] [.w a,.ev 1,.cl 0 b [0] 1 true]<|
.ite c (
.r (.ret (a:Int))) (
.r (.cont ()))
def S_q36 (a:(List TOr)) (b:TOr):SC Int Int :=
.range (a.length:Int) a.length rfl (.slot 0) 8 [0,1,7] (fun (_:Unit)=>[]) (fun _=>[]) () (S_q36_b1 a b) (fun _ => 
.r (-1)) id
def F_q36 (a:(List TOr)) (b:TOr):=(S_q36 a b).den
theorem F_q36_ok {c:(List TOr)} {a:TOr}:FO (F_q36 c a) 289 [(AV.d (eL TOr.e c)),(AV.fn 262 [(vp 0)])] [(TOr.b a)] vi (fun _=>[(TOr.b a)]):=fO (s:=S_q36 c a) Tryz.func289
def S_q5p (c:(List TOr)) (d:TOr):SC Bool Bool :=
.call (@F_q36_ok c d) fun a b=>
.k 1 2 b [0] 1 true<|
.r (decide (a>=0))
def F_q5p (a:(List TOr)) (b:TOr):=(S_q5p a b).den
theorem F_q5p_ok {c:(List TOr)} {a:TOr}:FO (F_q5p c a) 263 [(AV.d (eL TOr.e c)),(AV.fn 262 [(vp 0)])] [(TOr.b a)] vb (fun _=>[(TOr.b a)]):=fO (s:=S_q5p c a) Tryz.func263
def S_q4x (c:TBo) (f:Int):SC Bool Bool :=
.guard [(0:Int)<=f,f.toNat<c.W.length]<|
.reg 1 [] [] [.ev 0,.ev 1]<|
 let a:=(c.W.getD f.toNat dF)
 let g:=(a.Q != (i64.wrap (f+1)))
.calld [g=false] dF (@F_qh_ok a.X 1 (c.I.length:Int)) fun w m =>
.reg 2 [] [(11,hc m [] true)] [.clg 0 [g=false] m [] 2 true]<|
.ite (cO g (!w)) (
.r false) (
 let h:=(i64.wrap (a.X-1))
.guard [(0:Int)<=h,h.toNat<c.I.length]<|
.reg 4 [] [] [.ev 0,.ev 1]<|
 let i:=(c.W.take f.toNat)
 let j:=(⟨[],[],[],i⟩:TBo)
.call (@F_q4w_ok j a.X) fun n o=>
.guard [f.toNat<=c.W.length]<|
.reg 5 [] [(3,hv (AV.d (eL TOr.e i))),(4,hv (TBo.d j)),(7,hc o [] true)] [.ev 7,.ev 0,.der (fun (h0:f.toNat<=c.W.length)=>lvT TOr.e c.W h0) 0,.pf (p:=LeV (AV.d (DV.agg [Z0,Z0,Z0,(eL TOr.e i)])) (TBo.d j)) (z2f rfl (DLe.agg (Rh DLe.sl0 (Rh DLe.sl0 (Rh DLe.sl0 (Rh (DLe.refl _) DLeL.nil)))))),.cl 1 o [] 3 true]<|
.call (@F_q1e_ok a.Ab) fun x q=>
 let s:=(c.I.getD h.toNat dF)
 let b:=(bif x then (decide (a.Ab>=s.Ab)) else false)
.calld [b=true] dF (@F_q21_ok a.Ab) fun y t =>
 let k:=(i64.wrap (s.Ac-1))
.calld [b=true] dF (@F_q23_ok c (c.F.getD k.toNat dF)) fun z u =>
 let l:=(bif (bif b then (decide (y<=(i64.wrap (z+1)))) else false) then (a.Ak==(i64.wrap ((n.length:Int)+1))) else false)
.calld [l=true] dF (@F_q5p_ok n a) fun A v =>
.guard [AllP [b=true]->((0:Int)<=k),AllP [b=true]->(k.toNat<c.F.length)]<|
.reg 7 [] [(2,hc q [] true),(13,hc t [] true),(22,hc u [] true),(37,hc v [1] true)] [.cl 8 q [] 3 true,.clg 6 [b=true] t [] 3 true,.ev 0,.ev 1,.clg 4 [b=true] u [] 3 true,.clg 2 [l=true] v [1] 3 true]<|
.r (bif l then (!A) else false))
def F_q4x (a:TBo) (b:Int):=(S_q4x a b).den
theorem F_q4x_ok {a:TBo} {b:Int}:FO (F_q4x a b) 233 [(TBo.d a),(vi b)] [] vb NL:=fO (s:=S_q4x a b) Tryz.func233
end
end Go.Proofs.YtkhgaalekilaeaaGreatDoor
/- What the functions compute,and that their calls return it. No condition. -/
namespace Go.Proofs.YtkhgaalekilaeaaGreatDoor
open Go Go.TA
open Go.IntKind (i64)
noncomputable section
set_option maxRecDepth 100000
def S_q3t_b1 (d:TBo) (b:Nat) (_:Unit):SC Bool (Step Unit Bool) :=
.a 4 3 1 (@F_q4x_ok d (b:Int)) fun c=>
.ite (!c) (
.r (.ret false)) (
.r (.cont ()))
def S_q3t (b:TBo) (a:Int):SC Bool Bool :=
.guard [a.toNat<2 ^ 63]<|
.range a a.toNat rfl (.why (.ev 0)) 9 [1,2,3,8] (fun (_:Unit)=>[]) (fun _=>[]) () (S_q3t_b1 b) (fun _ => 
.r (decide (a<=200))) id
def F_q3t (a:TBo) (b:Int):=(S_q3t a b).den
theorem F_q3t_ok {a:TBo} {b:Int}:FO (F_q3t a b) 229 [(TBo.d a),(vi b),(AV.fn 233 [])] [] vb NL:=fO (s:=S_q3t a b) Tryz.func229
def S_q26 (a:TBo):SC Bool Bool :=
.call (@F_q3q_ok a (a.C.length:Int)) fun b e=>
.calld [b=true] dF (@F_q3r_ok a (a.F.length:Int)) fun i f =>
 let c:=(bif b then i else false)
.calld [c=true] dF (@F_q3s_ok a (a.I.length:Int)) fun j g =>
 let d:=(bif c then j else false)
.calld [d=true] dF (@F_q3t_ok a (a.W.length:Int)) fun k h =>
.reg 1 [] [(4,hc e [] true),(10,hc f [] true),(17,hc g [] true),(24,hc h [] true)] [.cl 6 e [] 1 true,.clg 4 [b=true] f [] 1 true,.clg 2 [c=true] g [] 1 true,.clg 0 [d=true] h [] 1 true]<|
.r (bif d then k else false)
def F_q26 (a:TBo):=(S_q26 a).den
theorem F_q26_ok {a:TBo}:FO (F_q26 a) 210 [(TBo.d a)] [] vb NL:=fO (s:=S_q26 a) Tryz.func210
def S_q5q (a:(List TRe)):SC (List TRe) (List TRe) :=
.reg 0 [] [] []<|
.nils 0 (
.guard [a.length * (2 * 56)<=2 ^ 48]<|
.reg 1 [] [] []<|
.lev 0 (AV.d (eL TRe.e a)) (.pf (lvQ true a.length fun j=>(TRe.e (a.getD j dF))))<|
.br true (.pf (p:=true=true) rfl)<|
.reg 2 [] [] []<|
.bor 6 (fun j=>AV.d (TRe.e (a.getD j dF))) [2]<|
.cst (A:=a.length=0) (.ev 1) [(2,Rb 0 0 0 0)] [(2,(Rb 0 a.length 0 a.length))] [(Ob.seq 6 0 fun j=>AV.d (TRe.e (a.getD j dF)))] [(eS 6 TRe.e a)] (fun h=>⟨by rw[h],by unfold eS; rw[h]⟩)<|
.r a) (
.reg 1 [] [] []<|
.lev 0 (AV.d (eL TRe.e a)) (.pf (lvQ false a.length fun j=>(TRe.e (a.getD j dF))))<|
.br false (.pf (p:=false=false) rfl)<|
.guard [a.length * (2 * 56)<=2 ^ 48]<|
.reg 3 [] [(2,{ h:=.obj })] [.pf (p:=∀ k,k<a.length->(TRe.d (a.getD k dF)).wd=6) (fun _ _=>rfl),.ev 0]<|
.r a)
def F_q5q (a:(List TRe)):=(S_q5q a).den
theorem F_q5q_ok {a:(List TRe)}:FO (F_q5q a) 295 [(AV.d (eL TRe.e a))] [] (fun x=>(Rb 0 x.length 0 x.length)) (fun x=>[(eS 6 TRe.e x)]):=fO (s:=S_q5q a) Tryz.func295
def S_q5r (a:(List TCo)):SC (List TCo) (List TCo) :=
.reg 0 [] [] []<|
.nils 0 (
.guard [a.length * (2 * 56)<=2 ^ 48]<|
.reg 1 [] [] []<|
.lev 0 (AV.d (eL TCo.e a)) (.pf (lvQ true a.length fun j=>(TCo.e (a.getD j dF))))<|
.br true (.pf (p:=true=true) rfl)<|
.reg 2 [] [] []<|
.bor 7 (fun j=>AV.d (TCo.e (a.getD j dF))) [2]<|
.cst (A:=a.length=0) (.ev 1) [(2,Rb 0 0 0 0)] [(2,(Rb 0 a.length 0 a.length))] [(Ob.seq 7 0 fun j=>AV.d (TCo.e (a.getD j dF)))] [(eS 7 TCo.e a)] (fun h=>⟨by rw[h],by unfold eS; rw[h]⟩)<|
.r a) (
.reg 1 [] [] []<|
.lev 0 (AV.d (eL TCo.e a)) (.pf (lvQ false a.length fun j=>(TCo.e (a.getD j dF))))<|
.br false (.pf (p:=false=false) rfl)<|
.guard [a.length * (2 * 56)<=2 ^ 48]<|
.reg 3 [] [(2,{ h:=.obj })] [.pf (p:=∀ k,k<a.length->(TCo.d (a.getD k dF)).wd=7) (fun _ _=>rfl),.ev 0]<|
.r a)
def F_q5r (a:(List TCo)):=(S_q5r a).den
theorem F_q5r_ok {a:(List TCo)}:FO (F_q5r a) 296 [(AV.d (eL TCo.e a))] [] (fun x=>(Rb 0 x.length 0 x.length)) (fun x=>[(eS 7 TCo.e x)]):=fO (s:=S_q5r a) Tryz.func296
def S_q5s (a:(List TVe)):SC (List TVe) (List TVe) :=
.reg 0 [] [] []<|
.nils 0 (
.guard [a.length * (2 * 32)<=2 ^ 48]<|
.reg 1 [] [] []<|
.lev 0 (AV.d (eL TVe.e a)) (.pf (lvQ true a.length fun j=>(TVe.e (a.getD j dF))))<|
.br true (.pf (p:=true=true) rfl)<|
.reg 2 [] [] []<|
.bor 4 (fun j=>AV.d (TVe.e (a.getD j dF))) [2]<|
.cst (A:=a.length=0) (.ev 1) [(2,Rb 0 0 0 0)] [(2,(Rb 0 a.length 0 a.length))] [(Ob.seq 4 0 fun j=>AV.d (TVe.e (a.getD j dF)))] [(eS 4 TVe.e a)] (fun h=>⟨by rw[h],by unfold eS; rw[h]⟩)<|
.r a) (
.reg 1 [] [] []<|
.lev 0 (AV.d (eL TVe.e a)) (.pf (lvQ false a.length fun j=>(TVe.e (a.getD j dF))))<|
.br false (.pf (p:=false=false) rfl)<|
.guard [a.length * (2 * 32)<=2 ^ 48]<|
.reg 3 [] [(2,{ h:=.obj })] [.pf (p:=∀ k,k<a.length->(TVe.d (a.getD k dF)).wd=4) (fun _ _=>rfl),.ev 0]<|
.r a)
def F_q5s (a:(List TVe)):=(S_q5s a).den
theorem F_q5s_ok {a:(List TVe)}:FO (F_q5s a) 297 [(AV.d (eL TVe.e a))] [] (fun x=>(Rb 0 x.length 0 x.length)) (fun x=>[(eS 4 TVe.e x)]):=fO (s:=S_q5s a) Tryz.func297
theorem z2t:OLe (bx (DV.agg [Z0,Z0,Z0,Z0])) (TBo.b (⟨[],[],[],[]⟩:TBo)):=z4x (DLe.agg (DLeL.cons DLe.sl0 (DLeL.cons DLe.sl0 (DLeL.cons DLe.sl0 (DLeL.cons DLe.sl0 DLeL.nil)))))
abbrev R_q27:=(List TRe)×(List TCo)×(List TVe)×(List TOr)
def S_q27 (f:TBo):SC R_q27 R_q27 :=
.reg 0 [] [(1,{ obs:=[(1,(TBo.b (⟨[],[],[],[]⟩:TBo)))] })] [.pf z2t]<|
.call (@F_q5q_ok f.C) fun g a=>
.call (@F_q5r_ok f.F) fun h c=>
.call (@F_q5s_ok f.I) fun i d=>
.call (@F_q4v_ok f.W) fun j e=>
.reg 1 [2,5,8,11,13] [(2,hc a [] false),(5,hc c [] false),(8,hc d [] false),(11,hc e [] false)] [.cl 3 a [] 2 false,.cl 2 c [] 3 false,.cl 1 d [] 4 false,.cl 0 e [] 5 false]<|
.kill 0<|
.r (g,h,i,j)
def F_q27 (a:TBo):=(S_q27 a).den
theorem F_q27_ok {a:TBo}:FO (F_q27 a) 272 [(TBo.d a)] [] (fun x=>(Rc [(Rb 2 x.1.length 0 x.1.length),(Rb 3 x.2.1.length 0 x.2.1.length),(Rb 4 x.2.2.1.length 0 x.2.2.1.length),(Rb 5 x.2.2.2.length 0 x.2.2.2.length)])) (fun x=>[Re,(Rd (Rc [(Rb 2 x.1.length 0 x.1.length),(Rb 3 x.2.1.length 0 x.2.1.length),(Rb 4 x.2.2.1.length 0 x.2.2.1.length),(Rb 5 x.2.2.2.length 0 x.2.2.2.length)])),(eS 6 TRe.e x.1),(eS 7 TCo.e x.2.1),(eS 4 TVe.e x.2.2.1),(eS 5 TOr.e x.2.2.2)]):=fO (s:=S_q27 a) Tryz.func272
theorem zp:LeV (AV.d (DV.agg [Z0,Z0,Z0,Z0])) (TBo.d (⟨[],[],[],[]⟩:TBo)):=z2f rfl (DLe.agg (DLeL.cons DLe.sl0 (DLeL.cons DLe.sl0 (DLeL.cons DLe.sl0 (DLeL.cons DLe.sl0 DLeL.nil)))))
def S_q5t (s:TBo) (D:Y8) (t:Int) (u:Int) (E:Int):SC (TBo×Int) (TBo×Int) :=
 let g:=(⟨[],[],[],[]⟩:TBo)
.reg 0 [] [(1,{ obs:=[(1,(TBo.b g))] })] [.pf z2t]<|
.a 1 1 2 (@F_q26_ok s) fun v=>
 let h:=(0,hv (TBo.d g))
.ite (!v) (
.reg 2 [] [h] [.pf zp]<|
.r (g,1)) (
.a 3 1 2 (@F_q7w_ok D) fun w=>
.ite ((w.length:Int)==0) (
.reg 4 [] [h] [.pf zp]<|
.r (g,5)) (
.call (@F_qh_ok t 0 99) fun i m=>
.calld [(!i)=false] dF (@F_q1e_ok u) fun y n =>
 let j:=(cO (!i) (!y))
.calld [j=false] dF (@F_q22_ok E) fun z q =>
.reg 5 [] [(1,hc m [] true),(5,hc n [] true),(10,hc q [] true)] [.cl 4 m [] 2 true,.clg 2 [(!i)=false] n [] 2 true,.clg 0 [j=false] q [] 2 true]<|
.ite (cO j (!z)) (
.reg 6 [] [h] [.pf zp]<|
.r (g,2)) (
.a 7 1 2 (@F_q21_ok u) fun A=>
.ite (A != t) (
.reg 8 [] [h] [.pf zp]<|
.r (g,16)) (
.ite ((s.C.length:Int)==200) (
.reg 10 [] [h] [.pf zp]<|
.r (g,3)) (
.call (@F_q27_ok s) fun c B=>
.k 11 1 B [] 2 false<|
.kill 3<|
.guard [c.2.1.length<2 ^ 63]<|
.frz 5 (.ev 0) none [] [0]<|
.guard [c.2.2.1.length<2 ^ 63]<|
.frz 6 (.ev 0) none [] [0]<|
.guard [c.2.2.2.length<2 ^ 63]<|
.frz 7 (.ev 0) none [] [0]<|
.guard [(c.1.length+1) * (2 * 56)<=2 ^ 48]<|
 let f:=([(⟨(i64.wrap ((c.1.length:Int)+1)),D,t,u,E,0⟩:TRe)]:List TRe)
.reg 12 [] [(11,hv (AV.d (eL TRe.e f))),(12,{ cast:=some (Rb 4 ((c.1++f).length) 0 ((c.1++f).length)),obs:=[(4,(eS 6 TRe.e (c.1++f)))] })] [.pf (za TRe.e f),.e c.1.length,.e c.1.length,.pf (p:=∀ k,k<1->(TRe.d (f.getD k dF)).wd=6) (fun _ _=>rfl),.ev 0,.pf (zy (o:=4) (l:=c.1) (x:=f)),.pf (z12 (sz:=6) (e:=TRe.e) (l:=c.1) (x:=f))]<|
.guard [(c.1++f).length<2 ^ 63]<|
.reg 13 [] [] []<|
.frz 4 (.ev 0) none [] [0,1]<|
.r ((⟨(c.1++f),c.2.1,c.2.2.1,c.2.2.2⟩:TBo),0))))))
def F_q5t (a:TBo) (b:Y8) (c:Int) (d:Int) (e:Int):=(S_q5t a b c d e).den
theorem F_q5t_ok {a:TBo} {b:Y8} {c:Int} {e:Int} {f:Int}:FO (F_q5t a b c e f) 242 [(TBo.d a),(AV.d (Rf b)),(vi c),(vi e),(vi f)] [] (fun x=>(Rg [(TBo.d x.1),(vi x.2)])) NL:=fO (s:=S_q5t a b c e f) Tryz.func242
def S_q5u (j:TBo) (A:Int) (z:Int) (B:Int) (N:Int) (O:Int):SC (TBo×Int) (TBo×Int) :=
 let f:=(⟨[],[],[],[]⟩:TBo)
.reg 0 [] [(1,{ obs:=[(1,(TBo.b f))] })] [.pf z2t]<|
.a 1 1 2 (@F_q26_ok j) fun E=>
 let g:=(0,hv (TBo.d f))
.ite (!E) (
.reg 2 [] [g] [.pf zp]<|
.r (f,1)) (
.a 3 4 2 (@F_qh_ok A 1 (j.C.length:Int)) fun G=>
.ite (!G) (
.reg 4 [] [g] [.pf zp]<|
.r (f,6)) (
.call (@F_q1e_ok z) fun m u=>
.calld [(!m)=false] dF (@F_q22_ok B) fun H v =>
 let n:=(cO (!m) (!H))
.calld [n=false] dF (@F_qh_ok N 1 1000000) fun I w =>
 let q:=(cO n (!I))
.calld [q=false] dF (@F_q1e_ok O) fun J y =>
.reg 5 [] [(1,hc u [] true),(5,hc v [] true),(10,hc w [] true),(15,hc y [] true)] [.cl 6 u [] 2 true,.clg 4 [(!m)=false] v [] 2 true,.clg 2 [n=false] w [] 2 true,.clg 0 [q=false] y [] 2 true]<|
.ite (cO q (!J)) (
.reg 6 [] [g] [.pf zp]<|
.r (f,2)) (
 let s:=(i64.wrap (A-1))
.guard [(0:Int)<=s,s.toNat<j.C.length]<|
.reg 7 [] [] [.ev 0,.ev 1]<|
.a 8 1 3 (@F_q21_ok z) fun K=>
 let t:=(j.C.getD s.toNat dF)
.ite (K != t.D) (
.reg 9 [] [g] [.pf zp]<|
.r (f,16)) (
.ite (decide (z<t.Ab)) (
.reg 11 [] [g] [.pf zp]<|
.r (f,8)) (
.a 12 3 3 (@F_q46_ok j t) fun L=>
.ite (decide (B>L)) (
.reg 13 [] [g] [.pf zp]<|
.r (f,15)) (
.ite ((j.F.length:Int)==200) (
.reg 15 [] [g] [.pf zp]<|
.r (f,3)) (
.call (@F_q27_ok j) fun c M=>
.k 16 1 M [] 3 false<|
.kill 4<|
.guard [c.1.length<2 ^ 63]<|
.frz 5 (.ev 0) none [] [0]<|
.guard [c.2.2.1.length<2 ^ 63]<|
.frz 7 (.ev 0) none [] [0]<|
.guard [c.2.2.2.length<2 ^ 63]<|
.frz 8 (.ev 0) none [] [0]<|
.guard [(c.2.1.length+1) * (2 * 56)<=2 ^ 48]<|
 let h:=([(⟨(i64.wrap ((c.2.1.length:Int)+1)),A,z,B,0,N,O⟩:TCo)]:List TCo)
 let i:=(c.2.1++h)
.reg 17 [] [(12,hv (AV.d (eL TCo.e h))),(13,{ cast:=some (Rb 6 i.length 0 i.length),obs:=[(6,(eS 7 TCo.e i))] })] [.pf (za TCo.e h),.e c.2.1.length,.e c.2.1.length,.pf (p:=∀ k,k<1->(TCo.d (h.getD k dF)).wd=7) (fun _ _=>rfl),.ev 0,.pf (zy (o:=6) (l:=c.2.1) (x:=h)),.pf (z12 (sz:=7) (e:=TCo.e) (l:=c.2.1) (x:=h))]<|
.guard [i.length<2 ^ 63]<|
.reg 18 [] [] []<|
.frz 6 (.ev 0) none [] [0,1]<|
.r ((⟨c.1,i,c.2.2.1,c.2.2.2⟩:TBo),0))))))))
def F_q5u (a:TBo) (b:Int) (c:Int) (d:Int) (e:Int) (f:Int):=(S_q5u a b c d e f).den
theorem F_q5u_ok {a:TBo} {b:Int} {c:Int} {e:Int} {f:Int} {g:Int}:FO (F_q5u a b c e f g) 243 [(TBo.d a),(vi b),(vi c),(vi e),(vi f),(vi g)] [] (fun x=>(Rg [(TBo.d x.1),(vi x.2)])) NL:=fO (s:=S_q5u a b c e f g) Tryz.func243
def S_q5v (j:TBo) (y:Int) (w:Int) (z:Int):SC (TBo×Int) (TBo×Int) :=
 let f:=(⟨[],[],[],[]⟩:TBo)
.reg 0 [] [(1,{ obs:=[(1,(TBo.b f))] })] [.pf z2t]<|
.a 1 1 2 (@F_q26_ok j) fun A=>
 let g:=(0,hv (TBo.d f))
.ite (!A) (
.reg 2 [] [g] [.pf zp]<|
.r (f,1)) (
.a 3 4 2 (@F_qh_ok y 1 (j.F.length:Int)) fun B=>
.ite (!B) (
.reg 4 [] [g] [.pf zp]<|
.r (f,6)) (
.call (@F_q1e_ok w) fun m s=>
.calld [(!m)=false] dF (@F_q22_ok z) fun C t =>
.reg 5 [] [(1,hc s [] true),(5,hc t [] true)] [.cl 2 s [] 2 true,.clg 0 [(!m)=false] t [] 2 true]<|
.ite (cO (!m) (!C)) (
.reg 6 [] [g] [.pf zp]<|
.r (f,2)) (
 let n:=(i64.wrap (y-1))
.guard [(0:Int)<=n,n.toNat<j.F.length]<|
.reg 7 [] [] [.ev 0,.ev 1]<|
.call (@F_q21_ok w) fun D u=>
 let q:=(j.F.getD n.toNat dF)
.call (@F_q23_ok j q) fun E v=>
.reg 8 [] [(1,hc u [] true),(4,hc v [] true)] [.cl 1 u [] 3 true,.cl 0 v [] 3 true]<|
.ite (decide (D>(i64.wrap (E+1)))) (
.reg 9 [] [g] [.pf zp]<|
.r (f,16)) (
.ite (decide (w<q.Ab)) (
.reg 11 [] [g] [.pf zp]<|
.r (f,8)) (
.a 12 3 3 (@F_q47_ok j q) fun G=>
.ite (decide (z>G)) (
.reg 13 [] [g] [.pf zp]<|
.r (f,15)) (
.ite ((j.I.length:Int)==200) (
.reg 15 [] [g] [.pf zp]<|
.r (f,3)) (
.call (@F_q27_ok j) fun c H=>
.k 16 1 H [] 3 false<|
.kill 4<|
.guard [c.1.length<2 ^ 63]<|
.frz 5 (.ev 0) none [] [0]<|
.guard [c.2.1.length<2 ^ 63]<|
.frz 6 (.ev 0) none [] [0]<|
.guard [c.2.2.2.length<2 ^ 63]<|
.frz 8 (.ev 0) none [] [0]<|
.guard [(c.2.2.1.length+1) * (2 * 32)<=2 ^ 48]<|
 let h:=([(⟨(i64.wrap ((c.2.2.1.length:Int)+1)),y,w,z⟩:TVe)]:List TVe)
 let i:=(c.2.2.1++h)
.reg 17 [] [(10,hv (AV.d (eL TVe.e h))),(11,{ cast:=some (Rb 7 i.length 0 i.length),obs:=[(7,(eS 4 TVe.e i))] })] [.pf (za TVe.e h),.e c.2.2.1.length,.e c.2.2.1.length,.pf (p:=∀ k,k<1->(TVe.d (h.getD k dF)).wd=4) (fun _ _=>rfl),.ev 0,.pf (zy (o:=7) (l:=c.2.2.1) (x:=h)),.pf (z12 (sz:=4) (e:=TVe.e) (l:=c.2.2.1) (x:=h))]<|
.guard [i.length<2 ^ 63]<|
.reg 18 [] [] []<|
.frz 7 (.ev 0) none [] [0,1]<|
.r ((⟨c.1,c.2.1,i,c.2.2.2⟩:TBo),0))))))))
def F_q5v (a:TBo) (b:Int) (c:Int) (d:Int):=(S_q5v a b c d).den
theorem F_q5v_ok {a:TBo} {b:Int} {c:Int} {e:Int}:FO (F_q5v a b c e) 244 [(TBo.d a),(vi b),(vi c),(vi e)] [] (fun x=>(Rg [(TBo.d x.1),(vi x.2)])) NL:=fO (s:=S_q5v a b c e) Tryz.func244
def S_q5w (n:TBo) (D:Int) (z:Int):SC (TBo×Int) (TBo×Int) :=
 let f:=(⟨[],[],[],[]⟩:TBo)
.reg 0 [] [(1,{ obs:=[(1,(TBo.b f))] })] [.pf z2t]<|
.a 1 1 2 (@F_q26_ok n) fun E=>
 let g:=(0,hv (TBo.d f))
.ite (!E) (
.reg 2 [] [g] [.pf zp]<|
.r (f,1)) (
.a 3 4 2 (@F_qh_ok D 1 (n.I.length:Int)) fun G=>
.ite (!G) (
.reg 4 [] [g] [.pf zp]<|
.r (f,6)) (
.a 5 1 2 (@F_q1e_ok z) fun H=>
.ite (!H) (
.reg 6 [] [g] [.pf zp]<|
.r (f,2)) (
 let u:=(i64.wrap (D-1))
.guard [(0:Int)<=u,u.toNat<n.I.length]<|
.reg 7 [] [] [.ev 0,.ev 1]<|
.a 8 2 3 (@F_q4w_ok n D) fun v=>
.call (@F_q21_ok z) fun J A=>
 let B:=(n.I.getD u.toNat dF)
 let w:=(i64.wrap (B.Ac-1))
.call (@F_q23_ok n (n.F.getD w.toNat dF)) fun K C=>
.guard [(0:Int)<=w,w.toNat<n.F.length]<|
.reg 10 [] [(1,hc A [] true),(10,hc C [] true)] [.cl 3 A [] 3 true,.ev 0,.ev 1,.cl 2 C [] 3 true]<|
.ite (decide (J>(i64.wrap (K+1)))) (
.reg 11 [] [g] [.pf zp]<|
.r (f,16)) (
 let j:=(v.length:Int)
 let q:=(i64.wrap (j-1))
 let h:=(decide (j>0))
 let s:=(q.toNat<v.length)
.guard [AllP [h=true]->((0:Int)<=q),AllP [h=true]->s]<|
.reg 12 [] [] [.ev 0,.ev 1]<|
 let t:=(v.getD q.toNat dF)
.ite (bif h then (!t.Al) else false) (
.reg 13 [] [g] [.pf zp]<|
.r (f,20)) (
 let y:=(decide (z<B.Ab))
.guard [AllP [h=true,y=false]->((0:Int)<=q),AllP [h=true,y=false]->s]<|
.reg 14 [] [] [.ev 0,.ev 1]<|
.ite (cO y (bif h then (decide (z<t.Ab)) else false)) (
.reg 15 [] [g] [.pf zp]<|
.r (f,8)) (
.ite ((n.W.length:Int)==200) (
.reg 17 [] [g] [.pf zp]<|
.r (f,3)) (
.call (@F_q27_ok n) fun c L=>
.k 18 1 L [] 3 false<|
.kill 4<|
.guard [c.1.length<2 ^ 63]<|
.frz 5 (.ev 0) none [] [0]<|
.guard [c.2.1.length<2 ^ 63]<|
.frz 6 (.ev 0) none [] [0]<|
.guard [c.2.2.1.length<2 ^ 63]<|
.frz 7 (.ev 0) none [] [0]<|
.guard [(c.2.2.2.length+1) * (2 * 40)<=2 ^ 48]<|
 let i:=([(⟨(i64.wrap ((c.2.2.2.length:Int)+1)),D,(i64.wrap (j+1)),z,false⟩:TOr)]:List TOr)
 let m:=(c.2.2.2++i)
.reg 19 [] [(11,hv (AV.d (eL TOr.e i))),(12,{ cast:=some (Rb 8 m.length 0 m.length),obs:=[(8,(eS 5 TOr.e m))] })] [.pf (za TOr.e i),.e c.2.2.2.length,.e c.2.2.2.length,.pf (p:=∀ k,k<1->(TOr.d (i.getD k dF)).wd=5) (fun _ _=>rfl),.ev 0,.pf (zy (o:=8) (l:=c.2.2.2) (x:=i)),.pf (z12 (sz:=5) (e:=TOr.e) (l:=c.2.2.2) (x:=i))]<|
.guard [m.length<2 ^ 63]<|
.reg 20 [] [] []<|
.frz 8 (.ev 0) none [] [0,1]<|
.r ((⟨c.1,c.2.1,c.2.2.1,m⟩:TBo),0))))))))
def F_q5w (a:TBo) (b:Int) (c:Int):=(S_q5w a b c).den
theorem F_q5w_ok {a:TBo} {b:Int} {c:Int}:FO (F_q5w a b c) 245 [(TBo.d a),(vi b),(vi c)] [] (fun x=>(Rg [(TBo.d x.1),(vi x.2)])) NL:=fO (s:=S_q5w a b c) Tryz.func245
def S_q37_b1 (e:TBo) (f:Int) (b:Nat) (_:Unit):SC Int (Step Unit Int) :=
.reg 3 [] [] [.w b,.ev 0]<|
 let c:=(e.C.getD b dF)
.ite (c.Q==f) (
.a 5 2 2 (@F_q46_ok e c) fun d=>
.r (.ret d)) (
.r (.cont ()))
def S_q37 (a:TBo) (b:Int):SC Int Int :=
.range (a.C.length:Int) a.C.length rfl (.slot 8) 10 [1,2,8,9] (fun (_:Unit)=>[]) (fun _=>[]) () (S_q37_b1 a b) (fun _ => 
.r 0) id
def F_q37 (a:TBo) (b:Int):=(S_q37 a b).den
theorem F_q37_ok {a:TBo} {b:Int}:FO (F_q37 a b) 273 [(TBo.d a),(vi b)] [] vi NL:=fO (s:=S_q37 a b) Tryz.func273
def S_q5x (w:TBo) (y:Int) (z:Int):SC (TBo×Int) (TBo×Int) :=
 let f:=(⟨[],[],[],[]⟩:TBo)
 let q:=(TBo.b f)
.reg 0 [] [(1,{ obs:=[(1,q)] })] [.pf z2t]<|
.a 1 1 2 (@F_q26_ok w) fun E=>
 let j:=(0,hv (TBo.d f))
.ite (!E) (
.reg 2 [] [j] [.pf zp]<|
.r (f,1)) (
.a 3 4 2 (@F_qh_ok y 1 (w.C.length:Int)) fun F=>
.ite (!F) (
.reg 4 [] [j] [.pf zp]<|
.r (f,6)) (
.a 5 1 2 (@F_q22_ok z) fun G=>
.ite (!G) (
.reg 6 [] [j] [.pf zp]<|
.r (f,2)) (
.a 7 3 2 (@F_q37_ok w y) fun H=>
.ite (decide (z>H)) (
.reg 8 [] [j] [.pf zp]<|
.r (f,15)) (
.call (@F_q27_ok w) fun c I=>
.k 9 1 I [] 2 false<|
.kill 3<|
.guard [c.2.1.length<2 ^ 63]<|
.frz 5 (.ev 0) none [] [0]<|
.guard [c.2.2.1.length<2 ^ 63]<|
.frz 6 (.ev 0) none [] [0]<|
.guard [c.2.2.2.length<2 ^ 63]<|
.frz 7 (.ev 0) none [] [0]<|
 let s:=(i64.wrap (y-1))
 let m:=(0+s.toNat)
.guard [(0:Int)<=s,s.toNat<c.1.length,m<c.1.length]<|
 let g:=(c.1.getD m dF)
 let u:=(⟨g.Q,g.B,g.D,g.Ab,g.V,(i64.wrap (g.Ad+z))⟩:TRe)
 let h:=(c.1.set m u)
 let t:=(eS 6 TRe.e h)
.reg 10 [] [(11,{ obs:=[(4,t)] })] [.e c.1.length,.ev 0,.ev 1,.e c.1.length,.e c.1.length,.ev 2,.e c.1.length,.ev 0,.ev 1,.e c.1.length,.e c.1.length,.ev 2,.pf (zo (sz:=6) (e:=TRe.e) (l:=c.1) (i:=m) (x:=u) (fun _=>rfl))]<|
 let v:=(AV.d (eL TVe.e c.2.2.1))
 let n:=(AV.d (eL TOr.e c.2.2.2))
 let o:=(AV.d (eL TCo.e c.2.1))
 let p:=[(3,(vp 0)),(6,(vp 1))]
.cst (A:=True) (.pf trivial) p p [(Rd (Rc [(Rb 4 c.1.length 0 c.1.length),o,v,n])),q,Re,Re,t,Re,Re,Re] [(Rd (Rc [(Rb 4 h.length 0 h.length),o,v,n])),q,Re,Re,t,Re,Re,Re] (fun _=>⟨Zd,Zb⟩)<|
.guard [h.length<2 ^ 63]<|
.reg 11 [] [] []<|
.frz 4 (.ev 0) none [] [0,1]<|
.r ((⟨h,c.2.1,c.2.2.1,c.2.2.2⟩:TBo),0)))))
def F_q5x (a:TBo) (b:Int) (c:Int):=(S_q5x a b c).den
theorem F_q5x_ok {a:TBo} {b:Int} {c:Int}:FO (F_q5x a b c) 246 [(TBo.d a),(vi b),(vi c)] [] (fun x=>(Rg [(TBo.d x.1),(vi x.2)])) NL:=fO (s:=S_q5x a b c) Tryz.func246
end
end Go.Proofs.YtkhgaalekilaeaaGreatDoor
/- What the functions compute,and that their calls return it. No condition. -/
namespace Go.Proofs.YtkhgaalekilaeaaGreatDoor
open Go Go.TA
open Go.IntKind (i64)
noncomputable section
set_option maxRecDepth 100000
def S_q5y (u:TBo) (H:Int) (z:Int):SC (TBo×Int) (TBo×Int) :=
 let g:=(⟨[],[],[],[]⟩:TBo)
 let s:=(TBo.b g)
.reg 0 [] [(1,{ obs:=[(1,s)] })] [.pf z2t]<|
.a 1 1 2 (@F_q26_ok u) fun B=>
 let m:=(0,hv (TBo.d g))
.ite (!B) (
.reg 2 [] [m] [.pf zp]<|
.r (g,1)) (
.a 3 4 2 (@F_qh_ok H 1 (u.F.length:Int)) fun C=>
.ite (!C) (
.reg 4 [] [m] [.pf zp]<|
.r (g,6)) (
.a 5 1 2 (@F_q22_ok z) fun D=>
.ite (!D) (
.reg 6 [] [m] [.pf zp]<|
.r (g,2)) (
 let h:=(i64.wrap (H-1))
.call (@F_q47_ok u (u.F.getD h.toNat dF)) fun E v=>
.guard [(0:Int)<=h,h.toNat<u.F.length]<|
.reg 7 [] [(8,hc v [] true)] [.ev 0,.ev 1,.cl 2 v [] 2 true]<|
.ite (decide (z>E)) (
.reg 8 [] [m] [.pf zp]<|
.r (g,15)) (
.call (@F_q27_ok u) fun c G=>
.k 9 1 G [] 2 false<|
.kill 3<|
.guard [c.1.length<2 ^ 63]<|
.frz 4 (.ev 0) none [] [0]<|
.guard [c.2.2.1.length<2 ^ 63]<|
.frz 6 (.ev 0) none [] [0]<|
.guard [c.2.2.2.length<2 ^ 63]<|
.frz 7 (.ev 0) none [] [0]<|
 let n:=(0+h.toNat)
.guard [h.toNat<c.2.1.length,n<c.2.1.length]<|
 let f:=(c.2.1.getD n dF)
 let w:=(⟨f.Q,f.Y,f.Ab,f.V,(i64.wrap (f.Ad+z)),f.Ah,f.Aj⟩:TCo)
 let j:=(c.2.1.set n w)
 let t:=(eS 7 TCo.e j)
.reg 10 [] [(11,{ obs:=[(5,t)] })] [.e c.2.1.length,.ev 7,.ev 0,.e c.2.1.length,.e c.2.1.length,.ev 1,.e c.2.1.length,.ev 7,.ev 0,.e c.2.1.length,.e c.2.1.length,.ev 1,.pf (zo (sz:=7) (e:=TCo.e) (l:=c.2.1) (i:=n) (x:=w) (fun _=>rfl))]<|
 let y:=(AV.d (eL TVe.e c.2.2.1))
 let o:=(AV.d (eL TOr.e c.2.2.2))
 let p:=[(3,(vp 0)),(6,(vp 1))]
 let q:=(AV.d (eL TRe.e c.1))
.cst (A:=True) (.pf trivial) p p [(Rd (Rc [q,(Rb 5 c.2.1.length 0 c.2.1.length),y,o])),s,Re,Re,Re,t,Re,Re] [(Rd (Rc [q,(Rb 5 j.length 0 j.length),y,o])),s,Re,Re,Re,t,Re,Re] (fun _=>⟨Zd,Zb⟩)<|
.guard [j.length<2 ^ 63]<|
.reg 11 [] [] []<|
.frz 5 (.ev 0) none [] [0,1]<|
.r ((⟨c.1,j,c.2.2.1,c.2.2.2⟩:TBo),0)))))
def F_q5y (a:TBo) (b:Int) (c:Int):=(S_q5y a b c).den
theorem F_q5y_ok {a:TBo} {b:Int} {c:Int}:FO (F_q5y a b c) 247 [(TBo.d a),(vi b),(vi c)] [] (fun x=>(Rg [(TBo.d x.1),(vi x.2)])) NL:=fO (s:=S_q5y a b c) Tryz.func247
def S_q2q_b1 (u:Int) (a:R_q27) (c:Nat) (_:Unit):SC (TBo×Int) (Step Unit (TBo×Int)) :=
.reg 9 [] [] [.e a.2.2.2.length,.w c,.ev 0]<|
 let f:=(a.2.2.2.getD (0+c) dF)
 let h:=(f.X==u)
.guard [(0+c)<a.2.2.2.length,AllP [h=true]->((0+c)<a.2.2.2.length)]<|
 let m:=(a.2.2.2.length=a.2.2.2.length)
.reg 10 [] [] [.e a.2.2.2.length,.e a.2.2.2.length,.ev 0,.pf (p:=AllP [h=true]->m) (fun _=>rfl),.pf (p:=AllP [h=true]->m) (fun _=>rfl),.ev 1]<|
.ite (bif h then (!f.Al) else false) (
 let n:=(⟨f.Q,f.X,f.Ak,f.Ab,true⟩:TOr)
 let g:=(a.2.2.2.set (0+c) n)
 let k:=(eS 5 TOr.e g)
.reg 11 [] [(3,{ obs:=[(7,k)] })] [.e a.2.2.2.length,.e a.2.2.2.length,.ev 1,.pf (zo (sz:=5) (e:=TOr.e) (l:=a.2.2.2) (i:=(0+c)) (x:=n) (fun _=>rfl))]<|
 let o:=(TBo.b (⟨[],[],[],[]⟩:TBo))
 let q:=(AV.d (eL TVe.e a.2.2.1))
 let s:=(AV.d (eL TCo.e a.2.1))
 let t:=[(2,(vp 0)),(4,(vp 1))]
 let j:=(AV.d (eL TRe.e a.1))
.cst (A:=True) (.pf trivial) t t [(Rd (Rc [j,s,q,(Rb 7 a.2.2.2.length 0 a.2.2.2.length)])),o,Re,Re,Re,Re,Re,k] [(Rd (Rc [j,s,q,(Rb 7 g.length 0 g.length)])),o,Re,Re,Re,Re,Re,k] (fun _=>⟨Zd,Zb⟩)<|
.guard [g.length<2 ^ 63]<|
.reg 12 [] [] []<|
.frz 7 (.ev 0) none [] [0,1]<|
.r (.ret ((⟨a.1,a.2.1,a.2.2.1,g⟩:TBo),0))) (
.r (.cont ()))
def S_q2q (g:TBo) (l:Int):SC (TBo×Int) (TBo×Int) :=
 let e:=(⟨[],[],[],[]⟩:TBo)
.reg 0 [] [(1,{ obs:=[(1,(TBo.b e))] })] [.pf z2t]<|
.a 1 1 2 (@F_q26_ok g) fun h=>
 let f:=(0,hv (TBo.d e))
.ite (!h) (
.reg 2 [] [f] [.pf zp]<|
.r (e,1)) (
.a 3 4 2 (@F_qh_ok l 1 (g.I.length:Int)) fun i=>
.ite (!i) (
.reg 4 [] [f] [.pf zp]<|
.r (e,6)) (
.call (@F_q27_ok g) fun c j=>
.k 5 1 j [] 2 false<|
.kill 3<|
.guard [c.1.length<2 ^ 63]<|
.frz 4 (.ev 0) none [] [0]<|
.guard [c.2.1.length<2 ^ 63]<|
.frz 5 (.ev 0) none [] [0]<|
.guard [c.2.2.1.length<2 ^ 63]<|
.frz 6 (.ev 0) none [] [0]<|
.guard [c.2.2.2.length<2 ^ 63]<|
.range (c.2.2.2.length:Int) c.2.2.2.length rfl (.why (.ev 0)) 26 [1,2,4,25] (fun (_:Unit)=>[]) (fun _=>[]) () (S_q2q_b1 l c) (fun _ => 
.reg 14 [] [f] [.pf zp]<|
.r (e,9)) id))
def F_q2q (a:TBo) (b:Int):=(S_q2q a b).den
theorem F_q2q_ok {a:TBo} {b:Int}:FO (F_q2q a b) 248 [(TBo.d a),(vi b)] [] (fun x=>(Rg [(TBo.d x.1),(vi x.2)])) NL:=fO (s:=S_q2q a b) Tryz.func248
def S_q5z (d:TBo) (c:TOp):SC (TBo×Int) (TBo×Int) :=
.reg 0 [] [(2,{ obs:=[(2,(TBo.b (⟨[],[],[],[]⟩:TBo)))] })] [.pf z2t]<|
.ite (c.U==1) (
.a 3 9 3 (@F_q5t_ok d c.B c.D c.Ab c.V) fun e=>
.r (e.1,e.2)) (
.ite (c.U==2) (
.a 5 11 3 (@F_q5u_ok d c.Of c.Ab c.V c.Ah c.Aj) fun f=>
.r (f.1,f.2)) (
.ite (c.U==3) (
.a 7 7 3 (@F_q5v_ok d c.Of c.Ab c.V) fun g=>
.r (g.1,g.2)) (
.ite (c.U==4) (
.a 9 5 3 (@F_q5w_ok d c.Of c.Ab) fun h=>
.r (h.1,h.2)) (
.ite (c.U==5) (
.a 11 5 3 (@F_q5x_ok d c.Of c.V) fun i=>
.r (i.1,i.2)) (
.ite (c.U==6) (
.a 13 5 3 (@F_q5y_ok d c.Of c.V) fun j=>
.r (j.1,j.2)) (
.a 14 3 3 (@F_q2q_ok d c.Of) fun k=>
.r (k.1,k.2)))))))
def F_q5z (a:TBo) (b:TOp):=(S_q5z a b).den
theorem F_q5z_ok {a:TBo} {b:TOp}:FO (F_q5z a b) 219 [(TBo.d a),(TOp.d b)] [] (fun x=>(Rg [(TBo.d x.1),(vi x.2)])) NL:=fO (s:=S_q5z a b) Tryz.func219
def S_q49 (d:TOf) (e:Y8) (f:Int):SC Int Int :=
.a 1 3 1 (@F_q20_ok d e f) fun b=>
.a 2 9 2 (@F_q1p_ok d.Ag e f) fun c=>
.r (i64.wrap ((i64.wrap (b.A-b.S))-c))
def F_q49 (a:TOf) (b:Y8) (c:Int):=(S_q49 a b c).den
theorem F_q49_ok {a:TOf} {b:Y8} {c:Int}:FO (F_q49 a b c) 105 [(TOf.d a),(AV.d (Rf b)),(vi c)] [] vi NL:=fO (s:=S_q49 a b c) Tryz.func105
def S_q3u (g:TOf) (c:TOp):SC (TOf×Int) (TOf×Int) :=
 let h:=(⟨[],[],[],[]⟩:TBo)
 let e:=(⟨0,[],h⟩:TOf)
.reg 0 [] [(2,{ obs:=[(2,(TOf.b e))] })] [.pf z19]<|
.ite (c.U==8) (
.a 3 2 3 (@F_q5m_ok g c) fun i=>
.r (i.1,i.2)) (
.ite (c.U==7) (
.a 5 2 3 (@F_q5o_ok g c) fun j=>
.r (j.1,j.2)) (
.call (@F_q5z_ok g.Ag c) fun f k=>
.reg 6 [] [(3,hc k [] true),(7,{ obs:=[(3,(TBo.b h))] })] [.cl 0 k [] 3 true,.pf z2t]<|
 let l:=(0,hv (TOf.d e))
.ite (f.2 != 0) (
.reg 8 [] [l] [.pf z1n]<|
.r (e,f.2)) (
.calld [(c.U==1)=true] dF (@F_q49_ok g c.B c.D) fun n m =>
.reg 9 [] [(11,hc m [] true)] [.clg 0 [(c.U==1)=true] m [] 4 true]<|
.ite (bif (c.U==1) then (decide (c.V>n)) else false) (
.reg 10 [] [l] [.pf z1n]<|
.r (e,15)) (
.r ((⟨g.Q,g.L,f.1⟩:TOf),0)))))
def F_q3u (a:TOf) (b:TOp):=(S_q3u a b).den
theorem F_q3u_ok {a:TOf} {b:TOp}:FO (F_q3u a b) 179 [(TOf.d a),(TOp.d b)] [] (fun x=>(Rg [(TOf.d x.1),(vi x.2)])) NL:=fO (s:=S_q3u a b) Tryz.func179
abbrev R_qs:=TOf×Int×Int
def S_qs_b1 (l:(List TOp)) (e:Nat) (j:TOf):SC R_qs (Step TOf R_qs) :=
.reg 4 [] [] [.w e,.ev 0]<|
.a 5 1 3 (@F_q45_ok (l.getD e dF)) fun k=>
 let f:=(⟨0,[],(⟨[],[],[],[]⟩:TBo)⟩:TOf)
 let g:=(0,hv (TOf.d f))
.ite (!k) (
.reg 6 [] [g] [.pf z1n]<|
.r (.ret (f,(e:Int),4))) (
.call (@F_q3u_ok j (l.getD e dF)) fun h i=>
.reg 7 [] [(2,hc i [] true),(6,{ obs:=[(3,(TOf.b f))] })] [.cl 0 i [] 3 true,.pf z19]<|
.ite (h.2 != 0) (
.reg 9 [] [g] [.pf z1n]<|
.r (.ret (f,(e:Int),9))) (
.c h.1))
def S_qs (h:Int) (g:(List TOp)):SC R_qs R_qs :=
 let e:=(⟨[],[],[],[]⟩:TBo)
 let f:=(TOf.b (⟨0,[],e⟩:TOf))
.reg 0 [] [(0,{ obs:=[(0,f)] })] [.pf z19]<|
 let a:=(⟨h,[],e⟩:TOf)
.reg 1 [] [(1,hv (TOf.d a)),(2,{ obs:=[(1,f)] })] [.pf (p:=LeV (AV.d (DV.agg [(DV.i .i64 h),Z0,(DV.agg [Z0,Z0,Z0,Z0])])) (TOf.d a)) (z2f rfl (DLe.agg (Rh (DLe.refl _) (Rh DLe.sl0 (Rh (DLe.agg (Rh DLe.sl0 (Rh DLe.sl0 (Rh DLe.sl0 (Rh DLe.sl0 DLeL.nil))))) DLeL.nil))))),.pf z19]<|
.range (g.length:Int) g.length rfl (.slot 1) 16 [1,4,7,14,15] (fun (_:TOf)=>[]) (fun c=>[(1,(TOf.b c))]) a (S_qs_b1 g) (fun c => 
.r (c,(g.length:Int),0)) id
def F_qs (a:Int) (b:(List TOp)):=(S_qs a b).den
theorem F_qs_ok {a:Int} {b:(List TOp)}:FO (F_qs a b) 129 [(vi a),(AV.d (eL TOp.e b))] [] (fun x=>(Rg [(TOf.d x.1),(vi x.2.1),(vi x.2.2)])) NL:=fO (s:=S_qs a b) Tryz.func129
def S_q28 (h:TJo):SC (TOf×Int) (TOf×Int) :=
 let c:=(⟨0,[],(⟨[],[],[],[]⟩:TBo)⟩:TOf)
.reg 0 [] [(1,{ obs:=[(1,(TOf.b c))] })] [.pf z19]<|
.a 1 1 2 (@F_q4o_ok h) fun i=>
 let e:=(0,hv (TOf.d c))
.ite (!i) (
.reg 2 [] [e] [.pf z1n]<|
.r (c,1)) (
.call (@F_qs_ok h.Z h.M) fun f g=>
.reg 3 [] [(4,hc g [] true),(9,{ obs:=[(2,(TOf.b c))] })] [.cl 0 g [] 2 true,.pf z19]<|
.ite (f.2.2 != 0) (
.reg 5 [] [e] [.pf z1n]<|
.r (c,1)) (
.r (f.1,0)))
def F_q28 (a:TJo):=(S_q28 a).den
theorem F_q28_ok {a:TJo}:FO (F_q28 a) 79 [(TJo.d a)] [] (fun x=>(Rg [(TOf.d x.1),(vi x.2)])) NL:=fO (s:=S_q28 a) Tryz.func79
def S_q60 (a:(List TOp)):SC (List TOp) (List TOp) :=
.reg 0 [] [] []<|
.nils 0 (
.guard [a.length * (2 * 88)<=2 ^ 48]<|
.reg 1 [] [] []<|
.lev 0 (AV.d (eL TOp.e a)) (.pf (lvQ true a.length fun j=>(TOp.e (a.getD j dF))))<|
.br true (.pf (p:=true=true) rfl)<|
.reg 2 [] [] []<|
.bor 10 (fun j=>AV.d (TOp.e (a.getD j dF))) [2]<|
.cst (A:=a.length=0) (.ev 1) [(2,Rb 0 0 0 0)] [(2,(Rb 0 a.length 0 a.length))] [(Ob.seq 10 0 fun j=>AV.d (TOp.e (a.getD j dF)))] [(eS 10 TOp.e a)] (fun h=>⟨by rw[h],by unfold eS; rw[h]⟩)<|
.r a) (
.reg 1 [] [] []<|
.lev 0 (AV.d (eL TOp.e a)) (.pf (lvQ false a.length fun j=>(TOp.e (a.getD j dF))))<|
.br false (.pf (p:=false=false) rfl)<|
.guard [a.length * (2 * 88)<=2 ^ 48]<|
.reg 3 [] [(2,{ h:=.obj })] [.pf (p:=∀ k,k<a.length->(TOp.d (a.getD k dF)).wd=10) (fun _ _=>rfl),.ev 0]<|
.r a)
def F_q60 (a:(List TOp)):=(S_q60 a).den
theorem F_q60_ok {a:(List TOp)}:FO (F_q60 a) 90 [(AV.d (eL TOp.e a))] [] (fun x=>(Rb 0 x.length 0 x.length)) (fun x=>[(eS 10 TOp.e x)]):=fO (s:=S_q60 a) Tryz.func90
abbrev R_q7o:=Int×Int×(List TOp)
def S_q7o (a:TJo):SC R_q7o R_q7o :=
.reg 0 [] [(1,{ obs:=[(1,(TJo.b (⟨0,[],0⟩:TJo)))] })] [.pf cz2]<|
.call (@F_q60_ok a.M) fun c d=>
.k 1 2 d [] 2 false<|
.reg 2 [] [] []<|
.kill 0<|
.r (a.Z,a.Af,c)
def F_q7o (a:TJo):=(S_q7o a).den
theorem F_q7o_ok {a:TJo}:FO (F_q7o a) 189 [(TJo.d a)] [] (fun x=>(Rc [(vi x.1),(Rb 2 x.2.2.length 0 x.2.2.length),(vi x.2.1)])) (fun x=>[Re,(Rd (Rc [(vi x.1),(Rb 2 x.2.2.length 0 x.2.2.length),(vi x.2.1)])),(eS 10 TOp.e x.2.2)]):=fO (s:=S_q7o a) Tryz.func189
def S_q4y (t:TJo) (u:TOp):SC (TJo×Int) (TJo×Int) :=
 let f:=(⟨0,[],0⟩:TJo)
.reg 0 [] [(2,{ obs:=[(2,(TJo.b f))] })] [.pf cz2]<|
.call (@F_q28_ok t) fun h j=>
 let m:=(TOf.b (⟨0,[],(⟨[],[],[],[]⟩:TBo)⟩:TOf))
.reg 1 [] [(1,hc j [] true),(5,{ obs:=[(3,m)] })] [.cl 0 j [] 3 true,.pf z19]<|
.calld [(h.2 != 0)=false] dF (@F_q45_ok u) fun v n =>
.reg 2 [] [(4,hc n [] true)] [.clg 0 [(h.2 != 0)=false] n [] 4 true]<|
 let i:=(0,hv (TJo.d f))
.ite (cO (h.2 != 0) (!v)) (
.reg 3 [] [i] [.pf cz3]<|
.r (f,1)) (
.call (@F_q3u_ok h.1 u) fun q s=>
.reg 4 [] [(2,hc s [] true),(6,{ obs:=[(4,m)] })] [.cl 0 s [] 4 true,.pf z19]<|
.ite (q.2 != 0) (
.reg 6 [] [i] [.pf cz3]<|
.r (f,q.2)) (
.ite ((t.M.length:Int)==400) (
.reg 8 [] [i] [.pf cz3]<|
.r (f,3)) (
.call (@F_q7o_ok t) fun a w=>
.k 9 1 w [] 5 false<|
.kill 6<|
.guard [(a.2.2.length+1) * (2 * 88)<=2 ^ 48]<|
 let c:=([u]:List TOp)
 let g:=(a.2.2++c)
.reg 10 [] [(3,hv (AV.d (eL TOp.e c))),(4,{ cast:=some (Rb 7 g.length 0 g.length),obs:=[(7,(eS 10 TOp.e g))] })] [.pf (za TOp.e c),.e a.2.2.length,.e a.2.2.length,.pf (p:=∀ k,k<1->(TOp.d (c.getD k dF)).wd=10) (fun _ _=>rfl),.ev 0,.pf (zy (o:=7) (l:=a.2.2) (x:=c)),.pf (z12 (sz:=10) (e:=TOp.e) (l:=a.2.2) (x:=c))]<|
.guard [g.length<2 ^ 63]<|
.reg 11 [] [] []<|
.frz 7 (.ev 0) none [] [0,2]<|
.r ((⟨a.1,g,a.2.1⟩:TJo),0))))
def F_q4y (a:TJo) (b:TOp):=(S_q4y a b).den
theorem F_q4y_ok {a:TJo} {b:TOp}:FO (F_q4y a b) 136 [(TJo.d a),(TOp.d b)] [] (fun x=>(Rg [(TJo.d x.1),(vi x.2)])) NL:=fO (s:=S_q4y a b) Tryz.func136
def S_q61 (a:(List TJo)):SC (List TJo) (List TJo) :=
.reg 0 [] [] []<|
.nils 0 (
.guard [a.length * (2 * 40)<=2 ^ 48]<|
.reg 1 [] [] []<|
.lev 0 (AV.d (eL TJo.e a)) (.pf (lvQ true a.length fun j=>(TJo.e (a.getD j dF))))<|
.br true (.pf (p:=true=true) rfl)<|
.reg 2 [] [] []<|
.bor 3 (fun j=>AV.d (TJo.e (a.getD j dF))) [2]<|
.cst (A:=a.length=0) (.ev 1) [(2,Rb 0 0 0 0)] [(2,(Rb 0 a.length 0 a.length))] [(Ob.seq 3 0 fun j=>AV.d (TJo.e (a.getD j dF)))] [(eS 3 TJo.e a)] (fun h=>⟨by rw[h],by unfold eS; rw[h]⟩)<|
.r a) (
.reg 1 [] [] []<|
.lev 0 (AV.d (eL TJo.e a)) (.pf (lvQ false a.length fun j=>(TJo.e (a.getD j dF))))<|
.br false (.pf (p:=false=false) rfl)<|
.guard [a.length * (2 * 40)<=2 ^ 48]<|
.reg 3 [] [(2,{ h:=.obj })] [.pf (p:=∀ k,k<a.length->(TJo.d (a.getD k dF)).wd=3) (fun _ _=>rfl),.ev 0]<|
.r a)
def F_q61 (a:(List TJo)):=(S_q61 a).den
theorem F_q61_ok {a:(List TJo)}:FO (F_q61 a) 190 [(AV.d (eL TJo.e a))] [] (fun x=>(Rb 0 x.length 0 x.length)) (fun x=>[(eS 3 TJo.e x)]):=fO (s:=S_q61 a) Tryz.func190
def S_q3v (f:TWo) (o:TJo) (s:Int):SC (TWo×Int) (TWo×Int) :=
 let g:=(⟨(⟨0,[]⟩:TTr),[],[]⟩:TWo)
 let h:=(TWo.b g)
.reg 0 [] [(2,{ obs:=[(2,h)] })] [.pf cz4]<|
.ite (s != 0) (
.reg 2 [] [(0,hv (TWo.d g))] [.pf cz5]<|
.r (g,s)) (
.call (@F_q61_ok f.J) fun a q=>
.k 3 2 q [] 3 false<|
 let j:=(i64.wrap (o.Z-1))
 let m:=(0+j.toNat)
.guard [(0:Int)<=j,j.toNat<a.length,m<a.length]<|
 let c:=(a.set m o)
 let n:=(eS 3 TJo.e c)
.reg 4 [] [(7,{ obs:=[(3,n)] })] [.e a.length,.ev 0,.ev 1,.e a.length,.ev 2,.pf (zo (sz:=3) (e:=TJo.e) (l:=a) (i:=m) (x:=o) (fun _=>rfl))]<|
 let p:=[(3,(vp 0)),(6,(vp 2))]
.cst (A:=True) (.pf trivial) p p [(Rd (Rc [(TTr.d f.K),(Rb 3 a.length 0 a.length),(AV.d (eL TMe.e f.N))])),(TJo.b o),h,n] [(Rd (Rc [(TTr.d f.K),(Rb 3 c.length 0 c.length),(AV.d (eL TMe.e f.N))])),(TJo.b o),h,n] (fun _=>⟨Zd,Zb⟩)<|
.guard [c.length<2 ^ 63]<|
.reg 5 [] [] []<|
.frz 3 (.ev 0) none [] [0,2]<|
.r ((⟨f.K,c,f.N⟩:TWo),0))
def F_q3v (a:TWo) (b:TJo) (c:Int):=(S_q3v a b c).den
theorem F_q3v_ok {a:TWo} {b:TJo} {c:Int}:FO (F_q3v a b c) 137 [(TWo.d a),(TJo.d b),(vi c)] [] (fun x=>(Rg [(TWo.d x.1),(vi x.2)])) NL:=fO (s:=S_q3v a b c) Tryz.func137
def S_q38 (d:TJo):SC Bool Bool :=
.call (@F_q28_ok d) fun c a=>
.reg 1 [] [(1,hc a [] true),(5,{ obs:=[(1,(TOf.b (⟨0,[],(⟨[],[],[],[]⟩:TBo)⟩:TOf)))] })] [.cl 0 a [] 1 true,.pf z19]<|
.r (c.2==0)
def F_q38 (a:TJo):=(S_q38 a).den
theorem F_q38_ok {a:TJo}:FO (F_q38 a) 152 [(TJo.d a)] [] vb NL:=fO (s:=S_q38 a) Tryz.func152
theorem zvj:∀ k,k<0->(DV.b false).wd=10:=fun _ h=>absurd h (y3k _)
def S_q4z (a:(List TOp)):SC (List TOp) (List TOp) :=
.reg 0 [] [] []<|
 let b:=(AV.d (eL TOp.e a))
.nils 0 (
.guard [(0+a.length) * (2 * 88)<=2 ^ 48]<|
.reg 1 [] [] []<|
.lev 0 b (.pf (lvQ true a.length fun j=>(TOp.e (a.getD j dF))))<|
.br true (.pf (p:=true=true) rfl)<|
.reg 2 [] [] []<|
.lev 2 b (.der (fun (h:a.length=0)=>lvZ TOp.e a h) 1)<|
.r a) (
.reg 1 [] [] []<|
.lev 0 b (.pf (lvQ false a.length fun j=>(TOp.e (a.getD j dF))))<|
.br false (.pf (p:=false=false) rfl)<|
.guard [(0+a.length) * (2 * 88)<=2 ^ 48]<|
.reg 3 [] [(2,hv b)] [.pf (p:=∀ k,k<a.length->AV.d (TOp.e (a.getD k dF))=AV.d (TOp.e (a.getD k dF))/\(TOp.e (a.getD k dF)).wd=10) (fun _ _=>⟨rfl,rfl⟩),.pf zvj,.ev 0,.pf (z3s (e:=TOp.e) (x:=a))]<|
.r a)
def F_q4z (a:(List TOp)):=(S_q4z a).den
theorem F_q4z_ok {a:(List TOp)}:FO (F_q4z a) 90 [(AV.d (eL TOp.e a))] [] (fun x=>(AV.d (eL TOp.e x))) NL:=fO (s:=S_q4z a) Tryz.func90
def S_q4a (c:TJo):SC TJo TJo :=
.reg 0 [] [(1,{ obs:=[(1,(TJo.b (⟨0,[],0⟩:TJo)))] })] [.pf cz2]<|
.a 1 2 2 (@F_q4z_ok c.M) fun d=>
.r (⟨c.Z,d,c.Af⟩:TJo)
def F_q4a (a:TJo):=(S_q4a a).den
theorem F_q4a_ok {a:TJo}:FO (F_q4a a) 189 [(TJo.d a)] [] (fun x=>(TJo.d x)) NL:=fO (s:=S_q4a a) Tryz.func189
def S_q62 (d:TJo):SC TJo TJo :=
.reg 0 [] [(1,{ obs:=[(1,(TJo.b (⟨0,[],0⟩:TJo)))] })] [.pf cz2]<|
.a 1 1 2 (@F_q38_ok d) fun e=>
.cut none [1,2] (fun (_:TJo)=>[]) (fun c=>[(0,(TJo.b c))]) (
.ite e (
.r (.next (⟨d.Z,d.M,(d.M.length:Int)⟩:TJo))) (
.r (.next d))) fun c=>
.a 3 1 2 (@F_q4a_ok c) fun f=>
.r f
def F_q62 (a:TJo):=(S_q62 a).den
theorem F_q62_ok {a:TJo}:FO (F_q62 a) 138 [(TJo.d a)] [] (fun x=>(TJo.d x)) NL:=fO (s:=S_q62 a) Tryz.func138
def S_q63 (c:TJo):SC TJo TJo :=
.reg 0 [] [(1,{ obs:=[(1,(TJo.b (⟨0,[],0⟩:TJo)))] })] [.pf cz2]<|
.a 1 1 2 (@F_q38_ok c) fun h=>
.cut none [1,2] (fun (_:TJo)=>[]) (fun f=>[(0,(TJo.b f))]) (
.ite h (
.guard [(0:Int)<=c.Af,c.Af.toNat<=c.M.length]<|
 let g:=(c.M.take c.Af.toNat)
.reg 2 [] [(4,hv (AV.d (eL TOp.e g)))] [.ev 0,.ev 1,.der (fun (h0:c.Af.toNat<=c.M.length)=>lvT TOp.e c.M h0) 1]<|
.r (.next (⟨c.Z,g,c.Af⟩:TJo))) (
.r (.next c))) fun f=>
.a 3 1 2 (@F_q4a_ok f) fun i=>
.r i
def F_q63 (a:TJo):=(S_q63 a).den
theorem F_q63_ok {a:TJo}:FO (F_q63 a) 139 [(TJo.d a)] [] (fun x=>(TJo.d x)) NL:=fO (s:=S_q63 a) Tryz.func139
def S_q3f (c:TJo):SC (TOf×Int) (TOf×Int) :=
 let f:=(⟨0,[],(⟨[],[],[],[]⟩:TBo)⟩:TOf)
.reg 0 [] [(1,{ obs:=[(1,(TOf.b f))] })] [.pf z19]<|
.a 1 1 2 (@F_q38_ok c) fun j=>
.ite (!j) (
.reg 2 [] [(0,hv (TOf.d f))] [.pf z1n]<|
.r (f,1)) (
 let h:=(c.M.take c.Af.toNat)
.call (@F_qs_ok c.Z h) fun i g=>
.guard [(0:Int)<=c.Af,c.Af.toNat<=c.M.length]<|
.reg 3 [12,13] [(6,hv (AV.d (eL TOp.e h))),(7,hc g [] true),(12,{ obs:=[(2,(TOf.b f))] })] [.ev 0,.ev 1,.der (fun (h0:c.Af.toNat<=c.M.length)=>lvT TOp.e c.M h0) 1,.ev 0,.ev 1,.der (fun (h0:c.Af.toNat<=c.M.length)=>lvT TOp.e c.M h0) 1,.cl 2 g [] 2 true,.cl 2 g [] 3 true,.pf z19]<|
.r (i.1,i.2.2))
def F_q3f (a:TJo):=(S_q3f a).den
theorem F_q3f_ok {a:TJo}:FO (F_q3f a) 96 [(TJo.d a)] [] (fun x=>(Rg [(TOf.d x.1),(vi x.2)])) NL:=fO (s:=S_q3f a) Tryz.func96
end
end Go.Proofs.YtkhgaalekilaeaaGreatDoor
