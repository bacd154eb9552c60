/- A part of the proof: what the functions compute, and that their calls return it. No condition. -/
import Derived.Test.YtkhgaalekilaeaaGreatDoorG5
/- What the functions compute, and that their calls return it. No condition. -/
namespace Go.Proofs.YtkhgaalekilaeaaGreatDoor
open Go Go.TA
open Go.IntKind (i64)
noncomputable section
set_option maxRecDepth 100000
def S_qt_b1 (h:TOf) (c:Nat) (_:Unit):SC Bool (Step Unit Bool) :=
.reg 5 [] [] [.w c,.ev 0]<|
 let e:=(h.L.getD c dF)
.call (@F_q3o_ok e) fun a f=>
 let b:=(decide ((c:Int)>0))
 let d:=(i64.wrap ((c:Int)-1))
.calld [b=true,(!a)=false] dF (@F_q3p_ok (h.L.getD d.toNat dF) e) fun i g =>
.guard [AllP [b=true,(!a)=false]->((0:Int)<=d),AllP [b=true,(!a)=false]->(d.toNat<h.L.length)]<|
.reg 6 [] [(1,hc f [] true),(14,hc g [] true)] [.cl 4 f [] 2 true,.ev 0,.ev 1,.clg 2 [b=true,(!a)=false] g [] 2 true]<|
.ite (cO (!a) (bif b then (decide (i>=0)) else false)) (
.r (.ret false)) (
.r (.cont ()))
def S_qt_b2 (f:TOf) (c:Nat) (_:Unit):SC Bool (Step Unit Bool) :=
.reg 11 [] [] [.w c,.ev 0]<|
 let a:=(f.Ag.C.getD c dF)
.call (@F_q3n_ok f a.B a.D) fun b d=>
.calld [(!b)=false] dF (@F_q49_ok f a.B a.D) fun g e =>
.reg 12 [] [(5,hc d [] true),(13,hc e [] true)] [.cl 2 d [] 2 true,.clg 0 [(!b)=false] e [] 2 true]<|
.ite (cO (!b) (decide (g<0))) (
.r (.ret false)) (
.r (.cont ()))
def S_qt (a:TOf):SC Bool Bool :=
 let b:=(cO (cO (decide (a.Q<1)) (decide (a.Q>6))) (decide ((a.L.length:Int)>60)))
.calld [b=false] dF (@F_q26_ok a.Ag) fun d c =>
.reg 1 [] [(17,hc c [] true)] [.clg 0 [b=false] c [] 1 true]<|
.ite (cO b (!d)) (
.r false) (
.range (a.L.length:Int) a.L.length rfl (.slot 28) 30 [1,28,29] (fun (_:Unit)=>[]) (fun _=>[]) () (S_qt_b1 a) (fun _ => 
.range (a.Ag.C.length:Int) a.Ag.C.length rfl (.slot 56) 58 [1,56,57] (fun (_:Unit)=>[]) (fun _=>[]) () (S_qt_b2 a) (fun _ => 
.r true) id) id)
def F_qt (a:TOf):=(S_qt a).den
theorem F_qt_ok {a:TOf}:FO (F_qt a) 174 [(TOf.d a)] [] vb NL:=fO (s:=S_qt a) Tryz.func174
def S_q64 (b:TOf) (f:Y8) (g:Int):SC (TMe×Int) (TMe×Int) :=
.a 1 1 2 (@F_qt_ok b) fun h=>
 let c:=(⟨0,0,[],0,0,0,0,0⟩:TMe)
.ite (!h) (
.r (c,1)) (
.a 3 3 2 (@F_q3n_ok b f g) fun i=>
.ite (!i) (
.r (c,6)) (
.call (@F_q20_ok b f g) fun j d=>
.call (@F_q1p_ok b.Ag f g) fun k e=>
.reg 5 [15] [(7,hc d [] true),(13,hc e [] true)] [.cl 1 d [] 2 true,.cl 0 e [] 2 true]<|
.r ((⟨b.Q,0,f,g,0,0,j.S,k⟩:TMe),0)))
def F_q64 (a:TOf) (b:Y8) (c:Int):=(S_q64 a b c).den
theorem F_q64_ok {a:TOf} {b:Y8} {c:Int}:FO (F_q64 a b c) 140 [(TOf.d a),(AV.d (Rf b)),(vi c)] [] (fun x=>(Rg [(TMe.d x.1),(vi x.2)])) NL:=fO (s:=S_q64 a b c) Tryz.func140
def S_q65 (h:TWo) (c:TSt):SC (TWo×Int) (TWo×Int) :=
 let e:=(⟨(⟨0,[]⟩:TTr),[],[]⟩:TWo)
.reg 0 [] [(2,{ obs:=[(2,(TWo.b e))] })] [.pf cz4]<|
.a 1 5 3 (@F_q1d_ok c.Z 1 (h.J.length:Int)) fun x=>
 let j:=(0,hv (TWo.d e))
.ite (!x) (
.reg 2 [] [j] [.pf cz5]<|
.r (e,6)) (
 let i:=(i64.wrap (c.Z-1))
.guard [(0:Int)<=i,i.toNat<h.J.length]<|
 let k:=(TJo.b (⟨0,[],0⟩:TJo))
.reg 3 [] [(7,{ obs:=[(3,k)] })] [.ev 0,.ev 1,.pf cz2]<|
 let f:=(h.J.getD i.toNat dF)
.ite (c.U==5) (
.ite (c.Op.U==8) (
.reg 7 [] [j] [.pf cz5]<|
.r (e,9)) (
.call (@F_q4y_ok f c.Op) fun l m=>
.reg 8 [] [(3,hc m [] true),(7,{ obs:=[(4,k)] })] [.cl 0 m [] 4 true,.pf cz2]<|
.a 9 3 5 (@F_q3v_ok h l.1 l.2) fun n=>
.r (n.1,n.2))) (
.ite (c.U==6) (
.call (@F_q62_ok f) fun y o=>
.call (@F_q3v_ok h y 0) fun p q=>
.reg 11 [6] [(2,hc o [] true),(3,hc q [] true)] [.cl 1 o [] 4 true,.cl 0 q [] 4 true]<|
.r (p.1,p.2)) (
.ite (c.U==7) (
.call (@F_q63_ok f) fun z s=>
.call (@F_q3v_ok h z 0) fun t u=>
.reg 13 [6] [(2,hc s [] true),(3,hc u [] true)] [.cl 1 s [] 4 true,.cl 0 u [] 4 true]<|
.r (t.1,t.2)) (
.call (@F_q3f_ok f) fun A v=>
.reg 14 [] [(1,hc v [] true),(5,{ obs:=[(4,(TOf.b (⟨0,[],(⟨[],[],[],[]⟩:TBo)⟩:TOf)))] })] [.cl 0 v [] 4 true,.pf z19]<|
.a 15 5 5 (@F_q64_ok A.1 c.B c.D) fun w=>
.a 16 3 6 (@F_q44_ok h w.1 w.2) fun g=>
.r (g.1,g.2)))))
def F_q65 (a:TWo) (b:TSt):=(S_q65 a b).den
theorem F_q65_ok {a:TWo} {b:TSt}:FO (F_q65 a b) 87 [(TWo.d a),(TSt.d b)] [] (fun x=>(Rg [(TWo.d x.1),(vi x.2)])) NL:=fO (s:=S_q65 a b) Tryz.func87
abbrev R_q50:=Int×(List Int)×(List Int)
def S_q50 (p0_0:Nat) (p0_1:(List TPo)) (_:Y8) (_:Int) (_:Int) (d:TMe) (j:(List Int)) (b:(List Int)) (_:(List Int)) (f:(List Int)):SC R_q50 R_q50 :=
.call (@F_qj_ok d.Aa 1 (b.length:Int)) fun o k=>
.guard [p0_0<p0_1.length]<|
.reg 2 [] [(7,hc k [] true)] [.e p0_1.length,.e p0_1.length,.ev 0,.pf (p:=decide (p0_0=p0_0)=true) (yb rfl),.cl 1 k [] 6 true]<|
.ite (!o) (
.r (6,b,f)) (
 let c:=(i64.wrap (d.Aa-1))
 let a:=(0+c.toNat)
.call (@F_qj_ok d.S 0 (j.getD a dF)) fun g m=>
.calld [(!g)=false] dF (@F_q1w_ok d.P) fun q n =>
.guard [(0:Int)<=c,c.toNat<j.length,a<j.length]<|
.reg 4 [] [(9,hc m [] true),(14,hc n [] true)] [.e p0_1.length,.e p0_1.length,.ev 7,.pf (p:=decide (p0_0=p0_0)=true) (yb rfl),.e j.length,.ev 0,.ev 1,.e j.length,.ev 2,.cl 5 m [] 6 true,.clg 3 [(!g)=false] n [] 6 true]<|
.ite (cO (!g) (!q)) (
.r (2,b,f)) (
.guard [c.toNat<b.length,a<b.length,c.toNat<f.length,a<f.length]<|
 let h:=(if d.S>(b.getD a dF) then d.S else (b.getD a dF))
.reg 6 [23,25] [(23,{ obs:=[(3,(eQ (b.set a h)))] }),(25,{ obs:=[(5,(eQ (f.set a d.P)))] })] [.e p0_1.length,.e p0_1.length,.ev 12,.pf (p:=decide (p0_0=p0_0)=true) (yb rfl),.e p0_1.length,.e p0_1.length,.ev 12,.pf (p:=decide (p0_0=p0_0)=true) (yb rfl),.e p0_1.length,.e p0_1.length,.ev 12,.pf (p:=decide (p0_0=p0_0)=true) (yb rfl),.e b.length,.ev 5,.ev 0,.e b.length,.ev 1,.e b.length,.ev 5,.ev 0,.e b.length,.ev 1,.pf (zo (sz:=1) (e:=Ra) (l:=b) (i:=a) (x:=h) (fun _=>rfl)),.e f.length,.ev 5,.ev 2,.e f.length,.ev 3,.pf (zo (sz:=1) (e:=Ra) (l:=f) (i:=a) (x:=d.P) (fun _=>rfl))]<|
.r (0,(b.set a h),(f.set a d.P))))
def F_q50 (p0_0:Nat) (p0_1:(List TPo)) (p0_2:Y8) (p0_3:Int) (p0_4:Int) (a:TMe) (b:(List Int)) (c:(List Int)) (d:(List Int)) (e:(List Int)):=(S_q50 p0_0 p0_1 p0_2 p0_3 p0_4 a b c d e).den
theorem F_q50_ok {p0_0:Nat} {p0_1:(List TPo)} {p0_2:Y8} {p0_3:Int} {p0_4:Int} {h:TMe} {a:(List Int)} {f:(List Int)} {c:(List Int)} {g:(List Int)}:FO (F_q50 p0_0 p0_1 p0_2 p0_3 p0_4 h a f c g) 226 [(Ri 0 p0_1.length [.x p0_0 7]),(vp 1)] [(opS 7 TPo.e p0_0 (Rc [(AV.d (Rf p0_2)),(vi p0_3),(vi p0_4),(Rb 2 a.length 0 a.length),(Rb 3 f.length 0 f.length),(Rb 4 c.length 0 c.length),(Rb 5 g.length 0 g.length)]) p0_1),(TMe.b h),(eQ a),(eQ f),(eQ c),(eQ g)] (fun x=>(vi x.1)) (fun x=>[(opS 7 TPo.e p0_0 (Rc [(AV.d (Rf p0_2)),(vi p0_3),(vi p0_4),(Rb 2 a.length 0 a.length),(Rb 3 f.length 0 f.length),(Rb 4 c.length 0 c.length),(Rb 5 g.length 0 g.length)]) p0_1),(TMe.b h),(eQ a),(eQ x.2.1),(eQ c),(eQ x.2.2)]):=fO (s:=S_q50 p0_0 p0_1 p0_2 p0_3 p0_4 h a f c g) Tryz.func226
def S_q7p (J:TTr) (N:Y8) (O:Int) (M:TMe):SC (TTr×Int) (TTr×Int) :=
.reg 0 [] [(1,{ obs:=[(2,(TTr.b (⟨0,[]⟩:TTr)))] })] [.pf cz7]<|
.a 1 1 3 (@F_qx_ok J) fun K=>
 let z:=(TTr.d (⟨0,[]⟩:TTr))
.ite (!K) (
.reg 2 [] [(0,hv z)] [.pf cz8]<|
.r ((⟨0,[]⟩:TTr),1)) (
.a 3 3 3 (@F_q3k_ok J N O) fun v=>
.ite (decide (v<0)) (
.reg 5 [] [(0,hv z)] [.pf cz8]<|
.r ((⟨0,[]⟩:TTr),6)) (
 let j:=v.toNat
.call (@F_q1y_ok J j) fun f L=>
.k 6 1 L [] 3 false<|
.kill 4<|
 let c:=(f.2.getD j dF)
.call (@F_q50_ok j f.2 c.B c.D c.T M c.A c.H c.G c.P) fun g C=>
.guard [(0:Int)<=v,v.toNat<f.2.length]<|
 let y:=(Ri 5 f.2.length [.x j 7])
.reg 7 [] [(4,hv y),(5,hc C [5,0,6,7,8,9] false)] [.e f.2.length,.ev 0,.ev 1,.pf (p:=LeV (Ri 5 f.2.length [.x (0+j) 7]) y) z5c,.cl 2 C [5,0,6,7,8,9] 10 false]<|
.ite (g.1 != 0) (
.reg 9 [] [(0,hv z)] [.pf cz8]<|
.r ((⟨0,[]⟩:TTr),g.1)) (
.reg 10 [] [] []<|
.guard [g.2.1.length=c.H.length/\g.2.2.length=c.P.length]<|
 let l:=(TMe.b M)
 let o:=(eQ c.A)
 let q:=(eQ g.2.1)
 let s:=(eQ c.G)
 let t:=(eQ g.2.2)
 let u:=(AV.d (Rf c.B))
.cst (A:=g.2.1.length=c.H.length/\g.2.2.length=c.P.length) (.ev 0) [(8,(vp 2)),(9,(vi 0))] [(8,(vp 2)),(9,(vi 0))] [l,(Rd (Rc [(vi f.1),(Rb 5 f.2.length 0 f.2.length)])),(Rd (Rc [(vi f.1),(Rb 5 f.2.length 0 f.2.length)])),Re,Re,(opS 7 TPo.e j (Rc [u,(vi c.D),(vi c.T),(Rb 6 c.A.length 0 c.A.length),(Rb 7 c.H.length 0 c.H.length),(Rb 8 c.G.length 0 c.G.length),(Rb 9 c.P.length 0 c.P.length)]) f.2),o,q,s,t] [l,(Rd (Rc [(vi f.1),(Rb 5 f.2.length 0 f.2.length)])),(Rd (Rc [(vi f.1),(Rb 5 f.2.length 0 f.2.length)])),Re,Re,(opS 7 TPo.e j (Rc [u,(vi c.D),(vi c.T),(Rb 6 c.A.length 0 c.A.length),(Rb 7 g.2.1.length 0 g.2.1.length),(Rb 8 c.G.length 0 c.G.length),(Rb 9 g.2.2.length 0 g.2.2.length)]) f.2),o,q,s,t] (fun h=>⟨rfl,by rw[h.1,h.2]⟩)<|
.guard [c.A.length<2 ^ 63/\g.2.1.length<2 ^ 63/\c.G.length<2 ^ 63/\g.2.2.length<2 ^ 63]<|
 let E:=(⟨c.B,c.D,c.T,c.A,g.2.1,c.G,g.2.2⟩:TPo)
 let m:=(f.2.set j E)
 let n:=(Rc [(vi f.1),(Rb 5 f.2.length 0 f.2.length)])
 let F:=[l,(Rd n),(Rd n),Re,Re,(eS 7 TPo.e m),Re,Re,Re,Re]
 let w:=[(8,(vp 2)),(9,(vi 0))]
.sh (A:=c.A.length<2 ^ 63/\g.2.1.length<2 ^ 63/\c.G.length<2 ^ 63/\g.2.2.length<2 ^ 63) (.ev 0) w w [l,(Rd n),(Rd n),Re,Re,(opS 7 TPo.e j (Rc [u,(vi c.D),(vi c.T),(Rb 6 c.A.length 0 c.A.length),(Rb 7 g.2.1.length 0 g.2.1.length),(Rb 8 c.G.length 0 c.G.length),(Rb 9 g.2.2.length 0 g.2.2.length)]) f.2),o,q,s,t] F (fun h=>z1k oTApiPot (P:=[l,(Rd n),(Rd n),Re,Re]) (D:=[]) rfl (⟨c.B,c.D,c.T,[],[],[],[]⟩:TPo) E h rfl) (z17 _)<|
 let I:=(Rc [(vi f.1),(Rb 5 m.length 0 m.length)])
.cst (A:=True) (.pf trivial) w w F [l,(Rd I),(Rd I),Re,Re,(eS 7 TPo.e m),Re,Re,Re,Re] (fun _=>⟨Zd,Zb⟩)<|
.guard [m.length<2 ^ 63]<|
.frz 5 (.ev 0) none [] [1,2]<|
.r ((⟨f.1,m⟩:TTr),0))))
def F_q7p (a:TTr) (b:Y8) (c:Int) (d:TMe):=(S_q7p a b c d).den
theorem F_q7p_ok {c:TTr} {e:Y8} {f:Int} {a:TMe}:FO (F_q7p c e f a) 185 [(TTr.d c),(AV.d (Rf e)),(vi f),(AV.fn 226 [(vp 0)])] [(TMe.b a)] (fun x=>(Rg [(TTr.d x.1),(vi x.2)])) (fun _=>[(TMe.b a)]):=fO (s:=S_q7p c e f a) Tryz.func185
def S_q66 (f:TTr) (c:TMe):SC (TTr×Int) (TTr×Int) :=
.reg 0 [] [(2,{ obs:=[(2,(TTr.b (⟨0,[]⟩:TTr)))] })] [.pf cz7]<|
.ite (c.To != 0) (
.reg 2 [] [(0,hv (TTr.d (⟨0,[]⟩:TTr)))] [.pf cz8]<|
.r ((⟨0,[]⟩:TTr),1)) (
.call (@F_q7p_ok f c.B c.D c) fun a e=>
.k 3 6 e [1] 3 true<|
.r (a.1,a.2))
def F_q66 (a:TTr) (b:TMe):=(S_q66 a b).den
theorem F_q66_ok {a:TTr} {b:TMe}:FO (F_q66 a b) 192 [(TTr.d a),(TMe.d b)] [] (fun x=>(Rg [(TTr.d x.1),(vi x.2)])) NL:=fO (s:=S_q66 a b) Tryz.func192
def S_q67 (a:(List TMe)):SC (List TMe) (List TMe) :=
.reg 0 [] [] []<|
.nils 0 (
.guard [a.length * (2 * 72)<=2 ^ 48]<|
.reg 1 [] [] []<|
.lev 0 (AV.d (eL TMe.e a)) (.pf (lvQ true a.length fun j=>(TMe.e (a.getD j dF))))<|
.br true (.pf (p:=true=true) rfl)<|
.reg 2 [] [] []<|
.bor 8 (fun j=>AV.d (TMe.e (a.getD j dF))) [2]<|
.cst (A:=a.length=0) (.ev 1) [(2,Rb 0 0 0 0)] [(2,(Rb 0 a.length 0 a.length))] [(Ob.seq 8 0 fun j=>AV.d (TMe.e (a.getD j dF)))] [(eS 8 TMe.e a)] (fun h=>⟨by rw[h],by unfold eS; rw[h]⟩)<|
.r a) (
.reg 1 [] [] []<|
.lev 0 (AV.d (eL TMe.e a)) (.pf (lvQ false a.length fun j=>(TMe.e (a.getD j dF))))<|
.br false (.pf (p:=false=false) rfl)<|
.guard [a.length * (2 * 72)<=2 ^ 48]<|
.reg 3 [] [(2,{ h:=.obj })] [.pf (p:=∀ k,k<a.length->(TMe.d (a.getD k dF)).wd=8) (fun _ _=>rfl),.ev 0]<|
.r a)
def F_q67 (a:(List TMe)):=(S_q67 a).den
theorem F_q67_ok {a:(List TMe)}:FO (F_q67 a) 91 [(AV.d (eL TMe.e a))] [] (fun x=>(Rb 0 x.length 0 x.length)) (fun x=>[(eS 8 TMe.e x)]):=fO (s:=S_q67 a) Tryz.func91
def S_q68 (q:Int) (o:Int) (a:(List TMe)):SC (List TMe) (List TMe) :=
.guard [(0:Int)<=q,(0:Int)<=o,q.toNat<=o.toNat,o.toNat<=a.length]<|
.reg 1 [] [] [.ev 0,.ev 1,.ev 2,.ev 3,.e a.length,.pf (nn a.length),.ev 3,.pf (p:=a.length<=a.length) (yf _)]<|
.ite (q==o) (
.guard [a.length<2 ^ 63]<|
.reg 3 [] [] []<|
.frz 0 (.ev 0) none [6] []<|
.r a) (
 let c:=(a.length-o.toNat)
 let f:=(q.toNat-0)
.guard [q.toNat<=a.length,f+c<=a.length]<|
 let g:=(0+o.toNat)
.reg 5 [6] [(6,{ h:=.imm,obs:=[(0,(eS 8 TMe.e (copyL a f c (fun i=>(a.getD (g+i) dF)))))] })] [.ev 3,.ev 0,.e a.length,.ev 4,.ev 6,.e a.length,.e a.length,.e a.length,.ev 1,.pf (p:=∀ k,k<c->(TMe.d (a.getD (g+k) dF)).wd=8) (fun _ _=>rfl),.pf (z9e (sz:=8) (e:=TMe.e) (l:=a) (off:=f) (k:=c) (s:=(fun i=>(a.getD (g+i) dF))))]<|
 let b:=(f+c)
 let t:=(7,(vi (a.length:Int)))
.cst (A:=True) (.pf trivial) [(0,(Rb 0 a.length 0 b)),t] [(0,(Rb 0 ((copyL a f c (fun i=>(a.getD (g+i) dF))).length) 0 b)),t] [(eS 8 TMe.e (copyL a f c (fun i=>(a.getD (g+i) dF))))] [(eS 8 TMe.e (copyL a f c (fun i=>(a.getD (g+i) dF))))] (fun _=>⟨by simp +zetaDelta only[zt],by rfl⟩)<|
.guard [b<=a.length,a.length<=(copyL a f c (fun i=>(a.getD (g+i) dF))).length]<|
 let j:=(⟨0,0,[],0,0,0,0,0⟩:TMe)
 let m:=(a.length-b)
.reg 6 [] [(5,{ obs:=[(0,(eS 8 TMe.e (clearL (copyL a f c (fun i=>(a.getD (g+i) dF))) (0+b) m j)))] })] [.w b,.pf (nn a.length),.ev 0,.ev 1,.pf (y2h ((copyL a f c (fun i=>(a.getD (g+i) dF))).length)),.pf (y2h ((copyL a f c (fun i=>(a.getD (g+i) dF))).length)),.pf (zgn (sz:=8) (e:=TMe.e) (l:=(copyL a f c (fun i=>(a.getD (g+i) dF)))) (off:=(0+b)) (n:=m) (z:=j))]<|
.cst (A:=True) (.pf trivial) [(0,(Rb 0 ((copyL a f c (fun i=>(a.getD (g+i) dF))).length) 0 b))] [(0,(Rb 0 ((clearL (copyL a f c (fun i=>(a.getD (g+i) dF))) (0+b) m j).length) 0 b))] [(eS 8 TMe.e (clearL (copyL a f c (fun i=>(a.getD (g+i) dF))) (0+b) m j))] [(eS 8 TMe.e (clearL (copyL a f c (fun i=>(a.getD (g+i) dF))) (0+b) m j))] (fun _=>⟨by simp +zetaDelta only[z1r,zt],by rfl⟩)<|
.guard [(clearL (copyL a f c (fun i=>(a.getD (g+i) dF))) (0+b) m j).length<2 ^ 63]<|
.reg 7 [] [] []<|
.guard [b<=(clearL (copyL a f c (fun i=>(a.getD (g+i) dF))) (0+b) m j).length]<|
.frz 0 (.ev 1) (some (.der (fun (h:b<=(clearL (copyL a f c (fun i=>(a.getD (g+i) dF))) (0+b) m j).length)=>(h:b<=(clearL (copyL a f c (fun i=>(a.getD (g+i) dF))) (0+b) m j).length)) 0)) [6] []<|
.lev 6 (AV.d (eL TMe.e ((clearL (copyL a f c (fun i=>(a.getD (g+i) dF))) (0+b) m j).take b))) (.der (fun (h:b<=(clearL (copyL a f c (fun i=>(a.getD (g+i) dF))) (0+b) m j).length)=>lvT TMe.e (clearL (copyL a f c (fun i=>(a.getD (g+i) dF))) (0+b) m j) h) 0)<|
.r ((clearL (copyL a f c (fun i=>(a.getD (g+i) dF))) (0+b) m j).take b))
def F_q68 (a:Int) (b:Int) (c:(List TMe)):=(S_q68 a b c).den
theorem F_q68_ok {b:Int} {c:Int} {a:(List TMe)}:FO (F_q68 b c a) 193 [(Rb 0 a.length 0 a.length),(vi b),(vi c)] [(eS 8 TMe.e a)] (fun x=>(AV.d (eL TMe.e x))) (fun _=>[Re]):=fO (s:=S_q68 b c a) Tryz.func193
def S_q4b (d:TWo) (g:Int):SC TWo TWo :=
.reg 0 [] [(1,{ obs:=[(1,(TWo.b (⟨(⟨0,[]⟩:TTr),[],[]⟩:TWo)))] })] [.pf cz4]<|
.call (@F_q67_ok d.N) fun e a=>
.call (@F_q68_ok g (i64.wrap (g+1)) e) fun f c=>
.reg 1 [] [(2,hc a [] false),(6,hc c [2] false)] [.cl 1 a [] 2 false,.cl 0 c [2] 3 false]<|
.r (⟨d.K,d.J,f⟩:TWo)
def F_q4b (a:TWo) (b:Int):=(S_q4b a b).den
theorem F_q4b_ok {a:TWo} {b:Int}:FO (F_q4b a b) 142 [(TWo.d a),(vi b)] [] (fun x=>(TWo.d x)) NL:=fO (s:=S_q4b a b) Tryz.func142
def S_q69 (e:TWo) (j:Int):SC (TWo×Int) (TWo×Int) :=
 let f:=(⟨(⟨0,[]⟩:TTr),[],[]⟩:TWo)
.reg 0 [] [(1,{ obs:=[(1,(TWo.b f))] })] [.pf cz4]<|
.guard [(0:Int)<=j,j.toNat<e.N.length]<|
.reg 1 [] [] [.ev 0,.ev 1]<|
 let c:=(e.N.getD j.toNat dF)
.ite (c.To==0) (
.call (@F_q66_ok e.K c) fun g k=>
.reg 3 [] [(3,hc k [] true),(7,{ obs:=[(3,(TTr.b (⟨0,[]⟩:TTr)))] })] [.cl 0 k [] 3 true,.pf cz7]<|
.ite (g.2 != 0) (
.reg 5 [] [(0,hv (TWo.d f))] [.pf cz5]<|
.r (f,g.2)) (
.a 7 2 4 (@F_q4b_ok (⟨g.1,e.J,e.N⟩:TWo) j) fun p=>
.r (p,0))) (
 let h:=(i64.wrap (c.To-1))
.call (@F_q4y_ok (e.J.getD h.toNat dF) (⟨8,c.B,c.D,0,0,0,0,0,c.A,c.G⟩:TOp)) fun l i=>
.guard [(0:Int)<=h,h.toNat<e.J.length]<|
.reg 8 [20,21] [(16,hc i [] true),(20,{ obs:=[(3,(TJo.b (⟨0,[],0⟩:TJo)))] })] [.ev 0,.ev 1,.ev 0,.ev 1,.cl 2 i [] 3 true,.cl 2 i [] 4 true,.pf cz2]<|
.call (@F_q4b_ok e j) fun q m=>
.call (@F_q3v_ok q l.1 l.2) fun n o=>
.reg 9 [8] [(2,hc m [] true),(5,hc o [] true)] [.cl 1 m [] 4 true,.cl 0 o [] 4 true]<|
.r (n.1,n.2))
def F_q69 (a:TWo) (b:Int):=(S_q69 a b).den
theorem F_q69_ok {a:TWo} {b:Int}:FO (F_q69 a b) 141 [(TWo.d a),(vi b)] [] (fun x=>(Rg [(TWo.d x.1),(vi x.2)])) NL:=fO (s:=S_q69 a b) Tryz.func141
def S_q6a (f:TWo) (c:TSt):SC (TWo×Int) (TWo×Int) :=
 let e:=(⟨(⟨0,[]⟩:TTr),[],[]⟩:TWo)
.reg 0 [] [(2,{ obs:=[(2,(TWo.b e))] })] [.pf cz4]<|
.a 1 6 3 (@F_q1d_ok c.Ai 0 (i64.wrap ((f.N.length:Int)-1))) fun j=>
.ite (!j) (
.reg 2 [] [(0,hv (TWo.d e))] [.pf cz5]<|
.r (e,6)) (
.ite (c.U==9) (
.a 5 3 3 (@F_q69_ok f c.Ai) fun g=>
.r (g.1,g.2)) (
.ite (c.U==11) (
.call (@F_q44_ok f (f.N.getD c.Ai.toNat dF) 0) fun h i=>
.guard [(0:Int)<=c.Ai,c.Ai.toNat<f.N.length]<|
.reg 7 [10] [(7,hc i [] true)] [.ev 0,.ev 1,.cl 2 i [] 3 true]<|
.r (h.1,h.2)) (
.a 8 3 3 (@F_q4b_ok f c.Ai) fun k=>
.r (k,0))))
def F_q6a (a:TWo) (b:TSt):=(S_q6a a b).den
theorem F_q6a_ok {a:TWo} {b:TSt}:FO (F_q6a a b) 88 [(TWo.d a),(TSt.d b)] [] (fun x=>(Rg [(TWo.d x.1),(vi x.2)])) NL:=fO (s:=S_q6a a b) Tryz.func88
def S_q4c (l:TWo) (c:TSt):SC (TWo×Int) (TWo×Int) :=
 let e:=(⟨(⟨0,[]⟩:TTr),[],[]⟩:TWo)
.reg 0 [] [(2,{ obs:=[(2,(TWo.b e))] })] [.pf cz4]<|
.cut none [2,3,4,7] (fun (f:Bool)=>[(8,(vb f))]) (fun _=>[]) (
.ite (c.U==1) (
.r (.next (c.U==1))) (
.ite (c.U==2) (
.r (.next (c.U==2))) (
.ite (c.U==3) (
.r (.next (c.U==3))) (
.r (.next (c.U==4)))))) fun f=>
.ite f (
.a 6 2 3 (@F_q5j_ok l c) fun i=>
.r (i.1,i.2)) (
.cut none [2,3,4,7] (fun (g:Bool)=>[(18,(vb g))]) (fun _=>[]) (
.ite (c.U==5) (
.r (.next (c.U==5))) (
.ite (c.U==6) (
.r (.next (c.U==6))) (
.ite (c.U==7) (
.r (.next (c.U==7))) (
.r (.next (c.U==8)))))) fun g=>
.ite g (
.a 11 2 3 (@F_q65_ok l c) fun j=>
.r (j.1,j.2)) (
.cut none [2,3,4] (fun (h:Bool)=>[(28,(vb h))]) (fun _=>[]) (
.ite (c.U==9) (
.r (.next (c.U==9))) (
.ite (c.U==10) (
.r (.next (c.U==10))) (
.r (.next (c.U==11))))) fun h=>
.ite h (
.a 15 2 3 (@F_q6a_ok l c) fun k=>
.r (k.1,k.2)) (
.reg 16 [] [(0,hv (TWo.d e))] [.pf cz5]<|
.r (e,1))))
def F_q4c (a:TWo) (b:TSt):=(S_q4c a b).den
theorem F_q4c_ok {a:TWo} {b:TSt}:FO (F_q4c a b) 38 [(TWo.d a),(TSt.d b)] [] (fun x=>(Rg [(TWo.d x.1),(vi x.2)])) NL:=fO (s:=S_q4c a b) Tryz.func38
theorem zwo:∀ k,k<0->(DV.b false).wd=8:=fun _ h=>absurd h (y3k _)
def S_q6b (a:(List TMe)):SC (List TMe) (List TMe) :=
.reg 0 [] [] []<|
 let b:=(AV.d (eL TMe.e a))
.nils 0 (
.guard [(0+a.length) * (2 * 72)<=2 ^ 48]<|
.reg 1 [] [] []<|
.lev 0 b (.pf (lvQ true a.length fun j=>(TMe.e (a.getD j dF))))<|
.br true (.pf (p:=true=true) rfl)<|
.reg 2 [] [] []<|
.lev 2 b (.der (fun (h:a.length=0)=>lvZ TMe.e a h) 1)<|
.r a) (
.reg 1 [] [] []<|
.lev 0 b (.pf (lvQ false a.length fun j=>(TMe.e (a.getD j dF))))<|
.br false (.pf (p:=false=false) rfl)<|
.guard [(0+a.length) * (2 * 72)<=2 ^ 48]<|
.reg 3 [] [(2,hv b)] [.pf (p:=∀ k,k<a.length->AV.d (TMe.e (a.getD k dF))=AV.d (TMe.e (a.getD k dF))/\(TMe.e (a.getD k dF)).wd=8) (fun _ _=>⟨rfl,rfl⟩),.pf zwo,.ev 0,.pf (z3s (e:=TMe.e) (x:=a))]<|
.r a)
def F_q6b (a:(List TMe)):=(S_q6b a).den
theorem F_q6b_ok {a:(List TMe)}:FO (F_q6b a) 91 [(AV.d (eL TMe.e a))] [] (fun x=>(AV.d (eL TMe.e x))) NL:=fO (s:=S_q6b a) Tryz.func91
end
end Go.Proofs.YtkhgaalekilaeaaGreatDoor
/- What the functions compute,and that their calls return it. No condition. -/
namespace Go.Proofs.YtkhgaalekilaeaaGreatDoor
open Go Go.TA
open Go.IntKind (i64)
noncomputable section
set_option maxRecDepth 100000
def S_qp_b1 (v:TWo) (i:Nat) (a:Int×(List TJo)×(List TMe)×(List TPo)):SC TWo (Step (Int×(List TJo)×(List TMe)×(List TPo)) TWo) :=
.reg 5 [] [(2,{ obs:=[(3,(TPo.b (⟨[],0,0,[],[],[],[]⟩:TPo)))] })] [.w i,.ev 0,.pf cz1]<|
 let f:=(v.K.E.getD i dF)
.call (@F_q1x_ok f.A) fun r j=>
.call (@F_q1x_ok f.H) fun s m=>
.call (@F_q1x_ok f.G) fun t n=>
.call (@F_q1x_ok f.P) fun u q=>
.reg 6 [13,15,17,19] [(2,hc j [] true),(5,hc m [] true),(8,hc n [] true),(11,hc q [] true)] [.cl 3 j [] 4 true,.cl 2 m [] 4 true,.cl 1 n [] 4 true,.cl 0 q [] 4 true]<|
.guard [(a.2.2.2.length+1) * (2 * 128)<=2 ^ 48]<|
 let g:=([(⟨f.B,f.D,f.T,r,s,t,u⟩:TPo)]:List TPo)
 let h:=(a.2.2.2++g)
.reg 7 [] [(4,hv (AV.d (eL TPo.e g))),(5,{ cast:=some (Rb 2 h.length 0 h.length),obs:=[(2,(eS 7 TPo.e h))] })] [.pf (za TPo.e g),.e a.2.2.2.length,.e a.2.2.2.length,.pf (p:=∀ k,k<1->(TPo.d (g.getD k dF)).wd=7) (fun _ _=>rfl),.ev 0,.pf (zy (o:=2) (l:=a.2.2.2) (x:=g)),.pf (z12 (sz:=7) (e:=TPo.e) (l:=a.2.2.2) (x:=g))]<|
.c (a.1,a.2.1,a.2.2.1,h)
def S_qp_b2 (m:Int×(List TJo)×(List TMe)×(List TPo)) (j:Nat) (f:Int×(List TMe)×(List TJo)):SC TWo (Step (Int×(List TMe)×(List TJo)) TWo) :=
.reg 13 [] [(2,{ obs:=[(4,(TJo.b (⟨0,[],0⟩:TJo)))] })] [.w j,.ev 0,.pf cz2]<|
 let i:=(m.2.1.getD j dF)
.a 14 2 5 (@F_q4z_ok i.M) fun n=>
.guard [(f.2.2.length+1) * (2 * 40)<=2 ^ 48]<|
 let g:=([(⟨i.Z,n,i.Af⟩:TJo)]:List TJo)
 let h:=(f.2.2++g)
.reg 15 [] [(3,hv (AV.d (eL TJo.e g))),(4,{ cast:=some (Rb 3 h.length 0 h.length),obs:=[(3,(eS 3 TJo.e h))] })] [.pf (za TJo.e g),.e f.2.2.length,.e f.2.2.length,.pf (p:=∀ k,k<1->(TJo.d (g.getD k dF)).wd=3) (fun _ _=>rfl),.ev 0,.pf (zy (o:=3) (l:=f.2.2) (x:=g)),.pf (z12 (sz:=3) (e:=TJo.e) (l:=f.2.2) (x:=g))]<|
.c (f.1,f.2.1,h)
def S_qp (h:TWo):SC TWo TWo :=
 let i:=(TWo.b (⟨(⟨0,[]⟩:TTr),[],[]⟩:TWo))
.reg 0 [] [(1,{ obs:=[(1,i)] })] [.pf cz4]<|
.reg 2 [] [] []<|
 let l:=[(1,(vp 0)),(2,(vp 1)),(3,(AV.d (eL TPo.e h.K.E)))]
 let m:=(AV.full 0 fun _=>DV.b false)
.sh (A:=True) (.pf trivial) l l [(Rd (Rc [(Rc [(vi h.K.O),m]),(AV.d (eL TJo.e h.J)),(AV.d (eL TMe.e h.N))])),i] [(Rd (Rc [(Rc [(vi h.K.O),(Rb 2 0 0 0)]),(AV.d (eL TJo.e h.J)),(AV.d (eL TMe.e h.N))])),i,(eS 7 TPo.e ([]:List TPo))] (fun _=>(z1y (sz:=7) (f:=fun j=>AV.d (TPo.e (([]:List TPo).getD j dF))) (.box _ _ _ _ _ (yw rfl) (TrV.agg (Rk (TrV.agg (Rk (TrV.keep _) (Rk TrV.born TrL.nil))) (Rk (TrV.keep _) (Rk (TrV.keep _) TrL.nil)))) (.keep _ _ _ _ (yw rfl) (.nil _))))) (z1a (k:=0) rfl (Rj _) (z1a (k:=1) rfl (Rj _) (z1a (k:=2) rfl (Rj _) z2l)))<|
.range (h.K.E.length:Int) h.K.E.length rfl (.slot 14) 16 [1,2,14,15] (fun (_:Int×(List TJo)×(List TMe)×(List TPo))=>[]) (fun c=>[(0,(Rd (Rc [(Rc [(vi c.1),(Rb 2 c.2.2.2.length 0 c.2.2.2.length)]),(AV.d (eL TJo.e c.2.1)),(AV.d (eL TMe.e c.2.2.1))]))),(2,(eS 7 TPo.e c.2.2.2))]) (h.K.O,h.J,h.N,([]:List TPo)) (S_qp_b1 h) (fun c => 
.reg 10 [] [] []<|
 let n:=(Rb 2 c.2.2.2.length 0 c.2.2.2.length)
 let o:=[(1,(vp 0)),(2,(vp 1)),(6,(AV.d (eL TJo.e c.2.1)))]
 let p:=(AV.d (eL TMe.e c.2.2.1))
 let q:=(Rc [(vi c.1),n])
.sh (A:=True) (.pf trivial) o o [(Rd (Rc [q,m,p])),i,(eS 7 TPo.e c.2.2.2)] [(Rd (Rc [q,(Rb 3 0 0 0),p])),i,(eS 7 TPo.e c.2.2.2),(eS 3 TJo.e ([]:List TJo))] (fun _=>(z1y (sz:=3) (f:=fun j=>AV.d (TJo.e (([]:List TJo).getD j dF))) (.box _ _ _ _ _ (yw rfl) (TrV.agg (Rk (TrV.keep _) (Rk TrV.born (Rk (TrV.keep _) TrL.nil)))) (.keep _ _ _ _ (yw rfl) (.keep _ _ _ _ (yw rfl) (.nil _)))))) (z1a (k:=0) rfl (Rj _) (z1a (k:=1) rfl (Rj _) (z1a (k:=2) rfl (Rj _) z2l)))<|
.range (c.2.1.length:Int) c.2.1.length rfl (.slot 48) 50 [1,2,48,49] (fun (_:Int×(List TMe)×(List TJo))=>[]) (fun g=>[(0,(Rd (Rc [(Rc [(vi g.1),n]),(Rb 3 g.2.2.length 0 g.2.2.length),(AV.d (eL TMe.e g.2.1))]))),(3,(eS 3 TJo.e g.2.2))]) (c.1,c.2.2.1,([]:List TJo)) (S_qp_b2 c) (fun g => 
.a 17 2 4 (@F_q6b_ok g.2.1) fun s=>
.guard [c.2.2.2.length<2 ^ 63]<|
.reg 18 [] [] []<|
.frz 2 (.ev 0) none [] [0,1]<|
.guard [g.2.2.length<2 ^ 63]<|
.frz 3 (.ev 0) none [] [0,1]<|
.r (⟨(⟨g.1,c.2.2.2⟩:TTr),g.2.2,s⟩:TWo)) id) id
def F_qp (a:TWo):=(S_qp a).den
theorem F_qp_ok {a:TWo}:FO (F_qp a) 39 [(TWo.d a)] [] (fun x=>(TWo.d x)) NL:=fO (s:=S_qp a) Tryz.func39
theorem zvk:LeV (AV.tup [(TWo.d (⟨(⟨0,[]⟩:TTr),[],[]⟩:TWo)),(AV.full 0 fun _=>DV.b false),(vi 3)]) (AV.tup [(TWo.d (⟨(⟨0,[]⟩:TTr),[],[]⟩:TWo)),(vl ([])),(vi 3)]):=LeV.tup (LeVs.cons (LeV.refl _) (LeVs.cons (lvN (DV.i .i64)) (LeVs.cons (LeV.refl _) LeVs.nil)))
abbrev R_qi:=TWo×(List Int)×Int
def S_qi_b1 (q:(List TSt)) (m:Nat) (a:TWo×(List Int)):SC R_qi (Step (TWo×(List Int)) R_qi) :=
.reg 9 [] [] [.w m,.ev 0]<|
.call (@F_q4c_ok a.1 (q.getD m dF)) fun g n=>
.reg 10 [] [(2,hc n [] true),(6,{ obs:=[(4,(TWo.b (⟨(⟨0,[]⟩:TTr),[],[]⟩:TWo)))] })] [.cl 0 n [] 4 true,.pf cz4]<|
.cut none [4,7,9,13,27,28,29] (fun (_:TWo)=>[]) (fun j=>[(1,(TWo.b j))]) (
.ite (g.2==0) (
.r (.next g.1)) (
.r (.next a.1))) fun j=>
.guard [(a.2.length+1) * (2 * 8)<=2 ^ 48]<|
 let f:=([g.2]:List Int)
.reg 13 [] [(2,hv (vl f)),(3,{ h:=.obj,cast:=some (Rb 2 ((a.2++f).length) 0 ((a.2++f).length)),obs:=[(2,(eQ (a.2++f)))] })] [.pf (za Ra f),.e a.2.length,.e a.2.length,.pf (p:=∀ k,k<1->(AV.d (Ra (f.getD k dF))).wd=1) (fun _ _=>rfl),.ev 0,.pf (zy (o:=2) (l:=a.2) (x:=f)),.pf (z12 (sz:=1) (e:=Ra) (l:=a.2) (x:=f))]<|
.c (j,(a.2++f))
def S_qi (m:Int) (k:(List TSt)):SC R_qi R_qi :=
 let e:=(⟨(⟨0,[]⟩:TTr),[],[]⟩:TWo)
.reg 0 [] [(0,{ obs:=[(0,(TWo.b e))] })] [.pf cz4]<|
.call (@F_q13_ok m) fun f h=>
.reg 1 [] [(1,hc h [] true),(5,{ obs:=[(1,(TWo.b e))] })] [.cl 0 h [] 1 true,.pf cz4]<|
 let g:=(TWo.d e)
.ite (f.2 != 0) (
.reg 3 [] [(0,hv g)] [.pf cz5]<|
.ret [.pf (p:=LeV (Rg [g,(AV.full 0 fun _=>DV.b false),(vi f.2)]) (Rg [g,(vl ([])),(vi f.2)])) (LeV.tup (LeVs.cons (LeV.refl _) (LeVs.cons (lvN Ra) (LeVs.cons (LeV.refl _) LeVs.nil))))] (e,[],f.2)) (
.ite (decide ((k.length:Int)>200)) (
.reg 5 [] [(0,hv g)] [.pf cz5]<|
.ret [.pf zvk] (e,[],3)) (
.reg 7 [] [] []<|
.bor 1 (fun j=>AV.d (Ra (([]:List Int).getD j dF))) [9]<|
.range (k.length:Int) k.length rfl (.slot 27) 29 [4,7,27,28] (fun (c:TWo×(List Int))=>[(9,(Rb 2 c.2.length 0 c.2.length))]) (fun c=>[(1,(TWo.b c.1)),(2,(eQ c.2))]) (f.1,([]:List Int)) (S_qi_b1 k) (fun c => 
.a 15 1 3 (@F_qp_ok c.1) fun l=>
.guard [c.2.length<2 ^ 63]<|
.frz 2 (.ev 0) none [5] []<|
.r (l,c.2,0)) id))
def F_qi (a:Int) (b:(List TSt)):=(S_qi a b).den
theorem F_qi_ok {a:Int} {b:(List TSt)}:FO (F_qi a b) 11 [(vi a),(AV.d (eL TSt.e b))] [] (fun x=>(Rg [(TWo.d x.1),(vl x.2.1),(vi x.2.2)])) NL:=fO (s:=S_qi a b) Tryz.func11
theorem zwp:LeV (AV.tup [(AV.full 0 fun _=>DV.b false),(AV.full 0 fun _=>DV.b false),(vb false)]) (AV.tup [(AV.d (eL TOf.e ([]))),(AV.d (eL TOf.e ([]))),(vb false)]):=LeV.tup (LeVs.cons (lvN TOf.e) (LeVs.cons (lvN TOf.e) (LeVs.cons (LeV.refl _) LeVs.nil)))
abbrev R_qb:=(List TOf)×(List TOf)×Bool
def S_qb_b1 (t:TWo) (g:Nat) (a:(List TOf)×(List TOf)):SC R_qb (Step ((List TOf)×(List TOf)) R_qb) :=
.reg 3 [] [(3,{ obs:=[(3,(TJo.b (⟨0,[],0⟩:TJo)))] })] [.w g,.ev 0,.pf cz2]<|
 let i:=(t.J.getD g dF)
.call (@F_q28_ok i) fun j m=>
 let n:=(TOf.b (⟨0,[],(⟨[],[],[],[]⟩:TBo)⟩:TOf))
.reg 4 [] [(1,hc m [] true),(5,{ obs:=[(4,n)] })] [.cl 0 m [] 4 true,.pf z19]<|
.call (@F_q3f_ok i) fun q s=>
.reg 5 [] [(1,hc s [] true),(5,{ obs:=[(5,n)] })] [.cl 0 s [] 5 true,.pf z19]<|
.ite (cO (cO (i.Z != (i64.wrap ((g:Int)+1))) (j.2 != 0)) (q.2 != 0)) (
.ret [.pf zwp] (.ret ([],[],false))) (
.guard [(a.1.length+1) * (2 * 128)<=2 ^ 48,(a.2.length+1) * (2 * 128)<=2 ^ 48]<|
 let c:=([q.1]:List TOf)
 let f:=([j.1]:List TOf)
.reg 8 [3,7] [(2,hv (AV.d (eL TOf.e f))),(3,{ h:=.obj,cast:=some (Rb 1 ((a.1++f).length) 0 ((a.1++f).length)),obs:=[(1,(eS 6 TOf.e (a.1++f)))] }),(6,hv (AV.d (eL TOf.e c))),(7,{ h:=.obj,cast:=some (Rb 2 ((a.2++c).length) 0 ((a.2++c).length)),obs:=[(2,(eS 6 TOf.e (a.2++c)))] })] [.pf (za TOf.e f),.e a.1.length,.e a.1.length,.pf (p:=∀ k,k<1->(TOf.d (f.getD k dF)).wd=6) (fun _ _=>rfl),.ev 0,.pf (zy (o:=1) (l:=a.1) (x:=f)),.pf (z12 (sz:=6) (e:=TOf.e) (l:=a.1) (x:=f)),.pf (za TOf.e c),.pf (za TOf.e c),.e a.2.length,.e a.2.length,.pf (p:=∀ k,k<1->(TOf.d (c.getD k dF)).wd=6) (fun _ _=>rfl),.ev 1,.pf (zy (o:=2) (l:=a.2) (x:=c)),.pf (z12 (sz:=6) (e:=TOf.e) (l:=a.2) (x:=c))]<|
.r (.cont ((a.1++f),(a.2++c))))
def S_qb (b:TWo):SC R_qb R_qb :=
.reg 1 [] [] []<|
.bor 6 (fun j=>AV.d (TOf.e (([]:List TOf).getD j dF))) [2]<|
.bor 6 (fun j=>AV.d (TOf.e (([]:List TOf).getD j dF))) [3]<|
.range (b.J.length:Int) b.J.length rfl (.slot 12) 14 [12,13] (fun (a:(List TOf)×(List TOf))=>[(2,(Rb 1 a.1.length 0 a.1.length)),(3,(Rb 2 a.2.length 0 a.2.length))]) (fun a=>[(1,(eS 6 TOf.e a.1)),(2,(eS 6 TOf.e a.2))]) (([]:List TOf),([]:List TOf)) (S_qb_b1 b) (fun a => 
.guard [a.1.length<2 ^ 63]<|
.reg 10 [] [] []<|
.frz 1 (.ev 0) none [2] []<|
.guard [a.2.length<2 ^ 63]<|
.frz 2 (.ev 0) none [3] []<|
.r (a.1,a.2,true)) id
def F_qb (a:TWo):=(S_qb a).den
theorem F_qb_ok {a:TWo}:FO (F_qb a) 45 [(TWo.d a)] [] (fun x=>(Rg [(AV.d (eL TOf.e x.1)),(AV.d (eL TOf.e x.2.1)),(vb x.2.2)])) NL:=fO (s:=S_qb a) Tryz.func45
def S_q9_b1 (i:TTr) (h:TOf) (f:Nat) (_:Unit):SC Bool (Step Unit Bool) :=
.reg 4 [] [] [.w f,.ev 0]<|
 let d:=(h.L.getD f dF)
.call (@F_q3m_ok i d.B d.D) fun a g=>
.reg 5 [] [(5,hc g [] true),(9,{ obs:=[(4,(TPo.b (⟨[],0,0,[],[],[],[]⟩:TPo)))] })] [.cl 0 g [] 4 true,.pf cz1]<|
 let c:=(i64.wrap (h.Q-1))
 let e:=(cO (!a.2) (decide (d.A>(a.1.A.getD c.toNat dF))))
.guard [AllP [(!a.2)=false]->((0:Int)<=c),AllP [(!a.2)=false]->(c.toNat<a.1.A.length),AllP [e=false]->((0:Int)<=c),AllP [e=false]->(c.toNat<a.1.G.length)]<|
.reg 6 [] [] [.ev 0,.ev 1,.ev 2,.ev 3]<|
.ite (cO e (decide (d.G>(a.1.G.getD c.toNat dF)))) (
.r (.ret false)) (
.r (.cont ()))
def S_q9_b2 (g:TTr) (h:TOf) (i:TOf) (d:Nat) (_:Unit):SC Bool (Step Unit Bool) :=
.reg 11 [] [(2,{ obs:=[(3,(TPo.b (⟨[],0,0,[],[],[],[]⟩:TPo)))] })] [.w d,.ev 0,.pf cz1]<|
 let a:=(g.E.getD d dF)
.call (@F_q20_ok i a.B a.D) fun f e=>
 let c:=(i64.wrap (h.Q-1))
.guard [(0:Int)<=c,c.toNat<a.H.length]<|
.reg 12 [] [(10,hc e [] true)] [.ev 0,.ev 1,.cl 2 e [] 4 true]<|
.ite (decide ((a.H.getD c.toNat dF)>f.S)) (
.r (.ret false)) (
.r (.cont ()))
def S_q9 (a:TTr) (b:TOf) (c:TOf):SC Bool Bool :=
.range (b.L.length:Int) b.L.length rfl (.slot 18) 20 [3,5,7,18,19] (fun (_:Unit)=>[]) (fun _=>[]) () (S_q9_b1 a b) (fun _ => 
.range (a.E.length:Int) a.E.length rfl (.slot 57) 59 [5,7,57,58] (fun (_:Unit)=>[]) (fun _=>[]) () (S_q9_b2 a b c) (fun _ => 
.r true) id) id
def F_q9 (a:TTr) (b:TOf) (c:TOf):=(S_q9 a b c).den
theorem F_q9_ok {a:TTr} {b:TOf} {c:TOf}:FO (F_q9 a b c) 46 [(TTr.d a),(TOf.d b),(TOf.d c)] [] vb NL:=fO (s:=S_q9 a b c) Tryz.func46
def S_q39 (s:TTr) (z:(List TOf)) (a:TMe):SC Bool Bool :=
.call (@F_q3m_ok s a.B a.D) fun e j=>
.reg 1 [] [(5,hc j [] true),(9,{ obs:=[(2,(TPo.b (⟨[],0,0,[],[],[],[]⟩:TPo)))] })] [.cl 0 j [] 2 true,.pf cz1]<|
.ite (!e.2) (
.r false) (
.ite (a.Aa==0) (
.call (@F_q1d_ok a.To 1 s.O) fun f k=>
 let d:=(i64.wrap (a.To-1))
.calld [f=true] dF (@F_q1d_ok a.A 0 (e.1.A.getD d.toNat dF)) fun t l =>
 let g:=(bif f then t else false)
.calld [g=true] dF (@F_q1d_ok a.G 0 (e.1.G.getD d.toNat dF)) fun u m =>
.guard [AllP [f=true]->((0:Int)<=d),AllP [f=true]->(d.toNat<e.1.A.length),AllP [g=true]->((0:Int)<=d),AllP [g=true]->(d.toNat<e.1.G.length)]<|
.reg 5 [] [(4,hc k [] true),(15,hc l [] true),(27,hc m [] true)] [.cl 8 k [] 3 true,.ev 0,.ev 1,.clg 6 [f=true] l [] 3 true,.ev 2,.ev 3,.clg 4 [g=true] m [] 3 true]<|
.r (bif (bif (bif g then u else false) then (a.S==0) else false) then (a.P==0) else false)) (
.call (@F_q1d_ok a.Aa 1 s.O) fun v n=>
 let c:=(bif v then (a.To==0) else false)
 let h:=(i64.wrap (a.Aa-1))
.calld [c=true] dF (@F_q20_ok (z.getD h.toNat dF) a.B a.D) fun w o =>
.calld [c=true] dF (@F_q1d_ok a.S 0 w.S) fun x p =>
 let i:=(bif c then x else false)
.calld [i=true] dF (@F_q1d_ok a.P 0 1000000000000000) fun y q =>
.guard [AllP [c=true]->((0:Int)<=h),AllP [c=true]->(h.toNat<z.length)]<|
.reg 6 [] [(4,hc n [] true),(23,hc o [] true),(25,hc p [] true),(30,hc q [] true)] [.cl 8 n [] 3 true,.ev 0,.ev 1,.clg 6 [c=true] o [] 3 true,.clg 4 [c=true] p [] 3 true,.clg 2 [i=true] q [] 3 true]<|
.r (bif (bif (bif i then y else false) then (a.A==0) else false) then (a.G==0) else false)))
def F_q39 (a:TTr) (b:(List TOf)) (c:TMe):=(S_q39 a b c).den
theorem F_q39_ok {a:TTr} {b:(List TOf)} {c:TMe}:FO (F_q39 a b c) 49 [(TTr.d a),(AV.d (eL TOf.e b)),(TMe.d c)] [] vb NL:=fO (s:=S_q39 a b c) Tryz.func49
def S_q3w (c:TMe) (d:TWo) (e:(List TOf)):SC Bool Bool :=
.a 1 4 3 (@F_q39_ok d.K e c) fun b=>
.r (!b)
def F_q3w (a:TMe) (b:TWo) (c:(List TOf)):=(S_q3w a b c).den
theorem F_q3w_ok {f:TMe} {a:TWo} {c:(List TOf)}:FO (F_q3w f a c) 48 [(TMe.d f),(vp 0),(vp 1)] [(TWo.b a),(bx (eL TOf.e c))] vb (fun _=>[(TWo.b a),(bx (eL TOf.e c))]):=fO (s:=S_q3w f a c) Tryz.func48
def S_qy_b1 (d:(List TMe)) (e:TWo) (f:(List TOf)) (a:Nat) (_:Unit):SC Int (Step Unit Int) :=
.call (@F_q3w_ok (d.getD a dF) e f) fun c b=>
.reg 4 [] [(5,hc b [0,1] true)] [.w a,.ev 1,.cl 0 b [0,1] 2 true]<|
.ite c (
.r (.ret (a:Int))) (
.r (.cont ()))
def S_qy (a:(List TMe)) (b:TWo) (c:(List TOf)):SC Int Int :=
.range (a.length:Int) a.length rfl (.slot 0) 8 [0,1,7] (fun (_:Unit)=>[]) (fun _=>[]) () (S_qy_b1 a b c) (fun _ => 
.r (-1)) id
def F_qy (a:(List TMe)) (b:TWo) (c:(List TOf)):=(S_qy a b c).den
theorem F_qy_ok {f:(List TMe)} {a:TWo} {c:(List TOf)}:FO (F_qy f a c) 98 [(AV.d (eL TMe.e f)),(AV.fn 48 [(vp 0),(vp 1)])] [(TWo.b a),(bx (eL TOf.e c))] vi (fun _=>[(TWo.b a),(bx (eL TOf.e c))]):=fO (s:=S_qy f a c) Tryz.func98
def S_q51 (c:(List TMe)) (d:TWo) (e:(List TOf)):SC Bool Bool :=
.call (@F_qy_ok c d e) fun a b=>
.k 1 2 b [0,1] 2 true<|
.r (decide (a>=0))
def F_q51 (a:(List TMe)) (b:TWo) (c:(List TOf)):=(S_q51 a b c).den
theorem F_q51_ok {f:(List TMe)} {a:TWo} {c:(List TOf)}:FO (F_q51 f a c) 47 [(AV.d (eL TMe.e f)),(AV.fn 48 [(vp 0),(vp 1)])] [(TWo.b a),(bx (eL TOf.e c))] vb (fun _=>[(TWo.b a),(bx (eL TOf.e c))]):=fO (s:=S_q51 f a c) Tryz.func47
theorem zwq:OLe (bx Z0) (bx (eL TOf.e ([]))):=z4x DLe.sl0
def S_qd_b1 (e:TWo) (b:R_qb) (a:Nat) (_:Unit):SC Bool (Step Unit Bool) :=
.call (@F_q9_ok e.K (b.1.getD a dF) (b.2.1.getD a dF)) fun d c=>
.guard [a<b.2.1.length]<|
.reg 9 [] [(10,hc c [] true)] [.w a,.ev 2,.w a,.ev 0,.cl 1 c [] 2 true]<|
.ite (!d) (
.r (.ret false)) (
.r (.cont ()))
def S_qd (c:TWo):SC Bool Bool :=
.a 1 2 1 (@F_qx_ok c.K) fun f=>
.ite (cO (cO (!f) ((c.J.length:Int) != c.K.O)) (decide ((c.N.length:Int)>200))) (
.r false) (
.call (@F_qb_ok c) fun b d=>
.reg 3 [] [(1,hc d [] true),(6,{ obs:=[(1,(bx (eL TOf.e ([]))))] })] [.cl 0 d [] 1 true,.pf zwq]<|
.ite (!b.2.2) (
.r false) (
.range (b.1.length:Int) b.1.length rfl (.slot 3) 36 [1,3,4,35] (fun (_:Unit)=>[]) (fun _=>[]) () (S_qd_b1 c b) (fun _ => 
.call (@F_q51_ok c.N c b.2.1) fun g h=>
.k 12 3 h [0,1] 2 true<|
.r (!g)) id))
def F_qd (a:TWo):=(S_qd a).den
theorem F_qd_ok {a:TWo}:FO (F_qd a) 16 [(TWo.d a)] [] vb NL:=fO (s:=S_qd a) Tryz.func16
abbrev R_q29:=Int×Int×Int×Int
def S_q29_b1 (j:(List TOf)) (h:TPo) (d:Nat) (e:Int×Int):SC R_q29 (Step (Int×Int) R_q29) :=
.reg 3 [] [(2,{ obs:=[(1,(TOf.b (⟨0,[],(⟨[],[],[],[]⟩:TBo)⟩:TOf)))] })] [.w d,.ev 0,.pf z19]<|
.a 4 5 2 (@F_q20_ok (j.getD d dF) h.B h.D) fun f=>
.a 6 11 3 (@F_q49_ok (j.getD d dF) h.B h.D) fun i=>
 let g:=(i64.wrap (f.A-f.S))
.c ((i64.wrap (e.1+g)),(i64.wrap (e.2+(i64.wrap (g-i)))))
def S_q29 (c:(List TOf)) (d:TPo):SC R_q29 R_q29 :=
.range (c.length:Int) c.length rfl (.slot 11) 13 [3,11,12] (fun (b:Int×Int)=>[(6,(vi b.1)),(7,(vi b.2))]) (fun _=>[]) (0,0) (S_q29_b1 c d) (fun b => 
.a 8 3 1 (@F_q3d_ok d) fun e=>
.r (d.T,e,b.1,b.2)) id
def F_q29 (a:(List TOf)) (b:TPo):=(S_q29 a b).den
theorem F_q29_ok {a:(List TOf)} {b:TPo}:FO (F_q29 a b) 55 [(AV.d (eL TOf.e a)),(TPo.d b)] [] (fun x=>(Rg [(vi x.1),(vi x.2.1),(vi x.2.2.1),(vi x.2.2.2)])) NL:=fO (s:=S_q29 a b) Tryz.func55
abbrev R_q2r:=Int×Int×Int×Int
def S_q2r (g:TWo) (j:Y8) (k:Int):SC R_q2r R_q2r :=
.call (@F_q3m_ok g.K j k) fun c e=>
.reg 1 [] [(4,hc e [] true),(8,{ obs:=[(1,(TPo.b (⟨[],0,0,[],[],[],[]⟩:TPo)))] })] [.cl 0 e [] 1 true,.pf cz1]<|
.calld [(!c.2)=false] dF (@F_qd_ok g) fun h f =>
.reg 2 [] [(4,hc f [] true)] [.clg 0 [(!c.2)=false] f [] 2 true]<|
.ite (cO (!c.2) (!h)) (
.r (0,0,0,0)) (
.a 4 1 2 (@F_qb_ok g) fun i=>
.a 5 2 2 (@F_q29_ok i.1 c.1) fun d=>
.r (d.1,d.2.1,d.2.2.1,d.2.2.2))
def F_q2r (a:TWo) (b:Y8) (c:Int):=(S_q2r a b c).den
theorem F_q2r_ok {a:TWo} {b:Y8} {c:Int}:FO (F_q2r a b c) 21 [(TWo.d a),(AV.d (Rf b)),(vi c)] [] (fun x=>(Rg [(vi x.1),(vi x.2.1),(vi x.2.2.1),(vi x.2.2.2)])) NL:=fO (s:=S_q2r a b c) Tryz.func21
def S_q4d (d:TPo):SC Int Int :=
.a 1 1 1 (@F_q3d_ok d) fun c=>
 let b:=(i64.wrap (c-d.T))
.r (if 0>b then 0 else b)
def F_q4d (a:TPo):=(S_q4d a).den
theorem F_q4d_ok {a:TPo}:FO (F_q4d a) 56 [(TPo.d a)] [] vi NL:=fO (s:=S_q4d a) Tryz.func56
def S_q15_b1 (j:TWo) (h:R_qb) (e:Nat) (_:Unit):SC Bool (Step Unit Bool) :=
.reg 6 [] [(2,{ obs:=[(1,(TPo.b (⟨[],0,0,[],[],[],[]⟩:TPo)))] })] [.w e,.ev 0,.pf cz1]<|
 let f:=(j.K.E.getD e dF)
.a 7 2 2 (@F_q29_ok h.1 f) fun c=>
 let d:=(cO (decide (c.2.2.2>c.2.2.1)) (decide (c.2.2.1>c.2.1)))
.calld [d=false] dF (@F_q4d_ok f) fun i g =>
.reg 8 [] [(12,hc g [] true)] [.clg 0 [d=false] g [] 2 true]<|
.ite (cO d (decide (c.2.1>(i64.wrap (c.1+i))))) (
.r (.ret false)) (
.r (.cont ()))
def S_q15 (b:TWo):SC Bool Bool :=
.a 1 1 1 (@F_qd_ok b) fun c=>
.ite (!c) (
.r false) (
.a 3 1 1 (@F_qb_ok b) fun d=>
.range (b.K.E.length:Int) b.K.E.length rfl (.slot 23) 25 [3,23,24] (fun (_:Unit)=>[]) (fun _=>[]) () (S_q15_b1 b d) (fun _ => 
.r true) id)
def F_q15 (a:TWo):=(S_q15 a).den
theorem F_q15_ok {a:TWo}:FO (F_q15 a) 18 [(TWo.d a)] [] vb NL:=fO (s:=S_q15 a) Tryz.func18
def S_q1f_b1 (b:R_qi) (a:Nat) (_:Unit):SC Bool (Step Unit Bool) :=
.reg 6 [] [] [.w a,.ev 0]<|
.ite ((b.2.1.getD a dF) != 0) (
.r (.ret false)) (
.r (.cont ()))
def S_q1f:SC Bool Bool :=
 let f:=(⟨0,[],0,0,0,0,0,0,0,0⟩:TOp)
 let j:=(⟨9,0,f,[],0,0,0⟩:TSt)
 let h:=([(⟨1,0,f,[49],12,100,0⟩:TSt),(⟨2,1,f,[49],12,100,0⟩:TSt),(⟨4,1,f,[49],12,0,0⟩:TSt),(⟨11,0,f,[],0,0,0⟩:TSt),j,j]:List TSt)
.call (@F_qi_ok 1 h) fun c k=>
.reg 1 [] [(6,hv (AV.d (eL TSt.e h))),(7,hc k [] true),(12,{ obs:=[(0,(TWo.b (⟨(⟨0,[]⟩:TTr),[],[]⟩:TWo)))] })] [.pf (za TSt.e h),.cl 0 k [] 0 true,.pf cz4]<|
.ite (cO (c.2.2 != 0) ((c.2.1.length:Int) != 6)) (
.r false) (
.range (c.2.1.length:Int) c.2.1.length rfl (.slot 29) 31 [1,29,30] (fun (_:Unit)=>[]) (fun _=>[]) () (S_q1f_b1 c) (fun _ => 
.a 10 1 1 (@F_q2r_ok c.1 ([49]) 12) fun g=>
 let i:=(bif (bif (bif (g.1==100) then (g.2.1==100) else false) then (g.2.2.1==100) else false) then (g.2.2.2==0) else false)
.calld [i=true] dF (@F_q15_ok c.1) fun m l =>
.reg 11 [] [(16,hc l [] true)] [.clg 0 [i=true] l [] 1 true]<|
.r (bif (bif i then m else false) then ((c.1.N.length:Int)==0) else false)) id)
def F_q1f:=S_q1f.den
theorem F_q1f_ok :FO F_q1f 6 [] [] vb NL:=fO (s:=S_q1f) Tryz.func6
def S_q6c (b:(List Int)):SC TTape TTape :=
 let a:=(if 500<(b.length:Int) then 500 else (b.length:Int))
.guard [(0:Int)<=a,a.toNat<=b.length]<|
 let c:=(b.take a.toNat)
.reg 1 [] [(4,hv (vl c))] [.ev 0,.ev 1,.der (fun (h0:a.toNat<=b.length)=>lvT Ra b h0) 1]<|
.r (⟨c,0⟩:TTape)
def F_q6c (a:(List Int)):=(S_q6c a).den
theorem F_q6c_ok {a:(List Int)}:FO (F_q6c a) 7 [(vl a)] [] (fun _=>(vp 0)) (fun x=>[(TTape.b x)]):=fO (s:=S_q6c a) Tryz.func7
def S_q11_b1 (g:Int) (a:TTr×(List TMe)×(List TJo)×Int):SC (TWo×Int) (Step (TTr×(List TMe)×(List TJo)×Int) (TWo×Int)) :=
.ite (decide (a.2.2.2<=g)) (
.guard [(a.2.2.1.length+1) * (2 * 40)<=2 ^ 48]<|
 let f:=(⟨a.2.2.2,[],0⟩:TJo)
 let b:=([f]:List TJo)
 let c:=(a.2.2.1++b)
.reg 7 [] [(3,hv (TJo.d f)),(4,hv (AV.d (eL TJo.e b))),(5,{ cast:=some (Rb 2 c.length 0 c.length),obs:=[(2,(eS 3 TJo.e c))] })] [.pf (p:=LeV (AV.d (DV.agg [(DV.i .i64 a.2.2.2),Z0,(DV.i .i64 0)])) (TJo.d f)) (z2f rfl (DLe.agg (Rh (DLe.refl _) (Rh DLe.sl0 (Rh (DLe.refl _) DLeL.nil))))),.pf (za TJo.e b),.e a.2.2.1.length,.e a.2.2.1.length,.pf (p:=∀ k,k<1->(TJo.d (b.getD k dF)).wd=3) (fun _ _=>rfl),.ev 0,.pf (zy (o:=2) (l:=a.2.2.1) (x:=b)),.pf (z12 (sz:=3) (e:=TJo.e) (l:=a.2.2.1) (x:=b))]<|
.r (.cont (a.1,a.2.1,c,(i64.wrap (a.2.2.2+1))))) (
.r (.brk (a.1,a.2.1,a.2.2.1,a.2.2.2)))
def S_q11 (g:Int):SC (TWo×Int) (TWo×Int) :=
 let l:=(⟨(⟨0,[]⟩:TTr),[],[]⟩:TWo)
 let m:=(TWo.b l)
.reg 0 [] [(0,{ obs:=[(0,m)] })] [.pf cz4]<|
.ite (cO (decide (g<1)) (decide (g>6))) (
.reg 2 [] [(0,hv (TWo.d l))] [.pf cz5]<|
.r (l,2)) (
 let c:=(TTr.d (⟨g,[]⟩:TTr))
.reg 3 [] [(1,hv c),(2,{ h:=.obj }),(3,{ h:=.obj })] [.pf (p:=LeV (AV.d (DV.agg [(DV.i .i64 g),Z0])) c) (z2f rfl (DLe.agg (Rh (DLe.refl _) (Rh DLe.sl0 DLeL.nil))))]<|
 let n:=[(0,(vi g)),(2,(vp 0)),(4,(vp 1))]
 let o:=(AV.full 0 fun _=>DV.b false)
.sh (A:=True) (.pf trivial) n n [m,(Rd (Rc [c,o,o]))] [m,(Rd (Rc [c,(Rb 2 0 0 0),(AV.d (eL TMe.e ([]:List TMe)))])),(eS 3 TJo.e ([]:List TJo))] (fun _=>(z1y (sz:=3) (f:=fun j=>AV.d (TJo.e (([]:List TJo).getD j dF))) (.keep _ _ _ _ (yw rfl) (.box _ _ _ _ _ (yw rfl) (TrV.agg (Rk (TrV.keep _) (Rk TrV.born (Rk TrV.full TrL.nil)))) (.nil _))))) (z1a (k:=0) rfl (Rj _) (z1a (k:=1) rfl (Rj _) (z1a (k:=2) rfl (Rj _) z2l)))<|
.iter [0,2,4] (fun (a:TTr×(List TMe)×(List TJo)×Int)=>[(5,(vi a.2.2.2))]) (fun a=>[(1,(Rd (Rc [(TTr.d a.1),(Rb 2 a.2.2.1.length 0 a.2.2.1.length),(AV.d (eL TMe.e a.2.1))]))),(2,(eS 3 TJo.e a.2.2.1))]) ((⟨g,[]⟩:TTr),([]:List TMe),([]:List TJo),1) (S_q11_b1 g) (fun a =>
.guard [a.2.2.1.length<2 ^ 63]<|
.reg 8 [] [] []<|
.frz 2 (.ev 0) none [] [0,1]<|
.r ((⟨a.1,a.2.2.1,a.2.1⟩:TWo),0)) id)
def F_q11 (a:Int):=(S_q11 a).den
theorem F_q11_ok {a:Int}:FO (F_q11 a) 31 [(vi a)] [] (fun x=>(Rg [(TWo.d x.1),(vi x.2)])) NL:=fO (s:=S_q11 a) Tryz.func31
def S_q2 (d:Int) (a:TTape):SC (Int×TTape) (Int×TTape) :=
.ite (decide (a.at_>=(a.l.length:Int))) (
.r (0,a)) (
.guard [(0:Int)<=a.at_,a.at_.toNat<a.l.length,(d:Int)≠0]<|
.reg 3 [] [] [.ev 0,.ev 1,.ev 2]<|
 let b:=((a.l.getD a.at_.toNat dF).tmod d)
 let c:=(⟨a.l,(i64.wrap (a.at_+1))⟩:TTape)
.ite (decide (b<0)) (
.r ((i64.wrap (b+d)),c)) (
.r (b,c)))
def F_q2 (a:Int) (b:TTape):=(S_q2 a b).den
theorem F_q2_ok {a:Int} {c:TTape}:FO (F_q2 a c) 9 [(vp 0),(vi a)] [(TTape.b c)] (fun x=>(vi x.1)) (fun x=>[(TTape.b x.2)]):=fO (s:=S_q2 a c) Tryz.func9
def S_q6 (c:(List Int)) (d:TTape):SC (Int×TTape) (Int×TTape) :=
.call (@F_q2_ok (c.length:Int) d) fun a b=>
.guard [(0:Int)<=a.1,a.1.toNat<c.length]<|
.reg 1 [] [(4,hc b [0] false)] [.cl 2 b [0] 1 false,.ev 0,.ev 1]<|
.r ((c.getD a.1.toNat dF),a.2)
def F_q6 (a:(List Int)) (b:TTape):=(S_q6 a b).den
theorem F_q6_ok {a:(List Int)} {c:TTape}:FO (F_q6 a c) 34 [(vp 0),(vl a)] [(TTape.b c)] (fun x=>(vi x.1)) (fun x=>[(TTape.b x.2)]):=fO (s:=S_q6 a c) Tryz.func34
end
end Go.Proofs.YtkhgaalekilaeaaGreatDoor
/- What the functions compute,and that their calls return it. No condition. -/
namespace Go.Proofs.YtkhgaalekilaeaaGreatDoor
open Go Go.TA
open Go.IntKind (i64)
noncomputable section
set_option maxRecDepth 100000
def S_q16 (c:Int) (d:Int) (e:TTape):SC (Int×TTape) (Int×TTape) :=
.call (@F_q2_ok (i64.wrap ((i64.wrap (d-c))+1)) e) fun a b=>
.k 1 6 b [0] 1 false<|
.r ((i64.wrap (c+a.1)),a.2)
def F_q16 (a:Int) (b:Int) (c:TTape):=(S_q16 a b c).den
theorem F_q16_ok {a:Int} {c:Int} {d:TTape}:FO (F_q16 a c d) 36 [(vp 0),(vi a),(vi c)] [(TTape.b d)] (fun x=>(vi x.1)) (fun x=>[(TTape.b x.2)]):=fO (s:=S_q16 a c d) Tryz.func36
def S_qu_b1 (g:Y8) (a:Int×Int×Int):SC Bool (Step (Int×Int×Int) Bool) :=
.ite (decide (a.2.2<(g.length:Int))) (
.guard [(0:Int)<=a.2.2,a.2.2.toNat<g.length]<|
.reg 6 [] [] [.ev 0,.ev 1]<|
 let b:=((g.getD a.2.2.toNat 0).toNat:Int)
 let e:=(i64.wrap (a.2.2+1))
.ite (b==46) (
.ite (a.1==0) (
.r (.ret false)) (
.r (.cont (0,(i64.wrap (a.2.1+1)),e)))) (
 let c:=(decide (b<48))
 let d:=(cO c (decide (b>57)))
 let f:=(a.2.2.toNat<g.length)
.guard [AllP [c=false]->((0:Int)<=a.2.2),AllP [c=false]->f,AllP [(a.1==0)=true,d=false]->((0:Int)<=a.2.2),AllP [(a.1==0)=true,d=false]->f]<|
.reg 11 [] [] [.ev 5,.ev 6,.ev 0,.ev 1,.ev 2,.ev 3]<|
.ite (cO (cO d (bif (a.1==0) then (b==48) else false)) (a.1==2)) (
.r (.ret false)) (
.r (.cont ((i64.wrap (a.1+1)),a.2.1,e))))) (
.r (.brk (a.1,a.2.1,a.2.2)))
def S_qu (b:Y8):SC Bool Bool :=
.iter [0] (fun (a:Int×Int×Int)=>[(3,(vi a.1)),(4,(vi a.2.1)),(5,(vi a.2.2))]) (fun _=>[]) (0,1,0) (S_qu_b1 b) (fun a =>
.r (bif (decide (a.1>0)) then (decide (a.2.1<=4)) else false)) id
def F_qu (a:Y8):=(S_qu a).den
theorem F_qu_ok {a:Y8}:FO (F_qu a) 112 [(AV.d (Rf a))] [] vb NL:=fO (s:=S_qu a) Tryz.func112
def S_qq (a:Int):SC Bool Bool :=
.r (bif (decide (a>=0)) then (decide (a<=1000000000000000)) else false)
def F_qq (a:Int):=(S_qq a).den
theorem F_qq_ok {a:Int}:FO (F_qq a) 154 [(vi a)] [] vb NL:=fO (s:=S_qq a) Tryz.func154
def S_q2a_b1 (c:TPo) (a:Nat) (s:Int):SC Bool (Step Int Bool) :=
 let j:=(c.A.getD a dF)
.call (@F_qq_ok j) fun d k=>
 let l:=(c.H.getD a dF)
.calld [(!d)=false] dF (@F_qq_ok l) fun t m =>
 let e:=(cO (!d) (!t))
 let n:=(c.G.getD a dF)
.calld [e=false] dF (@F_qq_ok n) fun u o =>
 let f:=(cO e (!u))
.calld [f=false] dF (@F_qq_ok (c.P.getD a dF)) fun v q =>
 let g:=(cO f (!v))
 let i:=(cO g (decide (l>j)))
.guard [AllP [(!d)=false]->(a<c.H.length),AllP [e=false]->(a<c.G.length),AllP [f=false]->(a<c.P.length),AllP [g=false]->(a<c.H.length),AllP [i=false]->(a<c.G.length)]<|
 let b:=((0:Int)<=(a:Int))
.reg 9 [] [(5,hc k [] true),(13,hc m [] true),(22,hc o [] true),(31,hc q [] true)] [.w a,.ev 12,.cl 11 k [] 1 true,.pf (p:=AllP [(!d)=false]->b) (fun _=>(y21 _)),.ev 0,.clg 9 [(!d)=false] m [] 1 true,.pf (p:=AllP [e=false]->b) (fun _=>(y21 _)),.ev 1,.clg 7 [e=false] o [] 1 true,.pf (p:=AllP [f=false]->b) (fun _=>(y21 _)),.ev 2,.clg 5 [f=false] q [] 1 true,.pf (p:=AllP [g=false]->b) (fun _=>(y21 _)),.ev 3,.pf (p:=AllP [g=false]->b) (fun _=>(y21 _)),.der (fun (h:a<c.A.length) (_:AllP [g=false])=>h) 12,.pf (p:=AllP [i=false]->b) (fun _=>(y21 _)),.ev 4,.pf (p:=AllP [i=false]->b) (fun _=>(y21 _)),.der (fun (h:a<c.A.length) (_:AllP [i=false])=>h) 12]<|
.ite (cO i (decide (n>j))) (
.r (.ret false)) (
.reg 11 [] [] [.w a,.ev 13]<|
.r (.cont (i64.wrap (s+j))))
def S_q2a (b:TPo) (d:Int):SC Bool Bool :=
.a 1 2 1 (@F_qu_ok b.B) fun e=>
.ite (cO (cO (cO (cO (!e) (decide (b.D<0))) (decide (b.D>99))) (decide (b.T<(-1000000000000000)))) (decide (b.T>1000000000000000))) (
.r false) (
.ite (cO (cO (cO ((b.A.length:Int) != d) ((b.H.length:Int) != d)) ((b.G.length:Int) != d)) ((b.P.length:Int) != d)) (
.r false) (
.guard [b.A.length<2 ^ 63]<|
.range (b.A.length:Int) b.A.length rfl (.why (.ev 0)) 60 [2,59] (fun (c:Int)=>[(5,(vi c))]) (fun _=>[]) 0 (S_q2a_b1 b) (fun c => 
.r (decide (c<=1000000000000000))) id))
def F_q2a (a:TPo) (b:Int):=(S_q2a a b).den
theorem F_q2a_ok {a:TPo} {b:Int}:FO (F_q2a a b) 99 [(TPo.d a),(vi b)] [] vb NL:=fO (s:=S_q2a a b) Tryz.func99
theorem zmz:LeV (AV.full 0 fun _=>DV.b false) (vl ([])):=lvN (DV.i .i64)
abbrev R_q12:=(List Int)
def S_q12_b1 (f:Y8) (a:(List Int)×Int×Int×Int):SC R_q12 (Step ((List Int)×Int×Int×Int) R_q12) :=
.ite (decide (a.2.2.2<=(f.length:Int))) (
 let g:=(a.2.2.2==(f.length:Int))
 let q:=(a.2.2.2.toNat<f.length)
.guard [AllP [g=false]->((0:Int)<=a.2.2.2),AllP [g=false]->q]<|
.reg 8 [] [] [.ev 0,.ev 1]<|
 let c:=((f.getD a.2.2.2.toNat 0).toNat:Int)
 let s:=(i64.wrap (a.2.2.2+1))
.ite (cO g (c==46)) (
 let j:=(cO (a.2.2.1==0) (decide (a.2.2.1>2)))
 let m:=(i64.wrap (a.2.2.2-a.2.2.1))
.guard [AllP [j=false]->((0:Int)<=m),AllP [j=false]->(m.toNat<f.length)]<|
.reg 9 [] [] [.ev 0,.ev 1]<|
.ite (cO j (((f.getD m.toNat 0).toNat:Int)==48)) (
.ret [.pf zmz] (.ret ([]))) (
.guard [(a.1.length+1) * (2 * 8)<=2 ^ 48]<|
 let b:=([a.2.1]:List Int)
.reg 11 [] [(2,hv (vl b)),(3,{ h:=.obj,cast:=some (Rb 0 ((a.1++b).length) 0 ((a.1++b).length)),obs:=[(0,(eQ (a.1++b)))] })] [.pf (za Ra b),.e a.1.length,.e a.1.length,.pf (p:=∀ k,k<1->(AV.d (Ra (b.getD k dF))).wd=1) (fun _ _=>rfl),.ev 0,.pf (zy (o:=0) (l:=a.1) (x:=b)),.pf (z12 (sz:=1) (e:=Ra) (l:=a.1) (x:=b))]<|
.r (.cont ((a.1++b),0,0,s)))) (
 let n:=(decide (c<48))
.guard [(0:Int)<=a.2.2.2,a.2.2.2.toNat<f.length,AllP [n=false]->((0:Int)<=a.2.2.2),AllP [n=false]->q]<|
.reg 13 [] [] [.ev 0,.ev 1,.ev 2,.ev 3]<|
.ite (cO n (decide (c>57))) (
.ret [.pf zmz] (.ret ([]))) (
.reg 15 [] [] [.ev 1,.ev 2]<|
.r (.cont (a.1,(i64.wrap ((i64.wrap (10 * a.2.1))+(i64.wrap (IntKind.u8.wrap (c-48))))),(i64.wrap (a.2.2.1+1)),s))))) (
.r (.brk (a.1,a.2.1,a.2.2.1,a.2.2.2)))
def S_q12 (b:Y8):SC R_q12 R_q12 :=
.ite (decide ((b.length:Int)>12)) (
.ret [.pf zmz] ([])) (
.reg 5 [] [] []<|
.bor 1 (fun j=>AV.d (Ra (([]:List Int).getD j dF))) [3]<|
.iter [0] (fun (a:(List Int)×Int×Int×Int)=>[(3,(Rb 0 a.1.length 0 a.1.length)),(4,(vi a.2.1)),(5,(vi a.2.2.1)),(6,(vi a.2.2.2))]) (fun a=>[(0,(eQ a.1))]) (([]:List Int),0,0,0) (S_q12_b1 b) (fun a =>
.ite (decide ((a.1.length:Int)>4)) (
.ret [.pf zmz] ([])) (
.guard [a.1.length<2 ^ 63]<|
.reg 18 [] [] []<|
.frz 0 (.ev 0) none [2] []<|
.r a.1)) id)
def F_q12 (a:Y8):=(S_q12 a).den
theorem F_q12_ok {a:Y8}:FO (F_q12 a) 155 [(AV.d (Rf a))] [] vl NL:=fO (s:=S_q12 a) Tryz.func155
def S_q17_b1 (b:R_q12) (c:R_q12) (a:Int):SC Int (Step Int Int) :=
.ite (bif (decide (a<(b.length:Int))) then (decide (a<(c.length:Int))) else false) (
.guard [(0:Int)<=a,a.toNat<b.length,a.toNat<c.length]<|
.reg 15 [] [] [.ev 0,.ev 1,.ev 0,.ev 2]<|
 let d:=(b.getD a.toNat dF)
 let e:=(c.getD a.toNat dF)
.ite (decide (d<e)) (
.r (.ret (-1))) (
.reg 17 [] [] [.ev 1,.ev 2,.ev 1,.ev 3]<|
.ite (decide (d>e)) (
.r (.ret 1)) (
.r (.cont (i64.wrap (a+1)))))) (
.r (.brk a))
def S_q17 (g:Y8) (h:Y8):SC Int Int :=
.call (@F_q12_ok g) fun c d=>
.call (@F_q12_ok h) fun e f=>
.reg 1 [] [(1,hc d [] true),(3,hc f [] true)] [.cl 1 d [] 0 true,.cl 0 f [] 0 true]<|
 let a:=(c.length:Int)
 let b:=(e.length:Int)
.ite (cO (a==0) (b==0)) (
.ite (decide (a>0)) (
.r 1) (
.ite (decide (b>0)) (
.r (-1)) (
.ite (Op.bytesLess g h) (
.r (-1)) (
.ite (!(Op.bytesLess g h||g==h)) (
.r 1) (
.r 0))))) (
.iter [5,6] (fun (i:Int)=>[(7,(vi i))]) (fun _=>[]) 0 (S_q17_b1 c e) (fun _ =>
.ite (decide (a<b)) (
.r (-1)) (
.ite (decide (a>b)) (
.r 1) (
.r 0))) id)
def F_q17 (a:Y8) (b:Y8):=(S_q17 a b).den
theorem F_q17_ok {a:Y8} {b:Y8}:FO (F_q17 a b) 100 [(AV.d (Rf a)),(AV.d (Rf b))] [] vi NL:=fO (s:=S_q17 a b) Tryz.func100
def S_q18_b1 (h:TTr) (d:Nat) (_:Unit):SC Bool (Step Unit Bool) :=
.reg 5 [] [(3,{ obs:=[(1,(TPo.b (⟨[],0,0,[],[],[],[]⟩:TPo)))] })] [.w d,.ev 0,.pf cz1]<|
 let f:=(h.E.getD d dF)
.a 6 3 2 (@F_q2a_ok f h.O) fun k=>
.ite (!k) (
.r (.ret false)) (
.ite (decide ((d:Int)>0)) (
 let c:=(i64.wrap ((d:Int)-1))
 let i:=(h.E.getD c.toNat dF)
.call (@F_q17_ok i.B f.B) fun e j=>
.guard [(0:Int)<=c,c.toNat<h.E.length]<|
.reg 9 [] [(9,hc j [] true)] [.ev 0,.ev 1,.cl 2 j [] 2 true]<|
 let g:=(decide (e>0))
.guard [AllP [(e==0)=true,g=false]->((0:Int)<=c),AllP [(e==0)=true,g=false]->(c.toNat<h.E.length)]<|
.reg 10 [] [] [.ev 0,.ev 1]<|
.ite (cO g (bif (e==0) then (decide (i.D>=f.D)) else false)) (
.r (.ret false)) (
.r (.cont ()))) (
.r (.cont ())))
def S_q18 (a:TTr):SC Bool Bool :=
.ite (cO (cO (decide (a.O<1)) (decide (a.O>6))) (decide ((a.E.length:Int)>60))) (
.r false) (
.range (a.E.length:Int) a.E.length rfl (.slot 21) 23 [1,21,22] (fun (_:Unit)=>[]) (fun _=>[]) () (S_q18_b1 a) (fun _ => 
.r true) id)
def F_q18 (a:TTr):=(S_q18 a).den
theorem F_q18_ok {a:TTr}:FO (F_q18 a) 50 [(TTr.d a)] [] vb NL:=fO (s:=S_q18 a) Tryz.func50
def S_q4e (f:Int):SC (TOf×Int) (TOf×Int) :=
 let e:=(⟨[],[],[],[]⟩:TBo)
 let a:=(⟨0,[],e⟩:TOf)
.reg 0 [] [(0,{ obs:=[(0,(TOf.b a))] })] [.pf z19]<|
.ite (cO (decide (f<1)) (decide (f>6))) (
.reg 2 [] [(0,hv (TOf.d a))] [.pf z1n]<|
.r (a,2)) (
 let c:=(⟨f,[],e⟩:TOf)
.reg 3 [] [(1,hv (TOf.d c))] [.pf (p:=LeV (AV.d (DV.agg [(DV.i .i64 f),Z0,(DV.agg [Z0,Z0,Z0,Z0])])) (TOf.d c)) (z2f rfl (DLe.agg (Rh (DLe.refl _) (Rh DLe.sl0 (Rh (DLe.agg (Rh DLe.sl0 (Rh DLe.sl0 (Rh DLe.sl0 (Rh DLe.sl0 DLeL.nil))))) DLeL.nil)))))]<|
.r (c,0))
def F_q4e (a:Int):=(S_q4e a).den
theorem F_q4e_ok {a:Int}:FO (F_q4e a) 84 [(vi a)] [] (fun x=>(Rg [(TOf.d x.1),(vi x.2)])) NL:=fO (s:=S_q4e a) Tryz.func84
abbrev R_q1q:=(List Int)×Bool
def S_q1q (a:TOp):SC R_q1q R_q1q :=
.ite (a.U==1) (
 let b:=([a.Ab,a.V]:List Int)
.reg 3 [] [(4,hv (vl b))] [.pf (za Ra b)]<|
.r (b,true)) (
.ite (a.U==2) (
 let c:=([a.Of,a.Ab,a.V,a.Ah,a.Aj]:List Int)
.reg 5 [] [(10,hv (vl c))] [.pf (za Ra c)]<|
.r (c,false)) (
.ite (a.U==3) (
 let d:=([a.Of,a.Ab,a.V]:List Int)
.reg 7 [] [(6,hv (vl d))] [.pf (za Ra d)]<|
.r (d,false)) (
.ite (a.U==4) (
 let e:=([a.Of,a.Ab]:List Int)
.reg 9 [] [(4,hv (vl e))] [.pf (za Ra e)]<|
.r (e,false)) (
.cut none [1,5] (fun (f:Bool)=>[(42,(vb f))]) (fun _=>[]) (
.ite (a.U==5) (
.r (.next (a.U==5))) (
.r (.next (a.U==6)))) fun f=>
.ite f (
 let g:=([a.Of,a.V]:List Int)
.reg 12 [] [(4,hv (vl g))] [.pf (za Ra g)]<|
.r (g,false)) (
.ite (a.U==7) (
 let h:=([a.V]:List Int)
.reg 14 [] [(2,hv (vl h))] [.pf (za Ra h)]<|
.r (h,true)) (
.ite (a.U==8) (
 let j:=([a.A,a.Ae]:List Int)
.reg 16 [] [(4,hv (vl j))] [.pf (za Ra j)]<|
.r (j,true)) (
 let k:=([a.Of]:List Int)
.reg 17 [] [(2,hv (vl k))] [.pf (za Ra k)]<|
.r (k,false))))))))
def F_q1q (a:TOp):=(S_q1q a).den
theorem F_q1q_ok {a:TOp}:FO (F_q1q a) 156 [(TOp.d a)] [] (fun x=>(Rg [(vl x.1),(vb x.2)])) NL:=fO (s:=S_q1q a) Tryz.func156
def S_q5 (c:Int) (f:Y8) (g:Int) (a:(List Int)):SC TOp TOp :=
.cut (some 0) [8,9] (fun (_:TOp)=>[]) (fun h=>[(1,(TOp.b h))]) (
 let d:=(a.getD 0 dF)
 let e:=(a.getD 1 dF)
.ite (c==1) (
.guard [0<a.length,1<a.length]<|
.reg 5 [7,9] [] [.pf (p:=(0:Int)<=0) dk,.ev 0,.pf (p:=(0:Int)<=1) dk,.ev 1,.pf (p:=(0:Int)<=1) dk,.ev 1]<|
.r (.next (⟨c,f,g,d,0,e,0,0,0,0⟩:TOp))) (
.ite (c==2) (
.guard [0<a.length,1<a.length,2<a.length,3<a.length,4<a.length]<|
.reg 7 [16,18,20,22,24] [] [.pf (p:=(0:Int)<=0) dk,.ev 0,.pf (p:=(0:Int)<=1) dk,.ev 1,.pf (p:=(0:Int)<=1) dk,.ev 1,.pf (p:=(0:Int)<=2) dk,.ev 2,.pf (p:=(0:Int)<=2) dk,.ev 2,.pf (p:=(0:Int)<=2) dk,.ev 2,.pf (p:=(0:Int)<=3) dk,.ev 3,.pf (p:=(0:Int)<=3) dk,.ev 3,.pf (p:=(0:Int)<=3) dk,.ev 3,.pf (p:=(0:Int)<=3) dk,.ev 3,.pf (p:=(0:Int)<=4) dk,.ev 4,.pf (p:=(0:Int)<=4) dk,.ev 4,.pf (p:=(0:Int)<=4) dk,.ev 4,.pf (p:=(0:Int)<=4) dk,.ev 4,.pf (p:=(0:Int)<=4) dk,.ev 4]<|
.r (.next (⟨c,f,g,e,d,(a.getD 2 dF),(a.getD 3 dF),(a.getD 4 dF),0,0⟩:TOp))) (
.ite (c==3) (
.guard [0<a.length,1<a.length,2<a.length]<|
.reg 9 [10,12,14] [] [.pf (p:=(0:Int)<=0) dk,.ev 0,.pf (p:=(0:Int)<=1) dk,.ev 1,.pf (p:=(0:Int)<=1) dk,.ev 1,.pf (p:=(0:Int)<=2) dk,.ev 2,.pf (p:=(0:Int)<=2) dk,.ev 2,.pf (p:=(0:Int)<=2) dk,.ev 2]<|
.r (.next (⟨c,f,g,e,d,(a.getD 2 dF),0,0,0,0⟩:TOp))) (
.ite (c==4) (
.guard [0<a.length,1<a.length]<|
.reg 11 [7,9] [] [.pf (p:=(0:Int)<=0) dk,.ev 0,.pf (p:=(0:Int)<=1) dk,.ev 1,.pf (p:=(0:Int)<=1) dk,.ev 1]<|
.r (.next (⟨c,f,g,e,d,0,0,0,0,0⟩:TOp))) (
.cut none [3,8,9,14] (fun (i:Bool)=>[(75,(vb i))]) (fun _=>[]) (
.ite (c==5) (
.r (.next (c==5))) (
.r (.next (c==6)))) fun i=>
.ite i (
.guard [0<a.length,1<a.length]<|
.reg 14 [7,9] [] [.pf (p:=(0:Int)<=0) dk,.ev 0,.pf (p:=(0:Int)<=1) dk,.ev 1,.pf (p:=(0:Int)<=1) dk,.ev 1]<|
.r (.next (⟨c,f,g,0,d,e,0,0,0,0⟩:TOp))) (
.ite (c==7) (
.guard [0<a.length]<|
.reg 16 [] [] [.pf (p:=(0:Int)<=0) dk,.ev 0]<|
.r (.next (⟨c,f,g,0,0,d,0,0,0,0⟩:TOp))) (
.ite (c==8) (
.guard [0<a.length,1<a.length]<|
.reg 18 [7,9] [] [.pf (p:=(0:Int)<=0) dk,.ev 0,.pf (p:=(0:Int)<=1) dk,.ev 1,.pf (p:=(0:Int)<=1) dk,.ev 1]<|
.r (.next (⟨c,f,g,0,0,0,0,0,d,e⟩:TOp))) (
.guard [0<a.length]<|
.reg 3 [] [] [.pf (p:=(0:Int)<=0) dk,.ev 0]<|
.r (.next (⟨c,f,g,0,d,0,0,0,0,0⟩:TOp)))))))))) fun h=>
.r h
def F_q5 (a:Int) (b:Y8) (c:Int) (d:(List Int)):=(S_q5 a b c d).den
theorem F_q5_ok {a:Int} {b:Y8} {c:Int} {e:(List Int)}:FO (F_q5 a b c e) 157 [(vi a),(AV.d (Rf b)),(vi c),(vl e)] [] (fun x=>(TOp.d x)) NL:=fO (s:=S_q5 a b c e) Tryz.func157
def S_qk_b1 (c:R_q1q) (a:Nat) (_:Unit):SC Bool (Step Unit Bool) :=
.reg 8 [] [] [.w a,.ev 0]<|
 let b:=(c.1.getD a dF)
.ite (cO (decide (b<0)) (decide (b>1000000000000000))) (
.r (.ret false)) (
.r (.cont ()))
def S_qk (b:TOp):SC Bool Bool :=
.ite (cO (decide (b.U<1)) (decide (b.U>9))) (
.r false) (
.a 3 1 1 (@F_q1q_ok b) fun d=>
.calld [d.2=true] dF (@F_qu_ok b.B) fun f e =>
.reg 4 [] [(4,hc e [] true)] [.clg 0 [d.2=true] e [] 1 true]<|
.ite (cO (bif d.2 then (cO (cO (!f) (decide (b.D<0))) (decide (b.D>99))) else false) (bif (!d.2) then (cO (!(b.B==([]))) (b.D != 0)) else false)) (
.r false) (
.range (d.1.length:Int) d.1.length rfl (.slot 3) 53 [1,3,51,52] (fun (_:Unit)=>[]) (fun _=>[]) () (S_qk_b1 d) (fun _ => 
.a 12 7 1 (@F_q5_ok b.U b.B b.D d.1) fun c=>
.r ((c.U==b.U)&&((c.B==b.B)&&((c.D==b.D)&&((c.Ab==b.Ab)&&((c.Of==b.Of)&&((c.V==b.V)&&((c.Ah==b.Ah)&&((c.Aj==b.Aj)&&((c.A==b.A)&&((c.Ae==b.Ae)&&true))))))))))) id))
def F_qk (a:TOp):=(S_qk a).den
theorem F_qk_ok {a:TOp}:FO (F_qk a) 101 [(TOp.d a)] [] vb NL:=fO (s:=S_qk a) Tryz.func101
def S_q1g (a:Int):SC Bool Bool :=
.r (bif (decide (a>=0)) then (decide (a<=35990)) else false)
def F_q1g (a:Int):=(S_q1g a).den
theorem F_q1g_ok {a:Int}:FO (F_q1g a) 200 [(vi a)] [] vb NL:=fO (s:=S_q1g a) Tryz.func200
def S_q7q (a:Int):SC Bool Bool :=
.r (bif (decide (a>=0)) then (decide (a<=36000)) else false)
def F_q7q (a:Int):=(S_q7q a).den
theorem F_q7q_ok {a:Int}:FO (F_q7q a) 228 [(vi a)] [] vb NL:=fO (s:=S_q7q a) Tryz.func228
def S_q2b (c:Int):SC Int Int :=
.a 1 1 0 (@F_q7q_ok c) fun b=>
.ite (!b) (
.r (-1)) (
.reg 3 [] [] [.pf (p:=(360:Int)≠0) dk]<|
.r (i64.wrap (c.tdiv 360)))
def F_q2b (a:Int):=(S_q2b a).den
theorem F_q2b_ok {a:Int}:FO (F_q2b a) 202 [(vi a)] [] vi NL:=fO (s:=S_q2b a) Tryz.func202
def S_q2c (a:Int):SC Bool Bool :=
.r (bif (decide (a>=1)) then (decide (a<=1000000000000)) else false)
def F_q2c (a:Int):=(S_q2c a).den
theorem F_q2c_ok {a:Int}:FO (F_q2c a) 201 [(vi a)] [] vb NL:=fO (s:=S_q2c a) Tryz.func201
def S_q2d_b1 (o:TBo) (b:Nat) (_:Unit):SC Bool (Step Unit Bool) :=
.reg 3 [] [] [.w b,.ev 0]<|
 let a:=(o.C.getD b dF)
 let c:=(a.Q != (i64.wrap ((b:Int)+1)))
.calld [c=false] dF (@F_qu_ok a.B) fun k g =>
 let d:=(cO (cO (cO c (!k)) (decide (a.D<0))) (decide (a.D>99)))
.calld [d=false] dF (@F_q1g_ok a.Ab) fun l h =>
 let e:=(cO d (!l))
.calld [e=false] dF (@F_q2b_ok a.Ab) fun m i =>
 let f:=(cO e (m != a.D))
.calld [f=false] dF (@F_q2c_ok a.V) fun n j =>
.reg 4 [] [(8,hc g [] true),(24,hc h [] true),(30,hc i [] true),(38,hc j [] true)] [.clg 6 [c=false] g [] 2 true,.clg 4 [d=false] h [] 2 true,.clg 2 [e=false] i [] 2 true,.clg 0 [f=false] j [] 2 true]<|
.ite (cO (cO (cO f (!n)) (decide (a.Ad<0))) (decide (a.Ad>a.V))) (
.r (.ret false)) (
.r (.cont ()))
def S_q2d (a:TBo):SC Bool Bool :=
.range (a.C.length:Int) a.C.length rfl (.slot 6) 8 [6,7] (fun (_:Unit)=>[]) (fun _=>[]) () (S_q2d_b1 a) (fun _ => 
.r true) id
def F_q2d (a:TBo):=(S_q2d a).den
theorem F_q2d_ok {a:TBo}:FO (F_q2d a) 213 [(TBo.d a)] [] vb NL:=fO (s:=S_q2d a) Tryz.func213
def S_qz_b1 (e:TBo) (f:Int) (a:Nat) (b:Int):SC Int (Step Int Int) :=
.reg 8 [] [] [.w a,.ev 0]<|
 let d:=(e.F.getD a dF)
.ite (d.Y==f) (
.r (.cont (i64.wrap (b-d.V)))) (
.c b)
def S_qz_b2 (d:TBo) (e:Int) (c:Nat) (_:Unit):SC Int (Step Unit Int) :=
.reg 3 [] [] [.w c,.ev 0]<|
 let a:=(d.C.getD c dF)
.ite (a.Q==e) (
.range (d.F.length:Int) d.F.length rfl (.slot 27) 29 [1,27,28] (fun (b:Int)=>[(7,(vi b))]) (fun _=>[]) (i64.wrap (a.V-a.Ad)) (S_qz_b1 d e) (fun b => 
.r (.ret b)) .ret) (
.r (.cont ()))
def S_qz (a:TBo) (b:Int):SC Int Int :=
.range (a.C.length:Int) a.C.length rfl (.slot 11) 13 [1,2,11,12] (fun (_:Unit)=>[]) (fun _=>[]) () (S_qz_b2 a b) (fun _ => 
.r 0) id
def F_qz (a:TBo) (b:Int):=(S_qz a b).den
theorem F_qz_ok {a:TBo} {b:Int}:FO (F_qz a b) 204 [(TBo.d a),(vi b)] [] vi NL:=fO (s:=S_qz a b) Tryz.func204
def S_ql_b1 (m:TBo) (b:Nat) (_:Unit):SC Bool (Step Unit Bool) :=
.reg 3 [] [] [.w b,.ev 0]<|
 let a:=(m.F.getD b dF)
 let c:=(cO (cO (a.Q != (i64.wrap ((b:Int)+1))) (decide (a.Y<1))) (decide (a.Y>(m.C.length:Int))))
.calld [c=false] dF (@F_q1g_ok a.Ab) fun n h =>
 let d:=(cO c (!n))
.calld [d=false] dF (@F_q2c_ok a.V) fun o i =>
 let e:=(cO (cO (cO (cO (cO d (!o)) (decide (a.Ad<0))) (decide (a.Ad>a.V))) (decide (a.Ah<1))) (decide (a.Ah>1000000)))
.calld [e=false] dF (@F_q1g_ok a.Aj) fun p j =>
.reg 4 [] [(21,hc h [] true),(27,hc i [] true),(55,hc j [] true)] [.clg 4 [c=false] h [] 2 true,.clg 2 [d=false] i [] 2 true,.clg 0 [e=false] j [] 2 true]<|
.ite (cO e (!p)) (
.r (.ret false)) (
 let f:=(i64.wrap (a.Y-1))
.guard [(0:Int)<=f,f.toNat<m.C.length]<|
.reg 6 [] [] [.ev 0,.ev 1]<|
 let k:=(m.C.getD f.toNat dF)
 let g:=(decide (a.Ab<k.Ab))
.calld [g=false] dF (@F_q2b_ok a.Ab) fun q l =>
.reg 7 [] [(8,hc l [] true)] [.clg 0 [g=false] l [] 3 true]<|
.ite (cO g (q != k.D)) (
.r (.ret false)) (
.r (.cont ())))
def S_ql_b2 (d:TBo) (b:Nat) (_:Unit):SC Bool (Step Unit Bool) :=
.reg 12 [] [] [.w b,.ev 0]<|
.a 13 3 2 (@F_qz_ok d ((d.C.getD b dF).Q)) fun c=>
.ite (decide (c<0)) (
.r (.ret false)) (
.r (.cont ()))
def S_ql (a:TBo):SC Bool Bool :=
.range (a.F.length:Int) a.F.length rfl (.slot 9) 11 [1,9,10] (fun (_:Unit)=>[]) (fun _=>[]) () (S_ql_b1 a) (fun _ => 
.range (a.C.length:Int) a.C.length rfl (.slot 96) 98 [1,96,97] (fun (_:Unit)=>[]) (fun _=>[]) () (S_ql_b2 a) (fun _ => 
.r true) id) id
def F_ql (a:TBo):=(S_ql a).den
theorem F_ql_ok {a:TBo}:FO (F_ql a) 214 [(TBo.d a)] [] vb NL:=fO (s:=S_ql a) Tryz.func214
def S_q2s (c:TBo) (d:Int):SC Int Int :=
 let a:=(i64.wrap (d-1))
 let b:=(i64.wrap (((c.F.getD a.toNat dF).Y)-1))
.guard [(0:Int)<=a,a.toNat<c.F.length,(0:Int)<=b,b.toNat<c.C.length]<|
.reg 1 [] [] [.ev 0,.ev 1,.ev 2,.ev 3]<|
.r ((c.C.getD b.toNat dF).D)
def F_q2s (a:TBo) (b:Int):=(S_q2s a b).den
theorem F_q2s_ok {a:TBo} {b:Int}:FO (F_q2s a b) 205 [(TBo.d a),(vi b)] [] vi NL:=fO (s:=S_q2s a b) Tryz.func205
def S_q2e_b1 (e:TBo) (f:TCo) (a:Nat) (b:Int):SC Int (Step Int Int) :=
.reg 4 [] [] [.w a,.ev 0]<|
 let d:=(e.I.getD a dF)
.ite (d.Ac==f.Q) (
.r (.cont (i64.wrap (b-d.V)))) (
.c b)
def S_q2e (b:TBo) (c:TCo):SC Int Int :=
.range (b.I.length:Int) b.I.length rfl (.slot 14) 16 [3,14,15] (fun (a:Int)=>[(5,(vi a))]) (fun _=>[]) (i64.wrap (c.V-c.Ad)) (S_q2e_b1 b c) (fun a => 
.r a) id
def F_q2e (a:TBo) (b:TCo):=(S_q2e a b).den
theorem F_q2e_ok {a:TBo} {b:TCo}:FO (F_q2e a b) 206 [(TBo.d a),(TCo.d b)] [] vi NL:=fO (s:=S_q2e a b) Tryz.func206
def S_q4_b1 (h:TBo) (c:Nat) (_:Unit):SC Bool (Step Unit Bool) :=
.reg 3 [] [] [.w c,.ev 0]<|
 let a:=(h.I.getD c dF)
 let d:=(cO (cO (a.Q != (i64.wrap ((c:Int)+1))) (decide (a.Ac<1))) (decide (a.Ac>(h.F.length:Int))))
.calld [d=false] dF (@F_q1g_ok a.Ab) fun m i =>
 let e:=(cO d (!m))
.calld [e=false] dF (@F_q2c_ok a.V) fun n j =>
 let f:=(cO e (!n))
 let g:=(i64.wrap (a.Ac-1))
 let b:=(cO f (decide (a.Ab<((h.F.getD g.toNat dF).Ab))))
.calld [b=false] dF (@F_q2b_ok a.Ab) fun o k =>
.calld [b=false] dF (@F_q2s_ok h a.Ac) fun p l =>
.guard [AllP [f=false]->((0:Int)<=g),AllP [f=false]->(g.toNat<h.F.length)]<|
.reg 4 [] [(21,hc i [] true),(27,hc j [] true),(46,hc k [] true),(50,hc l [] true)] [.clg 8 [d=false] i [] 2 true,.clg 6 [e=false] j [] 2 true,.ev 0,.ev 1,.clg 4 [b=false] k [] 2 true,.clg 2 [b=false] l [] 2 true]<|
.ite (cO b (decide (o>(i64.wrap (p+1))))) (
.r (.ret false)) (
.r (.cont ()))
def S_q4_b2 (d:TBo) (b:Nat) (_:Unit):SC Bool (Step Unit Bool) :=
.reg 9 [] [] [.w b,.ev 0]<|
.a 10 2 2 (@F_q2e_ok d (d.F.getD b dF)) fun c=>
.ite (decide (c<0)) (
.r (.ret false)) (
.r (.cont ()))
def S_q4_b3 (g:TBo) (d:Nat) (e:Nat) (a:Int):SC Bool (Step Int Bool) :=
.reg 24 [] [] [.w e,.ev 0]<|
 let b:=((g.W.take d).getD e dF)
 let f:=(g.W.getD d dF)
.ite (b.X != f.X) (
.c a) (
.ite (cO (!b.Al) (decide (b.Ab>f.Ab))) (
.r (.ret false)) (
.r (.cont (i64.wrap (a+1)))))
def S_q4_b4 (c:TBo) (a:Nat) (_:Unit):SC Bool (Step Unit Bool) :=
.reg 15 [] [] [.w a,.ev 0]<|
 let b:=(c.W.getD a dF)
 let k:=(cO (cO (b.Q != (i64.wrap ((a:Int)+1))) (decide (b.X<1))) (decide (b.X>(c.I.length:Int))))
.calld [k=false] dF (@F_q1g_ok b.Ab) fun m h =>
.reg 16 [] [(21,hc h [] true)] [.clg 0 [k=false] h [] 2 true]<|
.ite (cO k (!m)) (
.r (.ret false)) (
 let l:=(i64.wrap (b.X-1))
.guard [(0:Int)<=l,l.toNat<c.I.length]<|
.reg 18 [] [] [.ev 0,.ev 1]<|
 let n:=(c.I.getD l.toNat dF)
 let f:=(decide (b.Ab<n.Ab))
.calld [f=false] dF (@F_q2b_ok b.Ab) fun o i =>
.calld [f=false] dF (@F_q2s_ok c n.Ac) fun p j =>
.reg 19 [] [(8,hc i [] true),(12,hc j [] true)] [.clg 2 [f=false] i [] 3 true,.clg 0 [f=false] j [] 3 true]<|
.ite (cO f (decide (o>(i64.wrap (p+1))))) (
.r (.ret false)) (
.guard [a<=c.W.length]<|
.reg 22 [] [(3,hv (AV.d (eL TOr.e (c.W.take a))))] [.w a,.ev 0,.der (fun (h0:a<=c.W.length)=>lvT TOr.e c.W h0) 0]<|
.range ((c.W.take a).length:Int) ((c.W.take a).length) rfl (.slot 146) 148 [1,8,89,90,91,146,147] (fun (g:Int)=>[(10,(vi g))]) (fun _=>[]) 1 (S_q4_b3 c a) (fun g => 
.ite (b.Ak != g) (
.r (.ret false)) (
.r (.cont ()))) .ret))
def S_q4 (a:TBo):SC Bool Bool :=
.range (a.I.length:Int) a.I.length rfl (.slot 14) 16 [1,14,15] (fun (_:Unit)=>[]) (fun _=>[]) () (S_q4_b1 a) (fun _ => 
.range (a.F.length:Int) a.F.length rfl (.slot 77) 79 [1,77,78] (fun (_:Unit)=>[]) (fun _=>[]) () (S_q4_b2 a) (fun _ => 
.range (a.W.length:Int) a.W.length rfl (.slot 89) 91 [1,89,90] (fun (_:Unit)=>[]) (fun _=>[]) () (S_q4_b4 a) (fun _ => 
.r true) id) id) id
def F_q4 (a:TBo):=(S_q4 a).den
theorem F_q4_ok {a:TBo}:FO (F_q4 a) 215 [(TBo.d a)] [] vb NL:=fO (s:=S_q4 a) Tryz.func215
end
end Go.Proofs.YtkhgaalekilaeaaGreatDoor
/- What the functions compute,and that their calls return it. No condition. -/
namespace Go.Proofs.YtkhgaalekilaeaaGreatDoor
open Go Go.TA
open Go.IntKind (i64)
noncomputable section
set_option maxRecDepth 100000
def S_q2f (a:TBo):SC Bool Bool :=
.ite (cO (cO (cO (decide ((a.C.length:Int)>200)) (decide ((a.F.length:Int)>200))) (decide ((a.I.length:Int)>200))) (decide ((a.W.length:Int)>200))) (
.r false) (
.call (@F_q2d_ok a) fun b d=>
.calld [b=true] dF (@F_ql_ok a) fun g e =>
 let c:=(bif b then g else false)
.calld [c=true] dF (@F_q4_ok a) fun h f =>
.reg 3 [] [(1,hc d [] true),(4,hc e [] true),(8,hc f [] true)] [.cl 4 d [] 1 true,.clg 2 [b=true] e [] 1 true,.clg 0 [c=true] f [] 1 true]<|
.r (bif c then h else false))
def F_q2f (a:TBo):=(S_q2f a).den
theorem F_q2f_ok {a:TBo}:FO (F_q2f a) 176 [(TBo.d a)] [] vb NL:=fO (s:=S_q2f a) Tryz.func176
def S_q3x (a:TRi):SC Bool Bool :=
.call (@F_qu_ok a.B) fun g d=>
 let b:=(bif (bif g then (decide (a.D>=0)) else false) then (decide (a.D<=99)) else false)
.calld [b=true] dF (@F_qq_ok a.A) fun h e =>
 let c:=(bif b then h else false)
.calld [c=true] dF (@F_qq_ok a.G) fun i f =>
.reg 1 [] [(2,hc d [] true),(16,hc e [] true),(21,hc f [] true)] [.cl 4 d [] 1 true,.clg 2 [b=true] e [] 1 true,.clg 0 [c=true] f [] 1 true]<|
.r (bif (bif (bif c then i else false) then (decide (a.S>=0)) else false) then (decide (a.S<=a.A)) else false)
def F_q3x (a:TRi):=(S_q3x a).den
theorem F_q3x_ok {a:TRi}:FO (F_q3x a) 177 [(TRi.d a)] [] vb NL:=fO (s:=S_q3x a) Tryz.func177
def S_q1h_b1 (c:TOf) (d:Y8) (e:Int) (a:Nat) (_:Unit):SC Int (Step Unit Int) :=
.reg 3 [] [] [.w a,.ev 0]<|
 let b:=(c.L.getD a dF)
.ite (bif (b.B==d) then (b.D==e) else false) (
.r (.ret (a:Int))) (
.r (.cont ()))
def S_q1h (a:TOf) (b:Y8) (c:Int):SC Int Int :=
.range (a.L.length:Int) a.L.length rfl (.slot 10) 12 [1,2,10,11] (fun (_:Unit)=>[]) (fun _=>[]) () (S_q1h_b1 a b c) (fun _ => 
.r (-1)) id
def F_q1h (a:TOf) (b:Y8) (c:Int):=(S_q1h a b c).den
theorem F_q1h_ok {a:TOf} {b:Y8} {c:Int}:FO (F_q1h a b c) 104 [(TOf.d a),(AV.d (Rf b)),(vi c)] [] vi NL:=fO (s:=S_q1h a b c) Tryz.func104
def S_q2t (c:TOf) (d:Y8) (e:Int):SC TRi TRi :=
.a 1 3 2 (@F_q1h_ok c d e) fun b=>
.ite (decide (b>=0)) (
.guard [(0:Int)<=b,b.toNat<c.L.length]<|
.reg 3 [] [] [.ev 0,.ev 1]<|
.r (c.L.getD b.toNat dF)) (
.r (⟨d,e,0,0,0⟩:TRi))
def F_q2t (a:TOf) (b:Y8) (c:Int):=(S_q2t a b c).den
theorem F_q2t_ok {a:TOf} {b:Y8} {c:Int}:FO (F_q2t a b c) 53 [(TOf.d a),(AV.d (Rf b)),(vi c)] [] (fun x=>(TRi.d x)) NL:=fO (s:=S_q2t a b c) Tryz.func53
def S_qr_b1 (f:TBo) (e:Nat) (a:Nat) (b:Int):SC Int (Step Int Int) :=
.reg 9 [] [] [.w a,.ev 0]<|
 let d:=(f.F.getD a dF)
.ite (d.Y==((f.C.getD e dF).Q)) (
.r (.cont (i64.wrap (b-d.Ad)))) (
.c b)
def S_qr_b2 (f:TBo) (g:Y8) (h:Int) (b:Nat) (e:Int):SC Int (Step Int Int) :=
.reg 4 [] [] [.w b,.ev 0]<|
 let a:=(f.C.getD b dF)
.ite (cO (!(a.B==g)) (a.D != h)) (
.c e) (
.range (f.F.length:Int) f.F.length rfl (.slot 37) 39 [1,2,3,9,13,14,15,37,38] (fun (d:Int)=>[(7,(vi d))]) (fun _=>[]) (i64.wrap (e+(i64.wrap (a.V-a.Ad)))) (S_qr_b1 f b) (fun d => 
.c d) .ret)
def S_qr (b:TBo) (c:Y8) (d:Int):SC Int Int :=
.range (b.C.length:Int) b.C.length rfl (.slot 13) 15 [1,2,3,13,14] (fun (a:Int)=>[(7,(vi a))]) (fun _=>[]) 0 (S_qr_b2 b c d) (fun a => 
.r a) id
def F_qr (a:TBo) (b:Y8) (c:Int):=(S_qr a b c).den
theorem F_qr_ok {a:TBo} {b:Y8} {c:Int}:FO (F_qr a b c) 107 [(TBo.d a),(AV.d (Rf b)),(vi c)] [] vi NL:=fO (s:=S_qr a b c) Tryz.func107
def S_q52 (d:TOf) (e:Y8) (f:Int):SC Int Int :=
.a 1 3 1 (@F_q2t_ok d e f) fun b=>
.a 2 9 2 (@F_qr_ok d.Ag e f) fun c=>
.r (i64.wrap ((i64.wrap (b.A-b.S))-c))
def F_q52 (a:TOf) (b:Y8) (c:Int):=(S_q52 a b c).den
theorem F_q52_ok {a:TOf} {b:Y8} {c:Int}:FO (F_q52 a b c) 159 [(TOf.d a),(AV.d (Rf b)),(vi c)] [] vi NL:=fO (s:=S_q52 a b c) Tryz.func159
def S_qm_b1 (g:TOf) (c:Nat) (_:Unit):SC Bool (Step Unit Bool) :=
.reg 5 [] [] [.w c,.ev 0]<|
 let a:=(g.L.getD c dF)
.call (@F_q3x_ok a) fun e h=>
.calld [(!e)=false] dF (@F_q52_ok g a.B a.D) fun l i =>
.reg 6 [] [(1,hc h [] true),(9,hc i [] true)] [.cl 2 h [] 2 true,.clg 0 [(!e)=false] i [] 2 true]<|
.ite (cO (!e) (decide (l<0))) (
.r (.ret false)) (
.ite (decide ((c:Int)>0)) (
 let b:=(i64.wrap ((c:Int)-1))
 let j:=(g.L.getD b.toNat dF)
.call (@F_q17_ok j.B a.B) fun d k=>
.guard [(0:Int)<=b,b.toNat<g.L.length]<|
.reg 9 [] [(9,hc k [] true)] [.ev 0,.ev 1,.cl 2 k [] 2 true]<|
 let f:=(decide (d>0))
.guard [AllP [(d==0)=true,f=false]->((0:Int)<=b),AllP [(d==0)=true,f=false]->(b.toNat<g.L.length)]<|
.reg 10 [] [] [.ev 0,.ev 1]<|
.ite (cO f (bif (d==0) then (decide (j.D>=a.D)) else false)) (
.r (.ret false)) (
.r (.cont ()))) (
.r (.cont ())))
def S_qm_b2 (e:TOf) (b:Nat) (_:Unit):SC Bool (Step Unit Bool) :=
.reg 15 [] [] [.w b,.ev 0]<|
 let c:=(e.Ag.C.getD b dF)
.a 16 5 2 (@F_q1h_ok e c.B c.D) fun d=>
.ite (decide (d<0)) (
.r (.ret false)) (
.r (.cont ()))
def S_qm (a:TOf):SC Bool Bool :=
 let b:=(cO (cO (decide (a.Q<1)) (decide (a.Q>6))) (decide ((a.L.length:Int)>60)))
.calld [b=false] dF (@F_q2f_ok a.Ag) fun d c =>
.reg 1 [] [(17,hc c [] true)] [.clg 0 [b=false] c [] 1 true]<|
.ite (cO b (!d)) (
.r false) (
.range (a.L.length:Int) a.L.length rfl (.slot 29) 31 [1,29,30] (fun (_:Unit)=>[]) (fun _=>[]) () (S_qm_b1 a) (fun _ => 
.range (a.Ag.C.length:Int) a.Ag.C.length rfl (.slot 81) 83 [1,81,82] (fun (_:Unit)=>[]) (fun _=>[]) () (S_qm_b2 a) (fun _ => 
.r true) id) id)
def F_qm (a:TOf):=(S_qm a).den
theorem F_qm_ok {a:TOf}:FO (F_qm a) 126 [(TOf.d a)] [] vb NL:=fO (s:=S_qm a) Tryz.func126
abbrev R_q2u:=(List TRe)×(List TCo)×(List TVe)×(List TOr)
def S_q2u (a:TBo):SC R_q2u R_q2u :=
.reg 0 [] [(1,{ obs:=[(1,(TBo.b (⟨[],[],[],[]⟩:TBo)))] })] [.pf z2t]<|
.guard [a.C.length * (2 * 56)<=2 ^ 48,a.F.length * (2 * 56)<=2 ^ 48,a.I.length * (2 * 32)<=2 ^ 48,a.W.length * (2 * 40)<=2 ^ 48]<|
.reg 1 [3,7,11,15,17] [(3,{ h:=.obj }),(7,{ h:=.obj }),(11,{ h:=.obj }),(15,{ h:=.obj })] [.pf (p:=∀ k,k<a.C.length->(TRe.d (a.C.getD k dF)).wd=6) (fun _ _=>rfl),.ev 0,.pf (p:=∀ k,k<a.F.length->(TCo.d (a.F.getD k dF)).wd=7) (fun _ _=>rfl),.ev 1,.pf (p:=∀ k,k<a.I.length->(TVe.d (a.I.getD k dF)).wd=4) (fun _ _=>rfl),.ev 2,.pf (p:=∀ k,k<a.W.length->(TOr.d (a.W.getD k dF)).wd=5) (fun _ _=>rfl),.ev 3]<|
.kill 0<|
.r (a.C,a.F,a.I,a.W)
def F_q2u (a:TBo):=(S_q2u a).den
theorem F_q2u_ok {a:TBo}:FO (F_q2u a) 203 [(TBo.d a)] [] (fun x=>(Rc [(Rb 2 x.1.length 0 x.1.length),(Rb 3 x.2.1.length 0 x.2.1.length),(Rb 4 x.2.2.1.length 0 x.2.2.1.length),(Rb 5 x.2.2.2.length 0 x.2.2.2.length)])) (fun x=>[Re,(Rd (Rc [(Rb 2 x.1.length 0 x.1.length),(Rb 3 x.2.1.length 0 x.2.1.length),(Rb 4 x.2.2.1.length 0 x.2.2.1.length),(Rb 5 x.2.2.2.length 0 x.2.2.2.length)])),(eS 6 TRe.e x.1),(eS 7 TCo.e x.2.1),(eS 4 TVe.e x.2.2.1),(eS 5 TOr.e x.2.2.2)]):=fO (s:=S_q2u a) Tryz.func203
def S_q6d (t:TBo) (D:Y8) (u:Int) (v:Int) (E:Int):SC (TBo×Int) (TBo×Int) :=
 let g:=(⟨[],[],[],[]⟩:TBo)
.reg 0 [] [(1,{ obs:=[(1,(TBo.b g))] })] [.pf z2t]<|
.a 1 1 2 (@F_q2f_ok t) fun w=>
 let i:=(0,hv (TBo.d g))
.ite (!w) (
.reg 2 [] [i] [.pf zp]<|
.r (g,1)) (
.a 3 1 2 (@F_qu_ok D) fun y=>
.ite (!y) (
.reg 4 [] [i] [.pf zp]<|
.r (g,5)) (
 let j:=(cO (decide (u<0)) (decide (u>99)))
.calld [j=false] dF (@F_q1g_ok v) fun z n =>
 let m:=(cO j (!z))
.calld [m=false] dF (@F_q2c_ok E) fun A q =>
.reg 5 [] [(8,hc n [] true),(13,hc q [] true)] [.clg 2 [j=false] n [] 2 true,.clg 0 [m=false] q [] 2 true]<|
.ite (cO m (!A)) (
.reg 6 [] [i] [.pf zp]<|
.r (g,2)) (
.a 7 1 2 (@F_q2b_ok v) fun B=>
.ite (B != u) (
.reg 8 [] [i] [.pf zp]<|
.r (g,16)) (
.ite ((t.C.length:Int)==200) (
.reg 10 [] [i] [.pf zp]<|
.r (g,3)) (
.call (@F_q2u_ok t) fun c s=>
.reg 11 [] [(1,hc s [] false),(2,{ h:=.obj })] [.cl 0 s [] 2 false]<|
.kill 3<|
.guard [c.2.1.length<2 ^ 63]<|
.frz 5 (.ev 0) none [] [8]<|
.guard [c.2.2.1.length<2 ^ 63]<|
.frz 6 (.ev 0) none [] [8]<|
.guard [c.2.2.2.length<2 ^ 63]<|
.frz 7 (.ev 0) none [] [8]<|
.guard [(c.1.length+1) * (2 * 56)<=2 ^ 48]<|
 let f:=([(⟨(i64.wrap ((t.C.length:Int)+1)),D,u,v,E,0⟩:TRe)]:List TRe)
.reg 12 [] [(11,hv (AV.d (eL TRe.e f))),(12,{ cast:=some (Rb 4 ((c.1++f).length) 0 ((c.1++f).length)),obs:=[(4,(eS 6 TRe.e (c.1++f)))] })] [.pf (za TRe.e f),.e c.1.length,.e c.1.length,.pf (p:=∀ k,k<1->(TRe.d (f.getD k dF)).wd=6) (fun _ _=>rfl),.ev 0,.pf (zy (o:=4) (l:=c.1) (x:=f)),.pf (z12 (sz:=6) (e:=TRe.e) (l:=c.1) (x:=f))]<|
.guard [(c.1++f).length<2 ^ 63]<|
.reg 13 [] [] []<|
.frz 4 (.ev 0) none [] [1,8]<|
.r ((⟨(c.1++f),c.2.1,c.2.2.1,c.2.2.2⟩:TBo),0))))))
def F_q6d (a:TBo) (b:Y8) (c:Int) (d:Int) (e:Int):=(S_q6d a b c d e).den
theorem F_q6d_ok {a:TBo} {b:Y8} {c:Int} {e:Int} {f:Int}:FO (F_q6d a b c e f) 158 [(TBo.d a),(AV.d (Rf b)),(vi c),(vi e),(vi f)] [] (fun x=>(Rg [(TBo.d x.1),(vi x.2)])) NL:=fO (s:=S_q6d a b c e f) Tryz.func158
def S_q6e (m:TBo) (t:Int) (A:Int) (B:Int) (E:Int) (L:Int):SC (TBo×Int) (TBo×Int) :=
 let f:=(⟨[],[],[],[]⟩:TBo)
.reg 0 [] [(1,{ obs:=[(1,(TBo.b f))] })] [.pf z2t]<|
.a 1 1 2 (@F_q2f_ok m) fun G=>
 let g:=(0,hv (TBo.d f))
.ite (!G) (
.reg 2 [] [g] [.pf zp]<|
.r (f,1)) (
.ite (cO (decide (t<1)) (decide (t>(m.C.length:Int)))) (
.reg 4 [] [g] [.pf zp]<|
.r (f,6)) (
.call (@F_q1g_ok A) fun n u=>
.calld [(!n)=false] dF (@F_q2c_ok B) fun H v =>
 let q:=(cO (cO (cO (!n) (!H)) (decide (E<1))) (decide (E>1000000)))
.calld [q=false] dF (@F_q1g_ok L) fun I w =>
.reg 5 [] [(1,hc u [] true),(5,hc v [] true),(18,hc w [] true)] [.cl 4 u [] 2 true,.clg 2 [(!n)=false] v [] 2 true,.clg 0 [q=false] w [] 2 true]<|
.ite (cO q (!I)) (
.reg 6 [] [g] [.pf zp]<|
.r (f,2)) (
 let s:=(i64.wrap (t-1))
.guard [(0:Int)<=s,s.toNat<m.C.length]<|
.reg 7 [] [] [.ev 0,.ev 1]<|
.a 8 1 3 (@F_q2b_ok A) fun J=>
 let y:=(m.C.getD s.toNat dF)
.ite (J != y.D) (
.reg 9 [] [g] [.pf zp]<|
.r (f,16)) (
.ite (decide (A<y.Ab)) (
.reg 11 [] [g] [.pf zp]<|
.r (f,8)) (
.a 12 3 3 (@F_qz_ok m t) fun K=>
.ite (decide (B>K)) (
.reg 13 [] [g] [.pf zp]<|
.r (f,15)) (
.ite ((m.F.length:Int)==200) (
.reg 15 [] [g] [.pf zp]<|
.r (f,3)) (
.call (@F_q2u_ok m) fun c z=>
.reg 16 [] [(1,hc z [] false),(2,{ h:=.obj })] [.cl 0 z [] 3 false]<|
.kill 4<|
.guard [c.1.length<2 ^ 63]<|
.frz 5 (.ev 0) none [] [9]<|
.guard [c.2.2.1.length<2 ^ 63]<|
.frz 7 (.ev 0) none [] [9]<|
.guard [c.2.2.2.length<2 ^ 63]<|
.frz 8 (.ev 0) none [] [9]<|
.guard [(c.2.1.length+1) * (2 * 56)<=2 ^ 48]<|
 let i:=([(⟨(i64.wrap ((m.F.length:Int)+1)),t,A,B,0,E,L⟩:TCo)]:List TCo)
 let j:=(c.2.1++i)
.reg 17 [] [(12,hv (AV.d (eL TCo.e i))),(13,{ cast:=some (Rb 6 j.length 0 j.length),obs:=[(6,(eS 7 TCo.e j))] })] [.pf (za TCo.e i),.e c.2.1.length,.e c.2.1.length,.pf (p:=∀ k,k<1->(TCo.d (i.getD k dF)).wd=7) (fun _ _=>rfl),.ev 0,.pf (zy (o:=6) (l:=c.2.1) (x:=i)),.pf (z12 (sz:=7) (e:=TCo.e) (l:=c.2.1) (x:=i))]<|
.guard [j.length<2 ^ 63]<|
.reg 18 [] [] []<|
.frz 6 (.ev 0) none [] [1,9]<|
.r ((⟨c.1,j,c.2.2.1,c.2.2.2⟩:TBo),0))))))))
def F_q6e (a:TBo) (b:Int) (c:Int) (d:Int) (e:Int) (f:Int):=(S_q6e a b c d e f).den
theorem F_q6e_ok {a:TBo} {b:Int} {c:Int} {e:Int} {f:Int} {g:Int}:FO (F_q6e a b c e f g) 160 [(TBo.d a),(vi b),(vi c),(vi e),(vi f),(vi g)] [] (fun x=>(Rg [(TBo.d x.1),(vi x.2)])) NL:=fO (s:=S_q6e a b c e f g) Tryz.func160
def S_q6f (m:TBo) (s:Int) (B:Int) (C:Int):SC (TBo×Int) (TBo×Int) :=
 let f:=(⟨[],[],[],[]⟩:TBo)
.reg 0 [] [(1,{ obs:=[(1,(TBo.b f))] })] [.pf z2t]<|
.a 1 1 2 (@F_q2f_ok m) fun D=>
 let g:=(0,hv (TBo.d f))
.ite (!D) (
.reg 2 [] [g] [.pf zp]<|
.r (f,1)) (
.ite (cO (decide (s<1)) (decide (s>(m.F.length:Int)))) (
.reg 4 [] [g] [.pf zp]<|
.r (f,6)) (
.call (@F_q1g_ok B) fun n t=>
.calld [(!n)=false] dF (@F_q2c_ok C) fun E u =>
.reg 5 [] [(1,hc t [] true),(5,hc u [] true)] [.cl 2 t [] 2 true,.clg 0 [(!n)=false] u [] 2 true]<|
.ite (cO (!n) (!E)) (
.reg 6 [] [g] [.pf zp]<|
.r (f,2)) (
.call (@F_q2b_ok B) fun G v=>
.call (@F_q2s_ok m s) fun H w=>
.reg 7 [] [(1,hc v [] true),(4,hc w [] true)] [.cl 1 v [] 2 true,.cl 0 w [] 2 true]<|
.ite (decide (G>(i64.wrap (H+1)))) (
.reg 8 [] [g] [.pf zp]<|
.r (f,16)) (
 let q:=(i64.wrap (s-1))
.guard [(0:Int)<=q,q.toNat<m.F.length]<|
.reg 9 [] [] [.ev 0,.ev 1]<|
 let y:=(m.F.getD q.toNat dF)
.ite (decide (B<y.Ab)) (
.reg 10 [] [g] [.pf zp]<|
.r (f,8)) (
.call (@F_q2e_ok m y) fun J z=>
.reg 11 [] [(8,hc z [] true)] [.ev 2,.ev 3,.cl 0 z [] 2 true]<|
.ite (decide (C>J)) (
.reg 12 [] [g] [.pf zp]<|
.r (f,15)) (
.ite ((m.I.length:Int)==200) (
.reg 14 [] [g] [.pf zp]<|
.r (f,3)) (
.call (@F_q2u_ok m) fun c A=>
.reg 15 [] [(1,hc A [] false),(2,{ h:=.obj })] [.cl 0 A [] 2 false]<|
.kill 3<|
.guard [c.1.length<2 ^ 63]<|
.frz 4 (.ev 0) none [] [8]<|
.guard [c.2.1.length<2 ^ 63]<|
.frz 5 (.ev 0) none [] [8]<|
.guard [c.2.2.2.length<2 ^ 63]<|
.frz 7 (.ev 0) none [] [8]<|
.guard [(c.2.2.1.length+1) * (2 * 32)<=2 ^ 48]<|
 let i:=([(⟨(i64.wrap ((m.I.length:Int)+1)),s,B,C⟩:TVe)]:List TVe)
 let j:=(c.2.2.1++i)
.reg 16 [] [(10,hv (AV.d (eL TVe.e i))),(11,{ cast:=some (Rb 6 j.length 0 j.length),obs:=[(6,(eS 4 TVe.e j))] })] [.pf (za TVe.e i),.e c.2.2.1.length,.e c.2.2.1.length,.pf (p:=∀ k,k<1->(TVe.d (i.getD k dF)).wd=4) (fun _ _=>rfl),.ev 0,.pf (zy (o:=6) (l:=c.2.2.1) (x:=i)),.pf (z12 (sz:=4) (e:=TVe.e) (l:=c.2.2.1) (x:=i))]<|
.guard [j.length<2 ^ 63]<|
.reg 17 [] [] []<|
.frz 6 (.ev 0) none [] [1,8]<|
.r ((⟨c.1,c.2.1,j,c.2.2.2⟩:TBo),0))))))))
def F_q6f (a:TBo) (b:Int) (c:Int) (d:Int):=(S_q6f a b c d).den
theorem F_q6f_ok {a:TBo} {b:Int} {c:Int} {e:Int}:FO (F_q6f a b c e) 161 [(TBo.d a),(vi b),(vi c),(vi e)] [] (fun x=>(Rg [(TBo.d x.1),(vi x.2)])) NL:=fO (s:=S_q6f a b c e) Tryz.func161
def S_q2v_b1 (d:TBo) (e:Int) (b:Nat) (a:TOr×Int):SC (TOr×Int) (Step (TOr×Int) (TOr×Int)) :=
.reg 5 [] [] [.w b,.ev 0]<|
 let c:=(d.W.getD b dF)
.ite (c.X==e) (
.r (.cont (c,(i64.wrap (a.2+1))))) (
.r (.cont (a.1,a.2)))
def S_q2v (c:TBo) (d:Int):SC (TOr×Int) (TOr×Int) :=
.range (c.W.length:Int) c.W.length rfl (.slot 11) 13 [1,4,6,11,12] (fun (a:TOr×Int)=>[(7,(vi a.2))]) (fun a=>[(2,(TOr.b a.1))]) ((⟨0,0,0,0,false⟩:TOr),0) (S_q2v_b1 c d) (fun a => 
.r (a.1,a.2)) id
def F_q2v (a:TBo) (b:Int):=(S_q2v a b).den
theorem F_q2v_ok {a:TBo} {b:Int}:FO (F_q2v a b) 207 [(TBo.d a),(vi b)] [] (fun x=>(Rg [(TOr.d x.1),(vi x.2)])) NL:=fO (s:=S_q2v a b) Tryz.func207
def S_q6g (n:TBo) (s:Int) (t:Int):SC (TBo×Int) (TBo×Int) :=
 let f:=(⟨[],[],[],[]⟩:TBo)
.reg 0 [] [(1,{ obs:=[(1,(TBo.b f))] })] [.pf z2t]<|
.a 1 1 2 (@F_q2f_ok n) fun z=>
 let g:=(0,hv (TBo.d f))
.ite (!z) (
.reg 2 [] [g] [.pf zp]<|
.r (f,1)) (
.ite (cO (decide (s<1)) (decide (s>(n.I.length:Int)))) (
.reg 4 [] [g] [.pf zp]<|
.r (f,6)) (
.a 5 1 2 (@F_q1g_ok t) fun A=>
.ite (!A) (
.reg 6 [] [g] [.pf zp]<|
.r (f,2)) (
 let q:=(i64.wrap (s-1))
.guard [(0:Int)<=q,q.toNat<n.I.length]<|
.reg 7 [] [] [.ev 0,.ev 1]<|
.a 8 2 3 (@F_q2v_ok n s) fun j=>
.call (@F_q2b_ok t) fun B u=>
 let v:=(n.I.getD q.toNat dF)
.call (@F_q2s_ok n v.Ac) fun C w=>
.reg 9 [] [(1,hc u [] true),(5,hc w [] true)] [.cl 1 u [] 4 true,.cl 0 w [] 4 true]<|
.ite (decide (B>(i64.wrap (C+1)))) (
.reg 10 [] [g] [.pf zp]<|
.r (f,16)) (
.ite (bif (decide (j.2>0)) then (!j.1.Al) else false) (
.reg 12 [] [g] [.pf zp]<|
.r (f,20)) (
.ite (cO (decide (t<v.Ab)) (bif (decide (j.2>0)) then (decide (t<j.1.Ab)) else false)) (
.reg 14 [] [g] [.pf zp]<|
.r (f,8)) (
.ite ((n.W.length:Int)==200) (
.reg 16 [] [g] [.pf zp]<|
.r (f,3)) (
.call (@F_q2u_ok n) fun c y=>
.reg 17 [] [(1,hc y [] false),(2,{ h:=.obj })] [.cl 0 y [] 4 false]<|
.kill 5<|
.guard [c.1.length<2 ^ 63]<|
.frz 6 (.ev 0) none [] [10]<|
.guard [c.2.1.length<2 ^ 63]<|
.frz 7 (.ev 0) none [] [10]<|
.guard [c.2.2.1.length<2 ^ 63]<|
.frz 8 (.ev 0) none [] [10]<|
.guard [(c.2.2.2.length+1) * (2 * 40)<=2 ^ 48]<|
 let i:=([(⟨(i64.wrap ((n.W.length:Int)+1)),s,(i64.wrap (j.2+1)),t,false⟩:TOr)]:List TOr)
 let m:=(c.2.2.2++i)
.reg 18 [] [(11,hv (AV.d (eL TOr.e i))),(12,{ cast:=some (Rb 9 m.length 0 m.length),obs:=[(9,(eS 5 TOr.e m))] })] [.pf (za TOr.e i),.e c.2.2.2.length,.e c.2.2.2.length,.pf (p:=∀ k,k<1->(TOr.d (i.getD k dF)).wd=5) (fun _ _=>rfl),.ev 0,.pf (zy (o:=9) (l:=c.2.2.2) (x:=i)),.pf (z12 (sz:=5) (e:=TOr.e) (l:=c.2.2.2) (x:=i))]<|
.guard [m.length<2 ^ 63]<|
.reg 19 [] [] []<|
.frz 9 (.ev 0) none [] [1,10]<|
.r ((⟨c.1,c.2.1,c.2.2.1,m⟩:TBo),0))))))))
def F_q6g (a:TBo) (b:Int) (c:Int):=(S_q6g a b c).den
theorem F_q6g_ok {a:TBo} {b:Int} {c:Int}:FO (F_q6g a b c) 162 [(TBo.d a),(vi b),(vi c)] [] (fun x=>(Rg [(TBo.d x.1),(vi x.2)])) NL:=fO (s:=S_q6g a b c) Tryz.func162
def S_q6h (t:TBo) (y:Int) (z:Int):SC (TBo×Int) (TBo×Int) :=
 let f:=(⟨[],[],[],[]⟩:TBo)
 let j:=(TBo.b f)
.reg 0 [] [(1,{ obs:=[(1,j)] })] [.pf z2t]<|
.a 1 1 2 (@F_q2f_ok t) fun E=>
 let k:=(0,hv (TBo.d f))
.ite (!E) (
.reg 2 [] [k] [.pf zp]<|
.r (f,1)) (
.ite (cO (decide (y<1)) (decide (y>(t.C.length:Int)))) (
.reg 4 [] [k] [.pf zp]<|
.r (f,6)) (
.a 5 1 2 (@F_q2c_ok z) fun F=>
.ite (!F) (
.reg 6 [] [k] [.pf zp]<|
.r (f,2)) (
.a 7 3 2 (@F_qz_ok t y) fun G=>
.ite (decide (z>G)) (
.reg 8 [] [k] [.pf zp]<|
.r (f,15)) (
.call (@F_q2u_ok t) fun c u=>
.reg 9 [] [(1,hc u [] false),(2,{ obs:=[(8,j)] })] [.cl 0 u [] 2 false,.pf z2t]<|
.kill 3<|
.guard [c.2.1.length<2 ^ 63]<|
.frz 5 (.ev 0) none [] [8]<|
.guard [c.2.2.1.length<2 ^ 63]<|
.frz 6 (.ev 0) none [] [8]<|
.guard [c.2.2.2.length<2 ^ 63]<|
.frz 7 (.ev 0) none [] [8]<|
 let q:=(i64.wrap (y-1))
 let m:=(0+q.toNat)
.guard [(0:Int)<=q,q.toNat<c.1.length,m<c.1.length]<|
 let g:=(c.1.getD m dF)
 let v:=(⟨g.Q,g.B,g.D,g.Ab,g.V,(i64.wrap (g.Ad+z))⟩:TRe)
 let h:=(c.1.set m v)
 let s:=(eS 6 TRe.e h)
.reg 10 [] [(11,{ obs:=[(4,s)] })] [.e c.1.length,.ev 0,.ev 1,.e c.1.length,.e c.1.length,.ev 2,.e c.1.length,.ev 0,.ev 1,.e c.1.length,.e c.1.length,.ev 2,.pf (zo (sz:=6) (e:=TRe.e) (l:=c.1) (i:=m) (x:=v) (fun _=>rfl))]<|
 let w:=(AV.d (eL TVe.e c.2.2.1))
 let n:=(AV.d (eL TOr.e c.2.2.2))
 let o:=(AV.d (eL TCo.e c.2.1))
 let p:=[(6,(vp 1)),(8,(vp 8))]
.cst (A:=True) (.pf trivial) p p [(TBo.b t),j,Re,Re,s,Re,Re,Re,(Rd (Rc [(Rb 4 c.1.length 0 c.1.length),o,w,n]))] [(TBo.b t),j,Re,Re,s,Re,Re,Re,(Rd (Rc [(Rb 4 h.length 0 h.length),o,w,n]))] (fun _=>⟨Zd,Zb⟩)<|
.guard [h.length<2 ^ 63]<|
.reg 11 [] [] []<|
.frz 4 (.ev 0) none [] [1,8]<|
.r ((⟨h,c.2.1,c.2.2.1,c.2.2.2⟩:TBo),0)))))
def F_q6h (a:TBo) (b:Int) (c:Int):=(S_q6h a b c).den
theorem F_q6h_ok {a:TBo} {b:Int} {c:Int}:FO (F_q6h a b c) 163 [(TBo.d a),(vi b),(vi c)] [] (fun x=>(Rg [(TBo.d x.1),(vi x.2)])) NL:=fO (s:=S_q6h a b c) Tryz.func163
end
end Go.Proofs.YtkhgaalekilaeaaGreatDoor
