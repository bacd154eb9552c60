/- A part of the proof: what the functions compute, and that their calls return it. No condition. -/
import Derived.Test.YtgbpiaddmclccaaGreatDoorG5
/- What the functions compute, and that their calls return it. No condition. -/
namespace Go.Proofs.YtgbpiaddmclccaaGreatDoor
open Go Go.TA
open Go.IntKind (i64)
noncomputable section
set_option maxRecDepth 100000
abbrev R_q1b:=Int×TTape×(List TPo)
def V_q1b (x:R_q1b):AV:=(AV.agg [(vi x.1),(AV.ref 4 x.2.2.length 0 x.2.2.length)])
def L_q1b (x:R_q1b):List Ob:=[(TTape.b x.2.1),Ob.dead,(Ob.box (AV.agg [(vi x.1),(AV.ref 4 x.2.2.length 0 x.2.2.length)])),Ob.dead,(eS 7 TPo.e x.2.2)]
def S_q1b_b1 (i0:Nat) (H:TTr) (I:TTape) (t:Nat) (f:Int×(List TPo)):SC R_q1b (Step (Int×(List TPo)) R_q1b) :=
.reg 4 [] [(2,{ obs:=[(9,(TPo.b (⟨[],0,0,[],[],[],[]⟩:TPo)))] })] [.w t,.ev 0,.pf cz1]<|
 let a:=(H.E.getD t dF)
.guard [a.A.length * (2 * 8)<=2 ^ 48]<|
.reg 5 [] [(3,{ h:=.obj })] [.pf (p:=∀ k,k<a.A.length->(AV.d (Ra (a.A.getD k dF))).wd=1) (fun _ _=>rfl),.ev 0]<|
.guard [a.G.length * (2 * 8)<=2 ^ 48]<|
.reg 6 [] [(3,{ h:=.obj })] [.pf (p:=∀ k,k<a.G.length->(AV.d (Ra (a.G.getD k dF))).wd=1) (fun _ _=>rfl),.ev 0]<|
.guard [a.F.length * (2 * 8)<=2 ^ 48]<|
.reg 7 [] [(3,{ h:=.obj })] [.pf (p:=∀ k,k<a.F.length->(AV.d (Ra (a.F.getD k dF))).wd=1) (fun _ _=>rfl),.ev 0]<|
.guard [a.M.length * (2 * 8)<=2 ^ 48]<|
.reg 8 [] [(3,{ h:=.obj })] [.pf (p:=∀ k,k<a.M.length->(AV.d (Ra (a.M.getD k dF))).wd=1) (fun _ _=>rfl),.ev 0]<|
.guard [(f.2.length+1) * (2 * 128)<=2 ^ 48]<|
 let g:=(Rc [(AV.d (Rf a.B)),(vi a.D),(vi a.T),(rr 10 a.A),(rr 11 a.G),(rr 12 a.F),(rr 13 a.M)])
 let n:=(f.2.getD i0 dF)
 let s:=(Rc [(AV.d (Rf n.B)),(vi n.D),(vi n.T),(rr 5 n.A),(rr 6 n.G),(rr 7 n.F),(rr 8 n.M)])
 let m:=(f.2++[a])
 let y:=(Rb 4 m.length 0 m.length)
.reg 9 [] [(3,{ h:=.obj }),(4,{ h:=.obj,cast:=some y,obs:=[(4,(Ob.seq 7 m.length (catF f.2.length (fun j=>AV.sel (decide (j=i0)) 7 s (TPo.d (f.2.getD j dF))) (listF AV.bot [g]))))] })] [.e 1,.e f.2.length,.e f.2.length,.pf (p:=∀ k,k<1->(listF AV.bot [g] k).wd=7) (fun k hk=>by obtain rfl:k=0:=om; rfl),.ev 0,.pf (zw (o:=4) (l:=f.2) (x:=[a])),.pf (p:=OLe (Ob.seq 7 (f.2.length+1) (catF f.2.length (fun j=>AV.sel (decide (j=i0)) 7 s (TPo.d (f.2.getD j dF))) (listF AV.bot [g]))) (Ob.seq 7 m.length (catF f.2.length (fun j=>AV.sel (decide (j=i0)) 7 s (TPo.d (f.2.getD j dF))) (listF AV.bot [g])))) (zf9 zd9)]<|
 let z:=((f.2.length=i0->0<a.A.length/\0<a.G.length/\0<a.F.length/\0<a.M.length)/\(a.A.length<2 ^ 63/\a.G.length<2 ^ 63/\a.F.length<2 ^ 63/\a.M.length<2 ^ 63))
.guard [z]<|
 let C:=[(0,(vp 0)),(4,(vp 2)),(5,(vp 3)),(14,(AV.d (eL TPo.e H.E))),(15,(vi (H.E.length:Int))),(16,(vi (t:Int)))]
 let u:=(TTr.b (⟨0,[]⟩:TTr))
 let v:=(Rc [(vi f.1),y])
 let q:=(TTape.b I)
 let r:=(TTr.b H)
.sh (A:=z) (.ev 0) C C [q,r,u,(Rd v),(Ob.seq 7 m.length (catF f.2.length (fun j=>AV.sel (decide (j=i0)) 7 s (TPo.d (f.2.getD j dF))) (listF AV.bot [g]))),(eQ (opQ TPo.A i0 f.2)),(eQ (opQ TPo.G i0 f.2)),(eQ (opQ TPo.F i0 f.2)),(eQ (opQ TPo.M i0 f.2)),(Rd g),(eQ a.A),(eQ a.G),(eQ a.F),(eQ a.M),(Ob.seq 7 1 (listF AV.bot [g]))] [q,r,u,(Rd v),(oTApiPot.R 5 i0 m),(eQ (opQ TPo.A i0 m)),(eQ (opQ TPo.G i0 m)),(eQ (opQ TPo.F i0 m)),(eQ (opQ TPo.M i0 m)),(Rd g),Re,Re,Re,Re,(Ob.seq 7 1 (listF AV.bot [g]))] (fun h=>z7a oTApiPot (P:=[q,r,u,(Rd v)]) (D:=[(Rd g)]) (E:=[(Ob.seq 7 1 (listF AV.bot [g]))]) (i:=i0) (l:=f.2) (x:=a) rfl rfl (fun j hj=>z1t hj) zit h.1 h.2) (z14 _)<|
.c (f.1,f.2++[a])
def S_q1b (i0:Nat) (a1:TTr) (p0:TTape):SC R_q1b R_q1b :=
 let q:=(TTr.b (⟨0,[]⟩:TTr))
.reg 0 [] [(1,{ obs:=[(2,q)] })] [.pf cz4]<|
.reg 1 [] [(2,{ h:=.obj }),(3,{ h:=.obj })] []<|
 let g:=(TTr.b a1)
 let ag:=(Rc [(vi a1.P),(Rb 4 0 0 0)])
 let O:=(TTape.b p0)
 let bm:=[O,g,q,(Rd ag),(eS 7 TPo.e ([]:List TPo))]
 let bn:=[(0,(vp 0)),(3,(vp 1)),(4,(vp 2)),(5,(vp 3))]
.sh (A:=True) (.pf trivial) bn bn [O,g,q,(Rd (Rc [(vi a1.P),(AV.full 0 fun _=>DV.b false)]))] bm (fun _=>(z28 (sz:=7) (f:=fun j=>AV.d (TPo.e (([]:List TPo).getD j dF))) (.keep _ _ _ _ (yv rfl) (.keep _ _ _ _ (yv rfl) (.keep _ _ _ _ (yv rfl) (.box _ _ _ _ _ (yv rfl) (TrV.agg (Rk (TrV.keep _) (Rk TrV.born TrL.nil))) (.nil _))))))) (z1a (k:=0) rfl (Rj _) (z1a (k:=1) rfl (Rj _) (z1a (k:=2) rfl (Rj _) (z1a (k:=3) rfl (Rj _) z2n))))<|
.reg 2 [] [] []<|
 let ah:=[(0,(vp 0)),(4,(vp 2)),(5,(vp 3)),(14,(AV.d (eL TPo.e a1.E))),(15,(vi (a1.E.length:Int))),(16,(vi 0))]
 let bo:=[O,g,q,(Rd ag),(oTApiPot.R 5 i0 [])]
.sh (A:=True) (.pf trivial) ah ah bm bo (fun _=>zgi (P:=[O,g,q,(Rd ag)]) (D:=[]) (b:=(oTApiPot.R 5 i0 [])) zkf) (z14 _)<|
.sh (A:=True) (.pf trivial) ah ah bo [O,g,q,(Rd ag),(oTApiPot.R 5 i0 []),(eQ (opQ TPo.A i0 ([]:List TPo))),(eQ (opQ TPo.G i0 ([]:List TPo))),(eQ (opQ TPo.F i0 ([]:List TPo))),(eQ (opQ TPo.M i0 ([]:List TPo)))] (fun _=>z87) (z14 _)<|
.range (a1.E.length:Int) a1.E.length rfl (.slot 14) 16 [0,4,5,14,15] (fun (_:Int×(List TPo))=>[]) (fun X=>[(3,(Rd (Rc [(vi X.1),(Rb 4 X.2.length 0 X.2.length)]))),(4,(oTApiPot.R 5 i0 X.2)),(5,(eQ (opQ TPo.A i0 X.2))),(6,(eQ (opQ TPo.G i0 X.2))),(7,(eQ (opQ TPo.F i0 X.2))),(8,(eQ (opQ TPo.M i0 X.2)))]) (a1.P,([]:List TPo)) (S_q1b_b1 i0 a1 p0) (fun c =>
 let Y:=((c.2.length:Int)==0)
.calld [Y=false] (dF,p0) (@F_q2_ok 6 p0) fun az cp =>
 let a:=(c.2.getD i0 dF)
 let m:=(Rc [(vi c.1),(Rb 4 c.2.length 0 c.2.length)])
 let K:=(Rb 7 a.F.length 0 a.F.length)
 let H:=a.A.length
 let Q:=(Rb 5 H 0 H)
 let ai:=a.G.length
 let S:=(Rb 6 ai 0 ai)
 let aj:=a.M.length
 let U:=(Rb 8 aj 0 aj)
 let w:=(AV.d (Rf a.B))
 let Z:=(Rc [w,(vi a.D),(vi a.T),Q,S,K,U])
 let ak:=(eQ (opQ TPo.A i0 c.2))
 let al:=(eQ (opQ TPo.G i0 c.2))
 let am:=(eQ (opQ TPo.F i0 c.2))
 let an:=(eQ (opQ TPo.M i0 c.2))
 let ao:=(TTape.b az.2)
 let ba:=[ao,g,q,(Rd m),(opS 7 TPo.e i0 Z c.2),ak,al,am,an]
.reg 11 [] [(6,hc cp [0] false)] [.clg 0 [Y=false] cp [0] 9 false,.der (fun (h:¬ AllP [Y=false]->(dF,p0)=az) (hn:¬ AllP [Y=false])=>(by obtain rfl:=h hn; rfl:[O,g,q,(Rd m),(opS 7 TPo.e i0 Z c.2),ak,al,am,an]=ba)) 1]<|
 let bp:=(cO Y (az.1==5))
 let ap:=[(0,(vp 0)),(4,(vp 2)),(5,(vp 3)),(55,(vb bp))]
.ite bp (
.guard [c.2.length<=i0]<|
.sh (A:=c.2.length<=i0) (.ev 0) ap ap ba [ao,g,q,(Rd m),(eS 7 TPo.e c.2),ak,al,am,an] (fun h=>zgi (P:=[ao,g,q,(Rd m)]) (D:=[ak,al,am,an]) (zre h)) (z14 _)<|
.kill 5<|
.kill 6<|
.kill 7<|
.kill 8<|
.call (@F_q8_ok ([0,1,6,7]:List Int) az.2) fun cq cr=>
.reg 12 [] [(1,hv (vl ([0,1,6,7]:List Int))),(2,hc cr [0] false)] [.pf (z9 Ra ([0,1,6,7]:List Int)),.cl 0 cr [0] 9 false]<|
.reg 13 [] [] []<|
.kill 1<|
.kill 3<|
.r (cq.1,cq.2,c.2)) (
.guard [i0<c.2.length]<|
 let s:=(eQ a.F)
 let t:=(eQ a.M)
 let z:=(eQ a.A)
 let C:=(eQ a.G)
.cst (A:=i0<c.2.length) (.ev 0) ap ap ba [ao,g,q,(Rd m),(opS 7 TPo.e i0 Z c.2),z,C,s,t] (fun h=>⟨rfl,by simp +zetaDelta only[ziu h]⟩)<|
.call (@F_q2_ok (c.2.length:Int) az.2) fun bb cs=>
.guard [(0:Int)<=bb.1,bb.1.toNat<c.2.length]<|
.reg 14 [6] [(6,hc cs [0] false)] [.cl 2 cs [0] 9 false,.e c.2.length,.ev 0,.ev 1]<|
.guard [bb.1.toNat=i0]<|
 let bq:=(Ri 4 c.2.length [.x i0 7])
.lev 8 bq (.der (fun (h:bb.1.toNat=i0)=>ztj (o:=4) (st:=c.2.length) (sz:=7) (r:=[]) h) 0)<|
.call (@F_q2_ok (a.A.length:Int) bb.2) fun af ct=>
.reg 15 [] [(6,hc ct [0] false)] [.e c.2.length,.e c.2.length,.ev 5,.pf (p:=decide (i0=i0)=true) (y9 rfl),.cl 0 ct [0] 9 false]<|
.call (@F_q2_ok 7 af.2) fun v cy=>
.k 16 1 cy [0] 9 false<|
.ite (v.1==0) (
.call (@F_q64_ok v.2) fun bc cu=>
 let bi:=(Rc [(AV.d (Rf bc.1)),(vi a.D),(vi a.T),Q,S,K,U])
.reg 19 [] [(2,hc cu [0] false),(5,{ obs:=[(4,(opS 7 TPo.e i0 bi c.2))] })] [.cl 0 cu [0] 9 false,.e c.2.length,.e c.2.length,.ev 8,.pf (p:=decide (i0=i0)=true) (y9 rfl),.pf (p:=OLe (Ob.seq 7 c.2.length fun j=>if j=i0 then bi else AV.sel (decide (j=i0)) 7 Z (TPo.d (c.2.getD j dF))) (opS 7 TPo.e i0 bi c.2)) (z63 rfl)]<|
.reg 30 [] [] []<|
.guard [a.A.length<2 ^ 63/\a.G.length<2 ^ 63/\a.F.length<2 ^ 63/\a.M.length<2 ^ 63]<|
 let br:=(⟨bc.1,a.D,a.T,a.A,a.G,a.F,a.M⟩:TPo)
 let aa:=(c.2.set i0 br)
 let aq:=(TTape.b bc.2)
 let bs:=[aq,g,(Rd m),(Rd m),(eS 7 TPo.e aa),Re,Re,Re,Re]
.sh (A:=a.A.length<2 ^ 63/\a.G.length<2 ^ 63/\a.F.length<2 ^ 63/\a.M.length<2 ^ 63) (.ev 0) [(4,(vp 2))] [(4,(vp 2))] [aq,g,(Rd m),(Rd m),(opS 7 TPo.e i0 bi c.2),z,C,s,t] bs (fun h=>z1j oTApiPot (P:=[aq,g,(Rd m),(Rd m)]) (D:=[]) rfl (⟨bc.1,a.D,a.T,[],[],[],[]⟩:TPo) br h rfl) (z14 _)<|
 let bt:=(Rc [(vi c.1),(Rb 4 aa.length 0 aa.length)])
.cst (A:=True) (.pf trivial) [(4,(vp 2))] [(4,(vp 2))] bs [aq,g,(Rd bt),(Rd bt),(eS 7 TPo.e aa),Re,Re,Re,Re] (fun _=>⟨Zd,Zb⟩)<|
.kill 1<|
.kill 3<|
.r (c.1,bc.2,aa)) (
.ite (v.1==1) (
.call (@F_q8_ok ([(-1),99,100]:List Int) v.2) fun bd cv=>
 let bj:=(Rc [w,(vi bd.1),(vi a.T),Q,S,K,U])
.reg 21 [] [(2,hv (vl ([(-1),99,100]:List Int))),(3,hc cv [0] false),(6,{ obs:=[(4,(opS 7 TPo.e i0 bj c.2))] })] [.pf (z9 Ra ([(-1),99,100]:List Int)),.cl 0 cv [0] 9 false,.e c.2.length,.e c.2.length,.ev 9,.pf (p:=decide (i0=i0)=true) (y9 rfl),.pf (p:=OLe (Ob.seq 7 c.2.length fun j=>if j=i0 then bj else AV.sel (decide (j=i0)) 7 Z (TPo.d (c.2.getD j dF))) (opS 7 TPo.e i0 bj c.2)) (z63 rfl)]<|
.reg 30 [] [] []<|
.guard [a.A.length<2 ^ 63/\a.G.length<2 ^ 63/\a.F.length<2 ^ 63/\a.M.length<2 ^ 63]<|
 let bu:=(⟨a.B,bd.1,a.T,a.A,a.G,a.F,a.M⟩:TPo)
 let ab:=(c.2.set i0 bu)
 let ar:=(TTape.b bd.2)
 let bv:=[ar,g,(Rd m),(Rd m),(eS 7 TPo.e ab),Re,Re,Re,Re]
.sh (A:=a.A.length<2 ^ 63/\a.G.length<2 ^ 63/\a.F.length<2 ^ 63/\a.M.length<2 ^ 63) (.ev 0) [(4,(vp 2))] [(4,(vp 2))] [ar,g,(Rd m),(Rd m),(opS 7 TPo.e i0 bj c.2),z,C,s,t] bv (fun h=>z1j oTApiPot (P:=[ar,g,(Rd m),(Rd m)]) (D:=[]) rfl (⟨a.B,bd.1,a.T,[],[],[],[]⟩:TPo) bu h rfl) (z14 _)<|
 let bw:=(Rc [(vi c.1),(Rb 4 ab.length 0 ab.length)])
.cst (A:=True) (.pf trivial) [(4,(vp 2))] [(4,(vp 2))] bv [ar,g,(Rd bw),(Rd bw),(eS 7 TPo.e ab),Re,Re,Re,Re] (fun _=>⟨Zd,Zb⟩)<|
.kill 1<|
.kill 3<|
.r (c.1,bd.2,ab)) (
.ite (v.1==2) (
.call (@F_q8_ok ([(-1000000000000001),1000000000000000,1000000000000001]:List Int) v.2) fun be cw=>
 let bk:=(Rc [w,(vi a.D),(vi be.1),Q,S,K,U])
.reg 23 [] [(2,hv (vl ([(-1000000000000001),1000000000000000,1000000000000001]:List Int))),(3,hc cw [0] false),(6,{ obs:=[(4,(opS 7 TPo.e i0 bk c.2))] })] [.pf (z9 Ra ([(-1000000000000001),1000000000000000,1000000000000001]:List Int)),.cl 0 cw [0] 9 false,.e c.2.length,.e c.2.length,.ev 10,.pf (p:=decide (i0=i0)=true) (y9 rfl),.pf (p:=OLe (Ob.seq 7 c.2.length fun j=>if j=i0 then bk else AV.sel (decide (j=i0)) 7 Z (TPo.d (c.2.getD j dF))) (opS 7 TPo.e i0 bk c.2)) (z63 rfl)]<|
.reg 30 [] [] []<|
.guard [a.A.length<2 ^ 63/\a.G.length<2 ^ 63/\a.F.length<2 ^ 63/\a.M.length<2 ^ 63]<|
 let bx:=(⟨a.B,a.D,be.1,a.A,a.G,a.F,a.M⟩:TPo)
 let ac:=(c.2.set i0 bx)
 let au:=(TTape.b be.2)
 let bz:=[au,g,(Rd m),(Rd m),(eS 7 TPo.e ac),Re,Re,Re,Re]
.sh (A:=a.A.length<2 ^ 63/\a.G.length<2 ^ 63/\a.F.length<2 ^ 63/\a.M.length<2 ^ 63) (.ev 0) [(4,(vp 2))] [(4,(vp 2))] [au,g,(Rd m),(Rd m),(opS 7 TPo.e i0 bk c.2),z,C,s,t] bz (fun h=>z1j oTApiPot (P:=[au,g,(Rd m),(Rd m)]) (D:=[]) rfl (⟨a.B,a.D,be.1,[],[],[],[]⟩:TPo) bx h rfl) (z14 _)<|
 let ca:=(Rc [(vi c.1),(Rb 4 ac.length 0 ac.length)])
.cst (A:=True) (.pf trivial) [(4,(vp 2))] [(4,(vp 2))] bz [au,g,(Rd ca),(Rd ca),(eS 7 TPo.e ac),Re,Re,Re,Re] (fun _=>⟨Zd,Zb⟩)<|
.kill 1<|
.kill 3<|
.r (c.1,be.2,ac)) (
 let av:=(⟨a.B,a.D,a.T,[],[],[],[]⟩:TPo)
 let I:=(0+af.1.toNat)
.ite (v.1==3) (
.call (@F_q8_ok ([(-1),0,1000000000000000,1000000000000001]:List Int) v.2) fun aw cb=>
.guard [(0:Int)<=af.1,af.1.toNat<a.A.length,I<a.A.length]<|
 let y:=(a.A.set I aw.1)
 let ax:=(eQ y)
.reg 25 [7,9] [(6,hv (vl ([(-1),0,1000000000000000,1000000000000001]:List Int))),(7,hc cb [0] false),(9,{ obs:=[(5,ax)] })] [.e c.2.length,.e c.2.length,.e c.2.length,.ev 14,.pf (p:=decide (i0=i0)=true) (y9 rfl),.e c.2.length,.ev 14,.pf (p:=decide (i0=i0)=true) (y9 rfl),.pf (z9 Ra ([(-1),0,1000000000000000,1000000000000001]:List Int)),.cl 3 cb [0] 9 false,.e H,.ev 0,.ev 1,.e H,.ev 2,.pf (zk (sz:=1) (e:=Ra) (l:=a.A) (i:=I) (x:=aw.1) (fun _=>rfl))]<|
.reg 30 [] [] []<|
.guard [y.length=a.A.length]<|
 let V:=(TTape.b aw.2)
.cst (A:=y.length=a.A.length) (.ev 0) [(4,(vp 2))] [(4,(vp 2))] [V,g,(Rd (Rc [(vi c.1),(Rb 4 c.2.length 0 c.2.length)])),(Rd (Rc [(vi c.1),(Rb 4 c.2.length 0 c.2.length)])),(opS 7 TPo.e i0 (Rc [w,(vi a.D),(vi a.T),(Rb 5 a.A.length 0 a.A.length),(Rb 6 a.G.length 0 a.G.length),(Rb 7 a.F.length 0 a.F.length),(Rb 8 a.M.length 0 a.M.length)]) c.2),ax,C,s,t] [V,g,(Rd (Rc [(vi c.1),(Rb 4 c.2.length 0 c.2.length)])),(Rd (Rc [(vi c.1),(Rb 4 c.2.length 0 c.2.length)])),(opS 7 TPo.e i0 (Rc [w,(vi a.D),(vi a.T),(Rb 5 y.length 0 y.length),(Rb 6 a.G.length 0 a.G.length),(Rb 7 a.F.length 0 a.F.length),(Rb 8 a.M.length 0 a.M.length)]) c.2),ax,C,s,t] (fun h=>⟨rfl,by rw[h]⟩)<|
.guard [y.length<2 ^ 63/\a.G.length<2 ^ 63/\a.F.length<2 ^ 63/\a.M.length<2 ^ 63]<|
 let cc:=(⟨a.B,a.D,a.T,y,a.G,a.F,a.M⟩:TPo)
 let bf:=(c.2.set i0 cc)
 let cd:=[V,g,(Rd m),(Rd m),(eS 7 TPo.e bf),Re,Re,Re,Re]
.sh (A:=y.length<2 ^ 63/\a.G.length<2 ^ 63/\a.F.length<2 ^ 63/\a.M.length<2 ^ 63) (.ev 0) [(4,(vp 2))] [(4,(vp 2))] [V,g,(Rd m),(Rd m),(opS 7 TPo.e i0 (Rc [w,(vi a.D),(vi a.T),(Rb 5 y.length 0 y.length),S,K,U]) c.2),ax,C,s,t] cd (fun h=>z1j oTApiPot (P:=[V,g,(Rd m),(Rd m)]) (D:=[]) rfl av cc h rfl) (z14 _)<|
 let ce:=(Rc [(vi c.1),(Rb 4 bf.length 0 bf.length)])
.cst (A:=True) (.pf trivial) [(4,(vp 2))] [(4,(vp 2))] cd [V,g,(Rd ce),(Rd ce),(eS 7 TPo.e bf),Re,Re,Re,Re] (fun _=>⟨Zd,Zb⟩)<|
.kill 1<|
.kill 3<|
.r (c.1,aw.2,bf)) (
.ite (v.1==4) (
.call (@F_q2_ok 2 v.2) fun bg cf=>
.guard [(0:Int)<=af.1,af.1.toNat<a.A.length,I<a.A.length,af.1.toNat<a.G.length,I<a.G.length]<|
 let cg:=(i64.wrap ((a.A.getD I dF)+bg.1))
 let N:=(a.G.set I cg)
 let ay:=(eQ N)
.reg 27 [13,16] [(13,hc cf [0] false),(16,{ obs:=[(6,ay)] })] [.e c.2.length,.e c.2.length,.e c.2.length,.ev 17,.pf (p:=decide (i0=i0)=true) (y9 rfl),.e c.2.length,.ev 17,.pf (p:=decide (i0=i0)=true) (y9 rfl),.e c.2.length,.e c.2.length,.e c.2.length,.ev 17,.pf (p:=decide (i0=i0)=true) (y9 rfl),.e c.2.length,.ev 17,.pf (p:=decide (i0=i0)=true) (y9 rfl),.e H,.ev 0,.ev 1,.e H,.ev 0,.ev 1,.e H,.ev 2,.e H,.ev 2,.cl 5 cf [0] 9 false,.e ai,.ev 0,.ev 3,.e ai,.ev 4,.pf (zk (sz:=1) (e:=Ra) (l:=a.G) (i:=I) (x:=cg) (fun _=>rfl))]<|
.reg 30 [] [] []<|
.guard [N.length=a.G.length]<|
 let W:=(TTape.b bg.2)
.cst (A:=N.length=a.G.length) (.ev 0) [(4,(vp 2))] [(4,(vp 2))] [W,g,(Rd (Rc [(vi c.1),(Rb 4 c.2.length 0 c.2.length)])),(Rd (Rc [(vi c.1),(Rb 4 c.2.length 0 c.2.length)])),(opS 7 TPo.e i0 (Rc [w,(vi a.D),(vi a.T),(Rb 5 a.A.length 0 a.A.length),(Rb 6 a.G.length 0 a.G.length),(Rb 7 a.F.length 0 a.F.length),(Rb 8 a.M.length 0 a.M.length)]) c.2),z,ay,s,t] [W,g,(Rd (Rc [(vi c.1),(Rb 4 c.2.length 0 c.2.length)])),(Rd (Rc [(vi c.1),(Rb 4 c.2.length 0 c.2.length)])),(opS 7 TPo.e i0 (Rc [w,(vi a.D),(vi a.T),(Rb 5 a.A.length 0 a.A.length),(Rb 6 N.length 0 N.length),(Rb 7 a.F.length 0 a.F.length),(Rb 8 a.M.length 0 a.M.length)]) c.2),z,ay,s,t] (fun h=>⟨rfl,by rw[h]⟩)<|
.guard [a.A.length<2 ^ 63/\N.length<2 ^ 63/\a.F.length<2 ^ 63/\a.M.length<2 ^ 63]<|
 let ch:=(⟨a.B,a.D,a.T,a.A,N,a.F,a.M⟩:TPo)
 let ad:=(c.2.set i0 ch)
 let ci:=[W,g,(Rd m),(Rd m),(eS 7 TPo.e ad),Re,Re,Re,Re]
.sh (A:=a.A.length<2 ^ 63/\N.length<2 ^ 63/\a.F.length<2 ^ 63/\a.M.length<2 ^ 63) (.ev 0) [(4,(vp 2))] [(4,(vp 2))] [W,g,(Rd m),(Rd m),(opS 7 TPo.e i0 (Rc [w,(vi a.D),(vi a.T),Q,(Rb 6 N.length 0 N.length),K,U]) c.2),z,ay,s,t] ci (fun h=>z1j oTApiPot (P:=[W,g,(Rd m),(Rd m)]) (D:=[]) rfl av ch h rfl) (z14 _)<|
 let cj:=(Rc [(vi c.1),(Rb 4 ad.length 0 ad.length)])
.cst (A:=True) (.pf trivial) [(4,(vp 2))] [(4,(vp 2))] ci [W,g,(Rd cj),(Rd cj),(eS 7 TPo.e ad),Re,Re,Re,Re] (fun _=>⟨Zd,Zb⟩)<|
.kill 1<|
.kill 3<|
.r (c.1,bg.2,ad)) (
 let J:=(TTape.b v.2)
.ite (v.1==5) (
 let L:=(i64.wrap ((a.M.length:Int)-1))
.guard [(0:Int)<=L,L.toNat<=a.M.length]<|
 let bl:=(Rc [w,(vi a.D),(vi a.T),Q,S,K,(Rb 8 aj (0+0) (L.toNat-0))])
.reg 29 [14] [(14,{ obs:=[(4,(opS 7 TPo.e i0 bl c.2))] })] [.e c.2.length,.e c.2.length,.ev 14,.pf (p:=decide (i0=i0)=true) (y9 rfl),.e c.2.length,.e c.2.length,.ev 14,.pf (p:=decide (i0=i0)=true) (y9 rfl),.ev 0,.ev 1,.e aj,.e c.2.length,.e c.2.length,.ev 14,.pf (p:=decide (i0=i0)=true) (y9 rfl),.pf (p:=OLe (Ob.seq 7 c.2.length fun j=>if j=i0 then bl else AV.sel (decide (j=i0)) 7 Z (TPo.d (c.2.getD j dF))) (opS 7 TPo.e i0 bl c.2)) (z63 rfl)]<|
.reg 30 [] [] []<|
.guard [a.A.length<2 ^ 63/\a.G.length<2 ^ 63/\a.F.length<2 ^ 63/\a.M.length<2 ^ 63]<|
 let cx:=(⟨a.B,a.D,a.T,a.A,a.G,a.F,(a.M.take L.toNat)⟩:TPo)
 let ae:=(c.2.set i0 cx)
 let ck:=[J,g,(Rd m),(Rd m),(eS 7 TPo.e ae),Re,Re,Re,Re]
 let cm:=(a.A.length<2 ^ 63/\a.G.length<2 ^ 63/\a.F.length<2 ^ 63/\a.M.length<2 ^ 63)
.sh (A:=cm/\L.toNat<=a.M.length) (.der2 (fun (h:a.A.length<2 ^ 63/\a.G.length<2 ^ 63/\a.F.length<2 ^ 63/\a.M.length<2 ^ 63) (h2:L.toNat<=a.M.length)=>(⟨h,h2⟩:cm/\L.toNat<=a.M.length)) 0 2) [(4,(vp 2))] [(4,(vp 2))] [J,g,(Rd m),(Rd m),(opS 7 TPo.e i0 bl c.2),z,C,s,t] ck (fun h=>ziv oTApiPot (P:=[J,g,(Rd m),(Rd m)]) (D:=[]) rfl av cx h.1 h.2 rfl) (z14 _)<|
 let cn:=(Rc [(vi c.1),(Rb 4 ae.length 0 ae.length)])
.cst (A:=True) (.pf trivial) [(4,(vp 2))] [(4,(vp 2))] ck [J,g,(Rd cn),(Rd cn),(eS 7 TPo.e ae),Re,Re,Re,Re] (fun _=>⟨Zd,Zb⟩)<|
.kill 1<|
.kill 3<|
.r (c.1,v.2,ae)) (
.guard [a.A.length<2 ^ 63/\a.G.length<2 ^ 63/\a.F.length<2 ^ 63/\a.M.length<2 ^ 63]<|
 let n:=(c.2.set i0 a)
 let bh:=[(4,(vp 2)),(5,(vp 3)),(8,bq),(139,(vb (v.1==5)))]
 let co:=[J,g,q,(Rd m),(eS 7 TPo.e n),Re,Re,Re,Re]
.sh (A:=a.A.length<2 ^ 63/\a.G.length<2 ^ 63/\a.F.length<2 ^ 63/\a.M.length<2 ^ 63) (.ev 0) bh bh [J,g,q,(Rd m),(opS 7 TPo.e i0 Z c.2),z,C,s,t] co (fun h=>z1j oTApiPot (P:=[J,g,q,(Rd m)]) (D:=[]) rfl av a h rfl) (z14 _)<|
.cst (A:=True) (.pf trivial) bh [(4,(vp 2)),(5,(vp 3)),(8,(Ri 4 n.length [.x i0 7])),(139,(vb (v.1==5)))] co [J,g,q,(Rd (Rc [(vi c.1),(Rb 4 n.length 0 n.length)])),(eS 7 TPo.e n),Re,Re,Re,Re] (fun _=>⟨Zb,Zb⟩)<|
 let u:=([(n.getD (0+0) dF)]:List TPo)
.guard [0<n.length,(0+0)<n.length,(n.length+u.length) * (2 * 128)<=2 ^ 48]<|
.reg 17 [6,7,9] [(6,{ h:=.obj,obs:=[(9,(eS 7 TPo.e u))] }),(7,{ h:=.obj,cast:=some (Rb 4 ((n++u).length) 0 ((n++u).length)),obs:=[(4,(eS 7 TPo.e (n++u)))] })] [.e n.length,.pf (p:=(0:Int)<=0) dk,.ev 0,.e n.length,.ev 1,.pf (z8m (sz:=7) (e:=TPo.e) (l:=u)),.e u.length,.e n.length,.e n.length,.pf (p:=∀ k,k<u.length->(TPo.d (u.getD k dF)).wd=7) (fun _ _=>rfl),.ev 2,.pf (zw (o:=4) (l:=n) (x:=u)),.pf (zy (sz:=7) (e:=TPo.e) (l:=n) (x:=u))]<|
.reg 30 [] [] []<|
.kill 1<|
.kill 3<|
.r (c.1,v.2,(n++u)))))))))) id
def F_q1b (i0:Nat) (a:TTr) (b:TTape):=(S_q1b i0 a b).den
theorem F_q1b_ok {i0:Nat} {a:TTr} {c:TTape}:FO (F_q1b i0 a c) 22 [(vp 0),(TTr.d a)] [(TTape.b c)] V_q1b L_q1b:=fO (s:=S_q1b i0 a c) Tryz.func22
def ghostB (a:TTr) (b:TTape):Nat:=if a.E.length=0 then 0 else match F_q2 6 b with
 | none=>0
 | some x=>if x.1=5 then a.E.length else match F_q2 (a.E.length:Int) x.2 with
  | none=>0
  | some y=>y.1.toNat
abbrev R_q7z:=R_q1b
def F_q7z (a:TTr) (b:TTape):Option R_q7z:=F_q1b (ghostB a b) a b
theorem F_q7z_ok {a:TTr} {c:TTape} (r:R_q7z) (h:F_q7z a c=some r):CallOk Tryz.prog 22 [(vp 0),(TTr.d a)] [(TTape.b c)] (V_q1b r) (L_q1b r):=F_q1b_ok r h
end
end Go.Proofs.YtgbpiaddmclccaaGreatDoor
/- What the functions compute,and that their calls return it. No condition. -/
namespace Go.Proofs.YtgbpiaddmclccaaGreatDoor
open Go Go.TA
open Go.IntKind (i64)
noncomputable section
set_option maxRecDepth 100000
def S_q65 (a:TJo) (V:TTape):SC (TJo×TTape) (TJo×TTape) :=
 let s:=(TJo.b (⟨0,[],0⟩:TJo))
.reg 0 [] [(1,{ obs:=[(2,s)] })] [.pf cz2]<|
.guard [a.N.length * (2 * 88)<=2 ^ 48]<|
.reg 1 [] [(3,{ h:=.obj })] [.pf (p:=∀ k,k<a.N.length->(TOp.d (a.N.getD k dF)).wd=10) (fun _ _=>rfl),.ev 0]<|
.call (@F_q2_ok 6 V) fun c S=>
.k 2 1 S [0] 4 false<|
.ite (c.1==0) (
.call (@F_q8_ok ([0,1,6,7]:List Int) c.2) fun G H=>
.reg 6 [] [(1,hv (vl ([0,1,6,7]:List Int))),(2,hc H [0] false)] [.pf (z9 Ra ([0,1,6,7]:List Int)),.cl 0 H [0] 4 false]<|
.guard [a.N.length<2 ^ 63]<|
.reg 18 [] [] []<|
.frz 3 (.ev 0) none [] [1,2]<|
.r ((⟨G.1,a.N,a.Af⟩:TJo),G.2)) (
 let q:=(a.N.length:Int)
.ite (c.1==1) (
 let F:=([(-1),0,q,(i64.wrap (q+1))]:List Int)
.call (@F_q8_ok F c.2) fun I J=>
.reg 8 [] [(8,hv (vl F)),(9,hc J [0] false)] [.pf (z9 Ra F),.cl 0 J [0] 4 false]<|
.guard [a.N.length<2 ^ 63]<|
.reg 18 [] [] []<|
.frz 3 (.ev 0) none [] [1,2]<|
.r ((⟨a.Z,a.N,I.1⟩:TJo),I.2)) (
 let K:=(Rc [(vi a.Z),(Rb 3 a.N.length 0 a.N.length),(vi a.Af)])
 let v:=[(3,(vp 1)),(4,(vp 2))]
 let C:=(c.2,a.Z,a.Af,a.N)
.ite (c.1==2) (
.cut none [3,4] (fun (_:TTape×Int×Int×(List TOp))=>[]) (fun f=>[(0,(TTape.b f.1)),(1,(Rd (Rc [(vi f.2.1),(Rb 3 f.2.2.2.length 0 f.2.2.2.length),(vi f.2.2.1)]))),(3,(eS 10 TOp.e f.2.2.2))]) (
.ite (decide (q>0)) (
.call (@F_q2_ok q c.2) fun w T=>
.k 11 4 T [0] 4 false<|
.call (@F_q8_ok ([(-1),0,5,100000]:List Int) w.2) fun y L=>
 let n:=(0+w.1.toNat)
.guard [(0:Int)<=w.1,w.1.toNat<a.N.length,n<a.N.length]<|
 let j:=(a.N.getD n dF)
 let M:=(⟨j.U,j.B,j.D,j.Ab,j.Of,y.1,j.Ah,j.Ai,j.A,j.Ae⟩:TOp)
 let z:=(a.N.set n M)
 let t:=(eS 10 TOp.e z)
.reg 12 [5,8] [(4,hv (vl ([(-1),0,5,100000]:List Int))),(5,hc L [0] false),(8,{ obs:=[(3,t)] })] [.pf (z9 Ra ([(-1),0,5,100000]:List Int)),.cl 3 L [0] 4 false,.e a.N.length,.ev 0,.ev 1,.e a.N.length,.e a.N.length,.ev 2,.pf (zk (sz:=10) (e:=TOp.e) (l:=a.N) (i:=n) (x:=M) (fun _=>rfl))]<|
.cst (A:=True) (.pf trivial) v v [(TTape.b y.2),(Rd K),s,t] [(TTape.b y.2),(Rd (Rc [(vi a.Z),(Rb 3 z.length 0 z.length),(vi a.Af)])),s,t] (fun _=>⟨Zd,Zb⟩)<|
.r (.next (y.2,a.Z,a.Af,z))) (
.r (.next C))) fun f=>
.guard [f.2.2.2.length<2 ^ 63]<|
.reg 18 [] [] []<|
.frz 3 (.ev 0) none [] [1,2]<|
.r ((⟨f.2.1,f.2.2.2,f.2.2.1⟩:TJo),f.1)) (
.ite (c.1==3) (
.ite (decide (q>0)) (
.guard [a.N.length<2 ^ 63]<|
.frz 3 (.ev 0) none [] [1]<|
.guard [1<=a.N.length]<|
.reg 15 [] [(2,hv (AV.d (eL TOp.e (a.N.drop 1))))] [.pf (p:=(0:Int)<=1) dk,.ev 0,.pf (lvD TOp.e a.N 1)]<|
.r ((⟨a.Z,(a.N.drop 1),a.Af⟩:TJo),c.2)) (
.guard [a.N.length<2 ^ 63]<|
.reg 18 [] [] []<|
.frz 3 (.ev 0) none [] [1,2]<|
.r (a,c.2))) (
.cut none [3,4] (fun (_:TTape×Int×Int×(List TOp))=>[]) (fun g=>[(0,(TTape.b g.1)),(1,(Rd (Rc [(vi g.2.1),(Rb 3 g.2.2.2.length 0 g.2.2.2.length),(vi g.2.2.1)]))),(3,(eS 10 TOp.e g.2.2.2))]) (
.ite (c.1==4) (
.call (@F_q1g_ok 0 10 c.2) fun O P=>
.call (@F_q2_ok 4 O.2) fun Q R=>
.guard [(a.N.length+1) * (2 * 88)<=2 ^ 48]<|
 let m:=([(⟨O.1,[],0,4600,Q.1,0,0,0,0,0⟩:TOp)]:List TOp)
.reg 17 [3,5,8,10] [(3,hc P [0] false),(5,hc R [0] false),(7,hv (AV.d (eL TOp.e m))),(8,{ h:=.obj,cast:=some (Rb 3 ((a.N++m).length) 0 ((a.N++m).length)),obs:=[(3,(eS 10 TOp.e (a.N++m)))] })] [.cl 2 P [0] 4 false,.cl 1 R [0] 4 false,.pf (z9 TOp.e m),.e a.N.length,.e a.N.length,.pf (p:=∀ k,k<1->(TOp.d (m.getD k dF)).wd=10) (fun _ _=>rfl),.ev 0,.pf (zw (o:=3) (l:=a.N) (x:=m)),.pf (zy (sz:=10) (e:=TOp.e) (l:=a.N) (x:=m))]<|
.r (.next (Q.2,a.Z,a.Af,(a.N++m)))) (
.ite (decide (q>1)) (
 let E:=(a.N.set (0+0) (a.N.getD (0+1) dF))
.guard [1<a.N.length,(0+1)<a.N.length,0<a.N.length,(0+0)<a.N.length,(0+1)<E.length]<|
.reg 4 [13,15] [(13,{ obs:=[(3,(eS 10 TOp.e (a.N.set (0+0) (a.N.getD (0+1) dF))))] }),(15,{ obs:=[(3,(eS 10 TOp.e ((a.N.set (0+0) (a.N.getD (0+1) dF)).set (0+1) (a.N.getD (0+0) dF))))] })] [.e a.N.length,.pf (p:=(0:Int)<=1) dk,.ev 0,.e a.N.length,.ev 1,.e a.N.length,.pf (p:=(0:Int)<=0) dk,.ev 2,.e a.N.length,.ev 3,.e a.N.length,.pf (p:=(0:Int)<=0) dk,.ev 2,.e a.N.length,.ev 3,.pf (zk (sz:=10) (e:=TOp.e) (l:=a.N) (i:=(0+0)) (x:=(a.N.getD (0+1) dF)) (fun _=>rfl)),.pf (p:=(a.N.set (0+0) (a.N.getD (0+1) dF)).length=a.N.length) (by simp only[yh]),.pf (p:=(0:Int)<=1) dk,.ev 0,.pf (p:=(a.N.set (0+0) (a.N.getD (0+1) dF)).length=a.N.length) (by simp only[yh]),.ev 4,.pf (zk (sz:=10) (e:=TOp.e) (l:=(a.N.set (0+0) (a.N.getD (0+1) dF))) (i:=(0+1)) (x:=(a.N.getD (0+0) dF)) (fun _=>rfl))]<|
 let u:=(E.set (0+1) (a.N.getD (0+0) dF))
.cst (A:=True) (.pf trivial) v v [(TTape.b c.2),(Rd K),s,(eS 10 TOp.e u)] [(TTape.b c.2),(Rd (Rc [(vi a.Z),(Rb 3 u.length 0 u.length),(vi a.Af)])),s,(eS 10 TOp.e u)] (fun _=>⟨Zd,Zb⟩)<|
.r (.next (c.2,a.Z,a.Af,u))) (
.r (.next C)))) fun g=>
.guard [g.2.2.2.length<2 ^ 63]<|
.reg 18 [] [] []<|
.frz 3 (.ev 0) none [] [1,2]<|
.r ((⟨g.2.1,g.2.2.2,g.2.2.1⟩:TJo),g.1)))))
def F_q65 (a:TJo) (b:TTape):=(S_q65 a b).den
theorem F_q65_ok {a:TJo} {c:TTape}:FO (F_q65 a c) 23 [(vp 0),(TJo.d a)] [(TTape.b c)] (fun x=>(TJo.d x.1)) (fun x=>[(TTape.b x.2)]):=fO (s:=S_q65 a c) Tryz.func23
abbrev R_q3p:=TWo×TTape
def S_q3p (a:TWo) (p0:TTape):SC R_q3p R_q3p :=
 let m:=(TWo.b (⟨(⟨0,[]⟩:TTr),[],[]⟩:TWo))
.reg 0 [] [(1,{ obs:=[(2,m)] })] [.pf cz9]<|
.guard [a.K.length * (2 * 40)<=2 ^ 48]<|
.reg 1 [] [(3,{ h:=.obj })] [.pf (p:=∀ k,k<a.K.length->(TJo.d (a.K.getD k dF)).wd=3) (fun _ _=>rfl),.ev 0]<|
.guard [a.O.length * (2 * 72)<=2 ^ 48]<|
.reg 2 [] [(3,{ h:=.obj })] [.pf (p:=∀ k,k<a.O.length->(TMe.d (a.O.getD k dF)).wd=8) (fun _ _=>rfl),.ev 0]<|
.call (@F_q2_ok 6 p0) fun f ag=>
.k 3 1 ag [0] 5 false<|
.ite (f.1==0) (
.call (@F_q7z_ok a.I f.2) fun H ah=>
.k 7 3 ah [0] 5 false<|
.kill 6<|
.guard [H.2.2.length<2 ^ 63]<|
.frz 8 (.ev 0) none [] [1]<|
.guard [a.K.length<2 ^ 63]<|
.reg 18 [] [] []<|
.frz 3 (.ev 0) none [] [1,2]<|
.guard [a.O.length<2 ^ 63]<|
.frz 4 (.ev 0) none [] [1,2]<|
.r ((⟨(⟨H.1,H.2.2⟩:TTr),a.K,a.O⟩:TWo),H.2.1)) (
 let J:=(Rb 3 a.K.length 0 a.K.length)
 let n:=(TTr.d a.I)
 let P:=(Rb 4 a.O.length 0 a.O.length)
 let U:=(Rc [n,J,P])
 let w:=[(3,(vp 1)),(4,(vp 2))]
.ite (f.1==1) (
.call (@F_q2_ok (a.K.length:Int) f.2) fun L ai=>
.k 9 4 ai [0] 5 false<|
 let q:=(0+L.1.toNat)
.call (@F_q65_ok (a.K.getD q dF) L.2) fun y V=>
.guard [(0:Int)<=L.1,L.1.toNat<a.K.length,q<a.K.length]<|
 let z:=(a.K.set q y.1)
 let C:=(eS 3 TJo.e z)
.reg 10 [9,11] [(9,hc V [0] false),(11,{ obs:=[(3,C)] })] [.e a.K.length,.ev 0,.ev 1,.e a.K.length,.ev 2,.cl 3 V [0] 5 false,.e a.K.length,.ev 0,.ev 1,.e a.K.length,.ev 2,.pf (zk (sz:=3) (e:=TJo.e) (l:=a.K) (i:=q) (x:=y.1) (fun _=>rfl))]<|
.cst (A:=True) (.pf trivial) w w [(TTape.b y.2),(Rd U),m,C,(eS 8 TMe.e a.O)] [(TTape.b y.2),(Rd (Rc [n,(Rb 3 z.length 0 z.length),P])),m,C,(eS 8 TMe.e a.O)] (fun _=>⟨Zd,Zb⟩)<|
.guard [z.length<2 ^ 63]<|
.reg 18 [] [] []<|
.frz 3 (.ev 0) none [] [1,2]<|
.guard [a.O.length<2 ^ 63]<|
.frz 4 (.ev 0) none [] [1,2]<|
.r ((⟨a.I,z,a.O⟩:TWo),y.2)) (
.ite (f.1==2) (
.call (@F_q2_ok 3 f.2) fun W X=>
.call (@F_q2_ok 3 W.2) fun Y Z=>
.call (@F_q8_ok ([0,50,5000]:List Int) Y.2) fun aa ab=>
.call (@F_q8_ok ([0,0,30]:List Int) aa.2) fun ac ad=>
.guard [(a.O.length+1) * (2 * 72)<=2 ^ 48]<|
 let g:=([(⟨W.1,Y.1,[49],12,aa.1,0,ac.1,0⟩:TMe)]:List TMe)
.reg 12 [3,5,8,11,14,16] [(3,hc X [0] false),(5,hc Z [0] false),(7,hv (vl ([0,50,5000]:List Int))),(8,hc ab [0] false),(10,hv (vl ([0,0,30]:List Int))),(11,hc ad [0] false),(13,hv (AV.d (eL TMe.e g))),(14,{ h:=.obj,cast:=some (Rb 4 ((a.O++g).length) 0 ((a.O++g).length)),obs:=[(4,(eS 8 TMe.e (a.O++g)))] })] [.cl 4 X [0] 5 false,.cl 3 Z [0] 5 false,.pf (z9 Ra ([0,50,5000]:List Int)),.pf (z9 Ra ([0,50,5000]:List Int)),.pf (z9 Ra ([0,50,5000]:List Int)),.cl 2 ab [0] 5 false,.pf (z9 Ra ([0,0,30]:List Int)),.pf (z9 Ra ([0,0,30]:List Int)),.pf (z9 Ra ([0,0,30]:List Int)),.pf (z9 Ra ([0,0,30]:List Int)),.cl 1 ad [0] 5 false,.pf (z9 TMe.e g),.e a.O.length,.e a.O.length,.pf (p:=∀ k,k<1->(TMe.d (g.getD k dF)).wd=8) (fun _ _=>rfl),.ev 0,.pf (zw (o:=4) (l:=a.O) (x:=g)),.pf (zy (sz:=8) (e:=TMe.e) (l:=a.O) (x:=g))]<|
.guard [a.K.length<2 ^ 63]<|
.reg 18 [] [] []<|
.frz 3 (.ev 0) none [] [1,2]<|
.guard [(a.O++g).length<2 ^ 63]<|
.frz 4 (.ev 0) none [] [1,2]<|
.r ((⟨a.I,a.K,(a.O++g)⟩:TWo),ac.2)) (
.ite (f.1==3) (
.guard [a.K.length<2 ^ 63]<|
.frz 3 (.ev 0) none [] [1]<|
.guard [1<=a.K.length]<|
.reg 14 [] [(2,hv (AV.d (eL TJo.e (a.K.drop 1))))] [.pf (p:=(0:Int)<=1) dk,.ev 0,.pf (lvD TJo.e a.K 1)]<|
.guard [a.O.length<2 ^ 63]<|
.reg 18 [] [] []<|
.frz 4 (.ev 0) none [] [1,2]<|
.r ((⟨a.I,(a.K.drop 1),a.O⟩:TWo),f.2)) (
.cut none [3,4] (fun (_:TTape×TTr×(List TMe))=>[]) (fun j=>[(0,(TTape.b j.1)),(1,(Rd (Rc [(TTr.d j.2.1),J,(Rb 4 j.2.2.length 0 j.2.2.length)]))),(4,(eS 8 TMe.e j.2.2))]) (
 let c:=(a.O.getD (0+0) dF)
 let s:=(eS 3 TJo.e a.K)
 let R:=(decide ((a.O.length:Int)>0))
.ite (f.1==4) (
.ite R (
.call (@F_q8_ok ([1,100]:List Int) f.2) fun t S=>
.guard [0<a.O.length,(0+0)<a.O.length]<|
 let ae:=(⟨c.Aa,c.To,c.B,c.D,c.A,c.F,(i64.wrap (c.Q+t.1)),c.M⟩:TMe)
 let N:=(a.O.set (0+0) ae)
 let E:=(eS 8 TMe.e N)
.reg 17 [7,11] [(6,hv (vl ([1,100]:List Int))),(7,hc S [0] false),(11,{ obs:=[(4,E)] })] [.e a.O.length,.pf (p:=(0:Int)<=0) dk,.ev 0,.e a.O.length,.pf (p:=(0:Int)<=0) dk,.ev 0,.e a.O.length,.e a.O.length,.e a.O.length,.ev 1,.e a.O.length,.ev 1,.pf (z9 Ra ([1,100]:List Int)),.cl 2 S [0] 5 false,.e a.O.length,.pf (p:=(0:Int)<=0) dk,.ev 0,.e a.O.length,.e a.O.length,.ev 1,.pf (zk (sz:=8) (e:=TMe.e) (l:=a.O) (i:=(0+0)) (x:=ae) (fun _=>rfl))]<|
.cst (A:=True) (.pf trivial) w w [(TTape.b t.2),(Rd U),m,s,E] [(TTape.b t.2),(Rd (Rc [n,J,(Rb 4 N.length 0 N.length)])),m,s,E] (fun _=>⟨Zd,Zb⟩)<|
.r (.next (t.2,a.I,N))) (
.r (.next (f.2,a.I,a.O)))) (
.ite R (
.call (@F_q8_ok ([1,1000]:List Int) f.2) fun u T=>
.guard [0<a.O.length,(0+0)<a.O.length]<|
 let af:=(⟨c.Aa,c.To,c.B,c.D,(i64.wrap (c.A+u.1)),c.F,c.Q,c.M⟩:TMe)
 let v:=(a.O.set (0+0) af)
 let G:=(eS 8 TMe.e v)
.reg 5 [7,11] [(6,hv (vl ([1,1000]:List Int))),(7,hc T [0] false),(11,{ obs:=[(4,G)] })] [.e a.O.length,.pf (p:=(0:Int)<=0) dk,.ev 0,.e a.O.length,.pf (p:=(0:Int)<=0) dk,.ev 0,.e a.O.length,.e a.O.length,.e a.O.length,.ev 1,.e a.O.length,.ev 1,.pf (z9 Ra ([1,1000]:List Int)),.cl 2 T [0] 5 false,.e a.O.length,.pf (p:=(0:Int)<=0) dk,.ev 0,.e a.O.length,.e a.O.length,.ev 1,.pf (zk (sz:=8) (e:=TMe.e) (l:=a.O) (i:=(0+0)) (x:=af) (fun _=>rfl))]<|
.cst (A:=True) (.pf trivial) w w [(TTape.b u.2),(Rd U),m,s,G] [(TTape.b u.2),(Rd (Rc [n,J,(Rb 4 v.length 0 v.length)])),m,s,G] (fun _=>⟨Zd,Zb⟩)<|
.r (.next (u.2,a.I,v))) (
.r (.next (f.2,a.I,a.O))))) fun j=>
.guard [a.K.length<2 ^ 63]<|
.reg 18 [] [] []<|
.frz 3 (.ev 0) none [] [1,2]<|
.guard [j.2.2.length<2 ^ 63]<|
.frz 4 (.ev 0) none [] [1,2]<|
.r ((⟨j.2.1,a.K,j.2.2⟩:TWo),j.1)))))
def F_q3p (a:TWo) (b:TTape):=(S_q3p a b).den
theorem F_q3p_ok {a:TWo} {c:TTape}:FO (F_q3p a c) 8 [(vp 0),(TWo.d a)] [(TTape.b c)] (fun x=>(TWo.d x.1)) (fun x=>[(TTape.b x.2)]):=fO (s:=S_q3p a c) Tryz.func8
def S_q4s (a:TJo):SC Bool Bool :=
.r (bif (bif (bif (bif (decide (a.Z>=1)) then (decide (a.Z<=6)) else false) then (decide ((a.N.length:Int)<=400)) else false) then (decide (a.Af>=0)) else false) then (decide (a.Af<=(a.N.length:Int))) else false)
def F_q4s (a:TJo):=(S_q4s a).den
theorem F_q4s_ok {a:TJo}:FO (F_q4s a) 153 [(TJo.d a)] [] vb NL:=fO (s:=S_q4s a) Tryz.func153
def S_q4t (a:Int):SC Y8 Y8 :=
.ite (a==1) (
.r ([114,101,115,101,114,118,101,32,67,79,68,69,32,89,69,65,82,32,68,65,89,32,65,77,79,85,78,84])) (
.ite (a==2) (
.r ([99,111,109,109,105,116,32,79,70,32,68,65,89,32,65,77,79,85,78,84,32,80,65,89,69,69,32,68,85,69])) (
.ite (a==3) (
.r ([118,101,114,105,102,121,32,79,70,32,68,65,89,32,65,77,79,85,78,84])) (
.ite (a==4) (
.r ([111,114,100,101,114,32,79,70,32,68,65,89])) (
.ite (a==5) (
.r ([114,101,108,101,97,115,101,32,79,70,32,65,77,79,85,78,84])) (
.ite (a==6) (
.r ([100,114,111,112,32,79,70,32,65,77,79,85,78,84])) (
.ite (a==7) (
.r ([114,101,116,117,114,110,32,67,79,68,69,32,89,69,65,82,32,65,77,79,85,78,84])) (
.ite (a==8) (
.r ([104,101,97,114,32,67,79,68,69,32,89,69,65,82,32,71,82,65,78,84,69,68,32,65,83,75,69,68,66,65,67,75])) (
.ite (a==9) (
.r ([114,101,116,117,114,110,101,100,32,79,70])) (
.r ([]))))))))))
def F_q4t (a:Int):=(S_q4t a).den
theorem F_q4t_ok {a:Int}:FO (F_q4t a) 254 [(vi a)] [] (fun x=>(AV.d (Rf x))) NL:=fO (s:=S_q4t a) Tryz.func254
def S_q7c (a:Y8) (_:TOp):SC Unit Unit :=
.guard [(a==([89,69,65,82]))=true]<|
.br true (.ev 0)<|
.r ()
def F_q7c (a:Y8) (b:TOp):=(S_q7c a b).den
theorem F_q7c_ok {c:Y8} {a:TOp}:FO (F_q7c c a) 255 [(vp 0),(AV.d (Rf c))] [(TOp.b a)] (fun _=>(Ri 0 1 [.f 2 2])) (fun _=>[(TOp.b a)]):=fO (s:=S_q7c c a) Tryz.func255
def S_q20 (a:Y8):SC Int Int :=
.ite (a==([89,69,65,82])) (
.r 99) (
.r 1000000000000000)
def F_q20 (a:Y8):=(S_q20 a).den
theorem F_q20_ok {a:Y8}:FO (F_q20 a) 256 [(AV.d (Rf a))] [] vi NL:=fO (s:=S_q20 a) Tryz.func256
def S_q7d (a:Y8) (_:TOp):SC Unit Unit :=
.guard [(a==([89,69,65,82]))=false]<|
.br false (.ev 0)<|
.guard [(a==([68,65,89]))=true]<|
.br true (.ev 0)<|
.r ()
def F_q7d (a:Y8) (b:TOp):=(S_q7d a b).den
theorem F_q7d_ok {c:Y8} {a:TOp}:FO (F_q7d c a) 255 [(vp 0),(AV.d (Rf c))] [(TOp.b a)] (fun _=>(Ri 0 1 [.f 3 3])) (fun _=>[(TOp.b a)]):=fO (s:=S_q7d c a) Tryz.func255
def S_q7e (a:Y8) (_:TOp):SC Unit Unit :=
.guard [(a==([89,69,65,82]))=false]<|
.br false (.ev 0)<|
.guard [(a==([68,65,89]))=false]<|
.br false (.ev 0)<|
.guard [(a==([65,77,79,85,78,84]))=true]<|
.br true (.ev 0)<|
.r ()
def F_q7e (a:Y8) (b:TOp):=(S_q7e a b).den
theorem F_q7e_ok {c:Y8} {a:TOp}:FO (F_q7e c a) 255 [(vp 0),(AV.d (Rf c))] [(TOp.b a)] (fun _=>(Ri 0 1 [.f 5 5])) (fun _=>[(TOp.b a)]):=fO (s:=S_q7e c a) Tryz.func255
def S_q7f (a:Y8) (_:TOp):SC Unit Unit :=
.guard [(a==([89,69,65,82]))=false]<|
.br false (.ev 0)<|
.guard [(a==([68,65,89]))=false]<|
.br false (.ev 0)<|
.guard [(a==([65,77,79,85,78,84]))=false]<|
.br false (.ev 0)<|
.guard [(a==([79,70]))=true]<|
.br true (.ev 0)<|
.r ()
def F_q7f (a:Y8) (b:TOp):=(S_q7f a b).den
theorem F_q7f_ok {c:Y8} {a:TOp}:FO (F_q7f c a) 255 [(vp 0),(AV.d (Rf c))] [(TOp.b a)] (fun _=>(Ri 0 1 [.f 4 4])) (fun _=>[(TOp.b a)]):=fO (s:=S_q7f c a) Tryz.func255
def S_q7g (a:Y8) (_:TOp):SC Unit Unit :=
.guard [(a==([89,69,65,82]))=false]<|
.br false (.ev 0)<|
.guard [(a==([68,65,89]))=false]<|
.br false (.ev 0)<|
.guard [(a==([65,77,79,85,78,84]))=false]<|
.br false (.ev 0)<|
.guard [(a==([79,70]))=false]<|
.br false (.ev 0)<|
.guard [(a==([80,65,89,69,69]))=true]<|
.br true (.ev 0)<|
.r ()
def F_q7g (a:Y8) (b:TOp):=(S_q7g a b).den
theorem F_q7g_ok {c:Y8} {a:TOp}:FO (F_q7g c a) 255 [(vp 0),(AV.d (Rf c))] [(TOp.b a)] (fun _=>(Ri 0 1 [.f 6 6])) (fun _=>[(TOp.b a)]):=fO (s:=S_q7g c a) Tryz.func255
def S_q7h (a:Y8) (_:TOp):SC Unit Unit :=
.guard [(a==([89,69,65,82]))=false]<|
.br false (.ev 0)<|
.guard [(a==([68,65,89]))=false]<|
.br false (.ev 0)<|
.guard [(a==([65,77,79,85,78,84]))=false]<|
.br false (.ev 0)<|
.guard [(a==([79,70]))=false]<|
.br false (.ev 0)<|
.guard [(a==([80,65,89,69,69]))=false]<|
.br false (.ev 0)<|
.guard [(a==([68,85,69]))=true]<|
.br true (.ev 0)<|
.r ()
def F_q7h (a:Y8) (b:TOp):=(S_q7h a b).den
theorem F_q7h_ok {c:Y8} {a:TOp}:FO (F_q7h c a) 255 [(vp 0),(AV.d (Rf c))] [(TOp.b a)] (fun _=>(Ri 0 1 [.f 7 7])) (fun _=>[(TOp.b a)]):=fO (s:=S_q7h c a) Tryz.func255
def S_q7i (a:Y8) (_:TOp):SC Unit Unit :=
.guard [(a==([89,69,65,82]))=false]<|
.br false (.ev 0)<|
.guard [(a==([68,65,89]))=false]<|
.br false (.ev 0)<|
.guard [(a==([65,77,79,85,78,84]))=false]<|
.br false (.ev 0)<|
.guard [(a==([79,70]))=false]<|
.br false (.ev 0)<|
.guard [(a==([80,65,89,69,69]))=false]<|
.br false (.ev 0)<|
.guard [(a==([68,85,69]))=false]<|
.br false (.ev 0)<|
.guard [(a==([71,82,65,78,84,69,68]))=true]<|
.br true (.ev 0)<|
.r ()
def F_q7i (a:Y8) (b:TOp):=(S_q7i a b).den
theorem F_q7i_ok {c:Y8} {a:TOp}:FO (F_q7i c a) 255 [(vp 0),(AV.d (Rf c))] [(TOp.b a)] (fun _=>(Ri 0 1 [.f 8 8])) (fun _=>[(TOp.b a)]):=fO (s:=S_q7i c a) Tryz.func255
def S_q7j (a:Y8) (_:TOp):SC Unit Unit :=
.guard [(a==([89,69,65,82]))=false]<|
.br false (.ev 0)<|
.guard [(a==([68,65,89]))=false]<|
.br false (.ev 0)<|
.guard [(a==([65,77,79,85,78,84]))=false]<|
.br false (.ev 0)<|
.guard [(a==([79,70]))=false]<|
.br false (.ev 0)<|
.guard [(a==([80,65,89,69,69]))=false]<|
.br false (.ev 0)<|
.guard [(a==([68,85,69]))=false]<|
.br false (.ev 0)<|
.guard [(a==([71,82,65,78,84,69,68]))=false]<|
.br false (.ev 0)<|
.guard [(a==([65,83,75,69,68,66,65,67,75]))=true]<|
.br true (.ev 0)<|
.r ()
def F_q7j (a:Y8) (b:TOp):=(S_q7j a b).den
theorem F_q7j_ok {c:Y8} {a:TOp}:FO (F_q7j c a) 255 [(vp 0),(AV.d (Rf c))] [(TOp.b a)] (fun _=>(Ri 0 1 [.f 9 9])) (fun _=>[(TOp.b a)]):=fO (s:=S_q7j c a) Tryz.func255
end
end Go.Proofs.YtgbpiaddmclccaaGreatDoor
/- What the functions compute,and that their calls return it. No condition. -/
namespace Go.Proofs.YtgbpiaddmclccaaGreatDoor
open Go Go.TA
open Go.IntKind (i64)
noncomputable section
set_option maxRecDepth 100000
abbrev R_qe:=Y8
def S_qe_b1 (h:TOp) (ch:(List Y8)) (Q:Nat) (c:(List Y8)×TOp):SC R_qe (Step ((List Y8)×TOp) R_qe) :=
.guard [((0+1)+Q)<c.1.length]<|
.reg 8 [] [] [.e c.1.length,.w Q,.ev 1,.e c.1.length,.ev 0]<|
 let g:=(i64.wrap ((Q:Int)+1))
 let f:=(0+g.toNat)
 let j:=(ch.length-1)
 let F:=(19,(vi ((j:Nat):Int)))
 let m:=(20,(vi (Q:Int)))
 let P:=[(1,(vp 0)),(3,(Rb 1 c.1.length 0 c.1.length)),(4,(vp 2)),(18,(Rb 1 c.1.length (0+1) j)),F,m]
 let d:=(c.1.getD ((0+1)+Q) dF)
 let n:=(DV.i .i64 c.2.U)
 let p:=(DV.i .i64 c.2.Ab)
 let q:=(DV.i .i64 c.2.Of)
 let s:=(DV.i .i64 c.2.Ah)
 let t:=(DV.i .i64 c.2.Ai)
 let u:=(DV.i .i64 c.2.Ae)
 let v:=(DV.i .i64 c.2.D)
 let y:=(DV.i .i64 c.2.V)
 let z:=(DV.i .i64 c.2.A)
 let o:=(TOp.b h)
.ite (d==([67,79,68,69])) (
.a 10 2 3 (@F_q7v_ok h.B) fun ci=>
.ite ((ci.length:Int)==0) (
.r (.ret ([]))) (
.guard [(0:Int)<=g,g.toNat<c.1.length,f<c.1.length]<|
 let G:=(c.1.set f h.B)
.reg 12 [] [(6,{ obs:=[(1,(eS 1 Rf G))] })] [.e c.1.length,.ev 0,.ev 1,.e c.1.length,.ev 2,.pf (zk (sz:=1) (e:=Rf) (l:=c.1) (i:=f) (x:=h.B) (fun _=>rfl))]<|
 let bj:=[o,(eS 1 Rf G),(bx (DV.agg [n,(Rf ([])),v,p,q,y,s,t,z,u]))]
.cst (A:=True) (.pf trivial) P [(1,(vp 0)),(3,(Rb 1 G.length 0 G.length)),(4,(vp 2)),(18,(Rb 1 G.length (0+1) j)),F,m] bj bj (fun _=>⟨Zb,by rfl⟩)<|
.r (.cont (G,(⟨c.2.U,[],c.2.D,c.2.Ab,c.2.Of,c.2.V,c.2.Ah,c.2.Ai,c.2.A,c.2.Ae⟩:TOp))))) (
 let C:=(Rf c.2.B)
 let E:=(DV.i .i64 0)
.split (d==([89,69,65,82])) (
.call (@F_q7c_ok d h) fun da cj=>
.k 13 1 cj [0] 3 true<|
 let R:=(decide (h.D<0))
.calld [R=false] dF (@F_q20_ok d) fun ck bk =>
.reg 14 [] [(5,hc bk [] true)] [.clg 0 [R=false] bk [] 3 true]<|
.ite (cO R (decide (h.D>ck))) (
.r (.ret ([]))) (
.call (@F_q7c_ok d c.2) fun db bl=>
.call (@F_q7r_ok h.D) fun bm bn=>
.guard [(0:Int)<=g,g.toNat<c.1.length,f<c.1.length]<|
 let H:=(c.1.set f bm)
.reg 16 [] [(4,hc bl [2] true),(6,hc bn [] true),(8,{ obs:=[(1,(eS 1 Rf H))] })] [.cl 4 bl [2] 3 true,.cl 3 bn [] 3 true,.e c.1.length,.ev 0,.ev 1,.e c.1.length,.ev 2,.pf (zk (sz:=1) (e:=Rf) (l:=c.1) (i:=f) (x:=bm) (fun _=>rfl))]<|
 let bo:=[o,(eS 1 Rf H),(bx (DV.agg [n,C,E,p,q,y,s,t,z,u]))]
.cst (A:=True) (.pf trivial) P [(1,(vp 0)),(3,(Rb 1 H.length 0 H.length)),(4,(vp 2)),(18,(Rb 1 H.length (0+1) j)),F,m] bo bo (fun _=>⟨Zb,by rfl⟩)<|
.r (.cont (H,(⟨c.2.U,c.2.B,0,c.2.Ab,c.2.Of,c.2.V,c.2.Ah,c.2.Ai,c.2.A,c.2.Ae⟩:TOp))))) (
.split (d==([68,65,89])) (
.call (@F_q7d_ok d h) fun dc cm=>
.k 13 1 cm [0] 3 true<|
 let S:=(decide (h.Ab<0))
.calld [S=false] dF (@F_q20_ok d) fun bp ab =>
.reg 14 [] [(5,hc ab [] true)] [.clg 0 [S=false] ab [] 3 true]<|
.ite (cO S (decide (h.Ab>bp))) (
.r (.ret ([]))) (
.call (@F_q7d_ok d c.2) fun cn ac=>
.call (@F_q7r_ok h.Ab) fun ad ae=>
.guard [(0:Int)<=g,g.toNat<c.1.length,f<c.1.length]<|
 let I:=(c.1.set f ad)
.reg 16 [] [(4,hc ac [2] true),(6,hc ae [] true),(8,{ obs:=[(1,(eS 1 Rf I))] })] [.cl 4 ac [2] 3 true,.cl 3 ae [] 3 true,.e c.1.length,.ev 0,.ev 1,.e c.1.length,.ev 2,.pf (zk (sz:=1) (e:=Rf) (l:=c.1) (i:=f) (x:=ad) (fun _=>rfl))]<|
 let bq:=[o,(eS 1 Rf I),(bx (DV.agg [n,C,v,E,q,y,s,t,z,u]))]
.cst (A:=True) (.pf trivial) P [(1,(vp 0)),(3,(Rb 1 I.length 0 I.length)),(4,(vp 2)),(18,(Rb 1 I.length (0+1) j)),F,m] bq bq (fun _=>⟨Zb,by rfl⟩)<|
.r (.cont (I,(⟨c.2.U,c.2.B,c.2.D,0,c.2.Of,c.2.V,c.2.Ah,c.2.Ai,c.2.A,c.2.Ae⟩:TOp))))) (
.split (d==([65,77,79,85,78,84])) (
.call (@F_q7e_ok d h) fun co br=>
.k 13 1 br [0] 3 true<|
 let T:=(decide (h.V<0))
.calld [T=false] dF (@F_q20_ok d) fun bs af =>
.reg 14 [] [(5,hc af [] true)] [.clg 0 [T=false] af [] 3 true]<|
.ite (cO T (decide (h.V>bs))) (
.r (.ret ([]))) (
.call (@F_q7e_ok d c.2) fun cp ag=>
.call (@F_q7r_ok h.V) fun ah ai=>
.guard [(0:Int)<=g,g.toNat<c.1.length,f<c.1.length]<|
 let J:=(c.1.set f ah)
.reg 16 [] [(4,hc ag [2] true),(6,hc ai [] true),(8,{ obs:=[(1,(eS 1 Rf J))] })] [.cl 4 ag [2] 3 true,.cl 3 ai [] 3 true,.e c.1.length,.ev 0,.ev 1,.e c.1.length,.ev 2,.pf (zk (sz:=1) (e:=Rf) (l:=c.1) (i:=f) (x:=ah) (fun _=>rfl))]<|
 let bt:=[o,(eS 1 Rf J),(bx (DV.agg [n,C,v,p,q,E,s,t,z,u]))]
.cst (A:=True) (.pf trivial) P [(1,(vp 0)),(3,(Rb 1 J.length 0 J.length)),(4,(vp 2)),(18,(Rb 1 J.length (0+1) j)),F,m] bt bt (fun _=>⟨Zb,by rfl⟩)<|
.r (.cont (J,(⟨c.2.U,c.2.B,c.2.D,c.2.Ab,c.2.Of,0,c.2.Ah,c.2.Ai,c.2.A,c.2.Ae⟩:TOp))))) (
.split (d==([79,70])) (
.call (@F_q7f_ok d h) fun cq bu=>
.k 13 1 bu [0] 3 true<|
 let W:=(decide (h.Of<0))
.calld [W=false] dF (@F_q20_ok d) fun bv aj =>
.reg 14 [] [(5,hc aj [] true)] [.clg 0 [W=false] aj [] 3 true]<|
.ite (cO W (decide (h.Of>bv))) (
.r (.ret ([]))) (
.call (@F_q7f_ok d c.2) fun cr ak=>
.call (@F_q7r_ok h.Of) fun al am=>
.guard [(0:Int)<=g,g.toNat<c.1.length,f<c.1.length]<|
 let K:=(c.1.set f al)
.reg 16 [] [(4,hc ak [2] true),(6,hc am [] true),(8,{ obs:=[(1,(eS 1 Rf K))] })] [.cl 4 ak [2] 3 true,.cl 3 am [] 3 true,.e c.1.length,.ev 0,.ev 1,.e c.1.length,.ev 2,.pf (zk (sz:=1) (e:=Rf) (l:=c.1) (i:=f) (x:=al) (fun _=>rfl))]<|
 let an:=[o,(eS 1 Rf K),(bx (DV.agg [n,C,v,p,E,y,s,t,z,u]))]
.cst (A:=True) (.pf trivial) P [(1,(vp 0)),(3,(Rb 1 K.length 0 K.length)),(4,(vp 2)),(18,(Rb 1 K.length (0+1) j)),F,m] an an (fun _=>⟨Zb,by rfl⟩)<|
.r (.cont (K,(⟨c.2.U,c.2.B,c.2.D,c.2.Ab,0,c.2.V,c.2.Ah,c.2.Ai,c.2.A,c.2.Ae⟩:TOp))))) (
.split (d==([80,65,89,69,69])) (
.call (@F_q7g_ok d h) fun cs bw=>
.k 13 1 bw [0] 3 true<|
 let X:=(decide (h.Ah<0))
.calld [X=false] dF (@F_q20_ok d) fun bz ao =>
.reg 14 [] [(5,hc ao [] true)] [.clg 0 [X=false] ao [] 3 true]<|
.ite (cO X (decide (h.Ah>bz))) (
.r (.ret ([]))) (
.call (@F_q7g_ok d c.2) fun ct ap=>
.call (@F_q7r_ok h.Ah) fun aq ar=>
.guard [(0:Int)<=g,g.toNat<c.1.length,f<c.1.length]<|
 let L:=(c.1.set f aq)
.reg 16 [] [(4,hc ap [2] true),(6,hc ar [] true),(8,{ obs:=[(1,(eS 1 Rf L))] })] [.cl 4 ap [2] 3 true,.cl 3 ar [] 3 true,.e c.1.length,.ev 0,.ev 1,.e c.1.length,.ev 2,.pf (zk (sz:=1) (e:=Rf) (l:=c.1) (i:=f) (x:=aq) (fun _=>rfl))]<|
 let au:=[o,(eS 1 Rf L),(bx (DV.agg [n,C,v,p,q,y,E,t,z,u]))]
.cst (A:=True) (.pf trivial) P [(1,(vp 0)),(3,(Rb 1 L.length 0 L.length)),(4,(vp 2)),(18,(Rb 1 L.length (0+1) j)),F,m] au au (fun _=>⟨Zb,by rfl⟩)<|
.r (.cont (L,(⟨c.2.U,c.2.B,c.2.D,c.2.Ab,c.2.Of,c.2.V,0,c.2.Ai,c.2.A,c.2.Ae⟩:TOp))))) (
.split (d==([68,85,69])) (
.call (@F_q7h_ok d h) fun cu ca=>
.k 13 1 ca [0] 3 true<|
 let Y:=(decide (h.Ai<0))
.calld [Y=false] dF (@F_q20_ok d) fun cb av =>
.reg 14 [] [(5,hc av [] true)] [.clg 0 [Y=false] av [] 3 true]<|
.ite (cO Y (decide (h.Ai>cb))) (
.r (.ret ([]))) (
.call (@F_q7h_ok d c.2) fun cv aw=>
.call (@F_q7r_ok h.Ai) fun ax ay=>
.guard [(0:Int)<=g,g.toNat<c.1.length,f<c.1.length]<|
 let M:=(c.1.set f ax)
.reg 16 [] [(4,hc aw [2] true),(6,hc ay [] true),(8,{ obs:=[(1,(eS 1 Rf M))] })] [.cl 4 aw [2] 3 true,.cl 3 ay [] 3 true,.e c.1.length,.ev 0,.ev 1,.e c.1.length,.ev 2,.pf (zk (sz:=1) (e:=Rf) (l:=c.1) (i:=f) (x:=ax) (fun _=>rfl))]<|
 let az:=[o,(eS 1 Rf M),(bx (DV.agg [n,C,v,p,q,y,s,E,z,u]))]
.cst (A:=True) (.pf trivial) P [(1,(vp 0)),(3,(Rb 1 M.length 0 M.length)),(4,(vp 2)),(18,(Rb 1 M.length (0+1) j)),F,m] az az (fun _=>⟨Zb,by rfl⟩)<|
.r (.cont (M,(⟨c.2.U,c.2.B,c.2.D,c.2.Ab,c.2.Of,c.2.V,c.2.Ah,0,c.2.A,c.2.Ae⟩:TOp))))) (
.split (d==([71,82,65,78,84,69,68])) (
.call (@F_q7i_ok d h) fun cw cc=>
.k 13 1 cc [0] 3 true<|
 let Z:=(decide (h.A<0))
.calld [Z=false] dF (@F_q20_ok d) fun cd ba =>
.reg 14 [] [(5,hc ba [] true)] [.clg 0 [Z=false] ba [] 3 true]<|
.ite (cO Z (decide (h.A>cd))) (
.r (.ret ([]))) (
.call (@F_q7i_ok d c.2) fun cx bb=>
.call (@F_q7r_ok h.A) fun bc bd=>
.guard [(0:Int)<=g,g.toNat<c.1.length,f<c.1.length]<|
 let N:=(c.1.set f bc)
.reg 16 [] [(4,hc bb [2] true),(6,hc bd [] true),(8,{ obs:=[(1,(eS 1 Rf N))] })] [.cl 4 bb [2] 3 true,.cl 3 bd [] 3 true,.e c.1.length,.ev 0,.ev 1,.e c.1.length,.ev 2,.pf (zk (sz:=1) (e:=Rf) (l:=c.1) (i:=f) (x:=bc) (fun _=>rfl))]<|
 let ce:=[o,(eS 1 Rf N),(bx (DV.agg [n,C,v,p,q,y,s,t,E,u]))]
.cst (A:=True) (.pf trivial) P [(1,(vp 0)),(3,(Rb 1 N.length 0 N.length)),(4,(vp 2)),(18,(Rb 1 N.length (0+1) j)),F,m] ce ce (fun _=>⟨Zb,by rfl⟩)<|
.r (.cont (N,(⟨c.2.U,c.2.B,c.2.D,c.2.Ab,c.2.Of,c.2.V,c.2.Ah,c.2.Ai,0,c.2.Ae⟩:TOp))))) (
.call (@F_q7j_ok d h) fun cy cf=>
.k 13 1 cf [0] 3 true<|
 let aa:=(decide (h.Ae<0))
.calld [aa=false] dF (@F_q20_ok d) fun cg be =>
.reg 14 [] [(5,hc be [] true)] [.clg 0 [aa=false] be [] 3 true]<|
.ite (cO aa (decide (h.Ae>cg))) (
.r (.ret ([]))) (
.call (@F_q7j_ok d c.2) fun cz bf=>
.call (@F_q7r_ok h.Ae) fun bg bh=>
.guard [(0:Int)<=g,g.toNat<c.1.length,f<c.1.length]<|
 let O:=(c.1.set f bg)
.reg 16 [] [(4,hc bf [2] true),(6,hc bh [] true),(8,{ obs:=[(1,(eS 1 Rf O))] })] [.cl 4 bf [2] 3 true,.cl 3 bh [] 3 true,.e c.1.length,.ev 0,.ev 1,.e c.1.length,.ev 2,.pf (zk (sz:=1) (e:=Rf) (l:=c.1) (i:=f) (x:=bg) (fun _=>rfl))]<|
 let bi:=[o,(eS 1 Rf O),(bx (DV.agg [n,C,v,p,q,y,s,t,z,E]))]
.cst (A:=True) (.pf trivial) P [(1,(vp 0)),(3,(Rb 1 O.length 0 O.length)),(4,(vp 2)),(18,(Rb 1 O.length (0+1) j)),F,m] bi bi (fun _=>⟨Zb,by rfl⟩)<|
.r (.cont (O,(⟨c.2.U,c.2.B,c.2.D,c.2.Ab,c.2.Of,c.2.V,c.2.Ah,c.2.Ai,c.2.A,0⟩:TOp))))))))))))
def S_qe (f:TOp):SC R_qe R_qe :=
.call (@F_q4t_ok f.U) fun h g=>
.call (@F_q7x_ok h) fun d i=>
.reg 1 [] [(2,hc g [] true),(3,hc i [] false)] [.cl 1 g [] 1 true,.cl 0 i [] 1 false]<|
.ite ((d.length:Int)==0) (
.r ([])) (
.guard [1<=d.length]<|
.reg 6 [] [] [.pf (p:=(0:Int)<=1) dk,.ev 0,.e d.length]<|
.guard [(d.length-1)<2 ^ 63]<|
.range (((d.length-1):Nat):Int) (d.length-1) rfl (.why (.ev 0)) 20 [1,4,19] (fun (c:(List Y8)×TOp)=>[(3,(Rb 1 c.1.length 0 c.1.length)),(18,(Rb 1 c.1.length (0+1) (d.length-1)))]) (fun c=>[(1,(eS 1 Rf c.1)),(2,(TOp.b c.2))]) (d,(⟨0,f.B,f.D,f.Ab,f.Of,f.V,f.Ah,f.Ai,f.A,f.Ae⟩:TOp)) (S_qe_b1 f d) (fun c => 
.ite (!((c.2.U==0)&&((c.2.B==([]))&&((c.2.D==0)&&((c.2.Ab==0)&&((c.2.Of==0)&&((c.2.V==0)&&((c.2.Ah==0)&&((c.2.Ai==0)&&((c.2.A==0)&&((c.2.Ae==0)&&true))))))))))) (
.r ([])) (
.guard [c.1.length<2 ^ 63]<|
.frz 1 (.ev 0) none [3] []<|
.a 20 1 3 (@F_q7w_ok c.1 ([32])) fun j=>
.r j)) id)
def F_qe (a:TOp):=(S_qe a).den
theorem F_qe_ok {a:TOp}:FO (F_qe a) 228 [(TOp.d a)] [] (fun x=>(AV.d (Rf x))) NL:=fO (s:=S_qe a) Tryz.func228
def S_q47 (c:TOp):SC Bool Bool :=
.a 1 1 1 (@F_qe_ok c) fun b=>
.r (!(b==([])))
def F_q47 (a:TOp):=(S_q47 a).den
theorem F_q47_ok {a:TOp}:FO (F_q47 a) 187 [(TOp.d a)] [] vb NL:=fO (s:=S_q47 a) Tryz.func187
def S_q7k (a:TRi) (b:Y8) (c:Int):SC Bool Bool :=
.r (bif (a.B==b) then (a.D==c) else false)
def F_q7k (a:TRi) (b:Y8) (c:Int):=(S_q7k a b c).den
theorem F_q7k_ok {c:TRi} {a:Y8} {b:Int}:FO (F_q7k c a b) 190 [(TRi.d c),(vp 0),(vp 1)] [(bx (Rf a)),(Rd (vi b))] vb (fun _=>[(bx (Rf a)),(Rd (vi b))]):=fO (s:=S_q7k c a b) Tryz.func190
def S_q3e_b1 (d:(List TRi)) (e:Y8) (f:Int) (a:Nat) (_:Unit):SC Int (Step Unit Int) :=
.call (@F_q7k_ok (d.getD a dF) e f) fun c b=>
.reg 4 [] [(5,hc b [0,1] true)] [.w a,.ev 1,.cl 0 b [0,1] 2 true]<|
.ite c (
.r (.ret (a:Int))) (
.r (.cont ()))
def S_q3e (a:(List TRi)) (b:Y8) (c:Int):SC Int Int :=
.range (a.length:Int) a.length rfl (.slot 0) 8 [0,1,7] (fun (_:Unit)=>[]) (fun _=>[]) () (S_q3e_b1 a b c) (fun _ => 
.r (-1)) id
def F_q3e (a:(List TRi)) (b:Y8) (c:Int):=(S_q3e a b c).den
theorem F_q3e_ok {c:(List TRi)} {a:Y8} {b:Int}:FO (F_q3e c a b) 189 [(AV.d (eL TRi.e c)),(AV.fn 190 [(vp 0),(vp 1)])] [(bx (Rf a)),(Rd (vi b))] vi (fun _=>[(bx (Rf a)),(Rd (vi b))]):=fO (s:=S_q3e c a b) Tryz.func189
def S_q4u (c:TOf) (d:Y8) (e:Int):SC Int Int :=
.call (@F_q3e_ok c.L d e) fun a b=>
.k 1 3 b [1,2] 3 true<|
.r a
def F_q4u (a:TOf) (b:Y8) (c:Int):=(S_q4u a b c).den
theorem F_q4u_ok {a:TOf} {b:Y8} {c:Int}:FO (F_q4u a b c) 156 [(TOf.d a),(AV.d (Rf b)),(vi c)] [] vi NL:=fO (s:=S_q4u a b c) Tryz.func156
def S_q3q (c:TOf) (d:Y8) (e:Int):SC Bool Bool :=
.a 1 3 1 (@F_q4u_ok c d e) fun b=>
.r (decide (b>=0))
def F_q3q (a:TOf) (b:Y8) (c:Int):=(S_q3q a b c).den
theorem F_q3q_ok {a:TOf} {b:Y8} {c:Int}:FO (F_q3q a b c) 213 [(TOf.d a),(AV.d (Rf b)),(vi c)] [] vb NL:=fO (s:=S_q3q a b c) Tryz.func213
def S_q21 (c:TOf) (d:Y8) (e:Int):SC TRi TRi :=
.a 1 3 2 (@F_q4u_ok c d e) fun b=>
.ite (decide (b>=0)) (
.guard [(0:Int)<=b,b.toNat<c.L.length]<|
.reg 3 [] [] [.ev 0,.ev 1]<|
.r (c.L.getD b.toNat dF)) (
.r (⟨d,e,0,0,0⟩:TRi))
def F_q21 (a:TOf) (b:Y8) (c:Int):=(S_q21 a b c).den
theorem F_q21_ok {a:TOf} {b:Y8} {c:Int}:FO (F_q21 a b c) 113 [(TOf.d a),(AV.d (Rf b)),(vi c)] [] (fun x=>(TRi.d x)) NL:=fO (s:=S_q21 a b c) Tryz.func113
def S_q3r (d:TRi):SC Bool Bool :=
.call (@F_q37_ok d.B d.D) fun a e=>
.calld [a=true] dF (@F_q1n_ok d.A) fun i f =>
 let b:=(bif a then i else false)
.calld [b=true] dF (@F_q1n_ok d.F) fun j g =>
 let c:=(bif b then j else false)
.calld [c=true] dF (@F_qh_ok d.Q 0 d.A) fun k h =>
.reg 1 [] [(4,hc e [] true),(8,hc f [] true),(13,hc g [] true),(20,hc h [] true)] [.cl 6 e [] 1 true,.clg 4 [a=true] f [] 1 true,.clg 2 [b=true] g [] 1 true,.clg 0 [c=true] h [] 1 true]<|
.r (bif c then k else false)
def F_q3r (a:TRi):=(S_q3r a).den
theorem F_q3r_ok {a:TRi}:FO (F_q3r a) 211 [(TRi.d a)] [] vb NL:=fO (s:=S_q3r a) Tryz.func211
def S_q66 (b:TRi) (c:TMe):SC (TRi×Int) (TRi×Int) :=
.a 1 1 3 (@F_q3r_ok b) fun g=>
.ite (cO (cO (cO (!g) (c.Aa != 0)) (!(c.B==b.B))) (c.D != b.D)) (
.r ((⟨[],0,0,0,0⟩:TRi),1)) (
.call (@F_q1n_ok c.A) fun d e=>
.calld [(!d)=false] dF (@F_q1n_ok c.F) fun h f =>
.reg 3 [] [(2,hc e [] true),(7,hc f [] true)] [.cl 2 e [] 3 true,.clg 0 [(!d)=false] f [] 3 true]<|
.ite (cO (!d) (!h)) (
.r ((⟨[],0,0,0,0⟩:TRi),2)) (
.reg 5 [11,13] [] []<|
.r ((⟨b.B,b.D,(if c.A>b.A then c.A else b.A),(if c.F>b.F then c.F else b.F),b.Q⟩:TRi),0)))
def F_q66 (a:TRi) (b:TMe):=(S_q66 a b).den
theorem F_q66_ok {a:TRi} {b:TMe}:FO (F_q66 a b) 258 [(TRi.d a),(TMe.d b)] [] (fun x=>(Rg [(TRi.d x.1),(vi x.2)])) NL:=fO (s:=S_q66 a b) Tryz.func258
def S_q67 (a:(List TRi)):SC (List TRi) (List TRi) :=
.reg 0 [] [] []<|
.nils 0 (
.guard [a.length * (2 * 48)<=2 ^ 48]<|
.reg 1 [] [] []<|
.lev 0 (AV.d (eL TRi.e a)) (.pf (lvQ true a.length fun j=>(TRi.e (a.getD j dF))))<|
.br true (.pf (p:=true=true) rfl)<|
.reg 2 [] [] []<|
.bor 5 (fun j=>AV.d (TRi.e (a.getD j dF))) [2]<|
.cst (A:=a.length=0) (.ev 1) [(2,Rb 0 0 0 0)] [(2,(Rb 0 a.length 0 a.length))] [(Ob.seq 5 0 fun j=>AV.d (TRi.e (a.getD j dF)))] [(eS 5 TRi.e a)] (fun h=>⟨by rw[h],by unfold eS; rw[h]⟩)<|
.r a) (
.reg 1 [] [] []<|
.lev 0 (AV.d (eL TRi.e a)) (.pf (lvQ false a.length fun j=>(TRi.e (a.getD j dF))))<|
.br false (.pf (p:=false=false) rfl)<|
.guard [a.length * (2 * 48)<=2 ^ 48]<|
.reg 3 [] [(2,{ h:=.obj })] [.pf (p:=∀ k,k<a.length->(TRi.d (a.getD k dF)).wd=5) (fun _ _=>rfl),.ev 0]<|
.r a)
def F_q67 (a:(List TRi)):=(S_q67 a).den
theorem F_q67_ok {a:(List TRi)}:FO (F_q67 a) 296 [(AV.d (eL TRi.e a))] [] (fun x=>(Rb 0 x.length 0 x.length)) (fun x=>[(eS 5 TRi.e x)]):=fO (s:=S_q67 a) Tryz.func296
def S_q3s (h:TRi) (j:TRi):SC Int Int :=
.call (@F_q4f_ok h.B j.B) fun e b=>
.call (@F_q41_ok h.D j.D) fun f c=>
 let a:=([e,f]:List Int)
.call (@F_q1f_ok a) fun g d=>
.reg 1 [] [(4,hc b [] true),(9,hc c [] true),(10,hv (vl a)),(11,hc d [] true)] [.cl 2 b [] 2 true,.cl 1 c [] 2 true,.pf (z9 Ra a),.cl 0 d [] 2 true]<|
.r g
def F_q3s (a:TRi) (b:TRi):=(S_q3s a b).den
theorem F_q3s_ok {a:TRi} {b:TRi}:FO (F_q3s a b) 212 [(TRi.d a),(TRi.d b)] [] vi NL:=fO (s:=S_q3s a b) Tryz.func212
abbrev R_q2o:=Int×Bool
def S_q2o_b1 (g:TRi) (c:(List TRi)) (a:Int×Int):SC R_q2o (Step (Int×Int) R_q2o) :=
.ite (decide (a.1<a.2)) (
.reg 4 [] [] [.pf (p:=(0:Int)<=1) dk]<|
 let b:=(i64.wrap ((IntKind.u64.wrap (i64.wrap (a.1+a.2))).fdiv (2 ^ (min (1:Int).toNat IntKind.u64.bits))))
.call (@F_q3s_ok (c.getD (0+b.toNat) dF) g) fun f d=>
.guard [(0:Int)<=b,b.toNat<c.length,(0+b.toNat)<c.length]<|
.reg 5 [] [(6,hc d [] true)] [.e c.length,.ev 0,.ev 1,.e c.length,.ev 2,.cl 3 d [] 2 true]<|
.ite (decide (f<0)) (
.r (.cont ((i64.wrap (b+1)),a.2))) (
.r (.cont (a.1,b)))) (
.r (.brk (a.1,a.2)))
def S_q2o (f:TRi) (c:(List TRi)):SC R_q2o R_q2o :=
.iter [0,2,4,8] (fun (a:Int×Int)=>[(9,(vi a.1)),(10,(vi a.2))]) (fun _=>[]) (0,(c.length:Int)) (S_q2o_b1 f c) (fun a =>
 let b:=(decide (a.1<(c.length:Int)))
.calld [b=true] dF (@F_q3s_ok (c.getD (0+a.1.toNat) dF) f) fun e d =>
.guard [AllP [b=true]->((0:Int)<=a.1),AllP [b=true]->(a.1.toNat<c.length),AllP [b=true]->((0+a.1.toNat)<c.length)]<|
.reg 8 [] [(11,hc d [] true)] [.pf (p:=AllP [b=true]->(c.length=c.length)) (fun _=>rfl),.ev 0,.ev 1,.pf (p:=AllP [b=true]->(c.length=c.length)) (fun _=>rfl),.ev 2,.clg 3 [b=true] d [] 2 true]<|
.r (a.1,(bif b then (e==0) else false))) id
def F_q2o (a:TRi) (b:(List TRi)):=(S_q2o a b).den
theorem F_q2o_ok {b:TRi} {a:(List TRi)}:FO (F_q2o b a) 297 [(Rb 0 a.length 0 a.length),(TRi.d b),(AV.fn 212 [])] [(eS 5 TRi.e a)] (fun x=>(Rg [(vi x.1),(vb x.2)])) (fun _=>[(eS 5 TRi.e a)]):=fO (s:=S_q2o b a) Tryz.func297
def V_q7u (x:(List TRi)):AV:=.ref 0 x.length 0 x.length
def L_q7u (a:List TRi) (x:(List TRi)):List Ob:=[eS 5 TRi.e x,eS 5 TRi.e a]
def F_q7u (a:Int) (b c:List TRi):Option (List TRi):=match c with
 | [y]=>guardP (0<=a/\a.toNat<=b.length/\(b.length+1) * (4 * 48)<=2 ^ 48) (some (insL b a.toNat y))
 | _=>none
theorem F_q7u_ok {c:Int} {f a:List TRi} (r:(List TRi)) (h:F_q7u c f a=some r):CallOk Tryz.prog 298 [(Rb 0 f.length 0 f.length),(AV.d (.i .i64 c)),(Rb 1 a.length 0 a.length)] [(eS 5 TRi.e f),(eS 5 TRi.e a)] (V_q7u r) (L_q7u a r):=by
 unfold F_q7u at h
 split at h
 ·rename_i y
  obtain⟨⟨h1,h2,h3⟩,h⟩:=z1w h
  obtain rfl:=yw h
  obtain⟨i,rfl⟩:∃ i:Nat,c=(i:Int):=⟨c.toNat,(y5j h1).symm⟩
  exact InsG.ins_ok .b (fun _=>rfl) h2 h3
 ·cases h
def S_q4v (g:TOf) (q:TRi):SC TOf TOf :=
 let m:=(TOf.b (⟨0,[],(⟨[],[],[],[]⟩:TBo)⟩:TOf))
.reg 0 [] [(2,{ obs:=[(2,m)] })] [.pf z18]<|
.call (@F_q67_ok g.L) fun a u=>
.k 1 2 u [] 3 false<|
.call (@F_q2o_ok q a) fun f v=>
.k 2 3 v [3] 4 true<|
.cut none [2,4] (fun (_:Int×TBo×(List TRi))=>[]) (fun c=>[(0,(Rd (Rc [(vi c.1),(Rb 3 c.2.2.length 0 c.2.2.length),(TBo.d c.2.1)]))),(3,(eS 5 TRi.e c.2.2))]) (
.ite f.2 (
 let n:=(0+f.1.toNat)
.guard [(0:Int)<=f.1,f.1.toNat<a.length,n<a.length]<|
 let j:=(a.set n q)
 let o:=(eS 5 TRi.e j)
.reg 4 [] [(5,{ obs:=[(3,o)] })] [.e a.length,.ev 0,.ev 1,.e a.length,.ev 2,.pf (zk (sz:=5) (e:=TRi.e) (l:=a) (i:=n) (x:=q) (fun _=>rfl))]<|
 let s:=[(2,(vp 0)),(4,(vp 2))]
.cst (A:=True) (.pf trivial) s s [(Rd (Rc [(vi g.S),(Rb 3 a.length 0 a.length),(TBo.d g.Ag)])),(TRi.b q),m,o] [(Rd (Rc [(vi g.S),(Rb 3 j.length 0 j.length),(TBo.d g.Ag)])),(TRi.b q),m,o] (fun _=>⟨Zd,Zb⟩)<|
.r (.next (g.S,g.Ag,j))) (
 let p:=([q]:List TRi)
.call (@F_q7u_ok f.1 a p) fun w t=>
.reg 5 [] [(4,{ h:=.obj,obs:=[(4,(eS 5 TRi.e p))] }),(5,hc t [3,4] false)] [.pf (z8m (sz:=5) (e:=TRi.e) (l:=p)),.cl 0 t [3,4] 5 false]<|
.r (.next (g.S,g.Ag,w)))) fun c=>
.guard [c.2.2.length<2 ^ 63]<|
.reg 6 [] [] []<|
.frz 3 (.ev 0) none [] [0,2]<|
.r (⟨c.1,c.2.2,c.2.1⟩:TOf)
def F_q4v (a:TOf) (b:TRi):=(S_q4v a b).den
theorem F_q4v_ok {a:TOf} {b:TRi}:FO (F_q4v a b) 259 [(TOf.d a),(TRi.d b)] [] (fun x=>(TOf.d x)) NL:=fO (s:=S_q4v a b) Tryz.func259
def S_q68 (j:TOf) (e:TOp):SC (TOf×Int) (TOf×Int) :=
 let c:=(⟨0,[],(⟨[],[],[],[]⟩:TBo)⟩:TOf)
.reg 0 [] [(2,{ obs:=[(2,(TOf.b c))] })] [.pf z18]<|
.a 1 2 3 (@F_q7v_ok e.B) fun k=>
 let f:=(0,hv (TOf.d c))
.ite ((k.length:Int)==0) (
.reg 2 [] [f] [.pf z1v]<|
.r (c,5)) (
.ite (cO (decide (e.D<0)) (decide (e.D>99))) (
.reg 4 [] [f] [.pf z1v]<|
.r (c,2)) (
.a 5 5 3 (@F_q3q_ok j e.B e.D) fun l=>
.ite (bif (!l) then ((j.L.length:Int)==60) else false) (
.reg 6 [] [f] [.pf z1v]<|
.r (c,3)) (
.call (@F_q21_ok j e.B e.D) fun m g=>
.call (@F_q66_ok m (⟨0,0,e.B,e.D,e.A,e.Ae,0,0⟩:TMe)) fun h i=>
.reg 7 [19,20] [(5,hc g [] true),(15,hc i [] true)] [.cl 1 g [] 3 true,.cl 1 g [] 4 true,.cl 0 i [] 3 true,.cl 0 i [] 4 true]<|
.ite (h.2 != 0) (
.reg 9 [] [f] [.pf z1v]<|
.r (c,h.2)) (
.a 10 2 4 (@F_q4v_ok j h.1) fun n=>
.r (n,0)))))
def F_q68 (a:TOf) (b:TOp):=(S_q68 a b).den
theorem F_q68_ok {a:TOf} {b:TOp}:FO (F_q68 a b) 229 [(TOf.d a),(TOp.d b)] [] (fun x=>(Rg [(TOf.d x.1),(vi x.2)])) NL:=fO (s:=S_q68 a b) Tryz.func229
def S_q2p_b1 (d:TBo) (e:Int) (c:Nat) (a:Int×Int):SC (Int×Int) (Step (Int×Int) (Int×Int)) :=
.reg 3 [] [] [.w c,.ev 0]<|
 let b:=(d.H.getD c dF)
.ite (b.Y==e) (
.r (.cont ((i64.wrap (a.1+b.V)),(i64.wrap (a.2+b.Ad))))) (
.r (.cont (a.1,a.2)))
def S_q2p (b:TBo) (c:Int):SC (Int×Int) (Int×Int) :=
.range (b.H.length:Int) b.H.length rfl (.slot 9) 11 [1,9,10] (fun (a:Int×Int)=>[(4,(vi a.1)),(5,(vi a.2))]) (fun _=>[]) (0,0) (S_q2p_b1 b c) (fun a => 
.r (a.1,a.2)) id
def F_q2p (a:TBo) (b:Int):=(S_q2p a b).den
theorem F_q2p_ok {a:TBo} {b:Int}:FO (F_q2p a b) 191 [(TBo.d a),(vi b)] [] (fun x=>(Rg [(vi x.1),(vi x.2)])) NL:=fO (s:=S_q2p a b) Tryz.func191
def S_q1k_b1 (g:TBo) (h:Y8) (i:Int) (d:Nat) (e:Int):SC Int (Step Int Int) :=
.reg 4 [] [] [.w d,.ev 0]<|
 let b:=(g.C.getD d dF)
.ite (bif (b.B==h) then (b.D==i) else false) (
.a 6 3 2 (@F_q2p_ok g b.S) fun f=>
.r (.cont (i64.wrap (e+(i64.wrap ((i64.wrap (b.V-b.Ad))-f.2)))))) (
.c e)
def S_q1k (b:TBo) (c:Y8) (d:Int):SC Int Int :=
.range (b.C.length:Int) b.C.length rfl (.slot 13) 15 [1,2,3,13,14] (fun (a:Int)=>[(7,(vi a))]) (fun _=>[]) 0 (S_q1k_b1 b c d) (fun a => 
.r a) id
def F_q1k (a:TBo) (b:Y8) (c:Int):=(S_q1k a b c).den
theorem F_q1k_ok {a:TBo} {b:Y8} {c:Int}:FO (F_q1k a b c) 157 [(TBo.d a),(AV.d (Rf b)),(vi c)] [] vi NL:=fO (s:=S_q1k a b c) Tryz.func157
def S_q69 (b:TRi) (k:Int) (h:Int):SC (TRi×Int) (TRi×Int) :=
.call (@F_q3r_ok b) fun c e=>
 let f:=(i64.wrap (b.A-b.Q))
.calld [(!c)=false] dF (@F_qh_ok k 0 f) fun i g =>
.reg 1 [] [(1,hc e [] true),(10,hc g [] true)] [.cl 2 e [] 2 true,.clg 0 [(!c)=false] g [] 2 true]<|
 let d:=(⟨[],0,0,0,0⟩:TRi)
.ite (cO (!c) (!i)) (
.r (d,1)) (
.a 3 1 2 (@F_qh_ok h 1 1000000000000000) fun j=>
.ite (!j) (
.r (d,2)) (
.ite (decide (h>(i64.wrap (f-k)))) (
.r (d,15)) (
.r ((⟨b.B,b.D,b.A,b.F,(i64.wrap (b.Q+h))⟩:TRi),0))))
def F_q69 (a:TRi) (b:Int) (c:Int):=(S_q69 a b c).den
theorem F_q69_ok {a:TRi} {b:Int} {c:Int}:FO (F_q69 a b c) 260 [(TRi.d a),(vi b),(vi c)] [] (fun x=>(Rg [(TRi.d x.1),(vi x.2)])) NL:=fO (s:=S_q69 a b c) Tryz.func260
end
end Go.Proofs.YtgbpiaddmclccaaGreatDoor
/- What the functions compute,and that their calls return it. No condition. -/
namespace Go.Proofs.YtgbpiaddmclccaaGreatDoor
open Go Go.TA
open Go.IntKind (i64)
noncomputable section
set_option maxRecDepth 100000
def S_q6a (k:TOf) (e:TOp):SC (TOf×Int) (TOf×Int) :=
 let c:=(⟨0,[],(⟨[],[],[],[]⟩:TBo)⟩:TOf)
.reg 0 [] [(2,{ obs:=[(2,(TOf.b c))] })] [.pf z18]<|
.a 1 5 3 (@F_q3q_ok k e.B e.D) fun l=>
 let j:=(0,hv (TOf.d c))
.ite (!l) (
.reg 2 [] [j] [.pf z1v]<|
.r (c,6)) (
.call (@F_q21_ok k e.B e.D) fun m f=>
.call (@F_q1k_ok k.Ag e.B e.D) fun n g=>
.call (@F_q69_ok m n e.V) fun h i=>
.reg 3 [19,20] [(5,hc f [] true),(12,hc g [] true),(15,hc i [] true)] [.cl 2 f [] 3 true,.cl 2 f [] 4 true,.cl 1 g [] 3 true,.cl 1 g [] 4 true,.cl 0 i [] 3 true,.cl 0 i [] 4 true]<|
.ite (h.2 != 0) (
.reg 5 [] [j] [.pf z1v]<|
.r (c,h.2)) (
.a 6 2 4 (@F_q4v_ok k h.1) fun o=>
.r (o,0)))
def F_q6a (a:TOf) (b:TOp):=(S_q6a a b).den
theorem F_q6a_ok {a:TOf} {b:TOp}:FO (F_q6a a b) 230 [(TOf.d a),(TOp.d b)] [] (fun x=>(Rg [(TOf.d x.1),(vi x.2)])) NL:=fO (s:=S_q6a a b) Tryz.func230
def S_qf (a:Int) (b:Int) (c:Int):SC Bool Bool :=
.r (bif (decide (a>=b)) then (decide (a<=c)) else false)
def F_qf (a:Int) (b:Int) (c:Int):=(S_qf a b c).den
theorem F_qf_ok {a:Int} {b:Int} {c:Int}:FO (F_qf a b c) 270 [(vi a),(vi b),(vi c)] [] vb NL:=fO (s:=S_qf a b c) Tryz.func270
def S_q1c (c:Int):SC Bool Bool :=
.a 1 1 0 (@F_qf_ok c 0 35990) fun b=>
.r b
def F_q1c (a:Int):=(S_q1c a).den
theorem F_q1c_ok {a:Int}:FO (F_q1c a) 271 [(vi a)] [] vb NL:=fO (s:=S_q1c a) Tryz.func271
def S_q7l (a:Int):SC Bool Bool :=
.r (bif (decide (a>=0)) then (decide (a<=36000)) else false)
def F_q7l (a:Int):=(S_q7l a).den
theorem F_q7l_ok {a:Int}:FO (F_q7l a) 301 [(vi a)] [] vb NL:=fO (s:=S_q7l a) Tryz.func301
def S_q22 (c:Int):SC Int Int :=
.a 1 1 0 (@F_q7l_ok c) fun b=>
.ite (!b) (
.r (-1)) (
.reg 3 [] [] [.pf (p:=(360:Int)≠0) dk]<|
.r (i64.wrap (c.tdiv 360)))
def F_q22 (a:Int):=(S_q22 a).den
theorem F_q22_ok {a:Int}:FO (F_q22 a) 272 [(vi a)] [] vi NL:=fO (s:=S_q22 a) Tryz.func272
def S_q23 (c:Int):SC Bool Bool :=
.a 1 1 0 (@F_qf_ok c 1 1000000000000) fun b=>
.r b
def F_q23 (a:Int):=(S_q23 a).den
theorem F_q23_ok {a:Int}:FO (F_q23 a) 273 [(vi a)] [] vb NL:=fO (s:=S_q23 a) Tryz.func273
def S_q48 (d:TBo) (b:TRe):SC Int Int :=
.a 1 3 2 (@F_q2p_ok d b.S) fun c=>
.r (i64.wrap ((i64.wrap (b.V-b.Ad))-c.1))
def F_q48 (a:TBo) (b:TRe):=(S_q48 a b).den
theorem F_q48_ok {a:TBo} {b:TRe}:FO (F_q48 a b) 274 [(TBo.d a),(TRe.d b)] [] vi NL:=fO (s:=S_q48 a b) Tryz.func274
def S_q4w (q:TBo) (p:Int):SC Bool Bool :=
.guard [(0:Int)<=p,p.toNat<q.C.length]<|
.reg 1 [] [] [.ev 0,.ev 1]<|
 let a:=(q.C.getD p.toNat dF)
 let b:=(a.S==(i64.wrap (p+1)))
.calld [b=true] dF (@F_q7v_ok a.B) fun s i =>
 let c:=(bif b then (decide ((s.length:Int)>0)) else false)
.calld [c=true] dF (@F_qf_ok a.D 0 99) fun t j =>
 let d:=(bif c then t else false)
.calld [d=true] dF (@F_q1c_ok a.Ab) fun u k =>
 let e:=(bif d then u else false)
.calld [e=true] dF (@F_q22_ok a.Ab) fun v l =>
 let f:=(bif e then (v==a.D) else false)
.calld [f=true] dF (@F_q23_ok a.V) fun w m =>
 let g:=(bif f then w else false)
.calld [g=true] dF (@F_qf_ok a.Ad 0 a.V) fun x n =>
 let h:=(bif g then x else false)
.calld [h=true] dF (@F_q48_ok q a) fun y o =>
.reg 2 [] [(8,hc i [] true),(15,hc j [] true),(20,hc k [] true),(25,hc l [] true),(33,hc m [] true),(40,hc n [] true),(45,hc o [] true)] [.clg 12 [b=true] i [] 2 true,.clg 10 [c=true] j [] 2 true,.clg 8 [d=true] k [] 2 true,.clg 6 [e=true] l [] 2 true,.clg 4 [f=true] m [] 2 true,.clg 2 [g=true] n [] 2 true,.clg 0 [h=true] o [] 2 true]<|
.r (bif h then (decide (y>=0)) else false)
def F_q4w (a:TBo) (b:Int):=(S_q4w a b).den
theorem F_q4w_ok {a:TBo} {b:Int}:FO (F_q4w a b) 240 [(TBo.d a),(vi b)] [] vb NL:=fO (s:=S_q4w a b) Tryz.func240
def S_q3t_b1 (d:TBo) (b:Nat) (_:Unit):SC Bool (Step Unit Bool) :=
.a 4 3 1 (@F_q4w_ok d (b:Int)) fun c=>
.ite (!c) (
.r (.ret false)) (
.r (.cont ()))
def S_q3t (b:TBo) (a:Int):SC Bool Bool :=
.guard [a.toNat<2 ^ 63]<|
.range a a.toNat rfl (.why (.ev 0)) 9 [1,2,3,8] (fun (_:Unit)=>[]) (fun _=>[]) () (S_q3t_b1 b) (fun _ => 
.r (decide (a<=200))) id
def F_q3t (a:TBo) (b:Int):=(S_q3t a b).den
theorem F_q3t_ok {a:TBo} {b:Int}:FO (F_q3t a b) 239 [(TBo.d a),(vi b),(AV.fn 240 [])] [] vb NL:=fO (s:=S_q3t a b) Tryz.func239
def S_q30_b1 (e:TBo) (f:Int) (a:Nat) (b:Int):SC Int (Step Int Int) :=
.reg 4 [] [] [.w a,.ev 0]<|
 let d:=(e.J.getD a dF)
.ite (d.Ac==f) (
.r (.cont (i64.wrap (b+d.V)))) (
.c b)
def S_q30 (b:TBo) (c:Int):SC Int Int :=
.range (b.J.length:Int) b.J.length rfl (.slot 9) 11 [1,9,10] (fun (a:Int)=>[(5,(vi a))]) (fun _=>[]) 0 (S_q30_b1 b c) (fun a => 
.r a) id
def F_q30 (a:TBo) (b:Int):=(S_q30 a b).den
theorem F_q30_ok {a:TBo} {b:Int}:FO (F_q30 a b) 302 [(TBo.d a),(vi b)] [] vi NL:=fO (s:=S_q30 a b) Tryz.func302
def S_q49 (d:TBo) (b:TCo):SC Int Int :=
.a 1 8 2 (@F_q30_ok d b.S) fun c=>
.r (i64.wrap ((i64.wrap (b.V-b.Ad))-c))
def F_q49 (a:TBo) (b:TCo):=(S_q49 a b).den
theorem F_q49_ok {a:TBo} {b:TCo}:FO (F_q49 a b) 275 [(TBo.d a),(TCo.d b)] [] vi NL:=fO (s:=S_q49 a b) Tryz.func275
def S_q4x (j:TBo) (u:Int):SC Bool Bool :=
.guard [(0:Int)<=u,u.toNat<j.H.length]<|
.reg 1 [] [] [.ev 0,.ev 1]<|
 let a:=(j.H.getD u.toNat dF)
 let b:=(a.S != (i64.wrap (u+1)))
.calld [b=false] dF (@F_qf_ok a.Y 1 (j.C.length:Int)) fun v k =>
.reg 2 [] [(11,hc k [] true)] [.clg 0 [b=false] k [] 2 true]<|
.ite (cO b (!v)) (
.r false) (
 let c:=(i64.wrap (a.Y-1))
.guard [(0:Int)<=c,c.toNat<j.C.length]<|
.reg 4 [] [] [.ev 0,.ev 1]<|
.call (@F_q1c_ok a.Ab) fun w l=>
 let m:=(j.C.getD c.toNat dF)
 let d:=(bif w then (decide (a.Ab>=m.Ab)) else false)
.calld [d=true] dF (@F_q22_ok a.Ab) fun x n =>
 let e:=(bif d then (x==m.D) else false)
.calld [e=true] dF (@F_q23_ok a.V) fun y o =>
 let f:=(bif e then y else false)
.calld [f=true] dF (@F_qf_ok a.Ad 0 a.V) fun z p =>
 let g:=(bif f then z else false)
.calld [g=true] dF (@F_qf_ok a.Ah 1 1000000) fun A q =>
 let h:=(bif g then A else false)
.calld [h=true] dF (@F_q1c_ok a.Ai) fun B s =>
 let i:=(bif h then B else false)
.calld [i=true] dF (@F_q49_ok j a) fun E t =>
.reg 5 [] [(2,hc l [] true),(13,hc n [] true),(21,hc o [] true),(28,hc p [] true),(33,hc q [] true),(38,hc s [] true),(43,hc t [] true)] [.cl 12 l [] 3 true,.clg 10 [d=true] n [] 3 true,.clg 8 [e=true] o [] 3 true,.clg 6 [f=true] p [] 3 true,.clg 4 [g=true] q [] 3 true,.clg 2 [h=true] s [] 3 true,.clg 0 [i=true] t [] 3 true]<|
.r (bif i then (decide (E>=0)) else false))
def F_q4x (a:TBo) (b:Int):=(S_q4x a b).den
theorem F_q4x_ok {a:TBo} {b:Int}:FO (F_q4x a b) 241 [(TBo.d a),(vi b)] [] vb NL:=fO (s:=S_q4x a b) Tryz.func241
def S_q3u_b1 (d:TBo) (b:Nat) (_:Unit):SC Bool (Step Unit Bool) :=
.a 4 3 1 (@F_q4x_ok d (b:Int)) fun c=>
.ite (!c) (
.r (.ret false)) (
.r (.cont ()))
def S_q3u (b:TBo) (a:Int):SC Bool Bool :=
.guard [a.toNat<2 ^ 63]<|
.range a a.toNat rfl (.why (.ev 0)) 9 [1,2,3,8] (fun (_:Unit)=>[]) (fun _=>[]) () (S_q3u_b1 b) (fun _ => 
.r (decide (a<=200))) id
def F_q3u (a:TBo) (b:Int):=(S_q3u a b).den
theorem F_q3u_ok {a:TBo} {b:Int}:FO (F_q3u a b) 239 [(TBo.d a),(vi b),(AV.fn 241 [])] [] vb NL:=fO (s:=S_q3u a b) Tryz.func239
def S_q24 (b:TBo) (c:TCo):SC Int Int :=
 let a:=(i64.wrap (c.Y-1))
.guard [(0:Int)<=a,a.toNat<b.C.length]<|
.reg 1 [] [] [.ev 0,.ev 1]<|
.r ((b.C.getD a.toNat dF).D)
def F_q24 (a:TBo) (b:TCo):=(S_q24 a b).den
theorem F_q24_ok {a:TBo} {b:TCo}:FO (F_q24 a b) 276 [(TBo.d a),(TCo.d b)] [] vi NL:=fO (s:=S_q24 a b) Tryz.func276
def S_q4y (f:TBo) (m:Int):SC Bool Bool :=
.guard [(0:Int)<=m,m.toNat<f.J.length]<|
.reg 1 [] [] [.ev 0,.ev 1]<|
 let a:=(f.J.getD m.toNat dF)
 let c:=(a.S != (i64.wrap (m+1)))
.calld [c=false] dF (@F_qf_ok a.Ac 1 (f.H.length:Int)) fun n g =>
.reg 2 [] [(11,hc g [] true)] [.clg 0 [c=false] g [] 2 true]<|
.ite (cO c (!n)) (
.r false) (
 let d:=(i64.wrap (a.Ac-1))
.guard [(0:Int)<=d,d.toNat<f.H.length]<|
.reg 4 [] [] [.ev 0,.ev 1]<|
.call (@F_q1c_ok a.Ab) fun o h=>
 let i:=(f.H.getD d.toNat dF)
 let b:=(bif o then (decide (a.Ab>=i.Ab)) else false)
.calld [b=true] dF (@F_q22_ok a.Ab) fun p j =>
.calld [b=true] dF (@F_q24_ok f i) fun q k =>
 let e:=(bif b then (decide (p<=(i64.wrap (q+1)))) else false)
.calld [e=true] dF (@F_q23_ok a.V) fun s l =>
.reg 5 [] [(2,hc h [] true),(13,hc j [] true),(16,hc k [] true),(23,hc l [] true)] [.cl 6 h [] 3 true,.clg 4 [b=true] j [] 3 true,.clg 2 [b=true] k [] 3 true,.clg 0 [e=true] l [] 3 true]<|
.r (bif e then s else false))
def F_q4y (a:TBo) (b:Int):=(S_q4y a b).den
theorem F_q4y_ok {a:TBo} {b:Int}:FO (F_q4y a b) 242 [(TBo.d a),(vi b)] [] vb NL:=fO (s:=S_q4y a b) Tryz.func242
def S_q3v_b1 (d:TBo) (b:Nat) (_:Unit):SC Bool (Step Unit Bool) :=
.a 4 3 1 (@F_q4y_ok d (b:Int)) fun c=>
.ite (!c) (
.r (.ret false)) (
.r (.cont ()))
def S_q3v (b:TBo) (a:Int):SC Bool Bool :=
.guard [a.toNat<2 ^ 63]<|
.range a a.toNat rfl (.why (.ev 0)) 9 [1,2,3,8] (fun (_:Unit)=>[]) (fun _=>[]) () (S_q3v_b1 b) (fun _ => 
.r (decide (a<=200))) id
def F_q3v (a:TBo) (b:Int):=(S_q3v a b).den
theorem F_q3v_ok {a:TBo} {b:Int}:FO (F_q3v a b) 239 [(TBo.d a),(vi b),(AV.fn 242 [])] [] vb NL:=fO (s:=S_q3v a b) Tryz.func239
def S_q4z (a:(List TOr)):SC (List TOr) (List TOr) :=
.reg 0 [] [] []<|
.nils 0 (
.guard [a.length * (2 * 40)<=2 ^ 48]<|
.reg 1 [] [] []<|
.lev 0 (AV.d (eL TOr.e a)) (.pf (lvQ true a.length fun j=>(TOr.e (a.getD j dF))))<|
.br true (.pf (p:=true=true) rfl)<|
.reg 2 [] [] []<|
.bor 5 (fun j=>AV.d (TOr.e (a.getD j dF))) [2]<|
.cst (A:=a.length=0) (.ev 1) [(2,Rb 0 0 0 0)] [(2,(Rb 0 a.length 0 a.length))] [(Ob.seq 5 0 fun j=>AV.d (TOr.e (a.getD j dF)))] [(eS 5 TOr.e a)] (fun h=>⟨by rw[h],by unfold eS; rw[h]⟩)<|
.r a) (
.reg 1 [] [] []<|
.lev 0 (AV.d (eL TOr.e a)) (.pf (lvQ false a.length fun j=>(TOr.e (a.getD j dF))))<|
.br false (.pf (p:=false=false) rfl)<|
.guard [a.length * (2 * 40)<=2 ^ 48]<|
.reg 3 [] [(2,{ h:=.obj })] [.pf (p:=∀ k,k<a.length->(TOr.d (a.getD k dF)).wd=5) (fun _ _=>rfl),.ev 0]<|
.r a)
def F_q4z (a:(List TOr)):=(S_q4z a).den
theorem F_q4z_ok {a:(List TOr)}:FO (F_q4z a) 304 [(AV.d (eL TOr.e a))] [] (fun x=>(Rb 0 x.length 0 x.length)) (fun x=>[(eS 5 TOr.e x)]):=fO (s:=S_q4z a) Tryz.func304
def S_q4a (a:TOr) (b:Int):SC Bool Bool :=
.r (a.X != b)
def F_q4a (a:TOr) (b:Int):=(S_q4a a b).den
theorem F_q4a_ok {b:TOr} {a:Int}:FO (F_q4a b a) 305 [(TOr.d b),(vp 0)] [(Rd (vi a))] vb (fun _=>[(Rd (vi a))]):=fO (s:=S_q4a b a) Tryz.func305
def S_q25_b1 (c:(List TOr)) (f:Int) (a:Nat) (_:Unit):SC Int (Step Unit Int) :=
.call (@F_q4a_ok (c.getD (0+a) dF) f) fun d b=>
.guard [(0+a)<c.length]<|
.reg 4 [] [(5,hc b [1] true)] [.e c.length,.w a,.ev 2,.e c.length,.ev 0,.cl 1 b [1] 2 true]<|
.ite d (
.r (.ret (a:Int))) (
.r (.cont ()))
def S_q25 (a:(List TOr)) (b:Int):SC Int Int :=
.guard [a.length<2 ^ 63]<|
.range (a.length:Int) a.length rfl (.why (.ev 0)) 8 [0,1,7] (fun (_:Unit)=>[]) (fun _=>[]) () (S_q25_b1 a b) (fun _ => 
.r (-1)) id
def F_q25 (a:(List TOr)) (b:Int):=(S_q25 a b).den
theorem F_q25_ok {a:(List TOr)} {b:Int}:FO (F_q25 a b) 306 [(Rb 0 a.length 0 a.length),(AV.fn 305 [(vp 1)])] [(eS 5 TOr.e a),(Rd (vi b))] vi (fun _=>[(eS 5 TOr.e a),(Rd (vi b))]):=fO (s:=S_q25 a b) Tryz.func306
abbrev R_q26:=(List TOr)
def S_q26_b1 (n:Int) (a:(List TOr)×Int×Int):SC R_q26 (Step ((List TOr)×Int×Int) R_q26) :=
.ite (decide (a.2.2<(a.1.length:Int))) (
.guard [(0:Int)<=a.2.2,a.2.2.toNat<a.1.length,(0+a.2.2.toNat)<a.1.length]<|
.reg 7 [] [] [.e a.1.length,.ev 0,.ev 1,.e a.1.length,.ev 2]<|
 let d:=(a.1.getD (0+a.2.2.toNat) dF)
.call (@F_q4a_ok d n) fun j m=>
.k 8 2 m [1] 3 true<|
 let g:=(i64.wrap (a.2.2+1))
.ite (!j) (
 let f:=(0+a.2.1.toNat)
.guard [(0:Int)<=a.2.1,a.2.1.toNat<a.1.length,f<a.1.length]<|
 let c:=(a.1.set f d)
.reg 9 [] [(4,{ obs:=[(0,(eS 5 TOr.e c))] })] [.e a.1.length,.ev 0,.ev 1,.e a.1.length,.ev 2,.pf (zk (sz:=5) (e:=TOr.e) (l:=a.1) (i:=f) (x:=d) (fun _=>rfl))]<|
 let h:=[(eS 5 TOr.e c),(Rd (vi n)),(TOr.b d)]
.cst (A:=True) (.pf trivial) [(0,(Rb 0 a.1.length 0 a.1.length)),(1,(AV.fn 305 [(vp 1)])),(5,(vi a.2.1)),(6,(vi a.2.2))] [(0,(Rb 0 c.length 0 c.length)),(1,(AV.fn 305 [(vp 1)])),(5,(vi a.2.1)),(6,(vi a.2.2))] h h (fun _=>⟨Zb,by rfl⟩)<|
.r (.cont (c,(i64.wrap (a.2.1+1)),g))) (
.r (.cont (a.1,a.2.1,g)))) (
.r (.brk (a.1,a.2.1,a.2.2)))
def S_q26 (o:(List TOr)) (p:Int):SC R_q26 R_q26 :=
.call (@F_q25_ok o p) fun g q=>
.k 1 2 q [0,1] 2 true<|
.ite (g==(-1)) (
.guard [o.length<2 ^ 63]<|
.reg 3 [] [] []<|
.frz 0 (.ev 0) none [4] []<|
.r o) (
.iter [1] (fun (a:(List TOr)×Int×Int)=>[(0,(Rb 0 a.1.length 0 a.1.length)),(5,(vi a.2.1)),(6,(vi a.2.2))]) (fun a=>[(0,(eS 5 TOr.e a.1))]) (o,g,(i64.wrap (g+1))) (S_q26_b1 p) (fun a =>
.guard [(0:Int)<=a.2.1,a.2.1.toNat<=a.1.length]<|
 let b:=(a.1.length-a.2.1.toNat)
 let c:=(⟨0,0,0,0,false⟩:TOr)
 let f:=(0+a.2.1.toNat)
 let i:=(eS 5 TOr.e (clearL a.1 f b c))
.reg 11 [] [(3,{ obs:=[(0,i)] })] [.ev 0,.ev 1,.e a.1.length,.e a.1.length,.pf (zgh (sz:=5) (e:=TOr.e) (l:=a.1) (off:=f) (n:=b) (z:=c))]<|
 let j:=((clearL a.1 f b c).length)
.cst (A:=True) (.pf trivial) [(0,(Rb 0 a.1.length 0 a.1.length)),(5,(vi a.2.1))] [(0,(Rb 0 j 0 j)),(5,(vi a.2.1))] [i,(Rd (vi p))] [i,(Rd (vi p))] (fun _=>⟨by simp +zetaDelta only[z1r],by rfl⟩)<|
.guard [a.2.1.toNat<=(clearL a.1 f b c).length]<|
.reg 12 [] [] [.ev 1,.ev 0,.e j]<|
.guard [(clearL a.1 f b c).length<2 ^ 63]<|
.frz 0 (.ev 0) (some (.der (fun (h:a.2.1.toNat<=(clearL a.1 f b c).length)=>(y28 (Nat.sub_le _ _) h:(a.2.1.toNat-0)<=(clearL a.1 f b c).length)) 1)) [4] []<|
 let m:=((clearL a.1 f b c).take a.2.1.toNat)
.lev 4 (AV.d (eL TOr.e m)) (.der (fun (h:a.2.1.toNat<=(clearL a.1 f b c).length)=>lvT TOr.e (clearL a.1 f b c) h) 1)<|
.r m) id)
def F_q26 (a:(List TOr)) (b:Int):=(S_q26 a b).den
theorem F_q26_ok {a:(List TOr)} {b:Int}:FO (F_q26 a b) 303 [(Rb 0 a.length 0 a.length),(AV.fn 305 [(vp 1)])] [(eS 5 TOr.e a),(Rd (vi b))] (fun x=>(AV.d (eL TOr.e x))) (fun _=>[Re,(Rd (vi b))]):=fO (s:=S_q26 a b) Tryz.func303
def S_q50 (e:TBo) (f:Int):SC (List TOr) (List TOr) :=
.call (@F_q4z_ok e.W) fun c a=>
.call (@F_q26_ok c f) fun d b=>
.reg 1 [] [(2,hc a [] false),(4,hc b [2,1] false)] [.cl 1 a [] 2 false,.cl 0 b [2,1] 3 false]<|
.r d
def F_q50 (a:TBo) (b:Int):=(S_q50 a b).den
theorem F_q50_ok {a:TBo} {b:Int}:FO (F_q50 a b) 277 [(TBo.d a),(vi b)] [] (fun x=>(AV.d (eL TOr.e x))) NL:=fO (s:=S_q50 a b) Tryz.func277
def S_q7m (a:TOr) (b:TOr):SC Bool Bool :=
.r (cO (!a.Al) (decide (a.Ab>b.Ab)))
def F_q7m (a:TOr) (b:TOr):=(S_q7m a b).den
theorem F_q7m_ok {c:TOr} {a:TOr}:FO (F_q7m c a) 278 [(TOr.d c),(vp 0)] [(TOr.b a)] vb (fun _=>[(TOr.b a)]):=fO (s:=S_q7m c a) Tryz.func278
def S_q31_b1 (d:(List TOr)) (e:TOr) (a:Nat) (_:Unit):SC Int (Step Unit Int) :=
.call (@F_q7m_ok (d.getD a dF) e) fun c b=>
.reg 4 [] [(5,hc b [0] true)] [.w a,.ev 1,.cl 0 b [0] 1 true]<|
.ite c (
.r (.ret (a:Int))) (
.r (.cont ()))
def S_q31 (a:(List TOr)) (b:TOr):SC Int Int :=
.range (a.length:Int) a.length rfl (.slot 0) 8 [0,1,7] (fun (_:Unit)=>[]) (fun _=>[]) () (S_q31_b1 a b) (fun _ => 
.r (-1)) id
def F_q31 (a:(List TOr)) (b:TOr):=(S_q31 a b).den
theorem F_q31_ok {c:(List TOr)} {a:TOr}:FO (F_q31 c a) 306 [(AV.d (eL TOr.e c)),(AV.fn 278 [(vp 0)])] [(TOr.b a)] vi (fun _=>[(TOr.b a)]):=fO (s:=S_q31 c a) Tryz.func306
def S_q6b (c:(List TOr)) (d:TOr):SC Bool Bool :=
.call (@F_q31_ok c d) fun a b=>
.k 1 2 b [0] 1 true<|
.r (decide (a>=0))
def F_q6b (a:(List TOr)) (b:TOr):=(S_q6b a b).den
theorem F_q6b_ok {c:(List TOr)} {a:TOr}:FO (F_q6b c a) 279 [(AV.d (eL TOr.e c)),(AV.fn 278 [(vp 0)])] [(TOr.b a)] vb (fun _=>[(TOr.b a)]):=fO (s:=S_q6b c a) Tryz.func279
def S_q51 (c:TBo) (f:Int):SC Bool Bool :=
.guard [(0:Int)<=f,f.toNat<c.W.length]<|
.reg 1 [] [] [.ev 0,.ev 1]<|
 let a:=(c.W.getD f.toNat dF)
 let g:=(a.S != (i64.wrap (f+1)))
.calld [g=false] dF (@F_qf_ok a.X 1 (c.J.length:Int)) fun w m =>
.reg 2 [] [(11,hc m [] true)] [.clg 0 [g=false] m [] 2 true]<|
.ite (cO g (!w)) (
.r false) (
 let h:=(i64.wrap (a.X-1))
.guard [(0:Int)<=h,h.toNat<c.J.length]<|
.reg 4 [] [] [.ev 0,.ev 1]<|
 let i:=(c.W.take f.toNat)
 let j:=(⟨[],[],[],i⟩:TBo)
.call (@F_q50_ok j a.X) fun n o=>
.guard [f.toNat<=c.W.length]<|
.reg 5 [] [(3,hv (AV.d (eL TOr.e i))),(4,hv (TBo.d j)),(7,hc o [] true)] [.ev 7,.ev 0,.der (fun (h0:f.toNat<=c.W.length)=>lvT TOr.e c.W h0) 0,.pf (p:=LeV (AV.d (DV.agg [Z0,Z0,Z0,(eL TOr.e i)])) (TBo.d j)) (z2o rfl (DLe.agg (Rh DLe.sl0 (Rh DLe.sl0 (Rh DLe.sl0 (Rh (DLe.refl _) DLeL.nil)))))),.cl 1 o [] 3 true]<|
.call (@F_q1c_ok a.Ab) fun x q=>
 let s:=(c.J.getD h.toNat dF)
 let b:=(bif x then (decide (a.Ab>=s.Ab)) else false)
.calld [b=true] dF (@F_q22_ok a.Ab) fun y t =>
 let k:=(i64.wrap (s.Ac-1))
.calld [b=true] dF (@F_q24_ok c (c.H.getD k.toNat dF)) fun z u =>
 let l:=(bif (bif b then (decide (y<=(i64.wrap (z+1)))) else false) then (a.Ak==(i64.wrap ((n.length:Int)+1))) else false)
.calld [l=true] dF (@F_q6b_ok n a) fun A v =>
.guard [AllP [b=true]->((0:Int)<=k),AllP [b=true]->(k.toNat<c.H.length)]<|
.reg 7 [] [(2,hc q [] true),(13,hc t [] true),(22,hc u [] true),(37,hc v [1] true)] [.cl 8 q [] 3 true,.clg 6 [b=true] t [] 3 true,.ev 0,.ev 1,.clg 4 [b=true] u [] 3 true,.clg 2 [l=true] v [1] 3 true]<|
.r (bif l then (!A) else false))
def F_q51 (a:TBo) (b:Int):=(S_q51 a b).den
theorem F_q51_ok {a:TBo} {b:Int}:FO (F_q51 a b) 243 [(TBo.d a),(vi b)] [] vb NL:=fO (s:=S_q51 a b) Tryz.func243
end
end Go.Proofs.YtgbpiaddmclccaaGreatDoor
/- What the functions compute,and that their calls return it. No condition. -/
namespace Go.Proofs.YtgbpiaddmclccaaGreatDoor
open Go Go.TA
open Go.IntKind (i64)
noncomputable section
set_option maxRecDepth 100000
def S_q3w_b1 (d:TBo) (b:Nat) (_:Unit):SC Bool (Step Unit Bool) :=
.a 4 3 1 (@F_q51_ok d (b:Int)) fun c=>
.ite (!c) (
.r (.ret false)) (
.r (.cont ()))
def S_q3w (b:TBo) (a:Int):SC Bool Bool :=
.guard [a.toNat<2 ^ 63]<|
.range a a.toNat rfl (.why (.ev 0)) 9 [1,2,3,8] (fun (_:Unit)=>[]) (fun _=>[]) () (S_q3w_b1 b) (fun _ => 
.r (decide (a<=200))) id
def F_q3w (a:TBo) (b:Int):=(S_q3w a b).den
theorem F_q3w_ok {a:TBo} {b:Int}:FO (F_q3w a b) 239 [(TBo.d a),(vi b),(AV.fn 243 [])] [] vb NL:=fO (s:=S_q3w a b) Tryz.func239
def S_q27 (a:TBo):SC Bool Bool :=
.call (@F_q3t_ok a (a.C.length:Int)) fun b e=>
.calld [b=true] dF (@F_q3u_ok a (a.H.length:Int)) fun i f =>
 let c:=(bif b then i else false)
.calld [c=true] dF (@F_q3v_ok a (a.J.length:Int)) fun j g =>
 let d:=(bif c then j else false)
.calld [d=true] dF (@F_q3w_ok a (a.W.length:Int)) fun k h =>
.reg 1 [] [(4,hc e [] true),(10,hc f [] true),(17,hc g [] true),(24,hc h [] true)] [.cl 6 e [] 1 true,.clg 4 [b=true] f [] 1 true,.clg 2 [c=true] g [] 1 true,.clg 0 [d=true] h [] 1 true]<|
.r (bif d then k else false)
def F_q27 (a:TBo):=(S_q27 a).den
theorem F_q27_ok {a:TBo}:FO (F_q27 a) 210 [(TBo.d a)] [] vb NL:=fO (s:=S_q27 a) Tryz.func210
def S_q6c (a:(List TRe)):SC (List TRe) (List TRe) :=
.reg 0 [] [] []<|
.nils 0 (
.guard [a.length * (2 * 56)<=2 ^ 48]<|
.reg 1 [] [] []<|
.lev 0 (AV.d (eL TRe.e a)) (.pf (lvQ true a.length fun j=>(TRe.e (a.getD j dF))))<|
.br true (.pf (p:=true=true) rfl)<|
.reg 2 [] [] []<|
.bor 6 (fun j=>AV.d (TRe.e (a.getD j dF))) [2]<|
.cst (A:=a.length=0) (.ev 1) [(2,Rb 0 0 0 0)] [(2,(Rb 0 a.length 0 a.length))] [(Ob.seq 6 0 fun j=>AV.d (TRe.e (a.getD j dF)))] [(eS 6 TRe.e a)] (fun h=>⟨by rw[h],by unfold eS; rw[h]⟩)<|
.r a) (
.reg 1 [] [] []<|
.lev 0 (AV.d (eL TRe.e a)) (.pf (lvQ false a.length fun j=>(TRe.e (a.getD j dF))))<|
.br false (.pf (p:=false=false) rfl)<|
.guard [a.length * (2 * 56)<=2 ^ 48]<|
.reg 3 [] [(2,{ h:=.obj })] [.pf (p:=∀ k,k<a.length->(TRe.d (a.getD k dF)).wd=6) (fun _ _=>rfl),.ev 0]<|
.r a)
def F_q6c (a:(List TRe)):=(S_q6c a).den
theorem F_q6c_ok {a:(List TRe)}:FO (F_q6c a) 316 [(AV.d (eL TRe.e a))] [] (fun x=>(Rb 0 x.length 0 x.length)) (fun x=>[(eS 6 TRe.e x)]):=fO (s:=S_q6c a) Tryz.func316
def S_q6d (a:(List TCo)):SC (List TCo) (List TCo) :=
.reg 0 [] [] []<|
.nils 0 (
.guard [a.length * (2 * 56)<=2 ^ 48]<|
.reg 1 [] [] []<|
.lev 0 (AV.d (eL TCo.e a)) (.pf (lvQ true a.length fun j=>(TCo.e (a.getD j dF))))<|
.br true (.pf (p:=true=true) rfl)<|
.reg 2 [] [] []<|
.bor 7 (fun j=>AV.d (TCo.e (a.getD j dF))) [2]<|
.cst (A:=a.length=0) (.ev 1) [(2,Rb 0 0 0 0)] [(2,(Rb 0 a.length 0 a.length))] [(Ob.seq 7 0 fun j=>AV.d (TCo.e (a.getD j dF)))] [(eS 7 TCo.e a)] (fun h=>⟨by rw[h],by unfold eS; rw[h]⟩)<|
.r a) (
.reg 1 [] [] []<|
.lev 0 (AV.d (eL TCo.e a)) (.pf (lvQ false a.length fun j=>(TCo.e (a.getD j dF))))<|
.br false (.pf (p:=false=false) rfl)<|
.guard [a.length * (2 * 56)<=2 ^ 48]<|
.reg 3 [] [(2,{ h:=.obj })] [.pf (p:=∀ k,k<a.length->(TCo.d (a.getD k dF)).wd=7) (fun _ _=>rfl),.ev 0]<|
.r a)
def F_q6d (a:(List TCo)):=(S_q6d a).den
theorem F_q6d_ok {a:(List TCo)}:FO (F_q6d a) 317 [(AV.d (eL TCo.e a))] [] (fun x=>(Rb 0 x.length 0 x.length)) (fun x=>[(eS 7 TCo.e x)]):=fO (s:=S_q6d a) Tryz.func317
def S_q6e (a:(List TVe)):SC (List TVe) (List TVe) :=
.reg 0 [] [] []<|
.nils 0 (
.guard [a.length * (2 * 32)<=2 ^ 48]<|
.reg 1 [] [] []<|
.lev 0 (AV.d (eL TVe.e a)) (.pf (lvQ true a.length fun j=>(TVe.e (a.getD j dF))))<|
.br true (.pf (p:=true=true) rfl)<|
.reg 2 [] [] []<|
.bor 4 (fun j=>AV.d (TVe.e (a.getD j dF))) [2]<|
.cst (A:=a.length=0) (.ev 1) [(2,Rb 0 0 0 0)] [(2,(Rb 0 a.length 0 a.length))] [(Ob.seq 4 0 fun j=>AV.d (TVe.e (a.getD j dF)))] [(eS 4 TVe.e a)] (fun h=>⟨by rw[h],by unfold eS; rw[h]⟩)<|
.r a) (
.reg 1 [] [] []<|
.lev 0 (AV.d (eL TVe.e a)) (.pf (lvQ false a.length fun j=>(TVe.e (a.getD j dF))))<|
.br false (.pf (p:=false=false) rfl)<|
.guard [a.length * (2 * 32)<=2 ^ 48]<|
.reg 3 [] [(2,{ h:=.obj })] [.pf (p:=∀ k,k<a.length->(TVe.d (a.getD k dF)).wd=4) (fun _ _=>rfl),.ev 0]<|
.r a)
def F_q6e (a:(List TVe)):=(S_q6e a).den
theorem F_q6e_ok {a:(List TVe)}:FO (F_q6e a) 318 [(AV.d (eL TVe.e a))] [] (fun x=>(Rb 0 x.length 0 x.length)) (fun x=>[(eS 4 TVe.e x)]):=fO (s:=S_q6e a) Tryz.func318
abbrev R_q28:=(List TRe)×(List TCo)×(List TVe)×(List TOr)
def S_q28 (f:TBo):SC R_q28 R_q28 :=
.reg 0 [] [(1,{ obs:=[(1,(TBo.b (⟨[],[],[],[]⟩:TBo)))] })] [.pf z2l]<|
.call (@F_q6c_ok f.C) fun g a=>
.call (@F_q6d_ok f.H) fun h c=>
.call (@F_q6e_ok f.J) fun i d=>
.call (@F_q4z_ok f.W) fun j e=>
.reg 1 [2,5,8,11,13] [(2,hc a [] false),(5,hc c [] false),(8,hc d [] false),(11,hc e [] false)] [.cl 3 a [] 2 false,.cl 2 c [] 3 false,.cl 1 d [] 4 false,.cl 0 e [] 5 false]<|
.kill 0<|
.r (g,h,i,j)
def F_q28 (a:TBo):=(S_q28 a).den
theorem F_q28_ok {a:TBo}:FO (F_q28 a) 299 [(TBo.d a)] [] (fun x=>(Rc [(Rb 2 x.1.length 0 x.1.length),(Rb 3 x.2.1.length 0 x.2.1.length),(Rb 4 x.2.2.1.length 0 x.2.2.1.length),(Rb 5 x.2.2.2.length 0 x.2.2.2.length)])) (fun x=>[Re,(Rd (Rc [(Rb 2 x.1.length 0 x.1.length),(Rb 3 x.2.1.length 0 x.2.1.length),(Rb 4 x.2.2.1.length 0 x.2.2.1.length),(Rb 5 x.2.2.2.length 0 x.2.2.2.length)])),(eS 6 TRe.e x.1),(eS 7 TCo.e x.2.1),(eS 4 TVe.e x.2.2.1),(eS 5 TOr.e x.2.2.2)]):=fO (s:=S_q28 a) Tryz.func299
def S_q6f (s:TBo) (D:Y8) (t:Int) (u:Int) (E:Int):SC (TBo×Int) (TBo×Int) :=
 let g:=(⟨[],[],[],[]⟩:TBo)
.reg 0 [] [(1,{ obs:=[(1,(TBo.b g))] })] [.pf z2l]<|
.a 1 1 2 (@F_q27_ok s) fun v=>
 let h:=(0,hv (TBo.d g))
.ite (!v) (
.reg 2 [] [h] [.pf zo]<|
.r (g,1)) (
.a 3 1 2 (@F_q7v_ok D) fun w=>
.ite ((w.length:Int)==0) (
.reg 4 [] [h] [.pf zo]<|
.r (g,5)) (
.call (@F_qf_ok t 0 99) fun i m=>
.calld [(!i)=false] dF (@F_q1c_ok u) fun y n =>
 let j:=(cO (!i) (!y))
.calld [j=false] dF (@F_q23_ok E) fun z q =>
.reg 5 [] [(1,hc m [] true),(5,hc n [] true),(10,hc q [] true)] [.cl 4 m [] 2 true,.clg 2 [(!i)=false] n [] 2 true,.clg 0 [j=false] q [] 2 true]<|
.ite (cO j (!z)) (
.reg 6 [] [h] [.pf zo]<|
.r (g,2)) (
.a 7 1 2 (@F_q22_ok u) fun A=>
.ite (A != t) (
.reg 8 [] [h] [.pf zo]<|
.r (g,16)) (
.ite ((s.C.length:Int)==200) (
.reg 10 [] [h] [.pf zo]<|
.r (g,3)) (
.call (@F_q28_ok s) fun c B=>
.k 11 1 B [] 2 false<|
.kill 3<|
.guard [c.2.1.length<2 ^ 63]<|
.frz 5 (.ev 0) none [] [0]<|
.guard [c.2.2.1.length<2 ^ 63]<|
.frz 6 (.ev 0) none [] [0]<|
.guard [c.2.2.2.length<2 ^ 63]<|
.frz 7 (.ev 0) none [] [0]<|
.guard [(c.1.length+1) * (2 * 56)<=2 ^ 48]<|
 let f:=([(⟨(i64.wrap ((c.1.length:Int)+1)),D,t,u,E,0⟩:TRe)]:List TRe)
.reg 12 [] [(11,hv (AV.d (eL TRe.e f))),(12,{ cast:=some (Rb 4 ((c.1++f).length) 0 ((c.1++f).length)),obs:=[(4,(eS 6 TRe.e (c.1++f)))] })] [.pf (z9 TRe.e f),.e c.1.length,.e c.1.length,.pf (p:=∀ k,k<1->(TRe.d (f.getD k dF)).wd=6) (fun _ _=>rfl),.ev 0,.pf (zw (o:=4) (l:=c.1) (x:=f)),.pf (zy (sz:=6) (e:=TRe.e) (l:=c.1) (x:=f))]<|
.guard [(c.1++f).length<2 ^ 63]<|
.reg 13 [] [] []<|
.frz 4 (.ev 0) none [] [0,1]<|
.r ((⟨(c.1++f),c.2.1,c.2.2.1,c.2.2.2⟩:TBo),0))))))
def F_q6f (a:TBo) (b:Y8) (c:Int) (d:Int) (e:Int):=(S_q6f a b c d e).den
theorem F_q6f_ok {a:TBo} {b:Y8} {c:Int} {e:Int} {f:Int}:FO (F_q6f a b c e f) 261 [(TBo.d a),(AV.d (Rf b)),(vi c),(vi e),(vi f)] [] (fun x=>(Rg [(TBo.d x.1),(vi x.2)])) NL:=fO (s:=S_q6f a b c e f) Tryz.func261
def S_q6g (j:TBo) (A:Int) (z:Int) (B:Int) (N:Int) (O:Int):SC (TBo×Int) (TBo×Int) :=
 let f:=(⟨[],[],[],[]⟩:TBo)
.reg 0 [] [(1,{ obs:=[(1,(TBo.b f))] })] [.pf z2l]<|
.a 1 1 2 (@F_q27_ok j) fun E=>
 let g:=(0,hv (TBo.d f))
.ite (!E) (
.reg 2 [] [g] [.pf zo]<|
.r (f,1)) (
.a 3 4 2 (@F_qf_ok A 1 (j.C.length:Int)) fun F=>
.ite (!F) (
.reg 4 [] [g] [.pf zo]<|
.r (f,6)) (
.call (@F_q1c_ok z) fun m u=>
.calld [(!m)=false] dF (@F_q23_ok B) fun G v =>
 let n:=(cO (!m) (!G))
.calld [n=false] dF (@F_qf_ok N 1 1000000) fun I w =>
 let q:=(cO n (!I))
.calld [q=false] dF (@F_q1c_ok O) fun J y =>
.reg 5 [] [(1,hc u [] true),(5,hc v [] true),(10,hc w [] true),(15,hc y [] true)] [.cl 6 u [] 2 true,.clg 4 [(!m)=false] v [] 2 true,.clg 2 [n=false] w [] 2 true,.clg 0 [q=false] y [] 2 true]<|
.ite (cO q (!J)) (
.reg 6 [] [g] [.pf zo]<|
.r (f,2)) (
 let s:=(i64.wrap (A-1))
.guard [(0:Int)<=s,s.toNat<j.C.length]<|
.reg 7 [] [] [.ev 0,.ev 1]<|
.a 8 1 3 (@F_q22_ok z) fun K=>
 let t:=(j.C.getD s.toNat dF)
.ite (K != t.D) (
.reg 9 [] [g] [.pf zo]<|
.r (f,16)) (
.ite (decide (z<t.Ab)) (
.reg 11 [] [g] [.pf zo]<|
.r (f,8)) (
.a 12 3 3 (@F_q48_ok j t) fun L=>
.ite (decide (B>L)) (
.reg 13 [] [g] [.pf zo]<|
.r (f,15)) (
.ite ((j.H.length:Int)==200) (
.reg 15 [] [g] [.pf zo]<|
.r (f,3)) (
.call (@F_q28_ok j) fun c M=>
.k 16 1 M [] 3 false<|
.kill 4<|
.guard [c.1.length<2 ^ 63]<|
.frz 5 (.ev 0) none [] [0]<|
.guard [c.2.2.1.length<2 ^ 63]<|
.frz 7 (.ev 0) none [] [0]<|
.guard [c.2.2.2.length<2 ^ 63]<|
.frz 8 (.ev 0) none [] [0]<|
.guard [(c.2.1.length+1) * (2 * 56)<=2 ^ 48]<|
 let h:=([(⟨(i64.wrap ((c.2.1.length:Int)+1)),A,z,B,0,N,O⟩:TCo)]:List TCo)
 let i:=(c.2.1++h)
.reg 17 [] [(12,hv (AV.d (eL TCo.e h))),(13,{ cast:=some (Rb 6 i.length 0 i.length),obs:=[(6,(eS 7 TCo.e i))] })] [.pf (z9 TCo.e h),.e c.2.1.length,.e c.2.1.length,.pf (p:=∀ k,k<1->(TCo.d (h.getD k dF)).wd=7) (fun _ _=>rfl),.ev 0,.pf (zw (o:=6) (l:=c.2.1) (x:=h)),.pf (zy (sz:=7) (e:=TCo.e) (l:=c.2.1) (x:=h))]<|
.guard [i.length<2 ^ 63]<|
.reg 18 [] [] []<|
.frz 6 (.ev 0) none [] [0,1]<|
.r ((⟨c.1,i,c.2.2.1,c.2.2.2⟩:TBo),0))))))))
def F_q6g (a:TBo) (b:Int) (c:Int) (d:Int) (e:Int) (f:Int):=(S_q6g a b c d e f).den
theorem F_q6g_ok {a:TBo} {b:Int} {c:Int} {e:Int} {f:Int} {g:Int}:FO (F_q6g a b c e f g) 262 [(TBo.d a),(vi b),(vi c),(vi e),(vi f),(vi g)] [] (fun x=>(Rg [(TBo.d x.1),(vi x.2)])) NL:=fO (s:=S_q6g a b c e f g) Tryz.func262
def S_q6h (j:TBo) (y:Int) (w:Int) (z:Int):SC (TBo×Int) (TBo×Int) :=
 let f:=(⟨[],[],[],[]⟩:TBo)
.reg 0 [] [(1,{ obs:=[(1,(TBo.b f))] })] [.pf z2l]<|
.a 1 1 2 (@F_q27_ok j) fun A=>
 let g:=(0,hv (TBo.d f))
.ite (!A) (
.reg 2 [] [g] [.pf zo]<|
.r (f,1)) (
.a 3 4 2 (@F_qf_ok y 1 (j.H.length:Int)) fun B=>
.ite (!B) (
.reg 4 [] [g] [.pf zo]<|
.r (f,6)) (
.call (@F_q1c_ok w) fun m s=>
.calld [(!m)=false] dF (@F_q23_ok z) fun C t =>
.reg 5 [] [(1,hc s [] true),(5,hc t [] true)] [.cl 2 s [] 2 true,.clg 0 [(!m)=false] t [] 2 true]<|
.ite (cO (!m) (!C)) (
.reg 6 [] [g] [.pf zo]<|
.r (f,2)) (
 let n:=(i64.wrap (y-1))
.guard [(0:Int)<=n,n.toNat<j.H.length]<|
.reg 7 [] [] [.ev 0,.ev 1]<|
.call (@F_q22_ok w) fun D u=>
 let q:=(j.H.getD n.toNat dF)
.call (@F_q24_ok j q) fun E v=>
.reg 8 [] [(1,hc u [] true),(4,hc v [] true)] [.cl 1 u [] 3 true,.cl 0 v [] 3 true]<|
.ite (decide (D>(i64.wrap (E+1)))) (
.reg 9 [] [g] [.pf zo]<|
.r (f,16)) (
.ite (decide (w<q.Ab)) (
.reg 11 [] [g] [.pf zo]<|
.r (f,8)) (
.a 12 3 3 (@F_q49_ok j q) fun F=>
.ite (decide (z>F)) (
.reg 13 [] [g] [.pf zo]<|
.r (f,15)) (
.ite ((j.J.length:Int)==200) (
.reg 15 [] [g] [.pf zo]<|
.r (f,3)) (
.call (@F_q28_ok j) fun c G=>
.k 16 1 G [] 3 false<|
.kill 4<|
.guard [c.1.length<2 ^ 63]<|
.frz 5 (.ev 0) none [] [0]<|
.guard [c.2.1.length<2 ^ 63]<|
.frz 6 (.ev 0) none [] [0]<|
.guard [c.2.2.2.length<2 ^ 63]<|
.frz 8 (.ev 0) none [] [0]<|
.guard [(c.2.2.1.length+1) * (2 * 32)<=2 ^ 48]<|
 let h:=([(⟨(i64.wrap ((c.2.2.1.length:Int)+1)),y,w,z⟩:TVe)]:List TVe)
 let i:=(c.2.2.1++h)
.reg 17 [] [(10,hv (AV.d (eL TVe.e h))),(11,{ cast:=some (Rb 7 i.length 0 i.length),obs:=[(7,(eS 4 TVe.e i))] })] [.pf (z9 TVe.e h),.e c.2.2.1.length,.e c.2.2.1.length,.pf (p:=∀ k,k<1->(TVe.d (h.getD k dF)).wd=4) (fun _ _=>rfl),.ev 0,.pf (zw (o:=7) (l:=c.2.2.1) (x:=h)),.pf (zy (sz:=4) (e:=TVe.e) (l:=c.2.2.1) (x:=h))]<|
.guard [i.length<2 ^ 63]<|
.reg 18 [] [] []<|
.frz 7 (.ev 0) none [] [0,1]<|
.r ((⟨c.1,c.2.1,i,c.2.2.2⟩:TBo),0))))))))
def F_q6h (a:TBo) (b:Int) (c:Int) (d:Int):=(S_q6h a b c d).den
theorem F_q6h_ok {a:TBo} {b:Int} {c:Int} {e:Int}:FO (F_q6h a b c e) 263 [(TBo.d a),(vi b),(vi c),(vi e)] [] (fun x=>(Rg [(TBo.d x.1),(vi x.2)])) NL:=fO (s:=S_q6h a b c e) Tryz.func263
def S_q6i (n:TBo) (D:Int) (z:Int):SC (TBo×Int) (TBo×Int) :=
 let f:=(⟨[],[],[],[]⟩:TBo)
.reg 0 [] [(1,{ obs:=[(1,(TBo.b f))] })] [.pf z2l]<|
.a 1 1 2 (@F_q27_ok n) fun E=>
 let g:=(0,hv (TBo.d f))
.ite (!E) (
.reg 2 [] [g] [.pf zo]<|
.r (f,1)) (
.a 3 4 2 (@F_qf_ok D 1 (n.J.length:Int)) fun F=>
.ite (!F) (
.reg 4 [] [g] [.pf zo]<|
.r (f,6)) (
.a 5 1 2 (@F_q1c_ok z) fun G=>
.ite (!G) (
.reg 6 [] [g] [.pf zo]<|
.r (f,2)) (
 let u:=(i64.wrap (D-1))
.guard [(0:Int)<=u,u.toNat<n.J.length]<|
.reg 7 [] [] [.ev 0,.ev 1]<|
.a 8 2 3 (@F_q50_ok n D) fun v=>
.call (@F_q22_ok z) fun I A=>
 let B:=(n.J.getD u.toNat dF)
 let w:=(i64.wrap (B.Ac-1))
.call (@F_q24_ok n (n.H.getD w.toNat dF)) fun K C=>
.guard [(0:Int)<=w,w.toNat<n.H.length]<|
.reg 10 [] [(1,hc A [] true),(10,hc C [] true)] [.cl 3 A [] 3 true,.ev 0,.ev 1,.cl 2 C [] 3 true]<|
.ite (decide (I>(i64.wrap (K+1)))) (
.reg 11 [] [g] [.pf zo]<|
.r (f,16)) (
 let j:=(v.length:Int)
 let q:=(i64.wrap (j-1))
 let h:=(decide (j>0))
 let s:=(q.toNat<v.length)
.guard [AllP [h=true]->((0:Int)<=q),AllP [h=true]->s]<|
.reg 12 [] [] [.ev 0,.ev 1]<|
 let t:=(v.getD q.toNat dF)
.ite (bif h then (!t.Al) else false) (
.reg 13 [] [g] [.pf zo]<|
.r (f,20)) (
 let y:=(decide (z<B.Ab))
.guard [AllP [h=true,y=false]->((0:Int)<=q),AllP [h=true,y=false]->s]<|
.reg 14 [] [] [.ev 0,.ev 1]<|
.ite (cO y (bif h then (decide (z<t.Ab)) else false)) (
.reg 15 [] [g] [.pf zo]<|
.r (f,8)) (
.ite ((n.W.length:Int)==200) (
.reg 17 [] [g] [.pf zo]<|
.r (f,3)) (
.call (@F_q28_ok n) fun c L=>
.k 18 1 L [] 3 false<|
.kill 4<|
.guard [c.1.length<2 ^ 63]<|
.frz 5 (.ev 0) none [] [0]<|
.guard [c.2.1.length<2 ^ 63]<|
.frz 6 (.ev 0) none [] [0]<|
.guard [c.2.2.1.length<2 ^ 63]<|
.frz 7 (.ev 0) none [] [0]<|
.guard [(c.2.2.2.length+1) * (2 * 40)<=2 ^ 48]<|
 let i:=([(⟨(i64.wrap ((c.2.2.2.length:Int)+1)),D,(i64.wrap (j+1)),z,false⟩:TOr)]:List TOr)
 let m:=(c.2.2.2++i)
.reg 19 [] [(11,hv (AV.d (eL TOr.e i))),(12,{ cast:=some (Rb 8 m.length 0 m.length),obs:=[(8,(eS 5 TOr.e m))] })] [.pf (z9 TOr.e i),.e c.2.2.2.length,.e c.2.2.2.length,.pf (p:=∀ k,k<1->(TOr.d (i.getD k dF)).wd=5) (fun _ _=>rfl),.ev 0,.pf (zw (o:=8) (l:=c.2.2.2) (x:=i)),.pf (zy (sz:=5) (e:=TOr.e) (l:=c.2.2.2) (x:=i))]<|
.guard [m.length<2 ^ 63]<|
.reg 20 [] [] []<|
.frz 8 (.ev 0) none [] [0,1]<|
.r ((⟨c.1,c.2.1,c.2.2.1,m⟩:TBo),0))))))))
def F_q6i (a:TBo) (b:Int) (c:Int):=(S_q6i a b c).den
theorem F_q6i_ok {a:TBo} {b:Int} {c:Int}:FO (F_q6i a b c) 264 [(TBo.d a),(vi b),(vi c)] [] (fun x=>(Rg [(TBo.d x.1),(vi x.2)])) NL:=fO (s:=S_q6i a b c) Tryz.func264
def S_q32_b1 (e:TBo) (f:Int) (b:Nat) (_:Unit):SC Int (Step Unit Int) :=
.reg 3 [] [] [.w b,.ev 0]<|
 let c:=(e.C.getD b dF)
.ite (c.S==f) (
.a 5 2 2 (@F_q48_ok e c) fun d=>
.r (.ret d)) (
.r (.cont ()))
def S_q32 (a:TBo) (b:Int):SC Int Int :=
.range (a.C.length:Int) a.C.length rfl (.slot 8) 10 [1,2,8,9] (fun (_:Unit)=>[]) (fun _=>[]) () (S_q32_b1 a b) (fun _ => 
.r 0) id
def F_q32 (a:TBo) (b:Int):=(S_q32 a b).den
theorem F_q32_ok {a:TBo} {b:Int}:FO (F_q32 a b) 300 [(TBo.d a),(vi b)] [] vi NL:=fO (s:=S_q32 a b) Tryz.func300
def S_q6j (w:TBo) (y:Int) (z:Int):SC (TBo×Int) (TBo×Int) :=
 let f:=(⟨[],[],[],[]⟩:TBo)
 let q:=(TBo.b f)
.reg 0 [] [(1,{ obs:=[(1,q)] })] [.pf z2l]<|
.a 1 1 2 (@F_q27_ok w) fun E=>
 let j:=(0,hv (TBo.d f))
.ite (!E) (
.reg 2 [] [j] [.pf zo]<|
.r (f,1)) (
.a 3 4 2 (@F_qf_ok y 1 (w.C.length:Int)) fun F=>
.ite (!F) (
.reg 4 [] [j] [.pf zo]<|
.r (f,6)) (
.a 5 1 2 (@F_q23_ok z) fun G=>
.ite (!G) (
.reg 6 [] [j] [.pf zo]<|
.r (f,2)) (
.a 7 3 2 (@F_q32_ok w y) fun H=>
.ite (decide (z>H)) (
.reg 8 [] [j] [.pf zo]<|
.r (f,15)) (
.call (@F_q28_ok w) fun c I=>
.k 9 1 I [] 2 false<|
.kill 3<|
.guard [c.2.1.length<2 ^ 63]<|
.frz 5 (.ev 0) none [] [0]<|
.guard [c.2.2.1.length<2 ^ 63]<|
.frz 6 (.ev 0) none [] [0]<|
.guard [c.2.2.2.length<2 ^ 63]<|
.frz 7 (.ev 0) none [] [0]<|
 let s:=(i64.wrap (y-1))
 let m:=(0+s.toNat)
.guard [(0:Int)<=s,s.toNat<c.1.length,m<c.1.length]<|
 let g:=(c.1.getD m dF)
 let u:=(⟨g.S,g.B,g.D,g.Ab,g.V,(i64.wrap (g.Ad+z))⟩:TRe)
 let h:=(c.1.set m u)
 let t:=(eS 6 TRe.e h)
.reg 10 [] [(11,{ obs:=[(4,t)] })] [.e c.1.length,.ev 0,.ev 1,.e c.1.length,.e c.1.length,.ev 2,.e c.1.length,.ev 0,.ev 1,.e c.1.length,.e c.1.length,.ev 2,.pf (zk (sz:=6) (e:=TRe.e) (l:=c.1) (i:=m) (x:=u) (fun _=>rfl))]<|
 let v:=(AV.d (eL TVe.e c.2.2.1))
 let n:=(AV.d (eL TOr.e c.2.2.2))
 let o:=(AV.d (eL TCo.e c.2.1))
 let p:=[(3,(vp 0)),(6,(vp 1))]
.cst (A:=True) (.pf trivial) p p [(Rd (Rc [(Rb 4 c.1.length 0 c.1.length),o,v,n])),q,Re,Re,t,Re,Re,Re] [(Rd (Rc [(Rb 4 h.length 0 h.length),o,v,n])),q,Re,Re,t,Re,Re,Re] (fun _=>⟨Zd,Zb⟩)<|
.guard [h.length<2 ^ 63]<|
.reg 11 [] [] []<|
.frz 4 (.ev 0) none [] [0,1]<|
.r ((⟨h,c.2.1,c.2.2.1,c.2.2.2⟩:TBo),0)))))
def F_q6j (a:TBo) (b:Int) (c:Int):=(S_q6j a b c).den
theorem F_q6j_ok {a:TBo} {b:Int} {c:Int}:FO (F_q6j a b c) 265 [(TBo.d a),(vi b),(vi c)] [] (fun x=>(Rg [(TBo.d x.1),(vi x.2)])) NL:=fO (s:=S_q6j a b c) Tryz.func265
end
end Go.Proofs.YtgbpiaddmclccaaGreatDoor
