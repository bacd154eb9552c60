/- A part of the proof: what the functions compute, and that their calls return it. No condition. -/
import Derived.Test.YtcfloplnjicomaaGreatDoorG4
/- What the functions compute, and that their calls return it. No condition. -/
namespace Go.Proofs.YtcfloplnjicomaaGreatDoor
open Go Go.TA
open Go.IntKind (i64)
noncomputable section
set_option maxRecDepth 100000
abbrev R_q5:=TTr×TTape
def V_q5 (x:R_q5):AV:=(TTr.d x.1)
def L_q5 (x:R_q5):List Ob:=[(TTape.b x.2)]
def S_q5_b1 (i0:Nat) (a1:TTr) (p0:TTape) (iv1:Nat) (sv2:Int×(List TPo)):SC R_q5 (Step (Int×(List TPo)) R_q5) :=
.reg 4 [] [(2,{ obs:=[(9,(TPo.b (⟨[],0,0,[],[],[],[]⟩:TPo)))] })] [.w iv1,.ev 0,.pf cz1]<|
 let e1_:=(a1.B.getD iv1 dF)
.guard [e1_.A.length * (2 * 8)<=2 ^ 48]<|
.reg 5 [] [(3,{ h:=.obj })] [.pf (p:=∀ k,k<e1_.A.length->(AV.d ((DV.i .i64) (e1_.A.getD k dF))).wd=1) (fun _ _=>rfl),.ev 0]<|
.guard [e1_.D.length * (2 * 8)<=2 ^ 48]<|
.reg 6 [] [(3,{ h:=.obj })] [.pf (p:=∀ k,k<e1_.D.length->(AV.d ((DV.i .i64) (e1_.D.getD k dF))).wd=1) (fun _ _=>rfl),.ev 0]<|
.guard [e1_.C.length * (2 * 8)<=2 ^ 48]<|
.reg 7 [] [(3,{ h:=.obj })] [.pf (p:=∀ k,k<e1_.C.length->(AV.d ((DV.i .i64) (e1_.C.getD k dF))).wd=1) (fun _ _=>rfl),.ev 0]<|
.guard [e1_.E.length * (2 * 8)<=2 ^ 48]<|
.reg 8 [] [(3,{ h:=.obj })] [.pf (p:=∀ k,k<e1_.E.length->(AV.d ((DV.i .i64) (e1_.E.getD k dF))).wd=1) (fun _ _=>rfl),.ev 0]<|
.guard [(sv2.2.length+1) * (2 * 128)<=2 ^ 48]<|
.reg 9 [] [(3,{ h:=.obj }),(4,{ h:=.obj,cast:=some (AV.ref 4 ((sv2.2++[(⟨(a1.B.getD iv1 dF).F,(a1.B.getD iv1 dF).G,(a1.B.getD iv1 dF).H,(a1.B.getD iv1 dF).A,(a1.B.getD iv1 dF).D,(a1.B.getD iv1 dF).C,(a1.B.getD iv1 dF).E⟩:TPo)]).length) 0 ((sv2.2++[(⟨(a1.B.getD iv1 dF).F,(a1.B.getD iv1 dF).G,(a1.B.getD iv1 dF).H,(a1.B.getD iv1 dF).A,(a1.B.getD iv1 dF).D,(a1.B.getD iv1 dF).C,(a1.B.getD iv1 dF).E⟩:TPo)]).length)),obs:=[(4,(Ob.seq 7 ((sv2.2++[(⟨(a1.B.getD iv1 dF).F,(a1.B.getD iv1 dF).G,(a1.B.getD iv1 dF).H,(a1.B.getD iv1 dF).A,(a1.B.getD iv1 dF).D,(a1.B.getD iv1 dF).C,(a1.B.getD iv1 dF).E⟩:TPo)]).length) (catF sv2.2.length (fun j=>AV.sel (decide (j=i0)) 7 (AV.agg [(AV.d (DV.str (sv2.2.getD i0 dF).F)),(vi (sv2.2.getD i0 dF).G),(vi (sv2.2.getD i0 dF).H),(rr 5 (sv2.2.getD i0 dF).A),(rr 6 (sv2.2.getD i0 dF).D),(rr 7 (sv2.2.getD i0 dF).C),(rr 8 (sv2.2.getD i0 dF).E)]) (TPo.d (sv2.2.getD j dF))) (listF AV.bot [(AV.agg [(AV.d (DV.str (a1.B.getD iv1 dF).F)),(vi (a1.B.getD iv1 dF).G),(vi (a1.B.getD iv1 dF).H),(rr 10 (a1.B.getD iv1 dF).A),(rr 11 (a1.B.getD iv1 dF).D),(rr 12 (a1.B.getD iv1 dF).C),(rr 13 (a1.B.getD iv1 dF).E)])]))))] })] [.e 1,.e sv2.2.length,.e sv2.2.length,.pf (p:=∀ k,k<1->(listF AV.bot [(AV.agg [(AV.d (DV.str (a1.B.getD iv1 dF).F)),(vi (a1.B.getD iv1 dF).G),(vi (a1.B.getD iv1 dF).H),(rr 10 (a1.B.getD iv1 dF).A),(rr 11 (a1.B.getD iv1 dF).D),(rr 12 (a1.B.getD iv1 dF).C),(rr 13 (a1.B.getD iv1 dF).E)])] k).wd=7) (fun k hk=>by obtain rfl:k=0:=om; rfl),.ev 0,.pf (z2d (o:=4) (l:=sv2.2) (x:=[(⟨(a1.B.getD iv1 dF).F,(a1.B.getD iv1 dF).G,(a1.B.getD iv1 dF).H,(a1.B.getD iv1 dF).A,(a1.B.getD iv1 dF).D,(a1.B.getD iv1 dF).C,(a1.B.getD iv1 dF).E⟩:TPo)])),.pf (p:=OLe (Ob.seq 7 (sv2.2.length+1) (catF sv2.2.length (fun j=>AV.sel (decide (j=i0)) 7 (AV.agg [(AV.d (DV.str (sv2.2.getD i0 dF).F)),(vi (sv2.2.getD i0 dF).G),(vi (sv2.2.getD i0 dF).H),(rr 5 (sv2.2.getD i0 dF).A),(rr 6 (sv2.2.getD i0 dF).D),(rr 7 (sv2.2.getD i0 dF).C),(rr 8 (sv2.2.getD i0 dF).E)]) (TPo.d (sv2.2.getD j dF))) (listF AV.bot [(AV.agg [(AV.d (DV.str (a1.B.getD iv1 dF).F)),(vi (a1.B.getD iv1 dF).G),(vi (a1.B.getD iv1 dF).H),(rr 10 (a1.B.getD iv1 dF).A),(rr 11 (a1.B.getD iv1 dF).D),(rr 12 (a1.B.getD iv1 dF).C),(rr 13 (a1.B.getD iv1 dF).E)])]))) (Ob.seq 7 ((sv2.2++[(⟨(a1.B.getD iv1 dF).F,(a1.B.getD iv1 dF).G,(a1.B.getD iv1 dF).H,(a1.B.getD iv1 dF).A,(a1.B.getD iv1 dF).D,(a1.B.getD iv1 dF).C,(a1.B.getD iv1 dF).E⟩:TPo)]).length) (catF sv2.2.length (fun j=>AV.sel (decide (j=i0)) 7 (AV.agg [(AV.d (DV.str (sv2.2.getD i0 dF).F)),(vi (sv2.2.getD i0 dF).G),(vi (sv2.2.getD i0 dF).H),(rr 5 (sv2.2.getD i0 dF).A),(rr 6 (sv2.2.getD i0 dF).D),(rr 7 (sv2.2.getD i0 dF).C),(rr 8 (sv2.2.getD i0 dF).E)]) (TPo.d (sv2.2.getD j dF))) (listF AV.bot [(AV.agg [(AV.d (DV.str (a1.B.getD iv1 dF).F)),(vi (a1.B.getD iv1 dF).G),(vi (a1.B.getD iv1 dF).H),(rr 10 (a1.B.getD iv1 dF).A),(rr 11 (a1.B.getD iv1 dF).D),(rr 12 (a1.B.getD iv1 dF).C),(rr 13 (a1.B.getD iv1 dF).E)])])))) (zah sj)]<|
 let e0_:=(⟨e1_.F,e1_.G,e1_.H,e1_.A,e1_.D,e1_.C,e1_.E⟩:TPo)
.guard [((sv2.2.length=i0->0<e0_.A.length/\0<e0_.D.length/\0<e0_.C.length/\0<e0_.E.length)/\(e0_.A.length<2 ^ 63/\e0_.D.length<2 ^ 63/\e0_.C.length<2 ^ 63/\e0_.E.length<2 ^ 63))]<|
.sh (A:=((sv2.2.length=i0->0<(⟨(a1.B.getD iv1 dF).F,(a1.B.getD iv1 dF).G,(a1.B.getD iv1 dF).H,(a1.B.getD iv1 dF).A,(a1.B.getD iv1 dF).D,(a1.B.getD iv1 dF).C,(a1.B.getD iv1 dF).E⟩:TPo).A.length/\0<(⟨(a1.B.getD iv1 dF).F,(a1.B.getD iv1 dF).G,(a1.B.getD iv1 dF).H,(a1.B.getD iv1 dF).A,(a1.B.getD iv1 dF).D,(a1.B.getD iv1 dF).C,(a1.B.getD iv1 dF).E⟩:TPo).D.length/\0<(⟨(a1.B.getD iv1 dF).F,(a1.B.getD iv1 dF).G,(a1.B.getD iv1 dF).H,(a1.B.getD iv1 dF).A,(a1.B.getD iv1 dF).D,(a1.B.getD iv1 dF).C,(a1.B.getD iv1 dF).E⟩:TPo).C.length/\0<(⟨(a1.B.getD iv1 dF).F,(a1.B.getD iv1 dF).G,(a1.B.getD iv1 dF).H,(a1.B.getD iv1 dF).A,(a1.B.getD iv1 dF).D,(a1.B.getD iv1 dF).C,(a1.B.getD iv1 dF).E⟩:TPo).E.length)/\((⟨(a1.B.getD iv1 dF).F,(a1.B.getD iv1 dF).G,(a1.B.getD iv1 dF).H,(a1.B.getD iv1 dF).A,(a1.B.getD iv1 dF).D,(a1.B.getD iv1 dF).C,(a1.B.getD iv1 dF).E⟩:TPo).A.length<2 ^ 63/\(⟨(a1.B.getD iv1 dF).F,(a1.B.getD iv1 dF).G,(a1.B.getD iv1 dF).H,(a1.B.getD iv1 dF).A,(a1.B.getD iv1 dF).D,(a1.B.getD iv1 dF).C,(a1.B.getD iv1 dF).E⟩:TPo).D.length<2 ^ 63/\(⟨(a1.B.getD iv1 dF).F,(a1.B.getD iv1 dF).G,(a1.B.getD iv1 dF).H,(a1.B.getD iv1 dF).A,(a1.B.getD iv1 dF).D,(a1.B.getD iv1 dF).C,(a1.B.getD iv1 dF).E⟩:TPo).C.length<2 ^ 63/\(⟨(a1.B.getD iv1 dF).F,(a1.B.getD iv1 dF).G,(a1.B.getD iv1 dF).H,(a1.B.getD iv1 dF).A,(a1.B.getD iv1 dF).D,(a1.B.getD iv1 dF).C,(a1.B.getD iv1 dF).E⟩:TPo).E.length<2 ^ 63))) (.ev 0) [(0,(vp 0)),(4,(vp 2)),(5,(vp 3)),(14,(AV.d (eL TPo.e a1.B))),(15,(vi (a1.B.length:Int))),(16,(vi (iv1:Int)))] [(0,(vp 0)),(4,(vp 2)),(5,(vp 3)),(14,(AV.d (eL TPo.e a1.B))),(15,(vi (a1.B.length:Int))),(16,(vi (iv1:Int)))] [(TTape.b p0),(TTr.b a1),(TTr.b (⟨0,[]⟩:TTr)),(Ob.box (AV.agg [(vi sv2.1),(AV.ref 4 ((sv2.2++[(⟨(a1.B.getD iv1 dF).F,(a1.B.getD iv1 dF).G,(a1.B.getD iv1 dF).H,(a1.B.getD iv1 dF).A,(a1.B.getD iv1 dF).D,(a1.B.getD iv1 dF).C,(a1.B.getD iv1 dF).E⟩:TPo)]).length) 0 ((sv2.2++[(⟨(a1.B.getD iv1 dF).F,(a1.B.getD iv1 dF).G,(a1.B.getD iv1 dF).H,(a1.B.getD iv1 dF).A,(a1.B.getD iv1 dF).D,(a1.B.getD iv1 dF).C,(a1.B.getD iv1 dF).E⟩:TPo)]).length))])),(Ob.seq 7 (sv2.2++[(⟨(a1.B.getD iv1 dF).F,(a1.B.getD iv1 dF).G,(a1.B.getD iv1 dF).H,(a1.B.getD iv1 dF).A,(a1.B.getD iv1 dF).D,(a1.B.getD iv1 dF).C,(a1.B.getD iv1 dF).E⟩:TPo)]).length (catF sv2.2.length (fun j=>AV.sel (decide (j=i0)) 7 (AV.agg [(AV.d (DV.str (sv2.2.getD i0 dF).F)),(vi (sv2.2.getD i0 dF).G),(vi (sv2.2.getD i0 dF).H),(rr 5 (sv2.2.getD i0 dF).A),(rr 6 (sv2.2.getD i0 dF).D),(rr 7 (sv2.2.getD i0 dF).C),(rr 8 (sv2.2.getD i0 dF).E)]) (TPo.d (sv2.2.getD j dF))) (listF AV.bot [(AV.agg [(AV.d (DV.str (a1.B.getD iv1 dF).F)),(vi (a1.B.getD iv1 dF).G),(vi (a1.B.getD iv1 dF).H),(rr 10 (a1.B.getD iv1 dF).A),(rr 11 (a1.B.getD iv1 dF).D),(rr 12 (a1.B.getD iv1 dF).C),(rr 13 (a1.B.getD iv1 dF).E)])]))),(eQ (opQ TPo.A i0 sv2.2)),(eQ (opQ TPo.D i0 sv2.2)),(eQ (opQ TPo.C i0 sv2.2)),(eQ (opQ TPo.E i0 sv2.2)),(Ob.box (AV.agg [(AV.d (DV.str (a1.B.getD iv1 dF).F)),(vi (a1.B.getD iv1 dF).G),(vi (a1.B.getD iv1 dF).H),(rr 10 (a1.B.getD iv1 dF).A),(rr 11 (a1.B.getD iv1 dF).D),(rr 12 (a1.B.getD iv1 dF).C),(rr 13 (a1.B.getD iv1 dF).E)])),(eQ (⟨(a1.B.getD iv1 dF).F,(a1.B.getD iv1 dF).G,(a1.B.getD iv1 dF).H,(a1.B.getD iv1 dF).A,(a1.B.getD iv1 dF).D,(a1.B.getD iv1 dF).C,(a1.B.getD iv1 dF).E⟩:TPo).A),(eQ (⟨(a1.B.getD iv1 dF).F,(a1.B.getD iv1 dF).G,(a1.B.getD iv1 dF).H,(a1.B.getD iv1 dF).A,(a1.B.getD iv1 dF).D,(a1.B.getD iv1 dF).C,(a1.B.getD iv1 dF).E⟩:TPo).D),(eQ (⟨(a1.B.getD iv1 dF).F,(a1.B.getD iv1 dF).G,(a1.B.getD iv1 dF).H,(a1.B.getD iv1 dF).A,(a1.B.getD iv1 dF).D,(a1.B.getD iv1 dF).C,(a1.B.getD iv1 dF).E⟩:TPo).C),(eQ (⟨(a1.B.getD iv1 dF).F,(a1.B.getD iv1 dF).G,(a1.B.getD iv1 dF).H,(a1.B.getD iv1 dF).A,(a1.B.getD iv1 dF).D,(a1.B.getD iv1 dF).C,(a1.B.getD iv1 dF).E⟩:TPo).E),(Ob.seq 7 1 (listF AV.bot [(AV.agg [(AV.d (DV.str (a1.B.getD iv1 dF).F)),(vi (a1.B.getD iv1 dF).G),(vi (a1.B.getD iv1 dF).H),(rr 10 (a1.B.getD iv1 dF).A),(rr 11 (a1.B.getD iv1 dF).D),(rr 12 (a1.B.getD iv1 dF).C),(rr 13 (a1.B.getD iv1 dF).E)])]))] [(TTape.b p0),(TTr.b a1),(TTr.b (⟨0,[]⟩:TTr)),(Ob.box (AV.agg [(vi sv2.1),(AV.ref 4 ((sv2.2++[(⟨(a1.B.getD iv1 dF).F,(a1.B.getD iv1 dF).G,(a1.B.getD iv1 dF).H,(a1.B.getD iv1 dF).A,(a1.B.getD iv1 dF).D,(a1.B.getD iv1 dF).C,(a1.B.getD iv1 dF).E⟩:TPo)]).length) 0 ((sv2.2++[(⟨(a1.B.getD iv1 dF).F,(a1.B.getD iv1 dF).G,(a1.B.getD iv1 dF).H,(a1.B.getD iv1 dF).A,(a1.B.getD iv1 dF).D,(a1.B.getD iv1 dF).C,(a1.B.getD iv1 dF).E⟩:TPo)]).length))])),(oTApiPot.R 5 i0 (sv2.2++[(⟨(a1.B.getD iv1 dF).F,(a1.B.getD iv1 dF).G,(a1.B.getD iv1 dF).H,(a1.B.getD iv1 dF).A,(a1.B.getD iv1 dF).D,(a1.B.getD iv1 dF).C,(a1.B.getD iv1 dF).E⟩:TPo)])),(eQ (opQ TPo.A i0 (sv2.2++[(⟨(a1.B.getD iv1 dF).F,(a1.B.getD iv1 dF).G,(a1.B.getD iv1 dF).H,(a1.B.getD iv1 dF).A,(a1.B.getD iv1 dF).D,(a1.B.getD iv1 dF).C,(a1.B.getD iv1 dF).E⟩:TPo)]))),(eQ (opQ TPo.D i0 (sv2.2++[(⟨(a1.B.getD iv1 dF).F,(a1.B.getD iv1 dF).G,(a1.B.getD iv1 dF).H,(a1.B.getD iv1 dF).A,(a1.B.getD iv1 dF).D,(a1.B.getD iv1 dF).C,(a1.B.getD iv1 dF).E⟩:TPo)]))),(eQ (opQ TPo.C i0 (sv2.2++[(⟨(a1.B.getD iv1 dF).F,(a1.B.getD iv1 dF).G,(a1.B.getD iv1 dF).H,(a1.B.getD iv1 dF).A,(a1.B.getD iv1 dF).D,(a1.B.getD iv1 dF).C,(a1.B.getD iv1 dF).E⟩:TPo)]))),(eQ (opQ TPo.E i0 (sv2.2++[(⟨(a1.B.getD iv1 dF).F,(a1.B.getD iv1 dF).G,(a1.B.getD iv1 dF).H,(a1.B.getD iv1 dF).A,(a1.B.getD iv1 dF).D,(a1.B.getD iv1 dF).C,(a1.B.getD iv1 dF).E⟩:TPo)]))),(Ob.box (AV.agg [(AV.d (DV.str (a1.B.getD iv1 dF).F)),(vi (a1.B.getD iv1 dF).G),(vi (a1.B.getD iv1 dF).H),(rr 10 (a1.B.getD iv1 dF).A),(rr 11 (a1.B.getD iv1 dF).D),(rr 12 (a1.B.getD iv1 dF).C),(rr 13 (a1.B.getD iv1 dF).E)])),Ob.dead,Ob.dead,Ob.dead,Ob.dead,(Ob.seq 7 1 (listF AV.bot [(AV.agg [(AV.d (DV.str (a1.B.getD iv1 dF).F)),(vi (a1.B.getD iv1 dF).G),(vi (a1.B.getD iv1 dF).H),(rr 10 (a1.B.getD iv1 dF).A),(rr 11 (a1.B.getD iv1 dF).D),(rr 12 (a1.B.getD iv1 dF).C),(rr 13 (a1.B.getD iv1 dF).E)])]))] (fun h=>z55 oTApiPot (P:=[(TTape.b p0),(TTr.b a1),(TTr.b (⟨0,[]⟩:TTr)),(Ob.box (AV.agg [(vi sv2.1),(AV.ref 4 ((sv2.2++[(⟨(a1.B.getD iv1 dF).F,(a1.B.getD iv1 dF).G,(a1.B.getD iv1 dF).H,(a1.B.getD iv1 dF).A,(a1.B.getD iv1 dF).D,(a1.B.getD iv1 dF).C,(a1.B.getD iv1 dF).E⟩:TPo)]).length) 0 ((sv2.2++[(⟨(a1.B.getD iv1 dF).F,(a1.B.getD iv1 dF).G,(a1.B.getD iv1 dF).H,(a1.B.getD iv1 dF).A,(a1.B.getD iv1 dF).D,(a1.B.getD iv1 dF).C,(a1.B.getD iv1 dF).E⟩:TPo)]).length))]))]) (D:=[(Ob.box (AV.agg [(AV.d (DV.str (a1.B.getD iv1 dF).F)),(vi (a1.B.getD iv1 dF).G),(vi (a1.B.getD iv1 dF).H),(rr 10 (a1.B.getD iv1 dF).A),(rr 11 (a1.B.getD iv1 dF).D),(rr 12 (a1.B.getD iv1 dF).C),(rr 13 (a1.B.getD iv1 dF).E)]))]) (E:=[(Ob.seq 7 1 (listF AV.bot [(AV.agg [(AV.d (DV.str (a1.B.getD iv1 dF).F)),(vi (a1.B.getD iv1 dF).G),(vi (a1.B.getD iv1 dF).H),(rr 10 (a1.B.getD iv1 dF).A),(rr 11 (a1.B.getD iv1 dF).D),(rr 12 (a1.B.getD iv1 dF).C),(rr 13 (a1.B.getD iv1 dF).E)])]))]) (i:=i0) (l:=sv2.2) (x:=(⟨(a1.B.getD iv1 dF).F,(a1.B.getD iv1 dF).G,(a1.B.getD iv1 dF).H,(a1.B.getD iv1 dF).A,(a1.B.getD iv1 dF).D,(a1.B.getD iv1 dF).C,(a1.B.getD iv1 dF).E⟩:TPo)) rfl rfl (fun j hj=>z17 hj) (by rw[z1b (ye _),y3o]; rfl) h.1 h.2) (zm _)<|
.c (sv2.1,sv2.2++[e0_])
def S_q5 (i0:Nat) (a1:TTr) (p0:TTape):SC R_q5 R_q5 :=
 let e18_:=(TTr.b (⟨0,[]⟩:TTr))
.reg 0 [] [(1,{ obs:=[(2,e18_)] })] [.pf cz3]<|
.reg 1 [] [(2,{ h:=.obj }),(3,{ h:=.obj })] []<|
 let e15_:=(TTr.b a1)
 let e32_:=(AV.agg [(vi a1.I),(AV.ref 4 0 0 0)])
 let e48_:=(TTape.b p0)
 let e62_:=[e48_,e15_,e18_,(Ob.box e32_),(eS 7 TPo.e ([]:List TPo))]
 let e76_:=[(0,(vp 0)),(3,(vp 1)),(4,(vp 2)),(5,(vp 3))]
.sh (A:=True) (.pf trivial) e76_ e76_ [e48_,e15_,e18_,(Ob.box (AV.agg [(vi a1.I),(AV.full 0 fun _=>DV.b false)]))] e62_ (fun _=>(z26 (sz:=7) (f:=fun j=>AV.d (TPo.e (([]:List TPo).getD j dF))) (.keep _ _ _ _ (y13 rfl) (.keep _ _ _ _ (y13 rfl) (.keep _ _ _ _ (y13 rfl) (.box _ _ _ _ _ (y13 rfl) (TrV.agg (TrL.cons (TrV.keep _) (TrL.cons TrV.born TrL.nil))) (.nil _))))))) (z1f (k:=0) rfl (TrS.keep _) (z1f (k:=1) rfl (TrS.keep _) (z1f (k:=2) rfl (TrS.keep _) (z1f (k:=3) rfl (TrS.keep _) z2r))))<|
.reg 2 [] [] []<|
 let e19_:=[(0,(vp 0)),(4,(vp 2)),(5,(vp 3)),(14,(AV.d (eL TPo.e a1.B))),(15,(vi (a1.B.length:Int))),(16,(vi 0))]
 let e70_:=[e48_,e15_,e18_,(Ob.box e32_),(oTApiPot.R 5 i0 [])]
.sh (A:=True) (.pf trivial) e19_ e19_ e62_ e70_ (fun _=>zb3 (P:=[e48_,e15_,e18_,(Ob.box e32_)]) (D:=[]) (b:=(oTApiPot.R 5 i0 [])) zd7) (zm _)<|
.sh (A:=True) (.pf trivial) e19_ e19_ e70_ [e48_,e15_,e18_,(Ob.box e32_),(oTApiPot.R 5 i0 []),(eQ (opQ TPo.A i0 ([]:List TPo))),(eQ (opQ TPo.D i0 ([]:List TPo))),(eQ (opQ TPo.C i0 ([]:List TPo))),(eQ (opQ TPo.E i0 ([]:List TPo)))] (fun _=>z5w) (zm _)<|
.range (a1.B.length:Int) a1.B.length rfl (.slot 14) 16 [0,4,5,14,15] (fun (_:Int×(List TPo))=>[]) (fun sv2=>[(3,(Ob.box (AV.agg [(vi sv2.1),(AV.ref 4 (sv2.2.length) 0 (sv2.2.length))]))),(4,(oTApiPot.R 5 i0 sv2.2)),(5,(eQ (opQ TPo.A i0 sv2.2))),(6,(eQ (opQ TPo.D i0 sv2.2))),(7,(eQ (opQ TPo.C i0 sv2.2))),(8,(eQ (opQ TPo.E i0 sv2.2)))]) (a1.I,([]:List TPo)) (S_q5_b1 i0 a1 p0) (fun sv1 =>
 let e46_:=((sv1.2.length:Int)==0)
.calld [e46_=false] (dF,p0) (@F_q0_ok 6 p0) fun rv2 cv2 =>
 let e0_:=(sv1.2.getD i0 dF)
 let e1_:=(AV.agg [(vi sv1.1),(AV.ref 4 sv1.2.length 0 sv1.2.length)])
 let e23_:=(AV.ref 7 ((e0_.C).length) 0 ((e0_.C).length))
 let e52_:=((e0_.A).length)
 let e26_:=(AV.ref 5 e52_ 0 e52_)
 let e77_:=((e0_.D).length)
 let e27_:=(AV.ref 6 e77_ 0 e77_)
 let e78_:=((e0_.E).length)
 let e28_:=(AV.ref 8 e78_ 0 e78_)
 let e31_:=(AV.d (DV.str (e0_.F)))
 let e2_:=(AV.agg [e31_,(vi (e0_.G)),(vi (e0_.H)),e26_,e27_,e23_,e28_])
 let e36_:=(eS 1 (DV.i .i64) (opQ TPo.A i0 sv1.2))
 let e37_:=(eS 1 (DV.i .i64) (opQ TPo.D i0 sv1.2))
 let e38_:=(eS 1 (DV.i .i64) (opQ TPo.C i0 sv1.2))
 let e39_:=(eS 1 (DV.i .i64) (opQ TPo.E i0 sv1.2))
 let e72_:=(TTape.b rv2.2)
 let e11_:=[e72_,e15_,e18_,(Ob.box e1_),(opS 7 TPo.e i0 e2_ sv1.2),e36_,e37_,e38_,e39_]
.reg 11 [] [(6,hc cv2 [0] false)] [.clg 0 [e46_=false] cv2 [0] 9 false,.der (fun (h:¬ AllP [e46_=false]->(dF,p0)=rv2) (hn:¬ AllP [e46_=false])=>(by obtain rfl:=h hn; rfl:[e48_,e15_,e18_,(Ob.box e1_),(opS 7 TPo.e i0 e2_ sv1.2),e36_,e37_,e38_,e39_]=e11_)) 1]<|
 let e79_:=(cO e46_ (rv2.1==5))
 let e21_:=[(0,(vp 0)),(4,(vp 2)),(5,(vp 3)),(55,(vb e79_))]
.ite e79_ (
.guard [sv1.2.length<=i0]<|
.sh (A:=sv1.2.length<=i0) (.ev 0) e21_ e21_ e11_ [e72_,e15_,e18_,(Ob.box e1_),(eS 7 TPo.e sv1.2),e36_,e37_,e38_,e39_] (fun h=>zb3 (P:=[e72_,e15_,e18_,(Ob.box e1_)]) (D:=[e36_,e37_,e38_,e39_]) (zh2 h)) (zm _)<|
.kill 5<|
.kill 6<|
.kill 7<|
.kill 8<|
.call (@F_q4_ok ([0,1,6,7]:List Int) rv2.2) fun rv3 cv3=>
.reg 12 [] [(1,hv (vl ([0,1,6,7]:List Int))),(2,hc cv3 [0] false)] [.pf (zp (DV.i .i64) ([0,1,6,7]:List Int)),.cl 0 cv3 [0] 9 false]<|
.guard [sv1.2.length<2 ^ 63]<|
.reg 13 [] [] []<|
.frz 4 (.ev 0) none [] [2,3]<|
.r ((⟨rv3.1,sv1.2⟩:TTr),rv3.2)) (
.guard [i0<sv1.2.length]<|
 let e24_:=(eS 1 (DV.i .i64) (e0_.C))
 let e25_:=(eS 1 (DV.i .i64) (e0_.E))
 let e29_:=(eS 1 (DV.i .i64) (e0_.A))
 let e30_:=(eS 1 (DV.i .i64) (e0_.D))
.cst (A:=i0<sv1.2.length) (.ev 0) e21_ e21_ e11_ [e72_,e15_,e18_,(Ob.box e1_),(opS 7 TPo.e i0 e2_ sv1.2),e29_,e30_,e24_,e25_] (fun h=>⟨rfl,by simp +zetaDelta only[zch h]⟩)<|
.call (@F_q0_ok (sv1.2.length:Int) rv2.2) fun rv4 cv4=>
.guard [(0:Int)<=rv4.1,(rv4.1).toNat<sv1.2.length]<|
.reg 14 [6] [(6,hc cv4 [0] false)] [.cl 2 cv4 [0] 9 false,.e sv1.2.length,.ev 0,.ev 1]<|
.guard [(rv4.1).toNat=i0]<|
 let e80_:=(AV.ptr 4 sv1.2.length [.x i0 7])
.lev 8 e80_ (.der (fun (h:(rv4.1).toNat=i0)=>zie (o:=4) (st:=sv1.2.length) (sz:=7) (r:=[]) h) 0)<|
.call (@F_q0_ok ((e0_.A).length:Int) rv4.2) fun rv5 cv5=>
.reg 15 [] [(6,hc cv5 [0] false)] [.e sv1.2.length,.e sv1.2.length,.ev 5,.pf (p:=decide (i0=i0)=true) (yc rfl),.cl 0 cv5 [0] 9 false]<|
.call (@F_q0_ok 7 rv5.2) fun rv6 cv6=>
.k 16 1 cv6 [0] 9 false<|
.ite (rv6.1==0) (
.call (@F_q2c_ok rv6.2) fun rv7 cv7=>
 let e8_:=(AV.agg [(AV.d (DV.str rv7.1)),(vi (e0_.G)),(vi (e0_.H)),e26_,e27_,e23_,e28_])
.reg 19 [] [(2,hc cv7 [0] false),(5,{ obs:=[(4,(opS 7 TPo.e i0 e8_ sv1.2))] })] [.cl 0 cv7 [0] 9 false,.e sv1.2.length,.e sv1.2.length,.ev 8,.pf (p:=decide (i0=i0)=true) (yc rfl),.pf (p:=OLe (Ob.seq 7 sv1.2.length fun j=>if j=i0 then e8_ else AV.sel (decide (j=i0)) 7 e2_ (TPo.d (sv1.2.getD j dF))) (opS 7 TPo.e i0 e8_ sv1.2)) (z41 rfl)]<|
.reg 30 [] [] []<|
.guard [(e0_.A).length<2 ^ 63/\(e0_.D).length<2 ^ 63/\(e0_.C).length<2 ^ 63/\(e0_.E).length<2 ^ 63]<|
 let e65_:=(⟨rv7.1,e0_.G,e0_.H,e0_.A,e0_.D,e0_.C,e0_.E⟩:TPo)
 let e12_:=(sv1.2.set i0 e65_)
 let e73_:=(TTape.b rv7.2)
 let e41_:=[e73_,e15_,(Ob.box e1_),(Ob.box e1_),(eS 7 TPo.e e12_),Ob.dead,Ob.dead,Ob.dead,Ob.dead]
.sh (A:=(e0_.A).length<2 ^ 63/\(e0_.D).length<2 ^ 63/\(e0_.C).length<2 ^ 63/\(e0_.E).length<2 ^ 63) (.ev 0) [(4,(vp 2))] [(4,(vp 2))] [e73_,e15_,(Ob.box e1_),(Ob.box e1_),(opS 7 TPo.e i0 e8_ sv1.2),e29_,e30_,e24_,e25_] e41_ (fun h=>zw oTApiPot (P:=[e73_,e15_,(Ob.box e1_),(Ob.box e1_)]) (D:=[]) rfl (⟨rv7.1,e0_.G,e0_.H,[],[],[],[]⟩:TPo) e65_ h rfl) (zm _)<|
 let e55_:=(AV.agg [(vi sv1.1),(AV.ref 4 (e12_.length) 0 (e12_.length))])
.cst (A:=True) (.pf trivial) [(4,(vp 2))] [(4,(vp 2))] e41_ [e73_,e15_,(Ob.box e55_),(Ob.box e55_),(eS 7 TPo.e e12_),Ob.dead,Ob.dead,Ob.dead,Ob.dead] (fun _=>⟨by simp +zetaDelta only,by simp +zetaDelta only[yi]⟩)<|
.guard [e12_.length<2 ^ 63]<|
.frz 4 (.ev 0) none [] [2,3]<|
.r ((⟨sv1.1,e12_⟩:TTr),rv7.2)) (
.ite (rv6.1==1) (
.call (@F_q4_ok ([(-1),99,100]:List Int) rv6.2) fun rv8 cv8=>
 let e9_:=(AV.agg [e31_,(vi rv8.1),(vi (e0_.H)),e26_,e27_,e23_,e28_])
.reg 21 [] [(2,hv (vl ([(-1),99,100]:List Int))),(3,hc cv8 [0] false),(6,{ obs:=[(4,(opS 7 TPo.e i0 e9_ sv1.2))] })] [.pf (zp (DV.i .i64) ([(-1),99,100]:List Int)),.cl 0 cv8 [0] 9 false,.e sv1.2.length,.e sv1.2.length,.ev 9,.pf (p:=decide (i0=i0)=true) (yc rfl),.pf (p:=OLe (Ob.seq 7 sv1.2.length fun j=>if j=i0 then e9_ else AV.sel (decide (j=i0)) 7 e2_ (TPo.d (sv1.2.getD j dF))) (opS 7 TPo.e i0 e9_ sv1.2)) (z41 rfl)]<|
.reg 30 [] [] []<|
.guard [(e0_.A).length<2 ^ 63/\(e0_.D).length<2 ^ 63/\(e0_.C).length<2 ^ 63/\(e0_.E).length<2 ^ 63]<|
 let e66_:=(⟨e0_.F,rv8.1,e0_.H,e0_.A,e0_.D,e0_.C,e0_.E⟩:TPo)
 let e13_:=(sv1.2.set i0 e66_)
 let e74_:=(TTape.b rv8.2)
 let e42_:=[e74_,e15_,(Ob.box e1_),(Ob.box e1_),(eS 7 TPo.e e13_),Ob.dead,Ob.dead,Ob.dead,Ob.dead]
.sh (A:=(e0_.A).length<2 ^ 63/\(e0_.D).length<2 ^ 63/\(e0_.C).length<2 ^ 63/\(e0_.E).length<2 ^ 63) (.ev 0) [(4,(vp 2))] [(4,(vp 2))] [e74_,e15_,(Ob.box e1_),(Ob.box e1_),(opS 7 TPo.e i0 e9_ sv1.2),e29_,e30_,e24_,e25_] e42_ (fun h=>zw oTApiPot (P:=[e74_,e15_,(Ob.box e1_),(Ob.box e1_)]) (D:=[]) rfl (⟨e0_.F,rv8.1,e0_.H,[],[],[],[]⟩:TPo) e66_ h rfl) (zm _)<|
 let e56_:=(AV.agg [(vi sv1.1),(AV.ref 4 (e13_.length) 0 (e13_.length))])
.cst (A:=True) (.pf trivial) [(4,(vp 2))] [(4,(vp 2))] e42_ [e74_,e15_,(Ob.box e56_),(Ob.box e56_),(eS 7 TPo.e e13_),Ob.dead,Ob.dead,Ob.dead,Ob.dead] (fun _=>⟨by simp +zetaDelta only,by simp +zetaDelta only[yi]⟩)<|
.guard [e13_.length<2 ^ 63]<|
.frz 4 (.ev 0) none [] [2,3]<|
.r ((⟨sv1.1,e13_⟩:TTr),rv8.2)) (
.ite (rv6.1==2) (
.call (@F_q4_ok ([(-1000000000000001),1000000000000000,1000000000000001]:List Int) rv6.2) fun rv9 cv9=>
 let e10_:=(AV.agg [e31_,(vi (e0_.G)),(vi rv9.1),e26_,e27_,e23_,e28_])
.reg 23 [] [(2,hv (vl ([(-1000000000000001),1000000000000000,1000000000000001]:List Int))),(3,hc cv9 [0] false),(6,{ obs:=[(4,(opS 7 TPo.e i0 e10_ sv1.2))] })] [.pf (zp (DV.i .i64) ([(-1000000000000001),1000000000000000,1000000000000001]:List Int)),.cl 0 cv9 [0] 9 false,.e sv1.2.length,.e sv1.2.length,.ev 10,.pf (p:=decide (i0=i0)=true) (yc rfl),.pf (p:=OLe (Ob.seq 7 sv1.2.length fun j=>if j=i0 then e10_ else AV.sel (decide (j=i0)) 7 e2_ (TPo.d (sv1.2.getD j dF))) (opS 7 TPo.e i0 e10_ sv1.2)) (z41 rfl)]<|
.reg 30 [] [] []<|
.guard [(e0_.A).length<2 ^ 63/\(e0_.D).length<2 ^ 63/\(e0_.C).length<2 ^ 63/\(e0_.E).length<2 ^ 63]<|
 let e67_:=(⟨e0_.F,e0_.G,rv9.1,e0_.A,e0_.D,e0_.C,e0_.E⟩:TPo)
 let e14_:=(sv1.2.set i0 e67_)
 let e75_:=(TTape.b rv9.2)
 let e43_:=[e75_,e15_,(Ob.box e1_),(Ob.box e1_),(eS 7 TPo.e e14_),Ob.dead,Ob.dead,Ob.dead,Ob.dead]
.sh (A:=(e0_.A).length<2 ^ 63/\(e0_.D).length<2 ^ 63/\(e0_.C).length<2 ^ 63/\(e0_.E).length<2 ^ 63) (.ev 0) [(4,(vp 2))] [(4,(vp 2))] [e75_,e15_,(Ob.box e1_),(Ob.box e1_),(opS 7 TPo.e i0 e10_ sv1.2),e29_,e30_,e24_,e25_] e43_ (fun h=>zw oTApiPot (P:=[e75_,e15_,(Ob.box e1_),(Ob.box e1_)]) (D:=[]) rfl (⟨e0_.F,e0_.G,rv9.1,[],[],[],[]⟩:TPo) e67_ h rfl) (zm _)<|
 let e57_:=(AV.agg [(vi sv1.1),(AV.ref 4 (e14_.length) 0 (e14_.length))])
.cst (A:=True) (.pf trivial) [(4,(vp 2))] [(4,(vp 2))] e43_ [e75_,e15_,(Ob.box e57_),(Ob.box e57_),(eS 7 TPo.e e14_),Ob.dead,Ob.dead,Ob.dead,Ob.dead] (fun _=>⟨by simp +zetaDelta only,by simp +zetaDelta only[yi]⟩)<|
.guard [e14_.length<2 ^ 63]<|
.frz 4 (.ev 0) none [] [2,3]<|
.r ((⟨sv1.1,e14_⟩:TTr),rv9.2)) (
 let e35_:=(⟨e0_.F,e0_.G,e0_.H,[],[],[],[]⟩:TPo)
 let e45_:=(0+(rv5.1).toNat)
.ite (rv6.1==3) (
.call (@F_q4_ok ([(-1),0,1000000000000000,1000000000000001]:List Int) rv6.2) fun rv10 cv10=>
.guard [(0:Int)<=rv5.1,(rv5.1).toNat<(e0_.A).length,e45_<(e0_.A).length]<|
 let e17_:=((e0_.A).set e45_ rv10.1)
 let e61_:=(eS 1 (DV.i .i64) e17_)
.reg 25 [7,9] [(6,hv (vl ([(-1),0,1000000000000000,1000000000000001]:List Int))),(7,hc cv10 [0] false),(9,{ obs:=[(5,e61_)] })] [.e sv1.2.length,.e sv1.2.length,.e sv1.2.length,.ev 14,.pf (p:=decide (i0=i0)=true) (yc rfl),.e sv1.2.length,.ev 14,.pf (p:=decide (i0=i0)=true) (yc rfl),.pf (zp (DV.i .i64) ([(-1),0,1000000000000000,1000000000000001]:List Int)),.cl 3 cv10 [0] 9 false,.e e52_,.ev 0,.ev 1,.e e52_,.ev 2,.pf (z15 (sz:=1) (e:=(DV.i .i64)) (l:=(e0_.A)) (i:=e45_) (x:=rv10.1) (fun _=>rfl))]<|
.reg 30 [] [] []<|
.guard [e17_.length=(e0_.A).length]<|
 let e50_:=(TTape.b rv10.2)
.cst (A:=e17_.length=(e0_.A).length) (.ev 0) [(4,(vp 2))] [(4,(vp 2))] [e50_,e15_,(Ob.box (AV.agg [(vi sv1.1),(AV.ref 4 sv1.2.length 0 sv1.2.length)])),(Ob.box (AV.agg [(vi sv1.1),(AV.ref 4 sv1.2.length 0 sv1.2.length)])),(opS 7 TPo.e i0 (AV.agg [e31_,(vi (e0_.G)),(vi (e0_.H)),(AV.ref 5 ((e0_.A).length) 0 ((e0_.A).length)),(AV.ref 6 ((e0_.D).length) 0 ((e0_.D).length)),(AV.ref 7 ((e0_.C).length) 0 ((e0_.C).length)),(AV.ref 8 ((e0_.E).length) 0 ((e0_.E).length))]) sv1.2),e61_,e30_,e24_,e25_] [e50_,e15_,(Ob.box (AV.agg [(vi sv1.1),(AV.ref 4 sv1.2.length 0 sv1.2.length)])),(Ob.box (AV.agg [(vi sv1.1),(AV.ref 4 sv1.2.length 0 sv1.2.length)])),(opS 7 TPo.e i0 (AV.agg [e31_,(vi (e0_.G)),(vi (e0_.H)),(AV.ref 5 (e17_.length) 0 (e17_.length)),(AV.ref 6 ((e0_.D).length) 0 ((e0_.D).length)),(AV.ref 7 ((e0_.C).length) 0 ((e0_.C).length)),(AV.ref 8 ((e0_.E).length) 0 ((e0_.E).length))]) sv1.2),e61_,e30_,e24_,e25_] (fun h=>⟨rfl,by rw[h]⟩)<|
.guard [e17_.length<2 ^ 63/\(e0_.D).length<2 ^ 63/\(e0_.C).length<2 ^ 63/\(e0_.E).length<2 ^ 63]<|
 let e69_:=(⟨e0_.F,e0_.G,e0_.H,e17_,e0_.D,e0_.C,e0_.E⟩:TPo)
 let e7_:=(sv1.2.set i0 e69_)
 let e44_:=[e50_,e15_,(Ob.box e1_),(Ob.box e1_),(eS 7 TPo.e e7_),Ob.dead,Ob.dead,Ob.dead,Ob.dead]
.sh (A:=e17_.length<2 ^ 63/\(e0_.D).length<2 ^ 63/\(e0_.C).length<2 ^ 63/\(e0_.E).length<2 ^ 63) (.ev 0) [(4,(vp 2))] [(4,(vp 2))] [e50_,e15_,(Ob.box e1_),(Ob.box e1_),(opS 7 TPo.e i0 (AV.agg [e31_,(vi (e0_.G)),(vi (e0_.H)),(AV.ref 5 (e17_.length) 0 (e17_.length)),e27_,e23_,e28_]) sv1.2),e61_,e30_,e24_,e25_] e44_ (fun h=>zw oTApiPot (P:=[e50_,e15_,(Ob.box e1_),(Ob.box e1_)]) (D:=[]) rfl e35_ e69_ h rfl) (zm _)<|
 let e59_:=(AV.agg [(vi sv1.1),(AV.ref 4 (e7_.length) 0 (e7_.length))])
.cst (A:=True) (.pf trivial) [(4,(vp 2))] [(4,(vp 2))] e44_ [e50_,e15_,(Ob.box e59_),(Ob.box e59_),(eS 7 TPo.e e7_),Ob.dead,Ob.dead,Ob.dead,Ob.dead] (fun _=>⟨by simp +zetaDelta only,by simp +zetaDelta only[yi]⟩)<|
.guard [e7_.length<2 ^ 63]<|
.frz 4 (.ev 0) none [] [2,3]<|
.r ((⟨sv1.1,e7_⟩:TTr),rv10.2)) (
.ite (rv6.1==4) (
.call (@F_q0_ok 2 rv6.2) fun rv11 cv11=>
.guard [(0:Int)<=rv5.1,(rv5.1).toNat<(e0_.A).length,e45_<(e0_.A).length,(rv5.1).toNat<(e0_.D).length,e45_<(e0_.D).length]<|
 let e64_:=(i64.wrap (((e0_.A).getD e45_ dF)+rv11.1))
 let e3_:=((e0_.D).set e45_ e64_)
 let e63_:=(eS 1 (DV.i .i64) e3_)
.reg 27 [13,16] [(13,hc cv11 [0] false),(16,{ obs:=[(6,e63_)] })] [.e sv1.2.length,.e sv1.2.length,.e sv1.2.length,.ev 17,.pf (p:=decide (i0=i0)=true) (yc rfl),.e sv1.2.length,.ev 17,.pf (p:=decide (i0=i0)=true) (yc rfl),.e sv1.2.length,.e sv1.2.length,.e sv1.2.length,.ev 17,.pf (p:=decide (i0=i0)=true) (yc rfl),.e sv1.2.length,.ev 17,.pf (p:=decide (i0=i0)=true) (yc rfl),.e e52_,.ev 0,.ev 1,.e e52_,.ev 0,.ev 1,.e e52_,.ev 2,.e e52_,.ev 2,.cl 5 cv11 [0] 9 false,.e e77_,.ev 0,.ev 3,.e e77_,.ev 4,.pf (z15 (sz:=1) (e:=(DV.i .i64)) (l:=(e0_.D)) (i:=e45_) (x:=e64_) (fun _=>rfl))]<|
.reg 30 [] [] []<|
.guard [e3_.length=(e0_.D).length]<|
 let e51_:=(TTape.b rv11.2)
.cst (A:=e3_.length=(e0_.D).length) (.ev 0) [(4,(vp 2))] [(4,(vp 2))] [e51_,e15_,(Ob.box (AV.agg [(vi sv1.1),(AV.ref 4 sv1.2.length 0 sv1.2.length)])),(Ob.box (AV.agg [(vi sv1.1),(AV.ref 4 sv1.2.length 0 sv1.2.length)])),(opS 7 TPo.e i0 (AV.agg [e31_,(vi (e0_.G)),(vi (e0_.H)),(AV.ref 5 ((e0_.A).length) 0 ((e0_.A).length)),(AV.ref 6 ((e0_.D).length) 0 ((e0_.D).length)),(AV.ref 7 ((e0_.C).length) 0 ((e0_.C).length)),(AV.ref 8 ((e0_.E).length) 0 ((e0_.E).length))]) sv1.2),e29_,e63_,e24_,e25_] [e51_,e15_,(Ob.box (AV.agg [(vi sv1.1),(AV.ref 4 sv1.2.length 0 sv1.2.length)])),(Ob.box (AV.agg [(vi sv1.1),(AV.ref 4 sv1.2.length 0 sv1.2.length)])),(opS 7 TPo.e i0 (AV.agg [e31_,(vi (e0_.G)),(vi (e0_.H)),(AV.ref 5 ((e0_.A).length) 0 ((e0_.A).length)),(AV.ref 6 (e3_.length) 0 (e3_.length)),(AV.ref 7 ((e0_.C).length) 0 ((e0_.C).length)),(AV.ref 8 ((e0_.E).length) 0 ((e0_.E).length))]) sv1.2),e29_,e63_,e24_,e25_] (fun h=>⟨rfl,by rw[h]⟩)<|
.guard [(e0_.A).length<2 ^ 63/\e3_.length<2 ^ 63/\(e0_.C).length<2 ^ 63/\(e0_.E).length<2 ^ 63]<|
 let e71_:=(⟨e0_.F,e0_.G,e0_.H,e0_.A,e3_,e0_.C,e0_.E⟩:TPo)
 let e16_:=(sv1.2.set i0 e71_)
 let e40_:=[e51_,e15_,(Ob.box e1_),(Ob.box e1_),(eS 7 TPo.e e16_),Ob.dead,Ob.dead,Ob.dead,Ob.dead]
.sh (A:=(e0_.A).length<2 ^ 63/\e3_.length<2 ^ 63/\(e0_.C).length<2 ^ 63/\(e0_.E).length<2 ^ 63) (.ev 0) [(4,(vp 2))] [(4,(vp 2))] [e51_,e15_,(Ob.box e1_),(Ob.box e1_),(opS 7 TPo.e i0 (AV.agg [e31_,(vi (e0_.G)),(vi (e0_.H)),e26_,(AV.ref 6 (e3_.length) 0 (e3_.length)),e23_,e28_]) sv1.2),e29_,e63_,e24_,e25_] e40_ (fun h=>zw oTApiPot (P:=[e51_,e15_,(Ob.box e1_),(Ob.box e1_)]) (D:=[]) rfl e35_ e71_ h rfl) (zm _)<|
 let e58_:=(AV.agg [(vi sv1.1),(AV.ref 4 (e16_.length) 0 (e16_.length))])
.cst (A:=True) (.pf trivial) [(4,(vp 2))] [(4,(vp 2))] e40_ [e51_,e15_,(Ob.box e58_),(Ob.box e58_),(eS 7 TPo.e e16_),Ob.dead,Ob.dead,Ob.dead,Ob.dead] (fun _=>⟨by simp +zetaDelta only,by simp +zetaDelta only[yi]⟩)<|
.guard [e16_.length<2 ^ 63]<|
.frz 4 (.ev 0) none [] [2,3]<|
.r ((⟨sv1.1,e16_⟩:TTr),rv11.2)) (
 let e34_:=(TTape.b rv6.2)
.ite (rv6.1==5) (
 let e22_:=(i64.wrap (((e0_.E).length:Int)-1))
.guard [(0:Int)<=e22_,(e22_).toNat<=(e0_.E).length]<|
 let e6_:=(AV.agg [e31_,(vi (e0_.G)),(vi (e0_.H)),e26_,e27_,e23_,(AV.ref 8 e78_ (0+0) ((e22_).toNat-0))])
.reg 29 [14] [(14,{ obs:=[(4,(opS 7 TPo.e i0 e6_ sv1.2))] })] [.e sv1.2.length,.e sv1.2.length,.ev 14,.pf (p:=decide (i0=i0)=true) (yc rfl),.e sv1.2.length,.e sv1.2.length,.ev 14,.pf (p:=decide (i0=i0)=true) (yc rfl),.ev 0,.ev 1,.e e78_,.e sv1.2.length,.e sv1.2.length,.ev 14,.pf (p:=decide (i0=i0)=true) (yc rfl),.pf (p:=OLe (Ob.seq 7 sv1.2.length fun j=>if j=i0 then e6_ else AV.sel (decide (j=i0)) 7 e2_ (TPo.d (sv1.2.getD j dF))) (opS 7 TPo.e i0 e6_ sv1.2)) (z41 rfl)]<|
.reg 30 [] [] []<|
.guard [(e0_.A).length<2 ^ 63/\(e0_.D).length<2 ^ 63/\(e0_.C).length<2 ^ 63/\(e0_.E).length<2 ^ 63]<|
 let e54_:=(⟨e0_.F,e0_.G,e0_.H,e0_.A,e0_.D,e0_.C,((e0_.E).take ((e22_).toNat))⟩:TPo)
 let e5_:=(sv1.2.set i0 e54_)
 let e47_:=((e0_.A).length<2 ^ 63/\(e0_.D).length<2 ^ 63/\(e0_.C).length<2 ^ 63/\(e0_.E).length<2 ^ 63)
 let e49_:=[e34_,e15_,(Ob.box e1_),(Ob.box e1_),(eS 7 TPo.e e5_),Ob.dead,Ob.dead,Ob.dead,Ob.dead]
.sh (A:=e47_/\(e22_).toNat<=(e0_.E).length) (.der2 (fun (h:(e0_.A).length<2 ^ 63/\(e0_.D).length<2 ^ 63/\(e0_.C).length<2 ^ 63/\(e0_.E).length<2 ^ 63) (h2:(e22_).toNat<=(e0_.E).length)=>(⟨h,h2⟩:e47_/\(e22_).toNat<=(e0_.E).length)) 0 2) [(4,(vp 2))] [(4,(vp 2))] [e34_,e15_,(Ob.box e1_),(Ob.box e1_),(opS 7 TPo.e i0 e6_ sv1.2),e29_,e30_,e24_,e25_] e49_ (fun h=>zci oTApiPot (P:=[e34_,e15_,(Ob.box e1_),(Ob.box e1_)]) (D:=[]) rfl e35_ e54_ h.1 h.2 rfl) (zm _)<|
 let e60_:=(AV.agg [(vi sv1.1),(AV.ref 4 (e5_.length) 0 (e5_.length))])
.cst (A:=True) (.pf trivial) [(4,(vp 2))] [(4,(vp 2))] e49_ [e34_,e15_,(Ob.box e60_),(Ob.box e60_),(eS 7 TPo.e e5_),Ob.dead,Ob.dead,Ob.dead,Ob.dead] (fun _=>⟨by simp +zetaDelta only,by simp +zetaDelta only[yi]⟩)<|
.guard [e5_.length<2 ^ 63]<|
.frz 4 (.ev 0) none [] [2,3]<|
.r ((⟨sv1.1,e5_⟩:TTr),rv6.2)) (
.guard [(e0_.A).length<2 ^ 63/\(e0_.D).length<2 ^ 63/\(e0_.C).length<2 ^ 63/\(e0_.E).length<2 ^ 63]<|
 let e68_:=(⟨e0_.F,e0_.G,e0_.H,e0_.A,e0_.D,e0_.C,e0_.E⟩:TPo)
 let e4_:=(sv1.2.set i0 e68_)
 let e33_:=[(4,(vp 2)),(5,(vp 3)),(8,e80_),(139,(vb (rv6.1==5)))]
 let e53_:=[e34_,e15_,e18_,(Ob.box e1_),(eS 7 TPo.e e4_),Ob.dead,Ob.dead,Ob.dead,Ob.dead]
.sh (A:=(e0_.A).length<2 ^ 63/\(e0_.D).length<2 ^ 63/\(e0_.C).length<2 ^ 63/\(e0_.E).length<2 ^ 63) (.ev 0) e33_ e33_ [e34_,e15_,e18_,(Ob.box e1_),(opS 7 TPo.e i0 e2_ sv1.2),e29_,e30_,e24_,e25_] e53_ (fun h=>zw oTApiPot (P:=[e34_,e15_,e18_,(Ob.box e1_)]) (D:=[]) rfl e35_ e68_ h rfl) (zm _)<|
.cst (A:=True) (.pf trivial) e33_ [(4,(vp 2)),(5,(vp 3)),(8,(AV.ptr 4 (e4_.length) [.x i0 7])),(139,(vb (rv6.1==5)))] e53_ [e34_,e15_,e18_,(Ob.box (AV.agg [(vi sv1.1),(AV.ref 4 (e4_.length) 0 (e4_.length))])),(eS 7 TPo.e e4_),Ob.dead,Ob.dead,Ob.dead,Ob.dead] (fun _=>⟨by simp +zetaDelta only[yi],by simp +zetaDelta only[yi]⟩)<|
.guard [0<e4_.length,(0+0)<e4_.length,(e4_.length+1) * (2 * 128)<=2 ^ 48]<|
 let e20_:=([(e4_.getD (0+0) dF)]:List TPo)
.reg 17 [7,9] [(6,hv (AV.d (eL TPo.e e20_))),(7,{ h:=.obj,cast:=some (AV.ref 4 ((e4_++e20_).length) 0 ((e4_++e20_).length)),obs:=[(4,(eS 7 TPo.e (e4_++e20_)))] })] [.e (e4_.length),.pf (p:=(0:Int)<=0) dk,.ev 0,.e (e4_.length),.ev 1,.pf (zp TPo.e e20_),.e (e4_.length),.e (e4_.length),.pf (p:=∀ k,k<1->(TPo.d (e20_.getD k dF)).wd=7) (fun _ _=>rfl),.ev 2,.pf (z2d (o:=4) (l:=e4_) (x:=e20_)),.pf (z3n (sz:=7) (e:=TPo.e) (l:=e4_) (x:=e20_))]<|
.guard [(e4_++e20_).length<2 ^ 63]<|
.reg 30 [] [] []<|
.frz 4 (.ev 0) none [] [2,3]<|
.r ((⟨sv1.1,(e4_++e20_)⟩:TTr),rv6.2))))))))) id
def F_q5 (i0:Nat) (a1:TTr) (p0:TTape):=(S_q5 i0 a1 p0).den
theorem F_q5_ok {i0:Nat} {a1:TTr} {p0:TTape}:FO (F_q5 i0 a1 p0) 11 [(vp 0),(TTr.d a1)] [(TTape.b p0)] V_q5 L_q5:=fO (s:=S_q5 i0 a1 p0) Tryz.func11
def ghostB (a1:TTr) (p0:TTape):Nat:=if a1.B.length=0 then 0 else match F_q0 6 p0 with
 | none=>0
 | some x=>if x.1=5 then a1.B.length else match F_q0 (a1.B.length:Int) x.2 with
  | none=>0
  | some y=>y.1.toNat
abbrev R_q2w:=R_q5
def F_q2w (a1:TTr) (p0:TTape):Option R_q2w:=F_q5 (ghostB a1 p0) a1 p0
theorem F_q2w_ok {a1:TTr} {p0:TTape} (r:R_q2w) (h:F_q2w a1 p0=some r):CallOk Tryz.prog 11 [(vp 0),(TTr.d a1)] [(TTape.b p0)] (V_q5 r) (L_q5 r):=F_q5_ok r h
end
end Go.Proofs.YtcfloplnjicomaaGreatDoor
/- What the functions compute,and that their calls return it. No condition. -/
namespace Go.Proofs.YtcfloplnjicomaaGreatDoor
open Go Go.TA
open Go.IntKind (i64)
noncomputable section
set_option maxRecDepth 100000
def S_q2d (a0:TPo):SC Int Int :=
.a 1 1 1 (@F_qh_ok a0) fun rv1=>
 let e0_:=(i64.wrap (rv1-a0.H))
.r (if e0_>0 then e0_ else 0)
def F_q2d (a0:TPo):=(S_q2d a0).den
theorem F_q2d_ok {a0:TPo}:FO (F_q2d a0) 19 [(TPo.d a0)] [] vi NL:=fO (s:=S_q2d a0) Tryz.func19
abbrev R_q1p:=TPo×Bool
def S_q1p (a0:TTr) (a1:Y8) (a2:Int):SC R_q1p R_q1p :=
 let e0_:=(⟨[],0,0,[],[],[],[]⟩:TPo)
.reg 0 [] [(1,{ obs:=[(1,(TPo.b e0_))] })] [.pf cz1]<|
.a 1 3 2 (@F_qu_ok a0 a1 a2) fun rv1=>
.ite (decide (rv1>=0)) (
.guard [(0:Int)<=rv1,(rv1).toNat<a0.B.length]<|
.reg 3 [] [] [.ev 0,.ev 1]<|
.r ((a0.B.getD ((rv1).toNat) dF),true)) (
.reg 4 [] [(0,hv (TPo.d e0_))] [.pf cz5]<|
.r (e0_,false))
def F_q1p (a0:TTr) (a1:Y8) (a2:Int):=(S_q1p a0 a1 a2).den
theorem F_q1p_ok {a0:TTr} {a1:Y8} {a2:Int}:FO (F_q1p a0 a1 a2) 22 [(TTr.d a0),(AV.d (DV.str a1)),(vi a2)] [] (fun x=>(AV.tup [(TPo.d x.1),(vb x.2)])) NL:=fO (s:=S_q1p a0 a1 a2) Tryz.func22
def S_ql_b1 (a0:(List Int)) (a1:(List Int)) (iv1:Nat) (_:Unit):SC Bool (Step (Unit) Bool) :=
.guard [iv1<a1.length]<|
.reg 6 [] [] [.w iv1,.ev 1,.w iv1,.ev 0]<|
.ite ((a0.getD iv1 dF) != (a1.getD iv1 dF)) (
.r (.ret false)) (
.r (.cont ()))
def S_ql (a0:(List Int)) (a1:(List Int)):SC Bool Bool :=
.ite ((a0.length:Int) != (a1.length:Int)) (
.r false) (
.range (a0.length:Int) a0.length rfl (.slot 0) 13 [0,1,12] (fun (_:Unit)=>[]) (fun _=>[]) () (S_ql_b1 a0 a1) (fun _ => 
.r true) id)
def F_ql (a0:(List Int)) (a1:(List Int)):=(S_ql a0 a1).den
theorem F_ql_ok {a0:(List Int)} {a1:(List Int)}:FO (F_ql a0 a1) 64 [(vl a0),(vl a1)] [] vb NL:=fO (s:=S_ql a0 a1) Tryz.func64
def S_q23 (a0:TPo) (a1:TPo):SC Bool Bool :=
 let e1_:=(bif (bif (a0.F==a1.F) then (a0.G==a1.G) else false) then (a0.H==a1.H) else false)
.calld [e1_=true] dF (@F_ql_ok a0.A a1.A) fun rv1 cv1 =>
 let e0_:=(bif e1_ then rv1 else false)
.calld [e0_=true] dF (@F_ql_ok a0.D a1.D) fun rv2 cv2 =>
 let e3_:=(bif e0_ then rv2 else false)
.calld [e3_=true] dF (@F_ql_ok a0.C a1.C) fun rv3 cv3 =>
 let e2_:=(bif e3_ then rv3 else false)
.calld [e2_=true] dF (@F_ql_ok a0.E a1.E) fun rv4 cv4 =>
.reg 1 [] [(24,hc cv1 [] true),(31,hc cv2 [] true),(38,hc cv3 [] true),(45,hc cv4 [] true)] [.clg 6 [e1_=true] cv1 [] 2 true,.clg 4 [e0_=true] cv2 [] 2 true,.clg 2 [e3_=true] cv3 [] 2 true,.clg 0 [e2_=true] cv4 [] 2 true]<|
.r (bif e2_ then rv4 else false)
def F_q23 (a0:TPo) (a1:TPo):=(S_q23 a0 a1).den
theorem F_q23_ok {a0:TPo} {a1:TPo}:FO (F_q23 a0 a1) 25 [(TPo.d a0),(TPo.d a1)] [] vb NL:=fO (s:=S_q23 a0 a1) Tryz.func25
def S_qa_b1 (a0:TTr) (a1:TTr) (iv1:Nat) (_:Unit):SC Bool (Step (Unit) Bool) :=
.call (@F_q23_ok (a0.B.getD iv1 dF) (a1.B.getD iv1 dF)) fun rv2 cv2=>
.guard [iv1<a1.B.length]<|
.reg 6 [] [(10,hc cv2 [] true)] [.w iv1,.ev 2,.w iv1,.ev 0,.cl 1 cv2 [] 2 true]<|
.ite (!rv2) (
.r (.ret false)) (
.r (.cont ()))
def S_qa (a0:TTr) (a1:TTr):SC Bool Bool :=
.ite (cO (a0.I != a1.I) ((a0.B.length:Int) != (a1.B.length:Int))) (
.r false) (
.guard [a0.B.length<2 ^ 63]<|
.range (a0.B.length:Int) a0.B.length rfl (.why (.ev 0)) 23 [2,3,22] (fun (_:Unit)=>[]) (fun _=>[]) () (S_qa_b1 a0 a1) (fun _ => 
.r true) id)
def F_qa (a0:TTr) (a1:TTr):=(S_qa a0 a1).den
theorem F_qa_ok {a0:TTr} {a1:TTr}:FO (F_qa a0 a1) 26 [(TTr.d a0),(TTr.d a1)] [] vb NL:=fO (s:=S_qa a0 a1) Tryz.func26
abbrev R_q24:=Int×(List Int)
def S_q24 (p0_0:Nat) (p0_1:(List TPo)) (p0_2:Y8) (p0_3:Int) (p0_4:Int) (p1:Int) (p2:Int) (p3:(List Int)) (p4:(List Int)) (p5:(List Int)) (p6:(List Int)):SC R_q24 R_q24 :=
 let e3_:=(p3.length:Int)
.call (@F_q6_ok p1 1 e3_) fun rv1 cv1=>
.guard [p0_0<p0_1.length]<|
.reg 1 [] [(6,hc cv1 [] true)] [.e p0_1.length,.e p0_1.length,.ev 0,.pf (p:=decide (p0_0=p0_0)=true) (yc rfl),.cl 1 cv1 [] 7 true]<|
.ite (!rv1) (
.r (6,p3)) (
.a 3 1 7 (@F_q6_ok p2 1 1000000000000000) fun rv2=>
.ite (!rv2) (
.r (2,p3)) (
.guard [e3_ * 8<=2 ^ 47]<|
 let e1_:=((List.replicate (e3_.toNat) (0:Int)).length)
.reg 5 [] [(5,{ cast:=some (AV.ref 7 e1_ 0 e1_),obs:=[(7,(eS 1 (DV.i .i64) (List.replicate (e3_.toNat) (0:Int))))] })] [.e p0_1.length,.e p0_1.length,.ev 4,.pf (p:=decide (p0_0=p0_0)=true) (yc rfl),.pf (nn p3.length),.pf (p:=e3_<=e3_) (y1y _),.ev 0,.pf (z82 (o:=7) (k:=e3_.toNat) (z:=(0:Int))),.pf (z83 (sz:=1) (k:=e3_.toNat) (e:=(DV.i .i64)) (z:=(0:Int)))]<|
 let e4_:=(i64.wrap (p1-1))
 let e7_:=(0+(e4_).toNat)
.guard [(0:Int)<=e4_,(e4_).toNat<(List.replicate (e3_.toNat) (0:Int)).length,e7_<(List.replicate (e3_.toNat) (0:Int)).length]<|
 let e0_:=((List.replicate (e3_.toNat) (0:Int)).set e7_ p2)
 let e5_:=(eS 1 (DV.i .i64) e0_)
.reg 6 [] [(5,{ obs:=[(7,e5_)] })] [.e e1_,.ev 0,.ev 1,.e e1_,.ev 2,.pf (z15 (sz:=1) (e:=(DV.i .i64)) (l:=(List.replicate (e3_.toNat) (0:Int))) (i:=e7_) (x:=p2) (fun _=>rfl))]<|
 let e2_:=(AV.agg [(AV.d (DV.str p0_2)),(vi p0_3),(vi p0_4),(AV.ref 3 p3.length 0 p3.length),(AV.ref 4 p4.length 0 p4.length),(AV.ref 5 p5.length 0 p5.length),(AV.ref 6 p6.length 0 p6.length)])
 let e6_:=(0,(AV.ptr 0 p0_1.length [.x p0_0 7]))
.cst (A:=True) (.pf trivial) [e6_,(5,(AV.ref 7 e1_ 0 e1_))] [e6_,(5,(AV.ref 7 (e0_.length) 0 (e0_.length)))] [(opS 7 TPo.e p0_0 e2_ p0_1),(Ob.box (vi p1)),(Ob.box (vi p2)),(eS 1 (DV.i .i64) p3),(eS 1 (DV.i .i64) p4),(eS 1 (DV.i .i64) p5),(eS 1 (DV.i .i64) p6),e5_] [(opS 7 TPo.e p0_0 e2_ p0_1),(Ob.box (vi p1)),(Ob.box (vi p2)),(eS 1 (DV.i .i64) p3),(eS 1 (DV.i .i64) p4),(eS 1 (DV.i .i64) p5),(eS 1 (DV.i .i64) p6),e5_] (fun _=>⟨by simp +zetaDelta only[yi],by rfl⟩)<|
.guard [e0_.length<2 ^ 63]<|
.frz 7 (.ev 0) none [5] []<|
.call (@F_q9_ok e0_ p0_0 p0_1 p0_2 p0_3 p0_4 p3 p4 p5 p6) fun rv3 cv3=>
.k 7 2 cv3 [0,3,4,5,6] 8 false<|
.r (rv3.1,rv3.2)))
def F_q24 (p0_0:Nat) (p0_1:(List TPo)) (p0_2:Y8) (p0_3:Int) (p0_4:Int) (p1:Int) (p2:Int) (p3:(List Int)) (p4:(List Int)) (p5:(List Int)) (p6:(List Int)):=(S_q24 p0_0 p0_1 p0_2 p0_3 p0_4 p1 p2 p3 p4 p5 p6).den
theorem F_q24_ok {p0_0:Nat} {p0_1:(List TPo)} {p0_2:Y8} {p0_3:Int} {p0_4:Int} {p1:Int} {p2:Int} {p3:(List Int)} {p4:(List Int)} {p5:(List Int)} {p6:(List Int)}:FO (F_q24 p0_0 p0_1 p0_2 p0_3 p0_4 p1 p2 p3 p4 p5 p6) 66 [(AV.ptr 0 p0_1.length [.x p0_0 7]),(vp 1),(vp 2)] [(opS 7 TPo.e p0_0 (AV.agg [(AV.d (DV.str p0_2)),(vi p0_3),(vi p0_4),(AV.ref 3 p3.length 0 p3.length),(AV.ref 4 p4.length 0 p4.length),(AV.ref 5 p5.length 0 p5.length),(AV.ref 6 p6.length 0 p6.length)]) p0_1),(Ob.box (vi p1)),(Ob.box (vi p2)),(eS 1 (DV.i .i64) p3),(eS 1 (DV.i .i64) p4),(eS 1 (DV.i .i64) p5),(eS 1 (DV.i .i64) p6)] (fun x=>(vi x.1)) (fun x=>[(opS 7 TPo.e p0_0 (AV.agg [(AV.d (DV.str p0_2)),(vi p0_3),(vi p0_4),(AV.ref 3 p3.length 0 p3.length),(AV.ref 4 p4.length 0 p4.length),(AV.ref 5 p5.length 0 p5.length),(AV.ref 6 p6.length 0 p6.length)]) p0_1),(Ob.box (vi p1)),(Ob.box (vi p2)),(eS 1 (DV.i .i64) x.2),(eS 1 (DV.i .i64) p4),(eS 1 (DV.i .i64) p5),(eS 1 (DV.i .i64) p6)]):=fO (s:=S_q24 p0_0 p0_1 p0_2 p0_3 p0_4 p1 p2 p3 p4 p5 p6) Tryz.func66
def S_q2q (a0:TTr) (a1:Y8) (a2:Int) (p0:Int) (p1:Int):SC (TTr×Int) (TTr×Int) :=
.reg 0 [] [(1,{ obs:=[(3,(TTr.b (⟨0,[]⟩:TTr)))] })] [.pf cz3]<|
.a 1 1 4 (@F_q8_ok a0) fun rv1=>
 let e7_:=(TTr.d (⟨0,[]⟩:TTr))
.ite (!rv1) (
.reg 2 [] [(0,hv e7_)] [.pf cz4]<|
.r ((⟨0,[]⟩:TTr),1)) (
.a 3 3 4 (@F_q11_ok a0 a1 a2) fun rv2=>
.ite (decide (rv2<0)) (
.reg 5 [] [(0,hv e7_)] [.pf cz4]<|
.r ((⟨0,[]⟩:TTr),6)) (
 let e4_:=((rv2).toNat)
.call (@F_qn_ok a0 e4_) fun rv3 cv3=>
.k 6 1 cv3 [] 4 false<|
.kill 5<|
 let e0_:=(rv3.2.getD e4_ dF)
.call (@F_q24_ok e4_ rv3.2 (e0_.F) (e0_.G) (e0_.H) p0 p1 (e0_.A) (e0_.D) (e0_.C) (e0_.E)) fun rv4 cv4=>
.guard [(0:Int)<=rv2,(rv2).toNat<rv3.2.length]<|
 let e14_:=(AV.ptr 6 rv3.2.length [.x e4_ 7])
.reg 7 [] [(4,hv e14_),(5,hc cv4 [6,0,1,7,8,9,10] false)] [.e rv3.2.length,.ev 0,.ev 1,.pf (p:=LeV (AV.ptr 6 rv3.2.length [.x (0+e4_) 7]) e14_) (z2a),.cl 2 cv4 [6,0,1,7,8,9,10] 11 false]<|
.ite (rv4.1 != 0) (
.reg 9 [] [(0,hv e7_)] [.pf cz4]<|
.r ((⟨0,[]⟩:TTr),rv4.1)) (
.reg 10 [] [] []<|
.guard [rv4.2.length=(e0_.A).length]<|
 let e9_:=(eS 1 (DV.i .i64) (e0_.D))
 let e10_:=(eS 1 (DV.i .i64) (e0_.C))
 let e11_:=(eS 1 (DV.i .i64) (e0_.E))
 let e12_:=(eS 1 (DV.i .i64) rv4.2)
 let e13_:=(AV.d (DV.str (e0_.F)))
.cst (A:=rv4.2.length=(e0_.A).length) (.ev 0) [(8,(vp 3)),(9,(vi 0))] [(8,(vp 3)),(9,(vi 0))] [(Ob.box (vi p0)),(Ob.box (vi p1)),(Ob.box (AV.agg [(vi rv3.1),(AV.ref 6 rv3.2.length 0 rv3.2.length)])),(Ob.box (AV.agg [(vi rv3.1),(AV.ref 6 rv3.2.length 0 rv3.2.length)])),Ob.dead,Ob.dead,(opS 7 TPo.e e4_ (AV.agg [e13_,(vi (e0_.G)),(vi (e0_.H)),(AV.ref 7 ((e0_.A).length) 0 ((e0_.A).length)),(AV.ref 8 ((e0_.D).length) 0 ((e0_.D).length)),(AV.ref 9 ((e0_.C).length) 0 ((e0_.C).length)),(AV.ref 10 ((e0_.E).length) 0 ((e0_.E).length))]) rv3.2),e12_,e9_,e10_,e11_] [(Ob.box (vi p0)),(Ob.box (vi p1)),(Ob.box (AV.agg [(vi rv3.1),(AV.ref 6 rv3.2.length 0 rv3.2.length)])),(Ob.box (AV.agg [(vi rv3.1),(AV.ref 6 rv3.2.length 0 rv3.2.length)])),Ob.dead,Ob.dead,(opS 7 TPo.e e4_ (AV.agg [e13_,(vi (e0_.G)),(vi (e0_.H)),(AV.ref 7 rv4.2.length 0 rv4.2.length),(AV.ref 8 ((e0_.D).length) 0 ((e0_.D).length)),(AV.ref 9 ((e0_.C).length) 0 ((e0_.C).length)),(AV.ref 10 ((e0_.E).length) 0 ((e0_.E).length))]) rv3.2),e12_,e9_,e10_,e11_] (fun h=>⟨rfl,by rw[h]⟩)<|
.guard [rv4.2.length<2 ^ 63/\(e0_.D).length<2 ^ 63/\(e0_.C).length<2 ^ 63/\(e0_.E).length<2 ^ 63]<|
 let e8_:=(⟨e0_.F,e0_.G,e0_.H,rv4.2,e0_.D,e0_.C,e0_.E⟩:TPo)
 let e1_:=(rv3.2.set e4_ e8_)
 let e2_:=(AV.agg [(vi rv3.1),(AV.ref 6 rv3.2.length 0 rv3.2.length)])
 let e3_:=[(Ob.box (vi p0)),(Ob.box (vi p1)),(Ob.box e2_),(Ob.box e2_),Ob.dead,Ob.dead,(eS 7 TPo.e e1_),Ob.dead,Ob.dead,Ob.dead,Ob.dead]
 let e6_:=[(8,(vp 3)),(9,(vi 0))]
.sh (A:=rv4.2.length<2 ^ 63/\(e0_.D).length<2 ^ 63/\(e0_.C).length<2 ^ 63/\(e0_.E).length<2 ^ 63) (.ev 0) e6_ e6_ [(Ob.box (vi p0)),(Ob.box (vi p1)),(Ob.box e2_),(Ob.box e2_),Ob.dead,Ob.dead,(opS 7 TPo.e e4_ (AV.agg [e13_,(vi (e0_.G)),(vi (e0_.H)),(AV.ref 7 rv4.2.length 0 rv4.2.length),(AV.ref 8 ((e0_.D).length) 0 ((e0_.D).length)),(AV.ref 9 ((e0_.C).length) 0 ((e0_.C).length)),(AV.ref 10 ((e0_.E).length) 0 ((e0_.E).length))]) rv3.2),e12_,e9_,e10_,e11_] e3_ (fun h=>zw oTApiPot (P:=[(Ob.box (vi p0)),(Ob.box (vi p1)),(Ob.box e2_),(Ob.box e2_),Ob.dead,Ob.dead]) (D:=[]) rfl (⟨e0_.F,e0_.G,e0_.H,[],[],[],[]⟩:TPo) e8_ h rfl) (zm _)<|
 let e5_:=(AV.agg [(vi rv3.1),(AV.ref 6 (e1_.length) 0 (e1_.length))])
.cst (A:=True) (.pf trivial) e6_ e6_ e3_ [(Ob.box (vi p0)),(Ob.box (vi p1)),(Ob.box e5_),(Ob.box e5_),Ob.dead,Ob.dead,(eS 7 TPo.e e1_),Ob.dead,Ob.dead,Ob.dead,Ob.dead] (fun _=>⟨by simp +zetaDelta only,by simp +zetaDelta only[yi]⟩)<|
.guard [e1_.length<2 ^ 63]<|
.frz 6 (.ev 0) none [] [2,3]<|
.r ((⟨rv3.1,e1_⟩:TTr),0))))
def F_q2q (a0:TTr) (a1:Y8) (a2:Int) (p0:Int) (p1:Int):=(S_q2q a0 a1 a2 p0 p1).den
theorem F_q2q_ok {a0:TTr} {a1:Y8} {a2:Int} {p0:Int} {p1:Int}:FO (F_q2q a0 a1 a2 p0 p1) 65 [(TTr.d a0),(AV.d (DV.str a1)),(vi a2),(AV.fn 66 [(vp 0),(vp 1)])] [(Ob.box (vi p0)),(Ob.box (vi p1))] (fun x=>(AV.tup [(TTr.d x.1),(vi x.2)])) (fun _=>[(Ob.box (vi p0)),(Ob.box (vi p1))]):=fO (s:=S_q2q a0 a1 a2 p0 p1) Tryz.func65
def S_q2e (a0:TTr) (a1:Int) (a2:Y8) (a3:Int) (a4:Int):SC (TTr×Int) (TTr×Int) :=
.reg 0 [] [(3,{ obs:=[(3,(TTr.b (⟨0,[]⟩:TTr)))] })] [.pf cz3]<|
.call (@F_q2q_ok a0 a2 a3 a1 a4) fun rv1 cv1=>
.k 1 4 cv1 [1,2] 4 true<|
.r (rv1.1,rv1.2)
def F_q2e (a0:TTr) (a1:Int) (a2:Y8) (a3:Int) (a4:Int):=(S_q2e a0 a1 a2 a3 a4).den
theorem F_q2e_ok {a0:TTr} {a1:Int} {a2:Y8} {a3:Int} {a4:Int}:FO (F_q2e a0 a1 a2 a3 a4) 27 [(TTr.d a0),(vi a1),(AV.d (DV.str a2)),(vi a3),(vi a4)] [] (fun x=>(AV.tup [(TTr.d x.1),(vi x.2)])) NL:=fO (s:=S_q2e a0 a1 a2 a3 a4) Tryz.func27
def S_q1q (a0:TTr) (a1:Int) (a2:Y8) (a3:Int):SC (TMe×Int) (TMe×Int) :=
.a 1 4 2 (@F_qq_ok a0 a1 a2 a3) fun rv1=>
.ite (rv1.2 != 0) (
.r ((⟨0,0,[],0,0,0,0,0⟩:TMe),rv1.2)) (
 let e0_:=(a0.B.getD ((rv1.1).toNat) dF)
 let e1_:=(i64.wrap (a1-1))
.guard [(0:Int)<=rv1.1,(rv1.1).toNat<a0.B.length,(0:Int)<=e1_,(e1_).toNat<(e0_.A).length,(e1_).toNat<(e0_.C).length]<|
.reg 4 [24] [] [.ev 0,.ev 1,.ev 2,.ev 3,.ev 0,.ev 1,.ev 2,.ev 4]<|
.r ((⟨0,a1,a2,a3,((e0_.A).getD ((e1_).toNat) dF),((e0_.C).getD ((e1_).toNat) dF),0,0⟩:TMe),0))
def F_q1q (a0:TTr) (a1:Int) (a2:Y8) (a3:Int):=(S_q1q a0 a1 a2 a3).den
theorem F_q1q_ok {a0:TTr} {a1:Int} {a2:Y8} {a3:Int}:FO (F_q1q a0 a1 a2 a3) 32 [(TTr.d a0),(vi a1),(AV.d (DV.str a2)),(vi a3)] [] (fun x=>(AV.tup [(TMe.d x.1),(vi x.2)])) NL:=fO (s:=S_q1q a0 a1 a2 a3) Tryz.func32
def S_q25 (a0:Int) (a1:Int):SC Int Int :=
.ite (decide (a1<1)) (
.r 0) (
.guard [(a1:Int)≠0]<|
.reg 3 [] [] [.ev 0]<|
.ite (decide ((a0.tmod a1)<0)) (
.r (i64.wrap ((a0.tmod a1)+a1))) (
.r (a0.tmod a1)))
def F_q25 (a0:Int) (a1:Int):=(S_q25 a0 a1).den
theorem F_q25_ok {a0:Int} {a1:Int}:FO (F_q25 a0 a1) 33 [(vi a0),(vi a1)] [] vi NL:=fO (s:=S_q25 a0 a1) Tryz.func33
def S_q13_b1 (p0:(List Int)) (iv1:Nat) (_:Unit):SC Int (Step (Unit) Int) :=
.call (@F_q1s_ok (p0.getD (0+iv1) dF)) fun rv2 cv2=>
.guard [(0+iv1)<p0.length]<|
.reg 4 [] [(5,hc cv2 [] true)] [.e p0.length,.w iv1,.ev 2,.e p0.length,.ev 0,.cl 1 cv2 [] 1 true]<|
.ite rv2 (
.r (.ret (iv1:Int))) (
.r (.cont ()))
def S_q13 (p0:(List Int)):SC Int Int :=
.guard [p0.length<2 ^ 63]<|
.range (p0.length:Int) p0.length rfl (.why (.ev 0)) 8 [0,1,7] (fun (_:Unit)=>[]) (fun _=>[]) () (S_q13_b1 p0) (fun _ => 
.r (-1)) id
def F_q13 (p0:(List Int)):=(S_q13 p0).den
theorem F_q13_ok {p0:(List Int)}:FO (F_q13 p0) 89 [(AV.ref 0 p0.length 0 p0.length),(AV.fn 72 [])] [(eS 1 (DV.i .i64) p0)] vi (fun _=>[(eS 1 (DV.i .i64) p0)]):=fO (s:=S_q13 p0) Tryz.func89
def S_q2f (p0:(List Int)):SC Bool Bool :=
.call (@F_q13_ok p0) fun rv1 cv1=>
.k 1 2 cv1 [0] 1 true<|
.r (decide (rv1>=0))
def F_q2f (p0:(List Int)):=(S_q2f p0).den
theorem F_q2f_ok {p0:(List Int)}:FO (F_q2f p0) 71 [(AV.ref 0 p0.length 0 p0.length),(AV.fn 72 [])] [(eS 1 (DV.i .i64) p0)] vb (fun _=>[(eS 1 (DV.i .i64) p0)]):=fO (s:=S_q2f p0) Tryz.func71
abbrev R_qy:=Int×(List Int)
def S_qy_b1 (p0_0:Nat) (p0_1:(List TPo)) (p1:(List Int)) (p2:(List Int)) (iv1:Nat) (sv2:(List Int)):SC R_qy (Step ((List Int)) R_qy) :=
.guard [(0+iv1)<p1.length]<|
.reg 8 [] [] [.e p1.length,.w iv1,.ev 1,.e p1.length,.ev 0]<|
.guard [sv2.length=p2.length,iv1<p2.length,(0+iv1)<sv2.length]<|
 let e0_:=(i64.wrap ((sv2.getD (0+iv1) dF)+(p1.getD (0+iv1) dF)))
.reg 9 [] [(10,{ obs:=[(2,(eS 1 (DV.i .i64) (sv2.set (0+iv1) e0_)))] })] [.e p0_1.length,.e p0_1.length,.ev 10,.pf (p:=decide (p0_0=p0_0)=true) (yc rfl),.ev 0,.w iv1,.ev 1,.ev 0,.ev 2,.ev 0,.w iv1,.ev 1,.ev 0,.ev 2,.pf (z15 (sz:=1) (e:=(DV.i .i64)) (l:=sv2) (i:=(0+iv1)) (x:=e0_) (fun _=>rfl))]<|
.c (sv2.set (0+iv1) e0_)
def S_qy (p0_0:Nat) (p0_1:(List TPo)) (p0_2:Y8) (p0_3:Int) (p0_4:Int) (p1:(List Int)) (p2:(List Int)) (p3:(List Int)) (p4:(List Int)) (p5:(List Int)):SC R_qy R_qy :=
.call (lendOk (xs:=[(AV.ref 0 p1.length 0 p1.length)]) (L:=[(eS 1 (DV.i .i64) p1)]) (g:=p1.length<2 ^ 63) (@F_qb_ok p1) (fun _=>rfl) (fun hg=>(LendVs.cons (LendS.one rfl rfl rfl (LendV.ref (sz:=1) (g:=fun j=>(DV.i .i64) (p1.getD j dF)) rfl hg)) LendVs.nil)) (fun _=>FlatV.i)) fun rv3 cv3=>
.k 1 1 cv3 [1] 6 true<|
 let e0_:=(AV.ref 0 p2.length 0 p2.length)
.call (lendOk (xs:=[(AV.agg [(AV.d (DV.str p0_2)),(vi p0_3),(vi p0_4),e0_,(AV.ref 1 p3.length 0 p3.length),(AV.ref 2 p4.length 0 p4.length),(AV.ref 3 p5.length 0 p5.length)])]) (L:=[(eS 1 (DV.i .i64) p2),(eS 1 (DV.i .i64) p3),(eS 1 (DV.i .i64) p4),(eS 1 (DV.i .i64) p5)]) (g:=p2.length<2 ^ 63/\p3.length<2 ^ 63/\p4.length<2 ^ 63/\p5.length<2 ^ 63) (@F_q1m_ok (⟨p0_2,p0_3,p0_4,p2,p3,p4,p5⟩:TPo)) (fun _=>rfl) (fun hg=>(LendVs.cons (LendS.agg (ys:=[(DV.str p0_2),(DV.i .i64 p0_3),(DV.i .i64 p0_4),(eL (DV.i .i64) p2),(eL (DV.i .i64) p3),(eL (DV.i .i64) p4),(eL (DV.i .i64) p5)]) (LendL.cons LendV.d (LendL.cons LendV.d (LendL.cons LendV.d (LendL.cons (LendV.ref (sz:=1) (g:=fun j=>(DV.i .i64) (p2.getD j dF)) rfl hg.1) (LendL.cons (LendV.ref (sz:=1) (g:=fun j=>(DV.i .i64) (p3.getD j dF)) rfl hg.2.1) (LendL.cons (LendV.ref (sz:=1) (g:=fun j=>(DV.i .i64) (p4.getD j dF)) rfl hg.2.2.1) (LendL.cons (LendV.ref (sz:=1) (g:=fun j=>(DV.i .i64) (p5.getD j dF)) rfl hg.2.2.2) LendL.nil)))))))) LendVs.nil)) (fun _=>FlatV.i)) fun rv4 cv4=>
.guard [p0_0<p0_1.length]<|
.reg 2 [] [(4,hc cv4 [2,3,4,5] true)] [.e p0_1.length,.ev 0,.pf (p:=decide (p0_0=p0_0)=true) (yc rfl),.cl 1 cv4 [2,3,4,5] 6 true]<|
.ite (decide (rv3>rv4)) (
.r (15,p2)) (
.call (lendOk (xs:=[e0_]) (L:=[(eS 1 (DV.i .i64) p2)]) (g:=p2.length<2 ^ 63) (@F_qb_ok p2) (fun _=>rfl) (fun hg=>(LendVs.cons (LendS.one rfl rfl rfl (LendV.ref (sz:=1) (g:=fun j=>(DV.i .i64) (p2.getD j dF)) rfl hg)) LendVs.nil)) (fun _=>FlatV.i)) fun rv5 cv5=>
.reg 4 [] [(4,hc cv5 [2] true)] [.e p0_1.length,.e p0_1.length,.ev 2,.pf (p:=decide (p0_0=p0_0)=true) (yc rfl),.cl 0 cv5 [2] 6 true]<|
.ite (decide ((i64.wrap (rv5+rv3))>1000000000000000)) (
.r (3,p2)) (
.guard [p1.length<2 ^ 63]<|
.range (p1.length:Int) p1.length rfl (.why (.ev 0)) 28 [0,26,27] (fun (_:(List Int))=>[]) (fun sv2=>[(2,(eS 1 (DV.i .i64) sv2))]) p2 (S_qy_b1 p0_0 p0_1 p1 p2) (fun sv2 => 
.r (0,sv2)) id))
def F_qy (p0_0:Nat) (p0_1:(List TPo)) (p0_2:Y8) (p0_3:Int) (p0_4:Int) (p1:(List Int)) (p2:(List Int)) (p3:(List Int)) (p4:(List Int)) (p5:(List Int)):=(S_qy p0_0 p0_1 p0_2 p0_3 p0_4 p1 p2 p3 p4 p5).den
theorem F_qy_ok {p0_0:Nat} {p0_1:(List TPo)} {p0_2:Y8} {p0_3:Int} {p0_4:Int} {p1:(List Int)} {p2:(List Int)} {p3:(List Int)} {p4:(List Int)} {p5:(List Int)}:FO (F_qy p0_0 p0_1 p0_2 p0_3 p0_4 p1 p2 p3 p4 p5) 67 [(AV.ptr 0 p0_1.length [.x p0_0 7]),(AV.ref 1 p1.length 0 p1.length)] [(opS 7 TPo.e p0_0 (AV.agg [(AV.d (DV.str p0_2)),(vi p0_3),(vi p0_4),(AV.ref 2 p2.length 0 p2.length),(AV.ref 3 p3.length 0 p3.length),(AV.ref 4 p4.length 0 p4.length),(AV.ref 5 p5.length 0 p5.length)]) p0_1),(eS 1 (DV.i .i64) p1),(eS 1 (DV.i .i64) p2),(eS 1 (DV.i .i64) p3),(eS 1 (DV.i .i64) p4),(eS 1 (DV.i .i64) p5)] (fun x=>(vi x.1)) (fun x=>[(opS 7 TPo.e p0_0 (AV.agg [(AV.d (DV.str p0_2)),(vi p0_3),(vi p0_4),(AV.ref 2 p2.length 0 p2.length),(AV.ref 3 p3.length 0 p3.length),(AV.ref 4 p4.length 0 p4.length),(AV.ref 5 p5.length 0 p5.length)]) p0_1),(eS 1 (DV.i .i64) p1),(eS 1 (DV.i .i64) x.2),(eS 1 (DV.i .i64) p3),(eS 1 (DV.i .i64) p4),(eS 1 (DV.i .i64) p5)]):=fO (s:=S_qy p0_0 p0_1 p0_2 p0_3 p0_4 p1 p2 p3 p4 p5) Tryz.func67
abbrev R_q2g:=Int×(List Int)
def S_q2g (p0_0:Nat) (p0_1:(List TPo)) (p0_2:Y8) (p0_3:Int) (p0_4:Int) (p2:(List Int)) (p3:(List Int)) (p4:(List Int)) (p5:(List Int)) (p6:(List Int)):SC R_q2g R_q2g :=
.guard [p0_0<p0_1.length]<|
.reg 1 [] [] [.e p0_1.length,.e p0_1.length,.ev 0,.pf (p:=decide (p0_0=p0_0)=true) (yc rfl)]<|
.ite ((p6.length:Int) != (p2.length:Int)) (
.r (6,p2)) (
.call (@F_q2f_ok p6) fun rv1 cv1=>
.k 3 1 cv1 [6] 7 true<|
.ite rv1 (
.r (2,p2)) (
.call (@F_qy_ok p0_0 p0_1 p0_2 p0_3 p0_4 p6 p2 p3 p4 p5) fun rv2 cv2=>
.k 5 2 cv2 [0,6,2,3,4,5] 7 false<|
.r (rv2.1,rv2.2)))
def F_q2g (p0_0:Nat) (p0_1:(List TPo)) (p0_2:Y8) (p0_3:Int) (p0_4:Int) (p2:(List Int)) (p3:(List Int)) (p4:(List Int)) (p5:(List Int)) (p6:(List Int)):=(S_q2g p0_0 p0_1 p0_2 p0_3 p0_4 p2 p3 p4 p5 p6).den
theorem F_q2g_ok {p0_0:Nat} {p0_1:(List TPo)} {p0_2:Y8} {p0_3:Int} {p0_4:Int} {p2:(List Int)} {p3:(List Int)} {p4:(List Int)} {p5:(List Int)} {p6:(List Int)}:FO (F_q2g p0_0 p0_1 p0_2 p0_3 p0_4 p2 p3 p4 p5 p6) 70 [(AV.ptr 0 p0_1.length [.x p0_0 7]),(vp 1)] [(opS 7 TPo.e p0_0 (AV.agg [(AV.d (DV.str p0_2)),(vi p0_3),(vi p0_4),(AV.ref 2 p2.length 0 p2.length),(AV.ref 3 p3.length 0 p3.length),(AV.ref 4 p4.length 0 p4.length),(AV.ref 5 p5.length 0 p5.length)]) p0_1),(Ob.box (AV.ref 6 p6.length 0 p6.length)),(eS 1 (DV.i .i64) p2),(eS 1 (DV.i .i64) p3),(eS 1 (DV.i .i64) p4),(eS 1 (DV.i .i64) p5),(eS 1 (DV.i .i64) p6)] (fun x=>(vi x.1)) (fun x=>[(opS 7 TPo.e p0_0 (AV.agg [(AV.d (DV.str p0_2)),(vi p0_3),(vi p0_4),(AV.ref 2 p2.length 0 p2.length),(AV.ref 3 p3.length 0 p3.length),(AV.ref 4 p4.length 0 p4.length),(AV.ref 5 p5.length 0 p5.length)]) p0_1),(Ob.box (AV.ref 6 p6.length 0 p6.length)),(eS 1 (DV.i .i64) x.2),(eS 1 (DV.i .i64) p3),(eS 1 (DV.i .i64) p4),(eS 1 (DV.i .i64) p5),(eS 1 (DV.i .i64) p6)]):=fO (s:=S_q2g p0_0 p0_1 p0_2 p0_3 p0_4 p2 p3 p4 p5 p6) Tryz.func70
def S_q2r (a0:TTr) (a1:Y8) (a2:Int) (p1:(List Int)):SC (TTr×Int) (TTr×Int) :=
.reg 0 [] [(1,{ obs:=[(3,(TTr.b (⟨0,[]⟩:TTr)))] })] [.pf cz3]<|
.a 1 1 4 (@F_q8_ok a0) fun rv1=>
 let e9_:=(TTr.d (⟨0,[]⟩:TTr))
.ite (!rv1) (
.reg 2 [] [(0,hv e9_)] [.pf cz4]<|
.r ((⟨0,[]⟩:TTr),1)) (
.a 3 3 4 (@F_q11_ok a0 a1 a2) fun rv2=>
.ite (decide (rv2<0)) (
.reg 5 [] [(0,hv e9_)] [.pf cz4]<|
.r ((⟨0,[]⟩:TTr),6)) (
 let e6_:=((rv2).toNat)
.call (@F_qn_ok a0 e6_) fun rv3 cv3=>
.k 6 1 cv3 [] 4 false<|
.kill 5<|
 let e0_:=(rv3.2.getD e6_ dF)
.call (@F_q2g_ok e6_ rv3.2 (e0_.F) (e0_.G) (e0_.H) (e0_.A) (e0_.D) (e0_.C) (e0_.E) p1) fun rv4 cv4=>
.guard [(0:Int)<=rv2,(rv2).toNat<rv3.2.length]<|
 let e16_:=(AV.ptr 6 rv3.2.length [.x e6_ 7])
.reg 7 [] [(4,hv e16_),(5,hc cv4 [6,0,7,8,9,10,1] false)] [.e rv3.2.length,.ev 0,.ev 1,.pf (p:=LeV (AV.ptr 6 rv3.2.length [.x (0+e6_) 7]) e16_) (z2a),.cl 2 cv4 [6,0,7,8,9,10,1] 11 false]<|
.ite (rv4.1 != 0) (
.reg 9 [] [(0,hv e9_)] [.pf cz4]<|
.r ((⟨0,[]⟩:TTr),rv4.1)) (
.reg 10 [] [] []<|
.guard [rv4.2.length=(e0_.A).length]<|
 let e5_:=(eS 1 (DV.i .i64) p1)
 let e11_:=(eS 1 (DV.i .i64) (e0_.D))
 let e12_:=(eS 1 (DV.i .i64) (e0_.C))
 let e13_:=(eS 1 (DV.i .i64) (e0_.E))
 let e14_:=(eS 1 (DV.i .i64) rv4.2)
 let e15_:=(AV.d (DV.str (e0_.F)))
.cst (A:=rv4.2.length=(e0_.A).length) (.ev 0) [(8,(vp 3)),(9,(vi 0))] [(8,(vp 3)),(9,(vi 0))] [(Ob.box (AV.ref 1 p1.length 0 p1.length)),e5_,(Ob.box (AV.agg [(vi rv3.1),(AV.ref 6 rv3.2.length 0 rv3.2.length)])),(Ob.box (AV.agg [(vi rv3.1),(AV.ref 6 rv3.2.length 0 rv3.2.length)])),Ob.dead,Ob.dead,(opS 7 TPo.e e6_ (AV.agg [e15_,(vi (e0_.G)),(vi (e0_.H)),(AV.ref 7 ((e0_.A).length) 0 ((e0_.A).length)),(AV.ref 8 ((e0_.D).length) 0 ((e0_.D).length)),(AV.ref 9 ((e0_.C).length) 0 ((e0_.C).length)),(AV.ref 10 ((e0_.E).length) 0 ((e0_.E).length))]) rv3.2),e14_,e11_,e12_,e13_] [(Ob.box (AV.ref 1 p1.length 0 p1.length)),e5_,(Ob.box (AV.agg [(vi rv3.1),(AV.ref 6 rv3.2.length 0 rv3.2.length)])),(Ob.box (AV.agg [(vi rv3.1),(AV.ref 6 rv3.2.length 0 rv3.2.length)])),Ob.dead,Ob.dead,(opS 7 TPo.e e6_ (AV.agg [e15_,(vi (e0_.G)),(vi (e0_.H)),(AV.ref 7 rv4.2.length 0 rv4.2.length),(AV.ref 8 ((e0_.D).length) 0 ((e0_.D).length)),(AV.ref 9 ((e0_.C).length) 0 ((e0_.C).length)),(AV.ref 10 ((e0_.E).length) 0 ((e0_.E).length))]) rv3.2),e14_,e11_,e12_,e13_] (fun h=>⟨rfl,by rw[h]⟩)<|
.guard [rv4.2.length<2 ^ 63/\(e0_.D).length<2 ^ 63/\(e0_.C).length<2 ^ 63/\(e0_.E).length<2 ^ 63]<|
 let e10_:=(⟨e0_.F,e0_.G,e0_.H,rv4.2,e0_.D,e0_.C,e0_.E⟩:TPo)
 let e1_:=(rv3.2.set e6_ e10_)
 let e2_:=(AV.agg [(vi rv3.1),(AV.ref 6 rv3.2.length 0 rv3.2.length)])
 let e4_:=(AV.ref 1 p1.length 0 p1.length)
 let e3_:=[(Ob.box e4_),e5_,(Ob.box e2_),(Ob.box e2_),Ob.dead,Ob.dead,(eS 7 TPo.e e1_),Ob.dead,Ob.dead,Ob.dead,Ob.dead]
 let e8_:=[(8,(vp 3)),(9,(vi 0))]
.sh (A:=rv4.2.length<2 ^ 63/\(e0_.D).length<2 ^ 63/\(e0_.C).length<2 ^ 63/\(e0_.E).length<2 ^ 63) (.ev 0) e8_ e8_ [(Ob.box e4_),e5_,(Ob.box e2_),(Ob.box e2_),Ob.dead,Ob.dead,(opS 7 TPo.e e6_ (AV.agg [e15_,(vi (e0_.G)),(vi (e0_.H)),(AV.ref 7 rv4.2.length 0 rv4.2.length),(AV.ref 8 ((e0_.D).length) 0 ((e0_.D).length)),(AV.ref 9 ((e0_.C).length) 0 ((e0_.C).length)),(AV.ref 10 ((e0_.E).length) 0 ((e0_.E).length))]) rv3.2),e14_,e11_,e12_,e13_] e3_ (fun h=>zw oTApiPot (P:=[(Ob.box e4_),e5_,(Ob.box e2_),(Ob.box e2_),Ob.dead,Ob.dead]) (D:=[]) rfl (⟨e0_.F,e0_.G,e0_.H,[],[],[],[]⟩:TPo) e10_ h rfl) (zm _)<|
 let e7_:=(AV.agg [(vi rv3.1),(AV.ref 6 (e1_.length) 0 (e1_.length))])
.cst (A:=True) (.pf trivial) e8_ e8_ e3_ [(Ob.box e4_),e5_,(Ob.box e7_),(Ob.box e7_),Ob.dead,Ob.dead,(eS 7 TPo.e e1_),Ob.dead,Ob.dead,Ob.dead,Ob.dead] (fun _=>⟨by simp +zetaDelta only,by simp +zetaDelta only[yi]⟩)<|
.guard [e1_.length<2 ^ 63]<|
.frz 6 (.ev 0) none [] [2,3]<|
.r ((⟨rv3.1,e1_⟩:TTr),0))))
def F_q2r (a0:TTr) (a1:Y8) (a2:Int) (p1:(List Int)):=(S_q2r a0 a1 a2 p1).den
theorem F_q2r_ok {a0:TTr} {a1:Y8} {a2:Int} {p1:(List Int)}:FO (F_q2r a0 a1 a2 p1) 65 [(TTr.d a0),(AV.d (DV.str a1)),(vi a2),(AV.fn 70 [(vp 0)])] [(Ob.box (AV.ref 1 p1.length 0 p1.length)),(eS 1 (DV.i .i64) p1)] (fun x=>(AV.tup [(TTr.d x.1),(vi x.2)])) (fun _=>[(Ob.box (AV.ref 1 p1.length 0 p1.length)),(eS 1 (DV.i .i64) p1)]):=fO (s:=S_q2r a0 a1 a2 p1) Tryz.func65
def S_q2h (a0:TTr) (a1:Y8) (a2:Int) (p0:(List Int)):SC (TTr×Int) (TTr×Int) :=
.reg 0 [] [(2,{ obs:=[(3,(TTr.b (⟨0,[]⟩:TTr)))] })] [.pf cz3]<|
.call (@F_q2r_ok a0 a1 a2 p0) fun rv1 cv1=>
.k 1 4 cv1 [2,0] 4 true<|
.r (rv1.1,rv1.2)
def F_q2h (a0:TTr) (a1:Y8) (a2:Int) (p0:(List Int)):=(S_q2h a0 a1 a2 p0).den
theorem F_q2h_ok {a0:TTr} {a1:Y8} {a2:Int} {p0:(List Int)}:FO (F_q2h a0 a1 a2 p0) 34 [(TTr.d a0),(AV.d (DV.str a1)),(vi a2),(AV.ref 0 p0.length 0 p0.length)] [(eS 1 (DV.i .i64) p0)] (fun x=>(AV.tup [(TTr.d x.1),(vi x.2)])) (fun _=>[(eS 1 (DV.i .i64) p0)]):=fO (s:=S_q2h a0 a1 a2 p0) Tryz.func34
end
end Go.Proofs.YtcfloplnjicomaaGreatDoor
/- What the functions compute,and that their calls return it. No condition. -/
namespace Go.Proofs.YtcfloplnjicomaaGreatDoor
open Go Go.TA
open Go.IntKind (i64)
noncomputable section
set_option maxRecDepth 100000
abbrev R_qd:=TTr×Int
def S_qd_b1 (a0:TTr) (p0:(List Int)) (rv1:R_qq) (iv2:Nat) (sv3:Int×Int):SC R_qd (Step (Int×Int) R_qd) :=
.guard [(0+iv2)<p0.length]<|
.reg 9 [] [] [.e p0.length,.w iv2,.ev 1,.e p0.length,.ev 0]<|
 let e1_:=(p0.getD (0+iv2) dF)
.a 10 1 3 (@F_qc_ok e1_) fun rv4=>
.ite (!rv4) (
.reg 11 [] [(0,hv (TTr.d (⟨0,[]⟩:TTr)))] [.pf cz4]<|
.r (.ret ((⟨0,[]⟩:TTr),2))) (
 let e0_:=((a0.B.getD ((rv1.1).toNat) dF).A)
.guard [(0:Int)<=rv1.1,(rv1.1).toNat<a0.B.length,iv2<e0_.length]<|
.reg 13 [] [] [.ev 0,.ev 1,.w iv2,.ev 2]<|
.r (.cont ((i64.wrap (sv3.1+e1_)),(i64.wrap (sv3.2+(e0_.getD iv2 dF))))))
def S_qd_b2 (p0:(List Int)) (rv1:R_qq) (rv5:R_qk) (iv6:Nat) (sv7:(List Int)):SC R_qd (Step ((List Int)) R_qd) :=
.guard [(0+iv6)<p0.length]<|
.reg 22 [] [] [.e p0.length,.w iv6,.ev 1,.e p0.length,.ev 0]<|
 let e3_:=((rv1.1).toNat)
 let e2_:=((rv5.2.getD e3_ dF).A)
.guard [(rv1.1).toNat<rv5.2.length,sv7.length=e2_.length,iv6<e2_.length,(0+iv6)<sv7.length]<|
 let e0_:=(i64.wrap ((sv7.getD (0+iv6) dF)+(p0.getD (0+iv6) dF)))
 let e1_:=(AV.ptr 6 rv5.2.length [.x e3_ 7])
.reg 23 [] [(3,hv e1_),(12,{ obs:=[(7,(eS 1 (DV.i .i64) (sv7.set (0+iv6) e0_)))] })] [.e rv5.2.length,.ev 10,.ev 0,.pf (p:=LeV (AV.ptr 6 rv5.2.length [.x (0+e3_) 7]) e1_) (z2a),.e rv5.2.length,.e rv5.2.length,.ev 0,.pf (p:=decide ((rv1.1).toNat=(rv1.1).toNat)=true) (yc rfl),.ev 1,.w iv6,.ev 2,.ev 1,.ev 3,.ev 1,.w iv6,.ev 2,.ev 1,.ev 3,.pf (z15 (sz:=1) (e:=(DV.i .i64)) (l:=sv7) (i:=(0+iv6)) (x:=e0_) (fun _=>rfl))]<|
.c (sv7.set (0+iv6) e0_)
def S_qd (a0:TTr) (a1:Y8) (a2:Int) (p0:(List Int)):SC R_qd R_qd :=
 let e16_:=(TTr.b (⟨0,[]⟩:TTr))
.reg 0 [] [(1,{ obs:=[(2,e16_)] })] [.pf cz3]<|
.a 1 3 3 (@F_qq_ok a0 1 a1 a2) fun rv1=>
 let e5_:=(TTr.d (⟨0,[]⟩:TTr))
.ite (rv1.2 != 0) (
.reg 3 [] [(0,hv e5_)] [.pf cz4]<|
.r ((⟨0,[]⟩:TTr),rv1.2)) (
.ite ((p0.length:Int) != a0.I) (
.reg 5 [] [(0,hv e5_)] [.pf cz4]<|
.r ((⟨0,[]⟩:TTr),6)) (
.guard [p0.length<2 ^ 63]<|
.range (p0.length:Int) p0.length rfl (.why (.ev 0)) 38 [3,4,8,10,36,37] (fun (sv3:Int×Int)=>[(12,(vi sv3.1)),(13,(vi sv3.2))]) (fun _=>[]) (0,0) (S_qd_b1 a0 p0 rv1) (fun sv3 => 
 let e6_:=((rv1.1).toNat)
.call (@F_q1o_ok (a0.B.getD e6_ dF)) fun rv8 cv8=>
.guard [(0:Int)<=rv1.1,(rv1.1).toNat<a0.B.length]<|
.reg 15 [] [(6,hc cv8 [] true)] [.ev 0,.ev 1,.cl 2 cv8 [] 3 true]<|
.ite (decide (sv3.1>rv8)) (
.reg 16 [] [(0,hv e5_)] [.pf cz4]<|
.r ((⟨0,[]⟩:TTr),15)) (
.ite (decide ((i64.wrap (sv3.1+sv3.2))>1000000000000000)) (
.reg 18 [] [(0,hv e5_)] [.pf cz4]<|
.r ((⟨0,[]⟩:TTr),3)) (
.call (@F_qk_ok a0 e6_) fun rv5 cv5=>
.reg 19 [] [(1,hc cv5 [] false),(2,{ obs:=[(11,e16_)] })] [.cl 0 cv5 [] 3 false,.pf cz3]<|
.kill 4<|
 let e0_:=(rv5.2.getD e6_ dF)
.range (p0.length:Int) p0.length rfl (.why (.ev 6)) 80 [8,10,16,78,79] (fun (_:(List Int))=>[]) (fun sv7=>[(7,(eS 1 (DV.i .i64) sv7))]) (e0_.A) (S_qd_b2 p0 rv1 rv5) (fun sv7 => 
.reg 25 [] [] []<|
.guard [sv7.length=(e0_.A).length]<|
 let e4_:=(eS 1 (DV.i .i64) p0)
 let e9_:=(TTr.b a0)
 let e11_:=(eS 1 (DV.i .i64) (e0_.D))
 let e12_:=(eS 1 (DV.i .i64) (e0_.C))
 let e13_:=(eS 1 (DV.i .i64) (e0_.E))
 let e14_:=(AV.d (DV.str (e0_.F)))
 let e15_:=(eS 1 (DV.i .i64) sv7)
.cst (A:=sv7.length=(e0_.A).length) (.ev 0) [(8,(vp 2)),(9,(vi 0))] [(8,(vp 2)),(9,(vi 0))] [e4_,e9_,(Ob.box (AV.agg [(vi rv5.1),(AV.ref 6 rv5.2.length 0 rv5.2.length)])),Ob.dead,Ob.dead,Ob.dead,(opS 7 TPo.e e6_ (AV.agg [e14_,(vi (e0_.G)),(vi (e0_.H)),(AV.ref 7 ((e0_.A).length) 0 ((e0_.A).length)),(AV.ref 8 ((e0_.D).length) 0 ((e0_.D).length)),(AV.ref 9 ((e0_.C).length) 0 ((e0_.C).length)),(AV.ref 10 ((e0_.E).length) 0 ((e0_.E).length))]) rv5.2),e15_,e11_,e12_,e13_,(Ob.box (AV.agg [(vi rv5.1),(AV.ref 6 rv5.2.length 0 rv5.2.length)]))] [e4_,e9_,(Ob.box (AV.agg [(vi rv5.1),(AV.ref 6 rv5.2.length 0 rv5.2.length)])),Ob.dead,Ob.dead,Ob.dead,(opS 7 TPo.e e6_ (AV.agg [e14_,(vi (e0_.G)),(vi (e0_.H)),(AV.ref 7 sv7.length 0 sv7.length),(AV.ref 8 ((e0_.D).length) 0 ((e0_.D).length)),(AV.ref 9 ((e0_.C).length) 0 ((e0_.C).length)),(AV.ref 10 ((e0_.E).length) 0 ((e0_.E).length))]) rv5.2),e15_,e11_,e12_,e13_,(Ob.box (AV.agg [(vi rv5.1),(AV.ref 6 rv5.2.length 0 rv5.2.length)]))] (fun h=>⟨rfl,by rw[h]⟩)<|
.guard [sv7.length<2 ^ 63/\(e0_.D).length<2 ^ 63/\(e0_.C).length<2 ^ 63/\(e0_.E).length<2 ^ 63]<|
 let e10_:=(⟨e0_.F,e0_.G,e0_.H,sv7,e0_.D,e0_.C,e0_.E⟩:TPo)
 let e1_:=(rv5.2.set e6_ e10_)
 let e2_:=(AV.agg [(vi rv5.1),(AV.ref 6 rv5.2.length 0 rv5.2.length)])
 let e3_:=[e4_,e9_,(Ob.box e2_),Ob.dead,Ob.dead,Ob.dead,(eS 7 TPo.e e1_),Ob.dead,Ob.dead,Ob.dead,Ob.dead,(Ob.box e2_)]
 let e8_:=[(8,(vp 2)),(9,(vi 0))]
.sh (A:=sv7.length<2 ^ 63/\(e0_.D).length<2 ^ 63/\(e0_.C).length<2 ^ 63/\(e0_.E).length<2 ^ 63) (.ev 0) e8_ e8_ [e4_,e9_,(Ob.box e2_),Ob.dead,Ob.dead,Ob.dead,(opS 7 TPo.e e6_ (AV.agg [e14_,(vi (e0_.G)),(vi (e0_.H)),(AV.ref 7 sv7.length 0 sv7.length),(AV.ref 8 ((e0_.D).length) 0 ((e0_.D).length)),(AV.ref 9 ((e0_.C).length) 0 ((e0_.C).length)),(AV.ref 10 ((e0_.E).length) 0 ((e0_.E).length))]) rv5.2),e15_,e11_,e12_,e13_,(Ob.box e2_)] e3_ (fun h=>zw oTApiPot (P:=[e4_,e9_,(Ob.box e2_),Ob.dead,Ob.dead,Ob.dead]) (D:=[(Ob.box e2_)]) rfl (⟨e0_.F,e0_.G,e0_.H,[],[],[],[]⟩:TPo) e10_ h rfl) (zm _)<|
 let e7_:=(AV.agg [(vi rv5.1),(AV.ref 6 (e1_.length) 0 (e1_.length))])
.cst (A:=True) (.pf trivial) e8_ e8_ e3_ [e4_,e9_,(Ob.box e7_),Ob.dead,Ob.dead,Ob.dead,(eS 7 TPo.e e1_),Ob.dead,Ob.dead,Ob.dead,Ob.dead,(Ob.box e7_)] (fun _=>⟨by simp +zetaDelta only,by simp +zetaDelta only[yi]⟩)<|
.guard [e1_.length<2 ^ 63]<|
.frz 6 (.ev 0) none [] [2,11]<|
.r ((⟨rv5.1,e1_⟩:TTr),0)) id))) id))
def F_qd (a0:TTr) (a1:Y8) (a2:Int) (p0:(List Int)):=(S_qd a0 a1 a2 p0).den
theorem F_qd_ok {a0:TTr} {a1:Y8} {a2:Int} {p0:(List Int)}:FO (F_qd a0 a1 a2 p0) 35 [(TTr.d a0),(AV.d (DV.str a1)),(vi a2),(AV.ref 0 p0.length 0 p0.length)] [(eS 1 (DV.i .i64) p0)] (fun x=>(AV.tup [(TTr.d x.1),(vi x.2)])) (fun _=>[(eS 1 (DV.i .i64) p0)]):=fO (s:=S_qd a0 a1 a2 p0) Tryz.func35
abbrev R_q19:=TRi×TTape
def S_q19 (p0:TTape):SC R_q19 R_q19 :=
.call (@F_q0_ok 500 p0) fun rv1 cv1=>
.k 1 1 cv1 [0] 2 false<|
.call (@F_qf_ok rv1.2) fun rv2 cv2=>
.call (@F_q0_ok 2 rv2.2) fun rv3 cv3=>
.call (@F_q0_ok 400 rv3.2) fun rv4 cv4=>
.call (@F_q0_ok (i64.wrap (rv1.1+1)) rv4.2) fun rv5 cv5=>
.reg 2 [] [(1,hc cv2 [0] false),(3,hc cv3 [0] false),(7,hc cv4 [0] false),(11,hc cv5 [0] false)] [.cl 3 cv2 [0] 2 false,.cl 2 cv3 [0] 2 false,.cl 1 cv4 [0] 2 false,.cl 0 cv5 [0] 2 false]<|
.r ((⟨rv2.1,(i64.wrap (12+rv3.1)),rv1.1,rv4.1,rv5.1⟩:TRi),rv5.2)
def F_q19 (p0:TTape):=(S_q19 p0).den
theorem F_q19_ok {p0:TTape}:FO (F_q19 p0) 38 [(vp 0)] [(TTape.b p0)] (fun x=>(TRi.d x.1)) (fun x=>[(TTape.b x.2)]):=fO (s:=S_q19 p0) Tryz.func38
def S_q1l (a0:TRi):SC Bool Bool :=
.call (@F_qp_ok a0.F) fun rv1 cv1=>
 let e0_:=(bif (bif rv1 then (decide (a0.G>=0)) else false) then (decide (a0.G<=99)) else false)
.calld [e0_=true] dF (@F_qc_ok a0.A) fun rv2 cv2 =>
 let e1_:=(bif e0_ then rv2 else false)
.calld [e1_=true] dF (@F_qc_ok a0.C) fun rv3 cv3 =>
.reg 1 [] [(2,hc cv1 [] true),(16,hc cv2 [] true),(21,hc cv3 [] true)] [.cl 4 cv1 [] 1 true,.clg 2 [e0_=true] cv2 [] 1 true,.clg 0 [e1_=true] cv3 [] 1 true]<|
.r (bif (bif (bif e1_ then rv3 else false) then (decide (a0.J>=0)) else false) then (decide (a0.J<=a0.A)) else false)
def F_q1l (a0:TRi):=(S_q1l a0).den
theorem F_q1l_ok {a0:TRi}:FO (F_q1l a0) 46 [(TRi.d a0)] [] vb NL:=fO (s:=S_q1l a0) Tryz.func46
def S_q2i (a0:TRi) (a1:TMe):SC (TRi×Int) (TRi×Int) :=
.a 1 1 3 (@F_q1l_ok a0) fun rv1=>
.ite (cO (cO (cO (!rv1) (a1.K != 0)) (!(a1.F==a0.F))) (a1.G != a0.G)) (
.r ((⟨[],0,0,0,0⟩:TRi),1)) (
.call (@F_qc_ok a1.A) fun rv2 cv2=>
.calld [(!rv2)=false] dF (@F_qc_ok a1.C) fun rv3 cv3 =>
.reg 3 [] [(2,hc cv2 [] true),(7,hc cv3 [] true)] [.cl 2 cv2 [] 3 true,.clg 0 [(!rv2)=false] cv3 [] 3 true]<|
.ite (cO (!rv2) (!rv3)) (
.r ((⟨[],0,0,0,0⟩:TRi),2)) (
.reg 5 [11,13] [] []<|
.r ((⟨a0.F,a0.G,(if a1.A>a0.A then a1.A else a0.A),(if a1.C>a0.C then a1.C else a0.C),a0.J⟩:TRi),0)))
def F_q2i (a0:TRi) (a1:TMe):=(S_q2i a0 a1).den
theorem F_q2i_ok {a0:TRi} {a1:TMe}:FO (F_q2i a0 a1) 40 [(TRi.d a0),(TMe.d a1)] [] (fun x=>(AV.tup [(TRi.d x.1),(vi x.2)])) NL:=fO (s:=S_q2i a0 a1) Tryz.func40
def S_q2j (a0:TRi) (a1:Int) (a2:Int):SC (TRi×Int) (TRi×Int) :=
.a 1 1 2 (@F_q1l_ok a0) fun rv1=>
 let e0_:=(⟨[],0,0,0,0⟩:TRi)
 let e1_:=(i64.wrap (a0.A-a0.J))
.ite (cO (cO (!rv1) (decide (a1<0))) (decide (a1>e1_))) (
.r (e0_,1)) (
.ite (cO (decide (a2<1)) (decide (a2>1000000000000000))) (
.r (e0_,2)) (
.ite (decide (a2>(i64.wrap (e1_-a1)))) (
.r (e0_,15)) (
.r ((⟨a0.F,a0.G,a0.A,a0.C,(i64.wrap (a0.J+a2))⟩:TRi),0))))
def F_q2j (a0:TRi) (a1:Int) (a2:Int):=(S_q2j a0 a1 a2).den
theorem F_q2j_ok {a0:TRi} {a1:Int} {a2:Int}:FO (F_q2j a0 a1 a2) 42 [(TRi.d a0),(vi a1),(vi a2)] [] (fun x=>(AV.tup [(TRi.d x.1),(vi x.2)])) NL:=fO (s:=S_q2j a0 a1 a2) Tryz.func42
def S_q2k (a0:TRi) (a1:Int):SC Int Int :=
.a 1 1 1 (@F_q1l_ok a0) fun rv1=>
 let e1_:=(i64.wrap (a0.A-a0.J))
.ite (cO (cO (!rv1) (decide (a1<0))) (decide (a1>e1_))) (
.r 0) (
 let e2_:=(i64.wrap (a0.C-a0.J))
 let e3_:=(i64.wrap (e1_-a1))
 let e0_:=(if e3_<e2_ then e3_ else e2_)
.r (if e0_>0 then e0_ else 0))
def F_q2k (a0:TRi) (a1:Int):=(S_q2k a0 a1).den
theorem F_q2k_ok {a0:TRi} {a1:Int}:FO (F_q2k a0 a1) 44 [(TRi.d a0),(vi a1)] [] vi NL:=fO (s:=S_q2k a0 a1) Tryz.func44
end
end Go.Proofs.YtcfloplnjicomaaGreatDoor
