/- A part of the proof: what the functions compute, and that their calls return it. No condition. -/
import Derived.Test.YtiohhffifhaboaaGreatDoorT9
import Derived.Lib.AppendZerosOnto
import Derived.Test.YtiohhffifhaboaaGreatDoorProg
import Derived.Test.YtiohhffifhaboaaGreatDoorT4
import Derived.Test.YtiohhffifhaboaaGreatDoorG2
import Derived.Test.YtiohhffifhaboaaGreatDoorG3
import Derived.Test.YtiohhffifhaboaaGreatDoorP1
import Derived.Test.YtiohhffifhaboaaGreatDoorP2
/- slices.Insert of one element. No condition. -/
namespace Go.Proofs.YtiohhffifhaboaaGreatDoor
namespace Ins62
open Go Go.TA
open Go.IntKind (i64)
noncomputable def ci:Code:=Tryz.f62.body.getD .skip
section
variable {α:Type} [Inhabited α] {e:α->DV}
end
end Ins62
end Go.Proofs.YtiohhffifhaboaaGreatDoor
/- The shapes of data. No condition. -/
namespace Go.Proofs.YtiohhffifhaboaaGreatDoor
open Go Go.TA
open Go.IntKind (i64)
abbrev Z0:DV:=DV.sl 0 fun _=>DV.b false
structure TTape where
 l:(List Int)
 at_:Int
 deriving Inhabited
def TTape.e (x:TTape):DV:=.agg [(eL (DV.i .i64) x.l),(DV.i .i64 x.at_)]
abbrev TTape.d (x:TTape):AV:=AV.d (TTape.e x)
abbrev TTape.b (x:TTape):Ob:=bx (TTape.e x)
structure TWa where
 H:Int
 G:Int
 K:Y8
 O:Int
 A:Int
 M:Int
 E:Int
 C:Int
 J:Int
 Q:Int
 N:Int
 T:Int
 P:Int
 R:Int
 deriving Inhabited
def TWa.e (x:TWa):DV:=.agg [(DV.i .i64 x.H),(DV.i .i64 x.G),(DV.str x.K),(DV.i .i64 x.O),(DV.i .i64 x.A),(DV.i .i64 x.M),(DV.i .i64 x.E),(DV.i .i64 x.C),(DV.i .i64 x.J),(DV.i .i64 x.Q),(DV.i .i64 x.N),(DV.i .i64 x.T),(DV.i .u64 x.P),(DV.i .u64 x.R)]
abbrev TWa.d (x:TWa):AV:=AV.d (TWa.e x)
abbrev TWa.b (x:TWa):Ob:=bx (TWa.e x)
structure TRi where
 K:Y8
 O:Int
 V:Int
 Y:Int
 W:Int
 deriving Inhabited
def TRi.e (x:TRi):DV:=.agg [(DV.str x.K),(DV.i .i64 x.O),(DV.i .i64 x.V),(DV.i .i64 x.Y),(DV.i .i64 x.W)]
abbrev TRi.d (x:TRi):AV:=AV.d (TRi.e x)
abbrev TRi.b (x:TRi):Ob:=bx (TRi.e x)
structure TRe where
 H:Int
 K:Y8
 O:Int
 N:Int
 J:Int
 U:Int
 deriving Inhabited
def TRe.e (x:TRe):DV:=.agg [(DV.i .i64 x.H),(DV.str x.K),(DV.i .i64 x.O),(DV.i .i64 x.N),(DV.i .i64 x.J),(DV.i .i64 x.U)]
abbrev TRe.d (x:TRe):AV:=AV.d (TRe.e x)
abbrev TRe.b (x:TRe):Ob:=bx (TRe.e x)
structure TCo where
 H:Int
 C:Int
 N:Int
 J:Int
 U:Int
 Q:Int
 T:Int
 deriving Inhabited
def TCo.e (x:TCo):DV:=.agg [(DV.i .i64 x.H),(DV.i .i64 x.C),(DV.i .i64 x.N),(DV.i .i64 x.J),(DV.i .i64 x.U),(DV.i .i64 x.Q),(DV.i .i64 x.T)]
abbrev TCo.d (x:TCo):AV:=AV.d (TCo.e x)
abbrev TCo.b (x:TCo):Ob:=bx (TCo.e x)
structure TVe where
 H:Int
 E:Int
 N:Int
 J:Int
 deriving Inhabited
def TVe.e (x:TVe):DV:=.agg [(DV.i .i64 x.H),(DV.i .i64 x.E),(DV.i .i64 x.N),(DV.i .i64 x.J)]
abbrev TVe.d (x:TVe):AV:=AV.d (TVe.e x)
abbrev TVe.b (x:TVe):Ob:=bx (TVe.e x)
structure TOr where
 H:Int
 A:Int
 M:Int
 N:Int
 X:Bool
 deriving Inhabited
def TOr.e (x:TOr):DV:=.agg [(DV.i .i64 x.H),(DV.i .i64 x.A),(DV.i .i64 x.M),(DV.i .i64 x.N),(DV.b x.X)]
abbrev TOr.d (x:TOr):AV:=AV.d (TOr.e x)
abbrev TOr.b (x:TOr):Ob:=bx (TOr.e x)
structure TBo where
 B:(List TRe)
 D:(List TCo)
 F:(List TVe)
 I:(List TOr)
 deriving Inhabited
def TBo.e (x:TBo):DV:=.agg [(eL TRe.e x.B),(eL TCo.e x.D),(eL TVe.e x.F),(eL TOr.e x.I)]
abbrev TBo.d (x:TBo):AV:=AV.d (TBo.e x)
abbrev TBo.b (x:TBo):Ob:=bx (TBo.e x)
structure TOf where
 H:Int
 S:(List TRi)
 L:TBo
 deriving Inhabited
def TOf.e (x:TOf):DV:=.agg [(DV.i .i64 x.H),(eL TRi.e x.S),(TBo.e x.L)]
abbrev TOf.d (x:TOf):AV:=AV.d (TOf.e x)
abbrev TOf.b (x:TOf):Ob:=bx (TOf.e x)
structure TOp where
 Z:Int
 K:Y8
 O:Int
 N:Int
 Of:Int
 J:Int
 Q:Int
 T:Int
 V:Int
 Aa:Int
 deriving Inhabited
structure TMe where
 Ab:Int
 To:Int
 K:Y8
 O:Int
 V:Int
 Y:Int
 W:Int
 Ac:Int
 deriving Inhabited
structure THe where
 K:Y8
 Ad:Y8
 deriving Inhabited
end Go.Proofs.YtiohhffifhaboaaGreatDoor
/- What the functions compute,and that their calls return it. No condition. -/
namespace Go.Proofs.YtiohhffifhaboaaGreatDoor
open Go Go.TA
open Go.IntKind (i64)
noncomputable section
set_option maxRecDepth 100000
def S_qz (b:(List Int)):SC TTape TTape :=
 let a:=(if 500<(b.length:Int) then 500 else (b.length:Int))
.guard [(0:Int)<=a,a.toNat<=b.length]<|
 let c:=(b.take a.toNat)
.reg 1 [] [(4,hv (vl c))] [.ev 0,.ev 1,.der (fun (h0:a.toNat<=b.length)=>lvT (DV.i .i64) b h0) 1]<|
.r (⟨c,0⟩:TTape)
def F_qz (a:(List Int)):=(S_qz a).den
theorem F_qz_ok {a:(List Int)}:FO (F_qz a) 5 [(vl a)] [] (fun _=>(vp 0)) (fun x=>[(TTape.b x)]):=fO (s:=S_qz a) Tryz.func5
def S_qp (d:Int) (a:TTape):SC (Int×TTape) (Int×TTape) :=
.ite (decide (a.at_>=(a.l.length:Int))) (
.r (0,a)) (
.guard [(0:Int)<=a.at_,a.at_.toNat<a.l.length,(d:Int)≠0]<|
.reg 3 [] [] [.ev 0,.ev 1,.ev 2]<|
 let b:=((a.l.getD a.at_.toNat dF).tmod d)
 let c:=(⟨a.l,(i64.wrap (a.at_+1))⟩:TTape)
.ite (decide (b<0)) (
.r ((i64.wrap (b+d)),c)) (
.r (b,c)))
def F_qp (a:Int) (b:TTape):=(S_qp a b).den
theorem F_qp_ok {a:Int} {c:TTape}:FO (F_qp a c) 39 [(vp 0),(vi a)] [(TTape.b c)] (fun x=>(vi x.1)) (fun x=>[(TTape.b x.2)]):=fO (s:=S_qp a c) Tryz.func39
abbrev R_qc:=(List Int)×TTape
def S_qc_b1 (j:Int) (a:TTape×(List Int)×Int):SC R_qc (Step (TTape×(List Int)×Int) R_qc) :=
.ite (decide (a.2.2<(i64.wrap (2 * j)))) (
.call (@F_qp_ok 1000 a.1) fun f g=>
.guard [(a.2.1.length+1) * (2 * 8)<=2 ^ 48]<|
 let b:=([(IntKind.u64.wrap ((IntKind.u64.wrap ((IntKind.u64.wrap f.1) * 2654435761))+(IntKind.u64.wrap ((IntKind.u64.wrap a.2.2) * 7919))))]:List Int)
 let c:=(a.2.1++b)
.reg 5 [] [(2,hc g [0] false),(9,hv (AV.d (eL (DV.i .u64) b))),(10,{ h:=.obj,cast:=some (AV.ref 1 c.length 0 c.length),obs:=[(1,(eS 1 (DV.i .u64) c))] })] [.cl 1 g [0] 2 false,.pf (zu (DV.i .u64) b),.e a.2.1.length,.e a.2.1.length,.pf (p:=∀ k,k<1->(AV.d ((DV.i .u64) (b.getD k dF))).wd=1) (fun _ _=>rfl),.ev 0,.pf (z68 (o:=1) (l:=a.2.1) (x:=b)),.pf (z67 (sz:=1) (e:=(DV.i .u64)) (l:=a.2.1) (x:=b))]<|
.r (.cont (f.2,c,(i64.wrap (a.2.2+1))))) (
.r (.brk (a.1,a.2.1,a.2.2)))
def S_qc (c:Int) (e:TTape):SC R_qc R_qc :=
.reg 2 [] [] []<|
.bor 1 (fun j=>AV.d ((DV.i .u64) (([]:List Int).getD j dF))) [5]<|
.iter [0,1] (fun (a:TTape×(List Int)×Int)=>[(5,(AV.ref 1 a.2.1.length 0 a.2.1.length)),(6,(vi a.2.2))]) (fun a=>[(0,(TTape.b a.1)),(1,(eS 1 (DV.i .u64) a.2.1))]) (e,([]:List Int),0) (S_qc_b1 c) (fun a =>
.guard [a.2.1.length<2 ^ 63]<|
.reg 6 [] [] []<|
.frz 1 (.ev 0) none [4] []<|
.r (a.2.1,a.1)) id
def F_qc (a:Int) (b:TTape):=(S_qc a b).den
theorem F_qc_ok {a:Int} {c:TTape}:FO (F_qc a c) 6 [(vp 0),(vi a)] [(TTape.b c)] (fun x=>(AV.d (eL (DV.i .u64) x.1))) (fun x=>[(TTape.b x.2)]):=fO (s:=S_qc a c) Tryz.func6
def S_qd (c:Int) (d:Int) (e:TTape):SC (Int×TTape) (Int×TTape) :=
.call (@F_qp_ok (i64.wrap ((i64.wrap (d-c))+1)) e) fun a b=>
.k 1 6 b [0] 1 false<|
.r ((i64.wrap (c+a.1)),a.2)
def F_qd (a:Int) (b:Int) (c:TTape):=(S_qd a b c).den
theorem F_qd_ok {a:Int} {c:Int} {d:TTape}:FO (F_qd a c d) 16 [(vp 0),(vi a),(vi c)] [(TTape.b d)] (fun x=>(vi x.1)) (fun x=>[(TTape.b x.2)]):=fO (s:=S_qd a c d) Tryz.func16
abbrev R_q1i:=Y8×TTape
def S_q1i (c:TTape):SC R_q1i R_q1i :=
.call (@F_qp_ok 3 c) fun a b=>
.guard [(0:Int)<=a.1,a.1.toNat<3]<|
.reg 1 [] [(0,hv (AV.d (eL DV.str ([[49],[49,46,50],[50]]:List Y8)))),(2,hc b [0] false)] [.pf (zu DV.str ([[49],[49,46,50],[50]]:List Y8)),.cl 2 b [0] 1 false,.ev 0,.ev 1]<|
.r ((([[49],[49,46,50],[50]]:List Y8).getD a.1.toNat dF),a.2)
def F_q1i (a:TTape):=(S_q1i a).den
theorem F_q1i_ok {a:TTape}:FO (F_q1i a) 40 [(vp 0)] [(TTape.b a)] (fun x=>(AV.d (DV.str x.1))) (fun x=>[(TTape.b x.2)]):=fO (s:=S_q1i a) Tryz.func40
def S_q1j (a:Int):SC Bool Bool :=
.r (bif (decide (a>=1)) then (decide (a<=1000000)) else false)
def F_q1j (a:Int):=(S_q1j a).den
theorem F_q1j_ok {a:Int}:FO (F_q1j a) 53 [(vi a)] [] vb NL:=fO (s:=S_q1j a) Tryz.func53
def S_qe_b1 (g:Y8) (a:Int×Int×Int):SC Bool (Step (Int×Int×Int) Bool) :=
.ite (decide (a.2.2<(g.length:Int))) (
.guard [(0:Int)<=a.2.2,a.2.2.toNat<g.length]<|
.reg 6 [] [] [.ev 0,.ev 1]<|
 let b:=((g.getD a.2.2.toNat 0).toNat:Int)
 let e:=(i64.wrap (a.2.2+1))
.ite (b==46) (
.ite (a.1==0) (
.r (.ret false)) (
.r (.cont (0,(i64.wrap (a.2.1+1)),e)))) (
 let c:=(decide (b<48))
 let d:=(cO c (decide (b>57)))
 let f:=(a.2.2.toNat<g.length)
.guard [AllP [c=false]->((0:Int)<=a.2.2),AllP [c=false]->f,AllP [(a.1==0)=true,d=false]->((0:Int)<=a.2.2),AllP [(a.1==0)=true,d=false]->f]<|
.reg 11 [] [] [.ev 5,.ev 6,.ev 0,.ev 1,.ev 2,.ev 3]<|
.ite (cO (cO d (bif (a.1==0) then (b==48) else false)) (a.1==2)) (
.r (.ret false)) (
.r (.cont ((i64.wrap (a.1+1)),a.2.1,e))))) (
.r (.brk (a.1,a.2.1,a.2.2)))
def S_qe (b:Y8):SC Bool Bool :=
.iter [0] (fun (a:Int×Int×Int)=>[(3,(vi a.1)),(4,(vi a.2.1)),(5,(vi a.2.2))]) (fun _=>[]) (0,1,0) (S_qe_b1 b) (fun a =>
.r (bif (decide (a.1>0)) then (decide (a.2.1<=4)) else false)) id
def F_qe (a:Y8):=(S_qe a).den
theorem F_qe_ok {a:Y8}:FO (F_qe a) 54 [(AV.d (DV.str a))] [] vb NL:=fO (s:=S_qe a) Tryz.func54
def S_q0_b1 (b:TWa) (c:Nat) (_:Unit):SC Bool (Step Unit Bool) :=
.reg 3 [] [] [.w c,.ev 0]<|
.a 4 1 1 (@F_q1j_ok (([b.H,b.C,b.E,b.A,b.M,b.Q]:List Int).getD c dF)) fun d=>
.ite (!d) (
.r (.ret false)) (
.r (.cont ()))
def S_q0_b2 (c:TWa) (a:Nat) (_:Unit):SC Bool (Step Unit Bool) :=
.reg 9 [] [] [.w a,.ev 0]<|
 let b:=(([c.N,c.T]:List Int).getD a dF)
.ite (cO (decide (b<0)) (decide (b>35990))) (
.r (.ret false)) (
.r (.cont ()))
def S_q0 (a:TWa):SC Bool Bool :=
 let c:=([a.H,a.C,a.E,a.A,a.M,a.Q]:List Int)
.reg 1 [] [(12,hv (vl c))] [.pf (zu (DV.i .i64) c)]<|
.range 6 6 rfl (.why (.pf (p:=6<2 ^ 63) dk)) 21 [1,19,20] (fun (_:Unit)=>[]) (fun _=>[]) () (S_q0_b1 a) (fun _ => 
.reg 7 [] [(4,hv (vl ([a.N,a.T]:List Int)))] [.pf (zu (DV.i .i64) ([a.N,a.T]:List Int))]<|
.range 2 2 rfl (.why (.pf (p:=2<2 ^ 63) dk)) 35 [1,33,34] (fun (_:Unit)=>[]) (fun _=>[]) () (S_q0_b2 a) (fun _ => 
 let b:=(bif (decide (a.G>=1)) then (decide (a.G<=6)) else false)
.calld [b=true] dF (@F_qe_ok a.K) fun e d =>
.reg 13 [] [(11,hc d [] true)] [.clg 0 [b=true] d [] 1 true]<|
.r (bif (bif (bif (bif (bif b then e else false) then (decide (a.O>=0)) else false) then (decide (a.O<=99)) else false) then (decide (a.J>=1)) else false) then (decide (a.J<=1000000000000)) else false)) id) id
def F_q0 (a:TWa):=(S_q0 a).den
theorem F_q0_ok {a:TWa}:FO (F_q0 a) 20 [(TWa.d a)] [] vb NL:=fO (s:=S_q0 a) Tryz.func20
abbrev R_q3:=Y8
def S_q3_b1 (a:TWa) (d:Nat) (e:Y8):SC R_q3 (Step Y8 R_q3) :=
.reg 6 [] [] [.w d,.ev 0]<|
.call (@F_q2a_ok (([a.O,a.C,a.E,a.A,a.M,a.J,a.Q,a.N,a.T]:List Int).getD d dF)) fun b f=>
.guard [([32]).length+b.length<2 ^ 63,e.length+(([32])++b).length<2 ^ 63]<|
.reg 7 [] [(2,hc f [] true)] [.cl 2 f [] 1 true,.ev 0,.ev 1]<|
.c (e++(([32])++b))
def S_q3 (b:TWa):SC R_q3 R_q3 :=
.a 1 1 1 (@F_q0_ok b) fun m=>
.ite (!m) (
.r ([])) (
.call (@F_q2a_ok b.H) fun g h=>
.call (@F_q2a_ok b.G) fun j k=>
 let c:=(([119,97,114,114,97,110,116,32])++g)
 let e:=((c++([32]))++j)
.guard [([119,97,114,114,97,110,116,32]).length+g.length<2 ^ 63,c.length+([32]).length<2 ^ 63,(c++([32])).length+j.length<2 ^ 63,e.length+([32]).length<2 ^ 63,(e++([32])).length+b.K.length<2 ^ 63]<|
.reg 3 [] [(2,hc h [] true),(7,hc k [] true)] [.cl 6 h [] 1 true,.ev 0,.ev 1,.cl 5 k [] 1 true,.ev 2,.ev 3,.ev 4]<|
 let l:=([b.O,b.C,b.E,b.A,b.M,b.J,b.Q,b.N,b.T]:List Int)
.reg 4 [] [(18,hv (vl l))] [.pf (zu (DV.i .i64) l)]<|
.range 9 9 rfl (.why (.pf (p:=9<2 ^ 63) dk)) 42 [40,41] (fun (f:Y8)=>[(3,(AV.d (DV.str f)))]) (fun _=>[]) ((e++([32]))++b.K) (S_q3_b1 b) (fun f => 
.r f) id)
def F_q3 (a:TWa):=(S_q3 a).den
theorem F_q3_ok {a:TWa}:FO (F_q3 a) 22 [(TWa.d a)] [] (fun x=>(AV.d (DV.str x))) NL:=fO (s:=S_q3 a) Tryz.func22
def S_q4_b1 (b:Y8) (a:Int×Int):SC Int (Step (Int×Int) Int) :=
.ite (decide (a.2<(b.length:Int))) (
.guard [(0:Int)<=a.2,a.2.toNat<b.length]<|
.reg 5 [] [] [.ev 0,.ev 1]<|
.r (.cont ((IntKind.u64.wrap ((IntKind.u64.wrap ((BitVec.ofInt IntKind.u64.bits a.1 ^^^ BitVec.ofInt IntKind.u64.bits (IntKind.u64.wrap ((b.getD a.2.toNat 0).toNat:Int))).toNat:Int)) * 1099511628211)),(i64.wrap (a.2+1))))) (
.r (.brk (a.1,a.2)))
def S_q4 (b:Y8):SC Int Int :=
.iter [0] (fun (a:Int×Int)=>[(3,(AV.d (DV.i .u64 a.1))),(4,(vi a.2))]) (fun _=>[]) (14695981039346656037,0) (S_q4_b1 b) (fun a =>
.r a.1) id
def F_q4 (a:Y8):=(S_q4 a).den
theorem F_q4_ok {a:Y8}:FO (F_q4 a) 38 [(AV.d (DV.str a))] [] (fun x=>(AV.d (DV.i .u64 x))) NL:=fO (s:=S_q4 a) Tryz.func38
def S_q1_b1 (c:Int) (a:(List Int)×Int):SC Int (Step ((List Int)×Int) Int) :=
.ite (decide (a.2>=0)) (
.guard [(0:Int)<=a.2,(a.1.length+1) * (2 * 1)<=2 ^ 48]<|
 let b:=([(IntKind.u8.wrap (c.fdiv (2 ^ (min a.2.toNat IntKind.u64.bits))))]:List Int)
.reg 5 [] [(5,hv (AV.d (eL (DV.i .u8) b))),(6,{ h:=.obj,cast:=some (AV.ref 1 ((a.1++b).length) 0 ((a.1++b).length)),obs:=[(1,(eS 1 (DV.i .u8) (a.1++b)))] })] [.ev 0,.pf (zu (DV.i .u8) b),.e a.1.length,.e a.1.length,.pf (p:=∀ k,k<1->(AV.d ((DV.i .u8) (b.getD k dF))).wd=1) (fun _ _=>rfl),.ev 1,.pf (z68 (o:=1) (l:=a.1) (x:=b)),.pf (z67 (sz:=1) (e:=(DV.i .u8)) (l:=a.1) (x:=b))]<|
.r (.cont ((a.1++b),(i64.wrap (a.2-8))))) (
.r (.brk (a.1,a.2)))
def S_q1 (g:Int) (h:TWa):SC Int Int :=
.reg 2 [] [] []<|
.bor 1 (fun j=>AV.d ((DV.i .u8) (([]:List Int).getD j dF))) [5]<|
.iter [0,3] (fun (a:(List Int)×Int)=>[(5,(AV.ref 1 a.1.length 0 a.1.length)),(6,(vi a.2))]) (fun a=>[(1,(eS 1 (DV.i .u8) a.1))]) (([]:List Int),56) (S_q1_b1 g) (fun a =>
.guard [a.1.length<2 ^ 63]<|
.frz 1 (.ev 0) none [5] []<|
.call (@F_q3_ok h) fun b c=>
.call (@F_q4_ok (((List.range a.1.length).map fun j=>UInt8.ofNat ((a.1.getD j dF)).toNat)++b)) fun f e=>
.guard [((List.range a.1.length).map fun j=>UInt8.ofNat ((a.1.getD j dF)).toNat).length+b.length<2 ^ 63]<|
.reg 6 [] [(3,hc c [] true),(5,hc e [] true)] [.pf (p:=∀ j,j<a.1.length->∃ k,(DV.i .u8 (a.1.getD j dF))=DV.i .u8 k) (fun _ _=>⟨_,rfl⟩),.cl 2 c [] 2 true,.ev 0,.cl 1 e [] 2 true]<|
.r f) id
def F_q1 (a:Int) (b:TWa):=(S_q1 a b).den
theorem F_q1_ok {a:Int} {b:TWa}:FO (F_q1 a b) 46 [(AV.d (DV.i .u64 a)),(TWa.d b)] [] (fun x=>(AV.d (DV.i .u64 x))) NL:=fO (s:=S_q1 a b) Tryz.func46
def S_q1k (f:(List Int)) (b:TWa) (p:Bool):SC (TWa×Int) (TWa×Int) :=
.a 1 1 2 (@F_q0_ok b) fun l=>
 let d:=(⟨0,0,[],0,0,0,0,0,0,0,0,0,0,0⟩:TWa)
.ite (!l) (
.r (d,1)) (
.cut none [0,2,4,6] (fun (c:Int)=>[(8,(vi c))]) (fun _=>[]) (
 let g:=(i64.wrap (2 * (i64.wrap (b.G-1))))
.ite p (
.r (.next (i64.wrap (g+1)))) (
.r (.next g))) fun c=>
.ite (decide (c>=(f.length:Int))) (
.r (d,6)) (
 let h:=(f.getD c.toNat dF)
.ite (!p) (
.call (@F_q1_ok h b) fun m i=>
.guard [(0:Int)<=c,c.toNat<f.length]<|
.reg 9 [7] [(5,hc i [] true)] [.ev 0,.ev 1,.cl 2 i [] 2 true]<|
.r ((⟨b.H,b.G,b.K,b.O,b.A,b.M,b.E,b.C,b.J,b.Q,b.N,b.T,m,b.R⟩:TWa),0)) (
 let e:=(i64.wrap (c-1))
.call (@F_q1_ok (f.getD e.toNat dF) b) fun n j=>
.guard [(0:Int)<=e,e.toNat<f.length]<|
.reg 11 [] [(6,hc j [] true)] [.ev 0,.ev 1,.cl 2 j [] 2 true]<|
.ite (n != b.P) (
.r (d,18)) (
.call (@F_q1_ok h b) fun o k=>
.guard [(0:Int)<=c,c.toNat<f.length]<|
.reg 13 [7] [(5,hc k [] true)] [.ev 0,.ev 1,.cl 2 k [] 2 true]<|
.r ((⟨b.H,b.G,b.K,b.O,b.A,b.M,b.E,b.C,b.J,b.Q,b.N,b.T,b.P,o⟩:TWa),0)))))
def F_q1k (a:(List Int)) (b:TWa) (c:Bool):=(S_q1k a b c).den
theorem F_q1k_ok {a:(List Int)} {b:TWa} {c:Bool}:FO (F_q1k a b c) 26 [(AV.d (eL (DV.i .u64) a)),(TWa.d b),(vb c)] [] (fun x=>(AV.tup [(TWa.d x.1),(vi x.2)])) NL:=fO (s:=S_q1k a b c) Tryz.func26
abbrev R_qf:=TWa×TTape
def S_qf_b1 (e:(List Int)) (b:TWa×Int):SC R_qf (Step (TWa×Int) R_qf) :=
.ite (decide (b.2<2)) (
.a 5 4 3 (@F_q1k_ok e b.1 (b.2==1)) fun c=>
 let d:=(i64.wrap (b.2+1))
.ite (c.2==0) (
.r (.cont (c.1,d))) (
.r (.cont (b.1,d)))) (
.r (.brk (b.1,b.2)))
def S_qf (z:(List Int)) (A:TTape):SC R_qf R_qf :=
.call (@F_qd_ok 1 60 A) fun k l=>
.call (@F_qd_ok 1 3 k.2) fun m n=>
.call (@F_q1i_ok m.2) fun o p=>
.call (@F_qd_ok 1 5 o.2) fun q s=>
.call (@F_qd_ok 1 2 q.2) fun t u=>
.call (@F_qd_ok 1 4 t.2) fun v w=>
.call (@F_qd_ok 1 3 v.2) fun x y=>
.call (@F_qd_ok 1 500 x.2) fun c d=>
.call (@F_qd_ok 1 4 c.2) fun e f=>
.call (@F_qp_ok 300 e.2) fun g h=>
.call (@F_qp_ok 400 g.2) fun i j=>
.reg 1 [] [(1,hc l [0] false),(3,hc n [0] false),(5,hc p [0] false),(7,hc s [0] false),(9,hc u [0] false),(11,hc w [0] false),(13,hc y [0] false),(15,hc d [0] false),(17,hc f [0] false),(19,hc h [0] false),(22,hc j [0] false)] [.cl 10 l [0] 2 false,.cl 9 n [0] 2 false,.cl 8 p [0] 2 false,.cl 7 s [0] 2 false,.cl 6 u [0] 2 false,.cl 5 w [0] 2 false,.cl 4 y [0] 2 false,.cl 3 d [0] 2 false,.cl 2 f [0] 2 false,.cl 1 h [0] 2 false,.cl 0 j [0] 2 false]<|
.iter [1,4,5] (fun (a:TWa×Int)=>[(6,(vi a.2))]) (fun a=>[(2,(TWa.b a.1))]) ((⟨k.1,m.1,o.1,12,q.1,t.1,v.1,x.1,c.1,e.1,(i64.wrap (4320+g.1)),(i64.wrap (4320+i.1)),0,0⟩:TWa),0) (S_qf_b1 z) (fun a =>
.r (a.1,i.2)) id
def F_qf (a:(List Int)) (b:TTape):=(S_qf a b).den
theorem F_qf_ok {a:(List Int)} {c:TTape}:FO (F_qf a c) 7 [(vp 0),(AV.d (eL (DV.i .u64) a))] [(TTape.b c)] (fun x=>(TWa.d x.1)) (fun x=>[(TTape.b x.2)]):=fO (s:=S_qf a c) Tryz.func7
def S_ql (a:Int) (b:Int) (c:Int):SC Bool Bool :=
.r (bif (decide (a>=b)) then (decide (a<=c)) else false)
def F_ql (a:Int) (b:Int) (c:Int):=(S_ql a b c).den
theorem F_ql_ok {a:Int} {b:Int} {c:Int}:FO (F_ql a b c) 50 [(vi a),(vi b),(vi c)] [] vb NL:=fO (s:=S_ql a b c) Tryz.func50
def S_q14 (c:Int):SC Bool Bool :=
.a 1 1 0 (@F_ql_ok c 1 1000000) fun b=>
.r b
def F_q14 (a:Int):=(S_q14 a).den
theorem F_q14_ok {a:Int}:FO (F_q14 a) 49 [(vi a)] [] vb NL:=fO (s:=S_q14 a) Tryz.func49
def S_q15 (c:Int):SC Bool Bool :=
.a 1 1 0 (@F_ql_ok c 0 35990) fun b=>
.r b
def F_q15 (a:Int):=(S_q15 a).den
theorem F_q15_ok {a:Int}:FO (F_q15 a) 52 [(vi a)] [] vb NL:=fO (s:=S_q15 a) Tryz.func52
def S_q5_b1 (b:TWa) (c:Nat) (_:Unit):SC Bool (Step Unit Bool) :=
.reg 3 [] [] [.w c,.ev 0]<|
.a 4 1 1 (@F_q14_ok (([b.H,b.C,b.E,b.A,b.M,b.Q]:List Int).getD c dF)) fun d=>
.ite (!d) (
.r (.ret false)) (
.r (.cont ()))
def S_q5 (a:TWa):SC Bool Bool :=
 let g:=([a.H,a.C,a.E,a.A,a.M,a.Q]:List Int)
.reg 1 [] [(12,hv (vl g))] [.pf (zu (DV.i .i64) g)]<|
.range 6 6 rfl (.why (.pf (p:=6<2 ^ 63) dk)) 19 [1,17,18] (fun (_:Unit)=>[]) (fun _=>[]) () (S_q5_b1 a) (fun _ => 
.call (@F_ql_ok a.G 1 6) fun b h=>
.calld [b=true] dF (@F_q2d_ok a.K) fun o j =>
 let c:=(bif b then (decide ((o.length:Int)>0)) else false)
.calld [c=true] dF (@F_ql_ok a.O 0 99) fun q k =>
 let d:=(bif c then q else false)
.calld [d=true] dF (@F_ql_ok a.J 1 1000000000000) fun s l =>
 let e:=(bif d then s else false)
.calld [e=true] dF (@F_q15_ok a.N) fun t m =>
 let f:=(bif e then t else false)
.calld [f=true] dF (@F_q15_ok a.T) fun u n =>
.reg 7 [] [(2,hc h [] true),(6,hc j [] true),(13,hc k [] true),(18,hc l [] true),(23,hc m [] true),(28,hc n [] true)] [.cl 10 h [] 1 true,.clg 8 [b=true] j [] 1 true,.clg 6 [c=true] k [] 1 true,.clg 4 [d=true] l [] 1 true,.clg 2 [e=true] m [] 1 true,.clg 0 [f=true] n [] 1 true]<|
.r (bif f then u else false)) id
def F_q5 (a:TWa):=(S_q5 a).den
theorem F_q5_ok {a:TWa}:FO (F_q5 a) 19 [(TWa.d a)] [] vb NL:=fO (s:=S_q5 a) Tryz.func19
abbrev R_q7:=Y8
def S_q7_b1 (f:TWa) (g:Nat) (a:(List Y8)):SC R_q7 (Step ((List Y8)) R_q7) :=
.reg 6 [] [] [.w g,.ev 0]<|
.call (@F_q2a_ok (([f.O,f.C,f.E,f.A,f.M,f.J,f.Q,f.N,f.T]:List Int).getD g dF)) fun j i=>
.guard [(a.length+1) * (2 * 16)<=2 ^ 48]<|
 let b:=([j]:List Y8)
.reg 7 [] [(2,hc i [] true),(3,hv (AV.d (eL DV.str b))),(4,{ h:=.obj,cast:=some (AV.ref 1 ((a++b).length) 0 ((a++b).length)),obs:=[(1,(eS 1 DV.str (a++b)))] })] [.cl 1 i [] 2 true,.pf (zu DV.str b),.e a.length,.e a.length,.pf (p:=∀ k,k<1->(AV.d (DV.str (b.getD k dF))).wd=1) (fun _ _=>rfl),.ev 0,.pf (z68 (o:=1) (l:=a) (x:=b)),.pf (z67 (sz:=1) (e:=DV.str) (l:=a) (x:=b))]<|
.c (a++b)
def S_q7 (c:TWa):SC R_q7 R_q7 :=
.a 1 1 1 (@F_q5_ok c) fun k=>
.ite (!k) (
.r ([])) (
.call (@F_q2a_ok c.H) fun m f=>
.call (@F_q2a_ok c.G) fun n g=>
 let d:=([[119,97,114,114,97,110,116],m,n,c.K]:List Y8)
.reg 3 [8] [(2,hc f [] true),(5,hc g [] true),(8,{ h:=.obj,obs:=[(1,(eS 1 DV.str d))] })] [.cl 1 f [] 1 true,.cl 0 g [] 1 true,.pf (zgz (sz:=1) (e:=DV.str) (l:=d))]<|
 let j:=([c.O,c.C,c.E,c.A,c.M,c.J,c.Q,c.N,c.T]:List Int)
.reg 4 [] [(18,hv (vl j))] [.pf (zu (DV.i .i64) j)]<|
.range 9 9 rfl (.why (.pf (p:=9<2 ^ 63) dk)) 38 [36,37] (fun (b:(List Y8))=>[(3,(AV.ref 1 b.length 0 b.length))]) (fun b=>[(1,(eS 1 DV.str b))]) d (S_q7_b1 c) (fun b => 
.guard [b.length<2 ^ 63]<|
.frz 1 (.ev 0) none [3] []<|
.a 9 1 2 (@F_q2f_ok b ([32])) fun o=>
.r o) id)
def F_q7 (a:TWa):=(S_q7 a).den
theorem F_q7_ok {a:TWa}:FO (F_q7 a) 21 [(TWa.d a)] [] (fun x=>(AV.d (DV.str x))) NL:=fO (s:=S_q7 a) Tryz.func21
def S_q6_b1 (d:Y8) (a:Nat) (b:Int):SC Int (Step Int Int) :=
.reg 5 [] [] [.w a,.ev 0]<|
.c (IntKind.u64.wrap ((IntKind.u64.wrap ((BitVec.ofInt IntKind.u64.bits b ^^^ BitVec.ofInt IntKind.u64.bits (IntKind.u64.wrap ((d.getD a 0).toNat:Int))).toNat:Int)) * 1099511628211))
def S_q6 (b:Y8):SC Int Int :=
.guard [b.length<2 ^ 63]<|
.range (b.length:Int) b.length rfl (.why (.ev 0)) 7 [0,6] (fun (a:Int)=>[(3,(AV.d (DV.i .u64 a)))]) (fun _=>[]) 14695981039346656037 (S_q6_b1 b) (fun a => 
.r a) id
def F_q6 (a:Y8):=(S_q6 a).den
theorem F_q6_ok {a:Y8}:FO (F_q6 a) 37 [(AV.d (DV.str a))] [] (fun x=>(AV.d (DV.i .u64 x))) NL:=fO (s:=S_q6 a) Tryz.func37
def S_q9_b1 (h:Int) (a:Nat) (b:(Nat->Int)):SC Int (Step ((Nat->Int)) Int) :=
 let f:=(i64.wrap (56-(i64.wrap (8 * (a:Int)))))
.guard [(0:Int)<=f]<|
 let d:=(IntKind.u8.wrap (h.fdiv (2 ^ (min f.toNat IntKind.u64.bits))))
.reg 5 [] [(8,{ obs:=[(1,(bx (eA 1 8 (DV.i .u8) (fun j=>if j=a then d else b j))))] })] [.ev 0,.w a,.ev 1,.ev 1,.pf (p:=OLe (bx (DV.arr 1 8 fun j=>if j=a then (DV.i .u8 d) else (DV.i .u8) (b j))) (bx (eA 1 8 (DV.i .u8) (fun j=>if j=a then d else b j)))) (z35 (z2w (e:=(DV.i .u8)) (i:=a) (x:=d) (g:=b)))]<|
.c (fun j=>if j=a then d else b j)
def S_q9 (m:Int) (n:TWa):SC Int Int :=
.range 8 8 rfl (.why (.pf (p:=8<2 ^ 63) dk)) 7 [0,3,5] (fun (_:(Nat->Int))=>[]) (fun a=>[(1,(bx (eA 1 8 (DV.i .u8) a)))]) (fun j=>0) (S_q9_b1 m) (fun a => 
 let e:=(0,(AV.d (DV.i .u64 m)))
 let c:=(TWa.b n)
.sh (H:=FbH 1 (eA 1 8 (DV.i .u8) a)) (A:=True) (.pf trivial) [e,(3,(vp 0)),(5,(vp 1))] [e,(3,(vp 0)),(5,(AV.imm (eA 1 8 (DV.i .u8) a)))] [c,(bx (eA 1 8 (DV.i .u8) a))] [c,Ob.dead] (fun _=>z97 (P:=[c]) (D:=[]) rfl) (z26 (k:=0) rfl (TrS.keep _) (z26 (k:=1) rfl (TrS.keep _) (z26 (k:=2) rfl TrS.fb z3p)))<|
.call (@F_q7_ok n) fun f g=>
.call (@F_q6_ok (((List.range 8).map fun j=>UInt8.ofNat ((a j)).toNat)++f)) fun l h=>
.guard [((List.range 8).map fun j=>UInt8.ofNat ((a j)).toNat).length+f.length<2 ^ 63]<|
.reg 7 [] [(3,hc g [] true),(5,hc h [] true)] [.pf (p:=8=8) rfl,.pf (p:=8<2 ^ 63) dk,.pf (p:=∀ j,j<8->∃ k,(DV.i .u8 (a j))=DV.i .u8 k) (fun _ _=>⟨_,rfl⟩),.cl 2 g [] 2 true,.ev 0,.cl 1 h [] 2 true]<|
.r l) id
def F_q9 (a:Int) (b:TWa):=(S_q9 a b).den
theorem F_q9_ok {a:Int} {b:TWa}:FO (F_q9 a b) 41 [(AV.d (DV.i .u64 a)),(TWa.d b)] [] (fun x=>(AV.d (DV.i .u64 x))) NL:=fO (s:=S_q9 a b) Tryz.func41
def S_qa (e:(List Int)) (b:TWa) (o:Bool):SC (TWa×Int) (TWa×Int) :=
.a 1 1 2 (@F_q5_ok b) fun k=>
 let f:=(⟨0,0,[],0,0,0,0,0,0,0,0,0,0,0⟩:TWa)
.ite (!k) (
.r (f,1)) (
 let c:=(i64.wrap (2 * (i64.wrap (b.G-1))))
 let g:=(e.getD c.toNat dF)
.ite (bif (!o) then (decide (c<(e.length:Int))) else false) (
.call (@F_q9_ok g b) fun l h=>
.guard [(0:Int)<=c,c.toNat<e.length]<|
.reg 5 [7] [(5,hc h [] true)] [.ev 0,.ev 1,.cl 2 h [] 2 true]<|
.r ((⟨b.H,b.G,b.K,b.O,b.A,b.M,b.E,b.C,b.J,b.Q,b.N,b.T,l,b.R⟩:TWa),0)) (
 let d:=(i64.wrap (c+1))
.ite (decide (d>=(e.length:Int))) (
.r (f,6)) (
.call (@F_q9_ok g b) fun m i=>
.guard [(0:Int)<=c,c.toNat<e.length]<|
.reg 9 [] [(7,hc i [] true)] [.ev 0,.ev 1,.cl 2 i [] 2 true]<|
.ite (b.P != m) (
.r (f,18)) (
.call (@F_q9_ok (e.getD d.toNat dF) b) fun n j=>
.guard [(0:Int)<=d,d.toNat<e.length]<|
.reg 11 [8] [(6,hc j [] true)] [.ev 0,.ev 1,.cl 2 j [] 2 true]<|
.r ((⟨b.H,b.G,b.K,b.O,b.A,b.M,b.E,b.C,b.J,b.Q,b.N,b.T,b.P,n⟩:TWa),0)))))
def F_qa (a:(List Int)) (b:TWa) (c:Bool):=(S_qa a b c).den
theorem F_qa_ok {a:(List Int)} {b:TWa} {c:Bool}:FO (F_qa a b c) 8 [(AV.d (eL (DV.i .u64) a)),(TWa.d b),(vb c)] [] (fun x=>(AV.tup [(TWa.d x.1),(vi x.2)])) NL:=fO (s:=S_qa a b c) Tryz.func8
def S_q1l (a:Int):SC Bool Bool :=
.r ((i64.wrap ((BitVec.ofInt i64.bits a &&& BitVec.ofInt i64.bits (i64.wrap (a-1))).toNat:Int))==0)
def F_q1l (a:Int):=(S_q1l a).den
theorem F_q1l_ok {a:Int}:FO (F_q1l a) 197 [(vi a)] [] vb NL:=fO (s:=S_q1l a) Tryz.func197
abbrev R_q8:=(List Int)×Y8
def S_q8_b1 (h:Int) (f:Int) (a:(Nat->Int)×Int×Int):SC R_q8 (Step ((Nat->Int)×Int×Int) R_q8) :=
.ite (decide (a.2.1>=(IntKind.u64.wrap h))) (
 let d:=(IntKind.u64.wrap ((BitVec.ofInt IntKind.u64.bits a.2.1 &&& BitVec.ofInt IntKind.u64.bits (IntKind.u64.wrap ((IntKind.u64.wrap h)-1))).toNat:Int))
 let b:=(i64.wrap (a.2.2-1))
.guard [(0:Int)<=d,d.toNat<zk.length,(0:Int)<=b,b.toNat<65]<|
 let c:=((zk.getD d.toNat 0).toNat:Int)
.reg 13 [] [(6,{ obs:=[(0,(bx (eA 1 65 (DV.i .u8) (fun j=>if j=b.toNat then c else a.1 j))))] })] [.ev 0,.ev 1,.ev 2,.ev 3,.ev 3,.pf (p:=OLe (bx (DV.arr 1 65 fun j=>if j=b.toNat then (DV.i .u8 c) else (DV.i .u8) (a.1 j))) (bx (eA 1 65 (DV.i .u8) (fun j=>if j=b.toNat then c else a.1 j)))) (z35 (z2w (e:=(DV.i .u8)) (i:=b.toNat) (x:=c) (g:=a.1)))]<|
.guard [(0:Int)<=(IntKind.u64.wrap f)]<|
.reg 14 [] [] [.ev 0]<|
.r (.cont ((fun j=>if j=b.toNat then c else a.1 j),(a.2.1.fdiv (2 ^ (min (IntKind.u64.wrap f).toNat IntKind.u64.bits))),b))) (
.r (.brk (a.1,a.2.1,a.2.2)))
def S_q8_b2 (k:Int) (a:(Nat->Int)×Int×Int):SC R_q8 (Step ((Nat->Int)×Int×Int) R_q8) :=
 let d:=(IntKind.u64.wrap k)
.ite (decide (a.2.1>=d)) (
.guard [(d:Int)≠0]<|
.reg 20 [] [] [.ev 0]<|
 let h:=(IntKind.u64.wrap (a.2.1.tdiv d))
 let f:=(IntKind.u64.wrap (a.2.1-(IntKind.u64.wrap (h * d))))
 let b:=(i64.wrap (a.2.2-1))
.guard [(0:Int)<=f,f.toNat<zk.length,(0:Int)<=b,b.toNat<65]<|
 let c:=((zk.getD f.toNat 0).toNat:Int)
.reg 21 [] [(8,{ obs:=[(0,(bx (eA 1 65 (DV.i .u8) (fun j=>if j=b.toNat then c else a.1 j))))] })] [.ev 0,.ev 1,.ev 2,.ev 3,.ev 3,.pf (p:=OLe (bx (DV.arr 1 65 fun j=>if j=b.toNat then (DV.i .u8 c) else (DV.i .u8) (a.1 j))) (bx (eA 1 65 (DV.i .u8) (fun j=>if j=b.toNat then c else a.1 j)))) (z35 (z2w (e:=(DV.i .u8)) (i:=b.toNat) (x:=c) (g:=a.1)))]<|
.r (.cont ((fun j=>if j=b.toNat then c else a.1 j),h,b))) (
.r (.brk (a.1,a.2.1,a.2.2)))
def S_q8 (B:(List Int)) (z:Int) (s:Int) (C:Bool) (v:Bool):SC R_q8 R_q8 :=
.guard [(cO (cO (decide (s<2)) (s==10)) (decide (s>36)))=false]<|
.br false (.ev 0)<|
.guard [C=false]<|
.br false (.ev 0)<|
.a 7 1 1 (@F_q1l_ok s) fun w=>
.cut none [0,3,4,10,11,12] (fun (c:(Nat->Int)×Int)=>[(13,(vi c.2))]) (fun c=>[(0,(bx (eA 1 65 (DV.i .u8) c.1)))]) (
.ite w (
.a 8 2 1 (@F_q2e_ok (IntKind.u64.wrap s)) fun y=>
.iter [0,3,4,10,11,12,14,15,16] (fun (f:(Nat->Int)×Int×Int)=>[(1,(AV.d (DV.i .u64 f.2.1))),(13,(vi f.2.2))]) (fun f=>[(0,(bx (eA 1 65 (DV.i .u8) f.1)))]) ((fun j=>0),z,65) (S_q8_b1 s y) (fun f =>
 let l:=(i64.wrap (f.2.2-1))
.guard [(0:Int)<=f.2.1,f.2.1.toNat<zk.length,(0:Int)<=l,l.toNat<65]<|
 let n:=((zk.getD f.2.1.toNat 0).toNat:Int)
.reg 16 [] [(4,{ obs:=[(0,(bx (eA 1 65 (DV.i .u8) (fun j=>if j=l.toNat then n else f.1 j))))] })] [.ev 0,.ev 1,.ev 2,.ev 3,.ev 3,.pf (p:=OLe (bx (DV.arr 1 65 fun j=>if j=l.toNat then (DV.i .u8 n) else (DV.i .u8) (f.1 j))) (bx (eA 1 65 (DV.i .u8) (fun j=>if j=l.toNat then n else f.1 j)))) (z35 (z2w (e:=(DV.i .u8)) (i:=l.toNat) (x:=n) (g:=f.1)))]<|
.r (.next ((fun j=>if j=l.toNat then n else f.1 j),l))) .ret) (
.iter [0,3,4,10,11,12,17] (fun (h:(Nat->Int)×Int×Int)=>[(1,(AV.d (DV.i .u64 h.2.1))),(13,(vi h.2.2))]) (fun h=>[(0,(bx (eA 1 65 (DV.i .u8) h.1)))]) ((fun j=>0),z,65) (S_q8_b2 s) (fun h =>
 let m:=(i64.wrap (h.2.2-1))
.guard [(0:Int)<=h.2.1,h.2.1.toNat<zk.length,(0:Int)<=m,m.toNat<65]<|
 let o:=((zk.getD h.2.1.toNat 0).toNat:Int)
.reg 24 [] [(4,{ obs:=[(0,(bx (eA 1 65 (DV.i .u8) (fun j=>if j=m.toNat then o else h.1 j))))] })] [.ev 0,.ev 1,.ev 2,.ev 3,.ev 3,.pf (p:=OLe (bx (DV.arr 1 65 fun j=>if j=m.toNat then (DV.i .u8 o) else (DV.i .u8) (h.1 j))) (bx (eA 1 65 (DV.i .u8) (fun j=>if j=m.toNat then o else h.1 j)))) (z35 (z2w (e:=(DV.i .u8)) (i:=m.toNat) (x:=o) (g:=h.1)))]<|
.r (.next ((fun j=>if j=m.toNat then o else h.1 j),m))) .ret)) fun c=>
.br false (.ev 1)<|
.guard [v=false]<|
.br false (.ev 0)<|
 let t:=(AV.full 0 fun _=>DV.b false)
 let u:=(0,(AV.d (eL (DV.i .u8) B)))
.sh (H:=FbH 0 (eA 1 65 (DV.i .u8) c.1)) (A:=True) (.pf trivial) [u,(10,t),(11,(AV.d (DV.str ([])))),(12,(vp 0)),(13,(vi c.2)),(94,(vb v))] [u,(10,t),(11,(AV.d (DV.str ([])))),(12,(AV.imm (eA 1 65 (DV.i .u8) c.1))),(13,(vi c.2)),(94,(vb v))] [(bx (eA 1 65 (DV.i .u8) c.1))] [Ob.dead] (fun _=>z97 (P:=[]) (D:=[]) rfl) (z26 (k:=0) rfl (TrS.keep _) (z26 (k:=1) rfl (TrS.keep _) (z26 (k:=2) rfl (TrS.keep _) (z26 (k:=3) rfl TrS.fb (z26 (k:=4) rfl (TrS.keep _) (z26 (k:=5) rfl (TrS.keep _) z3p))))))<|
.guard [(0:Int)<=c.2,c.2.toNat<65]<|
 let q:=(65-c.2.toNat)
.reg 30 [] [] [.pf (p:=65=65) rfl,.pf (p:=65<2 ^ 63) dk,.ev 0,.ev 1,.pf (p:=∀ j,j<q->∃ k,(DV.i .u8 (c.1 (c.2.toNat+j)))=DV.i .u8 k) (fun _ _=>⟨_,rfl⟩)]<|
.ret [.pf (p:=LeV (AV.tup [t,(AV.d (DV.str ((List.range q).map fun j=>UInt8.ofNat ((c.1 (c.2.toNat+j))).toNat)))]) (AV.tup [(AV.d (eL (DV.i .u8) ([]))),(AV.d (DV.str ((List.range q).map fun j=>UInt8.ofNat ((c.1 (c.2.toNat+j))).toNat)))])) (LeV.tup (LeVs.cons (lvN (DV.i .u8)) (LeVs.cons (LeV.refl _) LeVs.nil)))] ([],((List.range q).map fun j=>UInt8.ofNat ((c.1 (c.2.toNat+j))).toNat))
def F_q8 (a:(List Int)) (b:Int) (c:Int) (d:Bool) (e:Bool):=(S_q8 a b c d e).den
theorem F_q8_ok {a:(List Int)} {b:Int} {c:Int} {e:Bool} {f:Bool}:FO (F_q8 a b c e f) 165 [(AV.d (eL (DV.i .u8) a)),(AV.d (DV.i .u64 b)),(vi c),(vb e),(vb f)] [] (fun x=>(AV.tup [(AV.d (eL (DV.i .u8) x.1)),(AV.d (DV.str x.2))])) NL:=fO (s:=S_q8 a b c e f) Tryz.func165
def S_q23 (d:Int) (c:Int):SC Y8 Y8 :=
.guard [(c==10)=false]<|
.br false (.ev 0)<|
.a 8 2 0 (@F_q8_ok ([]) d c false false) fun b=>
.r b.2
def F_q23 (a:Int) (b:Int):=(S_q23 a b).den
theorem F_q23_ok {a:Int} {b:Int}:FO (F_q23 a b) 118 [(AV.d (DV.i .u64 a)),(vi b)] [] (fun x=>(AV.d (DV.str x))) NL:=fO (s:=S_q23 a b) Tryz.func118
def S_q1m (c:Int) (d:Int):SC Y8 Y8 :=
.a 1 2 0 (@F_q23_ok c d) fun b=>
.r b
def F_q1m (a:Int) (b:Int):=(S_q1m a b).den
theorem F_q1m_ok {a:Int} {b:Int}:FO (F_q1m a b) 76 [(AV.d (DV.i .u64 a)),(vi b)] [] (fun x=>(AV.d (DV.str x))) NL:=fO (s:=S_q1m a b) Tryz.func76
def S_q16 (e:Int):SC Y8 Y8 :=
.a 1 1 0 (@F_q1m_ok e 16) fun b=>
.call (@F_q2g_ok ([48]) (i64.wrap (16-(b.length:Int)))) fun c d=>
.guard [c.length+b.length<2 ^ 63]<|
.reg 2 [] [(3,hc d [] true)] [.cl 1 d [] 0 true,.ev 0]<|
.r (c++b)
def F_q16 (a:Int):=(S_q16 a).den
theorem F_q16_ok {a:Int}:FO (F_q16 a) 45 [(AV.d (DV.i .u64 a))] [] (fun x=>(AV.d (DV.str x))) NL:=fO (s:=S_q16 a) Tryz.func45
def S_q17 (i:TWa):SC Y8 Y8 :=
.a 1 1 1 (@F_q5_ok i) fun j=>
.ite (!j) (
.r ([])) (
.call (@F_q7_ok i) fun b d=>
.call (@F_q16_ok i.P) fun e f=>
.call (@F_q16_ok i.R) fun g h=>
 let c:=((b++([32]))++e)
.guard [b.length+([32]).length<2 ^ 63,(b++([32])).length+e.length<2 ^ 63,c.length+([32]).length<2 ^ 63,(c++([32])).length+g.length<2 ^ 63]<|
.reg 3 [] [(1,hc d [] true),(5,hc f [] true),(10,hc h [] true)] [.cl 6 d [] 1 true,.ev 0,.cl 5 f [] 1 true,.ev 1,.ev 2,.cl 4 h [] 1 true,.ev 3]<|
.r ((c++([32]))++g))
def F_q17 (a:TWa):=(S_q17 a).den
theorem F_q17_ok {a:TWa}:FO (F_q17 a) 10 [(TWa.d a)] [] (fun x=>(AV.d (DV.str x))) NL:=fO (s:=S_q17 a) Tryz.func10
end
end Go.Proofs.YtiohhffifhaboaaGreatDoor
/- What the functions compute,and that their calls return it. No condition. -/
namespace Go.Proofs.YtiohhffifhaboaaGreatDoor
open Go Go.TA
open Go.IntKind (i64)
noncomputable section
set_option maxRecDepth 100000
def S_q1n (L:Y8):SC (TWa×Int) (TWa×Int) :=
.call (@F_q2b_ok L ([32])) fun b C=>
.k 1 1 C [] 1 false<|
.guard [b.length<2 ^ 63]<|
.frz 1 (.ev 0) none [4] []<|
 let j:=(⟨0,0,[],0,0,0,0,0,0,0,0,0,0,0⟩:TWa)
.ite ((b.length:Int) != 15) (
.r (j,4)) (
.guard [3<b.length]<|
.reg 4 [] [] [.pf (p:=(0:Int)<=3) dk,.ev 0]<|
.reg 5 [] [(11,{ h:=.obj })] []<|
.br true (.pf (p:=true=true) rfl)<|
.reg 8 [] [] [.e 13,.pf (p:=(0:Int)<=0) dk,.pf (p:=0<13) dk,.e 13,.pf (p:=(0+0)<13) dk]<|
.br false (.pf (p:=false=false) rfl)<|
.br true (.pf (p:=true=true) rfl)<|
.reg 8 [] [] [.e 13,.pf (p:=(0:Int)<=1) dk,.pf (p:=1<13) dk,.e 13,.pf (p:=(0+1)<13) dk]<|
.br true (.pf (p:=true=true) rfl)<|
.call (@F_q13_ok (b.getD 1 dF)) fun D l=>
.guard [1<b.length]<|
.reg 10 [] [(5,hc l [] true)] [.pf (p:=(0:Int)<=1) dk,.ev 0,.cl 1 l [] 4 true]<|
.br true (.pf (p:=true=true) rfl)<|
.reg 8 [] [] [.e 13,.pf (p:=(0:Int)<=2) dk,.pf (p:=2<13) dk,.e 13,.pf (p:=(0+2)<13) dk]<|
.br true (.pf (p:=true=true) rfl)<|
.call (@F_q13_ok (b.getD 2 dF)) fun E m=>
.guard [2<b.length]<|
.reg 10 [] [(5,hc m [] true)] [.pf (p:=(0:Int)<=2) dk,.ev 0,.cl 1 m [] 4 true]<|
.br true (.pf (p:=true=true) rfl)<|
.reg 8 [] [] [.e 13,.pf (p:=(0:Int)<=3) dk,.pf (p:=3<13) dk,.e 13,.pf (p:=(0+3)<13) dk]<|
.br false (.pf (p:=false=false) rfl)<|
.br true (.pf (p:=true=true) rfl)<|
.reg 8 [] [] [.e 13,.pf (p:=(0:Int)<=4) dk,.pf (p:=4<13) dk,.e 13,.pf (p:=(0+4)<13) dk]<|
.br true (.pf (p:=true=true) rfl)<|
.call (@F_q13_ok (b.getD 4 dF)) fun F n=>
.guard [4<b.length]<|
.reg 10 [] [(5,hc n [] true)] [.pf (p:=(0:Int)<=4) dk,.ev 0,.cl 1 n [] 4 true]<|
.br true (.pf (p:=true=true) rfl)<|
.reg 8 [] [] [.e 13,.pf (p:=(0:Int)<=5) dk,.pf (p:=5<13) dk,.e 13,.pf (p:=(0+5)<13) dk]<|
.br true (.pf (p:=true=true) rfl)<|
.call (@F_q13_ok (b.getD 5 dF)) fun G o=>
.guard [5<b.length]<|
.reg 10 [] [(5,hc o [] true)] [.pf (p:=(0:Int)<=5) dk,.ev 0,.cl 1 o [] 4 true]<|
.br true (.pf (p:=true=true) rfl)<|
.reg 8 [] [] [.e 13,.pf (p:=(0:Int)<=6) dk,.pf (p:=6<13) dk,.e 13,.pf (p:=(0+6)<13) dk]<|
.br true (.pf (p:=true=true) rfl)<|
.call (@F_q13_ok (b.getD 6 dF)) fun H q=>
.guard [6<b.length]<|
.reg 10 [] [(5,hc q [] true)] [.pf (p:=(0:Int)<=6) dk,.ev 0,.cl 1 q [] 4 true]<|
.br true (.pf (p:=true=true) rfl)<|
.reg 8 [] [] [.e 13,.pf (p:=(0:Int)<=7) dk,.pf (p:=7<13) dk,.e 13,.pf (p:=(0+7)<13) dk]<|
.br true (.pf (p:=true=true) rfl)<|
.call (@F_q13_ok (b.getD 7 dF)) fun I s=>
.guard [7<b.length]<|
.reg 10 [] [(5,hc s [] true)] [.pf (p:=(0:Int)<=7) dk,.ev 0,.cl 1 s [] 4 true]<|
.br true (.pf (p:=true=true) rfl)<|
.reg 8 [] [] [.e 13,.pf (p:=(0:Int)<=8) dk,.pf (p:=8<13) dk,.e 13,.pf (p:=(0+8)<13) dk]<|
.br true (.pf (p:=true=true) rfl)<|
.call (@F_q13_ok (b.getD 8 dF)) fun J t=>
.guard [8<b.length]<|
.reg 10 [] [(5,hc t [] true)] [.pf (p:=(0:Int)<=8) dk,.ev 0,.cl 1 t [] 4 true]<|
.br true (.pf (p:=true=true) rfl)<|
.reg 8 [] [] [.e 13,.pf (p:=(0:Int)<=9) dk,.pf (p:=9<13) dk,.e 13,.pf (p:=(0+9)<13) dk]<|
.br true (.pf (p:=true=true) rfl)<|
.call (@F_q13_ok (b.getD 9 dF)) fun K u=>
.guard [9<b.length]<|
.reg 10 [] [(5,hc u [] true)] [.pf (p:=(0:Int)<=9) dk,.ev 0,.cl 1 u [] 4 true]<|
.br true (.pf (p:=true=true) rfl)<|
.reg 8 [] [] [.e 13,.pf (p:=(0:Int)<=10) dk,.pf (p:=10<13) dk,.e 13,.pf (p:=(0+10)<13) dk]<|
.br true (.pf (p:=true=true) rfl)<|
.call (@F_q13_ok (b.getD 10 dF)) fun v c=>
.guard [10<b.length]<|
.reg 10 [] [(5,hc c [] true)] [.pf (p:=(0:Int)<=10) dk,.ev 0,.cl 1 c [] 4 true]<|
.br true (.pf (p:=true=true) rfl)<|
.reg 8 [] [] [.e 13,.pf (p:=(0:Int)<=11) dk,.pf (p:=11<13) dk,.e 13,.pf (p:=(0+11)<13) dk]<|
.br true (.pf (p:=true=true) rfl)<|
.call (@F_q13_ok (b.getD 11 dF)) fun w d=>
.guard [11<b.length]<|
.reg 10 [] [(5,hc d [] true)] [.pf (p:=(0:Int)<=11) dk,.ev 0,.cl 1 d [] 4 true]<|
.br true (.pf (p:=true=true) rfl)<|
.reg 8 [] [] [.e 13,.pf (p:=(0:Int)<=12) dk,.pf (p:=12<13) dk,.e 13,.pf (p:=(0+12)<13) dk]<|
.br true (.pf (p:=true=true) rfl)<|
.call (@F_q13_ok (b.getD 12 dF)) fun x f=>
.guard [12<b.length]<|
.reg 10 [] [(5,hc f [] true)] [.pf (p:=(0:Int)<=12) dk,.ev 0,.cl 1 f [] 4 true]<|
.br false (.pf (p:=false=false) rfl)<|
.call (@F_q2c_ok (b.getD 13 dF) 16 64) fun y g=>
.guard [13<b.length]<|
.reg 12 [] [(3,hc g [] true)] [.pf (p:=(0:Int)<=13) dk,.ev 0,.cl 1 g [] 4 true]<|
.call (@F_q2c_ok (b.getD 14 dF) 16 64) fun z i=>
.guard [14<b.length]<|
.reg 13 [] [(3,hc i [] true)] [.pf (p:=(0:Int)<=14) dk,.ev 0,.cl 1 i [] 4 true]<|
 let A:=(⟨D.1,E.1,(b.getD 3 dF),F.1,I.1,J.1,H.1,G.1,K.1,v.1,w.1,x.1,y.1,z.1⟩:TWa)
.a 14 1 4 (@F_q17_ok A) fun B=>
.ite (!(B==L)) (
.r (j,4)) (
.r (A,0)))
def F_q1n (a:Y8):=(S_q1n a).den
theorem F_q1n_ok {a:Y8}:FO (F_q1n a) 9 [(AV.d (DV.str a))] [] (fun x=>(AV.tup [(TWa.d x.1),(vi x.2)])) NL:=fO (s:=S_q1n a) Tryz.func9
def S_qg (d:(List Int)) (c:TWa):SC Int Int :=
.a 1 2 1 (@F_qa_ok d c true) fun b=>
.ite (bif (b.2==0) then (b.1.R != c.R) else false) (
.r 18) (
.r b.2)
def F_qg (a:(List Int)) (b:TWa):=(S_qg a b).den
theorem F_qg_ok {a:(List Int)} {b:TWa}:FO (F_qg a b) 11 [(AV.d (eL (DV.i .u64) a)),(TWa.d b)] [] vi NL:=fO (s:=S_qg a b) Tryz.func11
def S_q18 (f:(List Int)) (e:TWa):SC Int Int :=
.a 1 1 1 (@F_q0_ok e) fun i=>
.ite (!i) (
.r 1) (
 let c:=(i64.wrap (2 * (i64.wrap (e.G-1))))
 let d:=(i64.wrap (c+1))
.ite (decide (d>=(f.length:Int))) (
.r 6) (
.call (@F_q1_ok (f.getD c.toNat dF) e) fun j g=>
 let b:=(j != e.P)
.calld [b=false] dF (@F_q1_ok (f.getD d.toNat dF) e) fun k h =>
.guard [(0:Int)<=c,c.toNat<f.length,AllP [b=false]->((0:Int)<=d),AllP [b=false]->(d.toNat<f.length)]<|
.reg 6 [] [(5,hc g [] true),(16,hc h [] true)] [.ev 0,.ev 1,.cl 6 g [] 1 true,.ev 2,.ev 3,.clg 4 [b=false] h [] 1 true]<|
.ite (cO b (k != e.R)) (
.r 18) (
.r 0)))
def F_q18 (a:(List Int)) (b:TWa):=(S_q18 a b).den
theorem F_q18_ok {a:(List Int)} {b:TWa}:FO (F_q18 a b) 12 [(AV.d (eL (DV.i .u64) a)),(TWa.d b)] [] vi NL:=fO (s:=S_q18 a b) Tryz.func12
def S_qb (a:Int) (b:Int) (c:Int):SC Bool Bool :=
.r (bif (decide (a>=b)) then (decide (a<=c)) else false)
def F_qb (a:Int) (b:Int) (c:Int):=(S_qb a b c).den
theorem F_qb_ok {a:Int} {b:Int} {c:Int}:FO (F_qb a b c) 174 [(vi a),(vi b),(vi c)] [] vb NL:=fO (s:=S_qb a b c) Tryz.func174
def S_qq (c:Int):SC Bool Bool :=
.a 1 1 0 (@F_qb_ok c 0 35990) fun b=>
.r b
def F_qq (a:Int):=(S_qq a).den
theorem F_qq_ok {a:Int}:FO (F_qq a) 175 [(vi a)] [] vb NL:=fO (s:=S_qq a) Tryz.func175
def S_q24 (a:Int):SC Bool Bool :=
.r (bif (decide (a>=0)) then (decide (a<=36000)) else false)
def F_q24 (a:Int):=(S_q24 a).den
theorem F_q24_ok {a:Int}:FO (F_q24 a) 199 [(vi a)] [] vb NL:=fO (s:=S_q24 a) Tryz.func199
def S_qt (c:Int):SC Int Int :=
.a 1 1 0 (@F_q24_ok c) fun b=>
.ite (!b) (
.r (-1)) (
.reg 3 [] [] [.pf (p:=(360:Int)≠0) dk]<|
.r (i64.wrap (c.tdiv 360)))
def F_qt (a:Int):=(S_qt a).den
theorem F_qt_ok {a:Int}:FO (F_qt a) 176 [(vi a)] [] vi NL:=fO (s:=S_qt a) Tryz.func176
def S_q10 (c:Int):SC Bool Bool :=
.a 1 1 0 (@F_qb_ok c 1 1000000000000) fun b=>
.r b
def F_q10 (a:Int):=(S_q10 a).den
theorem F_q10_ok {a:Int}:FO (F_q10 a) 177 [(vi a)] [] vb NL:=fO (s:=S_q10 a) Tryz.func177
abbrev R_qj:=Int×Int
def S_qj_b1 (d:TBo) (e:Int) (c:Nat) (a:Int×Int):SC R_qj (Step (Int×Int) R_qj) :=
.reg 3 [] [] [.w c,.ev 0]<|
 let b:=(d.D.getD c dF)
.ite (b.C==e) (
.r (.cont ((i64.wrap (a.1+b.J)),(i64.wrap (a.2+b.U))))) (
.r (.cont (a.1,a.2)))
def S_qj (b:TBo) (c:Int):SC R_qj R_qj :=
.range (b.D.length:Int) b.D.length rfl (.slot 9) 11 [1,9,10] (fun (a:Int×Int)=>[(4,(vi a.1)),(5,(vi a.2))]) (fun _=>[]) (0,0) (S_qj_b1 b c) (fun a => 
.r (a.1,a.2)) id
def F_qj (a:TBo) (b:Int):=(S_qj a b).den
theorem F_qj_ok {a:TBo} {b:Int}:FO (F_qj a b) 188 [(TBo.d a),(vi b)] [] (fun x=>(AV.tup [(vi x.1),(vi x.2)])) NL:=fO (s:=S_qj a b) Tryz.func188
def S_q1o (d:TBo) (b:TRe):SC Int Int :=
.a 1 3 2 (@F_qj_ok d b.H) fun c=>
.r (i64.wrap ((i64.wrap (b.J-b.U))-c.1))
def F_q1o (a:TBo) (b:TRe):=(S_q1o a b).den
theorem F_q1o_ok {a:TBo} {b:TRe}:FO (F_q1o a b) 178 [(TBo.d a),(TRe.d b)] [] vi NL:=fO (s:=S_q1o a b) Tryz.func178
def S_q19 (q:TBo) (p:Int):SC Bool Bool :=
.guard [(0:Int)<=p,p.toNat<q.B.length]<|
.reg 1 [] [] [.ev 0,.ev 1]<|
 let a:=(q.B.getD p.toNat dF)
 let b:=(a.H==(i64.wrap (p+1)))
.calld [b=true] dF (@F_q2d_ok a.K) fun s i =>
 let c:=(bif b then (decide ((s.length:Int)>0)) else false)
.calld [c=true] dF (@F_qb_ok a.O 0 99) fun t j =>
 let d:=(bif c then t else false)
.calld [d=true] dF (@F_qq_ok a.N) fun u k =>
 let e:=(bif d then u else false)
.calld [e=true] dF (@F_qt_ok a.N) fun v l =>
 let f:=(bif e then (v==a.O) else false)
.calld [f=true] dF (@F_q10_ok a.J) fun w m =>
 let g:=(bif f then w else false)
.calld [g=true] dF (@F_qb_ok a.U 0 a.J) fun x n =>
 let h:=(bif g then x else false)
.calld [h=true] dF (@F_q1o_ok q a) fun y o =>
.reg 2 [] [(8,hc i [] true),(15,hc j [] true),(20,hc k [] true),(25,hc l [] true),(33,hc m [] true),(40,hc n [] true),(45,hc o [] true)] [.clg 12 [b=true] i [] 2 true,.clg 10 [c=true] j [] 2 true,.clg 8 [d=true] k [] 2 true,.clg 6 [e=true] l [] 2 true,.clg 4 [f=true] m [] 2 true,.clg 2 [g=true] n [] 2 true,.clg 0 [h=true] o [] 2 true]<|
.r (bif h then (decide (y>=0)) else false)
def F_q19 (a:TBo) (b:Int):=(S_q19 a b).den
theorem F_q19_ok {a:TBo} {b:Int}:FO (F_q19 a b) 139 [(TBo.d a),(vi b)] [] vb NL:=fO (s:=S_q19 a b) Tryz.func139
def S_qu_b1 (d:TBo) (b:Nat) (_:Unit):SC Bool (Step Unit Bool) :=
.a 4 3 1 (@F_q19_ok d (b:Int)) fun c=>
.ite (!c) (
.r (.ret false)) (
.r (.cont ()))
def S_qu (b:TBo) (a:Int):SC Bool Bool :=
.guard [a.toNat<2 ^ 63]<|
.range a a.toNat rfl (.why (.ev 0)) 9 [1,2,3,8] (fun (_:Unit)=>[]) (fun _=>[]) () (S_qu_b1 b) (fun _ => 
.r (decide (a<=200))) id
def F_qu (a:TBo) (b:Int):=(S_qu a b).den
theorem F_qu_ok {a:TBo} {b:Int}:FO (F_qu a b) 138 [(TBo.d a),(vi b),(AV.fn 139 [])] [] vb NL:=fO (s:=S_qu a b) Tryz.func138
def S_qm_b1 (e:TBo) (f:Int) (a:Nat) (b:Int):SC Int (Step Int Int) :=
.reg 4 [] [] [.w a,.ev 0]<|
 let d:=(e.F.getD a dF)
.ite (d.E==f) (
.r (.cont (i64.wrap (b+d.J)))) (
.c b)
def S_qm (b:TBo) (c:Int):SC Int Int :=
.range (b.F.length:Int) b.F.length rfl (.slot 9) 11 [1,9,10] (fun (a:Int)=>[(5,(vi a))]) (fun _=>[]) 0 (S_qm_b1 b c) (fun a => 
.r a) id
def F_qm (a:TBo) (b:Int):=(S_qm a b).den
theorem F_qm_ok {a:TBo} {b:Int}:FO (F_qm a b) 200 [(TBo.d a),(vi b)] [] vi NL:=fO (s:=S_qm a b) Tryz.func200
def S_q1p (d:TBo) (b:TCo):SC Int Int :=
.a 1 8 2 (@F_qm_ok d b.H) fun c=>
.r (i64.wrap ((i64.wrap (b.J-b.U))-c))
def F_q1p (a:TBo) (b:TCo):=(S_q1p a b).den
theorem F_q1p_ok {a:TBo} {b:TCo}:FO (F_q1p a b) 179 [(TBo.d a),(TCo.d b)] [] vi NL:=fO (s:=S_q1p a b) Tryz.func179
def S_q1a (j:TBo) (u:Int):SC Bool Bool :=
.guard [(0:Int)<=u,u.toNat<j.D.length]<|
.reg 1 [] [] [.ev 0,.ev 1]<|
 let a:=(j.D.getD u.toNat dF)
 let b:=(a.H != (i64.wrap (u+1)))
.calld [b=false] dF (@F_qb_ok a.C 1 (j.B.length:Int)) fun v k =>
.reg 2 [] [(11,hc k [] true)] [.clg 0 [b=false] k [] 2 true]<|
.ite (cO b (!v)) (
.r false) (
 let c:=(i64.wrap (a.C-1))
.guard [(0:Int)<=c,c.toNat<j.B.length]<|
.reg 4 [] [] [.ev 0,.ev 1]<|
.call (@F_qq_ok a.N) fun w l=>
 let m:=(j.B.getD c.toNat dF)
 let d:=(bif w then (decide (a.N>=m.N)) else false)
.calld [d=true] dF (@F_qt_ok a.N) fun x n =>
 let e:=(bif d then (x==m.O) else false)
.calld [e=true] dF (@F_q10_ok a.J) fun y o =>
 let f:=(bif e then y else false)
.calld [f=true] dF (@F_qb_ok a.U 0 a.J) fun z p =>
 let g:=(bif f then z else false)
.calld [g=true] dF (@F_qb_ok a.Q 1 1000000) fun A q =>
 let h:=(bif g then A else false)
.calld [h=true] dF (@F_qq_ok a.T) fun E s =>
 let i:=(bif h then E else false)
.calld [i=true] dF (@F_q1p_ok j a) fun F t =>
.reg 5 [] [(2,hc l [] true),(13,hc n [] true),(21,hc o [] true),(28,hc p [] true),(33,hc q [] true),(38,hc s [] true),(43,hc t [] true)] [.cl 12 l [] 3 true,.clg 10 [d=true] n [] 3 true,.clg 8 [e=true] o [] 3 true,.clg 6 [f=true] p [] 3 true,.clg 4 [g=true] q [] 3 true,.clg 2 [h=true] s [] 3 true,.clg 0 [i=true] t [] 3 true]<|
.r (bif i then (decide (F>=0)) else false))
def F_q1a (a:TBo) (b:Int):=(S_q1a a b).den
theorem F_q1a_ok {a:TBo} {b:Int}:FO (F_q1a a b) 140 [(TBo.d a),(vi b)] [] vb NL:=fO (s:=S_q1a a b) Tryz.func140
def S_qv_b1 (d:TBo) (b:Nat) (_:Unit):SC Bool (Step Unit Bool) :=
.a 4 3 1 (@F_q1a_ok d (b:Int)) fun c=>
.ite (!c) (
.r (.ret false)) (
.r (.cont ()))
def S_qv (b:TBo) (a:Int):SC Bool Bool :=
.guard [a.toNat<2 ^ 63]<|
.range a a.toNat rfl (.why (.ev 0)) 9 [1,2,3,8] (fun (_:Unit)=>[]) (fun _=>[]) () (S_qv_b1 b) (fun _ => 
.r (decide (a<=200))) id
def F_qv (a:TBo) (b:Int):=(S_qv a b).den
theorem F_qv_ok {a:TBo} {b:Int}:FO (F_qv a b) 138 [(TBo.d a),(vi b),(AV.fn 140 [])] [] vb NL:=fO (s:=S_qv a b) Tryz.func138
def S_qw (b:TBo) (c:TCo):SC Int Int :=
 let a:=(i64.wrap (c.C-1))
.guard [(0:Int)<=a,a.toNat<b.B.length]<|
.reg 1 [] [] [.ev 0,.ev 1]<|
.r ((b.B.getD a.toNat dF).O)
def F_qw (a:TBo) (b:TCo):=(S_qw a b).den
theorem F_qw_ok {a:TBo} {b:TCo}:FO (F_qw a b) 180 [(TBo.d a),(TCo.d b)] [] vi NL:=fO (s:=S_qw a b) Tryz.func180
def S_q1b (f:TBo) (m:Int):SC Bool Bool :=
.guard [(0:Int)<=m,m.toNat<f.F.length]<|
.reg 1 [] [] [.ev 0,.ev 1]<|
 let a:=(f.F.getD m.toNat dF)
 let c:=(a.H != (i64.wrap (m+1)))
.calld [c=false] dF (@F_qb_ok a.E 1 (f.D.length:Int)) fun n g =>
.reg 2 [] [(11,hc g [] true)] [.clg 0 [c=false] g [] 2 true]<|
.ite (cO c (!n)) (
.r false) (
 let d:=(i64.wrap (a.E-1))
.guard [(0:Int)<=d,d.toNat<f.D.length]<|
.reg 4 [] [] [.ev 0,.ev 1]<|
.call (@F_qq_ok a.N) fun o h=>
 let i:=(f.D.getD d.toNat dF)
 let b:=(bif o then (decide (a.N>=i.N)) else false)
.calld [b=true] dF (@F_qt_ok a.N) fun p j =>
.calld [b=true] dF (@F_qw_ok f i) fun q k =>
 let e:=(bif b then (decide (p<=(i64.wrap (q+1)))) else false)
.calld [e=true] dF (@F_q10_ok a.J) fun s l =>
.reg 5 [] [(2,hc h [] true),(13,hc j [] true),(16,hc k [] true),(23,hc l [] true)] [.cl 6 h [] 3 true,.clg 4 [b=true] j [] 3 true,.clg 2 [b=true] k [] 3 true,.clg 0 [e=true] l [] 3 true]<|
.r (bif e then s else false))
def F_q1b (a:TBo) (b:Int):=(S_q1b a b).den
theorem F_q1b_ok {a:TBo} {b:Int}:FO (F_q1b a b) 141 [(TBo.d a),(vi b)] [] vb NL:=fO (s:=S_q1b a b) Tryz.func141
def S_qx_b1 (d:TBo) (b:Nat) (_:Unit):SC Bool (Step Unit Bool) :=
.a 4 3 1 (@F_q1b_ok d (b:Int)) fun c=>
.ite (!c) (
.r (.ret false)) (
.r (.cont ()))
def S_qx (b:TBo) (a:Int):SC Bool Bool :=
.guard [a.toNat<2 ^ 63]<|
.range a a.toNat rfl (.why (.ev 0)) 9 [1,2,3,8] (fun (_:Unit)=>[]) (fun _=>[]) () (S_qx_b1 b) (fun _ => 
.r (decide (a<=200))) id
def F_qx (a:TBo) (b:Int):=(S_qx a b).den
theorem F_qx_ok {a:TBo} {b:Int}:FO (F_qx a b) 138 [(TBo.d a),(vi b),(AV.fn 141 [])] [] vb NL:=fO (s:=S_qx a b) Tryz.func138
def S_q1q (a:(List TOr)):SC (List TOr) (List TOr) :=
.reg 0 [] [] []<|
.nils 0 (
.guard [a.length * (2 * 40)<=2 ^ 48]<|
.reg 1 [] [] []<|
.lev 0 (AV.d (eL TOr.e a)) (.pf (lvQ true a.length fun j=>(TOr.e (a.getD j dF))))<|
.br true (.pf (p:=true=true) rfl)<|
.reg 2 [] [] []<|
.bor 5 (fun j=>AV.d (TOr.e (a.getD j dF))) [2]<|
.cst (A:=a.length=0) (.ev 1) [(2,AV.ref 0 0 0 0)] [(2,(AV.ref 0 a.length 0 a.length))] [(Ob.seq 5 0 fun j=>AV.d (TOr.e (a.getD j dF)))] [(eS 5 TOr.e a)] (fun h=>⟨by rw[h],by unfold eS; rw[h]⟩)<|
.r a) (
.reg 1 [] [] []<|
.lev 0 (AV.d (eL TOr.e a)) (.pf (lvQ false a.length fun j=>(TOr.e (a.getD j dF))))<|
.br false (.pf (p:=false=false) rfl)<|
.guard [a.length * (2 * 40)<=2 ^ 48]<|
.reg 3 [] [(2,{ h:=.obj })] [.pf (p:=∀ k,k<a.length->(TOr.d (a.getD k dF)).wd=5) (fun _ _=>rfl),.ev 0]<|
.r a)
def F_q1q (a:(List TOr)):=(S_q1q a).den
theorem F_q1q_ok {a:(List TOr)}:FO (F_q1q a) 202 [(AV.d (eL TOr.e a))] [] (fun x=>(AV.ref 0 x.length 0 x.length)) (fun x=>[(eS 5 TOr.e x)]):=fO (s:=S_q1q a) Tryz.func202
def S_q11 (a:TOr) (b:Int):SC Bool Bool :=
.r (a.A != b)
def F_q11 (a:TOr) (b:Int):=(S_q11 a b).den
theorem F_q11_ok {b:TOr} {a:Int}:FO (F_q11 b a) 203 [(TOr.d b),(vp 0)] [(Ob.box (vi a))] vb (fun _=>[(Ob.box (vi a))]):=fO (s:=S_q11 b a) Tryz.func203
def S_qh_b1 (c:(List TOr)) (f:Int) (a:Nat) (_:Unit):SC Int (Step Unit Int) :=
.call (@F_q11_ok (c.getD (0+a) dF) f) fun d b=>
.guard [(0+a)<c.length]<|
.reg 4 [] [(5,hc b [1] true)] [.e c.length,.w a,.ev 2,.e c.length,.ev 0,.cl 1 b [1] 2 true]<|
.ite d (
.r (.ret (a:Int))) (
.r (.cont ()))
def S_qh (a:(List TOr)) (b:Int):SC Int Int :=
.guard [a.length<2 ^ 63]<|
.range (a.length:Int) a.length rfl (.why (.ev 0)) 8 [0,1,7] (fun (_:Unit)=>[]) (fun _=>[]) () (S_qh_b1 a b) (fun _ => 
.r (-1)) id
def F_qh (a:(List TOr)) (b:Int):=(S_qh a b).den
theorem F_qh_ok {a:(List TOr)} {b:Int}:FO (F_qh a b) 204 [(AV.ref 0 a.length 0 a.length),(AV.fn 203 [(vp 1)])] [(eS 5 TOr.e a),(Ob.box (vi b))] vi (fun _=>[(eS 5 TOr.e a),(Ob.box (vi b))]):=fO (s:=S_qh a b) Tryz.func204
abbrev R_qi:=(List TOr)
def S_qi_b1 (n:Int) (a:(List TOr)×Int×Int):SC R_qi (Step ((List TOr)×Int×Int) R_qi) :=
.ite (decide (a.2.2<(a.1.length:Int))) (
.guard [(0:Int)<=a.2.2,a.2.2.toNat<a.1.length,(0+a.2.2.toNat)<a.1.length]<|
.reg 7 [] [] [.e a.1.length,.ev 0,.ev 1,.e a.1.length,.ev 2]<|
 let d:=(a.1.getD (0+a.2.2.toNat) dF)
.call (@F_q11_ok d n) fun j m=>
.k 8 2 m [1] 3 true<|
 let g:=(i64.wrap (a.2.2+1))
.ite (!j) (
 let f:=(0+a.2.1.toNat)
.guard [(0:Int)<=a.2.1,a.2.1.toNat<a.1.length,f<a.1.length]<|
 let c:=(a.1.set f d)
.reg 9 [] [(4,{ obs:=[(0,(eS 5 TOr.e c))] })] [.e a.1.length,.ev 0,.ev 1,.e a.1.length,.ev 2,.pf (zgv (sz:=5) (e:=TOr.e) (l:=a.1) (i:=f) (x:=d) (fun _=>rfl))]<|
 let h:=[(eS 5 TOr.e c),(Ob.box (vi n)),(TOr.b d)]
.cst (A:=True) (.pf trivial) [(0,(AV.ref 0 a.1.length 0 a.1.length)),(1,(AV.fn 203 [(vp 1)])),(5,(vi a.2.1)),(6,(vi a.2.2))] [(0,(AV.ref 0 c.length 0 c.length)),(1,(AV.fn 203 [(vp 1)])),(5,(vi a.2.1)),(6,(vi a.2.2))] h h (fun _=>⟨Zb,by rfl⟩)<|
.r (.cont (c,(i64.wrap (a.2.1+1)),g))) (
.r (.cont (a.1,a.2.1,g)))) (
.r (.brk (a.1,a.2.1,a.2.2)))
def S_qi (o:(List TOr)) (p:Int):SC R_qi R_qi :=
.call (@F_qh_ok o p) fun g q=>
.k 1 2 q [0,1] 2 true<|
.ite (g==(-1)) (
.guard [o.length<2 ^ 63]<|
.reg 3 [] [] []<|
.frz 0 (.ev 0) none [4] []<|
.r o) (
.iter [1] (fun (a:(List TOr)×Int×Int)=>[(0,(AV.ref 0 a.1.length 0 a.1.length)),(5,(vi a.2.1)),(6,(vi a.2.2))]) (fun a=>[(0,(eS 5 TOr.e a.1))]) (o,g,(i64.wrap (g+1))) (S_qi_b1 p) (fun a =>
.guard [(0:Int)<=a.2.1,a.2.1.toNat<=a.1.length]<|
 let b:=(a.1.length-a.2.1.toNat)
 let c:=(⟨0,0,0,0,false⟩:TOr)
 let f:=(0+a.2.1.toNat)
 let i:=(eS 5 TOr.e (clearL a.1 f b c))
.reg 11 [] [(3,{ obs:=[(0,i)] })] [.ev 0,.ev 1,.e a.1.length,.e a.1.length,.pf (zec (sz:=5) (e:=TOr.e) (l:=a.1) (off:=f) (n:=b) (z:=c))]<|
 let j:=((clearL a.1 f b c).length)
.cst (A:=True) (.pf trivial) [(0,(AV.ref 0 a.1.length 0 a.1.length)),(5,(vi a.2.1))] [(0,(AV.ref 0 j 0 j)),(5,(vi a.2.1))] [i,(Ob.box (vi p))] [i,(Ob.box (vi p))] (fun _=>⟨by simp +zetaDelta only[z2i],by rfl⟩)<|
.guard [a.2.1.toNat<=(clearL a.1 f b c).length]<|
.reg 12 [] [] [.ev 1,.ev 0,.e j]<|
.guard [(clearL a.1 f b c).length<2 ^ 63]<|
.frz 0 (.ev 0) (some (.der (fun (h:a.2.1.toNat<=(clearL a.1 f b c).length)=>(y1k (Nat.sub_le _ _) h:(a.2.1.toNat-0)<=(clearL a.1 f b c).length)) 1)) [4] []<|
 let m:=((clearL a.1 f b c).take a.2.1.toNat)
.lev 4 (AV.d (eL TOr.e m)) (.der (fun (h:a.2.1.toNat<=(clearL a.1 f b c).length)=>lvT TOr.e (clearL a.1 f b c) h) 1)<|
.r m) id)
def F_qi (a:(List TOr)) (b:Int):=(S_qi a b).den
theorem F_qi_ok {a:(List TOr)} {b:Int}:FO (F_qi a b) 201 [(AV.ref 0 a.length 0 a.length),(AV.fn 203 [(vp 1)])] [(eS 5 TOr.e a),(Ob.box (vi b))] (fun x=>(AV.d (eL TOr.e x))) (fun _=>[Ob.dead,(Ob.box (vi b))]):=fO (s:=S_qi a b) Tryz.func201
def S_q1r (e:TBo) (f:Int):SC (List TOr) (List TOr) :=
.call (@F_q1q_ok e.I) fun c a=>
.call (@F_qi_ok c f) fun d b=>
.reg 1 [] [(2,hc a [] false),(4,hc b [2,1] false)] [.cl 1 a [] 2 false,.cl 0 b [2,1] 3 false]<|
.r d
def F_q1r (a:TBo) (b:Int):=(S_q1r a b).den
theorem F_q1r_ok {a:TBo} {b:Int}:FO (F_q1r a b) 181 [(TBo.d a),(vi b)] [] (fun x=>(AV.d (eL TOr.e x))) NL:=fO (s:=S_q1r a b) Tryz.func181
def S_q25 (a:TOr) (b:TOr):SC Bool Bool :=
.r (cO (!a.X) (decide (a.N>b.N)))
def F_q25 (a:TOr) (b:TOr):=(S_q25 a b).den
theorem F_q25_ok {c:TOr} {a:TOr}:FO (F_q25 c a) 182 [(TOr.d c),(vp 0)] [(TOr.b a)] vb (fun _=>[(TOr.b a)]):=fO (s:=S_q25 c a) Tryz.func182
def S_qn_b1 (d:(List TOr)) (e:TOr) (a:Nat) (_:Unit):SC Int (Step Unit Int) :=
.call (@F_q25_ok (d.getD a dF) e) fun c b=>
.reg 4 [] [(5,hc b [0] true)] [.w a,.ev 1,.cl 0 b [0] 1 true]<|
.ite c (
.r (.ret (a:Int))) (
.r (.cont ()))
def S_qn (a:(List TOr)) (b:TOr):SC Int Int :=
.range (a.length:Int) a.length rfl (.slot 0) 8 [0,1,7] (fun (_:Unit)=>[]) (fun _=>[]) () (S_qn_b1 a b) (fun _ => 
.r (-1)) id
def F_qn (a:(List TOr)) (b:TOr):=(S_qn a b).den
theorem F_qn_ok {c:(List TOr)} {a:TOr}:FO (F_qn c a) 204 [(AV.d (eL TOr.e c)),(AV.fn 182 [(vp 0)])] [(TOr.b a)] vi (fun _=>[(TOr.b a)]):=fO (s:=S_qn c a) Tryz.func204
end
end Go.Proofs.YtiohhffifhaboaaGreatDoor
/- What the functions compute,and that their calls return it. No condition. -/
namespace Go.Proofs.YtiohhffifhaboaaGreatDoor
open Go Go.TA
open Go.IntKind (i64)
noncomputable section
set_option maxRecDepth 100000
def S_q1s (c:(List TOr)) (d:TOr):SC Bool Bool :=
.call (@F_qn_ok c d) fun a b=>
.k 1 2 b [0] 1 true<|
.r (decide (a>=0))
def F_q1s (a:(List TOr)) (b:TOr):=(S_q1s a b).den
theorem F_q1s_ok {c:(List TOr)} {a:TOr}:FO (F_q1s c a) 183 [(AV.d (eL TOr.e c)),(AV.fn 182 [(vp 0)])] [(TOr.b a)] vb (fun _=>[(TOr.b a)]):=fO (s:=S_q1s c a) Tryz.func183
def S_q1c (c:TBo) (f:Int):SC Bool Bool :=
.guard [(0:Int)<=f,f.toNat<c.I.length]<|
.reg 1 [] [] [.ev 0,.ev 1]<|
 let a:=(c.I.getD f.toNat dF)
 let g:=(a.H != (i64.wrap (f+1)))
.calld [g=false] dF (@F_qb_ok a.A 1 (c.F.length:Int)) fun w m =>
.reg 2 [] [(11,hc m [] true)] [.clg 0 [g=false] m [] 2 true]<|
.ite (cO g (!w)) (
.r false) (
 let h:=(i64.wrap (a.A-1))
.guard [(0:Int)<=h,h.toNat<c.F.length]<|
.reg 4 [] [] [.ev 0,.ev 1]<|
 let i:=(c.I.take f.toNat)
 let j:=(⟨[],[],[],i⟩:TBo)
.call (@F_q1r_ok j a.A) fun n o=>
.guard [f.toNat<=c.I.length]<|
.reg 5 [] [(3,hv (AV.d (eL TOr.e i))),(4,hv (TBo.d j)),(7,hc o [] true)] [.ev 7,.ev 0,.der (fun (h0:f.toNat<=c.I.length)=>lvT TOr.e c.I h0) 0,.pf (p:=LeV (AV.d (DV.agg [Z0,Z0,Z0,(eL TOr.e i)])) (TBo.d j)) (zgu rfl (DLe.agg (DLeL.cons DLe.sl0 (DLeL.cons DLe.sl0 (DLeL.cons DLe.sl0 (DLeL.cons (DLe.refl _) DLeL.nil)))))),.cl 1 o [] 3 true]<|
.call (@F_qq_ok a.N) fun x q=>
 let s:=(c.F.getD h.toNat dF)
 let b:=(bif x then (decide (a.N>=s.N)) else false)
.calld [b=true] dF (@F_qt_ok a.N) fun y t =>
 let k:=(i64.wrap (s.E-1))
.calld [b=true] dF (@F_qw_ok c (c.D.getD k.toNat dF)) fun z u =>
 let l:=(bif (bif b then (decide (y<=(i64.wrap (z+1)))) else false) then (a.M==(i64.wrap ((n.length:Int)+1))) else false)
.calld [l=true] dF (@F_q1s_ok n a) fun B v =>
.guard [AllP [b=true]->((0:Int)<=k),AllP [b=true]->(k.toNat<c.D.length)]<|
.reg 7 [] [(2,hc q [] true),(13,hc t [] true),(22,hc u [] true),(37,hc v [1] true)] [.cl 8 q [] 3 true,.clg 6 [b=true] t [] 3 true,.ev 0,.ev 1,.clg 4 [b=true] u [] 3 true,.clg 2 [l=true] v [1] 3 true]<|
.r (bif l then (!B) else false))
def F_q1c (a:TBo) (b:Int):=(S_q1c a b).den
theorem F_q1c_ok {a:TBo} {b:Int}:FO (F_q1c a b) 142 [(TBo.d a),(vi b)] [] vb NL:=fO (s:=S_q1c a b) Tryz.func142
def S_qy_b1 (d:TBo) (b:Nat) (_:Unit):SC Bool (Step Unit Bool) :=
.a 4 3 1 (@F_q1c_ok d (b:Int)) fun c=>
.ite (!c) (
.r (.ret false)) (
.r (.cont ()))
def S_qy (b:TBo) (a:Int):SC Bool Bool :=
.guard [a.toNat<2 ^ 63]<|
.range a a.toNat rfl (.why (.ev 0)) 9 [1,2,3,8] (fun (_:Unit)=>[]) (fun _=>[]) () (S_qy_b1 b) (fun _ => 
.r (decide (a<=200))) id
def F_qy (a:TBo) (b:Int):=(S_qy a b).den
theorem F_qy_ok {a:TBo} {b:Int}:FO (F_qy a b) 138 [(TBo.d a),(vi b),(AV.fn 142 [])] [] vb NL:=fO (s:=S_qy a b) Tryz.func138
def S_q1t (a:TBo):SC Bool Bool :=
.call (@F_qu_ok a (a.B.length:Int)) fun b e=>
.calld [b=true] dF (@F_qv_ok a (a.D.length:Int)) fun i f =>
 let c:=(bif b then i else false)
.calld [c=true] dF (@F_qx_ok a (a.F.length:Int)) fun j g =>
 let d:=(bif c then j else false)
.calld [d=true] dF (@F_qy_ok a (a.I.length:Int)) fun k h =>
.reg 1 [] [(4,hc e [] true),(10,hc f [] true),(17,hc g [] true),(24,hc h [] true)] [.cl 6 e [] 1 true,.clg 4 [b=true] f [] 1 true,.clg 2 [c=true] g [] 1 true,.clg 0 [d=true] h [] 1 true]<|
.r (bif d then k else false)
def F_q1t (a:TBo):=(S_q1t a).den
theorem F_q1t_ok {a:TBo}:FO (F_q1t a) 100 [(TBo.d a)] [] vb NL:=fO (s:=S_q1t a) Tryz.func100
def S_q12 (a:Int) (b:Int) (c:Int):SC Bool Bool :=
.r (bif (decide (a>=b)) then (decide (a<=c)) else false)
def F_q12 (a:Int) (b:Int) (c:Int):=(S_q12 a b c).den
theorem F_q12_ok {a:Int} {b:Int} {c:Int}:FO (F_q12 a b c) 145 [(vi a),(vi b),(vi c)] [] vb NL:=fO (s:=S_q12 a b c) Tryz.func145
def S_q26 (f:Y8) (g:Int):SC Bool Bool :=
.call (@F_q2d_ok f) fun d b=>
 let a:=(decide ((d.length:Int)>0))
.calld [a=true] dF (@F_q12_ok g 0 99) fun e c =>
.reg 1 [] [(1,hc b [] true),(6,hc c [] true)] [.cl 2 b [] 0 true,.clg 0 [a=true] c [] 0 true]<|
.r (bif a then e else false)
def F_q26 (a:Y8) (b:Int):=(S_q26 a b).den
theorem F_q26_ok {a:Y8} {b:Int}:FO (F_q26 a b) 143 [(AV.d (DV.str a)),(vi b)] [] vb NL:=fO (s:=S_q26 a b) Tryz.func143
def S_q1d (c:Int):SC Bool Bool :=
.a 1 1 0 (@F_q12_ok c 0 1000000000000000) fun b=>
.r b
def F_q1d (a:Int):=(S_q1d a).den
theorem F_q1d_ok {a:Int}:FO (F_q1d a) 144 [(vi a)] [] vb NL:=fO (s:=S_q1d a) Tryz.func144
def S_q1u (d:TRi):SC Bool Bool :=
.call (@F_q26_ok d.K d.O) fun a e=>
.calld [a=true] dF (@F_q1d_ok d.V) fun i f =>
 let b:=(bif a then i else false)
.calld [b=true] dF (@F_q1d_ok d.Y) fun j g =>
 let c:=(bif b then j else false)
.calld [c=true] dF (@F_q12_ok d.W 0 d.V) fun k h =>
.reg 1 [] [(4,hc e [] true),(8,hc f [] true),(13,hc g [] true),(20,hc h [] true)] [.cl 6 e [] 1 true,.clg 4 [a=true] f [] 1 true,.clg 2 [b=true] g [] 1 true,.clg 0 [c=true] h [] 1 true]<|
.r (bif c then k else false)
def F_q1u (a:TRi):=(S_q1u a).den
theorem F_q1u_ok {a:TRi}:FO (F_q1u a) 101 [(TRi.d a)] [] vb NL:=fO (s:=S_q1u a) Tryz.func101
def S_q1v (a:Y8):SC Bool Bool :=
.r (!(a==a))
def F_q1v (a:Y8):=(S_q1v a).den
theorem F_q1v_ok {a:Y8}:FO (F_q1v a) 205 [(AV.d (DV.str a))] [] vb NL:=fO (s:=S_q1v a) Tryz.func205
def S_q27 (c:Y8) (d:Y8):SC Int Int :=
.a 1 1 0 (@F_q1v_ok c) fun e=>
.a 2 1 0 (@F_q1v_ok d) fun b=>
.ite e (
.ite b (
.r 0) (
.r (-1))) (
.ite b (
.r 1) (
.ite (Op.bytesLess c d) (
.r (-1)) (
.ite (!(Op.bytesLess c d||c==d)) (
.r 1) (
.r 0))))
def F_q27 (a:Y8) (b:Y8):=(S_q27 a b).den
theorem F_q27_ok {a:Y8} {b:Y8}:FO (F_q27 a b) 184 [(AV.d (DV.str a)),(AV.d (DV.str b))] [] vi NL:=fO (s:=S_q27 a b) Tryz.func184
def S_q1w (a:Int):SC Bool Bool :=
.r (a != a)
def F_q1w (a:Int):=(S_q1w a).den
theorem F_q1w_ok {a:Int}:FO (F_q1w a) 126 [(vi a)] [] vb NL:=fO (s:=S_q1w a) Tryz.func126
def S_q1e (c:Int) (d:Int):SC Int Int :=
.a 1 1 0 (@F_q1w_ok c) fun e=>
.a 2 1 0 (@F_q1w_ok d) fun b=>
.ite e (
.ite b (
.r 0) (
.r (-1))) (
.ite b (
.r 1) (
.ite (decide (c<d)) (
.r (-1)) (
.ite (decide (c>d)) (
.r 1) (
.r 0))))
def F_q1e (a:Int) (b:Int):=(S_q1e a b).den
theorem F_q1e_ok {a:Int} {b:Int}:FO (F_q1e a b) 83 [(vi a),(vi b)] [] vi NL:=fO (s:=S_q1e a b) Tryz.func83
def S_qk_b1 (e:(List Int)) (d:(List Int)) (b:Nat) (_:Unit):SC Int (Step Unit Int) :=
.reg 3 [] [] [.w b,.ev 0]<|
.ite (decide ((b:Int)>=(d.length:Int))) (
.r (.ret 1)) (
.guard [b<d.length]<|
.reg 6 [] [] [.w b,.ev 0]<|
.a 7 2 0 (@F_q1e_ok (e.getD b dF) (d.getD b dF)) fun c=>
.ite (c != 0) (
.r (.ret c)) (
.r (.cont ())))
def S_qk (a:(List Int)) (b:(List Int)):SC Int Int :=
.range (a.length:Int) a.length rfl (.slot 0) 11 [0,1,9,10] (fun (_:Unit)=>[]) (fun _=>[]) () (S_qk_b1 a b) (fun _ => 
.ite (decide ((a.length:Int)<(b.length:Int))) (
.r (-1)) (
.r 0)) id
def F_qk (a:(List Int)) (b:(List Int)):=(S_qk a b).den
theorem F_qk_ok {a:(List Int)} {b:(List Int)}:FO (F_qk a b) 185 [(vl a),(vl b)] [] vi NL:=fO (s:=S_qk a b) Tryz.func185
def S_q1x (h:Y8) (i:Y8):SC Int Int :=
.call (@F_q2d_ok h) fun b c=>
.call (@F_q2d_ok i) fun d e=>
.reg 1 [] [(1,hc c [] true),(3,hc e [] true)] [.cl 1 c [] 0 true,.cl 0 e [] 0 true]<|
.ite (bif ((b.length:Int)==0) then ((d.length:Int)==0) else false) (
.a 3 2 0 (@F_q27_ok h i) fun f=>
.r f) (
.a 4 2 0 (@F_qk_ok b d) fun g=>
.r g)
def F_q1x (a:Y8) (b:Y8):=(S_q1x a b).den
theorem F_q1x_ok {a:Y8} {b:Y8}:FO (F_q1x a b) 147 [(AV.d (DV.str a)),(AV.d (DV.str b))] [] vi NL:=fO (s:=S_q1x a b) Tryz.func147
def S_qr_b1 (b:(List Int)) (a:Nat) (_:Unit):SC Int (Step Unit Int) :=
.reg 4 [] [] [.w a,.ev 0]<|
.ite ((b.getD a dF) != 0) (
.r (.ret (b.getD a dF))) (
.r (.cont ()))
def S_qr (a:(List Int)):SC Int Int :=
.range (a.length:Int) a.length rfl (.slot 6) 8 [3,6,7] (fun (_:Unit)=>[]) (fun _=>[]) () (S_qr_b1 a) (fun _ => 
.r 0) id
def F_qr (a:(List Int)):=(S_qr a).den
theorem F_qr_ok {a:(List Int)}:FO (F_qr a) 146 [(vl a)] [] vi NL:=fO (s:=S_qr a) Tryz.func146
def S_q1y (h:TRi) (j:TRi):SC Int Int :=
.call (@F_q1x_ok h.K j.K) fun e b=>
.call (@F_q1e_ok h.O j.O) fun f c=>
 let a:=([e,f]:List Int)
.call (@F_qr_ok a) fun g d=>
.reg 1 [] [(4,hc b [] true),(9,hc c [] true),(10,hv (vl a)),(11,hc d [] true)] [.cl 2 b [] 2 true,.cl 1 c [] 2 true,.pf (zu (DV.i .i64) a),.cl 0 d [] 2 true]<|
.r g
def F_q1y (a:TRi) (b:TRi):=(S_q1y a b).den
theorem F_q1y_ok {a:TRi} {b:TRi}:FO (F_q1y a b) 102 [(TRi.d a),(TRi.d b)] [] vi NL:=fO (s:=S_q1y a b) Tryz.func102
def S_q28 (a:TRi) (b:Y8) (c:Int):SC Bool Bool :=
.r (bif (a.K==b) then (a.O==c) else false)
def F_q28 (a:TRi) (b:Y8) (c:Int):=(S_q28 a b c).den
theorem F_q28_ok {c:TRi} {a:Y8} {b:Int}:FO (F_q28 c a b) 187 [(TRi.d c),(vp 0),(vp 1)] [(bx (DV.str a)),(Ob.box (vi b))] vb (fun _=>[(bx (DV.str a)),(Ob.box (vi b))]):=fO (s:=S_q28 c a b) Tryz.func187
def S_qs_b1 (d:(List TRi)) (e:Y8) (f:Int) (a:Nat) (_:Unit):SC Int (Step Unit Int) :=
.call (@F_q28_ok (d.getD a dF) e f) fun c b=>
.reg 4 [] [(5,hc b [0,1] true)] [.w a,.ev 1,.cl 0 b [0,1] 2 true]<|
.ite c (
.r (.ret (a:Int))) (
.r (.cont ()))
def S_qs (a:(List TRi)) (b:Y8) (c:Int):SC Int Int :=
.range (a.length:Int) a.length rfl (.slot 0) 8 [0,1,7] (fun (_:Unit)=>[]) (fun _=>[]) () (S_qs_b1 a b c) (fun _ => 
.r (-1)) id
def F_qs (a:(List TRi)) (b:Y8) (c:Int):=(S_qs a b c).den
theorem F_qs_ok {c:(List TRi)} {a:Y8} {b:Int}:FO (F_qs c a b) 186 [(AV.d (eL TRi.e c)),(AV.fn 187 [(vp 0),(vp 1)])] [(bx (DV.str a)),(Ob.box (vi b))] vi (fun _=>[(bx (DV.str a)),(Ob.box (vi b))]):=fO (s:=S_qs c a b) Tryz.func186
def S_q1f (c:TOf) (d:Y8) (e:Int):SC Int Int :=
.call (@F_qs_ok c.S d e) fun a b=>
.k 1 3 b [1,2] 3 true<|
.r a
def F_q1f (a:TOf) (b:Y8) (c:Int):=(S_q1f a b c).den
theorem F_q1f_ok {a:TOf} {b:Y8} {c:Int}:FO (F_q1f a b c) 148 [(TOf.d a),(AV.d (DV.str b)),(vi c)] [] vi NL:=fO (s:=S_q1f a b c) Tryz.func148
def S_q1z (c:TOf) (d:Y8) (e:Int):SC Bool Bool :=
.a 1 3 1 (@F_q1f_ok c d e) fun b=>
.r (decide (b>=0))
def F_q1z (a:TOf) (b:Y8) (c:Int):=(S_q1z a b c).den
theorem F_q1z_ok {a:TOf} {b:Y8} {c:Int}:FO (F_q1z a b c) 103 [(TOf.d a),(AV.d (DV.str b)),(vi c)] [] vb NL:=fO (s:=S_q1z a b c) Tryz.func103
def S_q20 (c:TOf) (d:Y8) (e:Int):SC TRi TRi :=
.a 1 3 2 (@F_q1f_ok c d e) fun b=>
.ite (decide (b>=0)) (
.guard [(0:Int)<=b,b.toNat<c.S.length]<|
.reg 3 [] [] [.ev 0,.ev 1]<|
.r (c.S.getD b.toNat dF)) (
.r (⟨d,e,0,0,0⟩:TRi))
def F_q20 (a:TOf) (b:Y8) (c:Int):=(S_q20 a b c).den
theorem F_q20_ok {a:TOf} {b:Y8} {c:Int}:FO (F_q20 a b c) 149 [(TOf.d a),(AV.d (DV.str b)),(vi c)] [] (fun x=>(TRi.d x)) NL:=fO (s:=S_q20 a b c) Tryz.func149
def S_qo_b1 (g:TBo) (h:Y8) (i:Int) (d:Nat) (e:Int):SC Int (Step Int Int) :=
.reg 4 [] [] [.w d,.ev 0]<|
 let b:=(g.B.getD d dF)
.ite (bif (b.K==h) then (b.O==i) else false) (
.a 6 3 2 (@F_qj_ok g b.H) fun f=>
.r (.cont (i64.wrap (e+(i64.wrap ((i64.wrap (b.J-b.U))-f.2)))))) (
.c e)
def S_qo (b:TBo) (c:Y8) (d:Int):SC Int Int :=
.range (b.B.length:Int) b.B.length rfl (.slot 13) 15 [1,2,3,13,14] (fun (a:Int)=>[(7,(vi a))]) (fun _=>[]) 0 (S_qo_b1 b c d) (fun a => 
.r a) id
def F_qo (a:TBo) (b:Y8) (c:Int):=(S_qo a b c).den
theorem F_qo_ok {a:TBo} {b:Y8} {c:Int}:FO (F_qo a b c) 150 [(TBo.d a),(AV.d (DV.str b)),(vi c)] [] vi NL:=fO (s:=S_qo a b c) Tryz.func150
def S_q21 (d:TOf) (e:Y8) (f:Int):SC Int Int :=
.a 1 3 1 (@F_q20_ok d e f) fun b=>
.a 2 9 2 (@F_qo_ok d.L e f) fun c=>
.r (i64.wrap ((i64.wrap (b.V-b.W))-c))
def F_q21 (a:TOf) (b:Y8) (c:Int):=(S_q21 a b c).den
theorem F_q21_ok {a:TOf} {b:Y8} {c:Int}:FO (F_q21 a b c) 104 [(TOf.d a),(AV.d (DV.str b)),(vi c)] [] vi NL:=fO (s:=S_q21 a b c) Tryz.func104
def S_q2_b1 (h:TOf) (c:Nat) (_:Unit):SC Bool (Step Unit Bool) :=
.reg 5 [] [] [.w c,.ev 0]<|
 let e:=(h.S.getD c dF)
.call (@F_q1u_ok e) fun a f=>
 let b:=(decide ((c:Int)>0))
 let d:=(i64.wrap ((c:Int)-1))
.calld [b=true,(!a)=false] dF (@F_q1y_ok (h.S.getD d.toNat dF) e) fun i g =>
.guard [AllP [b=true,(!a)=false]->((0:Int)<=d),AllP [b=true,(!a)=false]->(d.toNat<h.S.length)]<|
.reg 6 [] [(1,hc f [] true),(14,hc g [] true)] [.cl 4 f [] 2 true,.ev 0,.ev 1,.clg 2 [b=true,(!a)=false] g [] 2 true]<|
.ite (cO (!a) (bif b then (decide (i>=0)) else false)) (
.r (.ret false)) (
.r (.cont ()))
def S_q2_b2 (f:TOf) (c:Nat) (_:Unit):SC Bool (Step Unit Bool) :=
.reg 11 [] [] [.w c,.ev 0]<|
 let a:=(f.L.B.getD c dF)
.call (@F_q1z_ok f a.K a.O) fun b d=>
.calld [(!b)=false] dF (@F_q21_ok f a.K a.O) fun g e =>
.reg 12 [] [(5,hc d [] true),(13,hc e [] true)] [.cl 2 d [] 2 true,.clg 0 [(!b)=false] e [] 2 true]<|
.ite (cO (!b) (decide (g<0))) (
.r (.ret false)) (
.r (.cont ()))
def S_q2 (a:TOf):SC Bool Bool :=
 let b:=(cO (cO (decide (a.H<1)) (decide (a.H>6))) (decide ((a.S.length:Int)>60)))
.calld [b=false] dF (@F_q1t_ok a.L) fun d c =>
.reg 1 [] [(17,hc c [] true)] [.clg 0 [b=false] c [] 1 true]<|
.ite (cO b (!d)) (
.r false) (
.range (a.S.length:Int) a.S.length rfl (.slot 28) 30 [1,28,29] (fun (_:Unit)=>[]) (fun _=>[]) () (S_q2_b1 a) (fun _ => 
.range (a.L.B.length:Int) a.L.B.length rfl (.slot 56) 58 [1,56,57] (fun (_:Unit)=>[]) (fun _=>[]) () (S_q2_b2 a) (fun _ => 
.r true) id) id)
def F_q2 (a:TOf):=(S_q2 a).den
theorem F_q2_ok {a:TOf}:FO (F_q2 a) 68 [(TOf.d a)] [] vb NL:=fO (s:=S_q2 a) Tryz.func68
def S_q1g (b:TOf) (o:Int) (p:Int):SC (TWa×Int) (TWa×Int) :=
.a 1 1 2 (@F_q2_ok b) fun l=>
 let c:=(⟨0,0,[],0,0,0,0,0,0,0,0,0,0,0⟩:TWa)
.ite (!l) (
.r (c,1)) (
.a 3 5 2 (@F_ql_ok o 1 (b.L.I.length:Int)) fun m=>
.ite (!m) (
.r (c,6)) (
 let f:=(i64.wrap (o-1))
.guard [(0:Int)<=f,f.toNat<b.L.I.length]<|
.reg 5 [] [] [.ev 0,.ev 1]<|
 let d:=(b.L.I.getD f.toNat dF)
.ite d.X (
.r (c,9)) (
.a 7 1 2 (@F_q14_ok p) fun n=>
.ite (!n) (
.r (c,2)) (
.reg 9 [] [] [.ev 3,.ev 4]<|
 let g:=(i64.wrap (d.A-1))
.guard [(0:Int)<=g,g.toNat<b.L.F.length]<|
.reg 10 [] [] [.ev 0,.ev 1]<|
 let h:=(b.L.F.getD g.toNat dF)
 let i:=(i64.wrap (h.E-1))
.guard [(0:Int)<=i,i.toNat<b.L.D.length]<|
.reg 11 [] [] [.ev 0,.ev 1]<|
 let e:=(b.L.D.getD i.toNat dF)
 let j:=(i64.wrap (e.C-1))
.guard [(0:Int)<=j,j.toNat<b.L.B.length]<|
.reg 12 [] [] [.ev 0,.ev 1]<|
 let k:=(b.L.B.getD j.toNat dF)
.r ((⟨p,b.H,k.K,k.O,h.H,d.M,e.H,k.H,h.J,e.Q,d.N,e.T,0,0⟩:TWa),0)))))
def F_q1g (a:TOf) (b:Int) (c:Int):=(S_q1g a b c).den
theorem F_q1g_ok {a:TOf} {b:Int} {c:Int}:FO (F_q1g a b c) 33 [(TOf.d a),(vi b),(vi c)] [] (fun x=>(AV.tup [(TWa.d x.1),(vi x.2)])) NL:=fO (s:=S_q1g a b c) Tryz.func33
theorem cz1:OLe (bx (DV.agg [(DV.i .i64 0),Z0,(DV.agg [Z0,Z0,Z0,Z0])])) (TOf.b (⟨0,[],(⟨[],[],[],[]⟩:TBo)⟩:TOf)):=z35 (DLe.agg (DLeL.cons (DLe.refl _) (DLeL.cons DLe.sl0 (DLeL.cons (DLe.agg (DLeL.cons DLe.sl0 (DLeL.cons DLe.sl0 (DLeL.cons DLe.sl0 (DLeL.cons DLe.sl0 DLeL.nil))))) DLeL.nil))))
def S_q22:SC Bool Bool :=
 let A:=(⟨1,1,4320,30,0,2,4400⟩:TCo)
 let B:=(⟨1,[49],12,4320,50,0⟩:TRe)
 let C:=(⟨1,1,1,4340,false⟩:TOr)
 let D:=(⟨[49],12,50,0,0⟩:TRi)
 let E:=(⟨1,1,4330,30⟩:TVe)
 let c:=([D]:List TRi)
 let f:=([B]:List TRe)
 let g:=([A]:List TCo)
 let h:=([E]:List TVe)
 let j:=([C]:List TOr)
.reg 1 [] [(1,hv (AV.d (eL TRi.e c))),(3,hv (AV.d (eL TRe.e f))),(5,hv (AV.d (eL TCo.e g))),(7,hv (AV.d (eL TVe.e h))),(9,hv (AV.d (eL TOr.e j))),(12,{ obs:=[(0,(TOf.b (⟨0,[],(⟨[],[],[],[]⟩:TBo)⟩:TOf)))] })] [.pf (zu TRi.e c),.pf (zu TRe.e f),.pf (zu TCo.e g),.pf (zu TVe.e h),.pf (zu TOr.e j),.pf cz1]<|
.a 2 1 1 (@F_q1g_ok (⟨1,c,(⟨f,g,h,j⟩:TBo)⟩:TOf) 1 7) fun s=>
.call (@F_qa_ok ([3,4]:List Int) s.1 false) fun t u=>
 let k:=(AV.d (eL (DV.i .u64) ([3,4]:List Int)))
.reg 3 [] [(0,hv k),(2,hc u [] true)] [.pf (zu (DV.i .u64) ([3,4]:List Int)),.cl 0 u [] 2 true]<|
.call (@F_qa_ok ([3,4]:List Int) t.1 true) fun m v=>
.reg 4 [] [(0,hv k),(2,hc v [] true)] [.pf (zu (DV.i .u64) ([3,4]:List Int)),.cl 0 v [] 2 true]<|
 let l:=(bif (bif (s.2==0) then (t.2==0) else false) then (m.2==0) else false)
.calld [l=true] dF (@F_qg_ok ([3,4]:List Int) m.1) fun F w =>
 let n:=(bif l then (F==0) else false)
.calld [n=true] dF (@F_q7_ok m.1) fun G x =>
 let o:=(bif n then (G==([119,97,114,114,97,110,116,32,55,32,49,32,49,32,49,50,32,49,32,49,32,49,32,49,32,51,48,32,50,32,52,51,52,48,32,52,52,48,48])) else false)
.calld [o=true] dF (@F_q6_ok ([])) fun H y =>
 let q:=(bif o then (H==14695981039346656037) else false)
.calld [q=true] dF (@F_q6_ok ([97])) fun I z =>
.reg 5 [] [(11,hv k),(13,hc w [] true),(18,hc x [] true),(22,hc y [] true),(26,hc z [] true)] [.pf (p:=AllP [l=true]->(LeV (AV.d (DV.sl 2 (listF (DV.b false) [(DV.i .u64 3),(DV.i .u64 4)]))) k)) (fun _hg=>zu (DV.i .u64) ([3,4]:List Int)),.clg 6 [l=true] w [] 2 true,.clg 4 [n=true] x [] 2 true,.clg 2 [o=true] y [] 2 true,.clg 0 [q=true] z [] 2 true]<|
.r (bif q then (I==12638187200555641996) else false)
def F_q22:=S_q22.den
theorem F_q22_ok :FO F_q22 13 [] [] vb NL:=fO (s:=S_q22) Tryz.func13
def S_q1h (a0:(List Int)) (Y:Int) (Z:Int):SC Bool Bool :=
.call (@F_qz_ok a0) fun aa ab=>
.k 1 1 ab [] 0 false<|
.call (@F_qc_ok 3 aa) fun g ac=>
.k 2 1 ac [0] 1 false<|
.call (@F_qf_ok ([]) g.2) fun j ad=>
.k 3 1 ad [0] 1 false<|
.a 4 2 2 (@F_qa_ok g.1 j.1 false) fun l=>
.a 5 2 3 (@F_qa_ok g.1 l.1 true) fun c=>
.a 6 2 4 (@F_qa_ok g.1 j.1 true) fun u=>
.call (@F_q17_ok c.1) fun ae B=>
.call (@F_q1n_ok ae) fun f D=>
.reg 7 [] [(1,hc B [] true),(2,hc D [] true)] [.cl 1 B [] 5 true,.cl 0 D [] 5 true]<|
 let v:=(cO (cO (cO (l.2 != 0) (c.2 != 0)) (f.2 != 0)) (!((f.1.H==c.1.H)&&((f.1.G==c.1.G)&&((f.1.K==c.1.K)&&((f.1.O==c.1.O)&&((f.1.A==c.1.A)&&((f.1.M==c.1.M)&&((f.1.E==c.1.E)&&((f.1.C==c.1.C)&&((f.1.J==c.1.J)&&((f.1.Q==c.1.Q)&&((f.1.N==c.1.N)&&((f.1.T==c.1.T)&&((f.1.P==c.1.P)&&((f.1.R==c.1.R)&&true))))))))))))))))
.calld [v=false] dF (@F_qg_ok g.1 c.1) fun af F =>
 let w:=(cO v (af != 0))
.calld [w=false] dF (@F_q18_ok g.1 c.1) fun I m =>
.reg 8 [] [(18,hc F [] true),(24,hc m [] true)] [.clg 2 [v=false] F [] 6 true,.clg 0 [w=false] m [] 6 true]<|
.ite (cO w (I != 0)) (
.r false) (
 let L:=(bif (j.1.P != l.1.P) then (u.2 != 18) else false)
.ite L (
.r false) (
 let S:=[(1,(AV.d (DV.i .u64 Y))),(2,(AV.d (DV.i .u64 Z))),(8,(AV.d (eL (DV.i .u64) g.1))),(12,(vp 3)),(89,(vb L))]
.sh (H:=NoH) (A:=True) (.pf trivial) S S [(TTape.b j.2),(TWa.b j.1),(TWa.b l.1),(TWa.b c.1),(TWa.b u.1),(TWa.b f.1)] [(TTape.b j.2),(TWa.b j.1),(TWa.b l.1),(TWa.b c.1),(TWa.b u.1),(TWa.b f.1),Ob.unb] (fun _=>ze1) (zab _)<|
.reg 12 [2,3,4,5] [(3,{ h:=.born 6 false })] []<|
.call (@F_qg_ok g.1 (⟨c.1.H,c.1.G,c.1.K,c.1.O,c.1.A,c.1.M,c.1.E,c.1.C,c.1.J,c.1.Q,c.1.N,c.1.T,Y,c.1.R⟩:TWa)) fun U n=>
 let x:=(!((U==0)==(Y==c.1.P)))
.calld [x=false] dF (@F_qg_ok g.1 (⟨c.1.H,c.1.G,c.1.K,c.1.O,c.1.A,c.1.M,c.1.E,c.1.C,c.1.J,c.1.Q,c.1.N,c.1.T,c.1.P,Z⟩:TWa)) fun V o =>
.reg 14 [] [(2,hc n [] true),(12,hc o [] true)] [.cl 2 n [] 8 true,.clg 0 [x=false] o [] 8 true]<|
.ite (cO x (!((V==0)==(Z==c.1.R)))) (
.r false) (
.reg 17 [] [] [.pf (p:=(800:Int)≠0) dk]<|
.a 18 2 9 (@F_qa_ok g.1 (⟨c.1.H,c.1.G,c.1.K,c.1.O,c.1.A,c.1.M,c.1.E,c.1.C,(i64.wrap (100+(c.1.J.tmod 800))),c.1.Q,c.1.N,c.1.T,c.1.P,c.1.R⟩:TWa) false) fun q=>
.a 19 2 9 (@F_qa_ok g.1 q.1 true) fun e=>
.reg 21 [] [] [.pf (p:=(10:Int)≠0) dk,.pf (p:=(9:Int)≠0) dk]<|
 let y:=(bif (q.2==0) then (e.2==0) else false)
.calld [y=true] dF (@F_qg_ok g.1 (⟨e.1.H,e.1.G,e.1.K,e.1.O,e.1.A,e.1.M,e.1.E,e.1.C,(i64.wrap (e.1.J+(i64.wrap (1-(i64.wrap (2 * (i64.wrap ((e.1.J.tmod 10).tdiv 9)))))))),e.1.Q,e.1.N,e.1.T,e.1.P,e.1.R⟩:TWa)) fun W s =>
 let z:=(bif y then (W==18) else false)
.calld [z=true] dF (@F_q22_ok) fun X t =>
.reg 22 [] [(9,hc s [] true),(13,hc t [] true)] [.clg 2 [y=true] s [] 10 true,.clg 0 [z=true] t [] 10 true]<|
.r (bif z then X else false))))
def F_q1h (a:(List Int)) (b:Int) (c:Int):=(S_q1h a b c).den
theorem F_q1h_ok {a:(List Int)} {b:Int} {c:Int}:FO (F_q1h a b c) 3 [(vl a),(AV.d (DV.i .u64 b)),(AV.d (DV.i .u64 c))] [] vb NL:=fO (s:=S_q1h a b c) Tryz.func3
end
end Go.Proofs.YtiohhffifhaboaaGreatDoor
/- What the functions compute,and that their calls return it. No condition. -/
namespace Go.Proofs.YtiohhffifhaboaaGreatDoor
open Go Go.TA
open Go.IntKind (i64)
noncomputable section
set_option maxRecDepth 100000
end
end Go.Proofs.YtiohhffifhaboaaGreatDoor
/- What the functions compute,and that their calls return it. No condition. -/
namespace Go.Proofs.YtiohhffifhaboaaGreatDoor
open Go Go.TA
open Go.IntKind (i64)
noncomputable section
set_option maxRecDepth 100000
end
end Go.Proofs.YtiohhffifhaboaaGreatDoor
/- What the functions compute,and that their calls return it. No condition. -/
namespace Go.Proofs.YtiohhffifhaboaaGreatDoor
open Go Go.TA
open Go.IntKind (i64)
noncomputable section
set_option maxRecDepth 100000
end
end Go.Proofs.YtiohhffifhaboaaGreatDoor
/- What the functions compute,and that their calls return it. No condition. -/
namespace Go.Proofs.YtiohhffifhaboaaGreatDoor
open Go Go.TA
open Go.IntKind (i64)
noncomputable section
set_option maxRecDepth 100000
end
end Go.Proofs.YtiohhffifhaboaaGreatDoor
/- What the functions compute,and that their calls return it. No condition. -/
namespace Go.Proofs.YtiohhffifhaboaaGreatDoor
open Go Go.TA
open Go.IntKind (i64)
noncomputable section
set_option maxRecDepth 100000
end
end Go.Proofs.YtiohhffifhaboaaGreatDoor
/- What the functions compute,and that their calls return it. No condition. -/
namespace Go.Proofs.YtiohhffifhaboaaGreatDoor
open Go Go.TA
open Go.IntKind (i64)
noncomputable section
set_option maxRecDepth 100000
end
end Go.Proofs.YtiohhffifhaboaaGreatDoor
/- What the functions compute,and that their calls return it. No condition. -/
namespace Go.Proofs.YtiohhffifhaboaaGreatDoor
open Go Go.TA
open Go.IntKind (i64)
noncomputable section
set_option maxRecDepth 100000
end
end Go.Proofs.YtiohhffifhaboaaGreatDoor
