/- A part of the proof: what the functions compute, and that their calls return it. No condition. -/
import Derived.Test.YtbmpcbbimefmoaaGreatDoorT3
import Derived.RangeFuncBound
import Derived.Shelf.Abstract
import Derived.Shelf.RegionOpen
import Derived.WalkKit
import Derived.OwnWalkIn
import Derived.TacticsInMore
import Derived.LoopNIn
import Derived.LoopIn
import Derived.Shelf.Strings.Search3
import Derived.Test.YtbmpcbbimefmoaaGreatDoorProg
import Derived.Shelf.Slices.CompactI
import Derived.Shelf.Strconv.AtoiAll
import Derived.Shelf.Strconv.Itoa3
namespace Go.Proofs.YtbmpcbbimefmoaaGreatDoor
open Go Go.TA Go.RowKit Go.Shelf
attribute [local go_sem] Oper.semAt_some
def encS (l:Y8):Value:=.string ⟨l.toArray⟩
def leftLen (bs:Nat) (w:World):Nat:=match w.cell? ⟨bs,0,none⟩ with
 | some (.string s)=>s.size
 | _=>0
variable {w:World} {bs:Nat} {l:Y8}
theorem zaw (h:w.cell? ⟨bs,0,none⟩=some (encS l)):leftLen bs w=l.length:=by
 unfold leftLen; rw[h]; simp[encS,ByteArray.size]
variable {n:Nat}
theorem z9i {m:Nat} {P:Program} {l f:Nat} {tmps:Array Value} {assign body:Code} {R:Ending->World->Prop} (h:RoundIn Fence.wide n P l f tmps assign body w R):RoundIn Fence.wide m P l f tmps assign body w R :=
 ⟨h.1,fun c cs _=>h.2 c cs (room_wide _)⟩
theorem zer (hIdx:∀ (s:ByteArray) (w:World),Calls Tryz.prog 197 #[.string s,.string ⟨#[46]⟩] w fun e w'=>e = .returned (.int .i64 (Lib.indexByte s.data.toList 46))/\w'=w) {bsep bsv:Nat} (h1:w.cell? ⟨bsep,0,none⟩=some (.string ⟨#[46]⟩)) (h2:w.cell? ⟨bs,0,none⟩=some (encS l)) (h2f:w.frozen? ⟨bs,0,none⟩=false) (h3:w.cell? ⟨bsv,0,none⟩=some (.int .i64 0)) (n1:bsep≠bs) (n2:bsv≠bs) (hl:l.length<4611686018427387904) :
  SeqT Tryz.prog (n+1) 195 #[.pointer (some ⟨bsep,0,none⟩),.pointer (some ⟨bs,0,none⟩),.pointer (some ⟨bsv,0,none⟩)] encS (fun k=>k=bs) [bsep,bs,bsv] w (fun xs=>xs=pieces l) (fun ys=>∃ zs,pieces l=ys++zs):=by
 intro y J Jx W hsz hcap hJ hJx hY h0
 refine callsIn_of_wp Tryz.func195 rfl trivial ?_ rfl
 simp only[Tryz.ntmps195,y2l,y10,y1n,Nat.reduceAdd,Nat.reduceSub,y5i,y5j,y64,y5s,y2e,y2f]
 have hcell:∀ {A B:World} {k:Nat},B.heap[k]? = A.heap[k]? -> B.cell? ⟨k,0,none⟩=A.cell? ⟨k,0,none⟩:=fun h=>by simp[World.cell?,h]
 have hfroz:∀ {A B:World} {k:Nat},B.heap[k]? = A.heap[k]? -> B.frozen? ⟨k,0,none⟩=A.frozen? ⟨k,0,none⟩:=fun h=>by simp[World.frozen?,h]
 have g1:W.cell? ⟨bsep,0,none⟩=some (.string ⟨#[46]⟩):=(hcell (hcap _ sj)).trans h1
 have g2:W.cell? ⟨bs,0,none⟩=some (encS l):=(hcell (hcap _ sj)).trans h2
 have g2f:W.frozen? ⟨bs,0,none⟩=false:=(hfroz (hcap _ sj)).trans h2f
 have g3:W.cell? ⟨bsv,0,none⟩=some (.int .i64 0):=(hcell (hcap _ sj)).trans h3
 gi_wp2
 gi_loopw [7] (fun _ wr=>∃ (pre:List Y8) (rest:Y8),pieces l=pre++pieces rest/\rest.length<=l.length/\wr.cell? ⟨bs,0,none⟩=some (encS rest)/\wr.frozen? ⟨bs,0,none⟩=false/\wr.cell? ⟨bsep,0,none⟩=some (.string ⟨#[46]⟩)/\wr.cell? ⟨bsv,0,none⟩=some (.int .i64 0)/\J pre wr)
  (fun _ wr=>leftLen bs wr)
 case atStart =>
  exact⟨[],l,rfl,yc _,g2,g2f,g1,g3,h0⟩
 case round =>
  obtain⟨pre,rest,hx,hlr,k2,k2f,k1,k3,hJs⟩:=hrel
  obtain⟨hp1,hp2⟩:=z88 rest
  have hIw:=hIdx ⟨rest.toArray⟩ wr
  have hlist:(⟨rest.toArray⟩:ByteArray).data.toList=rest:=sj
  rw[hlist] at hIw; clear hlist
  simp only[encS] at k2
  by_cases hi:Lib.indexByte rest 46=-1
  ·rw[hi] at hIw
   obtain⟨fn,tmps,assign,body,hy,hR⟩:=hY pre rest wr ⟨[],by rw[hx,hp1 hi]; simp⟩ hJs
   dsimp only [encS] at hy
   gi_wp2_with (refine⟨trivial,?_⟩; gi_at_call 197; refine (y5g.2 hIw).mono ?_; rintro e w' ⟨rfl,rfl⟩)
   refine (z9i hR).mono ?_
   rintro e W' (⟨rfl,hJ',hk⟩ | ⟨rfl,hJx'⟩)
   ·gi_wp2
    go_end0
    exact⟨⟨_,rfl⟩,.inl ⟨pre++[rest],by rw[hx,hp1 hi],hJ'⟩⟩
   ·gi_wp2
    go_end0
    exact⟨⟨_,rfl⟩,.inr ⟨_,hJx'⟩⟩
  ·obtain⟨i0,i1,i2⟩:=hp2 hi
   obtain⟨m,hm⟩:∃ m:Nat,Lib.indexByte rest 46=m:=⟨(Lib.indexByte rest 46).toNat,om⟩
   rw[hm] at hIw i1 i2
   rw[yi] at i1 i2
   have e1:encS (rest.take m)=Value.string ((⟨rest.toArray⟩:ByteArray).extract 0 m):=by
    unfold encS; congr 1; apply ByteArray.ext; simp[ByteArray.data_extract]
   obtain⟨fn,tmps,assign,body,hy,hR⟩:=hY pre (rest.take m) wr ⟨pieces (rest.drop (m+1)),by rw[hx,i2]; simp⟩ hJs
   rw[e1] at hy
   gi_wp2_with (refine⟨trivial,?_⟩; gi_at_call 197; refine (y5g.2 hIw).mono ?_; rintro e w' ⟨rfl,rfl⟩)
   refine (z9i hR).mono ?_
   rintro e W' (⟨rfl,hJ',hk⟩ | ⟨rfl,hJx'⟩)
   ·have q1:=(hcell (hk.2 bsep sj)).trans k1
    have q2:=(hcell (hk.2 bs sj)).trans k2
    have q2f:=(hfroz (hk.2 bs sj)).trans k2f
    have q3:=(hcell (hk.2 bsv sj)).trans k3
    gi_wp2
    have e2:Value.string ((⟨rest.toArray⟩:ByteArray).extract (m+1) rest.length)=encS (rest.drop (m+1)):=by
     unfold encS; congr 1; apply ByteArray.ext; simp[ByteArray.data_extract]; exact y2w sj
    rw[e2]
    have hc2:=World.cell?_setCell_same' W' ⟨bs,0,none⟩ (encS (rest.drop (m+1))) (by rw[q2]; rfl)
    refine⟨⟨pre++[rest.take m],rest.drop (m+1),?_,?_,hc2,?_,?_,?_,?_⟩,?_⟩
    ·rw[hx,i2,y25]; rfl
    ·rw[y21]; omega
    ·rw[World.frozen?_setCell]; exact q2f
    ·exact (hcell (Below.heap_setCell W' ⟨bs,0,none⟩ _ bsep n1)).trans q1
    ·exact (hcell (Below.heap_setCell W' ⟨bs,0,none⟩ _ bsv n2)).trans q3
    ·exact hJ _ _ _ hJ' ⟨⟨rfl,rfl,rfl⟩,by show W'.heap.size<=(W'.heap.modify _ _).size; rw[Array.size_modify]; exact yc _,fun k _ hk=>Below.heap_setCell W' ⟨bs,0,none⟩ _ k hk⟩
    ·rw[zaw hc2,zaw (l:=rest) k2,y21]; omega
   ·gi_wp2
    exact bodyPost_ret (results_none rfl _ _ _) rfl ⟨⟨_,rfl⟩,.inr ⟨_,hJx'⟩⟩
end Go.Proofs.YtbmpcbbimefmoaaGreatDoor
namespace Go.Proofs.YtbmpcbbimefmoaaGreatDoor
open Go Go.TA Go.RowKit Go.Shelf
attribute [local go_sem] Oper.semAt_some
theorem zbv (n:Nat) (s:ByteArray) (w:World):CallsIn Fence.wide (n+1) Tryz.prog 176 #[.string s,.string ⟨#[46]⟩,.int .i64 0] w fun e w' =>
  e = .returned (.func (.func 195) #[] #[.pointer (some ⟨w.heap.size+1,0,none⟩),.pointer (some ⟨w.heap.size,0,none⟩),.pointer (some ⟨w.heap.size+2,0,none⟩)]) /\
   w'=((w.alloc (.cells #[.string s] 9)).alloc (.cells #[.string ⟨#[46]⟩] 9)).alloc (.cells #[.int .i64 0] 3):=by
 refine callsIn_of_wp Tryz.func176 rfl trivial ?_ rfl
 simp only[Tryz.ntmps176,y2l,y10,y1n,Nat.reduceAdd,Nat.reduceSub,y5i,y5j,y64,y5s,y2e,y2f]
 gi_wp2
 exact bodyPost_ret (results_tmp rfl _ _ _) rfl ⟨rfl,rfl⟩
theorem zdn (n:Nat) (s:ByteArray) (w:World):CallsIn Fence.wide (n+2) Tryz.prog 152 #[.string s,.string ⟨#[46]⟩] w fun e w' =>
  e = .returned (.func (.func 195) #[] #[.pointer (some ⟨w.heap.size+1,0,none⟩),.pointer (some ⟨w.heap.size,0,none⟩),.pointer (some ⟨w.heap.size+2,0,none⟩)]) /\
   w'=((w.alloc (.cells #[.string s] 9)).alloc (.cells #[.string ⟨#[46]⟩] 9)).alloc (.cells #[.int .i64 0] 3):=by
 refine callsIn_of_wp Tryz.func152 rfl trivial ?_ rfl
 simp only[Tryz.ntmps152,y2l,y10,y1n,Nat.reduceAdd,Nat.reduceSub,y5i,y5j,y64,y5s,y2e,y2f]
 gi_wp2
 refine⟨trivial,?_⟩
 refine (zbv n s w).mono ?_
 rintro e w' ⟨rfl,rfl⟩
 gi_wp2
 exact bodyPost_ret (results_tmp rfl _ _ _) rfl ⟨rfl,rfl⟩
end Go.Proofs.YtbmpcbbimefmoaaGreatDoor
/- The layings of library contracts at this program. No condition. -/
namespace Go.Proofs
open Go.Shelf
def Tryz.lays143_ren:Go.Shelf.Ren:=⟨fun | 143=>197 | 219=>215 | 217=>224 | 225=>225 | 224=>226 | 267=>227 | 266=>239 | 314=>240 | n=>n,fun | 9=>9 | 3=>3 | 4=>4 | 5=>5 | 46=>129 | 146=>274 | 51=>240 | n=>n,fun | 1=>0 | n=>n⟩
theorem Tryz.lays143:Go.Proofs.Lays.n143 Tryz.prog Tryz.lays143_ren:=by
 constructor <;> intros <;> kernel_rfl
def Tryz.lays172_ren:Go.Shelf.Ren:=⟨fun | 172=>153 | 244=>177 | 245=>178 | 247=>198 | 279=>199 | 280=>200 | 281=>201 | 282=>202 | 287=>216 | 316=>217 | 171=>81 | 205=>218 | 321=>228 | 322=>229 | 243=>132 | 246=>159 | 283=>181 | 284=>182 | 285=>183 | 286=>184 | 129=>204 | 317=>203 | 318=>205 | 319=>206 | 320=>207 | 337=>219 | 338=>220 | n=>n,fun | 9=>9 | 3=>3 | 75=>184 | 76=>185 | 4=>4 | 5=>5 | 167=>232 | 37=>214 | 0=>0 | 85=>233 | 2=>2 | 168=>235 | 53=>157 | 175=>247 | 46=>129 | 210=>250 | 127=>259 | 145=>262 | 143=>260 | 21=>21 | 171=>211 | 173=>215 | 212=>239 | 51=>240 | 20=>20 | 213=>241 | 232=>263 | 233=>264 | 80=>280 | n=>n,fun | 15=>2 | 16=>3 | 17=>1 | 18=>6 | 19=>7 | n=>n⟩
theorem Tryz.lays172:Go.Proofs.LaysC.n172 Tryz.prog Tryz.lays172_ren:=by
 constructor <;> first | (intros; kernel_rfl) | (constructor <;> first | (intros; kernel_rfl) | (constructor <;> intros <;> kernel_rfl))
def Tryz.lays171_ren:Go.Shelf.Ren:=⟨fun | 171=>81 | 243=>132 | 246=>159 | 283=>181 | 284=>182 | 285=>183 | 286=>184 | 129=>204 | 317=>203 | 318=>205 | 319=>206 | 320=>207 | 337=>219 | 338=>220 | n=>n,fun | 3=>3 | 9=>9 | 2=>2 | 4=>4 | 171=>211 | 0=>0 | 53=>157 | 37=>214 | 5=>5 | 173=>215 | 212=>239 | 51=>240 | 20=>20 | 213=>241 | 46=>129 | 232=>263 | 233=>264 | n=>n,fun | 17=>1 | 18=>6 | 19=>7 | n=>n⟩
theorem Tryz.lays171:Go.Proofs.Lays.n171 Tryz.prog Tryz.lays171_ren:=by
 constructor <;> intros <;> kernel_rfl
end Go.Proofs
namespace Go.TA
open Go
abbrev Scr.r {P:Program} {ρ α:Type} (a:α):Scr P ρ α:=.ret [] a
abbrev Scr.c {P:Program} {ρ σ:Type} (a:σ):Scr P ρ (Step σ ρ):=.ret [] (.cont a)
abbrev Scr.b {P:Program} {ρ σ:Type} (a:σ):Scr P ρ (Step σ ρ):=.ret [] (.brk a)
abbrev Scr.t {P:Program} {ρ σ:Type} (a:ρ):Scr P ρ (Step σ ρ):=.ret [] (.ret a)
abbrev Scr.n {P:Program} {ρ σ α:Type} (a:σ):Scr P ρ (Out σ α):=.ret [] (.next a)
abbrev Scr.o {P:Program} {ρ σ α:Type} (a:α):Scr P ρ (Out σ α):=.ret [] (.ret a)
abbrev Scr.k {P:Program} {ρ α:Type} (n m:Nat) (c:CR) (σ:List Nat) (k:Nat) (b:Bool) (x:Scr P ρ α):Scr P ρ α:=.reg n [] [(m,hc c σ b)] [.cl 0 c σ k b] x
abbrev Scr.a {P:Program} {ρ α R:Type} (n m k:Nat) {f:FuncId} {z:List AV} {L:List Ob} {V:R->AV} {L':R->List Ob} {y:Option R} (ok:∀ r,y=some r->CallOk P f z L (V r) (L' r)) (x:R->Scr P ρ α):Scr P ρ α:=.call ok fun r c=>.reg n [] [(m,hc c [] true)] [.cl 0 c [] k true] (x r)
abbrev Why.e {α:Type} (x:α):Why:=.pf (y2p x)
abbrev Why.w (n:Nat):Why:=.pf (nn n)
end Go.TA
namespace Go.Proofs.YtbmpcbbimefmoaaGreatDoor
open Go Go.TA Go.RowKit
abbrev SC:=Scr Tryz.prog
abbrev FO {ρ:Type} (f:Option ρ) (i:FuncId) (a:List AV) (L:List Ob) (V:ρ->AV) (Lr:ρ->List Ob):Prop:=∀ r,f=some r->CallOk Tryz.prog i a L (V r) (Lr r)
theorem fO {ρ:Type} {fn:Func} {V:ρ->AV} {Lr:ρ->List Ob} {f:FuncId} {c:Code} {a:List AV} {L:List Ob} {s:SC ρ ρ} (hf:Tryz.prog.funcs[f]?=some fn) (hb:fn.body=some c:=by rfl) (h:fvc Tryz.prog fn V Lr false c a L s=fvc Tryz.prog fn V Lr true c a L s:=by kernel_rfl):FO s.den f a L V Lr:=fun _ k=>fOk hf hb h k
abbrev NL {ρ:Type} (_:ρ):List Ob:=[]
noncomputable def F_q5h (l:Y8):Option (Int×Bool):=guardP (l.length<=281474976710656) (some (atoiF l))
def V_q5h (x:Int×Bool):AV:=.tup [.d (.i .i64 x.1),.err x.2]
def L_q5h (_:Int×Bool):List Ob:=[]
theorem F_q5h_ok {l:Y8} (r:Int×Bool) (h:F_q5h l=some r):CallOk Tryz.prog 153 [.d (.str l)] [] (V_q5h r) (L_q5h r):=by
 obtain⟨hl,h⟩:=z2x h
 obtain rfl:=y15 h
 refine zfo (te:=Tryz.lays172_ren.t 168) (gs:=2) (gr:=3) dk dk (fun s hs v hv w=>?_) (fun s hs hv hv' ev w h1 h2=>?_) (fun s hs hv ev w h1 h2=>?_) hl
 ·refine (Any.strconv_Atoi_ok Tryz.lays172 s om v hv w).mono ?_
  rintro e w' ⟨rfl,(rfl | ⟨t,rfl⟩)⟩
  ·exact⟨rfl,Below.refl _ _⟩
  ·exact⟨rfl,Lib.bytesWorld_below _ _ _⟩
 ·refine (Any.strconv_Atoi_syntax Tryz.lays172 s hs (by
   cases hx:Lib.atoiAll s.data.toList with
   | ok v=>exact absurd hx (hv v)
   | range=>exact absurd hx hv'
   | _=>rfl) ev w h1 h2).mono ?_
  rintro e w' ⟨N,rfl,_,_,hb⟩
  exact⟨N,rfl,hb⟩
 ·refine (Any.strconv_Atoi_range Tryz.lays172 s hs hv ev w h1 h2).mono ?_
  rintro e w' ⟨N,rfl,_,_,hb⟩
  exact⟨N,rfl,hb⟩
noncomputable def F_q5d (n:Int):Option Y8:=guardP (0<=n/\n<100) (some (Lib.decDigits n.toNat))
def V_q5d (x:Y8):AV:=.d (.str x)
def L_q5d (_:Y8):List Ob:=[]
theorem F_q5d_ok {n:Int} (r:Y8) (h:F_q5d n=some r):CallOk Tryz.prog 81 [.d (.i .i64 n)] [] (V_q5d r) (L_q5d r):=by
 obtain⟨hl,h⟩:=z2x h
 obtain rfl:=y15 h
 exact zfp (fun i hi w=>Any.strconv_Itoa_small Tryz.lays171 i hi w) hl.1 hl.2
theorem zo7 (s:ByteArray) (w:World):Calls Tryz.prog 197 #[.string s,.string ⟨#[46]⟩] w fun e w'=>e = .returned (.int .i64 (Lib.indexByte s.data.toList 46))/\w'=w:=Any.strings_Index_one Tryz.lays143 s 46 w
noncomputable def z5z (x:Y8) (s:List Int):SC (List Int) (Step (List Int) (List Int)) :=
.call (@F_q5h_ok x) fun r1 c1 =>
.reg 4 [] [(1,hc c1 [] true)] [.cl 0 c1 [] 3 true] <|
.calld [(cO (cO r1.2 (decide (r1.1<1))) (decide (r1.1>99)))=false] dF (@F_q5d_ok r1.1) fun r2 c2 =>
.reg 5 [] [(12,hc c2 [] true)] [.clg 0 [(cO (cO r1.2 (decide (r1.1<1))) (decide (r1.1>99)))=false] c2 [] 3 true] <|
.ite (cO (cO (cO r1.2 (decide (r1.1<1))) (decide (r1.1>99))) (!(r2==x))) (
.reg 6 [] [] [] <|
.sh (A:=True) (.pf trivial) [(2,(vp 0))] [(2,(vp 0))] [(Ob.box (AV.full 0 fun _=>DV.b false)),(Ob.box (AV.ref 2 s.length 0 s.length)),(eS 1 (DV.i .i64) s)] [(Ob.box (vl ([]:List Int))),(Ob.box (AV.ref 2 s.length 0 s.length)),(eS 1 (DV.i .i64) s)] (fun _=>(zas (.box _ _ _ _ _ (yg rfl) TrV.full (.keep _ _ _ _ (yg rfl) (.keep _ _ _ _ (yg rfl) (.nil _)))))) (z1a (k:=0) rfl (TrS.keep _) z2e) <|
.ret [] (.ret [])) (
.guard [(s.length+1) * (2 * 8)<=2 ^ 48] <|
.reg 7 [] [(2,hv (vl ([r1.1]:List Int))),(3,{ cast:=some (AV.ref 2 ((s++([r1.1]:List Int)).length) 0 ((s++([r1.1]:List Int)).length)),obs:=[(2,(eS 1 (DV.i .i64) (s++([r1.1]:List Int))))] })] [.pf (z7 (DV.i .i64) ([r1.1]:List Int)),.pf (y2p s.length),.pf (y2p s.length),.pf (p:=∀ k,k<1->(AV.d ((DV.i .i64) (([r1.1]:List Int).getD k dF))).wd=1) (fun _ _=>rfl),.ev 0,.pf (zk (o:=2) (l:=s) (x:=([r1.1]:List Int))),.pf (zj (sz:=1) (e:=(DV.i .i64)) (l:=s) (x:=([r1.1]:List Int)))] <|
.ret [] (.cont (s++([r1.1]:List Int))))
noncomputable def za0 (s:List Int):SC (List Int) (List Int) :=
.ite (decide ((s.length:Int)>4)) (
.reg 9 [] [] [] <|
.sh (A:=True) (.pf trivial) [(2,(vp 0))] [(2,(vp 0))] [(Ob.box (AV.full 0 fun _=>DV.b false)),(Ob.box (AV.ref 2 s.length 0 s.length)),(eS 1 (DV.i .i64) s)] [(Ob.box (vl ([]:List Int))),(Ob.box (AV.ref 2 s.length 0 s.length)),(eS 1 (DV.i .i64) s)] (fun _=>(zas (.box _ _ _ _ _ (yg rfl) TrV.full (.keep _ _ _ _ (yg rfl) (.keep _ _ _ _ (yg rfl) (.nil _)))))) (z1a (k:=0) rfl (TrS.keep _) z2e) <|
.ret [] ([]:List Int)) (
.guard [s.length<2 ^ 63] <|
.reg 10 [] [] [] <|
.frz 2 (.ev 0) none [] [0,1] <|
.ret [] s)
def cL:Code->Code
 | .seq x _=>x
 | _=>.skip
def cR:Code->Code
 | .seq _ y=>y
 | _=>.skip
def cI:Code->Code
 | .block _ x=>x
 | _=>.skip
def cA:Code->Code
 | .rangeFunc _ _ x _=>x
 | _=>.skip
def cB:Code->Code
 | .rangeFunc _ _ _ y=>y
 | _=>.skip
noncomputable def c68:Code:=Tryz.f116.body.getD .skip
noncomputable def zdt:Code:=cL c68
noncomputable def zdu:Code:=cL (cR c68)
noncomputable def z95:Code:=cR (cR c68)
noncomputable def z60:Code:=cI (cR (cL z95))
theorem zo8:Tryz.f116.body=some (.seq zdt (.seq zdu (.seq (.seq (cL (cL z95)) (.block 0 (.rangeFunc (.tmp 8) #[9] (cA z60) (cB z60)))) (cR z95)))):=kj
theorem zo9 (z:Option Nat) (x:Y8) (s:List Int) {r:Step (List Int) (List Int)} (hr:(z5z x s).den=some r) :
  AW z Tryz.prog Tryz.f116.ntmps (cB z60) (fun e fr L=>match e with
   | .normal=>∃ s',r = .cont s'/\StLe fr L [] (pLI s')
   | .ret=>∃ y,r = .ret y/\∃ J,L=[.box (.d (eL (.i .i64) y))]++J
   | _=>False) [(4,.d (.str x)),(2,vp 0),(3,vp 1)] (pLI s):=pBody kj hr
theorem zoa (s:List Int) {r:List Int} (hr:(za0 s).den=some r) :
  AW none Tryz.prog Tryz.f116.ntmps (cR z95) (FQ Tryz.prog Tryz.f116 (vl r) []) [(2,vp 0),(3,vp 1)] (pLI s):=pTail (V:=fun r=>vl r) (Lr:=fun _=>[]) kj hr
end Go.Proofs.YtbmpcbbimefmoaaGreatDoor
