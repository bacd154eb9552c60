/- A part of the proof: what the functions compute, and that their calls return it. No condition. -/
import Derived.Test.YtlhikmklpelceaaGreatDoorT4
import Derived.RangeFuncBound
import Derived.Shelf.Abstract
import Derived.Shelf.RegionOpen
import Derived.WalkKit
import Derived.OwnWalkIn
import Derived.TacticsInMore
import Derived.LoopNIn
import Derived.LoopIn
import Derived.Shelf.Strings.Search3
import Derived.Test.YtlhikmklpelceaaGreatDoorProg
import Derived.Shelf.Strings.Fields
import Derived.Shelf.Strconv.AtoiAll
import Derived.Shelf.Strconv.Itoa3
namespace Go.Proofs.YtlhikmklpelceaaGreatDoor
open Go Go.TA Go.RowKit Go.Shelf
attribute [local go_sem] Oper.semAt_some
def encS (l:Y8):Value:=.string ⟨l.toArray⟩
def leftLen (bs:Nat) (w:World):Nat:=match w.cell? ⟨bs,0,none⟩ with
 | some (.string s)=>s.size
 | _=>0
variable {w:World} {bs:Nat} {l:Y8}
theorem zdj (h:w.cell? ⟨bs,0,none⟩=some (encS l)):leftLen bs w=l.length:=by
 unfold leftLen; rw[h]; simp[encS,ByteArray.size]
variable {n:Nat}
theorem zcf {m:Nat} {P:Program} {l f:Nat} {tmps:Array Value} {assign body:Code} {R:Ending->World->Prop} (h:RoundIn Fence.wide n P l f tmps assign body w R):RoundIn Fence.wide m P l f tmps assign body w R :=
 ⟨h.1,fun c cs _=>h.2 c cs (room_wide _)⟩
theorem zhd (hIdx:∀ (s:ByteArray) (w:World),Calls Tryz.prog 217 #[.string s,.string ⟨#[46]⟩] w fun e w'=>e = .returned (.int .i64 (Lib.indexByte s.data.toList 46))/\w'=w) {bsep bsv:Nat} (h1:w.cell? ⟨bsep,0,none⟩=some (.string ⟨#[46]⟩)) (h2:w.cell? ⟨bs,0,none⟩=some (encS l)) (h2f:w.frozen? ⟨bs,0,none⟩=false) (h3:w.cell? ⟨bsv,0,none⟩=some (.int .i64 0)) (n1:bsep≠bs) (n2:bsv≠bs) (hl:l.length<4611686018427387904) :
  SeqT Tryz.prog (n+1) 215 #[.pointer (some ⟨bsep,0,none⟩),.pointer (some ⟨bs,0,none⟩),.pointer (some ⟨bsv,0,none⟩)] encS (fun k=>k=bs) [bsep,bs,bsv] w (fun xs=>xs=pieces l) (fun ys=>∃ zs,pieces l=ys++zs):=by
 intro y J Jx W hsz hcap hJ hJx hY h0
 refine callsIn_of_wp Tryz.func215 rfl trivial ?_ rfl
 simp only[Tryz.ntmps215,y2a,yw,y1q,Nat.reduceAdd,Nat.reduceSub,y5a,y5b,y5r,y5i,y2h,y3l]
 have hcell:∀ {A B:World} {k:Nat},B.heap[k]? = A.heap[k]? -> B.cell? ⟨k,0,none⟩=A.cell? ⟨k,0,none⟩:=fun h=>by simp[World.cell?,h]
 have hfroz:∀ {A B:World} {k:Nat},B.heap[k]? = A.heap[k]? -> B.frozen? ⟨k,0,none⟩=A.frozen? ⟨k,0,none⟩:=fun h=>by simp[World.frozen?,h]
 have g1:W.cell? ⟨bsep,0,none⟩=some (.string ⟨#[46]⟩):=(hcell (hcap _ sj)).trans h1
 have g2:W.cell? ⟨bs,0,none⟩=some (encS l):=(hcell (hcap _ sj)).trans h2
 have g2f:W.frozen? ⟨bs,0,none⟩=false:=(hfroz (hcap _ sj)).trans h2f
 have g3:W.cell? ⟨bsv,0,none⟩=some (.int .i64 0):=(hcell (hcap _ sj)).trans h3
 gi_wp2
 gi_loopw [7] (fun _ wr=>∃ (pre:List Y8) (rest:Y8),pieces l=pre++pieces rest/\rest.length<=l.length/\wr.cell? ⟨bs,0,none⟩=some (encS rest)/\wr.frozen? ⟨bs,0,none⟩=false/\wr.cell? ⟨bsep,0,none⟩=some (.string ⟨#[46]⟩)/\wr.cell? ⟨bsv,0,none⟩=some (.int .i64 0)/\J pre wr)
  (fun _ wr=>leftLen bs wr)
 case atStart =>
  exact⟨[],l,rfl,yf _,g2,g2f,g1,g3,h0⟩
 case round =>
  obtain⟨pre,rest,hx,hlr,k2,k2f,k1,k3,hJs⟩:=hrel
  obtain⟨hp1,hp2⟩:=zap rest
  have hIw:=hIdx ⟨rest.toArray⟩ wr
  have hlist:(⟨rest.toArray⟩:ByteArray).data.toList=rest:=sj
  rw[hlist] at hIw; clear hlist
  simp only[encS] at k2
  by_cases hi:Lib.indexByte rest 46=-1
  ·rw[hi] at hIw
   obtain⟨fn,tmps,assign,body,hy,hR⟩:=hY pre rest wr ⟨[],by rw[hx,hp1 hi]; simp⟩ hJs
   dsimp only [encS] at hy
   gi_wp2_with (refine⟨trivial,?_⟩; gi_at_call 217; refine (y58.2 hIw).mono ?_; rintro e w' ⟨rfl,rfl⟩)
   refine (zcf hR).mono ?_
   rintro e W' (⟨rfl,hJ',hk⟩ | ⟨rfl,hJx'⟩)
   ·gi_wp2
    go_end0
    exact⟨⟨_,rfl⟩,.inl ⟨pre++[rest],by rw[hx,hp1 hi],hJ'⟩⟩
   ·gi_wp2
    go_end0
    exact⟨⟨_,rfl⟩,.inr ⟨_,hJx'⟩⟩
  ·obtain⟨i0,i1,i2⟩:=hp2 hi
   obtain⟨m,hm⟩:∃ m:Nat,Lib.indexByte rest 46=m:=⟨(Lib.indexByte rest 46).toNat,om⟩
   rw[hm] at hIw i1 i2
   rw[ye] at i1 i2
   have e1:encS (rest.take m)=Value.string ((⟨rest.toArray⟩:ByteArray).extract 0 m):=by
    unfold encS; congr 1; apply ByteArray.ext; simp[ByteArray.data_extract]
   obtain⟨fn,tmps,assign,body,hy,hR⟩:=hY pre (rest.take m) wr ⟨pieces (rest.drop (m+1)),by rw[hx,i2]; simp⟩ hJs
   rw[e1] at hy
   gi_wp2_with (refine⟨trivial,?_⟩; gi_at_call 217; refine (y58.2 hIw).mono ?_; rintro e w' ⟨rfl,rfl⟩)
   refine (zcf hR).mono ?_
   rintro e W' (⟨rfl,hJ',hk⟩ | ⟨rfl,hJx'⟩)
   ·have q1:=(hcell (hk.2 bsep sj)).trans k1
    have q2:=(hcell (hk.2 bs sj)).trans k2
    have q2f:=(hfroz (hk.2 bs sj)).trans k2f
    have q3:=(hcell (hk.2 bsv sj)).trans k3
    gi_wp2
    have e2:Value.string ((⟨rest.toArray⟩:ByteArray).extract (m+1) rest.length)=encS (rest.drop (m+1)):=by
     unfold encS; congr 1; apply ByteArray.ext; simp[ByteArray.data_extract]; exact y1y sj
    rw[e2]
    have hc2:=World.cell?_setCell_same' W' ⟨bs,0,none⟩ (encS (rest.drop (m+1))) (by rw[q2]; rfl)
    refine⟨⟨pre++[rest.take m],rest.drop (m+1),?_,?_,hc2,?_,?_,?_,?_⟩,?_⟩
    ·rw[hx,i2,y2u]; rfl
    ·rw[y3d]; omega
    ·rw[World.frozen?_setCell]; exact q2f
    ·exact (hcell (Below.heap_setCell W' ⟨bs,0,none⟩ _ bsep n1)).trans q1
    ·exact (hcell (Below.heap_setCell W' ⟨bs,0,none⟩ _ bsv n2)).trans q3
    ·exact hJ _ _ _ hJ' ⟨⟨rfl,rfl,rfl⟩,by show W'.heap.size<=(W'.heap.modify _ _).size; rw[Array.size_modify]; exact yf _,fun k _ hk=>Below.heap_setCell W' ⟨bs,0,none⟩ _ k hk⟩
    ·rw[zdj hc2,zdj (l:=rest) k2,y3d]; omega
   ·gi_wp2
    exact bodyPost_ret (results_none rfl _ _ _) rfl ⟨⟨_,rfl⟩,.inr ⟨_,hJx'⟩⟩
end Go.Proofs.YtlhikmklpelceaaGreatDoor
namespace Go.Proofs.YtlhikmklpelceaaGreatDoor
open Go Go.TA Go.RowKit Go.Shelf
attribute [local go_sem] Oper.semAt_some
theorem zeg (n:Nat) (s:ByteArray) (w:World):CallsIn Fence.wide (n+1) Tryz.prog 188 #[.string s,.string ⟨#[46]⟩,.int .i64 0] w fun e w' =>
  e = .returned (.func (.func 215) #[] #[.pointer (some ⟨w.heap.size+1,0,none⟩),.pointer (some ⟨w.heap.size,0,none⟩),.pointer (some ⟨w.heap.size+2,0,none⟩)]) /\
   w'=((w.alloc (.cells #[.string s] 9)).alloc (.cells #[.string ⟨#[46]⟩] 9)).alloc (.cells #[.int .i64 0] 3):=by
 refine callsIn_of_wp Tryz.func188 rfl trivial ?_ rfl
 simp only[Tryz.ntmps188,y2a,yw,y1q,Nat.reduceAdd,Nat.reduceSub,y5a,y5b,y5r,y5i,y2h,y3l]
 gi_wp2
 exact bodyPost_ret (results_tmp rfl _ _ _) rfl ⟨rfl,rfl⟩
theorem zg8 (n:Nat) (s:ByteArray) (w:World):CallsIn Fence.wide (n+2) Tryz.prog 148 #[.string s,.string ⟨#[46]⟩] w fun e w' =>
  e = .returned (.func (.func 215) #[] #[.pointer (some ⟨w.heap.size+1,0,none⟩),.pointer (some ⟨w.heap.size,0,none⟩),.pointer (some ⟨w.heap.size+2,0,none⟩)]) /\
   w'=((w.alloc (.cells #[.string s] 9)).alloc (.cells #[.string ⟨#[46]⟩] 9)).alloc (.cells #[.int .i64 0] 3):=by
 refine callsIn_of_wp Tryz.func148 rfl trivial ?_ rfl
 simp only[Tryz.ntmps148,y2a,yw,y1q,Nat.reduceAdd,Nat.reduceSub,y5a,y5b,y5r,y5i,y2h,y3l]
 gi_wp2
 refine⟨trivial,?_⟩
 refine (zeg n s w).mono ?_
 rintro e w' ⟨rfl,rfl⟩
 gi_wp2
 exact bodyPost_ret (results_tmp rfl _ _ _) rfl ⟨rfl,rfl⟩
end Go.Proofs.YtlhikmklpelceaaGreatDoor
/- The layings of library contracts at this program. No condition. -/
namespace Go.Proofs
open Go.Shelf
def Tryz.lays143_ren:Go.Shelf.Ren:=⟨fun | 143=>217 | 219=>254 | 217=>278 | 225=>279 | 224=>280 | 267=>281 | 266=>297 | 314=>298 | n=>n,fun | 9=>9 | 3=>3 | 4=>4 | 5=>5 | 46=>194 | 146=>299 | 51=>286 | n=>n,fun | 1=>5 | n=>n⟩
theorem Tryz.lays143:Go.Proofs.Lays.n143 Tryz.prog Tryz.lays143_ren:={
 mixed:=kj
 f143:=Tryz.func217.trans (yi some kj)
 f217:=Tryz.func278.trans (yi some kj)
 f219:=Tryz.func254.trans (yi some kj)
 f224:=Tryz.func280.trans (yi some kj)
 f225:=Tryz.func279.trans (yi some kj)
 f266:=Tryz.func297.trans (yi some kj)
 f267:=Tryz.func281.trans (yi some kj)
 f314:=Tryz.func298.trans (yi some kj)
 t3:=Tryz.underlying3
 a3:=Tryz.isAgg3
 z3:=Tryz.sizeOf3
 v3:=Tryz.zeroValue3
 t4:=Tryz.underlying4
 a4:=Tryz.isAgg4
 z4:=Tryz.sizeOf4
 v4:=Tryz.zeroValue4
 t5:=Tryz.underlying5
 a5:=Tryz.isAgg5
 z5:=Tryz.sizeOf5
 v5:=Tryz.zeroValue5
 t9:=Tryz.underlying9
 a9:=Tryz.isAgg9
 z9:=Tryz.sizeOf9
 v9:=Tryz.zeroValue9
 t46:=Tryz.underlying194
 a46:=Tryz.isAgg194
 z46:=Tryz.sizeOf194
 v46:=Tryz.zeroValue194
 t51:=Tryz.underlying286
 a51:=Tryz.isAgg286
 z51:=Tryz.sizeOf286
 v51:=Tryz.zeroValue286
 t146:=Tryz.underlying299
 a146:=Tryz.isAgg299
 z146:=Tryz.sizeOf299
 v146:=Tryz.zeroValue299
 g1:=by kernel_rfl }
def Tryz.lays172_ren:Go.Shelf.Ren:=⟨fun | 172=>149 | 244=>189 | 245=>190 | 247=>218 | 279=>219 | 280=>220 | 281=>221 | 282=>222 | 287=>255 | 316=>256 | 171=>150 | 205=>257 | 321=>282 | 322=>283 | 243=>191 | 246=>223 | 283=>258 | 284=>259 | 285=>260 | 286=>261 | 129=>285 | 317=>284 | 318=>286 | 319=>287 | 320=>288 | 337=>299 | 338=>300 | n=>n,fun | 9=>9 | 3=>3 | 75=>190 | 76=>191 | 4=>4 | 5=>5 | 167=>229 | 37=>230 | 0=>0 | 85=>231 | 2=>2 | 168=>233 | 53=>249 | 175=>250 | 46=>194 | 210=>254 | 127=>280 | 145=>283 | 143=>281 | 21=>21 | 171=>256 | 173=>259 | 212=>285 | 51=>286 | 20=>20 | 213=>287 | 232=>316 | 233=>317 | 80=>267 | n=>n,fun | 15=>0 | 16=>1 | 17=>6 | 18=>8 | 19=>9 | n=>n⟩
theorem Tryz.lays172:Go.Proofs.LaysC.n172 Tryz.prog Tryz.lays172_ren:={
 mixed:=kj
 f129:=Tryz.func285.trans (yi some kj)
 f171:=Tryz.func150.trans (yi some kj)
 f172:=Tryz.func149.trans (yi some kj)
 f205:=Tryz.func257.trans (yi some kj)
 f243:=Tryz.func191.trans (yi some kj)
 f244:=Tryz.func189.trans (yi some kj)
 f245:=Tryz.func190.trans (yi some kj)
 f246:=Tryz.func223.trans (yi some kj)
 f247:=Tryz.func218.trans (yi some kj)
 f279:=Tryz.func219.trans (yi some kj)
 f280:=Tryz.func220.trans (yi some kj)
 f281:=Tryz.func221.trans (yi some kj)
 f282:=Tryz.func222.trans (yi some kj)
 f283:=Tryz.func258.trans (yi some kj)
 f284:=Tryz.func259.trans (yi some kj)
 f285:=Tryz.func260.trans (yi some kj)
 f286:=Tryz.func261.trans (yi some kj)
 f287:=Tryz.func255.trans (yi some kj)
 f316:=Tryz.func256.trans (yi some kj)
 f317:=Tryz.func284.trans (yi some kj)
 f318:=Tryz.func286.trans (yi some kj)
 f319:=Tryz.func287.trans (yi some kj)
 f320:=Tryz.func288.trans (yi some kj)
 f321:=Tryz.func282.trans (yi some kj)
 f322:=Tryz.func283.trans (yi some kj)
 f337:=Tryz.func299.trans (yi some kj)
 f338:=Tryz.func300.trans (yi some kj)
 t0:=Tryz.underlying0
 a0:=Tryz.isAgg0
 z0:=Tryz.sizeOf0
 v0:=Tryz.zeroValue0
 t2:=Tryz.underlying2
 a2:=Tryz.isAgg2
 z2:=Tryz.sizeOf2
 v2:=Tryz.zeroValue2
 t3:=Tryz.underlying3
 a3:=Tryz.isAgg3
 z3:=Tryz.sizeOf3
 v3:=Tryz.zeroValue3
 t4:=Tryz.underlying4
 a4:=Tryz.isAgg4
 z4:=Tryz.sizeOf4
 v4:=Tryz.zeroValue4
 t5:=Tryz.underlying5
 a5:=Tryz.isAgg5
 z5:=Tryz.sizeOf5
 v5:=Tryz.zeroValue5
 t9:=Tryz.underlying9
 a9:=Tryz.isAgg9
 z9:=Tryz.sizeOf9
 v9:=Tryz.zeroValue9
 t20:=Tryz.underlying20
 a20:=Tryz.isAgg20
 z20:=Tryz.sizeOf20
 v20:=Tryz.zeroValue20
 t21:=Tryz.underlying21
 a21:=Tryz.isAgg21
 z21:=Tryz.sizeOf21
 v21:=Tryz.zeroValue21
 t37:=Tryz.underlying230
 a37:=Tryz.isAgg230
 z37:=Tryz.sizeOf230
 v37:=Tryz.zeroValue230
 t46:=Tryz.underlying194
 a46:=Tryz.isAgg194
 z46:=Tryz.sizeOf194
 v46:=Tryz.zeroValue194
 t51:=Tryz.underlying286
 a51:=Tryz.isAgg286
 z51:=Tryz.sizeOf286
 v51:=Tryz.zeroValue286
 t53:=Tryz.underlying249
 a53:=Tryz.isAgg249
 z53:=Tryz.sizeOf249
 v53:=Tryz.zeroValue249
 t75:=Tryz.underlying190
 a75:=Tryz.isAgg190
 z75:=Tryz.sizeOf190
 v75:=Tryz.zeroValue190
 t76:=Tryz.underlying191
 a76:=Tryz.isAgg191
 z76:=Tryz.sizeOf191
 v76:=Tryz.zeroValue191
 t85:=Tryz.underlying231
 a85:=Tryz.isAgg231
 z85:=Tryz.sizeOf231
 v85:=Tryz.zeroValue231
 t127:=Tryz.underlying280
 a127:=Tryz.isAgg280
 z127:=Tryz.sizeOf280
 v127:=Tryz.zeroValue280
 t143:=Tryz.underlying281
 a143:=Tryz.isAgg281
 z143:=Tryz.sizeOf281
 v143:=Tryz.zeroValue281
 t145:=Tryz.underlying283
 a145:=Tryz.isAgg283
 z145:=Tryz.sizeOf283
 v145:=Tryz.zeroValue283
 t167:=Tryz.underlying229
 a167:=Tryz.isAgg229
 z167:=Tryz.sizeOf229
 v167:=Tryz.zeroValue229
 t168:=Tryz.underlying233
 a168:=Tryz.isAgg233
 z168:=Tryz.sizeOf233
 v168:=Tryz.zeroValue233
 t171:=Tryz.underlying256
 a171:=Tryz.isAgg256
 z171:=Tryz.sizeOf256
 v171:=Tryz.zeroValue256
 t173:=Tryz.underlying259
 a173:=Tryz.isAgg259
 z173:=Tryz.sizeOf259
 v173:=Tryz.zeroValue259
 t175:=Tryz.underlying250
 a175:=Tryz.isAgg250
 z175:=Tryz.sizeOf250
 v175:=Tryz.zeroValue250
 t210:=Tryz.underlying254
 a210:=Tryz.isAgg254
 z210:=Tryz.sizeOf254
 v210:=Tryz.zeroValue254
 t212:=Tryz.underlying285
 a212:=Tryz.isAgg285
 z212:=Tryz.sizeOf285
 v212:=Tryz.zeroValue285
 t213:=Tryz.underlying287
 a213:=Tryz.isAgg287
 z213:=Tryz.sizeOf287
 t232:=Tryz.underlying316
 a232:=Tryz.isAgg316
 z232:=Tryz.sizeOf316
 v232:=Tryz.zeroValue316
 t233:=Tryz.underlying317
 a233:=Tryz.isAgg317
 z233:=Tryz.sizeOf317
 v233:=Tryz.zeroValue317
 g15:=kj
 g16:=kj
 g17:=kj
 g18:=kj
 g19:=kj
 t80:=Tryz.underlying267
 a80:=Tryz.isAgg267
 z80:=Tryz.sizeOf267
 v80:=Tryz.zeroValue267
 i0:=kj
 i2:=kj
 i3:=kj
 i4:=kj
 i5:=kj
 i9:=kj
 i20:=kj
 i21:=kj
 i37:=kj
 i46:=kj
 i51:=kj
 i53:=kj
 i75:=kj
 i76:=kj
 i80:=kj
 i85:=kj
 i127:=kj
 i143:=kj
 i145:=kj
 i167:=kj
 i168:=kj
 i171:=kj
 i173:=kj
 i175:=kj
 i210:=kj
 i212:=kj
 i232:=kj
 i233:=kj
 m15:=kj
 m16:=kj
 m17:=kj
 m18:=kj
 m19:=kj
 c0:=kj
 c2:=kj
 c3:=kj
 c4:=kj
 c5:=kj
 c9:=kj
 c20:=kj
 c21:=kj
 c37:=kj
 c46:=kj
 c51:=kj
 c53:=kj
 c75:=kj
 c76:=kj
 c80:=kj
 c85:=kj
 c127:=kj
 c143:=kj
 c145:=kj
 c167:=kj
 c168:=kj
 c171:=kj
 c173:=kj
 c175:=kj
 c210:=kj
 c212:=kj
 c213:=kj
 c232:=kj
 c233:=by kernel_rfl }
def Tryz.lays171_ren:Go.Shelf.Ren:=⟨fun | 171=>150 | 243=>191 | 246=>223 | 283=>258 | 284=>259 | 285=>260 | 286=>261 | 129=>285 | 317=>284 | 318=>286 | 319=>287 | 320=>288 | 337=>299 | 338=>300 | n=>n,fun | 3=>3 | 9=>9 | 2=>2 | 4=>4 | 171=>256 | 0=>0 | 53=>249 | 37=>230 | 5=>5 | 173=>259 | 212=>285 | 51=>286 | 20=>20 | 213=>287 | 46=>194 | 232=>316 | 233=>317 | n=>n,fun | 17=>6 | 18=>8 | 19=>9 | n=>n⟩
theorem Tryz.lays171:Go.Proofs.LaysM.n171 Tryz.prog Tryz.lays171_ren:={
 mixed:=kj
 f129:=Tryz.func285.trans (yi some kj)
 f171:=Tryz.func150.trans (yi some kj)
 f243:=Tryz.func191.trans (yi some kj)
 f246:=Tryz.func223.trans (yi some kj)
 f283:=Tryz.func258.trans (yi some kj)
 f284:=Tryz.func259.trans (yi some kj)
 f285:=Tryz.func260.trans (yi some kj)
 f286:=Tryz.func261.trans (yi some kj)
 f317:=Tryz.func284.trans (yi some kj)
 f318:=Tryz.func286.trans (yi some kj)
 f319:=Tryz.func287.trans (yi some kj)
 f320:=Tryz.func288.trans (yi some kj)
 f337:=Tryz.func299.trans (yi some kj)
 f338:=Tryz.func300.trans (yi some kj)
 t0:=Tryz.underlying0
 a0:=Tryz.isAgg0
 z0:=Tryz.sizeOf0
 v0:=Tryz.zeroValue0
 t2:=Tryz.underlying2
 a2:=Tryz.isAgg2
 z2:=Tryz.sizeOf2
 v2:=Tryz.zeroValue2
 t3:=Tryz.underlying3
 a3:=Tryz.isAgg3
 z3:=Tryz.sizeOf3
 v3:=Tryz.zeroValue3
 t4:=Tryz.underlying4
 a4:=Tryz.isAgg4
 z4:=Tryz.sizeOf4
 v4:=Tryz.zeroValue4
 t5:=Tryz.underlying5
 a5:=Tryz.isAgg5
 z5:=Tryz.sizeOf5
 v5:=Tryz.zeroValue5
 t9:=Tryz.underlying9
 a9:=Tryz.isAgg9
 z9:=Tryz.sizeOf9
 v9:=Tryz.zeroValue9
 t20:=Tryz.underlying20
 a20:=Tryz.isAgg20
 z20:=Tryz.sizeOf20
 v20:=Tryz.zeroValue20
 t37:=Tryz.underlying230
 a37:=Tryz.isAgg230
 z37:=Tryz.sizeOf230
 v37:=Tryz.zeroValue230
 t46:=Tryz.underlying194
 a46:=Tryz.isAgg194
 z46:=Tryz.sizeOf194
 v46:=Tryz.zeroValue194
 t51:=Tryz.underlying286
 a51:=Tryz.isAgg286
 z51:=Tryz.sizeOf286
 v51:=Tryz.zeroValue286
 t53:=Tryz.underlying249
 a53:=Tryz.isAgg249
 z53:=Tryz.sizeOf249
 v53:=Tryz.zeroValue249
 t171:=Tryz.underlying256
 a171:=Tryz.isAgg256
 z171:=Tryz.sizeOf256
 v171:=Tryz.zeroValue256
 t173:=Tryz.underlying259
 a173:=Tryz.isAgg259
 z173:=Tryz.sizeOf259
 v173:=Tryz.zeroValue259
 t212:=Tryz.underlying285
 a212:=Tryz.isAgg285
 z212:=Tryz.sizeOf285
 v212:=Tryz.zeroValue285
 t213:=Tryz.underlying287
 a213:=Tryz.isAgg287
 z213:=Tryz.sizeOf287
 t232:=Tryz.underlying316
 a232:=Tryz.isAgg316
 z232:=Tryz.sizeOf316
 v232:=Tryz.zeroValue316
 t233:=Tryz.underlying317
 a233:=Tryz.isAgg317
 z233:=Tryz.sizeOf317
 v233:=Tryz.zeroValue317
 g17:=kj
 g18:=kj
 g19:=kj
 i0:=kj
 i2:=kj
 i3:=kj
 i4:=kj
 i5:=kj
 i9:=kj
 i20:=kj
 i37:=kj
 i46:=kj
 i51:=kj
 i53:=kj
 i171:=kj
 i173:=kj
 i212:=kj
 i232:=kj
 i233:=kj
 m17:=kj
 m18:=kj
 m19:=by kernel_rfl }
def Tryz.lays156_ren:Go.Shelf.Ren:=⟨fun | 156=>232 | 165=>264 | 166=>265 | 169=>266 | 240=>290 | 241=>291 | 276=>303 | 277=>304 | n=>n,fun | 31=>130 | 9=>9 | 3=>3 | 4=>4 | 0=>0 | 20=>20 | 72=>266 | 76=>191 | 70=>264 | 37=>230 | 75=>190 | 127=>280 | 164=>313 | 5=>5 | 80=>267 | n=>n,fun | n=>n⟩
theorem Tryz.lays156:Go.Proofs.Lays.n156 Tryz.prog Tryz.lays156_ren:={
 mixed:=kj
 f156:=Tryz.func232.trans (yi some kj)
 f165:=Tryz.func264.trans (yi some kj)
 f166:=Tryz.func265.trans (yi some kj)
 f169:=Tryz.func266.trans (yi some kj)
 f240:=Tryz.func290.trans (yi some kj)
 f241:=Tryz.func291.trans (yi some kj)
 f276:=Tryz.func303.trans (yi some kj)
 f277:=Tryz.func304.trans (yi some kj)
 t0:=Tryz.underlying0
 a0:=Tryz.isAgg0
 z0:=Tryz.sizeOf0
 v0:=Tryz.zeroValue0
 t3:=Tryz.underlying3
 a3:=Tryz.isAgg3
 z3:=Tryz.sizeOf3
 v3:=Tryz.zeroValue3
 t4:=Tryz.underlying4
 a4:=Tryz.isAgg4
 z4:=Tryz.sizeOf4
 v4:=Tryz.zeroValue4
 t9:=Tryz.underlying9
 a9:=Tryz.isAgg9
 z9:=Tryz.sizeOf9
 v9:=Tryz.zeroValue9
 t20:=Tryz.underlying20
 a20:=Tryz.isAgg20
 z20:=Tryz.sizeOf20
 v20:=Tryz.zeroValue20
 t31:=Tryz.underlying130
 a31:=Tryz.isAgg130
 z31:=Tryz.sizeOf130
 v31:=Tryz.zeroValue130
 t37:=Tryz.underlying230
 a37:=Tryz.isAgg230
 z37:=Tryz.sizeOf230
 v37:=Tryz.zeroValue230
 t70:=Tryz.underlying264
 a70:=Tryz.isAgg264
 z70:=Tryz.sizeOf264
 v70:=Tryz.zeroValue264
 t72:=Tryz.underlying266
 a72:=Tryz.isAgg266
 z72:=Tryz.sizeOf266
 v72:=Tryz.zeroValue266
 t75:=Tryz.underlying190
 a75:=Tryz.isAgg190
 z75:=Tryz.sizeOf190
 v75:=Tryz.zeroValue190
 t76:=Tryz.underlying191
 a76:=Tryz.isAgg191
 z76:=Tryz.sizeOf191
 v76:=Tryz.zeroValue191
 t127:=Tryz.underlying280
 a127:=Tryz.isAgg280
 z127:=Tryz.sizeOf280
 v127:=Tryz.zeroValue280
 t164:=Tryz.underlying313
 a164:=Tryz.isAgg313
 z164:=Tryz.sizeOf313
 v164:=Tryz.zeroValue313 }
def Tryz.lays157_ren:Go.Shelf.Ren:=⟨fun | 157=>228 | 229=>262 | 199=>263 | 261=>289 | 311=>301 | 312=>302 | n=>n,fun | 9=>9 | 31=>130 | 3=>3 | 5=>5 | 4=>4 | 119=>261 | 0=>0 | 40=>263 | 152=>289 | 21=>21 | 154=>291 | 51=>286 | 141=>293 | 196=>305 | 193=>302 | 198=>308 | 49=>306 | 194=>303 | 201=>311 | 226=>318 | 46=>194 | 227=>319 | n=>n,fun | 0=>2 | 6=>7 | n=>n⟩
theorem Tryz.lays157:Go.Proofs.Lays.n157 Tryz.prog Tryz.lays157_ren:={
 mixed:=kj
 f157:=Tryz.func228.trans (yi some kj)
 f199:=Tryz.func263.trans (yi some kj)
 f229:=Tryz.func262.trans (yi some kj)
 f261:=Tryz.func289.trans (yi some kj)
 f311:=Tryz.func301.trans (yi some kj)
 f312:=Tryz.func302.trans (yi some kj)
 t0:=Tryz.underlying0
 a0:=Tryz.isAgg0
 z0:=Tryz.sizeOf0
 v0:=Tryz.zeroValue0
 t3:=Tryz.underlying3
 a3:=Tryz.isAgg3
 z3:=Tryz.sizeOf3
 v3:=Tryz.zeroValue3
 t4:=Tryz.underlying4
 a4:=Tryz.isAgg4
 z4:=Tryz.sizeOf4
 v4:=Tryz.zeroValue4
 t5:=Tryz.underlying5
 a5:=Tryz.isAgg5
 z5:=Tryz.sizeOf5
 v5:=Tryz.zeroValue5
 t9:=Tryz.underlying9
 a9:=Tryz.isAgg9
 z9:=Tryz.sizeOf9
 v9:=Tryz.zeroValue9
 t21:=Tryz.underlying21
 a21:=Tryz.isAgg21
 z21:=Tryz.sizeOf21
 v21:=Tryz.zeroValue21
 t31:=Tryz.underlying130
 a31:=Tryz.isAgg130
 z31:=Tryz.sizeOf130
 v31:=Tryz.zeroValue130
 t40:=Tryz.underlying263
 a40:=Tryz.isAgg263
 z40:=Tryz.sizeOf263
 v40:=Tryz.zeroValue263
 t46:=Tryz.underlying194
 a46:=Tryz.isAgg194
 z46:=Tryz.sizeOf194
 v46:=Tryz.zeroValue194
 t49:=Tryz.underlying306
 a49:=Tryz.isAgg306
 z49:=Tryz.sizeOf306
 v49:=Tryz.zeroValue306
 t51:=Tryz.underlying286
 a51:=Tryz.isAgg286
 z51:=Tryz.sizeOf286
 v51:=Tryz.zeroValue286
 t119:=Tryz.underlying261
 a119:=Tryz.isAgg261
 z119:=Tryz.sizeOf261
 t141:=Tryz.underlying293
 a141:=Tryz.isAgg293
 z141:=Tryz.sizeOf293
 v141:=Tryz.zeroValue293
 t152:=Tryz.underlying289
 a152:=Tryz.isAgg289
 z152:=Tryz.sizeOf289
 v152:=Tryz.zeroValue289
 t154:=Tryz.underlying291
 a154:=Tryz.isAgg291
 z154:=Tryz.sizeOf291
 v154:=Tryz.zeroValue291
 t193:=Tryz.underlying302
 a193:=Tryz.isAgg302
 z193:=Tryz.sizeOf302
 v193:=Tryz.zeroValue302
 t194:=Tryz.underlying303
 a194:=Tryz.isAgg303
 z194:=Tryz.sizeOf303
 v194:=Tryz.zeroValue303
 t196:=Tryz.underlying305
 a196:=Tryz.isAgg305
 z196:=Tryz.sizeOf305
 v196:=Tryz.zeroValue305
 t198:=Tryz.underlying308
 a198:=Tryz.isAgg308
 z198:=Tryz.sizeOf308
 v198:=Tryz.zeroValue308
 t201:=Tryz.underlying311
 a201:=Tryz.isAgg311
 z201:=Tryz.sizeOf311
 v201:=Tryz.zeroValue311
 t226:=Tryz.underlying318
 a226:=Tryz.isAgg318
 z226:=Tryz.sizeOf318
 v226:=Tryz.zeroValue318
 t227:=Tryz.underlying319
 a227:=Tryz.isAgg319
 z227:=Tryz.sizeOf319
 v227:=Tryz.zeroValue319
 g0:=kj
 g6:=by kernel_rfl }
end Go.Proofs
namespace Go.TA
open Go
abbrev Scr.r {P:Program} {ρ α:Type} (a:α):Scr P ρ α:=.ret [] a
abbrev Scr.c {P:Program} {ρ σ:Type} (a:σ):Scr P ρ (Step σ ρ):=.ret [] (.cont a)
abbrev Scr.b {P:Program} {ρ σ:Type} (a:σ):Scr P ρ (Step σ ρ):=.ret [] (.brk a)
abbrev Scr.t {P:Program} {ρ σ:Type} (a:ρ):Scr P ρ (Step σ ρ):=.ret [] (.ret a)
abbrev Scr.n {P:Program} {ρ σ α:Type} (a:σ):Scr P ρ (Out σ α):=.ret [] (.next a)
abbrev Scr.o {P:Program} {ρ σ α:Type} (a:α):Scr P ρ (Out σ α):=.ret [] (.ret a)
abbrev Scr.k {P:Program} {ρ α:Type} (n m:Nat) (c:CR) (σ:List Nat) (k:Nat) (b:Bool) (x:Scr P ρ α):Scr P ρ α:=.reg n [] [(m,hc c σ b)] [.cl 0 c σ k b] x
abbrev Scr.a {P:Program} {ρ α R:Type} (n m k:Nat) {f:FuncId} {z:List AV} {L:List Ob} {V:R->AV} {L':R->List Ob} {y:Option R} (ok:∀ r,y=some r->CallOk P f z L (V r) (L' r)) (x:R->Scr P ρ α):Scr P ρ α:=.call ok fun r c=>.reg n [] [(m,hc c [] true)] [.cl 0 c [] k true] (x r)
abbrev Why.e {α:Type} (x:α):Why:=.pf (y2c x)
abbrev Why.w (n:Nat):Why:=.pf (nn n)
end Go.TA
namespace Go.Proofs.YtlhikmklpelceaaGreatDoor
open Go Go.TA Go.RowKit
abbrev SC:=Scr Tryz.prog
abbrev FO {ρ:Type} (f:Option ρ) (i:FuncId) (a:List AV) (L:List Ob) (V:ρ->AV) (Lr:ρ->List Ob):Prop:=∀ r,f=some r->CallOk Tryz.prog i a L (V r) (Lr r)
theorem fO {ρ:Type} {fn:Func} {V:ρ->AV} {Lr:ρ->List Ob} {f:FuncId} {c:Code} {a:List AV} {L:List Ob} {s:SC ρ ρ} (hf:Tryz.prog.funcs[f]?=some fn) (hb:fn.body=some c:=by rfl) (h:fvc Tryz.prog fn V Lr false c a L s=fvc Tryz.prog fn V Lr true c a L s:=by (kernel_rfl)):FO s.den f a L V Lr:=fun _ k=>fOk hf hb h k
abbrev NL {ρ:Type} (_:ρ):List Ob:=[]
noncomputable def F_q7g (l:Y8):Option (Int×Bool):=guardP (l.length<=281474976710656) (some (atoiF l))
def V_q7g (x:Int×Bool):AV:=.tup [.d (.i .i64 x.1),.err x.2]
def L_q7g (_:Int×Bool):List Ob:=[]
theorem F_q7g_ok {l:Y8} (r:Int×Bool) (h:F_q7g l=some r):CallOk Tryz.prog 149 [.d (.str l)] [] (V_q7g r) (L_q7g r):=by
 obtain⟨hl,h⟩:=z1q h
 obtain rfl:=yz h
 refine ziq (te:=Tryz.lays172_ren.t 168) (gs:=0) (gr:=1) dk dk (fun s hs v hv w=>?_) (fun s hs hv hv' ev w h1 h2=>?_) (fun s hs hv ev w h1 h2=>?_) hl
 ·refine (Any.strconv_Atoi_ok Tryz.lays172 s om v hv w).mono ?_
  rintro e w' ⟨rfl,(rfl | ⟨t,rfl⟩)⟩
  ·exact⟨rfl,Below.refl _ _⟩
  ·exact⟨rfl,Lib.bytesWorld_below _ _ _⟩
 ·refine (Any.strconv_Atoi_syntax Tryz.lays172 s hs (by
   cases hx:Lib.atoiAll s.data.toList with
   | ok v=>exact absurd hx (hv v)
   | range=>exact absurd hx hv'
   | _=>rfl) ev w h1 h2).mono ?_
  rintro e w' ⟨N,rfl,_,_,hb⟩
  exact⟨N,rfl,hb⟩
 ·refine (Any.strconv_Atoi_range Tryz.lays172 s hs hv ev w h1 h2).mono ?_
  rintro e w' ⟨N,rfl,_,_,hb⟩
  exact⟨N,rfl,hb⟩
noncomputable def F_q7a (n:Int):Option Y8:=guardP (0<=n/\n<100) (some (Lib.decDigits n.toNat))
def V_q7a (x:Y8):AV:=.d (.str x)
def L_q7a (_:Y8):List Ob:=[]
theorem F_q7a_ok {n:Int} (r:Y8) (h:F_q7a n=some r):CallOk Tryz.prog 150 [.d (.i .i64 n)] [] (V_q7a r) (L_q7a r):=by
 obtain⟨hl,h⟩:=z1q h
 obtain rfl:=yz h
 exact zir (fun i hi w=>Any.strconv_Itoa_small { Tryz.lays171 with } i hi w) hl.1 hl.2
theorem zth (s:ByteArray) (w:World):Calls Tryz.prog 217 #[.string s,.string ⟨#[46]⟩] w fun e w'=>e = .returned (.int .i64 (Lib.indexByte s.data.toList 46))/\w'=w:=Any.strings_Index_one Tryz.lays143 s 46 w
noncomputable def z7f (x:Y8) (s:List Int):SC (List Int) (Step (List Int) (List Int)) :=
.call (@F_q7g_ok x) fun r1 c1 =>
.reg 4 [] [(1,hc c1 [] true)] [.cl 0 c1 [] 3 true] <|
.calld [(cO (cO r1.2 (decide (r1.1<1))) (decide (r1.1>99)))=false] dF (@F_q7a_ok r1.1) fun r2 c2 =>
.reg 5 [] [(12,hc c2 [] true)] [.clg 0 [(cO (cO r1.2 (decide (r1.1<1))) (decide (r1.1>99)))=false] c2 [] 3 true] <|
.ite (cO (cO (cO r1.2 (decide (r1.1<1))) (decide (r1.1>99))) (!(r2==x))) (
.reg 6 [] [] [] <|
.sh (A:=True) (.pf trivial) [(2,(vp 0))] [(2,(vp 0))] [(Ob.box (AV.full 0 fun _=>DV.b false)),(Ob.box (AV.ref 2 s.length 0 s.length)),(eS 1 (DV.i .i64) s)] [(Ob.box (vl ([]:List Int))),(Ob.box (AV.ref 2 s.length 0 s.length)),(eS 1 (DV.i .i64) s)] (fun _=>(zdg (.box _ _ _ _ _ (y16 rfl) TrV.full (.keep _ _ _ _ (y16 rfl) (.keep _ _ _ _ (y16 rfl) (.nil _)))))) (z1d (k:=0) rfl (TrS.keep _) z32) <|
.ret [] (.ret [])) (
.guard [(s.length+1) * (2 * 8)<=2 ^ 48] <|
.reg 7 [] [(2,hv (vl ([r1.1]:List Int))),(3,{ cast:=some (AV.ref 2 ((s++([r1.1]:List Int)).length) 0 ((s++([r1.1]:List Int)).length)),obs:=[(2,(eS 1 (DV.i .i64) (s++([r1.1]:List Int))))] })] [.pf (ze (DV.i .i64) ([r1.1]:List Int)),.pf (y2c s.length),.pf (y2c s.length),.pf (p:=∀ k,k<1->(AV.d ((DV.i .i64) (([r1.1]:List Int).getD k dF))).wd=1) (fun _ _=>rfl),.ev 0,.pf (z11 (o:=2) (l:=s) (x:=([r1.1]:List Int))),.pf (z13 (sz:=1) (e:=(DV.i .i64)) (l:=s) (x:=([r1.1]:List Int)))] <|
.ret [] (.cont (s++([r1.1]:List Int))))
noncomputable def zd2 (s:List Int):SC (List Int) (List Int) :=
.ite (decide ((s.length:Int)>4)) (
.reg 9 [] [] [] <|
.sh (A:=True) (.pf trivial) [(2,(vp 0))] [(2,(vp 0))] [(Ob.box (AV.full 0 fun _=>DV.b false)),(Ob.box (AV.ref 2 s.length 0 s.length)),(eS 1 (DV.i .i64) s)] [(Ob.box (vl ([]:List Int))),(Ob.box (AV.ref 2 s.length 0 s.length)),(eS 1 (DV.i .i64) s)] (fun _=>(zdg (.box _ _ _ _ _ (y16 rfl) TrV.full (.keep _ _ _ _ (y16 rfl) (.keep _ _ _ _ (y16 rfl) (.nil _)))))) (z1d (k:=0) rfl (TrS.keep _) z32) <|
.ret [] ([]:List Int)) (
.guard [s.length<2 ^ 63] <|
.reg 10 [] [] [] <|
.frz 2 (.ev 0) none [] [0,1] <|
.ret [] s)
def cL:Code->Code
 | .seq x _=>x
 | _=>.skip
def cR:Code->Code
 | .seq _ y=>y
 | _=>.skip
def cI:Code->Code
 | .block _ x=>x
 | _=>.skip
def cA:Code->Code
 | .rangeFunc _ _ x _=>x
 | _=>.skip
def cB:Code->Code
 | .rangeFunc _ _ _ y=>y
 | _=>.skip
noncomputable def c68:Code:=Tryz.f98.body.getD .skip
noncomputable def zgk:Code:=cL c68
noncomputable def zgl:Code:=cL (cR c68)
noncomputable def zbn:Code:=cR (cR c68)
noncomputable def z7g:Code:=cI (cR (cL zbn))
theorem zti:Tryz.f98.body=some (.seq zgk (.seq zgl (.seq (.seq (cL (cL zbn)) (.block 0 (.rangeFunc (.tmp 8) #[9] (cA z7g) (cB z7g)))) (cR zbn)))):=kj
theorem ztj (z:Option Nat) (x:Y8) (s:List Int) {r:Step (List Int) (List Int)} (hr:(z7f x s).den=some r) :
  AW z Tryz.prog Tryz.f98.ntmps (cB z7g) (fun e fr L=>match e with
   | .normal=>∃ s',r = .cont s'/\StLe fr L [] (pLI s')
   | .ret=>∃ y,r = .ret y/\∃ J,L=[.box (.d (eL (.i .i64) y))]++J
   | _=>False) [(4,.d (.str x)),(2,vp 0),(3,vp 1)] (pLI s):=pBody kj hr
theorem ztk (s:List Int) {r:List Int} (hr:(zd2 s).den=some r) :
  AW none Tryz.prog Tryz.f98.ntmps (cR zbn) (FQ Tryz.prog Tryz.f98 (vl r) []) [(2,vp 0),(3,vp 1)] (pLI s):=pTail (V:=fun r=>vl r) (Lr:=fun _=>[]) kj hr
end Go.Proofs.YtlhikmklpelceaaGreatDoor
