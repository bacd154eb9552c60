/- A part of the proof: what the functions compute, and that their calls return it. No condition. -/
import Derived.Test.YtdmddkbngmhepaaGreatDoorT4
import Derived.RangeFuncBound
import Derived.Shelf.Abstract
import Derived.Shelf.RegionOpen
import Derived.WalkKit
import Derived.OwnWalkIn
import Derived.TacticsInMore
import Derived.LoopNIn
import Derived.LoopIn
import Derived.Shelf.Strings.Search3
import Derived.Test.YtdmddkbngmhepaaGreatDoorProg
import Derived.Shelf.Strings.Fields
import Derived.Shelf.Strconv.AtoiAll
import Derived.Shelf.Strconv.Itoa3
namespace Go.Proofs.YtdmddkbngmhepaaGreatDoor
open Go Go.TA Go.RowKit Go.Shelf
attribute [local go_sem] Oper.semAt_some
def encS (l:List UInt8):Value:=.string ⟨l.toArray⟩
def leftLen (bs:Nat) (w:World):Nat:=match w.cell? ⟨bs,0,none⟩ with
 | some (.string s)=>s.size
 | _=>0
variable {w:World} {bs:Nat} {l:List UInt8}
theorem zcv (h:w.cell? ⟨bs,0,none⟩=some (encS l)):leftLen bs w=l.length:=by
 unfold leftLen; rw[h]; simp[encS,ByteArray.size]
variable {n:Nat}
theorem zbp {m:Nat} {P:Program} {l f:Nat} {tmps:Array Value} {assign body:Code} {R:Ending->World->Prop} (h:RoundIn Fence.wide n P l f tmps assign body w R):RoundIn Fence.wide m P l f tmps assign body w R :=
 ⟨h.1,fun c cs _=>h.2 c cs (room_wide _)⟩
theorem zgv (hIdx:∀ (s:ByteArray) (w:World),Calls Tryz.prog 256 #[.string s,.string ⟨#[46]⟩] w fun e w'=>e = .returned (.int .i64 (Lib.indexByte s.data.toList 46))/\w'=w) {bsep bsv:Nat} (h1:w.cell? ⟨bsep,0,none⟩=some (.string ⟨#[46]⟩)) (h2:w.cell? ⟨bs,0,none⟩=some (encS l)) (h2f:w.frozen? ⟨bs,0,none⟩=false) (h3:w.cell? ⟨bsv,0,none⟩=some (.int .i64 0)) (n1:bsep≠bs) (n2:bsv≠bs) (hl:l.length<4611686018427387904) :
  SeqT Tryz.prog (n+1) 254 #[.pointer (some ⟨bsep,0,none⟩),.pointer (some ⟨bs,0,none⟩),.pointer (some ⟨bsv,0,none⟩)] encS (fun k=>k=bs) [bsep,bs,bsv] w (fun xs=>xs=pieces l) (fun ys=>∃ zs,pieces l=ys++zs):=by
 intro y J Jx W hsz hcap hJ hJx hY h0
 refine callsIn_of_wp Tryz.func254 rfl trivial ?_ rfl
 simp only[Tryz.ntmps254,y28,yx,y1p,Nat.reduceAdd,Nat.reduceSub,y55,y56,y5m,y5c,y2c,y39]
 have hcell:∀ {A B:World} {k:Nat},B.heap[k]? = A.heap[k]? -> B.cell? ⟨k,0,none⟩=A.cell? ⟨k,0,none⟩:=fun h=>by simp[World.cell?,h]
 have hfroz:∀ {A B:World} {k:Nat},B.heap[k]? = A.heap[k]? -> B.frozen? ⟨k,0,none⟩=A.frozen? ⟨k,0,none⟩:=fun h=>by simp[World.frozen?,h]
 have g1:W.cell? ⟨bsep,0,none⟩=some (.string ⟨#[46]⟩):=(hcell (hcap _ sj)).trans h1
 have g2:W.cell? ⟨bs,0,none⟩=some (encS l):=(hcell (hcap _ sj)).trans h2
 have g2f:W.frozen? ⟨bs,0,none⟩=false:=(hfroz (hcap _ sj)).trans h2f
 have g3:W.cell? ⟨bsv,0,none⟩=some (.int .i64 0):=(hcell (hcap _ sj)).trans h3
 gi_wp2
 gi_loopw [7] (fun _ wr=>∃ (pre:List (List UInt8)) (rest:List UInt8),pieces l=pre++pieces rest/\rest.length<=l.length/\wr.cell? ⟨bs,0,none⟩=some (encS rest)/\wr.frozen? ⟨bs,0,none⟩=false/\wr.cell? ⟨bsep,0,none⟩=some (.string ⟨#[46]⟩)/\wr.cell? ⟨bsv,0,none⟩=some (.int .i64 0)/\J pre wr)
  (fun _ wr=>leftLen bs wr)
 case atStart =>
  exact⟨[],l,rfl,yf _,g2,g2f,g1,g3,h0⟩
 case round =>
  obtain⟨pre,rest,hx,hlr,k2,k2f,k1,k3,hJs⟩:=hrel
  obtain⟨hp1,hp2⟩:=za5 rest
  have hIw:=hIdx ⟨rest.toArray⟩ wr
  have hlist:(⟨rest.toArray⟩:ByteArray).data.toList=rest:=sj
  rw[hlist] at hIw; clear hlist
  simp only[encS] at k2
  by_cases hi:Lib.indexByte rest 46=-1
  ·rw[hi] at hIw
   obtain⟨fn,tmps,assign,body,hy,hR⟩:=hY pre rest wr ⟨[],by rw[hx,hp1 hi]; simp⟩ hJs
   dsimp only [encS] at hy
   gi_wp2_with (refine⟨trivial,?_⟩; gi_at_call 256; refine (y53.2 hIw).mono ?_; rintro e w' ⟨rfl,rfl⟩)
   refine (zbp hR).mono ?_
   rintro e W' (⟨rfl,hJ',hk⟩ | ⟨rfl,hJx'⟩)
   ·gi_wp2
    go_end0
    exact⟨⟨_,rfl⟩,.inl ⟨pre++[rest],by rw[hx,hp1 hi],hJ'⟩⟩
   ·gi_wp2
    go_end0
    exact⟨⟨_,rfl⟩,.inr ⟨_,hJx'⟩⟩
  ·obtain⟨i0,i1,i2⟩:=hp2 hi
   obtain⟨m,hm⟩:∃ m:Nat,Lib.indexByte rest 46=m:=⟨(Lib.indexByte rest 46).toNat,om⟩
   rw[hm] at hIw i1 i2
   rw[yh] at i1 i2
   have e1:encS (rest.take m)=Value.string ((⟨rest.toArray⟩:ByteArray).extract 0 m):=by
    unfold encS; congr 1; apply ByteArray.ext; simp[ByteArray.data_extract]
   obtain⟨fn,tmps,assign,body,hy,hR⟩:=hY pre (rest.take m) wr ⟨pieces (rest.drop (m+1)),by rw[hx,i2]; simp⟩ hJs
   rw[e1] at hy
   gi_wp2_with (refine⟨trivial,?_⟩; gi_at_call 256; refine (y53.2 hIw).mono ?_; rintro e w' ⟨rfl,rfl⟩)
   refine (zbp hR).mono ?_
   rintro e W' (⟨rfl,hJ',hk⟩ | ⟨rfl,hJx'⟩)
   ·have q1:=(hcell (hk.2 bsep sj)).trans k1
    have q2:=(hcell (hk.2 bs sj)).trans k2
    have q2f:=(hfroz (hk.2 bs sj)).trans k2f
    have q3:=(hcell (hk.2 bsv sj)).trans k3
    gi_wp2
    have e2:Value.string ((⟨rest.toArray⟩:ByteArray).extract (m+1) rest.length)=encS (rest.drop (m+1)):=by
     unfold encS; congr 1; apply ByteArray.ext; simp[ByteArray.data_extract]; exact y1x sj
    rw[e2]
    have hc2:=World.cell?_setCell_same' W' ⟨bs,0,none⟩ (encS (rest.drop (m+1))) (by rw[q2]; rfl)
    refine⟨⟨pre++[rest.take m],rest.drop (m+1),?_,?_,hc2,?_,?_,?_,?_⟩,?_⟩
    ·rw[hx,i2,y2s]; rfl
    ·rw[y3a]; omega
    ·rw[World.frozen?_setCell]; exact q2f
    ·exact (hcell (Below.heap_setCell W' ⟨bs,0,none⟩ _ bsep n1)).trans q1
    ·exact (hcell (Below.heap_setCell W' ⟨bs,0,none⟩ _ bsv n2)).trans q3
    ·exact hJ _ _ _ hJ' ⟨⟨rfl,rfl,rfl⟩,by show W'.heap.size<=(W'.heap.modify _ _).size; rw[Array.size_modify]; exact yf _,fun k _ hk=>Below.heap_setCell W' ⟨bs,0,none⟩ _ k hk⟩
    ·rw[zcv hc2,zcv (l:=rest) k2,y3a]; omega
   ·gi_wp2
    exact bodyPost_ret (results_none rfl _ _ _) rfl ⟨⟨_,rfl⟩,.inr ⟨_,hJx'⟩⟩
end Go.Proofs.YtdmddkbngmhepaaGreatDoor
namespace Go.Proofs.YtdmddkbngmhepaaGreatDoor
open Go Go.TA Go.RowKit Go.Shelf
attribute [local go_sem] Oper.semAt_some
theorem zdt (n:Nat) (s:ByteArray) (w:World):CallsIn Fence.wide (n+1) Tryz.prog 229 #[.string s,.string ⟨#[46]⟩,.int .i64 0] w fun e w' =>
  e = .returned (.func (.func 254) #[] #[.pointer (some ⟨w.heap.size+1,0,none⟩),.pointer (some ⟨w.heap.size,0,none⟩),.pointer (some ⟨w.heap.size+2,0,none⟩)]) /\
   w'=((w.alloc (.cells #[.string s] 9)).alloc (.cells #[.string ⟨#[46]⟩] 9)).alloc (.cells #[.int .i64 0] 3):=by
 refine callsIn_of_wp Tryz.func229 rfl trivial ?_ rfl
 simp only[Tryz.ntmps229,y28,yx,y1p,Nat.reduceAdd,Nat.reduceSub,y55,y56,y5m,y5c,y2c,y39]
 gi_wp2
 exact bodyPost_ret (results_tmp rfl _ _ _) rfl ⟨rfl,rfl⟩
theorem zfp (n:Nat) (s:ByteArray) (w:World):CallsIn Fence.wide (n+2) Tryz.prog 200 #[.string s,.string ⟨#[46]⟩] w fun e w' =>
  e = .returned (.func (.func 254) #[] #[.pointer (some ⟨w.heap.size+1,0,none⟩),.pointer (some ⟨w.heap.size,0,none⟩),.pointer (some ⟨w.heap.size+2,0,none⟩)]) /\
   w'=((w.alloc (.cells #[.string s] 9)).alloc (.cells #[.string ⟨#[46]⟩] 9)).alloc (.cells #[.int .i64 0] 3):=by
 refine callsIn_of_wp Tryz.func200 rfl trivial ?_ rfl
 simp only[Tryz.ntmps200,y28,yx,y1p,Nat.reduceAdd,Nat.reduceSub,y55,y56,y5m,y5c,y2c,y39]
 gi_wp2
 refine⟨trivial,?_⟩
 refine (zdt n s w).mono ?_
 rintro e w' ⟨rfl,rfl⟩
 gi_wp2
 exact bodyPost_ret (results_tmp rfl _ _ _) rfl ⟨rfl,rfl⟩
end Go.Proofs.YtdmddkbngmhepaaGreatDoor
/- The layings of library contracts at this program. No condition. -/
namespace Go.Proofs
open Go.Shelf
def Tryz.lays143_ren:Go.Shelf.Ren:=⟨fun | 143=>256 | 219=>279 | 217=>292 | 225=>293 | 224=>294 | 267=>295 | 266=>304 | 314=>305 | n=>n,fun | 9=>9 | 3=>3 | 4=>4 | 5=>5 | 46=>217 | 146=>313 | 51=>260 | n=>n,fun | 1=>6 | n=>n⟩
theorem Tryz.lays143:Go.Proofs.Lays.n143 Tryz.prog Tryz.lays143_ren:={
 mixed:=kj
 f143:=Tryz.func256.trans (yk some kj)
 f217:=Tryz.func292.trans (yk some kj)
 f219:=Tryz.func279.trans (yk some kj)
 f224:=Tryz.func294.trans (yk some kj)
 f225:=Tryz.func293.trans (yk some kj)
 f266:=Tryz.func304.trans (yk some kj)
 f267:=Tryz.func295.trans (yk some kj)
 f314:=Tryz.func305.trans (yk some kj)
 t3:=Tryz.underlying3
 a3:=Tryz.isAgg3
 z3:=Tryz.sizeOf3
 v3:=Tryz.zeroValue3
 t4:=Tryz.underlying4
 a4:=Tryz.isAgg4
 z4:=Tryz.sizeOf4
 v4:=Tryz.zeroValue4
 t5:=Tryz.underlying5
 a5:=Tryz.isAgg5
 z5:=Tryz.sizeOf5
 v5:=Tryz.zeroValue5
 t9:=Tryz.underlying9
 a9:=Tryz.isAgg9
 z9:=Tryz.sizeOf9
 v9:=Tryz.zeroValue9
 t46:=Tryz.underlying217
 a46:=Tryz.isAgg217
 z46:=Tryz.sizeOf217
 v46:=Tryz.zeroValue217
 t51:=Tryz.underlying260
 a51:=Tryz.isAgg260
 z51:=Tryz.sizeOf260
 v51:=Tryz.zeroValue260
 t146:=Tryz.underlying313
 a146:=Tryz.isAgg313
 z146:=Tryz.sizeOf313
 v146:=Tryz.zeroValue313
 g1:=by kernel_rfl }
def Tryz.lays172_ren:Go.Shelf.Ren:=⟨fun | 172=>201 | 244=>230 | 245=>231 | 247=>257 | 279=>258 | 280=>259 | 281=>260 | 282=>261 | 287=>280 | 316=>281 | 171=>202 | 205=>282 | 321=>296 | 322=>297 | 243=>232 | 246=>262 | 283=>283 | 284=>284 | 285=>285 | 286=>286 | 129=>299 | 317=>298 | 318=>300 | 319=>301 | 320=>302 | 337=>306 | 338=>307 | n=>n,fun | 9=>9 | 3=>3 | 75=>213 | 76=>214 | 4=>4 | 5=>5 | 167=>249 | 37=>235 | 0=>0 | 85=>250 | 2=>2 | 168=>252 | 53=>272 | 175=>273 | 46=>217 | 210=>277 | 127=>263 | 145=>305 | 143=>303 | 21=>21 | 171=>279 | 173=>282 | 212=>307 | 51=>260 | 20=>20 | 213=>308 | 232=>316 | 233=>317 | 80=>238 | n=>n,fun | 15=>2 | 16=>3 | 17=>7 | 18=>8 | 19=>9 | n=>n⟩
theorem Tryz.lays172:Go.Proofs.LaysC.n172 Tryz.prog Tryz.lays172_ren:={
 mixed:=kj
 f129:=Tryz.func299.trans (yk some kj)
 f171:=Tryz.func202.trans (yk some kj)
 f172:=Tryz.func201.trans (yk some kj)
 f205:=Tryz.func282.trans (yk some kj)
 f243:=Tryz.func232.trans (yk some kj)
 f244:=Tryz.func230.trans (yk some kj)
 f245:=Tryz.func231.trans (yk some kj)
 f246:=Tryz.func262.trans (yk some kj)
 f247:=Tryz.func257.trans (yk some kj)
 f279:=Tryz.func258.trans (yk some kj)
 f280:=Tryz.func259.trans (yk some kj)
 f281:=Tryz.func260.trans (yk some kj)
 f282:=Tryz.func261.trans (yk some kj)
 f283:=Tryz.func283.trans (yk some kj)
 f284:=Tryz.func284.trans (yk some kj)
 f285:=Tryz.func285.trans (yk some kj)
 f286:=Tryz.func286.trans (yk some kj)
 f287:=Tryz.func280.trans (yk some kj)
 f316:=Tryz.func281.trans (yk some kj)
 f317:=Tryz.func298.trans (yk some kj)
 f318:=Tryz.func300.trans (yk some kj)
 f319:=Tryz.func301.trans (yk some kj)
 f320:=Tryz.func302.trans (yk some kj)
 f321:=Tryz.func296.trans (yk some kj)
 f322:=Tryz.func297.trans (yk some kj)
 f337:=Tryz.func306.trans (yk some kj)
 f338:=Tryz.func307.trans (yk some kj)
 t0:=Tryz.underlying0
 a0:=Tryz.isAgg0
 z0:=Tryz.sizeOf0
 v0:=Tryz.zeroValue0
 t2:=Tryz.underlying2
 a2:=Tryz.isAgg2
 z2:=Tryz.sizeOf2
 v2:=Tryz.zeroValue2
 t3:=Tryz.underlying3
 a3:=Tryz.isAgg3
 z3:=Tryz.sizeOf3
 v3:=Tryz.zeroValue3
 t4:=Tryz.underlying4
 a4:=Tryz.isAgg4
 z4:=Tryz.sizeOf4
 v4:=Tryz.zeroValue4
 t5:=Tryz.underlying5
 a5:=Tryz.isAgg5
 z5:=Tryz.sizeOf5
 v5:=Tryz.zeroValue5
 t9:=Tryz.underlying9
 a9:=Tryz.isAgg9
 z9:=Tryz.sizeOf9
 v9:=Tryz.zeroValue9
 t20:=Tryz.underlying20
 a20:=Tryz.isAgg20
 z20:=Tryz.sizeOf20
 v20:=Tryz.zeroValue20
 t21:=Tryz.underlying21
 a21:=Tryz.isAgg21
 z21:=Tryz.sizeOf21
 v21:=Tryz.zeroValue21
 t37:=Tryz.underlying235
 a37:=Tryz.isAgg235
 z37:=Tryz.sizeOf235
 v37:=Tryz.zeroValue235
 t46:=Tryz.underlying217
 a46:=Tryz.isAgg217
 z46:=Tryz.sizeOf217
 v46:=Tryz.zeroValue217
 t51:=Tryz.underlying260
 a51:=Tryz.isAgg260
 z51:=Tryz.sizeOf260
 v51:=Tryz.zeroValue260
 t53:=Tryz.underlying272
 a53:=Tryz.isAgg272
 z53:=Tryz.sizeOf272
 v53:=Tryz.zeroValue272
 t75:=Tryz.underlying213
 a75:=Tryz.isAgg213
 z75:=Tryz.sizeOf213
 v75:=Tryz.zeroValue213
 t76:=Tryz.underlying214
 a76:=Tryz.isAgg214
 z76:=Tryz.sizeOf214
 v76:=Tryz.zeroValue214
 t85:=Tryz.underlying250
 a85:=Tryz.isAgg250
 z85:=Tryz.sizeOf250
 v85:=Tryz.zeroValue250
 t127:=Tryz.underlying263
 a127:=Tryz.isAgg263
 z127:=Tryz.sizeOf263
 v127:=Tryz.zeroValue263
 t143:=Tryz.underlying303
 a143:=Tryz.isAgg303
 z143:=Tryz.sizeOf303
 v143:=Tryz.zeroValue303
 t145:=Tryz.underlying305
 a145:=Tryz.isAgg305
 z145:=Tryz.sizeOf305
 v145:=Tryz.zeroValue305
 t167:=Tryz.underlying249
 a167:=Tryz.isAgg249
 z167:=Tryz.sizeOf249
 v167:=Tryz.zeroValue249
 t168:=Tryz.underlying252
 a168:=Tryz.isAgg252
 z168:=Tryz.sizeOf252
 v168:=Tryz.zeroValue252
 t171:=Tryz.underlying279
 a171:=Tryz.isAgg279
 z171:=Tryz.sizeOf279
 v171:=Tryz.zeroValue279
 t173:=Tryz.underlying282
 a173:=Tryz.isAgg282
 z173:=Tryz.sizeOf282
 v173:=Tryz.zeroValue282
 t175:=Tryz.underlying273
 a175:=Tryz.isAgg273
 z175:=Tryz.sizeOf273
 v175:=Tryz.zeroValue273
 t210:=Tryz.underlying277
 a210:=Tryz.isAgg277
 z210:=Tryz.sizeOf277
 v210:=Tryz.zeroValue277
 t212:=Tryz.underlying307
 a212:=Tryz.isAgg307
 z212:=Tryz.sizeOf307
 v212:=Tryz.zeroValue307
 t213:=Tryz.underlying308
 a213:=Tryz.isAgg308
 z213:=Tryz.sizeOf308
 t232:=Tryz.underlying316
 a232:=Tryz.isAgg316
 z232:=Tryz.sizeOf316
 v232:=Tryz.zeroValue316
 t233:=Tryz.underlying317
 a233:=Tryz.isAgg317
 z233:=Tryz.sizeOf317
 v233:=Tryz.zeroValue317
 g15:=kj
 g16:=kj
 g17:=kj
 g18:=kj
 g19:=kj
 t80:=Tryz.underlying238
 a80:=Tryz.isAgg238
 z80:=Tryz.sizeOf238
 v80:=Tryz.zeroValue238
 i0:=kj
 i2:=kj
 i3:=kj
 i4:=kj
 i5:=kj
 i9:=kj
 i20:=kj
 i21:=kj
 i37:=kj
 i46:=kj
 i51:=kj
 i53:=kj
 i75:=kj
 i76:=kj
 i80:=kj
 i85:=kj
 i127:=kj
 i143:=kj
 i145:=kj
 i167:=kj
 i168:=kj
 i171:=kj
 i173:=kj
 i175:=kj
 i210:=kj
 i212:=kj
 i232:=kj
 i233:=kj
 m15:=kj
 m16:=kj
 m17:=kj
 m18:=kj
 m19:=kj
 c0:=kj
 c2:=kj
 c3:=kj
 c4:=kj
 c5:=kj
 c9:=kj
 c20:=kj
 c21:=kj
 c37:=kj
 c46:=kj
 c51:=kj
 c53:=kj
 c75:=kj
 c76:=kj
 c80:=kj
 c85:=kj
 c127:=kj
 c143:=kj
 c145:=kj
 c167:=kj
 c168:=kj
 c171:=kj
 c173:=kj
 c175:=kj
 c210:=kj
 c212:=kj
 c213:=kj
 c232:=kj
 c233:=by kernel_rfl }
def Tryz.lays171_ren:Go.Shelf.Ren:=⟨fun | 171=>202 | 243=>232 | 246=>262 | 283=>283 | 284=>284 | 285=>285 | 286=>286 | 129=>299 | 317=>298 | 318=>300 | 319=>301 | 320=>302 | 337=>306 | 338=>307 | n=>n,fun | 3=>3 | 9=>9 | 2=>2 | 4=>4 | 171=>279 | 0=>0 | 53=>272 | 37=>235 | 5=>5 | 173=>282 | 212=>307 | 51=>260 | 20=>20 | 213=>308 | 46=>217 | 232=>316 | 233=>317 | n=>n,fun | 17=>7 | 18=>8 | 19=>9 | n=>n⟩
theorem Tryz.lays171:Go.Proofs.LaysM.n171 Tryz.prog Tryz.lays171_ren:={
 mixed:=kj
 f129:=Tryz.func299.trans (yk some kj)
 f171:=Tryz.func202.trans (yk some kj)
 f243:=Tryz.func232.trans (yk some kj)
 f246:=Tryz.func262.trans (yk some kj)
 f283:=Tryz.func283.trans (yk some kj)
 f284:=Tryz.func284.trans (yk some kj)
 f285:=Tryz.func285.trans (yk some kj)
 f286:=Tryz.func286.trans (yk some kj)
 f317:=Tryz.func298.trans (yk some kj)
 f318:=Tryz.func300.trans (yk some kj)
 f319:=Tryz.func301.trans (yk some kj)
 f320:=Tryz.func302.trans (yk some kj)
 f337:=Tryz.func306.trans (yk some kj)
 f338:=Tryz.func307.trans (yk some kj)
 t0:=Tryz.underlying0
 a0:=Tryz.isAgg0
 z0:=Tryz.sizeOf0
 v0:=Tryz.zeroValue0
 t2:=Tryz.underlying2
 a2:=Tryz.isAgg2
 z2:=Tryz.sizeOf2
 v2:=Tryz.zeroValue2
 t3:=Tryz.underlying3
 a3:=Tryz.isAgg3
 z3:=Tryz.sizeOf3
 v3:=Tryz.zeroValue3
 t4:=Tryz.underlying4
 a4:=Tryz.isAgg4
 z4:=Tryz.sizeOf4
 v4:=Tryz.zeroValue4
 t5:=Tryz.underlying5
 a5:=Tryz.isAgg5
 z5:=Tryz.sizeOf5
 v5:=Tryz.zeroValue5
 t9:=Tryz.underlying9
 a9:=Tryz.isAgg9
 z9:=Tryz.sizeOf9
 v9:=Tryz.zeroValue9
 t20:=Tryz.underlying20
 a20:=Tryz.isAgg20
 z20:=Tryz.sizeOf20
 v20:=Tryz.zeroValue20
 t37:=Tryz.underlying235
 a37:=Tryz.isAgg235
 z37:=Tryz.sizeOf235
 v37:=Tryz.zeroValue235
 t46:=Tryz.underlying217
 a46:=Tryz.isAgg217
 z46:=Tryz.sizeOf217
 v46:=Tryz.zeroValue217
 t51:=Tryz.underlying260
 a51:=Tryz.isAgg260
 z51:=Tryz.sizeOf260
 v51:=Tryz.zeroValue260
 t53:=Tryz.underlying272
 a53:=Tryz.isAgg272
 z53:=Tryz.sizeOf272
 v53:=Tryz.zeroValue272
 t171:=Tryz.underlying279
 a171:=Tryz.isAgg279
 z171:=Tryz.sizeOf279
 v171:=Tryz.zeroValue279
 t173:=Tryz.underlying282
 a173:=Tryz.isAgg282
 z173:=Tryz.sizeOf282
 v173:=Tryz.zeroValue282
 t212:=Tryz.underlying307
 a212:=Tryz.isAgg307
 z212:=Tryz.sizeOf307
 v212:=Tryz.zeroValue307
 t213:=Tryz.underlying308
 a213:=Tryz.isAgg308
 z213:=Tryz.sizeOf308
 t232:=Tryz.underlying316
 a232:=Tryz.isAgg316
 z232:=Tryz.sizeOf316
 v232:=Tryz.zeroValue316
 t233:=Tryz.underlying317
 a233:=Tryz.isAgg317
 z233:=Tryz.sizeOf317
 v233:=Tryz.zeroValue317
 g17:=kj
 g18:=kj
 g19:=kj
 i0:=kj
 i2:=kj
 i3:=kj
 i4:=kj
 i5:=kj
 i9:=kj
 i20:=kj
 i37:=kj
 i46:=kj
 i51:=kj
 i53:=kj
 i171:=kj
 i173:=kj
 i212:=kj
 i232:=kj
 i233:=kj
 m17:=kj
 m18:=kj
 m19:=by kernel_rfl }
def Tryz.lays156_ren:Go.Shelf.Ren:=⟨fun | 156=>212 | 165=>236 | 166=>237 | 169=>238 | 240=>265 | 241=>266 | 276=>289 | 277=>290 | n=>n,fun | 31=>112 | 9=>9 | 3=>3 | 4=>4 | 0=>0 | 20=>20 | 72=>237 | 76=>214 | 70=>234 | 37=>235 | 75=>213 | 127=>263 | 164=>295 | 5=>5 | 80=>238 | n=>n,fun | n=>n⟩
theorem Tryz.lays156:Go.Proofs.Lays.n156 Tryz.prog Tryz.lays156_ren:={
 mixed:=kj
 f156:=Tryz.func212.trans (yk some kj)
 f165:=Tryz.func236.trans (yk some kj)
 f166:=Tryz.func237.trans (yk some kj)
 f169:=Tryz.func238.trans (yk some kj)
 f240:=Tryz.func265.trans (yk some kj)
 f241:=Tryz.func266.trans (yk some kj)
 f276:=Tryz.func289.trans (yk some kj)
 f277:=Tryz.func290.trans (yk some kj)
 t0:=Tryz.underlying0
 a0:=Tryz.isAgg0
 z0:=Tryz.sizeOf0
 v0:=Tryz.zeroValue0
 t3:=Tryz.underlying3
 a3:=Tryz.isAgg3
 z3:=Tryz.sizeOf3
 v3:=Tryz.zeroValue3
 t4:=Tryz.underlying4
 a4:=Tryz.isAgg4
 z4:=Tryz.sizeOf4
 v4:=Tryz.zeroValue4
 t9:=Tryz.underlying9
 a9:=Tryz.isAgg9
 z9:=Tryz.sizeOf9
 v9:=Tryz.zeroValue9
 t20:=Tryz.underlying20
 a20:=Tryz.isAgg20
 z20:=Tryz.sizeOf20
 v20:=Tryz.zeroValue20
 t31:=Tryz.underlying112
 a31:=Tryz.isAgg112
 z31:=Tryz.sizeOf112
 v31:=Tryz.zeroValue112
 t37:=Tryz.underlying235
 a37:=Tryz.isAgg235
 z37:=Tryz.sizeOf235
 v37:=Tryz.zeroValue235
 t70:=Tryz.underlying234
 a70:=Tryz.isAgg234
 z70:=Tryz.sizeOf234
 v70:=Tryz.zeroValue234
 t72:=Tryz.underlying237
 a72:=Tryz.isAgg237
 z72:=Tryz.sizeOf237
 v72:=Tryz.zeroValue237
 t75:=Tryz.underlying213
 a75:=Tryz.isAgg213
 z75:=Tryz.sizeOf213
 v75:=Tryz.zeroValue213
 t76:=Tryz.underlying214
 a76:=Tryz.isAgg214
 z76:=Tryz.sizeOf214
 v76:=Tryz.zeroValue214
 t127:=Tryz.underlying263
 a127:=Tryz.isAgg263
 z127:=Tryz.sizeOf263
 v127:=Tryz.zeroValue263
 t164:=Tryz.underlying295
 a164:=Tryz.isAgg295
 z164:=Tryz.sizeOf295
 v164:=Tryz.zeroValue295 }
def Tryz.lays157_ren:Go.Shelf.Ren:=⟨fun | 157=>208 | 229=>234 | 199=>235 | 261=>264 | 311=>287 | 312=>288 | n=>n,fun | 9=>9 | 31=>112 | 3=>3 | 5=>5 | 4=>4 | 119=>231 | 0=>0 | 40=>233 | 152=>257 | 21=>21 | 154=>259 | 51=>260 | 141=>262 | 196=>287 | 193=>284 | 198=>290 | 49=>288 | 194=>285 | 201=>293 | 226=>310 | 46=>217 | 227=>311 | n=>n,fun | 0=>0 | 6=>1 | n=>n⟩
theorem Tryz.lays157:Go.Proofs.Lays.n157 Tryz.prog Tryz.lays157_ren:={
 mixed:=kj
 f157:=Tryz.func208.trans (yk some kj)
 f199:=Tryz.func235.trans (yk some kj)
 f229:=Tryz.func234.trans (yk some kj)
 f261:=Tryz.func264.trans (yk some kj)
 f311:=Tryz.func287.trans (yk some kj)
 f312:=Tryz.func288.trans (yk some kj)
 t0:=Tryz.underlying0
 a0:=Tryz.isAgg0
 z0:=Tryz.sizeOf0
 v0:=Tryz.zeroValue0
 t3:=Tryz.underlying3
 a3:=Tryz.isAgg3
 z3:=Tryz.sizeOf3
 v3:=Tryz.zeroValue3
 t4:=Tryz.underlying4
 a4:=Tryz.isAgg4
 z4:=Tryz.sizeOf4
 v4:=Tryz.zeroValue4
 t5:=Tryz.underlying5
 a5:=Tryz.isAgg5
 z5:=Tryz.sizeOf5
 v5:=Tryz.zeroValue5
 t9:=Tryz.underlying9
 a9:=Tryz.isAgg9
 z9:=Tryz.sizeOf9
 v9:=Tryz.zeroValue9
 t21:=Tryz.underlying21
 a21:=Tryz.isAgg21
 z21:=Tryz.sizeOf21
 v21:=Tryz.zeroValue21
 t31:=Tryz.underlying112
 a31:=Tryz.isAgg112
 z31:=Tryz.sizeOf112
 v31:=Tryz.zeroValue112
 t40:=Tryz.underlying233
 a40:=Tryz.isAgg233
 z40:=Tryz.sizeOf233
 v40:=Tryz.zeroValue233
 t46:=Tryz.underlying217
 a46:=Tryz.isAgg217
 z46:=Tryz.sizeOf217
 v46:=Tryz.zeroValue217
 t49:=Tryz.underlying288
 a49:=Tryz.isAgg288
 z49:=Tryz.sizeOf288
 v49:=Tryz.zeroValue288
 t51:=Tryz.underlying260
 a51:=Tryz.isAgg260
 z51:=Tryz.sizeOf260
 v51:=Tryz.zeroValue260
 t119:=Tryz.underlying231
 a119:=Tryz.isAgg231
 z119:=Tryz.sizeOf231
 t141:=Tryz.underlying262
 a141:=Tryz.isAgg262
 z141:=Tryz.sizeOf262
 v141:=Tryz.zeroValue262
 t152:=Tryz.underlying257
 a152:=Tryz.isAgg257
 z152:=Tryz.sizeOf257
 v152:=Tryz.zeroValue257
 t154:=Tryz.underlying259
 a154:=Tryz.isAgg259
 z154:=Tryz.sizeOf259
 v154:=Tryz.zeroValue259
 t193:=Tryz.underlying284
 a193:=Tryz.isAgg284
 z193:=Tryz.sizeOf284
 v193:=Tryz.zeroValue284
 t194:=Tryz.underlying285
 a194:=Tryz.isAgg285
 z194:=Tryz.sizeOf285
 v194:=Tryz.zeroValue285
 t196:=Tryz.underlying287
 a196:=Tryz.isAgg287
 z196:=Tryz.sizeOf287
 v196:=Tryz.zeroValue287
 t198:=Tryz.underlying290
 a198:=Tryz.isAgg290
 z198:=Tryz.sizeOf290
 v198:=Tryz.zeroValue290
 t201:=Tryz.underlying293
 a201:=Tryz.isAgg293
 z201:=Tryz.sizeOf293
 v201:=Tryz.zeroValue293
 t226:=Tryz.underlying310
 a226:=Tryz.isAgg310
 z226:=Tryz.sizeOf310
 v226:=Tryz.zeroValue310
 t227:=Tryz.underlying311
 a227:=Tryz.isAgg311
 z227:=Tryz.sizeOf311
 v227:=Tryz.zeroValue311
 g0:=kj
 g6:=by kernel_rfl }
end Go.Proofs
namespace Go.TA
open Go
abbrev Scr.r {P:Program} {ρ α:Type} (a:α):Scr P ρ α:=.ret [] a
abbrev Scr.c {P:Program} {ρ σ:Type} (a:σ):Scr P ρ (Step σ ρ):=.ret [] (.cont a)
abbrev Scr.b {P:Program} {ρ σ:Type} (a:σ):Scr P ρ (Step σ ρ):=.ret [] (.brk a)
abbrev Scr.t {P:Program} {ρ σ:Type} (a:ρ):Scr P ρ (Step σ ρ):=.ret [] (.ret a)
abbrev Scr.n {P:Program} {ρ σ α:Type} (a:σ):Scr P ρ (Out σ α):=.ret [] (.next a)
abbrev Scr.o {P:Program} {ρ σ α:Type} (a:α):Scr P ρ (Out σ α):=.ret [] (.ret a)
abbrev Scr.k {P:Program} {ρ α:Type} (n m:Nat) (c:CR) (σ:List Nat) (k:Nat) (b:Bool) (x:Scr P ρ α):Scr P ρ α:=.reg n [] [(m,hc c σ b)] [.cl 0 c σ k b] x
abbrev Scr.a {P:Program} {ρ α R:Type} (n m k:Nat) {f:FuncId} {z:List AV} {L:List Ob} {V:R->AV} {L':R->List Ob} {y:Option R} (ok:∀ r,y=some r->CallOk P f z L (V r) (L' r)) (x:R->Scr P ρ α):Scr P ρ α:=.call ok fun r c=>.reg n [] [(m,hc c [] true)] [.cl 0 c [] k true] (x r)
abbrev Why.e {α:Type} (x:α):Why:=.pf (y2b x)
abbrev Why.w (n:Nat):Why:=.pf (nn n)
end Go.TA
namespace Go.Proofs.YtdmddkbngmhepaaGreatDoor
open Go Go.TA Go.RowKit
abbrev SC:=Scr Tryz.prog
abbrev FO {ρ:Type} (f:Option ρ) (i:FuncId) (a:List AV) (L:List Ob) (V:ρ->AV) (Lr:ρ->List Ob):Prop:=∀ r,f=some r->CallOk Tryz.prog i a L (V r) (Lr r)
theorem fO {ρ:Type} {fn:Func} {V:ρ->AV} {Lr:ρ->List Ob} {f:FuncId} {c:Code} {a:List AV} {L:List Ob} {s:SC ρ ρ} (hf:Tryz.prog.funcs[f]?=some fn) (hb:fn.body=some c:=by rfl) (h:fvc Tryz.prog fn V Lr false c a L s=fvc Tryz.prog fn V Lr true c a L s:=by (kernel_rfl)):FO s.den f a L V Lr:=fun _ k=>fOk hf hb h k
abbrev NL {ρ:Type} (_:ρ):List Ob:=[]
noncomputable def F_q77 (l:List UInt8):Option (Int×Bool):=guardP (l.length<=281474976710656) (some (atoiF l))
def V_q77 (x:Int×Bool):AV:=.tup [.d (.i .i64 x.1),.err x.2]
def L_q77 (_:Int×Bool):List Ob:=[]
theorem F_q77_ok {l:List UInt8} (r:Int×Bool) (h:F_q77 l=some r):CallOk Tryz.prog 201 [.d (.str l)] [] (V_q77 r) (L_q77 r):=by
 obtain⟨hl,h⟩:=z1j h
 obtain rfl:=y10 h
 refine zi6 (te:=Tryz.lays172_ren.t 168) (gs:=2) (gr:=3) dk dk (fun s hs v hv w=>?_) (fun s hs hv hv' ev w h1 h2=>?_) (fun s hs hv ev w h1 h2=>?_) hl
 ·refine (Any.strconv_Atoi_ok Tryz.lays172 s om v hv w).mono ?_
  rintro e w' ⟨rfl,(rfl | ⟨t,rfl⟩)⟩
  ·exact⟨rfl,Below.refl _ _⟩
  ·exact⟨rfl,Lib.bytesWorld_below _ _ _⟩
 ·refine (Any.strconv_Atoi_syntax Tryz.lays172 s hs (by
   cases hx:Lib.atoiAll s.data.toList with
   | ok v=>exact absurd hx (hv v)
   | range=>exact absurd hx hv'
   | _=>rfl) ev w h1 h2).mono ?_
  rintro e w' ⟨N,rfl,_,_,hb⟩
  exact⟨N,rfl,hb⟩
 ·refine (Any.strconv_Atoi_range Tryz.lays172 s hs hv ev w h1 h2).mono ?_
  rintro e w' ⟨N,rfl,_,_,hb⟩
  exact⟨N,rfl,hb⟩
noncomputable def F_q71 (n:Int):Option (List UInt8):=guardP (0<=n/\n<100) (some (Lib.decDigits n.toNat))
def V_q71 (x:List UInt8):AV:=.d (.str x)
def L_q71 (_:List UInt8):List Ob:=[]
theorem F_q71_ok {n:Int} (r:List UInt8) (h:F_q71 n=some r):CallOk Tryz.prog 202 [.d (.i .i64 n)] [] (V_q71 r) (L_q71 r):=by
 obtain⟨hl,h⟩:=z1j h
 obtain rfl:=y10 h
 exact zi7 (fun i hi w=>Any.strconv_Itoa_small { Tryz.lays171 with } i hi w) hl.1 hl.2
theorem zsb (s:ByteArray) (w:World):Calls Tryz.prog 256 #[.string s,.string ⟨#[46]⟩] w fun e w'=>e = .returned (.int .i64 (Lib.indexByte s.data.toList 46))/\w'=w:=Any.strings_Index_one Tryz.lays143 s 46 w
noncomputable def z6y (x:List UInt8) (s:List Int):SC (List Int) (Step (List Int) (List Int)) :=
.call (@F_q77_ok x) fun r1 c1 =>
.reg 4 [] [(1,hc c1 [] true)] [.cl 0 c1 [] 3 true] <|
.calld [(bif (bif r1.2 then true else (decide (r1.1<1))) then true else (decide (r1.1>99)))=false] default (@F_q71_ok r1.1) fun r2 c2 =>
.reg 5 [] [(12,hc c2 [] true)] [.clg 0 [(bif (bif r1.2 then true else (decide (r1.1<1))) then true else (decide (r1.1>99)))=false] c2 [] 3 true] <|
.ite (bif (bif (bif r1.2 then true else (decide (r1.1<1))) then true else (decide (r1.1>99))) then true else (!(r2==x))) (
.reg 6 [] [] [] <|
.sh (A:=True) (.pf trivial) [(2,(vp 0))] [(2,(vp 0))] [(Ob.box (AV.full 0 fun _=>DV.b false)),(Ob.box (AV.ref 2 s.length 0 s.length)),(eS 1 (DV.i .i64) s)] [(Ob.box (vl ([]:List Int))),(Ob.box (AV.ref 2 s.length 0 s.length)),(eS 1 (DV.i .i64) s)] (fun _=>(zcs (.box _ _ _ _ _ (y15 rfl) TrV.full (.keep _ _ _ _ (y15 rfl) (.keep _ _ _ _ (y15 rfl) (.nil _)))))) (z16 (k:=0) rfl (TrS.keep _) z2g) <|
.ret [] (.ret [])) (
.guard [(s.length+1) * (2 * 8)<=2 ^ 48] <|
.reg 7 [] [(2,hv (vl ([r1.1]:List Int))),(3,{ cast:=some (AV.ref 2 ((s++([r1.1]:List Int)).length) 0 ((s++([r1.1]:List Int)).length)),obs:=[(2,(eS 1 (DV.i .i64) (s++([r1.1]:List Int))))] })] [.pf (ze (DV.i .i64) ([r1.1]:List Int)),.pf (y2b s.length),.pf (y2b s.length),.pf (p:=∀ k,k<1->(AV.d ((DV.i .i64) (([r1.1]:List Int).getD k default))).wd=1) (fun _ _=>rfl),.ev 0,.pf (zw (o:=2) (l:=s) (x:=([r1.1]:List Int))),.pf (z10 (sz:=1) (e:=(DV.i .i64)) (l:=s) (x:=([r1.1]:List Int)))] <|
.ret [] (.cont (s++([r1.1]:List Int))))
noncomputable def zca (s:List Int):SC (List Int) (List Int) :=
.ite (decide ((s.length:Int)>4)) (
.reg 9 [] [] [] <|
.sh (A:=True) (.pf trivial) [(2,(vp 0))] [(2,(vp 0))] [(Ob.box (AV.full 0 fun _=>DV.b false)),(Ob.box (AV.ref 2 s.length 0 s.length)),(eS 1 (DV.i .i64) s)] [(Ob.box (vl ([]:List Int))),(Ob.box (AV.ref 2 s.length 0 s.length)),(eS 1 (DV.i .i64) s)] (fun _=>(zcs (.box _ _ _ _ _ (y15 rfl) TrV.full (.keep _ _ _ _ (y15 rfl) (.keep _ _ _ _ (y15 rfl) (.nil _)))))) (z16 (k:=0) rfl (TrS.keep _) z2g) <|
.ret [] ([]:List Int)) (
.guard [s.length<2 ^ 63] <|
.reg 10 [] [] [] <|
.frz 2 (.ev 0) none [] [0,1] <|
.ret [] s)
def cL:Code->Code
 | .seq x _=>x
 | _=>.skip
def cR:Code->Code
 | .seq _ y=>y
 | _=>.skip
def cI:Code->Code
 | .block _ x=>x
 | _=>.skip
def cA:Code->Code
 | .rangeFunc _ _ x _=>x
 | _=>.skip
def cB:Code->Code
 | .rangeFunc _ _ _ y=>y
 | _=>.skip
noncomputable def c68:Code:=Tryz.f161.body.getD .skip
noncomputable def zg2:Code:=cL c68
noncomputable def zg3:Code:=cL (cR c68)
noncomputable def zb0:Code:=cR (cR c68)
noncomputable def z6z:Code:=cI (cR (cL zb0))
theorem zsc:Tryz.f161.body=some (.seq zg2 (.seq zg3 (.seq (.seq (cL (cL zb0)) (.block 0 (.rangeFunc (.tmp 8) #[9] (cA z6z) (cB z6z)))) (cR zb0)))):=kj
theorem zsd (z:Option Nat) (x:List UInt8) (s:List Int) {r:Step (List Int) (List Int)} (hr:(z6y x s).den=some r) :
  AW z Tryz.prog Tryz.f161.ntmps (cB z6z) (fun e fr L=>match e with
   | .normal=>∃ s',r = .cont s'/\StLe fr L [] (pLI s')
   | .ret=>∃ y,r = .ret y/\∃ J,L=[.box (.d (eL (.i .i64) y))]++J
   | _=>False) [(4,.d (.str x)),(2,vp 0),(3,vp 1)] (pLI s):=pBody kj hr
theorem zse (s:List Int) {r:List Int} (hr:(zca s).den=some r) :
  AW none Tryz.prog Tryz.f161.ntmps (cR zb0) (FQ Tryz.prog Tryz.f161 (vl r) []) [(2,vp 0),(3,vp 1)] (pLI s):=pTail (V:=fun r=>vl r) (Lr:=fun _=>[]) kj hr
end Go.Proofs.YtdmddkbngmhepaaGreatDoor
