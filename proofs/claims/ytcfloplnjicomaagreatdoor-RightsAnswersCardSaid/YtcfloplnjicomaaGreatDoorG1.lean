/- A part of the proof: what the functions compute, and that their calls return it. No condition. -/
import Derived.Test.YtcfloplnjicomaaGreatDoorT4
import Derived.RangeFuncBound
import Derived.Shelf.Abstract
import Derived.Shelf.RegionOpen
import Derived.WalkKit
import Derived.OwnWalkIn
import Derived.TacticsInMore
import Derived.LoopNIn
import Derived.LoopIn
import Derived.Shelf.Strings.Search3
import Derived.Test.YtcfloplnjicomaaGreatDoorProg
import Derived.Shelf.Strconv.AtoiAll
import Derived.Shelf.Strconv.Itoa3
namespace Go.Proofs.YtcfloplnjicomaaGreatDoor
open Go Go.TA Go.RowKit Go.Shelf
attribute [local go_sem] Oper.semAt_some
def encS (l:Y8):Value:=.string ⟨l.toArray⟩
def leftLen (bs:Nat) (w:World):Nat:=match w.cell? ⟨bs,0,none⟩ with
 | some (.string s)=>s.size
 | _=>0
variable {w:World} {bs:Nat} {l:Y8}
theorem z9l (h:w.cell? ⟨bs,0,none⟩=some (encS l)):leftLen bs w=l.length:=by
 unfold leftLen; rw[h]; simp[encS,ByteArray.size]
variable {n:Nat}
theorem z8i {m:Nat} {P:Program} {l f:Nat} {tmps:Array Value} {assign body:Code} {R:Ending->World->Prop} (h:RoundIn Fence.wide n P l f tmps assign body w R):RoundIn Fence.wide m P l f tmps assign body w R :=
 ⟨h.1,fun c cs _=>h.2 c cs (room_wide _)⟩
theorem zck (hIdx:∀ (s:ByteArray) (w:World),Calls Tryz.prog 101 #[.string s,.string ⟨#[46]⟩] w fun e w'=>e = .returned (.int .i64 (Lib.indexByte s.data.toList 46))/\w'=w) {bsep bsv:Nat} (h1:w.cell? ⟨bsep,0,none⟩=some (.string ⟨#[46]⟩)) (h2:w.cell? ⟨bs,0,none⟩=some (encS l)) (h2f:w.frozen? ⟨bs,0,none⟩=false) (h3:w.cell? ⟨bsv,0,none⟩=some (.int .i64 0)) (n1:bsep≠bs) (n2:bsv≠bs) (hl:l.length<4611686018427387904) :
  SeqT Tryz.prog (n+1) 99 #[.pointer (some ⟨bsep,0,none⟩),.pointer (some ⟨bs,0,none⟩),.pointer (some ⟨bsv,0,none⟩)] encS (fun k=>k=bs) [bsep,bs,bsv] w (fun xs=>xs=pieces l) (fun ys=>∃ zs,pieces l=ys++zs):=by
 intro y J Jx W hsz hcap hJ hJx hY h0
 refine callsIn_of_wp Tryz.func99 rfl trivial ?_ rfl
 simp only[Tryz.ntmps99,y1x,y19,y1t,Nat.reduceAdd,Nat.reduceSub,y48,y49,y4l,y4e,y24,y37]
 have hcell:∀ {A B:World} {k:Nat},B.heap[k]? = A.heap[k]? -> B.cell? ⟨k,0,none⟩=A.cell? ⟨k,0,none⟩:=fun h=>by simp[World.cell?,h]
 have hfroz:∀ {A B:World} {k:Nat},B.heap[k]? = A.heap[k]? -> B.frozen? ⟨k,0,none⟩=A.frozen? ⟨k,0,none⟩:=fun h=>by simp[World.frozen?,h]
 have g1:W.cell? ⟨bsep,0,none⟩=some (.string ⟨#[46]⟩):=(hcell (hcap _ sj)).trans h1
 have g2:W.cell? ⟨bs,0,none⟩=some (encS l):=(hcell (hcap _ sj)).trans h2
 have g2f:W.frozen? ⟨bs,0,none⟩=false:=(hfroz (hcap _ sj)).trans h2f
 have g3:W.cell? ⟨bsv,0,none⟩=some (.int .i64 0):=(hcell (hcap _ sj)).trans h3
 gi_wp2
 gi_loopw [7] (fun _ wr=>∃ (pre:List Y8) (rest:Y8),pieces l=pre++pieces rest/\rest.length<=l.length/\wr.cell? ⟨bs,0,none⟩=some (encS rest)/\wr.frozen? ⟨bs,0,none⟩=false/\wr.cell? ⟨bsep,0,none⟩=some (.string ⟨#[46]⟩)/\wr.cell? ⟨bsv,0,none⟩=some (.int .i64 0)/\J pre wr)
  (fun _ wr=>leftLen bs wr)
 case atStart =>
  exact⟨[],l,rfl,ye _,g2,g2f,g1,g3,h0⟩
 case round =>
  obtain⟨pre,rest,hx,hlr,k2,k2f,k1,k3,hJs⟩:=hrel
  obtain⟨hp1,hp2⟩:=z7b rest
  have hIw:=hIdx ⟨rest.toArray⟩ wr
  have hlist:(⟨rest.toArray⟩:ByteArray).data.toList=rest:=sj
  rw[hlist] at hIw; clear hlist
  simp only[encS] at k2
  by_cases hi:Lib.indexByte rest 46=-1
  ·rw[hi] at hIw
   obtain⟨fn,tmps,assign,body,hy,hR⟩:=hY pre rest wr ⟨[],by rw[hx,hp1 hi]; simp⟩ hJs
   dsimp only [encS] at hy
   gi_wp2_with (refine⟨trivial,?_⟩; gi_at_call 101; refine (y46.2 hIw).mono ?_; rintro e w' ⟨rfl,rfl⟩)
   refine (z8i hR).mono ?_
   rintro e W' (⟨rfl,hJ',hk⟩ | ⟨rfl,hJx'⟩)
   ·gi_wp2
    go_end0
    exact⟨⟨_,rfl⟩,.inl ⟨pre++[rest],by rw[hx,hp1 hi],hJ'⟩⟩
   ·gi_wp2
    go_end0
    exact⟨⟨_,rfl⟩,.inr ⟨_,hJx'⟩⟩
  ·obtain⟨i0,i1,i2⟩:=hp2 hi
   obtain⟨m,hm⟩:∃ m:Nat,Lib.indexByte rest 46=m:=⟨(Lib.indexByte rest 46).toNat,om⟩
   rw[hm] at hIw i1 i2
   rw[yp] at i1 i2
   have e1:encS (rest.take m)=Value.string ((⟨rest.toArray⟩:ByteArray).extract 0 m):=by
    unfold encS; congr 1; apply ByteArray.ext; simp[ByteArray.data_extract]
   obtain⟨fn,tmps,assign,body,hy,hR⟩:=hY pre (rest.take m) wr ⟨pieces (rest.drop (m+1)),by rw[hx,i2]; simp⟩ hJs
   rw[e1] at hy
   gi_wp2_with (refine⟨trivial,?_⟩; gi_at_call 101; refine (y46.2 hIw).mono ?_; rintro e w' ⟨rfl,rfl⟩)
   refine (z8i hR).mono ?_
   rintro e W' (⟨rfl,hJ',hk⟩ | ⟨rfl,hJx'⟩)
   ·have q1:=(hcell (hk.2 bsep sj)).trans k1
    have q2:=(hcell (hk.2 bs sj)).trans k2
    have q2f:=(hfroz (hk.2 bs sj)).trans k2f
    have q3:=(hcell (hk.2 bsv sj)).trans k3
    gi_wp2
    have e2:Value.string ((⟨rest.toArray⟩:ByteArray).extract (m+1) rest.length)=encS (rest.drop (m+1)):=by
     unfold encS; congr 1; apply ByteArray.ext; simp[ByteArray.data_extract]; exact y3b sj
    rw[e2]
    have hc2:=World.cell?_setCell_same' W' ⟨bs,0,none⟩ (encS (rest.drop (m+1))) (by rw[q2]; rfl)
    refine⟨⟨pre++[rest.take m],rest.drop (m+1),?_,?_,hc2,?_,?_,?_,?_⟩,?_⟩
    ·rw[hx,i2,y2g]; rfl
    ·rw[y3z]; omega
    ·rw[World.frozen?_setCell]; exact q2f
    ·exact (hcell (Below.heap_setCell W' ⟨bs,0,none⟩ _ bsep n1)).trans q1
    ·exact (hcell (Below.heap_setCell W' ⟨bs,0,none⟩ _ bsv n2)).trans q3
    ·exact hJ _ _ _ hJ' ⟨⟨rfl,rfl,rfl⟩,by show W'.heap.size<=(W'.heap.modify _ _).size; rw[Array.size_modify]; exact ye _,fun k _ hk=>Below.heap_setCell W' ⟨bs,0,none⟩ _ k hk⟩
    ·rw[z9l hc2,z9l (l:=rest) k2,y3z]; omega
   ·gi_wp2
    exact bodyPost_ret (results_none rfl _ _ _) rfl ⟨⟨_,rfl⟩,.inr ⟨_,hJx'⟩⟩
end Go.Proofs.YtcfloplnjicomaaGreatDoor
namespace Go.Proofs.YtcfloplnjicomaaGreatDoor
open Go Go.TA Go.RowKit Go.Shelf
attribute [local go_sem] Oper.semAt_some
theorem zai (n:Nat) (s:ByteArray) (w:World):CallsIn Fence.wide (n+1) Tryz.prog 93 #[.string s,.string ⟨#[46]⟩,.int .i64 0] w fun e w' =>
  e = .returned (.func (.func 99) #[] #[.pointer (some ⟨w.heap.size+1,0,none⟩),.pointer (some ⟨w.heap.size,0,none⟩),.pointer (some ⟨w.heap.size+2,0,none⟩)]) /\
   w'=((w.alloc (.cells #[.string s] 9)).alloc (.cells #[.string ⟨#[46]⟩] 9)).alloc (.cells #[.int .i64 0] 3):=by
 refine callsIn_of_wp Tryz.func93 rfl trivial ?_ rfl
 simp only[Tryz.ntmps93,y1x,y19,y1t,Nat.reduceAdd,Nat.reduceSub,y48,y49,y4l,y4e,y24,y37]
 gi_wp2
 exact bodyPost_ret (results_tmp rfl _ _ _) rfl ⟨rfl,rfl⟩
theorem zbl (n:Nat) (s:ByteArray) (w:World):CallsIn Fence.wide (n+2) Tryz.prog 84 #[.string s,.string ⟨#[46]⟩] w fun e w' =>
  e = .returned (.func (.func 99) #[] #[.pointer (some ⟨w.heap.size+1,0,none⟩),.pointer (some ⟨w.heap.size,0,none⟩),.pointer (some ⟨w.heap.size+2,0,none⟩)]) /\
   w'=((w.alloc (.cells #[.string s] 9)).alloc (.cells #[.string ⟨#[46]⟩] 9)).alloc (.cells #[.int .i64 0] 3):=by
 refine callsIn_of_wp Tryz.func84 rfl trivial ?_ rfl
 simp only[Tryz.ntmps84,y1x,y19,y1t,Nat.reduceAdd,Nat.reduceSub,y48,y49,y4l,y4e,y24,y37]
 gi_wp2
 refine⟨trivial,?_⟩
 refine (zai n s w).mono ?_
 rintro e w' ⟨rfl,rfl⟩
 gi_wp2
 exact bodyPost_ret (results_tmp rfl _ _ _) rfl ⟨rfl,rfl⟩
end Go.Proofs.YtcfloplnjicomaaGreatDoor
/- The layings of library contracts at this program. No condition. -/
namespace Go.Proofs
open Go.Shelf
def Tryz.lays143_ren:Go.Shelf.Ren:=⟨fun | 143=>101 | 219=>110 | 217=>118 | 225=>119 | 224=>120 | 267=>121 | 266=>129 | 314=>130 | n=>n,fun | 9=>9 | 3=>3 | 4=>4 | 5=>5 | 46=>105 | 146=>150 | 51=>147 | n=>n,fun | 1=>4 | n=>n⟩
theorem Tryz.lays143:Go.Proofs.Lays.n143 Tryz.prog Tryz.lays143_ren:={
 mixed:=kj
 f143:=Tryz.func101.trans (y15 some kj)
 f217:=Tryz.func118.trans (y15 some kj)
 f219:=Tryz.func110.trans (y15 some kj)
 f224:=Tryz.func120.trans (y15 some kj)
 f225:=Tryz.func119.trans (y15 some kj)
 f266:=Tryz.func129.trans (y15 some kj)
 f267:=Tryz.func121.trans (y15 some kj)
 f314:=Tryz.func130.trans (y15 some kj)
 t3:=Tryz.underlying3
 a3:=Tryz.isAgg3
 z3:=Tryz.sizeOf3
 v3:=Tryz.zeroValue3
 t4:=Tryz.underlying4
 a4:=Tryz.isAgg4
 z4:=Tryz.sizeOf4
 v4:=Tryz.zeroValue4
 t5:=Tryz.underlying5
 a5:=Tryz.isAgg5
 z5:=Tryz.sizeOf5
 v5:=Tryz.zeroValue5
 t9:=Tryz.underlying9
 a9:=Tryz.isAgg9
 z9:=Tryz.sizeOf9
 v9:=Tryz.zeroValue9
 t46:=Tryz.underlying105
 a46:=Tryz.isAgg105
 z46:=Tryz.sizeOf105
 v46:=Tryz.zeroValue105
 t51:=Tryz.underlying147
 a51:=Tryz.isAgg147
 z51:=Tryz.sizeOf147
 v51:=Tryz.zeroValue147
 t146:=Tryz.underlying150
 a146:=Tryz.isAgg150
 z146:=Tryz.sizeOf150
 v146:=Tryz.zeroValue150
 g1:=by kernel_rfl }
def Tryz.lays172_ren:Go.Shelf.Ren:=⟨fun | 172=>85 | 244=>94 | 245=>95 | 247=>102 | 279=>103 | 280=>104 | 281=>105 | 282=>106 | 287=>111 | 316=>112 | 171=>86 | 205=>113 | 321=>122 | 322=>123 | 243=>96 | 246=>107 | 283=>114 | 284=>115 | 285=>116 | 286=>117 | 129=>125 | 317=>124 | 318=>126 | 319=>127 | 320=>128 | 337=>131 | 338=>132 | n=>n,fun | 9=>9 | 3=>3 | 75=>101 | 76=>102 | 4=>4 | 5=>5 | 167=>114 | 37=>115 | 0=>0 | 85=>116 | 2=>2 | 168=>118 | 53=>123 | 175=>124 | 46=>105 | 210=>128 | 127=>141 | 145=>144 | 143=>142 | 21=>21 | 171=>130 | 173=>133 | 212=>146 | 51=>147 | 20=>20 | 213=>148 | 232=>153 | 233=>154 | 80=>155 | n=>n,fun | 15=>0 | 16=>1 | 17=>5 | 18=>6 | 19=>7 | n=>n⟩
theorem Tryz.lays172:Go.Proofs.LaysC.n172 Tryz.prog Tryz.lays172_ren:={
 mixed:=kj
 f129:=Tryz.func125.trans (y15 some kj)
 f171:=Tryz.func86.trans (y15 some kj)
 f172:=Tryz.func85.trans (y15 some kj)
 f205:=Tryz.func113.trans (y15 some kj)
 f243:=Tryz.func96.trans (y15 some kj)
 f244:=Tryz.func94.trans (y15 some kj)
 f245:=Tryz.func95.trans (y15 some kj)
 f246:=Tryz.func107.trans (y15 some kj)
 f247:=Tryz.func102.trans (y15 some kj)
 f279:=Tryz.func103.trans (y15 some kj)
 f280:=Tryz.func104.trans (y15 some kj)
 f281:=Tryz.func105.trans (y15 some kj)
 f282:=Tryz.func106.trans (y15 some kj)
 f283:=Tryz.func114.trans (y15 some kj)
 f284:=Tryz.func115.trans (y15 some kj)
 f285:=Tryz.func116.trans (y15 some kj)
 f286:=Tryz.func117.trans (y15 some kj)
 f287:=Tryz.func111.trans (y15 some kj)
 f316:=Tryz.func112.trans (y15 some kj)
 f317:=Tryz.func124.trans (y15 some kj)
 f318:=Tryz.func126.trans (y15 some kj)
 f319:=Tryz.func127.trans (y15 some kj)
 f320:=Tryz.func128.trans (y15 some kj)
 f321:=Tryz.func122.trans (y15 some kj)
 f322:=Tryz.func123.trans (y15 some kj)
 f337:=Tryz.func131.trans (y15 some kj)
 f338:=Tryz.func132.trans (y15 some kj)
 t0:=Tryz.underlying0
 a0:=Tryz.isAgg0
 z0:=Tryz.sizeOf0
 v0:=Tryz.zeroValue0
 t2:=Tryz.underlying2
 a2:=Tryz.isAgg2
 z2:=Tryz.sizeOf2
 v2:=Tryz.zeroValue2
 t3:=Tryz.underlying3
 a3:=Tryz.isAgg3
 z3:=Tryz.sizeOf3
 v3:=Tryz.zeroValue3
 t4:=Tryz.underlying4
 a4:=Tryz.isAgg4
 z4:=Tryz.sizeOf4
 v4:=Tryz.zeroValue4
 t5:=Tryz.underlying5
 a5:=Tryz.isAgg5
 z5:=Tryz.sizeOf5
 v5:=Tryz.zeroValue5
 t9:=Tryz.underlying9
 a9:=Tryz.isAgg9
 z9:=Tryz.sizeOf9
 v9:=Tryz.zeroValue9
 t20:=Tryz.underlying20
 a20:=Tryz.isAgg20
 z20:=Tryz.sizeOf20
 v20:=Tryz.zeroValue20
 t21:=Tryz.underlying21
 a21:=Tryz.isAgg21
 z21:=Tryz.sizeOf21
 v21:=Tryz.zeroValue21
 t37:=Tryz.underlying115
 a37:=Tryz.isAgg115
 z37:=Tryz.sizeOf115
 v37:=Tryz.zeroValue115
 t46:=Tryz.underlying105
 a46:=Tryz.isAgg105
 z46:=Tryz.sizeOf105
 v46:=Tryz.zeroValue105
 t51:=Tryz.underlying147
 a51:=Tryz.isAgg147
 z51:=Tryz.sizeOf147
 v51:=Tryz.zeroValue147
 t53:=Tryz.underlying123
 a53:=Tryz.isAgg123
 z53:=Tryz.sizeOf123
 v53:=Tryz.zeroValue123
 t75:=Tryz.underlying101
 a75:=Tryz.isAgg101
 z75:=Tryz.sizeOf101
 v75:=Tryz.zeroValue101
 t76:=Tryz.underlying102
 a76:=Tryz.isAgg102
 z76:=Tryz.sizeOf102
 v76:=Tryz.zeroValue102
 t85:=Tryz.underlying116
 a85:=Tryz.isAgg116
 z85:=Tryz.sizeOf116
 v85:=Tryz.zeroValue116
 t127:=Tryz.underlying141
 a127:=Tryz.isAgg141
 z127:=Tryz.sizeOf141
 v127:=Tryz.zeroValue141
 t143:=Tryz.underlying142
 a143:=Tryz.isAgg142
 z143:=Tryz.sizeOf142
 v143:=Tryz.zeroValue142
 t145:=Tryz.underlying144
 a145:=Tryz.isAgg144
 z145:=Tryz.sizeOf144
 v145:=Tryz.zeroValue144
 t167:=Tryz.underlying114
 a167:=Tryz.isAgg114
 z167:=Tryz.sizeOf114
 v167:=Tryz.zeroValue114
 t168:=Tryz.underlying118
 a168:=Tryz.isAgg118
 z168:=Tryz.sizeOf118
 v168:=Tryz.zeroValue118
 t171:=Tryz.underlying130
 a171:=Tryz.isAgg130
 z171:=Tryz.sizeOf130
 v171:=Tryz.zeroValue130
 t173:=Tryz.underlying133
 a173:=Tryz.isAgg133
 z173:=Tryz.sizeOf133
 v173:=Tryz.zeroValue133
 t175:=Tryz.underlying124
 a175:=Tryz.isAgg124
 z175:=Tryz.sizeOf124
 v175:=Tryz.zeroValue124
 t210:=Tryz.underlying128
 a210:=Tryz.isAgg128
 z210:=Tryz.sizeOf128
 v210:=Tryz.zeroValue128
 t212:=Tryz.underlying146
 a212:=Tryz.isAgg146
 z212:=Tryz.sizeOf146
 v212:=Tryz.zeroValue146
 t213:=Tryz.underlying148
 a213:=Tryz.isAgg148
 z213:=Tryz.sizeOf148
 t232:=Tryz.underlying153
 a232:=Tryz.isAgg153
 z232:=Tryz.sizeOf153
 v232:=Tryz.zeroValue153
 t233:=Tryz.underlying154
 a233:=Tryz.isAgg154
 z233:=Tryz.sizeOf154
 v233:=Tryz.zeroValue154
 g15:=kj
 g16:=kj
 g17:=kj
 g18:=kj
 g19:=kj
 t80:=Tryz.underlying155
 a80:=Tryz.isAgg155
 z80:=Tryz.sizeOf155
 v80:=Tryz.zeroValue155
 i0:=kj
 i2:=kj
 i3:=kj
 i4:=kj
 i5:=kj
 i9:=kj
 i20:=kj
 i21:=kj
 i37:=kj
 i46:=kj
 i51:=kj
 i53:=kj
 i75:=kj
 i76:=kj
 i80:=kj
 i85:=kj
 i127:=kj
 i143:=kj
 i145:=kj
 i167:=kj
 i168:=kj
 i171:=kj
 i173:=kj
 i175:=kj
 i210:=kj
 i212:=kj
 i232:=kj
 i233:=kj
 m15:=kj
 m16:=kj
 m17:=kj
 m18:=kj
 m19:=kj
 c0:=kj
 c2:=kj
 c3:=kj
 c4:=kj
 c5:=kj
 c9:=kj
 c20:=kj
 c21:=kj
 c37:=kj
 c46:=kj
 c51:=kj
 c53:=kj
 c75:=kj
 c76:=kj
 c80:=kj
 c85:=kj
 c127:=kj
 c143:=kj
 c145:=kj
 c167:=kj
 c168:=kj
 c171:=kj
 c173:=kj
 c175:=kj
 c210:=kj
 c212:=kj
 c213:=kj
 c232:=kj
 c233:=by kernel_rfl }
def Tryz.lays171_ren:Go.Shelf.Ren:=⟨fun | 171=>86 | 243=>96 | 246=>107 | 283=>114 | 284=>115 | 285=>116 | 286=>117 | 129=>125 | 317=>124 | 318=>126 | 319=>127 | 320=>128 | 337=>131 | 338=>132 | n=>n,fun | 3=>3 | 9=>9 | 2=>2 | 4=>4 | 171=>130 | 0=>0 | 53=>123 | 37=>115 | 5=>5 | 173=>133 | 212=>146 | 51=>147 | 20=>20 | 213=>148 | 46=>105 | 232=>153 | 233=>154 | n=>n,fun | 17=>5 | 18=>6 | 19=>7 | n=>n⟩
theorem Tryz.lays171:Go.Proofs.Lays.n171 Tryz.prog Tryz.lays171_ren:={
 mixed:=kj
 f129:=Tryz.func125.trans (y15 some kj)
 f171:=Tryz.func86.trans (y15 some kj)
 f243:=Tryz.func96.trans (y15 some kj)
 f246:=Tryz.func107.trans (y15 some kj)
 f283:=Tryz.func114.trans (y15 some kj)
 f284:=Tryz.func115.trans (y15 some kj)
 f285:=Tryz.func116.trans (y15 some kj)
 f286:=Tryz.func117.trans (y15 some kj)
 f317:=Tryz.func124.trans (y15 some kj)
 f318:=Tryz.func126.trans (y15 some kj)
 f319:=Tryz.func127.trans (y15 some kj)
 f320:=Tryz.func128.trans (y15 some kj)
 f337:=Tryz.func131.trans (y15 some kj)
 f338:=Tryz.func132.trans (y15 some kj)
 t0:=Tryz.underlying0
 a0:=Tryz.isAgg0
 z0:=Tryz.sizeOf0
 v0:=Tryz.zeroValue0
 t2:=Tryz.underlying2
 a2:=Tryz.isAgg2
 z2:=Tryz.sizeOf2
 v2:=Tryz.zeroValue2
 t3:=Tryz.underlying3
 a3:=Tryz.isAgg3
 z3:=Tryz.sizeOf3
 v3:=Tryz.zeroValue3
 t4:=Tryz.underlying4
 a4:=Tryz.isAgg4
 z4:=Tryz.sizeOf4
 v4:=Tryz.zeroValue4
 t5:=Tryz.underlying5
 a5:=Tryz.isAgg5
 z5:=Tryz.sizeOf5
 v5:=Tryz.zeroValue5
 t9:=Tryz.underlying9
 a9:=Tryz.isAgg9
 z9:=Tryz.sizeOf9
 v9:=Tryz.zeroValue9
 t20:=Tryz.underlying20
 a20:=Tryz.isAgg20
 z20:=Tryz.sizeOf20
 v20:=Tryz.zeroValue20
 t37:=Tryz.underlying115
 a37:=Tryz.isAgg115
 z37:=Tryz.sizeOf115
 v37:=Tryz.zeroValue115
 t46:=Tryz.underlying105
 a46:=Tryz.isAgg105
 z46:=Tryz.sizeOf105
 v46:=Tryz.zeroValue105
 t51:=Tryz.underlying147
 a51:=Tryz.isAgg147
 z51:=Tryz.sizeOf147
 v51:=Tryz.zeroValue147
 t53:=Tryz.underlying123
 a53:=Tryz.isAgg123
 z53:=Tryz.sizeOf123
 v53:=Tryz.zeroValue123
 t171:=Tryz.underlying130
 a171:=Tryz.isAgg130
 z171:=Tryz.sizeOf130
 v171:=Tryz.zeroValue130
 t173:=Tryz.underlying133
 a173:=Tryz.isAgg133
 z173:=Tryz.sizeOf133
 v173:=Tryz.zeroValue133
 t212:=Tryz.underlying146
 a212:=Tryz.isAgg146
 z212:=Tryz.sizeOf146
 v212:=Tryz.zeroValue146
 t213:=Tryz.underlying148
 a213:=Tryz.isAgg148
 z213:=Tryz.sizeOf148
 t232:=Tryz.underlying153
 a232:=Tryz.isAgg153
 z232:=Tryz.sizeOf153
 v232:=Tryz.zeroValue153
 t233:=Tryz.underlying154
 a233:=Tryz.isAgg154
 z233:=Tryz.sizeOf154
 v233:=Tryz.zeroValue154
 g17:=kj
 g18:=kj
 g19:=by kernel_rfl }
end Go.Proofs
namespace Go.TA
open Go
abbrev Scr.r {P:Program} {ρ α:Type} (a:α):Scr P ρ α:=.ret [] a
abbrev Scr.c {P:Program} {ρ σ:Type} (a:σ):Scr P ρ (Step σ ρ):=.ret [] (.cont a)
abbrev Scr.b {P:Program} {ρ σ:Type} (a:σ):Scr P ρ (Step σ ρ):=.ret [] (.brk a)
abbrev Scr.t {P:Program} {ρ σ:Type} (a:ρ):Scr P ρ (Step σ ρ):=.ret [] (.ret a)
abbrev Scr.n {P:Program} {ρ σ α:Type} (a:σ):Scr P ρ (Out σ α):=.ret [] (.next a)
abbrev Scr.o {P:Program} {ρ σ α:Type} (a:α):Scr P ρ (Out σ α):=.ret [] (.ret a)
abbrev Scr.k {P:Program} {ρ α:Type} (n m:Nat) (c:CR) (σ:List Nat) (k:Nat) (b:Bool) (x:Scr P ρ α):Scr P ρ α:=.reg n [] [(m,hc c σ b)] [.cl 0 c σ k b] x
abbrev Scr.a {P:Program} {ρ α R:Type} (n m k:Nat) {f:FuncId} {z:List AV} {L:List Ob} {V:R->AV} {L':R->List Ob} {y:Option R} (ok:∀ r,y=some r->CallOk P f z L (V r) (L' r)) (x:R->Scr P ρ α):Scr P ρ α:=.call ok fun r c=>.reg n [] [(m,hc c [] true)] [.cl 0 c [] k true] (x r)
abbrev Why.e {α:Type} (x:α):Why:=.pf (y27 x)
abbrev Why.w (n:Nat):Why:=.pf (nn n)
end Go.TA
namespace Go.Proofs.YtcfloplnjicomaaGreatDoor
open Go Go.TA Go.RowKit
abbrev SC:=Scr Tryz.prog
abbrev FO {ρ:Type} (f:Option ρ) (i:FuncId) (a:List AV) (L:List Ob) (V:ρ->AV) (Lr:ρ->List Ob):Prop:=∀ r,f=some r->CallOk Tryz.prog i a L (V r) (Lr r)
theorem fO {ρ:Type} {fn:Func} {V:ρ->AV} {Lr:ρ->List Ob} {f:FuncId} {c:Code} {a:List AV} {L:List Ob} {s:SC ρ ρ} (hf:Tryz.prog.funcs[f]?=some fn) (hb:fn.body=some c:=by rfl) (h:fvc Tryz.prog fn V Lr false c a L s=fvc Tryz.prog fn V Lr true c a L s:=by (kernel_rfl)):FO s.den f a L V Lr:=fun _ k=>fOk hf hb h k
abbrev NL {ρ:Type} (_:ρ):List Ob:=[]
noncomputable def F_q2u (l:Y8):Option (Int×Bool):=guardP (l.length<=281474976710656) (some (atoiF l))
def V_q2u (x:Int×Bool):AV:=.tup [.d (.i .i64 x.1),.err x.2]
def L_q2u (_:Int×Bool):List Ob:=[]
theorem F_q2u_ok {l:Y8} (r:Int×Bool) (h:F_q2u l=some r):CallOk Tryz.prog 85 [.d (.str l)] [] (V_q2u r) (L_q2u r):=by
 obtain⟨hl,h⟩:=z2c h
 obtain rfl:=y10 h
 refine zd8 (te:=Tryz.lays172_ren.t 168) (gs:=0) (gr:=1) dk dk (fun s hs v hv w=>?_) (fun s hs hv hv' ev w h1 h2=>?_) (fun s hs hv ev w h1 h2=>?_) hl
 ·refine (Any.strconv_Atoi_ok Tryz.lays172 s om v hv w).mono ?_
  rintro e w' ⟨rfl,(rfl | ⟨t,rfl⟩)⟩
  ·exact⟨rfl,Below.refl _ _⟩
  ·exact⟨rfl,Lib.bytesWorld_below _ _ _⟩
 ·refine (Any.strconv_Atoi_syntax Tryz.lays172 s hs (by
   cases hx:Lib.atoiAll s.data.toList with
   | ok v=>exact absurd hx (hv v)
   | range=>exact absurd hx hv'
   | _=>rfl) ev w h1 h2).mono ?_
  rintro e w' ⟨N,rfl,_,_,hb⟩
  exact⟨N,rfl,hb⟩
 ·refine (Any.strconv_Atoi_range Tryz.lays172 s hs hv ev w h1 h2).mono ?_
  rintro e w' ⟨N,rfl,_,_,hb⟩
  exact⟨N,rfl,hb⟩
noncomputable def F_q2s (n:Int):Option Y8:=guardP (0<=n/\n<100) (some (Lib.decDigits n.toNat))
def V_q2s (x:Y8):AV:=.d (.str x)
def L_q2s (_:Y8):List Ob:=[]
theorem F_q2s_ok {n:Int} (r:Y8) (h:F_q2s n=some r):CallOk Tryz.prog 86 [.d (.i .i64 n)] [] (V_q2s r) (L_q2s r):=by
 obtain⟨hl,h⟩:=z2c h
 obtain rfl:=y10 h
 exact zd9 (fun i hi w=>Any.strconv_Itoa_small Tryz.lays171 i hi w) hl.1 hl.2
theorem zj6 (s:ByteArray) (w:World):Calls Tryz.prog 101 #[.string s,.string ⟨#[46]⟩] w fun e w'=>e = .returned (.int .i64 (Lib.indexByte s.data.toList 46))/\w'=w:=Any.strings_Index_one Tryz.lays143 s 46 w
noncomputable def z56 (x:Y8) (s:List Int):SC (List Int) (Step (List Int) (List Int)) :=
.call (@F_q2u_ok x) fun r1 c1 =>
.reg 4 [] [(1,hc c1 [] true)] [.cl 0 c1 [] 3 true] <|
.calld [(cO (cO r1.2 (decide (r1.1<1))) (decide (r1.1>99)))=false] dF (@F_q2s_ok r1.1) fun r2 c2 =>
.reg 5 [] [(12,hc c2 [] true)] [.clg 0 [(cO (cO r1.2 (decide (r1.1<1))) (decide (r1.1>99)))=false] c2 [] 3 true] <|
.ite (cO (cO (cO r1.2 (decide (r1.1<1))) (decide (r1.1>99))) (!(r2==x))) (
.reg 6 [] [] [] <|
.sh (A:=True) (.pf trivial) [(2,(vp 0))] [(2,(vp 0))] [(Ob.box (AV.full 0 fun _=>DV.b false)),(Ob.box (AV.ref 2 s.length 0 s.length)),(eS 1 (DV.i .i64) s)] [(Ob.box (vl ([]:List Int))),(Ob.box (AV.ref 2 s.length 0 s.length)),(eS 1 (DV.i .i64) s)] (fun _=>(z9g (.box _ _ _ _ _ (y13 rfl) TrV.full (.keep _ _ _ _ (y13 rfl) (.keep _ _ _ _ (y13 rfl) (.nil _)))))) (z1f (k:=0) rfl (TrS.keep _) z2r) <|
.ret [] (.ret [])) (
.guard [(s.length+1) * (2 * 8)<=2 ^ 48] <|
.reg 7 [] [(2,hv (vl ([r1.1]:List Int))),(3,{ cast:=some (AV.ref 2 ((s++([r1.1]:List Int)).length) 0 ((s++([r1.1]:List Int)).length)),obs:=[(2,(eS 1 (DV.i .i64) (s++([r1.1]:List Int))))] })] [.pf (zp (DV.i .i64) ([r1.1]:List Int)),.pf (y27 s.length),.pf (y27 s.length),.pf (p:=∀ k,k<1->(AV.d ((DV.i .i64) (([r1.1]:List Int).getD k dF))).wd=1) (fun _ _=>rfl),.ev 0,.pf (z2d (o:=2) (l:=s) (x:=([r1.1]:List Int))),.pf (z3n (sz:=1) (e:=(DV.i .i64)) (l:=s) (x:=([r1.1]:List Int)))] <|
.ret [] (.cont (s++([r1.1]:List Int))))
noncomputable def z91 (s:List Int):SC (List Int) (List Int) :=
.ite (decide ((s.length:Int)>4)) (
.reg 9 [] [] [] <|
.sh (A:=True) (.pf trivial) [(2,(vp 0))] [(2,(vp 0))] [(Ob.box (AV.full 0 fun _=>DV.b false)),(Ob.box (AV.ref 2 s.length 0 s.length)),(eS 1 (DV.i .i64) s)] [(Ob.box (vl ([]:List Int))),(Ob.box (AV.ref 2 s.length 0 s.length)),(eS 1 (DV.i .i64) s)] (fun _=>(z9g (.box _ _ _ _ _ (y13 rfl) TrV.full (.keep _ _ _ _ (y13 rfl) (.keep _ _ _ _ (y13 rfl) (.nil _)))))) (z1f (k:=0) rfl (TrS.keep _) z2r) <|
.ret [] ([]:List Int)) (
.guard [s.length<2 ^ 63] <|
.reg 10 [] [] [] <|
.frz 2 (.ev 0) none [] [0,1] <|
.ret [] s)
def cL:Code->Code
 | .seq x _=>x
 | _=>.skip
def cR:Code->Code
 | .seq _ y=>y
 | _=>.skip
def cI:Code->Code
 | .block _ x=>x
 | _=>.skip
def cA:Code->Code
 | .rangeFunc _ _ x _=>x
 | _=>.skip
def cB:Code->Code
 | .rangeFunc _ _ _ y=>y
 | _=>.skip
noncomputable def c68:Code:=Tryz.f57.body.getD .skip
noncomputable def zbo:Code:=cL c68
noncomputable def zbp:Code:=cL (cR c68)
noncomputable def z84:Code:=cR (cR c68)
noncomputable def z57:Code:=cI (cR (cL z84))
theorem zj7:Tryz.f57.body=some (.seq zbo (.seq zbp (.seq (.seq (cL (cL z84)) (.block 0 (.rangeFunc (.tmp 8) #[9] (cA z57) (cB z57)))) (cR z84)))):=kj
theorem zj8 (z:Option Nat) (x:Y8) (s:List Int) {r:Step (List Int) (List Int)} (hr:(z56 x s).den=some r) :
  AW z Tryz.prog Tryz.f57.ntmps (cB z57) (fun e fr L=>match e with
   | .normal=>∃ s',r = .cont s'/\StLe fr L [] (pLI s')
   | .ret=>∃ y,r = .ret y/\∃ J,L=[.box (.d (eL (.i .i64) y))]++J
   | _=>False) [(4,.d (.str x)),(2,vp 0),(3,vp 1)] (pLI s):=pBody kj hr
theorem zj9 (s:List Int) {r:List Int} (hr:(z91 s).den=some r) :
  AW none Tryz.prog Tryz.f57.ntmps (cR z84) (FQ Tryz.prog Tryz.f57 (vl r) []) [(2,vp 0),(3,vp 1)] (pLI s):=pTail (V:=fun r=>vl r) (Lr:=fun _=>[]) kj hr
end Go.Proofs.YtcfloplnjicomaaGreatDoor
