/- A part of the proof: what the functions compute, and that their calls return it. No condition. -/
import Derived.Test.YtpbnkbjhlhlaiaaGreatDoorT4
import Derived.RangeFuncBound
import Derived.Shelf.Abstract
import Derived.Shelf.RegionOpen
import Derived.WalkKit
import Derived.OwnWalkIn
import Derived.TacticsInMore
import Derived.LoopNIn
import Derived.LoopIn
import Derived.Shelf.Strings.Search3
import Derived.Test.YtpbnkbjhlhlaiaaGreatDoorProg
import Derived.Shelf.Strings.Fields
import Derived.Shelf.Strings.Split
import Derived.Shelf.Strconv.AtoiAll
import Derived.Shelf.Strconv.Itoa3
namespace Go.Proofs.YtpbnkbjhlhlaiaaGreatDoor
open Go Go.TA Go.RowKit Go.Shelf
attribute [local go_sem] Oper.semAt_some
def encS (l:Y8):Value:=.string ⟨l.toArray⟩
def leftLen (bs:Nat) (w:World):Nat:=match w.cell? ⟨bs,0,none⟩ with
 | some (.string s)=>s.size
 | _=>0
variable {w:World} {bs:Nat} {l:Y8}
theorem zcy (h:w.cell? ⟨bs,0,none⟩=some (encS l)):leftLen bs w=l.length:=by
 unfold leftLen; rw[h]; simp[encS,ByteArray.size]
variable {n:Nat}
theorem zbj {m:Nat} {P:Program} {l f:Nat} {tmps:Array Value} {assign body:Code} {R:Ending->World->Prop} (h:RoundIn Fence.wide n P l f tmps assign body w R):RoundIn Fence.wide m P l f tmps assign body w R :=
 ⟨h.1,fun c cs _=>h.2 c cs (room_wide _)⟩
theorem zgu (hIdx:∀ (s:ByteArray) (w:World),Calls Tryz.prog 122 #[.string s,.string ⟨#[46]⟩] w fun e w'=>e = .returned (.int .i64 (Lib.indexByte s.data.toList 46))/\w'=w) {bsep bsv:Nat} (h1:w.cell? ⟨bsep,0,none⟩=some (.string ⟨#[46]⟩)) (h2:w.cell? ⟨bs,0,none⟩=some (encS l)) (h2f:w.frozen? ⟨bs,0,none⟩=false) (h3:w.cell? ⟨bsv,0,none⟩=some (.int .i64 0)) (n1:bsep≠bs) (n2:bsv≠bs) (hl:l.length<4611686018427387904) :
  SeqT Tryz.prog (n+1) 150 #[.pointer (some ⟨bsep,0,none⟩),.pointer (some ⟨bs,0,none⟩),.pointer (some ⟨bsv,0,none⟩)] encS (fun k=>k=bs) [bsep,bs,bsv] w (fun xs=>xs=pieces l) (fun ys=>∃ zs,pieces l=ys++zs):=by
 intro y J Jx W hsz hcap hJ hJx hY h0
 refine callsIn_of_wp Tryz.func150 rfl trivial ?_ rfl
 simp only[Tryz.ntmps150,y2d,yf,y11,Nat.reduceAdd,Nat.reduceSub,y4y,y4z,y5e,y53,y26,y30]
 have hcell:∀ {A B:World} {k:Nat},B.heap[k]? = A.heap[k]? -> B.cell? ⟨k,0,none⟩=A.cell? ⟨k,0,none⟩:=fun h=>by simp[World.cell?,h]
 have hfroz:∀ {A B:World} {k:Nat},B.heap[k]? = A.heap[k]? -> B.frozen? ⟨k,0,none⟩=A.frozen? ⟨k,0,none⟩:=fun h=>by simp[World.frozen?,h]
 have g1:W.cell? ⟨bsep,0,none⟩=some (.string ⟨#[46]⟩):=(hcell (hcap _ sj)).trans h1
 have g2:W.cell? ⟨bs,0,none⟩=some (encS l):=(hcell (hcap _ sj)).trans h2
 have g2f:W.frozen? ⟨bs,0,none⟩=false:=(hfroz (hcap _ sj)).trans h2f
 have g3:W.cell? ⟨bsv,0,none⟩=some (.int .i64 0):=(hcell (hcap _ sj)).trans h3
 gi_wp2
 gi_loopw [7] (fun _ wr=>∃ (pre:List Y8) (rest:Y8),pieces l=pre++pieces rest/\rest.length<=l.length/\wr.cell? ⟨bs,0,none⟩=some (encS rest)/\wr.frozen? ⟨bs,0,none⟩=false/\wr.cell? ⟨bsep,0,none⟩=some (.string ⟨#[46]⟩)/\wr.cell? ⟨bsv,0,none⟩=some (.int .i64 0)/\J pre wr)
  (fun _ wr=>leftLen bs wr)
 case atStart =>
  exact⟨[],l,rfl,yd _,g2,g2f,g1,g3,h0⟩
 case round =>
  obtain⟨pre,rest,hx,hlr,k2,k2f,k1,k3,hJs⟩:=hrel
  obtain⟨hp1,hp2⟩:=z9u rest
  have hIw:=hIdx ⟨rest.toArray⟩ wr
  have hlist:(⟨rest.toArray⟩:ByteArray).data.toList=rest:=sj
  rw[hlist] at hIw; clear hlist
  simp only[encS] at k2
  by_cases hi:Lib.indexByte rest 46=-1
  ·rw[hi] at hIw
   obtain⟨fn,tmps,assign,body,hy,hR⟩:=hY pre rest wr ⟨[],by rw[hx,hp1 hi]; simp⟩ hJs
   dsimp only [encS] at hy
   gi_wp2_with (refine⟨trivial,?_⟩; gi_at_call 122; refine (y3p.2 hIw).mono ?_; rintro e w' ⟨rfl,rfl⟩)
   refine (zbj hR).mono ?_
   rintro e W' (⟨rfl,hJ',hk⟩ | ⟨rfl,hJx'⟩)
   ·gi_wp2
    go_end0
    exact⟨⟨_,rfl⟩,.inl ⟨pre++[rest],by rw[hx,hp1 hi],hJ'⟩⟩
   ·gi_wp2
    go_end0
    exact⟨⟨_,rfl⟩,.inr ⟨_,hJx'⟩⟩
  ·obtain⟨i0,i1,i2⟩:=hp2 hi
   obtain⟨m,hm⟩:∃ m:Nat,Lib.indexByte rest 46=m:=⟨(Lib.indexByte rest 46).toNat,om⟩
   rw[hm] at hIw i1 i2
   rw[yi] at i1 i2
   have e1:encS (rest.take m)=Value.string ((⟨rest.toArray⟩:ByteArray).extract 0 m):=by
    unfold encS; congr 1; apply ByteArray.ext; simp[ByteArray.data_extract]
   obtain⟨fn,tmps,assign,body,hy,hR⟩:=hY pre (rest.take m) wr ⟨pieces (rest.drop (m+1)),by rw[hx,i2]; simp⟩ hJs
   rw[e1] at hy
   gi_wp2_with (refine⟨trivial,?_⟩; gi_at_call 122; refine (y3p.2 hIw).mono ?_; rintro e w' ⟨rfl,rfl⟩)
   refine (zbj hR).mono ?_
   rintro e W' (⟨rfl,hJ',hk⟩ | ⟨rfl,hJx'⟩)
   ·have q1:=(hcell (hk.2 bsep sj)).trans k1
    have q2:=(hcell (hk.2 bs sj)).trans k2
    have q2f:=(hfroz (hk.2 bs sj)).trans k2f
    have q3:=(hcell (hk.2 bsv sj)).trans k3
    gi_wp2
    have e2:Value.string ((⟨rest.toArray⟩:ByteArray).extract (m+1) rest.length)=encS (rest.drop (m+1)):=by
     unfold encS; congr 1; apply ByteArray.ext; simp[ByteArray.data_extract]; exact y1d sj
    rw[e2]
    have hc2:=World.cell?_setCell_same' W' ⟨bs,0,none⟩ (encS (rest.drop (m+1))) (by rw[q2]; rfl)
    refine⟨⟨pre++[rest.take m],rest.drop (m+1),?_,?_,hc2,?_,?_,?_,?_⟩,?_⟩
    ·rw[hx,i2,y1v]; rfl
    ·rw[y1h]; omega
    ·rw[World.frozen?_setCell]; exact q2f
    ·exact (hcell (Below.heap_setCell W' ⟨bs,0,none⟩ _ bsep n1)).trans q1
    ·exact (hcell (Below.heap_setCell W' ⟨bs,0,none⟩ _ bsv n2)).trans q3
    ·exact hJ _ _ _ hJ' ⟨⟨rfl,rfl,rfl⟩,by show W'.heap.size<=(W'.heap.modify _ _).size; rw[Array.size_modify]; exact yd _,fun k _ hk=>Below.heap_setCell W' ⟨bs,0,none⟩ _ k hk⟩
    ·rw[zcy hc2,zcy (l:=rest) k2,y1h]; omega
   ·gi_wp2
    exact bodyPost_ret (results_none rfl _ _ _) rfl ⟨⟨_,rfl⟩,.inr ⟨_,hJx'⟩⟩
end Go.Proofs.YtpbnkbjhlhlaiaaGreatDoor
namespace Go.Proofs.YtpbnkbjhlhlaiaaGreatDoor
open Go Go.TA Go.RowKit Go.Shelf
attribute [local go_sem] Oper.semAt_some
theorem zdw (n:Nat) (s:ByteArray) (w:World):CallsIn Fence.wide (n+1) Tryz.prog 117 #[.string s,.string ⟨#[46]⟩,.int .i64 0] w fun e w' =>
  e = .returned (.func (.func 150) #[] #[.pointer (some ⟨w.heap.size+1,0,none⟩),.pointer (some ⟨w.heap.size,0,none⟩),.pointer (some ⟨w.heap.size+2,0,none⟩)]) /\
   w'=((w.alloc (.cells #[.string s] 9)).alloc (.cells #[.string ⟨#[46]⟩] 9)).alloc (.cells #[.int .i64 0] 3):=by
 refine callsIn_of_wp Tryz.func117 rfl trivial ?_ rfl
 simp only[Tryz.ntmps117,y2d,yf,y11,Nat.reduceAdd,Nat.reduceSub,y4y,y4z,y5e,y53,y26,y30]
 gi_wp2
 exact bodyPost_ret (results_tmp rfl _ _ _) rfl ⟨rfl,rfl⟩
theorem zfi (n:Nat) (s:ByteArray) (w:World):CallsIn Fence.wide (n+2) Tryz.prog 90 #[.string s,.string ⟨#[46]⟩] w fun e w' =>
  e = .returned (.func (.func 150) #[] #[.pointer (some ⟨w.heap.size+1,0,none⟩),.pointer (some ⟨w.heap.size,0,none⟩),.pointer (some ⟨w.heap.size+2,0,none⟩)]) /\
   w'=((w.alloc (.cells #[.string s] 9)).alloc (.cells #[.string ⟨#[46]⟩] 9)).alloc (.cells #[.int .i64 0] 3):=by
 refine callsIn_of_wp Tryz.func90 rfl trivial ?_ rfl
 simp only[Tryz.ntmps90,y2d,yf,y11,Nat.reduceAdd,Nat.reduceSub,y4y,y4z,y5e,y53,y26,y30]
 gi_wp2
 refine⟨trivial,?_⟩
 refine (zdw n s w).mono ?_
 rintro e w' ⟨rfl,rfl⟩
 gi_wp2
 exact bodyPost_ret (results_tmp rfl _ _ _) rfl ⟨rfl,rfl⟩
end Go.Proofs.YtpbnkbjhlhlaiaaGreatDoor
/- The layings of library contracts at this program. No condition. -/
namespace Go.Proofs
open Go.Shelf
def Tryz.lays143_ren:Go.Shelf.Ren:=⟨fun | 143=>122 | 219=>159 | 217=>189 | 225=>190 | 224=>191 | 267=>192 | 266=>218 | 314=>219 | n=>n,fun | 9=>9 | 3=>3 | 4=>4 | 5=>5 | 46=>194 | 146=>235 | 51=>156 | n=>n,fun | 1=>5 | n=>n⟩
theorem Tryz.lays143:Go.Proofs.Lays.n143 Tryz.prog Tryz.lays143_ren:={
 mixed:=kj
 f143:=Tryz.func122.trans (yj some kj)
 f217:=Tryz.func189.trans (yj some kj)
 f219:=Tryz.func159.trans (yj some kj)
 f224:=Tryz.func191.trans (yj some kj)
 f225:=Tryz.func190.trans (yj some kj)
 f266:=Tryz.func218.trans (yj some kj)
 f267:=Tryz.func192.trans (yj some kj)
 f314:=Tryz.func219.trans (yj some kj)
 t3:=Tryz.underlying3
 a3:=Tryz.isAgg3
 z3:=Tryz.sizeOf3
 v3:=Tryz.zeroValue3
 t4:=Tryz.underlying4
 a4:=Tryz.isAgg4
 z4:=Tryz.sizeOf4
 v4:=Tryz.zeroValue4
 t5:=Tryz.underlying5
 a5:=Tryz.isAgg5
 z5:=Tryz.sizeOf5
 v5:=Tryz.zeroValue5
 t9:=Tryz.underlying9
 a9:=Tryz.isAgg9
 z9:=Tryz.sizeOf9
 v9:=Tryz.zeroValue9
 t46:=Tryz.underlying194
 a46:=Tryz.isAgg194
 z46:=Tryz.sizeOf194
 v46:=Tryz.zeroValue194
 t51:=Tryz.underlying156
 a51:=Tryz.isAgg156
 z51:=Tryz.sizeOf156
 v51:=Tryz.zeroValue156
 t146:=Tryz.underlying235
 a146:=Tryz.isAgg235
 z146:=Tryz.sizeOf235
 v146:=Tryz.zeroValue235
 g1:=by kernel_rfl }
def Tryz.lays172_ren:Go.Shelf.Ren:=⟨fun | 172=>62 | 244=>94 | 245=>95 | 247=>123 | 279=>124 | 280=>125 | 281=>126 | 282=>127 | 287=>160 | 316=>161 | 171=>58 | 205=>162 | 321=>193 | 322=>194 | 243=>91 | 246=>118 | 283=>152 | 284=>153 | 285=>154 | 286=>155 | 129=>185 | 317=>184 | 318=>186 | 319=>187 | 320=>188 | 337=>216 | 338=>217 | n=>n,fun | 9=>9 | 3=>3 | 75=>93 | 76=>94 | 4=>4 | 5=>5 | 167=>162 | 37=>99 | 0=>0 | 85=>163 | 2=>2 | 168=>165 | 53=>185 | 175=>192 | 46=>194 | 210=>197 | 127=>130 | 145=>218 | 143=>216 | 21=>21 | 171=>184 | 173=>188 | 212=>212 | 51=>156 | 20=>20 | 213=>213 | 232=>240 | 233=>241 | 80=>102 | n=>n,fun | 15=>2 | 16=>3 | 17=>4 | 18=>8 | 19=>9 | n=>n⟩
theorem Tryz.lays172:Go.Proofs.LaysC.n172 Tryz.prog Tryz.lays172_ren:={
 mixed:=kj
 f129:=Tryz.func185.trans (yj some kj)
 f171:=Tryz.func58.trans (yj some kj)
 f172:=Tryz.func62.trans (yj some kj)
 f205:=Tryz.func162.trans (yj some kj)
 f243:=Tryz.func91.trans (yj some kj)
 f244:=Tryz.func94.trans (yj some kj)
 f245:=Tryz.func95.trans (yj some kj)
 f246:=Tryz.func118.trans (yj some kj)
 f247:=Tryz.func123.trans (yj some kj)
 f279:=Tryz.func124.trans (yj some kj)
 f280:=Tryz.func125.trans (yj some kj)
 f281:=Tryz.func126.trans (yj some kj)
 f282:=Tryz.func127.trans (yj some kj)
 f283:=Tryz.func152.trans (yj some kj)
 f284:=Tryz.func153.trans (yj some kj)
 f285:=Tryz.func154.trans (yj some kj)
 f286:=Tryz.func155.trans (yj some kj)
 f287:=Tryz.func160.trans (yj some kj)
 f316:=Tryz.func161.trans (yj some kj)
 f317:=Tryz.func184.trans (yj some kj)
 f318:=Tryz.func186.trans (yj some kj)
 f319:=Tryz.func187.trans (yj some kj)
 f320:=Tryz.func188.trans (yj some kj)
 f321:=Tryz.func193.trans (yj some kj)
 f322:=Tryz.func194.trans (yj some kj)
 f337:=Tryz.func216.trans (yj some kj)
 f338:=Tryz.func217.trans (yj some kj)
 t0:=Tryz.underlying0
 a0:=Tryz.isAgg0
 z0:=Tryz.sizeOf0
 v0:=Tryz.zeroValue0
 t2:=Tryz.underlying2
 a2:=Tryz.isAgg2
 z2:=Tryz.sizeOf2
 v2:=Tryz.zeroValue2
 t3:=Tryz.underlying3
 a3:=Tryz.isAgg3
 z3:=Tryz.sizeOf3
 v3:=Tryz.zeroValue3
 t4:=Tryz.underlying4
 a4:=Tryz.isAgg4
 z4:=Tryz.sizeOf4
 v4:=Tryz.zeroValue4
 t5:=Tryz.underlying5
 a5:=Tryz.isAgg5
 z5:=Tryz.sizeOf5
 v5:=Tryz.zeroValue5
 t9:=Tryz.underlying9
 a9:=Tryz.isAgg9
 z9:=Tryz.sizeOf9
 v9:=Tryz.zeroValue9
 t20:=Tryz.underlying20
 a20:=Tryz.isAgg20
 z20:=Tryz.sizeOf20
 v20:=Tryz.zeroValue20
 t21:=Tryz.underlying21
 a21:=Tryz.isAgg21
 z21:=Tryz.sizeOf21
 v21:=Tryz.zeroValue21
 t37:=Tryz.underlying99
 a37:=Tryz.isAgg99
 z37:=Tryz.sizeOf99
 v37:=Tryz.zeroValue99
 t46:=Tryz.underlying194
 a46:=Tryz.isAgg194
 z46:=Tryz.sizeOf194
 v46:=Tryz.zeroValue194
 t51:=Tryz.underlying156
 a51:=Tryz.isAgg156
 z51:=Tryz.sizeOf156
 v51:=Tryz.zeroValue156
 t53:=Tryz.underlying185
 a53:=Tryz.isAgg185
 z53:=Tryz.sizeOf185
 v53:=Tryz.zeroValue185
 t75:=Tryz.underlying93
 a75:=Tryz.isAgg93
 z75:=Tryz.sizeOf93
 v75:=Tryz.zeroValue93
 t76:=Tryz.underlying94
 a76:=Tryz.isAgg94
 z76:=Tryz.sizeOf94
 v76:=Tryz.zeroValue94
 t85:=Tryz.underlying163
 a85:=Tryz.isAgg163
 z85:=Tryz.sizeOf163
 v85:=Tryz.zeroValue163
 t127:=Tryz.underlying130
 a127:=Tryz.isAgg130
 z127:=Tryz.sizeOf130
 v127:=Tryz.zeroValue130
 t143:=Tryz.underlying216
 a143:=Tryz.isAgg216
 z143:=Tryz.sizeOf216
 v143:=Tryz.zeroValue216
 t145:=Tryz.underlying218
 a145:=Tryz.isAgg218
 z145:=Tryz.sizeOf218
 v145:=Tryz.zeroValue218
 t167:=Tryz.underlying162
 a167:=Tryz.isAgg162
 z167:=Tryz.sizeOf162
 v167:=Tryz.zeroValue162
 t168:=Tryz.underlying165
 a168:=Tryz.isAgg165
 z168:=Tryz.sizeOf165
 v168:=Tryz.zeroValue165
 t171:=Tryz.underlying184
 a171:=Tryz.isAgg184
 z171:=Tryz.sizeOf184
 v171:=Tryz.zeroValue184
 t173:=Tryz.underlying188
 a173:=Tryz.isAgg188
 z173:=Tryz.sizeOf188
 v173:=Tryz.zeroValue188
 t175:=Tryz.underlying192
 a175:=Tryz.isAgg192
 z175:=Tryz.sizeOf192
 v175:=Tryz.zeroValue192
 t210:=Tryz.underlying197
 a210:=Tryz.isAgg197
 z210:=Tryz.sizeOf197
 v210:=Tryz.zeroValue197
 t212:=Tryz.underlying212
 a212:=Tryz.isAgg212
 z212:=Tryz.sizeOf212
 v212:=Tryz.zeroValue212
 t213:=Tryz.underlying213
 a213:=Tryz.isAgg213
 z213:=Tryz.sizeOf213
 t232:=Tryz.underlying240
 a232:=Tryz.isAgg240
 z232:=Tryz.sizeOf240
 v232:=Tryz.zeroValue240
 t233:=Tryz.underlying241
 a233:=Tryz.isAgg241
 z233:=Tryz.sizeOf241
 v233:=Tryz.zeroValue241
 g15:=kj
 g16:=kj
 g17:=kj
 g18:=kj
 g19:=kj
 t80:=Tryz.underlying102
 a80:=Tryz.isAgg102
 z80:=Tryz.sizeOf102
 v80:=Tryz.zeroValue102
 i0:=kj
 i2:=kj
 i3:=kj
 i4:=kj
 i5:=kj
 i9:=kj
 i20:=kj
 i21:=kj
 i37:=kj
 i46:=kj
 i51:=kj
 i53:=kj
 i75:=kj
 i76:=kj
 i80:=kj
 i85:=kj
 i127:=kj
 i143:=kj
 i145:=kj
 i167:=kj
 i168:=kj
 i171:=kj
 i173:=kj
 i175:=kj
 i210:=kj
 i212:=kj
 i232:=kj
 i233:=kj
 m15:=kj
 m16:=kj
 m17:=kj
 m18:=kj
 m19:=kj
 c0:=kj
 c2:=kj
 c3:=kj
 c4:=kj
 c5:=kj
 c9:=kj
 c20:=kj
 c21:=kj
 c37:=kj
 c46:=kj
 c51:=kj
 c53:=kj
 c75:=kj
 c76:=kj
 c80:=kj
 c85:=kj
 c127:=kj
 c143:=kj
 c145:=kj
 c167:=kj
 c168:=kj
 c171:=kj
 c173:=kj
 c175:=kj
 c210:=kj
 c212:=kj
 c213:=kj
 c232:=kj
 c233:=by kernel_rfl }
def Tryz.lays171_ren:Go.Shelf.Ren:=⟨fun | 171=>58 | 243=>91 | 246=>118 | 283=>152 | 284=>153 | 285=>154 | 286=>155 | 129=>185 | 317=>184 | 318=>186 | 319=>187 | 320=>188 | 337=>216 | 338=>217 | n=>n,fun | 3=>3 | 9=>9 | 2=>2 | 4=>4 | 171=>184 | 0=>0 | 53=>185 | 37=>99 | 5=>5 | 173=>188 | 212=>212 | 51=>156 | 20=>20 | 213=>213 | 46=>194 | 232=>240 | 233=>241 | n=>n,fun | 17=>4 | 18=>8 | 19=>9 | n=>n⟩
theorem Tryz.lays171:Go.Proofs.LaysM.n171 Tryz.prog Tryz.lays171_ren:={
 mixed:=kj
 f129:=Tryz.func185.trans (yj some kj)
 f171:=Tryz.func58.trans (yj some kj)
 f243:=Tryz.func91.trans (yj some kj)
 f246:=Tryz.func118.trans (yj some kj)
 f283:=Tryz.func152.trans (yj some kj)
 f284:=Tryz.func153.trans (yj some kj)
 f285:=Tryz.func154.trans (yj some kj)
 f286:=Tryz.func155.trans (yj some kj)
 f317:=Tryz.func184.trans (yj some kj)
 f318:=Tryz.func186.trans (yj some kj)
 f319:=Tryz.func187.trans (yj some kj)
 f320:=Tryz.func188.trans (yj some kj)
 f337:=Tryz.func216.trans (yj some kj)
 f338:=Tryz.func217.trans (yj some kj)
 t0:=Tryz.underlying0
 a0:=Tryz.isAgg0
 z0:=Tryz.sizeOf0
 v0:=Tryz.zeroValue0
 t2:=Tryz.underlying2
 a2:=Tryz.isAgg2
 z2:=Tryz.sizeOf2
 v2:=Tryz.zeroValue2
 t3:=Tryz.underlying3
 a3:=Tryz.isAgg3
 z3:=Tryz.sizeOf3
 v3:=Tryz.zeroValue3
 t4:=Tryz.underlying4
 a4:=Tryz.isAgg4
 z4:=Tryz.sizeOf4
 v4:=Tryz.zeroValue4
 t5:=Tryz.underlying5
 a5:=Tryz.isAgg5
 z5:=Tryz.sizeOf5
 v5:=Tryz.zeroValue5
 t9:=Tryz.underlying9
 a9:=Tryz.isAgg9
 z9:=Tryz.sizeOf9
 v9:=Tryz.zeroValue9
 t20:=Tryz.underlying20
 a20:=Tryz.isAgg20
 z20:=Tryz.sizeOf20
 v20:=Tryz.zeroValue20
 t37:=Tryz.underlying99
 a37:=Tryz.isAgg99
 z37:=Tryz.sizeOf99
 v37:=Tryz.zeroValue99
 t46:=Tryz.underlying194
 a46:=Tryz.isAgg194
 z46:=Tryz.sizeOf194
 v46:=Tryz.zeroValue194
 t51:=Tryz.underlying156
 a51:=Tryz.isAgg156
 z51:=Tryz.sizeOf156
 v51:=Tryz.zeroValue156
 t53:=Tryz.underlying185
 a53:=Tryz.isAgg185
 z53:=Tryz.sizeOf185
 v53:=Tryz.zeroValue185
 t171:=Tryz.underlying184
 a171:=Tryz.isAgg184
 z171:=Tryz.sizeOf184
 v171:=Tryz.zeroValue184
 t173:=Tryz.underlying188
 a173:=Tryz.isAgg188
 z173:=Tryz.sizeOf188
 v173:=Tryz.zeroValue188
 t212:=Tryz.underlying212
 a212:=Tryz.isAgg212
 z212:=Tryz.sizeOf212
 v212:=Tryz.zeroValue212
 t213:=Tryz.underlying213
 a213:=Tryz.isAgg213
 z213:=Tryz.sizeOf213
 t232:=Tryz.underlying240
 a232:=Tryz.isAgg240
 z232:=Tryz.sizeOf240
 v232:=Tryz.zeroValue240
 t233:=Tryz.underlying241
 a233:=Tryz.isAgg241
 z233:=Tryz.sizeOf241
 v233:=Tryz.zeroValue241
 g17:=kj
 g18:=kj
 g19:=kj
 i0:=kj
 i2:=kj
 i3:=kj
 i4:=kj
 i5:=kj
 i9:=kj
 i20:=kj
 i37:=kj
 i46:=kj
 i51:=kj
 i53:=kj
 i171:=kj
 i173:=kj
 i212:=kj
 i232:=kj
 i233:=kj
 m17:=kj
 m18:=kj
 m19:=by kernel_rfl }
def Tryz.lays156_ren:Go.Shelf.Ren:=⟨fun | 156=>59 | 165=>92 | 166=>69 | 169=>70 | 240=>98 | 241=>119 | 276=>128 | 277=>156 | n=>n,fun | 31=>48 | 9=>9 | 3=>3 | 4=>4 | 0=>0 | 20=>20 | 72=>101 | 76=>94 | 70=>98 | 37=>99 | 75=>93 | 127=>130 | 164=>168 | 5=>5 | 80=>102 | n=>n,fun | n=>n⟩
theorem Tryz.lays156:Go.Proofs.Lays.n156 Tryz.prog Tryz.lays156_ren:={
 mixed:=kj
 f156:=Tryz.func59.trans (yj some kj)
 f165:=Tryz.func92.trans (yj some kj)
 f166:=Tryz.func69.trans (yj some kj)
 f169:=Tryz.func70.trans (yj some kj)
 f240:=Tryz.func98.trans (yj some kj)
 f241:=Tryz.func119.trans (yj some kj)
 f276:=Tryz.func128.trans (yj some kj)
 f277:=Tryz.func156.trans (yj some kj)
 t0:=Tryz.underlying0
 a0:=Tryz.isAgg0
 z0:=Tryz.sizeOf0
 v0:=Tryz.zeroValue0
 t3:=Tryz.underlying3
 a3:=Tryz.isAgg3
 z3:=Tryz.sizeOf3
 v3:=Tryz.zeroValue3
 t4:=Tryz.underlying4
 a4:=Tryz.isAgg4
 z4:=Tryz.sizeOf4
 v4:=Tryz.zeroValue4
 t9:=Tryz.underlying9
 a9:=Tryz.isAgg9
 z9:=Tryz.sizeOf9
 v9:=Tryz.zeroValue9
 t20:=Tryz.underlying20
 a20:=Tryz.isAgg20
 z20:=Tryz.sizeOf20
 v20:=Tryz.zeroValue20
 t31:=Tryz.underlying48
 a31:=Tryz.isAgg48
 z31:=Tryz.sizeOf48
 v31:=Tryz.zeroValue48
 t37:=Tryz.underlying99
 a37:=Tryz.isAgg99
 z37:=Tryz.sizeOf99
 v37:=Tryz.zeroValue99
 t70:=Tryz.underlying98
 a70:=Tryz.isAgg98
 z70:=Tryz.sizeOf98
 v70:=Tryz.zeroValue98
 t72:=Tryz.underlying101
 a72:=Tryz.isAgg101
 z72:=Tryz.sizeOf101
 v72:=Tryz.zeroValue101
 t75:=Tryz.underlying93
 a75:=Tryz.isAgg93
 z75:=Tryz.sizeOf93
 v75:=Tryz.zeroValue93
 t76:=Tryz.underlying94
 a76:=Tryz.isAgg94
 z76:=Tryz.sizeOf94
 v76:=Tryz.zeroValue94
 t127:=Tryz.underlying130
 a127:=Tryz.isAgg130
 z127:=Tryz.sizeOf130
 v127:=Tryz.zeroValue130
 t164:=Tryz.underlying168
 a164:=Tryz.isAgg168
 z164:=Tryz.sizeOf168
 v164:=Tryz.zeroValue168 }
def Tryz.lays157_ren:Go.Shelf.Ren:=⟨fun | 157=>53 | 229=>88 | 199=>89 | 261=>116 | 311=>148 | 312=>149 | n=>n,fun | 9=>9 | 31=>48 | 3=>3 | 5=>5 | 4=>4 | 119=>118 | 0=>0 | 40=>120 | 152=>153 | 21=>21 | 154=>155 | 51=>156 | 141=>158 | 196=>175 | 193=>172 | 198=>177 | 49=>57 | 194=>173 | 201=>180 | 226=>209 | 46=>194 | 227=>210 | n=>n,fun | 0=>0 | 6=>1 | n=>n⟩
theorem Tryz.lays157:Go.Proofs.Lays.n157 Tryz.prog Tryz.lays157_ren:={
 mixed:=kj
 f157:=Tryz.func53.trans (yj some kj)
 f199:=Tryz.func89.trans (yj some kj)
 f229:=Tryz.func88.trans (yj some kj)
 f261:=Tryz.func116.trans (yj some kj)
 f311:=Tryz.func148.trans (yj some kj)
 f312:=Tryz.func149.trans (yj some kj)
 t0:=Tryz.underlying0
 a0:=Tryz.isAgg0
 z0:=Tryz.sizeOf0
 v0:=Tryz.zeroValue0
 t3:=Tryz.underlying3
 a3:=Tryz.isAgg3
 z3:=Tryz.sizeOf3
 v3:=Tryz.zeroValue3
 t4:=Tryz.underlying4
 a4:=Tryz.isAgg4
 z4:=Tryz.sizeOf4
 v4:=Tryz.zeroValue4
 t5:=Tryz.underlying5
 a5:=Tryz.isAgg5
 z5:=Tryz.sizeOf5
 v5:=Tryz.zeroValue5
 t9:=Tryz.underlying9
 a9:=Tryz.isAgg9
 z9:=Tryz.sizeOf9
 v9:=Tryz.zeroValue9
 t21:=Tryz.underlying21
 a21:=Tryz.isAgg21
 z21:=Tryz.sizeOf21
 v21:=Tryz.zeroValue21
 t31:=Tryz.underlying48
 a31:=Tryz.isAgg48
 z31:=Tryz.sizeOf48
 v31:=Tryz.zeroValue48
 t40:=Tryz.underlying120
 a40:=Tryz.isAgg120
 z40:=Tryz.sizeOf120
 v40:=Tryz.zeroValue120
 t46:=Tryz.underlying194
 a46:=Tryz.isAgg194
 z46:=Tryz.sizeOf194
 v46:=Tryz.zeroValue194
 t49:=Tryz.underlying57
 a49:=Tryz.isAgg57
 z49:=Tryz.sizeOf57
 v49:=Tryz.zeroValue57
 t51:=Tryz.underlying156
 a51:=Tryz.isAgg156
 z51:=Tryz.sizeOf156
 v51:=Tryz.zeroValue156
 t119:=Tryz.underlying118
 a119:=Tryz.isAgg118
 z119:=Tryz.sizeOf118
 t141:=Tryz.underlying158
 a141:=Tryz.isAgg158
 z141:=Tryz.sizeOf158
 v141:=Tryz.zeroValue158
 t152:=Tryz.underlying153
 a152:=Tryz.isAgg153
 z152:=Tryz.sizeOf153
 v152:=Tryz.zeroValue153
 t154:=Tryz.underlying155
 a154:=Tryz.isAgg155
 z154:=Tryz.sizeOf155
 v154:=Tryz.zeroValue155
 t193:=Tryz.underlying172
 a193:=Tryz.isAgg172
 z193:=Tryz.sizeOf172
 v193:=Tryz.zeroValue172
 t194:=Tryz.underlying173
 a194:=Tryz.isAgg173
 z194:=Tryz.sizeOf173
 v194:=Tryz.zeroValue173
 t196:=Tryz.underlying175
 a196:=Tryz.isAgg175
 z196:=Tryz.sizeOf175
 v196:=Tryz.zeroValue175
 t198:=Tryz.underlying177
 a198:=Tryz.isAgg177
 z198:=Tryz.sizeOf177
 v198:=Tryz.zeroValue177
 t201:=Tryz.underlying180
 a201:=Tryz.isAgg180
 z201:=Tryz.sizeOf180
 v201:=Tryz.zeroValue180
 t226:=Tryz.underlying209
 a226:=Tryz.isAgg209
 z226:=Tryz.sizeOf209
 v226:=Tryz.zeroValue209
 t227:=Tryz.underlying210
 a227:=Tryz.isAgg210
 z227:=Tryz.sizeOf210
 v227:=Tryz.zeroValue210
 g0:=kj
 g6:=by kernel_rfl }
def Tryz.lays146_ren:Go.Shelf.Ren:=⟨fun | 146=>61 | 221=>93 | 268=>120 | 138=>121 | 143=>122 | 195=>157 | 197=>151 | 218=>158 | 219=>159 | 260=>183 | 217=>189 | 225=>190 | 224=>191 | 267=>192 | 266=>218 | 314=>219 | n=>n,fun | 9=>9 | 31=>48 | 3=>3 | 4=>4 | 0=>0 | 105=>182 | 21=>21 | 5=>5 | 46=>194 | 119=>118 | 139=>233 | 138=>232 | 146=>235 | 51=>156 | n=>n,fun | 1=>5 | 3=>6 | 4=>7 | n=>n⟩
theorem Tryz.lays146:Go.Proofs.Lays.n146 Tryz.prog Tryz.lays146_ren:={
 mixed:=kj
 f138:=Tryz.func121.trans (yj some kj)
 f143:=Tryz.func122.trans (yj some kj)
 f146:=Tryz.func61.trans (yj some kj)
 f195:=Tryz.func157.trans (yj some kj)
 f197:=Tryz.func151.trans (yj some kj)
 f217:=Tryz.func189.trans (yj some kj)
 f218:=Tryz.func158.trans (yj some kj)
 f219:=Tryz.func159.trans (yj some kj)
 f221:=Tryz.func93.trans (yj some kj)
 f224:=Tryz.func191.trans (yj some kj)
 f225:=Tryz.func190.trans (yj some kj)
 f260:=Tryz.func183.trans (yj some kj)
 f266:=Tryz.func218.trans (yj some kj)
 f267:=Tryz.func192.trans (yj some kj)
 f268:=Tryz.func120.trans (yj some kj)
 f314:=Tryz.func219.trans (yj some kj)
 t0:=Tryz.underlying0
 a0:=Tryz.isAgg0
 z0:=Tryz.sizeOf0
 v0:=Tryz.zeroValue0
 t3:=Tryz.underlying3
 a3:=Tryz.isAgg3
 z3:=Tryz.sizeOf3
 v3:=Tryz.zeroValue3
 t4:=Tryz.underlying4
 a4:=Tryz.isAgg4
 z4:=Tryz.sizeOf4
 v4:=Tryz.zeroValue4
 t5:=Tryz.underlying5
 a5:=Tryz.isAgg5
 z5:=Tryz.sizeOf5
 v5:=Tryz.zeroValue5
 t9:=Tryz.underlying9
 a9:=Tryz.isAgg9
 z9:=Tryz.sizeOf9
 v9:=Tryz.zeroValue9
 t21:=Tryz.underlying21
 a21:=Tryz.isAgg21
 z21:=Tryz.sizeOf21
 v21:=Tryz.zeroValue21
 t31:=Tryz.underlying48
 a31:=Tryz.isAgg48
 z31:=Tryz.sizeOf48
 v31:=Tryz.zeroValue48
 t46:=Tryz.underlying194
 a46:=Tryz.isAgg194
 z46:=Tryz.sizeOf194
 v46:=Tryz.zeroValue194
 t51:=Tryz.underlying156
 a51:=Tryz.isAgg156
 z51:=Tryz.sizeOf156
 v51:=Tryz.zeroValue156
 t105:=Tryz.underlying182
 a105:=Tryz.isAgg182
 z105:=Tryz.sizeOf182
 v105:=Tryz.zeroValue182
 t119:=Tryz.underlying118
 a119:=Tryz.isAgg118
 z119:=Tryz.sizeOf118
 t138:=Tryz.underlying232
 a138:=Tryz.isAgg232
 z138:=Tryz.sizeOf232
 v138:=Tryz.zeroValue232
 t139:=Tryz.underlying233
 a139:=Tryz.isAgg233
 z139:=Tryz.sizeOf233
 v139:=Tryz.zeroValue233
 t146:=Tryz.underlying235
 a146:=Tryz.isAgg235
 z146:=Tryz.sizeOf235
 v146:=Tryz.zeroValue235
 g1:=kj
 g3:=kj
 g4:=by kernel_rfl }
end Go.Proofs
namespace Go.TA
open Go
abbrev Scr.r {P:Program} {ρ α:Type} (a:α):Scr P ρ α:=.ret [] a
abbrev Scr.c {P:Program} {ρ σ:Type} (a:σ):Scr P ρ (Step σ ρ):=.ret [] (.cont a)
abbrev Scr.b {P:Program} {ρ σ:Type} (a:σ):Scr P ρ (Step σ ρ):=.ret [] (.brk a)
abbrev Scr.t {P:Program} {ρ σ:Type} (a:ρ):Scr P ρ (Step σ ρ):=.ret [] (.ret a)
abbrev Scr.n {P:Program} {ρ σ α:Type} (a:σ):Scr P ρ (Out σ α):=.ret [] (.next a)
abbrev Scr.o {P:Program} {ρ σ α:Type} (a:α):Scr P ρ (Out σ α):=.ret [] (.ret a)
abbrev Scr.k {P:Program} {ρ α:Type} (n m:Nat) (c:CR) (σ:List Nat) (k:Nat) (b:Bool) (x:Scr P ρ α):Scr P ρ α:=.reg n [] [(m,hc c σ b)] [.cl 0 c σ k b] x
abbrev Scr.a {P:Program} {ρ α R:Type} (n m k:Nat) {f:FuncId} {z:List AV} {L:List Ob} {V:R->AV} {L':R->List Ob} {y:Option R} (ok:∀ r,y=some r->CallOk P f z L (V r) (L' r)) (x:R->Scr P ρ α):Scr P ρ α:=.call ok fun r c=>.reg n [] [(m,hc c [] true)] [.cl 0 c [] k true] (x r)
abbrev Why.e {α:Type} (x:α):Why:=.pf (y2p x)
abbrev Why.w (n:Nat):Why:=.pf (nn n)
end Go.TA
namespace Go.Proofs.YtpbnkbjhlhlaiaaGreatDoor
open Go Go.TA Go.RowKit
abbrev SC:=Scr Tryz.prog
abbrev FO {ρ:Type} (f:Option ρ) (i:FuncId) (a:List AV) (L:List Ob) (V:ρ->AV) (Lr:ρ->List Ob):Prop:=∀ r,f=some r->CallOk Tryz.prog i a L (V r) (Lr r)
theorem fO {ρ:Type} {fn:Func} {V:ρ->AV} {Lr:ρ->List Ob} {f:FuncId} {c:Code} {a:List AV} {L:List Ob} {s:SC ρ ρ} (hf:Tryz.prog.funcs[f]?=some fn) (hb:fn.body=some c:=by rfl) (h:fvc Tryz.prog fn V Lr false c a L s=fvc Tryz.prog fn V Lr true c a L s:=by (kernel_rfl)):FO s.den f a L V Lr:=fun _ k=>fOk hf hb h k
abbrev NL {ρ:Type} (_:ρ):List Ob:=[]
noncomputable def F_q51 (l:Y8):Option (Int×Bool):=guardP (l.length<=281474976710656) (some (atoiF l))
def V_q51 (x:Int×Bool):AV:=.tup [.d (.i .i64 x.1),.err x.2]
def L_q51 (_:Int×Bool):List Ob:=[]
theorem F_q51_ok {l:Y8} (r:Int×Bool) (h:F_q51 l=some r):CallOk Tryz.prog 62 [.d (.str l)] [] (V_q51 r) (L_q51 r):=by
 obtain⟨hl,h⟩:=z1b h
 obtain rfl:=yw h
 refine zib (te:=Tryz.lays172_ren.t 168) (gs:=2) (gr:=3) dk dk (fun s hs v hv w=>?_) (fun s hs hv hv' ev w h1 h2=>?_) (fun s hs hv ev w h1 h2=>?_) hl
 ·refine (Any.strconv_Atoi_ok Tryz.lays172 s om v hv w).mono ?_
  rintro e w' ⟨rfl,(rfl | ⟨t,rfl⟩)⟩
  ·exact⟨rfl,Below.refl _ _⟩
  ·exact⟨rfl,Lib.bytesWorld_below _ _ _⟩
 ·refine (Any.strconv_Atoi_syntax Tryz.lays172 s hs (by
   cases hx:Lib.atoiAll s.data.toList with
   | ok v=>exact absurd hx (hv v)
   | range=>exact absurd hx hv'
   | _=>rfl) ev w h1 h2).mono ?_
  rintro e w' ⟨N,rfl,_,_,hb⟩
  exact⟨N,rfl,hb⟩
 ·refine (Any.strconv_Atoi_range Tryz.lays172 s hs hv ev w h1 h2).mono ?_
  rintro e w' ⟨N,rfl,_,_,hb⟩
  exact⟨N,rfl,hb⟩
noncomputable def F_q4w (n:Int):Option Y8:=guardP (0<=n/\n<100) (some (Lib.decDigits n.toNat))
def V_q4w (x:Y8):AV:=.d (.str x)
def L_q4w (_:Y8):List Ob:=[]
theorem F_q4w_ok {n:Int} (r:Y8) (h:F_q4w n=some r):CallOk Tryz.prog 58 [.d (.i .i64 n)] [] (V_q4w r) (L_q4w r):=by
 obtain⟨hl,h⟩:=z1b h
 obtain rfl:=yw h
 exact zic (fun i hi w=>Any.strconv_Itoa_small { Tryz.lays171 with } i hi w) hl.1 hl.2
theorem zry (s:ByteArray) (w:World):Calls Tryz.prog 122 #[.string s,.string ⟨#[46]⟩] w fun e w'=>e = .returned (.int .i64 (Lib.indexByte s.data.toList 46))/\w'=w:=Any.strings_Index_one Tryz.lays143 s 46 w
noncomputable def z6y (x:Y8) (s:List Int):SC (List Int) (Step (List Int) (List Int)) :=
.call (@F_q51_ok x) fun r1 c1 =>
.reg 4 [] [(1,hc c1 [] true)] [.cl 0 c1 [] 3 true] <|
.calld [(cO (cO r1.2 (decide (r1.1<1))) (decide (r1.1>99)))=false] dF (@F_q4w_ok r1.1) fun r2 c2 =>
.reg 5 [] [(12,hc c2 [] true)] [.clg 0 [(cO (cO r1.2 (decide (r1.1<1))) (decide (r1.1>99)))=false] c2 [] 3 true] <|
.ite (cO (cO (cO r1.2 (decide (r1.1<1))) (decide (r1.1>99))) (!(r2==x))) (
.reg 6 [] [] [] <|
.sh (A:=True) (.pf trivial) [(2,(vp 0))] [(2,(vp 0))] [(Ob.box (AV.full 0 fun _=>DV.b false)),(Ob.box (AV.ref 2 s.length 0 s.length)),(eS 1 (DV.i .i64) s)] [(Ob.box (vl ([]:List Int))),(Ob.box (AV.ref 2 s.length 0 s.length)),(eS 1 (DV.i .i64) s)] (fun _=>(zct (.box _ _ _ _ _ (y1l rfl) TrV.full (.keep _ _ _ _ (y1l rfl) (.keep _ _ _ _ (y1l rfl) (.nil _)))))) (z24 (k:=0) rfl (TrS.keep _) z5i) <|
.ret [] (.ret [])) (
.guard [(s.length+1) * (2 * 8)<=2 ^ 48] <|
.reg 7 [] [(2,hv (vl ([r1.1]:List Int))),(3,{ cast:=some (AV.ref 2 ((s++([r1.1]:List Int)).length) 0 ((s++([r1.1]:List Int)).length)),obs:=[(2,(eS 1 (DV.i .i64) (s++([r1.1]:List Int))))] })] [.pf (zi (DV.i .i64) ([r1.1]:List Int)),.pf (y2p s.length),.pf (y2p s.length),.pf (p:=∀ k,k<1->(AV.d ((DV.i .i64) (([r1.1]:List Int).getD k dF))).wd=1) (fun _ _=>rfl),.ev 0,.pf (z16 (o:=2) (l:=s) (x:=([r1.1]:List Int))),.pf (z15 (sz:=1) (e:=(DV.i .i64)) (l:=s) (x:=([r1.1]:List Int)))] <|
.ret [] (.cont (s++([r1.1]:List Int))))
noncomputable def zca (s:List Int):SC (List Int) (List Int) :=
.ite (decide ((s.length:Int)>4)) (
.reg 9 [] [] [] <|
.sh (A:=True) (.pf trivial) [(2,(vp 0))] [(2,(vp 0))] [(Ob.box (AV.full 0 fun _=>DV.b false)),(Ob.box (AV.ref 2 s.length 0 s.length)),(eS 1 (DV.i .i64) s)] [(Ob.box (vl ([]:List Int))),(Ob.box (AV.ref 2 s.length 0 s.length)),(eS 1 (DV.i .i64) s)] (fun _=>(zct (.box _ _ _ _ _ (y1l rfl) TrV.full (.keep _ _ _ _ (y1l rfl) (.keep _ _ _ _ (y1l rfl) (.nil _)))))) (z24 (k:=0) rfl (TrS.keep _) z5i) <|
.ret [] ([]:List Int)) (
.guard [s.length<2 ^ 63] <|
.reg 10 [] [] [] <|
.frz 2 (.ev 0) none [] [0,1] <|
.ret [] s)
def cL:Code->Code
 | .seq x _=>x
 | _=>.skip
def cR:Code->Code
 | .seq _ y=>y
 | _=>.skip
def cI:Code->Code
 | .block _ x=>x
 | _=>.skip
def cA:Code->Code
 | .rangeFunc _ _ x _=>x
 | _=>.skip
def cB:Code->Code
 | .rangeFunc _ _ _ y=>y
 | _=>.skip
noncomputable def c68:Code:=Tryz.f55.body.getD .skip
noncomputable def zfv:Code:=cL c68
noncomputable def zfw:Code:=cL (cR c68)
noncomputable def zat:Code:=cR (cR c68)
noncomputable def z6z:Code:=cI (cR (cL zat))
theorem zrz:Tryz.f55.body=some (.seq zfv (.seq zfw (.seq (.seq (cL (cL zat)) (.block 0 (.rangeFunc (.tmp 8) #[9] (cA z6z) (cB z6z)))) (cR zat)))):=kj
theorem zs0 (z:Option Nat) (x:Y8) (s:List Int) {r:Step (List Int) (List Int)} (hr:(z6y x s).den=some r) :
  AW z Tryz.prog Tryz.f55.ntmps (cB z6z) (fun e fr L=>match e with
   | .normal=>∃ s',r = .cont s'/\StLe fr L [] (pLI s')
   | .ret=>∃ y,r = .ret y/\∃ J,L=[.box (.d (eL (.i .i64) y))]++J
   | _=>False) [(4,.d (.str x)),(2,vp 0),(3,vp 1)] (pLI s):=pBody kj hr
theorem zs1 (s:List Int) {r:List Int} (hr:(zca s).den=some r) :
  AW none Tryz.prog Tryz.f55.ntmps (cR zat) (FQ Tryz.prog Tryz.f55 (vl r) []) [(2,vp 0),(3,vp 1)] (pLI s):=pTail (V:=fun r=>vl r) (Lr:=fun _=>[]) kj hr
end Go.Proofs.YtpbnkbjhlhlaiaaGreatDoor
