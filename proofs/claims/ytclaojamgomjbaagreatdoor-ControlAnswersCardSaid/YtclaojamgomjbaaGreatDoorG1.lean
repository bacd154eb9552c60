/- A part of the proof: what the functions compute, and that their calls return it. No condition. -/
import Derived.Test.YtclaojamgomjbaaGreatDoorT4
import Derived.RangeFuncBound
import Derived.Shelf.Abstract
import Derived.Shelf.RegionOpen
import Derived.WalkKit
import Derived.OwnWalkIn
import Derived.TacticsInMore
import Derived.LoopNIn
import Derived.LoopIn
import Derived.Shelf.Strings.Search3
import Derived.Test.YtclaojamgomjbaaGreatDoorProg
import Derived.Shelf.Strconv.AtoiAll
import Derived.Shelf.Strconv.Itoa3
namespace Go.Proofs.YtclaojamgomjbaaGreatDoor
open Go Go.TA Go.RowKit Go.Shelf
attribute [local go_sem] Oper.semAt_some
def encS (l:List UInt8):Value:=.string ⟨l.toArray⟩
def leftLen (bs:Nat) (w:World):Nat:=match w.cell? ⟨bs,0,none⟩ with
 | some (.string s)=>s.size
 | _=>0
theorem zav {bs:Nat} {w:World} {l:List UInt8} (h:w.cell? ⟨bs,0,none⟩=some (encS l)):leftLen bs w=l.length:=by
 unfold leftLen; rw[h]; simp[encS,ByteArray.size]
theorem z9m {n m:Nat} {P:Program} {l f:Nat} {tmps:Array Value} {assign body:Code} {w:World} {R:Ending→World→Prop} (h:RoundIn Fence.wide n P l f tmps assign body w R):RoundIn Fence.wide m P l f tmps assign body w R :=
 ⟨h.1,fun c cs _=>h.2 c cs (room_wide _)⟩
theorem zei (hIdx:∀ (s:ByteArray) (w:World),Calls Tryz.prog 174 #[.string s,.string ⟨#[46]⟩] w fun e w'=>e = .returned (.int .i64 (Lib.indexByte s.data.toList 46))∧w'=w)
  {n:Nat} {w:World} {bsep bs bsv:Nat} {l:List UInt8} (h1:w.cell? ⟨bsep,0,none⟩=some (.string ⟨#[46]⟩)) (h2:w.cell? ⟨bs,0,none⟩=some (encS l)) (h2f:w.frozen? ⟨bs,0,none⟩=false) (h3:w.cell? ⟨bsv,0,none⟩=some (.int .i64 0))
  (n1:bsep≠bs) (n2:bsv≠bs) (hl:l.length<4611686018427387904) :
  SeqT Tryz.prog (n+1) 172 #[.pointer (some ⟨bsep,0,none⟩),.pointer (some ⟨bs,0,none⟩),.pointer (some ⟨bsv,0,none⟩)] encS (fun k=>k=bs) [bsep,bs,bsv] w (fun xs=>xs=pieces l) (fun ys=>∃ zs,pieces l=ys++zs):=by
 intro y J Jx W hsz hcap hJ hJx hY h0
 refine callsIn_of_wp Tryz.func172 rfl trivial ?_ rfl
 simp only[Tryz.ntmps172,List.size_toArray,List.length_cons,List.length_nil,Nat.reduceAdd,Nat.reduceSub,Array.replicate_succ,Array.replicate_zero,List.push_toArray,List.append_toArray,List.nil_append,List.cons_append]
 have hcell:∀ {A B:World} {k:Nat},B.heap[k]? = A.heap[k]? → B.cell? ⟨k,0,none⟩=A.cell? ⟨k,0,none⟩:=fun h=>by simp[World.cell?,h]
 have hfroz:∀ {A B:World} {k:Nat},B.heap[k]? = A.heap[k]? → B.frozen? ⟨k,0,none⟩=A.frozen? ⟨k,0,none⟩:=fun h=>by simp[World.frozen?,h]
 have g1:W.cell? ⟨bsep,0,none⟩=some (.string ⟨#[46]⟩):=(hcell (hcap _ (by simp))).trans h1
 have g2:W.cell? ⟨bs,0,none⟩=some (encS l):=(hcell (hcap _ (by simp))).trans h2
 have g2f:W.frozen? ⟨bs,0,none⟩=false:=(hfroz (hcap _ (by simp))).trans h2f
 have g3:W.cell? ⟨bsv,0,none⟩=some (.int .i64 0):=(hcell (hcap _ (by simp))).trans h3
 gi_wp2
 gi_loopw [7] (fun _ wr=>∃ (pre:List (List UInt8)) (rest:List UInt8),pieces l=pre++pieces rest∧rest.length≤l.length∧wr.cell? ⟨bs,0,none⟩=some (encS rest)∧wr.frozen? ⟨bs,0,none⟩=false∧wr.cell? ⟨bsep,0,none⟩=some (.string ⟨#[46]⟩)∧wr.cell? ⟨bsv,0,none⟩=some (.int .i64 0)∧J pre wr)
  (fun _ wr=>leftLen bs wr)
 case atStart =>
  exact⟨[],l,rfl,Nat.le_refl _,g2,g2f,g1,g3,h0⟩
 case round =>
  obtain⟨pre,rest,hx,hlr,k2,k2f,k1,k3,hJs⟩:=hrel
  obtain⟨hp1,hp2⟩:=z7z rest
  have hIw:=hIdx ⟨rest.toArray⟩ wr
  have hlist:(⟨rest.toArray⟩:ByteArray).data.toList=rest:=by simp
  rw[hlist] at hIw; clear hlist
  simp only[encS] at k2
  by_cases hi:Lib.indexByte rest 46=-1
  ·rw[hi] at hIw
   obtain⟨fn,tmps,assign,body,hy,hR⟩:=hY pre rest wr ⟨[],by rw[hx,hp1 hi]; simp⟩ hJs
   dsimp only [encS] at hy
   gi_wp2_with (refine⟨trivial,?_⟩; gi_at_call 174; refine (callsIn_wide.2 hIw).mono ?_; rintro e w' ⟨rfl,rfl⟩)
   refine (z9m hR).mono ?_
   rintro e W' (⟨rfl,hJ',hk⟩ | ⟨rfl,hJx'⟩)
   ·gi_wp2
    go_end0
    exact⟨⟨_,rfl⟩,.inl ⟨pre++[rest],by rw[hx,hp1 hi],hJ'⟩⟩
   ·gi_wp2
    go_end0
    exact⟨⟨_,rfl⟩,.inr ⟨_,hJx'⟩⟩
  ·obtain⟨i0,i1,i2⟩:=hp2 hi
   obtain⟨m,hm⟩:∃ m:Nat,Lib.indexByte rest 46=m:=⟨(Lib.indexByte rest 46).toNat,by omega⟩
   rw[hm] at hIw i1 i2
   rw[Int.toNat_natCast] at i1 i2
   have e1:encS (rest.take m)=Value.string ((⟨rest.toArray⟩:ByteArray).extract 0 m):=by
    unfold encS; congr 1; apply ByteArray.ext; simp[ByteArray.data_extract]
   obtain⟨fn,tmps,assign,body,hy,hR⟩:=hY pre (rest.take m) wr ⟨pieces (rest.drop (m+1)),by rw[hx,i2]; simp⟩ hJs
   rw[e1] at hy
   gi_wp2_with (refine⟨trivial,?_⟩; gi_at_call 174; refine (callsIn_wide.2 hIw).mono ?_; rintro e w' ⟨rfl,rfl⟩)
   refine (z9m hR).mono ?_
   rintro e W' (⟨rfl,hJ',hk⟩ | ⟨rfl,hJx'⟩)
   ·have q1:=(hcell (hk.2 bsep (by simp))).trans k1
    have q2:=(hcell (hk.2 bs (by simp))).trans k2
    have q2f:=(hfroz (hk.2 bs (by simp))).trans k2f
    have q3:=(hcell (hk.2 bsv (by simp))).trans k3
    gi_wp2
    have e2:Value.string ((⟨rest.toArray⟩:ByteArray).extract (m+1) rest.length)=encS (rest.drop (m+1)):=by
     unfold encS; congr 1; apply ByteArray.ext; simp[ByteArray.data_extract]; exact List.take_of_length_le (by simp)
    rw[e2]
    have hc2:=World.cell?_setCell_same' W' ⟨bs,0,none⟩ (encS (rest.drop (m+1))) (by rw[q2]; rfl)
    refine⟨⟨pre++[rest.take m],rest.drop (m+1),?_,?_,hc2,?_,?_,?_,?_⟩,?_⟩
    ·rw[hx,i2,List.append_assoc]; rfl
    ·rw[List.length_drop]; omega
    ·rw[World.frozen?_setCell]; exact q2f
    ·exact (hcell (Below.heap_setCell W' ⟨bs,0,none⟩ _ bsep n1)).trans q1
    ·exact (hcell (Below.heap_setCell W' ⟨bs,0,none⟩ _ bsv n2)).trans q3
    ·exact hJ _ _ _ hJ' ⟨⟨rfl,rfl,rfl⟩,by show W'.heap.size≤(W'.heap.modify _ _).size; rw[Array.size_modify]; exact Nat.le_refl _,fun k _ hk=>Below.heap_setCell W' ⟨bs,0,none⟩ _ k hk⟩
    ·rw[zav hc2,zav (l:=rest) k2,List.length_drop]; omega
   ·gi_wp2
    exact bodyPost_ret (results_none rfl _ _ _) rfl ⟨⟨_,rfl⟩,.inr ⟨_,hJx'⟩⟩
end Go.Proofs.YtclaojamgomjbaaGreatDoor
namespace Go.Proofs.YtclaojamgomjbaaGreatDoor
open Go Go.TA Go.RowKit Go.Shelf
attribute [local go_sem] Oper.semAt_some
theorem zbn (n:Nat) (s:ByteArray) (w:World):CallsIn Fence.wide (n+1) Tryz.prog 153 #[.string s,.string ⟨#[46]⟩,.int .i64 0] w fun e w' =>
  e = .returned (.func (.func 172) #[] #[.pointer (some ⟨w.heap.size+1,0,none⟩),.pointer (some ⟨w.heap.size,0,none⟩),.pointer (some ⟨w.heap.size+2,0,none⟩)]) ∧
   w'=((w.alloc (.cells #[.string s] 9)).alloc (.cells #[.string ⟨#[46]⟩] 9)).alloc (.cells #[.int .i64 0] 3):=by
 refine callsIn_of_wp Tryz.func153 rfl trivial ?_ rfl
 simp only[Tryz.ntmps153,List.size_toArray,List.length_cons,List.length_nil,Nat.reduceAdd,Nat.reduceSub,Array.replicate_succ,Array.replicate_zero,List.push_toArray,List.append_toArray,List.nil_append,List.cons_append]
 gi_wp2
 exact bodyPost_ret (results_tmp rfl _ _ _) rfl ⟨rfl,rfl⟩
theorem zdc (n:Nat) (s:ByteArray) (w:World):CallsIn Fence.wide (n+2) Tryz.prog 135 #[.string s,.string ⟨#[46]⟩] w fun e w' =>
  e = .returned (.func (.func 172) #[] #[.pointer (some ⟨w.heap.size+1,0,none⟩),.pointer (some ⟨w.heap.size,0,none⟩),.pointer (some ⟨w.heap.size+2,0,none⟩)]) ∧
   w'=((w.alloc (.cells #[.string s] 9)).alloc (.cells #[.string ⟨#[46]⟩] 9)).alloc (.cells #[.int .i64 0] 3):=by
 refine callsIn_of_wp Tryz.func135 rfl trivial ?_ rfl
 simp only[Tryz.ntmps135,List.size_toArray,List.length_cons,List.length_nil,Nat.reduceAdd,Nat.reduceSub,Array.replicate_succ,Array.replicate_zero,List.push_toArray,List.append_toArray,List.nil_append,List.cons_append]
 gi_wp2
 refine⟨trivial,?_⟩
 refine (zbn n s w).mono ?_
 rintro e w' ⟨rfl,rfl⟩
 gi_wp2
 exact bodyPost_ret (results_tmp rfl _ _ _) rfl ⟨rfl,rfl⟩
end Go.Proofs.YtclaojamgomjbaaGreatDoor
/- The layings of library contracts at this program. No condition. -/
namespace Go.Proofs
open Go.Shelf
def Tryz.lays143_ren:Go.Shelf.Ren:=⟨fun | 143=>174 | 219=>202 | 217=>218 | 225=>219 | 224=>220 | 267=>221 | 266=>228 | 314=>229 | n=>n,fun | 9=>9 | 3=>3 | 4=>4 | 5=>5 | 46=>180 | 146=>243 | 51=>224 | n=>n,fun | 1=>5 | n=>n⟩
theorem Tryz.lays143:Go.Proofs.Lays.n143 Tryz.prog Tryz.lays143_ren:={
 mixed:=by kernel_rfl
 f143:=Tryz.func174.trans (congrArg some (by kernel_rfl))
 f217:=Tryz.func218.trans (congrArg some (by kernel_rfl))
 f219:=Tryz.func202.trans (congrArg some (by kernel_rfl))
 f224:=Tryz.func220.trans (congrArg some (by kernel_rfl))
 f225:=Tryz.func219.trans (congrArg some (by kernel_rfl))
 f266:=Tryz.func228.trans (congrArg some (by kernel_rfl))
 f267:=Tryz.func221.trans (congrArg some (by kernel_rfl))
 f314:=Tryz.func229.trans (congrArg some (by kernel_rfl))
 t3:=Tryz.underlying3
 a3:=Tryz.isAgg3
 z3:=Tryz.sizeOf3
 v3:=Tryz.zeroValue3
 t4:=Tryz.underlying4
 a4:=Tryz.isAgg4
 z4:=Tryz.sizeOf4
 v4:=Tryz.zeroValue4
 t5:=Tryz.underlying5
 a5:=Tryz.isAgg5
 z5:=Tryz.sizeOf5
 v5:=Tryz.zeroValue5
 t9:=Tryz.underlying9
 a9:=Tryz.isAgg9
 z9:=Tryz.sizeOf9
 v9:=Tryz.zeroValue9
 t46:=Tryz.underlying180
 a46:=Tryz.isAgg180
 z46:=Tryz.sizeOf180
 v46:=Tryz.zeroValue180
 t51:=Tryz.underlying224
 a51:=Tryz.isAgg224
 z51:=Tryz.sizeOf224
 v51:=Tryz.zeroValue224
 t146:=Tryz.underlying243
 a146:=Tryz.isAgg243
 z146:=Tryz.sizeOf243
 v146:=Tryz.zeroValue243
 g1:=by kernel_rfl }
def Tryz.lays172_ren:Go.Shelf.Ren:=⟨fun | 172=>136 | 244=>154 | 245=>155 | 247=>175 | 279=>176 | 280=>177 | 281=>178 | 282=>179 | 287=>203 | 316=>204 | 171=>127 | 205=>205 | 321=>222 | 322=>223 | 243=>145 | 246=>158 | 283=>181 | 284=>182 | 285=>183 | 286=>184 | 129=>207 | 317=>206 | 318=>208 | 319=>209 | 320=>210 | 337=>224 | 338=>225 | n=>n,fun | 9=>9 | 3=>3 | 75=>174 | 76=>175 | 4=>4 | 5=>5 | 167=>194 | 37=>136 | 0=>0 | 85=>195 | 2=>2 | 168=>197 | 53=>41 | 175=>216 | 46=>180 | 210=>220 | 127=>227 | 145=>238 | 143=>236 | 21=>21 | 171=>201 | 173=>204 | 212=>223 | 51=>224 | 20=>20 | 213=>225 | 232=>245 | 233=>246 | 80=>210 | n=>n,fun | 15=>0 | 16=>1 | 17=>2 | 18=>6 | 19=>7 | n=>n⟩
theorem Tryz.lays172:Go.Proofs.LaysC.n172 Tryz.prog Tryz.lays172_ren:={
 mixed:=by kernel_rfl
 f129:=Tryz.func207.trans (congrArg some (by kernel_rfl))
 f171:=Tryz.func127.trans (congrArg some (by kernel_rfl))
 f172:=Tryz.func136.trans (congrArg some (by kernel_rfl))
 f205:=Tryz.func205.trans (congrArg some (by kernel_rfl))
 f243:=Tryz.func145.trans (congrArg some (by kernel_rfl))
 f244:=Tryz.func154.trans (congrArg some (by kernel_rfl))
 f245:=Tryz.func155.trans (congrArg some (by kernel_rfl))
 f246:=Tryz.func158.trans (congrArg some (by kernel_rfl))
 f247:=Tryz.func175.trans (congrArg some (by kernel_rfl))
 f279:=Tryz.func176.trans (congrArg some (by kernel_rfl))
 f280:=Tryz.func177.trans (congrArg some (by kernel_rfl))
 f281:=Tryz.func178.trans (congrArg some (by kernel_rfl))
 f282:=Tryz.func179.trans (congrArg some (by kernel_rfl))
 f283:=Tryz.func181.trans (congrArg some (by kernel_rfl))
 f284:=Tryz.func182.trans (congrArg some (by kernel_rfl))
 f285:=Tryz.func183.trans (congrArg some (by kernel_rfl))
 f286:=Tryz.func184.trans (congrArg some (by kernel_rfl))
 f287:=Tryz.func203.trans (congrArg some (by kernel_rfl))
 f316:=Tryz.func204.trans (congrArg some (by kernel_rfl))
 f317:=Tryz.func206.trans (congrArg some (by kernel_rfl))
 f318:=Tryz.func208.trans (congrArg some (by kernel_rfl))
 f319:=Tryz.func209.trans (congrArg some (by kernel_rfl))
 f320:=Tryz.func210.trans (congrArg some (by kernel_rfl))
 f321:=Tryz.func222.trans (congrArg some (by kernel_rfl))
 f322:=Tryz.func223.trans (congrArg some (by kernel_rfl))
 f337:=Tryz.func224.trans (congrArg some (by kernel_rfl))
 f338:=Tryz.func225.trans (congrArg some (by kernel_rfl))
 t0:=Tryz.underlying0
 a0:=Tryz.isAgg0
 z0:=Tryz.sizeOf0
 v0:=Tryz.zeroValue0
 t2:=Tryz.underlying2
 a2:=Tryz.isAgg2
 z2:=Tryz.sizeOf2
 v2:=Tryz.zeroValue2
 t3:=Tryz.underlying3
 a3:=Tryz.isAgg3
 z3:=Tryz.sizeOf3
 v3:=Tryz.zeroValue3
 t4:=Tryz.underlying4
 a4:=Tryz.isAgg4
 z4:=Tryz.sizeOf4
 v4:=Tryz.zeroValue4
 t5:=Tryz.underlying5
 a5:=Tryz.isAgg5
 z5:=Tryz.sizeOf5
 v5:=Tryz.zeroValue5
 t9:=Tryz.underlying9
 a9:=Tryz.isAgg9
 z9:=Tryz.sizeOf9
 v9:=Tryz.zeroValue9
 t20:=Tryz.underlying20
 a20:=Tryz.isAgg20
 z20:=Tryz.sizeOf20
 v20:=Tryz.zeroValue20
 t21:=Tryz.underlying21
 a21:=Tryz.isAgg21
 z21:=Tryz.sizeOf21
 v21:=Tryz.zeroValue21
 t37:=Tryz.underlying136
 a37:=Tryz.isAgg136
 z37:=Tryz.sizeOf136
 v37:=Tryz.zeroValue136
 t46:=Tryz.underlying180
 a46:=Tryz.isAgg180
 z46:=Tryz.sizeOf180
 v46:=Tryz.zeroValue180
 t51:=Tryz.underlying224
 a51:=Tryz.isAgg224
 z51:=Tryz.sizeOf224
 v51:=Tryz.zeroValue224
 t53:=Tryz.underlying41
 a53:=Tryz.isAgg41
 z53:=Tryz.sizeOf41
 v53:=Tryz.zeroValue41
 t75:=Tryz.underlying174
 a75:=Tryz.isAgg174
 z75:=Tryz.sizeOf174
 v75:=Tryz.zeroValue174
 t76:=Tryz.underlying175
 a76:=Tryz.isAgg175
 z76:=Tryz.sizeOf175
 v76:=Tryz.zeroValue175
 t85:=Tryz.underlying195
 a85:=Tryz.isAgg195
 z85:=Tryz.sizeOf195
 v85:=Tryz.zeroValue195
 t127:=Tryz.underlying227
 a127:=Tryz.isAgg227
 z127:=Tryz.sizeOf227
 v127:=Tryz.zeroValue227
 t143:=Tryz.underlying236
 a143:=Tryz.isAgg236
 z143:=Tryz.sizeOf236
 v143:=Tryz.zeroValue236
 t145:=Tryz.underlying238
 a145:=Tryz.isAgg238
 z145:=Tryz.sizeOf238
 v145:=Tryz.zeroValue238
 t167:=Tryz.underlying194
 a167:=Tryz.isAgg194
 z167:=Tryz.sizeOf194
 v167:=Tryz.zeroValue194
 t168:=Tryz.underlying197
 a168:=Tryz.isAgg197
 z168:=Tryz.sizeOf197
 v168:=Tryz.zeroValue197
 t171:=Tryz.underlying201
 a171:=Tryz.isAgg201
 z171:=Tryz.sizeOf201
 v171:=Tryz.zeroValue201
 t173:=Tryz.underlying204
 a173:=Tryz.isAgg204
 z173:=Tryz.sizeOf204
 v173:=Tryz.zeroValue204
 t175:=Tryz.underlying216
 a175:=Tryz.isAgg216
 z175:=Tryz.sizeOf216
 v175:=Tryz.zeroValue216
 t210:=Tryz.underlying220
 a210:=Tryz.isAgg220
 z210:=Tryz.sizeOf220
 v210:=Tryz.zeroValue220
 t212:=Tryz.underlying223
 a212:=Tryz.isAgg223
 z212:=Tryz.sizeOf223
 v212:=Tryz.zeroValue223
 t213:=Tryz.underlying225
 a213:=Tryz.isAgg225
 z213:=Tryz.sizeOf225
 t232:=Tryz.underlying245
 a232:=Tryz.isAgg245
 z232:=Tryz.sizeOf245
 v232:=Tryz.zeroValue245
 t233:=Tryz.underlying246
 a233:=Tryz.isAgg246
 z233:=Tryz.sizeOf246
 v233:=Tryz.zeroValue246
 g15:=by kernel_rfl
 g16:=by kernel_rfl
 g17:=by kernel_rfl
 g18:=by kernel_rfl
 g19:=by kernel_rfl
 t80:=Tryz.underlying210
 a80:=Tryz.isAgg210
 z80:=Tryz.sizeOf210
 v80:=Tryz.zeroValue210
 i0:=by kernel_rfl
 i2:=by kernel_rfl
 i3:=by kernel_rfl
 i4:=by kernel_rfl
 i5:=by kernel_rfl
 i9:=by kernel_rfl
 i20:=by kernel_rfl
 i21:=by kernel_rfl
 i37:=by kernel_rfl
 i46:=by kernel_rfl
 i51:=by kernel_rfl
 i53:=by kernel_rfl
 i75:=by kernel_rfl
 i76:=by kernel_rfl
 i80:=by kernel_rfl
 i85:=by kernel_rfl
 i127:=by kernel_rfl
 i143:=by kernel_rfl
 i145:=by kernel_rfl
 i167:=by kernel_rfl
 i168:=by kernel_rfl
 i171:=by kernel_rfl
 i173:=by kernel_rfl
 i175:=by kernel_rfl
 i210:=by kernel_rfl
 i212:=by kernel_rfl
 i232:=by kernel_rfl
 i233:=by kernel_rfl
 m15:=by kernel_rfl
 m16:=by kernel_rfl
 m17:=by kernel_rfl
 m18:=by kernel_rfl
 m19:=by kernel_rfl
 c0:=by kernel_rfl
 c2:=by kernel_rfl
 c3:=by kernel_rfl
 c4:=by kernel_rfl
 c5:=by kernel_rfl
 c9:=by kernel_rfl
 c20:=by kernel_rfl
 c21:=by kernel_rfl
 c37:=by kernel_rfl
 c46:=by kernel_rfl
 c51:=by kernel_rfl
 c53:=by kernel_rfl
 c75:=by kernel_rfl
 c76:=by kernel_rfl
 c80:=by kernel_rfl
 c85:=by kernel_rfl
 c127:=by kernel_rfl
 c143:=by kernel_rfl
 c145:=by kernel_rfl
 c167:=by kernel_rfl
 c168:=by kernel_rfl
 c171:=by kernel_rfl
 c173:=by kernel_rfl
 c175:=by kernel_rfl
 c210:=by kernel_rfl
 c212:=by kernel_rfl
 c213:=by kernel_rfl
 c232:=by kernel_rfl
 c233:=by kernel_rfl }
def Tryz.lays171_ren:Go.Shelf.Ren:=⟨fun | 171=>127 | 243=>145 | 246=>158 | 283=>181 | 284=>182 | 285=>183 | 286=>184 | 129=>207 | 317=>206 | 318=>208 | 319=>209 | 320=>210 | 337=>224 | 338=>225 | n=>n,fun | 3=>3 | 9=>9 | 2=>2 | 4=>4 | 171=>201 | 0=>0 | 53=>41 | 37=>136 | 5=>5 | 173=>204 | 212=>223 | 51=>224 | 20=>20 | 213=>225 | 46=>180 | 232=>245 | 233=>246 | n=>n,fun | 17=>2 | 18=>6 | 19=>7 | n=>n⟩
theorem Tryz.lays171:Go.Proofs.LaysM.n171 Tryz.prog Tryz.lays171_ren:={
 mixed:=by kernel_rfl
 f129:=Tryz.func207.trans (congrArg some (by kernel_rfl))
 f171:=Tryz.func127.trans (congrArg some (by kernel_rfl))
 f243:=Tryz.func145.trans (congrArg some (by kernel_rfl))
 f246:=Tryz.func158.trans (congrArg some (by kernel_rfl))
 f283:=Tryz.func181.trans (congrArg some (by kernel_rfl))
 f284:=Tryz.func182.trans (congrArg some (by kernel_rfl))
 f285:=Tryz.func183.trans (congrArg some (by kernel_rfl))
 f286:=Tryz.func184.trans (congrArg some (by kernel_rfl))
 f317:=Tryz.func206.trans (congrArg some (by kernel_rfl))
 f318:=Tryz.func208.trans (congrArg some (by kernel_rfl))
 f319:=Tryz.func209.trans (congrArg some (by kernel_rfl))
 f320:=Tryz.func210.trans (congrArg some (by kernel_rfl))
 f337:=Tryz.func224.trans (congrArg some (by kernel_rfl))
 f338:=Tryz.func225.trans (congrArg some (by kernel_rfl))
 t0:=Tryz.underlying0
 a0:=Tryz.isAgg0
 z0:=Tryz.sizeOf0
 v0:=Tryz.zeroValue0
 t2:=Tryz.underlying2
 a2:=Tryz.isAgg2
 z2:=Tryz.sizeOf2
 v2:=Tryz.zeroValue2
 t3:=Tryz.underlying3
 a3:=Tryz.isAgg3
 z3:=Tryz.sizeOf3
 v3:=Tryz.zeroValue3
 t4:=Tryz.underlying4
 a4:=Tryz.isAgg4
 z4:=Tryz.sizeOf4
 v4:=Tryz.zeroValue4
 t5:=Tryz.underlying5
 a5:=Tryz.isAgg5
 z5:=Tryz.sizeOf5
 v5:=Tryz.zeroValue5
 t9:=Tryz.underlying9
 a9:=Tryz.isAgg9
 z9:=Tryz.sizeOf9
 v9:=Tryz.zeroValue9
 t20:=Tryz.underlying20
 a20:=Tryz.isAgg20
 z20:=Tryz.sizeOf20
 v20:=Tryz.zeroValue20
 t37:=Tryz.underlying136
 a37:=Tryz.isAgg136
 z37:=Tryz.sizeOf136
 v37:=Tryz.zeroValue136
 t46:=Tryz.underlying180
 a46:=Tryz.isAgg180
 z46:=Tryz.sizeOf180
 v46:=Tryz.zeroValue180
 t51:=Tryz.underlying224
 a51:=Tryz.isAgg224
 z51:=Tryz.sizeOf224
 v51:=Tryz.zeroValue224
 t53:=Tryz.underlying41
 a53:=Tryz.isAgg41
 z53:=Tryz.sizeOf41
 v53:=Tryz.zeroValue41
 t171:=Tryz.underlying201
 a171:=Tryz.isAgg201
 z171:=Tryz.sizeOf201
 v171:=Tryz.zeroValue201
 t173:=Tryz.underlying204
 a173:=Tryz.isAgg204
 z173:=Tryz.sizeOf204
 v173:=Tryz.zeroValue204
 t212:=Tryz.underlying223
 a212:=Tryz.isAgg223
 z212:=Tryz.sizeOf223
 v212:=Tryz.zeroValue223
 t213:=Tryz.underlying225
 a213:=Tryz.isAgg225
 z213:=Tryz.sizeOf225
 t232:=Tryz.underlying245
 a232:=Tryz.isAgg245
 z232:=Tryz.sizeOf245
 v232:=Tryz.zeroValue245
 t233:=Tryz.underlying246
 a233:=Tryz.isAgg246
 z233:=Tryz.sizeOf246
 v233:=Tryz.zeroValue246
 g17:=by kernel_rfl
 g18:=by kernel_rfl
 g19:=by kernel_rfl
 i0:=by kernel_rfl
 i2:=by kernel_rfl
 i3:=by kernel_rfl
 i4:=by kernel_rfl
 i5:=by kernel_rfl
 i9:=by kernel_rfl
 i20:=by kernel_rfl
 i37:=by kernel_rfl
 i46:=by kernel_rfl
 i51:=by kernel_rfl
 i53:=by kernel_rfl
 i171:=by kernel_rfl
 i173:=by kernel_rfl
 i212:=by kernel_rfl
 i232:=by kernel_rfl
 i233:=by kernel_rfl
 m17:=by kernel_rfl
 m18:=by kernel_rfl
 m19:=by kernel_rfl }
def Tryz.lays156_ren:Go.Shelf.Ren:=⟨fun | 156=>159 | 165=>185 | 166=>186 | 169=>187 | 240=>211 | 241=>212 | 276=>226 | 277=>227 | n=>n,fun | 31=>134 | 9=>9 | 3=>3 | 4=>4 | 0=>0 | 20=>20 | 72=>208 | 76=>175 | 70=>206 | 37=>136 | 75=>174 | 127=>227 | 164=>240 | 5=>5 | 80=>210 | n=>n,fun | n=>n⟩
theorem Tryz.lays156:Go.Proofs.Lays.n156 Tryz.prog Tryz.lays156_ren:={
 mixed:=by kernel_rfl
 f156:=Tryz.func159.trans (congrArg some (by kernel_rfl))
 f165:=Tryz.func185.trans (congrArg some (by kernel_rfl))
 f166:=Tryz.func186.trans (congrArg some (by kernel_rfl))
 f169:=Tryz.func187.trans (congrArg some (by kernel_rfl))
 f240:=Tryz.func211.trans (congrArg some (by kernel_rfl))
 f241:=Tryz.func212.trans (congrArg some (by kernel_rfl))
 f276:=Tryz.func226.trans (congrArg some (by kernel_rfl))
 f277:=Tryz.func227.trans (congrArg some (by kernel_rfl))
 t0:=Tryz.underlying0
 a0:=Tryz.isAgg0
 z0:=Tryz.sizeOf0
 v0:=Tryz.zeroValue0
 t3:=Tryz.underlying3
 a3:=Tryz.isAgg3
 z3:=Tryz.sizeOf3
 v3:=Tryz.zeroValue3
 t4:=Tryz.underlying4
 a4:=Tryz.isAgg4
 z4:=Tryz.sizeOf4
 v4:=Tryz.zeroValue4
 t9:=Tryz.underlying9
 a9:=Tryz.isAgg9
 z9:=Tryz.sizeOf9
 v9:=Tryz.zeroValue9
 t20:=Tryz.underlying20
 a20:=Tryz.isAgg20
 z20:=Tryz.sizeOf20
 v20:=Tryz.zeroValue20
 t31:=Tryz.underlying134
 a31:=Tryz.isAgg134
 z31:=Tryz.sizeOf134
 v31:=Tryz.zeroValue134
 t37:=Tryz.underlying136
 a37:=Tryz.isAgg136
 z37:=Tryz.sizeOf136
 v37:=Tryz.zeroValue136
 t70:=Tryz.underlying206
 a70:=Tryz.isAgg206
 z70:=Tryz.sizeOf206
 v70:=Tryz.zeroValue206
 t72:=Tryz.underlying208
 a72:=Tryz.isAgg208
 z72:=Tryz.sizeOf208
 v72:=Tryz.zeroValue208
 t75:=Tryz.underlying174
 a75:=Tryz.isAgg174
 z75:=Tryz.sizeOf174
 v75:=Tryz.zeroValue174
 t76:=Tryz.underlying175
 a76:=Tryz.isAgg175
 z76:=Tryz.sizeOf175
 v76:=Tryz.zeroValue175
 t127:=Tryz.underlying227
 a127:=Tryz.isAgg227
 z127:=Tryz.sizeOf227
 v127:=Tryz.zeroValue227
 t164:=Tryz.underlying240
 a164:=Tryz.isAgg240
 z164:=Tryz.sizeOf240
 v164:=Tryz.zeroValue240 }
end Go.Proofs
namespace Go.Proofs.YtclaojamgomjbaaGreatDoor
open Go Go.TA Go.RowKit
noncomputable def F_q53 (l:List UInt8):Option (Int×Bool):=guardP (l.length≤281474976710656) (some (atoiF l))
def V_q53 (x:Int×Bool):AV:=.tup [.d (.i .i64 x.1),.err x.2]
def L_q53 (_:Int×Bool):List Ob:=[]
theorem F_q53_ok {l:List UInt8} (r:Int×Bool) (h:F_q53 l=some r):CallOk Tryz.prog 136 [.d (.str l)] [] (V_q53 r) (L_q53 r):=by
 obtain⟨hl,h⟩:=z2k h
 obtain rfl:=Option.some.inj h
 refine zfw (te:=Tryz.lays172_ren.t 168) (gs:=0) (gr:=1) (by decide) (by decide) (fun s hs v hv w=>?_) (fun s hs hv hv' ev w h1 h2=>?_) (fun s hs hv ev w h1 h2=>?_) hl
 ·refine (Any.strconv_Atoi_ok Tryz.lays172 s (by omega) v hv w).mono ?_
  rintro e w' ⟨rfl,(rfl | ⟨t,rfl⟩)⟩
  ·exact⟨rfl,Below.refl _ _⟩
  ·exact⟨rfl,Lib.bytesWorld_below _ _ _⟩
 ·refine (Any.strconv_Atoi_syntax Tryz.lays172 s hs (by
   cases hx:Lib.atoiAll s.data.toList with
   | ok v=>exact absurd hx (hv v)
   | range=>exact absurd hx hv'
   | _=>rfl) ev w h1 h2).mono ?_
  rintro e w' ⟨N,rfl,_,_,hb⟩
  exact⟨N,rfl,hb⟩
 ·refine (Any.strconv_Atoi_range Tryz.lays172 s hs hv ev w h1 h2).mono ?_
  rintro e w' ⟨N,rfl,_,_,hb⟩
  exact⟨N,rfl,hb⟩
noncomputable def F_q4z (n:Int):Option (List UInt8):=guardP (0≤n∧n<100) (some (Lib.decDigits n.toNat))
def V_q4z (x:List UInt8):AV:=.d (.str x)
def L_q4z (_:List UInt8):List Ob:=[]
theorem F_q4z_ok {n:Int} (r:List UInt8) (h:F_q4z n=some r):CallOk Tryz.prog 127 [.d (.i .i64 n)] [] (V_q4z r) (L_q4z r):=by
 obtain⟨hl,h⟩:=z2k h
 obtain rfl:=Option.some.inj h
 exact zfx (fun i hi w=>Any.strconv_Itoa_small { Tryz.lays171 with } i hi w) hl.1 hl.2
theorem zoa (s:ByteArray) (w:World):Calls Tryz.prog 174 #[.string s,.string ⟨#[46]⟩] w fun e w'=>e = .returned (.int .i64 (Lib.indexByte s.data.toList 46))∧w'=w:=Any.strings_Index_one Tryz.lays143 s 46 w
noncomputable def z5c (x:List UInt8) (s:List Int):Scr Tryz.prog (List Int) (Step (List Int) (List Int)) :=
.call (@F_q53_ok x) fun r1 c1 =>
.reg 4 [] [(1,hc c1 [] true)] [.cl 0 c1 [] 3 true] <|
.calld [(bif (bif r1.2 then true else (decide (r1.1<1))) then true else (decide (r1.1>99)))=false] default (@F_q4z_ok r1.1) fun r2 c2 =>
.reg 5 [] [(12,hc c2 [] true)] [.clg 0 [(bif (bif r1.2 then true else (decide (r1.1<1))) then true else (decide (r1.1>99)))=false] c2 [] 3 true] <|
.ite (bif (bif (bif r1.2 then true else (decide (r1.1<1))) then true else (decide (r1.1>99))) then true else (!(r2==x))) (
.reg 6 [] [] [] <|
.sh (A:=True) (.pf trivial) [(2,(vp 0))] [(2,(vp 0))] [(Ob.box (AV.full 0 fun _=>DV.b false)),(Ob.box (AV.ref 2 s.length 0 s.length)),(eS 1 (DV.i .i64) s)] [(Ob.box (vl ([]:List Int))),(Ob.box (AV.ref 2 s.length 0 s.length)),(eS 1 (DV.i .i64) s)] (fun _=>(zas (.box _ _ _ _ _ (Nat.ne_of_beq_eq_false rfl) TrV.full (.keep _ _ _ _ (Nat.ne_of_beq_eq_false rfl) (.keep _ _ _ _ (Nat.ne_of_beq_eq_false rfl) (.nil _)))))) (z7u (k:=0) rfl (TrS.keep _) z6g) <|
.ret [] (.ret [])) (
.guard [(s.length+1) * (2 * 8)≤2 ^ 48] <|
.reg 7 [] [(2,hv (vl ([r1.1]:List Int))),(3,{ cast:=some (AV.ref 2 ((s++([r1.1]:List Int)).length) 0 ((s++([r1.1]:List Int)).length)),obs:=[(2,(eS 1 (DV.i .i64) (s++([r1.1]:List Int))))] })] [.pf (zd (DV.i .i64) ([r1.1]:List Int)),.pf (Eq.refl s.length),.pf (Eq.refl s.length),.pf (p:=∀ k,k<1→(AV.d ((DV.i .i64) (([r1.1]:List Int).getD k default))).wd=1) (fun _ _=>rfl),.ev 0,.pf (zy (o:=2) (l:=s) (x:=([r1.1]:List Int))),.pf (zx (sz:=1) (e:=(DV.i .i64)) (l:=s) (x:=([r1.1]:List Int)))] <|
.ret [] (.cont (s++([r1.1]:List Int))))
noncomputable def za8 (s:List Int):Scr Tryz.prog (List Int) (List Int) :=
.ite (decide ((s.length:Int)>4)) (
.reg 9 [] [] [] <|
.sh (A:=True) (.pf trivial) [(2,(vp 0))] [(2,(vp 0))] [(Ob.box (AV.full 0 fun _=>DV.b false)),(Ob.box (AV.ref 2 s.length 0 s.length)),(eS 1 (DV.i .i64) s)] [(Ob.box (vl ([]:List Int))),(Ob.box (AV.ref 2 s.length 0 s.length)),(eS 1 (DV.i .i64) s)] (fun _=>(zas (.box _ _ _ _ _ (Nat.ne_of_beq_eq_false rfl) TrV.full (.keep _ _ _ _ (Nat.ne_of_beq_eq_false rfl) (.keep _ _ _ _ (Nat.ne_of_beq_eq_false rfl) (.nil _)))))) (z7u (k:=0) rfl (TrS.keep _) z6g) <|
.ret [] ([]:List Int)) (
.guard [s.length<2 ^ 63] <|
.reg 10 [] [] [] <|
.frz 2 (.ev 0) none [] [0,1] <|
.ret [] s)
def cL:Code→Code
 | .seq x _=>x
 | _=>.skip
def cR:Code→Code
 | .seq _ y=>y
 | _=>.skip
def cI:Code→Code
 | .block _ x=>x
 | _=>.skip
def cA:Code→Code
 | .rangeFunc _ _ x _=>x
 | _=>.skip
def cB:Code→Code
 | .rangeFunc _ _ _ y=>y
 | _=>.skip
noncomputable def c68:Code:=Tryz.f106.body.getD .skip
noncomputable def zdm:Code:=cL c68
noncomputable def zdn:Code:=cL (cR c68)
noncomputable def z8x:Code:=cR (cR c68)
noncomputable def z5d:Code:=cI (cR (cL z8x))
theorem zob:Tryz.f106.body=some (.seq zdm (.seq zdn (.seq (.seq (cL (cL z8x)) (.block 0 (.rangeFunc (.tmp 8) #[9] (cA z5d) (cB z5d)))) (cR z8x)))):=by kernel_rfl
theorem zoc (z:Option Nat) (x:List UInt8) (s:List Int) {r:Step (List Int) (List Int)} (hr:(z5c x s).den=some r) :
  AW z Tryz.prog Tryz.f106.ntmps (cB z5d) (fun e fr L=>match e with
   | .normal=>∃ s',r = .cont s'∧StLe fr L [] (pLI s')
   | .ret=>∃ y,r = .ret y∧∃ J,L=[.box (.d (eL (.i .i64) y))]++J
   | _=>False) [(4,.d (.str x)),(2,vp 0),(3,vp 1)] (pLI s):=pBody (by kernel_rfl) hr
theorem zod (s:List Int) {r:List Int} (hr:(za8 s).den=some r) :
  AW none Tryz.prog Tryz.f106.ntmps (cR z8x) (FQ Tryz.prog Tryz.f106 (vl r) []) [(2,vp 0),(3,vp 1)] (pLI s):=pTail (V:=fun r=>vl r) (Lr:=fun _=>[]) (by kernel_rfl) hr
end Go.Proofs.YtclaojamgomjbaaGreatDoor
