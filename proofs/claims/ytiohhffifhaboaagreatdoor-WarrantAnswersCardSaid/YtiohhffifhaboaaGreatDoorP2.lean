/- A part of the proof: plain laws of what the functions compute. No condition. -/
import Derived.Test.YtiohhffifhaboaaGreatDoorT8
import Derived.Test.YtiohhffifhaboaaGreatDoorG1
import Derived.Shelf.Strings.Repeat
import Derived.Shelf.Strconv.ToError
import Derived.Shelf.Strconv.ToErrorRange
namespace Go.Proofs.YtiohhffifhaboaaGreatDoor
open Go Go.TA Go.RowKit Go.Shelf
theorem ziq (s:ByteArray) (hmax:s.size<=9223372036854775806) (w:World) :
  Calls Tryz.prog 75 #[.string s,.int .i64 16,.int .i64 64] w fun e w'=>e = .returned (zin (Tryz.lays172_ren.t 167) (z2q s.data.toList))/\(w'=w\/∃ t,w'=Lib.bytesWorld w (Tryz.lays172_ren.t 5) t) :=
 zpq (ρ:=Tryz.lays172_ren) { Tryz.lays172 with } s hmax w
set_option maxHeartbeats 4000000 in
set_option maxRecDepth 100000 in
theorem zqb (s:ByteArray) (hs:s.size<=281474976710656) (v:Nat) (h:z2q s.data.toList = .ok v) (w:World) :
  Calls Tryz.prog 44 #[.string s,.int .i64 16,.int .i64 64] w fun e w'=>e = .returned (.tuple #[.int .u64 v,.nilIface])/\Below w.heap.size w w':=by
 have mixed:=Tryz.lays172.mixed
 have t3:=Tryz.underlying3; have a3:=Tryz.isAgg3; have z3:=Tryz.sizeOf3; have v3:=Tryz.zeroValue3
 have t4:=Tryz.underlying4; have a4:=Tryz.isAgg4; have z4:=Tryz.sizeOf4; have v4:=Tryz.zeroValue4
 have t9:=Tryz.underlying9; have a9:=Tryz.isAgg9; have z9:=Tryz.sizeOf9; have v9:=Tryz.zeroValue9
 have t23:=Tryz.underlying23; have a23:=Tryz.isAgg23; have z23:=Tryz.sizeOf23; have v23:=Tryz.zeroValue23
 have t81:=Tryz.underlying81; have a81:=Tryz.isAgg81; have z81:=Tryz.sizeOf81; have v81:=Tryz.zeroValue81
 have t84:=Tryz.underlying84; have a84:=Tryz.isAgg84; have z84:=Tryz.sizeOf84; have v84:=Tryz.zeroValue84
 have e1:∀ args w,(callFunc 75 args).run Tryz.prog w = .ok (.enter 75 args) w:=enters_of Tryz.func75 kj rfl
 have hI:=ziq s om w
 rw[h] at hI
 have hI:Calls Tryz.prog 75 #[.string s,.int .i64 16,.int .i64 64] w fun e w'=>e = .returned (.tuple #[.int .u64 v,.nilIface])/\(w'=w\/∃ t,w'=Lib.bytesWorld w (Tryz.lays172_ren.t 5) t):=hI
 clear h
 go_enter Tryz.func44,Tryz.ntmps44
 go_wp2_with (go_at_fn 75; refine hI.mono ?_; rintro e W1 ⟨rfl,hW⟩)
 go_wp2
 go_ret2
 exact⟨rfl,by
  rcases hW with rfl | ⟨t,rfl⟩
  ·exact Below.refl _ _
  ·exact Lib.bytesWorld_below _ _ _⟩
set_option maxHeartbeats 4000000 in
set_option maxRecDepth 100000 in
theorem zkp (s:ByteArray) (hs:s.size<=281474976710656) (h:z2q s.data.toList = .bad) (ev:Value) (w:World) (hv:w.cell? ⟨0,0,none⟩=some ev) (hev:ev = .nilIface\/∃ te pe,ev = .iface te pe) :
  Calls Tryz.prog 44 #[.string s,.int .i64 16,.int .i64 64] w fun e w'=>∃ N,e = .returned (.tuple #[.int .u64 0,.iface (Tryz.lays172_ren.t 168) (.pointer (some ⟨N,0,none⟩))])/\Below w.heap.size w w':=by
 have mixed:=Tryz.lays172.mixed
 have t3:=Tryz.underlying3; have a3:=Tryz.isAgg3; have z3:=Tryz.sizeOf3; have v3:=Tryz.zeroValue3
 have t4:=Tryz.underlying4; have a4:=Tryz.isAgg4; have z4:=Tryz.sizeOf4; have v4:=Tryz.zeroValue4
 have t9:=Tryz.underlying9; have a9:=Tryz.isAgg9; have z9:=Tryz.sizeOf9; have v9:=Tryz.zeroValue9
 have t23:=Tryz.underlying23; have a23:=Tryz.isAgg23; have z23:=Tryz.sizeOf23; have v23:=Tryz.zeroValue23
 have t81:=Tryz.underlying81; have a81:=Tryz.isAgg81; have z81:=Tryz.sizeOf81; have v81:=Tryz.zeroValue81
 have t84:=Tryz.underlying84; have a84:=Tryz.isAgg84; have z84:=Tryz.sizeOf84; have v84:=Tryz.zeroValue84
 have e1:∀ args w,(callFunc 75 args).run Tryz.prog w = .ok (.enter 75 args) w:=enters_of Tryz.func75 kj rfl
 have e2:∀ args w,(callFunc 74 args).run Tryz.prog w = .ok (.enter 74 args) w:=enters_of Tryz.func74 kj rfl
 have hG:0<w.heap.size:=Lib.lt_of_cell hv
 have hI:=ziq s om w
 rw[h] at hI
 have hI:Calls Tryz.prog 75 #[.string s,.int .i64 16,.int .i64 64] w fun e w'=>e = .returned (.tuple #[.int .u64 0,.iface (Tryz.lays172_ren.t 167) (.int .i64 2)])/\(w'=w\/∃ t,w'=Lib.bytesWorld w (Tryz.lays172_ren.t 5) t):=hI
 clear h
 go_enter Tryz.func44,Tryz.ntmps44
 go_wp2_with (go_at_fn 75; refine hI.mono ?_)
 rintro e W1 ⟨rfl,hW⟩
 have hb1:Below w.heap.size w W1:=by
  rcases hW with rfl | ⟨t,rfl⟩
  ·exact Below.refl _ _
  ·exact Lib.bytesWorld_below _ _ _
 have hv1:W1.cell? ⟨0,0,none⟩=some ev:=(hb1.cell (show (⟨0,0,none⟩:Addr).block<w.heap.size from hG)).trans hv
 clear hW
 go_wp2_with (go_at_fn 74; refine (Any.strconv_toError_syntax (ρ:=Tryz.lays172_ren) { Tryz.lays172 with } ⟨#[80,97,114,115,101,85,105,110,116]⟩ s 16 64 ev _ hs ?_ hev).mono ?_)
 ·exact hv1
 rintro e W2 ⟨N,rfl,h1,h2,h3⟩
 go_wp2
 go_ret2
 exact⟨N,rfl,hb1.trans (h3.mono hb1.size)⟩
set_option maxHeartbeats 4000000 in
set_option maxRecDepth 100000 in
theorem zmh (s:ByteArray) (hs:s.size<=281474976710656) (h:z2q s.data.toList = .over) (ev:Value) (w:World) (hv:w.cell? ⟨1,0,none⟩=some ev) (hev:ev = .nilIface\/∃ te pe,ev = .iface te pe) :
  Calls Tryz.prog 44 #[.string s,.int .i64 16,.int .i64 64] w fun e w'=>∃ N,e = .returned (.tuple #[.int .u64 18446744073709551615,.iface (Tryz.lays172_ren.t 168) (.pointer (some ⟨N,0,none⟩))])/\Below w.heap.size w w':=by
 have mixed:=Tryz.lays172.mixed
 have t3:=Tryz.underlying3; have a3:=Tryz.isAgg3; have z3:=Tryz.sizeOf3; have v3:=Tryz.zeroValue3
 have t4:=Tryz.underlying4; have a4:=Tryz.isAgg4; have z4:=Tryz.sizeOf4; have v4:=Tryz.zeroValue4
 have t9:=Tryz.underlying9; have a9:=Tryz.isAgg9; have z9:=Tryz.sizeOf9; have v9:=Tryz.zeroValue9
 have t23:=Tryz.underlying23; have a23:=Tryz.isAgg23; have z23:=Tryz.sizeOf23; have v23:=Tryz.zeroValue23
 have t81:=Tryz.underlying81; have a81:=Tryz.isAgg81; have z81:=Tryz.sizeOf81; have v81:=Tryz.zeroValue81
 have t84:=Tryz.underlying84; have a84:=Tryz.isAgg84; have z84:=Tryz.sizeOf84; have v84:=Tryz.zeroValue84
 have e1:∀ args w,(callFunc 75 args).run Tryz.prog w = .ok (.enter 75 args) w:=enters_of Tryz.func75 kj rfl
 have e2:∀ args w,(callFunc 74 args).run Tryz.prog w = .ok (.enter 74 args) w:=enters_of Tryz.func74 kj rfl
 have hG:1<w.heap.size:=Lib.lt_of_cell hv
 have hI:=ziq s om w
 rw[h] at hI
 have hI:Calls Tryz.prog 75 #[.string s,.int .i64 16,.int .i64 64] w fun e w'=>e = .returned (.tuple #[.int .u64 18446744073709551615,.iface (Tryz.lays172_ren.t 167) (.int .i64 1)])/\(w'=w\/∃ t,w'=Lib.bytesWorld w (Tryz.lays172_ren.t 5) t):=hI
 clear h
 go_enter Tryz.func44,Tryz.ntmps44
 go_wp2_with (go_at_fn 75; refine hI.mono ?_)
 rintro e W1 ⟨rfl,hW⟩
 have hb1:Below w.heap.size w W1:=by
  rcases hW with rfl | ⟨t,rfl⟩
  ·exact Below.refl _ _
  ·exact Lib.bytesWorld_below _ _ _
 have hv1:W1.cell? ⟨1,0,none⟩=some ev:=(hb1.cell (show (⟨1,0,none⟩:Addr).block<w.heap.size from hG)).trans hv
 clear hW
 go_wp2_with (go_at_fn 74; refine (Any.strconv_toError_range (ρ:=Tryz.lays172_ren) { Tryz.lays172 with } ⟨#[80,97,114,115,101,85,105,110,116]⟩ s 16 64 ev _ hs ?_ hev).mono ?_)
 ·exact hv1
 rintro e W2 ⟨N,rfl,h1,h2,h3⟩
 go_wp2
 go_ret2
 exact⟨N,rfl,hb1.trans (h3.mono hb1.size)⟩
noncomputable def F_q45 (l:Y8) (b k:Int):Option (Int×Bool):=guardP (b=16/\k=64/\l.length<=281474976710656) (some (endU (z2q l)))
def V_q45 (x:Int×Bool):AV:=.tup [.d (.i .u64 x.1),.err x.2]
def L_q45 (_:Int×Bool):List Ob:=[]
theorem F_q45_ok {l:Y8} {b k:Int} (r:Int×Bool) (h:F_q45 l b k=some r):CallOk Tryz.prog 44 [.d (.str l),.d (.i .i64 b),.d (.i .i64 k)] [] (V_q45 r) (L_q45 r):=by
 obtain⟨⟨hb,hk,hl⟩,h'⟩:=z1m h
 clear h
 subst hb hk
 obtain rfl:=yn h'
 exact zkn (gs:=0) (gr:=1) (te:=Tryz.lays172_ren.t 168) dk dk zqb zkp zmh hl
theorem rExtra:Builder.Extra Tryz.prog Tryz.lays105_ren where
 sizeBuilder:=kj
 liesBuilder:=kj
 t5:=Tryz.underlying5
 a5:=Tryz.isAgg5
 z5:=Tryz.sizeOf5
 v5:=Tryz.zeroValue5
 infoByte:=kj
 cellsByte:=kj
 sizeByte:=kj
 neB5:=dk
noncomputable def F_q49 (l:Y8) (n:Int):Option Y8:=guardP (0<=n/\n<=1000/\l.length<=1000) (some (Lib.repeatL l n.toNat))
def V_q49 (x:Y8):AV:=.d (.str x)
def L_q49 (_:Y8):List Ob:=[]
theorem F_q49_ok {l:Y8} {n:Int} (r:Y8) (h:F_q49 l n=some r):CallOk Tryz.prog 77 [.d (.str l),.d (.i .i64 n)] [] (V_q49 r) (L_q49 r):=by
 obtain⟨⟨h0,h1,h2⟩,h⟩:=z1m h
 obtain rfl:=yn h
 exact zio (fun s c w hc hl=>Any.strings_Repeat Tryz.lays105 rExtra s c w hc hl) h0 h1 h2
noncomputable def F_q47 (n:Int):Option Int:=guardP (0<=n/\n<18446744073709551616) (some (Lib.ctz 64 n.toNat:Int))
def V_q47 (x:Int):AV:=.d (.i .i64 x)
def L_q47 (_:Int):List Ob:=[]
theorem F_q47_ok {n:Int} (r:Int) (h:F_q47 n=some r):CallOk Tryz.prog 198 [.d (.i .u64 n)] [] (V_q47 r) (L_q47 r):=by
 obtain⟨⟨h0,h1⟩,h⟩:=z1m h
 obtain rfl:=yn h
 exact zko (g:=7) (by simp[gtabs]) (fun x hx w ht=>Any7.bits_TrailingZeros Tryz.lays27 x hx w fun _=>ht) h0 h1
end Go.Proofs.YtiohhffifhaboaaGreatDoor
