/- A part of the proof: the statement out of the plain law. No condition. -/
import Derived.Test.YtclaojamgomjbaaGreatDoorT3
import Derived.Test.YtclaojamgomjbaaGreatDoorT1
import Derived.Test.YtclaojamgomjbaaGreatDoorRows
import Derived.LaidMore
import Derived.Lay
import Derived.LaidLaws
import Derived.Lib.LaidTab
namespace Go.Proofs.YtclaojamgomjbaaGreatDoor
open Go Go.TA Go.ChangeShapes Go.WideShapes Go.ChangeAt Go.RowKit
theorem Tryz.own:ownKnob Tryz.prog.godebug=none:=by kernel_rfl
theorem Tryz.laidOut:laidOutB Tryz.prog=true:=by kernel_rfl
theorem zcg {W:World} {n:String} {g t fuel:Nat} {cs:Array Value} {nm:String} {d:DataW Unit} {p:List MemPlace} {ms:Array (String×TypeId)} (hg:Tryz.prog.globalNamed n=some g) (hu:Tryz.prog.underlying t=some (.interface ms)) (hv:W.var? Tryz.prog n=some cs)
  (hd:DataW.trod (fun _=>()) Tryz.prog W 0 (fun _=>true) false fuel t cs.toList=some (.iface nm d,p)):∃ v,memOf noX [] W g=some #[v]∧errB v=true:=by
 obtain⟨f1,u,v,e,_,_⟩:=iface_of_trod hu hd
 obtain⟨cs⟩:=cs
 simp only at e
 subst e
 refine⟨.iface u v,?_,rfl⟩
 simp only[World.var?,hg,Option.bind_some] at hv
 split at hv
 ·rename_i arr e fz hb
  cases hv
  exact z15 (fun h=>h) (fun⟨o,tc,h⟩=>by simp at h) hb
 ·cases hv
theorem zli {W:World} {n:String} {g t e len fuel:Nat} {cs:Array Value} {k:IntKind} {zs:List Int} {d:DataW Unit} {p:List MemPlace} (hg:Tryz.prog.globalNamed n=some g) (ht:Tryz.prog.underlying t=some (.array len e)) (he:Tryz.prog.underlying e=some (.int k))
  (hce:Tryz.prog.cellsOf e=1) (hct:Tryz.prog.cellsOf t=len) (hz:d=Lib.tabData k zs) (hv:W.var? Tryz.prog n=some cs) (hd:DataW.trod (fun _=>()) Tryz.prog W 0 (fun _=>true) false fuel t cs.toList=some (d,p)) :
  memOf noX [] W g=some (zs.map fun z=>Value.int k z).toArray:=by
 subst hz
 have h:=Lib.cells_of_tab ht he hce hct hd
 obtain⟨cs⟩:=cs
 simp only at h
 subst h
 simp only[World.var?,hg,Option.bind_some] at hv
 split at hv
 ·rename_i arr e fz hb
  cases hv
  exact z15 (fun h=>h) (fun⟨o,tc,h⟩=>by simp at h) hb
 ·cases hv
theorem ze9 {W:World} (h:laidMetH Tryz.prog Rows.controlAgainRow.laid W):GlobOk (memOf noX [] W):=by
 rw[MakeChecks.laidMetH_plain _ _ _ (by kernel_rfl)] at h
 obtain⟨ps,⟨_,_,_,_,_,_,_,_,_,_,⟨_,_,_,_,_,_,_,_,_,_,⟨gt0,tt0,ct0,ft0,pt0,qt0,hgt0,htt0,hvt0,hdt0,⟨_,_,_,_,_,_,_,_,_,_,⟨g1,t1,cs1,f1,p1,q1,hg1,ht1,hv1,hd1,⟨g0,t0,cs0,f0,p0,q0,hg0,ht0,hv0,hd0,_,_⟩,_⟩,_⟩,_⟩,_⟩,_⟩,_,_⟩:=h
 obtain rfl := Option.some.inj ((show Tryz.prog.globalNamed "strconv.ErrRange" = some 1 by kernel_rfl).symm.trans hg1)
 obtain rfl := Option.some.inj ((show Tryz.prog.globalNamed "strconv.ErrSyntax" = some 0 by kernel_rfl).symm.trans hg0)
 obtain rfl:=Option.some.inj ((show (Tryz.prog.globals[1]?).map (·.type)=some 174 by kernel_rfl).symm.trans ht1)
 obtain rfl:=Option.some.inj ((show (Tryz.prog.globals[0]?).map (·.type)=some 174 by kernel_rfl).symm.trans ht0)
 obtain rfl := Option.some.inj ((show Tryz.prog.globalNamed "internal/strconv.uint64pow10" = some 2 by kernel_rfl).symm.trans hgt0)
 obtain rfl:=Option.some.inj ((show (Tryz.prog.globals[2]?).map (·.type)=some 223 by kernel_rfl).symm.trans htt0)
 refine⟨fun b hb=>?_,fun q hq=>?_⟩
 ·have:b=0∨b=1:=by simpa [globs] using hb
  rcases this with rfl | rfl
  ·exact zcg hg0 Tryz.underlying174 hv0 hd0
  ·exact zcg hg1 Tryz.underlying174 hv1 hd1
 ·obtain rfl:q=(2,Lib.pow10Tab.map fun z=>Value.int .u64 z):=by simpa [gtabs] using hq
  exact zli hgt0 Tryz.underlying223 Tryz.underlying41 (by kernel_rfl) (by kernel_rfl) (by kernel_rfl) hvt0 hdt0
end Go.Proofs.YtclaojamgomjbaaGreatDoor
