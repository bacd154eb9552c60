/- A part of the proof: the statement out of the plain law. No condition. -/
import Derived.Test.YtiohhffifhaboaaGreatDoorT3
import Derived.Test.YtiohhffifhaboaaGreatDoorT1
import Derived.Test.YtiohhffifhaboaaGreatDoorRows
import Derived.LaidMore
import Derived.Lay
import Derived.LaidLaws
import Derived.Lib.LaidTab
namespace Go.Proofs.YtiohhffifhaboaaGreatDoor
open Go Go.TA Go.ChangeShapes Go.WideShapes Go.ChangeAt Go.RowKit
theorem Tryz.own:ownKnob Tryz.prog.godebug=none:=kj
theorem Tryz.laidOut:laidOutB Tryz.prog=true:=kj
variable {W:World} {n:String} {g t fuel:Nat} {cs:Array Value} {d:DataW Unit} {p:List MemPlace}
theorem zcp {nm:String} {ms:Array (String×TypeId)} (hg:Tryz.prog.globalNamed n=some g) (hu:Tryz.prog.underlying t=some (.interface ms)) (hv:W.var? Tryz.prog n=some cs) (hd:DataW.trod (fun _=>()) Tryz.prog W 0 (fun _=>true) false fuel t cs.toList=some (.iface nm d,p)):∃ v,memOf noX [] W g=some #[v]/\errB v=true:=by
 obtain⟨f1,u,v,e,_,_⟩:=iface_of_trod hu hd
 obtain⟨cs⟩:=cs
 simp only at e
 subst e
 refine⟨.iface u v,?_,rfl⟩
 simp only[World.var?,hg,y1e] at hv
 split at hv
 ·rename_i arr e fz hb
  cases hv
  exact z19 (fun h=>h) (fun⟨o,tc,h⟩=>by simp at h) hb
 ·cases hv
theorem zej {e len:Nat} {k:IntKind} {zs:List Int} (hg:Tryz.prog.globalNamed n=some g) (ht:Tryz.prog.underlying t=some (.array len e)) (he:Tryz.prog.underlying e=some (.int k)) (hce:Tryz.prog.cellsOf e=1) (hct:Tryz.prog.cellsOf t=len) (hz:d=Lib.tabData k zs) (hv:W.var? Tryz.prog n=some cs) (hd:DataW.trod (fun _=>()) Tryz.prog W 0 (fun _=>true) false fuel t cs.toList=some (d,p)) :
  memOf noX [] W g=some (zs.map fun z=>Value.int k z).toArray:=by
 subst hz
 have h:=Lib.cells_of_tab ht he hce hct hd
 obtain⟨cs⟩:=cs
 simp only at h
 subst h
 simp only[World.var?,hg,y1e] at hv
 split at hv
 ·rename_i arr e fz hb
  cases hv
  exact z19 (fun h=>h) (fun⟨o,tc,h⟩=>by simp at h) hb
 ·cases hv
theorem zek (h:laidMetH Tryz.prog Rows.warrantAnswersRow.laid W):GlobOk (memOf noX [] W):=by
 rw[MakeChecks.laidMetH_plain _ _ _ kj] at h
 obtain⟨ps,⟨_,_,_,_,_,_,_,_,_,_,⟨gt1,tt1,ct1,ft1,pt1,qt1,hgt1,htt1,hvt1,hdt1,⟨gt0,tt0,ct0,ft0,pt0,qt0,hgt0,htt0,hvt0,hdt0,⟨_,_,_,_,_,_,_,_,_,_,⟨g1,t1,cs1,f1,p1,q1,hg1,ht1,hv1,hd1,⟨g0,t0,cs0,f0,p0,q0,hg0,ht0,hv0,hd0,_,_⟩,_⟩,_⟩,_⟩,_⟩,_⟩,_,_⟩:=h
 obtain rfl := yn ((show Tryz.prog.globalNamed "strconv.ErrRange" = some 1 from kj).symm.trans hg1)
 obtain rfl := yn ((show Tryz.prog.globalNamed "strconv.ErrSyntax" = some 0 from kj).symm.trans hg0)
 obtain rfl:=yn ((show (Tryz.prog.globals[1]?).map (·.type)=some 81 from kj).symm.trans ht1)
 obtain rfl:=yn ((show (Tryz.prog.globals[0]?).map (·.type)=some 81 from kj).symm.trans ht0)
 obtain rfl := yn ((show Tryz.prog.globalNamed "internal/strconv.uint64pow10" = some 3 from kj).symm.trans hgt0)
 obtain rfl:=yn ((show (Tryz.prog.globals[3]?).map (·.type)=some 215 from kj).symm.trans htt0)
 obtain rfl := yn ((show Tryz.prog.globalNamed "math/bits.deBruijn64tab" = some 7 from kj).symm.trans hgt1)
 obtain rfl:=yn ((show (Tryz.prog.globals[7]?).map (·.type)=some 228 from kj).symm.trans htt1)
 refine⟨fun b hb=>?_,fun q hq=>?_⟩
 ·have:b=0\/b=1:=by simpa [globs] using hb
  rcases this with rfl | rfl
  ·exact zcp hg0 Tryz.underlying81 hv0 hd0
  ·exact zcp hg1 Tryz.underlying81 hv1 hd1
 ·simp only[gtabs,yu,y1n,y3c] at hq
  rcases hq with rfl | rfl
  ·exact zej hgt0 Tryz.underlying215 Tryz.underlying23 kj kj kj hvt0 hdt0
  ·exact zej hgt1 Tryz.underlying228 Tryz.underlying5 kj kj kj hvt1 hdt1
end Go.Proofs.YtiohhffifhaboaaGreatDoor
