/- A part of the proof: the statement out of the plain law. No condition. -/
import Derived.Test.YtbmpcbbimefmoaaGreatDoorT2
import Derived.Test.YtbmpcbbimefmoaaGreatDoorT1
import Derived.Test.YtbmpcbbimefmoaaGreatDoorRows
import Derived.LaidMore
import Derived.Lay
import Derived.LaidLaws
import Derived.Lib.LaidTab
namespace Go.Proofs.YtbmpcbbimefmoaaGreatDoor
open Go Go.TA Go.ChangeShapes Go.WideShapes Go.ChangeAt Go.RowKit
theorem Tryz.own:ownKnob Tryz.prog.godebug=none:=kj
theorem Tryz.laidOut:laidOutB Tryz.prog=true:=kj
theorem zcr {W:World} {n:String} {g t fuel:Nat} {cs:Array Value} {nm:String} {d:DataW Unit} {p:List MemPlace} {ms:Array (String×TypeId)} (hg:Tryz.prog.globalNamed n=some g) (hu:Tryz.prog.underlying t=some (.interface ms)) (hv:W.var? Tryz.prog n=some cs)
  (hd:DataW.trod (fun _=>()) Tryz.prog W 0 (fun _=>true) false fuel t cs.toList=some (.iface nm d,p)):∃ v,memOf noX [] W g=some #[v]/\errB v=true:=by
 obtain⟨f1,u,v,e,_,_⟩:=iface_of_trod hu hd
 obtain⟨cs⟩:=cs
 simp only at e
 subst e
 refine⟨.iface u v,?_,rfl⟩
 simp only[World.var?,hg,y1t] at hv
 split at hv
 ·rename_i arr e fz hb
  cases hv
  exact z1j (fun h=>h) (fun⟨o,tc,h⟩=>by simp at h) hb
 ·cases hv
theorem zei {W:World} (h:laidMetH Tryz.prog Rows.transferAnswersRow.laid W):GlobOk (memOf noX [] W):=by
 rw[MakeChecks.laidMetH_plain _ _ _ kj] at h
 obtain⟨ps,⟨_,_,_,_,_,_,_,_,_,_,⟨_,_,_,_,_,_,_,_,_,_,⟨_,_,_,_,_,_,_,_,_,_,⟨_,_,_,_,_,_,_,_,_,_,⟨g1,t1,cs1,f1,p1,q1,hg1,ht1,hv1,hd1,⟨g0,t0,cs0,f0,p0,q0,hg0,ht0,hv0,hd0,_,_⟩,_⟩,_⟩,_⟩,_⟩,_⟩,_,_⟩:=h
 obtain rfl := y15 ((show Tryz.prog.globalNamed "strconv.ErrRange" = some 3 from kj).symm.trans hg1)
 obtain rfl := y15 ((show Tryz.prog.globalNamed "strconv.ErrSyntax" = some 2 from kj).symm.trans hg0)
 obtain rfl:=y15 ((show (Tryz.prog.globals[3]?).map (·.type)=some 184 from kj).symm.trans ht1)
 obtain rfl:=y15 ((show (Tryz.prog.globals[2]?).map (·.type)=some 184 from kj).symm.trans ht0)
 refine⟨fun b hb=>?_,fun q hq=>?_⟩
 ·have:b=2\/b=3:=by simpa [globs] using hb
  rcases this with rfl | rfl
  ·exact zcr hg0 Tryz.underlying184 hv0 hd0
  ·exact zcr hg1 Tryz.underlying184 hv1 hd1
 ·exact absurd hq (by simp[gtabs])
end Go.Proofs.YtbmpcbbimefmoaaGreatDoor
