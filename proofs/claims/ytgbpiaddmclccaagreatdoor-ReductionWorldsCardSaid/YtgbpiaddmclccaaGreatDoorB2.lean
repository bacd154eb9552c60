/- A part of the proof: the statement out of the plain law. No condition. -/
import Derived.Test.YtgbpiaddmclccaaGreatDoorB1
import Derived.Test.YtgbpiaddmclccaaGreatDoorG7
import Derived.Test.YtgbpiaddmclccaaGreatDoorT8
namespace Go.Proofs.YtgbpiaddmclccaaGreatDoor
open Go Go.TA Go.ChangeShapes Go.WideShapes Go.ChangeAt Go.RowKit
section
variable {H:Type} {enc:TypeId×Value->H} {W:World} {base:Nat} {spare:Nat->Bool} {held:Bool}
theorem z1d:Reads enc Tryz.prog W base spare held 3 1 (DV.i .i64) (fun n=>(Lit.int .i64 n).wf=true):=zok Tryz.underlying3
theorem z7e:Reads enc Tryz.prog W base spare held 22 1 (eL (DV.i .i64)) (fun l=>l.length<=maxLen/\∀ n∈l,(Lit.int .i64 n).wf=true):=z4a Tryz.underlying22 kj dk z1d
theorem zfe:Reads enc Tryz.prog W base spare held 9 1 DV.str (fun l=>l.length<=maxLen):=zol Tryz.underlying9
theorem zoy:Reads enc Tryz.prog W base spare held 53 7 TPo.e (fun _=>True) :=
 z2z Tryz.underlying53 kj (zi rfl kj zfe (zi rfl kj z1d (zi rfl kj z1d (zi rfl kj z7e (zi rfl kj z7e (zi rfl kj z7e (zi rfl kj z7e z42))))))) (by
   rintro _ ⟨a0,_,rfl,_,a1,_,rfl,_,a2,_,rfl,_,a3,_,rfl,_,a4,_,rfl,_,a5,_,rfl,_,a6,_,rfl,_,rfl⟩
   exact⟨⟨a0,a1,a2,a3,a4,a5,a6⟩,rfl,trivial⟩)
theorem zrj:Reads enc Tryz.prog W base spare held 23 1 (eL TPo.e) (fun l=>l.length<=maxLen/\∀ n∈l,True):=z4a Tryz.underlying23 kj dk zoy
theorem zff:Reads enc Tryz.prog W base spare held 25 2 TTr.e (fun _=>True) :=
 z2z Tryz.underlying25 kj (zi rfl kj z1d (zi rfl kj zrj z42)) (by
   rintro _ ⟨a0,_,rfl,_,a1,_,rfl,_,rfl⟩
   exact⟨⟨a0,a1⟩,rfl,trivial⟩)
theorem zrk:Reads enc Tryz.prog W base spare held 66 10 TOp.e (fun _=>True) :=
 z2z Tryz.underlying66 kj (zi rfl kj z1d (zi rfl kj zfe (zi rfl kj z1d (zi rfl kj z1d (zi rfl kj z1d (zi rfl kj z1d (zi rfl kj z1d (zi rfl kj z1d (zi rfl kj z1d (zi rfl kj z1d z42)))))))))) (by
   rintro _ ⟨a0,_,rfl,_,a1,_,rfl,_,a2,_,rfl,_,a3,_,rfl,_,a4,_,rfl,_,a5,_,rfl,_,a6,_,rfl,_,a7,_,rfl,_,a8,_,rfl,_,a9,_,rfl,_,rfl⟩
   exact⟨⟨a0,a1,a2,a3,a4,a5,a6,a7,a8,a9⟩,rfl,trivial⟩)
theorem zrl:Reads enc Tryz.prog W base spare held 45 1 (eL TOp.e) (fun l=>l.length<=maxLen/\∀ n∈l,True):=z4a Tryz.underlying45 kj dk zrk
theorem zhj:Reads enc Tryz.prog W base spare held 47 3 TJo.e (fun _=>True) :=
 z2z Tryz.underlying47 kj (zi rfl kj z1d (zi rfl kj zrl (zi rfl kj z1d z42))) (by
   rintro _ ⟨a0,_,rfl,_,a1,_,rfl,_,a2,_,rfl,_,rfl⟩
   exact⟨⟨a0,a1,a2⟩,rfl,trivial⟩)
theorem zrm:Reads enc Tryz.prog W base spare held 26 1 (eL TJo.e) (fun l=>l.length<=maxLen/\∀ n∈l,True):=z4a Tryz.underlying26 kj dk zhj
theorem zhk:Reads enc Tryz.prog W base spare held 50 8 TMe.e (fun _=>True) :=
 z2z Tryz.underlying50 kj (zi rfl kj z1d (zi rfl kj z1d (zi rfl kj zfe (zi rfl kj z1d (zi rfl kj z1d (zi rfl kj z1d (zi rfl kj z1d (zi rfl kj z1d z42)))))))) (by
   rintro _ ⟨a0,_,rfl,_,a1,_,rfl,_,a2,_,rfl,_,a3,_,rfl,_,a4,_,rfl,_,a5,_,rfl,_,a6,_,rfl,_,a7,_,rfl,_,rfl⟩
   exact⟨⟨a0,a1,a2,a3,a4,a5,a6,a7⟩,rfl,trivial⟩)
theorem zrn:Reads enc Tryz.prog W base spare held 27 1 (eL TMe.e) (fun l=>l.length<=maxLen/\∀ n∈l,True):=z4a Tryz.underlying27 kj dk zhk
theorem zkk:Reads enc Tryz.prog W base spare held 29 4 TWo.e (fun _=>True) :=
 z2z Tryz.underlying29 kj (zi rfl kj zff (zi rfl kj zrm (zi rfl kj zrn z42))) (by
   rintro _ ⟨a0,_,rfl,_,a1,_,rfl,_,a2,_,rfl,_,rfl⟩
   exact⟨⟨a0,a1,a2⟩,rfl,trivial⟩)
theorem zro:ReadsW enc Tryz.prog W base spare held 9 1 DV.str (fun l=>l.length<=reachBytes):=zmu Tryz.underlying9
end
end Go.Proofs.YtgbpiaddmclccaaGreatDoor
