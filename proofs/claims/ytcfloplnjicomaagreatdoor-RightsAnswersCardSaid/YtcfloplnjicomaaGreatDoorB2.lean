/- A part of the proof: the statement out of the plain law. No condition. -/
import Derived.Test.YtcfloplnjicomaaGreatDoorB1
import Derived.Test.YtcfloplnjicomaaGreatDoorG6
import Derived.Test.YtcfloplnjicomaaGreatDoorT7
namespace Go.Proofs.YtcfloplnjicomaaGreatDoor
open Go Go.TA Go.ChangeShapes Go.WideShapes Go.ChangeAt Go.RowKit
section
variable {H:Type} {enc:TypeId×Value->H} {W:World} {base:Nat} {spare:Nat->Bool} {held:Bool}
theorem z19:Reads enc Tryz.prog W base spare held 3 1 (DV.i .i64) (fun n=>(Lit.int .i64 n).wf=true):=zfl Tryz.underlying3
theorem z1y:Reads enc Tryz.prog W base spare held 22 1 (eL (DV.i .i64)) (fun l=>l.length<=maxLen/\∀ n∈l,(Lit.int .i64 n).wf=true):=z8h Tryz.underlying22 kj dk z19
theorem zik:Reads enc Tryz.prog W base spare held 9 1 DV.str (fun l=>l.length<=maxLen):=zfm Tryz.underlying9
theorem zfy:Reads enc Tryz.prog W base spare held 27 7 TPo.e (fun _=>True) :=
 z74 Tryz.underlying27 kj (z1k rfl kj zik (z1k rfl kj z19 (z1k rfl kj z19 (z1k rfl kj z1y (z1k rfl kj z1y (z1k rfl kj z1y (z1k rfl kj z1y z9h))))))) (by
   rintro _ ⟨a0,_,rfl,_,a1,_,rfl,_,a2,_,rfl,_,a3,_,rfl,_,a4,_,rfl,_,a5,_,rfl,_,a6,_,rfl,_,rfl⟩
   exact⟨⟨a0,a1,a2,a3,a4,a5,a6⟩,rfl,trivial⟩)
theorem zh7:Reads enc Tryz.prog W base spare held 23 1 (eL TPo.e) (fun l=>l.length<=maxLen/\∀ n∈l,True):=z8h Tryz.underlying23 kj dk zfy
theorem zak:Reads enc Tryz.prog W base spare held 25 2 TTr.e (fun _=>True) :=
 z74 Tryz.underlying25 kj (z1k rfl kj z19 (z1k rfl kj zh7 z9h)) (by
   rintro _ ⟨a0,_,rfl,_,a1,_,rfl,_,rfl⟩
   exact⟨⟨a0,a1⟩,rfl,trivial⟩)
theorem z6l:ReadsW enc Tryz.prog W base spare held 9 1 DV.str (fun l=>l.length<=reachBytes):=zei Tryz.underlying9
theorem zej:ReadsW enc Tryz.prog W base spare held 27 7 TPo.e (fun x=>x.F.length<=reachBytes) :=
 z4d Tryz.underlying27 kj (zi rfl kj z6l (zi rfl kj (zr z19) (zi rfl kj (zr z19) (zi rfl kj (zr z1y) (zi rfl kj (zr z1y) (zi rfl kj (zr z1y) (zi rfl kj (zr z1y) z5y))))))) (by
   rintro _ ⟨a0,_,rfl,k0,a1,_,rfl,k1,a2,_,rfl,k2,a3,_,rfl,k3,a4,_,rfl,k4,a5,_,rfl,k5,a6,_,rfl,k6,rfl⟩
   exact⟨⟨a0,a1,a2,a3,a4,a5,a6⟩,rfl,k0⟩)
theorem zcm:ReadsW enc Tryz.prog W base spare held 29 5 TRi.e (fun x=>x.F.length<=reachBytes) :=
 z4d Tryz.underlying29 kj (zi rfl kj z6l (zi rfl kj (zr z19) (zi rfl kj (zr z19) (zi rfl kj (zr z19) (zi rfl kj (zr z19) z5y))))) (by
   rintro _ ⟨a0,_,rfl,k0,a1,_,rfl,k1,a2,_,rfl,k2,a3,_,rfl,k3,a4,_,rfl,k4,rfl⟩
   exact⟨⟨a0,a1,a2,a3,a4⟩,rfl,k0⟩)
theorem zal:ReadsW enc Tryz.prog W base spare held 31 8 TMe.e (fun x=>x.F.length<=reachBytes) :=
 z4d Tryz.underlying31 kj (zi rfl kj (zr z19) (zi rfl kj (zr z19) (zi rfl kj z6l (zi rfl kj (zr z19) (zi rfl kj (zr z19) (zi rfl kj (zr z19) (zi rfl kj (zr z19) (zi rfl kj (zr z19) z5y)))))))) (by
   rintro _ ⟨a0,_,rfl,k0,a1,_,rfl,k1,a2,_,rfl,k2,a3,_,rfl,k3,a4,_,rfl,k4,a5,_,rfl,k5,a6,_,rfl,k6,a7,_,rfl,k7,rfl⟩
   exact⟨⟨a0,a1,a2,a3,a4,a5,a6,a7⟩,rfl,k2⟩)
end
end Go.Proofs.YtcfloplnjicomaaGreatDoor
