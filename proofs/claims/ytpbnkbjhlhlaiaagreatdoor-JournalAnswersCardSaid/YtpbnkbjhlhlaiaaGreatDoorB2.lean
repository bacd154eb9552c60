/- A part of the proof: the statement out of the plain law. No condition. -/
import Derived.Test.YtpbnkbjhlhlaiaaGreatDoorB1
import Derived.Test.YtpbnkbjhlhlaiaaGreatDoorG7
import Derived.Test.YtpbnkbjhlhlaiaaGreatDoorT10
namespace Go.Proofs.YtpbnkbjhlhlaiaaGreatDoor
open Go Go.TA Go.ChangeShapes Go.WideShapes Go.ChangeAt Go.RowKit
section
variable {H:Type} {enc:TypeId×Value->H} {W:World} {base:Nat} {spare:Nat->Bool} {held:Bool}
theorem z12:Reads enc Tryz.prog W base spare held 3 1 (DV.i .i64) (fun n=>(Lit.int .i64 n).wf=true):=zmb Tryz.underlying3
theorem zou:Reads enc Tryz.prog W base spare held 22 1 (eL (DV.i .i64)) (fun l=>l.length<=maxLen/\∀ n∈l,(Lit.int .i64 n).wf=true):=zbi Tryz.underlying22 kj dk z12
theorem zgz:ReadsW enc Tryz.prog W base spare held 9 1 DV.str (fun l=>l.length<=reachBytes):=zkk Tryz.underlying9
theorem zmr:ReadsW enc Tryz.prog W base spare held 24 10 TOp.e (fun x=>x.E.length<=reachBytes) :=
 zfl Tryz.underlying24 kj (z1d rfl kj (z29 z12) (z1d rfl kj zgz (z1d rfl kj (z29 z12) (z1d rfl kj (z29 z12) (z1d rfl kj (z29 z12) (z1d rfl kj (z29 z12) (z1d rfl kj (z29 z12) (z1d rfl kj (z29 z12) (z1d rfl kj (z29 z12) (z1d rfl kj (z29 z12) zif)))))))))) (by
   rintro _ ⟨a0,_,rfl,k0,a1,_,rfl,k1,a2,_,rfl,k2,a3,_,rfl,k3,a4,_,rfl,k4,a5,_,rfl,k5,a6,_,rfl,k6,a7,_,rfl,k7,a8,_,rfl,k8,a9,_,rfl,k9,rfl⟩
   exact⟨⟨a0,a1,a2,a3,a4,a5,a6,a7,a8,a9⟩,rfl,k1⟩)
theorem zqq:Reads enc Tryz.prog W base spare held 9 1 DV.str (fun l=>l.length<=maxLen):=zmc Tryz.underlying9
theorem zov:Reads enc Tryz.prog W base spare held 24 10 TOp.e (fun _=>True) :=
 z9q Tryz.underlying24 kj (z11 rfl kj z12 (z11 rfl kj zqq (z11 rfl kj z12 (z11 rfl kj z12 (z11 rfl kj z12 (z11 rfl kj z12 (z11 rfl kj z12 (z11 rfl kj z12 (z11 rfl kj z12 (z11 rfl kj z12 zcu)))))))))) (by
   rintro _ ⟨a0,_,rfl,_,a1,_,rfl,_,a2,_,rfl,_,a3,_,rfl,_,a4,_,rfl,_,a5,_,rfl,_,a6,_,rfl,_,a7,_,rfl,_,a8,_,rfl,_,a9,_,rfl,_,rfl⟩
   exact⟨⟨a0,a1,a2,a3,a4,a5,a6,a7,a8,a9⟩,rfl,trivial⟩)
theorem zow:Reads enc Tryz.prog W base spare held 28 1 (eL TOp.e) (fun l=>l.length<=maxLen/\∀ n∈l,True):=zbi Tryz.underlying28 kj dk zov
theorem zrn:Reads enc Tryz.prog W base spare held 30 3 TJo.e (fun _=>True) :=
 z9q Tryz.underlying30 kj (z11 rfl kj z12 (z11 rfl kj zow (z11 rfl kj z12 zcu))) (by
   rintro _ ⟨a0,_,rfl,_,a1,_,rfl,_,a2,_,rfl,_,rfl⟩
   exact⟨⟨a0,a1,a2⟩,rfl,trivial⟩)
end
end Go.Proofs.YtpbnkbjhlhlaiaaGreatDoor
