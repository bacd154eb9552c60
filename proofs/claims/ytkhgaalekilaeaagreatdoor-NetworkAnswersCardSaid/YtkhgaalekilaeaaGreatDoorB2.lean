/- A part of the proof: the statement out of the plain law. No condition. -/
import Derived.Test.YtkhgaalekilaeaaGreatDoorB1
import Derived.Test.YtkhgaalekilaeaaGreatDoorG9
import Derived.Test.YtkhgaalekilaeaaGreatDoorT9
namespace Go.Proofs.YtkhgaalekilaeaaGreatDoor
open Go Go.TA Go.ChangeShapes Go.WideShapes Go.ChangeAt Go.RowKit
section
variable {H:Type} {enc:TypeId×Value->H} {W:World} {base:Nat} {spare:Nat->Bool} {held:Bool}
theorem zx:Reads enc Tryz.prog W base spare held 3 1 (DV.i .i64) (fun n=>(Lit.int .i64 n).wf=true):=zoo Tryz.underlying3
theorem z7f:Reads enc Tryz.prog W base spare held 22 1 (eL (DV.i .i64)) (fun l=>l.length<=maxLen/\∀ n∈l,(Lit.int .i64 n).wf=true):=z4j Tryz.underlying22 kj dk zx
theorem zfi:Reads enc Tryz.prog W base spare held 9 1 DV.str (fun l=>l.length<=maxLen):=zop Tryz.underlying9
theorem zp2:Reads enc Tryz.prog W base spare held 102 7 TPo.e (fun _=>True) :=
 z35 Tryz.underlying102 kj (zl rfl kj zfi (zl rfl kj zx (zl rfl kj zx (zl rfl kj z7f (zl rfl kj z7f (zl rfl kj z7f (zl rfl kj z7f z48))))))) (by
   rintro _ ⟨a0,_,rfl,_,a1,_,rfl,_,a2,_,rfl,_,a3,_,rfl,_,a4,_,rfl,_,a5,_,rfl,_,a6,_,rfl,_,rfl⟩
   exact⟨⟨a0,a1,a2,a3,a4,a5,a6⟩,rfl,trivial⟩)
theorem zrr:Reads enc Tryz.prog W base spare held 23 1 (eL TPo.e) (fun l=>l.length<=maxLen/\∀ n∈l,True):=z4j Tryz.underlying23 kj dk zp2
theorem zfj:Reads enc Tryz.prog W base spare held 25 2 TTr.e (fun _=>True) :=
 z35 Tryz.underlying25 kj (zl rfl kj zx (zl rfl kj zrr z48)) (by
   rintro _ ⟨a0,_,rfl,_,a1,_,rfl,_,rfl⟩
   exact⟨⟨a0,a1⟩,rfl,trivial⟩)
theorem zrs:Reads enc Tryz.prog W base spare held 31 10 TOp.e (fun _=>True) :=
 z35 Tryz.underlying31 kj (zl rfl kj zx (zl rfl kj zfi (zl rfl kj zx (zl rfl kj zx (zl rfl kj zx (zl rfl kj zx (zl rfl kj zx (zl rfl kj zx (zl rfl kj zx (zl rfl kj zx z48)))))))))) (by
   rintro _ ⟨a0,_,rfl,_,a1,_,rfl,_,a2,_,rfl,_,a3,_,rfl,_,a4,_,rfl,_,a5,_,rfl,_,a6,_,rfl,_,a7,_,rfl,_,a8,_,rfl,_,a9,_,rfl,_,rfl⟩
   exact⟨⟨a0,a1,a2,a3,a4,a5,a6,a7,a8,a9⟩,rfl,trivial⟩)
theorem zrt:Reads enc Tryz.prog W base spare held 72 1 (eL TOp.e) (fun l=>l.length<=maxLen/\∀ n∈l,True):=z4j Tryz.underlying72 kj dk zrs
theorem zhn:Reads enc Tryz.prog W base spare held 74 3 TJo.e (fun _=>True) :=
 z35 Tryz.underlying74 kj (zl rfl kj zx (zl rfl kj zrt (zl rfl kj zx z48))) (by
   rintro _ ⟨a0,_,rfl,_,a1,_,rfl,_,a2,_,rfl,_,rfl⟩
   exact⟨⟨a0,a1,a2⟩,rfl,trivial⟩)
theorem zru:Reads enc Tryz.prog W base spare held 26 1 (eL TJo.e) (fun l=>l.length<=maxLen/\∀ n∈l,True):=z4j Tryz.underlying26 kj dk zhn
theorem zho:Reads enc Tryz.prog W base spare held 77 8 TMe.e (fun _=>True) :=
 z35 Tryz.underlying77 kj (zl rfl kj zx (zl rfl kj zx (zl rfl kj zfi (zl rfl kj zx (zl rfl kj zx (zl rfl kj zx (zl rfl kj zx (zl rfl kj zx z48)))))))) (by
   rintro _ ⟨a0,_,rfl,_,a1,_,rfl,_,a2,_,rfl,_,a3,_,rfl,_,a4,_,rfl,_,a5,_,rfl,_,a6,_,rfl,_,a7,_,rfl,_,rfl⟩
   exact⟨⟨a0,a1,a2,a3,a4,a5,a6,a7⟩,rfl,trivial⟩)
theorem zrv:Reads enc Tryz.prog W base spare held 27 1 (eL TMe.e) (fun l=>l.length<=maxLen/\∀ n∈l,True):=z4j Tryz.underlying27 kj dk zho
theorem zkn:Reads enc Tryz.prog W base spare held 29 4 TWo.e (fun _=>True) :=
 z35 Tryz.underlying29 kj (zl rfl kj zfj (zl rfl kj zru (zl rfl kj zrv z48))) (by
   rintro _ ⟨a0,_,rfl,_,a1,_,rfl,_,a2,_,rfl,_,rfl⟩
   exact⟨⟨a0,a1,a2⟩,rfl,trivial⟩)
theorem zdd:ReadsW enc Tryz.prog W base spare held 9 1 DV.str (fun l=>l.length<=reachBytes):=zn0 Tryz.underlying9
theorem zp3:ReadsW enc Tryz.prog W base spare held 31 10 TOp.e (fun x=>x.B.length<=reachBytes) :=
 za7 Tryz.underlying31 kj (z14 rfl kj (z1g zx) (z14 rfl kj zdd (z14 rfl kj (z1g zx) (z14 rfl kj (z1g zx) (z14 rfl kj (z1g zx) (z14 rfl kj (z1g zx) (z14 rfl kj (z1g zx) (z14 rfl kj (z1g zx) (z14 rfl kj (z1g zx) (z14 rfl kj (z1g zx) zch)))))))))) (by
   rintro _ ⟨a0,_,rfl,k0,a1,_,rfl,k1,a2,_,rfl,k2,a3,_,rfl,k3,a4,_,rfl,k4,a5,_,rfl,k5,a6,_,rfl,k6,a7,_,rfl,k7,a8,_,rfl,k8,a9,_,rfl,k9,rfl⟩
   exact⟨⟨a0,a1,a2,a3,a4,a5,a6,a7,a8,a9⟩,rfl,k1⟩)
theorem zci:ReadsW enc Tryz.prog W base spare held 33 16 TSt.e (fun x=>(x.Op.B.length<=reachBytes)/\(x.B.length<=reachBytes)) :=
 za7 Tryz.underlying33 kj (z14 rfl kj (z1g zx) (z14 rfl kj (z1g zx) (z14 rfl kj zp3 (z14 rfl kj zdd (z14 rfl kj (z1g zx) (z14 rfl kj (z1g zx) (z14 rfl kj (z1g zx) zch))))))) (by
   rintro _ ⟨a0,_,rfl,k0,a1,_,rfl,k1,a2,_,rfl,k2,a3,_,rfl,k3,a4,_,rfl,k4,a5,_,rfl,k5,a6,_,rfl,k6,rfl⟩
   exact⟨⟨a0,a1,a2,a3,a4,a5,a6⟩,rfl,k2,k3⟩)
theorem zp4:ReadsW enc Tryz.prog W base spare held 34 1 (eL TSt.e) (fun l=>∀ a∈l,(a.Op.B.length<=reachBytes)/\(a.B.length<=reachBytes)):=zhm Tryz.underlying34 kj dk zci
end
end Go.Proofs.YtkhgaalekilaeaaGreatDoor
