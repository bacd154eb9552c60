/- A part of the proof: the statement out of the plain law. No condition. -/
import Derived.Test.YtiohhffifhaboaaGreatDoorB1
import Derived.Test.YtiohhffifhaboaaGreatDoorG6
import Derived.Test.YtiohhffifhaboaaGreatDoorT10
namespace Go.Proofs.YtiohhffifhaboaaGreatDoor
open Go Go.TA Go.ChangeShapes Go.WideShapes Go.ChangeAt Go.RowKit
section
variable {H:Type} {enc:TypeId×Value->H} {W:World} {base:Nat} {spare:Nat->Bool} {held:Bool}
theorem zj:Reads enc Tryz.prog W base spare held 3 1 (DV.i .i64) (fun n=>(Lit.int .i64 n).wf=true):=zcn Tryz.underlying3
theorem zmk:Reads enc Tryz.prog W base spare held 22 1 (eL (DV.i .i64)) (fun l=>l.length<=maxLen/\∀ n∈l,(Lit.int .i64 n).wf=true):=z29 Tryz.underlying22 kj dk zj
theorem zf0:ReadsW enc Tryz.prog W base spare held 9 1 DV.str (fun l=>l.length<=reachBytes):=zis Tryz.underlying9
theorem z5m:Reads enc Tryz.prog W base spare held 23 1 (DV.i .u64) (fun n=>(Lit.int .u64 n).wf=true):=zcn Tryz.underlying23
theorem zby:ReadsW enc Tryz.prog W base spare held 29 14 TWa.e (fun x=>(x.J.length<=reachBytes)/\((Lit.int .u64 x.V).wf=true)/\((Lit.int .u64 x.U).wf=true)) :=
 zdl Tryz.underlying29 kj (z11 rfl kj (z1d zj) (z11 rfl kj (z1d zj) (z11 rfl kj zf0 (z11 rfl kj (z1d zj) (z11 rfl kj (z1d zj) (z11 rfl kj (z1d zj) (z11 rfl kj (z1d zj) (z11 rfl kj (z1d zj) (z11 rfl kj (z1d zj) (z11 rfl kj (z1d zj) (z11 rfl kj (z1d zj) (z11 rfl kj (z1d zj) (z11 rfl kj (z1d z5m) (z11 rfl kj (z1d z5m) zgd)))))))))))))) (by
   rintro _ ⟨a0,_,rfl,k0,a1,_,rfl,k1,a2,_,rfl,k2,a3,_,rfl,k3,a4,_,rfl,k4,a5,_,rfl,k5,a6,_,rfl,k6,a7,_,rfl,k7,a8,_,rfl,k8,a9,_,rfl,k9,a10,_,rfl,k10,a11,_,rfl,k11,a12,_,rfl,k12,a13,_,rfl,k13,rfl⟩
   exact⟨⟨a0,a1,a2,a3,a4,a5,a6,a7,a8,a9,a10,a11,a12,a13⟩,rfl,k2,k12,k13⟩)
theorem zbz:Reads enc Tryz.prog W base spare held 9 1 DV.str (fun l=>l.length<=maxLen):=zka Tryz.underlying9
theorem zge:Reads enc Tryz.prog W base spare held 88 5 TRi.e (fun _=>True) :=
 z22 Tryz.underlying88 kj (za rfl kj zbz (za rfl kj zj (za rfl kj zj (za rfl kj zj (za rfl kj zj z2l))))) (by
   rintro _ ⟨a0,_,rfl,_,a1,_,rfl,_,a2,_,rfl,_,a3,_,rfl,_,a4,_,rfl,_,rfl⟩
   exact⟨⟨a0,a1,a2,a3,a4⟩,rfl,trivial⟩)
theorem zml:Reads enc Tryz.prog W base spare held 39 1 (eL TRi.e) (fun l=>l.length<=maxLen/\∀ n∈l,True):=z29 Tryz.underlying39 kj dk zge
theorem z9f:Reads enc Tryz.prog W base spare held 90 6 TRe.e (fun _=>True) :=
 z22 Tryz.underlying90 kj (za rfl kj zj (za rfl kj zbz (za rfl kj zj (za rfl kj zj (za rfl kj zj (za rfl kj zj z2l)))))) (by
   rintro _ ⟨a0,_,rfl,_,a1,_,rfl,_,a2,_,rfl,_,a3,_,rfl,_,a4,_,rfl,_,a5,_,rfl,_,rfl⟩
   exact⟨⟨a0,a1,a2,a3,a4,a5⟩,rfl,trivial⟩)
theorem zmm:Reads enc Tryz.prog W base spare held 40 1 (eL TRe.e) (fun l=>l.length<=maxLen/\∀ n∈l,True):=z29 Tryz.underlying40 kj dk z9f
theorem zaf:Reads enc Tryz.prog W base spare held 92 7 TCo.e (fun _=>True) :=
 z22 Tryz.underlying92 kj (za rfl kj zj (za rfl kj zj (za rfl kj zj (za rfl kj zj (za rfl kj zj (za rfl kj zj (za rfl kj zj z2l))))))) (by
   rintro _ ⟨a0,_,rfl,_,a1,_,rfl,_,a2,_,rfl,_,a3,_,rfl,_,a4,_,rfl,_,a5,_,rfl,_,a6,_,rfl,_,rfl⟩
   exact⟨⟨a0,a1,a2,a3,a4,a5,a6⟩,rfl,trivial⟩)
theorem zmn:Reads enc Tryz.prog W base spare held 41 1 (eL TCo.e) (fun l=>l.length<=maxLen/\∀ n∈l,True):=z29 Tryz.underlying41 kj dk zaf
theorem z8g:Reads enc Tryz.prog W base spare held 94 4 TVe.e (fun _=>True) :=
 z22 Tryz.underlying94 kj (za rfl kj zj (za rfl kj zj (za rfl kj zj (za rfl kj zj z2l)))) (by
   rintro _ ⟨a0,_,rfl,_,a1,_,rfl,_,a2,_,rfl,_,a3,_,rfl,_,rfl⟩
   exact⟨⟨a0,a1,a2,a3⟩,rfl,trivial⟩)
theorem zmo:Reads enc Tryz.prog W base spare held 42 1 (eL TVe.e) (fun l=>l.length<=maxLen/\∀ n∈l,True):=z29 Tryz.underlying42 kj dk z8g
theorem zoi:Reads enc Tryz.prog W base spare held 4 1 DV.b (fun _=>True):=zif Tryz.underlying4
theorem zgf:Reads enc Tryz.prog W base spare held 96 5 TOr.e (fun _=>True) :=
 z22 Tryz.underlying96 kj (za rfl kj zj (za rfl kj zj (za rfl kj zj (za rfl kj zj (za rfl kj zoi z2l))))) (by
   rintro _ ⟨a0,_,rfl,_,a1,_,rfl,_,a2,_,rfl,_,a3,_,rfl,_,a4,_,rfl,_,rfl⟩
   exact⟨⟨a0,a1,a2,a3,a4⟩,rfl,trivial⟩)
theorem zmp:Reads enc Tryz.prog W base spare held 43 1 (eL TOr.e) (fun l=>l.length<=maxLen/\∀ n∈l,True):=z29 Tryz.underlying43 kj dk zgf
theorem zit:Reads enc Tryz.prog W base spare held 45 4 TBo.e (fun _=>True) :=
 z22 Tryz.underlying45 kj (za rfl kj zmm (za rfl kj zmn (za rfl kj zmo (za rfl kj zmp z2l)))) (by
   rintro _ ⟨a0,_,rfl,_,a1,_,rfl,_,a2,_,rfl,_,a3,_,rfl,_,rfl⟩
   exact⟨⟨a0,a1,a2,a3⟩,rfl,trivial⟩)
theorem zf1:Reads enc Tryz.prog W base spare held 47 6 TOf.e (fun _=>True) :=
 z22 Tryz.underlying47 kj (za rfl kj zj (za rfl kj zml (za rfl kj zit z2l))) (by
   rintro _ ⟨a0,_,rfl,_,a1,_,rfl,_,a2,_,rfl,_,rfl⟩
   exact⟨⟨a0,a1,a2⟩,rfl,trivial⟩)
theorem zmq:Reads enc Tryz.prog W base spare held 26 1 (eL (DV.i .u64)) (fun l=>l.length<=maxLen/\∀ n∈l,(Lit.int .u64 n).wf=true):=z29 Tryz.underlying26 kj dk z5m
theorem zdm:Reads enc Tryz.prog W base spare held 29 14 TWa.e (fun _=>True) :=
 z22 Tryz.underlying29 kj (za rfl kj zj (za rfl kj zj (za rfl kj zbz (za rfl kj zj (za rfl kj zj (za rfl kj zj (za rfl kj zj (za rfl kj zj (za rfl kj zj (za rfl kj zj (za rfl kj zj (za rfl kj zj (za rfl kj z5m (za rfl kj z5m z2l)))))))))))))) (by
   rintro _ ⟨a0,_,rfl,_,a1,_,rfl,_,a2,_,rfl,_,a3,_,rfl,_,a4,_,rfl,_,a5,_,rfl,_,a6,_,rfl,_,a7,_,rfl,_,a8,_,rfl,_,a9,_,rfl,_,a10,_,rfl,_,a11,_,rfl,_,a12,_,rfl,_,a13,_,rfl,_,rfl⟩
   exact⟨⟨a0,a1,a2,a3,a4,a5,a6,a7,a8,a9,a10,a11,a12,a13⟩,rfl,trivial⟩)
theorem zkq:ReadsW enc Tryz.prog W base spare held 48 1 (eL TWa.e) (fun l=>l.length * 120<=reachBytes):=zey Tryz.underlying48 kj dk kj zdm
end
end Go.Proofs.YtiohhffifhaboaaGreatDoor
