/- A part of the proof: the statement out of the plain law. No condition. -/
import Derived.Test.YtclaojamgomjbaaGreatDoorB1
import Derived.Test.YtclaojamgomjbaaGreatDoorG6
import Derived.Test.YtclaojamgomjbaaGreatDoorT8
namespace Go.Proofs.YtclaojamgomjbaaGreatDoor
open Go Go.TA Go.ChangeShapes Go.WideShapes Go.ChangeAt Go.RowKit
section
variable {H:Type} {enc:TypeId×Value→H} {W:World} {base:Nat} {spare:Nat→Bool} {held:Bool}
theorem zo:Reads enc Tryz.prog W base spare held 3 1 (DV.i .i64) (fun n=>(Lit.int .i64 n).wf=true):=z7v Tryz.underlying3
theorem z5e:Reads enc Tryz.prog W base spare held 22 1 (eL (DV.i .i64)) (fun l=>l.length≤maxLen∧∀ n∈l,(Lit.int .i64 n).wf=true):=z1t Tryz.underlying22 (by kernel_rfl) (by decide) zo
theorem zel:ReadsW enc Tryz.prog W base spare held 9 1 DV.str (fun l=>l.length≤reachBytes):=zi2 Tryz.underlying9
theorem z5f:Reads enc Tryz.prog W base spare held 41 1 (DV.i .u64) (fun n=>(Lit.int .u64 n).wf=true):=z7v Tryz.underlying41
theorem zbq:ReadsW enc Tryz.prog W base spare held 43 14 TWa.e (fun x=>x.Code.length≤reachBytes) :=
 z7h Tryz.underlying43 (by kernel_rfl) (zq rfl (by kernel_rfl) (zw zo) (zq rfl (by kernel_rfl) (zw zo) (zq rfl (by kernel_rfl) zel (zq rfl (by kernel_rfl) (zw zo) (zq rfl (by kernel_rfl) (zw zo) (zq rfl (by kernel_rfl) (zw zo) (zq rfl (by kernel_rfl) (zw zo) (zq rfl (by kernel_rfl) (zw zo) (zq rfl (by kernel_rfl) (zw zo) (zq rfl (by kernel_rfl) (zw zo) (zq rfl (by kernel_rfl) (zw zo) (zq rfl (by kernel_rfl) (zw zo) (zq rfl (by kernel_rfl) (zw z5f) (zq rfl (by kernel_rfl) (zw z5f) z9n)))))))))))))) (by
   rintro _ ⟨a0,_,rfl,k0,a1,_,rfl,k1,a2,_,rfl,k2,a3,_,rfl,k3,a4,_,rfl,k4,a5,_,rfl,k5,a6,_,rfl,k6,a7,_,rfl,k7,a8,_,rfl,k8,a9,_,rfl,k9,a10,_,rfl,k10,a11,_,rfl,k11,a12,_,rfl,k12,a13,_,rfl,k13,rfl⟩
   exact⟨⟨a0,a1,a2,a3,a4,a5,a6,a7,a8,a9,a10,a11,a12,a13⟩,rfl,k2⟩)
theorem zbr:Reads enc Tryz.prog W base spare held 9 1 DV.str (fun l=>l.length≤maxLen):=zjs Tryz.underlying9
theorem zg0:Reads enc Tryz.prog W base spare held 115 5 TRi.e (fun _=>True) :=
 z1n Tryz.underlying115 (by kernel_rfl) (ze rfl (by kernel_rfl) zbr (ze rfl (by kernel_rfl) zo (ze rfl (by kernel_rfl) zo (ze rfl (by kernel_rfl) zo (ze rfl (by kernel_rfl) zo z26))))) (by
   rintro _ ⟨a0,_,rfl,_,a1,_,rfl,_,a2,_,rfl,_,a3,_,rfl,_,a4,_,rfl,_,rfl⟩
   exact⟨⟨a0,a1,a2,a3,a4⟩,rfl,trivial⟩)
theorem zlp:Reads enc Tryz.prog W base spare held 26 1 (eL TRi.e) (fun l=>l.length≤maxLen∧∀ n∈l,True):=z1t Tryz.underlying26 (by kernel_rfl) (by decide) zg0
theorem z9c:Reads enc Tryz.prog W base spare held 89 6 TRe.e (fun _=>True) :=
 z1n Tryz.underlying89 (by kernel_rfl) (ze rfl (by kernel_rfl) zo (ze rfl (by kernel_rfl) zbr (ze rfl (by kernel_rfl) zo (ze rfl (by kernel_rfl) zo (ze rfl (by kernel_rfl) zo (ze rfl (by kernel_rfl) zo z26)))))) (by
   rintro _ ⟨a0,_,rfl,_,a1,_,rfl,_,a2,_,rfl,_,a3,_,rfl,_,a4,_,rfl,_,a5,_,rfl,_,rfl⟩
   exact⟨⟨a0,a1,a2,a3,a4,a5⟩,rfl,trivial⟩)
theorem zlq:Reads enc Tryz.prog W base spare held 27 1 (eL TRe.e) (fun l=>l.length≤maxLen∧∀ n∈l,True):=z1t Tryz.underlying27 (by kernel_rfl) (by decide) z9c
theorem zaa:Reads enc Tryz.prog W base spare held 91 7 TCo.e (fun _=>True) :=
 z1n Tryz.underlying91 (by kernel_rfl) (ze rfl (by kernel_rfl) zo (ze rfl (by kernel_rfl) zo (ze rfl (by kernel_rfl) zo (ze rfl (by kernel_rfl) zo (ze rfl (by kernel_rfl) zo (ze rfl (by kernel_rfl) zo (ze rfl (by kernel_rfl) zo z26))))))) (by
   rintro _ ⟨a0,_,rfl,_,a1,_,rfl,_,a2,_,rfl,_,a3,_,rfl,_,a4,_,rfl,_,a5,_,rfl,_,a6,_,rfl,_,rfl⟩
   exact⟨⟨a0,a1,a2,a3,a4,a5,a6⟩,rfl,trivial⟩)
theorem zlr:Reads enc Tryz.prog W base spare held 28 1 (eL TCo.e) (fun l=>l.length≤maxLen∧∀ n∈l,True):=z1t Tryz.underlying28 (by kernel_rfl) (by decide) zaa
theorem z81:Reads enc Tryz.prog W base spare held 81 4 TVe.e (fun _=>True) :=
 z1n Tryz.underlying81 (by kernel_rfl) (ze rfl (by kernel_rfl) zo (ze rfl (by kernel_rfl) zo (ze rfl (by kernel_rfl) zo (ze rfl (by kernel_rfl) zo z26)))) (by
   rintro _ ⟨a0,_,rfl,_,a1,_,rfl,_,a2,_,rfl,_,a3,_,rfl,_,rfl⟩
   exact⟨⟨a0,a1,a2,a3⟩,rfl,trivial⟩)
theorem zls:Reads enc Tryz.prog W base spare held 29 1 (eL TVe.e) (fun l=>l.length≤maxLen∧∀ n∈l,True):=z1t Tryz.underlying29 (by kernel_rfl) (by decide) z81
theorem znf:Reads enc Tryz.prog W base spare held 4 1 DV.b (fun _=>True):=zhv Tryz.underlying4
theorem zg1:Reads enc Tryz.prog W base spare held 93 5 TOr.e (fun _=>True) :=
 z1n Tryz.underlying93 (by kernel_rfl) (ze rfl (by kernel_rfl) zo (ze rfl (by kernel_rfl) zo (ze rfl (by kernel_rfl) zo (ze rfl (by kernel_rfl) zo (ze rfl (by kernel_rfl) znf z26))))) (by
   rintro _ ⟨a0,_,rfl,_,a1,_,rfl,_,a2,_,rfl,_,a3,_,rfl,_,a4,_,rfl,_,rfl⟩
   exact⟨⟨a0,a1,a2,a3,a4⟩,rfl,trivial⟩)
theorem zlt:Reads enc Tryz.prog W base spare held 30 1 (eL TOr.e) (fun l=>l.length≤maxLen∧∀ n∈l,True):=z1t Tryz.underlying30 (by kernel_rfl) (by decide) zg1
theorem zi3:Reads enc Tryz.prog W base spare held 32 4 TBo.e (fun _=>True) :=
 z1n Tryz.underlying32 (by kernel_rfl) (ze rfl (by kernel_rfl) zlq (ze rfl (by kernel_rfl) zlr (ze rfl (by kernel_rfl) zls (ze rfl (by kernel_rfl) zlt z26)))) (by
   rintro _ ⟨a0,_,rfl,_,a1,_,rfl,_,a2,_,rfl,_,a3,_,rfl,_,rfl⟩
   exact⟨⟨a0,a1,a2,a3⟩,rfl,trivial⟩)
theorem zem:Reads enc Tryz.prog W base spare held 34 6 TOf.e (fun _=>True) :=
 z1n Tryz.underlying34 (by kernel_rfl) (ze rfl (by kernel_rfl) zo (ze rfl (by kernel_rfl) zlp (ze rfl (by kernel_rfl) zi3 z26))) (by
   rintro _ ⟨a0,_,rfl,_,a1,_,rfl,_,a2,_,rfl,_,rfl⟩
   exact⟨⟨a0,a1,a2⟩,rfl,trivial⟩)
theorem zlu:Reads enc Tryz.prog W base spare held 25 1 (eL (DV.i .u64)) (fun l=>l.length≤maxLen∧∀ n∈l,(Lit.int .u64 n).wf=true):=z1t Tryz.underlying25 (by kernel_rfl) (by decide) z5f
theorem zi4:ReadsW enc Tryz.prog W base spare held 36 7 TPo.e (fun x=>x.Code.length≤reachBytes) :=
 z7h Tryz.underlying36 (by kernel_rfl) (zq rfl (by kernel_rfl) zel (zq rfl (by kernel_rfl) (zw zo) (zq rfl (by kernel_rfl) (zw zo) (zq rfl (by kernel_rfl) (zw z5e) (zq rfl (by kernel_rfl) (zw z5e) (zq rfl (by kernel_rfl) (zw z5e) (zq rfl (by kernel_rfl) (zw z5e) z9n))))))) (by
   rintro _ ⟨a0,_,rfl,k0,a1,_,rfl,k1,a2,_,rfl,k2,a3,_,rfl,k3,a4,_,rfl,k4,a5,_,rfl,k5,a6,_,rfl,k6,rfl⟩
   exact⟨⟨a0,a1,a2,a3,a4,a5,a6⟩,rfl,k0⟩)
theorem zdd:Reads enc Tryz.prog W base spare held 43 14 TWa.e (fun _=>True) :=
 z1n Tryz.underlying43 (by kernel_rfl) (ze rfl (by kernel_rfl) zo (ze rfl (by kernel_rfl) zo (ze rfl (by kernel_rfl) zbr (ze rfl (by kernel_rfl) zo (ze rfl (by kernel_rfl) zo (ze rfl (by kernel_rfl) zo (ze rfl (by kernel_rfl) zo (ze rfl (by kernel_rfl) zo (ze rfl (by kernel_rfl) zo (ze rfl (by kernel_rfl) zo (ze rfl (by kernel_rfl) zo (ze rfl (by kernel_rfl) zo (ze rfl (by kernel_rfl) z5f (ze rfl (by kernel_rfl) z5f z26)))))))))))))) (by
   rintro _ ⟨a0,_,rfl,_,a1,_,rfl,_,a2,_,rfl,_,a3,_,rfl,_,a4,_,rfl,_,a5,_,rfl,_,a6,_,rfl,_,a7,_,rfl,_,a8,_,rfl,_,a9,_,rfl,_,a10,_,rfl,_,a11,_,rfl,_,a12,_,rfl,_,a13,_,rfl,_,rfl⟩
   exact⟨⟨a0,a1,a2,a3,a4,a5,a6,a7,a8,a9,a10,a11,a12,a13⟩,rfl,trivial⟩)
theorem zk5:ReadsW enc Tryz.prog W base spare held 37 1 (eL TWa.e) (fun l=>l.length * 120≤reachBytes):=zek Tryz.underlying37 (by kernel_rfl) (by decide) (by kernel_rfl) zdd
theorem zlv:Reads enc Tryz.prog W base spare held 46 1 (DV.i .i64) (fun n=>(Lit.int .i64 n).wf=true):=z7v Tryz.underlying46
theorem zg2:Reads enc Tryz.prog W base spare held 97 2 TCh.e (fun _=>True) :=
 z1n Tryz.underlying97 (by kernel_rfl) (ze rfl (by kernel_rfl) zo (ze rfl (by kernel_rfl) zlv z26)) (by
   rintro _ ⟨a0,_,rfl,_,a1,_,rfl,_,rfl⟩
   exact⟨⟨a0,a1⟩,rfl,trivial⟩)
theorem zlw:Reads enc Tryz.prog W base spare held 48 1 (eL TCh.e) (fun l=>l.length≤maxLen∧∀ n∈l,True):=z1t Tryz.underlying48 (by kernel_rfl) (by decide) zg2
end
end Go.Proofs.YtclaojamgomjbaaGreatDoor
