/- A part of the proof: the statement out of the plain law. No condition. -/
import Derived.Test.YtbmpcbbimefmoaaGreatDoorB1
import Derived.Test.YtbmpcbbimefmoaaGreatDoorG5
import Derived.Test.YtbmpcbbimefmoaaGreatDoorT6
namespace Go.Proofs.YtbmpcbbimefmoaaGreatDoor
open Go Go.TA Go.ChangeShapes Go.WideShapes Go.ChangeAt Go.RowKit
section
variable {H:Type} {enc:TypeId×Value->H} {W:World} {base:Nat} {spare:Nat->Bool} {held:Bool}
theorem z11:Reads enc Tryz.prog W base spare held 3 1 (DV.i .i64) (fun n=>(Lit.int .i64 n).wf=true):=zj6 Tryz.underlying3
theorem zl9:Reads enc Tryz.prog W base spare held 22 1 (eL (DV.i .i64)) (fun l=>l.length<=maxLen/\∀ n∈l,(Lit.int .i64 n).wf=true):=z4z Tryz.underlying22 kj dk z11
theorem z6y:Reads enc Tryz.prog W base spare held 9 1 DV.str (fun l=>l.length<=maxLen):=zj7 Tryz.underlying9
theorem zdo:Reads enc Tryz.prog W base spare held 89 2 THe.e (fun _=>True) :=
 z5x Tryz.underlying89 kj (z20 rfl kj z6y (z20 rfl kj z6y z7f)) (by
   rintro _ ⟨a0,_,rfl,_,a1,_,rfl,_,rfl⟩
   exact⟨⟨a0,a1⟩,rfl,trivial⟩)
theorem zla:Reads enc Tryz.prog W base spare held 23 1 (eL THe.e) (fun l=>l.length<=maxLen/\∀ n∈l,True):=z4z Tryz.underlying23 kj dk zdo
theorem z2u:ReadsW enc Tryz.prog W base spare held 9 1 DV.str (fun l=>l.length<=reachBytes):=zhj Tryz.underlying9
theorem zfr:ReadsW enc Tryz.prog W base spare held 67 3 TLi.e (fun x=>(x.B.length<=reachBytes)/\((Lit.int .i64 x.C).wf=true)) :=
 z24 Tryz.underlying67 kj (ze rfl kj z2u (ze rfl kj (zr z11) (ze rfl kj (zr z11) z2l))) (by
   rintro _ ⟨a0,_,rfl,k0,a1,_,rfl,k1,a2,_,rfl,k2,rfl⟩
   exact⟨⟨a0,a1,a2⟩,rfl,k0,k1⟩)
theorem zji:ReadsW enc Tryz.prog W base spare held 24 1 (eL TLi.e) (fun l=>∀ a∈l,(a.B.length<=reachBytes)/\((Lit.int .i64 a.C).wf=true)):=z2f Tryz.underlying24 kj dk zfr
theorem zfs:Reads enc Tryz.prog W base spare held 69 3 TBo.e (fun _=>True) :=
 z5x Tryz.underlying69 kj (z20 rfl kj z6y (z20 rfl kj z11 (z20 rfl kj z11 z7f))) (by
   rintro _ ⟨a0,_,rfl,_,a1,_,rfl,_,a2,_,rfl,_,rfl⟩
   exact⟨⟨a0,a1,a2⟩,rfl,trivial⟩)
theorem zeu:Reads enc Tryz.prog W base spare held 25 1 (eL TBo.e) (fun l=>l.length<=maxLen/\∀ n∈l,True):=z4z Tryz.underlying25 kj dk zfs
theorem zbx:ReadsW enc Tryz.prog W base spare held 71 3 TEa.e (fun x=>(x.S.length<=reachBytes)/\(x.B.length<=reachBytes)) :=
 z24 Tryz.underlying71 kj (ze rfl kj z2u (ze rfl kj z2u (ze rfl kj (zr z11) z2l))) (by
   rintro _ ⟨a0,_,rfl,k0,a1,_,rfl,k1,a2,_,rfl,k2,rfl⟩
   exact⟨⟨a0,a1,a2⟩,rfl,k0,k1⟩)
theorem zjj:ReadsW enc Tryz.prog W base spare held 26 1 (eL TEa.e) (fun l=>∀ a∈l,(a.S.length<=reachBytes)/\(a.B.length<=reachBytes)):=z2f Tryz.underlying26 kj dk zbx
theorem za2:ReadsW enc Tryz.prog W base spare held 73 7 TCo.e (fun x=>(x.B.length<=reachBytes)/\((Lit.int .i64 x.C).wf=true)/\(x.S.length<=reachBytes)) :=
 z24 Tryz.underlying73 kj (ze rfl kj z2u (ze rfl kj (zr z11) (ze rfl kj (zr z11) (ze rfl kj (zr z11) (ze rfl kj (zr z11) (ze rfl kj z2u (ze rfl kj (zr z11) z2l))))))) (by
   rintro _ ⟨a0,_,rfl,k0,a1,_,rfl,k1,a2,_,rfl,k2,a3,_,rfl,k3,a4,_,rfl,k4,a5,_,rfl,k5,a6,_,rfl,k6,rfl⟩
   exact⟨⟨a0,a1,a2,a3,a4,a5,a6⟩,rfl,k0,k1,k5⟩)
theorem zjk:ReadsW enc Tryz.prog W base spare held 27 1 (eL TCo.e) (fun l=>∀ a∈l,(a.B.length<=reachBytes)/\((Lit.int .i64 a.C).wf=true)/\(a.S.length<=reachBytes)):=z2f Tryz.underlying27 kj dk za2
theorem zhk:Reads enc Tryz.prog W base spare held 75 4 TRu.e (fun _=>True) :=
 z5x Tryz.underlying75 kj (z20 rfl kj z11 (z20 rfl kj z6y (z20 rfl kj z6y (z20 rfl kj z11 z7f)))) (by
   rintro _ ⟨a0,_,rfl,_,a1,_,rfl,_,a2,_,rfl,_,a3,_,rfl,_,rfl⟩
   exact⟨⟨a0,a1,a2,a3⟩,rfl,trivial⟩)
theorem zlb:Reads enc Tryz.prog W base spare held 28 1 (eL TRu.e) (fun l=>l.length<=maxLen/\∀ n∈l,True):=z4z Tryz.underlying28 kj dk zhk
theorem zdp:ReadsW enc Tryz.prog W base spare held 80 4 TCh.e (fun x=>(x.B.length<=reachBytes)/\((Lit.int .i64 x.C).wf=true)) :=
 z24 Tryz.underlying80 kj (ze rfl kj (zr z11) (ze rfl kj z2u (ze rfl kj (zr z11) (ze rfl kj (zr z11) z2l)))) (by
   rintro _ ⟨a0,_,rfl,k0,a1,_,rfl,k1,a2,_,rfl,k2,a3,_,rfl,k3,rfl⟩
   exact⟨⟨a0,a1,a2,a3⟩,rfl,k1,k2⟩)
theorem zjl:ReadsW enc Tryz.prog W base spare held 76 1 (eL TCh.e) (fun l=>∀ a∈l,(a.B.length<=reachBytes)/\((Lit.int .i64 a.C).wf=true)):=z2f Tryz.underlying76 kj dk zdp
theorem za3:ReadsW enc Tryz.prog W base spare held 78 3 TAm.e (fun x=>(∀ a∈x.Q,(a.B.length<=reachBytes)/\((Lit.int .i64 a.C).wf=true))) :=
 z24 Tryz.underlying78 kj (ze rfl kj (zr z11) (ze rfl kj (zr z11) (ze rfl kj zjl z2l))) (by
   rintro _ ⟨a0,_,rfl,k0,a1,_,rfl,k1,a2,_,rfl,k2,rfl⟩
   exact⟨⟨a0,a1,a2⟩,rfl,k2⟩)
theorem zjm:ReadsW enc Tryz.prog W base spare held 29 1 (eL TAm.e) (fun l=>∀ a∈l,(∀ a1∈a.Q,(a1.B.length<=reachBytes)/\((Lit.int .i64 a1.C).wf=true))):=z2f Tryz.underlying29 kj dk za3
theorem zhl:ReadsW enc Tryz.prog W base spare held 31 10 TLa.e (fun x=>((∀ a∈x.P,(a.B.length<=reachBytes)/\((Lit.int .i64 a.C).wf=true)))/\((∀ a∈x.K,(a.S.length<=reachBytes)/\(a.B.length<=reachBytes)))/\((∀ a∈x.M,(a.B.length<=reachBytes)/\((Lit.int .i64 a.C).wf=true)/\(a.S.length<=reachBytes)))/\((∀ a∈x.A,(∀ a1∈a.Q,(a1.B.length<=reachBytes)/\((Lit.int .i64 a1.C).wf=true))))) :=
 z24 Tryz.underlying31 kj (ze rfl kj (zr z11) (ze rfl kj (zr z11) (ze rfl kj (zr zla) (ze rfl kj zji (ze rfl kj (zr zeu) (ze rfl kj (zr zeu) (ze rfl kj zjj (ze rfl kj zjk (ze rfl kj (zr zlb) (ze rfl kj zjm z2l)))))))))) (by
   rintro _ ⟨a0,_,rfl,k0,a1,_,rfl,k1,a2,_,rfl,k2,a3,_,rfl,k3,a4,_,rfl,k4,a5,_,rfl,k5,a6,_,rfl,k6,a7,_,rfl,k7,a8,_,rfl,k8,a9,_,rfl,k9,rfl⟩
   exact⟨⟨a0,a1,a2,a3,a4,a5,a6,a7,a8,a9⟩,rfl,k3,k6,k7,k9⟩)
theorem zaz:ReadsW enc Tryz.prog W base spare held 44 7 TTr.e (fun x=>((Lit.int .i64 x.C).wf=true)/\(x.L.length<=reachBytes)/\(x.V.length<=reachBytes)) :=
 z24 Tryz.underlying44 kj (ze rfl kj (zr z11) (ze rfl kj (zr z11) (ze rfl kj (zr z11) (ze rfl kj (zr z11) (ze rfl kj z2u (ze rfl kj z2u (ze rfl kj (zr z11) z2l))))))) (by
   rintro _ ⟨a0,_,rfl,k0,a1,_,rfl,k1,a2,_,rfl,k2,a3,_,rfl,k3,a4,_,rfl,k4,a5,_,rfl,k5,a6,_,rfl,k6,rfl⟩
   exact⟨⟨a0,a1,a2,a3,a4,a5,a6⟩,rfl,k2,k4,k5⟩)
theorem zjn:ReadsW enc Tryz.prog W base spare held 32 1 (eL TTr.e) (fun l=>∀ a∈l,((Lit.int .i64 a.C).wf=true)/\(a.L.length<=reachBytes)/\(a.V.length<=reachBytes)):=z2f Tryz.underlying32 kj dk zaz
end
end Go.Proofs.YtbmpcbbimefmoaaGreatDoor
