/- treasurylaw19.WarrantSigned: whatever the input, the call returns true, and each argument reads afterwards as it did. No condition. -/
import Derived.Test.YtiohhffifhaboaaGreatDoorB2
import Derived.Test.YtiohhffifhaboaaGreatDoorB3
import Derived.Test.YtiohhffifhaboaaGreatDoorB4
import Derived.Test.YtiohhffifhaboaaGreatDoorP4
import Derived.SevenTiedAt
import Derived.Test.YtiohhffifhaboaaGreatDoorCards
import Derived.Test.YtiohhffifhaboaaGreatDoorTie
namespace Go.Proofs.YtiohhffifhaboaaGreatDoor
open Go Go.TA Go.ChangeShapes Go.WideShapes Go.ChangeAt Go.RowKit
set_option maxRecDepth 100000 in
theorem law_lifted (os:Os) (started:os.Started) (H:Type) (enc:TypeId×Value->H) :
  ReturnsInHanded {} Tryz.checked os 3 .any (fun w args=>(Rows.warrantSignedSpec.pre enc Tryz.prog Tryz.f3 Rows.warrantSignedRow.domain false w args/\laidMetH Tryz.prog Rows.warrantSignedRow.laid w)/\sizedMet enc Tryz.prog Tryz.f3 (OpenSpec.ofChange Rows.warrantSignedSpec) false w args)
   (Rows.warrantSignedSpec.post enc Tryz.prog Tryz.f3 false true false false):=by
 refine returnsInHanded_of_change_and (C:=Tryz.checked) (X:=fun w _=>laidMetH Tryz.prog Rows.warrantSignedRow.laid w) (fun _ _ _ hh h=>h.of_heap hh) Tryz.own started kj Tryz.func3
  (ChangeSpec.witness_shaped (enc:=enc) (C:=Tryz.checked) (os:=os) (X:=fun w _=>laidMetH Tryz.prog Rows.warrantSignedRow.laid w) false (World.laidAll Tryz.prog os Rows.warrantSignedRow.laid) #[.slice none 0 0,.int .u64 0,.int .u64 0] 8 (World.laidAll_os _ _ _)
   (World.shaped_of_ZipB kj kj) kj kj kj
   (by rw[MakeChecks.laidMetH_plain _ _ _ kj]; exact laidMet_laidAll _ kj kj)) ?_
 intro W base args ds gs before hval0 hW hc hwt hL _
 have hval:∀ (j:Nat) t v,Tryz.f3.params[j]? = some t->args[j]? = some v->Value.okWide Tryz.prog W .any base t v:=hval0
 have hW':=hW
 obtain⟨p,q,hA0,hV,rfl,_,_⟩:=hW
 have hA:DataW.TrodAll enc Tryz.prog W 0 (fun _=>true) true Tryz.f3.params.toList args.toList ds p:=hA0
 rw[Tryz.params3] at hA hval hwt
 obtain⟨rfl,rfl⟩:=trodVars_none hV
 clear hA0 hval0
 simp only[y2w] at hW'
 have hlt:∀ x∈p,x.block<W.heap.size:=fun x hx=>by simpa using hW'.lt x hx
 obtain⟨v0,l0,d0,s0,p0,q0,e0,rfl,_,h0,hB⟩:=trodAll_cons hA
 obtain⟨v1,l1,d1,s1,p1,q1,rfl,rfl,_,h1,hB⟩:=trodAll_cons hB
 obtain⟨v2,l2,d2,s2,p2,q2,rfl,rfl,_,h2,hB⟩:=trodAll_cons hB
 obtain⟨rfl,rfl,_⟩:=trodAll_nil hB
 obtain rfl:=zgw e0
 obtain⟨w0,hwt⟩:=z7d (ts:=[23,23]++_) (r:=[d1,d2]++[]) hwt
 obtain⟨w1,hwt⟩:=z7d (ts:=[23]++_) (r:=[d2]++[]) hwt
 obtain⟨w2,hwt⟩:=z7d (ts:=_) (r:=[]) hwt
 obtain⟨_,_,_,rfl⟩:=okWide_slice Tryz.underlying22 (hval 0 22 v0 rfl rfl)
 obtain⟨x0,y0,z0⟩:=zft (zek zfu) rfl (fun _=>rfl) h0 w0
 obtain⟨x1,y1,z1⟩:=zac Tryz.underlying23 (hval 1 23 v1 rfl rfl) h1
 obtain⟨x2,y2,z2⟩:=zac Tryz.underlying23 (hval 2 23 v2 rfl rfl) h2
 refine (zcq (us:=[_,_,_]) (F_q1h_ok true (z62 x0 x1 x2)) (zae hL) (.cons _ _ _ _ y0 (.cons _ _ _ _ y1 (.cons _ _ _ _ y2 .nil)))).mono fun e W' ⟨he,hn⟩=>?_
 subst he
 exact⟨_,rfl,⟨_,_,_,[],_,[],hW',trodAll_mk1 (shut_bool Tryz.underlying4 _),z93 Tryz.laidOut hn (by decide +kernel) hA hlt,rfl,hn.frame _,fun h=>by cases h⟩⟩
theorem law_holds:Rows.WarrantSignedSaid :=
 OpenClaim.holds_of_wide 3 Tryz.f3 rfl rfl rfl rfl rfl rfl rfl ⟨rfl,rfl,rfl,rfl,rfl⟩ rfl rfl rfl rfl rfl kj Tryz.func3 z56
  (y3b kj) (by unfold Func.isWrapper; first | (rw[y5 (by decide +kernel)]; kernel_rfl) | (rw[y3 (by decide +kernel)]; exact⟨rfl,rfl⟩))
  (fun os started H enc _=>law_lifted os started H enc)
theorem card_holds:Rows.WarrantSignedCardSaid :=
 Claim7.holds_tied_plain_at .later [] [.data, .data, .data, .data, .sentinel, .sentinel, .pinned] true (true, "94107f67c3e70534f73e9b8f5ae45e5e118cded14c0de2d552b818730d258968") true law_holds (fun _ h => by cases h) kj (fun _ h => by cases h) warrantSigned_row_tie rfl ⟨rfl, rfl⟩ kj rfl
  (fun f fn hf hfn=>by
   obtain rfl : f = 3 := yk ((show Tryz.prog.funcNamed "treasury/treasurylaw19.WarrantSigned" = some 3 from kj).symm.trans hf) |>.symm
   obtain rfl:fn=Tryz.f3:=(yk (Tryz.func3.symm.trans hfn)).symm
   exact⟨kj,fun j t ht=>by
    rw[Tryz.params3] at ht
    have hm:t∈[22,23,23]:=by simpa using Array.mem_of_getElem? ht
    have hall:([22,23,23].all fun u=>!Tryz.prog.wantsStandIn u)=true:=kj
    exact (show Tryz.prog.wantsStandIn t=false by simpa using y10.1 hall t hm)⟩)
  z5k
end Go.Proofs.YtiohhffifhaboaaGreatDoor
