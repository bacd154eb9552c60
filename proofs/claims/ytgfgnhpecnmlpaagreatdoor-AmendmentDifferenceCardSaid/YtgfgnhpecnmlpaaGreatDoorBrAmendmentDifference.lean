/- treasurylaw06.AmendmentDifference: whatever the input, the call returns true, and each argument reads afterwards as it did. No condition. -/
import Derived.Test.YtgfgnhpecnmlpaaGreatDoorB2
import Derived.Test.YtgfgnhpecnmlpaaGreatDoorB6
import Derived.Test.YtgfgnhpecnmlpaaGreatDoorB7
import Derived.Test.YtgfgnhpecnmlpaaGreatDoorP2
import Derived.SevenTiedAt
import Derived.Test.YtgfgnhpecnmlpaaGreatDoorCards
import Derived.Test.YtgfgnhpecnmlpaaGreatDoorTie
namespace Go.Proofs.YtgfgnhpecnmlpaaGreatDoor
open Go Go.TA Go.ChangeShapes Go.WideShapes Go.ChangeAt Go.RowKit
set_option maxRecDepth 100000 in
theorem law_lifted (os:Os) (started:os.Started) (H:Type) (enc:TypeId×Value->H) :
  ReturnsInHanded {} Tryz.checked os 6 .any (fun w args=>(Rows.amendmentDifferenceSpec.pre enc Tryz.prog Tryz.f6 Rows.amendmentDifferenceRow.domain false w args/\laidMetH Tryz.prog Rows.amendmentDifferenceRow.laid w)/\sizedMet enc Tryz.prog Tryz.f6 (OpenSpec.ofChange Rows.amendmentDifferenceSpec) false w args)
   (Rows.amendmentDifferenceSpec.post enc Tryz.prog Tryz.f6 false true false false):=by
 refine returnsInHanded_of_change_and (C:=Tryz.checked) (X:=fun w _=>laidMetH Tryz.prog Rows.amendmentDifferenceRow.laid w) (fun _ _ _ hh h=>h.of_heap hh) Tryz.own started kj Tryz.func6
  (ChangeSpec.witness_shaped (enc:=enc) (C:=Tryz.checked) (os:=os) (X:=fun w _=>laidMetH Tryz.prog Rows.amendmentDifferenceRow.laid w) false (World.laidAll Tryz.prog os Rows.amendmentDifferenceRow.laid) #[.slice none 0 0] 8 (World.laidAll_os _ _ _)
   (World.shaped_of_ZipB kj kj) kj kj kj
   (by rw[MakeChecks.laidMetH_plain _ _ _ kj]; exact laidMet_laidAll _ kj kj)) ?_
 intro W base args ds gs before hval0 hW hc hwt hL _
 have hval:∀ (j:Nat) t v,Tryz.f6.params[j]? = some t->args[j]? = some v->Value.okWide Tryz.prog W .any base t v:=hval0
 have hW':=hW
 obtain⟨p,q,hA0,hV,rfl,_,_⟩:=hW
 have hA:DataW.TrodAll enc Tryz.prog W 0 (fun _=>true) true Tryz.f6.params.toList args.toList ds p:=hA0
 rw[Tryz.params6] at hA hval hwt
 obtain⟨rfl,rfl⟩:=trodVars_none hV
 clear hA0 hval0
 simp only[y2r] at hW'
 have hlt:∀ x∈p,x.block<W.heap.size:=fun x hx=>by simpa using hW'.lt x hx
 obtain⟨v0,l0,d0,s0,p0,q0,e0,rfl,_,h0,hB⟩:=trodAll_cons hA
 obtain⟨rfl,rfl,_⟩:=trodAll_nil hB
 obtain rfl:=zkn e0
 obtain⟨w0,hwt⟩:=zjh (ts:=_) (r:=[]) hwt
 obtain⟨_,_,_,rfl⟩:=okWide_slice Tryz.underlying22 (hval 0 22 v0 rfl rfl)
 obtain⟨x0,y0,z0⟩:=zjg (zhv zji) rfl (fun _=>rfl) h0 w0
 refine (zg5 (us:=[_]) (F_q4u_ok true (ze5 x0)) (zd6 hL) (.cons _ _ _ _ y0 .nil)).mono fun e W' ⟨he,hn⟩=>?_
 subst he
 exact⟨_,rfl,⟨_,_,_,[],_,[],hW',trodAll_mk1 (shut_bool Tryz.underlying4 _),zbl Tryz.laidOut hn (by decide +kernel) hA hlt,rfl,hn.frame _,fun h=>by cases h⟩⟩
theorem law_holds:Rows.AmendmentDifferenceSaid :=
 OpenClaim.holds_of_wide 6 Tryz.f6 rfl rfl rfl rfl rfl rfl rfl ⟨rfl,rfl,rfl,rfl,rfl⟩ rfl rfl rfl rfl rfl kj Tryz.func6 zck
  (y2t kj) (by unfold Func.isWrapper; first | (rw[y6 (by decide +kernel)]; kernel_rfl) | (rw[y5 (by decide +kernel)]; exact⟨rfl,rfl⟩))
  (fun os started H enc _=>law_lifted os started H enc)
theorem card_holds:Rows.AmendmentDifferenceCardSaid :=
 Claim7.holds_tied_plain_at .later [] [.data, .data, .data, .data, .sentinel, .sentinel, .pinned] true (true, "0287bc527245fd2f9c59a121d23da4b8c7d2838656652f99d6ce990fec4256ba") true law_holds (fun _ h => by cases h) kj (fun _ h => by cases h) amendmentDifference_row_tie rfl ⟨rfl, rfl⟩ kj rfl
  (fun f fn hf hfn=>by
   obtain rfl : f = 6 := yu ((show Tryz.prog.funcNamed "treasury/treasurylaw06.AmendmentDifference" = some 6 from kj).symm.trans hf) |>.symm
   obtain rfl:fn=Tryz.f6:=(yu (Tryz.func6.symm.trans hfn)).symm
   exact⟨kj,fun j t ht=>by
    rw[Tryz.params6] at ht
    have hm:t∈[22]:=by simpa using Array.mem_of_getElem? ht
    have hall:([22].all fun u=>!Tryz.prog.wantsStandIn u)=true:=kj
    exact (show Tryz.prog.wantsStandIn t=false by simpa using y1m.1 hall t hm)⟩)
  ze8
end Go.Proofs.YtgfgnhpecnmlpaaGreatDoor
