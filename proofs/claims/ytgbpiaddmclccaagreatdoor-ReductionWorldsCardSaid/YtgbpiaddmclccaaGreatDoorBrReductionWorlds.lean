/- treasurylaw18.ReductionWorlds: whatever the input, the call returns true, and each argument reads afterwards as it did. No condition. -/
import Derived.Test.YtgbpiaddmclccaaGreatDoorB2
import Derived.Test.YtgbpiaddmclccaaGreatDoorB10
import Derived.Test.YtgbpiaddmclccaaGreatDoorB11
import Derived.Test.YtgbpiaddmclccaaGreatDoorP4
import Derived.SevenTiedAt
import Derived.Test.YtgbpiaddmclccaaGreatDoorCards
import Derived.Test.YtgbpiaddmclccaaGreatDoorTie
namespace Go.Proofs.YtgbpiaddmclccaaGreatDoor
open Go Go.TA Go.ChangeShapes Go.WideShapes Go.ChangeAt Go.RowKit
set_option maxRecDepth 100000 in
theorem law_lifted (os:Os) (started:os.Started) (H:Type) (enc:TypeId×Value->H) :
  ReturnsInHanded {} Tryz.checked os 3 .any (fun w args=>(Rows.reductionWorldsSpec.pre enc Tryz.prog Tryz.f3 Rows.reductionWorldsRow.domain false w args/\laidMetH Tryz.prog Rows.reductionWorldsRow.laid w)/\sizedMet enc Tryz.prog Tryz.f3 (OpenSpec.ofChange Rows.reductionWorldsSpec) false w args)
   (Rows.reductionWorldsSpec.post enc Tryz.prog Tryz.f3 false true false false):=by
 refine returnsInHanded_of_change_and (C:=Tryz.checked) (X:=fun w _=>laidMetH Tryz.prog Rows.reductionWorldsRow.laid w) (fun _ _ _ hh h=>h.of_heap hh) Tryz.own started kj Tryz.func3
  (ChangeSpec.witness_shaped (enc:=enc) (C:=Tryz.checked) (os:=os) (X:=fun w _=>laidMetH Tryz.prog Rows.reductionWorldsRow.laid w) false (World.laidAll Tryz.prog os Rows.reductionWorldsRow.laid) #[.slice none 0 0,.agg #[.int .i64 0,.slice none 0 0,.slice none 0 0,.slice none 0 0],.string ⟨#[]⟩,.int .i64 0,.int .i64 0] 8 (World.laidAll_os _ _ _)
   (World.shaped_of_ZipB kj kj) kj kj kj
   (by rw[MakeChecks.laidMetH_plain _ _ _ kj]; exact laidMet_laidAll _ kj kj)) ?_
 intro W base args ds gs before hval0 hW hc hwt hL _
 have hval:∀ (j:Nat) t v,Tryz.f3.params[j]? = some t->args[j]? = some v->Value.okWide Tryz.prog W .any base t v:=hval0
 have hW':=hW
 obtain⟨p,q,hA0,hV,rfl,_,_⟩:=hW
 have hA:DataW.TrodAll enc Tryz.prog W 0 (fun _=>true) true Tryz.f3.params.toList args.toList ds p:=hA0
 rw[Tryz.params3] at hA hval hwt
 obtain⟨rfl,rfl⟩:=trodVars_none hV
 clear hA0 hval0
 simp only[y4c] at hW'
 have hlt:∀ x∈p,x.block<W.heap.size:=fun x hx=>by simpa using hW'.lt x hx
 obtain⟨v0,l0,d0,s0,p0,q0,e0,rfl,_,h0,hB⟩:=trodAll_cons hA
 obtain⟨v1,l1,d1,s1,p1,q1,rfl,rfl,_,h1,hB⟩:=trodAll_cons hB
 obtain⟨v2,l2,d2,s2,p2,q2,rfl,rfl,_,h2,hB⟩:=trodAll_cons hB
 obtain⟨v3,l3,d3,s3,p3,q3,rfl,rfl,_,h3,hB⟩:=trodAll_cons hB
 obtain⟨v4,l4,d4,s4,p4,q4,rfl,rfl,_,h4,hB⟩:=trodAll_cons hB
 obtain⟨rfl,rfl,_⟩:=trodAll_nil hB
 obtain rfl:=ztd e0
 obtain⟨w0,hwt⟩:=z7d (ts:=[29,9,3,3]++_) (r:=[d1,d2,d3,d4]++[]) hwt
 obtain⟨w1,hwt⟩:=z7d (ts:=[9,3,3]++_) (r:=[d2,d3,d4]++[]) hwt
 obtain⟨w2,hwt⟩:=z7d (ts:=[3,3]++_) (r:=[d3,d4]++[]) hwt
 obtain⟨w3,hwt⟩:=z7d (ts:=[3]++_) (r:=[d4]++[]) hwt
 obtain⟨w4,hwt⟩:=z7d (ts:=_) (r:=[]) hwt
 obtain⟨_,_,_,rfl⟩:=okWide_slice Tryz.underlying22 (hval 0 22 v0 rfl rfl)
 obtain⟨cs1,rfl,_⟩:=okWide_struct Tryz.underlying29 (hval 1 29 v1 rfl rfl)
 obtain⟨_,rfl⟩:=okWide_string Tryz.underlying9 (hval 2 9 v2 rfl rfl)
 obtain⟨x0,y0,z0⟩:=ziz (zgm z7e) rfl (fun _=>rfl) h0 w0
 obtain⟨x1,y1,z1⟩:=zri (zgm zkk) (fun _=>rfl) h1 w1
 obtain⟨x2,y2,z2⟩:=ziz zro rfl (fun _=>rfl) h2 w2
 obtain⟨x3,y3,z3⟩:=zij Tryz.underlying3 (hval 3 3 v3 rfl rfl) h3
 obtain⟨x4,y4,z4⟩:=zij Tryz.underlying3 (hval 4 3 v4 rfl rfl) h4
 refine (zmm (us:=[_,_,_,_,_]) (F_qr_ok true (za8 x0 x1 x2 x3 x4)) (zil hL) (.cons _ _ _ _ y0 (.cons _ _ _ _ y1 (.cons _ _ _ _ y2 (.cons _ _ _ _ y3 (.cons _ _ _ _ y4 .nil)))))).mono fun e W' ⟨he,hn⟩=>?_
 subst he
 exact⟨_,rfl,⟨_,_,_,[],_,[],hW',trodAll_mk1 (shut_bool Tryz.underlying4 _),zgd Tryz.laidOut hn (by decide +kernel) hA hlt,rfl,hn.frame _,fun h=>by cases h⟩⟩
theorem law_holds:Rows.ReductionWorldsSaid :=
 OpenClaim.holds_of_wide 3 Tryz.f3 rfl rfl rfl rfl rfl rfl rfl ⟨rfl,rfl,rfl,rfl,rfl⟩ rfl rfl rfl rfl rfl kj Tryz.func3 z8p
  (y1x kj) (by unfold Func.isWrapper; first | (rw[y6 (by decide +kernel)]; kernel_rfl) | (rw[y5 (by decide +kernel)]; exact⟨rfl,rfl⟩))
  (fun os started H enc _=>law_lifted os started H enc)
theorem card_holds:Rows.ReductionWorldsCardSaid :=
 Claim7.holds_tied_plain_at .later [] [.data, .data, .data, .data, .sentinel, .sentinel, .listed, .data, .pinned] true (true, "17f0bbc6f59a0577fe63430ac9b6146233e9ae111d012826b902313ec700ef64") true law_holds (fun _ h => by cases h) kj (fun _ h => by cases h) reductionWorlds_row_tie rfl ⟨rfl, rfl⟩ kj rfl
  (fun f fn hf hfn=>by
   obtain rfl : f = 3 := yw ((show Tryz.prog.funcNamed "treasury/treasurylaw18.ReductionWorlds" = some 3 from kj).symm.trans hf) |>.symm
   obtain rfl:fn=Tryz.f3:=(yw (Tryz.func3.symm.trans hfn)).symm
   exact⟨kj,fun j t ht=>by
    rw[Tryz.params3] at ht
    have hm:t∈[22,29,9,3,3]:=by simpa using Array.mem_of_getElem? ht
    have hall:([22,29,9,3,3].all fun u=>!Tryz.prog.wantsStandIn u)=true:=kj
    exact (show Tryz.prog.wantsStandIn t=false by simpa using y1p.1 hall t hm)⟩)
  z9m
end Go.Proofs.YtgbpiaddmclccaaGreatDoor
