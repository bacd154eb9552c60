/- treasurylaw13.RightsAnswers: whatever the input, the call returns true, and each argument reads afterwards as it did. No condition. -/
import Derived.Test.YtcfloplnjicomaaGreatDoorB2
import Derived.Test.YtcfloplnjicomaaGreatDoorB3
import Derived.Test.YtcfloplnjicomaaGreatDoorB4
import Derived.Test.YtcfloplnjicomaaGreatDoorP2
import Derived.SevenTiedAt
import Derived.Test.YtcfloplnjicomaaGreatDoorCards
import Derived.Test.YtcfloplnjicomaaGreatDoorTie
namespace Go.Proofs.YtcfloplnjicomaaGreatDoor
open Go Go.TA Go.ChangeShapes Go.WideShapes Go.ChangeAt Go.RowKit
set_option maxRecDepth 100000 in
theorem law_lifted (os:Os) (started:os.Started) (H:Type) (enc:TypeId×Value->H) :
  ReturnsInHanded {} Tryz.checked os 3 .any (fun w args=>(Rows.rightsAnswersSpec.pre enc Tryz.prog Tryz.f3 Rows.rightsAnswersRow.domain false w args/\laidMetH Tryz.prog Rows.rightsAnswersRow.laid w)/\sizedMet enc Tryz.prog Tryz.f3 (OpenSpec.ofChange Rows.rightsAnswersSpec) false w args)
   (Rows.rightsAnswersSpec.post enc Tryz.prog Tryz.f3 false true false false):=by
 refine returnsInHanded_of_change_and (C:=Tryz.checked) (X:=fun w _=>laidMetH Tryz.prog Rows.rightsAnswersRow.laid w) (fun _ _ _ hh h=>h.of_heap hh) Tryz.own started kj Tryz.func3
  (ChangeSpec.witness_shaped (enc:=enc) (C:=Tryz.checked) (os:=os) (X:=fun w _=>laidMetH Tryz.prog Rows.rightsAnswersRow.laid w) false (World.laidAll Tryz.prog os Rows.rightsAnswersRow.laid) #[.slice none 0 0,.agg #[.int .i64 0,.slice none 0 0],.agg #[.string ⟨#[]⟩,.int .i64 0,.int .i64 0,.slice none 0 0,.slice none 0 0,.slice none 0 0,.slice none 0 0],.agg #[.string ⟨#[]⟩,.int .i64 0,.int .i64 0,.int .i64 0,.int .i64 0],.agg #[.int .i64 0,.int .i64 0,.string ⟨#[]⟩,.int .i64 0,.int .i64 0,.int .i64 0,.int .i64 0,.int .i64 0],.string ⟨#[]⟩,.int .i64 0,.int .i64 0,.int .i64 0,.slice none 0 0] 8 (World.laidAll_os _ _ _)
   (World.shaped_of_ZipB kj kj) kj kj kj
   (by rw[MakeChecks.laidMetH_plain _ _ _ kj]; exact laidMet_laidAll _ kj kj)) ?_
 intro W base args ds gs before hval0 hW hc hwt hL _
 have hval:∀ (j:Nat) t v,Tryz.f3.params[j]? = some t->args[j]? = some v->Value.okWide Tryz.prog W .any base t v:=hval0
 have hW':=hW
 obtain⟨p,q,hA0,hV,rfl,_,_⟩:=hW
 have hA:DataW.TrodAll enc Tryz.prog W 0 (fun _=>true) true Tryz.f3.params.toList args.toList ds p:=hA0
 rw[Tryz.params3] at hA hval hwt
 obtain⟨rfl,rfl⟩:=trodVars_none hV
 clear hA0 hval0
 simp only[y3m] at hW'
 have hlt:∀ x∈p,x.block<W.heap.size:=fun x hx=>by simpa using hW'.lt x hx
 obtain⟨v0,l0,d0,s0,p0,q0,e0,rfl,_,h0,hB⟩:=trodAll_cons hA
 obtain⟨v1,l1,d1,s1,p1,q1,rfl,rfl,_,h1,hB⟩:=trodAll_cons hB
 obtain⟨v2,l2,d2,s2,p2,q2,rfl,rfl,_,h2,hB⟩:=trodAll_cons hB
 obtain⟨v3,l3,d3,s3,p3,q3,rfl,rfl,_,h3,hB⟩:=trodAll_cons hB
 obtain⟨v4,l4,d4,s4,p4,q4,rfl,rfl,_,h4,hB⟩:=trodAll_cons hB
 obtain⟨v5,l5,d5,s5,p5,q5,rfl,rfl,_,h5,hB⟩:=trodAll_cons hB
 obtain⟨v6,l6,d6,s6,p6,q6,rfl,rfl,_,h6,hB⟩:=trodAll_cons hB
 obtain⟨v7,l7,d7,s7,p7,q7,rfl,rfl,_,h7,hB⟩:=trodAll_cons hB
 obtain⟨v8,l8,d8,s8,p8,q8,rfl,rfl,_,h8,hB⟩:=trodAll_cons hB
 obtain⟨v9,l9,d9,s9,p9,q9,rfl,rfl,_,h9,hB⟩:=trodAll_cons hB
 obtain⟨rfl,rfl,_⟩:=trodAll_nil hB
 obtain rfl:=zi8 e0
 obtain⟨w0,hwt⟩:=z1x (ts:=[25,27,29,31,9,3,3,3,22]++_) (r:=[d1,d2,d3,d4,d5,d6,d7,d8,d9]++[]) hwt
 obtain⟨w1,hwt⟩:=z1x (ts:=[27,29,31,9,3,3,3,22]++_) (r:=[d2,d3,d4,d5,d6,d7,d8,d9]++[]) hwt
 obtain⟨w2,hwt⟩:=z1x (ts:=[29,31,9,3,3,3,22]++_) (r:=[d3,d4,d5,d6,d7,d8,d9]++[]) hwt
 obtain⟨w3,hwt⟩:=z1x (ts:=[31,9,3,3,3,22]++_) (r:=[d4,d5,d6,d7,d8,d9]++[]) hwt
 obtain⟨w4,hwt⟩:=z1x (ts:=[9,3,3,3,22]++_) (r:=[d5,d6,d7,d8,d9]++[]) hwt
 obtain⟨w5,hwt⟩:=z1x (ts:=[3,3,3,22]++_) (r:=[d6,d7,d8,d9]++[]) hwt
 obtain⟨w6,hwt⟩:=z1x (ts:=[3,3,22]++_) (r:=[d7,d8,d9]++[]) hwt
 obtain⟨w7,hwt⟩:=z1x (ts:=[3,22]++_) (r:=[d8,d9]++[]) hwt
 obtain⟨w8,hwt⟩:=z1x (ts:=[22]++_) (r:=[d9]++[]) hwt
 obtain⟨w9,hwt⟩:=z1x (ts:=_) (r:=[]) hwt
 obtain⟨_,_,_,rfl⟩:=okWide_slice Tryz.underlying22 (hval 0 22 v0 rfl rfl)
 obtain⟨cs1,rfl,_⟩:=okWide_struct Tryz.underlying25 (hval 1 25 v1 rfl rfl)
 obtain⟨cs2,rfl,_⟩:=okWide_struct Tryz.underlying27 (hval 2 27 v2 rfl rfl)
 obtain⟨cs3,rfl,_⟩:=okWide_struct Tryz.underlying29 (hval 3 29 v3 rfl rfl)
 obtain⟨cs4,rfl,_⟩:=okWide_struct Tryz.underlying31 (hval 4 31 v4 rfl rfl)
 obtain⟨_,rfl⟩:=okWide_string Tryz.underlying9 (hval 5 9 v5 rfl rfl)
 obtain⟨_,_,_,rfl⟩:=okWide_slice Tryz.underlying22 (hval 9 22 v9 rfl rfl)
 obtain⟨x0,y0,z0⟩:=z92 (zr z1y) rfl (fun _=>rfl) h0 w0
 obtain⟨x1,y1,z1⟩:=z6k (zr zak) (fun _=>rfl) h1 w1
 obtain⟨x2,y2,z2⟩:=z6k zej (fun _=>rfl) h2 w2
 obtain⟨x3,y3,z3⟩:=z6k zcm (fun _=>rfl) h3 w3
 obtain⟨x4,y4,z4⟩:=z6k zal (fun _=>rfl) h4 w4
 obtain⟨x5,y5,z5⟩:=z92 z6l rfl (fun _=>rfl) h5 w5
 obtain⟨x6,y6,z6⟩:=z8w Tryz.underlying3 (hval 6 3 v6 rfl rfl) h6
 obtain⟨x7,y7,z7⟩:=z8w Tryz.underlying3 (hval 7 3 v7 rfl rfl) h7
 obtain⟨x8,y8,z8⟩:=z8w Tryz.underlying3 (hval 8 3 v8 rfl rfl) h8
 obtain⟨x9,y9,z9⟩:=z92 (zr z1y) rfl (fun _=>rfl) h9 w9
 refine (zea (us:=[_,_,_,_,_,_,_,_,_,_]) (F_q1_ok true (z7r x0 x1 x2 x3 x4 x5 x6 x7 x8 x9 z3 z4 z5)) (zca hL) (.cons _ _ _ _ y0 (.cons _ _ _ _ y1 (.cons _ _ _ _ y2 (.cons _ _ _ _ y3 (.cons _ _ _ _ y4 (.cons _ _ _ _ y5 (.cons _ _ _ _ y6 (.cons _ _ _ _ y7 (.cons _ _ _ _ y8 (.cons _ _ _ _ y9 .nil))))))))))).mono fun e W' ⟨he,hn⟩=>?_
 subst he
 exact⟨_,rfl,⟨_,_,_,[],_,[],hW',trodAll_mk1 (shut_bool Tryz.underlying4 _),zaz Tryz.laidOut hn (by decide +kernel) hA hlt,rfl,hn.frame _,fun h=>by cases h⟩⟩
theorem law_holds:Rows.RightsAnswersSaid :=
 OpenClaim.holds_of_wide 3 Tryz.f3 rfl rfl rfl rfl rfl rfl rfl ⟨rfl,rfl,rfl,rfl,rfl⟩ rfl rfl rfl rfl rfl kj Tryz.func3 z6y
  (y28 kj) (by unfold Func.isWrapper; first | (rw[yb (by decide +kernel)]; kernel_rfl) | (rw[ya (by decide +kernel)]; exact⟨rfl,rfl⟩))
  (fun os started H enc _=>law_lifted os started H enc)
theorem card_holds:Rows.RightsAnswersCardSaid :=
 Claim7.holds_tied_plain_at .later [] [.data, .data, .data, .data, .sentinel, .sentinel, .pinned] true (true, "944e9aafcc08cdfd96afe3014fcbfd3bcfb939c31284099224a09c23c788405d") true law_holds (fun _ h => by cases h) kj (fun _ h => by cases h) rightsAnswers_row_tie rfl ⟨rfl, rfl⟩ kj rfl
  (fun f fn hf hfn=>by
   obtain rfl : f = 3 := y10 ((show Tryz.prog.funcNamed "treasury/treasurylaw13.RightsAnswers" = some 3 from kj).symm.trans hf) |>.symm
   obtain rfl:fn=Tryz.f3:=(y10 (Tryz.func3.symm.trans hfn)).symm
   exact⟨kj,fun j t ht=>by
    rw[Tryz.params3] at ht
    have hm:t∈[22,25,27,29,31,9,3,3,3,22]:=by simpa using Array.mem_of_getElem? ht
    have hall:([22,25,27,29,31,9,3,3,3,22].all fun u=>!Tryz.prog.wantsStandIn u)=true:=kj
    exact (show Tryz.prog.wantsStandIn t=false by simpa using y1f.1 hall t hm)⟩)
  z7d
end Go.Proofs.YtcfloplnjicomaaGreatDoor
