/- treasurylaw20.ControlAnswers: whatever the input, the call returns true, and each argument reads afterwards as it did. No condition. -/
import Derived.Test.YtclaojamgomjbaaGreatDoorB2
import Derived.Test.YtclaojamgomjbaaGreatDoorP3
import Derived.SevenTiedAt
import Derived.Test.YtclaojamgomjbaaGreatDoorCards
import Derived.Test.YtclaojamgomjbaaGreatDoorTie
namespace Go.Proofs.YtclaojamgomjbaaGreatDoor
open Go Go.TA Go.ChangeShapes Go.WideShapes Go.ChangeAt Go.RowKit
set_option maxRecDepth 100000 in
theorem law_lifted (os:Os) (started:os.Started) (H:Type) (enc:TypeId×Value→H) :
  ReturnsInHanded {} Tryz.checked os 5 .any (fun w args=>(Rows.controlAnswersSpec.pre enc Tryz.prog Tryz.f5 Rows.controlAnswersRow.domain false w args∧laidMetH Tryz.prog Rows.controlAnswersRow.laid w)∧sizedMet enc Tryz.prog Tryz.f5 (OpenSpec.ofChange Rows.controlAnswersSpec) false w args)
   (Rows.controlAnswersSpec.post enc Tryz.prog Tryz.f5 false true false false):=by
 refine returnsInHanded_of_change_and (C:=Tryz.checked) (X:=fun w _=>laidMetH Tryz.prog Rows.controlAnswersRow.laid w) (fun _ _ _ hh h=>h.of_heap hh) Tryz.own started (by kernel_rfl) Tryz.func5
  (ChangeSpec.witness_shaped (enc:=enc) (C:=Tryz.checked) (os:=os) (X:=fun w _=>laidMetH Tryz.prog Rows.controlAnswersRow.laid w) false (World.laidAll Tryz.prog os Rows.controlAnswersRow.laid) #[.slice none 0 0,.agg #[.int .i64 0,.int .i64 0,.string ⟨#[]⟩,.int .i64 0,.int .i64 0,.int .i64 0,.int .i64 0,.int .i64 0,.int .i64 0,.int .i64 0,.int .i64 0,.int .i64 0,.int .u64 0,.int .u64 0],.agg #[.int .i64 0,.slice none 0 0,.slice none 0 0,.slice none 0 0,.slice none 0 0,.slice none 0 0],.slice none 0 0,.agg #[.string ⟨#[]⟩,.int .i64 0,.int .i64 0,.slice none 0 0,.slice none 0 0,.slice none 0 0,.slice none 0 0],.slice none 0 0,.int .i64 0,.int .i64 0,.slice none 0 0] 8 (World.laidAll_os _ _ _)
   (World.shaped_of_ZipB (by kernel_rfl) (by kernel_rfl)) (by kernel_rfl) (by kernel_rfl) (by kernel_rfl)
   (by rw[MakeChecks.laidMetH_plain _ _ _ (by kernel_rfl)]; exact laidMet_laidAll _ (by kernel_rfl) (by kernel_rfl))) ?_
 intro W base args ds gs before hval0 hW hc hwt hL _
 have hval:∀ (j:Nat) t v,Tryz.f5.params[j]? = some t→args[j]? = some v→Value.okWide Tryz.prog W .any base t v:=hval0
 have hW':=hW
 obtain⟨p,q,hA0,hV,rfl,_,_⟩:=hW
 have hA:DataW.TrodAll enc Tryz.prog W 0 (fun _=>true) true Tryz.f5.params.toList args.toList ds p:=hA0
 rw[Tryz.params5] at hA hval hwt
 obtain⟨rfl,rfl⟩:=trodVars_none hV
 clear hA0 hval0
 simp only[List.append_nil] at hW'
 have hlt:∀ x∈p,x.block<W.heap.size:=fun x hx=>by simpa using hW'.lt x hx
 obtain⟨v0,l0,d0,s0,p0,q0,e0,rfl,_,h0,hB⟩:=trodAll_cons hA
 obtain⟨v1,l1,d1,s1,p1,q1,rfl,rfl,_,h1,hB⟩:=trodAll_cons hB
 obtain⟨v2,l2,d2,s2,p2,q2,rfl,rfl,_,h2,hB⟩:=trodAll_cons hB
 obtain⟨v3,l3,d3,s3,p3,q3,rfl,rfl,_,h3,hB⟩:=trodAll_cons hB
 obtain⟨v4,l4,d4,s4,p4,q4,rfl,rfl,_,h4,hB⟩:=trodAll_cons hB
 obtain⟨v5,l5,d5,s5,p5,q5,rfl,rfl,_,h5,hB⟩:=trodAll_cons hB
 obtain⟨v6,l6,d6,s6,p6,q6,rfl,rfl,_,h6,hB⟩:=trodAll_cons hB
 obtain⟨v7,l7,d7,s7,p7,q7,rfl,rfl,_,h7,hB⟩:=trodAll_cons hB
 obtain⟨v8,l8,d8,s8,p8,q8,rfl,rfl,_,h8,hB⟩:=trodAll_cons hB
 obtain⟨rfl,rfl,_⟩:=trodAll_nil hB
 obtain rfl:=zn7 e0
 obtain⟨w0,hwt⟩:=z2t (ts:=[43,34,25,36,37,3,3,48]++_) (r:=[d1,d2,d3,d4,d5,d6,d7,d8]++[]) hwt
 obtain⟨w1,hwt⟩:=z2t (ts:=[34,25,36,37,3,3,48]++_) (r:=[d2,d3,d4,d5,d6,d7,d8]++[]) hwt
 obtain⟨w2,hwt⟩:=z2t (ts:=[25,36,37,3,3,48]++_) (r:=[d3,d4,d5,d6,d7,d8]++[]) hwt
 obtain⟨w3,hwt⟩:=z2t (ts:=[36,37,3,3,48]++_) (r:=[d4,d5,d6,d7,d8]++[]) hwt
 obtain⟨w4,hwt⟩:=z2t (ts:=[37,3,3,48]++_) (r:=[d5,d6,d7,d8]++[]) hwt
 obtain⟨w5,hwt⟩:=z2t (ts:=[3,3,48]++_) (r:=[d6,d7,d8]++[]) hwt
 obtain⟨w6,hwt⟩:=z2t (ts:=[3,48]++_) (r:=[d7,d8]++[]) hwt
 obtain⟨w7,hwt⟩:=z2t (ts:=[48]++_) (r:=[d8]++[]) hwt
 obtain⟨w8,hwt⟩:=z2t (ts:=_) (r:=[]) hwt
 obtain⟨_,_,_,rfl⟩:=okWide_slice Tryz.underlying22 (hval 0 22 v0 rfl rfl)
 obtain⟨cs1,rfl,_⟩:=okWide_struct Tryz.underlying43 (hval 1 43 v1 rfl rfl)
 obtain⟨cs2,rfl,_⟩:=okWide_struct Tryz.underlying34 (hval 2 34 v2 rfl rfl)
 obtain⟨_,_,_,rfl⟩:=okWide_slice Tryz.underlying25 (hval 3 25 v3 rfl rfl)
 obtain⟨cs4,rfl,_⟩:=okWide_struct Tryz.underlying36 (hval 4 36 v4 rfl rfl)
 obtain⟨_,_,_,rfl⟩:=okWide_slice Tryz.underlying37 (hval 5 37 v5 rfl rfl)
 obtain⟨_,_,_,rfl⟩:=okWide_slice Tryz.underlying48 (hval 8 48 v8 rfl rfl)
 obtain⟨x0,y0,z0⟩:=z71 (zw z5e) rfl (fun _=>rfl) h0 w0
 obtain⟨x1,y1,z1⟩:=za9 zbq (fun _=>rfl) h1 w1
 obtain⟨x2,y2,z2⟩:=za9 (zw zem) (fun _=>rfl) h2 w2
 obtain⟨x3,y3,z3⟩:=z71 (zw zlu) rfl (fun _=>rfl) h3 w3
 obtain⟨x4,y4,z4⟩:=za9 zi4 (fun _=>rfl) h4 w4
 obtain⟨x5,y5,z5⟩:=z71 zk5 rfl (fun _=>rfl) h5 w5
 obtain⟨x6,y6,z6⟩:=ze8 Tryz.underlying3 (hval 6 3 v6 rfl rfl) h6
 obtain⟨x7,y7,z7⟩:=ze8 Tryz.underlying3 (hval 7 3 v7 rfl rfl) h7
 obtain⟨x8,y8,z8⟩:=z71 (zw zlw) rfl (fun _=>rfl) h8 w8
 refine (zhu (us:=[_,_,_,_,_,_,_,_,_]) (F_q1_ok true (z7n x0 x1 x2 x3 x4 x5 x6 x7 x8 z5)) (ze9 hL) (.cons _ _ _ _ y0 (.cons _ _ _ _ y1 (.cons _ _ _ _ y2 (.cons _ _ _ _ y3 (.cons _ _ _ _ y4 (.cons _ _ _ _ y5 (.cons _ _ _ _ y6 (.cons _ _ _ _ y7 (.cons _ _ _ _ y8 .nil)))))))))).mono fun e W' ⟨he,hn⟩=>?_
 subst he
 exact⟨_,rfl,⟨_,_,_,[],_,[],hW',trodAll_mk1 (shut_bool Tryz.underlying4 _),zcf Tryz.laidOut hn (by decide +kernel) hA hlt,rfl,hn.frame _,fun h=>by cases h⟩⟩
theorem law_holds:Rows.ControlAnswersSaid :=
 OpenClaim.holds_of_wide 5 Tryz.f5 rfl rfl rfl rfl rfl rfl rfl ⟨rfl,rfl,rfl,rfl,rfl⟩ rfl rfl rfl rfl rfl (by kernel_rfl) Tryz.func5 (by kernel_rfl)
  (of_decide_eq_true (by kernel_rfl)) (by unfold Func.isWrapper; first | (rw[if_pos (by decide +kernel)]; kernel_rfl) | (rw[if_neg (by decide +kernel)]; exact⟨rfl,rfl⟩))
  (fun os started H enc _=>law_lifted os started H enc)
theorem card_holds:Rows.ControlAnswersCardSaid :=
 Claim7.holds_tied_plain_at .later [] [.data, .data, .data, .data, .sentinel, .sentinel, .pinned] true (true, "07a41d8f341f2188b7a339e79322385bbcc057ccf64afb2b7fa19d4360a6bbe5") true law_holds (fun _ h => by cases h) (by kernel_rfl) (fun _ h => by cases h) controlAnswers_row_tie rfl ⟨rfl, rfl⟩ (by kernel_rfl) rfl
  (fun f fn hf hfn=>by
   obtain rfl : f = 5 := Option.some.inj ((show Tryz.prog.funcNamed "treasury/treasurylaw20.ControlAnswers" = some 5 by kernel_rfl).symm.trans hf) |>.symm
   obtain rfl:fn=Tryz.f5:=(Option.some.inj (Tryz.func5.symm.trans hfn)).symm
   exact⟨by kernel_rfl,fun j t ht=>by
    rw[Tryz.params5] at ht
    have hm:t∈[22,43,34,25,36,37,3,3,48]:=by simpa using Array.mem_of_getElem? ht
    have hall:([22,43,34,25,36,37,3,3,48].all fun u=>!Tryz.prog.wantsStandIn u)=true:=by kernel_rfl
    exact (show Tryz.prog.wantsStandIn t=false by simpa using List.all_eq_true.1 hall t hm)⟩)
  (by kernel_rfl)
end Go.Proofs.YtclaojamgomjbaaGreatDoor
