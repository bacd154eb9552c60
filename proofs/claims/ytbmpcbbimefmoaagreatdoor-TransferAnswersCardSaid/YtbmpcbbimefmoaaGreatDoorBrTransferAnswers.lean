/- treasurylaw09.TransferAnswers: whatever the input, the call returns true, and each argument reads afterwards as it did. No condition. -/
import Derived.Test.YtbmpcbbimefmoaaGreatDoorB2
import Derived.Test.YtbmpcbbimefmoaaGreatDoorB3
import Derived.Test.YtbmpcbbimefmoaaGreatDoorB4
import Derived.Test.YtbmpcbbimefmoaaGreatDoorP2
import Derived.SevenTiedAt
import Derived.Test.YtbmpcbbimefmoaaGreatDoorCards
import Derived.Test.YtbmpcbbimefmoaaGreatDoorTie
namespace Go.Proofs.YtbmpcbbimefmoaaGreatDoor
open Go Go.TA Go.ChangeShapes Go.WideShapes Go.ChangeAt Go.RowKit
set_option maxRecDepth 100000 in
theorem law_lifted (os:Os) (started:os.Started) (H:Type) (enc:TypeId×Value->H) :
  ReturnsInHanded {} Tryz.checked os 3 .any (fun w args=>(Rows.transferAnswersSpec.pre enc Tryz.prog Tryz.f3 Rows.transferAnswersRow.domain false w args/\laidMetH Tryz.prog Rows.transferAnswersRow.laid w)/\sizedMet enc Tryz.prog Tryz.f3 (OpenSpec.ofChange Rows.transferAnswersSpec) false w args)
   (Rows.transferAnswersSpec.post enc Tryz.prog Tryz.f3 false true false false):=by
 refine returnsInHanded_of_change_and (C:=Tryz.checked) (X:=fun w _=>laidMetH Tryz.prog Rows.transferAnswersRow.laid w) (fun _ _ _ hh h=>h.of_heap hh) Tryz.own started kj Tryz.func3
  (ChangeSpec.witness_shaped (enc:=enc) (C:=Tryz.checked) (os:=os) (X:=fun w _=>laidMetH Tryz.prog Rows.transferAnswersRow.laid w) false (World.laidAll Tryz.prog os Rows.transferAnswersRow.laid) #[.slice none 0 0,.agg #[.int .i64 0,.int .i64 0,.slice none 0 0,.slice none 0 0,.slice none 0 0,.slice none 0 0,.slice none 0 0,.slice none 0 0,.slice none 0 0,.slice none 0 0],.slice none 0 0,.string ⟨#[]⟩,.int .i64 0,.int .i64 0] 8 (World.laidAll_os _ _ _)
   (World.shaped_of_ZipB kj kj) kj kj kj
   (by rw[MakeChecks.laidMetH_plain _ _ _ kj]; exact laidMet_laidAll _ kj kj)) ?_
 intro W base args ds gs before hval0 hW hc hwt hL _
 have hval:∀ (j:Nat) t v,Tryz.f3.params[j]? = some t->args[j]? = some v->Value.okWide Tryz.prog W .any base t v:=hval0
 have hW':=hW
 obtain⟨p,q,hA0,hV,rfl,_,_⟩:=hW
 have hA:DataW.TrodAll enc Tryz.prog W 0 (fun _=>true) true Tryz.f3.params.toList args.toList ds p:=hA0
 rw[Tryz.params3] at hA hval hwt
 obtain⟨rfl,rfl⟩:=trodVars_none hV
 clear hA0 hval0
 simp only[y2v] at hW'
 have hlt:∀ x∈p,x.block<W.heap.size:=fun x hx=>by simpa using hW'.lt x hx
 obtain⟨v0,l0,d0,s0,p0,q0,e0,rfl,_,h0,hB⟩:=trodAll_cons hA
 obtain⟨v1,l1,d1,s1,p1,q1,rfl,rfl,_,h1,hB⟩:=trodAll_cons hB
 obtain⟨v2,l2,d2,s2,p2,q2,rfl,rfl,_,h2,hB⟩:=trodAll_cons hB
 obtain⟨v3,l3,d3,s3,p3,q3,rfl,rfl,_,h3,hB⟩:=trodAll_cons hB
 obtain⟨v4,l4,d4,s4,p4,q4,rfl,rfl,_,h4,hB⟩:=trodAll_cons hB
 obtain⟨v5,l5,d5,s5,p5,q5,rfl,rfl,_,h5,hB⟩:=trodAll_cons hB
 obtain⟨rfl,rfl,_⟩:=trodAll_nil hB
 obtain rfl:=zmy e0
 obtain⟨w0,hwt⟩:=z4p (ts:=[31,32,9,3,3]++_) (r:=[d1,d2,d3,d4,d5]++[]) hwt
 obtain⟨w1,hwt⟩:=z4p (ts:=[32,9,3,3]++_) (r:=[d2,d3,d4,d5]++[]) hwt
 obtain⟨w2,hwt⟩:=z4p (ts:=[9,3,3]++_) (r:=[d3,d4,d5]++[]) hwt
 obtain⟨w3,hwt⟩:=z4p (ts:=[3,3]++_) (r:=[d4,d5]++[]) hwt
 obtain⟨w4,hwt⟩:=z4p (ts:=[3]++_) (r:=[d5]++[]) hwt
 obtain⟨w5,hwt⟩:=z4p (ts:=_) (r:=[]) hwt
 obtain⟨_,_,_,rfl⟩:=okWide_slice Tryz.underlying22 (hval 0 22 v0 rfl rfl)
 obtain⟨cs1,rfl,_⟩:=okWide_struct Tryz.underlying31 (hval 1 31 v1 rfl rfl)
 obtain⟨_,_,_,rfl⟩:=okWide_slice Tryz.underlying32 (hval 2 32 v2 rfl rfl)
 obtain⟨_,rfl⟩:=okWide_string Tryz.underlying9 (hval 3 9 v3 rfl rfl)
 obtain⟨x0,y0,z0⟩:=za1 (zr zl9) rfl (fun _=>rfl) h0 w0
 obtain⟨x1,y1,z1⟩:=zl8 zhl (fun _=>rfl) h1 w1
 obtain⟨x2,y2,z2⟩:=za1 zjn rfl (fun _=>rfl) h2 w2
 obtain⟨x3,y3,z3⟩:=za1 z2u rfl (fun _=>rfl) h3 w3
 obtain⟨x4,y4,z4⟩:=zeh Tryz.underlying3 (hval 4 3 v4 rfl rfl) h4
 obtain⟨x5,y5,z5⟩:=zeh Tryz.underlying3 (hval 5 3 v5 rfl rfl) h5
 refine (zhb (us:=[_,_,_,_,_,_]) (F_q6_ok true (z7t x0 x1 x2 x3 x4 x5 z1 z2)) (zei hL) (.cons _ _ _ _ y0 (.cons _ _ _ _ y1 (.cons _ _ _ _ y2 (.cons _ _ _ _ y3 (.cons _ _ _ _ y4 (.cons _ _ _ _ y5 .nil))))))).mono fun e W' ⟨he,hn⟩=>?_
 subst he
 exact⟨_,rfl,⟨_,_,_,[],_,[],hW',trodAll_mk1 (shut_bool Tryz.underlying4 _),zcq Tryz.laidOut hn (by decide +kernel) hA hlt,rfl,hn.frame _,fun h=>by cases h⟩⟩
theorem law_holds:Rows.TransferAnswersSaid :=
 OpenClaim.holds_of_wide 3 Tryz.f3 rfl rfl rfl rfl rfl rfl rfl ⟨rfl,rfl,rfl,rfl,rfl⟩ rfl rfl rfl rfl rfl kj Tryz.func3 z6z
  (y2m kj) (by unfold Func.isWrapper; first | (rw[y7 (by decide +kernel)]; kernel_rfl) | (rw[y6 (by decide +kernel)]; exact⟨rfl,rfl⟩))
  (fun os started H enc _=>law_lifted os started H enc)
theorem card_holds:Rows.TransferAnswersCardSaid :=
 Claim7.holds_tied_plain_at .later [] [.data, .data, .data, .data, .sentinel, .sentinel, .pinned] true (true, "d96e80945e110123adf6408573ff0939cfd564dad6fa581a434c8406cdeceab1") true law_holds (fun _ h => by cases h) kj (fun _ h => by cases h) transferAnswers_row_tie rfl ⟨rfl, rfl⟩ kj rfl
  (fun f fn hf hfn=>by
   obtain rfl : f = 3 := y15 ((show Tryz.prog.funcNamed "treasury/treasurylaw09.TransferAnswers" = some 3 from kj).symm.trans hf) |>.symm
   obtain rfl:fn=Tryz.f3:=(y15 (Tryz.func3.symm.trans hfn)).symm
   exact⟨kj,fun j t ht=>by
    rw[Tryz.params3] at ht
    have hm:t∈[22,31,32,9,3,3]:=by simpa using Array.mem_of_getElem? ht
    have hall:([22,31,32,9,3,3].all fun u=>!Tryz.prog.wantsStandIn u)=true:=kj
    exact (show Tryz.prog.wantsStandIn t=false by simpa using y18.1 hall t hm)⟩)
  z7k
end Go.Proofs.YtbmpcbbimefmoaaGreatDoor
