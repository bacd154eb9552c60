/- treasurylaw16.JournalAnswers: whatever the input, the call returns true, and each argument reads afterwards as it did. No condition. -/
import Derived.Test.YtpbnkbjhlhlaiaaGreatDoorB2
import Derived.Test.YtpbnkbjhlhlaiaaGreatDoorB12
import Derived.Test.YtpbnkbjhlhlaiaaGreatDoorB13
import Derived.Test.YtpbnkbjhlhlaiaaGreatDoorP7
import Derived.SevenTiedAt
import Derived.Test.YtpbnkbjhlhlaiaaGreatDoorCards
import Derived.Test.YtpbnkbjhlhlaiaaGreatDoorTie
namespace Go.Proofs.YtpbnkbjhlhlaiaaGreatDoor
open Go Go.TA Go.ChangeShapes Go.WideShapes Go.ChangeAt Go.RowKit
set_option maxRecDepth 100000 in
theorem law_lifted (os:Os) (started:os.Started) (H:Type) (enc:TypeId×Value->H) :
  ReturnsInHanded {} Tryz.checked os 7 .any (fun w args=>(Rows.journalAnswersSpec.pre enc Tryz.prog Tryz.f7 Rows.journalAnswersRow.domain false w args/\laidMetH Tryz.prog Rows.journalAnswersRow.laid w)/\sizedMet enc Tryz.prog Tryz.f7 (OpenSpec.ofChange Rows.journalAnswersSpec) false w args)
   (Rows.journalAnswersSpec.post enc Tryz.prog Tryz.f7 false true false false):=by
 refine returnsInHanded_of_change_and (C:=Tryz.checked) (X:=fun w _=>laidMetH Tryz.prog Rows.journalAnswersRow.laid w) (fun _ _ _ hh h=>h.of_heap hh) Tryz.own started kj Tryz.func7
  (ChangeSpec.witness_shaped (enc:=enc) (C:=Tryz.checked) (os:=os) (X:=fun w _=>laidMetH Tryz.prog Rows.journalAnswersRow.laid w) false (World.laidAll Tryz.prog os Rows.journalAnswersRow.laid) #[.slice none 0 0,.agg #[.int .i64 0,.slice none 0 0,.int .i64 0],.agg #[.int .i64 0,.string ⟨#[]⟩,.int .i64 0,.int .i64 0,.int .i64 0,.int .i64 0,.int .i64 0,.int .i64 0,.int .i64 0,.int .i64 0],.int .i64 0] 8 (World.laidAll_os _ _ _)
   (World.shaped_of_ZipB kj kj) kj kj kj
   (by rw[MakeChecks.laidMetH_plain _ _ _ kj]; exact laidMet_laidAll _ kj kj)) ?_
 intro W base args ds gs before hval0 hW hc hwt hL _
 have hval:∀ (j:Nat) t v,Tryz.f7.params[j]? = some t->args[j]? = some v->Value.okWide Tryz.prog W .any base t v:=hval0
 have hW':=hW
 obtain⟨p,q,hA0,hV,rfl,_,_⟩:=hW
 have hA:DataW.TrodAll enc Tryz.prog W 0 (fun _=>true) true Tryz.f7.params.toList args.toList ds p:=hA0
 rw[Tryz.params7] at hA hval hwt
 obtain⟨rfl,rfl⟩:=trodVars_none hV
 clear hA0 hval0
 simp only[y2v] at hW'
 have hlt:∀ x∈p,x.block<W.heap.size:=fun x hx=>by simpa using hW'.lt x hx
 obtain⟨v0,l0,d0,s0,p0,q0,e0,rfl,_,h0,hB⟩:=trodAll_cons hA
 obtain⟨v1,l1,d1,s1,p1,q1,rfl,rfl,_,h1,hB⟩:=trodAll_cons hB
 obtain⟨v2,l2,d2,s2,p2,q2,rfl,rfl,_,h2,hB⟩:=trodAll_cons hB
 obtain⟨v3,l3,d3,s3,p3,q3,rfl,rfl,_,h3,hB⟩:=trodAll_cons hB
 obtain⟨rfl,rfl,_⟩:=trodAll_nil hB
 obtain rfl:=zqh e0
 obtain⟨w0,hwt⟩:=zcb (ts:=[30,24,3]++_) (r:=[d1,d2,d3]++[]) hwt
 obtain⟨w1,hwt⟩:=zcb (ts:=[24,3]++_) (r:=[d2,d3]++[]) hwt
 obtain⟨w2,hwt⟩:=zcb (ts:=[3]++_) (r:=[d3]++[]) hwt
 obtain⟨w3,hwt⟩:=zcb (ts:=_) (r:=[]) hwt
 obtain⟨_,_,_,rfl⟩:=okWide_slice Tryz.underlying22 (hval 0 22 v0 rfl rfl)
 obtain⟨cs1,rfl,_⟩:=okWide_struct Tryz.underlying30 (hval 1 30 v1 rfl rfl)
 obtain⟨cs2,rfl,_⟩:=okWide_struct Tryz.underlying24 (hval 2 24 v2 rfl rfl)
 obtain⟨x0,y0,z0⟩:=zgy (z29 zou) rfl (fun _=>rfl) h0 w0
 obtain⟨x1,y1,z1⟩:=zot (z29 zrn) (fun _=>rfl) h1 w1
 obtain⟨x2,y2,z2⟩:=zot zmr (fun _=>rfl) h2 w2
 obtain⟨x3,y3,z3⟩:=zsr Tryz.underlying3 (hval 3 3 v3 rfl rfl) h3
 refine (zk9 (us:=[_,_,_,_]) (F_qo_ok true (zli x0 x1 x2 x3)) (zgl hL) (.cons _ _ _ _ y0 (.cons _ _ _ _ y1 (.cons _ _ _ _ y2 (.cons _ _ _ _ y3 .nil))))).mono fun e W' ⟨he,hn⟩=>?_
 subst he
 exact⟨_,rfl,⟨_,_,_,[],_,[],hW',trodAll_mk1 (shut_bool Tryz.underlying4 _),zej Tryz.laidOut hn (by decide +kernel) hA hlt,rfl,hn.frame _,fun h=>by cases h⟩⟩
theorem law_holds:Rows.JournalAnswersSaid :=
 OpenClaim.holds_of_wide 7 Tryz.f7 rfl rfl rfl rfl rfl rfl rfl ⟨rfl,rfl,rfl,rfl,rfl⟩ rfl rfl rfl rfl rfl kj Tryz.func7 zlb
  (y3k kj) (by unfold Func.isWrapper; first | (rw[y7 (by decide +kernel)]; kernel_rfl) | (rw[y6 (by decide +kernel)]; exact⟨rfl,rfl⟩))
  (fun os started H enc _=>law_lifted os started H enc)
theorem card_holds:Rows.JournalAnswersCardSaid :=
 Claim7.holds_tied_plain_at .later [] [.data, .data, .data, .data, .sentinel, .sentinel, .listed, .data, .pinned] true (true, "a046f959167196f1947efdc373cf594bcaa8bf901ae25245f32420e4361af9c6") true law_holds (fun _ h => by cases h) kj (fun _ h => by cases h) journalAnswers_row_tie rfl ⟨rfl, rfl⟩ kj rfl
  (fun f fn hf hfn=>by
   obtain rfl : f = 7 := yw ((show Tryz.prog.funcNamed "treasury/treasurylaw16.JournalAnswers" = some 7 from kj).symm.trans hf) |>.symm
   obtain rfl:fn=Tryz.f7:=(yw (Tryz.func7.symm.trans hfn)).symm
   exact⟨kj,fun j t ht=>by
    rw[Tryz.params7] at ht
    have hm:t∈[22,30,24,3]:=by simpa using Array.mem_of_getElem? ht
    have hall:([22,30,24,3].all fun u=>!Tryz.prog.wantsStandIn u)=true:=kj
    exact (show Tryz.prog.wantsStandIn t=false by simpa using y1o.1 hall t hm)⟩)
  zlh
end Go.Proofs.YtpbnkbjhlhlaiaaGreatDoor
