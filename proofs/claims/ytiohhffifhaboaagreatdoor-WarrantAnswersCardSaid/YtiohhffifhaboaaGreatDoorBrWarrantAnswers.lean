/- treasurylaw19.WarrantAnswers: whatever the input, the call returns true, and each argument reads afterwards as it did. No condition. -/
import Derived.Test.YtiohhffifhaboaaGreatDoorB2
import Derived.Test.YtiohhffifhaboaaGreatDoorB3
import Derived.Test.YtiohhffifhaboaaGreatDoorB4
import Derived.Test.YtiohhffifhaboaaGreatDoorP5
import Derived.SevenTiedAt
import Derived.Test.YtiohhffifhaboaaGreatDoorCards
import Derived.Test.YtiohhffifhaboaaGreatDoorTie
namespace Go.Proofs.YtiohhffifhaboaaGreatDoor
open Go Go.TA Go.ChangeShapes Go.WideShapes Go.ChangeAt Go.RowKit
set_option maxRecDepth 100000 in
theorem law_lifted (os:Os) (started:os.Started) (H:Type) (enc:TypeId×Value->H) :
  ReturnsInHanded {} Tryz.checked os 4 .any (fun w args=>(Rows.warrantAnswersSpec.pre enc Tryz.prog Tryz.f4 Rows.warrantAnswersRow.domain false w args/\laidMetH Tryz.prog Rows.warrantAnswersRow.laid w)/\sizedMet enc Tryz.prog Tryz.f4 (OpenSpec.ofChange Rows.warrantAnswersSpec) false w args)
   (Rows.warrantAnswersSpec.post enc Tryz.prog Tryz.f4 false true false false):=by
 refine returnsInHanded_of_change_and (C:=Tryz.checked) (X:=fun w _=>laidMetH Tryz.prog Rows.warrantAnswersRow.laid w) (fun _ _ _ hh h=>h.of_heap hh) Tryz.own started kj Tryz.func4
  (ChangeSpec.witness_shaped (enc:=enc) (C:=Tryz.checked) (os:=os) (X:=fun w _=>laidMetH Tryz.prog Rows.warrantAnswersRow.laid w) false (World.laidAll Tryz.prog os Rows.warrantAnswersRow.laid) #[.slice none 0 0,.agg #[.int .i64 0,.int .i64 0,.string ⟨#[]⟩,.int .i64 0,.int .i64 0,.int .i64 0,.int .i64 0,.int .i64 0,.int .i64 0,.int .i64 0,.int .i64 0,.int .i64 0,.int .u64 0,.int .u64 0],.agg #[.int .i64 0,.slice none 0 0,.slice none 0 0,.slice none 0 0,.slice none 0 0,.slice none 0 0],.slice none 0 0,.int .i64 0,.int .i64 0,.slice none 0 0,.string ⟨#[]⟩] 8 (World.laidAll_os _ _ _)
   (World.shaped_of_ZipB kj kj) kj kj kj
   (by rw[MakeChecks.laidMetH_plain _ _ _ kj]; exact laidMet_laidAll _ kj kj)) ?_
 intro W base args ds gs before hval0 hW hc hwt hL _
 have hval:∀ (j:Nat) t v,Tryz.f4.params[j]? = some t->args[j]? = some v->Value.okWide Tryz.prog W .any base t v:=hval0
 have hW':=hW
 obtain⟨p,q,hA0,hV,rfl,_,_⟩:=hW
 have hA:DataW.TrodAll enc Tryz.prog W 0 (fun _=>true) true Tryz.f4.params.toList args.toList ds p:=hA0
 rw[Tryz.params4] at hA hval hwt
 obtain⟨rfl,rfl⟩:=trodVars_none hV
 clear hA0 hval0
 simp only[y3d] at hW'
 have hlt:∀ x∈p,x.block<W.heap.size:=fun x hx=>by simpa using hW'.lt x hx
 obtain⟨v0,l0,d0,s0,p0,q0,e0,rfl,_,h0,hB⟩:=trodAll_cons hA
 obtain⟨v1,l1,d1,s1,p1,q1,rfl,rfl,_,h1,hB⟩:=trodAll_cons hB
 obtain⟨v2,l2,d2,s2,p2,q2,rfl,rfl,_,h2,hB⟩:=trodAll_cons hB
 obtain⟨v3,l3,d3,s3,p3,q3,rfl,rfl,_,h3,hB⟩:=trodAll_cons hB
 obtain⟨v4,l4,d4,s4,p4,q4,rfl,rfl,_,h4,hB⟩:=trodAll_cons hB
 obtain⟨v5,l5,d5,s5,p5,q5,rfl,rfl,_,h5,hB⟩:=trodAll_cons hB
 obtain⟨v6,l6,d6,s6,p6,q6,rfl,rfl,_,h6,hB⟩:=trodAll_cons hB
 obtain⟨v7,l7,d7,s7,p7,q7,rfl,rfl,_,h7,hB⟩:=trodAll_cons hB
 obtain⟨rfl,rfl,_⟩:=trodAll_nil hB
 obtain rfl:=zo7 e0
 obtain⟨w0,hwt⟩:=z36 (ts:=[29,47,26,3,3,48,9]++_) (r:=[d1,d2,d3,d4,d5,d6,d7]++[]) hwt
 obtain⟨w1,hwt⟩:=z36 (ts:=[47,26,3,3,48,9]++_) (r:=[d2,d3,d4,d5,d6,d7]++[]) hwt
 obtain⟨w2,hwt⟩:=z36 (ts:=[26,3,3,48,9]++_) (r:=[d3,d4,d5,d6,d7]++[]) hwt
 obtain⟨w3,hwt⟩:=z36 (ts:=[3,3,48,9]++_) (r:=[d4,d5,d6,d7]++[]) hwt
 obtain⟨w4,hwt⟩:=z36 (ts:=[3,48,9]++_) (r:=[d5,d6,d7]++[]) hwt
 obtain⟨w5,hwt⟩:=z36 (ts:=[48,9]++_) (r:=[d6,d7]++[]) hwt
 obtain⟨w6,hwt⟩:=z36 (ts:=[9]++_) (r:=[d7]++[]) hwt
 obtain⟨w7,hwt⟩:=z36 (ts:=_) (r:=[]) hwt
 obtain⟨_,_,_,rfl⟩:=okWide_slice Tryz.underlying22 (hval 0 22 v0 rfl rfl)
 obtain⟨cs1,rfl,_⟩:=okWide_struct Tryz.underlying29 (hval 1 29 v1 rfl rfl)
 obtain⟨cs2,rfl,_⟩:=okWide_struct Tryz.underlying47 (hval 2 47 v2 rfl rfl)
 obtain⟨_,_,_,rfl⟩:=okWide_slice Tryz.underlying26 (hval 3 26 v3 rfl rfl)
 obtain⟨_,_,_,rfl⟩:=okWide_slice Tryz.underlying48 (hval 6 48 v6 rfl rfl)
 obtain⟨_,rfl⟩:=okWide_string Tryz.underlying9 (hval 7 9 v7 rfl rfl)
 obtain⟨x0,y0,z0⟩:=z7g (z1d zmk) rfl (fun _=>rfl) h0 w0
 obtain⟨x1,y1,z1⟩:=zez zby (fun _=>rfl) h1 w1
 obtain⟨x2,y2,z2⟩:=zez (z1d zf1) (fun _=>rfl) h2 w2
 obtain⟨x3,y3,z3⟩:=z7g (z1d zmq) rfl (fun _=>rfl) h3 w3
 obtain⟨x4,y4,z4⟩:=zei Tryz.underlying3 (hval 4 3 v4 rfl rfl) h4
 obtain⟨x5,y5,z5⟩:=zei Tryz.underlying3 (hval 5 3 v5 rfl rfl) h5
 obtain⟨x6,y6,z6⟩:=z7g zkq rfl (fun _=>rfl) h6 w6
 obtain⟨x7,y7,z7⟩:=z7g zf0 rfl (fun _=>rfl) h7 w7
 refine (zie (us:=[_,_,_,_,_,_,_,_]) (F_q0_ok true (z80 x0 x1 x2 x3 x4 x5 x6 x7 z1 z6)) (zek hL) (.cons _ _ _ _ y0 (.cons _ _ _ _ y1 (.cons _ _ _ _ y2 (.cons _ _ _ _ y3 (.cons _ _ _ _ y4 (.cons _ _ _ _ y5 (.cons _ _ _ _ y6 (.cons _ _ _ _ y7 .nil))))))))).mono fun e W' ⟨he,hn⟩=>?_
 subst he
 exact⟨_,rfl,⟨_,_,_,[],_,[],hW',trodAll_mk1 (shut_bool Tryz.underlying4 _),zco Tryz.laidOut hn (by decide +kernel) hA hlt,rfl,hn.frame _,fun h=>by cases h⟩⟩
theorem law_holds:Rows.WarrantAnswersSaid :=
 OpenClaim.holds_of_wide 4 Tryz.f4 rfl rfl rfl rfl rfl rfl rfl ⟨rfl,rfl,rfl,rfl,rfl⟩ rfl rfl rfl rfl rfl kj Tryz.func4 z7h
  (y2s kj) (by unfold Func.isWrapper; first | (rw[y9 (by decide +kernel)]; kernel_rfl) | (rw[y8 (by decide +kernel)]; exact⟨rfl,rfl⟩))
  (fun os started H enc _=>law_lifted os started H enc)
theorem card_holds:Rows.WarrantAnswersCardSaid :=
 Claim7.holds_tied_plain_at .later [] [.data, .data, .data, .data, .sentinel, .sentinel, .pinned] true (true, "94107f67c3e70534f73e9b8f5ae45e5e118cded14c0de2d552b818730d258968") true law_holds (fun _ h => by cases h) kj (fun _ h => by cases h) warrantAnswers_row_tie rfl ⟨rfl, rfl⟩ kj rfl
  (fun f fn hf hfn=>by
   obtain rfl : f = 4 := yn ((show Tryz.prog.funcNamed "treasury/treasurylaw19.WarrantAnswers" = some 4 from kj).symm.trans hf) |>.symm
   obtain rfl:fn=Tryz.f4:=(yn (Tryz.func4.symm.trans hfn)).symm
   exact⟨kj,fun j t ht=>by
    rw[Tryz.params4] at ht
    have hm:t∈[22,29,47,26,3,3,48,9]:=by simpa using Array.mem_of_getElem? ht
    have hall:([22,29,47,26,3,3,48,9].all fun u=>!Tryz.prog.wantsStandIn u)=true:=kj
    exact (show Tryz.prog.wantsStandIn t=false by simpa using y1i.1 hall t hm)⟩)
  z7y
end Go.Proofs.YtiohhffifhaboaaGreatDoor
