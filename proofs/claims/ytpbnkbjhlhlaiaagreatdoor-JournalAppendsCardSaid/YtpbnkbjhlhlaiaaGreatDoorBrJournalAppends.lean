/- treasurylaw16.JournalAppends: whatever the input, the call returns true, and each argument reads afterwards as it did. No condition. -/
import Derived.Test.YtpbnkbjhlhlaiaaGreatDoorB2
import Derived.Test.YtpbnkbjhlhlaiaaGreatDoorB10
import Derived.Test.YtpbnkbjhlhlaiaaGreatDoorB11
import Derived.Test.YtpbnkbjhlhlaiaaGreatDoorP5
import Derived.SevenTiedAt
import Derived.Test.YtpbnkbjhlhlaiaaGreatDoorCards
import Derived.Test.YtpbnkbjhlhlaiaaGreatDoorTie
namespace Go.Proofs.YtpbnkbjhlhlaiaaGreatDoor
open Go Go.TA Go.ChangeShapes Go.WideShapes Go.ChangeAt Go.RowKit
set_option maxRecDepth 100000 in
theorem law_lifted (os:Os) (started:os.Started) (H:Type) (enc:TypeId×Value->H) :
  ReturnsInHanded {} Tryz.checked os 6 .any (fun w args=>(Rows.journalAppendsSpec.pre enc Tryz.prog Tryz.f6 Rows.journalAppendsRow.domain false w args/\laidMetH Tryz.prog Rows.journalAppendsRow.laid w)/\sizedMet enc Tryz.prog Tryz.f6 (OpenSpec.ofChange Rows.journalAppendsSpec) false w args)
   (Rows.journalAppendsSpec.post enc Tryz.prog Tryz.f6 false true false false):=by
 refine returnsInHanded_of_change_and (C:=Tryz.checked) (X:=fun w _=>laidMetH Tryz.prog Rows.journalAppendsRow.laid w) (fun _ _ _ hh h=>h.of_heap hh) Tryz.own started kj Tryz.func6
  (ChangeSpec.witness_shaped (enc:=enc) (C:=Tryz.checked) (os:=os) (X:=fun w _=>laidMetH Tryz.prog Rows.journalAppendsRow.laid w) false (World.laidAll Tryz.prog os Rows.journalAppendsRow.laid) #[.slice none 0 0] 8 (World.laidAll_os _ _ _)
   (World.shaped_of_ZipB kj kj) kj kj kj
   (by rw[MakeChecks.laidMetH_plain _ _ _ kj]; exact laidMet_laidAll _ kj kj)) ?_
 intro W base args ds gs before hval0 hW hc hwt hL _
 have hval:∀ (j:Nat) t v,Tryz.f6.params[j]? = some t->args[j]? = some v->Value.okWide Tryz.prog W .any base t v:=hval0
 have hW':=hW
 obtain⟨p,q,hA0,hV,rfl,_,_⟩:=hW
 have hA:DataW.TrodAll enc Tryz.prog W 0 (fun _=>true) true Tryz.f6.params.toList args.toList ds p:=hA0
 rw[Tryz.params6] at hA hval hwt
 obtain⟨rfl,rfl⟩:=trodVars_none hV
 clear hA0 hval0
 simp only[y2v] at hW'
 have hlt:∀ x∈p,x.block<W.heap.size:=fun x hx=>by simpa using hW'.lt x hx
 obtain⟨v0,l0,d0,s0,p0,q0,e0,rfl,_,h0,hB⟩:=trodAll_cons hA
 obtain⟨rfl,rfl,_⟩:=trodAll_nil hB
 obtain rfl:=zqh e0
 obtain⟨w0,hwt⟩:=zcb (ts:=_) (r:=[]) hwt
 obtain⟨_,_,_,rfl⟩:=okWide_slice Tryz.underlying22 (hval 0 22 v0 rfl rfl)
 obtain⟨x0,y0,z0⟩:=zgy (z29 zou) rfl (fun _=>rfl) h0 w0
 refine (zk9 (us:=[_]) (F_q1m_ok true (zlf x0)) (zgl hL) (.cons _ _ _ _ y0 .nil)).mono fun e W' ⟨he,hn⟩=>?_
 subst he
 exact⟨_,rfl,⟨_,_,_,[],_,[],hW',trodAll_mk1 (shut_bool Tryz.underlying4 _),zej Tryz.laidOut hn (by decide +kernel) hA hlt,rfl,hn.frame _,fun h=>by cases h⟩⟩
theorem law_holds:Rows.JournalAppendsSaid :=
 OpenClaim.holds_of_wide 6 Tryz.f6 rfl rfl rfl rfl rfl rfl rfl ⟨rfl,rfl,rfl,rfl,rfl⟩ rfl rfl rfl rfl rfl kj Tryz.func6 zla
  (y3k kj) (by unfold Func.isWrapper; first | (rw[y7 (by decide +kernel)]; kernel_rfl) | (rw[y6 (by decide +kernel)]; exact⟨rfl,rfl⟩))
  (fun os started H enc _=>law_lifted os started H enc)
theorem card_holds:Rows.JournalAppendsCardSaid :=
 Claim7.holds_tied_plain_at .later [] [.data, .data, .data, .data, .sentinel, .sentinel, .listed, .data, .pinned] true (true, "a046f959167196f1947efdc373cf594bcaa8bf901ae25245f32420e4361af9c6") true law_holds (fun _ h => by cases h) kj (fun _ h => by cases h) journalAppends_row_tie rfl ⟨rfl, rfl⟩ kj rfl
  (fun f fn hf hfn=>by
   obtain rfl : f = 6 := yw ((show Tryz.prog.funcNamed "treasury/treasurylaw16.JournalAppends" = some 6 from kj).symm.trans hf) |>.symm
   obtain rfl:fn=Tryz.f6:=(yw (Tryz.func6.symm.trans hfn)).symm
   exact⟨kj,fun j t ht=>by
    rw[Tryz.params6] at ht
    have hm:t∈[22]:=by simpa using Array.mem_of_getElem? ht
    have hall:([22].all fun u=>!Tryz.prog.wantsStandIn u)=true:=kj
    exact (show Tryz.prog.wantsStandIn t=false by simpa using y1o.1 hall t hm)⟩)
  zlg
end Go.Proofs.YtpbnkbjhlhlaiaaGreatDoor
