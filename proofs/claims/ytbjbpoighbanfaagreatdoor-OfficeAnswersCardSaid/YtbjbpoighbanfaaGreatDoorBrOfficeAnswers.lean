/- treasurylaw15.OfficeAnswers: whatever the input, the call returns true, and each argument reads afterwards as it did. No condition. -/
import Derived.Test.YtbjbpoighbanfaaGreatDoorB2
import Derived.Test.YtbjbpoighbanfaaGreatDoorP2
import Derived.SevenTiedAt
import Derived.Test.YtbjbpoighbanfaaGreatDoorCards
import Derived.Test.YtbjbpoighbanfaaGreatDoorTie
namespace Go.Proofs.YtbjbpoighbanfaaGreatDoor
open Go Go.TA Go.ChangeShapes Go.WideShapes Go.ChangeAt Go.RowKit
set_option maxRecDepth 100000 in
theorem law_lifted (os : Os) (started : os.Started) (H : Type) (enc : TypeId × Value → H) :
    ReturnsInHanded {} Tryz.checked os 7 .any (fun w args => (Rows.officeAnswersSpec.pre enc Tryz.prog Tryz.f7 Rows.officeAnswersRow.domain false w args ∧ laidMetH Tryz.prog Rows.officeAnswersRow.laid w) ∧ sizedMet enc Tryz.prog Tryz.f7 (OpenSpec.ofChange Rows.officeAnswersSpec) false w args)
      (Rows.officeAnswersSpec.post enc Tryz.prog Tryz.f7 false true false false) := by
  refine returnsInHanded_of_change_and (C := Tryz.checked) (X := fun w _ => laidMetH Tryz.prog Rows.officeAnswersRow.laid w) (fun _ _ _ hh h => h.of_heap hh) Tryz.own started (by kernel_rfl) Tryz.func7
    (ChangeSpec.witness_shaped (enc := enc) (C := Tryz.checked) (os := os) (X := fun w _ => laidMetH Tryz.prog Rows.officeAnswersRow.laid w) false (World.laidAll Tryz.prog os Rows.officeAnswersRow.laid) #[.slice none 0 0, .agg #[.int .i64 0, .slice none 0 0, .slice none 0 0, .slice none 0 0, .slice none 0 0, .slice none 0 0], .agg #[.int .i64 0, .string ⟨#[]⟩, .int .i64 0, .int .i64 0, .int .i64 0, .int .i64 0, .int .i64 0, .int .i64 0, .int .i64 0, .int .i64 0], .string ⟨#[]⟩, .int .i64 0, .int .i64 0] 8 (World.laidAll_os _ _ _)
      (World.shaped_of_ZipB (by kernel_rfl) (by kernel_rfl)) (by kernel_rfl) (by kernel_rfl) (by kernel_rfl)
      (by rw [MakeChecks.laidMetH_plain _ _ _ (by kernel_rfl)]; exact laidMet_laidAll _ (by kernel_rfl) (by kernel_rfl))) ?_
  intro W base args ds gs before hval0 hW hc hwt hL _
  have hval : ∀ (j : Nat) t v, Tryz.f7.params[j]? = some t → args[j]? = some v → Value.okWide Tryz.prog W .any base t v := hval0
  have hW' := hW
  obtain ⟨p, q, hA0, hV, rfl, _, _⟩ := hW
  have hA : DataW.TrodAll enc Tryz.prog W 0 (fun _ => true) true Tryz.f7.params.toList args.toList ds p := hA0
  rw [Tryz.params7] at hA hval hwt
  obtain ⟨rfl, rfl⟩ := trodVars_none hV
  clear hA0 hval0
  simp only [List.append_nil] at hW'
  have hlt : ∀ x ∈ p, x.block < W.heap.size := fun x hx => by simpa using hW'.lt x hx
  obtain ⟨v0, l0, d0, s0, p0, q0, e0, rfl, _, h0, hB⟩ := trodAll_cons hA
  obtain ⟨v1, l1, d1, s1, p1, q1, rfl, rfl, _, h1, hB⟩ := trodAll_cons hB
  obtain ⟨v2, l2, d2, s2, p2, q2, rfl, rfl, _, h2, hB⟩ := trodAll_cons hB
  obtain ⟨v3, l3, d3, s3, p3, q3, rfl, rfl, _, h3, hB⟩ := trodAll_cons hB
  obtain ⟨v4, l4, d4, s4, p4, q4, rfl, rfl, _, h4, hB⟩ := trodAll_cons hB
  obtain ⟨v5, l5, d5, s5, p5, q5, rfl, rfl, _, h5, hB⟩ := trodAll_cons hB
  obtain ⟨rfl, rfl, _⟩ := trodAll_nil hB
  obtain rfl := args_of e0
  obtain ⟨w0, hwt⟩ := wts_cons (ts := [33, 40, 9, 3, 3] ++ _) (r := [d1, d2, d3, d4, d5] ++ []) hwt
  obtain ⟨w1, hwt⟩ := wts_cons (ts := [40, 9, 3, 3] ++ _) (r := [d2, d3, d4, d5] ++ []) hwt
  obtain ⟨w2, hwt⟩ := wts_cons (ts := [9, 3, 3] ++ _) (r := [d3, d4, d5] ++ []) hwt
  obtain ⟨w3, hwt⟩ := wts_cons (ts := [3, 3] ++ _) (r := [d4, d5] ++ []) hwt
  obtain ⟨w4, hwt⟩ := wts_cons (ts := [3] ++ _) (r := [d5] ++ []) hwt
  obtain ⟨w5, hwt⟩ := wts_cons (ts := _) (r := []) hwt
  obtain ⟨_, _, _, rfl⟩ := okWide_slice Tryz.underlying22 (hval 0 22 v0 rfl rfl)
  obtain ⟨cs1, rfl, _⟩ := okWide_struct Tryz.underlying33 (hval 1 33 v1 rfl rfl)
  obtain ⟨cs2, rfl, _⟩ := okWide_struct Tryz.underlying40 (hval 2 40 v2 rfl rfl)
  obtain ⟨_, rfl⟩ := okWide_string Tryz.underlying9 (hval 3 9 v3 rfl rfl)
  obtain ⟨x0, y0, z0⟩ := argW_one (readsW_of readsL22) rfl (fun _ => rfl) h0 w0
  obtain ⟨x1, y1, z1⟩ := argW_agg (readsW_of reads_Office) (fun _ => rfl) h1 w1
  obtain ⟨x2, y2, z2⟩ := argW_agg readsW_Op (fun _ => rfl) h2 w2
  obtain ⟨x3, y3, z3⟩ := argW_one readsWS9 rfl (fun _ => rfl) h3 w3
  obtain ⟨x4, y4, z4⟩ := int_read Tryz.underlying3 (hval 4 3 v4 rfl rfl) h4
  obtain ⟨x5, y5, z5⟩ := int_read Tryz.underlying3 (hval 5 3 v5 rfl rfl) h5
  refine (calls_true (us := [_, _, _, _, _, _]) (F_w15_OfficeAnswers_ok true (OfficeAnswers_true x0 x1 x2 x3 x4 x5 (show _ from Nat.le_trans z2 (by decide)) (show _ from Nat.le_trans z3 (by decide)))) (glob_of_laid hL) (.cons _ _ _ _ y0 (.cons _ _ _ _ y1 (.cons _ _ _ _ y2 (.cons _ _ _ _ y3 (.cons _ _ _ _ y4 (.cons _ _ _ _ y5 .nil))))))).mono fun e W' ⟨he, hn⟩ => ?_
  subst he
  exact ⟨_, rfl, ⟨_, _, _, [], _, [], hW', trodAll_mk1 (shut_bool Tryz.underlying4 _), below_all Tryz.laidOut hn (by decide +kernel) hA hlt, rfl, hn.frame _, fun h => by cases h⟩⟩
theorem law_holds : Rows.OfficeAnswersSaid :=
  OpenClaim.holds_of_wide 7 Tryz.f7 rfl rfl rfl rfl rfl rfl rfl ⟨rfl, rfl, rfl, rfl, rfl⟩ rfl rfl rfl rfl rfl (by kernel_rfl) Tryz.func7 (by kernel_rfl)
    (of_decide_eq_true (by kernel_rfl)) (by unfold Func.isWrapper; first | (rw [if_pos (by decide +kernel)]; kernel_rfl) | (rw [if_neg (by decide +kernel)]; exact ⟨rfl, rfl⟩))
    (fun os started H enc _ => law_lifted os started H enc)
theorem card_holds : Rows.OfficeAnswersCardSaid :=
  Claim7.holds_tied_plain_at .later [] [.data, .data, .data, .data, .sentinel, .sentinel, .pinned] true (true, "a5b0b8145ba71cfda184fbec935f05896da9334911c9fb7fef6f3577770f6b4c") true law_holds (fun _ h => by cases h) (by kernel_rfl) (fun _ h => by cases h) officeAnswers_row_tie rfl ⟨rfl, rfl⟩ (by kernel_rfl) rfl
    (fun f fn hf hfn => by
      obtain rfl : f = 7 := Option.some.inj ((show Tryz.prog.funcNamed "treasury/treasurylaw15.OfficeAnswers" = some 7 by kernel_rfl).symm.trans hf) |>.symm
      obtain rfl : fn = Tryz.f7 := (Option.some.inj (Tryz.func7.symm.trans hfn)).symm
      exact ⟨by kernel_rfl, fun j t ht => by
        rw [Tryz.params7] at ht
        have hm : t ∈ [22, 33, 40, 9, 3, 3] := by simpa using Array.mem_of_getElem? ht
        have hall : ([22, 33, 40, 9, 3, 3].all fun u => !Tryz.prog.wantsStandIn u) = true := by kernel_rfl
        exact (show Tryz.prog.wantsStandIn t = false by simpa using List.all_eq_true.1 hall t hm)⟩)
    (by kernel_rfl)
end Go.Proofs.YtbjbpoighbanfaaGreatDoor
