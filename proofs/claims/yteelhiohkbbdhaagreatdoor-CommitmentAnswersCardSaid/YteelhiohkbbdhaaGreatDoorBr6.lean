/- A part of the proof: the statement out of the plain law. No condition. -/
import Derived.Test.YteelhiohkbbdhaaGreatDoorBrb
import Derived.Test.YteelhiohkbbdhaaGreatDoorQM
import Derived.SevenTiedAt
import Derived.Test.YteelhiohkbbdhaaGreatDoorCards
import Derived.Test.YteelhiohkbbdhaaGreatDoorTie
namespace Go.Proofs.YteelhiohkbbdhaaGreatDoor
open Go Go.TA Go.ChangeShapes Go.WideShapes Go.ChangeAt Go.RowKit

set_option maxRecDepth 100000 in
theorem law_lifted (os : Os) (started : os.Started) (H : Type) (enc : TypeId × Value → H) :
    ReturnsInHanded {} Tryz.checked os 6 .any (fun w args => (Rows.commitmentAnswersSpec.pre enc Tryz.prog Tryz.f6 Rows.commitmentAnswersRow.domain false w args ∧ laidMetH Tryz.prog Rows.commitmentAnswersRow.laid w) ∧ sizedMet enc Tryz.prog Tryz.f6 (OpenSpec.ofChange Rows.commitmentAnswersSpec) false w args)
      (Rows.commitmentAnswersSpec.post enc Tryz.prog Tryz.f6 false true false false) := by
  refine returnsInHanded_of_change_and (C := Tryz.checked) (X := fun w _ => laidMetH Tryz.prog Rows.commitmentAnswersRow.laid w) (fun _ _ _ hh h => h.of_heap hh) Tryz.own started (by kernel_rfl) Tryz.func6
    (ChangeSpec.witness_shaped (enc := enc) (C := Tryz.checked) (os := os) (X := fun w _ => laidMetH Tryz.prog Rows.commitmentAnswersRow.laid w) false (World.laidAll Tryz.prog os Rows.commitmentAnswersRow.laid) #[.slice none 0 0, .agg #[.slice none 0 0, .slice none 0 0, .slice none 0 0, .slice none 0 0], .string ⟨#[]⟩, .int .i64 0, .int .i64 0] 8 (World.laidAll_os _ _ _)
      (World.shaped_of_ZipB (by kernel_rfl) (by kernel_rfl)) (by kernel_rfl) (by kernel_rfl) (by kernel_rfl)
      (by rw [MakeChecks.laidMetH_plain _ _ _ (by kernel_rfl)]; exact laidMet_laidAll _ (by kernel_rfl) (by kernel_rfl))) ?_
  intro W base args ds gs before hval0 hW hc _ hL _
  have hval : ∀ (j : Nat) t v, Tryz.f6.params[j]? = some t → args[j]? = some v → Value.okWide Tryz.prog W .any base t v := hval0
  have hW' := hW
  obtain ⟨p, q, hA0, hV, rfl, _, _⟩ := hW
  have hA : DataW.TrodAll enc Tryz.prog W 0 (fun _ => true) true Tryz.f6.params.toList args.toList ds p := hA0
  rw [Tryz.params6] at hA hval
  obtain ⟨rfl, rfl⟩ := trodVars_none hV
  clear hA0 hval0
  simp only [List.append_nil] at hW'
  have hlt : ∀ x ∈ p, x.block < W.heap.size := fun x hx => by simpa using hW'.lt x hx
  obtain ⟨v0, l0, d0, s0, p0, q0, e0, rfl, _, h0, hB⟩ := trodAll_cons hA
  obtain ⟨v1, l1, d1, s1, p1, q1, rfl, rfl, _, h1, hB⟩ := trodAll_cons hB
  obtain ⟨v2, l2, d2, s2, p2, q2, rfl, rfl, _, h2, hB⟩ := trodAll_cons hB
  obtain ⟨v3, l3, d3, s3, p3, q3, rfl, rfl, _, h3, hB⟩ := trodAll_cons hB
  obtain ⟨v4, l4, d4, s4, p4, q4, rfl, rfl, _, h4, hB⟩ := trodAll_cons hB
  obtain ⟨rfl, rfl, _⟩ := trodAll_nil hB
  obtain rfl := args_of e0
  obtain ⟨_, _, _, rfl⟩ := okWide_slice Tryz.underlying22 (hval 0 22 v0 rfl rfl)
  obtain ⟨cs1, rfl, _⟩ := okWide_struct Tryz.underlying30 (hval 1 30 v1 rfl rfl)
  obtain ⟨_, rfl⟩ := okWide_string Tryz.underlying9 (hval 2 9 v2 rfl rfl)
  obtain ⟨t, ht, _⟩ := arg_one readsInts rfl (fun _ => rfl) h0
  obtain ⟨raw, hraw, _⟩ := arg_agg readsBook (fun _ => rfl) h1
  obtain ⟨co, hco, _⟩ := arg_one readsStr rfl (fun _ => rfl) h2
  obtain ⟨a, ha, _⟩ := int_read Tryz.underlying3 (hval 3 3 v3 rfl rfl) h3
  obtain ⟨b, hb, _⟩ := int_read Tryz.underlying3 (hval 4 3 v4 rfl rfl) h4
  refine (calls_true (us := [_, _, _, _, _]) (F_w14_CommitmentAnswers_ok true (CommitmentAnswers_true t raw co a b)) (glob_of_laid hL) (.cons _ _ _ _ ht (.cons _ _ _ _ hraw (.cons _ _ _ _ hco (.cons _ _ _ _ ha (.cons _ _ _ _ hb .nil)))))).mono fun e W' ⟨he, hn⟩ => ?_
  subst he
  exact ⟨_, rfl, ⟨_, _, _, [], _, [], hW', trodAll_mk1 (shut_bool Tryz.underlying4 _), below_all Tryz.laidOut hn (by decide +kernel) hA hlt, rfl, hn.frame _, fun h => by cases h⟩⟩

theorem law_holds : Rows.CommitmentAnswersSaid :=
  OpenClaim.holds_of_wide 6 Tryz.f6 rfl rfl rfl rfl rfl rfl rfl ⟨rfl, rfl, rfl, rfl, rfl⟩ rfl rfl rfl rfl rfl (by kernel_rfl) Tryz.func6 (by kernel_rfl)
    (of_decide_eq_true (by kernel_rfl)) (by unfold Func.isWrapper; first | (rw [if_pos (by decide +kernel)]; kernel_rfl) | (rw [if_neg (by decide +kernel)]; exact ⟨rfl, rfl⟩))
    (fun os started H enc _ => law_lifted os started H enc)

theorem card_holds : Rows.CommitmentAnswersCardSaid :=
  Claim7.holds_tied_plain_at .later [] [.data, .data, .data, .data, .sentinel, .sentinel, .pinned] true (true, "f6c5e6cbde36c75aea421e8c9339b2c19f411cadce845df8987b6cc4377eada5") true law_holds (fun _ h => by cases h) (by kernel_rfl) (fun _ h => by cases h) commitmentAnswers_row_tie rfl ⟨rfl, rfl⟩ (by kernel_rfl) rfl
    (fun f fn hf hfn => by
      obtain rfl : f = 6 := Option.some.inj ((show Tryz.prog.funcNamed "treasury/treasurylaw14.CommitmentAnswers" = some 6 by kernel_rfl).symm.trans hf) |>.symm
      obtain rfl : fn = Tryz.f6 := (Option.some.inj (Tryz.func6.symm.trans hfn)).symm
      exact ⟨by kernel_rfl, fun j t ht => by
        rw [Tryz.params6] at ht
        have hm : t ∈ [22, 30, 9, 3, 3] := by simpa using Array.mem_of_getElem? ht
        have hall : ([22, 30, 9, 3, 3].all fun u => !Tryz.prog.wantsStandIn u) = true := by kernel_rfl
        exact (show Tryz.prog.wantsStandIn t = false by simpa using List.all_eq_true.1 hall t hm)⟩)
    (by kernel_rfl)
end Go.Proofs.YteelhiohkbbdhaaGreatDoor
