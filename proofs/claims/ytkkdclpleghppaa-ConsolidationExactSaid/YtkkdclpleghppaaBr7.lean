/- A part of the proof: the statement out of the plain law. No condition. -/
import Derived.Test.YtkkdclpleghppaaTaRow
import Derived.Test.YtkkdclpleghppaaG43P3
import Derived.Test.YtkkdclpleghppaaP43W
import Derived.Test.YtkkdclpleghppaaRows
namespace Go.Proofs.Ytkkdclpleghppaa
open Go Go.TA Go.ChangeShapes Go.WideShapes Go.ChangeAt Go.RowKit

theorem Try.own : ownKnob Try.prog.godebug = none := by kernel_rfl
theorem Try.laidOut : laidOutB Try.prog = true := by kernel_rfl

section
variable {H : Type} {enc : TypeId × Value → H} {W : World} {base : Nat} {spare : Nat → Bool} {held : Bool}
theorem readsInt : Reads enc Try.prog W base spare held 3 1 (DV.i .i64) (fun n => (Lit.int .i64 n).wf = true) := reads_int Try.underlying3
theorem readsInts : Reads enc Try.prog W base spare held 22 1 (eL (DV.i .i64)) (fun l => l.length ≤ maxLen ∧ ∀ n ∈ l, (Lit.int .i64 n).wf = true) := reads_slice Try.underlying22 (by kernel_rfl) (by decide) readsInt
theorem readsPosting : Reads enc Try.prog W base spare held 44 8 TApiPosting.e (fun _ => True) :=
  reads_struct Try.underlying44 (by kernel_rfl) (readsL_cons rfl (by kernel_rfl) readsInt (readsL_cons rfl (by kernel_rfl) readsInt (readsL_cons rfl (by kernel_rfl) readsInt (readsL_cons rfl (by kernel_rfl) readsInt (readsL_cons rfl (by kernel_rfl) readsInt
    (readsL_cons rfl (by kernel_rfl) readsInt (readsL_cons rfl (by kernel_rfl) readsInt (readsL_cons rfl (by kernel_rfl) readsInt readsL_nil)))))))) (by
      rintro _ ⟨a0, _, rfl, _, a1, _, rfl, _, a2, _, rfl, _, a3, _, rfl, _, a4, _, rfl, _, a5, _, rfl, _, a6, _, rfl, _, a7, _, rfl, _, rfl⟩
      exact ⟨⟨a0, a1, a2, a3, a4, a5, a6, a7⟩, rfl, trivial⟩)
theorem readsLedger : Reads enc Try.prog W base spare held 27 1 TApiLedger.e (fun _ => True) :=
  reads_struct Try.underlying27 (by kernel_rfl) (readsL_cons rfl (by kernel_rfl) (reads_slice Try.underlying25 (by kernel_rfl) (by decide) readsPosting) readsL_nil) (by
      rintro _ ⟨a0, _, rfl, _, rfl⟩
      exact ⟨⟨a0⟩, rfl, trivial⟩)
end

set_option maxRecDepth 100000 in
theorem law_lifted (os : Os) (started : os.Started) (H : Type) (enc : TypeId × Value → H) :
    ReturnsInHanded {} Try.checked os 7 .any (Rows.consolidationExactSpec.pre6 enc Try.prog Try.f7 Rows.consolidationExactRow.domain false) (Rows.consolidationExactSpec.post enc Try.prog Try.f7 false true false false) := by
  refine returnsInHanded_of_change (C := Try.checked) Try.own started (by kernel_rfl) Try.func7
    (ChangeSpec.witness6 (enc := enc) (C := Try.checked) false ⟨#[], #[.slice none 0 0, .agg #[.slice none 0 0], .slice none 0 0, .int .i64 0, .int .i64 0, .int .i64 0, .int .i64 0], []⟩ 8 (by kernel_rfl) (by kernel_rfl) (by kernel_rfl) (by kernel_rfl)) ?_
  intro W base args ds gs before hval0 hW _ _
  have hval : ∀ (j : Nat) t v, Try.f7.params[j]? = some t → args[j]? = some v → Value.okWide Try.prog W .any base t v := hval0
  have hW' := hW
  obtain ⟨p, q, hA0, hV, rfl, _, _⟩ := hW
  have hA : DataW.TrodAll enc Try.prog W 0 (fun _ => true) true Try.f7.params.toList args.toList ds p := hA0
  rw [Try.params7] at hA hval
  obtain ⟨rfl, rfl⟩ := trodVars_none hV
  clear hA0 hval0
  simp only [List.append_nil] at hW'
  have hlt : ∀ x ∈ p, x.block < W.heap.size := fun x hx => by simpa using hW'.lt x hx
  obtain ⟨v0, l0, d0, s0, p0, q0, e0, rfl, _, h0, hB⟩ := trodAll_cons hA
  obtain ⟨v1, l1, d1, s1, p1, q1, rfl, rfl, _, h1, hB⟩ := trodAll_cons hB
  obtain ⟨v2, l2, d2, s2, p2, q2, rfl, rfl, _, h2, hB⟩ := trodAll_cons hB
  obtain ⟨v3, l3, d3, s3, p3, q3, rfl, rfl, _, h3, hB⟩ := trodAll_cons hB
  obtain ⟨v4, l4, d4, s4, p4, q4, rfl, rfl, _, h4, hB⟩ := trodAll_cons hB
  obtain ⟨v5, l5, d5, s5, p5, q5, rfl, rfl, _, h5, hB⟩ := trodAll_cons hB
  obtain ⟨v6, l6, d6, s6, p6, q6, rfl, rfl, _, h6, hB⟩ := trodAll_cons hB
  obtain ⟨rfl, rfl, _⟩ := trodAll_nil hB
  obtain rfl := args_of e0
  obtain ⟨_, _, _, rfl⟩ := okWide_slice Try.underlying22 (hval 0 22 v0 rfl rfl)
  obtain ⟨cs1, rfl, _⟩ := okWide_struct Try.underlying27 (hval 1 27 v1 rfl rfl)
  obtain ⟨_, _, _, rfl⟩ := okWide_slice Try.underlying22 (hval 2 22 v2 rfl rfl)
  obtain ⟨t, ht, _⟩ := arg_one readsInts rfl (fun _ => rfl) h0
  obtain ⟨raw, hraw, _⟩ := arg_agg readsLedger (fun _ => rfl) h1
  obtain ⟨g, hg, _⟩ := arg_one readsInts rfl (fun _ => rfl) h2
  obtain ⟨a, ha, _⟩ := int_read Try.underlying3 (hval 3 3 v3 rfl rfl) h3
  obtain ⟨b, hb, _⟩ := int_read Try.underlying3 (hval 4 3 v4 rfl rfl) h4
  obtain ⟨r, hr, _⟩ := int_read Try.underlying3 (hval 5 3 v5 rfl rfl) h5
  obtain ⟨k, hk, _⟩ := int_read Try.underlying3 (hval 6 3 v6 rfl rfl) h6
  refine (calls_true (us := [_, _, _, _, _, _, _]) (F7_ok (F7_spec t raw g a b r k)) (.cons _ _ _ _ ht (.cons _ _ _ _ hraw (.cons _ _ _ _ hg (.cons _ _ _ _ ha (.cons _ _ _ _ hb (.cons _ _ _ _ hr (.cons _ _ _ _ hk .nil)))))))).mono fun e W' ⟨he, hn⟩ => ?_
  subst he
  exact ⟨_, rfl, ⟨_, _, _, [], _, [], hW', trodAll_mk1 (shut_bool Try.underlying4 _), below_all Try.laidOut hn (by decide +kernel) hA hlt, rfl, hn.frame _, fun h => by cases h⟩⟩

theorem law_holds : Rows.ConsolidationExactSaid :=
  OpenClaim.holds_of_wide 7 Try.f7 rfl rfl rfl rfl rfl rfl rfl ⟨rfl, rfl, rfl, rfl, rfl⟩ rfl rfl rfl rfl rfl (by kernel_rfl) Try.func7 (by kernel_rfl)
    (of_decide_eq_true (by kernel_rfl)) (by unfold Func.isWrapper; rw [if_neg (by decide +kernel)]; exact ⟨rfl, rfl⟩)
    (fun os started H enc _ => law_lifted os started H enc)
end Go.Proofs.Ytkkdclpleghppaa
