/- A part of the proof: plain laws of what the functions compute. No condition. -/
import Derived.Test.YtkkdclpleghppaaP43d
namespace Go.Proofs.Ytkkdclpleghppaa
open Go Go.TA

/-- A drawn posting. -/
structure Drawn (a1 a2 a3 : Int) (p : TApiPosting) : Prop where
  num : p.Number = a1
  day : p.Day = a2
  ent : 1 ≤ p.Entity ∧ p.Entity ≤ a3
  amount : 1 ≤ p.Amount ∧ p.Amount ≤ 1000
  ref : 0 ≤ p.Ref ∧ p.Ref ≤ 3
  acc : accOk p.Debit ∧ accOk p.Credit ∧ p.Debit ≠ p.Credit
  part : 0 ≤ p.Partner ∧ p.Partner ≤ a3 ∧ p.Partner ≠ p.Entity
  alone : a3 = 1 → p.Partner = 0 ∧ p.Debit ∈ [110, 120, 210, 300, 410, 510, 520] ∧ p.Credit ∈ [111, 119, 220, 310, 420, 530]

theorem F20_spec {a1 a2 a3 : Int} {s : TTreasuryplaySrc} (hs : SrcOk s) (h3 : a3 = 1 ∨ a3 = 3) : ∃ p s', F20 a1 a2 a3 s = some (p, s') ∧ SrcOk s' ∧ Drawn a1 a2 a3 p := by
  unfold F20
  obtain ⟨v1, s1, e1, k1, b1, c1⟩ := Range_spec (lo := 1) (hi := a3) hs (by omega) (by omega) (by omega)
  obtain ⟨v2, s2, e2, k2, b2⟩ := Pick_spec (l := [110, 120, 210, 300, 410, 510, 520]) k1 (by simp) (by simp)
  obtain ⟨v3, s3, e3, k3, b3⟩ := Pick_spec (l := [111, 119, 220, 310, 420, 530]) k2 (by simp) (by simp)
  obtain ⟨v4, s4, e4, k4, b4⟩ := Pick_spec (l := [1, 20, 100, 1000]) k3 (by simp) (by simp)
  obtain ⟨v5, s5, e5, k5, b5, c5, _⟩ := N_spec (n := 4) k4 (by omega)
  have c5 := c5 (by omega)
  simp only [e1, e2, e3, e4, e5, Option.bind_some]
  have hacc : accOk v2 ∧ accOk v3 ∧ v2 ≠ v3 := by
    simp only [List.mem_cons, List.not_mem_nil, or_false] at b2 b3
    unfold accOk
    omega
  have ham : 1 ≤ v4 ∧ v4 ≤ 1000 := by
    simp only [List.mem_cons, List.not_mem_nil, or_false] at b4
    omega
  rcases h3 with rfl | rfl
  · rw [optD_none (gs := [(decide ((1 : Int) > 1)) = true]) (fun h => absurd (of_decide_eq_true h.1) (by omega))]
    simp only [Option.bind_some]
    refine ⟨_, _, rfl, k5, ⟨rfl, rfl, ⟨b1, c1⟩, ham, ⟨b5, show v5 ≤ 3 by omega⟩, hacc, ⟨by simp, by simp, ?_⟩, fun _ => ⟨rfl, b2, b3⟩⟩⟩
    simp only
    omega
  · obtain ⟨v6, s6, e6, k6, b6, c6, _⟩ := N_spec (n := 2) k5 (by omega)
    have hx : (decide ((3 : Int) > 1)) = true := by decide
    rw [optD_pos (gs := [(decide ((3 : Int) > 1)) = true]) (And.intro hx trivial), e6]
    simp only [Option.bind_some]
    by_cases hv : v6 = 1
    · subst hv
      obtain ⟨v7, s7, e7, k7, b7, c7, _⟩ := N_spec (n := 4) k6 (by omega)
      rw [if_pos (by decide), guardP_pos (p := AllP [(3 : Int) ≠ 0]) (And.intro (by decide) trivial), e7]
      simp only [Option.bind_some]
      have hm : 1 ≤ IntKind.i64.wrap (v1.tmod 3 + 1) ∧ IntKind.i64.wrap (v1.tmod 3 + 1) ≤ 3 ∧ IntKind.i64.wrap (v1.tmod 3 + 1) ≠ v1 := by
        have : v1 = 1 ∨ v1 = 2 ∨ v1 = 3 := by omega
        rcases this with rfl | rfl | rfl <;> decide
      have hp : ∀ d c : Int, accOk d ∧ accOk c ∧ d ≠ c → Drawn a1 a2 3 ⟨a1, a2, v1, d, c, v4, IntKind.i64.wrap (v1.tmod 3 + 1), v5⟩ := fun d c h =>
        ⟨rfl, rfl, ⟨b1, c1⟩, ham, ⟨b5, show v5 ≤ 3 by omega⟩, h, ⟨by simp only; omega, hm.2.1, hm.2.2⟩, fun h => by omega⟩
      by_cases g0 : v7 = 0
      · subst g0
        exact ⟨_, _, rfl, k7, hp 140 440 (by decide)⟩
      · rw [if_neg (by simpa using g0)]
        by_cases g1 : v7 = 1
        · subst g1
          exact ⟨_, _, rfl, k7, hp 540 240 (by decide)⟩
        · rw [if_neg (by simpa using g1)]
          by_cases g2 : v7 = 2
          · subst g2
            exact ⟨_, _, rfl, k7, hp 240 110 (by decide)⟩
          · rw [if_neg (by simpa using g2)]
            exact ⟨_, _, rfl, k7, hp 110 140 (by decide)⟩
    · rw [if_neg (by simp [hv])]
      refine ⟨_, _, rfl, k6, ⟨rfl, rfl, ⟨b1, c1⟩, ham, ⟨b5, show v5 ≤ 3 by omega⟩, hacc, ⟨by simp, by simp, ?_⟩, fun h => by omega⟩⟩
      simp only
      omega

/-- Ledger: a right ledger, its references from 0 to 3. -/
def InRef (l : List TApiPosting) : Prop := ∀ i, i < l.length → 0 ≤ (at' l i).Ref ∧ (at' l i).Ref ≤ 3

theorem F10_spec {s : TTreasuryplaySrc} (hs : SrcOk s) : ∃ l s', F10 12 3 60 s = some (⟨l⟩, s') ∧ SrcOk s' ∧ Good l ∧ InRef l := by
  unfold F10
  obtain ⟨v, s1, e1, k1, b1, c1, _⟩ := N_spec (n := 13) hs (by omega)
  rw [wrapId (n := 12 + 1) (by omega) (by omega), show (12 : Int) + 1 = 13 by rfl, e1]
  simp only [Option.bind_some]
  have c1 := c1 (by omega)
  obtain ⟨q, h1, h2⟩ := iterM_inv (step := F10_b1 3 60) (fun q => q.2.2.2.toNat) (fun q => SrcOk q.1 ∧ Good q.2.1.Postings ∧ InRef q.2.1.Postings ∧ 0 ≤ q.2.2.1 ∧ q.2.2.1 ≤ 60 ∧ q.2.2.2 ≤ 13)
    (fun q => SrcOk q.1 ∧ Good q.2.1.Postings ∧ InRef q.2.1.Postings) (by
      rintro ⟨s, ⟨l⟩, day, k⟩ ⟨i1, i2, i3, i4, i5, i6⟩
      simp only at i1 i2 i3 i4 i5 i6
      have hlen := i2.len
      unfold F10_b1
      by_cases hk : k > 0
      · left
        rw [if_pos (by simpa using hk)]
        simp only
        obtain ⟨v2, s2, e2, k2, b2, c2, _⟩ := N_spec (n := 17) i1 (by omega)
        rw [show IntKind.i64.wrap (IntKind.i64.wrap ((60 : Int).tdiv 4) + 2) = 17 by decide, e2]
        simp only [Option.bind_some]
        have c2 := c2 (by omega)
        rw [wrapId (n := day + v2) (by omega) (by omega), wrapId (n := (l.length : Int) + 1) (by omega) (by omega), wrapId (n := k - 1) (by omega) (by omega)]
        obtain ⟨d, hd, hd0, hd1⟩ : ∃ d, (if (60 : Int) < day + v2 then 60 else day + v2) = d ∧ 0 ≤ d ∧ d ≤ 60 := ⟨_, rfl, by split <;> omega, by split <;> omega⟩
        rw [hd]
        obtain ⟨p, s3, e3, k3, hp⟩ := F20_spec (a1 := (l.length : Int) + 1) (a2 := d) (a3 := 3) k2 (.inr rfl)
        rw [e3]
        simp only [Option.bind_some, F16_spec i2]
        by_cases ho : (postR l p).2 = 0
        · rw [if_pos (by simpa using ho)]
          obtain ⟨g1, g2, g3⟩ := postR_good i2 ho
          refine ⟨_, rfl, ⟨k3, g1, ?_, hd0, hd1, by simp only; omega⟩, by simp only; omega⟩
          simp only
          rw [g2]
          intro i hi
          rw [at'_app]
          simp at hi
          split
          · exact i3 i (by assumption)
          · rw [if_pos (by omega)]; exact hp.ref
        · rw [if_neg (by simpa using ho)]
          exact ⟨_, rfl, ⟨k3, i2, i3, hd0, hd1, by simp only; omega⟩, by simp only; omega⟩
      · right
        rw [if_neg (by simpa using hk)]
        exact ⟨_, rfl, i1, i2, i3⟩) 14 (s1, ⟨[]⟩, 0, v) (by simp only; omega) ⟨k1, good_nil, fun i hi => by simp at hi, by simp, by simp, by simp only; omega⟩
  rw [h1]
  exact ⟨q.2.1.Postings, q.1, rfl, h2⟩
end Go.Proofs.Ytkkdclpleghppaa
