/- A part of the proof: plain laws of what the functions compute. No condition. -/
import Derived.Test.YtkkdclpleghppaaP43S
namespace Go.Proofs.Ytkkdclpleghppaa
open Go Go.TA

/-! ## Whole, both ways -/
theorem F26_gen {l : List TApiPosting} (hl : Good l) (hl20 : l.length ≤ 20) {g : List Int} (hg : Grp g) {k : Int} (h0 : 0 ≤ k) (h1 : k ≤ 36000) {R : List Int} {m : MSpot} {mp : List (Int × Int)} {E : Int} (hw : WholeR l g k R m mp E) :
    F26 ⟨l⟩ g k = some (⟨balL 600 fun n => mget mp n 0, E, difs m R g⟩, 0) := by
  have hgl := hg.len
  have hRl := hw.refs.len
  unfold F26
  rw [F25_gen l (by omega)]
  have hc : cres l g = 0 := by
    have h := F25_gen l (g := g) (by omega)
    rw [← Option.some.injEq, ← h]
    have : F25 ⟨l⟩ g = F24 ⟨l⟩ g := by rw [F25_gen l (by omega), F24_gen l (by omega)]
    rw [this, F24_spec hl hg]
  simp only [Option.bind_some, hc]
  rw [if_neg (by simp), if_neg (by rw [cond_or]; simp; omega)]
  obtain ⟨f0, a1, a2⟩ := F26_sums hl hg k
  rw [a1]
  simp only [outM]
  obtain ⟨R', r1, r2⟩ := F51_spec (l := l) (by omega)
  rw [refs_ext r2 hw.refs] at r1
  rw [r1]
  simp only [Option.bind_some]
  obtain ⟨s, s1, s2⟩ := F26_loops hl hw.spot hw.small (R := R) (g := g) (by omega) hgl (f0 := f0) (fun j => by rw [a2]; exact tot_small hl g k _)
  rw [s1]
  simp only [F53_spec, Option.bind_some]
  have hq := quads_len10 (R := R) (g := g) (by omega) hgl
  have hd := flatMap_len (F := difQ m) (c := 1) (g := quads R g) fun q _ => dif_len m q.1 q.2.1 q.2.2.1 q.2.2.2
  rw [guardP_pos (by rw [s2.difs]; omega), s2.elim, s2.difs, quads_difs, hw.elim]
  rw [← balL_shift (F := fun n => mget mp n 0) (f := s.1)]
  · intro n hn
    rw [hw.book, tot_acc hl (by unfold accOk; omega), sumQ_zero fun q _ => dq_other (by omega) q]
    rfl
  · intro j _
    rw [hw.book, s2.sums, a2]

theorem whole_all {l : List TApiPosting} (hl : l.length ≤ 20) {g : List Int} (hg : g.length ≤ 12) (k : Int) :
    ∃ w, F11 ⟨l⟩ g k = some (w, eres l g k) ∧ F26 ⟨l⟩ g k = some (w, eres l g k) ∧ F17 ⟨l⟩ g k = some (w.Differences, eres l g k) := by
  by_cases h : eres l g k = 0
  · obtain ⟨a, b, c, d⟩ := eres_zero h
    obtain ⟨R, m, mp, E, w1, w2, w3⟩ := F11_gen a hl b c d
    rw [h]
    exact ⟨_, w2, F26_gen a hl b c d w1, w3⟩
  · have h17 : F17 ⟨l⟩ g k = some ([], eres l g k) := by
      unfold F17
      rw [F47_gen l (by omega)]
      simp only [Option.bind_some]
      rw [if_pos (by simpa using h)]
    refine ⟨⟨[], 0, []⟩, ?_, ?_, h17⟩
    · unfold F11
      rw [h17]
      simp only [Option.bind_some]
      rw [if_pos (by simpa using h)]
    · unfold F26
      rw [F25_gen l (by omega)]
      simp only [Option.bind_some]
      by_cases hc : cres l g = 0
      · have hk : k < 0 ∨ k > 36000 := by
          unfold eres at h
          by_cases hk : k < 0 ∨ k > 36000
          · exact hk
          · rw [if_neg (fun h => hk h.2)] at h; exact absurd hc h
        rw [if_neg (by simpa using hc), if_pos (by rw [cond_or]; simpa using hk)]
        unfold eres
        rw [if_pos ⟨hc, hk⟩]
      · rw [if_pos (by simpa using hc)]
        unfold eres
        rw [if_neg (fun h => hc h.1)]

theorem F54_refl (d : List TApiBalance) : F54 d d = some true := by
  unfold F54
  rw [if_neg (by simp)]
  have h1 : rangeM (F54_b1 d d) d.length 0 () = _ := rangeM_any (c := false) (fun _ => false) fun i hi => by
    unfold F54_b1
    rw [guardP_pos (p := AllP [i < d.length]) (And.intro hi trivial)]
    simp [outM]
  rw [h1]
  have h2 : (List.range d.length).any (fun _ => false) = false := by rw [List.any_eq_false]; simp
  rw [h2]
  rfl

theorem F28_refl (w : TApiWhole) : F28 w w = some true := by
  unfold F28
  rw [F54_refl]
  simp only [Option.bind_some]
  rw [optP_pos (gs := [(bif true then (w.Eliminated == w.Eliminated) else false) = true]) (And.intro (by simp) trivial), F18_refl]
  simp

/-! ## Lengths -/
theorem F10_len {s s' : TTreasuryplaySrc} {l : List TApiPosting} (hs : SrcOk s) (h : F10 12 3 60 s = some (⟨l⟩, s')) : l.length ≤ 20 := by
  unfold F10 at h
  obtain ⟨v, s1, e1, k1, b1, c1, _⟩ := N_spec (n := 13) hs (by omega)
  rw [wrapId (n := 12 + 1) (by omega) (by omega), show (12 : Int) + 1 = 13 by rfl, e1] at h
  simp only [Option.bind_some] at h
  have c1 := c1 (by omega)
  obtain ⟨q, h1, h2⟩ := iterM_inv (step := F10_b1 3 60) (fun q => q.2.2.2.toNat) (fun q => SrcOk q.1 ∧ Good q.2.1.Postings ∧ 0 ≤ q.2.2.1 ∧ q.2.2.1 ≤ 60 ∧ q.2.2.2 ≤ 13 ∧ (q.2.1.Postings.length : Int) + q.2.2.2 ≤ 13 ∧ 0 ≤ q.2.2.2)
    (fun q => q.2.1.Postings.length ≤ 20) (by
      rintro ⟨s, ⟨l⟩, day, k⟩ ⟨i1, i2, i4, i5, i6, i7, i8⟩
      simp only at i1 i2 i4 i5 i6 i7 i8
      have hlen := i2.len
      unfold F10_b1
      by_cases hk : k > 0
      · left
        rw [if_pos (by simpa using hk)]
        simp only
        obtain ⟨v2, s2, e2, k2, b2, c2, _⟩ := N_spec (n := 17) i1 (by omega)
        rw [show IntKind.i64.wrap (IntKind.i64.wrap ((60 : Int).tdiv 4) + 2) = 17 by decide, e2]
        simp only [Option.bind_some]
        have c2 := c2 (by omega)
        rw [wrapId (n := day + v2) (by omega) (by omega), wrapId (n := (l.length : Int) + 1) (by omega) (by omega), wrapId (n := k - 1) (by omega) (by omega)]
        obtain ⟨d, hd, hd0, hd1⟩ : ∃ d, (if (60 : Int) < day + v2 then 60 else day + v2) = d ∧ 0 ≤ d ∧ d ≤ 60 := ⟨_, rfl, by split <;> omega, by split <;> omega⟩
        rw [hd]
        obtain ⟨p, s3, e3, k3, hp⟩ := F20_spec (a1 := (l.length : Int) + 1) (a2 := d) (a3 := 3) k2 (.inr rfl)
        rw [e3]
        simp only [Option.bind_some, F16_spec i2]
        by_cases ho : (postR l p).2 = 0
        · rw [if_pos (by simpa using ho)]
          obtain ⟨g1, g2, g3⟩ := postR_good i2 ho
          refine ⟨_, rfl, ⟨k3, g1, hd0, hd1, by simp only; omega, ?_, by simp only; omega⟩, by simp only; omega⟩
          simp only
          rw [g2]
          simp
          omega
        · rw [if_neg (by simpa using ho)]
          exact ⟨_, rfl, ⟨k3, i2, hd0, hd1, by simp only; omega, by simp only; omega, by simp only; omega⟩, by simp only; omega⟩
      · right
        rw [if_neg (by simpa using hk)]
        exact ⟨_, rfl, by simp only; omega⟩) 14 (s1, ⟨[]⟩, 0, v) (by simp only; omega) ⟨k1, good_nil, by simp, by simp, by simp only; omega, by simp; omega, by simp only; omega⟩
  rw [h1] at h
  simp only [outM, Option.some.injEq, Prod.mk.injEq] at h
  rw [h.1] at h2
  exact h2

theorem F49_spec {s : TTreasuryplaySrc} (hs : SrcOk s) : ∃ v s', F49 s = some (v, s') ∧ SrcOk s' := by
  unfold F49
  obtain ⟨v, s', h, h1, _⟩ := Pick_spec (l := ([(-1), 0, 1, 2, 9223372036854775807, (-9223372036854775808), 1000000000000, 1000000000001, 1000000000000000, 1000000000000001, 36000, 36001, 35991, 1000000, 1000001, 1000, 1001, 360] : List Int)) hs (by simp) (by simp)
  rw [h]
  exact ⟨_, _, rfl, h1⟩

theorem F22_spec {l : List TApiPosting} (hl : l.length ≤ 20) {s : TTreasuryplaySrc} (hs : SrcOk s) : ∃ l' s', F22 ⟨l⟩ s = some (⟨l'⟩, s') ∧ SrcOk s' ∧ l'.length ≤ 20 := by
  unfold F22
  rw [guardP_pos (p := AllP [l.length * (2 * 64) ≤ 2 ^ 48]) (And.intro (by omega) trivial)]
  by_cases h : l.length = 0
  · rw [if_pos (by simpa using h)]
    exact ⟨_, _, rfl, hs, by simp⟩
  · rw [if_neg (by simpa using h)]
    obtain ⟨v, s1, e1, k1, b1, c1, _⟩ := N_spec (n := (l.length : Int)) hs (by omega)
    have c1 := c1 (by omega)
    simp only
    rw [e1]
    simp only [Option.bind_some]
    rw [guardP_pos (p := AllP [(0 : Int) ≤ v, v.toNat < l.length]) (And.intro b1 (And.intro (by omega) trivial))]
    obtain ⟨u, s2, e2, k2, b2, c2, _⟩ := N_spec (n := 6) k1 (by omega)
    rw [e2]
    simp only [Option.bind_some]
    have hfin : ∀ {x : Option (TTreasuryplaySrc × List TApiPosting)}, (∃ t p, x = some (t, l.set (0 + v.toNat) p) ∧ SrcOk t) →
        ∃ l' s', (Option.bind x fun s => guardP (s.2.length < 2 ^ 63) <| some ((⟨s.2⟩ : TApiLedger), s.1)) = some (⟨l'⟩, s') ∧ SrcOk s' ∧ l'.length ≤ 20 := by
      rintro _ ⟨t, p, rfl, ht⟩
      simp only [Option.bind_some]
      rw [guardP_pos (by rw [List.length_set]; omega)]
      exact ⟨_, _, rfl, ht, by rw [List.length_set]; exact hl⟩
    have hv : AllP [(0 + v.toNat) < l.length] := And.intro (by omega) trivial
    refine hfin ?_
    have hp : ∀ L : List Int, L ≠ [] → L.length ≤ 100 → ∀ f : R15 → TApiPosting, ∃ t p, ((F15 L s2).bind fun r => guardP (AllP [(0 + v.toNat) < l.length]) <| some (r.2, l.set (0 + v.toNat) (f r))) = some (t, l.set (0 + v.toNat) p) ∧ SrcOk t := fun L h1 h2 f => by
      obtain ⟨w, t, e, k, _⟩ := Pick_spec (l := L) k2 h1 h2
      rw [e]
      simp only [Option.bind_some]
      rw [guardP_pos hv]
      exact ⟨_, _, rfl, k⟩
    have hq : ∀ f : R49 → TApiPosting, ∃ t p, ((F49 s2).bind fun r => guardP (AllP [(0 + v.toNat) < l.length]) <| some (r.2, l.set (0 + v.toNat) (f r))) = some (t, l.set (0 + v.toNat) p) ∧ SrcOk t := fun f => by
      obtain ⟨w, t, e, k⟩ := F49_spec k2
      rw [e]
      simp only [Option.bind_some]
      rw [guardP_pos hv]
      exact ⟨_, _, rfl, k⟩
    split
    · exact hp _ (List.cons_ne_nil _ _) (by simp) _
    · split
      · exact hq _
      · split
        · exact hq _
        · split
          · exact hp _ (List.cons_ne_nil _ _) (by simp) _
          · split
            · exact hp _ (List.cons_ne_nil _ _) (by simp) _
            · exact hp _ (List.cons_ne_nil _ _) (by simp) _
end Go.Proofs.Ytkkdclpleghppaa

namespace Go.Proofs.Ytkkdclpleghppaa
open Go Go.TA

/-! ## ConsolidationExact -/
noncomputable def body1 (X : TApiLedger) (G : List Int) (K : Int) : Option (Step Unit R7) :=
  outM (σ := Unit) (ρ := (Step (Unit) R7)) (
  (F11 X G K).bind fun r1 =>
  (F26 X G K).bind fun r2 =>
  (F17 X G K).bind fun r3 =>
  (F27 X G K).bind fun r4 =>
  (F28 r1.1 r2.1).bind fun r5 =>
  (optP [(bif (!r5) then true else (r1.2 != r2.2)) = false] (F18 r3.1 r4.1)).bind fun r6 =>
  if (bif (bif (bif (!r5) then true else (r1.2 != r2.2)) then true else (!r6)) then true else (r3.2 != r4.2)) = true then (
  some (Out.ret (Step.ret false)))
  else (
  some (Out.next ()))) (fun _ =>
  some (Step.cont ())) (fun x => some x)

theorem body1_ok {X : TApiLedger} (hX : X.Postings.length ≤ 20) {G : List Int} (hG : G.length ≤ 12) (K : Int) : body1 X G K = some (.cont ()) := by
  obtain ⟨w, h1, h2, h3⟩ := whole_all hX hG K
  have h1 : F11 X G K = _ := h1
  have h2 : F26 X G K = _ := h2
  have h3 : F17 X G K = _ := h3
  unfold body1 F27
  simp only [h1, h2, h3, Option.bind_some, F28_refl]
  rw [optP_pos (gs := [(bif (!true) then true else (eres X.Postings G K != eres X.Postings G K)) = false]) (And.intro (by simp) trivial), F18_refl]
  simp [outM]

noncomputable def body3 (X : TApiLedger) (a b r k : Int) : Option (Step Unit R7) :=
  outM (σ := Unit) (ρ := (Step (Unit) R7)) (
  (F29 X a b r k).bind fun r1 =>
  (F30 X a b r k).bind fun r2 =>
  (optP [(r1 != r2) = false] (F31 X a b r k)).bind fun r3 =>
  (optP [(r1 != r2) = false] (F32 X a b r k)).bind fun r4 =>
  (optP [(bif (r1 != r2) then true else (r3 != r4)) = false] (F33 X a b r k)).bind fun r5 =>
  (optP [(bif (r1 != r2) then true else (r3 != r4)) = false] (F34 X a b r k)).bind fun r6 =>
  (optP [(bif (bif (r1 != r2) then true else (r3 != r4)) then true else (r5 != r6)) = false] (F35 X a b r k)).bind fun r7 =>
  (optP [(bif (bif (r1 != r2) then true else (r3 != r4)) then true else (r5 != r6)) = false] (F36 X a b r k)).bind fun r8 =>
  if (bif (bif (bif (r1 != r2) then true else (r3 != r4)) then true else (r5 != r6)) then true else (r7 != r8)) = true then (
  some (Out.ret (Step.ret false)))
  else (
  some (Out.next ()))) (fun _ =>
  some (Step.cont ())) (fun x => some x)

theorem body3_ok (X : TApiLedger) (a b r k : Int) : body3 X a b r k = some (.cont ()) := by
  obtain ⟨w, x, y, z, h1, h2, h3, h4, h5, h6, h7, h8⟩ := claims_eq X.Postings a b r k
  have h1 : F29 X a b r k = _ := h1
  have h2 : F30 X a b r k = _ := h2
  have h3 : F31 X a b r k = _ := h3
  have h4 : F32 X a b r k = _ := h4
  have h5 : F33 X a b r k = _ := h5
  have h6 : F34 X a b r k = _ := h6
  have h7 : F35 X a b r k = _ := h7
  have h8 : F36 X a b r k = _ := h8
  unfold body3
  rw [h1, h2, h3, h4, h5, h6, h7, h8]
  simp only [Option.bind_some]
  have e1 : AllP [(w != w) = false] := And.intro (by simp) trivial
  rw [optP_pos e1]
  simp only [Option.bind_some]
  have e2 : AllP [(bif (w != w) then true else (x != x)) = false] := And.intro (by simp) trivial
  rw [optP_pos e2]
  simp only [Option.bind_some]
  have e3 : AllP [(bif (bif (w != w) then true else (x != x)) then true else (y != y)) = false] := And.intro (by simp) trivial
  rw [optP_pos e3]
  simp [outM]

theorem rangeM_unit {ρ : Type} {body : Nat → Unit → Option (Step Unit ρ)} {n : Nat} (h : ∀ i, i < n → body i () = some (.cont ())) : rangeM body n 0 () = some (.next ()) := by
  obtain ⟨s, h1, _⟩ := rangeM_inv (body := body) (n := n) (s0 := ()) (fun _ _ => True) trivial (fun i s hi _ => ⟨(), h i hi, trivial⟩)
  exact h1

noncomputable def body2 (X : TApiLedger) (G : List Int) (a6 : Int) (s : TTreasuryplaySrc) : Option (Step (TTreasuryplaySrc) R7) :=
  outM (σ := TTreasuryplaySrc) (ρ := (Step (TTreasuryplaySrc) R7)) (
  (F24 X G).bind fun r1 =>
  (F25 X G).bind fun r2 =>
  if (r1 != r2) = true then (
  some (Out.ret (Step.ret false)))
  else (
  (F19 70 s).bind fun r3 =>
  outM (σ := Unit) (ρ := R7) (rangeM (fun i (_ : Unit) => body1 X G ((fun j => ([a6, r3.1] : List Int).getD j default) i)) 2 0 ()) (fun _ =>
  some (Out.next r3.2)) (fun x => some (Out.ret (Step.ret x))))) (fun s330 =>
  some (Step.cont s330)) (fun x => some x)

theorem body2_ok {X : TApiLedger} (hX : X.Postings.length ≤ 20) {G : List Int} (hG : G.length ≤ 12) (a6 : Int) {s : TTreasuryplaySrc} (hs : SrcOk s) : ∃ s', body2 X G a6 s = some (.cont s') ∧ SrcOk s' := by
  have h1 : F24 X G = _ := F24_gen X.Postings (by omega)
  have h2 : F25 X G = _ := F25_gen X.Postings (by omega)
  obtain ⟨v, s', e, k, _⟩ := N_spec (n := 70) hs (by omega)
  unfold body2
  rw [h1, h2, e]
  simp only [Option.bind_some]
  rw [if_neg (by simp), rangeM_unit fun i _ => body1_ok hX hG _]
  exact ⟨_, rfl, k⟩

noncomputable def body4 (X : TApiLedger) (a2 : List Int) (a3 a4 a5 a6 : Int) (s : TTreasuryplaySrc) : Option (Step (TTreasuryplaySrc) R7) :=
  outM (σ := TTreasuryplaySrc) (ρ := (Step (TTreasuryplaySrc) R7)) (
  (F23 0 2 s).bind fun r1 =>
  (F23 2 4 r1.2).bind fun r2 =>
  outM (σ := TTreasuryplaySrc) (ρ := R7) (rangeM (fun i s => body2 X ((fun j => ([a2, ([1, 2, 3] : List Int), ([r1.1, r2.1] : List Int), ([2] : List Int)] : List (List Int)).getD j default) i) a6 s) 4 0 r2.2) (fun s255 =>
  (F23 1 3 s255).bind fun r3 =>
  (F23 1 3 r3.2).bind fun r4 =>
  (F19 4 r4.2).bind fun r5 =>
  (F19 70 r5.2).bind fun r6 =>
  outM (σ := Unit) (ρ := R7) (rangeM (fun i (_ : Unit) => body3 X (((fun j => ([(fun j => ([a3, a4, a5, a6] : List Int).getD j default), (fun j => ([r3.1, r4.1, r5.1, r6.1] : List Int).getD j default)] : List (Nat → Int)).getD j default) i) 0) (((fun j => ([(fun j => ([a3, a4, a5, a6] : List Int).getD j default), (fun j => ([r3.1, r4.1, r5.1, r6.1] : List Int).getD j default)] : List (Nat → Int)).getD j default) i) 1) (((fun j => ([(fun j => ([a3, a4, a5, a6] : List Int).getD j default), (fun j => ([r3.1, r4.1, r5.1, r6.1] : List Int).getD j default)] : List (Nat → Int)).getD j default) i) 2) (((fun j => ([(fun j => ([a3, a4, a5, a6] : List Int).getD j default), (fun j => ([r3.1, r4.1, r5.1, r6.1] : List Int).getD j default)] : List (Nat → Int)).getD j default) i) 3)) 2 0 ()) (fun _ =>
  some (Out.next r6.2)) (fun x => some (Out.ret (Step.ret x)))) (fun x => some (Out.ret (Step.ret x)))) (fun s947 =>
  some (Step.cont s947)) (fun x => some x)

theorem body4_ok {X : TApiLedger} (hX : X.Postings.length ≤ 20) {a2 : List Int} (hG : a2.length ≤ 12) (a3 a4 a5 a6 : Int) {s : TTreasuryplaySrc} (hs : SrcOk s) : ∃ s', body4 X a2 a3 a4 a5 a6 s = some (.cont s') ∧ SrcOk s' := by
  obtain ⟨v1, s1, e1, k1, _⟩ := Range_spec (lo := 0) (hi := 2) hs (by omega) (by omega) (by omega)
  obtain ⟨v2, s2, e2, k2, _⟩ := Range_spec (lo := 2) (hi := 4) k1 (by omega) (by omega) (by omega)
  unfold body4
  rw [e1]
  simp only [Option.bind_some]
  rw [e2]
  simp only [Option.bind_some]
  obtain ⟨s3, f3, k3⟩ := rangeM_inv (body := fun i s => body2 X ((fun j => ([a2, ([1, 2, 3] : List Int), ([v1, v2] : List Int), ([2] : List Int)] : List (List Int)).getD j default) i) a6 s) (n := 4) (s0 := s2) (fun _ s => SrcOk s) k2 (fun i s hi hs => by
    refine body2_ok hX ?_ a6 hs
    have : i = 0 ∨ i = 1 ∨ i = 2 ∨ i = 3 := by omega
    rcases this with rfl | rfl | rfl | rfl
    · exact hG
    · show ([1, 2, 3] : List Int).length ≤ 12; simp
    · show ([v1, v2] : List Int).length ≤ 12; simp
    · show ([2] : List Int).length ≤ 12; simp)
  rw [f3]
  obtain ⟨v4, s4, e4, k4, _⟩ := Range_spec (lo := 1) (hi := 3) k3 (by omega) (by omega) (by omega)
  obtain ⟨v5, s5, e5, k5, _⟩ := Range_spec (lo := 1) (hi := 3) k4 (by omega) (by omega) (by omega)
  obtain ⟨v6, s6, e6, k6, _⟩ := N_spec (n := 4) k5 (by omega)
  obtain ⟨v7, s7, e7, k7, _⟩ := N_spec (n := 70) k6 (by omega)
  simp only [outM]
  rw [e4]
  simp only [Option.bind_some]
  rw [e5]
  simp only [Option.bind_some]
  rw [e6]
  simp only [Option.bind_some]
  rw [e7]
  simp only [Option.bind_some]
  rw [rangeM_unit fun i _ => body3_ok _ _ _ _ _]
  exact ⟨_, rfl, k7⟩

theorem F7_spec (t : List Int) (raw : TApiLedger) (g : List Int) (a b r k : Int) : F7 t raw g a b r k = some true := by
  unfold F7
  rw [F13_spec, cond_or]
  by_cases h : raw.Postings.length ≤ 15 ∧ g.length ≤ 12
  · rw [if_neg (by simp; omega)]
    obtain ⟨s0, d0, k0⟩ := F9_spec t
    obtain ⟨l1, s1, d1, k1, g1, _⟩ := F10_spec k0
    have n1 := F10_len k0 d1
    obtain ⟨l2, s2, d2, k2, g2, _, _, _, n2⟩ := F14_spec (n := 4) (by omega) (by omega) k1
    obtain ⟨l4, s4, d4, k4, n4⟩ := F22_spec n1 k2
    rw [d0]
    simp only [Option.bind_some]
    rw [d1]
    simp only [Option.bind_some]
    rw [d2, F21_spec]
    simp only [Option.bind_some]
    rw [d4]
    simp only [Option.bind_some]
    obtain ⟨s5, f5, _⟩ := rangeM_inv (body := F7_b4 raw g a b r k (⟨l1⟩, s1) (⟨l2⟩, s2) ⟨[pX, pY]⟩ (⟨l4⟩, s4)) (n := 5) (s0 := s4) (fun _ s => SrcOk s) k4 (fun i s hi hs => by
      show ∃ s', body4 ((fun j => ([⟨l1⟩, ⟨l2⟩, ⟨[pX, pY]⟩, ⟨l4⟩, raw] : List TApiLedger).getD j default) i) g a b r k s = _ ∧ _
      refine body4_ok ?_ h.2 a b r k hs
      have : i = 0 ∨ i = 1 ∨ i = 2 ∨ i = 3 ∨ i = 4 := by omega
      rcases this with rfl | rfl | rfl | rfl | rfl
      · exact n1
      · exact n2
      · show ([pX, pY] : List TApiPosting).length ≤ 20; simp
      · exact n4
      · show raw.Postings.length ≤ 20; omega)
    rw [f5]
    rfl
  · rw [if_pos (by simp; omega)]
    rfl
end Go.Proofs.Ytkkdclpleghppaa
