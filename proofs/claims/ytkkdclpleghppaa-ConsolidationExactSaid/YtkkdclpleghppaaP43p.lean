/- A part of the proof: plain laws of what the functions compute. No condition. -/
import Derived.Test.YtkkdclpleghppaaP43M
namespace Go.Proofs.Ytkkdclpleghppaa
open Go Go.TA

/-! ## ConsolidationNames -/
theorem flatMap_none {α β : Type} {F : α → List β} : ∀ {R : List α}, (∀ r ∈ R, F r = []) → R.flatMap F = []
  | [], _ => rfl
  | r :: R, h => by rw [List.flatMap_cons, h r List.mem_cons_self, flatMap_none fun q hq => h q (List.mem_cons_of_mem _ hq)]; rfl
theorem flatMap_one {β : Type} {F : Int → List β} {t : Int} : ∀ {R : List Int}, R.Pairwise (· < ·) → t ∈ R → (∀ r, r ≠ t → F r = []) → R.flatMap F = F t
  | [], _, h, _ => by cases h
  | r :: R, ha, h, hF => by
    obtain ⟨h1, h2⟩ := List.pairwise_cons.1 ha
    rw [List.flatMap_cons]
    by_cases e : r = t
    · subst e
      rw [flatMap_none fun q hq => hF q (by have := h1 q hq; omega), List.append_nil]
    · rw [hF r e, flatMap_one h2 (by rcases List.mem_cons.1 h with h | h; exact absurd h.symm e; exact h) hF]
      rfl

theorem difs3 (m : MSpot) (R : List Int) : difs m R [1, 2, 3] =
    (difB m R 0 1 1 ++ (difB m R 0 1 2 ++ difB m R 0 1 3)) ++ ((difB m R 0 2 1 ++ (difB m R 0 2 2 ++ difB m R 0 2 3)) ++ (difB m R 0 3 1 ++ (difB m R 0 3 2 ++ difB m R 0 3 3))) ++
    ((difB m R 1 1 1 ++ (difB m R 1 1 2 ++ difB m R 1 1 3)) ++ ((difB m R 1 2 1 ++ (difB m R 1 2 2 ++ difB m R 1 2 3)) ++ (difB m R 1 3 1 ++ (difB m R 1 3 2 ++ difB m R 1 3 3)))) := by
  unfold difs
  simp [List.range_succ]

theorem F5_spec (t : List Int) : F5 t = some true := by
  unfold F5
  obtain ⟨s, e1, k1⟩ := F9_spec t
  obtain ⟨l, s2, e2, k2, hl, hag, hdays, hents, hlen⟩ := F14_spec (n := 4) (by omega) (by omega) k1
  obtain ⟨n, s3, e3, k3, hn⟩ := Pick_spec (l := [1, 15, 60]) k2 (by simp) (by simp)
  have hn1 : 1 ≤ n ∧ n ≤ 60 := by
    simp only [List.mem_cons, List.not_mem_nil, or_false] at hn
    omega
  rw [e1]; simp only [Option.bind_some]
  rw [e2]; simp only [Option.bind_some]
  rw [e3]; simp only [Option.bind_some]
  rw [wrapId (n := (l.length : Int) + 1) (by omega) (by omega)]
  generalize hx : (⟨(l.length : Int) + 1, 60, 2, 140, 110, n, 3, 2⟩ : TApiPosting) = x
  have hpx : postOk x := by subst hx; unfold postOk accOk; simp only; omega
  have hxn : x.Number = (l.length : Int) + 1 := by subst hx; rfl
  have hxd : x.Day = 60 := by subst hx; rfl
  have hld : lastDay l ≤ x.Day := by
    unfold lastDay
    split
    · rename_i h0
      have := hdays _ (at'_mem (l := l) (i := l.length - 1) (by omega))
      omega
    · omega
  have hR := postR_ok (l := l) (p := x) (by omega) hpx hxn hld
  have g1 : Good (l ++ [x]) := hl.app (by omega) hpx hxn hld
  rw [F16_spec hl, hR]; simp only [Option.bind_some]
  obtain ⟨R, m, r1, _, _, r4, r5, r6⟩ := F17_spec g1 grp123 (k := 60) (by omega) (by omega)
  have hd60 : ∀ p ∈ l ++ [x], p.Day ≤ 60 := fun p hp => by
    rcases List.mem_append.1 hp with hp | hp
    · exact hdays p hp
    · simp at hp; subst hp; omega
  have hsp : ∀ c a b r, mget m ⟨c, a, b, r⟩ 0 = tot (spot0 ⟨c, a, b, r⟩) l + (if a = 2 ∧ b = 3 ∧ r = 2 then acctV c x else 0) := fun c a b r => by
    rw [r4, spotV_days hd60, tot1, spot0_eq]
    subst hx
    rfl
  have ac1 : acctV 140 x = n := by subst hx; unfold acctV; simp
  have ac2 : acctV 240 x = 0 := by subst hx; unfold acctV; simp
  have ac3 : acctV 440 x = 0 := by subst hx; unfold acctV; simp
  have ac4 : acctV 540 x = 0 := by subst hx; unfold acctV; simp
  have hdif : ∀ i, i < 2 → ∀ a b r, ¬ (i = 0 ∧ a = 2 ∧ b = 3 ∧ r = 2) → dif m i a b r = [] := fun i hi a b r hq => by
    obtain ⟨i1, i2, _, _⟩ := agr_spots hag a b r
    have : i = 0 ∨ i = 1 := by omega
    unfold dif
    rcases this with rfl | rfl
    · rw [if_neg]
      unfold xv yv
      rw [if_pos rfl, if_pos rfl, hsp, hsp, if_neg (fun e => hq ⟨rfl, e⟩), ac2, ite_self]
      omega
    · rw [if_neg]
      unfold xv yv
      rw [if_neg (by omega), if_neg (by omega), hsp, hsp, ac3, ac4, ite_self, ite_self]
      omega
  have hone : dif m 0 2 3 2 = [⟨1, 2, 3, 2, n⟩] := by
    obtain ⟨i1, i2, _, _⟩ := agr_spots hag 2 3 2
    have e : xv m 0 2 3 2 - yv m 0 2 3 2 = n := by
      unfold xv yv
      rw [if_pos rfl, if_pos rfl, hsp, hsp, if_pos ⟨rfl, rfl, rfl⟩, ac1, ac2, ite_self]
      omega
    unfold dif
    rw [e, if_pos (by omega)]
    rfl
  have hB : ∀ i a b, i < 2 → ¬ (i = 0 ∧ a = 2 ∧ b = 3) → difB m R i a b = [] := fun i a b hi hq => by
    unfold difB
    split
    · rfl
    · exact flatMap_none fun r _ => hdif i hi a b r fun e => hq ⟨e.1, e.2.1, e.2.2.1⟩
  have hB1 : difB m R 0 2 3 = [⟨1, 2, 3, 2, n⟩] := by
    unfold difB
    rw [if_neg (by omega), flatMap_one r1.asc ((r1.mem 2).2 ⟨x, by simp, by subst hx; rfl⟩) fun r hr => hdif 0 (by omega) 2 3 r fun e => hr e.2.2.2, hone]
  have hd : difs m R [1, 2, 3] = [⟨1, 2, 3, 2, n⟩] := by
    rw [difs3, hB1]
    rw [hB 0 1 1 (by omega) (by omega), hB 0 1 2 (by omega) (by omega), hB 0 1 3 (by omega) (by omega), hB 0 2 1 (by omega) (by omega), hB 0 2 2 (by omega) (by omega), hB 0 3 1 (by omega) (by omega), hB 0 3 2 (by omega) (by omega), hB 0 3 3 (by omega) (by omega)]
    rw [hB 1 1 1 (by omega) (by omega), hB 1 1 2 (by omega) (by omega), hB 1 1 3 (by omega) (by omega), hB 1 2 1 (by omega) (by omega), hB 1 2 2 (by omega) (by omega), hB 1 2 3 (by omega) (by omega), hB 1 3 1 (by omega) (by omega), hB 1 3 2 (by omega) (by omega), hB 1 3 3 (by omega) (by omega)]
    rfl
  rw [r6, hd]; simp only [Option.bind_some]
  rw [optP_pos (gs := [(bif ((0 : Int) == 0) then ((0 : Int) == 0) else false) = true]) (And.intro rfl trivial), F18_refl]; simp only [Option.bind_some]
  rw [optP_pos (gs := [(bif (bif ((0 : Int) == 0) then ((0 : Int) == 0) else false) then true else false) = true]) (And.intro rfl trivial), F13_spec]
  rfl
end Go.Proofs.Ytkkdclpleghppaa
