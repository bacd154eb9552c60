/- A part of the proof: plain laws of what the functions compute. No condition. -/
import Derived.Test.YtkkdclpleghppaaP43n
namespace Go.Proofs.Ytkkdclpleghppaa
open Go Go.TA

/-! ## ConsolidationAgreed -/
theorem sumQ_congr {f g : Quad → Int} : ∀ {S : List Quad}, (∀ q ∈ S, f q = g q) → sumQ f S = sumQ g S
  | [], _ => rfl
  | q :: S, h => by simp [sumQ, h q List.mem_cons_self, sumQ_congr (S := S) fun p hp => h p (List.mem_cons_of_mem _ hp)]

theorem agrW_nq {l : List TApiPosting} {k : Int} {R : List Int} {m : MSpot} (h : AgrW l k R m) (a b r : Int) :
    nq m (0, a, b, r) = tot (spot0 ⟨140, a, b, r⟩) l ∧ nq m (1, a, b, r) = -tot (spot0 ⟨440, a, b, r⟩) l := by
  obtain ⟨e1, e2, e3, e4, e5, e6⟩ := agrW_xy h a b r
  unfold nq
  simp only
  rw [e1, e2, e4, e5, nn_same e3, nn_same (by omega)]
  exact ⟨rfl, rfl⟩

theorem agr_difs {l : List TApiPosting} {k : Int} {R : List Int} {m : MSpot} (h : AgrW l k R m) (g : List Int) : difs m R g = [] := by
  have h0 : ∀ i, i < 2 → ∀ a b r, dif m i a b r = [] := fun i hi a b r => by
    obtain ⟨e1, e2, _, e4, e5, _⟩ := agrW_xy h a b r
    unfold dif
    have : i = 0 ∨ i = 1 := by omega
    rcases this with rfl | rfl
    · rw [if_neg]; rw [e1, e2]; omega
    · rw [if_neg]; rw [e4, e5]; omega
  unfold difs
  rw [List.flatMap_eq_nil_iff]
  intro i hi
  rw [List.flatMap_eq_nil_iff]
  intro a _
  rw [List.flatMap_eq_nil_iff]
  intro b _
  unfold difB
  split
  · rfl
  · rw [List.flatMap_eq_nil_iff]
    exact fun r _ => h0 i (List.mem_range.1 hi) a b r

/-- All that is eliminated, and what it does to the four accounts. -/
theorem agr_sums {l : List TApiPosting} {k : Int} {R : List Int} {m : MSpot} (h : AgrW l k R m) :
    sumQ (nq m) (quads R [1, 2, 3]) = tot partV l ∧ (∀ c, mutAcc c → tot (acctV c) l + sumQ (dq m c) (quads R [1, 2, 3]) = 0) := by
  obtain ⟨a1, a2, a3⟩ := agr_accts h.agr
  have s1 : sumP R (fun a b r => nq m (0, a, b, r)) = tot (acctV 140) l := by
    rw [sumP_congr fun a b r => (agrW_nq h a b r).1, agr_sum h.agr h.refs (.inl rfl)]
  have s2 : sumP R (fun a b r => nq m (1, a, b, r)) = -tot (acctV 440) l := by
    rw [sumP_congr fun a b r => (agrW_nq h a b r).2, sumP_neg, agr_sum h.agr h.refs (.inr (.inr (.inl rfl)))]
  have z : sumP R (fun _ _ _ => 0) = 0 := by unfold sumP; simp [sumR_zero]
  refine ⟨?_, fun c hc => ?_⟩
  · rw [sumQ_quads3, s1, s2]; omega
  · rw [sumQ_quads3]
    rcases hc with rfl | rfl | rfl | rfl
    · rw [sumP_congr (F := fun a b r => dq m 140 (0, a, b, r)) (G := fun a b r => -nq m (0, a, b, r)) fun a b r => rfl, sumP_congr (F := fun a b r => dq m 140 (1, a, b, r)) (G := fun _ _ _ => 0) fun a b r => rfl, sumP_neg, s1, z]; omega
    · rw [sumP_congr (F := fun a b r => dq m 240 (0, a, b, r)) (G := fun a b r => nq m (0, a, b, r)) fun a b r => rfl, sumP_congr (F := fun a b r => dq m 240 (1, a, b, r)) (G := fun _ _ _ => 0) fun a b r => rfl, s1, z]; omega
    · rw [sumP_congr (F := fun a b r => dq m 440 (0, a, b, r)) (G := fun _ _ _ => 0) fun a b r => rfl, sumP_congr (F := fun a b r => dq m 440 (1, a, b, r)) (G := fun a b r => nq m (1, a, b, r)) fun a b r => rfl, s2, z]; omega
    · rw [sumP_congr (F := fun a b r => dq m 540 (0, a, b, r)) (G := fun _ _ _ => 0) fun a b r => rfl, sumP_congr (F := fun a b r => dq m 540 (1, a, b, r)) (G := fun a b r => -nq m (1, a, b, r)) fun a b r => rfl, sumP_neg, s2, z]; omega

theorem grp123 : Grp [1, 2, 3] := grp_of (by decide) (by decide) (by decide) (by decide)

theorem F4_spec (t : List Int) : F4 t = some true := by
  unfold F4
  obtain ⟨s, e1, k1⟩ := F9_spec t
  obtain ⟨l, s2, e2, k2, hl, hag, hdays, hents, hlen⟩ := F14_spec (n := 5) (by omega) (by omega) k1
  rw [e1]; simp only [Option.bind_some]
  rw [e2]; simp only [Option.bind_some]
  obtain ⟨R, m, mp, E, hw, h1⟩ := F11_spec hl grp123 (by decide) (k := 36000) (by omega) (by omega)
  have hd36 : ∀ p ∈ l, p.Day ≤ 36000 := fun p hp => by have := hdays p hp; omega
  have hW : AgrW l 36000 R m := ⟨hag, hw.refs, fun s => by rw [hw.spot, spotV_days hd36]⟩
  obtain ⟨q1, q2⟩ := agr_sums hW
  have hE : E = tot partV l := by rw [hw.elim, q1]
  have hdf := agr_difs hW [1, 2, 3]
  rw [h1]; simp only [Option.bind_some]
  rw [hdf, if_neg (by decide)]
  have hbook : ∀ c, mutAcc c → mget mp c 0 = 0 := fun c hc => by
    rw [hw.book, bookV_all hd36 (fun p hp => by have := hents p hp; have : p.Entity = 1 ∨ p.Entity = 2 ∨ p.Entity = 3 := by omega
                                                simpa using this)]
    exact q2 c hc
  obtain ⟨u, u1, u2⟩ := rangeM_inv (body := F4_b1 (⟨l⟩, s2)) (n := l.length) (s0 := (0 : Int)) (fun i s => s = tot partV (l.take i)) (by simp [tot]) (fun i v hi hv => by
    unfold F4_b1
    have hp := hl.post i hi
    have ha := hp.2.2.2.2.2.2.1
    have hb := tot_bound (f := partV) (c := 1000000000000) (l := l.take i) fun p hp => by
      have h1 := (good_mem hl (List.mem_of_mem_take hp)).2.2.2.2.2.2.1
      unfold partV
      split <;> omega
    have e : (l.take i).length = i := by simp; omega
    rw [e] at hb
    show ∃ s', Option.bind (if ((at' l i).Partner != 0) = true then some (IntKind.i64.wrap (v + (at' l i).Amount)) else some v) (fun s => some (Step.cont s)) = some (.cont s') ∧ _
    by_cases h0 : (at' l i).Partner ≠ 0
    · rw [if_pos (by simpa using h0), wrapId (n := v + (at' l i).Amount) (by omega) (by omega)]
      refine ⟨_, rfl, ?_⟩
      rw [tot_succ _ hi, hv]
      unfold partV
      rw [if_pos h0]
    · rw [if_neg (by simpa using h0)]
      refine ⟨_, rfl, ?_⟩
      rw [tot_succ _ hi, hv]
      unfold partV
      rw [if_neg h0]; omega)
  rw [u1]
  have hB : ∀ b ∈ balL 600 fun n => mget mp n 0, ¬ mutAcc b.Account := fun b hb hc => by
    obtain ⟨_, _, b1, b2⟩ := balL_mem hb
    rw [b1, hbook _ hc] at b2
    exact b2 rfl
  generalize (balL 600 fun n => mget mp n 0) = B at *
  have h2 : rangeM (F4_b2 (⟨B, E, []⟩, 0)) B.length 0 () = _ := rangeM_any (c := false) (fun _ => false) fun i hi => by
    unfold F4_b2
    have hm := hB _ (getD_mem hi)
    unfold mutAcc at hm
    have hc : (bif (bif (bif (((B.getD i default).Account) == 140) then true else (((B.getD i default).Account) == 240)) then true else (((B.getD i default).Account) == 440)) then true else (((B.getD i default).Account) == 540)) = false := by
      rw [cond_or, cond_or, cond_or]
      simp only [Bool.or_eq_false_iff, beq_eq_false_iff_ne, ne_eq]
      omega
    show outM (if (bif (bif (bif (((B.getD i default).Account) == 140) then true else (((B.getD i default).Account) == 240)) then true else (((B.getD i default).Account) == 440)) then true else (((B.getD i default).Account) == 540)) = true then _ else _) _ _ = _
    rw [hc]
    rfl
  have h3 : (List.range B.length).any (fun _ => false) = false := by rw [List.any_eq_false]; simp
  show outM (rangeM (F4_b2 (⟨B, E, []⟩, 0)) B.length 0 ()) _ _ = _
  rw [h2, h3]
  rw [List.take_length] at u2
  have hEu : (E == u) = true := by rw [hE, u2]; simp
  show (optP [(E == u) = true] F13).bind _ = _
  rw [optP_pos (gs := [(E == u) = true]) (And.intro hEu trivial), F13_spec]
  simp only [Option.bind_some]
  rw [hEu]
  rfl
end Go.Proofs.Ytkkdclpleghppaa
