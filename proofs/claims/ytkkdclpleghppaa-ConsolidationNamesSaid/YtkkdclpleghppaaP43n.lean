/- A part of the proof: plain laws of what the functions compute. No condition. -/
import Derived.Test.YtkkdclpleghppaaP43m
namespace Go.Proofs.Ytkkdclpleghppaa
open Go Go.TA

theorem postR_ok {l : List TApiPosting} {p : TApiPosting} (hl : l.length < 400) (hp : postOk p) (hn : p.Number = (l.length : Int) + 1) (hd : lastDay l ≤ p.Day) : postR l p = (⟨l ++ [p]⟩, 0) := by
  unfold postR
  rw [if_neg (c := ¬ postOk p) (fun h => h hp), if_neg (by omega), if_neg (c := p.Number ≠ (l.length : Int) + 1) (fun h => h hn), if_neg (by omega)]
theorem lastDay_app (l : List TApiPosting) (p : TApiPosting) : lastDay (l ++ [p]) = p.Day := by
  unfold lastDay
  rw [if_pos (by simp), at'_app, if_neg (by simp), if_pos (by simp)]

structure AgrS (n0 : Int) (q : TTreasuryplaySrc × TApiLedger × Int × Int) : Prop where
  src : SrcOk q.1
  good : Good q.2.1.Postings
  agr : AgrL q.2.1.Postings
  last : lastDay q.2.1.Postings ≤ q.2.2.1
  day : 0 ≤ q.2.2.1 ∧ q.2.2.1 ≤ 2 * (n0 - q.2.2.2)
  days : ∀ p ∈ q.2.1.Postings, p.Day ≤ 60
  ents : ∀ p ∈ q.2.1.Postings, 1 ≤ p.Entity ∧ p.Entity ≤ 3
  len : (q.2.1.Postings.length : Int) ≤ 3 * (n0 - q.2.2.2)
  k : q.2.2.2 ≤ n0

theorem F14_round {n0 : Int} (hn : n0 ≤ 5) {q : TTreasuryplaySrc × TApiLedger × Int × Int} (h : AgrS n0 q) (hk : q.2.2.2 > 0) : ∃ q', F14_b1 q = some (.cont q') ∧ AgrS n0 q' ∧ q'.2.2.2 = q.2.2.2 - 1 := by
  obtain ⟨s, ⟨l⟩, day, k⟩ := q
  obtain ⟨i1, i2, i3, i4, i5, i6, i6e, i7, i8⟩ := h
  simp only at i1 i2 i3 i4 i5 i6 i6e i7 i8 hk
  unfold F14_b1
  rw [if_pos (by simpa using hk)]
  simp only
  obtain ⟨a, s1, e1, k1, a0, a1⟩ := Range_spec (lo := 1) (hi := 3) i1 (by omega) (by omega) (by omega)
  obtain ⟨n, s2, e2, k2, hn0⟩ := Pick_spec (l := [5, 40, 100]) k1 (by simp) (by simp)
  obtain ⟨r, s3, e3, k3, r0, r1⟩ := Range_spec (lo := 1) (hi := 3) k2 (by omega) (by omega) (by omega)
  have hn1 : 5 ≤ n ∧ n ≤ 100 := by
    simp only [List.mem_cons, List.not_mem_nil, or_false] at hn0
    omega
  rw [e1]; simp only [Option.bind_some]
  rw [e2]; simp only [Option.bind_some]
  rw [e3]; simp only [Option.bind_some]
  obtain ⟨b, hb, b0, b1, b2⟩ : ∃ b, IntKind.i64.wrap (a.tmod 3 + 1) = b ∧ 1 ≤ b ∧ b ≤ 3 ∧ a ≠ b := by
    have : a = 1 ∨ a = 2 ∨ a = 3 := by omega
    rcases this with rfl | rfl | rfl <;> exact ⟨_, rfl, by decide, by decide, by decide⟩
  rw [hb, wrapId (n := (l.length : Int) + 1) (by omega) (by omega), wrapId (n := (l.length : Int) + 1 + 1) (by omega) (by omega), wrapId (n := k - 1) (by omega) (by omega)]
  generalize hx : (⟨(l.length : Int) + 1, day, a, 140, 440, n, b, r⟩ : TApiPosting) = x
  generalize hy : (⟨(l.length : Int) + 1 + 1, day, b, 540, 240, n, a, r⟩ : TApiPosting) = y
  have hpx : postOk x := by subst hx; unfold postOk accOk; simp only; omega
  have hpy : postOk y := by subst hy; unfold postOk accOk; simp only; omega
  have hxd : x.Day = day := by subst hx; rfl
  have hyd : y.Day = day := by subst hy; rfl
  have hxn : x.Number = (l.length : Int) + 1 := by subst hx; rfl
  have hyn : y.Number = (l.length : Int) + 1 + 1 := by subst hy; rfl
  have hxe : x.Entity = a := by subst hx; rfl
  have hye : y.Entity = b := by subst hy; rfl
  have hpair : PairOk a b n r x y := by
    subst hx; subst hy
    exact ⟨by omega, by omega, ⟨rfl, rfl, rfl, rfl, rfl, rfl⟩, ⟨rfl, rfl, rfl, rfl, rfl, rfl⟩⟩
  have hR1 := postR_ok (l := l) (p := x) (by omega) hpx hxn (by omega)
  have g1 : Good (l ++ [x]) := i2.app (by omega) hpx hxn (by omega)
  have hR2 := postR_ok (l := l ++ [x]) (p := y) (by simp; omega) hpy (by rw [hyn]; simp) (by rw [lastDay_app]; omega)
  have g2 : Good (l ++ [x] ++ [y]) := g1.app (by simp; omega) hpy (by rw [hyn]; simp) (by rw [lastDay_app]; omega)
  rw [F16_spec i2, hR1]; simp only [Option.bind_some]
  rw [F16_spec g1, hR2]; simp only [Option.bind_some]
  obtain ⟨v, s4, e4, k4, v0, v1, _⟩ := N_spec (n := 3) k3 (by omega)
  have v1 := v1 (by omega)
  rw [e4]; simp only [Option.bind_some]
  have hlen2 : ((l ++ [x] ++ [y]).length : Int) = (l.length : Int) + 2 := by simp
  have hl2 : l ++ [x] ++ [y] = l ++ [x, y] := by simp
  rw [hlen2, wrapId (n := (l.length : Int) + 2 + 1) (by omega) (by omega), wrapId (n := day + v) (by omega) (by omega)]
  obtain ⟨p, s5, e5, k5, hp⟩ := F20_spec (a1 := (l.length : Int) + 2 + 1) (a2 := day + v) (a3 := 1) k4 (.inl rfl)
  rw [e5]; simp only [Option.bind_some]
  obtain ⟨w, s6, e6, k6, w0, w1, _⟩ := N_spec (n := 2) k5 (by omega)
  rw [e6]; simp only [Option.bind_some]
  have hag2 : AgrL (l ++ [x] ++ [y]) := by rw [hl2]; exact .pair l a b n r x y i3 hpair
  have hdays2 : ∀ z ∈ l ++ [x] ++ [y], z.Day ≤ 60 := fun z hz => by
    rw [hl2] at hz
    rcases List.mem_append.1 hz with hz | hz
    · exact i6 z hz
    · simp at hz; rcases hz with rfl | rfl <;> omega
  have hents2 : ∀ z ∈ l ++ [x] ++ [y], 1 ≤ z.Entity ∧ z.Entity ≤ 3 := fun z hz => by
    rw [hl2] at hz
    rcases List.mem_append.1 hz with hz | hz
    · exact i6e z hz
    · simp at hz; rcases hz with rfl | rfl <;> omega
  by_cases hw : w = 1
  · subst hw
    rw [if_pos (by decide)]
    obtain ⟨pa1, pa2, pa3⟩ := hp.alone rfl
    have hpp : postOk p := by
      have h1 := hp.num; have h2 := hp.day; have h3 := hp.ent; have h4 := hp.amount; have h5 := hp.ref; have h6 := hp.acc
      have h7 := hp.part
      exact ⟨by omega, by omega, by omega, h6.2.2, h6.1, h6.2.1, by omega, by omega, h7.2.2, by omega⟩
    have hR3 := postR_ok (l := l ++ [x] ++ [y]) (p := p) (by simp; omega) hpp (by rw [hp.num, hlen2]) (by rw [lastDay_app, hp.day]; omega)
    have g3 : Good (l ++ [x] ++ [y] ++ [p]) := g2.app (by simp; omega) hpp (by rw [hp.num, hlen2]) (by rw [lastDay_app, hp.day]; omega)
    rw [F16_spec g2, hR3]; simp only [Option.bind_some]
    refine ⟨_, rfl, ⟨k6, g3, .one _ p hag2 ⟨pa1, .inl ?_, ?_, ?_⟩, ?_, ?_, ?_, ?_, ?_, ?_⟩, rfl⟩
    · have := hp.ent; omega
    · simp only [List.mem_cons, List.not_mem_nil, or_false] at pa2
      unfold mutAcc
      omega
    · simp only [List.mem_cons, List.not_mem_nil, or_false] at pa3
      unfold mutAcc
      omega
    · rw [lastDay_app, hp.day]; exact Int.le_refl _
    · simp only; omega
    · intro z hz
      rcases List.mem_append.1 hz with hz | hz
      · exact hdays2 z hz
      · simp at hz; subst hz; rw [hp.day]; omega
    · intro z hz
      rcases List.mem_append.1 hz with hz | hz
      · exact hents2 z hz
      · simp at hz; subst hz; have := hp.ent; omega
    · simp only [List.length_append, List.length_cons, List.length_nil]; omega
    · simp only; omega
  · rw [if_neg (by simpa using hw)]
    refine ⟨_, rfl, ⟨k6, g2, hag2, ?_, ?_, hdays2, hents2, ?_, ?_⟩, rfl⟩
    · rw [lastDay_app]; simp only; omega
    · simp only; omega
    · simp only [List.length_append, List.length_cons, List.length_nil]; omega
    · simp only; omega

theorem F14_spec {n : Int} (h0 : 0 ≤ n) (hn : n ≤ 5) {s : TTreasuryplaySrc} (hs : SrcOk s) : ∃ l s', F14 n s = some (⟨l⟩, s') ∧ SrcOk s' ∧ Good l ∧ AgrL l ∧ (∀ p ∈ l, p.Day ≤ 60) ∧ (∀ p ∈ l, 1 ≤ p.Entity ∧ p.Entity ≤ 3) ∧ l.length ≤ 20 := by
  unfold F14
  rw [wrapId (n := n + 1) (by omega) (by omega)]
  obtain ⟨v, s1, e1, k1, v0, v1, _⟩ := N_spec (n := n + 1) hs (by omega)
  have v1 := v1 (by omega)
  rw [e1]; simp only [Option.bind_some]
  obtain ⟨q, h1, h2⟩ := iterM_inv (step := F14_b1) (fun q => q.2.2.2.toNat) (fun q => AgrS v q ∧ 0 ≤ q.2.2.2) (fun q => AgrS v q ∧ 0 ≤ q.2.2.2) (by
    rintro q ⟨hq, hq0⟩
    by_cases hk : q.2.2.2 > 0
    · left
      obtain ⟨q', a1, a2, a3⟩ := F14_round (by omega) hq hk
      exact ⟨q', a1, ⟨a2, by omega⟩, by omega⟩
    · right
      refine ⟨q, ?_, hq, hq0⟩
      unfold F14_b1
      rw [if_neg (by simpa using hk)]) 7 (s1, ⟨[]⟩, 0, v) (by simp only; omega)
      ⟨⟨k1, good_nil, .nil, by unfold lastDay; simp, by simp, fun p hp => by simp at hp, fun p hp => by simp at hp, by simp, by simp⟩, v0⟩
  rw [h1]
  obtain ⟨h2, h3⟩ := h2
  refine ⟨q.2.1.Postings, q.1, rfl, h2.src, h2.good, h2.agr, h2.days, h2.ents, ?_⟩
  have := h2.len
  omega

/-! ## What Whole makes of it -/
theorem spotV_days {l : List TApiPosting} {k : Int} (h : ∀ p ∈ l, p.Day ≤ k) (s : TConsolidationSpot) : tot (spotV k s) l = tot (spot0 s) l :=
  tot_congr fun p hp => by unfold spotV spot0; rw [if_pos (h p hp)]
theorem bookV_all {l : List TApiPosting} {k : Int} {g : List Int} (h : ∀ p ∈ l, p.Day ≤ k) (he : ∀ p ∈ l, p.Entity ∈ g) (n : Int) : tot (bookV g k n) l = tot (acctV n) l :=
  tot_congr fun p hp => by
    unfold bookV acctV
    rw [if_pos ⟨he p hp, h p hp⟩]
    congr 1
    · by_cases e : n = p.Debit
      · rw [if_pos e, if_pos e.symm]
      · rw [if_neg e, if_neg fun q => e q.symm]
    · by_cases e : n = p.Credit
      · rw [if_pos e, if_pos e.symm]
      · rw [if_neg e, if_neg fun q => e q.symm]

structure AgrW (l : List TApiPosting) (k : Int) (R : List Int) (m : MSpot) : Prop where
  agr : AgrL l
  refs : Refs l R
  spot : ∀ s, mget m s 0 = tot (spot0 s) l

theorem agrW_xy {l : List TApiPosting} {k : Int} {R : List Int} {m : MSpot} (h : AgrW l k R m) (a b r : Int) :
    xv m 0 a b r = tot (spot0 ⟨140, a, b, r⟩) l ∧ yv m 0 a b r = tot (spot0 ⟨140, a, b, r⟩) l ∧ 0 ≤ tot (spot0 ⟨140, a, b, r⟩) l ∧
    xv m 1 a b r = -tot (spot0 ⟨440, a, b, r⟩) l ∧ yv m 1 a b r = -tot (spot0 ⟨440, a, b, r⟩) l ∧ tot (spot0 ⟨440, a, b, r⟩) l ≤ 0 := by
  obtain ⟨i1, i2, i3, i4⟩ := agr_spots h.agr a b r
  have e1 : xv m 0 a b r = tot (spot0 ⟨140, a, b, r⟩) l := by unfold xv; rw [if_pos rfl, h.spot]
  have e2 : yv m 0 a b r = -tot (spot0 ⟨240, b, a, r⟩) l := by unfold yv; rw [if_pos rfl, h.spot]
  have e3 : xv m 1 a b r = -tot (spot0 ⟨440, a, b, r⟩) l := by unfold xv; rw [if_neg (by omega), h.spot]
  have e4 : yv m 1 a b r = tot (spot0 ⟨540, b, a, r⟩) l := by unfold yv; rw [if_neg (by omega), h.spot]
  rw [e1, e2, e3, e4]
  omega

theorem nn_same {x : Int} (h : 0 ≤ x) : nn x x = x := by
  unfold nn
  split
  · omega
  · split <;> omega
end Go.Proofs.Ytkkdclpleghppaa
