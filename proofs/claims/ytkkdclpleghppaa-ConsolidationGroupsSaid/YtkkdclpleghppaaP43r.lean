/- A part of the proof: plain laws of what the functions compute. No condition. -/
import Derived.Test.YtkkdclpleghppaaP43q
namespace Go.Proofs.Ytkkdclpleghppaa
open Go Go.TA

/-! ## ConsolidationGroups -/
theorem wrap_sub (a b : Int) : IntKind.i64.wrap (IntKind.i64.wrap a - b) = IntKind.i64.wrap (a - b) := by
  apply wrap_congr
  have := wrap_mod a
  omega
def sumAcc (c : Int) : List TApiBalance → Int
  | [] => 0
  | b :: r => (if b.Account = c then b.Amount else 0) + sumAcc c r
theorem sumAcc_app (c : Int) : ∀ a b : List TApiBalance, sumAcc c (a ++ b) = sumAcc c a + sumAcc c b
  | [], b => by simp [sumAcc]
  | x :: a, b => by simp [sumAcc, sumAcc_app c a b]; omega
theorem sumAcc_succ {c : Int} {B : List TApiBalance} {i : Nat} (hi : i < B.length) : sumAcc c (B.take (i + 1)) = sumAcc c (B.take i) + (if (B.getD i default).Account = c then (B.getD i default).Amount else 0) := by
  rw [List.take_add_one, sumAcc_app]
  simp [List.getElem?_eq_getElem hi, sumAcc]
theorem sumAcc_balL (f : Int → Int) (c : Int) : ∀ N : Nat, sumAcc c (balL N f) = if 0 ≤ c ∧ c < N then f c else 0
  | 0 => by rw [if_neg (by omega)]; rfl
  | N + 1 => by
    have hs : balL (N + 1) f = balL N f ++ balI f N := by
      unfold balL
      rw [List.range_succ, List.flatMap_append]
      simp
    rw [hs, sumAcc_app, sumAcc_balL f c N]
    unfold balI
    by_cases hz : f (N : Int) ≠ 0
    · rw [if_pos hz]
      simp only [sumAcc]
      by_cases hc : (N : Int) = c
      · subst hc
        rw [if_neg (by omega), if_pos rfl, if_pos (by omega)]; omega
      · rw [if_neg hc]
        by_cases h2 : 0 ≤ c ∧ c < N
        · rw [if_pos h2, if_pos (by omega)]; omega
        · rw [if_neg h2, if_neg (by omega)]; rfl
    · rw [if_neg hz]
      simp only [sumAcc]
      by_cases hc : (N : Int) = c
      · subst hc
        rw [if_neg (by omega), if_pos (by omega)]; omega
      · by_cases h2 : 0 ≤ c ∧ c < N
        · rw [if_pos h2, if_pos (by omega)]; omega
        · rw [if_neg h2, if_neg (by omega)]; rfl

theorem addLoop {body : Nat → Int → Option (Step Int Bool)} {B : List TApiBalance} {c : Int} (hb : ∀ i s, i < B.length → body i s = some (.cont (if (B.getD i default).Account = c then IntKind.i64.wrap (s + (B.getD i default).Amount) else s))) (x : Int) :
    rangeM body B.length 0 (IntKind.i64.wrap x) = some (.next (IntKind.i64.wrap (x + sumAcc c B))) := by
  obtain ⟨u, u1, u2⟩ := rangeM_inv (body := body) (n := B.length) (s0 := IntKind.i64.wrap x) (fun i s => s = IntKind.i64.wrap (x + sumAcc c (B.take i))) (by simp [sumAcc]) (fun i s hi hs => by
    refine ⟨_, hb i s hi, ?_⟩
    rw [sumAcc_succ hi, hs]
    split
    · rw [wrap_add]; congr 1; omega
    · congr 1; omega)
  rw [u1, u2, List.take_length]
theorem subLoop {body : Nat → Int → Option (Step Int Bool)} {B : List TApiBalance} {c : Int} (hb : ∀ i s, i < B.length → body i s = some (.cont (if (B.getD i default).Account = c then IntKind.i64.wrap (s - (B.getD i default).Amount) else s))) (x : Int) :
    rangeM body B.length 0 (IntKind.i64.wrap x) = some (.next (IntKind.i64.wrap (x - sumAcc c B))) := by
  obtain ⟨u, u1, u2⟩ := rangeM_inv (body := body) (n := B.length) (s0 := IntKind.i64.wrap x) (fun i s => s = IntKind.i64.wrap (x - sumAcc c (B.take i))) (by simp [sumAcc]) (fun i s hi hs => by
    refine ⟨_, hb i s hi, ?_⟩
    rw [sumAcc_succ hi, hs]
    split
    · rw [wrap_sub]; congr 1; omega
    · congr 1; omega)
  rw [u1, u2, List.take_length]

theorem F6_b5_step {B1 B2 B3 : List TApiBalance} {E1 E2 E3 : Int} {D1 D2 D3 : List TApiDifference} {c : Int} (hc : 100 ≤ c) (hc2 : c < 600) (h : sumAcc c B1 + sumAcc c B3 = sumAcc c B2) :
    F6_b5 (⟨B1, E1, D1⟩, 0) (⟨B2, E2, D2⟩, 0) (⟨B3, E3, D3⟩, 0) c = some (.cont (c + 1)) := by
  unfold F6_b5
  rw [if_pos (by simpa using hc2), wrapId (n := c + 1) (by omega) (by omega)]
  have l1 := addLoop (body := F6_b2 (⟨B1, E1, D1⟩, 0) c) (B := B1) (c := c) (fun i s hi => by
    unfold F6_b2
    by_cases e : (B1.getD i default).Account = c
    · rw [if_pos (by simpa using e), if_pos e]; rfl
    · rw [if_neg (by simpa using e), if_neg e]; rfl) 0
  have l3 := addLoop (body := F6_b3 (⟨B3, E3, D3⟩, 0) c) (B := B3) (c := c) (fun i s hi => by
    unfold F6_b3
    by_cases e : (B3.getD i default).Account = c
    · rw [if_pos (by simpa using e), if_pos e]; rfl
    · rw [if_neg (by simpa using e), if_neg e]; rfl) (0 + sumAcc c B1)
  have l2 := subLoop (body := F6_b4 (⟨B2, E2, D2⟩, 0) c) (B := B2) (c := c) (fun i s hi => by
    unfold F6_b4
    by_cases e : (B2.getD i default).Account = c
    · rw [if_pos (by simpa using e), if_pos e]; rfl
    · rw [if_neg (by simpa using e), if_neg e]; rfl) (0 + sumAcc c B1 + sumAcc c B3)
  have w0 : IntKind.i64.wrap 0 = 0 := by decide
  rw [w0] at l1
  show outM (outM (rangeM (F6_b2 (⟨B1, E1, D1⟩, 0) c) B1.length 0 0) (fun s => outM (rangeM (F6_b3 (⟨B3, E3, D3⟩, 0) c) B3.length 0 s) _ _) _) _ _ = _
  rw [l1]
  simp only [outM]
  show outM (outM (rangeM (F6_b3 (⟨B3, E3, D3⟩, 0) c) B3.length 0 _) (fun s => outM (rangeM (F6_b4 (⟨B2, E2, D2⟩, 0) c) B2.length 0 s) _ _) _) _ _ = _
  rw [l3]
  show outM (outM (rangeM (F6_b4 (⟨B2, E2, D2⟩, 0) c) B2.length 0 _) _ _) _ _ = _
  rw [l2, show 0 + sumAcc c B1 + sumAcc c B3 - sumAcc c B2 = 0 by omega, w0]
  rfl

/-! The ledger -/
structure GrpS (q : TTreasuryplaySrc × TApiLedger × Int) : Prop where
  src : SrcOk q.1
  good : Good q.2.1.Postings
  agr : AgrL q.2.1.Postings
  days : ∀ p ∈ q.2.1.Postings, p.Day ≤ 70
  ents : ∀ p ∈ q.2.1.Postings, (1 ≤ p.Entity ∧ p.Entity ≤ 3) ∨ p.Entity = 5
  len : (q.2.1.Postings.length : Int) + q.2.2 ≤ 24
  k : q.2.2 ≤ 4

theorem F6_round {q : TTreasuryplaySrc × TApiLedger × Int} (h : GrpS q) (hk : q.2.2 > 0) : ∃ q', F6_b1 q = some (.cont q') ∧ GrpS q' ∧ q'.2.2 = q.2.2 - 1 := by
  obtain ⟨s, ⟨l⟩, k⟩ := q
  obtain ⟨i1, i2, i3, i4, i5, i6, i7⟩ := h
  simp only at i1 i2 i3 i4 i5 i6 i7 hk
  unfold F6_b1
  rw [if_pos (by simpa using hk)]
  simp only
  rw [wrapId (n := (l.length : Int) + 1) (by omega) (by omega), wrapId (n := k - 1) (by omega) (by omega)]
  obtain ⟨p, s1, e1, k1, hp⟩ := F20_spec (a1 := (l.length : Int) + 1) (a2 := 70) (a3 := 1) i1 (.inl rfl)
  rw [e1]; simp only [Option.bind_some]
  obtain ⟨pa1, pa2, pa3⟩ := hp.alone rfl
  generalize hx : (⟨p.Number, p.Day, 5, p.Debit, p.Credit, p.Amount, p.Partner, p.Ref⟩ : TApiPosting) = x
  have hpx : postOk x := by
    have h1 := hp.num; have h2 := hp.day; have h4 := hp.amount; have h5 := hp.ref; have h6 := hp.acc
    subst hx
    refine ⟨?_, ?_, ?_, h6.2.2, h6.1, h6.2.1, ?_, ?_, ?_, ?_⟩ <;> simp only <;> omega
  have hxn : x.Number = (l.length : Int) + 1 := by subst hx; exact hp.num
  have hxd : x.Day = 70 := by subst hx; exact hp.day
  have hld : lastDay l ≤ x.Day := by
    unfold lastDay
    split
    · rename_i h0
      have := i4 _ (at'_mem (l := l) (i := l.length - 1) (by omega))
      omega
    · omega
  have hR := postR_ok (l := l) (p := x) (by omega) hpx hxn hld
  rw [F16_spec i2, hR]; simp only [Option.bind_some]
  refine ⟨_, rfl, ⟨k1, i2.app (by omega) hpx hxn hld, .one l x i3 ?_, ?_, ?_, ?_, ?_⟩, rfl⟩
  · subst hx
    simp only [List.mem_cons, List.not_mem_nil, or_false] at pa2 pa3
    refine ⟨pa1, .inr rfl, ?_, ?_⟩
    · unfold mutAcc; simp only; omega
    · unfold mutAcc; simp only; omega
  · intro z hz
    rcases List.mem_append.1 hz with hz | hz
    · exact i4 z hz
    · simp at hz; subst hz; omega
  · intro z hz
    rcases List.mem_append.1 hz with hz | hz
    · exact i5 z hz
    · simp at hz; subst hz; right; subst hx; rfl
  · simp only [List.length_append, List.length_cons, List.length_nil]; omega
  · simp only; omega

theorem sumQ_quads5 {f : Quad → Int} {R : List Int} (h1 : ∀ i a r, f (i, a, 5, r) = 0) (h2 : ∀ i a r, f (i, 5, a, r) = 0) : sumQ f (quads R [1, 2, 3, 5]) = sumQ f (quads R [1, 2, 3]) := by
  unfold quads
  simp [List.range_succ, quadsB, sumQ_app, sumQ_map, h1, h2, sumR_zero]

theorem agr_five {l : List TApiPosting} (h : AgrL l) {c : Int} (hc : mutAcc c) (a r : Int) : tot (spot0 ⟨c, a, 5, r⟩) l = 0 ∧ tot (spot0 ⟨c, 5, a, r⟩) l = 0 := by
  refine ⟨tot_const0 fun p hp => ?_, tot_const0 fun p hp => ?_⟩
  · rw [spot0_eq]
    rcases agr_mem h p hp with h1 | h1
    · rw [if_neg (by omega)]
    · rw [acctV_one h1 hc, ite_self]
  · rw [spot0_eq]
    rcases agr_mem h p hp with h1 | h1
    · rw [if_neg (by omega)]
    · rw [acctV_one h1 hc, ite_self]

theorem nq_five {l : List TApiPosting} {k : Int} {R : List Int} {m : MSpot} (h : AgrW l k R m) : (∀ i, i < 2 → ∀ a r, nq m (i, a, 5, r) = 0) ∧ ∀ i, i < 2 → ∀ a r, nq m (i, 5, a, r) = 0 := by
  refine ⟨fun i hi a r => ?_, fun i hi a r => ?_⟩
  · have : i = 0 ∨ i = 1 := by omega
    rcases this with rfl | rfl
    · rw [(agrW_nq h a 5 r).1, (agr_five h.agr (.inl rfl) a r).1]
    · rw [(agrW_nq h a 5 r).2, (agr_five h.agr (.inr (.inr (.inl rfl))) a r).1]; rfl
  · have : i = 0 ∨ i = 1 := by omega
    rcases this with rfl | rfl
    · rw [(agrW_nq h 5 a r).1, (agr_five h.agr (.inl rfl) a r).2]
    · rw [(agrW_nq h 5 a r).2, (agr_five h.agr (.inr (.inr (.inl rfl))) a r).2]; rfl

theorem sumQ_five {l : List TApiPosting} {k : Int} {R : List Int} {m : MSpot} (h : AgrW l k R m) : sumQ (nq m) (quads R [1, 2, 3, 5]) = sumQ (nq m) (quads R [1, 2, 3]) ∧ ∀ c, sumQ (dq m c) (quads R [1, 2, 3, 5]) = sumQ (dq m c) (quads R [1, 2, 3]) := by
  obtain ⟨n1, n2⟩ := nq_five h
  have cut : ∀ f : Quad → Int, ∀ g, sumQ f (quads R g) = sumQ (fun q => if q.1 < 2 then f q else 0) (quads R g) := fun f g => sumQ_congr fun q hq => by rw [if_pos (quads_lt hq)]
  refine ⟨?_, fun c => ?_⟩
  · rw [cut, cut (nq m) [1, 2, 3]]
    exact sumQ_quads5 (fun i a r => by simp only; split; exact n1 i (by assumption) a r; rfl) (fun i a r => by simp only; split; exact n2 i (by assumption) a r; rfl)
  · rw [cut, cut (dq m c) [1, 2, 3]]
    refine sumQ_quads5 (fun i a r => ?_) (fun i a r => ?_)
    · simp only
      split
      · unfold dq
        rw [n1 i (by assumption) a r]
        simp
      · rfl
    · simp only
      split
      · unfold dq
        rw [n2 i (by assumption) a r]
        simp
      · rfl

theorem F6_spec (t : List Int) : F6 t = some true := by
  unfold F6
  obtain ⟨s, e1, k1⟩ := F9_spec t
  obtain ⟨l0, s2, e2, k2, hl0, hag0, hdays0, hents0, hlen0⟩ := F14_spec (n := 3) (by omega) (by omega) k1
  obtain ⟨v, s3, e3, k3, v0, v1, _⟩ := N_spec (n := 4) k2 (by omega)
  have v1 := v1 (by omega)
  rw [e1]; simp only [Option.bind_some]
  rw [e2]; simp only [Option.bind_some]
  rw [e3]; simp only [Option.bind_some]
  obtain ⟨q, h1, h2⟩ := iterM_inv (step := F6_b1) (fun q => q.2.2.toNat) GrpS GrpS (by
    intro q hq
    by_cases hk : q.2.2 > 0
    · left
      obtain ⟨q', a1, a2, a3⟩ := F6_round hq hk
      exact ⟨q', a1, a2, by omega⟩
    · right
      refine ⟨q, ?_, hq⟩
      unfold F6_b1
      rw [if_neg (by simpa using hk)]) 5 (s3, ⟨l0⟩, v) (by simp only; omega)
      ⟨k3, hl0, hag0, fun p hp => by have := hdays0 p hp; omega, fun p hp => .inl (hents0 p hp), by simp only; omega, by simp only; omega⟩
  rw [h1]
  obtain ⟨s4, ⟨l⟩, k⟩ := q
  obtain ⟨_, hl, hag, hdays, hents, _, _⟩ := h2
  simp only at hl hag hdays hents
  simp only [outM]
  obtain ⟨R1, m1, mp1, E1, w1, f1⟩ := F11_spec hl grp123 (by decide) (k := 70) (by omega) (by omega)
  obtain ⟨R2, m2, mp2, E2, w2, f2⟩ := F11_spec hl (g := [1, 2, 3, 5]) (grp_of (by decide) (by decide) (by decide) (by decide)) (by decide) (k := 70) (by omega) (by omega)
  obtain ⟨R3, m3, mp3, E3, w3, f3⟩ := F11_spec hl (g := [5]) (grp_of (by decide) (by decide) (by decide) (by decide)) (by decide) (k := 70) (by omega) (by omega)
  have W1 : AgrW l 70 R1 m1 := ⟨hag, w1.refs, fun s => by rw [w1.spot, spotV_days hdays]⟩
  have W2 : AgrW l 70 R2 m2 := ⟨hag, w2.refs, fun s => by rw [w2.spot, spotV_days hdays]⟩
  obtain ⟨p1, q1⟩ := agr_sums W1
  obtain ⟨p2, q2⟩ := agr_sums W2
  obtain ⟨r1, r2⟩ := sumQ_five W2
  have hq5 : quads R3 [5] = [] := by
    show (List.range 2).flatMap (fun i => [5].flatMap fun a => [5].flatMap fun b => quadsB R3 i a b) = []
    simp [quadsB]
  have hE : E1 = E2 := by rw [w1.elim, w2.elim, r1, p1, p2]
  have hE3 : E3 = 0 := by rw [w3.elim, hq5]; rfl
  have hd2 := agr_difs W2 [1, 2, 3, 5]
  have hbk : ∀ n, mget mp1 n 0 + mget mp3 n 0 = mget mp2 n 0 := fun n => by
    rw [w1.book, w2.book, w3.book, hq5, r2]
    have hb : tot (bookV [1, 2, 3, 5] 70 n) l = tot (bookV [1, 2, 3] 70 n) l + tot (bookV [5] 70 n) l := by
      rw [← tot_add]
      exact tot_congr fun p _ => bookV_cons (g := [1, 2, 3]) (a := 5) (by decide)
    have hs : sumQ (dq m1 n) (quads R1 [1, 2, 3]) = sumQ (dq m2 n) (quads R2 [1, 2, 3]) := by
      by_cases hc : mutAcc n
      · have a1 := q1 n hc
        have a2 := q2 n hc
        omega
      · have hn : n ≠ 140 ∧ n ≠ 240 ∧ n ≠ 440 ∧ n ≠ 540 := by unfold mutAcc at hc; omega
        rw [sumQ_zero fun q _ => dq_other hn q, sumQ_zero fun q _ => dq_other hn q]
    rw [hb, hs]
    simp only [sumQ]
    omega
  have hacc : ∀ c, 100 ≤ c → c < 600 → sumAcc c (balL 600 fun n => mget mp1 n 0) + sumAcc c (balL 600 fun n => mget mp3 n 0) = sumAcc c (balL 600 fun n => mget mp2 n 0) := fun c h1 h2 => by
    rw [sumAcc_balL, sumAcc_balL, sumAcc_balL, if_pos (by omega), if_pos (by omega), if_pos (by omega)]
    exact hbk c
  rw [f1, f2, f3]
  simp only [Option.bind_some]
  rw [if_neg]
  · obtain ⟨u, u1, _⟩ := iterM_inv (step := F6_b5 (⟨balL 600 fun n => mget mp1 n 0, E1, difs m1 R1 [1, 2, 3]⟩, 0) (⟨balL 600 fun n => mget mp2 n 0, E2, difs m2 R2 [1, 2, 3, 5]⟩, 0) (⟨balL 600 fun n => mget mp3 n 0, E3, difs m3 R3 [5]⟩, 0)) (fun c => (600 - c).toNat) (fun c => 100 ≤ c ∧ c ≤ 600) (fun _ => True) (by
      intro c hc
      by_cases h : c < 600
      · left
        exact ⟨c + 1, F6_b5_step hc.1 h (hacc c hc.1 h), by omega, by omega⟩
      · right
        refine ⟨c, ?_, trivial⟩
        unfold F6_b5
        rw [if_neg (by simpa using h)]) 501 100 (by omega) (by omega)
    rw [u1]
    simp only
    rw [F13_spec]
    rfl
  · rw [cond_or, cond_or, cond_or, cond_or, cond_or, hE, hE3, hd2]
    simp
end Go.Proofs.Ytkkdclpleghppaa
