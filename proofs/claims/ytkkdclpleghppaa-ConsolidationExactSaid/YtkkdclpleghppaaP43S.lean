/- A part of the proof: plain laws of what the functions compute. No condition. -/
import Derived.Test.YtkkdclpleghppaaP43p
namespace Go.Proofs.Ytkkdclpleghppaa
open Go Go.TA

/-! ## Any ledger, any group, any day -/
def gbad (g : List Int) (i : Nat) : Bool := (decide (g.getD i default < 1) || decide (g.getD i default > 10)) || (decide (0 < i) && decide (g.getD (i - 1) default ≥ g.getD i default))
def gres (g : List Int) : Int := if (List.range g.length).any (gbad g) = true then 89 else if g.length = 0 then 89 else 0
def cres (l : List TApiPosting) (g : List Int) : Int := if chk l ≠ 0 then chk l else gres g
def eres (l : List TApiPosting) (g : List Int) (k : Int) : Int := if cres l g = 0 ∧ (k < 0 ∨ k > 36000) then 2 else cres l g

theorem F24_loop {g : List Int} (hg : g.length ≤ 1000) : rangeM (F24_b1 g) g.length 0 () = some (if (List.range g.length).any (gbad g) = true then .ret 89 else .next ()) :=
  rangeM_any (c := 89) (gbad g) fun i hi => by
    unfold F24_b1
    rw [guardP_pos]
    · have hc : (bif (bif (decide ((g.getD i default) < 1)) then true else (decide ((g.getD i default) > 10))) then true else (bif (decide ((i : Int) > 0)) then (decide ((g.getD (((IntKind.i64.wrap ((i : Int) - 1))).toNat) default) ≥ (g.getD i default))) else false)) = gbad g i := by
        rw [cond_or, cond_or, cond_and]
        unfold gbad
        by_cases h0 : 0 < i
        · rw [wrapId (n := (i : Int) - 1) (by omega) (by omega), show ((i : Int) - 1).toNat = i - 1 by omega]
          simp [h0]
        · have : i = 0 := by omega
          subst this
          simp
      rw [hc]
      cases gbad g i <;> rfl
    · refine And.intro (fun h => ?_) (And.intro (fun h => ?_) trivial)
      · have := of_decide_eq_true h.1
        rw [wrapId (by omega) (by omega)]; omega
      · have := of_decide_eq_true h.1
        rw [wrapId (by omega) (by omega)]; omega

theorem F24_gen (l : List TApiPosting) {g : List Int} (hg : g.length ≤ 1000) : F24 ⟨l⟩ g = some (cres l g) := by
  unfold F24 cres
  rw [F50_spec]
  simp only [Option.bind_some]
  by_cases h : chk l ≠ 0
  · rw [if_pos (by simpa using h), if_pos h]
  · rw [if_neg (by simpa using h), if_neg h, F24_loop hg]
    unfold gres
    cases (List.range g.length).any (gbad g) with
    | true => rfl
    | false =>
      show (if ((g.length : Int) == 0) = true then some 89 else some 0) = _
      by_cases h : g.length = 0
      · simp [h]
      · rw [if_neg (by simpa using h), if_neg (by decide), if_neg h]

theorem F25_gen (l : List TApiPosting) {g : List Int} (hg : g.length ≤ 1000) : F25 ⟨l⟩ g = some (cres l g) := by
  rw [← F24_gen l hg]
  unfold F25 F24
  rw [F43_spec, F50_spec]
  rfl

theorem gres_grp {g : List Int} (h : gres g = 0) : Grp g := by
  unfold gres at h
  split at h
  · cases h
  · rename_i h1
    split at h
    · cases h
    · rename_i h2
      rw [Bool.not_eq_true, List.any_eq_false] at h1
      have hb : ∀ i, i < g.length → gbad g i = false := fun i hi => by simpa using h1 i (List.mem_range.2 hi)
      have hm : ∀ i, i < g.length → 1 ≤ g.getD i default ∧ g.getD i default ≤ 10 := fun i hi => by
        have := hb i hi
        unfold gbad at this
        simp only [Bool.or_eq_false_iff, Bool.and_eq_false_iff, decide_eq_false_iff_not] at this
        omega
      have ha : ∀ i, 0 < i → i < g.length → g.getD (i - 1) default < g.getD i default := fun i h0 hi => by
        have := hb i hi
        unfold gbad at this
        simp only [Bool.or_eq_false_iff, Bool.and_eq_false_iff, decide_eq_false_iff_not] at this
        omega
      have hi : ∀ i : Nat, i < g.length → (i : Int) + 1 ≤ g.getD i default := by
        intro i
        induction i with
        | zero => intro h; have := hm 0 h; omega
        | succ i ih => intro h; have h1 := ih (by omega); have h2 := ha (i + 1) (by omega) h; simp only [Nat.add_sub_cancel] at h2; omega
      refine ⟨fun e => h2 (by rw [e]; rfl), ?_, hm, ha⟩
      have h3 := hi (g.length - 1) (by omega)
      have h4 := hm (g.length - 1) (by omega)
      omega

theorem eres_zero {l : List TApiPosting} {g : List Int} {k : Int} (h : eres l g k = 0) : Good l ∧ Grp g ∧ 0 ≤ k ∧ k ≤ 36000 := by
  unfold eres at h
  split at h
  · cases h
  · rename_i h1
    have h0 := h
    unfold cres at h0
    split at h0
    · rename_i h2; exact absurd h0 h2
    · rename_i h2
      exact ⟨chk_good.1 (by omega), gres_grp h0, by omega, by omega⟩

theorem F47_gen (l : List TApiPosting) {g : List Int} (hg : g.length ≤ 1000) (k : Int) : F47 ⟨l⟩ g k = some (eres l g k) := by
  unfold F47 eres
  rw [F24_gen l hg]
  simp only [Option.bind_some]
  rw [cond_and, cond_or]
  by_cases h : cres l g = 0 ∧ (k < 0 ∨ k > 36000)
  · rw [if_pos (by simpa using h), if_pos h]; rfl
  · rw [if_neg (by simpa using h), if_neg h]; rfl

theorem quads_len10 {R g : List Int} (hR : R.length ≤ 20) (hg : g.length ≤ 10) : (quads R g).length ≤ 4000 := by
  have h1 : ∀ i a b, (quadsB R i a b).length ≤ 20 := fun i a b => by unfold quadsB; split <;> simp <;> omega
  have h2 : ∀ i a, (g.flatMap fun b => quadsB R i a b).length ≤ 200 := fun i a => by
    have := flatMap_len (F := fun b => quadsB R i a b) (c := 20) (g := g) fun b _ => h1 i a b
    omega
  have h3 : ∀ i, (g.flatMap fun a => g.flatMap fun b => quadsB R i a b).length ≤ 2000 := fun i => by
    have := flatMap_len (F := fun a => g.flatMap fun b => quadsB R i a b) (c := 200) (g := g) fun a _ => h2 i a
    omega
  have := flatMap_len (F := fun i => g.flatMap fun a => g.flatMap fun b => quadsB R i a b) (c := 2000) (g := List.range 2) fun i _ => h3 i
  simpa [quads] using this

theorem F11_gen {l : List TApiPosting} (hl : Good l) (hl20 : l.length ≤ 20) {g : List Int} (hg : Grp g) {k : Int} (h0 : 0 ≤ k) (h1 : k ≤ 36000) :
    ∃ R m mp E, WholeR l g k R m mp E ∧ F11 ⟨l⟩ g k = some (⟨balL 600 fun n => mget mp n 0, E, difs m R g⟩, 0) ∧ F17 ⟨l⟩ g k = some (difs m R g, 0) := by
  obtain ⟨R, m, r1, r2, r3, r4, r5, r6⟩ := F17_spec hl hg h0 h1
  obtain ⟨b, b1, b2⟩ := F37_spec hl g k
  have hRl := r1.len
  have hb : ∀ c, -400000000000000 ≤ mget b c 0 ∧ mget b c 0 ≤ 400000000000000 := fun c => by
    rw [b2 c]
    have := tot_bound (f := bookV g k c) (c := 1000000000000) (l := l) fun p hp => bookV_bound (good_mem hl hp)
    omega
  have hq := quads_len10 (R := R) (g := g) (by omega) hg.len
  obtain ⟨f1, f2, f3, f4⟩ := fold_spec r5 (quads R g) (⟨[], 0, difs m R g⟩, b) 400000000000000 (fun q hq => quads_lt hq) (by omega) (by omega) hb (by simp) (by simp)
  refine ⟨R, m, ((quads R g).foldl (st m) (⟨[], 0, difs m R g⟩, b)).2, sumQ (nq m) (quads R g), ⟨r1, r4, r5, rfl, fun n => by rw [f4 n, b2 n]⟩, ?_, r6⟩
  unfold F11
  rw [r6]
  simp only [Option.bind_some]
  rw [if_neg (by simp), b1]
  simp only [Option.bind_some]
  unfold F40_41 F59
  rw [r2, r3]
  simp only [Option.bind_some]
  have hd := F40_41_loops r5 R g (⟨[], 0, difs m R g⟩, b)
  unfold muts at hd
  rw [hd]
  show (F42 _).bind _ = _
  rw [F42_spec]
  simp only [Option.bind_some]
  rw [f3]
  simp only [Int.zero_add]
  rw [f2]
end Go.Proofs.Ytkkdclpleghppaa

namespace Go.Proofs.Ytkkdclpleghppaa
open Go Go.TA

/-! ## The balance of a spot -/
theorem spot_eq (c a b r : Int) (p : TApiPosting) : ((⟨c, a, b, r⟩ : TConsolidationSpot) == keyD p) = (decide (c = p.Debit) && (decide (a = p.Entity) && (decide (b = p.Partner) && decide (r = p.Ref)))) ∧ ((⟨c, a, b, r⟩ : TConsolidationSpot) == keyC p) = (decide (c = p.Credit) && (decide (a = p.Entity) && (decide (b = p.Partner) && decide (r = p.Ref)))) := by
  constructor
  · rw [Bool.eq_iff_iff, beq_iff_eq]; unfold keyD; rw [TConsolidationSpot.mk.injEq]; simp
  · rw [Bool.eq_iff_iff, beq_iff_eq]; unfold keyC; rw [TConsolidationSpot.mk.injEq]; simp

theorem F52_spec {l : List TApiPosting} (hl : Good l) (c a b r k : Int) : F52 ⟨l⟩ c a b r k = some (tot (spotV k ⟨c, a, b, r⟩) l) := by
  unfold F52
  obtain ⟨v, h1, h2⟩ := rangeM_inv (body := F52_b1 ⟨l⟩ c a b r k) (n := l.length) (s0 := (0 : Int)) (fun i v => v = tot (spotV k ⟨c, a, b, r⟩) (l.take i)) (by simp [tot]) (fun i v hi hv => by
    unfold F52_b1
    have hp := hl.post i hi
    have hlen := hl.len
    have hb : -400000000000000 ≤ v ∧ v ≤ 400000000000000 := by
      rw [hv]
      have := tot_bound (f := spotV k ⟨c, a, b, r⟩) (c := 1000000000000) (l := l.take i) fun p hp => spotV_bound (good_mem hl (List.mem_of_mem_take hp))
      have e : (l.take i).length = i := by simp; omega
      rw [e] at this
      omega
    have ha := hp.2.2.2.2.2.2.1
    have hdc := hp.2.2.2.1
    rw [tot_succ _ hi, ← hv]
    clear hv
    show ∃ s', Option.bind (if (bif (bif (bif ((at' l i).Entity != a) then true else ((at' l i).Partner != b)) then true else ((at' l i).Ref != r)) then true else (decide ((at' l i).Day > k))) = true then some v else
      Option.bind (if ((at' l i).Debit == c) = true then some (IntKind.i64.wrap (v + (at' l i).Amount)) else some v) fun s => if ((at' l i).Credit == c) = true then some (IntKind.i64.wrap (s - (at' l i).Amount)) else some s) (fun s => some (Step.cont s)) = some (.cont s') ∧ _
    rw [cond_or, cond_or, cond_or]
    unfold spotV
    rw [(spot_eq c a b r (at' l i)).1, (spot_eq c a b r (at' l i)).2]
    generalize at' l i = p at ha hdc ⊢
    by_cases hc : p.Entity = a ∧ p.Partner = b ∧ p.Ref = r ∧ p.Day ≤ k
    · obtain ⟨e1, e2, e3, e4⟩ := hc
      subst e1; subst e2; subst e3
      rw [if_neg (by simp; omega), if_pos e4]
      by_cases d1 : p.Debit = c
      · subst d1
        rw [if_pos (c := (p.Debit == p.Debit) = true) (by simp)]
        simp only [Option.bind_some]
        rw [if_neg (c := (p.Credit == p.Debit) = true) (by simpa using fun e => hdc e.symm), if_pos (by simp), if_neg (by simp; exact hdc), wrapId (by omega) (by omega)]
        exact ⟨_, rfl, by omega⟩
      · rw [if_neg (c := (p.Debit == c) = true) (by simpa using d1)]
        simp only [Option.bind_some]
        by_cases d2 : p.Credit = c
        · subst d2
          rw [if_pos (by simp), if_neg (by simp; exact fun e => d1 e.symm), if_pos (by simp), wrapId (by omega) (by omega)]
          exact ⟨_, rfl, by omega⟩
        · rw [if_neg (c := (p.Credit == c) = true) (by simpa using d2), if_neg (by simp; exact fun e => d1 e.symm), if_neg (by simp; exact fun e => d2 e.symm)]
          exact ⟨_, rfl, by omega⟩
    · rw [if_pos (by simp; omega)]
      refine ⟨_, rfl, ?_⟩
      by_cases e4 : p.Day ≤ k
      · rw [if_pos e4, if_neg (by simp; omega), if_neg (by simp; omega)]
        omega
      · rw [if_neg e4]; omega)
  rw [h1, h2, List.take_length]
  rfl

theorem F56_mget (l : List TApiPosting) (k : Int) : ∃ m, F55 ⟨l⟩ k = some m ∧ ∀ c a b r, F56 ⟨l⟩ c a b r k = some (mget m ⟨c, a, b, r⟩ 0) := by
  by_cases h : chk l = 0
  · obtain ⟨m, m1, m2⟩ := F55_spec (chk_good.1 h) k
    refine ⟨m, m1, fun c a b r => ?_⟩
    unfold F56
    rw [F43_spec]
    simp only [Option.bind_some, h]
    rw [if_neg (by simp), F52_spec (chk_good.1 h), m2]
    rfl
  · refine ⟨[], ?_, fun c a b r => ?_⟩
    · unfold F55
      rw [F50_spec]
      simp only [Option.bind_some]
      rw [if_pos (by simpa using h)]
    · unfold F56
      rw [F43_spec]
      simp only [Option.bind_some]
      rw [if_pos (by simpa using h)]
      rfl

theorem claims_eq (l : List TApiPosting) (a b r k : Int) : ∃ w x y z, F29 ⟨l⟩ a b r k = some w ∧ F30 ⟨l⟩ a b r k = some w ∧ F31 ⟨l⟩ a b r k = some x ∧ F32 ⟨l⟩ a b r k = some x ∧
    F33 ⟨l⟩ a b r k = some y ∧ F34 ⟨l⟩ a b r k = some y ∧ F35 ⟨l⟩ a b r k = some z ∧ F36 ⟨l⟩ a b r k = some z := by
  obtain ⟨m, m1, m2⟩ := F56_mget l k
  unfold F29 F30 F31 F32 F33 F34 F35 F36
  simp only [m1, m2, Option.bind_some]
  exact ⟨_, _, _, _, rfl, rfl, rfl, rfl, rfl, rfl, rfl, rfl⟩

/-! ## References, inserted one by one -/
theorem F51_look {R : List Int} (hlen : R.length ≤ 1000) (l : TApiLedger) (i : Nat) :
    ∃ n : Nat, n ≤ R.length ∧ iterM (F51_b1 l R i) 0 = some (.next (n : Int)) ∧ (∀ j, j < n → R.getD j default < (l.Postings.getD i default).Ref) ∧ (n < R.length → (l.Postings.getD i default).Ref ≤ R.getD n default) := by
  obtain ⟨s, h1, h2⟩ := iterM_inv (step := F51_b1 l R i) (fun s => R.length - s.toNat) (fun s => ∃ n : Nat, s = n ∧ n ≤ R.length ∧ ∀ j, j < n → R.getD j default < (l.Postings.getD i default).Ref)
    (fun s => ∃ n : Nat, s = n ∧ n ≤ R.length ∧ (∀ j, j < n → R.getD j default < (l.Postings.getD i default).Ref) ∧ (n < R.length → (l.Postings.getD i default).Ref ≤ R.getD n default)) (by
      rintro _ ⟨n, rfl, hn, hj⟩
      unfold F51_b1
      have hg : AllP [AllP [(decide ((n : Int) < (R.length : Int))) = true] → ((0 : Int) ≤ (n : Int)), AllP [(decide ((n : Int) < (R.length : Int))) = true] → (((n : Int)).toNat < R.length)] :=
        And.intro (fun _ => by omega) (And.intro (fun h => by have := of_decide_eq_true h.1; omega) trivial)
      rw [guardP_pos hg, cond_and]
      by_cases hc : n < R.length ∧ R.getD n default < (l.Postings.getD i default).Ref
      · left
        rw [if_pos (by rw [Int.toNat_natCast]; simp only [Bool.and_eq_true, decide_eq_true_eq]; exact ⟨by omega, hc.2⟩)]
        simp only [Option.bind_some]
        rw [wrapId (by omega) (by omega)]
        refine ⟨_, rfl, ⟨n + 1, by omega, by omega, fun j hj' => ?_⟩, by omega⟩
        by_cases e : j = n
        · rw [e]; exact hc.2
        · exact hj j (by omega)
      · right
        rw [if_neg (by rw [Int.toNat_natCast]; simp only [Bool.and_eq_true, decide_eq_true_eq]; exact fun h => hc ⟨by omega, h.2⟩)]
        exact ⟨_, rfl, n, rfl, hn, hj, fun h => by have := fun h2 => hc ⟨h, h2⟩; omega⟩) 1001 0 (by omega) ⟨0, rfl, by omega, fun j hj => by omega⟩
  obtain ⟨n, rfl, a, b, c⟩ := h2
  exact ⟨n, a, h1, b, c⟩

theorem getD_lt {R : List Int} {j : Nat} (h : j < R.length) : R.getD j default = R[j] := by simp [List.getElem?_eq_getElem h]

theorem F51_ins {R : List Int} {n : Nat} {x : Int} (hR : R.Pairwise (· < ·)) (hn : n ≤ R.length) (h1 : ∀ j, j < n → R.getD j default < x) (h2 : n < R.length → x < R.getD n default) :
    (((R.take n) ++ [x]) ++ (R.drop n)).Pairwise (· < ·) ∧ (∀ y, y ∈ ((R.take n) ++ [x]) ++ (R.drop n) ↔ y ∈ R ∨ y = x) ∧ (((R.take n) ++ [x]) ++ (R.drop n)).length = R.length + 1 := by
  have hp := hR
  rw [← List.take_append_drop n R, List.pairwise_append] at hp
  have hlt : ∀ y ∈ R.take n, y < x := fun y hy => by
    obtain ⟨j, hj, rfl⟩ := List.getElem_of_mem hy
    have hj' : j < n ∧ j < R.length := by simp at hj; omega
    have := h1 j hj'.1
    rw [getD_lt hj'.2] at this
    simpa using this
  have hgt : ∀ y ∈ R.drop n, x < y := fun y hy => by
    obtain ⟨j, hj, rfl⟩ := List.getElem_of_mem hy
    have hj' : n + j < R.length := by simp at hj; omega
    have h3 := h2 (by omega)
    rw [getD_lt (by omega)] at h3
    have h4 : R[n] ≤ R[n + j] := by
      by_cases e : j = 0
      · subst e; exact Int.le_refl _
      · exact Int.le_of_lt (List.pairwise_iff_getElem.1 hR n (n + j) (by omega) hj' (by omega))
    simp only [List.getElem_drop]
    omega
  refine ⟨?_, fun y => ?_, ?_⟩
  · rw [List.append_assoc, List.pairwise_append]
    refine ⟨hp.1, ?_, fun a ha b hb => ?_⟩
    · rw [List.singleton_append, List.pairwise_cons]
      exact ⟨hgt, hp.2.1⟩
    · rcases List.mem_append.1 hb with hb | hb
      · rw [List.mem_singleton.1 hb]; exact hlt a ha
      · exact hp.2.2 a ha b hb
  · conv => rhs; rw [← List.take_append_drop n R]
    simp only [List.mem_append, List.mem_singleton]
    constructor
    · rintro ((h | h) | h)
      · exact .inl (.inl h)
      · exact .inr h
      · exact .inl (.inr h)
    · rintro ((h | h) | h)
      · exact .inl (.inl h)
      · exact .inr h
      · exact .inl (.inr h)
  · simp; omega

theorem F51_spec {l : List TApiPosting} (hl : l.length ≤ 400) : ∃ R, F51 ⟨l⟩ = some R ∧ Refs l R := by
  unfold F51
  obtain ⟨R, h1, h2⟩ := rangeM_inv (body := F51_b2 ⟨l⟩) (n := l.length) (s0 := ([] : List Int)) (fun i R => R.length ≤ i ∧ Refs (l.take i) R)
    ⟨by simp, ⟨by simp, fun r => by simp, by simp⟩⟩ (fun i R hi hR => by
      obtain ⟨hRi, hR⟩ := hR
      obtain ⟨n, n1, n2, n3, n4⟩ := F51_look (R := R) (by omega) ⟨l⟩ i
      unfold F51_b2
      have hadd : ∀ r, (∃ p ∈ l.take (i + 1), p.Ref = r) ↔ (r ∈ R ∨ r = (at' l i).Ref) := fun r => by
        rw [take_succ hi, hR.mem]
        constructor
        · rintro ⟨p, hp, rfl⟩
          rcases List.mem_append.1 hp with hp | hp
          · exact .inl ⟨p, hp, rfl⟩
          · exact .inr (by rw [List.mem_singleton.1 hp])
        · rintro (⟨p, hp, rfl⟩ | rfl)
          · exact ⟨p, List.mem_append_left _ hp, rfl⟩
          · exact ⟨_, List.mem_append_right _ (List.mem_singleton.2 rfl), rfl⟩
      have hti : (l.take (i + 1)).length = i + 1 := by simp; omega
      rw [n2]
      change n < R.length → (at' l i).Ref ≤ R.getD n default at n4
      change ∀ j, j < n → R.getD j default < (at' l i).Ref at n3
      simp only [outM]
      have hg : AllP [AllP [((n : Int) == (R.length : Int)) = false] → ((0 : Int) ≤ (n : Int)), AllP [((n : Int) == (R.length : Int)) = false] → (((n : Int)).toNat < R.length)] :=
        And.intro (fun _ => by omega) (And.intro (fun h => by have := beq_eq_false_iff_ne.1 h.1; omega) trivial)
      rw [guardP_pos hg, cond_or, Int.toNat_natCast]
      show ∃ s', Option.bind (if (((n : Int) == (R.length : Int)) || (R.getD n default != (at' l i).Ref)) = true then
          guardP (AllP [(0 : Int) ≤ n, n ≤ R.length, (R.take n).length * (2 * 8) ≤ 2 ^ 48, ((R.take n).length + 1) * (2 * 8) ≤ 2 ^ 48, ((R.take n ++ [(at' l i).Ref]).length + (R.drop n).length) * (2 * 8) ≤ 2 ^ 48]) <|
          guardP (((R.take n ++ [(at' l i).Ref]) ++ R.drop n).length < 2 ^ 63) <| some ((R.take n ++ [(at' l i).Ref]) ++ R.drop n) else some R) (fun s => some (Step.cont s)) = some (.cont s') ∧ _
      by_cases hc : n = R.length ∨ R.getD n default ≠ (at' l i).Ref
      · have hx : n < R.length → (at' l i).Ref < R.getD n default := fun h => by
          have := n4 h
          rcases hc with hc | hc <;> omega
        obtain ⟨i1, i2, i3⟩ := F51_ins hR.asc n1 n3 hx
        have tl : (R.take n).length = n := by simp; omega
        have dl : (R.drop n).length = R.length - n := by simp
        have al : (R.take n ++ [(at' l i).Ref]).length = n + 1 := by rw [List.length_append, tl]; rfl
        rw [if_pos (by simp only [Bool.or_eq_true, beq_iff_eq, bne_iff_ne]; omega), guardP_pos (by rw [tl, al, dl]; exact ⟨by omega, by omega, by omega, by omega, by omega, trivial⟩), guardP_pos (by rw [i3]; omega)]
        refine ⟨_, rfl, by rw [i3]; omega, i1, fun r => ?_, by rw [i3, hti]; omega⟩
        rw [hadd, i2]
      · rw [if_neg (by simp only [Bool.or_eq_true, beq_iff_eq, bne_iff_ne]; omega)]
        refine ⟨_, rfl, by omega, hR.asc, fun r => ?_, by rw [hti]; omega⟩
        rw [hadd]
        constructor
        · exact .inl
        · rintro (h | rfl)
          · exact h
          · have e : R.getD n default = (at' l i).Ref := by
              rcases Decidable.em (R.getD n default = (at' l i).Ref) with h | h
              · exact h
              · exact absurd (.inr h) hc
            rw [← e, getD_lt (by omega)]
            exact List.getElem_mem _)
  rw [h1]
  refine ⟨R, rfl, ?_⟩
  have := h2.2
  rwa [List.take_length] at this

theorem asc_ext : ∀ {A B : List Int}, A.Pairwise (· < ·) → B.Pairwise (· < ·) → (∀ x, x ∈ A ↔ x ∈ B) → A = B
  | [], [], _, _, _ => rfl
  | [], b :: B, _, _, h => by have := (h b).2 List.mem_cons_self; cases this
  | a :: A, [], _, _, h => by have := (h a).1 List.mem_cons_self; cases this
  | a :: A, b :: B, hA, hB, h => by
    rw [List.pairwise_cons] at hA hB
    have e : a = b := by
      have h1 := (h a).1 List.mem_cons_self
      have h2 := (h b).2 List.mem_cons_self
      rcases List.mem_cons.1 h1 with h1 | h1
      · exact h1
      · rcases List.mem_cons.1 h2 with h2 | h2
        · exact h2.symm
        · have := hB.1 a h1; have := hA.1 b h2; omega
    subst e
    rw [asc_ext hA.2 hB.2 fun x => ?_]
    constructor
    · intro hx
      rcases List.mem_cons.1 ((h x).1 (List.mem_cons_of_mem _ hx)) with e | e
      · have := hA.1 x hx; omega
      · exact e
    · intro hx
      rcases List.mem_cons.1 ((h x).2 (List.mem_cons_of_mem _ hx)) with e | e
      · have := hB.1 x hx; omega
      · exact e

theorem refs_ext {l : List TApiPosting} {A B : List Int} (hA : Refs l A) (hB : Refs l B) : A = B := asc_ext hA.asc hB.asc fun x => by rw [hA.mem, hB.mem]
end Go.Proofs.Ytkkdclpleghppaa

namespace Go.Proofs.Ytkkdclpleghppaa
open Go Go.TA

theorem Grp.lt {g : List Int} (hg : Grp g) (i : Nat) : ∀ j : Nat, i < j → j < g.length → g.getD i default < g.getD j default
  | 0, h, _ => by omega
  | j + 1, h, hj => by
    have h1 := hg.asc (j + 1) (by omega) hj
    rw [Nat.add_sub_cancel] at h1
    by_cases e : i = j
    · rw [e]; exact h1
    · have := Grp.lt hg i j (by omega) (by omega); omega
theorem Grp.nodup {g : List Int} (hg : Grp g) : g.Nodup := by
  refine List.pairwise_iff_getElem.2 fun i j hi hj hij => ?_
  have := hg.lt i j hij hj
  rw [getD_lt hi, getD_lt hj] at this
  omega
theorem Grp.pos {g : List Int} (hg : Grp g) : ∀ x ∈ g, x ≠ 0 := fun x hx => by
  obtain ⟨i, hi, rfl⟩ := List.getElem_of_mem hx
  have := hg.mem i hi
  rw [getD_lt hi] at this
  omega

/-! ## The sums of a group -/
theorem F26_row (r s : Nat → Int) : ∃ t, rangeM (F26_b1 r) 500 0 s = some (.next t) ∧ ∀ j, t j = if j < 500 then IntKind.i64.wrap (s j + r j) else s j :=
  rangeM_inv (body := F26_b1 r) (n := 500) (s0 := s) (fun i t => ∀ j, t j = if j < i then IntKind.i64.wrap (s j + r j) else s j) (fun j => by simp) (fun i t hi ht => by
    refine ⟨_, rfl, fun j => ?_⟩
    by_cases e : j = i
    · subst e
      rw [if_pos rfl, if_pos (by omega), ht j, if_neg (by omega)]
    · rw [if_neg e, ht j]
      by_cases h : j < i
      · rw [if_pos h, if_pos (by omega)]
      · rw [if_neg h, if_neg (by omega)])

theorem tot_acc {l : List TApiPosting} (hl : Good l) {g : List Int} {k n : Int} (hn : ¬ accOk n) : tot (bookV g k n) l = 0 :=
  tot_const0 fun _ hp => bookV_acc (good_mem hl hp) hn

theorem tot_small {l : List TApiPosting} (hl : Good l) (g : List Int) (k n : Int) : -400000000000000 ≤ tot (bookV g k n) l ∧ tot (bookV g k n) l ≤ 400000000000000 := by
  have := tot_bound (f := bookV g k n) (c := 1000000000000) (l := l) fun p hp => bookV_bound (good_mem hl hp)
  have := hl.len
  omega

theorem F26_sums {l : List TApiPosting} (hl : Good l) {g : List Int} (hg : Grp g) (k : Int) : ∃ s, rangeM (F26_b2 ⟨l⟩ g k) g.length 0 (fun _ => 0) = some (.next s) ∧ ∀ j : Nat, s j = tot (bookV g k ((j : Int) + 100)) l := by
  obtain ⟨s, h1, h2⟩ := rangeM_inv (body := F26_b2 ⟨l⟩ g k) (n := g.length) (s0 := (fun _ => 0 : Nat → Int)) (fun i s => ∀ j : Nat, s j = tot (bookV (g.take i) k ((j : Int) + 100)) l)
    (fun j => by rw [tot_const0]; intro p _; unfold bookV; rw [if_neg (by simp)]) (fun i s hi hs => by
      have hmem : g.getD i default ∈ g := by simp [List.getElem?_eq_getElem hi]
      unfold F26_b2
      obtain ⟨r, r1, r2⟩ := F45_spec hl (hg.pos _ hmem) k
      obtain ⟨t, t1, t2⟩ := F26_row r s
      simp only [r1, Option.bind_some, t1, outM]
      refine ⟨_, rfl, fun j => ?_⟩
      have b1 := tot_small hl (g.take i) k ((j : Int) + 100)
      have b2 := tot_small hl [g.getD i default] k ((j : Int) + 100)
      have hsum : tot (bookV (g.take (i + 1)) k ((j : Int) + 100)) l = tot (bookV (g.take i) k ((j : Int) + 100)) l + tot (bookV [g.getD i default] k ((j : Int) + 100)) l := by
        rw [← tot_add]
        refine tot_congr fun p _ => ?_
        rw [List.take_add_one, List.getElem?_eq_getElem hi]
        show bookV (List.take i g ++ [g[i]]) k _ p = _
        have he : g.getD i default = g[i] := by simp [List.getElem?_eq_getElem hi]
        rw [bookV_cons (by rw [← he]; exact take_not hg.nodup hi), he]
      rw [t2, hsum, hs j, r2 j]
      split
      · rw [wrapId (by omega) (by omega)]
      · rw [tot_acc (g := [g.getD i default]) hl (by unfold accOk; omega)]; omega)
  exact ⟨s, h1, fun j => by have := h2 j; rwa [List.take_length] at this⟩

/-! ## What is eliminated -/
abbrev S26 := (Nat → Int) × (List TApiBalance) × Int × (List TApiDifference)
noncomputable def step26 (p1 p2 : Nat) (kd x y a b r : Int) (s : S26) : Option (Step S26 R26) :=
  Option.bind (α := S26) (
  Option.bind (α := (Nat → Int) × (List TApiBalance) × Int) (
  if (decide ((if y < x then y else x) > 0)) = true then (
  guardP (AllP [(0 : Int) ≤ (p1 : Int), p1 < 500]) <|
  guardP (AllP [(0 : Int) ≤ (p2 : Int), p2 < 500]) <|
  some ((fun j => if j = p2 then (IntKind.i64.wrap (((fun j => if j = p1 then (IntKind.i64.wrap ((s.1 p1) - (if y < x then y else x))) else s.1 j) p2) + (if y < x then y else x))) else (fun j => if j = p1 then (IntKind.i64.wrap ((s.1 p1) - (if y < x then y else x))) else s.1 j) j), s.2.1, (IntKind.i64.wrap (s.2.2.1 + (if y < x then y else x)))))
  else (
  some (s.1, s.2.1, s.2.2.1))) fun s1 =>
  if (x != y) = true then (
  guardP (AllP [(s.2.2.2.length + 1) * (2 * 40) ≤ 2 ^ 48]) <|
  some (s1.1, s1.2.1, s1.2.2, (s.2.2.2 ++ ([(⟨kd, a, b, r, (IntKind.i64.wrap (x - y))⟩ : TApiDifference)] : List TApiDifference))))
  else (
  some (s1.1, s1.2.1, s1.2.2, s.2.2.2))) fun s2 =>
  some (Step.cont (s2.1, s2.2.1, s2.2.2.1, s2.2.2.2))

theorem step26_val {p1 p2 : Nat} (h1 : p1 < 500) (h2 : p2 < 500) (h12 : p1 ≠ p2) (kd : Int) {x y : Int} (hx : -400000000000000 ≤ x ∧ x ≤ 400000000000000) (hy : -400000000000000 ≤ y ∧ y ≤ 400000000000000) (a b r : Int) {s : S26}
    (hs : ∀ j, -4000000000000000000 ≤ s.1 j ∧ s.1 j ≤ 4000000000000000000) (hE : 0 ≤ s.2.2.1 ∧ s.2.2.1 ≤ 4000000000000000000) (hD : s.2.2.2.length ≤ 1000000) :
    ∃ f, step26 p1 p2 kd x y a b r s = some (.cont (f, s.2.1, s.2.2.1 + nn x y, s.2.2.2 ++ (if x - y ≠ 0 then [⟨kd, a, b, r, x - y⟩] else []))) ∧ ∀ j, f j = s.1 j + (if j = p1 then -nn x y else if j = p2 then nn x y else 0) := by
  unfold step26
  have hd : ∀ f e, Option.bind (if (x != y) = true then (guardP (AllP [(s.2.2.2.length + 1) * (2 * 40) ≤ 2 ^ 48]) <| some (f, s.2.1, e, (s.2.2.2 ++ ([(⟨kd, a, b, r, (IntKind.i64.wrap (x - y))⟩ : TApiDifference)] : List TApiDifference)))) else some (f, s.2.1, e, s.2.2.2))
      (fun s2 : S26 => some (Step.cont (s2.1, s2.2.1, s2.2.2.1, s2.2.2.2))) = some ((Step.cont (f, s.2.1, e, s.2.2.2 ++ (if x - y ≠ 0 then [⟨kd, a, b, r, x - y⟩] else []))) : Step S26 R26) := fun f e => by
    by_cases h : x = y
    · subst h
      simp
    · rw [if_pos (by simpa using h), guardP_pos (p := AllP [(s.2.2.2.length + 1) * (2 * 40) ≤ 2 ^ 48]) (And.intro (by omega) trivial), if_pos (by omega), wrapId (by omega) (by omega)]
      rfl
  generalize hn : (if y < x then y else x) = n
  have hn1 : nn x y = if n > 0 then n else 0 := by
    unfold nn
    rw [hn]
    by_cases h : n > 0
    · rw [if_pos h, if_neg (by omega)]
    · rw [if_neg h]
      by_cases h0 : 0 > n
      · rw [if_pos h0]
      · rw [if_neg h0]; omega
  have hnb : -400000000000000 ≤ n ∧ n ≤ 400000000000000 := by rw [← hn]; split <;> omega
  have s1 := hs p1
  have s2 := hs p2
  by_cases h : n > 0
  · rw [if_pos (by simpa using h), guardP_pos (p := AllP [(0 : Int) ≤ (p1 : Int), p1 < 500]) (And.intro (by omega) (And.intro h1 trivial)), guardP_pos (p := AllP [(0 : Int) ≤ (p2 : Int), p2 < 500]) (And.intro (by omega) (And.intro h2 trivial))]
    rw [if_pos h] at hn1
    simp only [Option.bind_some]
    rw [hn1, wrapId (n := s.2.2.1 + n) (by omega) (by omega)]
    refine ⟨_, hd _ _, fun j => ?_⟩
    rw [if_neg (c := p2 = p1) (fun e => h12 e.symm), wrapId (n := s.1 p2 + n) (by omega) (by omega), wrapId (n := s.1 p1 - n) (by omega) (by omega)]
    by_cases e1 : j = p1
    · subst e1
      rw [if_neg h12, if_pos rfl, if_pos rfl]; omega
    · rw [if_neg (c := j = p1) e1, if_neg (c := j = p1) e1]
      by_cases e2 : j = p2
      · subst e2
        rw [if_pos rfl, if_pos rfl]
      · rw [if_neg e2, if_neg e2]; omega
  · rw [if_neg (by simpa using h)]
    rw [if_neg h] at hn1
    simp only [Option.bind_some]
    rw [hn1, Int.add_zero]
    refine ⟨_, hd _ _, fun j => ?_⟩
    split
    · omega
    · split <;> omega

def difQ (m : MSpot) (q : Quad) : List TApiDifference := dif m q.1 q.2.1 q.2.2.1 q.2.2.2
structure Inv26 (m : MSpot) (f0 : Nat → Int) (Q : List Quad) (s : S26) : Prop where
  sums : ∀ j : Nat, s.1 j = f0 j + sumQ (dq m ((j : Int) + 100)) Q
  bal : s.2.1 = []
  elim : s.2.2.1 = sumQ (nq m) Q
  difs : s.2.2.2 = Q.flatMap (difQ m)

theorem sumQ_bound {f : Quad → Int} {c : Int} (h : ∀ q, -c ≤ f q ∧ f q ≤ c) : ∀ Q : List Quad, -(c * Q.length) ≤ sumQ f Q ∧ sumQ f Q ≤ c * Q.length
  | [] => by simp [sumQ]
  | q :: Q => by
    have h1 := h q
    have h2 := sumQ_bound h Q
    have e : c * ((q :: Q).length : Int) = c * (Q.length : Int) + c := by rw [List.length_cons, Int.natCast_succ, Int.mul_add, Int.mul_one]
    simp only [sumQ]
    rw [e]
    omega
theorem sumQ_nn {f : Quad → Int} (h : ∀ q, 0 ≤ f q) : ∀ Q : List Quad, 0 ≤ sumQ f Q
  | [] => by simp [sumQ]
  | q :: Q => by have h1 := h q; have h2 := sumQ_nn h Q; simp only [sumQ]; omega
theorem dq_small {m : MSpot} (hm : Small m) (c : Int) (q : Quad) : -400000000000000 ≤ dq m c q ∧ dq m c q ≤ 400000000000000 := by
  have hn := nq_small hm q
  unfold dq
  split
  · split
    · omega
    · split <;> omega
  · split
    · omega
    · split <;> omega

theorem F26_b3_eq {l : List TApiPosting} (hl : Good l) {k : Int} {m : MSpot} (hw : ∀ s, mget m s 0 = tot (spotV k s) l) (hm : Small m) (R g : List Int) {i : Nat} (hi : i < 2) (ia ib ir : Nat) (s : S26) :
    F26_b3 ⟨l⟩ g k R i ia ib ir s = step26 (if i = 0 then 40 else 440) (if i = 0 then 140 else 340) ((i : Int) + 1) (xv m i (g.getD ia default) (g.getD ib default) (R.getD ir default)) (yv m i (g.getD ia default) (g.getD ib default) (R.getD ir default)) (g.getD ia default) (g.getD ib default) (R.getD ir default) s := by
  unfold F26_b3
  simp only [F52_spec hl, Option.bind_some, ← hw]
  generalize g.getD ia default = a
  generalize g.getD ib default = b
  generalize R.getD ir default = r
  have h2 := hm ⟨240, b, a, r⟩
  have h3 := hm ⟨440, a, b, r⟩
  rw [wrapId (n := 0 - mget m ⟨440, a, b, r⟩ 0) (by omega) (by omega), wrapId (n := 0 - mget m ⟨240, b, a, r⟩ 0) (by omega) (by omega), Int.zero_sub, Int.zero_sub]
  have : i = 0 ∨ i = 1 := by omega
  rcases this with rfl | rfl
  · rfl
  · rfl

theorem acc_ite (i j : Nat) (n : Int) : (if j = (if i = 0 then 40 else 440) then -n else if j = (if i = 0 then 140 else 340) then n else 0) =
    if i = 0 then (if (j : Int) + 100 = 140 then -n else if (j : Int) + 100 = 240 then n else 0) else (if (j : Int) + 100 = 440 then n else if (j : Int) + 100 = 540 then -n else 0) := by
  by_cases e : i = 0
  · rw [if_pos e, if_pos e, if_pos e]
    (repeat' split) <;> omega
  · rw [if_neg e, if_neg e, if_neg e]
    (repeat' split) <;> omega

theorem F26_step {l : List TApiPosting} (hl : Good l) {k : Int} {m : MSpot} (hw : ∀ s, mget m s 0 = tot (spotV k s) l) (hm : Small m) (R g : List Int) {i : Nat} (hi : i < 2) (ia ib ir : Nat) {f0 : Nat → Int}
    (hf : ∀ j, -400000000000000 ≤ f0 j ∧ f0 j ≤ 400000000000000) {Q : List Quad} (hQ : Q.length ≤ 4000) {s : S26} (h : Inv26 m f0 Q s) :
    ∃ s', F26_b3 ⟨l⟩ g k R i ia ib ir s = some (.cont s') ∧ Inv26 m f0 (Q ++ [(i, g.getD ia default, g.getD ib default, R.getD ir default)]) s' := by
  rw [F26_b3_eq hl hw hm R g hi]
  generalize g.getD ia default = a
  generalize g.getD ib default = b
  generalize R.getD ir default = r
  obtain ⟨hx, hy⟩ := xy_small hm i a b r
  have hlen : (Q.flatMap (difQ m)).length ≤ Q.length * 1 := flatMap_len fun q _ => dif_len m q.1 q.2.1 q.2.2.1 q.2.2.2
  have hs : ∀ j, -4000000000000000000 ≤ s.1 j ∧ s.1 j ≤ 4000000000000000000 := fun j => by
    have b1 := sumQ_bound (f := dq m ((j : Int) + 100)) (fun q => dq_small hm _ q) Q
    have b2 := hf j
    rw [h.sums j]; omega
  have hE : 0 ≤ s.2.2.1 ∧ s.2.2.1 ≤ 4000000000000000000 := by
    have b1 := sumQ_bound (f := nq m) (c := 400000000000000) (fun q => by have := nq_small hm q; omega) Q
    have b2 := sumQ_nn (f := nq m) (fun q => (nq_small hm q).1) Q
    rw [h.elim]; omega
  obtain ⟨f, f1, f2⟩ := step26_val (p1 := if i = 0 then 40 else 440) (p2 := if i = 0 then 140 else 340) (by split <;> omega) (by split <;> omega) (by (repeat' split) <;> omega) ((i : Int) + 1) hx hy a b r hs hE (by rw [h.difs]; omega)
  refine ⟨_, f1, ⟨fun j => ?_, h.bal, ?_, ?_⟩⟩
  · show f j = _
    rw [f2, h.sums j, sumQ_app, Int.add_assoc]
    congr 2
    simp only [sumQ, Int.add_zero]
    show _ = dq m ((j : Int) + 100) (i, a, b, r)
    unfold dq
    show _ = if i = 0 then (if (j : Int) + 100 = 140 then -nn (xv m i a b r) (yv m i a b r) else if (j : Int) + 100 = 240 then nn (xv m i a b r) (yv m i a b r) else 0) else (if (j : Int) + 100 = 440 then nn (xv m i a b r) (yv m i a b r) else if (j : Int) + 100 = 540 then -nn (xv m i a b r) (yv m i a b r) else 0)
    generalize nn (xv m i a b r) (yv m i a b r) = n
    exact acc_ite i j n
  · rw [h.elim, sumQ_app]
    simp only [sumQ, Int.add_zero]
    rfl
  · rw [h.difs, List.flatMap_append, List.flatMap_singleton]
    rfl
end Go.Proofs.Ytkkdclpleghppaa

namespace Go.Proofs.Ytkkdclpleghppaa
open Go Go.TA

theorem rangeM_quads {ρ : Type} {m : MSpot} {f0 : Nat → Int} {body : Nat → S26 → Option (Step S26 ρ)} {n : Nat} (F : Nat → List Quad) (c : Nat) {S0 : List Quad} {s0 : S26} (h0 : Inv26 m f0 S0 s0) (hF : ∀ i, i < n → (F i).length ≤ c)
    (hb : ∀ i S s, i < n → S.length ≤ S0.length + i * c → Inv26 m f0 S s → ∃ s', body i s = some (.cont s') ∧ Inv26 m f0 (S ++ F i) s') : ∃ s', rangeM body n 0 s0 = some (.next s') ∧ Inv26 m f0 (S0 ++ (List.range n).flatMap F) s' := by
  obtain ⟨s, h1, h2⟩ := rangeM_inv (body := body) (n := n) (s0 := s0) (fun i s => Inv26 m f0 (S0 ++ (List.range i).flatMap F) s ∧ ((List.range i).flatMap F).length ≤ i * c) ⟨by simpa using h0, by simp⟩ (fun i s hi hs => by
    obtain ⟨s', s1, s2⟩ := hb i _ s hi (by rw [List.length_append]; have := hs.2; omega) hs.1
    refine ⟨s', s1, ?_, ?_⟩
    · rw [List.range_succ, List.flatMap_append, List.flatMap_singleton, ← List.append_assoc]; exact s2
    · have := hF i hi
      have := hs.2
      rw [List.range_succ, List.flatMap_append, List.flatMap_singleton, List.length_append, Nat.succ_mul]; omega)
  exact ⟨s, h1, h2.1⟩

theorem map_flat {α : Type} (F : Int → α) : ∀ g : List Int, (List.range g.length).flatMap (fun i => [F (g.getD i default)]) = g.map F
  | [] => rfl
  | a :: g => by
    rw [List.length_cons, List.range_succ_eq_map, List.flatMap_cons, List.flatMap_map, List.map_cons]
    exact congrArg (F a :: ·) (map_flat F g)

theorem F26_loops {l : List TApiPosting} (hl : Good l) {k : Int} {m : MSpot} (hw : ∀ s, mget m s 0 = tot (spotV k s) l) (hm : Small m) {R g : List Int} (hR : R.length ≤ 20) (hg : g.length ≤ 10) {f0 : Nat → Int}
    (hf : ∀ j, -400000000000000 ≤ f0 j ∧ f0 j ≤ 400000000000000) : ∃ s, rangeM (F26_b6 ⟨l⟩ g k R) 2 0 (f0, [], 0, []) = some (.next s) ∧ Inv26 m f0 (quads R g) s := by
  have n1 : ∀ i a b, (quadsB R i a b).length ≤ 20 := fun i a b => by unfold quadsB; split <;> simp <;> omega
  have n2 : ∀ i a, (g.flatMap fun b => quadsB R i a b).length ≤ 200 := fun i a => by
    have := flatMap_len (F := fun b => quadsB R i a b) (c := 20) (g := g) fun b _ => n1 i a b
    omega
  have n3 : ∀ i, (g.flatMap fun a => g.flatMap fun b => quadsB R i a b).length ≤ 2000 := fun i => by
    have := flatMap_len (F := fun a => g.flatMap fun b => quadsB R i a b) (c := 200) (g := g) fun a _ => n2 i a
    omega
  obtain ⟨s, s1, s2⟩ := rangeM_quads (m := m) (f0 := f0) (body := F26_b6 ⟨l⟩ g k R) (n := 2) (fun i => g.flatMap fun a => g.flatMap fun b => quadsB R i a b) 2000 (S0 := []) (s0 := (f0, [], 0, []))
    ⟨fun j => by simp [sumQ], rfl, rfl, rfl⟩ (fun i _ => n3 i) (fun i S s hi hS hI => by
      rw [List.length_nil] at hS
      unfold F26_b6
      obtain ⟨s', t1, t2⟩ := rangeM_quads (m := m) (f0 := f0) (body := F26_b5 ⟨l⟩ g k R i) (n := g.length) (fun ia => g.flatMap fun b => quadsB R i (g.getD ia default) b) 200 (S0 := S) (s0 := (s.1, s.2.1, s.2.2.1, s.2.2.2))
        hI (fun ia _ => n2 i _) (fun ia S s hia hS2 hI => by
          unfold F26_b5
          obtain ⟨s', t1, t2⟩ := rangeM_quads (m := m) (f0 := f0) (body := F26_b4 ⟨l⟩ g k R i ia) (n := g.length) (fun ib => quadsB R i (g.getD ia default) (g.getD ib default)) 20 (S0 := S) (s0 := (s.1, s.2.1, s.2.2.1, s.2.2.2))
            hI (fun ib _ => n1 i _ _) (fun ib S s hib hS3 hI => by
              unfold F26_b4 quadsB
              by_cases hab : g.getD ia default = g.getD ib default
              · rw [if_pos (by simpa using hab), if_pos hab]
                exact ⟨_, rfl, by rw [List.append_nil]; exact hI⟩
              · rw [if_neg (by simpa using hab), if_neg hab]
                obtain ⟨s', t1, t2⟩ := rangeM_quads (m := m) (f0 := f0) (body := F26_b3 ⟨l⟩ g k R i ia ib) (n := R.length) (fun ir => [(i, g.getD ia default, g.getD ib default, R.getD ir default)]) 1 (S0 := S) (s0 := (s.1, s.2.1, s.2.2.1, s.2.2.2))
                  hI (fun ir _ => by simp) (fun ir S s hir hS4 hI => F26_step hl hw hm R g hi ia ib ir hf (by
                    have e1 : i * 2000 ≤ 2000 := by omega
                    have e2 : ia * 200 ≤ 1800 := by omega
                    have e3 : ib * 20 ≤ 180 := by omega
                    omega) hI)
                rw [t1]
                exact ⟨_, rfl, by rw [map_flat (fun r => (i, g.getD ia default, g.getD ib default, r))] at t2; exact t2⟩)
          rw [t1]
          exact ⟨_, rfl, by rw [flatMap_getD (fun b => quadsB R i (g.getD ia default) b)] at t2; exact t2⟩)
      rw [t1]
      exact ⟨_, rfl, by rw [flatMap_getD (fun a => g.flatMap fun b => quadsB R i a b)] at t2; exact t2⟩)
  exact ⟨s, s1, by rw [List.nil_append] at s2; exact s2⟩

theorem quads_difs (m : MSpot) (R g : List Int) : (quads R g).flatMap (difQ m) = difs m R g := by
  unfold quads difs
  rw [List.flatMap_assoc]
  congr 1; funext i
  rw [List.flatMap_assoc]
  congr 1; funext a
  rw [List.flatMap_assoc]
  congr 1; funext b
  unfold quadsB difB
  by_cases h : a = b
  · rw [if_pos h, if_pos h]; rfl
  · rw [if_neg h, if_neg h, List.flatMap_map]
    rfl

/-! ## The list -/
theorem F53_spec (f : Nat → Int) : F53 f = some ((List.range 500).flatMap fun i => if f i ≠ 0 then [(⟨(i : Int) + 100, f i⟩ : TApiBalance)] else []) := by
  unfold F53
  have hl : ∀ i, i < 500 → ((fun i => if f i ≠ 0 then [(⟨(i : Int) + 100, f i⟩ : TApiBalance)] else []) i).length ≤ 1 := fun i _ => by simp only; split <;> simp
  have h1 : rangeM (F53_b1 f) 500 0 ([] : List TApiBalance) = _ := rangeM_app (fun i => if f i ≠ 0 then [(⟨(i : Int) + 100, f i⟩ : TApiBalance)] else []) 1 hl fun i s hi hs => by
    unfold F53_b1
    simp only [List.length_nil, Nat.zero_add] at hs
    by_cases h : f i ≠ 0
    · rw [if_pos (by simpa using h), if_pos h, guardP_pos (p := AllP [(s.length + 1) * (2 * 16) ≤ 2 ^ 48]) (And.intro (by omega) trivial), wrapId (by omega) (by omega)]
      rfl
    · rw [if_neg (by simpa using h), if_neg h]
      simp
  rw [h1, List.nil_append]
  have h2 := flatMap_len (F := fun i => if f i ≠ 0 then [(⟨(i : Int) + 100, f i⟩ : TApiBalance)] else []) (c := 1) (g := List.range 500) fun i _ => by split <;> simp
  rw [List.length_range] at h2
  simp only [outM]
  rw [guardP_pos (by omega)]

theorem flat_congr {α β : Type} {f g : α → List β} : ∀ {l : List α}, (∀ a ∈ l, f a = g a) → l.flatMap f = l.flatMap g
  | [], _ => rfl
  | a :: l, h => by rw [List.flatMap_cons, List.flatMap_cons, h a List.mem_cons_self, flat_congr fun b hb => h b (List.mem_cons_of_mem _ hb)]

theorem balL_shift {F : Int → Int} {f : Nat → Int} (h0 : ∀ n : Nat, n < 100 → F (n : Int) = 0) (h1 : ∀ j : Nat, j < 500 → F ((j : Int) + 100) = f j) :
    balL 600 F = (List.range 500).flatMap fun i => if f i ≠ 0 then [(⟨(i : Int) + 100, f i⟩ : TApiBalance)] else [] := by
  unfold balL
  rw [show (600 : Nat) = 100 + 500 by rfl, List.range_add, List.flatMap_append, List.flatMap_map]
  rw [flatMap_none (R := List.range 100) fun n hn => by unfold balI; rw [if_neg (by simp [h0 n (List.mem_range.1 hn)])], List.nil_append]
  refine flat_congr fun j hj => ?_
  have hj := h1 j (List.mem_range.1 hj)
  unfold balI
  rw [show ((100 + j : Nat) : Int) = (j : Int) + 100 by omega, hj]
end Go.Proofs.Ytkkdclpleghppaa
