/- A part of the proof: plain laws of what the functions compute. No condition. -/
import Derived.Test.YtkkdclpleghppaaP43g
namespace Go.Proofs.Ytkkdclpleghppaa
open Go Go.TA

/-! ## Groups -/
structure Grp (g : List Int) : Prop where
  ne : g ≠ []
  len : g.length ≤ 10
  mem : ∀ i, i < g.length → 1 ≤ g.getD i default ∧ g.getD i default ≤ 10
  asc : ∀ i, 0 < i → i < g.length → g.getD (i - 1) default < g.getD i default

theorem F24_spec {l : List TApiPosting} (hl : Good l) {g : List Int} (hg : Grp g) : F24 ⟨l⟩ g = some 0 := by
  unfold F24
  rw [F50_spec]
  simp only [Option.bind_some, chk_good.2 hl]
  rw [if_neg (by simp)]
  have hlen := hg.len
  have h1 : rangeM (F24_b1 g) g.length 0 () = _ := rangeM_any (c := 89) (fun _ => false) fun i hi => by
    unfold F24_b1
    have hm := hg.mem i hi
    rw [guardP_pos]
    · have hc : (bif (bif (decide ((g.getD i default) < 1)) then true else (decide ((g.getD i default) > 10))) then true else (bif (decide ((i : Int) > 0)) then (decide ((g.getD (((IntKind.i64.wrap ((i : Int) - 1))).toNat) default) ≥ (g.getD i default))) else false)) = false := by
        rw [cond_or, cond_or, cond_and]
        by_cases h0 : 0 < i
        · have := hg.asc i h0 hi
          rw [wrapId (n := (i : Int) - 1) (by omega) (by omega), show ((i : Int) - 1).toNat = i - 1 by omega]
          simp only [Bool.or_eq_false_iff, Bool.and_eq_false_iff, decide_eq_false_iff_not]
          omega
        · simp only [Bool.or_eq_false_iff, Bool.and_eq_false_iff, decide_eq_false_iff_not]
          omega
      rw [hc]
      rfl
    · refine And.intro (fun h => ?_) (And.intro (fun h => ?_) trivial)
      · have := of_decide_eq_true h.1
        rw [wrapId (by omega) (by omega)]; omega
      · have := of_decide_eq_true h.1
        rw [wrapId (by omega) (by omega)]; omega
  rw [h1]
  have h2 : (List.range g.length).any (fun _ => false) = false := by rw [List.any_eq_false]; simp
  rw [h2]
  have h3 : g.length ≠ 0 := fun e => hg.ne (List.length_eq_zero_iff.1 e)
  show (if ((g.length : Int) == 0) = true then some 89 else some 0) = some 0
  rw [if_neg (by simp; exact fun e => hg.ne e)]

theorem F47_spec {l : List TApiPosting} (hl : Good l) {g : List Int} (hg : Grp g) {k : Int} (h0 : 0 ≤ k) (h1 : k ≤ 36000) : F47 ⟨l⟩ g k = some 0 := by
  unfold F47
  rw [F24_spec hl hg]
  simp only [Option.bind_some]
  rw [if_neg]
  · rfl
  · rw [cond_and, cond_or]
    simp
    omega

/-! ## Loops that make a list -/
theorem rangeM_app {ρ α : Type} {body : Nat → List α → Option (Step (List α) ρ)} {n : Nat} (f : Nat → List α) (c : Nat) {s0 : List α} (hf : ∀ i, i < n → (f i).length ≤ c)
    (hb : ∀ i s, i < n → s.length ≤ s0.length + i * c → body i s = some (.cont (s ++ f i))) : rangeM body n 0 s0 = some (.next (s0 ++ (List.range n).flatMap f)) := by
  obtain ⟨s, h1, h2⟩ := rangeM_inv (body := body) (n := n) (s0 := s0) (fun i s => s = s0 ++ (List.range i).flatMap f ∧ s.length ≤ s0.length + i * c) ⟨by simp, by simp⟩ (fun i s hi hs => by
    refine ⟨_, hb i s hi hs.2, ?_, ?_⟩
    · rw [hs.1, List.range_succ, List.flatMap_append]; simp
    · have := hf i hi
      rw [List.length_append, Nat.succ_mul]
      omega)
  rw [h1, h2.1]

theorem flatMap_getD {α : Type} (F : Int → List α) : ∀ g : List Int, (List.range g.length).flatMap (fun i => F (g.getD i default)) = g.flatMap F
  | [] => rfl
  | a :: g => by
    rw [List.length_cons, List.range_succ_eq_map, List.flatMap_cons, List.flatMap_map, List.flatMap_cons]
    congr 1
    exact flatMap_getD F g

theorem flatMap_len {α β : Type} {F : α → List β} {c : Nat} : ∀ {g : List α}, (∀ a ∈ g, (F a).length ≤ c) → (g.flatMap F).length ≤ g.length * c
  | [], _ => by simp
  | a :: g, h => by
    have h1 := h a List.mem_cons_self
    have h2 := flatMap_len (g := g) fun b hb => h b (List.mem_cons_of_mem _ hb)
    rw [List.flatMap_cons, List.length_append, List.length_cons, Nat.succ_mul]
    omega

/-! ## Differences -/
abbrev MSpot := List (TConsolidationSpot × Int)
/-- The first and the second side of a mutual position. -/
def xv (m : MSpot) (i : Nat) (a b r : Int) : Int := if i = 0 then mget m ⟨140, a, b, r⟩ 0 else -mget m ⟨440, a, b, r⟩ 0
def yv (m : MSpot) (i : Nat) (a b r : Int) : Int := if i = 0 then -mget m ⟨240, b, a, r⟩ 0 else mget m ⟨540, b, a, r⟩ 0
def dif (m : MSpot) (i : Nat) (a b r : Int) : List TApiDifference := if xv m i a b r - yv m i a b r ≠ 0 then [⟨(i : Int) + 1, a, b, r, xv m i a b r - yv m i a b r⟩] else []
def difB (m : MSpot) (R : List Int) (i : Nat) (a b : Int) : List TApiDifference := if a = b then [] else R.flatMap (dif m i a b)
def difs (m : MSpot) (R g : List Int) : List TApiDifference := (List.range 2).flatMap fun i => g.flatMap fun a => g.flatMap fun b => difB m R i a b

def Small (m : MSpot) : Prop := ∀ s, -400000000000000 ≤ mget m s 0 ∧ mget m s 0 ≤ 400000000000000

theorem dif_len (m : MSpot) (i : Nat) (a b r : Int) : (dif m i a b r).length ≤ 1 := by unfold dif; split <;> simp
theorem difB_len {m : MSpot} {R : List Int} (hR : R.length ≤ 400) (i : Nat) (a b : Int) : (difB m R i a b).length ≤ 400 := by
  unfold difB
  split
  · simp
  · have := flatMap_len (F := dif m i a b) (c := 1) (g := R) fun r _ => dif_len m i a b r
    omega
theorem difA_len {m : MSpot} {R g : List Int} (hR : R.length ≤ 400) (hg : g.length ≤ 10) (i : Nat) (a : Int) : (g.flatMap fun b => difB m R i a b).length ≤ 4000 := by
  have := flatMap_len (F := fun b => difB m R i a b) (c := 400) (g := g) fun b _ => difB_len hR i a b
  omega
theorem difI_len {m : MSpot} {R g : List Int} (hR : R.length ≤ 400) (hg : g.length ≤ 10) (i : Nat) : (g.flatMap fun a => g.flatMap fun b => difB m R i a b).length ≤ 40000 := by
  have := flatMap_len (F := fun a => g.flatMap fun b => difB m R i a b) (c := 4000) (g := g) fun a _ => difA_len hR hg i a
  omega

def muts : Nat → TConsolidationMutual := fun j => ([(⟨1, 140, 240, 1⟩ : TConsolidationMutual), (⟨2, 440, 540, (-1)⟩ : TConsolidationMutual)] : List TConsolidationMutual).getD j default

theorem sides {m : MSpot} (hm : Small m) {i : Nat} (hi : i < 2) (a b r : Int) :
    (IntKind.i64.wrap (((muts i).sign) * (mget m (⟨(muts i).first, a, b, r⟩ : TConsolidationSpot) 0))) = xv m i a b r ∧
    (IntKind.i64.wrap ((IntKind.i64.wrap (0 - ((muts i).sign))) * (mget m (⟨(muts i).second, b, a, r⟩ : TConsolidationSpot) 0))) = yv m i a b r := by
  have h1 := hm ⟨140, a, b, r⟩
  have h2 := hm ⟨240, b, a, r⟩
  have h3 := hm ⟨440, a, b, r⟩
  have h4 := hm ⟨540, b, a, r⟩
  have : i = 0 ∨ i = 1 := by omega
  rcases this with rfl | rfl
  · refine ⟨?_, ?_⟩
    · show IntKind.i64.wrap (1 * mget m ⟨140, a, b, r⟩ 0) = mget m ⟨140, a, b, r⟩ 0
      rw [Int.one_mul, wrapId (by omega) (by omega)]
    · show IntKind.i64.wrap (-1 * mget m ⟨240, b, a, r⟩ 0) = -mget m ⟨240, b, a, r⟩ 0
      rw [wrapId (by omega) (by omega)]; omega
  · refine ⟨?_, ?_⟩
    · show IntKind.i64.wrap (-1 * mget m ⟨440, a, b, r⟩ 0) = -mget m ⟨440, a, b, r⟩ 0
      rw [wrapId (by omega) (by omega)]; omega
    · show IntKind.i64.wrap (1 * mget m ⟨540, b, a, r⟩ 0) = mget m ⟨540, b, a, r⟩ 0
      rw [Int.one_mul, wrapId (by omega) (by omega)]

theorem xy_small {m : MSpot} (hm : Small m) (i : Nat) (a b r : Int) : (-400000000000000 ≤ xv m i a b r ∧ xv m i a b r ≤ 400000000000000) ∧ -400000000000000 ≤ yv m i a b r ∧ yv m i a b r ≤ 400000000000000 := by
  have h1 := hm ⟨140, a, b, r⟩
  have h2 := hm ⟨240, b, a, r⟩
  have h3 := hm ⟨440, a, b, r⟩
  have h4 := hm ⟨540, b, a, r⟩
  unfold xv yv
  split <;> omega

theorem F40_48_loops {m : MSpot} (hm : Small m) {R g : List Int} (hR : R.length ≤ 400) (hg : g.length ≤ 10) : rangeM (F40_48_b4 g R m muts) 2 0 [] = some (.next (difs m R g)) := by
  have h4 : rangeM (F40_48_b4 g R m muts) 2 0 ([] : List TApiDifference) = _ := rangeM_app (fun i => g.flatMap fun a => g.flatMap fun b => difB m R i a b) 40000 (fun i _ => difI_len hR hg i) fun i s hi hs => by
    simp only [List.length_nil, Nat.zero_add] at hs
    unfold F40_48_b4
    have h3 : rangeM (F40_48_b3 g R m muts i) g.length 0 s = _ := rangeM_app (fun ia => g.flatMap fun b => difB m R i (g.getD ia default) b) 4000 (fun ia _ => difA_len hR hg i _) fun ia s3 hia hs3 => by
      unfold F40_48_b3
      have h2 : rangeM (F40_48_b2 g R m muts i ia) g.length 0 s3 = _ := rangeM_app (fun ib => difB m R i (g.getD ia default) (g.getD ib default)) 400 (fun ib _ => difB_len hR i _ _) fun ib s2 hib hs2 => by
        unfold F40_48_b2 difB
        by_cases hab : g.getD ia default = g.getD ib default
        · rw [if_pos (by simpa using hab), if_pos hab]
          simp
        · rw [if_neg (by simpa using hab), if_neg hab]
          have h1 : rangeM (F40_48_b1 g R m muts i ia ib) R.length 0 s2 = _ := rangeM_app (fun ir => dif m i (g.getD ia default) (g.getD ib default) (R.getD ir default)) 1 (fun ir _ => dif_len m i _ _ _) fun ir s1 hir hs1 => by
            unfold F40_48_b1 F48
            obtain ⟨e1, e2⟩ := sides hm hi (g.getD ia default) (g.getD ib default) (R.getD ir default)
            rw [e1, e2]
            have hs := xy_small hm i (g.getD ia default) (g.getD ib default) (R.getD ir default)
            rw [wrapId (n := xv m i (g.getD ia default) (g.getD ib default) (R.getD ir default) - yv m i (g.getD ia default) (g.getD ib default) (R.getD ir default)) (by omega) (by omega)]
            unfold dif
            have hk : (muts i).kind = (i : Int) + 1 := by
              have : i = 0 ∨ i = 1 := by omega
              rcases this with rfl | rfl <;> rfl
            rw [hk]
            by_cases hd : xv m i (g.getD ia default) (g.getD ib default) (R.getD ir default) - yv m i (g.getD ia default) (g.getD ib default) (R.getD ir default) ≠ 0
            · rw [if_pos (by simpa using hd), if_pos hd]
              rw [guardP_pos (p := AllP [(s1.length + 1) * (2 * 40) ≤ 2 ^ 48]) (And.intro (by omega) trivial)]
              rfl
            · rw [if_neg (by simpa using hd), if_neg hd]
              simp
          rw [h1, flatMap_getD (fun r => dif m i (g.getD ia default) (g.getD ib default) r)]
          rfl
      rw [h2, flatMap_getD (fun b => difB m R i (g.getD ia default) b)]
      rfl
    rw [h3, flatMap_getD (fun a => g.flatMap fun b => difB m R i a b)]
    rfl
  rw [h4]
  rfl

/-- Explain, for a right ledger, group and day. -/
theorem F17_spec {l : List TApiPosting} (hl : Good l) {g : List Int} (hg : Grp g) {k : Int} (h0 : 0 ≤ k) (h1 : k ≤ 36000) :
    ∃ R m, Refs l R ∧ F58 ⟨l⟩ = some R ∧ F55 ⟨l⟩ k = some m ∧ (∀ s, mget m s 0 = tot (spotV k s) l) ∧ Small m ∧ F17 ⟨l⟩ g k = some (difs m R g, 0) := by
  obtain ⟨R, r1, r2⟩ := F58_spec hl.len
  obtain ⟨m, m1, m2⟩ := F55_spec hl k
  have hlen := hl.len
  have hsm : Small m := fun s => by
    rw [m2 s]
    have := tot_bound (f := spotV k s) (c := 1000000000000) (l := l) fun p hp => spotV_bound (good_mem hl hp)
    omega
  have hRl := r2.len
  refine ⟨R, m, r2, r1, m1, m2, hsm, ?_⟩
  unfold F17
  rw [F47_spec hl hg h0 h1]
  simp only [Option.bind_some]
  rw [if_neg (by simp)]
  unfold F40_48 F59
  rw [r1, m1]
  simp only [Option.bind_some]
  have hd := F40_48_loops hsm (R := R) (g := g) (by omega) hg.len
  unfold muts at hd
  rw [hd]
  have hb : (difs m R g).length ≤ 80000 := by
    have := flatMap_len (F := fun i => g.flatMap fun a => g.flatMap fun b => difB m R i a b) (c := 40000) (g := List.range 2) fun i _ => difI_len (by omega) hg.len i
    simpa [difs] using this
  show guardP _ _ = _
  rw [guardP_pos (by omega)]
end Go.Proofs.Ytkkdclpleghppaa
