/- A part of the proof: laws over any program of the abstract machine. No condition. -/
import Derived.Test.YtkkdclpleghppaaTaOp4
namespace Go.TA
open Go

/-! ## slices of slices and strings -/
def loN : Option Int → Nat
  | some v => v.toNat
  | none => 0
def hiN (n : Nat) : Option Int → Nat
  | some v => v.toNat
  | none => n
def signC : Option Int → List Prop
  | some v => [0 ≤ v]
  | none => []
def cutF {α : Type} (f : Nat → α) : Option Int → Nat → α
  | some v => fun j => f (v.toNat + j)
  | none => f
def boundC (n : Nat) (lo hi : Option Int) : List Prop :=
  signC lo ++ (signC hi ++ ((if lo.isSome then [loN lo ≤ hiN n hi] else []) ++ (if hi.isSome then [hiN n hi ≤ n] else [])))

theorem boundC_spec {n : Nat} {lo hi : Option Int} (h : AllP (boundC n lo hi)) :
    (∀ v, lo = some v → 0 ≤ v) ∧ (∀ v, hi = some v → 0 ≤ v) ∧ loN lo ≤ hiN n hi ∧ hiN n hi ≤ n := by
  unfold boundC at h
  rw [AllP_append, AllP_append, AllP_append] at h
  obtain ⟨h1, h2, h3, h4⟩ := h
  refine ⟨fun v e => ?_, fun v e => ?_, ?_, ?_⟩
  · subst e; exact h1.1
  · subst e; exact h2.1
  · cases lo with
    | none => exact Nat.zero_le _
    | some v => simpa [AllP] using h3
  · cases hi with
    | none => exact Nat.le_refl _
    | some v => simpa [AllP] using h4

theorem run_sliceBound {P : Program} {w : World} {k : IntKind} {v : Int} {y : Nat} {code : BoundsCode} (h : 0 ≤ v) (h' : v.toNat ≤ y) :
    (Instr.sliceBound (.int k v) y code).run P w = .ok v.toNat w := by
  have h2 : 0 ≤ v ∧ v ≤ (y : Int) := ⟨h, by omega⟩
  simp [Instr.sliceBound, asIntOf, h2]

theorem run_sliceBounds {P : Program} {w : World} {s : Bool} {n cap : Nat} {lo hi mx : Option Int} {kl kh km : IntKind}
    (hlo : ∀ v, lo = some v → 0 ≤ v) (hhi : ∀ v, hi = some v → 0 ≤ v) (h1 : loN lo ≤ hiN n hi) (h2 : hiN n hi ≤ n) (h3 : n ≤ cap)
    (hm : ∀ v, mx = some v → 0 ≤ v ∧ hiN n hi ≤ v.toNat ∧ v.toNat ≤ cap ∧ hi.isSome = true) :
    (Instr.sliceBounds s n cap (lo.map (Value.int kl)) (hi.map (Value.int kh)) (mx.map (Value.int km))).run P w = .ok (loN lo, hiN n hi, hiN cap mx) w := by
  unfold Instr.sliceBounds
  cases mx with
  | none =>
    cases hi with
    | none =>
      cases lo with
      | none => simp [loN, hiN]
      | some l =>
        have := run_sliceBound (P := P) (w := w) (k := kl) (code := .sliceB) (hlo l rfl) (y := n) (by simpa [loN, hiN] using h1)
        simp [loN, hiN, this]
    | some u =>
      have hu := run_sliceBound (P := P) (w := w) (k := kh) (code := if s then .sliceAcap else .sliceAlen) (hhi u rfl) (y := cap) (by simp [hiN] at h2; omega)
      cases lo with
      | none => simp [loN, hiN, hu]
      | some l =>
        have := run_sliceBound (P := P) (w := w) (k := kl) (code := .sliceB) (hlo l rfl) (y := u.toNat) (by simpa [loN, hiN] using h1)
        simp [loN, hiN, this, hu]
  | some m =>
    obtain ⟨m0, m1, m2, m3⟩ := hm m rfl
    have hm' := run_sliceBound (P := P) (w := w) (k := km) (code := if s then .slice3Acap else .slice3Alen) m0 m2
    cases hi with
    | none => cases m3
    | some u =>
      have hu := run_sliceBound (P := P) (w := w) (k := kh) (code := .slice3B) (hhi u rfl) (y := m.toNat) (by simpa [hiN] using m1)
      cases lo with
      | none => simp [loN, hiN, hm', hu]
      | some l =>
        have := run_sliceBound (P := P) (w := w) (k := kl) (code := .slice3C) (hlo l rfl) (y := u.toNat) (by simpa [loN, hiN] using h1)
        simp [loN, hiN, this, hm', hu]

def sliceOne (P : Program) (elem : TypeId) (lo hi mx : Option Int) (n : Nat) (f : Nat → DV) : Option (AV × List Prop) :=
  if szOf P elem = some (f (loN lo)).wd then match mx with
    | none => some (.d (.sl (hiN n hi - loN lo) (cutF f lo)), boundC n lo hi)
    | some m => match hi with
      | some h => some (.full (hiN n hi - loN lo) (cutF f lo), boundC n lo hi ++ [m = h])
      | none => none
  else none

def vSlice (P : Program) (L : List Ob) (t : TypeId) (x : AV) (lo hi mx : Option Int) : Option (AV × List Prop) :=
  match P.underlying t with
  | some .string => match x, mx with
    | .d (.str l), none => some (.d (.str ((l.drop (loN lo)).take (hiN l.length hi - loN lo))), boundC l.length lo hi)
    | _, _ => none
  | some (.slice elem) => match x with
    | .d (.sl n f) => sliceOne P elem lo hi mx n f
    | .full n f => sliceOne P elem lo hi mx n f
    | .ref o st off n => match mx with
      | none => match L[o]? with
        | some (.seq sz m _) => if szOf P elem = some sz then some (.ref o st (off + loN lo) (hiN n hi - loN lo), boundC n lo hi ++ [m = st]) else none
        | _ => none
      | some _ => none
    | _ => none
  | _ => none

theorem cutF_eq {α : Type} (f : Nat → α) (lo : Option Int) (j : Nat) : cutF f lo j = f (loN lo + j) := by
  cases lo with
  | none => simp [cutF, loN]
  | some v => rfl

theorem sl_full_len {M : Mem} {n : Nat} {f : Nat → DV} {v : Value} (h : DV.Is M (.sl n f) [v]) : ∃ a cap, v = .slice a n cap ∧ n ≤ cap := by
  cases h with
  | slNil => exact ⟨_, _, rfl, Nat.le_refl _⟩
  | slEmpty _ a cap => exact ⟨_, _, rfl, Nat.zero_le _⟩
  | sl _ _ b off cap sz arr cs h1 => exact ⟨_, _, rfl, h1⟩

theorem sl_cut {M : Mem} {n : Nat} {f : Nat → DV} {a : Option Addr} {cap : Nat} {lo hi : Option Int} {sz m : Nat} (h : DV.Is M (.sl n f) [.slice a n cap])
    (h1 : loN lo ≤ hiN n hi) (h2 : hiN n hi ≤ n) (hsz : sz = (f (loN lo)).wd) (hm1 : hiN n hi ≤ m) (hm2 : m ≤ cap) :
    DV.Is M (.sl (hiN n hi - loN lo) (cutF f lo)) [.slice (if m = loN lo then a else a.map (·.add (loN lo * sz))) (hiN n hi - loN lo) (m - loN lo)] := by
  by_cases h0 : hiN n hi - loN lo = 0
  · rw [h0]
    cases a with
    | none =>
      have hn : n = 0 := by cases h; rfl
      have hc : cap = 0 := by cases h; rfl
      have hml : m = loN lo := by omega
      simp [hml]; exact .slNil _
    | some ad =>
      by_cases hml : m = loN lo
      · simp only [if_pos hml]; exact .slEmpty _ _ _
      · simp only [if_neg hml, Option.map_some]; exact .slEmpty _ _ _
  · cases h with
    | slNil => simp [hiN] at h0 h2; omega
    | slEmpty => omega
    | sl _ _ b off cap sz' arr cs k1 k2 hb hh hl hc =>
      have hlt : loN lo < n := by omega
      have hs' : sz' = sz := by rw [hsz, ← hl _ hlt, (hh _ hlt).len]
      subst hs'
      rw [if_neg (by omega)]
      simp only [Option.map_some, add_mk]
      refine .sl _ _ b _ _ sz' arr (fun j => cs (loN lo + j)) (by omega) (by omega) hb (fun i hi' => ?_) (fun i hi' => ?_) (fun i hi' j hj => ?_)
      · rw [cutF_eq]; exact hh _ (by omega)
      · exact hl _ (by omega)
      · have := hc (loN lo + i) (by omega) j hj
        rw [← this]; congr 1
        rw [Nat.add_mul]; omega
theorem loN_of {lo : Option Int} : loN lo = loN lo := rfl

theorem vSlice_one {P : Program} {c : Cx} {w : World} {t elem : TypeId} {n : Nat} {f : Nat → DV} {lo hi mx : Option Int} {av : AV} {kl kh km : IntKind} {C : List Prop} {u : Value}
    (hu : P.underlying t = some (.slice elem)) (ha : DV.Is c.M (.sl n f) [u])
    (hv0 : sliceOne P elem lo hi mx n f = some (av, C)) (hc : AllP C) :
    ∃ v, (Instr.slice t u (lo.map (Value.int kl)) (hi.map (Value.int kh)) (mx.map (Value.int km))).run P w = .ok v w ∧ AV.IsV c av v := by
  unfold sliceOne at hv0
  split at hv0
  case isFalse => cases hv0
  rename_i hs
  have hv := hv0
  obtain ⟨a, cap, rfl, hcap⟩ := sl_full_len ha
  have hrun : ∀ (l h m : Nat), (Instr.sliceBounds true n cap (lo.map (Value.int kl)) (hi.map (Value.int kh)) (mx.map (Value.int km))).run P w = .ok (l, h, m) w →
      (Instr.slice t (.slice a n cap) (lo.map (Value.int kl)) (hi.map (Value.int kh)) (mx.map (Value.int km))).run P w =
        .ok (.slice (if m = l then a else a.map (·.add (l * (f (loN lo)).wd))) (h - l) (m - l)) w := fun l h m e => by
    simp [Instr.slice, run_und hu w, e, run_sz hs w]
  cases mx with
  | none =>
    simp only [Option.some.injEq, Prod.mk.injEq] at hv
    obtain ⟨rfl, rfl⟩ := hv
    obtain ⟨b1, b2, b3, b4⟩ := boundC_spec hc
    have hb := run_sliceBounds (P := P) (w := w) (s := true) (n := n) (cap := cap) (lo := lo) (hi := hi) (mx := none) (kl := kl) (kh := kh) (km := km) b1 b2 b3 b4 hcap (by simp)
    exact ⟨_, hrun _ _ _ hb, .one _ _ rfl (.d _ _ (sl_cut ha b3 b4 rfl (by simpa [hiN] using Nat.le_trans b4 hcap) (Nat.le_refl _)))⟩
  | some m =>
    cases hi with
    | none => cases hv
    | some h =>
      simp only [Option.some.injEq, Prod.mk.injEq] at hv
      obtain ⟨rfl, rfl⟩ := hv
      obtain ⟨hc1, hmh, _⟩ := AllP_append.1 hc
      subst hmh
      obtain ⟨b1, b2, b3, b4⟩ := boundC_spec hc1
      have hb := run_sliceBounds (P := P) (w := w) (s := true) (n := n) (cap := cap) (lo := lo) (hi := some m) (mx := some m) (kl := kl) (kh := kh) (km := km) b1 b2 b3 b4 hcap
        (fun v e => by cases e; exact ⟨b2 _ rfl, by simp [hiN], by simp [hiN] at b4; omega, rfl⟩)
      have hd := sl_cut ha b3 b4 rfl (m := hiN n (some m)) (Nat.le_refl _) (Nat.le_trans b4 hcap)
      exact ⟨_, hrun _ _ _ hb, .one _ _ rfl (.full _ _ _ hd)⟩

theorem vSlice_ok {P : Program} {c : Cx} {w : World} {t : TypeId} {a av : AV} {lo hi mx : Option Int} {kl kh km : IntKind} {C : List Prop} {u : Value}
    (hv : vSlice P c.L t a lo hi mx = some (av, C)) (hc : AllP C) (ha : AV.IsV c a u) :
    ∃ v, (Instr.slice t u (lo.map (Value.int kl)) (hi.map (Value.int kh)) (mx.map (Value.int km))).run P w = .ok v w ∧ AV.IsV c av v := by
  unfold vSlice at hv
  split at hv
  · rename_i hu
    split at hv
    · rename_i l
      cases hv
      rw [IsV.str ha]
      obtain ⟨b1, b2, b3, b4⟩ := boundC_spec hc
      have hsz : (ByteArray.mk l.toArray).size = l.length := by simp [ByteArray.size]
      have hb := run_sliceBounds (P := P) (w := w) (s := false) (n := l.length) (cap := l.length) (lo := lo) (hi := hi) (mx := none) (kl := kl) (kh := kh) (km := km) b1 b2 b3 b4 (Nat.le_refl _) (by simp)
      refine ⟨.string ((ByteArray.mk l.toArray).extract (loN lo) (hiN l.length hi)), ?_, ?_⟩
      · simp only [Option.map_none] at hb
        simp [Instr.slice, run_und hu w, hsz, hb]
      · rw [ByteArray.extract_mk]
        exact mk_str _
    · cases hv
  · rename_i elem hu
    split at hv
    · have ha' := IsV.is1 rfl (by simp) (by simp) ha
      cases ha' with
      | d _ _ ha' => exact vSlice_one hu ha' hv hc
    · have ha' := IsV.is1 rfl (by simp) (by simp) ha
      cases ha' with
      | full _ _ _ ha' => exact vSlice_one hu ha' hv hc
    · rename_i o st off n
      split at hv
      · split at hv
        · rename_i sz m g hL
          split at hv
          · rename_i hsz
            cases hv
            obtain ⟨hc1, rfl, _⟩ := AllP_append.1 hc
            obtain ⟨b1, b2, b3, b4⟩ := boundC_spec hc1
            have ha' := IsV.is1 rfl (by simp) (by simp) ha
            cases ha' with
            | ref _ _ _ _ _ hr =>
            obtain ⟨r1, ⟨ra, rcap, r2⟩, r3, r4⟩ := hr
            obtain ⟨r5, r6⟩ := r4 sz g hL
            subst r2
            have hcap : n ≤ rcap := by
              rcases r6 with ⟨_, ra', r6⟩ | ⟨_, r6⟩ | ⟨b, tc, r6, r7, r8⟩
              · cases r6; exact Nat.le_refl _
              · omega
              · cases r8; omega
            have hb := run_sliceBounds (P := P) (w := w) (s := true) (n := n) (cap := rcap) (lo := lo) (hi := hi) (mx := none) (kl := kl) (kh := kh) (km := km) b1 b2 b3 b4 hcap (by simp)
            refine ⟨.slice (if rcap = loN lo then ra else ra.map (·.add (loN lo * sz))) (hiN n hi - loN lo) (rcap - loN lo), ?_, .one _ _ rfl (.ref _ _ _ _ _ ?_)⟩
            · simp only [Option.map_none] at hb
              simp only [hiN] at hb
              simp [Instr.slice, run_und hu w, hb, run_sz hsz w]
              rfl
            · refine ⟨r1, ⟨_, _, rfl⟩, r3, fun sz' g' hL' => ⟨by omega, ?_⟩⟩
              rw [hL] at hL'
              cases hL'
              rcases r6 with ⟨r7, ra', r6⟩ | ⟨_, r6⟩ | ⟨b, tc, r6, r7, r8⟩
              · cases r6
                left
                have e1 : loN lo = 0 := by omega
                have e2 : hiN 0 hi = 0 := by omega
                exact ⟨r7, by simp [e1, e2]⟩
              · right; left
                omega
              · cases r8
                right
                by_cases h0 : tc - off = loN lo
                · by_cases h1 : off + loN lo = 0
                  · right
                    refine ⟨b, tc, r6, r7, ?_⟩
                    have e1 : off = 0 := by omega
                    have e2 : loN lo = 0 := by omega
                    simp [e1, e2, add_mk]
                  · left; omega
                · right
                  refine ⟨b, tc, r6, r7, ?_⟩
                  simp only [if_neg h0, Option.map_some, add_mk, ← Nat.add_mul, Nat.sub_sub]
          · cases hv
        · cases hv
      · cases hv
    · cases hv
  · cases hv

/-! ## len -/
def vLen (P : Program) (L : List Ob) (t : TypeId) (x : AV) : Option (AV × List Prop) :=
  match P.underlying t, x with
  | some .string, .d (.str l) => some (.d (.i .i64 l.length), [])
  | some (.slice _), .d (.sl n _) => some (.d (.i .i64 n), [])
  | some (.slice _), .full n _ => some (.d (.i .i64 n), [])
  | some (.slice _), .ref _ _ _ n => some (.d (.i .i64 n), [])
  | some (.array n _), _ => some (.d (.i .i64 n), [])
  | some (.map _ _), .d (.lit (.map none)) => some (.d (.i .i64 0), [])
  | some (.map _ _), .map o => match L[o]? with
    | some (.map es) => some (.d (.i .i64 es.length), [])
    | _ => none
  | _, _ => none

theorem EntsIs.length {c : Cx} : ∀ {es : List (DV × DV)} {r : List MapEntry}, EntsIs c es r → r.length = es.length
  | [], [], _ => rfl
  | _ :: es, _ :: r, h => by simp [EntsIs.length h.2.2]
  | [], _ :: _, h => h.elim
  | _ :: _, [], h => h.elim

theorem Rel.mapAt {X : Nat → Prop} {ms : Blocks} {L : List Ob} {w : World} (h : Rel X ms L w) {o : Nat} {es : List (DV × DV)} {b tc : Nat} (hL : L[o]? = some (.map es)) (hm : ms[o]? = some (some (b, tc))) :
    ∃ ents clock, w.heap[b]? = some (.map ents clock) ∧ EntsIs (cxOf X ms L w) es ents.toList ∧ Born es.length clock ents.toList := by
  obtain ⟨b', tc', ents, clock, h1, h2, h3⟩ := h.obs o _ hL
  have : some (some (b, tc)) = some (some (b', tc')) := hm.symm.trans h1
  cases this
  exact ⟨ents, clock, h2, h3⟩

theorem vLen_ok {P : Program} {X : Nat → Prop} {ms : Blocks} {L : List Ob} {w : World} (hr : Rel X ms L w) {t ty : TypeId} {a av : AV} {C : List Prop} {u : Value}
    (hv : vLen P L t a = some (av, C)) (ha : AV.IsV (cxOf X ms L w) a u) :
    ∃ v, (Builtin.len_ #[t] ty #[u]).run P w = .ok v w ∧ AV.IsV (cxOf X ms L w) av v := by
  unfold vLen at hv
  split at hv
  · rename_i l hu
    cases hv
    rw [IsV.str ha]
    refine ⟨.int .i64 l.length, ?_, mk_i _ _⟩
    have hsz : (ByteArray.mk l.toArray).size = l.length := by simp [ByteArray.size]
    simp [Builtin.len_, run_und hu w, goInt, hsz]
  · rename_i n f hu
    cases hv
    have ha' := IsV.is1 rfl (by simp) (by simp) ha
    cases ha' with
    | d _ _ ha' =>
    obtain ⟨a, cap, rfl, _⟩ := sl_full_len ha'
    exact ⟨.int .i64 n, by simp [Builtin.len_, run_und hu w, goInt], mk_i _ _⟩
  · rename_i n f hu
    cases hv
    have ha' := IsV.is1 rfl (by simp) (by simp) ha
    cases ha' with
    | full _ _ _ ha' => exact ⟨.int .i64 n, by simp [Builtin.len_, run_und hu w, goInt], mk_i _ _⟩
  · rename_i o st off n hu
    cases hv
    have ha' := IsV.is1 rfl (by simp) (by simp) ha
    cases ha' with
    | ref _ _ _ _ _ hr =>
    obtain ⟨r1, ⟨ra, rcap, rfl⟩, _⟩ := hr
    exact ⟨.int .i64 n, by simp [Builtin.len_, run_und hu w, goInt], mk_i _ _⟩
  · rename_i n e hu
    cases hv
    refine ⟨.int .i64 n, ?_, mk_i _ _⟩
    simp only [Builtin.len_]
    simp [run_und hu w, goInt]
  · rename_i hu
    cases hv
    have ha' := IsV.is1 rfl (by simp) (by simp) ha
    cases ha' with
    | d _ _ ha' =>
    cases ha'
    exact ⟨.int .i64 0, by simp [Builtin.len_, run_und hu w, goInt], mk_i _ _⟩
  · rename_i o hu
    split at hv
    · rename_i es hL
      cases hv
      have ha' := IsV.is1 rfl (by simp) (by simp) ha
      cases ha' with
      | map _ _ hm =>
      obtain ⟨_, _, hm⟩ := hm
      obtain ⟨b, tc, hm', rfl⟩ := hm es hL
      obtain ⟨ents, clock, h1, h2, _⟩ := hr.mapAt hL hm'
      refine ⟨.int .i64 es.length, ?_, mk_i _ _⟩
      have : (getObj b).run P w = .ok (.map ents clock) w := by simp [getObj, Sem.run, h1]
      have hl := h2.length
      simp only [Array.length_toList] at hl
      simp [Builtin.len_, run_und hu w, goInt, this, hl]
    · cases hv
  · cases hv
end Go.TA
