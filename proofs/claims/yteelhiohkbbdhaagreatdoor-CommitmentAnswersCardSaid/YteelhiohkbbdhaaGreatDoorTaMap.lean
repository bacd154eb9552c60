/- A part of the proof: laws over any program of the abstract machine. No condition. -/
import Derived.Test.YteelhiohkbbdhaaGreatDoorTaEff
namespace Go.TA
open Go

/-! ## Maps: values that are one list of cells -/
mutual
def DV.flat : DV → Bool
  | .b _ | .i _ _ | .str _ => true
  | .agg fs => DV.flatL fs
  | _ => false
def DV.flatL : List DV → Bool
  | [] => true
  | x :: r => x.flat && DV.flatL r
end

def leafy : Value → Bool
  | .bool _ | .int _ _ | .string _ => true
  | _ => false

mutual
theorem DV.Is.flat {M M' : Mem} : ∀ {x : DV} {cs cs' : List Value}, DV.Is M x cs → DV.Is M' x cs' → x.flat = true → cs = cs' ∧ ∀ v ∈ cs, leafy v = true
  | _, _, _, .b x, h, _ => by cases h; exact ⟨rfl, fun v hv => by simp at hv; subst hv; rfl⟩
  | _, _, _, .i k n, h, _ => by cases h; exact ⟨rfl, fun v hv => by simp at hv; subst hv; rfl⟩
  | _, _, _, .str l, h, _ => by cases h; exact ⟨rfl, fun v hv => by simp at hv; subst hv; rfl⟩
  | _, _, _, .lit v _, _, hf => by simp [DV.flat] at hf
  | _, _, _, .agg fs cs hl, h, hf => by
    cases h with
    | agg _ _ hl' => exact DV.IsL.flat hl hl' (by simpa [DV.flat] using hf)
  | _, _, _, .arr .., _, hf => by simp [DV.flat] at hf
  | _, _, _, .slNil _, _, hf => by simp [DV.flat] at hf
  | _, _, _, .slEmpty .., _, hf => by simp [DV.flat] at hf
  | _, _, _, .sl .., _, hf => by simp [DV.flat] at hf
theorem DV.IsL.flat {M M' : Mem} : ∀ {xs : List DV} {cs cs' : List Value}, DV.IsL M xs cs → DV.IsL M' xs cs' → DV.flatL xs = true → cs = cs' ∧ ∀ v ∈ cs, leafy v = true
  | _, _, _, .nil, h, _ => by cases h; exact ⟨rfl, fun v hv => by cases hv⟩
  | _, _, _, .cons x xs c cs h1 h2, h, hf => by
    cases h with
    | cons _ _ c' cs' k1 k2 =>
      simp only [DV.flatL, Bool.and_eq_true] at hf
      obtain ⟨rfl, p1⟩ := DV.Is.flat h1 k1 hf.1
      obtain ⟨rfl, p2⟩ := DV.IsL.flat h2 k2 hf.2
      exact ⟨rfl, fun v hv => (List.mem_append.1 hv).elim (p1 v) (p2 v)⟩
end

theorem sameBits_leaf {v : Value} (h : leafy v = true) (n : Nat) : Instr.sameBits n v v = true := by
  cases v <;> simp_all [leafy, Instr.sameBits, MapKept.bytes_beq]

theorem flat_same {c c' : Cx} {x : DV} {u v : Value} (hf : x.flat = true) (hu : AV.IsV c (.d x) u) (hv : AV.IsV c' (.d x) v) : u = v ∧ Instr.sameBits 10000 u v = true := by
  by_cases ha : (AV.d x).isAgg = true
  · obtain ⟨cs, rfl, hcs⟩ := IsV.is ha hu
    obtain ⟨ks, rfl, hks⟩ := IsV.is ha hv
    cases hcs with
    | d _ _ hcs =>
    cases hks with
    | d _ _ hks =>
    obtain ⟨rfl, hl⟩ := DV.Is.flat hcs hks hf
    refine ⟨rfl, ?_⟩
    show ((cs.toArray.size == cs.toArray.size) && _) = true
    simp only [beq_self_eq_true, Bool.true_and]
    rw [List.all_eq_true]
    rintro ⟨a, b⟩ hab
    have : a = b ∧ a ∈ cs := by
      clear hl hcs hks hu hv
      induction cs with
      | nil => simp at hab
      | cons x r ih =>
        rcases List.mem_cons.1 hab with e | e
        · cases e; exact ⟨rfl, List.mem_cons_self⟩
        · exact ⟨(ih e).1, List.mem_cons_of_mem _ (ih e).2⟩
    obtain ⟨rfl, hm⟩ := this
    exact sameBits_leaf (hl a hm) _
  · have hu' := IsV.is1 (by simpa using ha) (by simp) (by simp) hu
    have hv' := IsV.is1 (by simpa using ha) (by simp) (by simp) hv
    cases hu' with
    | d _ _ hu' =>
    cases hv' with
    | d _ _ hv' =>
    obtain ⟨e, hl⟩ := DV.Is.flat hu' hv' hf
    cases e
    exact ⟨rfl, sameBits_leaf (hl u (by simp)) _⟩

theorem checkKey_run {P : Program} {w : World} {c : Cx} {em : Bool} : ∀ (n d : Nat) (t : TypeId) (x : DV) (r : Bool) (u : Value), eqD P n t x x = some r → n ≤ d → AV.IsV c (.d x) u →
    (Instr.checkKey em d t u).run P w = .ok () w
  | 0, d, t, x, r, u, h, _, _ => by simp [eqD] at h
  | n + 1, 0, t, x, r, u, h, hd, _ => by omega
  | n + 1, d + 1, t, x, r, u, h, hd, hu => by
    unfold eqD at h
    split at h
    · rename_i hty
      split at h
      · rw [IsV.b hu]; simp [Instr.checkKey, run_underlying hty]
      · cases h
    · rename_i hty
      split at h
      · rw [IsV.i hu]; simp [Instr.checkKey, run_underlying hty]
      · cases h
    · rename_i hty
      split at h
      · rw [IsV.str hu]; simp [Instr.checkKey, run_underlying hty]
      · cases h
    · rename_i fs hty
      split at h
      · rename_i xs ys
        split at h
        · cases h
        · rename_i hxs hst
          obtain ⟨cs, rfl, hcs⟩ := IsV.is rfl hu
          rw [Instr.checkKey]
          simp only [Sem.run_bind, run_underlying hty, Result.andThen_ok]
          rw [← Array.forIn_toList]
          generalize fs.toList = l at h
          generalize 0 = i at h
          clear hty
          induction l generalizing i r with
          | nil => simp
          | cons f l ih =>
            simp only [eqFs] at h
            split at h
            · cases h
            · rename_i hname
              split at h
              · rename_i x y hx hy
                split at h
                · rename_i b hb
                  split at h
                  · rename_i c' hc'
                    cases h
                    obtain ⟨v1, p1, q1⟩ := fieldD_part (P := P) (w := w) hx hcs
                    have hxy : x = y := by rw [hx] at hy; exact Option.some.inj hy
                    subst hxy
                    have e := checkKey_run (w := w) (em := em) n d f.type x b v1 hb (by omega) q1
                    have ihh := ih _ _ hc'
                    simp only [List.forIn_cons, Sem.run_bind, hname, ne_eq, not_false_eq_true, if_true, Result.andThen_ok, p1, e, Sem.run_pure]
                    exact ihh
                  · cases h
                · cases h
              · cases h
      · cases h
    · cases h

/-! ## An association list -/
section
variable {α β : Type} [BEq α]
def mget (l : List (α × β)) (k : α) (z : β) : β := match l.find? (fun p => k == p.1) with
  | some p => p.2
  | none => z
def midx (l : List (α × β)) (k : α) : Nat := l.findIdx (fun p => k == p.1)
def ment (l : List (α × β)) (k : α) (z : β) : List (α × β) := if l.any (fun p => k == p.1) then l else l ++ [(k, z)]
def msto (l : List (α × β)) (i : Nat) (v : β) : List (α × β) := l.modify i fun p => (p.1, v)
def eM (eK : α → DV) (eV : β → DV) (l : List (α × β)) : Ob := .map (l.map fun p => (eK p.1, eV p.2))

theorem EntsIs.get {c : Cx} : ∀ {es : List (DV × DV)} {r : List MapEntry} {i : Nat} {p : DV × DV}, EntsIs c es r → es[i]? = some p → ∃ e, r[i]? = some e ∧ AV.IsV c (.d p.1) e.key ∧ AV.IsV c (.d p.2) e.val
  | (_, _) :: _, e :: _, 0, _, h, hp => by simp at hp; subst hp; exact ⟨e, rfl, h.1, h.2.1⟩
  | (_, _) :: es, _ :: r, i + 1, _, h, hp => EntsIs.get (es := es) (r := r) h.2.2 hp
  | [], _, _, _, _, hp => by simp at hp
  | _ :: _, [], _, _, h, _ => h.elim

theorem EntsIs.of_get {c : Cx} : ∀ {es : List (DV × DV)} {r : List MapEntry}, r.length = es.length → (∀ (i : Nat) (p : DV × DV) (e : MapEntry), es[i]? = some p → r[i]? = some e → AV.IsV c (.d p.1) e.key ∧ AV.IsV c (.d p.2) e.val) → EntsIs c es r
  | [], [], _, _ => trivial
  | (_, _) :: es, e :: r, hl, h => ⟨(h 0 _ e rfl rfl).1, (h 0 _ e rfl rfl).2, EntsIs.of_get (by simpa using hl) (fun i p e h1 h2 => h (i + 1) p e (by simpa using h1) (by simpa using h2))⟩
  | [], _ :: _, hl, _ => by simp at hl
  | _ :: _, [], hl, _ => by simp at hl

def Found (l : List (α × β)) (ents : List MapEntry) (k : α) (i : Nat) (q : Option (Nat × Value)) : Prop :=
  (q = none ∧ l.any (fun p => k == p.1) = false) ∨ ∃ p e, q = some (i + midx l k, e.val) ∧ l[midx l k]? = some p ∧ ents[midx l k]? = some e ∧ (k == p.1) = true

theorem findNow_asking {P : Program} {w : World} {kt : TypeId} {d : TypeDesc} {k : Value} (hd : P.underlying kt = some d) : ∀ (es : List MapEntry) (i : Nat) (q : Option (Nat × Value)), Instr.findNow d k es i = some q →
    (Instr.findAsking kt k es i).run P w = .ok q w
  | [], i, q, h => by simp [Instr.findNow] at h; subst h; simp [Instr.findAsking]
  | e :: es, i, q, h => by
    simp only [Instr.findNow] at h
    have he : ∀ b, Instr.sameNow d k e.key = some b → (Op.equal kt k e.key).run P w = .ok b w := by
      intro b hb
      unfold Instr.sameNow at hb
      split at hb
      · split at hb
        · rename_i hk
          cases hb; subst hk
          rename_i hek
          rw [hek]
          exact run_equalIn_int w 9999 _ _ _ _ _ hd
        · cases hb
      · rename_i a b hek
        rw [hek]
        cases hb
        refine (run_equalIn_string w 9999 kt (P := P) a b hd).trans ?_
        congr 1
        rw [beq_toListBytes]
      · rename_i hek
        rw [hek]
        cases hb; exact run_equalIn_bool w 9999 _ _ _ hd
      · cases hb
    cases hs : Instr.sameNow d k e.key with
    | none => simp [hs] at h
    | some b =>
      simp only [hs] at h
      cases b with
      | true => simp at h; subst h; simp [Instr.findAsking, he true hs]
      | false => simp only at h; simp [Instr.findAsking, he false hs, findNow_asking hd es (i + 1) q h]

theorem findAsking_run {P : Program} {w : World} {c : Cx} {kt : TypeId} {eK : α → DV} {eV : β → DV} {k : α} {uk : Value} (heq : ∀ a b : α, eqD P 8 kt (eK a) (eK b) = some (a == b)) (hk : AV.IsV c (.d (eK k)) uk) :
    ∀ (l : List (α × β)) (ents : List MapEntry) (i : Nat), EntsIs c (l.map fun p => (eK p.1, eV p.2)) ents → ∃ q, (Instr.findAsking kt uk ents i).run P w = .ok q w ∧ Found l ents k i q
  | [], [], i, _ => ⟨none, by simp [Instr.findAsking], .inl ⟨rfl, rfl⟩⟩
  | p :: l, e :: ents, i, h => by
    obtain ⟨h1, h2, h3⟩ := h
    have he : (Op.equal kt uk e.key).run P w = .ok (k == p.1) w := eqD_run 8 10000 kt _ _ _ _ _ (heq k p.1) (by omega) hk h1
    cases hb : k == p.1 with
    | true =>
      rw [hb] at he
      exact ⟨some (i, e.val), by simp [Instr.findAsking, he], .inr ⟨p, e, by simp [midx, List.findIdx_cons, hb], by simp [midx, List.findIdx_cons, hb], by simp [midx, List.findIdx_cons, hb], hb⟩⟩
    | false =>
      rw [hb] at he
      obtain ⟨q, hq, hf⟩ := findAsking_run (w := w) heq hk l ents (i + 1) h3
      refine ⟨q, by simp [Instr.findAsking, he, hq], ?_⟩
      rcases hf with ⟨rfl, hn⟩ | ⟨p', e', rfl, g1, g2, g3⟩
      · exact .inl ⟨rfl, by simp only [List.any_cons, hb, Bool.false_or]; exact hn⟩
      · exact .inr ⟨p', e', by simp [midx, List.findIdx_cons, hb]; omega, by simpa [midx, List.findIdx_cons, hb] using g1, by simpa [midx, List.findIdx_cons, hb] using g2, g3⟩
  | [], _ :: _, _, h => h.elim
  | _ :: _, [], _, h => h.elim

theorem findKey_run {P : Program} {w : World} {c : Cx} {kt : TypeId} {eK : α → DV} {eV : β → DV} {k : α} {uk : Value} (heq : ∀ a b : α, eqD P 8 kt (eK a) (eK b) = some (a == b)) (hk : AV.IsV c (.d (eK k)) uk)
    {l : List (α × β)} {ents : List MapEntry} (h : EntsIs c (l.map fun p => (eK p.1, eV p.2)) ents) : ∃ q, (Instr.findKey kt uk ents).run P w = .ok q w ∧ Found l ents k 0 q := by
  obtain ⟨q, hq, hf⟩ := findAsking_run (w := w) heq hk l ents 0 h
  refine ⟨q, ?_, hf⟩
  have hu : ∃ d, P.underlying kt = some d := by
    have := heq k k
    unfold eqD at this
    split at this <;> first | exact ⟨_, ‹_›⟩ | cases this
  obtain ⟨d, hd⟩ := hu
  unfold Instr.findKey
  simp only [Sem.run_bind, run_underlying hd, Result.andThen_ok]
  cases hn : Instr.findNow d uk ents 0 with
  | none => simpa using hq
  | some q' =>
    have := findNow_asking (w := w) hd ents 0 q' hn
    rw [hq] at this
    cases this
    simp

theorem mget_found {l : List (α × β)} {k : α} {z : β} {p : α × β} (h : l[midx l k]? = some p) : mget l k z = p.2 := by
  unfold mget
  unfold midx at h
  have hlt : l.findIdx (fun p => k == p.1) < l.length := by
    rcases Nat.lt_or_ge (l.findIdx fun p => k == p.1) l.length with h' | h'
    · exact h'
    · rw [List.getElem?_eq_none h'] at h; cases h
  rw [List.find?_eq_getElem?_findIdx, h]
theorem mget_none {l : List (α × β)} {k : α} {z : β} (h : l.any (fun p => k == p.1) = false) : mget l k z = z := by
  unfold mget
  have : l.find? (fun p => k == p.1) = none := by
    rw [List.find?_eq_none]
    intro p hp
    rw [List.any_eq_false] at h
    exact h p hp
  rw [this]
theorem midx_none {l : List (α × β)} {k : α} (h : l.any (fun p => k == p.1) = false) : midx l k = l.length := by
  unfold midx
  rw [List.findIdx_eq_length]
  intro p hp
  rw [List.any_eq_false] at h
  simpa using h p hp
theorem any_of_found {l : List (α × β)} {k : α} {p : α × β} (h : l[midx l k]? = some p) (hk : (k == p.1) = true) : l.any (fun p => k == p.1) = true :=
  List.any_eq_true.2 ⟨p, List.mem_of_getElem? h, hk⟩
theorem midx_lt (l : List (α × β)) (k : α) (z : β) : midx l k < (ment l k z).length := by
  unfold ment
  split
  · rename_i h
    unfold midx
    exact List.findIdx_lt_length.2 (by simpa using h)
  · rename_i h
    rw [midx_none (by simpa using h)]; simp
end

/-! ## The operations -/
def LookOk (P : Program) (L : List Ob) (t : TypeId) (x k : AV) (ok : Bool) (v : AV) : Prop :=
  ∀ (X : Nat → Prop) (ms : Blocks) (w : World) (ux uk : Value), Rel X ms L w → AV.IsV (cxOf X ms L w) x ux → AV.IsV (cxOf X ms L w) k uk →
    ∃ r, (Instr.lookup t ux uk ok).run P w = .ok r w ∧ AV.IsV (cxOf X ms L w) v r

def EntOk (P : Program) (L : List Ob) (t : TypeId) (m k v : AV) (L' : List Ob) : Prop :=
  ∀ (X : Nat → Prop) (ms : Blocks) (w : World) (um uk : Value), Rel X ms L w → AV.IsV (cxOf X ms L w) m um → AV.IsV (cxOf X ms L w) k uk →
    ∃ r w', (Instr.mapEntry t um uk).run P w = .ok r w' ∧ Rel X ms L' w' ∧ Ext ms w ms w' ∧ (cxOf X ms L w).le (cxOf X ms L' w') ∧ AV.IsV (cxOf X ms L' w') v r

def StoOk (P : Program) (L : List Ob) (t : TypeId) (m s x : AV) (L' : List Ob) : Prop :=
  ∀ (X : Nat → Prop) (ms : Blocks) (w : World) (um us ux : Value), Rel X ms L w → AV.IsV (cxOf X ms L w) m um → AV.IsV (cxOf X ms L w) s us → AV.IsV (cxOf X ms L w) x ux →
    ∃ w', (Instr.entryStore t um us ux).run P w = .ok () w' ∧ Rel X ms L' w' ∧ Ext ms w ms w' ∧ (cxOf X ms L w).le (cxOf X ms L' w')

def UpdOk (P : Program) (L : List Ob) (t : TypeId) (m k x : AV) (L' : List Ob) : Prop :=
  ∀ (X : Nat → Prop) (ms : Blocks) (w : World) (um uk ux : Value), Rel X ms L w → AV.IsV (cxOf X ms L w) m um → AV.IsV (cxOf X ms L w) k uk → AV.IsV (cxOf X ms L w) x ux →
    ∃ w', (Instr.mapUpdate t um uk ux).run P w = .ok () w' ∧ Rel X ms L' w' ∧ Ext ms w ms w' ∧ (cxOf X ms L w).le (cxOf X ms L' w')

theorem Rel.mapOf {X : Nat → Prop} {ms : Blocks} {L : List Ob} {w : World} (h : Rel X ms L w) {o : Nat} {es : List (DV × DV)} {u : Value} (hL : L[o]? = some (.map es)) (hu : AV.IsV (cxOf X ms L w) (.map o) u) :
    ∃ b tc ents clock, u = .map (some b) ∧ ms[o]? = some (some (b, tc)) ∧ w.heap[b]? = some (.map ents clock) ∧ EntsIs (cxOf X ms L w) es ents.toList ∧ Born es.length clock ents.toList := by
  have h1 := IsV.is1 rfl (by simp) (by simp) hu
  cases h1 with
  | map _ _ hm =>
  obtain ⟨_, _, hm⟩ := hm
  obtain ⟨b, tc, hm', rfl⟩ := hm es hL
  obtain ⟨ents, clock, k1, k2, k3⟩ := h.mapAt hL hm'
  exact ⟨b, tc, ents, clock, rfl, hm', k1, k2, k3⟩

section
variable {α β : Type} [BEq α] {P : Program} {L : List Ob} {t kt et : TypeId} {o : Nat} {eK : α → DV} {eV : β → DV} {l : List (α × β)}

theorem look_ok {k : α} {z : β} (hu : P.underlying t = some (.map kt et)) (hL : L[o]? = some (eM eK eV l)) (heq : ∀ a b : α, eqD P 8 kt (eK a) (eK b) = some (a == b)) (hz : zeroOf P et = some (eV z)) :
    LookOk P L t (.map o) (.d (eK k)) false (.d (eV (mget l k z))) := by
  intro X ms w ux uk hr hx hk
  obtain ⟨b, tc, ents, clock, rfl, _, h2, h3, _⟩ := hr.mapOf hL hx
  obtain ⟨q, hq, hf⟩ := findKey_run (w := w) heq hk h3
  have hck : ∀ em, (Instr.checkKey em 10000 kt uk).run P w = .ok () w := fun em => checkKey_run 8 10000 kt _ _ _ (heq k k) (by decide) hk
  have hg : (getObj b).run P w = .ok (.map ents clock) w := by simp [getObj, Sem.run, h2]
  obtain ⟨zv, z1, z2⟩ := zeroOf_is hz
  rcases hf with ⟨rfl, hn⟩ | ⟨p, e, rfl, g1, g2, g3⟩
  · refine ⟨zv, ?_, by rw [mget_none hn]; exact z2 _⟩
    simp [Instr.lookup, run_underlying hu, hg, hck, hq, z1]
  · refine ⟨e.val, ?_, ?_⟩
    · simp [Instr.lookup, run_underlying hu, hg, hck, hq]
    · rw [mget_found g1]
      obtain ⟨e', k1, k2, k3⟩ := EntsIs.get h3 (i := midx l k) (p := (eK p.1, eV p.2)) (by simp [g1])
      rw [g2] at k1
      cases k1
      exact k3

theorem mget_ment [LawfulBEq α] {k k' : α} {z : β} : mget (ment l k z) k' z = mget l k' z := by
  unfold ment
  split
  · rfl
  · rename_i h
    unfold mget
    rw [List.find?_append]
    cases hf : l.find? (fun p => k' == p.1) with
    | some p => rfl
    | none =>
      simp only [Option.none_or, List.find?_cons, List.find?_nil]
      cases (k' == k) <;> rfl

theorem look_okE [LawfulBEq α] {k k' : α} {z : β} (hu : P.underlying t = some (.map kt et)) (hL : L[o]? = some (eM eK eV (ment l k z))) (heq : ∀ a b : α, eqD P 8 kt (eK a) (eK b) = some (a == b)) (hz : zeroOf P et = some (eV z)) :
    LookOk P L t (.map o) (.d (eK k')) false (.d (eV (mget l k' z))) := by
  have := look_ok (k := k') hu hL heq hz
  rwa [mget_ment] at this

theorem look_ok2 {k : α} {z : β} (hu : P.underlying t = some (.map kt et)) (hL : L[o]? = some (eM eK eV l)) (heq : ∀ a b : α, eqD P 8 kt (eK a) (eK b) = some (a == b)) (hz : zeroOf P et = some (eV z)) :
    LookOk P L t (.map o) (.d (eK k)) true (.tup [.d (eV (mget l k z)), .d (.b (l.any fun p => k == p.1))]) := by
  intro X ms w ux uk hr hx hk
  obtain ⟨b, tc, ents, clock, rfl, _, h2, h3, _⟩ := hr.mapOf hL hx
  obtain ⟨q, hq, hf⟩ := findKey_run (w := w) heq hk h3
  have hck : ∀ em, (Instr.checkKey em 10000 kt uk).run P w = .ok () w := fun em => checkKey_run 8 10000 kt _ _ _ (heq k k) (by decide) hk
  have hg : (getObj b).run P w = .ok (.map ents clock) w := by simp [getObj, Sem.run, h2]
  obtain ⟨zv, z1, z2⟩ := zeroOf_is hz
  rcases hf with ⟨rfl, hn⟩ | ⟨p, e, rfl, g1, g2, g3⟩
  · refine ⟨.tuple #[zv, .bool false], ?_, by rw [mget_none hn, hn]; exact .tup _ [zv, .bool false] (.cons _ _ _ _ (z2 _) (.cons _ _ _ _ (mk_b _) .nil))⟩
    simp [Instr.lookup, run_underlying hu, hg, hck, hq, z1]
  · refine ⟨.tuple #[e.val, .bool true], ?_, ?_⟩
    · simp [Instr.lookup, run_underlying hu, hg, hck, hq]
    · rw [mget_found g1, any_of_found g1 g3]
      obtain ⟨e', k1, k2, k3⟩ := EntsIs.get h3 (i := midx l k) (p := (eK p.1, eV p.2)) (by simp [g1])
      rw [g2] at k1
      cases k1
      exact .tup _ [e.val, .bool true] (.cons _ _ _ _ k3 (.cons _ _ _ _ (mk_b _) .nil))

theorem run_getMap {w : World} {b : Nat} {ents : Array MapEntry} {clock : Nat} (h : w.heap[b]? = some (.map ents clock)) : (getObj b).run P w = .ok (.map ents clock) w := by simp [getObj, Sem.run, h]
theorem run_setMap {w : World} {b : Nat} {ents : Array MapEntry} {clock : Nat} (ob : Obj) (h : w.heap[b]? = some (.map ents clock)) :
    (setObj b ob).run P w = .ok () { w with heap := w.heap.setIfInBounds b ob } := by
  simp [setObj, Sem.run, h]

/-- A map is written. -/
theorem Rel.setMap {X : Nat → Prop} {ms : Blocks} {w : World} (h : Rel X ms L w) {es es' : List (DV × DV)} {b tc : Nat} {ents ents' : Array MapEntry} {clock clock' : Nat} (hL : L[o]? = some (.map es))
    (hm : ms[o]? = some (some (b, tc))) (hb : w.heap[b]? = some (.map ents clock))
    (hi : ∀ c, (cxOf X ms L w).le c → EntsIs c es' ents'.toList) (hbo : Born es'.length clock' ents'.toList) :
    Rel X ms (L.set o (.map es')) { w with heap := w.heap.setIfInBounds b (.map ents' clock') } ∧ Ext ms w ms { w with heap := w.heap.setIfInBounds b (.map ents' clock') } ∧
      (cxOf X ms L w).le (cxOf X ms (L.set o (.map es')) { w with heap := w.heap.setIfInBounds b (.map ents' clock') }) := by
  obtain ⟨k1, k2, k3⟩ := h.setOb (w' := { w with heap := w.heap.setIfInBounds b (.map ents' clock') }) (obj' := .map es') hL hm (by simp) ⟨⟨rfl, rfl, rfl⟩, fun b' hne => by simp [Ne.symm hne]⟩
    rfl (fun s hs => ⟨s, hs, Nat.le_refl _⟩) (fun hc => ⟨b, tc, ents', clock', by simpa [cxOf] using hm, by simp [lt_of_heap hb], hi _ hc, hbo⟩)
  exact ⟨k1, k2, k3⟩

theorem entries_same {c c' : Cx} (hc : c.le c') {es : List (DV × DV)} {ents : List MapEntry} (h : EntsIs c es ents) {i : Nat} {p : DV × DV} (hp : es[i]? = some p) {v : DV} {u : Value} (hv : AV.IsV c' (.d v) u) :
    EntsIs c' (es.set i (p.1, v)) (ents.modify i fun e => { e with val := u }) := by
  refine EntsIs.of_get (by simp [h.length]) (fun j q e hq he => ?_)
  rw [List.getElem?_modify] at he
  by_cases hij : i = j
  · subst hij
    have hlt : i < es.length := by
      rcases Nat.lt_or_ge i es.length with h' | h'
      · exact h'
      · rw [List.getElem?_eq_none h'] at hp; cases hp
    rw [List.getElem?_set_self hlt] at hq
    cases hq
    obtain ⟨e0, k1, k2, k3⟩ := EntsIs.get h hp
    rw [k1] at he
    simp at he
    subst he
    exact ⟨k2.mono hc, hv⟩
  · rw [List.getElem?_set_ne hij] at hq
    obtain ⟨e0, k1, k2, k3⟩ := EntsIs.get h hq
    rw [k1] at he
    simp [hij] at he
    subst he
    exact ⟨k2.mono hc, k3.mono hc⟩

theorem entries_push {c c' : Cx} (hc : c.le c') {es : List (DV × DV)} {ents : List MapEntry} (h : EntsIs c es ents) {p : DV × DV} {e : MapEntry} (h1 : AV.IsV c' (.d p.1) e.key) (h2 : AV.IsV c' (.d p.2) e.val) :
    EntsIs c' (es ++ [p]) (ents ++ [e]) := by
  have hl := h.length
  refine EntsIs.of_get (by simp [hl]) (fun j q e' hq he => ?_)
  rcases getElem?_snoc hq with hq' | ⟨rfl, rfl⟩
  · obtain ⟨e0, k1, k2, k3⟩ := EntsIs.get h hq'
    have : j < ents.length := by
      rcases Nat.lt_or_ge j ents.length with h' | h'
      · exact h'
      · rw [List.getElem?_eq_none h'] at k1; cases k1
    rw [List.getElem?_append_left this, k1] at he
    cases he
    exact ⟨k2.mono hc, k3.mono hc⟩
  · rw [← hl] at he
    simp at he
    subst he
    exact ⟨h1, h2⟩

theorem map_set {γ δ : Type} (f : γ → δ) : ∀ (l : List γ) (i : Nat) (g : γ → γ) (p : γ), l[i]? = some p → (l.modify i g).map f = (l.map f).set i (f (g p))
  | [], i, g, p, h => by simp at h
  | x :: l, 0, g, p, h => by simp at h; subst h; rfl
  | x :: l, i + 1, g, p, h => by simp [map_set f l i g p (by simpa using h)]

theorem modify_key_same {ents : List MapEntry} {i : Nat} {e : MapEntry} (h : ents[i]? = some e) : (ents.modify i fun x => { x with key := e.key }) = ents := by
  apply List.ext_getElem?
  intro j
  rw [List.getElem?_modify]
  by_cases hij : i = j
  · subst hij; simp [h]
  · simp [hij]

theorem ent_ok [LawfulBEq α] {k : α} {z : β} (hu : P.underlying t = some (.map kt et)) (hL : L[o]? = some (eM eK eV l)) (heq : ∀ a b : α, eqD P 8 kt (eK a) (eK b) = some (a == b)) (hfl : (eK k).flat = true) (hz : zeroOf P et = some (eV z)) :
    EntOk P L t (.map o) (.d (eK k)) (.tup [.d (eV (mget l k z)), .d (.i .i64 (midx l k : Int))]) (L.set o (eM eK eV (ment l k z))) := by
  intro X ms w ux uk hr hx hk
  obtain ⟨b, tc, ents, clock, rfl, h1, h2, h3, h4⟩ := hr.mapOf hL hx
  obtain ⟨q, hq, hf⟩ := findKey_run (w := w) heq hk h3
  have hck : (Instr.checkKey false 10000 kt uk).run P w = .ok () w := checkKey_run 8 10000 kt _ _ _ (heq k k) (by decide) hk
  have hg := run_getMap (P := P) h2
  obtain ⟨zv, z1, z2⟩ := zeroOf_is hz
  rcases hf with ⟨rfl, hn⟩ | ⟨p, e, rfl, g1, g2, g3⟩
  · have hcl : clock = l.length := by simpa using h4.1
    obtain ⟨r1, r2, r3⟩ := hr.setMap (es' := (ment l k z).map fun p => (eK p.1, eV p.2)) (ents' := ents.push { key := uk, val := zv, born := clock }) (clock' := clock + 1) hL h1 h2
      (fun c hc => by
        simp only [ment, hn, Bool.false_eq_true, if_false, List.map_append, List.map_cons, List.map_nil, Array.toList_push]
        exact entries_push hc h3 (hk.mono hc) (z2 _))
      (by
        simp only [ment, hn, Bool.false_eq_true, if_false, List.length_map, List.length_append, List.length_singleton, Array.toList_push]
        refine ⟨by omega, fun i e he => ?_⟩
        rcases getElem?_snoc he with he | ⟨rfl, rfl⟩
        · exact h4.2 i e he
        · simp only [Array.length_toList]; rw [hcl]; have := h3.length; simp only [List.length_map] at this; rw [← this]; simp)
    refine ⟨.tuple #[zv, goInt clock], _, ?_, r1, r2, r3, ?_⟩
    · simp [Instr.mapEntry, run_underlying hu, hg, hck, hq, z1, run_setMap _ h2]
    · rw [mget_none hn, midx_none hn, ← hcl]
      exact .tup _ [zv, .int .i64 (clock : Int)] (.cons _ _ _ _ (z2 _) (.cons _ _ _ _ (mk_i _ _) .nil))
  · obtain ⟨e', k1, k2, k3⟩ := EntsIs.get h3 (i := midx l k) (p := (eK p.1, eV p.2)) (by simp [g1])
    rw [g2] at k1
    cases k1
    have hkp : k = p.1 := eq_of_beq g3
    rw [← hkp] at k2
    obtain ⟨hsame, hbits⟩ := flat_same hfl k2 hk
    have hkt : (Instr.keyThatStays e.key uk).run P w = .ok e.key w := by
      subst hsame
      simp [Instr.keyThatStays, hbits]
    have hbo : e.born = midx l k := h4.2 _ _ g2
    have hi : ents[midx l k]? = some e := by rw [← Array.getElem?_toList]; exact g2
    obtain ⟨r1, r2, r3⟩ := hr.setMap (es' := (ment l k z).map fun p => (eK p.1, eV p.2)) (ents' := ents.modify (midx l k) fun x => { x with key := e.key }) (clock' := clock) hL h1 h2
      (fun c hc => by
        simp only [ment, any_of_found g1 g3, if_true, Array.toList_modify]
        rw [modify_key_same g2]
        exact h3.mono hc)
      (by
        simp only [ment, any_of_found g1 g3, if_true, Array.toList_modify]
        rw [modify_key_same g2]
        exact h4)
    refine ⟨.tuple #[e.val, goInt e.born], _, ?_, r1, r2, r3, ?_⟩
    · simp [Instr.mapEntry, run_underlying hu, hg, hck, hq, hi, hkt, run_setMap _ h2]
    · rw [mget_found g1, hbo]
      exact .tup _ [e.val, .int .i64 (midx l k : Int)] (.cons _ _ _ _ (k3.mono r3) (.cons _ _ _ _ (mk_i _ _) .nil))

/-- What a write makes of a list. -/
def mupd (l : List (α × β)) (k : α) (v : β) : List (α × β) := msto (ment l k v) (midx l k) v

theorem mupd_found {k : α} {v : β} (h : l.any (fun p => k == p.1) = true) : mupd l k v = l.modify (midx l k) fun p => (p.1, v) := by
  unfold mupd msto ment
  rw [if_pos h]

theorem mupd_none {k : α} {v : β} (h : l.any (fun p => k == p.1) = false) : mupd l k v = l ++ [(k, v)] := by
  unfold mupd msto ment
  rw [if_neg (by simp [h]), midx_none h]
  apply List.ext_getElem?
  intro j
  rw [List.getElem?_modify]
  by_cases hj : l.length = j
  · subst hj; simp
  · simp [hj]

theorem upd_ok [LawfulBEq α] {k : α} {v : β} (hu : P.underlying t = some (.map kt et)) (hL : L[o]? = some (eM eK eV l)) (heq : ∀ a b : α, eqD P 8 kt (eK a) (eK b) = some (a == b)) (hfl : (eK k).flat = true) :
    UpdOk P L t (.map o) (.d (eK k)) (.d (eV v)) (L.set o (eM eK eV (mupd l k v))) := by
  intro X ms w ux uk uv hr hx hk hv
  obtain ⟨b, tc, ents, clock, rfl, h1, h2, h3, h4⟩ := hr.mapOf hL hx
  obtain ⟨q, hq, hf⟩ := findKey_run (w := w) heq hk h3
  have hck : (Instr.checkKey false 10000 kt uk).run P w = .ok () w := checkKey_run 8 10000 kt _ _ _ (heq k k) (by decide) hk
  have hg := run_getMap (P := P) h2
  rcases hf with ⟨rfl, hn⟩ | ⟨p, e, rfl, g1, g2, g3⟩
  · have hcl : clock = l.length := by simpa using h4.1
    obtain ⟨r1, r2, r3⟩ := hr.setMap (es' := (mupd l k v).map fun p => (eK p.1, eV p.2)) (ents' := ents.push { key := uk, val := uv, born := clock }) (clock' := clock + 1) hL h1 h2
      (fun c hc => by
        rw [mupd_none hn]
        simp only [List.map_append, List.map_cons, List.map_nil, Array.toList_push]
        exact entries_push hc h3 (hk.mono hc) (hv.mono hc))
      (by
        rw [mupd_none hn]
        simp only [List.length_map, List.length_append, List.length_singleton, Array.toList_push]
        refine ⟨by omega, fun i e he => ?_⟩
        rcases getElem?_snoc he with he | ⟨rfl, rfl⟩
        · exact h4.2 i e he
        · simp only [Array.length_toList]; rw [hcl]; have := h3.length; simp only [List.length_map] at this; rw [← this]; simp)
    refine ⟨_, ?_, r1, r2, r3⟩
    simp [Instr.mapUpdate, run_underlying hu, hg, hck, hq, run_setMap _ h2]
  · obtain ⟨e', k1, k2, k3⟩ := EntsIs.get h3 (i := midx l k) (p := (eK p.1, eV p.2)) (by simp [g1])
    rw [g2] at k1
    cases k1
    have hkp : k = p.1 := eq_of_beq g3
    rw [← hkp] at k2
    obtain ⟨hsame, hbits⟩ := flat_same hfl k2 hk
    have hkt : (Instr.keyThatStays e.key uk).run P w = .ok e.key w := by
      subst hsame
      simp [Instr.keyThatStays, hbits]
    have hi : ents[midx l k]? = some e := by rw [← Array.getElem?_toList]; exact g2
    have hmod : (ents.toList.modify (midx l k) fun x => { x with key := e.key, val := uv }) = ents.toList.modify (midx l k) fun x => { x with val := uv } := by
      apply List.ext_getElem?
      intro j
      rw [List.getElem?_modify, List.getElem?_modify]
      by_cases hj : midx l k = j
      · subst hj; simp [g2]
      · simp [hj]
    obtain ⟨r1, r2, r3⟩ := hr.setMap (es' := (mupd l k v).map fun p => (eK p.1, eV p.2)) (ents' := ents.modify (midx l k) fun x => { x with key := e.key, val := uv }) (clock' := clock) hL h1 h2
      (fun c hc => by
        have := entries_same hc h3 (i := midx l k) (p := (eK p.1, eV p.2)) (by simp [g1]) (hv.mono hc)
        rw [Array.toList_modify, hmod, mupd_found (any_of_found g1 g3)]
        rw [map_set (fun p : α × β => (eK p.1, eV p.2)) l _ _ p g1]
        exact this)
      (by
        rw [Array.toList_modify, hmod, mupd_found (any_of_found g1 g3)]
        refine ⟨by simpa using h4.1, fun j e he => ?_⟩
        rw [List.getElem?_modify] at he
        cases hj : ents.toList[j]? with
        | none => rw [hj] at he; simp at he
        | some e0 =>
          rw [hj] at he
          have := h4.2 j e0 hj
          by_cases hij : midx l k = j
          · simp [hij] at he; subst he; exact this
          · simp [hij] at he; subst he; exact this)
    refine ⟨_, ?_, r1, r2, r3⟩
    simp [Instr.mapUpdate, run_underlying hu, hg, hck, hq, hi, hkt, run_setMap _ h2]

theorem msto_ment {k : α} {v z : β} : msto (ment l k z) (midx l k) v = mupd l k v := by
  cases h : l.any (fun p => k == p.1) with
  | true => unfold mupd msto ment; rw [if_pos h, if_pos h]
  | false =>
    rw [mupd_none h]
    unfold msto ment
    rw [if_neg (by simp [h]), midx_none h]
    apply List.ext_getElem?
    intro j
    rw [List.getElem?_modify]
    by_cases hj : l.length = j
    · subst hj; simp
    · rcases Nat.lt_or_ge j l.length with h' | h'
      · simp [hj, List.getElem?_append_left h']
      · rw [List.getElem?_eq_none (by simp; omega), List.getElem?_eq_none (by simp; omega)]; simp

end

theorem sto_ok {α β : Type} {P : Program} {L : List Ob} {t : TypeId} {o : Nat} {eK : α → DV} {eV : β → DV} {l : List (α × β)} {i : Nat} {v : β} (hL : L[o]? = some (eM eK eV l)) (hi : i < l.length) : StoOk P L t (.map o) (.d (.i .i64 (i : Int))) (.d (eV v)) (L.set o (eM eK eV (msto l i v))) := by
  intro X ms w ux us uv hr hx hs hv
  obtain ⟨b, tc, ents, clock, rfl, h1, h2, h3, h4⟩ := hr.mapOf hL hx
  rw [IsV.i hs]
  have hg := run_getMap (P := P) h2
  have hlen : ents.size = l.length := by have := h3.length; simpa using this
  have hfi : ents.findIdx? (fun e => (e.born : Int) == (i : Int)) = some i := by
    rw [Array.findIdx?_eq_some_iff_getElem]
    refine ⟨by omega, ?_, ?_⟩
    · have := h4.2 i ents[i] (by simp [show i < ents.size by omega])
      simp [this]
    · intro j hj
      have := h4.2 j (ents[j]'(by omega)) (by simp [show j < ents.size by omega])
      simp [this]; omega
  obtain ⟨p, hp⟩ : ∃ p, l[i]? = some p := ⟨l[i], by simp [hi]⟩
  obtain ⟨r1, r2, r3⟩ := hr.setMap (es' := (msto l i v).map fun p => (eK p.1, eV p.2)) (ents' := ents.modify i fun e => { e with val := uv }) (clock' := clock) hL h1 h2
    (fun c hc => by
      have := entries_same hc h3 (i := i) (p := (eK p.1, eV p.2)) (by simp [hp]) (hv.mono hc)
      rw [Array.toList_modify]
      unfold msto
      rw [map_set (fun p : α × β => (eK p.1, eV p.2)) l i _ p hp]
      exact this)
    (by
      rw [Array.toList_modify]
      refine ⟨by simpa [msto] using h4.1, fun j e he => ?_⟩
      rw [List.getElem?_modify] at he
      cases hj : ents.toList[j]? with
      | none => rw [hj] at he; simp at he
      | some e0 =>
        rw [hj] at he
        have := h4.2 j e0 hj
        by_cases hij : i = j
        · simp [hij] at he; subst he; exact this
        · simp [hij] at he; subst he; exact this)
  refine ⟨_, ?_, r1, r2, r3⟩
  simp [Instr.entryStore, hg, asInt, asIntOf, hfi, run_setMap _ h2]

section
variable {α β : Type} [BEq α] {P : Program} {L : List Ob} {t : TypeId} {o : Nat} {eK : α → DV} {eV : β → DV} {l : List (α × β)}

theorem sto_ok' {k : α} {v z : β} (hL : L[o]? = some (eM eK eV (ment l k z))) : StoOk P L t (.map o) (.d (.i .i64 (midx l k : Int))) (.d (eV v)) (L.set o (eM eK eV (mupd l k v))) := by
  rw [← msto_ment (z := z)]
  exact sto_ok hL (midx_lt l k z)
end

/-! ## As operations of a region -/
def AV.isBot : AV → Prop
  | .bot => True
  | _ => False
instance (v : AV) : Decidable v.isBot := by cases v <;> unfold AV.isBot <;> infer_instance

theorem makeMap_op {P : Program} {L : List Ob} {G : GFr} {ch : Chain} {o : Oper} {t : TypeId} (ho : o.op = .makeMap t none) : OpOk P G ch L o (.map L.length) (L ++ [.map []]) := by
  intro z zn X ms w a K Q hr hf hh hK
  obtain ⟨h1, h2, h3⟩ := hr.push (w' := w.alloc (.map #[] 0)) (m := some (w.heap.size, 0)) (obj := .map []) (Grow.alloc w _)
    (fun b tc e => by cases e; exact ⟨Nat.le_refl _, by simp⟩)
    (fun hc => ⟨w.heap.size, 0, #[], 0, by simp [cxOf, ← hr.len], heap_new w _, trivial, rfl, fun i e he => by simp at he⟩)
  refine OpOk.value (u := .map (some w.heap.size)) (w' := w.alloc (.map #[] 0)) ?_ (hK _ _ _ h1 h2 h3 (.one _ _ rfl (.map _ _ ⟨by simp [cxOf], rfl, fun es _ => ⟨w.heap.size, 0, by simp [cxOf, ← hr.len], rfl⟩⟩)))
  obtain ⟨dst, op, ty, pos, after, guard⟩ := o
  subst ho
  exact run_v (by simp [Instr.makeMap])

theorem look_op {P : Program} {L : List Ob} {G : GFr} {ch : Chain} {o : Oper} {t : TypeId} {x k : Operand} {ok : Bool} {xv kv v : AV} (ho : o.op = .lookup t x k ok) (hx : opnd G ch x = some xv) (hk : opnd G ch k = some kv)
    (h : LookOk P L t xv kv ok v) : OpOk P G ch L o v L := by
  intro z zn X ms w a K Q hr hf hh hK
  obtain ⟨r, h1, h2⟩ := h X ms w _ _ hr (opnd_is hx hf hh) (opnd_is hk hf hh)
  refine OpOk.value (u := r) (w' := w) ?_ (hK _ _ _ hr (Ext.refl _ _) (Cx.le.refl _) h2)
  obtain ⟨dst, op, ty, pos, after, guard⟩ := o
  subst ho
  exact run_v h1

theorem ent_op {P : Program} {L L' : List Ob} {G : GFr} {ch : Chain} {o : Oper} {t : TypeId} {m k : Operand} {mv kv v : AV} (ho : o.op = .mapEntry t m k) (hm : opnd G ch m = some mv) (hk : opnd G ch k = some kv)
    (h : EntOk P L t mv kv v L') : OpOk P G ch L o v L' := by
  intro z zn X ms w a K Q hr hf hh hK
  obtain ⟨r, w', h1, h2, h3, h4, h5⟩ := h X ms w _ _ hr (opnd_is hm hf hh) (opnd_is hk hf hh)
  refine OpOk.value (u := r) (w' := w') ?_ (hK _ _ _ h2 h3 h4 h5)
  obtain ⟨dst, op, ty, pos, after, guard⟩ := o
  subst ho
  exact run_v h1

theorem run_u {P : Program} {w w' : World} {s : Sem Unit} (h : s.run P w = .ok () w') : (do s; pure .skip : Sem Next).run P w = .ok .skip w' := by
  simp [h]

theorem sto_op {P : Program} {L L' : List Ob} {G : GFr} {ch : Chain} {o : Oper} {t : TypeId} {m s x : Operand} {mv sv xv v : AV} (ho : o.op = .entryStore t m s x) (hm : opnd G ch m = some mv) (hs : opnd G ch s = some sv)
    (hx : opnd G ch x = some xv) (hv : v.isBot) (h : StoOk P L t mv sv xv L') : OpOk P G ch L o v L' := by
  intro z zn X ms w a K Q hr hf hh hK
  obtain ⟨w', h1, h2, h3, h4⟩ := h X ms w _ _ _ hr (opnd_is hm hf hh) (opnd_is hs hf hh) (opnd_is hx hf hh)
  cases v <;> simp [AV.isBot] at hv
  refine OpOk.skip (w' := w') ?_ (hK _ _ _ h2 h3 h4 (.bot _))
  obtain ⟨dst, op, ty, pos, after, guard⟩ := o
  subst ho
  exact run_u h1

theorem upd_op {P : Program} {L L' : List Ob} {G : GFr} {ch : Chain} {o : Oper} {t : TypeId} {m s x : Operand} {mv sv xv v : AV} (ho : o.op = .mapUpdate t m s x) (hm : opnd G ch m = some mv) (hs : opnd G ch s = some sv)
    (hx : opnd G ch x = some xv) (hv : v.isBot) (h : UpdOk P L t mv sv xv L') : OpOk P G ch L o v L' := by
  intro z zn X ms w a K Q hr hf hh hK
  obtain ⟨w', h1, h2, h3, h4⟩ := h X ms w _ _ _ hr (opnd_is hm hf hh) (opnd_is hs hf hh) (opnd_is hx hf hh)
  cases v <;> simp [AV.isBot] at hv
  refine OpOk.skip (w' := w') ?_ (hK _ _ _ h2 h3 h4 (.bot _))
  obtain ⟨dst, op, ty, pos, after, guard⟩ := o
  subst ho
  exact run_u h1
end Go.TA
