/- A part of the proof: laws over any program of the abstract machine. No condition. -/
import Derived.Test.YteelhiohkbbdhaaGreatDoorTaFreeze
import Derived.ProofKit
import Derived.OpenShut
import Derived.ChangeSlices
import Derived.Below
import Derived.Carry
import Derived.Sort.Row
import Derived.Deep.Slices
namespace Go.TA
open Go Go.ChangeShapes Go.WideShapes Go.ChangeAt Go.RowKit

/-! ## From the reading of arguments to data -/
def noX : Nat → Prop := fun _ => False
theorem rel_start {W : World} (hg : GlobOk (memOf noX [] W)) : Rel noX [] [] W :=
  ⟨rfl, fun b ⟨o, tc, h⟩ => by simp at h, fun b h => h.elim, fun o o' b tc tc' h => by simp at h, fun o obj h => by simp at h, hg⟩

noncomputable def cx0 (W : World) : Cx := cxOf noX [] [] W

theorem mem0 {W : World} {b : Nat} {arr : Array Value} {e : TypeId} {fz : Nat × Nat} (h : W.heap[b]? = some (.cells arr e fz)) : (cx0 W).M b = some arr :=
  memOf_intro (fun h => h) (fun ⟨o, tc, h⟩ => by simp at h) h

theorem cell_heap {W : World} {a : Addr} {v : Value} (h : W.cell? a = some v) : a.spot = none ∧ ∃ c e fr, W.heap[a.block]? = some (.cells c e fr) ∧ c[a.off]? = some v := by
  have hs := World.cell?_spot h
  obtain ⟨b, off, sp⟩ := a
  simp only at hs
  subst hs
  exact ⟨rfl, Go.Sort.cells_of_cell? h⟩

section
variable {H : Type} {enc : TypeId × Value → H} {P : Program} {W : World} {base : Nat} {spare : Nat → Bool} {held : Bool}

theorem ints_read {t e : TypeId} {k : IntKind} {fuel : Nat} {v : Value} {x : DataW H × List MemPlace} (ht : P.underlying t = some (.slice e)) (he : P.underlying e = some (.int k)) (hc : P.cellsOf e = 1)
    (hsl : v.cells.toList = [v]) (h : DataW.trod enc P W base spare held fuel t v.cells.toList = some x) : ∃ l : List Int, AV.IsV (cx0 W) (.d (eL (DV.i k) l)) v ∧ (∀ n ∈ l, (Lit.int k n).wf = true) := by
  rw [hsl] at h
  rcases open_ints ht he hc h with ⟨hcs, _⟩ | ⟨a, len, cap, zs, hcs, _, hl, hm, hz, _, hcell, hw⟩
  · cases hcs
    exact ⟨[], .one _ _ rfl (.d _ _ (.slNil _)), fun n hn => by cases hn⟩
  · cases hcs
    have hlen : len ≤ zs.length := by rw [hz]; split <;> omega
    refine ⟨zs.take len, .one _ _ rfl (.d _ _ ?_), fun n hn => hw n (List.mem_of_mem_take hn)⟩
    have htl : (zs.take len).length = len := by simp; omega
    rcases Nat.eq_zero_or_pos len with h0 | h0
    · subst h0
      exact .slEmpty _ _ _
    · obtain ⟨b, off, sp⟩ := a
      have c0 := cell_heap (hcell 0 (by omega))
      obtain ⟨s0, c, e', fr, hb, _⟩ := c0
      simp [Addr.add] at s0 hb
      subst s0
      unfold eL
      rw [htl]
      refine .sl len _ b off cap 1 c (fun i => [.int k ((zs.take len).getD i default)]) hl (by have := hm; unfold maxLen at this; omega) (mem0 hb) (fun i _ => .i _ _) (fun _ _ => rfl) (fun i hi j hj => ?_)
      obtain rfl : j = 0 := by omega
      have hci := hcell i (by omega)
      rw [add_mk] at hci
      obtain ⟨_, c', e'', fr', hb', hc'⟩ := cell_heap hci
      simp only at hb' hc'
      rw [hb] at hb'
      cases hb'
      have hg : zs.getD i 0 = (zs.take len).getD i default := by
        simp [List.getElem?_take_of_lt hi]
      simp only [Nat.mul_one, Nat.add_zero]
      rw [hc']
      simp [List.getElem?_take_of_lt hi]

theorem int_read {t : TypeId} {k : IntKind} {r : Reach} {b0 : Nat} {v : Value} {d : DataW H} {ps : List MemPlace} (ht : P.underlying t = some (.int k)) (hval : Value.okWide P W r b0 t v)
    (hd : DataW.Trod enc P W base spare held t v d ps) : ∃ n : Int, AV.IsV (cx0 W) (.d (.i k n)) v ∧ (Lit.int k n).wf = true := by
  obtain ⟨n, rfl, _, _, hw⟩ := open_int ht hval hd
  exact ⟨n, mk_i k n, hw⟩
end

/-- The call, in the row's words: nothing that was there has changed, and it returns true. -/
theorem calls_true {P : Program} {f : FuncId} {as : List AV} {us : List Value} {W : World} (h : CallOk P f as [] (.d (.b true)) []) (hg : GlobOk (memOf noX [] W)) (hu : AV.IsVs (cx0 W) as us) :
    Calls P f us.toArray W fun e W' => e = .returned (.bool true) ∧ Below W.heap.size W W' := by
  refine (h noX [] W us (rel_start hg) hu).mono fun e W' ⟨u, ms', h1, h2, h3, h4, h5⟩ => ?_
  refine ⟨by rw [h1, IsV.b h5], h3.out.os, h3.out.tape, h3.out.output, h3.size, fun k hk => (h3.keep k hk (fun ⟨o, tc, e⟩ => by simp at e)).1⟩
end Go.TA

namespace Go.TA
open Go Go.ChangeShapes Go.WideShapes Go.ChangeAt Go.RowKit

/-! ## What an argument's cells are, by its type -/
section
variable {H : Type} (enc : TypeId × Value → H) (P : Program) (W : World) (base : Nat) (spare : Nat → Bool) (held : Bool)

def Reads (t : TypeId) (sz : Nat) {α : Type} (e : α → DV) (ok : α → Prop) : Prop :=
  ∀ (fuel : Nat) (cs : List Value) (x : DataW H × List MemPlace), DataW.trod enc P W base spare held fuel t cs = some x → ∃ a, DV.Is (cx0 W).M (e a) cs ∧ cs.length = sz ∧ ok a

def ReadsL (fs : List Field) (off total : Nat) (Q : List DV → Prop) : Prop :=
  ∀ cs : List Value, cs.length = total → (∀ f ∈ fs, ∃ fuel x, DataW.trod enc P W base spare held fuel f.type ((cs.drop f.offset).take (P.cellsOf f.type)) = some x) → ∃ ds, DV.IsL (cx0 W).M ds (cs.drop off) ∧ Q ds
end

section
variable {H : Type} {enc : TypeId × Value → H} {P : Program} {W : World} {base : Nat} {spare : Nat → Bool} {held : Bool}

theorem reads_int {t : TypeId} {k : IntKind} (ht : P.underlying t = some (.int k)) : Reads enc P W base spare held t 1 (DV.i k) (fun n => (Lit.int k n).wf = true) := fun fuel cs x h => by
  obtain ⟨n, rfl, _, hw⟩ := DataW.trod_int ht h
  exact ⟨n, .i k n, rfl, hw⟩

theorem reads_bool {t : TypeId} (ht : P.underlying t = some .bool) : Reads enc P W base spare held t 1 DV.b (fun _ => True) := fun fuel cs x h => by
  obtain ⟨n, rfl, _⟩ := DataW.trod_bool ht h
  exact ⟨n, .b n, rfl, trivial⟩

theorem reads_str {t : TypeId} (ht : P.underlying t = some .string) : Reads enc P W base spare held t 1 DV.str (fun l => l.length ≤ maxLen) := fun fuel cs x h => by
  obtain ⟨s, rfl, _, hw⟩ := DataW.trod_string ht h
  refine ⟨s.data.toList, ?_, rfl, by simpa using hw⟩
  have : s = ⟨s.data.toList.toArray⟩ := by simp
  rw [this]
  exact .str _

theorem reads_slice {t e : TypeId} {sz : Nat} {α : Type} [Inhabited α] {f : α → DV} {ok : α → Prop} (ht : P.underlying t = some (.slice e)) (hc : P.cellsOf e = sz) (hpos : 0 < sz) (h : Reads enc P W base spare held e sz f ok) :
    Reads enc P W base spare held t 1 (eL f) (fun l => l.length ≤ maxLen ∧ ∀ a ∈ l, ok a) := fun fuel cs x hx => by
  rcases Deep.open_slice ht hx with ⟨rfl, _⟩ | ⟨a, len, cap, m, n, D, Pl, rfl, _, hl, hm, hmm, _, hel⟩
  · exact ⟨[], .slNil _, rfl, by simp, fun a ha => by cases ha⟩
  · have hlm : len ≤ m := by rw [hmm]; split <;> omega
    obtain ⟨A, hA⟩ := Deep.choose_lt (α := α × List Value) (n := len) (p := fun i y => W.cells? base (a.add (i * P.cellsOf e)) (P.cellsOf e) = some y.2 ∧ DV.Is (cx0 W).M (f y.1) y.2 ∧ y.2.length = sz ∧ ok y.1) (fun i hi => by
      obtain ⟨cs', h1, h2⟩ := hel i (by omega)
      obtain ⟨b, b1, b2, b3⟩ := h _ _ _ h2
      exact ⟨(b, cs'), h1, b1, b2, b3⟩)
    refine ⟨(List.range len).map fun i => (A i).1, ?_, rfl, by simp; omega, fun b hb => ?_⟩
    · have hll : ((List.range len).map fun i => (A i).1).length = len := by simp
      unfold eL
      rw [hll]
      rcases Nat.eq_zero_or_pos len with h0 | h0
      · subst h0
        exact .slEmpty _ _ _
      · obtain ⟨b, off, sp⟩ := a
        obtain ⟨_, _, hcell⟩ := World.cells?_some (hA 0 h0).1
        rw [hc] at hcell
        have c0 := hcell 0 hpos
        have l0 := (hA 0 h0).2.2.1
        rw [List.getElem?_eq_getElem (by omega)] at c0
        obtain ⟨s0, c, e', fr, hb, _⟩ := cell_heap c0
        simp [Addr.add] at s0 hb
        subst s0
        refine .sl len _ b off cap sz c (fun i => (A i).2) hl (by have := hm; unfold maxLen at this; omega) (mem0 hb) (fun i hi => ?_) (fun i hi => (hA i hi).2.2.1) (fun i hi j hj => ?_)
        · have : ((List.range len).map fun i => (A i).1).getD i default = (A i).1 := by simp [hi]
          rw [this]
          exact (hA i hi).2.1
        · obtain ⟨_, _, hcell⟩ := World.cells?_some (hA i hi).1
          rw [hc] at hcell
          have ci := hcell j hj
          have li := (hA i hi).2.2.1
          rw [List.getElem?_eq_getElem (by omega)] at ci
          rw [add_mk, add_mk] at ci
          obtain ⟨_, c', e'', fr', hb', hc'⟩ := cell_heap ci
          simp only at hb' hc'
          rw [hb] at hb'
          cases hb'
          rw [hc', List.getElem?_eq_getElem (by omega)]
    · obtain ⟨i, hi, rfl⟩ := List.mem_map.1 hb
      exact (hA i (List.mem_range.1 hi)).2.2.2

theorem readsL_nil {total : Nat} : ReadsL enc P W base spare held [] total total (fun ds => ds = []) := fun cs hl _ =>
  ⟨[], by rw [← hl, List.drop_length]; exact .nil, rfl⟩

theorem readsL_cons {f : Field} {fs : List Field} {off total sz : Nat} {α : Type} {e : α → DV} {ok : α → Prop} {Q : List DV → Prop} (hf : f.offset = off) (hc : P.cellsOf f.type = sz) (h : Reads enc P W base spare held f.type sz e ok)
    (ht : ReadsL enc P W base spare held fs (off + sz) total Q) : ReadsL enc P W base spare held (f :: fs) off total (fun ds => ∃ a ds', ds = e a :: ds' ∧ ok a ∧ Q ds') := fun cs hl hx => by
  obtain ⟨fuel, x, h1⟩ := hx f List.mem_cons_self
  rw [hf, hc] at h1
  obtain ⟨a, a1, a2, a3⟩ := h _ _ _ h1
  obtain ⟨ds, d1, d2⟩ := ht cs hl fun g hg => hx g (List.mem_cons_of_mem _ hg)
  refine ⟨e a :: ds, ?_, a, ds, rfl, a3, d2⟩
  have e1 : cs.drop off = (cs.drop off).take sz ++ cs.drop (off + sz) := by
    conv => lhs; rw [← List.take_append_drop sz (cs.drop off)]
    rw [List.drop_drop]
  rw [e1]
  exact .cons _ _ _ _ a1 d1

theorem reads_struct {t : TypeId} {fs : Array Field} {total : Nat} {α : Type} {e : α → DV} {ok : α → Prop} {Q : List DV → Prop} (ht : P.underlying t = some (.struct fs)) (hc : P.cellsOf t = total) (h : ReadsL enc P W base spare held fs.toList 0 total Q)
    (hQ : ∀ ds, Q ds → ∃ a, DV.agg ds = e a ∧ ok a) : Reads enc P W base spare held t total e ok := fun fuel cs x hx => by
  obtain ⟨xs, n, _, _, hl, hlen, hf⟩ := DataW.trod_struct ht hx
  obtain ⟨ds, d1, d2⟩ := h cs (by rw [hl, hc]) fun f hfm => by
    obtain ⟨i, hi, rfl⟩ := List.getElem_of_mem hfm
    have hi' : i < fs.size := by simpa using hi
    have := hf i fs[i] (by simp [hi'])
    rw [List.getElem?_eq_getElem (by omega)] at this
    exact ⟨n, _, by simpa using this⟩
  obtain ⟨a, a1, a2⟩ := hQ ds d2
  rw [List.drop_zero] at d1
  exact ⟨a, a1 ▸ .agg _ _ d1, by rw [hl, hc], a2⟩

/-- An argument that is one cell. -/
theorem arg_one {t : TypeId} {α : Type} {e : α → DV} {ok : α → Prop} (h : Reads enc P W base spare held t 1 e ok) {v : Value} (hv : v.cells.toList = [v]) (he : ∀ a, (AV.d (e a)).isAgg = false) {d : DataW H} {ps : List MemPlace}
    (hd : DataW.Trod enc P W base spare held t v d ps) : ∃ a, AV.IsV (cx0 W) (.d (e a)) v ∧ ok a := by
  obtain ⟨fuel, hf⟩ := hd
  rw [hv] at hf
  obtain ⟨a, a1, _, a3⟩ := h _ _ _ hf
  exact ⟨a, .one _ _ (he a) (.d _ _ a1), a3⟩

/-- An argument that is a struct. -/
theorem arg_agg {t : TypeId} {sz : Nat} {α : Type} {e : α → DV} {ok : α → Prop} (h : Reads enc P W base spare held t sz e ok) {cs : Array Value} (he : ∀ a, (AV.d (e a)).isAgg = true) {d : DataW H} {ps : List MemPlace}
    (hd : DataW.Trod enc P W base spare held t (.agg cs) d ps) : ∃ a, AV.IsV (cx0 W) (.d (e a)) (.agg cs) ∧ ok a := by
  obtain ⟨fuel, hf⟩ := hd
  obtain ⟨a, a1, _, a3⟩ := h _ _ _ hf
  refine ⟨a, ?_, a3⟩
  have := AV.IsV.agg (c := cx0 W) (.d (e a)) (Value.cells (.agg cs)).toList (he a) (.d _ _ a1)
  simpa [Value.cells] using this

theorem below_all {W' : World} (hl : laidOutB P = true) (hb : Below W.heap.size W W') : ∀ {ts : List TypeId} {vs : List Value} {ds : List (DataW H)} {p : List MemPlace}, (∀ t ∈ ts, P.readableRec t = true ∧ t < P.types.size) →
    DataW.TrodAll enc P W 0 (fun _ => true) true ts vs ds p → (∀ x ∈ p, x.block < W.heap.size) → DataW.TrodAll enc P W' 0 (fun b => decide (b < W.heap.size)) true ts vs ds p
  | [], _, _, _, _, h, _ => by
    obtain ⟨rfl, rfl, rfl⟩ := trodAll_nil h
    rfl
  | t :: ts, _, _, _, ht, h, hx => by
    obtain ⟨v, vs, d, ds, a, b, rfl, rfl, rfl, h1, h2⟩ := trodAll_cons h
    exact trodAll_cons_mk (Below.trod hl (ht t List.mem_cons_self).1 (ht t List.mem_cons_self).2 h1 hb fun x hx' => hx x (List.mem_append_left _ hx'))
      (below_all hl hb (fun t' ht' => ht t' (List.mem_cons_of_mem _ ht')) h2 fun x hx' => hx x (List.mem_append_right _ hx'))

theorem args_of {args : Array Value} {l : List Value} (h : args.toList = l) : args = l.toArray := by rw [← h]
end
end Go.TA
