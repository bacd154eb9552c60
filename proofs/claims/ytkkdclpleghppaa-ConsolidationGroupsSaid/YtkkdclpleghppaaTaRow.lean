/- A part of the proof: laws over any program of the abstract machine. No condition. -/
import Derived.Test.YtkkdclpleghppaaTaFreeze
import Derived.ProofKit
import Derived.OpenShut
import Derived.ChangeSlices
import Derived.Below
import Derived.Carry
import Derived.Sort.Row
namespace Go.TA
open Go Go.ChangeShapes Go.WideShapes Go.ChangeAt Go.RowKit

/-! ## From the reading of arguments to data -/
def noX : Nat → Prop := fun _ => False
theorem rel_start (W : World) : Rel noX [] [] W :=
  ⟨rfl, fun b ⟨o, tc, h⟩ => by simp at h, fun b h => h.elim, fun o o' b tc tc' h => by simp at h, fun o obj h => by simp at h⟩

noncomputable def cx0 (W : World) : Cx := cxOf noX [] [] W

theorem mem0 {W : World} {b : Nat} {arr : Array Value} {e : TypeId} {fz : Nat × Nat} (h : W.heap[b]? = some (.cells arr e fz)) : (cx0 W).M b = some arr :=
  memOf_intro (fun h => h) (fun ⟨o, tc, h⟩ => by simp at h) h

theorem cell_heap {W : World} {a : Addr} {v : Value} (h : W.cell? a = some v) : a.spot = none ∧ ∃ c e fr, W.heap[a.block]? = some (.cells c e fr) ∧ c[a.off]? = some v := by
  have hs := World.cell?_spot h
  obtain ⟨b, off, sp⟩ := a
  simp only at hs
  subst hs
  exact ⟨rfl, Go.Sort.cells_of_cell? h⟩

section
variable {H : Type} {enc : TypeId × Value → H} {P : Program} {W : World} {base : Nat} {spare : Nat → Bool} {held : Bool}

theorem ints_read {t e : TypeId} {k : IntKind} {fuel : Nat} {v : Value} {x : DataW H × List MemPlace} (ht : P.underlying t = some (.slice e)) (he : P.underlying e = some (.int k)) (hc : P.cellsOf e = 1)
    (hsl : v.cells.toList = [v]) (h : DataW.trod enc P W base spare held fuel t v.cells.toList = some x) : ∃ l : List Int, AV.IsV (cx0 W) (.d (eL (DV.i k) l)) v ∧ (∀ n ∈ l, (Lit.int k n).wf = true) := by
  rw [hsl] at h
  rcases open_ints ht he hc h with ⟨hcs, _⟩ | ⟨a, len, cap, zs, hcs, _, hl, hm, hz, _, hcell, hw⟩
  · cases hcs
    exact ⟨[], .one _ _ rfl (.d _ _ (.slNil _)), fun n hn => by cases hn⟩
  · cases hcs
    have hlen : len ≤ zs.length := by rw [hz]; split <;> omega
    refine ⟨zs.take len, .one _ _ rfl (.d _ _ ?_), fun n hn => hw n (List.mem_of_mem_take hn)⟩
    have htl : (zs.take len).length = len := by simp; omega
    rcases Nat.eq_zero_or_pos len with h0 | h0
    · subst h0
      exact .slEmpty _ _ _
    · obtain ⟨b, off, sp⟩ := a
      have c0 := cell_heap (hcell 0 (by omega))
      obtain ⟨s0, c, e', fr, hb, _⟩ := c0
      simp [Addr.add] at s0 hb
      subst s0
      unfold eL
      rw [htl]
      refine .sl len _ b off cap 1 c (fun i => [.int k ((zs.take len).getD i default)]) hl (by have := hm; unfold maxLen at this; omega) (mem0 hb) (fun i _ => .i _ _) (fun _ _ => rfl) (fun i hi j hj => ?_)
      obtain rfl : j = 0 := by omega
      have hci := hcell i (by omega)
      rw [add_mk] at hci
      obtain ⟨_, c', e'', fr', hb', hc'⟩ := cell_heap hci
      simp only at hb' hc'
      rw [hb] at hb'
      cases hb'
      have hg : zs.getD i 0 = (zs.take len).getD i default := by
        simp [List.getElem?_take_of_lt hi]
      simp only [Nat.mul_one, Nat.add_zero]
      rw [hc']
      simp [List.getElem?_take_of_lt hi]

theorem int_read {t : TypeId} {k : IntKind} {r : Reach} {b0 : Nat} {v : Value} {d : DataW H} {ps : List MemPlace} (ht : P.underlying t = some (.int k)) (hval : Value.okWide P W r b0 t v)
    (hd : DataW.Trod enc P W base spare held t v d ps) : ∃ n : Int, AV.IsV (cx0 W) (.d (.i k n)) v ∧ (Lit.int k n).wf = true := by
  obtain ⟨n, rfl, _, _, hw⟩ := open_int ht hval hd
  exact ⟨n, mk_i k n, hw⟩
end

/-- The call, in the row's words: nothing that was there has changed, and it returns true. -/
theorem calls_true {P : Program} {f : FuncId} {as : List AV} {us : List Value} {W : World} (h : CallOk P f as [] (.d (.b true)) []) (hu : AV.IsVs (cx0 W) as us) :
    Calls P f us.toArray W fun e W' => e = .returned (.bool true) ∧ Below W.heap.size W W' := by
  refine (h noX [] W us (rel_start W) hu).mono fun e W' ⟨u, ms', h1, h2, h3, h4, h5⟩ => ?_
  refine ⟨by rw [h1, IsV.b h5], h3.out.os, h3.out.tape, h3.out.output, h3.size, fun k hk => (h3.keep k hk (fun ⟨o, tc, e⟩ => by simp at e)).1⟩
end Go.TA
