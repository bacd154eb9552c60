/- A part of the proof: what the functions compute, and that their calls return it. No condition. -/
import Derived.Test.YteelhiohkbbdhaaGreatDoorTaRange
import Derived.Test.YteelhiohkbbdhaaGreatDoorTaParts
import Derived.RangeFuncBound
import Derived.Shelf.Abstract
import Derived.Shelf.RegionOpen
import Derived.WalkKit
import Derived.OwnWalkIn
import Derived.TacticsInMore
import Derived.LoopNIn
import Derived.LoopIn
import Derived.Shelf.Strings.Search3
import Derived.Test.YteelhiohkbbdhaaGreatDoorProg
namespace Go.Proofs.YteelhiohkbbdhaaGreatDoor
open Go Go.TA Go.RowKit Go.Shelf
attribute [local go_sem] Oper.semAt_some

def encS (l : List UInt8) : Value := .string ⟨l.toArray⟩

def leftLen (bs : Nat) (w : World) : Nat := match w.cell? ⟨bs, 0, none⟩ with
  | some (.string s) => s.size
  | _ => 0
theorem leftLen_eq {bs : Nat} {w : World} {l : List UInt8} (h : w.cell? ⟨bs, 0, none⟩ = some (encS l)) : leftLen bs w = l.length := by
  unfold leftLen; rw [h]; simp [encS, ByteArray.size]

theorem roundIn_any {n m : Nat} {P : Program} {l f : Nat} {tmps : Array Value} {assign body : Code} {w : World} {R : Ending → World → Prop} (h : RoundIn Fence.wide n P l f tmps assign body w R) : RoundIn Fence.wide m P l f tmps assign body w R :=
  ⟨h.1, fun c cs _ => h.2 c cs (room_wide _)⟩

theorem splitSeq_seq (hIdx : ∀ (s : ByteArray) (w : World), Calls Tryz.prog 103 #[.string s, .string ⟨#[46]⟩] w fun e w' => e = .returned (.int .i64 (Lib.indexByte s.data.toList 46)) ∧ w' = w)
    {n : Nat} {w : World} {bsep bs bsv : Nat} {l : List UInt8} (h1 : w.cell? ⟨bsep, 0, none⟩ = some (.string ⟨#[46]⟩)) (h2 : w.cell? ⟨bs, 0, none⟩ = some (encS l)) (h2f : w.frozen? ⟨bs, 0, none⟩ = false) (h3 : w.cell? ⟨bsv, 0, none⟩ = some (.int .i64 0))
    (n1 : bsep ≠ bs) (n2 : bsv ≠ bs) (hl : l.length < 4611686018427387904) :
    SeqT Tryz.prog (n + 1) 101 #[.pointer (some ⟨bsep, 0, none⟩), .pointer (some ⟨bs, 0, none⟩), .pointer (some ⟨bsv, 0, none⟩)] encS (fun k => k = bs) [bsep, bs, bsv] w (fun xs => xs = pieces l) (fun ys => ∃ zs, pieces l = ys ++ zs) := by
  intro y J Jx W hsz hcap hJ hJx hY h0
  refine callsIn_of_wp Tryz.func101 rfl trivial ?_ rfl
  simp only [Tryz.ntmps101, List.size_toArray, List.length_cons, List.length_nil, Nat.reduceAdd, Nat.reduceSub, Array.replicate_succ, Array.replicate_zero, List.push_toArray, List.append_toArray, List.nil_append, List.cons_append]
  have hcell : ∀ {A B : World} {k : Nat}, B.heap[k]? = A.heap[k]? → B.cell? ⟨k, 0, none⟩ = A.cell? ⟨k, 0, none⟩ := fun h => by simp [World.cell?, h]
  have hfroz : ∀ {A B : World} {k : Nat}, B.heap[k]? = A.heap[k]? → B.frozen? ⟨k, 0, none⟩ = A.frozen? ⟨k, 0, none⟩ := fun h => by simp [World.frozen?, h]
  have g1 : W.cell? ⟨bsep, 0, none⟩ = some (.string ⟨#[46]⟩) := (hcell (hcap _ (by simp))).trans h1
  have g2 : W.cell? ⟨bs, 0, none⟩ = some (encS l) := (hcell (hcap _ (by simp))).trans h2
  have g2f : W.frozen? ⟨bs, 0, none⟩ = false := (hfroz (hcap _ (by simp))).trans h2f
  have g3 : W.cell? ⟨bsv, 0, none⟩ = some (.int .i64 0) := (hcell (hcap _ (by simp))).trans h3
  gi_wp2
  gi_loopw [7] (fun _ wr => ∃ (pre : List (List UInt8)) (rest : List UInt8), pieces l = pre ++ pieces rest ∧ rest.length ≤ l.length ∧ wr.cell? ⟨bs, 0, none⟩ = some (encS rest) ∧ wr.frozen? ⟨bs, 0, none⟩ = false ∧ wr.cell? ⟨bsep, 0, none⟩ = some (.string ⟨#[46]⟩) ∧ wr.cell? ⟨bsv, 0, none⟩ = some (.int .i64 0) ∧ J pre wr)
    (fun _ wr => leftLen bs wr)
  case atStart =>
    exact ⟨[], l, rfl, Nat.le_refl _, g2, g2f, g1, g3, h0⟩
  case round =>
    obtain ⟨pre, rest, hx, hlr, k2, k2f, k1, k3, hJs⟩ := hrel
    obtain ⟨hp1, hp2⟩ := pieces_index rest
    have hIw := hIdx ⟨rest.toArray⟩ wr
    have hlist : (⟨rest.toArray⟩ : ByteArray).data.toList = rest := by simp
    rw [hlist] at hIw; clear hlist
    simp only [encS] at k2
    by_cases hi : Lib.indexByte rest 46 = -1
    · rw [hi] at hIw
      obtain ⟨fn, tmps, assign, body, hy, hR⟩ := hY pre rest wr ⟨[], by rw [hx, hp1 hi]; simp⟩ hJs
      dsimp only [encS] at hy
      gi_wp2_with (refine ⟨trivial, ?_⟩; gi_at_call 103; refine (callsIn_wide.2 hIw).mono ?_; rintro e w' ⟨rfl, rfl⟩)
      refine (roundIn_any hR).mono ?_
      rintro e W' (⟨rfl, hJ', hk⟩ | ⟨rfl, hJx'⟩)
      · gi_wp2
        go_end0
        exact ⟨⟨_, rfl⟩, .inl ⟨pre ++ [rest], by rw [hx, hp1 hi], hJ'⟩⟩
      · gi_wp2
        go_end0
        exact ⟨⟨_, rfl⟩, .inr ⟨_, hJx'⟩⟩
    · obtain ⟨i0, i1, i2⟩ := hp2 hi
      obtain ⟨m, hm⟩ : ∃ m : Nat, Lib.indexByte rest 46 = m := ⟨(Lib.indexByte rest 46).toNat, by omega⟩
      rw [hm] at hIw i1 i2
      rw [Int.toNat_natCast] at i1 i2
      have e1 : encS (rest.take m) = Value.string ((⟨rest.toArray⟩ : ByteArray).extract 0 m) := by
        unfold encS; congr 1; apply ByteArray.ext; simp [ByteArray.data_extract]
      obtain ⟨fn, tmps, assign, body, hy, hR⟩ := hY pre (rest.take m) wr ⟨pieces (rest.drop (m + 1)), by rw [hx, i2]; simp⟩ hJs
      rw [e1] at hy
      gi_wp2_with (refine ⟨trivial, ?_⟩; gi_at_call 103; refine (callsIn_wide.2 hIw).mono ?_; rintro e w' ⟨rfl, rfl⟩)
      refine (roundIn_any hR).mono ?_
      rintro e W' (⟨rfl, hJ', hk⟩ | ⟨rfl, hJx'⟩)
      · have q1 := (hcell (hk.2 bsep (by simp))).trans k1
        have q2 := (hcell (hk.2 bs (by simp))).trans k2
        have q2f := (hfroz (hk.2 bs (by simp))).trans k2f
        have q3 := (hcell (hk.2 bsv (by simp))).trans k3
        gi_wp2
        have e2 : Value.string ((⟨rest.toArray⟩ : ByteArray).extract (m + 1) rest.length) = encS (rest.drop (m + 1)) := by
          unfold encS; congr 1; apply ByteArray.ext; simp [ByteArray.data_extract]; exact List.take_of_length_le (by simp)
        rw [e2]
        have hc2 := World.cell?_setCell_same' W' ⟨bs, 0, none⟩ (encS (rest.drop (m + 1))) (by rw [q2]; rfl)
        refine ⟨⟨pre ++ [rest.take m], rest.drop (m + 1), ?_, ?_, hc2, ?_, ?_, ?_, ?_⟩, ?_⟩
        · rw [hx, i2, List.append_assoc]; rfl
        · rw [List.length_drop]; omega
        · rw [World.frozen?_setCell]; exact q2f
        · exact (hcell (Below.heap_setCell W' ⟨bs, 0, none⟩ _ bsep n1)).trans q1
        · exact (hcell (Below.heap_setCell W' ⟨bs, 0, none⟩ _ bsv n2)).trans q3
        · exact hJ _ _ _ hJ' ⟨⟨rfl, rfl, rfl⟩, by show W'.heap.size ≤ (W'.heap.modify _ _).size; rw [Array.size_modify]; exact Nat.le_refl _, fun k _ hk => Below.heap_setCell W' ⟨bs, 0, none⟩ _ k hk⟩
        · rw [leftLen_eq hc2, leftLen_eq (l := rest) k2, List.length_drop]; omega
      · gi_wp2
        exact bodyPost_ret (results_none rfl _ _ _) rfl ⟨⟨_, rfl⟩, .inr ⟨_, hJx'⟩⟩
end Go.Proofs.YteelhiohkbbdhaaGreatDoor

namespace Go.Proofs.YteelhiohkbbdhaaGreatDoor
open Go Go.TA Go.RowKit Go.Shelf
attribute [local go_sem] Oper.semAt_some

theorem splitSeq_inner (n : Nat) (s : ByteArray) (w : World) : CallsIn Fence.wide (n + 1) Tryz.prog 97 #[.string s, .string ⟨#[46]⟩, .int .i64 0] w fun e w' =>
    e = .returned (.func (.func 101) #[] #[.pointer (some ⟨w.heap.size + 1, 0, none⟩), .pointer (some ⟨w.heap.size, 0, none⟩), .pointer (some ⟨w.heap.size + 2, 0, none⟩)]) ∧
      w' = ((w.alloc (.cells #[.string s] 9)).alloc (.cells #[.string ⟨#[46]⟩] 9)).alloc (.cells #[.int .i64 0] 3) := by
  refine callsIn_of_wp Tryz.func97 rfl trivial ?_ rfl
  simp only [Tryz.ntmps97, List.size_toArray, List.length_cons, List.length_nil, Nat.reduceAdd, Nat.reduceSub, Array.replicate_succ, Array.replicate_zero, List.push_toArray, List.append_toArray, List.nil_append, List.cons_append]
  gi_wp2
  exact bodyPost_ret (results_tmp rfl _ _ _) rfl ⟨rfl, rfl⟩

theorem splitSeq_call (n : Nat) (s : ByteArray) (w : World) : CallsIn Fence.wide (n + 2) Tryz.prog 90 #[.string s, .string ⟨#[46]⟩] w fun e w' =>
    e = .returned (.func (.func 101) #[] #[.pointer (some ⟨w.heap.size + 1, 0, none⟩), .pointer (some ⟨w.heap.size, 0, none⟩), .pointer (some ⟨w.heap.size + 2, 0, none⟩)]) ∧
      w' = ((w.alloc (.cells #[.string s] 9)).alloc (.cells #[.string ⟨#[46]⟩] 9)).alloc (.cells #[.int .i64 0] 3) := by
  refine callsIn_of_wp Tryz.func90 rfl trivial ?_ rfl
  simp only [Tryz.ntmps90, List.size_toArray, List.length_cons, List.length_nil, Nat.reduceAdd, Nat.reduceSub, Array.replicate_succ, Array.replicate_zero, List.push_toArray, List.append_toArray, List.nil_append, List.cons_append]
  gi_wp2
  refine ⟨trivial, ?_⟩
  refine (splitSeq_inner n s w).mono ?_
  rintro e w' ⟨rfl, rfl⟩
  gi_wp2
  exact bodyPost_ret (results_tmp rfl _ _ _) rfl ⟨rfl, rfl⟩
end Go.Proofs.YteelhiohkbbdhaaGreatDoor
