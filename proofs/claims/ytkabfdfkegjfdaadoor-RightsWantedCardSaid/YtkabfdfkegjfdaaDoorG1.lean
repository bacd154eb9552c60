/- A part of the proof: what the functions compute, and that their calls return it. No condition. -/
import Derived.Test.YtkabfdfkegjfdaaDoorT4
import Derived.RangeFuncBound
import Derived.Shelf.Abstract
import Derived.Shelf.RegionOpen
import Derived.WalkKit
import Derived.OwnWalkIn
import Derived.TacticsInMore
import Derived.LoopNIn
import Derived.LoopIn
import Derived.Shelf.Strings.Search3
import Derived.Test.YtkabfdfkegjfdaaDoorProg
import Derived.Shelf.Strconv.AtoiAll
import Derived.Shelf.Strconv.Itoa3
namespace Go.Proofs.YtkabfdfkegjfdaaDoor
open Go Go.TA Go.RowKit Go.Shelf
attribute [local go_sem] Oper.semAt_some
def encS (l : List UInt8) : Value := .string ⟨l.toArray⟩
def leftLen (bs : Nat) (w : World) : Nat := match w.cell? ⟨bs, 0, none⟩ with
  | some (.string s) => s.size
  | _ => 0
theorem leftLen_eq {bs : Nat} {w : World} {l : List UInt8} (h : w.cell? ⟨bs, 0, none⟩ = some (encS l)) : leftLen bs w = l.length := by
  unfold leftLen; rw [h]; simp [encS, ByteArray.size]
theorem roundIn_any {n m : Nat} {P : Program} {l f : Nat} {tmps : Array Value} {assign body : Code} {w : World} {R : Ending → World → Prop} (h : RoundIn Fence.wide n P l f tmps assign body w R) : RoundIn Fence.wide m P l f tmps assign body w R :=
  ⟨h.1, fun c cs _ => h.2 c cs (room_wide _)⟩
theorem splitSeq_seq (hIdx : ∀ (s : ByteArray) (w : World), Calls Tryd.prog 65 #[.string s, .string ⟨#[46]⟩] w fun e w' => e = .returned (.int .i64 (Lib.indexByte s.data.toList 46)) ∧ w' = w)
    {n : Nat} {w : World} {bsep bs bsv : Nat} {l : List UInt8} (h1 : w.cell? ⟨bsep, 0, none⟩ = some (.string ⟨#[46]⟩)) (h2 : w.cell? ⟨bs, 0, none⟩ = some (encS l)) (h2f : w.frozen? ⟨bs, 0, none⟩ = false) (h3 : w.cell? ⟨bsv, 0, none⟩ = some (.int .i64 0))
    (n1 : bsep ≠ bs) (n2 : bsv ≠ bs) (hl : l.length < 4611686018427387904) :
    SeqT Tryd.prog (n + 1) 63 #[.pointer (some ⟨bsep, 0, none⟩), .pointer (some ⟨bs, 0, none⟩), .pointer (some ⟨bsv, 0, none⟩)] encS (fun k => k = bs) [bsep, bs, bsv] w (fun xs => xs = pieces l) (fun ys => ∃ zs, pieces l = ys ++ zs) := by
  intro y J Jx W hsz hcap hJ hJx hY h0
  refine callsIn_of_wp Tryd.func63 rfl trivial ?_ rfl
  simp only [Tryd.ntmps63, List.size_toArray, List.length_cons, List.length_nil, Nat.reduceAdd, Nat.reduceSub, Array.replicate_succ, Array.replicate_zero, List.push_toArray, List.append_toArray, List.nil_append, List.cons_append]
  have hcell : ∀ {A B : World} {k : Nat}, B.heap[k]? = A.heap[k]? → B.cell? ⟨k, 0, none⟩ = A.cell? ⟨k, 0, none⟩ := fun h => by simp [World.cell?, h]
  have hfroz : ∀ {A B : World} {k : Nat}, B.heap[k]? = A.heap[k]? → B.frozen? ⟨k, 0, none⟩ = A.frozen? ⟨k, 0, none⟩ := fun h => by simp [World.frozen?, h]
  have g1 : W.cell? ⟨bsep, 0, none⟩ = some (.string ⟨#[46]⟩) := (hcell (hcap _ (by simp))).trans h1
  have g2 : W.cell? ⟨bs, 0, none⟩ = some (encS l) := (hcell (hcap _ (by simp))).trans h2
  have g2f : W.frozen? ⟨bs, 0, none⟩ = false := (hfroz (hcap _ (by simp))).trans h2f
  have g3 : W.cell? ⟨bsv, 0, none⟩ = some (.int .i64 0) := (hcell (hcap _ (by simp))).trans h3
  gi_wp2
  gi_loopw [7] (fun _ wr => ∃ (pre : List (List UInt8)) (rest : List UInt8), pieces l = pre ++ pieces rest ∧ rest.length ≤ l.length ∧ wr.cell? ⟨bs, 0, none⟩ = some (encS rest) ∧ wr.frozen? ⟨bs, 0, none⟩ = false ∧ wr.cell? ⟨bsep, 0, none⟩ = some (.string ⟨#[46]⟩) ∧ wr.cell? ⟨bsv, 0, none⟩ = some (.int .i64 0) ∧ J pre wr)
    (fun _ wr => leftLen bs wr)
  case atStart =>
    exact ⟨[], l, rfl, Nat.le_refl _, g2, g2f, g1, g3, h0⟩
  case round =>
    obtain ⟨pre, rest, hx, hlr, k2, k2f, k1, k3, hJs⟩ := hrel
    obtain ⟨hp1, hp2⟩ := pieces_index rest
    have hIw := hIdx ⟨rest.toArray⟩ wr
    have hlist : (⟨rest.toArray⟩ : ByteArray).data.toList = rest := by simp
    rw [hlist] at hIw; clear hlist
    simp only [encS] at k2
    by_cases hi : Lib.indexByte rest 46 = -1
    · rw [hi] at hIw
      obtain ⟨fn, tmps, assign, body, hy, hR⟩ := hY pre rest wr ⟨[], by rw [hx, hp1 hi]; simp⟩ hJs
      dsimp only [encS] at hy
      gi_wp2_with (refine ⟨trivial, ?_⟩; gi_at_call 65; refine (callsIn_wide.2 hIw).mono ?_; rintro e w' ⟨rfl, rfl⟩)
      refine (roundIn_any hR).mono ?_
      rintro e W' (⟨rfl, hJ', hk⟩ | ⟨rfl, hJx'⟩)
      · gi_wp2
        go_end0
        exact ⟨⟨_, rfl⟩, .inl ⟨pre ++ [rest], by rw [hx, hp1 hi], hJ'⟩⟩
      · gi_wp2
        go_end0
        exact ⟨⟨_, rfl⟩, .inr ⟨_, hJx'⟩⟩
    · obtain ⟨i0, i1, i2⟩ := hp2 hi
      obtain ⟨m, hm⟩ : ∃ m : Nat, Lib.indexByte rest 46 = m := ⟨(Lib.indexByte rest 46).toNat, by omega⟩
      rw [hm] at hIw i1 i2
      rw [Int.toNat_natCast] at i1 i2
      have e1 : encS (rest.take m) = Value.string ((⟨rest.toArray⟩ : ByteArray).extract 0 m) := by
        unfold encS; congr 1; apply ByteArray.ext; simp [ByteArray.data_extract]
      obtain ⟨fn, tmps, assign, body, hy, hR⟩ := hY pre (rest.take m) wr ⟨pieces (rest.drop (m + 1)), by rw [hx, i2]; simp⟩ hJs
      rw [e1] at hy
      gi_wp2_with (refine ⟨trivial, ?_⟩; gi_at_call 65; refine (callsIn_wide.2 hIw).mono ?_; rintro e w' ⟨rfl, rfl⟩)
      refine (roundIn_any hR).mono ?_
      rintro e W' (⟨rfl, hJ', hk⟩ | ⟨rfl, hJx'⟩)
      · have q1 := (hcell (hk.2 bsep (by simp))).trans k1
        have q2 := (hcell (hk.2 bs (by simp))).trans k2
        have q2f := (hfroz (hk.2 bs (by simp))).trans k2f
        have q3 := (hcell (hk.2 bsv (by simp))).trans k3
        gi_wp2
        have e2 : Value.string ((⟨rest.toArray⟩ : ByteArray).extract (m + 1) rest.length) = encS (rest.drop (m + 1)) := by
          unfold encS; congr 1; apply ByteArray.ext; simp [ByteArray.data_extract]; exact List.take_of_length_le (by simp)
        rw [e2]
        have hc2 := World.cell?_setCell_same' W' ⟨bs, 0, none⟩ (encS (rest.drop (m + 1))) (by rw [q2]; rfl)
        refine ⟨⟨pre ++ [rest.take m], rest.drop (m + 1), ?_, ?_, hc2, ?_, ?_, ?_, ?_⟩, ?_⟩
        · rw [hx, i2, List.append_assoc]; rfl
        · rw [List.length_drop]; omega
        · rw [World.frozen?_setCell]; exact q2f
        · exact (hcell (Below.heap_setCell W' ⟨bs, 0, none⟩ _ bsep n1)).trans q1
        · exact (hcell (Below.heap_setCell W' ⟨bs, 0, none⟩ _ bsv n2)).trans q3
        · exact hJ _ _ _ hJ' ⟨⟨rfl, rfl, rfl⟩, by show W'.heap.size ≤ (W'.heap.modify _ _).size; rw [Array.size_modify]; exact Nat.le_refl _, fun k _ hk => Below.heap_setCell W' ⟨bs, 0, none⟩ _ k hk⟩
        · rw [leftLen_eq hc2, leftLen_eq (l := rest) k2, List.length_drop]; omega
      · gi_wp2
        exact bodyPost_ret (results_none rfl _ _ _) rfl ⟨⟨_, rfl⟩, .inr ⟨_, hJx'⟩⟩
end Go.Proofs.YtkabfdfkegjfdaaDoor
namespace Go.Proofs.YtkabfdfkegjfdaaDoor
open Go Go.TA Go.RowKit Go.Shelf
attribute [local go_sem] Oper.semAt_some
theorem splitSeq_inner (n : Nat) (s : ByteArray) (w : World) : CallsIn Fence.wide (n + 1) Tryd.prog 55 #[.string s, .string ⟨#[46]⟩, .int .i64 0] w fun e w' =>
    e = .returned (.func (.func 63) #[] #[.pointer (some ⟨w.heap.size + 1, 0, none⟩), .pointer (some ⟨w.heap.size, 0, none⟩), .pointer (some ⟨w.heap.size + 2, 0, none⟩)]) ∧
      w' = ((w.alloc (.cells #[.string s] 9)).alloc (.cells #[.string ⟨#[46]⟩] 9)).alloc (.cells #[.int .i64 0] 3) := by
  refine callsIn_of_wp Tryd.func55 rfl trivial ?_ rfl
  simp only [Tryd.ntmps55, List.size_toArray, List.length_cons, List.length_nil, Nat.reduceAdd, Nat.reduceSub, Array.replicate_succ, Array.replicate_zero, List.push_toArray, List.append_toArray, List.nil_append, List.cons_append]
  gi_wp2
  exact bodyPost_ret (results_tmp rfl _ _ _) rfl ⟨rfl, rfl⟩
theorem splitSeq_call (n : Nat) (s : ByteArray) (w : World) : CallsIn Fence.wide (n + 2) Tryd.prog 41 #[.string s, .string ⟨#[46]⟩] w fun e w' =>
    e = .returned (.func (.func 63) #[] #[.pointer (some ⟨w.heap.size + 1, 0, none⟩), .pointer (some ⟨w.heap.size, 0, none⟩), .pointer (some ⟨w.heap.size + 2, 0, none⟩)]) ∧
      w' = ((w.alloc (.cells #[.string s] 9)).alloc (.cells #[.string ⟨#[46]⟩] 9)).alloc (.cells #[.int .i64 0] 3) := by
  refine callsIn_of_wp Tryd.func41 rfl trivial ?_ rfl
  simp only [Tryd.ntmps41, List.size_toArray, List.length_cons, List.length_nil, Nat.reduceAdd, Nat.reduceSub, Array.replicate_succ, Array.replicate_zero, List.push_toArray, List.append_toArray, List.nil_append, List.cons_append]
  gi_wp2
  refine ⟨trivial, ?_⟩
  refine (splitSeq_inner n s w).mono ?_
  rintro e w' ⟨rfl, rfl⟩
  gi_wp2
  exact bodyPost_ret (results_tmp rfl _ _ _) rfl ⟨rfl, rfl⟩
end Go.Proofs.YtkabfdfkegjfdaaDoor
/- The layings of library contracts at this program. No condition. -/
namespace Go.Proofs
open Go.Shelf
def Tryd.lays143_ren : Go.Shelf.Ren := ⟨fun | 143 => 65 | 219 => 75 | 217 => 83 | 225 => 84 | 224 => 85 | 267 => 86 | 266 => 94 | 314 => 95 | n => n, fun | 9 => 9 | 3 => 3 | 4 => 4 | 5 => 5 | 46 => 85 | 146 => 138 | 51 => 135 | n => n, fun | 1 => 4 | n => n⟩
theorem Tryd.lays143 : Go.Proofs.Lays.n143 Tryd.prog Tryd.lays143_ren := {
  mixed := by kernel_rfl
  f143 := Tryd.func65.trans (congrArg some (by kernel_rfl))
  f217 := Tryd.func83.trans (congrArg some (by kernel_rfl))
  f219 := Tryd.func75.trans (congrArg some (by kernel_rfl))
  f224 := Tryd.func85.trans (congrArg some (by kernel_rfl))
  f225 := Tryd.func84.trans (congrArg some (by kernel_rfl))
  f266 := Tryd.func94.trans (congrArg some (by kernel_rfl))
  f267 := Tryd.func86.trans (congrArg some (by kernel_rfl))
  f314 := Tryd.func95.trans (congrArg some (by kernel_rfl))
  t3 := Tryd.underlying3
  a3 := Tryd.isAgg3
  z3 := Tryd.sizeOf3
  v3 := Tryd.zeroValue3
  t4 := Tryd.underlying4
  a4 := Tryd.isAgg4
  z4 := Tryd.sizeOf4
  v4 := Tryd.zeroValue4
  t5 := Tryd.underlying5
  a5 := Tryd.isAgg5
  z5 := Tryd.sizeOf5
  v5 := Tryd.zeroValue5
  t9 := Tryd.underlying9
  a9 := Tryd.isAgg9
  z9 := Tryd.sizeOf9
  v9 := Tryd.zeroValue9
  t46 := Tryd.underlying85
  a46 := Tryd.isAgg85
  z46 := Tryd.sizeOf85
  v46 := Tryd.zeroValue85
  t51 := Tryd.underlying135
  a51 := Tryd.isAgg135
  z51 := Tryd.sizeOf135
  v51 := Tryd.zeroValue135
  t146 := Tryd.underlying138
  a146 := Tryd.isAgg138
  z146 := Tryd.sizeOf138
  v146 := Tryd.zeroValue138
  g1 := by kernel_rfl }
def Tryd.lays172_ren : Go.Shelf.Ren := ⟨fun | 172 => 42 | 244 => 56 | 245 => 57 | 247 => 66 | 279 => 67 | 280 => 68 | 281 => 69 | 282 => 70 | 287 => 76 | 316 => 77 | 171 => 43 | 205 => 78 | 321 => 87 | 322 => 88 | 243 => 58 | 246 => 71 | 283 => 79 | 284 => 80 | 285 => 81 | 286 => 82 | 129 => 90 | 317 => 89 | 318 => 91 | 319 => 92 | 320 => 93 | 337 => 96 | 338 => 97 | n => n, fun | 9 => 9 | 3 => 3 | 75 => 81 | 76 => 82 | 4 => 4 | 5 => 5 | 167 => 102 | 37 => 103 | 0 => 0 | 85 => 104 | 2 => 2 | 168 => 106 | 53 => 111 | 175 => 112 | 46 => 85 | 210 => 116 | 127 => 129 | 145 => 132 | 143 => 130 | 21 => 21 | 171 => 118 | 173 => 121 | 212 => 134 | 51 => 135 | 20 => 20 | 213 => 136 | 232 => 141 | 233 => 142 | 80 => 143 | n => n, fun | 15 => 0 | 16 => 1 | 17 => 5 | 18 => 6 | 19 => 7 | n => n⟩
theorem Tryd.lays172 : Go.Proofs.LaysC.n172 Tryd.prog Tryd.lays172_ren := {
  mixed := by kernel_rfl
  f129 := Tryd.func90.trans (congrArg some (by kernel_rfl))
  f171 := Tryd.func43.trans (congrArg some (by kernel_rfl))
  f172 := Tryd.func42.trans (congrArg some (by kernel_rfl))
  f205 := Tryd.func78.trans (congrArg some (by kernel_rfl))
  f243 := Tryd.func58.trans (congrArg some (by kernel_rfl))
  f244 := Tryd.func56.trans (congrArg some (by kernel_rfl))
  f245 := Tryd.func57.trans (congrArg some (by kernel_rfl))
  f246 := Tryd.func71.trans (congrArg some (by kernel_rfl))
  f247 := Tryd.func66.trans (congrArg some (by kernel_rfl))
  f279 := Tryd.func67.trans (congrArg some (by kernel_rfl))
  f280 := Tryd.func68.trans (congrArg some (by kernel_rfl))
  f281 := Tryd.func69.trans (congrArg some (by kernel_rfl))
  f282 := Tryd.func70.trans (congrArg some (by kernel_rfl))
  f283 := Tryd.func79.trans (congrArg some (by kernel_rfl))
  f284 := Tryd.func80.trans (congrArg some (by kernel_rfl))
  f285 := Tryd.func81.trans (congrArg some (by kernel_rfl))
  f286 := Tryd.func82.trans (congrArg some (by kernel_rfl))
  f287 := Tryd.func76.trans (congrArg some (by kernel_rfl))
  f316 := Tryd.func77.trans (congrArg some (by kernel_rfl))
  f317 := Tryd.func89.trans (congrArg some (by kernel_rfl))
  f318 := Tryd.func91.trans (congrArg some (by kernel_rfl))
  f319 := Tryd.func92.trans (congrArg some (by kernel_rfl))
  f320 := Tryd.func93.trans (congrArg some (by kernel_rfl))
  f321 := Tryd.func87.trans (congrArg some (by kernel_rfl))
  f322 := Tryd.func88.trans (congrArg some (by kernel_rfl))
  f337 := Tryd.func96.trans (congrArg some (by kernel_rfl))
  f338 := Tryd.func97.trans (congrArg some (by kernel_rfl))
  t0 := Tryd.underlying0
  a0 := Tryd.isAgg0
  z0 := Tryd.sizeOf0
  v0 := Tryd.zeroValue0
  t2 := Tryd.underlying2
  a2 := Tryd.isAgg2
  z2 := Tryd.sizeOf2
  v2 := Tryd.zeroValue2
  t3 := Tryd.underlying3
  a3 := Tryd.isAgg3
  z3 := Tryd.sizeOf3
  v3 := Tryd.zeroValue3
  t4 := Tryd.underlying4
  a4 := Tryd.isAgg4
  z4 := Tryd.sizeOf4
  v4 := Tryd.zeroValue4
  t5 := Tryd.underlying5
  a5 := Tryd.isAgg5
  z5 := Tryd.sizeOf5
  v5 := Tryd.zeroValue5
  t9 := Tryd.underlying9
  a9 := Tryd.isAgg9
  z9 := Tryd.sizeOf9
  v9 := Tryd.zeroValue9
  t20 := Tryd.underlying20
  a20 := Tryd.isAgg20
  z20 := Tryd.sizeOf20
  v20 := Tryd.zeroValue20
  t21 := Tryd.underlying21
  a21 := Tryd.isAgg21
  z21 := Tryd.sizeOf21
  v21 := Tryd.zeroValue21
  t37 := Tryd.underlying103
  a37 := Tryd.isAgg103
  z37 := Tryd.sizeOf103
  v37 := Tryd.zeroValue103
  t46 := Tryd.underlying85
  a46 := Tryd.isAgg85
  z46 := Tryd.sizeOf85
  v46 := Tryd.zeroValue85
  t51 := Tryd.underlying135
  a51 := Tryd.isAgg135
  z51 := Tryd.sizeOf135
  v51 := Tryd.zeroValue135
  t53 := Tryd.underlying111
  a53 := Tryd.isAgg111
  z53 := Tryd.sizeOf111
  v53 := Tryd.zeroValue111
  t75 := Tryd.underlying81
  a75 := Tryd.isAgg81
  z75 := Tryd.sizeOf81
  v75 := Tryd.zeroValue81
  t76 := Tryd.underlying82
  a76 := Tryd.isAgg82
  z76 := Tryd.sizeOf82
  v76 := Tryd.zeroValue82
  t85 := Tryd.underlying104
  a85 := Tryd.isAgg104
  z85 := Tryd.sizeOf104
  v85 := Tryd.zeroValue104
  t127 := Tryd.underlying129
  a127 := Tryd.isAgg129
  z127 := Tryd.sizeOf129
  v127 := Tryd.zeroValue129
  t143 := Tryd.underlying130
  a143 := Tryd.isAgg130
  z143 := Tryd.sizeOf130
  v143 := Tryd.zeroValue130
  t145 := Tryd.underlying132
  a145 := Tryd.isAgg132
  z145 := Tryd.sizeOf132
  v145 := Tryd.zeroValue132
  t167 := Tryd.underlying102
  a167 := Tryd.isAgg102
  z167 := Tryd.sizeOf102
  v167 := Tryd.zeroValue102
  t168 := Tryd.underlying106
  a168 := Tryd.isAgg106
  z168 := Tryd.sizeOf106
  v168 := Tryd.zeroValue106
  t171 := Tryd.underlying118
  a171 := Tryd.isAgg118
  z171 := Tryd.sizeOf118
  v171 := Tryd.zeroValue118
  t173 := Tryd.underlying121
  a173 := Tryd.isAgg121
  z173 := Tryd.sizeOf121
  v173 := Tryd.zeroValue121
  t175 := Tryd.underlying112
  a175 := Tryd.isAgg112
  z175 := Tryd.sizeOf112
  v175 := Tryd.zeroValue112
  t210 := Tryd.underlying116
  a210 := Tryd.isAgg116
  z210 := Tryd.sizeOf116
  v210 := Tryd.zeroValue116
  t212 := Tryd.underlying134
  a212 := Tryd.isAgg134
  z212 := Tryd.sizeOf134
  v212 := Tryd.zeroValue134
  t213 := Tryd.underlying136
  a213 := Tryd.isAgg136
  z213 := Tryd.sizeOf136
  t232 := Tryd.underlying141
  a232 := Tryd.isAgg141
  z232 := Tryd.sizeOf141
  v232 := Tryd.zeroValue141
  t233 := Tryd.underlying142
  a233 := Tryd.isAgg142
  z233 := Tryd.sizeOf142
  v233 := Tryd.zeroValue142
  g15 := by kernel_rfl
  g16 := by kernel_rfl
  g17 := by kernel_rfl
  g18 := by kernel_rfl
  g19 := by kernel_rfl
  t80 := Tryd.underlying143
  a80 := Tryd.isAgg143
  z80 := Tryd.sizeOf143
  v80 := Tryd.zeroValue143
  i0 := by kernel_rfl
  i2 := by kernel_rfl
  i3 := by kernel_rfl
  i4 := by kernel_rfl
  i5 := by kernel_rfl
  i9 := by kernel_rfl
  i20 := by kernel_rfl
  i21 := by kernel_rfl
  i37 := by kernel_rfl
  i46 := by kernel_rfl
  i51 := by kernel_rfl
  i53 := by kernel_rfl
  i75 := by kernel_rfl
  i76 := by kernel_rfl
  i80 := by kernel_rfl
  i85 := by kernel_rfl
  i127 := by kernel_rfl
  i143 := by kernel_rfl
  i145 := by kernel_rfl
  i167 := by kernel_rfl
  i168 := by kernel_rfl
  i171 := by kernel_rfl
  i173 := by kernel_rfl
  i175 := by kernel_rfl
  i210 := by kernel_rfl
  i212 := by kernel_rfl
  i232 := by kernel_rfl
  i233 := by kernel_rfl
  m15 := by kernel_rfl
  m16 := by kernel_rfl
  m17 := by kernel_rfl
  m18 := by kernel_rfl
  m19 := by kernel_rfl
  c0 := by kernel_rfl
  c2 := by kernel_rfl
  c3 := by kernel_rfl
  c4 := by kernel_rfl
  c5 := by kernel_rfl
  c9 := by kernel_rfl
  c20 := by kernel_rfl
  c21 := by kernel_rfl
  c37 := by kernel_rfl
  c46 := by kernel_rfl
  c51 := by kernel_rfl
  c53 := by kernel_rfl
  c75 := by kernel_rfl
  c76 := by kernel_rfl
  c80 := by kernel_rfl
  c85 := by kernel_rfl
  c127 := by kernel_rfl
  c143 := by kernel_rfl
  c145 := by kernel_rfl
  c167 := by kernel_rfl
  c168 := by kernel_rfl
  c171 := by kernel_rfl
  c173 := by kernel_rfl
  c175 := by kernel_rfl
  c210 := by kernel_rfl
  c212 := by kernel_rfl
  c213 := by kernel_rfl
  c232 := by kernel_rfl
  c233 := by kernel_rfl }
def Tryd.lays171_ren : Go.Shelf.Ren := ⟨fun | 171 => 43 | 243 => 58 | 246 => 71 | 283 => 79 | 284 => 80 | 285 => 81 | 286 => 82 | 129 => 90 | 317 => 89 | 318 => 91 | 319 => 92 | 320 => 93 | 337 => 96 | 338 => 97 | n => n, fun | 3 => 3 | 9 => 9 | 2 => 2 | 4 => 4 | 171 => 118 | 0 => 0 | 53 => 111 | 37 => 103 | 5 => 5 | 173 => 121 | 212 => 134 | 51 => 135 | 20 => 20 | 213 => 136 | 46 => 85 | 232 => 141 | 233 => 142 | n => n, fun | 17 => 5 | 18 => 6 | 19 => 7 | n => n⟩
theorem Tryd.lays171 : Go.Proofs.Lays.n171 Tryd.prog Tryd.lays171_ren := {
  mixed := by kernel_rfl
  f129 := Tryd.func90.trans (congrArg some (by kernel_rfl))
  f171 := Tryd.func43.trans (congrArg some (by kernel_rfl))
  f243 := Tryd.func58.trans (congrArg some (by kernel_rfl))
  f246 := Tryd.func71.trans (congrArg some (by kernel_rfl))
  f283 := Tryd.func79.trans (congrArg some (by kernel_rfl))
  f284 := Tryd.func80.trans (congrArg some (by kernel_rfl))
  f285 := Tryd.func81.trans (congrArg some (by kernel_rfl))
  f286 := Tryd.func82.trans (congrArg some (by kernel_rfl))
  f317 := Tryd.func89.trans (congrArg some (by kernel_rfl))
  f318 := Tryd.func91.trans (congrArg some (by kernel_rfl))
  f319 := Tryd.func92.trans (congrArg some (by kernel_rfl))
  f320 := Tryd.func93.trans (congrArg some (by kernel_rfl))
  f337 := Tryd.func96.trans (congrArg some (by kernel_rfl))
  f338 := Tryd.func97.trans (congrArg some (by kernel_rfl))
  t0 := Tryd.underlying0
  a0 := Tryd.isAgg0
  z0 := Tryd.sizeOf0
  v0 := Tryd.zeroValue0
  t2 := Tryd.underlying2
  a2 := Tryd.isAgg2
  z2 := Tryd.sizeOf2
  v2 := Tryd.zeroValue2
  t3 := Tryd.underlying3
  a3 := Tryd.isAgg3
  z3 := Tryd.sizeOf3
  v3 := Tryd.zeroValue3
  t4 := Tryd.underlying4
  a4 := Tryd.isAgg4
  z4 := Tryd.sizeOf4
  v4 := Tryd.zeroValue4
  t5 := Tryd.underlying5
  a5 := Tryd.isAgg5
  z5 := Tryd.sizeOf5
  v5 := Tryd.zeroValue5
  t9 := Tryd.underlying9
  a9 := Tryd.isAgg9
  z9 := Tryd.sizeOf9
  v9 := Tryd.zeroValue9
  t20 := Tryd.underlying20
  a20 := Tryd.isAgg20
  z20 := Tryd.sizeOf20
  v20 := Tryd.zeroValue20
  t37 := Tryd.underlying103
  a37 := Tryd.isAgg103
  z37 := Tryd.sizeOf103
  v37 := Tryd.zeroValue103
  t46 := Tryd.underlying85
  a46 := Tryd.isAgg85
  z46 := Tryd.sizeOf85
  v46 := Tryd.zeroValue85
  t51 := Tryd.underlying135
  a51 := Tryd.isAgg135
  z51 := Tryd.sizeOf135
  v51 := Tryd.zeroValue135
  t53 := Tryd.underlying111
  a53 := Tryd.isAgg111
  z53 := Tryd.sizeOf111
  v53 := Tryd.zeroValue111
  t171 := Tryd.underlying118
  a171 := Tryd.isAgg118
  z171 := Tryd.sizeOf118
  v171 := Tryd.zeroValue118
  t173 := Tryd.underlying121
  a173 := Tryd.isAgg121
  z173 := Tryd.sizeOf121
  v173 := Tryd.zeroValue121
  t212 := Tryd.underlying134
  a212 := Tryd.isAgg134
  z212 := Tryd.sizeOf134
  v212 := Tryd.zeroValue134
  t213 := Tryd.underlying136
  a213 := Tryd.isAgg136
  z213 := Tryd.sizeOf136
  t232 := Tryd.underlying141
  a232 := Tryd.isAgg141
  z232 := Tryd.sizeOf141
  v232 := Tryd.zeroValue141
  t233 := Tryd.underlying142
  a233 := Tryd.isAgg142
  z233 := Tryd.sizeOf142
  v233 := Tryd.zeroValue142
  g17 := by kernel_rfl
  g18 := by kernel_rfl
  g19 := by kernel_rfl }
end Go.Proofs
namespace Go.Proofs.YtkabfdfkegjfdaaDoor
open Go Go.TA Go.RowKit
/-! strconv.Atoi, strconv.Itoa, strings.Index -/
noncomputable def F_strconv_Atoi (l : List UInt8) : Option (Int × Bool) := guardP (l.length ≤ 281474976710656) (some (atoiF l))
def V_strconv_Atoi (x : Int × Bool) : AV := .tup [.d (.i .i64 x.1), .err x.2]
def L_strconv_Atoi (_ : Int × Bool) : List Ob := []
theorem F_strconv_Atoi_ok {l : List UInt8} (r : Int × Bool) (h : F_strconv_Atoi l = some r) : CallOk Tryd.prog 42 [.d (.str l)] [] (V_strconv_Atoi r) (L_strconv_Atoi r) := by
  obtain ⟨hl, h⟩ := guardP_some h
  obtain rfl := Option.some.inj h
  refine callOk_atoi (te := Tryd.lays172_ren.t 168) (gs := 0) (gr := 1) (by decide) (by decide) (fun s hs v hv w => ?_) (fun s hs hv hv' ev w h1 h2 => ?_) (fun s hs hv ev w h1 h2 => ?_) hl
  · refine (Any.strconv_Atoi_ok Tryd.lays172 s (by omega) v hv w).mono ?_
    rintro e w' ⟨rfl, (rfl | ⟨t, rfl⟩)⟩
    · exact ⟨rfl, Below.refl _ _⟩
    · exact ⟨rfl, Lib.bytesWorld_below _ _ _⟩
  · refine (Any.strconv_Atoi_syntax Tryd.lays172 s hs (by
      cases hx : Lib.atoiAll s.data.toList with
      | ok v => exact absurd hx (hv v)
      | range => exact absurd hx hv'
      | _ => rfl) ev w h1 h2).mono ?_
    rintro e w' ⟨N, rfl, _, _, hb⟩
    exact ⟨N, rfl, hb⟩
  · refine (Any.strconv_Atoi_range Tryd.lays172 s hs hv ev w h1 h2).mono ?_
    rintro e w' ⟨N, rfl, _, _, hb⟩
    exact ⟨N, rfl, hb⟩
noncomputable def F_strconv_Itoa (n : Int) : Option (List UInt8) := guardP (0 ≤ n ∧ n < 100) (some (Lib.decDigits n.toNat))
def V_strconv_Itoa (x : List UInt8) : AV := .d (.str x)
def L_strconv_Itoa (_ : List UInt8) : List Ob := []
theorem F_strconv_Itoa_ok {n : Int} (r : List UInt8) (h : F_strconv_Itoa n = some r) : CallOk Tryd.prog 43 [.d (.i .i64 n)] [] (V_strconv_Itoa r) (L_strconv_Itoa r) := by
  obtain ⟨hl, h⟩ := guardP_some h
  obtain rfl := Option.some.inj h
  exact callOk_itoa (fun i hi w => Any.strconv_Itoa_small Tryd.lays171 i hi w) hl.1 hl.2
theorem idx103 (s : ByteArray) (w : World) : Calls Tryd.prog 65 #[.string s, .string ⟨#[46]⟩] w fun e w' => e = .returned (.int .i64 (Lib.indexByte s.data.toList 46)) ∧ w' = w := Any.strings_Index_one Tryd.lays143 s 46 w
/-! scripts -/
noncomputable def S68_body (x : List UInt8) (s : List Int) : Scr Tryd.prog (List Int) (Step (List Int) (List Int)) :=
.call (@F_strconv_Atoi_ok x) fun r1 c1 =>
.reg 4 [] [(1, hc c1 [] true)] [.cl 0 c1 [] 3 true] <|
.calld [(bif (bif r1.2 then true else (decide (r1.1 < 1))) then true else (decide (r1.1 > 99))) = false] default (@F_strconv_Itoa_ok r1.1) fun r2 c2 =>
.reg 5 [] [(12, hc c2 [] true)] [.clg 0 [(bif (bif r1.2 then true else (decide (r1.1 < 1))) then true else (decide (r1.1 > 99))) = false] c2 [] 3 true] <|
.ite (bif (bif (bif r1.2 then true else (decide (r1.1 < 1))) then true else (decide (r1.1 > 99))) then true else (!(r2 == x))) (
.reg 6 [] [] [] <|
.sh (A := True) (.pf trivial) [(2, (vp 0))] [(2, (vp 0))] [(Ob.box (AV.full 0 fun _ => DV.b false)), (Ob.box (AV.ref 2 s.length 0 s.length)), (eS 1 (DV.i .i64) s)] [(Ob.box (vl ([] : List Int))), (Ob.box (AV.ref 2 s.length 0 s.length)), (eS 1 (DV.i .i64) s)] (fun _ => (shift_weak (.box _ _ _ _ _ (Nat.ne_of_beq_eq_false rfl) TrV.full (.keep _ _ _ _ (Nat.ne_of_beq_eq_false rfl) (.keep _ _ _ _ (Nat.ne_of_beq_eq_false rfl) (.nil _)))))) (trF_at (k := 0) rfl (TrS.keep _) trF_nil) <|
.ret [] (.ret [])) (
.guard [(s.length + 1) * (2 * 8) ≤ 2 ^ 48] <|
.reg 7 [] [(2, hv (vl ([r1.1] : List Int))), (3, { cast := some (AV.ref 2 ((s ++ ([r1.1] : List Int)).length) 0 ((s ++ ([r1.1] : List Int)).length)), obs := [(2, (eS 1 (DV.i .i64) (s ++ ([r1.1] : List Int))))] })] [.pf (leV_lit (DV.i .i64) ([r1.1] : List Int)), .pf (Eq.refl s.length), .pf (Eq.refl s.length), .pf (p := ∀ k, k < 1 → (AV.d ((DV.i .i64) (([r1.1] : List Int).getD k default))).wd = 1) (fun _ _ => rfl), .ev 0, .pf (leV_app (o := 2) (l := s) (x := ([r1.1] : List Int))), .pf (oLe_app (sz := 1) (e := (DV.i .i64)) (l := s) (x := ([r1.1] : List Int)))] <|
.ret [] (.cont (s ++ ([r1.1] : List Int))))
noncomputable def S68_tail (s : List Int) : Scr Tryd.prog (List Int) (List Int) :=
.ite (decide ((s.length : Int) > 4)) (
.reg 9 [] [] [] <|
.sh (A := True) (.pf trivial) [(2, (vp 0))] [(2, (vp 0))] [(Ob.box (AV.full 0 fun _ => DV.b false)), (Ob.box (AV.ref 2 s.length 0 s.length)), (eS 1 (DV.i .i64) s)] [(Ob.box (vl ([] : List Int))), (Ob.box (AV.ref 2 s.length 0 s.length)), (eS 1 (DV.i .i64) s)] (fun _ => (shift_weak (.box _ _ _ _ _ (Nat.ne_of_beq_eq_false rfl) TrV.full (.keep _ _ _ _ (Nat.ne_of_beq_eq_false rfl) (.keep _ _ _ _ (Nat.ne_of_beq_eq_false rfl) (.nil _)))))) (trF_at (k := 0) rfl (TrS.keep _) trF_nil) <|
.ret [] ([] : List Int)) (
.guard [s.length < 2 ^ 63] <|
.reg 10 [] [] [] <|
.frz 2 (.ev 0) none [] [0, 1] <|
.ret [] s)
/-! the pieces of the body -/
def cL : Code → Code
  | .seq x _ => x
  | _ => .skip
def cR : Code → Code
  | .seq _ y => y
  | _ => .skip
def cI : Code → Code
  | .block _ x => x
  | _ => .skip
def cA : Code → Code
  | .rangeFunc _ _ x _ => x
  | _ => .skip
def cB : Code → Code
  | .rangeFunc _ _ _ y => y
  | _ => .skip
noncomputable def c68 : Code := Tryd.f25.body.getD .skip
noncomputable def r68_0 : Code := cL c68
noncomputable def r68_1 : Code := cL (cR c68)
noncomputable def c68_2 : Code := cR (cR c68)
noncomputable def rf68 : Code := cI (cR (cL c68_2))
theorem c68_eq : Tryd.f25.body = some (.seq r68_0 (.seq r68_1 (.seq (.seq (cL (cL c68_2)) (.block 0 (.rangeFunc (.tmp 8) #[9] (cA rf68) (cB rf68)))) (cR c68_2)))) := by kernel_rfl
theorem body68 (z : Option Nat) (x : List UInt8) (s : List Int) {r : Step (List Int) (List Int)} (hr : (S68_body x s).den = some r) :
    AW z Tryd.prog Tryd.f25.ntmps (cB rf68) (fun e fr L => match e with
      | .normal => ∃ s', r = .cont s' ∧ StLe fr L [] (pLI s')
      | .ret => ∃ y, r = .ret y ∧ ∃ J, L = [.box (.d (eL (.i .i64) y))] ++ J
      | _ => False) [(4, .d (.str x)), (2, vp 0), (3, vp 1)] (pLI s) := pBody (by kernel_rfl) hr
theorem tail68 (s : List Int) {r : List Int} (hr : (S68_tail s).den = some r) :
    AW none Tryd.prog Tryd.f25.ntmps (cR c68_2) (FQ Tryd.prog Tryd.f25 (vl r) []) [(2, vp 0), (3, vp 1)] (pLI s) := pTail (V := fun r => vl r) (Lr := fun _ => []) (by kernel_rfl) hr
end Go.Proofs.YtkabfdfkegjfdaaDoor
