/- A part of the proof: laws over any program of the abstract machine. No condition. -/
import Derived.Lib.Bytealg
import Derived.Lib.AtoiAll
import Derived.Lib.ItoaNum
import Derived.Test.YteelhiohkbbdhaaGreatDoorTaRange
namespace Go.TA
open Go

/-! ## Codes: numbers from 1 to 99 with dots between them -/
/-- The pieces between the dots. -/
def pieces : List UInt8 → List (List UInt8)
  | [] => [[]]
  | b :: l => if (b == 46) = true then [] :: pieces l else match pieces l with
    | [] => [[b]]
    | p :: ps => (b :: p) :: ps

theorem pieces_cons (b : UInt8) (l : List UInt8) : pieces (b :: l) = if (b == 46) = true then [] :: pieces l else match pieces l with
    | [] => [[b]]
    | p :: ps => (b :: p) :: ps := by rw [pieces]
theorem index_cons (b : UInt8) (l : List UInt8) : Lib.indexByte (b :: l) 46 = if (b == 46) = true then 0 else if (Lib.indexByte l 46 == -1) = true then -1 else Lib.indexByte l 46 + 1 := by rw [Lib.indexByte]

theorem pieces_ne : ∀ l, pieces l ≠ []
  | [] => by simp [pieces]
  | b :: l => by
    unfold pieces
    split
    · simp
    · split <;> simp

theorem pieces_index : ∀ l : List UInt8, (Lib.indexByte l 46 = -1 → pieces l = [l]) ∧
    (Lib.indexByte l 46 ≠ -1 → 0 ≤ Lib.indexByte l 46 ∧ (Lib.indexByte l 46).toNat < l.length ∧ pieces l = l.take (Lib.indexByte l 46).toNat :: pieces (l.drop ((Lib.indexByte l 46).toNat + 1)))
  | [] => ⟨fun _ => rfl, fun h => absurd rfl h⟩
  | b :: l => by
    obtain ⟨h1, h2⟩ := pieces_index l
    rw [pieces_cons, index_cons]
    by_cases hb : (b == 46) = true
    · rw [if_pos hb, if_pos hb]
      exact ⟨fun h => by omega, fun _ => ⟨by omega, by simp, by simp⟩⟩
    · rw [if_neg hb, if_neg hb]
      by_cases hi : Lib.indexByte l 46 = -1
      · rw [hi, h1 hi]
        exact ⟨fun _ => by simp, fun h => absurd (by simp) h⟩
      · obtain ⟨h3, h4, h5⟩ := h2 hi
        rw [if_neg (by simpa using hi)]
        refine ⟨fun h => by omega, fun _ => ⟨by omega, ?_, ?_⟩⟩
        · simp; omega
        · rw [show (Lib.indexByte l 46 + 1).toNat = (Lib.indexByte l 46).toNat + 1 by omega, h5]
          simp

/-- The number of a piece. -/
def pv : List UInt8 → Option Int
  | [d] => if 49 ≤ d.toNat ∧ d.toNat ≤ 57 then some ((d.toNat : Int) - 48) else none
  | [d, e] => if (49 ≤ d.toNat ∧ d.toNat ≤ 57) ∧ 48 ≤ e.toNat ∧ e.toNat ≤ 57 then some (10 * ((d.toNat : Int) - 48) + ((e.toNat : Int) - 48)) else none
  | _ => none

def dec2 (n : Nat) : List UInt8 := if n < 10 then [UInt8.ofNat (48 + n)] else [UInt8.ofNat (48 + n / 10), UInt8.ofNat (48 + n % 10)]
theorem dec2_eq {n : Nat} (h : n < 100) : Lib.decDigits n = dec2 n := by
  unfold dec2
  rw [Lib.decDigits]
  split
  · rfl
  · rw [Lib.decDigits, dif_pos (by omega)]
    rfl

theorem dec2_table : ∀ n : Fin 100, 1 ≤ n.val → pv (dec2 n.val) = some (n.val : Int) ∧ Lib.atoiAll (dec2 n.val) = .ok (n.val : Int) := by decide +kernel

theorem ofNat_toNat (d : UInt8) : UInt8.ofNat d.toNat = d := by simp

theorem pv_dec : ∀ {w : List UInt8} {v : Int}, pv w = some v → ∃ n : Nat, 1 ≤ n ∧ n ≤ 99 ∧ v = n ∧ w = dec2 n
  | [d], v, h => by
    simp only [pv] at h
    split at h
    · rename_i hd
      have h := Option.some.inj h
      refine ⟨d.toNat - 48, by omega, by omega, by omega, ?_⟩
      unfold dec2
      rw [if_pos (by omega), show 48 + (d.toNat - 48) = d.toNat by omega, ofNat_toNat]
    · cases h
  | [d, e], v, h => by
    simp only [pv] at h
    split at h
    · rename_i hd
      have h := Option.some.inj h
      refine ⟨10 * (d.toNat - 48) + (e.toNat - 48), by omega, by omega, by omega, ?_⟩
      unfold dec2
      rw [if_neg (by omega), show 48 + (10 * (d.toNat - 48) + (e.toNat - 48)) / 10 = d.toNat by omega, show 48 + (10 * (d.toNat - 48) + (e.toNat - 48)) % 10 = e.toNat by omega, ofNat_toNat, ofNat_toNat]
    · cases h
  | [], v, h => by cases h
  | _ :: _ :: _ :: _, v, h => by cases h

/-- What the program asks of a piece. -/
theorem pv_good {w : List UInt8} {v : Int} (h : Lib.atoiAll w = .ok v) : (pv w = some v ∧ 1 ≤ v ∧ v ≤ 99 ∧ Lib.decDigits v.toNat = w) ∨ (pv w = none ∧ (v < 1 ∨ v > 99 ∨ Lib.decDigits v.toNat ≠ w)) := by
  cases hp : pv w with
  | none =>
    right
    refine ⟨rfl, ?_⟩
    by_cases h1 : v < 1
    · exact .inl h1
    · by_cases h2 : v > 99
      · exact .inr (.inl h2)
      · refine .inr (.inr fun e => ?_)
        rw [dec2_eq (by omega)] at e
        have := (dec2_table ⟨v.toNat, by omega⟩ (by simp only; omega)).1
        simp only at this
        rw [e, hp] at this
        cases this
  | some u =>
    left
    obtain ⟨n, n1, n2, rfl, rfl⟩ := pv_dec hp
    have := (dec2_table ⟨n, by omega⟩ n1).2
    simp only at this
    rw [this] at h
    cases h
    exact ⟨rfl, by omega, by omega, by rw [Int.toNat_natCast, dec2_eq (by omega)]⟩
theorem pv_bad {w : List UInt8} (h : ∀ v, Lib.atoiAll w ≠ .ok v) : pv w = none := by
  cases hp : pv w with
  | none => rfl
  | some u =>
    obtain ⟨n, n1, n2, rfl, rfl⟩ := pv_dec hp
    exact absurd (dec2_table ⟨n, by omega⟩ n1).2 (h _)

/-- The numbers of the pieces, if all are good. -/
def nums : List (List UInt8) → Option (List Int)
  | [] => some []
  | w :: ws => match pv w with
    | none => none
    | some n => (nums ws).map (n :: ·)
/-- The numbers of a code; none for what is no code. -/
def parts (l : List UInt8) : List Int := match nums (pieces l) with
  | none => []
  | some ns => if ns.length > 4 then [] else ns
end Go.TA

namespace Go.TA
open Go Go.RowKit

/-! ## Library contracts as contracts on objects -/
theorem grow_below {w w' : World} (h : Below w.heap.size w w') : Grow w w' := ⟨h.size, h.block, ⟨h.os, h.tape, h.output⟩⟩

theorem callOk_below {P : Program} {f : FuncId} {args : List AV} {v : AV}
    (h : ∀ (X : Nat → Prop) (ms : Blocks) (w : World) (us : List Value), Rel X ms [] w → AV.IsVs (cxOf X ms [] w) args us → Calls P f us.toArray w fun e w' => ∃ u, e = .returned u ∧ Below w.heap.size w w' ∧ ∀ c, AV.IsV c v u) :
    CallOk P f args [] v [] := fun X ms w us hr hus =>
  (h X ms w us hr hus).mono fun _ _ ⟨u, he, hb, hv⟩ => ⟨u, ms, he, (hr.grow (grow_below hb)).1, (grow_below hb).ext ms, (hr.grow (grow_below hb)).2, hv _⟩

theorem isVs_str {c : Cx} {l : List UInt8} {us : List Value} (h : AV.IsVs c [.d (.str l)] us) : us = [.string ⟨l.toArray⟩] := by
  cases h with
  | cons _ _ u us h1 h2 =>
    cases h2
    rw [IsV.str h1]
theorem isVs_int {c : Cx} {n : Int} {us : List Value} (h : AV.IsVs c [.d (.i .i64 n)] us) : us = [.int .i64 n] := by
  cases h with
  | cons _ _ u us h1 h2 =>
    cases h2
    rw [IsV.i h1]

theorem glob_cell {X : Nat → Prop} {ms : Blocks} {L : List Ob} {w : World} (h : Rel X ms L w) {b : Nat} (hb : b ∈ globs) : ∃ v, w.cell? ⟨b, 0, none⟩ = some v ∧ (v = .nilIface ∨ ∃ te pe, v = .iface te pe) := by
  obtain ⟨v, h1, h2⟩ := h.glob b hb
  obtain ⟨_, _, e, fz, h3⟩ := memOf_some h1
  refine ⟨v, by simp [World.cell?, h3], ?_⟩
  unfold errB at h2
  split at h2
  · exact .inl rfl
  · exact .inr ⟨_, _, rfl⟩
  · cases h2

/-- strconv.Atoi: the number, and whether there is an error. -/
def atoiF (l : List UInt8) : Int × Bool := match Lib.atoiAll l with
  | .ok v => (v, false)
  | .range => (Lib.atoiSat l, true)
  | _ => (0, true)

theorem callOk_atoi {P : Program} {f gs gr : Nat} {te : TypeId} (hgs : gs ∈ globs) (hgr : gr ∈ globs)
    (hok : ∀ (s : ByteArray), s.size ≤ 281474976710656 → ∀ v, Lib.atoiAll s.data.toList = .ok v → ∀ w, Calls P f #[.string s] w fun e w' => e = .returned (.tuple #[.int .i64 v, .nilIface]) ∧ Below w.heap.size w w')
    (hsy : ∀ (s : ByteArray), s.size ≤ 281474976710656 → (∀ v, Lib.atoiAll s.data.toList ≠ .ok v) → Lib.atoiAll s.data.toList ≠ .range → ∀ (ev : Value) (w : World), w.cell? ⟨gs, 0, none⟩ = some ev → (ev = .nilIface ∨ ∃ te pe, ev = .iface te pe) →
      Calls P f #[.string s] w fun e w' => ∃ N, e = .returned (.tuple #[.int .i64 (0), .iface te (.pointer (some ⟨N, 0, none⟩))]) ∧ Below w.heap.size w w')
    (hra : ∀ (s : ByteArray), s.size ≤ 281474976710656 → Lib.atoiAll s.data.toList = .range → ∀ (ev : Value) (w : World), w.cell? ⟨gr, 0, none⟩ = some ev → (ev = .nilIface ∨ ∃ te pe, ev = .iface te pe) →
      Calls P f #[.string s] w fun e w' => ∃ N, e = .returned (.tuple #[.int .i64 (Lib.atoiSat s.data.toList), .iface te (.pointer (some ⟨N, 0, none⟩))]) ∧ Below w.heap.size w w')
    {l : List UInt8} (hl : l.length ≤ 281474976710656) : CallOk P f [.d (.str l)] [] (.tup [.d (.i .i64 (atoiF l).1), .err (atoiF l).2]) [] := by
  refine callOk_below fun X ms w us hr hus => ?_
  obtain rfl := isVs_str hus
  have hd : (⟨l.toArray⟩ : ByteArray).data.toList = l := by simp
  have hsz : (⟨l.toArray⟩ : ByteArray).size ≤ 281474976710656 := by simpa [ByteArray.size] using hl
  have tup : ∀ (c : Cx) (n : Int) (b : Bool) (v : Value), ifB v = some b → AV.IsV c (.tup [.d (.i .i64 n), .err b]) (.tuple #[.int .i64 n, v]) := fun c n b v hv =>
    .tup _ [_, _] (.cons _ _ _ _ (mk_i _ _) (.cons _ _ _ _ (.one _ _ rfl (.err _ _ hv)) .nil))
  unfold atoiF
  cases ha : Lib.atoiAll l with
  | ok v =>
    refine (hok ⟨l.toArray⟩ hsz v (by rw [hd]; exact ha) w).mono ?_
    rintro e w' ⟨rfl, hb⟩
    exact ⟨_, rfl, hb, fun c => tup c _ _ _ rfl⟩
  | range =>
    obtain ⟨ev, h1, h2⟩ := glob_cell hr hgr
    refine (hra ⟨l.toArray⟩ hsz (by rw [hd]; exact ha) ev w h1 h2).mono ?_
    rintro e w' ⟨N, rfl, hb⟩
    rw [hd]
    exact ⟨_, rfl, hb, fun c => tup c _ _ _ rfl⟩
  | _ =>
    obtain ⟨ev, h1, h2⟩ := glob_cell hr hgs
    refine (hsy ⟨l.toArray⟩ hsz (fun v hv => by rw [hd, ha] at hv; cases hv) (fun hv => by rw [hd, ha] at hv; cases hv) ev w h1 h2).mono ?_
    rintro e w' ⟨N, rfl, hb⟩
    exact ⟨_, rfl, hb, fun c => tup c _ _ _ rfl⟩

theorem callOk_itoa {P : Program} {f : Nat} (h : ∀ (i : Nat), i < 100 → ∀ w, Calls P f #[.int .i64 i] w fun e w' => e = .returned (.string ⟨(Lib.decDigits i).toArray⟩) ∧ w' = w)
    {n : Int} (h0 : 0 ≤ n) (h1 : n < 100) : CallOk P f [.d (.i .i64 n)] [] (.d (.str (Lib.decDigits n.toNat))) [] := by
  refine callOk_below fun X ms w us hr hus => ?_
  obtain rfl := isVs_int hus
  have := h n.toNat (by omega) w
  rw [Int.toNat_of_nonneg h0] at this
  refine this.mono ?_
  rintro e w' ⟨rfl, rfl⟩
  exact ⟨_, rfl, Below.refl _ _, fun c => mk_str _⟩

/-! ## What classification.Parts does between rounds -/
def pLI (s : List Int) : List Ob := [.box (.d (eL (.i .i64) ([] : List Int))), .box (.ref 2 s.length 0 s.length), eS 1 (.i .i64) s]

def pHd (fl : Bool) : Hd (List Int) (Step (List Int) (List Int)) where
  chk _ e fr L _ a := match a with
    | .cont s => match e with
      | .normal => stLeq fl fr L [] (pLI s)
      | _ => bad fl
    | .ret x => match e with
      | .ret => eqf fl (L.take 1) [.box (.d (eL (.i .i64) x))]
      | _ => bad fl
    | .brk _ => bad fl
  inj := .ret
  post r e fr L := match e with
    | .normal => ∃ s', r = .cont s' ∧ StLe fr L [] (pLI s')
    | .ret => ∃ y, r = .ret y ∧ ∃ J, L = [.box (.d (eL (.i .i64) y))] ++ J
    | _ => False

def pV (_ : List Int) : AV := .bot
def pL (x : List Int) : List Ob := [.box (.d (eL (.i .i64) x))]

theorem pHd_ok {P : Program} {fn : Func} : HdOk (FRel P fn pV pL) (pHd false) where
  f Ev e fr L ws a h hE := by
    cases a with
    | cont s =>
      cases e with
      | normal => exact gst_of ⟨s, rfl, stLeq_f h⟩
      | _ => exact h.elim
    | brk s => exact h.elim
    | ret x =>
      cases e with
      | ret =>
        have e1 : L.take 1 = [.box (.d (eL (.i .i64) x))] := h
        refine gst_of ⟨x, rfl, L.drop 1, ?_⟩
        conv => lhs; rw [← List.take_append_drop 1 L, e1]
      | _ => exact h.elim
  i x fr L h := by
    obtain ⟨v1, C, J, _, _, _, hL⟩ := h
    exact ⟨x, rfl, J, hL⟩
theorem pHd_t : ∀ Ev e fr L ws a, (pHd true).chk Ev e fr L ws a := by
  intro Ev e fr L ws a
  cases a <;> cases e <;> first | trivial | exact stLeq_t | exact rfl

/-- A round of Parts, out of its script. -/
theorem pBody {P : Program} {fn : Func} {z : Option Nat} {c : Code} {fr : Fr} {L : List Ob} {s : Scr P (List Int) (Step (List Int) (List Int))}
    (h : vc z P fn pV pL false 1000 _ [.c c] (pHd false) [] fr L s = vc z P fn pV pL true 1000 _ [.c c] (pHd true) [] fr L s) {r : Step (List Int) (List Int)} (hr : s.den = some r) :
    AW z P fn.ntmps c (fun e fr L => match e with
      | .normal => ∃ s', r = .cont s' ∧ StLe fr L [] (pLI s')
      | .ret => ∃ y, r = .ret y ∧ ∃ J, L = [.box (.d (eL (.i .i64) y))] ++ J
      | _ => False) fr L := by
  have ht : vc z P fn pV pL true 1000 _ [.c c] (pHd true) [] fr L s := vc_total _ _ _ _ _ _ _ _ pHd_t
  rw [← h] at ht
  exact gst_aw (vc_sound _ _ _ _ _ _ _ _ pHd_ok ht trivial r hr) fun _ _ h => h

/-- What lies behind the loop, out of its script. -/
theorem pTail {P : Program} {fn : Func} {V : List Int → AV} {Lr : List Int → List Ob} {c : Code} {fr : Fr} {L : List Ob} {s : Scr P (List Int) (List Int)}
    (h : vc none P fn V Lr false 1000 _ [.c c] (funHd P fn V Lr false) [] fr L s = vc none P fn V Lr true 1000 _ [.c c] (funHd P fn V Lr true) [] fr L s) {r : List Int} (hr : s.den = some r) :
    AW none P fn.ntmps c (FQ P fn (V r) (Lr r)) fr L := by
  have ht : vc none P fn V Lr true 1000 _ [.c c] (funHd P fn V Lr true) [] fr L s := vc_total _ _ _ _ _ _ _ _ fun Ev e fr L ws a => by cases e <;> first | trivial | exact funChk_t
  rw [← h] at ht
  exact gst_aw (vc_sound _ _ _ _ _ _ _ _ funHd_ok ht trivial r hr) fun _ _ h => h

/-! ## leaving a function with a mark -/
theorem relDrop {X Y : Nat → Prop} {ms : Blocks} {L : List Ob} {w : World} (h : Rel Y ms L w) (hXY : ∀ k, X k → Y k) : Rel X ms L w ∧ (cxOf Y ms L w).le (cxOf X ms L w) := by
  have hM : (memOf Y ms w).le (memOf X ms w) := fun b arr e => by
    obtain ⟨h1, h2, e', fz, h3⟩ := memOf_some e
    exact memOf_intro (fun hx => h1 (hXY b hx)) h2 h3
  have hc : (cxOf Y ms L w).le (cxOf X ms L w) := ⟨hM, Nat.le_refl _, fun _ obj' _ hl _ => ⟨obj', hl, rfl, fun s hs => ⟨s, hs, Nat.le_refl _⟩, fun _ => rfl⟩⟩
  exact ⟨⟨h.len, fun b hb => ⟨(h.lt b hb).1, fun hx => (h.lt b hb).2 (hXY b hx)⟩, fun b hb => h.xlt b (hXY b hb), h.inj, fun o obj ho => (h.obs o obj ho).mono hc rfl fun _ _ _ => rfl, h.glob.mono hM⟩, hc⟩

theorem leaveM {P : Program} {fn : Func} {n : Nat} {X Y : Nat → Prop} {ms ms1 : Blocks} {w W : World} {a : Act} {fr1 : Fr} {L1 : List Ob} {v : AV} {D : Nat}
    (hr : Rel Y ms1 L1 W) (hXY : ∀ k, X k → Y k) (hD : Y D) (hDw : w.heap.size ≤ D) (he : Ext ms w ms1 W) (hc : (cxOf X ms [] w).le (cxOf Y ms1 L1 W)) (hf : FrIs (cxOf Y ms1 L1 W) fr1.up a.tmps)
    (hfr : FR P fn v [] fr1 L1) (hv : v.lt 0 = true) (hd : a.defers = [{ target := .collected D, args := #[] }]) (hk : W.heap[D]? = some (.deferred (some []))) :
    LeavesInM Fence.wide n P fn a.tmps (fun e w' => ∃ u ms', e = .returned u ∧ Rel X ms' [] w' ∧ Ext ms w ms' w' ∧ (cxOf X ms [] w).le (cxOf X ms' [] w') ∧ AV.IsV (cxOf X ms' [] w') v u) a.defers .returning W := by
  rw [hd]
  have htake := run_takeDeferred (P := P) hk
  refine ⟨by simp, .inl ⟨D, _, rfl, htake, ?_⟩⟩
  obtain ⟨W', hW'⟩ : ∃ W', W.putObj D (.deferred none) = W' := ⟨_, rfl⟩
  rw [hW']
  have ht : Turn (fun k => k = D) W W' := by rw [← hW']; exact Turn.put (T := fun k => k = D) rfl _
  obtain ⟨r2, c2⟩ := relTurn (Y := Y) hr ht (fun k hk _ => hk ▸ hD) (fun k hk => .inl hk) (fun k hk => Nat.lt_of_lt_of_le (hr.xlt k hk) ht.size)
  have f2 := hf.mono c2
  obtain ⟨v1, C, J, hres, hC, hle, hL⟩ := hfr
  obtain ⟨u, k1, k2⟩ := resV_ok r2 f2 hres hC
  simp only [List.nil_append] at hL
  subst hL
  have r3 : Rel Y [] [] W' := Rel.forget (L := []) (J := L1) r2 (fun o obj ho => by simp at ho)
  have c3 : (cxOf Y ms1 L1 W').cut (cxOf Y [] [] W') 0 := cut_of (L := []) (J := L1)
  obtain ⟨r4, c4⟩ := relDrop r3 hXY
  refine ⟨u, k1, u, [], rfl, r4, ⟨Nat.le_trans he.size ht.size, fun b hb ho => ?_, he.out.trans ht.out⟩, ?_, ?_⟩
  · obtain ⟨h1, _⟩ := he.keep b hb ho
    refine ⟨(ht.same b (Nat.lt_of_lt_of_le hb he.size) (fun e => by omega)).trans h1, fun ⟨o, tc, h⟩ => by simp at h⟩
  · exact ⟨hc.M.trans (c2.M.trans (c3.M.trans c4.M)), Nat.le_refl _, fun o obj' ho => by simp [cxOf] at ho⟩
  · exact ((hle _ _ k2).cut c3 hv).mono c4
end Go.TA

namespace Go.TA
open Go

theorem pieces_len : ∀ (l : List UInt8), (pieces l).length ≤ l.length + 1 ∧ ∀ x ∈ pieces l, x.length ≤ l.length
  | [] => by simp [pieces]
  | b :: l => by
    obtain ⟨h1, h2⟩ := pieces_len l
    rw [pieces_cons]
    split
    · refine ⟨by simp; omega, fun x hx => ?_⟩
      rcases List.mem_cons.1 hx with rfl | hx
      · simp
      · have := h2 x hx; simp; omega
    · cases hp : pieces l with
      | nil => exact absurd hp (pieces_ne l)
      | cons p ps =>
        rw [hp] at h1 h2
        simp only
        refine ⟨by simp at h1 ⊢; omega, fun x hx => ?_⟩
        rcases List.mem_cons.1 hx with rfl | hx
        · have := h2 p (by simp); simp; omega
        · have := h2 x (by simp [hx]); simp; omega

/-- A loop over the pieces, each of whose rounds adds a number or returns nothing. -/
theorem foldR_nums {step : List UInt8 → List Int → Option (Step (List Int) (List Int))} {B : Nat}
    (hstep : ∀ x s, x.length ≤ B → s.length ≤ B → step x s = some (match pv x with
      | none => .ret []
      | some n => .cont (s ++ [n]))) : ∀ (ws : List (List UInt8)) (s : List Int), (∀ x ∈ ws, x.length ≤ B) → s.length + ws.length ≤ B + 1 →
    foldR step ws s = some (match nums ws with
      | none => .ret []
      | some ns => .next (s ++ ns))
  | [], s, _, _ => by simp [foldR, nums]
  | x :: ws, s, hx, hl => by
    simp only [List.length_cons] at hl
    simp only [foldR, hstep x s (hx x (by simp)) (by omega), nums]
    cases pv x with
    | none => rfl
    | some n =>
      simp only
      rw [foldR_nums hstep ws (s ++ [n]) (fun y hy => hx y (by simp [hy])) (by simp; omega)]
      cases nums ws with
      | none => rfl
      | some ns => simp
end Go.TA
