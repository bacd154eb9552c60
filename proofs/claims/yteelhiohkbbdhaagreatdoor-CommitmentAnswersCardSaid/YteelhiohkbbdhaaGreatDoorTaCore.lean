/- A part of the proof: laws over any program of the abstract machine. No condition. -/
import Derived.Calls
import Derived.Orders
import Derived.KernelRfl
import Derived.WalkKit
import Derived.WalkLawsBesides
namespace Go.TA
open Go

/-- Blocks of the library's variables that contracts read: each holds an error or none. (Told anew for each program.) -/
def globs : List Nat := [0, 1]
end Go.TA

namespace Go.TA
open Go

/-- Data: what a value is once and for all (no address, no capacity). -/
inductive DV where
  | b (x : Bool)
  | i (k : IntKind) (n : Int)
  | str (l : List UInt8)
  | lit (v : Value)
  | agg (fs : List DV)
  | arr (sz n : Nat) (f : Nat → DV)
  | sl (n : Nat) (f : Nat → DV)
  deriving Inhabited

/-- Immutable memory: the cells of the blocks that nobody writes. -/
abbrev Mem := Nat → Option (Array Value)

def leafB : Value → Bool
  | .pointer none | .map none | .nilFunc | .nilIface | .chan none => true
  | _ => false

mutual
inductive DV.Is (M : Mem) : DV → List Value → Prop
  | b (x : Bool) : DV.Is M (.b x) [.bool x]
  | i (k : IntKind) (n : Int) : DV.Is M (.i k n) [.int k n]
  | str (l : List UInt8) : DV.Is M (.str l) [.string ⟨l.toArray⟩]
  | lit (v : Value) (h : leafB v = true) : DV.Is M (.lit v) [v]
  | agg (fs : List DV) (cs : List Value) (h : DV.IsL M fs cs) : DV.Is M (.agg fs) cs
  | arr (sz n : Nat) (f : Nat → DV) (cs : Nat → List Value) (h : ∀ i, i < n → DV.Is M (f i) (cs i)) (hl : ∀ i, i < n → (cs i).length = sz) :
      DV.Is M (.arr sz n f) ((List.range n).flatMap cs)
  | slNil (f : Nat → DV) : DV.Is M (.sl 0 f) [.slice none 0 0]
  | slEmpty (f : Nat → DV) (a : Addr) (cap : Nat) : DV.Is M (.sl 0 f) [.slice (some a) 0 cap]
  | sl (n : Nat) (f : Nat → DV) (b off cap sz : Nat) (arr : Array Value) (cs : Nat → List Value) (h1 : n ≤ cap) (h2 : n < 2 ^ 63) (hb : M b = some arr)
      (h : ∀ i, i < n → DV.Is M (f i) (cs i)) (hl : ∀ i, i < n → (cs i).length = sz)
      (hc : ∀ i, i < n → ∀ j, j < sz → arr[off + i * sz + j]? = (cs i)[j]?) : DV.Is M (.sl n f) [.slice (some ⟨b, off, none⟩) n cap]
inductive DV.IsL (M : Mem) : List DV → List Value → Prop
  | nil : DV.IsL M [] []
  | cons (x : DV) (xs : List DV) (c cs : List Value) (h : DV.Is M x c) (ht : DV.IsL M xs cs) : DV.IsL M (x :: xs) (c ++ cs)
end

def Mem.le (M M' : Mem) : Prop := ∀ b arr, M b = some arr → M' b = some arr

theorem Mem.le.trans {M M' M'' : Mem} (h : M.le M') (h' : M'.le M'') : M.le M'' := fun b a e => h' b a (h b a e)

mutual
theorem DV.Is.mono {M M' : Mem} (hM : M.le M') {x : DV} {cs : List Value} : DV.Is M x cs → DV.Is M' x cs
  | .b x => .b x
  | .i k n => .i k n
  | .str l => .str l
  | .lit v h => .lit v h
  | .agg fs cs h => .agg fs cs (DV.IsL.mono hM h)
  | .arr sz n f cs h hl => .arr sz n f cs (fun i hi => DV.Is.mono hM (h i hi)) hl
  | .slNil f => .slNil f
  | .slEmpty f a cap => .slEmpty f a cap
  | .sl n f bk off cap sz ar cs h1 h2 hb h hl hc => .sl n f bk off cap sz ar cs h1 h2 (hM _ _ hb) (fun i hi => DV.Is.mono hM (h i hi)) hl hc
theorem DV.IsL.mono {M M' : Mem} (hM : M.le M') {xs : List DV} {cs : List Value} : DV.IsL M xs cs → DV.IsL M' xs cs
  | .nil => .nil
  | .cons x xs c cs h ht => .cons x xs c cs (DV.Is.mono hM h) (DV.IsL.mono hM ht)
end

/-! How many cells -/
mutual
def DV.wd : DV → Nat
  | .agg fs => DV.wdL fs
  | .arr sz n _ => n * sz
  | _ => 1
def DV.wdL : List DV → Nat
  | [] => 0
  | x :: xs => x.wd + DV.wdL xs
end

theorem flatMap_range_length (n sz : Nat) (cs : Nat → List Value) (hl : ∀ i, i < n → (cs i).length = sz) : ((List.range n).flatMap cs).length = n * sz := by
  induction n with
  | zero => simp
  | succ n ih =>
    rw [List.range_succ, List.flatMap_append, List.length_append, ih (fun i hi => hl i (by omega))]
    simp [hl n (by omega), Nat.succ_mul]

theorem flatMap_range_getElem? (n sz : Nat) (cs : Nat → List Value) (hl : ∀ i, i < n → (cs i).length = sz) (i j : Nat) (hi : i < n) (hj : j < sz) :
    ((List.range n).flatMap cs)[i * sz + j]? = (cs i)[j]? := by
  induction n with
  | zero => omega
  | succ n ih =>
    have hlen := flatMap_range_length n sz cs (fun i hi => hl i (by omega))
    rw [List.range_succ, List.flatMap_append]
    by_cases h : i < n
    · rw [List.getElem?_append_left (by
        rw [hlen]
        have : (i + 1) * sz ≤ n * sz := Nat.mul_le_mul_right sz h
        rw [Nat.succ_mul] at this
        omega)]
      exact ih (fun i hi => hl i (by omega)) h
    · have : i = n := by omega
      subst this
      rw [List.getElem?_append_right (by rw [hlen]; omega), hlen]
      simp

mutual
theorem DV.Is.len {M : Mem} {x : DV} {cs : List Value} : DV.Is M x cs → cs.length = x.wd
  | .b x => rfl
  | .i k n => rfl
  | .str l => rfl
  | .lit v h => rfl
  | .agg fs cs h => DV.IsL.len h
  | .arr sz n f cs h hl => flatMap_range_length n sz cs hl
  | .slNil f => rfl
  | .slEmpty f a cap => rfl
  | .sl .. => rfl
theorem DV.IsL.len {M : Mem} {xs : List DV} {cs : List Value} : DV.IsL M xs cs → cs.length = DV.wdL xs
  | .nil => rfl
  | .cons x xs c cs h ht => by simp [DV.wdL, h.len, ht.len]
end

/-- A field of a struct's cells. -/
theorem DV.IsL.field {M : Mem} {xs : List DV} {cs : List Value} (h : DV.IsL M xs cs) : ∀ (k : Nat) (x : DV), xs[k]? = some x →
    ∃ c, DV.Is M x c ∧ ∀ j, j < c.length → cs[DV.wdL (xs.take k) + j]? = c[j]? := by
  induction xs generalizing cs with
  | nil => intro k x hx; simp at hx
  | cons y ys ih =>
    cases h with
    | cons _ _ c cs h ht =>
    intro k x hx
    cases k with
    | zero =>
      simp at hx; subst hx
      exact ⟨c, h, fun j hj => by simp [DV.wdL, List.getElem?_append_left hj]⟩
    | succ k =>
      simp at hx
      obtain ⟨c', hc', hj'⟩ := ih ht k x hx
      refine ⟨c', hc', fun j hj => ?_⟩
      simp only [List.take_succ_cons, DV.wdL]
      rw [← h.len, Nat.add_assoc, List.getElem?_append_right (by omega)]
      rw [Nat.add_sub_cancel_left]
      exact hj' j hj

/-! ## What a slot holds -/
inductive Stp where
  | f (idx foff : Nat)
  | x (i sz : Nat)

def Stp.off : Stp → Nat
  | .f _ o => o
  | .x i sz => i * sz

def pathOff : List Stp → Nat
  | [] => 0
  | s :: r => s.off + pathOff r

inductive AV where
  | d (x : DV)
  | full (n : Nat) (f : Nat → DV)
  | nq (b : Bool) (n : Nat) (f : Nat → DV)
  | err (b : Bool)
  | agg (fs : List AV)
  | ptr (o st : Nat) (path : List Stp)
  | imm (x : DV)
  | ref (o st off n : Nat)
  | map (o : Nat)
  | fn (f : FuncId) (caps : List AV)
  | tup (vs : List AV)
  | bot
  deriving Inhabited

/-- The mutable things that a call knows of: a variable (of one or many cells), a row that grows, a map. -/
inductive Ob where
  | box (c : AV)
  | seq (sz n : Nat) (f : Nat → AV)
  | map (es : List (DV × DV))
  | dead
  | unb
  deriving Inhabited

def Ob.stamp : Ob → Option Nat
  | .box _ => some 1
  | .seq _ n _ => some n
  | .map _ => some 0
  | .dead => none
  | .unb => some 0

def Ob.kind : Ob → Nat
  | .box _ => 0
  | .seq sz _ _ => sz + 3
  | .map _ => 1
  | .dead => 2
  | .unb => 0

abbrev Blocks := List (Option (Nat × Nat))

structure Cx where
  ms : Blocks
  M : Mem
  L : List Ob

def PtrOk (c : Cx) (o st : Nat) (path : List Stp) (v : Value) : Prop :=
  o < c.L.length ∧ (∃ a, v = .pointer (some a)) ∧ (∀ obj s, c.L[o]? = some obj → obj.stamp = some s → st ≤ s) ∧
  ∀ obj, c.L[o]? = some obj → obj.stamp = some st → ∃ b tc, c.ms[o]? = some (some (b, tc)) ∧ v = .pointer (some ⟨b, pathOff path, none⟩)

def RefOk (c : Cx) (o st off n : Nat) (v : Value) : Prop :=
  o < c.L.length ∧ (∃ a cap, v = .slice a n cap) ∧ (∀ obj s, c.L[o]? = some obj → obj.stamp = some s → st ≤ s) ∧
  ∀ sz f, c.L[o]? = some (.seq sz st f) → off + n ≤ st ∧
    ((c.ms[o]? = some none ∧ ∃ a, v = .slice a 0 0) ∨ (off ≠ 0 ∧ n = 0) ∨
      ∃ b tc, c.ms[o]? = some (some (b, tc)) ∧ st ≤ tc ∧ v = .slice (some ⟨b, off * sz, none⟩) n (tc - off))

def MapOk (c : Cx) (o : Nat) (v : Value) : Prop :=
  o < c.L.length ∧ v.oneCell' = true ∧ ∀ es, c.L[o]? = some (.map es) → ∃ b tc, c.ms[o]? = some (some (b, tc)) ∧ v = .map (some b)

/-- A slice that is nil. -/
def nilV : Value → Bool
  | .slice none _ _ => true
  | _ => false

/-- An interface's value: is it not nil? -/
def ifB : Value → Option Bool
  | .nilIface => some false
  | .iface _ _ => some true
  | _ => none
theorem ifB_one {v : Value} {b : Bool} (h : ifB v = some b) : v.oneCell' = true := by
  unfold ifB at h; split at h <;> first | rfl | cases h

def AV.isAgg : AV → Bool
  | .d (.agg _) | .d (.arr ..) | .agg _ => true
  | _ => false

mutual
inductive AV.Is (c : Cx) : AV → List Value → Prop
  | d (x : DV) (cs : List Value) (h : DV.Is c.M x cs) : AV.Is c (.d x) cs
  | full (n : Nat) (f : Nat → DV) (a : Option Addr) (h : DV.Is c.M (.sl n f) [.slice a n n]) : AV.Is c (.full n f) [.slice a n n]
  | nq (b : Bool) (n : Nat) (f : Nat → DV) (v : Value) (h : DV.Is c.M (.sl n f) [v]) (hb : nilV v = b) : AV.Is c (.nq b n f) [v]
  | err (b : Bool) (v : Value) (h : ifB v = some b) : AV.Is c (.err b) [v]
  | agg (fs : List AV) (cs : List Value) (h : AV.IsL c fs cs) : AV.Is c (.agg fs) cs
  | ptr (o st : Nat) (path : List Stp) (v : Value) (h : PtrOk c o st path v) : AV.Is c (.ptr o st path) [v]
  | imm (x : DV) (b off : Nat) (arr : Array Value) (cs : List Value) (hb : c.M b = some arr) (h : DV.Is c.M x cs)
      (hc : ∀ j, j < cs.length → arr[off + j]? = cs[j]?) : AV.Is c (.imm x) [.pointer (some ⟨b, off, none⟩)]
  | ref (o st off n : Nat) (v : Value) (h : RefOk c o st off n v) : AV.Is c (.ref o st off n) [v]
  | map (o : Nat) (v : Value) (h : MapOk c o v) : AV.Is c (.map o) [v]
  | fn (f : FuncId) (caps : List AV) (vs : List Value) (h : AV.IsVs c caps vs) : AV.Is c (.fn f caps) [.func (.func f) #[] vs.toArray]
  | bot (v : Value) (h : v.oneCell' = true) : AV.Is c .bot [v]
inductive AV.IsL (c : Cx) : List AV → List Value → Prop
  | nil : AV.IsL c [] []
  | cons (x : AV) (xs : List AV) (k ks : List Value) (h : AV.Is c x k) (ht : AV.IsL c xs ks) : AV.IsL c (x :: xs) (k ++ ks)
inductive AV.IsV (c : Cx) : AV → Value → Prop
  | agg (av : AV) (cs : List Value) (ha : av.isAgg = true) (h : AV.Is c av cs) : AV.IsV c av (.agg cs.toArray)
  | one (av : AV) (v : Value) (ha : av.isAgg = false) (h : AV.Is c av [v]) : AV.IsV c av v
  | tup (vs : List AV) (us : List Value) (h : AV.IsVs c vs us) : AV.IsV c (.tup vs) (.tuple us.toArray)
  | bot (v : Value) : AV.IsV c .bot v
inductive AV.IsVs (c : Cx) : List AV → List Value → Prop
  | nil : AV.IsVs c [] []
  | cons (x : AV) (xs : List AV) (v : Value) (vs : List Value) (h : AV.IsV c x v) (ht : AV.IsVs c xs vs) : AV.IsVs c (x :: xs) (v :: vs)
end

/-- Later on: nothing immutable has changed; an object of the same stamp lies where it lay. -/
structure Cx.le (c c' : Cx) : Prop where
  M : c.M.le c'.M
  L : c.L.length ≤ c'.L.length
  ob : ∀ o obj', o < c.L.length → c'.L[o]? = some obj' → obj'.stamp ≠ none → ∃ obj, c.L[o]? = some obj ∧ obj.kind = obj'.kind ∧
    (∀ s, obj.stamp = some s → ∃ s', obj'.stamp = some s' ∧ s ≤ s') ∧ (obj.stamp = obj'.stamp → c'.ms[o]? = c.ms[o]?)

theorem Ob.stamp_none {o : Ob} : o.stamp = none ↔ o = .dead := by cases o <;> simp [Ob.stamp]
theorem Ob.kind_dead {o : Ob} : o.kind = 2 ↔ o = .dead := by cases o <;> simp [Ob.kind]

theorem Cx.le.refl (c : Cx) : c.le c :=
  ⟨fun _ _ h => h, Nat.le_refl _, fun _ obj' _ h _ => ⟨obj', h, rfl, fun s hs => ⟨s, hs, Nat.le_refl _⟩, fun _ => rfl⟩⟩

theorem Cx.le.trans {c c' c'' : Cx} (h : c.le c') (h' : c'.le c'') : c.le c'' := by
  refine ⟨h.M.trans h'.M, Nat.le_trans h.L h'.L, fun o obj'' ho hl hs => ?_⟩
  obtain ⟨obj', h1, h2, h3, h4⟩ := h'.ob o obj'' (Nat.lt_of_lt_of_le ho h.L) hl hs
  have hs' : obj'.stamp ≠ none := fun e => by
    rw [Ob.stamp_none] at e; subst e
    exact hs (by rw [Ob.stamp_none, ← Ob.kind_dead, ← h2]; rfl)
  obtain ⟨obj, k1, k2, k3, k4⟩ := h.ob o obj' ho h1 hs'
  refine ⟨obj, k1, k2.trans h2, fun s hst => ?_, fun e => ?_⟩
  · obtain ⟨s1, e1, l1⟩ := k3 s hst
    obtain ⟨s2, e2, l2⟩ := h3 s1 e1
    exact ⟨s2, e2, Nat.le_trans l1 l2⟩
  · cases hst : obj.stamp with
    | none => exact absurd (e.symm.trans hst) hs
    | some s =>
      obtain ⟨s1, e1, l1⟩ := k3 s hst
      obtain ⟨s2, e2, l2⟩ := h3 s1 e1
      have : s2 = s := by rw [← e, hst] at e2; exact (Option.some.inj e2).symm
      have hs1 : s1 = s := by omega
      rw [h4 (by rw [e1, e2]; congr 1; omega), k4 (by rw [hst, e1]; congr 1; omega)]

theorem Cx.le.stamp {c c' : Cx} (hc : c.le c') {o st : Nat} (ho : o < c.L.length) (h : ∀ obj s, c.L[o]? = some obj → obj.stamp = some s → st ≤ s)
    (obj' : Ob) (s' : Nat) (hl : c'.L[o]? = some obj') (hs : obj'.stamp = some s') :
    st ≤ s' ∧ ∃ obj s, c.L[o]? = some obj ∧ obj.stamp = some s ∧ obj.kind = obj'.kind ∧ s ≤ s' ∧ (s' = st → s = st ∧ c'.ms[o]? = c.ms[o]?) := by
  obtain ⟨obj, k1, k2, k3, k4⟩ := hc.ob o obj' ho hl (by rw [hs]; simp)
  cases hst : obj.stamp with
  | none => rw [Ob.stamp_none] at hst; subst hst; have := Ob.kind_dead.1 (k2.symm.trans rfl); subst this; cases hs
  | some s =>
    obtain ⟨s1, e, l⟩ := k3 s hst
    rw [hs] at e; cases e
    have := h obj s k1 hst
    exact ⟨Nat.le_trans this l, obj, s, k1, hst, k2, l, fun e => ⟨by omega, k4 (by rw [hst, hs]; congr 1; omega)⟩⟩

theorem PtrOk.mono {c c' : Cx} (hc : c.le c') {o st : Nat} {path : List Stp} {v : Value} (h : PtrOk c o st path v) : PtrOk c' o st path v := by
  obtain ⟨h1, h2, h0, h3⟩ := h
  refine ⟨Nat.lt_of_lt_of_le h1 hc.L, h2, fun obj' s' hl hs => (hc.stamp h1 h0 obj' s' hl hs).1, fun obj' hl hs => ?_⟩
  obtain ⟨_, obj, s, k1, k2, _, _, k4⟩ := hc.stamp h1 h0 obj' st hl hs
  obtain ⟨rfl, k5⟩ := k4 rfl
  rw [k5]
  exact h3 obj k1 k2

theorem Ob.kind_seq {o : Ob} {sz n : Nat} {f : Nat → AV} (h : o.kind = (Ob.seq sz n f).kind) : ∃ n' f', o = .seq sz n' f' := by
  cases o <;> simp [Ob.kind] at h
  rename_i sz' n' f'
  obtain rfl : sz' = sz := by omega
  exact ⟨n', f', rfl⟩

theorem Ob.kind_map {o : Ob} {es : List (DV × DV)} (h : o.kind = (Ob.map es).kind) : ∃ es', o = .map es' := by
  cases o <;> simp [Ob.kind] at h
  rename_i es'
  exact ⟨es', rfl⟩

theorem RefOk.mono {c c' : Cx} (hc : c.le c') {o st off n : Nat} {v : Value} (h : RefOk c o st off n v) : RefOk c' o st off n v := by
  obtain ⟨h1, h2, h0, h3⟩ := h
  refine ⟨Nat.lt_of_lt_of_le h1 hc.L, h2, fun obj' s' hl hs => (hc.stamp h1 h0 obj' s' hl hs).1, fun sz f hl => ?_⟩
  obtain ⟨_, obj, s, k1, k2, k3, _, k4⟩ := hc.stamp h1 h0 _ st hl rfl
  obtain ⟨rfl, k5⟩ := k4 rfl
  obtain ⟨n', f', rfl⟩ := Ob.kind_seq k3
  simp [Ob.stamp] at k2; subst k2
  rw [k5]
  exact h3 sz f' k1

theorem MapOk.mono {c c' : Cx} (hc : c.le c') {o : Nat} {v : Value} (h : MapOk c o v) : MapOk c' o v := by
  obtain ⟨h1, h2, h3⟩ := h
  refine ⟨Nat.lt_of_lt_of_le h1 hc.L, h2, fun es hl => ?_⟩
  obtain ⟨obj, k1, k2, k3, k4⟩ := hc.ob o _ h1 hl (by simp [Ob.stamp])
  obtain ⟨es', rfl⟩ := Ob.kind_map k2
  rw [k4 rfl]
  exact h3 es' k1

mutual
theorem AV.Is.mono {c c' : Cx} (hc : c.le c') {x : AV} {cs : List Value} : AV.Is c x cs → AV.Is c' x cs
  | .d x cs h => .d x cs (h.mono hc.M)
  | .full n f a h => .full n f a (h.mono hc.M)
  | .nq b n f v h hb => .nq b n f v (h.mono hc.M) hb
  | .err b v h => .err b v h
  | .agg gs cs h => .agg gs cs (AV.IsL.mono hc h)
  | .ptr o st path v h => .ptr o st path v (h.mono hc)
  | .imm x b off ar cs hb h hc' => .imm x b off ar cs (hc.M _ _ hb) (h.mono hc.M) hc'
  | .ref o st off n v h => .ref o st off n v (h.mono hc)
  | .map o v h => .map o v (h.mono hc)
  | .fn f caps vs h => .fn f caps vs (AV.IsVs.mono hc h)
  | .bot v h => .bot v h
theorem AV.IsL.mono {c c' : Cx} (hc : c.le c') {xs : List AV} {cs : List Value} : AV.IsL c xs cs → AV.IsL c' xs cs
  | .nil => .nil
  | .cons x xs k ks h ht => .cons x xs k ks (AV.Is.mono hc h) (AV.IsL.mono hc ht)
theorem AV.IsV.mono {c c' : Cx} (hc : c.le c') {x : AV} {v : Value} : AV.IsV c x v → AV.IsV c' x v
  | .agg av cs ha h => .agg av cs ha (AV.Is.mono hc h)
  | .one av v ha h => .one av v ha (AV.Is.mono hc h)
  | .tup vs us h => .tup vs us (AV.IsVs.mono hc h)
  | .bot v => .bot v
theorem AV.IsVs.mono {c c' : Cx} (hc : c.le c') {xs : List AV} {vs : List Value} : AV.IsVs c xs vs → AV.IsVs c' xs vs
  | .nil => .nil
  | .cons x xs v vs h ht => .cons x xs v vs (AV.IsV.mono hc h) (AV.IsVs.mono hc ht)
end

mutual
theorem DV.Is.one {M : Mem} {x : DV} {cs : List Value} : DV.Is M x cs → ∀ v ∈ cs, v.oneCell' = true
  | .b x => fun v hv => by simp at hv; subst hv; rfl
  | .i k n => fun v hv => by simp at hv; subst hv; rfl
  | .str l => fun v hv => by simp at hv; subst hv; rfl
  | .lit v h => fun u hu => by simp at hu; subst hu; unfold leafB at h; split at h <;> first | rfl | cases h
  | .agg fs cs h => DV.IsL.one h
  | .arr sz n f cs h hl => fun v hv => by
    obtain ⟨i, hi, hvi⟩ := List.mem_flatMap.1 hv
    exact DV.Is.one (h i (List.mem_range.1 hi)) v hvi
  | .slNil f => fun v hv => by simp at hv; subst hv; rfl
  | .slEmpty f a cap => fun v hv => by simp at hv; subst hv; rfl
  | .sl .. => fun v hv => by simp at hv; subst hv; rfl
theorem DV.IsL.one {M : Mem} {xs : List DV} {cs : List Value} : DV.IsL M xs cs → ∀ v ∈ cs, v.oneCell' = true
  | .nil => fun v hv => by simp at hv
  | .cons x xs c cs h ht => fun v hv => (List.mem_append.1 hv).elim (DV.Is.one h v) (DV.IsL.one ht v)
end

mutual
theorem AV.Is.one {c : Cx} {x : AV} {cs : List Value} : AV.Is c x cs → ∀ v ∈ cs, v.oneCell' = true
  | .d x cs h => DV.Is.one h
  | .full n f a h => fun v hv => by simp at hv; subst hv; rfl
  | .nq b n f v h hb => DV.Is.one h
  | .err b v h => fun u hu => by simp at hu; subst hu; exact ifB_one h
  | .agg gs cs h => AV.IsL.one h
  | .ptr o st path v h => fun u hu => by simp at hu; subst hu; obtain ⟨_, ⟨a, rfl⟩, _⟩ := h; rfl
  | .imm x b off ar cs hb h hc' => fun v hv => by simp at hv; subst hv; rfl
  | .ref o st off n v h => fun u hu => by simp at hu; subst hu; obtain ⟨_, ⟨a, cap, rfl⟩, _⟩ := h; rfl
  | .map o v h => fun u hu => by simp at hu; subst hu; exact h.2.1
  | .fn f caps vs h => fun v hv => by simp at hv; subst hv; rfl
  | .bot v h => fun u hu => by simp at hu; subst hu; exact h
theorem AV.IsL.one {c : Cx} {xs : List AV} {cs : List Value} : AV.IsL c xs cs → ∀ v ∈ cs, v.oneCell' = true
  | .nil => fun v hv => by simp at hv
  | .cons x xs k ks h ht => fun v hv => (List.mem_append.1 hv).elim (AV.Is.one h v) (AV.IsL.one ht v)
end

/-! ## The relation to the worlds -/
def owned (ms : Blocks) (b : Nat) : Prop := ∃ o tc : Nat, ms[o]? = some (some (b, tc))

open Classical in
noncomputable def memOf (X : Nat → Prop) (ms : Blocks) (w : World) : Mem := fun b =>
  if X b ∨ owned ms b then none else match w.heap[b]? with
    | some (.cells arr _ _) => some arr
    | _ => none

noncomputable def cxOf (X : Nat → Prop) (ms : Blocks) (L : List Ob) (w : World) : Cx := ⟨ms, memOf X ms w, L⟩

/-- A map's entries: keys and values. -/
def EntsIs (c : Cx) : List (DV × DV) → List MapEntry → Prop
  | [], [] => True
  | (k, v) :: es, e :: r => AV.IsV c (.d k) e.key ∧ AV.IsV c (.d v) e.val ∧ EntsIs c es r
  | _, _ => False

/-- Nothing was deleted: an entry's stamp is its place. -/
def Born (n clock : Nat) (r : List MapEntry) : Prop := clock = n ∧ ∀ (i : Nat) (e : MapEntry), r[i]? = some e → e.born = i

def ObIs (c : Cx) (w : World) (o : Nat) : Ob → Prop
  | .box x => c.ms[o]? = some none ∨ ∃ b tc arr e, c.ms[o]? = some (some (b, tc)) ∧ w.heap[b]? = some (.cells arr e (0, 0)) ∧ AV.Is c x arr.toList
  | .seq sz n f => (c.ms[o]? = some none ∧ n = 0) ∨ ∃ b tc arr e, ∃ cs : Nat → List Value, c.ms[o]? = some (some (b, tc)) ∧ w.heap[b]? = some (.cells arr e (0, 0)) ∧
      n ≤ tc ∧ arr.size = tc * sz ∧ (∀ i, i < n → AV.Is c (f i) (cs i)) ∧ (∀ i, i < n → (cs i).length = sz) ∧
      (∀ i, i < n → ∀ j, j < sz → arr[i * sz + j]? = (cs i)[j]?)
  | .map es => ∃ b tc ents clock, c.ms[o]? = some (some (b, tc)) ∧ w.heap[b]? = some (.map ents clock) ∧ EntsIs c es ents.toList ∧ Born es.length clock ents.toList
  | .dead => True
  | .unb => c.ms[o]? = some none

def errB : Value → Bool
  | .nilIface | .iface _ _ => true
  | _ => false
/-- The library's variables. -/
def GlobOk (M : Mem) : Prop := ∀ b ∈ globs, ∃ v, M b = some #[v] ∧ errB v = true
theorem GlobOk.mono {M M' : Mem} (hM : M.le M') (h : GlobOk M) : GlobOk M' := fun b hb => let ⟨v, h1, h2⟩ := h b hb; ⟨v, hM _ _ h1, h2⟩

structure Rel (X : Nat → Prop) (ms : Blocks) (L : List Ob) (w : World) : Prop where
  len : ms.length = L.length
  lt : ∀ b, owned ms b → b < w.heap.size ∧ ¬ X b
  xlt : ∀ b, X b → b < w.heap.size
  inj : ∀ (o o' b tc tc' : Nat), ms[o]? = some (some (b, tc)) → ms[o']? = some (some (b, tc')) → o = o'
  obs : ∀ o obj, L[o]? = some obj → ObIs (cxOf X ms L w) w o obj
  glob : GlobOk (memOf X ms w)

/-- The rest of the world is as it was (but for the count of draws). -/
structure SameOut (w w' : World) : Prop where
  os : w'.os = w.os
  tape : w'.tape = w.tape
  output : w'.output = w.output

theorem SameOut.refl (w : World) : SameOut w w := ⟨rfl, rfl, rfl⟩
theorem SameOut.trans {w w' w'' : World} (h : SameOut w w') (h' : SameOut w' w'') : SameOut w w'' := ⟨h'.os.trans h.os, h'.tape.trans h.tape, h'.output.trans h.output⟩

/-- What a piece of code may do to the world: blocks that stood there and were not its own are as they were, and are not its own now. -/
structure Ext (ms : Blocks) (w : World) (ms' : Blocks) (w' : World) : Prop where
  size : w.heap.size ≤ w'.heap.size
  keep : ∀ b, b < w.heap.size → ¬ owned ms b → w'.heap[b]? = w.heap[b]? ∧ ¬ owned ms' b
  out : SameOut w w'

theorem Ext.refl (ms : Blocks) (w : World) : Ext ms w ms w := ⟨Nat.le_refl _, fun _ _ h => ⟨rfl, h⟩, SameOut.refl w⟩
theorem Ext.trans {ms ms' ms'' : Blocks} {w w' w'' : World} (h : Ext ms w ms' w') (h' : Ext ms' w' ms'' w'') : Ext ms w ms'' w'' :=
  ⟨Nat.le_trans h.size h'.size, fun b hb ho => by
    obtain ⟨h1, h2⟩ := h.keep b hb ho
    obtain ⟨h3, h4⟩ := h'.keep b (Nat.lt_of_lt_of_le hb h.size) h2
    exact ⟨h3.trans h1, h4⟩, h.out.trans h'.out⟩

theorem memOf_some {X : Nat → Prop} {ms : Blocks} {w : World} {b : Nat} {arr : Array Value} (h : memOf X ms w b = some arr) :
    ¬ X b ∧ ¬ owned ms b ∧ ∃ e fz, w.heap[b]? = some (.cells arr e fz) := by
  unfold memOf at h
  split at h
  · cases h
  · rename_i hn
    have hn' : ¬ X b ∧ ¬ owned ms b := ⟨fun hx => hn (.inl hx), fun ho => hn (.inr ho)⟩
    refine ⟨hn'.1, hn'.2, ?_⟩
    split at h
    · rename_i e fz he
      cases h
      exact ⟨e, fz, he⟩
    · cases h

theorem memOf_intro {X : Nat → Prop} {ms : Blocks} {w : World} {b : Nat} {arr : Array Value} {e : TypeId} {fz : Nat × Nat} (h1 : ¬ X b) (h2 : ¬ owned ms b)
    (h : w.heap[b]? = some (.cells arr e fz)) : memOf X ms w b = some arr := by
  unfold memOf
  rw [if_neg (by rintro (h | h); exact h1 h; exact h2 h), h]

theorem lt_of_heap {w : World} {b : Nat} {o : Obj} (h : w.heap[b]? = some o) : b < w.heap.size := by
  rcases Nat.lt_or_ge b w.heap.size with hl | hl
  · exact hl
  · rw [Array.getElem?_eq_none hl] at h; cases h

theorem Ext.memLe {X : Nat → Prop} {ms ms' : Blocks} {w w' : World} (h : Ext ms w ms' w') : (memOf X ms w).le (memOf X ms' w') := by
  intro b arr hb
  obtain ⟨h1, h2, e, fz, h3⟩ := memOf_some hb
  obtain ⟨k1, k2⟩ := h.keep b (lt_of_heap h3) h2
  exact memOf_intro h1 k2 (k1.trans h3)
end Go.TA

namespace Go.TA
open Go

mutual
def AV.wd : AV → Nat
  | .d x => x.wd
  | .agg fs => AV.wdL fs
  | _ => 1
def AV.wdL : List AV → Nat
  | [] => 0
  | x :: xs => x.wd + AV.wdL xs
end

mutual
theorem AV.Is.len {c : Cx} {x : AV} {cs : List Value} : AV.Is c x cs → cs.length = x.wd
  | .d x cs h => by simpa [AV.wd] using h.len
  | .full .. => rfl
  | .nq .. => rfl
  | .err .. => rfl
  | .agg gs cs h => by simpa [AV.wd] using AV.IsL.len h
  | .ptr .. => rfl
  | .imm .. => rfl
  | .ref .. => rfl
  | .map .. => rfl
  | .fn .. => rfl
  | .bot v h => rfl
theorem AV.IsL.len {c : Cx} {xs : List AV} {cs : List Value} : AV.IsL c xs cs → cs.length = AV.wdL xs
  | .nil => rfl
  | .cons x xs c cs h ht => by simp [AV.wdL, h.len, ht.len]
end

/-- Cells from an offset on are just these. -/
def At (cs : List Value) (off : Nat) (k : List Value) : Prop := ∀ j, j < k.length → cs[off + j]? = k[j]?

theorem At.refl (cs : List Value) : At cs 0 cs := fun j _ => by simp
theorem At.trans {cs k l : List Value} {o o' : Nat} (h : At cs o k) (h' : At k o' l) : At cs (o + o') l := fun j hj => by
  have e := h' j hj
  have hlt : o' + j < k.length := by
    rcases Nat.lt_or_ge (o' + j) k.length with hl | hl
    · exact hl
    · rw [List.getElem?_eq_none hl, List.getElem?_eq_getElem hj] at e; cases e
  rw [Nat.add_assoc, h _ hlt, e]

theorem DV.IsL.at {M : Mem} {xs : List DV} {cs : List Value} (h : DV.IsL M xs cs) (k : Nat) (x : DV) (hx : xs[k]? = some x) :
    ∃ c, DV.Is M x c ∧ At cs (DV.wdL (xs.take k)) c := h.field k x hx

theorem AV.IsL.at {c : Cx} {xs : List AV} {cs : List Value} (h : AV.IsL c xs cs) : ∀ (k : Nat) (x : AV), xs[k]? = some x →
    ∃ l, AV.Is c x l ∧ At cs (AV.wdL (xs.take k)) l := by
  induction xs generalizing cs with
  | nil => intro k x hx; simp at hx
  | cons y ys ih =>
    cases h with
    | cons _ _ l ls h ht =>
    intro k x hx
    cases k with
    | zero =>
      simp at hx; subst hx
      exact ⟨l, h, fun j hj => by simp [AV.wdL, List.getElem?_append_left hj]⟩
    | succ k =>
      simp at hx
      obtain ⟨l', hl', hj'⟩ := ih ht k x hx
      refine ⟨l', hl', fun j hj => ?_⟩
      simp only [List.take_succ_cons, AV.wdL]
      rw [← h.len, Nat.add_assoc, List.getElem?_append_right (by omega), Nat.add_sub_cancel_left]
      exact hj' j hj

/-- One step into a value. -/
def AV.into : AV → Stp → Option AV
  | .d (.agg fs), .f i o => if DV.wdL (fs.take i) = o then (fs[i]?).map .d else none
  | .agg fs, .f i o => if AV.wdL (fs.take i) = o then fs[i]? else none
  | .d (.arr sz _ f), .x i sz' => if sz = sz' then some (.d (f i)) else none
  | _, _ => none

def AV.intoC : AV → Stp → Prop
  | .d (.arr _ n _), .x i _ => i < n
  | _, _ => True

theorem AV.into_is {c : Cx} {a x : AV} {cs : List Value} {s : Stp} (h : AV.Is c a cs) (hx : a.into s = some x) (hc : a.intoC s) :
    ∃ k, AV.Is c x k ∧ At cs s.off k := by
  unfold AV.into at hx
  split at hx
  · rename_i fs i o
    split at hx
    · rename_i ho
      cases hf : fs[i]? with
      | none => simp [hf] at hx
      | some y =>
        simp [hf] at hx; subst hx
        cases h with
        | d _ _ h =>
        cases h with
        | agg _ _ h =>
        obtain ⟨k, h1, h2⟩ := h.at i y hf
        exact ⟨k, .d _ _ h1, by simpa [Stp.off, ho] using h2⟩
    · cases hx
  · rename_i fs i o
    split at hx
    · rename_i ho
      cases h with
      | agg _ _ h =>
      obtain ⟨k, h1, h2⟩ := h.at i x hx
      exact ⟨k, h1, by simpa [Stp.off, ho] using h2⟩
    · cases hx
  · rename_i sz n f i sz'
    split at hx
    · rename_i hs
      subst hs
      cases hx
      cases h with
      | d _ _ h =>
      cases h with
      | arr _ _ _ ks h hl =>
      have hi : i < n := hc
      refine ⟨ks i, .d _ _ (h i hi), fun j hj => ?_⟩
      rw [hl i hi] at hj
      exact flatMap_range_getElem? n sz ks hl i j hi hj
    · cases hx
  · cases hx

def AV.get : AV → List Stp → Option AV
  | a, [] => some a
  | a, s :: r => (a.into s).bind fun x => x.get r

def AV.getC : AV → List Stp → Prop
  | _, [] => True
  | a, s :: r => a.intoC s ∧ match a.into s with
    | some x => x.getC r
    | none => True

theorem AV.get_is {c : Cx} : ∀ (p : List Stp) {a x : AV} {cs : List Value}, AV.Is c a cs → a.get p = some x → a.getC p → ∃ k, AV.Is c x k ∧ At cs (pathOff p) k
  | [], a, x, cs, h, hx, _ => by simp [AV.get] at hx; subst hx; exact ⟨cs, h, At.refl cs⟩
  | s :: r, a, x, cs, h, hx, hc => by
    simp only [AV.get] at hx
    cases hs : a.into s with
    | none => simp [hs] at hx
    | some y =>
      simp [hs] at hx
      simp only [AV.getC, hs] at hc
      obtain ⟨k, h1, h2⟩ := AV.into_is h hs hc.1
      obtain ⟨l, h3, h4⟩ := AV.get_is r h1 hx hc.2
      exact ⟨l, h3, h2.trans h4⟩

/-- Cells written over from an offset on. -/
def splice (cs : List Value) (off : Nat) (k : List Value) : List Value := cs.take off ++ k ++ cs.drop (off + k.length)

theorem splice_length {cs k : List Value} {off : Nat} (h : off + k.length ≤ cs.length) : (splice cs off k).length = cs.length := by
  simp [splice]; omega

theorem splice_getElem? {cs k : List Value} {off : Nat} (h : off + k.length ≤ cs.length) (j : Nat) :
    (splice cs off k)[j]? = if off ≤ j ∧ j < off + k.length then k[j - off]? else cs[j]? := by
  unfold splice
  by_cases h1 : j < off
  · rw [if_neg (by omega), List.append_assoc, List.getElem?_append_left (by simp; omega), List.getElem?_take_of_lt h1]
  · by_cases h2 : j < off + k.length
    · rw [if_pos ⟨by omega, h2⟩, List.append_assoc, List.getElem?_append_right (by simp; omega), List.getElem?_append_left (by simp; omega)]
      congr 1
      simp; omega
    · rw [if_neg (by omega), List.append_assoc, List.getElem?_append_right (by simp; omega), List.getElem?_append_right (by simp; omega)]
      simp only [List.length_take, List.getElem?_drop]
      congr 1
      omega

theorem At.le {cs k : List Value} {off : Nat} (h : At cs off k) (hk : 0 < k.length) : off + k.length ≤ cs.length := by
  have e := h (k.length - 1) (by omega)
  rcases Nat.lt_or_ge (off + (k.length - 1)) cs.length with hl | hl
  · omega
  · rw [List.getElem?_eq_none hl, List.getElem?_eq_getElem (by omega)] at e; cases e

theorem splice_nest {cs l k : List Value} {o o' : Nat} (h : At cs o l) (hl : o + l.length ≤ cs.length) (hk : o' + k.length ≤ l.length) :
    splice cs o (splice l o' k) = splice cs (o + o') k := by
  apply List.ext_getElem?
  intro j
  have hs := splice_length hk
  rw [splice_getElem? (cs := cs) (k := splice l o' k) (by omega), splice_getElem? (cs := cs) (k := k) (by omega), hs]
  by_cases h1 : o ≤ j ∧ j < o + l.length
  · rw [if_pos h1, splice_getElem? hk]
    by_cases h2 : o + o' ≤ j ∧ j < o + o' + k.length
    · rw [if_pos h2, if_pos (by omega)]; congr 1; omega
    · rw [if_neg h2, if_neg (by omega)]
      have := h (j - o) (by omega)
      rw [← this]; congr 1; omega
  · rw [if_neg h1, if_neg (by omega)]

theorem splice_self {cs k : List Value} (h : k.length = cs.length) : splice cs 0 k = k := by
  simp [splice, h]

/-- One step: put something else there. -/
def AV.over : AV → Stp → AV → Option AV
  | .d (.agg fs), .f i _, .d y => some (.d (.agg (fs.set i y)))
  | .d (.agg fs), .f i _, y => some (.agg ((fs.map AV.d).set i y))
  | .agg fs, .f i _, y => some (.agg (fs.set i y))
  | .d (.arr sz n f), .x i _, .d y => some (.d (.arr sz n (fun j => if j = i then y else f j)))
  | _, _, _ => none

theorem DV.IsL.set {M : Mem} : ∀ {xs : List DV} {cs : List Value}, DV.IsL M xs cs → ∀ (k : Nat) (x y : DV) (l : List Value), xs[k]? = some x → DV.Is M y l → y.wd = x.wd →
    DV.IsL M (xs.set k y) (splice cs (DV.wdL (xs.take k)) l)
  | [], _, _, k, x, y, l, hx, _, _ => by simp at hx
  | z :: zs, _, .cons _ _ c cs h ht, 0, x, y, l, hx, hy, hw => by
    simp at hx; subst hx
    have : splice (c ++ cs) (DV.wdL ([] : List DV)) l = l ++ cs := by
      have e : l.length = c.length := by rw [hy.len, h.len, hw]
      simp [splice, DV.wdL, e]
    simp only [List.take_zero, List.set_cons_zero]
    rw [this]
    exact .cons _ _ _ _ hy ht
  | z :: zs, _, .cons _ _ c cs h ht, k + 1, x, y, l, hx, hy, hw => by
    simp at hx
    have ih := DV.IsL.set ht k x y l hx hy hw
    have : splice (c ++ cs) (DV.wdL ((z :: zs).take (k + 1))) l = c ++ splice cs (DV.wdL (zs.take k)) l := by
      simp only [List.take_succ_cons, DV.wdL, splice]
      rw [← h.len, List.take_append, List.take_of_length_le (by omega), Nat.add_sub_cancel_left, List.drop_append, List.drop_of_length_le (by omega)]
      simp [Nat.add_assoc]
    rw [this, List.set_cons_succ]
    exact .cons _ _ _ _ h ih

theorem AV.IsL.set {c : Cx} : ∀ {xs : List AV} {cs : List Value}, AV.IsL c xs cs → ∀ (k : Nat) (x y : AV) (l : List Value), xs[k]? = some x → AV.Is c y l → y.wd = x.wd →
    AV.IsL c (xs.set k y) (splice cs (AV.wdL (xs.take k)) l)
  | [], _, _, k, x, y, l, hx, _, _ => by simp at hx
  | z :: zs, _, .cons _ _ c cs h ht, 0, x, y, l, hx, hy, hw => by
    simp at hx; subst hx
    have : splice (c ++ cs) (AV.wdL ([] : List AV)) l = l ++ cs := by
      have e : l.length = c.length := by rw [hy.len, h.len, hw]
      simp [splice, AV.wdL, e]
    simp only [List.take_zero, List.set_cons_zero]
    rw [this]
    exact .cons _ _ _ _ hy ht
  | z :: zs, _, .cons _ _ c cs h ht, k + 1, x, y, l, hx, hy, hw => by
    simp at hx
    have ih := AV.IsL.set ht k x y l hx hy hw
    have : splice (c ++ cs) (AV.wdL ((z :: zs).take (k + 1))) l = c ++ splice cs (AV.wdL (zs.take k)) l := by
      simp only [List.take_succ_cons, AV.wdL, splice]
      rw [← h.len, List.take_append, List.take_of_length_le (by omega), Nat.add_sub_cancel_left, List.drop_append, List.drop_of_length_le (by omega)]
      simp [Nat.add_assoc]
    rw [this, List.set_cons_succ]
    exact .cons _ _ _ _ h ih

theorem AV.IsL.of_d {c : Cx} : ∀ {xs : List DV} {cs : List Value}, DV.IsL c.M xs cs → AV.IsL c (xs.map AV.d) cs
  | [], _, .nil => .nil
  | _ :: _, _, .cons _ _ _ _ h ht => .cons _ _ _ _ (.d _ _ h) (AV.IsL.of_d ht)

theorem AV.wdL_d : ∀ (xs : List DV), AV.wdL (xs.map AV.d) = DV.wdL xs
  | [] => rfl
  | x :: xs => by simp [AV.wdL, DV.wdL, AV.wd, AV.wdL_d xs]

theorem flatMap_range_set (n sz : Nat) (cs : Nat → List Value) (hl : ∀ i, i < n → (cs i).length = sz) (i : Nat) (hi : i < n) (l : List Value) (hll : l.length = sz) :
    (List.range n).flatMap (fun j => if j = i then l else cs j) = splice ((List.range n).flatMap cs) (i * sz) l := by
  have hl' : ∀ j, j < n → ((fun j => if j = i then l else cs j) j).length = sz := fun j hj => by
    by_cases h : j = i
    · simp [h, hll]
    · simp [h, hl j hj]
  have hlen := flatMap_range_length n sz cs hl
  have hlen' := flatMap_range_length n sz _ hl'
  have hb : i * sz + l.length ≤ ((List.range n).flatMap cs).length := by
    rw [hlen, hll, ← Nat.succ_mul]
    exact Nat.mul_le_mul_right sz hi
  apply List.ext_getElem?
  intro p
  rw [splice_getElem? hb]
  by_cases hp : p < n * sz
  · have hsz : 0 < sz := by
      rcases Nat.eq_zero_or_pos sz with h | h
      · subst h; simp at hp
      · exact h
    have hq : p / sz < n := Nat.div_lt_of_lt_mul (by rw [Nat.mul_comm]; exact hp)
    have hr : p % sz < sz := Nat.mod_lt _ hsz
    have hpd : p = p / sz * sz + p % sz := by rw [Nat.mul_comm]; exact (Nat.div_add_mod p sz).symm
    have e1 := flatMap_range_getElem? n sz _ hl' (p / sz) (p % sz) hq hr
    have e2 := flatMap_range_getElem? n sz cs hl (p / sz) (p % sz) hq hr
    rw [← hpd] at e1 e2
    rw [e1, e2, hll]
    by_cases h : p / sz = i
    · rw [if_pos h, if_pos (by rw [← h]; omega)]
      congr 1
      rw [← h]; omega
    · rw [if_neg h, if_neg]
      intro ⟨h1, h2⟩
      apply h
      have h3 : i ≤ p / sz := (Nat.le_div_iff_mul_le hsz).2 h1
      have h4 : p / sz < i + 1 := Nat.div_lt_of_lt_mul (by rw [Nat.mul_comm, Nat.succ_mul]; exact h2)
      omega
  · rw [List.getElem?_eq_none (by omega), if_neg, List.getElem?_eq_none (by omega)]
    intro ⟨h1, h2⟩
    rw [hlen] at hb
    omega

theorem AV.over_is {c : Cx} {a x y a' : AV} {cs l : List Value} {s : Stp} (h : AV.Is c a cs) (hx : a.into s = some x) (hc : a.intoC s) (ho : a.over s y = some a')
    (hy : AV.Is c y l) (hw : y.wd = x.wd) : AV.Is c a' (splice cs s.off l) ∧ a'.wd = a.wd ∧ a'.isAgg = a.isAgg := by
  unfold AV.into at hx
  split at hx
  · rename_i fs i o
    split at hx
    · rename_i hof
      cases hf : fs[i]? with
      | none => simp [hf] at hx
      | some z =>
        simp [hf] at hx; subst hx
        cases h with
        | d _ _ h =>
        cases h with
        | agg _ _ h =>
        have hgen : AV.Is c (.agg ((fs.map AV.d).set i y)) (splice cs (Stp.f i o).off l) := by
          have := AV.IsL.set (AV.IsL.of_d h) i (.d z) y l (by simp [hf]) hy hw
          rw [← List.map_take, AV.wdL_d, hof] at this
          exact .agg _ _ this
        have hlen : (splice cs (Stp.f i o).off l).length = (AV.d (DV.agg fs)).wd := by
          obtain ⟨k, hk, hat⟩ := h.at i z hf
          have h1 : l.length = k.length := by rw [hy.len, hw, hk.len]; rfl
          rw [hof] at hat
          by_cases h0 : 0 < k.length
          · have := hat.le h0
            rw [splice_length (by simp [Stp.off]; omega), h.len]; rfl
          · have hl0 : l = [] := List.length_eq_zero_iff.1 (by omega)
            have := h.len
            simp [splice, hl0, Stp.off, AV.wd, DV.wd, this]
        cases y with
        | d y' =>
          simp only [AV.over, Option.some.injEq] at ho
          subst ho
          cases hy with
          | d _ _ hy =>
          have := DV.IsL.set h i z y' l hf hy hw
          rw [hof] at this
          have h' : AV.Is c (.d (.agg (fs.set i y'))) (splice cs (Stp.f i o).off l) := .d _ _ (.agg _ _ this)
          exact ⟨h', by rw [← h'.len, hlen], rfl⟩
        | _ =>
          simp only [AV.over, Option.some.injEq] at ho
          subst ho
          exact ⟨hgen, by rw [← hgen.len, hlen], rfl⟩
    · cases hx
  · rename_i fs i o
    split at hx
    · rename_i hof
      cases h with
      | agg _ _ h =>
      simp [AV.over] at ho; subst ho
      have := AV.IsL.set h i x y l hx hy hw
      rw [hof] at this
      have h' : AV.Is c (.agg (fs.set i y)) (splice cs (Stp.f i o).off l) := .agg _ _ this
      refine ⟨h', ?_, rfl⟩
      obtain ⟨k, hk, hat⟩ := h.at i x hx
      have h1 : l.length = k.length := by rw [hy.len, hw, hk.len]
      rw [hof] at hat
      rw [← h'.len]
      by_cases h0 : 0 < k.length
      · have := hat.le h0
        rw [splice_length (by simp [Stp.off]; omega), h.len]; rfl
      · have hl0 : l = [] := List.length_eq_zero_iff.1 (by omega)
        have := h.len
        simp [splice, hl0, Stp.off, AV.wd, this]
    · cases hx
  · rename_i sz n f i sz'
    split at hx
    · rename_i hs
      subst hs
      cases hx
      cases h with
      | d _ _ h =>
      cases h with
      | arr _ _ _ ks h hl =>
      have hi : i < n := hc
      cases y with
      | d y' =>
        simp only [AV.over, Option.some.injEq] at ho
        subst ho
        cases hy with
        | d _ _ hy =>
        have hll : l.length = sz := by
          rw [hy.len, ← hl i hi, (h i hi).len]; exact hw
        have h' : AV.Is c (.d (.arr sz n (fun j => if j = i then y' else f j))) (splice ((List.range n).flatMap ks) (Stp.x i sz).off l) := by
          rw [show (Stp.x i sz).off = i * sz from rfl, ← flatMap_range_set n sz ks hl i hi l hll]
          refine .d _ _ (.arr _ _ _ _ (fun j hj => ?_) (fun j hj => ?_))
          · by_cases hji : j = i
            · simp [hji, hy]
            · simp [hji, h j hj]
          · by_cases hji : j = i
            · simp [hji, hll]
            · simp [hji, hl j hj]
        exact ⟨h', rfl, rfl⟩
      | _ => simp [AV.over] at ho
    · cases hx
  · cases hx

def AV.set : AV → List Stp → AV → Option AV
  | a, [], y => if y.wd = a.wd then some y else none
  | a, s :: r, y => (a.into s).bind fun x => (x.set r y).bind fun x' => a.over s x'

theorem AV.set_is {c : Cx} : ∀ (p : List Stp) {a y a' : AV} {cs l : List Value}, AV.Is c a cs → a.set p y = some a' → a.getC p → AV.Is c y l →
    AV.Is c a' (splice cs (pathOff p) l) ∧ a'.wd = a.wd ∧ (l.length = 0 ∨ pathOff p + l.length ≤ cs.length)
  | [], a, y, a', cs, l, h, hs, _, hy => by
    simp only [AV.set] at hs
    split at hs
    · rename_i hw
      cases hs
      have : l.length = cs.length := by rw [hy.len, h.len, hw]
      rw [show pathOff [] = 0 from rfl, splice_self this]
      exact ⟨hy, hw, .inr (by omega)⟩
    · cases hs
  | s :: r, a, y, a', cs, l, h, hs, hc, hy => by
    simp only [AV.set] at hs
    cases hi : a.into s with
    | none => simp [hi] at hs
    | some x =>
      cases hx : x.set r y with
      | none => simp [hi, hx] at hs
      | some x' =>
        simp [hi, hx] at hs
        simp only [AV.getC, hi] at hc
        obtain ⟨k, hk, hat⟩ := AV.into_is h hi hc.1
        obtain ⟨h1, h2, h3⟩ := AV.set_is r hk hx hc.2 hy
        obtain ⟨h4, h5, _⟩ := AV.over_is h hi hc.1 hs h1 h2
        by_cases h0 : l.length = 0
        · have hl0 : l = [] := List.length_eq_zero_iff.1 h0
          subst hl0
          refine ⟨?_, h5, .inl rfl⟩
          have e1 : splice k (pathOff r) [] = k := by simp [splice]
          have e2 : splice cs (pathOff (s :: r)) [] = cs := by simp [splice]
          rw [e1] at h4
          rw [e2]
          have e3 : splice cs s.off k = cs := by
            by_cases hk0 : 0 < k.length
            · apply List.ext_getElem?
              intro j
              rw [splice_getElem? (hat.le hk0)]
              split
              · rename_i hj
                have := hat (j - s.off) (by omega)
                rw [← this]; congr 1; omega
              · rfl
            · have : k = [] := List.length_eq_zero_iff.1 (by omega)
              simp [splice, this]
          rwa [e3] at h4
        · have h3' := h3.resolve_left h0
          have hb := hat.le (by omega)
          rw [splice_nest hat hb h3'] at h4
          exact ⟨h4, h5, .inr (by simp only [pathOff]; omega)⟩
end Go.TA
