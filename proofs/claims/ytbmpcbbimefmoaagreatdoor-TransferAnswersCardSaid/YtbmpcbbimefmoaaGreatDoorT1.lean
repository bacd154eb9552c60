/- A part of the proof: laws over any program of the abstract machine. No condition. -/
import Derived.Calls
import Derived.Orders
import Derived.KernelRfl
import Derived.WalkKit
import Derived.WalkLawsBesides
import Derived.Laws.IdiomStrings
import Derived.Below
import Derived.OrdersIn
import Derived.CallsIn
namespace Go
theorem om {p:Prop} (h:p:=by omega):p:=h
theorem sj {p:Prop} (h:p:=by simp):p:=h
theorem dk {p:Prop} (h:p:=by decide):p:=h
theorem kj {p:Prop} (h:p:=by kernel_rfl):p:=h
theorem sk {p:Prop} (h:p:=by simp; omega):p:=h
theorem aj {p:Prop} (h:p:=by assumption):p:=h
theorem Zd {p:Prop} (h:p:=by simp +zetaDelta only):p:=h
theorem Zb {p:Prop} (h:p:=by simp +zetaDelta only[List.length_set]):p:=h
abbrev dF.{u} {α:Sort u} [Inhabited α]:α:=default
abbrev cO (a b:Bool):Bool:=bif a then true else b
abbrev Y8:=List UInt8
theorem nnm {a:Prop} (h:¬¬a):a:=Classical.not_not.mp h
abbrev y6:=@if_neg
abbrev y7:=@if_pos
abbrev y8:=@decide_eq_true_eq
abbrev ya:=@Bool.and_eq_true
abbrev yb:=@List.length_append
abbrev yc:=@Nat.le_refl
abbrev yd:=@List.length_singleton
abbrev yf:=@List.getElem?_eq_none
abbrev yg:=@Nat.ne_of_beq_eq_false
abbrev yh:=@List.getElem?_eq_getElem
abbrev yi:=@Int.toNat_natCast
abbrev yj:=@Bool.or_eq_true
abbrev yk:=@Bool.eq_false_iff
abbrev yl:=@Bool.false_eq_true
abbrev ym:=@List.mem_cons_of_mem
abbrev yn:=@beq_iff_eq
abbrev yo:=@Nat.mul_le_mul_right
abbrev yp:=@Result.andThen_ok
abbrev yq:=@List.getElem?_append_left
abbrev yu:=@Nat.lt_or_ge
abbrev yv:=@List.mem_cons
abbrev yw:=@Option.some.injEq
abbrev yx:=@List.length_take
abbrev yz:=@List.mem_map
abbrev y10:=@List.length_cons
abbrev y11:=@decide_eq_true
abbrev y12:=@decide_eq_false_iff_not
abbrev y13:=@List.take_succ_eq_append_getElem
abbrev y14:=@Sem.run_bind
abbrev y15:=@Option.some.inj
abbrev y16:=@List.getElem?_set_self
abbrev y17:=@List.mem_of_mem_take
abbrev y18:=@List.all_eq_true
abbrev y19:=@decide_eq_false
abbrev y1a:=@List.mem_cons_self
abbrev y1b:=@List.mem_singleton
abbrev y1c:=@List.mem_append
abbrev y1d:=@List.getElem?_set_ne
abbrev y1e:=@Array.getElem?_toList
abbrev y1f:=@Nat.lt_of_lt_of_le
abbrev y1g:=@Array.getD_eq_getD_getElem?
abbrev y1h:=@Nat.zero_add
abbrev y1i:=@Bool.not_eq_true'
abbrev y1j:=@List.getElem?_append_right
abbrev y1k:=@Bool.eq_iff_iff
abbrev y1l:=@List.mem_range
abbrev y1m:=@Bool.true_and
abbrev y1n:=@List.length_nil
abbrev y1o:=@List.any_eq_true
abbrev y1p:=@List.drop_eq_getElem_cons
abbrev y1q:=@List.length_map
abbrev y1r:=@Nat.succ_mul
abbrev y1s:=@List.getElem?_take_of_lt
abbrev y1t:=@Option.bind_some
abbrev y1u:=@List.drop_of_length_le
abbrev y1v:=@beq_eq_false_iff_ne
abbrev y1w:=@Bool.or_eq_false_iff
abbrev y1x:=@List.mem_filter
abbrev y1y:=@List.take_length
abbrev y1z:=@Option.map_some
abbrev y20:=@List.pairwise_iff_getElem
abbrev y21:=@List.length_drop
abbrev y22:=@Array.length_toList
abbrev y23:=@List.length_set
abbrev y24:=@Int.add_zero
abbrev y25:=@List.append_assoc
abbrev y26:=@List.length_eq_zero_iff
abbrev y27:=@Bool.and_eq_false_iff
abbrev y28:=@Nat.add_mul
abbrev y29:=@Array.getElem?_eq_some_iff
abbrev y2a:=@List.contains_iff_mem
abbrev y2b:=@List.take_append_drop
abbrev y2c:=@Nat.le_trans
abbrev y2d:=@Sem.run_pure
abbrev y2e:=@List.nil_append
abbrev y2f:=@List.cons_append
abbrev y2g:=@if_false
abbrev y2h:=@List.getElem?_toArray
abbrev y2i:=@Bool.false_and
abbrev y2j:=@List.getElem_of_mem
abbrev y2k:=@Nat.lt_succ_self
abbrev y2l:=@List.size_toArray
abbrev y2m:=@of_decide_eq_true
abbrev y2n:=@List.map_cons
abbrev y2o:=@Array.getElem?_setIfInBounds_self_of_lt
abbrev y2p:=@Eq.refl
abbrev y2q:=@List.getElem?_map
abbrev y2r:=@Nat.le_succ_of_le
abbrev y2s:=@Array.getElem?_setIfInBounds_ne
abbrev y2t:=@run_underlying
abbrev y2u:=@Nat.eq_zero_or_pos
abbrev y2v:=@List.append_nil
abbrev y2w:=@List.take_of_length_le
abbrev y2x:=@List.not_mem_nil
abbrev y2y:=@List.ext_getElem?
abbrev y2z:=@List.findIdx_cons
abbrev y30:=@List.any_eq_false
abbrev y31:=@Nat.eq_of_beq_eq_true
abbrev y32:=@wpIn_mono
abbrev y33:=@List.mem_of_getElem?
abbrev y34:=@Prod.mk.injEq
abbrev y35:=@Int.tdiv_eq_ediv_of_nonneg
abbrev y36:=@Nat.zero_le
abbrev y37:=@List.map_append
abbrev y38:=@Nat.le_of_ble_eq_true
abbrev y39:=@Nat.mul_comm
abbrev y3a:=@Option.isSome_iff_exists
abbrev y3b:=@Array.toList_inj
abbrev y3c:=@congrFun
abbrev y3d:=@List.filter_cons
abbrev y3e:=@List.mem_of_mem_drop
abbrev y3f:=@Value.slice.injEq
abbrev y3g:=@Bool.not_eq_false
abbrev y3h:=@if_true
abbrev y3i:=@Array.toList_append
abbrev y3j:=@List.pairwise_cons
abbrev y3k:=@List.foldl_cons
abbrev y3l:=@Array.toArray_toList
abbrev y3m:=@List.pairwise_append
abbrev y3n:=@Nat.add_assoc
abbrev y3o:=@Bool.false_or
abbrev y3p:=@List.pairwise_singleton
abbrev y3q:=@List.filter_eq_self
abbrev y3r:=@List.mem_flatMap
abbrev y3s:=@beq_self_eq_true
abbrev y3t:=@and_true
abbrev y3u:=@List.getElem?_drop
abbrev y3v:=@of_decide_eq_false
abbrev y3w:=@List.cons.injEq
abbrev y3x:=@List.length_filter_le
abbrev y3y:=@List.Pairwise.sublist
abbrev y3z:=@List.all_cons
abbrev y40:=@Array.size_append
abbrev y41:=@Nat.div_lt_of_lt_mul
abbrev y42:=@List.getElem?_modify
abbrev y43:=@Nat.add_zero
abbrev y44:=@Option.getD_some
abbrev y45:=@Bool.not_eq_true
abbrev y46:=@List.getElem_map
abbrev y47:=@List.flatMap_append
abbrev y48:=@List.take_succ_cons
abbrev y49:=@Nat.add_sub_cancel_left
abbrev y4a:=@dif_pos
abbrev y4b:=@List.any_cons
abbrev y4c:=@Bool.and_self
abbrev y4d:=@List.nodup_cons
abbrev y4e:=@UInt8.toNat_inj
abbrev y4f:=@Option.isSome_some
abbrev y4g:=@or_false
abbrev y4h:=@List.findIdx_lt_length
abbrev y4i:=@Decidable.not_not
abbrev y4j:=@List.Pairwise.nil
abbrev y4k:=@Bool.and_false
abbrev y4l:=@not_or
abbrev y4m:=@Array.getElem?_append_left
abbrev y4n:=@Nat.div_add_mod
abbrev y4o:=@Array.mapM_eq_mapM_toList
abbrev y4p:=@List.find?_cons
abbrev y4q:=@run_convert_bytes_string
abbrev y4r:=@Int.natCast_nonneg
abbrev y4s:=@Bool.true_or
abbrev y4t:=@List.filter_append
abbrev y4u:=@Bool.true_eq_false
abbrev y4v:=@Option.isSome_none
abbrev y4w:=@size_zeroCells
abbrev y4x:=@List.drop_zero
abbrev y4y:=@List.length_range
abbrev y4z:=@List.flatMap_cons
abbrev y50:=@World.cells?_some
abbrev y51:=@Array.getElem?_eq_none
abbrev y52:=@List.findIdx_eq_length
abbrev y53:=@fenced_calm
abbrev y54:=@decide_true
abbrev y55:=@Bool.not_true
abbrev y56:=@Array.toList_map
abbrev y57:=@wpIn_seq
abbrev y58:=@List.getElem_mem
abbrev y59:=@World.size_alloc
abbrev y5a:=@List.eraseIdx_eq_take_drop_succ
abbrev y5b:=@List.range_succ
abbrev y5c:=@Nat.mod_lt
abbrev y5d:=@Option.map_none
abbrev y5e:=@Nat.sub_self
abbrev y5g:=@callsIn_wide
abbrev y5h:=@bne_iff_ne
abbrev y5i:=@Array.replicate_succ
abbrev y5j:=@Array.replicate_zero
abbrev y5k:=@Nat.not_lt_zero
abbrev y5l:=@List.all_append
abbrev y5m:=@List.findIdx_getElem
abbrev y5n:=@Nat.min_eq_left
abbrev y5o:=@Bool.or_comm
abbrev y5q:=@List.getElem?_range
abbrev y5r:=@Int.toNat_of_nonneg
abbrev y5s:=@List.append_toArray
abbrev y5t:=@List.getD_cons_zero
abbrev y5u:=@IntWalk.i64_in
abbrev y5v:=@wpIn_region
abbrev y5w:=@Int.le_refl
abbrev y5x:=@run_loadCells_list
abbrev y5y:=@decide_eq_true_iff
abbrev y5z:=@List.getElem_range
abbrev y60:=@Nat.add_sub_cancel
abbrev y61:=@List.map_take
abbrev y62:=@Bool.and_true
abbrev y63:=@Bool.or_false
abbrev y64:=@List.push_toArray
abbrev y65:=@Int.lt_trichotomy
abbrev y66:=@List.getElem_take
abbrev y67:=@List.foldl_append
abbrev y68:=@List.all_eq_false
abbrev y69:=@cond_false
end Go
namespace Go.TA
open Go
open Go.IntKind (i64)
def globs:List Nat:=[2,3]
def gtabs:List (Nat×List Value):=[]
inductive DV where
 | b (x:Bool)
 | i (k:IntKind) (n:Int)
 | str (l:Y8)
 | lit (v:Value)
 | agg (fs:List DV)
 | arr (sz n:Nat) (f:Nat->DV)
 | sl (n:Nat) (f:Nat->DV)
 deriving Inhabited
abbrev Mem:=Nat->Option (Array Value)
def leafB:Value->Bool
 | .pointer _ | .slice _ _ _ | .map none | .nilFunc | .nilIface | .chan none=>true
 | _=>false
mutual
inductive DV.Is (M:Mem):DV->List Value->Prop
 | b (x:Bool):DV.Is M (.b x) [.bool x]
 | i (k:IntKind) (n:Int):DV.Is M (.i k n) [.int k n]
 | str (l:Y8):DV.Is M (.str l) [.string ⟨l.toArray⟩]
 | lit (v:Value) (h:leafB v=true):DV.Is M (.lit v) [v]
 | agg (fs:List DV) (cs:List Value) (h:DV.IsL M fs cs):DV.Is M (.agg fs) cs
 | arr (sz n:Nat) (f:Nat->DV) (cs:Nat->List Value) (h:∀ i,i<n->DV.Is M (f i) (cs i)) (hl:∀ i,i<n->(cs i).length=sz) :
   DV.Is M (.arr sz n f) ((List.range n).flatMap cs)
 | slNil (f:Nat->DV):DV.Is M (.sl 0 f) [.slice none 0 0]
 | slEmpty (f:Nat->DV) (a:Addr) (cap:Nat):DV.Is M (.sl 0 f) [.slice (some a) 0 cap]
 | sl (n:Nat) (f:Nat->DV) (b off cap sz:Nat) (arr:Array Value) (cs:Nat->List Value) (h1:n<=cap) (h2:n<2 ^ 63) (hb:M b=some arr)
   (h:∀ i,i<n->DV.Is M (f i) (cs i)) (hl:∀ i,i<n->(cs i).length=sz)
   (hc:∀ i,i<n->∀ j,j<sz->arr[off+i * sz+j]? = (cs i)[j]?):DV.Is M (.sl n f) [.slice (some ⟨b,off,none⟩) n cap]
inductive DV.IsL (M:Mem):List DV->List Value->Prop
 | nil:DV.IsL M [] []
 | cons (x:DV) (xs:List DV) (c cs:List Value) (h:DV.Is M x c) (ht:DV.IsL M xs cs):DV.IsL M (x :: xs) (c++cs)
end
def Mem.le (M M':Mem):Prop:=∀ b arr,M b=some arr->M' b=some arr
variable {M M':Mem}
theorem Mem.le.trans {M'':Mem} (h:M.le M') (h':M'.le M''):M.le M'':=fun b a e=>h' b a (h b a e)
mutual
theorem DV.Is.mono {M M':Mem} (hM:M.le M') {x:DV} {cs:List Value}:DV.Is M x cs->DV.Is M' x cs
 | .b x=>.b x
 | .i k n=>.i k n
 | .str l=>.str l
 | .lit v h=>.lit v h
 | .agg fs cs h=>.agg fs cs (DV.IsL.mono hM h)
 | .arr sz n f cs h hl=>.arr sz n f cs (fun i hi=>DV.Is.mono hM (h i hi)) hl
 | .slNil f=>.slNil f
 | .slEmpty f a cap=>.slEmpty f a cap
 | .sl n f bk off cap sz ar cs h1 h2 hb h hl hc=>.sl n f bk off cap sz ar cs h1 h2 (hM _ _ hb) (fun i hi=>DV.Is.mono hM (h i hi)) hl hc
theorem DV.IsL.mono {M M':Mem} (hM:M.le M') {xs:List DV} {cs:List Value}:DV.IsL M xs cs->DV.IsL M' xs cs
 | .nil=>.nil
 | .cons x xs c cs h ht=>.cons x xs c cs (DV.Is.mono hM h) (DV.IsL.mono hM ht)
end
mutual
def DV.wd:DV->Nat
 | .agg fs=>DV.wdL fs
 | .arr sz n _=>n * sz
 | _=>1
def DV.wdL:List DV->Nat
 | []=>0
 | x :: xs=>x.wd+DV.wdL xs
end
theorem zb (n sz:Nat) (cs:Nat->List Value) (hl:∀ i,i<n->(cs i).length=sz):((List.range n).flatMap cs).length=n * sz:=by
 induction n with
 | zero=>simp
 | succ n ih =>
  rw[y5b,y47,yb,ih (fun i hi=>hl i om)]
  simp[hl n om,Nat.succ_mul]
theorem zi? (n sz:Nat) (cs:Nat->List Value) (hl:∀ i,i<n->(cs i).length=sz) (i j:Nat) (hi:i<n) (hj:j<sz) :
  ((List.range n).flatMap cs)[i * sz+j]? = (cs i)[j]? := by
 induction n with
 | zero=>omega
 | succ n ih =>
  have hlen:=zb n sz cs (fun i hi=>hl i om)
  rw[y5b,y47]
  by_cases h:i<n
  ·rw[yq (by
    rw[hlen]
    have:(i+1) * sz<=n * sz:=yo sz h
    rw[y1r] at this
    omega)]
   exact ih (fun i hi=>hl i om) h
  ·have:i=n:=om
   subst this
   rw[y1j (by rw[hlen]; omega),hlen]
   simp
mutual
theorem DV.Is.len {M:Mem} {x:DV} {cs:List Value}:DV.Is M x cs->cs.length=x.wd
 | .b x=>rfl
 | .i k n=>rfl
 | .str l=>rfl
 | .lit v h=>rfl
 | .agg fs cs h=>DV.IsL.len h
 | .arr sz n f cs h hl=>zb n sz cs hl
 | .slNil f=>rfl
 | .slEmpty f a cap=>rfl
 | .sl .. => rfl
theorem DV.IsL.len {M:Mem} {xs:List DV} {cs:List Value}:DV.IsL M xs cs->cs.length=DV.wdL xs
 | .nil=>rfl
 | .cons x xs c cs h ht=>by simp[DV.wdL,h.len,ht.len]
end
variable {cs:List Value} {xs:List DV}
theorem DV.IsL.field (h:DV.IsL M xs cs):∀ (k:Nat) (x:DV),xs[k]? = some x ->
  ∃ c,DV.Is M x c/\∀ j,j<c.length->cs[DV.wdL (xs.take k)+j]? = c[j]? := by
 induction xs generalizing cs with
 | nil=>intro k x hx; simp at hx
 | cons y ys ih =>
  cases h with
  | cons _ _ c cs h ht =>
  intro k x hx
  cases k with
  | zero =>
   simp at hx; subst hx
   exact⟨c,h,fun j hj=>by simp[DV.wdL,List.getElem?_append_left hj]⟩
  | succ k =>
   simp at hx
   obtain⟨c',hc',hj'⟩:=ih ht k x hx
   refine⟨c',hc',fun j hj=>?_⟩
   simp only[y48,DV.wdL]
   rw[<- h.len,y3n,y1j om]
   rw[y49]
   exact hj' j hj
inductive Stp where
 | f (idx foff:Nat)
 | x (i sz:Nat)
def Stp.off:Stp->Nat
 | .f _ o=>o
 | .x i sz=>i * sz
def pathOff:List Stp->Nat
 | []=>0
 | s :: r=>s.off+pathOff r
inductive AV where
 | d (x:DV)
 | full (n:Nat) (f:Nat->DV)
 | nq (b:Bool) (n:Nat) (f:Nat->DV)
 | err (b:Bool)
 | agg (fs:List AV)
 | ptr (o st:Nat) (path:List Stp)
 | imm (x:DV)
 | ref (o st off n:Nat)
 | map (o:Nat)
 | fn (f:FuncId) (caps:List AV)
 | bfn (f:FuncId) (bs:List AV)
 | tup (vs:List AV)
 | bot
 | sel (b:Bool) (sz:Nat) (x y:AV)
 deriving Inhabited
inductive Ob where
 | box (c:AV)
 | seq (sz n:Nat) (f:Nat->AV)
 | map (es:List (DV×DV))
 | dmap (es:List (DV×DV))
 | ex (x:Obj)
 | dead
 | unb
 deriving Inhabited
def Ob.stamp:Ob->Option Nat
 | .box _=>some 1
 | .seq _ n _=>some n
 | .map _=>some 0
 | .dmap _=>some 0
 | .ex _=>some 0
 | .dead=>none
 | .unb=>some 0
def Ob.kind:Ob->Nat
 | .box _=>0
 | .seq sz _ _=>sz+4
 | .map _=>1
 | .dmap _=>1
 | .ex _=>3
 | .dead=>2
 | .unb=>0
abbrev Blocks:=List (Option (Nat×Nat))
structure Cx where
 ms:Blocks
 M:Mem
 L:List Ob
def PtrOk (c:Cx) (o st:Nat) (path:List Stp) (v:Value):Prop :=
 o<c.L.length/\(∃ a,v = .pointer (some a))/\(∀ obj s,c.L[o]? = some obj->obj.stamp=some s->st<=s) /\
 ∀ obj,c.L[o]? = some obj->obj.stamp=some st->∃ b tc,c.ms[o]? = some (some (b,tc))/\v = .pointer (some ⟨b,pathOff path,none⟩)
def RefOk (c:Cx) (o st off n:Nat) (v:Value):Prop :=
 o<c.L.length/\(∃ a cap,v = .slice a n cap)/\(∀ obj s,c.L[o]? = some obj->obj.stamp=some s->st<=s) /\
 ∀ sz f,c.L[o]? = some (.seq sz st f)->off+n<=st /\
  ((c.ms[o]? = some none/\∃ a,v = .slice a 0 0)\/(off≠0/\n=0) \/
   ∃ b tc,c.ms[o]? = some (some (b,tc))/\st<=tc/\v = .slice (some ⟨b,off * sz,none⟩) n (tc-off))
def MapOk (c:Cx) (o:Nat) (v:Value):Prop :=
 o<c.L.length/\v.oneCell'=true/\∀ obj,c.L[o]? = some obj->obj.kind=1->∃ b tc,c.ms[o]? = some (some (b,tc))/\v = .map (some b)
def nilV:Value->Bool
 | .slice none _ _=>true
 | _=>false
def ifB:Value->Option Bool
 | .nilIface=>some false
 | .iface _ _=>some true
 | _=>none
variable {v:Value}
theorem zmg {b:Bool} (h:ifB v=some b):v.oneCell'=true:=by
 unfold ifB at h; split at h <;> first | rfl | cases h
def AV.isAgg:AV->Bool
 | .d (.agg _) | .d (.arr ..) | .agg _ | .sel .. => true
 | _=>false
mutual
inductive AV.Is (c:Cx):AV->List Value->Prop
 | d (x:DV) (cs:List Value) (h:DV.Is c.M x cs):AV.Is c (.d x) cs
 | full (n:Nat) (f:Nat->DV) (a:Option Addr) (h:DV.Is c.M (.sl n f) [.slice a n n]):AV.Is c (.full n f) [.slice a n n]
 | nq (b:Bool) (n:Nat) (f:Nat->DV) (v:Value) (h:DV.Is c.M (.sl n f) [v]) (hb:nilV v=b):AV.Is c (.nq b n f) [v]
 | err (b:Bool) (v:Value) (h:ifB v=some b):AV.Is c (.err b) [v]
 | agg (fs:List AV) (cs:List Value) (h:AV.IsL c fs cs):AV.Is c (.agg fs) cs
 | ptr (o st:Nat) (path:List Stp) (v:Value) (h:PtrOk c o st path v):AV.Is c (.ptr o st path) [v]
 | imm (x:DV) (b off:Nat) (arr:Array Value) (cs:List Value) (hb:c.M b=some arr) (h:DV.Is c.M x cs)
   (hc:∀ j,j<cs.length->arr[off+j]? = cs[j]?):AV.Is c (.imm x) [.pointer (some ⟨b,off,none⟩)]
 | ref (o st off n:Nat) (v:Value) (h:RefOk c o st off n v):AV.Is c (.ref o st off n) [v]
 | map (o:Nat) (v:Value) (h:MapOk c o v):AV.Is c (.map o) [v]
 | fn (f:FuncId) (caps:List AV) (vs:List Value) (h:AV.IsVs c caps vs):AV.Is c (.fn f caps) [.func (.func f) #[] vs.toArray]
 | bfn (f:FuncId) (bs:List AV) (vs:List Value) (h:AV.IsVs c bs vs):AV.Is c (.bfn f bs) [.func (.func f) vs.toArray #[]]
 | bot (v:Value) (h:v.oneCell'=true):AV.Is c .bot [v]
 | selT (sz:Nat) (x y:AV) (cs:List Value) (h:AV.Is c x cs) (hl:cs.length=sz):AV.Is c (.sel true sz x y) cs
 | selF (sz:Nat) (x y:AV) (cs:List Value) (h:AV.Is c y cs) (hl:cs.length=sz):AV.Is c (.sel false sz x y) cs
inductive AV.IsL (c:Cx):List AV->List Value->Prop
 | nil:AV.IsL c [] []
 | cons (x:AV) (xs:List AV) (k ks:List Value) (h:AV.Is c x k) (ht:AV.IsL c xs ks):AV.IsL c (x :: xs) (k++ks)
inductive AV.IsV (c:Cx):AV->Value->Prop
 | agg (av:AV) (cs:List Value) (ha:av.isAgg=true) (h:AV.Is c av cs):AV.IsV c av (.agg cs.toArray)
 | one (av:AV) (v:Value) (ha:av.isAgg=false) (h:AV.Is c av [v]):AV.IsV c av v
 | tup (vs:List AV) (us:List Value) (h:AV.IsVs c vs us):AV.IsV c (.tup vs) (.tuple us.toArray)
 | bot (v:Value):AV.IsV c .bot v
inductive AV.IsVs (c:Cx):List AV->List Value->Prop
 | nil:AV.IsVs c [] []
 | cons (x:AV) (xs:List AV) (v:Value) (vs:List Value) (h:AV.IsV c x v) (ht:AV.IsVs c xs vs):AV.IsVs c (x :: xs) (v :: vs)
end
structure Cx.le (c c':Cx):Prop where
 M:c.M.le c'.M
 L:c.L.length<=c'.L.length
 ob:∀ o obj',o<c.L.length->c'.L[o]? = some obj'->obj'.stamp≠none->∃ obj,c.L[o]? = some obj/\obj.kind=obj'.kind /\
  (∀ s,obj.stamp=some s->∃ s',obj'.stamp=some s'/\s<=s')/\(obj.stamp=obj'.stamp->c'.ms[o]? = c.ms[o]?)
theorem Ob.stamp_none {o:Ob}:o.stamp=none↔o = .dead:=by cases o <;> simp[Ob.stamp]
theorem Ob.kind_dead {o:Ob}:o.kind=2↔o = .dead:=by cases o <;> simp[Ob.kind]
theorem Cx.le.refl (c:Cx):c.le c :=
 ⟨fun _ _ h=>h,yc _,fun _ obj' _ h _=>⟨obj',h,rfl,fun s hs=>⟨s,hs,yc _⟩,fun _=>rfl⟩⟩
variable {c c':Cx}
theorem Cx.le.trans {c'':Cx} (h:c.le c') (h':c'.le c''):c.le c'':=by
 refine⟨h.M.trans h'.M,y2c h.L h'.L,fun o obj'' ho hl hs=>?_⟩
 obtain⟨obj',h1,h2,h3,h4⟩:=h'.ob o obj'' (y1f ho h.L) hl hs
 have hs':obj'.stamp≠none:=fun e=>by
  rw[Ob.stamp_none] at e; subst e
  exact hs (by rw[Ob.stamp_none,<- Ob.kind_dead,<- h2]; rfl)
 obtain⟨obj,k1,k2,k3,k4⟩:=h.ob o obj' ho h1 hs'
 refine⟨obj,k1,k2.trans h2,fun s hst=>?_,fun e=>?_⟩
 ·obtain⟨s1,e1,l1⟩:=k3 s hst
  obtain⟨s2,e2,l2⟩:=h3 s1 e1
  exact⟨s2,e2,y2c l1 l2⟩
 ·cases hst:obj.stamp with
  | none=>exact absurd (e.symm.trans hst) hs
  | some s =>
   obtain⟨s1,e1,l1⟩:=k3 s hst
   obtain⟨s2,e2,l2⟩:=h3 s1 e1
   have:s2=s:=by rw[<- e,hst] at e2; exact (y15 e2).symm
   have hs1:s1=s:=om
   rw[h4 (by rw[e1,e2]; congr 1; omega),k4 (by rw[hst,e1]; congr 1; omega)]
variable {st:Nat}
theorem Cx.le.stamp (hc:c.le c') {o:Nat} (ho:o<c.L.length) (h:∀ obj s,c.L[o]? = some obj->obj.stamp=some s->st<=s) (obj':Ob) (s':Nat) (hl:c'.L[o]? = some obj') (hs:obj'.stamp=some s') :
  st<=s'/\∃ obj s,c.L[o]? = some obj/\obj.stamp=some s/\obj.kind=obj'.kind/\s<=s'/\(s'=st->s=st/\c'.ms[o]? = c.ms[o]?):=by
 obtain⟨obj,k1,k2,k3,k4⟩:=hc.ob o obj' ho hl (by rw[hs]; simp)
 cases hst:obj.stamp with
 | none=>rw[Ob.stamp_none] at hst; subst hst; have:=Ob.kind_dead.1 (k2.symm.trans rfl); subst this; cases hs
 | some s =>
  obtain⟨s1,e,l⟩:=k3 s hst
  rw[hs] at e; cases e
  have:=h obj s k1 hst
  exact⟨y2c this l,obj,s,k1,hst,k2,l,fun e=>⟨om,k4 (by rw[hst,hs]; congr 1; omega)⟩⟩
theorem PtrOk.mono (hc:c.le c') {o:Nat} {path:List Stp} (h:PtrOk c o st path v):PtrOk c' o st path v:=by
 obtain⟨h1,h2,h0,h3⟩:=h
 refine⟨y1f h1 hc.L,h2,fun obj' s' hl hs=>(hc.stamp h1 h0 obj' s' hl hs).1,fun obj' hl hs=>?_⟩
 obtain⟨_,obj,s,k1,k2,_,_,k4⟩:=hc.stamp h1 h0 obj' st hl hs
 obtain⟨rfl,k5⟩:=k4 rfl
 rw[k5]
 exact h3 obj k1 k2
variable {n sz:Nat}
theorem Ob.kind_seq {o:Ob} {f:Nat->AV} (h:o.kind=(Ob.seq sz n f).kind):∃ n' f',o = .seq sz n' f':=by
 cases o <;> simp[Ob.kind] at h
 rename_i sz' n' f'
 obtain rfl:sz'=sz:=om
 exact⟨n',f',rfl⟩
theorem Ob.kind_map {o:Ob} (h:o.kind=1):o.stamp=some 0:=by
 cases o <;> simp[Ob.kind] at h <;> rfl
theorem RefOk.mono (hc:c.le c') {o off:Nat} (h:RefOk c o st off n v):RefOk c' o st off n v:=by
 obtain⟨h1,h2,h0,h3⟩:=h
 refine⟨y1f h1 hc.L,h2,fun obj' s' hl hs=>(hc.stamp h1 h0 obj' s' hl hs).1,fun sz f hl=>?_⟩
 obtain⟨_,obj,s,k1,k2,k3,_,k4⟩:=hc.stamp h1 h0 _ st hl rfl
 obtain⟨rfl,k5⟩:=k4 rfl
 obtain⟨n',f',rfl⟩:=Ob.kind_seq k3
 simp[Ob.stamp] at k2; subst k2
 rw[k5]
 exact h3 sz f' k1
theorem MapOk.mono (hc:c.le c') {o:Nat} (h:MapOk c o v):MapOk c' o v:=by
 obtain⟨h1,h2,h3⟩:=h
 refine⟨y1f h1 hc.L,h2,fun obj' hl hk=>?_⟩
 obtain⟨obj,k1,k2,k3,k4⟩:=hc.ob o _ h1 hl (by simp[Ob.kind_map hk])
 rw[k4 ((Ob.kind_map (k2.trans hk)).trans (Ob.kind_map hk).symm)]
 exact h3 obj k1 (k2.trans hk)
mutual
theorem AV.Is.mono {c c':Cx} (hc:c.le c') {x:AV} {cs:List Value}:AV.Is c x cs->AV.Is c' x cs
 | .d x cs h=>.d x cs (h.mono hc.M)
 | .full n f a h=>.full n f a (h.mono hc.M)
 | .nq b n f v h hb=>.nq b n f v (h.mono hc.M) hb
 | .err b v h=>.err b v h
 | .agg gs cs h=>.agg gs cs (AV.IsL.mono hc h)
 | .ptr o st path v h=>.ptr o st path v (h.mono hc)
 | .imm x b off ar cs hb h hc'=>.imm x b off ar cs (hc.M _ _ hb) (h.mono hc.M) hc'
 | .ref o st off n v h=>.ref o st off n v (h.mono hc)
 | .map o v h=>.map o v (h.mono hc)
 | .fn f caps vs h=>.fn f caps vs (AV.IsVs.mono hc h)
 | .bfn f caps vs h=>.bfn f caps vs (AV.IsVs.mono hc h)
 | .bot v h=>.bot v h
 | .selT sz x y cs h hl=>.selT sz x y cs (AV.Is.mono hc h) hl
 | .selF sz x y cs h hl=>.selF sz x y cs (AV.Is.mono hc h) hl
theorem AV.IsL.mono {c c':Cx} (hc:c.le c') {xs:List AV} {cs:List Value}:AV.IsL c xs cs->AV.IsL c' xs cs
 | .nil=>.nil
 | .cons x xs k ks h ht=>.cons x xs k ks (AV.Is.mono hc h) (AV.IsL.mono hc ht)
theorem AV.IsV.mono {c c':Cx} (hc:c.le c') {x:AV} {v:Value}:AV.IsV c x v->AV.IsV c' x v
 | .agg av cs ha h=>.agg av cs ha (AV.Is.mono hc h)
 | .one av v ha h=>.one av v ha (AV.Is.mono hc h)
 | .tup vs us h=>.tup vs us (AV.IsVs.mono hc h)
 | .bot v=>.bot v
theorem AV.IsVs.mono {c c':Cx} (hc:c.le c') {xs:List AV} {vs:List Value}:AV.IsVs c xs vs->AV.IsVs c' xs vs
 | .nil=>.nil
 | .cons x xs v vs h ht=>.cons x xs v vs (AV.IsV.mono hc h) (AV.IsVs.mono hc ht)
end
mutual
theorem DV.Is.one {M:Mem} {x:DV} {cs:List Value}:DV.Is M x cs->∀ v∈cs,v.oneCell'=true
 | .b x=>fun v hv=>by simp at hv; subst hv; rfl
 | .i k n=>fun v hv=>by simp at hv; subst hv; rfl
 | .str l=>fun v hv=>by simp at hv; subst hv; rfl
 | .lit v h=>fun u hu=>by simp at hu; subst hu; unfold leafB at h; split at h <;> first | rfl | cases h
 | .agg fs cs h=>DV.IsL.one h
 | .arr sz n f cs h hl=>fun v hv=>by
  obtain⟨i,hi,hvi⟩:=y3r.1 hv
  exact DV.Is.one (h i (y1l.1 hi)) v hvi
 | .slNil f=>fun v hv=>by simp at hv; subst hv; rfl
 | .slEmpty f a cap=>fun v hv=>by simp at hv; subst hv; rfl
 | .sl .. => fun v hv=>by simp at hv; subst hv; rfl
theorem DV.IsL.one {M:Mem} {xs:List DV} {cs:List Value}:DV.IsL M xs cs->∀ v∈cs,v.oneCell'=true
 | .nil=>fun v hv=>by simp at hv
 | .cons x xs c cs h ht=>fun v hv=>(y1c.1 hv).elim (DV.Is.one h v) (DV.IsL.one ht v)
end
mutual
theorem AV.Is.one {c:Cx} {x:AV} {cs:List Value}:AV.Is c x cs->∀ v∈cs,v.oneCell'=true
 | .d x cs h=>DV.Is.one h
 | .full n f a h=>fun v hv=>by simp at hv; subst hv; rfl
 | .nq b n f v h hb=>DV.Is.one h
 | .err b v h=>fun u hu=>by simp at hu; subst hu; exact zmg h
 | .agg gs cs h=>AV.IsL.one h
 | .ptr o st path v h=>fun u hu=>by simp at hu; subst hu; obtain⟨_,⟨a,rfl⟩,_⟩:=h; rfl
 | .imm x b off ar cs hb h hc'=>fun v hv=>by simp at hv; subst hv; rfl
 | .ref o st off n v h=>fun u hu=>by simp at hu; subst hu; obtain⟨_,⟨a,cap,rfl⟩,_⟩:=h; rfl
 | .map o v h=>fun u hu=>by simp at hu; subst hu; exact h.2.1
 | .fn f caps vs h=>fun v hv=>by simp at hv; subst hv; rfl
 | .bfn f caps vs h=>fun v hv=>by simp at hv; subst hv; rfl
 | .bot v h=>fun u hu=>by simp at hu; subst hu; exact h
 | .selT sz x y cs h hl=>AV.Is.one h
 | .selF sz x y cs h hl=>AV.Is.one h
theorem AV.IsL.one {c:Cx} {xs:List AV} {cs:List Value}:AV.IsL c xs cs->∀ v∈cs,v.oneCell'=true
 | .nil=>fun v hv=>by simp at hv
 | .cons x xs k ks h ht=>fun v hv=>(y1c.1 hv).elim (AV.Is.one h v) (AV.IsL.one ht v)
end
def owned (ms:Blocks) (b:Nat):Prop:=∃ o tc:Nat,ms[o]? = some (some (b,tc))
open Classical in
noncomputable def memOf (X:Nat->Prop) (ms:Blocks) (w:World):Mem:=fun b =>
 if X b\/owned ms b then none else match w.heap[b]? with
  | some (.cells arr _ _)=>some arr
  | _=>none
noncomputable def cxOf (X:Nat->Prop) (ms:Blocks) (L:List Ob) (w:World):Cx:=⟨ms,memOf X ms w,L⟩
def EntsIs (c:Cx):List (DV×DV)->List MapEntry->Prop
 | [],[]=>True
 | (k,v) :: es,e :: r=>AV.IsV c (.d k) e.key/\AV.IsV c (.d v) e.val/\EntsIs c es r
 | _,_=>False
def Born (n clock:Nat) (r:List MapEntry):Prop:=clock=n/\∀ (i:Nat) (e:MapEntry),r[i]? = some e->e.born=i
def ObIs (c:Cx) (w:World) (o:Nat):Ob->Prop
 | .box x=>c.ms[o]? = some none\/∃ b tc arr e,c.ms[o]? = some (some (b,tc))/\w.heap[b]? = some (.cells arr e (0,0))/\AV.Is c x arr.toList
 | .seq sz n f=>(c.ms[o]? = some none/\n=0)\/∃ b tc arr e,∃ cs:Nat->List Value,c.ms[o]? = some (some (b,tc))/\w.heap[b]? = some (.cells arr e (0,0)) /\
   n<=tc/\(arr.size=tc * sz/\∀ v∈arr.toList,v.oneCell'=true)/\(∀ i,i<n->AV.Is c (f i) (cs i))/\(∀ i,i<n->(cs i).length=sz) /\
   (∀ i,i<n->∀ j,j<sz->arr[i * sz+j]? = (cs i)[j]?)
 | .map es=>∃ b tc ents clock,c.ms[o]? = some (some (b,tc))/\w.heap[b]? = some (.map ents clock)/\EntsIs c es ents.toList/\Born es.length clock ents.toList
 | .dmap es=>∃ b tc ents clock,c.ms[o]? = some (some (b,tc))/\w.heap[b]? = some (.map ents clock)/\EntsIs c es ents.toList
 | .ex x=>∃ b tc,c.ms[o]? = some (some (b,tc))/\w.heap[b]? = some x
 | .dead=>True
 | .unb=>c.ms[o]? = some none
def errB:Value->Bool
 | .nilIface | .iface _ _=>true
 | _=>false
def GlobOk (M:Mem):Prop:=(∀ b∈globs,∃ v,M b=some #[v]/\errB v=true)/\∀ p∈gtabs,M p.1=some p.2.toArray
theorem GlobOk.mono (hM:M.le M') (h:GlobOk M):GlobOk M':=⟨fun b hb=>let ⟨v,h1,h2⟩:=h.1 b hb; ⟨v,hM _ _ h1,h2⟩,fun p hp=>hM _ _ (h.2 p hp)⟩
structure Rel (X:Nat->Prop) (ms:Blocks) (L:List Ob) (w:World):Prop where
 len:ms.length=L.length
 lt:∀ b,owned ms b->b<w.heap.size/\¬ X b
 xlt:∀ b,X b->b<w.heap.size
 inj:∀ (o o' b tc tc':Nat),ms[o]? = some (some (b,tc))->ms[o']? = some (some (b,tc'))->o=o'
 obs:∀ o obj,L[o]? = some obj->ObIs (cxOf X ms L w) w o obj
 glob:GlobOk (memOf X ms w)
structure SameOut (w w':World):Prop where
 os:w'.os=w.os
 tape:w'.tape=w.tape
 output:w'.output=w.output
theorem SameOut.refl (w:World):SameOut w w:=⟨rfl,rfl,rfl⟩
variable {w w' w'':World}
theorem SameOut.trans (h:SameOut w w') (h':SameOut w' w''):SameOut w w'':=⟨h'.os.trans h.os,h'.tape.trans h.tape,h'.output.trans h.output⟩
structure Ext (ms:Blocks) (w:World) (ms':Blocks) (w':World):Prop where
 size:w.heap.size<=w'.heap.size
 keep:∀ b,b<w.heap.size->¬ owned ms b->w'.heap[b]? = w.heap[b]? /\ ¬ owned ms' b
 out:SameOut w w'
theorem Ext.refl (ms:Blocks) (w:World):Ext ms w ms w:=⟨yc _,fun _ _ h=>⟨rfl,h⟩,SameOut.refl w⟩
variable {ms ms':Blocks}
theorem Ext.trans {ms'':Blocks} (h:Ext ms w ms' w') (h':Ext ms' w' ms'' w''):Ext ms w ms'' w'' :=
 ⟨y2c h.size h'.size,fun b hb ho=>by
  obtain⟨h1,h2⟩:=h.keep b hb ho
  obtain⟨h3,h4⟩:=h'.keep b (y1f hb h.size) h2
  exact⟨h3.trans h1,h4⟩,h.out.trans h'.out⟩
variable {X:Nat->Prop} {arr:Array Value}
theorem z26 {b:Nat} (h:memOf X ms w b=some arr) :
  ¬ X b/\¬ owned ms b/\∃ e fz,w.heap[b]? = some (.cells arr e fz):=by
 unfold memOf at h
 split at h
 ·cases h
 ·rename_i hn
  have hn':¬ X b/\¬ owned ms b:=⟨fun hx=>hn (.inl hx),fun ho=>hn (.inr ho)⟩
  refine⟨hn'.1,hn'.2,?_⟩
  split at h
  ·rename_i e fz he
   cases h
   exact⟨e,fz,he⟩
  ·cases h
variable {e:TypeId} {fz:Nat×Nat}
theorem z1j {b:Nat} (h1:¬ X b) (h2:¬ owned ms b) (h:w.heap[b]? = some (.cells arr e fz)):memOf X ms w b=some arr:=by
 unfold memOf
 rw[y6 (by rintro (h | h); exact h1 h; exact h2 h),h]
theorem z49 {b:Nat} {o:Obj} (h:w.heap[b]? = some o):b<w.heap.size:=by
 rcases yu b w.heap.size with hl | hl
 ·exact hl
 ·rw[y51 hl] at h; cases h
theorem Ext.memLe (h:Ext ms w ms' w'):(memOf X ms w).le (memOf X ms' w'):=by
 intro b arr hb
 obtain⟨h1,h2,e,fz,h3⟩:=z26 hb
 obtain⟨k1,k2⟩:=h.keep b (z49 h3) h2
 exact z1j h1 k2 (k1.trans h3)
mutual
def AV.wd:AV->Nat
 | .d x=>x.wd
 | .agg fs=>AV.wdL fs
 | .sel _ sz _ _=>sz
 | _=>1
def AV.wdL:List AV->Nat
 | []=>0
 | x :: xs=>x.wd+AV.wdL xs
end
mutual
theorem AV.Is.len {c:Cx} {x:AV} {cs:List Value}:AV.Is c x cs->cs.length=x.wd
 | .d x cs h=>by simpa [AV.wd] using h.len
 | .full .. => rfl
 | .nq .. => rfl
 | .err .. => rfl
 | .agg gs cs h=>by simpa [AV.wd] using AV.IsL.len h
 | .ptr .. => rfl
 | .imm .. => rfl
 | .ref .. => rfl
 | .map .. => rfl
 | .fn .. => rfl
 | .bfn .. => rfl
 | .bot v h=>rfl
 | .selT sz x y cs h hl=>hl
 | .selF sz x y cs h hl=>hl
theorem AV.IsL.len {c:Cx} {xs:List AV} {cs:List Value}:AV.IsL c xs cs->cs.length=AV.wdL xs
 | .nil=>rfl
 | .cons x xs c cs h ht=>by simp[AV.wdL,h.len,ht.len]
end
def At (cs:List Value) (off:Nat) (k:List Value):Prop:=∀ j,j<k.length->cs[off+j]? = k[j]?
theorem At.refl (cs:List Value):At cs 0 cs:=fun j _=>sj
variable {k l:List Value} {o':Nat}
theorem At.trans {o:Nat} (h:At cs o k) (h':At k o' l):At cs (o+o') l:=fun j hj=>by
 have e:=h' j hj
 have hlt:o'+j<k.length:=by
  rcases yu (o'+j) k.length with hl | hl
  ·exact hl
  ·rw[yf hl,yh hj] at e; cases e
 rw[y3n,h _ hlt,e]
theorem DV.IsL.at (h:DV.IsL M xs cs) (k:Nat) (x:DV) (hx:xs[k]? = some x) :
  ∃ c,DV.Is M x c/\At cs (DV.wdL (xs.take k)) c:=h.field k x hx
theorem AV.IsL.at {c:Cx} {xs:List AV} {cs:List Value} (h:AV.IsL c xs cs):∀ (k:Nat) (x:AV),xs[k]? = some x ->
  ∃ l,AV.Is c x l/\At cs (AV.wdL (xs.take k)) l:=by
 induction xs generalizing cs with
 | nil=>intro k x hx; simp at hx
 | cons y ys ih =>
  cases h with
  | cons _ _ l ls h ht =>
  intro k x hx
  cases k with
  | zero =>
   simp at hx; subst hx
   exact⟨l,h,fun j hj=>by simp[AV.wdL,List.getElem?_append_left hj]⟩
  | succ k =>
   simp at hx
   obtain⟨l',hl',hj'⟩:=ih ht k x hx
   refine⟨l',hl',fun j hj=>?_⟩
   simp only[y48,AV.wdL]
   rw[<- h.len,y3n,y1j om,y49]
   exact hj' j hj
def AV.into:AV->Stp->Option AV
 | .d (.agg fs),.f i o=>if DV.wdL (fs.take i)=o then (fs[i]?).map .d else none
 | .agg fs,.f i o=>if AV.wdL (fs.take i)=o then fs[i]? else none
 | .d (.arr sz _ f),.x i sz'=>if sz=sz' then some (.d (f i)) else none
 | _,_=>none
def AV.intoC:AV->Stp->Prop
 | .d (.arr _ n _),.x i _=>i<n
 | _,_=>True
variable {x a:AV}
theorem AV.into_is {s:Stp} (h:AV.Is c a cs) (hx:a.into s=some x) (hc:a.intoC s) :
  ∃ k,AV.Is c x k/\At cs s.off k:=by
 unfold AV.into at hx
 split at hx
 ·rename_i fs i o
  split at hx
  ·rename_i ho
   cases hf:fs[i]? with
   | none=>simp[hf] at hx
   | some y =>
    simp[hf] at hx; subst hx
    cases h with
    | d _ _ h =>
    cases h with
    | agg _ _ h =>
    obtain⟨k,h1,h2⟩:=h.at i y hf
    exact⟨k,.d _ _ h1,by simpa [Stp.off,ho] using h2⟩
  ·cases hx
 ·rename_i fs i o
  split at hx
  ·rename_i ho
   cases h with
   | agg _ _ h =>
   obtain⟨k,h1,h2⟩:=h.at i x hx
   exact⟨k,h1,by simpa [Stp.off,ho] using h2⟩
  ·cases hx
 ·rename_i sz n f i sz'
  split at hx
  ·rename_i hs
   subst hs
   cases hx
   cases h with
   | d _ _ h =>
   cases h with
   | arr _ _ _ ks h hl =>
   have hi:i<n:=hc
   refine⟨ks i,.d _ _ (h i hi),fun j hj=>?_⟩
   rw[hl i hi] at hj
   exact zi? n sz ks hl i j hi hj
  ·cases hx
 ·cases hx
def AV.get:AV->List Stp->Option AV
 | a,[]=>some a
 | a,s :: r=>(a.into s).bind fun x=>x.get r
def AV.getC:AV->List Stp->Prop
 | _,[]=>True
 | a,s :: r=>a.intoC s/\match a.into s with
  | some x=>x.getC r
  | none=>True
theorem AV.get_is:∀ (p:List Stp) {a x:AV} {cs:List Value},AV.Is c a cs->a.get p=some x->a.getC p->∃ k,AV.Is c x k/\At cs (pathOff p) k
 | [],a,x,cs,h,hx,_=>by simp[AV.get] at hx; subst hx; exact⟨cs,h,At.refl cs⟩
 | s :: r,a,x,cs,h,hx,hc=>by
  simp only[AV.get] at hx
  cases hs:a.into s with
  | none=>simp[hs] at hx
  | some y =>
   simp[hs] at hx
   simp only[AV.getC,hs] at hc
   obtain⟨k,h1,h2⟩:=AV.into_is h hs hc.1
   obtain⟨l,h3,h4⟩:=AV.get_is r h1 hx hc.2
   exact⟨l,h3,h2.trans h4⟩
def splice (cs:List Value) (off:Nat) (k:List Value):List Value:=cs.take off++k++cs.drop (off+k.length)
theorem z1k {off:Nat} (h:off+k.length<=cs.length):(splice cs off k).length=cs.length:=by
 simp[splice]; omega
theorem zt? {off:Nat} (h:off+k.length<=cs.length) (j:Nat) :
  (splice cs off k)[j]? = if off<=j/\j<off+k.length then k[j-off]? else cs[j]? := by
 unfold splice
 by_cases h1:j<off
 ·rw[y6 om,y25,yq sk,y1s h1]
 ·by_cases h2:j<off+k.length
  ·rw[y7 ⟨om,h2⟩,y25,y1j sk,yq sk]
   congr 1
   simp; omega
  ·rw[y6 om,y25,y1j sk,y1j sk]
   simp only[yx,y3u]
   congr 1
   omega
theorem At.le {off:Nat} (h:At cs off k) (hk:0<k.length):off+k.length<=cs.length:=by
 have e:=h (k.length-1) om
 rcases yu (off+(k.length-1)) cs.length with hl | hl
 ·omega
 ·rw[yf hl,yh om] at e; cases e
theorem zfh {o:Nat} (h:At cs o l) (hl:o+l.length<=cs.length) (hk:o'+k.length<=l.length) :
  splice cs o (splice l o' k)=splice cs (o+o') k:=by
 apply y2y
 intro j
 have hs:=z1k hk
 rw[zt? (cs:=cs) (k:=splice l o' k) om,zt? (cs:=cs) (k:=k) om,hs]
 by_cases h1:o<=j/\j<o+l.length
 ·rw[y7 h1,zt? hk]
  by_cases h2:o+o'<=j/\j<o+o'+k.length
  ·rw[y7 h2,y7 om]; congr 1; omega
  ·rw[y6 h2,y6 om]
   have:=h (j-o) om
   rw[<- this]; congr 1; omega
 ·rw[y6 h1,y6 om]
theorem zfi (h:k.length=cs.length):splice cs 0 k=k:=by
 simp[splice,h]
def AV.over:AV->Stp->AV->Option AV
 | .d (.agg fs),.f i _,.d y=>some (.d (.agg (fs.set i y)))
 | .d (.agg fs),.f i _,y=>some (.agg ((fs.map AV.d).set i y))
 | .agg fs,.f i _,y=>some (.agg (fs.set i y))
 | .d (.arr sz n f),.x i _,.d y=>some (.d (.arr sz n (fun j=>if j=i then y else f j)))
 | _,_,_=>none
theorem DV.IsL.set:∀ {xs:List DV} {cs:List Value},DV.IsL M xs cs->∀ (k:Nat) (x y:DV) (l:List Value),xs[k]? = some x->DV.Is M y l->y.wd=x.wd ->
  DV.IsL M (xs.set k y) (splice cs (DV.wdL (xs.take k)) l)
 | [],_,_,k,x,y,l,hx,_,_=>by simp at hx
 | z :: zs,_,.cons _ _ c cs h ht,0,x,y,l,hx,hy,hw=>by
  simp at hx; subst hx
  have:splice (c++cs) (DV.wdL ([]:List DV)) l=l++cs:=by
   have e:l.length=c.length:=by rw[hy.len,h.len,hw]
   simp[splice,DV.wdL,e]
  simp only[List.take_zero,List.set_cons_zero]
  rw[this]
  exact .cons _ _ _ _ hy ht
 | z :: zs,_,.cons _ _ c cs h ht,k+1,x,y,l,hx,hy,hw=>by
  simp at hx
  have ih:=DV.IsL.set ht k x y l hx hy hw
  have:splice (c++cs) (DV.wdL ((z :: zs).take (k+1))) l=c++splice cs (DV.wdL (zs.take k)) l:=by
   simp only[y48,DV.wdL,splice]
   rw[<- h.len,List.take_append,y2w om,y49,List.drop_append,y1u om]
   simp[Nat.add_assoc]
  rw[this,List.set_cons_succ]
  exact .cons _ _ _ _ h ih
theorem AV.IsL.set:∀ {xs:List AV} {cs:List Value},AV.IsL c xs cs->∀ (k:Nat) (x y:AV) (l:List Value),xs[k]? = some x->AV.Is c y l->y.wd=x.wd ->
  AV.IsL c (xs.set k y) (splice cs (AV.wdL (xs.take k)) l)
 | [],_,_,k,x,y,l,hx,_,_=>by simp at hx
 | z :: zs,_,.cons _ _ c cs h ht,0,x,y,l,hx,hy,hw=>by
  simp at hx; subst hx
  have:splice (c++cs) (AV.wdL ([]:List AV)) l=l++cs:=by
   have e:l.length=c.length:=by rw[hy.len,h.len,hw]
   simp[splice,AV.wdL,e]
  simp only[List.take_zero,List.set_cons_zero]
  rw[this]
  exact .cons _ _ _ _ hy ht
 | z :: zs,_,.cons _ _ c cs h ht,k+1,x,y,l,hx,hy,hw=>by
  simp at hx
  have ih:=AV.IsL.set ht k x y l hx hy hw
  have:splice (c++cs) (AV.wdL ((z :: zs).take (k+1))) l=c++splice cs (AV.wdL (zs.take k)) l:=by
   simp only[y48,AV.wdL,splice]
   rw[<- h.len,List.take_append,y2w om,y49,List.drop_append,y1u om]
   simp[Nat.add_assoc]
  rw[this,List.set_cons_succ]
  exact .cons _ _ _ _ h ih
theorem AV.IsL.of_d:∀ {xs:List DV} {cs:List Value},DV.IsL c.M xs cs->AV.IsL c (xs.map AV.d) cs
 | [],_,.nil=>.nil
 | _ :: _,_,.cons _ _ _ _ h ht=>.cons _ _ _ _ (.d _ _ h) (AV.IsL.of_d ht)
theorem AV.wdL_d:∀ (xs:List DV),AV.wdL (xs.map AV.d)=DV.wdL xs
 | []=>rfl
 | x :: xs=>by simp[AV.wdL,DV.wdL,AV.wd,AV.wdL_d xs]
theorem z9c (n sz:Nat) (cs:Nat->List Value) (hl:∀ i,i<n->(cs i).length=sz) (i:Nat) (hi:i<n) (l:List Value) (hll:l.length=sz) :
  (List.range n).flatMap (fun j=>if j=i then l else cs j)=splice ((List.range n).flatMap cs) (i * sz) l:=by
 have hl':∀ j,j<n->((fun j=>if j=i then l else cs j) j).length=sz:=fun j hj=>by
  by_cases h:j=i
  ·simp[h,hll]
  ·simp[h,hl j hj]
 have hlen:=zb n sz cs hl
 have hlen':=zb n sz _ hl'
 have hb:i * sz+l.length<=((List.range n).flatMap cs).length:=by
  rw[hlen,hll,<- y1r]
  exact yo sz hi
 apply y2y
 intro p
 rw[zt? hb]
 by_cases hp:p<n * sz
 ·have hsz:0<sz:=by
   rcases y2u sz with h | h
   ·subst h; simp at hp
   ·exact h
  have hq:p / sz<n:=y41 (by rw[y39]; exact hp)
  have hr:p % sz<sz:=y5c _ hsz
  have hpd:p=p / sz * sz+p % sz:=by rw[y39]; exact (y4n p sz).symm
  have e1:=zi? n sz _ hl' (p / sz) (p % sz) hq hr
  have e2:=zi? n sz cs hl (p / sz) (p % sz) hq hr
  rw[<- hpd] at e1 e2
  rw[e1,e2,hll]
  by_cases h:p / sz=i
  ·rw[y7 h,y7 (by rw[<- h]; omega)]
   congr 1
   rw[<- h]; omega
  ·rw[y6 h,y6]
   intro ⟨h1,h2⟩
   apply h
   have h3:i<=p / sz:=(Nat.le_div_iff_mul_le hsz).2 h1
   have h4:p / sz<i+1:=y41 (by rw[y39,y1r]; exact h2)
   omega
 ·rw[yf om,y6,yf om]
  intro ⟨h1,h2⟩
  rw[hlen] at hb
  omega
variable {y:AV}
theorem AV.over_is {a':AV} {s:Stp} (h:AV.Is c a cs) (hx:a.into s=some x) (hc:a.intoC s) (ho:a.over s y=some a') (hy:AV.Is c y l) (hw:y.wd=x.wd):AV.Is c a' (splice cs s.off l)/\a'.wd=a.wd/\a'.isAgg=a.isAgg:=by
 unfold AV.into at hx
 split at hx
 ·rename_i fs i o
  split at hx
  ·rename_i hof
   cases hf:fs[i]? with
   | none=>simp[hf] at hx
   | some z =>
    simp[hf] at hx; subst hx
    cases h with
    | d _ _ h =>
    cases h with
    | agg _ _ h =>
    have hgen:AV.Is c (.agg ((fs.map AV.d).set i y)) (splice cs (Stp.f i o).off l):=by
     have:=AV.IsL.set (AV.IsL.of_d h) i (.d z) y l (by simp[hf]) hy hw
     rw[<- y61,AV.wdL_d,hof] at this
     exact .agg _ _ this
    have hlen:(splice cs (Stp.f i o).off l).length=(AV.d (DV.agg fs)).wd:=by
     obtain⟨k,hk,hat⟩:=h.at i z hf
     have h1:l.length=k.length:=by rw[hy.len,hw,hk.len]; rfl
     rw[hof] at hat
     by_cases h0:0<k.length
     ·have:=hat.le h0
      rw[z1k (by simp[Stp.off]; omega),h.len]; rfl
     ·have hl0:l=[]:=y26.1 om
      have:=h.len
      simp[splice,hl0,Stp.off,AV.wd,DV.wd,this]
    cases y with
    | d y' =>
     simp only[AV.over,yw] at ho
     subst ho
     cases hy with
     | d _ _ hy =>
     have:=DV.IsL.set h i z y' l hf hy hw
     rw[hof] at this
     have h':AV.Is c (.d (.agg (fs.set i y'))) (splice cs (Stp.f i o).off l):=.d _ _ (.agg _ _ this)
     exact⟨h',by rw[<- h'.len,hlen],rfl⟩
    | _ =>
     simp only[AV.over,yw] at ho
     subst ho
     exact⟨hgen,by rw[<- hgen.len,hlen],rfl⟩
  ·cases hx
 ·rename_i fs i o
  split at hx
  ·rename_i hof
   cases h with
   | agg _ _ h =>
   simp[AV.over] at ho; subst ho
   have:=AV.IsL.set h i x y l hx hy hw
   rw[hof] at this
   have h':AV.Is c (.agg (fs.set i y)) (splice cs (Stp.f i o).off l):=.agg _ _ this
   refine⟨h',?_,rfl⟩
   obtain⟨k,hk,hat⟩:=h.at i x hx
   have h1:l.length=k.length:=by rw[hy.len,hw,hk.len]
   rw[hof] at hat
   rw[<- h'.len]
   by_cases h0:0<k.length
   ·have:=hat.le h0
    rw[z1k (by simp[Stp.off]; omega),h.len]; rfl
   ·have hl0:l=[]:=y26.1 om
    have:=h.len
    simp[splice,hl0,Stp.off,AV.wd,this]
  ·cases hx
 ·rename_i sz n f i sz'
  split at hx
  ·rename_i hs
   subst hs
   cases hx
   cases h with
   | d _ _ h =>
   cases h with
   | arr _ _ _ ks h hl =>
   have hi:i<n:=hc
   cases y with
   | d y' =>
    simp only[AV.over,yw] at ho
    subst ho
    cases hy with
    | d _ _ hy =>
    have hll:l.length=sz:=by
     rw[hy.len,<- hl i hi,(h i hi).len]; exact hw
    have h':AV.Is c (.d (.arr sz n (fun j=>if j=i then y' else f j))) (splice ((List.range n).flatMap ks) (Stp.x i sz).off l):=by
     rw[show (Stp.x i sz).off=i * sz from rfl,<- z9c n sz ks hl i hi l hll]
     refine .d _ _ (.arr _ _ _ _ (fun j hj=>?_) (fun j hj=>?_))
     ·by_cases hji:j=i
      ·simp[hji,hy]
      ·simp[hji,h j hj]
     ·by_cases hji:j=i
      ·simp[hji,hll]
      ·simp[hji,hl j hj]
    exact⟨h',rfl,rfl⟩
   | _=>simp[AV.over] at ho
  ·cases hx
 ·cases hx
def AV.set:AV->List Stp->AV->Option AV
 | a,[],y=>if y.wd=a.wd then some y else none
 | a,s :: r,y=>(a.into s).bind fun x=>(x.set r y).bind fun x'=>a.over s x'
theorem AV.set_is:∀ (p:List Stp) {a y a':AV} {cs l:List Value},AV.Is c a cs->a.set p y=some a'->a.getC p->AV.Is c y l ->
  AV.Is c a' (splice cs (pathOff p) l)/\a'.wd=a.wd/\(l.length=0\/pathOff p+l.length<=cs.length)
 | [],a,y,a',cs,l,h,hs,_,hy=>by
  simp only[AV.set] at hs
  split at hs
  ·rename_i hw
   cases hs
   have:l.length=cs.length:=by rw[hy.len,h.len,hw]
   rw[show pathOff []=0 from rfl,zfi this]
   exact⟨hy,hw,.inr om⟩
  ·cases hs
 | s :: r,a,y,a',cs,l,h,hs,hc,hy=>by
  simp only[AV.set] at hs
  cases hi:a.into s with
  | none=>simp[hi] at hs
  | some x =>
   cases hx:x.set r y with
   | none=>simp[hi,hx] at hs
   | some x' =>
    simp[hi,hx] at hs
    simp only[AV.getC,hi] at hc
    obtain⟨k,hk,hat⟩:=AV.into_is h hi hc.1
    obtain⟨h1,h2,h3⟩:=AV.set_is r hk hx hc.2 hy
    obtain⟨h4,h5,_⟩:=AV.over_is h hi hc.1 hs h1 h2
    by_cases h0:l.length=0
    ·have hl0:l=[]:=y26.1 h0
     subst hl0
     refine⟨?_,h5,.inl rfl⟩
     have e1:splice k (pathOff r) []=k:=by simp[splice]
     have e2:splice cs (pathOff (s :: r)) []=cs:=by simp[splice]
     rw[e1] at h4
     rw[e2]
     have e3:splice cs s.off k=cs:=by
      by_cases hk0:0<k.length
      ·apply y2y
       intro j
       rw[zt? (hat.le hk0)]
       split
       ·rename_i hj
        have:=hat (j-s.off) om
        rw[<- this]; congr 1; omega
       ·rfl
      ·have:k=[]:=y26.1 om
       simp[splice,this]
     rwa [e3] at h4
    ·have h3':=h3.resolve_left h0
     have hb:=hat.le om
     rw[zfh hat hb h3'] at h4
     exact⟨h4,h5,.inr (by simp only[pathOff]; omega)⟩
abbrev Chain:=List (Nat×Bool)
abbrev GFr:=List (Nat×Chain×AV)
def GFr.get:GFr->Nat->Option (Chain×AV)
 | [],_=>none
 | (s,e) :: r,t=>if s==t then some e else GFr.get r t
def GFr.rm (G:GFr) (t:Nat):GFr:=G.filter fun x=>x.1 != t&&x.2.1.all fun y=>y.1 != t
def GFr.put (G:GFr) (t:Nat) (ch:Chain) (av:AV):GFr:=(t,ch,av) :: G.rm t
def holds (ch:Chain) (tmps:Array Value):Prop:=∀ y∈ch,tmps.getD y.1 undef = .bool y.2
def SlotIs (c:Cx) (tmps:Array Value) (x:Nat×Chain×AV):Prop :=
 x.1<tmps.size/\(holds x.2.1 tmps->AV.IsV c x.2.2 (tmps.getD x.1 undef))/\(¬ holds x.2.1 tmps->tmps.getD x.1 undef=undef)
def FrIs (c:Cx) (G:GFr) (tmps:Array Value):Prop:=∀ x∈G,SlotIs c tmps x
variable {G:GFr}
theorem GFr.get_mem {t:Nat} {e:Chain×AV} (h:G.get t=some e):(t,e)∈G:=by
 induction G with
 | nil=>simp[GFr.get] at h
 | cons x r ih =>
  obtain⟨s,e'⟩:=x
  simp only[GFr.get] at h
  split at h
  ·rename_i hs
   cases h
   rw[yn] at hs; subst hs
   exact y1a
  ·exact ym _ (ih h)
variable {tmps:Array Value}
theorem FrIs.mono (hc:c.le c') (h:FrIs c G tmps):FrIs c' G tmps :=
 fun x hx=>⟨(h x hx).1,fun hh=>((h x hx).2.1 hh).mono hc,(h x hx).2.2⟩
theorem z7u {t:Nat} (h:t<tmps.size):(tmps.setIfInBounds t v).getD t undef=v:=by
 simp[Array.getD_eq_getD_getElem?,h]
theorem z3a {t s:Nat} (h:s≠t):(tmps.setIfInBounds t v).getD s undef=tmps.getD s undef:=by
 simp only[y1g]
 rw[y2s (Ne.symm h)]
variable {ch:Chain}
theorem z67 {t:Nat} (h:ch.all (fun y=>y.1 != t)=true):holds ch (tmps.setIfInBounds t v)↔holds ch tmps:=by
 unfold holds
 constructor <;> intro hh y hy
 ·have:=hh y hy
  rwa [z3a (by simpa using (y18.1 h) y hy)] at this
 ·rw[z3a (by simpa using (y18.1 h) y hy)]
  exact hh y hy
theorem FrIs.rm (h:FrIs c G tmps) (t:Nat) (v:Value):FrIs c (G.rm t) (tmps.setIfInBounds t v):=by
 intro x hx
 simp only[GFr.rm,y1x,ya] at hx
 obtain⟨hm,h1,h2⟩:=hx
 have hne:x.1≠t:=by simpa using h1
 obtain⟨k1,k2,k3⟩:=h x hm
 refine⟨by simpa using k1,fun hh=>?_,fun hh=>?_⟩
 ·rw[z3a hne]; exact k2 ((z67 h2).1 hh)
 ·rw[z3a hne]; exact k3 (fun h'=>hh ((z67 h2).2 h'))
variable {av:AV}
theorem FrIs.put (h:FrIs c G tmps) {t:Nat} (ht:t<tmps.size) (hch:ch.all (fun y=>y.1 != t)=true) (hv:holds ch tmps->AV.IsV c av v) (hu:¬ holds ch tmps->v=undef):FrIs c (G.put t ch av) (tmps.setIfInBounds t v):=by
 intro x hx
 rcases yv.1 hx with rfl | hx
 ·refine⟨by simpa using ht,fun hh=>?_,fun hh=>?_⟩
  ·show AV.IsV c av _
   rw[z7u ht]; exact hv ((z67 hch).1 hh)
  ·show (tmps.setIfInBounds t v).getD t undef=undef
   rw[z7u ht]; exact hu (fun h'=>hh ((z67 hch).2 h'))
 ·exact h.rm t v x hx
def constD:Value->Option DV
 | .bool b=>some (.b b)
 | .int k n=>some (.i k n)
 | .string s=>some (.str s.data.toList)
 | .pointer none=>some (.lit (.pointer none))
 | .map none=>some (.lit (.map none))
 | .chan none=>some (.lit (.chan none))
 | .nilFunc=>some (.lit .nilFunc)
 | .nilIface=>some (.lit .nilIface)
 | _=>none
def constAV:Value->Option AV
 | .slice none 0 0=>some (.full 0 fun _=>.b false)
 | v=>(constD v).map .d
def opnd (G:GFr) (ch:Chain):Operand->Option AV
 | .tmp t=>match G.get t with
  | some (ch',av)=>if ch'.all (fun y=>ch.contains y) then some av else none
  | none=>none
 | .const v=>constAV v
 | .func f=>some (.fn f [])
 | .global _=>none
theorem zib {x:DV} (h:constD v=some x):DV.Is M x [v]/\v.cells = #[v]/\(AV.d x).isAgg=false:=by
 unfold constD at h
 split at h <;> first | (cases h; done) | (cases h; first | exact⟨.b _,rfl,rfl⟩ | exact⟨.i _ _,rfl,rfl⟩ | exact⟨.lit _ rfl,rfl,rfl⟩ | (refine⟨?_,rfl,rfl⟩; exact .str _))
theorem zgz (h:constAV v=some x):AV.IsV c x v:=by
 unfold constAV at h
 split at h
 ·cases h
  exact .one _ _ rfl (.full 0 _ none (.slNil _))
 ·cases hd:constD v with
  | none=>simp[hd] at h
  | some y =>
   simp[hd] at h; subst h
   obtain⟨h1,h2,h3⟩:=zib (M:=c.M) hd
   exact .one _ _ h3 (.d _ _ h1)
theorem zcf {ch':Chain} (h:ch'.all (fun y=>ch.contains y)=true) (hh:holds ch tmps):holds ch' tmps :=
 fun y hy=>hh y (by simpa using (y18.1 h) y hy)
theorem zf {a:Act} {o:Operand} (h:opnd G ch o=some av) (hf:FrIs c G a.tmps) (hh:holds ch a.tmps) :
  AV.IsV c av (a.eval o):=by
 cases o with
 | tmp t =>
  simp only[opnd] at h
  split at h
  ·rename_i ch' av' hg
   split at h
   ·rename_i hs
    cases h
    exact ((hf _ (GFr.get_mem hg)).2.1) (zcf hs hh)
   ·cases h
  ·cases h
 | const v=>exact zgz h
 | func f =>
  cases h
  exact .one _ _ rfl (.fn f [] [] .nil)
 | global g=>cases h
section
variable {c:Cx} {v:Value}
theorem IsV.i {k:IntKind} {n:Int} (h:AV.IsV c (.d (.i k n)) v):v = .int k n:=by
 cases h with
 | agg _ _ ha=>cases ha
 | one _ _ _ h=>cases h with | d _ _ h=>cases h; rfl
theorem IsV.b {x:Bool} (h:AV.IsV c (.d (.b x)) v):v = .bool x:=by
 cases h with
 | agg _ _ ha=>cases ha
 | one _ _ _ h=>cases h with | d _ _ h=>cases h; rfl
theorem IsV.str {l:Y8} (h:AV.IsV c (.d (.str l)) v):v = .string ⟨l.toArray⟩:=by
 cases h with
 | agg _ _ ha=>cases ha
 | one _ _ _ h=>cases h with | d _ _ h=>cases h; rfl
theorem IsV.is (ha:av.isAgg=true) (h:AV.IsV c av v):∃ cs,v = .agg cs.toArray/\AV.Is c av cs:=by
 cases h with
 | agg _ cs _ h=>exact⟨cs,rfl,h⟩
 | one _ _ h'=>rw[h'] at ha; cases ha
 | tup _ _ _=>cases ha
 | bot _=>cases ha
theorem IsV.is1 (ha:av.isAgg=false) (ht:∀ l,av≠.tup l) (hb:av≠.bot) (h:AV.IsV c av v):AV.Is c av [v]:=by
 cases h with
 | agg _ cs h' h=>rw[h'] at ha; cases ha
 | one _ _ h' h=>exact h
 | tup vs _ _=>exact absurd rfl (ht vs)
 | bot _=>exact absurd rfl hb
theorem z31 (k:IntKind) (n:Int):AV.IsV c (.d (.i k n)) (.int k n):=.one _ _ rfl (.d _ _ (.i k n))
theorem z3o (x:Bool):AV.IsV c (.d (.b x)) (.bool x):=.one _ _ rfl (.d _ _ (.b x))
theorem z5u (l:Y8):AV.IsV c (.d (.str l)) (.string ⟨l.toArray⟩):=.one _ _ rfl (.d _ _ (.str l))
def AV.solid:AV->Bool
 | .bot | .tup _=>false
 | _=>true
theorem IsV.cells (hs:av.solid=true) (h:AV.IsV c av v):AV.Is c av v.cells.toList:=by
 cases h with
 | agg _ cs h' h=>simpa [Value.cells] using h
 | one _ _ h' h =>
  have h1:=h.one v sj
  have:v.cells = #[v]:=by cases v <;> first | rfl | cases h1
  rw[this]; exact h
 | tup vs _ _=>cases hs
 | bot _=>cases hs
end
def szOf (P:Program) (t:TypeId):Option Nat:=(P.info? t).map (·.size)
def aggTy (P:Program) (t:TypeId):Option Bool:=(P.underlying t).map fun d=>match d with
 | .struct _ | .array _ _=>true
 | _=>false
variable {t:TypeId}
section
variable {P:Program}
theorem zl {d:TypeDesc} (h:P.underlying t=some d) (w:World):(underlying t).run P w = .ok d w:=y2t h w
theorem z19 (h:szOf P t=some n) (w:World):(sizeOf t).run P w = .ok n w:=by
 unfold szOf at h
 cases hi:P.info? t with
 | none=>simp[hi] at h
 | some i =>
  simp[hi] at h
  simp[sizeOf,typeInfo,hi,h]
theorem z8s {b:Bool} (h:aggTy P t=some b) (w:World):(isAgg t).run P w = .ok b w:=by
 unfold aggTy at h
 cases hd:P.underlying t with
 | none=>simp[hd] at h
 | some d =>
  simp only[hd,y1z,yw] at h
  unfold isAgg
  rw[y14,zl hd w,yp]
  subst h
  cases d <;> rfl
end
def binI (op:BinOp) (k k':IntKind) (a b:Int):Option (DV×List Prop) :=
 match op with
 | .shl=>some (.i k (k.wrap (a * 2 ^ (min b.toNat k.bits))),[0<=b])
 | .shr=>some (.i k (a.fdiv (2 ^ (min b.toNat k.bits))),[0<=b])
 | _=>if k=k' then match op with
  | .add=>some (.i k (k.wrap (a+b)),[])
  | .sub=>some (.i k (k.wrap (a-b)),[])
  | .mul=>some (.i k (k.wrap (a * b)),[])
  | .quo=>some (.i k (k.wrap (a.tdiv b)),[b≠0])
  | .rem=>some (.i k (a.tmod b),[b≠0])
  | .and=>some (.i k (k.wrap (BitVec.ofInt k.bits a &&& BitVec.ofInt k.bits b).toNat),[])
  | .or=>some (.i k (k.wrap (BitVec.ofInt k.bits a ||| BitVec.ofInt k.bits b).toNat),[])
  | .xor=>some (.i k (k.wrap (BitVec.ofInt k.bits a ^^^ BitVec.ofInt k.bits b).toNat),[])
  | .andNot=>some (.i k (k.wrap (BitVec.ofInt k.bits a &&& ~~~ BitVec.ofInt k.bits b).toNat),[])
  | .eql=>some (.b (a==b),[])
  | .neq=>some (.b (a != b),[])
  | .lss=>some (.b (decide (a<b)),[])
  | .leq=>some (.b (decide (a<=b)),[])
  | .gtr=>some (.b (decide (a>b)),[])
  | .geq=>some (.b (decide (a>=b)),[])
  | _=>none
  else none
def binS (op:BinOp) (a b:Y8):Option (DV×List Prop) :=
 match op with
 | .add=>some (.str (a++b),[a.length+b.length<2 ^ 63])
 | .eql=>some (.b (a==b),[])
 | .neq=>some (.b (!(a==b)),[])
 | .lss=>some (.b (Op.bytesLess a b),[])
 | .leq=>some (.b (Op.bytesLess a b||a==b),[])
 | .gtr=>some (.b (!(Op.bytesLess a b||a==b)),[])
 | .geq=>some (.b (!Op.bytesLess a b),[])
 | _=>none
def AllP:List Prop->Prop
 | []=>True
 | p :: r=>p/\AllP r
theorem zd {a b:List Prop}:AllP (a++b)↔AllP a/\AllP b:=by
 induction a with
 | nil=>simp[AllP]
 | cons x r ih=>simp[AllP,ih,and_assoc]
variable {P:Program} {C:List Prop} {op:BinOp}
theorem zkh {k k':IntKind} {a b:Int} {x:DV} (h:binI op k k' a b=some (x,C)) (hc:AllP C) :
  ∃ v,(binOp op t (.int k a) (.int k' b)).run P w = .ok v w/\∀ M,DV.Is M x [v]/\(AV.d x).isAgg=false:=by
 unfold binI at h
 split at h
 ·cases h
  have h0:¬ b<0:=by have:=hc.1; omega
  exact⟨_,by simp[binOp,Op.shift,h0],fun M=>⟨.i _ _,rfl⟩⟩
 ·cases h
  have h0:¬ b<0:=by have:=hc.1; omega
  exact⟨_,by simp[binOp,Op.shift,h0],fun M=>⟨.i _ _,rfl⟩⟩
 ·rename_i hn1 hn2
  split at h
  ·rename_i hk
   subst hk
   split at h
   case h_16=>cases h
   all_goals
    cases h
   case h_4 =>
    have h0:b≠0:=hc.1
    exact⟨_,by simp[binOp,Op.intDiv,h0],fun M=>⟨.i _ _,rfl⟩⟩
   case h_5 =>
    have h0:b≠0:=hc.1
    exact⟨_,by simp[binOp,Op.intDiv,h0],fun M=>⟨.i _ _,rfl⟩⟩
   all_goals first
    | exact⟨.int k _,(by show Sem.run P (if k≠k then _ else _) w=_; rw[y6 sj]; rfl),fun M=>⟨.i _ _,rfl⟩⟩
    | exact⟨.bool _,(by show Sem.run P (if k≠k then _ else _) w=_; rw[y6 sj]; rfl),fun M=>⟨.b _,rfl⟩⟩
  ·cases h
theorem zki {a b:Y8} {x:DV} (h:binS op a b=some (x,C)) (hc:AllP C) :
  ∃ v,(binOp op t (.string ⟨a.toArray⟩) (.string ⟨b.toArray⟩)).run P w = .ok v w/\∀ M,DV.Is M x [v]/\(AV.d x).isAgg=false:=by
 unfold binS at h
 split at h
 case h_8=>cases h
 case h_1 =>
  cases h
  have h0:a.length+b.length<2 ^ 63:=hc.1
  have h1:¬ (((ByteArray.mk a.toArray).size+(ByteArray.mk b.toArray).size:Nat):Int)>i64.max:=by
   have e1:(ByteArray.mk a.toArray).size=a.length:=by simp[ByteArray.size]
   have e2:(ByteArray.mk b.toArray).size=b.length:=by simp[ByteArray.size]
   have e3:i64.max=9223372036854775807:=dk
   rw[e1,e2,e3]; omega
  refine⟨.string ⟨(a++b).toArray⟩,?_,fun M=>⟨.str _,rfl⟩⟩
  simp only[binOp,Op.stringOp,h1,y2g,y2d]
  congr 2
 all_goals
  cases h
  exact⟨_,by simp[binOp,Op.stringOp],fun M=>⟨.b _,rfl⟩⟩
theorem z1e {x y:Operand} {a b:Value} (h1:a≠.nilIface) (h2:∀ cs,a≠.agg cs) :
  (eqGuard op t x y a b).run P w = .ok () w:=by
 unfold eqGuard
 cases a <;> first
  | exact absurd rfl h1
  | exact absurd rfl (h2 _)
  | (split <;> first | rfl | (simp; done))
theorem z22 (b off j:Nat):(⟨b,off,none⟩:Addr).add j=⟨b,off+j,none⟩:=by
 unfold Addr.add
 split <;> simp_all
theorem z6q {b:Nat} (h:w.heap[b]? = some (.cells arr e fz)) (i:Nat) :
  w.cell? ⟨b,i,none⟩=arr[i]? := by
 simp[World.cell?,h]
variable {u:Value} {g:Bool}
section
variable {P:Program} {w:World}
theorem zaj {b off:Nat} (hag:aggTy P t=some g) (hsz:szOf P t=some k.length) (hc:∀ j,j<k.length->w.cell? ⟨b,off+j,none⟩=k[j]?) (h1:g=false->∃ v,k=[v]) :
  ∃ u,(loadVar t ⟨b,off,none⟩).run P w = .ok u w/\((g=true/\u = .agg k.toArray)\/(g=false/\k=[u])):=by
 cases g with
 | true =>
  refine⟨.agg k.toArray,?_,.inl ⟨rfl,rfl⟩⟩
  have hl:=y5x (P:=P) w ⟨b,off,none⟩ k (fun j v hv=>by
   rw[z22]
   have hj:j<k.length:=by
    rcases yu j k.length with h | h
    ·exact h
    ·rw[yf h] at hv; cases hv
   rw[hc j hj,hv])
  simp[loadVar,z8s hag w,z19 hsz w,hl]
 | false =>
  obtain⟨v,rfl⟩:=h1 rfl
  refine⟨v,?_,.inr ⟨rfl,rfl⟩⟩
  have:=hc 0 sj
  simp only[y43,List.getElem?_cons_zero] at this
  simp[loadVar,z8s hag w,this]
theorem z3j (hk:AV.Is c av k) (hg:av.isAgg=g) (hu:(g=true/\u = .agg k.toArray)\/(g=false/\k=[u])):AV.IsV c av u:=by
 rcases hu with ⟨rfl,rfl⟩ | ⟨rfl,rfl⟩
 ·exact .agg _ _ hg hk
 ·exact .one _ _ hg hk
theorem z4a (hk:AV.Is c av k) (hg:av.isAgg=false):∃ v,k=[v]:=by
 cases hk with
 | d x cs h =>
  cases h <;> first | exact⟨_,rfl⟩ | cases hg
 | agg _ _ _=>cases hg
 | selT=>cases hg
 | selF=>cases hg
 | _=>exact⟨_,rfl⟩
end
variable {tc:Nat} {ks:Nat->List Value}
section
variable {X:Nat->Prop} {ms:Blocks} {L:List Ob} {w:World}
theorem Rel.box {o:Nat} {b:Nat} (h:Rel X ms L w) (hL:L[o]? = some (.box x)) (hm:ms[o]? = some (some (b,tc))) :
  ∃ arr e,w.heap[b]? = some (.cells arr e (0,0))/\AV.Is (cxOf X ms L w) x arr.toList:=by
 rcases h.obs o _ hL with h' | ⟨b',tc',arr,e,h1,h2,h3⟩
 ·exact absurd (hm.symm.trans h') sj
 ·have:some (some (b,tc))=some (some (b',tc')):=hm.symm.trans h1
  cases this
  exact⟨arr,e,h2,h3⟩
theorem Rel.seq {o:Nat} {f:Nat->AV} {b:Nat} (h:Rel X ms L w) (hL:L[o]? = some (.seq sz n f)) (hm:ms[o]? = some (some (b,tc))) :
  ∃ arr e,∃ cs:Nat->List Value,w.heap[b]? = some (.cells arr e (0,0))/\n<=tc/\arr.size=tc * sz/\(∀ i,i<n->AV.Is (cxOf X ms L w) (f i) (cs i)) /\
   (∀ i,i<n->(cs i).length=sz)/\(∀ i,i<n->∀ j,j<sz->arr[i * sz+j]? = (cs i)[j]?):=by
 rcases h.obs o _ hL with ⟨h',_⟩ | ⟨b',tc',arr,e,cs,h1,h2,h3⟩
 ·exact absurd (hm.symm.trans h') sj
 ·have:some (some (b,tc))=some (some (b',tc')):=hm.symm.trans h1
  cases this
  exact⟨arr,e,cs,h2,h3.1,h3.2.1.1,h3.2.2⟩
theorem Rel.seqOne {o:Nat} {f:Nat->AV} {b:Nat} (h:Rel X ms L w) (hL:L[o]? = some (.seq sz n f)) (hm:ms[o]? = some (some (b,tc))) (hb:w.heap[b]? = some (.cells arr e fz)) :
  ∀ v∈arr.toList,v.oneCell'=true:=by
 rcases h.obs o _ hL with ⟨h',_⟩ | ⟨b',tc',arr',e',cs,h1,h2,h3⟩
 ·exact absurd (hm.symm.trans h') sj
 ·have:some (some (b,tc))=some (some (b',tc')):=hm.symm.trans h1
  cases this
  rw[h2] at hb
  cases hb
  exact h3.2.1.2
theorem z4b {off:Nat} (h1:∀ v∈cs,v.oneCell'=true) (h2:∀ v∈k,v.oneCell'=true):∀ v∈(splice cs off k).toArray.toList,v.oneCell'=true:=fun v hv=>by
 simp only[splice,y1c] at hv
 rcases hv with (hv | hv) | hv
 ·exact h1 v (y17 hv)
 ·exact h2 v hv
 ·exact h1 v (y3e hv)
theorem z3l {z:Array Value} (hz:∀ v∈z.toList,v.oneCell'=true) (n:Nat):∀ v∈(Builtin.zeroCells z n).toList,v.oneCell'=true:=fun v hv=>by
 simp only[Builtin.zeroCells,y56,Array.toList_range,yz,y1l] at hv
 obtain⟨i,hi,rfl⟩:=hv
 have hp:0<z.size:=by
  rcases y2u z.size with h0 | h0
  ·rw[h0] at hi; omega
  ·exact h0
 have hm:=y5c i hp
 rw[getElem!_pos z _ hm]
 exact hz _ sj
theorem z2r {f:Nat->AV} (h:∀ i,i<n->AV.Is c (f i) (ks i)):∀ v∈(List.range n).flatMap ks,v.oneCell'=true:=fun v hv=>by
 obtain⟨k,hk,hvk⟩:=y3r.1 hv
 exact (h k (y1l.1 hk)).one v hvk
end
def AV.unsel:AV->AV
 | .sel _ _ x _=>x
 | v=>v
def AV.selC:AV->Prop
 | .sel b _ _ _=>b=true
 | _=>True
def AV.selL:AV->List Prop
 | .sel b _ _ _=>[b=true]
 | _=>[]
theorem AV.selL_C {v:AV} (h:AllP v.selL):v.selC:=by
 cases v <;> first | trivial | exact h.1
theorem AV.Is.unsel_is {v:AV} (h:AV.Is c v cs) (hc:v.selC):AV.Is c v.unsel cs:=by
 cases h with
 | selT _ _ _ _ h hl=>exact h
 | selF _ _ _ _ h hl=>cases hc
 | _=>constructor <;> assumption
def Ob.get:Ob->List Stp->Option AV
 | .box a,p=>a.get p
 | .seq sz _ f,.x i sz' :: r=>if sz=sz' then (f i).unsel.get r else none
 | _,_=>none
def Ob.getC:Ob->List Stp->Prop
 | .box a,p=>a.getC p
 | .seq _ n f,.x i _ :: r=>i<n/\(f i).selC/\(f i).unsel.getC r
 | _,_=>True
variable {L:List Ob} {obj:Ob} {p:List Stp}
theorem Rel.get (h:Rel X ms L w) {o:Nat} {b:Nat} (hL:L[o]? = some obj) (hm:ms[o]? = some (some (b,tc))) (hx:obj.get p=some x) (hc:obj.getC p) :
  ∃ arr e k,w.heap[b]? = some (.cells arr e (0,0))/\AV.Is (cxOf X ms L w) x k/\At arr.toList (pathOff p) k:=by
 unfold Ob.get at hx
 split at hx
 ·rename_i a
  obtain⟨arr,e,h1,h2⟩:=h.box hL hm
  obtain⟨k,h3,h4⟩:=AV.get_is p h2 hx hc
  exact⟨arr,e,k,h1,h3,h4⟩
 ·rename_i sz n f i sz' r
  split at hx
  ·rename_i hs
   subst hs
   obtain⟨arr,e,cs,h1,h2,h3,h4,h5,h6⟩:=h.seq hL hm
   obtain⟨hi,hsc,hc⟩:=hc
   obtain⟨k,h7,h8⟩:=AV.get_is r ((h4 i hi).unsel_is hsc) hx hc
   refine⟨arr,e,k,h1,h7,?_⟩
   have:At arr.toList (i * sz) (cs i):=fun j hj=>by
    rw[y1e]
    exact h6 i hi j (by rw[h5 i hi] at hj; exact hj)
   exact this.trans h8
  ·cases hx
 ·cases hx
def AV.intoL:AV->Stp->List Prop
 | .d (.arr _ n _),.x i _=>[i<n]
 | _,_=>[]
def AV.getL:AV->List Stp->List Prop
 | _,[]=>[]
 | a,s :: r=>a.intoL s++match a.into s with
  | some x=>x.getL r
  | none=>[]
theorem AV.intoL_C {s:Stp} (h:AllP (a.intoL s)):a.intoC s:=by
 unfold AV.intoC
 split
 ·exact h.1
 ·trivial
theorem AV.getL_C:∀ {p:List Stp} {a:AV},AllP (a.getL p)->a.getC p
 | [],_,_=>trivial
 | s :: r,a,h=>by
  simp only[AV.getL,zd] at h
  refine⟨AV.intoL_C h.1,?_⟩
  cases hs:a.into s with
  | none=>trivial
  | some x=>simp only[hs] at h; exact AV.getL_C h.2
def Ob.getL:Ob->List Stp->List Prop
 | .box a,p=>a.getL p
 | .seq _ n f,.x i _ :: r=>[i<n]++((f i).selL++(f i).unsel.getL r)
 | _,_=>[]
theorem Ob.getL_C {o:Ob} (h:AllP (o.getL p)):o.getC p:=by
 cases o with
 | box a=>exact AV.getL_C h
 | seq sz n f =>
  cases p with
  | nil=>trivial
  | cons s r =>
   cases s with
   | f i o=>trivial
   | x i s =>
    have:=zd.1 h
    have h2:=zd.1 this.2
    exact⟨this.1.1,AV.selL_C h2.1,AV.getL_C h2.2⟩
 | map es=>trivial
 | dmap es=>trivial
 | ex x=>trivial
 | dead=>trivial
 | unb=>trivial
def Ob.live:Ob->Nat->List Prop
 | .box _,1=>[]
 | .map _,0=>[]
 | .seq _ n _,st=>[n=st]
 | _,_=>[False]
theorem Ob.live_C {o:Ob} (h:AllP (o.live st)):o.stamp=some st:=by
 unfold Ob.live at h
 split at h
 ·rfl
 ·rfl
 ·rw[<- h.1]; rfl
 ·exact h.1.elim
def vLoad (P:Program) (L:List Ob) (t:TypeId):AV->Option (AV×List Prop)
 | .imm y=>if aggTy P t=some (AV.d y).isAgg/\szOf P t=some y.wd then some (.d y,[]) else none
 | .ptr o st p=>match L[o]? with
  | some obj=>match obj.get p with
    | some x=>if aggTy P t=some x.isAgg/\szOf P t=some x.wd then some (x,obj.live st++obj.getL p) else none
    | none=>none
  | none=>none
 | _=>none
theorem zdv (h:Rel X ms L w) (hv:vLoad P L t a=some (av,C)) (hc:AllP C) (ha:AV.IsV (cxOf X ms L w) a u) :
  ∃ v,(Instr.loadAt t u).run P w = .ok v w/\AV.IsV (cxOf X ms L w) av v:=by
 unfold vLoad at hv
 split at hv
 ·rename_i y
  split at hv
  ·rename_i hty
   cases hv
   have ha':=IsV.is1 (av:=.imm y) rfl sj sj ha
   cases ha' with
   | imm _ b off arr cs hb hy hcs =>
   obtain⟨_,_,e,fz,hh⟩:=z26 hb
   have hl:=hy.len
   obtain⟨v,h1,h2⟩:=zaj (P:=P) (w:=w) (k:=cs) (b:=b) (off:=off) hty.1 (by rw[hty.2,hl])
    (fun j hj=>by rw[z6q hh]; exact hcs j hj) (fun hg=>z4a (.d _ _ hy) hg)
   exact⟨v,by simpa [Instr.loadAt,Instr.sureAddr] using h1,z3j (.d _ _ hy) rfl h2⟩
  ·cases hv
 ·rename_i o st p
  split at hv
  ·rename_i obj hL
   split at hv
   ·rename_i x hx
    split at hv
    ·rename_i hty
     cases hv
     have hst:=Ob.live_C (zd.1 hc).1
     have ha':=IsV.is1 (av:=.ptr o st p) rfl sj sj ha
     cases ha' with
     | ptr _ _ _ _ hp =>
     obtain⟨_,_,_,hp⟩:=hp
     obtain⟨b,tc,hm,rfl⟩:=hp obj hL hst
     obtain⟨arr,e,k,h1,h2,h3⟩:=h.get hL hm hx (Ob.getL_C (zd.1 hc).2)
     obtain⟨v,h4,h5⟩:=zaj (P:=P) (w:=w) (k:=k) (b:=b) (off:=pathOff p) hty.1 (by rw[hty.2,h2.len])
      (fun j hj=>by rw[z6q h1,<- y1e]; exact h3 j hj) (fun hg=>z4a h2 hg)
     exact⟨v,by simpa [Instr.loadAt,Instr.sureAddr] using h4,z3j h2 rfl h5⟩
    ·cases hv
   ·cases hv
  ·cases hv
 ·cases hv
def fieldOf (P:Program) (s:TypeId) (f:Nat):Option Field:=match P.underlying s with
 | some (.struct fields)=>fields[f]?
 | _=>none
def vFieldAddr (P:Program) (L:List Ob) (s:TypeId) (f:Nat) (a:AV):Option (AV×List Prop) :=
 match fieldOf P s f with
 | some fd=>if szOf P fd.type=some 0\/szOf P fd.type=none then none else match a with
  | .imm y=>match (AV.d y).into (.f f fd.offset) with
   | some (.d z)=>some (.imm z,[])
   | _=>none
  | .ptr o st p=>match L[o]? with
   | some obj=>some (.ptr o st (p++[.f f fd.offset]),obj.live st)
   | none=>none
  | _=>none
 | none=>none
theorem z6r (p q:List Stp):pathOff (p++q)=pathOff p+pathOff q:=by
 induction p with
 | nil=>simp[pathOff]
 | cons s r ih=>simp[pathOff,ih,Nat.add_assoc]
variable {s:TypeId}
theorem z9d {f:Nat} {fd:Field} {b off:Nat} (h:fieldOf P s f=some fd) (hz:¬ (szOf P fd.type=some 0\/szOf P fd.type=none)) :
  (Instr.fieldAt s (.pointer (some ⟨b,off,none⟩)) f).run P w = .ok (.pointer (some ⟨b,off+fd.offset,none⟩)) w:=by
 unfold fieldOf at h
 split at h
 ·rename_i fields hu
  cases hs:szOf P fd.type with
  | none=>exact absurd (.inr hs) hz
  | some n =>
   have hn:n≠0:=fun e=>hz (.inl (by rw[hs,e]))
   simp[Instr.fieldAt,zl hu w,h,Instr.sureAddr,fieldPlace,z19 hs w,hn,z22]
 ·cases h
theorem zdi {f:Nat} (hv:vFieldAddr P c.L s f a=some (av,C)) (hc:AllP C) (ha:AV.IsV c a u) :
  ∃ v,(Instr.fieldAt s u f).run P w = .ok v w/\AV.IsV c av v:=by
 unfold vFieldAddr at hv
 split at hv
 ·rename_i fd hfd
  split at hv
  ·cases hv
  ·rename_i hz
   split at hv
   ·rename_i y
    have ha':=IsV.is1 (av:=.imm y) rfl sj sj ha
    cases ha' with
    | imm _ b off arr cs hb hy hcs =>
    split at hv
    ·rename_i z hz'
     cases hv
     obtain⟨k,h1,h2⟩:=AV.into_is (c:=c) (.d _ _ hy) hz' (by unfold AV.intoC; split <;> first | trivial | (rename_i he; cases he))
     cases h1 with
     | d _ _ h1 =>
     refine⟨_,z9d hfd hz,.one _ _ rfl (.imm z b (off+fd.offset) arr k hb h1 (fun j hj=>?_))⟩
     have hat:At arr.toList off cs:=fun j hj=>by rw[y1e]; exact hcs j hj
     have:=hat.trans h2 j hj
     rw[y1e] at this
     exact this
    ·cases hv
   ·rename_i o st p
    split at hv
    ·rename_i obj hL
     cases hv
     have hst:=Ob.live_C hc
     have ha':=IsV.is1 (av:=.ptr o st p) rfl sj sj ha
     cases ha' with
     | ptr _ _ _ _ hp =>
     obtain⟨h1,h2,h0,h3⟩:=hp
     obtain⟨b,tc,hm,rfl⟩:=h3 obj hL hst
     refine⟨_,z9d hfd hz,.one _ _ rfl (.ptr _ _ _ _ ⟨h1,⟨_,rfl⟩,h0,fun obj hL hst=>?_⟩)⟩
     obtain⟨b',tc',hm',he⟩:=h3 obj hL hst
     cases he
     exact⟨b,tc',hm',by rw[z6r]; simp[pathOff,Stp.off]⟩
    ·cases hv
   ·cases hv
 ·cases hv
def vIndexAddr (P:Program) (L:List Ob) (t:TypeId) (x:AV) (i:Int):Option (AV×List Prop) :=
 match P.underlying t with
 | some (.slice elem)=>match szOf P elem with
  | some sz=>match x with
   | .d (.sl n f)=>if (f i.toNat).wd=sz then some (.imm (f i.toNat),[0<=i,i.toNat<n]) else none
   | .full n f=>if (f i.toNat).wd=sz then some (.imm (f i.toNat),[0<=i,i.toNat<n]) else none
   | .ref o st off n=>match L[o]? with
    | some (.seq sz' m _)=>if sz'=sz then some (.ptr o st [.x (off+i.toNat) sz],[m=st,0<=i,i.toNat<n]) else none
    | _=>none
   | _=>none
  | none=>none
 | some (.array len elem)=>match szOf P elem with
  | some sz=>match x with
   | .imm (.arr sz' n f)=>if sz'=sz/\n=len then some (.imm (f i.toNat),[0<=i,i.toNat<len]) else none
   | .ptr o st p=>match L[o]? with
    | some obj=>some (.ptr o st (p++[.x i.toNat sz]),obj.live st++[0<=i,i.toNat<len])
    | none=>none
   | _=>none
  | none=>none
 | _=>none
variable {elem:TypeId} {cap:Nat}
theorem z5c {b off:Nat} {k:IntKind} {i:Int} (hu:P.underlying t=some (.slice elem)) (hs:szOf P elem=some sz) (h0:0<=i) (h1:i.toNat<n) :
  (Instr.indexAt t (.slice (some ⟨b,off,none⟩) n cap) (.int k i)).run P w = .ok (.pointer (some ⟨b,off+i.toNat * sz,none⟩)) w:=by
 have h2:0<=i/\i<(n:Int):=⟨h0,om⟩
 simp[Instr.indexAt,asIntOf,zl hu w,z19 hs w,h2,z22]
theorem z5d {len b off:Nat} {k:IntKind} {i:Int} (hu:P.underlying t=some (.array len elem)) (hs:szOf P elem=some sz) (h0:0<=i) (h1:i.toNat<len) :
  (Instr.indexAt t (.pointer (some ⟨b,off,none⟩)) (.int k i)).run P w = .ok (.pointer (some ⟨b,off+i.toNat * sz,none⟩)) w:=by
 have h2:0<=i/\i<(len:Int):=⟨h0,om⟩
 simp[Instr.indexAt,asIntOf,zl hu w,z19 hs w,h2,z22,Instr.sureAddr]
variable {f:Nat->DV}
theorem zmh {i:Nat} (h:DV.Is M (.sl n f) [v]) (hi:i<n) :
  ∃ b off cap arr cs,v = .slice (some ⟨b,off,none⟩) n cap/\n<=cap/\M b=some arr/\DV.Is M (f i) cs/\At arr.toList (off+i * (f i).wd) cs:=by
 cases h with
 | slNil=>omega
 | slEmpty=>omega
 | sl _ _ b off cap sz arr cs h1 h2 hb h hl hc =>
  have hw:sz=(f i).wd:=by rw[<- hl i hi,(h i hi).len]
  subst hw
  refine⟨b,off,cap,arr,cs i,rfl,h1,hb,h i hi,fun j hj=>?_⟩
  rw[y1e]
  exact hc i hi j (by rw[hl i hi] at hj; exact hj)
theorem z7v {k:IntKind} {i:Int} (hu:P.underlying t=some (.slice elem)) (hs:szOf P elem=some sz) (hw:(f i.toNat).wd=sz) (h0:0<=i) (h1:i.toNat<n) (ha:DV.Is c.M (.sl n f) [u]) :
  ∃ v,(Instr.indexAt t u (.int k i)).run P w = .ok v w/\AV.IsV c (.imm (f i.toNat)) v:=by
 obtain⟨b,off,cap,arr,cs,rfl,_,hb,he,hat⟩:=zmh ha h1
 refine⟨_,z5c hu hs h0 h1,.one _ _ rfl (.imm _ b _ arr cs hb he (fun j hj=>?_))⟩
 rw[<- hw,<- y1e]
 exact hat j hj
theorem zdj {k:IntKind} {i:Int} (hv:vIndexAddr P c.L t a i=some (av,C)) (hc:AllP C) (ha:AV.IsV c a u) :
  ∃ v,(Instr.indexAt t u (.int k i)).run P w = .ok v w/\AV.IsV c av v:=by
 unfold vIndexAddr at hv
 split at hv
 ·rename_i elem hu
  split at hv
  ·rename_i sz hs
   split at hv
   ·split at hv
    ·rename_i hw
     cases hv
     have ha':=IsV.is1 rfl sj sj ha
     cases ha' with
     | d _ _ ha'=>exact z7v hu hs hw hc.1 hc.2.1 ha'
    ·cases hv
   ·split at hv
    ·rename_i hw
     cases hv
     have ha':=IsV.is1 rfl sj sj ha
     cases ha' with
     | full _ _ _ ha'=>exact z7v hu hs hw hc.1 hc.2.1 ha'
    ·cases hv
   ·rename_i o st off n
    split at hv
    ·rename_i sz' m g hL
     split at hv
     ·rename_i hsz
      subst hsz
      cases hv
      obtain⟨rfl,h0,h1,_⟩:=hc
      have ha':=IsV.is1 rfl sj sj ha
      cases ha' with
      | ref _ _ _ _ _ hr =>
      obtain⟨r1,⟨ra,rcap,r2⟩,r3,r4⟩:=hr
      obtain⟨r5,r6⟩:=r4 sz' g hL
      rcases r6 with ⟨_,ra',r6⟩ | ⟨_,r6⟩ | ⟨b,tc,r6,r7,r8⟩
      ·rw[r6] at r2; cases r2; omega
      ·omega
      ·subst r8
       refine⟨_,z5c hu hs h0 h1,.one _ _ rfl (.ptr _ _ _ _ ⟨r1,⟨_,rfl⟩,r3,fun obj hL' hst=>⟨b,tc,r6,?_⟩⟩)⟩
       simp[pathOff,Stp.off,Nat.add_mul]
     ·cases hv
    ·cases hv
   ·cases hv
  ·cases hv
 ·rename_i len elem hu
  split at hv
  ·rename_i sz hs
   split at hv
   ·rename_i sz' n f
    split at hv
    ·rename_i hsz
     obtain⟨rfl,rfl⟩:=hsz
     cases hv
     have ha':=IsV.is1 rfl sj sj ha
     cases ha' with
     | imm _ b off arr cs hb hy hcs =>
     obtain⟨l,h1,h2⟩:=AV.into_is (c:=c) (s:=.x i.toNat sz') (x:=.d (f i.toNat)) (.d _ _ hy) (by simp[AV.into]) hc.2.1
     cases h1 with
     | d _ _ h1 =>
     refine⟨_,z5d hu hs hc.1 hc.2.1,.one _ _ rfl (.imm _ b _ arr l hb h1 (fun j hj=>?_))⟩
     have hat:At arr.toList off cs:=fun j hj=>by rw[y1e]; exact hcs j hj
     have:=hat.trans h2 j hj
     rw[y1e] at this
     exact this
    ·cases hv
   ·rename_i o st p
    split at hv
    ·rename_i obj hL
     cases hv
     obtain⟨hl,h0,h1,_⟩:=zd.1 hc
     have hst:=Ob.live_C hl
     have ha':=IsV.is1 rfl sj sj ha
     cases ha' with
     | ptr _ _ _ _ hp =>
     obtain⟨p1,p2,p0,p3⟩:=hp
     obtain⟨b,tc,hm,rfl⟩:=p3 obj hL hst
     refine⟨_,z5d hu hs h0 h1,.one _ _ rfl (.ptr _ _ _ _ ⟨p1,⟨_,rfl⟩,p0,fun obj hL hst=>?_⟩)⟩
     obtain⟨b',tc',hm',he⟩:=p3 obj hL hst
     cases he
     exact⟨b,tc',hm',by rw[z6r]; simp[pathOff,Stp.off]⟩
    ·cases hv
   ·cases hv
  ·cases hv
 ·cases hv
theorem zbk {off:Nat} (hag:aggTy P t=some g) (hsz:szOf P t=some k.length) (hat:At cs off k) (h1:g=false->∃ v,k=[v]) (hle:off+k.length<=cs.length) :
  ∃ u,(part t cs.toArray off).run P w = .ok u w/\((g=true/\u = .agg k.toArray)\/(g=false/\k=[u])):=by
 cases g with
 | true =>
  refine⟨.agg k.toArray,?_,.inl ⟨rfl,rfl⟩⟩
  have:(cs.drop off).take k.length=k:=by
   apply y2y
   intro j
   by_cases hj:j<k.length
   ·rw[y1s hj,y3u]
    exact hat j hj
   ·rw[yf sk,yf om]
  simp[part,z8s hag w,z19 hsz w,this]
 | false =>
  obtain⟨v,rfl⟩:=h1 rfl
  refine⟨v,?_,.inr ⟨rfl,rfl⟩⟩
  have:=hat 0 sj
  simp only[y43,List.getElem?_cons_zero] at this
  simp[part,z8s hag w,this]
def vField (P:Program) (t:TypeId) (f:Nat) (a:AV):Option (AV×List Prop) :=
 match fieldOf P t f with
 | some fd=>match a.into (.f f fd.offset) with
  | some x=>if aggTy P fd.type=some x.isAgg/\szOf P fd.type=some x.wd/\a.isAgg=true/\0<x.wd then some (x,[]) else none
  | none=>none
 | none=>none
theorem zkj {f o:Nat} (_h:a.into (.f f o)=some x):a.intoC (.f f o):=by
 unfold AV.intoC
 split
 ·rename_i he; cases he
 ·trivial
theorem zic {f:Nat} (hv:vField P t f a=some (av,C)) (ha:AV.IsV c a u) :
  ∃ v,(Instr.field t u f).run P w = .ok v w/\AV.IsV c av v:=by
 unfold vField at hv
 split at hv
 ·rename_i fd hfd
  split at hv
  ·rename_i x hx
   split at hv
   ·rename_i hty
    cases hv
    obtain⟨h1,h2,h3,h4⟩:=hty
    obtain⟨cs,rfl,hcs⟩:=IsV.is h3 ha
    obtain⟨k,hk,hat⟩:=AV.into_is hcs hx (zkj hx)
    have hkl:=hk.len
    obtain⟨v,h5,h6⟩:=zbk (P:=P) (w:=w) (cs:=cs) (off:=fd.offset) h1 (by rw[h2,hkl]) hat (fun hg=>z4a hk hg) (hat.le om)
    refine⟨v,?_,z3j hk rfl h6⟩
    unfold fieldOf at hfd
    split at hfd
    ·rename_i fields hu
     simp[Instr.field,zl hu w,hfd,asAgg,h5]
    ·cases hfd
   ·cases hv
  ·cases hv
 ·cases hv
def vIndex (P:Program) (t:TypeId) (a:AV) (i:Int):Option (AV×List Prop) :=
 match P.underlying t with
 | some (.array len elem)=>match a with
  | .d (.arr sz n f)=>if szOf P elem=some sz/\n=len/\aggTy P elem=some (AV.d (f i.toNat)).isAgg/\0<sz then some (.d (f i.toNat),[0<=i,i.toNat<len]) else none
  | _=>none
 | some .string=>match a with
  | .d (.str l)=>some (.d (.i .u8 (l.getD i.toNat 0).toNat),[0<=i,i.toNat<l.length])
  | _=>none
 | _=>none
theorem zid {k:IntKind} {i:Int} (hv:vIndex P t a i=some (av,C)) (hc:AllP C) (ha:AV.IsV c a u) :
  ∃ v,(Instr.index t u (.int k i)).run P w = .ok v w/\AV.IsV c av v:=by
 unfold vIndex at hv
 split at hv
 ·rename_i len elem hu
  split at hv
  ·rename_i sz n f
   split at hv
   ·rename_i hty
    obtain⟨h1,rfl,h2,h3⟩:=hty
    cases hv
    obtain⟨h0,h4,_⟩:=hc
    obtain⟨cs,rfl,hcs⟩:=IsV.is rfl ha
    obtain⟨l,hl,hat⟩:=AV.into_is (s:=.x i.toNat sz) (x:=.d (f i.toNat)) hcs (by simp[AV.into]) h4
    have hll:l.length=sz:=by
     cases hcs with
     | d _ _ hcs =>
     cases hcs with
     | arr _ _ _ ks h hl' =>
     cases hl with
     | d _ _ hl=>rw[hl.len,<- (h _ h4).len,hl' _ h4]
    obtain⟨v,h5,h6⟩:=zbk (P:=P) (w:=w) (cs:=cs) (off:=i.toNat * sz) h2 (by rw[h1,hll]) hat (fun hg=>z4a hl hg) (hat.le om)
    refine⟨v,?_,z3j hl rfl h6⟩
    have h7:0<=i/\i<(n:Int):=⟨h0,om⟩
    simp[Instr.index,asIntOf,zl hu w,z19 h1 w,h7,h5]
   ·cases hv
  ·cases hv
 ·rename_i hu
  split at hv
  ·rename_i l
   cases hv
   obtain⟨h0,h4,_⟩:=hc
   rw[IsV.str ha]
   refine⟨_,?_,z31 _ _⟩
   have h5:(ByteArray.mk l.toArray)[i.toNat]? = some (l.getD i.toNat 0):=by
    have hsz:i.toNat<(ByteArray.mk l.toArray).size:=by simpa [ByteArray.size] using h4
    rw[ByteArray.getElem?_lt' _ _ hsz]
    simp[List.getD_eq_getElem?_getD,List.getElem?_eq_getElem h4]
    rfl
   simp[Instr.index,asIntOf,zl hu w,h0,h5]
  ·cases hv
 ·cases hv
def loN:Option Int->Nat
 | some v=>v.toNat
 | none=>0
def hiN (n:Nat):Option Int->Nat
 | some v=>v.toNat
 | none=>n
def signC:Option Int->List Prop
 | some v=>[0<=v]
 | none=>[]
variable {α:Type}
def cutF (f:Nat->α):Option Int->Nat->α
 | some v=>fun j=>f (v.toNat+j)
 | none=>f
def boundC (n:Nat) (lo hi:Option Int):List Prop :=
 signC lo++(signC hi++((if lo.isSome then [loN lo<=hiN n hi] else [])++(if hi.isSome then [hiN n hi<=n] else [])))
variable {lo hi:Option Int}
theorem z4y (h:AllP (boundC n lo hi)) :
  (∀ v,lo=some v->0<=v)/\(∀ v,hi=some v->0<=v)/\loN lo<=hiN n hi/\hiN n hi<=n:=by
 unfold boundC at h
 rw[zd,zd,zd] at h
 obtain⟨h1,h2,h3,h4⟩:=h
 refine⟨fun v e=>?_,fun v e=>?_,?_,?_⟩
 ·subst e; exact h1.1
 ·subst e; exact h2.1
 ·cases lo with
  | none=>exact y36 _
  | some v=>simpa [AllP] using h3
 ·cases hi with
  | none=>exact yc _
  | some v=>simpa [AllP] using h4
def boundR (off st n:Nat) (lo hi:Option Int):List Prop :=
 match off with
 | 0=>signC lo++(signC hi++((if lo.isSome then [loN lo<=hiN n hi] else [])++(if hi.isSome then [hiN n hi<=st] else [])))
 | _+1=>boundC n lo hi
theorem z9e {off:Nat} (h:AllP (boundR off st n lo hi)) (hn:off+n<=st) :
  (∀ v,lo=some v->0<=v)/\(∀ v,hi=some v->0<=v)/\loN lo<=hiN n hi/\off+hiN n hi<=st/\(off≠0->hiN n hi<=n):=by
 cases off with
 | succ k =>
  obtain⟨b1,b2,b3,b4⟩:=z4y (show AllP (boundC n lo hi) from h)
  exact⟨b1,b2,b3,om,fun _=>b4⟩
 | zero =>
  unfold boundR at h
  simp only at h
  rw[zd,zd,zd] at h
  obtain⟨h1,h2,h3,h4⟩:=h
  refine⟨fun v e=>?_,fun v e=>?_,?_,?_,fun h0=>absurd rfl h0⟩
  ·subst e; exact h1.1
  ·subst e; exact h2.1
  ·cases lo with
   | none=>exact y36 _
   | some v=>simpa [AllP] using h3
  ·cases hi with
   | none=>simpa [hiN] using hn
   | some v=>simpa [AllP,hiN] using h4
theorem z28 {k:IntKind} {v:Int} {y:Nat} {code:BoundsCode} (h:0<=v) (h':v.toNat<=y) :
  (Instr.sliceBound (.int k v) y code).run P w = .ok v.toNat w:=by
 have h2:0<=v/\v<=(y:Int):=⟨h,om⟩
 simp[Instr.sliceBound,asIntOf,h2]
variable {mx:Option Int} {kl kh km:IntKind}
theorem z1n {s:Bool} (hlo:∀ v,lo=some v->0<=v) (hhi:∀ v,hi=some v->0<=v) (h1:loN lo<=hiN n hi) (h2:hiN n hi<=cap) (hm:∀ v,mx=some v->0<=v/\hiN n hi<=v.toNat/\v.toNat<=cap/\hi.isSome=true) :
  (Instr.sliceBounds s n cap (lo.map (Value.int kl)) (hi.map (Value.int kh)) (mx.map (Value.int km))).run P w = .ok (loN lo,hiN n hi,hiN cap mx) w:=by
 unfold Instr.sliceBounds
 cases mx with
 | none =>
  cases hi with
  | none =>
   cases lo with
   | none=>simp[loN,hiN]
   | some l =>
    have:=z28 (P:=P) (w:=w) (k:=kl) (code:=.sliceB) (hlo l rfl) (y:=n) (by simpa [loN,hiN] using h1)
    simp[loN,hiN,this]
  | some u =>
   have hu:=z28 (P:=P) (w:=w) (k:=kh) (code:=if s then .sliceAcap else .sliceAlen) (hhi u rfl) (y:=cap) (by simp[hiN] at h2; omega)
   cases lo with
   | none=>simp[loN,hiN,hu]
   | some l =>
    have:=z28 (P:=P) (w:=w) (k:=kl) (code:=.sliceB) (hlo l rfl) (y:=u.toNat) (by simpa [loN,hiN] using h1)
    simp[loN,hiN,this,hu]
 | some m =>
  obtain⟨m0,m1,m2,m3⟩:=hm m rfl
  have hm':=z28 (P:=P) (w:=w) (k:=km) (code:=if s then .slice3Acap else .slice3Alen) m0 m2
  cases hi with
  | none=>cases m3
  | some u =>
   have hu:=z28 (P:=P) (w:=w) (k:=kh) (code:=.slice3B) (hhi u rfl) (y:=m.toNat) (by simpa [hiN] using m1)
   cases lo with
   | none=>simp[loN,hiN,hm',hu]
   | some l =>
    have:=z28 (P:=P) (w:=w) (k:=kl) (code:=.slice3C) (hlo l rfl) (y:=u.toNat) (by simpa [loN,hiN] using h1)
    simp[loN,hiN,this,hm',hu]
def sliceOne (P:Program) (elem:TypeId) (lo hi mx:Option Int) (n:Nat) (f:Nat->DV):Option (AV×List Prop) :=
 if szOf P elem=some (f (loN lo)).wd then match mx with
  | none=>some (.d (.sl (hiN n hi-loN lo) (cutF f lo)),boundC n lo hi)
  | some m=>match hi with
   | some h=>some (.full (hiN n hi-loN lo) (cutF f lo),boundC n lo hi++[m=h])
   | none=>none
 else none
def vSlice (P:Program) (L:List Ob) (t:TypeId) (x:AV) (lo hi mx:Option Int):Option (AV×List Prop) :=
 match P.underlying t with
 | some .string=>match x,mx with
  | .d (.str l),none=>some (.d (.str ((l.drop (loN lo)).take (hiN l.length hi-loN lo))),boundC l.length lo hi)
  | _,_=>none
 | some (.slice elem)=>match x with
  | .d (.sl n f)=>sliceOne P elem lo hi mx n f
  | .full n f=>sliceOne P elem lo hi mx n f
  | .ref o st off n=>match mx with
   | none=>match L[o]? with
    | some (.seq sz m _)=>if szOf P elem=some sz then some (.ref o st (off+loN lo) (hiN n hi-loN lo),boundR off st n lo hi++[m=st]) else none
    | _=>none
   | some mm=>match L[o]? with
    | some (.seq sz m _)=>if off=0/\hi.isSome=true/\szOf P elem=some sz then some (.bot,boundR off st n lo hi++[m=st,(0:Int)<=mm,hiN n hi<=mm.toNat,mm.toNat<=st]) else none
    | _=>none
  | _=>none
 | _=>none
theorem zmi (f:Nat->α) (lo:Option Int) (j:Nat):cutF f lo j=f (loN lo+j):=by
 cases lo with
 | none=>simp[cutF,loN]
 | some v=>rfl
theorem z6j (h:DV.Is M (.sl n f) [v]):∃ a cap,v = .slice a n cap/\n<=cap:=by
 cases h with
 | slNil=>exact⟨_,_,rfl,yc _⟩
 | slEmpty _ a cap=>exact⟨_,_,rfl,y36 _⟩
 | sl _ _ b off cap sz arr cs h1=>exact⟨_,_,rfl,h1⟩
variable {m:Nat}
theorem zie {a:Option Addr} (h:DV.Is M (.sl n f) [.slice a n cap]) (h1:loN lo<=hiN n hi) (h2:hiN n hi<=n) (hsz:sz=(f (loN lo)).wd) (hm1:hiN n hi<=m) (hm2:m<=cap) :
  DV.Is M (.sl (hiN n hi-loN lo) (cutF f lo)) [.slice (if m=loN lo then a else a.map (·.add (loN lo * sz))) (hiN n hi-loN lo) (m-loN lo)]:=by
 by_cases h0:hiN n hi-loN lo=0
 ·rw[h0]
  cases a with
  | none =>
   have hn:n=0:=by cases h; rfl
   have hc:cap=0:=by cases h; rfl
   have hml:m=loN lo:=om
   simp[hml]; exact .slNil _
  | some ad =>
   by_cases hml:m=loN lo
   ·simp only[y7 hml]; exact .slEmpty _ _ _
   ·simp only[y6 hml,y1z]; exact .slEmpty _ _ _
 ·cases h with
  | slNil=>simp[hiN] at h0 h2; omega
  | slEmpty=>omega
  | sl _ _ b off cap sz' arr cs k1 k2 hb hh hl hc =>
   have hlt:loN lo<n:=om
   have hs':sz'=sz:=by rw[hsz,<- hl _ hlt,(hh _ hlt).len]
   subst hs'
   rw[y6 om]
   simp only[y1z,z22]
   refine .sl _ _ b _ _ sz' arr (fun j=>cs (loN lo+j)) om om hb (fun i hi'=>?_) (fun i hi'=>?_) (fun i hi' j hj=>?_)
   ·rw[zmi]; exact hh _ om
   ·exact hl _ om
   ·have:=hc (loN lo+i) om j hj
    rw[<- this]; congr 1
    rw[y28]; omega
theorem zak (hu:P.underlying t=some (.slice elem)) (ha:DV.Is c.M (.sl n f) [u]) (hv0:sliceOne P elem lo hi mx n f=some (av,C)) (hc:AllP C) :
  ∃ v,(Instr.slice t u (lo.map (Value.int kl)) (hi.map (Value.int kh)) (mx.map (Value.int km))).run P w = .ok v w/\AV.IsV c av v:=by
 unfold sliceOne at hv0
 split at hv0
 case isFalse=>cases hv0
 rename_i hs
 have hv:=hv0
 obtain⟨a,cap,rfl,hcap⟩:=z6j ha
 have hrun:∀ (l h m:Nat),(Instr.sliceBounds true n cap (lo.map (Value.int kl)) (hi.map (Value.int kh)) (mx.map (Value.int km))).run P w = .ok (l,h,m) w ->
   (Instr.slice t (.slice a n cap) (lo.map (Value.int kl)) (hi.map (Value.int kh)) (mx.map (Value.int km))).run P w =
    .ok (.slice (if m=l then a else a.map (·.add (l * (f (loN lo)).wd))) (h-l) (m-l)) w:=fun l h m e=>by
  simp[Instr.slice,zl hu w,e,z19 hs w]
 cases mx with
 | none =>
  simp only[yw,y34] at hv
  obtain⟨rfl,rfl⟩:=hv
  obtain⟨b1,b2,b3,b4⟩:=z4y hc
  have hb:=z1n (P:=P) (w:=w) (s:=true) (n:=n) (cap:=cap) (lo:=lo) (hi:=hi) (mx:=none) (kl:=kl) (kh:=kh) (km:=km) b1 b2 b3 (y2c b4 hcap) sj
  exact⟨_,hrun _ _ _ hb,.one _ _ rfl (.d _ _ (zie ha b3 b4 rfl (by simpa [hiN] using y2c b4 hcap) (yc _)))⟩
 | some m =>
  cases hi with
  | none=>cases hv
  | some h =>
   simp only[yw,y34] at hv
   obtain⟨rfl,rfl⟩:=hv
   obtain⟨hc1,hmh,_⟩:=zd.1 hc
   subst hmh
   obtain⟨b1,b2,b3,b4⟩:=z4y hc1
   have hb:=z1n (P:=P) (w:=w) (s:=true) (n:=n) (cap:=cap) (lo:=lo) (hi:=some m) (mx:=some m) (kl:=kl) (kh:=kh) (km:=km) b1 b2 b3 (y2c b4 hcap)
    (fun v e=>by cases e; exact⟨b2 _ rfl,by simp[hiN],by simp[hiN] at b4; omega,rfl⟩)
   have hd:=zie ha b3 b4 rfl (m:=hiN n (some m)) (yc _) (y2c b4 hcap)
   exact⟨_,hrun _ _ _ hb,.one _ _ rfl (.full _ _ _ hd)⟩
theorem zif (hv:vSlice P c.L t a lo hi mx=some (av,C)) (hc:AllP C) (ha:AV.IsV c a u) (h0:∀ (o sz m:Nat) (f:Nat->AV),c.L[o]? = some (Ob.seq sz m f)->c.ms[o]? = some (none:Option (Nat×Nat))->m=0) :
  ∃ v,(Instr.slice t u (lo.map (Value.int kl)) (hi.map (Value.int kh)) (mx.map (Value.int km))).run P w = .ok v w/\AV.IsV c av v:=by
 unfold vSlice at hv
 split at hv
 ·rename_i hu
  split at hv
  ·rename_i l
   cases hv
   rw[IsV.str ha]
   obtain⟨b1,b2,b3,b4⟩:=z4y hc
   have hsz:(ByteArray.mk l.toArray).size=l.length:=by simp[ByteArray.size]
   have hb:=z1n (P:=P) (w:=w) (s:=false) (n:=l.length) (cap:=l.length) (lo:=lo) (hi:=hi) (mx:=none) (kl:=kl) (kh:=kh) (km:=km) b1 b2 b3 b4 sj
   refine⟨.string ((ByteArray.mk l.toArray).extract (loN lo) (hiN l.length hi)),?_,?_⟩
   ·simp only[y5d] at hb
    simp[Instr.slice,zl hu w,hsz,hb]
   ·rw[ByteArray.extract_mk]
    exact z5u _
  ·cases hv
 ·rename_i elem hu
  split at hv
  ·have ha':=IsV.is1 rfl sj sj ha
   cases ha' with
   | d _ _ ha'=>exact zak hu ha' hv hc
  ·have ha':=IsV.is1 rfl sj sj ha
   cases ha' with
   | full _ _ _ ha'=>exact zak hu ha' hv hc
  ·rename_i o st off n
   split at hv
   ·split at hv
    ·rename_i sz m g hL
     split at hv
     ·rename_i hsz
      cases hv
      obtain⟨hc1,rfl,_⟩:=zd.1 hc
      have ha':=IsV.is1 rfl sj sj ha
      cases ha' with
      | ref _ _ _ _ _ hr =>
      obtain⟨r1,⟨ra,rcap,r2⟩,r3,r4⟩:=hr
      obtain⟨r5,r6⟩:=r4 sz g hL
      obtain⟨b1,b2,b3,b4,b5⟩:=z9e hc1 r5
      subst r2
      have hcap:hiN n hi<=rcap:=by
       rcases r6 with ⟨r7,ra',r6⟩ | ⟨r7,r6⟩ | ⟨b,tc,r6,r7,r8⟩
       ·have:=h0 _ _ _ _ hL r7
        omega
       ·have:=b5 r7
        omega
       ·cases r8; omega
      have hb:=z1n (P:=P) (w:=w) (s:=true) (n:=n) (cap:=rcap) (lo:=lo) (hi:=hi) (mx:=none) (kl:=kl) (kh:=kh) (km:=km) b1 b2 b3 hcap sj
      refine⟨.slice (if rcap=loN lo then ra else ra.map (·.add (loN lo * sz))) (hiN n hi-loN lo) (rcap-loN lo),?_,.one _ _ rfl (.ref _ _ _ _ _ ?_)⟩
      ·simp only[y5d] at hb
       simp only[hiN] at hb
       simp[Instr.slice,zl hu w,hb,z19 hsz w]
       rfl
      ·refine⟨r1,⟨_,_,rfl⟩,r3,fun sz' g' hL'=>⟨om,?_⟩⟩
       rw[hL] at hL'
       cases hL'
       rcases r6 with ⟨r7,ra',r6⟩ | ⟨r6',r6⟩ | ⟨b,tc,r6,r7,r8⟩
       ·have hm0:=h0 _ _ _ _ hL r7
        cases r6
        left
        have e1:loN lo=0:=om
        have e2:hiN 0 hi=0:=om
        exact⟨r7,by simp[e1,e2]⟩
       ·right; left
        have:=b5 r6'
        omega
       ·cases r8
        right
        by_cases h0:tc-off=loN lo
        ·by_cases h1:off+loN lo=0
         ·right
          refine⟨b,tc,r6,r7,?_⟩
          have e1:off=0:=om
          have e2:loN lo=0:=om
          simp[e1,e2,z22]
         ·left; omega
        ·right
         refine⟨b,tc,r6,r7,?_⟩
         simp only[y6 h0,y1z,z22,<- y28,Nat.sub_sub]
     ·cases hv
    ·cases hv
   ·rename_i mm
    split at hv
    ·rename_i sz m g hL
     split at hv
     ·rename_i hif
      obtain⟨ho,hhi,hsz⟩:=hif
      cases hv
      subst ho
      obtain⟨hc1,rfl,hm0,hm1,hm2,_⟩:=zd.1 hc
      have ha':=IsV.is1 rfl sj sj ha
      cases ha' with
      | ref _ _ _ _ _ hr =>
      obtain⟨r1,⟨ra,rcap,r2⟩,r3,r4⟩:=hr
      obtain⟨r5,r6⟩:=r4 sz g hL
      obtain⟨b1,b2,b3,b4,b5⟩:=z9e hc1 r5
      subst r2
      have hcap:mm.toNat<=rcap:=by
       rcases r6 with ⟨r7,ra',r6⟩ | ⟨r7,r6⟩ | ⟨b,tc,r6,r7,r8⟩
       ·have:=h0 _ _ _ _ hL r7
        omega
       ·exact absurd rfl r7
       ·cases r8; omega
      have hb:=z1n (P:=P) (w:=w) (s:=true) (n:=n) (cap:=rcap) (lo:=lo) (hi:=hi) (mx:=some mm) (kl:=kl) (kh:=kh) (km:=km) b1 b2 b3 om (fun v hv=>by cases hv; exact⟨hm0,hm1,hcap,hhi⟩)
      refine⟨.slice (if mm.toNat=loN lo then ra else ra.map (·.add (loN lo * sz))) (hiN n hi-loN lo) (mm.toNat-loN lo),?_,.one _ _ rfl (.bot _ rfl)⟩
      obtain⟨h,rfl⟩:=y3a.1 hhi
      simp only[y1z] at hb |-
      simp only[Instr.slice,zl hu w,y14,yp,hb,z19 hsz w,y2d]
      rfl
     ·cases hv
    ·cases hv
  ·cases hv
 ·cases hv
def vLen (P:Program) (L:List Ob) (t:TypeId) (x:AV):Option (AV×List Prop) :=
 match P.underlying t,x with
 | some .string,.d (.str l)=>some (.d (.i .i64 l.length),[])
 | some (.slice _),.d (.sl n _)=>some (.d (.i .i64 n),[])
 | some (.slice _),.full n _=>some (.d (.i .i64 n),[])
 | some (.slice _),.ref _ _ _ n=>some (.d (.i .i64 n),[])
 | some (.array n _),_=>some (.d (.i .i64 n),[])
 | some (.map _ _),.d (.lit (.map none))=>some (.d (.i .i64 0),[])
 | some (.map _ _),.map o=>match L[o]? with
  | some (.map es)=>some (.d (.i .i64 es.length),[])
  | _=>none
 | _,_=>none
theorem EntsIs.length:∀ {es:List (DV×DV)} {r:List MapEntry},EntsIs c es r->r.length=es.length
 | [],[],_=>rfl
 | _ :: es,_ :: r,h=>by simp[EntsIs.length h.2.2]
 | [],_ :: _,h=>h.elim
 | _ :: _,[],h=>h.elim
theorem Rel.mapAt (h:Rel X ms L w) {o:Nat} {es:List (DV×DV)} {b:Nat} (hL:L[o]? = some (.map es)) (hm:ms[o]? = some (some (b,tc))) :
  ∃ ents clock,w.heap[b]? = some (.map ents clock)/\EntsIs (cxOf X ms L w) es ents.toList/\Born es.length clock ents.toList:=by
 obtain⟨b',tc',ents,clock,h1,h2,h3⟩:=h.obs o _ hL
 have:some (some (b,tc))=some (some (b',tc')):=hm.symm.trans h1
 cases this
 exact⟨ents,clock,h2,h3⟩
variable {ty:TypeId}
theorem zmj (hr:Rel X ms L w) (hv:vLen P L t a=some (av,C)) (ha:AV.IsV (cxOf X ms L w) a u) :
  ∃ v,(Builtin.len_ #[t] ty #[u]).run P w = .ok v w/\AV.IsV (cxOf X ms L w) av v:=by
 unfold vLen at hv
 split at hv
 ·rename_i l hu
  cases hv
  rw[IsV.str ha]
  refine⟨.int .i64 l.length,?_,z31 _ _⟩
  have hsz:(ByteArray.mk l.toArray).size=l.length:=by simp[ByteArray.size]
  simp[Builtin.len_,zl hu w,goInt,hsz]
 ·rename_i n f hu
  cases hv
  have ha':=IsV.is1 rfl sj sj ha
  cases ha' with
  | d _ _ ha' =>
  obtain⟨a,cap,rfl,_⟩:=z6j ha'
  exact⟨.int .i64 n,by simp[Builtin.len_,zl hu w,goInt],z31 _ _⟩
 ·rename_i n f hu
  cases hv
  have ha':=IsV.is1 rfl sj sj ha
  cases ha' with
  | full _ _ _ ha'=>exact⟨.int .i64 n,by simp[Builtin.len_,zl hu w,goInt],z31 _ _⟩
 ·rename_i o st off n hu
  cases hv
  have ha':=IsV.is1 rfl sj sj ha
  cases ha' with
  | ref _ _ _ _ _ hr =>
  obtain⟨r1,⟨ra,rcap,rfl⟩,_⟩:=hr
  exact⟨.int .i64 n,by simp[Builtin.len_,zl hu w,goInt],z31 _ _⟩
 ·rename_i n e hu
  cases hv
  refine⟨.int .i64 n,?_,z31 _ _⟩
  simp only[Builtin.len_]
  simp[zl hu w,goInt]
 ·rename_i hu
  cases hv
  have ha':=IsV.is1 rfl sj sj ha
  cases ha' with
  | d _ _ ha' =>
  cases ha'
  exact⟨.int .i64 0,by simp[Builtin.len_,zl hu w,goInt],z31 _ _⟩
 ·rename_i o hu
  split at hv
  ·rename_i es hL
   cases hv
   have ha':=IsV.is1 rfl sj sj ha
   cases ha' with
   | map _ _ hm =>
   obtain⟨_,_,hm⟩:=hm
   obtain⟨b,tc,hm',rfl⟩:=hm _ hL rfl
   obtain⟨ents,clock,h1,h2,_⟩:=hr.mapAt hL hm'
   refine⟨.int .i64 es.length,?_,z31 _ _⟩
   have:(getObj b).run P w = .ok (.map ents clock) w:=by simp[getObj,Sem.run,h1]
   have hl:=h2.length
   simp only[y22] at hl
   simp[Builtin.len_,zl hu w,goInt,this,hl]
  ·cases hv
 ·cases hv
def zeroD (P:Program):Nat->TypeId->DV
 | 0,_=>.b false
 | n+1,t=>match P.underlying t with
  | some .bool=>.b false
  | some (.int k)=>.i k 0
  | some .string=>.str []
  | some (.pointer _)=>.lit (.pointer none)
  | some (.slice _)=>.sl 0 fun _=>.b false
  | some (.map _ _)=>.lit (.map none)
  | some (.func _ _ _)=>.lit .nilFunc
  | some (.interface _)=>.lit .nilIface
  | some (.struct fs)=>.agg (fs.toList.map fun f=>zeroD P n f.type)
  | some (.array len e)=>.arr (zeroD P n e).wd len fun _=>zeroD P n e
  | _=>.b false
def catO:List (Option (List Value))->Option (List Value)
 | []=>some []
 | some c :: r=>match catO r with
  | some cs=>some (c++cs)
  | none=>none
 | none :: _=>none
def zeroC (P:Program):Nat->TypeId->Option (List Value)
 | 0,_=>none
 | n+1,t=>match P.underlying t with
  | some .bool=>some [.bool false]
  | some (.int k)=>some [.int k 0]
  | some .string=>some [.string ⟨#[]⟩]
  | some (.pointer _)=>some [.pointer none]
  | some (.slice _)=>some [.slice none 0 0]
  | some (.map _ _)=>some [.map none]
  | some (.func _ _ _)=>some [.nilFunc]
  | some (.interface _)=>some [.nilIface]
  | some (.struct fs)=>catO (fs.toList.map fun f=>zeroC P n f.type)
  | some (.array len e)=>match zeroC P n e with
   | some c=>some ((List.range len).flatMap fun _=>c)
   | none=>none
  | _=>none
theorem zg1 {M:Mem} {α:Type} (g:α->DV) (h:α->Option (List Value)) (hh:∀ a c,h a=some c->DV.Is M (g a) c):∀ (l:List α) (cs:List Value),
  catO (l.map h)=some cs->DV.IsL M (l.map g) cs
 | [],cs,e=>by simp[catO] at e; subst e; exact .nil
 | a :: l,cs,e=>by
  simp only[y2n] at e
  cases ha:h a with
  | none=>simp[catO,ha] at e
  | some c =>
   simp only[ha,catO] at e
   cases hr:catO (l.map h) with
   | none=>simp[hr] at e
   | some r =>
    simp[hr] at e
    subst e
    exact .cons _ _ _ _ (hh a c ha) (zg1 g h hh l r hr)
theorem z9o {P:Program} {M:Mem}:∀ (n:Nat) (t:TypeId) (cs:List Value),zeroC P n t=some cs->DV.Is M (zeroD P n t) cs
 | 0,t,cs,h=>by simp[zeroC] at h
 | n+1,t,cs,h=>by
  unfold zeroC at h
  unfold zeroD
  split at h
  case h_11=>cases h
  case h_9 fs _ =>
   exact .agg _ _ (zg1 _ _ (fun f c hc=>z9o n f.type c hc) _ _ h)
  case h_10 len e _ =>
   split at h
   ·rename_i c hc
    cases h
    have:=z9o (M:=M) n e c hc
    exact .arr _ _ _ (fun _=>c) (fun _ _=>this) (fun _ _=>this.len)
   ·cases h
  all_goals
   cases h
  ·exact .b false
  ·exact .i _ 0
  ·exact .str []
  ·exact .lit _ rfl
  ·exact .slNil _
  ·exact .lit _ rfl
  ·exact .lit _ rfl
  ·exact .lit _ rfl
def valEqB:Value->Value->Bool
 | .bool a,.bool b=>a==b
 | .int k a,.int k' b=>k==k'&&a==b
 | .string a,.string b=>a.data.toList==b.data.toList
 | .pointer none,.pointer none=>true
 | .map none,.map none=>true
 | .slice none 0 0,.slice none 0 0=>true
 | .nilFunc,.nilFunc=>true
 | .nilIface,.nilIface=>true
 | _,_=>false
theorem zig {a b:Value} (h:valEqB a b=true):a=b:=by
 unfold valEqB at h
 split at h <;> first | rfl | (cases h; done) | skip
 ·rw[yn] at h; rw[h]
 ·rw[ya,yn,yn] at h; rw[h.1,h.2]
 ·rename_i a b
  rw[yn] at h
  obtain⟨⟨a⟩⟩:=a
  obtain⟨⟨b⟩⟩:=b
  simp only at h
  rw[h]
def valsEqB:List Value->List Value->Bool
 | [],[]=>true
 | a :: as,b :: bs=>valEqB a b&&valsEqB as bs
 | _,_=>false
theorem zal:∀ {a b:List Value},valsEqB a b=true->a=b
 | [],[],_=>rfl
 | a :: as,b :: bs,h=>by
  simp only[valsEqB,ya] at h
  rw[zig h.1,zal h.2]
 | [],_ :: _,h=>by cases h
 | _ :: _,[],h=>by cases h
def isAggV:Value->Bool
 | .agg _=>true
 | _=>false
def zeroOf (P:Program) (t:TypeId):Option DV :=
 match (P.info? t).bind (·.zero),zeroC P 12 t with
 | some z,some cs=>if valsEqB z.cells.toList cs&&(isAggV z==(AV.d (zeroD P 12 t)).isAgg) then some (zeroD P 12 t) else none
 | _,_=>none
theorem z2h {x:DV} (h:zeroOf P t=some x):∃ z,(∀ w,(zeroValue t).run P w = .ok z w)/\(∀ c,AV.IsV c (.d x) z):=by
 unfold zeroOf at h
 split at h
 ·rename_i z cs hz hcs
  split at h
  ·rename_i hb
   cases h
   rw[ya] at hb
   have e:=zal hb.1
   have ea:isAggV z=(AV.d (zeroD P 12 t)).isAgg:=by simpa using hb.2
   refine⟨z,fun w=>?_,fun c=>?_⟩
   ·cases hi:P.info? t with
    | none=>simp[hi] at hz
    | some i =>
     simp[hi] at hz
     simp[zeroValue,typeInfo,hi,hz]
   ·have hd:DV.Is c.M (zeroD P 12 t) z.cells.toList:=by rw[e]; exact z9o 12 t cs hcs
    cases hg:(AV.d (zeroD P 12 t)).isAgg with
    | true =>
     rw[hg] at ea
     cases z <;> simp[isAggV] at ea
     rename_i cells
     have:=AV.IsV.agg (c:=c) _ _ hg (.d _ _ hd)
     simpa [Value.cells] using this
    | false =>
     rw[hg] at ea
     have hz1:z.cells = #[z]:=by cases z <;> first | rfl | simp[isAggV] at ea
     rw[hz1] at hd
     exact .one _ _ hg (.d _ _ (by simpa using hd))
  ·cases h
 ·cases h
def setParts (offs:Nat->Option (Stp×Nat)):List (Nat×AV)->AV->Option AV
 | [],a=>some a
 | (i,v) :: r,a=>match offs i with
  | some (s,sz)=>if v.solid=true/\v.wd=sz/\0<sz then (a.set [s] v).bind (setParts offs r) else none
  | none=>none
def partsL (offs:Nat->Option (Stp×Nat)):List (Nat×AV)->AV->List Prop
 | [],_=>[]
 | (i,v) :: r,a=>match offs i with
  | some (s,_)=>a.getL [s]++match a.set [s] v with
   | some a'=>partsL offs r a'
   | none=>[]
  | none=>[]
theorem zdw (l:List Value) (cs:List Value) (off:Nat) (h:off+l.length<=cs.length) :
  (l.toArray.zipIdx.foldl (fun (cs:Array Value) (x:Value×Nat)=>cs.setIfInBounds (off+x.2) x.1) cs.toArray)=(splice cs off l).toArray:=by
 have key:∀ (l:List Value) (k:Nat) (cs:List Value),off+k+l.length<=cs.length ->
   ((l.zipIdx k).foldl (fun (cs:Array Value) (x:Value×Nat)=>cs.setIfInBounds (off+x.2) x.1) cs.toArray)=(splice cs (off+k) l).toArray:=by
  intro l
  induction l with
  | nil=>intro k cs _; simp[splice]
  | cons v l ih =>
   intro k cs hk
   simp only[List.zipIdx_cons,y3k]
   have e1:cs.toArray.setIfInBounds (off+k) v=(cs.set (off+k) v).toArray:=sj
   rw[e1,ih (k+1) (cs.set (off+k) v) (by simp at hk |-; omega)]
   congr 1
   apply y2y
   intro j
   simp only[y10] at hk
   rw[zt? (cs:=cs.set (off+k) v) (k:=l) sk,zt? (cs:=cs) (k:=v :: l) sk]
   simp only[y10]
   by_cases h1:off+k<=j/\j<off+k+(l.length+1)
   ·rw[y7 h1]
    by_cases h2:j=off+k
    ·subst h2
     rw[y6 om,y16 om,y5e]
     rfl
    ·rw[y7 om,show j-(off+k)=(j-(off+(k+1)))+1 from om]
     simp
   ·rw[y6 h1,y6 om,y1d om]
 have:=key l 0 cs (by simpa using h)
 simpa using this
def PartsIs (c:Cx):List (Nat×AV)->List (Nat×Value)->Prop
 | [],[]=>True
 | (i,av) :: r,(j,v) :: s=>i=j/\AV.IsV c av v/\PartsIs c r s
 | _,_=>False
theorem z2w {c:Cx} {place:Nat->Option (Nat×Nat)} {offs:Nat->Option (Stp×Nat)}
  (hp:∀ i s sz,offs i=some (s,sz)->place i=some (s.off,sz)):∀ (parts:List (Nat×AV)) (vs:List (Nat×Value)) (a a':AV) (cs:List Value),
  PartsIs c parts vs->AV.Is c a cs->setParts offs parts a=some a'->AllP (partsL offs parts a) ->
  ∃ cs',Instr.fill place cs.toArray vs=some cs'.toArray/\AV.Is c a' cs'
 | [],[],a,a',cs,_,ha,hs,_=>by
  simp[setParts] at hs; subst hs
  exact⟨cs,rfl,ha⟩
 | (i,v) :: r,(j,u) :: s,a,a',cs,⟨hij,hv,hr⟩,ha,hs,hc=>by
  subst hij
  simp only[setParts] at hs
  simp only[partsL] at hc
  cases ho:offs i with
  | none=>simp[ho] at hs
  | some p =>
   obtain⟨st,sz⟩:=p
   simp only[ho] at hs hc
   split at hs
   ·rename_i hty
    obtain⟨h1,h2,h3⟩:=hty
    cases hset:a.set [st] v with
    | none=>simp[hset] at hs
    | some a1 =>
     simp only[hset,y1t] at hs hc
     obtain⟨hc1,hc2⟩:=zd.1 hc
     have hvc:=IsV.cells h1 hv
     have hlen:=hvc.len
     obtain⟨k1,k2,k3⟩:=AV.set_is [st] ha hset (AV.getL_C hc1) hvc
     have hoff:pathOff [st]=st.off:=by simp[pathOff]
     rw[hoff] at k1 k3
     have hb:st.off+u.cells.toList.length<=cs.length:=by
      rcases k3 with k3 | k3
      ·omega
      ·exact k3
     obtain⟨cs',h4,h5⟩:=z2w hp r s a1 a' _ hr k1 hs hc2
     refine⟨cs',?_,h5⟩
     have hsz:u.cells.size=sz:=by rw[<- h2,<- hlen]; simp
     simp only[Instr.fill,hp i st sz ho]
     rw[y6 (by simp at hb; simp[hsz]; omega)]
     have:=zdw u.cells.toList cs st.off hb
     simp only[y3l] at this
     rw[this]
     exact h4
   ·cases hs
 | [],_ :: _,_,_,_,h,_,_,_=>h.elim
 | _ :: _,[],_,_,_,h,_,_,_=>h.elim
def vBuild (P:Program) (t:TypeId) (parts:List (Nat×AV)):Option (AV×List Prop) :=
 match zeroOf P t,P.underlying t with
 | some z,some (.struct fields) =>
  let offs:Nat->Option (Stp×Nat):=fun i=>(fields[i]?).bind fun f=>(szOf P f.type).map fun n=>(Stp.f i f.offset,n)
  if fields.toList.all (fun f=>(szOf P f.type).isSome) then
   (setParts offs parts (.d z)).bind fun av=>if av.isAgg then some (av,partsL offs parts (.d z)) else none
  else none
 | some z,some (.array n elem)=>match szOf P elem with
  | some sz=>let offs:Nat->Option (Stp×Nat):=fun i=>if i<n then some (.x i sz,sz) else none
   (setParts offs parts (.d z)).bind fun av=>if av.isAgg then some (av,partsL offs parts (.d z)) else none
  | none=>none
 | _,_=>none
theorem z76 {P:Program} {w:World}:∀ (fs:List Field),fs.all (fun f=>(szOf P f.type).isSome)=true ->
  (fs.mapM (fun f=>do pure (f.offset,<- sizeOf f.type):Field->Sem (Nat×Nat))).run P w = .ok (fs.map fun f=>(f.offset,(szOf P f.type).getD 0)) w
 | [],_=>rfl
 | f :: fs,h=>by
  simp only[y3z,ya] at h
  have ih:=z76 (P:=P) (w:=w) fs h.2
  obtain⟨n,hn⟩:=y3a.1 h.1
  simp only[List.mapM_cons,y14,z19 hn w,yp,y2d,ih,y2n,hn,y44]
variable {parts:List (Nat×AV)} {vs:Array (Nat×Value)}
theorem zih (hv:vBuild P t parts=some (av,C)) (hc:AllP C) (hp:PartsIs c parts vs.toList) :
  ∃ v,(Instr.build t vs).run P w = .ok v w/\AV.IsV c av v:=by
 unfold vBuild at hv
 split at hv
 ·rename_i z fields hz hu
  simp only at hv
  split at hv
  ·rename_i hall
   cases hs:setParts (fun i=>(fields[i]?).bind fun f=>(szOf P f.type).map fun n=>(Stp.f i f.offset,n)) parts (.d z) with
   | none=>simp[hs] at hv
   | some a' =>
    simp only[hs,y1t] at hv
    split at hv
    ·rename_i hag
     cases hv
     obtain⟨zv,h1,h2⟩:=z2h hz
     have hzc:=IsV.cells (c:=c) (av:=.d z) rfl (h2 c)
     have hm:=z76 (P:=P) (w:=w) fields.toList hall
     obtain⟨cs',h3,h4⟩:=z2w (c:=c) (place:=fun i=>((fields.toList.map fun f=>(f.offset,(szOf P f.type).getD 0)).toArray)[i]?) (by
      intro i s sz ho
      cases hf:fields[i]? with
      | none=>simp[hf] at ho
      | some f =>
       cases hn:szOf P f.type with
       | none=>simp[hf,hn] at ho
       | some n =>
        simp[hf,hn] at ho
        obtain⟨rfl,rfl⟩:=ho
        simp[hf,hn,Stp.off]) parts vs.toList _ _ _ hp hzc hs hc
     refine⟨.agg cs'.toArray,?_,.agg _ _ hag h4⟩
     have hm':(fields.mapM (fun f=>do pure (f.offset,<- sizeOf f.type):Field->Sem (Nat×Nat))).run P w =
       .ok (fields.toList.map fun f=>(f.offset,(szOf P f.type).getD 0)).toArray w:=by
      rw[y4o,Sem.run_map,hm,yp]
     simp only[y3l] at h3
     simp only[Instr.build,y14,h1,yp,zl hu w,hm',h3]
     rfl
    ·cases hv
  ·cases hv
 ·rename_i z n elem hz hu
  split at hv
  ·rename_i sz hsz
   simp only at hv
   cases hs:setParts (fun i=>if i<n then some (Stp.x i sz,sz) else none) parts (.d z) with
   | none=>simp[hs] at hv
   | some a' =>
    simp only[hs,y1t] at hv
    split at hv
    ·rename_i hag
     cases hv
     obtain⟨zv,h1,h2⟩:=z2h hz
     have hzc:=IsV.cells (c:=c) (av:=.d z) rfl (h2 c)
     obtain⟨cs',h3,h4⟩:=z2w (c:=c) (place:=fun i=>some (i * sz,sz)) (by
      intro i s sz' ho
      split at ho
      ·cases ho; rfl
      ·cases ho) parts vs.toList _ _ _ hp hzc hs hc
     refine⟨.agg cs'.toArray,?_,.agg _ _ hag h4⟩
     simp[Instr.build,h1,zl hu w,z19 hsz w,h3]
    ·cases hv
  ·cases hv
 ·cases hv
def fieldD (P:Program) (xs:List DV) (i:Nat) (f:Field):Option DV :=
 if DV.wdL (xs.take i)=f.offset then match xs[i]? with
  | some x=>if szOf P f.type=some x.wd/\aggTy P f.type=some (AV.d x).isAgg/\0<x.wd then some x else none
  | none=>none
 else none
def eqFs (P:Program) (g:TypeId->DV->DV->Option Bool) (xs ys:List DV):List Field->Nat->Option Bool
 | [],_=>some true
 | f :: r, i => if f.name = "_" then none else match fieldD P xs i f, fieldD P ys i f with
  | some x,some y=>match g f.type x y with
   | some b=>match eqFs P g xs ys r (i+1) with
    | some c=>some (b&&c)
    | none=>none
   | none=>none
  | _,_=>none
def eqD (P:Program):Nat->TypeId->DV->DV->Option Bool
 | 0,_,_,_=>none
 | n+1,t,x,y=>match P.underlying t with
  | some .bool=>match x,y with
   | .b a,.b b=>some (a==b)
   | _,_=>none
  | some (.int _)=>match x,y with
   | .i k a,.i k' b=>if k=k' then some (a==b) else none
   | _,_=>none
  | some .string=>match x,y with
   | .str a,.str b=>some (a==b)
   | _,_=>none
  | some (.struct fs)=>match x,y with
   | .agg xs,.agg ys=>if P.stoodInHeld t then none else eqFs P (eqD P n) xs ys fs.toList 0
   | _,_=>none
  | _=>none
theorem z6k {i:Nat} {f:Field} {x:DV} (h:fieldD P xs i f=some x) (hx:AV.Is c (.d (.agg xs)) cs) :
  ∃ v,(part f.type cs.toArray f.offset).run P w = .ok v w/\AV.IsV c (.d x) v:=by
 unfold fieldD at h
 split at h
 ·rename_i ho
  split at h
  ·rename_i y hy
   split at h
   ·rename_i hty
    cases h
    obtain⟨h1,h2,h3⟩:=hty
    obtain⟨k,hk,hat⟩:=AV.into_is (s:=.f i f.offset) (x:=.d x) hx (by simp[AV.into,ho,hy]) trivial
    have hkl:=hk.len
    obtain⟨v,h5,h6⟩:=zbk (P:=P) (w:=w) (cs:=cs) (off:=f.offset) h2 (by rw[h1,hkl]; rfl) hat (fun hg=>z4a hk hg)
     (hat.le (by rw[hkl]; exact h3))
    exact⟨v,h5,z3j hk rfl h6⟩
   ·cases h
  ·cases h
 ·cases h
theorem z8t {P:Program} {w:World} {c:Cx}:∀ (n d:Nat) (t:TypeId) (x y:DV) (r:Bool) (u v:Value),eqD P n t x y=some r->n<=d->AV.IsV c (.d x) u->AV.IsV c (.d y) v ->
  (Op.equalIn d t u v).run P w = .ok r w
 | 0,d,t,x,y,r,u,v,h,_,_,_=>by simp[eqD] at h
 | n+1,0,t,x,y,r,u,v,h,hd,_,_=>om
 | n+1,d+1,t,x,y,r,u,v,h,hd,hu,hv=>by
  unfold eqD at h
  split at h
  ·rename_i hty
   split at h
   ·cases h
    rw[IsV.b hu,IsV.b hv]
    exact run_equalIn_bool w d t _ _ hty
   ·cases h
  ·rename_i hty
   split at h
   ·split at h
    ·rename_i hk
     cases h; cases hk
     rw[IsV.i hu,IsV.i hv]
     exact run_equalIn_int w d t _ _ _ _ hty
    ·cases h
   ·cases h
  ·rename_i hty
   split at h
   ·cases h
    rw[IsV.str hu,IsV.str hv]
    rw[run_equalIn_string w d t _ _ hty]
    simp
   ·cases h
  ·rename_i fs hty
   split at h
   ·rename_i xs ys
    split at h
    ·cases h
    ·rename_i hst
     obtain⟨cs,rfl,hcs⟩:=IsV.is rfl hu
     obtain⟨ks,rfl,hks⟩:=IsV.is rfl hv
     have hf:P.fieldsOf t=fs:=by simp[Program.fieldsOf,hty]
     rw[run_equalIn_struct w d t _ _ (by rw[hf]; exact hty) (by simpa using hst),hf]
     generalize fs.toList=l at h
     generalize 0=i at h
     clear hty hf
     induction l generalizing i r with
     | nil=>simp[eqFs] at h; subst h; rfl
     | cons f l ih =>
      simp only[eqFs] at h
      split at h
      ·cases h
      ·rename_i hname
       split at h
       ·rename_i x y hx hy
        split at h
        ·rename_i b hb
         split at h
         ·rename_i c' hc'
          cases h
          obtain⟨v1,p1,q1⟩:=z6k (P:=P) (w:=w) hx hcs
          obtain⟨v2,p2,q2⟩:=z6k (P:=P) (w:=w) hy hks
          have e:=z8t (w:=w) n d f.type x y b v1 v2 hb om q1 q2
          have ihh:=ih _ _ hc'
          simp only[Op.eqFields,ne_eq,hname,not_false_eq_true,y3h,y14,p1,p2,e,yp,Sem.run_ite]
          cases b with
          | true=>simpa using ihh
          | false=>simp
         ·cases h
        ·cases h
       ·cases h
   ·cases h
  ·cases h
theorem z6l (d:Nat) (a:Option Addr) (n c:Nat) (ht:P.underlying t=some (.slice elem)) :
  (Op.equalIn (d+1) t (.slice a n c) (.slice none 0 0)).run P w = .ok a.isNone w:=by
 cases a <;> simp[Op.equalIn,zl ht w]
theorem zcg (ht:P.underlying t=some (.slice elem)) (hd:DV.Is M (.sl n f) [u]) :
  (Op.equal t u (.slice none 0 0)).run P w = .ok (nilV u) w:=by
 cases hd with
 | slNil=>exact z6l 9999 none 0 0 ht
 | slEmpty _ a cap=>exact z6l 9999 (some a) 0 cap ht
 | sl _ _ b off cap=>exact z6l 9999 (some _) _ _ ht
def nilq:Operand->AV->AV
 | .const (.slice none 0 0),_=>.nq true 0 fun _=>.b false
 | _,v=>v
theorem zmk {o:Operand} {v:AV} {a:Act} (h:AV.IsV c v (a.eval o)):AV.IsV c (nilq o v) (a.eval o):=by
 unfold nilq
 split
 ·exact .one _ _ rfl (.nq _ _ _ _ (.slNil _) rfl)
 ·exact h
def vBin (P:Program) (op:BinOp) (t:TypeId) (x y:AV):Option (AV×List Prop) :=
 match x,y with
 | .d (.i k a),.d (.i k' b)=>(binI op k k' a b).map fun p=>(.d p.1,p.2)
 | .d (.str a),.d (.str b)=>(binS op a b).map fun p=>(.d p.1,p.2)
 | .d (.b a),.d (.b b)=>match P.underlying t,op with
  | some .bool,.eql=>some (.d (.b (a==b)),[])
  | some .bool,.neq=>some (.d (.b (!(a==b))),[])
  | _,_=>none
 | .d (.agg xs),.d (.agg ys)=>if P.eqGuardType P.depth t then none else match eqD P 8 t (.agg xs) (.agg ys),op with
  | some r,.eql=>some (.d (.b r),[])
  | some r,.neq=>some (.d (.b (!r)),[])
  | _,_=>none
 | .ptr _ _ _,.d (.lit (.pointer none))=>match P.underlying t,op with
  | some (.pointer _),.eql=>some (.d (.b false),[])
  | some (.pointer _),.neq=>some (.d (.b true),[])
  | _,_=>none
 | .d (.lit (.pointer none)),.d (.lit (.pointer none))=>match P.underlying t,op with
  | some (.pointer _),.eql=>some (.d (.b true),[])
  | some (.pointer _),.neq=>some (.d (.b false),[])
  | _,_=>none
 | .nq b _ _,.nq true 0 _=>match P.underlying t,op with
  | some (.slice _),.eql=>some (.d (.b b),[])
  | some (.slice _),.neq=>some (.d (.b (!b)),[])
  | _,_=>none
 | _,_=>none
variable {ox oy:Operand}
theorem zml (h:vBin P op t x y=some (av,C)) (hc:AllP C) (hu:AV.IsV c x u) (hv:AV.IsV c y v) :
  ∃ r,(do eqGuard op t ox oy u v; binOp op t u v:Sem Value).run P w = .ok r w/\AV.IsV c av r:=by
 unfold vBin at h
 split at h
 ·rename_i k a k' b
  cases hb:binI op k k' a b with
  | none=>simp[hb] at h
  | some p =>
   obtain⟨d,D⟩:=p
   simp[hb] at h
   obtain⟨rfl,rfl⟩:=h
   rw[IsV.i hu,IsV.i hv]
   obtain⟨r,h1,h2⟩:=zkh (P:=P) (w:=w) (t:=t) hb hc
   refine⟨r,?_,.one _ _ (h2 c.M).2 (.d _ _ (h2 c.M).1)⟩
   rw[y14,z1e sj sj,yp,h1]
 ·rename_i a b
  cases hb:binS op a b with
  | none=>simp[hb] at h
  | some p =>
   obtain⟨d,D⟩:=p
   simp[hb] at h
   obtain⟨rfl,rfl⟩:=h
   rw[IsV.str hu,IsV.str hv]
   obtain⟨r,h1,h2⟩:=zki (P:=P) (w:=w) (t:=t) hb hc
   refine⟨r,?_,.one _ _ (h2 c.M).2 (.d _ _ (h2 c.M).1)⟩
   rw[y14,z1e sj sj,yp,h1]
 ·rename_i a b
  rw[IsV.b hu,IsV.b hv]
  split at h
  ·rename_i ht
   cases h
   exact⟨_,by rw[y14,z1e sj sj,yp,run_eql_bool w t a b ht],z3o _⟩
  ·rename_i ht
   cases h
   exact⟨_,by rw[y14,z1e sj sj,yp,run_neq_bool w t a b ht],z3o _⟩
  ·cases h
 ·rename_i xs ys
  split at h
  ·cases h
  ·rename_i hg
   obtain⟨cs,rfl,hcs⟩:=IsV.is rfl hu
   obtain⟨ks,rfl,hks⟩:=IsV.is rfl hv
   split at h
   ·rename_i r he
    cases h
    have:=z8t (P:=P) (w:=w) (c:=c) 8 10000 t _ _ r _ _ he om hu hv
    refine⟨.bool r,?_,z3o _⟩
    rw[y14,run_eqGuard_agg w _ t _ _ _ _ (by simpa using hg),yp,run_eql_struct,this]
    rfl
   ·rename_i r he
    cases h
    have:=z8t (P:=P) (w:=w) (c:=c) 8 10000 t _ _ r _ _ he om hu hv
    refine⟨.bool (!r),?_,z3o _⟩
    rw[y14,run_eqGuard_agg w _ t _ _ _ _ (by simpa using hg),yp,run_neq_struct,this]
    rfl
   ·cases h
 ·rename_i o st p
  have hu':=IsV.is1 rfl sj sj hu
  have hv':=IsV.is1 rfl sj sj hv
  cases hu' with
  | ptr _ _ _ _ hp =>
  obtain⟨_,⟨a,rfl⟩,_⟩:=hp
  cases hv' with
  | d _ _ hv' =>
  cases hv'
  split at h
  ·rename_i e ht
   cases h
   refine⟨.bool false,?_,z3o _⟩
   rw[y14,z1e sj sj,yp,run_eql_pointer_nil w t _ (by simp[Program.pointee,ht])]
   rfl
  ·rename_i e ht
   cases h
   refine⟨.bool true,?_,z3o _⟩
   rw[y14,z1e sj sj,yp,run_neq_pointer_nil w t _ (by simp[Program.pointee,ht])]
   rfl
  ·cases h
 ·have hu':=IsV.is1 rfl sj sj hu
  have hv':=IsV.is1 rfl sj sj hv
  cases hu' with
  | d _ _ hu' =>
  cases hu'
  cases hv' with
  | d _ _ hv' =>
  cases hv'
  split at h
  ·rename_i e ht
   cases h
   refine⟨.bool true,?_,z3o _⟩
   rw[y14,z1e sj sj,yp,run_eql_pointer_nil w t _ (by simp[Program.pointee,ht])]
   rfl
  ·rename_i e ht
   cases h
   refine⟨.bool false,?_,z3o _⟩
   rw[y14,z1e sj sj,yp,run_neq_pointer_nil w t _ (by simp[Program.pointee,ht])]
   rfl
  ·cases h
 ·have hu':=IsV.is1 rfl sj sj hu
  have hv':=IsV.is1 rfl sj sj hv
  cases hv' with
  | nq _ _ _ _ hd hb =>
  have hvn:v = .slice none 0 0:=by
   cases hd with
   | slNil=>rfl
   | slEmpty=>cases hb
   | sl=>cases hb
  subst hvn
  cases hu' with
  | nq _ _ _ _ hd' hb' =>
  have hne1:u≠.nilIface:=by cases hd' <;> simp
  have hne2:∀ xs,u≠.agg xs:=by cases hd' <;> simp
  split at h
  ·rename_i e ht
   cases h
   refine⟨.bool (nilV u),?_,hb'▸z3o _⟩
   rw[y14,z1e hne1 hne2,yp]
   have:=zcg (w:=w) ht hd'
   cases hd' <;> simp[binOp,this]
  ·rename_i e ht
   cases h
   refine⟨.bool (!(nilV u)),?_,hb'▸z3o _⟩
   rw[y14,z1e hne1 hne2,yp]
   have:=zcg (w:=w) ht hd'
   cases hd' <;> simp[binOp,this]
  ·cases h
 ·cases h
theorem z7w {ms:_} (d:Nat) {b:Bool} (hu:ifB u=some b) (ht:P.underlying t=some (.interface ms)) :
  (Op.equalIn (d+1) t u .nilIface).run P w = .ok (!b) w:=by
 unfold ifB at hu
 split at hu
 ·cases hu; simp[Op.equalIn,zl ht w]
 ·cases hu; simp[Op.equalIn,zl ht w]
 ·cases hu
def zh0 (P:Program) (op:BinOp) (t:TypeId) (y:Operand) (a b:AV):Option (AV×List Prop):=match y,a with
 | .const .nilIface,.err e=>match P.underlying t,op with
  | some (.interface _),.eql=>some (.d (.b (!e)),[])
  | some (.interface _),.neq=>some (.d (.b e),[])
  | _,_=>none
 | _,_=>vBin P op t a (nilq y b)
theorem zkk {ac:Act} (h:zh0 P op t oy x y=some (av,C)) (hc:AllP C) (hu:AV.IsV c x u) (hv:AV.IsV c y (ac.eval oy)) :
  ∃ r,(do eqGuard op t ox oy u (ac.eval oy); binOp op t u (ac.eval oy):Sem Value).run P w = .ok r w/\AV.IsV c av r:=by
 unfold zh0 at h
 split at h
 ·rename_i e
  have hu':=IsV.is1 rfl sj sj hu
  cases hu' with
  | err _ _ he =>
  have hguard:∀ op',(eqGuard op' t ox (.const .nilIface) u .nilIface).run P w = .ok () w:=fun op'=>by
   unfold ifB at he
   split at he
   ·cases op' <;> simp[eqGuard]
   ·cases op' <;> simp[eqGuard]
   ·cases he
  split at h
  ·rename_i ms ht
   cases h
   refine⟨.bool (!e),?_,z3o _⟩
   show (do eqGuard .eql t ox (.const .nilIface) u .nilIface; binOp .eql t u .nilIface:Sem Value).run P w=_
   rw[y14,hguard,yp]
   have:=z7w (P:=P) (w:=w) 9999 he ht
   unfold ifB at he
   split at he <;> first | (cases he; done) | (simp only[binOp,y14]; rw[show (Op.equal t _ .nilIface).run P w=_ from this]; rfl)
  ·rename_i ms ht
   cases h
   refine⟨.bool e,?_,z3o _⟩
   show (do eqGuard .neq t ox (.const .nilIface) u .nilIface; binOp .neq t u .nilIface:Sem Value).run P w=_
   rw[y14,hguard,yp]
   have:=z7w (P:=P) (w:=w) 9999 he ht
   unfold ifB at he
   split at he <;> first | (cases he; done) | (simp only[binOp,y14]; rw[show (Op.equal t _ .nilIface).run P w=_ from this]; simp)
  ·cases h
 ·exact zml h hc hu (zmk hv)
def vUn (op:UnOp) (x:AV):Option (AV×List Prop) :=
 match op,x with
 | .not,.d (.b a)=>some (.d (.b (!a)),[])
 | .neg,.d (.i k n)=>some (.d (.i k (k.wrap (0-n))),[])
 | _,_=>none
theorem zns {op:UnOp} (h:vUn op x=some (av,C)) (hu:AV.IsV c x u) :
  ∃ r,(Op.unary op u).run P w = .ok r w/\AV.IsV c av r:=by
 unfold vUn at h
 split at h
 ·cases h
  rw[IsV.b hu]
  exact⟨_,rfl,z3o _⟩
 ·cases h
  rw[IsV.i hu]
  exact⟨_,rfl,z31 _ _⟩
 ·cases h
def vConv (P:Program) (src dst:TypeId) (x:AV):Option (AV×List Prop) :=
 match P.underlying src,P.underlying dst,x with
 | some _,some (.int k),.d (.i _ n)=>some (.d (.i k (k.wrap n)),[])
 | some .string,some .string,.d (.str l)=>some (.d (.str l),[])
 | _,_,_=>none
variable {d:TypeId}
theorem zkl (h:vConv P s d x=some (av,C)) (hu:AV.IsV c x u) :
  ∃ r,(convert s d u).run P w = .ok r w/\AV.IsV c av r:=by
 unfold vConv at h
 split at h
 ·rename_i ds k k' n h1 h2
  cases h
  rw[IsV.i hu]
  refine⟨.int k (k.wrap n),?_,z31 _ _⟩
  simp[convert,zl h1 w,zl h2 w,Conv.intToInt]
 ·rename_i l h1 h2
  cases h
  rw[IsV.str hu]
  refine⟨.string ⟨l.toArray⟩,?_,z5u _⟩
  simp[convert,zl h1 w,zl h2 w]
 ·cases h
theorem AV.IsVs.get:∀ {vs:List AV} {us:List Value},AV.IsVs c vs us->∀ (i:Nat) (x:AV),vs[i]? = some x->∃ u,us[i]? = some u/\AV.IsV c x u
 | _,_,.nil,i,x,h=>by simp at h
 | _,_,.cons y ys v vs h0 ht,0,x,h=>by simp at h; subst h; exact⟨v,rfl,h0⟩
 | _,_,.cons y ys v vs h0 ht,i+1,x,h=>by simp at h; simpa using AV.IsVs.get ht i x h
def vExtract (x:AV) (i:Nat):Option (AV×List Prop) :=
 match x with
 | .tup vs=>(vs[i]?).map fun v=>(v,[])
 | _=>none
theorem zfj {i:Nat} (h:vExtract x i=some (av,C)) (hu:AV.IsV c x u) :
  ∃ r,(Instr.extract u i).run P w = .ok r w/\AV.IsV c av r:=by
 unfold vExtract at h
 split at h
 ·rename_i vs
  cases hv:vs[i]? with
  | none=>simp[hv] at h
  | some y =>
   simp[hv] at h
   obtain⟨rfl,rfl⟩:=h
   cases hu with
   | agg _ _ ha=>cases ha
   | one _ _ _ h=>cases h
   | tup _ us hs =>
   obtain⟨r,h1,h2⟩:=hs.get i y hv
   exact⟨r,by simp[Instr.extract,h1],h2⟩
 ·cases h
def vNil (x:AV):Option (AV×List Prop) :=
 match x with
 | .ptr o st p=>some (.ptr o st p,[])
 | .imm y=>some (.imm y,[])
 | .fn f cs=>some (.fn f cs,[])
 | .bfn f cs=>some (.bfn f cs,[])
 | _=>none
def avMinMax (mx:Bool):AV->List AV->Option AV
 | .d (.i k x),.d (.i _ y) :: r=>avMinMax mx (.d (.i k (if mx then (if y>x then y else x) else (if y<x then y else x)))) r
 | x,[]=>match x with
  | .d (.i k n)=>some (.d (.i k n))
  | _=>none
 | _,_=>none
theorem zdx {P:Program} {c:Cx} {w:World}:∀ (r:List AV) (x av:AV) (u:Value) (us:List Value),avMinMax false x r=some av->AV.IsV c x u->AV.IsVs c r us ->
  ∃ v,(us.foldlM Builtin.min2 u).run P w = .ok v w/\AV.IsV c av v
 | [],x,av,u,us,h,hu,hs=>by
  cases hs
  cases x with
  | d y =>
   cases y with
   | i k n=>simp[avMinMax] at h; subst h; exact⟨u,rfl,hu⟩
   | _=>simp[avMinMax] at h
  | _=>simp[avMinMax] at h
 | y :: r,x,av,u,us,h,hu,hs=>by
  cases hs with
  | cons _ _ v vs hv ht =>
  unfold avMinMax at h
  split at h
  ·rename_i k a k' b r' he
   cases he
   rw[IsV.i hu,IsV.i hv]
   obtain⟨z,h1,h2⟩:=zdx r _ av (.int k (if b<a then b else a)) vs h (z31 _ _) ht
   exact⟨z,by simpa [List.foldlM_cons,Builtin.min2] using h1,h2⟩
  ·rename_i he; cases he
  ·cases h
theorem zdy {P:Program} {c:Cx} {w:World}:∀ (r:List AV) (x av:AV) (u:Value) (us:List Value),avMinMax true x r=some av->AV.IsV c x u->AV.IsVs c r us ->
  ∃ v,(us.foldlM Builtin.max2 u).run P w = .ok v w/\AV.IsV c av v
 | [],x,av,u,us,h,hu,hs=>by
  cases hs
  cases x with
  | d y =>
   cases y with
   | i k n=>simp[avMinMax] at h; subst h; exact⟨u,rfl,hu⟩
   | _=>simp[avMinMax] at h
  | _=>simp[avMinMax] at h
 | y :: r,x,av,u,us,h,hu,hs=>by
  cases hs with
  | cons _ _ v vs hv ht =>
  unfold avMinMax at h
  split at h
  ·rename_i k a k' b r' he
   cases he
   rw[IsV.i hu,IsV.i hv]
   obtain⟨z,h1,h2⟩:=zdy r _ av (.int k (if b>a then b else a)) vs h (z31 _ _) ht
   exact⟨z,by simpa [List.foldlM_cons,Builtin.max2] using h1,h2⟩
  ·rename_i he; cases he
  ·cases h
def byteD:DV->UInt8
 | .i _ n=>UInt8.ofNat n.toNat
 | _=>0
def vConvB (P:Program) (src dst:TypeId) (x:AV):Option (AV×List Prop) :=
 match P.underlying src,P.underlying dst,x with
 | some (.slice e),some .string,.d (.sl n f)=>match P.underlying e with
  | some (.int .u8)=>some (.d (.str ((List.range n).map fun j=>byteD (f j))),[∀ j,j<n->∃ k,f j = .i .u8 k])
  | _=>none
 | _,_,_=>none
theorem z68:∀ (l:List Int) (r:ByteArray),l.foldl (fun r n=>r.push (UInt8.ofNat n.toNat)) r=⟨r.data++(l.map fun n=>UInt8.ofNat n.toNat).toArray⟩
 | [],r=>sj
 | b :: l,r=>by
  simp only[y3k,y2n]
  rw[z68 l]
  simp[ByteArray.push]
theorem DV.Is.int1 {k:IntKind} {n:Int} (h:DV.Is M (.i k n) cs):cs=[.int k n]:=by cases h; rfl
theorem zii (h:vConvB P s d x=some (av,C)) (hc:AllP C) (hu:AV.IsV (cxOf X ms L w) x u) :
  ∃ r,(convert s d u).run P w = .ok r w/\AV.IsV (cxOf X ms L w) av r:=by
 unfold vConvB at h
 split at h
 ·rename_i e n f hs hd
  split at h
  ·rename_i he
   cases h
   have hk:=hc.1
   have hu':=IsV.is1 rfl sj sj hu
   cases hu' with
   | d _ _ hu' =>
   generalize hDV:DV.sl n f=z at hu'
   generalize hus:[u]=us at hu'
   cases hu' with
   | b | i | str | lit | agg | arr=>cases hDV
   | slNil f' =>
    cases hDV; cases hus
    refine⟨.string ⟨#[]⟩,?_,z5u []⟩
    rw[y4q w s d e none 0 0 hs he hd]
    simp[Conv.bytesToString]
    rfl
   | slEmpty f' a cap =>
    cases hDV; cases hus
    refine⟨.string ⟨#[]⟩,?_,z5u []⟩
    rw[y4q w s d e (some a) 0 cap hs he hd,run_bytesToString w a 0 cap [] (by simp[loadCells,loadCellsFrom])]
    rfl
   | sl n' f' b off cap sz arr cs h1 h2 hb hh hl hcell =>
    cases hDV; cases hus
    obtain⟨_,_,e',fz,hheap⟩:=z26 hb
    have hcs:∀ j,j<n->∃ k,f j = .i .u8 k/\cs j=[.int .u8 k]:=fun j hj=>by
     obtain⟨k,hk⟩:=hk j hj
     refine⟨k,hk,?_⟩
     have:=hh j hj
     rw[hk] at this
     exact this.int1
    have hcel:∀ j,j<n->∃ k,f j = .i .u8 k/\w.cell? ⟨b,off+j,none⟩=some (.int .u8 k):=fun j hj=>by
     obtain⟨k,h3,h4⟩:=hcs j hj
     have hsz:sz=1:=by have:=hl j hj; rw[h4] at this; simpa using this.symm
     subst hsz
     refine⟨k,h3,?_⟩
     rw[z6q hheap]
     have:=hcell j hj 0 om
     rw[h4] at this
     simpa using this
    have hlc:=y5x (P:=P) w ⟨b,off,none⟩ (((List.range n).map fun j=>match f j with | .i _ k=>k | _=>0).map (Value.int .u8)) (fun j v hv=>by
     have hj:j<n:=by
      rcases yu j n with h | h
      ·exact h
      ·rw[yf (by simpa using h)] at hv; cases hv
     obtain⟨k,h3,h4⟩:=hcel j hj
     simp only[List.map_map,y2q,y5q hj,y1z,Function.comp,h3,yw] at hv
     rw[z22,h4,<- hv])
    simp only[y1q,y4y] at hlc
    refine⟨_,?_,z5u ((List.range n).map fun j=>byteD (f j))⟩
    rw[y4q w s d e _ n cap hs he hd,run_bytesToString w _ n cap _ hlc,z68]
    congr 3
    rw[show ByteArray.empty.data = #[] from rfl]
    simp only[List.map_map,Array.empty_append]
    congr 1
    refine List.map_congr_left fun j hj=>?_
    obtain⟨k,h3,_⟩:=hcel j (y1l.1 hj)
    simp[Function.comp,h3,byteD]
  ·cases h
 ·cases h
def zdz (P:Program) (s d:TypeId) (x:AV):Option (AV×List Prop) :=
 match vConv P s d x with
 | some r=>some r
 | none=>vConvB P s d x
theorem zij (h:zdz P s d x=some (av,C)) (hc:AllP C) (hu:AV.IsV (cxOf X ms L w) x u) :
  ∃ r,(convert s d u).run P w = .ok r w/\AV.IsV (cxOf X ms L w) av r:=by
 unfold zdz at h
 split at h
 ·rename_i r hr
  cases h
  exact zkl hr hu
 ·exact zii h hc hu
def vArrRow (P:Program) (elem:TypeId) (n:Nat) (x:AV) (lo hi mx:Option Int):Option (AV×List Prop) :=
 match x,lo,hi,mx with
 | .imm (.arr sz m f),none,none,none=>if szOf P elem=some sz then some (.d (.sl n f),[m=n,n<2 ^ 63]) else none
 | .imm (.arr sz m f),some l,none,none=>if szOf P elem=some sz then some (.d (.sl (n-l.toNat) fun j=>f (l.toNat+j)),[m=n,n<2 ^ 63,0<=l,l.toNat<n]) else none
 | _,_,_,_=>none
theorem zh1 (ht:P.underlying t=some (.array n elem)) (h:vArrRow P elem n x lo hi mx=some (av,C)) (hc:AllP C) (hu:AV.IsV (cxOf X ms L w) x u) :
  ∃ v,(Instr.sliceAt t u (lo.map (Value.int kl)) (hi.map (Value.int kh)) (mx.map (Value.int km))).run P w = .ok v w/\AV.IsV (cxOf X ms L w) av v:=by
 unfold vArrRow at h
 split at h
 ·rename_i sz m f
  split at h
  ·rename_i hsz
   cases h
   obtain⟨rfl,hlt,_⟩:=hc
   have hu':=IsV.is1 (av:=.imm (.arr sz m f)) rfl sj sj hu
   cases hu' with
   | imm _ b off arr cs hb hy hcs =>
   have hbd:=z1n (P:=P) (w:=w) (s:=false) (n:=m) (cap:=m) (lo:=none) (hi:=none) (mx:=none) (kl:=kl) (kh:=kh) (km:=km) sj sj (by simp[loN,hiN]) (by simp[hiN]) sj
   simp only[y5d] at hbd
   refine⟨.slice (some ⟨b,off,none⟩) m m,?_,.one _ _ rfl (.d _ _ ?_)⟩
   ·by_cases h0:m=0
    ·subst h0
     simp[Instr.sliceAt,zl ht w,Instr.sureAddr,hbd,z19 hsz w,loN,hiN]
    ·simp[Instr.sliceAt,zl ht w,Instr.sureAddr,hbd,z19 hsz w,loN,hiN,h0]
     rfl
   ·cases hy with
    | arr _ _ _ cs' hh hl =>
    refine .sl _ _ b off m sz arr cs' (yc _) hlt hb hh hl fun i hi j hj=>?_
    have hlen:(List.flatMap cs' (List.range m)).length=m * sz:=zb m sz cs' hl
    have hle:i * sz+j<m * sz:=by
     have:(i+1) * sz<=m * sz:=yo sz hi
     rw[y1r] at this
     omega
    have:=hcs (i * sz+j) (by rw[hlen]; exact hle)
    rw[<- y3n] at this
    rw[this]
    exact zi? m sz cs' hl i j hi hj
  ·cases h
 ·rename_i sz m f l
  split at h
  ·rename_i hsz
   cases h
   obtain⟨rfl,hlt,hl0,hln,_⟩:=hc
   have hu':=IsV.is1 (av:=.imm (.arr sz m f)) rfl sj sj hu
   cases hu' with
   | imm _ b off arr cs hb hy hcs =>
   have hbd:=z1n (P:=P) (w:=w) (s:=false) (n:=m) (cap:=m) (lo:=some l) (hi:=none) (mx:=none) (kl:=kl) (kh:=kh) (km:=km) (by rintro v ⟨⟩; exact hl0) sj (by simp only[loN,hiN]; omega) (by simp[hiN]) sj
   simp only[y5d,y1z] at hbd
   refine⟨.slice (some ⟨b,off+l.toNat * sz,none⟩) (m-l.toNat) (m-l.toNat),?_,.one _ _ rfl (.d _ _ ?_)⟩
   ·simp[Instr.sliceAt,zl ht w,Instr.sureAddr,hbd,z19 hsz w,loN,hiN]
    rw[y6 om,z22]
   ·cases hy with
    | arr _ _ _ cs' hh hl =>
    refine .sl _ _ b (off+l.toNat * sz) (m-l.toNat) sz arr (fun i=>cs' (l.toNat+i)) (yc _) om hb (fun i hi=>hh _ om) (fun i hi=>hl _ om) fun i hi j hj=>?_
    have hlen:(List.flatMap cs' (List.range m)).length=m * sz:=zb m sz cs' hl
    have hi':l.toNat+i<m:=om
    have hle:(l.toNat+i) * sz+j<m * sz:=by
     have:(l.toNat+i+1) * sz<=m * sz:=yo sz hi'
     rw[y1r] at this
     omega
    have:=hcs ((l.toNat+i) * sz+j) (by rw[hlen]; exact hle)
    rw[show off+l.toNat * sz+i * sz+j=off+((l.toNat+i) * sz+j) by rw[y28]; omega,this]
    exact zi? m sz cs' hl (l.toNat+i) j hi' hj
  ·cases h
 ·cases h
def opnds (G:GFr) (ch:Chain):List Operand->Option (List AV)
 | []=>some []
 | x :: r=>match opnd G ch x,opnds G ch r with
  | some a,some as=>some (a :: as)
  | _,_=>none
theorem z3p {c:Cx} {G:GFr} {ch:Chain} {a:Act} (hf:FrIs c G a.tmps) (hh:holds ch a.tmps):∀ {l:List Operand} {as:List AV},opnds G ch l=some as ->
  AV.IsVs c as (l.map a.eval)
 | [],as,h=>by simp[opnds] at h; subst h; exact .nil
 | x :: r,as,h=>by
  simp only[opnds] at h
  cases h1:opnd G ch x with
  | none=>simp[h1] at h
  | some y =>
   cases h2:opnds G ch r with
   | none=>simp[h1,h2] at h
   | some ys =>
    simp[h1,h2] at h
    subst h
    exact .cons _ _ _ _ (zf h1 hf hh) (z3p hf hh h2)
def partsO (G:GFr) (ch:Chain):List (Nat×Operand)->Option (List (Nat×AV))
 | []=>some []
 | (i,x) :: r=>match opnd G ch x,partsO G ch r with
  | some a,some as=>some ((i,a) :: as)
  | _,_=>none
theorem z3z {c:Cx} {G:GFr} {ch:Chain} {a:Act} (hf:FrIs c G a.tmps) (hh:holds ch a.tmps):∀ {l:List (Nat×Operand)} {as:List (Nat×AV)},partsO G ch l=some as ->
  PartsIs c as (l.map fun p=>(p.1,a.eval p.2))
 | [],as,h=>by simp[partsO] at h; subst h; trivial
 | (i,x) :: r,as,h=>by
  simp only[partsO] at h
  cases h1:opnd G ch x with
  | none=>simp[h1] at h
  | some y =>
   cases h2:partsO G ch r with
   | none=>simp[h1,h2] at h
   | some ys =>
    simp[h1,h2] at h
    subst h
    exact⟨rfl,zf h1 hf hh,z3z hf hh h2⟩
def intO (G:GFr) (ch:Chain):Option Operand->Option (Option Int)
 | none=>some none
 | some x=>match opnd G ch x with
  | some (.d (.i _ n))=>some (some n)
  | _=>none
theorem z5o {a:Act} (hf:FrIs c G a.tmps) (hh:holds ch a.tmps) {o:Option Operand} {r:Option Int} (h:intO G ch o=some r) :
  ∃ k,o.map a.eval=r.map (Value.int k):=by
 unfold intO at h
 split at h
 ·cases h; exact⟨.i64,rfl⟩
 ·split at h
  ·rename_i x k n hx
   cases h
   exact⟨k,by simp[IsV.i (zf hx hf hh)]⟩
  ·cases h
def zm8 (G:GFr) (ch:Chain) (x y z:Operand):Option (AV×List Prop) :=
 match opnd G ch x with
 | some (.d (.b p))=>match x with
  | .tmp t=>match opnd G ((t,true) :: ch) y,opnd G ((t,false) :: ch) z with
   | some (.d (.b q)),some (.d (.b r))=>some (.d (.b (bif p then q else r)),[])
   | _,_=>none
  | _=>none
 | _=>none
def aval (P:Program) (G:GFr) (ch:Chain) (L:List Ob) (o:Oper):Option (AV×List Prop) :=
 match o.op with
 | .move x=>(opnd G ch x).map fun a=>(a,[])
 | .assign x=>(opnd G ch x).map fun a=>(a,[])
 | .pick x y z=>zm8 G ch x y z
 | .build t ps=>(partsO G ch ps.toList).bind (vBuild P t)
 | .load t x=>(opnd G ch x).bind (vLoad P L t)
 | .nilCheck x=>(opnd G ch x).bind vNil
 | .binOp op t x y _=>(opnd G ch x).bind fun a=>(opnd G ch y).bind fun b=>zh0 P op t y a b
 | .unOp op _ x=>(opnd G ch x).bind (vUn op)
 | .convert s d x=>(opnd G ch x).bind (zdz P s d)
 | .makeFunc (.func f) first caps=>if first.size=0 then (opnds G ch caps.toList).map fun as=>(.fn f as,[]) else if caps.size=0 then (opnds G ch first.toList).map fun as=>(.bfn f as,[]) else none
 | .slice t x lo hi mx=>(opnd G ch x).bind fun a=>(intO G ch lo).bind fun l=>(intO G ch hi).bind fun h=>(intO G ch mx).bind fun m=>match P.underlying t with
  | some (.array n e)=>vArrRow P e n a l h m
  | _=>vSlice P L t a l h m
 | .fieldAddr s x f=>(opnd G ch x).bind (vFieldAddr P L s f)
 | .field t x f=>(opnd G ch x).bind (vField P t f)
 | .indexAddr t x i=>(opnd G ch x).bind fun a=>match opnd G ch i with
  | some (.d (.i _ n))=>vIndexAddr P L t a n
  | _=>none
 | .index t x i=>(opnd G ch x).bind fun a=>match opnd G ch i with
  | some (.d (.i _ n))=>vIndex P t a n
  | _=>none
 | .extract x i=>(opnd G ch x).bind fun a=>vExtract a i
 | .call ⟨.builtin .len,args,ts⟩=>match args.toList,ts.toList with
  | [x],[t]=>(opnd G ch x).bind (vLen P L t)
  | _,_=>none
 | .call ⟨.builtin .min,args,_⟩=>match opnds G ch args.toList with
  | some (x :: r)=>(avMinMax false x r).map fun a=>(a,[])
  | _=>none
 | .call ⟨.builtin .max,args,_⟩=>match opnds G ch args.toList with
  | some (x :: r)=>(avMinMax true x r).map fun a=>(a,[])
  | _=>none
 | _=>none
variable {ρ:Operand->Value}
theorem zfk {b:Builtin} {args:Array Operand} {ts:Array TypeId} :
  (do let d <- resolve ρ ⟨.builtin b,args,ts⟩ ty; invoke d.target d.args:Sem Next).run P w =
   (builtin b ts ty (args.map fun | .const _=>true | _=>false) (args.map ρ)).run P w:=rfl
theorem zx {s:Sem Value} (h:s.run P w = .ok v w'):(do pure (.value (<- s)):Sem Next).run P w = .ok (.value v) w':=by
 simp[h]
variable {o:Oper}
theorem zmm {a:Act} (h:aval P G ch L o=some (av,C)) (hc:AllP C) (hr:Rel X ms L w) (hf:FrIs (cxOf X ms L w) G a.tmps) (hh:holds ch a.tmps) :
  ∃ u,(execOp a.eval o).run P w = .ok (.value u) w/\AV.IsV (cxOf X ms L w) av u:=by
 obtain⟨dst,op,ty,pos,after,guard⟩:=o
 unfold aval at h
 simp only at h
 split at h
 case h_1 x =>
  cases hx:opnd G ch x with
  | none=>simp[hx] at h
  | some y =>
   simp[hx] at h; obtain⟨rfl,rfl⟩:=h
   exact⟨_,rfl,zf hx hf hh⟩
 case h_2 x =>
  cases hx:opnd G ch x with
  | none=>simp[hx] at h
  | some y =>
   simp[hx] at h; obtain⟨rfl,rfl⟩:=h
   exact⟨_,rfl,zf hx hf hh⟩
 case h_3 x y z =>
  unfold zm8 at h
  split at h
  ·rename_i p hx
   split at h
   ·rename_i t
    split at h
    ·rename_i q r hq hr'
     cases h
     have e:=IsV.b (zf hx hf hh)
     have et:a.tmps.getD t undef = .bool p:=e
     cases p with
     | true =>
      have hh':holds ((t,true) :: ch) a.tmps:=fun y hy=>by
       rcases yv.1 hy with rfl | hy
       ·exact et
       ·exact hh y hy
      exact⟨a.eval y,by simp[execOp,e,asBool],zf hq hf hh'⟩
     | false =>
      have hh':holds ((t,false) :: ch) a.tmps:=fun y hy=>by
       rcases yv.1 hy with rfl | hy
       ·exact et
       ·exact hh y hy
      exact⟨a.eval z,by simp[execOp,e,asBool],zf hr' hf hh'⟩
    ·cases h
   ·cases h
  ·cases h
 case h_4 t ps =>
  cases hx:partsO G ch ps.toList with
  | none=>simp[hx] at h
  | some as =>
   simp[hx] at h
   have:=z3z hf hh hx
   obtain⟨v,h1,h2⟩:=zih (P:=P) (w:=w) (vs:=ps.map fun (i,x)=>(i,a.eval x)) h hc (by simpa using this)
   exact⟨v,zx h1,h2⟩
 case h_5 t x =>
  cases hx:opnd G ch x with
  | none=>simp[hx] at h
  | some y =>
   simp[hx] at h
   obtain⟨v,h1,h2⟩:=zdv hr h hc (zf hx hf hh)
   exact⟨v,zx h1,h2⟩
 case h_6 x =>
  cases hx:opnd G ch x with
  | none=>simp[hx] at h
  | some y =>
   simp[hx] at h
   have hv:=zf hx hf hh
   refine⟨a.eval x,?_,?_⟩
   ·unfold vNil at h
    have hrun:∀ u,a.eval x=u->(∃ ad,u = .pointer (some ad))\/(∃ f b c,u = .func (.func f) b c) ->
      (execOp a.eval { dst,op:=.nilCheck x,type:=ty,pos,after,guard }).run P w = .ok (.value u) w:=by
     rintro u hu (⟨ad,rfl⟩ | ⟨f,b,c,rfl⟩) <;> (simp only[execOp,hu]; rfl)
    split at h
    ·have hv':=IsV.is1 rfl sj sj hv
     refine hrun _ rfl (.inl ?_)
     generalize a.eval x=u at *
     cases hv' with
     | ptr _ _ _ _ hp=>exact hp.2.1
    ·have hv':=IsV.is1 rfl sj sj hv
     refine hrun _ rfl (.inl ?_)
     generalize a.eval x=u at *
     cases hv' with
     | imm=>exact⟨_,rfl⟩
    ·have hv':=IsV.is1 rfl sj sj hv
     refine hrun _ rfl (.inr ?_)
     generalize a.eval x=u at *
     cases hv' with
     | fn=>exact⟨_,_,_,rfl⟩
    ·have hv':=IsV.is1 rfl sj sj hv
     refine hrun _ rfl (.inr ?_)
     generalize a.eval x=u at *
     cases hv' with
     | bfn=>exact⟨_,_,_,rfl⟩
    ·cases h
   ·unfold vNil at h
    split at h <;> first | (cases h; exact hv) | cases h
 case h_7 op t x y yt =>
  cases hx:opnd G ch x with
  | none=>simp[hx] at h
  | some x' =>
   cases hy:opnd G ch y with
   | none=>simp[hx,hy] at h
   | some y' =>
    simp[hx,hy] at h
    obtain⟨v,h1,h2⟩:=zkk (P:=P) (w:=w) (ox:=x) h hc (zf hx hf hh) (zf hy hf hh)
    exact⟨v,zx h1,h2⟩
 case h_8 op t x =>
  cases hx:opnd G ch x with
  | none=>simp[hx] at h
  | some x' =>
   simp[hx] at h
   obtain⟨v,h1,h2⟩:=zns (P:=P) (w:=w) h (zf hx hf hh)
   exact⟨v,zx h1,h2⟩
 case h_9 s d x =>
  cases hx:opnd G ch x with
  | none=>simp[hx] at h
  | some x' =>
   simp[hx] at h
   obtain⟨v,h1,h2⟩:=zij (P:=P) (w:=w) h hc (zf hx hf hh)
   exact⟨v,zx h1,h2⟩
 case h_10 f first caps =>
  split at h
  ·rename_i h0
   cases hx:opnds G ch caps.toList with
   | none=>simp[hx] at h
   | some as =>
    simp[hx] at h
    obtain⟨rfl,rfl⟩:=h
    have:=z3p hf hh hx
    refine⟨.func (.func f) #[] (caps.toList.map a.eval).toArray,?_,.one _ _ rfl (.fn _ _ _ this)⟩
    have e:first = #[]:=Array.eq_empty_of_size_eq_zero h0
    subst e
    simp only[execOp,Instr.makeFunc,Array.map_empty,y14,y2d,yp]
    rw[<- y56,y3l]
  ·split at h
   ·rename_i h0
    cases hx:opnds G ch first.toList with
    | none=>simp[hx] at h
    | some as =>
     simp[hx] at h
     obtain⟨rfl,rfl⟩:=h
     have:=z3p hf hh hx
     refine⟨.func (.func f) (first.toList.map a.eval).toArray #[],?_,.one _ _ rfl (.bfn _ _ _ this)⟩
     have e:caps = #[]:=Array.eq_empty_of_size_eq_zero h0
     subst e
     simp only[execOp,Instr.makeFunc,Array.map_empty,y14,y2d,yp]
     rw[<- y56,y3l]
   ·cases h
 case h_11 t x lo hi mx =>
  cases hx:opnd G ch x with
  | none=>simp[hx] at h
  | some x' =>
   cases hl:intO G ch lo with
   | none=>simp[hx,hl] at h
   | some l =>
    cases hhi:intO G ch hi with
    | none=>simp[hx,hl,hhi] at h
    | some hi' =>
     cases hm:intO G ch mx with
     | none=>simp[hx,hl,hhi,hm] at h
     | some m =>
      simp only[hx,hl,hhi,hm,y1t] at h
      split at h
      ·rename_i n' e' hta
       obtain⟨kl,e1⟩:=z5o hf hh hl
       obtain⟨kh,e2⟩:=z5o hf hh hhi
       obtain⟨km,e3⟩:=z5o hf hh hm
       obtain⟨v,h1,h2⟩:=zh1 (P:=P) (w:=w) (kl:=kl) (kh:=kh) (km:=km) hta h hc (zf hx hf hh)
       refine⟨v,zx ?_,h2⟩
       rw[e1,e2,e3]
       exact h1
      ·rename_i hna
       obtain⟨kl,e1⟩:=z5o hf hh hl
       obtain⟨kh,e2⟩:=z5o hf hh hhi
       obtain⟨km,e3⟩:=z5o hf hh hm
       obtain⟨v,h1,h2⟩:=zif (P:=P) (c:=cxOf X ms L w) (w:=w) (kl:=kl) (kh:=kh) (km:=km) h hc (zf hx hf hh) (fun o' sz' m' f' hL' hm'=>by
        rcases hr.obs o' _ hL' with ⟨_,h'⟩ | ⟨b',tc',arr',e',cs',h1',_⟩
        ·exact h'
        ·exact absurd (hm'.symm.trans h1') sj)
       refine⟨v,zx ?_,h2⟩
       have hu:∃ d,P.underlying t=some d:=by
        unfold vSlice at h
        cases hd:P.underlying t with
        | none=>simp[hd] at h
        | some d=>exact⟨d,rfl⟩
       obtain⟨d,hd⟩:=hu
       rw[e1,e2,e3]
       unfold Instr.sliceAt
       rw[y14,zl hd w,yp]
       split
       ·rename_i n e
        exact absurd hd (hna n e)
       ·exact h1
 case h_12 s x f =>
  cases hx:opnd G ch x with
  | none=>simp[hx] at h
  | some x' =>
   simp[hx] at h
   obtain⟨v,h1,h2⟩:=zdi (P:=P) (w:=w) (c:=cxOf X ms L w) h hc (zf hx hf hh)
   exact⟨v,zx h1,h2⟩
 case h_13 t x f =>
  cases hx:opnd G ch x with
  | none=>simp[hx] at h
  | some x' =>
   simp[hx] at h
   obtain⟨v,h1,h2⟩:=zic (P:=P) (w:=w) h (zf hx hf hh)
   exact⟨v,zx h1,h2⟩
 case h_14 t x i =>
  cases hx:opnd G ch x with
  | none=>simp[hx] at h
  | some x' =>
   simp only[hx,y1t] at h
   split at h
   ·rename_i k n hi
    obtain⟨v,h1,h2⟩:=zdj (P:=P) (w:=w) (c:=cxOf X ms L w) (k:=k) h hc (zf hx hf hh)
    refine⟨v,zx ?_,h2⟩
    rw[IsV.i (zf hi hf hh)]
    exact h1
   ·cases h
 case h_15 t x i =>
  cases hx:opnd G ch x with
  | none=>simp[hx] at h
  | some x' =>
   simp only[hx,y1t] at h
   split at h
   ·rename_i k n hi
    obtain⟨v,h1,h2⟩:=zid (P:=P) (w:=w) (k:=k) h hc (zf hx hf hh)
    refine⟨v,zx ?_,h2⟩
    rw[IsV.i (zf hi hf hh)]
    exact h1
   ·cases h
 case h_16 x i =>
  cases hx:opnd G ch x with
  | none=>simp[hx] at h
  | some x' =>
   simp[hx] at h
   obtain⟨v,h1,h2⟩:=zfj (P:=P) (w:=w) h (zf hx hf hh)
   exact⟨v,zx h1,h2⟩
 case h_17 args ts =>
  split at h
  ·rename_i x t hxs hts
   cases hx:opnd G ch x with
   | none=>simp[hx] at h
   | some x' =>
    simp[hx] at h
    obtain⟨v,h1,h2⟩:=zmj (P:=P) (ty:=ty) hr h (zf hx hf hh)
    refine⟨v,?_,h2⟩
    have e1:args = #[x]:=by rw[<- y3b]; simpa using hxs
    have e2:ts = #[t]:=by rw[<- y3b]; simpa using hts
    subst e1; subst e2
    exact zx (s:=Builtin.len_ #[t] ty (#[x].map a.eval)) (by simpa using h1)
  ·cases h
 case h_18 args ts =>
  split at h
  ·rename_i x r hx
   cases hm:avMinMax false x r with
   | none=>simp[hm] at h
   | some y =>
    simp[hm] at h
    obtain⟨rfl,rfl⟩:=h
    have hv:=z3p hf hh hx
    generalize hvs:args.toList.map a.eval=vs at hv
    cases hv with
    | cons _ _ u us hu hus =>
    obtain⟨v,h1,h2⟩:=zdx (P:=P) (w:=w) r x y u us hm hu hus
    refine⟨v,?_,h2⟩
    have e:(args.map a.eval).toList=u :: us:=by simpa using hvs
    exact zx (s:=Builtin.min_ ts ty (args.map a.eval)) (by simp only[Builtin.min_,e]; exact h1)
  ·cases h
 case h_19 args ts =>
  split at h
  ·rename_i x r hx
   cases hm:avMinMax true x r with
   | none=>simp[hm] at h
   | some y =>
    simp[hm] at h
    obtain⟨rfl,rfl⟩:=h
    have hv:=z3p hf hh hx
    generalize hvs:args.toList.map a.eval=vs at hv
    cases hv with
    | cons _ _ u us hu hus =>
    obtain⟨v,h1,h2⟩:=zdy (P:=P) (w:=w) r x y u us hm hu hus
    refine⟨v,?_,h2⟩
    have e:(args.map a.eval).toList=u :: us:=by simpa using hvs
    exact zx (s:=Builtin.max_ ts ty (args.map a.eval)) (by simp only[Builtin.max_,e]; exact h1)
  ·cases h
 case h_20=>cases h
theorem EntsIs.mono (hc:c.le c'):∀ {es:List (DV×DV)} {r:List MapEntry},EntsIs c es r->EntsIs c' es r
 | [],[],_=>trivial
 | (_,_) :: _,_ :: _,h=>⟨h.1.mono hc,h.2.1.mono hc,EntsIs.mono hc h.2.2⟩
 | [],_ :: _,h=>h.elim
 | _ :: _,[],h=>h.elim
theorem ObIs.mono {o:Nat} (hc:c.le c') (hm:c'.ms[o]? = c.ms[o]?) (hb:∀ b tc,c.ms[o]? = some (some (b,tc))->w'.heap[b]? = w.heap[b]?) (h:ObIs c w o obj):ObIs c' w' o obj:=by
 cases obj with
 | box x =>
  rcases h with h | ⟨b,tc,arr,e,h1,h2,h3⟩
  ·exact .inl (hm.trans h)
  ·exact .inr ⟨b,tc,arr,e,hm.trans h1,(hb b tc h1).trans h2,h3.mono hc⟩
 | seq sz n f =>
  rcases h with h | ⟨b,tc,arr,e,cs,h1,h2,h3,h4,h5,h6⟩
  ·exact .inl ⟨hm.trans h.1,h.2⟩
  ·exact .inr ⟨b,tc,arr,e,cs,hm.trans h1,(hb b tc h1).trans h2,h3,h4,fun i hi=>(h5 i hi).mono hc,h6⟩
 | map es =>
  obtain⟨b,tc,ents,clock,h1,h2,h3,h4⟩:=h
  exact⟨b,tc,ents,clock,hm.trans h1,(hb b tc h1).trans h2,h3.mono hc,h4⟩
 | dmap es =>
  obtain⟨b,tc,ents,clock,h1,h2,h3⟩:=h
  exact⟨b,tc,ents,clock,hm.trans h1,(hb b tc h1).trans h2,h3.mono hc⟩
 | ex x =>
  obtain⟨b,tc,h1,h2⟩:=h
  exact⟨b,tc,hm.trans h1,(hb b tc h1).trans h2⟩
 | dead=>trivial
 | unb=>exact hm.trans h
variable {obj':Ob}
section
variable {X:Nat->Prop} {ms ms':Blocks} {L L':List Ob} {w w':World}
theorem Rel.step (h:Rel X ms L w) (he:Ext ms w ms' w') (hlen:ms'.length=L'.length) (hlt:∀ b,owned ms' b->b<w'.heap.size/\¬ X b)
  (hinj:∀ (o o' b tc tc':Nat),ms'[o]? = some (some (b,tc))->ms'[o']? = some (some (b,tc'))->o=o') (hL:L.length<=L'.length)
  (hob:∀ o obj',o<L.length->L'[o]? = some obj'->obj'.stamp≠none->∃ obj,L[o]? = some obj/\obj.kind=obj'.kind /\
   (∀ s,obj.stamp=some s->∃ s',obj'.stamp=some s'/\s<=s')/\(obj.stamp=obj'.stamp->ms'[o]? = ms[o]?))
  (hobs:∀ o obj',L'[o]? = some obj'->(L[o]? = some obj'/\ms'[o]? = ms[o]? /\ ∀ b tc,ms[o]? = some (some (b,tc))->w'.heap[b]? = w.heap[b]?) \/
   ((cxOf X ms L w).le (cxOf X ms' L' w')->ObIs (cxOf X ms' L' w') w' o obj')) :
  Rel X ms' L' w'/\(cxOf X ms L w).le (cxOf X ms' L' w'):=by
 have hc:(cxOf X ms L w).le (cxOf X ms' L' w'):=⟨he.memLe,hL,hob⟩
 refine⟨⟨hlen,hlt,fun b hb=>y1f (h.xlt b hb) he.size,hinj,fun o obj' ho=>?_,?_⟩,hc⟩
 ·rcases hobs o obj' ho with ⟨h1,h2,h3⟩ | h1
  ·exact (h.obs o obj' h1).mono hc h2 h3
  ·exact h1 hc
 ·exact h.glob.mono hc.M
structure Grow (w w':World):Prop where
 size:w.heap.size<=w'.heap.size
 same:∀ b,b<w.heap.size->w'.heap[b]? = w.heap[b]?
 out:SameOut w w'
theorem Grow.refl (w:World):Grow w w:=⟨yc _,fun _ _=>rfl,SameOut.refl w⟩
theorem Grow.alloc (w:World) (o:Obj):Grow w (w.alloc o):=⟨sj,fun b hb=>Go.RowKit.Below.heap_alloc w o b hb,⟨rfl,rfl,rfl⟩⟩
theorem Grow.drew (w:World):Grow w w.drew:=⟨yc _,fun _ _=>rfl,⟨rfl,rfl,rfl⟩⟩
theorem Grow.trans {w w':World} (h:Grow w w') (h':Grow w' w''):Grow w w'' :=
 ⟨y2c h.size h'.size,fun b hb=>(h'.same b (y1f hb h.size)).trans (h.same b hb),h.out.trans h'.out⟩
theorem Grow.ext (h:Grow w w') (ms:Blocks):Ext ms w ms w':=⟨h.size,fun b hb ho=>⟨h.same b hb,ho⟩,h.out⟩
theorem Rel.grow (h:Rel X ms L w) (hg:Grow w w'):Rel X ms L w'/\(cxOf X ms L w).le (cxOf X ms L w') :=
 h.step (hg.ext ms) h.len (fun b hb=>⟨y1f (h.lt b hb).1 hg.size,(h.lt b hb).2⟩) h.inj (yc _)
  (fun _ obj' _ hl _=>⟨obj',hl,rfl,fun s hs=>⟨s,hs,yc _⟩,fun _=>rfl⟩)
  (fun _ _ hl=>.inl ⟨hl,rfl,fun b tc hb=>hg.same b (h.lt b ⟨_,tc,hb⟩).1⟩)
theorem getElem?_snoc {l:List α} {x y:α} {i:Nat} (h:(l++[x])[i]? = some y):l[i]? = some y\/(i=l.length/\y=x):=by
 rcases yu i l.length with hi | hi
 ·rw[yq hi] at h; exact .inl h
 ·rw[y1j hi] at h
  have:i-l.length=0:=by
   rcases y2u (i-l.length) with h0 | h0
   ·exact h0
   ·rw[yf sk] at h; cases h
  rw[this] at h
  simp at h
  exact .inr ⟨om,h.symm⟩
theorem Rel.push (h:Rel X ms L w) (hg:Grow w w') {m:Option (Nat×Nat)} (hm:∀ b tc,m=some (b,tc)->w.heap.size<=b/\b<w'.heap.size) (ho:(cxOf X ms L w).le (cxOf X (ms++[m]) (L++[obj]) w')->ObIs (cxOf X (ms++[m]) (L++[obj]) w') w' L.length obj) :
  Rel X (ms++[m]) (L++[obj]) w'/\Ext ms w (ms++[m]) w'/\(cxOf X ms L w).le (cxOf X (ms++[m]) (L++[obj]) w'):=by
 have hown:∀ b,owned (ms++[m]) b->owned ms b\/∃ tc,m=some (b,tc):=fun b ⟨o,tc,e⟩=>by
  rcases getElem?_snoc e with e | ⟨_,e⟩
  ·exact .inl ⟨o,tc,e⟩
  ·exact .inr ⟨tc,e.symm⟩
 have he:Ext ms w (ms++[m]) w':=⟨hg.size,fun b hb ho'=>⟨hg.same b hb,fun hn=>by
  rcases hown b hn with h1 | ⟨tc,h1⟩
  ·exact ho' h1
  ·have:=(hm b tc h1).1; omega⟩,hg.out⟩
 have hr:=h.step (ms':=ms++[m]) (L':=L++[obj]) he (by simp[h.len]) (fun b hb=>by
   rcases hown b hb with h1 | ⟨tc,h1⟩
   ·exact⟨y1f (h.lt b h1).1 hg.size,(h.lt b h1).2⟩
   ·have:=hm b tc h1
    exact⟨this.2,fun hx=>by have:=h.xlt b hx; omega⟩)
  (fun o o' b tc tc' h1 h2=>by
   rcases getElem?_snoc h1 with h1 | ⟨e1,h1⟩ <;> rcases getElem?_snoc h2 with h2 | ⟨e2,h2⟩
   ·exact h.inj o o' b tc tc' h1 h2
   ·have:=(h.lt b ⟨o,tc,h1⟩).1
    have:=(hm b tc' h2.symm).1; omega
   ·have:=(h.lt b ⟨o',tc',h2⟩).1
    have:=(hm b tc h1.symm).1; omega
   ·omega) sj
  (fun o obj' hlt hl hs=>by
   rw[yq hlt] at hl
   exact⟨obj',hl,rfl,fun s hs=>⟨s,hs,yc _⟩,fun _=>by rw[yq (by rw[h.len]; exact hlt)]⟩)
  (fun o obj' hl=>by
   rcases getElem?_snoc hl with hl | ⟨e,hx⟩
   ·have hlt:o<L.length:=by
     rcases yu o L.length with h' | h'
     ·exact h'
     ·rw[yf h'] at hl; cases hl
    exact .inl ⟨hl,by rw[yq (by rw[h.len]; exact hlt)],fun b tc hb=>hg.same b (h.lt b ⟨o,tc,hb⟩).1⟩
   ·subst e; subst hx
    exact .inr ho)
 exact⟨hr.1,he,hr.2⟩
theorem Rel.setOb (h:Rel X ms L w) {o b:Nat} (hL:L[o]? = some obj) (hmo:ms[o]? = some (some (b,tc))) (hsize:w'.heap.size=w.heap.size) (hsame0:SameOut w w'/\∀ b',b'≠b->w'.heap[b']? = w.heap[b']?) (hk:obj.kind=obj'.kind) (hst:∀ s,obj.stamp=some s->∃ s',obj'.stamp=some s'/\s<=s') (ho:(cxOf X ms L w).le (cxOf X ms (L.set o obj') w')->ObIs (cxOf X ms (L.set o obj') w') w' o obj') :
  Rel X ms (L.set o obj') w'/\Ext ms w ms w'/\(cxOf X ms L w).le (cxOf X ms (L.set o obj') w'):=by
 have hlt:o<L.length:=by
  rcases yu o L.length with h' | h'
  ·exact h'
  ·rw[yf h'] at hL; cases hL
 obtain⟨hout,hsame⟩:=hsame0
 have he:Ext ms w ms w':=⟨om,fun b' _ ho'=>⟨hsame b' (fun e=>ho' (e▸⟨o,tc,hmo⟩)),ho'⟩,hout⟩
 have hr:=h.step (ms':=ms) (L':=L.set o obj') he (by simp[h.len]) (fun b hb=>by rw[hsize]; exact h.lt b hb) h.inj sj
  (fun i x hi hl hs=>by
   by_cases hio:o=i
   ·subst hio
    rw[y16 hlt] at hl
    cases hl
    exact⟨obj,hL,hk,hst,fun _=>rfl⟩
   ·rw[y1d hio] at hl
    exact⟨x,hl,rfl,fun s hs=>⟨s,hs,yc _⟩,fun _=>rfl⟩)
  (fun i x hl=>by
   by_cases hio:o=i
   ·subst hio
    rw[y16 hlt] at hl
    cases hl
    exact .inr ho
   ·rw[y1d hio] at hl
    exact .inl ⟨hl,rfl,fun b' tc' hb=>hsame b' (fun e=>hio (h.inj o i b tc tc' hmo (e▸hb)))⟩)
 exact⟨hr.1,he,hr.2⟩
theorem Rel.moveOb (h:Rel X ms L w) (hg:Grow w w') {o b:Nat} (hL:L[o]? = some obj) (hb:w.heap.size<=b/\b<w'.heap.size) (hk:obj.kind=obj'.kind) (hst:∃ s s',obj.stamp=some s/\obj'.stamp=some s'/\s<s') (ho:(cxOf X ms L w).le (cxOf X (ms.set o (some (b,tc))) (L.set o obj') w')->ObIs (cxOf X (ms.set o (some (b,tc))) (L.set o obj') w') w' o obj') :
  Rel X (ms.set o (some (b,tc))) (L.set o obj') w'/\Ext ms w (ms.set o (some (b,tc))) w'/\(cxOf X ms L w).le (cxOf X (ms.set o (some (b,tc))) (L.set o obj') w'):=by
 have hlt:o<L.length:=by
  rcases yu o L.length with h' | h'
  ·exact h'
  ·rw[yf h'] at hL; cases hL
 have hlt':o<ms.length:=by rw[h.len]; exact hlt
 have hget:∀ i b' tc',(ms.set o (some (b,tc)))[i]? = some (some (b',tc'))->(i=o/\b'=b/\tc'=tc)\/(i≠o/\ms[i]? = some (some (b',tc'))):=fun i b' tc' e=>by
  by_cases hio:o=i
  ·subst hio
   rw[y16 hlt'] at e
   cases e
   exact .inl ⟨rfl,rfl,rfl⟩
  ·rw[y1d hio] at e
   exact .inr ⟨fun e'=>hio e'.symm,e⟩
 have he:Ext ms w (ms.set o (some (b,tc))) w':=⟨hg.size,fun b' hb' ho'=>⟨hg.same b' hb',fun⟨i,tc',e⟩=>by
  rcases hget i b' tc' e with ⟨_,rfl,_⟩ | ⟨_,e⟩
  ·omega
  ·exact ho' ⟨i,tc',e⟩⟩,hg.out⟩
 have hr:=h.step (ms':=ms.set o (some (b,tc))) (L':=L.set o obj') he (by simp[h.len]) (fun b' ⟨i,tc',e⟩=>by
   rcases hget i b' tc' e with ⟨_,rfl,_⟩ | ⟨_,e⟩
   ·exact⟨hb.2,fun hx=>by have:=h.xlt _ hx; omega⟩
   ·have:=h.lt b' ⟨i,tc',e⟩
    exact⟨y1f this.1 hg.size,this.2⟩)
  (fun i j b' t1 t2 e1 e2=>by
   rcases hget i b' t1 e1 with ⟨i1,i2,_⟩ | ⟨i1,i2⟩ <;> rcases hget j b' t2 e2 with ⟨j1,j2,_⟩ | ⟨j1,j2⟩
   ·omega
   ·have:=(h.lt b' ⟨j,t2,j2⟩).1; omega
   ·have:=(h.lt b' ⟨i,t1,i2⟩).1; omega
   ·exact h.inj i j b' t1 t2 i2 j2) sj
  (fun i x hi hl hs=>by
   by_cases hio:o=i
   ·subst hio
    rw[y16 hlt] at hl
    cases hl
    obtain⟨s,s',h1,h2,h3⟩:=hst
    exact⟨obj,hL,hk,fun s1 hs1=>⟨s',h2,by rw[h1] at hs1; cases hs1; omega⟩,fun e=>by rw[h1,h2] at e; cases e; omega⟩
   ·rw[y1d hio] at hl
    exact⟨x,hl,rfl,fun s hs=>⟨s,hs,yc _⟩,fun _=>by rw[y1d hio]⟩)
  (fun i x hl=>by
   by_cases hio:o=i
   ·subst hio
    rw[y16 hlt] at hl
    cases hl
    exact .inr ho
   ·rw[y1d hio] at hl
    exact .inl ⟨hl,by rw[y1d hio],fun b' tc' hb=>hg.same b' (h.lt b' ⟨i,tc',hb⟩).1⟩)
 exact⟨hr.1,he,hr.2⟩
end
def fenceOf:Option Nat->Fence
 | none=>Fence.wide
 | some l=>Fence.wide.inRound l
theorem z3q (z:Option Nat) (f:FuncId):(fenceOf z).fn f:=by cases z <;> trivial
theorem z9f (z:Option Nat) (n:Nat):(fenceOf z).depth.isSome=true->1<=n:=by cases z <;> intro h <;> cases h
variable {z:Option Nat}
theorem zdk {f:FuncId} {args:Array Value} {R:Ending->World->Prop} (h:Calls P f args w R):CallsIn (fenceOf z) n P f args w R:=by
 cases z with
 | none=>exact y5g.2 h
 | some l=>exact (y5g (n:=n)).2 h
theorem z5v {x:Next} (h:(execOp ρ o).run P w = .ok x w') (hx:∀ d,x≠.defer d):(o.semAt (fenceOf z).round ρ).run P w = .ok x w':=by
 by_cases hd:∃ c,o.op = .defer c
 ·obtain⟨c,hc⟩:=hd
  obtain⟨dst,op,ty,pos,after,guard⟩:=o
  subst hc
  simp only[execOp,y14] at h
  cases hr:(resolve ρ c ty).run P w with
  | ok d w1=>simp[hr] at h; exact absurd h.1.symm (hx d)
  | halt x' w1=>simp[hr] at h
 ·rw[Oper.semAt_eq _ _ _ (fun c hc=>hd ⟨c,hc⟩)]; exact h
def OpOk (P:Program) (G:GFr) (ch:Chain) (L:List Ob) (o:Oper) (v:AV) (L':List Ob):Prop :=
 ∀ (z:Option Nat) (zn:Nat) (X:Nat->Prop) (ms:Blocks) (w:World) (a:Act) (K:Act->World->Prop) (Q:Exit->Act->World->Prop),
  Rel X ms L w->FrIs (cxOf X ms L w) G a.tmps->holds ch a.tmps ->
  (∀ u ms' w',Rel X ms' L' w'->Ext ms w ms' w'->(cxOf X ms L w).le (cxOf X ms' L' w')->AV.IsV (cxOf X ms' L' w') v u->K (a.put o.dst u) w') ->
  o.wpIn (fenceOf z) zn P a w K Q
theorem zg2 (h:aval P G ch L o=some (av,C)) (hc:AllP C):OpOk P G ch L o av L:=by
 intro z zn X ms w a K Q hr hf hh hK
 obtain⟨u,h1,h2⟩:=zmm h hc hr hf hh
 refine⟨fun f _=>z3q z f,?_⟩
 rw[z5v h1 sj]
 exact hK u ms w hr (Ext.refl _ _) (Cx.le.refl _) h2
variable {zn:Nat} {K:Act->World->Prop} {Q:Exit->Act->World->Prop}
theorem OpOk.value {a:Act} (h:(execOp a.eval o).run P w = .ok (.value u) w') (hK:K (a.put o.dst u) w'):o.wpIn (fenceOf z) zn P a w K Q:=by
 refine⟨fun f _=>z3q z f,?_⟩; rw[z5v h sj]; exact hK
theorem OpOk.skip {a:Act} (h:(execOp a.eval o).run P w = .ok .skip w') (hK:K (a.put o.dst undef) w'):o.wpIn (fenceOf z) zn P a w K Q:=by
 refine⟨fun f _=>z3q z f,?_⟩; rw[z5v h sj]; exact hK
theorem z77 :
  (newVar t v).run P w = .ok ⟨w.heap.size,0,none⟩ (w.alloc (.cells v.cells t)):=rfl
theorem z2b (w:World) (o:Obj):(w.alloc o).heap[w.heap.size]? = some o:=heap_alloc_new w o
theorem ze0 (h:Rel X ms L w) (hs:x.solid=true) (hv:AV.IsV (cxOf X ms L w) x v) :
  Rel X (ms++[some (w.heap.size,0)]) (L++[.box x]) (w.alloc (.cells v.cells t))/\Ext ms w (ms++[some (w.heap.size,0)]) (w.alloc (.cells v.cells t)) /\
   (cxOf X ms L w).le (cxOf X (ms++[some (w.heap.size,0)]) (L++[.box x]) (w.alloc (.cells v.cells t))) /\
   AV.IsV (cxOf X (ms++[some (w.heap.size,0)]) (L++[.box x]) (w.alloc (.cells v.cells t))) (.ptr L.length 1 []) (.pointer (some ⟨w.heap.size,0,none⟩)):=by
 obtain⟨h1,h2,h3⟩:=h.push (w':=w.alloc (.cells v.cells t)) (m:=some (w.heap.size,0)) (obj:=.box x) (Grow.alloc w _)
  (fun b tc e=>by cases e; exact⟨yc _,sj⟩)
  (fun hc=>.inr ⟨w.heap.size,0,v.cells,t,by simp[cxOf,<- h.len],z2b w _,(IsV.cells hs hv).mono hc⟩)
 refine⟨h1,h2,h3,.one _ _ rfl (.ptr _ _ _ _ ⟨by simp[cxOf],⟨_,rfl⟩,fun obj s ho hst=>by simp[cxOf] at ho; subst ho; simp[Ob.stamp] at hst; omega,fun obj _ _=>⟨w.heap.size,0,?_,rfl⟩⟩)⟩
 simp[cxOf,<- h.len]
mutual
def DV.hasSl:DV->Bool
 | .sl _ _=>true
 | .agg fs=>DV.hasSlL fs
 | _=>false
def DV.hasSlL:List DV->Bool
 | []=>false
 | x :: r=>x.hasSl||DV.hasSlL r
end
mutual
def fullZ:DV->AV
 | .sl 0 f=>.full 0 f
 | .agg fs=>if DV.hasSlL fs then .agg (fullZL fs) else .d (.agg fs)
 | x=>.d x
def fullZL:List DV->List AV
 | []=>[]
 | x :: r=>fullZ x :: fullZL r
end
def nilB:Value->Bool
 | .slice none 0 0=>true
 | .slice _ _ _=>false
 | _=>true
mutual
theorem ze1 {c:Cx}:∀ {x:DV} {cs:List Value},DV.Is c.M x cs->(∀ v∈cs,nilB v=true)->AV.Is c (fullZ x) cs
 | _,_,.b x,_=>.d _ _ (.b x)
 | _,_,.i k n,_=>.d _ _ (.i k n)
 | _,_,.str l,_=>.d _ _ (.str l)
 | _,_,.lit v h,_=>.d _ _ (.lit v h)
 | _,_,.agg fs cs hl,h=>by
  unfold fullZ
  split
  ·exact .agg _ _ (zch hl h)
  ·exact .d _ _ (.agg fs cs hl)
 | _,_,.arr sz n f cs h1 h2,_=>.d _ _ (.arr sz n f cs h1 h2)
 | _,_,.slNil f,_=>.full 0 f none (.slNil f)
 | _,_,.slEmpty f a cap,h=>absurd (h _ (y1b.2 rfl)) (by simp[nilB])
 | _,_,.sl n f b off cap sz arr cs h1 h2 hb h3 hl hc,h=>absurd (h _ (y1b.2 rfl)) (by simp[nilB])
theorem zch {c:Cx}:∀ {xs:List DV} {cs:List Value},DV.IsL c.M xs cs->(∀ v∈cs,nilB v=true)->AV.IsL c (fullZL xs) cs
 | _,_,.nil,_=>.nil
 | _,_,.cons x xs k ks h1 h2,h=>.cons _ _ _ _ (ze1 h1 fun v hv=>h v (List.mem_append_left _ hv)) (zch h2 fun v hv=>h v (List.mem_append_right _ hv))
end
theorem z9g (x:DV):(fullZ x).isAgg=(AV.d x).isAgg:=by
 unfold fullZ
 split
 ·rfl
 ·split <;> rfl
 ·rfl
theorem zfl (x:DV):(fullZ x).solid=true:=by
 unfold fullZ
 split
 ·rfl
 ·split <;> rfl
 ·rfl
theorem zik {x:DV} (h:AV.IsV c (.d x) v) (hn:∀ u∈v.cells.toList,nilB u=true):AV.IsV c (fullZ x) v:=by
 have hc:=IsV.cells rfl h
 cases hc with
 | d _ _ hd =>
 have h2:=ze1 hd hn
 by_cases ha:(AV.d x).isAgg=true
 ·obtain⟨cs,rfl,_⟩:=IsV.is ha h
  exact .agg _ cs (by rw[z9g]; exact ha) (by simpa [Value.cells] using h2)
 ·have h1:=IsV.is1 (by simpa using ha) sj sj h
  have:v.cells.toList=[v]:=by
   cases h1 with
   | d _ _ h1 =>
   have h3:=h1.one v sj
   cases v <;> first | rfl | cases h3
  rw[this] at h2
  exact .one _ _ (by rw[z9g]; simpa using ha) h2
def zeroA (P:Program) (t:TypeId) (full:Bool):Option AV :=
 match zeroOf P t,full with
 | some z,false=>some (.d z)
 | some z,true=>match (P.info? t).bind (·.zero) with
  | some v=>if v.cells.toList.all nilB then some (fullZ z) else none
  | none=>none
 | none,_=>none
variable {full:Bool}
theorem z9p (h:zeroA P t full=some x):x.solid=true/\∃ z,(∀ w,(zeroValue t).run P w = .ok z w)/\(∀ c,AV.IsV c x z):=by
 unfold zeroA at h
 split at h
 ·rename_i z hz
  cases h
  exact⟨rfl,z2h hz⟩
 ·rename_i z hz
  split at h
  ·rename_i v hv
   split at h
   ·rename_i hn
    cases h
    refine⟨zfl _,?_⟩
    obtain⟨zv,h1,h2⟩:=z2h hz
    have e:zv=v:=by
     have:=h1 dF
     cases hi:P.info? t with
     | none=>simp[hi] at hv
     | some i =>
      simp[hi] at hv
      simp[zeroValue,typeInfo,hi,hv] at this
      exact this.symm
    subst e
    exact⟨zv,h1,fun c=>zik (h2 c) (y18.1 hn)⟩
   ·cases h
  ·cases h
 ·cases h
def eAlloc (P:Program) (L:List Ob) (t:TypeId) (full:Bool):Option (AV×List Ob) :=
 (zeroA P t full).map fun z=>(.ptr L.length 1 [],L++[.box z])
variable {L':List Ob}
theorem ze2 (ho:o.op = .alloc t) (h:eAlloc P L t full=some (av,L')):OpOk P G ch L o av L':=by
 intro z zn X ms w a K Q hr hf hh hK
 unfold eAlloc at h
 cases hz:zeroA P t full with
 | none=>simp[hz] at h
 | some z =>
  simp[hz] at h
  obtain⟨rfl,rfl⟩:=h
  obtain⟨hs,zv,h1,h2⟩:=z9p hz
  obtain⟨k1,k2,k3,k4⟩:=ze0 (t:=t) hr hs (h2 _)
  refine OpOk.value (u:=.pointer (some ⟨w.heap.size,0,none⟩)) (w':=w.alloc (.cells zv.cells t)) ?_ (hK _ _ _ k1 k2 k3 k4)
  obtain⟨dst,op,ty,pos,after,guard⟩:=o
  subst ho
  exact zx (by simp[Instr.alloc,h1,z77])
def eBorn (P:Program) (L:List Ob) (t:TypeId) (k:Nat) (full:Bool):Option (AV×List Ob) :=
 match L[k]?,zeroA P t full with
 | some .unb,some z=>some (.ptr k 1 [],L.set k (.box z))
 | _,_=>none
theorem zmn {k:Nat} (ho:o.op = .alloc t) (h:eBorn P L t k full=some (av,L')):OpOk P G ch L o av L':=by
 intro z zn X ms w a K Q hr hf hh hK
 unfold eBorn at h
 split at h
 ·rename_i z hL hz
  cases h
  obtain⟨hs,zv,h1,h2⟩:=z9p hz
  have hlt:k<L.length:=by
   rcases yu k L.length with h' | h'
   ·exact h'
   ·rw[yf h'] at hL; cases hL
  have hltm:k<ms.length:=by rw[hr.len]; exact hlt
  obtain⟨k1,k2,k3⟩:=hr.moveOb (w':=w.alloc (.cells zv.cells t)) (b:=w.heap.size) (tc:=0) (obj':=.box z) (Grow.alloc w _) hL ⟨yc _,sj⟩ rfl ⟨0,1,rfl,rfl,Nat.zero_lt_one⟩
   (fun hc=>.inr ⟨w.heap.size,0,zv.cells,t,by simp[cxOf,hltm],z2b w _,IsV.cells hs (h2 _)⟩)
  refine OpOk.value (u:=.pointer (some ⟨w.heap.size,0,none⟩)) (w':=w.alloc (.cells zv.cells t)) ?_ (hK _ _ _ k1 k2 k3 (.one _ _ rfl (.ptr _ _ _ _ ⟨by simpa [cxOf] using hlt,⟨_,rfl⟩,fun obj s ho hst=>?_,fun obj _ _=>⟨w.heap.size,0,?_,rfl⟩⟩)))
  ·obtain⟨dst,op,ty,pos,after,guard⟩:=o
   subst ho
   exact zx (by simp[Instr.alloc,h1,z77])
  ·simp[cxOf,List.getElem?_set_self hlt] at ho
   subst ho
   simp[Ob.stamp] at hst
   omega
  ·simp[cxOf,hltm]
 ·cases h
def eBox (L:List Ob) (x:AV):Option (AV×List Ob) :=
 if x.solid then some (.ptr L.length 1 [],L++[.box x]) else none
variable {xv:AV}
theorem znt {x:Operand} (ho:o.op = .box t x) (hx:opnd G ch x=some xv) (h:eBox L xv=some (av,L')):OpOk P G ch L o av L':=by
 intro z zn X ms w a K Q hr hf hh hK
 unfold eBox at h
 split at h
 ·rename_i hs
  cases h
  obtain⟨k1,k2,k3,k4⟩:=ze0 (t:=t) hr hs (zf hx hf hh)
  refine OpOk.value (u:=.pointer (some ⟨w.heap.size,0,none⟩)) (w':=w.alloc (.cells (a.eval x).cells t)) ?_ (hK _ _ _ k1 k2 k3 k4)
  obtain⟨dst,op,ty,pos,after,guard⟩:=o
  subst ho
  exact zx (by simp[Instr.box,z77])
 ·cases h
def Ob.put:Ob->List Stp->AV->Option Ob
 | .box a,p,v=>(a.set p v).map .box
 | .seq sz n f,.x i sz' :: r,v=>if sz=sz' then ((f i).unsel.set r v).map fun y=>.seq sz n (fun j=>if j=i then y else f j) else none
 | _,_,_=>none
theorem z1r {P:Program} {b:Nat} {e:TypeId}:∀ (vs:List Value) (off i:Nat) (cur:List Value) (w:World),w.heap[b]? = some (.cells cur.toArray e (0,0)) ->
  off+i+vs.length<=cur.length->(∀ v∈vs,v.oneCell'=true) ->
  ∃ w',(storeCells ⟨b,off,none⟩ vs i).run P w = .ok () w'/\w'.heap[b]? = some (.cells (splice cur (off+i) vs).toArray e (0,0))/\w'.heap.size=w.heap.size /\
   SameOut w w'/\∀ b',b'≠b->w'.heap[b']? = w.heap[b']?
 | [],off,i,cur,w,hb,_,_=>⟨w,rfl,by simpa [splice] using hb,rfl,SameOut.refl w,fun _ _=>rfl⟩
 | v :: vs,off,i,cur,w,hb,hl,h1=>by
  simp only[y10] at hl
  have hcell:w.cell? ⟨b,off+i,none⟩=some (cur[off+i]'om):=by
   rw[z6q hb]; simp
  have hfro:w.frozen? ⟨b,off+i,none⟩=false:=by simp[World.frozen?,hb]
  have hst:(store ((⟨b,off,none⟩:Addr).add i) v).run P w = .ok () (w.setCell ⟨b,off+i,none⟩ v):=by
   rw[z22,run_store P w _ v _ (h1 v sj),hcell]
   simp[hfro]
  have hb':(w.setCell ⟨b,off+i,none⟩ v).heap[b]? = some (.cells (cur.set (off+i) v).toArray e (0,0)):=by
   have:=heap_setCell_same w b (off+i) cur.toArray e v hb
   rw[this]; simp
  obtain⟨w',k1,k2,k3,k5,k4⟩:=z1r (P:=P) (b:=b) (e:=e) vs off (i+1) (cur.set (off+i) v) _ hb' sk (fun x hx=>h1 x (by simp[hx]))
  refine⟨w',?_,?_,by simpa using k3,SameOut.trans (w':=w.setCell ⟨b,off+i,none⟩ v) ⟨rfl,rfl,rfl⟩ k5,fun b' hne=>?_⟩
  ·simp only[storeCells,y14,hst,yp,k1]
  ·rw[k2]
   congr 3
   apply y2y
   intro j
   rw[zt? (cs:=cur.set (off+i) v) (k:=vs) sk,zt? (cs:=cur) (k:=v :: vs) sk]
   simp only[y10]
   by_cases hj:off+i<=j/\j<off+i+(vs.length+1)
   ·rw[y7 hj]
    by_cases h2:j=off+i
    ·subst h2
     rw[y6 om,y16 om,y5e]; rfl
    ·rw[y7 om,show j-(off+i)=(j-(off+(i+1)))+1 from om]; simp
   ·rw[y6 hj,y6 om,y1d om]
  ·rw[k4 b' hne,heap_setCell_other w _ b' v hne]
theorem z69 {b off:Nat} {cur:List Value} (hb:w.heap[b]? = some (.cells cur.toArray e (0,0))) (hsz:szOf P t=some v.cells.toList.length) (hl:off+v.cells.toList.length<=cur.length) (h1:∀ u∈v.cells.toList,u.oneCell'=true) :
  ∃ w',(storeVar t ⟨b,off,none⟩ v).run P w = .ok () w'/\w'.heap[b]? = some (.cells (splice cur off v.cells.toList).toArray e (0,0))/\w'.heap.size=w.heap.size /\
   SameOut w w'/\∀ b',b'≠b->w'.heap[b']? = w.heap[b']? := by
 obtain⟨w',k1,k2,k3⟩:=z1r (P:=P) v.cells.toList off 0 cur w hb om h1
 refine⟨w',?_,by simpa using k2,k3⟩
 simp[storeVar,z19 hsz w,k1]
theorem Rel.put (h:Rel X ms L w) {o b:Nat} (hL:L[o]? = some obj) (hm:ms[o]? = some (some (b,tc))) (hp:obj.put p x=some obj') (hc:obj.getC p) (hs:x.solid=true) (hw:0<x.wd) (hsz:szOf P t=some x.wd) (hv:AV.IsV (cxOf X ms L w) x v) :
  ∃ w',(storeVar t ⟨b,pathOff p,none⟩ v).run P w = .ok () w'/\Rel X ms (L.set o obj') w'/\Ext ms w ms w'/\(cxOf X ms L w).le (cxOf X ms (L.set o obj') w'):=by
 have hcv:=IsV.cells hs hv
 have hcl:=hcv.len
 unfold Ob.put at hp
 split at hp
 ·rename_i a
  cases hset:a.set p x with
  | none=>simp[hset] at hp
  | some a' =>
   simp[hset] at hp
   subst hp
   obtain⟨arr,e,h1,h2⟩:=h.box hL hm
   obtain⟨k1,k2,k3⟩:=AV.set_is p h2 hset hc hcv
   have hl:=k3.resolve_left om
   obtain⟨w',r1,r2,r3,r4⟩:=z69 (P:=P) (t:=t) (cur:=arr.toList) (off:=pathOff p) (v:=v) (by simpa using h1) (by rw[hcl]; exact hsz) hl hcv.one
   refine⟨w',r1,h.setOb hL hm r3 r4 rfl (fun s hs=>⟨s,hs,yc _⟩) (fun hcx=>.inr ⟨b,tc,_,e,hm,r2,?_⟩)⟩
   simpa using k1.mono hcx
 ·rename_i sz n f i sz' r
  split at hp
  ·rename_i hsz'
   subst hsz'
   cases hset:(f i).unsel.set r x with
   | none=>simp[hset] at hp
   | some y =>
    simp[hset] at hp
    subst hp
    obtain⟨arr,e,cs,h1,h2,h3,h4,h5,h6⟩:=h.seq hL hm
    obtain⟨hi,hsc,hc⟩:=hc
    obtain⟨k1,k2,k3⟩:=AV.set_is r ((h4 i hi).unsel_is hsc) hset hc hcv
    have hl:=k3.resolve_left om
    rw[h5 i hi] at hl
    have hbound:i * sz+sz<=arr.size:=by
     rw[h3,<- y1r]; exact yo sz om
    have hbl:i * sz+pathOff r+v.cells.toList.length<=arr.toList.length:=by rw[y22 (xs:=arr)]; omega
    obtain⟨w',r1,r2,r3,r4⟩:=z69 (P:=P) (t:=t) (cur:=arr.toList) (off:=i * sz+pathOff r) (v:=v) (by simpa using h1) (by rw[hcl]; exact hsz) hbl hcv.one
    refine⟨w',r1,h.setOb hL hm r3 r4 rfl (fun s hs=>⟨s,hs,yc _⟩) (fun hcx=>.inr ⟨b,tc,_,e,fun j=>if j=i then splice (cs i) (pathOff r) v.cells.toList else cs j,hm,r2,h2,⟨?_,z4b (h.seqOne hL hm h1) hcv.one⟩,?_,?_,?_⟩)⟩
    ·have:(splice arr.toList (i * sz+pathOff r) v.cells.toList).length=arr.size:=by rw[z1k hbl]; simp
     simpa [this] using h3
    ·intro j hj
     by_cases hji:j=i
     ·subst hji; simpa using k1.mono hcx
     ·simpa [hji] using (h4 j hj).mono hcx
    ·intro j hj
     by_cases hji:j=i
     ·subst hji; simp[z1k (by rw[h5 j hj]; omega:pathOff r+v.cells.toList.length<=(cs j).length),h5 j hj]
     ·simp[hji,h5 j hj]
    ·intro j hj q hq
     simp only[y2h]
     rw[zt? hbl]
     by_cases hji:j=i
     ·subst hji
      simp only[y3h]
      rw[zt? (by rw[h5 j hj]; omega)]
      by_cases h7:pathOff r<=q/\q<pathOff r+v.cells.toList.length
      ·rw[y7 h7,y7 om]; congr 1; omega
      ·rw[y6 h7,y6 om,y1e]; exact h6 j hj q hq
     ·rw[y6 hji,y6,y1e]
      ·exact h6 j hj q hq
      ·intro ⟨q1,q2⟩
       rcases Nat.lt_or_gt_of_ne hji with hlt | hgt
       ·have:(j+1) * sz<=i * sz:=yo sz hlt
        rw[y1r] at this; omega
       ·have:(i+1) * sz<=j * sz:=yo sz hgt
        rw[y1r] at this; omega
  ·cases hp
 ·cases hp
def eStore (P:Program) (L:List Ob) (t:TypeId) (p x:AV):Option (AV×List Ob×List Prop) :=
 match p with
 | .ptr o st path=>match L[o]? with
  | some obj=>match obj.put path x with
   | some obj'=>if x.solid=true/\0<x.wd/\szOf P t=some x.wd then some (.bot,L.set o obj',obj.live st++obj.getL path) else none
   | none=>none
  | none=>none
 | _=>none
theorem zkm {p x:Operand} {pv:AV} (ho:o.op = .store t p x) (hp:opnd G ch p=some pv) (hx:opnd G ch x=some xv) (h:eStore P L t pv xv=some (av,L',C)) (hc:AllP C):OpOk P G ch L o av L':=by
 intro z zn X ms w a K Q hr hf hh hK
 unfold eStore at h
 split at h
 ·rename_i i st path
  split at h
  ·rename_i obj hL
   split at h
   ·rename_i obj' hput
    split at h
    ·rename_i hty
     cases h
     obtain⟨hc1,hc2⟩:=zd.1 hc
     have hp':=IsV.is1 rfl sj sj (zf hp hf hh)
     generalize hu:a.eval p=u at hp'
     cases hp' with
     | ptr _ _ _ _ hp' =>
     obtain⟨_,_,_,p3⟩:=hp'
     obtain⟨b,tc,hm,rfl⟩:=p3 obj hL (Ob.live_C hc1)
     obtain⟨w',k1,k2,k3,k4⟩:=hr.put (P:=P) (t:=t) hL hm hput (Ob.getL_C hc2) hty.1 hty.2.1 hty.2.2 (zf hx hf hh)
     refine OpOk.skip (w':=w') ?_ (hK _ _ _ k2 k3 k4 (.bot _))
     obtain⟨dst,op,ty,pos,after,guard⟩:=o
     subst ho
     simp only[execOp,hu,Instr.storeAt,Instr.sureAddr,y14,y2d,yp,k1]
    ·cases h
   ·cases h
  ·cases h
 ·cases h
def elemsOf (L:List Ob):AV->Option (Nat×(Nat->AV)×List Prop)
 | .d (.sl n f)=>some (n,fun i=>.d (f i),[])
 | .full n f=>some (n,fun i=>.d (f i),[])
 | .ref o st 0 n=>match L[o]? with
  | some (.seq _ m f)=>some (n,f,[m=st])
  | _=>none
 | .ref o st off n=>match L[o]? with
  | some (.seq _ m f)=>some (n,fun i=>f (off+i),[m=st])
  | _=>none
 | _=>none
variable {j:Nat}
theorem zkn (hl:∀ i,i<n->(ks i).length=sz) (h:((List.range n).flatMap ks)[j]? = some v) :
  0<sz/\j / sz<n/\(ks (j / sz))[j % sz]? = some v:=by
 have hlen:=zb n sz ks hl
 have hj:j<n * sz:=by
  rcases yu j (n * sz) with h' | h'
  ·exact h'
  ·rw[yf om] at h; cases h
 have hsz:0<sz:=by
  rcases y2u sz with h0 | h0
  ·subst h0; simp at hj
  ·exact h0
 have hq:j / sz<n:=y41 (by rw[y39]; exact hj)
 refine⟨hsz,hq,?_⟩
 have e:=zi? n sz ks hl (j / sz) (j % sz) hq (y5c _ hsz)
 have:j / sz * sz+j % sz=j:=by rw[y39]; exact y4n j sz
 rw[this] at e
 rw[<- e]; exact h
theorem z3b {w1:World} (hw1:w1.heap=w.heap) {b off:Nat} (hb:w.heap[b]? = some (.cells arr e fz)) (hl:∀ i,i<n->(ks i).length=sz) (hc:∀ i,i<n->∀ j,j<sz->arr[off+i * sz+j]? = (ks i)[j]?) (len':Nat) :
  (Builtin.firstCells sz n (.slice (some ⟨b,off,none⟩) len' cap)).run P w1 = .ok ((List.range n).flatMap ks).toArray w1:=by
 have hlen:=zb n sz ks hl
 rw[<- hw1] at hb
 have:=y5x (P:=P) w1 ⟨b,off,none⟩ ((List.range n).flatMap ks) (fun j v hv=>by
  obtain⟨hsz,hq,hr⟩:=zkn hl hv
  rw[z22,z6q hb,<- hr,<- hc (j / sz) hq (j % sz) (y5c _ hsz),y3n]
  congr 2
  rw[y39]; exact (y4n j sz).symm)
 rw[hlen] at this
 exact this
theorem z3c (hr:Rel X ms L w) {f:Nat->AV} (h:elemsOf L x=some (n,f,C)) (hc:AllP C) (hu:AV.IsV (cxOf X ms L w) x u) (hw:∀ i,i<n->(f i).wd=sz) :
  ∃ a cap ks,u = .slice a n cap/\(∀ i,i<n->AV.Is (cxOf X ms L w) (f i) (ks i))/\(∀ i,i<n->(ks i).length=sz) /\
   ∀ w1:World,w1.heap=w.heap->(Builtin.firstCells sz n u).run P w1 = .ok ((List.range n).flatMap ks).toArray w1:=by
 have hsl:∀ (g:Nat->DV),f=(fun i=>AV.d (g i))->DV.Is (cxOf X ms L w).M (.sl n g) [u] ->
   ∃ a cap ks,u = .slice a n cap/\(∀ i,i<n->AV.Is (cxOf X ms L w) (f i) (ks i))/\(∀ i,i<n->(ks i).length=sz) /\
    ∀ w1:World,w1.heap=w.heap->(Builtin.firstCells sz n u).run P w1 = .ok ((List.range n).flatMap ks).toArray w1:=fun g hg hd=>by
  subst hg
  cases hd with
  | slNil=>exact⟨_,_,fun _=>[],rfl,fun i hi=>om,fun i hi=>om,fun w1 _=>by simp[Builtin.firstCells]⟩
  | slEmpty _ a cap =>
   refine⟨_,_,fun _=>[],rfl,fun i hi=>om,fun i hi=>om,fun w1 _=>?_⟩
   simp[Builtin.firstCells,loadCells,loadCellsFrom]
  | sl _ _ b off cap sz' arr cs h1 h2 hb hh hl hcs =>
   obtain⟨_,_,e,fz,hheap⟩:=z26 hb
   have hs:∀ i,i<n->(cs i).length=sz:=fun i hi=>by rw[(hh i hi).len]; exact hw i hi
   by_cases h0:n=0
   ·subst h0
    exact⟨_,_,cs,rfl,fun i hi=>om,fun i hi=>om,fun w1 _=>by simp[Builtin.firstCells,loadCells,loadCellsFrom]⟩
   ·have hsz:sz'=sz:=by rw[<- hl 0 om,hs 0 om]
    subst hsz
    exact⟨_,_,cs,rfl,fun i hi=>.d _ _ (hh i hi),hs,fun w1 hw1=>z3b hw1 hheap hs hcs n⟩
 have href:∀ (o st off:Nat) (g:Nat->AV) (sz' m:Nat),x = .ref o st off n->L[o]? = some (.seq sz' m g)->m=st->(∀ i,f i=g (off+i)) ->
   ∃ a cap ks,u = .slice a n cap/\(∀ i,i<n->AV.Is (cxOf X ms L w) (f i) (ks i))/\(∀ i,i<n->(ks i).length=sz) /\
    ∀ w1:World,w1.heap=w.heap->(Builtin.firstCells sz n u).run P w1 = .ok ((List.range n).flatMap ks).toArray w1:=fun o st off g sz' m hx hL hm hf=>by
  subst hx; subst hm
  have hu':=IsV.is1 rfl sj sj hu
  cases hu' with
  | ref _ _ _ _ _ hr' =>
  obtain⟨r1,⟨ra,rcap,rfl⟩,r3,r4⟩:=hr'
  obtain⟨r5,r6⟩:=r4 sz' g hL
  rcases r6 with ⟨r7,ra',r6⟩ | ⟨_,r6⟩ | ⟨b,tc,r6,r7,r8⟩
  ·cases r6
   refine⟨_,_,fun _=>[],rfl,fun i hi=>om,fun i hi=>om,fun w1 _=>?_⟩
   cases ra <;> simp[Builtin.firstCells,loadCells,loadCellsFrom]
  ·subst r6
   refine⟨_,_,fun _=>[],rfl,fun i hi=>om,fun i hi=>om,fun w1 _=>?_⟩
   cases ra <;> simp[Builtin.firstCells,loadCells,loadCellsFrom]
  ·cases r8
   obtain⟨arr,e,cs,h1,h2,h3,h4,h5,h6⟩:=hr.seq hL r6
   have hs:∀ i,i<n->(cs (off+i)).length=sz:=fun i hi=>by rw[(h4 (off+i) om).len,<- hf i]; exact hw i hi
   by_cases h0:n=0
   ·subst h0
    refine⟨_,_,fun i=>cs (off+i),rfl,fun i hi=>om,fun i hi=>om,fun w1 _=>?_⟩
    simp[Builtin.firstCells,loadCells,loadCellsFrom]
   ·have hsz:sz'=sz:=by rw[<- h5 (off+0) om,hs 0 om]
    subst hsz
    refine⟨_,_,fun i=>cs (off+i),rfl,fun i hi=>by rw[hf i]; exact h4 _ om,hs,fun w1 hw1=>z3b hw1 h1 hs (fun i hi j hj=>?_) n⟩
    have:=h6 (off+i) om j hj
    rw[<- this]; congr 1; rw[y28]
 unfold elemsOf at h
 split at h
 ·cases h
  have hu':=IsV.is1 rfl sj sj hu
  cases hu' with
  | d _ _ hd=>exact hsl _ rfl hd
 ·cases h
  have hu':=IsV.is1 rfl sj sj hu
  cases hu' with
  | full _ _ _ hd=>exact hsl _ rfl hd
 ·split at h
  ·rename_i hL
   cases h
   exact href _ _ 0 _ _ _ rfl hL hc.1 (fun i=>sj)
  ·cases h
 ·split at h
  ·rename_i hL
   cases h
   exact href _ _ _ _ _ _ rfl hL hc.1 (fun i=>rfl)
  ·cases h
 ·cases h
theorem zci (need:Nat):∀ (r c:Nat),c<=need->256<=c->Builtin.growBy need r c<=2 * need
 | 0,c,h,_=>by simp[Builtin.growBy]; omega
 | r+1,c,h,h'=>by
  simp only[Builtin.growBy]
  split
  ·omega
  ·by_cases h2:c+(c+768) / 4<=need
   ·exact zci need r _ h2 om
   ·cases r with
    | zero=>simp[Builtin.growBy]; omega
    | succ r=>simp only[Builtin.growBy]; rw[y7 om]; omega
theorem z6a {need old:Nat} (h:old<need):Builtin.nextslicecap need old<=2 * need:=by
 unfold Builtin.nextslicecap
 split
 ·omega
 ·split
  ·omega
  ·exact zci need 4 old om om
theorem z78 {st:TypeId} {i:TypeInfo} {z:Value} {a:Option Addr} {x:Value} {new old:List Value} (hst:P.underlying st=some (.slice elem)) (hi:P.info? elem=some i) (hz:i.zero=some z) (hx:∃ b c,x = .slice b m c) (hnew:∀ w1:World,w1.heap=w.heap->(Builtin.firstCells i.size m x).run P w1 = .ok new.toArray w1) (hold:∀ w1:World,w1.heap=w.heap->(Builtin.firstCells i.size n (.slice a n cap)).run P w1 = .ok old.toArray w1) (hlen:(n+m) * (2 * i.bytes)<=2 ^ 48) (hcap:¬ n+m<=cap) (hb:0<i.bytes) :
  ∃ nc w',n+m<=nc/\(Builtin.append_ #[st,st] ty #[.slice a n cap,x]).run P w = .ok (.slice (some ⟨w.heap.size,0,none⟩) (n+m) nc) w'/\Grow w w' /\
   w'.heap[w.heap.size]? = some (.cells (old.toArray++new.toArray++Builtin.zeroCells z.cells (nc-(n+m))) elem (0,0))/\w.heap.size<w'.heap.size:=by
 obtain⟨b,c,rfl⟩:=hx
 have hsz:szOf P elem=some i.size:=by simp[szOf,hi]
 have hnc:=z6a (need:=n+m) (old:=cap) om
 have hbig:¬ Builtin.nextslicecap (n+m) cap * i.bytes>2 ^ 48:=by
  have:=yo i.bytes hnc
  have e:2 * (n+m) * i.bytes=(n+m) * (2 * i.bytes):=by rw[y39 2 (n+m),Nat.mul_assoc]
  omega
 have hti:∀ w:World,(typeInfo elem).run P w = .ok i w:=fun w=>by simp[typeInfo,hi]
 have hzero:∀ w:World,(zeroValue elem).run P w = .ok z w:=fun w=>by simp[zeroValue,hti,hz]
 refine⟨n+m+w.tape w.drawn (.appendCap (n+m) cap elem) % (2 ^ 63-(n+m)),(w.drew).alloc (.cells (old.toArray++new.toArray++Builtin.zeroCells z.cells (w.tape w.drawn (.appendCap (n+m) cap elem) % (2 ^ 63-(n+m)))) elem),om,?_,(Grow.drew w).trans (Grow.alloc _ _),?_,sj⟩
 ·have hold':=hold w.drew rfl
  have hnew':=hnew w.drew rfl
  have hb0:¬ i.bytes=0:=om
  simp[Builtin.append_,zl hst,z19 hsz,Builtin.lenOf,hcap,hti,hb0,hbig,Question.forced,Question.cut,hold',hnew',hzero,newRow]
  congr 2
  apply Array.ext'
  simp
 ·have:=z2b w.drew (.cells (old.toArray++new.toArray++Builtin.zeroCells z.cells (w.tape w.drawn (.appendCap (n+m) cap elem) % (2 ^ 63-(n+m)))) elem)
  rw[show w.drew.heap.size=w.heap.size from rfl] at this
  rw[this]
  congr 4
  omega
def elemInfo (P:Program) (t:TypeId):Option (TypeId×TypeInfo):=match P.underlying t with
 | some (.slice elem)=>(P.info? elem).map fun i=>(elem,i)
 | _=>none
theorem z1s {i:TypeInfo} (h:elemInfo P t=some (elem,i)):P.underlying t=some (.slice elem)/\P.info? elem=some i:=by
 unfold elemInfo at h
 split at h
 ·rename_i e hu
  cases hi:P.info? e with
  | none=>simp[hi] at h
  | some j=>simp[hi] at h; obtain⟨rfl,rfl⟩:=h; exact⟨hu,hi⟩
 ·cases h
def catF (n:Nat) (f g:Nat->α):Nat->α:=match n with
 | 0=>g
 | n+1=>fun i=>if i<n+1 then f i else g (i-(n+1))
theorem z1x {f g:Nat->α} {i:Nat} (h:i<n):catF n f g i=f i:=by
 cases n with
 | zero=>omega
 | succ n=>simp[catF,h]
theorem z23 {f g:Nat->α} {i:Nat} (h:n<=i):catF n f g i=g (i-n):=by
 cases n with
 | zero=>rfl
 | succ n=>simp only[catF]; rw[y6 om]
def dataF (f:Nat->AV):Nat->DV:=fun i=>match f i with
 | .d x=>x
 | _=>.b false
theorem z32 {st:TypeId} {i:TypeInfo} {a:Option Addr} {x:Value} (hst:P.underlying st=some (.slice elem)) (hi:P.info? elem=some i) (hx:∃ b c,x = .slice b 0 c) (hcap:n<=cap) (hnew:∀ w1:World,w1.heap=w.heap->(Builtin.firstCells i.size 0 x).run P w1 = .ok #[] w1) :
  (Builtin.append_ #[st,st] ty #[.slice a n cap,x]).run P w = .ok (.slice a n cap) w:=by
 obtain⟨b,c,rfl⟩:=hx
 have hsz:szOf P elem=some i.size:=by simp[szOf,hi]
 have:=hnew w rfl
 cases a <;> simp[Builtin.append_,zl hst,z19 hsz,Builtin.lenOf,hcap,this,storeCells]
def eAppImm (P:Program) (L:List Ob) (t:TypeId) (n:Nat) (f:Nat->DV) (x:AV):Option (AV×List Prop) :=
 match elemInfo P t,elemsOf L x with
 | some (_,i),some (m,g,C) =>
  if 0<i.bytes/\i.zero.isSome then some (.d (.sl (n+m) (catF n f (dataF g))),C++[∀ k,k<m->g k = .d (dataF g k)/\(dataF g k).wd=i.size,∀ k,k<n->(f k).wd=i.size,(n+m) * (2 * i.bytes)<=2 ^ 48]) else none
 | _,_=>none
theorem zil {s x:Operand} (ho:o.op = .call ⟨.builtin .append,#[s,x],#[t,t]⟩) (hs:opnd G ch s=some (.full n f)) (hx:opnd G ch x=some xv) (h:eAppImm P L t n f xv=some (av,C)) (hc:AllP C):OpOk P G ch L o av L:=by
 intro z zn X ms w a K Q hr hf hh hK
 unfold eAppImm at h
 split at h
 ·rename_i elem i m g C' he hm
  split at h
  ·rename_i hz
   cases h
   obtain⟨hz0,hz1⟩:=hz
   obtain⟨z,hz⟩:=y3a.1 hz1
   obtain⟨hc1,hc2,hc3,hc4,_⟩:=zd.1 hc
   obtain⟨hu,hi⟩:=z1s he
   have hsv:=zf hs hf hh
   have hxv:=zf hx hf hh
   obtain⟨xa,xc,ks,e1,e2,e3,e4⟩:=z3c (P:=P) hr (sz:=i.size) hm hc1 hxv (fun k hk=>by rw[(hc2 k hk).1]; exact (hc2 k hk).2)
   have hsr:=IsV.is1 rfl sj sj hsv
   obtain⟨sa,hse⟩:∃ sa,a.eval s = .slice sa n n/\DV.Is (cxOf X ms L w).M (.sl n f) [.slice sa n n]:=by
    generalize a.eval s=u at hsr
    cases hsr with
    | full _ _ sa hd=>exact⟨sa,rfl,hd⟩
   obtain⟨hse,hsd⟩:=hse
   obtain⟨_,_,js,d1,d2,d3,d4⟩:=z3c (P:=P) hr (sz:=i.size) (x:=.full n f) (u:=.slice sa n n) (C:=[]) rfl trivial (.one _ _ rfl (.full _ _ _ hsd)) (fun k hk=>hc3 k hk)
   have hexec:∀ v w',(Builtin.append_ #[t,t] o.type #[.slice sa n n,a.eval x]).run P w = .ok v w'->(execOp a.eval o).run P w = .ok (.value v) w':=fun v w' hv=>by
    obtain⟨dst,op,ty,pos,after,guard⟩:=o
    subst ho
    exact zx (s:=Builtin.append_ #[t,t] ty (#[s,x].map a.eval)) (by simpa [hse] using hv)
   by_cases hm0:m=0
   ·subst hm0
    have hrun:=z32 (P:=P) (w:=w) (ty:=o.type) (a:=sa) (n:=n) (cap:=n) (x:=a.eval x) hu hi ⟨_,_,e1⟩ (yc _) (fun w1 hw1=>by simpa using e4 w1 hw1)
    refine OpOk.value (hexec _ _ hrun) (hK _ ms w hr (Ext.refl _ _) (Cx.le.refl _) (.one _ _ rfl (.d _ _ ?_)))
    have:DV.Is (cxOf X ms L w).M (.sl n (catF n f (dataF g))) [.slice sa n n]:=by
     cases hsd with
     | slNil=>exact .slNil _
     | slEmpty=>exact .slEmpty _ _ _
     | sl _ _ b off cap sz arr cs h1 h2 hb hh' hl hcs =>
      exact .sl n _ b off _ sz arr cs h1 h2 hb (fun k hk=>by rw[z1x hk]; exact hh' k hk) hl hcs
    simpa using this
   ·obtain⟨nc,w',r1,r2,r3,r4,r5⟩:=z78 (P:=P) (w:=w) (ty:=o.type) (a:=sa) (n:=n) (cap:=n) (m:=m) (x:=a.eval x) hu hi hz ⟨_,_,e1⟩ e4 d4 hc4 om hz0
    obtain⟨k1,k2⟩:=hr.grow r3
    refine OpOk.value (hexec _ _ r2) (hK _ ms w' k1 (r3.ext ms) k2 (.one _ _ rfl (.d _ _ ?_)))
    have hM:(cxOf X ms L w').M w.heap.size=some (((List.range n).flatMap js).toArray++((List.range m).flatMap ks).toArray++Builtin.zeroCells z.cells (nc-(n+m))) :=
     z1j (fun hx=>by have:=hr.xlt _ hx; omega) (fun ho=>by have:=(hr.lt _ ho).1; omega) r4
    have hjl:=zb n i.size js d3
    have hkl:=zb m i.size ks e3
    have hbytes:(n+m)<2 ^ 63:=by
     have:n+m<=(n+m) * (2 * i.bytes):=Nat.le_mul_of_pos_right _ om
     omega
    refine .sl _ _ w.heap.size 0 nc i.size _ (catF n js ks) r1 hbytes hM (fun k hk=>?_) (fun k hk=>?_) (fun k hk j hj=>?_)
    ·by_cases hkn:k<n
     ·rw[z1x hkn,z1x hkn]
      have:=(d2 k hkn).mono k2
      cases this with
      | d _ _ h=>exact h
     ·rw[z23 om,z23 om]
      have:=(e2 (k-n) om).mono k2
      rw[(hc2 (k-n) om).1] at this
      cases this with
      | d _ _ h=>exact h
    ·by_cases hkn:k<n
     ·rw[z1x hkn]; exact d3 k hkn
     ·rw[z23 om]; exact e3 _ om
    ·rw[y1h,<- y1e]
     simp only[y3i,y25]
     by_cases hkn:k<n
     ·rw[z1x hkn,yq (by
       rw[hjl]
       have:(k+1) * i.size<=n * i.size:=yo _ hkn
       rw[y1r] at this; omega)]
      exact zi? n i.size js d3 k j hkn hj
     ·have hk':k-n<m:=om
      have hkm:(k-n) * i.size+n * i.size=k * i.size:=by rw[<- y28]; congr 1; omega
      rw[z23 om,y1j (by rw[hjl]; omega),hjl,yq (by
       rw[hkl]
       have:(k-n+1) * i.size<=m * i.size:=yo _ hk'
       rw[y1r] at this; omega)]
      have:=zi? m i.size ks e3 (k-n) j hk' hj
      rw[<- this]; congr 1; omega
  ·cases h
 ·cases h
theorem zim {js:Nat->List Value} (hj:∀ k,k<n->(js k).length=sz) (hk:∀ k,k<m->(ks k).length=sz) {rest:List Value} (k:Nat) (hkk:k<n+m) (j:Nat) (hjj:j<sz) :
  ((List.range n).flatMap js++((List.range m).flatMap ks++rest))[k * sz+j]? = (catF n js ks k)[j]? := by
 have hjl:=zb n sz js hj
 have hkl:=zb m sz ks hk
 by_cases hkn:k<n
 ·rw[z1x hkn,yq (by
   rw[hjl]
   have:(k+1) * sz<=n * sz:=yo _ hkn
   rw[y1r] at this; omega)]
  exact zi? n sz js hj k j hkn hjj
 ·have hk':k-n<m:=om
  have hkm:(k-n) * sz+n * sz=k * sz:=by rw[<- y28]; congr 1; omega
  rw[z23 om,y1j (by rw[hjl]; omega),hjl,yq (by
   rw[hkl]
   have:(k-n+1) * sz<=m * sz:=yo _ hk'
   rw[y1r] at this; omega)]
  have:=zi? m sz ks hk (k-n) j hk' hjj
  rw[<- this]; congr 1; omega
def eAppRef (P:Program) (L:List Ob) (t:TypeId) (o st n:Nat) (x:AV):Option (AV×List Ob×List Prop) :=
 match elemInfo P t,elemsOf L x,L[o]? with
 | some (_,i),some (m,g,C),some (.seq sz m' f) =>
  if 0<i.bytes/\i.zero.isSome/\i.size=sz/\((i.zero.map fun z=>z.cells.size)=some sz)/\((i.zero.map fun z=>z.cells.toList.all fun v=>v.oneCell')=some true) then
   some (.ref o (n+m) 0 (n+m),L.set o (.seq sz (n+m) (catF n f g)),C++[m'=st,n=st,∀ k,k<m->(g k).wd=sz,(n+m) * (2 * i.bytes)<=2 ^ 48]) else none
 | _,_,_=>none
theorem zin {s x:Operand} {r:Nat} (ho:o.op = .call ⟨.builtin .append,#[s,x],#[t,t]⟩) (hs:opnd G ch s=some (.ref r st 0 n)) (hx:opnd G ch x=some xv) (h:eAppRef P L t r st n xv=some (av,L',C)) (hc:AllP C):OpOk P G ch L o av L':=by
 intro zz zn X ms w a K Q hr hf hh hK
 unfold eAppRef at h
 split at h
 ·rename_i elem i m g C' sz m' f he hm hL
  split at h
  ·rename_i hz
   cases h
   obtain⟨hz0,hz1,rfl,hz3,hz4⟩:=hz
   obtain⟨z,hz⟩:=y3a.1 hz1
   have hzs:z.cells.size=i.size:=by simpa [hz] using hz3
   have hzone:∀ v∈z.cells.toList,v.oneCell'=true:=by rw[hz] at hz4; exact y18.1 (y15 hz4)
   obtain⟨hc1,hms,hns,hc2,hc4,_⟩:=zd.1 hc
   subst hms
   subst hns
   obtain⟨hu,hi⟩:=z1s he
   have hsv:=zf hs hf hh
   have hxv:=zf hx hf hh
   obtain⟨xa,xc,ks,e1,e2,e3,e4⟩:=z3c (P:=P) hr (sz:=i.size) hm hc1 hxv hc2
   have hro:r<L.length:=by
    rcases yu r L.length with h' | h'
    ·exact h'
    ·rw[yf h'] at hL; cases hL
   have hsr:=IsV.is1 rfl sj sj hsv
   have hexec:∀ u v w',a.eval s=u->(Builtin.append_ #[t,t] o.type #[u,a.eval x]).run P w = .ok v w'->(execOp a.eval o).run P w = .ok (.value v) w':=fun u v w' hse hv=>by
    obtain⟨dst,op,ty,pos,after,guard⟩:=o
    subst ho
    exact zx (s:=Builtin.append_ #[t,t] ty (#[s,x].map a.eval)) (by simpa [hse] using hv)
   generalize hse:a.eval s=u at hsr
   cases hsr with
   | ref _ _ _ _ _ hrr =>
   obtain⟨r1,⟨ra,rcap,rfl⟩,r3,r4⟩:=hrr
   obtain⟨r5,r6⟩:=r4 i.size f hL
   -- the value that is left,if the object lies in a block
   have mkRef:∀ (msn:Blocks) (wn:World) (b tc:Nat),msn[r]? = some (some (b,tc))->n+m<=tc ->
     AV.IsV (cxOf X msn (L.set r (.seq i.size (n+m) (catF n f g))) wn) (.ref r (n+m) 0 (n+m)) (.slice (some ⟨b,0,none⟩) (n+m) tc):=fun msn wn b tc h1 h2=>by
    refine .one _ _ rfl (.ref _ _ _ _ _ ⟨by simpa [cxOf] using hro,⟨_,_,rfl⟩,fun obj s' ho' hs'=>?_,fun sz' f' hL'=>⟨om,.inr (.inr ⟨b,tc,h1,h2,sj⟩)⟩⟩)
    simp only[cxOf] at ho'
    rw[y16 hro] at ho'
    cases ho'
    simp[Ob.stamp] at hs'; omega
   -- growing: to a new block
   have grow:∀ (js:Nat->List Value),(∀ k,k<n->AV.Is (cxOf X ms L w) (f k) (js k))->(∀ k,k<n->(js k).length=i.size) ->
     (∀ w1:World,w1.heap=w.heap->(Builtin.firstCells i.size n (.slice ra n rcap)).run P w1 = .ok ((List.range n).flatMap js).toArray w1)->¬ n+m<=rcap->0<m ->
     o.wpIn (fenceOf zz) zn P a w K Q:=fun js d2 d3 d4 hno hm0=>by
    obtain⟨nc,w',k1,k2,k3,k4,k5⟩:=z78 (P:=P) (w:=w) (ty:=o.type) (a:=ra) (n:=n) (cap:=rcap) (m:=m) (x:=a.eval x) hu hi hz ⟨_,_,e1⟩ e4 d4 hc4 hno hz0
    have hsize:(((List.range n).flatMap js).toArray++((List.range m).flatMap ks).toArray++Builtin.zeroCells z.cells (nc-(n+m))).size=nc * i.size:=by
     have h1:=zb n i.size js d3
     have h2:=zb m i.size ks e3
     have h3:=y4w z.cells (nc-(n+m))
     rw[y40,y40,y2l,y2l,h1,h2,h3,hzs,<- y28,<- y28]
     congr 1; omega
    obtain⟨q1,q2,q3⟩:=hr.moveOb (obj':=.seq i.size (n+m) (catF n f g)) (tc:=nc) k3 hL (b:=w.heap.size) ⟨yc _,k5⟩ rfl ⟨n,n+m,rfl,rfl,om⟩ (fun hcx=>by
     refine .inr ⟨w.heap.size,nc,_,elem,catF n js ks,by simp[cxOf,hr.len,hro],k4,k1,⟨hsize,?_⟩,fun k hk=>?_,fun k hk=>?_,fun k hk j hj=>?_⟩
     ·simp only[y3i,y1c]; rintro v ((hv | hv) | hv)
      ·exact z2r d2 v hv
      ·exact z2r e2 v hv
      ·exact z3l hzone _ v hv
     ·by_cases hkn:k<n
      ·rw[z1x hkn,z1x hkn]; exact (d2 k hkn).mono hcx
      ·rw[z23 om,z23 om]; exact (e2 _ om).mono hcx
     ·by_cases hkn:k<n
      ·rw[z1x hkn]; exact d3 k hkn
      ·rw[z23 om]; exact e3 _ om
     ·rw[<- y1e]
      simp only[y3i,y25]
      exact zim d3 e3 k hk j hj)
    exact OpOk.value (hexec _ _ _ hse k2) (hK _ _ _ q1 q2 q3 (mkRef _ _ _ _ (by simp[hr.len,hro]) k1))
   rcases r6 with ⟨r7,ra',r6⟩ | ⟨r7,_⟩ | ⟨b,tc,r6,r7,r8⟩
   ·-- nothing yet
    simp only[y3f] at r6
    obtain⟨rfl,rfl,rfl⟩:=r6
    by_cases hm0:m=0
    ·subst hm0
     have hrun:=z32 (P:=P) (w:=w) (ty:=o.type) (a:=ra) (n:=0) (cap:=0) (x:=a.eval x) hu hi ⟨_,_,e1⟩ (yc _) (fun w1 hw1=>by simpa using e4 w1 hw1)
     have hcxx:(cxOf X ms L w).le (cxOf X ms (L.set r (.seq i.size (0+0) (catF 0 f g))) w):=⟨fun _ _ h=>h,by simp[cxOf],fun j obj' hj hl hs'=>by
      simp only[cxOf] at hl |-
      by_cases hjr:r=j
      ·subst hjr
       rw[y16 hro] at hl
       cases hl
       exact⟨_,hL,rfl,fun s' hs'=>⟨s',hs',yc _⟩,fun _=>trivial⟩
      ·rw[y1d hjr] at hl
       exact⟨obj',hl,rfl,fun s' hs'=>⟨s',hs',yc _⟩,fun _=>trivial⟩⟩
     have hrel:=hr.step (ms':=ms) (L':=L.set r (.seq i.size (0+0) (catF 0 f g))) (w':=w) (Ext.refl _ _) (by simp[hr.len]) hr.lt hr.inj sj hcxx.ob (fun j obj' hl=>by
      by_cases hjr:r=j
      ·subst hjr
       rw[y16 hro] at hl
       cases hl
       exact .inr fun _=>.inl ⟨r7,rfl⟩
      ·rw[y1d hjr] at hl
       exact .inl ⟨hl,rfl,fun _ _ _=>rfl⟩)
     refine OpOk.value (hexec _ _ _ hse hrun) (hK _ _ _ hrel.1 (Ext.refl _ _) hrel.2 (.one _ _ rfl (.ref _ _ _ _ _ ⟨by simpa [cxOf] using hro,⟨_,_,rfl⟩,fun _ _ _ _=>y36 _,fun sz' f' _=>⟨yc _,.inl ⟨r7,_,rfl⟩⟩⟩)))
    ·exact grow (fun _=>[]) (fun k hk=>om) (fun k hk=>om) (fun w1 _=>by cases ra <;> simp[Builtin.firstCells,loadCells,loadCellsFrom]) om om
   ·omega
   ·simp only[y3f,Nat.zero_mul,Nat.sub_zero] at r8
    obtain⟨rfl,_,rfl⟩:=r8
    obtain⟨arr,e,cs,h1,h2,h3,h4,h5,h6⟩:=hr.seq hL r6
    by_cases hfit:n+m<=rcap
    ·-- in place
     have hroom:=z1r (P:=P) (b:=b) (e:=e) ((List.range m).flatMap ks) (n * i.size) 0 arr.toList w (by simpa using h1) (by
      rw[zb m i.size ks e3,y22 (xs:=arr),h3,y43,<- y28]
      exact yo _ hfit) (fun v hv=>by
       obtain⟨k,hk,hvk⟩:=y3r.1 hv
       exact (e2 k (y1l.1 hk)).one v hvk)
     obtain⟨w',k1,k2,k3,k4⟩:=hroom
     have hkl:=zb m i.size ks e3
     have hbl:n * i.size+((List.range m).flatMap ks).length<=arr.toList.length:=by
      rw[hkl,y22 (xs:=arr),h3,<- y28]
      exact yo _ hfit
     have hrun:(Builtin.append_ #[t,t] o.type #[.slice (some ⟨b,0,none⟩) n rcap,a.eval x]).run P w = .ok (.slice (some ⟨b,0,none⟩) (n+m) rcap) w':=by
      have hsz:szOf P elem=some i.size:=by simp[szOf,hi]
      have h4':=e4 w rfl
      rw[e1] at h4' |-
      simp[Builtin.append_,zl hu,z19 hsz,Builtin.lenOf,hfit,h4',z22,k1]
     obtain⟨q1,q2,q3⟩:=hr.setOb (obj':=.seq i.size (n+m) (catF n f g)) hL r6 k3 k4 rfl (fun s' hs'=>⟨n+m,rfl,by simp[Ob.stamp] at hs'; omega⟩) (fun hcx=>by
      refine .inr ⟨b,rcap,_,e,catF n cs ks,r6,k2,hfit,⟨?_,z4b (hr.seqOne hL r6 h1) (z2r e2)⟩,fun k hk=>?_,fun k hk=>?_,fun k hk j hj=>?_⟩
      ·have:(splice arr.toList (n * i.size) ((List.range m).flatMap ks)).length=arr.size:=by rw[z1k hbl]; simp
       simpa [this] using h3
      ·by_cases hkn:k<n
       ·rw[z1x hkn,z1x hkn]; exact (h4 k hkn).mono hcx
       ·rw[z23 om,z23 om]; exact (e2 _ om).mono hcx
      ·by_cases hkn:k<n
       ·rw[z1x hkn]; exact h5 k hkn
       ·rw[z23 om]; exact e3 _ om
      ·simp only[y2h,y43]
       rw[zt? hbl]
       by_cases hkn:k<n
       ·rw[z1x hkn,y6,y1e]
        ·exact h6 k hkn j hj
        ·intro ⟨q,_⟩
         have:(k+1) * i.size<=n * i.size:=yo _ hkn
         rw[y1r] at this; omega
       ·have hk':k-n<m:=om
        have hkm:(k-n) * i.size+n * i.size=k * i.size:=by rw[<- y28]; congr 1; omega
        rw[z23 om,y7]
        ·have:=zi? m i.size ks e3 (k-n) j hk' hj
         rw[<- this]; congr 1; omega
        ·rw[hkl]
         have:(k-n+1) * i.size<=m * i.size:=yo _ hk'
         rw[y1r] at this; omega)
     exact OpOk.value (hexec _ _ _ hse hrun) (hK _ _ _ q1 q2 q3 (mkRef _ _ _ _ r6 hfit))
    ·exact grow cs h4 h5 (fun w1 hw1=>z3b hw1 h1 h5 (fun k hk j hj=>by simpa using h6 k hk j hj) n) hfit om
  ·cases h
 ·cases h
def eAppNew (P:Program) (L:List Ob) (t:TypeId) (x:AV):Option (AV×List Ob×List Prop) :=
 match elemInfo P t,elemsOf L x with
 | some (_,i),some (m,g,C) =>
  if 0<i.bytes/\i.zero.isSome/\((i.zero.map fun z=>z.cells.size)=some i.size)/\((i.zero.map fun z=>z.cells.toList.all fun v=>v.oneCell')=some true) then
   some (.ref L.length m 0 m,L++[.seq i.size m g],C++[∀ k,k<m->(g k).wd=i.size,m * (2 * i.bytes)<=2 ^ 48]) else none
 | _,_=>none
theorem z8u {b:Nat} {f:Nat->AV} (hl:ms.length=L.length) (hle:n<=tc) :
  AV.IsV (cxOf X (ms++[some (b,tc)]) (L++[.seq sz n f]) w') (.ref L.length n 0 n) (.slice (some ⟨b,0,none⟩) n tc):=by
 refine .one _ _ rfl (.ref _ _ _ _ _ ⟨by simp[cxOf],⟨_,_,rfl⟩,fun obj s ho hs=>?_,fun sz' f' _=>⟨om,.inr (.inr ⟨b,tc,by simp[cxOf,<- hl],hle,sj⟩)⟩⟩)
 simp[cxOf] at ho
 subst ho
 simp[Ob.stamp] at hs
 omega
theorem zio {s x:Operand} (ho:o.op = .call ⟨.builtin .append,#[s,x],#[t,t]⟩) (hs:opnd G ch s=some (.full 0 f)) (hx:opnd G ch x=some xv) (h:eAppNew P L t xv=some (av,L',C)) (hc:AllP C):OpOk P G ch L o av L':=by
 intro z zn X ms w a K Q hr hf hh hK
 unfold eAppNew at h
 split at h
 ·rename_i elem i m g C' he hm
  split at h
  ·rename_i hz
   cases h
   obtain⟨hz0,hz1,hz3,hz4⟩:=hz
   obtain⟨z,hz⟩:=y3a.1 hz1
   have hzs:z.cells.size=i.size:=by simpa [hz] using hz3
   have hzone:∀ v∈z.cells.toList,v.oneCell'=true:=by rw[hz] at hz4; exact y18.1 (y15 hz4)
   obtain⟨hc1,hc2,hc4,_⟩:=zd.1 hc
   obtain⟨hu,hi⟩:=z1s he
   have hsv:=zf hs hf hh
   have hxv:=zf hx hf hh
   obtain⟨xa,xc,ks,e1,e2,e3,e4⟩:=z3c (P:=P) hr (sz:=i.size) hm hc1 hxv hc2
   have hsr:=IsV.is1 rfl sj sj hsv
   obtain⟨sa,hse⟩:∃ sa,a.eval s = .slice sa 0 0:=by
    generalize a.eval s=u at hsr
    cases hsr with
    | full _ _ sa hd=>exact⟨sa,rfl⟩
   have hexec:∀ v w',(Builtin.append_ #[t,t] o.type #[.slice sa 0 0,a.eval x]).run P w = .ok v w'->(execOp a.eval o).run P w = .ok (.value v) w':=fun v w' hv=>by
    obtain⟨dst,op,ty,pos,after,guard⟩:=o
    subst ho
    exact zx (s:=Builtin.append_ #[t,t] ty (#[s,x].map a.eval)) (by simpa [hse] using hv)
   by_cases hm0:m=0
   ·subst hm0
    have hrun:=z32 (P:=P) (w:=w) (ty:=o.type) (a:=sa) (n:=0) (cap:=0) (x:=a.eval x) hu hi ⟨_,_,e1⟩ (yc _) (fun w1 hw1=>by simpa using e4 w1 hw1)
    obtain⟨k1,k2,k3⟩:=hr.push (m:=none) (obj:=.seq i.size 0 g) (Grow.refl w) (fun b tc e=>by cases e) (fun _=>.inl ⟨by simp[cxOf,<- hr.len],rfl⟩)
    refine OpOk.value (hexec _ _ hrun) (hK _ _ _ k1 k2 k3 (.one _ _ rfl (.ref _ _ _ _ _ ⟨by simp[cxOf],⟨_,_,rfl⟩,fun _ _ _ _=>y36 _,fun sz' f' _=>⟨yc _,.inl ⟨by simp[cxOf,<- hr.len],_,rfl⟩⟩⟩)))
   ·obtain⟨nc,w',k1,k2,k3,k4,k5⟩:=z78 (P:=P) (w:=w) (ty:=o.type) (a:=sa) (n:=0) (cap:=0) (m:=m) (old:=[]) (x:=a.eval x) hu hi hz ⟨_,_,e1⟩ e4
     (fun w1 _=>by cases sa <;> simp[Builtin.firstCells,loadCells,loadCellsFrom]) (by simpa using hc4) om hz0
    rw[y1h] at k1 k2 k4
    have hkl:=zb m i.size ks e3
    have hsize:(([]:List Value).toArray++((List.range m).flatMap ks).toArray++Builtin.zeroCells z.cells (nc-m)).size=nc * i.size:=by
     rw[y40,y40,y2l,y2l,hkl,y4w,hzs,y1n,y1h,<- y28]
     congr 1; omega
    obtain⟨q1,q2,q3⟩:=hr.push (m:=some (w.heap.size,nc)) (obj:=.seq i.size m g) k3 (fun b tc e=>by cases e; exact⟨yc _,k5⟩) (fun hcx=>by
     refine .inr ⟨w.heap.size,nc,_,elem,ks,by simp[cxOf,<- hr.len],k4,k1,⟨hsize,?_⟩,fun k hk=>(e2 k hk).mono hcx,e3,fun k hk j hj=>?_⟩
     ·simp only[y3i,y2e,y1c]; rintro v (hv | hv)
      ·exact z2r e2 v hv
      ·exact z3l hzone _ v hv
     rw[<- y1e]
     simp only[y3i,y2e]
     rw[yq (by
      rw[hkl]
      have:(k+1) * i.size<=m * i.size:=yo _ hk
      rw[y1r] at this; omega)]
     exact zi? m i.size ks e3 k j hk hj)
    exact OpOk.value (hexec _ _ k2) (hK _ _ _ q1 q2 q3 (z8u hr.len k1))
  ·cases h
 ·cases h
theorem z79 (zc:List Value) (n:Nat) (h:0<zc.length) :
  (Array.range (n * zc.length)).map (fun i=>zc.toArray[i % zc.toArray.size]!)=((List.range n).flatMap fun _=>zc).toArray:=by
 have hl:=zb n zc.length (fun _=>zc) (fun _ _=>rfl)
 apply Array.ext
 ·simp[hl]
 ·intro j h1 h2
  simp only[Array.getElem_map,Array.getElem_range,y2l,List.getElem_toArray]
  have hj:j<n * zc.length:=by simpa using h1
  have hq:j / zc.length<n:=y41 (by rw[y39]; exact hj)
  have hm:j % zc.length<zc.length:=y5c _ h
  have e:=zi? n zc.length (fun _=>zc) (fun _ _=>rfl) (j / zc.length) (j % zc.length) hq hm
  have:j / zc.length * zc.length+j % zc.length=j:=by rw[y39]; exact y4n j _
  rw[this,yh (by simpa using h2),yh hm] at e
  rw[y15 e]
  simp[hm]
theorem z80 {c:Cx} {x:AV} {zc:List Value} (h:AV.Is c x zc):∀ n,AV.IsL c (List.replicate n x) ((List.range n).flatMap fun _=>zc)
 | 0=>.nil
 | n+1=>by
  rw[List.replicate_succ,List.range_succ_eq_map,y4z,List.flatMap_map]
  exact .cons _ _ _ _ h (z80 h n)
def listF (d:α) (l:List α):Nat->α:=fun i=>l.getD i d
def bsOffs (len sz:Nat) (i:Nat):Option (Stp×Nat):=if i<len then some (.f i (i * sz),sz) else none
def bsParts (P:Program) (t:TypeId) (len:Nat) (parts:List (Nat×AV)):Option (Nat×List AV) :=
 match elemInfo P t with
 | some (elem,i)=>match zeroOf P elem with
  | some z=>if z.wd=i.size/\0<i.size/\len * i.size<=2 ^ 24 then match setParts (bsOffs len i.size) parts (.agg (List.replicate len (.d z))) with
    | some (.agg xs)=>if xs.length=len/\xs.all (fun x=>x.wd==i.size) then some (i.size,xs) else none
    | _=>none
   else none
  | none=>none
 | none=>none
theorem AV.IsL.cells:∀ {xs:List AV} {cs:List Value},AV.IsL c xs cs->xs.all (fun x=>x.wd==sz)=true->∀ (k:Nat) (x:AV),xs[k]? = some x ->
  ∃ l,AV.Is c x l/\l.length=sz/\∀ j,j<sz->cs[k * sz+j]? = l[j]?
 | _,_,.nil,_,k,x,hx=>by simp at hx
 | _,_,.cons y ys l ls h ht,hall,0,x,hx=>by
  simp at hx; subst hx
  simp only[y3z,ya,yn] at hall
  have hl:l.length=sz:=by rw[h.len]; exact hall.1
  exact⟨l,h,hl,fun j hj=>by rw[Nat.zero_mul,y1h,yq om]⟩
 | _,_,.cons y ys l ls h ht,hall,k+1,x,hx=>by
  simp at hx
  simp only[y3z,ya,yn] at hall
  have hl:l.length=sz:=by rw[h.len]; exact hall.1
  obtain⟨l',h1,h2,h3⟩:=AV.IsL.cells ht hall.2 k x hx
  refine⟨l',h1,h2,fun j hj=>?_⟩
  rw[y1j (by rw[hl,y1r]; omega),hl,<- h3 j hj]
  congr 1
  rw[y1r]; omega
theorem ze3 {offs:Nat->Option (Stp×Nat)} (ho:∀ i s n,offs i=some (s,n)->∃ k o,s = .f k o):∀ (parts:List (Nat×AV)) (a:AV),AllP (partsL offs parts a)
 | [],_=>trivial
 | (i,v) :: r,a=>by
  simp only[partsL]
  cases h:offs i with
  | none=>trivial
  | some p =>
   obtain⟨s,n⟩:=p
   obtain⟨k,o,rfl⟩:=ho i s n h
   rw[zd]
   refine⟨?_,?_⟩
   ·simp only[AV.getL,zd]
    refine⟨?_,?_⟩
    ·unfold AV.intoL
     split
     ·rename_i he; cases he
     ·trivial
    ·split <;> trivial
   ·split
    ·exact ze3 ho r _
    ·trivial
theorem ze4 {len:Nat} {xs:List AV} (h:bsParts P t len parts=some (sz,xs)) (hp:PartsIs c parts vs.toList) :
  ∃ cs elem,(Instr.buildSlice t len vs).run P w = .ok (.slice (some ⟨w.heap.size,0,none⟩) len len) (w.alloc (.cells cs.toArray elem))/\AV.IsL c xs cs/\xs.length=len /\
   xs.all (fun x=>x.wd==sz)=true/\cs.length=len * sz/\0<sz:=by
 unfold bsParts at h
 split at h
 ·rename_i elem i he
  split at h
  ·rename_i z hz
   split at h
   ·rename_i hty
    obtain⟨h1,h2,h3⟩:=hty
    split at h
    ·rename_i ys hs
     split at h
     ·rename_i hl
      cases h
      obtain⟨hu,hi⟩:=z1s he
      obtain⟨zv,z1,z2⟩:=z2h hz
      have hzc:=IsV.cells (c:=c) (av:=.d z) rfl (z2 c)
      have hzl:zv.cells.toList.length=i.size:=by rw[hzc.len]; exact h1
      have hsz:szOf P elem=some i.size:=by simp[szOf,hi]
      obtain⟨cs',f1,f2⟩:=z2w (c:=c) (place:=fun k=>some (k * i.size,i.size)) (offs:=bsOffs len i.size) (by
       intro k s n ho
       unfold bsOffs at ho
       split at ho
       ·cases ho; rfl
       ·cases ho) parts vs.toList _ _ _ hp (.agg _ _ (z80 hzc len)) hs (ze3 (fun k s n ho=>by
        unfold bsOffs at ho
        split at ho
        ·cases ho; exact⟨_,_,rfl⟩
        ·cases ho) parts _)
      cases f2 with
      | agg _ _ f2 =>
      have hcl:cs'.length=len * i.size:=by
       have hw:∀ (l:List AV),l.all (fun x=>x.wd==i.size)=true->AV.wdL l=l.length * i.size:=by
        intro l
        induction l with
        | nil=>intro _; simp[AV.wdL]
        | cons x l ih =>
         intro hx
         simp only[y3z,ya,yn] at hx
         simp only[AV.wdL,y10,hx.1,ih hx.2,y1r]; omega
       rw[f2.len,hw xs hl.2,hl.1]
      refine⟨cs',elem,?_,f2,hl.1,hl.2,hcl,h2⟩
      have hzf:=z79 zv.cells.toList len om
      rw[hzl] at hzf
      simp only[y3l] at hzf f1
      have hno:¬ len * i.size>2 ^ 24:=om
      by_cases h0:len * i.size=0
      ·have hlen:len=0:=by
        rcases Nat.mul_eq_zero.1 h0 with h | h
        ·exact h
        ·omega
       subst hlen
       simp at f1
       simp[Instr.buildSlice,zl hu w,z19 hsz w,show Array.range 0 = #[] from rfl,f1,newRow]
      ·have hzf':Array.map (fun j=>zv.cells[j % zv.cells.size]!) (Array.range (len * i.size))=(List.flatMap (fun _=>zv.cells.toList) (List.range len)).toArray:=hzf
       simp only[Instr.buildSlice,y14,zl hu w,yp,z19 hsz w,y6 hno,y6 h0,z1,y2d,hzf',f1]
       simp[newRow]
     ·cases h
    ·cases h
   ·cases h
  ·cases h
 ·cases h
def allD:List AV->Option (List DV)
 | []=>some []
 | .d x :: r=>(allD r).map (x :: ·)
 | _ :: _=>none
theorem z9q:∀ {xs:List AV} {ds:List DV},allD xs=some ds->xs=ds.map AV.d
 | [],ds,h=>by simp[allD] at h; subst h; rfl
 | x :: r,ds,h=>by
  cases x with
  | d y =>
   simp only[allD] at h
   cases hr:allD r with
   | none=>simp[hr] at h
   | some es =>
    simp[hr] at h
    subst h
    simp[z9q hr]
  | _=>simp[allD] at h
def eBsImm (P:Program) (t:TypeId) (len:Nat) (parts:List (Nat×AV)):Option AV :=
 match bsParts P t len parts with
 | some (_,xs)=>(allD xs).map fun ds=>if len=0 then .full 0 fun _=>.b false else .d (.sl len (listF (.b false) ds))
 | none=>none
variable {ps:Array (Nat×Operand)} {pv:List (Nat×AV)}
theorem zko {len:Nat} (ho:o.op = .buildSlice t len ps) (hp:partsO G ch ps.toList=some pv) (h:eBsImm P t len pv=some av) (hb:len<2 ^ 63):OpOk P G ch L o av L:=by
 intro z zn X ms w a K Q hr hf hh hK
 unfold eBsImm at h
 split at h
 ·rename_i sz xs hbs
  cases hd:allD xs with
  | none=>simp[hd] at h
  | some ds =>
   simp[hd] at h
   subst h
   have hpv:=z3z hf hh hp
   obtain⟨cs,elem,r1,r2,r3,r4,r5,r6⟩:=ze4 (P:=P) (w:=w) (vs:=ps.map fun (i,x)=>(i,a.eval x)) hbs (by simpa using hpv)
   have hexec:(execOp a.eval o).run P w = .ok (.value (.slice (some ⟨w.heap.size,0,none⟩) len len)) (w.alloc (.cells cs.toArray elem)):=by
    obtain⟨dst,op,ty,pos,after,guard⟩:=o
    subst ho
    exact zx r1
   obtain⟨k1,k2⟩:=hr.grow (Grow.alloc w (.cells cs.toArray elem))
   by_cases hz:len=0
   ·subst hz
    exact OpOk.value hexec (hK _ ms _ k1 ((Grow.alloc w _).ext ms) k2 (.one _ _ rfl (.full 0 _ _ (.slEmpty _ _ _))))
   rw[y6 hz] at hK
   refine OpOk.value hexec (hK _ ms _ k1 ((Grow.alloc w _).ext ms) k2 (.one _ _ rfl (.d _ _ ?_)))
   have hM:(cxOf X ms L (w.alloc (.cells cs.toArray elem))).M w.heap.size=some cs.toArray :=
    z1j (fun hx=>by have:=hr.xlt _ hx; omega) (fun ho=>by have:=(hr.lt _ ho).1; omega) (z2b w _)
   have hxs:=z9q hd
   have hch:∀ k,k<len->∃ l,DV.Is (cxOf X ms L (w.alloc (.cells cs.toArray elem))).M (listF (.b false) ds k) l/\l.length=sz/\∀ j,j<sz->cs[k * sz+j]? = l[j]? := fun k hk=>by
    have hk':k<ds.length:=by rw[hxs,y1q] at r3; omega
    obtain⟨l,l1,l2,l3⟩:=r2.cells r4 k (.d ds[k]) (by rw[hxs]; simp[hk'])
    have:=l1.mono k2
    cases this with
    | d _ _ h =>
    refine⟨l,?_,l2,l3⟩
    rw[show listF (.b false) ds k=ds[k] by simp[listF,List.getD,hk']]
    exact h
   refine .sl len _ w.heap.size 0 len sz _ (fun k=>if h:k<len then (hch k h).choose else []) (yc _) hb hM (fun k hk=>?_) (fun k hk=>?_) (fun k hk j hj=>?_)
   ·simp only[hk,y4a]; exact (hch k hk).choose_spec.1
   ·simp only[hk,y4a]; exact (hch k hk).choose_spec.2.1
   ·simp only[hk,y4a,y1h,y2h]; exact (hch k hk).choose_spec.2.2 j hj
 ·cases h
def eBsObj (P:Program) (L:List Ob) (t:TypeId) (len:Nat) (parts:List (Nat×AV)):Option (AV×List Ob) :=
 match bsParts P t len parts with
 | some (sz,xs)=>some (.ref L.length len 0 len,L++[.seq sz len (listF .bot xs)])
 | none=>none
theorem zkp {len:Nat} (ho:o.op = .buildSlice t len ps) (hp:partsO G ch ps.toList=some pv) (h:eBsObj P L t len pv=some (av,L')):OpOk P G ch L o av L':=by
 intro z zn X ms w a K Q hr hf hh hK
 unfold eBsObj at h
 split at h
 ·rename_i sz xs hbs
  cases h
  have hpv:=z3z hf hh hp
  obtain⟨cs,elem,r1,r2,r3,r4,r5,r6⟩:=ze4 (P:=P) (w:=w) (vs:=ps.map fun (i,x)=>(i,a.eval x)) hbs (by simpa using hpv)
  have hexec:(execOp a.eval o).run P w = .ok (.value (.slice (some ⟨w.heap.size,0,none⟩) len len)) (w.alloc (.cells cs.toArray elem)):=by
   obtain⟨dst,op,ty,pos,after,guard⟩:=o
   subst ho
   exact zx r1
  have hch:∀ k,k<len->∃ l,AV.Is (cxOf X ms L w) (listF .bot xs k) l/\l.length=sz/\∀ j,j<sz->cs[k * sz+j]? = l[j]? := fun k hk=>by
   obtain⟨l,l1,l2,l3⟩:=r2.cells r4 k (xs[k]'om) sj
   refine⟨l,?_,l2,l3⟩
   rw[show listF .bot xs k=xs[k]'om by simp[listF,List.getD,r3,hk]]
   exact l1
  obtain⟨q1,q2,q3⟩:=hr.push (m:=some (w.heap.size,len)) (obj:=.seq sz len (listF .bot xs)) (Grow.alloc w (.cells cs.toArray elem)) (fun b tc e=>by cases e; exact⟨yc _,sj⟩) (fun hcx=>by
   refine .inr ⟨w.heap.size,len,_,elem,fun k=>if h:k<len then (hch k h).choose else [],by simp[cxOf,<- hr.len],z2b w _,yc _,⟨by simpa using r5,r2.one⟩,fun k hk=>?_,fun k hk=>?_,fun k hk j hj=>?_⟩
   ·simp only[hk,y4a]; exact (hch k hk).choose_spec.1.mono hcx
   ·simp only[hk,y4a]; exact (hch k hk).choose_spec.2.1
   ·simp only[hk,y4a,y2h]; exact (hch k hk).choose_spec.2.2 j hj)
  exact OpOk.value hexec (hK _ _ _ q1 q2 q3 (z8u hr.len (yc _)))
 ·cases h
def eBsBorn (P:Program) (L:List Ob) (t:TypeId) (k len:Nat) (parts:List (Nat×AV)):Option (AV×List Ob) :=
 match L[k]?,bsParts P t len parts with
 | some (.seq sz' 0 _),some (sz,xs)=>if sz'=sz/\0<len then some (.ref k len 0 len,L.set k (.seq sz len (listF .bot xs))) else none
 | _,_=>none
theorem ziq {k len:Nat} (ho:o.op = .buildSlice t len ps) (hp:partsO G ch ps.toList=some pv) (h:eBsBorn P L t k len pv=some (av,L')):OpOk P G ch L o av L':=by
 intro z zn X ms w a K Q hr hf hh hK
 unfold eBsBorn at h
 split at h
 ·rename_i sz' f0 sz xs hL hbs
  split at h
  ·rename_i hc
   obtain⟨rfl,h0⟩:=hc
   cases h
   have hpv:=z3z hf hh hp
   obtain⟨cs,elem,r1,r2,r3,r4,r5,r6⟩:=ze4 (P:=P) (w:=w) (vs:=ps.map fun (i,x)=>(i,a.eval x)) hbs (by simpa using hpv)
   have hlt:k<L.length:=by
    rcases yu k L.length with h' | h'
    ·exact h'
    ·rw[yf h'] at hL; cases hL
   have hltm:k<ms.length:=by rw[hr.len]; exact hlt
   have hexec:(execOp a.eval o).run P w = .ok (.value (.slice (some ⟨w.heap.size,0,none⟩) len len)) (w.alloc (.cells cs.toArray elem)):=by
    obtain⟨dst,op,ty,pos,after,guard⟩:=o
    subst ho
    exact zx r1
   have hch:∀ k,k<len->∃ l,AV.Is (cxOf X ms L w) (listF .bot xs k) l/\l.length=sz'/\∀ j,j<sz'->cs[k * sz'+j]? = l[j]? := fun k hk=>by
    obtain⟨l,l1,l2,l3⟩:=r2.cells r4 k (xs[k]'om) sj
    refine⟨l,?_,l2,l3⟩
    rw[show listF .bot xs k=xs[k]'om by simp[listF,List.getD,r3,hk]]
    exact l1
   obtain⟨q1,q2,q3⟩:=hr.moveOb (w':=w.alloc (.cells cs.toArray elem)) (b:=w.heap.size) (tc:=len) (obj':=.seq sz' len (listF .bot xs)) (Grow.alloc w _) hL ⟨yc _,sj⟩ rfl ⟨0,len,rfl,rfl,h0⟩
    (fun hcx=>.inr ⟨w.heap.size,len,_,elem,fun k=>if h:k<len then (hch k h).choose else [],by simp[cxOf,hltm],z2b w _,yc _,⟨by simpa using r5,r2.one⟩,fun k hk=>by
     simp only[hk,y4a]; exact (hch k hk).choose_spec.1.mono hcx,fun k hk=>by
     simp only[hk,y4a]; exact (hch k hk).choose_spec.2.1,fun k hk j hj=>by
     simp only[hk,y4a,y2h]; exact (hch k hk).choose_spec.2.2 j hj⟩)
   refine OpOk.value hexec (hK _ _ _ q1 q2 q3 (.one _ _ rfl (.ref _ _ _ _ _ ⟨by simpa [cxOf] using hlt,⟨_,_,rfl⟩,fun obj s ho hst=>?_,fun sz2 f2 _=>⟨om,.inr (.inr ⟨w.heap.size,len,by simp[cxOf,hltm],yc _,sj⟩)⟩⟩)))
   simp[cxOf,List.getElem?_set_self hlt] at ho
   subst ho
   simp[Ob.stamp] at hst
   omega
  ·cases h
 ·cases h
def eMake (P:Program) (L:List Ob) (t:TypeId) (l c:AV):Option (AV×List Ob×List Prop) :=
 match elemInfo P t,l,c with
 | some (elem,i),.d (.i .i64 n),.d (.i .i64 m)=>match zeroOf P elem with
  | some z=>if z.wd=i.size/\0<i.size/\0<i.bytes then
    some (.ref L.length n.toNat 0 n.toNat,L++[.seq i.size n.toNat fun _=>.d z],[0<=n,n<=m,m * i.bytes<=2 ^ 47]) else none
  | none=>none
 | _,_,_=>none
variable {lv cv:AV}
theorem zmo {l c:Operand} (ho:o.op = .makeSlice t l c) (hl:opnd G ch l=some lv) (hcv:opnd G ch c=some cv) (h:eMake P L t lv cv=some (av,L',C)) (hc:AllP C):OpOk P G ch L o av L':=by
 intro z zn X ms w a K Q hr hf hh hK
 unfold eMake at h
 split at h
 ·rename_i elem i n m he
  split at h
  ·rename_i z hz
   split at h
   ·rename_i hty
    cases h
    obtain⟨h0,h1,h2⟩:=hty
    obtain⟨c0,c1,c2,_⟩:=hc
    obtain⟨hu,hi⟩:=z1s he
    obtain⟨zv,z1,z2⟩:=z2h hz
    have hzc:=IsV.cells (c:=cxOf X ms L w) (av:=.d z) rfl (z2 _)
    have hzl:zv.cells.toList.length=i.size:=by rw[hzc.len]; exact h0
    have hsz:szOf P elem=some i.size:=by simp[szOf,hi]
    have hel:=IsV.i (zf hl hf hh)
    have hec:=IsV.i (zf hcv hf hh)
    have hti:(typeInfo elem).run P w = .ok i w:=by simp[typeInfo,hi]
    have hmb:m<=2 ^ 47:=by
     have:m * 1<=m * i.bytes:=Int.mul_le_mul_of_nonneg_left om om
     omega
    have wn:i64.wrap n=n:=y5u _ om
    have wm:i64.wrap m=m:=y5u _ om
    have hbm:¬ ((i.bytes:Int) * m>2 ^ 48):=by rw[Int.mul_comm]; omega
    have hzf:=z79 zv.cells.toList m.toNat om
    rw[hzl] at hzf
    have hrun:(Instr.makeSlice t (.int .i64 n) (.int .i64 m)).run P w = .ok (.slice (some ⟨w.heap.size,0,none⟩) n.toNat m.toNat)
      (w.alloc (.cells ((List.range m.toNat).flatMap fun _=>zv.cells.toList).toArray elem)):=by
     have hcond:((decide (m<0)||decide ((i.bytes:Int) * m>2 ^ 48))||decide (n<0)||decide (n>m))=false:=by
      simp only[y1w,y12]
      exact⟨⟨⟨om,hbm⟩,om⟩,om⟩
     have hzf':Array.map (fun j=>zv.cells[j % zv.cells.size]!) (Array.range (m.toNat * i.size))=(List.flatMap (fun _=>zv.cells.toList) (List.range m.toNat)).toArray:=hzf
     simp only[Instr.makeSlice,y14,zl hu w,yp,asInt,asIntOf,y2d,hti,wn,wm,hcond,yl,y2g,run_askRoom,z19 hsz w]
     by_cases hm0:m.toNat * i.size=0
     ·rw[y7 hm0]
      rw[hm0] at hzf' |-
      rw[<- hzf']
      have e0:∀ f:Nat->Value,Array.map f (Array.range 0) = #[]:=fun f=>by rw[show Array.range 0 = #[] from rfl]; simp
      simp[newRow,e0]
     ·rw[y6 hm0]
      simp only[y14,z1,yp,y2d,hzf']
      rfl
    have hexec:(execOp a.eval o).run P w = .ok (.value (.slice (some ⟨w.heap.size,0,none⟩) n.toNat m.toNat)) (w.alloc (.cells ((List.range m.toNat).flatMap fun _=>zv.cells.toList).toArray elem)):=by
     obtain⟨dst,op,ty,pos,after,guard⟩:=o
     subst ho
     exact zx (s:=Instr.makeSlice t (a.eval l) (a.eval c)) (by rw[hel,hec]; exact hrun)
    have hfl:=zb m.toNat i.size (fun _=>zv.cells.toList) (fun _ _=>hzl)
    obtain⟨q1,q2,q3⟩:=hr.push (m:=some (w.heap.size,m.toNat)) (obj:=.seq i.size n.toNat fun _=>.d z) (Grow.alloc w (.cells ((List.range m.toNat).flatMap fun _=>zv.cells.toList).toArray elem))
     (fun b tc e=>by cases e; exact⟨yc _,sj⟩) (fun hcx=>by
     refine .inr ⟨w.heap.size,m.toNat,_,elem,fun _=>zv.cells.toList,by simp[cxOf,<- hr.len],z2b w _,om,⟨by simpa using hfl,fun v hv=>by obtain⟨_,_,hv⟩:=y3r.1 (show v∈(List.range m.toNat).flatMap fun _=>zv.cells.toList from hv); exact hzc.one v hv⟩,fun k hk=>hzc.mono hcx,fun _ _=>hzl,fun k hk j hj=>?_⟩
     rw[y2h]
     exact zi? m.toNat i.size (fun _=>zv.cells.toList) (fun _ _=>hzl) k j om hj)
    exact OpOk.value hexec (hK _ _ _ q1 q2 q3 (z8u hr.len om))
   ·cases h
  ·cases h
 ·cases h
theorem z7x {z:Array Value} {i:Nat} (hi:i<n) (hj:j<z.size):(Builtin.zeroCells z n).toList[i * z.size+j]? = z.toList[j]? := by
 have hlt:i * z.size+j<n * z.size:=by
  have:(i+1) * z.size<=n * z.size:=yo _ hi
  rw[y1r] at this; omega
 have hm:(i * z.size+j) % z.size=j:=by
  rw[y39,Nat.mul_add_mod,Nat.mod_eq_of_lt hj]
 simp only[Builtin.zeroCells,y56,Array.toList_range,y2q,y5q hlt,y1z,hm]
 simp[hj]
theorem z9r {L:List α} {i:Nat} {x:α} (h:L[i]? = some x):L.set i x=L:=by
 apply y2y
 intro j
 by_cases hj:i=j
 ·subst hj
  have hlt:i<L.length:=by
   rcases yu i L.length with h' | h'
   ·exact h'
   ·rw[yf h'] at h; cases h
  rw[y16 hlt,h]
 ·rw[y1d hj]
def eClear (P:Program) (L:List Ob) (t:TypeId) (x:AV):Option (AV×List Ob×List Prop) :=
 match P.underlying t,x with
 | some (.slice elem),.ref o st off n=>match L[o]?,zeroOf P elem with
  | some (.seq sz m f),some z=>if 0<sz/\z.wd=sz then some (.bot,L.set o (.seq sz m fun j=>if off<=j/\j<off+n then .d z else f j),[m=st]) else none
  | _,_=>none
 | _,_=>none
theorem zkq {x:Operand} (ho:o.op = .call ⟨.builtin .clear,#[x],#[t]⟩) (hx:opnd G ch x=some xv) (h:eClear P L t xv=some (av,L',C)) (hc:AllP C):OpOk P G ch L o av L':=by
 intro z zn X ms w a K Q hr hf hh hK
 unfold eClear at h
 split at h
 ·rename_i elem i st off n ht
  split at h
  ·rename_i sz m f z hL hz
   split at h
   ·rename_i hsz
    cases h
    obtain⟨hs0,hwd⟩:=hsz
    obtain⟨rfl,_⟩:=hc
    have hxv:=IsV.is1 rfl sj sj (zf hx hf hh)
    have hexec:∀ w',(Builtin.clear_ #[t] o.type #[a.eval x]).run P w = .ok (.tuple #[]) w'->(execOp a.eval o).run P w = .ok (.value (.tuple #[])) w':=fun w' hv=>by
     obtain⟨dst,op,ty,pos,after,guard⟩:=o
     subst ho
     exact zx (s:=Builtin.clear_ #[t] ty (#[x].map a.eval)) (by simpa using hv)
    generalize hse:a.eval x=u at hxv
    rw[hse] at hexec
    obtain⟨zv,hz1,hz2⟩:=z2h hz
    have hzc:DV.Is (fun _=>none) z zv.cells.toList:=by
     have:=IsV.cells (av:=.d z) rfl (hz2 ⟨[],fun _=>none,[]⟩)
     cases this with
     | d _ _ h=>exact h
    have hzl:zv.cells.size=sz:=by have:=hzc.len; rw[hwd] at this; simpa using this
    cases hxv with
    | ref _ _ _ _ _ hx' =>
    obtain⟨h1,⟨ad,cap,rfl⟩,h0,h3⟩:=hx'
    have hsame:n=0->(fun j=>if off<=j/\j<off+n then AV.d z else f j)=f:=fun hn=>by
     funext j; rw[y6 om]
    by_cases hn:n=0
    ·subst hn
     rw[hsame rfl,z9r hL] at hK
     refine OpOk.value (hexec w ?_) (hK _ ms w hr (Ext.refl _ _) (Cx.le.refl _) (.bot _))
     cases ad <;> simp[Builtin.clear_,zl ht w]
    ·obtain⟨hb,hcase⟩:=h3 sz f hL
     rcases hcase with ⟨_,a',he⟩ | ⟨_,he⟩ | ⟨b,tc,hms,hle,he⟩
     ·cases he; exact absurd rfl hn
     ·exact absurd he hn
     ·cases he
      obtain⟨arr,e,cs,g1,g2,g3,g4,g5,g6⟩:=hr.seq hL hms
      have hzs:=y4w zv.cells n
      have hbl:off * sz+(Builtin.zeroCells zv.cells n).toList.length<=arr.toList.length:=by
       rw[y22,y22,hzs,hzl,g3,<- y28]
       exact yo sz om
      have hone:∀ v∈(Builtin.zeroCells zv.cells n).toList,v.oneCell'=true:=fun v hv=>by
       obtain⟨q,hq,e⟩:=y2j hv
       have hq':q<n * zv.cells.size:=by rw[y22,hzs] at hq; exact hq
       have hpos:0<zv.cells.size:=om
       have hj:=y5c q hpos
       have hi:q / zv.cells.size<n:=y41 (by rw[y39]; exact hq')
       have h:=z7x (z:=zv.cells) hi hj
       rw[y39 (q / zv.cells.size),y4n,yh hq,e] at h
       exact hzc.one v (y33 h.symm)
      obtain⟨w',r1,r2,r3,r4⟩:=z1r (P:=P) (Builtin.zeroCells zv.cells n).toList (off * sz) 0 arr.toList w (by simpa using g1) om hone
      obtain⟨q1,q2,q3⟩:=hr.setOb (w':=w') (obj':=.seq sz m fun j=>if off<=j/\j<off+n then .d z else f j) hL hms r3 r4 rfl (fun s hs=>⟨s,hs,yc _⟩) (fun hcx=>by
       refine .inr ⟨b,tc,_,e,fun j=>if off<=j/\j<off+n then zv.cells.toList else cs j,hms,r2,g2,⟨?_,z4b (hr.seqOne hL hms g1) hone⟩,?_,?_,?_⟩
       ·have:(splice arr.toList (off * sz+0) (Builtin.zeroCells zv.cells n).toList).length=arr.size:=by rw[z1k (by simpa using hbl)]; simp
        rw[y2l,this]; exact g3
       ·intro j hj
        by_cases hjo:off<=j/\j<off+n
        ·simp only[y7 hjo]
         exact .d _ _ (hzc.mono (fun _ _ h=>by cases h))
        ·simp only[y6 hjo]
         exact (g4 j hj).mono hcx
       ·intro j hj
        by_cases hjo:off<=j/\j<off+n
        ·simp only[y7 hjo]; rw[y22]; exact hzl
        ·simp only[y6 hjo]; exact g5 j hj
       ·intro j hj q hq
        simp only[y2h,y43]
        rw[zt? hbl]
        by_cases hjo:off<=j/\j<off+n
        ·have k1:off * sz<=j * sz:=yo sz hjo.1
         have k2:(j+1) * sz<=(off+n) * sz:=yo sz om
         rw[y1r,y28] at k2
         rw[y7 (by rw[y22,hzs,hzl]; omega)]
         simp only[y7 hjo]
         have k3:j * sz+q-off * sz=(j-off) * sz+q:=by rw[Nat.sub_mul]; omega
         rw[k3]
         have:=z7x (z:=zv.cells) (n:=n) (i:=j-off) (j:=q) om om
         rw[hzl] at this
         exact this
        ·rw[y6,y1e]
         ·simp only[y6 hjo]; exact g6 j hj q hq
         ·rw[y22,hzs,hzl]
          intro ⟨q1,q2⟩
          rcases yu j off with hlt | hge
          ·have:(j+1) * sz<=off * sz:=yo sz hlt
           rw[y1r] at this; omega
          ·have:(off+n) * sz<=j * sz:=yo sz om
           rw[y28] at this; omega)
      refine OpOk.value (hexec w' ?_) (hK _ _ _ q1 q2 q3 (.bot _))
      obtain⟨n',rfl⟩:=Nat.exists_eq_succ_of_ne_zero hn
      simp[Builtin.clear_,zl ht w,hz1,r1]
   ·cases h
  ·cases h
 ·cases h
def vBuildF (P:Program) (t:TypeId) (parts:List (Nat×AV)):Option (AV×List Prop) :=
 match zeroA P t true,P.underlying t with
 | some z,some (.struct fields) =>
  let offs:Nat->Option (Stp×Nat):=fun i=>(fields[i]?).bind fun f=>(szOf P f.type).map fun n=>(Stp.f i f.offset,n)
  if fields.toList.all (fun f=>(szOf P f.type).isSome) then
   (setParts offs parts z).bind fun av=>if av.isAgg then some (av,partsL offs parts z) else none
  else none
 | _,_=>none
theorem zh2 (hv:vBuildF P t parts=some (av,C)) (hc:AllP C) (hp:PartsIs c parts vs.toList) :
  ∃ v,(Instr.build t vs).run P w = .ok v w/\AV.IsV c av v:=by
 unfold vBuildF at hv
 split at hv
 ·rename_i z fields hz hu
  simp only at hv
  split at hv
  ·rename_i hall
   cases hs:setParts (fun i=>(fields[i]?).bind fun f=>(szOf P f.type).map fun n=>(Stp.f i f.offset,n)) parts z with
   | none=>simp[hs] at hv
   | some a' =>
    simp only[hs,y1t] at hv
    split at hv
    ·rename_i hag
     cases hv
     obtain⟨hsol,zv,h1,h2⟩:=z9p hz
     have hzc:=IsV.cells (c:=c) (av:=z) hsol (h2 c)
     have hm:=z76 (P:=P) (w:=w) fields.toList hall
     obtain⟨cs',h3,h4⟩:=z2w (c:=c) (place:=fun i=>((fields.toList.map fun f=>(f.offset,(szOf P f.type).getD 0)).toArray)[i]?) (by
      intro i s sz ho
      cases hf:fields[i]? with
      | none=>simp[hf] at ho
      | some f =>
       cases hn:szOf P f.type with
       | none=>simp[hf,hn] at ho
       | some n =>
        simp[hf,hn] at ho
        obtain⟨rfl,rfl⟩:=ho
        simp[hf,hn,Stp.off]) parts vs.toList _ _ _ hp hzc hs hc
     refine⟨.agg cs'.toArray,?_,.agg _ _ hag h4⟩
     have hm':(fields.mapM (fun f=>do pure (f.offset,<- sizeOf f.type):Field->Sem (Nat×Nat))).run P w =
       .ok (fields.toList.map fun f=>(f.offset,(szOf P f.type).getD 0)).toArray w:=by
      rw[y4o,Sem.run_map,hm,yp]
     simp only[y3l] at h3
     simp only[Instr.build,y14,h1 w,yp,zl hu w,hm',h3]
     rfl
    ·cases hv
  ·cases hv
 ·cases hv
theorem zir (ho:o.op = .build t ps) (hx:partsO G ch ps.toList=some pv) (h:vBuildF P t pv=some (av,C)) (hc:AllP C):OpOk P G ch L o av L:=by
 intro z zn X ms w a K Q hr hf hh hK
 have:=z3z hf hh hx
 obtain⟨v,h1,h2⟩:=zh2 (P:=P) (w:=w) (vs:=ps.map fun (i,x)=>(i,a.eval x)) h hc (by simpa using this)
 refine OpOk.value (u:=v) (w':=w) ?_ (hK v ms w hr (Ext.refl _ _) (Cx.le.refl _) h2)
 obtain⟨dst,op,ty,pos,after,guard⟩:=o
 subst ho
 exact zx h1
def eMakeImm (P:Program) (t:TypeId) (l c:AV):Option (AV×List Prop) :=
 match elemInfo P t,l,c with
 | some (elem,i),.d (.i .i64 n),.d (.i .i64 m)=>match zeroOf P elem with
  | some z=>if z.wd=i.size/\0<i.size/\0<i.bytes then
    some (.d (.sl n.toNat fun _=>z),[0<=n,n<=m,m * i.bytes<=2 ^ 47]) else none
  | none=>none
 | _,_,_=>none
theorem zh3 {l c:Operand} (ho:o.op = .makeSlice t l c) (hl:opnd G ch l=some lv) (hcv:opnd G ch c=some cv) (h:eMakeImm P t lv cv=some (av,C)) (hc:AllP C):OpOk P G ch L o av L:=by
 intro z zn X ms w a K Q hr hf hh hK
 unfold eMakeImm at h
 split at h
 ·rename_i elem i n m he
  split at h
  ·rename_i z hz
   split at h
   ·rename_i hty
    cases h
    obtain⟨h0,h1,h2⟩:=hty
    obtain⟨c0,c1,c2,_⟩:=hc
    obtain⟨hu,hi⟩:=z1s he
    obtain⟨zv,z1,z2⟩:=z2h hz
    have hzc:=IsV.cells (c:=cxOf X ms L w) (av:=.d z) rfl (z2 _)
    have hzl:zv.cells.toList.length=i.size:=by rw[hzc.len]; exact h0
    have hsz:szOf P elem=some i.size:=by simp[szOf,hi]
    have hel:=IsV.i (zf hl hf hh)
    have hec:=IsV.i (zf hcv hf hh)
    have hti:(typeInfo elem).run P w = .ok i w:=by simp[typeInfo,hi]
    have hmb:m<=2 ^ 47:=by
     have:m * 1<=m * i.bytes:=Int.mul_le_mul_of_nonneg_left om om
     omega
    have wn:i64.wrap n=n:=y5u _ om
    have wm:i64.wrap m=m:=y5u _ om
    have hbm:¬ ((i.bytes:Int) * m>2 ^ 48):=by rw[Int.mul_comm]; omega
    have hzf:=z79 zv.cells.toList m.toNat om
    rw[hzl] at hzf
    have hrun:(Instr.makeSlice t (.int .i64 n) (.int .i64 m)).run P w = .ok (.slice (some ⟨w.heap.size,0,none⟩) n.toNat m.toNat)
      (w.alloc (.cells ((List.range m.toNat).flatMap fun _=>zv.cells.toList).toArray elem)):=by
     have hcond:((decide (m<0)||decide ((i.bytes:Int) * m>2 ^ 48))||decide (n<0)||decide (n>m))=false:=by
      simp only[y1w,y12]
      exact⟨⟨⟨om,hbm⟩,om⟩,om⟩
     have hzf':Array.map (fun j=>zv.cells[j % zv.cells.size]!) (Array.range (m.toNat * i.size))=(List.flatMap (fun _=>zv.cells.toList) (List.range m.toNat)).toArray:=hzf
     simp only[Instr.makeSlice,y14,zl hu w,yp,asInt,asIntOf,y2d,hti,wn,wm,hcond,yl,y2g,run_askRoom,z19 hsz w]
     by_cases hm0:m.toNat * i.size=0
     ·rw[y7 hm0]
      rw[hm0] at hzf' |-
      rw[<- hzf']
      have e0:∀ f:Nat->Value,Array.map f (Array.range 0) = #[]:=fun f=>by rw[show Array.range 0 = #[] from rfl]; simp
      simp[newRow,e0]
     ·rw[y6 hm0]
      simp only[y14,z1,yp,y2d,hzf']
      rfl
    have hexec:(execOp a.eval o).run P w = .ok (.value (.slice (some ⟨w.heap.size,0,none⟩) n.toNat m.toNat)) (w.alloc (.cells ((List.range m.toNat).flatMap fun _=>zv.cells.toList).toArray elem)):=by
     obtain⟨dst,op,ty,pos,after,guard⟩:=o
     subst ho
     exact zx (s:=Instr.makeSlice t (a.eval l) (a.eval c)) (by rw[hel,hec]; exact hrun)
    have hfl:=zb m.toNat i.size (fun _=>zv.cells.toList) (fun _ _=>hzl)
    obtain⟨k1,k2⟩:=hr.grow (Grow.alloc w (.cells ((List.range m.toNat).flatMap fun _=>zv.cells.toList).toArray elem))
    refine OpOk.value hexec (hK _ ms _ k1 ((Grow.alloc w _).ext ms) k2 (.one _ _ rfl (.d _ _ ?_)))
    have hM:(cxOf X ms L (w.alloc (.cells ((List.range m.toNat).flatMap fun _=>zv.cells.toList).toArray elem))).M w.heap.size=some ((List.range m.toNat).flatMap fun _=>zv.cells.toList).toArray :=
     z1j (fun hx=>by have:=hr.xlt _ hx; omega) (fun ho=>by have:=(hr.lt _ ho).1; omega) (z2b w _)
    refine .sl n.toNat _ w.heap.size 0 m.toNat i.size _ (fun _=>zv.cells.toList) om om hM (fun k hk=>?_) (fun _ _=>hzl) (fun k hk j hj=>?_)
    ·have:=hzc.mono k2
     cases this with
     | d _ _ h=>exact h
    ·rw[y1h,y2h]
     exact zi? m.toNat i.size (fun _=>zv.cells.toList) (fun _ _=>hzl) k j om hj
   ·cases h
  ·cases h
 ·cases h
end Go.TA
