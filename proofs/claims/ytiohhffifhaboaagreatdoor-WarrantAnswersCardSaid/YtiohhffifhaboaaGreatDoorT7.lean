/- A part of the proof: laws over any program of the abstract machine. No condition. -/
import Derived.Test.YtiohhffifhaboaaGreatDoorT6
import Derived.Lib.Fields
import Derived.Test.YtiohhffifhaboaaGreatDoorT3
import Derived.Lib.Join
namespace Go.TA
open Go Go.RowKit
end Go.TA
namespace Go.TA
open Go
open Go.IntKind (i64)
variable {n:Nat}
section
variable {σ ρ:Type}
theorem z9p {body:Nat->σ->Option (Step σ ρ)} {n:Nat} (I:Nat->σ->Prop) (hs:∀ i s,i<n->I i s->∃ s',body i s=some (.cont s')/\I (i+1) s') :
  ∀ (k i:Nat) (s:σ),i+k=n->I i s->∃ s',rangeM body k i s=some (.next s')/\I n s'
 | 0,i,s,hk,h=>⟨s,rfl,by have:i=n:=om; subst this; exact h⟩
 | k+1,i,s,hk,h=>by
  obtain⟨s1,h1,h2⟩:=hs i s om h
  obtain⟨s2,h3,h4⟩:=z9p I hs k (i+1) s1 om h2
  exact⟨s2,by simp only[rangeM,h1,h3],h4⟩
theorem z1t {body:Nat->σ->Option (Step σ ρ)} (I:Nat->σ->Prop) {s0:σ} (h0:I 0 s0) (hs:∀ i s,i<n->I i s->∃ s',body i s=some (.cont s')/\I (i+1) s') :
  ∃ s',rangeM body n 0 s0=some (.next s')/\I n s':=z9p I hs n 0 s0 (y14 n) h0
theorem z9q {body:Nat->Unit->Option (Step Unit ρ)} {n:Nat} {c:ρ} (p:Nat->Bool) (hs:∀ i,i<n->body i ()=some (if p i=true then .ret c else .cont ())) :
  ∀ (k i:Nat),i+k=n->rangeM body k i ()=some (if (List.range' i k).any p=true then .ret c else .next ())
 | 0,i,hk=>rfl
 | k+1,i,hk=>by
  simp only[rangeM,hs i om,List.range'_succ,y47]
  cases hp:p i with
  | true=>simp
  | false=>simp only[y1j,y32]; exact z9q p hs k (i+1) om
theorem zil {body:Nat->Unit->Option (Step Unit ρ)} {c:ρ} (p:Nat->Bool) (hs:∀ i,i<n->body i ()=some (if p i=true then .ret c else .cont ())) :
  rangeM body n 0 ()=some (if (List.range n).any p=true then .ret c else .next ()):=by
 have:=z9q p hs n 0 (y14 n)
 rwa [<- List.range_eq_range'] at this
theorem z15 {step:σ->Option (Step σ ρ)} (m:σ->Nat) (I J:σ->Prop) (hs:∀ s,I s->(∃ s',step s=some (.cont s')/\I s'/\m s'<m s)\/∃ s',step s=some (.brk s')/\J s') :
  ∀ (n:Nat) (s:σ),m s<n->I s->∃ s',iterM step s=some (.next s')/\J s'
 | 0,s,hn,_=>om
 | n+1,s,hn,h=>by
  rw[z1s]
  rcases hs s h with ⟨s',h1,h2,h3⟩ | ⟨s',h1,h2⟩
  ·obtain⟨s2,h4,h5⟩:=z15 m I J hs n s' om h2
   exact⟨s2,by rw[h1]; exact h4,h5⟩
  ·exact⟨s',by rw[h1],h2⟩
end
variable {α:Type} {k:Option α}
theorem zcu {p:Prop} {r:α} (hp:p) (h:k=some r):guardP p k=some r:=by rw[z8 hp,h]
theorem zf (a b:Bool):(bif a then b else false)=(a&&b):=by cases a <;> rfl
theorem zi (a b:Bool):(cO a b)=(a||b):=by cases a <;> rfl
theorem wrapId {n:Int} (h1:-9223372036854775808<=n) (h2:n<9223372036854775808):i64.wrap n=n:=z35 om om
variable {gs:List Prop} {d:α}
theorem z17 (h:AllP gs):optD gs k d=k:=by unfold optD; rw[y9 h]
theorem zx (h:¬ AllP gs):optD gs k d=some d:=by unfold optD; rw[y8 h]
theorem Ga {α:Type} {p:Prop} {k:Option α} (h:p:=by omega):guardP (AllP [p]) k=k:=z8 ⟨h,trivial⟩
theorem Gd {α:Type} {p:Prop} {k:Option α} (h:p:=by decide):guardP (AllP [p]) k=k:=z8 ⟨h,trivial⟩
theorem Gb {α:Type} {p q:Prop} {k:Option α} (h:p:=by omega) (i:q:=by omega):guardP (AllP [p,q]) k=k:=z8 ⟨h,i,trivial⟩
theorem Gc {α:Type} {p q r:Prop} {k:Option α} (h:p:=by omega) (i:q:=by omega) (j:r:=by omega):guardP (AllP [p,q,r]) k=k:=z8 ⟨h,i,j,trivial⟩
theorem Ge {α:Type} {p:Prop} {k:Option α} (h:p:=by simp only[AllP,y43]; omega):guardP p k=k:=z8 h
theorem Gg {α:Type} {gs:List Prop} {k:Option α} {d:α} (h:AllP gs:=by simp[AllP]):optD gs k d=k:=z17 h
theorem Gh {α:Type} {gs:List Prop} {k:Option α} {d:α} (h:¬ AllP gs:=by simp[AllP]):optD gs k d=some d:=zx h
theorem z8b (n:Int):i64.wrap n=(n+9223372036854775808) % 18446744073709551616-9223372036854775808:=by
 have e1:i64.bits=64:=rfl
 have e2:i64.signed=true:=rfl
 simp only[IntKind.wrap,e1,e2,y59,ya]
 split <;> omega
theorem z59 {a b:Int} (h:(a-b) % 18446744073709551616=0):i64.wrap a=i64.wrap b:=by
 rw[z8b,z8b]; omega
theorem z7d (a:Int):(i64.wrap a-a) % 18446744073709551616=0:=by rw[z8b]; omega
theorem zcv (a b:Int):i64.wrap (i64.wrap a+b)=i64.wrap (a+b):=z59 (by have:=z7d a; omega)
theorem zcw (a b:Int):i64.wrap (a+i64.wrap b)=i64.wrap (a+b):=z59 (by have:=z7d b; omega)
theorem z41 (a b:Int):i64.wrap (i64.wrap a-b)=i64.wrap (a-b):=z59 (by have:=z7d a; omega)
theorem z8c (a b:Int):i64.wrap (a-i64.wrap b)=i64.wrap (a-b):=z59 (by have:=z7d b; omega)
variable {i:Nat}
section
variable {α:Type}
def sm (l:List α) (p:α->Bool) (f:α->Int):Int:=match l with
 | []=>0
 | x :: l=>(if p x=true then f x else 0)+sm l p f
theorem zb4 (p:α->Bool) (f:α->Int):sm [] p f=0:=rfl
theorem z13 (x:α) (l:List α) (p:α->Bool) (f:α->Int):sm (x :: l) p f=(if p x=true then f x else 0)+sm l p f:=rfl
theorem z6b (l l':List α) (p:α->Bool) (f:α->Int):sm (l++l') p f=sm l p f+sm l' p f:=by
 induction l with
 | nil=>simp[sm]
 | cons x l ih=>simp only[y21,z13,ih]; omega
theorem z7e {l:List α} {p q:α->Bool} {f g:α->Int} (h:∀ x∈l,(if p x=true then f x else 0)=if q x=true then g x else 0):sm l p f=sm l q g:=by
 induction l with
 | nil=>rfl
 | cons x l ih=>rw[z13,z13,ih fun y hy=>h y (by simp[hy]),h x sj]
theorem zcx {l:List α} {p:α->Bool} {f:α->Int} (h:∀ x∈l,0<=f x):0<=sm l p f:=by
 induction l with
 | nil=>simp[sm]
 | cons x l ih =>
  rw[z13]
  have h1:=ih fun y hy=>h y (by simp[hy])
  have h2:=h x sj
  split <;> omega
theorem zqa {l:List α} {p:α->Bool} {f:α->Int} {c:Int} (h:∀ x∈l,f x<=c) (hc:0<=c):sm l p f<=l.length * c:=by
 induction l with
 | nil=>simp[sm]
 | cons x l ih =>
  rw[z13]
  have h1:=ih fun y hy=>h y (by simp[hy])
  have h2:=h x sj
  have h3:((x :: l).length:Int) * c=c+l.length * c:=by simp only[yd]; rw[Int.natCast_add,Int.add_mul]; omega
  rw[h3]
  split <;> omega
theorem zpo (l:List α) (p:α->Bool) (f g:α->Int):sm l p (fun x=>f x-g x)=sm l p f-sm l p g:=by
 induction l with
 | nil=>simp[sm]
 | cons x l ih=>simp only[z13,ih]; split <;> omega
theorem zoe {l:List α} {p:α->Bool} {f g:α->Int} (h:∀ x∈l,f x<=g x):sm l p f<=sm l p g:=by
 induction l with
 | nil=>simp[sm]
 | cons x l ih =>
  rw[z13,z13]
  have h1:=ih fun y hy=>h y (by simp[hy])
  have h2:=h x sj
  split <;> omega
theorem zev {l:List α} (hi:i<l.length) (y:α) (p:α->Bool) (f:α->Int) (d:α):sm (l.set i y) p f=sm l p f-(if p (l.getD i d)=true then f (l.getD i d) else 0)+if p y=true then f y else 0:=by
 induction l generalizing i with
 | nil=>simp at hi
 | cons x l ih =>
  cases i with
  | zero=>simp only[y4d,z13,y3g]; omega
  | succ i =>
   simp only[y4e,z13,y2v]
   rw[ih (by simpa using hi)]
   omega
variable {σ ρ:Type}
theorem z8d [Inhabited α] {body:Nat->σ->Option (Step σ ρ)} (l:List α) (g:σ->α->σ) (hs:∀ i s,i<l.length->body i s=some (.cont (g s (l.getD i dF)))) :
  ∀ (k i:Nat) (s:σ),i+k=l.length->rangeM body k i s=some (.next ((l.drop i).foldl g s))
 | 0,i,s,hk=>by rw[y1f om]; simp[rangeM]
 | k+1,i,s,hk=>by
  have hi:i<l.length:=om
  rw[y19 hi]
  simp only[rangeM,hs i s hi,y34]
  rw[z8d l g hs k (i+1) _ om]
  simp[List.getD_eq_getElem?_getD,List.getElem?_eq_getElem hi]
theorem z21 [Inhabited α] {body:Nat->σ->Option (Step σ ρ)} (l:List α) (g:σ->α->σ) {s:σ} (hs:∀ i s,i<l.length->body i s=some (.cont (g s (l.getD i dF)))) :
  rangeM body l.length 0 s=some (.next (l.foldl g s)):=by
 rw[z8d l g hs l.length 0 s (y14 _)]; rfl
theorem z9r {body:Nat->Unit->Option (Step Unit ρ)} {n:Nat} {c:ρ} (p:Nat->Prop) (hy:∀ i,i<n->p i->body i ()=some (.cont ())) (hn:∀ i,i<n->¬ p i->body i ()=some (.ret c)) :
  ∀ (k i:Nat),i+k=n->((∀ j,i<=j->j<n->p j)->rangeM body k i ()=some (.next ()))/\((¬ ∀ j,i<=j->j<n->p j)->rangeM body k i ()=some (.ret c))
 | 0,i,hk=>⟨fun _=>rfl,fun h=>absurd (fun j h1 h2=>om) h⟩
 | k+1,i,hk=>by
  obtain⟨h1,h2⟩:=z9r p hy hn k (i+1) om
  by_cases hp:p i
  ·simp only[rangeM,hy i om hp]
   exact⟨fun h=>h1 fun j a b=>h j om b,fun h=>h2 fun h'=>h fun j a b=>by
    by_cases e:j=i
    ·rw[e]; exact hp
    ·exact h' j om b⟩
  ·simp only[rangeM,hn i om hp]
   exact⟨fun h=>absurd (h i om om) hp,fun _=>trivial⟩
theorem zt {body:Nat->Unit->Option (Step Unit ρ)} {c:ρ} (p:Nat->Prop) (hy:∀ i,i<n->p i->body i ()=some (.cont ())) (hn:∀ i,i<n->¬ p i->body i ()=some (.ret c)) :
  ((∀ j,j<n->p j)->rangeM body n 0 ()=some (.next ()))/\((¬ ∀ j,j<n->p j)->rangeM body n 0 ()=some (.ret c)):=by
 obtain⟨h1,h2⟩:=z9r p hy hn n 0 (y14 n)
 exact⟨fun h=>h1 fun j _ b=>h j b,fun h=>h2 fun h'=>h fun j b=>h' j om b⟩
theorem z8e (l:List α) (p:α->Bool) (f:α->Int) (a:Int):l.foldl (fun s x=>if p x=true then i64.wrap (s+f x) else s) (i64.wrap a)=i64.wrap (a+sm l p f):=by
 induction l generalizing a with
 | nil=>simp[sm]
 | cons x l ih =>
  rw[y34,z13]
  split
  ·rw[zcv,ih]; congr 1; omega
  ·rw[ih]; congr 1; omega
theorem z8f (l:List α) (p:α->Bool) (f:α->Int) (a:Int):l.foldl (fun s x=>if p x=true then i64.wrap (s-f x) else s) (i64.wrap a)=i64.wrap (a-sm l p f):=by
 induction l generalizing a with
 | nil=>simp[sm]
 | cons x l ih =>
  rw[y34,z13]
  split
  ·rw[z41,ih]; congr 1; omega
  ·rw[ih]; congr 1; omega
theorem zk [Inhabited α] {l:List α} (h:i<l.length):l.getD i dF∈l:=by
 rw[yb,yc h]
 exact y42 _
theorem z1j [Inhabited α] {l:List α} {x:α} (h:x∈l):∃ i,i<l.length/\l.getD i dF=x:=by
 obtain⟨i,hi,e⟩:=List.mem_iff_getElem.mp h
 exact⟨i,hi,by rw[yb,yc hi]; exact e⟩
end
theorem obind {β:Type} (x:α) (f:α->Option β):(some x).bind f=f x:=rfl
def splitU (c:UInt8):Y8->List Y8
 | []=>[[]]
 | b :: l=>if b=c then [] :: splitU c l else match splitU c l with
  | []=>[[b]]
  | x :: r=>(b :: x) :: r
theorem zcy (c:UInt8) (l:Y8):splitU c l≠[]:=by
 cases l with
 | nil=>simp[splitU]
 | cons b l =>
  simp only[splitU]
  split
  ·simp
  ·split <;> simp
theorem z6l {c:UInt8}:∀ {l:Y8},c ∉ l->splitU c l=[l]
 | [],_=>rfl
 | b :: l,h=>by
  have hb:b≠c:=fun e=>h (e▸y1h ..)
  simp only[splitU,y8 hb,z6l (fun k=>h (y17 _ k))]
theorem z7f {c:UInt8}:∀ {l:Y8} (r:Y8),c ∉ l->splitU c (l++c :: r)=l :: splitU c r
 | [],r,_=>by simp[splitU]
 | b :: l,r,h=>by
  have hb:b≠c:=fun e=>h (e▸y1h ..)
  simp only[y21,splitU,y8 hb,z7f r (fun k=>h (y17 _ k))]
theorem z4l (c:UInt8):∀ l:Y8,∀ x∈splitU c l,x.length<=l.length
 | [],x,h=>by simp[splitU] at h; simp[h]
 | b :: l,x,h=>by
  have ih:=z4l c l
  simp only[splitU] at h
  split at h
  ·rcases yu.1 h with rfl | h
   ·simp
   ·have:=ih x h; simp; omega
  ·split at h
   ·rename_i e; exact absurd e (zcy c l)
   ·rename_i y r e
    rw[e] at ih
    rcases yu.1 h with rfl | h
    ·have:=ih y (y1h ..); simp; omega
    ·have:=ih x (y17 _ h); simp; omega
theorem z9s {c:UInt8}:∀ {l:List Y8} {x:Y8},(∀ y∈x :: l,c ∉ y)->splitU c (Lib.join (x :: l) [c])=x :: l
 | [],x,h=>by
  rw[Lib.join_cons]
  rw[show Lib.joinTail [c] ([]:List Y8)=[] from rfl,y3d]
  exact z6l (h x (y1h ..))
 | y :: l,x,h=>by
  rw[Lib.join_cons]
  have e:Lib.joinTail [c] (y :: l)=c :: Lib.join (y :: l) [c]:=by
   rw[Lib.join_cons]
   simp[Lib.joinTail]
  rw[e,z7f _ (h x (y1h ..)),z9s fun z hz=>h z (y17 _ hz)]
theorem z7v (c:UInt8):∀ l:Y8,(splitU c l).length=l.count c+1
 | []=>by simp[splitU]
 | b :: l=>by
  have ih:=z7v c l
  simp only[splitU]
  by_cases h:b=c
  ·subst h
   rw[y9 rfl,yd,ih,List.count_cons_self]
  ·rw[y8 h,List.count_cons_of_ne h]
   split
   ·rename_i e; exact absurd e (zcy c l)
   ·rename_i y r e; rw[e] at ih; simpa using ih
theorem zim (c:UInt8) (l:Y8):(splitU c l).length<=l.length+1:=by
 rw[z7v]
 exact Nat.succ_le_succ List.count_le_length
end Go.TA
