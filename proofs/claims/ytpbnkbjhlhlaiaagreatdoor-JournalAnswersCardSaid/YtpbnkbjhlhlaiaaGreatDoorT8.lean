/- A part of the proof: laws over any program of the abstract machine. No condition. -/
import Derived.Test.YtpbnkbjhlhlaiaaGreatDoorT3
import Derived.Lib.Join
namespace Go.TA
open Go
open Go.IntKind (i64)
variable {n:Nat}
section
variable {σ ρ:Type}
theorem zbk {body:Nat->σ->Option (Step σ ρ)} {n:Nat} (I:Nat->σ->Prop) (hs:∀ i s,i<n->I i s->∃ s',body i s=some (.cont s')/\I (i+1) s') :
  ∀ (k i:Nat) (s:σ),i+k=n->I i s->∃ s',rangeM body k i s=some (.next s')/\I n s'
 | 0,i,s,hk,h=>⟨s,rfl,by have:i=n:=om; subst this; exact h⟩
 | k+1,i,s,hk,h=>by
  obtain⟨s1,h1,h2⟩:=hs i s om h
  obtain⟨s2,h3,h4⟩:=zbk I hs k (i+1) s1 om h2
  exact⟨s2,by simp only[rangeM,h1,h3],h4⟩
theorem z25 {body:Nat->σ->Option (Step σ ρ)} (I:Nat->σ->Prop) {s0:σ} (h0:I 0 s0) (hs:∀ i s,i<n->I i s->∃ s',body i s=some (.cont s')/\I (i+1) s') :
  ∃ s',rangeM body n 0 s0=some (.next s')/\I n s':=zbk I hs n 0 s0 (y1a n) h0
theorem z4s {step:σ->Option (Step σ ρ)} (m:σ->Nat) (I J:σ->Prop) (hs:∀ s,I s->(∃ s',step s=some (.cont s')/\I s'/\m s'<m s)\/∃ s',step s=some (.brk s')/\J s') :
  ∀ (n:Nat) (s:σ),m s<n->I s->∃ s',iterM step s=some (.next s')/\J s'
 | 0,s,hn,_=>om
 | n+1,s,hn,h=>by
  rw[z1j]
  rcases hs s h with ⟨s',h1,h2,h3⟩ | ⟨s',h1,h2⟩
  ·obtain⟨s2,h4,h5⟩:=z4s m I J hs n s' om h2
   exact⟨s2,by rw[h1]; exact h4,h5⟩
  ·exact⟨s',by rw[h1],h2⟩
end
variable {α:Type} {k:Option α}
theorem zep {p:Prop} {r:α} (hp:p) (h:k=some r):guardP p k=some r:=by rw[z6 hp,h]
variable {β:Type}
theorem zav {x:Option α} {f:α->Option β} {a:α} {r:β} (hx:x=some a) (h:f a=some r):x.bind f=some r:=by rw[hx]; exact h
theorem zj (a b:Bool):(bif a then b else false)=(a&&b):=by cases a <;> rfl
theorem zb (a b:Bool):(cO a b)=(a||b):=by cases a <;> rfl
theorem wrapId {n:Int} (h1:-9223372036854775808<=n) (h2:n<9223372036854775808):i64.wrap n=n:=wrap_i64 om om
variable {gs:List Prop} {d:α}
theorem zg (h:AllP gs):optD gs k d=k:=by unfold optD; rw[y7 h]
theorem zr (h:¬ AllP gs):optD gs k d=some d:=by unfold optD; rw[y6 h]
theorem z9v (n:Int):i64.wrap n=(n+9223372036854775808) % 18446744073709551616-9223372036854775808:=by
 have e1:i64.bits=64:=rfl
 have e2:i64.signed=true:=rfl
 simp only[IntKind.wrap,e1,e2,y5c,y8]
 split <;> omega
theorem z6i {a b:Int} (h:(a-b) % 18446744073709551616=0):i64.wrap a=i64.wrap b:=by
 rw[z9v,z9v]; omega
theorem z8m (a:Int):(i64.wrap a-a) % 18446744073709551616=0:=by rw[z9v]; omega
theorem zeq (a b:Int):i64.wrap (i64.wrap a+b)=i64.wrap (a+b):=z6i (by have:=z8m a; omega)
theorem zer (a b:Int):i64.wrap (a+i64.wrap b)=i64.wrap (a+b):=z6i (by have:=z8m b; omega)
theorem z4t (a b:Int):i64.wrap (i64.wrap a-b)=i64.wrap (a-b):=z6i (by have:=z8m a; omega)
theorem z9w (a b:Int):i64.wrap (a-i64.wrap b)=i64.wrap (a-b):=z6i (by have:=z8m b; omega)
variable {i:Nat}
section
variable {α:Type}
def sm (l:List α) (p:α->Bool) (f:α->Int):Int:=match l with
 | []=>0
 | x :: l=>(if p x=true then f x else 0)+sm l p f
theorem zd1 (p:α->Bool) (f:α->Int):sm [] p f=0:=rfl
theorem zw (x:α) (l:List α) (p:α->Bool) (f:α->Int):sm (x :: l) p f=(if p x=true then f x else 0)+sm l p f:=rfl
theorem z7f (l l':List α) (p:α->Bool) (f:α->Int):sm (l++l') p f=sm l p f+sm l' p f:=by
 induction l with
 | nil=>simp[sm]
 | cons x l ih=>simp only[y30,zw,ih]; omega
theorem z8n {l:List α} {p q:α->Bool} {f g:α->Int} (h:∀ x∈l,(if p x=true then f x else 0)=if q x=true then g x else 0):sm l p f=sm l q g:=by
 induction l with
 | nil=>rfl
 | cons x l ih=>rw[zw,zw,ih fun y hy=>h y (by simp[hy]),h x sj]
theorem zes {l:List α} {p:α->Bool} {f:α->Int} (h:∀ x∈l,0<=f x):0<=sm l p f:=by
 induction l with
 | nil=>simp[sm]
 | cons x l ih =>
  rw[zw]
  have h1:=ih fun y hy=>h y (by simp[hy])
  have h2:=h x sj
  split <;> omega
theorem zsj {l:List α} {p:α->Bool} {f:α->Int} {c:Int} (h:∀ x∈l,f x<=c) (hc:0<=c):sm l p f<=l.length * c:=by
 induction l with
 | nil=>simp[sm]
 | cons x l ih =>
  rw[zw]
  have h1:=ih fun y hy=>h y (by simp[hy])
  have h2:=h x sj
  have h3:((x :: l).length:Int) * c=c+l.length * c:=by simp only[yf]; rw[Int.natCast_add,Int.add_mul]; omega
  rw[h3]
  split <;> omega
theorem zs4 (l:List α) (p:α->Bool) (f g:α->Int):sm l p (fun x=>f x-g x)=sm l p f-sm l p g:=by
 induction l with
 | nil=>simp[sm]
 | cons x l ih=>simp only[zw,ih]; split <;> omega
theorem zqm {l:List α} {p:α->Bool} {f g:α->Int} (h:∀ x∈l,f x<=g x):sm l p f<=sm l p g:=by
 induction l with
 | nil=>simp[sm]
 | cons x l ih =>
  rw[zw,zw]
  have h1:=ih fun y hy=>h y (by simp[hy])
  have h2:=h x sj
  split <;> omega
theorem zgw {l:List α} (hi:i<l.length) (y:α) (p:α->Bool) (f:α->Int) (d:α):sm (l.set i y) p f=sm l p f-(if p (l.getD i d)=true then f (l.getD i d) else 0)+if p y=true then f y else 0:=by
 induction l generalizing i with
 | nil=>simp at hi
 | cons x l ih =>
  cases i with
  | zero=>simp only[y4e,zw,y47]; omega
  | succ i =>
   simp only[y4f,zw,y3g]
   rw[ih (by simpa using hi)]
   omega
variable {σ ρ:Type}
theorem z9x [Inhabited α] {body:Nat->σ->Option (Step σ ρ)} (l:List α) (g:σ->α->σ) (hs:∀ i s,i<l.length->body i s=some (.cont (g s (l.getD i dF)))) :
  ∀ (k i:Nat) (s:σ),i+k=l.length->rangeM body k i s=some (.next ((l.drop i).foldl g s))
 | 0,i,s,hk=>by rw[y1e om]; simp[rangeM]
 | k+1,i,s,hk=>by
  have hi:i<l.length:=om
  rw[y12 hi]
  simp only[rangeM,hs i s hi,y2l]
  rw[z9x l g hs k (i+1) _ om]
  simp[List.getD_eq_getElem?_getD,List.getElem?_eq_getElem hi]
theorem z28 [Inhabited α] {body:Nat->σ->Option (Step σ ρ)} (l:List α) (g:σ->α->σ) {s:σ} (hs:∀ i s,i<l.length->body i s=some (.cont (g s (l.getD i dF)))) :
  rangeM body l.length 0 s=some (.next (l.foldl g s)):=by
 rw[z9x l g hs l.length 0 s (y1a _)]; rfl
theorem zbl {body:Nat->Unit->Option (Step Unit ρ)} {n:Nat} {c:ρ} (p:Nat->Prop) (hy:∀ i,i<n->p i->body i ()=some (.cont ())) (hn:∀ i,i<n->¬ p i->body i ()=some (.ret c)) :
  ∀ (k i:Nat),i+k=n->((∀ j,i<=j->j<n->p j)->rangeM body k i ()=some (.next ()))/\((¬ ∀ j,i<=j->j<n->p j)->rangeM body k i ()=some (.ret c))
 | 0,i,hk=>⟨fun _=>rfl,fun h=>absurd (fun j h1 h2=>om) h⟩
 | k+1,i,hk=>by
  obtain⟨h1,h2⟩:=zbl p hy hn k (i+1) om
  by_cases hp:p i
  ·simp only[rangeM,hy i om hp]
   exact⟨fun h=>h1 fun j a b=>h j om b,fun h=>h2 fun h'=>h fun j a b=>by
    by_cases e:j=i
    ·rw[e]; exact hp
    ·exact h' j om b⟩
  ·simp only[rangeM,hn i om hp]
   exact⟨fun h=>absurd (h i om om) hp,fun _=>trivial⟩
theorem zy {body:Nat->Unit->Option (Step Unit ρ)} {c:ρ} (p:Nat->Prop) (hy:∀ i,i<n->p i->body i ()=some (.cont ())) (hn:∀ i,i<n->¬ p i->body i ()=some (.ret c)) :
  ((∀ j,j<n->p j)->rangeM body n 0 ()=some (.next ()))/\((¬ ∀ j,j<n->p j)->rangeM body n 0 ()=some (.ret c)):=by
 obtain⟨h1,h2⟩:=zbl p hy hn n 0 (y1a n)
 exact⟨fun h=>h1 fun j _ b=>h j b,fun h=>h2 fun h'=>h fun j b=>h' j om b⟩
theorem z9y (l:List α) (p:α->Bool) (f:α->Int) (a:Int):l.foldl (fun s x=>if p x=true then i64.wrap (s+f x) else s) (i64.wrap a)=i64.wrap (a+sm l p f):=by
 induction l generalizing a with
 | nil=>simp[sm]
 | cons x l ih =>
  rw[y2l,zw]
  split
  ·rw[zeq,ih]; congr 1; omega
  ·rw[ih]; congr 1; omega
theorem z9z (l:List α) (p:α->Bool) (f:α->Int) (a:Int):l.foldl (fun s x=>if p x=true then i64.wrap (s-f x) else s) (i64.wrap a)=i64.wrap (a-sm l p f):=by
 induction l generalizing a with
 | nil=>simp[sm]
 | cons x l ih =>
  rw[y2l,zw]
  split
  ·rw[z4t,ih]; congr 1; omega
  ·rw[ih]; congr 1; omega
theorem zd [Inhabited α] {l:List α} (h:i<l.length):l.getD i dF∈l:=by
 rw[y9,ya h]
 exact y4s _
theorem z1s [Inhabited α] {l:List α} {x:α} (h:x∈l):∃ i,i<l.length/\l.getD i dF=x:=by
 obtain⟨i,hi,e⟩:=List.mem_iff_getElem.mp h
 exact⟨i,hi,by rw[y9,ya hi]; exact e⟩
end
theorem obind (x:α) (f:α->Option β):(some x).bind f=f x:=rfl
def splitU (c:UInt8):Y8->List Y8
 | []=>[[]]
 | b :: l=>if b=c then [] :: splitU c l else match splitU c l with
  | []=>[[b]]
  | x :: r=>(b :: x) :: r
theorem z63 (c:UInt8) (l:Y8):splitU c l≠[]:=by
 cases l with
 | nil=>simp[splitU]
 | cons b l =>
  simp only[splitU]
  split
  ·simp
  ·split <;> simp
theorem z47 {c:UInt8}:∀ {l:Y8},c ∉ l->splitU c l=[l]
 | [],_=>rfl
 | b :: l,h=>by
  have hb:b≠c:=fun e=>h (e▸y13 ..)
  simp only[splitU,y6 hb,z47 (fun k=>h (yo _ k))]
theorem z56 {c:UInt8}:∀ {l:Y8} (r:Y8),c ∉ l->splitU c (l++c :: r)=l :: splitU c r
 | [],r,_=>by simp[splitU]
 | b :: l,r,h=>by
  have hb:b≠c:=fun e=>h (e▸y13 ..)
  simp only[y30,splitU,y6 hb,z56 r (fun k=>h (yo _ k))]
theorem z2n (c:UInt8):∀ l:Y8,∀ x∈splitU c l,x.length<=l.length
 | [],x,h=>by simp[splitU] at h; simp[h]
 | b :: l,x,h=>by
  have ih:=z2n c l
  simp only[splitU] at h
  split at h
  ·rcases yh.1 h with rfl | h
   ·simp
   ·have:=ih x h; simp; omega
  ·split at h
   ·rename_i e; exact absurd e (z63 c l)
   ·rename_i y r e
    rw[e] at ih
    rcases yh.1 h with rfl | h
    ·have:=ih y (y13 ..); simp; omega
    ·have:=ih x (yo _ h); simp; omega
theorem zbm {c:UInt8}:∀ {l:List Y8} {x:Y8},(∀ y∈x :: l,c ∉ y)->splitU c (Lib.join (x :: l) [c])=x :: l
 | [],x,h=>by
  rw[Lib.join_cons]
  rw[show Lib.joinTail [c] ([]:List Y8)=[] from rfl,y2v]
  exact z47 (h x (y13 ..))
 | y :: l,x,h=>by
  rw[Lib.join_cons]
  have e:Lib.joinTail [c] (y :: l)=c :: Lib.join (y :: l) [c]:=by
   rw[Lib.join_cons]
   simp[Lib.joinTail]
  rw[e,z56 _ (h x (y13 ..)),zbm fun z hz=>h z (yo _ hz)]
theorem z9h (c:UInt8):∀ l:Y8,(splitU c l).length=l.count c+1
 | []=>by simp[splitU]
 | b :: l=>by
  have ih:=z9h c l
  simp only[splitU]
  by_cases h:b=c
  ·subst h
   rw[y7 rfl,yf,ih,List.count_cons_self]
  ·rw[y6 h,List.count_cons_of_ne h]
   split
   ·rename_i e; exact absurd e (z63 c l)
   ·rename_i y r e; rw[e] at ih; simpa using ih
theorem z3w (c:UInt8) (l:Y8):(splitU c l).length<=l.length+1:=by
 rw[z9h]
 exact Nat.succ_le_succ List.count_le_length
theorem za0 {c:UInt8}:∀ (ls:List Y8) (r:Y8),(∀ y∈ls,c ∉ y)->splitU c (ls.flatMap (fun y=>y++[c])++r)=ls++splitU c r
 | [],r,_=>rfl
 | x :: ls,r,h=>by
  rw[y5d,y1v,y1v,List.singleton_append,z56 _ (h x (y13 ..)),za0 ls r fun y hy=>h y (yo _ hy)]
  rfl
end Go.TA
