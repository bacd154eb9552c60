/- A part of the proof: laws over any program of the abstract machine. No condition. -/
import Derived.Test.YtgbpiaddmclccaaGreatDoorT2
namespace Go.TA
open Go
open Go.IntKind (i64)
variable {n:Nat}
section
variable {σ ρ:Type}
theorem zck {body:Nat->σ->Option (Step σ ρ)} {n:Nat} (I:Nat->σ->Prop) (hs:∀ i s,i<n->I i s->∃ s',body i s=some (.cont s')/\I (i+1) s') :
  ∀ (k i:Nat) (s:σ),i+k=n->I i s->∃ s',rangeM body k i s=some (.next s')/\I n s'
 | 0,i,s,hk,h=>⟨s,rfl,by have:i=n:=om; subst this; exact h⟩
 | k+1,i,s,hk,h=>by
  obtain⟨s1,h1,h2⟩:=hs i s om h
  obtain⟨s2,h3,h4⟩:=zck I hs k (i+1) s1 om h2
  exact⟨s2,by simp only[rangeM,h1,h3],h4⟩
theorem zr {body:Nat->σ->Option (Step σ ρ)} (I:Nat->σ->Prop) {s0:σ} (h0:I 0 s0) (hs:∀ i s,i<n->I i s->∃ s',body i s=some (.cont s')/\I (i+1) s') :
  ∃ s',rangeM body n 0 s0=some (.next s')/\I n s':=zck I hs n 0 s0 (yl n) h0
theorem z1n {step:σ->Option (Step σ ρ)} (m:σ->Nat) (I J:σ->Prop) (hs:∀ s,I s->(∃ s',step s=some (.cont s')/\I s'/\m s'<m s)\/∃ s',step s=some (.brk s')/\J s') :
  ∀ (n:Nat) (s:σ),m s<n->I s->∃ s',iterM step s=some (.next s')/\J s'
 | 0,s,hn,_=>om
 | n+1,s,hn,h=>by
  rw[z2j]
  rcases hs s h with ⟨s',h1,h2,h3⟩ | ⟨s',h1,h2⟩
  ·obtain⟨s2,h4,h5⟩:=z1n m I J hs n s' om h2
   exact⟨s2,by rw[h1]; exact h4,h5⟩
  ·exact⟨s',by rw[h1],h2⟩
end
variable {α:Type} {k:Option α}
theorem zgn {p:Prop} {r:α} (hp:p) (h:k=some r):guardP p k=some r:=by rw[z6 hp,h]
variable {β:Type}
theorem zbv {x:Option α} {f:α->Option β} {a:α} {r:β} (hx:x=some a) (h:f a=some r):x.bind f=some r:=by rw[hx]; exact h
theorem za (a b:Bool):(bif a then b else false)=(a&&b):=by cases a <;> rfl
theorem z8 (a b:Bool):(cO a b)=(a||b):=by cases a <;> rfl
theorem wrapId {n:Int} (h1:-9223372036854775808<=n) (h2:n<9223372036854775808):i64.wrap n=n:=z3n om om
variable {gs:List Prop} {d:α}
theorem zg (h:AllP gs):optD gs k d=k:=by unfold optD; rw[y6 h]
theorem zj (h:¬ AllP gs):optD gs k d=some d:=by unfold optD; rw[y5 h]
theorem Ga {α:Type} {p:Prop} {k:Option α} (h:p:=by omega):guardP (AllP [p]) k=k:=z6 ⟨h,trivial⟩
theorem Gd {α:Type} {p:Prop} {k:Option α} (h:p:=by decide):guardP (AllP [p]) k=k:=z6 ⟨h,trivial⟩
theorem Gb {α:Type} {p q:Prop} {k:Option α} (h:p:=by omega) (i:q:=by omega):guardP (AllP [p,q]) k=k:=z6 ⟨h,i,trivial⟩
theorem Gc {α:Type} {p q r:Prop} {k:Option α} (h:p:=by omega) (i:q:=by omega) (j:r:=by omega):guardP (AllP [p,q,r]) k=k:=z6 ⟨h,i,j,trivial⟩
theorem Ge {α:Type} {p:Prop} {k:Option α} (h:p:=by simp only[AllP,y16]; omega):guardP p k=k:=z6 h
theorem Gf {α:Type} {p:Prop} {k:Option α} (h:p:=by simp only[AllP,y16,yh]; omega):guardP p k=k:=z6 h
theorem Gg {α:Type} {gs:List Prop} {k:Option α} {d:α} (h:AllP gs:=by simp[AllP]):optD gs k d=k:=zg h
theorem Gh {α:Type} {gs:List Prop} {k:Option α} {d:α} (h:¬ AllP gs:=by simp[AllP]):optD gs k d=some d:=zj h
theorem zaz (n:Int):i64.wrap n=(n+9223372036854775808) % 18446744073709551616-9223372036854775808:=by
 have e1:i64.bits=64:=rfl
 have e2:i64.signed=true:=rfl
 simp only[IntKind.wrap,e1,e2,y49,y7]
 split <;> omega
theorem z6r {a b:Int} (h:(a-b) % 18446744073709551616=0):i64.wrap a=i64.wrap b:=by
 rw[zaz,zaz]; omega
theorem z9n (a:Int):(i64.wrap a-a) % 18446744073709551616=0:=by rw[zaz]; omega
theorem z6b (a b:Int):i64.wrap (i64.wrap a+b)=i64.wrap (a+b):=z6r (by have:=z9n a; omega)
theorem zb0 (a b:Int):i64.wrap (a+i64.wrap b)=i64.wrap (a+b):=z6r (by have:=z9n b; omega)
theorem z33 (a b:Int):i64.wrap (i64.wrap a-b)=i64.wrap (a-b):=z6r (by have:=z9n a; omega)
theorem z4q (a b:Int):i64.wrap (a-i64.wrap b)=i64.wrap (a-b):=z6r (by have:=z9n b; omega)
variable {i:Nat}
section
variable {α:Type}
def sm (l:List α) (p:α->Bool) (f:α->Int):Int:=match l with
 | []=>0
 | x :: l=>(if p x=true then f x else 0)+sm l p f
theorem ze4 (p:α->Bool) (f:α->Int):sm [] p f=0:=rfl
theorem z19 (x:α) (l:List α) (p:α->Bool) (f:α->Int):sm (x :: l) p f=(if p x=true then f x else 0)+sm l p f:=rfl
theorem z7x (l l':List α) (p:α->Bool) (f:α->Int):sm (l++l') p f=sm l p f+sm l' p f:=by
 induction l with
 | nil=>simp[sm]
 | cons x l ih=>simp only[y3r,z19,ih]; omega
theorem z9o {l:List α} {p q:α->Bool} {f g:α->Int} (h:∀ x∈l,(if p x=true then f x else 0)=if q x=true then g x else 0):sm l p f=sm l q g:=by
 induction l with
 | nil=>rfl
 | cons x l ih=>rw[z19,z19,ih fun y hy=>h y (by simp[hy]),h x sj]
theorem zgo {l:List α} {p:α->Bool} {f:α->Int} (h:∀ x∈l,0<=f x):0<=sm l p f:=by
 induction l with
 | nil=>simp[sm]
 | cons x l ih =>
  rw[z19]
  have h1:=ih fun y hy=>h y (by simp[hy])
  have h2:=h x sj
  split <;> omega
theorem zwi {l:List α} {p:α->Bool} {f:α->Int} {c:Int} (h:∀ x∈l,f x<=c) (hc:0<=c):sm l p f<=l.length * c:=by
 induction l with
 | nil=>simp[sm]
 | cons x l ih =>
  rw[z19]
  have h1:=ih fun y hy=>h y (by simp[hy])
  have h2:=h x sj
  have h3:((x :: l).length:Int) * c=c+l.length * c:=by simp only[yn]; rw[Int.natCast_add,Int.add_mul]; omega
  rw[h3]
  split <;> omega
theorem zvl (l:List α) (p:α->Bool) (f g:α->Int):sm l p (fun x=>f x-g x)=sm l p f-sm l p g:=by
 induction l with
 | nil=>simp[sm]
 | cons x l ih=>simp only[z19,ih]; split <;> omega
theorem ztp {l:List α} {p:α->Bool} {f g:α->Int} (h:∀ x∈l,f x<=g x):sm l p f<=sm l p g:=by
 induction l with
 | nil=>simp[sm]
 | cons x l ih =>
  rw[z19,z19]
  have h1:=ih fun y hy=>h y (by simp[hy])
  have h2:=h x sj
  split <;> omega
theorem zj0 {l:List α} (hi:i<l.length) (y:α) (p:α->Bool) (f:α->Int) (d:α):sm (l.set i y) p f=sm l p f-(if p (l.getD i d)=true then f (l.getD i d) else 0)+if p y=true then f y else 0:=by
 induction l generalizing i with
 | nil=>simp at hi
 | cons x l ih =>
  cases i with
  | zero=>simp only[y4b,z19,y47]; omega
  | succ i =>
   simp only[y3u,z19,y3d]
   rw[ih (by simpa using hi)]
   omega
variable {σ ρ:Type}
theorem zb1 [Inhabited α] {body:Nat->σ->Option (Step σ ρ)} (l:List α) (g:σ->α->σ) (hs:∀ i s,i<l.length->body i s=some (.cont (g s (l.getD i dF)))) :
  ∀ (k i:Nat) (s:σ),i+k=l.length->rangeM body k i s=some (.next ((l.drop i).foldl g s))
 | 0,i,s,hk=>by rw[y1j om]; simp[rangeM]
 | k+1,i,s,hk=>by
  have hi:i<l.length:=om
  rw[y1g hi]
  simp only[rangeM,hs i s hi,y2y]
  rw[zb1 l g hs k (i+1) _ om]
  simp[List.getD_eq_getElem?_getD,List.getElem?_eq_getElem hi]
theorem z1x [Inhabited α] {body:Nat->σ->Option (Step σ ρ)} (l:List α) (g:σ->α->σ) {s:σ} (hs:∀ i s,i<l.length->body i s=some (.cont (g s (l.getD i dF)))) :
  rangeM body l.length 0 s=some (.next (l.foldl g s)):=by
 rw[zb1 l g hs l.length 0 s (yl _)]; rfl
theorem zcl {body:Nat->Unit->Option (Step Unit ρ)} {n:Nat} {c:ρ} (p:Nat->Prop) (hy:∀ i,i<n->p i->body i ()=some (.cont ())) (hn:∀ i,i<n->¬ p i->body i ()=some (.ret c)) :
  ∀ (k i:Nat),i+k=n->((∀ j,i<=j->j<n->p j)->rangeM body k i ()=some (.next ()))/\((¬ ∀ j,i<=j->j<n->p j)->rangeM body k i ()=some (.ret c))
 | 0,i,hk=>⟨fun _=>rfl,fun h=>absurd (fun j h1 h2=>om) h⟩
 | k+1,i,hk=>by
  obtain⟨h1,h2⟩:=zcl p hy hn k (i+1) om
  by_cases hp:p i
  ·simp only[rangeM,hy i om hp]
   exact⟨fun h=>h1 fun j a b=>h j om b,fun h=>h2 fun h'=>h fun j a b=>by
    by_cases e:j=i
    ·rw[e]; exact hp
    ·exact h' j om b⟩
  ·simp only[rangeM,hn i om hp]
   exact⟨fun h=>absurd (h i om om) hp,fun _=>trivial⟩
theorem zl {body:Nat->Unit->Option (Step Unit ρ)} {c:ρ} (p:Nat->Prop) (hy:∀ i,i<n->p i->body i ()=some (.cont ())) (hn:∀ i,i<n->¬ p i->body i ()=some (.ret c)) :
  ((∀ j,j<n->p j)->rangeM body n 0 ()=some (.next ()))/\((¬ ∀ j,j<n->p j)->rangeM body n 0 ()=some (.ret c)):=by
 obtain⟨h1,h2⟩:=zcl p hy hn n 0 (yl n)
 exact⟨fun h=>h1 fun j _ b=>h j b,fun h=>h2 fun h'=>h fun j b=>h' j om b⟩
theorem zb2 (l:List α) (p:α->Bool) (f:α->Int) (a:Int):l.foldl (fun s x=>if p x=true then i64.wrap (s+f x) else s) (i64.wrap a)=i64.wrap (a+sm l p f):=by
 induction l generalizing a with
 | nil=>simp[sm]
 | cons x l ih =>
  rw[y2y,z19]
  split
  ·rw[z6b,ih]; congr 1; omega
  ·rw[ih]; congr 1; omega
theorem zb3 (l:List α) (p:α->Bool) (f:α->Int) (a:Int):l.foldl (fun s x=>if p x=true then i64.wrap (s-f x) else s) (i64.wrap a)=i64.wrap (a-sm l p f):=by
 induction l generalizing a with
 | nil=>simp[sm]
 | cons x l ih =>
  rw[y2y,z19]
  split
  ·rw[z33,ih]; congr 1; omega
  ·rw[ih]; congr 1; omega
theorem z7 [Inhabited α] {l:List α} (h:i<l.length):l.getD i dF∈l:=by
 rw[y8,yd h]
 exact y55 _
theorem z11 [Inhabited α] {l:List α} {x:α} (h:x∈l):∃ i,i<l.length/\l.getD i dF=x:=by
 obtain⟨i,hi,e⟩:=List.mem_iff_getElem.mp h
 exact⟨i,hi,by rw[y8,yd hi]; exact e⟩
end
theorem obind (x:α) (f:α->Option β):(some x).bind f=f x:=rfl
end Go.TA
