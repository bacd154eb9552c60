/- A part of the proof: laws over any program of the abstract machine. No condition. -/
import Derived.Test.YtiohhffifhaboaaGreatDoorT6
import Derived.Lib.Fields
import Derived.Test.YtiohhffifhaboaaGreatDoorT3
import Derived.Lib.Join
namespace Go.TA
open Go Go.RowKit
end Go.TA
namespace Go.TA
open Go
open Go.IntKind (i64)
variable {n:Nat}
section
variable {σ ρ:Type}
theorem z6q {body:Nat->σ->Option (Step σ ρ)} {n:Nat} (I:Nat->σ->Prop) (hs:∀ i s,i<n->I i s->∃ s',body i s=some (.cont s')/\I (i+1) s') :
  ∀ (k i:Nat) (s:σ),i+k=n->I i s->∃ s',rangeM body k i s=some (.next s')/\I n s'
 | 0,i,s,hk,h=>⟨s,rfl,by have:i=n:=om; subst this; exact h⟩
 | k+1,i,s,hk,h=>by
  obtain⟨s1,h1,h2⟩:=hs i s om h
  obtain⟨s2,h3,h4⟩:=z6q I hs k (i+1) s1 om h2
  exact⟨s2,by simp only[rangeM,h1,h3],h4⟩
theorem z3j {body:Nat->σ->Option (Step σ ρ)} (I:Nat->σ->Prop) {s0:σ} (h0:I 0 s0) (hs:∀ i s,i<n->I i s->∃ s',body i s=some (.cont s')/\I (i+1) s') :
  ∃ s',rangeM body n 0 s0=some (.next s')/\I n s':=z6q I hs n 0 s0 (yz n) h0
theorem z1l {step:σ->Option (Step σ ρ)} (m:σ->Nat) (I J:σ->Prop) (hs:∀ s,I s->(∃ s',step s=some (.cont s')/\I s'/\m s'<m s)\/∃ s',step s=some (.brk s')/\J s') :
  ∀ (n:Nat) (s:σ),m s<n->I s->∃ s',iterM step s=some (.next s')/\J s'
 | 0,s,hn,_=>om
 | n+1,s,hn,h=>by
  rw[z77]
  rcases hs s h with ⟨s',h1,h2,h3⟩ | ⟨s',h1,h2⟩
  ·obtain⟨s2,h4,h5⟩:=z1l m I J hs n s' om h2
   exact⟨s2,by rw[h1]; exact h4,h5⟩
  ·exact⟨s',by rw[h1],h2⟩
end
variable {α:Type} {k:Option α}
theorem z99 {p:Prop} {r:α} (hp:p) (h:k=some r):guardP p k=some r:=by rw[z6 hp,h]
theorem zi (a b:Bool):(bif a then b else false)=(a&&b):=by cases a <;> rfl
theorem z1k (a b:Bool):(cO a b)=(a||b):=by cases a <;> rfl
theorem wrapId {n:Int} (h1:-9223372036854775808<=n) (h2:n<9223372036854775808):i64.wrap n=n:=za9 om om
variable {gs:List Prop} {d:α}
theorem zw (h:AllP gs):optD gs k d=k:=by unfold optD; rw[y5 h]
theorem z1b (h:¬ AllP gs):optD gs k d=some d:=by unfold optD; rw[y3 h]
theorem Ga {α:Type} {p:Prop} {k:Option α} (h:p:=by omega):guardP (AllP [p]) k=k:=z6 ⟨h,trivial⟩
theorem Gd {α:Type} {p:Prop} {k:Option α} (h:p:=by decide):guardP (AllP [p]) k=k:=z6 ⟨h,trivial⟩
theorem Gb {α:Type} {p q:Prop} {k:Option α} (h:p:=by omega) (i:q:=by omega):guardP (AllP [p,q]) k=k:=z6 ⟨h,i,trivial⟩
theorem Gc {α:Type} {p q r:Prop} {k:Option α} (h:p:=by omega) (i:q:=by omega) (j:r:=by omega):guardP (AllP [p,q,r]) k=k:=z6 ⟨h,i,j,trivial⟩
theorem Ge {α:Type} {p:Prop} {k:Option α} (h:p:=by simp only[AllP,y2z]; omega):guardP p k=k:=z6 h
theorem Gg {α:Type} {gs:List Prop} {k:Option α} {d:α} (h:AllP gs:=by simp[AllP]):optD gs k d=k:=zw h
theorem Gh {α:Type} {gs:List Prop} {k:Option α} {d:α} (h:¬ AllP gs:=by simp[AllP]):optD gs k d=some d:=z1b h
theorem z5g (n:Int):i64.wrap n=(n+9223372036854775808) % 18446744073709551616-9223372036854775808:=by
 have e1:i64.bits=64:=rfl
 have e2:i64.signed=true:=rfl
 simp only[IntKind.wrap,e1,e2,Bool.true_and,yj]
 split <;> omega
theorem z3k {a b:Int} (h:(a-b) % 18446744073709551616=0):i64.wrap a=i64.wrap b:=by
 rw[z5g,z5g]; omega
theorem z4y (a:Int):(i64.wrap a-a) % 18446744073709551616=0:=by rw[z5g]; omega
theorem z9a (a b:Int):i64.wrap (i64.wrap a+b)=i64.wrap (a+b):=z3k (by have:=z4y a; omega)
theorem zeg (a b:Int):i64.wrap (a+i64.wrap b)=i64.wrap (a+b):=z3k (by have:=z4y b; omega)
theorem z5h (a b:Int):i64.wrap (i64.wrap a-b)=i64.wrap (a-b):=z3k (by have:=z4y a; omega)
theorem z5i (a b:Int):i64.wrap (a-i64.wrap b)=i64.wrap (a-b):=z3k (by have:=z4y b; omega)
section
variable {α:Type}
def sm (l:List α) (p:α->Bool) (f:α->Int):Int:=match l with
 | []=>0
 | x :: l=>(if p x=true then f x else 0)+sm l p f
theorem z8r (x:α) (l:List α) (p:α->Bool) (f:α->Int):sm (x :: l) p f=(if p x=true then f x else 0)+sm l p f:=rfl
variable {σ ρ:Type}
theorem z5j [Inhabited α] {body:Nat->σ->Option (Step σ ρ)} (l:List α) (g:σ->α->σ) (hs:∀ i s,i<l.length->body i s=some (.cont (g s (l.getD i dF)))) :
  ∀ (k i:Nat) (s:σ),i+k=l.length->rangeM body k i s=some (.next ((l.drop i).foldl g s))
 | 0,i,s,hk=>by rw[y1s om]; simp[rangeM]
 | k+1,i,s,hk=>by
  have hi:i<l.length:=om
  rw[y1t hi]
  simp only[rangeM,hs i s hi,y24]
  rw[z5j l g hs k (i+1) _ om]
  simp[List.getD_eq_getElem?_getD,List.getElem?_eq_getElem hi]
theorem z3b [Inhabited α] {body:Nat->σ->Option (Step σ ρ)} (l:List α) (g:σ->α->σ) {s:σ} (hs:∀ i s,i<l.length->body i s=some (.cont (g s (l.getD i dF)))) :
  rangeM body l.length 0 s=some (.next (l.foldl g s)):=by
 rw[z5j l g hs l.length 0 s (yz _)]; rfl
theorem z6r {body:Nat->Unit->Option (Step Unit ρ)} {n:Nat} {c:ρ} (p:Nat->Prop) (hy:∀ i,i<n->p i->body i ()=some (.cont ())) (hn:∀ i,i<n->¬ p i->body i ()=some (.ret c)) :
  ∀ (k i:Nat),i+k=n->((∀ j,i<=j->j<n->p j)->rangeM body k i ()=some (.next ()))/\((¬ ∀ j,i<=j->j<n->p j)->rangeM body k i ()=some (.ret c))
 | 0,i,hk=>⟨fun _=>rfl,fun h=>absurd (fun j h1 h2=>om) h⟩
 | k+1,i,hk=>by
  obtain⟨h1,h2⟩:=z6r p hy hn k (i+1) om
  by_cases hp:p i
  ·simp only[rangeM,hy i om hp]
   exact⟨fun h=>h1 fun j a b=>h j om b,fun h=>h2 fun h'=>h fun j a b=>by
    by_cases e:j=i
    ·rw[e]; exact hp
    ·exact h' j om b⟩
  ·simp only[rangeM,hn i om hp]
   exact⟨fun h=>absurd (h i om om) hp,fun _=>trivial⟩
theorem z1m {body:Nat->Unit->Option (Step Unit ρ)} {c:ρ} (p:Nat->Prop) (hy:∀ i,i<n->p i->body i ()=some (.cont ())) (hn:∀ i,i<n->¬ p i->body i ()=some (.ret c)) :
  ((∀ j,j<n->p j)->rangeM body n 0 ()=some (.next ()))/\((¬ ∀ j,j<n->p j)->rangeM body n 0 ()=some (.ret c)):=by
 obtain⟨h1,h2⟩:=z6r p hy hn n 0 (yz n)
 exact⟨fun h=>h1 fun j _ b=>h j b,fun h=>h2 fun h'=>h fun j b=>h' j om b⟩
theorem z9b (l:List α) (p:α->Bool) (f:α->Int) (a:Int):l.foldl (fun s x=>if p x=true then i64.wrap (s+f x) else s) (i64.wrap a)=i64.wrap (a+sm l p f):=by
 induction l generalizing a with
 | nil=>simp[sm]
 | cons x l ih =>
  rw[y24,z8r]
  split
  ·rw[z9a,ih]; congr 1; omega
  ·rw[ih]; congr 1; omega
theorem z1a [Inhabited α] {l:List α} {i:Nat} (h:i<l.length):l.getD i dF∈l:=by
 rw[ya,y4 h]
 exact List.getElem_mem _
theorem z7b [Inhabited α] {l:List α} {x:α} (h:x∈l):∃ i,i<l.length/\l.getD i dF=x:=by
 obtain⟨i,hi,e⟩:=List.mem_iff_getElem.mp h
 exact⟨i,hi,by rw[ya,y4 hi]; exact e⟩
end
theorem obind {β:Type} (x:α) (f:α->Option β):(some x).bind f=f x:=rfl
def splitU (c:UInt8):Y8->List Y8
 | []=>[[]]
 | b :: l=>if b=c then [] :: splitU c l else match splitU c l with
  | []=>[[b]]
  | x :: r=>(b :: x) :: r
theorem z6s {c:UInt8}:∀ {l:Y8},c ∉ l->splitU c l=[l]
 | [],_=>rfl
 | b :: l,h=>by
  have hb:b≠c:=fun e=>h (e▸y16 ..)
  simp only[splitU,y3 hb,z6s (fun k=>h (y1e _ k))]
theorem z82 {c:UInt8}:∀ {l:Y8} (r:Y8),c ∉ l->splitU c (l++c :: r)=l :: splitU c r
 | [],r,_=>by simp[splitU]
 | b :: l,r,h=>by
  have hb:b≠c:=fun e=>h (e▸y16 ..)
  simp only[y1h,splitU,y3 hb,z82 r (fun k=>h (y1e _ k))]
theorem z6t {c:UInt8}:∀ {l:List Y8} {x:Y8},(∀ y∈x :: l,c ∉ y)->splitU c (Lib.join (x :: l) [c])=x :: l
 | [],x,h=>by
  rw[Lib.join_cons]
  rw[show Lib.joinTail [c] ([]:List Y8)=[] from rfl,y2w]
  exact z6s (h x (y16 ..))
 | y :: l,x,h=>by
  rw[Lib.join_cons]
  have e:Lib.joinTail [c] (y :: l)=c :: Lib.join (y :: l) [c]:=by
   rw[Lib.join_cons]
   simp[Lib.joinTail]
  rw[e,z82 _ (h x (y16 ..)),z6t fun z hz=>h z (y1e _ hz)]
end Go.TA
