/- A part of the proof: laws over any program of the abstract machine. No condition. -/
import Derived.Test.YtcfloplnjicomaaGreatDoorT3
namespace Go.TA
open Go
open Go.IntKind (i64)
variable {n:Nat}
section
variable {σ ρ:Type}
theorem z8j {body:Nat->σ->Option (Step σ ρ)} {n:Nat} (I:Nat->σ->Prop) (hs:∀ i s,i<n->I i s->∃ s',body i s=some (.cont s')/\I (i+1) s') :
  ∀ (k i:Nat) (s:σ),i+k=n->I i s->∃ s',rangeM body k i s=some (.next s')/\I n s'
 | 0,i,s,hk,h=>⟨s,rfl,by have:i=n:=om; subst this; exact h⟩
 | k+1,i,s,hk,h=>by
  obtain⟨s1,h1,h2⟩:=hs i s om h
  obtain⟨s2,h3,h4⟩:=z8j I hs k (i+1) s1 om h2
  exact⟨s2,by simp only[rangeM,h1,h3],h4⟩
theorem z3c {body:Nat->σ->Option (Step σ ρ)} (I:Nat->σ->Prop) {s0:σ} (h0:I 0 s0) (hs:∀ i s,i<n->I i s->∃ s',body i s=some (.cont s')/\I (i+1) s') :
  ∃ s',rangeM body n 0 s0=some (.next s')/\I n s':=z8j I hs n 0 s0 (y12 n) h0
theorem z49 {step:σ->Option (Step σ ρ)} (m:σ->Nat) (I J:σ->Prop) (hs:∀ s,I s->(∃ s',step s=some (.cont s')/\I s'/\m s'<m s)\/∃ s',step s=some (.brk s')/\J s') :
  ∀ (n:Nat) (s:σ),m s<n->I s->∃ s',iterM step s=some (.next s')/\J s'
 | 0,s,hn,_=>om
 | n+1,s,hn,h=>by
  rw[z1q]
  rcases hs s h with ⟨s',h1,h2,h3⟩ | ⟨s',h1,h2⟩
  ·obtain⟨s2,h4,h5⟩:=z49 m I J hs n s' om h2
   exact⟨s2,by rw[h1]; exact h4,h5⟩
  ·exact⟨s',by rw[h1],h2⟩
end
variable {α:Type} {k:Option α}
theorem zb7 {p:Prop} {r:α} (hp:p) (h:k=some r):guardP p k=some r:=by rw[za hp,h]
theorem zx (a b:Bool):(bif a then b else false)=(a&&b):=by cases a <;> rfl
theorem zj (a b:Bool):(cO a b)=(a||b):=by cases a <;> rfl
theorem wrapId {n:Int} (h1:-9223372036854775808<=n) (h2:n<9223372036854775808):i64.wrap n=n:=z2k om om
variable {gs:List Prop} {d:α}
theorem zh (h:AllP gs):optD gs k d=k:=by unfold optD; rw[yb h]
theorem z1e (h:¬ AllP gs):optD gs k d=some d:=by unfold optD; rw[ya h]
theorem z7e (n:Int):i64.wrap n=(n+9223372036854775808) % 18446744073709551616-9223372036854775808:=by
 have e1:i64.bits=64:=rfl
 have e2:i64.signed=true:=rfl
 simp only[IntKind.wrap,e1,e2,Bool.true_and,yf]
 split <;> omega
theorem z4k {a b:Int} (h:(a-b) % 18446744073709551616=0):i64.wrap a=i64.wrap b:=by
 rw[z7e,z7e]; omega
theorem z6m (a:Int):(i64.wrap a-a) % 18446744073709551616=0:=by rw[z7e]; omega
theorem z7f (a b:Int):i64.wrap (i64.wrap a+b)=i64.wrap (a+b):=z4k (by have:=z6m a; omega)
theorem zfz (a b:Int):i64.wrap (a+i64.wrap b)=i64.wrap (a+b):=z4k (by have:=z6m b; omega)
theorem z7g (a b:Int):i64.wrap (i64.wrap a-b)=i64.wrap (a-b):=z4k (by have:=z6m a; omega)
theorem z7h (a b:Int):i64.wrap (a-i64.wrap b)=i64.wrap (a-b):=z4k (by have:=z6m b; omega)
section
variable {α:Type}
variable {σ ρ:Type}
theorem z7i [Inhabited α] {body:Nat->σ->Option (Step σ ρ)} (l:List α) (g:σ->α->σ) (hs:∀ i s,i<l.length->body i s=some (.cont (g s (l.getD i dF)))) :
  ∀ (k i:Nat) (s:σ),i+k=l.length->rangeM body k i s=some (.next ((l.drop i).foldl g s))
 | 0,i,s,hk=>by rw[y1i om]; simp[rangeM]
 | k+1,i,s,hk=>by
  have hi:i<l.length:=om
  rw[y1m hi]
  simp only[rangeM,hs i s hi,y3k]
  rw[z7i l g hs k (i+1) _ om]
  simp[List.getD_eq_getElem?_getD,List.getElem?_eq_getElem hi]
theorem z8k [Inhabited α] {body:Nat->σ->Option (Step σ ρ)} (l:List α) (g:σ->α->σ) {s:σ} (hs:∀ i s,i<l.length->body i s=some (.cont (g s (l.getD i dF)))) :
  rangeM body l.length 0 s=some (.next (l.foldl g s)):=by
 rw[z7i l g hs l.length 0 s (y12 _)]; rfl
theorem z8l {body:Nat->Unit->Option (Step Unit ρ)} {n:Nat} {c:ρ} (p:Nat->Prop) (hy:∀ i,i<n->p i->body i ()=some (.cont ())) (hn:∀ i,i<n->¬ p i->body i ()=some (.ret c)) :
  ∀ (k i:Nat),i+k=n->((∀ j,i<=j->j<n->p j)->rangeM body k i ()=some (.next ()))/\((¬ ∀ j,i<=j->j<n->p j)->rangeM body k i ()=some (.ret c))
 | 0,i,hk=>⟨fun _=>rfl,fun h=>absurd (fun j h1 h2=>om) h⟩
 | k+1,i,hk=>by
  obtain⟨h1,h2⟩:=z8l p hy hn k (i+1) om
  by_cases hp:p i
  ·simp only[rangeM,hy i om hp]
   exact⟨fun h=>h1 fun j a b=>h j om b,fun h=>h2 fun h'=>h fun j a b=>by
    by_cases e:j=i
    ·rw[e]; exact hp
    ·exact h' j om b⟩
  ·simp only[rangeM,hn i om hp]
   exact⟨fun h=>absurd (h i om om) hp,fun _=>trivial⟩
theorem z3d {body:Nat->Unit->Option (Step Unit ρ)} {c:ρ} (p:Nat->Prop) (hy:∀ i,i<n->p i->body i ()=some (.cont ())) (hn:∀ i,i<n->¬ p i->body i ()=some (.ret c)) :
  ((∀ j,j<n->p j)->rangeM body n 0 ()=some (.next ()))/\((¬ ∀ j,j<n->p j)->rangeM body n 0 ()=some (.ret c)):=by
 obtain⟨h1,h2⟩:=z8l p hy hn n 0 (y12 n)
 exact⟨fun h=>h1 fun j _ b=>h j b,fun h=>h2 fun h'=>h fun j b=>h' j om b⟩
theorem zk [Inhabited α] {l:List α} {i:Nat} (h:i<l.length):l.getD i dF∈l:=by
 rw[yd,yk h]
 exact List.getElem_mem _
theorem z58 [Inhabited α] {l:List α} {x:α} (h:x∈l):∃ i,i<l.length/\l.getD i dF=x:=by
 obtain⟨i,hi,e⟩:=List.mem_iff_getElem.mp h
 exact⟨i,hi,by rw[yd,yk hi]; exact e⟩
end
theorem obind {β:Type} (x:α) (f:α->Option β):(some x).bind f=f x:=rfl
end Go.TA
