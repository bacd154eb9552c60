/- A part of the proof: laws over any program of the abstract machine. No condition. -/
import Derived.Test.YtbmpcbbimefmoaaGreatDoorT2
namespace Go.TA
open Go
variable {n:Nat}
section
variable {σ ρ:Type}
theorem z9j {body:Nat->σ->Option (Step σ ρ)} {n:Nat} (I:Nat->σ->Prop) (hs:∀ i s,i<n->I i s->∃ s',body i s=some (.cont s')/\I (i+1) s') :
  ∀ (k i:Nat) (s:σ),i+k=n->I i s->∃ s',rangeM body k i s=some (.next s')/\I n s'
 | 0,i,s,hk,h=>⟨s,rfl,by have:i=n:=om; subst this; exact h⟩
 | k+1,i,s,hk,h=>by
  obtain⟨s1,h1,h2⟩:=hs i s om h
  obtain⟨s2,h3,h4⟩:=z9j I hs k (i+1) s1 om h2
  exact⟨s2,by simp only[rangeM,h1,h3],h4⟩
theorem zp {body:Nat->σ->Option (Step σ ρ)} (I:Nat->σ->Prop) {s0:σ} (h0:I 0 s0) (hs:∀ i s,i<n->I i s->∃ s',body i s=some (.cont s')/\I (i+1) s') :
  ∃ s',rangeM body n 0 s0=some (.next s')/\I n s':=z9j I hs n 0 s0 (y1h n) h0
theorem z1b {step:σ->Option (Step σ ρ)} (m:σ->Nat) (I J:σ->Prop) (hs:∀ s,I s->(∃ s',step s=some (.cont s')/\I s'/\m s'<m s)\/∃ s',step s=some (.brk s')/\J s') :
  ∀ (n:Nat) (s:σ),m s<n->I s->∃ s',iterM step s=some (.next s')/\J s'
 | 0,s,hn,_=>om
 | n+1,s,hn,h=>by
  rw[zu]
  rcases hs s h with ⟨s',h1,h2,h3⟩ | ⟨s',h1,h2⟩
  ·obtain⟨s2,h4,h5⟩:=z1b m I J hs n s' om h2
   exact⟨s2,by rw[h1]; exact h4,h5⟩
  ·exact⟨s',by rw[h1],h2⟩
end
variable {α:Type} {k:Option α}
theorem zcy {p:Prop} {r:α} (hp:p) (h:k=some r):guardP p k=some r:=by rw[z6 hp,h]
theorem za (a b:Bool):(bif a then b else false)=(a&&b):=by cases a <;> rfl
theorem zg (a b:Bool):(cO a b)=(a||b):=by cases a <;> rfl
theorem wrapId {n:Int} (h1:-9223372036854775808<=n) (h2:n<9223372036854775808):IntKind.i64.wrap n=n:=z33 om om
variable {gs:List Prop} {d:α}
theorem zq (h:AllP gs):optD gs k d=k:=by unfold optD; rw[y7 h]
theorem z13 (h:¬ AllP gs):optD gs k d=some d:=by unfold optD; rw[y6 h]
theorem Ga {α:Type} {p:Prop} {k:Option α} (h:p:=by omega):guardP (AllP [p]) k=k:=z6 ⟨h,trivial⟩
theorem Gd {α:Type} {p:Prop} {k:Option α} (h:p:=by decide):guardP (AllP [p]) k=k:=z6 ⟨h,trivial⟩
theorem Gb {α:Type} {p q:Prop} {k:Option α} (h:p:=by omega) (i:q:=by omega):guardP (AllP [p,q]) k=k:=z6 ⟨h,i,trivial⟩
theorem Gc {α:Type} {p q r:Prop} {k:Option α} (h:p:=by omega) (i:q:=by omega) (j:r:=by omega):guardP (AllP [p,q,r]) k=k:=z6 ⟨h,i,j,trivial⟩
theorem Gg {α:Type} {gs:List Prop} {k:Option α} {d:α} (h:AllP gs:=by simp[AllP]):optD gs k d=k:=zq h
theorem Gh {α:Type} {gs:List Prop} {k:Option α} {d:α} (h:¬ AllP gs:=by simp[AllP]):optD gs k d=some d:=z13 h
section
variable {α:Type}
def sm (l:List α) (p:α->Bool) (f:α->Int):Int:=match l with
 | []=>0
 | x :: l=>(if p x=true then f x else 0)+sm l p f
variable {σ ρ:Type}
theorem z8b [Inhabited α] {body:Nat->σ->Option (Step σ ρ)} (l:List α) (g:σ->α->σ) (hs:∀ i s,i<l.length->body i s=some (.cont (g s (l.getD i dF)))) :
  ∀ (k i:Nat) (s:σ),i+k=l.length->rangeM body k i s=some (.next ((l.drop i).foldl g s))
 | 0,i,s,hk=>by rw[y1u om]; simp[rangeM]
 | k+1,i,s,hk=>by
  have hi:i<l.length:=om
  rw[y1p hi]
  simp only[rangeM,hs i s hi,y3k]
  rw[z8b l g hs k (i+1) _ om]
  simp[List.getD_eq_getElem?_getD,List.getElem?_eq_getElem hi]
theorem z30 [Inhabited α] {body:Nat->σ->Option (Step σ ρ)} (l:List α) (g:σ->α->σ) {s:σ} (hs:∀ i s,i<l.length->body i s=some (.cont (g s (l.getD i dF)))) :
  rangeM body l.length 0 s=some (.next (l.foldl g s)):=by
 rw[z8b l g hs l.length 0 s (y1h _)]; rfl
theorem z9k {body:Nat->Unit->Option (Step Unit ρ)} {n:Nat} {c:ρ} (p:Nat->Prop) (hy:∀ i,i<n->p i->body i ()=some (.cont ())) (hn:∀ i,i<n->¬ p i->body i ()=some (.ret c)) :
  ∀ (k i:Nat),i+k=n->((∀ j,i<=j->j<n->p j)->rangeM body k i ()=some (.next ()))/\((¬ ∀ j,i<=j->j<n->p j)->rangeM body k i ()=some (.ret c))
 | 0,i,hk=>⟨fun _=>rfl,fun h=>absurd (fun j h1 h2=>om) h⟩
 | k+1,i,hk=>by
  obtain⟨h1,h2⟩:=z9k p hy hn k (i+1) om
  by_cases hp:p i
  ·simp only[rangeM,hy i om hp]
   exact⟨fun h=>h1 fun j a b=>h j om b,fun h=>h2 fun h'=>h fun j a b=>by
    by_cases e:j=i
    ·rw[e]; exact hp
    ·exact h' j om b⟩
  ·simp only[rangeM,hn i om hp]
   exact⟨fun h=>absurd (h i om om) hp,fun _=>trivial⟩
theorem zhm {body:Nat->Unit->Option (Step Unit ρ)} {c:ρ} (p:Nat->Prop) (hy:∀ i,i<n->p i->body i ()=some (.cont ())) (hn:∀ i,i<n->¬ p i->body i ()=some (.ret c)) :
  ((∀ j,j<n->p j)->rangeM body n 0 ()=some (.next ()))/\((¬ ∀ j,j<n->p j)->rangeM body n 0 ()=some (.ret c)):=by
 obtain⟨h1,h2⟩:=z9k p hy hn n 0 (y1h n)
 exact⟨fun h=>h1 fun j _ b=>h j b,fun h=>h2 fun h'=>h fun j b=>h' j om b⟩
theorem z8 [Inhabited α] {l:List α} {i:Nat} (h:i<l.length):l.getD i dF∈l:=by
 rw[List.getD_eq_getElem?_getD,yh h]
 exact y58 _
theorem z34 [Inhabited α] {l:List α} {x:α} (h:x∈l):∃ i,i<l.length/\l.getD i dF=x:=by
 obtain⟨i,hi,e⟩:=List.mem_iff_getElem.mp h
 exact⟨i,hi,by rw[List.getD_eq_getElem?_getD,yh hi]; exact e⟩
end
theorem obind {β:Type} (x:α) (f:α->Option β):(some x).bind f=f x:=rfl
end Go.TA
