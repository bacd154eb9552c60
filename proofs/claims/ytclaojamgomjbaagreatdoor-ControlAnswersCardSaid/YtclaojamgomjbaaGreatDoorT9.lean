/- A part of the proof: laws over any program of the abstract machine. No condition. -/
import Derived.Test.YtclaojamgomjbaaGreatDoorT3
namespace Go.TA
open Go
section
variable {σ ρ:Type}
theorem z9o {body:Nat→σ→Option (Step σ ρ)} {n:Nat} (I:Nat→σ→Prop) (hs:∀ i s,i<n→I i s→∃ s',body i s=some (.cont s')∧I (i+1) s') :
  ∀ (k i:Nat) (s:σ),i+k=n→I i s→∃ s',rangeM body k i s=some (.next s')∧I n s'
 | 0,i,s,hk,h=>⟨s,rfl,by have:i=n:=(by omega); subst this; exact h⟩
 | k+1,i,s,hk,h=>by
  obtain⟨s1,h1,h2⟩:=hs i s (by omega) h
  obtain⟨s2,h3,h4⟩:=z9o I hs k (i+1) s1 (by omega) h2
  exact⟨s2,by simp only[rangeM,h1,h3],h4⟩
theorem z1g {body:Nat→σ→Option (Step σ ρ)} {n:Nat} (I:Nat→σ→Prop) {s0:σ} (h0:I 0 s0) (hs:∀ i s,i<n→I i s→∃ s',body i s=some (.cont s')∧I (i+1) s') :
  ∃ s',rangeM body n 0 s0=some (.next s')∧I n s':=z9o I hs n 0 s0 (Nat.zero_add n) h0
theorem z9p {body:Nat→Unit→Option (Step Unit ρ)} {n:Nat} {c:ρ} (p:Nat→Bool) (hs:∀ i,i<n→body i ()=some (if p i=true then .ret c else .cont ())) :
  ∀ (k i:Nat),i+k=n→rangeM body k i ()=some (if (List.range' i k).any p=true then .ret c else .next ())
 | 0,i,hk=>rfl
 | k+1,i,hk=>by
  simp only[rangeM,hs i (by omega),List.range'_succ,List.any_cons]
  cases hp:p i with
  | true=>simp
  | false=>simp only[Bool.false_eq_true,if_false]; exact z9p p hs k (i+1) (by omega)
theorem zay {body:Nat→Unit→Option (Step Unit ρ)} {n:Nat} {c:ρ} (p:Nat→Bool) (hs:∀ i,i<n→body i ()=some (if p i=true then .ret c else .cont ())) :
  rangeM body n 0 ()=some (if (List.range n).any p=true then .ret c else .next ()):=by
 have:=z9p p hs n 0 (Nat.zero_add n)
 rwa [← List.range_eq_range'] at this
theorem z1b {step:σ→Option (Step σ ρ)} (m:σ→Nat) (I J:σ→Prop) (hs:∀ s,I s→(∃ s',step s=some (.cont s')∧I s'∧m s'<m s)∨∃ s',step s=some (.brk s')∧J s') :
  ∀ (n:Nat) (s:σ),m s<n→I s→∃ s',iterM step s=some (.next s')∧J s'
 | 0,s,hn,_=>by omega
 | n+1,s,hn,h=>by
  rw[z16]
  rcases hs s h with ⟨s',h1,h2,h3⟩ | ⟨s',h1,h2⟩
  ·obtain⟨s2,h4,h5⟩:=z1b m I J hs n s' (by omega) h2
   exact⟨s2,by rw[h1]; exact h4,h5⟩
  ·exact⟨s',by rw[h1],h2⟩
end
theorem zcn {α:Type} {p:Prop} {k:Option α} {r:α} (hp:p) (h:k=some r):guardP p k=some r:=by rw[za hp,h]
theorem zh (a b:Bool):(bif a then b else false)=(a&&b):=by cases a <;> rfl
theorem zl (a b:Bool):(bif a then true else b)=(a||b):=by cases a <;> rfl
theorem wrapId {n:Int} (h1:-9223372036854775808≤n) (h2:n<9223372036854775808):IntKind.i64.wrap n=n:=z2z (by omega) (by omega)
theorem z1e {α:Type} {gs:List Prop} {k:Option α} {d:α} (h:AllP gs):optD gs k d=k:=by unfold optD; rw[if_pos h]
theorem z14 {α:Type} {gs:List Prop} {k:Option α} {d:α} (h:¬ AllP gs):optD gs k d=some d:=by unfold optD; rw[if_neg h]
end Go.TA
namespace Go.TA
open Go
theorem z82 (n:Int):IntKind.i64.wrap n=(n+9223372036854775808) % 18446744073709551616-9223372036854775808:=by
 have e1:IntKind.i64.bits=64:=rfl
 have e2:IntKind.i64.signed=true:=rfl
 simp only[IntKind.wrap,e1,e2,Bool.true_and,decide_eq_true_eq]
 split <;> omega
theorem z4s {a b:Int} (h:(a-b) % 18446744073709551616=0):IntKind.i64.wrap a=IntKind.i64.wrap b:=by
 rw[z82,z82]; omega
theorem z73 (a:Int):(IntKind.i64.wrap a-a) % 18446744073709551616=0:=by rw[z82]; omega
theorem zco (a b:Int):IntKind.i64.wrap (IntKind.i64.wrap a+b)=IntKind.i64.wrap (a+b):=z4s (by have:=z73 a; omega)
theorem zcp (a b:Int):IntKind.i64.wrap (a+IntKind.i64.wrap b)=IntKind.i64.wrap (a+b):=z4s (by have:=z73 b; omega)
theorem z30 (a b:Int):IntKind.i64.wrap (IntKind.i64.wrap a-b)=IntKind.i64.wrap (a-b):=z4s (by have:=z73 a; omega)
theorem z5y (a b:Int):IntKind.i64.wrap (a-IntKind.i64.wrap b)=IntKind.i64.wrap (a-b):=z4s (by have:=z73 b; omega)
section
variable {α:Type}
def sm (l:List α) (p:α→Bool) (f:α→Int):Int:=match l with
 | []=>0
 | x :: l=>(if p x=true then f x else 0)+sm l p f
theorem zaz (p:α→Bool) (f:α→Int):sm [] p f=0:=rfl
theorem z17 (x:α) (l:List α) (p:α→Bool) (f:α→Int):sm (x :: l) p f=(if p x=true then f x else 0)+sm l p f:=rfl
theorem z5z (l l':List α) (p:α→Bool) (f:α→Int):sm (l++l') p f=sm l p f+sm l' p f:=by
 induction l with
 | nil=>simp[sm]
 | cons x l ih=>simp only[List.cons_append,z17,ih]; omega
theorem z74 {l:List α} {p q:α→Bool} {f g:α→Int} (h:∀ x∈l,(if p x=true then f x else 0)=if q x=true then g x else 0):sm l p f=sm l q g:=by
 induction l with
 | nil=>rfl
 | cons x l ih=>rw[z17,z17,ih fun y hy=>h y (by simp[hy]),h x (by simp)]
theorem zcq {l:List α} {p:α→Bool} {f:α→Int} (h:∀ x∈l,0≤f x):0≤sm l p f:=by
 induction l with
 | nil=>simp[sm]
 | cons x l ih =>
  rw[z17]
  have h1:=ih fun y hy=>h y (by simp[hy])
  have h2:=h x (by simp)
  split <;> omega
theorem zp9 {l:List α} {p:α→Bool} {f:α→Int} {c:Int} (h:∀ x∈l,f x≤c) (hc:0≤c):sm l p f≤l.length * c:=by
 induction l with
 | nil=>simp[sm]
 | cons x l ih =>
  rw[z17]
  have h1:=ih fun y hy=>h y (by simp[hy])
  have h2:=h x (by simp)
  have h3:((x :: l).length:Int) * c=c+l.length * c:=by simp only[List.length_cons]; rw[Int.natCast_add,Int.add_mul]; omega
  rw[h3]
  split <;> omega
theorem zon (l:List α) (p:α→Bool) (f g:α→Int):sm l p (fun x=>f x-g x)=sm l p f-sm l p g:=by
 induction l with
 | nil=>simp[sm]
 | cons x l ih=>simp only[z17,ih]; split <;> omega
theorem zng {l:List α} {p:α→Bool} {f g:α→Int} (h:∀ x∈l,f x≤g x):sm l p f≤sm l p g:=by
 induction l with
 | nil=>simp[sm]
 | cons x l ih =>
  rw[z17,z17]
  have h1:=ih fun y hy=>h y (by simp[hy])
  have h2:=h x (by simp)
  split <;> omega
theorem zen {l:List α} {i:Nat} (hi:i<l.length) (y:α) (p:α→Bool) (f:α→Int) (d:α):sm (l.set i y) p f=sm l p f-(if p (l.getD i d)=true then f (l.getD i d) else 0)+if p y=true then f y else 0:=by
 induction l generalizing i with
 | nil=>simp at hi
 | cons x l ih =>
  cases i with
  | zero=>simp only[List.set_cons_zero,z17,List.getD_cons_zero]; omega
  | succ i =>
   simp only[List.set_cons_succ,z17,List.getD_cons_succ]
   rw[ih (by simpa using hi)]
   omega
variable {σ ρ:Type}
theorem z83 [Inhabited α] {body:Nat→σ→Option (Step σ ρ)} (l:List α) (g:σ→α→σ) (hs:∀ i s,i<l.length→body i s=some (.cont (g s (l.getD i default)))) :
  ∀ (k i:Nat) (s:σ),i+k=l.length→rangeM body k i s=some (.next ((l.drop i).foldl g s))
 | 0,i,s,hk=>by rw[List.drop_of_length_le (by omega)]; simp[rangeM]
 | k+1,i,s,hk=>by
  have hi:i<l.length:=by omega
  rw[List.drop_eq_getElem_cons hi]
  simp only[rangeM,hs i s hi,List.foldl_cons]
  rw[z83 l g hs k (i+1) _ (by omega)]
  simp[List.getD_eq_getElem?_getD,List.getElem?_eq_getElem hi]
theorem z1v [Inhabited α] {body:Nat→σ→Option (Step σ ρ)} (l:List α) (g:σ→α→σ) {s:σ} (hs:∀ i s,i<l.length→body i s=some (.cont (g s (l.getD i default)))) :
  rangeM body l.length 0 s=some (.next (l.foldl g s)):=by
 rw[z83 l g hs l.length 0 s (Nat.zero_add _)]; rfl
theorem z9q {body:Nat→Unit→Option (Step Unit ρ)} {n:Nat} {c:ρ} (p:Nat→Prop) (hy:∀ i,i<n→p i→body i ()=some (.cont ())) (hn:∀ i,i<n→¬ p i→body i ()=some (.ret c)) :
  ∀ (k i:Nat),i+k=n→((∀ j,i≤j→j<n→p j)→rangeM body k i ()=some (.next ()))∧((¬ ∀ j,i≤j→j<n→p j)→rangeM body k i ()=some (.ret c))
 | 0,i,hk=>⟨fun _=>rfl,fun h=>absurd (fun j h1 h2=>by omega) h⟩
 | k+1,i,hk=>by
  obtain⟨h1,h2⟩:=z9q p hy hn k (i+1) (by omega)
  by_cases hp:p i
  ·simp only[rangeM,hy i (by omega) hp]
   exact⟨fun h=>h1 fun j a b=>h j (by omega) b,fun h=>h2 fun h'=>h fun j a b=>by
    by_cases e:j=i
    ·rw[e]; exact hp
    ·exact h' j (by omega) b⟩
  ·simp only[rangeM,hn i (by omega) hp]
   exact⟨fun h=>absurd (h i (by omega) (by omega)) hp,fun _=>trivial⟩
theorem zu {body:Nat→Unit→Option (Step Unit ρ)} {n:Nat} {c:ρ} (p:Nat→Prop) (hy:∀ i,i<n→p i→body i ()=some (.cont ())) (hn:∀ i,i<n→¬ p i→body i ()=some (.ret c)) :
  ((∀ j,j<n→p j)→rangeM body n 0 ()=some (.next ()))∧((¬ ∀ j,j<n→p j)→rangeM body n 0 ()=some (.ret c)):=by
 obtain⟨h1,h2⟩:=z9q p hy hn n 0 (Nat.zero_add n)
 exact⟨fun h=>h1 fun j _ b=>h j b,fun h=>h2 fun h'=>h fun j b=>h' j (by omega) b⟩
theorem z84 (l:List α) (p:α→Bool) (f:α→Int) (a:Int):l.foldl (fun s x=>if p x=true then IntKind.i64.wrap (s+f x) else s) (IntKind.i64.wrap a)=IntKind.i64.wrap (a+sm l p f):=by
 induction l generalizing a with
 | nil=>simp[sm]
 | cons x l ih =>
  rw[List.foldl_cons,z17]
  split
  ·rw[zco,ih]; congr 1; omega
  ·rw[ih]; congr 1; omega
theorem z86 (l:List α) (p:α→Bool) (f:α→Int) (a:Int):l.foldl (fun s x=>if p x=true then IntKind.i64.wrap (s-f x) else s) (IntKind.i64.wrap a)=IntKind.i64.wrap (a-sm l p f):=by
 induction l generalizing a with
 | nil=>simp[sm]
 | cons x l ih =>
  rw[List.foldl_cons,z17]
  split
  ·rw[z30,ih]; congr 1; omega
  ·rw[ih]; congr 1; omega
theorem zm [Inhabited α] {l:List α} {i:Nat} (h:i<l.length):l.getD i default∈l:=by
 rw[List.getD_eq_getElem?_getD,List.getElem?_eq_getElem h]
 exact List.getElem_mem _
theorem z1h [Inhabited α] {l:List α} {x:α} (h:x∈l):∃ i,i<l.length∧l.getD i default=x:=by
 obtain⟨i,hi,e⟩:=List.mem_iff_getElem.mp h
 exact⟨i,hi,by rw[List.getD_eq_getElem?_getD,List.getElem?_eq_getElem hi]; exact e⟩
end
theorem obind {α β:Type} (x:α) (f:α→Option β):(some x).bind f=f x:=rfl
end Go.TA
