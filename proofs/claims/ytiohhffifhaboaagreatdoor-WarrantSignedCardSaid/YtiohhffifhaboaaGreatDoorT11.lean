/- A part of the proof: laws over any program of the abstract machine. No condition. -/
import Derived.Test.YtiohhffifhaboaaGreatDoorT4
import Derived.Test.YtiohhffifhaboaaGreatDoorT7
import Derived.Lib.AtoiTie
import Derived.Lib.ItoaLen
namespace Go.TA
open Go Go.Lib
theorem z5s {d:Nat} (h:d<10):digitVal (UInt8.ofNat (48+d))=some d:=by
 have e:(UInt8.ofNat (48+d)).toNat=48+d:=by rw[UInt8.toNat_ofNat']; omega
 unfold digitVal
 rw[e,y5 om]
 congr 1; omega
theorem z5t:∀ (l:Y8) (acc n:Nat) (b:UInt8) (d:Nat),decFrom acc l=some n->digitVal b=some d->decFrom acc (l++[b])=some (n * 10+d)
 | [],acc,n,b,d,h,hb=>by
  simp only[decFrom,yg] at h
  subst h
  simp only[y12,decFrom,hb]
 | c :: l,acc,n,b,d,h,hb=>by
  simp only[decFrom] at h
  simp only[y1h,decFrom]
  cases hc:digitVal c with
  | none=>rw[hc] at h; cases h
  | some k=>rw[hc] at h; exact z5t l _ n b d h hb
theorem zbn:∀ u:Nat,decFrom 0 (decDigits u)=some u:=by
 intro u
 induction u using Nat.strongRecOn with
 | ind u ih =>
  rw[decDigits]
  by_cases h:u<10
  ·rw[y2l h]
   simp only[decFrom,z5s h]
   congr 1; omega
  ·rw[dif_neg h,z5t _ _ _ _ _ (ih (u / 10) om) (z5s (show u % 10<10 from om))]
   congr 1; omega
theorem zib (u:Nat):decDigits u≠[]:=by
 rw[decDigits]
 split
 ·simp
 ·simp
theorem zc8:∀ (u:Nat) (b:UInt8),b∈decDigits u->48<=b.toNat/\b.toNat<=57:=by
 intro u
 induction u using Nat.strongRecOn with
 | ind u ih =>
  intro b hb
  rw[decDigits] at hb
  have e:∀ d,d<10->(UInt8.ofNat (48+d)).toNat=48+d:=fun d h=>by rw[UInt8.toNat_ofNat']; omega
  by_cases h:u<10
  ·rw[y2l h,y2v] at hb
   rw[hb,e u h]; omega
  ·rw[dif_neg h,y1w,y2v] at hb
   rcases hb with hb | rfl
   ·exact ih (u / 10) om b hb
   ·rw[e _ om]; omega
variable {u:Nat}
theorem zb0 (h:u<10):(decDigits u).length=1:=by rw[decDigits,y2l h]; rfl
theorem zg0 (h:10<=u):(decDigits u).length=(decDigits (u / 10)).length+1:=by rw[decDigits,dif_neg om,yh]; rfl
theorem zhe (k:Nat):∀ u:Nat,u<10 ^ (k+1)->(decDigits u).length<=k+1:=by
 induction k with
 | zero=>intro u h; rw[zb0 om]; omega
 | succ k ih =>
  intro u h
  by_cases h1:u<10
  ·rw[zb0 h1]; omega
  ·rw[zg0 om]
   have:=ih (u / 10) (by rw[y36] at h; omega)
   omega
variable {n:Int}
theorem z3x (h:0<=n):itoa n=decDigits n.toNat:=by unfold itoa; rw[y3 om]
theorem z8c (h0:0<=n) (h1:n<=1000000000000000):(itoa n).length<=16:=by
 rw[z3x h0]
 exact zhe 15 _ om
theorem zg1 (u:Nat) (_h:(decDigits u).length<=18):atoi (decDigits u)=some (u:Int):=by
 have hd:=zbn u
 have hg:=zc8 u
 have hne:=zib u
 revert hd hg hne
 generalize decDigits u=l
 intro hd hg hne
 cases l with
 | nil=>exact absurd rfl hne
 | cons b r =>
  have hb:=hg b (y16 ..)
  have h1:(b==(45:UInt8))=false:=by
   rw[y3r]; intro e; rw[e] at hb; revert hb; decide
  have h2:(b==(43:UInt8))=false:=by
   rw[y3r]; intro e; rw[e] at hb; revert hb; decide
  simp only[atoi,h1,h2,decNat,List.isEmpty_cons,hd]
  rfl
theorem zd4 (h0:0<=n) (h1:n<=1000000000000000):atoiF (itoa n)=(n,false):=by
 have hl:=z8c h0 h1
 rw[z3x h0] at hl |-
 unfold atoiF
 rw[atoiAll_short _ om,zg1 _ om]
 show ((n.toNat:Int),false)=_
 rw[y2f h0]
theorem zg2 (h0:0<=n) {b:UInt8} (hb:b∈itoa n):48<=b.toNat/\b.toNat<=57:=by
 rw[z3x h0] at hb
 exact zc8 _ b hb
end Go.TA
