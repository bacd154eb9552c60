/- A part of the proof: laws over any program of the abstract machine. No condition. -/
import Derived.Test.YtiohhffifhaboaaGreatDoorT4
import Derived.Test.YtiohhffifhaboaaGreatDoorT7
import Derived.Lib.AtoiTie
import Derived.Lib.ItoaLen
namespace Go.TA
open Go Go.Lib
theorem z8q {d:Nat} (h:d<10):digitVal (UInt8.ofNat (48+d))=some d:=by
 have e:(UInt8.ofNat (48+d)).toNat=48+d:=by rw[y57]; omega
 unfold digitVal
 rw[e,y9 om]
 congr 1; omega
theorem z8r:∀ (l:Y8) (acc n:Nat) (b:UInt8) (d:Nat),decFrom acc l=some n->digitVal b=some d->decFrom acc (l++[b])=some (n * 10+d)
 | [],acc,n,b,d,h,hb=>by
  simp only[decFrom,yw] at h
  subst h
  simp only[y1y,decFrom,hb]
 | c :: l,acc,n,b,d,h,hb=>by
  simp only[decFrom] at h
  simp only[y21,decFrom]
  cases hc:digitVal c with
  | none=>rw[hc] at h; cases h
  | some k=>rw[hc] at h; exact z8r l _ n b d h hb
theorem z9z:∀ u:Nat,decFrom 0 (decDigits u)=some u:=by
 intro u
 induction u using Nat.strongRecOn with
 | ind u ih =>
  rw[decDigits]
  by_cases h:u<10
  ·rw[y3j h]
   simp only[decFrom,z8q h]
   congr 1; omega
  ·rw[dif_neg h,z8r _ _ _ _ _ (ih (u / 10) om) (z8q (show u % 10<10 from om))]
   congr 1; omega
theorem zfs (u:Nat):decDigits u≠[]:=by
 rw[decDigits]
 split
 ·simp
 ·simp
theorem zc7:∀ (u:Nat) (b:UInt8),b∈decDigits u->48<=b.toNat/\b.toNat<=57:=by
 intro u
 induction u using Nat.strongRecOn with
 | ind u ih =>
  intro b hb
  rw[decDigits] at hb
  have e:∀ d,d<10->(UInt8.ofNat (48+d)).toNat=48+d:=fun d h=>by rw[y57]; omega
  by_cases h:u<10
  ·rw[y3j h,y1z] at hb
   rw[hb,e u h]; omega
  ·rw[dif_neg h,y1b,y1z] at hb
   rcases hb with hb | rfl
   ·exact ih (u / 10) om b hb
   ·rw[e _ om]; omega
theorem zn6:∀ (u:Nat),10<=u->((decDigits u).getD 0 0).toNat≠48:=by
 intro u
 induction u using Nat.strongRecOn with
 | ind u ih =>
  intro h
  rw[decDigits,dif_neg om]
  have hl:0<(decDigits (u / 10)).length:=List.length_pos_iff.2 (zfs _)
  have e1:(decDigits (u / 10)++[UInt8.ofNat (48+u % 10)]).getD 0 0=(decDigits (u / 10)).getD 0 0:=by
   rw[yb,yb,yk hl]
  rw[e1]
  by_cases h1:10<=u / 10
  ·exact ih (u / 10) om h1
  ·rw[decDigits,y3j om]
   show (UInt8.ofNat (48+u / 10)).toNat≠48
   rw[y57]; omega
variable {u:Nat}
theorem zal (h:u<10):(decDigits u).length=1:=by rw[decDigits,y3j h]; rfl
theorem zn7 (h:10<=u):(decDigits u).length=(decDigits (u / 10)).length+1:=by rw[decDigits,dif_neg om,ye]; rfl
theorem zhw (k:Nat):∀ u:Nat,u<10 ^ (k+1)->(decDigits u).length<=k+1:=by
 induction k with
 | zero=>intro u h; rw[zal om]; omega
 | succ k ih =>
  intro u h
  by_cases h1:u<10
  ·rw[zal h1]; omega
  ·rw[zn7 om]
   have:=ih (u / 10) (by rw[y3i] at h; omega)
   omega
variable {n:Int}
theorem z7n (h:0<=n):itoa n=decDigits n.toNat:=by unfold itoa; rw[y8 om]
theorem z5b (h0:0<=n) (h1:n<=1000000000000000):(itoa n).length<=16:=by
 rw[z7n h0]
 exact zhw 15 _ om
theorem zn8 (u:Nat) (_h:(decDigits u).length<=18):atoi (decDigits u)=some (u:Int):=by
 have hd:=z9z u
 have hg:=zc7 u
 have hne:=zfs u
 revert hd hg hne
 generalize decDigits u=l
 intro hd hg hne
 cases l with
 | nil=>exact absurd rfl hne
 | cons b r =>
  have hb:=hg b (y1h ..)
  have h1:(b==(45:UInt8))=false:=by
   rw[y2u]; intro e; rw[e] at hb; revert hb; decide
  have h2:(b==(43:UInt8))=false:=by
   rw[y2u]; intro e; rw[e] at hb; revert hb; decide
  simp only[atoi,h1,h2,decNat,List.isEmpty_cons,hd]
  rfl
theorem zjc (h0:0<=n) (h1:n<=1000000000000000):atoiF (itoa n)=(n,false):=by
 have hl:=z5b h0 h1
 rw[z7n h0] at hl |-
 unfold atoiF
 rw[atoiAll_short _ om,zn8 _ om]
 show ((n.toNat:Int),false)=_
 rw[y2c h0]
theorem zn9 (h0:0<=n) {b:UInt8} (hb:b∈itoa n):48<=b.toNat/\b.toNat<=57:=by
 rw[z7n h0] at hb
 exact zc7 _ b hb
end Go.TA
