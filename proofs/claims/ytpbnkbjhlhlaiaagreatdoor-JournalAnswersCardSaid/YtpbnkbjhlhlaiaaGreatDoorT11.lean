/- A part of the proof: laws over any program of the abstract machine. No condition. -/
import Derived.Test.YtpbnkbjhlhlaiaaGreatDoorT4
import Derived.Test.YtpbnkbjhlhlaiaaGreatDoorT8
import Derived.Lib.AtoiTie
import Derived.Lib.ItoaLen
namespace Go.TA
open Go Go.Lib
theorem zab {d:Nat} (h:d<10):digitVal (UInt8.ofNat (48+d))=some d:=by
 have e:(UInt8.ofNat (48+d)).toNat=48+d:=by rw[y59]; omega
 unfold digitVal
 rw[e,y7 om]
 congr 1; omega
theorem zac:∀ (l:Y8) (acc n:Nat) (b:UInt8) (d:Nat),decFrom acc l=some n->digitVal b=some d->decFrom acc (l++[b])=some (n * 10+d)
 | [],acc,n,b,d,h,hb=>by
  simp only[decFrom,yq] at h
  subst h
  simp only[y26,decFrom,hb]
 | c :: l,acc,n,b,d,h,hb=>by
  simp only[decFrom] at h
  simp only[y30,decFrom]
  cases hc:digitVal c with
  | none=>rw[hc] at h; cases h
  | some k=>rw[hc] at h; exact zac l _ n b d h hb
theorem z5y:∀ u:Nat,decFrom 0 (decDigits u)=some u:=by
 intro u
 induction u using Nat.strongRecOn with
 | ind u ih =>
  rw[decDigits]
  by_cases h:u<10
  ·rw[y3h h]
   simp only[decFrom,zab h]
   congr 1; omega
  ·rw[dif_neg h,zac _ _ _ _ _ (ih (u / 10) om) (zab (show u % 10<10 from om))]
   congr 1; omega
theorem zhm (u:Nat):decDigits u≠[]:=by
 rw[decDigits]
 split
 ·simp
 ·simp
theorem ze5:∀ (u:Nat) (b:UInt8),b∈decDigits u->48<=b.toNat/\b.toNat<=57:=by
 intro u
 induction u using Nat.strongRecOn with
 | ind u ih =>
  intro b hb
  rw[decDigits] at hb
  have e:∀ d,d<10->(UInt8.ofNat (48+d)).toNat=48+d:=fun d h=>by rw[y59]; omega
  by_cases h:u<10
  ·rw[y3h h,y22] at hb
   rw[hb,e u h]; omega
  ·rw[dif_neg h,y1i,y22] at hb
   rcases hb with hb | rfl
   ·exact ih (u / 10) om b hb
   ·rw[e _ om]; omega
theorem zpa:∀ (u:Nat),10<=u->((decDigits u).getD 0 0).toNat≠48:=by
 intro u
 induction u using Nat.strongRecOn with
 | ind u ih =>
  intro h
  rw[decDigits,dif_neg om]
  have hl:0<(decDigits (u / 10)).length:=y2g.2 (zhm _)
  have e1:(decDigits (u / 10)++[UInt8.ofNat (48+u % 10)]).getD 0 0=(decDigits (u / 10)).getD 0 0:=by
   rw[y9,y9,ym hl]
  rw[e1]
  by_cases h1:10<=u / 10
  ·exact ih (u / 10) om h1
  ·rw[decDigits,y3h om]
   show (UInt8.ofNat (48+u / 10)).toNat≠48
   rw[y59]; omega
variable {u:Nat}
theorem zci (h:u<10):(decDigits u).length=1:=by rw[decDigits,y3h h]; rfl
theorem zpb (h:10<=u):(decDigits u).length=(decDigits (u / 10)).length+1:=by rw[decDigits,dif_neg om,yn]; rfl
theorem zjt (k:Nat):∀ u:Nat,u<10 ^ (k+1)->(decDigits u).length<=k+1:=by
 induction k with
 | zero=>intro u h; rw[zci om]; omega
 | succ k ih =>
  intro u h
  by_cases h1:u<10
  ·rw[zci h1]; omega
  ·rw[zpb om]
   have:=ih (u / 10) (by rw[Nat.pow_succ] at h; omega)
   omega
variable {n:Int}
theorem z2x (h:0<=n):itoa n=decDigits n.toNat:=by unfold itoa; rw[y6 om]
theorem z26 (h0:0<=n) (h1:n<=1000000000000000):(itoa n).length<=16:=by
 rw[z2x h0]
 exact zjt 15 _ om
theorem zpc (u:Nat) (_h:(decDigits u).length<=18):atoi (decDigits u)=some (u:Int):=by
 have hd:=z5y u
 have hg:=ze5 u
 have hne:=zhm u
 revert hd hg hne
 generalize decDigits u=l
 intro hd hg hne
 cases l with
 | nil=>exact absurd rfl hne
 | cons b r =>
  have hb:=hg b (y13 ..)
  have h1:(b==(45:UInt8))=false:=by
   rw[y1t]; intro e; rw[e] at hb; revert hb; decide
  have h2:(b==(43:UInt8))=false:=by
   rw[y1t]; intro e; rw[e] at hb; revert hb; decide
  simp only[atoi,h1,h2,decNat,List.isEmpty_cons,hd]
  rfl
theorem zl0 (h0:0<=n) (h1:n<=1000000000000000):atoiF (itoa n)=(n,false):=by
 have hl:=z26 h0 h1
 rw[z2x h0] at hl |-
 unfold atoiF
 rw[atoiAll_short _ om,zpc _ om]
 show ((n.toNat:Int),false)=_
 rw[y46 h0]
theorem zhn {a b:Int} (ha:0<=a) (hb:0<=b) (h:itoa a=itoa b):a=b:=by
 rw[z2x ha,z2x hb] at h
 have:=(z5y a.toNat).symm.trans ((yj (decFrom 0) h).trans (z5y b.toNat))
 have:=yw this
 omega
theorem zho (h0:0<=n) {b:UInt8} (hb:b∈itoa n):48<=b.toNat/\b.toNat<=57:=by
 rw[z2x h0] at hb
 exact ze5 _ b hb
end Go.TA
