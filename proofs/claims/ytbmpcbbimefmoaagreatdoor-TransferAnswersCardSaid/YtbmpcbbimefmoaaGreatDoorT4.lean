/- A part of the proof: laws over any program of the abstract machine. No condition. -/
import Derived.Test.YtbmpcbbimefmoaaGreatDoorT3
namespace Go.TA
open Go
theorem zax:∀ (l:Y8),(pieces l).length<=l.length+1/\∀ x∈pieces l,x.length<=l.length
 | []=>by simp[pieces]
 | b :: l=>by
  obtain⟨h1,h2⟩:=zax l
  rw[z17]
  split
  ·refine⟨sk,fun x hx=>?_⟩
   rcases yv.1 hx with rfl | hx
   ·simp
   ·have:=h2 x hx; simp; omega
  ·cases hp:pieces l with
   | nil=>exact absurd hp (z12 l)
   | cons p ps =>
    rw[hp] at h1 h2
    simp only
    refine⟨by simp at h1 |-; omega,fun x hx=>?_⟩
    rcases yv.1 hx with rfl | hx
    ·have:=h2 p sj; simp; omega
    ·have:=h2 x (by simp[hx]); simp; omega
theorem zay {step:Y8->List Int->Option (Step (List Int) (List Int))} {B:Nat}
  (hstep:∀ x s,x.length<=B->s.length<=B->step x s=some (match pv x with
   | none=>.ret []
   | some n=>.cont (s++[n]))):∀ (ws:List Y8) (s:List Int),(∀ x∈ws,x.length<=B)->s.length+ws.length<=B+1 ->
  foldR step ws s=some (match nums ws with
   | none=>.ret []
   | some ns=>.next (s++ns))
 | [],s,_,_=>by simp[foldR,nums]
 | x :: ws,s,hx,hl=>by
  simp only[y10] at hl
  simp only[foldR,hstep x s (hx x sj) om,nums]
  cases pv x with
  | none=>rfl
  | some n =>
   simp only
   rw[zay hstep ws (s++[n]) (fun y hy=>hx y (by simp[hy])) sk]
   cases nums ws with
   | none=>rfl
   | some ns=>simp
end Go.TA
