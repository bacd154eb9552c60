/- A part of the proof: laws over any program of the abstract machine. No condition. -/
import Derived.Test.YtgfgnhpecnmlpaaGreatDoorT2
import Derived.Handed
namespace Go.TA
open Go Go.ChangeShapes Go.WideShapes Go.ChangeAt Go.RowKit
variable {α:Type}
section
variable {H:Type} (enc:TypeId×Value->H) (P:Program) (W:World) (base:Nat) (spare:Nat->Bool) (held:Bool)
def ReadsW (t:TypeId) (sz:Nat) (e:α->DV) (ok:α->Prop):Prop :=
 ∀ (fuel:Nat) (cs:List Value) (x:DataW H×List MemPlace),DataW.trod enc P W base spare held fuel t cs=some x->(x.1.weights P t).all (· <= reachBytes)=true->∃ a,DV.Is (cx0 W).M (e a) cs/\cs.length=sz/\ok a
end
variable {t:TypeId} {e:α->DV} {ok:α->Prop}
section
variable {H:Type} {enc:TypeId×Value->H} {P:Program} {W:World} {base:Nat} {spare:Nat->Bool} {held:Bool}
theorem zhv {sz:Nat} (h:Reads enc P W base spare held t sz e ok):ReadsW enc P W base spare held t sz e ok:=fun fuel cs x hx _=>h fuel cs x hx
theorem zjg (h:ReadsW enc P W base spare held t 1 e ok) {v:Value} (hv:v.cells.toList=[v]) (he:∀ a,(AV.d (e a)).isAgg=false) {d:DataW H} {ps:List MemPlace} (hd:DataW.Trod enc P W base spare held t v d ps) (hw:(d.weights P t).all (· <= reachBytes)=true):∃ a,AV.IsV (cx0 W) (.d (e a)) v/\ok a:=by
 obtain⟨fuel,hf⟩:=hd
 rw[hv] at hf
 obtain⟨a,a1,_,a3⟩:=h _ _ _ hf hw
 exact⟨a,.one _ _ (he a) (.d _ _ a1),a3⟩
theorem zjh {ts:List TypeId} {d:DataW H} {r:List (DataW H)} (h:(DataW.weightsEach P (t :: ts) (d :: r)).all (· <= reachBytes)=true):(d.weights P t).all (· <= reachBytes)=true/\(DataW.weightsEach P ts r).all (· <= reachBytes)=true:=by
 simpa only [DataW.weightsEach,List.all_append,y9] using h
end
end Go.TA
namespace Go.TA
open Go Go.ChangeShapes Go.WideShapes Go.ChangeAt Go.RowKit
section
variable {H:Type} {enc:TypeId×Value->H} {P:Program} {W:World} {base:Nat} {spare:Nat->Bool} {held:Bool}
end
end Go.TA
