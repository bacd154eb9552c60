/- A part of the proof: plain laws of what the functions compute. No condition. -/
import Derived.Test.YtkhgaalekilaeaaGreatDoorT7
import Derived.Test.YtkhgaalekilaeaaGreatDoorG1
import Derived.Shelf.Strings.Fields
namespace Go.Proofs.YtkhgaalekilaeaaGreatDoor
open Go Go.TA Go.RowKit
noncomputable def F_q7y (s:Y8):Option (List Y8):=guardP (s.length<4294967281/\∀ b∈s,b.toNat<128) (some (Lib.fields s))
def V_q7y (x:List Y8):AV:=.ref 0 x.length 0 x.length
def L_q7y (x:List Y8):List Ob:=[eS 1 DV.str x]
theorem F_q7y_ok {s:Y8} (r:List Y8) (h:F_q7y s=some r):CallOk Tryz.prog 234 [.d (.str s)] [] (V_q7y r) (L_q7y r):=by
 obtain⟨⟨h0,h1⟩,h⟩:=z1w h
 obtain rfl:=yz h
 exact zhl (g:=0) kj (by simp[gtabs]) (fun s w hs ha ht=>Any.strings_Fields Tryz.lays157 kj kj s w hs ha ht) h0 h1
end Go.Proofs.YtkhgaalekilaeaaGreatDoor
