/- A part of the proof: plain laws of what the functions compute. No condition. -/
import Derived.Test.YtgbpiaddmclccaaGreatDoorT6
import Derived.Test.YtgbpiaddmclccaaGreatDoorG1
import Derived.Shelf.Strings.Fields
namespace Go.Proofs.YtgbpiaddmclccaaGreatDoor
open Go Go.TA Go.RowKit
noncomputable def F_q7x (s:Y8):Option (List Y8):=guardP (s.length<4294967281/\∀ b∈s,b.toNat<128) (some (Lib.fields s))
def V_q7x (x:List Y8):AV:=.ref 0 x.length 0 x.length
def L_q7x (x:List Y8):List Ob:=[eS 1 DV.str x]
theorem F_q7x_ok {s:Y8} (r:List Y8) (h:F_q7x s=some r):CallOk Tryz.prog 253 [.d (.str s)] [] (V_q7x r) (L_q7x r):=by
 obtain⟨⟨h0,h1⟩,h⟩:=z1w h
 obtain rfl:=yw h
 exact zhi (g:=6) kj (by simp[gtabs]) (fun s w hs ha ht=>Any.strings_Fields Tryz.lays157 kj kj s w hs ha ht) h0 h1
end Go.Proofs.YtgbpiaddmclccaaGreatDoor
