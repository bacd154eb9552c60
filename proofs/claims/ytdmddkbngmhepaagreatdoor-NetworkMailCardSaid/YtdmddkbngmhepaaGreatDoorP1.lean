/- A part of the proof: plain laws of what the functions compute. No condition. -/
import Derived.Test.YtdmddkbngmhepaaGreatDoorT7
import Derived.Test.YtdmddkbngmhepaaGreatDoorG1
import Derived.Shelf.Strings.Fields
namespace Go.Proofs.YtdmddkbngmhepaaGreatDoor
open Go Go.TA Go.RowKit
noncomputable def F_q76 (s:List UInt8):Option (List (List UInt8)):=guardP (s.length<4294967281/\∀ b∈s,b.toNat<128) (some (Lib.fields s))
def V_q76 (x:List (List UInt8)):AV:=.ref 0 x.length 0 x.length
def L_q76 (x:List (List UInt8)):List Ob:=[eS 1 DV.str x]
theorem F_q76_ok {s:List UInt8} (r:List (List UInt8)) (h:F_q76 s=some r):CallOk Tryz.prog 208 [.d (.str s)] [] (V_q76 r) (L_q76 r):=by
 obtain⟨⟨h0,h1⟩,h⟩:=z1j h
 obtain rfl:=y10 h
 exact zfq (g:=0) kj (by simp[gtabs]) (fun s w hs ha ht=>Any.strings_Fields Tryz.lays157 kj kj s w hs ha ht) h0 h1
end Go.Proofs.YtdmddkbngmhepaaGreatDoor
