/- A part of the proof: what the functions compute, and that their calls return it. No condition. -/
import Derived.Test.YtdmddkbngmhepaaGreatDoorT6
import Derived.Test.YtdmddkbngmhepaaGreatDoorG1
import Derived.Shelf.Strings.OnBuilder
namespace Go.Proofs.YtdmddkbngmhepaaGreatDoor
open Go Go.TA Go.RowKit
theorem jExtra:Builder.Extra Tryz.prog Tryz.lays156_ren where
 sizeBuilder:=kj
 liesBuilder:=kj
 t5:=Tryz.underlying5
 a5:=Tryz.isAgg5
 z5:=Tryz.sizeOf5
 v5:=Tryz.zeroValue5
 infoByte:=kj
 cellsByte:=kj
 sizeByte:=kj
 neB5:=dk
noncomputable def F_q75 (l:List (List UInt8)) (s:List UInt8):Option (List UInt8):=guardP (0<l.length/\l.length<=140737488355328/\(Lib.join l s).length<=140737488355328) (some (Lib.join l s))
def V_q75 (x:List UInt8):AV:=.d (.str x)
def L_q75 (_:List UInt8):List Ob:=[]
theorem F_q75_ok {l:List (List UInt8)} {s:List UInt8} (r:List UInt8) (h:F_q75 l s=some r):CallOk Tryz.prog 212 [.d (eL DV.str l),.d (.str s)] [] (V_q75 r) (L_q75 r):=by
 obtain⟨⟨h0,h1,h2⟩,h⟩:=z1j h
 obtain rfl:=y10 h
 exact zi8 (fun bk o c xs sep w hc hb hN hcap hl=>Any.strings_Join Tryz.lays156 jExtra bk o c xs sep w hc hb hN hcap hl) h0 h1 h2
noncomputable def F_q70 (n:Int):Option (List UInt8):=guardP (-9223372036854775808<=n/\n<=9223372036854775807) (some (Lib.itoa n))
def V_q70 (x:List UInt8):AV:=.d (.str x)
def L_q70 (_:List UInt8):List Ob:=[]
theorem F_q70_ok {n:Int} (r:List UInt8) (h:F_q70 n=some r):CallOk Tryz.prog 202 [.d (.i .i64 n)] [] (V_q70 r) (L_q70 r):=by
 obtain⟨⟨h0,h1⟩,h⟩:=z1j h
 obtain rfl:=y10 h
 exact zdu (g := 7) (nm := "internal/strconv.uint64pow10") (k := .u64) (zs := Lib.pow10Tab) kj (.head _) (fun n h0 h1 w ht => (Any.strconv_Itoa Tryz.lays171 n h0 h1 w ht).mono (by
  rintro e w' ⟨rfl,k,os,rfl⟩
  exact⟨rfl,Lib.below_grow _ _ (yf _) _ _⟩)) h0 h1
end Go.Proofs.YtdmddkbngmhepaaGreatDoor
