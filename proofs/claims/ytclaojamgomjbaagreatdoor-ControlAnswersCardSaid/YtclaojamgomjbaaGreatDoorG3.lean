/- A part of the proof: what the functions compute, and that their calls return it. No condition. -/
import Derived.Test.YtclaojamgomjbaaGreatDoorT6
import Derived.Test.YtclaojamgomjbaaGreatDoorG1
import Derived.Shelf.Strings.OnBuilder
namespace Go.Proofs.YtclaojamgomjbaaGreatDoor
open Go Go.TA Go.RowKit
theorem jExtra:Builder.Extra Tryz.prog Tryz.lays156_ren where
 sizeBuilder:=by kernel_rfl
 liesBuilder:=by kernel_rfl
 t5:=Tryz.underlying5
 a5:=Tryz.isAgg5
 z5:=Tryz.sizeOf5
 v5:=Tryz.zeroValue5
 infoByte:=by kernel_rfl
 cellsByte:=by kernel_rfl
 sizeByte:=by kernel_rfl
 neB5:=by decide
noncomputable def F_q54 (l:List (List UInt8)) (s:List UInt8):Option (List UInt8):=guardP (0<l.length∧l.length≤140737488355328∧(Lib.join l s).length≤140737488355328) (some (Lib.join l s))
def V_q54 (x:List UInt8):AV:=.d (.str x)
def L_q54 (_:List UInt8):List Ob:=[]
theorem F_q54_ok {l:List (List UInt8)} {s:List UInt8} (r:List UInt8) (h:F_q54 l s=some r):CallOk Tryz.prog 159 [.d (eL DV.str l),.d (.str s)] [] (V_q54 r) (L_q54 r):=by
 obtain⟨⟨h0,h1,h2⟩,h⟩:=z2k h
 obtain rfl:=Option.some.inj h
 exact zfy (fun bk o c xs sep w hc hb hN hcap hl=>Any.strings_Join Tryz.lays156 jExtra bk o c xs sep w hc hb hN hcap hl) h0 h1 h2
noncomputable def F_q51 (n:Int):Option (List UInt8):=guardP (-9223372036854775808≤n∧n≤9223372036854775807) (some (Lib.itoa n))
def V_q51 (x:List UInt8):AV:=.d (.str x)
def L_q51 (_:List UInt8):List Ob:=[]
theorem F_q51_ok {n:Int} (r:List UInt8) (h:F_q51 n=some r):CallOk Tryz.prog 127 [.d (.i .i64 n)] [] (V_q51 r) (L_q51 r):=by
 obtain⟨⟨h0,h1⟩,h⟩:=z2k h
 obtain rfl:=Option.some.inj h
 exact zbo (g := 2) (nm := "internal/strconv.uint64pow10") (k := .u64) (zs := Lib.pow10Tab) (by kernel_rfl) (.head _) (fun n h0 h1 w ht => (Any.strconv_Itoa Tryz.lays171 n h0 h1 w ht).mono (by
  rintro e w' ⟨rfl,k,os,rfl⟩
  exact⟨rfl,Lib.below_grow _ _ (Nat.le_refl _) _ _⟩)) h0 h1
end Go.Proofs.YtclaojamgomjbaaGreatDoor
