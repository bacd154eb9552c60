/- A part of the proof: what the functions compute, and that their calls return it. No condition. -/
import Derived.Test.YtiohhffifhaboaaGreatDoorT6
import Derived.Test.YtiohhffifhaboaaGreatDoorG1
import Derived.Shelf.Strings.OnBuilder
namespace Go.Proofs.YtiohhffifhaboaaGreatDoor
open Go Go.TA Go.RowKit
theorem jExtra:Builder.Extra Tryz.prog Tryz.lays156_ren where
 sizeBuilder:=kj
 liesBuilder:=kj
 t5:=Tryz.underlying5
 a5:=Tryz.isAgg5
 z5:=Tryz.sizeOf5
 v5:=Tryz.zeroValue5
 infoByte:=kj
 cellsByte:=kj
 sizeByte:=kj
 neB5:=dk
noncomputable def F_q48 (l:List Y8) (s:Y8):Option Y8:=guardP (0<l.length/\l.length<=140737488355328/\(Lib.join l s).length<=140737488355328) (some (Lib.join l s))
def V_q48 (x:Y8):AV:=.d (.str x)
def L_q48 (_:Y8):List Ob:=[]
theorem F_q48_ok {l:List Y8} {s:Y8} (r:Y8) (h:F_q48 l s=some r):CallOk Tryz.prog 56 [.d (eL DV.str l),.d (.str s)] [] (V_q48 r) (L_q48 r):=by
 obtain⟨⟨h0,h1,h2⟩,h⟩:=z1m h
 obtain rfl:=yn h
 exact zgb (fun bk o c xs sep w hc hb hN hcap hl=>Any.strings_Join Tryz.lays156 jExtra bk o c xs sep w hc hb hN hcap hl) h0 h1 h2
noncomputable def F_q43 (n:Int):Option Y8:=guardP (-9223372036854775808<=n/\n<=9223372036854775807) (some (Lib.itoa n))
def V_q43 (x:Y8):AV:=.d (.str x)
def L_q43 (_:Y8):List Ob:=[]
theorem F_q43_ok {n:Int} (r:Y8) (h:F_q43 n=some r):CallOk Tryz.prog 55 [.d (.i .i64 n)] [] (V_q43 r) (L_q43 r):=by
 obtain⟨⟨h0,h1⟩,h⟩:=z1m h
 obtain rfl:=yn h
 exact zbw (g := 3) (nm := "internal/strconv.uint64pow10") (k := .u64) (zs := Lib.pow10Tab) kj (.head _) (fun n h0 h1 w ht => (Any.strconv_Itoa Tryz.lays171 n h0 h1 w ht).mono (by
  rintro e w' ⟨rfl,k,os,rfl⟩
  exact⟨rfl,Lib.below_grow _ _ (yf _) _ _⟩)) h0 h1
end Go.Proofs.YtiohhffifhaboaaGreatDoor
