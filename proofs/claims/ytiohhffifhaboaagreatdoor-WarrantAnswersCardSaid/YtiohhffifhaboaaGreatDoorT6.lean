/- A part of the proof: laws over any program of the abstract machine. No condition. -/
import Derived.Test.YtiohhffifhaboaaGreatDoorT4
import Derived.Lib.Join
import Derived.Lib.LaidTab
import Derived.Lib.AppendIntMem
namespace Go.TA
open Go Go.RowKit
variable {P:Program} {f:Nat}
theorem zgb (h:∀ (bk o c:Nat) (xs:List ByteArray) (sep:ByteArray) (w:World),(∀ (j:Nat) x,xs[j]? = some x->w.cell? ⟨bk,o+j,none⟩=some (.string x))->bk<w.heap.size->xs.length<=140737488355328->xs.length<=c ->
   (Lib.join (xs.map (·.data.toList)) sep.data.toList).length<=140737488355328 ->
   Calls P f #[.slice (some ⟨bk,o,none⟩) xs.length c,.string sep] w fun e w'=>e = .returned (.string ⟨(Lib.join (xs.map (·.data.toList)) sep.data.toList).toArray⟩)/\Below w.heap.size w w') {l:List Y8} {s:Y8} (h0:0<l.length) (h1:l.length<=140737488355328) (h2:(Lib.join l s).length<=140737488355328) :
  CallOk P f [.d (eL DV.str l),.d (.str s)] [] (.d (.str (Lib.join l s))) []:=by
 refine z2f fun X ms w us hr hus=>?_
 cases hus with
 | cons _ _ u us hu hus =>
 obtain rfl:=z7c hus
 have hu':=IsV.is1 (av:=.d (eL DV.str l)) rfl sj sj hu
 cases hu' with
 | d _ _ hu' =>
 unfold eL at hu'
 generalize hn:l.length=n at hu'
 generalize hus:[u]=us at hu'
 cases hu' with
 | slNil=>omega
 | slEmpty=>omega
 | sl n' f' b off cap sz arr cs k1 k2 hb hh hl hcell =>
  cases hus
  obtain⟨_,hno,e',fz,hheap⟩:=z1o hb
  have hbs:b<w.heap.size:=by
   rcases yp b w.heap.size with h | h
   ·exact h
   ·rw[y3w h] at hheap; cases hheap
  have hcs:∀ j,j<l.length->cs j=[.string ⟨(l.getD j dF).toArray⟩]:=fun j hj=>by
   have:=hh j om
   generalize cs j=z at this
   cases this
   rfl
  have hsz:sz=1:=by
   have:=hl 0 om
   rw[hcs 0 h0] at this
   simpa using this.symm
  subst hsz
  have e1:(l.map fun x=>(⟨x.toArray⟩:ByteArray)).map (·.data.toList)=l:=by
   rw[y4q]
   exact List.map_id' l
  have e2:(ByteArray.mk s.toArray).data.toList=s:=rfl
  have hw:=h b off cap (l.map fun x=>⟨x.toArray⟩) ⟨s.toArray⟩ w (fun j x hx=>by
   have hj:j<l.length:=by
    rcases yp j l.length with h | h
    ·exact h
    ·rw[yi (by simpa using h)] at hx; cases hx
   rw[z5c hheap]
   have h3:=hcell j om 0 om
   rw[hcs j hj] at h3
   simp only[Nat.mul_one,y2y,y4j] at h3
   rw[h3]
   simp only[y25,yc hj,y1k,yw] at hx
   rw[<- hx]
   simp[List.getD_eq_getElem?_getD,List.getElem?_eq_getElem hj]) hbs (by simpa using h1) (by simpa [hn] using k1) (by rw[e1,e2]; exact h2)
  rw[e1,e2,y1x,hn] at hw
  refine hw.mono ?_
  rintro e w' ⟨rfl,hb⟩
  exact⟨_,rfl,hb,fun c=>z3o _⟩
variable {nm:String} {k:IntKind} {zs:List Int} {g:Nat}
theorem zpn {X:Nat->Prop} {ms:Blocks} {L:List Ob} {w:World} (h:Rel X ms L w) (hg:P.globalNamed nm=some g) (hm:(g,zs.map fun z=>Value.int k z)∈gtabs):Lib.TabIs P w nm k zs:=by
 obtain⟨_,_,e,fz,h3⟩:=z1o (h.glob.2 _ hm)
 unfold Lib.TabIs World.var?
 rw[hg,y1e]
 simp only at h3
 rw[h3]
theorem zbw (hg:P.globalNamed nm=some g) (hm:(g,zs.map fun z=>Value.int k z)∈gtabs) (h:∀ (n:Int),-9223372036854775808<=n->n<=9223372036854775807->∀ w,Lib.TabIs P w nm k zs->Calls P f #[.int .i64 n] w fun e w'=>e = .returned (.string ⟨(Lib.itoa n).toArray⟩)/\Below w.heap.size w w') {n:Int} (h0:-9223372036854775808<=n) (h1:n<=9223372036854775807):CallOk P f [.d (.i .i64 n)] [] (.d (.str (Lib.itoa n))) []:=by
 refine z2f fun X ms w us hr hus=>?_
 obtain rfl:=zes hus
 refine (h n h0 h1 w (zpn hr hg hm)).mono ?_
 rintro e w' ⟨rfl,hb⟩
 exact⟨_,rfl,hb,fun c=>z3o _⟩
end Go.TA
