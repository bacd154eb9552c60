/- A part of the proof: laws over any program of the abstract machine. No condition. -/
import Derived.Test.YtbmpcbbimefmoaaGreatDoorT2
import Derived.Handed
namespace Go.TA
open Go Go.ChangeShapes Go.WideShapes Go.ChangeAt Go.RowKit
variable {α:Type}
section
variable {H:Type} (enc:TypeId×Value->H) (P:Program) (W:World) (base:Nat) (spare:Nat->Bool) (held:Bool)
def ReadsW (t:TypeId) (sz:Nat) (e:α->DV) (ok:α->Prop):Prop :=
 ∀ (fuel:Nat) (cs:List Value) (x:DataW H×List MemPlace),DataW.trod enc P W base spare held fuel t cs=some x->(x.1.weights P t).all (· <= reachBytes)=true->∃ a,DV.Is (cx0 W).M (e a) cs/\cs.length=sz/\ok a
def ReadsLW (fs:List Field) (off total:Nat) (Q:List DV->Prop):Prop :=
 ∀ (cs:List Value) (D:List (DataW H)),cs.length=total->(∀ (i:Nat) (f:Field),fs[i]? = some f->∃ fuel d pl,DataW.trod enc P W base spare held fuel f.type ((cs.drop f.offset).take (P.cellsOf f.type))=some (d,pl)/\D[i]? = some d) ->
  (DataW.weightsEach P (fs.map (·.type)) D).all (· <= reachBytes)=true->∃ ds,DV.IsL (cx0 W).M ds (cs.drop off)/\Q ds
end
variable {t:TypeId} {e:α->DV} {ok:α->Prop} {sz total:Nat} {Q:List DV->Prop} {ps:List MemPlace}
section
variable {H:Type} {enc:TypeId×Value->H} {P:Program} {W:World} {base:Nat} {spare:Nat->Bool} {held:Bool}
theorem zr (h:Reads enc P W base spare held t sz e ok):ReadsW enc P W base spare held t sz e ok:=fun fuel cs x hx _=>h fuel cs x hx
theorem zhj (ht:P.underlying t=some .string):ReadsW enc P W base spare held t 1 DV.str (fun l=>l.length<=reachBytes):=fun fuel cs x h hw=>by
 obtain⟨s,rfl,rfl,_⟩:=DataW.trod_string ht h
 refine⟨s.data.toList,?_,rfl,?_⟩
 ·have:s=⟨s.data.toList.toArray⟩:=sj
  rw[this]
  exact .str _
 ·simpa [DataW.weights] using hw
theorem z2l:ReadsLW enc P W base spare held [] total total (fun ds=>ds=[]):=fun cs D hl _ _ =>
 ⟨[],by rw[<- hl,List.drop_length]; exact .nil,rfl⟩
theorem ze {f:Field} {fs:List Field} {off:Nat} (hf:f.offset=off) (hc:P.cellsOf f.type=sz) (h:ReadsW enc P W base spare held f.type sz e ok) (ht:ReadsLW enc P W base spare held fs (off+sz) total Q):ReadsLW enc P W base spare held (f :: fs) off total (fun ds=>∃ a ds',ds=e a :: ds'/\ok a/\Q ds'):=fun cs D hl hx hw=>by
 obtain⟨fuel,d,pl,h1,h2⟩:=hx 0 f rfl
 cases D with
 | nil=>cases h2
 | cons d' D =>
  obtain rfl:d'=d:=by simpa using h2
  simp only[y2n,DataW.weightsEach,y5l,ya] at hw
  rw[hf,hc] at h1
  obtain⟨a,a1,a2,a3⟩:=h _ _ _ h1 hw.1
  obtain⟨ds,d1,d2⟩:=ht cs D hl (fun i g hg=>hx (i+1) g hg) hw.2
  refine⟨e a :: ds,?_,a,ds,rfl,a3,d2⟩
  have e1:cs.drop off=(cs.drop off).take sz++cs.drop (off+sz):=by
   conv=>lhs; rw[<- y2b sz (cs.drop off)]
   rw[List.drop_drop]
  rw[e1]
  exact .cons _ _ _ _ a1 d1
theorem z24 {fs:Array Field} (ht:P.underlying t=some (.struct fs)) (hc:P.cellsOf t=total) (h:ReadsLW enc P W base spare held fs.toList 0 total Q) (hQ:∀ ds,Q ds->∃ a,DV.agg ds=e a/\ok a):ReadsW enc P W base spare held t total e ok:=fun fuel cs x hx hw=>by
 obtain⟨xs,n,_,rfl,hl,hlen,hf⟩:=DataW.trod_struct ht hx
 obtain⟨ds,d1,d2⟩:=h cs (xs.map (·.1)) (by rw[hl,hc]) (fun i f hi=>by
  have hi':i<fs.size:=by
   have:=(List.getElem?_eq_some_iff.1 hi).1
   simpa using this
  have:=hf i f (by simpa using hi)
  rw[yh (show i<xs.length from om)] at this
  exact⟨n,(xs[i]'om).1,(xs[i]'om).2,this,by simp[List.getElem?_eq_getElem (show i<xs.length from om)]⟩) (by simpa only [DataW.weights,ht] using hw)
 obtain⟨a,a1,a2⟩:=hQ ds d2
 rw[y4x] at d1
 exact⟨a,a1▸.agg _ _ d1,by rw[hl,hc],a2⟩
theorem za1 (h:ReadsW enc P W base spare held t 1 e ok) {v:Value} (hv:v.cells.toList=[v]) (he:∀ a,(AV.d (e a)).isAgg=false) {d:DataW H} (hd:DataW.Trod enc P W base spare held t v d ps) (hw:(d.weights P t).all (· <= reachBytes)=true):∃ a,AV.IsV (cx0 W) (.d (e a)) v/\ok a:=by
 obtain⟨fuel,hf⟩:=hd
 rw[hv] at hf
 obtain⟨a,a1,_,a3⟩:=h _ _ _ hf hw
 exact⟨a,.one _ _ (he a) (.d _ _ a1),a3⟩
theorem zl8 (h:ReadsW enc P W base spare held t sz e ok) {cs:Array Value} (he:∀ a,(AV.d (e a)).isAgg=true) {d:DataW H} (hd:DataW.Trod enc P W base spare held t (.agg cs) d ps) (hw:(d.weights P t).all (· <= reachBytes)=true):∃ a,AV.IsV (cx0 W) (.d (e a)) (.agg cs)/\ok a:=by
 obtain⟨fuel,hf⟩:=hd
 obtain⟨a,a1,_,a3⟩:=h _ _ _ hf hw
 refine⟨a,?_,a3⟩
 have:=AV.IsV.agg (c:=cx0 W) (.d (e a)) (Value.cells (.agg cs)).toList (he a) (.d _ _ a1)
 simpa [Value.cells] using this
theorem z4p {ts:List TypeId} {d:DataW H} {r:List (DataW H)} (h:(DataW.weightsEach P (t :: ts) (d :: r)).all (· <= reachBytes)=true):(d.weights P t).all (· <= reachBytes)=true/\(DataW.weightsEach P ts r).all (· <= reachBytes)=true:=by
 simpa only [DataW.weightsEach,y5l,ya] using h
end
end Go.TA
namespace Go.TA
open Go Go.ChangeShapes Go.WideShapes Go.ChangeAt Go.RowKit
section
variable {H:Type} {enc:TypeId×Value->H} {P:Program} {W:World} {base:Nat} {spare:Nat->Bool} {held:Bool}
theorem z6x {e:TypeId} {p:Nat->Bool}:∀ {l:List (DataW H)},(DataW.weightsAll P e l).all p=true->∀ d∈l,(d.weights P e).all p=true
 | [],_,d,hd=>by cases hd
 | x :: l,h,d,hd=>by
  rw[DataW.weightsAll,y5l,ya] at h
  rcases yv.1 hd with rfl | hd
  ·exact h.1
  ·exact z6x h.2 d hd
theorem z2f {t e:TypeId} {sz:Nat} {α:Type} [Inhabited α] {f:α->DV} {ok:α->Prop} (ht:P.underlying t=some (.slice e)) (hc:P.cellsOf e=sz) (hpos:0<sz) (h:ReadsW enc P W base spare held e sz f ok) :
  ReadsW enc P W base spare held t 1 (eL f) (fun l=>∀ a∈l,ok a):=fun fuel cs x hx hw=>by
 rcases Deep.open_slice ht hx with ⟨rfl,_⟩ | ⟨a,len,cap,m,n,D,Pl,rfl,_,hl,hm,hmm,rfl,hel⟩
 ·exact⟨[],.slNil _,rfl,fun a ha=>by cases ha⟩
 ·have hlm:len<=m:=by rw[hmm]; split <;> omega
  simp only[DataW.weights,ht,y3z,y5l,ya] at hw
  have hD:∀ i,i<len->((D i).weights P e).all (· <= reachBytes)=true:=fun i hi=>z6x hw.2.1 _ (yz.2 ⟨i,y1l.2 hi,rfl⟩)
  obtain⟨A,hA⟩:=Deep.choose_lt (α:=α×List Value) (n:=len) (p:=fun i y=>W.cells? base (a.add (i * P.cellsOf e)) (P.cellsOf e)=some y.2/\DV.Is (cx0 W).M (f y.1) y.2/\y.2.length=sz/\ok y.1) (fun i hi=>by
   obtain⟨cs',h1,h2⟩:=hel i om
   obtain⟨b,b1,b2,b3⟩:=h _ _ _ h2 (hD i hi)
   exact⟨(b,cs'),h1,b1,b2,b3⟩)
  refine⟨(List.range len).map fun i=>(A i).1,?_,rfl,fun b hb=>?_⟩
  ·have hll:((List.range len).map fun i=>(A i).1).length=len:=sj
   unfold eL
   rw[hll]
   rcases y2u len with h0 | h0
   ·subst h0
    exact .slEmpty _ _ _
   ·obtain⟨b,off,sp⟩:=a
    obtain⟨_,_,hcell⟩:=y50 (hA 0 h0).1
    rw[hc] at hcell
    have c0:=hcell 0 hpos
    have l0:=(hA 0 h0).2.2.1
    rw[yh om] at c0
    obtain⟨s0,c,e',fr,hb,_⟩:=z6f c0
    simp[Addr.add] at s0 hb
    subst s0
    refine .sl len _ b off cap sz c (fun i=>(A i).2) hl (by have:=hm; unfold maxLen at this; omega) (zo2 hb) (fun i hi=>?_) (fun i hi=>(hA i hi).2.2.1) (fun i hi j hj=>?_)
    ·have:((List.range len).map fun i=>(A i).1).getD i dF=(A i).1:=by simp[hi]
     rw[this]
     exact (hA i hi).2.1
    ·obtain⟨_,_,hcell⟩:=y50 (hA i hi).1
     rw[hc] at hcell
     have ci:=hcell j hj
     have li:=(hA i hi).2.2.1
     rw[yh om] at ci
     rw[z22,z22] at ci
     obtain⟨_,c',e'',fr',hb',hc'⟩:=z6f ci
     simp only at hb' hc'
     rw[hb] at hb'
     cases hb'
     rw[hc',yh om]
  ·obtain⟨i,hi,rfl⟩:=yz.1 hb
   exact (hA i (y1l.1 hi)).2.2.2
end
end Go.TA
