/- A part of the proof: laws over any program of the abstract machine. No condition. -/
import Derived.Test.YtgbpiaddmclccaaGreatDoorT5
import Derived.Lib.Fields
namespace Go.TA
open Go Go.RowKit
theorem zhi {P : Program} {f g : Nat} {te : TypeId} (hg : P.globalNamed "strings.asciiSpace" = some g) (hm : (g, Lib.asciiSpaceTab.map fun z => Value.int .u8 z) ∈ gtabs)
  (h : ∀ (s : ByteArray) (w : World), s.size < 4294967281 -> (∀ (j : Nat) b, s.data.toList[j]? = some b -> b.toNat < 128) -> Lib.TabIs P w "strings.asciiSpace" .u8 Lib.asciiSpaceTab ->
   Calls P f #[.string s] w fun e w'=>e = .returned (.slice (some ⟨w.heap.size,0,none⟩) (Lib.fields s.data.toList).length (Lib.fields s.data.toList).length)/\w'=w.alloc (.cells ((Lib.fields s.data.toList).map fun l=>Value.string ⟨l.toArray⟩).toArray te))
  {s:Y8} (h1:s.length<4294967281) (h2:∀ b∈s,b.toNat<128):CallOk P f [.d (.str s)] [] (.ref 0 (Lib.fields s).length 0 (Lib.fields s).length) [eS 1 DV.str (Lib.fields s)]:=by
 intro X ms w us hr hus
 obtain rfl:=z9l hus
 refine (h ⟨s.toArray⟩ w h1 (fun j b hb=>h2 b (y2r hb)) (zox hr hg hm)).mono ?_
 rintro e w' ⟨rfl,rfl⟩
 have e2:(ByteArray.mk s.toArray).data.toList=s:=rfl
 rw[e2]
 generalize Lib.fields s=l
 obtain⟨q1,q2,q3⟩:=hr.push (m:=some (w.heap.size,l.length)) (obj:=eS 1 DV.str l) (Grow.alloc w (.cells (l.map fun l=>Value.string ⟨l.toArray⟩).toArray te)) (fun b tc e=>by cases e; exact⟨ye _,sj⟩) (fun hcx =>
  .inr ⟨w.heap.size,l.length,_,te,fun k=>[.string ⟨(l.getD k dF).toArray⟩],by simp[cxOf,<- hr.len],z2i w _,ye _,⟨sj,fun v hv=>by
   simp only[y1y] at hv
   obtain⟨x,_,rfl⟩:=hv
   rfl⟩,fun k hk=>.d _ _ (.str _),fun k hk=>rfl,fun k hk j hj=>by
   obtain rfl:j=0:=om
   simp[List.getD_eq_getElem?_getD,hk]⟩)
 exact⟨_,_,rfl,q1,q2,q3,z8j hr.len (ye _)⟩
end Go.TA
