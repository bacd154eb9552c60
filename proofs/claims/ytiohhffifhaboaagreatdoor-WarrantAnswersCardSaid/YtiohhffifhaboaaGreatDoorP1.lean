/- A part of the proof: plain laws of what the functions compute. No condition. -/
import Derived.Test.YtiohhffifhaboaaGreatDoorT7
import Derived.Test.YtiohhffifhaboaaGreatDoorG1
import Derived.Shelf.Strings.Split
namespace Go.Proofs.YtiohhffifhaboaaGreatDoor
open Go Go.TA Go.RowKit Go.Shelf
theorem zb5 (c:UInt8):∀ l:Y8,Lib.splitK [c] 0 (Lib.count l [c]) l=splitU c l
 | []=>by
  rw[Lib.count_one]
  rfl
 | b :: l=>by
  have ih:=zb5 c l
  by_cases h:b=c
  ·subst h
   rw[Lib.count_cons_eq,Nat.add_comm]
   have hix:Lib.index (b :: l) [b]=((0:Nat):Int):=by rw[Lib.index]; simp[List.isPrefixOf]
   unfold Lib.splitK
   rw[hix]
   simp only[splitU,y3p]
   rw[y8 dk]
   simp only[yh,y2y,List.take_zero,y14,y1g,y51,List.drop_zero]
   rw[ih]
  ·rw[Lib.count_cons_ne b c l h]
   have hp:([c]:Y8).isPrefixOf (b :: l)=false:=by simp[List.isPrefixOf,Ne.symm h]
   have hix:Lib.index (b :: l) [c]=if Lib.index l [c]==-1 then -1 else Lib.index l [c]+1:=by rw[Lib.index,hp]; simp
   simp only[splitU,y8 h]
   rw[<- ih]
   cases hk:Lib.count l [c] with
   | zero=>rfl
   | succ k =>
    unfold Lib.splitK
    rw[hix]
    by_cases hm:Lib.index l [c]=-1
    ·rw[Lib.count_miss hm] at hk; cases hk
    ·have hge:=Lib.index_ge l [c]
     obtain⟨j,hj⟩:∃ j:Nat,Lib.index l [c]=j:=⟨(Lib.index l [c]).toNat,om⟩
     rw[y8 (c:=(Lib.index l [c]==-1)=true) (fun e=>hm (y1a.1 e)),y8 (c:=(Lib.index l [c]==-1)=true) (fun e=>hm (y1a.1 e)),hj]
     rw[y8 (fun e=>by have:=y1a.1 e; omega)]
     have e1:((j:Int)+1).toNat=j+1:=om
     simp only[e1,yh,y2y,y3r,y1g,y51]
section
variable {P:Program} {ρ:Ren}
theorem zdk (L:Lays.n146 P ρ) (hi9:(P.info? (ρ.t 9)).map (fun i=>(i.zero,i.size,i.bytes))=some (some (.string ByteArray.empty),1,16)) (s:ByteArray) (c:UInt8) (w:World) (hs:s.size<4294967281) :
  Calls P (ρ.f 146) #[.string s,.string ⟨#[c]⟩] w fun e w' =>
   e = .returned (.slice (some ⟨w.heap.size,0,none⟩) (Lib.countB s ⟨#[c]⟩+1) (Lib.countB s ⟨#[c]⟩+1))/\w'=w.alloc (.cells ((Lib.splitB ⟨#[c]⟩ 0 (Lib.countB s ⟨#[c]⟩) s).map Value.string).toArray (ρ.t 9)):=by
 have h1:1<=(ByteArray.mk #[c]).size:=yf 1
 have hle:=Lib.countB_le ⟨#[c]⟩ h1 s.size s (yf _)
 have hlen:=Lib.splitB_all ⟨#[c]⟩ h1 0 _ s rfl
 have g:=Any.strings_genSplit_core (ρ:=ρ) { L with } hi9 s ⟨#[c]⟩ 0 (-1) (Lib.countB s ⟨#[c]⟩+1) w hs h1 (y4k _)
  (fun x k _=>(Any.strings_Index_one { L with } x c _).mono fun e w' ⟨he,hw⟩=>⟨by rw[he,<- Lib.index_one],hw⟩)
  ((Any.strings_Count_one { L with } s c w).mono fun e w' ⟨he,hw⟩=>⟨by
   rw[he]
   show _=Ending.returned (Value.int .i64 ((Lib.count s.data.toList [c]:Nat):Int))
   rw[Lib.count_one]
   rfl,hw⟩)
  dk dk (by rw[y9 dk]; omega)
 rw[Nat.add_sub_cancel,hlen] at g
 have e2:Lib.cellsOf (Lib.splitB ⟨#[c]⟩ 0 (Lib.countB s ⟨#[c]⟩) s) (Lib.countB s ⟨#[c]⟩+1)=((Lib.splitB ⟨#[c]⟩ 0 (Lib.countB s ⟨#[c]⟩) s).map Value.string).toArray:=by rw[<- hlen]; exact Lib.cellsOf_full _
 rw[e2] at g
 have t3:=L.t3; have t9:=L.t9; have t31:=L.t31
 have a3:=L.a3; have a9:=L.a9; have a31:=L.a31
 have z3:=L.z3; have v3:=L.v3; have z9:=L.z9; have v9:=L.v9; have z31:=L.z31; have v31:=L.v31
 have e221:∀ args w,(callFunc (ρ.f 221) args).run P w = .ok (.enter (ρ.f 221) args) w:=enters_of L.f221 kj rfl
 go_enter L.f146,Body.n146_ntmps ρ
 go_wp2_with (go_at_fn (ρ.f 221); refine g.mono ?_; rintro e w' ⟨rfl,hw⟩; rw[hw])
 go_ret
 exact⟨rfl,rfl⟩
end
theorem zew {P:Program} {f:Nat} {te:TypeId} {c:UInt8}
  (h:∀ (s:ByteArray) (w:World),s.size<4294967281->Calls P f #[.string s,.string ⟨#[c]⟩] w fun e w' =>
   e = .returned (.slice (some ⟨w.heap.size,0,none⟩) (Lib.countB s ⟨#[c]⟩+1) (Lib.countB s ⟨#[c]⟩+1))/\w'=w.alloc (.cells ((Lib.splitB ⟨#[c]⟩ 0 (Lib.countB s ⟨#[c]⟩) s).map Value.string).toArray te))
  {s:Y8} (h1:s.length<4294967281):CallOk P f [.d (.str s),.d (.str [c])] [] (.ref 0 (splitU c s).length 0 (splitU c s).length) [eS 1 DV.str (splitU c s)]:=by
 intro X ms w us hr hus
 cases hus with
 | cons _ _ u us h2 h3 =>
 obtain rfl:=IsV.str h2
 obtain rfl:=z7c h3
 have hd:(Lib.splitB ⟨#[c]⟩ 0 (Lib.countB ⟨s.toArray⟩ ⟨#[c]⟩) ⟨s.toArray⟩).map (·.data.toList)=splitU c s:=by
  rw[Lib.splitB_data]
  exact zb5 c s
 have hl:Lib.countB ⟨s.toArray⟩ ⟨#[c]⟩+1=(splitU c s).length:=by
  rw[<- hd,y1x]
  exact (Lib.splitB_all ⟨#[c]⟩ (yf 1) 0 _ ⟨s.toArray⟩ rfl).symm
 have hm:(Lib.splitB ⟨#[c]⟩ 0 (Lib.countB ⟨s.toArray⟩ ⟨#[c]⟩) ⟨s.toArray⟩).map Value.string=(splitU c s).map fun l=>Value.string ⟨l.toArray⟩:=by
  rw[<- hd,y4q]
  rfl
 refine (h ⟨s.toArray⟩ w h1).mono ?_
 rw[hl,hm]
 rintro e w' ⟨rfl,rfl⟩
 generalize splitU c s=l
 obtain⟨q1,q2,q3⟩:=hr.push (m:=some (w.heap.size,l.length)) (obj:=eS 1 DV.str l) (Grow.alloc w (.cells (l.map fun l=>Value.string ⟨l.toArray⟩).toArray te)) (fun b tc e=>by cases e; exact⟨yf _,sj⟩) (fun hcx =>
  .inr ⟨w.heap.size,l.length,_,te,fun k=>[.string ⟨(l.getD k dF).toArray⟩],by simp[cxOf,<- hr.len],z2e w _,yf _,⟨sj,fun v hv=>by
   simp only[y1l] at hv
   obtain⟨x,_,rfl⟩:=hv
   rfl⟩,fun k hk=>.d _ _ (.str _),fun k hk=>rfl,fun k hk j hj=>by
   obtain rfl:j=0:=om
   simp[List.getD_eq_getElem?_getD,hk]⟩)
 exact⟨_,_,rfl,q1,q2,q3,z6r hr.len (yf _)⟩
noncomputable def F_q44 (s c:Y8):Option (List Y8):=match c with
 | [c]=>guardP (s.length<4294967281) (some (splitU c s))
 | _=>none
def V_q44 (x:List Y8):AV:=.ref 0 x.length 0 x.length
def L_q44 (x:List Y8):List Ob:=[eS 1 DV.str x]
theorem F_q44_ok {s c:Y8} (r:List Y8) (h:F_q44 s c=some r):CallOk Tryz.prog 42 [.d (.str s),.d (.str c)] [] (V_q44 r) (L_q44 r):=by
 unfold F_q44 at h
 split at h
 ·obtain⟨h0,h⟩:=z1m h
  obtain rfl:=yn h
  exact zew (fun s w hs=>zdk Tryz.lays146 kj s _ w hs) h0
 ·cases h
end Go.Proofs.YtiohhffifhaboaaGreatDoor
