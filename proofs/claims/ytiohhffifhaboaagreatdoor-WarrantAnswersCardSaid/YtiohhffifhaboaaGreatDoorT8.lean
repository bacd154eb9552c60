/- A part of the proof: laws over any program of the abstract machine. No condition. -/
import Derived.Shelf.LaysM
import Derived.Shelf.Strconv.Lower
import Derived.Lib.Strings
import Derived.Lib.Walk
import Derived.Lib.ConvBytes
import Derived.Lib.AtoiAllMem
import Derived.Lib.Hide
import Derived.Laws.Strings3
import Derived.Laws.Closers25
import Derived.Laws.Closers25b
import Derived.WalkKit
import Derived.BigCall
import Derived.BigGuard
import Derived.Test.YtiohhffifhaboaaGreatDoorT6
import Derived.Shelf.Strconv.ParseUintEmpty
import Derived.Shelf.Spec.TrailingZeros
import Derived.Lib.Repeat
namespace Go.TA
open Go Go.Shelf Go.RowKit Go.Proofs
def lowN (c:UInt8):Nat:=c.toNat ||| 32
def hexV (c:UInt8):Option Nat :=
 if 48<=c.toNat/\c.toNat<=57 then some (c.toNat-48)
 else if 97<=lowN c/\lowN c<=102 then some (lowN c-87) else none
inductive End16 where
 | ok (n:Nat)
 | bad
 | over
def zin (T:TypeId):End16->Value
 | .ok n=>.tuple #[.int .u64 n,.nilIface]
 | .bad=>.tuple #[.int .u64 0,.iface T (.int .i64 2)]
 | .over=>.tuple #[.int .u64 18446744073709551615,.iface T (.int .i64 1)]
def zu (acc:Nat):Y8->End16
 | []=>.ok acc
 | c :: r =>
  match hexV c with
  | none=>.bad
  | some d=>if 1152921504606846976<=acc then .over else zu (acc * 16+d) r
theorem zof:∀ n:Nat,n<256->bits .or .u8 (n:Int) 32=((n ||| 32:Nat):Int):=by decide +kernel
theorem zmg (c:UInt8):bits .or .u8 (c.toNat:Int) 32=(lowN c:Int):=zof _ c.toNat_lt
theorem zpp (c:UInt8):lowN c<256:=by
 have h:∀ n:Nat,n<256->n ||| 32<256:=by decide +kernel
 exact h _ c.toNat_lt
variable {P:Program} {ρ:Go.Shelf.Ren}
set_option maxHeartbeats 32000000 in
set_option maxRecDepth 100000 in
theorem zex (L:Lays.n287 P ρ) (t:ByteArray) (hne:t.size≠0) (hmax:t.size<=9223372036854775806) (w:World) :
  Calls P (ρ.f 287) #[.string t,.int .i64 16,.int .i64 64] w fun e w'=>e = .returned (zin (ρ.t 167) (zu 0 t.data.toList))/\w'=Lib.bytesWorld w (ρ.t 5) t:=by
 have mixed:=L.mixed
 have t9:=L.t9; have a9:=L.a9; have z9:=L.z9; have v9:=L.v9
 have t3:=L.t3; have a3:=L.a3; have z3:=L.z3; have v3:=L.v3
 have t53:=L.t53; have a53:=L.a53; have z53:=L.z53; have v53:=L.v53
 have t75:=L.t75; have a75:=L.a75; have z75:=L.z75; have v75:=L.v75
 have t4:=L.t4; have a4:=L.a4; have z4:=L.z4; have v4:=L.v4
 have t167:=L.t167; have a167:=L.a167; have z167:=L.z167; have v167:=L.v167
 have t5:=L.t5; have a5:=L.a5; have z5:=L.z5; have v5:=L.v5
 have t46:=L.t46; have a46:=L.a46; have z46:=L.z46; have v46:=L.v46
 have t37:=L.t37; have a37:=L.a37; have z37:=L.z37; have v37:=L.v37
 have t0:=L.t0; have a0:=L.a0; have z0:=L.z0; have v0:=L.v0
 have e321:∀ args w,(callFunc (ρ.f 321) args).run P w = .ok (.enter (ρ.f 321) args) w:=enters_of L.f321 kj rfl
 have hemp:t.toList.isEmpty=false:=by
  rw[<- decide_eq_emptyBytes]
  exact y10 (fun h=>hne (by rw[h]; rfl))
 have hcv:=Lib.run_convert_string_bytes (P:=P) w (ρ.t 9) (ρ.t 37) (ρ.t 5) t (u:=.string) L.t9 L.t37 L.t5
 have hB:∀ j,j<t.size->(Lib.bytesWorld w (ρ.t 5) t).cell? ⟨w.heap.size,j,none⟩=some (.int .u8 (t.data.toList.getD j 0).toNat):=fun j hj=>Lib.bytesWorld_cell w (ρ.t 5) t j hj
 obtain⟨W1,hW1⟩:∃ W1,W1=Lib.bytesWorld w (ρ.t 5) t:=⟨_,rfl⟩
 rw[<- hW1] at hcv hB |-
 clear hW1
 obtain⟨bs,hL⟩:∃ bs,bs=t.data.toList:=⟨_,rfl⟩
 have hLn:bs.length=t.size:=by rw[hL,Lib.size_eq]
 rw[<- hL] at hB |-
 clear hL
 have hmv:IntKind.u64.wrap (IntKind.u64.wrap 18446744073709551616-1)=18446744073709551615:=by
  rw[y2b,y2b]
  decide
 go_enter L.f287,Body.n287_ntmps ρ
 go_wp2
 go_loop [12,13,101] (fun vu vn vi=>∃ (k acc:Nat) (a:Int),vu = .bool false/\vn = .int .u64 a/\vi = .int .i64 k/\k<=t.size/\Hid (a=(acc:Int)/\acc<18446744073709551616/\zu 0 bs=zu acc (bs.drop k)))
  (fun _ _ vi=>t.size-(intOf vi).toNat)
 case atStart=>exact⟨0,0,0,rfl,rfl,rfl,om,rfl,om,rfl⟩
 case round =>
  obtain⟨k,acc,a,rfl,rfl,rfl,hk,hh⟩:=hrel
  obtain⟨ha,hacc,hdec⟩:=hh.out
  clear hh
  have a0:0<=a:=om
  have a1:a<18446744073709551616:=om
  by_cases hkn:k<t.size
  ·have hc:=hB k hkn
   have hdrop:bs.drop k=bs[k]'om :: bs.drop (k+1):=y19 om
   have hget:bs.getD k 0=bs[k]'om:=by simp[List.getD,List.getElem?_eq_getElem (show k<bs.length from om)]
   rw[hdrop] at hdec
   rw[hget] at hc
   generalize bs[k]'om=c at hc hdec
   have hc256:c.toNat<256:=c.toNat_lt
   clear hB hdrop hget
   by_cases hdig:48<=c.toNat/\c.toNat<=57
   ·have hV:hexV c=some (c.toNat-48):=y9 hdig
    obtain⟨hd0,hd1⟩:=hdig
    by_cases hcut:1152921504606846976<=acc
    ·have hF:zu acc (c :: bs.drop (k+1)) = .over:=by simp only[zu,hV,y9 hcut]
     rw[hF] at hdec
     have icut:1152921504606846976<=a:=om
     clear hcut hacc hF ha hV
     go_wp2
     go_ret2
     exact⟨rfl,rfl⟩
    ·have hF:zu acc (c :: bs.drop (k+1))=zu (acc * 16+(c.toNat-48)) (bs.drop (k+1)):=by simp only[zu,hV,y8 hcut]
     have HN:Hid (a * 16+((c.toNat:Int)-48)=((acc * 16+(c.toNat-48):Nat):Int)/\acc * 16+(c.toNat-48)<18446744073709551616/\zu 0 bs=zu (acc * 16+(c.toNat-48)) (bs.drop (k+1))):=Lib.hid ⟨om,om,hdec.trans hF⟩
     have icut:a<1152921504606846976:=om
     clear hcut hacc hF hdec ha hV
     go_wp2
     refine⟨⟨k+1,acc * 16+(c.toNat-48),a * 16+((c.toNat:Int)-48),rfl,(by first | rfl | (congr 1; omega)),(by first | rfl | (congr 1; omega)),om,HN⟩,by simp[intOf]; omega⟩
   ·have hv:=zmg c
    have hv2:=zpp c
    have hVd:hexV c=if 97<=lowN c/\lowN c<=102 then some (lowN c-87) else none:=y8 hdig
    have h95n:c.toNat=95->lowN c=127:=fun h=>by unfold lowN; rw[h]; decide
    generalize lowN c=n at hv hv2 hVd h95n
    obtain⟨v,hvn⟩:∃ v:Int,v=(n:Int):=⟨_,rfl⟩
    rw[<- hvn] at hv
    have low':∀ w,Calls P (ρ.f 321) #[.int .u8 (c.toNat:Int)] w fun e w'=>e = .returned (.int .u8 v)/\w'=w:=fun w=>by
     have:=Any.internal_strconv_lower (P:=P) (ρ:=ρ) { L with } (c.toNat:Int) w
     rw[hv] at this
     exact this
    have u0:0<=v:=om
    have u1:v<=255:=om
    by_cases hlet:97<=n/\n<=102
    ·have h95:¬ (c.toNat:Int)=95:=fun h=>by have:=h95n om; omega
     clear h95n
     have hV:hexV c=some (n-87):=hVd.trans (y9 hlet)
     have w0:97<=v:=om
     have w1:v<=102:=om
     by_cases hcut:1152921504606846976<=acc
     ·have hF:zu acc (c :: bs.drop (k+1)) = .over:=by simp only[zu,hV,y9 hcut]
      rw[hF] at hdec
      have icut:1152921504606846976<=a:=om
      clear hcut hacc hF ha hV hVd hlet
      go_wp2_with (go_at_fn (ρ.f 321); refine (low' _).mono ?_; rintro e w' ⟨rfl,rfl⟩)
      all_goals go_ret2
      all_goals first | exact⟨rfl,rfl⟩ | exact⟨by rw[hdec]; rfl,rfl⟩
     ·have hF:zu acc (c :: bs.drop (k+1))=zu (acc * 16+(n-87)) (bs.drop (k+1)):=by simp only[zu,hV,y8 hcut]
      have HN:Hid (a * 16+(v-87)=((acc * 16+(n-87):Nat):Int)/\acc * 16+(n-87)<18446744073709551616/\zu 0 bs=zu (acc * 16+(n-87)) (bs.drop (k+1))):=Lib.hid ⟨om,om,hdec.trans hF⟩
      have icut:a<1152921504606846976:=om
      clear hcut hacc hF hdec ha hV hVd hlet
      go_wp2_with (go_at_fn (ρ.f 321); refine (low' _).mono ?_; rintro e w' ⟨rfl,rfl⟩)
      all_goals refine⟨⟨k+1,acc * 16+(n-87),a * 16+(v-87),rfl,(by first | rfl | (congr 1; omega)),(by first | rfl | (congr 1; omega)),om,HN⟩,by simp[intOf]; omega⟩
    ·have hV:hexV c=none:=hVd.trans (y8 hlet)
     have hF:zu acc (c :: bs.drop (k+1)) = .bad:=by simp only[zu,hV]
     rw[hF] at hdec
     have hout:v<=96\/103<=v:=om
     clear hacc hF ha hV hVd
     by_cases h95:(c.toNat:Int)=95
     ·have low95:∀ w,Calls P (ρ.f 321) #[.int .u8 95] w fun e w'=>e = .returned (.int .u8 127)/\w'=w:=fun w=>by
       have:=Any.internal_strconv_lower (P:=P) (ρ:=ρ) { L with } 95 w
       rw[show bits .or .u8 (95:Int) 32=127 by decide +kernel] at this
       exact this
      rw[h95] at hc
      clear low' hout u0 u1 h95n
      go_wp2_with (go_at_fn (ρ.f 321); refine (low95 _).mono ?_; rintro e w' ⟨rfl,rfl⟩)
      all_goals go_ret2
      all_goals first | exact⟨rfl,rfl⟩ | exact⟨by rw[hdec]; rfl,rfl⟩
     ·clear h95n
      rcases hout with hout | hout
      ·go_wp2_with (go_at_fn (ρ.f 321); refine (low' _).mono ?_; rintro e w' ⟨rfl,rfl⟩)
       all_goals go_ret2
       all_goals first | exact⟨rfl,rfl⟩ | exact⟨by rw[hdec]; rfl,rfl⟩
      ·go_wp2_with (go_at_fn (ρ.f 321); refine (low' _).mono ?_; rintro e w' ⟨rfl,rfl⟩)
       all_goals go_ret2
       all_goals first | exact⟨rfl,rfl⟩ | exact⟨by rw[hdec]; rfl,rfl⟩
  ·have hkk:k=t.size:=om
   subst hkk
   have hF:zu acc (bs.drop t.size) = .ok acc:=by rw[List.drop_eq_nil_of_le om]; rfl
   rw[hF] at hdec
   subst ha
   clear hacc hF a0 a1
   go_wp2
   go_ret2
   exact⟨rfl,rfl⟩
end Go.TA
namespace Go.TA
open Go Go.Shelf Go.RowKit Go.Proofs
abbrev z14:Y8:=[48,49,50,51,52,53,54,55,56,57,97,98,99,100,101,102,103,104,105,106,107,108,109,110,111,112,113,114,115,116,117,118,119,120,121,122]
def z2q (l:Y8):End16:=if l=[] then .bad else zu 0 l
def endU:End16->Int×Bool
 | .ok n=>(n,false)
 | .bad=>(0,true)
 | .over=>(18446744073709551615,true)
variable {c:Cx} {us:List Value}
theorem z42 {a:AV} {bs:List AV} (h:AV.IsVs c (a :: bs) us):∃ u vs,us=u :: vs/\AV.IsV c a u/\AV.IsVs c bs vs:=by
 cases h with
 | cons _ _ u us h1 h2=>exact⟨_,_,rfl,h1,h2⟩
theorem zae (h:AV.IsVs c [] us):us=[]:=by
 cases h
 rfl
variable {n:Int} {u:Value}
theorem z93 {k:IntKind} (h:AV.IsV c (.d (.i k n)) u):u = .int k n:=by
 have h:=IsV.is1 (av:=.d (.i k n)) rfl sj sj h
 cases h with
 | d _ _ h=>cases h; rfl
variable {l:Y8}
theorem zhc (h:AV.IsV c (.d (.str l)) u):u = .string ⟨l.toArray⟩:=by
 have h:=IsV.is1 (av:=.d (.str l)) rfl sj sj h
 cases h with
 | d _ _ h=>cases h; rfl
variable {P:Program}
theorem zpq {ρ:Go.Shelf.Ren} (L:Lays.n287 P ρ) (s:ByteArray) (hmax:s.size<=9223372036854775806) (w:World) :
  Calls P (ρ.f 287) #[.string s,.int .i64 16,.int .i64 64] w fun e w'=>e = .returned (zin (ρ.t 167) (z2q s.data.toList))/\(w'=w\/∃ t,w'=Lib.bytesWorld w (ρ.t 5) t):=by
 by_cases h0:s.size=0
 ·have hs:s=⟨#[]⟩:=by
   apply ByteArray.ext
   exact Array.eq_empty_of_size_eq_zero h0
  subst hs
  exact (Any.internal_strconv_ParseUint_empty L 16 64 w).mono fun e w' ⟨he,hw⟩=>⟨he,.inl hw⟩
 ·have hn:s.data.toList≠[]:=fun h=>h0 (by
   have:=y29 List.length h
   simpa using this)
  refine (zex L s h0 hmax w).mono fun e w' ⟨he,hw⟩=>⟨?_,.inr ⟨s,hw⟩⟩
  rw[he,z2q,y8 hn]
variable {f:Nat}
theorem zkn {gs gr:Nat} {te:TypeId} (hgs:gs∈globs) (hgr:gr∈globs) (hok:∀ (s:ByteArray),s.size<=281474976710656->∀ v,z2q s.data.toList = .ok v->∀ w,Calls P f #[.string s,.int .i64 16,.int .i64 64] w fun e w'=>e = .returned (.tuple #[.int .u64 v,.nilIface])/\Below w.heap.size w w') (hsy:∀ (s:ByteArray),s.size<=281474976710656->z2q s.data.toList = .bad->∀ (ev:Value) (w:World),w.cell? ⟨gs,0,none⟩=some ev->(ev = .nilIface\/∃ te pe,ev = .iface te pe) ->
   Calls P f #[.string s,.int .i64 16,.int .i64 64] w fun e w'=>∃ N,e = .returned (.tuple #[.int .u64 0,.iface te (.pointer (some ⟨N,0,none⟩))])/\Below w.heap.size w w') (hra:∀ (s:ByteArray),s.size<=281474976710656->z2q s.data.toList = .over->∀ (ev:Value) (w:World),w.cell? ⟨gr,0,none⟩=some ev->(ev = .nilIface\/∃ te pe,ev = .iface te pe) ->
   Calls P f #[.string s,.int .i64 16,.int .i64 64] w fun e w'=>∃ N,e = .returned (.tuple #[.int .u64 18446744073709551615,.iface te (.pointer (some ⟨N,0,none⟩))])/\Below w.heap.size w w') (hl:l.length<=281474976710656):CallOk P f [.d (.str l),.d (.i .i64 16),.d (.i .i64 64)] [] (.tup [.d (.i .u64 (endU (z2q l)).1),.err (endU (z2q l)).2]) []:=by
 refine z2f fun X ms w us hr hus=>?_
 obtain⟨_,_,rfl,h1,hus⟩:=z42 hus
 obtain⟨_,_,rfl,h2,hus⟩:=z42 hus
 obtain⟨_,_,rfl,h3,hus⟩:=z42 hus
 obtain rfl:=zae hus
 obtain rfl:=zhc h1
 obtain rfl:=z93 h2
 obtain rfl:=z93 h3
 have hd:(⟨l.toArray⟩:ByteArray).data.toList=l:=sj
 have hsz:(⟨l.toArray⟩:ByteArray).size<=281474976710656:=by simpa [ByteArray.size] using hl
 have tup:∀ (c:Cx) (n:Int) (b:Bool) (v:Value),ifB v=some b->AV.IsV c (.tup [.d (.i .u64 n),.err b]) (.tuple #[.int .u64 n,v]):=fun c n b v hv =>
  .tup _ [_,_] (.cons _ _ _ _ (z33 _ _) (.cons _ _ _ _ (.one _ _ rfl (.err _ _ hv)) .nil))
 cases ha:z2q l with
 | ok v =>
  refine (hok ⟨l.toArray⟩ hsz v (by rw[hd]; exact ha) w).mono ?_
  rintro e w' ⟨rfl,hb⟩
  exact⟨_,rfl,hb,fun c=>tup c _ _ _ rfl⟩
 | over =>
  obtain⟨ev,h1,h2⟩:=z6a hr hgr
  refine (hra ⟨l.toArray⟩ hsz (by rw[hd]; exact ha) ev w h1 h2).mono ?_
  rintro e w' ⟨N,rfl,hb⟩
  exact⟨_,rfl,hb,fun c=>tup c _ _ _ rfl⟩
 | _ =>
  obtain⟨ev,h1,h2⟩:=z6a hr hgs
  refine (hsy ⟨l.toArray⟩ hsz (by rw[hd]; exact ha) ev w h1 h2).mono ?_
  rintro e w' ⟨N,rfl,hb⟩
  exact⟨_,rfl,hb,fun c=>tup c _ _ _ rfl⟩
theorem zio (h:∀ (s:ByteArray) (c:Nat) (w:World),c<=9223372036854775807->s.size * c<=140737488355328 ->
   Calls P f #[.string s,.int .i64 c] w fun e w'=>e = .returned (.string ⟨(Lib.repeatL s.data.toList c).toArray⟩)/\Below w.heap.size w w') (h0:0<=n) (h1:n<=1000) (hl:l.length<=1000):CallOk P f [.d (.str l),.d (.i .i64 n)] [] (.d (.str (Lib.repeatL l n.toNat))) []:=by
 refine z2f fun X ms w us hr hus=>?_
 obtain⟨_,_,rfl,h2,hus⟩:=z42 hus
 obtain⟨_,_,rfl,h3,hus⟩:=z42 hus
 obtain rfl:=zae hus
 obtain rfl:=zhc h2
 obtain rfl:=z93 h3
 have hsz:(⟨l.toArray⟩:ByteArray).size<=1000:=by simpa [ByteArray.size] using hl
 have hm:(⟨l.toArray⟩:ByteArray).size * n.toNat<=1000 * 1000:=Nat.mul_le_mul hsz om
 have:=h ⟨l.toArray⟩ n.toNat w om om
 rw[y2c h0] at this
 refine this.mono ?_
 rintro e w' ⟨rfl,hb⟩
 exact⟨_,rfl,hb,fun c=>z3o _⟩
theorem zko {g:Nat} (hm:(g,zi3.map fun z=>Value.int .u8 z)∈gtabs) (h:∀ (x:Nat),x<18446744073709551616->∀ w,TabAt g Lib.deBruijn64tab w->Calls P f #[.int .u64 x] w fun e w'=>e = .returned (.int .i64 (Lib.ctz 64 x))/\w'=w) (h0:0<=n) (h1:n<18446744073709551616):CallOk P f [.d (.i .u64 n)] [] (.d (.i .i64 (Lib.ctz 64 n.toNat))) []:=by
 refine z2f fun X ms w us hr hus=>?_
 obtain⟨_,_,rfl,h2,hus⟩:=z42 hus
 obtain rfl:=zae hus
 obtain rfl:=z93 h2
 have ht:TabAt g Lib.deBruijn64tab w:=fun j hj=>by
  obtain⟨_,_,e,fz,h3⟩:=z1o (hr.glob.2 _ hm)
  simp only[World.cell?,h3]
  simp[zi3,List.getD_eq_getElem?_getD,List.getElem?_eq_getElem hj]
 have:=h n.toNat om w ht
 rw[y2c h0] at this
 refine this.mono ?_
 rintro e w' ⟨rfl,rfl⟩
 exact⟨_,rfl,Below.refl _ _,fun c=>z33 _ _⟩
end Go.TA
