/- A part of the proof: plain laws of what the functions compute. No condition. -/
import Derived.Test.YtclaojamgomjbaaGreatDoorP1
import Derived.Lib.ItoaLen
namespace Go.Proofs.YtclaojamgomjbaaGreatDoor
open Go Go.TA
def usedE (b:TBo) (c:List UInt8) (y:Int):Int:=sm b.Reservations (fun r=>r.Code==c&&r.Year==y) (fun r=>r.Amount-r.Released-rel b r.Number)
theorem zkl {b:TBo} (h:Val b) (n:Int):0≤rel b n∧rel b n≤cmt b n:=by
 have hc:∀ c∈b.Commitments,0≤c.Released∧c.Released≤c.Amount:=fun c hc=>(h.2.1.mem hc).1.2.2.2.2.1
 exact⟨zcq fun c k=>(hc c k).1,zng fun c k=>(hc c k).2⟩
theorem z2w {b:TBo} (h:Val b) (c:List UInt8) (y:Int):usedV b c y=usedE b c y∧0≤usedE b c y∧usedE b c y≤200000000000000:=by
 have hb:0≤usedE b c y∧usedE b c y≤200 * 1000000000000:=zi9 (fun r hr=>by
  have h1:=z78 h hr
  have h2:=zkl h r.Number
  have h3:=(h.1.mem hr).1.2.2.2.2.2
  unfold amtP at h3
  omega) h.2.2.2.2.2.2.1 (by omega)
 refine⟨?_,hb.1,by omega⟩
 unfold usedV
 change IntKind.i64.wrap (usedE b c y)=_
 exact wrapId (by omega) (by omega)
theorem zm6 {b:TBo} (h:Val b) {n:Int} (hn:(b.Reservations.length:Int)<n):rel b n=0:=by
 have h1:=zkl h n
 have h2:=zex h hn
 omega
theorem z8f {b:TBo} {code:List UInt8} {y d n:Int} (h0:(reserveS b code y d n).2=0):Val b∧good code=true∧((0≤y∧y≤99)∧dayP d∧amtP n)∧yr d=y∧(b.Reservations.length:Int)≠200∧(reserveS b code y d n).1=withR b (b.Reservations++[⟨b.Reservations.length+1,code,y,d,n,0⟩]):=by
 unfold reserveS at h0 ⊢
 obtain⟨e,c1⟩:=zj h0 (by decide); rw[e] at h0 ⊢; clear e
 obtain⟨e,c2⟩:=zj h0 (by decide); rw[e] at h0 ⊢; clear e
 obtain⟨e,c3⟩:=zj h0 (by decide); rw[e] at h0 ⊢; clear e
 obtain⟨e,c4⟩:=zj h0 (by decide); rw[e] at h0 ⊢; clear e
 obtain⟨e,c5⟩:=zj h0 (by decide); rw[e] at h0 ⊢; clear e
 exact⟨Classical.not_not.mp c1,by simpa using c2,Classical.not_not.mp c3,Classical.not_not.mp c4,c5,rfl⟩
theorem zgd {b:TBo} (h:Val b) {code:List UInt8} {y d n:Int} (hg:good code=true) (hy:0≤y∧y≤99) (hd:dayP d) (hn:amtP n) (hyr:yr d=y) (hl:(b.Reservations.length:Int)≠200):reserveS b code y d n=(withR b (b.Reservations++[⟨b.Reservations.length+1,code,y,d,n,0⟩]),0):=by
 unfold reserveS
 rw[if_neg (fun k=>k h),if_neg (by simp[hg]),if_neg (fun k=>k ⟨hy,hd,hn⟩),if_neg (fun k=>k hyr),if_neg hl]
theorem zge {b:TBo} {r d n p u:Int} (h0:(commitS b r d n p u).2=0):Val b∧Val (commitS b r d n p u).1∧(commitS b r d n p u).1.Reservations=b.Reservations:=by
 unfold commitS at h0 ⊢
 obtain⟨e,c1⟩:=zj h0 (by decide); rw[e] at h0 ⊢; clear e
 obtain⟨e,c2⟩:=zj h0 (by decide); rw[e] at h0 ⊢; clear e
 obtain⟨e,c3⟩:=zj h0 (by decide); rw[e] at h0 ⊢; clear e
 obtain⟨e,c4⟩:=zj h0 (by decide); rw[e] at h0 ⊢; clear e
 obtain⟨e,c5⟩:=zj h0 (by decide); rw[e] at h0 ⊢; clear e
 obtain⟨e,c6⟩:=zj h0 (by decide); rw[e] at h0 ⊢; clear e
 obtain⟨e,c7⟩:=zj h0 (by decide); rw[e] at h0 ⊢; clear e
 have c3:=Classical.not_not.mp c3
 exact⟨Classical.not_not.mp c1,zia (Classical.not_not.mp c1) (Classical.not_not.mp c2) c3.1 c3.2.1 c3.2.2.1 c3.2.2.2 (Classical.not_not.mp c4) (by omega) (by omega) c7,rfl⟩
theorem zgf {b:TBo} {c d n:Int} (h0:(verifyS b c d n).2=0):Val b∧Val (verifyS b c d n).1∧(verifyS b c d n).1.Reservations=b.Reservations:=by
 unfold verifyS at h0 ⊢
 obtain⟨e,c1⟩:=zj h0 (by decide); rw[e] at h0 ⊢; clear e
 obtain⟨e,c2⟩:=zj h0 (by decide); rw[e] at h0 ⊢; clear e
 obtain⟨e,c3⟩:=zj h0 (by decide); rw[e] at h0 ⊢; clear e
 obtain⟨e,c4⟩:=zj h0 (by decide); rw[e] at h0 ⊢; clear e
 obtain⟨e,c5⟩:=zj h0 (by decide); rw[e] at h0 ⊢; clear e
 obtain⟨e,c6⟩:=zj h0 (by decide); rw[e] at h0 ⊢; clear e
 obtain⟨e,c7⟩:=zj h0 (by decide); rw[e] at h0 ⊢; clear e
 have c3:=Classical.not_not.mp c3
 exact⟨Classical.not_not.mp c1,zib (Classical.not_not.mp c1) (Classical.not_not.mp c2) c3.1 c3.2 (by omega) (by omega) (by omega) c7,rfl⟩
theorem zie {b:TBo} {v d:Int} (h0:(orderS b v d).2=0):Val b∧Val (orderS b v d).1∧(orderS b v d).1.Reservations=b.Reservations:=by
 unfold orderS at h0 ⊢
 obtain⟨e,c1⟩:=zj h0 (by decide); rw[e] at h0 ⊢; clear e
 obtain⟨e,c2⟩:=zj h0 (by decide); rw[e] at h0 ⊢; clear e
 obtain⟨e,c3⟩:=zj h0 (by decide); rw[e] at h0 ⊢; clear e
 obtain⟨e,c4⟩:=zj h0 (by decide); rw[e] at h0 ⊢; clear e
 obtain⟨e,c5⟩:=zj h0 (by decide); rw[e] at h0 ⊢; clear e
 obtain⟨e,c6⟩:=zj h0 (by decide); rw[e] at h0 ⊢; clear e
 obtain⟨e,c7⟩:=zj h0 (by decide); rw[e] at h0 ⊢; clear e
 refine⟨Classical.not_not.mp c1,zkd (Classical.not_not.mp c1) (Classical.not_not.mp c2) (Classical.not_not.mp c3) (by omega) (by omega) (fun hl=>⟨?_,by omega⟩) c7,rfl⟩
 cases hb:(lastV b v).Back with
 | true=>rfl
 | false=>exact absurd ⟨hl,hb⟩ c5
theorem z8g {b:TBo} {r n:Int} (h0:(releaseS b r n).2=0):Val b∧Val (releaseS b r n).1∧amtP n∧(1≤r∧r≤b.Reservations.length)∧n≤leftN b r∧(releaseS b r n).1=withR b (b.Reservations.set (r-1).toNat ⟨(rAt b r).Number,(rAt b r).Code,(rAt b r).Year,(rAt b r).Day,(rAt b r).Amount,IntKind.i64.wrap ((rAt b r).Released+n)⟩):=by
 unfold releaseS at h0 ⊢
 obtain⟨e,c1⟩:=zj h0 (by decide); rw[e] at h0 ⊢; clear e
 obtain⟨e,c2⟩:=zj h0 (by decide); rw[e] at h0 ⊢; clear e
 obtain⟨e,c3⟩:=zj h0 (by decide); rw[e] at h0 ⊢; clear e
 obtain⟨e,c4⟩:=zj h0 (by decide); rw[e] at h0 ⊢; clear e
 exact⟨Classical.not_not.mp c1,zg9 (Classical.not_not.mp c1) (Classical.not_not.mp c2) (Classical.not_not.mp c3) (by omega),Classical.not_not.mp c3,Classical.not_not.mp c2,by omega,rfl⟩
theorem zkm {b:TBo} {c n:Int} (h0:(dropS b c n).2=0):Val b∧Val (dropS b c n).1∧amtP n∧(dropS b c n).1.Reservations=b.Reservations:=by
 unfold dropS at h0 ⊢
 obtain⟨e,c1⟩:=zj h0 (by decide); rw[e] at h0 ⊢; clear e
 obtain⟨e,c2⟩:=zj h0 (by decide); rw[e] at h0 ⊢; clear e
 obtain⟨e,c3⟩:=zj h0 (by decide); rw[e] at h0 ⊢; clear e
 obtain⟨e,c4⟩:=zj h0 (by decide); rw[e] at h0 ⊢; clear e
 exact⟨Classical.not_not.mp c1,zlz (Classical.not_not.mp c1) (Classical.not_not.mp c2) (Classical.not_not.mp c3) (by omega),Classical.not_not.mp c3,rfl⟩
theorem zkn {b:TBo} {v:Int} (h0:(backS b v).2=0):Val b∧Val (backS b v).1∧(backS b v).1.Reservations=b.Reservations∧(backS b v).1.Commitments=b.Commitments:=by
 unfold backS at h0 ⊢
 obtain⟨e,c1⟩:=zj h0 (by decide); rw[e] at h0 ⊢; clear e
 obtain⟨e,c2⟩:=zj h0 (by decide); rw[e] at h0 ⊢; clear e
 obtain⟨e,c3⟩:=zj h0 (by decide); rw[e] at h0 ⊢; clear e
 exact⟨Classical.not_not.mp c1,zm0 (Classical.not_not.mp c1) (by omega),rfl,rfl⟩
theorem zby {b:TBo} (h:Val b) {r n:Int} (hn0:amtP n) (h0:(releaseS b r n).2=0) (code:List UInt8) (y:Int):(1≤r∧r≤b.Reservations.length)∧usedV (releaseS b r n).1 code y=IntKind.i64.wrap (usedV b code y-if mt b code y r=true then n else 0):=by
 have hn:1≤n∧n≤1000000000000:=hn0
 unfold releaseS at h0 ⊢
 obtain⟨e,_⟩:=zj h0 (by decide); rw[e] at h0 ⊢; clear e
 obtain⟨e,hr⟩:=zj h0 (by decide); rw[e] at h0 ⊢; clear e
 obtain⟨e,_⟩:=zj h0 (by decide); rw[e] at h0 ⊢; clear e
 obtain⟨e,_⟩:=zj h0 (by decide); rw[e] at h0 ⊢; clear e
 have hr:=Classical.not_not.mp hr
 refine⟨hr,?_⟩
 have hk:(r-1).toNat<b.Reservations.length:=by omega
 have f:=(h.1.at hr).2.2.2.2.2
 have f6:=f.1
 unfold amtP at f6
 have hw:IntKind.i64.wrap ((rAt b r).Released+n)=(rAt b r).Released+n:=wrapId (by omega) (by omega)
 rw[hw]
 unfold usedV
 rw[z30]
 congr 1
 change sm (b.Reservations.set (r-1).toNat _) _ (fun r=>r.Amount-r.Released-rel b r.Number)=_
 rw[zen hk _ _ _ default]
 change _-(if ((rAt b r).Code==code&&(rAt b r).Year==y)=true then (rAt b r).Amount-(rAt b r).Released-rel b (rAt b r).Number else 0)+(if ((rAt b r).Code==code&&(rAt b r).Year==y)=true then (rAt b r).Amount-((rAt b r).Released+n)-rel b (rAt b r).Number else 0)=_-(if ((rAt b r).Code==code&&(rAt b r).Year==y)=true then n else 0)
 split <;> omega
theorem zgg {b:TBo} (h:Val b) {c n:Int} (hn0:amtP n) (h0:(dropS b c n).2=0) (code:List UInt8) (y:Int):(1≤c∧c≤b.Commitments.length)∧usedV (dropS b c n).1 code y=IntKind.i64.wrap (usedV b code y-if mt b code y (cAt b c).Reservation=true then n else 0):=by
 have hn:1≤n∧n≤1000000000000:=hn0
 unfold dropS at h0 ⊢
 obtain⟨e,_⟩:=zj h0 (by decide); rw[e] at h0 ⊢; clear e
 obtain⟨e,hr⟩:=zj h0 (by decide); rw[e] at h0 ⊢; clear e
 obtain⟨e,_⟩:=zj h0 (by decide); rw[e] at h0 ⊢; clear e
 obtain⟨e,_⟩:=zj h0 (by decide); rw[e] at h0 ⊢; clear e
 have hr:=Classical.not_not.mp hr
 refine⟨hr,?_⟩
 have hk:(c-1).toNat<b.Commitments.length:=by omega
 have f:=(h.2.1.at hr)
 have f4:=f.2.2.2.1
 have f5:=f.2.2.2.2.1
 have f2:=f.2.1
 unfold amtP at f4
 have hw:IntKind.i64.wrap ((cAt b c).Released+n)=(cAt b c).Released+n:=wrapId (by omega) (by omega)
 rw[hw]
 generalize hX:withC b (b.Commitments.set (c-1).toNat ⟨(cAt b c).Number,(cAt b c).Reservation,(cAt b c).Day,(cAt b c).Amount,(cAt b c).Released+n,(cAt b c).Payee,(cAt b c).Due⟩)=X
 have hrel:∀ m,rel X m=rel b m+if ((cAt b c).Reservation==m)=true then n else 0:=fun m=>by
  rw[← hX]
  unfold rel withC
  simp only
  rw[zen hk _ _ _ default]
  change _-(if ((cAt b c).Reservation==m)=true then (cAt b c).Released else 0)+(if ((cAt b c).Reservation==m)=true then (cAt b c).Released+n else 0)=_
  split <;> omega
 have e1:usedV X code y=IntKind.i64.wrap (sm b.Reservations (fun r=>r.Code==code&&r.Year==y) (fun r=>r.Amount-r.Released-rel X r.Number)):=by
  unfold usedV
  rw[show X.Reservations=b.Reservations by rw[← hX]; rfl]
 rw[e1]
 unfold usedV
 rw[z30]
 congr 1
 simp only[hrel]
 have e2:∀ r:TRe,r.Amount-r.Released-(rel b r.Number+if ((cAt b c).Reservation==r.Number)=true then n else 0)=(r.Amount-r.Released-rel b r.Number)-(if ((cAt b c).Reservation==r.Number)=true then n else 0):=fun r=>by omega
 simp only[e2]
 rw[zon]
 congr 1
 have hi:((cAt b c).Reservation-1).toNat<b.Reservations.length:=by omega
 have hnum:(b.Reservations.getD ((cAt b c).Reservation-1).toNat default).Number=(cAt b c).Reservation:=(h.1.at f2).1
 have:=zkg (num:=fun r:TRe=>r.Number) (q:=mt b code y) (p:=fun r=>r.Code==code&&r.Year==y) n b.Reservations ((cAt b c).Reservation-1).toNat hi (fun j hj hji=>by
  have:=(h.1 j hj).1
  rw[hnum]; omega) (zop h code y (zm hi)).symm
 simp only[hnum] at this
 exact this
def Eff (b:TBo) (p:TOp) (b':TBo):Prop:=Val b∧Val b' ∧
 (∀ c y,usedE b' c y≤usedE b c y+if p.Kind=1∧p.Code=c∧p.Year=y then p.Amount else 0) ∧
 (p.Kind=1→1≤p.Amount∧p.Amount≤1000000000000∧∀ c y,usedE b' c y=usedE b c y+if p.Code=c∧p.Year=y then p.Amount else 0) ∧
 (∀ x∈b'.Reservations,(∃ z∈b.Reservations,z.Code=x.Code∧z.Year=x.Year)∨(p.Kind=1∧x.Code=p.Code∧x.Year=p.Year)) ∧
 b'.Reservations.length≤b.Reservations.length+1
theorem z5m {b b':TBo} {p:TOp} (hv:Val b) (hv':Val b') (hR:b'.Reservations=b.Reservations) (hk:p.Kind≠1) (hu:∀ c y,usedE b' c y≤usedE b c y):Eff b p b' :=
 ⟨hv,hv',fun c y=>by rw[if_neg (fun k=>hk k.1)]; have:=hu c y; omega,fun k=>absurd k hk,fun x hx=>by rw[hR] at hx; exact .inl ⟨x,hx,rfl,rfl⟩,by rw[hR]; omega⟩
theorem zdi {b:TBo} (h:Val b) (code:List UInt8) (y d n:Int) (c:List UInt8) (z:Int):usedE (withR b (b.Reservations++[⟨b.Reservations.length+1,code,y,d,n,0⟩])) c z=usedE b c z+if code=c∧y=z then n else 0:=by
 unfold usedE
 have e:(withR b (b.Reservations++[⟨b.Reservations.length+1,code,y,d,n,0⟩])).Reservations=b.Reservations++[⟨b.Reservations.length+1,code,y,d,n,0⟩]:=rfl
 have e2:∀ m,rel (withR b (b.Reservations++[⟨b.Reservations.length+1,code,y,d,n,0⟩])) m=rel b m:=fun m=>rfl
 simp only[e,e2]
 rw[z5z,z17,zaz]
 simp only[zm6 h (show (b.Reservations.length:Int)<(b.Reservations.length:Int)+1 by omega),Bool.and_eq_true,beq_iff_eq]
 by_cases k:code=c∧y=z
 ·rw[if_pos k,if_pos k]; omega
 ·rw[if_neg k,if_neg k]; omega
theorem zm7 {b:TBo} {p:TOp} (h0:(bookS b p).2=0):Eff b p (bookS b p).1:=by
 unfold bookS at h0 ⊢
 by_cases c1:p.Kind=1
 ·rw[if_pos c1] at h0 ⊢
  obtain⟨hv,hg,⟨hy,hd,hn⟩,hyr,hl,e⟩:=z8f h0
  rw[e]
  unfold amtP at hn
  have hu:=zdi hv p.Code p.Year p.Day p.Amount
  refine⟨hv,zg8 hv hg hy hd hn hyr hl,fun c y=>?_,fun _=>⟨hn.1,hn.2,hu⟩,fun x hx=>?_,by simp[withR]⟩
  ·rw[hu]
   by_cases k:p.Code=c∧p.Year=y
   ·rw[if_pos k,if_pos ⟨c1,k⟩]; omega
   ·rw[if_neg k,if_neg (fun q=>k q.2)]; omega
  ·simp only[withR,List.mem_append,List.mem_singleton] at hx
   rcases hx with hx | rfl
   ·exact .inl ⟨x,hx,rfl,rfl⟩
   ·exact .inr ⟨c1,rfl,rfl⟩
 rw[if_neg c1] at h0 ⊢
 have conv:∀ {b':TBo},Val b→Val b'→(∀ c y,usedV b' c y=usedV b c y)→∀ c y,usedE b' c y≤usedE b c y:=fun h h' e c y=>by
  have h1:=z2w h c y
  have h2:=z2w h' c y
  have:=e c y
  omega
 by_cases c2:p.Kind=2
 ·rw[if_pos c2] at h0 ⊢
  obtain⟨hv,hv',hR⟩:=zge h0
  exact z5m hv hv' hR c1 (conv hv hv' fun c y=>zey h0 c y)
 rw[if_neg c2] at h0 ⊢
 by_cases c3:p.Kind=3
 ·rw[if_pos c3] at h0 ⊢
  obtain⟨hv,hv',hR⟩:=zgf h0
  exact z5m hv hv' hR c1 (conv hv hv' fun c y=>zez h0 c y)
 rw[if_neg c3] at h0 ⊢
 by_cases c4:p.Kind=4
 ·rw[if_pos c4] at h0 ⊢
  obtain⟨hv,hv',hR⟩:=zie h0
  exact z5m hv hv' hR c1 (conv hv hv' fun c y=>zga h0 c y)
 rw[if_neg c4] at h0 ⊢
 by_cases c5:p.Kind=5
 ·rw[if_pos c5] at h0 ⊢
  obtain⟨hv,hv',hn,hr,hL,e⟩:=z8g h0
  have hu:∀ c y,usedE (releaseS b p.Of p.Amount).1 c y≤usedE b c y:=fun c y=>by
   have h1:=z2w hv c y
   have h2:=z2w hv' c y
   have h3:=(zby hv hn h0 c y).2
   unfold amtP at hn
   split at h3
   ·rw[wrapId (by omega) (by omega)] at h3; omega
   ·rw[wrapId (by omega) (by omega)] at h3; omega
  refine⟨hv,hv',fun c y=>by rw[if_neg (fun k=>c1 k.1)]; have:=hu c y; omega,fun k=>absurd k c1,fun x hx=>?_,by rw[e]; simp[withR]⟩
  rw[e] at hx
  left
  rcases List.mem_or_eq_of_mem_set hx with hx | rfl
  ·exact⟨x,hx,rfl,rfl⟩
  ·exact⟨rAt b p.Of,zbx hr,rfl,rfl⟩
 rw[if_neg c5] at h0 ⊢
 by_cases c6:p.Kind=6
 ·rw[if_pos c6] at h0 ⊢
  obtain⟨hv,hv',hn,hR⟩:=zkm h0
  refine z5m hv hv' hR c1 fun c y=>?_
  have h1:=z2w hv c y
  have h2:=z2w hv' c y
  have h3:=(zgg hv hn h0 c y).2
  unfold amtP at hn
  split at h3
  ·rw[wrapId (by omega) (by omega)] at h3; omega
  ·rw[wrapId (by omega) (by omega)] at h3; omega
 rw[if_neg c6] at h0 ⊢
 obtain⟨hv,hv',hR,hC⟩:=zkn h0
 refine z5m hv hv' hR c1 (conv hv hv' fun c y=>?_)
 unfold usedV rel
 rw[hR,hC]
end Go.Proofs.YtclaojamgomjbaaGreatDoor
namespace Go.Proofs.YtclaojamgomjbaaGreatDoor
open Go Go.TA
theorem uniqR {l:List TRi} (hS:Srt l) (hg:∀ x∈l,RtOk x) {x y:TRi} (hx:x∈l) (hy:y∈l) (h1:x.Code=y.Code) (h2:x.Year=y.Year):x=y:=by
 obtain⟨i,hi,rfl⟩:=z1h hx
 obtain⟨j,hj,rfl⟩:=z1h hy
 have h0:=(z90 (hg _ hx).1 (hg _ hy).1).2 ⟨h1,h2⟩
 rcases Nat.lt_trichotomy i j with h | h | h
 ·have:=hS.lt hg h hj; omega
 ·rw[h]
 ·have:=hS.lt hg h hi
  have h3:=zcu (b:=l.getD i default) (hg _ hy).1
  omega
theorem zcw {l:List TRi} (hS:Srt l) (hg:∀ x∈l,RtOk x) {x:TRi} (hx:x∈l):rightV l x.Code x.Year=x:=by
 obtain⟨h1,h2,h3⟩:=z27 (z3a.2 ⟨x,hx,rfl,rfl⟩:hasR l x.Code x.Year=true)
 exact uniqR hS hg h1 hx h2 h3
theorem zif {a a' b b':TRi} (h1:a.Code=a'.Code) (h2:a.Year=a'.Year) (h3:b.Code=b'.Code) (h4:b.Year=b'.Year):cmpR a b=cmpR a' b':=by
 unfold cmpR; rw[h1,h2,h3,h4]
theorem z93 {l:List TRi} {r x:TRi} (h:x∈putL l r):x=r∨x∈l:=by
 unfold putL at h
 split at h
 ·exact (List.mem_or_eq_of_mem_set h).symm
 ·unfold insL at h
  simp only[List.mem_append,List.mem_cons] at h
  rcases h with h | h | h
  ·exact .inr (List.mem_of_mem_take h)
  ·exact .inl h
  ·exact .inr (List.mem_of_mem_drop h)
theorem z8h (l:List TRi) (r:TRi):r∈putL l r:=by
 unfold putL
 split
 ·rename_i h
  exact List.mem_set (z4l h).1 _
 ·unfold insL; simp
theorem zhf {l:List TRi} {r x:TRi} (hx:x∈l) (h:¬ (x.Code=r.Code∧x.Year=r.Year)):x∈putL l r:=by
 unfold putL
 split
 ·rename_i hh
  obtain⟨h1,h2,h3⟩:=z4l hh
  obtain⟨i,hi,e⟩:=List.mem_iff_getElem.mp hx
  have hne:rix l r.Code r.Year≠i:=fun k=>h (by subst k; rw[z1j h1,e] at h2 h3; exact⟨h2,h3⟩)
  have h4:(l.set (rix l r.Code r.Year) r)[i]'(by rw[List.length_set]; exact hi)=x:=by rw[List.getElem_set,if_neg hne,e]
  rw[← h4]
  exact List.getElem_mem _
 ·unfold insL
  rw[List.mem_append,List.mem_cons]
  have:x∈l.take (posR l r)++l.drop (posR l r):=by rw[List.take_append_drop]; exact hx
  rcases List.mem_append.1 this with h | h
  ·exact .inl h
  ·exact .inr (.inr h)
theorem zf5 {l:List TRi} {r:TRi} (hg:∀ x∈l,RtOk x) (hr:RtOk r):∀ x∈putL l r,RtOk x:=fun x hx=>by
 rcases z93 hx with rfl | h
 ·exact hr
 ·exact hg x h
theorem zhg {l:List TRi} {r:TRi} (hS:Srt l) (hg:∀ x∈l,RtOk x) (hr:RtOk r):Srt (putL l r):=by
 unfold putL
 split
 ·rename_i hh
  obtain⟨h1,h2,h3⟩:=z4l hh
  intro i hi
  rw[List.length_set] at hi
  have key:∀ j,(((l.set (rix l r.Code r.Year) r).getD j default).Code=(l.getD j default).Code)∧((l.set (rix l r.Code r.Year) r).getD j default).Year=(l.getD j default).Year:=fun j=>by
   rw[z4a _ _ _ _ h1]
   by_cases e:j=rix l r.Code r.Year
   ·rw[if_pos e,e,h2,h3]; exact⟨rfl,rfl⟩
   ·rw[if_neg e]; exact⟨rfl,rfl⟩
  refine (hS i hi).imp id fun k=>?_
  rw[zif (key (i-1)).1 (key (i-1)).2 (key i).1 (key i).2]
  exact k
 ·rename_i hh
  have hp:=z92 l r
  intro i hi
  rw[z1a] at hi
  rw[z45 hp,z45 hp]
  by_cases h0:i=0
  ·exact .inl h0
  right
  by_cases c1:i<posR l r
  ·rw[if_pos (by omega),if_pos c1]
   exact (hS i (by omega)).resolve_left h0
  ·by_cases c2:i=posR l r
   ·rw[if_pos (by omega),if_neg c1,if_pos c2]
    exact zhd (by omega)
   ·rw[if_neg c1,if_neg c2]
    by_cases c3:i-1=posR l r
    ·rw[if_neg (by omega),if_pos c3,c3]
     have h1:=zhe (l:=l) (r:=r) (by omega)
     have hm:l.getD (posR l r) default∈l:=zm (by omega)
     have h2:cmpR (l.getD (posR l r) default) r≠0:=fun k=>by
      obtain⟨k1,k2⟩:=(z90 (hg _ hm).1 hr.1).1 k
      exact hh (z3a.2 ⟨_,hm,k1,k2⟩)
     have h3:=zcu (b:=r) (hg _ hm).1
     omega
    ·rw[if_neg (by omega),if_neg c3]
     have:=(hS (i-1) (by omega)).resolve_left (by omega)
     exact this
theorem zno {l:List TRi} {r:TRi} {c:List UInt8} {y:Int} (h:hasR l c y=true):hasR (putL l r) c y=true:=by
 obtain⟨x,hx,h1,h2⟩:=z3a.1 h
 by_cases k:x.Code=r.Code∧x.Year=r.Year
 ·exact z3a.2 ⟨r,z8h l r,by rw[← k.1,h1],by rw[← k.2,h2]⟩
 ·exact z3a.2 ⟨x,zhf hx k,h1,h2⟩
theorem zig {l:List TRi} {r:TRi} (hS:Srt l) (hg:∀ x∈l,RtOk x) (hr:RtOk r) (c:List UInt8) (y:Int):rightV (putL l r) c y=if r.Code=c∧r.Year=y then r else rightV l c y:=by
 have hS':=zhg hS hg hr
 have hg':=zf5 hg hr
 by_cases k:r.Code=c∧r.Year=y
 ·rw[if_pos k,← k.1,← k.2]
  exact zcw hS' hg' (z8h l r)
 ·rw[if_neg k]
  by_cases h:hasR l c y=true
  ·obtain⟨h1,h2,h3⟩:=z27 h
   have:=zcw hS' hg' (zhf (r:=r) h1 (by rw[h2,h3]; exact fun q=>k ⟨q.1.symm,q.2.symm⟩))
   rwa [h2,h3] at this
  ·have h':¬ hasR (putL l r) c y=true:=fun q=>by
    obtain⟨x,hx,h1,h2⟩:=z3a.1 q
    rcases z93 hx with rfl | hx
    ·exact k ⟨h1,h2⟩
    ·exact h (z3a.2 ⟨x,hx,h1,h2⟩)
   unfold rightV
   rw[if_neg h,if_neg h']
theorem znp {l:List TRi} {r:TRi} (h:l.length≤60) (h2:hasR l r.Code r.Year=true∨(l.length:Int)≠60):(putL l r).length≤60:=by
 unfold putL
 split
 ·rw[List.length_set]; exact h
 ·rename_i hh
  rw[z1a]
  have:=h2.resolve_left hh
  omega
theorem zcx {l:List TRi} (hg:∀ x∈l,RtOk x) (c:List UInt8) (y:Int):0≤(rightV l c y).Returned∧(rightV l c y).Returned≤(rightV l c y).Granted∧(rightV l c y).Granted≤1000000000000000∧0≤(rightV l c y).Asked∧(rightV l c y).Asked≤1000000000000000:=by
 by_cases h:hasR l c y=true
 ·have:=hg _ (z27 h).1
  unfold RtOk at this
  omega
 ·unfold rightV; rw[if_neg h]; simp
theorem z79 {o:TOf} (hg:∀ x∈o.Rights,RtOk x) (hv:Val o.Book) (c:List UInt8) (y:Int):unusedV o c y=(rightV o.Rights c y).Granted-(rightV o.Rights c y).Returned-usedE o.Book c y:=by
 have h1:=zcx hg c y
 have h2:=z2w hv c y
 unfold unusedV
 rw[wrapId (n:=(rightV o.Rights c y).Granted-(rightV o.Rights c y).Returned) (by omega) (by omega),h2.1,wrapId (by omega) (by omega)]
theorem VO.unused {o:TOf} (h:VO o) (c:List UInt8) (y:Int):unusedV o c y=(rightV o.Rights c y).Granted-(rightV o.Rights c y).Returned-usedE o.Book c y:=z79 h.ok h.val c y
theorem zih {b:TBo} {c:List UInt8} {y:Int} (h:∀ x∈b.Reservations,¬ (x.Code=c∧x.Year=y)):usedE b c y=0:=by
 unfold usedE
 exact zh9 fun x hx=>by
  have:=h x hx
  simp only[Bool.and_eq_false_iff,beq_eq_false_iff_ne,ne_eq]
  by_cases h1:x.Code=c
  ·exact .inr fun h2=>this ⟨h1,h2⟩
  ·exact .inl h1
theorem VO.unused_nn {o:TOf} (h:VO o) (c:List UInt8) (y:Int):0≤unusedV o c y:=by
 by_cases hx:∃ x∈o.Book.Reservations,x.Code=c∧x.Year=y
 ·obtain⟨x,hx,rfl,rfl⟩:=hx
  exact (h.2.2.2.2.2 x hx).2
 ·rw[h.unused,zih fun x hx' e=>hx ⟨x,hx',e⟩]
  have:=zcx h.ok c y
  omega
theorem VO.smO {o:TOf} (h:VO o):SmO o:=by
 have h1:=h.val
 have h2:=h1.2.2.2.2.2.2
 refine⟨⟨⟨by omega,by omega,by omega,by omega⟩,fun r hr=>?_⟩,by have:=h.len; omega,fun r hr=>(h.ok r hr).len⟩
 have:=z5i (h1.1.mem hr).1.2.1
 omega
theorem z94 {o:TOf} {p:TOp} (hv:VO o) (hk:p.Kind≠7∧p.Kind≠8) (h0:(stepS o p).2=0) :
  (stepS o p).1=⟨o.Number,o.Rights,(bookS o.Book p).1⟩∧(bookS o.Book p).2=0∧Eff o.Book p (bookS o.Book p).1∧(p.Kind=1→p.Amount≤unusedV o p.Code p.Year)∧VO (stepS o p).1:=by
 unfold stepS at h0 ⊢
 rw[if_neg hk.2,if_neg hk.1] at h0 ⊢
 by_cases c1:(bookS o.Book p).2≠0
 ·rw[if_pos c1] at h0; exact absurd h0 c1
 rw[if_neg c1] at h0 ⊢
 by_cases c2:p.Kind=1∧p.Amount>unusedV o p.Code p.Year
 ·rw[if_pos c2] at h0; cases h0
 rw[if_neg c2]
 have c1:=Classical.not_not.mp c1
 have he:=zm7 c1
 have hu:p.Kind=1→p.Amount≤unusedV o p.Code p.Year:=fun k=>Int.not_lt.1 fun q=>c2 ⟨k,q⟩
 refine⟨rfl,c1,he,hu,hv.1,hv.len,he.2.1,hv.ok,hv.srt,fun x hx=>?_⟩
 have hx:=he.2.2.2.2.1 x hx
 have hh:hasR o.Rights x.Code x.Year=true:=by
  rcases hx with ⟨z,hz,e1,e2⟩ | ⟨k,e1,e2⟩
  ·rw[← e1,← e2]; exact (hv.2.2.2.2.2 z hz).1
  ·rw[e1,e2]
   have h1:=hu k
   have h2:=(he.2.2.2.1 k).1
   refine Classical.byContradiction fun q=>?_
   rw[hv.unused] at h1
   have h3:=z2w hv.val p.Code p.Year
   unfold rightV at h1
   rw[if_neg q] at h1
   simp only at h1
   omega
 refine⟨hh,?_⟩
 rw[z79 (o:=⟨o.Number,o.Rights,(bookS o.Book p).1⟩) hv.ok he.2.1]
 have h1:=he.2.2.1 x.Code x.Year
 have h2:=hv.unused x.Code x.Year
 have h3:=hv.unused_nn x.Code x.Year
 by_cases k:p.Kind=1∧p.Code=x.Code∧p.Year=x.Year
 ·rw[if_pos k] at h1
  have h4:=hu k.1
  rw[k.2.1,k.2.2] at h4
  simp only
  omega
 ·rw[if_neg k] at h1
  simp only
  omega
theorem zko {o:TOf} (hv:VO o) {r:TRi} (hr:RtOk r) (hl:hasR o.Rights r.Code r.Year=true∨(o.Rights.length:Int)≠60) (hu:usedE o.Book r.Code r.Year≤r.Granted-r.Returned):VO ⟨o.Number,putL o.Rights r,o.Book⟩:=by
 refine⟨hv.1,znp hv.len hl,hv.val,zf5 hv.ok hr,zhg hv.srt hv.ok hr,fun x hx=>⟨zno (hv.2.2.2.2.2 x hx).1,?_⟩⟩
 rw[z79 (o:=⟨o.Number,putL o.Rights r,o.Book⟩) (zf5 hv.ok hr) hv.val]
 simp only
 rw[zig hv.srt hv.ok hr]
 by_cases k:r.Code=x.Code∧r.Year=x.Year
 ·rw[if_pos k,← k.1,← k.2]; omega
 ·rw[if_neg k]
  have h2:=hv.unused x.Code x.Year
  have h3:=hv.unused_nn x.Code x.Year
  omega
theorem z95 {o:TOf} {p:TOp} (hv:VO o) (h0:(hearS o p).2=0) :
  ∃ r,(hearS o p).1=⟨o.Number,putL o.Rights r,o.Book⟩∧RtOk r∧r.Code=p.Code∧r.Year=p.Year∧r=⟨p.Code,p.Year,if p.Granted>(rightV o.Rights p.Code p.Year).Granted then p.Granted else (rightV o.Rights p.Code p.Year).Granted,if p.AskedBack>(rightV o.Rights p.Code p.Year).Asked then p.AskedBack else (rightV o.Rights p.Code p.Year).Asked,(rightV o.Rights p.Code p.Year).Returned⟩∧VO (hearS o p).1:=by
 unfold hearS at h0 ⊢
 by_cases c1:¬ good p.Code=true
 ·rw[if_pos c1] at h0; cases h0
 rw[if_neg c1] at h0 ⊢
 by_cases c2:p.Year<0∨p.Year>99
 ·rw[if_pos c2] at h0; cases h0
 rw[if_neg c2] at h0 ⊢
 by_cases c3:hasR o.Rights p.Code p.Year=false∧(o.Rights.length:Int)=60
 ·rw[if_pos c3] at h0; cases h0
 rw[if_neg c3] at h0 ⊢
 by_cases c4:(learnS (rightV o.Rights p.Code p.Year) (msgOf p)).2≠0
 ·rw[if_pos c4] at h0; exact absurd h0 c4
 rw[if_neg c4]
 have h1:=zcv (Classical.not_not.mp c4)
 have hcy:=z3q o.Rights p.Code p.Year
 rw[hcy.1,hcy.2] at h1
 refine⟨_,rfl,h1.2.2.2.2,by rw[h1.2.2.2.1],by rw[h1.2.2.2.1],h1.2.2.2.1,zko hv h1.2.2.2.2 ?_ ?_⟩
 ·rw[h1.2.2.2.1]
  simp only
  by_cases k:hasR o.Rights p.Code p.Year=true
  ·exact .inl k
  ·exact .inr fun q=>c3 ⟨by simpa using k,q⟩
 ·rw[h1.2.2.2.1]
  have h2:=hv.unused p.Code p.Year
  have h3:=hv.unused_nn p.Code p.Year
  have h4:(rightV o.Rights p.Code p.Year).Granted≤if (msgOf p).Granted>(rightV o.Rights p.Code p.Year).Granted then (msgOf p).Granted else (rightV o.Rights p.Code p.Year).Granted:=by split <;> omega
  simp only
  omega
theorem z96 {o:TOf} {p:TOp} (hv:VO o) (h0:(giveS o p).2=0) :
  hasR o.Rights p.Code p.Year=true∧1≤p.Amount∧p.Amount≤unusedV o p.Code p.Year∧∃ r,(giveS o p).1=⟨o.Number,putL o.Rights r,o.Book⟩∧RtOk r∧r=⟨p.Code,p.Year,(rightV o.Rights p.Code p.Year).Granted,(rightV o.Rights p.Code p.Year).Asked,(rightV o.Rights p.Code p.Year).Returned+p.Amount⟩∧VO (giveS o p).1:=by
 unfold giveS at h0 ⊢
 by_cases c1:¬ hasR o.Rights p.Code p.Year=true
 ·rw[if_pos c1] at h0; cases h0
 rw[if_neg c1] at h0 ⊢
 by_cases c4:(returnS (rightV o.Rights p.Code p.Year) (usedV o.Book p.Code p.Year) p.Amount).2≠0
 ·rw[if_pos c4] at h0; exact absurd h0 c4
 rw[if_neg c4]
 have h1:=zb5 (Classical.not_not.mp c4)
 have hcy:=z3q o.Rights p.Code p.Year
 have hu:=z2w hv.val p.Code p.Year
 rw[hcy.1,hcy.2,hu.1] at h1
 have c1:=Classical.not_not.mp c1
 rw[hu.1]
 refine⟨c1,h1.2.2.1,by rw[hv.unused]; exact h1.2.2.2.1,_,rfl,h1.2.2.2.2.2,h1.2.2.2.2.1,zko hv h1.2.2.2.2.2 (.inl ?_) ?_⟩
 ·rw[h1.2.2.2.2.1]; exact c1
 ·rw[h1.2.2.2.2.1]
  simp only
  omega
theorem z97 {o:TOf} {p:TOp} (h0:(doS o p).2=0):VO o∧(1≤p.Kind∧p.Kind≤9)∧doS o p=stepS o p:=by
 unfold doS at h0 ⊢
 split at h0
 ·cases h0
 ·rename_i h
  rw[if_neg h]
  exact⟨Classical.byContradiction fun k=>h (.inl k),by omega,rfl⟩
theorem z8i {o:TOf} (hv:VO o) {p:TOp} (hk:1≤p.Kind∧p.Kind≤9):doS o p=stepS o p:=by
 unfold doS
 rw[if_neg (fun k=>k.elim (fun k=>k hv) fun k=>by omega)]
theorem zdp {o:TOf} {p:TOp} (h0:(doS o p).2=0):VO (doS o p).1:=by
 obtain⟨hv,hk,e⟩:=z97 h0
 rw[e] at h0 ⊢
 by_cases c8:p.Kind=8
 ·have e8:stepS o p=hearS o p:=by unfold stepS; rw[if_pos c8]
  rw[e8] at h0 ⊢
  obtain⟨r,_,_,_,_,_,h⟩:=z95 hv h0
  exact h
 by_cases c7:p.Kind=7
 ·have e7:stepS o p=giveS o p:=by unfold stepS; rw[if_neg c8,if_pos c7]
  rw[e7] at h0 ⊢
  obtain⟨_,_,_,r,_,_,_,h⟩:=z96 hv h0
  exact h
 exact (z94 hv ⟨c7,c8⟩ h0).2.2.2.2
end Go.Proofs.YtclaojamgomjbaaGreatDoor
namespace Go.Proofs.YtclaojamgomjbaaGreatDoor
open Go Go.TA
theorem zor:tot 0:=by decide
theorem zgh {l:List TRi} (hg:∀ x∈l,RtOk x) {c:List UInt8} {y:Int} (hc:good c=true) (hy:0≤y∧y≤99):RtOk (rightV l c y):=by
 by_cases h:hasR l c y=true
 ·exact hg _ (z27 h).1
 ·unfold rightV; rw[if_neg h]; exact⟨hc,hy,by simp,by simp,by simp⟩
theorem zcy {o:TOf} (hv:VO o) {p:TOp} (hc:good p.Code=true) (hy:0≤p.Year∧p.Year≤99) (hl:hasR o.Rights p.Code p.Year=true∨(o.Rights.length:Int)≠60) (h1:tot p.Granted) (h2:tot p.AskedBack):(hearS o p).2=0:=by
 have hr:=zgh hv.ok hc hy
 have hcy:=z3q o.Rights p.Code p.Year
 have hk:(learnS (rightV o.Rights p.Code p.Year) (msgOf p)).2=0:=by
  unfold learnS
  rw[if_neg (fun k=>k ⟨hr,rfl,hcy.1.symm,hcy.2.symm⟩),if_neg (fun k=>k ⟨h1,h2⟩)]
 unfold hearS
 rw[if_neg (fun k=>k hc),if_neg (by omega),if_neg (fun k=>by
  rcases hl with h | h
  ·rw[k.1] at h; cases h
  ·exact h k.2),if_neg (fun k=>k hk)]
def OI (k:Nat) (o:TOf):Prop:=VO o∧o.Book.Reservations.length≤k∧o.Rights.length≤k∧∀ r∈o.Rights,r.Granted≤1000
theorem zcz {o:TOf} (hG:∀ r∈o.Rights,r.Granted≤1000) (c:List UInt8) (y:Int):(rightV o.Rights c y).Granted≤1000:=by
 by_cases h:hasR o.Rights c y=true
 ·exact hG _ (z27 h).1
 ·unfold rightV; rw[if_neg h]; simp
theorem zpb {o:TOf} {p:TOp} {k:Nat} (h:OI k o) (hp:p.Granted≤1000) (h0:(doS o p).2=0):OI (k+1) (doS o p).1:=by
 have hvo:=zdp h0
 obtain⟨hv,hl1,hl2,hG⟩:=h
 obtain⟨_,hk,e⟩:=z97 h0
 rw[e] at h0 hvo ⊢
 have hput:∀ r:TRi,r.Granted≤1000→VO ⟨o.Number,putL o.Rights r,o.Book⟩→OI (k+1) ⟨o.Number,putL o.Rights r,o.Book⟩:=fun r hr hv' =>
  ⟨hv',by simp only; omega,by have:=zf4 o.Rights r; simp only; omega,fun x hx=>by
   rcases z93 hx with rfl | hx
   ·exact hr
   ·exact hG x hx⟩
 by_cases c8:p.Kind=8
 ·have e8:stepS o p=hearS o p:=by unfold stepS; rw[if_pos c8]
  rw[e8] at h0 hvo ⊢
  obtain⟨r,e1,_,_,_,e2,_⟩:=z95 hv h0
  rw[e1] at hvo ⊢
  refine hput r ?_ hvo
  rw[e2]
  have:=zcz hG p.Code p.Year
  simp only
  split <;> omega
 by_cases c7:p.Kind=7
 ·have e7:stepS o p=giveS o p:=by unfold stepS; rw[if_neg c8,if_pos c7]
  rw[e7] at h0 hvo ⊢
  obtain⟨_,_,_,r,e1,_,e2,_⟩:=z96 hv h0
  rw[e1] at hvo ⊢
  refine hput r ?_ hvo
  rw[e2]
  exact zcz hG p.Code p.Year
 obtain⟨e1,_,he,_,_⟩:=z94 hv ⟨c7,c8⟩ h0
 rw[e1] at hvo ⊢
 exact⟨hvo,by have:=he.2.2.2.2.2; simp only; omega,by simp only; omega,hG⟩
theorem zii (n:Int):F_q3l n=some (if n<1∨n>6 then (noO,2) else (⟨n,[],nb⟩,0)):=by
 simp only[F_q3l,S_q3l,Scr.den,zl]
 exact st (by simp only[Bool.or_eq_true,decide_eq_true_eq]) (fun _=>rfl) (fun _=>rfl)
theorem zkp {n:Int} (h1:1≤n) (h2:n≤6):OI 0 ⟨n,[],nb⟩ :=
 ⟨⟨⟨h1,h2⟩,(by simp),zkf,(fun _ h=>nomatch h),(fun i hi=>absurd hi (by simp)),(fun x hx=>nomatch hx)⟩,(by simp[nb]),(by simp),(fun _ h=>nomatch h)⟩
end Go.Proofs.YtclaojamgomjbaaGreatDoor
namespace Go.Proofs.YtclaojamgomjbaaGreatDoor
open Go Go.TA
def a1:TOf:=⟨2,[],nb⟩
def a2:TOf:=⟨2,[⟨[49],12,100,0,0⟩],nb⟩
def aR:TRe:=⟨1,[49],12,4330,60,0⟩
def a3:TOf:=⟨2,[⟨[49],12,100,0,0⟩],⟨[aR],[],[],[]⟩⟩
def a4:TOf:=⟨2,[⟨[49],12,100,0,40⟩],⟨[aR],[],[],[]⟩⟩
def q1:TOp:=⟨8,[49],12,0,0,0,0,0,100,0⟩
def q2:TOp:=⟨1,[49],12,4330,0,60,0,0,0,0⟩
def q3:TOp:=⟨7,[49],12,0,0,40,0,0,0,0⟩
def q4:TOp:=⟨1,[49],12,4330,0,1,0,0,0,0⟩
theorem va1:VO a1:=(zkp (by omega) (by omega)).1
theorem st1:doS a1 q1=(a2,0):=by
 rw[z8i va1 (by decide)]
 unfold stepS
 rw[if_pos (by decide)]
 kernel_rfl
theorem va2:VO a2:=by have:=zdp (o:=a1) (p:=q1) (by rw[st1]); rwa [st1] at this
theorem st2:doS a2 q2=(a3,0):=by
 rw[z8i va2 (by decide)]
 unfold stepS
 have h:reserveS a2.Book q2.Code q2.Year q2.Day q2.Amount=(⟨[aR],[],[],[]⟩,0) :=
  zgd (b:=nb) (code:=[49]) (y:=12) (d:=4330) (n:=60) zkf (by decide +kernel) (by decide) (by decide) (by decide) (by decide) (by decide)
 have hu:unusedV a2 q2.Code q2.Year=100:=by decide +kernel
 have hb:bookS a2.Book q2=(⟨[aR],[],[],[]⟩,0):=by unfold bookS; rw[if_pos (by decide),h]
 rw[if_neg (by decide),if_neg (by decide),hb,if_neg (by decide),if_neg (by rw[hu]; decide)]
 rfl
theorem va3:VO a3:=by have:=zdp (o:=a2) (p:=q2) (by rw[st2]); rwa [st2] at this
theorem st3:doS a3 q3=(a4,0):=by
 rw[z8i va3 (by decide)]
 unfold stepS
 rw[if_neg (by decide),if_pos (by decide)]
 kernel_rfl
end Go.Proofs.YtclaojamgomjbaaGreatDoor
namespace Go.Proofs.YtclaojamgomjbaaGreatDoor
open Go Go.TA
def numP (n:Int):Prop:=1≤n∧n≤1000000
instance (n:Int):Decidable (numP n):=inferInstanceAs (Decidable (_∧_))
instance (n:Int):Decidable (dayP n):=inferInstanceAs (Decidable (_∧_))
def WPl (w:TWa):Prop:=(numP w.Number∧numP w.Reservation∧numP w.Commitment∧numP w.Verification∧numP w.Attempt∧numP w.Payee)∧(1≤w.Office∧w.Office≤6)∧good w.Code=true∧(0≤w.Year∧w.Year≤99)∧(1≤w.Amount∧w.Amount≤1000000000000)∧dayP w.Day∧dayP w.Due
instance (w:TWa):Decidable (WPl w):=by unfold WPl; infer_instance
theorem zbz (a b c:Int):F_q28 a b c=some (decide (b≤a∧a≤c)):=by
 simp only[F_q28,S_q28,Scr.den,zh]
 congr 1
 rw[Bool.eq_iff_iff]
 simp only[Bool.and_eq_true,decide_eq_true_eq,ge_iff_le]
theorem zf6 (n:Int):F_q3u n=some (decide (numP n)):=by
 simp only[F_q3u,S_q3u,Scr.den,zbz,obind]
 rfl
theorem zpc (n:Int):F_q3b n=some (decide (dayP n)):=by
 simp only[F_q3b,S_q3b,Scr.den,zbz,obind]
 rfl
theorem zc0 (n:Int):F_q38 n=some (decide (numP n)):=by
 simp only[F_q38,S_q38,Scr.den,zh]
 congr 1
 rw[Bool.eq_iff_iff]
 simp only[Bool.and_eq_true,decide_eq_true_eq,ge_iff_le]
 exact Iff.rfl
theorem zij {p:Int→Prop} {a b c d e f:Int}:(∀ j,j<6→p (([a,b,c,d,e,f]:List Int).getD j default))↔(p a∧p b∧p c∧p d∧p e∧p f) :=
 ⟨fun h=>⟨h 0 (by omega),h 1 (by omega),h 2 (by omega),h 3 (by omega),h 4 (by omega),h 5 (by omega)⟩,fun⟨h0,h1,h2,h3,h4,h5⟩ j hj=>by
  match j,hj with
  | 0,_=>exact h0
  | 1,_=>exact h1
  | 2,_=>exact h2
  | 3,_=>exact h3
  | 4,_=>exact h4
  | 5,_=>exact h5
  | n+6,h=>omega⟩
theorem zos {p:Int→Prop} {a b:Int}:(∀ j,j<2→p (([a,b]:List Int).getD j default))↔(p a∧p b) :=
 ⟨fun h=>⟨h 0 (by omega),h 1 (by omega)⟩,fun⟨h0,h1⟩ j hj=>by
  match j,hj with
  | 0,_=>exact h0
  | 1,_=>exact h1
  | n+2,h=>omega⟩
theorem zkq (a:Bool) (x d:List Int) [Decidable (AllP [a=true])]:(a&&decide (((if AllP [a=true] then x else d).length:Int)>0))=(a&&decide ((x.length:Int)>0)):=by
 cases a <;> simp[AllP]
theorem z3m {w:TWa} (hc:w.Code.length≤1000000):F_q5 w=some (decide (WPl w)):=by
 simp only[F_q5,S_q5,Scr.den]
 have ra:=zu (ρ:=R_q5) (n:=6) (c:=false) (body:=fun i s=>(S_q5_b1 w i s).den) (fun i=>numP (([w.Number,w.Reservation,w.Commitment,w.Verification,w.Attempt,w.Payee]:List Int).getD i default)) (fun i hi hp=>by
  simp only[S_q5_b1,Scr.den,zf6,obind]
  rw[decide_eq_true hp]
  rfl) (fun i hi hp=>by
  simp only[S_q5_b1,Scr.den,zf6,obind]
  rw[decide_eq_false hp]
  rfl)
 by_cases h6:∀ j,j<6→numP (([w.Number,w.Reservation,w.Commitment,w.Verification,w.Attempt,w.Payee]:List Int).getD j default)
 ·rw[ra.1 h6]
  have h6':=zij.1 h6
  open Classical in simp only[outM,z5h (show w.Code.length≤1099511627776 by omega),zbz,zpc,z18,obind,zh,z32,zkq]
  refine congrArg some ?_
  have e:decide (((parts w.Code).length:Int)>0)=good w.Code:=by rw[← z4t]; rw[Bool.eq_iff_iff]; simp
  rw[e,Bool.eq_iff_iff]
  simp only[Bool.and_eq_true,decide_eq_true_eq]
  exact⟨fun⟨⟨⟨⟨⟨a,b⟩,c⟩,d⟩,f⟩,g⟩=>⟨h6',a,b,c,d,f,g⟩,fun⟨_,a,b,c,d,f,g⟩=>⟨⟨⟨⟨⟨a,b⟩,c⟩,d⟩,f⟩,g⟩⟩
 ·rw[ra.2 h6]
  show some false=_
  rw[decide_eq_false fun h:WPl w=>h6 (zij.2 h.1)]
theorem z1z {w:TWa} (hc:w.Code.length≤1000000):F_q7 w=some (decide (WPl w)):=by
 simp only[F_q7,S_q7,Scr.den]
 have ra:=zu (ρ:=R_q7) (n:=6) (c:=false) (body:=fun i s=>(S_q7_b1 w i s).den) (fun i=>numP (([w.Number,w.Reservation,w.Commitment,w.Verification,w.Attempt,w.Payee]:List Int).getD i default)) (fun i hi hp=>by
  simp only[S_q7_b1,Scr.den,zc0,obind]
  rw[decide_eq_true hp]
  rfl) (fun i hi hp=>by
  simp only[S_q7_b1,Scr.den,zc0,obind]
  rw[decide_eq_false hp]
  rfl)
 have rb:=zu (ρ:=R_q7) (n:=2) (c:=false) (body:=fun i s=>(S_q7_b2 w i s).den) (fun i=>dayP (([w.Day,w.Due]:List Int).getD i default)) (fun i hi hp=>by
  simp only[S_q7_b2,Scr.den,zl]
  unfold dayP at hp
  rw[if_neg (by simp only[Bool.or_eq_true,decide_eq_true_eq]; omega)]) (fun i hi hp=>by
  simp only[S_q7_b2,Scr.den,zl]
  unfold dayP at hp
  rw[if_pos (by simp only[Bool.or_eq_true,decide_eq_true_eq]; omega)])
 by_cases h6:∀ j,j<6→numP (([w.Number,w.Reservation,w.Commitment,w.Verification,w.Attempt,w.Payee]:List Int).getD j default)
 ·rw[ra.1 h6]
  have h6':=zij.1 h6
  simp only[outM]
  by_cases h2:∀ j,j<2→dayP (([w.Day,w.Due]:List Int).getD j default)
  ·rw[rb.1 h2]
   have h2':=zos.1 h2
   open Classical in simp only[z3e (show w.Code.length<4611686018427387904 by omega),z18,obind,zh,z32]
   refine congrArg some ?_
   rw[Bool.eq_iff_iff]
   simp only[Bool.and_eq_true,decide_eq_true_eq,ge_iff_le]
   exact⟨fun⟨⟨⟨⟨⟨a,b⟩,c⟩,d⟩,f⟩,g⟩=>⟨h6',a,b,⟨c,d⟩,⟨f,g⟩,h2'⟩,fun⟨_,a,b,c,d,f⟩=>⟨⟨⟨⟨⟨a,b⟩,c.1⟩,c.2⟩,d.1⟩,d.2⟩⟩
  ·rw[rb.2 h2]
   show some false=_
   rw[decide_eq_false fun h:WPl w=>h2 (zos.2 h.2.2.2.2.2)]
 ·rw[ra.2 h6]
  show some false=_
  rw[decide_eq_false fun h:WPl w=>h6 (zij.2 h.1)]
theorem WPl.len {w:TWa} (h:WPl w):w.Code.length≤60:=by have:=z5i h.2.2.1; omega
end Go.Proofs.YtclaojamgomjbaaGreatDoor
namespace Go.Proofs.YtclaojamgomjbaaGreatDoor
open Go Go.TA
theorem z3b {n:Int} (h0:-9223372036854775808≤n) (h1:n≤9223372036854775807):F_q51 n=some (Lib.itoa n):=za ⟨h0,h1⟩
def z11 (w:TWa):List Int:=[w.Year,w.Reservation,w.Commitment,w.Verification,w.Attempt,w.Amount,w.Payee,w.Day,w.Due]
def headV (w:TWa):List (List UInt8):=[[119,97,114,114,97,110,116],Lib.itoa w.Number,Lib.itoa w.Office,w.Code]
def bytesV (w:TWa):List UInt8:=Lib.join (headV w++(z11 w).map Lib.itoa) [32]
def smI (n:Int):Prop:=-9223372036854775808≤n∧n≤9223372036854775807
theorem WPl.rest {w:TWa} (h:WPl w):∀ x∈z11 w,smI x:=by
 obtain⟨⟨a,b,c,d,e,f⟩,g,_,i,j,k,l⟩:=h
 unfold numP at a b c d e f
 unfold dayP at k l
 intro x hx
 simp only[z11,List.mem_cons,List.not_mem_nil,or_false] at hx
 unfold smI
 rcases hx with rfl | rfl | rfl | rfl | rfl | rfl | rfl | rfl | rfl <;> omega
theorem z8j {B:Nat} {s:List UInt8}:∀ {l:List (List UInt8)},(∀ x∈l,x.length≤B)→(Lib.joinTail s l).length≤l.length * (s.length+B)
 | [],_=>by simp[Lib.joinTail]
 | x :: l,h=>by
  have h1:=h x (by simp)
  have h2:=z8j (s:=s) (l:=l) fun y hy=>h y (by simp[hy])
  have e:Lib.joinTail s (x :: l)=(s++x)++Lib.joinTail s l:=by simp[Lib.joinTail]
  rw[e,List.length_append,List.length_append,List.length_cons,Nat.succ_mul]
  omega
theorem z7a {w:TWa} (h:WPl w):(bytesV w).length≤2000:=by
 have hn:smI w.Number∧smI w.Office:=by
  obtain⟨⟨a,_⟩,g,_⟩:=h
  unfold numP at a
  unfold smI
  omega
 have h1:∀ x,smI x→(Lib.itoa x).length≤60:=fun x hx=>by have:=Lib.itoa_length_le x hx.1 hx.2; omega
 have hl:=h.len
 show (Lib.join ([119,97,114,114,97,110,116] :: ([Lib.itoa w.Number,Lib.itoa w.Office,w.Code]++(z11 w).map Lib.itoa)) [32]).length≤_
 rw[Lib.join_cons,List.length_append]
 have:=z8j (B:=60) (s:=[32]) (l:=[Lib.itoa w.Number,Lib.itoa w.Office,w.Code]++(z11 w).map Lib.itoa) (fun x hx=>by
  rcases List.mem_append.1 hx with hx | hx
  ·simp only[List.mem_cons,List.not_mem_nil,or_false] at hx
   rcases hx with rfl | rfl | rfl
   ·exact h1 _ hn.1
   ·exact h1 _ hn.2
   ·exact hl
  ·obtain⟨y,hy,rfl⟩:=List.mem_map.1 hx
   exact h1 _ (h.rest y hy))
 simp only[List.length_append,List.length_cons,List.length_nil,List.length_map,z11] at this ⊢
 omega
theorem z7j {α β:Type} [Inhabited α] {f:α→β} {l:List α} {i:Nat} (h:i<l.length):(l.take (i+1)).map f=(l.take i).map f++[f (l.getD i default)]:=by
 rw[← List.take_append_getElem h,List.map_append,z1j h]
 rfl
theorem zm8 {w:TWa} (h:WPl w):F_q1j w=some (bytesV w):=by
 have hl:=h.len
 have hn:smI w.Number∧smI w.Office:=by
  obtain⟨⟨a,_⟩,g,_⟩:=h
  unfold numP at a
  unfold smI
  omega
 have hb:=z7a h
 simp only[F_q1j,S_q1j,Scr.den,z3m (show w.Code.length≤1000000 by omega),obind,decide_eq_true h]
 rw[if_neg (by decide),z3b hn.1.1 hn.1.2]
 simp only[obind]
 rw[z3b hn.2.1 hn.2.2]
 simp only[obind]
 obtain⟨s,e,h1⟩:=z1g (body:=fun i s=>(S_q1j_b1 w i s).den) (n:=9) (fun i s=>s=headV w++((z11 w).take i).map Lib.itoa) (s0:=headV w) (by simp) (fun i s hi hI=>by
  subst hI
  have hr:smI ((z11 w).getD i default):=h.rest _ (zm (by simpa [z11] using hi))
  simp only[S_q1j_b1,Scr.den]
  rw[show ([w.Year,w.Reservation,w.Commitment,w.Verification,w.Attempt,w.Amount,w.Payee,w.Day,w.Due]:List Int)=z11 w from rfl,z3b hr.1 hr.2]
  simp only[obind]
  rw[za (by simp only[AllP,and_true,List.length_append,List.length_map,List.length_take,headV,z11,List.length_cons,List.length_nil]; omega)]
  refine⟨_,rfl,?_⟩
  rw[z7j (by simpa [z11] using hi),List.append_assoc])
 subst h1
 rw[show ([[119,97,114,114,97,110,116],Lib.itoa w.Number,Lib.itoa w.Office,w.Code]:List (List UInt8))=headV w from rfl,e]
 simp only[outM]
 have e9:(z11 w).take 9=z11 w:=rfl
 rw[e9,za (by simp only[AllP,and_true,List.length_append,List.length_map,headV,z11,List.length_cons,List.length_nil]; omega),show F_q54 _ _=some (bytesV w) from za ⟨by simp[headV],by simp[headV,z11],by show (bytesV w).length≤_; omega⟩]
 rfl
def hstep (h:Int) (c:UInt8):Int:=IntKind.u64.wrap ((IntKind.u64.wrap ((BitVec.ofInt IntKind.u64.bits h ^^^ BitVec.ofInt IntKind.u64.bits (IntKind.u64.wrap ((c.toNat:Int)))).toNat:Int)) * 1099511628211)
def hashV (l:List UInt8):Int:=l.foldl hstep 14695981039346656037
theorem znq {l:List UInt8} (hl:l.length<9223372036854775808):F_q1k l=some (hashV l):=by
 simp only[F_q1k,S_q1k,Scr.den]
 rw[za (by simp only[AllP,and_true]; omega),z1v (ρ:=R_q1k) (body:=fun i s=>(S_q1k_b1 l i s).den) l hstep (fun i s hi=>rfl)]
 rfl
def kb (key:Int) (j:Nat):Int:=IntKind.u8.wrap (key.fdiv (2 ^ (min (IntKind.i64.wrap (56-(IntKind.i64.wrap (8 * (j:Int))))).toNat IntKind.u64.bits)))
def keyB (key:Int):List UInt8:=(List.range 8).map fun j=>UInt8.ofNat (kb key j).toNat
def sigV (key:Int) (w:TWa):Int:=hashV (keyB key++bytesV w)
theorem zf7 {w:TWa} (h:WPl w) (key:Int):F_qw key w=some (sigV key w):=by
 have hb:=z7a h
 simp only[F_qw,S_qw,Scr.den]
 obtain⟨s,e,h1⟩:=z1g (body:=fun i s=>(S_qw_b1 key i s).den) (n:=8) (fun i s=>∀ j,j<i→s j=kb key j) (s0:=fun _=>0) (fun j hj=>by omega) (fun i s hi hI=>by
  simp only[S_qw_b1,Scr.den]
  rw[za (by
   simp only[AllP,and_true]
   rw[wrapId (n:=8 * (i:Int)) (by omega) (by omega),wrapId (n:=56-8 * (i:Int)) (by omega) (by omega)]
   omega)]
  refine⟨_,rfl,fun j hj=>?_⟩
  by_cases e:j=i
  ·subst e; rw[if_pos rfl]; rfl
  ·rw[if_neg e]; exact hI j (by omega))
 rw[e]
 simp only[outM,zm8 h,obind]
 have e2:((List.range 8).map fun j=>UInt8.ofNat (s j).toNat)=keyB key:=List.map_congr_left fun j hj=>by rw[h1 j (List.mem_range.1 hj)]
 rw[e2,znq (by simp only[List.length_append,keyB,List.length_map,List.length_range]; omega)]
 simp only[obind]
 rw[za (by simp only[AllP,and_true,keyB,List.length_map,List.length_range]; omega)]
 rfl
def zW:TWa:=⟨0,0,[],0,0,0,0,0,0,0,0,0,0,0⟩
def z2u (w:TWa) (x:Int):TWa:=⟨w.Number,w.Office,w.Code,w.Year,w.Verification,w.Attempt,w.Commitment,w.Reservation,w.Amount,w.Payee,w.Day,w.Due,x,w.Second⟩
def z4f (w:TWa) (x:Int):TWa:=⟨w.Number,w.Office,w.Code,w.Year,w.Verification,w.Attempt,w.Commitment,w.Reservation,w.Amount,w.Payee,w.Day,w.Due,w.First,x⟩
def signV (keys:List Int) (w:TWa) (b:Bool):TWa×Int :=
 if ¬ WPl w then (zW,1) else
 if b=false∧2 * (w.Office-1)<(keys.length:Int) then (z2u w (sigV (keys.getD (2 * (w.Office-1)).toNat default) w),0) else
 if (keys.length:Int)≤2 * (w.Office-1)+1 then (zW,6) else
 if w.First≠sigV (keys.getD (2 * (w.Office-1)).toNat default) w then (zW,18) else
 (z4f w (sigV (keys.getD (2 * (w.Office-1)+1).toNat default) w),0)
theorem znr {w:TWa} (hc:w.Code.length≤1000000) (keys:List Int) (b:Bool):F_q3v keys w b=some (signV keys w b):=by
 simp only[F_q3v,S_q3v,Scr.den,z3m hc,obind,zh]
 unfold signV
 by_cases h:WPl w
 ·have ho:=h.2.1
  rw[decide_eq_true h,if_neg (by decide),if_neg (show ¬ ¬ WPl w from fun k=>k h),wrapId (n:=w.Office-1) (by omega) (by omega),wrapId (n:=2 * (w.Office-1)) (by omega) (by omega),wrapId (n:=2 * (w.Office-1)+1) (by omega) (by omega)]
  simp only[zf7 h,obind]
  by_cases c1:b=false∧2 * (w.Office-1)<(keys.length:Int)
  ·rw[if_pos (by simp only[Bool.and_eq_true,Bool.not_eq_true',decide_eq_true_eq]; exact c1),if_pos c1,za (by simp only[AllP,and_true]; omega)]
   rfl
  ·rw[if_neg (by simp only[Bool.and_eq_true,Bool.not_eq_true',decide_eq_true_eq]; exact c1),if_neg c1]
   by_cases c2:(keys.length:Int)≤2 * (w.Office-1)+1
   ·rw[if_pos (by simp only[decide_eq_true_eq,ge_iff_le]; exact c2),if_pos c2]
    rfl
   ·rw[if_neg (by simp only[decide_eq_true_eq,ge_iff_le]; exact c2),if_neg c2,za (by simp only[AllP,and_true]; omega)]
    by_cases c3:w.First=sigV (keys.getD (2 * (w.Office-1)).toNat default) w
    ·rw[if_neg (show ¬ (w.First != sigV (keys.getD (2 * (w.Office-1)).toNat default) w)=true by rw[← c3]; simp),if_neg (show ¬ w.First≠_ from fun k=>k c3),za (by simp only[AllP,and_true]; omega)]
     rfl
    ·rw[if_pos (by simpa using c3),if_pos c3]
     rfl
 ·rw[decide_eq_false h,if_pos (by decide),if_pos h]
  rfl
def checkV (keys:List Int) (w:TWa):Int:=if (signV keys w true).2=0∧(signV keys w true).1.Second≠w.Second then 18 else (signV keys w true).2
theorem zf8 {w:TWa} (hc:w.Code.length≤1000000) (keys:List Int):F_q3w keys w=some (checkV keys w):=by
 simp only[F_q3w,S_q3w,Scr.den,znr hc,obind,zh]
 unfold checkV
 by_cases h:(signV keys w true).2=0∧(signV keys w true).1.Second≠w.Second
 ·rw[if_pos (by simpa using h),if_pos h]
 ·rw[if_neg (by simpa using h),if_neg h]
end Go.Proofs.YtclaojamgomjbaaGreatDoor
namespace Go.Proofs.YtclaojamgomjbaaGreatDoor
open Go Go.TA
def SrtW (l:List TWa):Prop:=l.Pairwise fun x y=>x.Number<y.Number
theorem SrtW.lt {l:List TWa} (h:SrtW l) {i j:Nat} (hij:i<j) (hj:j<l.length):(l.getD i default).Number<(l.getD j default).Number:=by
 have:=List.pairwise_iff_getElem.1 h i j (by omega) hj hij
 rw[z1j (show i<l.length by omega),z1j hj]
 exact this
def posW (l:List TWa) (n:Int):Nat:=l.findIdx fun x=>decide (n≤x.Number)
theorem z56 (l:List TWa) (n:Int):posW l n≤l.length:=List.findIdx_le_length
theorem z98 {l:List TWa} {n:Int} {i:Nat} (hi:i<posW l n):(l.getD i default).Number<n:=by
 have hl:i<l.length:=Nat.lt_of_lt_of_le hi (z56 l n)
 have:=List.not_of_lt_findIdx hi
 rw[z1j hl]
 simpa using this
theorem z99 {l:List TWa} {n:Int} (hS:SrtW l) {i:Nat} (hi:i<l.length) (hp:posW l n≤i):n≤(l.getD i default).Number:=by
 have hlt:posW l n<l.length:=by omega
 have h0:n≤(l.getD (posW l n) default).Number:=by
  have:=List.findIdx_getElem (xs:=l) (p:=fun x:TWa=>decide (n≤x.Number)) (w:=hlt)
  rw[z1j hlt]
  exact of_decide_eq_true this
 by_cases e:posW l n=i
 ·rwa [e] at h0
 ·have:=hS.lt (show posW l n<i by omega) hi
  omega
theorem z4g (x y:TWa):F_q33 x y=some (cmpI x.Number y.Number):=by
 simp only[F_q33,S_q33,Scr.den,zbt,obind]
theorem z5n {a b:Int}:cmpI a b<0↔a<b:=by
 unfold cmpI
 split
 ·omega
 ·split <;> omega
theorem zkr {a b:Int}:cmpI a b=0↔a=b:=by
 unfold cmpI
 split
 ·omega
 ·split <;> omega
def hasN (l:List TWa) (n:Int):Bool:=l.any fun x=>x.Number==n
theorem zm9 {l:List TWa} (hS:SrtW l) (n:Int):(decide (posW l n<l.length)&&((l.getD (posW l n) default).Number==n))=hasN l n:=by
 have hp:=z56 l n
 unfold hasN
 rw[Bool.eq_iff_iff]
 simp only[Bool.and_eq_true,decide_eq_true_eq,beq_iff_eq,List.any_eq_true]
 constructor
 ·rintro⟨h1,h2⟩
  exact⟨_,zm h1,h2⟩
 ·rintro⟨x,hx,rfl⟩
  obtain⟨j,hj,rfl⟩:=z1h hx
  have h1:¬ j<posW l (l.getD j default).Number:=fun h=>by have:=z98 h; omega
  have h2:posW l (l.getD j default).Number<l.length:=by omega
  refine⟨h2,?_⟩
  have h3:=z99 hS h2 (Nat.le_refl _)
  rcases Nat.lt_or_ge (posW l (l.getD j default).Number) j with h | h
  ·have:=hS.lt h hj; omega
  ·have:posW l (l.getD j default).Number=j:=by omega
   rw[this]
theorem zik {l:List TWa} {w:TWa} (hl:l.length≤1000000) (hS:SrtW l) :
  F_q1p l w=some ((posW l w.Number:Int),hasN l w.Number):=by
 have hp:=z56 l w.Number
 simp only[F_q1p,S_q1p,Scr.den]
 obtain⟨s,e,hJ⟩:=z1b (step:=fun s=>(S_q1p_b1 l w s).den) (fun s=>(s.2-s.1).toNat) (fun s=>∃ i j:Nat,s=((i:Int),(j:Int))∧i≤posW l w.Number∧posW l w.Number≤j∧j≤l.length) (fun s=>s.1=posW l w.Number) (fun s hI=>by
  obtain⟨i,j,rfl,h1,h2,h3⟩:=hI
  simp only[S_q1p_b1,Scr.den,znn (show i+j<4611686018427387904 by omega),z4g,obind,Int.toNat_natCast]
  by_cases hij:i<j
  ·left
   rw[if_pos (by simpa using hij),za ⟨by omega,by omega,trivial⟩]
   by_cases hlt:(l.getD ((i+j) / 2) default).Number<w.Number
   ·rw[if_pos (by simpa using z5n.2 hlt),wrapId (by omega) (by omega)]
    have:(i+j) / 2<posW l w.Number:=by
     by_cases h:(i+j) / 2<posW l w.Number
     ·exact h
     ·have:=z99 hS (n:=w.Number) (show (i+j) / 2<l.length by omega) (by omega)
      omega
    exact⟨_,rfl,⟨(i+j) / 2+1,j,by simp,by omega,h2,h3⟩,by simp only; omega⟩
   ·rw[if_neg (by simpa using fun h=>hlt (z5n.1 h))]
    have:posW l w.Number≤(i+j) / 2:=by
     by_cases h:posW l w.Number≤(i+j) / 2
     ·exact h
     ·have:=z98 (show (i+j) / 2<posW l w.Number by omega)
      omega
    exact⟨_,rfl,⟨i,(i+j) / 2,rfl,h1,this,by omega⟩,by simp only; omega⟩
  ·right
   rw[if_neg (by simpa using hij)]
   exact⟨_,rfl,by simp only; omega⟩) _ (0,(l.length:Int)) (Nat.lt_succ_self _) ⟨0,l.length,rfl,by omega,hp,by omega⟩
 rw[e]
 simp only[outM,hJ,Int.toNat_natCast,z4g,zh]
 rw[← zm9 hS]
 by_cases h:posW l w.Number<l.length
 ·rw[z1e (by exact⟨by simp; omega,trivial⟩),obind,za ⟨fun _=>by omega,fun _=>h,trivial⟩]
  refine congrArg some (Prod.ext rfl ?_)
  rw[Bool.eq_iff_iff]
  simp[h,zkr]
 ·rw[z14 (by simp[AllP]; omega),obind,za ⟨fun _=>by omega,fun h'=>absurd h (by simp[AllP] at h'; omega),trivial⟩]
  simp[h]
theorem zd0 {l:List TWa} (hl:l.length≤1000000):F_q3j l=some l:=by
 simp only[F_q3j,S_q3j,Scr.den]
 rw[za ⟨by omega,trivial⟩]
def sameB (x w:TWa):Bool:=(x.Office==w.Office&&x.Verification==w.Verification)&&x.Attempt==w.Attempt
theorem zks (x w:TWa):F_q4d x w=some (sameB x w):=by
 simp only[F_q4d,S_q4d,Scr.den,zh]
 rfl
theorem zf9 (l:List TWa) (w:TWa):F_q4e l w=some (l.any fun x=>sameB x w):=by
 have h:F_q21 l w=some (if (l.any fun x=>sameB x w)=true then ((l.findIdx fun x=>sameB x w:Nat):Int) else -1):=by
  simp only[F_q21,S_q21,Scr.den]
  rw[z1o l (fun x=>sameB x w) (fun i=>(i:Int)) (fun i hi=>by
   simp only[S_q21_b1,F_q4w,S_q4w,Scr.den,zks,obind]
   split <;> rfl)]
  cases (l.any fun x=>sameB x w) <;> rfl
 simp only[F_q4e,S_q4e,Scr.den,h,obind]
 congr 1
 cases (l.any fun x=>sameB x w) with
 | true=>simp
 | false=>rfl
def addV (l:List TWa) (w:TWa):List TWa×Int :=
 if ¬ WPl w then ([],1) else if hasN l w.Number=true then ([],7) else if (l.any fun x=>sameB x w)=true then ([],20) else if 200≤l.length then ([],3) else (insL l (posW l w.Number) w,0)
theorem zfa {l:List TWa} {w:TWa} (hl:l.length≤1000) (hS:SrtW l) (hc:w.Code.length≤1000000):F_qk l w=some (addV l w):=by
 simp only[F_qk,S_qk,Scr.den,z3m hc,obind]
 unfold addV
 by_cases h:WPl w
 ·rw[decide_eq_true h,if_neg (by decide),if_neg (show ¬ ¬ WPl w from fun k=>k h)]
  obtain⟨s,e,_⟩:=z1b (step:=fun s=>(S_qk_b1 l s).den) (fun s=>((l.length:Int)-s).toNat) (fun s=>∃ i:Nat,s=(i:Int)∧1≤i) (fun _=>True) (fun s hI=>by
   obtain⟨i,rfl,h1⟩:=hI
   simp only[S_qk_b1,Scr.den,z4g,obind,Int.toNat_natCast]
   by_cases hi:i<l.length
   ·left
    have e1:IntKind.i64.wrap ((i:Int)-1)=((i-1:Nat):Int):=by rw[wrapId (by omega) (by omega)]; omega
    have hlt:=hS.lt (show i-1<i by omega) hi
    rw[if_pos (by simpa using hi),e1,Int.toNat_natCast,za ⟨by omega,by omega,by omega,hi,trivial⟩,if_neg (fun hh=>absurd (z5n.2 hlt) (Int.not_lt.2 (of_decide_eq_true hh))),wrapId (n:=(i:Int)+1) (by omega) (by omega)]
    exact⟨_,rfl,⟨i+1,rfl,by omega⟩,by show ((l.length:Int)-((i:Int)+1)).toNat<((l.length:Int)-i).toNat; omega⟩
   ·right
    rw[if_neg (by simpa using hi)]
    exact⟨_,rfl,trivial⟩) _ 1 (Nat.lt_succ_self _) ⟨1,rfl,Nat.le_refl _⟩
  rw[e]
  simp only[outM]
  rw[zik (by omega) hS]
  simp only[obind,zf9,zd0 (show l.length≤1000000 by omega)]
  by_cases c1:hasN l w.Number=true
  ·rw[if_pos c1,if_pos c1]
  ·rw[if_neg c1,if_neg c1]
   by_cases c2:(l.any fun x=>sameB x w)=true
   ·rw[if_pos c2,if_pos c2]
   ·rw[if_neg c2,if_neg c2]
    by_cases c3:200≤l.length
    ·rw[if_pos (by simp; omega),if_pos c3]
    ·rw[if_neg (by simp; omega),if_neg c3]
     simp only[F_q50,Int.toNat_natCast]
     rw[za ⟨by omega,z56 _ _,by omega⟩]
     simp only[obind]
     rw[za (by simp only[AllP,and_true,z1a]; omega)]
 ·rw[decide_eq_false h,if_pos (by decide),if_pos h]
theorem zma {l:List TWa} {w:TWa} (hS:SrtW l) (hn:¬ hasN l w.Number=true):SrtW (insL l (posW l w.Number) w):=by
 have hp:=z56 l w.Number
 have h1:∀ x∈l.take (posW l w.Number),x.Number<w.Number:=fun x hx=>by
  obtain⟨i,hi,rfl⟩:=List.mem_take_iff_getElem.1 hx
  have:=z98 (l:=l) (n:=w.Number) (i:=i) (by omega)
  rwa [z1j (by omega)] at this
 have h2:∀ x∈l.drop (posW l w.Number),w.Number<x.Number:=fun x hx=>by
  obtain⟨i,hi,rfl⟩:=List.mem_drop_iff_getElem.1 hx
  have:=z99 hS (n:=w.Number) (i:=posW l w.Number+i) (by omega) (by omega)
  rw[z1j (by omega)] at this
  have hne:l[posW l w.Number+i].Number≠w.Number:=fun e=>hn (List.any_eq_true.2 ⟨_,List.getElem_mem (by omega),beq_iff_eq.2 e⟩)
  omega
 unfold insL SrtW
 refine List.pairwise_append.2 ⟨hS.sublist (List.take_sublist _ _),List.pairwise_cons.2 ⟨h2,hS.sublist (List.drop_sublist _ _)⟩,fun a ha b hb=>?_⟩
 rcases List.mem_cons.1 hb with rfl | hb
 ·exact h1 a ha
 ·have:=h1 a ha; have:=h2 b hb; omega
theorem z7b {l:List TWa} {p:Nat} {w x:TWa}:x∈insL l p w↔x=w∨x∈l:=by
 unfold insL
 rw[List.mem_append,List.mem_cons]
 conv=>rhs; rw[← List.take_append_drop p l,List.mem_append]
 constructor
 ·rintro (h | h | h)
  ·exact .inr (.inl h)
  ·exact .inl h
  ·exact .inr (.inr h)
 ·rintro (h | h | h)
  ·exact .inr (.inl h)
  ·exact .inl h
  ·exact .inr (.inr h)
end Go.Proofs.YtclaojamgomjbaaGreatDoor
namespace Go.Proofs.YtclaojamgomjbaaGreatDoor
open Go Go.TA
def mkW (o:TOf) (x:TOr) (n:Int):TWa :=
 ⟨n,o.Number,(rAt o.Book (cAt o.Book (vAt o.Book x.Verification).Commitment).Reservation).Code,(rAt o.Book (cAt o.Book (vAt o.Book x.Verification).Commitment).Reservation).Year,(vAt o.Book x.Verification).Number,x.Attempt,(cAt o.Book (vAt o.Book x.Verification).Commitment).Number,
  (rAt o.Book (cAt o.Book (vAt o.Book x.Verification).Commitment).Reservation).Number,(vAt o.Book x.Verification).Amount,(cAt o.Book (vAt o.Book x.Verification).Commitment).Payee,x.Day,(cAt o.Book (vAt o.Book x.Verification).Commitment).Due,0,0⟩
theorem ordF {o:TOf} (hv:VO o) {i:Nat} (hi:i<o.Book.Orders.length):OFld o.Book (o.Book.Orders.getD i default) (o.Book.Orders.take i) (i+1):=hv.val.2.2.2.2.2.1 i hi
theorem zd1 {o:TOf} (hv:VO o) {i:Nat} (hi:i<o.Book.Orders.length) {n:Int} (hn:numP n):WPl (mkW o (o.Book.Orders.getD i default) n):=by
 have ho:=ordF hv hi
 obtain⟨hR,hC,_,hV,_,_,l1,l2,l3,l4⟩:=hv.val
 generalize o.Book.Orders.getD i default=x at ho
 obtain⟨_,o2,o3,_,_,o6,_⟩:=ho
 obtain⟨v1,v2,v3,v4,_⟩:=hV.at o2
 obtain⟨c1,c2,c3,c4,c5,c6,c7,_⟩:=hC.at v2
 obtain⟨r1,r2,r3,r4,_⟩:=hR.at c2
 have hlen:(ordersOf (o.Book.Orders.take i) x.Verification).length≤200:=by
  have h1:(ordersOf (o.Book.Orders.take i) x.Verification).length≤(o.Book.Orders.take i).length:=List.length_filter_le _ _
  rw[List.length_take] at h1
  omega
 unfold amtP at v4
 refine⟨⟨hn,?_,?_,?_,?_,c6⟩,?_,r2,r3,v4,o3,c7⟩
 ·show numP _; rw[show (mkW o x n).Reservation=_ from r1]; unfold numP; omega
 ·show numP _; rw[show (mkW o x n).Commitment=_ from c1]; unfold numP; omega
 ·show numP _; rw[show (mkW o x n).Verification=_ from v1]; unfold numP; omega
 ·show numP x.Attempt; rw[o6]; unfold numP; omega
 ·exact hv.1
end Go.Proofs.YtclaojamgomjbaaGreatDoor
namespace Go.Proofs.YtclaojamgomjbaaGreatDoor
open Go Go.TA
def o19:TOf:=⟨1,[⟨[49],12,50,0,0⟩],⟨[⟨1,[49],12,4320,50,0⟩],[⟨1,1,4320,30,0,2,4400⟩],[⟨1,1,4330,30⟩],[⟨1,1,1,4340,false⟩]⟩⟩
theorem zfb:good [49]=true:=by kernel_rfl
theorem zns:Val o19.Book:=by
 have hR:RAll o19.Book:=fun i hi=>by
  obtain rfl:i=0:=by simpa [o19] using hi
  exact⟨rfl,zfb,by decide +kernel,by decide +kernel,by kernel_rfl,by decide +kernel,by decide +kernel⟩
 have hC:CAll o19.Book:=fun i hi=>by
  obtain rfl:i=0:=by simpa [o19] using hi
  exact⟨rfl,by decide +kernel,by decide +kernel,by decide +kernel,by decide +kernel,by decide +kernel,by decide +kernel,by decide +kernel,by kernel_rfl⟩
 refine⟨hR,hC,fun r hr=>?_,fun i hi=>?_,fun c hc=>?_,fun i hi=>?_,by decide +kernel,by decide +kernel,by decide +kernel,by decide +kernel⟩
 ·obtain rfl:r=⟨1,[49],12,4320,50,0⟩:=by simpa [o19] using hr
  decide +kernel
 ·obtain rfl:i=0:=by simpa [o19] using hi
  exact⟨rfl,by decide +kernel,by decide +kernel,by decide +kernel,by decide +kernel,by decide +kernel⟩
 ·obtain rfl:c=⟨1,1,4320,30,0,2,4400⟩:=by simpa [o19] using hc
  decide +kernel
 ·obtain rfl:i=0:=by simpa [o19] using hi
  exact⟨rfl,by decide +kernel,by decide +kernel,by decide +kernel,by decide +kernel,by kernel_rfl,by kernel_rfl⟩
theorem zfc:VO o19:=by
 refine⟨by decide +kernel,by decide +kernel,zns,fun r hr=>?_,fun i hi=>?_,fun x hx=>?_⟩
 ·obtain rfl:r=⟨[49],12,50,0,0⟩:=by simpa [o19] using hr
  exact⟨zfb,by decide +kernel,by decide +kernel,by decide +kernel,by decide +kernel⟩
 ·obtain rfl:i=0:=by simpa [o19] using hi
  exact .inl rfl
 ·obtain rfl:x=⟨1,[49],12,4320,50,0⟩:=by simpa [o19] using hx
  exact⟨by kernel_rfl,by decide +kernel⟩
def w19:TWa:=⟨7,1,[49],12,1,1,1,1,30,2,4340,4400,0,0⟩
theorem z4m:WPl w19:=of_decide_eq_true (by kernel_rfl)
theorem z9t (w:TWa) (x:Int):(z2u w x).First=x:=rfl
theorem zgi (w:TWa) (x:Int):(z4f w x).First=w.First:=rfl
theorem zgj (w:TWa) (x y:Int):z4f (z4f w x) y=z4f w y:=rfl
theorem z65 (k:Int) (w:TWa) (x:Int):sigV k (z2u w x)=sigV k w:=by
 unfold sigV
 rw[show bytesV (z2u w x)=bytesV w from rfl]
theorem zd2 (k:Int) (w:TWa) (x:Int):sigV k (z4f w x)=sigV k w:=by
 unfold sigV
 rw[show bytesV (z4f w x)=bytesV w from rfl]
end Go.Proofs.YtclaojamgomjbaaGreatDoor
namespace Go.Proofs.YtclaojamgomjbaaGreatDoor
open Go Go.TA
theorem zfd {s:List UInt8} {a b:List (List UInt8)}:Lib.joinTail s (a++b)=Lib.joinTail s a++Lib.joinTail s b:=by simp[Lib.joinTail]
theorem zfe {s x:List UInt8}:Lib.joinTail s [x]=s++x:=by simp[Lib.joinTail]
theorem zff {w:TWa} (h:WPl w):F_qn w=some (bytesV w):=by
 have hl:=h.len
 have hn:smI w.Number∧smI w.Office:=by
  obtain⟨⟨a,_⟩,g,_⟩:=h
  unfold numP at a
  unfold smI
  omega
 have i1:=Lib.itoa_length_le w.Number hn.1.1 hn.1.2
 have i2:=Lib.itoa_length_le w.Office hn.2.1 hn.2.2
 simp only[F_qn,S_qn,Scr.den,z1z (show w.Code.length≤1000000 by omega),obind,decide_eq_true h]
 rw[if_neg (by decide),z3b hn.1.1 hn.1.2]
 simp only[obind]
 rw[z3b hn.2.1 hn.2.2]
 simp only[obind]
 rw[za (by simp only[AllP,and_true,List.length_append,List.length_cons,List.length_nil]; omega)]
 have e0:(((((([119,97,114,114,97,110,116,32]:List UInt8)++Lib.itoa w.Number)++[32])++Lib.itoa w.Office)++[32])++w.Code)=[119,97,114,114,97,110,116]++Lib.joinTail [32] [Lib.itoa w.Number,Lib.itoa w.Office,w.Code]:=by simp[Lib.joinTail]
 obtain⟨s,e,h1,h2⟩:=z1g (body:=fun i s=>(S_qn_b1 w i s).den) (n:=9) (fun i s=>s.length≤1000+100 * i∧s=[119,97,114,114,97,110,116]++Lib.joinTail [32] ([Lib.itoa w.Number,Lib.itoa w.Office,w.Code]++((z11 w).take i).map Lib.itoa)) (s0:=(((((([119,97,114,114,97,110,116,32]:List UInt8)++Lib.itoa w.Number)++[32])++Lib.itoa w.Office)++[32])++w.Code)) (⟨by simp only[List.length_append,List.length_cons,List.length_nil]; omega,by rw[e0]; rfl⟩) (fun i s hi hI=>by
  have hr:smI ((z11 w).getD i default):=h.rest _ (zm (by simpa [z11] using hi))
  have hlen:=Lib.itoa_length_le _ hr.1 hr.2
  simp only[S_qn_b1,Scr.den]
  rw[show ([w.Year,w.Reservation,w.Commitment,w.Verification,w.Attempt,w.Amount,w.Payee,w.Day,w.Due]:List Int)=z11 w from rfl,z3b hr.1 hr.2]
  simp only[obind]
  rw[za (by simp only[AllP,and_true,List.length_append,List.length_cons,List.length_nil]; omega)]
  refine⟨_,rfl,by simp only[List.length_append,List.length_cons,List.length_nil]; omega,?_⟩
  rw[z7j (by simpa [z11] using hi),hI.2,← List.append_assoc [Lib.itoa w.Number,Lib.itoa w.Office,w.Code],zfd (b:=[_]),zfe,List.append_assoc])
 rw[e]
 have e9:(z11 w).take 9=z11 w:=rfl
 rw[e9] at h2
 rw[h2]
 show some _=some (Lib.join ([119,97,114,114,97,110,116] :: ([Lib.itoa w.Number,Lib.itoa w.Office,w.Code]++(z11 w).map Lib.itoa)) [32])
 rw[Lib.join_cons]
theorem zkt {α β:Type} [Inhabited α] {f:β→α→β} {b:β} {l:List α} {i:Nat} (h:i<l.length):(l.take (i+1)).foldl f b=f ((l.take i).foldl f b) (l.getD i default):=by
 rw[← List.take_append_getElem h,List.foldl_append,z1j h]
 rfl
theorem zgk {l:List UInt8} (hl:l.length≤1000000):F_qo l=some (hashV l):=by
 simp only[F_qo,S_qo,Scr.den]
 obtain⟨s,e,h1⟩:=z1b (step:=fun s=>(S_qo_b1 l s).den) (fun s:Int×Int=>((l.length:Int)-s.2).toNat) (fun s=>∃ i:Nat,s.2=(i:Int)∧i≤l.length∧s.1=(l.take i).foldl hstep 14695981039346656037) (fun s=>s.1=hashV l) (fun s hI=>by
  obtain⟨x,y⟩:=s
  obtain⟨i,hi0,hil,hx⟩:=hI
  simp only at hi0 hx
  subst hi0
  simp only[S_qo_b1,Scr.den,Int.toNat_natCast]
  by_cases hi:i<l.length
  ·left
   rw[if_pos (by simpa using hi),za ⟨by omega,hi,trivial⟩,wrapId (n:=(i:Int)+1) (by omega) (by omega)]
   refine⟨_,rfl,⟨i+1,rfl,by omega,?_⟩,by show ((l.length:Int)-((i:Int)+1)).toNat<((l.length:Int)-i).toNat; omega⟩
   rw[zkt hi,← hx]
   rfl
  ·right
   rw[if_neg (by simpa using hi)]
   refine⟨_,rfl,?_⟩
   show x=hashV l
   rw[hx,List.take_of_length_le (by omega)]
   rfl) _ (14695981039346656037,0) (Nat.lt_succ_self _) ⟨0,rfl,by omega,rfl⟩
 rw[e]
 simp only[outM]
 rw[h1]
theorem z2d {w:TWa} (h:WPl w) (key:Int):F_qc key w=some (sigV key w):=by
 have hb:=z7a h
 simp only[F_qc,S_qc,Scr.den]
 obtain⟨s,e,h1,h2⟩:=z1b (step:=fun s=>(S_qc_b1 key s).den) (fun s:List Int×Int=>(s.2+8).toNat) (fun s=>(s.1.length:Int) * 8+s.2=56∧-8≤s.2∧∀ j,j<s.1.length→s.1.getD j default=kb key j) (fun s=>s.1.length=8∧∀ j,j<8→s.1.getD j default=kb key j) (fun s hI=>by
  obtain⟨l,y⟩:=s
  obtain⟨k1,k2,k3⟩:=hI
  simp only at k1 k2 k3
  simp only[S_qc_b1,Scr.den]
  by_cases hy:0≤y
  ·left
   rw[if_pos (by simpa using hy),za ⟨hy,by omega,trivial⟩,wrapId (n:=y-8) (by omega) (by omega)]
   refine⟨_,rfl,⟨by simp only[List.length_append,List.length_cons,List.length_nil]; omega,by show -8≤y-8; omega,fun j hj=>?_⟩,by show (y-8+8).toNat<(y+8).toNat; omega⟩
   simp only[List.length_append,List.length_cons,List.length_nil] at hj
   by_cases c:j<l.length
   ·rw[← k3 j c]
    simp[List.getD,List.getElem?_append_left c]
   ·obtain rfl:j=l.length:=by omega
    unfold kb
    rw[wrapId (n:=8 * (l.length:Int)) (by omega) (by omega),show 56-8 * (l.length:Int)=y by omega,wrapId (n:=y) (by omega) (by omega)]
    simp[List.getD]
  ·right
   rw[if_neg (by simpa using hy)]
   have hl8:l.length=8:=by omega
   exact⟨_,rfl,hl8,fun j hj=>k3 j (by omega)⟩) _ (([]:List Int),56) (Nat.lt_succ_self _) ⟨by simp,by simp,fun j hj=>absurd hj (by simp)⟩
 rw[e]
 simp only[outM]
 rw[za ⟨by omega,trivial⟩,zff h]
 simp only[obind]
 have e2:((List.range s.1.length).map fun j=>UInt8.ofNat ((s.1.getD j default)).toNat)=keyB key:=by
  rw[h1]
  exact List.map_congr_left fun j hj=>by rw[h2 j (List.mem_range.1 hj)]
 rw[e2,zgk (by simp only[List.length_append,keyB,List.length_map,List.length_range]; omega)]
 simp only[obind]
 rw[za ⟨by simp only[keyB,List.length_map,List.length_range]; omega,trivial⟩]
 rfl
theorem z28 {w:TWa} (hc:w.Code.length≤1000000) (keys:List Int) (b:Bool):F_q18 keys w b=some (signV keys w b):=by
 simp only[F_q18,S_q18,Scr.den,z1z hc,obind]
 unfold signV
 by_cases h:WPl w
 ·have ho:=h.2.1
  rw[decide_eq_true h,if_neg (by decide),if_neg (show ¬ ¬ WPl w from fun k=>k h),wrapId (n:=w.Office-1) (by omega) (by omega),wrapId (n:=2 * (w.Office-1)) (by omega) (by omega),wrapId (n:=2 * (w.Office-1)+1) (by omega) (by omega)]
  cases b with
  | true =>
   rw[if_pos rfl,if_neg (show ¬ (true=false∧_) from fun k=>by cases k.1)]
   simp only[outM]
   by_cases c2:(keys.length:Int)≤2 * (w.Office-1)+1
   ·rw[if_pos (by simpa using c2),if_pos c2]
    rfl
   ·rw[if_neg (by simpa using c2),if_neg c2,if_neg (by decide),wrapId (n:=2 * (w.Office-1)+1-1) (by omega) (by omega),show 2 * (w.Office-1)+1-1=2 * (w.Office-1) by omega,z2d h]
    simp only[obind]
    rw[za ⟨by omega,by omega,trivial⟩]
    by_cases c3:w.First=sigV (keys.getD (2 * (w.Office-1)).toNat default) w
    ·rw[if_neg (show ¬ (sigV (keys.getD (2 * (w.Office-1)).toNat default) w != w.First)=true by rw[← c3]; simp),if_neg (show ¬ w.First≠_ from fun k=>k c3),z2d h]
     simp only[obind]
     rw[za ⟨by omega,by omega,trivial⟩]
     rfl
    ·rw[if_pos (by simpa using fun k=>c3 k.symm),if_pos c3]
     rfl
  | false =>
   rw[if_neg (by decide)]
   simp only[outM]
   by_cases c2:(keys.length:Int)≤2 * (w.Office-1)
   ·rw[if_pos (by simpa using c2),if_neg (by omega),if_pos (by omega)]
    rfl
   ·rw[if_neg (by simpa using c2),if_pos (by decide),if_pos (show True∧2 * (w.Office-1)<(keys.length:Int) from ⟨trivial,by omega⟩),z2d h]
    simp only[obind]
    rw[za ⟨by omega,by omega,trivial⟩]
    rfl
 ·rw[decide_eq_false h,if_pos (by decide),if_pos h]
  rfl
def sg1 (keys:List Int) (w:TWa):Int:=sigV (keys.getD (2 * (w.Office-1)).toNat default) w
def sg2 (keys:List Int) (w:TWa):Int:=sigV (keys.getD (2 * (w.Office-1)+1).toNat default) w
def signed (keys:List Int) (w:TWa):TWa:=z4f (z2u w (sg1 keys w)) (sg2 keys w)
theorem z3f {w:TWa} (h:WPl w) (x:Int):WPl (z2u w x):=h
theorem z4h {w:TWa} (h:WPl w) (x:Int):WPl (z4f w x):=h
theorem zil {keys:List Int} {w:TWa} (h:WPl w) (hk:2 * (w.Office-1)+1<(keys.length:Int)):signV keys w false=(z2u w (sg1 keys w),0):=by
 unfold signV sg1
 rw[if_neg (fun k=>k h),if_pos ⟨rfl,by omega⟩]
theorem zim {keys:List Int} {w:TWa} (h:WPl w) (hk:2 * (w.Office-1)+1<(keys.length:Int)):signV keys (z2u w (sg1 keys w)) true=(signed keys w,0):=by
 unfold signV
 rw[if_neg (fun k=>k (z3f h _)),if_neg (fun k=>by cases k.1),
  if_neg (show ¬ (keys.length:Int)≤2 * ((z2u w (sg1 keys w)).Office-1)+1 from (show ¬ (keys.length:Int)≤2 * (w.Office-1)+1 by omega)),
  if_neg (show ¬ (z2u w (sg1 keys w)).First≠sigV (keys.getD (2 * ((z2u w (sg1 keys w)).Office-1)).toNat default) (z2u w (sg1 keys w)) from fun k=>k (by rw[z9t,z65]; rfl)),z65]
 rfl
theorem z8k {keys:List Int} {w:TWa} (h:WPl w) (hk:2 * (w.Office-1)+1<(keys.length:Int)):checkV keys (signed keys w)=0:=by
 have e:signV keys (signed keys w) true=(signed keys w,0):=by
  unfold signV
  rw[if_neg (fun k=>k (z4h (z3f h _) _)),if_neg (fun k=>by cases k.1),
   if_neg (show ¬ (keys.length:Int)≤2 * ((signed keys w).Office-1)+1 from (show ¬ (keys.length:Int)≤2 * (w.Office-1)+1 by omega)),
   if_neg (show ¬ (signed keys w).First≠sigV (keys.getD (2 * ((signed keys w).Office-1)).toNat default) (signed keys w) from fun k=>k (by
    unfold signed
    rw[zgi,z9t,zd2,z65]
    rfl))]
  unfold signed
  rw[zd2,z65,zgj]
  rfl
 unfold checkV
 rw[e,if_neg (fun k=>k.2 rfl)]
end Go.Proofs.YtclaojamgomjbaaGreatDoor
namespace Go.Proofs.YtclaojamgomjbaaGreatDoor
open Go Go.TA
def BK (k:Nat) (b:TBo):Prop:=(b.Verifications.length≤k∧b.Orders.length≤k)∧(∀ x∈b.Reservations,1≤x.Day∧x.Day≤5000)∧(∀ c∈b.Commitments,1≤c.Due∧c.Payee≤4)∧∀ v∈b.Verifications,v.Amount≤120
def OpB (p:TOp):Prop:=(p.Kind=1→1≤p.Day∧p.Day≤5000)∧(p.Kind=2→1≤p.Due∧p.Payee≤4)∧(p.Kind=3→p.Amount≤120)
theorem BK.mono {k k':Nat} {b:TBo} (h:BK k b) (hk:k≤k'):BK k' b:=⟨by have:=h.1; omega,h.2⟩
theorem zpd:BK 0 nb:=⟨by simp[nb],fun _ h=>(nomatch h),fun _ h=>(nomatch h),fun _ h=>(nomatch h)⟩
theorem zin {b:TBo} {r d n p u:Int} (h0:(commitS b r d n p u).2=0):(commitS b r d n p u).1=withC b (b.Commitments++[⟨b.Commitments.length+1,r,d,n,0,p,u⟩]):=by
 unfold commitS at h0 ⊢
 obtain⟨e,_⟩:=zj h0 (by decide); rw[e] at h0 ⊢; clear e
 obtain⟨e,_⟩:=zj h0 (by decide); rw[e] at h0 ⊢; clear e
 obtain⟨e,_⟩:=zj h0 (by decide); rw[e] at h0 ⊢; clear e
 obtain⟨e,_⟩:=zj h0 (by decide); rw[e] at h0 ⊢; clear e
 obtain⟨e,_⟩:=zj h0 (by decide); rw[e] at h0 ⊢; clear e
 obtain⟨e,_⟩:=zj h0 (by decide); rw[e] at h0 ⊢; clear e
 obtain⟨e,_⟩:=zj h0 (by decide); rw[e] at h0 ⊢
theorem zio {b:TBo} {c d n:Int} (h0:(verifyS b c d n).2=0):(verifyS b c d n).1=withV b (b.Verifications++[⟨b.Verifications.length+1,c,d,n⟩]):=by
 unfold verifyS at h0 ⊢
 obtain⟨e,_⟩:=zj h0 (by decide); rw[e] at h0 ⊢; clear e
 obtain⟨e,_⟩:=zj h0 (by decide); rw[e] at h0 ⊢; clear e
 obtain⟨e,_⟩:=zj h0 (by decide); rw[e] at h0 ⊢; clear e
 obtain⟨e,_⟩:=zj h0 (by decide); rw[e] at h0 ⊢; clear e
 obtain⟨e,_⟩:=zj h0 (by decide); rw[e] at h0 ⊢; clear e
 obtain⟨e,_⟩:=zj h0 (by decide); rw[e] at h0 ⊢; clear e
 obtain⟨e,_⟩:=zj h0 (by decide); rw[e] at h0 ⊢
theorem zku {b:TBo} {v d:Int} (h0:(orderS b v d).2=0):∃ l,(orderS b v d).1=withO b l∧l.length=b.Orders.length+1:=by
 unfold orderS at h0 ⊢
 obtain⟨e,_⟩:=zj h0 (by decide); rw[e] at h0 ⊢; clear e
 obtain⟨e,_⟩:=zj h0 (by decide); rw[e] at h0 ⊢; clear e
 obtain⟨e,_⟩:=zj h0 (by decide); rw[e] at h0 ⊢; clear e
 obtain⟨e,_⟩:=zj h0 (by decide); rw[e] at h0 ⊢; clear e
 obtain⟨e,_⟩:=zj h0 (by decide); rw[e] at h0 ⊢; clear e
 obtain⟨e,_⟩:=zj h0 (by decide); rw[e] at h0 ⊢; clear e
 obtain⟨e,_⟩:=zj h0 (by decide); rw[e] at h0 ⊢; clear e
 exact⟨_,rfl,by simp⟩
theorem zmb {b:TBo} {c n:Int} (h0:(dropS b c n).2=0):(1≤c∧c≤b.Commitments.length)∧∃ x,(dropS b c n).1=withC b (b.Commitments.set (c-1).toNat x)∧x.Payee=(cAt b c).Payee∧x.Due=(cAt b c).Due:=by
 unfold dropS at h0 ⊢
 obtain⟨e,_⟩:=zj h0 (by decide); rw[e] at h0 ⊢; clear e
 obtain⟨e,c2⟩:=zj h0 (by decide); rw[e] at h0 ⊢; clear e
 obtain⟨e,_⟩:=zj h0 (by decide); rw[e] at h0 ⊢; clear e
 obtain⟨e,_⟩:=zj h0 (by decide); rw[e] at h0 ⊢; clear e
 exact⟨Classical.not_not.mp c2,_,rfl,rfl,rfl⟩
theorem zmc {b:TBo} {v:Int} (h0:(backS b v).2=0):∃ l,(backS b v).1=withO b l∧l.length=b.Orders.length:=by
 unfold backS at h0 ⊢
 obtain⟨e,_⟩:=zj h0 (by decide); rw[e] at h0 ⊢; clear e
 obtain⟨e,_⟩:=zj h0 (by decide); rw[e] at h0 ⊢; clear e
 obtain⟨e,_⟩:=zj h0 (by decide); rw[e] at h0 ⊢; clear e
 exact⟨_,rfl,by simp⟩
theorem zot {k:Nat} {b:TBo} (h:BK k b) (l:List TOr) (hl:l.length≤b.Orders.length+1):BK (k+1) (withO b l):=⟨by show b.Verifications.length≤k+1∧l.length≤k+1; have:=h.1; omega,h.2⟩
theorem zc1 {α:Type} {l:List α} {x:α} {p:α→Prop} (h:∀ y∈l,p y) (hx:p x):∀ y∈l++[x],p y:=fun y hy=>by
 rcases List.mem_append.1 hy with hy | hy
 ·exact h y hy
 ·rw[List.mem_singleton.1 hy]; exact hx
theorem zc2 {α:Type} {l:List α} {i:Nat} {x:α} {p:α→Prop} (h:∀ y∈l,p y) (hx:p x):∀ y∈l.set i x,p y:=fun y hy=>by
 rcases List.mem_or_eq_of_mem_set hy with hy | rfl
 ·exact h y hy
 ·exact hx
theorem znt {k:Nat} {b:TBo} {p:TOp} (h:BK k b) (hp:OpB p) (h0:(bookS b p).2=0):BK (k+1) (bookS b p).1:=by
 obtain⟨b1,b2,b3,b4⟩:=h
 unfold bookS at h0 ⊢
 by_cases c1:p.Kind=1
 ·rw[if_pos c1] at h0 ⊢
  rw[(z8f h0).2.2.2.2.2]
  exact⟨by show b.Verifications.length≤k+1∧b.Orders.length≤k+1; omega,zc1 b2 (hp.1 c1),b3,b4⟩
 rw[if_neg c1] at h0 ⊢
 by_cases c2:p.Kind=2
 ·rw[if_pos c2] at h0 ⊢
  rw[zin h0]
  exact⟨by show b.Verifications.length≤k+1∧b.Orders.length≤k+1; omega,b2,zc1 b3 (hp.2.1 c2),b4⟩
 rw[if_neg c2] at h0 ⊢
 by_cases c3:p.Kind=3
 ·rw[if_pos c3] at h0 ⊢
  rw[zio h0]
  exact⟨by show (b.Verifications++[_]).length≤k+1∧b.Orders.length≤k+1; rw[List.length_append]; simp only[List.length_cons,List.length_nil]; omega,b2,b3,zc1 b4 (hp.2.2 c3)⟩
 rw[if_neg c3] at h0 ⊢
 by_cases c4:p.Kind=4
 ·rw[if_pos c4] at h0 ⊢
  obtain⟨l,e,el⟩:=zku h0
  rw[e]
  exact zot ⟨b1,b2,b3,b4⟩ l (by omega)
 rw[if_neg c4] at h0 ⊢
 by_cases c5:p.Kind=5
 ·rw[if_pos c5] at h0 ⊢
  obtain⟨_,_,_,hr,_,e⟩:=z8g h0
  rw[e]
  exact⟨by show b.Verifications.length≤k+1∧b.Orders.length≤k+1; omega,zc2 b2 (b2 (rAt b p.Of) (zm (by omega))),b3,b4⟩
 rw[if_neg c5] at h0 ⊢
 by_cases c6:p.Kind=6
 ·rw[if_pos c6] at h0 ⊢
  obtain⟨hc,x,e,e1,e2⟩:=zmb h0
  rw[e]
  refine⟨by show b.Verifications.length≤k+1∧b.Orders.length≤k+1; omega,b2,zc2 b3 ?_,b4⟩
  rw[e1,e2]
  exact b3 (cAt b p.Of) (zm (by omega))
 rw[if_neg c6] at h0 ⊢
 obtain⟨l,e,el⟩:=zmc h0
 rw[e]
 exact zot ⟨b1,b2,b3,b4⟩ l (by omega)
theorem zmk {k:Nat} {o:TOf} {p:TOp} (h:BK k o.Book) (hp:OpB p) (h0:(doS o p).2=0):BK (k+1) (doS o p).1.Book∧(doS o p).1.Number=o.Number:=by
 obtain⟨hv,_,e⟩:=z97 h0
 rw[e] at h0 ⊢
 by_cases c8:p.Kind=8
 ·have e8:stepS o p=hearS o p:=by unfold stepS; rw[if_pos c8]
  rw[e8] at h0 ⊢
  obtain⟨r,e1,_⟩:=z95 hv h0
  rw[e1]
  exact⟨h.mono (by omega),rfl⟩
 by_cases c7:p.Kind=7
 ·have e7:stepS o p=giveS o p:=by unfold stepS; rw[if_neg c8,if_pos c7]
  rw[e7] at h0 ⊢
  obtain⟨_,_,_,r,e1,_⟩:=z96 hv h0
  rw[e1]
  exact⟨h.mono (by omega),rfl⟩
 obtain⟨e1,e2,_⟩:=z94 hv ⟨c7,c8⟩ h0
 rw[e1]
 exact⟨znt h hp e2,rfl⟩
def GL (n:Int) (o:TOf):Prop:=∀ r∈o.Rights,r.Granted≤n
theorem zd3 {o:TOf} {n:Int} (hn:0≤n) (hG:GL n o) (c:List UInt8) (y:Int):(rightV o.Rights c y).Granted≤n:=by
 by_cases h:hasR o.Rights c y=true
 ·exact hG _ (z27 h).1
 ·unfold rightV; rw[if_neg h]; exact hn
theorem zpe {o:TOf} {p:TOp} {n:Int} (hn:0≤n) (h:GL n o) (hp:p.Granted≤n) (h0:(doS o p).2=0):GL n (doS o p).1:=by
 obtain⟨hv,_,e⟩:=z97 h0
 rw[e] at h0 ⊢
 have hput:∀ r:TRi,r.Granted≤n→GL n ⟨o.Number,putL o.Rights r,o.Book⟩:=fun r hr x hx=>by
  rcases z93 hx with rfl | hx
  ·exact hr
  ·exact h x hx
 by_cases c8:p.Kind=8
 ·have e8:stepS o p=hearS o p:=by unfold stepS; rw[if_pos c8]
  rw[e8] at h0 ⊢
  obtain⟨r,e1,_,_,_,e2,_⟩:=z95 hv h0
  rw[e1]
  refine hput r ?_
  rw[e2]
  have:=zd3 hn h p.Code p.Year
  simp only
  split <;> omega
 by_cases c7:p.Kind=7
 ·have e7:stepS o p=giveS o p:=by unfold stepS; rw[if_neg c8,if_pos c7]
  rw[e7] at h0 ⊢
  obtain⟨_,_,_,r,e1,_,e2,_⟩:=z96 hv h0
  rw[e1]
  refine hput r ?_
  rw[e2]
  exact zd3 hn h p.Code p.Year
 obtain⟨e1,_⟩:=z94 hv ⟨c7,c8⟩ h0
 rw[e1]
 exact h
end Go.Proofs.YtclaojamgomjbaaGreatDoor
namespace Go.Proofs.YtclaojamgomjbaaGreatDoor
open Go Go.TA
theorem zmd {o:TOf} (ho:Few o.Book) {s:TTape} (hs:TapeOk s) (day:Int):∃ p s',F_q2y o day s=some (p,s')∧TapeOk s'∧p.Code.length≤60∧p.Granted≤1000∧p.Amount≤120∧p.Day=day∧(p.Kind=2→p.Payee≤4∧∃ x:Int,0≤x∧x<60∧p.Due=IntKind.i64.wrap (day+x)):=by
 obtain⟨l1,l2,l3,l4⟩:=ho
 obtain⟨k,s1,e1,t1,k1⟩:=zr (l:=[1,1,1,2,2,2,3,3,3,4,4,5,6,7,8,8,9]) hs (by decide) (by decide)
 obtain⟨co,s2,e2,t2,hc,_⟩:=z8d t1
 obtain⟨n1,s3,e3,t3,_,hn1⟩:=z12 (lo:=1) (hi:=120) t2 (by omega) (by omega) (by omega)
 obtain⟨n2,s4,e4,t4,hn2⟩:=zr (l:=[10,50,n1]) t3 (by simp) (by simp)
 have hn2:n2≤120:=by simp at hn2; omega
 simp only[F_q2y,S_q2y,Scr.den,e1,e2,e3,e4,obind]
 generalize IntKind.i64.wrap (day.tdiv 360)=yy
 have fin:∀ (s5:TTape) (p:TOp),TapeOk s5→p.Code.length≤60→p.Granted≤1000→p.Amount≤120→p.Day=day →
   ∃ p' s',outM (some (Out.next (s5,p):Out (TTape×TOp) R_q2y)) (fun (sv5:TTape×TOp)=>outM (if (sv5.2.Kind==2)=true then (F_q6 1 4 sv5.1).bind fun rv17=>(F_q0 60 rv17.2).bind fun rv18=>some (Out.next (rv18.2,(⟨sv5.2.Kind,sv5.2.Code,sv5.2.Year,sv5.2.Day,sv5.2.Of,sv5.2.Amount,rv17.1,(IntKind.i64.wrap (day+rv18.1)),sv5.2.Granted,sv5.2.AskedBack⟩:TOp)):Out (TTape×TOp) R_q2y) else some (Out.next (sv5.1,sv5.2))) (fun (sv16:TTape×TOp)=>some (sv16.2,sv16.1)) some) some=some (p',s')∧TapeOk s'∧p'.Code.length≤60∧p'.Granted≤1000∧p'.Amount≤120∧p'.Day=day∧(p'.Kind=2→p'.Payee≤4∧∃ x:Int,0≤x∧x<60∧p'.Due=IntKind.i64.wrap (day+x)):=fun s5 p ht h1 h2 h3 h4=>by
  simp only[outM]
  by_cases hk:(p.Kind==2)=true
  ·rw[if_pos hk]
   obtain⟨x1,s6,q1,t6,_,y1⟩:=z12 (lo:=1) (hi:=4) ht (by omega) (by omega) (by omega)
   obtain⟨x2,s7,q2,t7,y2,y3⟩:=z10 (n:=60) t6 (by omega) (by omega)
   simp only[q1,q2,obind]
   exact⟨_,_,rfl,t7,h1,h2,h3,h4,fun _=>⟨y1,x2,y2,y3,rfl⟩⟩
  ·rw[if_neg hk]
   exact⟨_,_,rfl,ht,h1,h2,h3,h4,fun k2=>absurd (show (p.Kind==2)=true by have k3:p.Kind=2:=k2; rw[k3]; rfl) hk⟩
 have lm:∀ {α:Type} (l:List α),l.length≤1000000→(1:Int)≤(if (l.length:Int)>1 then (l.length:Int) else 1)∧(if (l.length:Int)>1 then (l.length:Int) else 1)≤1000000:=fun l h=>by split <;> omega
 have m1:=lm o.Book.Reservations l1
 have m2:=lm o.Book.Commitments l2
 have m3:=lm o.Book.Verifications l3
 have two:∀ {c d:Bool} {P:Prop},(c=true→P)→(d=true→P)→(c=false→d=false→P)→P:=fun {c d P} h1 h2 h3=>by
  cases hc:c
  ·cases hd:d
   ·exact h3 hc hd
   ·exact h2 hd
  ·exact h1 hc
 have g1:∀ {β:Type} (c d:Bool),(c||d)=true→(if c=true then some (Out.next c) else some (Out.next d):Option (Out Bool β))=some (Out.next true):=fun {_} c d h=>by cases c <;> cases d <;> first | rfl | cases h
 have g0:∀ {β:Type} (c d:Bool),(c||d)=false→(if c=true then some (Out.next c) else some (Out.next d):Option (Out Bool β))=some (Out.next false):=fun {_} c d h=>by cases c <;> cases d <;> first | rfl | cases h
 by_cases c1:((k==2)||(k==5))=true
 ·rw[g1 _ _ c1]
  obtain⟨x1,s5,q1,t5,_,_⟩:=z12 (lo:=1) (hi:=(if (o.Book.Reservations.length:Int)>1 then (o.Book.Reservations.length:Int) else 1)) t4 (by omega) m1.1 (by omega)
  simp only[outM,if_true,q1,obind]
  exact fin _ ⟨k,co,yy,day,x1,n2,0,0,0,0⟩ t5 hc (by show (0:Int)≤1000; decide) hn2 rfl
 have c1:((k==2)||(k==5))=false:=by simpa using c1
 rw[g0 _ _ c1]
 by_cases c2:((k==3)||(k==6))=true
 ·rw[g1 _ _ c2]
  obtain⟨x1,s5,q1,t5,_,_⟩:=z12 (lo:=1) (hi:=(if (o.Book.Commitments.length:Int)>1 then (o.Book.Commitments.length:Int) else 1)) t4 (by omega) m2.1 (by omega)
  simp only[outM,Bool.false_eq_true,if_true,if_false,q1,obind]
  exact fin _ ⟨k,co,yy,day,x1,n2,0,0,0,0⟩ t5 hc (by show (0:Int)≤1000; decide) hn2 rfl
 have c2:((k==3)||(k==6))=false:=by simpa using c2
 rw[g0 _ _ c2]
 by_cases c3:((k==4)||(k==9))=true
 ·rw[g1 _ _ c3]
  obtain⟨x1,s5,q1,t5,_,_⟩:=z12 (lo:=1) (hi:=(if (o.Book.Verifications.length:Int)>1 then (o.Book.Verifications.length:Int) else 1)) t4 (by omega) m3.1 (by omega)
  simp only[outM,Bool.false_eq_true,if_true,if_false,q1,obind]
  exact fin _ ⟨k,co,yy,day,x1,n2,0,0,0,0⟩ t5 hc (by show (0:Int)≤1000; decide) hn2 rfl
 have c3:((k==4)||(k==9))=false:=by simpa using c3
 rw[g0 _ _ c3]
 by_cases c4:(k==8)=true
 ·obtain⟨x1,s5,q1,t5,_,y1⟩:=z10 (n:=1000) t4 (by omega) (by omega)
  obtain⟨x2,s6,q2,t6,y2⟩:=zr (l:=[100,400,x1]) t5 (by simp) (by simp)
  obtain⟨x3,s7,q3,t7,_,y3⟩:=z10 (n:=200) t6 (by omega) (by omega)
  obtain⟨x4,s8,q4,t8,y4⟩:=zr (l:=[0,0,x3]) t7 (by simp) (by simp)
  simp only[outM,Bool.false_eq_true,if_false,if_pos c4,q1,q2,q3,q4,obind]
  exact fin _ ⟨k,co,yy,day,0,n2,0,0,x2,x4⟩ t8 hc (by simp at y2; show x2≤1000; omega) hn2 rfl
 ·simp only[outM,Bool.false_eq_true,if_false,if_neg c4]
  exact fin _ ⟨k,co,yy,day,0,n2,0,0,0,0⟩ t4 hc (by show (0:Int)≤1000; decide) hn2 rfl
def OJ (k:Nat) (o:TOf):Prop:=OI k o∧BK k o.Book∧1≤o.Number∧o.Number≤3
theorem OJ.mono {k k':Nat} {o:TOf} (h:OJ k o) (hk:k≤k'):OJ k' o :=
 ⟨⟨h.1.1,by have:=h.1.2.1; omega,by have:=h.1.2.2.1; omega,h.1.2.2.2⟩,h.2.1.mono hk,h.2.2⟩
theorem zml {o:TOf} {p:TOp} {k:Nat} (h:OJ k o) (hp:p.Granted≤1000) (hq:OpB p) (h0:(doS o p).2=0):OJ (k+1) (doS o p).1:=by
 have h1:=zpb h.1 hp h0
 obtain⟨h2,h3⟩:=zmk h.2.1 hq h0
 exact⟨h1,h2,by rw[h3]; exact h.2.2.1,by rw[h3]; exact h.2.2.2⟩
theorem zfg {n:Int} (h0:0≤n) (hn:n≤18) {s:TTape} (hs:TapeOk s):∃ o s',F_qj n s=some (o,s')∧TapeOk s'∧OJ (n+2).toNat o:=by
 simp only[F_qj,S_qj,Scr.den]
 obtain⟨k,s1,e1,t1,k1,k2⟩:=z12 (lo:=1) (hi:=3) hs (by omega) (by omega) (by omega)
 obtain⟨d,s2,e2,t2,d1,d2⟩:=z10 (n:=50) t1 (by omega) (by omega)
 simp only[e1,e2,zii,obind]
 rw[if_neg (by omega)]
 obtain⟨q,e3,t3,h3⟩:=z1b (step:=fun s=>(S_qj_b1 s).den) (fun s=>(2-s.2.2).toNat) (fun s=>TapeOk s.1∧0≤s.2.2∧s.2.2≤2∧OJ s.2.2.toNat s.2.1) (fun s=>TapeOk s.1∧OJ 2 s.2.1) (fun s hI=>by
  obtain⟨st,o,i⟩:=s
  obtain⟨a1,a2,a3,a4⟩:=hI
  simp only at a1 a2 a3 a4
  simp only[S_qj_b1,Scr.den]
  by_cases hi:i<2
  ·left
   rw[if_pos (by simpa using hi)]
   obtain⟨n1,s5,e5,t5,_,z1⟩:=z10 (n:=800) a1 (by omega) (by omega)
   obtain⟨n2,s6,e6,t6,z2⟩:=zr (l:=[300,n1]) t5 (by simp) (by simp)
   have hc:good (([[49],[50]]:List (List UInt8)).getD i.toNat default)=true∧(([[49],[50]]:List (List UInt8)).getD i.toNat default).length≤60:=by
    have:i=0∨i=1:=by omega
    rcases this with rfl | rfl <;> decide
   simp only[e5,e6,obind,z64 a4.1.1.smO (p:=⟨8,([[49],[50]]:List (List UInt8)).getD i.toNat default,12,0,0,0,0,0,n2,0⟩) (by simp only; omega)]
   rw[za ⟨by omega,by omega,trivial⟩,wrapId (by omega) (by omega)]
   have hz:0≤n2∧n2≤800:=by simp at z2; omega
   have hs:(doS o ⟨8,([[49],[50]]:List (List UInt8)).getD i.toNat default,12,0,0,0,0,0,n2,0⟩).2=0:=by
    rw[z8i a4.1.1 (by simp only; omega)]
    unfold stepS
    rw[if_pos rfl]
    exact zcy a4.1.1 hc.1 (by simp only; omega) (.inr (by have:=a4.1.2.2.1; omega)) ⟨hz.1,by simp only; omega⟩ zor
   refine⟨_,rfl,⟨t6,by simp only; omega,by simp only; omega,?_⟩,by simp only; omega⟩
   have:=zml a4 (by simp only; omega) ⟨fun h=>absurd h (by simp),fun h=>absurd h (by simp),fun h=>absurd h (by simp)⟩ hs
   simp only
   rwa [show (i+1).toNat=i.toNat+1 by omega]
  ·right
   rw[if_neg (by simpa using hi)]
   exact⟨_,rfl,a1,by simp only; rwa [show i.toNat=2 by omega] at a4⟩) _ (s2,⟨k,[],nb⟩,0) (Nat.lt_succ_self _) ⟨t2,by simp only; omega,by simp only; omega,⟨zkp (by omega) (by omega),zpd,k1,k2⟩⟩
 rw[e3]
 simp only[outM]
 rw[wrapId (n:=n+1) (by omega) (by omega)]
 obtain⟨i,s3,e4,t4,i1,i2⟩:=z10 (n:=n+1) t3 (by omega) (by omega)
 simp only[e4,obind]
 obtain⟨q',e5,t5,h5⟩:=z1b (step:=fun s=>(S_qj_b2 s).den) (fun s=>s.2.2.2.toNat) (fun s=>TapeOk s.1∧0≤s.2.2.2∧s.2.2.2≤n∧OJ (n+2-s.2.2.2).toNat s.2.1∧4320≤s.2.2.1∧s.2.2.1≤4369+25 * (n-s.2.2.2)) (fun s=>TapeOk s.1∧OJ (n+2).toNat s.2.1) (fun s hI=>by
  obtain⟨st,o,day,i⟩:=s
  obtain⟨a1,a2,a3,a4,d3,d4⟩:=hI
  simp only at a1 a2 a3 a4 d3 d4
  simp only[S_qj_b2,Scr.den]
  by_cases hi:i>0
  ·left
   rw[if_pos (by simpa using hi)]
   obtain⟨n1,s5,e5,t5,g1,g2⟩:=z10 (n:=25) a1 (by omega) (by omega)
   obtain⟨n2,s6,e6,t6,g3⟩:=zr (l:=[0,1,n1]) t5 (by simp) (by simp)
   have hn2:0≤n2∧n2≤25:=by simp at g3; omega
   obtain⟨p,s7,e7,t7,p1,p2,p3,p4,p5⟩:=zmd a4.1.1.smO.1.1 t6 (IntKind.i64.wrap (day+n2))
   rw[wrapId (n:=day+n2) (by omega) (by omega)] at e7 p4 p5
   have hop:OpB p:=⟨fun _=>by omega,fun h=>by
    obtain⟨q1,x,q2,q3,q4⟩:=p5 h
    rw[wrapId (by omega) (by omega)] at q4
    omega,fun _=>p3⟩
   rw[e5]
   simp only[obind]
   rw[e6]
   simp only[obind]
   rw[wrapId (n:=day+n2) (by omega) (by omega),e7]
   simp only[obind,z64 a4.1.1.smO (p:=p) (by omega)]
   rw[wrapId (n:=i-1) (by omega) (by omega)]
   have hle:∀ o',OJ (n+2-i).toNat o'→OJ (n+2-(i-1)).toNat o':=fun o' h=>h.mono (by omega)
   by_cases hd:(doS o p).2=0
   ·rw[if_pos (by simp[hd])]
    refine⟨_,rfl,⟨t7,by simp only; omega,by simp only; omega,?_,by simp only; omega,by simp only; omega⟩,by simp only; omega⟩
    have:=zml a4 p2 hop hd
    simp only
    rwa [show (n+2-(i-1)).toNat=(n+2-i).toNat+1 by omega]
   ·rw[if_neg (by simp[hd])]
    exact⟨_,rfl,⟨t7,by simp only; omega,by simp only; omega,hle _ a4,by simp only; omega,by simp only; omega⟩,by simp only; omega⟩
  ·right
   rw[if_neg (by simpa using hi)]
   exact⟨_,rfl,a1,by simp only; rwa [show (n+2-i).toNat=(n+2).toNat by omega] at a4⟩) _ (s3,q.2.1,IntKind.i64.wrap (4320+d),i) (Nat.lt_succ_self _) ⟨t4,i1,by simp only; omega,h3.mono (by simp only; omega),by simp only; rw[wrapId (by omega) (by omega)]; omega,by simp only; rw[wrapId (by omega) (by omega)]; omega⟩
 rw[e5]
 exact⟨_,_,rfl,t5,h5⟩
end Go.Proofs.YtclaojamgomjbaaGreatDoor
namespace Go.Proofs.YtclaojamgomjbaaGreatDoor
open Go Go.TA
theorem ziq {n:Int} (h0:0≤n) (hn:n≤10) {s:TTape} (hs:TapeOk s):∃ k s',F_q1h n s=some (k,s')∧TapeOk s'∧(k.length:Int)=2 * n:=by
 simp only[F_q1h,S_q1h,Scr.den]
 obtain⟨r,e,hJ⟩:=z1b (step:=fun s=>(S_q1h_b1 n s).den) (fun s:TTape×List Int×Int=>(2 * n-s.2.2).toNat)
  (fun s=>TapeOk s.1∧(s.2.1.length:Int)=s.2.2∧0≤s.2.2∧s.2.2≤2 * n) (fun s=>TapeOk s.1∧(s.2.1.length:Int)=2 * n) (fun st hI=>by
  obtain⟨t,l,i⟩:=st
  obtain⟨i1,i2,i3,i4⟩:=hI
  simp only at i1 i2 i3 i4
  simp only[S_q1h_b1,Scr.den]
  rw[wrapId (n:=2 * n) (by omega) (by omega)]
  by_cases hc:i<2 * n
  ·left
   obtain⟨v,t1,q1,q2,_⟩:=z10 (n:=1000) i1 (by omega) (by omega)
   rw[if_pos (show decide (i<2 * n)=true from decide_eq_true hc),q1]
   simp only[obind]
   rw[za ⟨by omega,trivial⟩,wrapId (n:=i+1) (by omega) (by omega)]
   exact⟨_,rfl,⟨q2,by simp only[List.length_append,List.length_cons,List.length_nil]; omega,by show 0≤i+1; omega,by show i+1≤2 * n; omega⟩,by show (2 * n-(i+1)).toNat<(2 * n-i).toNat; omega⟩
  ·right
   rw[if_neg (show ¬ decide (i<2 * n)=true by rw[decide_eq_true_eq]; exact hc)]
   exact⟨_,rfl,i1,by show (l.length:Int)=2 * n; omega⟩) _ (s,([]:List Int),0) (Nat.lt_succ_self _) ⟨hs,rfl,by simp,by simp; omega⟩
 rw[e]
 simp only[outM]
 rw[za ⟨by have:=hJ.2; omega,trivial⟩]
 exact⟨_,_,rfl,hJ.1,hJ.2⟩
def CO (k:Nat) (o:TOf):Prop:=VO o∧BK k o.Book∧GL 2000 o∧1≤o.Number∧o.Number≤3
theorem CO.mono {k k':Nat} {o:TOf} (h:CO k o) (hk:k≤k'):CO k' o:=⟨h.1,h.2.1.mono hk,h.2.2⟩
theorem zmm {k:Nat} {o:TOf} {p:TOp} (h:CO k o) (hp:p.Granted≤2000) (hq:OpB p) (h0:(doS o p).2=0):CO (k+1) (doS o p).1:=by
 obtain⟨h2,h3⟩:=zmk h.2.1 hq h0
 exact⟨zdp h0,h2,zpe (by omega) h.2.2.1 hp h0,by rw[h3]; exact h.2.2.2.1,by rw[h3]; exact h.2.2.2.2⟩
def z8l (o:TOf):TOr:=o.Book.Orders.getD 0 default
def CI (c:TCa):Prop:=(c.Keys.length:Int)=6∧CO 25 c.Office∧c.Pot.Granted.length=3∧(∀ x∈c.Pot.Granted,0≤x∧x≤1000000000000000)∧c.Pot.Heard=[0,0,0] ∧
 (0<c.Office.Book.Orders.length→c.Pot.Code=(mkW c.Office (z8l c.Office) 7).Code∧c.Pot.Year=(mkW c.Office (z8l c.Office) 7).Year)
theorem z29 {σ β γ:Type} {c:σ} {k:σ→Option γ} {f:β→Option γ}:outM (some (Out.next c)) k f=k c:=rfl
theorem znu {σ β γ:Type} {x:Option (Out σ β)} {k:σ→Option γ} {f:β→Option γ} {post:Option γ→Prop} (c:σ) (hx:x=some (.next c)) (h:post (k c)):post (outM x k f):=by
 subst hx; exact h
theorem zfh {s:TTape} (hs:TapeOk s):∃ c s',F_qa s=some (c,s')∧TapeOk s'∧CI c:=by
 obtain⟨o,s1,e1,t1,hj⟩:=zfg (n:=18) (by omega) (by omega) hs
 have hd:(doS o ⟨8,[49],12,0,0,0,0,0,2000,0⟩).2=0:=by
  rw[z8i hj.1.1 (by simp only; omega)]
  unfold stepS
  rw[if_pos rfl]
  exact zcy hj.1.1 zfb (by simp only; omega) (.inr (by have:=hj.1.2.2.1; omega)) ⟨by simp only; omega,by simp only; omega⟩ zor
 have hc1:CO 21 (doS o ⟨8,[49],12,0,0,0,0,0,2000,0⟩).1 :=
  zmm (k:=20) ⟨hj.1.1,hj.2.1,fun r hr=>by have:=hj.1.2.2.2 r hr; omega,hj.2.2⟩ (by simp) ⟨fun h=>absurd h (by simp),fun h=>absurd h (by simp),fun h=>absurd h (by simp)⟩ hd
 obtain⟨a1,s2,e2,t2,x1,y1⟩:=z10 (n:=100) t1 (by omega) (by omega)
 obtain⟨a2,s3,e3,t3,x2,y2⟩:=z10 (n:=40) t2 (by omega) (by omega)
 obtain⟨a3,s4,e4,t4,x3,y3⟩:=z10 (n:=20) t3 (by omega) (by omega)
 simp only[F_qa,S_qa,Scr.den,e1,e2,e3,e4,z64 hj.1.1.smO (p:=⟨8,[49],12,0,0,0,0,0,2000,0⟩) (by simp),obind]
 generalize (doS o ⟨8,[49],12,0,0,0,0,0,2000,0⟩).1=o1 at hc1
 obtain⟨o2,e5,hc2⟩:=z1g (body:=fun i s=>(S_qa_b1 (a1,s2) (a2,s3) (a3,s4) i s).den) (n:=4) (fun i s=>CO (21+i) s) (s0:=o1) hc1 (fun i s hi hI=>by
  simp only[S_qa_b1,Scr.den]
  rw[wrapId (n:=4400+a1) (by omega) (by omega),wrapId (n:=4600+a2) (by omega) (by omega),wrapId (n:=4650+a3) (by omega) (by omega)]
  obtain⟨p,hp⟩:∃ p,p=(([(⟨1,[49],12,4400+a1,0,50,0,0,0,0⟩:TOp),(⟨2,[],0,4600,1,5,1,4600+a2,0,0⟩:TOp),(⟨3,[],0,4640,1,2,0,0,0,0⟩:TOp),(⟨4,[],0,4650+a3,1,0,0,0,0,0⟩:TOp)]:List TOp).getD i default):=⟨_,rfl⟩
  rw[← hp]
  have hpp:p.Code.length≤1000000∧p.Granted≤2000∧OpB p:=by
   have:i=0∨i=1∨i=2∨i=3:=by omega
   rcases this with rfl | rfl | rfl | rfl <;> subst hp <;> simp[OpB,List.getD] <;> omega
  rw[z64 hI.1.smO hpp.1]
  simp only[obind]
  by_cases h0:(doS s p).2=0
  ·rw[if_pos (by simp[h0])]
   exact⟨_,rfl,zmm hI hpp.2.1 hpp.2.2 h0⟩
  ·rw[if_neg (by simp[h0])]
   exact⟨_,rfl,hI.mono (by omega)⟩)
 rw[e5]
 simp only[z29]
 obtain⟨ks,s5,e6,t5,hk⟩:=ziq (n:=3) (by omega) (by omega) t4
 obtain⟨a4,s6,e7,t6,x4,y4⟩:=z10 (n:=500) t5 (by omega) (by omega)
 simp only[e6,e7,obind]
 refine znu (post:=fun z=>∃ c s',z=some (c,s')∧TapeOk s'∧CI c) (if 0<o2.Book.Orders.length then ((mkW o2 (z8l o2) 7).Code,(mkW o2 (z8l o2) 7).Year) else ([49],12)) ?_ ?_
 ·by_cases hl:0<o2.Book.Orders.length
  ·have ho:=ordF hc2.1 hl
   obtain⟨hR,hC,_,hV,_,_,l1,l2,l3,l4⟩:=hc2.1.val
   rw[if_pos (by simpa using hl),if_pos hl]
   unfold z8l
   generalize o2.Book.Orders.getD 0 default=x at ho
   obtain⟨_,v0,_⟩:=ho
   obtain⟨_,v2,_⟩:=hV.at v0
   obtain⟨_,c2,_⟩:=hC.at v2
   have w1:IntKind.i64.wrap (x.Verification-1)=x.Verification-1:=wrapId (by omega) (by omega)
   simp only[w1]
   have w2:IntKind.i64.wrap ((o2.Book.Verifications.getD (x.Verification-1).toNat default).Commitment-1)=(vAt o2.Book x.Verification).Commitment-1:=wrapId (by show _≤(vAt o2.Book x.Verification).Commitment-1; omega) (by show (vAt o2.Book x.Verification).Commitment-1<_; omega)
   simp only[w2]
   have w3:IntKind.i64.wrap ((o2.Book.Commitments.getD ((vAt o2.Book x.Verification).Commitment-1).toNat default).Reservation-1)=(cAt o2.Book (vAt o2.Book x.Verification).Commitment).Reservation-1:=wrapId (by show _≤(cAt o2.Book (vAt o2.Book x.Verification).Commitment).Reservation-1; omega) (by show (cAt o2.Book (vAt o2.Book x.Verification).Commitment).Reservation-1<_; omega)
   simp only[w3]
   rw[za ⟨hl,by omega,by omega,by omega,by omega,by omega,by omega,trivial⟩]
   rfl
  ·rw[if_neg (by simpa using hl),if_neg hl]
 generalize hcy:(if 0<o2.Book.Orders.length then ((mkW o2 (z8l o2) 7).Code,(mkW o2 (z8l o2) 7).Year) else (([49],12):List UInt8×Int))=cy
 have hu:=z2w hc2.1.val cy.1 cy.2
 simp only[z4e,obind]
 rw[za ⟨by simp,trivial⟩,wrapId (n:=4600+a4) (by omega) (by omega)]
 generalize usedV o2.Book cy.1 cy.2=n at hu
 obtain⟨q,e9,g,t7,eq,hg1,hg2⟩:=z1g (body:=fun i s=>(S_qa_b2 o2 n i s).den) (n:=([n,n,n]:List Int).length) (fun i q=>∃ g,TapeOk q.1∧q=(q.1,ks,o2,cy.1,cy.2,5000,([0,0,0]:List Int),([0,0,0]:List Int),([n,n,n]:List Int),([]:List TWa),4600+a4,g)∧g.length=3∧∀ x∈g,0≤x∧x≤300000000000000+50 * i)
  (s0:=(s6,ks,o2,cy.1,cy.2,5000,([0,0,0]:List Int),([0,0,0]:List Int),([n,n,n]:List Int),([]:List TWa),4600+a4,([n,n,n]:List Int)))
  ⟨_,t6,rfl,rfl,fun x hx=>by simp at hx; omega⟩ (fun i q hi hI=>by
  obtain⟨g,t7,eq,hg1,hg2⟩:=hI
  obtain⟨v,s8,e8,t8,hv⟩:=zr (l:=[0,50,50]) t7 (by simp) (by simp)
  have hi3:i<3:=hi
  simp only[S_qa_b2,Scr.den]
  rw[e8]
  simp only[obind]
  rw[eq]
  simp only
  have hx:=hg2 (g.getD (0+i) default) (zm (by omega))
  have hv2:v=0∨v=50:=by simpa using hv
  rw[za ⟨by omega,by omega,trivial⟩,wrapId (by omega) (by omega)]
  refine⟨_,rfl,_,t8,rfl,by rw[List.length_set]; exact hg1,zc2 (fun x hx=>by have:=hg2 x hx; omega) (by omega)⟩)
 rw[e9]
 simp only[z29]
 rw[eq]
 simp only
 rw[za ⟨by omega,trivial⟩]
 refine⟨_,_,rfl,t7,by simp only; omega,hc2,hg1,fun x hx=>?_,rfl,fun hl=>?_⟩
 ·have:=hg2 x hx
  simp at this
  omega
 ·rw[if_pos hl] at hcy
  rw[← hcy]
  exact⟨rfl,rfl⟩
end Go.Proofs.YtclaojamgomjbaaGreatDoor
namespace Go.Proofs.YtclaojamgomjbaaGreatDoor
open Go Go.TA
theorem z3c {o:TOf} (hv:VO o):F_q9 o=some true:=(z5l hv.smO).trans (congrArg some (@decide_eq_true _ (_) hv))
theorem zae {o:TOf} (hv:VO o):F_qg o=some true:=(z6l hv.smO).trans (congrArg some (@decide_eq_true _ (_) hv))
theorem z6e {o:TOf} (hv:VO o) {i:Nat} (hi:i<o.Book.Orders.length) {n:Int} (hn:numP n) :
  F_q1t o ((i:Int)+1) n=some (if (o.Book.Orders.getD i default).Back=true then (zW,9) else (mkW o (o.Book.Orders.getD i default) n,0)):=by
 have ho:=ordF hv hi
 obtain⟨hR,hC,_,hV,_,_,l1,l2,l3,l4⟩:=hv.val
 simp only[F_q1t,S_q1t,Scr.den,z3c hv,zc0,obind,zl]
 have e1:IntKind.i64.wrap ((i:Int)+1-1)=(i:Int):=by rw[wrapId (by omega) (by omega)]; omega
 rw[if_neg (by decide),if_neg (by simp only[Bool.or_eq_true,decide_eq_true_eq]; omega),e1,Int.toNat_natCast,za ⟨by omega,hi,trivial⟩]
 generalize o.Book.Orders.getD i default=x at ho
 obtain⟨_,o2,_⟩:=ho
 obtain⟨v1,v2,_⟩:=hV.at o2
 obtain⟨c1,c2,_⟩:=hC.at v2
 cases hx:x.Back with
 | true=>rw[if_pos rfl,if_pos rfl]; rfl
 | false =>
  rw[if_neg (show ¬ false=true by decide),if_neg (show ¬ false=true by decide),decide_eq_true hn,if_neg (show ¬ (!true)=true by decide)]
  have w1:IntKind.i64.wrap (x.Verification-1)=x.Verification-1:=wrapId (by omega) (by omega)
  rw[w1,za ⟨by omega,by omega,trivial⟩]
  have w2:IntKind.i64.wrap ((o.Book.Verifications.getD (x.Verification-1).toNat default).Commitment-1)=(vAt o.Book x.Verification).Commitment-1:=wrapId (by show _≤(vAt o.Book x.Verification).Commitment-1; omega) (by show (vAt o.Book x.Verification).Commitment-1<_; omega)
  rw[w2,za ⟨by omega,by omega,trivial⟩]
  have w3:IntKind.i64.wrap ((o.Book.Commitments.getD ((vAt o.Book x.Verification).Commitment-1).toNat default).Reservation-1)=(cAt o.Book (vAt o.Book x.Verification).Commitment).Reservation-1:=wrapId (by show _≤(cAt o.Book (vAt o.Book x.Verification).Commitment).Reservation-1; omega) (by show (cAt o.Book (vAt o.Book x.Verification).Commitment).Reservation-1<_; omega)
  rw[w3,za ⟨by omega,by omega,trivial⟩]
  rfl
theorem zpf:¬ WPl zW:=fun h=>by have:=h.1.1; unfold numP at this; simp[zW] at this
theorem zhh (keys:List Int) (b:Bool):signV keys zW b=(zW,1):=by
 unfold signV
 rw[if_pos zpf]
def w0 (c:TCa):TWa:=mkW c.Office (z8l c.Office) 7
theorem zou:numP 7:=by decide
def nextV (d:Int):Int:=if d % 7<5 then d else d+(7-d % 7)
theorem z8m (d:Int):F_q1r d=some (decide (0≤d∧d≤36000)):=by
 simp only[F_q1r,S_q1r,Scr.den,zh]
 congr 1
 rw[Bool.eq_iff_iff]; simp
theorem z8n (d:Int):F_q1u d=some (decide (0≤d∧d≤36000)):=by
 simp only[F_q1u,S_q1u,Scr.den,zh]
 congr 1
 rw[Bool.eq_iff_iff]; simp
theorem zmn {d:Int} (h:0≤d):d.tmod 7=d % 7:=Int.tmod_eq_emod_of_nonneg h
theorem zir {d:Int} (h0:0≤d) (h1:d≤35990):F_q1o d=some (nextV d,0):=by
 have hs:∀ x:Int,0≤x→x≤36000→(S_q1o_b1 x).den=some (if x % 7<5 then Step.ret (x,0) else Step.cont (x+1)):=fun x a b=>by
  simp only[S_q1o_b1,Scr.den,F_q4v,S_q4v,z8n,obind,zh,zmn a]
  rw[decide_eq_true (show 0≤x∧x≤36000 from ⟨a,b⟩),if_pos rfl]
  by_cases c:x % 7<5
  ·rw[if_pos (by simp[c]),if_pos c]
  ·rw[if_neg (by simp[c]),if_neg c,wrapId (by omega) (by omega)]
 simp only[F_q1o,S_q1o,Scr.den]
 unfold nextV
 by_cases c:d % 7<5
 ·rw[z16,hs d h0 (by omega),if_pos c,if_pos c]; rfl
 rw[z16,hs d h0 (by omega),if_neg c,if_neg c]
 simp only
 by_cases c2:(d+1) % 7<5
 ·rw[z16,hs (d+1) (by omega) (by omega),if_pos c2,show d+(7-d % 7)=d+1 by omega]; rfl
 rw[z16,hs (d+1) (by omega) (by omega),if_neg c2]
 simp only
 rw[z16,hs (d+1+1) (by omega) (by omega),if_pos (by omega),show d+(7-d % 7)=d+1+1 by omega]; rfl
theorem zis {d:Int} (h0:0≤d) (h1:d≤35990):F_q1i d=some (nextV d,0):=by
 have hs:∀ x:Int,d≤x→x≤d+2→(S_q1i_b1 d x).den=some (if x % 7<5 then Step.ret (x,0) else Step.cont (x+1)):=fun x a b=>by
  simp only[S_q1i_b1,Scr.den,F_q4k,S_q4k,z8m,obind,zh,zmn (show 0≤x by omega)]
  rw[decide_eq_true (show 0≤d∧d≤36000 by omega),decide_eq_true (show 0≤x∧x≤36000 by omega),wrapId (n:=d+2) (by omega) (by omega),if_pos (by simpa using b)]
  by_cases c:x % 7<5
  ·rw[if_pos (by simp[c]),if_pos c]
  ·rw[if_neg (by simp[c]),if_neg c,wrapId (by omega) (by omega)]
 simp only[F_q1i,S_q1i,Scr.den]
 unfold nextV
 by_cases c:d % 7<5
 ·rw[z16,hs d (by omega) (by omega),if_pos c,if_pos c]; rfl
 rw[z16,hs d (by omega) (by omega),if_neg c,if_neg c]
 simp only
 by_cases c2:(d+1) % 7<5
 ·rw[z16,hs (d+1) (by omega) (by omega),if_pos c2,show d+(7-d % 7)=d+1 by omega]; rfl
 rw[z16,hs (d+1) (by omega) (by omega),if_neg c2]
 simp only
 rw[z16,hs (d+1+1) (by omega) (by omega),if_pos (by omega),show d+(7-d % 7)=d+1+1 by omega]; rfl
def yearV (w:TWa) (d:Int):Int:=if (0≤d∧d≤36000)∧w.Day≤d∧d / 360≤w.Year+1 then 0 else 16
def dueV (w:TWa) (d:Int):Int:=if d<nextV w.Due then 21 else 0
def fundsV (o:TOf) (w:TWa) (p:TPo):Int:=if usedV o.Book w.Code w.Year>p.Granted.getD (w.Office-1).toNat default then 15 else 0
theorem z57 {α:Type} {gs:List Prop} {k:Option α} {d:α} (h:¬ AllP gs):optD gs k d=some d:=by unfold optD; rw[if_neg h]
theorem zd4 {w:TWa} (hw:WPl w) (d:Int):F_q4b w d=some (yearV w d):=by
 have hy:=hw.2.2.2.1
 simp only[F_q4b,S_q4b,Scr.den,z8n,obind,zl,z6i]
 rw[wrapId (n:=w.Year+1) (by omega) (by omega)]
 unfold yearV
 by_cases c:(0≤d∧d≤36000)∧w.Day≤d
 ·rw[z1e (by simp[AllP,c.1]; omega)]
  simp only[obind]
  have e:yr d=d / 360:=by unfold yr; rw[if_pos c.1]
  rw[e]
  by_cases c2:d / 360≤w.Year+1
  ·rw[if_neg (by simp[c.1]; omega),if_pos ⟨c.1,c.2,c2⟩]
  ·rw[if_pos (by simp only[Bool.or_eq_true,decide_eq_true_eq]; exact .inr (Int.not_le.1 c2)),if_neg (fun h=>c2 h.2.2)]
 ·have hb:((!decide (0≤d∧d≤36000))||decide (d<w.Day))=true:=by
   rw[Bool.or_eq_true,Bool.not_eq_true',decide_eq_false_iff_not,decide_eq_true_eq]
   by_cases k:0≤d∧d≤36000
   ·exact .inr (Int.not_le.1 fun q=>c ⟨k,q⟩)
   ·exact .inl k
  rw[z57 (by simp only[AllP,and_true,hb]; decide)]
  simp only[obind]
  rw[hb,if_pos (by simp),if_neg (fun h=>c ⟨h.1,h.2.1⟩)]
theorem zfi {w:TWa} (hw:WPl w) (d:Int):F_q4c w d=some (dueV w d):=by
 have hd:dayP w.Due:=hw.2.2.2.2.2.2
 simp only[F_q4c,S_q4c,Scr.den,zir hd.1 hd.2,obind]
 unfold dueV
 by_cases c:d<nextV w.Due
 ·rw[if_pos (by simpa using c),if_pos c]
 ·rw[if_neg (by simpa using c),if_neg c]
theorem zov {g:Int} (h0:0≤g) (h1:g≤1000000000000000):F_qr [g]=some g:=by
 simp only[F_qr,S_qr,Scr.den,List.length_cons,List.length_nil,rangeM,S_qr_b1]
 simp only[outM]
 rw[show IntKind.i64.wrap (0+([g]:List Int).getD 0 default)=g from (congrArg IntKind.i64.wrap (Int.zero_add g)).trans (wrapId (by omega) (by omega))]
theorem z4u {l:List Int} {k:Nat} (h:k<l.length):(l.drop k).take (k+1-k)=[l.getD k default]:=by
 rw[show k+1-k=1 by omega,List.drop_eq_getElem_cons h,z1j h]
 rfl
theorem zit {w:TWa} {o:TOf} {p:TPo} (hG:∀ x∈p.Granted,0≤x∧x≤1000000000000000) (hH:p.Heard.length=p.Granted.length) (hH0:∀ x∈p.Heard,x=0) (hc:p.Code=w.Code) (hy:p.Year=w.Year)
  (h1:1≤w.Office) (h2:w.Office≤(p.Granted.length:Int)) (h3:w.Office≤1000):F_q20 w o p=some (fundsV o w p):=by
 simp only[F_q20,S_q20,Scr.den,zl,zbs,obind]
 have hk0:(w.Office-1).toNat<p.Granted.length:=by omega
 rw[wrapId (n:=w.Office-1) (by omega) (by omega),wrapId (n:=w.Office-1+1) (by omega) (by omega),hc,hy,hH,if_neg (by simp; omega)]
 have hk:(w.Office-1+1).toNat=(w.Office-1).toNat+1:=by omega
 have hg:=hG (p.Granted.getD (w.Office-1).toNat default) (zm hk0)
 rw[hk,z4u hk0,z4u (l:=p.Heard) (by omega)]
 have hz:p.Heard.getD (w.Office-1).toNat default=0:=hH0 _ (zm (by omega))
 have hO:∀ g:Int,0≤g→g≤1000000000000000→F_q2s ⟨[],0,0,[g],[0],[],[]⟩=some g:=fun g a b=>by
  simp only[F_q2s,S_q2s,Scr.den]
  rw[show (([g]:List Int).take ((if (([0]:List Int).length:Int)<(([g]:List Int).length:Int) then (([0]:List Int).length:Int) else (([g]:List Int).length:Int))).toNat)=[g] from rfl,show (([0]:List Int).take ((if (([0]:List Int).length:Int)<(([g]:List Int).length:Int) then (([0]:List Int).length:Int) else (([g]:List Int).length:Int))).toNat)=[0] from rfl,zov a b]
  simp only[obind]
  rw[zov (by omega) (by omega)]
  simp only[obind]
  rw[za (by simp[AllP]),wrapId (by omega) (by omega),Int.sub_zero]
 rw[hz,hO _ hg.1 hg.2]
 simp only[obind]
 rw[za ⟨by omega,by omega,by omega,by omega,by omega,trivial⟩]
 unfold fundsV
 by_cases c:usedV o.Book w.Code w.Year>p.Granted.getD (w.Office-1).toNat default
 ·rw[if_pos (by simpa using c),if_pos c]
 ·rw[if_neg (by simpa using c),if_neg c]
theorem zd5 (w:TWa):F_q2o w []=some 0:=rfl
end Go.Proofs.YtclaojamgomjbaaGreatDoor
namespace Go.Proofs.YtclaojamgomjbaaGreatDoor
open Go Go.TA
def pB (w:TWa) (x:TOr):Bool:=(x.Verification==w.Verification&&x.Attempt==w.Attempt)&&!x.Back
theorem zb6 {w:TWa} {x:TOr}:pB w x=true↔x.Verification=w.Verification∧x.Attempt=w.Attempt∧x.Back=false:=by simp[pB,and_assoc]
theorem zkv (l:List TOr) (w:TWa):F_q1x l w=some (if l.any (pB w)=true then (l.findIdx (pB w):Int) else -1):=by
 simp only[F_q1x,S_q1x,Scr.den]
 rw[z1o l (pB w) (fun i=>(i:Int))]
 ·by_cases h:l.any (pB w)=true
  ·rw[if_pos h,if_pos h]; rfl
  ·rw[if_neg h,if_neg h]; rfl
 ·intro i hi
  simp only[S_q1x_b1,F_q4q,S_q4q,Scr.den,obind,zh]
  unfold pB
  split <;> rfl
theorem z3y {α:Type} [Inhabited α] {l:List α} {p:α→Bool} (h:l.any p=true):l.findIdx p<l.length∧p (l.getD (l.findIdx p) default)=true:=by
 obtain⟨x,hx,hp⟩:=List.any_eq_true.1 h
 have hlt:l.findIdx p<l.length:=List.findIdx_lt_length_of_exists ⟨x,hx,hp⟩
 have:=List.findIdx_getElem (xs:=l) (p:=p) (w:=hlt)
 rw[z1j hlt]
 exact⟨hlt,this⟩
def zC:TCha:=⟨⟨0,0,0,0,false⟩,⟨0,0,0,0⟩,⟨0,0,0,0,0,0,0⟩,⟨0,[],0,0,0,0⟩⟩
def vW (o:TOf) (w:TWa):TVe:=vAt o.Book w.Verification
def cW (o:TOf) (w:TWa):TCo:=cAt o.Book (vW o w).Commitment
def rW (o:TOf) (w:TWa):TRe:=rAt o.Book (cW o w).Reservation
def oW (o:TOf) (w:TWa):TOr:=o.Book.Orders.getD (o.Book.Orders.findIdx (pB w)) default
def basisV (o:TOf) (w:TWa):TCha×Int :=
 if o.Number≠w.Office∨o.Book.Orders.any (pB w)=false then (zC,17) else
 if (cW o w).Number≠w.Commitment∨(rW o w).Number≠w.Reservation then (zC,17) else (⟨oW o w,vW o w,cW o w,rW o w⟩,0)
theorem z5o {o:TOf} (hv:VO o) {w:TWa} (ha:o.Book.Orders.any (pB w)=true):(1≤w.Verification∧w.Verification≤o.Book.Verifications.length)∧(1≤(vW o w).Commitment∧(vW o w).Commitment≤o.Book.Commitments.length) ∧
  (1≤(cW o w).Reservation∧(cW o w).Reservation≤o.Book.Reservations.length)∧(cW o w).Number=(vW o w).Commitment∧(rW o w).Number=(cW o w).Reservation:=by
 obtain⟨hlt,hp⟩:=z3y ha
 have ho:=ordF hv hlt
 rw[zb6] at hp
 obtain⟨hR,hC,_,hV,_⟩:=hv.val
 obtain⟨_,v0,_⟩:=ho
 rw[hp.1] at v0
 obtain⟨_,v2,_⟩:=hV.at v0
 obtain⟨c1,c2,_⟩:=hC.at v2
 obtain⟨r1,_⟩:=hR.at c2
 exact⟨v0,v2,c2,c1,r1⟩
theorem z7c {o:TOf} (hv:VO o) (w:TWa):F_q2d w o=some (basisV o w):=by
 obtain⟨_,_,_,_,_,_,l1,l2,l3,l4⟩:=hv.val
 simp only[F_q2d,S_q2d,Scr.den,zae hv,zkv,obind,zl]
 rw[if_neg (by decide)]
 unfold basisV
 by_cases ha:o.Book.Orders.any (pB w)=true
 ·obtain⟨hlt,_⟩:=z3y ha
  obtain⟨v0,v2,c2,c1,r1⟩:=z5o hv ha
  rw[if_pos ha]
  by_cases hn:o.Number=w.Office
  ·have w1:IntKind.i64.wrap (w.Verification-1)=w.Verification-1:=wrapId (by omega) (by omega)
   rw[if_neg (by simp[hn]),if_neg (show ¬ (o.Number≠w.Office∨o.Book.Orders.any (pB w)=false) from fun k=>k.elim (fun q=>q hn) (fun q=>by rw[ha] at q; cases q)),w1,za ⟨by omega,by omega,by omega,by omega,trivial⟩]
   have w2:IntKind.i64.wrap ((o.Book.Verifications.getD (w.Verification-1).toNat default).Commitment-1)=(vW o w).Commitment-1:=wrapId (by show _≤(vW o w).Commitment-1; omega) (by show (vW o w).Commitment-1<_; omega)
   rw[w2,za ⟨by omega,by omega,trivial⟩]
   have w3:IntKind.i64.wrap ((o.Book.Commitments.getD ((vW o w).Commitment-1).toNat default).Reservation-1)=(cW o w).Reservation-1:=wrapId (by show _≤(cW o w).Reservation-1; omega) (by show (cW o w).Reservation-1<_; omega)
   rw[w3,za ⟨by omega,by omega,trivial⟩]
   by_cases hc:(cW o w).Number≠w.Commitment∨(rW o w).Number≠w.Reservation
   ·rw[if_pos (by
     rw[Bool.or_eq_true]
     rcases hc with k | k
     ·exact .inl (bne_iff_ne.2 k)
     ·exact .inr (bne_iff_ne.2 k)),if_pos hc]
    rfl
   ·rw[if_neg (by
     rw[Bool.or_eq_true]
     rintro (k | k)
     ·exact hc (.inl (bne_iff_ne.1 k))
     ·exact hc (.inr (bne_iff_ne.1 k))),if_neg hc]
    rfl
  ·rw[if_pos (by simp[hn]),if_pos (.inl hn)]
   rfl
 ·have ha:o.Book.Orders.any (pB w)=false:=by simpa using ha
  rw[ha,if_neg (show ¬ (false=true) by decide),if_pos (show (o.Number != w.Office||decide ((-1:Int)<0))=true by simp),if_pos (show o.Number≠w.Office∨false=false from .inr rfl)]
  rfl
def amountV (o:TOf) (w:TWa):Int :=
 if (basisV o w).2≠0 then 17 else
 if w.Amount≠(vW o w).Amount∨w.Payee≠(cW o w).Payee∨w.Due≠(cW o w).Due∨w.Code≠(rW o w).Code∨w.Year≠(rW o w).Year∨w.Day≠(oW o w).Day then 15 else 0
theorem zkw {o:TOf} {w:TWa} (h:(basisV o w).2=0):basisV o w=(⟨oW o w,vW o w,cW o w,rW o w⟩,0):=by
 unfold basisV at h ⊢
 by_cases c1:o.Number≠w.Office∨o.Book.Orders.any (pB w)=false
 ·rw[if_pos c1] at h; cases h
 ·rw[if_neg c1] at h ⊢
  by_cases c2:(cW o w).Number≠w.Commitment∨(rW o w).Number≠w.Reservation
  ·rw[if_pos c2] at h; cases h
  ·rw[if_neg c2]
theorem z9u {o:TOf} (hv:VO o) (w:TWa):F_q2m w o=some (amountV o w):=by
 simp only[F_q2m,S_q2m,Scr.den,z7c hv,obind,zl]
 unfold amountV
 by_cases h:(basisV o w).2=0
 ·rw[if_neg (show ¬ ((basisV o w).2 != 0)=true by simp[h]),if_neg (show ¬ (basisV o w).2≠0 from fun k=>k h),zkw h]
  by_cases c:w.Amount≠(vW o w).Amount∨w.Payee≠(cW o w).Payee∨w.Due≠(cW o w).Due∨w.Code≠(rW o w).Code∨w.Year≠(rW o w).Year∨w.Day≠(oW o w).Day
  ·rw[if_pos (by simpa [or_assoc] using c),if_pos c]
  ·rw[if_neg (by simpa [or_assoc] using c),if_neg c]
 ·rw[if_pos (by simpa using h),if_pos h]
def ctlL (a b c d e f g h:Int):List TCh:=[⟨1,a⟩,⟨2,b⟩,⟨3,c⟩,⟨4,d⟩,⟨5,e⟩,⟨6,f⟩,⟨7,g⟩,⟨8,h⟩]
def firstV:List TCh→Int
 | []=>0
 | c :: l=>if c.Errs≠0 then c.Errs else firstV l
theorem z8o:∀ l:List TCh,firstV l=if l.any (fun c=>c.Errs != 0)=true then (l.getD (l.findIdx fun c=>c.Errs != 0) default).Errs else 0
 | []=>rfl
 | c :: l=>by
  have ih:=z8o l
  by_cases h:c.Errs=0
  ·have hb:(c.Errs != 0)=false:=by simp[h]
   rw[List.any_cons,hb,Bool.false_or,List.findIdx_cons,hb]
   show (if c.Errs≠0 then c.Errs else firstV l)=_
   rw[if_neg (fun k=>k h),ih]
   rfl
  ·have hb:(c.Errs != 0)=true:=by simp[h]
   rw[List.any_cons,hb,Bool.true_or,List.findIdx_cons,hb]
   show (if c.Errs≠0 then c.Errs else firstV l)=_
   rw[if_pos h]
   rfl
theorem z4v (l:List TCh):F_qy l=some (firstV l):=by
 simp only[F_qy,S_qy,Scr.den]
 rw[z1o l (fun c=>c.Errs != 0) (fun i=>(l.getD i default).Errs),z8o]
 ·by_cases h:l.any (fun c=>c.Errs != 0)=true
  ·rw[if_pos h,if_pos h]; rfl
  ·rw[if_neg h,if_neg h]; rfl
 ·intro i hi
  simp only[S_qy_b1,Scr.den]
  split <;> rfl
theorem z8p {keys:List Int} {w:TWa} {o:TOf} {p:TPo} {paid:List TWa} {t:Int} (ht:F_q2o w paid=some t) (d:Int) (hw:WPl w) (hv:VO o) (hf:F_q20 w o p=some (fundsV o w p)) :
  F_qq keys w o paid p d=some (ctlL 0 (checkV keys w) (basisV o w).2 (amountV o w) t (yearV w d) (dueV w d) (fundsV o w p)):=by
 have hc:=hw.len
 have hp:F_q5 w=some true:=(z3m (by omega)).trans (congrArg some (@decide_eq_true _ (_) hw))
 have h1:F_q4l=some 0:=rfl
 have h2:F_q2f keys w=some (checkV keys w):=by
  simp only[F_q2f,S_q2f,Scr.den,zf8 (show w.Code.length≤1000000 by omega),obind]
 have h3:F_q2l w o=some (basisV o w).2:=by
  simp only[F_q2l,S_q2l,F_q3i,S_q3i,Scr.den,z7c hv,obind]
 have h4:F_q2n w o=some (amountV o w):=by
  simp only[F_q2n,S_q2n,Scr.den,z9u hv,obind]
 have h5:F_q2p w paid=some t:=by
  simp only[F_q2p,S_q2p,Scr.den,ht,obind]
 have h6:F_q2q w d=some (yearV w d):=by
  simp only[F_q2q,S_q2q,Scr.den,zd4 hw,obind]
 have h7:F_q2r w d=some (dueV w d):=by
  simp only[F_q2r,S_q2r,Scr.den,zfi hw,obind]
 have h8:F_q2t w o p=some (fundsV o w p):=by
  simp only[F_q2t,S_q2t,Scr.den,hf,obind]
 simp only[F_qq,S_qq,Scr.den,hp,h1,h2,h3,h4,h5,h6,h7,h8,obind,if_true,z29]
 rw[za (by simp[AllP])]
 rw[za (by simp[AllP])]
 rw[za (by simp[AllP])]
 rw[za (by simp[AllP])]
 rw[za (by simp[AllP])]
 rw[za (by simp[AllP])]
 rw[za (by simp[AllP])]
 rfl
end Go.Proofs.YtclaojamgomjbaaGreatDoor
namespace Go.Proofs.YtclaojamgomjbaaGreatDoor
open Go Go.TA
end Go.Proofs.YtclaojamgomjbaaGreatDoor
namespace Go.Proofs.YtclaojamgomjbaaGreatDoor
open Go Go.TA
def z3z:TPo:=⟨[49],12,50,[50],[0],[0],[0]⟩
def s20:TWa:=signed [3,4] w19
def x20:TWa:=⟨7,1,[49],12,1,1,1,1,31,2,4340,4400,s20.First,s20.Second⟩
theorem z66:WPl x20:=of_decide_eq_true (by kernel_rfl)
theorem zhi {w:TWa} (h1:w.Office=1) (h2:w.Code=[49]) (h3:w.Year=12):F_q20 w o19 z3z=some (fundsV o19 w z3z) :=
 zit (fun x hx=>by have:x=50:=(by simpa [z3z] using hx); omega) rfl (fun x hx=>by simpa [z3z] using hx) h2.symm h3.symm (by omega) (by rw[h1]; decide) (by omega)
theorem zfj {w:TWa} (h2:w.Code=[49]) (h1:w.Office=1) (h3:w.Year=12):fundsV o19 w z3z=0:=by
 unfold fundsV
 rw[h1,h2,h3]
 exact if_neg (by decide)
theorem ziu {w:TWa} (h1:w.Day=4340) (h2:w.Due=4400) (h3:w.Year=12):yearV w 4410=0∧dueV w 4410=0:=by
 unfold yearV dueV
 rw[h1,h2,h3]
 decide
theorem z9a:2 * ((1:Int)-1)+1<(([3,4]:List Int).length:Int):=by decide
theorem zmo {t:Int} {paid:List TWa} (ht:F_q2o s20 paid=some t):F_qq [3,4] s20 o19 paid z3z 4410=some (ctlL 0 0 0 0 t 0 0 0):=by
 rw[z8p ht 4410 (z4h (z3f z4m _) _) zfc (zhi rfl rfl rfl),show checkV [3,4] s20=0 from z8k z4m z9a,zfj rfl rfl rfl,(ziu (w:=s20) rfl rfl rfl).1,(ziu (w:=s20) rfl rfl rfl).2]
 rfl
theorem zow:F_qq [3,4] (signed [3,4] x20) o19 [] z3z 4410=some (ctlL 0 0 0 15 0 0 0 0):=by
 rw[z8p (w:=signed [3,4] x20) (zd5 _) 4410 (z4h (z3f z66 _) _) zfc (zhi rfl rfl rfl),z8k z66 z9a,zfj rfl rfl rfl,(ziu (w:=signed [3,4] x20) rfl rfl rfl).1,(ziu (w:=signed [3,4] x20) rfl rfl rfl).2]
 rfl
theorem znv:F_q22=some true:=by
 have hc:w19.Code.length≤1000000:=by decide
 have m0:F_q1t o19 1 7=some (w19,0):=(z6e zfc (i:=0) (n:=7) (by decide) (by decide)).trans (by rw[if_neg (by decide)]; rfl)
 have sg:F_qf ⟨[3,4],o19,z3z,[],4410⟩ 1 7=some (s20,true):=by
  simp only[F_qf,S_qf,Scr.den,m0,obind,zh]
  rw[z28 hc,zil z4m z9a]
  simp only[obind]
  rw[z28 (show (z2u w19 (sg1 [3,4] w19)).Code.length≤1000000 from hc),zim z4m z9a]
  rfl
 have f0:∀ t,F_qy (ctlL 0 0 0 0 t 0 0 0)=some t:=fun t=>by
  rw[z4v]
  simp[firstV,ctlL]
  exact fun h=>h.symm
 have p1:F_qz [3,4] s20 o19 [] z3z 4410=some ([s20],0):=by
  simp only[F_qz,S_qz,Scr.den,zmo (zd5 _),f0,obind]
  rw[if_neg (by decide),zfa (by decide) List.Pairwise.nil (show s20.Code.length≤1000000 from hc)]
  simp only[obind]
  unfold addV
  rw[if_neg (fun k=>k (z4h (z3f z4m _) _))]
  rfl
 have p2:∃ l,F_qz [3,4] s20 o19 [s20] z3z 4410=some (l,7):=by
  simp only[F_qz,S_qz,Scr.den,zmo (paid:=[s20]) (t:=7) rfl,f0,obind]
  rw[if_pos (by decide)]
  exact⟨_,rfl⟩
 obtain⟨l,p2⟩:=p2
 have sm:F_q4y=some ⟨[3,4],o19,z3z,[],4410⟩:=rfl
 simp only[F_q22,S_q22,Scr.den,sm,sg,p1,p2,obind,zl]
 rw[show (⟨s20.Number,s20.Office,s20.Code,s20.Year,s20.Verification,s20.Attempt,s20.Commitment,s20.Reservation,IntKind.i64.wrap (s20.Amount+1),s20.Payee,s20.Day,s20.Due,s20.First,s20.Second⟩:TWa)=x20 from rfl,
  z28 (w:=x20) hc,zil z66 z9a]
 simp only[obind]
 rw[z28 (show (z2u x20 (sg1 [3,4] x20)).Code.length≤1000000 from hc),zim z66 z9a]
 simp only[obind]
 rw[zow]
 rfl
end Go.Proofs.YtclaojamgomjbaaGreatDoor
namespace Go.Proofs.YtclaojamgomjbaaGreatDoor
open Go Go.TA
theorem zgl {l:List TWa} {i:Nat} (hi:i<l.length) (hl:l.length≤1000000):F_q4i (i:Int) ((i:Int)+1) l=some (l.eraseIdx i):=by
 simp only[F_q4i,S_q4i,Scr.den]
 have e1:((i:Int)+1).toNat=i+1:=by omega
 simp only[e1,Int.toNat_natCast,Nat.sub_zero,Nat.zero_add]
 rw[za ⟨by omega,by omega,by omega,by omega,trivial⟩,if_neg (by simp; omega),za ⟨by omega,by omega,trivial⟩,za ⟨by omega,by rw[z1d]; exact Nat.le_refl _,trivial⟩,
  za ⟨by rw[z1m,z1d]; omega,trivial⟩,za ⟨by rw[z1m,z1d]; omega,trivial⟩]
 congr 1
 refine List.ext_getElem ?_ fun j h1 h2=>?_
 ·rw[List.length_take,z1m,z1d,List.length_eraseIdx,if_pos hi]
  omega
 ·rw[List.length_take,z1m,z1d] at h1
  rw[List.getElem_take,List.getElem_eraseIdx]
  simp only[clearL,List.getElem_mapIdx,copyL,List.getElem_map,List.getElem_range]
  rw[if_neg (by omega)]
  by_cases c:j<i
  ·rw[if_neg (by omega),dif_pos c,z1j (by omega)]
  ·rw[if_pos (by omega),dif_neg c,z1j (by omega)]
   congr 1
   omega
def numB (n:Int) (x:TWa):Bool:=x.Number==n
theorem zdj {l:List TWa} (hl:l.length≤1000000) (n:Int):F_q4j l n=some (if l.any (numB n)=true then (l.eraseIdx (l.findIdx (numB n)),0) else ([],6)):=by
 have hx:F_q25 l n=some (if l.any (numB n)=true then (l.findIdx (numB n):Int) else -1):=by
  simp only[F_q25,S_q25,Scr.den]
  rw[z1o l (numB n) (fun i=>(i:Int))]
  ·by_cases h:l.any (numB n)=true
   ·rw[if_pos h,if_pos h]; rfl
   ·rw[if_neg h,if_neg h]; rfl
  ·intro i hi
   simp only[S_q25_b1,F_q4x,S_q4x,Scr.den,obind]
   unfold numB
   split <;> rfl
 simp only[F_q4j,S_q4j,Scr.den,hx,obind]
 by_cases h:l.any (numB n)=true
 ·obtain⟨hlt,_⟩:=z3y h
  rw[if_pos h,if_pos h,if_neg (by simp),zd0 hl]
  simp only[obind]
  rw[wrapId (by omega) (by omega),zgl hlt hl]
  rfl
 ·rw[if_neg h,if_neg h,if_pos (by decide)]
end Go.Proofs.YtclaojamgomjbaaGreatDoor
namespace Go.Proofs.YtclaojamgomjbaaGreatDoor
open Go Go.TA
theorem zfk {o:TOf} (hv:VO o) {k:Int} (hk:¬ (1≤k∧k≤o.Book.Orders.length)) (n:Int):F_q1t o k n=some (zW,6):=by
 simp only[F_q1t,S_q1t,Scr.den,z3c hv,obind,zl]
 rw[if_neg (by decide),if_pos (by simp only[Bool.or_eq_true,decide_eq_true_eq]; omega)]
 rfl
theorem zd6 {c:TCa} {k n e:Int} (he:e≠0) (h:F_q1t c.Office k n=some (zW,e)):F_qf c k n=some (zW,false):=by
 have hz:zW.Code.length≤1000000:=by decide
 simp only[F_qf,S_qf,Scr.den,zh,h,obind]
 rw[z28 hz,zhh]
 simp only[obind]
 rw[z28 hz,zhh]
 have:(e==0)=false:=by simpa using he
 simp[this]
theorem zkx {c:TCa} (hv:VO c.Office) (hk:2 * (c.Office.Number-1)+1<(c.Keys.length:Int)) {i:Nat} (hi:i<c.Office.Book.Orders.length)
  (hb:(c.Office.Book.Orders.getD i default).Back=false) {n:Int} (hn:numP n):F_qf c ((i:Int)+1) n=some (signed c.Keys (mkW c.Office (c.Office.Book.Orders.getD i default) n),true):=by
 have hp:=zd1 hv hi hn
 simp only[F_qf,S_qf,Scr.den,zh]
 rw[z6e hv hi hn,if_neg (by rw[hb]; decide)]
 have hoff:2 * ((mkW c.Office (c.Office.Book.Orders.getD i default) n).Office-1)+1<(c.Keys.length:Int):=hk
 generalize mkW c.Office (c.Office.Book.Orders.getD i default) n=w at hp hoff
 have hc:=hp.len
 simp only[obind]
 rw[z28 (by omega),zil hp hoff]
 simp only[obind]
 rw[z28 (show (z2u w (sg1 c.Keys w)).Code.length≤1000000 by show w.Code.length≤_; omega),zim hp hoff]
 rfl
theorem ziv {c:TCa} (hv:VO c.Office) (hk:2 * (c.Office.Number-1)+1<(c.Keys.length:Int)) (k:Int) {n:Int} (hn:numP n):F_qf c k n=some (zW,false) ∨
  ∃ i,i<c.Office.Book.Orders.length∧k=(i:Int)+1∧(c.Office.Book.Orders.getD i default).Back=false∧F_qf c k n=some (signed c.Keys (mkW c.Office (c.Office.Book.Orders.getD i default) n),true):=by
 by_cases h:1≤k∧k≤c.Office.Book.Orders.length
 ·obtain⟨i,rfl⟩:∃ i:Nat,k=(i:Int)+1:=⟨(k-1).toNat,by omega⟩
  have hi:i<c.Office.Book.Orders.length:=by omega
  by_cases hb:(c.Office.Book.Orders.getD i default).Back=true
  ·exact .inl (zd6 (by decide) ((z6e hv hi hn).trans (congrArg some (if_pos hb))))
  ·have hb:(c.Office.Book.Orders.getD i default).Back=false:=by simpa using hb
   exact .inr ⟨i,hi,rfl,hb,zkx hv hk hi hb hn⟩
 ·exact .inl (zd6 (by decide) (zfk hv h n))
def twiceV (w:TWa) (paid:List TWa):Int:=if paid.any (fun x=>x.Number==w.Number)=true then 7 else if paid.any (fun x=>x.Office==w.Office&&x.Verification==w.Verification)=true then 20 else 0
end Go.Proofs.YtclaojamgomjbaaGreatDoor
namespace Go.Proofs.YtclaojamgomjbaaGreatDoor
open Go Go.TA
theorem ziw (w:TWa) (paid:List TWa):F_q2o w paid=some (twiceV w paid):=by
 have h1:F_q1y paid w=some (if paid.any (fun x=>x.Number==w.Number)=true then (paid.findIdx (fun x=>x.Number==w.Number):Int) else -1):=by
  simp only[F_q1y,S_q1y,Scr.den]
  rw[z1o paid (fun x=>x.Number==w.Number) (fun i=>(i:Int))]
  ·by_cases h:paid.any (fun x=>x.Number==w.Number)=true
   ·rw[if_pos h,if_pos h]; rfl
   ·rw[if_neg h,if_neg h]; rfl
  ·intro i hi
   simp only[S_q1y_b1,F_q4r,S_q4r,Scr.den,obind]
   split <;> rfl
 have h2:F_q1z paid w=some (if paid.any (fun x=>x.Office==w.Office&&x.Verification==w.Verification)=true then (paid.findIdx (fun x=>x.Office==w.Office&&x.Verification==w.Verification):Int) else -1):=by
  simp only[F_q1z,S_q1z,Scr.den]
  rw[z1o paid (fun x=>x.Office==w.Office&&x.Verification==w.Verification) (fun i=>(i:Int))]
  ·by_cases h:paid.any (fun x=>x.Office==w.Office&&x.Verification==w.Verification)=true
   ·rw[if_pos h,if_pos h]; rfl
   ·rw[if_neg h,if_neg h]; rfl
  ·intro i hi
   simp only[S_q1z_b1,F_q4t,S_q4t,Scr.den,obind,zh]
   split <;> rfl
 simp only[F_q2o,S_q2o,Scr.den,F_q4s,S_q4s,F_q4u,S_q4u,h1,h2,obind]
 unfold twiceV
 by_cases c1:paid.any (fun x=>x.Number==w.Number)=true
 ·rw[if_pos c1,if_pos c1,if_pos (by simp)]
 ·rw[if_neg c1,if_neg c1,if_neg (by decide)]
  by_cases c2:paid.any (fun x=>x.Office==w.Office&&x.Verification==w.Verification)=true
  ·rw[if_pos c2,if_pos c2,if_pos (by simp)]
  ·rw[if_neg c2,if_neg c2,if_neg (by decide)]
end Go.Proofs.YtclaojamgomjbaaGreatDoor
namespace Go.Proofs.YtclaojamgomjbaaGreatDoor
open Go Go.TA
def zO:TOr:=⟨0,0,0,0,false⟩
theorem zfl {o:TOf} (hv:VO o) {w:TWa} (h:(basisV o w).2=0):F_qd w o=some (oW o w,0):=by
 obtain⟨_,_,_,_,_,_,l1,l2,l3,l4⟩:=hv.val
 have hn:o.Number=w.Office∧o.Book.Orders.any (pB w)=true∧(cW o w).Number=w.Commitment∧(rW o w).Number=w.Reservation:=by
  unfold basisV at h
  by_cases c1:o.Number≠w.Office∨o.Book.Orders.any (pB w)=false
  ·rw[if_pos c1] at h; cases h
  ·rw[if_neg c1] at h
   by_cases c2:(cW o w).Number≠w.Commitment∨(rW o w).Number≠w.Reservation
   ·rw[if_pos c2] at h; cases h
   ·exact⟨Classical.not_not.mp fun k=>c1 (.inl k),by
    cases hh:o.Book.Orders.any (pB w) with
    | true=>rfl
    | false=>exact absurd (.inr hh) c1,Classical.not_not.mp fun k=>c2 (.inl k),Classical.not_not.mp fun k=>c2 (.inr k)⟩
 obtain⟨n1,ha,n2,n3⟩:=hn
 obtain⟨hlt,hpb⟩:=z3y ha
 obtain⟨v0,v2,c2,c1,r1⟩:=z5o hv ha
 simp only[F_qd,S_qd,Scr.den,z3c hv,obind]
 rw[if_neg (by decide),if_neg (by simp[n1])]
 have key:rangeM (fun i s=>(S_qd_b1 w o i s).den) o.Book.Orders.length 0 ()=some (.ret (oW o w,0)):=by
  rw[z1o o.Book.Orders (pB w) (fun i=>(o.Book.Orders.getD i default,(0:Int)))]
  ·rw[if_pos ha]
   rfl
  ·intro i hi
   simp only[S_qd_b1,Scr.den,zl]
   by_cases hp:pB w (o.Book.Orders.getD i default)=true
   ·have hq:=zb6.1 hp
    rw[if_neg (by rw[hq.1,hq.2.1,hq.2.2]; simp),if_pos hp,hq.1]
    have w1:IntKind.i64.wrap (w.Verification-1)=w.Verification-1:=wrapId (by omega) (by omega)
    rw[w1,za ⟨by omega,by omega,trivial⟩]
    have w2:IntKind.i64.wrap ((o.Book.Verifications.getD (w.Verification-1).toNat default).Commitment-1)=(vW o w).Commitment-1:=wrapId (by show _≤(vW o w).Commitment-1; omega) (by show (vW o w).Commitment-1<_; omega)
    rw[w2,za ⟨fun _=>by omega,fun _=>by omega,trivial⟩]
    have e1:(o.Book.Verifications.getD (w.Verification-1).toNat default).Commitment=w.Commitment:=by
     show (vW o w).Commitment=_
     rw[← c1,n2]
    have e2:(o.Book.Commitments.getD ((vW o w).Commitment-1).toNat default).Reservation=w.Reservation:=by
     show (cW o w).Reservation=_
     rw[← r1,n3]
    rw[e1,e2,if_neg (by simp)]
   ·rw[if_pos (by
     have:pB w (o.Book.Orders.getD i default)=false:=by simpa using hp
     unfold pB at this
     revert this
     generalize (o.Book.Orders.getD i default).Verification=a
     generalize (o.Book.Orders.getD i default).Attempt=b
     generalize (o.Book.Orders.getD i default).Back=c
     intro this
     by_cases k1:a=w.Verification <;> by_cases k2:b=w.Attempt <;> cases c <;> simp_all),if_neg hp]
 rw[key]
 rfl
end Go.Proofs.YtclaojamgomjbaaGreatDoor
namespace Go.Proofs.YtclaojamgomjbaaGreatDoor
open Go Go.TA
theorem zc3 {o:TOf} (hv:VO o) {w:TWa} (h:(basisV o w).2=0) (ha:o.Book.Orders.any (pB w)=true):F_q27 w o=some (amountV o w):=by
 obtain⟨_,_,_,_,_,_,l1,l2,l3,l4⟩:=hv.val
 obtain⟨v0,v2,c2,c1,r1⟩:=z5o hv ha
 have hq:=zb6.1 (z3y ha).2
 have hq:(oW o w).Verification=w.Verification:=hq.1
 simp only[F_q27,S_q27,Scr.den,zfl hv h,obind,zl,hq]
 have w1:IntKind.i64.wrap (w.Verification-1)=w.Verification-1:=wrapId (by omega) (by omega)
 rw[if_neg (by decide),w1,za ⟨by omega,by omega,trivial⟩]
 have w2:IntKind.i64.wrap ((o.Book.Verifications.getD (w.Verification-1).toNat default).Commitment-1)=(vW o w).Commitment-1:=wrapId (by show _≤(vW o w).Commitment-1; omega) (by show (vW o w).Commitment-1<_; omega)
 rw[w2,za ⟨by omega,by omega,trivial⟩]
 have w3:IntKind.i64.wrap ((o.Book.Commitments.getD ((vW o w).Commitment-1).toNat default).Reservation-1)=(cW o w).Reservation-1:=wrapId (by show _≤(cW o w).Reservation-1; omega) (by show (cW o w).Reservation-1<_; omega)
 rw[w3,za ⟨by omega,by omega,trivial⟩]
 unfold amountV
 rw[if_neg (show ¬ (basisV o w).2≠0 from fun k=>k h)]
 have e1:o.Book.Verifications.getD (w.Verification-1).toNat default=vW o w:=rfl
 have e2:o.Book.Commitments.getD ((vW o w).Commitment-1).toNat default=cW o w:=rfl
 have e3:o.Book.Reservations.getD ((cW o w).Reservation-1).toNat default=rW o w:=rfl
 rw[e1,e2,e3]
 by_cases c:w.Amount≠(vW o w).Amount∨w.Payee≠(cW o w).Payee∨w.Due≠(cW o w).Due∨w.Code≠(rW o w).Code∨w.Year≠(rW o w).Year∨w.Day≠(oW o w).Day
 ·rw[if_pos (by simpa [or_assoc] using c),if_pos c]
 ·rw[if_neg (by simpa [or_assoc] using c),if_neg c]
theorem z5p (l:List TCh):F_q19 l=some (firstV l):=by
 simp only[F_q19,S_q19,Scr.den]
 rw[z1o l (fun c=>c.Errs != 0) (fun i=>(l.getD i default).Errs),z8o]
 ·by_cases h:l.any (fun c=>c.Errs != 0)=true
  ·rw[if_pos h,if_pos h]; rfl
  ·rw[if_neg h,if_neg h]; rfl
 ·intro i hi
  simp only[S_q19_b1,Scr.den]
  split <;> rfl
end Go.Proofs.YtclaojamgomjbaaGreatDoor
namespace Go.Proofs.YtclaojamgomjbaaGreatDoor
open Go Go.TA
end Go.Proofs.YtclaojamgomjbaaGreatDoor
namespace Go.Proofs.YtclaojamgomjbaaGreatDoor
open Go Go.TA
theorem zb7 {o:TOf} (hs:SmO o) (hn:¬ VO o):F_q9 o=some false:=(z5l hs).trans (congrArg some (@decide_eq_false _ (_) hn))
theorem z9e {o:TOf} (hs:SmO o) (hn:¬ VO o):F_qg o=some false:=(z6l hs).trans (congrArg some (@decide_eq_false _ (_) hn))
open Classical in
noncomputable def basisG (o:TOf) (w:TWa):TCha×Int:=if VO o then basisV o w else (zC,1)
open Classical in
noncomputable def amountG (o:TOf) (w:TWa):Int:=if VO o then amountV o w else 17
def fundsG (o:TOf) (w:TWa) (p:TPo):Int :=
 if p.Code≠w.Code∨p.Year≠w.Year∨w.Office>(p.Granted.length:Int)∨w.Office>(p.Heard.length:Int) then 6 else
 if usedV o.Book w.Code w.Year>IntKind.i64.wrap (p.Granted.getD (w.Office-1).toNat default-p.Heard.getD (w.Office-1).toNat default) then 15 else 0
open Classical in
noncomputable def controlG (keys:List Int) (w:TWa) (o:TOf) (paid:List TWa) (p:TPo) (d:Int):List TCh :=
 if WPl w then ctlL 0 (checkV keys w) (basisG o w).2 (amountG o w) (twiceV w paid) (yearV w d) (dueV w d) (fundsG o w p) else ctlL 1 1 1 1 1 1 1 1
theorem zd7 {o:TOf} (hs:SmO o) (w:TWa):F_q2d w o=some (basisG o w):=by
 unfold basisG
 by_cases hv:VO o
 ·rw[z7c hv,if_pos hv]
 ·simp only[F_q2d,S_q2d,Scr.den,z9e hs hv,obind]
  rw[if_pos (by decide),if_neg hv]
  rfl
theorem zix {o:TOf} (hs:SmO o) (w:TWa):F_q2m w o=some (amountG o w):=by
 unfold amountG
 by_cases hv:VO o
 ·rw[z9u hv,if_pos hv]
 ·simp only[F_q2m,S_q2m,Scr.den,zd7 hs,obind]
  unfold basisG
  rw[if_neg hv,if_pos (by decide),if_neg hv]
theorem sumG (g:Int):F_qr [g]=some (IntKind.i64.wrap g):=by
 simp only[F_qr,S_qr,Scr.den,List.length_cons,List.length_nil,rangeM,S_qr_b1]
 simp only[outM]
 rw[show IntKind.i64.wrap (0+([g]:List Int).getD 0 default)=IntKind.i64.wrap g from congrArg IntKind.i64.wrap (Int.zero_add g)]
theorem outG (g h:Int):F_q2s ⟨[],0,0,[g],[h],[],[]⟩=some (IntKind.i64.wrap (g-h)):=by
 simp only[F_q2s,S_q2s,Scr.den]
 rw[show (([g]:List Int).take ((if (([h]:List Int).length:Int)<(([g]:List Int).length:Int) then (([h]:List Int).length:Int) else (([g]:List Int).length:Int))).toNat)=[g] from rfl,show (([h]:List Int).take ((if (([h]:List Int).length:Int)<(([g]:List Int).length:Int) then (([h]:List Int).length:Int) else (([g]:List Int).length:Int))).toNat)=[h] from rfl,sumG]
 simp only[obind]
 rw[sumG]
 simp only[obind]
 rw[za (by simp[AllP]),z30,z5y]
theorem zky {w:TWa} (o:TOf) (p:TPo) (h1:1≤w.Office) (h3:w.Office≤6):F_q20 w o p=some (fundsG o w p):=by
 simp only[F_q20,S_q20,Scr.den,zl,zbs,obind]
 rw[wrapId (n:=w.Office-1) (by omega) (by omega),wrapId (n:=w.Office-1+1) (by omega) (by omega)]
 unfold fundsG
 by_cases c:p.Code≠w.Code∨p.Year≠w.Year∨w.Office>(p.Granted.length:Int)∨w.Office>(p.Heard.length:Int)
 ·rw[if_pos (by
   simp only[Bool.or_eq_true,decide_eq_true_eq,bne_iff_ne,Bool.not_eq_true',beq_eq_false_iff_ne]
   rcases c with c | c | c | c
   ·exact .inl (.inl (.inl c))
   ·exact .inl (.inl (.inr c))
   ·exact .inl (.inr (by omega))
   ·exact .inr (by omega)),if_pos c]
 ·simp only[not_or,ne_eq,Classical.not_not] at c
  obtain⟨c1,c2,c3,c4⟩:=c
  have hk0:(w.Office-1).toNat<p.Granted.length:=by omega
  have hk:(w.Office-1+1).toNat=(w.Office-1).toNat+1:=by omega
  rw[if_neg (by
   simp only[Bool.or_eq_true,decide_eq_true_eq,bne_iff_ne,Bool.not_eq_true',beq_eq_false_iff_ne,not_or,ne_eq,Classical.not_not]
   exact⟨⟨⟨c1,c2⟩,by omega⟩,by omega⟩),if_neg (by
   rintro (k | k | k | k)
   ·exact k c1
   ·exact k c2
   ·exact c3 k
   ·exact c4 k),hk,z4u hk0,z4u (l:=p.Heard) (by omega),outG]
  simp only[obind]
  rw[za ⟨by omega,by omega,by omega,by omega,by omega,trivial⟩]
  by_cases c:usedV o.Book w.Code w.Year>IntKind.i64.wrap (p.Granted.getD (w.Office-1).toNat default-p.Heard.getD (w.Office-1).toNat default)
  ·rw[if_pos (by simpa using c),if_pos c]
  ·rw[if_neg (by simpa using c),if_neg c]
theorem z9v {keys:List Int} {w:TWa} {o:TOf} (paid:List TWa) (p:TPo) (d:Int) (hs:SmO o) (hc:w.Code.length≤1000000) :
  F_qq keys w o paid p d=some (controlG keys w o paid p d):=by
 unfold controlG
 by_cases hw:WPl w
 ·have hp:F_q5 w=some true:=(z3m (by omega)).trans (congrArg some (@decide_eq_true _ (_) hw))
  have h1:F_q4l=some 0:=rfl
  have h2:F_q2f keys w=some (checkV keys w):=by
   simp only[F_q2f,S_q2f,Scr.den,zf8 hc,obind]
  have h3:F_q2l w o=some (basisG o w).2:=by
   simp only[F_q2l,S_q2l,F_q3i,S_q3i,Scr.den,zd7 hs,obind]
  have h4:F_q2n w o=some (amountG o w):=by
   simp only[F_q2n,S_q2n,Scr.den,zix hs,obind]
  have h5:F_q2p w paid=some (twiceV w paid):=by
   simp only[F_q2p,S_q2p,Scr.den,ziw,obind]
  have h6:F_q2q w d=some (yearV w d):=by
   simp only[F_q2q,S_q2q,Scr.den,zd4 hw,obind]
  have h7:F_q2r w d=some (dueV w d):=by
   simp only[F_q2r,S_q2r,Scr.den,zfi hw,obind]
  have h8:F_q2t w o p=some (fundsG o w p):=by
   simp only[F_q2t,S_q2t,Scr.den,zky o p hw.2.1.1 hw.2.1.2,obind]
  rw[if_pos hw]
  simp only[F_qq,S_qq,Scr.den,hp,h1,h2,h3,h4,h5,h6,h7,h8,obind,if_true,z29]
  rw[za (by simp[AllP])]
  rw[za (by simp[AllP])]
  rw[za (by simp[AllP])]
  rw[za (by simp[AllP])]
  rw[za (by simp[AllP])]
  rw[za (by simp[AllP])]
  rw[za (by simp[AllP])]
  rfl
 ·have hp:F_q5 w=some false:=(z3m (by omega)).trans (congrArg some (@decide_eq_false _ (_) hw))
  rw[if_neg hw]
  simp only[F_qq,S_qq,Scr.den,hp,obind,Bool.false_eq_true,if_false,z29]
  rw[za (by simp[AllP])]
  rw[za (by simp[AllP])]
  rw[za (by simp[AllP])]
  rw[za (by simp[AllP])]
  rw[za (by simp[AllP])]
  rw[za (by simp[AllP])]
  rw[za (by simp[AllP])]
  rfl
end Go.Proofs.YtclaojamgomjbaaGreatDoor
namespace Go.Proofs.YtclaojamgomjbaaGreatDoor
open Go Go.TA
end Go.Proofs.YtclaojamgomjbaaGreatDoor
namespace Go.Proofs.YtclaojamgomjbaaGreatDoor
open Go Go.TA
theorem zgm (x w:TWa):F_q4f x w=some (sameB x w):=by
 simp only[F_q4f,S_q4f,Scr.den,zh]
 rfl
theorem zb8 {l:List TWa} {w:TWa} (hl:l.length≤1000) (hS:SrtW l) (hc:w.Code.length≤1000000):F_q2 l w=some (addV l w):=by
 simp only[F_q2,S_q2,Scr.den]
 obtain⟨s,e,_⟩:=z1b (step:=fun s=>(S_q2_b1 l s).den) (fun s=>((l.length:Int)-s).toNat) (fun s=>∃ i:Nat,s=(i:Int)∧1≤i) (fun _=>True) (fun s hI=>by
  obtain⟨i,rfl,h1⟩:=hI
  simp only[S_q2_b1,Scr.den,Int.toNat_natCast]
  by_cases hi:i<l.length
  ·left
   have e1:IntKind.i64.wrap ((i:Int)-1)=((i-1:Nat):Int):=by rw[wrapId (by omega) (by omega)]; omega
   have hlt:=hS.lt (show i-1<i by omega) hi
   rw[if_pos (by simpa using hi),e1,Int.toNat_natCast,za ⟨by omega,by omega,by omega,hi,trivial⟩,if_neg (by
    simp only[decide_eq_true_eq,ge_iff_le]
    omega),wrapId (n:=(i:Int)+1) (by omega) (by omega)]
   exact⟨_,rfl,⟨i+1,rfl,by omega⟩,by show ((l.length:Int)-((i:Int)+1)).toNat<((l.length:Int)-i).toNat; omega⟩
  ·right
   rw[if_neg (by simpa using hi)]
   exact⟨_,rfl,trivial⟩) _ 1 (Nat.lt_succ_self _) ⟨1,rfl,Nat.le_refl _⟩
 rw[e]
 simp only[outM]
 rw[z1z hc]
 simp only[obind]
 unfold addV
 by_cases h:WPl w
 ·rw[decide_eq_true h,if_neg (by decide),if_neg (show ¬ ¬ WPl w from fun k=>k h)]
  have hp:=z56 l w.Number
  by_cases c1:hasN l w.Number=true
  ·rw[if_pos c1]
   -- the first pot with the number is met
   have key:∀ (k i:Nat) (s:Int),i+k=l.length→(∃ j,i≤j∧j<l.length∧(l.getD j default).Number=w.Number)→rangeM (fun i s=>(S_q2_b2 l w i s).den) k i s=some (.ret ([],7)):=by
    intro k
    induction k with
    | zero=>intro i s hk ⟨j,h1,h2,_⟩; omega
    | succ k ih =>
     intro i s hk ⟨j,h1,h2,h3⟩
     by_cases hn:(l.getD i default).Number=w.Number
     ·simp only[rangeM,S_q2_b2,Scr.den]
      rw[if_pos (by simpa using hn)]
     ·have hj:i+1≤j:=by
       rcases Nat.lt_or_ge i j with h | h
       ·exact h
       ·have:i=j:=by omega
        subst this; exact absurd h3 hn
      by_cases hlt:(l.getD i default).Number<w.Number
      ·simp only[rangeM,S_q2_b2,Scr.den]
       rw[if_neg (by simpa using hn),if_pos (by simpa using hlt)]
       exact ih (i+1) _ (by omega) ⟨j,hj,h2,h3⟩
      ·simp only[rangeM,S_q2_b2,Scr.den]
       rw[if_neg (by simpa using hn),if_neg (by simpa using hlt)]
       exact ih (i+1) _ (by omega) ⟨j,hj,h2,h3⟩
   obtain⟨x,hx,he⟩:=List.any_eq_true.1 c1
   obtain⟨j,hj,rfl⟩:=z1h hx
   rw[key l.length 0 0 (by omega) ⟨j,by omega,hj,by simpa using he⟩]
   rfl
  ·rw[if_neg c1]
   obtain⟨k,e2,hk⟩:=z1g (body:=fun i s=>(S_q2_b2 l w i s).den) (n:=l.length) (fun i s=>s=((min i (posW l w.Number):Nat):Int)) (s0:=0) (by simp) (fun i s hi hI=>by
    subst hI
    simp only[S_q2_b2,Scr.den]
    have hn:(l.getD i default).Number≠w.Number:=fun e=>c1 (List.any_eq_true.2 ⟨_,zm hi,by simpa using e⟩)
    rw[if_neg (by simpa using hn)]
    by_cases hlt:(l.getD i default).Number<w.Number
    ·have:i<posW l w.Number:=by
      by_cases h:i<posW l w.Number
      ·exact h
      ·have:=z99 hS (n:=w.Number) hi (by omega); omega
     rw[if_pos (by simpa using hlt),wrapId (by omega) (by omega)]
     exact⟨_,rfl,by omega⟩
    ·have:posW l w.Number≤i:=by
      by_cases h:i<posW l w.Number
      ·have:=z98 h; omega
      ·omega
     rw[if_neg (by simpa using hlt)]
     exact⟨_,rfl,by omega⟩)
   subst hk
   rw[e2]
   simp only
   have rs:=zay (ρ:=R_q2) (n:=l.length) (c:=([],20)) (body:=fun i s=>(S_q2_b3 l w i s).den) (fun i=>sameB (l.getD i default) w) (fun i hi=>by
    simp only[S_q2_b3,Scr.den,zgm,obind]
    split <;> rfl)
   rw[rs]
   have hany:(List.range l.length).any (fun i=>sameB (l.getD i default) w)=l.any fun x=>sameB x w:=by
    rw[Bool.eq_iff_iff]
    simp only[List.any_eq_true,List.mem_range]
    constructor
    ·rintro⟨i,hi,h⟩; exact⟨_,zm hi,h⟩
    ·rintro⟨x,hx,h⟩; obtain⟨i,hi,rfl⟩:=z1h hx; exact⟨i,hi,h⟩
   rw[hany]
   by_cases c2:(l.any fun x=>sameB x w)=true
   ·rw[if_pos c2,if_pos c2]
    rfl
   ·rw[if_neg c2,if_neg c2]
    simp only
    by_cases c3:200≤l.length
    ·rw[if_pos (by simp; omega),if_pos c3]
    ·have em:min l.length (posW l w.Number)=posW l w.Number:=by omega
     rw[if_neg (by simp; omega),if_neg c3,em,Int.toNat_natCast,za ⟨by omega,hp,by rw[List.length_take]; omega,trivial⟩,za ⟨by rw[List.length_take]; omega,by simp only[List.length_append,List.length_take,List.length_drop,List.length_cons,List.length_nil]; omega,trivial⟩,za ⟨by simp only[List.length_append,List.length_take,List.length_drop,List.length_cons,List.length_nil]; omega,trivial⟩]
     unfold insL
     rw[List.append_assoc]
     rfl
 ·rw[decide_eq_false h,if_pos (by decide),if_pos h]
theorem zfm {w:TWa} (h:WPl w):∃ b,F_qn w=some b∧b.length≤10000:=by
 have hl:=h.len
 have hn:smI w.Number∧smI w.Office:=by
  obtain⟨⟨a,_⟩,g,_⟩:=h
  unfold numP at a
  unfold smI
  omega
 have i1:=Lib.itoa_length_le w.Number hn.1.1 hn.1.2
 have i2:=Lib.itoa_length_le w.Office hn.2.1 hn.2.2
 simp only[F_qn,S_qn,Scr.den,z1z (show w.Code.length≤1000000 by omega),obind,decide_eq_true h]
 rw[if_neg (by decide),z3b hn.1.1 hn.1.2]
 simp only[obind]
 rw[z3b hn.2.1 hn.2.2]
 simp only[obind]
 rw[za (by simp only[AllP,and_true,List.length_append,List.length_cons,List.length_nil]; omega)]
 obtain⟨s,e,h1⟩:=z1g (body:=fun i s=>(S_qn_b1 w i s).den) (n:=9) (fun i s=>s.length≤1000+100 * i) (s0:=(((((([119,97,114,114,97,110,116,32]:List UInt8)++Lib.itoa w.Number)++[32])++Lib.itoa w.Office)++[32])++w.Code)) (by simp only[List.length_append,List.length_cons,List.length_nil]; omega) (fun i s hi hI=>by
  have hr:smI ((z11 w).getD i default):=h.rest _ (zm (by simpa [z11] using hi))
  have hlen:=Lib.itoa_length_le _ hr.1 hr.2
  simp only[S_qn_b1,Scr.den]
  rw[show ([w.Year,w.Reservation,w.Commitment,w.Verification,w.Attempt,w.Amount,w.Payee,w.Day,w.Due]:List Int)=z11 w from rfl,z3b hr.1 hr.2]
  simp only[obind]
  rw[za (by simp only[AllP,and_true,List.length_append,List.length_cons,List.length_nil]; omega)]
  exact⟨_,rfl,by simp only[List.length_append,List.length_cons,List.length_nil]; omega⟩)
 rw[e]
 exact⟨s,rfl,by omega⟩
theorem zgn {l:List UInt8} (hl:l.length≤1000000):∃ v,F_qo l=some v:=by
 simp only[F_qo,S_qo,Scr.den]
 obtain⟨s,e,_⟩:=z1b (step:=fun s=>(S_qo_b1 l s).den) (fun s:Int×Int=>((l.length:Int)-s.2).toNat) (fun s=>∃ i:Nat,s.2=(i:Int)) (fun _=>True) (fun s hI=>by
  obtain⟨x,y⟩:=s
  obtain⟨i,hi0⟩:=hI
  simp only at hi0
  subst hi0
  simp only[S_qo_b1,Scr.den,Int.toNat_natCast]
  by_cases hi:i<l.length
  ·left
   rw[if_pos (by simpa using hi),za ⟨by omega,hi,trivial⟩,wrapId (n:=(i:Int)+1) (by omega) (by omega)]
   exact⟨_,rfl,⟨i+1,rfl⟩,by show ((l.length:Int)-((i:Int)+1)).toNat<((l.length:Int)-i).toNat; omega⟩
  ·right
   rw[if_neg (by simpa using hi)]
   exact⟨_,rfl,trivial⟩) _ (14695981039346656037,0) (Nat.lt_succ_self _) ⟨0,rfl⟩
 rw[e]
 exact⟨_,rfl⟩
theorem zaf {w:TWa} (h:WPl w) (key:Int):∃ v,F_qc key w=some v:=by
 simp only[F_qc,S_qc,Scr.den]
 obtain⟨s,e,h1⟩:=z1b (step:=fun s=>(S_qc_b1 key s).den) (fun s:List Int×Int=>(s.2+8).toNat) (fun s=>(s.1.length:Int) * 8+s.2=56∧-8≤s.2) (fun s=>s.1.length≤8) (fun s hI=>by
  obtain⟨l,y⟩:=s
  obtain⟨k1,k2⟩:=hI
  simp only at k1 k2
  simp only[S_qc_b1,Scr.den]
  by_cases hy:0≤y
  ·left
   rw[if_pos (by simpa using hy),za ⟨hy,by omega,trivial⟩,wrapId (n:=y-8) (by omega) (by omega)]
   exact⟨_,rfl,⟨by simp only[List.length_append,List.length_cons,List.length_nil]; omega,by show -8≤y-8; omega⟩,by show (y-8+8).toNat<(y+8).toNat; omega⟩
  ·right
   rw[if_neg (by simpa using hy)]
   exact⟨_,rfl,by show l.length≤8; omega⟩) _ (([]:List Int),56) (Nat.lt_succ_self _) ⟨by simp,by simp⟩
 rw[e]
 simp only[outM]
 rw[za ⟨by omega,trivial⟩]
 obtain⟨b,e2,hb⟩:=zfm h
 rw[e2]
 simp only[obind]
 obtain⟨v,e3⟩:=zgn (l:=((List.range s.1.length).map fun j=>UInt8.ofNat ((s.1.getD j default)).toNat)++b) (by simp only[List.length_append,List.length_map,List.length_range]; omega)
 rw[e3]
 simp only[obind]
 rw[za ⟨by simp only[List.length_map,List.length_range]; omega,trivial⟩]
 exact⟨_,rfl⟩
def zkz (x w:TWa):Prop:=∃ a b,x=⟨w.Number,w.Office,w.Code,w.Year,w.Verification,w.Attempt,w.Commitment,w.Reservation,w.Amount,w.Payee,w.Day,w.Due,a,b⟩
theorem zgo {w:TWa} (h:WPl w) (keys:List Int) (b:Bool):∃ x e,F_q18 keys w b=some (x,e)∧(e=0→zkz x w):=by
 have hc:=h.len
 have ho:=h.2.1
 simp only[F_q18,S_q18,Scr.den,z1z (show w.Code.length≤1000000 by omega),obind,decide_eq_true h]
 rw[if_neg (by decide),wrapId (n:=w.Office-1) (by omega) (by omega),wrapId (n:=2 * (w.Office-1)) (by omega) (by omega),wrapId (n:=2 * (w.Office-1)+1) (by omega) (by omega)]
 have sig:=fun k=>zaf h k
 cases b with
 | true =>
  rw[if_pos rfl]
  simp only[outM]
  by_cases c2:(keys.length:Int)≤2 * (w.Office-1)+1
  ·rw[if_pos (by simpa using c2)]
   exact⟨_,_,rfl,fun h=>by cases h⟩
  ·rw[if_neg (by simpa using c2),if_neg (by decide),wrapId (n:=2 * (w.Office-1)+1-1) (by omega) (by omega)]
   obtain⟨v,e1⟩:=sig (keys.getD (2 * (w.Office-1)+1-1).toNat default)
   rw[e1]
   simp only[obind]
   rw[za ⟨by omega,by omega,trivial⟩]
   split
   ·exact⟨_,_,rfl,fun h=>by cases h⟩
   ·obtain⟨v2,e2⟩:=sig (keys.getD (2 * (w.Office-1)+1).toNat default)
    rw[e2]
    simp only[obind]
    rw[za ⟨by omega,by omega,trivial⟩]
    exact⟨_,_,rfl,fun _=>⟨_,_,rfl⟩⟩
 | false =>
  rw[if_neg (by decide)]
  simp only[outM]
  by_cases c2:(keys.length:Int)≤2 * (w.Office-1)
  ·rw[if_pos (by simpa using c2)]
   exact⟨_,_,rfl,fun h=>by cases h⟩
  ·rw[if_neg (by simpa using c2),if_pos (by decide)]
   obtain⟨v,e1⟩:=sig (keys.getD (2 * (w.Office-1)).toNat default)
   rw[e1]
   simp only[obind]
   rw[za ⟨by omega,by omega,trivial⟩]
   exact⟨_,_,rfl,fun _=>⟨_,_,rfl⟩⟩
end Go.Proofs.YtclaojamgomjbaaGreatDoor
namespace Go.Proofs.YtclaojamgomjbaaGreatDoor
open Go Go.TA
end Go.Proofs.YtclaojamgomjbaaGreatDoor
namespace Go.Proofs.YtclaojamgomjbaaGreatDoor
open Go Go.TA
end Go.Proofs.YtclaojamgomjbaaGreatDoor
namespace Go.Proofs.YtclaojamgomjbaaGreatDoor
open Go Go.TA
end Go.Proofs.YtclaojamgomjbaaGreatDoor
namespace Go.Proofs.YtclaojamgomjbaaGreatDoor
open Go Go.TA
open Classical in
open Classical in
open Classical in
open Classical in
theorem z5q {b:TBo} {k:Nat} (h:SmN k b) (hk:k≤1000) {s:TTape} (hs:TapeOk s):∃ x,F_q34 b s=some x∧TapeOk x.1∧SmN (k+1) ⟨x.2.1,x.2.2.1,x.2.2.2.1,x.2.2.2.2⟩:=by
 obtain⟨⟨l1,l2,l3,l4⟩,hc⟩:=id h
 simp only[F_q34,S_q34,Scr.den,Nat.zero_add]
 rw[za ⟨by omega,by omega,by omega,by omega,trivial⟩]
 obtain⟨n,s1,e1,t1,_⟩:=zr (l:=[-1,0,1,77,1000000000001]) hs (by decide) (by decide)
 obtain⟨q,s2,e2,t2,q1,q2⟩:=z10 (n:=12) t1 (by omega) (by omega)
 simp only[e1,e2,obind]
 generalize hK:(fun (s:TTape×(List TRe)×(List TCo)×(List TVe)×(List TOr))=>(some (s.1,s.2.1,s.2.2.1,s.2.2.2.1,s.2.2.2.2):Option R_q34))=K
 have fin:∀ (s':TTape) (lR:List TRe) (lC:List TCo) (lV:List TVe) (lO:List TOr),TapeOk s'→SmN (k+1) ⟨lR,lC,lV,lO⟩→∃ x,outM (some (Out.next (s',lR,lC,lV,lO))) K some=some x∧TapeOk x.1∧SmN (k+1) ⟨x.2.1,x.2.2.1,x.2.2.2.1,x.2.2.2.2⟩:=fun s' lR lC lV lO ht hh=>by
  simp only[outM,← hK]
  exact⟨_,rfl,ht,hh⟩
 have same:SmN (k+1) b:=⟨⟨by omega,by omega,by omega,by omega⟩,hc⟩
 by_cases c0:(q==0)=true
 ·rw[if_pos c0]
  obtain⟨a,s3,e3,t3,_,_⟩:=z10 (n:=2) t2 (by omega) (by omega)
  obtain⟨co,s4,e4,t4,hco⟩:=zm3 t3
  simp only[e3,e4,obind]
  rw[za ⟨by omega,trivial⟩]
  refine fin _ _ _ _ _ t4 ⟨⟨by simp only[List.length_append,List.length_singleton]; omega,by simp only; omega,by simp only; omega,by simp only; omega⟩,fun r hr=>?_⟩
  rw[List.mem_append,List.mem_singleton] at hr
  rcases hr with hr | rfl
  ·exact hc r hr
  ·exact hco
 rw[if_neg c0]
 by_cases c0:(q==1)=true
 ·rw[if_pos c0]
  by_cases hp:decide ((b.Reservations.length:Int)>0)=true
  ·rw[if_pos hp]
   simp only[decide_eq_true_eq] at hp
   obtain⟨i,s3,e3,t3,i1,i2⟩:=z10 (n:=(b.Reservations.length:Int)) t2 (by omega) (by omega)
   simp only[e3,obind]
   rw[za ⟨by omega,by omega,by omega,trivial⟩]
   exact fin _ _ _ _ _ t3 ⟨⟨by simp only[List.length_set]; omega,by simp only; omega,by simp only; omega,by simp only; omega⟩,zad h (by omega) rfl⟩
  ·rw[if_neg hp]; exact fin _ _ _ _ _ t2 same
 rw[if_neg c0]
 by_cases c0:(q==2)=true
 ·rw[if_pos c0]
  by_cases hp:decide ((b.Reservations.length:Int)>0)=true
  ·rw[if_pos hp]
   simp only[decide_eq_true_eq] at hp
   obtain⟨d,s3,e3,t3,_⟩:=zr (l:=[-1,4320,4679,4680]) t2 (by decide) (by decide)
   simp only[e3,obind]
   rw[za ⟨by omega,by omega,trivial⟩]
   exact fin _ _ _ _ _ t3 ⟨⟨by simp only[List.length_set]; omega,by simp only; omega,by simp only; omega,by simp only; omega⟩,zad h (by omega) rfl⟩
  ·rw[if_neg hp]; exact fin _ _ _ _ _ t2 same
 rw[if_neg c0]
 by_cases c0:(q==3)=true
 ·rw[if_pos c0]
  by_cases hp:decide ((b.Reservations.length:Int)>0)=true
  ·rw[if_pos hp]
   simp only[decide_eq_true_eq] at hp
   rw[za ⟨by omega,by omega,trivial⟩]
   exact fin _ _ _ _ _ t2 ⟨⟨by simp only[List.length_set]; omega,by simp only; omega,by simp only; omega,by simp only; omega⟩,zad h (by omega) rfl⟩
  ·rw[if_neg hp]; exact fin _ _ _ _ _ t2 same
 rw[if_neg c0]
 by_cases c0:(q==4)=true
 ·rw[if_pos c0]
  obtain⟨x1,s3,e3,t3,_,_⟩:=z10 (n:=4) t2 (by omega) (by omega)
  obtain⟨x2,s4,e4,t4,_⟩:=zr (l:=[4400,4679,4680]) t3 (by decide) (by decide)
  obtain⟨x3,s5,e5,t5,_,_⟩:=z12 (lo:=1) (hi:=9) t4 (by omega) (by omega) (by omega)
  obtain⟨x4,s6,e6,t6,_,_⟩:=z10 (n:=2) t5 (by omega) (by omega)
  simp only[e3,e4,e5,e6,obind]
  rw[za ⟨by omega,trivial⟩]
  exact fin _ _ _ _ _ t6 ⟨⟨by simp only; omega,by simp only[List.length_append,List.length_singleton]; omega,by simp only; omega,by simp only; omega⟩,hc⟩
 rw[if_neg c0]
 by_cases c0:(q==5)=true
 ·rw[if_pos c0]
  by_cases hp:decide ((b.Commitments.length:Int)>0)=true
  ·rw[if_pos hp]
   simp only[decide_eq_true_eq] at hp
   rw[za ⟨by omega,by omega,trivial⟩]
   exact fin _ _ _ _ _ t2 ⟨⟨by simp only; omega,by simp only[List.length_set]; omega,by simp only; omega,by simp only; omega⟩,hc⟩
  ·rw[if_neg hp]; exact fin _ _ _ _ _ t2 same
 rw[if_neg c0]
 by_cases c0:(q==6)=true
 ·rw[if_pos c0]
  by_cases hp:decide ((b.Commitments.length:Int)>0)=true
  ·rw[if_pos hp]
   simp only[decide_eq_true_eq] at hp
   obtain⟨i,s3,e3,t3,i1,i2⟩:=z10 (n:=(b.Commitments.length:Int)) t2 (by omega) (by omega)
   obtain⟨x2,s4,e4,t4,_⟩:=zr (l:=[1,100,-1]) t3 (by decide) (by decide)
   simp only[e3,e4,obind]
   rw[za ⟨by omega,by omega,by omega,trivial⟩]
   exact fin _ _ _ _ _ t4 ⟨⟨by simp only; omega,by simp only[List.length_set]; omega,by simp only; omega,by simp only; omega⟩,hc⟩
  ·rw[if_neg hp]; exact fin _ _ _ _ _ t2 same
 rw[if_neg c0]
 by_cases c0:(q==7)=true
 ·rw[if_pos c0]
  obtain⟨x1,s3,e3,t3,_,_⟩:=z10 (n:=4) t2 (by omega) (by omega)
  obtain⟨x2,s4,e4,t4,_⟩:=zr (l:=[4500,5039,5040]) t3 (by decide) (by decide)
  simp only[e3,e4,obind]
  rw[za ⟨by omega,trivial⟩]
  exact fin _ _ _ _ _ t4 ⟨⟨by simp only; omega,by simp only; omega,by simp only[List.length_append,List.length_singleton]; omega,by simp only; omega⟩,hc⟩
 rw[if_neg c0]
 by_cases c0:(q==8)=true
 ·rw[if_pos c0]
  by_cases hp:decide ((b.Verifications.length:Int)>0)=true
  ·rw[if_pos hp]
   simp only[decide_eq_true_eq] at hp
   obtain⟨x2,s4,e4,t4,_⟩:=zr (l:=[0,5039,5040]) t2 (by decide) (by decide)
   simp only[e4,obind]
   rw[za ⟨by omega,by omega,trivial⟩]
   exact fin _ _ _ _ _ t4 ⟨⟨by simp only; omega,by simp only; omega,by simp only[List.length_set]; omega,by simp only; omega⟩,hc⟩
  ·rw[if_neg hp]; exact fin _ _ _ _ _ t2 same
 rw[if_neg c0]
 by_cases c0:(q==9)=true
 ·rw[if_pos c0]
  obtain⟨x1,s3,e3,t3,_,_⟩:=z10 (n:=4) t2 (by omega) (by omega)
  obtain⟨x3,s5,e5,t5,_,_⟩:=z12 (lo:=0) (hi:=2) t3 (by omega) (by omega) (by omega)
  obtain⟨x2,s4,e4,t4,_⟩:=zr (l:=[4700,5039,5040]) t5 (by decide) (by decide)
  simp only[e3,e5,e4,obind]
  rw[za ⟨by omega,trivial⟩]
  exact fin _ _ _ _ _ t4 ⟨⟨by simp only; omega,by simp only; omega,by simp only; omega,by simp only[List.length_append,List.length_singleton]; omega⟩,hc⟩
 rw[if_neg c0]
 by_cases c0:(q==10)=true
 ·rw[if_pos c0]
  by_cases hp:decide ((b.Orders.length:Int)>0)=true
  ·rw[if_pos hp]
   simp only[decide_eq_true_eq] at hp
   rw[za ⟨by omega,by omega,trivial⟩]
   exact fin _ _ _ _ _ t2 ⟨⟨by simp only; omega,by simp only; omega,by simp only; omega,by simp only[List.length_set]; omega⟩,hc⟩
  ·rw[if_neg hp]; exact fin _ _ _ _ _ t2 same
 rw[if_neg c0]
 by_cases hp:decide ((b.Orders.length:Int)>0)=true
 ·rw[if_pos hp]
  simp only[decide_eq_true_eq] at hp
  obtain⟨i,s3,e3,t3,i1,i2⟩:=z10 (n:=(b.Orders.length:Int)) t2 (by omega) (by omega)
  obtain⟨x2,s4,e4,t4,_,_⟩:=z10 (n:=2) t3 (by omega) (by omega)
  simp only[e3,e4,obind]
  rw[za ⟨by omega,by omega,by omega,trivial⟩]
  exact fin _ _ _ _ _ t4 ⟨⟨by simp only; omega,by simp only; omega,by simp only; omega,by simp only[List.length_set]; omega⟩,hc⟩
 ·rw[if_neg hp]; exact fin _ _ _ _ _ t2 same
theorem zc4 (o:TOf):∃ C,F_q1d o=some C∧(C=true→SmO o∧o.Rights.length≤70):=by
 simp only[F_q1d,S_q1d,Scr.den]
 obtain⟨C,hC,hs⟩:=zf0 o.Book
 obtain⟨h1,h2⟩:=zu (body:=fun i s=>(S_q1d_b1 o i s).den) (n:=o.Rights.length) (c:=false) (fun i=>(o.Rights.getD i default).Code.length≤60) (fun i hi hp=>by
  simp only[S_q1d_b1,Scr.den]; rw[if_neg (by rw[decide_eq_true_eq]; omega)]) (fun i hi hp=>by
  simp only[S_q1d_b1,Scr.den]; rw[if_pos (by rw[decide_eq_true_eq]; omega)])
 by_cases h:∀ j,j<o.Rights.length→(o.Rights.getD j default).Code.length≤60
 ·rw[h1 h]
  simp only[outM,hC,zh]
  by_cases h70:o.Rights.length≤70
  ·rw[z1e (by exact⟨by simp; omega,trivial⟩),obind]
   refine⟨_,rfl,fun hc=>?_⟩
   simp only[Bool.and_eq_true,decide_eq_true_eq] at hc
   refine⟨⟨(hs hc.2).small (by omega),by omega,fun r hr=>?_⟩,h70⟩
   obtain⟨i,hi,e⟩:=z1h hr
   have:=h i hi
   rw[e] at this
   omega
  ·rw[z14 (by simp[AllP]; omega),obind]
   exact⟨_,rfl,fun hc=>by simp at hc⟩
 ·rw[h2 h]
  exact⟨false,rfl,fun h=>by cases h⟩
theorem VO.smN {o:TOf} (h:VO o):SmN 200 o.Book:=by
 have h1:=h.val
 have h2:=h1.2.2.2.2.2.2
 refine⟨⟨by omega,by omega,by omega,by omega⟩,fun r hr=>?_⟩
 have:=z5i (h1.1.mem hr).1.2.1
 omega
theorem zb9 {o:TOf} (hv:VO o) {s:TTape} (hs:TapeOk s):∃ o' s',F_q2v o s=some (o',s')∧TapeOk s'∧SmO o':=by
 have hl:=hv.len
 have hsm:=hv.smO
 simp only[F_q2v,S_q2v,Scr.den,Nat.zero_add]
 rw[za ⟨by omega,trivial⟩]
 have sm:∀ (n:Int) (l:List TRi),l.length≤61→(∀ r∈l,r.Code.length≤1000000)→SmO ⟨n,l,o.Book⟩:=fun n l h1 h2=>⟨hsm.1,by simp only; omega,h2⟩
 have st:∀ (l:List TRi) (k:Nat) (x:TRi),(∀ r∈l,r.Code.length≤1000000)→x.Code.length≤1000000→∀ r∈l.set k x,r.Code.length≤1000000:=fun l k x h1 h2 r hr=>by
  rcases List.mem_or_eq_of_mem_set hr with hr | rfl
  ·exact h1 r hr
  ·exact h2
 have hcd:=hsm.2.2
 by_cases hp:decide ((o.Rights.length:Int)>0)=true
 ·rw[if_pos hp]
  simp only[decide_eq_true_eq] at hp
  obtain⟨i,s1,e1,t1,i1,i2⟩:=z10 (n:=(o.Rights.length:Int)) hs (by omega) (by omega)
  obtain⟨q,s2,e2,t2,_,_⟩:=z10 (n:=7) t1 (by omega) (by omega)
  have hi:i.toNat<o.Rights.length:=by omega
  have hci:(o.Rights.getD i.toNat default).Code.length≤1000000:=hcd _ (zm hi)
  simp only[e1,e2,obind]
  by_cases c0:(q==0)=true
  ·rw[if_pos c0]
   obtain⟨x,s3,e3,t3,_⟩:=zr (l:=[0,1,6,7]) t2 (by decide) (by decide)
   simp only[e3,obind]
   rw[za ⟨by omega,trivial⟩]
   exact⟨_,_,rfl,t3,sm _ _ (by omega) hcd⟩
  rw[if_neg c0]
  by_cases c0:(q==1)=true
  ·rw[if_pos c0]
   obtain⟨x,s3,e3,t3,_⟩:=zr (l:=[0,-1,20,1000000000000001]) t2 (by decide) (by decide)
   simp only[e3,obind]
   rw[za ⟨i1,hi,hi,trivial⟩,za ⟨by rw[List.length_set]; omega,trivial⟩]
   exact⟨_,_,rfl,t3,sm _ _ (by rw[List.length_set]; omega) (st _ _ _ hcd hci)⟩
  rw[if_neg c0]
  by_cases c0:(q==2)=true
  ·rw[if_pos c0]
   obtain⟨x,s3,e3,t3,_⟩:=zr (l:=[-1,500,(o.Rights.getD i.toNat default).Granted]) t2 (by simp) (by simp)
   simp only[e3,obind]
   rw[za ⟨i1,hi,hi,trivial⟩,za ⟨by rw[List.length_set]; omega,trivial⟩]
   exact⟨_,_,rfl,t3,sm _ _ (by rw[List.length_set]; omega) (st _ _ _ hcd hci)⟩
  rw[if_neg c0]
  by_cases c0:(q==3)=true
  ·rw[if_pos c0]
   obtain⟨x,s3,e3,t3,hx⟩:=z3x t2
   simp only[e3,obind]
   rw[za ⟨i1,hi,hi,trivial⟩,za ⟨by rw[List.length_set]; omega,trivial⟩]
   exact⟨_,_,rfl,t3,sm _ _ (by rw[List.length_set]; omega) (st _ _ _ hcd (by simp only; omega))⟩
  rw[if_neg c0]
  by_cases c0:(q==4)=true
  ·rw[if_pos c0]
   have h00:0<o.Rights.length:=by omega
   rw[za ⟨h00,h00,by omega,trivial⟩,za ⟨by rw[List.length_append,List.length_singleton]; omega,trivial⟩]
   refine⟨_,_,rfl,t2,sm _ _ (by rw[List.length_append,List.length_singleton]; omega) fun r hr=>?_⟩
   rw[List.mem_append,List.mem_singleton] at hr
   rcases hr with hr | rfl
   ·exact hcd r hr
   ·exact hcd _ (zm h00)
  rw[if_neg c0]
  by_cases c0:(q==5)=true
  ·rw[if_pos c0]
   rw[za ⟨by omega,trivial⟩,za ⟨by omega,trivial⟩]
   exact⟨_,_,rfl,t2,sm _ _ (by rw[List.length_drop]; omega) fun r hr=>hcd r (List.mem_of_mem_drop hr)⟩
  rw[if_neg c0]
  obtain⟨x,e3,t3,hx⟩:=z5q hv.smN (by omega) t2
  have hx1:=hx.1
  simp only at hx1
  simp only[e3,obind]
  rw[za ⟨by omega,trivial⟩,za ⟨by omega,trivial⟩,za ⟨by omega,trivial⟩,za ⟨by omega,trivial⟩,za ⟨by omega,trivial⟩]
  exact⟨_,_,rfl,t3,hx.small (by omega),by simp only; omega,hcd⟩
 ·rw[if_neg hp]
  obtain⟨q,s2,e2,t2,_,_⟩:=z10 (n:=7) hs (by omega) (by omega)
  simp only[e2,obind]
  have hz:∀ r∈([⟨[49],0,0,0,0⟩]:List TRi),r.Code.length≤1000000:=by simp
  have hz1:(([⟨[49],0,0,0,0⟩]:List TRi).getD 0 default).Code.length≤1000000:=by simp
  have hz2:([⟨[49],0,0,0,0⟩]:List TRi).length=1:=rfl
  generalize ([⟨[49],0,0,0,0⟩]:List TRi)=L at hz hz1 hz2 ⊢
  by_cases c0:(q==0)=true
  ·rw[if_pos c0]
   obtain⟨x,s3,e3,t3,_⟩:=zr (l:=[0,1,6,7]) t2 (by decide) (by decide)
   simp only[e3,obind]
   rw[za ⟨by omega,trivial⟩]
   exact⟨_,_,rfl,t3,sm _ _ (by omega) hz⟩
  rw[if_neg c0]
  by_cases c0:(q==1)=true
  ·rw[if_pos c0]
   obtain⟨x,s3,e3,t3,_⟩:=zr (l:=[0,-1,20,1000000000000001]) t2 (by decide) (by decide)
   simp only[e3,obind]
   rw[za ⟨by omega,by omega,trivial⟩,za ⟨by rw[List.length_set]; omega,trivial⟩]
   exact⟨_,_,rfl,t3,sm _ _ (by rw[List.length_set]; omega) (st _ _ _ hz hz1)⟩
  rw[if_neg c0]
  by_cases c0:(q==2)=true
  ·rw[if_pos c0]
   obtain⟨x,s3,e3,t3,_⟩:=zr (l:=[-1,500,(L.getD 0 default).Granted]) t2 (by simp) (by simp)
   simp only[e3,obind]
   rw[za ⟨by omega,by omega,trivial⟩,za ⟨by rw[List.length_set]; omega,trivial⟩]
   exact⟨_,_,rfl,t3,sm _ _ (by rw[List.length_set]; omega) (st _ _ _ hz hz1)⟩
  rw[if_neg c0]
  by_cases c0:(q==3)=true
  ·rw[if_pos c0]
   obtain⟨x,s3,e3,t3,hx⟩:=z3x t2
   simp only[e3,obind]
   rw[za ⟨by omega,by omega,trivial⟩,za ⟨by rw[List.length_set]; omega,trivial⟩]
   exact⟨_,_,rfl,t3,sm _ _ (by rw[List.length_set]; omega) (st _ _ _ hz (by simp only; omega))⟩
  rw[if_neg c0]
  by_cases c0:(q==4)=true
  ·rw[if_pos c0]
   rw[za ⟨by omega,by omega,by omega,trivial⟩,za ⟨by rw[List.length_append,List.length_singleton]; omega,trivial⟩]
   refine⟨_,_,rfl,t2,sm _ _ (by rw[List.length_append,List.length_singleton]; omega) fun r hr=>?_⟩
   rw[List.mem_append,List.mem_singleton] at hr
   rcases hr with hr | rfl
   ·exact hz r hr
   ·exact hz1
  rw[if_neg c0]
  by_cases c0:(q==5)=true
  ·rw[if_pos c0]
   rw[za ⟨by omega,trivial⟩,za ⟨by omega,trivial⟩,za ⟨by omega,trivial⟩]
   exact⟨_,_,rfl,t2,sm _ _ (by rw[List.length_drop]; omega) fun r hr=>hz r (List.mem_of_mem_drop hr)⟩
  rw[if_neg c0]
  obtain⟨x,e3,t3,hx⟩:=z5q hv.smN (by omega) t2
  have hx1:=hx.1
  simp only at hx1
  simp only[e3,obind]
  rw[za ⟨by omega,trivial⟩,za ⟨by omega,trivial⟩,za ⟨by omega,trivial⟩,za ⟨by omega,trivial⟩,za ⟨by omega,trivial⟩]
  exact⟨_,_,rfl,t3,hx.small (by omega),by simp only; omega,hz⟩
end Go.Proofs.YtclaojamgomjbaaGreatDoor
namespace Go.Proofs.YtclaojamgomjbaaGreatDoor
open Go Go.TA
end Go.Proofs.YtclaojamgomjbaaGreatDoor
