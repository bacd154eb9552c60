/- A part of the proof: plain laws of what the functions compute. No condition. -/
import Derived.Test.YtdmddkbngmhepaaGreatDoorP2
import Derived.Lib.ItoaLen
namespace Go.Proofs.YtdmddkbngmhepaaGreatDoor
open Go Go.TA
open Go.IntKind (i64)
def noO:TOf:=⟨0,[],nb⟩
def msgOf (p:TOp):TMe:=⟨0,0,p.C,p.E,p.A,p.Ae,0,0⟩
def hearS (o:TOf) (p:TOp):TOf×Int :=
 if ¬ good p.C=true then (noO,5) else
 if p.E<0\/p.E>99 then (noO,2) else
 if hasR o.H p.C p.E=false/\(o.H.length:Int)=60 then (noO,3) else
 if (learnS (rightV o.H p.C p.E) (msgOf p)).2≠0 then (noO,(learnS (rightV o.H p.C p.E) (msgOf p)).2) else
 (⟨o.L,putL o.H (learnS (rightV o.H p.C p.E) (msgOf p)).1,o.Af⟩,0)
def giveS (o:TOf) (p:TOp):TOf×Int :=
 if ¬ hasR o.H p.C p.E=true then (noO,6) else
 if (returnS (rightV o.H p.C p.E) (usedV o.Af p.C p.E) p.S).2≠0 then (noO,(returnS (rightV o.H p.C p.E) (usedV o.Af p.C p.E) p.S).2) else
 (⟨o.L,putL o.H (returnS (rightV o.H p.C p.E) (usedV o.Af p.C p.E) p.S).1,o.Af⟩,0)
noncomputable def bookS (b:TBo) (p:TOp):TBo×Int :=
 if p.P=1 then reserveS b p.C p.E p.Aa p.S else
 if p.P=2 then commitS b p.Of p.Aa p.S p.Ah p.Aj else
 if p.P=3 then verifyS b p.Of p.Aa p.S else
 if p.P=4 then orderS b p.Of p.Aa else
 if p.P=5 then releaseS b p.Of p.S else
 if p.P=6 then dropS b p.Of p.S else backS b p.Of
noncomputable def stepS (o:TOf) (p:TOp):TOf×Int :=
 if p.P=8 then hearS o p else
 if p.P=7 then giveS o p else
 if (bookS o.Af p).2≠0 then (noO,(bookS o.Af p).2) else
 if p.P=1/\p.S>unusedV o p.C p.E then (noO,15) else
 (⟨o.L,o.H,(bookS o.Af p).1⟩,0)
open Classical in
noncomputable def doS (o:TOf) (p:TOp):TOf×Int :=
 if ¬ VO o\/p.P<1\/p.P>9 then (noO,1) else stepS o p
variable {o:TOf}
theorem VO.srt (h:VO o):Srt o.H:=h.2.2.2.2.1
theorem VO.ok (h:VO o):∀ x∈o.H,RtOk x:=h.2.2.2.1
theorem VO.val (h:VO o):Val o.Af:=h.2.2.1
theorem VO.len (h:VO o):o.H.length<=60:=h.2.1
theorem z3o (l:List TRi) (c:List UInt8) (y:Int):(rightV l c y).C=c/\(rightV l c y).E=y:=by
 by_cases h:hasR l c y=true
 ·exact (z2o h).2
 ·unfold rightV; rw[y5 h]; exact⟨rfl,rfl⟩
variable {l:List TRi} {c:List UInt8}
theorem z98 (_hg:∀ x∈l,RtOk x) (hc:c.length<=1000000) (y:Int):(rightV l c y).C.length<=1000000:=by
 rw[(z3o l c y).1]; exact hc
variable {r:TRi}
theorem zak {m:TMe} (h:(learnS r m).2=0):RtOk r/\tot m.A/\tot m.I/\(learnS r m).1=⟨r.C,r.E,if m.A>r.A then m.A else r.A,if m.I>r.I then m.I else r.I,r.N⟩/\RtOk (learnS r m).1:=by
 unfold learnS at h |-
 split at h
 ·cases h
 ·rename_i h1
  split at h
  ·cases h
  ·rename_i h2
   have h1:=Classical.not_not.mp h1
   have h2:=Classical.not_not.mp h2
   rw[y5 (fun k=>k h1),y5 (fun k=>k h2)]
   refine⟨h1.1,h2.1,h2.2,rfl,?_⟩
   have h3:=h1.1
   unfold RtOk tot at *
   refine⟨h3.1,h3.2.1,?_,?_,?_⟩
   ·simp only; split <;> omega
   ·simp only; split <;> omega
   ·simp only; split <;> omega
variable {n u:Int}
theorem z99 (h:(returnS r u n).2=0):RtOk r/\(0<=u/\u<=r.A-r.N)/\1<=n/\n<=r.A-r.N-u/\(returnS r u n).1=⟨r.C,r.E,r.A,r.I,r.N+n⟩/\RtOk (returnS r u n).1:=by
 unfold returnS at h |-
 split at h
 ·cases h
 ·rename_i h1
  split at h
  ·cases h
  ·rename_i h2
   split at h
   ·cases h
   ·rename_i h3
    have h1:=Classical.not_not.mp h1
    have h2:=Classical.not_not.mp h2
    have h4:=h1.1
    unfold RtOk at h4
    have w1:i64.wrap (r.A-r.N)=r.A-r.N:=wrapId om om
    rw[y5 (fun k=>k h1),y5 (fun k=>k h2),y5 h3]
    obtain⟨h5,h6,h7⟩:=h1
    rw[w1] at h7 h3
    rw[wrapId (n:=r.A-r.N-u) om om] at h3
    rw[wrapId (n:=r.N+n) om om]
    refine⟨h5,⟨h6,h7⟩,h2.1,om,rfl,h4.1,h4.2.1,h4.2.2.1,h4.2.2.2.1,?_⟩
    simp only; omega
theorem zhe {l:List UInt8}:(((parts l).length:Int)==0)=!good l:=by
 rw[<- z2m,y1k]; simp
variable {p:TOp}
theorem zr6 (hv:VO o) (hc:p.C.length<=1000000):F_q5f o p=some (hearS o p):=by
 have hl:=hv.len
 have hr:=z98 hv.ok hc p.E
 simp only[F_q5f,S_q5f,Scr.den,z2r (show p.C.length<=1099511627776 from om),zd2,z4i,z7s hr,obind,z8,zb,zhe]
 unfold hearS
 refine st sj (fun _=>rfl) fun _=>?_
 refine st sj (fun _=>rfl) fun _=>?_
 refine st sj (fun _=>rfl) fun _=>?_
 refine st (by simp only[y1q,ne_eq]; exact Iff.rfl) (fun _=>rfl) fun h=>?_
 have h:=Classical.not_not.mp h
 have h1:=zak h
 rw[show (⟨0,0,p.C,p.E,p.A,p.Ae,0,0⟩:TMe)=msgOf p from rfl,zmz om hv.srt hv.ok h1.2.2.2.2]
 rfl
theorem ze6 (hv:VO o) (hc:p.C.length<=1000000):F_q5g o p=some (giveS o p):=by
 have hl:=hv.len
 have hr:=z98 hv.ok hc p.E
 simp only[F_q5g,S_q5g,Scr.den,zd2,z4i,zdx,z78 hr,obind]
 unfold giveS
 refine st sj (fun _=>rfl) fun _=>?_
 refine st (by simp only[y1q,ne_eq]) (fun _=>rfl) fun h=>?_
 have h:=Classical.not_not.mp h
 have h1:=z99 h
 rw[zmz om hv.srt hv.ok h1.2.2.2.2.2]
 rfl
variable {b:TBo}
theorem zr7 (hb:Small b) (hc:p.C.length<=1000000):F_q5r b p=some (bookS b p):=by
 simp only[F_q5r,S_q5r,Scr.den,zkk hb hc,zmp hb,zmq hb,zov hb,zkl hb,zr0 hb,zr1 hb,obind]
 unfold bookS
 refine st (by simp only[y13]) (fun _=>rfl) fun _=>?_
 refine st (by simp only[y13]) (fun _=>rfl) fun _=>?_
 refine st (by simp only[y13]) (fun _=>rfl) fun _=>?_
 refine st (by simp only[y13]) (fun _=>rfl) fun _=>?_
 refine st (by simp only[y13]) (fun _=>rfl) fun _=>?_
 refine st (by simp only[y13]) (fun _=>rfl) fun _=>rfl
variable {d:Int}
theorem zr8 {a:Bool} {x:Int} {_:Decidable (AllP [a=true])}:(a&&decide (n>if AllP [a=true] then x else d))=(a&&decide (n>x)):=by
 cases a
 ·rfl
 ·rw[y6 ⟨rfl,trivial⟩]
theorem zr9 (hv:VO o) (hs:SmO o) (hc:p.C.length<=1000000):F_q3r o p=some (stepS o p):=by
 open Classical in simp only[F_q3r,S_q3r,Scr.den,zr6 hv hc,ze6 hv hc,zr7 hs.1 hc,zaj,zt,obind,zb,zr8]
 unfold stepS
 refine st (by simp only[y13]) (fun _=>rfl) fun _=>?_
 refine st (by simp only[y13]) (fun _=>rfl) fun _=>?_
 refine st (by simp only[y1q,ne_eq]) (fun _=>rfl) fun _=>?_
 refine st (by simp only[yl,y13,y7]) (fun _=>rfl) fun _=>rfl
theorem zce (l:List TRi) (p:Nat) (hp:p<=l.length) (z r:TRi) :
  (copyL (l++[z]) (0+(p+1)) (min ((l++[z]).length-p) ((l++[z]).length-(p+1))) (fun i=>(l++[z]).getD ((0+p)+i) default)).set (0+p) r=insL l p r:=by
 refine y3b (by simp[copyL,insL]; omega) fun i h1 h2=>?_
 have hi:i<l.length+1:=by rw[zo] at h2; exact h2
 rw[<- z13 h2,z1h hp,y3x]
 by_cases e:i<p
 ·rw[y5 om,y6 e]
  simp only[copyL,y3l,y3d]
  rw[y5 om,y8,y8,ym om]
 ·by_cases e2:i=p
  ·rw[y6 om,y5 e,y6 e2]
  ·rw[y5 om,y5 e,y5 e2]
   simp only[copyL,y3l,y3d,yo,y22]
   rw[y6 om,show 0+p+(i-(0+(p+1)))=i-1 from om,y8,y8,ym om]
theorem zn0 (hv:VO o) {q:(TRi×Int)} (hr:RtOk q.1) (hn:hasR o.H q.1.C q.1.E=false) :
  iterM (fun s=>(S_q1o_b1 o q s).den) 0=some (.next (posR o.H q.1:Int)):=by
 have hl:=hv.len
 have hp:=z6l o.H q.1
 obtain⟨s,e,hJ⟩:=z2k (step:=fun s=>(S_q1o_b1 o q s).den) (fun s=>(61-s).toNat) (fun s=>0<=s/\s<=(posR o.H q.1:Int)) (fun s=>s=(posR o.H q.1:Int)) (fun s hI=>by
  obtain⟨i,rfl⟩:=Int.eq_ofNat_of_zero_le hI.1
  have hi:i<=posR o.H q.1:=om
  simp only[S_q1o_b1,Scr.den,yh,yu,z8,zb]
  by_cases h:i<o.H.length
  ·have hg:=hv.ok _ (z7 h)
   rw[y6 sk,z3y hg.1 hr.1,obind,z6 ⟨om,h,h,trivial⟩,z6 ⟨fun _=>om,fun _=>h,fun _=>h,trivial⟩]
   have hc:=z8f (a:=o.H.getD i default) (b:=q.1) (.inl hg.1)
   have hne:cmpR (o.H.getD i default) q.1≠0:=fun h0=>by
    obtain⟨k1,k2⟩:=(z5g hg.1 hr.1).1 h0
    have:hasR o.H q.1.C q.1.E=true:=has_iff.2 ⟨_,z7 h,k1,k2⟩
    rw[hn] at this; cases this
   by_cases hip:i<posR o.H q.1
   ·left
    have hlt:=hc.1 (zb3 hip)
    rw[y5 (by
     simp only[yc,yl,y7,y13]
     exact fun k=>ltr hlt (k.imp id fun k=>⟨k.1,om⟩)),wrapId om om]
    exact⟨_,rfl,⟨om,om⟩,om⟩
   ·right
    have hge:0<=cmpR (o.H.getD i default) q.1:=by
     have:i=posR o.H q.1:=om
     subst this; exact zb4 h
    rw[y6 (by
     have k1:¬ _:=fun k=>absurd (hc.2 k) om
     have k2:¬ (lexC (parts (o.H.getD i default).C) (parts q.1.C)=0/\(o.H.getD i default).E=q.1.E):=fun k=>hne ((z5g hg.1 hr.1).2 ⟨z7o hg.1 hr.1 (z2u k.1),k.2⟩)
     simp only[yc,yl,y7,y13]
     rcases ltr' k1 with k | ⟨k,k'⟩
     ·exact .inl k
     ·exact .inr ⟨k,by have:¬ _:=fun e=>k2 ⟨k,e⟩; omega⟩)]
    exact⟨_,rfl,om⟩
  ·right
   rw[y5 (by simpa using h)]
   exact⟨_,rfl,om⟩) _ 0 (y49 _) ⟨om,om⟩
 rw[e,hJ]
theorem zih (hv:VO o) (hc:p.C.length<=1000000):F_q1o o p=some (hearS o p):=by
 have hl:=hv.len
 have hr:=z98 hv.ok hc p.E
 simp only[F_q1o,S_q1o,Scr.den,z2q (show p.C.length<4611686018427387904 from om),at_eq,z1z,zhc hr,obind,z8,zb]
 unfold hearS
 refine st sj (fun _=>rfl) fun _=>?_
 refine st sj (fun _=>rfl) fun _=>?_
 refine st (by cases hh:hasR o.H p.C p.E <;> simp <;> (try exact fun h1=>absurd h1 (y2q.2 (y1v _)))) (fun _=>rfl) fun _=>?_
 refine st (by simp only[y1q,ne_eq]; exact Iff.rfl) (fun _=>rfl) fun h=>?_
 have h:=Classical.not_not.mp h
 have h1:=zak h
 rw[show (⟨0,0,p.C,p.E,p.A,p.Ae,0,0⟩:TMe)=msgOf p from rfl,z6 ⟨om,trivial⟩]
 have hcy:(learnS (rightV o.H p.C p.E) (msgOf p)).1.C=p.C/\(learnS (rightV o.H p.C p.E) (msgOf p)).1.E=p.E:=by rw[h1.2.2.2.1]; exact z3o _ _ _
 generalize hq:learnS (rightV o.H p.C p.E) (msgOf p)=q at h h1 hcy |-
 have hlen:=zhd o.H q.1
 have hp:=z6l o.H q.1
 unfold putL at hlen |-
 rw[hcy.1,hcy.2] at hlen |-
 by_cases hh:hasR o.H p.C p.E=true
 ·have h3:=(z3c hh).1
  rw[y6 hh] at hlen
  simp only[y6 hh]
  rw[y5 sj]
  simp only[outM,yh,yu]
  rw[z6 ⟨om,h3,h3,trivial⟩,z6 ⟨by rw[yb]; omega,trivial⟩]
 ·rw[y5 hh] at hlen
  simp only[y5 hh]
  have hn:hasR o.H q.1.C q.1.E=false:=by rw[hcy.1,hcy.2]; simpa using hh
  have hw:(i64.wrap ((posR o.H q.1:Int)+1)).toNat=posR o.H q.1+1:=by rw[wrapId om om]; omega
  have hw':i64.wrap ((posR o.H q.1:Int)+1)=(posR o.H q.1:Int)+1:=wrapId om om
  rw[y6 dk,zn0 hv h1.2.2.2.2 hn]
  simp only[outM,yh,hw]
  rw[z6 ⟨om,trivial⟩,z6 ⟨by rw[hw']; omega,by rw[yo,y22]; omega,om,by rw[yo,y22]; omega,trivial⟩]
  simp only[yh]
  rw[zce o.H (posR o.H q.1) hp]
  rw[zo] at hlen
  rw[z6 ⟨om,by rw[zm,yo,y22]; omega,by rw[zm,yo,y22]; omega,trivial⟩,z6 ⟨by rw[zo]; omega,trivial⟩]
theorem zf7 (hs:SmO o) (hc:p.C.length<=1000000):F_q3z o p=some (doS o p):=by
 simp only[F_q3z,S_q3z,Scr.den,z77 hs,ze0 hs.1 hc,zfs hs.1,zft hs.1,zh4 hs.1,ze1 hs.1,zib hs.1,zic hs.1,z9r,z45,at_eq,obind,zb]
 by_cases hv:VO o
 ·rw[y5 (by simp[hv])]
  have hl:=hv.len
  have fin:∀ x:TBo×Int,outM (some (Out.next (x.1,x.2))) (fun (s:TBo×Int)=>if (s.2 != 0)=true then some (noO,s.2) else some ((⟨o.L,o.H,s.1⟩:TOf),(0:Int))) some=some (if x.2≠0 then (noO,x.2) else (⟨o.L,o.H,x.1⟩,0)):=fun x=>by
   simp only[outM]
   by_cases h:x.2=0 <;> simp[h]
  have hd:∀ {k:Int},p.P=k->1<=k->k<=9->doS o p=stepS o p:=fun h h1 h2=>by
   unfold doS; rw[y5 (fun k=>k.elim (fun k=>k hv) fun k=>om)]
  by_cases c1:p.P=1
  ·rw[y6 (by simpa using c1),hd c1 om om]
   unfold stepS bookS
   rw[y5 om,y5 om,y6 c1]
   generalize reserveS o.Af p.C p.E p.Aa p.S=x
   by_cases hx:x.2=0
   ·rw[zf (by exact⟨by simp[hx],trivial⟩),obind]
    by_cases hu:p.S>unusedV o p.C p.E
    ·rw[y6 (by simp[hx]; exact hu),y5 (by simp[hx]),y6 ⟨c1,hu⟩]
     exact fin (x.1,15)
    ·rw[y5 (by simp[hx]; exact y2q.1 hu),y5 (by simp[hx]),y5 (fun k=>hu k.2)]
     rw[show (⟨o.L,o.H,x.1⟩,(0:Int))=if x.2≠0 then (noO,x.2) else (⟨o.L,o.H,x.1⟩,0) by rw[y5 (by simp[hx])]]
     exact fin x
   ·rw[zq (by simp[AllP,hx]),obind,y5 (by simp[hx]),y6 hx]
    rw[show (noO,x.2)=if x.2≠0 then (noO,x.2) else (⟨o.L,o.H,x.1⟩,0) by rw[y6 hx]]
    exact fin x
  rw[y5 (by simpa using c1)]
  have hb:∀ {k:Int} (x:TBo×Int),p.P=k->2<=k->k<=9->k≠7->k≠8->bookS o.Af p=x->outM (some (Out.next (x.1,x.2))) (fun (s:TBo×Int)=>if (s.2 != 0)=true then some (noO,s.2) else some ((⟨o.L,o.H,s.1⟩:TOf),(0:Int))) some=some (doS o p):=fun x hk h1 h2 h3 h4 e=>by
   have h5:stepS o p=if x.2≠0 then (noO,x.2) else (⟨o.L,o.H,x.1⟩,0):=by
    unfold stepS
    rw[y5 (show ¬ p.P=8 from om),y5 (show ¬ p.P=7 from om),e,y5 (fun k:p.P=1/\_=>c1 k.1)]
   rw[hd hk om h2,fin,h5]
  by_cases c2:p.P=2
  ·rw[y6 (by simpa using c2)]
   exact hb _ c2 om om om om (by unfold bookS; rw[y5 c1,y6 c2])
  rw[y5 (by simpa using c2)]
  by_cases c3:p.P=3
  ·rw[y6 (by simpa using c3)]
   exact hb _ c3 om om om om (by unfold bookS; rw[y5 c1,y5 c2,y6 c3])
  rw[y5 (by simpa using c3)]
  by_cases c4:p.P=4
  ·rw[y6 (by simpa using c4)]
   exact hb _ c4 om om om om (by unfold bookS; rw[y5 c1,y5 c2,y5 c3,y6 c4])
  rw[y5 (by simpa using c4)]
  by_cases c5:p.P=5
  ·rw[y6 (by simpa using c5)]
   exact hb _ c5 om om om om (by unfold bookS; rw[y5 c1,y5 c2,y5 c3,y5 c4,y6 c5])
  rw[y5 (by simpa using c5)]
  by_cases c6:p.P=6
  ·rw[y6 (by simpa using c6)]
   exact hb _ c6 om om om om (by unfold bookS; rw[y5 c1,y5 c2,y5 c3,y5 c4,y5 c5,y6 c6])
  rw[y5 (by simpa using c6)]
  by_cases c9:p.P=9
  ·rw[y6 (by simpa using c9)]
   exact hb _ c9 om om om om (by unfold bookS; rw[y5 c1,y5 c2,y5 c3,y5 c4,y5 c5,y5 c6])
  rw[y5 (by simpa using c9)]
  by_cases c8:p.P=8
  ·rw[y6 (by simpa using c8),zih hv hc,hd c8 om om]
   unfold stepS
   rw[y6 c8]
   rfl
  rw[y5 (by simpa using c8)]
  by_cases c7:p.P=7
  ·rw[y6 (by simpa using c7),hd c7 om om]
   unfold stepS giveS
   rw[y5 c8,y6 c7]
   by_cases hh:hasR o.H p.C p.E=true
   ·have h3:=(z3c hh).1
    have hg:=hv.ok _ (z7 h3)
    have hrt:o.H.getD (rix o.H p.C p.E) default=rightV o.H p.C p.E:=by unfold rightV; rw[y6 hh]
    simp only[y6 hh,yh,yu,zfu hg.len,obind]
    rw[y5 sj,z6 ⟨om,h3,trivial⟩,hrt,y5 (show ¬ ¬ hasR o.H p.C p.E=true from fun k=>k hh)]
    by_cases hx:(returnS (rightV o.H p.C p.E) (usedV o.Af p.C p.E) p.S).2=0
    ·have h1:=z99 hx
     have hcy:(returnS (rightV o.H p.C p.E) (usedV o.Af p.C p.E) p.S).1.C=p.C/\(returnS (rightV o.H p.C p.E) (usedV o.Af p.C p.E) p.S).1.E=p.E:=by rw[h1.2.2.2.2.1]; exact z3o _ _ _
     rw[y5 (by simp[hx]),z6 ⟨om,trivial⟩,z6 ⟨h3,trivial⟩,z6 ⟨by rw[yb]; omega,trivial⟩,y5 (by simp[hx])]
     unfold putL
     rw[hcy.1,hcy.2,y6 hh]
     rfl
    ·rw[y6 (by simpa using hx),y6 hx]
     rfl
   ·simp only[y5 hh]
    rw[y6 dk,y6 hh]
    rfl
  rw[y5 (by simpa using c7)]
  have:doS o p=(noO,1):=by
   unfold doS
   split
   ·rfl
   ·rename_i h
    exact absurd om h
  rw[this]
  rfl
 ·rw[y6 (by simp[hv])]
  unfold doS
  rw[y6 (.inl hv)]
  rfl
def usedE (b:TBo) (c:List UInt8) (y:Int):Int:=sm b.B (fun r=>r.C==c&&r.E==y) (fun r=>r.S-r.Ac-rel b r.L)
theorem zn1 (h:Val b) (n:Int):0<=rel b n/\rel b n<=cmt b n:=by
 have hc:∀ c∈b.F,0<=c.Ac/\c.Ac<=c.S:=fun c hc=>(h.2.1.mem hc).1.2.2.2.2.1
 exact⟨zf3 fun c k=>(hc c k).1,zqw fun c k=>(hc c k).2⟩
theorem z2h (h:Val b) (c:List UInt8) (y:Int):usedV b c y=usedE b c y/\0<=usedE b c y/\usedE b c y<=200000000000000:=by
 have hb:0<=usedE b c y/\usedE b c y<=200 * 1000000000000:=zkm (fun r hr=>by
  have h1:=z95 h hr
  have h2:=zn1 h r.L
  have h3:=(h.1.mem hr).1.2.2.2.2.2
  unfold amtP at h3
  omega) h.2.2.2.2.2.2.1 om
 refine⟨?_,hb.1,om⟩
 unfold usedV
 change i64.wrap (usedE b c y)=_
 exact wrapId om om
theorem zp0 (h:Val b) (hn:(b.B.length:Int)<n):rel b n=0:=by
 have h1:=zn1 h n
 have h2:=zh8 h hn
 omega
variable {y:Int} {code:List UInt8}
theorem zhf (h0:(reserveS b code y d n).2=0):Val b/\good code=true/\((0<=y/\y<=99)/\dayP d/\amtP n)/\yr d=y/\(b.B.length:Int)≠200/\(reserveS b code y d n).1=withR b (b.B++[⟨b.B.length+1,code,y,d,n,0⟩]):=by
 unfold reserveS at h0 |-
 obtain⟨e,c1⟩:=zp h0 dk; rw[e] at h0 |-; clear e
 obtain⟨e,c2⟩:=zp h0 dk; rw[e] at h0 |-; clear e
 obtain⟨e,c3⟩:=zp h0 dk; rw[e] at h0 |-; clear e
 obtain⟨e,c4⟩:=zp h0 dk; rw[e] at h0 |-; clear e
 obtain⟨e,c5⟩:=zp h0 dk; rw[e] at h0 |-; clear e
 exact⟨Classical.not_not.mp c1,by simpa using c2,Classical.not_not.mp c3,Classical.not_not.mp c4,c5,rfl⟩
theorem zii (h:Val b) (hg:good code=true) (hy:0<=y/\y<=99) (hd:dayP d) (hn:amtP n) (hyr:yr d=y) (hl:(b.B.length:Int)≠200):reserveS b code y d n=(withR b (b.B++[⟨b.B.length+1,code,y,d,n,0⟩]),0):=by
 unfold reserveS
 rw[y5 (fun k=>k h),y5 (by simp[hg]),y5 (fun k=>k ⟨hy,hd,hn⟩),y5 (fun k=>k hyr),y5 hl]
theorem zij {r p:Int} (h0:(commitS b r d n p u).2=0):Val b/\Val (commitS b r d n p u).1/\(commitS b r d n p u).1.B=b.B:=by
 unfold commitS at h0 |-
 obtain⟨e,c1⟩:=zp h0 dk; rw[e] at h0 |-; clear e
 obtain⟨e,c2⟩:=zp h0 dk; rw[e] at h0 |-; clear e
 obtain⟨e,c3⟩:=zp h0 dk; rw[e] at h0 |-; clear e
 obtain⟨e,c4⟩:=zp h0 dk; rw[e] at h0 |-; clear e
 obtain⟨e,c5⟩:=zp h0 dk; rw[e] at h0 |-; clear e
 obtain⟨e,c6⟩:=zp h0 dk; rw[e] at h0 |-; clear e
 obtain⟨e,c7⟩:=zp h0 dk; rw[e] at h0 |-; clear e
 have c3:=Classical.not_not.mp c3
 exact⟨Classical.not_not.mp c1,zkn (Classical.not_not.mp c1) (Classical.not_not.mp c2) c3.1 c3.2.1 c3.2.2.1 c3.2.2.2 (Classical.not_not.mp c4) om om c7,rfl⟩
theorem zik {c:Int} (h0:(verifyS b c d n).2=0):Val b/\Val (verifyS b c d n).1/\(verifyS b c d n).1.B=b.B:=by
 unfold verifyS at h0 |-
 obtain⟨e,c1⟩:=zp h0 dk; rw[e] at h0 |-; clear e
 obtain⟨e,c2⟩:=zp h0 dk; rw[e] at h0 |-; clear e
 obtain⟨e,c3⟩:=zp h0 dk; rw[e] at h0 |-; clear e
 obtain⟨e,c4⟩:=zp h0 dk; rw[e] at h0 |-; clear e
 obtain⟨e,c5⟩:=zp h0 dk; rw[e] at h0 |-; clear e
 obtain⟨e,c6⟩:=zp h0 dk; rw[e] at h0 |-; clear e
 obtain⟨e,c7⟩:=zp h0 dk; rw[e] at h0 |-; clear e
 have c3:=Classical.not_not.mp c3
 exact⟨Classical.not_not.mp c1,zko (Classical.not_not.mp c1) (Classical.not_not.mp c2) c3.1 c3.2 om om om c7,rfl⟩
variable {v:Int}
theorem zkq (h0:(orderS b v d).2=0):Val b/\Val (orderS b v d).1/\(orderS b v d).1.B=b.B:=by
 unfold orderS at h0 |-
 obtain⟨e,c1⟩:=zp h0 dk; rw[e] at h0 |-; clear e
 obtain⟨e,c2⟩:=zp h0 dk; rw[e] at h0 |-; clear e
 obtain⟨e,c3⟩:=zp h0 dk; rw[e] at h0 |-; clear e
 obtain⟨e,c4⟩:=zp h0 dk; rw[e] at h0 |-; clear e
 obtain⟨e,c5⟩:=zp h0 dk; rw[e] at h0 |-; clear e
 obtain⟨e,c6⟩:=zp h0 dk; rw[e] at h0 |-; clear e
 obtain⟨e,c7⟩:=zp h0 dk; rw[e] at h0 |-; clear e
 refine⟨Classical.not_not.mp c1,zms (Classical.not_not.mp c1) (Classical.not_not.mp c2) (Classical.not_not.mp c3) om om (fun hl=>⟨?_,om⟩) c7,rfl⟩
 cases hb:(lastV b v).Al with
 | true=>rfl
 | false=>exact absurd ⟨hl,hb⟩ c5
theorem zhg {r:Int} (h0:(releaseS b r n).2=0):Val b/\Val (releaseS b r n).1/\amtP n/\(1<=r/\r<=b.B.length)/\n<=leftN b r/\(releaseS b r n).1=withR b (b.B.set (r-1).toNat ⟨(rAt b r).L,(rAt b r).C,(rAt b r).E,(rAt b r).Aa,(rAt b r).S,i64.wrap ((rAt b r).Ac+n)⟩):=by
 unfold releaseS at h0 |-
 obtain⟨e,c1⟩:=zp h0 dk; rw[e] at h0 |-; clear e
 obtain⟨e,c2⟩:=zp h0 dk; rw[e] at h0 |-; clear e
 obtain⟨e,c3⟩:=zp h0 dk; rw[e] at h0 |-; clear e
 obtain⟨e,c4⟩:=zp h0 dk; rw[e] at h0 |-; clear e
 exact⟨Classical.not_not.mp c1,zie (Classical.not_not.mp c1) (Classical.not_not.mp c2) (Classical.not_not.mp c3) om,Classical.not_not.mp c3,Classical.not_not.mp c2,om,rfl⟩
theorem zn2 {c:Int} (h0:(dropS b c n).2=0):Val b/\Val (dropS b c n).1/\amtP n/\(dropS b c n).1.B=b.B:=by
 unfold dropS at h0 |-
 obtain⟨e,c1⟩:=zp h0 dk; rw[e] at h0 |-; clear e
 obtain⟨e,c2⟩:=zp h0 dk; rw[e] at h0 |-; clear e
 obtain⟨e,c3⟩:=zp h0 dk; rw[e] at h0 |-; clear e
 obtain⟨e,c4⟩:=zp h0 dk; rw[e] at h0 |-; clear e
 exact⟨Classical.not_not.mp c1,zox (Classical.not_not.mp c1) (Classical.not_not.mp c2) (Classical.not_not.mp c3) om,Classical.not_not.mp c3,rfl⟩
theorem zn3 (h0:(backS b v).2=0):Val b/\Val (backS b v).1/\(backS b v).1.B=b.B/\(backS b v).1.F=b.F:=by
 unfold backS at h0 |-
 obtain⟨e,c1⟩:=zp h0 dk; rw[e] at h0 |-; clear e
 obtain⟨e,c2⟩:=zp h0 dk; rw[e] at h0 |-; clear e
 obtain⟨e,c3⟩:=zp h0 dk; rw[e] at h0 |-; clear e
 exact⟨Classical.not_not.mp c1,zoy (Classical.not_not.mp c1) om,rfl,rfl⟩
theorem ze7 (h:Val b) {r:Int} (hn0:amtP n) (h0:(releaseS b r n).2=0) (code:List UInt8) (y:Int):(1<=r/\r<=b.B.length)/\usedV (releaseS b r n).1 code y=i64.wrap (usedV b code y-if mt b code y r=true then n else 0):=by
 have hn:1<=n/\n<=1000000000000:=hn0
 unfold releaseS at h0 |-
 obtain⟨e,_⟩:=zp h0 dk; rw[e] at h0 |-; clear e
 obtain⟨e,hr⟩:=zp h0 dk; rw[e] at h0 |-; clear e
 obtain⟨e,_⟩:=zp h0 dk; rw[e] at h0 |-; clear e
 obtain⟨e,_⟩:=zp h0 dk; rw[e] at h0 |-; clear e
 have hr:=Classical.not_not.mp hr
 refine⟨hr,?_⟩
 have hk:(r-1).toNat<b.B.length:=om
 have f:=(h.1.at hr).2.2.2.2.2
 have f6:=f.1
 unfold amtP at f6
 have hw:i64.wrap ((rAt b r).Ac+n)=(rAt b r).Ac+n:=wrapId om om
 rw[hw]
 unfold usedV
 rw[z2y]
 congr 1
 change sm (b.B.set (r-1).toNat _) _ (fun r=>r.S-r.Ac-rel b r.L)=_
 rw[zgy hk _ _ _ default]
 change _-(if ((rAt b r).C==code&&(rAt b r).E==y)=true then (rAt b r).S-(rAt b r).Ac-rel b (rAt b r).L else 0)+(if ((rAt b r).C==code&&(rAt b r).E==y)=true then (rAt b r).S-((rAt b r).Ac+n)-rel b (rAt b r).L else 0)=_-(if ((rAt b r).C==code&&(rAt b r).E==y)=true then n else 0)
 split <;> omega
theorem zil (h:Val b) {c:Int} (hn0:amtP n) (h0:(dropS b c n).2=0) (code:List UInt8) (y:Int):(1<=c/\c<=b.F.length)/\usedV (dropS b c n).1 code y=i64.wrap (usedV b code y-if mt b code y (cAt b c).X=true then n else 0):=by
 have hn:1<=n/\n<=1000000000000:=hn0
 unfold dropS at h0 |-
 obtain⟨e,_⟩:=zp h0 dk; rw[e] at h0 |-; clear e
 obtain⟨e,hr⟩:=zp h0 dk; rw[e] at h0 |-; clear e
 obtain⟨e,_⟩:=zp h0 dk; rw[e] at h0 |-; clear e
 obtain⟨e,_⟩:=zp h0 dk; rw[e] at h0 |-; clear e
 have hr:=Classical.not_not.mp hr
 refine⟨hr,?_⟩
 have hk:(c-1).toNat<b.F.length:=om
 have f:=(h.2.1.at hr)
 have f4:=f.2.2.2.1
 have f5:=f.2.2.2.2.1
 have f2:=f.2.1
 unfold amtP at f4
 have hw:i64.wrap ((cAt b c).Ac+n)=(cAt b c).Ac+n:=wrapId om om
 rw[hw]
 generalize hX:withC b (b.F.set (c-1).toNat ⟨(cAt b c).L,(cAt b c).X,(cAt b c).Aa,(cAt b c).S,(cAt b c).Ac+n,(cAt b c).Ah,(cAt b c).Aj⟩)=X
 have hrel:∀ m,rel X m=rel b m+if ((cAt b c).X==m)=true then n else 0:=fun m=>by
  rw[<- hX]
  unfold rel withC
  simp only
  rw[zgy hk _ _ _ default]
  change _-(if ((cAt b c).X==m)=true then (cAt b c).Ac else 0)+(if ((cAt b c).X==m)=true then (cAt b c).Ac+n else 0)=_
  split <;> omega
 have e1:usedV X code y=i64.wrap (sm b.B (fun r=>r.C==code&&r.E==y) (fun r=>r.S-r.Ac-rel X r.L)):=by
  unfold usedV
  rw[show X.B=b.B by rw[<- hX]; rfl]
 rw[e1]
 unfold usedV
 rw[z2y]
 congr 1
 simp only[hrel]
 have e2:∀ r:TRe,r.S-r.Ac-(rel b r.L+if ((cAt b c).X==r.L)=true then n else 0)=(r.S-r.Ac-rel b r.L)-(if ((cAt b c).X==r.L)=true then n else 0):=fun r=>om
 simp only[e2]
 rw[zsk]
 congr 1
 have hi:((cAt b c).X-1).toNat<b.B.length:=om
 have hnum:(b.B.getD ((cAt b c).X-1).toNat default).L=(cAt b c).X:=(h.1.at f2).1
 have:=zmv (num:=fun r:TRe=>r.L) (q:=mt b code y) (p:=fun r=>r.C==code&&r.E==y) n b.B ((cAt b c).X-1).toNat hi (fun j hj hji=>by
  have:=(h.1 j hj).1
  rw[hnum]; omega) (zsm h code y (z7 hi)).symm
 simp only[hnum] at this
 exact this
def Eff (b:TBo) (p:TOp) (b':TBo):Prop:=Val b/\Val b' /\
 (∀ c y,usedE b' c y<=usedE b c y+if p.P=1/\p.C=c/\p.E=y then p.S else 0) /\
 (p.P=1->1<=p.S/\p.S<=1000000000000/\∀ c y,usedE b' c y=usedE b c y+if p.C=c/\p.E=y then p.S else 0) /\
 (∀ x∈b'.B,(∃ z∈b.B,z.C=x.C/\z.E=x.E)\/(p.P=1/\x.C=p.C/\x.E=p.E)) /\
 b'.B.length<=b.B.length+1
theorem z79 {b':TBo} (hv:Val b) (hv':Val b') (hR:b'.B=b.B) (hk:p.P≠1) (hu:∀ c y,usedE b' c y<=usedE b c y):Eff b p b' :=
 ⟨hv,hv',fun c y=>by rw[y5 (fun k=>hk k.1)]; have:=hu c y; omega,fun k=>absurd k hk,fun x hx=>by rw[hR] at hx; exact .inl ⟨x,hx,rfl,rfl⟩,by rw[hR]; omega⟩
theorem zfv (h:Val b) (code:List UInt8) (y d n:Int) (c:List UInt8) (z:Int):usedE (withR b (b.B++[⟨b.B.length+1,code,y,d,n,0⟩])) c z=usedE b c z+if code=c/\y=z then n else 0:=by
 unfold usedE
 have e:(withR b (b.B++[⟨b.B.length+1,code,y,d,n,0⟩])).B=b.B++[⟨b.B.length+1,code,y,d,n,0⟩]:=rfl
 have e2:∀ m,rel (withR b (b.B++[⟨b.B.length+1,code,y,d,n,0⟩])) m=rel b m:=fun m=>rfl
 simp only[e,e2]
 rw[z7n,z12,zcy]
 simp only[zp0 h (show (b.B.length:Int)<(b.B.length:Int)+1 from om),yl,y13]
 by_cases k:code=c/\y=z
 ·rw[y6 k,y6 k]; omega
 ·rw[y5 k,y5 k]; omega
theorem zp1 (h0:(bookS b p).2=0):Eff b p (bookS b p).1:=by
 unfold bookS at h0 |-
 by_cases c1:p.P=1
 ·rw[y6 c1] at h0 |-
  obtain⟨hv,hg,⟨hy,hd,hn⟩,hyr,hl,e⟩:=zhf h0
  rw[e]
  unfold amtP at hn
  have hu:=zfv hv p.C p.E p.Aa p.S
  refine⟨hv,zid hv hg hy hd hn hyr hl,fun c y=>?_,fun _=>⟨hn.1,hn.2,hu⟩,fun x hx=>?_,by simp[withR]⟩
  ·rw[hu]
   by_cases k:p.C=c/\p.E=y
   ·rw[y6 k,y6 ⟨c1,k⟩]; omega
   ·rw[y5 k,y5 (fun q=>k q.2)]; omega
  ·simp only[withR,y1j,y2z] at hx
   rcases hx with hx | rfl
   ·exact .inl ⟨x,hx,rfl,rfl⟩
   ·exact .inr ⟨c1,rfl,rfl⟩
 rw[y5 c1] at h0 |-
 have conv:∀ {b':TBo},Val b->Val b'->(∀ c y,usedV b' c y=usedV b c y)->∀ c y,usedE b' c y<=usedE b c y:=fun h h' e c y=>by
  have h1:=z2h h c y
  have h2:=z2h h' c y
  have:=e c y
  omega
 by_cases c2:p.P=2
 ·rw[y6 c2] at h0 |-
  obtain⟨hv,hv',hR⟩:=zij h0
  exact z79 hv hv' hR c1 (conv hv hv' fun c y=>zh9 h0 c y)
 rw[y5 c2] at h0 |-
 by_cases c3:p.P=3
 ·rw[y6 c3] at h0 |-
  obtain⟨hv,hv',hR⟩:=zik h0
  exact z79 hv hv' hR c1 (conv hv hv' fun c y=>zha h0 c y)
 rw[y5 c3] at h0 |-
 by_cases c4:p.P=4
 ·rw[y6 c4] at h0 |-
  obtain⟨hv,hv',hR⟩:=zkq h0
  exact z79 hv hv' hR c1 (conv hv hv' fun c y=>zif h0 c y)
 rw[y5 c4] at h0 |-
 by_cases c5:p.P=5
 ·rw[y6 c5] at h0 |-
  obtain⟨hv,hv',hn,hr,hL,e⟩:=zhg h0
  have hu:∀ c y,usedE (releaseS b p.Of p.S).1 c y<=usedE b c y:=fun c y=>by
   have h1:=z2h hv c y
   have h2:=z2h hv' c y
   have h3:=(ze7 hv hn h0 c y).2
   unfold amtP at hn
   split at h3
   ·rw[wrapId om om] at h3; omega
   ·rw[wrapId om om] at h3; omega
  refine⟨hv,hv',fun c y=>by rw[y5 (fun k=>c1 k.1)]; have:=hu c y; omega,fun k=>absurd k c1,fun x hx=>?_,by rw[e]; simp[withR]⟩
  rw[e] at hx
  left
  rcases y29 hx with hx | rfl
  ·exact⟨x,hx,rfl,rfl⟩
  ·exact⟨rAt b p.Of,ze2 hr,rfl,rfl⟩
 rw[y5 c5] at h0 |-
 by_cases c6:p.P=6
 ·rw[y6 c6] at h0 |-
  obtain⟨hv,hv',hn,hR⟩:=zn2 h0
  refine z79 hv hv' hR c1 fun c y=>?_
  have h1:=z2h hv c y
  have h2:=z2h hv' c y
  have h3:=(zil hv hn h0 c y).2
  unfold amtP at hn
  split at h3
  ·rw[wrapId om om] at h3; omega
  ·rw[wrapId om om] at h3; omega
 rw[y5 c6] at h0 |-
 obtain⟨hv,hv',hR,hC⟩:=zn3 h0
 refine z79 hv hv' hR c1 (conv hv hv' fun c y=>?_)
 unfold usedV rel
 rw[hR,hC]
variable {x:TRi}
theorem uniqR (hS:Srt l) (hg:∀ x∈l,RtOk x) {y:TRi} (hx:x∈l) (hy:y∈l) (h1:x.C=y.C) (h2:x.E=y.E):x=y:=by
 obtain⟨i,hi,rfl⟩:=z18 hx
 obtain⟨j,hj,rfl⟩:=z18 hy
 have h0:=(z5g (hg _ hx).1 (hg _ hy).1).2 ⟨h1,h2⟩
 rcases y3s i j with h | h | h
 ·have:=hS.lt hg h hj; omega
 ·rw[h]
 ·have:=hS.lt hg h hi
  have h3:=zf6 (b:=l.getD i default) (hg _ hy).1
  omega
theorem z7t (hS:Srt l) (hg:∀ x∈l,RtOk x) (hx:x∈l):rightV l x.C x.E=x:=by
 obtain⟨h1,h2,h3⟩:=z2o (has_iff.2 ⟨x,hx,rfl,rfl⟩:hasR l x.C x.E=true)
 exact uniqR hS hg h1 hx h2 h3
theorem zkr {a a' b b':TRi} (h1:a.C=a'.C) (h2:a.E=a'.E) (h3:b.C=b'.C) (h4:b.E=b'.E):cmpR a b=cmpR a' b':=by
 unfold cmpR; rw[h1,h2,h3,h4]
theorem ze8 (h:x∈putL l r):x=r\/x∈l:=by
 unfold putL at h
 split at h
 ·exact (y29 h).symm
 ·unfold insL at h
  simp only[y1j,y16] at h
  rcases h with h | h | h
  ·exact .inr (y33 h)
  ·exact .inl h
  ·exact .inr (y3f h)
theorem z7a (l:List TRi) (r:TRi):r∈putL l r:=by
 unfold putL
 split
 ·rename_i h
  exact List.mem_set (z3c h).1 _
 ·unfold insL; simp
theorem zjj (hx:x∈l) (h:¬ (x.C=r.C/\x.E=r.E)):x∈putL l r:=by
 unfold putL
 split
 ·rename_i hh
  obtain⟨h1,h2,h3⟩:=z3c hh
  obtain⟨i,hi,e⟩:=List.mem_iff_getElem.mp hx
  have hne:rix l r.C r.E≠i:=fun k=>h (by subst k; rw[z13 h1,e] at h2 h3; exact⟨h2,h3⟩)
  have h4:(l.set (rix l r.C r.E) r)[i]'(by rw[yb]; exact hi)=x:=by rw[y3x,y5 hne,e]
  rw[<- h4]
  exact y4v _
 ·unfold insL
  rw[y1j,y16]
  have:x∈l.take (posR l r)++l.drop (posR l r):=by rw[y2k]; exact hx
  rcases y1j.1 this with h | h
  ·exact .inl h
  ·exact .inr (.inr h)
theorem z63 (hg:∀ x∈l,RtOk x) (hr:RtOk r):∀ x∈putL l r,RtOk x:=fun x hx=>by
 rcases ze8 hx with rfl | h
 ·exact hr
 ·exact hg x h
theorem zjk (hS:Srt l) (hg:∀ x∈l,RtOk x) (hr:RtOk r):Srt (putL l r):=by
 unfold putL
 split
 ·rename_i hh
  obtain⟨h1,h2,h3⟩:=z3c hh
  intro i hi
  rw[yb] at hi
  have key:∀ j,(((l.set (rix l r.C r.E) r).getD j default).C=(l.getD j default).C)/\((l.set (rix l r.C r.E) r).getD j default).E=(l.getD j default).E:=fun j=>by
   rw[z5e _ _ _ _ h1]
   by_cases e:j=rix l r.C r.E
   ·rw[y6 e,e,h2,h3]; exact⟨rfl,rfl⟩
   ·rw[y5 e]; exact⟨rfl,rfl⟩
  refine (hS i hi).imp id fun k=>?_
  rw[zkr (key (i-1)).1 (key (i-1)).2 (key i).1 (key i).2]
  exact k
 ·rename_i hh
  have hp:=z6l l r
  intro i hi
  rw[zo] at hi
  rw[z1h hp,z1h hp]
  by_cases h0:i=0
  ·exact .inl h0
  right
  by_cases c1:i<posR l r
  ·rw[y6 om,y6 c1]
   exact (hS i om).resolve_left h0
  ·by_cases c2:i=posR l r
   ·rw[y6 om,y5 c1,y6 c2]
    exact zb3 om
   ·rw[y5 c1,y5 c2]
    by_cases c3:i-1=posR l r
    ·rw[y5 om,y6 c3,c3]
     have h1:=zb4 (l:=l) (r:=r) om
     have hm:l.getD (posR l r) default∈l:=z7 om
     have h2:cmpR (l.getD (posR l r) default) r≠0:=fun k=>by
      obtain⟨k1,k2⟩:=(z5g (hg _ hm).1 hr.1).1 k
      exact hh (has_iff.2 ⟨_,hm,k1,k2⟩)
     have h3:=zf6 (b:=r) (hg _ hm).1
     omega
    ·rw[y5 om,y5 c3]
     have:=(hS (i-1) om).resolve_left om
     exact this
theorem zjl (h:hasR l c y=true):hasR (putL l r) c y=true:=by
 obtain⟨x,hx,h1,h2⟩:=has_iff.1 h
 by_cases k:x.C=r.C/\x.E=r.E
 ·exact has_iff.2 ⟨r,z7a l r,by rw[<- k.1,h1],by rw[<- k.2,h2]⟩
 ·exact has_iff.2 ⟨x,zjj hx k,h1,h2⟩
theorem z6c (hS:Srt l) (hg:∀ x∈l,RtOk x) (hr:RtOk r) (c:List UInt8) (y:Int):rightV (putL l r) c y=if r.C=c/\r.E=y then r else rightV l c y:=by
 have hS':=zjk hS hg hr
 have hg':=z63 hg hr
 by_cases k:r.C=c/\r.E=y
 ·rw[y6 k,<- k.1,<- k.2]
  exact z7t hS' hg' (z7a l r)
 ·rw[y5 k]
  by_cases h:hasR l c y=true
  ·obtain⟨h1,h2,h3⟩:=z2o h
   have:=z7t hS' hg' (zjj (r:=r) h1 (by rw[h2,h3]; exact fun q=>k ⟨q.1.symm,q.2.symm⟩))
   rwa [h2,h3] at this
  ·have h':¬ hasR (putL l r) c y=true:=fun q=>by
    obtain⟨x,hx,h1,h2⟩:=has_iff.1 q
    rcases ze8 hx with rfl | hx
    ·exact k ⟨h1,h2⟩
    ·exact h (has_iff.2 ⟨x,hx,h1,h2⟩)
   unfold rightV
   rw[y5 h,y5 h']
theorem zra (h:l.length<=60) (h2:hasR l r.C r.E=true\/(l.length:Int)≠60):(putL l r).length<=60:=by
 unfold putL
 split
 ·rw[yb]; exact h
 ·rename_i hh
  rw[zo]
  have:=h2.resolve_left hh
  omega
theorem z4p (hg:∀ x∈l,RtOk x) (c:List UInt8) (y:Int):0<=(rightV l c y).N/\(rightV l c y).N<=(rightV l c y).A/\(rightV l c y).A<=1000000000000000/\0<=(rightV l c y).I/\(rightV l c y).I<=1000000000000000:=by
 by_cases h:hasR l c y=true
 ·have:=hg _ (z2o h).1
  unfold RtOk at this
  omega
 ·unfold rightV; rw[y5 h]; simp
theorem z9a (hg:∀ x∈o.H,RtOk x) (hv:Val o.Af) (c:List UInt8) (y:Int):unusedV o c y=(rightV o.H c y).A-(rightV o.H c y).N-usedE o.Af c y:=by
 have h1:=z4p hg c y
 have h2:=z2h hv c y
 unfold unusedV
 rw[wrapId (n:=(rightV o.H c y).A-(rightV o.H c y).N) om om,h2.1,wrapId om om]
theorem VO.unused (h:VO o) (c:List UInt8) (y:Int):unusedV o c y=(rightV o.H c y).A-(rightV o.H c y).N-usedE o.Af c y:=z9a h.ok h.val c y
theorem zks (h:∀ x∈b.B,¬ (x.C=c/\x.E=y)):usedE b c y=0:=by
 unfold usedE
 exact zjg fun x hx=>by
  have:=h x hx
  simp only[y3o,y40,ne_eq]
  by_cases h1:x.C=c
  ·exact .inr fun h2=>this ⟨h1,h2⟩
  ·exact .inl h1
theorem VO.unused_nn (h:VO o) (c:List UInt8) (y:Int):0<=unusedV o c y:=by
 by_cases hx:∃ x∈o.Af.B,x.C=c/\x.E=y
 ·obtain⟨x,hx,rfl,rfl⟩:=hx
  exact (h.2.2.2.2.2 x hx).2
 ·rw[h.unused,zks fun x hx' e=>hx ⟨x,hx',e⟩]
  have:=z4p h.ok c y
  omega
theorem VO.smO (h:VO o):SmO o:=by
 have h1:=h.val
 have h2:=h1.2.2.2.2.2.2
 refine⟨⟨⟨om,om,om,om⟩,fun r hr=>?_⟩,by have:=h.len; omega,fun r hr=>(h.ok r hr).len⟩
 have:=z4h (h1.1.mem hr).1.2.1
 omega
theorem zjm (hv:VO o) (hk:p.P≠7/\p.P≠8) (h0:(stepS o p).2=0) :
  (stepS o p).1=⟨o.L,o.H,(bookS o.Af p).1⟩/\(bookS o.Af p).2=0/\Eff o.Af p (bookS o.Af p).1/\(p.P=1->p.S<=unusedV o p.C p.E)/\VO (stepS o p).1:=by
 unfold stepS at h0 |-
 rw[y5 hk.2,y5 hk.1] at h0 |-
 by_cases c1:(bookS o.Af p).2≠0
 ·rw[y6 c1] at h0; exact absurd h0 c1
 rw[y5 c1] at h0 |-
 by_cases c2:p.P=1/\p.S>unusedV o p.C p.E
 ·rw[y6 c2] at h0; cases h0
 rw[y5 c2]
 have c1:=Classical.not_not.mp c1
 have he:=zp1 c1
 have hu:p.P=1->p.S<=unusedV o p.C p.E:=fun k=>y2q.1 fun q=>c2 ⟨k,q⟩
 refine⟨rfl,c1,he,hu,hv.1,hv.len,he.2.1,hv.ok,hv.srt,fun x hx=>?_⟩
 have hx:=he.2.2.2.2.1 x hx
 have hh:hasR o.H x.C x.E=true:=by
  rcases hx with ⟨z,hz,e1,e2⟩ | ⟨k,e1,e2⟩
  ·rw[<- e1,<- e2]; exact (hv.2.2.2.2.2 z hz).1
  ·rw[e1,e2]
   have h1:=hu k
   have h2:=(he.2.2.2.1 k).1
   refine Classical.byContradiction fun q=>?_
   rw[hv.unused] at h1
   have h3:=z2h hv.val p.C p.E
   unfold rightV at h1
   rw[y5 q] at h1
   simp only at h1
   omega
 refine⟨hh,?_⟩
 rw[z9a (o:=⟨o.L,o.H,(bookS o.Af p).1⟩) hv.ok he.2.1]
 have h1:=he.2.2.1 x.C x.E
 have h2:=hv.unused x.C x.E
 have h3:=hv.unused_nn x.C x.E
 by_cases k:p.P=1/\p.C=x.C/\p.E=x.E
 ·rw[y6 k] at h1
  have h4:=hu k.1
  rw[k.2.1,k.2.2] at h4
  simp only
  omega
 ·rw[y5 k] at h1
  simp only
  omega
theorem zn4 (hv:VO o) (hr:RtOk r) (hl:hasR o.H r.C r.E=true\/(o.H.length:Int)≠60) (hu:usedE o.Af r.C r.E<=r.A-r.N):VO ⟨o.L,putL o.H r,o.Af⟩:=by
 refine⟨hv.1,zra hv.len hl,hv.val,z63 hv.ok hr,zjk hv.srt hv.ok hr,fun x hx=>⟨zjl (hv.2.2.2.2.2 x hx).1,?_⟩⟩
 rw[z9a (o:=⟨o.L,putL o.H r,o.Af⟩) (z63 hv.ok hr) hv.val]
 simp only
 rw[z6c hv.srt hv.ok hr]
 by_cases k:r.C=x.C/\r.E=x.E
 ·rw[y6 k,<- k.1,<- k.2]; omega
 ·rw[y5 k]
  have h2:=hv.unused x.C x.E
  have h3:=hv.unused_nn x.C x.E
  omega
theorem z8g (hv:VO o) (h0:(hearS o p).2=0) :
  ∃ r,(hearS o p).1=⟨o.L,putL o.H r,o.Af⟩/\RtOk r/\r.C=p.C/\r.E=p.E/\r=⟨p.C,p.E,if p.A>(rightV o.H p.C p.E).A then p.A else (rightV o.H p.C p.E).A,if p.Ae>(rightV o.H p.C p.E).I then p.Ae else (rightV o.H p.C p.E).I,(rightV o.H p.C p.E).N⟩/\VO (hearS o p).1:=by
 unfold hearS at h0 |-
 by_cases c1:¬ good p.C=true
 ·rw[y6 c1] at h0; cases h0
 rw[y5 c1] at h0 |-
 by_cases c2:p.E<0\/p.E>99
 ·rw[y6 c2] at h0; cases h0
 rw[y5 c2] at h0 |-
 by_cases c3:hasR o.H p.C p.E=false/\(o.H.length:Int)=60
 ·rw[y6 c3] at h0; cases h0
 rw[y5 c3] at h0 |-
 by_cases c4:(learnS (rightV o.H p.C p.E) (msgOf p)).2≠0
 ·rw[y6 c4] at h0; exact absurd h0 c4
 rw[y5 c4]
 have h1:=zak (Classical.not_not.mp c4)
 have hcy:=z3o o.H p.C p.E
 rw[hcy.1,hcy.2] at h1
 refine⟨_,rfl,h1.2.2.2.2,by rw[h1.2.2.2.1],by rw[h1.2.2.2.1],h1.2.2.2.1,zn4 hv h1.2.2.2.2 ?_ ?_⟩
 ·rw[h1.2.2.2.1]
  simp only
  by_cases k:hasR o.H p.C p.E=true
  ·exact .inl k
  ·exact .inr fun q=>c3 ⟨by simpa using k,q⟩
 ·rw[h1.2.2.2.1]
  have h2:=hv.unused p.C p.E
  have h3:=hv.unused_nn p.C p.E
  have h4:(rightV o.H p.C p.E).A<=if (msgOf p).A>(rightV o.H p.C p.E).A then (msgOf p).A else (rightV o.H p.C p.E).A:=by split <;> omega
  simp only
  omega
theorem zjn (hv:VO o) (h0:(giveS o p).2=0) :
  hasR o.H p.C p.E=true/\1<=p.S/\p.S<=unusedV o p.C p.E/\∃ r,(giveS o p).1=⟨o.L,putL o.H r,o.Af⟩/\RtOk r/\r=⟨p.C,p.E,(rightV o.H p.C p.E).A,(rightV o.H p.C p.E).I,(rightV o.H p.C p.E).N+p.S⟩/\VO (giveS o p).1:=by
 unfold giveS at h0 |-
 by_cases c1:¬ hasR o.H p.C p.E=true
 ·rw[y6 c1] at h0; cases h0
 rw[y5 c1] at h0 |-
 by_cases c4:(returnS (rightV o.H p.C p.E) (usedV o.Af p.C p.E) p.S).2≠0
 ·rw[y6 c4] at h0; exact absurd h0 c4
 rw[y5 c4]
 have h1:=z99 (Classical.not_not.mp c4)
 have hcy:=z3o o.H p.C p.E
 have hu:=z2h hv.val p.C p.E
 rw[hcy.1,hcy.2,hu.1] at h1
 have c1:=Classical.not_not.mp c1
 rw[hu.1]
 refine⟨c1,h1.2.2.1,by rw[hv.unused]; exact h1.2.2.2.1,_,rfl,h1.2.2.2.2.2,h1.2.2.2.2.1,zn4 hv h1.2.2.2.2.2 (.inl ?_) ?_⟩
 ·rw[h1.2.2.2.2.1]; exact c1
 ·rw[h1.2.2.2.2.1]
  simp only
  omega
theorem zb5 (h0:(doS o p).2=0):VO o/\(1<=p.P/\p.P<=9)/\doS o p=stepS o p:=by
 unfold doS at h0 |-
 split at h0
 ·cases h0
 ·rename_i h
  rw[y5 h]
  exact⟨Classical.byContradiction fun k=>h (.inl k),om,rfl⟩
theorem z8h (hv:VO o) (hk:1<=p.P/\p.P<=9):doS o p=stepS o p:=by
 unfold doS
 rw[y5 (fun k=>k.elim (fun k=>k hv) fun k=>om)]
theorem zb6 (h0:(doS o p).2=0):VO (doS o p).1:=by
 obtain⟨hv,hk,e⟩:=zb5 h0
 rw[e] at h0 |-
 by_cases c8:p.P=8
 ·have e8:stepS o p=hearS o p:=by unfold stepS; rw[y6 c8]
  rw[e8] at h0 |-
  obtain⟨r,_,_,_,_,_,h⟩:=z8g hv h0
  exact h
 by_cases c7:p.P=7
 ·have e7:stepS o p=giveS o p:=by unfold stepS; rw[y5 c8,y6 c7]
  rw[e7] at h0 |-
  obtain⟨_,_,_,r,_,_,_,h⟩:=zjn hv h0
  exact h
 exact (zjm hv ⟨c7,c8⟩ h0).2.2.2.2
theorem zim (hg:∀ x∈l,RtOk x) (hc:good c=true) (hy:0<=y/\y<=99):RtOk (rightV l c y):=by
 by_cases h:hasR l c y=true
 ·exact hg _ (z2o h).1
 ·unfold rightV; rw[y5 h]; exact⟨hc,hy,sj,sj,sj⟩
theorem zf8 (hv:VO o) (hc:good p.C=true) (hy:0<=p.E/\p.E<=99) (hl:hasR o.H p.C p.E=true\/(o.H.length:Int)≠60) (h1:tot p.A) (h2:tot p.Ae):(hearS o p).2=0:=by
 have hr:=zim hv.ok hc hy
 have hcy:=z3o o.H p.C p.E
 have hk:(learnS (rightV o.H p.C p.E) (msgOf p)).2=0:=by
  unfold learnS
  rw[y5 (fun k=>k ⟨hr,rfl,hcy.1.symm,hcy.2.symm⟩),y5 (fun k=>k ⟨h1,h2⟩)]
 unfold hearS
 rw[y5 (fun k=>k hc),y5 om,y5 (fun k=>by
  rcases hl with h | h
  ·rw[k.1] at h; cases h
  ·exact h k.2),y5 (fun k=>k hk)]
def OI (k:Nat) (o:TOf):Prop:=VO o/\o.Af.B.length<=k/\o.H.length<=k/\∀ r∈o.H,r.A<=1000
variable {s:TTape}
theorem zrb (ho:Few o.Af) (hs:TapeOk s) (day:Int):∃ p s',F_q2x o day s=some (p,s')/\TapeOk s'/\p.C.length<=60/\p.A<=1000/\p.S<=120:=by
 obtain⟨l1,l2,l3,l4⟩:=ho
 obtain⟨k,s1,e1,t1,k1⟩:=z32 (l:=[1,1,1,2,2,2,3,3,3,4,4,5,6,7,8,8,9]) hs dk dk
 obtain⟨co,s2,e2,t2,hc,_⟩:=zai t1
 obtain⟨n1,s3,e3,t3,_,hn1⟩:=z1v (lo:=1) (hi:=120) t2 om om om
 obtain⟨n2,s4,e4,t4,hn2⟩:=z32 (l:=[10,50,n1]) t3 sj sj
 have hn2:n2<=120:=by simp at hn2; omega
 simp only[F_q2x,S_q2x,Scr.den,e1,e2,e3,e4,obind]
 generalize i64.wrap (day.tdiv 360)=yy
 have fin:∀ (s5:TTape) (p:TOp),TapeOk s5->p.C.length<=60->p.A<=1000->p.S<=120 ->
   ∃ p' s',outM (some (Out.next (s5,p):Out (TTape×TOp) R_q2x)) (fun (sv5:TTape×TOp)=>outM (if (sv5.2.P==2)=true then (F_ql 1 4 sv5.1).bind fun rv17=>(F_q5 60 rv17.2).bind fun rv18=>some (Out.next (rv18.2,(⟨sv5.2.P,sv5.2.C,sv5.2.E,sv5.2.Aa,sv5.2.Of,sv5.2.S,rv17.1,(i64.wrap (day+rv18.1)),sv5.2.A,sv5.2.Ae⟩:TOp)):Out (TTape×TOp) R_q2x) else some (Out.next (sv5.1,sv5.2))) (fun (sv16:TTape×TOp)=>some (sv16.2,sv16.1)) some) some=some (p',s')/\TapeOk s'/\p'.C.length<=60/\p'.A<=1000/\p'.S<=120:=fun s5 p ht h1 h2 h3=>by
  simp only[outM]
  by_cases hk:(p.P==2)=true
  ·rw[y6 hk]
   obtain⟨x1,s6,q1,t6,_,_⟩:=z1v (lo:=1) (hi:=4) ht om om om
   obtain⟨x2,s7,q2,t7,_,_⟩:=z28 (n:=60) t6 om om
   simp only[q1,q2,obind]
   exact⟨_,_,rfl,t7,h1,h2,h3⟩
  ·rw[y5 hk]
   exact⟨_,_,rfl,ht,h1,h2,h3⟩
 have lm:∀ {α:Type} (l:List α),l.length<=1000000->(1:Int)<=(if (l.length:Int)>1 then (l.length:Int) else 1)/\(if (l.length:Int)>1 then (l.length:Int) else 1)<=1000000:=fun l h=>by split <;> omega
 have m1:=lm o.Af.B l1
 have m2:=lm o.Af.F l2
 have m3:=lm o.Af.G l3
 have two:∀ {c d:Bool} {P:Prop},(c=true->P)->(d=true->P)->(c=false->d=false->P)->P:=fun {c d P} h1 h2 h3=>by
  cases hc:c
  ·cases hd:d
   ·exact h3 hc hd
   ·exact h2 hd
  ·exact h1 hc
 have g1:∀ {β:Type} (c d:Bool),(c||d)=true->(if c=true then some (Out.next c) else some (Out.next d):Option (Out Bool β))=some (Out.next true):=fun {_} c d h=>by cases c <;> cases d <;> first | rfl | cases h
 have g0:∀ {β:Type} (c d:Bool),(c||d)=false->(if c=true then some (Out.next c) else some (Out.next d):Option (Out Bool β))=some (Out.next false):=fun {_} c d h=>by cases c <;> cases d <;> first | rfl | cases h
 by_cases c1:((k==2)||(k==5))=true
 ·rw[g1 _ _ c1]
  obtain⟨x1,s5,q1,t5,_,_⟩:=z1v (lo:=1) (hi:=(if (o.Af.B.length:Int)>1 then (o.Af.B.length:Int) else 1)) t4 om m1.1 om
  simp only[outM,yz,q1,obind]
  exact fin _ ⟨k,co,yy,day,x1,n2,0,0,0,0⟩ t5 hc (by show (0:Int)<=1000; decide) hn2
 have c1:((k==2)||(k==5))=false:=by simpa using c1
 rw[g0 _ _ c1]
 by_cases c2:((k==3)||(k==6))=true
 ·rw[g1 _ _ c2]
  obtain⟨x1,s5,q1,t5,_,_⟩:=z1v (lo:=1) (hi:=(if (o.Af.F.length:Int)>1 then (o.Af.F.length:Int) else 1)) t4 om m2.1 om
  simp only[outM,yp,yz,yn,q1,obind]
  exact fin _ ⟨k,co,yy,day,x1,n2,0,0,0,0⟩ t5 hc (by show (0:Int)<=1000; decide) hn2
 have c2:((k==3)||(k==6))=false:=by simpa using c2
 rw[g0 _ _ c2]
 by_cases c3:((k==4)||(k==9))=true
 ·rw[g1 _ _ c3]
  obtain⟨x1,s5,q1,t5,_,_⟩:=z1v (lo:=1) (hi:=(if (o.Af.G.length:Int)>1 then (o.Af.G.length:Int) else 1)) t4 om m3.1 om
  simp only[outM,yp,yz,yn,q1,obind]
  exact fin _ ⟨k,co,yy,day,x1,n2,0,0,0,0⟩ t5 hc (by show (0:Int)<=1000; decide) hn2
 have c3:((k==4)||(k==9))=false:=by simpa using c3
 rw[g0 _ _ c3]
 by_cases c4:(k==8)=true
 ·obtain⟨x1,s5,q1,t5,_,y1⟩:=z28 (n:=1000) t4 om om
  obtain⟨x2,s6,q2,t6,y2⟩:=z32 (l:=[100,400,x1]) t5 sj sj
  obtain⟨x3,s7,q3,t7,_,y3⟩:=z28 (n:=200) t6 om om
  obtain⟨x4,s8,q4,t8,y4⟩:=z32 (l:=[0,0,x3]) t7 sj sj
  simp only[outM,yp,yn,y6 c4,q1,q2,q3,q4,obind]
  exact fin _ ⟨k,co,yy,day,0,n2,0,0,x2,x4⟩ t8 hc (by simp at y2; show x2<=1000; omega) hn2
 ·simp only[outM,yp,yn,y5 c4]
  exact fin _ ⟨k,co,yy,day,0,n2,0,0,0,0⟩ t4 hc (by show (0:Int)<=1000; decide) hn2
theorem zp2 (hv:VO o) (hs:TapeOk s) (day:Int):∃ p s',F_q2x o day s=some (p,s')/\TapeOk s'/\p.C.length<=60/\p.A<=1000/\p.S<=120:=zrb hv.smO.1.1 hs day
theorem zkt (n:Int):F_q3g n=some (if n<1\/n>6 then (noO,2) else (⟨n,[],nb⟩,0)):=by
 simp only[F_q3g,S_q3g,Scr.den,z8]
 exact st (by simp only[yc,y7]) (fun _=>rfl) (fun _=>rfl)
theorem zn5 (h1:1<=n) (h2:n<=6):OI 0 ⟨n,[],nb⟩ :=
 ⟨⟨⟨h1,h2⟩,sj,zmu,(fun _ h=>nomatch h),(fun i hi=>absurd hi sj),(fun x hx=>nomatch hx)⟩,(by simp[nb]),sj,(fun _ h=>nomatch h)⟩
def wantedS (r:TRi) (u:Int):Int :=
 if RtOk r/\(0<=u/\u<=r.A-r.N) then (if r.A-u<r.I then (if r.A-u-r.N>0 then r.A-u-r.N else 0) else (if r.I-r.N>0 then r.I-r.N else 0)) else 0
theorem wn2 {x:Int} (h:x=y):(if x>0 then x else 0)=(if y>0 then y else 0):=by rw[h]
theorem zfw (h:r.C.length<=1000000):F_q4x r u=some (wantedS r u):=by
 simp only[F_q4x,S_q4x,Scr.den,z4y h,obind,z8]
 unfold wantedS
 by_cases hR:RtOk r
 ·have hR':=hR
  unfold RtOk at hR'
  have w1:i64.wrap (r.A-r.N)=r.A-r.N:=wrapId om om
  rw[w1]
  by_cases hu:0<=u/\u<=r.A-r.N
  ·rw[y6 (show RtOk r/\(0<=u/\u<=r.A-r.N) from ⟨hR,hu⟩),y5 (by simp[hR]; omega),wrapId (n:=r.A-r.N-u) om om,wrapId (n:=r.I-r.N) om om]
   refine yk some ?_
   by_cases k:r.A-u<r.I
   ·rw[y6 k]
    simp only[y6 (show r.A-r.N-u<r.I-r.N from om)]
    exact wn2 om
   ·rw[y5 k]
    simp only[y5 (show ¬ (r.A-r.N-u<r.I-r.N) from om)]
  ·rw[y6 (by simp[hR]; omega),y5 (fun k=>hu k.2)]
 ·rw[y6 (by simp[hR]),y5 (fun k=>hR k.1)]
def noP:TOp:=⟨0,[],0,0,0,0,0,0,0,0⟩
open Classical in
noncomputable def answerS (o:TOf) (c:List UInt8) (y:Int):TOp×Bool :=
 if ¬ VO o then (noP,false) else
 if wantedS (rightV o.H c y) (usedV o.Af c y)=0 then (noP,false) else (⟨7,c,y,0,0,wantedS (rightV o.H c y) (usedV o.Af c y),0,0,0,0⟩,true)
theorem zin (l:List TRi) (hc:c.length<=1000000) (y:Int):(rightV l c y).C.length<=1000000:=by
 rw[(z3o l c y).1]; exact hc
theorem zfx (hs:SmO o) (hc:c.length<=1000000) (y:Int):F_q4y o c y=some (answerS o c y):=by
 simp only[F_q4y,S_q4y,Scr.den,z77 hs,z1z,z45,zfw (zin o.H hc y),obind]
 unfold answerS
 refine st sj (fun _=>rfl) fun _=>?_
 refine st (by simp only[y13]) (fun _=>rfl) fun _=>rfl
def noM:TMe:=⟨0,0,[],0,0,0,0,0⟩
open Classical in
noncomputable def reportS (o:TOf) (c:List UInt8) (y:Int):TMe×Int :=
 if ¬ VO o then (noM,1) else
 if ¬ hasR o.H c y=true then (noM,6) else (⟨o.L,0,c,y,0,0,(rightV o.H c y).N,usedV o.Af c y⟩,0)
theorem zn6 (hs:SmO o) (c:List UInt8) (y:Int):F_q64 o c y=some (reportS o c y):=by
 simp only[F_q64,S_q64,Scr.den,ze3 hs,zd2,z4i,zdx,obind]
 unfold reportS
 refine st sj (fun _=>rfl) fun _=>?_
 refine st sj (fun _=>rfl) fun _=>rfl
theorem zfy (hs:SmO o) (c:List UInt8) (y:Int):F_q56 o c y=some (reportS o c y):=by
 simp only[F_q56,S_q56,Scr.den,z77 hs,at_eq,z1z,z45,obind]
 unfold reportS
 refine st sj (fun _=>rfl) fun _=>?_
 refine st (by cases hh:hasR o.H c y <;> simp <;> (try exact y2q.2 (y1v _))) (fun _=>rfl) fun _=>rfl
def a1:TOf:=⟨2,[],nb⟩
def a2:TOf:=⟨2,[⟨[49],12,100,0,0⟩],nb⟩
def aR:TRe:=⟨1,[49],12,4330,60,0⟩
def a3:TOf:=⟨2,[⟨[49],12,100,0,0⟩],⟨[aR],[],[],[]⟩⟩
def a4:TOf:=⟨2,[⟨[49],12,100,0,40⟩],⟨[aR],[],[],[]⟩⟩
def q1:TOp:=⟨8,[49],12,0,0,0,0,0,100,0⟩
def q2:TOp:=⟨1,[49],12,4330,0,60,0,0,0,0⟩
def q3:TOp:=⟨7,[49],12,0,0,40,0,0,0,0⟩
def q4:TOp:=⟨1,[49],12,4330,0,1,0,0,0,0⟩
theorem va1:VO a1:=(zn5 om om).1
theorem st1:doS a1 q1=(a2,0):=by
 rw[z8h va1 dk]
 unfold stepS
 rw[y6 dk]
 kernel_rfl
theorem va2:VO a2:=by have:=zb6 (o:=a1) (p:=q1) (by rw[st1]); rwa [st1] at this
theorem st2:doS a2 q2=(a3,0):=by
 rw[z8h va2 dk]
 unfold stepS
 have h:reserveS a2.Af q2.C q2.E q2.Aa q2.S=(⟨[aR],[],[],[]⟩,0) :=
  zii (b:=nb) (code:=[49]) (y:=12) (d:=4330) (n:=60) zmu (by decide +kernel) dk dk dk dk dk
 have hu:unusedV a2 q2.C q2.E=100:=by decide +kernel
 have hb:bookS a2.Af q2=(⟨[aR],[],[],[]⟩,0):=by unfold bookS; rw[y6 dk,h]
 rw[y5 dk,y5 dk,hb,y5 dk,y5 (by rw[hu]; decide)]
 rfl
theorem va3:VO a3:=by have:=zb6 (o:=a2) (p:=q2) (by rw[st2]); rwa [st2] at this
theorem st3:doS a3 q3=(a4,0):=by
 rw[z8h va3 dk]
 unfold stepS
 rw[y5 dk,y6 dk]
 kernel_rfl
def getF (p:TOp):Nat->Int
 | 0=>p.E
 | 1=>p.Aa
 | 2=>p.S
 | 3=>p.Of
 | 4=>p.Ah
 | 5=>p.Aj
 | 6=>p.A
 | _=>p.Ae
def clrF (p:TOp):Nat->TOp
 | 0=>⟨p.P,p.C,0,p.Aa,p.Of,p.S,p.Ah,p.Aj,p.A,p.Ae⟩
 | 1=>⟨p.P,p.C,p.E,0,p.Of,p.S,p.Ah,p.Aj,p.A,p.Ae⟩
 | 2=>⟨p.P,p.C,p.E,p.Aa,p.Of,0,p.Ah,p.Aj,p.A,p.Ae⟩
 | 3=>⟨p.P,p.C,p.E,p.Aa,0,p.S,p.Ah,p.Aj,p.A,p.Ae⟩
 | 4=>⟨p.P,p.C,p.E,p.Aa,p.Of,p.S,0,p.Aj,p.A,p.Ae⟩
 | 5=>⟨p.P,p.C,p.E,p.Aa,p.Of,p.S,p.Ah,0,p.A,p.Ae⟩
 | 6=>⟨p.P,p.C,p.E,p.Aa,p.Of,p.S,p.Ah,p.Aj,0,p.Ae⟩
 | 7=>⟨p.P,p.C,p.E,p.Aa,p.Of,p.S,p.Ah,p.Aj,p.A,0⟩
 | _=>⟨p.P,[],p.E,p.Aa,p.Of,p.S,p.Ah,p.Aj,p.A,p.Ae⟩
def nmF:Nat->List UInt8
 | 0=>[89,69,65,82]
 | 1=>[68,65,89]
 | 2=>[65,77,79,85,78,84]
 | 3=>[79,70]
 | 4=>[80,65,89,69,69]
 | 5=>[68,85,69]
 | 6=>[71,82,65,78,84,69,68]
 | 7=>[65,83,75,69,68,66,65,67,75]
 | _=>[67,79,68,69]
def mostF (k:Nat):Int:=if k=0 then 99 else 1000000000000000
def condF (p:TOp) (k:Nat):Prop:=if k=8 then good p.C=true else 0<=getF p k/\getF p k<=mostF k
instance (p:TOp) (k:Nat):Decidable (condF p k):=by unfold condF; infer_instance
theorem zd4 (p:TOp):condF p 8↔good p.C=true:=by
 show (if (8:Nat)=8 then good p.C=true else _)↔_
 rw[y6 rfl]
variable {k:Nat}
theorem condN (h:k≠8):condF p k↔0<=getF p k/\getF p k<=mostF k:=by
 show (if k=8 then good p.C=true else _)↔_
 rw[y5 h]
def txtF (p:TOp) (k:Nat):List UInt8:=if k=8 then p.C else Lib.itoa (getF p k)
theorem F_q78 (k:Nat) (hk:k<8):F_q1r (nmF k)=some (mostF k):=by
 have:k=0\/k=1\/k=2\/k=3\/k=4\/k=5\/k=6\/k=7:=om
 rcases this with rfl | rfl | rfl | rfl | rfl | rfl | rfl | rfl <;> rfl
theorem zn7 (h0:0<=n) (h1:n<=1000000000000000):F_q70 n=some (Lib.itoa n):=z6 ⟨om,om⟩
theorem zhh (k:Nat):mostF k<=1000000000000000:=by unfold mostF; split <;> omega
variable {i:Nat} {rv1:List (List UInt8)}
theorem zrc {r:TOp} (hc:p.C.length<=1000000) {l:List (List UInt8)} (hi:i+1<l.length) (hb:l.length<=1000) (hk:k<=8) (hp:l.getD (0+1+i) default=nmF k) :
  (S_q6_b1 p rv1 i (l,r)).den=some (if condF p k then .cont (l.set (i+1) (txtF p k),clrF r k) else .ret []):=by
 have ei:(i64.wrap ((i:Int)+1))=((i+1:Nat):Int):=wrapId om om
 have hcode:k=8->(S_q6_b1 p rv1 i (l,r)).den=some (if condF p k then .cont (l.set (i+1) (txtF p k),clrF r k) else .ret []):=fun h8=>by
  subst h8
  simp only[S_q6_b1,Scr.den]
  rw[z6 ⟨om,trivial⟩,hp,y6 (by rfl),ei]
  rw[show F_q74 p.C=some (parts p.C) from z2r om]
  simp only[obind,zhe,yh,yu]
  by_cases hg:good p.C=true
  ·rw[y5 (by simp[hg]),y6 ((zd4 p).2 hg),z6 ⟨om,hi,hi,trivial⟩]
   rfl
  ·rw[y6 (by simpa using hg),y5 fun h=>hg ((zd4 p).1 h)]
 by_cases h8:k=8
 ·exact hcode h8
 clear hcode
 have e:k=0\/k=1\/k=2\/k=3\/k=4\/k=5\/k=6\/k=7:=om
 have hm:F_q1r (nmF k)=some (mostF k):=F_q78 k om
 have hml:=zhh k
 have fin:∀ (n:Int) (x:Option (Step (List (List UInt8)×TOp) R_q6)),n=getF p k ->
   x=((optD [(decide (n<0))=false] (F_q1r (nmF k)) default).bind fun m=>if (decide (n<0)||decide (n>m))=true then some (.ret []) else (F_q70 n).bind fun t=>guardP (AllP [(0:Int)<=((i+1:Nat):Int),i+1<l.length,i+1<l.length]) (some (.cont (l.set (i+1) t,clrF r k)))) ->
   x=some (if condF p k then .cont (l.set (i+1) (txtF p k),clrF r k) else .ret []):=by
  rintro n x rfl rfl
  have ht:txtF p k=Lib.itoa (getF p k):=y5 h8
  have hcn:=condN (p:=p) h8
  rw[hm,ht]
  by_cases h0:getF p k<0
  ·rw[show optD [(decide (getF p k<0))=false] (some (mostF k)) default=some default from y5 fun h=>by simp[AllP] at h; omega]
   simp only[obind]
   rw[y6 (by simp[h0]),y5 fun h=>y2q.2 (hcn.1 h).1 h0]
  ·rw[zf (by simp[AllP]; omega)]
   simp only[obind]
   by_cases h1:getF p k<=mostF k
   ·rw[y5 sk,y6 (hcn.2 ⟨om,h1⟩),zn7 om om]
    simp only[obind]
    rw[z6 ⟨om,hi,hi,trivial⟩]
   ·rw[y6 sk,y5 fun h=>h1 (hcn.1 h).2]
 rcases e with rfl | rfl | rfl | rfl | rfl | rfl | rfl | rfl
 all_goals
  simp only[S_q6_b1,Scr.den]
  rw[z6 ⟨om,trivial⟩,hp,ei]
  refine fin _ _ rfl ?_
  simp only[yh,yu,z8]
 ·have f:∀ q,F_q6i (nmF 0) q=some ():=fun q=>z6 ⟨dk,trivial⟩
  rw[y5 dk,y6 dk]
  simp only[f,obind]
  rfl
 ·have f:∀ q,F_q6j (nmF 1) q=some ():=fun q=>(z6 ⟨dk,trivial⟩).trans (z6 ⟨dk,trivial⟩)
  rw[y5 dk,y5 dk,y6 dk]
  simp only[f,obind]
  rfl
 ·have f:∀ q,F_q6k (nmF 2) q=some ():=fun q=>(z6 ⟨dk,trivial⟩).trans ((z6 ⟨dk,trivial⟩).trans (z6 ⟨dk,trivial⟩))
  rw[y5 dk,y5 dk,y5 dk,y6 dk]
  simp only[f,obind]
  rfl
 ·have f:∀ q,F_q6l (nmF 3) q=some ():=fun q=>(z6 ⟨dk,trivial⟩).trans ((z6 ⟨dk,trivial⟩).trans ((z6 ⟨dk,trivial⟩).trans (z6 ⟨dk,trivial⟩)))
  rw[y5 dk,y5 dk,y5 dk,y5 dk,y6 dk]
  simp only[f,obind]
  rfl
 ·have f:∀ q,F_q6m (nmF 4) q=some ():=fun q=>(z6 ⟨dk,trivial⟩).trans ((z6 ⟨dk,trivial⟩).trans ((z6 ⟨dk,trivial⟩).trans ((z6 ⟨dk,trivial⟩).trans (z6 ⟨dk,trivial⟩))))
  rw[y5 dk,y5 dk,y5 dk,y5 dk,y5 dk,y6 dk]
  simp only[f,obind]
  rfl
 ·have f:∀ q,F_q6n (nmF 5) q=some ():=fun q=>(z6 ⟨dk,trivial⟩).trans ((z6 ⟨dk,trivial⟩).trans ((z6 ⟨dk,trivial⟩).trans ((z6 ⟨dk,trivial⟩).trans ((z6 ⟨dk,trivial⟩).trans (z6 ⟨dk,trivial⟩)))))
  rw[y5 dk,y5 dk,y5 dk,y5 dk,y5 dk,y5 dk,y6 dk]
  simp only[f,obind]
  rfl
 ·have f:∀ q,F_q6o (nmF 6) q=some ():=fun q=>(z6 ⟨dk,trivial⟩).trans ((z6 ⟨dk,trivial⟩).trans ((z6 ⟨dk,trivial⟩).trans ((z6 ⟨dk,trivial⟩).trans ((z6 ⟨dk,trivial⟩).trans ((z6 ⟨dk,trivial⟩).trans (z6 ⟨dk,trivial⟩))))))
  rw[y5 dk,y5 dk,y5 dk,y5 dk,y5 dk,y5 dk,y5 dk,y6 dk]
  simp only[f,obind]
  rfl
 ·have f:∀ q,F_q6p (nmF 7) q=some ():=fun q=>(z6 ⟨dk,trivial⟩).trans ((z6 ⟨dk,trivial⟩).trans ((z6 ⟨dk,trivial⟩).trans ((z6 ⟨dk,trivial⟩).trans ((z6 ⟨dk,trivial⟩).trans ((z6 ⟨dk,trivial⟩).trans ((z6 ⟨dk,trivial⟩).trans (z6 ⟨dk,trivial⟩)))))))
  rw[y5 dk,y5 dk,y5 dk,y5 dk,y5 dk,y5 dk,y5 dk,y5 dk]
  simp only[f,obind]
  rfl
theorem zn8 (hc:p.C.length<=1000000) (hb:rv1.length<=1000):∀ (ks:List Nat) (i:Nat) (l:List (List UInt8)) (r:TOp),l.length=rv1.length->i+1+ks.length=l.length->(∀ k∈ks,k<=8)->l.drop (i+1)=ks.map nmF ->
  ((∀ k∈ks,condF p k)->∃ l',rangeM (fun i s=>(S_q6_b1 p rv1 i s).den) ks.length i (l,r)=some (.next (l',ks.foldl clrF r))/\l'.length=l.length/\l'.take (i+1)=l.take (i+1)/\∀ x∈l',x∈l.take (i+1)\/∃ k∈ks,x=txtF p k) /\
  ((¬ ∀ k∈ks,condF p k)->rangeM (fun i s=>(S_q6_b1 p rv1 i s).den) ks.length i (l,r)=some (.ret [])):=by
 intro ks
 induction ks with
 | nil =>
  intro i l r hl hi _ hd
  refine⟨fun _=>⟨l,rfl,rfl,rfl,fun x hx=>.inl ?_⟩,fun h=>absurd (fun k hk=>nomatch hk) h⟩
  rw[y1x (by simp at hi; omega)]
  exact hx
 | cons k ks ih =>
  intro i l r hl hi h8 hd
  rw[yx] at hi
  have hlt:i+1<l.length:=om
  have hg:l.getD (0+1+i) default=nmF k:=by
   rw[show 0+1+i=i+1 from om,z13 hlt]
   have:=yk (fun z=>z[0]?) hd
   simpa [List.getElem?_drop,List.getElem?_eq_getElem hlt] using this
  have hs:=zrc (p:=p) (r:=r) (rv1:=rv1) hc hlt om (h8 k (y1t ..)) hg
  have hd2:(l.set (i+1) (txtF p k)).drop (i+1+1)=ks.map nmF:=by
   rw[List.drop_set_of_lt om]
   have:=yk (List.drop 1) hd
   simpa [List.drop_drop] using this
  obtain⟨g1,g2⟩:=ih (i+1) (l.set (i+1) (txtF p k)) (clrF r k) (by rw[yb]; exact hl) (by rw[yb]; omega) (fun x hx=>h8 x (y1c _ hx)) hd2
  simp only[yx,rangeM,hs]
  refine⟨fun h=>?_,fun h=>?_⟩
  ·rw[y6 (h k (y1t ..))]
   obtain⟨l',e1,e2,e3,e4⟩:=g1 fun x hx=>h x (y1c _ hx)
   refine⟨l',e1,by rw[e2,yb],?_,fun x hx=>?_⟩
   ·have:=yk (List.take (i+1)) e3
    rw[List.take_take,List.take_take,Nat.min_eq_left om,y5d om] at this
    exact this
   ·rcases e4 x hx with h1 | ⟨q,h1,h2⟩
    ·rw[y35,y5d om,y1j] at h1
     rcases h1 with h1 | h1
     ·exact .inl h1
     ·rw[y12 hlt] at h1
      exact .inr ⟨k,y1t ..,by simpa using h1⟩
    ·exact .inr ⟨q,y1c _ h1,h2⟩
  ·by_cases hk:condF p k
   ·rw[y6 hk]
    exact g2 fun h'=>h fun x hx=>by
     rcases y16.1 hx with rfl | hx
     ·exact hk
     ·exact h' x hx
   ·rw[y5 hk]
def partsK (k:Int):List Nat :=
 if k=1 then [8,0,1,2] else if k=2 then [3,1,2,4,5] else if k=3 then [3,1,2] else if k=4 then [3,1] else if k=5 then [3,2] else if k=6 then [3,2] else
 if k=7 then [8,0,2] else if k=8 then [8,0,6,7] else if k=9 then [3] else []
def wordK (k:Int):List UInt8 :=
 if k=1 then [114,101,115,101,114,118,101] else if k=2 then [99,111,109,109,105,116] else if k=3 then [118,101,114,105,102,121] else if k=4 then [111,114,100,101,114] else
 if k=5 then [114,101,108,101,97,115,101] else if k=6 then [100,114,111,112] else if k=7 then [114,101,116,117,114,110] else if k=8 then [104,101,97,114] else [114,101,116,117,114,110,101,100]
def zOp:TOp:=⟨0,[],0,0,0,0,0,0,0,0⟩
def unK (p:TOp):TOp:=⟨0,p.C,p.E,p.Aa,p.Of,p.S,p.Ah,p.Aj,p.A,p.Ae⟩
def POp (p:TOp):Prop:=(1<=p.P/\p.P<=9)/\(∀ k∈partsK p.P,condF p k)/\(partsK p.P).foldl clrF (unK p)=zOp
theorem zd5 {k:Int} (h:1<=k/\k<=9):k=1\/k=2\/k=3\/k=4\/k=5\/k=6\/k=7\/k=8\/k=9:=om
theorem zku {k:Int} (h:1<=k/\k<=9):∃ s,F_q45 k=some s/\F_q76 s=some (wordK k :: (partsK k).map nmF):=by
 rcases zd5 h with rfl | rfl | rfl | rfl | rfl | rfl | rfl | rfl | rfl <;> exact⟨_,rfl,z6 ⟨dk,dk⟩⟩
theorem zn9 {k:Int} (h:¬ (1<=k/\k<=9)):F_q45 k=some []:=by
 simp only[F_q45,S_q45,Scr.den]
 rw[y5 sk,y5 sk,y5 sk,y5 sk,y5 sk,y5 sk,y5 sk,y5 sk,y5 sk]
theorem zf9 (k:Int):∀ x∈partsK k,x<=8:=by
 unfold partsK
 repeat' split
 all_goals decide
theorem zkv (k:Int):(partsK k).length<=5:=by
 unfold partsK
 repeat' split
 all_goals decide
theorem zna (k:Int):0<(wordK k).length/\(wordK k).length<=8:=by
 unfold wordK
 repeat' split
 all_goals decide
theorem zal {B:Nat} {s:List UInt8}:∀ {l:List (List UInt8)},(∀ x∈l,x.length<=B)->(Lib.joinTail s l).length<=l.length * (s.length+B)
 | [],_=>by simp[Lib.joinTail]
 | x :: l,h=>by
  have h1:=h x sj
  have h2:=zal (s:=s) (l:=l) fun y hy=>h y (by simp[hy])
  have e:Lib.joinTail s (x :: l)=(s++x)++Lib.joinTail s l:=by simp[Lib.joinTail]
  rw[e,yo,yo,yx,y1h]
  omega
theorem zl {σ ρ α:Type} (s:σ) (k:σ->Option α) (kr:ρ->Option α):outM (some (.next s)) k kr=k s:=rfl
theorem zhi (a b:TOp):((a.P==b.P)&&((a.C==b.C)&&((a.E==b.E)&&((a.Aa==b.Aa)&&((a.Of==b.Of)&&((a.S==b.S)&&((a.Ah==b.Ah)&&((a.Aj==b.Aj)&&((a.A==b.A)&&((a.Ae==b.Ae)&&true))))))))))=true↔a=b:=by
 obtain⟨a0,a1,a2,a3,a4,a5,a6,a7,a8,a9⟩:=a
 obtain⟨b0,b1,b2,b3,b4,b5,b6,b7,b8,b9⟩:=b
 simp
theorem zp3 (h:condF p k):(txtF p k).length<=60:=by
 by_cases h8:k=8
 ·subst h8
  have:=z4h ((zd4 p).1 h)
  show p.C.length<=60
  omega
 ·rw[show txtF p k=Lib.itoa (getF p k) from y5 h8]
  have h1:=zhh k
  have h2:=(condN h8).1 h
  have:=Lib.itoa_length_le (getF p k) om om
  omega
theorem POp.len (h:POp p):p.C.length<=60:=by
 obtain⟨hk,hc,hz⟩:=h
 by_cases h8:8∈partsK p.P
 ·have:=hc 8 h8
  have:=z4h ((zd4 p).1 this)
  omega
 ·have key:∀ (ks:List Nat) (r:TOp),8 ∉ ks->(∀ k∈ks,k<=8)->(ks.foldl clrF r).C=r.C:=by
   intro ks
   induction ks with
   | nil=>intro r _ _; rfl
   | cons k ks ih =>
    intro r hk h9
    rw[y2v,ih _ (fun h=>hk (y1c _ h)) fun x hx=>h9 x (y1c _ hx)]
    have h1:k≠8:=fun e=>hk (e▸y1t ..)
    have h2:=h9 k (y1t ..)
    have:k=0\/k=1\/k=2\/k=3\/k=4\/k=5\/k=6\/k=7:=om
    rcases this with rfl | rfl | rfl | rfl | rfl | rfl | rfl | rfl <;> rfl
  have h2:=key (partsK p.P) (unK p) h8 (zf9 _)
  rw[hz] at h2
  have h3:(unK p).C=p.C:=rfl
  rw[<- h3,<- h2]
  decide
theorem zrd {x:List UInt8} {l:List (List UInt8)} (hx:0<x.length) (s:List UInt8):Lib.join (x :: l) s≠[]:=by
 rw[Lib.join_cons]
 intro h
 have:=yk List.length h
 rw[yo,y1p] at this
 omega
theorem zjo (hc:p.C.length<=1000000):(POp p->∃ t,F_q6 p=some t/\t≠[])/\(¬ POp p->F_q6 p=some []):=by
 by_cases hk:1<=p.P/\p.P<=9
 ·obtain⟨s,e1,e2⟩:=zku hk
  have hpl:=zkv p.P
  have hwl:=zna p.P
  have hn:(wordK p.P :: (partsK p.P).map nmF).length-1=(partsK p.P).length:=sj
  obtain⟨g1,g2⟩:=zn8 (p:=p) hc (rv1:=wordK p.P :: (partsK p.P).map nmF) sk (partsK p.P) 0 (wordK p.P :: (partsK p.P).map nmF) (unK p) rfl sk (zf9 _) sj
  have hS:F_q6 p=(outM (rangeM (fun i s=>(S_q6_b1 p (wordK p.P :: (partsK p.P).map nmF) i s).den) (partsK p.P).length 0 (wordK p.P :: (partsK p.P).map nmF,unK p)) (fun s=>if (!((s.2.P==0)&&((s.2.C==([]))&&((s.2.E==0)&&((s.2.Aa==0)&&((s.2.Of==0)&&((s.2.S==0)&&((s.2.Ah==0)&&((s.2.Aj==0)&&((s.2.A==0)&&((s.2.Ae==0)&&true)))))))))))=true then some [] else guardP (AllP [s.1.length<2 ^ 63]) ((F_q75 s.1 [32]).bind fun r=>some r)) (fun x=>some (id x))):=by
   simp only[F_q6,S_q6,Scr.den,e1,e2,obind]
   rw[y5 sk,z6 ⟨sj,trivial⟩,z6 ⟨sk,trivial⟩,hn]
   rfl
  rw[hS]
  by_cases h:∀ k∈partsK p.P,condF p k
  ·obtain⟨l',q1,q2,q3,q4⟩:=g1 h
   rw[q1]
   simp only[zl]
   have hz:=zhi ((partsK p.P).foldl clrF (unK p)) zOp
   by_cases hz':(partsK p.P).foldl clrF (unK p)=zOp
   ·have hb:=hz.2 hz'
    refine⟨fun _=>?_,fun hn=>absurd ⟨hk,h,hz'⟩ hn⟩
    rw[y5 (by
     intro hh
     rw[yg] at hh
     exact y5i (hh.symm.trans hb))]
    have hl:l'.length<=6:=by rw[q2]; simp; omega
    have hw:l'=wordK p.P :: l'.drop 1:=by
     conv=>lhs; rw[<- y2k 1 l']
     rw[show l'.take 1=[wordK p.P] by simpa using q3]
     rfl
    have hlen:∀ x∈l',x.length<=60:=fun x hx=>by
     rcases q4 x hx with h1 | ⟨k,h1,rfl⟩
     ·have:x=wordK p.P:=by simpa using h1
      rw[this]; omega
     ·exact zp3 (h k h1)
    have hj:(Lib.join l' [32]).length<=1000:=by
     rw[hw,Lib.join_cons,yo]
     have h1:=zal (B:=60) (s:=[32]) (l:=l'.drop 1) fun x hx=>hlen x (y3f hx)
     have h2:(l'.drop 1).length<=5:=by rw[y3a]; omega
     have h3:(l'.drop 1).length * (1+60)<=5 * 61:=yq _ h2
     simp only[yx,y1p] at h1
     omega
    have hl0:0<l'.length:=by rw[hw]; simp
    rw[z6 ⟨om,trivial⟩,show F_q75 l' [32]=some (Lib.join l' [32]) from z6 ⟨hl0,om,om⟩]
    refine⟨_,rfl,?_⟩
    rw[hw]
    exact zrd hwl.1 _
   ·refine⟨fun hp=>absurd hp.2.2 hz',fun _=>?_⟩
    rw[y6 (by
     rw[yg]
     exact y3r.2 fun hh=>hz' (hz.1 hh))]
  ·rw[g2 h]
   exact⟨fun hp=>absurd hp.2.1 h,fun _=>rfl⟩
 ·refine⟨fun hp=>absurd hp.1 hk,fun _=>?_⟩
  simp only[F_q6,S_q6,Scr.den,zn9 hk,obind]
  rw[show F_q76 []=some [] from z6 ⟨dk,dk⟩]
  rfl
open Classical in
theorem zd6 (hc:p.C.length<=1000000):F_q46 p=some (decide (POp p)):=by
 simp only[F_q46,S_q46,Scr.den]
 by_cases h:POp p
 ·obtain⟨t,e,ht⟩:=(zjo hc).1 h
  rw[e,ye h]
  simp only[obind]
  simp[ht]
 ·rw[(zjo hc).2 h,yi h]
  rfl
def numT (n:Int):Prop:=0<=n/\n<=1000000000000000
theorem zp4 (l:List Int) (c:Bool):((∀ x∈l,numT x)->rangeM (fun i s=>(S_q8_b1 (l,c) i s).den) l.length 0 ()=some (.next ()))/\((¬ ∀ x∈l,numT x)->rangeM (fun i s=>(S_q8_b1 (l,c) i s).den) l.length 0 ()=some (.ret false)):=by
 have ra:=zx (ρ:=Bool) (n:=l.length) (c:=false) (body:=fun i s=>(S_q8_b1 (l,c) i s).den) (fun i=>numT (l.getD i default)) (fun i hi h=>by
  simp only[S_q8_b1,Scr.den,z8]
  unfold numT at h
  rw[y5 (by simp only[yc,y7]; omega)]) (fun i hi h=>by
  simp only[S_q8_b1,Scr.den,z8]
  unfold numT at h
  rw[y6 (by simp only[yc,y7]; omega)])
 exact⟨fun h=>ra.1 fun j hj=>h _ (z7 hj),fun h=>ra.2 fun h'=>h (z3z (p:=numT) h')⟩
open Classical in
theorem z38 {q:TOp} {l:List Int} {c:Bool} (hk:1<=p.P/\p.P<=9) (hc:p.C.length<=1000000) (e1:F_q19 p=some (l,c)) (e2:F_q2 p.P p.C p.E l=some q) :
  F_q8 p=some (decide ((if c=true then good p.C=true/\0<=p.E/\p.E<=99 else p.C=[]/\p.E=0)/\(∀ x∈l,numT x)/\q=p)):=by
 simp only[F_q8,S_q8,Scr.den,e1,obind,z8,zb]
 rw[y5 (by simp only[yc,y7]; omega)]
 obtain⟨g1,g2⟩:=zp4 l c
 have fin:outM (rangeM (fun i s=>(S_q8_b1 (l,c) i s).den) l.length 0 ()) (fun _=>(F_q2 p.P p.C p.E l).bind fun r=>some ((r.P==p.P)&&((r.C==p.C)&&((r.E==p.E)&&((r.Aa==p.Aa)&&((r.Of==p.Of)&&((r.S==p.S)&&((r.Ah==p.Ah)&&((r.Aj==p.Aj)&&((r.A==p.A)&&((r.Ae==p.Ae)&&true))))))))))) (fun x=>some (id x))=some (decide ((∀ x∈l,numT x)/\q=p)):=by
  by_cases h:∀ x∈l,numT x
  ·rw[g1 h]
   simp only[zl,e2,obind]
   congr 1
   rw[y1k,zhi,y7]
   exact⟨fun k=>⟨h,k⟩,fun k=>k.2⟩
  ·rw[g2 h,yi (fun k=>h k.1)]
   rfl
 cases c
 ·rw[show ∀ {α:Type} (x:Option α) (d:α),optD [false=true] x d=some d from fun _ _=>y5 fun h=>y5i h.1]
  simp only[obind]
  by_cases h:p.C=[]/\p.E=0
  ·rw[y5 (by simp[h.1,h.2]),fin]
   congr 1
   rw[y1k,y7,y7,y5 sj]
   exact⟨fun k=>⟨h,k⟩,fun k=>k.2⟩
  ·rw[y6 (by
    by_cases h1:p.C=[]
    ·have h2:p.E≠0:=fun e=>h ⟨h1,e⟩
     simp[h1,h2]
    ·simp[h1]),yi (fun k=>h (by simpa using k.1))]
 ·rw[zf (by simp[AllP]),z2q om]
  simp only[obind]
  by_cases h:good p.C=true/\0<=p.E/\p.E<=99
  ·rw[y5 (by simp[h.1]; omega),fin]
   congr 1
   rw[y1k,y7,y7,y6 trivial]
   exact⟨fun k=>⟨h,k⟩,fun k=>k.2⟩
  ·rw[y6 (by
    by_cases h1:good p.C=true
    ·have h2:p.E<0\/99<p.E:=by
      rcases Int.lt_or_le p.E 0 with k | k
      ·exact .inl k
      ·exact .inr (y4n.1 fun k2=>h ⟨h1,k,k2⟩)
     rcases h2 with h2 | h2 <;> simp[h1,h2]
    ·simp[h1]),yi (fun k=>h (by simpa using k.1))]
open Classical in
theorem zam (hc:p.C.length<=1000000):F_q8 p=some (decide (POp p)):=by
 by_cases hk:¬ (1<=p.P/\p.P<=9)
 ·simp only[F_q8,S_q8,Scr.den,z8]
  rw[y6 (by simp only[yc,y7]; omega),yi (fun h=>hk h.1)]
 have hk:=Decidable.not_not.1 hk
 have z:∀ x:Int,decide (0=x)=decide (x=0):=fun x=>decide_eq_decide.2 eq_comm
 obtain⟨K,C,Y,D,O,A,P,U,G,B⟩:=p
 rcases zd5 hk with h | h | h | h | h | h | h | h | h <;> simp only at h <;> subst h
 ·have e1:F_q19 ⟨1,C,Y,D,O,A,P,U,G,B⟩=some ([D,A],true):=rfl
  have e2:F_q2 1 C Y [D,A]=some ⟨1,C,Y,D,0,A,0,0,0,0⟩:=by
   simp[F_q2,S_q2,Scr.den,guardP,AllP,outM]
  rw[z38 hk hc e1 e2]
  congr 1
  simp[POp,partsK,condF,getF,mostF,clrF,unK,zOp,numT]
  simp only[z]
  ac_rfl
 ·have e1:F_q19 ⟨2,C,Y,D,O,A,P,U,G,B⟩=some ([O,D,A,P,U],false):=rfl
  have e2:F_q2 2 C Y [O,D,A,P,U]=some ⟨2,C,Y,D,O,A,P,U,0,0⟩:=by
   simp[F_q2,S_q2,Scr.den,guardP,AllP,outM]
  rw[z38 hk hc e1 e2]
  congr 1
  simp[POp,partsK,condF,getF,mostF,clrF,unK,zOp,numT]
  simp only[z]
  ac_rfl
 ·have e1:F_q19 ⟨3,C,Y,D,O,A,P,U,G,B⟩=some ([O,D,A],false):=rfl
  have e2:F_q2 3 C Y [O,D,A]=some ⟨3,C,Y,D,O,A,0,0,0,0⟩:=by
   simp[F_q2,S_q2,Scr.den,guardP,AllP,outM]
  rw[z38 hk hc e1 e2]
  congr 1
  simp[POp,partsK,condF,getF,mostF,clrF,unK,zOp,numT]
  simp only[z]
  ac_rfl
 ·have e1:F_q19 ⟨4,C,Y,D,O,A,P,U,G,B⟩=some ([O,D],false):=rfl
  have e2:F_q2 4 C Y [O,D]=some ⟨4,C,Y,D,O,0,0,0,0,0⟩:=by
   simp[F_q2,S_q2,Scr.den,guardP,AllP,outM]
  rw[z38 hk hc e1 e2]
  congr 1
  simp[POp,partsK,condF,getF,mostF,clrF,unK,zOp,numT]
  simp only[z]
  ac_rfl
 ·have e1:F_q19 ⟨5,C,Y,D,O,A,P,U,G,B⟩=some ([O,A],false):=rfl
  have e2:F_q2 5 C Y [O,A]=some ⟨5,C,Y,0,O,A,0,0,0,0⟩:=by
   simp[F_q2,S_q2,Scr.den,guardP,AllP,outM]
  rw[z38 hk hc e1 e2]
  congr 1
  simp[POp,partsK,condF,getF,mostF,clrF,unK,zOp,numT]
  simp only[z]
  ac_rfl
 ·have e1:F_q19 ⟨6,C,Y,D,O,A,P,U,G,B⟩=some ([O,A],false):=rfl
  have e2:F_q2 6 C Y [O,A]=some ⟨6,C,Y,0,O,A,0,0,0,0⟩:=by
   simp[F_q2,S_q2,Scr.den,guardP,AllP,outM]
  rw[z38 hk hc e1 e2]
  congr 1
  simp[POp,partsK,condF,getF,mostF,clrF,unK,zOp,numT]
  simp only[z]
  ac_rfl
 ·have e1:F_q19 ⟨7,C,Y,D,O,A,P,U,G,B⟩=some ([A],true):=rfl
  have e2:F_q2 7 C Y [A]=some ⟨7,C,Y,0,0,A,0,0,0,0⟩:=by
   simp[F_q2,S_q2,Scr.den,guardP,AllP,outM]
  rw[z38 hk hc e1 e2]
  congr 1
  simp[POp,partsK,condF,getF,mostF,clrF,unK,zOp,numT]
  simp only[z]
  ac_rfl
 ·have e1:F_q19 ⟨8,C,Y,D,O,A,P,U,G,B⟩=some ([G,B],true):=rfl
  have e2:F_q2 8 C Y [G,B]=some ⟨8,C,Y,0,0,0,0,0,G,B⟩:=by
   simp[F_q2,S_q2,Scr.den,guardP,AllP,outM]
  rw[z38 hk hc e1 e2]
  congr 1
  simp[POp,partsK,condF,getF,mostF,clrF,unK,zOp,numT]
  simp only[z]
  ac_rfl
 ·have e1:F_q19 ⟨9,C,Y,D,O,A,P,U,G,B⟩=some ([O],false):=rfl
  have e2:F_q2 9 C Y [O]=some ⟨9,C,Y,0,O,0,0,0,0,0⟩:=by
   simp[F_q2,S_q2,Scr.den,guardP,AllP,outM]
  rw[z38 hk hc e1 e2]
  congr 1
  simp[POp,partsK,condF,getF,mostF,clrF,unK,zOp,numT]
  simp only[z]
  ac_rfl
def newO (n:Int):TOf:=⟨n,[],nb⟩
theorem z6m (h:1<=n/\n<=6):VO (newO n):=(zn5 h.1 h.2).1
noncomputable def runO (o:TOf) (l:List TOp):TOf:=l.foldl (fun o p=>(doS o p).1) o
def Runs:TOf->List TOp->Prop
 | _,[]=>True
 | o,p :: l=>(POp p/\(doS o p).2=0)/\Runs (doS o p).1 l
theorem z87:∀ {l:List TOp} {o:TOf} {p:TOp},Runs o (l++[p])↔Runs o l/\POp p/\(doS (runO o l) p).2=0
 | [],o,p=>⟨fun h=>⟨trivial,h.1⟩,fun h=>⟨h.2,trivial⟩⟩
 | q :: l,o,p=>by
  show ((POp q/\(doS o q).2=0)/\Runs (doS o q).1 (l++[p]))↔_
  rw[z87]
  exact⟨fun h=>⟨⟨h.1,h.2.1⟩,h.2.2⟩,fun h=>⟨h.1.1,h.1.2,h.2⟩⟩
theorem zbw (o:TOf) (l l':List TOp):runO o (l++l')=runO (runO o l) l':=List.foldl_append ..
theorem zan (o:TOf) (l:List TOp) (p:TOp):runO o (l++[p])=(doS (runO o l) p).1:=by rw[zbw]; rfl
theorem z9b:∀ {l l':List TOp} {o:TOf},Runs o (l++l')↔Runs o l/\Runs (runO o l) l'
 | [],l',o=>⟨fun h=>⟨trivial,h⟩,fun h=>h.2⟩
 | q :: l,l',o=>by
  show ((POp q/\(doS o q).2=0)/\Runs (doS o q).1 (l++l'))↔_
  rw[z9b]
  exact⟨fun h=>⟨⟨h.1,h.2.1⟩,h.2.2⟩,fun h=>⟨h.1.1,h.1.2,h.2⟩⟩
theorem z3p {l:List TOp} (h:Runs o l) (n:Nat):Runs o (l.take n):=by
 rw[<- y2k n l] at h
 exact (z9b.1 h).1
theorem zjp {l:List TOp} (h:Runs o l) (hi:i<l.length):POp (l.getD i default)/\(doS (runO o (l.take i)) (l.getD i default)).2=0:=by
 have h1:=z3p h (i+1)
 rw[y35,ya hi] at h1
 have:=(z87.1 h1).2
 rwa [<- z13 hi] at this
theorem z8i:∀ {l:List TOp} {o:TOf},VO o->Runs o l->VO (runO o l)
 | [],_,h,_=>h
 | q :: l,o,_,h=>show VO (runO (doS o q).1 l) from z8i (zb6 h.1.2) h.2
theorem zfa {l:List TOp} (hi:i<l.length):l.take (i+1)=l.take i++[l.getD i default]:=by
 rw[y35,ya hi,z13 hi]
 rfl
theorem zhj (hv:VO o) (h:1<=p.P/\p.P<=9) (hc:p.C.length<=1000000):F_q3r o p=some (doS o p):=by
 rw[zr9 hv hv.smO hc,z8h hv h]
theorem zfb (hn:1<=n/\n<=6) {l:List TOp} (h:Runs (newO n) l):F_q1d n l=some (runO (newO n) l,(l.length:Int),0):=by
 simp only[F_q1d,S_q1d,Scr.den]
 obtain⟨o,e,ho⟩:=zi (body:=fun i s=>(S_q1d_b1 l i s).den) (n:=l.length) (fun i o=>o=runO (newO n) (l.take i)) (s0:=newO n) rfl (fun i o hi ho=>by
  obtain⟨h1,h2⟩:=zjp h hi
  subst ho
  have hv:=z8i (z6m hn) (z3p h i)
  have hl:=h1.len
  simp only[S_q1d_b1,Scr.den]
  rw[zd6 om,@decide_eq_true _ (_) h1]
  simp only[obind]
  rw[y5 dk,zhj hv h1.1 om]
  simp only[obind]
  rw[y5 (by rw[h2]; decide)]
  exact⟨_,rfl,by rw[zfa hi,zan]⟩)
 rw[y1x (yf _)] at ho
 subst ho
 have e:rangeM (fun i s=>(S_q1d_b1 l i s).den) l.length 0 (⟨n,[],(⟨[],[],[],[]⟩:TBo)⟩:TOf)=some (.next (runO (newO n) l)):=e
 rw[e]
 rfl
def VJ (j:TJo):Prop:=(1<=j.Z/\j.Z<=6)/\j.Ad.length<=400/\(0<=j.Ag/\j.Ag<=j.Ad.length)/\Runs (newO j.Z) j.Ad
noncomputable def nowJ (j:TJo):TOf:=runO (newO j.Z) j.Ad
noncomputable def stbJ (j:TJo):TOf:=runO (newO j.Z) (j.Ad.take j.Ag.toNat)
variable {j:TJo}
theorem VJ.now (h:VJ j):VO (nowJ j):=z8i (z6m h.1) h.2.2.2
theorem VJ.stb (h:VJ j):VO (stbJ j):=z8i (z6m h.1) (z3p h.2.2.2 _)
theorem z6d (h:VJ j):F_q39 j=some (nowJ j,0):=by
 obtain⟨h1,h2,h3,h4⟩:=h
 simp only[F_q39,S_q39,Scr.den,F_q6h,S_q6h,zb,obind]
 rw[y5 sk,zfb h1 h4]
 rfl
theorem z4z (h:VJ j):F_q3s j=some true:=by
 simp only[F_q3s,S_q3s,Scr.den,z6d h,obind]
 rfl
theorem zbx (h:VJ j):F_q4f j=some (stbJ j,0):=by
 have hv:=z4z h
 obtain⟨h1,h2,h3,h4⟩:=h
 simp only[F_q4f,S_q4f,Scr.den,hv,obind]
 rw[y5 dk,zfb h1 (z3p h4 _)]
 simp only[obind]
 rw[z6 ⟨h3.1,om,trivial⟩]
 rfl
theorem cloneOp {l:List TOp} (hl:l.length<=1000000):F_q4j l=some l:=by
 simp only[F_q4j,S_q4j,Scr.den]
 rw[z6 ⟨om,trivial⟩]
theorem zkw {l:List TOp} (hl:l.length<=1000000):F_q60 l=some l:=by
 simp only[F_q60,S_q60,Scr.den]
 rw[z6 ⟨om,trivial⟩]
def zJ:TJo:=⟨0,[],0⟩
open Classical in
noncomputable def appendS (j:TJo) (p:TOp):TJo×Int :=
 if ¬ POp p then (zJ,1) else if (doS (nowJ j) p).2≠0 then (zJ,(doS (nowJ j) p).2) else if j.Ad.length=400 then (zJ,3) else (⟨j.Z,j.Ad++[p],j.Ag⟩,0)
theorem z47 (hp:¬ POp p):appendS j p=(zJ,1):=y6 hp
theorem z48 (hp:POp p) (h:(doS (nowJ j) p).2≠0):appendS j p=(zJ,(doS (nowJ j) p).2):=(y5 fun k=>k hp).trans (y6 h)
theorem z3q (hp:POp p) (h:(doS (nowJ j) p).2=0) (hl:j.Ad.length=400):appendS j p=(zJ,3):=(y5 fun k=>k hp).trans ((y5 fun k=>k h).trans (y6 hl))
theorem z39 (hp:POp p) (h:(doS (nowJ j) p).2=0) (hl:j.Ad.length≠400):appendS j p=(⟨j.Z,j.Ad++[p],j.Ag⟩,0):=(y5 fun k=>k hp).trans ((y5 fun k=>k h).trans (y5 hl))
theorem zby (h:VJ j) (hc:p.C.length<=1000000):F_q4i j p=some (appendS j p):=by
 have hv:=h.now
 simp only[F_q4i,S_q4i,Scr.den,z6d h,obind]
 rw[zf (by simp[AllP]),zd6 hc]
 simp only[obind,z8]
 by_cases hp:POp p
 ·rw[@decide_eq_true _ (_) hp,y5 sj,zhj hv hp.1 hc]
  simp only[obind]
  by_cases h0:(doS (nowJ j) p).2=0
  ·rw[y5 (by simp[h0])]
   by_cases hl:j.Ad.length=400
   ·rw[y6 (by simp[hl]),z3q hp h0 hl]
    rfl
   ·rw[y5 sk,z39 hp h0 hl]
    simp only[F_q6y,S_q6y,Scr.den,zkw (show j.Ad.length<=1000000 by have:=h.2.1; omega),obind]
    rw[z6 ⟨by have:=h.2.1; show (j.Ad.length+1) * (2 * 88)<=2 ^ 48; omega,trivial⟩,z6 ⟨by have:=h.2.1; rw[yo]; simp; omega,trivial⟩]
  ·rw[y6 (by simpa using h0),z48 hp h0]
   rfl
 ·rw[@decide_eq_false _ (_) hp,y6 sj,z47 hp]
  rfl
def flushJ (j:TJo):TJo:=⟨j.Z,j.Ad,(j.Ad.length:Int)⟩
def crashJ (j:TJo):TJo:=⟨j.Z,j.Ad.take j.Ag.toNat,j.Ag⟩
theorem zkx (h:VJ j):F_q62 j=some (flushJ j):=by
 have hl:=h.2.1
 simp only[F_q62,S_q62,Scr.den,z4z h,obind,yz,zl]
 simp only[F_q3u,S_q3u,Scr.den,cloneOp (show j.Ad.length<=1000000 from om),obind]
 rfl
theorem zky (h:VJ j):F_q63 j=some (crashJ j):=by
 have hl:=h.2.1
 have hf:=h.2.2.1
 simp only[F_q63,S_q63,Scr.den,z4z h,obind,yz]
 rw[z6 ⟨hf.1,om,trivial⟩]
 simp only[zl]
 simp only[F_q3u,S_q3u,Scr.den,cloneOp (show (j.Ad.take j.Ag.toNat).length<=1000000 by rw[y1f]; omega),obind]
 rfl
theorem zfc (h:VJ j) (h0:(appendS j p).2=0):VJ (appendS j p).1/\appendS j p=(⟨j.Z,j.Ad++[p],j.Ag⟩,0)/\POp p/\(doS (nowJ j) p).2=0:=by
 by_cases hp:POp p
 ·by_cases h1:(doS (nowJ j) p).2=0
  ·by_cases hl:j.Ad.length=400
   ·rw[z3q hp h1 hl] at h0; cases h0
   ·rw[z39 hp h1 hl]
    obtain⟨q1,q2,q3,q4⟩:=h
    refine⟨⟨q1,?_,⟨q3.1,?_⟩,z87.2 ⟨q4,hp,h1⟩⟩,rfl,hp,h1⟩
    ·show (j.Ad++[p]).length<=400
     rw[yo]; simp; omega
    ·show j.Ag<=((j.Ad++[p]).length:Int)
     have h7:(j.Ad++[p]).length=j.Ad.length+1:=sj
     have h8:=q3.2
     omega
  ·rw[z48 hp h1] at h0
   exact absurd h0 h1
 ·rw[z47 hp] at h0; cases h0
theorem z9c:nowJ ⟨j.Z,j.Ad++[p],j.Ag⟩=(doS (nowJ j) p).1:=zan ..
theorem zd7 (h:VJ j):stbJ ⟨j.Z,j.Ad++[p],j.Ag⟩=stbJ j:=by
 unfold stbJ
 have:=h.2.2.1
 rw[List.take_append_of_le_length (show j.Ag.toNat<=j.Ad.length from om)]
theorem zp5 (h:VJ j):VJ (flushJ j):=⟨h.1,h.2.1,⟨by show (0:Int)<=(j.Ad.length:Int); omega,y1e _⟩,h.2.2.2⟩
theorem znb (j:TJo):nowJ (flushJ j)=nowJ j:=rfl
theorem zfd (j:TJo):stbJ (flushJ j)=nowJ j:=by
 unfold stbJ nowJ flushJ
 simp only[yh]
 rw[y1x (yf _)]
theorem zp6 (h:VJ j):VJ (crashJ j):=by
 obtain⟨h1,h2,h3,h4⟩:=h
 refine⟨h1,?_,⟨h3.1,?_⟩,z3p h4 _⟩
 ·show (j.Ad.take j.Ag.toNat).length<=400
  rw[y1f]; omega
 ·show j.Ag<=((j.Ad.take j.Ag.toNat).length:Int)
  rw[y1f]; omega
theorem znc (j:TJo):nowJ (crashJ j)=stbJ j:=rfl
theorem zfe (j:TJo):stbJ (crashJ j)=stbJ j:=by
 unfold stbJ crashJ
 simp only
 rw[List.take_take,Nat.min_self]
theorem zjq:hasR (putL l r) c y=true↔hasR l c y=true\/(r.C=c/\r.E=y):=by
 constructor
 ·intro h
  obtain⟨x,hx,h1,h2⟩:=has_iff.1 h
  rcases ze8 hx with rfl | hx
  ·exact .inr ⟨h1,h2⟩
  ·exact .inl (has_iff.2 ⟨x,hx,h1,h2⟩)
 ·rintro (h | ⟨h1,h2⟩)
  ·exact zjl h
  ·exact has_iff.2 ⟨r,z7a l r,h1,h2⟩
theorem z3r (h0:(doS o p).2=0):(doS o p).1.L=o.L/\∀ c y,
  (hasR (doS o p).1.H c y=true↔hasR o.H c y=true\/(p.P=8/\p.C=c/\p.E=y)) /\
  (rightV (doS o p).1.H c y).A=(if p.P=8/\p.C=c/\p.E=y then max (rightV o.H c y).A p.A else (rightV o.H c y).A) /\
  (rightV (doS o p).1.H c y).I=(if p.P=8/\p.C=c/\p.E=y then max (rightV o.H c y).I p.Ae else (rightV o.H c y).I) /\
  (rightV (doS o p).1.H c y).N=(if p.P=7/\p.C=c/\p.E=y then (rightV o.H c y).N+p.S else (rightV o.H c y).N) /\
  (p.P=7/\p.C=c/\p.E=y->hasR o.H c y=true/\1<=p.S):=by
 obtain⟨hv,_,e⟩:=zb5 h0
 rw[e] at h0 |-
 by_cases c8:p.P=8
 ·have e8:stepS o p=hearS o p:=by unfold stepS; rw[y6 c8]
  rw[e8] at h0 |-
  obtain⟨r,e1,hr,h1,h2,h3,_⟩:=z8g hv h0
  rw[e1]
  refine⟨rfl,fun c y=>?_⟩
  have hr':=z6c (l:=o.H) hv.srt hv.ok hr c y
  have k7:¬ (p.P=7/\p.C=c/\p.E=y):=fun k=>om
  rw[y5 k7]
  refine⟨?_,?_,?_,?_,fun k=>absurd k k7⟩
  ·rw[zjq,h1,h2]
   exact⟨fun k=>k.imp_right fun q=>⟨c8,q⟩,fun k=>k.imp_right fun q=>q.2⟩
  all_goals
   rw[hr']
   by_cases k:p.C=c/\p.E=y
   ·rw[y6 (show r.C=c/\r.E=y by rw[h1,h2]; exact k)]
    try rw[y6 (show p.P=8/\p.C=c/\p.E=y from ⟨c8,k⟩)]
    obtain⟨rfl,rfl⟩:=k
    rw[h3]
    try simp only
    try (split <;> omega)
   ·rw[y5 (show ¬ (r.C=c/\r.E=y) by rw[h1,h2]; exact k)]
    try rw[y5 (show ¬ (p.P=8/\p.C=c/\p.E=y) from fun q=>k q.2)]
 by_cases c7:p.P=7
 ·have e7:stepS o p=giveS o p:=by unfold stepS; rw[y5 c8,y6 c7]
  rw[e7] at h0 |-
  obtain⟨g1,g2,_,r,e1,hr,h3,_⟩:=zjn hv h0
  rw[e1]
  refine⟨rfl,fun c y=>?_⟩
  have h1:r.C=p.C:=by rw[h3]
  have h2:r.E=p.E:=by rw[h3]
  have hr':=z6c (l:=o.H) hv.srt hv.ok hr c y
  have k8:¬ (p.P=8/\p.C=c/\p.E=y):=fun k=>c8 k.1
  rw[y5 k8,y5 k8]
  refine⟨?_,?_,?_,?_,fun k=>⟨by rw[<- k.2.1,<- k.2.2]; exact g1,g2⟩⟩
  ·rw[zjq,h1,h2]
   refine⟨fun k=>k.elim .inl fun q=>.inl ?_,fun k=>k.elim .inl fun q=>absurd q k8⟩
   rw[<- q.1,<- q.2]
   exact g1
  all_goals
   rw[hr']
   by_cases k:p.C=c/\p.E=y
   ·rw[y6 (show r.C=c/\r.E=y by rw[h1,h2]; exact k)]
    try rw[y6 (show p.P=7/\p.C=c/\p.E=y from ⟨c7,k⟩)]
    obtain⟨rfl,rfl⟩:=k
    rw[h3]
   ·rw[y5 (show ¬ (r.C=c/\r.E=y) by rw[h1,h2]; exact k)]
    try rw[y5 (show ¬ (p.P=7/\p.C=c/\p.E=y) from fun q=>k q.2)]
 obtain⟨e1,_⟩:=zjm hv ⟨c7,c8⟩ h0
 rw[e1]
 refine⟨rfl,fun c y=>?_⟩
 have k8:¬ (p.P=8/\p.C=c/\p.E=y):=fun k=>c8 k.1
 have k7:¬ (p.P=7/\p.C=c/\p.E=y):=fun k=>c7 k.1
 rw[y5 k8,y5 k8,y5 k7]
 exact⟨⟨.inl,fun k=>k.elim id fun q=>absurd q k8⟩,rfl,rfl,rfl,fun k=>absurd k k7⟩
theorem zsn (h0:(doS o p).2=0):(doS o p).1.L=o.L:=(z3r h0).1
def LeO (a b:TOf):Prop:=∀ c y,(hasR a.H c y=true->hasR b.H c y=true)/\(rightV a.H c y).A<=(rightV b.H c y).A/\(rightV a.H c y).I<=(rightV b.H c y).I/\(rightV a.H c y).N<=(rightV b.H c y).N
theorem LeO.refl (a:TOf):LeO a a:=fun _ _=>⟨id,y1e _,y1e _,y1e _⟩
theorem LeO.trans {a b c:TOf} (h:LeO a b) (h':LeO b c):LeO a c:=fun d y=>by
 obtain⟨h1,h2,h3,h4⟩:=h d y
 obtain⟨g1,g2,g3,g4⟩:=h' d y
 exact⟨fun k=>g1 (h1 k),om,om,om⟩
theorem zq3 (h0:(doS o p).2=0):LeO o (doS o p).1:=fun c y=>by
 obtain⟨h1,h2,h3,h4,h5⟩:=(z3r h0).2 c y
 rw[h2,h3,h4]
 refine⟨fun k=>h1.2 (.inl k),?_,?_,?_⟩
 ·split <;> omega
 ·split <;> omega
 ·split
  ·have:=(h5 ‹_›).2; omega
  ·omega
theorem zjr:∀ {l:List TOp} {o:TOf},Runs o l->LeO o (runO o l)
 | [],o,_=>LeO.refl o
 | q :: l,o,h=>show LeO o (runO (doS o q).1 l) from (zq3 h.1.2).trans (zjr h.2)
theorem zd8 (h:VJ j):LeO (stbJ j) (nowJ j):=by
 have h4:=h.2.2.2
 unfold stbJ nowJ
 rw[<- y2k j.Ag.toNat j.Ad] at h4
 have h5:=(z9b.1 h4).2
 have:=zjr h5
 rwa [<- zbw,y2k] at this
end Go.Proofs.YtdmddkbngmhepaaGreatDoor
namespace Go.Proofs.YtdmddkbngmhepaaGreatDoor.J13
open Go Go.TA
open Go.IntKind (i64)
def tot (n:Int):Prop:=0<=n/\n<=1000000000000000
instance (n:Int):Decidable (tot n):=by unfold tot; infer_instance
theorem zd9 (l:List Int) (a:Int):l.foldl (fun s x=>i64.wrap (s+x)) (i64.wrap a)=i64.wrap (a+l.sum):=by
 induction l generalizing a with
 | nil=>simp
 | cons x l ih=>rw[y2v,z5z,ih,y37,y5k]
theorem z7u:i64.wrap 0=0:=wrapId om om
theorem zhk (l:List Int):F_qx l=some (i64.wrap l.sum):=by
 have e:=zd9 l 0
 rw[z7u,Int.zero_add] at e
 simp only[F_qx,S_qx,Scr.den]
 rw[z1k (ρ:=Int) (body:=fun i s=>(S_qx_b1 l i s).den) l (fun (s:Int) x=>i64.wrap (s+x)) (fun i s hi=>rfl)]
 simp only[outM,e]
variable {c:List UInt8}
theorem zhl (hc:c.length<=1000000) (y:Int):F_q2a c y=some (good c&&decide (0<=y/\y<=99)):=by
 have hg:=z2m c
 simp only[F_q2a,S_q2a,Scr.den,z2r (l:=c) om,obind,zb]
 have e:decide (((parts c).length:Int)>0)=good c:=by rw[<- hg]; simp
 rw[e]
 cases good c with
 | true=>rw[zf (by simp[AllP])]; simp[zy]
 | false=>rw[zq (by simp[AllP])]; simp
theorem z88 (n:Int):F_q1b n=some (decide (tot n)):=by rw[z3h]; rfl
theorem z3n (n:Int):F_qc n=some (decide (tot n)):=by
 simp only[F_qc,S_qc,Scr.den,zb]
 congr 1
 by_cases h:tot n
 ·rw[ye h,ye h.1,ye h.2]; rfl
 ·rw[yi h]
  unfold tot at h
  simp only[y3o,y9,y3v]
  omega
def rowT (l:List Int):Bool:=l.all fun x=>decide (tot x)
theorem zhm (l:List Int):F_q2l l=some (if rowT l=true then -1 else ((l.findIdx fun x=>!decide (tot x):Nat):Int)):=by
 simp only[F_q2l,S_q2l,Scr.den]
 rw[z74 l (fun x=>!decide (tot x)) (fun i=>(i:Int)) (fun i hi=>by
  simp only[S_q2l_b1,F_q6f,S_q6f,Scr.den,z88,obind]
  split <;> rfl)]
 have e:(l.any fun x=>!decide (tot x))=!rowT l:=by rw[rowT,List.all_eq_not_any_not,Bool.not_not]
 rw[e]
 cases rowT l <;> rfl
theorem zio (l:List Int):F_q5b l=some (!rowT l):=by
 simp only[F_q5b,S_q5b,Scr.den,zhm,obind]
 congr 1
 cases rowT l with
 | true=>rfl
 | false=>simp
variable {l:List Int}
theorem z7b:rowT l=true↔∀ x∈l,tot x:=by simp[rowT]
def rowOk (n:Int) (l:List Int):Prop:=(l.length:Int)=n/\∀ x∈l,tot x
instance (n:Int) (l:List Int):Decidable (rowOk n l):=by unfold rowOk; infer_instance
def leRow (a b:List Int):Prop:=∀ i,i<b.length->a.getD i default<=b.getD i default
instance (a b:List Int):Decidable (leRow a b):=by unfold leRow; infer_instance
def PotOk (n:Int) (p:TPo):Prop:=good p.C=true/\(0<=p.E/\p.E<=99)/\(-1000000000000000<=p.V/\p.V<=1000000000000000) /\
 (rowOk n p.A/\rowOk n p.J/\rowOk n p.I/\rowOk n p.T)/\(leRow p.J p.A/\leRow p.I p.A)/\p.A.sum<=1000000000000000
instance (n:Int) (p:TPo):Decidable (PotOk n p):=by unfold PotOk; infer_instance
theorem z4q (h:∀ x∈l,tot x):0<=l.sum/\l.sum<=l.length * 1000000000000000:=by
 induction l with
 | nil=>simp
 | cons x l ih =>
  have h1:=h x sj
  have h2:=ih fun y hy=>h y (by simp[hy])
  unfold tot at h1
  simp only[y37,yx]
  omega
variable {n:Int}
theorem zhn (h:rowOk n l) (hn:n<=6):i64.wrap l.sum=l.sum:=by
 have:=z4q h.2
 have:=h.1
 exact wrapId om om
theorem znd (p:TPo) (n:Int):rangeM (fun i s=>(S_qg_b1 p n i s).den) 4 0 () =
  some (if rowOk n p.A/\rowOk n p.J/\rowOk n p.I/\rowOk n p.T then .next () else .ret false):=by
 have one:∀ i (l:List Int),([p.A,p.J,p.I,p.T]:List (List Int)).getD i default=l->(S_qg_b1 p n i ()).den=some (if rowOk n l then .cont () else .ret false):=fun i l hl=>by
  simp only[S_qg_b1,Scr.den,hl,z8]
  by_cases h1:(l.length:Int)=n
  ·rw[zf (by simp[AllP,h1]),zio]
   simp only[obind,h1,bne_self_eq_false,y3i]
   by_cases h2:rowT l=true
   ·rw[h2,y5 sj,y6 ⟨h1,z7b.1 h2⟩]
   ·rw[y6 (by simpa using h2),y5 fun h=>h2 (z7b.2 h.2)]
  ·rw[zq (by simp[AllP,h1])]
   simp only[obind]
   rw[y6 (by simp[h1]),y5 fun h=>h1 h.1]
 rw[show (4:Nat)=0+1+1+1+1 from rfl]
 simp only[rangeM,one 0 p.A rfl,one (0+1) p.J rfl,one (0+1+1) p.I rfl,one (0+1+1+1) p.T rfl]
 by_cases h1:rowOk n p.A <;> by_cases h2:rowOk n p.J <;> by_cases h3:rowOk n p.I <;> by_cases h4:rowOk n p.T <;> simp[h1,h2,h3,h4]
variable {p:TPo}
theorem zp7 (hc:p.C.length<=1000000) (hn:n<=6):F_qg p n=some (decide (PotOk n p)):=by
 simp only[F_qg,S_qg,Scr.den,zhl hc,obind,z8]
 by_cases h1:(good p.C&&decide (0<=p.E/\p.E<=99))=true
 ·rw[zf (by rw[h1]; exact⟨rfl,trivial⟩),zy]
  simp only[obind,h1,y2r,y3i]
  by_cases h2:-1000000000000000<=p.V/\p.V<=1000000000000000
  ·rw[y5 (by simpa using h2),znd]
   by_cases h3:rowOk n p.A/\rowOk n p.J/\rowOk n p.I/\rowOk n p.T
   ·rw[y6 h3]
    simp only[outM]
    have l1:=h3.1.1; have l2:=h3.2.1.1; have l3:=h3.2.2.1.1
    have ra:=zx (ρ:=Bool) (n:=p.A.length) (c:=false) (body:=fun i s=>(S_qg_b2 p i s).den) (fun i=>p.J.getD i default<=p.A.getD i default/\p.I.getD i default<=p.A.getD i default) (fun i hi hp=>by
     simp only[S_qg_b2,Scr.den,z8]
     rw[z6 (by simp only[AllP,yw]; exact⟨om,fun _=>om⟩),y5 (by simp only[yc,y7]; omega)]) (fun i hi hp=>by
     simp only[S_qg_b2,Scr.den,z8]
     rw[z6 (by simp only[AllP,yw]; exact⟨om,fun _=>om⟩),y6 (by simp only[yc,y7]; omega)])
    by_cases h4:∀ j,j<p.A.length->p.J.getD j default<=p.A.getD j default/\p.I.getD j default<=p.A.getD j default
    ·rw[ra.1 h4]
     simp only[zhk,obind,zhn h3.1 hn]
     congr 1
     refine decide_eq_decide.2 ⟨fun h=>?_,fun h=>h.2.2.2.2.2⟩
     simp only[yl,y7] at h1
     exact⟨h1.1,h1.2,h2,h3,⟨fun i hi=>(h4 i hi).1,fun i hi=>(h4 i hi).2⟩,h⟩
    ·rw[ra.2 h4]
     show some false=_
     rw[yi fun h=>h4 fun j hj=>⟨h.2.2.2.2.1.1 j hj,h.2.2.2.2.1.2 j hj⟩]
   ·rw[y5 h3]
    simp only[outM]
    rw[yi fun h=>h3 h.2.2.2.1]
    rfl
  ·rw[y6 (by simp only[yg,y9]; exact h2),yi fun h=>h2 h.2.2.1]
 ·rw[zq (by rw[y4x] at h1; rw[h1]; simp[AllP])]
  simp only[obind]
  rw[y6 (by rw[y4x] at h1; rw[h1]; rfl),yi fun h=>h1 (by simp[h.1,h.2.1])]
variable {ρ:Type}
theorem zda {α σ:Type} [Inhabited α] {body:Nat->σ->Option (Step σ ρ)} (l:List α) (ok:Nat->Prop) [DecidablePred ok] (g:σ->α->σ) {c:ρ} {s0:σ} (hs:∀ i s,i<l.length->body i s=some (if ok i then .cont (g s (l.getD i default)) else .ret c)) :
  rangeM body l.length 0 s0=some (if (∀ i,i<l.length->ok i) then .next (l.foldl g s0) else .ret c):=by
 by_cases h:∀ i,i<l.length->ok i
 ·rw[y6 h]
  exact z1k l g fun i s hi=>by rw[hs i s hi,y6 (h i hi)]
 ·rw[y5 h]
  have key:∀ (k i:Nat) (s:σ),i+k=l.length->(¬ ∀ j,i<=j->j<l.length->ok j)->rangeM body k i s=some (.ret c):=by
   intro k
   induction k with
   | zero=>intro i s hk hn; exact absurd (fun j h1 h2=>om) hn
   | succ k ih =>
    intro i s hk hn
    simp only[rangeM,hs i s om]
    by_cases ho:ok i
    ·rw[y6 ho]
     refine ih (i+1) _ om fun hall=>hn fun j h1 h2=>?_
     by_cases hj:j=i
     ·subst hj; exact ho
     ·exact hall j om h2
    ·rw[y5 ho]
  exact key l.length 0 s0 om fun hall=>h fun i hi=>hall i om hi
def okP (g h a u:Int):Prop:=tot g/\tot h/\tot a/\tot u/\h<=g/\a<=g
instance (g h a u:Int):Decidable (okP g h a u):=by unfold okP; infer_instance
variable {i:Nat}
theorem zp8 {s:Int} (h1:i<p.J.length) (h2:i<p.I.length) (h3:i<p.T.length) :
  (S_q1h_b1 p i s).den=some (if okP (p.A.getD i default) (p.J.getD i default) (p.I.getD i default) (p.T.getD i default) then .cont (i64.wrap (s+p.A.getD i default)) else .ret false):=by
 simp only[S_q1h_b1,Scr.den,z3n,obind,z8]
 simp only[h1,h2,h3,implies_true]
 generalize p.A.getD i default=g
 generalize p.J.getD i default=h
 generalize p.I.getD i default=a
 generalize p.T.getD i default=u
 by_cases hA:tot g
 ·by_cases hB:tot h
  ·by_cases hC:tot a
   ·by_cases hD:tot u
    ·by_cases hE:h<=g
     ·by_cases hF:a<=g
      ·rw[y6 ⟨hA,hB,hC,hD,hE,hF⟩]
       simp[optD,AllP,hA,hB,hC,hD,guardP,Int.not_lt.2 hE,Int.not_lt.2 hF]
      ·rw[y5 fun h=>hF h.2.2.2.2.2]
       simp[optD,AllP,hA,hB,hC,hD,guardP,Int.not_lt.2 hE,Int.not_le.1 hF]
     ·rw[y5 fun h=>hE h.2.2.2.2.1]
      simp[optD,AllP,hA,hB,hC,hD,guardP,Int.not_le.1 hE]
    ·rw[y5 fun h=>hD h.2.2.2.1]
     simp[optD,AllP,hA,hB,hC,hD,guardP]
   ·rw[y5 fun h=>hC h.2.2.1]
    simp[optD,AllP,hA,hB,hC,guardP]
  ·rw[y5 fun h=>hB h.2.1]
   simp[optD,AllP,hA,hB,guardP]
 ·rw[y5 fun h=>hA h.1]
  simp[optD,AllP,hA,guardP]
theorem z3f:(∀ i,i<l.length->tot (l.getD i default))↔∀ x∈l,tot x :=
 ⟨fun h x hx=>by obtain⟨i,hi,rfl⟩:=z18 hx; exact h i hi,fun h i hi=>h _ (z7 hi)⟩
theorem zkz (hc:p.C.length<=1000000) (h6:n<=6):F_q1h p n=some (decide (PotOk n p)):=by
 simp only[F_q1h,S_q1h,Scr.den,z2q (l:=p.C) om,obind,z8]
 by_cases h1:good p.C=true/\(0<=p.E/\p.E<=99)/\(-1000000000000000<=p.V/\p.V<=1000000000000000)
 ·rw[y5 (by simp only[yc,yg,y7,h1.1,Bool.true_eq_false,false_or]; omega)]
  by_cases h2:(p.A.length:Int)=n/\(p.J.length:Int)=n/\(p.I.length:Int)=n/\(p.T.length:Int)=n
  ·obtain⟨l1,l2,l3,l4⟩:=h2
   rw[y5 (by simp[l1,l2,l3,l4]),z6 (by simp only[AllP,yw]; omega)]
   rw[zda (body:=fun i s=>(S_q1h_b1 p i s).den) p.A (fun i=>okP (p.A.getD i default) (p.J.getD i default) (p.I.getD i default) (p.T.getD i default)) (fun (s:Int) x=>i64.wrap (s+x))
    (fun i s hi=>zp8 om om om)]
   by_cases h3:∀ i,i<p.A.length->okP (p.A.getD i default) (p.J.getD i default) (p.I.getD i default) (p.T.getD i default)
   ·rw[y6 h3]
    have g1:rowOk n p.A:=⟨l1,z3f.1 fun i hi=>(h3 i hi).1⟩
    have g2:rowOk n p.J:=⟨l2,z3f.1 fun i hi=>(h3 i om).2.1⟩
    have g3:rowOk n p.I:=⟨l3,z3f.1 fun i hi=>(h3 i om).2.2.1⟩
    have g4:rowOk n p.T:=⟨l4,z3f.1 fun i hi=>(h3 i om).2.2.2.1⟩
    have e:=zd9 p.A 0
    rw[z7u,Int.zero_add,zhn g1 h6] at e
    show some (decide (_<=_))=_
    rw[e]
    congr 1
    exact decide_eq_decide.2 ⟨fun h=>⟨h1.1,h1.2.1,h1.2.2,⟨g1,g2,g3,g4⟩,⟨fun i hi=>(h3 i hi).2.2.2.2.1,fun i hi=>(h3 i hi).2.2.2.2.2⟩,h⟩,fun h=>h.2.2.2.2.2⟩
   ·rw[y5 h3]
    show some false=_
    rw[yi fun h=>h3 fun i hi=>⟨z3f.2 h.2.2.2.1.1.2 i hi,z3f.2 h.2.2.2.1.2.1.2 i om,z3f.2 h.2.2.2.1.2.2.1.2 i om,z3f.2 h.2.2.2.1.2.2.2.2 i om,h.2.2.2.2.1.1 i hi,h.2.2.2.2.1.2 i hi⟩]
  ·rw[y6 (by simp only[yc,y1q]; omega),yi fun h=>h2 ⟨h.2.2.2.1.1.1,h.2.2.2.1.2.1.1,h.2.2.2.1.2.2.1.1,h.2.2.2.1.2.2.2.1⟩]
 ·rw[y6 (by
   simp only[yc,yg,y7]
   by_cases hg:good p.C=true
   ·have:¬ ((0<=p.E/\p.E<=99)/\(-1000000000000000<=p.V/\p.V<=1000000000000000)):=fun h=>h1 ⟨hg,h⟩
    omega
   ·simp[Bool.not_eq_true] at hg; simp[hg]),yi fun h=>h1 ⟨h.1,h.2.1,h.2.2.1⟩]
def cmpP (a b:TPo):Int:=if cmpC a.C b.C≠0 then cmpC a.C b.C else cmpI a.E b.E
variable {b:TPo}
theorem zdb {a:TPo} (ha:a.C.length<=1000000) (hb:b.C.length<=1000000):F_q30 a b=some (cmpP a b):=by
 simp only[F_q30,S_q30,Scr.den,zd0 ha hb,zdy,obind,F_q1c,S_q1c,S_q1c_b1,cmpP]
 by_cases h:cmpC a.C b.C=0
 ·rw[y5 (by simpa using h)]
  by_cases h2:cmpI a.E b.E=0
  ·simp[rangeM,h,h2,outM]
  ·simp[rangeM,h,h2,outM]
 ·rw[y6 h]
  simp[rangeM,h,outM]
def Small (t:TTr):Prop:=∀ p∈t.D,p.C.length<=1000000
def PotsOk (n:Int) (l:List TPo):Prop:=∀ i,i<l.length->PotOk n (l.getD i default)/\(0<i->cmpP (l.getD (i-1) default) (l.getD i default)<0)
instance (n:Int) (l:List TPo):Decidable (PotsOk n l):=by unfold PotsOk; infer_instance
def TOk (t:TTr):Prop:=(1<=t.M/\t.M<=6)/\t.D.length<=60/\PotsOk t.M t.D
instance (t:TTr):Decidable (TOk t):=by unfold TOk; infer_instance
variable {t:TTr}
theorem z9d (h:Small t) (hi:i<t.D.length):(t.D.getD i default).C.length<=1000000:=h _ (z7 hi)
theorem wrapPred (h0:0<i) (h:i<9223372036854775808):i64.wrap ((i:Int)-1)=((i-1:Nat):Int):=by rw[wrapId om om]; omega
theorem Valid_eq (hs:Small t):F_qn t=some (decide (TOk t)):=by
 simp only[F_qn,S_qn,Scr.den,zy,obind,z8]
 by_cases h1:(1<=t.M/\t.M<=6)/\t.D.length<=60
 ·rw[y5 (by simp only[yc,yg,y9,y7]; omega)]
  have step:∀ i,i<t.D.length->(S_qn_b1 t i ()).den=some (if PotOk t.M (t.D.getD i default)/\(0<i->cmpP (t.D.getD (i-1) default) (t.D.getD i default)<0) then .cont () else .ret false):=fun i hi=>by
   simp only[S_qn_b1,Scr.den,zp7 (z9d hs hi) h1.1.2,obind,z8,zb]
   by_cases h0:0<i
   ·rw[wrapPred h0 om,yh,zdb (z9d hs om) (z9d hs hi)]
    have hgu:∀ a:Prop,AllP [a->(0:Int)<=((i-1:Nat):Int),a->i-1<t.D.length]:=fun a=>⟨fun _=>om,fun _=>om,trivial⟩
    have e0:decide ((i:Int)>0)=true:=ye om
    by_cases h2:PotOk t.M (t.D.getD i default)
    ·rw[zf (by simp only[AllP,e0,ye h2,y2r,yw])]
     simp only[obind]
     rw[z6 (hgu _)]
     simp only[e0,ye h2,y2r,y3i,y41,y7]
     by_cases h3:cmpP (t.D.getD (i-1) default) (t.D.getD i default)<0
     ·rw[y5 (y4n.2 h3),y6 ⟨h2,fun _=>h3⟩]
     ·rw[y6 (y2q.1 h3),y5 fun h=>h3 (h.2 h0)]
    ·rw[zq (by simp only[AllP,yi h2,y4m,Bool.true_eq_false,and_false,y4z,yd])]
     simp only[obind]
     rw[z6 (hgu _)]
     simp only[yi h2,y4m,Bool.true_or,yz]
     rw[y5 fun h=>h2 h.1]
   ·have hi0:i=0:=om
    subst hi0
    have e0:decide (((0:Nat):Int)>0)=false:=rfl
    rw[zq (by simp only[AllP,e0,yp,y4z,yd])]
    simp only[obind,e0,Bool.false_and,Bool.or_false]
    rw[z6 (by simp only[AllP,yp,y4z,false_implies,yw])]
    by_cases h2:PotOk t.M (t.D.getD 0 default)
    ·rw[y5 (by simp only[ye h2,y2r,yp,yd]),y6 ⟨h2,fun h=>absurd h om⟩]
    ·rw[y6 (by simp only[yi h2,y4m]),y5 fun h=>h2 h.1]
  have ra:=zx (ρ:=Bool) (n:=t.D.length) (c:=false) (body:=fun i s=>(S_qn_b1 t i s).den) (fun i=>PotOk t.M (t.D.getD i default)/\(0<i->cmpP (t.D.getD (i-1) default) (t.D.getD i default)<0))
   (fun i hi hp=>by rw[step i hi,y6 hp]) (fun i hi hp=>by rw[step i hi,y5 hp])
  by_cases h4:PotsOk t.M t.D
  ·rw[ra.1 h4,ye (show TOk t from ⟨h1.1,h1.2,h4⟩)]; rfl
  ·rw[ra.2 h4,yi fun h:TOk t=>h4 h.2.2]; rfl
 ·rw[y6 (by simp only[yc,yg,y9,y7]; omega),yi fun h:TOk t=>h1 ⟨h.1,h.2.1⟩]
theorem zne {a:TPo} (ha:good a.C=true):cmpP a b<0↔lexC (parts a.C) (parts b.C)<0\/(lexC (parts a.C) (parts b.C)=0/\a.E<b.E):=by
 unfold cmpP
 rw[z2n (.inl ha)]
 unfold cmpI
 split
 ·omega
 ·split
  ·omega
  ·split <;> omega
theorem chk (c y y':Int):((decide (c>0)||(c==0&&decide (y>=y')))=true)↔¬ (c<0\/(c=0/\y<y')):=by
 simp only[yc,yl,y7,y13]; omega
theorem r13_Valid_eq (hs:Small t):F_qw t=some (decide (TOk t)):=by
 simp only[F_qw,S_qw,Scr.den,z8]
 by_cases h1:(1<=t.M/\t.M<=6)/\t.D.length<=60
 ·rw[y5 (by simp only[yc,y7]; omega)]
  have step:∀ i,i<t.D.length->(0<i->PotOk t.M (t.D.getD (i-1) default))->(S_qw_b1 t i ()).den =
    some (if PotOk t.M (t.D.getD i default)/\(0<i->cmpP (t.D.getD (i-1) default) (t.D.getD i default)<0) then .cont () else .ret false):=fun i hi hp=>by
   simp only[S_qw_b1,Scr.den,zkz (z9d hs hi) h1.1.2,obind,zb,z8]
   by_cases h2:PotOk t.M (t.D.getD i default)
   ·rw[y5 (by simp only[ye h2,y2r,yp,yd])]
    by_cases h0:0<i
    ·have hp:=hp h0
     rw[y6 (ye om),wrapPred h0 om,yh,z3y hp.1 h2.1]
     simp only[obind]
     rw[z6 (by simp only[AllP,yw]; omega),z6 (by simp only[AllP,yw]; exact⟨fun _=>om,fun _=>om⟩)]
     have hc:=zne (a:=t.D.getD (i-1) default) (b:=t.D.getD i default) hp.1
     by_cases h3:cmpP (t.D.getD (i-1) default) (t.D.getD i default)<0
     ·rw[y5 fun h=>(chk _ _ _).1 h (hc.1 h3),y6 ⟨h2,fun _=>h3⟩]
     ·rw[y6 ((chk _ _ _).2 fun h=>h3 (hc.2 h)),y5 fun h=>h3 (h.2 h0)]
    ·rw[y5 (by simp only[y7]; omega),y6 ⟨h2,fun h=>absurd h h0⟩]
   ·rw[y6 (by simp only[yi h2,y4m]),y5 fun h=>h2 h.1]
  have key:∀ (k i:Nat),i+k=t.D.length->(∀ j,j<i->PotOk t.M (t.D.getD j default)/\(0<j->cmpP (t.D.getD (j-1) default) (t.D.getD j default)<0))->rangeM (fun i s=>(S_qw_b1 t i s).den) k i ()=some (if PotsOk t.M t.D then .next () else .ret false):=by
   intro k
   induction k with
   | zero =>
    intro i hk hj
    rw[y6 (show PotsOk t.M t.D from fun j h=>hj j om)]
    rfl
   | succ k ih =>
    intro i hk hj
    have hi:i<t.D.length:=om
    simp only[rangeM,step i hi fun h0=>(hj (i-1) om).1]
    by_cases h2:PotOk t.M (t.D.getD i default)/\(0<i->cmpP (t.D.getD (i-1) default) (t.D.getD i default)<0)
    ·rw[y6 h2]
     exact ih (i+1) om fun j hj'=>by
      by_cases e:j=i
      ·subst e; exact h2
      ·exact hj j om
    ·rw[y5 h2,y5 fun hp:PotsOk t.M t.D=>h2 (hp i hi)]
  rw[key t.D.length 0 om (fun j h=>absurd h om)]
  by_cases h4:PotsOk t.M t.D
  ·rw[y6 h4,ye (show TOk t from ⟨h1.1,h1.2,h4⟩)]; rfl
  ·rw[y5 h4,yi fun h:TOk t=>h4 h.2.2]; rfl
 ·rw[y6 (by simp only[yc,y7]; omega),yi fun h:TOk t=>h1 ⟨h.1,h.2.1⟩]
def isP (c:List UInt8) (y:Int) (p:TPo):Bool:=p.C==c&&p.E==y
variable {y:Int}
theorem ze9:isP c y p=true↔p.C=c/\p.E=y:=by simp[isP]
def hasP (l:List TPo) (c:List UInt8) (y:Int):Bool:=l.any (isP c y)
def pix (l:List TPo) (c:List UInt8) (y:Int):Nat:=l.findIdx (isP c y)
theorem pix_lt {l:List TPo} (h:hasP l c y=true):pix l c y<l.length/\(l.getD (pix l c y) default).C=c/\(l.getD (pix l c y) default).E=y:=by
 unfold hasP at h
 obtain⟨x,hx,hp⟩:=y4u.1 h
 have hlt:l.findIdx (isP c y)<l.length:=List.findIdx_lt_length_of_exists ⟨x,hx,hp⟩
 have h1:=y4a (w:=hlt)
 have e:l.getD (l.findIdx (isP c y)) default=l[l.findIdx (isP c y)]:=by simp[List.getD_eq_getElem?_getD,List.getElem?_eq_getElem hlt]
 exact⟨hlt,by unfold pix; rw[e]; exact ze9.1 h1⟩
theorem z5f (t:TTr) (c:List UInt8) (y:Int):F_q3a t c y=some (if hasP t.D c y=true then (pix t.D c y:Int) else -1):=by
 simp only[F_q3a,S_q3a,F_q2s,S_q2s,Scr.den]
 rw[z74 t.D (isP c y) (fun i=>(i:Int))]
 ·unfold hasP
  by_cases h:t.D.any (isP c y)=true
  ·rw[y6 h,y6 h]; rfl
  ·rw[y5 h,y5 h]; rfl
 ·intro i hi
  simp only[S_q2s_b1,F_q6t,S_q6t,Scr.den,obind,zb]
  unfold isP
  split <;> rfl
theorem at_eq (t:TTr) (c:List UInt8) (y:Int):F_q1p t c y=some (if hasP t.D c y=true then (pix t.D c y:Int) else -1):=by
 simp only[F_q1p,S_q1p,Scr.den]
 rw[z74 t.D (isP c y) (fun i=>(i:Int))]
 ·unfold hasP
  by_cases h:t.D.any (isP c y)=true
  ·rw[y6 h,y6 h]; rfl
  ·rw[y5 h,y5 h]; rfl
 ·intro i hi
  simp only[S_q1p_b1,Scr.den,zb]
  unfold isP
  split <;> rfl
def outV (p:TPo):Int:=(p.A.take (min p.A.length p.J.length)).sum-(p.J.take (min p.A.length p.J.length)).sum
theorem Out_eq (p:TPo):F_q2t p=some (i64.wrap (outV p)):=by
 have e:(if (p.J.length:Int)<(p.A.length:Int) then (p.J.length:Int) else (p.A.length:Int))=((min p.A.length p.J.length:Nat):Int):=by split <;> omega
 simp only[F_q2t,S_q2t,Scr.den,e,yh,zhk,obind]
 rw[z6 (by simp only[AllP,yw]; omega),z2y,z4n]
 rfl
theorem r13_Out_eq (hl:p.A.length<4611686018427387904):F_qe p=some (i64.wrap (outV p)):=by
 simp only[F_qe,S_qe,Scr.den]
 let m:=min p.A.length p.J.length
 let S:Nat->Int:=fun k=>(p.A.take k).sum-(p.J.take k).sum
 have hS:∀ k,k<m->S (k+1)=S k+(p.A.getD k default-p.J.getD k default):=fun k hk=>by
  have h1:k<p.A.length:=om
  have h2:k<p.J.length:=om
  simp only[S]
  rw[y3y h1,y3y h2,List.sum_append,List.sum_append,z2b h1,z2b h2]
  simp only[y37,List.sum_nil]
  omega
 have stepT:∀ (i:Nat) (s:Int),i<m->(S_qe_b1 p (s,(i:Int))).den=some (.cont (i64.wrap (s+(p.A.getD i default-p.J.getD i default)),((i+1:Nat):Int))):=fun i s hi=>by
  simp only[S_qe_b1,Scr.den,zb]
  rw[y6 (by simp only[yl,y7]; omega),z6 (by simp only[AllP,yh,yw]; omega)]
  simp only[yh]
  rw[za8,wrapId (n:=(i:Int)+1) om om]
  rfl
 have stepF:∀ s:Int,(S_qe_b1 p (s,(m:Int))).den=some (.brk (s,(m:Int))):=fun s=>by
  simp only[S_qe_b1,Scr.den,zb]
  rw[y5 (by simp only[yl,y7]; omega)]
 have key:∀ (k i:Nat),i+k=m->iterM (fun s=>(S_qe_b1 p s).den) (i64.wrap (S i),(i:Int))=some (.next (i64.wrap (S m),(m:Int))):=by
  intro k
  induction k with
  | zero =>
   intro i hk
   obtain rfl:i=m:=om
   rw[z2d]
   simp only[stepF]
  | succ k ih =>
   intro i hk
   rw[z2d]
   simp only[stepT i _ (show i<m from om)]
   rw[z5z,<- hS i om]
   exact ih (i+1) om
 have h0:=key m 0 om
 rw[show S 0=0 by simp[S],z7u] at h0
 rw[show ((0:Int),(0:Int))=(0,((0:Nat):Int)) from rfl,h0]
 rfl
theorem zre (p:TPo):F_q5v p=some (i64.wrap (p.V-outV p)):=by
 simp only[F_q5v,S_q5v,Scr.den,Out_eq,obind,z4n]
theorem ziq (hl:p.A.length<4611686018427387904):F_q4z p=some (i64.wrap (p.V-outV p)):=by
 simp only[F_q4z,S_q4z,Scr.den,r13_Out_eq hl,obind,z4n]
theorem maxw (n:Int):(if 0>n then 0 else n)=max n 0:=by split <;> omega
theorem Shortfall_eq (p:TPo):F_q3x p=some (max (i64.wrap (outV p-p.V)) 0):=by
 simp only[F_q3x,S_q3x,Scr.den,Out_eq,obind,z2y]
 congr 1
 exact maxw _
theorem clone_eq (h:l.length<=1000000):F_q20 l=some l:=by
 simp only[F_q20,S_q20,Scr.den]
 rw[z6 (by simp only[AllP,yw]; omega)]
theorem z6e (h:l.length<=1000000):F_q3d l=some l:=by
 simp only[F_q3d,S_q3d,Scr.den]
 rw[z6 (by simp only[AllP,yw]; omega)]
def PSmall (p:TPo):Prop:=p.A.length<=1000000/\p.J.length<=1000000/\p.I.length<=1000000/\p.T.length<=1000000
theorem PotOk.small (h:PotOk n p) (hn:n<=6):PSmall p:=by
 obtain⟨_,_,_,⟨⟨h1,_⟩,⟨h2,_⟩,⟨h3,_⟩,⟨h4,_⟩⟩,_⟩:=h
 exact⟨om,om,om,om⟩
theorem z1x (h:PSmall p):F_q3b p=some p:=by
 obtain⟨h1,h2,h3,h4⟩:=h
 simp only[F_q3b,S_q3b,Scr.den,clone_eq h1,clone_eq h2,clone_eq h3,clone_eq h4,obind]
theorem zir (h:PSmall p):F_q5u p=some (p.C,p.E,p.V,p.A,p.J,p.I,p.T):=by
 obtain⟨h1,h2,h3,h4⟩:=h
 simp only[F_q5u,S_q5u,Scr.den,z6e h1,z6e h2,z6e h3,z6e h4,obind]
def TSmall (t:TTr):Prop:=t.D.length<=1000000/\∀ i,i<t.D.length->PSmall (t.D.getD i default)
theorem z7v {body:Nat->Int×List TPo->Option (Step (Int×List TPo) ρ)} (hs:∀ i (l:List TPo),i<t.D.length->l.length=i->body i (t.M,l)=some (.cont (t.M,l++[t.D.getD i default]))) :
  rangeM body t.D.length 0 (t.M,[])=some (.next (t.M,t.D)):=by
 obtain⟨s,h1,h2⟩:=zi (ρ:=ρ) (body:=body) (n:=t.D.length) (fun i s=>s=(t.M,t.D.take i)) (s0:=(t.M,[])) sj (fun i s hi hI=>by
  subst hI
  refine⟨_,hs i _ hi sk,?_⟩
  rw[y3y hi]
  simp[List.getD_eq_getElem?_getD,List.getElem?_eq_getElem hi])
 rw[h1,h2,y3c]
theorem zl0 (h:TSmall t):F_q2q t=some (t.M,t.D):=by
 simp only[F_q2q,S_q2q,Scr.den]
 rw[z7v (fun i l hi hl=>by
  simp only[S_q2q_b1,Scr.den,z1x (h.2 i hi),obind]
  rw[z6 (by have:=h.1; simp only[AllP,yw]; omega)])]
 rfl
variable {i0:Nat}
theorem z9e (h:TSmall t) (hi0:i0<t.D.length) (hpos:0<(t.D.getD i0 default).A.length/\0<(t.D.getD i0 default).J.length/\0<(t.D.getD i0 default).I.length/\0<(t.D.getD i0 default).T.length) :
  F_q21 t i0=some (t.M,t.D):=by
 simp only[F_q21,S_q21,Scr.den]
 rw[z7v (fun i l hi hl=>by
  obtain⟨q1,q2,q3,q4⟩:=h.2 i hi
  simp only[S_q21_b1,Scr.den,zir (h.2 i hi),obind]
  rw[z6 (by have:=h.1; simp only[AllP,yw]; omega),z6 (by
   simp only[AllP,yw]
   exact⟨fun e=>by rw[hl] at e; subst e; exact hpos,om,om,om,om⟩)])]
 simp only[outM]
 rw[z6 (by simp only[AllP,yw]; exact hi0)]
theorem zdc (h:TSmall t):F_q28 t=some (t.M,t.D):=by
 simp only[F_q28,S_q28,Scr.den]
 rw[z7v (fun i l hi hl=>by
  obtain⟨q1,q2,q3,q4⟩:=h.2 i hi
  simp only[S_q28_b1,Scr.den]
  iterate 5 rw[z6 (by have:=h.1; simp only[AllP,yw]; omega)])]
 rfl
theorem z50 (h:TSmall t) (hi0:i0<t.D.length) (hpos:0<(t.D.getD i0 default).A.length/\0<(t.D.getD i0 default).J.length/\0<(t.D.getD i0 default).I.length/\0<(t.D.getD i0 default).T.length) :
  F_q1a t i0=some (t.M,t.D):=by
 simp only[F_q1a,S_q1a,Scr.den]
 rw[z7v (fun i l hi hl=>by
  obtain⟨q1,q2,q3,q4⟩:=h.2 i hi
  simp only[S_q1a_b1,Scr.den]
  iterate 5 rw[z6 (by have:=h.1; simp only[AllP,yw]; omega)]
  rw[z6 (by
   simp only[AllP,yw]
   exact⟨fun e=>by rw[hl] at e; subst e; exact hpos,om,om,om,om⟩)])]
 simp only[outM]
 rw[z6 (by simp only[AllP,yw]; exact hi0)]
def addN (G a:List Int) (i:Nat):List Int:=(List.range G.length).map fun j=>if j<i then G.getD j default+a.getD j default else G.getD j default
variable {a G:List Int}
theorem addN_length:(addN G a i).length=G.length:=by simp[addN]
variable {j:Nat}
theorem addN_get (hj:j<G.length):(addN G a i).getD j default=if j<i then G.getD j default+a.getD j default else G.getD j default:=by
 simp only[addN]
 rw[y8 (l:=List.map _ _),y23,y4d hj,y1o,y3w]
theorem zcf {l':List Int} (h:l.length=l'.length) (he:∀ j,j<l.length->l.getD j default=l'.getD j default):l=l':=by
 apply y3b h
 intro j h1 h2
 have:=he j h1
 rw[z2b h1,z2b h2] at this
 exact this
theorem znf:addN G a 0=G:=zcf addN_length fun j hj=>by
 rw[addN_get (by simpa [addN_length] using hj),y5 om]
variable {x:Int}
theorem zao (hj:j<l.length):(l.set i x).getD j default=if j=i then x else l.getD j default:=by
 rw[y8,y4p]
 by_cases h:i=j
 ·subst h; simp[hj]
 ·rw[y5 h,y5 fun e=>h e.symm,y8]
theorem zng (hi:i<G.length):(addN G a i).set i ((addN G a i).getD i default+a.getD i default)=addN G a (i+1):=by
 refine zcf (by simp[addN_length]) fun j hj=>?_
 have hj':j<G.length:=by simpa [addN_length] using hj
 rw[zao (by rw[addN_length]; exact hj'),addN_get hj',addN_get hi,addN_get hj',y5 (y5l i)]
 by_cases h:j=i
 ·subst h; rw[y6 rfl,y6 om]
 ·rw[y5 h]
  by_cases h2:j<i
  ·rw[y6 h2,y6 om]
  ·rw[y5 h2,y5 om]
theorem zho {body:Nat->List Int->Option (Step (List Int) ρ)} (hl:a.length=G.length) (hs:∀ i (s:List Int),i<G.length->s.length=G.length->body i s=some (.cont (s.set (0+i) (i64.wrap (s.getD (0+i) default+a.getD i default))))) (hG:∀ x∈G,tot x) (ha:∀ x∈a,tot x):rangeM body a.length 0 G=some (.next (addN G a a.length)):=by
 obtain⟨s,h1,h2⟩:=zi (ρ:=ρ) (body:=body) (n:=a.length) (fun i s=>s=addN G a i) (s0:=G) znf.symm (fun i s hi hI=>by
  subst hI
  have hi':i<G.length:=om
  refine⟨_,hs i _ hi' addN_length,?_⟩
  have t1:=hG _ (z7 hi')
  have t2:=ha _ (z7 hi)
  unfold tot at t1 t2
  rw[yu,wrapId (by rw[addN_get hi',y5 (y5l i)]; omega) (by rw[addN_get hi',y5 (y5l i)]; omega),zng hi'])
 rw[h1,h2]
def giveV (total:Int) (p:TPo) (a:List Int):Int×List Int :=
 if total-outV p<a.sum then (15,p.A) else if 1000000000000000<p.A.sum+a.sum then (3,p.A) else (0,addN p.A a a.length)
theorem zff (h:PotOk n p) (hn:n<=6):-6000000000000000<=outV p/\outV p<=6000000000000000:=by
 obtain⟨_,_,_,⟨h1,h2,_,_⟩,_⟩:=h
 have b1:=z4q (l:=p.A.take (min p.A.length p.J.length)) fun x hx=>h1.2 x (y33 hx)
 have b2:=z4q (l:=p.J.take (min p.A.length p.J.length)) fun x hx=>h2.2 x (y33 hx)
 have l1:=h1.1
 have l2:=h2.1
 simp only[y1f] at b1 b2
 unfold outV
 have e1:(min (min p.A.length p.J.length) p.A.length:Nat)<=6:=om
 have e2:(min (min p.A.length p.J.length) p.J.length:Nat)<=6:=om
 omega
theorem ze6 (h:PotOk n p) (hn:n<=6) (ha:∀ x∈a,tot x) (hl:a.length=p.A.length) {l:List TPo} (hi:i<l.length) :
  F_q1e a i l p.C p.E p.V p.A p.J p.I p.T=some (giveV p.V p a):=by
 have ho:=zff h hn
 obtain⟨_,_,ht,⟨h1,h2,h3,h4⟩,_,hsum⟩:=h
 have l1:=h1.1; have l2:=h2.1; have l3:=h3.1; have l4:=h4.1
 have s1:=z4q ha
 have s2:=z4q h1.2
 simp only[F_q1e,S_q1e,Scr.den,zhk,obind,zre]
 rw[z6 ⟨om,om,om,om⟩]
 simp only[obind]
 rw[z6 (by simp only[AllP,yw]; exact hi),wrapId (n:=a.sum) om om,wrapId (n:=p.V-_) (by show _<=p.V-outV p; omega) (by show p.V-outV p<_; omega)]
 unfold giveV
 by_cases c1:p.V-outV p<a.sum
 ·rw[y6 (ye c1),y6 c1]
 ·rw[y5 (by rw[yi c1]; simp),y5 c1,z6 om,wrapId (n:=p.A.sum) om om]
  simp only[obind]
  rw[wrapId (n:=p.A.sum+a.sum) om om]
  by_cases c2:1000000000000000<p.A.sum+a.sum
  ·rw[y6 (ye c2),y6 c2]
  ·rw[y5 (by rw[yi c2]; simp),y5 c2]
   rw[zho (ρ:=R_q1e) (G:=p.A) (a:=a) (body:=fun i' s=>(S_q1e_b1 a i l p.A i' s).den) hl (fun j s hj hs=>by
    simp only[S_q1e_b1,Scr.den]
    rw[z6 (by simp only[AllP,yw]; omega)]) h1.2 ha]
   rfl
abbrev zT:TTr:=⟨0,[]⟩
def withG (p:TPo) (g:List Int):TPo:=⟨p.C,p.E,p.V,g,p.J,p.I,p.T⟩
def oneHot (n k:Nat) (x:Int):List Int:=(List.replicate n (0:Int)).set k x
def potAt (t:TTr) (c:List UInt8) (y:Int):TPo:=t.D.getD (pix t.D c y) default
def putP (t:TTr) (c:List UInt8) (y:Int) (p:TPo):TTr:=⟨t.M,t.D.set (pix t.D c y) p⟩
def grantM (t:TTr) (k:Int) (c:List UInt8) (y x:Int):TTr×Int :=
 if ¬ TOk t then (zT,1) else if ¬ hasP t.D c y=true then (zT,6) else if ¬ (1<=k/\k<=t.M) then (zT,6) else if ¬ (1<=x/\x<=1000000000000000) then (zT,2) else
  if (giveV (potAt t c y).V (potAt t c y) (oneHot (potAt t c y).A.length (k-1).toNat x)).1≠0 then (zT,(giveV (potAt t c y).V (potAt t c y) (oneHot (potAt t c y).A.length (k-1).toNat x)).1)
  else (putP t c y (withG (potAt t c y) (giveV (potAt t c y).V (potAt t c y) (oneHot (potAt t c y).A.length (k-1).toNat x)).2),0)
theorem oneHot_tot {n k:Nat} (hx:1<=x/\x<=1000000000000000):∀ y∈oneHot n k x,tot y:=fun y hy=>by
 rcases y29 hy with h | h
 ·rw[List.eq_of_mem_replicate h]; exact⟨om,om⟩
 ·subst h; exact⟨om,om⟩
theorem oneHot_length {n k:Nat}:(oneHot n k x).length=n:=by simp[oneHot]
theorem TOk.potAt {t:TTr} (h:TOk t) {c:List UInt8} {y:Int} (hp:hasP t.D c y=true):PotOk t.M (potAt t c y):=(h.2.2 _ (pix_lt hp).1).1
theorem TOk.small (h:TOk t):TSmall t:=⟨by have:=h.2.1; omega,fun i hi=>(h.2.2 i hi).1.small h.1.2⟩
theorem TOk.pos (h:TOk t) (hp:hasP t.D c y=true) :
  0<(t.D.getD (pix t.D c y) default).A.length/\0<(t.D.getD (pix t.D c y) default).J.length/\0<(t.D.getD (pix t.D c y) default).I.length/\0<(t.D.getD (pix t.D c y) default).T.length:=by
 obtain⟨_,_,_,⟨⟨h1,_⟩,⟨h2,_⟩,⟨h3,_⟩,⟨h4,_⟩⟩,_⟩:=h.potAt hp
 have:=h.1
 exact⟨by show 0<(Go.Proofs.YtdmddkbngmhepaaGreatDoor.J13.potAt t c y).A.length; omega,by show 0<(Go.Proofs.YtdmddkbngmhepaaGreatDoor.J13.potAt t c y).J.length; omega,by show 0<(Go.Proofs.YtdmddkbngmhepaaGreatDoor.J13.potAt t c y).I.length; omega,by show 0<(Go.Proofs.YtdmddkbngmhepaaGreatDoor.J13.potAt t c y).T.length; omega⟩
theorem znh {total:Int}:(giveV total p a).2.length=p.A.length:=by
 unfold giveV
 split
 ·rfl
 ·split
  ·rfl
  ·exact addN_length
theorem zni (h:PotOk n p) (hn:n<=6) {l:List TPo} (hi:i<l.length) (k x:Int) :
  F_q4g i l p.C p.E p.V k x p.A p.J p.I p.T =
   some (if ¬ (1<=k/\k<=n) then (6,p.A) else if ¬ (1<=x/\x<=1000000000000000) then (2,p.A) else giveV p.V p (oneHot p.A.length (k-1).toNat x)):=by
 have l1:=h.2.2.2.1.1.1
 simp only[F_q4g,S_q4g,Scr.den,zy,obind,l1]
 rw[z6 (by simp only[AllP,yw]; exact hi)]
 by_cases c1:1<=k/\k<=n
 ·rw[y5 (show ¬ (!decide (1<=k/\k<=n))=true by rw[ye c1]; simp),y5 (show ¬ ¬ (1<=k/\k<=n) from fun h=>h c1)]
  by_cases c2:1<=x/\x<=1000000000000000
  ·have e1:i64.wrap (k-1)=(((k-1).toNat:Nat):Int):=by rw[wrapId om om]; omega
   have e2:n.toNat=p.A.length:=om
   rw[y5 (show ¬ (!decide (1<=x/\x<=1000000000000000))=true by rw[ye c2]; simp),y5 (show ¬ ¬ (1<=x/\x<=1000000000000000) from fun h=>h c2),e1,e2,yh,z6 (by simp only[AllP,yw]; omega),z6 (by simp only[AllP,yw,y1w]; omega),
    z6 (by simp only[AllP,yw,yb,y1w]; omega),yu]
   show (F_q1e (oneHot p.A.length (k-1).toNat x) i l p.C p.E p.V p.A p.J p.I p.T).bind _=_
   rw[ze6 h hn (oneHot_tot c2) oneHot_length hi]
   rfl
  ·rw[y6 (show (!decide (1<=x/\x<=1000000000000000))=true by rw[yi c2]; simp),y6 c2]
 ·rw[y6 (show (!decide (1<=k/\k<=n))=true by rw[yi c1]; simp),y6 c1]
theorem Grant_eq (hs:Small t) (k:Int) (c:List UInt8) (y x:Int):F_q5w t k c y x=some (grantM t k c y x):=by
 simp only[F_q5w,S_q5w,Scr.den,F_q6w,S_q6w,Valid_eq hs,z5f,obind]
 unfold grantM
 by_cases h1:TOk t
 ·rw[y5 (show ¬ (!decide (TOk t))=true by rw[ye h1]; simp),y5 (show ¬ ¬ TOk t from fun h=>h h1)]
  by_cases h2:hasP t.D c y=true
  ·have hlt:=(pix_lt h2).1
   have hp:=h1.potAt h2
   have l0:=h1.2.1
   rw[y6 (show hasP t.D c y=true from h2),y5 (show ¬ ¬ hasP t.D c y=true from fun h=>h h2),y5 (show ¬ decide (((pix t.D c y:Nat):Int)<0)=true by rw[y7]; omega),yh,z9e h1.small hlt (h1.pos h2)]
   simp only[obind]
   show ((F_q4g (pix t.D c y) t.D (potAt t c y).C (potAt t c y).E (potAt t c y).V k x (potAt t c y).A (potAt t c y).J (potAt t c y).I (potAt t c y).T).bind _).bind _=_
   rw[zni hp h1.1.2 hlt]
   simp only[obind]
   rw[z6 (by simp only[AllP,yw]; exact⟨om,hlt⟩)]
   by_cases h3:1<=k/\k<=t.M
   ·simp only[show ¬ ¬ (1<=k/\k<=t.M) from fun h=>h h3,yn]
    by_cases h4:1<=x/\x<=1000000000000000
    ·simp only[show ¬ ¬ (1<=x/\x<=1000000000000000) from fun h=>h h4,yn]
     have hlen:=znh (total:=(potAt t c y).V) (p:=potAt t c y) (a:=oneHot (potAt t c y).A.length (k-1).toNat x)
     generalize giveV (potAt t c y).V (potAt t c y) (oneHot (potAt t c y).A.length (k-1).toNat x)=gv at hlen
     by_cases h5:gv.1=0
     ·rw[y5 (show ¬ (gv.1 != 0)=true by simp[h5]),y5 (show ¬ gv.1≠0 from fun h=>h h5)]
      obtain⟨q1,q2,q3,q4⟩:=hp.small h1.1.2
      rw[z6 (by simp only[AllP,yw]; exact hlen),z6 (by simp only[AllP,yw]; exact⟨by rw[hlen]; omega,y2a q2 om,y2a q3 om,y2a q4 om⟩),z6 (by simp only[AllP,yw,yb]; omega)]
      rfl
     ·rw[y6 (show (gv.1 != 0)=true by simp[h5]),y6 (show gv.1≠0 from h5)]; rfl
    ·simp only[h4,yd,yz]; rfl
   ·simp only[h3,yd,yz]; rfl
  ·simp only[h2,y5,yd,yz,yp]; rfl
 ·rw[y6 (show (!decide (TOk t))=true by rw[yi h1]; simp),y6 (show ¬ TOk t from h1)]; rfl
def withA (p:TPo) (a:List Int):TPo:=⟨p.C,p.E,p.V,p.A,p.J,a,p.T⟩
def withH (p:TPo) (h u:List Int):TPo:=⟨p.C,p.E,p.V,p.A,h,p.I,u⟩
def nth (l:List Int) (k:Int):Int:=l.getD (k-1).toNat default
def upd (l:List Int) (k x:Int):List Int:=l.set (k-1).toNat x
def askM (t:TTr) (k:Int) (c:List UInt8) (y x:Int):TTr×Int :=
 if ¬ TOk t then (zT,1) else if ¬ hasP t.D c y=true then (zT,6) else if ¬ (1<=k/\k<=t.M) then (zT,6) else if ¬ (1<=x/\x<=1000000000000000) then (zT,2) else
  if nth (potAt t c y).A k<nth (potAt t c y).I k+x then (zT,15)
  else (putP t c y (withA (potAt t c y) (upd (potAt t c y).I k (nth (potAt t c y).I k+x))),0)
def hearM (t:TTr) (m:TMe):TTr×Int :=
 if m.To≠0 then (zT,1) else if ¬ TOk t then (zT,1) else if ¬ hasP t.D m.C m.E=true then (zT,6) else if ¬ (1<=m.Y/\m.Y<=t.M) then (zT,6) else
  if ¬ ((0<=m.N/\m.N<=nth (potAt t m.C m.E).A m.Y)/\tot m.T) then (zT,2)
  else (putP t m.C m.E (withH (potAt t m.C m.E) (upd (potAt t m.C m.E).J m.Y (max (nth (potAt t m.C m.E).J m.Y) m.N)) (upd (potAt t m.C m.E).T m.Y m.T)),0)
variable {k:Int}
theorem nth_tot (h:rowOk n l) (hk:1<=k/\k<=n):tot (nth l k):=by
 have:=h.1
 exact h.2 _ (z7 om)
theorem wrapK (hk:1<=k/\k<=6):i64.wrap (k-1)=(((k-1).toNat:Nat):Int):=by rw[wrapId om om]; omega
theorem zrf (h:PotOk n p) (hn:n<=6) {l:List TPo} (hi:i<l.length) (k x:Int) :
  F_q4h i l p.C p.E p.V k x p.A p.J p.I p.T =
   some (if ¬ (1<=k/\k<=n) then (6,p.I) else if ¬ (1<=x/\x<=1000000000000000) then (2,p.I) else if nth p.A k<nth p.I k+x then (15,p.I) else (0,upd p.I k (nth p.I k+x))):=by
 have l1:=h.2.2.2.1.1.1
 have l3:=h.2.2.2.1.2.2.1.1
 simp only[F_q4h,S_q4h,Scr.den,zy,obind,l3]
 rw[z6 (by simp only[AllP,yw]; exact hi)]
 by_cases c1:1<=k/\k<=n
 ·rw[y5 (show ¬ (!decide (1<=k/\k<=n))=true by rw[ye c1]; simp),y5 (show ¬ ¬ (1<=k/\k<=n) from fun h=>h c1)]
  by_cases c2:1<=x/\x<=1000000000000000
  ·have t1:=nth_tot h.2.2.2.1.2.2.1 c1
   unfold tot at t1
   rw[y5 (show ¬ (!decide (1<=x/\x<=1000000000000000))=true by rw[ye c2]; simp),y5 (show ¬ ¬ (1<=x/\x<=1000000000000000) from fun h=>h c2),wrapK (k:=k) om,yh,yu,
    z6 (by simp only[AllP,yw]; omega)]
   rw[show p.I.getD (k-1).toNat default=nth p.I k from rfl,show p.A.getD (k-1).toNat default=nth p.A k from rfl,wrapId (n:=nth p.I k+x) om om]
   by_cases c3:nth p.A k<nth p.I k+x
   ·rw[y6 (show decide (nth p.I k+x>nth p.A k)=true from ye c3),y6 c3]
   ·rw[y5 (show ¬ decide (nth p.I k+x>nth p.A k)=true by rw[y7]; exact c3),y5 c3]
    rfl
  ·rw[y6 (show (!decide (1<=x/\x<=1000000000000000))=true by rw[yi c2]; simp),y6 c2]
 ·rw[y6 (show (!decide (1<=k/\k<=n))=true by rw[yi c1]; simp),y6 c1]
theorem upd_length:(upd l k x).length=l.length:=by simp[upd]
theorem Ask_eq (hs:Small t) (k:Int) (c:List UInt8) (y x:Int):F_q5x t k c y x=some (askM t k c y x):=by
 simp only[F_q5x,S_q5x,Scr.den,F_q6x,S_q6x,Valid_eq hs,z5f,obind]
 unfold askM
 by_cases h1:TOk t
 ·rw[y5 (show ¬ (!decide (TOk t))=true by rw[ye h1]; simp),y5 (show ¬ ¬ TOk t from fun h=>h h1)]
  by_cases h2:hasP t.D c y=true
  ·have hlt:=(pix_lt h2).1
   have hp:=h1.potAt h2
   have l0:=h1.2.1
   rw[y6 (show hasP t.D c y=true from h2),y5 (show ¬ ¬ hasP t.D c y=true from fun h=>h h2),y5 (show ¬ decide (((pix t.D c y:Nat):Int)<0)=true by rw[y7]; omega),yh,z9e h1.small hlt (h1.pos h2)]
   simp only[obind]
   show ((F_q4h (pix t.D c y) t.D (potAt t c y).C (potAt t c y).E (potAt t c y).V k x (potAt t c y).A (potAt t c y).J (potAt t c y).I (potAt t c y).T).bind _).bind _=_
   rw[zrf hp h1.1.2 hlt]
   simp only[obind]
   rw[z6 (by simp only[AllP,yw]; exact⟨om,hlt⟩)]
   obtain⟨q1,q2,q3,q4⟩:=hp.small h1.1.2
   by_cases h3:1<=k/\k<=t.M
   ·simp only[show ¬ ¬ (1<=k/\k<=t.M) from fun h=>h h3,yn]
    by_cases h4:1<=x/\x<=1000000000000000
    ·simp only[show ¬ ¬ (1<=x/\x<=1000000000000000) from fun h=>h h4,yn]
     by_cases h5:nth (potAt t c y).A k<nth (potAt t c y).I k+x
     ·simp only[h5,yz]; rfl
     ·simp only[h5,yn]
      rw[y5 sj,z6 (by simp only[AllP,yw]; exact upd_length),z6 (by simp only[AllP,yw]; exact⟨y2a q1 om,y2a q2 om,by rw[upd_length]; exact y2a q3 om,y2a q4 om⟩),z6 (by simp only[AllP,yw,yb]; omega)]
      rfl
    ·simp only[h4,yd,yz]; rfl
   ·simp only[h3,yd,yz]; rfl
  ·simp only[h2,y5,yd,yz,yp]; rfl
 ·rw[y6 (show (!decide (TOk t))=true by rw[yi h1]; simp),y6 (show ¬ TOk t from h1)]; rfl
theorem maxE (a b:Int):(if a>b then a else b)=max b a:=by split <;> omega
theorem zp9 (h:PotOk n p) (hn:n<=6) {l:List TPo} (hi:i<l.length) (m:TMe) :
  F_q4k i l p.C p.E p.V m p.A p.J p.I p.T =
   some (if ¬ (1<=m.Y/\m.Y<=n) then (6,p.J,p.T) else if ¬ ((0<=m.N/\m.N<=nth p.A m.Y)/\tot m.T) then (2,p.J,p.T) else
    (0,upd p.J m.Y (max (nth p.J m.Y) m.N),upd p.T m.Y m.T)):=by
 have l1:=h.2.2.2.1.1.1
 have l2:=h.2.2.2.1.2.1.1
 have l4:=h.2.2.2.1.2.2.2.1
 simp only[F_q4k,S_q4k,Scr.den,zy,z88,obind,l2,z8]
 rw[z6 (by simp only[AllP,yw]; exact hi)]
 by_cases c1:1<=m.Y/\m.Y<=n
 ·rw[y5 (show ¬ (!decide (1<=m.Y/\m.Y<=n))=true by rw[ye c1]; simp),y5 (show ¬ ¬ (1<=m.Y/\m.Y<=n) from fun h=>h c1),wrapK (k:=m.Y) om,yh,yu]
  rw[show p.A.getD (m.Y-1).toNat default=nth p.A m.Y from rfl,show p.J.getD (m.Y-1).toNat default=nth p.J m.Y from rfl]
  by_cases c2:0<=m.N/\m.N<=nth p.A m.Y
  ·rw[zf (by rw[ye c2]; exact⟨rfl,trivial⟩)]
   simp only[obind]
   rw[z6 (by simp only[AllP,yw]; omega)]
   by_cases c3:tot m.T
   ·rw[y5 (by rw[ye c2,ye c3]; simp),y5 (show ¬ ¬ ((0<=m.N/\m.N<=nth p.A m.Y)/\tot m.T) from fun h=>h ⟨c2,c3⟩),z6 (by simp only[AllP,yw]; omega),maxE]
    rfl
   ·rw[y6 (by rw[yi c3]; simp),y6 fun h=>c3 h.2]
  ·rw[zq (by rw[yi c2]; simp[AllP])]
   simp only[obind]
   rw[z6 (by simp only[AllP,yw]; omega),y6 (by rw[yi c2]; simp),y6 fun h=>c2 h.1]
 ·rw[y6 (show (!decide (1<=m.Y/\m.Y<=n))=true by rw[yi c1]; simp),y6 c1]
theorem Hear_eq (hs:Small t) (m:TMe):F_q66 t m=some (hearM t m):=by
 simp only[F_q66,S_q66,Scr.den,F_q6z,S_q6z,Valid_eq hs,z5f,obind]
 unfold hearM
 by_cases h0:m.To=0
 ·rw[y5 (show ¬ (m.To != 0)=true by simp[h0]),y5 (show ¬ m.To≠0 from fun h=>h h0)]
  by_cases h1:TOk t
  ·rw[y5 (show ¬ (!decide (TOk t))=true by rw[ye h1]; simp),y5 (show ¬ ¬ TOk t from fun h=>h h1)]
   by_cases h2:hasP t.D m.C m.E=true
   ·have hlt:=(pix_lt h2).1
    have hp:=h1.potAt h2
    have l0:=h1.2.1
    rw[y6 (show hasP t.D m.C m.E=true from h2),y5 (show ¬ ¬ hasP t.D m.C m.E=true from fun h=>h h2),y5 (show ¬ decide (((pix t.D m.C m.E:Nat):Int)<0)=true by rw[y7]; omega),yh,z9e h1.small hlt (h1.pos h2)]
    simp only[obind]
    show ((F_q4k (pix t.D m.C m.E) t.D (potAt t m.C m.E).C (potAt t m.C m.E).E (potAt t m.C m.E).V m (potAt t m.C m.E).A (potAt t m.C m.E).J (potAt t m.C m.E).I (potAt t m.C m.E).T).bind _).bind _=_
    rw[zp9 hp h1.1.2 hlt]
    simp only[obind]
    rw[z6 (by simp only[AllP,yw]; exact⟨om,hlt⟩)]
    obtain⟨q1,q2,q3,q4⟩:=hp.small h1.1.2
    by_cases h3:1<=m.Y/\m.Y<=t.M
    ·simp only[show ¬ ¬ (1<=m.Y/\m.Y<=t.M) from fun h=>h h3,yn]
     by_cases h4:(0<=m.N/\m.N<=nth (potAt t m.C m.E).A m.Y)/\tot m.T
     ·simp only[show ¬ ¬ ((0<=m.N/\m.N<=nth (potAt t m.C m.E).A m.Y)/\tot m.T) from fun h=>h h4,yn]
      rw[y5 sj,z6 (by simp only[AllP,yw]; exact⟨upd_length,upd_length⟩),z6 (by simp only[AllP,yw]; exact⟨y2a q1 om,by rw[upd_length]; exact y2a q2 om,y2a q3 om,by rw[upd_length]; exact y2a q4 om⟩),z6 (by simp only[AllP,yw,yb]; omega)]
      rfl
     ·simp only[h4,yd,yz]; rfl
    ·simp only[h3,yd,yz]; rfl
   ·simp only[h2,y5,yd,yz,yp]; rfl
  ·rw[y6 (show (!decide (TOk t))=true by rw[yi h1]; simp),y6 (show ¬ TOk t from h1)]; rfl
 ·rw[y6 (show (m.To != 0)=true by simp[h0]),y6 (show m.To≠0 from h0)]
def potM (t:TTr) (c:List UInt8) (y:Int):TPo×Bool:=if hasP t.D c y=true then (potAt t c y,true) else (⟨[],0,0,[],[],[],[]⟩,false)
theorem Pot_eq (hs:TSmall t) (c:List UInt8) (y:Int):F_q3c t c y=some (potM t c y):=by
 simp only[F_q3c,S_q3c,Scr.den,z5f,obind]
 unfold potM
 by_cases h2:hasP t.D c y=true
 ·have hlt:=(pix_lt h2).1
  have l0:=hs.1
  rw[y6 (show hasP t.D c y=true from h2),y6 (show hasP t.D c y=true from h2),y5 (show ¬ decide (((pix t.D c y:Nat):Int)<0)=true by rw[y7]; omega),yh,z1x (hs.2 _ hlt)]
  simp only[obind]
  rw[z6 (by simp only[AllP,yw]; exact⟨om,hlt⟩)]
  rfl
 ·rw[y5 h2,y5 h2]; rfl
def tellM (t:TTr) (k:Int) (c:List UInt8) (y:Int):TMe×Int :=
 if ¬ TOk t then (⟨0,0,[],0,0,0,0,0⟩,1) else if ¬ (hasP t.D c y=true/\1<=k/\k<=t.M) then (⟨0,0,[],0,0,0,0,0⟩,6)
 else (⟨0,k,c,y,nth (potAt t c y).A k,nth (potAt t c y).I k,0,0⟩,0)
theorem Tell_eq (hs:Small t) (k:Int) (c:List UInt8) (y:Int):F_q5y t k c y=some (tellM t k c y):=by
 simp only[F_q5y,S_q5y,Scr.den,Valid_eq hs,obind,z8]
 unfold tellM
 by_cases h1:TOk t
 ·rw[y5 (show ¬ (!decide (TOk t))=true by rw[ye h1]; simp),y5 (show ¬ ¬ TOk t from fun h=>h h1),Pot_eq h1.small]
  simp only[obind,zy]
  unfold potM
  by_cases h2:hasP t.D c y=true
  ·rw[y6 h2]
   rw[zf (gs:=[(!true)=false]) ⟨rfl,trivial⟩]
   simp only[obind,y2r,y3i]
   obtain⟨_,_,_,⟨g1,_,g3,_⟩,_⟩:=h1.potAt h2
   have e1:=g1.1
   have e3:=g3.1
   have e0:=h1.1
   by_cases h3:1<=k/\k<=t.M
   ·rw[y5 (by rw[ye h3]; simp),y5 (show ¬ ¬ (hasP t.D c y=true/\1<=k/\k<=t.M) from fun h=>h ⟨h2,h3⟩),wrapK (k:=k) om,yh,z6 (by simp only[AllP,yw]; omega)]
    rfl
   ·rw[y6 (by rw[yi h3]; rfl),y6 fun h=>h3 h.2]
  ·rw[y5 h2,zq (by simp[AllP])]
   simp only[obind]
   rw[y6 (by rfl),y6 fun h=>h2 h.1]
 ·rw[y6 (show (!decide (TOk t))=true by rw[yi h1]; simp),y6 h1]
def findM (t:TTr) (k:Int) (c:List UInt8) (y:Int):Int×Int :=
 if ¬ TOk t then (0,1) else if ¬ (hasP t.D c y=true/\1<=k/\k<=t.M) then (0,6) else ((pix t.D c y:Int),0)
theorem r13_find_eq (hs:Small t) (k:Int) (c:List UInt8) (y:Int):F_q29 t k c y=some (findM t k c y):=by
 simp only[F_q29,S_q29,Scr.den,r13_Valid_eq hs,at_eq,obind,z8]
 unfold findM
 by_cases h1:TOk t
 ·rw[y5 (show ¬ (!decide (TOk t))=true by rw[ye h1]; simp),y5 (show ¬ ¬ TOk t from fun h=>h h1)]
  by_cases h2:hasP t.D c y=true
  ·rw[y6 (show hasP t.D c y=true from h2)]
   by_cases h3:1<=k/\k<=t.M
   ·have hb:(decide (((pix t.D c y:Nat):Int)<0)||decide (k<1)||decide (k>t.M))=false:=by
     simp only[y2n,y9]; omega
    rw[y5 (by rw[hb]; simp),y5 (show ¬ ¬ (hasP t.D c y=true/\1<=k/\k<=t.M) from fun h=>h ⟨h2,h3⟩)]
   ·rw[y6 (by simp only[yc,y7]; omega),y6 fun h=>h3 h.2]
  ·rw[y5 (show ¬ hasP t.D c y=true from h2),y6 (by rfl),y6 fun h=>h2 h.1]
 ·rw[y6 (show (!decide (TOk t))=true by rw[yi h1]; simp),y6 h1]
theorem r13_Ask_eq (hs:Small t) (k:Int) (c:List UInt8) (y x:Int):F_q51 t k c y x=some (askM t k c y x):=by
 simp only[F_q51,S_q51,Scr.den,r13_find_eq hs,obind,z8]
 unfold askM findM
 by_cases h1:TOk t
 ·simp only[show ¬ ¬ TOk t from fun h=>h h1,yn]
  by_cases h2:hasP t.D c y=true
  ·have hlt:=(pix_lt h2).1
   have hp:=h1.potAt h2
   have l0:=h1.2.1
   obtain⟨q1,q2,q3,q4⟩:=hp.small h1.1.2
   have l1:=hp.2.2.2.1.1.1
   have l3:=hp.2.2.2.1.2.2.1.1
   have e0:=h1.1
   simp only[show ¬ ¬ hasP t.D c y=true from fun h=>h h2,yn]
   by_cases h3:1<=k/\k<=t.M
   ·simp only[show ¬ ¬ (1<=k/\k<=t.M) from fun h=>h h3,show ¬ ¬ (hasP t.D c y=true/\1<=k/\k<=t.M) from fun h=>h ⟨h2,h3⟩,yn]
    rw[y5 (show ¬ ((0:Int) != 0)=true from sj)]
    by_cases h4:1<=x/\x<=1000000000000000
    ·have t1:=nth_tot hp.2.2.2.1.2.2.1 h3
     unfold tot at t1
     rw[y5 (by simp only[yc,y7]; omega)]
     simp only[show ¬ ¬ (1<=x/\x<=1000000000000000) from fun h=>h h4,yn,wrapK (k:=k) om,yh]
     rw[z50 h1.small hlt (h1.pos h2)]
     simp only[obind,show t.D.getD (pix t.D c y) default=potAt t c y from rfl,yu,show (potAt t c y).I.getD (k-1).toNat default=nth (potAt t c y).I k from rfl,show (potAt t c y).A.getD (k-1).toNat default=nth (potAt t c y).A k from rfl]
     rw[z6 (by simp only[AllP,yw]; omega),wrapId (n:=nth (potAt t c y).I k+x) om om]
     by_cases h5:nth (potAt t c y).A k<nth (potAt t c y).I k+x
     ·rw[y6 (show decide (nth (potAt t c y).I k+x>nth (potAt t c y).A k)=true from ye h5),y6 h5]
     ·rw[y5 (show ¬ decide (nth (potAt t c y).I k+x>nth (potAt t c y).A k)=true by rw[y7]; exact h5),y5 h5]
      rw[z6 (by simp only[AllP,yw]; omega),z6 (by simp only[AllP,yw,yb]),z6 (by simp only[AllP,yw,yb]; omega),z6 (by simp only[AllP,yw,yb]; omega)]
      rfl
    ·rw[y6 (by simp only[yc,y7]; omega)]
     simp only[h4,yd,yz]
   ·simp only[h3,and_false,yd,yz]; rfl
  ·simp only[h2,y4z,yd,yz,yp]; rfl
 ·simp only[h1,yd,yz]; rfl
theorem r13_Hear_eq (hs:Small t) (m:TMe):F_q58 t m=some (hearM t m):=by
 simp only[F_q58,S_q58,Scr.den,r13_Valid_eq hs,r13_find_eq hs,obind,z8]
 unfold hearM findM
 by_cases h0:m.To=0
 ·rw[y5 (show ¬ m.To≠0 from fun h=>h h0)]
  by_cases h1:TOk t
  ·rw[y5 (by rw[ye h1]; simp[h0])]
   simp only[show ¬ ¬ TOk t from fun h=>h h1,yn]
   by_cases h2:hasP t.D m.C m.E=true
   ·have hlt:=(pix_lt h2).1
    have hp:=h1.potAt h2
    have l0:=h1.2.1
    obtain⟨q1,q2,q3,q4⟩:=hp.small h1.1.2
    have l1:=hp.2.2.2.1.1.1
    have l2:=hp.2.2.2.1.2.1.1
    have l4:=hp.2.2.2.1.2.2.2.1
    have e0:=h1.1
    simp only[show ¬ ¬ hasP t.D m.C m.E=true from fun h=>h h2,yn]
    by_cases h3:1<=m.Y/\m.Y<=t.M
    ·simp only[show ¬ ¬ (1<=m.Y/\m.Y<=t.M) from fun h=>h h3,show ¬ ¬ (hasP t.D m.C m.E=true/\1<=m.Y/\m.Y<=t.M) from fun h=>h ⟨h2,h3⟩,yn]
     rw[y5 (show ¬ ((0:Int) != 0)=true from sj)]
     simp only[wrapK (k:=m.Y) om,yh,z3n,show t.D.getD (pix t.D m.C m.E) default=potAt t m.C m.E from rfl,show (potAt t m.C m.E).A.getD (m.Y-1).toNat default=nth (potAt t m.C m.E).A m.Y from rfl]
     have hgu:∀ a:Prop,AllP [a->(0:Int)<=((pix t.D m.C m.E:Nat):Int),a->pix t.D m.C m.E<t.D.length,a->(0:Int)<=(((m.Y-1).toNat:Nat):Int),a->(m.Y-1).toNat<(potAt t m.C m.E).A.length] :=
      fun a=>⟨fun _=>om,fun _=>hlt,fun _=>om,fun _=>om,trivial⟩
     by_cases h4:0<=m.N/\m.N<=nth (potAt t m.C m.E).A m.Y
     ·rw[zf (by rw[yi (show ¬ m.N<0 from om),yi (show ¬ m.N>nth (potAt t m.C m.E).A m.Y from om)]; exact⟨rfl,trivial⟩)]
      simp only[obind]
      rw[z6 (hgu _)]
      by_cases h5:tot m.T
      ·rw[y5 (by rw[yi (show ¬ m.N<0 from om),yi (show ¬ m.N>nth (potAt t m.C m.E).A m.Y from om),ye h5]; simp),y5 (show ¬ ¬ ((0<=m.N/\m.N<=nth (potAt t m.C m.E).A m.Y)/\tot m.T) from fun h=>h ⟨h4,h5⟩)]
       rw[z50 h1.small hlt (h1.pos h2)]
       simp only[obind,show t.D.getD (pix t.D m.C m.E) default=potAt t m.C m.E from rfl,yu,show (potAt t m.C m.E).J.getD (m.Y-1).toNat default=nth (potAt t m.C m.E).J m.Y from rfl,maxE]
       rw[z6 (by simp only[AllP,yw]; omega),z6 (by simp only[AllP,yw]; omega),z6 (by simp only[AllP,yb,and_self]),z6 (by simp only[AllP,yw,yb]; omega),z6 (by simp only[AllP,yw,yb]; omega)]
       rfl
      ·rw[y6 (by rw[yi h5]; simp),y6 (show ¬ ((0<=m.N/\m.N<=nth (potAt t m.C m.E).A m.Y)/\tot m.T) from fun h=>h5 h.2)]
     ·have hb:(decide (m.N<0)||decide (m.N>nth (potAt t m.C m.E).A m.Y))=true:=by
       simp only[yc,y7]; omega
      rw[zq (by rw[hb]; simp[AllP])]
      simp only[obind]
      rw[z6 (hgu _),y6 (by rw[hb]; rfl),y6 (show ¬ ((0<=m.N/\m.N<=nth (potAt t m.C m.E).A m.Y)/\tot m.T) from fun h=>h4 h.1)]
    ·simp only[h3,and_false,yd,yz]; rfl
   ·simp only[h2,y4z,yd,yz,yp]; rfl
  ·rw[y6 (by rw[yi h1]; rfl)]
   simp only[h1,yd,yz]
 ·rw[y6 (by simp[h0]),y6 (show m.To≠0 from h0)]
def divideM (t:TTr) (c:List UInt8) (y:Int) (a:List Int):TTr×Int :=
 if ¬ TOk t then (zT,1) else if ¬ hasP t.D c y=true then (zT,6) else if ¬ (a.length:Int)=t.M then (zT,6) else if ¬ rowT a=true then (zT,2) else
  if (giveV (potAt t c y).V (potAt t c y) a).1≠0 then (zT,(giveV (potAt t c y).V (potAt t c y) a).1)
  else (putP t c y (withG (potAt t c y) (giveV (potAt t c y).V (potAt t c y) a).2),0)
theorem zhp:∀ (a b:List Int) (u v:Int),a.length=b.length ->
  (a.zip b).foldl (fun (s:Int×Int) x=>(i64.wrap (s.1+x.1),i64.wrap (s.2+x.2))) (i64.wrap u,i64.wrap v)=(i64.wrap (u+a.sum),i64.wrap (v+b.sum))
 | [],[],u,v,_=>sj
 | x :: a,y :: b,u,v,h=>by
  simp only[List.zip_cons_cons,y2v,z5z,y37]
  rw[zhp a b (u+x) (v+y) (by simpa using h),y5k,y5k]
 | [],_ :: _,_,_,h=>by simp at h
 | _ :: _,[],_,_,h=>by simp at h
theorem zpa {b:List Int} (h:a.length=b.length) (hi:i<a.length):(a.zip b).getD i default=(a.getD i default,b.getD i default):=by
 rw[y8,ya sk,List.getElem_zip,z2b hi,z2b om]
 rfl
theorem zfz (hs:Small t) (c:List UInt8) (y:Int) (a:List Int):F_qb t c y a=some (divideM t c y a):=by
 simp only[F_qb,S_qb,Scr.den,r13_find_eq hs,obind]
 unfold divideM
 by_cases h1:TOk t
 ·simp only[findM,show ¬ ¬ TOk t from fun h=>h h1,yn]
  by_cases h2:hasP t.D c y=true
  ·have hlt:=(pix_lt h2).1
   have hp:=h1.potAt h2
   have l0:=h1.2.1
   obtain⟨q1,q2,q3,q4⟩:=hp.small h1.1.2
   have l1:=hp.2.2.2.1.1.1
   have e0:=h1.1
   have ho:=zff hp h1.1.2
   have ht:=hp.2.2.1
   simp only[show ¬ ¬ hasP t.D c y=true from fun h=>h h2,show ¬ ¬ (hasP t.D c y=true/\(1:Int)<=1/\1<=t.M) from fun h=>h ⟨h2,om,om⟩,yn]
   rw[y5 (show ¬ ((0:Int) != 0)=true from sj)]
   by_cases h3:(a.length:Int)=t.M
   ·rw[y5 (show ¬ ((a.length:Int) != t.M)=true by simp[h3]),y5 (show ¬ ¬ (a.length:Int)=t.M from fun h=>h h3)]
    simp only[yh]
    have hl:a.length=(potAt t c y).A.length:=om
    have hz:(a.zip (potAt t c y).A).length=a.length:=sk
    have hch:=zda (ρ:=R_qb) (body:=fun i s=>(S_qb_b1 t a ((pix t.D c y:Int),0) i s).den) (a.zip (potAt t c y).A) (fun i=>tot (a.getD i default))
     (fun (s:Int×Int) x=>(i64.wrap (s.1+x.1),i64.wrap (s.2+x.2))) (c:=(zT,2)) (s0:=(0,0)) (fun i s hi=>by
      rw[hz] at hi
      simp only[S_qb_b1,Scr.den,z3n,obind,yh,show t.D.getD (pix t.D c y) default=potAt t c y from rfl,zpa hl hi]
      by_cases c1:tot (a.getD i default)
      ·rw[y5 (by rw[ye c1]; simp),y6 c1,z6 (by simp only[AllP,yw]; omega)]
      ·rw[y6 (by rw[yi c1]; rfl),y5 c1])
    rw[hz] at hch
    rw[hch]
    by_cases h4:rowT a=true
    ·have ha:=z7b.1 h4
     have s1:=z4q ha
     have s2:=z4q hp.2.2.2.1.1.2
     have hf:=zhp a (potAt t c y).A 0 0 hl
     rw[z7u,Int.zero_add,Int.zero_add,wrapId (n:=a.sum) om om,wrapId (n:=(potAt t c y).A.sum) om om] at hf
     rw[y6 (z3f.2 ha),hf,y5 (show ¬ ¬ rowT a=true from fun h=>h h4)]
     simp only[outM,show t.D.getD (pix t.D c y) default=potAt t c y from rfl]
     rw[ziq om]
     simp only[obind]
     rw[z6 (by simp only[AllP,yw]; omega),wrapId (n:=(potAt t c y).V-outV (potAt t c y)) om om,wrapId (n:=a.sum+(potAt t c y).A.sum) om om]
     unfold giveV
     by_cases c1:(potAt t c y).V-outV (potAt t c y)<a.sum
     ·rw[y6 (show decide (a.sum>(potAt t c y).V-outV (potAt t c y))=true from ye c1),y6 c1]
      rfl
     ·rw[y5 (show ¬ decide (a.sum>(potAt t c y).V-outV (potAt t c y))=true by rw[y7]; exact c1),y5 c1]
      by_cases c2:1000000000000000<(potAt t c y).A.sum+a.sum
      ·rw[y6 (ye om),y6 c2]
       rfl
      ·rw[y5 (by rw[y7]; omega),y5 c2,z50 h1.small hlt (h1.pos h2)]
       simp only[obind,show t.D.getD (pix t.D c y) default=potAt t c y from rfl]
       rw[zho (ρ:=R_qb) (G:=(potAt t c y).A) (a:=a) (body:=fun i s=>(S_qb_b2 a ((pix t.D c y:Int),0) (t.M,t.D) i s).den) hl (fun j s hj hs'=>by
        simp only[S_qb_b2,Scr.den,yh,show t.D.getD (pix t.D c y) default=potAt t c y from rfl]
        rw[z6 (by simp only[AllP,yw]; omega)]) hp.2.2.2.1.1.2 ha]
       simp only
       rw[z6 (by simp only[AllP,yw]; exact addN_length),z6 (by simp only[AllP,yw]; exact⟨by rw[addN_length]; omega,om,om,om⟩),z6 (by simp only[AllP,yw,yb]; omega)]
       rfl
    ·rw[y5 fun h=>h4 (z7b.2 (z3f.1 h)),y6 (show ¬ rowT a=true from h4)]
     rfl
   ·rw[y6 (show ((a.length:Int) != t.M)=true by simp[h3]),y6 (show ¬ (a.length:Int)=t.M from h3)]
  ·simp only[h2,y4z,yd,yz,yp]; rfl
 ·simp only[findM,h1,yd,yz]; rfl
theorem r13_Grant_eq (hs:Small t) (k:Int) (c:List UInt8) (y x:Int):F_q50 t k c y x=some (grantM t k c y x):=by
 simp only[F_q50,S_q50,Scr.den,r13_find_eq hs,obind,z8]
 unfold grantM
 by_cases h1:TOk t
 ·simp only[findM,show ¬ ¬ TOk t from fun h=>h h1,yn]
  by_cases h2:hasP t.D c y=true
  ·have hp:=h1.potAt h2
   have l1:=hp.2.2.2.1.1.1
   have e0:=h1.1
   simp only[show ¬ ¬ hasP t.D c y=true from fun h=>h h2,yn]
   by_cases h3:1<=k/\k<=t.M
   ·simp only[show ¬ ¬ (1<=k/\k<=t.M) from fun h=>h h3,show ¬ ¬ (hasP t.D c y=true/\1<=k/\k<=t.M) from fun h=>h ⟨h2,h3⟩,yn]
    rw[y5 (show ¬ ((0:Int) != 0)=true from sj)]
    by_cases h4:1<=x/\x<=1000000000000000
    ·rw[y5 (by simp only[yc,y7]; omega)]
     simp only[show ¬ ¬ (1<=x/\x<=1000000000000000) from fun h=>h h4,yn,wrapK (k:=k) om,yh,yu]
     have e2:t.M.toNat=(potAt t c y).A.length:=om
     rw[e2,z6 (by simp only[AllP,yw]; omega),z6 (by simp only[AllP,yw,y1w]; omega),z6 (by simp only[AllP,yw,yb,y1w]; omega)]
     show (F_qb t c y (oneHot (potAt t c y).A.length (k-1).toNat x)).bind _=_
     rw[zfz hs]
     unfold divideM
     simp only[show ¬ ¬ TOk t from fun h=>h h1,show ¬ ¬ hasP t.D c y=true from fun h=>h h2,show ¬ ¬ (((oneHot (potAt t c y).A.length (k-1).toNat x).length:Int)=t.M) from fun h=>h (by rw[oneHot_length]; exact l1),
      show ¬ ¬ rowT (oneHot (potAt t c y).A.length (k-1).toNat x)=true from fun h=>h (z7b.2 (oneHot_tot h4)),yn]
     rfl
    ·rw[y6 (by simp only[yc,y7]; omega)]
     simp only[h4,yd,yz]
   ·simp only[h3,and_false,yd,yz]; rfl
  ·simp only[h2,y4z,yd,yz,yp]; rfl
 ·simp only[findM,h1,yd,yz]; rfl
end Go.Proofs.YtdmddkbngmhepaaGreatDoor.J13
